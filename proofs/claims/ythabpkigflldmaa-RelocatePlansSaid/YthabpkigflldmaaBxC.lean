/- Check of boxes, the program's: Check. -/
import Derived.Test.YthabpkigflldmaaBxB
namespace Go.Proofs.Ythabpkigflldmaa
open Go.RowKit

theorem intKind : KeyKind Try.prog 3 (fun n : Int => Value.int .i64 n) := int_kind Try.underlying3
theorem zeroBool (w : World) : (zeroValue 4).run Try.prog w = .ok (.bool false) w := by kernel_rfl
def seenF (l : List Int) : Int → Option Bool := fun u => if u ∈ l then some true else none
theorem seenF_snoc (l : List Int) (u : Int) : seenF (l ++ [u]) = upd (seenF l) u true := by
  funext x
  unfold seenF upd
  by_cases h : x = u
  · simp [h]
  · simp [h]
theorem units_take {b : Box} {k : Nat} {x : Content} (h : b.cont[k]? = some x) : (unitsOf b).drop k = x.unit :: (unitsOf b).drop (k + 1) ∧ (unitsOf b).take (k + 1) = (unitsOf b).take k ++ [x.unit] := by
  have hu : (unitsOf b)[k]? = some x.unit := by simp [unitsOf, h]
  exact ⟨drop_at hu, take_at hu⟩
theorem units_len (b : Box) : (unitsOf b).length = b.cont.length := by simp [unitsOf]

set_option maxHeartbeats 4000000 in
theorem boxes_c (xs : List Box) (v : Value) (w : World) (B : Nat) (hB : B ≤ w.heap.size) (h : Boxes w B xs v) :
    Calls Try.prog 77 #[v] w fun e w' => e = .returned (.int .i64 (boxesE xs)) ∧ Below w.heap.size w w' := by
  obtain ⟨A, c, rfl, hc1, hc2, _⟩ := id h
  have hmm := @run_makeMap Try.prog
  by_cases hl : 128 < xs.length
  · have HE := Lib.hid (show boxesE xs = 8 by simp [boxesE, hl])
    go_enter Try.func77, Try.ntmps77
    go_wp2
    go_ret
    exact ⟨ret_int HE.out.symm, Below.refl _ _⟩
  · have HF := Lib.hid (show boxesE xs = boxesG [] (if 0 = 0 then none else xs[0 - 1]?) (xs.drop 0) by simp [boxesE, hl])
    go_enter Try.func77, Try.ntmps77
    go_wp2
    clear hmm
    go_loopw [15] (fun i wr => ∃ (k : Nat) (sn : List Int), k ≤ xs.length ∧ i = .int .i64 k ∧ Hid (boxesE xs = boxesG sn (if k = 0 then none else xs[k - 1]?) (xs.drop k)) ∧ MapF wr w.heap.size (fun n : Int => Value.int .i64 n) Value.bool (seenF sn) ∧ Below w.heap.size w wr) (fun i _ => xs.length - (intOf i).toNat)
    case atStart => exact ⟨0, [], Nat.zero_le _, rfl, HF, MapF.new w _ _ rfl, (Below.refl _ _).alloc (Nat.le_refl _) _⟩
    case round =>
      obtain ⟨k, sn, hk, rfl, HS, hm, hb⟩ := hrel
      clear HF
      have hs := hb.size
      have hml := hm.lt
      by_cases hlt : k < xs.length
      · obtain ⟨x, hx⟩ := get_at xs hlt
        have HD := Lib.hid (drop_at hx)
        have hh := h.below boS (hb.mono hB)
        obtain ⟨b, off, vc, rfl, hbB, g0, g1, g2, g3, g4, hcv⟩ := Boxes.at_ hh hx
        have hbw : b < wr.heap.size := by omega
        have HX := Lib.hid hx
        clear hx
        obtain ⟨Ac, cc, rfl, hcc1, hcc2, _⟩ := id hcv
        obtain ⟨wo, rfl⟩ : ∃ wo : World, wo = wr := ⟨_, rfl⟩
        have bx : Below wo.heap.size wo (wo.alloc (.cells #[.int .i64 x.id, .int .i64 x.width, .int .i64 x.room, .int .i64 x.clim, .slice Ac x.cont.length cc] 101)) := (Below.refl _ _).alloc (Nat.le_refl _) _
        have HFA := Lib.hid (fault_c x _ _ B (show B ≤ (wo.alloc (.cells #[.int .i64 x.id, .int .i64 x.width, .int .i64 x.room, .int .i64 x.clim, .slice Ac x.cont.length cc] 101)).heap.size by simp; omega) (hcv.below coS (bx.mono (by omega))))
        by_cases hf : faultE x = 0
        · rw [hf] at HFA
          have HFZ := Lib.hid hf
          clear hf
          go_wp2_with fail
          refine HFA.out.mono ?_
          rintro e w1 ⟨rfl, hb1⟩
          have hs1 := hb1.size
          simp only [World.size_alloc] at hs1
          have c0 := (hb1.cell (p := ⟨wo.heap.size, 0, none⟩) (by simp)).trans (show _ = some (.int .i64 x.id) by simp)
          have c4 := (hb1.cell (p := ⟨wo.heap.size, 4, none⟩) (by simp)).trans (show _ = some (.slice Ac x.cont.length cc) by simp)
          have B1 := bx.trans (hb1.mono (by simp))
          have hm1 := hm.below B1 hml
          have HCV0 := Lib.hid (fun (W : World) (hW : Below w.heap.size w W) => hcv.frame (w' := W) coS (fun b' (hb' : b' < B) => (hW.block b' (Nat.lt_of_lt_of_le hb' hB)).trans (hb.block b' (Nat.lt_of_lt_of_le hb' hB)).symm))
          have BW1 := hb.trans (B1.mono hs)
          have hlen1 : x.cont.length ≤ 32 := by
            rcases Nat.lt_or_ge 32 x.cont.length with h1 | h1
            · exfalso
              have := HFZ.out
              unfold faultE at this
              by_cases h2 : boxOk x = false
              · simp [h2] at this
              · simp [h2, h1] at this
            · omega
          by_cases hord : k = 0 ∨ ∃ y, xs[k - 1]? = some y ∧ y.id < x.id
          · -- the order is right
            have HG := Lib.hid (show boxesE xs = if dupG sn (unitsOf x) = true then 6 else boxesG (sn ++ unitsOf x) (if k + 1 = 0 then none else xs[k + 1 - 1]?) (xs.drop (k + 1)) by
              rw [HS.out, HD.out, boxesG, HFZ.out]
              rcases hord with h0 | ⟨y, hy, hyx⟩
              · subst h0; simp [HX.out]
              · by_cases h0 : k = 0
                · subst h0; simp [HX.out]
                · rw [if_neg h0, hy]
                  have : ¬ x.id ≤ y.id := by omega
                  simp [this, HX.out])
            have inner : ∀ (nq : Nat), True := fun _ => trivial
            have HDG := Lib.hid (show dupG sn (unitsOf x) = dupG (sn ++ (unitsOf x).take 0) ((unitsOf x).drop 0) by simp)
            by_cases h0 : k = 0
            · subst h0
              clear hord
              go_wp2
              go_quiet (fail)
              go_wp2
              have BW := below_drewN BW1 nq
              have hm2 : MapF (w1.drewN nq) w.heap.size (fun n : Int => Value.int .i64 n) Value.bool (seenF (sn ++ (unitsOf x).take 0)) := by rw [List.take_zero, List.append_nil]; exact hm1.frame rfl
              clear hm1
              go_loopw [41] (fun i wr => ∃ j : Nat, j ≤ x.cont.length ∧ i = .int .i64 j ∧ Hid (dupG sn (unitsOf x) = dupG (sn ++ (unitsOf x).take j) ((unitsOf x).drop j)) ∧ MapF wr w.heap.size (fun n : Int => Value.int .i64 n) Value.bool (seenF (sn ++ (unitsOf x).take j)) ∧ Below w.heap.size w wr) (fun i _ => x.cont.length - (intOf i).toNat)
              case atStart => exact ⟨0, Nat.zero_le _, rfl, HDG, hm2, BW⟩
              case round =>
                obtain ⟨j, hj, rfl, HJ, hmj, hbj⟩ := hrel
                clear HDG hm2 BW
                have hsj := hbj.size
                have hmjl := hmj.lt
                by_cases hltj : j < x.cont.length
                · obtain ⟨y, hy⟩ := get_at x.cont hltj
                  have HU := Lib.hid (units_take hy)
                  obtain ⟨b7, off7, hA7, hbB7, q0, q1⟩ := Contents.at_ (HCV0.out _ hbj) hy
                  subst hA7
                  have hbw7 : b7 < wr.heap.size := by omega
                  clear hy
                  have by1 : Below wr.heap.size wr (wr.alloc (.cells #[.int .i64 y.unit, .int .i64 y.thick] 138)) := (Below.refl _ _).alloc (Nat.le_refl _) _
                  have hmy := hmj.below by1 hmjl
                  by_cases hin : y.unit ∈ sn ++ (unitsOf x).take j
                  · have HE := Lib.hid (show boxesE xs = 6 by rw [HG.out, HJ.out, HU.out.1, dupG, if_pos hin]; simp)
                    have HV := Lib.hid (show seenF (sn ++ (unitsOf x).take j) y.unit = some true by simp only [seenF, if_pos hin])
                    clear hin
                    go_wp2_with (at_lookup; refine stop_intro ?_)
                    refine stop_elim ?_
                    refine wpList_look rfl (.tmp 45) (.tmp 47) 135 false rfl intKind Try.underlying135 (zeroBool _) hmy rfl y.unit rfl (.bool true) (by rw [HV.out]; rfl) ?_
                    go_wp2
                    go_ret
                    exact ⟨ret_int HE.out.symm, hbj.alloc hsj _⟩
                  · have HE := Lib.hid (show dupG sn (unitsOf x) = dupG (sn ++ (unitsOf x).take (j + 1)) ((unitsOf x).drop (j + 1)) by rw [HJ.out, HU.out.1, dupG, if_neg hin, HU.out.2, List.append_assoc])
                    have HV := Lib.hid (show seenF (sn ++ (unitsOf x).take j) y.unit = none by simp only [seenF, if_neg hin])
                    clear hin
                    go_wp2_with (at_lookup; refine stop_intro ?_)
                    refine stop_elim ?_
                    refine wpList_look rfl (.tmp 45) (.tmp 47) 135 false rfl intKind Try.underlying135 (zeroBool _) hmy rfl y.unit rfl (.bool false) (by rw [HV.out]; rfl) ?_
                    go_wp2_with (at_mapUpdate; refine stop_intro ?_)
                    refine stop_elim ?_
                    refine wpList_mapPut rfl (.tmp 49) (.tmp 51) (.const (.bool true)) 135 (.inl rfl) intKind Try.underlying135 hmy rfl y.unit rfl true rfl ?_
                    intro w7 hm7 hg7
                    have hb7 := (hbj.alloc hsj _).grown hg7 (by simp; omega) (fun k hk => by injection hk; omega)
                    rw [← seenF_snoc, List.append_assoc, ← HU.out.2] at hm7
                    go_wp2
                    go_roundw
                    case rel => exact ⟨j + 1, by omega, by go_num, HE, hm7, hb7⟩
                    case measure => simp [intOf]; omega
                · have HE := Lib.hid (show boxesE xs = boxesG (sn ++ unitsOf x) (if 0 + 1 = 0 then none else xs[0 + 1 - 1]?) (xs.drop (0 + 1)) by
                    rw [HG.out, HJ.out, List.drop_of_length_le (by rw [units_len]; omega)]; simp [dupG])
                  rw [List.take_of_length_le (by rw [units_len]; omega)] at hmj
                  go_wp2
                  go_roundw
                  case rel => exact ⟨0 + 1, _, by omega, by go_num, HE, hmj, hbj⟩
                  case measure => simp [intOf]; omega
            · obtain ⟨y, hy, hyx⟩ : ∃ y, xs[k - 1]? = some y ∧ y.id < x.id := by
                rcases hord with h1 | h1
                · exact absurd h1 h0
                · exact h1
              obtain ⟨b6, off6, v6, hA6, hbB6, a0, -⟩ := Boxes.at_ (h.below boS (BW1.mono hB)) hy
              injection hA6 with hA6
              injection hA6 with hA61 hA62
              subst hA61 hA62
              have hk1 : (1 : Int) ≤ k := by omega
              have hk2 : 0 < k := by omega
              have hyx2 : decide (x.id ≤ y.id) = false := by simpa using hyx
              have hyx3 : ¬ x.id ≤ y.id := by omega
              have hb1w : b < w1.heap.size := by omega
              clear hy hord
              go_wp2
              go_quiet (fail)
              go_wp2
              have BW := below_drewN BW1 nq
              have hm2 : MapF (w1.drewN nq) w.heap.size (fun n : Int => Value.int .i64 n) Value.bool (seenF (sn ++ (unitsOf x).take 0)) := by rw [List.take_zero, List.append_nil]; exact hm1.frame rfl
              clear hm1
              go_loopw [41] (fun i wr => ∃ j : Nat, j ≤ x.cont.length ∧ i = .int .i64 j ∧ Hid (dupG sn (unitsOf x) = dupG (sn ++ (unitsOf x).take j) ((unitsOf x).drop j)) ∧ MapF wr w.heap.size (fun n : Int => Value.int .i64 n) Value.bool (seenF (sn ++ (unitsOf x).take j)) ∧ Below w.heap.size w wr) (fun i _ => x.cont.length - (intOf i).toNat)
              case atStart => exact ⟨0, Nat.zero_le _, rfl, HDG, hm2, BW⟩
              case round =>
                obtain ⟨j, hj, rfl, HJ, hmj, hbj⟩ := hrel
                clear HDG hm2 BW
                have hsj := hbj.size
                have hmjl := hmj.lt
                by_cases hltj : j < x.cont.length
                · obtain ⟨y, hy⟩ := get_at x.cont hltj
                  have HU := Lib.hid (units_take hy)
                  obtain ⟨b7, off7, hA7, hbB7, q0, q1⟩ := Contents.at_ (HCV0.out _ hbj) hy
                  subst hA7
                  have hbw7 : b7 < wr.heap.size := by omega
                  clear hy
                  have by1 : Below wr.heap.size wr (wr.alloc (.cells #[.int .i64 y.unit, .int .i64 y.thick] 138)) := (Below.refl _ _).alloc (Nat.le_refl _) _
                  have hmy := hmj.below by1 hmjl
                  by_cases hin : y.unit ∈ sn ++ (unitsOf x).take j
                  · have HE := Lib.hid (show boxesE xs = 6 by rw [HG.out, HJ.out, HU.out.1, dupG, if_pos hin]; simp)
                    have HV := Lib.hid (show seenF (sn ++ (unitsOf x).take j) y.unit = some true by simp only [seenF, if_pos hin])
                    clear hin
                    go_wp2_with (at_lookup; refine stop_intro ?_)
                    refine stop_elim ?_
                    refine wpList_look rfl (.tmp 45) (.tmp 47) 135 false rfl intKind Try.underlying135 (zeroBool _) hmy rfl y.unit rfl (.bool true) (by rw [HV.out]; rfl) ?_
                    go_wp2
                    go_ret
                    exact ⟨ret_int HE.out.symm, hbj.alloc hsj _⟩
                  · have HE := Lib.hid (show dupG sn (unitsOf x) = dupG (sn ++ (unitsOf x).take (j + 1)) ((unitsOf x).drop (j + 1)) by rw [HJ.out, HU.out.1, dupG, if_neg hin, HU.out.2, List.append_assoc])
                    have HV := Lib.hid (show seenF (sn ++ (unitsOf x).take j) y.unit = none by simp only [seenF, if_neg hin])
                    clear hin
                    go_wp2_with (at_lookup; refine stop_intro ?_)
                    refine stop_elim ?_
                    refine wpList_look rfl (.tmp 45) (.tmp 47) 135 false rfl intKind Try.underlying135 (zeroBool _) hmy rfl y.unit rfl (.bool false) (by rw [HV.out]; rfl) ?_
                    go_wp2_with (at_mapUpdate; refine stop_intro ?_)
                    refine stop_elim ?_
                    refine wpList_mapPut rfl (.tmp 49) (.tmp 51) (.const (.bool true)) 135 (.inl rfl) intKind Try.underlying135 hmy rfl y.unit rfl true rfl ?_
                    intro w7 hm7 hg7
                    have hb7 := (hbj.alloc hsj _).grown hg7 (by simp; omega) (fun k hk => by injection hk; omega)
                    rw [← seenF_snoc, List.append_assoc, ← HU.out.2] at hm7
                    go_wp2
                    go_roundw
                    case rel => exact ⟨j + 1, by omega, by go_num, HE, hm7, hb7⟩
                    case measure => simp [intOf]; omega
                · have HE := Lib.hid (show boxesE xs = boxesG (sn ++ unitsOf x) (if k + 1 = 0 then none else xs[k + 1 - 1]?) (xs.drop (k + 1)) by
                    rw [HG.out, HJ.out, List.drop_of_length_le (by rw [units_len]; omega)]; simp [dupG])
                  rw [List.take_of_length_le (by rw [units_len]; omega)] at hmj
                  go_wp2
                  go_roundw
                  case rel => exact ⟨k + 1, _, by omega, by go_num, HE, hmj, hbj⟩
                  case measure => simp [intOf]; omega
          · have h0 : k ≠ 0 := fun h0 => hord (.inl h0)
            obtain ⟨y, hy⟩ := get_at xs (show k - 1 < xs.length by omega)
            have hyx : x.id ≤ y.id := by
              by_cases h1 : y.id < x.id
              · exact absurd (.inr ⟨y, hy, h1⟩) hord
              · omega
            have HE := Lib.hid (show boxesE xs = 5 by rw [HS.out, HD.out, boxesG, HFZ.out, if_neg h0, hy]; simp [hyx])
            obtain ⟨b6, off6, v6, hA6, hbB6, a0, -⟩ := Boxes.at_ (h.below boS (BW1.mono hB)) hy
            injection hA6 with hA6
            injection hA6 with hA61 hA62
            subst hA61 hA62
            have hk1 : (1 : Int) ≤ k := by omega
            have hk2 : 0 < k := by omega
            have hb1w : b < w1.heap.size := by omega
            clear hy hord
            go_wp2
            go_quiet (fail)
            go_wp2
            go_ret
            exact ⟨ret_int HE.out.symm, below_drewN BW1 _⟩
        · have HE := Lib.hid (show boxesE xs = faultE x by rw [HS.out, HD.out, boxesG, if_pos hf])
          have hf1 : (faultE x != 0) = true := by simpa using hf
          have hf2 : (faultE x == 0) = false := by simpa using hf
          go_wp2_with fail
          refine HFA.out.mono ?_
          rintro e w1 ⟨rfl, hb1⟩
          go_wp2
          go_ret
          exact ⟨ret_int HE.out.symm, (hb.trans (bx.mono (by omega))).trans (hb1.mono (by simp; omega))⟩
      · go_wp2
        go_ret
        exact ⟨ret_int (by rw [HS.out, List.drop_of_length_le (by omega)]; simp [boxesG]), hb⟩
end Go.Proofs.Ythabpkigflldmaa
