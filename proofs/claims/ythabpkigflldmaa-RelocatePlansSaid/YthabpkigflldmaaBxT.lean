/- Check of boxes, the reference's: Check. -/
import Derived.Test.YthabpkigflldmaaBxS
namespace Go.Proofs.Ythabpkigflldmaa
open Go.RowKit

def rdupG (ps : List Box) (b : Box) : List Content → Bool
  | [] => false
  | c :: r => if (decide (1 < insideN b c.unit) || ps.any fun x => decide (0 < insideN x c.unit)) = true then true else rdupG ps b r
def rboxesG (ps : List Box) : Option Box → List Box → Int
  | _, [] => 0
  | p, b :: r => if faultE b ≠ 0 then faultE b else if (p.any fun q => decide (b.id ≤ q.id)) = true then 5 else if rdupG ps b b.cont = true then 6 else rboxesG (ps ++ [b]) (some b) r
def boxesR (l : List Box) : Int := if 128 < l.length then 8 else rboxesG [] none l

set_option maxRecDepth 10000 in
set_option maxHeartbeats 4000000 in
theorem rboxes_c (xs : List Box) (v : Value) (w : World) (B : Nat) (hB : B ≤ w.heap.size) (h : Boxes w B xs v) :
    Calls Try.prog 79 #[v] w fun e w' => e = .returned (.int .i64 (boxesR xs)) ∧ Below w.heap.size w w' := by
  obtain ⟨A, c, rfl, hc1, hc2, _⟩ := id h
  by_cases hl : 128 < xs.length
  · have HE := Lib.hid (show boxesR xs = 8 by simp [boxesR, hl])
    go_enter Try.func79, Try.ntmps79
    go_wp2
    go_ret
    exact ⟨ret_int HE.out.symm, Below.refl _ _⟩
  · have HF := Lib.hid (show boxesR xs = rboxesG (xs.take 0) (if 0 = 0 then none else xs[0 - 1]?) (xs.drop 0) by simp [boxesR, hl])
    go_enter Try.func79, Try.ntmps79
    go_wp2
    go_loopw [15] (fun i wr => ∃ k : Nat, k ≤ xs.length ∧ i = .int .i64 k ∧ Hid (boxesR xs = rboxesG (xs.take k) (if k = 0 then none else xs[k - 1]?) (xs.drop k)) ∧ Below w.heap.size w wr) (fun i _ => xs.length - (intOf i).toNat)
    case atStart => exact ⟨0, Nat.zero_le _, rfl, HF, Below.refl _ _⟩
    case round =>
      obtain ⟨k, hk, rfl, HS, hb⟩ := hrel
      clear HF
      have hs := hb.size
      by_cases hlt : k < xs.length
      · obtain ⟨x, hx⟩ := get_at xs hlt
        have HD := Lib.hid (drop_at hx)
        have HTK := Lib.hid (take_at hx)
        have hh := h.below boS (hb.mono hB)
        obtain ⟨b, off, vc, rfl, hbB, g0, g1, g2, g3, g4, hcv⟩ := Boxes.at_ hh hx
        have hbw : b < wr.heap.size := by omega
        have HX := Lib.hid hx
        clear hx
        obtain ⟨Ac, cc, rfl, hcc1, hcc2, _⟩ := id hcv
        obtain ⟨wo, rfl⟩ : ∃ wo : World, wo = wr := ⟨_, rfl⟩
        have bx : Below wo.heap.size wo (wo.alloc (.cells #[.int .i64 x.id, .int .i64 x.width, .int .i64 x.room, .int .i64 x.clim, .slice Ac x.cont.length cc] 101)) := (Below.refl _ _).alloc (Nat.le_refl _) _
        have HFA := Lib.hid (form_c x _ _ B (show B ≤ (wo.alloc (.cells #[.int .i64 x.id, .int .i64 x.width, .int .i64 x.room, .int .i64 x.clim, .slice Ac x.cont.length cc] 101)).heap.size by simp; omega) (hcv.below coS (bx.mono (by omega))))
        by_cases hf : faultE x = 0
        · rw [hf] at HFA
          have HFZ := Lib.hid hf
          clear hf
          go_wp2_with fail
          refine HFA.out.mono ?_
          rintro e w1 ⟨rfl, hb1⟩
          have hs1 := hb1.size
          simp only [World.size_alloc] at hs1
          have c0 := (hb1.cell (p := ⟨wo.heap.size, 0, none⟩) (by simp)).trans (show _ = some (.int .i64 x.id) by simp)
          have c1 := (hb1.cell (p := ⟨wo.heap.size, 1, none⟩) (by simp)).trans (show _ = some (.int .i64 x.width) by simp)
          have c2 := (hb1.cell (p := ⟨wo.heap.size, 2, none⟩) (by simp)).trans (show _ = some (.int .i64 x.room) by simp)
          have c3 := (hb1.cell (p := ⟨wo.heap.size, 3, none⟩) (by simp)).trans (show _ = some (.int .i64 x.clim) by simp)
          have c4 := (hb1.cell (p := ⟨wo.heap.size, 4, none⟩) (by simp)).trans (show _ = some (.slice Ac x.cont.length cc) by simp)
          have B1 := bx.trans (hb1.mono (by simp))
          have HCV0 := Lib.hid (fun (W : World) (hW : Below w.heap.size w W) => hcv.frame (w' := W) coS (fun b' (hb' : b' < B) => (hW.block b' (Nat.lt_of_lt_of_le hb' hB)).trans (hb.block b' (Nat.lt_of_lt_of_le hb' hB)).symm))
          have BW1 := hb.trans (B1.mono hs)
          have hlen1 : x.cont.length ≤ 32 := by
            rcases Nat.lt_or_ge 32 x.cont.length with h1 | h1
            · exfalso
              have := HFZ.out
              unfold faultE at this
              by_cases h2 : boxOk x = false
              · simp [h2] at this
              · simp [h2, h1] at this
            · omega
          by_cases hord : k = 0 ∨ ∃ y, xs[k - 1]? = some y ∧ y.id < x.id
          · have HG := Lib.hid (show boxesR xs = if rdupG (xs.take k) x x.cont = true then 6 else rboxesG (xs.take (k + 1)) (if k + 1 = 0 then none else xs[k + 1 - 1]?) (xs.drop (k + 1)) by
              rw [HS.out, HD.out, rboxesG, HFZ.out, HTK.out]
              rcases hord with h0 | ⟨y, hy, hyx⟩
              · subst h0; simp [HX.out]
              · by_cases h0 : k = 0
                · subst h0; simp [HX.out]
                · rw [if_neg h0, hy]
                  have : ¬ x.id ≤ y.id := by omega
                  simp [this, HX.out])
            have HDG := Lib.hid (show rdupG (xs.take k) x x.cont = rdupG (xs.take k) x (x.cont.drop 0) by simp)
            by_cases h0 : k = 0
            · subst h0
              have a0x : True := trivial
              clear hord
              go_wp2
              go_quiet (fail)
              go_wp2
              have BW := below_drewN BW1 nq
              clear a0x
              go_loopw [41] (fun i wr => ∃ j : Nat, j ≤ x.cont.length ∧ i = .int .i64 j ∧ Hid (rdupG (xs.take 0) x x.cont = rdupG (xs.take 0) x (x.cont.drop j)) ∧ Below (wo.heap.size + 1) w1 wr) (fun i _ => x.cont.length - (intOf i).toNat)
              case atStart => exact ⟨0, Nat.zero_le _, rfl, HDG, below_drewN (Below.refl _ _) nq⟩
              case round =>
                obtain ⟨j, hj, rfl, HJ, hbj'⟩ := hrel
                clear HDG
                have hbj := BW1.trans (hbj'.mono (by omega))
                have hsj := hbj'.size
                by_cases hltj : j < x.cont.length
                · obtain ⟨y, hy⟩ := get_at x.cont hltj
                  have HY := Lib.hid (drop_at hy)
                  obtain ⟨b7, off7, hA7, hbB7, q0, q1⟩ := Contents.at_ (HCV0.out _ hbj) hy
                  subst hA7
                  obtain ⟨wi, rfl⟩ : ∃ wi : World, wi = wr := ⟨_, rfl⟩
                  have hbw7 : b7 < wi.heap.size := by omega
                  have hlo : wo.heap.size < wi.heap.size := by omega
                  have r0 := (hbj'.cell (p := ⟨wo.heap.size, 0, none⟩) (Nat.lt_succ_self _)).trans c0
                  have r1 := (hbj'.cell (p := ⟨wo.heap.size, 1, none⟩) (Nat.lt_succ_self _)).trans c1
                  have r2 := (hbj'.cell (p := ⟨wo.heap.size, 2, none⟩) (Nat.lt_succ_self _)).trans c2
                  have r3 := (hbj'.cell (p := ⟨wo.heap.size, 3, none⟩) (Nat.lt_succ_self _)).trans c3
                  have r4 := (hbj'.cell (p := ⟨wo.heap.size, 4, none⟩) (Nat.lt_succ_self _)).trans c4
                  clear hy
                  have by1 : Below wi.heap.size wi (wi.alloc (.cells #[.int .i64 y.unit, .int .i64 y.thick] 138)) := (Below.refl _ _).alloc (Nat.le_refl _) _
                  have HIN := Lib.hid (inside_c y.unit x _ _ B (show B ≤ (wi.alloc (.cells #[.int .i64 y.unit, .int .i64 y.thick] 138)).heap.size by simp; omega) ((HCV0.out _ hbj).below coS (by1.mono (by omega))))
                  go_wp2_with fail
                  refine HIN.out.mono ?_
                  rintro e w2 ⟨rfl, hb2⟩
                  have hs2 := hb2.size
                  simp only [World.size_alloc] at hs2
                  have B2 := hbj'.trans ((by1.trans (hb2.mono (by simp))).mono (by omega))
                  have BB2 := hbj.trans ((by1.trans (hb2.mono (by simp))).mono (by omega))
                  by_cases htw : 1 < insideN x y.unit
                  · have HE := Lib.hid (show boxesR xs = 6 by rw [HG.out, HJ.out, HY.out, rdupG, if_pos (by simp [htw])] <;> (try simp))
                    have htw2 : decide ((1 : Int) < (insideN x y.unit : Int)) = true := by simp; omega
                    go_wp2
                    go_ret
                    exact ⟨ret_int HE.out.symm, BB2⟩
                  · have y0 := (hb2.cell (p := ⟨wi.heap.size, 0, none⟩) (by simp)).trans (show _ = some (.int .i64 y.unit) by simp)
                    have hyl : wi.heap.size < w2.heap.size := by omega
                    have HAN := Lib.hid (show (xs.take 0).any (fun z => decide (0 < insideN z y.unit)) = ((xs.take 0).drop 0).any (fun z => decide (0 < insideN z y.unit)) by simp)
                    go_wp2
                    go_loopw [54] (fun i wr => ∃ m : Nat, m ≤ 0 ∧ i = .int .i64 m ∧ Hid ((xs.take 0).any (fun z => decide (0 < insideN z y.unit)) = ((xs.take 0).drop m).any (fun z => decide (0 < insideN z y.unit))) ∧ Below w2.heap.size w2 wr) (fun i _ => 0 - (intOf i).toNat)
                    case atStart => exact ⟨0, Nat.zero_le _, rfl, HAN, Below.refl _ _⟩
                    case round =>
                      obtain ⟨m, hm, rfl, HMm, hbm⟩ := hrel
                      clear HAN
                      have hsm := hbm.size
                      have BBm := BB2.trans (hbm.mono (by omega))
                      by_cases hltm : m < 0
                      · exact absurd hltm (Nat.not_lt_zero _)
                      · have HE := Lib.hid (show rdupG (xs.take 0) x x.cont = rdupG (xs.take 0) x (x.cont.drop (j + 1)) by
                          rw [HJ.out, HY.out, rdupG, if_neg]
                          rw [HMm.out, List.drop_of_length_le (by simp; try omega)] <;> (try simp [htw]))
                        go_wp2
                        go_roundw
                        case rel => exact ⟨j + 1, by omega, by go_num, HE, B2.trans (hbm.mono (by omega))⟩
                        case measure => simp [intOf]; omega
                · have HE := Lib.hid (show boxesR xs = rboxesG (xs.take (0 + 1)) (if 0 + 1 = 0 then none else xs[0 + 1 - 1]?) (xs.drop (0 + 1)) by
                    rw [HG.out, HJ.out, List.drop_of_length_le (by omega)] <;> (try simp [rdupG]))
                  go_wp2
                  go_roundw
                  case rel => exact ⟨0 + 1, by omega, by go_num, HE, hbj⟩
                  case measure => simp [intOf]; omega
            · obtain ⟨y, hy, hyx⟩ : ∃ y, xs[k - 1]? = some y ∧ y.id < x.id := by
                rcases hord with h1 | h1
                · exact absurd h1 h0
                · exact h1
              obtain ⟨b6, off6, v6, hA6, hbB6, a0x, -⟩ := Boxes.at_ (h.below boS (BW1.mono hB)) hy
              injection hA6 with hA6
              injection hA6 with hA61 hA62
              subst hA61 hA62
              have hk1 : (1 : Int) ≤ k := by omega
              have hk2 : 0 < k := by omega
              have hyx2 : decide (x.id ≤ y.id) = false := by simpa using hyx
              have hyx3 : ¬ x.id ≤ y.id := by omega
              have hb1w : b < w1.heap.size := by omega
              clear hy hord
              go_wp2
              go_quiet (fail)
              go_wp2
              have BW := below_drewN BW1 nq
              clear a0x
              go_loopw [41] (fun i wr => ∃ j : Nat, j ≤ x.cont.length ∧ i = .int .i64 j ∧ Hid (rdupG (xs.take k) x x.cont = rdupG (xs.take k) x (x.cont.drop j)) ∧ Below (wo.heap.size + 1) w1 wr) (fun i _ => x.cont.length - (intOf i).toNat)
              case atStart => exact ⟨0, Nat.zero_le _, rfl, HDG, below_drewN (Below.refl _ _) nq⟩
              case round =>
                obtain ⟨j, hj, rfl, HJ, hbj'⟩ := hrel
                clear HDG
                have hbj := BW1.trans (hbj'.mono (by omega))
                have hsj := hbj'.size
                by_cases hltj : j < x.cont.length
                · obtain ⟨y, hy⟩ := get_at x.cont hltj
                  have HY := Lib.hid (drop_at hy)
                  obtain ⟨b7, off7, hA7, hbB7, q0, q1⟩ := Contents.at_ (HCV0.out _ hbj) hy
                  subst hA7
                  obtain ⟨wi, rfl⟩ : ∃ wi : World, wi = wr := ⟨_, rfl⟩
                  have hbw7 : b7 < wi.heap.size := by omega
                  have hlo : wo.heap.size < wi.heap.size := by omega
                  have r0 := (hbj'.cell (p := ⟨wo.heap.size, 0, none⟩) (Nat.lt_succ_self _)).trans c0
                  have r1 := (hbj'.cell (p := ⟨wo.heap.size, 1, none⟩) (Nat.lt_succ_self _)).trans c1
                  have r2 := (hbj'.cell (p := ⟨wo.heap.size, 2, none⟩) (Nat.lt_succ_self _)).trans c2
                  have r3 := (hbj'.cell (p := ⟨wo.heap.size, 3, none⟩) (Nat.lt_succ_self _)).trans c3
                  have r4 := (hbj'.cell (p := ⟨wo.heap.size, 4, none⟩) (Nat.lt_succ_self _)).trans c4
                  clear hy
                  have by1 : Below wi.heap.size wi (wi.alloc (.cells #[.int .i64 y.unit, .int .i64 y.thick] 138)) := (Below.refl _ _).alloc (Nat.le_refl _) _
                  have HIN := Lib.hid (inside_c y.unit x _ _ B (show B ≤ (wi.alloc (.cells #[.int .i64 y.unit, .int .i64 y.thick] 138)).heap.size by simp; omega) ((HCV0.out _ hbj).below coS (by1.mono (by omega))))
                  go_wp2_with fail
                  refine HIN.out.mono ?_
                  rintro e w2 ⟨rfl, hb2⟩
                  have hs2 := hb2.size
                  simp only [World.size_alloc] at hs2
                  have B2 := hbj'.trans ((by1.trans (hb2.mono (by simp))).mono (by omega))
                  have BB2 := hbj.trans ((by1.trans (hb2.mono (by simp))).mono (by omega))
                  by_cases htw : 1 < insideN x y.unit
                  · have HE := Lib.hid (show boxesR xs = 6 by rw [HG.out, HJ.out, HY.out, rdupG, if_pos (by simp [htw])] <;> (try simp))
                    have htw2 : decide ((1 : Int) < (insideN x y.unit : Int)) = true := by simp; omega
                    go_wp2
                    go_ret
                    exact ⟨ret_int HE.out.symm, BB2⟩
                  · have y0 := (hb2.cell (p := ⟨wi.heap.size, 0, none⟩) (by simp)).trans (show _ = some (.int .i64 y.unit) by simp)
                    have hyl : wi.heap.size < w2.heap.size := by omega
                    have HAN := Lib.hid (show (xs.take k).any (fun z => decide (0 < insideN z y.unit)) = ((xs.take k).drop 0).any (fun z => decide (0 < insideN z y.unit)) by simp)
                    go_wp2
                    go_loopw [54] (fun i wr => ∃ m : Nat, m ≤ k ∧ i = .int .i64 m ∧ Hid ((xs.take k).any (fun z => decide (0 < insideN z y.unit)) = ((xs.take k).drop m).any (fun z => decide (0 < insideN z y.unit))) ∧ Below w2.heap.size w2 wr) (fun i _ => k - (intOf i).toNat)
                    case atStart => exact ⟨0, Nat.zero_le _, rfl, HAN, Below.refl _ _⟩
                    case round =>
                      obtain ⟨m, hm, rfl, HMm, hbm⟩ := hrel
                      clear HAN
                      have hsm := hbm.size
                      have BBm := BB2.trans (hbm.mono (by omega))
                      by_cases hltm : m < k
                      · obtain ⟨z, hz⟩ := get_at xs (show m < xs.length by omega)
                        have HZ := Lib.hid (drop_at (show (xs.take k)[m]? = some z by rw [List.getElem?_take, if_pos hltm]; exact hz))
                        obtain ⟨b8, off8, v8, hA8, hbB8, z0, z1, z2, z3, z4, hcz⟩ := Boxes.at_ (h.below boS (BBm.mono hB)) hz
                        injection hA8 with hA8
                        injection hA8 with hA81 hA82
                        subst hA81 hA82
                        have hb8w : b < wr.heap.size := by omega
                        have hyl2 : wi.heap.size < wr.heap.size := by omega
                        have y1 := (hbm.cell (p := ⟨wi.heap.size, 0, none⟩) hyl).trans y0
                        obtain ⟨Az, cz, rfl, hz1, hz2, _⟩ := id hcz
                        clear hz
                        have bz1 : Below wr.heap.size wr (wr.alloc (.cells #[.int .i64 z.id, .int .i64 z.width, .int .i64 z.room, .int .i64 z.clim, .slice Az z.cont.length cz] 101)) := (Below.refl _ _).alloc (Nat.le_refl _) _
                        have HIZ := Lib.hid (inside_c y.unit z _ _ B (show B ≤ (wr.alloc (.cells #[.int .i64 z.id, .int .i64 z.width, .int .i64 z.room, .int .i64 z.clim, .slice Az z.cont.length cz] 101)).heap.size by simp; omega) (hcz.below coS (bz1.mono (by omega))))
                        go_wp2_with fail
                        refine HIZ.out.mono ?_
                        rintro e w3 ⟨rfl, hb3⟩
                        have B3 := hbm.trans ((bz1.trans (hb3.mono (by simp))).mono hsm)
                        by_cases hzi : 0 < insideN z y.unit
                        · have HE := Lib.hid (show boxesR xs = 6 by
                            have hcond : (decide (1 < insideN x y.unit) || (xs.take k).any fun z => decide (0 < insideN z y.unit)) = true := by rw [HMm.out, HZ.out] <;> (try simp [hzi])
                            rw [HG.out, HJ.out, HY.out, rdupG, if_pos hcond] <;> (try simp))
                          have hzi2 : decide ((0 : Int) < (insideN z y.unit : Int)) = true := by simpa using hzi
                          go_wp2
                          go_ret
                          exact ⟨ret_int HE.out.symm, BB2.trans (B3.mono (by omega))⟩
                        · have HE := Lib.hid (show (xs.take k).any (fun z => decide (0 < insideN z y.unit)) = ((xs.take k).drop (m + 1)).any (fun z => decide (0 < insideN z y.unit)) by rw [HMm.out, HZ.out]; simp [hzi])
                          have hzi2 : decide ((0 : Int) < (insideN z y.unit : Int)) = false := by simpa using hzi
                          go_wp2
                          go_roundw
                          case rel => exact ⟨m + 1, by omega, by go_num, HE, B3⟩
                          case measure => simp [intOf]; omega
                      · have HE := Lib.hid (show rdupG (xs.take k) x x.cont = rdupG (xs.take k) x (x.cont.drop (j + 1)) by
                          rw [HJ.out, HY.out, rdupG, if_neg]
                          rw [HMm.out, List.drop_of_length_le (by simp; try omega)] <;> (try simp [htw]))
                        go_wp2
                        go_roundw
                        case rel => exact ⟨j + 1, by omega, by go_num, HE, B2.trans (hbm.mono (by omega))⟩
                        case measure => simp [intOf]; omega
                · have HE := Lib.hid (show boxesR xs = rboxesG (xs.take (k + 1)) (if k + 1 = 0 then none else xs[k + 1 - 1]?) (xs.drop (k + 1)) by
                    rw [HG.out, HJ.out, List.drop_of_length_le (by omega)] <;> (try simp [rdupG]))
                  go_wp2
                  go_roundw
                  case rel => exact ⟨k + 1, by omega, by go_num, HE, hbj⟩
                  case measure => simp [intOf]; omega
          · have h0 : k ≠ 0 := fun h0 => hord (.inl h0)
            obtain ⟨y, hy⟩ := get_at xs (show k - 1 < xs.length by omega)
            have hyx : x.id ≤ y.id := by
              by_cases h1 : y.id < x.id
              · exact absurd (.inr ⟨y, hy, h1⟩) hord
              · omega
            have HE := Lib.hid (show boxesR xs = 5 by rw [HS.out, HD.out, rboxesG, HFZ.out, if_neg h0, hy]; simp [hyx])
            obtain ⟨b6, off6, v6, hA6, hbB6, a0, -⟩ := Boxes.at_ (h.below boS (BW1.mono hB)) hy
            injection hA6 with hA6
            injection hA6 with hA61 hA62
            subst hA61 hA62
            have hk1 : (1 : Int) ≤ k := by omega
            have hk2 : 0 < k := by omega
            have hb1w : b < w1.heap.size := by omega
            clear hy hord
            go_wp2
            go_quiet (fail)
            go_wp2
            go_ret
            exact ⟨ret_int HE.out.symm, below_drewN BW1 _⟩
        · have HE := Lib.hid (show boxesR xs = faultE x by rw [HS.out, HD.out, rboxesG, if_pos hf])
          have hf1 : (faultE x != 0) = true := by simpa using hf
          have hf2 : (faultE x == 0) = false := by simpa using hf
          go_wp2_with fail
          refine HFA.out.mono ?_
          rintro e w1 ⟨rfl, hb1⟩
          go_wp2
          go_ret
          exact ⟨ret_int HE.out.symm, (hb.trans (bx.mono (by omega))).trans (hb1.mono (by simp; omega))⟩
      · go_wp2
        go_ret
        exact ⟨ret_int (by rw [HS.out, List.drop_of_length_le (by omega)]; simp [rboxesG]), hb⟩
end Go.Proofs.Ythabpkigflldmaa
