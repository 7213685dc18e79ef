/- check of the house. -/
import Derived.Test.YthabpkigflldmaaHse
import Derived.IntWalk
import Derived.RegionTactic
namespace Go.Proofs.Ythabpkigflldmaa
open Go.RowKit

theorem idxG_cases {α : Type} (p : α → Bool) : ∀ (l : List α) (i : Nat), (idxG p l i = -1 ∧ ∀ x ∈ l, p x = false) ∨ ∃ k x, idxG p l i = ((i + k : Nat) : Int) ∧ l[k]? = some x ∧ p x = true ∧ ∀ (j : Nat) y, j < k → l[j]? = some y → p y = false
  | [], i => .inl ⟨rfl, by simp⟩
  | x :: r, i => by
    unfold idxG
    cases h : p x
    · rcases idxG_cases p r (i + 1) with ⟨h1, h2⟩ | ⟨k, y, h1, h2, h3, h4⟩
      · exact .inl ⟨by simpa [h] using h1, by simpa [h] using h2⟩
      · refine .inr ⟨k + 1, y, ?_, by simpa using h2, h3, fun j z hj hz => ?_⟩
        · simp only [Bool.false_eq_true, if_false]; rw [h1]; congr 1; omega
        · rcases j with _ | j
          · simp at hz; subst hz; exact h
          · exact h4 j z (by omega) (by simpa using hz)
    · exact .inr ⟨0, x, by simp, rfl, h, fun j y hj => by omega⟩
theorem idxF_cases {α : Type} (p : α → Bool) (l : List α) : (idxF p l = -1 ∧ ∀ x ∈ l, p x = false) ∨ ∃ (k : Nat) (x : α), idxF p l = (k : Int) ∧ l[k]? = some x ∧ p x = true ∧ ∀ (j : Nat) y, j < k → l[j]? = some y → p y = false := by
  rcases idxG_cases p l 0 with h | ⟨k, x, h1, h2⟩
  · exact .inl h
  · exact .inr ⟨k, x, h1.trans (by simp), h2⟩
def fitsAt (ls : List Shelf) (ss : List Int) (id : Int) (b : Box) : Option (List Int) :=
  match ls[(shIx ls id).toNat]? with
  | none => none
  | some s => if s.len < ss.getD (shIx ls id).toNat 0 + b.width ∨ b.clim ≠ s.clim then none else some (ss.set (shIx ls id).toNat (ss.getD (shIx ls id).toNat 0 + b.width))
def sumsG (ls : List Shelf) : List Int → List (Int × Box) → Bool
  | _, [] => true
  | ss, (id, b) :: r => match fitsAt ls ss id b with
    | none => false
    | some t => sumsG ls t r
def notHere (ls : List Shelf) (at_ : List Int) : Bool := at_.any fun id => decide (shIx ls id < 0)
def fitsE (b : Bool) : Int := if b then 0 else 11
def checkE (ls : List Shelf) (bs : List Box) (at_ : List Int) : Int :=
  if at_.length ≠ bs.length then 10 else if notHere ls at_ = true then 7 else fitsE (sumsG ls (List.replicate ls.length 0) (at_.zip bs))
theorem faultE_ok {b : Box} (h : faultE b = 0) : boxOk b = true ∧ b.cont.length ≤ 32 := by
  unfold faultE at h
  cases h2 : boxOk b
  · simp [h2] at h
  · refine ⟨rfl, ?_⟩
    by_cases h1 : 32 < b.cont.length
    · simp [h2, h1] at h
    · omega
theorem boxesG_ok : ∀ (l : List Box) (sn : List Int) (p : Option Box), boxesG sn p l = 0 → ∀ b ∈ l, faultE b = 0
  | [], _, _, _ => by simp
  | b :: r, sn, p, h => by
    unfold boxesG at h
    by_cases h1 : faultE b ≠ 0
    · rw [if_pos h1] at h; exact absurd h h1
    · rw [if_neg h1] at h
      split at h
      · cases h
      · split at h
        · cases h
        · intro x hx
          rcases List.mem_cons.1 hx with rfl | hx
          · omega
          · exact boxesG_ok r _ _ h x hx
theorem boxes_ok {l : List Box} (h : boxesE l = 0) : l.length ≤ 128 ∧ ∀ b ∈ l, boxOk b = true ∧ b.cont.length ≤ 32 := by
  unfold boxesE at h
  split at h
  · cases h
  · exact ⟨by omega, fun b hb => faultE_ok (boxesG_ok l _ _ h b hb)⟩
theorem box_width {b : Box} (h : boxOk b = true) : 1 ≤ b.width ∧ b.width ≤ 10000 := by
  simp only [boxOk, inB, Bool.and_eq_true, decide_eq_true_eq] at h
  omega
theorem start_ok {ls : List Shelf} {bs : List Box} (h : startE ls bs = 0) : shelvesE ls = 0 ∧ boxesE bs = 0 ∧ sizeF ls.length bs.length ≤ 4096 := by
  unfold startE at h
  split at h
  · cases h
  · rename_i h1
    split at h
    · cases h
    · rename_i h2
      exact ⟨by omega, by omega, by omega⟩

theorem Ints.own_at {w : World} {base : Nat} {xs : List Int} {g n cap : Nat} (h : OwnRep 1 (flat intEnc) 3 base w xs (.slice (some ⟨g, 0, none⟩) n cap)) {i : Nat} {x : Int} (hx : xs[i]? = some x) : w.cell? ⟨g, i, none⟩ = some (.int .i64 x) ∧ w.frozen? ⟨g, i, none⟩ = false := by
  obtain ⟨g', cap', hv, _, _, _, _, _, hc⟩ := h.open_ inS (by have := lt_of_at hx; omega)
  injection hv with hv1
  injection hv1 with hv1
  injection hv1 with hv1
  subst hv1
  have := hc i x 0 _ hx rfl
  simpa using this
theorem Ints.own_set {w : World} {base : Nat} {xs : List Int} {g n cap : Nat} (h : OwnRep 1 (flat intEnc) 3 base w xs (.slice (some ⟨g, 0, none⟩) n cap)) {i : Nat} {x : Int} (hx : xs[i]? = some x) (y : Int) : OwnRep 1 (flat intEnc) 3 base (w.setCell ⟨g, i, none⟩ (.int .i64 y)) (xs.set i y) (.slice (some ⟨g, 0, none⟩) n cap) := by
  have := OwnRep.set_ inS h (i := i) (j := 0) (x := x) (x' := y) (u := .int .i64 y) hx (by decide) rfl
  simpa using this
theorem madeInts (n : Nat) : (madeCells (Value.int .i64 0).cells (n * 1)).toList = ((List.replicate n (0 : Int)).map intEnc).flatten := by
  rw [Nat.mul_one, show (Value.int .i64 0).cells = #[.int .i64 0] from rfl, toList_madeCells_one, List.map_replicate]
  induction n with
  | zero => rfl
  | succ n ih => rw [List.replicate_succ, List.replicate_succ, List.flatten_cons, ← ih]; rfl
abbrev houseC (vl vb : Value) : Obj := .cells #[vl, vb] 66
set_option maxRecDepth 10000 in
set_option maxHeartbeats 4000000 in
theorem check_c (ls : List Shelf) (bs : List Box) (at_ : List Int) (vl vb va : Value) (w : World) (B : Nat) (hB : B ≤ w.heap.size) (hl : Shelves w B ls vl) (hbx : Boxes w B bs vb) (ha : Ints w B at_ va) (hst : startE ls bs = 0) :
    Calls Try.prog 55 #[.agg #[vl, vb], va] w fun e w' => e = .returned (.int .i64 (checkE ls bs at_)) ∧ Below w.heap.size w w' := by
  obtain ⟨hok1, hok2, -⟩ := start_ok hst
  have h32 := shelves_len hok1
  obtain ⟨h128, hbok⟩ := boxes_ok hok2
  have HBO := Lib.hid hbok
  clear hst hok1 hok2 hbok
  obtain ⟨A, c, rfl, hc1, hc2, _⟩ := id hl
  obtain ⟨A', c', rfl, hd1, hd2, _⟩ := id hbx
  obtain ⟨A2, c2, rfl, he1, he2, _⟩ := id ha
  have b0 : Below w.heap.size w (w.alloc (houseC (.slice A ls.length c) (.slice A' bs.length c'))) := (Below.refl _ _).alloc (Nat.le_refl _) _
  by_cases hlen : at_.length = bs.length
  · have HL := Lib.hid hlen
    have l1 : ((at_.length : Int) != (bs.length : Int)) = false := by simp [hlen]
    have l2 : ((at_.length : Int) == (bs.length : Int)) = true := by simp [hlen]
    have l3 : at_.length ≤ bs.length := by omega
    clear hlen
    have HSH := Lib.hid (fun (u : Int) (W : World) (hW : Below w.heap.size w W) => hshelf_c u ls (.slice A ls.length c) (.slice A' bs.length c') W B (Nat.le_trans hB hW.size) (hl.below shS (hW.mono hB)) ⟨_, _, _, rfl⟩)
    have HN0 := Lib.hid (show notHere ls at_ = notHere ls (at_.drop 0) by simp)
    go_enter Try.func55, Try.ntmps55
    go_wp2
    clear l1 l2
    go_loopw [19] (fun i wr => ∃ k : Nat, k ≤ at_.length ∧ i = .int .i64 k ∧ Hid (notHere ls at_ = notHere ls (at_.drop k)) ∧ Below (w.heap.size + 1) (w.alloc (houseC (.slice A ls.length c) (.slice A' bs.length c'))) wr) (fun i _ => at_.length - (intOf i).toNat)
    case atStart => exact ⟨0, Nat.zero_le _, rfl, HN0, Below.refl _ _⟩
    case round =>
      obtain ⟨k, hk, rfl, HN, hb⟩ := hrel
      clear HN0
      have hs := hb.size
      simp only [World.size_alloc] at hs
      have hwlt : w.heap.size < wr.heap.size := by omega
      have B1 := b0.trans (hb.mono (by omega))
      have z0 := (hb.cell (p := ⟨w.heap.size, 0, none⟩) (by simp)).trans (show _ = some (.slice A ls.length c) by simp)
      have z1 := (hb.cell (p := ⟨w.heap.size, 1, none⟩) (by simp)).trans (show _ = some (.slice A' bs.length c') by simp)
      by_cases hlt : k < at_.length
      · obtain ⟨x, hx⟩ := get_at at_ hlt
        have HD := Lib.hid (drop_at hx)
        obtain ⟨b, off, rfl, hbB, g0⟩ := Ints.at_ (ha.below inS (B1.mono hB)) hx
        have hbw : b < wr.heap.size := by omega
        clear hx
        go_wp2_with fail
        refine (HSH.out x wr B1).mono ?_
        rintro e w1 ⟨rfl, hb1⟩
        have b1 := hb.trans (hb1.mono (by omega))
        by_cases hneg : shIx ls x < 0
        · have HE := Lib.hid (show checkE ls bs at_ = 7 by
            have : notHere ls at_ = true := by rw [HN.out, HD.out]; simp [notHere, hneg]
            simp [checkE, HL.out, this])
          go_wp2
          go_ret
          exact ⟨ret_int HE.out.symm, b0.trans (b1.mono (by omega))⟩
        · have HE := Lib.hid (show notHere ls at_ = notHere ls (at_.drop (k + 1)) by rw [HN.out, HD.out]; simp [notHere, hneg])
          go_wp2
          go_roundw
          case rel => exact ⟨k + 1, by omega, by go_num, HE, b1⟩
          case measure => simp [intOf]; omega
      · have HNN := Lib.hid (show notHere ls at_ = false by rw [HN.out, List.drop_of_length_le (by omega)]; rfl)
        obtain ⟨wo, rfl⟩ : ∃ wo : World, wo = wr := ⟨_, rfl⟩
        obtain ⟨i0, hi, hi0, hi1, hi2⟩ := info_parts (P := Try.prog) (e := 3) (z := .int .i64 0) (size := 1) (bytes := 8) (by kernel_rfl)
        go_wp2_with (at_make; refine stop_intro ?_)
        refine stop_elim ?_
        refine wpList_make_full _ rfl _ _ 26 rfl wo.heap.size 3 i0 (.int .i64 0) 1 Try.underlying26 hi hi0 hi1 _ _ _ _ ls.length rfl rfl rfl rfl (by rw [hi2]; omega) (by unfold maxLen; omega) (Nat.le_refl _) ?_
        intro w5 hrow5 hg5
        have hown5 : OwnRep 1 (flat intEnc) 3 wo.heap.size w5 (List.replicate ls.length 0) (.slice (some ⟨wo.heap.size, 0, none⟩) ls.length ls.length) := OwnRep.of_rows (by rw [← madeInts, List.length_replicate]; exact hrow5)
        have hb5 : Below wo.heap.size wo w5 := (Below.refl _ _).grown hg5 (Nat.le_refl _) (fun k hk => by cases hk)
        have hs5 := hb5.size
        have b5 := hb.trans (hb5.mono (by omega))
        have HQ0 := Lib.hid (show checkE ls bs at_ = fitsE (sumsG ls (List.replicate ls.length 0) ((at_.zip bs).drop 0)) by simp [checkE, HL.out, HNN.out])
        have HR0 := Lib.hid (show ∀ x ∈ List.replicate ls.length (0 : Int), 0 ≤ x ∧ x ≤ 10000 * ((0 : Nat) : Int) by intro x hx; have := List.eq_of_mem_replicate hx; omega)
        have hln0 : (List.replicate ls.length (0 : Int)).length = ls.length := List.length_replicate
        have HLN0 := Lib.hid hln0
        clear hln0 hrow5 hg5 hi hi0 hi1 hi2 HN
        go_wp2
        go_loopw [34] (fun i wr => ∃ (k : Nat) (ss : List Int), k ≤ at_.length ∧ i = .int .i64 k ∧ Hid (ss.length = ls.length) ∧ Hid (∀ x ∈ ss, 0 ≤ x ∧ x ≤ 10000 * (k : Int)) ∧ Hid (checkE ls bs at_ = fitsE (sumsG ls ss ((at_.zip bs).drop k))) ∧ OwnRep 1 (flat intEnc) 3 wo.heap.size wr ss (.slice (some ⟨wo.heap.size, 0, none⟩) ls.length ls.length) ∧ Below (w.heap.size + 1) (w.alloc (houseC (.slice A ls.length c) (.slice A' bs.length c'))) wr) (fun i _ => at_.length - (intOf i).toNat)
        case atStart => exact ⟨0, _, Nat.zero_le _, rfl, HLN0, HR0, HQ0, hown5, b5⟩
        case round =>
          obtain ⟨k, ss, hk, rfl, HLN, HR, HQ, hown, hb⟩ := hrel
          clear HLN0 HR0 HQ0 hown5 b5 hb5
          have hs := hb.size
          simp only [World.size_alloc] at hs
          have hwlt2 : w.heap.size < wr.heap.size := by omega
          have B1 := b0.trans (hb.mono (by omega))
          have hgl := (hown.own_lt wo.heap.size rfl).2
          clear z0 z1
          by_cases hlt : k < at_.length
          · obtain ⟨x, hx⟩ := get_at at_ hlt
            obtain ⟨y, hy⟩ := get_at bs (show k < bs.length by omega)
            have HD := Lib.hid (drop_at (show (at_.zip bs)[k]? = some (x, y) by simp [List.getElem?_zip_eq_some, hx, hy]))
            have hex : ¬ shIx ls x < 0 := by
              have := HNN.out
              unfold notHere at this
              rw [List.any_eq_false] at this
              simpa using this x (List.mem_of_getElem? hx)
            obtain ⟨m, s, hm, hs0, -, -⟩ : ∃ (m : Nat) (s : Shelf), shIx ls x = (m : Int) ∧ ls[m]? = some s ∧ idS x s = true ∧ ∀ (j : Nat) y, j < m → ls[j]? = some y → idS x y = false := by
              rcases idxF_cases (idS x) ls with ⟨h1, _⟩ | h1
              · exact absurd (show shIx ls x < 0 by unfold shIx; omega) hex
              · exact h1
            have hml : m < ls.length := lt_of_at hs0
            obtain ⟨q, hq⟩ := get_at ss (show m < ss.length by have := HLN.out; omega)
            have HFA := Lib.hid (show fitsAt ls ss x y = if s.len < q + y.width ∨ y.clim ≠ s.clim then none else some (ss.set m (q + y.width)) by
              unfold fitsAt
              rw [hm]
              simp only [Int.toNat_natCast, hs0, List.getD_eq_getElem?_getD, hq, Option.getD_some])
            obtain ⟨hq1, hq2⟩ := HR.out q (List.mem_of_getElem? hq)
            obtain ⟨hy1, hy2⟩ := box_width (HBO.out y (List.mem_of_getElem? hy)).1
            have hq3 : q ≤ 1280000 := by omega
            obtain ⟨b, off, rfl, hbB, g0⟩ := Ints.at_ (ha.below inS (B1.mono hB)) hx
            have hbw : b < wr.heap.size := by omega
            have HSX := Lib.hid (HSH.out x wr B1)
            rw [hm] at HSX
            have HQQ := Lib.hid hq
            clear hx hm hex hq
            have z0 := (hb.cell (p := ⟨w.heap.size, 0, none⟩) (by simp)).trans (show _ = some (.slice A ls.length c) by simp)
            have z1 := (hb.cell (p := ⟨w.heap.size, 1, none⟩) (by simp)).trans (show _ = some (.slice A' bs.length c') by simp)
            go_wp2_with fail
            clear z0 z1
            refine HSX.out.mono ?_
            rintro e w1 ⟨rfl, hb1⟩
            have b1 := hb.trans (hb1.mono (by omega))
            have hs1 := hb1.size
            have BW1 := b0.trans (b1.mono (by omega))
            have hown1 := hown.keep (w' := w1) (fun b hb' => hb1.block b (hown.own_lt b hb').2)
            obtain ⟨p0, p1⟩ := Ints.own_at hown1 HQQ.out
            obtain ⟨by_, offy, vy, hAy, hbBy, -, y1, -, y3, -⟩ := Boxes.at_ (hbx.below boS (BW1.mono hB)) hy
            obtain ⟨bs_, offs, hAs, hbBs, -, -, s2, s3⟩ := Shelves.at_ (hl.below shS (BW1.mono hB)) hs0
            subst hAy hAs
            have hyl : by_ < w1.heap.size := by omega
            have hsl : bs_ < w1.heap.size := by omega
            have hgl1 : wo.heap.size < w1.heap.size := by omega
            have hne1 : by_ ≠ wo.heap.size := by omega
            have hne2 : bs_ ≠ wo.heap.size := by omega
            have hne3 : w.heap.size ≠ wo.heap.size := by omega
            have z0 := (b1.cell (p := ⟨w.heap.size, 0, none⟩) (by simp)).trans (show _ = some (.slice (some ⟨bs_, offs, none⟩) ls.length c) by simp)
            have z1 := (b1.cell (p := ⟨w.heap.size, 1, none⟩) (by simp)).trans (show _ = some (.slice (some ⟨by_, offy, none⟩) bs.length c') by simp)
            have hmi0 : (0 : Int) ≤ (m : Int) := by omega
            have hmi1 : (m : Int) < (ls.length : Int) := by omega
            have hki1 : (k : Int) < (bs.length : Int) := by omega
            have hwr : IntKind.i64.wrap (q + y.width) = q + y.width := IntWalk.i64_in _ (by omega)
            clear hs0 hy
            go_wp2
            go_region
            go_wp2
            have b2 := b1.setCell (p := ⟨wo.heap.size, m, none⟩) (by simp; omega) (.int .i64 (q + y.width))
            have hown2 := Ints.own_set hown1 HQQ.out (q + y.width)
            have HLN2 := Lib.hid (show (ss.set m (q + y.width)).length = ls.length by rw [List.length_set]; exact HLN.out)
            have HR2 := Lib.hid (show ∀ x ∈ ss.set m (q + y.width), 0 ≤ x ∧ x ≤ 10000 * ((k + 1 : Nat) : Int) by
              intro x hx
              rcases List.mem_or_eq_of_mem_set hx with h | rfl
              · have := HR.out x h; omega
              · omega)
            by_cases hbig : s.len < q + y.width
            · have HE := Lib.hid (show checkE ls bs at_ = 11 by rw [HQ.out, HD.out]; simp [sumsG, HFA.out, hbig, fitsE])
              go_quiet (fail)
              go_wp2
              go_ret
              exact ⟨ret_int HE.out.symm, below_drewN (below_drewN (b0.trans (b2.mono (Nat.le_succ w.heap.size))) 1) _⟩
            · by_cases hcl : y.clim = s.clim
              · have HE := Lib.hid (show checkE ls bs at_ = fitsE (sumsG ls (ss.set m (q + y.width)) ((at_.zip bs).drop (k + 1))) by rw [HQ.out, HD.out]; simp [sumsG, HFA.out, hbig, hcl])
                have hcl1 : (y.clim != s.clim) = false := by simp [hcl]
                go_quiet (fail)
                go_wp2
                go_roundw
                case rel => exact ⟨k + 1, _, by omega, by go_num, HLN2, HR2, HE, hown2.keep (fun _ _ => rfl), below_drewN b2 _⟩
                case measure => simp [intOf]; omega
              · have HE := Lib.hid (show checkE ls bs at_ = 11 by rw [HQ.out, HD.out]; simp [sumsG, HFA.out, hcl, fitsE])
                have hcl1 : (y.clim != s.clim) = true := by simpa using hcl
                go_quiet (fail)
                go_wp2
                go_ret
                exact ⟨ret_int HE.out.symm, below_drewN (b0.trans (b2.mono (Nat.le_succ w.heap.size))) _⟩
          · have HE := Lib.hid (show checkE ls bs at_ = 0 by rw [HQ.out, List.drop_of_length_le (by simp; omega)]; rfl)
            go_wp2
            go_ret
            exact ⟨ret_int HE.out.symm, B1⟩
  · have HE := Lib.hid (show checkE ls bs at_ = 10 by simp [checkE, hlen])
    have l1 : ((at_.length : Int) != (bs.length : Int)) = true := by simpa using fun h => hlen (by omega)
    have l2 : ((at_.length : Int) == (bs.length : Int)) = false := by simpa using fun h => hlen (by omega)
    go_enter Try.func55, Try.ntmps55
    go_wp2
    go_ret
    exact ⟨ret_int HE.out.symm, b0⟩
end Go.Proofs.Ythabpkigflldmaa
