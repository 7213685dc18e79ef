/- Apply of the program. -/
import Derived.Test.YthabpkigflldmaaApl
namespace Go.Proofs.Ythabpkigflldmaa
open Go.RowKit

section
variable (ls : List Shelf) (bs : List Box)
def failF (at_ : List Int) (i : Nat) : List Carry → Int × Int
  | [] => (-1, 0)
  | c :: r => if applyE ls bs at_ c ≠ 0 then ((i : Int), applyE ls bs at_ c) else failF (movedF bs at_ c) (i + 1) r
def finalF (at_ : List Int) : List Carry → List Int
  | [] => at_
  | c :: r => finalF (movedF bs at_ c) r
end
theorem moved_at {bs : List Box} {at_ : List Int} {c : Carry} {k : Nat} (h : bxIx bs c.box = (k : Int)) : movedF bs at_ c = at_.set k c.to_ := by simp [movedF, h]
theorem apply_bad (ls : List Shelf) (bs : List Box) (at_ : List Int) (c : Carry) (vl vb va : Value) (w : World) (B : Nat) (hB : B ≤ w.heap.size) (hl : Shelves w B ls vl) (hbx : Boxes w B bs vb) (ha : Ints w B at_ va) (hst : startE ls bs = 0) (hr : Right ls bs at_) (h : applyE ls bs at_ c ≠ 0) :
    Calls Try.prog 63 #[.agg #[vl, vb], va, .agg #[.int .i64 c.box, .int .i64 c.from_, .int .i64 c.to_]] w fun e w' => e = .returned (.tuple #[.slice none 0 0, .int .i64 (applyE ls bs at_ c)]) ∧ Below w.heap.size w w' := by
  by_cases h1 : bxIx bs c.box < 0
  · rw [show applyE ls bs at_ c = 7 by simp [applyE, h1]]
    exact apply_a ls bs at_ c vl vb va w B hB hl hbx ha hst hr h1
  · obtain ⟨k, b, hk, hb, _⟩ := bxIx_some h1
    by_cases h2 : shIx ls c.to_ < 0
    · rw [show applyE ls bs at_ c = 7 by simp [applyE, h2]]
      exact apply_b ls bs at_ c vl vb va w B hB hl hbx ha hst hr k hk h2
    · have hkl := lt_of_at hb
      obtain ⟨q, hq⟩ := get_at at_ (show k < at_.length by rw [hr.1]; exact hkl)
      have hg : at_.getD (bxIx bs c.box).toNat 0 = q := by simp [hk, List.getD_eq_getElem?_getD, hq]
      have hn : ¬ (bxIx bs c.box < 0 ∨ shIx ls c.to_ < 0) := by simp [h2]; omega
      unfold applyE at h ⊢
      rw [if_neg hn, hg] at h ⊢
      by_cases h3 : q = c.from_
      · rw [if_neg (by simpa using h3)] at h ⊢
        by_cases h4 : c.from_ = c.to_
        · rw [if_pos h4]
          exact apply_d ls bs at_ c vl vb va w B hB hl hbx ha hst hr k hk hkl h2 q hq h3 h4
        · rw [if_neg h4] at h ⊢
          rw [moved_at hk] at h ⊢
          cases h5 : heldB ls bs (at_.set k c.to_)
          · rw [if_pos rfl]
            exact apply_e ls bs at_ c vl vb va w B hB hl hbx ha hst hr k hk hkl h2 q hq h3 h4 h5
          · rw [h5] at h; simp at h
      · rw [if_pos h3]
        exact apply_c ls bs at_ c vl vb va w B hB hl hbx ha hst hr k hk hkl h2 q hq h3
theorem apply_zero {ls : List Shelf} {bs : List Box} {at_ : List Int} {c : Carry} (h : applyE ls bs at_ c = 0) : ¬ bxIx bs c.box < 0 ∧ ¬ shIx ls c.to_ < 0 ∧ at_.getD (bxIx bs c.box).toNat 0 = c.from_ ∧ c.from_ ≠ c.to_ ∧ heldB ls bs (movedF bs at_ c) = true := by
  unfold applyE at h
  split at h
  · cases h
  · rename_i h1
    split at h
    · cases h
    · rename_i h2
      split at h
      · cases h
      · rename_i h3
        split at h
        · cases h
        · rename_i h4
          exact ⟨fun hh => h1 (.inl hh), fun hh => h1 (.inr hh), Classical.not_not.1 h2, h3, by simpa using h4⟩
theorem apply_ok (ls : List Shelf) (bs : List Box) (at_ : List Int) (c : Carry) (vl vb va : Value) (w : World) (B : Nat) (hB : B ≤ w.heap.size) (hl : Shelves w B ls vl) (hbx : Boxes w B bs vb) (ha : Ints w B at_ va) (hst : startE ls bs = 0) (hr : Right ls bs at_) (h : applyE ls bs at_ c = 0) :
    Calls Try.prog 63 #[.agg #[vl, vb], va, .agg #[.int .i64 c.box, .int .i64 c.from_, .int .i64 c.to_]] w fun e w' => ∃ v', e = .returned (.tuple #[v', .int .i64 0]) ∧ OwnRep 1 (flat intEnc) 3 w.heap.size w' (movedF bs at_ c) v' ∧ Below w.heap.size w w' := by
  obtain ⟨h1, h2, h3, h4, h5⟩ := apply_zero h
  obtain ⟨k, b, hk, hb, _⟩ := bxIx_some h1
  have hkl := lt_of_at hb
  obtain ⟨q, hq⟩ := get_at at_ (show k < at_.length by rw [hr.1]; exact hkl)
  have hg : at_.getD (bxIx bs c.box).toNat 0 = q := by simp [hk, List.getD_eq_getElem?_getD, hq]
  rw [moved_at hk] at h5 ⊢
  exact apply_f ls bs at_ c vl vb va w B hB hl hbx ha hst hr k hk hkl h2 q hq (hg.symm.trans h3) h4 h5
theorem apply_right {ls : List Shelf} {bs : List Box} {at_ : List Int} {c : Carry} (hr : Right ls bs at_) (h : applyE ls bs at_ c = 0) : Right ls bs (movedF bs at_ c) := right_moved hr (apply_zero h).2.1
def failV (p : Int × Int) : Value := .tuple #[.slice none 0 0, .int .i64 p.1, .int .i64 p.2]
/-- what Apply comes to -/
def ApplyPost (ls : List Shelf) (bs : List Box) (at_ : List Int) (plan : List Carry) (w : World) (e : Ending) (w' : World) : Prop :=
  Below w.heap.size w w' ∧ if (failF ls bs at_ 0 plan).2 = 0 then ∃ v', e = .returned (.tuple #[v', .int .i64 (-1), .int .i64 0]) ∧ OwnRep 1 (flat intEnc) 3 w.heap.size w' (finalF bs at_ plan) v' else e = .returned (failV (failF ls bs at_ 0 plan))
set_option maxHeartbeats 1000000 in
theorem Apply_bad (ls : List Shelf) (bs : List Box) (at_ : List Int) (vl vb va vp : Value) (w : World) (B : Nat) (hB : B ≤ w.heap.size) (hl : Shelves w B ls vl) (hbx : Boxes w B bs vb) (ha : Ints w B at_ va) (hp : possE ls bs at_ ≠ 0) :
    Calls Try.prog 32 #[vl, vb, va, vp] w fun e w' => e = .returned (.tuple #[.slice none 0 0, .int .i64 (-1), .int .i64 (possE ls bs at_)]) ∧ Below w.heap.size w w' := by
  have HO := Lib.hid (possible_c ls bs at_ vl vb va w B hB hl hbx ha)
  obtain ⟨n1, n2⟩ := ne_bool hp
  clear hp
  go_enter Try.func32, Try.ntmps32
  go_wp2_with fail
  refine HO.out.mono ?_
  rintro e w1 ⟨rfl, hb1⟩
  go_wp2
  go_ret3
  exact ⟨rfl, hb1⟩
set_option maxRecDepth 10000 in
set_option maxHeartbeats 2000000 in
theorem Apply_ok (ls : List Shelf) (bs : List Box) (at_ : List Int) (plan : List Carry) (vl vb va vp : Value) (w : World) (B : Nat) (hB : B ≤ w.heap.size) (hl : Shelves w B ls vl) (hbx : Boxes w B bs vb) (ha : Ints w B at_ va) (hpl : Carries w B plan vp) (hp : possE ls bs at_ = 0) :
    Calls Try.prog 32 #[vl, vb, va, vp] w (ApplyPost ls bs at_ plan w) := by
  have HO := Lib.hid (possible_c ls bs at_ vl vb va w B hB hl hbx ha)
  rw [hp] at HO
  obtain ⟨hst, hr, _⟩ := poss_zero hp
  have h128 := (boxes_ok (start_ok hst).2.1).1
  have hlen := hr.1
  have HCL := Lib.hid (fun (W : World) (hW : Below w.heap.size w W) => cloneI_c at_ va W B (Nat.le_trans hB hW.size) (ha.below inS (hW.mono hB)) (by omega))
  have HAB := Lib.hid (fun (at1 : List Int) (c : Carry) (v1 : Value) (W : World) (h1 : SlRep 1 (flat intEnc) W (fun b => b < W.heap.size) at1 v1) (hr1 : Right ls bs at1) (hW : Below w.heap.size w W) => apply_bad ls bs at1 c vl vb v1 W W.heap.size (Nat.le_refl _) ((hl.below shS (hW.mono hB)).mono shS (Nat.le_trans hB hW.size)) ((hbx.below boS (hW.mono hB)).mono boS (Nat.le_trans hB hW.size)) h1 hst hr1)
  have HAO := Lib.hid (fun (at1 : List Int) (c : Carry) (v1 : Value) (W : World) (h1 : SlRep 1 (flat intEnc) W (fun b => b < W.heap.size) at1 v1) (hr1 : Right ls bs at1) (hW : Below w.heap.size w W) => apply_ok ls bs at1 c vl vb v1 W W.heap.size (Nat.le_refl _) ((hl.below shS (hW.mono hB)).mono shS (Nat.le_trans hB hW.size)) ((hbx.below boS (hW.mono hB)).mono boS (Nat.le_trans hB hW.size)) h1 hst hr1)
  have HR0 := Lib.hid hr
  clear hp hst hr hlen h128
  obtain ⟨A, c, rfl, hc1, hc2, _⟩ := id hl
  obtain ⟨A', c', rfl, hd1, hd2, _⟩ := id hbx
  obtain ⟨A2, c2, rfl, he1, he2, _⟩ := id ha
  obtain ⟨A3, c3, rfl, hf1, hf2, _⟩ := id hpl
  have HN0 := Lib.hid (show failF ls bs at_ 0 plan = failF ls bs at_ 0 (plan.drop 0) ∧ finalF bs at_ plan = finalF bs at_ (plan.drop 0) by simp)
  go_enter Try.func32, Try.ntmps32
  go_wp2_with fail
  refine HO.out.mono ?_
  rintro e w1 ⟨rfl, hb1⟩
  go_wp2_with fail
  refine (HCL.out _ hb1).mono ?_
  rintro e w2 ⟨v2, rfl, hown, hb2⟩
  have B2 := hb1.trans (hb2.mono hb1.size)
  have hown := hown.base_le hb1.size
  go_wp2
  go_loopw [12, 28] (fun o i wr => ∃ (k : Nat) (at1 : List Int) (vo : Value), k ≤ plan.length ∧ i = .int .i64 k ∧ vo = o ∧ OwnRep 1 (flat intEnc) 3 w.heap.size wr at1 vo ∧ Hid (Right ls bs at1) ∧ Hid (failF ls bs at_ 0 plan = failF ls bs at1 k (plan.drop k) ∧ finalF bs at_ plan = finalF bs at1 (plan.drop k)) ∧ Below w.heap.size w wr) (fun _ i _ => plan.length - (intOf i).toNat)
  case atStart => exact ⟨0, at_, _, Nat.zero_le _, rfl, rfl, hown, HR0, HN0, B2⟩
  case round =>
    clear hown HN0 HR0 hb1 hb2 B2
    obtain ⟨k, at1, vo, hk, rfl, rfl, hown, HR, HN, B1⟩ := hrel
    have hs := B1.size
    by_cases hlt : k < plan.length
    · obtain ⟨x, hx⟩ := get_at plan hlt
      have HD := Lib.hid (drop_at hx)
      obtain ⟨b, off, rfl, hbB, g0, g1, g2⟩ := Carries.at_ (hpl.below caS (B1.mono hB)) hx
      have hbw : b < wr.heap.size := by omega
      clear hx
      have bq : Below wr.heap.size wr (wr.alloc (carryC x)) := (Below.refl _ _).alloc (Nat.le_refl _) _
      have Bq := B1.trans (bq.mono hs)
      have hsl := (hown.below inS bq).toSl inS
      by_cases hz : applyE ls bs at1 x = 0
      · have HAX := Lib.hid (HAO.out at1 x _ _ hsl HR.out Bq hz)
        have HR2 := Lib.hid (apply_right HR.out hz)
        have HE := Lib.hid (show failF ls bs at_ 0 plan = failF ls bs (movedF bs at1 x) (k + 1) (plan.drop (k + 1)) ∧ finalF bs at_ plan = finalF bs (movedF bs at1 x) (plan.drop (k + 1)) by
          rw [HN.out.1, HN.out.2, HD.out]; simp [failF, finalF, hz])
        clear hz
        go_wp2_with fail
        refine HAX.out.mono ?_
        rintro e w3 ⟨v3, rfl, hown3, hb3⟩
        have hs3 := hb3.size
        simp only [World.size_alloc] at hs3 hown3
        have B3 := Bq.trans (hb3.mono Bq.size)
        go_wp2
        go_roundw
        case rel => exact ⟨k + 1, _, _, by omega, by go_num, rfl, hown3.base_le (by omega), HR2, HE, B3⟩
        case measure => simp [intOf]; omega
      · have HAX := Lib.hid (HAB.out at1 x _ _ hsl HR.out Bq hz)
        have HE := Lib.hid (show failF ls bs at_ 0 plan = ((k : Int), applyE ls bs at1 x) ∧ ¬ (failF ls bs at_ 0 plan).2 = 0 by
          rw [HN.out.1, HD.out]; simp [failF, hz])
        obtain ⟨n1, n2⟩ := ne_bool hz
        clear hz
        go_wp2_with fail
        refine HAX.out.mono ?_
        rintro e w3 ⟨rfl, hb3⟩
        have B3 := Bq.trans (hb3.mono Bq.size)
        go_wp2
        go_ret3
        exact ⟨B3, by rw [if_neg HE.out.2, failV, HE.out.1]; rfl⟩
    · have HE := Lib.hid (show (failF ls bs at_ 0 plan).2 = 0 ∧ finalF bs at_ plan = at1 by
        rw [HN.out.1, HN.out.2, List.drop_of_length_le (by omega)]; simp [failF, finalF])
      go_wp2
      go_ret3
      exact ⟨B1, by rw [if_pos HE.out.1, HE.out.2]; exact ⟨_, rfl, hown⟩⟩
end Go.Proofs.Ythabpkigflldmaa
