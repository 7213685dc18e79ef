/- RelocateApplies returns true. -/
import Derived.Test.YthabpkigflldmaaApR
namespace Go.Proofs.Ythabpkigflldmaa
open Go.RowKit

def apL (ls : List Shelf) (bs : List Box) (at_ : List Int) (plan : List Carry) : List Int := if possE ls bs at_ = 0 ∧ (failF ls bs at_ 0 plan).2 = 0 then finalF bs at_ plan else []
def apI (ls : List Shelf) (bs : List Box) (at_ : List Int) (plan : List Carry) : Int := if possE ls bs at_ = 0 ∧ ¬ (failF ls bs at_ 0 plan).2 = 0 then (failF ls bs at_ 0 plan).1 else -1
def apE (ls : List Shelf) (bs : List Box) (at_ : List Int) (plan : List Carry) : Int := if possE ls bs at_ = 0 then (failF ls bs at_ 0 plan).2 else possE ls bs at_
/-- what both sides of Apply come to -/
def ApplyAny (ls : List Shelf) (bs : List Box) (at_ : List Int) (plan : List Carry) (w : World) (e : Ending) (w' : World) : Prop := ∃ A c, e = .returned (.tuple #[.slice A (apL ls bs at_ plan).length c, .int .i64 (apI ls bs at_ plan), .int .i64 (apE ls bs at_ plan)]) ∧ Ints w' w'.heap.size (apL ls bs at_ plan) (.slice A (apL ls bs at_ plan).length c) ∧ Below w.heap.size w w'
theorem apply_any_bad {ls : List Shelf} {bs : List Box} {at_ : List Int} {plan : List Carry} {w : World} (hp : possE ls bs at_ ≠ 0) (e : Ending) (w' : World) (h : e = .returned (.tuple #[.slice none 0 0, .int .i64 (-1), .int .i64 (possE ls bs at_)]) ∧ Below w.heap.size w w') : ApplyAny ls bs at_ plan w e w' := by
  obtain ⟨rfl, hb⟩ := h
  have h1 : apL ls bs at_ plan = [] := by simp [apL, hp]
  have h2 : apI ls bs at_ plan = -1 := by simp [apI, hp]
  have h3 : apE ls bs at_ plan = possE ls bs at_ := by simp [apE, hp]
  unfold ApplyAny
  rw [h1, h2, h3]
  exact ⟨none, 0, rfl, SlRep.nil_, hb⟩
theorem apply_any_ok {ls : List Shelf} {bs : List Box} {at_ : List Int} {plan : List Carry} {w : World} (hp : possE ls bs at_ = 0) (e : Ending) (w' : World) (h : ApplyPost ls bs at_ plan w e w') : ApplyAny ls bs at_ plan w e w' := by
  obtain ⟨hb, h⟩ := h
  unfold ApplyAny
  by_cases hf : (failF ls bs at_ 0 plan).2 = 0
  · rw [if_pos hf] at h
    obtain ⟨v', rfl, hown⟩ := h
    have h1 : apL ls bs at_ plan = finalF bs at_ plan := by simp [apL, hp, hf]
    have h2 : apI ls bs at_ plan = -1 := by simp [apI, hf]
    have h3 : apE ls bs at_ plan = 0 := by simp [apE, hp, hf]
    rw [h1, h2, h3]
    obtain ⟨A, c, rfl, _⟩ := id (hown.toSl inS)
    exact ⟨A, c, rfl, hown.toSl inS, hb⟩
  · rw [if_neg hf] at h
    subst h
    have h1 : apL ls bs at_ plan = [] := by simp [apL, hf]
    have h2 : apI ls bs at_ plan = (failF ls bs at_ 0 plan).1 := by simp [apI, hp, hf]
    have h3 : apE ls bs at_ plan = (failF ls bs at_ 0 plan).2 := by simp [apE, hp]
    rw [h1, h2, h3]
    exact ⟨none, 0, rfl, SlRep.nil_, hb⟩
theorem Apply_any (ls : List Shelf) (bs : List Box) (at_ : List Int) (plan : List Carry) (vl vb va vp : Value) (w : World) (B : Nat) (hB : B ≤ w.heap.size) (hl : Shelves w B ls vl) (hbx : Boxes w B bs vb) (ha : Ints w B at_ va) (hpl : Carries w B plan vp) : Calls Try.prog 32 #[vl, vb, va, vp] w (ApplyAny ls bs at_ plan w) := by
  by_cases hp : possE ls bs at_ = 0
  · exact (Apply_ok ls bs at_ plan vl vb va vp w B hB hl hbx ha hpl hp).mono (apply_any_ok hp)
  · exact (Apply_bad ls bs at_ vl vb va vp w B hB hl hbx ha hp).mono (apply_any_bad hp)
theorem rApply_any (ls : List Shelf) (bs : List Box) (at_ : List Int) (plan : List Carry) (vl vb va vp : Value) (w : World) (B : Nat) (hB : B ≤ w.heap.size) (hl : Shelves w B ls vl) (hbx : Boxes w B bs vb) (ha : Ints w B at_ va) (hpl : Carries w B plan vp) : Calls Try.prog 34 #[vl, vb, va, vp] w (ApplyAny ls bs at_ plan w) := by
  by_cases hp : possE ls bs at_ = 0
  · exact (rApply_ok ls bs at_ plan vl vb va vp w B hB hl hbx ha hpl hp).mono (apply_any_ok hp)
  · exact (rApply_bad ls bs at_ vl vb va vp w B hB hl hbx ha hp).mono (apply_any_bad hp)
theorem eqLI_self (xs : List Int) : eqL eqI xs xs = true := (eqL_iff eqI_iff xs xs).2 rfl
set_option maxRecDepth 100000 in
set_option maxHeartbeats 8000000 in
theorem applies_law (ls : List Shelf) (bs : List Box) (at_ : List Int) (plan : List Carry) (vl vb va vp : Value) (w : World) (B : Nat) (hB : B ≤ w.heap.size) (hl : Shelves w B ls vl) (hbx : Boxes w B bs vb) (ha : Ints w B at_ va) (hpl : Carries w B plan vp) :
    Calls Try.prog 7 #[.agg #[vl, vb], va, vp] w fun e w' => e = .returned (.bool true) ∧ Below w.heap.size w w' := by
  have b0 : Below w.heap.size w (w.alloc (roomsC vl vb)) := (Below.refl _ _).alloc (Nat.le_refl _) _
  have ZK := Lib.hid (fun (W : World) (hW : Below (w.heap.size + 1) (w.alloc (roomsC vl vb)) W) => (⟨(hW.cell (p := ⟨w.heap.size, 0, none⟩) (by simp)).trans (by simp), (hW.cell (p := ⟨w.heap.size, 1, none⟩) (by simp)).trans (by simp), by have := hW.size; simp at this; omega⟩ : W.cell? ⟨w.heap.size, 0, none⟩ = some vl ∧ W.cell? ⟨w.heap.size, 1, none⟩ = some vb ∧ w.heap.size < W.heap.size))
  have HFW := Lib.hid (fun (W : World) (hW : Below w.heap.size w W) => few_c ls bs vl vb W B (Nat.le_trans hB hW.size) (hl.below shS (hW.mono hB)) (hbx.below boS (hW.mono hB)))
  obtain ⟨A, c, rfl, hc1, hc2, _⟩ := id hl
  obtain ⟨A', c', rfl, hd1, hd2, _⟩ := id hbx
  obtain ⟨A2, c2, rfl, he1, he2, _⟩ := id ha
  obtain ⟨A3, c3, rfl, hf1, hf2, _⟩ := id hpl
  go_enter Try.func7, Try.ntmps7
  go_wp2_with fail
  refine (awake_c _).mono ?_
  rintro e w1 ⟨rfl, hb1⟩
  simp only [World.size_alloc] at hb1
  have B1 := b0.trans (hb1.mono (by omega))
  obtain ⟨z0, z1, zl⟩ := ZK.out w1 hb1
  cases hfew : fewB ls bs
  · rw [hfew] at HFW
    clear hfew
    go_wp2_with fail
    refine (HFW.out _ B1).mono ?_
    rintro e w2 ⟨rfl, hb2⟩
    go_wp2
    go_ret
    exact ⟨rfl, B1.trans (hb2.mono B1.size)⟩
  · obtain ⟨f1, f2, f3⟩ := few_ok hfew
    rw [hfew] at HFW
    have HF3 := Lib.hid f3
    clear hfew f3
    by_cases h30 : at_.length ≤ 30
    · have hi : decide ((30 : Int) < (at_.length : Int)) = false := by simp; omega
      by_cases h31 : plan.length ≤ 30
      · have hj : decide ((30 : Int) < (plan.length : Int)) = false := by simp; omega
        go_wp2_with fail
        refine (HFW.out _ B1).mono ?_
        rintro e w2 ⟨rfl, hb2⟩
        have b12 := hb1.trans (hb2.mono (by have := hb1.size; simp at this; omega))
        have B2 := b0.trans (b12.mono (by omega))
        clear z0 z1 zl
        obtain ⟨z0, z1, zl⟩ := ZK.out w2 b12
        go_wp2_with fail
        refine (all_c ls bs _ _ w2 B (Nat.le_trans hB B2.size) (hl.below shS (B2.mono hB)) (hbx.below boS (B2.mono hB)) (by omega) (by omega) (fun b hb => by have := HF3.out b hb; omega)).mono ?_
        rintro e w3 ⟨ul, ub, rfl, h3l, h3b, hb3⟩
        have b13 := b12.trans (hb3.mono (by omega))
        have B3 := b0.trans (b13.mono (by omega))
        have hs3 := B3.size
        have LB3 : LB w3 ls bs ul ub := ⟨h3l, h3b⟩
        obtain ⟨Al, cl, rfl, -⟩ := id h3l
        obtain ⟨Ab, cb, rfl, -⟩ := id h3b
        clear z0 z1 zl h3l h3b
        go_wp2_with fail
        refine (cloneI_c at_ _ w3 B (Nat.le_trans hB hs3) (ha.below inS (B3.mono hB)) (by omega)).mono ?_
        rintro e w4 ⟨v4, rfl, hown4, hb4⟩
        have b14 := b13.trans (hb4.mono (by have := b13.size; simp at this; omega))
        have B4 := b0.trans (b14.mono (by omega))
        have LB4 := LB3.below hb4
        have h4 := hown4.toSl inS
        clear hown4 LB3
        obtain ⟨A4, c4, rfl, -⟩ := id h4
        go_wp2_with fail
        refine (cloneC_c plan _ w4 B (Nat.le_trans hB B4.size) (hpl.below caS (B4.mono hB)) (by omega)).mono ?_
        rintro e w5 ⟨v5, rfl, hown5, hb5⟩
        have b15 := b14.trans (hb5.mono (by have := b14.size; simp at this; omega))
        have B5 := b0.trans (b15.mono (by omega))
        have LB5 := LB4.below hb5
        have h5 := hown5.toSl caS
        have h45 := (h4.below inS hb5).mono inS hb5.size
        clear hown5 LB4 h4
        obtain ⟨A5, c5, rfl, -⟩ := id h5
        go_wp2_with fail
        refine (Apply_any ls bs at_ plan _ _ _ _ w5 w5.heap.size (Nat.le_refl _) LB5.l LB5.b h45 h5).mono ?_
        rintro e w6 ⟨A6, c6, rfl, h6, hb6⟩
        have b16 := b15.trans (hb6.mono (by have := b15.size; simp at this; omega))
        have B6 := b0.trans (b16.mono (by omega))
        clear LB5 h45 h5
        obtain ⟨z0, z1, zl⟩ := ZK.out w6 b16
        go_wp2_with fail
        refine (rApply_any ls bs at_ plan _ _ _ _ w6 B (Nat.le_trans hB B6.size) (hl.below shS (B6.mono hB)) (hbx.below boS (B6.mono hB)) (ha.below inS (B6.mono hB)) (hpl.below caS (B6.mono hB))).mono ?_
        rintro e w7 ⟨A7, c7, rfl, h7, hb7⟩
        have B7 := B6.trans (hb7.mono B6.size)
        have h67 := (h6.below inS hb7).mono inS hb7.size
        clear z0 z1 zl h6
        have HEQ := Lib.hid (Calls.below_of (equalI_c _ _ _ _ w7 w7.heap.size (Nat.le_refl _) h67 h7))
        rw [eqLI_self] at HEQ
        have hEi : (apI ls bs at_ plan == apI ls bs at_ plan) = true := by simp
        have hEe : (apE ls bs at_ plan == apE ls bs at_ plan) = true := by simp
        clear h67 h7 ZK HFW
        go_wp2_with fail
        refine HEQ.out.mono ?_
        rintro e w8 ⟨rfl, hb8⟩
        have B8 := B7.trans (hb8.mono B7.size)
        clear HEQ
        go_wp2_with fail
        refine (cloneC_c plan _ w8 B (Nat.le_trans hB B8.size) (hpl.below caS (B8.mono hB)) (by omega)).mono ?_
        rintro e w9 ⟨v9, rfl, hown9, hb9⟩
        have B9 := B8.trans (hb9.mono B8.size)
        have h9 := hown9.toSl caS
        obtain ⟨A9, c9, rfl, -⟩ := id h9
        clear hown9
        go_wp2_with fail
        refine (Reverse_c plan _ w9 w9.heap.size (Nat.le_refl _) h9 (by omega)).mono ?_
        rintro e w10 ⟨v10, rfl, hown10, hb10⟩
        have B10 := B9.trans (hb10.mono B9.size)
        have h10 := hown10.toSl caS
        obtain ⟨A10, c10, rfl, -⟩ := id h10
        clear hown10 h9
        go_wp2_with fail
        refine (rReverse_c plan _ w10 B (Nat.le_trans hB B10.size) (hpl.below caS (B10.mono hB)) (by omega)).mono ?_
        rintro e w11 ⟨v11, rfl, hown11, hb11⟩
        have B11 := B10.trans (hb11.mono B10.size)
        have h11 := hown11.toSl caS
        obtain ⟨A11, c11, rfl, -⟩ := id h11
        have HSM := Lib.hid (Calls.below_of (same_c _ _ _ _ w11 w11.heap.size (Nat.le_refl _) ((h10.below caS hb11).mono caS hb11.size) h11))
        rw [eqLC_self] at HSM
        clear hown11 h11 h10
        go_wp2_with fail
        refine HSM.out.mono ?_
        rintro e w12 ⟨rfl, hb12⟩
        go_wp2
        go_ret
        exact ⟨rfl, B11.trans (hb12.mono B11.size)⟩
      · have hj : decide ((30 : Int) < (plan.length : Int)) = true := by simp; omega
        go_wp2_with fail
        refine (HFW.out _ B1).mono ?_
        rintro e w2 ⟨rfl, hb2⟩
        go_wp2
        go_ret
        exact ⟨rfl, B1.trans (hb2.mono B1.size)⟩
    · have hi : decide ((30 : Int) < (at_.length : Int)) = true := by simp; omega
      go_wp2_with fail
      refine (HFW.out _ B1).mono ?_
      rintro e w2 ⟨rfl, hb2⟩
      go_wp2
      go_ret
      exact ⟨rfl, B1.trans (hb2.mono B1.size)⟩
end Go.Proofs.Ythabpkigflldmaa
