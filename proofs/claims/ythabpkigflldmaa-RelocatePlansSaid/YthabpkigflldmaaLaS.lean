/- RelocateSteps returns true. -/
import Derived.Test.YthabpkigflldmaaAwk
namespace Go.Proofs.Ythabpkigflldmaa
open Go.RowKit

set_option maxHeartbeats 1000000 in
theorem rSteps_bad (ls : List Shelf) (bs : List Box) (at_ : List Int) (vl vb va : Value) (w : World) (B : Nat) (hB : B ≤ w.heap.size) (hl : Shelves w B ls vl) (hbx : Boxes w B bs vb) (ha : Ints w B at_ va) (hp : possE ls bs at_ ≠ 0) :
    Calls Try.prog 29 #[vl, vb, va] w fun e w' => e = .returned (.tuple #[.slice none 0 0, .int .i64 (possE ls bs at_)]) ∧ Below w.heap.size w w' := by
  have HO := Lib.hid (rpossible_c ls bs at_ vl vb va w B hB hl hbx ha)
  obtain ⟨n1, n2⟩ := ne_bool hp
  clear hp
  go_enter Try.func29, Try.ntmps29
  go_wp2_with fail
  refine HO.out.mono ?_
  rintro e w1 ⟨rfl, hb1⟩
  go_wp2
  go_ret2
  exact ⟨rfl, hb1⟩
set_option maxHeartbeats 1000000 in
theorem rSteps_ok (ls : List Shelf) (bs : List Box) (at_ : List Int) (vl vb va : Value) (w : World) (B : Nat) (hB : B ≤ w.heap.size) (hl : Shelves w B ls vl) (hbx : Boxes w B bs vb) (ha : Ints w B at_ va) (hp : possE ls bs at_ = 0) :
    Calls Try.prog 29 #[vl, vb, va] w fun e w' => ∃ v', e = .returned (.tuple #[v', .int .i64 0]) ∧ OwnRep 3 (flat Carry.enc) 57 w.heap.size w' (stepsF ls bs at_) v' ∧ Below w.heap.size w w' := by
  have HO := Lib.hid (rpossible_c ls bs at_ vl vb va w B hB hl hbx ha)
  rw [hp] at HO
  obtain ⟨h1, h2, h3⟩ := poss_zero hp
  have HC := Lib.hid (fun (W : World) (hW : Below w.heap.size w W) => rsteps_c ls bs at_ vl vb va W B (Nat.le_trans hB hW.size) (hl.below shS (hW.mono hB)) (hbx.below boS (hW.mono hB)) (ha.below inS (hW.mono hB)) h1 h2)
  clear hp h1 h2 h3
  go_enter Try.func29, Try.ntmps29
  go_wp2_with fail
  refine HO.out.mono ?_
  rintro e w1 ⟨rfl, hb1⟩
  go_wp2_with fail
  refine (HC.out _ hb1).mono ?_
  rintro e w2 ⟨v', rfl, hown, hb2⟩
  go_wp2
  go_ret2
  exact ⟨_, rfl, hown.base_le hb1.size, hb1.trans (hb2.mono hb1.size)⟩
theorem eqLC_self (xs : List Carry) : eqL eqC xs xs = true := (eqL_iff eqC_iff xs xs).2 rfl
def stL (ls : List Shelf) (bs : List Box) (at_ : List Int) : List Carry := if possE ls bs at_ = 0 then stepsF ls bs at_ else []
/-- what both sides of Steps come to -/
def StepsPost (ls : List Shelf) (bs : List Box) (at_ : List Int) (w : World) (e : Ending) (w' : World) : Prop := ∃ A c, e = .returned (.tuple #[.slice A (stL ls bs at_).length c, .int .i64 (possE ls bs at_)]) ∧ Carries w' w'.heap.size (stL ls bs at_) (.slice A (stL ls bs at_).length c) ∧ Below w.heap.size w w'
theorem Steps_any (ls : List Shelf) (bs : List Box) (at_ : List Int) (vl vb va : Value) (w : World) (B : Nat) (hB : B ≤ w.heap.size) (hl : Shelves w B ls vl) (hbx : Boxes w B bs vb) (ha : Ints w B at_ va) : Calls Try.prog 28 #[vl, vb, va] w (StepsPost ls bs at_ w) := by
  by_cases hp : possE ls bs at_ = 0
  · refine (Steps_ok ls bs at_ vl vb va w B hB hl hbx ha hp).mono ?_
    rintro e w' ⟨v', rfl, hown, hb⟩
    obtain ⟨A, c, rfl, _⟩ := id (hown.toSl caS)
    refine ⟨A, c, ?_, ?_, hb⟩
    · rw [stL, if_pos hp, hp]
    · rw [stL, if_pos hp]; exact hown.toSl caS
  · refine (Steps_bad ls bs at_ vl vb va w B hB hl hbx ha hp).mono ?_
    rintro e w' ⟨rfl, hb⟩
    refine ⟨none, 0, ?_, ?_, hb⟩
    · rw [stL, if_neg hp]; rfl
    · rw [stL, if_neg hp]; exact SlRep.nil_
theorem rSteps_any (ls : List Shelf) (bs : List Box) (at_ : List Int) (vl vb va : Value) (w : World) (B : Nat) (hB : B ≤ w.heap.size) (hl : Shelves w B ls vl) (hbx : Boxes w B bs vb) (ha : Ints w B at_ va) : Calls Try.prog 29 #[vl, vb, va] w (StepsPost ls bs at_ w) := by
  by_cases hp : possE ls bs at_ = 0
  · refine (rSteps_ok ls bs at_ vl vb va w B hB hl hbx ha hp).mono ?_
    rintro e w' ⟨v', rfl, hown, hb⟩
    obtain ⟨A, c, rfl, _⟩ := id (hown.toSl caS)
    refine ⟨A, c, ?_, ?_, hb⟩
    · rw [stL, if_pos hp, hp]
    · rw [stL, if_pos hp]; exact hown.toSl caS
  · refine (rSteps_bad ls bs at_ vl vb va w B hB hl hbx ha hp).mono ?_
    rintro e w' ⟨rfl, hb⟩
    refine ⟨none, 0, ?_, ?_, hb⟩
    · rw [stL, if_neg hp]; rfl
    · rw [stL, if_neg hp]; exact SlRep.nil_
set_option maxRecDepth 100000 in
set_option maxHeartbeats 8000000 in
theorem steps_law (ls : List Shelf) (bs : List Box) (at_ : List Int) (vl vb va : Value) (w : World) (B : Nat) (hB : B ≤ w.heap.size) (hl : Shelves w B ls vl) (hbx : Boxes w B bs vb) (ha : Ints w B at_ va) :
    Calls Try.prog 6 #[.agg #[vl, vb], va] w fun e w' => e = .returned (.bool true) ∧ Below w.heap.size w w' := by
  have b0 : Below w.heap.size w (w.alloc (roomsC vl vb)) := (Below.refl _ _).alloc (Nat.le_refl _) _
  have ZK := Lib.hid (fun (W : World) (hW : Below (w.heap.size + 1) (w.alloc (roomsC vl vb)) W) => (⟨(hW.cell (p := ⟨w.heap.size, 0, none⟩) (by simp)).trans (by simp), (hW.cell (p := ⟨w.heap.size, 1, none⟩) (by simp)).trans (by simp), by have := hW.size; simp at this; omega⟩ : W.cell? ⟨w.heap.size, 0, none⟩ = some vl ∧ W.cell? ⟨w.heap.size, 1, none⟩ = some vb ∧ w.heap.size < W.heap.size))
  have HFW := Lib.hid (fun (W : World) (hW : Below w.heap.size w W) => few_c ls bs vl vb W B (Nat.le_trans hB hW.size) (hl.below shS (hW.mono hB)) (hbx.below boS (hW.mono hB)))
  obtain ⟨A, c, rfl, hc1, hc2, _⟩ := id hl
  obtain ⟨A', c', rfl, hd1, hd2, _⟩ := id hbx
  obtain ⟨A2, c2, rfl, he1, he2, _⟩ := id ha
  go_enter Try.func6, Try.ntmps6
  go_wp2_with fail
  refine (awake_c _).mono ?_
  rintro e w1 ⟨rfl, hb1⟩
  simp only [World.size_alloc] at hb1
  have B1 := b0.trans (hb1.mono (by omega))
  obtain ⟨z0, z1, zl⟩ := ZK.out w1 hb1
  cases hfew : fewB ls bs
  · rw [hfew] at HFW
    clear hfew
    go_wp2_with fail
    refine (HFW.out _ B1).mono ?_
    rintro e w2 ⟨rfl, hb2⟩
    go_wp2
    go_ret
    exact ⟨rfl, B1.trans (hb2.mono B1.size)⟩
  · obtain ⟨f1, f2, f3⟩ := few_ok hfew
    rw [hfew] at HFW
    have HF3 := Lib.hid f3
    clear hfew f3
    by_cases h30 : at_.length ≤ 30
    · have hi : decide ((30 : Int) < (at_.length : Int)) = false := by simp; omega
      go_wp2_with fail
      refine (HFW.out _ B1).mono ?_
      rintro e w2 ⟨rfl, hb2⟩
      have b12 := hb1.trans (hb2.mono (by have := hb1.size; simp at this; omega))
      have B2 := b0.trans (b12.mono (by omega))
      clear z0 z1 zl
      obtain ⟨z0, z1, zl⟩ := ZK.out w2 b12
      go_wp2_with fail
      refine (all_c ls bs _ _ w2 B (Nat.le_trans hB B2.size) (hl.below shS (B2.mono hB)) (hbx.below boS (B2.mono hB)) (by omega) (by omega) (fun b hb => by have := HF3.out b hb; omega)).mono ?_
      rintro e w3 ⟨ul, ub, rfl, h3l, h3b, hb3⟩
      have b13 := b12.trans (hb3.mono (by omega))
      have B3 := b0.trans (b13.mono (by omega))
      have hs3 := B3.size
      have LB3 : LB w3 ls bs ul ub := ⟨h3l, h3b⟩
      obtain ⟨Al, cl, rfl, -⟩ := id h3l
      obtain ⟨Ab, cb, rfl, -⟩ := id h3b
      clear z0 z1 zl h3l h3b
      go_wp2_with fail
      refine (cloneI_c at_ _ w3 B (Nat.le_trans hB hs3) (ha.below inS (B3.mono hB)) (by omega)).mono ?_
      rintro e w4 ⟨v4, rfl, hown4, hb4⟩
      have b14 := b13.trans (hb4.mono (by have := b13.size; simp at this; omega))
      have B4 := b0.trans (b14.mono (by omega))
      have LB4 := LB3.below hb4
      have h4 := hown4.toSl inS
      clear hown4 LB3
      obtain ⟨A4, c4, rfl, -⟩ := id h4
      go_wp2_with fail
      refine (Steps_any ls bs at_ _ _ _ w4 w4.heap.size (Nat.le_refl _) LB4.l LB4.b h4).mono ?_
      rintro e w5 ⟨A5, c5, rfl, h5, hb5⟩
      have b15 := b14.trans (hb5.mono (by have := b14.size; simp at this; omega))
      have B5 := b0.trans (b15.mono (by omega))
      have LB5 := LB4.below hb5
      clear LB4 h4
      obtain ⟨z0, z1, zl⟩ := ZK.out w5 b15
      go_wp2_with fail
      refine (rSteps_any ls bs at_ _ _ _ w5 B (Nat.le_trans hB B5.size) (hl.below shS (B5.mono hB)) (hbx.below boS (B5.mono hB)) (ha.below inS (B5.mono hB))).mono ?_
      rintro e w6 ⟨A6, c6, rfl, h6, hb6⟩
      have b16 := b15.trans (hb6.mono (by have := b15.size; simp at this; omega))
      have B6 := b0.trans (b16.mono (by omega))
      have LB6 := LB5.below hb6
      have h56 := (h5.below caS hb6).mono caS hb6.size
      clear z0 z1 zl LB5 h5
      obtain ⟨z0, z1, zl⟩ := ZK.out w6 b16
      have hs6 := B6.size
      have hEq : (possE ls bs at_ == possE ls bs at_) = true := by simp
      have HCL := Lib.hid (fun (W : World) (hW : Below w6.heap.size w6 W) => cloneI_c at_ (.slice A2 at_.length c2) W B (by have := hW.size; omega) (ha.below inS ((B6.trans (hW.mono hs6)).mono hB)) (by omega))
      have HPO := Lib.hid (fun (vx : Value) (W : World) (hW : Below w6.heap.size w6 W) (hx : SlRep 1 (flat intEnc) W (fun b => b < W.heap.size) at_ vx) => possible_c ls bs at_ _ _ vx W W.heap.size (Nat.le_refl _) (LB6.below hW).l (LB6.below hW).b hx)
      have HRP := Lib.hid (fun (W : World) (hW : Below w6.heap.size w6 W) => rpossible_c ls bs at_ _ _ _ W B (by have := hW.size; omega) (hl.below shS ((B6.trans (hW.mono hs6)).mono hB)) (hbx.below boS ((B6.trans (hW.mono hs6)).mono hB)) (ha.below inS ((B6.trans (hW.mono hs6)).mono hB)))
      have HSM := Lib.hid (fun (W : World) (hW : Below w6.heap.size w6 W) => Calls.below_of (same_c (stL ls bs at_) (stL ls bs at_) _ _ W w6.heap.size hW.size (h56.below caS hW) (h6.below caS hW)))
      rw [eqLC_self] at HSM
      have KEEP := Lib.hid (fun (W : World) (hW : Below w6.heap.size w6 W) => (⟨(hW.cell (p := ⟨w.heap.size, 0, none⟩) zl).trans z0, (hW.cell (p := ⟨w.heap.size, 1, none⟩) zl).trans z1⟩ : W.cell? ⟨w.heap.size, 0, none⟩ = some (.slice A ls.length c) ∧ W.cell? ⟨w.heap.size, 1, none⟩ = some (.slice A' bs.length c')))
      have hbX : Below w6.heap.size w6 w6.drew := (Below.refl _ _).drew
      have kC : SlRep 1 (flat intEnc) w6.drew (fun b => b < w6.drew.heap.size) ([] : List Int) (.slice none 0 0) := SlRep.nil_
      clear LB6 h56 h6 HFW ZK
      go_wp2
      go_region_held3 (fun W => W.cell? ⟨w.heap.size, 0, none⟩ = some (.slice A ls.length c) ∧ W.cell? ⟨w.heap.size, 1, none⟩ = some (.slice A' bs.length c')) (with_reducible exact KEEP.out _ hbX) (first
        | (go_at_call 14; (with_reducible refine (HCL.out _ hbX).mono ?_); rintro e wC ⟨vC, rfl, hownC, hb'⟩; have kC := hownC.toSl inS; have hbX := hbX.trans (hb'.mono hbX.size))
        | (go_at_call 30; (with_reducible refine (HPO.out _ _ hbX kC).mono ?_); rintro e wP ⟨rfl, hb'⟩; have kC := (kC.below inS hb').mono inS hb'.size; have hbX := hbX.trans (hb'.mono hbX.size))
        | (go_at_call 31; (with_reducible refine (HRP.out _ hbX).mono ?_); rintro e wR ⟨rfl, hb'⟩; have kC := (kC.below inS hb').mono inS hb'.size; have hbX := hbX.trans (hb'.mono hbX.size))
        | (go_at_call 18; (with_reducible refine (HSM.out _ hbX).mono ?_); rintro e wS ⟨rfl, hb'⟩; have hbX := hbX.trans (hb'.mono hbX.size)))
      all_goals go_wp2
      all_goals go_ret
      all_goals exact ⟨rfl, B6.trans (hbX.mono hs6)⟩
    · have hi : decide ((30 : Int) < (at_.length : Int)) = true := by simp; omega
      go_wp2_with fail
      refine (HFW.out _ B1).mono ?_
      rintro e w2 ⟨rfl, hb2⟩
      go_wp2
      go_ret
      exact ⟨rfl, B1.trans (hb2.mono B1.size)⟩
end Go.Proofs.Ythabpkigflldmaa
