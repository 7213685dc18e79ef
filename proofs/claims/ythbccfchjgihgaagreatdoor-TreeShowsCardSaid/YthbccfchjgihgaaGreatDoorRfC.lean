/- The reference: the place of a unit, a unit by itself. -/
import Derived.Test.YthbccfchjgihgaaGreatDoorRfN
namespace Go.Proofs.YthbccfchjgihgaaGreatDoor
open Go.RowKit

set_option maxRecDepth 100000 in
set_option maxHeartbeats 4000000 in
theorem rplace_c (t : Tre) (x : Brn) (vr vb : Value) (w : World) (B : Nat) (hB : B ≤ w.heap.size) (h : TreRep w B t vr vb) :
    Calls Tryz.prog 52 #[treV vr vb, untV x] w fun e w' => e = .returned (.int .i64 (rplaceF t.brs x)) ∧ Below w.heap.size w w' := by
  have hs2 : (unW w vr vb x).heap.size = w.heap.size + 2 := by simp
  have b2 : Below w.heap.size w (unW w vr vb x) := ((Below.refl _ _).alloc (Nat.le_refl _) _).alloc (by simp) _
  have KC := Lib.hid (fun (W : World) (hW : Below (w.heap.size + 2) (unW w vr vb x) W) => unW_at hW)
  have HF := Lib.hid (rfind_c t x.parent vr vb _ B (Nat.le_trans hB b2.size) (h.below (b2.mono hB)))
  obtain ⟨Ar, cr, rfl, -⟩ := id h.tops
  obtain ⟨A, ca, rfl, hc1, hc2, _⟩ := id h.brs
  by_cases h0 : x.parent = 0
  · have he0 : (x.parent == 0) = true := by simp [h0]
    by_cases h1 : x.level = 1
    · have he1 : (x.level != 1) = false := by simp [h1]
      have HX := Lib.hid (show rplaceF t.brs x = 0 by unfold rplaceF; rw [if_pos h0, if_neg (by simp [h1])])
      clear h0 h1
      go_enter Tryz.func52, Tryz.ntmps52
      go_wp2
      go_ret
      exact ⟨ret_int HX.out.symm, b2⟩
    · have he1 : (x.level != 1) = true := by simp [h1]
      have HX := Lib.hid (show rplaceF t.brs x = 18 by unfold rplaceF; rw [if_pos h0, if_pos h1])
      clear h0 h1
      go_enter Tryz.func52, Tryz.ntmps52
      go_wp2
      go_ret
      exact ⟨ret_int HX.out.symm, b2⟩
  · have he0 : (x.parent == 0) = false := by simpa using h0
    cases hf : findB t.brs x.parent with
    | none =>
      have HX := Lib.hid (show rplaceF t.brs x = 7 by unfold rplaceF; rw [if_neg h0, hf])
      have HU := Lib.hid (show findU t.brs x.parent = (zBrn, false) by unfold findU; rw [hf])
      rw [HU.out] at HF
      clear h0 hf
      go_enter Tryz.func52, Tryz.ntmps52
      go_wp2_with fail
      refine HF.out.mono ?_
      rintro e w1 ⟨rfl, hb1⟩
      go_wp2
      go_ret
      exact ⟨ret_int HX.out.symm, (b2.trans (hb1.mono b2.size)).alloc (b2.trans (hb1.mono b2.size)).size _⟩
    | some p =>
      have HX := Lib.hid (show rplaceF t.brs x = if fitB p.level x.level = false then 18 else 0 by unfold rplaceF; rw [if_neg h0, hf])
      have HU := Lib.hid (show findU t.brs x.parent = (p, true) by unfold findU; rw [hf])
      rw [HU.out] at HF
      clear h0 hf
      go_enter Tryz.func52, Tryz.ntmps52
      go_wp2_with fail
      refine HF.out.mono ?_
      rintro e w1 ⟨rfl, hb1⟩
      have hb := bnd_call (Below.refl (w.heap.size + 2) _) (Nat.le_of_eq hs2.symm) hb1
      obtain ⟨⟨z0, z1, zl⟩, u0, u1, u2, u3, u4, ul⟩ := KC.out _ hb
      have hbw := b2.trans (hb.mono (by omega))
      have hbA := hbw.alloc hbw.size (untC p)
      go_wp2_with fail
      refine (rfits_c p.level x.level _).mono ?_
      rintro e w2 ⟨rfl, rfl⟩
      cases hff : fitB p.level x.level
      all_goals
        go_wp2
        go_ret
        exact ⟨ret_int (by rw [HX.out, hff]; rfl), hbA⟩
end Go.Proofs.YthbccfchjgihgaaGreatDoor
