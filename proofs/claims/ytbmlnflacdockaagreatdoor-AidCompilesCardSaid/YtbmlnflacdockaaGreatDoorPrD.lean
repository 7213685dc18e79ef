/- The program: Check. -/
import Derived.Test.YtbmlnflacdockaaGreatDoorPrC
namespace Go.Proofs.YtbmlnflacdockaaGreatDoor
open Go.RowKit

theorem ne_bool {a : Int} (h : a ≠ 0) : (a != 0) = true ∧ (a == 0) = false := ⟨by simpa using h, by simpa using h⟩
set_option maxHeartbeats 4000000 in
theorem Check_c (c : Cat) (v1 v2 v3 : Value) (w : World) (B : Nat) (hB : B ≤ w.heap.size) (h : CatRep w B c v1 v2 v3) :
    Calls Tryz.prog 12 #[.agg #[v1, v2, v3]] w fun e w' => e = .returned (.int .i64 (catE c)) ∧ Below w.heap.size w w' := by
  have b1 : Below w.heap.size w (w.alloc (catC v1 v2 v3)) := (Below.refl _ _).alloc (Nat.le_refl _) _
  have KC := Lib.hid (fun (W : World) (hW : Below (w.heap.size + 1) (w.alloc (catC v1 v2 v3)) W) => (⟨(hW.cell (p := ⟨w.heap.size, 0, none⟩) (by simp)).trans (by simp), (hW.cell (p := ⟨w.heap.size, 1, none⟩) (by simp)).trans (by simp), (hW.cell (p := ⟨w.heap.size, 2, none⟩) (by simp)).trans (by simp), by have := hW.size; simp at this; omega⟩ : W.cell? ⟨w.heap.size, 0, none⟩ = some v1 ∧ W.cell? ⟨w.heap.size, 1, none⟩ = some v2 ∧ W.cell? ⟨w.heap.size, 2, none⟩ = some v3 ∧ w.heap.size < W.heap.size))
  have HL := Lib.hid (fun (W : World) (hW : Below w.heap.size w W) => languages_c c v1 v2 v3 W B (Nat.le_trans hB hW.size) (h.below (hW.mono hB)))
  have HB := Lib.hid (fun (W : World) (hW : Below w.heap.size w W) => labels_c c v1 v2 v3 W B (Nat.le_trans hB hW.size) (h.below (hW.mono hB)))
  have HS := Lib.hid (fun (W : World) (hW : Below w.heap.size w W) => sheets_c c v1 v2 v3 W B (Nat.le_trans hB hW.size) (h.below (hW.mono hB)))
  have hb0 : Below (w.heap.size + 1) (w.alloc (catC v1 v2 v3)) (w.alloc (catC v1 v2 v3)) := Below.refl _ _
  by_cases h1 : langE c.langs = 0
  · rw [h1] at HL
    by_cases h2 : labE c.langs c.labels = 0
    · have HE := Lib.hid (show catE c = shtE c.langs c.sheets by unfold catE; rw [if_neg (by simp [h1]), if_neg (by simp [h2])])
      rw [h2] at HB
      clear h1 h2
      go_enter Tryz.func12, Tryz.ntmps12
      go_wp2_with fail
      refine (HL.out _ b1).mono ?_
      rintro e w1 ⟨rfl, hb1⟩
      have hbX := bnd_call hb0 (by simp) hb1
      obtain ⟨z0, z1, z2, zl⟩ := KC.out _ hbX
      have B1 := b1.trans (hbX.mono (Nat.le_succ _))
      go_wp2_with fail
      refine (HB.out _ B1).mono ?_
      rintro e w2 ⟨rfl, hb2⟩
      have hbX := bnd_call hbX (by simp) hb2
      clear z0 z1 z2 zl
      obtain ⟨z0, z1, z2, zl⟩ := KC.out _ hbX
      have B2 := b1.trans (hbX.mono (Nat.le_succ _))
      go_wp2_with fail
      refine (HS.out _ B2).mono ?_
      rintro e w3 ⟨rfl, hb3⟩
      go_wp2
      go_ret
      exact ⟨ret_int HE.out.symm, B2.trans (hb3.mono B2.size)⟩
    · have HE := Lib.hid (show catE c = labE c.langs c.labels by unfold catE; rw [if_neg (by simp [h1]), if_pos h2])
      obtain ⟨n1, n2⟩ := ne_bool h2
      clear h1 h2
      go_enter Tryz.func12, Tryz.ntmps12
      go_wp2_with fail
      refine (HL.out _ b1).mono ?_
      rintro e w1 ⟨rfl, hb1⟩
      have hbX := bnd_call hb0 (by simp) hb1
      obtain ⟨z0, z1, z2, zl⟩ := KC.out _ hbX
      have B1 := b1.trans (hbX.mono (Nat.le_succ _))
      go_wp2_with fail
      refine (HB.out _ B1).mono ?_
      rintro e w2 ⟨rfl, hb2⟩
      go_wp2
      go_ret
      exact ⟨ret_int HE.out.symm, B1.trans (hb2.mono B1.size)⟩
  · have HE := Lib.hid (show catE c = langE c.langs by unfold catE; rw [if_pos h1])
    obtain ⟨n1, n2⟩ := ne_bool h1
    clear h1
    go_enter Tryz.func12, Tryz.ntmps12
    go_wp2_with fail
    refine (HL.out _ b1).mono ?_
    rintro e w1 ⟨rfl, hb1⟩
    go_wp2
    go_ret
    exact ⟨ret_int HE.out.symm, b1.trans (hb1.mono (by simp))⟩
end Go.Proofs.YtbmlnflacdockaaGreatDoor
