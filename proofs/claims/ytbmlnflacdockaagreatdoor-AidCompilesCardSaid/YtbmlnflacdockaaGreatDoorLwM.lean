/- AidCompiles returns true. -/
import Derived.Test.YtbmlnflacdockaaGreatDoorAwk
import Derived.Test.YtbmlnflacdockaaGreatDoorSmA
import Derived.Test.YtbmlnflacdockaaGreatDoorRfG
import Derived.Test.YtbmlnflacdockaaGreatDoorRaI
namespace Go.Proofs.YtbmlnflacdockaaGreatDoor
open Go.RowKit

theorem few14M {c : Cat} (hF : FewOk c) (h : catE c = 0) : c.sheets.length ≤ 14 := by
  have := (catE_zero h).2.2.1
  rcases hF.small with h1 | h1 <;> omega
set_option maxRecDepth 100000 in
set_option maxHeartbeats 8000000 in
theorem compiles_law (c : Cat) (u : Int) (s : ByteArray) (v1 v2 v3 : Value) (w : World) (B : Nat) (hB : B ≤ w.heap.size) (h : CatRep w B c v1 v2 v3) (hS : SynOk w) :
    Calls Tryz.prog 3 #[.agg #[v1, v2, v3], .int .i64 u, .string s] w fun e w' => e = .returned (.bool true) ∧ Below w.heap.size w w' := by
  have HA := Lib.hid (fun (W : World) (hW : Below w.heap.size w W) => awake_c W (hS.below hS.1 hW))
  have b1 : Below w.heap.size w (w.alloc (catC v1 v2 v3)) := (Below.refl _ _).alloc (Nat.le_refl _) _
  have hb0 : Below (w.heap.size + 1) (w.alloc (catC v1 v2 v3)) (w.alloc (catC v1 v2 v3)) := Below.refl _ _
  have KC := Lib.hid (fun (W : World) (hW : Below (w.heap.size + 1) (w.alloc (catC v1 v2 v3)) W) => cat_at3 hW)
  have HFW := Lib.hid (fun (W : World) (hW : Below w.heap.size w W) => few_c c v1 v2 v3 W B (Nat.le_trans hB hW.size) (h.below (hW.mono hB)))
  have HCP := Lib.hid (fun (hF : FewOk c) (W : World) (hW : Below w.heap.size w W) => rcopy_c c v1 v2 v3 W B (Nat.le_trans hB hW.size) (h.below (hW.mono hB)) hF)
  have HCM := Lib.hid (fun (hF : FewOk c) (y1 y2 y3 : Value) (W : World) (hW : Below w.heap.size w W) (hc : CatRep W W.heap.size c y1 y2 y3) => Compile_c c u s y1 y2 y3 W W.heap.size (Nat.le_refl _) hc (few14M hF) (hS.below hS.1 hW))
  have HRC := Lib.hid (fun (hF : FewOk c) (W : World) (hW : Below w.heap.size w W) => rCompile_c c u s v1 v2 v3 W B (Nat.le_trans hB hW.size) (h.below (hW.mono hB)) (by have := hF.sheets; omega) (by have := hF.langs; omega) (few14M hF))
  cases hd : decide ((10 : Int) < (s.size : Int))
  · clear h
    go_enter Tryz.func3, Tryz.ntmps3
    go_wp2_with fail
    refine (HA.out _ b1).mono ?_
    rintro e w1 ⟨rfl, hb1⟩
    have hbX := bnd_call hb0 (by simp) hb1
    obtain ⟨z0, z1, z2, zl⟩ := KC.out _ hbX
    go_wp2_with fail
    refine (HFW.out _ (b1.trans (hbX.mono (by omega)))).mono ?_
    rintro e w2 ⟨⟨b, rfl, hF⟩, hb2⟩
    have hbX := bnd_call hbX (by simp) hb2
    clear hb1 hb2 z0 z1 z2 zl
    obtain ⟨z0, z1, z2, zl⟩ := KC.out _ hbX
    cases b
    · go_wp2
      go_ret
      exact ⟨rfl, b1.trans (hbX.mono (by omega))⟩
    · have hF := hF rfl
      have HCC := Lib.hid (HCP.out hF)
      have HCM := Lib.hid (HCM.out hF)
      have HRC := Lib.hid (HRC.out hF)
      clear hF HCP
      go_wp2_with fail
      refine (HCC.out _ (b1.trans (hbX.mono (Nat.le_add_right _ _)))).mono ?_
      rintro e wC ⟨y1, y2, y3, rfl, hcC, -, hbC⟩
      have hbX := bnd_call hbX (by simp) hbC
      go_wp2_with fail
      refine (HCM.out _ _ _ _ (b1.trans (hbX.mono (Nat.le_add_right _ _))) hcC).mono ?_
      rintro e wA ⟨va, rfl, hva, hbA⟩
      have hbX := bnd_call hbX (by simp) hbA
      clear z0 z1 z2 zl hcC hbC hbA
      obtain ⟨z0, z1, z2, zl⟩ := KC.out _ hbX
      obtain ⟨AS, cS, rfl, -⟩ := id hva
      have hsA : w.heap.size + 1 ≤ wA.heap.size := by have := hbX.size; simp at this; omega
      have hbX := hbX.alloc hsA (aidO (aidU c u s) (aidS c u s) (.slice AS (aidF c u s).length cS))
      have hbV := (Below.refl wA.heap.size wA).alloc (Nat.le_refl _) (aidO (aidU c u s) (aidS c u s) (.slice AS (aidF c u s).length cS))
      have hkA := heap_newL wA (aidO (aidU c u s) (aidS c u s) (.slice AS (aidF c u s).length cS))
      go_wp2_with fail
      refine (HRC.out _ (b1.trans (hbX.mono (Nat.le_add_right _ _)))).mono ?_
      rintro e wB ⟨vb, rfl, hvb, hbB⟩
      have hbX := bnd_call hbX (by simp) hbB
      have hbV := hbV.trans (hbB.mono (by simp))
      have hkB := (hbB.block wA.heap.size (by simp)).trans hkA
      obtain ⟨BS, dS, rfl, -⟩ := id hvb
      have q0 : wB.cell? ⟨wA.heap.size, 0, none⟩ = some (.int .i64 (aidU c u s)) := by rw [Lib.cell_of_heap hkB]; rfl
      have q1 : wB.cell? ⟨wA.heap.size, 1, none⟩ = some (.string (aidS c u s)) := by rw [Lib.cell_of_heap hkB]; rfl
      have q2 : wB.cell? ⟨wA.heap.size, 2, none⟩ = some (.slice AS (aidF c u s).length cS) := by rw [Lib.cell_of_heap hkB]; rfl
      have ql := heap_lt hkB
      have hbV := hbV.alloc hbV.size (aidO (aidU c u s) (aidS c u s) (.slice BS (aidF c u s).length dS))
      have hsB : w.heap.size + 1 ≤ wB.heap.size := by have := hbX.size; simp at this; omega
      have hbX := hbX.alloc hsB (aidO (aidU c u s) (aidS c u s) (.slice BS (aidF c u s).length dS))
      have hva := (hva.below secS hbV).mono secS hbV.size
      have hbW := (Below.refl wB.heap.size wB).alloc (Nat.le_refl _) (aidO (aidU c u s) (aidS c u s) (.slice BS (aidF c u s).length dS))
      have hvb := (hvb.below secS hbW).mono secS hbW.size
      have HSM := Lib.hid (rsame_c (aidU c u s) (aidS c u s) (aidF c u s) _ _ _ _ (Nat.le_refl _) hva hvb)
      clear z0 z1 z2 zl hbB hkA hkB hva hvb hbV hbW
      go_wp2_with fail
      refine HSM.out.mono ?_
      rintro e wS ⟨rfl, hbS⟩
      have hbX := bnd_call hbX (by simp) hbS
      go_wp2
      go_ret
      exact ⟨rfl, b1.trans (hbX.mono (by omega))⟩
  · clear h
    go_enter Tryz.func3, Tryz.ntmps3
    go_wp2_with fail
    refine (HA.out _ b1).mono ?_
    rintro e w1 ⟨rfl, hb1⟩
    have hbX := bnd_call hb0 (by simp) hb1
    obtain ⟨z0, z1, z2, zl⟩ := KC.out _ hbX
    go_wp2_with fail
    refine (HFW.out _ (b1.trans (hbX.mono (by omega)))).mono ?_
    rintro e w2 ⟨⟨b, rfl, hF⟩, hb2⟩
    have hbX := bnd_call hbX (by simp) hb2
    clear hb1 hb2 z0 z1 z2 zl
    cases b
    all_goals
      go_wp2
      go_ret
      exact ⟨rfl, b1.trans (hbX.mono (by omega))⟩
end Go.Proofs.YtbmlnflacdockaaGreatDoor
