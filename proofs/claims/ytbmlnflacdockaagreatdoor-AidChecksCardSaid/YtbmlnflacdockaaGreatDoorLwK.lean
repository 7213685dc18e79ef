/- AidChecks returns true. -/
import Derived.Test.YtbmlnflacdockaaGreatDoorRfG
import Derived.Test.YtbmlnflacdockaaGreatDoorAwk
import Derived.Test.YtbmlnflacdockaaGreatDoorRaD
namespace Go.Proofs.YtbmlnflacdockaaGreatDoor
open Go.RowKit

set_option maxRecDepth 100000 in
set_option maxHeartbeats 8000000 in
theorem checks_law (c : Cat) (s : ByteArray) (v1 v2 v3 : Value) (w : World) (B : Nat) (hB : B ≤ w.heap.size) (h : CatRep w B c v1 v2 v3) (hS : SynOk w) :
    Calls Tryz.prog 4 #[.agg #[v1, v2, v3], .string s] w fun e w' => e = .returned (.bool true) ∧ Below w.heap.size w w' := by
  have HA := Lib.hid (fun (W : World) (hW : Below w.heap.size w W) => awake_c W (hS.below hS.1 hW))
  have b1 : Below w.heap.size w (w.alloc (catC v1 v2 v3)) := (Below.refl _ _).alloc (Nat.le_refl _) _
  have hb0 : Below (w.heap.size + 1) (w.alloc (catC v1 v2 v3)) (w.alloc (catC v1 v2 v3)) := Below.refl _ _
  have KC := Lib.hid (fun (W : World) (hW : Below (w.heap.size + 1) (w.alloc (catC v1 v2 v3)) W) => cat_at3 hW)
  have HFW := Lib.hid (fun (W : World) (hW : Below w.heap.size w W) => few_c c v1 v2 v3 W B (Nat.le_trans hB hW.size) (h.below (hW.mono hB)))
  have HCP := Lib.hid (fun (hF : FewOk c) (W : World) (hW : Below w.heap.size w W) => rcopy_c c v1 v2 v3 W B (Nat.le_trans hB hW.size) (h.below (hW.mono hB)) hF)
  have HCK := Lib.hid (fun (y1 y2 y3 : Value) (W : World) (hc : CatRep W W.heap.size c y1 y2 y3) => Check_c c y1 y2 y3 W W.heap.size (Nat.le_refl _) hc)
  have HPF := Lib.hid (fun (y1 y2 y3 : Value) (W : World) (hc : CatRep W W.heap.size c y1 y2 y3) => Prefer_c c s y1 y2 y3 W W.heap.size (Nat.le_refl _) hc)
  have HRC := Lib.hid (fun (hl : c.sheets.length ≤ 1000) (W : World) (hW : Below w.heap.size w W) => rcheck47_c c v1 v2 v3 W B (Nat.le_trans hB hW.size) (h.below (hW.mono hB)) hl)
  have HRP := Lib.hid (fun (hl : c.sheets.length ≤ 1000) (hl2 : c.langs.length ≤ 1000) (W : World) (hW : Below w.heap.size w W) => rPrefer_c c s v1 v2 v3 W B (Nat.le_trans hB hW.size) (h.below (hW.mono hB)) hl hl2)
  obtain ⟨A1, c1, rfl, ha1, ha2, _⟩ := id h.langs
  obtain ⟨A2, c2, rfl, hb1, hb2, _⟩ := id h.labels
  obtain ⟨A3, c3, rfl, hd1, hd2, _⟩ := id h.sheets
  by_cases h10 : s.size ≤ 10
  · have d2 : decide ((10 : Int) < (s.size : Int)) = false := decide_eq_false (by omega)
    go_enter Tryz.func4, Tryz.ntmps4
    go_wp2_with fail
    refine (HA.out _ b1).mono ?_
    rintro e w1 ⟨rfl, hb1⟩
    have hbX := bnd_call hb0 (by simp) hb1
    obtain ⟨z0, z1, z2, zl⟩ := KC.out _ hbX
    go_wp2_with fail
    refine (HFW.out _ (b1.trans (hbX.mono (by omega)))).mono ?_
    rintro e w2 ⟨⟨b, rfl, hF⟩, hb2⟩
    have hbX := bnd_call hbX (by simp) hb2
    clear hb1 hb2 z0 z1 z2 zl
    obtain ⟨z0, z1, z2, zl⟩ := KC.out _ hbX
    cases b
    · go_wp2
      go_ret
      exact ⟨rfl, b1.trans (hbX.mono (by omega))⟩
    · have hF := hF rfl
      have HCC := Lib.hid (HCP.out hF)
      have HRC := Lib.hid (HRC.out (by have := hF.sheets; omega))
      have HRP := Lib.hid (HRP.out (by have := hF.sheets; omega) (by have := hF.langs; omega))
      clear hF HCP h z0 z1 z2 zl
      go_wp2
      have hbX := hbX.drew
      go_region_held3 (fun W => W.cell? ⟨w.heap.size, 0, none⟩ = some (.slice A1 c.langs.length c1) ∧ W.cell? ⟨w.heap.size, 1, none⟩ = some (.slice A2 c.labels.length c2) ∧ W.cell? ⟨w.heap.size, 2, none⟩ = some (.slice A3 c.sheets.length c3) ∧ w.heap.size < W.heap.size) (with_reducible exact KC.out _ hbX) (first
        | (go_at_call 9; (with_reducible refine (HCC.out _ (b1.trans (hbX.mono (Nat.le_succ _)))).mono ?_); rintro e wC ⟨y1, y2, y3, rfl, hcC, -, hbC⟩; have hbX := bnd_call hbX (by simp) hbC)
        | (go_at_call 12; (with_reducible refine (HCK.out _ _ _ _ hcC).mono ?_); rintro e wK ⟨rfl, hbK⟩; have hbX := bnd_call hbX (by simp) hbK)
        | (go_at_call 13; (with_reducible refine (HRC.out _ (b1.trans (hbX.mono (Nat.le_succ _)))).mono ?_); rintro e wR ⟨rfl, hbR⟩; have hbX := bnd_call hbX (by simp) hbR)
        | (go_at_call 15; (with_reducible refine (HPF.out _ _ _ _ hcC).mono ?_); rintro e wP ⟨vP, rfl, hownP, hbP⟩; have hbX := bnd_call hbX (by simp) hbP; have hpP := hownP.toSl strS)
        | (go_at_call 16; (with_reducible refine (HRP.out _ (b1.trans (hbX.mono (Nat.le_succ _)))).mono ?_); rintro e wQ ⟨vQ, rfl, hownQ, hbQ⟩; have hbX := bnd_call hbX (by simp) hbQ; have hpQ := hownQ.toSl strS; have hpP := (hpP.below strS hbQ).mono strS hbQ.size)
        | (go_at_call 14; (with_reducible refine (equalSt_c (preferR c s) _ _ _ _ (Nat.le_refl _) hpP hpQ).mono ?_); rintro e wE ⟨rfl, hbE⟩; have hbX := bnd_call hbX (by simp) hbE))
      go_wp2
      go_ret
      exact ⟨rfl, b1.trans (hbX.mono (by omega))⟩
  · have d2 : decide ((10 : Int) < (s.size : Int)) = true := decide_eq_true (by omega)
    go_enter Tryz.func4, Tryz.ntmps4
    go_wp2_with fail
    refine (HA.out _ b1).mono ?_
    rintro e w1 ⟨rfl, hb1⟩
    have hbX := bnd_call hb0 (by simp) hb1
    obtain ⟨z0, z1, z2, zl⟩ := KC.out _ hbX
    go_wp2_with fail
    refine (HFW.out _ (b1.trans (hbX.mono (by omega)))).mono ?_
    rintro e w2 ⟨⟨b, rfl, hF⟩, hb2⟩
    have hbX := bnd_call hbX (by simp) hb2
    clear hb1 hb2 z0 z1 z2 zl
    obtain ⟨z0, z1, z2, zl⟩ := KC.out _ hbX
    cases b
    all_goals
      go_wp2
      go_ret
      exact ⟨rfl, b1.trans (hbX.mono (by omega))⟩
end Go.Proofs.YtbmlnflacdockaaGreatDoor
