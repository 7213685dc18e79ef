/- TransferDiffers returns true (written by gen_lwx.py). -/
import Derived.Test.YtenaifmkejmdaaaGreatDoorRgF
namespace Go.Proofs.YtenaifmkejmdaaaGreatDoor
open Go.RowKit

set_option maxRecDepth 100000 in
set_option maxHeartbeats 8000000 in
theorem differs_law (a b : TL) (va vb : Value) (w : World) (B : Nat) (hB : B ≤ w.heap.size) (ha : TLRep w B a va) (hb : TLRep w B b vb) (hV : VarOk w) :
    Calls Tryz.prog 6 #[tlV a va, tlV b vb] w fun e w' => e = .returned (.bool true) ∧ Below w.heap.size w w' := by
  have hb0 : Below (w.heap.size + 2) (smW w a b va vb) (smW w a b va vb) := Below.refl _ _
  have KC := Lib.hid (fun (W : World) (hW : Below (w.heap.size + 2) (smW w a b va vb) W) => smW_two hW)
  have HUP := Lib.hid (fun (W : World) (hW : Below (w.heap.size + 2) (smW w a b va vb) W) => up_two hW)
  have HA := Lib.hid (fun (W : World) (hW : Below w.heap.size w W) => awake_c W (hV.below hW))
  have HFA := Lib.hid (fun (W : World) (hW : Below w.heap.size w W) => few_c a va W B (Nat.le_trans hB hW.size) (ha.below itmS (hW.mono hB)))
  have HFB := Lib.hid (fun (W : World) (hW : Below w.heap.size w W) => few_c b vb W B (Nat.le_trans hB hW.size) (hb.below itmS (hW.mono hB)))
  have HCA := Lib.hid (fun (hF : fewT a = true) (W : World) (hW : Below w.heap.size w W) => cp_c a va W B (Nat.le_trans hB hW.size) (ha.below itmS (hW.mono hB)) (by have := few_len hF; omega))
  have HCB := Lib.hid (fun (hF : fewT b = true) (W : World) (hW : Below w.heap.size w W) => cp_c b vb W B (Nat.le_trans hB hW.size) (hb.below itmS (hW.mono hB)) (by have := few_len hF; omega))
  have HDF := Lib.hid (fun (x y : Value) (W : World) (hW : Below w.heap.size w W) (h1 : TLRep W W.heap.size a x) (h2 : TLRep W W.heap.size b y) => (show Calls Tryz.prog 25 #[tlV a x, tlV b y] W fun e w' => difQ a b W e w' from differ_c a b x y W _ (Nat.le_refl _) h1 h2 (hV.below hW)))
  have HRD := Lib.hid (fun (W : World) (hW : Below w.heap.size w W) => (show Calls Tryz.prog 26 #[tlV a va, tlV b vb] W fun e w' => difQ a b W e w' from rdiffer_c a b va vb W B (Nat.le_trans hB hW.size) (ha.below itmS (hW.mono hB)) (hb.below itmS (hW.mono hB))))
  have HEQ := Lib.hid (fun (x y : Value) (W : World) (h1 : SlRep 1 (flat intEnc) W (fun b => b < W.heap.size) (difL a b) x) (h2 : SlRep 1 (flat intEnc) W (fun b => b < W.heap.size) (difL a b) y) => equalIn_c (difL a b) x y W _ (Nat.le_refl _) h1 h2)
  unfold difQ at HDF HRD
  obtain ⟨de, hde⟩ : ∃ d, difE a b = d := ⟨_, rfl⟩
  obtain ⟨dl, hdl⟩ : ∃ d, difL a b = d := ⟨_, rfl⟩
  rw [hde, hdl] at HDF HRD
  rw [hdl] at HEQ
  clear hde hdl
  obtain ⟨Aa, ca, rfl, -⟩ := id ha
  obtain ⟨Ab, cb, rfl, -⟩ := id hb
  obtain ⟨⟨z0, z1, z2, z3, zl⟩, y0, y1, y2, y3, yl⟩ := KC.out _ hb0
  go_enter Tryz.func6, Tryz.ntmps6
  go_wp2_with fail
  refine (HA.out _ (HUP.out _ hb0)).mono ?_
  rintro e w1 ⟨rfl, hb1⟩
  have hbX := bnd_call hb0 (by simp) hb1
  clear z0 z1 z2 z3 zl y0 y1 y2 y3 yl hb1
  obtain ⟨⟨z0, z1, z2, z3, zl⟩, y0, y1, y2, y3, yl⟩ := KC.out _ hbX
  go_wp2_with fail
  refine (HFA.out _ (HUP.out _ hbX)).mono ?_
  rintro e w2 ⟨rfl, hb2⟩
  have hbX := bnd_call hbX (by simp) hb2
  clear z0 z1 z2 z3 zl y0 y1 y2 y3 yl hb2
  obtain ⟨⟨z0, z1, z2, z3, zl⟩, y0, y1, y2, y3, yl⟩ := KC.out _ hbX
  cases hfa : fewT a
  · clear hfa
    go_wp2_with fail
    refine (HA.out _ (HUP.out _ hbX)).mono ?_
    rintro e w3 ⟨rfl, hb3⟩
    have hbX := bnd_call hbX (by simp) hb3
    go_wp2
    go_ret
    exact ⟨rfl, HUP.out _ hbX⟩
  · have HCA := Lib.hid (HCA.out hfa)
    clear hfa
    go_wp2_with fail
    refine (HFB.out _ (HUP.out _ hbX)).mono ?_
    rintro e w2 ⟨rfl, hb2⟩
    have hbX := bnd_call hbX (by simp) hb2
    clear z0 z1 z2 z3 zl y0 y1 y2 y3 yl hb2
    obtain ⟨⟨z0, z1, z2, z3, zl⟩, y0, y1, y2, y3, yl⟩ := KC.out _ hbX
    cases hfb : fewT b
    · clear hfb
      go_wp2_with fail
      refine (HA.out _ (HUP.out _ hbX)).mono ?_
      rintro e w3 ⟨rfl, hb3⟩
      have hbX := bnd_call hbX (by simp) hb3
      go_wp2
      go_ret
      exact ⟨rfl, HUP.out _ hbX⟩
    · have HCB := Lib.hid (HCB.out hfb)
      clear hfb ha hb z0 z1 z2 z3 zl y0 y1 y2 y3 yl
      go_wp2
      have hbX := hbX.drew
      go_region_held3 (fun W => (W.cell? ⟨w.heap.size, 0, none⟩ = some (.int .i64 a.id) ∧ W.cell? ⟨w.heap.size, 1, none⟩ = some (.int .i64 a.office) ∧ W.cell? ⟨w.heap.size, 2, none⟩ = some (.int .i64 a.day) ∧ W.cell? ⟨w.heap.size, 3, none⟩ = some (.slice Aa a.items.length ca) ∧ w.heap.size < W.heap.size) ∧ W.cell? ⟨w.heap.size + 1, 0, none⟩ = some (.int .i64 b.id) ∧ W.cell? ⟨w.heap.size + 1, 1, none⟩ = some (.int .i64 b.office) ∧ W.cell? ⟨w.heap.size + 1, 2, none⟩ = some (.int .i64 b.day) ∧ W.cell? ⟨w.heap.size + 1, 3, none⟩ = some (.slice Ab b.items.length cb) ∧ w.heap.size + 1 < W.heap.size) (with_reducible exact KC.out _ hbX) (first
        | (go_at_call 11; (with_reducible refine (HCA.out _ (HUP.out _ hbX)).mono ?_); rintro e wC ⟨va', rfl, hva, hbC⟩; have hbX := bnd_call hbX (by simp) hbC; have hva := hva.toSl itmS; obtain ⟨Ac, cc, rfl, -⟩ := id hva)
        | (go_at_call 11; (with_reducible refine (HCB.out _ (HUP.out _ hbX)).mono ?_); rintro e wD ⟨vb', rfl, hvb, hbD⟩; have hva := (hva.below itmS hbD).mono itmS hbD.size; have hbX := bnd_call hbX (by simp) hbD; have hvb := hvb.toSl itmS; obtain ⟨Ad, cd, rfl, -⟩ := id hvb)
        | (go_at_call 25; (with_reducible refine (HDF.out _ _ _ (HUP.out _ hbX) hva hvb).mono ?_); rintro e wE ⟨vl, rfl, hvl, hbE⟩; have hbX := bnd_call hbX (by simp) hbE))
      have hvl := hvl.toSl intS
      clear hva hvb
      obtain ⟨⟨z0, z1, z2, z3, zl⟩, y0, y1, y2, y3, yl⟩ := KC.out _ hbX
      obtain ⟨Al, cl, rfl, -⟩ := id hvl
      go_wp2_with fail
      refine (HRD.out _ (HUP.out _ hbX)).mono ?_
      rintro e wF ⟨vm, rfl, hvm, hbF⟩
      have hvl := (hvl.below intS hbF).mono intS hbF.size
      have hvm := hvm.toSl intS
      have hbX := bnd_call hbX (by simp) hbF
      have HE := Lib.hid (HEQ.out _ _ _ hvl hvm)
      obtain ⟨Am, cm, rfl, -⟩ := id hvm
      have hde : (de == de) = true := by simp
      clear hvl hvm z0 z1 z2 z3 zl y0 y1 y2 y3 yl
      go_wp2_with fail
      refine HE.out.mono ?_
      rintro e wG ⟨rfl, hbG⟩
      have hbX := bnd_call hbX (by simp) hbG
      go_wp2
      go_ret
      exact ⟨rfl, HUP.out _ hbX⟩
end Go.Proofs.YtenaifmkejmdaaaGreatDoor
