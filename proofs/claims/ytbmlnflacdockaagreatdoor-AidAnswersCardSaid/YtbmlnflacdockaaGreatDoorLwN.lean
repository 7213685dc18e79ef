/- AidAnswers returns true. -/
import Derived.Test.YtbmlnflacdockaaGreatDoorRfG
import Derived.Test.YtbmlnflacdockaaGreatDoorAwk
import Derived.Test.YtbmlnflacdockaaGreatDoorRaH
namespace Go.Proofs.YtbmlnflacdockaaGreatDoor
open Go.RowKit

abbrev qsC (a b d : Int) (l t : ByteArray) : Obj := .cells #[.int .i64 a, .int .i64 b, .int .i64 d, .string l, .string t] 43
abbrev qsW (w : World) (v1 v2 v3 : Value) (a b d : Int) (l t : ByteArray) : World := (w.alloc (catC v1 v2 v3)).alloc (qsC a b d l t)
def QsAt (w : World) (v1 v2 v3 : Value) (a b d : Int) (l t : ByteArray) (W : World) : Prop := W.cell? ⟨w.heap.size, 0, none⟩ = some v1 ∧ W.cell? ⟨w.heap.size, 1, none⟩ = some v2 ∧ W.cell? ⟨w.heap.size, 2, none⟩ = some v3 ∧ W.cell? ⟨w.heap.size + 1, 0, none⟩ = some (.int .i64 a) ∧ W.cell? ⟨w.heap.size + 1, 1, none⟩ = some (.int .i64 b) ∧ W.cell? ⟨w.heap.size + 1, 2, none⟩ = some (.int .i64 d) ∧ W.cell? ⟨w.heap.size + 1, 3, none⟩ = some (.string l) ∧ W.cell? ⟨w.heap.size + 1, 4, none⟩ = some (.string t) ∧ w.heap.size + 1 < W.heap.size ∧ w.heap.size < W.heap.size
theorem qs_at {w W : World} {v1 v2 v3 : Value} {a b d : Int} {l t : ByteArray} (hW : Below (w.heap.size + 2) (qsW w v1 v2 v3 a b d l t) W) : QsAt w v1 v2 v3 a b d l t W := by
  have h0 : (qsW w v1 v2 v3 a b d l t).heap[w.heap.size]? = some (catC v1 v2 v3) := by
    rw [Below.heap_alloc _ _ _ (by simp)]
    exact heap_newT _ _
  have h1 : (qsW w v1 v2 v3 a b d l t).heap[w.heap.size + 1]? = some (qsC a b d l t) := heap_atL _ _ _ (by simp)
  have k0 := (hW.block _ (by omega)).trans h0
  have k1 := (hW.block _ (by omega)).trans h1
  exact ⟨by rw [Lib.cell_of_heap k0]; rfl, by rw [Lib.cell_of_heap k0]; rfl, by rw [Lib.cell_of_heap k0]; rfl, by rw [Lib.cell_of_heap k1]; rfl, by rw [Lib.cell_of_heap k1]; rfl, by rw [Lib.cell_of_heap k1]; rfl, by rw [Lib.cell_of_heap k1]; rfl, by rw [Lib.cell_of_heap k1]; rfl, heap_ltT k1, heap_ltT k0⟩
theorem few14N {c : Cat} (hF : FewOk c) (h : catE c = 0) : c.sheets.length ≤ 14 := by
  have := (catE_zero h).2.2.1
  rcases hF.small with h1 | h1 <;> omega
set_option maxRecDepth 100000 in
set_option maxHeartbeats 8000000 in
theorem answers_law (c : Cat) (qa qb qc : Int) (qd qe : ByteArray) (v1 v2 v3 : Value) (w : World) (B : Nat) (hB : B ≤ w.heap.size) (h : CatRep w B c v1 v2 v3) (hS : SynOk w) :
    Calls Tryz.prog 5 #[.agg #[v1, v2, v3], .agg #[.int .i64 qa, .int .i64 qb, .int .i64 qc, .string qd, .string qe]] w fun e w' => e = .returned (.bool true) ∧ Below w.heap.size w w' := by
  have HA := Lib.hid (fun (W : World) (hW : Below w.heap.size w W) => awake_c W (hS.below hS.1 hW))
  have HSY := Lib.hid (fun (W : World) (hW : Below w.heap.size w W) => hS.below hS.1 hW)
  have b1 : Below w.heap.size w (qsW w v1 v2 v3 qa qb qc qd qe) := ((Below.refl _ _).alloc (Nat.le_refl _) _).alloc (by simp) _
  have hb0 : Below (w.heap.size + 2) (qsW w v1 v2 v3 qa qb qc qd qe) (qsW w v1 v2 v3 qa qb qc qd qe) := Below.refl _ _
  have KC := Lib.hid (fun (W : World) (hW : Below (w.heap.size + 2) (qsW w v1 v2 v3 qa qb qc qd qe) W) => qs_at hW)
  unfold QsAt at KC
  have HFW := Lib.hid (fun (W : World) (hW : Below w.heap.size w W) => few_c c v1 v2 v3 W B (Nat.le_trans hB hW.size) (h.below (hW.mono hB)))
  have HCP := Lib.hid (fun (hF : FewOk c) (W : World) (hW : Below w.heap.size w W) => rcopy_c c v1 v2 v3 W B (Nat.le_trans hB hW.size) (h.below (hW.mono hB)) hF)
  have HNU := Lib.hid (fun (hF : FewOk c) (y1 y2 y3 : Value) (W : World) (hc : CatRep W W.heap.size c y1 y2 y3) => Number_c c qb qa y1 y2 y3 W W.heap.size (Nat.le_refl _) hc (few14N hF))
  have HRN := Lib.hid (fun (hF : FewOk c) (W : World) (hW : Below w.heap.size w W) => rNumber_c c qb qa v1 v2 v3 W B (Nat.le_trans hB hW.size) (h.below (hW.mono hB)) (by have := hF.sheets; omega) (few14N hF))
  have HCH := Lib.hid (fun (y1 y2 y3 : Value) (W : World) (hc : CatRep W W.heap.size c y1 y2 y3) => Choose_c c qa qd y1 y2 y3 W W.heap.size (Nat.le_refl _) hc)
  have HRC := Lib.hid (fun (hF : FewOk c) (W : World) (hW : Below w.heap.size w W) => rChoose_c c qa qd v1 v2 v3 W B (Nat.le_trans hB hW.size) (h.below (hW.mono hB)) (by have := hF.sheets; omega) (by have := hF.langs; omega))
  have HNM := Lib.hid (fun (y1 y2 y3 : Value) (W : World) (hc : CatRep W W.heap.size c y1 y2 y3) => Name_c c qc qd y1 y2 y3 W W.heap.size (Nat.le_refl _) hc)
  have HRM := Lib.hid (fun (hF : FewOk c) (W : World) (hW : Below w.heap.size w W) => rName_c c qc qd v1 v2 v3 W B (Nat.le_trans hB hW.size) (h.below (hW.mono hB)) (by have := hF.sheets; omega) (by have := hF.langs; omega))
  have HCI := Lib.hid (fun (y1 y2 y3 : Value) (W : World) (hc : CatRep W W.heap.size c y1 y2 y3) => Cite_c c qa y1 y2 y3 W W.heap.size (Nat.le_refl _) hc)
  have HRI := Lib.hid (fun (hF : FewOk c) (W : World) (hW : Below w.heap.size w W) => rCite_c c qa v1 v2 v3 W B (Nat.le_trans hB hW.size) (h.below (hW.mono hB)) (by have := hF.sheets; omega))
  have HEX := Lib.hid (fun (ht : qe.size ≤ 100) (y1 y2 y3 : Value) (W : World) (hW : Below w.heap.size w W) (hc : CatRep W W.heap.size c y1 y2 y3) => Expand_c c qe y1 y2 y3 W W.heap.size (Nat.le_refl _) hc (by omega) (hS.below hS.1 hW))
  have HRX := Lib.hid (fun (ht : qe.size ≤ 100) (hF : FewOk c) (W : World) (hW : Below w.heap.size w W) => rExpand_c c qe v1 v2 v3 W B (Nat.le_trans hB hW.size) (h.below (hW.mono hB)) (by have := hF.sheets; omega) (by omega))
  by_cases h10 : qd.size ≤ 10 ∧ qe.size ≤ 100
  · obtain ⟨h10, h100⟩ := h10
    have d2 : decide ((10 : Int) < (qd.size : Int)) = false := decide_eq_false (by omega)
    have d3 : decide ((100 : Int) < (qe.size : Int)) = false := decide_eq_false (by omega)
    have HEX := Lib.hid (HEX.out h100)
    have HRX := Lib.hid (HRX.out h100)
    go_enter Tryz.func5, Tryz.ntmps5
    go_wp2_with fail
    refine (HA.out _ b1).mono ?_
    rintro e w1 ⟨rfl, hb1⟩
    have hbX := bnd_call hb0 (by simp) hb1
    obtain ⟨z0, z1, z2, u0, u1, u2, u3, u4, zl, zl2⟩ := KC.out _ hbX
    go_wp2_with fail
    refine (HFW.out _ (b1.trans (hbX.mono (by omega)))).mono ?_
    rintro e w2 ⟨⟨b, rfl, hF⟩, hb2⟩
    have hbX := bnd_call hbX (by simp) hb2
    clear hb1 hb2 z0 z1 z2 u0 u1 u2 u3 u4 zl zl2
    obtain ⟨z0, z1, z2, u0, u1, u2, u3, u4, zl, zl2⟩ := KC.out _ hbX
    cases b
    · go_wp2
      go_ret
      exact ⟨rfl, b1.trans (hbX.mono (by omega))⟩
    · have hF := hF rfl
      have HCC := Lib.hid (HCP.out hF)
      have HNU := Lib.hid (HNU.out hF)
      have HRN := Lib.hid (HRN.out hF)
      have HRC := Lib.hid (HRC.out hF)
      have HRM := Lib.hid (HRM.out hF)
      have HRI := Lib.hid (HRI.out hF)
      have HRX := Lib.hid (HRX.out hF)
      clear hF HCP h
      go_wp2
      clear z0 z1 z2 u0 u1 u2 u3 u4 zl zl2
      have hbX := hbX.drew
      go_region_held3 (fun W => W.cell? ⟨w.heap.size, 0, none⟩ = some v1 ∧ W.cell? ⟨w.heap.size, 1, none⟩ = some v2 ∧ W.cell? ⟨w.heap.size, 2, none⟩ = some v3 ∧ W.cell? ⟨w.heap.size + 1, 0, none⟩ = some (.int .i64 qa) ∧ W.cell? ⟨w.heap.size + 1, 1, none⟩ = some (.int .i64 qb) ∧ W.cell? ⟨w.heap.size + 1, 2, none⟩ = some (.int .i64 qc) ∧ W.cell? ⟨w.heap.size + 1, 3, none⟩ = some (.string qd) ∧ W.cell? ⟨w.heap.size + 1, 4, none⟩ = some (.string qe) ∧ w.heap.size + 1 < W.heap.size ∧ w.heap.size < W.heap.size) (with_reducible exact KC.out _ hbX) (first
        | (go_at_call 9; (with_reducible refine (HCC.out _ (b1.trans (hbX.mono (Nat.le_add_right _ _)))).mono ?_); rintro e wC ⟨y1, y2, y3, rfl, hcC, -, hbC⟩; have hbX := bnd_call hbX (by simp) hbC)
        | (go_at_call 17; (with_reducible refine (HNU.out _ _ _ _ hcC).mono ?_); rintro e wK ⟨rfl, hbK⟩; have hbX := bnd_call hbX (by simp) hbK))
      obtain ⟨z0, z1, z2, u0, u1, u2, u3, u4, zl, zl2⟩ := KC.out _ hbX
      go_wp2_with fail
      refine (HRN.out _ (b1.trans (hbX.mono (Nat.le_add_right _ _)))).mono ?_
      rintro e wR ⟨rfl, hbR⟩
      have hbX := bnd_call hbX (by simp) hbR
      clear z0 z1 z2 u0 u1 u2 u3 u4 zl zl2
      go_wp2
      have hbX := hbX.drew
      simp only [List.append]
      go_region_held3 (fun W => W.cell? ⟨w.heap.size, 0, none⟩ = some v1 ∧ W.cell? ⟨w.heap.size, 1, none⟩ = some v2 ∧ W.cell? ⟨w.heap.size, 2, none⟩ = some v3 ∧ W.cell? ⟨w.heap.size + 1, 0, none⟩ = some (.int .i64 qa) ∧ W.cell? ⟨w.heap.size + 1, 1, none⟩ = some (.int .i64 qb) ∧ W.cell? ⟨w.heap.size + 1, 2, none⟩ = some (.int .i64 qc) ∧ W.cell? ⟨w.heap.size + 1, 3, none⟩ = some (.string qd) ∧ W.cell? ⟨w.heap.size + 1, 4, none⟩ = some (.string qe) ∧ w.heap.size + 1 < W.heap.size ∧ w.heap.size < W.heap.size) (with_reducible exact KC.out _ hbX) (first
        | (go_at_call 9; (with_reducible refine (HCC.out _ (b1.trans (hbX.mono (Nat.le_add_right _ _)))).mono ?_); rintro e wC ⟨y1, y2, y3, rfl, hcC, -, hbC⟩; have hbX := bnd_call hbX (by simp) hbC; have hbCw := (b1.trans (hbX.mono (Nat.le_add_right _ _))))
        | (go_at_call 20; (with_reducible refine (HCH.out _ _ _ _ hcC).mono ?_); rintro e wP ⟨vP, rfl, hownP, hbP⟩; have hbX := bnd_call hbX (by simp) hbP; have hpP := hownP.toSl fctS)
        | (go_at_call 21; (with_reducible refine (HRC.out _ (b1.trans (hbX.mono (Nat.le_add_right _ _)))).mono ?_); rintro e wQ ⟨vQ, rfl, hownQ, hbQ⟩; have hbX := bnd_call hbX (by simp) hbQ; have hpQ := hownQ.toSl fctS; have hpP := (hpP.below fctS hbQ).mono fctS hbQ.size)
        | (go_at_call 19; (with_reducible refine (equalFc_c (chooseR c qa qd) _ _ _ _ (Nat.le_refl _) hpP hpQ).mono ?_); rintro e wE ⟨rfl, hbE⟩; have hbX := bnd_call hbX (by simp) hbE)
        | (go_at_call 22; (with_reducible refine (HNM.out _ _ _ _ hcC).mono ?_); rintro e wN ⟨rfl, hbN⟩; have hbX := bnd_call hbX (by simp) hbN)
        | (go_at_call 24; (with_reducible refine (HCI.out _ _ _ _ hcC).mono ?_); rintro e wN ⟨rfl, hbN⟩; have hbX := bnd_call hbX (by simp) hbN)
        | (go_at_call 26; (with_reducible refine (HEX.out _ _ _ _ hbCw hcC).mono ?_); rintro e wN ⟨rfl, hbN⟩; have hbX := bnd_call hbX (by simp) hbN)
        | (go_at_call 23; (with_reducible refine (HRM.out _ (b1.trans (hbX.mono (Nat.le_add_right _ _)))).mono ?_); rintro e wN ⟨rfl, hbN⟩; have hbX := bnd_call hbX (by simp) hbN)
        | (go_at_call 25; (with_reducible refine (HRI.out _ (b1.trans (hbX.mono (Nat.le_add_right _ _)))).mono ?_); rintro e wN ⟨rfl, hbN⟩; have hbX := bnd_call hbX (by simp) hbN)
        | (go_at_call 27; (with_reducible refine (HRX.out _ (b1.trans (hbX.mono (Nat.le_add_right _ _)))).mono ?_); rintro e wN ⟨rfl, hbN⟩; have hbX := bnd_call hbX (by simp) hbN))
      go_wp2
      go_ret
      exact ⟨rfl, b1.trans (hbX.mono (by omega))⟩
  · have hd : (decide ((10 : Int) < (qd.size : Int)) = true) ∨ (decide ((10 : Int) < (qd.size : Int)) = false ∧ decide ((100 : Int) < (qe.size : Int)) = true) := by
      by_cases h1 : qd.size ≤ 10
      · exact Or.inr ⟨decide_eq_false (by omega), decide_eq_true (by omega)⟩
      · exact Or.inl (decide_eq_true (by omega))
    have fin : ∀ (d1 : decide ((10 : Int) < (qd.size : Int)) = true ∨ (decide ((10 : Int) < (qd.size : Int)) = false ∧ decide ((100 : Int) < (qe.size : Int)) = true)), Calls Tryz.prog 5 #[.agg #[v1, v2, v3], .agg #[.int .i64 qa, .int .i64 qb, .int .i64 qc, .string qd, .string qe]] w fun e w' => e = .returned (.bool true) ∧ Below w.heap.size w w' := by
      intro d1
      rcases d1 with d2 | ⟨d2, d3⟩
      all_goals
        clear hd h10
        go_enter Tryz.func5, Tryz.ntmps5
        go_wp2_with fail
        refine (HA.out _ b1).mono ?_
        rintro e w1 ⟨rfl, hb1⟩
        have hbX := bnd_call hb0 (by simp) hb1
        obtain ⟨z0, z1, z2, u0, u1, u2, u3, u4, zl, zl2⟩ := KC.out _ hbX
        go_wp2_with fail
        refine (HFW.out _ (b1.trans (hbX.mono (by omega)))).mono ?_
        rintro e w2 ⟨⟨b, rfl, hF⟩, hb2⟩
        have hbX := bnd_call hbX (by simp) hb2
        clear hb1 hb2 z0 z1 z2 u0 u1 u2 u3 u4 zl zl2
        obtain ⟨z0, z1, z2, u0, u1, u2, u3, u4, zl, zl2⟩ := KC.out _ hbX
        cases b
        all_goals
          go_wp2
          go_ret
          exact ⟨rfl, b1.trans (hbX.mono (by omega))⟩
    exact fin hd
end Go.Proofs.YtbmlnflacdockaaGreatDoor
