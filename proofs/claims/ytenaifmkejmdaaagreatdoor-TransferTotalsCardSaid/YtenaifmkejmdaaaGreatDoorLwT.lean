/- TransferTotals returns true (written by gen_lwt.py). -/
import Derived.Test.YtenaifmkejmdaaaGreatDoorRgT
import Derived.Test.YtenaifmkejmdaaaGreatDoorRgV
namespace Go.Proofs.YtenaifmkejmdaaaGreatDoor
open Go.RowKit

theorem Dat.eql (a b c d : Int) (w : World) : (binOp .eql 28 (.agg #[.int .i64 a, .int .i64 b]) (.agg #[.int .i64 c, .int .i64 d])).run Tryz.prog w = .ok (.bool (decide (a = c) && decide (b = d))) w := by
  have hs : ∀ (d : Nat) (xs ys : Array Value), (Op.equalIn (d + 1) 28 (.agg xs) (.agg ys)).run Tryz.prog w = (Op.eqFields d xs ys (Tryz.prog.fieldsOf 28).toList).run Tryz.prog w := fun d xs ys => run_equalIn_struct w d 28 xs ys (by kernel_rfl) (by kernel_rfl)
  simp only [binOp]
  simp [Op.equal, Op.maxDepth, hs 9999, Program.fieldsOf, Tryz.underlying28, go_sem]
  by_cases h0 : a = c <;> by_cases h1 : b = d <;> simp [h0, h1]
set_option maxRecDepth 100000 in
set_option maxHeartbeats 8000000 in
theorem totals_law (l : TL) (n : Int) (v : Value) (w : World) (B : Nat) (hB : B ≤ w.heap.size) (h : TLRep w B l v) (hV : VarOk w) :
    Calls Tryz.prog 3 #[tlV l v, .int .i64 n] w fun e w' => e = .returned (.bool true) ∧ Below w.heap.size w w' := by
  have b00 : Below w.heap.size w (w.alloc (tlC l v)) := (Below.refl _ _).alloc (Nat.le_refl _) _
  have hb0 : Below (w.heap.size + 1) (w.alloc (tlC l v)) (w.alloc (tlC l v)) := Below.refl _ _
  have KC := Lib.hid (fun (W : World) (hW : Below (w.heap.size + 1) (w.alloc (tlC l v)) W) => tlW_at hW)
  have HA := Lib.hid (fun (W : World) (hW : Below w.heap.size w W) => awake_c W (hV.below hW))
  have HFW := Lib.hid (fun (W : World) (hW : Below w.heap.size w W) => few_c l v W B (Nat.le_trans hB hW.size) (h.below itmS (hW.mono hB)))
  have HCP := Lib.hid (fun (hF : fewT l = true) (W : World) (hW : Below w.heap.size w W) => cp_c l v W B (Nat.le_trans hB hW.size) (h.below itmS (hW.mono hB)) (by have := few_len hF; omega))
  have HTO := Lib.hid (fun (v' : Value) (W : World) (hW : Below w.heap.size w W) (hr : TLRep W W.heap.size l v') => total_c l v' W _ (Nat.le_refl _) hr (hV.below hW))
  have HRT := Lib.hid (fun (W : World) (hW : Below w.heap.size w W) => rtotal_c l v W B (Nat.le_trans hB hW.size) (h.below itmS (hW.mono hB)))
  have HDV := Lib.hid (fun (v' : Value) (W : World) (hW : Below w.heap.size w W) (hr : TLRep W W.heap.size l v') => divide_c l v' n W _ (Nat.le_refl _) hr (hV.below hW))
  have HRD := Lib.hid (fun (W : World) (hW : Below w.heap.size w W) => rdivide_c l v n W B (Nat.le_trans hB hW.size) (h.below itmS (hW.mono hB)))
  obtain ⟨A, c, rfl, -⟩ := id h
  go_enter Tryz.func3, Tryz.ntmps3
  go_wp2_with fail
  refine (HA.out _ b00).mono ?_
  rintro e w1 ⟨rfl, hb1⟩
  have hbX := bnd_call hb0 (by simp) hb1
  obtain ⟨z0, z1, z2, z3, zl⟩ := KC.out _ hbX
  clear hb1
  go_wp2_with fail
  refine (HFW.out _ (up_box hbX)).mono ?_
  rintro e w2 ⟨rfl, hb2⟩
  have hbX := bnd_call hbX (by simp) hb2
  clear hb2 z0 z1 z2 z3 zl
  obtain ⟨z0, z1, z2, z3, zl⟩ := KC.out _ hbX
  cases hf : fewT l
  · clear hf
    go_wp2_with fail
    refine (HA.out _ (up_box hbX)).mono ?_
    rintro e w3 ⟨rfl, hb3⟩
    have hbX := bnd_call hbX (by simp) hb3
    go_wp2
    go_ret
    exact ⟨rfl, up_box hbX⟩
  · have HCP := Lib.hid (HCP.out hf)
    clear hf h
    go_wp2_with fail
    refine (HCP.out _ (up_box hbX)).mono ?_
    rintro e w3 ⟨v3, rfl, h3, hb3⟩
    have hbX := bnd_call hbX (by simp) hb3
    have h3 := h3.toSl itmS
    have HT := Lib.hid (HTO.out v3 _ (up_box hbX) h3)
    obtain ⟨A3, c3, rfl, -⟩ := h3
    obtain ⟨mn, hmn⟩ : ∃ m, totA l = m := ⟨_, rfl⟩
    obtain ⟨mx, hmx⟩ : ∃ m, totB l = m := ⟨_, rfl⟩
    obtain ⟨tp, htp⟩ : ∃ m, totP l = m := ⟨_, rfl⟩
    obtain ⟨te, hte⟩ : ∃ m, totE l = m := ⟨_, rfl⟩
    simp only [hmn, hmx, htp, hte] at HT HRT
    clear hb3 z0 z1 z2 z3 zl hmn hmx htp hte
    go_wp2_with fail
    refine HT.out.mono ?_
    rintro e w4 ⟨rfl, hb4⟩
    have hbX := bnd_call hbX (by simp) hb4
    clear hb4 HT
    have hbX := bnd_call hbX (by simp) ((Below.refl _ _).alloc (Nat.le_refl _) (datC mn mx) : Below w4.heap.size w4 (w4.alloc (datC mn mx)))
    have KD := Lib.hid (fun (W : World) (hW : Below (w4.heap.size + 1) (w4.alloc (datC mn mx)) W) => (have hd := (hW.block w4.heap.size (by simp)).trans (heap_newA w4 (datC mn mx)); have hc := dat_cells hd; ⟨hc.1, hc.2.1, hc.2.2.2.2⟩ : W.cell? ⟨w4.heap.size, 0, none⟩ = some (.int .i64 mn) ∧ W.cell? ⟨w4.heap.size, 1, none⟩ = some (.int .i64 mx) ∧ w4.heap.size < W.heap.size))
    have hbD : Below (w4.heap.size + 1) (w4.alloc (datC mn mx)) (w4.alloc (datC mn mx)) := Below.refl _ _
    obtain ⟨z0, z1, z2, z3, zl⟩ := KC.out _ hbX
    go_wp2_with fail
    refine (HRT.out _ (up_box hbX)).mono ?_
    rintro e w5 ⟨rfl, hb5⟩
    have hbX := bnd_call hbX (by simp) hb5
    have hbD := bnd_call hbD (by simp) hb5
    clear hb5 z0 z1 z2 z3 zl
    have o5 : Below w5.heap.size w5 (w5.alloc (datC mn mx)) := (Below.refl _ _).alloc (Nat.le_refl _) _
    have hbX := bnd_call hbX (by simp) o5
    have hbD := bnd_call hbD (by simp) o5
    have KG := Lib.hid (fun (W : World) (hW : Below (w5.heap.size + 1) (w5.alloc (datC mn mx)) W) => (have hd := (hW.block w5.heap.size (by simp)).trans (heap_newA w5 (datC mn mx)); have hc := dat_cells hd; ⟨hc.1, hc.2.1, hc.2.2.2.2⟩ : W.cell? ⟨w5.heap.size, 0, none⟩ = some (.int .i64 mn) ∧ W.cell? ⟨w5.heap.size, 1, none⟩ = some (.int .i64 mx) ∧ w5.heap.size < W.heap.size))
    have hbG : Below (w5.heap.size + 1) (w5.alloc (datC mn mx)) (w5.alloc (datC mn mx)) := Below.refl _ _
    obtain ⟨z0, z1, z2, z3, zl⟩ := KC.out _ hbX
    go_wp2_with fail
    refine (HCP.out _ (up_box hbX)).mono ?_
    rintro e w6 ⟨v6, rfl, h6, hb6⟩
    have hbX := bnd_call hbX (by simp) hb6
    have hbD := bnd_call hbD (by simp) hb6
    have hbG := bnd_call hbG (by simp) hb6
    have h6 := h6.toSl itmS
    have HT := Lib.hid (HDV.out v6 _ (up_box hbX) h6)
    unfold divR at HT
    obtain ⟨A6, c6, rfl, -⟩ := h6
    clear hb6 z0 z1 z2 z3 zl o5
    go_wp2_with fail
    refine HT.out.mono ?_
    rintro e w7 ⟨vp, rfl, hp, hb7⟩
    have hbX := bnd_call hbX (by simp) hb7
    have hbD := bnd_call hbD (by simp) hb7
    have hbG := bnd_call hbG (by simp) hb7
    have hp := hp.toSl intS
    obtain ⟨z0, z1, z2, z3, zl⟩ := KC.out _ hbX
    have HT := Lib.hid (HRD.out _ (up_box hbX))
    unfold divR at HT
    clear hb7
    go_wp2_with fail
    refine HT.out.mono ?_
    rintro e w8 ⟨vq, rfl, hq, hb8⟩
    have hbX := bnd_call hbX (by simp) hb8
    have hbD := bnd_call hbD (by simp) hb8
    have hbG := bnd_call hbG (by simp) hb8
    have hp := (hp.below intS hb8).mono intS hb8.size
    have hq := hq.toSl intS
    clear hb8 HT z0 z1 z2 z3 zl
    obtain ⟨d0, d1, dl⟩ := KD.out _ hbD
    obtain ⟨g0, g1, gl⟩ := KG.out _ hbG
    have HEQ := Lib.hid (equalIn_c (divF l n) vp vq w8 _ (Nat.le_refl _) hp hq)
    obtain ⟨Ap, np, cp, rfl⟩ : ∃ A n c, vp = .slice A n c := by obtain ⟨A, c, h, -⟩ := hp; exact ⟨A, _, c, h⟩
    obtain ⟨Aq, nq, cq, rfl⟩ : ∃ A n c, vq = .slice A n c := by obtain ⟨A, c, h, -⟩ := hq; exact ⟨A, _, c, h⟩
    obtain ⟨de, hde⟩ : ∃ m, divE l n = m := ⟨_, rfl⟩
    simp only [hde]
    clear hde hp hq
    have hq1 : (tp == tp) = true := by simp
    have hq2 : (te == te) = true := by simp
    have hq3 : (de == de) = true := by simp
    have heq := fun W : World => Dat.eql mn mx mn mx W
    simp only [decide_true, Bool.and_self] at heq
    go_wp2_with fail
    refine HEQ.out.mono ?_
    rintro e w9 ⟨rfl, hb9⟩
    have hbX := bnd_call hbX (by simp) hb9
    go_wp2
    go_ret
    exact ⟨rfl, up_box hbX⟩
end Go.Proofs.YtenaifmkejmdaaaGreatDoor
