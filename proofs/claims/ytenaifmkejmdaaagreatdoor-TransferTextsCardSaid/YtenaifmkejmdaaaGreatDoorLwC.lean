/- TransferChecks returns true (written by gen_lwc.py). -/
import Derived.Test.YtenaifmkejmdaaaGreatDoorRgD
namespace Go.Proofs.YtenaifmkejmdaaaGreatDoor
open Go.RowKit

theorem Item.eql (x y : Item) (w : World) : (binOp .eql 47 (itmV x) (itmV y)).run Tryz.prog w = .ok (.bool (eqItem x y)) w := by
  have hs : ∀ (d : Nat) (xs ys : Array Value), (Op.equalIn (d + 1) 47 (.agg xs) (.agg ys)).run Tryz.prog w = (Op.eqFields d xs ys (Tryz.prog.fieldsOf 47).toList).run Tryz.prog w := fun d xs ys => run_equalIn_struct w d 47 xs ys (by kernel_rfl) (by kernel_rfl)
  simp only [binOp]
  simp [Op.equal, Op.maxDepth, hs 9999, Program.fieldsOf, Tryz.underlying47, Tryz.underlying28, go_sem, eqItem, str_eq]
  by_cases h0 : x.number = y.number <;> by_cases h1 : x.file = y.file <;> by_cases h2 : x.title = y.title <;> by_cases h3 : x.first = y.first <;> by_cases h4 : x.last = y.last <;> by_cases h5 : x.pages = y.pages <;> by_cases h6 : x.digest = y.digest <;> simp [h0, h1, h2, h3, h4, h5, h6]
theorem eqItem_self (x : Item) : eqItem x x = true := (eqItem_iff x x).2 rfl
set_option maxRecDepth 100000 in
set_option maxHeartbeats 8000000 in
theorem checks_law (l : TL) (n : Int) (v : Value) (w : World) (B : Nat) (hB : B ≤ w.heap.size) (h : TLRep w B l v) (hV : VarOk w) :
    Calls Tryz.prog 5 #[tlV l v, .int .i64 n] w fun e w' => e = .returned (.bool true) ∧ Below w.heap.size w w' := by
  have b00 : Below w.heap.size w (w.alloc (tlC l v)) := (Below.refl _ _).alloc (Nat.le_refl _) _
  have hb0 : Below (w.heap.size + 1) (w.alloc (tlC l v)) (w.alloc (tlC l v)) := Below.refl _ _
  have KC := Lib.hid (fun (W : World) (hW : Below (w.heap.size + 1) (w.alloc (tlC l v)) W) => tlW_at hW)
  have HA := Lib.hid (fun (W : World) (hW : Below w.heap.size w W) => awake_c W (hV.below hW))
  have HFW := Lib.hid (fun (W : World) (hW : Below w.heap.size w W) => few_c l v W B (Nat.le_trans hB hW.size) (h.below itmS (hW.mono hB)))
  have HCP := Lib.hid (fun (hF : fewT l = true) (W : World) (hW : Below w.heap.size w W) => cp_c l v W B (Nat.le_trans hB hW.size) (h.below itmS (hW.mono hB)) (by have := few_len hF; omega))
  have HCK := Lib.hid (fun (v' : Value) (W : World) (hW : Below w.heap.size w W) (hr : TLRep W W.heap.size l v') => check_c l v' W _ (Nat.le_refl _) hr (hV.below hW))
  have HRC := Lib.hid (fun (W : World) (hW : Below w.heap.size w W) => rcheck_c l v W B (Nat.le_trans hB hW.size) (h.below itmS (hW.mono hB)))
  have HFI := Lib.hid (fun (v' : Value) (W : World) (hr : TLRep W W.heap.size l v') => find_c l v' n W _ (Nat.le_refl _) hr)
  have HRF := Lib.hid (fun (W : World) (hW : Below w.heap.size w W) => rfind_c l v n W B (Nat.le_trans hB hW.size) (h.below itmS (hW.mono hB)))
  obtain ⟨A, c, rfl, -⟩ := id h
  go_enter Tryz.func5, Tryz.ntmps5
  go_wp2_with fail
  refine (HA.out _ b00).mono ?_
  rintro e w1 ⟨rfl, hb1⟩
  have hbX := bnd_call hb0 (by simp) hb1
  obtain ⟨z0, z1, z2, z3, zl⟩ := KC.out _ hbX
  clear hb1
  go_wp2_with fail
  refine (HFW.out _ (up_box hbX)).mono ?_
  rintro e w2 ⟨rfl, hb2⟩
  have hbX := bnd_call hbX (by simp) hb2
  clear hb2 z0 z1 z2 z3 zl
  obtain ⟨z0, z1, z2, z3, zl⟩ := KC.out _ hbX
  cases hf : fewT l
  · clear hf
    go_wp2_with fail
    refine (HA.out _ (up_box hbX)).mono ?_
    rintro e w3 ⟨rfl, hb3⟩
    have hbX := bnd_call hbX (by simp) hb3
    go_wp2
    go_ret
    exact ⟨rfl, up_box hbX⟩
  · have HCP := Lib.hid (HCP.out hf)
    clear hf h
    go_wp2_with fail
    refine (HCP.out _ (up_box hbX)).mono ?_
    rintro e w3 ⟨v3, rfl, h3, hb3⟩
    have hbX := bnd_call hbX (by simp) hb3
    have h3 := h3.toSl itmS
    have HT := Lib.hid (HCK.out v3 _ (up_box hbX) h3)
    obtain ⟨A3, c3, rfl, -⟩ := h3
    clear hb3 z0 z1 z2 z3 zl
    go_wp2_with fail
    refine HT.out.mono ?_
    rintro e w4 ⟨rfl, hb4⟩
    have hbX := bnd_call hbX (by simp) hb4
    clear hb4 HT
    obtain ⟨z0, z1, z2, z3, zl⟩ := KC.out _ hbX
    go_wp2_with fail
    refine (HRC.out _ (up_box hbX)).mono ?_
    rintro e w5 ⟨rfl, hb5⟩
    have hbX := bnd_call hbX (by simp) hb5
    clear hb5 z0 z1 z2 z3 zl
    obtain ⟨z0, z1, z2, z3, zl⟩ := KC.out _ hbX
    go_wp2_with fail
    refine (HCP.out _ (up_box hbX)).mono ?_
    rintro e w6 ⟨v6, rfl, h6, hb6⟩
    have hbX := bnd_call hbX (by simp) hb6
    have h6 := h6.toSl itmS
    have HT := Lib.hid (HFI.out v6 _ h6)
    obtain ⟨A6, c6, rfl, -⟩ := h6
    clear hb6 z0 z1 z2 z3 zl
    go_wp2_with fail
    refine HT.out.mono ?_
    rintro e w7 ⟨rfl, hb7⟩
    have hbX := bnd_call hbX (by simp) hb7
    clear hb7 HT
    obtain ⟨x, hx⟩ : ∃ x, fndI l.items n = x := ⟨_, rfl⟩
    obtain ⟨q, hq⟩ : ∃ q, fndB l.items n = q := ⟨_, rfl⟩
    simp only [hx, hq] at HRF ⊢
    obtain ⟨k1, hk1⟩ : ∃ k, (chkF l).1 = k := ⟨_, rfl⟩
    obtain ⟨k2, hk2⟩ : ∃ k, (chkF l).2 = k := ⟨_, rfl⟩
    simp only [chkP, hk1, hk2]
    clear hx hq hk1 hk2
    have hbX := bnd_call hbX (by simp) ((Below.refl _ _).alloc (Nat.le_refl _) (itmC x) : Below w7.heap.size w7 (w7.alloc (itmC x)))
    have hbD : Below (w7.heap.size + 1) (w7.alloc (itmC x)) (w7.alloc (itmC x)) := Below.refl _ _
    obtain ⟨z0, z1, z2, z3, zl⟩ := KC.out _ hbX
    go_wp2_with fail
    refine (HRF.out _ (up_box hbX)).mono ?_
    rintro e w8 ⟨rfl, hb8⟩
    have hbX := bnd_call hbX (by simp) hb8
    have hbD := bnd_call hbD (by simp) hb8
    clear hb8 z0 z1 z2 z3 zl
    obtain ⟨i0, i1, i2, i3, i4, i5, i6, il⟩ := itmW_at hbD
    have hq1 : (k1 == k1) = true := by simp
    have hq2 : (k2 == k2) = true := by simp
    have hq3 : (q == q) = true := by simp
    have heq := fun W : World => Item.eql x x W
    rw [eqItem_self] at heq
    have hbF := bnd_call hbX (by simp) ((Below.refl _ _).alloc (Nat.le_refl _) (itmC x) : Below w8.heap.size w8 (w8.alloc (itmC x)))
    go_wp2
    go_ret
    exact ⟨rfl, up_box hbF⟩
end Go.Proofs.YtenaifmkejmdaaaGreatDoor
