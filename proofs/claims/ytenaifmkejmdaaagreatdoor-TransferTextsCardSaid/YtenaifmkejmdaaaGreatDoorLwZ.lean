/- TransferTexts returns true (the contract of the reference's Parse is still a premise: RhF, RhG give it). -/
import Derived.Test.YtenaifmkejmdaaaGreatDoorLwC
import Derived.Test.YtenaifmkejmdaaaGreatDoorRhE
import Derived.Test.YtenaifmkejmdaaaGreatDoorRhQ
import Derived.Test.YtenaifmkejmdaaaGreatDoorRhF
namespace Go.Proofs.YtenaifmkejmdaaaGreatDoor
open Go.RowKit

set_option maxRecDepth 100000 in
set_option maxHeartbeats 40000000 in
theorem texts_law0 (HRP0 : ∀ (t : ByteArray) (W : World), Calls Tryz.prog 19 #[.string t] W fun e w' => prsQ t W e w')
    (l : TL) (text : ByteArray) (v : Value) (w : World) (B : Nat) (hB : B ≤ w.heap.size) (h : TLRep w B l v) (hV : VarOk w) :
    Calls Tryz.prog 4 #[tlV l v, .string text] w fun e w' => e = .returned (.bool true) ∧ Below w.heap.size w w' := by
  have b00 : Below w.heap.size w (w.alloc (tlC l v)) := (Below.refl _ _).alloc (Nat.le_refl _) _
  have hb0 : Below (w.heap.size + 1) (w.alloc (tlC l v)) (w.alloc (tlC l v)) := Below.refl _ _
  have KC := Lib.hid (fun (W : World) (hW : Below (w.heap.size + 1) (w.alloc (tlC l v)) W) => tlW_at hW)
  have HA := Lib.hid (fun (W : World) (hW : Below w.heap.size w W) => awake_c W (hV.below hW))
  have HFW := Lib.hid (fun (W : World) (hW : Below w.heap.size w W) => few_c l v W B (Nat.le_trans hB hW.size) (h.below itmS (hW.mono hB)))
  have HCP := Lib.hid (fun (hF : fewT l = true) (W : World) (hW : Below w.heap.size w W) => cp_c l v W B (Nat.le_trans hB hW.size) (h.below itmS (hW.mono hB)) (by have := few_len hF; omega))
  have HPR := Lib.hid (fun (l' : TL) (v' : Value) (W : World) (hW : Below w.heap.size w W) (hr : TLRep W W.heap.size l' v') => print_c l' v' W _ (Nat.le_refl _) hr (hV.below hW))
  have HPA := Lib.hid (fun (t : ByteArray) (W : World) (hW : Below w.heap.size w W) => parse_c t W (hV.below hW))
  have HRQ := Lib.hid (fun (W : World) (hW : Below w.heap.size w W) => rprint_c l v W B (Nat.le_trans hB hW.size) (h.below itmS (hW.mono hB)))
  have HRP := Lib.hid HRP0
  clear HRP0
  obtain ⟨A, c, rfl, -⟩ := id h
  go_enter Tryz.func4, Tryz.ntmps4
  go_wp2_with fail
  refine (HA.out _ b00).mono ?_
  rintro e w1 ⟨rfl, hb1⟩
  have hbX := bnd_call hb0 (by simp) hb1
  obtain ⟨z0, z1, z2, z3, zl⟩ := KC.out _ hbX
  clear hb1
  go_wp2_with fail
  refine (HFW.out _ (up_box hbX)).mono ?_
  rintro e w2 ⟨rfl, hb2⟩
  have hbX := bnd_call hbX (by simp) hb2
  clear hb2 z0 z1 z2 z3 zl
  obtain ⟨z0, z1, z2, z3, zl⟩ := KC.out _ hbX
  cases hf : fewT l
  · clear hf
    go_wp2_with fail
    refine (HA.out _ (up_box hbX)).mono ?_
    rintro e w3 ⟨rfl, hb3⟩
    have hbX := bnd_call hbX (by simp) hb3
    go_wp2
    go_ret
    exact ⟨rfl, up_box hbX⟩
  · have HCP := Lib.hid (HCP.out hf)
    clear hf h
    have key : ((3000 : Int) < (text.size : Int) ∧ (text.size : Int) ≤ 65536) ∨ ((65545 : Int) < (text.size : Int) ∧ (3000 : Int) < (text.size : Int) ∧ ¬ (text.size : Int) ≤ 65536) ∨ (¬ (3000 : Int) < (text.size : Int) ∧ ¬ (65545 : Int) < (text.size : Int)) ∨ ((3000 : Int) < (text.size : Int) ∧ ¬ (text.size : Int) ≤ 65536 ∧ ¬ (65545 : Int) < (text.size : Int)) := by omega
    rcases key with ⟨t1, t2⟩ | ⟨t1, t2, t3⟩ | ⟨t1, t2⟩ | ⟨t1, t2, t3⟩
    · go_wp2_with fail
      refine (HA.out _ (up_box hbX)).mono ?_
      rintro e w3 ⟨rfl, hb3⟩
      have hbX := bnd_call hbX (by simp) hb3
      go_wp2
      go_ret
      exact ⟨rfl, up_box hbX⟩
    · go_wp2_with fail
      refine (HA.out _ (up_box hbX)).mono ?_
      rintro e w3 ⟨rfl, hb3⟩
      have hbX := bnd_call hbX (by simp) hb3
      go_wp2
      go_ret
      exact ⟨rfl, up_box hbX⟩
    · go_wp2_with fail
      refine (HCP.out _ (up_box hbX)).mono ?_
      rintro e w3 ⟨v3, rfl, h3, hb3⟩
      have hbX := bnd_call hbX (by simp) hb3
      have HT := Lib.hid (HPR.out l v3 _ (up_box hbX) (h3.toSl itmS))
      obtain ⟨A3, c3, rfl, -⟩ := id (h3.toSl itmS)
      clear hb3 h3 z0 z1 z2 z3 zl
      obtain ⟨z0, z1, z2, z3, zl⟩ := KC.out _ hbX
      go_wp2_with fail
      refine HT.out.mono ?_
      rintro e w4 ⟨rfl, hb4⟩
      have hbX := bnd_call hbX (by simp) hb4
      clear hb4 HT z0 z1 z2 z3 zl
      obtain ⟨z0, z1, z2, z3, zl⟩ := KC.out _ hbX
      go_wp2_with fail
      refine (HRQ.out _ (up_box hbX)).mono ?_
      rintro e w5 ⟨rfl, hb5⟩
      have hbX := bnd_call hbX (by simp) hb5
      clear hb5 z0 z1 z2 z3 zl
      go_wp2_with fail
      refine (HPA.out text _ (up_box hbX)).mono ?_
      rintro e w7 ⟨v7, rfl, h7, hb7⟩
      have hbX := bnd_call hbX (by simp) hb7
      have h7 := h7.toSl itmS
      clear hb7
      obtain ⟨A7, c7, rfl, -⟩ := id h7
      have o7 : Below w7.heap.size w7 (w7.alloc (tlC (parseF text).1 (.slice A7 (parseF text).1.items.length c7))) := (Below.refl _ _).alloc (Nat.le_refl _) _
      have q7 := heap_newA w7 (tlC (parseF text).1 (.slice A7 (parseF text).1.items.length c7))
      have h7 := (h7.below itmS o7).mono itmS o7.size
      have hbY := bnd_call hbX (by simp) o7
      have HP := Lib.hid (HRP.out text (w7.alloc (tlC (parseF text).1 (.slice A7 (parseF text).1.items.length c7))))
      unfold prsQ at HP
      generalize (parseF text).1 = lx at *
      generalize (parseF text).2.1 = nx at *
      generalize (parseF text).2.2 = ex at *
      generalize (⟨(printF l).toArray⟩ : ByteArray) = pt at *
      generalize printE l = pe at *
      go_wp2_with fail
      refine HP.out.mono ?_
      rintro e w8 ⟨v8, rfl, h8, hb8⟩
      have h7 := (h7.below itmS hb8).mono itmS hb8.size
      have h8 := h8.toSl itmS
      have hbY := bnd_call hbY (by simp) hb8
      obtain ⟨A8, c8, rfl, -⟩ := id h8
      have q8 := heap_newA w8 (tlC lx (.slice A8 lx.items.length c8))
      have o8 : Below w8.heap.size w8 (w8.alloc (tlC lx (.slice A8 lx.items.length c8))) := (Below.refl _ _).alloc (Nat.le_refl _) _
      have q7 := (o8.block w7.heap.size (by have := hb8.size; simp at this; omega)).trans ((hb8.block w7.heap.size (by simp)).trans q7)
      have HSM := Lib.hid (same_c lx lx _ _ _ _ (Nat.le_refl _) ((h7.below itmS o8).mono itmS o8.size) ((h8.below itmS o8).mono itmS o8.size))
      have hbZ := bnd_call hbY (by simp) o8
      clear h7 h8 hb8 HP HPR HPA HRP HRQ HCP HFW HA
      obtain ⟨x0, x1, x2, x3, -, xl⟩ := tl_cells q7
      obtain ⟨y0, y1, y2, y3, -, yl⟩ := tl_cells q8
      clear q7 q8
      go_wp2_with fail
      refine HSM.out.mono ?_
      rintro e w9 ⟨rfl, hb9⟩
      rw [sameB_self]
      have hbZ := bnd_call hbZ (by simp) hb9
      clear hb9 HSM
      go_wp2
      go_ret
      exact ⟨rfl, up_box hbZ⟩
    · have t4 : (text.size : Int) ≤ 65545 := by omega
      have t5 : (65536 : Int) < (text.size : Int) := by omega
      go_wp2_with fail
      refine (HCP.out _ (up_box hbX)).mono ?_
      rintro e w3 ⟨v3, rfl, h3, hb3⟩
      have hbX := bnd_call hbX (by simp) hb3
      have HT := Lib.hid (HPR.out l v3 _ (up_box hbX) (h3.toSl itmS))
      obtain ⟨A3, c3, rfl, -⟩ := id (h3.toSl itmS)
      clear hb3 h3 z0 z1 z2 z3 zl
      obtain ⟨z0, z1, z2, z3, zl⟩ := KC.out _ hbX
      go_wp2_with fail
      refine HT.out.mono ?_
      rintro e w4 ⟨rfl, hb4⟩
      have hbX := bnd_call hbX (by simp) hb4
      clear hb4 HT z0 z1 z2 z3 zl
      obtain ⟨z0, z1, z2, z3, zl⟩ := KC.out _ hbX
      go_wp2_with fail
      refine (HRQ.out _ (up_box hbX)).mono ?_
      rintro e w5 ⟨rfl, hb5⟩
      have hbX := bnd_call hbX (by simp) hb5
      clear hb5 z0 z1 z2 z3 zl
      go_wp2_with fail
      refine (HPA.out text _ (up_box hbX)).mono ?_
      rintro e w7 ⟨v7, rfl, h7, hb7⟩
      have hbX := bnd_call hbX (by simp) hb7
      have h7 := h7.toSl itmS
      clear hb7
      obtain ⟨A7, c7, rfl, -⟩ := id h7
      have o7 : Below w7.heap.size w7 (w7.alloc (tlC (parseF text).1 (.slice A7 (parseF text).1.items.length c7))) := (Below.refl _ _).alloc (Nat.le_refl _) _
      have q7 := heap_newA w7 (tlC (parseF text).1 (.slice A7 (parseF text).1.items.length c7))
      have h7 := (h7.below itmS o7).mono itmS o7.size
      have hbY := bnd_call hbX (by simp) o7
      have HP := Lib.hid (HRP.out text (w7.alloc (tlC (parseF text).1 (.slice A7 (parseF text).1.items.length c7))))
      unfold prsQ at HP
      generalize (parseF text).1 = lx at *
      generalize (parseF text).2.1 = nx at *
      generalize (parseF text).2.2 = ex at *
      generalize (⟨(printF l).toArray⟩ : ByteArray) = pt at *
      generalize printE l = pe at *
      go_wp2_with fail
      refine HP.out.mono ?_
      rintro e w8 ⟨v8, rfl, h8, hb8⟩
      have h7 := (h7.below itmS hb8).mono itmS hb8.size
      have h8 := h8.toSl itmS
      have hbY := bnd_call hbY (by simp) hb8
      obtain ⟨A8, c8, rfl, -⟩ := id h8
      have q8 := heap_newA w8 (tlC lx (.slice A8 lx.items.length c8))
      have o8 : Below w8.heap.size w8 (w8.alloc (tlC lx (.slice A8 lx.items.length c8))) := (Below.refl _ _).alloc (Nat.le_refl _) _
      have q7 := (o8.block w7.heap.size (by have := hb8.size; simp at this; omega)).trans ((hb8.block w7.heap.size (by simp)).trans q7)
      have HSM := Lib.hid (same_c lx lx _ _ _ _ (Nat.le_refl _) ((h7.below itmS o8).mono itmS o8.size) ((h8.below itmS o8).mono itmS o8.size))
      have hbZ := bnd_call hbY (by simp) o8
      clear h7 h8 hb8 HP HPR HPA HRP HRQ HCP HFW HA
      obtain ⟨x0, x1, x2, x3, -, xl⟩ := tl_cells q7
      obtain ⟨y0, y1, y2, y3, -, yl⟩ := tl_cells q8
      clear q7 q8
      go_wp2_with fail
      refine HSM.out.mono ?_
      rintro e w9 ⟨rfl, hb9⟩
      rw [sameB_self]
      have hbZ := bnd_call hbZ (by simp) hb9
      clear hb9 HSM
      go_wp2
      go_ret
      exact ⟨rfl, up_box hbZ⟩

theorem rparse_any (text : ByteArray) (w : World) : Calls Tryz.prog 19 #[.string text] w fun e w' => prsQ text w e w' := by
  by_cases h : 65536 < text.size
  · exact rparse_big text w h
  · exact rparse_c text w h
theorem texts_law (l : TL) (text : ByteArray) (v : Value) (w : World) (B : Nat) (hB : B ≤ w.heap.size) (h : TLRep w B l v) (hV : VarOk w) :
    Calls Tryz.prog 4 #[tlV l v, .string text] w fun e w' => e = .returned (.bool true) ∧ Below w.heap.size w w' := texts_law0 rparse_any l text v w B hB h hV
end Go.Proofs.YtenaifmkejmdaaaGreatDoor
