/- TransferReturns returns true (written by gen_lwr.py). -/
import Derived.Test.YtenaifmkejmdaaaDoorLwS
namespace Go.Proofs.YtenaifmkejmdaaaDoor
open Go.RowKit

theorem parseG_err : ∀ (ls : List (List UInt8)) (i : Nat) (l : TL), (parseG i l ls).2.2 ≠ 0 → (parseG i l ls).1 = zTL
  | [], _, _, _ => rfl
  | [t], i, l, h => by
    rw [parseG] at h ⊢
    split
    · rfl
    · rename_i h1
      rw [if_neg h1] at h
      split
      · rfl
      · rename_i h2
        rw [if_neg h2] at h
        exact absurd rfl h
  | s :: s2 :: r, i, l, h => by
    rw [parseG] at h ⊢
    cases ho : stepO i l s with
    | none => rfl
    | some l' =>
      rw [ho] at h
      exact parseG_err (s2 :: r) (i + 1) l' h
theorem parseF_err {text : ByteArray} (h : (parseF text).2.2 ≠ 0) : (parseF text).1 = zTL := by
  unfold parseF at h ⊢
  split
  · rfl
  · rename_i h1
    rw [if_neg h1] at h
    exact parseG_err _ _ _ h
theorem parseF_ok {text : ByteArray} (h : (parseF text).2.2 = 0) : rightB (parseF text).1 = true ∧ (⟨(printF (parseF text).1).toArray⟩ : ByteArray) = text ∧ printE (parseF text).1 = 0 := by
  obtain ⟨h1, h2⟩ := print_parse (text := text) (l := (parseF text).1) (k := (parseF text).2.1) (by rw [← h])
  refine ⟨h1, ?_, by unfold printE; rw [h1]; rfl⟩
  rw [h2]
theorem OwnRep.form {xs : List Item} {base : Nat} {w : World} {v : Value} (h : OwnRep 7 (flat Item.enc) 41 base w xs v) : ∃ A n c, v = .slice A n c := by
  obtain ⟨A, c, h, -⟩ := h.toSl itmS
  exact ⟨A, _, c, h⟩
set_option maxRecDepth 100000 in
set_option maxHeartbeats 8000000 in
theorem returns_law (l : TL) (text : ByteArray) (v : Value) (w : World) (B : Nat) (hB : B ≤ w.heap.size) (h : TLRep w B l v) (hV : VarOk w) :
    Calls Tryd.prog 3 #[tlV l v, .string text] w fun e w' => e = .returned (.bool true) ∧ Below w.heap.size w w' := by
  have b00 : Below w.heap.size w (w.alloc (tlC l v)) := (Below.refl _ _).alloc (Nat.le_refl _) _
  have hb0 : Below (w.heap.size + 1) (w.alloc (tlC l v)) (w.alloc (tlC l v)) := Below.refl _ _
  have KC := Lib.hid (fun (W : World) (hW : Below (w.heap.size + 1) (w.alloc (tlC l v)) W) => tlW_at hW)
  have HA := Lib.hid (fun (W : World) (hW : Below w.heap.size w W) => awake_c W (hV.below hW))
  have HFW := Lib.hid (fun (W : World) (hW : Below w.heap.size w W) => few_c l v W B (Nat.le_trans hB hW.size) (h.below itmS (hW.mono hB)))
  have HCP := Lib.hid (fun (hF : fewT l = true) (W : World) (hW : Below w.heap.size w W) => cp_c l v W B (Nat.le_trans hB hW.size) (h.below itmS (hW.mono hB)) (by have := few_len hF; omega))
  have HPR := Lib.hid (fun (l' : TL) (v' : Value) (W : World) (hW : Below w.heap.size w W) (hr : TLRep W W.heap.size l' v') => print_c l' v' W _ (Nat.le_refl _) hr (hV.below hW))
  have HPA := Lib.hid (fun (t : ByteArray) (W : World) (hW : Below w.heap.size w W) => parse_c t W (hV.below hW))
  have HLW := Lib.hid (fun (W : World) (hW : Below w.heap.size w W) => ((h.below itmS (hW.mono hB)).mono itmS (Nat.le_trans hB hW.size) : TLRep W W.heap.size l v))
  obtain ⟨A, c, rfl, -⟩ := id h
  go_enter Tryd.func3, Tryd.ntmps3
  go_wp2_with fail
  refine (HA.out _ b00).mono ?_
  rintro e w1 ⟨rfl, hb1⟩
  have hbX := bnd_call hb0 (by simp) hb1
  obtain ⟨z0, z1, z2, z3, zl⟩ := KC.out _ hbX
  clear hb1
  go_wp2_with fail
  refine (HFW.out _ (up_box hbX)).mono ?_
  rintro e w2 ⟨rfl, hb2⟩
  have hbX := bnd_call hbX (by simp) hb2
  clear hb2 z0 z1 z2 z3 zl
  obtain ⟨z0, z1, z2, z3, zl⟩ := KC.out _ hbX
  cases hf : fewT l
  · clear hf
    go_wp2_with fail
    refine (HA.out _ (up_box hbX)).mono ?_
    rintro e w3 ⟨rfl, hb3⟩
    have hbX := bnd_call hbX (by simp) hb3
    go_wp2
    go_ret
    exact ⟨rfl, up_box hbX⟩
  · by_cases ht : text.size ≤ 3000
    · have ht2 : ¬ (3000 : Int) < (text.size : Int) := by omega
      have HCP := Lib.hid (HCP.out hf)
      have HPL := Lib.hid (print_len l)
      clear hf h
      go_wp2_with fail
      refine (HCP.out _ (up_box hbX)).mono ?_
      rintro e w3 ⟨v3, rfl, h3, hb3⟩
      have hbX := bnd_call hbX (by simp) hb3
      have HT := Lib.hid (HPR.out l v3 _ (up_box hbX) (h3.toSl itmS))
      obtain ⟨A3, n3, c3, rfl⟩ := h3.form
      clear hb3 h3 z0 z1 z2 z3 zl
      go_wp2_with fail
      refine HT.out.mono ?_
      rintro e w4 ⟨rfl, hb4⟩
      have hbX := bnd_call hbX (by simp) hb4
      clear hb4 HT
      cases hr : rightB l
      · have hpe : printE l = 1 := by unfold printE; rw [hr]; rfl
        rw [hpe]
        clear hr hpe
        go_wp2_with fail
        refine (HPA.out text _ (up_box hbX)).mono ?_
        rintro e w7 ⟨v7, rfl, h7, hb7⟩
        have hbX := bnd_call hbX (by simp) hb7
        have o7 : Below w7.heap.size w7 (w7.alloc (tlC (parseF text).1 v7)) := (Below.refl _ _).alloc (Nat.le_refl _) _
        have hbY := bnd_call hbX (by simp) o7
        have h8 := ((h7.toSl itmS).below itmS o7).mono itmS o7.size
        obtain ⟨A7, n7, c7, rfl⟩ := h7.form
        obtain ⟨y0, y1, y2, y3, -, yl⟩ := tl_cells (heap_newA w7 (tlC (parseF text).1 (.slice A7 n7 c7)))
        by_cases he : (parseF text).2.2 = 0
        · obtain ⟨r1, r2, r3⟩ := parseF_ok he
          have HP := Lib.hid (HPR.out (parseF text).1 (.slice A7 n7 c7) _ (up_box hbY) h8)
          rw [r2, r3] at HP
          rw [he]
          generalize (parseF text).1 = lx at *
          clear r1 r2 r3 he h7 h8 hb7
          go_wp2_with fail
          refine HP.out.mono ?_
          rintro e w9 ⟨rfl, hb9⟩
          have hbZ := bnd_call hbY (by simp) hb9
          go_wp2
          go_ret
          exact ⟨rfl, up_box hbZ⟩
        · have hz := parseF_err he
          have hne : ((parseF text).2.2 != 0) = true := by simpa using he
          have HS := Lib.hid (show Calls Tryd.prog 11 #[.agg #[.int .i64 (parseF text).1.id, .int .i64 (parseF text).1.office, .int .i64 (parseF text).1.day, .slice A7 n7 c7], .agg #[.int .i64 0, .int .i64 0, .int .i64 0, .slice none 0 0]] (w7.alloc (tlC (parseF text).1 (.slice A7 n7 c7))) fun e w' => e = .returned (.bool true) ∧ Below (w7.alloc (tlC (parseF text).1 (.slice A7 n7 c7))).heap.size (w7.alloc (tlC (parseF text).1 (.slice A7 n7 c7))) w' from by
            have := same_c (parseF text).1 zTL (.slice A7 n7 c7) (.slice none 0 0) (w7.alloc (tlC (parseF text).1 (.slice A7 n7 c7))) _ (Nat.le_refl _) h8 SlRep.nil_
            rw [show sameB (parseF text).1 zTL = true by rw [hz]; exact sameB_self _] at this
            exact this)
          generalize (parseF text).1 = lx at *
          generalize (parseF text).2.2 = ex at *
          clear he hz h7 h8 hb7
          go_wp2_with fail
          refine HS.out.mono ?_
          rintro e w9 ⟨rfl, hb9⟩
          have hbZ := bnd_call hbY (by simp) hb9
          go_wp2
          go_ret
          exact ⟨rfl, up_box hbZ⟩
      · have hpe : printE l = 0 := by unfold printE; rw [hr]; rfl
        have hpp := parse_print hr (by have := HPL.out; omega)
        rw [hpe]
        obtain ⟨pt, hpt⟩ : ∃ p : ByteArray, ⟨(printF l).toArray⟩ = p := ⟨_, rfl⟩
        rw [hpt] at hpp ⊢
        have HP5 := Lib.hid (HPA.out pt _ (up_box hbX))
        unfold prsQ at HP5
        rw [hpp] at HP5
        clear hr hpe hpp hpt
        go_wp2_with fail
        refine HP5.out.mono ?_
        rintro e w5 ⟨v5, rfl, h5, hb5⟩
        have hbX := bnd_call hbX (by simp) hb5
        have o5 : Below w5.heap.size w5 (w5.alloc (tlC l v5)) := (Below.refl _ _).alloc (Nat.le_refl _) _
        have h6 := ((h5.toSl itmS).below itmS o5).mono itmS o5.size
        have hbX := bnd_call hbX (by simp) o5
        obtain ⟨A5, n5, c5, rfl⟩ := h5.form
        obtain ⟨y0, y1, y2, y3, -, yl⟩ := tl_cells (heap_newA w5 (tlC l (.slice A5 n5 c5)))
        have HS := Lib.hid (same_c l l (.slice A5 n5 c5) _ (w5.alloc (tlC l (.slice A5 n5 c5))) _ (Nat.le_refl _) h6 (HLW.out _ (up_box hbX)))
        rw [sameB_self] at HS
        obtain ⟨z0, z1, z2, z3, zl⟩ := KC.out _ hbX
        clear h5 h6 hb5 HP5
        go_wp2_with fail
        refine HS.out.mono ?_
        rintro e w6 ⟨rfl, hb6⟩
        have hbX := bnd_call hbX (by simp) hb6
        clear hb6 HS z0 z1 z2 z3 zl y0 y1 y2 y3 yl
        go_wp2_with fail
        refine (HPA.out text _ (up_box hbX)).mono ?_
        rintro e w7 ⟨v7, rfl, h7, hb7⟩
        have hbX := bnd_call hbX (by simp) hb7
        have o7 : Below w7.heap.size w7 (w7.alloc (tlC (parseF text).1 v7)) := (Below.refl _ _).alloc (Nat.le_refl _) _
        have hbY := bnd_call hbX (by simp) o7
        have h8 := ((h7.toSl itmS).below itmS o7).mono itmS o7.size
        obtain ⟨A7, n7, c7, rfl⟩ := h7.form
        obtain ⟨y0, y1, y2, y3, -, yl⟩ := tl_cells (heap_newA w7 (tlC (parseF text).1 (.slice A7 n7 c7)))
        by_cases he : (parseF text).2.2 = 0
        · obtain ⟨r1, r2, r3⟩ := parseF_ok he
          have HP := Lib.hid (HPR.out (parseF text).1 (.slice A7 n7 c7) _ (up_box hbY) h8)
          rw [r2, r3] at HP
          rw [he]
          generalize (parseF text).1 = lx at *
          clear r1 r2 r3 he h7 h8 hb7
          go_wp2_with fail
          refine HP.out.mono ?_
          rintro e w9 ⟨rfl, hb9⟩
          have hbZ := bnd_call hbY (by simp) hb9
          go_wp2
          go_ret
          exact ⟨rfl, up_box hbZ⟩
        · have hz := parseF_err he
          have hne : ((parseF text).2.2 != 0) = true := by simpa using he
          have HS := Lib.hid (show Calls Tryd.prog 11 #[.agg #[.int .i64 (parseF text).1.id, .int .i64 (parseF text).1.office, .int .i64 (parseF text).1.day, .slice A7 n7 c7], .agg #[.int .i64 0, .int .i64 0, .int .i64 0, .slice none 0 0]] (w7.alloc (tlC (parseF text).1 (.slice A7 n7 c7))) fun e w' => e = .returned (.bool true) ∧ Below (w7.alloc (tlC (parseF text).1 (.slice A7 n7 c7))).heap.size (w7.alloc (tlC (parseF text).1 (.slice A7 n7 c7))) w' from by
            have := same_c (parseF text).1 zTL (.slice A7 n7 c7) (.slice none 0 0) (w7.alloc (tlC (parseF text).1 (.slice A7 n7 c7))) _ (Nat.le_refl _) h8 SlRep.nil_
            rw [show sameB (parseF text).1 zTL = true by rw [hz]; exact sameB_self _] at this
            exact this)
          generalize (parseF text).1 = lx at *
          generalize (parseF text).2.2 = ex at *
          clear he hz h7 h8 hb7
          go_wp2_with fail
          refine HS.out.mono ?_
          rintro e w9 ⟨rfl, hb9⟩
          have hbZ := bnd_call hbY (by simp) hb9
          go_wp2
          go_ret
          exact ⟨rfl, up_box hbZ⟩
    · have ht2 : (3000 : Int) < (text.size : Int) := by omega
      clear hf
      go_wp2_with fail
      refine (HA.out _ (up_box hbX)).mono ?_
      rintro e w3 ⟨rfl, hb3⟩
      have hbX := bnd_call hbX (by simp) hb3
      go_wp2
      go_ret
      exact ⟨rfl, up_box hbX⟩
end Go.Proofs.YtenaifmkejmdaaaDoor
