/- Check of boxes, the program's: fault, Check. -/
import Derived.Test.YthabpkigflldmaaBxA
namespace Go.Proofs.Ythabpkigflldmaa
open Go.RowKit

set_option maxHeartbeats 2000000 in
theorem fault_c (x : Box) (v : Value) (w : World) (B : Nat) (hB : B ≤ w.heap.size) (h : Contents w B x.cont v) :
    Calls Try.prog 96 #[.agg #[.int .i64 x.id, .int .i64 x.width, .int .i64 x.room, .int .i64 x.clim, v]] w fun e w' => e = .returned (.int .i64 (faultE x)) ∧ Below w.heap.size w w' := by
  obtain ⟨A, c, rfl, hc1, hc2, _⟩ := id h
  have HBD := Lib.hid (show inB x.id 1 1073741824 = false ∨ inB x.width 1 10000 = false ∨ inB x.room 1 x.width = false ∨ inB x.clim 0 7 = false ∨ (x.cont.any fun c => !contOk c) = true → faultE x = 2 by
    intro hbad
    rw [faultE, if_pos]
    rcases hbad with e | e | e | e | e
    · simp [boxOk, e]
    · simp [boxOk, e]
    · simp [boxOk, e]
    · simp [boxOk, e]
    · unfold boxOk; rw [e]; simp)
  have b0 : Below w.heap.size w (w.alloc (.cells #[.int .i64 x.id, .int .i64 x.width, .int .i64 x.room, .int .i64 x.clim, .slice A x.cont.length c] 101)) := (Below.refl _ _).alloc (Nat.le_refl _) _
  cases e0 : inB x.id 1 1073741824
  · have HE := Lib.hid (HBD.out (.inl e0))
    go_enter Try.func96, Try.ntmps96
    go_wp2_with (go_at_call 104; refine (bin_c _ _ _ _).mono ?_; rintro e w' ⟨rfl, rfl⟩)
    go_ret
    exact ⟨ret_int HE.out.symm, b0⟩
  cases e1 : inB x.width 1 10000
  · have HE := Lib.hid (HBD.out (.inr (.inl e1)))
    go_enter Try.func96, Try.ntmps96
    go_wp2_with (go_at_call 104; refine (bin_c _ _ _ _).mono ?_; rintro e w' ⟨rfl, rfl⟩)
    go_ret
    exact ⟨ret_int HE.out.symm, b0⟩
  cases e2 : inB x.room 1 x.width
  · have HE := Lib.hid (HBD.out (.inr (.inr (.inl e2))))
    go_enter Try.func96, Try.ntmps96
    go_wp2_with (go_at_call 104; refine (bin_c _ _ _ _).mono ?_; rintro e w' ⟨rfl, rfl⟩)
    go_ret
    exact ⟨ret_int HE.out.symm, b0⟩
  cases e3 : inB x.clim 0 7
  · have HE := Lib.hid (HBD.out (.inr (.inr (.inr (.inl e3)))))
    go_enter Try.func96, Try.ntmps96
    go_wp2_with (go_at_call 104; refine (bin_c _ _ _ _).mono ?_; rintro e w' ⟨rfl, rfl⟩)
    go_ret
    exact ⟨ret_int HE.out.symm, b0⟩
  have HC := Lib.hid (containsCo_c (fun c => !contOk c) x.cont (.slice A x.cont.length c) _ B (Nat.le_trans hB b0.size) (h.below coS (b0.mono hB)) (fun y W _ => fault1_c y W))
  cases e4 : x.cont.any fun c => !contOk c
  · rw [e4] at HC
    have hok : boxOk x = true := by
      unfold boxOk
      rw [e0, e1, e2, e3, e4]
      rfl
    have HO := Lib.hid hok
    have HE4 := Lib.hid e4
    have HCB := Lib.hid (boxOk_cont hok)
    clear e4 hok HBD
    by_cases hl : 32 < x.cont.length
    · have HE := Lib.hid (show faultE x = 8 by simp [faultE, HO.out, hl])
      go_enter Try.func96, Try.ntmps96
      go_wp2_with (first | (go_at_call 104; refine (bin_c _ _ _ _).mono ?_; rintro e w' ⟨rfl, rfl⟩) | (go_at_call 105; refine stop_intro ?_))
      refine stop_elim ?_
      refine HC.out.mono ?_
      rintro e w1 ⟨rfl, hb1⟩
      have c4 := (hb1.cell (p := ⟨w.heap.size, 4, none⟩) (by simp)).trans (show _ = some (.slice A x.cont.length c) by simp)
      have hs1 := hb1.size
      simp only [World.size_alloc] at hs1
      go_wp2
      go_ret
      exact ⟨ret_int HE.out.symm, b0.trans (hb1.mono (by simp))⟩
    · go_enter Try.func96, Try.ntmps96
      go_wp2_with (first | (go_at_call 104; refine (bin_c _ _ _ _).mono ?_; rintro e w' ⟨rfl, rfl⟩) | (go_at_call 105; refine stop_intro ?_))
      refine stop_elim ?_
      refine HC.out.mono ?_
      rintro e w1 ⟨rfl, hb1⟩
      have c4 := (hb1.cell (p := ⟨w.heap.size, 4, none⟩) (by simp)).trans (show _ = some (.slice A x.cont.length c) by simp)
      have c2 := (hb1.cell (p := ⟨w.heap.size, 2, none⟩) (by simp)).trans (show _ = some (.int .i64 x.room) by simp)
      have hs1 := hb1.size
      simp only [World.size_alloc] at hs1
      have hlt1 : w.heap.size < w1.heap.size := by omega
      have B1 := b0.trans (hb1.mono (by simp))
      have HTH := Lib.hid (fun (W : World) (hW : Below w1.heap.size w1 W) => thick_c x.cont (.slice A x.cont.length c) W B (by have := hW.size; omega) ((h.below coS (B1.mono hB)).below coS (hW.mono (by omega))) (by omega) HCB.out)
      have KEEP := Lib.hid (fun (w' : World) (hW : Below w1.heap.size w1 w') => (⟨(hW.cell (p := ⟨w.heap.size, 4, none⟩) hlt1).trans c4, (hW.cell (p := ⟨w.heap.size, 2, none⟩) hlt1).trans c2⟩ : w'.cell? ⟨w.heap.size, 4, none⟩ = some (.slice A x.cont.length c) ∧ w'.cell? ⟨w.heap.size, 2, none⟩ = some (.int .i64 x.room)))
      have HF1 := Lib.hid (show x.room < thickS x.cont → faultE x = 12 by intro h; simp [faultE, HO.out, hl, h])
      have HF0 := Lib.hid (show ¬ x.room < thickS x.cont → faultE x = 0 by intro h; simp [faultE, HO.out, hl, h])
      go_wp2
      go_region_held3 (fun w' => w'.cell? ⟨w.heap.size, 4, none⟩ = some (.slice A x.cont.length c) ∧ w'.cell? ⟨w.heap.size, 2, none⟩ = some (.int .i64 x.room)) (first | with_reducible exact KEEP.out _ (Below.refl _ _).drew | with_reducible exact KEEP.out _ hb2) (first
        | (go_at_call 108; (with_reducible refine (HTH.out _ (Below.refl _ _).drew).mono ?_); rintro e w2 ⟨rfl, hb2'⟩; have hb2 : Below w1.heap.size w1 w2 := (Below.refl _ _).drew.trans (hb2'.mono (by simp))))
      by_cases hr : x.room < thickS x.cont
      · have HE := Lib.hid (HF1.out (by omega))
        go_wp2
        go_ret
        exact ⟨ret_int HE.out.symm, B1.trans (hb2.mono (by omega))⟩
      · have HE := Lib.hid (HF0.out (by omega))
        go_wp2
        go_ret
        exact ⟨ret_int HE.out.symm, B1.trans (hb2.mono (by omega))⟩
  · rw [e4] at HC
    have HE := Lib.hid (HBD.out (.inr (.inr (.inr (.inr e4)))))
    clear e4 HBD
    go_enter Try.func96, Try.ntmps96
    go_wp2_with (first | (go_at_call 104; refine (bin_c _ _ _ _).mono ?_; rintro e w' ⟨rfl, rfl⟩) | (go_at_call 105; refine stop_intro ?_))
    refine stop_elim ?_
    refine HC.out.mono ?_
    rintro e w1 ⟨rfl, hb1⟩
    go_wp2
    go_ret
    exact ⟨ret_int HE.out.symm, b0.trans (hb1.mono (by simp))⟩
end Go.Proofs.Ythabpkigflldmaa
