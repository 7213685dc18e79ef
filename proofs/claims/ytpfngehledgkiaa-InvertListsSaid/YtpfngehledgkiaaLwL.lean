/- InvertLists returns true. -/
import Derived.Test.YtpfngehledgkiaaAwI
import Derived.Test.YtpfngehledgkiaaRqC
namespace Go.Proofs.Ytpfngehledgkiaa
open Go.RowKit

set_option maxRecDepth 100000 in
set_option maxHeartbeats 8000000 in
theorem lists_law (l : List Post) (word : ByteArray) (v : Value) (w : World) (B : Nat) (hB : B ≤ w.heap.size) (h : Posts w B l v) :
    Calls Try.prog 5 #[v, .string word] w fun e w' => e = .returned (.bool true) ∧ Below w.heap.size w w' := by
  have HA := Lib.hid (fun (W : World) => awake5_c W)
  have HFW := Lib.hid (fun (W : World) (hW : Below w.heap.size w W) => rfew5_c l v W B (h.below pstS (hW.mono hB)))
  have hbl : ∀ b, b < B → b < w.heap.size := fun b hb => by omega
  by_cases hf : fewP l = true ∧ word.size ≤ 40
  · obtain ⟨hf1, hf2⟩ := hf
    obtain ⟨hn, hs⟩ := fewP_iff.1 hf1
    have hs6 : ∀ p ∈ l, p.word.size ≤ 1000000 := fun p hp => by have := hs p hp; omega
    have HCL := Lib.hid (fun (W : World) (hW : Below w.heap.size w W) => clonePosts_c l v W B (Nat.le_trans hB hW.size) (h.below pstS (hW.mono hB)) (by omega))
    have HF := Lib.hid (fun (u : Value) (W : World) (hu : Posts W W.heap.size l u) => iFind_c l u word W W.heap.size (Nat.le_refl _) hu hs6)
    have HRF := Lib.hid (fun (W : World) (hW : Below w.heap.size w W) => rfind5_c l v word W B (Nat.le_trans hB hW.size) (h.below pstS (hW.mono hB)) hs6)
    have HP := Lib.hid (fun (u : Value) (W : World) (hu : Posts W W.heap.size l u) => iPrefix_c l u word W W.heap.size (Nat.le_refl _) hu hs6)
    have HRP := Lib.hid (fun (W : World) (hW : Below w.heap.size w W) => rprefix5_c l v word W B (Nat.le_trans hB hW.size) (h.below pstS (hW.mono hB)) hs6)
    have HC := Lib.hid (fun (u : Value) (W : World) (hu : Posts W W.heap.size l u) => icheck_c l u W W.heap.size (Nat.le_refl _) hu hs6)
    have HRC := Lib.hid (fun (W : World) (hW : Below w.heap.size w W) => rcheck5_c l v W B (Nat.le_trans hB hW.size) (h.below pstS (hW.mono hB)) hs6)
    have HW := Lib.hid (fun (u : Value) (W : World) (hu : Posts W W.heap.size l u) => iWords_c l u W W.heap.size (Nat.le_refl _) hu hs6)
    have HRW := Lib.hid (fun (W : World) (hW : Below w.heap.size w W) => rwords5_c l v W B (Nat.le_trans hB hW.size) (h.below pstS (hW.mono hB)) hs6)
    have hw4 : ¬ (40 : Int) < (word.size : Int) := by omega
    rw [hf1] at HFW
    generalize findF l word = fi at *
    generalize prefF_ l word = pf at *
    generalize chkL l = ck at *
    generalize (if ck = 0 then wrdL l else []) = ws at *
    clear hf1 hn hs hs6 h
    go_enter Try.func5, Try.ntmps5
    go_wp2_with fail
    refine (HA.out _).mono ?_
    rintro e w1 ⟨rfl, b1⟩
    have bX := b1
    go_wp2_with fail
    refine (HFW.out _ bX).mono ?_
    rintro e w2 ⟨rfl, rfl⟩
    go_wp2_with fail
    refine (HCL.out _ bX).mono ?_
    rintro e wc1 ⟨u1, rfl, hu1, bc1⟩
    have bX := bX.trans (bc1.mono bX.size)
    have hu1 := hu1.toSl pstS
    go_wp2_with fail
    refine (HF.out _ _ hu1).mono ?_
    rintro e wd1 ⟨rfl, bd1⟩
    have bX := bX.trans (bd1.mono bX.size)
    clear bc1 bd1 hu1
    go_wp2_with fail
    refine (HRF.out _ bX).mono ?_
    rintro e wr1 ⟨rfl, br1⟩
    have bX := bX.trans (br1.mono bX.size)
    clear br1
    go_wp2_with fail
    refine (HCL.out _ bX).mono ?_
    rintro e wc2 ⟨u2, rfl, hu2, bc2⟩
    have bX := bX.trans (bc2.mono bX.size)
    have hu2 := hu2.toSl pstS
    go_wp2_with fail
    refine (HP.out _ _ hu2).mono ?_
    rintro e wd2 ⟨rfl, bd2⟩
    have bX := bX.trans (bd2.mono bX.size)
    clear bc2 bd2 hu2
    go_wp2_with fail
    refine (HRP.out _ bX).mono ?_
    rintro e wr2 ⟨rfl, br2⟩
    have bX := bX.trans (br2.mono bX.size)
    clear br2
    go_wp2_with fail
    refine (HCL.out _ bX).mono ?_
    rintro e wc3 ⟨u3, rfl, hu3, bc3⟩
    have bX := bX.trans (bc3.mono bX.size)
    have hu3 := hu3.toSl pstS
    go_wp2_with fail
    refine (HC.out _ _ hu3).mono ?_
    rintro e wd3 ⟨rfl, bd3⟩
    have bX := bX.trans (bd3.mono bX.size)
    clear bc3 bd3 hu3
    go_wp2_with fail
    refine (HRC.out _ bX).mono ?_
    rintro e wr3 ⟨rfl, br3⟩
    have bX := bX.trans (br3.mono bX.size)
    clear br3
    go_wp2_with fail
    refine (HCL.out _ bX).mono ?_
    rintro e wc4 ⟨u4, rfl, hu4, bc4⟩
    have bX := bX.trans (bc4.mono bX.size)
    have hu4 := hu4.toSl pstS
    go_wp2_with fail
    refine (HW.out _ _ hu4).mono ?_
    rintro e wd4 ⟨x4, rfl, hx4, bd4⟩
    have bX := bX.trans (bd4.mono bX.size)
    go_wp2_with fail
    refine (HRW.out _ bX).mono ?_
    rintro e wr4 ⟨y4, rfl, hy4, br4⟩
    have bX := bX.trans (br4.mono bX.size)
    go_wp2_with fail
    refine (equalSt_c ws _ _ _ _ (Nat.le_refl _) (((hx4.toSl strS).below strS br4).mono strS br4.size) (hy4.toSl strS)).mono ?_
    rintro e w9 ⟨rfl, b9⟩
    have bX := bX.trans (b9.mono bX.size)
    go_wp2
    go_ret
    exact ⟨rfl, bX⟩
  · cases hf1 : fewP l
    · rw [hf1] at HFW
      clear hf
      go_enter Try.func5, Try.ntmps5
      go_wp2_with fail
      refine (HA.out _).mono ?_
      rintro e w1 ⟨rfl, b1⟩
      go_wp2_with fail
      refine (HFW.out _ b1).mono ?_
      rintro e w2 ⟨rfl, rfl⟩
      go_wp2
      go_ret
      exact ⟨rfl, b1⟩
    · have hw4 : (40 : Int) < (word.size : Int) := by
        have : ¬ word.size ≤ 40 := fun h => hf ⟨hf1, h⟩
        omega
      rw [hf1] at HFW
      clear hf
      go_enter Try.func5, Try.ntmps5
      go_wp2_with fail
      refine (HA.out _).mono ?_
      rintro e w1 ⟨rfl, b1⟩
      go_wp2_with fail
      refine (HFW.out _ b1).mono ?_
      rintro e w2 ⟨rfl, rfl⟩
      go_wp2
      go_ret
      exact ⟨rfl, b1⟩
end Go.Proofs.Ytpfngehledgkiaa
