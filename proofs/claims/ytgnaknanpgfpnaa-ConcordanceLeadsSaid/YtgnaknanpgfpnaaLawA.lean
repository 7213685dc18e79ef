/- The statement ConcordanceChecks, walked. -/
import Derived.Test.YtgnaknanpgfpnaaPlainB
import Derived.Test.YtgnaknanpgfpnaaAwakeW
import Derived.Test.YtgnaknanpgfpnaaFew
import Derived.Test.YtgnaknanpgfpnaaCopy
namespace Go.Proofs.Ytgnaknanpgfpnaa
open Go.RowKit

theorem few_small {hs : List Shot} (h : fewE hs = true) : hs.length ≤ 65 ∧ ∀ s ∈ hs, s.units.length ≤ 12 := by
  unfold fewE at h
  rw [Bool.and_eq_true] at h
  obtain ⟨h1, h2⟩ := h
  refine ⟨?_, fun s hs' => ?_⟩
  · simp at h1; omega
  · have := List.all_eq_true.1 h2 s hs'
    simp [fewS1] at this
    omega
set_option maxHeartbeats 4000000 in
theorem checks_c (hs : List Shot) (day : Int) (v : Value) (w : World) (B : Nat) (hB : B ≤ w.heap.size) (h : Shots w B hs v) :
    Calls Try.prog 3 #[v, .int .i64 day] w fun e w' => e = .returned (.bool true) ∧ Below w.heap.size w w' := by
  obtain ⟨A, c, rfl, hc1, hc2, _⟩ := id h
  go_enter Try.func3, Try.ntmps3
  go_wp2_with fail
  refine (awake_c w).mono ?_
  rintro e w1 ⟨rfl, hb1⟩
  have hs1 := hb1.size
  have h1 := h.below shS (hb1.mono hB)
  have HF := Lib.hid (few_c hs _ w1 B (by omega) h1)
  go_wp2_with fail
  cases hf : fewE hs
  · rw [hf] at HF
    clear hf
    refine HF.out.mono ?_
    rintro e w2 ⟨rfl, rfl⟩
    go_wp2
    go_ret
    exact ⟨rfl, hb1⟩
  · rw [hf] at HF
    have hsm := (few_small hf).1
    have HSU := Lib.hid (few_small hf).2
    clear hf
    refine HF.out.mono ?_
    rintro e w2 ⟨rfl, rfl⟩
    clear HF
    go_wp2_with fail
    refine (copy_c hs _ w1 B (by omega) h1 hsm HSU.out).mono ?_
    rintro e w2 ⟨v2, rfl, hown2, hb2⟩
    have hs2 := hb2.size
    have h2 := h1.below shS (hb2.mono (by omega))
    have B2 := hb1.trans (hb2.mono hs1)
    have HC := Lib.hid (progCheck_c hs _ w2 w2.heap.size (Nat.le_refl _) (hown2.toSl shS))
    rw [progCheck_eq] at HC
    clear hown2
    go_wp2_with fail
    refine HC.out.mono ?_
    rintro e w3 ⟨rfl, hb3⟩
    have hs3 := hb3.size
    have h3 := h2.below shS (hb3.mono (by omega))
    have B3 := B2.trans (hb3.mono (by omega))
    clear HC B2
    go_wp2_with fail
    refine (refCheck_c hs _ w3 B (by omega) h3).mono ?_
    rintro e w4 ⟨rfl, hb4⟩
    have hs4 := hb4.size
    have h4 := h3.below shS (hb4.mono (by omega))
    have B4 := B3.trans (hb4.mono (by omega))
    have heq : (refCheck hs == refCheck hs) = true := by simp
    clear B3 h3
    go_wp2_with fail
    refine (copy_c hs _ w4 B (by omega) h4 hsm HSU.out).mono ?_
    rintro e w5 ⟨v5, rfl, hown5, hb5⟩
    have hs5 := hb5.size
    have h5 := h4.below shS (hb5.mono (by omega))
    have B5 := B4.trans (hb5.mono (by omega))
    have HC := Lib.hid (progAt_c day hs _ w5 w5.heap.size (Nat.le_refl _) (hown5.toSl shS))
    rw [progAt_eq] at HC
    clear hown5
    go_wp2_with fail
    refine HC.out.mono ?_
    rintro e w6 ⟨rfl, hb6⟩
    have hs6 := hb6.size
    have h6 := h5.below shS (hb6.mono (by omega))
    have B6 := B5.trans (hb6.mono (by omega))
    clear HC
    go_wp2_with fail
    refine (refAt_c hs day _ w6 B (by omega) h6).mono ?_
    rintro e w7 ⟨rfl, hb7⟩
    have hat : (refAt hs day == refAt hs day) = true := by simp
    go_wp2
    go_ret
    exact ⟨rfl, B6.trans (hb7.mono (by omega))⟩
end Go.Proofs.Ytgnaknanpgfpnaa
