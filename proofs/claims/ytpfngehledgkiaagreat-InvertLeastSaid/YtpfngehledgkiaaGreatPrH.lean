/- What a right catalog is made of. -/
import Derived.Test.YtpfngehledgkiaaGreatPrF
import Derived.Test.YtpfngehledgkiaaGreatPlD
namespace Go.Proofs.YtpfngehledgkiaaGreat
open Go.RowKit

theorem shtG_zero {ls : List ByteArray} : ∀ (r bf : List Sheet) (p : List Int), shtG ls bf p r = 0 → ∀ s ∈ r, (1 ≤ s.unit ∧ s.unit ≤ 1073741824 ∧ 1 ≤ s.level ∧ s.level ≤ 4) ∧ (s.mark.size ≤ 64 ∧ 1 ≤ s.title.size ∧ s.title.size ≤ 64) ∧ fctE ls s.facts = 0
  | [], _, _, _ => by simp
  | x :: r, bf, p, h => by
    rw [shtG_cons] at h
    by_cases h0 : shtF ls bf p x = 0
    · rw [if_pos h0] at h
      intro s hs
      rcases List.mem_cons.1 hs with rfl | hs
      · obtain ⟨a, b, _, _, _, e⟩ := shtF_zero h0
        exact ⟨a, b, e⟩
      · exact shtG_zero r _ _ h s hs
    · rw [if_neg h0] at h
      exact absurd h h0
theorem catE_zero {c : Cat} (h : catE c = 0) : langE c.langs = 0 ∧ labE c.langs c.labels = 0 ∧ c.sheets.length ≤ 256 ∧ ∀ s ∈ c.sheets, (1 ≤ s.unit ∧ s.unit ≤ 1073741824 ∧ 1 ≤ s.level ∧ s.level ≤ 4) ∧ (s.mark.size ≤ 64 ∧ 1 ≤ s.title.size ∧ s.title.size ≤ 64) ∧ fctE c.langs s.facts = 0 := by
  unfold catE at h
  by_cases h1 : langE c.langs = 0
  · rw [if_neg (by simp [h1])] at h
    by_cases h2 : labE c.langs c.labels = 0
    · rw [if_neg (by simp [h2])] at h
      unfold shtE at h
      by_cases h3 : 256 < c.sheets.length
      · rw [if_pos h3] at h; cases h
      rw [if_neg h3] at h
      exact ⟨h1, h2, by omega, shtG_zero _ _ _ h⟩
    · rw [if_pos h2] at h; exact absurd h h2
  · rw [if_pos h1] at h; exact absurd h h1
theorem fctE_len {ls : List ByteArray} {l : List Fact} (h : fctE ls l = 0) : l.length ≤ 32 := by
  unfold fctE at h
  by_cases h3 : 32 < l.length
  · rw [if_pos h3] at h; cases h
  · omega
end Go.Proofs.YtpfngehledgkiaaGreat
