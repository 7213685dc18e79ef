/- Chapter 47 in plain words: languages stand once; the preference, as the program makes it, is the one that is said. -/
import Derived.Test.YtbmlnflacdockaaGreatDoorPrE
namespace Go.Proofs.YtbmlnflacdockaaGreatDoor
open Go.RowKit

theorem langG_zero : ∀ (r sn : List ByteArray), langG sn r = 0 → sn.Nodup → (sn ++ r).Nodup ∧ ∀ x ∈ r, letB x = true
  | [], sn, _, h => by simpa using h
  | x :: r, sn, h, hn => by
    unfold langG at h
    by_cases h1 : letB x = false
    · rw [if_pos h1] at h; cases h
    rw [if_neg h1] at h
    by_cases h2 : hasS sn x = true
    · rw [if_pos h2] at h; cases h
    rw [if_neg h2] at h
    have hx : x ∉ sn := fun hm => h2 (hasS_iff.2 hm)
    obtain ⟨i1, i2⟩ := langG_zero r (sn ++ [x]) h (List.nodup_append.2 ⟨hn, by simp, fun a ha b hb e => hx (by simp at hb; subst hb; subst e; exact ha)⟩)
    refine ⟨by simpa [List.append_assoc] using i1, fun y hy => ?_⟩
    rcases List.mem_cons.1 hy with rfl | hy
    · simpa using h1
    · exact i2 y hy
theorem langE_zero {ls : List ByteArray} (h : langE ls = 0) : 1 ≤ ls.length ∧ ls.length ≤ 8 ∧ ls.Nodup ∧ ∀ x ∈ ls, letB x = true := by
  unfold langE at h
  by_cases h1 : ls.length < 1 ∨ 8 < ls.length
  · rw [if_pos h1] at h; cases h
  rw [if_neg h1] at h
  obtain ⟨i1, i2⟩ := langG_zero ls [] h (by simp)
  exact ⟨by omega, by omega, by simpa using i1, i2⟩
theorem pref_eq {ls : List ByteArray} {s : ByteArray} (hn : ls.Nodup) (hs : s ∈ ls) : prefP ls s = prefF ls s := by
  unfold prefP prefF
  rcases idxF_cases (fun x => decide (x = s)) ls with ⟨-, h2⟩ | ⟨k, x, h1, h2, h3, -⟩
  · have := h2 s hs; simp at this
  · have hx : x = s := by simpa using h3
    subst hx
    have hk : (rankF ls x).toNat = k := by unfold rankF; rw [h1]; simp
    obtain ⟨hlt, hg⟩ := List.getElem?_eq_some_iff.1 h2
    have hsp : ls = ls.take k ++ x :: ls.drop (k + 1) := by rw [← hg, List.getElem_cons_drop, List.take_append_drop]
    rw [hk]
    have hn2 : (ls.take k ++ x :: ls.drop (k + 1)).Nodup := by rw [← hsp]; exact hn
    obtain ⟨-, n2, n3⟩ := List.nodup_append.1 hn2
    obtain ⟨n4, -⟩ := List.nodup_cons.1 n2
    have e1 : (ls.take k).filter (fun y => decide (y ≠ x)) = ls.take k := List.filter_eq_self.2 fun y hy => by simpa using n3 y hy x (by simp)
    have e2 : (ls.drop (k + 1)).filter (fun y => decide (y ≠ x)) = ls.drop (k + 1) := List.filter_eq_self.2 fun y hy => by simp; rintro rfl; exact n4 hy
    conv => rhs; rw [hsp]
    rw [List.filter_append, List.filter_cons, if_neg (by simp), e1, e2]
end Go.Proofs.YtbmlnflacdockaaGreatDoor
