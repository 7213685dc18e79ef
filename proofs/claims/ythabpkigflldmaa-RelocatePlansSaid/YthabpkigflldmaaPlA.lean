/- Plain law: both checks of boxes agree; the size of shelves and boxes. -/
import Derived.Test.YthabpkigflldmaaBxT
namespace Go.Proofs.Ythabpkigflldmaa
open Go.RowKit

theorem nab {a b : Prop} : ¬ (a ∧ b) ↔ ¬ a ∨ ¬ b := Classical.not_and_iff_not_or_not
theorem dupG_iff : ∀ (us seen : List Int), dupG seen us = true ↔ (∃ u ∈ us, u ∈ seen) ∨ ¬ us.Nodup
  | [], seen => by simp [dupG]
  | u :: r, seen => by
    unfold dupG
    by_cases hu : u ∈ seen
    · simp [hu]
    · rw [if_neg hu, dupG_iff r (seen ++ [u])]
      simp only [List.mem_append, List.mem_cons, List.not_mem_nil, or_false, List.nodup_cons, nab, Classical.not_not]
      constructor
      · rintro (⟨x, hx, hx2 | hx2⟩ | h)
        · exact .inl ⟨x, .inr hx, hx2⟩
        · subst hx2; exact .inr (.inl hx)
        · exact .inr (.inr h)
      · rintro (⟨x, hx | hx, hx2⟩ | h | h)
        · subst hx; exact absurd hx2 hu
        · exact .inl ⟨x, hx, .inl hx2⟩
        · exact .inl ⟨u, h, .inr rfl⟩
        · exact .inr h
theorem nodup_count : ∀ (us : List Int), ¬ us.Nodup ↔ ∃ u ∈ us, 1 < us.count u
  | [] => by simp
  | v :: r => by
    rw [List.nodup_cons, nab, Classical.not_not, nodup_count r]
    constructor
    · rintro (h | ⟨u, hu, h⟩)
      · refine ⟨v, by simp, ?_⟩
        have := List.count_pos_iff.2 h
        simp; omega
      · refine ⟨u, by simp [hu], ?_⟩
        rw [List.count_cons]; omega
    · rintro ⟨u, hu, h⟩
      rw [List.count_cons] at h
      by_cases he : v = u
      · subst he
        simp at h
        first
          | exact .inl h
          | exact .inl (List.count_pos_iff.1 (by omega))
      · have hu' : u ∈ r := by
          rcases List.mem_cons.1 hu with h1 | h1
          · exact absurd h1.symm he
          · exact h1
        simp [he] at h
        exact .inr ⟨u, hu', h⟩
def unitsAll (ps : List Box) : List Int := (ps.map unitsOf).flatten
theorem rdupG_iff (ps : List Box) (b : Box) : ∀ (l : List Content), rdupG ps b l = true ↔ ∃ c ∈ l, 1 < (unitsOf b).count c.unit ∨ c.unit ∈ unitsAll ps
  | [] => by simp [rdupG]
  | c :: r => by
    have hany : (ps.any fun x => decide (0 < insideN x c.unit)) = true ↔ c.unit ∈ unitsAll ps := by
      simp only [List.any_eq_true, unitsAll, List.mem_flatten, List.mem_map, insideN]
      constructor
      · rintro ⟨x, hx, h⟩
        exact ⟨_, ⟨x, hx, rfl⟩, List.count_pos_iff.1 (of_decide_eq_true h)⟩
      · rintro ⟨_, ⟨x, hx, rfl⟩, h⟩
        exact ⟨x, hx, decide_eq_true (List.count_pos_iff.2 h)⟩
    unfold rdupG
    by_cases hc : (decide (1 < insideN b c.unit) || ps.any fun x => decide (0 < insideN x c.unit)) = true
    · rw [if_pos hc]
      rw [Bool.or_eq_true, decide_eq_true_eq, hany] at hc
      simp only [List.mem_cons, true_iff]
      exact ⟨c, .inl rfl, hc⟩
    · rw [if_neg hc, rdupG_iff ps b r]
      rw [Bool.or_eq_true, decide_eq_true_eq, hany] at hc
      simp only [List.mem_cons]
      constructor
      · rintro ⟨x, hx, h⟩; exact ⟨x, .inr hx, h⟩
      · rintro ⟨x, hx | hx, h⟩
        · subst hx; exact absurd h hc
        · exact ⟨x, hx, h⟩
theorem dup_eq (ps : List Box) (b : Box) : rdupG ps b b.cont = dupG (unitsAll ps) (unitsOf b) := by
  rw [Bool.eq_iff_iff, rdupG_iff, dupG_iff, nodup_count]
  constructor
  · rintro ⟨c, hc, h | h⟩
    · exact .inr ⟨c.unit, List.mem_map.2 ⟨c, hc, rfl⟩, h⟩
    · exact .inl ⟨c.unit, List.mem_map.2 ⟨c, hc, rfl⟩, h⟩
  · rintro (⟨u, hu, h⟩ | ⟨u, hu, h⟩)
    · obtain ⟨c, hc, rfl⟩ := List.mem_map.1 hu
      exact ⟨c, hc, .inr h⟩
    · obtain ⟨c, hc, rfl⟩ := List.mem_map.1 hu
      exact ⟨c, hc, .inl h⟩
theorem boxesG_eq : ∀ (l ps : List Box) (p : Option Box), rboxesG ps p l = boxesG (unitsAll ps) p l
  | [], _, _ => rfl
  | b :: r, ps, p => by
    unfold rboxesG boxesG
    rw [dup_eq, boxesG_eq r (ps ++ [b]) (some b)]
    have : unitsAll (ps ++ [b]) = unitsAll ps ++ unitsOf b := by simp [unitsAll]
    rw [this]
theorem boxesR_eq (l : List Box) : boxesR l = boxesE l := by
  unfold boxesR boxesE
  rw [boxesG_eq]
  rfl

def sizeF (n : Nat) : Nat → Nat
  | 0 => 1
  | m + 1 => min (sizeF n m * n) 4097
theorem sizeF_le (n m : Nat) : sizeF n m ≤ 4097 := by
  cases m with
  | zero => simp [sizeF]
  | succ m => simp only [sizeF]; omega
theorem sizeF_big (n m : Nat) (h : 4096 < sizeF n m) : 4096 < sizeF n (m + 1) := by
  have h1 := sizeF_le n m
  have h2 : sizeF n m = 4097 := by omega
  rcases n with _ | n
  · rcases m with _ | m <;> simp [sizeF] at h
  · simp only [sizeF, h2]
    have : 4097 ≤ 4097 * (n + 1) := Nat.le_mul_of_pos_right _ (by omega)
    omega
theorem sizeF_mono (n : Nat) {k m : Nat} (hk : k ≤ m) (h : 4096 < sizeF n k) : 4096 < sizeF n m := by
  induction m with
  | zero => obtain rfl : k = 0 := by omega
            exact h
  | succ m ih =>
    by_cases hkm : k = m + 1
    · subst hkm; exact h
    · exact sizeF_big n m (ih (by omega))
theorem sizeF_step (n m : Nat) (h : sizeF n (m + 1) ≤ 4096) : sizeF n (m + 1) = sizeF n m * n := by
  simp only [sizeF] at *; omega
def startE (l : List Shelf) (b : List Box) : Int := if shelvesE l ≠ 0 ∨ boxesE b ≠ 0 then 1 else if 4096 < sizeF l.length b.length then 8 else 0
end Go.Proofs.Ythabpkigflldmaa
