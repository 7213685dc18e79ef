/- Plain: the preferred language; what is chosen. -/
import Derived.Test.YtbmlnflacdockaaGreatDoorPlA
namespace Go.Proofs.YtbmlnflacdockaaGreatDoor
open Go.RowKit

section
variable {α : Type} (el : α → Int) (lang : α → ByteArray)
def atG (l : List α) (e : Int) (s : ByteArray) : Option α := l.find? fun f => decide (el f = e) && decide (lang f = s)
def firstG (l : List α) (e : Int) (ord : List ByteArray) : Option α := ord.findSome? fun s => atG el lang l e s
variable {el lang}
theorem atG_some {l : List α} {e : Int} {s : ByteArray} {g : α} (h : atG el lang l e s = some g) : g ∈ l ∧ el g = e ∧ lang g = s := by
  have h1 := List.find?_some h
  simp only [Bool.and_eq_true, decide_eq_true_eq] at h1
  exact ⟨List.mem_of_find?_eq_some h, h1.1, h1.2⟩
theorem atG_none {l : List α} {e : Int} {s : ByteArray} : atG el lang l e s = none ↔ ∀ f ∈ l, el f = e → lang f ≠ s := by
  unfold atG
  rw [List.find?_eq_none]
  constructor
  · intro h f hf he hs
    exact h f hf (by simp [he, hs])
  · intro h f hf
    simp only [Bool.and_eq_true, decide_eq_true_eq, not_and]
    exact h f hf
theorem firstG_some {l : List α} {e : Int} : ∀ {ord : List ByteArray} {g : α}, firstG el lang l e ord = some g → g ∈ l ∧ el g = e ∧ lang g ∈ ord
  | [], _, h => by cases h
  | s :: r, g, h => by
    unfold firstG at h
    rw [List.findSome?_cons] at h
    cases hs : atG el lang l e s with
    | some g' =>
      rw [hs] at h
      injection h with h
      subst h
      obtain ⟨a, b, c⟩ := atG_some hs
      exact ⟨a, b, by simp [c]⟩
    | none =>
      rw [hs] at h
      obtain ⟨a, b, c⟩ := firstG_some (ord := r) h
      exact ⟨a, b, by simp [c]⟩
theorem firstG_other {q : List α} {f : α} {e : Int} (h : el f ≠ e) (ord : List ByteArray) : firstG el lang (q ++ [f]) e ord = firstG el lang q e ord := by
  unfold firstG
  congr 1
  funext s
  unfold atG
  rw [List.find?_append]
  simp [h]
theorem rank_cons (s x : ByteArray) (r : List ByteArray) : rankF (s :: r) x = if s = x then 0 else if rankF r x < 0 then -1 else rankF r x + 1 := by
  have gen : ∀ (p : ByteArray → Bool) (l : List ByteArray) (i : Nat), idxG p l (i + 1) = if idxG p l i < 0 then -1 else idxG p l i + 1 := by
    intro p l
    induction l with
    | nil => intro i; rfl
    | cons y l ih =>
      intro i
      unfold idxG
      by_cases h : p y = true
      · rw [if_pos h, if_pos h, if_neg (by omega)]; omega
      · rw [if_neg h, if_neg h]; exact ih (i + 1)
  unfold rankF idxF
  rw [show idxG (fun y => decide (y = x)) (s :: r) 0 = if decide (s = x) = true then ((0 : Nat) : Int) else idxG (fun y => decide (y = x)) r (0 + 1) from rfl]
  by_cases h : s = x
  · rw [if_pos (by simp [h]), if_pos h]; rfl
  · rw [if_neg (by simp [h]), if_neg h]
    exact gen _ _ 0
theorem rank_nonneg {ord : List ByteArray} {x : ByteArray} (h : x ∈ ord) : 0 ≤ rankF ord x := by
  rcases idxF_cases (fun y : ByteArray => decide (y = x)) ord with ⟨_, h2⟩ | ⟨k, _, h1, _⟩
  · have := h2 x h
    simp at this
  · have : rankF ord x = k := h1
    omega
theorem rank_lt {ord : List ByteArray} {x : ByteArray} : rankF ord x < ord.length := by
  rcases idxF_cases (fun y : ByteArray => decide (y = x)) ord with ⟨h1, _⟩ | ⟨k, _, h1, h2, _⟩
  · have : rankF ord x = -1 := h1
    omega
  · have := lt_of_at h2
    have : rankF ord x = k := h1
    omega
/-- one element more, in a language that the others of its kind do not have -/
theorem firstG_snoc {q : List α} {f : α} (hnew : ∀ g ∈ q, el g = el f → lang g ≠ lang f) : ∀ (ord : List ByteArray), lang f ∈ ord →
    firstG el lang (q ++ [f]) (el f) ord = match firstG el lang q (el f) ord with
      | none => some f
      | some g => if rankF ord (lang f) < rankF ord (lang g) then some f else some g
  | [], h => by simp at h
  | s :: r, h => by
    have happ : atG el lang (q ++ [f]) (el f) s = match atG el lang q (el f) s with
        | some g => some g
        | none => if lang f = s then some f else none := by
      unfold atG
      rw [List.find?_append]
      cases hq : q.find? (fun g => decide (el g = el f) && decide (lang g = s)) with
      | some g => simp
      | none =>
        by_cases hs : lang f = s
        · simp [hs]
        · simp [hs]
    have hc : ∀ l : List α, firstG el lang l (el f) (s :: r) = match atG el lang l (el f) s with
        | some g => some g
        | none => firstG el lang l (el f) r := by
      intro l
      unfold firstG
      rw [List.findSome?_cons]
      cases atG el lang l (el f) s <;> rfl
    rw [hc, hc, happ]
    by_cases hs : lang f = s
    · have hn : atG el lang q (el f) s = none := atG_none.2 fun g hg he => by rw [← hs]; exact hnew g hg he
      rw [hn, if_pos hs]
      simp only
      cases hg : firstG el lang q (el f) r with
      | none => rfl
      | some g =>
        obtain ⟨g1, g2, g3⟩ := firstG_some hg
        have hgs : s ≠ lang g := fun e => hnew g g1 g2 (by rw [hs, e])
        have h1 := rank_cons s (lang f) r
        have h2 := rank_cons s (lang g) r
        rw [if_pos hs.symm] at h1
        rw [if_neg hgs, if_neg (by have := rank_nonneg g3; omega)] at h2
        have h3 := rank_nonneg g3
        simp only
        rw [if_pos (by omega)]
    · have hr : lang f ∈ r := by
        rcases List.mem_cons.1 h with e | e
        · exact absurd e hs
        · exact e
      cases hn : atG el lang q (el f) s with
      | some g =>
        obtain ⟨_, _, g3⟩ := atG_some hn
        have h2 := rank_cons s (lang g) r
        rw [if_pos g3.symm] at h2
        have h3 := rank_nonneg h
        simp only
        rw [if_neg (by omega)]
      | none =>
        simp only
        rw [if_neg hs]
        simp only
        rw [firstG_snoc hnew r hr]
        cases hg : firstG el lang q (el f) r with
        | none => rfl
        | some g =>
          obtain ⟨g1, g2, g3⟩ := firstG_some hg
          have hgs : s ≠ lang g := atG_none.1 hn g g1 g2 |>.symm
          have h1 := rank_cons s (lang f) r
          have h2 := rank_cons s (lang g) r
          have r1 := rank_nonneg hr
          have r2 := rank_nonneg g3
          rw [if_neg (fun e => hs e.symm), if_neg (by omega)] at h1
          rw [if_neg hgs, if_neg (by omega)] at h2
          simp only
          by_cases hlt : rankF r (lang f) < rankF r (lang g)
          · rw [if_pos hlt, if_pos (by omega)]
          · rw [if_neg hlt, if_neg (by omega)]
end
theorem less_asymm (a b : ByteArray) (h : a = b) : lessB a b = false := by
  subst h
  unfold lessB
  have gen : ∀ x : List UInt8, Op.bytesLess x x = false := by
    intro x
    induction x with
    | nil => rfl
    | cons y r ih => simp [Op.bytesLess, ih]
  exact gen _
/-- the kinds, each once where they stand together -/
def elsG {α : Type} (el : α → Int) : Option Int → List α → List Int
  | _, [] => []
  | p, f :: r => if p = some (el f) then elsG el (some (el f)) r else el f :: elsG el (some (el f)) r
end Go.Proofs.YtbmlnflacdockaaGreatDoor
