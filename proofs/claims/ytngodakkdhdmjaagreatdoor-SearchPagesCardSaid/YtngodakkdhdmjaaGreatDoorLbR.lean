/- Ranges of postings: where they stand (plain). -/
import Derived.Test.YtngodakkdhdmjaaGreatDoorRgs
import Derived.Test.YtngodakkdhdmjaaGreatDoorLib
import Derived.Test.YtngodakkdhdmjaaGreatDoorIvK
namespace Go.Proofs.YtngodakkdhdmjaaGreatDoor
open Go.RowKit

theorem dropW_head {α : Type} {q : α → Bool} : ∀ {l : List α} {x : α} {r : List α}, l.dropWhile q = x :: r → q x = false
  | [], x, r, h => by simp at h
  | y :: l, x, r, h => by
    rw [List.dropWhile_cons] at h
    split at h
    · exact dropW_head h
    · rename_i hy
      injection h with h1 h2
      subst h1
      simpa using hy
theorem rng_parts {p : Post → Bool} {l : List Post} (hl : SortedP l) (hcv : ∀ x y z, ple x y → ple y z → p x = true → p z = true → p y = true) :
    ∃ a b c, l = a ++ (b ++ c) ∧ (∀ x ∈ a, p x = false) ∧ (∀ x ∈ b, p x = true) ∧ (∀ x ∈ c, p x = false) ∧ rngF p l = if b = [] then (0, 0) else ((a.length : Int), b.length) := by
  have ha : ∀ x ∈ l.takeWhile (fun x => !p x), p x = false := fun x hx => by
    have := takeWhile_all x hx
    simpa using this
  have hb : ∀ x ∈ (l.dropWhile fun x => !p x).takeWhile p, p x = true := fun x hx => takeWhile_all x hx
  have hc : ∀ x ∈ (l.dropWhile fun x => !p x).dropWhile p, p x = false := by
    have hds : SortedP (l.dropWhile fun x => !p x) := hl.sublist (List.dropWhile_sublist _)
    cases hB : l.dropWhile (fun x => !p x) with
    | nil => intro x hx; simp at hx
    | cons y0 r0 =>
      have hy0 : p y0 = true := by simpa using dropW_head hB
      rw [hB] at hds
      have key : ∀ {C : List Post}, SortedP C → (∀ z ∈ C, ple y0 z) → ∀ x ∈ C.dropWhile p, p x = false := by
        intro C
        induction C with
        | nil => intro _ _ x hx; simp at hx
        | cons y r ih =>
          intro hs hle x hx
          have hs' := List.pairwise_cons.1 hs
          rw [List.dropWhile_cons] at hx
          split at hx
          · exact ih hs'.2 (fun z hz => hle z (List.mem_cons_of_mem _ hz)) x hx
          · rename_i hy
            have hy' : p y = false := by simpa using hy
            rcases List.mem_cons.1 hx with rfl | hx
            · exact hy'
            · cases hpx : p x
              · rfl
              · rw [hcv y0 y x (hle y List.mem_cons_self) (hs'.1 x hx) hy0 hpx] at hy'
                cases hy'
      have hs0 := List.pairwise_cons.1 hds
      intro x hx
      rw [List.dropWhile_cons, if_pos hy0] at hx
      exact key hs0.2 hs0.1 x hx
  have hl2 : l = l.takeWhile (fun x => !p x) ++ ((l.dropWhile fun x => !p x).takeWhile p ++ (l.dropWhile fun x => !p x).dropWhile p) := by
    rw [List.takeWhile_append_dropWhile, List.takeWhile_append_dropWhile]
  have hr := rngG_mid p _ _ hb hc _ 0 ha
  rw [← hl2, Nat.zero_add] at hr
  exact ⟨_, _, _, hl2, ha, hb, hc, hr⟩
theorem rng_at {p : Post → Bool} {l : List Post} (hl : SortedP l) (hcv : ∀ x y z, ple x y → ple y z → p x = true → p z = true → p y = true) :
    (∀ (i : Nat) x, l[i]? = some x → p x = (decide ((rngF p l).1 ≤ (i : Int)) && decide ((i : Int) < (rngF p l).1 + ((rngF p l).2 : Int)))) ∧ ((rngF p l).2 = 0 → (rngF p l).1 = 0) ∧ 0 ≤ (rngF p l).1 ∧ (rngF p l).1 + (rngF p l).2 ≤ l.length := by
  obtain ⟨a, b, c, rfl, ha, hb, hc, hr⟩ := rng_parts hl hcv
  rw [hr]
  by_cases hbe : b = []
  · subst hbe
    rw [if_pos rfl]
    refine ⟨fun i x hx => ?_, fun _ => rfl, by simp, by simp; omega⟩
    have hm := List.mem_of_getElem? hx
    have : p x = false := by
      rcases List.mem_append.1 hm with h | h
      · exact ha x h
      · exact hc x (by simpa using h)
    rw [this]
    symm
    simp only [Bool.and_eq_false_iff, decide_eq_false_iff_not]
    simp
  · rw [if_neg hbe]
    have hbl : 0 < b.length := List.length_pos_iff.2 hbe
    refine ⟨fun i x hx => ?_, fun h => by simp only at h; omega, by simp, by simp only [List.length_append]; omega⟩
    have hil := lt_of_at hx
    simp only [List.length_append] at hil
    simp only
    by_cases h1 : i < a.length
    · rw [List.getElem?_append_left h1] at hx
      rw [ha x (List.mem_of_getElem? hx)]
      symm
      rw [Bool.and_eq_false_iff]
      left
      simp only [decide_eq_false_iff_not]
      omega
    · rw [List.getElem?_append_right (by omega)] at hx
      by_cases h2 : i - a.length < b.length
      · rw [List.getElem?_append_left h2] at hx
        rw [hb x (List.mem_of_getElem? hx)]
        symm
        rw [Bool.and_eq_true]
        simp only [decide_eq_true_eq]
        omega
      · rw [List.getElem?_append_right (by omega)] at hx
        rw [hc x (List.mem_of_getElem? hx)]
        symm
        rw [Bool.and_eq_false_iff]
        right
        simp only [decide_eq_false_iff_not]
        omega
theorem word_cv (w : ByteArray) (x y z : Post) (h1 : ple x y) (h2 : ple y z) (hx : decide (x.word = w) = true) (hz : decide (z.word = w) = true) : decide (y.word = w) = true := by
  simp only [decide_eq_true_eq] at *
  have g1 := ple_word h1
  have g2 := ple_word h2
  rw [hx] at g1
  rw [hz] at g2
  rcases lessB_tri y.word w with g | g | g
  · rw [g1] at g; cases g
  · exact g
  · rw [g2] at g; cases g
theorem pfx_cv (w : ByteArray) (x y z : Post) (h1 : ple x y) (h2 : ple y z) (hx : pfxB w x.word = true) (hz : pfxB w z.word = true) : pfxB w y.word = true := by
  have g0 := pfx_less hx
  have g1 := ple_word h1
  have g2 := ple_word h2
  have gx : lessB x.word w = false := by
    unfold lessB
    rw [data_list, data_list]
    exact g0
  have g3 := less_le g1 gx
  unfold lessB at g3 g2
  rw [data_list, data_list] at g3 g2
  exact pfx_mid g3 g2 hz
theorem find_at {l : List Post} (hl : SortedP l) (w : ByteArray) {fi : Int × Nat} (h : rngF (fun x : Post => decide (x.word = w)) l = fi) : (∀ (i : Nat) x, l[i]? = some x → decide (x.word = w) = (decide (fi.1 ≤ (i : Int)) && decide ((i : Int) < fi.1 + (fi.2 : Int)))) ∧ (fi.2 = 0 → fi.1 = 0) ∧ 0 ≤ fi.1 ∧ fi.1 + fi.2 ≤ l.length := by
  subst h
  exact rng_at hl (word_cv w)
theorem prefix_at {l : List Post} (hl : SortedP l) (w : ByteArray) {fi : Int × Nat} (h : rngF (fun x : Post => pfxB w x.word) l = fi) : (∀ (i : Nat) x, l[i]? = some x → pfxB w x.word = (decide (fi.1 ≤ (i : Int)) && decide ((i : Int) < fi.1 + (fi.2 : Int)))) ∧ (fi.2 = 0 → fi.1 = 0) ∧ 0 ≤ fi.1 ∧ fi.1 + fi.2 ≤ l.length := by
  subst h
  exact rng_at (p := fun x : Post => pfxB w x.word) hl (pfx_cv w)
end Go.Proofs.YtngodakkdhdmjaaGreatDoor
