/- Plain: the program's check of a state says what the reference's held says. -/
import Derived.Test.YthabpkigflldmaaHld
namespace Go.Proofs.Ythabpkigflldmaa

theorem shelvesG_ok : ∀ (l : List Shelf) (p : Option Shelf), shelvesG p l = 0 → (∀ s ∈ l, shelfOk s = true) ∧ (∀ s ∈ l, ∀ q ∈ p, q.id < s.id) ∧ l.Pairwise (fun a b => a.id < b.id)
  | [], _, _ => by simp
  | s :: r, p, h => by
    unfold shelvesG at h
    split at h
    · cases h
    · rename_i h1
      split at h
      · cases h
      · rename_i h2
        obtain ⟨i1, i2, i3⟩ := shelvesG_ok r (some s) h
        have h3 : ∀ q ∈ p, q.id < s.id := by
          intro q hq
          cases hq
          simp at h2
          omega
        have h4 : ∀ a ∈ r, s.id < a.id := fun a ha => i2 a ha s rfl
        refine ⟨?_, ?_, ?_⟩
        · intro a ha
          rcases List.mem_cons.1 ha with rfl | ha
          · simpa using h1
          · exact i1 a ha
        · intro a ha q hq
          rcases List.mem_cons.1 ha with rfl | ha
          · exact h3 q hq
          · have := h3 q hq; have := h4 a ha; omega
        · exact List.pairwise_cons.2 ⟨h4, i3⟩
theorem shelves_ok {l : List Shelf} (h : shelvesE l = 0) : l.length ≤ 32 ∧ (∀ s ∈ l, shelfOk s = true) ∧ l.Pairwise (fun a b => a.id < b.id) := by
  unfold shelvesE at h
  split at h
  · cases h
  · obtain ⟨h1, _, h3⟩ := shelvesG_ok l none h
    exact ⟨by omega, h1, h3⟩
theorem shelf_len {s : Shelf} (h : shelfOk s = true) : 1 ≤ s.len := by
  simp only [shelfOk, inB, Bool.and_eq_true, decide_eq_true_eq] at h
  omega
theorem asc_inj {α : Type} (f : α → Int) {l : List α} (h : l.Pairwise (fun a b => f a < f b)) : ∀ {i j : Nat} {a b : α}, l[i]? = some a → l[j]? = some b → f a = f b → i = j := by
  intro i j a b hi hj he
  obtain ⟨hi1, hi2⟩ := List.getElem?_eq_some_iff.1 hi
  obtain ⟨hj1, hj2⟩ := List.getElem?_eq_some_iff.1 hj
  have hp := List.pairwise_iff_getElem.1 h
  rcases Nat.lt_trichotomy i j with hlt | heq | hlt
  · have := hp i j hi1 hj1 hlt; rw [hi2, hj2] at this; omega
  · exact heq
  · have := hp j i hj1 hi1 hlt; rw [hi2, hj2] at this; omega

theorem heldS_le (s : Shelf) : ∀ (l : List (Int × Box)) (n : Int), (∀ p ∈ l, 0 ≤ p.2.width) → heldS s n l = true → n ≤ s.len
  | [], n, _, h => by simpa [heldS] using h
  | (id, b) :: r, n, hw, h => by
    unfold heldS at h
    have hb := hw (id, b) (by simp)
    have hr : ∀ p ∈ r, 0 ≤ p.2.width := fun p hp => hw p (by simp [hp])
    split at h
    · exact heldS_le s r n hr h
    · split at h
      · cases h
      · have := heldS_le s r _ hr h; simp only at hb; omega
theorem sums_held (ls : List Shelf) (hasc : ls.Pairwise (fun a b => a.id < b.id)) : ∀ (l : List (Int × Box)) (ss : List Int), (∀ p ∈ l, 0 ≤ p.2.width) → (∀ p ∈ l, ¬ shIx ls p.1 < 0) → (∀ (m : Nat) s, ls[m]? = some s → ss.getD m 0 ≤ s.len) → ss.length = ls.length →
    (sumsG ls ss l = true ↔ ∀ (m : Nat) s, ls[m]? = some s → heldS s (ss.getD m 0) l = true)
  | [], ss, _, _, hle, _ => by simpa [sumsG, heldS] using hle
  | (id, b) :: r, ss, hw, hin, hle, hlen => by
    have hb : 0 ≤ b.width := hw (id, b) (by simp)
    have hr : ∀ p ∈ r, 0 ≤ p.2.width := fun p hp => hw p (by simp [hp])
    have hin' : ∀ p ∈ r, ¬ shIx ls p.1 < 0 := fun p hp => hin p (by simp [hp])
    obtain ⟨m, s, hm, hs0, hids, _⟩ : ∃ (m : Nat) (s : Shelf), shIx ls id = (m : Int) ∧ ls[m]? = some s ∧ idS id s = true ∧ ∀ (j : Nat) y, j < m → ls[j]? = some y → idS id y = false := by
      rcases idxF_cases (idS id) ls with ⟨h1, _⟩ | h1
      · exact absurd (show shIx ls id < 0 by unfold shIx; omega) (hin (id, b) (by simp))
      · exact h1
    have hid : s.id = id := by simpa [idS] using hids
    have hml := lt_of_at hs0
    have hfa : fitsAt ls ss id b = if s.len < ss.getD m 0 + b.width ∨ b.clim ≠ s.clim then none else some (ss.set m (ss.getD m 0 + b.width)) := by
      unfold fitsAt
      rw [hm]
      simp only [Int.toNat_natCast, hs0]
    have hoth : ∀ (m' : Nat) s', ls[m']? = some s' → m' ≠ m → id ≠ s'.id := by
      intro m' s' h1 h2 h3
      exact h2 (asc_inj Shelf.id hasc h1 hs0 (by rw [hid, h3]))
    by_cases hbad : s.len < ss.getD m 0 + b.width ∨ b.clim ≠ s.clim
    · have h1 : sumsG ls ss ((id, b) :: r) = false := by simp only [sumsG, hfa, if_pos hbad]
      rw [h1]
      refine ⟨fun h => (by cases h), fun h => ?_⟩
      have h2 := h m s hs0
      unfold heldS at h2
      rw [if_neg (by simp [hid])] at h2
      split at h2
      · cases h2
      · rename_i h3
        have := heldS_le s r _ hr h2
        rcases hbad with h4 | h4
        · omega
        · exact absurd h4 h3
    · have h1 : sumsG ls ss ((id, b) :: r) = sumsG ls (ss.set m (ss.getD m 0 + b.width)) r := by simp only [sumsG, hfa, if_neg hbad]
      have hg : ∀ (m' : Nat), (ss.set m (ss.getD m 0 + b.width)).getD m' 0 = if m' = m then ss.getD m 0 + b.width else ss.getD m' 0 := by
        intro m'
        simp only [List.getD_eq_getElem?_getD, List.getElem?_set]
        by_cases h : m' = m
        · subst h; simp [hlen, hml]
        · rw [if_neg (fun h' => h h'.symm), if_neg h]
      have hcl : b.clim = s.clim := Classical.byContradiction fun h => hbad (.inr h)
      have hsum : ss.getD m 0 + b.width ≤ s.len := by
        have : ¬ s.len < ss.getD m 0 + b.width := fun h => hbad (.inl h)
        omega
      rw [h1, sums_held ls hasc r _ hr hin' ?_ (by rw [List.length_set]; exact hlen)]
      · constructor
        · intro h m' s' hs'
          have h2 := h m' s' hs'
          rw [hg] at h2
          unfold heldS
          by_cases hmm : m' = m
          · subst hmm
            rw [hs0] at hs'; cases hs'
            rw [if_neg (by simp [hid]), if_neg (by simp [hcl])]
            simpa using h2
          · rw [if_pos (hoth m' s' hs' hmm)]
            rw [if_neg hmm] at h2; exact h2
        · intro h m' s' hs'
          have h2 := h m' s' hs'
          rw [hg]
          unfold heldS at h2
          by_cases hmm : m' = m
          · subst hmm
            rw [hs0] at hs'; cases hs'
            rw [if_neg (by simp [hid]), if_neg (by simp [hcl])] at h2
            simpa using h2
          · rw [if_pos (hoth m' s' hs' hmm)] at h2
            rw [if_neg hmm]; exact h2
      · intro m' s' hs'
        rw [hg]
        by_cases hmm : m' = m
        · subst hmm
          rw [hs0] at hs'; cases hs'
          simpa using hsum
        · rw [if_neg hmm]; exact hle m' s' hs'
/-- A state is right: as many places as boxes, all shelves known. -/
def Right (ls : List Shelf) (bs : List Box) (at_ : List Int) : Prop := at_.length = bs.length ∧ notHere ls at_ = false
def heldB (ls : List Shelf) (bs : List Box) (at_ : List Int) : Bool := heldP ls (at_.zip bs)
def checkF (ls : List Shelf) (bs : List Box) (at_ : List Int) : Int :=
  if at_.length ≠ bs.length then 10 else if notHere ls at_ = true then 7 else fitsE (heldB ls bs at_)
theorem check_eq {ls : List Shelf} {bs : List Box} (hst : startE ls bs = 0) (at_ : List Int) : checkE ls bs at_ = checkF ls bs at_ := by
  obtain ⟨hok1, hok2, -⟩ := start_ok hst
  obtain ⟨h32, hsok, hasc⟩ := shelves_ok hok1
  obtain ⟨h128, hbok⟩ := boxes_ok hok2
  unfold checkE checkF
  by_cases h1 : at_.length ≠ bs.length
  · rw [if_pos h1, if_pos h1]
  · rw [if_neg h1, if_neg h1]
    by_cases h2 : notHere ls at_ = true
    · rw [if_pos h2, if_pos h2]
    · rw [if_neg h2, if_neg h2]
      congr 1
      have h0 : ∀ m : Nat, (List.replicate ls.length (0 : Int)).getD m 0 = 0 := by
        intro m
        simp only [List.getD_eq_getElem?_getD, List.getElem?_replicate]
        split <;> rfl
      have := sums_held ls hasc (at_.zip bs) (List.replicate ls.length 0) (fun p hp => by have := (box_width (hbok p.2 (List.of_mem_zip hp).2).1).1; omega)
        (fun p hp hneg => by
          apply h2
          unfold notHere
          rw [List.any_eq_true]
          exact ⟨p.1, (List.of_mem_zip hp).1, by simpa using hneg⟩)
        (fun m s hs => by rw [h0]; have := shelf_len (hsok s (List.mem_of_getElem? hs)); omega) (by simp)
      simp only [h0] at this
      rw [Bool.eq_iff_iff, this]
      unfold heldB heldP
      rw [List.all_eq_true]
      constructor
      · intro h s hs
        obtain ⟨m, hm⟩ := List.getElem?_of_mem hs
        exact h m s hm
      · intro h m s hs
        exact h s (List.mem_of_getElem? hs)
end Go.Proofs.Ythabpkigflldmaa
