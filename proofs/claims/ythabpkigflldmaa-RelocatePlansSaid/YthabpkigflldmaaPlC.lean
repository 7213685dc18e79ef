/- Plain: the steps from a state, as a graph: in order, leading back, finite. -/
import Derived.Test.YthabpkigflldmaaBfs
import Derived.Test.YthabpkigflldmaaStp
namespace Go.Proofs.Ythabpkigflldmaa

theorem boxesG_asc : ∀ (l : List Box) (sn : List Int) (p : Option Box), boxesG sn p l = 0 → (∀ b ∈ l, ∀ q ∈ p, q.id < b.id) ∧ l.Pairwise (fun a b => a.id < b.id)
  | [], _, _, _ => by simp
  | b :: r, sn, p, h => by
    unfold boxesG at h
    split at h
    · rename_i h1; exact absurd h h1
    · split at h
      · cases h
      · rename_i h2
        split at h
        · cases h
        · obtain ⟨i2, i3⟩ := boxesG_asc r _ (some b) h
          have h3 : ∀ q ∈ p, q.id < b.id := by
            intro q hq
            cases hq
            simp at h2
            omega
          have h4 : ∀ a ∈ r, b.id < a.id := fun a ha => i2 a ha b rfl
          refine ⟨?_, List.pairwise_cons.2 ⟨h4, i3⟩⟩
          intro a ha q hq
          rcases List.mem_cons.1 ha with rfl | ha
          · exact h3 q hq
          · have := h3 q hq; have := h4 a ha; omega
theorem nodup_sub_len {α : Type} [DecidableEq α] : ∀ (l l' : List α), l.Nodup → (∀ x ∈ l, x ∈ l') → l.length ≤ l'.length
  | [], _, _, _ => by simp
  | a :: l, l', hn, hs => by
    rw [List.nodup_cons] at hn
    have ha : a ∈ l' := hs a (by simp)
    have h1 := nodup_sub_len l (l'.erase a) hn.2 fun x hx => by
      have hne : x ≠ a := fun he => hn.1 (he ▸ hx)
      exact (List.mem_erase_of_ne hne).2 (hs x (by simp [hx]))
    have h2 := List.length_erase_of_mem ha
    have h3 : 0 < l'.length := List.length_pos_of_mem ha
    simp only [List.length_cons]
    omega
def allOf (ids : List Int) : Nat → List (List Int)
  | 0 => [[]]
  | m + 1 => (ids.map fun i => (allOf ids m).map (i :: ·)).flatten
theorem allOf_len (ids : List Int) : ∀ m, (allOf ids m).length = ids.length ^ m
  | 0 => rfl
  | m + 1 => by
    have h := allOf_len ids m
    have gen : ∀ js : List Int, ((js.map fun i => (allOf ids m).map (i :: ·)).flatten).length = js.length * ids.length ^ m := by
      intro js
      induction js with
      | nil => simp
      | cons j js ih => rw [List.map_cons, List.flatten_cons, List.length_append, ih, List.length_map, h, List.length_cons, Nat.add_mul]; omega
    rw [allOf, gen, Nat.pow_succ, Nat.mul_comm]
theorem allOf_mem (ids : List Int) : ∀ (x : List Int), (∀ i ∈ x, i ∈ ids) → x ∈ allOf ids x.length
  | [], _ => by simp [allOf]
  | i :: r, h => by
    have h1 := allOf_mem ids r fun j hj => h j (by simp [hj])
    simp only [List.length_cons, allOf, List.mem_flatten, List.mem_map]
    exact ⟨_, ⟨i, h i (by simp), rfl⟩, List.mem_map.2 ⟨r, h1, rfl⟩⟩
theorem sizeF_pow (n : Nat) : ∀ m, sizeF n m ≤ 4096 → sizeF n m = n ^ m
  | 0, _ => rfl
  | m + 1, h => by
    have h1 : sizeF n m ≤ 4096 := Classical.byContradiction fun h2 => by
      have := sizeF_big n m (by omega)
      omega
    rw [sizeF_step n m h, sizeF_pow n m h1, Nat.pow_succ]
theorem right_mem {ls : List Shelf} {bs : List Box} {at_ : List Int} (h : Right ls bs at_) : ∀ i ∈ at_, i ∈ ls.map Shelf.id := by
  intro i hi
  have h2 := h.2
  unfold notHere at h2
  rw [List.any_eq_false] at h2
  have h3 := h2 i hi
  rcases idxF_cases (idS i) ls with ⟨h4, _⟩ | ⟨k, x, _, h5, h6, _⟩
  · simp [shIx, h4] at h3
  · exact List.mem_map.2 ⟨x, List.mem_of_getElem? h5, by simpa [idS] using h6⟩
theorem right_few {ls : List Shelf} {bs : List Box} (hst : startE ls bs = 0) (l : List (List Int)) (hn : l.Nodup) (hr : ∀ x ∈ l, Right ls bs x) : l.length ≤ 4096 := by
  obtain ⟨_, _, hsz⟩ := start_ok hst
  have h1 := nodup_sub_len l (allOf (ls.map Shelf.id) bs.length) hn fun x hx => by
    have := allOf_mem (ls.map Shelf.id) x (right_mem (hr x hx))
    rw [(hr x hx).1] at this
    exact this
  rw [allOf_len, List.length_map, ← sizeF_pow _ _ hsz] at h1
  omega

/-- a state that is possible -/
def Good (ls : List Shelf) (bs : List Box) (at_ : List Int) : Prop := Right ls bs at_ ∧ heldB ls bs at_ = true
def movedF (bs : List Box) (at_ : List Int) (c : Carry) : List Int := at_.set (bxIx bs c.box).toNat c.to_
def nbrF (ls : List Shelf) (bs : List Box) (at_ : List Int) : List (Carry × List Int) := (stepsF ls bs at_).map fun c => (c, movedF bs at_ c)
def ltC (a b : Carry) : Prop := a.box < b.box ∨ (a.box = b.box ∧ a.to_ < b.to_)
theorem ltC_irrefl (a : Carry) : ¬ ltC a a := by unfold ltC; omega
theorem ltC_trans (a b c : Carry) (h1 : ltC a b) (h2 : ltC b c) : ltC a c := by unfold ltC at *; omega

theorem bxIx_at {bs : List Box} (hasc : bs.Pairwise (fun a b => a.id < b.id)) {i : Nat} {b : Box} (hi : bs[i]? = some b) : bxIx bs b.id = (i : Int) := by
  rcases idxF_cases (idB b.id) bs with ⟨_, h1⟩ | ⟨k, x, h1, h2, h3, _⟩
  · have := h1 b (List.mem_of_getElem? hi); simp [idB] at this
  · have : k = i := asc_inj Box.id hasc h2 hi (by simpa [idB] using h3)
    subst this
    exact h1
theorem mem_stepsG {ls : List Shelf} {bs : List Box} {at_ : List Int} {c : Carry} : ∀ (r : List Box) (n : Nat), c ∈ stepsG ls bs at_ n r ↔ ∃ i b s, r[i]? = some b ∧ s ∈ ls ∧ stepAt ls bs at_ (n + i) b s = some c
  | [], n => by simp [stepsG]
  | b :: r, n => by
    simp only [stepsG, List.mem_append, List.mem_filterMap, mem_stepsG r (n + 1)]
    constructor
    · rintro (⟨s, hs, h⟩ | ⟨i, b', s, hi, hs, h⟩)
      · exact ⟨0, b, s, rfl, hs, h⟩
      · exact ⟨i + 1, b', s, by simpa using hi, hs, by rw [show n + (i + 1) = n + 1 + i by omega]; exact h⟩
    · rintro ⟨i, b', s, hi, hs, h⟩
      rcases i with _ | i
      · simp at hi; subst hi; exact .inl ⟨s, hs, h⟩
      · exact .inr ⟨i, b', s, by simpa using hi, hs, by rw [show n + 1 + i = n + (i + 1) by omega]; exact h⟩
theorem mem_steps {ls : List Shelf} {bs : List Box} {at_ : List Int} {c : Carry} : c ∈ stepsF ls bs at_ ↔ ∃ i b s, bs[i]? = some b ∧ s ∈ ls ∧ s.id ≠ at_.getD i 0 ∧ heldB ls bs (at_.set i s.id) = true ∧ c = ⟨b.id, at_.getD i 0, s.id⟩ := by
  unfold stepsF
  rw [mem_stepsG]
  simp only [Nat.zero_add, stepAt]
  constructor
  · rintro ⟨i, b, s, h1, h2, h3⟩
    split at h3
    · rename_i h4
      injection h3 with h3
      exact ⟨i, b, s, h1, h2, h4.1, h4.2, h3.symm⟩
    · cases h3
  · rintro ⟨i, b, s, h1, h2, h3, h4, rfl⟩
    exact ⟨i, b, s, h1, h2, by rw [if_pos ⟨h3, h4⟩]⟩
theorem stepsG_asc {ls : List Shelf} {bs : List Box} {at_ : List Int} (hl : ls.Pairwise (fun a b => a.id < b.id)) : ∀ (r : List Box) (n : Nat), r.Pairwise (fun a b => a.id < b.id) → (stepsG ls bs at_ n r).Pairwise ltC
  | [], _, _ => by simp [stepsG]
  | b :: r, n, h => by
    rw [List.pairwise_cons] at h
    rw [stepsG, List.pairwise_append]
    refine ⟨?_, stepsG_asc hl r (n + 1) h.2, ?_⟩
    · rw [List.pairwise_filterMap]
      refine hl.imp ?_
      intro s s' hs c hc c' hc'
      unfold stepAt at hc hc'
      split at hc
      · split at hc'
        · injection hc with hc
          injection hc' with hc'
          subst hc hc'
          exact .inr ⟨rfl, hs⟩
        · cases hc'
      · cases hc
    · intro c hc c' hc'
      obtain ⟨s, _, hc⟩ := List.mem_filterMap.1 hc
      obtain ⟨i, b', s', hi, _, hc'⟩ := (mem_stepsG r (n + 1)).1 hc'
      unfold stepAt at hc hc'
      split at hc
      · split at hc'
        · injection hc with hc
          injection hc' with hc'
          subst hc hc'
          exact .inl (h.1 b' (List.mem_of_getElem? hi))
        · cases hc'
      · cases hc
section
variable {ls : List Shelf} {bs : List Box}
theorem asc_of (hst : startE ls bs = 0) : ls.Pairwise (fun a b => a.id < b.id) ∧ bs.Pairwise (fun a b => a.id < b.id) := by
  obtain ⟨h1, h2, _⟩ := start_ok hst
  refine ⟨(shelves_ok h1).2.2, ?_⟩
  unfold boxesE at h2
  split at h2
  · cases h2
  · exact (boxesG_asc bs [] none h2).2
theorem nbr_asc (hst : startE ls bs = 0) (s : List Int) : (nbrF ls bs s).Pairwise (fun a b => ltC a.1 b.1) := by
  obtain ⟨h1, h2⟩ := asc_of hst
  unfold nbrF
  rw [List.pairwise_map]
  exact stepsG_asc h1 bs 0 h2
theorem mem_nbr (hst : startE ls bs = 0) {s : List Int} {c : Carry} {x : List Int} : (c, x) ∈ nbrF ls bs s ↔ ∃ i b h, bs[i]? = some b ∧ h ∈ ls ∧ h.id ≠ s.getD i 0 ∧ heldB ls bs (s.set i h.id) = true ∧ c = ⟨b.id, s.getD i 0, h.id⟩ ∧ x = s.set i h.id := by
  unfold nbrF
  rw [List.mem_map]
  constructor
  · rintro ⟨c', hc', he⟩
    obtain ⟨i, b, h, h1, h2, h3, h4, rfl⟩ := mem_steps.1 hc'
    injection he with e1 e2
    subst e1
    refine ⟨i, b, h, h1, h2, h3, h4, rfl, ?_⟩
    rw [← e2]
    simp only [movedF, bxIx_at (asc_of hst).2 h1, Int.toNat_natCast]
  · rintro ⟨i, b, h, h1, h2, h3, h4, rfl, rfl⟩
    refine ⟨_, mem_steps.2 ⟨i, b, h, h1, h2, h3, h4, rfl⟩, ?_⟩
    simp only [movedF, bxIx_at (asc_of hst).2 h1, Int.toNat_natCast]
theorem nbr_good (hst : startE ls bs = 0) {s : List Int} (hs : Good ls bs s) {c : Carry} {x : List Int} (h : (c, x) ∈ nbrF ls bs s) : Good ls bs x := by
  obtain ⟨i, b, sh, h1, h2, h3, h4, rfl, rfl⟩ := (mem_nbr hst).1 h
  exact ⟨right_set hs.1 i h2, h4⟩
/-- each step leads back -/
def backC (c : Carry) : Carry := ⟨c.box, c.to_, c.from_⟩
theorem nbr_back (hst : startE ls bs = 0) {s : List Int} (hs : Good ls bs s) {c : Carry} {x : List Int} (h : (c, x) ∈ nbrF ls bs s) : (backC c, s) ∈ nbrF ls bs x := by
  obtain ⟨i, b, sh, h1, h2, h3, h4, rfl, rfl⟩ := (mem_nbr hst).1 h
  have hil : i < s.length := by rw [hs.1.1]; exact lt_of_at h1
  obtain ⟨y, hy⟩ := get_at s hil
  have hgy : s.getD i 0 = y := by simp [List.getD_eq_getElem?_getD, hy]
  obtain ⟨h', hh', hid'⟩ := List.mem_map.1 (right_mem hs.1 y (List.mem_of_getElem? hy))
  have hss : (s.set i sh.id).set i y = s := by
    rw [List.set_set]
    apply List.ext_getElem?
    intro j
    rw [List.getElem?_set]
    by_cases hj : i = j
    · subst hj; rw [if_pos rfl, if_pos hil, hy]
    · rw [if_neg hj]
  have hgi : (s.set i sh.id).getD i 0 = sh.id := by simp [List.getD_eq_getElem?_getD, hil]
  rw [hgy] at h3
  refine (mem_nbr hst).2 ⟨i, b, h', h1, hh', ?_, ?_, ?_, ?_⟩
  · rw [hgi, hid']; exact fun e => h3 e.symm
  · rw [hid', hss]; exact hs.2
  · simp only [backC, hgy, hgi, hid']
  · rw [hid', hss]
theorem leads_good (hst : startE ls bs = 0) : ∀ (p : List Carry) (s t : List Int), Good ls bs s → Leads (nbrF ls bs) s p t → Good ls bs t
  | [], s, t, hs, h => by have : s = t := h; subst this; exact hs
  | c :: r, s, t, hs, ⟨x, hx, hr⟩ => leads_good hst r x t (nbr_good hst hs hx) hr
def backP (p : List Carry) : List Carry := p.reverse.map backC
theorem leads_back (hst : startE ls bs = 0) : ∀ (p : List Carry) (s t : List Int), Good ls bs s → Leads (nbrF ls bs) s p t → Leads (nbrF ls bs) t (backP p) s
  | [], s, t, hs, h => by have : s = t := h; subst this; rfl
  | c :: r, s, t, hs, ⟨x, hx, hr⟩ => by
    have h1 := leads_back hst r x t (nbr_good hst hs hx) hr
    have h2 := nbr_back hst hs hx
    have : backP (c :: r) = backP r ++ [backC c] := by simp [backP]
    rw [this, leads_snoc]
    exact ⟨x, h1, h2⟩
theorem backP_len (p : List Carry) : (backP p).length = p.length := by simp [backP]
end
end Go.Proofs.Ythabpkigflldmaa
