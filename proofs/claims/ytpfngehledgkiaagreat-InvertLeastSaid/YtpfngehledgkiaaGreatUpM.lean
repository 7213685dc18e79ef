/- Plain: the map of the units that have changed. -/
import Derived.Test.YtpfngehledgkiaaGreatRgP
import Derived.Test.YtpfngehledgkiaaGreatMaps
namespace Go.Proofs.YtpfngehledgkiaaGreat
section
variable (A B : Int → List Post)
def chM (ks : List Int) : Int → Option Bool := fun u => if u ∈ ks then some (decide (A u ≠ B u)) else none
theorem chM_nil : chM A B [] = fun _ => none := by funext u; simp [chM]
theorem chM_add (ks : List Int) (u : Int) : upd (chM A B ks) u (decide (A u ≠ B u)) = chM A B (ks ++ [u]) := by
  funext x
  unfold upd chM
  by_cases hx : x = u
  · subst hx; simp
  · simp [hx]
theorem chM_get (ks : List Int) (u : Int) : (chM A B ks u).getD false = decide (u ∈ ks ∧ A u ≠ B u) := by
  unfold chM
  by_cases h : u ∈ ks <;> simp [h]
theorem rest_is (us : List Int) (l : List Post) : (l.filter fun p => !((chM A B (seenG [] us) p.unit).getD false)) = restL (chgF A B us) l := by
  unfold restL
  refine List.filter_congr fun p _ => ?_
  rw [chM_get, Bool.eq_iff_iff, Bool.not_eq_true', decide_eq_false_iff_not, decide_eq_true_iff, chgF_mem, seenG_mem]
  simp
theorem chM_true (us : List Int) (u : Int) : chM A B (seenG [] us) u = some true ↔ u ∈ chgF A B us := by
  unfold chM
  rw [chgF_mem]
  by_cases h : u ∈ seenG [] us
  · have h' := h
    rw [seenG_mem] at h'
    simp only [h, if_true]
    constructor
    · intro e
      injection e with e
      exact ⟨by simpa using h', by simpa using e⟩
    · intro e
      simp [e.2]
  · have h' := h
    rw [seenG_mem] at h'
    simp only [h, if_false]
    constructor
    · intro e; cases e
    · intro e
      exact absurd (by simpa using e.1) (by simpa using h')
/-- what a range over the map collects -/
theorem coll_is {es : List (Int × Bool × Nat)} {us : List Int} (hk : (es.map (·.1)).Nodup) (hf : ∀ k, mget es k = chM A B (seenG [] us) k) {ys : List Int} (hp : ys.Perm ((es.filter fun e => e.2.1).map (·.1))) (hs : ys.Pairwise (· ≤ ·)) : ys = chgF A B us := by
  have hmem : ∀ (l : List (Int × Bool × Nat)) (k : Int), (l.map (·.1)).Nodup → (k ∈ (l.filter fun e => e.2.1).map (·.1) ↔ mget l k = some true) := by
    intro l
    induction l with
    | nil => intro k _; simp [mget]
    | cons e l ih =>
      intro k hn
      rw [List.map_cons, List.nodup_cons] at hn
      have ih := ih k hn.2
      unfold mget at ih ⊢
      by_cases hek : e.1 = k
      · rw [List.find?_cons_of_pos (by simp [hek])]
        cases hb : e.2.1
        · rw [List.filter_cons, if_neg (by simp [hb])]
          simp only [Option.map_some, hb]
          constructor
          · intro h
            obtain ⟨x, hx, hxk⟩ := List.mem_map.1 h
            exact absurd (List.mem_map.2 ⟨x, (List.mem_filter.1 hx).1, by rw [hxk, hek]⟩) hn.1
          · intro h; simp at h
        · rw [List.filter_cons, if_pos (by simp [hb])]
          simp [hb, hek]
      · rw [List.find?_cons_of_neg (by simp [hek]), ← ih, List.filter_cons]
        split
        · simp [Ne.symm hek]
        · rfl
  have hn : ((es.filter fun e => e.2.1).map (·.1)).Nodup := hk.sublist (List.Sublist.map _ List.filter_sublist)
  have hny : ys.Nodup := hp.nodup_iff.2 hn
  have hasc : AscI ys := (List.Pairwise.and hs hny).imp fun ⟨h1, h2⟩ => by omega
  refine asc_unique hasc (chgF_asc A B us) fun x => ?_
  rw [hp.mem_iff, hmem es x hk, hf, chM_true]
end
theorem seenG_len : ∀ (us ks : List Int), (seenG ks us).length ≤ ks.length + us.length
  | [], _ => Nat.le_refl _
  | u :: us, ks => by
    unfold seenG
    split
    · have := seenG_len us ks
      rw [List.length_cons]
      omega
    · have := seenG_len us (ks ++ [u])
      rw [List.length_append, List.length_cons, List.length_nil] at this
      rw [List.length_cons]
      omega
/-- what was collected so far: the entries that were seen -/
theorem coll_step {es : List (Int × Bool × Nat)} {seen : List Nat} {e : Int × Bool × Nat} (hn : (es.map (·.2.2)).Nodup) (he : e ∈ es) (hs : e.2.2 ∉ seen) : (es.filter fun x => decide (x.2.2 ∈ seen ++ [e.2.2]) && x.2.1).Perm ((es.filter fun x => decide (x.2.2 ∈ seen) && x.2.1) ++ if e.2.1 = true then [e] else []) := by
  induction es with
  | nil => cases he
  | cons x l ih =>
    rw [List.map_cons, List.nodup_cons] at hn
    rcases List.mem_cons.1 he with rfl | he
    · have hx : e.2.2 ∉ l.map (·.2.2) := hn.1
      have hl : (l.filter fun x => decide (x.2.2 ∈ seen ++ [e.2.2]) && x.2.1) = l.filter fun x => decide (x.2.2 ∈ seen) && x.2.1 := List.filter_congr fun y hy => by
        have : y.2.2 ≠ e.2.2 := fun h => hx (h ▸ List.mem_map.2 ⟨y, hy, rfl⟩)
        simp [this]
      rw [List.filter_cons, List.filter_cons, hl]
      cases hb : e.2.1
      · simp
      · simp only [hs, List.mem_append, List.mem_singleton, or_true, decide_true, Bool.true_and, if_true, decide_false, Bool.false_and]
        simp only [Bool.false_eq_true, if_false]
        exact (List.perm_append_comm (l₁ := [e]))
    · have hne : x.2.2 ≠ e.2.2 := fun h => hn.1 (h ▸ List.mem_map.2 ⟨e, he, rfl⟩)
      have ih := ih hn.2 he
      rw [List.filter_cons, List.filter_cons]
      have hc : (decide (x.2.2 ∈ seen ++ [e.2.2]) && x.2.1) = (decide (x.2.2 ∈ seen) && x.2.1) := by simp [hne]
      rw [hc]
      split
      · rw [List.cons_append]; exact ih.cons _
      · exact ih
end Go.Proofs.YtpfngehledgkiaaGreat
