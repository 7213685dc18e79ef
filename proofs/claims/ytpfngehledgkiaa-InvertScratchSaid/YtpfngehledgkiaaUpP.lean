/- Plain: what has changed between two lists of units, and the updated list. -/
import Derived.Test.YtpfngehledgkiaaRgP
namespace Go.Proofs.Ytpfngehledgkiaa
open Go.RowKit

/-- a unit put into an ascending list, once -/
def insU : List Int → Int → List Int
  | [], u => [u]
  | x :: l, u => if x < u then x :: insU l u else if x = u then x :: l else u :: x :: l
abbrev AscI (l : List Int) : Prop := l.Pairwise (· < ·)
theorem insU_mem : ∀ (l : List Int) (u x : Int), x ∈ insU l u ↔ x = u ∨ x ∈ l
  | [], u, x => by simp [insU]
  | y :: l, u, x => by
    unfold insU
    split
    · rw [List.mem_cons, insU_mem l u x, List.mem_cons]
      constructor
      · rintro (h | h | h)
        · exact .inr (.inl h)
        · exact .inl h
        · exact .inr (.inr h)
      · rintro (h | h | h)
        · exact .inr (.inl h)
        · exact .inl h
        · exact .inr (.inr h)
    · split
      · rename_i h
        rw [List.mem_cons]
        constructor
        · exact .inr
        · rintro (h' | h')
          · exact .inl (h'.trans h.symm)
          · exact h'
      · rw [List.mem_cons]
theorem insU_asc : ∀ (l : List Int) (u : Int), AscI l → AscI (insU l u)
  | [], u, _ => by simp [insU]
  | y :: l, u, h => by
    have h' := List.pairwise_cons.1 h
    unfold insU
    split
    · rename_i hy
      refine List.pairwise_cons.2 ⟨fun x hx => ?_, insU_asc l u h'.2⟩
      rcases (insU_mem l u x).1 hx with rfl | hx
      · exact hy
      · exact h'.1 x hx
    · split
      · exact h
      · rename_i h1 h2
        have hu : u < y := by omega
        refine List.pairwise_cons.2 ⟨fun x hx => ?_, h⟩
        rcases List.mem_cons.1 hx with rfl | hx
        · exact hu
        · have := h'.1 x hx; omega
theorem asc_nodup {l : List Int} (h : AscI l) : l.Nodup := h.imp (fun h => by omega)
theorem asc_unique {l m : List Int} (hl : AscI l) (hm : AscI m) (h : ∀ x, x ∈ l ↔ x ∈ m) : l = m :=
  List.Perm.eq_of_pairwise (fun a b _ _ h1 h2 => absurd h1 (by omega)) hl hm ((List.perm_ext_iff_of_nodup (asc_nodup hl) (asc_nodup hm)).2 h)
section
variable (A B : Int → List Post)
/-- a posting, compared as Go compares -/
instance : DecidableEq Post := fun a b => if h : a.word = b.word ∧ a.unit = b.unit ∧ a.field = b.field ∧ a.place = b.place then isTrue (Post.ext_ h.1 h.2.1 h.2.2.1 h.2.2.2) else isFalse (fun e => h (by rw [e]; exact ⟨rfl, rfl, rfl, rfl⟩))
def chgG (out : List Int) (us : List Int) : List Int := us.foldl (fun o u => if A u = B u then o else insU o u) out
def chgF (us : List Int) : List Int := chgG A B [] us
theorem chgG_asc : ∀ (us out : List Int), AscI out → AscI (chgG A B out us)
  | [], out, h => h
  | u :: us, out, h => by
    show AscI (chgG A B (if A u = B u then out else insU out u) us)
    refine chgG_asc us _ ?_
    split
    · exact h
    · exact insU_asc out u h
theorem chgG_mem : ∀ (us out : List Int) (x : Int), x ∈ chgG A B out us ↔ x ∈ out ∨ (x ∈ us ∧ A x ≠ B x)
  | [], out, x => by simp [chgG]
  | u :: us, out, x => by
    show x ∈ chgG A B (if A u = B u then out else insU out u) us ↔ _
    rw [chgG_mem us _ x]
    split
    · rename_i h
      constructor
      · rintro (g | ⟨g1, g2⟩)
        · exact .inl g
        · exact .inr ⟨List.mem_cons_of_mem _ g1, g2⟩
      · rintro (g | ⟨g1, g2⟩)
        · exact .inl g
        · rcases List.mem_cons.1 g1 with rfl | g1
          · exact absurd h g2
          · exact .inr ⟨g1, g2⟩
    · rename_i h
      rw [insU_mem]
      constructor
      · rintro ((rfl | g) | ⟨g1, g2⟩)
        · exact .inr ⟨List.mem_cons_self, h⟩
        · exact .inl g
        · exact .inr ⟨List.mem_cons_of_mem _ g1, g2⟩
      · rintro (g | ⟨g1, g2⟩)
        · exact .inl (.inr g)
        · rcases List.mem_cons.1 g1 with rfl | g1
          · exact .inl (.inl rfl)
          · exact .inr ⟨g1, g2⟩
theorem chgF_asc (us : List Int) : AscI (chgF A B us) := chgG_asc A B us [] List.Pairwise.nil
theorem chgF_mem (us : List Int) (x : Int) : x ∈ chgF A B us ↔ x ∈ us ∧ A x ≠ B x := by
  unfold chgF
  rw [chgG_mem]
  simp
/-- the units that were met, and the postings of those of them that have changed, as the program gathers them -/
def seenG : List Int → List Int → List Int
  | ks, [] => ks
  | ks, u :: us => if u ∈ ks then seenG ks us else seenG (ks ++ [u]) us
def moreG (ks : List Int) : List Int → List Post
  | [] => []
  | u :: us => if u ∈ ks then moreG ks us else (if A u = B u then [] else B u) ++ moreG (ks ++ [u]) us
theorem seenG_nodup : ∀ (us ks : List Int), ks.Nodup → (seenG ks us).Nodup
  | [], _, h => h
  | u :: us, ks, h => by
    unfold seenG
    split
    · exact seenG_nodup us ks h
    · rename_i hu
      exact seenG_nodup us _ (List.nodup_append.2 ⟨h, by simp, fun a ha b hb => by simp at hb; subst hb; exact fun e => hu (e ▸ ha)⟩)
theorem seenG_mem : ∀ (us ks : List Int) (x : Int), x ∈ seenG ks us ↔ x ∈ ks ∨ x ∈ us
  | [], ks, x => by simp [seenG]
  | u :: us, ks, x => by
    unfold seenG
    split
    · rename_i hu
      rw [seenG_mem us ks x, List.mem_cons]
      constructor
      · rintro (h | h)
        · exact .inl h
        · exact .inr (.inr h)
      · rintro (h | rfl | h)
        · exact .inl h
        · exact .inl hu
        · exact .inr h
    · rw [seenG_mem us _ x, List.mem_append, List.mem_singleton, List.mem_cons]
      exact or_assoc
theorem moreG_is : ∀ (us ks : List Int), ∃ ns, seenG ks us = ks ++ ns ∧ moreG A B ks us = (ns.filter fun u => decide (A u ≠ B u)).flatMap B
  | [], ks => ⟨[], by simp [seenG], rfl⟩
  | u :: us, ks => by
    unfold seenG moreG
    split
    · exact moreG_is us ks
    · obtain ⟨ns, h1, h2⟩ := moreG_is us (ks ++ [u])
      refine ⟨u :: ns, by rw [h1]; simp, ?_⟩
      rw [h2, List.filter_cons]
      split
      · rename_i h
        rw [if_neg (by simp [h])]
        rfl
      · rename_i h
        rw [if_pos (by simp [h])]
        rfl
theorem more_perm (us : List Int) : (moreG A B [] us).Perm ((chgF A B us).flatMap B) := by
  obtain ⟨ns, h1, h2⟩ := moreG_is A B us []
  rw [List.nil_append] at h1
  rw [h2]
  refine List.Perm.flatMap_right B ?_
  refine (List.perm_ext_iff_of_nodup ?_ (asc_nodup (chgF_asc A B us))).2 fun x => ?_
  · rw [← h1]
    exact List.Pairwise.filter _ (seenG_nodup us [] List.nodup_nil)
  · rw [List.mem_filter, ← h1, seenG_mem, chgF_mem]
    simp
/-- the updated list -/
def restL (us : List Int) (l : List Post) : List Post := l.filter fun p => decide (p.unit ∉ us)
def updF (us : List Int) (l : List Post) : List Post := sortP (restL (chgF A B us) l ++ (chgF A B us).flatMap B)
theorem upd_prog {us : List Int} {l : List Post} (hl : SortedP l) : mergeP (restL (chgF A B us) l) (sortP (moreG A B [] us)) = updF A B us l := by
  rw [mergeP_is (show SortedP (restL (chgF A B us) l) from hl.sublist List.filter_sublist) (sortP_sorted _)]
  refine sortP_congr (List.Perm.append_left _ ?_)
  exact (sortP_perm _).trans (more_perm A B us)
theorem upd_ref {us : List Int} {l : List Post} (hl : SortedP l) : addAll (restL (chgF A B us) l) ((chgF A B us).flatMap B) = updF A B us l := addAll_is (hl.sublist List.filter_sublist)
theorem flatMap_ne (l : List Int) : (l.filter fun u => decide (B u ≠ [])).flatMap B = l.flatMap B := by
  induction l with
  | nil => rfl
  | cons u l ih =>
    rw [List.filter_cons]
    split
    · rw [List.flatMap_cons, List.flatMap_cons, ih]
    · rename_i h
      have : B u = [] := by simpa using h
      rw [List.flatMap_cons, this, ih]
      rfl
theorem flatMap_same {l m : List Int} (hl : l.Nodup) (hm : m.Nodup) (h : ∀ u, B u ≠ [] → (u ∈ l ↔ u ∈ m)) : (l.flatMap B).Perm (m.flatMap B) := by
  rw [← flatMap_ne B l, ← flatMap_ne B m]
  refine List.Perm.flatMap_right B ((List.perm_ext_iff_of_nodup (List.Pairwise.filter _ hl) (List.Pairwise.filter _ hm)).2 fun x => ?_)
  rw [List.mem_filter, List.mem_filter]
  constructor
  · rintro ⟨h1, h2⟩
    exact ⟨(h x (by simpa using h2)).1 h1, h2⟩
  · rintro ⟨h1, h2⟩
    exact ⟨(h x (by simpa using h2)).2 h1, h2⟩
theorem rest_flat {us cs : List Int} (hu : ∀ u, ∀ p ∈ A u, p.unit = u) : (us.flatMap A).filter (fun p => decide (p.unit ∉ cs)) = (us.filter fun u => decide (u ∉ cs)).flatMap A := by
  induction us with
  | nil => rfl
  | cons u us ih =>
    rw [List.flatMap_cons, List.filter_append, ih, List.filter_cons]
    by_cases h : u ∈ cs
    · rw [if_neg (by simpa using h), List.filter_eq_nil_iff.2 (fun p hp => by rw [hu u p hp]; simpa using h)]
      rfl
    · rw [if_pos (by simpa using h), List.flatMap_cons, List.filter_eq_self.2 (fun p hp => by rw [hu u p hp]; simpa using h)]
/-- from one catalog to the next -/
theorem upd_scratch {ua ub : List Int} (hA : ∀ u, ∀ p ∈ A u, p.unit = u) (na : ua.Nodup) (nb : ub.Nodup) (ea : ∀ u, u ∉ ua → A u = []) (eb : ∀ u, u ∉ ub → B u = []) :
    updF A B (ua ++ ub) (sortP (ua.flatMap A)) = sortP (ub.flatMap B) := by
  unfold updF
  refine sortP_congr ?_
  have h1 : (restL (chgF A B (ua ++ ub)) (sortP (ua.flatMap A))).Perm ((ua.filter fun u => decide (u ∉ chgF A B (ua ++ ub))).flatMap B) := by
    unfold restL
    refine ((sortP_perm _).filter _).trans ?_
    rw [rest_flat A hA]
    have : (ua.filter fun u => decide (u ∉ chgF A B (ua ++ ub))).flatMap A = (ua.filter fun u => decide (u ∉ chgF A B (ua ++ ub))).flatMap B := by
      rw [List.flatMap_def, List.flatMap_def]
      congr 1
      refine List.map_congr_left fun u hu => ?_
      obtain ⟨h2, h3⟩ := List.mem_filter.1 hu
      have h4 : ¬ (u ∈ chgF A B (ua ++ ub)) := by simpa using h3
      rw [chgF_mem] at h4
      exact Classical.byContradiction fun e => h4 ⟨List.mem_append.2 (.inl h2), e⟩
    rw [this]
  refine (h1.append_right _).trans ?_
  rw [← List.flatMap_append]
  refine flatMap_same B ?_ nb ?_
  · refine List.nodup_append.2 ⟨List.Pairwise.filter _ na, asc_nodup (chgF_asc A B _), fun x hx y hy e => ?_⟩
    subst e
    have := (List.mem_filter.1 hx).2
    simp only [decide_eq_true_eq] at this
    exact this hy
  · intro u hne
    rw [List.mem_append, List.mem_filter]
    constructor
    · rintro (⟨h2, h3⟩ | h2)
      · exact Classical.byContradiction fun e => hne (eb u e)
      · exact Classical.byContradiction fun e => hne (eb u e)
    · intro h2
      by_cases h3 : u ∈ chgF A B (ua ++ ub)
      · exact .inr h3
      · refine .inl ⟨Classical.byContradiction fun e => h3 ((chgF_mem A B _ u).2 ⟨List.mem_append.2 (.inr h2), ?_⟩), by simpa using h3⟩
        rw [ea u e]
        exact fun e => hne e.symm
end
end Go.Proofs.Ytpfngehledgkiaa
