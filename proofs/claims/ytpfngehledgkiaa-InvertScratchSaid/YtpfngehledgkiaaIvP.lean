/- Plain: postings, their order, and the one sorted list with given postings. -/
import Derived.Test.YtpfngehledgkiaaPlC
namespace Go.Proofs.Ytpfngehledgkiaa
open Go.RowKit

theorem bless_tri : ∀ x y : List UInt8, Op.bytesLess x y = true ∨ x = y ∨ Op.bytesLess y x = true
  | [], [] => by simp
  | [], _ :: _ => by simp [Op.bytesLess]
  | _ :: _, [] => by simp [Op.bytesLess]
  | a :: x, b :: y => by
    have ih := bless_tri x y
    by_cases e : a = b
    · subst e
      rcases ih with h | h | h
      · exact .inl (by simp [Op.bytesLess, h])
      · exact .inr (.inl (by rw [h]))
      · exact .inr (.inr (by simp [Op.bytesLess, h]))
    · have e' : ¬ b = a := fun h => e h.symm
      have hn : a.toNat ≠ b.toNat := fun h => e (UInt8.toNat_inj.1 h)
      rcases Nat.lt_or_gt_of_ne hn with h | h
      · exact .inl (by simp only [Op.bytesLess, UInt8.lt_iff_toNat_lt]; simp [h])
      · exact .inr (.inr (by simp only [Op.bytesLess, UInt8.lt_iff_toNat_lt]; simp; left; omega))
theorem lessB_tri (a b : ByteArray) : lessB a b = true ∨ a = b ∨ lessB b a = true := by
  rcases bless_tri a.toList b.toList with h | h | h
  · exact .inl h
  · exact .inr (.inl ((str_iff a b).1 h))
  · exact .inr (.inr h)
theorem lessB_asymm {a b : ByteArray} (h : lessB a b = true) : lessB b a = false := by
  cases h' : lessB b a
  · rfl
  · have := lessB_trans h h'
    rw [lessB_irrefl] at this
    cases this
/-- a posting comes before another one -/
def pltB (a b : Post) : Bool := if a.word ≠ b.word then lessB a.word b.word else if a.unit ≠ b.unit then decide (a.unit < b.unit) else if a.field ≠ b.field then decide (a.field < b.field) else decide (a.place < b.place)
theorem pltB_irrefl (a : Post) : pltB a a = false := by simp [pltB]
theorem pltB_iff (a b : Post) : pltB a b = true ↔ lessB a.word b.word = true ∨ (a.word = b.word ∧ (a.unit < b.unit ∨ (a.unit = b.unit ∧ (a.field < b.field ∨ (a.field = b.field ∧ a.place < b.place))))) := by
  unfold pltB
  by_cases h1 : a.word = b.word
  · have : lessB a.word b.word = false := by rw [h1]; exact lessB_irrefl _
    rw [if_neg (by simpa using h1), this]
    by_cases h2 : a.unit = b.unit
    · rw [if_neg (by simpa using h2)]
      by_cases h3 : a.field = b.field
      · rw [if_neg (by simpa using h3)]
        simp [h1, h2, h3]
      · rw [if_pos h3]
        simp [h1, h2, h3]
    · rw [if_pos h2]
      simp [h1, h2]
  · rw [if_pos h1]
    simp [h1]
theorem pltB_trans {a b c : Post} (h1 : pltB a b = true) (h2 : pltB b c = true) : pltB a c = true := by
  rw [pltB_iff] at *
  rcases h1 with h1 | ⟨e1, h1⟩ <;> rcases h2 with h2 | ⟨e2, h2⟩
  · exact .inl (lessB_trans h1 h2)
  · exact .inl (e2 ▸ h1)
  · exact .inl (e1 ▸ h2)
  · exact .inr ⟨e1.trans e2, by omega⟩
theorem Post.ext_ {a b : Post} (h1 : a.word = b.word) (h2 : a.unit = b.unit) (h3 : a.field = b.field) (h4 : a.place = b.place) : a = b := by
  cases a; cases b; simp only at h1 h2 h3 h4; subst h1 h2 h3 h4; rfl
theorem pltB_tri (a b : Post) : pltB a b = true ∨ a = b ∨ pltB b a = true := by
  rw [pltB_iff, pltB_iff]
  rcases lessB_tri a.word b.word with h | h | h
  · exact .inl (.inl h)
  · by_cases h2 : a.unit = b.unit ∧ a.field = b.field ∧ a.place = b.place
    · exact .inr (.inl (Post.ext_ h h2.1 h2.2.1 h2.2.2))
    · have : (a.unit < b.unit ∨ (a.unit = b.unit ∧ (a.field < b.field ∨ (a.field = b.field ∧ a.place < b.place)))) ∨ (b.unit < a.unit ∨ (b.unit = a.unit ∧ (b.field < a.field ∨ (b.field = a.field ∧ b.place < a.place)))) := by omega
      rcases this with g | g
      · exact .inl (.inr ⟨h, g⟩)
      · exact .inr (.inr (.inr ⟨h.symm, g⟩))
  · exact .inr (.inr (.inl h))
theorem pltB_asymm {a b : Post} (h : pltB a b = true) : pltB b a = false := by
  cases h' : pltB b a
  · rfl
  · have := pltB_trans h h'
    rw [pltB_irrefl] at this
    cases this
/-- in order, equal ones allowed -/
def ple (a b : Post) : Prop := pltB b a = false
theorem ple_antisymm {a b : Post} (h1 : ple a b) (h2 : ple b a) : a = b := by
  unfold ple at h1 h2
  rcases pltB_tri a b with h | h | h
  · rw [h2] at h; cases h
  · exact h
  · rw [h1] at h; cases h
theorem ple_iff (a b : Post) : ple a b ↔ pltB a b = true ∨ a = b := by
  unfold ple
  constructor
  · intro h
    rcases pltB_tri a b with g | g | g
    · exact .inl g
    · exact .inr g
    · rw [h] at g; cases g
  · rintro (h | rfl)
    · exact pltB_asymm h
    · exact pltB_irrefl _
theorem ple_trans {a b c : Post} (h1 : ple a b) (h2 : ple b c) : ple a c := by
  rw [ple_iff] at *
  rcases h1 with h1 | rfl
  · rcases h2 with h2 | rfl
    · exact .inl (pltB_trans h1 h2)
    · exact .inl h1
  · exact h2
abbrev SortedP (l : List Post) : Prop := l.Pairwise ple
theorem sorted_unique {l m : List Post} (hl : SortedP l) (hm : SortedP m) (h : l.Perm m) : l = m := List.Perm.eq_of_pairwise (fun _ _ _ _ => ple_antisymm) hl hm h
/-- the reference's add -/
def insP : List Post → Post → List Post
  | [], p => [p]
  | x :: l, p => if pltB x p then x :: insP l p else p :: x :: l
theorem insP_perm : ∀ (l : List Post) (p : Post), (insP l p).Perm (p :: l)
  | [], p => List.Perm.refl _
  | x :: l, p => by
    unfold insP
    split
    · exact ((insP_perm l p).cons x).trans (List.Perm.swap p x l)
    · exact List.Perm.refl _
theorem insP_sorted : ∀ (l : List Post) (p : Post), SortedP l → SortedP (insP l p)
  | [], p, _ => by simp [insP]
  | x :: l, p, h => by
    have h' := List.pairwise_cons.1 h
    unfold insP
    split
    · rename_i hx
      refine List.pairwise_cons.2 ⟨fun y hy => ?_, insP_sorted l p h'.2⟩
      rcases List.mem_cons.1 ((insP_perm l p).mem_iff.1 hy) with rfl | hy
      · exact (ple_iff _ _).2 (.inl hx)
      · exact h'.1 y hy
    · rename_i hx
      have hpx : ple p x := by unfold ple; simpa using hx
      refine List.pairwise_cons.2 ⟨fun y hy => ?_, h⟩
      rcases List.mem_cons.1 hy with rfl | hy
      · exact hpx
      · exact ple_trans hpx (h'.1 y hy)
/-- all of a list, put into another one -/
def addAll (l : List Post) (m : List Post) : List Post := m.foldl insP l
theorem addAll_cons (l : List Post) (p : Post) (m : List Post) : addAll l (p :: m) = addAll (insP l p) m := rfl
theorem addAll_app (l m n : List Post) : addAll l (m ++ n) = addAll (addAll l m) n := by unfold addAll; rw [List.foldl_append]
theorem addAll_perm : ∀ (m l : List Post), (addAll l m).Perm (l ++ m)
  | [], l => by simp [addAll]
  | p :: m, l => by
    rw [addAll_cons]
    refine (addAll_perm m (insP l p)).trans ?_
    refine ((insP_perm l p).append_right m).trans ?_
    exact List.perm_middle.symm
theorem addAll_sorted : ∀ (m l : List Post), SortedP l → SortedP (addAll l m)
  | [], _, h => h
  | p :: m, l, h => by rw [addAll_cons]; exact addAll_sorted m _ (insP_sorted l p h)
/-- the one sorted list with given postings -/
def sortP (l : List Post) : List Post := addAll [] l
theorem sortP_perm (l : List Post) : (sortP l).Perm l := by
  have h := addAll_perm l []
  exact h
theorem sortP_sorted (l : List Post) : SortedP (sortP l) := addAll_sorted l [] List.Pairwise.nil
theorem sortP_of {l m : List Post} (hm : SortedP m) (h : m.Perm l) : m = sortP l := sorted_unique hm (sortP_sorted l) (h.trans (sortP_perm l).symm)
theorem sortP_congr {l m : List Post} (h : l.Perm m) : sortP l = sortP m := sortP_of (sortP_sorted l) ((sortP_perm l).trans h)
theorem addAll_is {l m : List Post} (hl : SortedP l) : addAll l m = sortP (l ++ m) := sortP_of (addAll_sorted m l hl) (addAll_perm m l)
theorem sortP_len (l : List Post) : (sortP l).length = l.length := (sortP_perm l).length_eq
theorem sortP_mem {l : List Post} {p : Post} : p ∈ sortP l ↔ p ∈ l := (sortP_perm l).mem_iff
theorem sortP_sort (l m : List Post) : sortP (sortP l ++ m) = sortP (l ++ m) := sortP_congr ((sortP_perm l).append_right m)
theorem sortP_self {l : List Post} (h : SortedP l) : sortP l = l := (sortP_of h (List.Perm.refl _)).symm
/-- two sorted lists, merged -/
def mergeG : Nat → List Post → List Post → List Post
  | 0, a, b => a ++ b
  | _ + 1, [], b => b
  | _ + 1, x :: a, [] => x :: a
  | n + 1, x :: a, y :: b => if pltB y x then y :: mergeG n (x :: a) b else x :: mergeG n a (y :: b)
theorem mergeG_perm : ∀ (n : Nat) (a b : List Post), (mergeG n a b).Perm (a ++ b)
  | 0, a, b => List.Perm.refl _
  | _ + 1, [], b => by simp [mergeG]
  | _ + 1, x :: a, [] => by simp [mergeG]
  | n + 1, x :: a, y :: b => by
    unfold mergeG
    split
    · exact ((mergeG_perm n (x :: a) b).cons y).trans List.perm_middle.symm
    · exact (mergeG_perm n a (y :: b)).cons x
theorem mergeG_sorted : ∀ (n : Nat) (a b : List Post), SortedP a → SortedP b → a.length + b.length ≤ n → SortedP (mergeG n a b)
  | 0, a, b, _, hb, h => by
    have : a = [] := List.eq_nil_of_length_eq_zero (by omega)
    subst this
    simpa [mergeG] using hb
  | _ + 1, [], b, _, hb, _ => by simpa [mergeG] using hb
  | _ + 1, x :: a, [], ha, _, _ => by simpa [mergeG] using ha
  | n + 1, x :: a, y :: b, ha, hb, h => by
    have ha' := List.pairwise_cons.1 ha
    have hb' := List.pairwise_cons.1 hb
    simp only [List.length_cons] at h
    unfold mergeG
    split
    · rename_i hx
      have hyx : ple y x := (ple_iff _ _).2 (.inl hx)
      refine List.pairwise_cons.2 ⟨fun z hz => ?_, mergeG_sorted n (x :: a) b ha hb'.2 (by simp only [List.length_cons]; omega)⟩
      rcases List.mem_append.1 ((mergeG_perm n (x :: a) b).mem_iff.1 hz) with hz | hz
      · rcases List.mem_cons.1 hz with rfl | hz
        · exact hyx
        · exact ple_trans hyx (ha'.1 z hz)
      · exact hb'.1 z hz
    · rename_i hx
      have hxy : ple x y := by unfold ple; simpa using hx
      refine List.pairwise_cons.2 ⟨fun z hz => ?_, mergeG_sorted n a (y :: b) ha'.2 hb (by simp only [List.length_cons]; omega)⟩
      rcases List.mem_append.1 ((mergeG_perm n a (y :: b)).mem_iff.1 hz) with hz | hz
      · exact ha'.1 z hz
      · rcases List.mem_cons.1 hz with rfl | hz
        · exact hxy
        · exact ple_trans hxy (hb'.1 z hz)
def mergeP (a b : List Post) : List Post := mergeG (a.length + b.length) a b
theorem mergeP_is {a b : List Post} (ha : SortedP a) (hb : SortedP b) : mergeP a b = sortP (a ++ b) := sortP_of (mergeG_sorted _ a b ha hb (Nat.le_refl _)) (mergeG_perm _ a b)
end Go.Proofs.Ytpfngehledgkiaa
