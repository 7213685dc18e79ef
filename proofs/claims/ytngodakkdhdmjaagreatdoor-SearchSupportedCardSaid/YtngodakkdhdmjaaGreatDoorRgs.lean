/- Plain: lists of postings: their first error, the ranges with a word or a beginning, their words. Plain: the map of the units that have changed. Cutting a text at a byte. No program is in it. -/
import Derived.Test.YtngodakkdhdmjaaGreatDoorDat
import Derived.Test.YtngodakkdhdmjaaGreatDoorBas
import Derived.Lib.SplitLaws
import Derived.Lib.Bytealg
namespace Go.Proofs.YtngodakkdhdmjaaGreatDoor
section
open Go.RowKit

theorem bless_tri : ∀ x y : List UInt8, Op.bytesLess x y = true ∨ x = y ∨ Op.bytesLess y x = true
  | [], [] => by simp
  | [], _ :: _ => by simp [Op.bytesLess]
  | _ :: _, [] => by simp [Op.bytesLess]
  | a :: x, b :: y => by
    have ih := bless_tri x y
    by_cases e : a = b
    · subst e
      rcases ih with h | h | h
      · exact .inl (by simp [Op.bytesLess, h])
      · exact .inr (.inl (by rw [h]))
      · exact .inr (.inr (by simp [Op.bytesLess, h]))
    · have e' : ¬ b = a := fun h => e h.symm
      have hn : a.toNat ≠ b.toNat := fun h => e (UInt8.toNat_inj.1 h)
      rcases Nat.lt_or_gt_of_ne hn with h | h
      · exact .inl (by simp only [Op.bytesLess, UInt8.lt_iff_toNat_lt]; simp [h])
      · exact .inr (.inr (by simp only [Op.bytesLess, UInt8.lt_iff_toNat_lt]; simp; left; omega))
theorem lessB_tri (a b : ByteArray) : lessB a b = true ∨ a = b ∨ lessB b a = true := by
  rcases bless_tri a.toList b.toList with h | h | h
  · exact .inl h
  · exact .inr (.inl ((str_iff a b).1 h))
  · exact .inr (.inr h)
theorem lessB_asymm {a b : ByteArray} (h : lessB a b = true) : lessB b a = false := by
  cases h' : lessB b a
  · rfl
  · have := lessB_trans h h'
    rw [lessB_irrefl] at this
    cases this
/-- a posting comes before another one -/
def pltB (a b : Post) : Bool := if a.word ≠ b.word then lessB a.word b.word else if a.unit ≠ b.unit then decide (a.unit < b.unit) else if a.field ≠ b.field then decide (a.field < b.field) else decide (a.place < b.place)
theorem pltB_irrefl (a : Post) : pltB a a = false := by simp [pltB]
theorem pltB_iff (a b : Post) : pltB a b = true ↔ lessB a.word b.word = true ∨ (a.word = b.word ∧ (a.unit < b.unit ∨ (a.unit = b.unit ∧ (a.field < b.field ∨ (a.field = b.field ∧ a.place < b.place))))) := by
  unfold pltB
  by_cases h1 : a.word = b.word
  · have : lessB a.word b.word = false := by rw [h1]; exact lessB_irrefl _
    rw [if_neg (by simpa using h1), this]
    by_cases h2 : a.unit = b.unit
    · rw [if_neg (by simpa using h2)]
      by_cases h3 : a.field = b.field
      · rw [if_neg (by simpa using h3)]
        simp [h1, h2, h3]
      · rw [if_pos h3]
        simp [h1, h2, h3]
    · rw [if_pos h2]
      simp [h1, h2]
  · rw [if_pos h1]
    simp [h1]
theorem pltB_trans {a b c : Post} (h1 : pltB a b = true) (h2 : pltB b c = true) : pltB a c = true := by
  rw [pltB_iff] at *
  rcases h1 with h1 | ⟨e1, h1⟩ <;> rcases h2 with h2 | ⟨e2, h2⟩
  · exact .inl (lessB_trans h1 h2)
  · exact .inl (e2 ▸ h1)
  · exact .inl (e1 ▸ h2)
  · exact .inr ⟨e1.trans e2, by omega⟩
theorem Post.ext_ {a b : Post} (h1 : a.word = b.word) (h2 : a.unit = b.unit) (h3 : a.field = b.field) (h4 : a.place = b.place) : a = b := by
  cases a; cases b; simp only at h1 h2 h3 h4; subst h1 h2 h3 h4; rfl
theorem pltB_tri (a b : Post) : pltB a b = true ∨ a = b ∨ pltB b a = true := by
  rw [pltB_iff, pltB_iff]
  rcases lessB_tri a.word b.word with h | h | h
  · exact .inl (.inl h)
  · by_cases h2 : a.unit = b.unit ∧ a.field = b.field ∧ a.place = b.place
    · exact .inr (.inl (Post.ext_ h h2.1 h2.2.1 h2.2.2))
    · have : (a.unit < b.unit ∨ (a.unit = b.unit ∧ (a.field < b.field ∨ (a.field = b.field ∧ a.place < b.place)))) ∨ (b.unit < a.unit ∨ (b.unit = a.unit ∧ (b.field < a.field ∨ (b.field = a.field ∧ b.place < a.place)))) := by omega
      rcases this with g | g
      · exact .inl (.inr ⟨h, g⟩)
      · exact .inr (.inr (.inr ⟨h.symm, g⟩))
  · exact .inr (.inr (.inl h))
theorem pltB_asymm {a b : Post} (h : pltB a b = true) : pltB b a = false := by
  cases h' : pltB b a
  · rfl
  · have := pltB_trans h h'
    rw [pltB_irrefl] at this
    cases this
/-- in order, equal ones allowed -/
def ple (a b : Post) : Prop := pltB b a = false
theorem ple_antisymm {a b : Post} (h1 : ple a b) (h2 : ple b a) : a = b := by
  unfold ple at h1 h2
  rcases pltB_tri a b with h | h | h
  · rw [h2] at h; cases h
  · exact h
  · rw [h1] at h; cases h
theorem ple_iff (a b : Post) : ple a b ↔ pltB a b = true ∨ a = b := by
  unfold ple
  constructor
  · intro h
    rcases pltB_tri a b with g | g | g
    · exact .inl g
    · exact .inr g
    · rw [h] at g; cases g
  · rintro (h | rfl)
    · exact pltB_asymm h
    · exact pltB_irrefl _
theorem ple_trans {a b c : Post} (h1 : ple a b) (h2 : ple b c) : ple a c := by
  rw [ple_iff] at *
  rcases h1 with h1 | rfl
  · rcases h2 with h2 | rfl
    · exact .inl (pltB_trans h1 h2)
    · exact .inl h1
  · exact h2
abbrev SortedP (l : List Post) : Prop := l.Pairwise ple
theorem sorted_unique {l m : List Post} (hl : SortedP l) (hm : SortedP m) (h : l.Perm m) : l = m := List.Perm.eq_of_pairwise (fun _ _ _ _ => ple_antisymm) hl hm h
/-- the reference's add -/
def insP : List Post → Post → List Post
  | [], p => [p]
  | x :: l, p => if pltB x p then x :: insP l p else p :: x :: l
theorem insP_perm : ∀ (l : List Post) (p : Post), (insP l p).Perm (p :: l)
  | [], p => List.Perm.refl _
  | x :: l, p => by
    unfold insP
    split
    · exact ((insP_perm l p).cons x).trans (List.Perm.swap p x l)
    · exact List.Perm.refl _
theorem insP_sorted : ∀ (l : List Post) (p : Post), SortedP l → SortedP (insP l p)
  | [], p, _ => by simp [insP]
  | x :: l, p, h => by
    have h' := List.pairwise_cons.1 h
    unfold insP
    split
    · rename_i hx
      refine List.pairwise_cons.2 ⟨fun y hy => ?_, insP_sorted l p h'.2⟩
      rcases List.mem_cons.1 ((insP_perm l p).mem_iff.1 hy) with rfl | hy
      · exact (ple_iff _ _).2 (.inl hx)
      · exact h'.1 y hy
    · rename_i hx
      have hpx : ple p x := by unfold ple; simpa using hx
      refine List.pairwise_cons.2 ⟨fun y hy => ?_, h⟩
      rcases List.mem_cons.1 hy with rfl | hy
      · exact hpx
      · exact ple_trans hpx (h'.1 y hy)
/-- all of a list, put into another one -/
def addAll (l : List Post) (m : List Post) : List Post := m.foldl insP l
theorem addAll_cons (l : List Post) (p : Post) (m : List Post) : addAll l (p :: m) = addAll (insP l p) m := rfl
theorem addAll_app (l m n : List Post) : addAll l (m ++ n) = addAll (addAll l m) n := by unfold addAll; rw [List.foldl_append]
theorem addAll_perm : ∀ (m l : List Post), (addAll l m).Perm (l ++ m)
  | [], l => by simp [addAll]
  | p :: m, l => by
    rw [addAll_cons]
    refine (addAll_perm m (insP l p)).trans ?_
    refine ((insP_perm l p).append_right m).trans ?_
    exact List.perm_middle.symm
theorem addAll_sorted : ∀ (m l : List Post), SortedP l → SortedP (addAll l m)
  | [], _, h => h
  | p :: m, l, h => by rw [addAll_cons]; exact addAll_sorted m _ (insP_sorted l p h)
/-- the one sorted list with given postings -/
def sortP (l : List Post) : List Post := addAll [] l
theorem sortP_perm (l : List Post) : (sortP l).Perm l := by
  have h := addAll_perm l []
  exact h
theorem sortP_sorted (l : List Post) : SortedP (sortP l) := addAll_sorted l [] List.Pairwise.nil
theorem sortP_of {l m : List Post} (hm : SortedP m) (h : m.Perm l) : m = sortP l := sorted_unique hm (sortP_sorted l) (h.trans (sortP_perm l).symm)
theorem sortP_congr {l m : List Post} (h : l.Perm m) : sortP l = sortP m := sortP_of (sortP_sorted l) ((sortP_perm l).trans h)
theorem addAll_is {l m : List Post} (hl : SortedP l) : addAll l m = sortP (l ++ m) := sortP_of (addAll_sorted m l hl) (addAll_perm m l)
theorem sortP_len (l : List Post) : (sortP l).length = l.length := (sortP_perm l).length_eq
theorem sortP_mem {l : List Post} {p : Post} : p ∈ sortP l ↔ p ∈ l := (sortP_perm l).mem_iff
theorem sortP_sort (l m : List Post) : sortP (sortP l ++ m) = sortP (l ++ m) := sortP_congr ((sortP_perm l).append_right m)
theorem sortP_self {l : List Post} (h : SortedP l) : sortP l = l := (sortP_of h (List.Perm.refl _)).symm
/-- two sorted lists, merged -/
def mergeG : Nat → List Post → List Post → List Post
  | 0, a, b => a ++ b
  | _ + 1, [], b => b
  | _ + 1, x :: a, [] => x :: a
  | n + 1, x :: a, y :: b => if pltB y x then y :: mergeG n (x :: a) b else x :: mergeG n a (y :: b)
theorem mergeG_perm : ∀ (n : Nat) (a b : List Post), (mergeG n a b).Perm (a ++ b)
  | 0, a, b => List.Perm.refl _
  | _ + 1, [], b => by simp [mergeG]
  | _ + 1, x :: a, [] => by simp [mergeG]
  | n + 1, x :: a, y :: b => by
    unfold mergeG
    split
    · exact ((mergeG_perm n (x :: a) b).cons y).trans List.perm_middle.symm
    · exact (mergeG_perm n a (y :: b)).cons x
theorem mergeG_sorted : ∀ (n : Nat) (a b : List Post), SortedP a → SortedP b → a.length + b.length ≤ n → SortedP (mergeG n a b)
  | 0, a, b, _, hb, h => by
    have : a = [] := List.eq_nil_of_length_eq_zero (by omega)
    subst this
    simpa [mergeG] using hb
  | _ + 1, [], b, _, hb, _ => by simpa [mergeG] using hb
  | _ + 1, x :: a, [], ha, _, _ => by simpa [mergeG] using ha
  | n + 1, x :: a, y :: b, ha, hb, h => by
    have ha' := List.pairwise_cons.1 ha
    have hb' := List.pairwise_cons.1 hb
    simp only [List.length_cons] at h
    unfold mergeG
    split
    · rename_i hx
      have hyx : ple y x := (ple_iff _ _).2 (.inl hx)
      refine List.pairwise_cons.2 ⟨fun z hz => ?_, mergeG_sorted n (x :: a) b ha hb'.2 (by simp only [List.length_cons]; omega)⟩
      rcases List.mem_append.1 ((mergeG_perm n (x :: a) b).mem_iff.1 hz) with hz | hz
      · rcases List.mem_cons.1 hz with rfl | hz
        · exact hyx
        · exact ple_trans hyx (ha'.1 z hz)
      · exact hb'.1 z hz
    · rename_i hx
      have hxy : ple x y := by unfold ple; simpa using hx
      refine List.pairwise_cons.2 ⟨fun z hz => ?_, mergeG_sorted n a (y :: b) ha'.2 hb (by simp only [List.length_cons]; omega)⟩
      rcases List.mem_append.1 ((mergeG_perm n a (y :: b)).mem_iff.1 hz) with hz | hz
      · exact ha'.1 z hz
      · rcases List.mem_cons.1 hz with rfl | hz
        · exact hxy
        · exact ple_trans hxy (hb'.1 z hz)
def mergeP (a b : List Post) : List Post := mergeG (a.length + b.length) a b
theorem mergeP_is {a b : List Post} (ha : SortedP a) (hb : SortedP b) : mergeP a b = sortP (a ++ b) := sortP_of (mergeG_sorted _ a b ha hb (Nat.le_refl _)) (mergeG_perm _ a b)

def lowB (c : UInt8) : UInt8 := if 65 ≤ c.toNat ∧ c.toNat ≤ 90 then c + 32 else c
def plnB (c : UInt8) : Bool := decide (97 ≤ c.toNat ∧ c.toNat ≤ 122) || decide (48 ≤ c.toNat ∧ c.toNat ≤ 57)
/-- what a word that ends gives -/
def endW (cur : List UInt8) : List ByteArray := if cur = [] then [] else [⟨cur.toArray⟩]
def wordsG : List UInt8 → List UInt8 → List ByteArray
  | cur, [] => endW cur
  | cur, b :: r => if plnB (lowB b) = true then wordsG (cur ++ [lowB b]) r else endW cur ++ wordsG [] r
def wordsF (s : ByteArray) : List ByteArray := wordsG [] s.data.toList
/-- a word as it stands in a list -/
def wordB (w : ByteArray) : Bool := decide (w.size ≠ 0) && w.data.toList.all plnB
theorem wordsG_mem : ∀ (r cur : List UInt8), (∀ c ∈ cur, plnB c = true) → ∀ w ∈ wordsG cur r, wordB w = true ∧ w.size ≤ cur.length + r.length
  | [], cur, hc, w, hw => by
    unfold wordsG endW at hw
    split at hw
    · simp at hw
    · rename_i hne
      simp only [List.mem_singleton] at hw
      subst hw
      refine ⟨?_, by simp [ByteArray.size]⟩
      unfold wordB
      have : cur.length ≠ 0 := fun e => hne (List.eq_nil_of_length_eq_zero e)
      simp [ByteArray.size, hne]
      exact hc
  | b :: r, cur, hc, w, hw => by
    unfold wordsG at hw
    split at hw
    · rename_i hb
      have := wordsG_mem r (cur ++ [lowB b]) (fun c h => by rcases List.mem_append.1 h with h | h; exact hc c h; simp at h; rw [h]; exact hb) w hw
      refine ⟨this.1, ?_⟩
      have h2 := this.2
      simp only [List.length_append, List.length_cons, List.length_nil] at h2 ⊢
      omega
    · rcases List.mem_append.1 hw with hw | hw
      · have := wordsG_mem [] cur hc w hw
        refine ⟨this.1, ?_⟩
        have h2 := this.2
        simp only [List.length_cons, List.length_nil] at h2 ⊢
        omega
      · have := wordsG_mem r [] (fun _ h => by simp at h) w hw
        refine ⟨this.1, ?_⟩
        have h2 := this.2
        simp only [List.length_cons, List.length_nil] at h2 ⊢
        omega
theorem wordsG_len : ∀ (r cur : List UInt8), (wordsG cur r).length ≤ r.length + if cur = [] then 0 else 1
  | [], cur => by
    unfold wordsG endW
    split <;> simp
  | b :: r, cur => by
    unfold wordsG
    split
    · have h := wordsG_len r (cur ++ [lowB b])
      rw [if_neg (by simp)] at h
      simp only [List.length_cons]
      omega
    · have h := wordsG_len r []
      rw [if_pos rfl] at h
      rw [List.length_append, List.length_cons]
      unfold endW
      split <;> simp <;> omega
theorem size_listW (s : ByteArray) : s.data.toList.length = s.size := Array.length_toList
theorem wordsF_mem {s w : ByteArray} (h : w ∈ wordsF s) : wordB w = true ∧ w.size ≤ s.size := by
  have h2 := wordsG_mem s.data.toList [] (fun _ h => by simp at h) w h
  rw [List.length_nil, Nat.zero_add, size_listW] at h2
  exact h2
theorem wordsF_len (s : ByteArray) : (wordsF s).length ≤ s.size := by
  have h := wordsG_len s.data.toList []
  rw [if_pos rfl, Nat.add_zero, size_listW] at h
  exact h
/-- the postings of a field -/
def putG (u n : Int) : Nat → List ByteArray → List Post
  | _, [] => []
  | i, w :: r => ⟨w, u, n, i⟩ :: putG u n (i + 1) r
def putF (u n : Int) (t : ByteArray) : List Post := putG u n 0 (wordsF t)
theorem putG_len (u n : Int) : ∀ (l : List ByteArray) (i : Nat), (putG u n i l).length = l.length
  | [], _ => rfl
  | w :: r, i => by simp [putG, putG_len u n r]
theorem putG_at (u n : Int) : ∀ (l : List ByteArray) (i k : Nat) (w : ByteArray), l[k]? = some w → (putG u n i l)[k]? = some ⟨w, u, n, ((i + k : Nat) : Int)⟩
  | [], _, k, w, h => by simp at h
  | x :: r, i, 0, w, h => by simp at h; subst h; rfl
  | x :: r, i, k + 1, w, h => by
    have := putG_at u n r (i + 1) k w (by simpa using h)
    rw [putG, List.getElem?_cons_succ, this]
    congr 2; omega
theorem putG_mem {u n : Int} : ∀ {l : List ByteArray} {i : Nat} {p : Post}, p ∈ putG u n i l → p.unit = u ∧ p.field = n ∧ p.word ∈ l ∧ (i : Int) ≤ p.place ∧ p.place < ((i + l.length : Nat) : Int)
  | [], _, _, h => by simp [putG] at h
  | w :: r, i, p, h => by
    rcases List.mem_cons.1 h with rfl | h
    · exact ⟨rfl, rfl, List.mem_cons_self, by simp, by simp only [List.length_cons]; omega⟩
    · obtain ⟨h1, h2, h3, h4, h5⟩ := putG_mem h
      exact ⟨h1, h2, List.mem_cons_of_mem _ h3, by omega, by simp only [List.length_cons]; omega⟩
theorem putG_nodup (u n : Int) : ∀ (l : List ByteArray) (i : Nat), (putG u n i l).Nodup
  | [], _ => List.nodup_nil
  | w :: r, i => by
    refine List.nodup_cons.2 ⟨fun h => ?_, putG_nodup u n r (i + 1)⟩
    have := (putG_mem h).2.2.2.1
    simp only at this
    omega
theorem putF_mem {u n : Int} {t : ByteArray} {p : Post} (h : p ∈ putF u n t) : p.unit = u ∧ p.field = n ∧ wordB p.word = true ∧ p.word.size ≤ t.size ∧ 0 ≤ p.place ∧ p.place < t.size := by
  obtain ⟨h1, h2, h3, h4, h5⟩ := putG_mem h
  have := wordsF_len t
  exact ⟨h1, h2, (wordsF_mem h3).1, (wordsF_mem h3).2, by simpa using h4, by omega⟩
theorem putF_len (u n : Int) (t : ByteArray) : (putF u n t).length ≤ t.size := by
  unfold putF
  rw [putG_len]
  exact wordsF_len t

def rightP (p : Post) : Bool := wordB p.word && decide (p.word.size ≤ 4096) && decide (1 ≤ p.unit) && decide (p.unit ≤ 1073741824) && decide (-1 ≤ p.field) && decide (p.field ≠ 0) && decide (p.field ≤ 64) && decide (0 ≤ p.place) && decide (p.place ≤ 4096)
def chkG : Option Post → List Post → Int
  | _, [] => 0
  | q, p :: r => if rightP p = false then 1 else if (q.any fun x => !pltB x p) = true then 5 else chkG (some p) r
def chkL (l : List Post) : Int := if 65536 < l.length then 8 else chkG none l
theorem chkG_zero : ∀ {l : List Post} {q : Option Post}, chkG q l = 0 → (∀ p ∈ l, rightP p = true) ∧ l.Pairwise (fun a b => pltB a b = true) ∧ ∀ x ∈ q, ∀ p ∈ l, pltB x p = true
  | [], q, _ => ⟨fun p h => by simp at h, List.Pairwise.nil, fun x _ p h => by simp at h⟩
  | p :: r, q, h => by
    unfold chkG at h
    split at h
    · simp at h
    · split at h
      · simp at h
      · rename_i h1 h2
        obtain ⟨g1, g2, g3⟩ := chkG_zero h
        have h1' : rightP p = true := by simpa using h1
        refine ⟨fun x hx => ?_, List.pairwise_cons.2 ⟨fun y hy => g3 p rfl y hy, g2⟩, fun x hx y hy => ?_⟩
        · rcases List.mem_cons.1 hx with rfl | hx
          · exact h1'
          · exact g1 x hx
        · cases hx
          have hxp : pltB x p = true := by simpa using h2
          rcases List.mem_cons.1 hy with rfl | hy
          · exact hxp
          · exact pltB_trans hxp (g3 p rfl y hy)
theorem chkG_of : ∀ {l : List Post} {q : Option Post}, (∀ p ∈ l, rightP p = true) → l.Pairwise (fun a b => pltB a b = true) → (∀ x ∈ q, ∀ p ∈ l, pltB x p = true) → chkG q l = 0
  | [], _, _, _, _ => rfl
  | p :: r, q, h1, h2, h3 => by
    have h2' := List.pairwise_cons.1 h2
    unfold chkG
    rw [if_neg (by rw [h1 p List.mem_cons_self]; simp), if_neg ?_]
    · exact chkG_of (fun x hx => h1 x (List.mem_cons_of_mem _ hx)) h2'.2 (fun x hx y hy => by cases hx; exact h2'.1 y hy)
    · cases q with
      | none => simp
      | some x => simp [h3 x rfl p List.mem_cons_self]
theorem chkL_zero {l : List Post} (h : chkL l = 0) : l.length ≤ 65536 ∧ (∀ p ∈ l, rightP p = true) ∧ l.Pairwise (fun a b => pltB a b = true) := by
  unfold chkL at h
  split at h
  · simp at h
  · obtain ⟨h1, h2, _⟩ := chkG_zero h
    exact ⟨by omega, h1, h2⟩
theorem chkL_of {l : List Post} (h0 : l.length ≤ 65536) (h1 : ∀ p ∈ l, rightP p = true) (h2 : l.Pairwise (fun a b => pltB a b = true)) : chkL l = 0 := by
  unfold chkL
  rw [if_neg (by omega)]
  exact chkG_of h1 h2 (fun x hx => by cases hx)
theorem strict_sorted {l : List Post} (h : l.Pairwise (fun a b => pltB a b = true)) : SortedP l := h.imp (fun h => pltB_asymm h)
theorem sorted_strict {l : List Post} (h : SortedP l) (hn : l.Nodup) : l.Pairwise (fun a b => pltB a b = true) := by
  have := List.Pairwise.and h hn
  exact this.imp (fun ⟨h1, h2⟩ => ((ple_iff _ _).1 h1).resolve_right h2)
/-- the reference's range: the first index and how many -/
def rngG (p : Post → Bool) : Nat → Int → Nat → List Post → Int × Nat
  | _, f, n, [] => (f, n)
  | i, f, n, x :: r => if p x = true then rngG p (i + 1) (if n = 0 then (i : Int) else f) (n + 1) r else rngG p (i + 1) f n r
def rngF (p : Post → Bool) (l : List Post) : Int × Nat := rngG p 0 0 0 l
theorem rngG_none (p : Post → Bool) : ∀ (l : List Post) (i : Nat) (f : Int) (n : Nat), (∀ x ∈ l, p x = false) → rngG p i f n l = (f, n)
  | [], _, _, _, _ => rfl
  | x :: r, i, f, n, h => by
    unfold rngG
    rw [if_neg (by rw [h x List.mem_cons_self]; simp)]
    exact rngG_none p r _ f n (fun y hy => h y (List.mem_cons_of_mem _ hy))
theorem rngG_all (p : Post → Bool) : ∀ (b c : List Post) (i : Nat) (f : Int) (n : Nat), 0 < n → (∀ x ∈ b, p x = true) → (∀ x ∈ c, p x = false) → rngG p i f n (b ++ c) = (f, n + b.length)
  | [], c, i, f, n, _, _, hc => by rw [List.nil_append, rngG_none p c i f n hc]; rfl
  | x :: b, c, i, f, n, hn, hb, hc => by
    rw [List.cons_append]
    unfold rngG
    rw [if_pos (hb x List.mem_cons_self), if_neg (by omega), rngG_all p b c (i + 1) f (n + 1) (by omega) (fun y hy => hb y (List.mem_cons_of_mem _ hy)) hc]
    simp only [List.length_cons]
    congr 1; omega
theorem rngG_mid (p : Post → Bool) (b c : List Post) (hb : ∀ x ∈ b, p x = true) (hc : ∀ x ∈ c, p x = false) : ∀ (a : List Post) (i : Nat), (∀ x ∈ a, p x = false) → rngG p i 0 0 (a ++ (b ++ c)) = if b = [] then (0, 0) else (((i + a.length : Nat) : Int), b.length)
  | [], i, _ => by
    rw [List.nil_append]
    cases b with
    | nil => rw [List.nil_append, rngG_none p c i 0 0 hc, if_pos rfl]
    | cons x b =>
      rw [List.cons_append]
      unfold rngG
      rw [if_pos (hb x List.mem_cons_self), if_pos rfl, rngG_all p b c (i + 1) _ 1 (by omega) (fun y hy => hb y (List.mem_cons_of_mem _ hy)) hc, if_neg (by simp)]
      simp only [List.length_cons, List.length_nil]
      congr 1; omega
  | x :: a, i, h => by
    rw [List.cons_append]
    unfold rngG
    rw [if_neg (by rw [h x List.mem_cons_self]; simp), rngG_mid p b c hb hc a (i + 1) (fun y hy => h y (List.mem_cons_of_mem _ hy))]
    simp only [List.length_cons]
    rw [show i + 1 + a.length = i + (a.length + 1) by omega]
/-- the program's range -/
def prgF (less other : ByteArray → Bool) (l : List Post) : Int × Nat :=
  let f := (l.takeWhile fun x => less x.word).length
  let n := ((l.dropWhile fun x => less x.word).takeWhile fun x => !other x.word).length
  if n = 0 then (0, 0) else (f, n)
theorem takeWhile_all {α : Type} {p : α → Bool} : ∀ {l : List α}, ∀ x ∈ l.takeWhile p, p x = true
  | [], x, h => by simp at h
  | y :: r, x, h => by
    rw [List.takeWhile_cons] at h
    split at h
    · rename_i hy
      rcases List.mem_cons.1 h with rfl | h
      · exact hy
      · exact takeWhile_all x h
    · simp at h
theorem dropWhile_all {α : Type} {p : α → Bool} {R : α → α → Prop} (hm : ∀ x y, R x y → p x = false → p y = false) : ∀ {l : List α}, l.Pairwise R → ∀ x ∈ l.dropWhile p, p x = false
  | [], _, x, h => by simp at h
  | y :: r, hp, x, h => by
    have hp' := List.pairwise_cons.1 hp
    rw [List.dropWhile_cons] at h
    split at h
    · exact dropWhile_all hm hp'.2 x h
    · rename_i hy
      have hy' : p y = false := by simpa using hy
      rcases List.mem_cons.1 h with rfl | h
      · exact hy'
      · exact hm y x (hp'.1 x h) hy'
theorem prgF_eq {less other : ByteArray → Bool} {l : List Post} (hl : SortedP l) (h1 : ∀ x y : Post, ple x y → less x.word = false → less y.word = false) (h2 : ∀ x : Post, less x.word = true → other x.word = true)
    (h3 : ∀ x y : Post, ple x y → less x.word = false → other x.word = true → other y.word = true) : prgF less other l = rngF (fun x => !other x.word) l := by
  have hd := dropWhile_all (p := fun x : Post => less x.word) (R := ple) h1 hl
  have hds : SortedP (l.dropWhile fun x => less x.word) := hl.sublist (List.dropWhile_sublist _)
  generalize hB : l.dropWhile (fun x => less x.word) = B at *
  have hc : ∀ x ∈ B.dropWhile (fun x => !other x.word), (!other x.word) = false := by
    have key : ∀ {C : List Post}, SortedP C → (∀ x ∈ C, less x.word = false) → ∀ x ∈ C.dropWhile (fun x => !other x.word), (!other x.word) = false := by
      intro C
      induction C with
      | nil => intro _ _ x hx; simp at hx
      | cons y r ih =>
        intro hs hle x hx
        have hs' := List.pairwise_cons.1 hs
        rw [List.dropWhile_cons] at hx
        split at hx
        · exact ih hs'.2 (fun z hz => hle z (List.mem_cons_of_mem _ hz)) x hx
        · rename_i hy
          have hy' : other y.word = true := by simpa using hy
          rcases List.mem_cons.1 hx with rfl | hx
          · simp [hy']
          · simp [h3 y x (hs'.1 x hx) (hle y List.mem_cons_self) hy']
    exact key hds hd
  have hl2 : l = l.takeWhile (fun x => less x.word) ++ (B.takeWhile (fun x => !other x.word) ++ B.dropWhile (fun x => !other x.word)) := by
    rw [List.takeWhile_append_dropWhile, ← hB, List.takeWhile_append_dropWhile]
  have hr := rngG_mid (fun x => !other x.word) (B.takeWhile (fun x => !other x.word)) (B.dropWhile (fun x => !other x.word)) (fun x hx => takeWhile_all x hx) hc (l.takeWhile (fun x => less x.word)) 0 (fun x hx => by
    have := takeWhile_all x hx
    simp [h2 x this])
  rw [← hl2] at hr
  unfold prgF rngF
  rw [hr]
  simp only [hB]
  by_cases he : B.takeWhile (fun x => !other x.word) = []
  · rw [if_pos (by rw [he]; rfl), if_pos he]
  · rw [if_neg (fun e => he (List.eq_nil_of_length_eq_zero e)), if_neg he, Nat.zero_add]
theorem ple_word {x y : Post} (h : ple x y) : lessB y.word x.word = false := by
  rw [ple_iff] at h
  rcases h with h | rfl
  · rw [pltB_iff] at h
    rcases h with h | ⟨h, -⟩
    · exact lessB_asymm h
    · rw [h]; exact lessB_irrefl _
  · exact lessB_irrefl _
theorem less_le {a b c : ByteArray} (h1 : lessB b a = false) (h2 : lessB a c = false) : lessB b c = false := by
  cases h : lessB b c
  · rfl
  · rcases lessB_tri a b with g | g | g
    · rw [lessB_trans g h] at h2; cases h2
    · rw [g, h] at h2; cases h2
    · rw [g] at h1; cases h1
/-- Find -/
theorem find_eq {l : List Post} (hl : SortedP l) (w : ByteArray) : prgF (fun x => lessB x w) (fun x => decide (x ≠ w)) l = rngF (fun x => decide (x.word = w)) l := by
  rw [prgF_eq hl]
  · congr 1
    funext x
    simp
  · intro x y h h1
    exact less_le (ple_word h) h1
  · intro x h
    simp only [decide_eq_true_eq]
    intro e
    rw [e, lessB_irrefl] at h
    cases h
  · intro x y h h1 h2
    simp only [decide_eq_true_eq] at *
    intro e
    subst e
    have := ple_word h
    rcases lessB_tri x.word y.word with g | g | g
    · rw [h1] at g; cases g
    · exact h2 g
    · rw [this] at g; cases g
/-- a text begins with another one -/
def pfxB (h s : ByteArray) : Bool := h.data.toList.isPrefixOf s.data.toList
theorem pfx_less : ∀ {h x : List UInt8}, h.isPrefixOf x = true → Op.bytesLess x h = false
  | [], [], _ => rfl
  | [], _ :: _, _ => rfl
  | a :: h, [], g => by simp [List.isPrefixOf] at g
  | a :: h, b :: x, g => by
    simp only [List.isPrefixOf, Bool.and_eq_true, beq_iff_eq] at g
    obtain ⟨rfl, g⟩ := g
    simp [Op.bytesLess, pfx_less g]
theorem pfx_mid : ∀ {h x y : List UInt8}, Op.bytesLess x h = false → Op.bytesLess y x = false → h.isPrefixOf y = true → h.isPrefixOf x = true
  | [], x, _, _, _, _ => by simp [List.isPrefixOf]
  | a :: h, [], _, g, _, _ => by simp [Op.bytesLess] at g
  | a :: h, _ :: _, [], _, _, g => by simp [List.isPrefixOf] at g
  | a :: h, b :: x, c :: y, g1, g2, g3 => by
    simp only [List.isPrefixOf, Bool.and_eq_true, beq_iff_eq] at g3 ⊢
    obtain ⟨rfl, g3⟩ := g3
    simp only [Op.bytesLess, Bool.or_eq_false_iff, decide_eq_false_iff_not, UInt8.lt_iff_toNat_lt] at g1 g2
    have e : b = a := UInt8.toNat_inj.1 (by omega)
    subst e
    refine ⟨rfl, pfx_mid ?_ ?_ g3⟩
    · simpa using g1.2
    · simpa using g2.2
theorem data_list (s : ByteArray) : s.toList = s.data.toList := ByteArray.toList_eq s
/-- Prefix -/
theorem prefix_eq {l : List Post} (hl : SortedP l) (w : ByteArray) : prgF (fun x => lessB x w) (fun x => !pfxB w x) l = rngF (fun x => pfxB w x.word) l := by
  rw [prgF_eq hl]
  · congr 1
    funext x
    simp
  · intro x y h h1
    exact less_le (ple_word h) h1
  · intro x h
    cases g : pfxB w x.word
    · rfl
    · have := pfx_less g
      unfold lessB at h
      rw [data_list, data_list, this] at h
      cases h
  · intro x y h h1 h2
    cases g : pfxB w y.word
    · rfl
    · have h3 := ple_word h
      unfold lessB at h1 h3
      rw [data_list, data_list] at h1 h3
      have : pfxB w x.word = true := pfx_mid h1 h3 g
      rw [this] at h2
      cases h2
/-- the words of a list -/
def wrdG : Option ByteArray → List Post → List ByteArray
  | _, [] => []
  | q, p :: r => if q = some p.word then wrdG q r else p.word :: wrdG (some p.word) r
def wrdL (l : List Post) : List ByteArray := wrdG none l
theorem wrdG_spec : ∀ {l : List Post} {q : Option ByteArray}, SortedP l → (∀ x ∈ q, ∀ p ∈ l, lessB p.word x = false) → (wrdG q l).Pairwise (fun a b => lessB a b = true) ∧ (∀ x ∈ q, ∀ y ∈ wrdG q l, lessB x y = true) ∧ (∀ y ∈ wrdG q l, ∃ p ∈ l, p.word = y) ∧ ∀ p ∈ l, q = some p.word ∨ p.word ∈ wrdG q l
  | [], _, _, _ => ⟨List.Pairwise.nil, fun x _ y h => by simp [wrdG] at h, fun y h => by simp [wrdG] at h, fun p h => by simp at h⟩
  | p :: r, q, hs, hq => by
    have hs' := List.pairwise_cons.1 hs
    unfold wrdG
    split
    · rename_i he
      obtain ⟨g1, g2, g3, g4⟩ := wrdG_spec (q := q) hs'.2 (fun x hx y hy => hq x hx y (List.mem_cons_of_mem _ hy))
      refine ⟨g1, g2, fun y hy => ?_, fun y hy => ?_⟩
      · obtain ⟨z, hz, e⟩ := g3 y hy
        exact ⟨z, List.mem_cons_of_mem _ hz, e⟩
      · rcases List.mem_cons.1 hy with rfl | hy
        · exact .inl he
        · exact g4 y hy
    · rename_i he
      obtain ⟨g1, g2, g3, g4⟩ := wrdG_spec (q := some p.word) hs'.2 (fun x hx y hy => by cases hx; exact ple_word (hs'.1 y hy))
      have hlt : ∀ x ∈ q, lessB x p.word = true := fun x hx => by
        have := hq x hx p List.mem_cons_self
        rcases lessB_tri x p.word with g | g | g
        · exact g
        · exact absurd (by rw [show q = some x from hx, g]) he
        · rw [this] at g; cases g
      refine ⟨List.pairwise_cons.2 ⟨fun y hy => g2 p.word rfl y hy, g1⟩, fun x hx y hy => ?_, fun y hy => ?_, fun y hy => ?_⟩
      · rcases List.mem_cons.1 hy with rfl | hy
        · exact hlt x hx
        · exact lessB_trans (hlt x hx) (g2 p.word rfl y hy)
      · rcases List.mem_cons.1 hy with rfl | hy
        · exact ⟨p, List.mem_cons_self, rfl⟩
        · obtain ⟨z, hz, e⟩ := g3 y hy
          exact ⟨z, List.mem_cons_of_mem _ hz, e⟩
      · right
        rcases List.mem_cons.1 hy with rfl | hy
        · exact List.mem_cons_self
        · rcases g4 y hy with h | h
          · injection h with h; rw [h]; exact List.mem_cons_self
          · exact List.mem_cons_of_mem _ h
theorem wrdL_spec {l : List Post} (hs : SortedP l) : (wrdL l).Pairwise (fun a b => lessB a b = true) ∧ (∀ y ∈ wrdL l, ∃ p ∈ l, p.word = y) ∧ ∀ p ∈ l, p.word ∈ wrdL l := by
  obtain ⟨h1, _, h3, h4⟩ := wrdG_spec (l := l) (q := none) hs (fun x hx => by cases hx)
  exact ⟨h1, h3, fun p hp => (h4 p hp).resolve_left (by simp)⟩

/-- a unit put into an ascending list, once -/
def insU : List Int → Int → List Int
  | [], u => [u]
  | x :: l, u => if x < u then x :: insU l u else if x = u then x :: l else u :: x :: l
abbrev AscI (l : List Int) : Prop := l.Pairwise (· < ·)
theorem insU_mem : ∀ (l : List Int) (u x : Int), x ∈ insU l u ↔ x = u ∨ x ∈ l
  | [], u, x => by simp [insU]
  | y :: l, u, x => by
    unfold insU
    split
    · rw [List.mem_cons, insU_mem l u x, List.mem_cons]
      constructor
      · rintro (h | h | h)
        · exact .inr (.inl h)
        · exact .inl h
        · exact .inr (.inr h)
      · rintro (h | h | h)
        · exact .inr (.inl h)
        · exact .inl h
        · exact .inr (.inr h)
    · split
      · rename_i h
        rw [List.mem_cons]
        constructor
        · exact .inr
        · rintro (h' | h')
          · exact .inl (h'.trans h.symm)
          · exact h'
      · rw [List.mem_cons]
theorem insU_asc : ∀ (l : List Int) (u : Int), AscI l → AscI (insU l u)
  | [], u, _ => by simp [insU]
  | y :: l, u, h => by
    have h' := List.pairwise_cons.1 h
    unfold insU
    split
    · rename_i hy
      refine List.pairwise_cons.2 ⟨fun x hx => ?_, insU_asc l u h'.2⟩
      rcases (insU_mem l u x).1 hx with rfl | hx
      · exact hy
      · exact h'.1 x hx
    · split
      · exact h
      · rename_i h1 h2
        have hu : u < y := by omega
        refine List.pairwise_cons.2 ⟨fun x hx => ?_, h⟩
        rcases List.mem_cons.1 hx with rfl | hx
        · exact hu
        · have := h'.1 x hx; omega
theorem asc_nodup {l : List Int} (h : AscI l) : l.Nodup := h.imp (fun h => by omega)
theorem asc_unique {l m : List Int} (hl : AscI l) (hm : AscI m) (h : ∀ x, x ∈ l ↔ x ∈ m) : l = m :=
  List.Perm.eq_of_pairwise (fun a b _ _ h1 h2 => absurd h1 (by omega)) hl hm ((List.perm_ext_iff_of_nodup (asc_nodup hl) (asc_nodup hm)).2 h)
section
variable (A B : Int → List Post)
/-- a posting, compared as Go compares -/
instance : DecidableEq Post := fun a b => if h : a.word = b.word ∧ a.unit = b.unit ∧ a.field = b.field ∧ a.place = b.place then isTrue (Post.ext_ h.1 h.2.1 h.2.2.1 h.2.2.2) else isFalse (fun e => h (by rw [e]; exact ⟨rfl, rfl, rfl, rfl⟩))
def chgG (out : List Int) (us : List Int) : List Int := us.foldl (fun o u => if A u = B u then o else insU o u) out
def chgF (us : List Int) : List Int := chgG A B [] us
theorem chgG_asc : ∀ (us out : List Int), AscI out → AscI (chgG A B out us)
  | [], out, h => h
  | u :: us, out, h => by
    show AscI (chgG A B (if A u = B u then out else insU out u) us)
    refine chgG_asc us _ ?_
    split
    · exact h
    · exact insU_asc out u h
theorem chgG_mem : ∀ (us out : List Int) (x : Int), x ∈ chgG A B out us ↔ x ∈ out ∨ (x ∈ us ∧ A x ≠ B x)
  | [], out, x => by simp [chgG]
  | u :: us, out, x => by
    show x ∈ chgG A B (if A u = B u then out else insU out u) us ↔ _
    rw [chgG_mem us _ x]
    split
    · rename_i h
      constructor
      · rintro (g | ⟨g1, g2⟩)
        · exact .inl g
        · exact .inr ⟨List.mem_cons_of_mem _ g1, g2⟩
      · rintro (g | ⟨g1, g2⟩)
        · exact .inl g
        · rcases List.mem_cons.1 g1 with rfl | g1
          · exact absurd h g2
          · exact .inr ⟨g1, g2⟩
    · rename_i h
      rw [insU_mem]
      constructor
      · rintro ((rfl | g) | ⟨g1, g2⟩)
        · exact .inr ⟨List.mem_cons_self, h⟩
        · exact .inl g
        · exact .inr ⟨List.mem_cons_of_mem _ g1, g2⟩
      · rintro (g | ⟨g1, g2⟩)
        · exact .inl (.inr g)
        · rcases List.mem_cons.1 g1 with rfl | g1
          · exact .inl (.inl rfl)
          · exact .inr ⟨g1, g2⟩
theorem chgF_asc (us : List Int) : AscI (chgF A B us) := chgG_asc A B us [] List.Pairwise.nil
theorem chgF_mem (us : List Int) (x : Int) : x ∈ chgF A B us ↔ x ∈ us ∧ A x ≠ B x := by
  unfold chgF
  rw [chgG_mem]
  simp
/-- the units that were met, and the postings of those of them that have changed, as the program gathers them -/
def seenG : List Int → List Int → List Int
  | ks, [] => ks
  | ks, u :: us => if u ∈ ks then seenG ks us else seenG (ks ++ [u]) us
def moreG (ks : List Int) : List Int → List Post
  | [] => []
  | u :: us => if u ∈ ks then moreG ks us else (if A u = B u then [] else B u) ++ moreG (ks ++ [u]) us
theorem seenG_nodup : ∀ (us ks : List Int), ks.Nodup → (seenG ks us).Nodup
  | [], _, h => h
  | u :: us, ks, h => by
    unfold seenG
    split
    · exact seenG_nodup us ks h
    · rename_i hu
      exact seenG_nodup us _ (List.nodup_append.2 ⟨h, by simp, fun a ha b hb => by simp at hb; subst hb; exact fun e => hu (e ▸ ha)⟩)
theorem seenG_mem : ∀ (us ks : List Int) (x : Int), x ∈ seenG ks us ↔ x ∈ ks ∨ x ∈ us
  | [], ks, x => by simp [seenG]
  | u :: us, ks, x => by
    unfold seenG
    split
    · rename_i hu
      rw [seenG_mem us ks x, List.mem_cons]
      constructor
      · rintro (h | h)
        · exact .inl h
        · exact .inr (.inr h)
      · rintro (h | rfl | h)
        · exact .inl h
        · exact .inl hu
        · exact .inr h
    · rw [seenG_mem us _ x, List.mem_append, List.mem_singleton, List.mem_cons]
      exact or_assoc
theorem moreG_is : ∀ (us ks : List Int), ∃ ns, seenG ks us = ks ++ ns ∧ moreG A B ks us = (ns.filter fun u => decide (A u ≠ B u)).flatMap B
  | [], ks => ⟨[], by simp [seenG], rfl⟩
  | u :: us, ks => by
    unfold seenG moreG
    split
    · exact moreG_is us ks
    · obtain ⟨ns, h1, h2⟩ := moreG_is us (ks ++ [u])
      refine ⟨u :: ns, by rw [h1]; simp, ?_⟩
      rw [h2, List.filter_cons]
      split
      · rename_i h
        rw [if_neg (by simp [h])]
        rfl
      · rename_i h
        rw [if_pos (by simp [h])]
        rfl
theorem more_perm (us : List Int) : (moreG A B [] us).Perm ((chgF A B us).flatMap B) := by
  obtain ⟨ns, h1, h2⟩ := moreG_is A B us []
  rw [List.nil_append] at h1
  rw [h2]
  refine List.Perm.flatMap_right B ?_
  refine (List.perm_ext_iff_of_nodup ?_ (asc_nodup (chgF_asc A B us))).2 fun x => ?_
  · rw [← h1]
    exact List.Pairwise.filter _ (seenG_nodup us [] List.nodup_nil)
  · rw [List.mem_filter, ← h1, seenG_mem, chgF_mem]
    simp
/-- the updated list -/
def restL (us : List Int) (l : List Post) : List Post := l.filter fun p => decide (p.unit ∉ us)
def updF (us : List Int) (l : List Post) : List Post := sortP (restL (chgF A B us) l ++ (chgF A B us).flatMap B)
theorem upd_prog {us : List Int} {l : List Post} (hl : SortedP l) : mergeP (restL (chgF A B us) l) (sortP (moreG A B [] us)) = updF A B us l := by
  rw [mergeP_is (show SortedP (restL (chgF A B us) l) from hl.sublist List.filter_sublist) (sortP_sorted _)]
  refine sortP_congr (List.Perm.append_left _ ?_)
  exact (sortP_perm _).trans (more_perm A B us)
theorem upd_ref {us : List Int} {l : List Post} (hl : SortedP l) : addAll (restL (chgF A B us) l) ((chgF A B us).flatMap B) = updF A B us l := addAll_is (hl.sublist List.filter_sublist)
theorem flatMap_ne (l : List Int) : (l.filter fun u => decide (B u ≠ [])).flatMap B = l.flatMap B := by
  induction l with
  | nil => rfl
  | cons u l ih =>
    rw [List.filter_cons]
    split
    · rw [List.flatMap_cons, List.flatMap_cons, ih]
    · rename_i h
      have : B u = [] := by simpa using h
      rw [List.flatMap_cons, this, ih]
      rfl
theorem flatMap_same {l m : List Int} (hl : l.Nodup) (hm : m.Nodup) (h : ∀ u, B u ≠ [] → (u ∈ l ↔ u ∈ m)) : (l.flatMap B).Perm (m.flatMap B) := by
  rw [← flatMap_ne B l, ← flatMap_ne B m]
  refine List.Perm.flatMap_right B ((List.perm_ext_iff_of_nodup (List.Pairwise.filter _ hl) (List.Pairwise.filter _ hm)).2 fun x => ?_)
  rw [List.mem_filter, List.mem_filter]
  constructor
  · rintro ⟨h1, h2⟩
    exact ⟨(h x (by simpa using h2)).1 h1, h2⟩
  · rintro ⟨h1, h2⟩
    exact ⟨(h x (by simpa using h2)).2 h1, h2⟩
theorem rest_flat {us cs : List Int} (hu : ∀ u, ∀ p ∈ A u, p.unit = u) : (us.flatMap A).filter (fun p => decide (p.unit ∉ cs)) = (us.filter fun u => decide (u ∉ cs)).flatMap A := by
  induction us with
  | nil => rfl
  | cons u us ih =>
    rw [List.flatMap_cons, List.filter_append, ih, List.filter_cons]
    by_cases h : u ∈ cs
    · rw [if_neg (by simpa using h), List.filter_eq_nil_iff.2 (fun p hp => by rw [hu u p hp]; simpa using h)]
      rfl
    · rw [if_pos (by simpa using h), List.flatMap_cons, List.filter_eq_self.2 (fun p hp => by rw [hu u p hp]; simpa using h)]
/-- from one catalog to the next -/
theorem upd_scratch {ua ub : List Int} (hA : ∀ u, ∀ p ∈ A u, p.unit = u) (na : ua.Nodup) (nb : ub.Nodup) (ea : ∀ u, u ∉ ua → A u = []) (eb : ∀ u, u ∉ ub → B u = []) :
    updF A B (ua ++ ub) (sortP (ua.flatMap A)) = sortP (ub.flatMap B) := by
  unfold updF
  refine sortP_congr ?_
  have h1 : (restL (chgF A B (ua ++ ub)) (sortP (ua.flatMap A))).Perm ((ua.filter fun u => decide (u ∉ chgF A B (ua ++ ub))).flatMap B) := by
    unfold restL
    refine ((sortP_perm _).filter _).trans ?_
    rw [rest_flat A hA]
    have : (ua.filter fun u => decide (u ∉ chgF A B (ua ++ ub))).flatMap A = (ua.filter fun u => decide (u ∉ chgF A B (ua ++ ub))).flatMap B := by
      rw [List.flatMap_def, List.flatMap_def]
      congr 1
      refine List.map_congr_left fun u hu => ?_
      obtain ⟨h2, h3⟩ := List.mem_filter.1 hu
      have h4 : ¬ (u ∈ chgF A B (ua ++ ub)) := by simpa using h3
      rw [chgF_mem] at h4
      exact Classical.byContradiction fun e => h4 ⟨List.mem_append.2 (.inl h2), e⟩
    rw [this]
  refine (h1.append_right _).trans ?_
  rw [← List.flatMap_append]
  refine flatMap_same B ?_ nb ?_
  · refine List.nodup_append.2 ⟨List.Pairwise.filter _ na, asc_nodup (chgF_asc A B _), fun x hx y hy e => ?_⟩
    subst e
    have := (List.mem_filter.1 hx).2
    simp only [decide_eq_true_eq] at this
    exact this hy
  · intro u hne
    rw [List.mem_append, List.mem_filter]
    constructor
    · rintro (⟨h2, h3⟩ | h2)
      · exact Classical.byContradiction fun e => hne (eb u e)
      · exact Classical.byContradiction fun e => hne (eb u e)
    · intro h2
      by_cases h3 : u ∈ chgF A B (ua ++ ub)
      · exact .inr h3
      · refine .inl ⟨Classical.byContradiction fun e => h3 ((chgF_mem A B _ u).2 ⟨List.mem_append.2 (.inr h2), ?_⟩), by simpa using h3⟩
        rw [ea u e]
        exact fun e => hne e.symm
end
end
section
section
variable (A B : Int → List Post)
def chM (ks : List Int) : Int → Option Bool := fun u => if u ∈ ks then some (decide (A u ≠ B u)) else none
theorem chM_nil : chM A B [] = fun _ => none := by funext u; simp [chM]
theorem chM_add (ks : List Int) (u : Int) : upd (chM A B ks) u (decide (A u ≠ B u)) = chM A B (ks ++ [u]) := by
  funext x
  unfold upd chM
  by_cases hx : x = u
  · subst hx; simp
  · simp [hx]
theorem chM_get (ks : List Int) (u : Int) : (chM A B ks u).getD false = decide (u ∈ ks ∧ A u ≠ B u) := by
  unfold chM
  by_cases h : u ∈ ks <;> simp [h]
theorem rest_is (us : List Int) (l : List Post) : (l.filter fun p => !((chM A B (seenG [] us) p.unit).getD false)) = restL (chgF A B us) l := by
  unfold restL
  refine List.filter_congr fun p _ => ?_
  rw [chM_get, Bool.eq_iff_iff, Bool.not_eq_true', decide_eq_false_iff_not, decide_eq_true_iff, chgF_mem, seenG_mem]
  simp
theorem chM_true (us : List Int) (u : Int) : chM A B (seenG [] us) u = some true ↔ u ∈ chgF A B us := by
  unfold chM
  rw [chgF_mem]
  by_cases h : u ∈ seenG [] us
  · have h' := h
    rw [seenG_mem] at h'
    simp only [h, if_true]
    constructor
    · intro e
      injection e with e
      exact ⟨by simpa using h', by simpa using e⟩
    · intro e
      simp [e.2]
  · have h' := h
    rw [seenG_mem] at h'
    simp only [h, if_false]
    constructor
    · intro e; cases e
    · intro e
      exact absurd (by simpa using e.1) (by simpa using h')
/-- what a range over the map collects -/
theorem coll_is {es : List (Int × Bool × Nat)} {us : List Int} (hk : (es.map (·.1)).Nodup) (hf : ∀ k, mget es k = chM A B (seenG [] us) k) {ys : List Int} (hp : ys.Perm ((es.filter fun e => e.2.1).map (·.1))) (hs : ys.Pairwise (· ≤ ·)) : ys = chgF A B us := by
  have hmem : ∀ (l : List (Int × Bool × Nat)) (k : Int), (l.map (·.1)).Nodup → (k ∈ (l.filter fun e => e.2.1).map (·.1) ↔ mget l k = some true) := by
    intro l
    induction l with
    | nil => intro k _; simp [mget]
    | cons e l ih =>
      intro k hn
      rw [List.map_cons, List.nodup_cons] at hn
      have ih := ih k hn.2
      unfold mget at ih ⊢
      by_cases hek : e.1 = k
      · rw [List.find?_cons_of_pos (by simp [hek])]
        cases hb : e.2.1
        · rw [List.filter_cons, if_neg (by simp [hb])]
          simp only [Option.map_some, hb]
          constructor
          · intro h
            obtain ⟨x, hx, hxk⟩ := List.mem_map.1 h
            exact absurd (List.mem_map.2 ⟨x, (List.mem_filter.1 hx).1, by rw [hxk, hek]⟩) hn.1
          · intro h; simp at h
        · rw [List.filter_cons, if_pos (by simp [hb])]
          simp [hb, hek]
      · rw [List.find?_cons_of_neg (by simp [hek]), ← ih, List.filter_cons]
        split
        · simp [Ne.symm hek]
        · rfl
  have hn : ((es.filter fun e => e.2.1).map (·.1)).Nodup := hk.sublist (List.Sublist.map _ List.filter_sublist)
  have hny : ys.Nodup := hp.nodup_iff.2 hn
  have hasc : AscI ys := (List.Pairwise.and hs hny).imp fun ⟨h1, h2⟩ => by omega
  refine asc_unique hasc (chgF_asc A B us) fun x => ?_
  rw [hp.mem_iff, hmem es x hk, hf, chM_true]
end
theorem seenG_len : ∀ (us ks : List Int), (seenG ks us).length ≤ ks.length + us.length
  | [], _ => Nat.le_refl _
  | u :: us, ks => by
    unfold seenG
    split
    · have := seenG_len us ks
      rw [List.length_cons]
      omega
    · have := seenG_len us (ks ++ [u])
      rw [List.length_append, List.length_cons, List.length_nil] at this
      rw [List.length_cons]
      omega
/-- what was collected so far: the entries that were seen -/
theorem coll_step {es : List (Int × Bool × Nat)} {seen : List Nat} {e : Int × Bool × Nat} (hn : (es.map (·.2.2)).Nodup) (he : e ∈ es) (hs : e.2.2 ∉ seen) : (es.filter fun x => decide (x.2.2 ∈ seen ++ [e.2.2]) && x.2.1).Perm ((es.filter fun x => decide (x.2.2 ∈ seen) && x.2.1) ++ if e.2.1 = true then [e] else []) := by
  induction es with
  | nil => cases he
  | cons x l ih =>
    rw [List.map_cons, List.nodup_cons] at hn
    rcases List.mem_cons.1 he with rfl | he
    · have hx : e.2.2 ∉ l.map (·.2.2) := hn.1
      have hl : (l.filter fun x => decide (x.2.2 ∈ seen ++ [e.2.2]) && x.2.1) = l.filter fun x => decide (x.2.2 ∈ seen) && x.2.1 := List.filter_congr fun y hy => by
        have : y.2.2 ≠ e.2.2 := fun h => hx (h ▸ List.mem_map.2 ⟨y, hy, rfl⟩)
        simp [this]
      rw [List.filter_cons, List.filter_cons, hl]
      cases hb : e.2.1
      · simp
      · simp only [hs, List.mem_append, List.mem_singleton, or_true, decide_true, Bool.true_and, if_true, decide_false, Bool.false_and]
        simp only [Bool.false_eq_true, if_false]
        exact (List.perm_append_comm (l₁ := [e]))
    · have hne : x.2.2 ≠ e.2.2 := fun h => hn.1 (h ▸ List.mem_map.2 ⟨e, he, rfl⟩)
      have ih := ih hn.2 he
      rw [List.filter_cons, List.filter_cons]
      have hc : (decide (x.2.2 ∈ seen ++ [e.2.2]) && x.2.1) = (decide (x.2.2 ∈ seen) && x.2.1) := by simp [hne]
      rw [hc]
      split
      · rw [List.cons_append]; exact ih.cons _
      · exact ih
end
section
open Go.RowKit

/-- cut at each byte c, at most k times -/
def splN (c : UInt8) : Nat → List UInt8 → List UInt8 → List (List UInt8)
  | 0, cur, l => [cur ++ l]
  | _ + 1, cur, [] => [cur]
  | k + 1, cur, x :: r => if x = c then cur :: splN c k [] r else splN c (k + 1) (cur ++ [x]) r
/-- cut at each byte c -/
def splG (c : UInt8) : List UInt8 → List UInt8 → List (List UInt8)
  | cur, [] => [cur]
  | cur, x :: r => if x = c then cur :: splG c [] r else splG c (cur ++ [x]) r
theorem splG_ne (c : UInt8) : ∀ (l cur : List UInt8), splG c cur l ≠ []
  | [], _ => by simp [splG]
  | x :: r, cur => by
    unfold splG
    split
    · simp
    · exact splG_ne c r _
theorem splG_len (c : UInt8) : ∀ (l cur : List UInt8), (splG c cur l).length = l.count c + 1
  | [], _ => by simp [splG]
  | x :: r, cur => by
    unfold splG
    by_cases h : x = c
    · subst h
      rw [if_pos rfl, List.length_cons, splG_len x r [], List.count_cons_self]
    · rw [if_neg h, splG_len c r, List.count_cons_of_ne h]
theorem splN_G (c : UInt8) : ∀ (l : List UInt8) (k : Nat) (cur : List UInt8), l.count c ≤ k → splN c k cur l = splG c cur l
  | [], k, cur, _ => by cases k <;> simp [splN, splG]
  | x :: r, 0, cur, h => by
    have hx : x ≠ c := fun e => by subst e; rw [List.count_cons_self] at h; omega
    have hr : r.count c ≤ 0 := by rwa [List.count_cons_of_ne hx] at h
    have ih := splN_G c r 0 (cur ++ [x]) hr
    unfold splG
    rw [if_neg hx, ← ih]
    simp [splN]
  | x :: r, k + 1, cur, h => by
    unfold splN splG
    by_cases hx : x = c
    · subst hx
      rw [if_pos rfl, if_pos rfl, splN_G x r k [] (by rw [List.count_cons_self] at h; omega)]
    · rw [if_neg hx, if_neg hx, splN_G c r (k + 1) (cur ++ [x]) (by rwa [List.count_cons_of_ne hx] at h)]
theorem splN_len (c : UInt8) : ∀ (l : List UInt8) (k : Nat) (cur : List UInt8), (splN c k cur l).length = min (l.count c) k + 1
  | [], k, cur => by cases k <;> simp [splN]
  | x :: r, 0, cur => by simp [splN]
  | x :: r, k + 1, cur => by
    unfold splN
    by_cases hx : x = c
    · subst hx
      rw [if_pos rfl, List.length_cons, splN_len x r k [], List.count_cons_self]; omega
    · rw [if_neg hx, splN_len c r (k + 1) _, List.count_cons_of_ne hx]
theorem splN_cons (c : UInt8) (k : Nat) (cur : List UInt8) (x : UInt8) (r : List UInt8) : splN c (k + 1) cur (x :: r) = if x = c then cur :: splN c k [] r else splN c (k + 1) (cur ++ [x]) r := by rw [splN]
/-- the kit's cutting is this one -/
theorem splN_index (c : UInt8) : ∀ (l : List UInt8) (k : Nat) (cur : List UInt8), splN c (k + 1) cur l = if Lib.index l [c] = -1 then [cur ++ l] else (cur ++ l.take (Lib.index l [c]).toNat) :: splN c k [] (l.drop ((Lib.index l [c]).toNat + 1))
  | [], k, cur => by simp [splN, Lib.index]
  | x :: r, k, cur => by
    rw [splN_cons, show Lib.index (x :: r) [c] = if ([c] : List UInt8).isPrefixOf (x :: r) then 0 else if Lib.index r [c] == -1 then -1 else Lib.index r [c] + 1 from by rw [Lib.index]]
    by_cases hx : x = c
    · subst hx
      simp [List.isPrefixOf]
    · have hp : ([c] : List UInt8).isPrefixOf (x :: r) = false := by simp [List.isPrefixOf, Ne.symm hx]
      rw [if_neg hx, hp, splN_index c r k (cur ++ [x])]
      have hge := Lib.index_ge r [c]
      by_cases hm : Lib.index r [c] = -1
      · simp [hm]
      · obtain ⟨j, hj⟩ : ∃ j : Nat, Lib.index r [c] = j := ⟨(Lib.index r [c]).toNat, by omega⟩
        have e1 : ((j : Int) == -1) = false := by simp
        have e2 : ¬ ((j : Int) = -1) := by omega
        have e3 : ¬ ((j : Int) + 1 = -1) := by omega
        have e4 : ((j : Int) + 1).toNat = j + 1 := by omega
        rw [hj]
        simp [e1, e2, e3, e4]
theorem splitK_is (c : UInt8) : ∀ (k : Nat) (l : List UInt8), Lib.splitK [c] 0 k l = splN c k [] l
  | 0, l => by simp [Lib.splitK, splN]
  | k + 1, l => by
    rw [splN_index]
    unfold Lib.splitK
    by_cases h : Lib.index l [c] = -1
    · simp [h]
    · rw [if_neg (by simpa using h), if_neg h, splitK_is c k]
      simp
theorem split_all (c : UInt8) (s : ByteArray) : (Lib.splitB ⟨#[c]⟩ 0 (Lib.countB s ⟨#[c]⟩) s).map (fun x => x.data.toList) = splG c [] s.data.toList := by
  rw [Lib.splitB_data]
  have : Lib.countB s ⟨#[c]⟩ = s.data.toList.count c := by
    exact Lib.count_one c s.data.toList
  rw [this]
  show Lib.splitK [c] 0 _ _ = _
  rw [splitK_is, splN_G c _ _ _ (Nat.le_refl _)]
theorem splG_cons (c : UInt8) (cur : List UInt8) (x : UInt8) (r : List UInt8) : splG c cur (x :: r) = if x = c then cur :: splG c [] r else splG c (cur ++ [x]) r := by rw [splG]
theorem splG_app {c : UInt8} : ∀ (A cur B : List UInt8), c ∉ A → splG c cur (A ++ c :: B) = (cur ++ A) :: splG c [] B
  | [], cur, B, _ => by rw [List.nil_append, splG_cons, if_pos rfl, List.append_nil]
  | x :: A, cur, B, h => by
    have hx : ¬ x = c := fun e => h (by simp [e])
    rw [List.cons_append, splG_cons, if_neg hx, splG_app A _ B (fun e => h (by simp [e]))]
    simp
theorem splG_one {c : UInt8} : ∀ (A cur : List UInt8), c ∉ A → splG c cur A = [cur ++ A]
  | [], cur, _ => by simp [splG]
  | x :: A, cur, h => by
    have hx : ¬ x = c := fun e => h (by simp [e])
    rw [splG_cons, if_neg hx, splG_one A _ (fun e => h (by simp [e]))]
    simp
def splB (c : UInt8) (s : ByteArray) : List ByteArray := Lib.splitB ⟨#[c]⟩ 0 (Lib.countB s ⟨#[c]⟩) s
theorem splB_is (c : UInt8) (s : ByteArray) : (splB c s).map (fun x => x.data.toList) = splG c [] s.data.toList := split_all c s
theorem splB_len (c : UInt8) (s : ByteArray) : (splB c s).length = Lib.countB s ⟨#[c]⟩ + 1 := by
  have := congrArg List.length (splB_is c s)
  rw [List.length_map, splG_len] at this
  rw [this]
  congr 1
  exact (Lib.count_one c s.data.toList).symm
theorem splB_lt (c : UInt8) (s : ByteArray) : (splB c s).length ≤ s.size + 1 := by
  have := congrArg List.length (splB_is c s)
  rw [List.length_map, splG_len] at this
  have h2 := List.count_le_length (a := c) (l := s.data.toList)
  have h3 : s.data.toList.length = s.size := Array.length_toList
  omega
end
end Go.Proofs.YtngodakkdhdmjaaGreatDoor
