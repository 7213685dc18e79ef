/- Plain: lists of postings: their first error, the ranges with a word or a beginning, their words. -/
import Derived.Test.YtpfngehledgkiaaWdP
namespace Go.Proofs.Ytpfngehledgkiaa
open Go.RowKit

def rightP (p : Post) : Bool := wordB p.word && decide (p.word.size ≤ 4096) && decide (1 ≤ p.unit) && decide (p.unit ≤ 1073741824) && decide (-1 ≤ p.field) && decide (p.field ≠ 0) && decide (p.field ≤ 64) && decide (0 ≤ p.place) && decide (p.place ≤ 4096)
def chkG : Option Post → List Post → Int
  | _, [] => 0
  | q, p :: r => if rightP p = false then 1 else if (q.any fun x => !pltB x p) = true then 5 else chkG (some p) r
def chkL (l : List Post) : Int := if 65536 < l.length then 8 else chkG none l
theorem chkG_zero : ∀ {l : List Post} {q : Option Post}, chkG q l = 0 → (∀ p ∈ l, rightP p = true) ∧ l.Pairwise (fun a b => pltB a b = true) ∧ ∀ x ∈ q, ∀ p ∈ l, pltB x p = true
  | [], q, _ => ⟨fun p h => by simp at h, List.Pairwise.nil, fun x _ p h => by simp at h⟩
  | p :: r, q, h => by
    unfold chkG at h
    split at h
    · simp at h
    · split at h
      · simp at h
      · rename_i h1 h2
        obtain ⟨g1, g2, g3⟩ := chkG_zero h
        have h1' : rightP p = true := by simpa using h1
        refine ⟨fun x hx => ?_, List.pairwise_cons.2 ⟨fun y hy => g3 p rfl y hy, g2⟩, fun x hx y hy => ?_⟩
        · rcases List.mem_cons.1 hx with rfl | hx
          · exact h1'
          · exact g1 x hx
        · cases hx
          have hxp : pltB x p = true := by simpa using h2
          rcases List.mem_cons.1 hy with rfl | hy
          · exact hxp
          · exact pltB_trans hxp (g3 p rfl y hy)
theorem chkG_of : ∀ {l : List Post} {q : Option Post}, (∀ p ∈ l, rightP p = true) → l.Pairwise (fun a b => pltB a b = true) → (∀ x ∈ q, ∀ p ∈ l, pltB x p = true) → chkG q l = 0
  | [], _, _, _, _ => rfl
  | p :: r, q, h1, h2, h3 => by
    have h2' := List.pairwise_cons.1 h2
    unfold chkG
    rw [if_neg (by rw [h1 p List.mem_cons_self]; simp), if_neg ?_]
    · exact chkG_of (fun x hx => h1 x (List.mem_cons_of_mem _ hx)) h2'.2 (fun x hx y hy => by cases hx; exact h2'.1 y hy)
    · cases q with
      | none => simp
      | some x => simp [h3 x rfl p List.mem_cons_self]
theorem chkL_zero {l : List Post} (h : chkL l = 0) : l.length ≤ 65536 ∧ (∀ p ∈ l, rightP p = true) ∧ l.Pairwise (fun a b => pltB a b = true) := by
  unfold chkL at h
  split at h
  · simp at h
  · obtain ⟨h1, h2, _⟩ := chkG_zero h
    exact ⟨by omega, h1, h2⟩
theorem chkL_of {l : List Post} (h0 : l.length ≤ 65536) (h1 : ∀ p ∈ l, rightP p = true) (h2 : l.Pairwise (fun a b => pltB a b = true)) : chkL l = 0 := by
  unfold chkL
  rw [if_neg (by omega)]
  exact chkG_of h1 h2 (fun x hx => by cases hx)
theorem strict_sorted {l : List Post} (h : l.Pairwise (fun a b => pltB a b = true)) : SortedP l := h.imp (fun h => pltB_asymm h)
theorem sorted_strict {l : List Post} (h : SortedP l) (hn : l.Nodup) : l.Pairwise (fun a b => pltB a b = true) := by
  have := List.Pairwise.and h hn
  exact this.imp (fun ⟨h1, h2⟩ => ((ple_iff _ _).1 h1).resolve_right h2)
/-- the reference's range: the first index and how many -/
def rngG (p : Post → Bool) : Nat → Int → Nat → List Post → Int × Nat
  | _, f, n, [] => (f, n)
  | i, f, n, x :: r => if p x = true then rngG p (i + 1) (if n = 0 then (i : Int) else f) (n + 1) r else rngG p (i + 1) f n r
def rngF (p : Post → Bool) (l : List Post) : Int × Nat := rngG p 0 0 0 l
theorem rngG_none (p : Post → Bool) : ∀ (l : List Post) (i : Nat) (f : Int) (n : Nat), (∀ x ∈ l, p x = false) → rngG p i f n l = (f, n)
  | [], _, _, _, _ => rfl
  | x :: r, i, f, n, h => by
    unfold rngG
    rw [if_neg (by rw [h x List.mem_cons_self]; simp)]
    exact rngG_none p r _ f n (fun y hy => h y (List.mem_cons_of_mem _ hy))
theorem rngG_all (p : Post → Bool) : ∀ (b c : List Post) (i : Nat) (f : Int) (n : Nat), 0 < n → (∀ x ∈ b, p x = true) → (∀ x ∈ c, p x = false) → rngG p i f n (b ++ c) = (f, n + b.length)
  | [], c, i, f, n, _, _, hc => by rw [List.nil_append, rngG_none p c i f n hc]; rfl
  | x :: b, c, i, f, n, hn, hb, hc => by
    rw [List.cons_append]
    unfold rngG
    rw [if_pos (hb x List.mem_cons_self), if_neg (by omega), rngG_all p b c (i + 1) f (n + 1) (by omega) (fun y hy => hb y (List.mem_cons_of_mem _ hy)) hc]
    simp only [List.length_cons]
    congr 1; omega
theorem rngG_mid (p : Post → Bool) (b c : List Post) (hb : ∀ x ∈ b, p x = true) (hc : ∀ x ∈ c, p x = false) : ∀ (a : List Post) (i : Nat), (∀ x ∈ a, p x = false) → rngG p i 0 0 (a ++ (b ++ c)) = if b = [] then (0, 0) else (((i + a.length : Nat) : Int), b.length)
  | [], i, _ => by
    rw [List.nil_append]
    cases b with
    | nil => rw [List.nil_append, rngG_none p c i 0 0 hc, if_pos rfl]
    | cons x b =>
      rw [List.cons_append]
      unfold rngG
      rw [if_pos (hb x List.mem_cons_self), if_pos rfl, rngG_all p b c (i + 1) _ 1 (by omega) (fun y hy => hb y (List.mem_cons_of_mem _ hy)) hc, if_neg (by simp)]
      simp only [List.length_cons, List.length_nil]
      congr 1; omega
  | x :: a, i, h => by
    rw [List.cons_append]
    unfold rngG
    rw [if_neg (by rw [h x List.mem_cons_self]; simp), rngG_mid p b c hb hc a (i + 1) (fun y hy => h y (List.mem_cons_of_mem _ hy))]
    simp only [List.length_cons]
    rw [show i + 1 + a.length = i + (a.length + 1) by omega]
/-- the program's range -/
def prgF (less other : ByteArray → Bool) (l : List Post) : Int × Nat :=
  let f := (l.takeWhile fun x => less x.word).length
  let n := ((l.dropWhile fun x => less x.word).takeWhile fun x => !other x.word).length
  if n = 0 then (0, 0) else (f, n)
theorem takeWhile_all {α : Type} {p : α → Bool} : ∀ {l : List α}, ∀ x ∈ l.takeWhile p, p x = true
  | [], x, h => by simp at h
  | y :: r, x, h => by
    rw [List.takeWhile_cons] at h
    split at h
    · rename_i hy
      rcases List.mem_cons.1 h with rfl | h
      · exact hy
      · exact takeWhile_all x h
    · simp at h
theorem dropWhile_all {α : Type} {p : α → Bool} {R : α → α → Prop} (hm : ∀ x y, R x y → p x = false → p y = false) : ∀ {l : List α}, l.Pairwise R → ∀ x ∈ l.dropWhile p, p x = false
  | [], _, x, h => by simp at h
  | y :: r, hp, x, h => by
    have hp' := List.pairwise_cons.1 hp
    rw [List.dropWhile_cons] at h
    split at h
    · exact dropWhile_all hm hp'.2 x h
    · rename_i hy
      have hy' : p y = false := by simpa using hy
      rcases List.mem_cons.1 h with rfl | h
      · exact hy'
      · exact hm y x (hp'.1 x h) hy'
theorem prgF_eq {less other : ByteArray → Bool} {l : List Post} (hl : SortedP l) (h1 : ∀ x y : Post, ple x y → less x.word = false → less y.word = false) (h2 : ∀ x : Post, less x.word = true → other x.word = true)
    (h3 : ∀ x y : Post, ple x y → less x.word = false → other x.word = true → other y.word = true) : prgF less other l = rngF (fun x => !other x.word) l := by
  have hd := dropWhile_all (p := fun x : Post => less x.word) (R := ple) h1 hl
  have hds : SortedP (l.dropWhile fun x => less x.word) := hl.sublist (List.dropWhile_sublist _)
  generalize hB : l.dropWhile (fun x => less x.word) = B at *
  have hc : ∀ x ∈ B.dropWhile (fun x => !other x.word), (!other x.word) = false := by
    have key : ∀ {C : List Post}, SortedP C → (∀ x ∈ C, less x.word = false) → ∀ x ∈ C.dropWhile (fun x => !other x.word), (!other x.word) = false := by
      intro C
      induction C with
      | nil => intro _ _ x hx; simp at hx
      | cons y r ih =>
        intro hs hle x hx
        have hs' := List.pairwise_cons.1 hs
        rw [List.dropWhile_cons] at hx
        split at hx
        · exact ih hs'.2 (fun z hz => hle z (List.mem_cons_of_mem _ hz)) x hx
        · rename_i hy
          have hy' : other y.word = true := by simpa using hy
          rcases List.mem_cons.1 hx with rfl | hx
          · simp [hy']
          · simp [h3 y x (hs'.1 x hx) (hle y List.mem_cons_self) hy']
    exact key hds hd
  have hl2 : l = l.takeWhile (fun x => less x.word) ++ (B.takeWhile (fun x => !other x.word) ++ B.dropWhile (fun x => !other x.word)) := by
    rw [List.takeWhile_append_dropWhile, ← hB, List.takeWhile_append_dropWhile]
  have hr := rngG_mid (fun x => !other x.word) (B.takeWhile (fun x => !other x.word)) (B.dropWhile (fun x => !other x.word)) (fun x hx => takeWhile_all x hx) hc (l.takeWhile (fun x => less x.word)) 0 (fun x hx => by
    have := takeWhile_all x hx
    simp [h2 x this])
  rw [← hl2] at hr
  unfold prgF rngF
  rw [hr]
  simp only [hB]
  by_cases he : B.takeWhile (fun x => !other x.word) = []
  · rw [if_pos (by rw [he]; rfl), if_pos he]
  · rw [if_neg (fun e => he (List.eq_nil_of_length_eq_zero e)), if_neg he, Nat.zero_add]
theorem ple_word {x y : Post} (h : ple x y) : lessB y.word x.word = false := by
  rw [ple_iff] at h
  rcases h with h | rfl
  · rw [pltB_iff] at h
    rcases h with h | ⟨h, -⟩
    · exact lessB_asymm h
    · rw [h]; exact lessB_irrefl _
  · exact lessB_irrefl _
theorem less_le {a b c : ByteArray} (h1 : lessB b a = false) (h2 : lessB a c = false) : lessB b c = false := by
  cases h : lessB b c
  · rfl
  · rcases lessB_tri a b with g | g | g
    · rw [lessB_trans g h] at h2; cases h2
    · rw [g, h] at h2; cases h2
    · rw [g] at h1; cases h1
/-- Find -/
theorem find_eq {l : List Post} (hl : SortedP l) (w : ByteArray) : prgF (fun x => lessB x w) (fun x => decide (x ≠ w)) l = rngF (fun x => decide (x.word = w)) l := by
  rw [prgF_eq hl]
  · congr 1
    funext x
    simp
  · intro x y h h1
    exact less_le (ple_word h) h1
  · intro x h
    simp only [decide_eq_true_eq]
    intro e
    rw [e, lessB_irrefl] at h
    cases h
  · intro x y h h1 h2
    simp only [decide_eq_true_eq] at *
    intro e
    subst e
    have := ple_word h
    rcases lessB_tri x.word y.word with g | g | g
    · rw [h1] at g; cases g
    · exact h2 g
    · rw [this] at g; cases g
/-- a text begins with another one -/
def pfxB (h s : ByteArray) : Bool := h.data.toList.isPrefixOf s.data.toList
theorem pfx_less : ∀ {h x : List UInt8}, h.isPrefixOf x = true → Op.bytesLess x h = false
  | [], [], _ => rfl
  | [], _ :: _, _ => rfl
  | a :: h, [], g => by simp [List.isPrefixOf] at g
  | a :: h, b :: x, g => by
    simp only [List.isPrefixOf, Bool.and_eq_true, beq_iff_eq] at g
    obtain ⟨rfl, g⟩ := g
    simp [Op.bytesLess, pfx_less g]
theorem pfx_mid : ∀ {h x y : List UInt8}, Op.bytesLess x h = false → Op.bytesLess y x = false → h.isPrefixOf y = true → h.isPrefixOf x = true
  | [], x, _, _, _, _ => by simp [List.isPrefixOf]
  | a :: h, [], _, g, _, _ => by simp [Op.bytesLess] at g
  | a :: h, _ :: _, [], _, _, g => by simp [List.isPrefixOf] at g
  | a :: h, b :: x, c :: y, g1, g2, g3 => by
    simp only [List.isPrefixOf, Bool.and_eq_true, beq_iff_eq] at g3 ⊢
    obtain ⟨rfl, g3⟩ := g3
    simp only [Op.bytesLess, Bool.or_eq_false_iff, decide_eq_false_iff_not, UInt8.lt_iff_toNat_lt] at g1 g2
    have e : b = a := UInt8.toNat_inj.1 (by omega)
    subst e
    refine ⟨rfl, pfx_mid ?_ ?_ g3⟩
    · simpa using g1.2
    · simpa using g2.2
theorem data_list (s : ByteArray) : s.toList = s.data.toList := ByteArray.toList_eq s
/-- Prefix -/
theorem prefix_eq {l : List Post} (hl : SortedP l) (w : ByteArray) : prgF (fun x => lessB x w) (fun x => !pfxB w x) l = rngF (fun x => pfxB w x.word) l := by
  rw [prgF_eq hl]
  · congr 1
    funext x
    simp
  · intro x y h h1
    exact less_le (ple_word h) h1
  · intro x h
    cases g : pfxB w x.word
    · rfl
    · have := pfx_less g
      unfold lessB at h
      rw [data_list, data_list, this] at h
      cases h
  · intro x y h h1 h2
    cases g : pfxB w y.word
    · rfl
    · have h3 := ple_word h
      unfold lessB at h1 h3
      rw [data_list, data_list] at h1 h3
      have : pfxB w x.word = true := pfx_mid h1 h3 g
      rw [this] at h2
      cases h2
/-- the words of a list -/
def wrdG : Option ByteArray → List Post → List ByteArray
  | _, [] => []
  | q, p :: r => if q = some p.word then wrdG q r else p.word :: wrdG (some p.word) r
def wrdL (l : List Post) : List ByteArray := wrdG none l
theorem wrdG_spec : ∀ {l : List Post} {q : Option ByteArray}, SortedP l → (∀ x ∈ q, ∀ p ∈ l, lessB p.word x = false) → (wrdG q l).Pairwise (fun a b => lessB a b = true) ∧ (∀ x ∈ q, ∀ y ∈ wrdG q l, lessB x y = true) ∧ (∀ y ∈ wrdG q l, ∃ p ∈ l, p.word = y) ∧ ∀ p ∈ l, q = some p.word ∨ p.word ∈ wrdG q l
  | [], _, _, _ => ⟨List.Pairwise.nil, fun x _ y h => by simp [wrdG] at h, fun y h => by simp [wrdG] at h, fun p h => by simp at h⟩
  | p :: r, q, hs, hq => by
    have hs' := List.pairwise_cons.1 hs
    unfold wrdG
    split
    · rename_i he
      obtain ⟨g1, g2, g3, g4⟩ := wrdG_spec (q := q) hs'.2 (fun x hx y hy => hq x hx y (List.mem_cons_of_mem _ hy))
      refine ⟨g1, g2, fun y hy => ?_, fun y hy => ?_⟩
      · obtain ⟨z, hz, e⟩ := g3 y hy
        exact ⟨z, List.mem_cons_of_mem _ hz, e⟩
      · rcases List.mem_cons.1 hy with rfl | hy
        · exact .inl he
        · exact g4 y hy
    · rename_i he
      obtain ⟨g1, g2, g3, g4⟩ := wrdG_spec (q := some p.word) hs'.2 (fun x hx y hy => by cases hx; exact ple_word (hs'.1 y hy))
      have hlt : ∀ x ∈ q, lessB x p.word = true := fun x hx => by
        have := hq x hx p List.mem_cons_self
        rcases lessB_tri x p.word with g | g | g
        · exact g
        · exact absurd (by rw [show q = some x from hx, g]) he
        · rw [this] at g; cases g
      refine ⟨List.pairwise_cons.2 ⟨fun y hy => g2 p.word rfl y hy, g1⟩, fun x hx y hy => ?_, fun y hy => ?_, fun y hy => ?_⟩
      · rcases List.mem_cons.1 hy with rfl | hy
        · exact hlt x hx
        · exact lessB_trans (hlt x hx) (g2 p.word rfl y hy)
      · rcases List.mem_cons.1 hy with rfl | hy
        · exact ⟨p, List.mem_cons_self, rfl⟩
        · obtain ⟨z, hz, e⟩ := g3 y hy
          exact ⟨z, List.mem_cons_of_mem _ hz, e⟩
      · right
        rcases List.mem_cons.1 hy with rfl | hy
        · exact List.mem_cons_self
        · rcases g4 y hy with h | h
          · injection h with h; rw [h]; exact List.mem_cons_self
          · exact List.mem_cons_of_mem _ h
theorem wrdL_spec {l : List Post} (hs : SortedP l) : (wrdL l).Pairwise (fun a b => lessB a b = true) ∧ (∀ y ∈ wrdL l, ∃ p ∈ l, p.word = y) ∧ ∀ p ∈ l, p.word ∈ wrdL l := by
  obtain ⟨h1, _, h3, h4⟩ := wrdG_spec (l := l) (q := none) hs (fun x hx => by cases hx)
  exact ⟨h1, h3, fun p hp => (h4 p hp).resolve_left (by simp)⟩
end Go.Proofs.Ytpfngehledgkiaa
