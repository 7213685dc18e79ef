/- Searching in plain words: what is found, in which order, and what pages and suggestions are. Suggestions in plain words: as the program makes them, as the reference makes them. -/
import Derived.Test.YtngodakkdhdmjaaGreatDoorQrs
import Derived.Test.YtngodakkdhdmjaaGreatDoorOfq
import Derived.Test.YtngodakkdhdmjaaGreatDoorBld
import Derived.Test.YtngodakkdhdmjaaGreatDoorPus
namespace Go.Proofs.YtngodakkdhdmjaaGreatDoor
section
open Go.RowKit

section
variable {α : Type} (le : α → α → Bool)
def insG : List α → α → List α
  | [], p => [p]
  | x :: l, p => if le x p then x :: insG l p else p :: x :: l
def sortG (l : List α) : List α := l.foldl (insG le) []
variable {le}
theorem insG_perm : ∀ (l : List α) (p : α), (insG le l p).Perm (p :: l)
  | [], p => List.Perm.refl _
  | x :: l, p => by
    unfold insG
    split
    · exact ((insG_perm l p).cons x).trans (List.Perm.swap p x l)
    · exact List.Perm.refl _
theorem insG_sorted (tr : ∀ a b c, le a b = true → le b c = true → le a c = true) (tt : ∀ a b, le a b = true ∨ le b a = true) : ∀ (l : List α) (p : α), l.Pairwise (fun a b => le a b = true) → (insG le l p).Pairwise (fun a b => le a b = true)
  | [], p, _ => by simp [insG]
  | x :: l, p, h => by
    rw [List.pairwise_cons] at h
    unfold insG
    split
    · rename_i hx
      rw [List.pairwise_cons]
      refine ⟨fun y hy => ?_, insG_sorted tr tt l p h.2⟩
      rcases List.mem_cons.1 ((insG_perm l p).mem_iff.1 hy) with rfl | hy
      · exact hx
      · exact h.1 y hy
    · rename_i hx
      have hpx : le p x = true := (tt p x).resolve_right hx
      rw [List.pairwise_cons]
      refine ⟨fun y hy => ?_, List.pairwise_cons.2 h⟩
      rcases List.mem_cons.1 hy with rfl | hy
      · exact hpx
      · exact tr _ _ _ hpx (h.1 y hy)
theorem foldG_perm : ∀ (l m : List α), (l.foldl (insG le) m).Perm (m ++ l)
  | [], m => by simp
  | x :: l, m => by
    rw [List.foldl_cons]
    refine (foldG_perm l _).trans ?_
    refine ((insG_perm m x).append_right l).trans ?_
    rw [List.cons_append]
    exact (List.perm_middle (a := x) (l₁ := m) (l₂ := l)).symm
theorem sortG_perm (l : List α) : (sortG le l).Perm l := by
  have := foldG_perm (le := le) l []
  simpa [sortG] using this
theorem foldG_sorted (tr : ∀ a b c, le a b = true → le b c = true → le a c = true) (tt : ∀ a b, le a b = true ∨ le b a = true) : ∀ (l m : List α), m.Pairwise (fun a b => le a b = true) → (l.foldl (insG le) m).Pairwise (fun a b => le a b = true)
  | [], _, h => h
  | x :: l, m, h => foldG_sorted tr tt l _ (insG_sorted tr tt m x h)
theorem sortG_sorted (tr : ∀ a b c, le a b = true → le b c = true → le a c = true) (tt : ∀ a b, le a b = true ∨ le b a = true) (l : List α) : (sortG le l).Pairwise (fun a b => le a b = true) := foldG_sorted tr tt l [] List.Pairwise.nil
theorem sortG_of (tr : ∀ a b c, le a b = true → le b c = true → le a c = true) (tt : ∀ a b, le a b = true ∨ le b a = true) (an : ∀ a b, le a b = true → le b a = true → a = b) {l m : List α} (hm : m.Pairwise (fun a b => le a b = true)) (h : m.Perm l) : m = sortG le l :=
  List.Perm.eq_of_pairwise (fun a b _ _ => an a b) hm (sortG_sorted tr tt l) (h.trans (sortG_perm l).symm)
end

/-- a hit comes ahead of another one -/
def hleB (a b : Hit) : Bool := decide (b.score < a.score) || (decide (a.score = b.score) && decide (a.unit ≤ b.unit))
theorem hle_tr (a b c : Hit) (h1 : hleB a b = true) (h2 : hleB b c = true) : hleB a c = true := by
  unfold hleB at *
  simp only [Bool.or_eq_true, Bool.and_eq_true, decide_eq_true_eq] at *
  omega
theorem hle_to (a b : Hit) : hleB a b = true ∨ hleB b a = true := by
  unfold hleB
  simp only [Bool.or_eq_true, Bool.and_eq_true, decide_eq_true_eq]
  omega
theorem hle_an (a b : Hit) (h1 : hleB a b = true) (h2 : hleB b a = true) : a = b := by
  unfold hleB at *
  simp only [Bool.or_eq_true, Bool.and_eq_true, decide_eq_true_eq] at *
  cases a; cases b
  simp only at h1 h2
  congr 1 <;> omega
def sortH (l : List Hit) : List Hit := sortG hleB l
/-- whether a unit matches a node -/
def leafB (c : Cat) (s : ByteArray) (und : Int → Int → Bool) (x : Sheet) (a : Ask) : Bool := if a.op = 4 then decide (x.level = a.num) else if a.op = 5 then und a.num x.unit else fndB (fldF c s x) a
def mchB (c : Cat) (s : ByteArray) (und : Int → Int → Bool) (Q : Qt) (x : Sheet) : Bool := evQ (leafB c s und x) Q
def hitF (l : List Post) (Q : Qt) (x : Sheet) : Hit := ⟨x.unit, scoF (supF l x.unit (posQ Q))⟩
def hitsF (c : Cat) (s : ByteArray) (und : Int → Int → Bool) (l : List Post) (Q : Qt) (xs : List Sheet) : List Hit := (xs.filter (mchB c s und Q)).map (hitF l Q)
def findE (c : Cat) (s : ByteArray) (l : List Post) (q : List Ask) : Int :=
  if catE c ≠ 0 ∨ askE q ≠ 0 then 1 else if hasS c.langs s = false then 10 else if buildE c s ≠ 0 ∨ eqL eqPost (buildF c s) l = false then 11 else 0
def findL (c : Cat) (s : ByteArray) (und : Int → Int → Bool) (l : List Post) (q : List Ask) (Q : Qt) : List Hit := if findE c s l q = 0 then sortH (hitsF c s und l Q c.sheets) else []

/-- the hits from an index on, at most n of them -/
def pageF (h : List Hit) (fr n : Int) : List Hit := if fr < 0 ∨ (h.length : Int) ≤ fr ∨ n < 1 then [] else (h.drop fr.toNat).take n.toNat
end
section
open Go.RowKit

def cntN (l : List Post) (x : ByteArray) : Nat := l.countP fun p => decide (p.word = x)
theorem cntN_snoc (l : List Post) (p : Post) (x : ByteArray) : cntN (l ++ [p]) x = if p.word = x then cntN l x + 1 else cntN l x := by
  unfold cntN
  rw [List.countP_append, List.countP_cons, List.countP_nil]
  by_cases h : p.word = x <;> simp [h]
def sleB (l : List Post) (a b : ByteArray) : Bool := decide (cntN l b < cntN l a) || (decide (cntN l a = cntN l b) && !lessB b a)
theorem sle_iff (l : List Post) (a b : ByteArray) : sleB l a b = true ↔ cntN l b < cntN l a ∨ (cntN l a = cntN l b ∧ lessB b a = false) := by
  unfold sleB
  simp only [Bool.or_eq_true, Bool.and_eq_true, decide_eq_true_eq, Bool.not_eq_true']
theorem sle_tr (l : List Post) (a b c : ByteArray) (h1 : sleB l a b = true) (h2 : sleB l b c = true) : sleB l a c = true := by
  rw [sle_iff] at *
  rcases h1 with h1 | ⟨h1, g1⟩ <;> rcases h2 with h2 | ⟨h2, g2⟩
  · left; omega
  · left; omega
  · left; omega
  · refine .inr ⟨by omega, ?_⟩
    exact less_le g2 g1
theorem sle_to (l : List Post) (a b : ByteArray) : sleB l a b = true ∨ sleB l b a = true := by
  rw [sle_iff, sle_iff]
  rcases Nat.lt_trichotomy (cntN l a) (cntN l b) with h | h | h
  · exact .inr (.inl h)
  · cases hl : lessB b a
    · exact .inl (.inr ⟨h, rfl⟩)
    · exact .inr (.inr ⟨h.symm, lessB_asymm hl⟩)
  · exact .inl (.inl h)
theorem sle_an (l : List Post) (a b : ByteArray) (h1 : sleB l a b = true) (h2 : sleB l b a = true) : a = b := by
  rw [sle_iff] at *
  rcases h1 with h1 | ⟨e1, h1⟩ <;> rcases h2 with h2 | ⟨e2, h2⟩
  · omega
  · omega
  · omega
  · rcases lessB_tri a b with h | h | h
    · rw [h] at h2; cases h2
    · exact h
    · rw [h] at h1; cases h1
/-- the words of some postings, each once, as they are met -/
def wlF (l : List Post) : List ByteArray := l.foldl (fun o p => if hasS o p.word = true then o else o ++ [p.word]) []
theorem wlF_snoc (l : List Post) (p : Post) : wlF (l ++ [p]) = if hasS (wlF l) p.word = true then wlF l else wlF l ++ [p.word] := by
  unfold wlF
  rw [List.foldl_append]
  rfl
theorem take_ind {α : Type} {P : List α → Prop} (h0 : P []) (hs : ∀ l p, P l → P (l ++ [p])) (l : List α) : P l := by
  have : ∀ k, k ≤ l.length → P (l.take k) := by
    intro k
    induction k with
    | zero => intro _; simpa using h0
    | succ k ih =>
      intro hk
      obtain ⟨x, hx⟩ := get_at l (show k < l.length by omega)
      rw [take_at hx]
      exact hs _ _ (ih (by omega))
  simpa using this l.length (Nat.le_refl _)
theorem wlF_mem (l : List Post) : ∀ x, x ∈ wlF l ↔ 0 < cntN l x := by
  refine take_ind (P := fun l => ∀ x, x ∈ wlF l ↔ 0 < cntN l x) (fun x => by simp [wlF, cntN]) (fun l p ih x => ?_) l
  rw [wlF_snoc, cntN_snoc]
  by_cases hx : p.word = x
  · rw [if_pos hx]
    subst hx
    constructor
    · intro _; omega
    · intro _
      split
      · rename_i h
        exact hasS_iff.1 h
      · simp
  · rw [if_neg hx, ← ih x]
    split
    · rfl
    · simp [Ne.symm hx]
theorem wlF_nodup (l : List Post) : (wlF l).Nodup := by
  refine take_ind (P := fun l => (wlF l).Nodup) (by simp [wlF]) (fun l p ih => ?_) l
  rw [wlF_snoc]
  split
  · exact ih
  · rename_i h
    rw [List.nodup_append]
    exact ⟨ih, by simp, fun a ha b hb => by simp at hb; subst hb; intro e; subst e; exact h (hasS_iff.2 ha)⟩
theorem wlF_len (l : List Post) : (wlF l).length ≤ l.length := by
  refine take_ind (P := fun l => (wlF l).length ≤ l.length) (by simp [wlF]) (fun l p ih => ?_) l
  rw [wlF_snoc, List.length_append, List.length_singleton]
  split
  · omega
  · rw [List.length_append, List.length_singleton]; omega
/-- the postings with a word that begins with a text -/
def segF (l : List Post) (h : ByteArray) : List Post := if chkL l = 0 then l.filter fun p => pfxB h p.word else []
def sugS (l : List Post) (h : ByteArray) : List ByteArray := sortG (sleB (segF l h)) (wlF (segF l h))
/-- the words that begin with a text and have the most postings -/
def sugF (l : List Post) (h : ByteArray) (n : Int) : List ByteArray := if n < 1 then [] else (sugS l h).take n.toNat
theorem seg_cnt {l : List Post} {h x : ByteArray} (h0 : chkL l = 0) (hx : pfxB h x = true) : cntN (segF l h) x = cntN l x := by
  unfold segF cntN
  rw [if_pos h0, List.countP_filter]
  congr 1
  funext p
  by_cases hp : p.word = x
  · simp [hp, hx]
  · simp [hp]
theorem cnt_pos {l : List Post} {x : ByteArray} : 0 < cntN l x ↔ ∃ p ∈ l, p.word = x := by
  unfold cntN
  rw [List.countP_pos_iff]
  simp
theorem sugS_mem {l : List Post} {h x : ByteArray} : x ∈ sugS l h ↔ ∃ p ∈ segF l h, p.word = x := by
  unfold sugS
  rw [(sortG_perm _).mem_iff, wlF_mem, cnt_pos]
theorem sugS_nodup (l : List Post) (h : ByteArray) : (sugS l h).Nodup := (sortG_perm (le := sleB (segF l h)) (wlF (segF l h))).nodup_iff.2 (wlF_nodup _)
theorem sugS_len (l : List Post) (h : ByteArray) : (sugS l h).length ≤ l.length := by
  unfold sugS
  rw [(sortG_perm _).length_eq]
  refine Nat.le_trans (wlF_len _) ?_
  unfold segF
  split
  · exact List.length_filter_le _ _
  · simp
/-- the best word of some, that is not among those that were taken -/
def bstG (l : List Post) (h : ByteArray) (out : List ByteArray) : ByteArray → Nat → List ByteArray → ByteArray × Nat
  | b, m, [] => (b, m)
  | b, m, x :: r => if pfxB h x = true ∧ m < cntN l x ∧ hasS out x = false then bstG l h out x (cntN l x) r else bstG l h out b m r
theorem bstG_spec (l : List Post) (h : ByteArray) (out : List ByteArray) : ∀ (ws : List ByteArray) (b : ByteArray) (m : Nat), ws.Pairwise (fun a b => lessB a b = true) →
    (bstG l h out b m ws = (b, m) ∧ ∀ x ∈ ws, pfxB h x = true → x ∉ out → cntN l x ≤ m) ∨
    ∃ b', bstG l h out b m ws = (b', cntN l b') ∧ b' ∈ ws ∧ pfxB h b' = true ∧ b' ∉ out ∧ m < cntN l b' ∧ ∀ x ∈ ws, pfxB h x = true → x ∉ out → cntN l x < cntN l b' ∨ (cntN l x = cntN l b' ∧ lessB x b' = false)
  | [], b, m, _ => .inl ⟨rfl, fun x hx => by cases hx⟩
  | x :: r, b, m, hs => by
    have hs' := List.pairwise_cons.1 hs
    have hno : ∀ y, hasS out y = false ↔ y ∉ out := fun y => by rw [← Bool.not_eq_true, hasS_iff]
    by_cases hc : pfxB h x = true ∧ m < cntN l x ∧ hasS out x = false
    · rw [bstG, if_pos hc]
      rcases bstG_spec l h out r x (cntN l x) hs'.2 with ⟨h1, h2⟩ | ⟨b', h1, h2, h3, h4, h5, h6⟩
      · refine .inr ⟨x, h1, List.mem_cons_self, hc.1, (hno x).1 hc.2.2, hc.2.1, fun y hy g1 g2 => ?_⟩
        rcases List.mem_cons.1 hy with rfl | hy
        · exact .inr ⟨rfl, by
            cases e : lessB y y
            · rfl
            · rw [lessB_asymm e] at e; cases e⟩
        · have := h2 y hy g1 g2
          rcases Nat.lt_or_ge (cntN l y) (cntN l x) with g | g
          · exact .inl g
          · exact .inr ⟨by omega, lessB_asymm (hs'.1 y hy)⟩
      · refine .inr ⟨b', h1, List.mem_cons_of_mem _ h2, h3, h4, by omega, fun y hy g1 g2 => ?_⟩
        rcases List.mem_cons.1 hy with rfl | hy
        · exact .inl h5
        · exact h6 y hy g1 g2
    · rw [bstG, if_neg hc]
      have hxm : pfxB h x = true → x ∉ out → cntN l x ≤ m := fun g1 g2 => by
        rcases Nat.lt_or_ge m (cntN l x) with g | g
        · exact absurd ⟨g1, g, (hno x).2 g2⟩ hc
        · exact g
      rcases bstG_spec l h out r b m hs'.2 with ⟨h1, h2⟩ | ⟨b', h1, h2, h3, h4, h5, h6⟩
      · refine .inl ⟨h1, fun y hy g1 g2 => ?_⟩
        rcases List.mem_cons.1 hy with rfl | hy
        · exact hxm g1 g2
        · exact h2 y hy g1 g2
      · refine .inr ⟨b', h1, List.mem_cons_of_mem _ h2, h3, h4, h5, fun y hy g1 g2 => ?_⟩
        rcases List.mem_cons.1 hy with rfl | hy
        · have := hxm g1 g2
          exact .inl (by omega)
        · exact h6 y hy g1 g2
theorem sug_cand {l : List Post} (h0 : chkL l = 0) (h x : ByteArray) : x ∈ sugS l h ↔ x ∈ wrdL l ∧ pfxB h x = true := by
  obtain ⟨-, g2, g3⟩ := wrdL_spec (strict_sorted (chkL_zero h0).2.2)
  rw [sugS_mem]
  unfold segF
  rw [if_pos h0]
  constructor
  · rintro ⟨p, hp, rfl⟩
    rw [List.mem_filter] at hp
    exact ⟨g3 p hp.1, hp.2⟩
  · rintro ⟨hx, hp⟩
    obtain ⟨p, hp', rfl⟩ := g2 x hx
    exact ⟨p, List.mem_filter.2 ⟨hp', hp⟩, rfl⟩
/-- one word more of the reference's -/
theorem sug_step {l : List Post} (h0 : chkL l = 0) (h : ByteArray) (k : Nat) :
    (k < (sugS l h).length → (bstG l h ((sugS l h).take k) ⟨#[]⟩ 0 (wrdL l)).2 ≠ 0 ∧ (sugS l h).take k ++ [(bstG l h ((sugS l h).take k) ⟨#[]⟩ 0 (wrdL l)).1] = (sugS l h).take (k + 1)) ∧
    ((sugS l h).length ≤ k → (bstG l h ((sugS l h).take k) ⟨#[]⟩ 0 (wrdL l)).2 = 0) := by
  obtain ⟨g1, g2, g3⟩ := wrdL_spec (strict_sorted (chkL_zero h0).2.2)
  have hpos : ∀ x ∈ wrdL l, 0 < cntN l x := fun x hx => by
    obtain ⟨p, hp, e⟩ := g2 x hx
    exact cnt_pos.2 ⟨p, hp, e⟩
  have hsort := sortG_sorted (sle_tr (segF l h)) (sle_to (segF l h)) (wlF (segF l h))
  have hsp := bstG_spec l h ((sugS l h).take k) (wrdL l) ⟨#[]⟩ 0 g1
  constructor
  · intro hk
    obtain ⟨s, hs⟩ := get_at _ hk
    have hsm := List.mem_of_getElem? hs
    have hsc := (sug_cand h0 h s).1 hsm
    have hso : s ∉ (sugS l h).take k := fun hm => by
      have hn := sugS_nodup l h
      rw [← List.take_append_drop k (sugS l h), List.nodup_append] at hn
      exact hn.2.2 s hm s (by rw [drop_at hs]; simp) rfl
    rcases hsp with ⟨h1, h2⟩ | ⟨b', h1, h2, h3, h4, h5, h6⟩
    · have := h2 s hsc.1 hsc.2 hso
      have := hpos s hsc.1
      omega
    · rw [h1]
      refine ⟨by show cntN l b' ≠ 0; omega, ?_⟩
      show _ ++ [b'] = _
      have hbs : b' ∈ sugS l h := (sug_cand h0 h b').2 ⟨h2, h3⟩
      have hbd : b' ∈ (sugS l h).drop k := by
        rw [← List.take_append_drop k (sugS l h)] at hbs
        exact (List.mem_append.1 hbs).resolve_left h4
      have hsb : sleB (segF l h) s b' = true := by
        rw [drop_at hs] at hbd
        rcases List.mem_cons.1 hbd with rfl | hbd
        · rcases sle_to (segF l h) b' b' with g | g <;> exact g
        · have hd := hsort.drop (i := k)
          rw [show sortG (sleB (segF l h)) (wlF (segF l h)) = sugS l h from rfl, drop_at hs, List.pairwise_cons] at hd
          exact hd.1 b' hbd
      have hbs2 : sleB (segF l h) b' s = true := by
        rw [sle_iff, seg_cnt h0 h3, seg_cnt h0 hsc.2]
        rcases h6 s hsc.1 hsc.2 hso with g | ⟨g, g'⟩
        · exact .inl g
        · exact .inr ⟨g.symm, g'⟩
      rw [take_at hs, sle_an _ _ _ hsb hbs2]
  · intro hk
    rw [List.take_of_length_le hk] at hsp ⊢
    rcases hsp with ⟨h1, -⟩ | ⟨b', h1, h2, h3, h4, -⟩
    · rw [h1]
    · exact absurd ((sug_cand h0 h b').2 ⟨h2, h3⟩) h4
theorem rngG_cnt (p : Post → Bool) : ∀ (l : List Post) (i : Nat) (f : Int) (n : Nat), (rngG p i f n l).2 = n + l.countP p
  | [], i, f, n => by simp [rngG]
  | x :: r, i, f, n => by
    rw [rngG, List.countP_cons]
    split
    · rename_i h
      rw [rngG_cnt]; omega
    · rename_i h
      rw [rngG_cnt]; omega
theorem find_cnt {l : List Post} (h0 : chkL l = 0) (x : ByteArray) : (findF l x).2 = cntN l x := by
  unfold findF
  rw [if_neg (by simpa using h0)]
  unfold rngF
  rw [rngG_cnt, Nat.zero_add]
  rfl
end
end Go.Proofs.YtngodakkdhdmjaaGreatDoor
