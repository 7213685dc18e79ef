/- Chapter 16: parts, sums and differences in plain words. No program in it. -/
import Derived.Test.YtenaifmkejmdaaaGreatDoorPrsR
namespace Go.Proofs.YtenaifmkejmdaaaGreatDoor
open Go.RowKit

/-- the parts themselves -/
def grpG (most : Int) : List Item → List Item → List (List Item)
  | cur, [] => if cur = [] then [] else [cur]
  | cur, x :: r => if cur ≠ [] ∧ most < sumP cur + x.pages then cur :: grpG most [x] r else grpG most (cur ++ [x]) r
theorem foldl_add : ∀ (l : List Int) (a : Int), l.foldl (· + ·) a = a + l.foldl (· + ·) 0
  | [], a => by simp
  | x :: l, a => by
    rw [List.foldl_cons, List.foldl_cons, foldl_add l (a + x), foldl_add l (0 + x)]
    omega
theorem sumP_nil : sumP [] = 0 := rfl
theorem sumP_app (l m : List Item) : sumP (l ++ m) = sumP l + sumP m := by
  unfold sumP
  rw [List.map_append, List.foldl_append, foldl_add]
theorem sumP_one (x : Item) : sumP [x] = x.pages := by simp [sumP]
theorem part_grp (most : Int) : ∀ (r cur : List Item), partG most cur.length (sumP cur) r = (grpG most cur r).map fun g => (g.length : Int)
  | [], cur => by
    unfold partG grpG
    cases cur <;> simp
  | x :: r, cur => by
    unfold partG grpG
    have h1 := part_grp most r [x]
    have h2 := part_grp most r (cur ++ [x])
    rw [sumP_one] at h1
    rw [sumP_app, sumP_one, List.length_append] at h2
    by_cases h : cur ≠ [] ∧ most < sumP cur + x.pages
    · rw [if_pos h, if_pos ⟨List.length_pos_iff.2 h.1, h.2⟩, List.map_cons, ← h1]
      rfl
    · rw [if_neg h, if_neg (fun e => h ⟨List.length_pos_iff.1 e.1, e.2⟩), ← h2]
      rfl
theorem grp_flat (most : Int) : ∀ (r cur : List Item), (grpG most cur r).flatten = cur ++ r
  | [], cur => by
    unfold grpG
    by_cases h : cur = []
    · subst h; simp
    · rw [if_neg h]; simp
  | x :: r, cur => by
    unfold grpG
    by_cases h : cur ≠ [] ∧ most < sumP cur + x.pages
    · rw [if_pos h, List.flatten_cons, grp_flat most r [x]]; simp
    · rw [if_neg h, grp_flat most r (cur ++ [x])]; simp
/-- what is said of the parts: none is empty, none has too many pages, and none can take the first item of the next one -/
def GrpOk (most : Int) : List (List Item) → Prop
  | [] => True
  | [g] => g ≠ [] ∧ sumP g ≤ most
  | g :: g2 :: gs => g ≠ [] ∧ sumP g ≤ most ∧ (∀ x, g2.head? = some x → most < sumP g + x.pages) ∧ GrpOk most (g2 :: gs)
theorem grp_head (most : Int) : ∀ (r cur : List Item) (y : Item), cur.head? = some y → ∃ g gs, grpG most cur r = g :: gs ∧ g.head? = some y
  | [], cur, y, h => by
    unfold grpG
    rw [if_neg (fun e => by rw [e] at h; cases h)]
    exact ⟨cur, [], rfl, h⟩
  | x :: r, cur, y, h => by
    unfold grpG
    by_cases hc : cur ≠ [] ∧ most < sumP cur + x.pages
    · rw [if_pos hc]
      exact ⟨cur, _, rfl, h⟩
    · rw [if_neg hc]
      refine grp_head most r (cur ++ [x]) y ?_
      cases cur with
      | nil => cases h
      | cons z t => simpa using h
theorem grp_ok (most : Int) : ∀ (r cur : List Item), (∀ x ∈ r, x.pages ≤ most) → (cur ≠ [] → sumP cur ≤ most) → GrpOk most (grpG most cur r)
  | [], cur, _, hc => by
    unfold grpG
    by_cases h : cur = []
    · rw [if_pos h]; trivial
    · rw [if_neg h]; exact ⟨h, hc h⟩
  | x :: r, cur, hr, hc => by
    unfold grpG
    have hx := hr x (by simp)
    by_cases h : cur ≠ [] ∧ most < sumP cur + x.pages
    · rw [if_pos h]
      obtain ⟨g, gs, e, hg⟩ := grp_head most r [x] x rfl
      have ih := grp_ok most r [x] (fun y hy => hr y (by simp [hy])) (fun _ => by rw [sumP_one]; exact hx)
      rw [e] at ih ⊢
      exact ⟨h.1, hc h.1, fun y hy => by rw [hg] at hy; injection hy with hy; subst hy; exact h.2, ih⟩
    · rw [if_neg h]
      refine grp_ok most r (cur ++ [x]) (fun y hy => hr y (by simp [hy])) (fun _ => ?_)
      rw [sumP_app, sumP_one]
      by_cases hn : cur = []
      · subst hn; rw [sumP_nil]; omega
      · have : ¬ most < sumP cur + x.pages := fun e => h ⟨hn, e⟩
        omega
/-- the law of parts, on numbers: from an index on, what is left of the list and of the parts -/
theorem parts_at (most : Int) : ∀ (gs : List (List Item)), GrpOk most gs → ∀ (i : Nat) (g : List Item), gs[i]? = some g → g ≠ [] ∧ sumP g ≤ most ∧ ∀ g2, gs[i + 1]? = some g2 → g2 ≠ [] ∧ ∀ x, g2.head? = some x → most < sumP g + x.pages
  | [], _, i, g, h => by simp at h
  | [g0], hk, i, g, h => by
    cases i with
    | zero =>
      simp at h
      subst h
      exact ⟨hk.1, hk.2, fun g2 h2 => by simp at h2⟩
    | succ i => simp at h
  | g0 :: g1 :: gs, hk, i, g, h => by
    cases i with
    | zero =>
      simp at h
      subst h
      have h1 := parts_at most (g1 :: gs) hk.2.2.2 0 g1 rfl
      exact ⟨hk.1, hk.2.1, fun g2 h2 => by simp at h2; subst h2; exact ⟨h1.1, hk.2.2.1⟩⟩
    | succ i => exact parts_at most (g1 :: gs) hk.2.2.2 i g (by simpa using h)
theorem div_parts {l : TL} {p : Int} (h : divE l p = 0) : ∃ gs, divF l p = gs.map (fun g => (g.length : Int)) ∧ gs.flatten = l.items ∧ GrpOk p gs := by
  refine ⟨grpG p [] l.items, ?_, by simpa using grp_flat p l.items [], grp_ok p l.items [] (fun x hx => ?_) (fun h => absurd rfl h)⟩
  · unfold divF
    rw [if_pos h]
    exact part_grp p l.items []
  · unfold divE at h
    split at h
    · cases h
    · split at h
      · cases h
      · split at h
        · cases h
        · rename_i h3
          have : ¬ p < x.pages := fun e => h3 (List.any_eq_true.2 ⟨x, hx, by simpa using e⟩)
          omega
/-- the first and the last day of all items -/
theorem minG_le : ∀ (l : List Item) (a : Int), minG a l ≤ a ∧ ∀ x ∈ l, minG a l ≤ x.first
  | [], a => ⟨Int.le_refl _, by simp⟩
  | x :: l, a => by
    obtain ⟨h1, h2⟩ := minG_le l (min a x.first)
    show minG (min a x.first) l ≤ a ∧ _
    refine ⟨by omega, fun y hy => ?_⟩
    show minG (min a x.first) l ≤ y.first
    rcases List.mem_cons.1 hy with rfl | hy
    · omega
    · exact h2 y hy
theorem maxG_le : ∀ (l : List Item) (a : Int), a ≤ maxG a l ∧ ∀ x ∈ l, x.last ≤ maxG a l
  | [], a => ⟨Int.le_refl _, by simp⟩
  | x :: l, a => by
    obtain ⟨h1, h2⟩ := maxG_le l (max a x.last)
    show a ≤ maxG (max a x.last) l ∧ _
    refine ⟨by omega, fun y hy => ?_⟩
    show y.last ≤ maxG (max a x.last) l
    rcases List.mem_cons.1 hy with rfl | hy
    · omega
    · exact h2 y hy
theorem minG_hit : ∀ (l : List Item) (a : Int), minG a l = a ∨ ∃ x ∈ l, x.first = minG a l
  | [], a => .inl rfl
  | x :: l, a => by
    rcases minG_hit l (min a x.first) with h | ⟨y, hy, h⟩
    · by_cases hm : a ≤ x.first
      · exact .inl (by show minG (min a x.first) l = a; omega)
      · exact .inr ⟨x, by simp, by show x.first = minG (min a x.first) l; omega⟩
    · exact .inr ⟨y, by simp [hy], h⟩
theorem maxG_hit : ∀ (l : List Item) (a : Int), maxG a l = a ∨ ∃ x ∈ l, x.last = maxG a l
  | [], a => .inl rfl
  | x :: l, a => by
    rcases maxG_hit l (max a x.last) with h | ⟨y, hy, h⟩
    · by_cases hm : x.last ≤ a
      · exact .inl (by show maxG (max a x.last) l = a; omega)
      · exact .inr ⟨x, by simp, by show x.last = maxG (max a x.last) l; omega⟩
    · exact .inr ⟨y, by simp [hy], h⟩
/-- numbers ascend -/
theorem chkG_asc : ∀ (r : List Item) (i : Nat) (q : Option Int) (fs : List Int), (chkG i q fs r).2 = 0 → r.Pairwise (fun x y => x.number < y.number) ∧ ∀ n ∈ q, ∀ x ∈ r, n < x.number
  | [], _, _, _, _ => ⟨List.Pairwise.nil, by simp⟩
  | x :: r, i, q, fs, h => by
    unfold chkG at h
    by_cases h1 : itemE x ≠ 0
    · rw [if_pos h1] at h; exact absurd h h1
    · rw [if_neg h1] at h
      by_cases h2 : (q.any fun n => decide (x.number ≤ n)) = true
      · rw [if_pos h2] at h; cases h
      · rw [if_neg h2] at h
        by_cases h3 : x.file ∈ fs
        · rw [if_pos h3] at h; cases h
        · rw [if_neg h3] at h
          obtain ⟨h4, h5⟩ := chkG_asc r _ _ _ h
          have hx : ∀ y ∈ r, x.number < y.number := fun y hy => h5 x.number rfl y hy
          refine ⟨List.pairwise_cons.2 ⟨hx, h4⟩, fun n hn y hy => ?_⟩
          have hq : n < x.number := by
            rw [Option.mem_def] at hn
            subst hn
            simp at h2
            omega
          rcases List.mem_cons.1 hy with rfl | hy
          · exact hq
          · have := hx y hy; omega
theorem eqItem_iff (x y : Item) : eqItem x y = true ↔ x = y := by
  cases x; cases y
  simp [eqItem, and_assoc]
theorem eqO_iff (x y : Option Item) : eqO x y = true ↔ x = y := by
  cases x <;> cases y <;> simp [eqO, eqItem_iff]
theorem findO_none {l : List Item} {n : Int} : findO l n = none ↔ ∀ x ∈ l, x.number ≠ n := by
  unfold findO
  simp
theorem findO_mem {l : List Item} {n : Int} {x : Item} (h : findO l n = some x) : x ∈ l ∧ x.number = n := by
  unfold findO at h
  exact ⟨List.mem_of_find?_eq_some h, by simpa using List.find?_some h⟩
theorem findO_at : ∀ {l : List Item} {x : Item}, l.Pairwise (fun x y => x.number < y.number) → x ∈ l → findO l x.number = some x
  | [], x, _, h => by simp at h
  | y :: l, x, hp, h => by
    obtain ⟨h1, h2⟩ := List.pairwise_cons.1 hp
    unfold findO
    rw [List.find?_cons]
    rcases List.mem_cons.1 h with rfl | h
    · simp
    · have := h1 x h
      rw [show decide (y.number = x.number) = false by simp; omega]
      exact findO_at h2 h
/-- two right lists differ nowhere exactly if their items are equal -/
theorem same_of_find : ∀ {l m : List Item}, l.Pairwise (fun x y => x.number < y.number) → m.Pairwise (fun x y => x.number < y.number) → (∀ n, findO l n = findO m n) → l = m
  | [], [], _, _, _ => rfl
  | [], y :: m, _, hm, h => by
    have := h y.number
    rw [findO_at hm (by simp)] at this
    cases this
  | x :: l, [], hl, _, h => by
    have := h x.number
    rw [findO_at hl (by simp)] at this
    cases this
  | x :: l, y :: m, hl, hm, h => by
    obtain ⟨l1, l2⟩ := List.pairwise_cons.1 hl
    obtain ⟨m1, m2⟩ := List.pairwise_cons.1 hm
    have hx := h x.number
    rw [findO_at hl (by simp)] at hx
    have hy := h y.number
    rw [findO_at hm (by simp)] at hy
    have hxm := (findO_mem hx.symm).1
    have hyl := (findO_mem hy).1
    have hxy : x = y := by
      rcases List.mem_cons.1 hxm with e | e
      · exact e
      · rcases List.mem_cons.1 hyl with e2 | e2
        · exact e2.symm
        · have := l1 y e2
          have := m1 x e
          omega
    subst hxy
    rw [same_of_find l2 m2 (fun n => ?_)]
    have hn := h n
    unfold findO at hn ⊢
    rw [List.find?_cons, List.find?_cons] at hn
    by_cases e : x.number = n
    · have k1 : List.find? (fun z : Item => decide (z.number = n)) l = none := List.find?_eq_none.2 (fun z hz => by have := l1 z hz; simp; omega)
      have k2 : List.find? (fun z : Item => decide (z.number = n)) m = none := List.find?_eq_none.2 (fun z hz => by have := m1 z hz; simp; omega)
      rw [k1, k2]
    · rw [show decide (x.number = n) = false by simpa using e] at hn
      exact hn
/-- the numbers at which two lists differ, in ascending order -/
def difF (a b : List Item) : List Int := (List.range 9999).filterMap fun i : Nat => if difB a b ((i : Int) + 1) then some ((i : Int) + 1) else none
theorem difF_asc (a b : List Item) : (difF a b).Pairwise (· < ·) := by
  unfold difF
  refine List.Pairwise.filterMap _ (R := (· < ·)) ?_ List.pairwise_lt_range
  intro i j hij x hx y hy
  split at hx
  · split at hy
    · injection hx with hx
      injection hy with hy
      omega
    · cases hy
  · cases hx
theorem difF_mem (a b : List Item) (n : Int) : n ∈ difF a b ↔ (1 ≤ n ∧ n ≤ 9999) ∧ difB a b n = true := by
  unfold difF
  rw [List.mem_filterMap]
  constructor
  · rintro ⟨i, hi, h⟩
    rw [List.mem_range] at hi
    split at h
    · rename_i hd
      injection h with h
      subst h
      exact ⟨⟨by omega, by omega⟩, hd⟩
    · cases h
  · rintro ⟨⟨h1, h2⟩, h3⟩
    refine ⟨(n - 1).toNat, by rw [List.mem_range]; omega, ?_⟩
    rw [show (((n - 1).toNat : Nat) : Int) + 1 = n by omega, h3]
    rfl
theorem difB_comm (a b : List Item) (n : Int) : difB a b n = difB b a n := by
  unfold difB
  congr 1
  rw [Bool.eq_iff_iff, eqO_iff, eqO_iff]
  exact eq_comm
theorem difF_comm (a b : List Item) : difF a b = difF b a := by
  unfold difF
  congr 1
  funext i
  rw [difB_comm]
theorem difB_num {a b : List Item} {n : Int} (h : difB a b n = true) : (∃ x ∈ a, x.number = n) ∨ ∃ x ∈ b, x.number = n := by
  unfold difB at h
  cases ha : findO a n with
  | some x => exact .inl ⟨x, findO_mem ha⟩
  | none =>
    cases hb : findO b n with
    | some x => exact .inr ⟨x, findO_mem hb⟩
    | none => rw [ha, hb] at h; cases h
theorem dif_none {a b : TL} (ha : rightB a = true) (hb : rightB b = true) : difF a.items b.items = [] ↔ a.items = b.items := by
  have oa := right_ok ha
  have ob := right_ok hb
  have pa := (chkG_asc _ _ _ _ oa.chk).1
  have pb := (chkG_asc _ _ _ _ ob.chk).1
  constructor
  · intro h
    refine same_of_find pa pb (fun n => ?_)
    by_cases hd : difB a.items b.items n = true
    · have hn : 1 ≤ n ∧ n ≤ 9999 := by
        rcases difB_num hd with ⟨x, hx, rfl⟩ | ⟨x, hx, rfl⟩
        · exact (oa.item x hx).number
        · exact (ob.item x hx).number
      have := (difF_mem a.items b.items n).2 ⟨hn, hd⟩
      rw [h] at this
      simp at this
    · unfold difB at hd
      simp only [Bool.not_eq_true', Bool.not_eq_false] at hd
      exact (eqO_iff _ _).1 hd
  · intro h
    rw [h]
    refine List.eq_nil_iff_forall_not_mem.2 (fun n hn => ?_)
    have := ((difF_mem _ _ n).1 hn).2
    unfold difB at this
    rw [(eqO_iff _ _).2 rfl] at this
    cases this
end Go.Proofs.YtenaifmkejmdaaaGreatDoor
