/- Plain: a search in breadth finds, for each state that can be reached, the first one of the shortest plans. No program is in it. -/
namespace Go.Proofs.Ythabpkigflldmaa

section
variable {σ γ : Type} [DecidableEq σ]

/-- the steps of a list lead from a state to another one -/
def Leads (nbr : σ → List (γ × σ)) (s : σ) : List γ → σ → Prop
  | [], t => s = t
  | c :: r, t => ∃ x, (c, x) ∈ nbr s ∧ Leads nbr x r t
omit [DecidableEq σ] in
theorem leads_append (nbr : σ → List (γ × σ)) : ∀ (p q : List γ) (s t : σ), Leads nbr s (p ++ q) t ↔ ∃ y, Leads nbr s p y ∧ Leads nbr y q t
  | [], q, s, t => by simp [Leads]
  | c :: p, q, s, t => by
    simp only [List.cons_append, Leads, leads_append nbr p q]
    constructor
    · rintro ⟨x, h1, y, h2, h3⟩; exact ⟨y, ⟨x, h1, h2⟩, h3⟩
    · rintro ⟨y, ⟨x, h1, h2⟩, h3⟩; exact ⟨x, h1, y, h2, h3⟩
omit [DecidableEq σ] in
theorem leads_snoc (nbr : σ → List (γ × σ)) (p : List γ) (c : γ) (s t : σ) : Leads nbr s (p ++ [c]) t ↔ ∃ y, Leads nbr s p y ∧ (c, t) ∈ nbr y := by
  rw [leads_append]
  simp [Leads]

def expand (p : List γ) : List (γ × σ) → List (σ × List γ) → List (σ × List γ)
  | [], out => out
  | (c, x) :: r, out => if x ∈ out.map Prod.fst then expand p r out else expand p r (out ++ [(x, p ++ [c])])
def bfs (nbr : σ → List (γ × σ)) : Nat → Nat → List (σ × List γ) → List (σ × List γ)
  | 0, _, out => out
  | f + 1, k, out => match out[k]? with
    | none => out
    | some (s, p) => bfs nbr f (k + 1) (expand p (nbr s) out)

variable (lt : γ → γ → Prop)
def lexlt : List γ → List γ → Prop
  | a :: p, b :: q => lt a b ∨ (a = b ∧ lexlt p q)
  | _, _ => False
def slt (p q : List γ) : Prop := p.length < q.length ∨ (p.length = q.length ∧ lexlt lt p q)
variable {lt}
theorem lexlt_irrefl (hi : ∀ a, ¬ lt a a) : ∀ p : List γ, ¬ lexlt lt p p
  | [], h => h
  | a :: p, h => by
    rcases h with h | ⟨_, h⟩
    · exact hi a h
    · exact lexlt_irrefl hi p h
theorem lexlt_trans (ht : ∀ a b c, lt a b → lt b c → lt a c) : ∀ p q r : List γ, lexlt lt p q → lexlt lt q r → lexlt lt p r
  | [], _, _, h, _ => h.elim
  | a :: p, [], _, h, _ => h.elim
  | a :: p, b :: q, [], _, h => h.elim
  | a :: p, b :: q, c :: r, h1, h2 => by
    rcases h1 with h1 | ⟨rfl, h1⟩
    · rcases h2 with h2 | ⟨rfl, h2⟩
      · exact .inl (ht _ _ _ h1 h2)
      · exact .inl h1
    · rcases h2 with h2 | ⟨rfl, h2⟩
      · exact .inl h2
      · exact .inr ⟨rfl, lexlt_trans ht p q r h1 h2⟩
theorem lexlt_snoc : ∀ (p q : List γ) (c d : γ), lexlt lt p q → lexlt lt (p ++ [c]) (q ++ [d])
  | [], _, _, _, h => h.elim
  | a :: p, [], _, _, h => h.elim
  | a :: p, b :: q, c, d, h => by
    rcases h with h | ⟨rfl, h⟩
    · exact .inl h
    · exact .inr ⟨rfl, lexlt_snoc p q c d h⟩
theorem lexlt_last : ∀ (p : List γ) (c d : γ), lt c d → lexlt lt (p ++ [c]) (p ++ [d])
  | [], _, _, h => .inl h
  | _ :: p, c, d, h => .inr ⟨rfl, lexlt_last p c d h⟩
theorem slt_irrefl (hi : ∀ a, ¬ lt a a) (p : List γ) : ¬ slt lt p p := by
  rintro (h | ⟨_, h⟩)
  · omega
  · exact lexlt_irrefl hi p h
theorem slt_trans (ht : ∀ a b c, lt a b → lt b c → lt a c) {p q r : List γ} (h1 : slt lt p q) (h2 : slt lt q r) : slt lt p r := by
  rcases h1 with h1 | ⟨e1, h1⟩ <;> rcases h2 with h2 | ⟨e2, h2⟩
  · exact .inl (by omega)
  · exact .inl (by omega)
  · exact .inl (by omega)
  · exact .inr ⟨by omega, lexlt_trans ht p q r h1 h2⟩
theorem slt_snoc {p q : List γ} (c d : γ) (h : slt lt p q) : slt lt (p ++ [c]) (q ++ [d]) := by
  rcases h with h | ⟨e, h⟩
  · exact .inl (by simp; omega)
  · exact .inr ⟨by simp [e], lexlt_snoc p q c d h⟩
theorem slt_last (p : List γ) {c d : γ} (h : lt c d) : slt lt (p ++ [c]) (p ++ [d]) := .inr ⟨by simp, lexlt_last p c d h⟩
theorem slt_len {p q : List γ} (h : slt lt p q) : p.length ≤ q.length := by
  rcases h with h | ⟨e, _⟩ <;> omega

/-- what holds of the list of found states while entry k is worked on (its steps 'dn' are done) -/
structure BInv (lt : γ → γ → Prop) (nbr : σ → List (γ × σ)) (s0 : σ) (k : Nat) (s : σ) (p : List γ) (dn : List (γ × σ)) (out : List (σ × List γ)) : Prop where
  cur : out[k]? = some (s, p)
  sorted : out.Pairwise fun a b => slt lt a.2 b.2
  nodup : (out.map Prod.fst).Nodup
  leads : ∀ e ∈ out, Leads nbr s0 e.2 e.1
  closed : ∀ (j : Nat) (y : σ) (q : List γ), j < k → out[j]? = some (y, q) → ∀ c x, (c, x) ∈ nbr y → ∃ q', (x, q') ∈ out ∧ (q' = q ++ [c] ∨ slt lt q' (q ++ [c]))
  closed' : ∀ c x, (c, x) ∈ dn → ∃ q', (x, q') ∈ out ∧ (q' = p ++ [c] ∨ slt lt q' (p ++ [c]))
  parent : ∀ e ∈ out, e.2 = [] ∨ (∃ (j : Nat) (y : σ) (q : List γ) (c : γ), j < k ∧ out[j]? = some (y, q) ∧ e.2 = q ++ [c]) ∨ ∃ c x, (c, x) ∈ dn ∧ e.2 = p ++ [c]
  zero : (s0, []) ∈ out

theorem expand_one (nbr : σ → List (γ × σ)) (s0 : σ) (k : Nat) (s : σ) (p : List γ) (hasc : (nbr s).Pairwise (fun a b => lt a.1 b.1)) {dn rest r : List (γ × σ)} {c : γ} {x : σ} {out : List (σ × List γ)}
    (h : BInv lt nbr s0 k s p dn out) (hn0 : nbr s = dn ++ rest) (hr : rest = (c, x) :: r) : BInv lt nbr s0 k s p (dn ++ [(c, x)]) (if x ∈ out.map Prod.fst then out else out ++ [(x, p ++ [c])]) := by
    have hn : nbr s = dn ++ (c, x) :: r := by rw [hn0, hr]
    have hcx : (c, x) ∈ nbr s := by rw [hn]; simp
    have hlast : ∀ e ∈ out, slt lt e.2 (p ++ [c]) := by
      intro e he
      have hk := (List.getElem?_eq_some_iff.1 h.cur).1
      rcases h.parent e he with h1 | ⟨j, y, q, c', hj, hy, h1⟩ | ⟨c', x', hd, h1⟩
      · rw [h1]; exact .inl (by simp)
      · rw [h1]
        refine slt_snoc _ _ ?_
        obtain ⟨hj1, hj2⟩ := List.getElem?_eq_some_iff.1 hy
        obtain ⟨hk1, hk2⟩ := List.getElem?_eq_some_iff.1 h.cur
        have := List.pairwise_iff_getElem.1 h.sorted j k hj1 hk1 hj
        rw [hj2, hk2] at this
        exact this
      · rw [h1]
        refine slt_last p ?_
        rw [hn, List.pairwise_append] at hasc
        exact hasc.2.2 (c', x') hd (c, x) (by simp)
    by_cases hx : x ∈ out.map Prod.fst
    · rw [if_pos hx]
      refine ⟨h.cur, h.sorted, h.nodup, h.leads, h.closed, ?_, ?_, h.zero⟩
      · intro c' x' hd
        rw [List.mem_append] at hd
        rcases hd with hd | hd
        · exact h.closed' c' x' hd
        · simp at hd
          obtain ⟨rfl, rfl⟩ := hd
          obtain ⟨⟨x1, q'⟩, he, hxe⟩ := List.mem_map.1 hx
          simp only at hxe
          subst hxe
          exact ⟨q', he, .inr (hlast _ he)⟩
      · intro e he
        rcases h.parent e he with h1 | h1 | ⟨c', x', hd, h1⟩
        · exact .inl h1
        · exact .inr (.inl h1)
        · exact .inr (.inr ⟨c', x', by simp [hd], h1⟩)
    · rw [if_neg hx]
      have hat : ∀ (j : Nat) e, out[j]? = some e → (out ++ [(x, p ++ [c])])[j]? = some e := fun j e hj => by
        rw [List.getElem?_append_left (List.getElem?_eq_some_iff.1 hj).1]; exact hj
      have hk1 := (List.getElem?_eq_some_iff.1 h.cur).1
      have hold : ∀ (j : Nat) e, j < k → (out ++ [(x, p ++ [c])])[j]? = some e → out[j]? = some e := fun j e hj he => by
        rw [List.getElem?_append_left (by omega)] at he; exact he
      refine ⟨hat _ _ h.cur, ?_, ?_, ?_, ?_, ?_, ?_, ?_⟩
      · rw [List.pairwise_append]
        refine ⟨h.sorted, by simp, fun a ha b hb => ?_⟩
        simp at hb
        subst hb
        exact hlast a ha
      · rw [List.map_append, List.nodup_append]
        refine ⟨h.nodup, by simp, fun a ha b hb => ?_⟩
        simp at hb
        subst hb
        intro he
        subst he
        exact hx ha
      · intro e he
        rw [List.mem_append] at he
        rcases he with he | he
        · exact h.leads e he
        · simp at he
          subst he
          rw [leads_snoc]
          exact ⟨s, h.leads _ (List.mem_of_getElem? h.cur), hcx⟩
      · intro j y q hj hy c' x' hm
        obtain ⟨q', h1, h2⟩ := h.closed j y q hj (hold j _ hj hy) c' x' hm
        exact ⟨q', by simp [h1], h2⟩
      · intro c' x' hd
        rw [List.mem_append] at hd
        rcases hd with hd | hd
        · obtain ⟨q', h1, h2⟩ := h.closed' c' x' hd
          exact ⟨q', by simp [h1], h2⟩
        · simp at hd
          obtain ⟨rfl, rfl⟩ := hd
          exact ⟨p ++ [c'], by simp, .inl rfl⟩
      · intro e he
        rw [List.mem_append] at he
        rcases he with he | he
        · rcases h.parent e he with h1 | ⟨j, y, q, c', hj, hy, h1⟩ | ⟨c', x', hd, h1⟩
          · exact .inl h1
          · exact .inr (.inl ⟨j, y, q, c', hj, hat _ _ hy, h1⟩)
          · exact .inr (.inr ⟨c', x', by simp [hd], h1⟩)
        · simp at he
          subst he
          exact .inr (.inr ⟨c, x, by simp, rfl⟩)
      · simp [h.zero]
theorem expand_inv (nbr : σ → List (γ × σ)) (s0 : σ) (k : Nat) (s : σ) (p : List γ) :
    ∀ (rest dn : List (γ × σ)) (out : List (σ × List γ)), nbr s = dn ++ rest → (nbr s).Pairwise (fun a b => lt a.1 b.1) → BInv lt nbr s0 k s p dn out → BInv lt nbr s0 k s p (nbr s) (expand p rest out)
  | [], dn, out, hn, _, h => by
    rw [hn, List.append_nil]
    exact h
  | (c, x) :: r, dn, out, hn, hasc, h => by
    have h1 := expand_one nbr s0 k s p hasc h hn rfl
    have hn' : nbr s = (dn ++ [(c, x)]) ++ r := by rw [hn]; simp
    unfold expand
    by_cases hx : x ∈ out.map Prod.fst
    · rw [if_pos hx] at h1 ⊢
      exact expand_inv nbr s0 k s p r _ out hn' hasc h1
    · rw [if_neg hx] at h1 ⊢
      exact expand_inv nbr s0 k s p r _ _ hn' hasc h1

omit [DecidableEq σ] in
theorem BInv.short {nbr : σ → List (γ × σ)} {s0 : σ} {k : Nat} {out : List (σ × List γ)} {s : σ} {p : List γ} {dn : List (γ × σ)} (h : BInv lt nbr s0 k s p dn out) : ∀ (j : Nat) (y : σ) (q : List γ), out[j]? = some (y, q) → q.length ≤ j := by
  have hord : ∀ (i j : Nat) (a b : σ × List γ), out[i]? = some a → out[j]? = some b → b.2.length < a.2.length → j < i := by
    intro i j a b hi hj hlt
    obtain ⟨hi1, hi2⟩ := List.getElem?_eq_some_iff.1 hi
    obtain ⟨hj1, hj2⟩ := List.getElem?_eq_some_iff.1 hj
    rcases Nat.lt_trichotomy i j with h1 | h1 | h1
    · have := slt_len (List.pairwise_iff_getElem.1 h.sorted i j hi1 hj1 h1)
      rw [hi2, hj2] at this
      omega
    · subst h1
      rw [hi] at hj
      injection hj with hj
      subst hj
      omega
    · exact h1
  intro j
  induction j using Nat.strongRecOn with
  | _ j ih =>
    intro y q hq
    rcases h.parent (y, q) (List.mem_of_getElem? hq) with h1 | ⟨i, y', q', c, hi, hy', h1⟩ | ⟨c, x, hd, h1⟩
    · simp only at h1; subst h1; simp
    · simp only at h1
      have hlt := hord j i (y, q) (y', q') hq hy' (by simp [h1])
      have := ih i hlt y' q' hy'
      rw [h1]; simp; omega
    · simp only at h1
      have hlt := hord j k (y, q) (s, p) hq h.cur (by simp [h1])
      have := ih k hlt s p h.cur
      rw [h1]; simp; omega

/-- what holds of the list of found states ahead of entry k -/
structure KInv (lt : γ → γ → Prop) (nbr : σ → List (γ × σ)) (s0 : σ) (k : Nat) (out : List (σ × List γ)) : Prop where
  sorted : out.Pairwise fun a b => slt lt a.2 b.2
  nodup : (out.map Prod.fst).Nodup
  leads : ∀ e ∈ out, Leads nbr s0 e.2 e.1
  closed : ∀ (j : Nat) (y : σ) (q : List γ), j < k → out[j]? = some (y, q) → ∀ c x, (c, x) ∈ nbr y → ∃ q', (x, q') ∈ out ∧ (q' = q ++ [c] ∨ slt lt q' (q ++ [c]))
  parent : ∀ e ∈ out, e.2 = [] ∨ (∃ (j : Nat) (y : σ) (q : List γ) (c : γ), j < k ∧ out[j]? = some (y, q) ∧ e.2 = q ++ [c])
  zero : (s0, []) ∈ out
omit [DecidableEq σ] in
theorem KInv.start (nbr : σ → List (γ × σ)) (s0 : σ) : KInv lt nbr s0 0 [(s0, [])] :=
  ⟨by simp, by simp, fun e he => by simp at he; subst he; rfl, fun j y q hj => by omega, fun e he => by simp at he; subst he; exact .inl rfl, by simp⟩
omit [DecidableEq σ] in
theorem KInv.in_ {nbr : σ → List (γ × σ)} {s0 : σ} {k : Nat} {out : List (σ × List γ)} (h : KInv lt nbr s0 k out) {s : σ} {p : List γ} (hk : out[k]? = some (s, p)) : BInv lt nbr s0 k s p [] out :=
  ⟨hk, h.sorted, h.nodup, h.leads, h.closed, fun c x hd => by simp at hd, fun e he => (h.parent e he).elim .inl fun h1 => .inr (.inl h1), h.zero⟩
omit [DecidableEq σ] in
theorem BInv.out_ {nbr : σ → List (γ × σ)} {s0 : σ} {k : Nat} {out : List (σ × List γ)} {s : σ} {p : List γ} (h : BInv lt nbr s0 k s p (nbr s) out) : KInv lt nbr s0 (k + 1) out := by
  refine ⟨h.sorted, h.nodup, h.leads, fun j y q hj hy c x hm => ?_, fun e he => ?_, h.zero⟩
  · by_cases hjk : j = k
    · subst hjk
      rw [h.cur] at hy
      injection hy with hy
      injection hy with h1 h2
      subst h1 h2
      exact h.closed' c x hm
    · exact h.closed j y q (by omega) hy c x hm
  · rcases h.parent e he with h1 | ⟨j, y, q, c', hj, hy, h1⟩ | ⟨c', x', hd, h1⟩
    · exact .inl h1
    · exact .inr ⟨j, y, q, c', by omega, hy, h1⟩
    · exact .inr ⟨k, s, p, c', by omega, h.cur, h1⟩
theorem KInv.step {nbr : σ → List (γ × σ)} {s0 : σ} {k : Nat} {out : List (σ × List γ)} (h : KInv lt nbr s0 k out) {s : σ} {p : List γ} (hk : out[k]? = some (s, p)) (hasc : (nbr s).Pairwise (fun a b => lt a.1 b.1)) :
    KInv lt nbr s0 (k + 1) (expand p (nbr s) out) := (expand_inv nbr s0 k s p (nbr s) [] out rfl hasc (h.in_ hk)).out_

/-- all is found -/
structure Found (lt : γ → γ → Prop) (nbr : σ → List (γ × σ)) (s0 : σ) (out : List (σ × List γ)) : Prop where
  sorted : out.Pairwise fun a b => slt lt a.2 b.2
  nodup : (out.map Prod.fst).Nodup
  leads : ∀ e ∈ out, Leads nbr s0 e.2 e.1
  least : ∀ (q : List γ) (x : σ), Leads nbr s0 q x → ∃ p, (x, p) ∈ out ∧ (p = q ∨ slt lt p q)
omit [DecidableEq σ] in
theorem KInv.done (ht : ∀ a b c, lt a b → lt b c → lt a c) {nbr : σ → List (γ × σ)} {s0 : σ} {k : Nat} {out : List (σ × List γ)} (h : KInv lt nbr s0 k out) (hk : out.length ≤ k) : Found lt nbr s0 out := by
  refine ⟨h.sorted, h.nodup, h.leads, ?_⟩
  have gen : ∀ (n : Nat) (q : List γ), q.length = n → ∀ x, Leads nbr s0 q x → ∃ p, (x, p) ∈ out ∧ (p = q ∨ slt lt p q) := by
    intro n
    induction n with
    | zero =>
      intro q hq x hx
      obtain rfl : q = [] := List.eq_nil_of_length_eq_zero hq
      have : s0 = x := hx
      subst this
      exact ⟨[], h.zero, .inl rfl⟩
    | succ n ih =>
      intro q hq x hx
      rcases List.eq_nil_or_concat q with rfl | ⟨q0, c, rfl⟩
      · simp at hq
      · rw [List.concat_eq_append] at *
        rw [leads_snoc] at hx
        obtain ⟨y, hy, hc⟩ := hx
        obtain ⟨p, hp, hpq⟩ := ih q0 (by simpa using hq) y hy
        obtain ⟨j, hj⟩ := List.getElem?_of_mem hp
        have hjl := (List.getElem?_eq_some_iff.1 hj).1
        obtain ⟨q', h1, h2⟩ := h.closed j y p (by omega) hj c x hc
        refine ⟨q', h1, ?_⟩
        rcases hpq with rfl | hpq
        · exact h2
        · have := slt_snoc c c hpq
          rcases h2 with rfl | h2
          · exact .inr this
          · exact .inr (slt_trans ht h2 this)
  exact fun q x hx => gen q.length q rfl x hx
omit [DecidableEq σ] in
theorem Found.uniq {nbr : σ → List (γ × σ)} {s0 : σ} {out : List (σ × List γ)} (h : Found lt nbr s0 out) {x : σ} {p q : List γ} (hp : (x, p) ∈ out) (hq : (x, q) ∈ out) : p = q := by
  obtain ⟨i, hi⟩ := List.getElem?_of_mem hp
  obtain ⟨j, hj⟩ := List.getElem?_of_mem hq
  have h1 : (out.map Prod.fst)[i]? = some x := by rw [List.getElem?_map, hi]; rfl
  have h2 : (out.map Prod.fst)[j]? = some x := by rw [List.getElem?_map, hj]; rfl
  have : i = j := by
    have hil : i < (out.map Prod.fst).length := (List.getElem?_eq_some_iff.1 h1).1
    exact (List.getElem?_inj hil h.nodup).1 (h1.trans h2.symm)
  subst this
  rw [hi] at hj
  injection hj with hj
  injection hj
omit [DecidableEq σ] in
/-- a plan that is at most each other one is the plan that was found -/
theorem Found.eq_of_least (hi : ∀ a, ¬ lt a a) (ht : ∀ a b c, lt a b → lt b c → lt a c) {nbr : σ → List (γ × σ)} {s0 : σ} {out : List (σ × List γ)} (h : Found lt nbr s0 out) {x : σ} {p g : List γ} (hp : (x, p) ∈ out) (hg : Leads nbr s0 g x)
    (hl : ∀ q, Leads nbr s0 q x → g = q ∨ slt lt g q) : p = g := by
  obtain ⟨p', hp', h1⟩ := h.least g x hg
  obtain rfl := h.uniq hp' hp
  rcases h1 with rfl | h1
  · rfl
  · rcases hl p' (h.leads _ hp') with h2 | h2
    · exact h2.symm
    · exact absurd (slt_trans ht h1 h2) (slt_irrefl hi _)

/-- the way down: at each state the first step that leads nearer to the end -/
def down (nbr : σ → List (γ × σ)) (D : σ → Nat) : Nat → σ → List γ
  | 0, _ => []
  | n + 1, s => match (nbr s).find? fun e => decide (D e.2 < D s) with
    | none => []
    | some (c, x) => c :: down nbr D n x
omit [DecidableEq σ] in
theorem down_least {nbr : σ → List (γ × σ)} {t : σ} {D : σ → Nat} {Good : σ → Prop} (hG : ∀ s, Good s → ∀ c x, (c, x) ∈ nbr s → Good x) (hasc : ∀ s, Good s → (nbr s).Pairwise (fun a b => lt a.1 b.1))
    (hD : ∀ s, Good s → ∀ q, Leads nbr s q t → D s ≤ q.length) (hE : ∀ s, Good s → (∃ q, Leads nbr s q t) → ∃ q, Leads nbr s q t ∧ q.length = D s)
    (hR : ∀ s, Good s → ∀ c x, (c, x) ∈ nbr s → (∃ q, Leads nbr s q t) → ∃ q, Leads nbr x q t) :
    ∀ (n : Nat) (s : σ), Good s → D s = n → (∃ q, Leads nbr s q t) → Leads nbr s (down nbr D n s) t ∧ (down nbr D n s).length = n ∧ ∀ q, Leads nbr s q t → down nbr D n s = q ∨ slt lt (down nbr D n s) q := by
  intro n
  induction n with
  | zero =>
    intro s hs hn hq
    obtain ⟨q, hq1, hq2⟩ := hE s hs hq
    obtain rfl : q = [] := List.eq_nil_of_length_eq_zero (by omega)
    refine ⟨hq1, rfl, fun q' hq' => ?_⟩
    rcases q' with _ | ⟨c, r⟩
    · exact .inl rfl
    · exact .inr (.inl (by simp [down]))
  | succ n ih =>
    intro s hs hn hq
    obtain ⟨q, hq1, hq2⟩ := hE s hs hq
    rcases q with _ | ⟨c0, r0⟩
    · simp at hq2; omega
    obtain ⟨x0, hx0, hr0⟩ := hq1
    have hd0 : D x0 ≤ r0.length := hD x0 (hG s hs c0 x0 hx0) r0 hr0
    simp only [List.length_cons] at hq2
    have hsome : ((nbr s).find? fun e => decide (D e.2 < D s)).isSome := by
      rw [List.find?_isSome]
      exact ⟨_, hx0, by simp; omega⟩
    obtain ⟨⟨c, x⟩, hcx⟩ := Option.isSome_iff_exists.1 hsome
    obtain ⟨hdx, l1, l2, hl, hl1⟩ := List.find?_eq_some_iff_append.1 hcx
    simp only [decide_eq_true_eq] at hdx
    have hmem : (c, x) ∈ nbr s := by rw [hl]; simp
    have hgx := hG s hs c x hmem
    have hstep : ∀ c' x', (c', x') ∈ nbr s → ∀ r, Leads nbr x' r t → D s ≤ r.length + 1 := fun c' x' hm r hr => by
      have := hD s hs (c' :: r) ⟨x', hm, hr⟩
      simpa using this
    -- a way from x
    have hdown : down nbr D (n + 1) s = c :: down nbr D n x := by simp only [down, hcx]
    have hxq : ∃ q, Leads nbr x q t := hR s hs c x hmem hq
    obtain ⟨qx, hqx1, hqx2⟩ := hE x hgx hxq
    have hDx : D x = n := by
      have := hstep c x hmem qx hqx1
      omega
    obtain ⟨i1, i2, i3⟩ := ih x hgx hDx hxq
    rw [hdown]
    refine ⟨⟨x, hmem, i1⟩, by simp [i2], fun q' hq' => ?_⟩
    have hlen := hD s hs q' hq'
    by_cases hlt : n + 1 < q'.length
    · exact .inr (.inl (by simp only [List.length_cons, i2]; omega))
    · rcases q' with _ | ⟨c', r'⟩
      · simp at hlen; omega
      · obtain ⟨x', hx', hr'⟩ := hq'
        simp only [List.length_cons] at hlen hlt
        have hd' : D x' ≤ r'.length := hD x' (hG s hs c' x' hx') r' hr'
        have hnear : D x' < D s := by omega
        rw [hl, List.mem_append, List.mem_cons] at hx'
        rcases hx' with hx' | hx' | hx'
        · have := hl1 _ hx'
          simp at this
          omega
        · injection hx' with e1 e2
          subst e1 e2
          rcases i3 r' hr' with rfl | h1
          · exact .inl rfl
          · refine .inr (.inr ⟨by simp only [List.length_cons, i2]; omega, .inr ⟨rfl, ?_⟩⟩)
            rcases h1 with h1 | ⟨_, h1⟩
            · omega
            · exact h1
        · have ha := hasc s hs
          rw [hl, List.pairwise_append, List.pairwise_cons] at ha
          exact .inr (.inr ⟨by simp only [List.length_cons, i2]; omega, .inl (ha.2.1.1 _ hx')⟩)
end
end Go.Proofs.Ythabpkigflldmaa
