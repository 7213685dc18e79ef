/- Plain: what the chosen facts are (AidChosen). Plain: the postings of a unit, of a catalog. -/
import Derived.Test.YtngodakkdhdmjaaGreatDoorPri
import Derived.Test.YtngodakkdhdmjaaGreatDoorRgs
namespace Go.Proofs.YtngodakkdhdmjaaGreatDoor
section
open Go.RowKit

section
variable {α : Type} {el : α → Int} {lang : α → ByteArray}
theorem elsG_asc : ∀ (q : List α) (p : Option Int), q.Pairwise (ascP el lang) → (∀ e ∈ p, ∀ f ∈ q, e ≤ el f) → (elsG el p q).Pairwise (· < ·) ∧ ∀ x ∈ elsG el p q, ∀ e ∈ p, e < x
  | [], _, _, _ => ⟨List.Pairwise.nil, by simp [elsG]⟩
  | f :: r, p, h, hp => by
    obtain ⟨h1, h2⟩ := List.pairwise_cons.1 h
    obtain ⟨i1, i2⟩ := elsG_asc r (some (el f)) h2 (fun e he g hg => by cases he; exact ascP_le (h1 g hg))
    rw [elsG]
    by_cases c : p = some (el f)
    · rw [if_pos c]
      exact ⟨i1, fun x hx e he => by rw [c] at he; exact i2 x hx e he⟩
    · rw [if_neg c]
      refine ⟨List.pairwise_cons.2 ⟨fun x hx => i2 x hx _ rfl, i1⟩, fun x hx e he => ?_⟩
      have hle := hp e he f (by simp)
      have hlt : e < el f := by
        rcases Int.lt_or_eq_of_le hle with h3 | h3
        · exact h3
        · exact absurd (by rw [← h3]; exact he) c
      rcases List.mem_cons.1 hx with rfl | hx
      · exact hlt
      · exact Int.lt_trans hlt (i2 x hx _ rfl)
theorem firstG_has {q : List α} {e : Int} {g : α} (hg : g ∈ q) (he : el g = e) : ∀ {ord : List ByteArray}, lang g ∈ ord → ∃ f, firstG el lang q e ord = some f
  | [], h => by simp at h
  | s :: r, h => by
    unfold firstG
    rw [List.findSome?_cons]
    cases hs : atG el lang q e s with
    | some f => exact ⟨f, rfl⟩
    | none =>
      have hne := atG_none.1 hs g hg he
      have hr : lang g ∈ r := by
        rcases List.mem_cons.1 h with h | h
        · exact absurd h hne
        · exact h
      exact firstG_has hg he hr
theorem map_filterMap {F : Int → Option α} : ∀ (L : List Int), (∀ e ∈ L, ∃ g, F e = some g ∧ el g = e) → (L.filterMap F).map el = L
  | [], _ => rfl
  | e :: L, h => by
    obtain ⟨g, h1, h2⟩ := h e (by simp)
    rw [List.filterMap_cons, h1, List.map_cons, h2, map_filterMap L (fun x hx => h x (by simp [hx]))]
theorem firstG_rank {q : List α} {e : Int} {f g : α} {s : ByteArray} (hg : g ∈ q) (he : el g = e) (hgs : lang g ≠ s) : ∀ {ls : List ByteArray}, firstG el lang q e (ls.filter fun x => decide (x ≠ s)) = some f → lang g ∈ ls → rankF ls (lang f) ≤ rankF ls (lang g)
  | [], _, h => by simp at h
  | t :: r, hf, h => by
    by_cases ht : t = s
    · rw [List.filter_cons, if_neg (by simp [ht])] at hf
      have hr : lang g ∈ r := by
        rcases List.mem_cons.1 h with h | h
        · exact absurd (h.trans ht) hgs
        · exact h
      have ih := firstG_rank hg he hgs hf hr
      obtain ⟨f1, f2, f3⟩ := firstG_some hf
      obtain ⟨f4, f5⟩ := List.mem_filter.1 f3
      have hfs : lang f ≠ s := by simpa using f5
      have r1 := rank_nonneg f4
      have r2 := rank_nonneg hr
      have e1 := rank_cons t (lang f) r
      have e2 := rank_cons t (lang g) r
      rw [if_neg (fun e => hfs (e.symm.trans ht)), if_neg (by omega)] at e1
      rw [if_neg (fun e => hgs (e.symm.trans ht)), if_neg (by omega)] at e2
      omega
    · rw [List.filter_cons, if_pos (by simp [ht])] at hf
      unfold firstG at hf
      rw [List.findSome?_cons] at hf
      cases ha : atG el lang q e t with
      | some f' =>
        rw [ha] at hf
        injection hf with hf
        subst hf
        obtain ⟨_, _, a3⟩ := atG_some ha
        have e1 := rank_cons t (lang f') r
        rw [if_pos a3.symm] at e1
        have := rank_nonneg h
        omega
      | none =>
        rw [ha] at hf
        have hn := atG_none.1 ha
        have hr : lang g ∈ r := by
          rcases List.mem_cons.1 h with h | h
          · exact absurd h (hn g hg he)
          · exact h
        have ih := firstG_rank hg he hgs (ls := r) hf hr
        obtain ⟨f1, f2, f3⟩ := firstG_some (ord := r.filter fun x => decide (x ≠ s)) hf
        obtain ⟨f4, f5⟩ := List.mem_filter.1 f3
        have r1 := rank_nonneg f4
        have r2 := rank_nonneg hr
        have e1 := rank_cons t (lang f) r
        have e2 := rank_cons t (lang g) r
        rw [if_neg (fun e => hn f f1 f2 e.symm), if_neg (by omega)] at e1
        rw [if_neg (fun e => hn g hg he e.symm), if_neg (by omega)] at e2
        omega
end
/-- the rank of a language as the statement has it -/
def rkF (ls : List ByteArray) (s x : ByteArray) : Int := if x = s then -1 else rankF ls x
theorem rank_ge (ls : List ByteArray) (x : ByteArray) : -1 ≤ rankF ls x := by
  rcases idxF_cases (fun y : ByteArray => decide (y = x)) ls with ⟨h1, _⟩ | ⟨k, _, h1, _⟩
  · have : rankF ls x = -1 := h1
    omega
  · have : rankF ls x = k := h1
    omega
/-- what the statement asks of the chosen facts -/
structure ChosenP (ls : List ByteArray) (s : ByteArray) (facts l : List Fact) : Prop where
  pw : facts.Pairwise (ascP Fact.el Fact.lang)
  len : facts.length ≤ 32
  els : l.map Fact.el = elsG Fact.el none facts
  asc : (elsG Fact.el none facts).Pairwise (· < ·)
  mem : ∀ f ∈ l, f ∈ facts
  rank : ∀ f ∈ l, ∀ g ∈ facts, g.el = f.el → ¬ rkF ls s g.lang < rkF ls s f.lang
theorem chosen_ok {c : Cat} {u : Int} {s : ByteArray} {k : Nat} {x : Sheet} (h0 : catE c = 0) (hs : s ∈ c.langs) (hi : shtIx c.sheets u = k) (hx : c.sheets[k]? = some x) : ChosenP c.langs s x.facts (chooseR c u s) := by
  obtain ⟨-, -, -, hz4⟩ := catE_zero h0
  have hz5 := (hz4 x (List.mem_of_getElem? hx)).2.2
  have hl32 := fctE_len hz5
  unfold fctE at hz5
  rw [if_neg (by omega)] at hz5
  obtain ⟨q1, -, q3⟩ := fctG_zero x.facts none hz5
  have hR : chooseR c u s = (elsG Fact.el none x.facts).filterMap fun e => firstG Fact.el Fact.lang x.facts e (prefF c.langs s) := by
    unfold chooseR
    rw [if_neg (by rw [hi]; unfold rightB; rw [hasS_iff.2 hs]; simp [h0]), hi]
    simp only [Int.toNat_natCast, hx, Option.map_some, Option.getD_some]
    exact rchoose_spec x.facts (prefF c.langs s) x.facts none
  have hall : ∀ e ∈ elsG Fact.el none x.facts, ∃ g, firstG Fact.el Fact.lang x.facts e (prefF c.langs s) = some g ∧ g.el = e := by
    intro e he
    obtain ⟨g, hg, hge⟩ := elsG_mem _ _ e he
    obtain ⟨f, hf⟩ := firstG_has (lang := Fact.lang) hg hge (pref_mem (s := s) (hasS_iff.1 (q1 g hg).1))
    exact ⟨f, hf, (firstG_some hf).2.1⟩
  have hmem : ∀ f ∈ chooseR c u s, firstG Fact.el Fact.lang x.facts f.el (prefF c.langs s) = some f := by
    intro f hf
    rw [hR] at hf
    obtain ⟨e, he, hfe⟩ := List.mem_filterMap.1 hf
    rw [(firstG_some hfe).2.1]
    exact hfe
  refine ⟨q3, hl32, by rw [hR]; exact map_filterMap _ hall, (elsG_asc (lang := Fact.lang) x.facts none q3 (by simp)).1, fun f hf => (firstG_some (hmem f hf)).1, fun f hf g hg hge => ?_⟩
  have h1 := hmem f hf
  have hgl := hasS_iff.1 (q1 g hg).1
  unfold rkF
  by_cases e1 : f.lang = s
  · rw [if_pos e1]
    have := rank_ge c.langs g.lang
    split <;> omega
  · rw [if_neg e1]
    unfold prefF firstG at h1
    rw [List.findSome?_cons] at h1
    cases ha : atG Fact.el Fact.lang x.facts f.el s with
    | some f' =>
      rw [ha] at h1
      injection h1 with h1
      subst h1
      exact absurd (atG_some ha).2.2 e1
    | none =>
      rw [ha] at h1
      have hgs := atG_none.1 ha g hg hge
      rw [if_neg hgs]
      have := firstG_rank hg hge hgs (ls := c.langs) h1 hgl
      omega
/-- one element after the other, each once -/
def addK (ks : List Int) (k : Int) : List Int := if k ∈ ks then ks else ks ++ [k]
theorem elsG_add {q : List Fact} {f : Fact} (h : (q ++ [f]).Pairwise (ascP Fact.el Fact.lang)) : elsG Fact.el none (q ++ [f]) = addK (elsG Fact.el none q) f.el := by
  obtain ⟨h1, -, h3⟩ := List.pairwise_append.1 h
  rw [elsG_snoc]
  unfold addK
  have key : f.el ∈ elsG Fact.el none q ↔ (match q.getLast? with | some g => some g.el | none => none) = some f.el := by
    have hsame : ∀ (q' : List Fact) (p : Option Int) (g : Fact), g ∈ q' → g.el ∈ elsG Fact.el p q' ∨ p = some g.el ∨ g.el ∈ elsG Fact.el p q' := by
      intro q'
      induction q' with
      | nil => intro p g hg; simp at hg
      | cons y r ih =>
        intro p g hg
        rw [elsG]
        rcases List.mem_cons.1 hg with rfl | hg
        · by_cases c : p = some g.el
          · exact .inr (.inl c)
          · rw [if_neg c]; exact .inl (by simp)
        · rcases ih (some y.el) g hg with c | c | c
          · by_cases c1 : p = some y.el
            · rw [if_pos c1]; exact .inl c
            · rw [if_neg c1]; exact .inl (by simp [c])
          · injection c with c
            by_cases c1 : p = some y.el
            · exact .inr (.inl (by rw [c1, c]))
            · rw [if_neg c1]; exact .inl (by simp [c])
          · by_cases c1 : p = some y.el
            · rw [if_pos c1]; exact .inl c
            · rw [if_neg c1]; exact .inl (by simp [c])
    constructor
    · intro hm
      obtain ⟨g, hg, he⟩ := elsG_mem _ _ _ hm
      rcases List.eq_nil_or_concat q with rfl | ⟨q', z, rfl⟩
      · simp at hg
      · simp only [List.concat_eq_append, List.getLast?_append, List.getLast?_singleton, Option.some_or, Option.some.injEq]
        simp only [List.concat_eq_append] at hg h1 h3
        have hz := ascP_le (h3 z (by simp) f (by simp))
        have hgz : g.el ≤ z.el := by
          rcases List.mem_append.1 hg with hg | hg
          · exact ascP_le ((List.pairwise_append.1 h1).2.2 g hg z (by simp))
          · rw [List.mem_singleton.1 hg]; exact Int.le_refl _
        omega
    · intro hl
      cases hq : q.getLast? with
      | none => rw [hq] at hl; cases hl
      | some z =>
        rw [hq] at hl
        injection hl with hl
        rcases hsame q none z (List.mem_of_getLast? hq) with c | c | c
        · rw [← hl]; exact c
        · cases c
        · rw [← hl]; exact c
  cases hq : q.getLast? with
  | none =>
    have hn : f.el ∉ elsG Fact.el none q := fun h => by have := key.1 h; rw [hq] at this; cases this
    rw [if_neg hn]
    rfl
  | some z =>
    by_cases c : f.el ∈ elsG Fact.el none q
    · have hz := key.1 c
      rw [hq] at hz
      rw [if_pos c]
      exact (congrArg _ (if_pos hz)).trans (List.append_nil _)
    · have hz : ¬ some z.el = some f.el := fun h => c (key.2 (by rw [hq]; exact h))
      rw [if_neg c]
      exact congrArg _ (if_neg hz)
def elF (ks : List Int) : Int → Option Bool := fun e => if e ∈ ks then some true else none
theorem elF_add (ks : List Int) (e : Int) : (fun k' => if k' = e then some true else elF ks k') = elF (addK ks e) := by
  funext k'
  unfold elF addK
  by_cases h : e ∈ ks
  · rw [if_pos h]
    by_cases hk : k' = e
    · rw [if_pos hk, if_pos (by rw [hk]; exact h)]
    · rw [if_neg hk]
  · rw [if_neg h]
    by_cases hk : k' = e
    · rw [if_pos hk, if_pos (by simp [hk])]
    · rw [if_neg hk]
      simp [hk]
theorem elF_iff (ks : List Int) (e : Int) : elF ks e ≠ none ↔ e ∈ ks := by
  unfold elF
  by_cases h : e ∈ ks <;> simp [h]
theorem ChosenP.nodup {ls : List ByteArray} {s : ByteArray} {facts l : List Fact} (h : ChosenP ls s facts l) : (elsG Fact.el none facts).Nodup := h.asc.imp (fun h => by omega)
theorem ChosenP.step {ls : List ByteArray} {s : ByteArray} {facts l : List Fact} (h : ChosenP ls s facts l) {j : Nat} {f : Fact} (hf : facts[j]? = some f) : addK (elsG Fact.el none (facts.take j)) f.el = elsG Fact.el none (facts.take (j + 1)) := by
  have ht := take_at hf
  rw [ht]
  exact (elsG_add (by rw [← ht]; exact h.pw.sublist (List.take_sublist _ _))).symm
theorem ChosenP.length {ls : List ByteArray} {s : ByteArray} {facts l : List Fact} (h : ChosenP ls s facts l) : (elsG Fact.el none facts).length = l.length := by
  rw [← h.els, List.length_map]
end
section
open Go.RowKit

theorem chooseG_mem (ord : List ByteArray) : ∀ (l out : List Fact) (f : Fact), f ∈ chooseG ord out l → f ∈ out ∨ f ∈ l
  | [], out, f, h => .inl h
  | x :: r, out, f, h => by
    rw [chooseG_cons] at h
    have key : ∀ o : List Fact, (∀ g ∈ o, g ∈ out ∨ g ∈ x :: r) → f ∈ chooseG ord o r → f ∈ out ∨ f ∈ x :: r := fun o ho hf => by
      rcases chooseG_mem ord r o f hf with h1 | h1
      · exact ho f h1
      · exact .inr (List.mem_cons_of_mem _ h1)
    have k1 : ∀ g ∈ out ++ [x], g ∈ out ∨ g ∈ x :: r := fun g hg => by
      rcases List.mem_append.1 hg with h1 | h1
      · exact .inl h1
      · simp at h1; exact .inr (by rw [h1]; exact List.mem_cons_self)
    have k2 : ∀ g ∈ out.dropLast ++ [x], g ∈ out ∨ g ∈ x :: r := fun g hg => by
      rcases List.mem_append.1 hg with h1 | h1
      · exact .inl (List.dropLast_subset _ h1)
      · simp at h1; exact .inr (by rw [h1]; exact List.mem_cons_self)
    cases hl : out.getLast? with
    | none => rw [hl] at h; exact key _ k1 h
    | some q =>
      rw [hl] at h
      simp only at h
      split at h
      · exact key _ k1 h
      · split at h
        · exact key _ k2 h
        · exact key _ (fun g hg => .inl hg) h
theorem chooseG_len (ord : List ByteArray) : ∀ (l out : List Fact), (chooseG ord out l).length ≤ out.length + l.length
  | [], out => Nat.le_refl _
  | x :: r, out => by
    rw [chooseG_cons, List.length_cons]
    cases hl : out.getLast? with
    | none => simp only; have := chooseG_len ord r (out ++ [x]); rw [List.length_append, List.length_singleton] at this; omega
    | some q =>
      have hne : 0 < out.length := by
        rcases out with _ | ⟨a, b⟩
        · cases hl
        · simp
      simp only
      split
      · have := chooseG_len ord r (out ++ [x]); rw [List.length_append, List.length_singleton] at this; omega
      · split
        · have := chooseG_len ord r (out.dropLast ++ [x]); rw [List.length_append, List.length_singleton, List.length_dropLast] at this; omega
        · have := chooseG_len ord r out; omega
theorem choose_mem {ord : List ByteArray} {l : List Fact} {f : Fact} (h : f ∈ chooseF ord l) : f ∈ l := by
  rcases chooseG_mem ord l [] f h with h1 | h1
  · cases h1
  · exact h1
theorem fctE_mem {ls : List ByteArray} {l : List Fact} (h : fctE ls l = 0) {f : Fact} (hf : f ∈ l) : 1 ≤ f.el ∧ f.el ≤ 64 ∧ f.text.size ≤ 4096 := by
  unfold fctE at h
  by_cases h3 : 32 < l.length
  · rw [if_pos h3] at h; cases h
  · rw [if_neg h3] at h
    have := (fctG_zero l none h).1 f hf
    exact ⟨this.2.1, this.2.2.1, this.2.2.2.2⟩
/-- the postings of a unit, as they are met -/
def rawF (c : Cat) (s : ByteArray) (u : Int) : List Post := if shtIx c.sheets u < 0 then [] else putF u (-1) ((c.sheets[(shtIx c.sheets u).toNat]?.map Sheet.title).getD ⟨#[]⟩) ++ (chooseR c u s).flatMap fun f => putF u f.el f.text
/-- the postings of a unit -/
def ofF (c : Cat) (s : ByteArray) (u : Int) : List Post := sortP (rawF c s u)
theorem raw_at {c : Cat} {s : ByteArray} {u : Int} {k : Nat} {x : Sheet} (hi : shtIx c.sheets u = k) (hx : c.sheets[k]? = some x) : rawF c s u = putF u (-1) x.title ++ (chooseR c u s).flatMap fun f => putF u f.el f.text := by
  unfold rawF
  rw [hi, if_neg (by omega), Int.toNat_natCast, hx]
  rfl
theorem raw_none {c : Cat} {s : ByteArray} {u : Int} (hi : shtIx c.sheets u < 0) : rawF c s u = [] := by
  unfold rawF
  rw [if_pos hi]
/-- the facts that a unit's postings come from -/
theorem chosen_facts {c : Cat} {s : ByteArray} {u : Int} {k : Nat} {x : Sheet} (h0 : catE c = 0) (hi : shtIx c.sheets u = k) (hx : c.sheets[k]? = some x) : (chooseR c u s).length ≤ 32 ∧ ∀ f ∈ chooseR c u s, f ∈ x.facts ∧ 1 ≤ f.el ∧ f.el ≤ 64 ∧ f.text.size ≤ 4096 := by
  obtain ⟨-, -, -, hz4⟩ := catE_zero h0
  have hz5 := (hz4 x (List.mem_of_getElem? hx)).2.2
  have hl := fctE_len hz5
  unfold chooseR
  by_cases hr : rightB c s = false
  · rw [if_pos (.inl hr)]
    exact ⟨by simp, fun f hf => by cases hf⟩
  · rw [if_neg (by rw [hi]; intro h; rcases h with h | h; exact hr h; omega), hi, Int.toNat_natCast, hx, Option.map_some, Option.getD_some, ← choose_eq hz5]
    refine ⟨?_, fun f hf => ?_⟩
    · have := chooseG_len (prefF c.langs s) x.facts []
      rw [List.length_nil, Nat.zero_add] at this
      unfold chooseF
      omega
    · have hm := choose_mem hf
      exact ⟨hm, fctE_mem hz5 hm⟩
theorem flat_len {α : Type} {m : Nat} (g : α → List Post) : ∀ (l : List α), (∀ x ∈ l, (g x).length ≤ m) → (l.flatMap g).length ≤ l.length * m
  | [], _ => by simp
  | x :: r, h => by
    rw [List.flatMap_cons, List.length_append, List.length_cons, Nat.add_mul]
    have := h x List.mem_cons_self
    have := flat_len g r (fun y hy => h y (List.mem_cons_of_mem _ hy))
    omega
theorem raw_unit {c : Cat} {s : ByteArray} {u : Int} {p : Post} (h : p ∈ rawF c s u) : p.unit = u := by
  unfold rawF at h
  split at h
  · cases h
  · rcases List.mem_append.1 h with h | h
    · exact (putF_mem h).1
    · obtain ⟨f, -, hf⟩ := List.mem_flatMap.1 h
      exact (putF_mem hf).1
end
end Go.Proofs.YtngodakkdhdmjaaGreatDoor
