/- The marks that were given: what the program collects is what the reference defines. Plain lists; no program in sight. -/
import Derived.Test.YtgnaknanpgfpnaaPlainB
namespace Go.Proofs.Ytgnaknanpgfpnaa

def lastM (p : Option Shot) (u : Int) : ByteArray := match p with
  | none => ⟨#[]⟩
  | some s => markIn s u
def untilF (m : ByteArray) (u : Int) : List Shot → Int
  | [] => 1048576
  | x :: r => if markIn x u = m then untilF m u r else x.day
def openE1 (p : Option Shot) (xr : List Shot) (day : Int) (s : Standing) : Option Given := if s.mark.size = 0 ∨ lastM p s.unit = s.mark then none else some ⟨s.mark, s.unit, day, untilF s.mark s.unit xr⟩
def openE (p : Option Shot) (xr : List Shot) (x : Shot) : List Given := x.units.filterMap (openE1 p xr x.day)
def refG : Option Shot → List Shot → List Given
  | _, [] => []
  | p, x :: r => openE p (x :: r) x ++ refG (some x) r

structure OKs (x : Shot) : Prop where
  lo : 0 ≤ x.day
  hi : x.day ≤ 1048575
  asc : x.units.Pairwise fun s t => s.unit < t.unit
theorem oks_of : ∀ (hs : List Shot) (f : ByteArray → Option Int) (prev : Option Shot), checkP f prev hs = 0 → ∀ x ∈ hs, OKs x
  | [], _, _, _ => by simp
  | x :: r, f, prev, h => by
    obtain ⟨h1, f', _, h3⟩ := good_cons h
    intro s hs
    rcases List.mem_cons.1 hs with rfl | hs
    · exact ⟨h1.lo, h1.hi, (fields_pair none _ h1.fields).2.1⟩
    · exact oks_of r f' _ h3 s hs

theorem filterMap_same {α β : Type} {f g : α → Option β} : ∀ {l : List α}, (∀ x ∈ l, f x = g x) → l.filterMap f = l.filterMap g
  | [], _ => rfl
  | x :: l, h => by
    rw [List.filterMap_cons, List.filterMap_cons, h x (by simp), filterMap_same fun y hy => h y (by simp [hy])]
theorem size_empty {m : ByteArray} (h : m.size = 0) : m = ⟨#[]⟩ := WideShapes.bytes_inj (by
  rw [List.eq_nil_of_length_eq_zero (l := m.data.toList) (by simpa using h)])
theorem findU_mem : ∀ {l : List Standing}, l.Pairwise (fun s t => s.unit < t.unit) → ∀ {s : Standing}, s ∈ l → findU l s.unit = some s
  | [], _, _, h => by cases h
  | x :: l, hp, s, h => by
    obtain ⟨h1, h2⟩ := List.pairwise_cons.1 hp
    rcases List.mem_cons.1 h with rfl | h
    · simp [findU]
    · have hn : ¬ x.unit = s.unit := by have := h1 s h; omega
      have ih := findU_mem h2 h
      simp only [findU] at ih ⊢
      rw [List.find?_cons_of_neg (by simpa using hn)]
      exact ih
theorem markIn_mem {x : Shot} (hx : x.units.Pairwise fun s t => s.unit < t.unit) {s : Standing} (h : s ∈ x.units) : markIn x s.unit = s.mark := by
  unfold markIn
  rw [findU_mem hx h]
theorem findU_some {l : List Standing} {u : Int} {s : Standing} (h : findU l u = some s) : s ∈ l ∧ s.unit = u := by
  unfold findU at h
  exact ⟨List.mem_of_find?_eq_some h, by simpa using List.find?_some h⟩
/-- a unit that has a mark stands in the shot -/
theorem markIn_has {x : Shot} {u : Int} (h : (markIn x u).size ≠ 0) : ∃ s ∈ x.units, s.unit = u ∧ s.mark = markIn x u := by
  unfold markIn at h ⊢
  cases hf : findU x.units u with
  | none => rw [hf] at h; exact absurd rfl h
  | some s =>
    obtain ⟨h1, h2⟩ := findU_some hf
    exact ⟨s, h1, h2, rfl⟩

theorem until_snoc (m : ByteArray) (u : Int) (x : Shot) : ∀ l : List Shot, (∀ y ∈ l, y.day ≤ 1048575) → untilF m u (l ++ [x]) = if untilF m u l = 1048576 ∧ markIn x u ≠ m then x.day else untilF m u l
  | [], _ => by
    simp only [List.nil_append, untilF]
    by_cases h : markIn x u = m <;> simp [h]
  | y :: l, hl => by
    have ih := until_snoc m u x l fun z hz => hl z (by simp [hz])
    have hy := hl y (by simp)
    simp only [List.cons_append, untilF]
    by_cases h : markIn y u = m
    · simp only [h, if_true]; exact ih
    · simp only [h, if_false]
      rw [if_neg (by omega)]
def closeE (x : Shot) (g : Given) : Given := if g.until_ = 1048576 ∧ markIn x g.unit ≠ g.mark then endAt x.day g else g
theorem open_snoc (p : Option Shot) (x y : Shot) (l : List Shot) (hl : ∀ y ∈ l, y.day ≤ 1048575) : openE p (l ++ [x]) y = (openE p l y).map (closeE x) := by
  unfold openE
  rw [List.map_filterMap]
  congr 1
  funext s
  unfold openE1
  by_cases h : s.mark.size = 0 ∨ lastM p s.unit = s.mark
  · rw [if_pos h, if_pos h]; rfl
  · rw [if_neg h, if_neg h, until_snoc _ _ _ _ hl]
    simp only [Option.map_some]
    congr 1
    unfold closeE
    by_cases h2 : untilF s.mark s.unit l = 1048576 ∧ markIn x s.unit ≠ s.mark
    · rw [if_pos h2, if_pos h2]; rfl
    · rw [if_neg h2, if_neg h2]
def lastS (p : Option Shot) : List Shot → Option Shot
  | [] => p
  | x :: r => lastS (some x) r
theorem lastS_snoc (x : Shot) : ∀ (l : List Shot) (p : Option Shot), lastS p (l ++ [x]) = some x
  | [], _ => rfl
  | y :: l, _ => lastS_snoc x l (some y)
theorem refG_snoc (x : Shot) : ∀ (l : List Shot) (p : Option Shot), (∀ y ∈ l, y.day ≤ 1048575) → refG p (l ++ [x]) = (refG p l).map (closeE x) ++ openE (lastS p l) [x] x
  | [], p, _ => by simp [refG, lastS]
  | y :: l, p, hl => by
    rw [List.cons_append, refG, refG, refG_snoc x l (some y) (fun z hz => hl z (by simp [hz])), List.map_append, ← List.cons_append, open_snoc p x y (y :: l) hl, List.append_assoc]
    rfl

/-- the map leads to the entries that are open, and to no others -/
def NA (out : List Given) (now : Int → Option Int) : Prop := ∀ u k, now u = some k ↔ 0 ≤ k ∧ ∃ g, out[k.toNat]? = some g ∧ g.unit = u ∧ g.until_ = 1048576
theorem NA.at_ {out : List Given} {now : Int → Option Int} (h : NA out now) {j : Nat} {g : Given} (hg : out[j]? = some g) : now g.unit = some (j : Int) ↔ g.until_ = 1048576 := by
  rw [h]
  constructor
  · rintro ⟨_, g', hg', _, h2⟩
    rw [Int.toNat_natCast, hg] at hg'
    injection hg' with hg'
    rw [hg']; exact h2
  · exact fun hu => ⟨by omega, g, by rw [Int.toNat_natCast]; exact hg, rfl, hu⟩
theorem NA.push {out : List Given} {now : Int → Option Int} (h : NA out now) (g : Given) (hu : g.until_ = 1048576) (hn : now g.unit = none) : NA (out ++ [g]) (upd now g.unit out.length) := by
  intro u k
  unfold upd
  by_cases he : u = g.unit
  · subst he
    rw [if_pos rfl]
    constructor
    · intro hk
      injection hk with hk
      subst hk
      exact ⟨by omega, g, by simp, rfl, hu⟩
    · rintro ⟨h0, g', hg', h1, h2⟩
      have hl := lt_of_at hg'
      rw [List.length_append, List.length_singleton] at hl
      by_cases hk : k.toNat < out.length
      · rw [List.getElem?_append_left hk] at hg'
        have := (h g.unit k).2 ⟨h0, g', hg', h1, h2⟩
        rw [hn] at this
        cases this
      · congr 1; omega
  · rw [if_neg he, h]
    constructor
    · rintro ⟨h0, g', hg', h1, h2⟩
      exact ⟨h0, g', by rw [List.getElem?_append_left (lt_of_at hg')]; exact hg', h1, h2⟩
    · rintro ⟨h0, g', hg', h1, h2⟩
      refine ⟨h0, g', ?_, h1, h2⟩
      by_cases hk : k.toNat < out.length
      · rwa [List.getElem?_append_left hk] at hg'
      · have hl := lt_of_at hg'
        rw [List.length_append, List.length_singleton] at hl
        rw [show k.toNat = out.length by omega] at hg'
        simp at hg'
        subst hg'
        exact absurd h1.symm he
def openN (now : Int → Option Int) (day : Int) (s : Standing) : Option Given := if now s.unit = none ∧ s.mark.size ≠ 0 then some ⟨s.mark, s.unit, day, 1048576⟩ else none
theorem openU_eq (day : Int) : ∀ (l : List Standing) (out : List Given) (now : Int → Option Int), l.Pairwise (fun s t => s.unit < t.unit) → NA out now →
    (openU day l out now).1 = out ++ l.filterMap (openN now day) ∧ NA (openU day l out now).1 (openU day l out now).2 ∧ (∀ u, now u ≠ none → (openU day l out now).2 u ≠ none) ∧ ∀ s ∈ l, s.mark.size ≠ 0 → (openU day l out now).2 s.unit ≠ none
  | [], out, now, _, h => ⟨by simp [openU], h, fun _ h => h, by simp⟩
  | s :: r, out, now, hp, h => by
    obtain ⟨h1, h2⟩ := List.pairwise_cons.1 hp
    unfold openU
    by_cases hc : now s.unit = none ∧ s.mark.size ≠ 0
    · rw [if_pos hc]
      obtain ⟨a1, a2, a3, a4⟩ := openU_eq day r (out ++ [⟨s.mark, s.unit, day, 1048576⟩]) (upd now s.unit out.length) h2 (h.push ⟨s.mark, s.unit, day, 1048576⟩ rfl hc.1)
      have hsame : r.filterMap (openN (upd now s.unit out.length) day) = r.filterMap (openN now day) := by
        refine filterMap_same fun t ht => ?_
        have := h1 t ht
        unfold openN upd
        rw [if_neg (show ¬ t.unit = s.unit by omega)]
      refine ⟨?_, a2, fun u hu => a3 u ?_, fun t ht hm => ?_⟩
      · have e : openN now day s = some ⟨s.mark, s.unit, day, 1048576⟩ := if_pos hc
        rw [a1, hsame, List.filterMap_cons, e, List.append_assoc]; rfl
      · unfold upd
        split
        · simp
        · exact hu
      · rcases List.mem_cons.1 ht with rfl | ht
        · exact a3 t.unit (by simp [upd])
        · exact a4 t ht hm
    · rw [if_neg hc]
      obtain ⟨a1, a2, a3, a4⟩ := openU_eq day r out now h2 h
      refine ⟨?_, a2, a3, fun t ht hm => ?_⟩
      · have e : openN now day s = none := if_neg hc
        rw [a1, List.filterMap_cons, e]
      · rcases List.mem_cons.1 ht with rfl | ht
        · exact a3 t.unit fun hn => hc ⟨hn, hm⟩
        · exact a4 t ht hm

structure NI (out : List Given) (now : Int → Option Int) (p : Option Shot) : Prop where
  na : NA out now
  open_ : ∀ g ∈ out, g.until_ = 1048576 → g.mark.size ≠ 0 ∧ lastM p g.unit = g.mark
  has : ∀ u, (lastM p u).size ≠ 0 → now u ≠ none
theorem keep_iff {x : Shot} {out : List Given} {j : Nat} {g : Given} (hg : out[j]? = some g) (hm : g.mark.size ≠ 0) : keepB x out g.unit j = decide (markIn x g.unit = g.mark) := by
  unfold keepB markIn findU
  rw [Int.toNat_natCast, hg]
  cases hf : x.units.find? (fun y => y.unit == g.unit) with
  | none =>
    simp only
    rw [Bool.eq_iff_iff]
    simp only [Bool.false_eq_true, decide_eq_true_eq, false_iff]
    intro he
    rw [← he] at hm
    exact hm rfl
  | some y => rfl
theorem NI.close {out : List Given} {now : Int → Option Int} {p : Option Shot} (h : NI out now p) (x : Shot) : closeOut x out now = out.map (closeE x) := by
  apply List.ext_getElem?
  intro j
  by_cases hj : j < out.length
  · obtain ⟨g, hg⟩ := get_at out hj
    rw [closeOut_at x out now j g hg, List.getElem?_map, hg, Option.map_some]
    congr 1
    unfold closeE
    by_cases hu : g.until_ = 1048576
    · have hm := (h.open_ g (List.mem_of_getElem? hg) hu).1
      rw [keep_iff hg hm]
      simp [(h.na.at_ hg).2 hu, hu]
    · have : ¬ now g.unit = some (j : Int) := fun e => hu ((h.na.at_ hg).1 e)
      simp [this, hu]
  · rw [List.getElem?_eq_none (by rw [closeOut_len]; omega), List.getElem?_eq_none (by simp; omega)]
theorem NI.closeNow_iff {out : List Given} {now : Int → Option Int} {p : Option Shot} (h : NI out now p) (x : Shot) (u k : Int) : closeNow x out now u = some k ↔ now u = some k ∧ ∃ g, out[k.toNat]? = some g ∧ g.unit = u ∧ markIn x u = g.mark := by
  unfold closeNow
  cases hu : now u with
  | none => simp
  | some k' =>
    obtain ⟨h0, g, hg, h1, h2⟩ := (h.na u k').1 hu
    have hm := (h.open_ g (List.mem_of_getElem? hg) h2).1
    have hk := keep_iff (x := x) hg hm
    rw [h1, show ((k'.toNat : Nat) : Int) = k' by omega] at hk
    simp only [hk, decide_eq_true_eq]
    by_cases he : markIn x u = g.mark
    · rw [if_pos he]
      constructor
      · intro e
        injection e with e
        subst e
        exact ⟨rfl, g, hg, h1, he⟩
      · exact fun e => e.1
    · rw [if_neg he]
      constructor
      · intro e; cases e
      · rintro ⟨e, g', hg', _, he'⟩
        injection e with e
        subst e
        rw [hg] at hg'
        injection hg' with hg'
        subst hg'
        exact absurd he' he
theorem closeE_unit (x : Shot) (g : Given) : (closeE x g).unit = g.unit ∧ (closeE x g).mark = g.mark ∧ (closeE x g).from_ = g.from_ := by
  unfold closeE
  split <;> exact ⟨rfl, rfl, rfl⟩
theorem closeE_open {x : Shot} (hx : x.day ≤ 1048575) (g : Given) : (closeE x g).until_ = 1048576 ↔ g.until_ = 1048576 ∧ markIn x g.unit = g.mark := by
  unfold closeE
  by_cases h : g.until_ = 1048576 ∧ markIn x g.unit ≠ g.mark
  · rw [if_pos h]
    constructor
    · intro e
      have : x.day = 1048576 := e
      omega
    · exact fun e => absurd e.2 h.2
  · rw [if_neg h]
    constructor
    · intro e
      refine ⟨e, ?_⟩
      by_cases hm : markIn x g.unit = g.mark
      · exact hm
      · exact absurd ⟨e, hm⟩ h
    · exact fun e => e.1
theorem NI.step {out : List Given} {now : Int → Option Int} {p : Option Shot} (h : NI out now p) {x : Shot} (hx : OKs x) :
    (givenS (out, now) x).1 = out.map (closeE x) ++ openE p [x] x ∧ NI (givenS (out, now) x).1 (givenS (out, now) x).2 (some x) := by
  have hcl := h.close x
  have hna : NA (out.map (closeE x)) (closeNow x out now) := by
    intro u k
    rw [h.closeNow_iff, h.na]
    constructor
    · rintro ⟨⟨h0, g, hg, h1, h2⟩, g', hg', _, h4⟩
      rw [hg] at hg'
      injection hg' with hg'
      subst hg'
      subst h1
      exact ⟨h0, closeE x g, by rw [List.getElem?_map, hg]; rfl, (closeE_unit x g).1, (closeE_open hx.hi g).2 ⟨h2, h4⟩⟩
    · rintro ⟨h0, g', hg', h1, h2⟩
      rw [List.getElem?_map] at hg'
      obtain ⟨g, hg, rfl⟩ := Option.map_eq_some_iff.1 hg'
      rw [(closeE_unit x g).1] at h1
      subst h1
      obtain ⟨h3, h4⟩ := (closeE_open hx.hi g).1 h2
      exact ⟨⟨h0, g, hg, rfl, h3⟩, g, hg, rfl, h4⟩
  have hnone : ∀ s ∈ x.units, s.mark.size ≠ 0 → (closeNow x out now s.unit = none ↔ ¬ lastM p s.unit = s.mark) := by
    intro s hs hm
    have hmk := markIn_mem hx.asc hs
    constructor
    · intro hn he
      have h1 := h.has s.unit (by rw [he]; exact hm)
      cases hk : now s.unit with
      | none => exact h1 hk
      | some k =>
        obtain ⟨h0, g, hg, h2, h3⟩ := (h.na _ _).1 hk
        have h4 := (h.open_ g (List.mem_of_getElem? hg) h3).2
        rw [h2, he] at h4
        have := (h.closeNow_iff x s.unit k).2 ⟨hk, g, hg, h2, by rw [hmk, h4]⟩
        rw [hn] at this
        cases this
    · intro hne
      cases hk : closeNow x out now s.unit with
      | none => rfl
      | some k =>
        obtain ⟨h1, g, hg, h2, h3⟩ := (h.closeNow_iff x s.unit k).1 hk
        obtain ⟨_, g', hg', _, h5⟩ := (h.na _ _).1 h1
        rw [hg] at hg'
        injection hg' with hg'
        subst hg'
        have h4 := (h.open_ g (List.mem_of_getElem? hg) h5).2
        rw [h2] at h4
        exact absurd (by rw [h4, ← h3, hmk]) hne
  obtain ⟨a1, a2, a3, a4⟩ := openU_eq x.day x.units (out.map (closeE x)) (closeNow x out now) hx.asc hna
  have hst : givenS (out, now) x = openU x.day x.units (out.map (closeE x)) (closeNow x out now) := by
    show openU x.day x.units (closeOut x out now) (closeNow x out now) = _
    rw [hcl]
  rw [hst]
  have hop : x.units.filterMap (openN (closeNow x out now) x.day) = openE p [x] x := by
    unfold openE
    refine filterMap_same fun s hs => ?_
    unfold openN openE1
    by_cases hm : s.mark.size = 0
    · rw [if_neg (fun h => h.2 hm), if_pos (.inl hm)]
    · have := hnone s hs hm
      have hu : untilF s.mark s.unit [x] = 1048576 := by simp [untilF, markIn_mem hx.asc hs]
      by_cases hl : lastM p s.unit = s.mark
      · rw [if_neg (fun e => this.1 e.1 hl), if_pos (.inr hl)]
      · rw [if_pos ⟨this.2 hl, hm⟩, if_neg (fun h => h.elim hm hl), hu]
  refine ⟨by rw [a1, hop], a2, fun g hg hu => ?_, fun u hu => ?_⟩
  · rw [a1, List.mem_append] at hg
    rcases hg with hg | hg
    · obtain ⟨g0, hg0, rfl⟩ := List.mem_map.1 hg
      obtain ⟨h3, h4⟩ := (closeE_open hx.hi g0).1 hu
      rw [(closeE_unit x g0).1, (closeE_unit x g0).2.1]
      exact ⟨(h.open_ g0 hg0 h3).1, h4⟩
    · obtain ⟨s, hs, he⟩ := List.mem_filterMap.1 hg
      unfold openN at he
      by_cases hc : closeNow x out now s.unit = none ∧ s.mark.size ≠ 0
      · rw [if_pos hc] at he
        injection he with he
        subst he
        exact ⟨hc.2, markIn_mem hx.asc hs⟩
      · rw [if_neg hc] at he; cases he
  · obtain ⟨s, hs, h1, h2⟩ := markIn_has (x := x) (u := u) hu
    rw [← h1]
    exact a4 s hs (by rw [h2]; exact hu)
theorem fold_given : ∀ (r pre : List Shot) (st : List Given × (Int → Option Int)), (∀ x ∈ pre ++ r, OKs x) → NI st.1 st.2 (lastS none pre) → st.1 = refG none pre → (r.foldl givenS st).1 = refG none (pre ++ r)
  | [], pre, st, _, _, h => by simpa using h
  | x :: r, pre, (out, now), ho, hn, h => by
    obtain ⟨h1, h2⟩ := hn.step (ho x (by simp))
    have hd : ∀ y ∈ pre, y.day ≤ 1048575 := fun y hy => (ho y (by simp [hy])).hi
    have := fold_given r (pre ++ [x]) (givenS (out, now) x) (by simpa using ho) (by rw [lastS_snoc]; exact h2) (by rw [refG_snoc x pre none hd, h1, h])
    simpa using this
theorem given_eq {hs : List Shot} (h : progCheck hs = 0) : givenP hs = refG none hs := by
  have := fold_given hs [] ([], fun _ => none) (by simpa using oks_of hs _ _ (good_of h).2) ⟨fun u k => by simp, by simp, fun u hu => absurd rfl hu⟩ rfl
  exact this
def refCollect (hs : List Shot) : List Given := (refG none hs).foldl insG []
theorem collect_eq {hs : List Shot} (h : progCheck hs = 0) : collectL hs = refCollect hs := by
  unfold collectL refCollect
  rw [given_eq h]
end Go.Proofs.Ytgnaknanpgfpnaa
