/- What the marks of a history say: days, one holder each, longer histories. Plain lists; no program in sight. -/
import Derived.Test.YtgnaknanpgfpnaaPlainD
namespace Go.Proofs.Ytgnaknanpgfpnaa

/-- the shot in force on a day -/
def atS (d : Int) : Option Shot → List Shot → Option Shot
  | p, [] => p
  | p, x :: r => atS d (if x.day ≤ d then some x else p) r
def shotAt (hs : List Shot) (i : Int) : Option Shot := if i < 0 then none else hs[i.toNat]?
theorem atG_shot (d : Int) : ∀ (l pre : List Shot) (o : Int), shotAt (pre ++ l) (atG d l pre.length o) = atS d (shotAt (pre ++ l) o) l
  | [], _, _ => rfl
  | x :: l, pre, o => by
    have ih := atG_shot d l (pre ++ [x]) (if x.day ≤ d then (pre.length : Int) else o)
    have e : shotAt (pre ++ x :: l) (if x.day ≤ d then (pre.length : Int) else o) = if x.day ≤ d then some x else shotAt (pre ++ x :: l) o := by
      split
      · simp [shotAt]
      · rfl
    simp only [List.append_assoc, List.singleton_append, List.length_append, List.length_singleton] at ih
    rw [atG, atS, ih, e]
theorem stand_at {hs : List Shot} (h : progCheck hs = 0) (u d : Int) : progStanding hs u d = (atS d none hs).bind fun s => findU s.units u := by
  rw [standing_eq]
  unfold refStanding refAt
  rw [← progCheck_eq, if_neg (by simp [h])]
  have := atG_shot d hs [] (-1)
  simp only [List.nil_append, List.length_nil] at this
  rw [show shotAt hs (-1) = none from rfl] at this
  rw [← this]
  unfold standF shotAt
  split
  · rfl
  · cases hs[(atG d hs 0 (-1)).toNat]? <;> rfl
def stHas (o : Option Standing) (m : ByteArray) : Bool := match o with
  | none => false
  | some s => decide (s.mark = m)
theorem stHas_last {hs : List Shot} (h : progCheck hs = 0) (u d : Int) {m : ByteArray} (hm : m.size ≠ 0) : stHas (progStanding hs u d) m = decide (lastM (atS d none hs) u = m) := by
  rw [stand_at h, Bool.eq_iff_iff, decide_eq_true_eq]
  cases ha : atS d none hs with
  | none =>
    constructor
    · intro e; cases e
    · intro e
      rw [← e] at hm
      exact absurd rfl hm
  | some s =>
    show stHas (findU s.units u) m = true ↔ markIn s u = m
    unfold markIn
    cases hf : findU s.units u with
    | none =>
      constructor
      · intro e; cases e
      · intro e
        rw [← e] at hm
        exact absurd rfl hm
    | some y => exact decide_eq_true_iff
def covers (m : ByteArray) (u d : Int) (g : Given) : Bool := decide (g.mark = m) && decide (g.unit = u) && decide (g.from_ ≤ d) && (decide (d < g.until_) || decide (g.until_ = 1048576))

theorem from_day {g : Given} : ∀ {hs : List Shot} {p : Option Shot}, g ∈ refG p hs → ∃ z ∈ hs, g.from_ = z.day
  | [], _, h => by simp [refG] at h
  | x :: r, p, h => by
    rw [refG, List.mem_append] at h
    rcases h with h | h
    · obtain ⟨s, _, he⟩ := List.mem_filterMap.1 h
      unfold openE1 at he
      split at he
      · cases he
      · injection he with he
        subst he
        exact ⟨x, by simp, rfl⟩
    · obtain ⟨z, hz, e⟩ := from_day h
      exact ⟨z, by simp [hz], e⟩
theorem until_gt (m : ByteArray) (u d : Int) : ∀ l : List Shot, (∀ y ∈ l, d < y.day) → d < 1048576 → d < untilF m u l
  | [], _, h => h
  | y :: l, hl, h => by
    unfold untilF
    split
    · exact until_gt m u d l (fun z hz => hl z (by simp [hz])) h
    · exact hl y (by simp)
theorem open_mem {p : Option Shot} {xr : List Shot} {x : Shot} {g : Given} (hx : OKs x) (h : g ∈ openE p xr x) : g.mark.size ≠ 0 ∧ markIn x g.unit = g.mark ∧ lastM p g.unit ≠ g.mark ∧ g.from_ = x.day ∧ g.until_ = untilF g.mark g.unit xr := by
  obtain ⟨s, hs, he⟩ := List.mem_filterMap.1 h
  unfold openE1 at he
  by_cases hc : s.mark.size = 0 ∨ lastM p s.unit = s.mark
  · rw [if_pos hc] at he; cases he
  · rw [if_neg hc] at he
    injection he with he
    subst he
    exact ⟨fun e => hc (.inl e), markIn_mem hx.asc hs, fun e => hc (.inr e), rfl, rfl⟩
theorem mem_open {p : Option Shot} {xr : List Shot} {x : Shot} {u : Int} (hm : (markIn x u).size ≠ 0) (hl : lastM p u ≠ markIn x u) : (⟨markIn x u, u, x.day, untilF (markIn x u) u xr⟩ : Given) ∈ openE p xr x := by
  obtain ⟨s, hs, h1, h2⟩ := markIn_has hm
  refine List.mem_filterMap.2 ⟨s, hs, ?_⟩
  unfold openE1
  rw [h1, h2, if_neg (fun e => e.elim hm hl)]
theorem atS_late (d : Int) : ∀ (l : List Shot) (p : Option Shot), (∀ y ∈ l, d < y.day) → atS d p l = p
  | [], _, _ => rfl
  | y :: l, p, h => by
    have := h y (by simp)
    rw [atS, if_neg (by omega)]
    exact atS_late d l p fun z hz => h z (by simp [hz])
theorem cover_all (m : ByteArray) (u d : Int) (hm : m.size ≠ 0) : ∀ (hs : List Shot) (p : Option Shot), (∀ x ∈ hs, OKs x) → hs.Pairwise (fun s t => s.day < t.day) →
    (((∃ g ∈ refG p hs, covers m u d g = true) ∨ (lastM p u = m ∧ (d < untilF m u hs ∨ untilF m u hs = 1048576))) ↔ lastM (atS d p hs) u = m)
  | [], p, _, _ => by simp [refG, untilF, atS]
  | x :: r, p, ho, hd => by
    have hx := ho x (by simp)
    obtain ⟨hd1, hd2⟩ := List.pairwise_cons.1 hd
    by_cases hle : x.day ≤ d
    · have ih := cover_all m u d hm r (some x) (fun y hy => ho y (by simp [hy])) hd2
      rw [atS, if_pos hle, ← ih]
      have hlx : lastM (some x) u = markIn x u := rfl
      rw [hlx]
      by_cases hmx : markIn x u = m
      · have hu : untilF m u (x :: r) = untilF m u r := by rw [untilF, if_pos hmx]
        rw [hu]
        constructor
        · rintro (⟨g, hg, hc⟩ | ⟨_, h2⟩)
          · rw [refG, List.mem_append] at hg
            rcases hg with hg | hg
            · obtain ⟨_, _, _, _, h5⟩ := open_mem hx hg
              unfold covers at hc
              simp only [Bool.and_eq_true, Bool.or_eq_true, decide_eq_true_eq] at hc
              obtain ⟨⟨⟨e1, e2⟩, _⟩, e3⟩ := hc
              rw [h5, e1, e2, hu] at e3
              exact .inr ⟨hmx, e3⟩
            · exact .inl ⟨g, hg, hc⟩
          · exact .inr ⟨hmx, h2⟩
        · rintro (⟨g, hg, hc⟩ | ⟨_, h2⟩)
          · exact .inl ⟨g, by rw [refG, List.mem_append]; exact .inr hg, hc⟩
          · by_cases hl : lastM p u = m
            · exact .inr ⟨hl, h2⟩
            · refine .inl ⟨_, by rw [refG, List.mem_append]; exact .inl (mem_open (p := p) (xr := x :: r) (x := x) (u := u) (by rw [hmx]; exact hm) (by rw [hmx]; exact hl)), ?_⟩
              rw [hmx, hu]
              simp [covers, hle, h2]
      · have hu : untilF m u (x :: r) = x.day := by rw [untilF, if_neg hmx]
        have hhi := hx.hi
        constructor
        · rintro (⟨g, hg, hc⟩ | ⟨_, h2⟩)
          · rw [refG, List.mem_append] at hg
            rcases hg with hg | hg
            · obtain ⟨_, h3, _⟩ := open_mem hx hg
              unfold covers at hc
              simp only [Bool.and_eq_true, decide_eq_true_eq] at hc
              rw [hc.1.1.1, hc.1.1.2] at h3
              exact absurd h3 hmx
            · exact .inl ⟨g, hg, hc⟩
          · rw [hu] at h2; omega
        · rintro (⟨g, hg, hc⟩ | ⟨h1, _⟩)
          · exact .inl ⟨g, by rw [refG, List.mem_append]; exact .inr hg, hc⟩
          · exact absurd h1 hmx
    · have hlate : ∀ y ∈ x :: r, d < y.day := by
        intro y hy
        rcases List.mem_cons.1 hy with rfl | hy
        · omega
        · have := hd1 y hy; omega
      rw [atS_late d _ p hlate]
      have hhi := hx.hi
      constructor
      · rintro (⟨g, hg, hc⟩ | ⟨h1, _⟩)
        · obtain ⟨z, hz, e⟩ := from_day hg
          have := hlate z hz
          unfold covers at hc
          simp only [Bool.and_eq_true, decide_eq_true_eq] at hc
          have := hc.1.2
          omega
        · exact h1
      · exact fun h1 => .inr ⟨h1, .inl (until_gt m u d _ hlate (by omega))⟩
theorem days_law {hs : List Shot} (h : progCheck hs = 0) (u d : Int) {m : ByteArray} (hm : m.size ≠ 0) : (collectL hs).any (covers m u d) = stHas (progStanding hs u d) m := by
  have := cover_all m u d hm hs none (oks_of hs _ _ (good_of h).2) (days_pair hs _ none (good_of h).2).2
  rw [stHas_last h u d hm, Bool.eq_iff_iff, decide_eq_true_eq, ← this, List.any_eq_true, collect_eq h]
  constructor
  · rintro ⟨g, hg, hc⟩
    exact .inl ⟨g, refCollect_mem.1 hg, hc⟩
  · rintro (⟨g, hg, hc⟩ | ⟨h1, _⟩)
    · exact ⟨g, refCollect_mem.2 hg, hc⟩
    · rw [← h1] at hm
      exact absurd rfl hm

theorem holder_of {hs : List Shot} (h : progCheck hs = 0) {g : Given} (hg : g ∈ refCollect hs) : progHolder hs g.mark = (g.unit, true) := by
  unfold progHolder holderF
  rw [if_neg (by simp [h]), collect_eq h]
  cases hf : (refCollect hs).find? (fun x => decide (x.mark = g.mark)) with
  | none =>
    rw [List.find?_eq_none] at hf
    exact absurd (by simp) (hf g hg)
  | some y =>
    have h1 := List.find?_some hf
    have h2 := List.mem_of_find?_eq_some hf
    simp only [decide_eq_true_eq] at h1
    simp only
    rw [collect_unit h h2 hg h1]
theorem until_lt (m : ByteArray) (u : Int) {b : Given} (hbm : b.mark = m) (hbu : b.unit = u) : ∀ (hs : List Shot) (p : Option Shot), (∀ x ∈ hs, OKs x) → hs.Pairwise (fun s t => s.day < t.day) → b ∈ refG p hs → lastM p u = m → untilF m u hs < b.from_
  | [], _, _, _, hb, _ => by simp [refG] at hb
  | x :: r, p, ho, hd, hb, hl => by
    have hx := ho x (by simp)
    obtain ⟨hd1, hd2⟩ := List.pairwise_cons.1 hd
    rw [refG, List.mem_append] at hb
    have hno : ¬ b ∈ openE p (x :: r) x := fun hb => by
      obtain ⟨_, _, h3, _⟩ := open_mem hx hb
      rw [hbm, hbu] at h3
      exact h3 hl
    have hb2 := hb.resolve_left hno
    unfold untilF
    by_cases hmx : markIn x u = m
    · rw [if_pos hmx]
      exact until_lt m u hbm hbu r (some x) (fun y hy => ho y (by simp [hy])) hd2 hb2 hmx
    · rw [if_neg hmx]
      obtain ⟨z, hz, e⟩ := from_day hb2
      rw [e]
      exact hd1 z hz
def Sep (a b : Given) : Prop := a.mark = b.mark → a.unit = b.unit → a.until_ < b.from_
theorem open_pair (p : Option Shot) (xr : List Shot) (day : Int) : ∀ l : List Standing, l.Pairwise (fun s t => s.unit < t.unit) → (l.filterMap (openE1 p xr day)).Pairwise fun a b => a.unit < b.unit := by
  intro l hl
  rw [List.pairwise_filterMap]
  refine hl.imp ?_
  intro s t hst a ha b hb
  unfold openE1 at ha hb
  split at ha
  · cases ha
  · split at hb
    · cases hb
    · injection ha with ha
      injection hb with hb
      subst ha hb
      exact hst
theorem refG_sep : ∀ (hs : List Shot) (p : Option Shot), (∀ x ∈ hs, OKs x) → hs.Pairwise (fun s t => s.day < t.day) → (refG p hs).Pairwise Sep ∧ ∀ g ∈ refG p hs, g.from_ < g.until_ ∧ g.mark.size ≠ 0
  | [], _, _, _ => ⟨List.Pairwise.nil, by simp [refG]⟩
  | x :: r, p, ho, hd => by
    have hx := ho x (by simp)
    have ho2 : ∀ y ∈ r, OKs y := fun y hy => ho y (by simp [hy])
    obtain ⟨hd1, hd2⟩ := List.pairwise_cons.1 hd
    obtain ⟨i1, i2⟩ := refG_sep r (some x) ho2 hd2
    have hhi := hx.hi
    refine ⟨?_, fun g hg => ?_⟩
    · rw [refG, List.pairwise_append]
      refine ⟨?_, i1, fun a ha b hb hm hu => ?_⟩
      · exact (open_pair p (x :: r) x.day x.units hx.asc).imp (fun {a b} h _ e => by omega)
      · obtain ⟨_, h2, _, _, h5⟩ := open_mem hx ha
        rw [h5, untilF, if_pos h2]
        exact until_lt a.mark a.unit hm.symm hu.symm r (some x) ho2 hd2 hb h2
    · rw [refG, List.mem_append] at hg
      rcases hg with hg | hg
      · obtain ⟨h1, h2, _, h4, h5⟩ := open_mem hx hg
        refine ⟨?_, h1⟩
        rw [h4, h5, untilF, if_pos h2]
        exact until_gt _ _ _ r hd1 (by omega)
      · exact i2 g hg
theorem pairwise_two {α : Type} {R : α → α → Prop} : ∀ {l : List α}, l.Pairwise R → ∀ {a b : α}, a ∈ l → b ∈ l → a ≠ b → R a b ∨ R b a
  | [], _, _, _, ha, _, _ => by cases ha
  | x :: l, h, a, b, ha, hb, hne => by
    obtain ⟨h1, h2⟩ := List.pairwise_cons.1 h
    rcases List.mem_cons.1 ha with rfl | ha' <;> rcases List.mem_cons.1 hb with rfl | hb'
    · exact absurd rfl hne
    · exact .inl (h1 b hb')
    · exact .inr (h1 a ha')
    · exact pairwise_two h2 ha' hb' hne
theorem marksG_mono (u : Int) (m : ByteArray) : ∀ (l : List Given) (acc : List ByteArray), hasB acc m = true → hasB (marksG u l acc) m = true
  | [], _, h => h
  | g :: l, acc, h => by
    unfold marksG
    split
    · exact marksG_mono u m l _ (by rw [hasB_snoc, h]; rfl)
    · exact marksG_mono u m l acc h
theorem marksG_has (u : Int) {g : Given} (hu : g.unit = u) : ∀ (l : List Given) (acc : List ByteArray), g ∈ l → hasB (marksG u l acc) g.mark = true
  | [], _, h => by cases h
  | x :: l, acc, h => by
    unfold marksG
    rcases List.mem_cons.1 h with rfl | h
    · by_cases hh : hasB acc g.mark = false
      · rw [if_pos ⟨hu, hh⟩]
        exact marksG_mono u _ l _ (by rw [hasB_snoc]; simp)
      · rw [if_neg (fun e => hh e.2)]
        exact marksG_mono u _ l acc (by simpa using hh)
    · split
      · exact marksG_has u hu l _ h
      · exact marksG_has u hu l acc h
structure OneOK (hs : List Shot) (prev : Option Given) (g : Given) : Prop where
  holder : progHolder hs g.mark = (g.unit, true)
  days : g.from_ < g.until_
  mark : g.mark.size ≠ 0
  marks : hasB (progMarks hs g.unit) g.mark = true
  prev : ∀ a, prev = some a → lessB g.mark a.mark = false ∧ (a.mark = g.mark → a.unit = g.unit ∧ a.until_ < g.from_)
theorem one_law {hs : List Shot} (h : progCheck hs = 0) {i : Nat} {g : Given} (hg : (collectL hs)[i]? = some g) : OneOK hs (prevAt (collectL hs) i) g := by
  have hok := oks_of hs _ _ (good_of h).2
  have hdp := (days_pair hs _ none (good_of h).2).2
  obtain ⟨s1, s2⟩ := refG_sep hs none hok hdp
  have hk := (given_keys hs _ none ([], fun _ => none) (good_of h).2 (by simp) (by simp)).1
  have hk2 : ((refG none hs).map keyG).Nodup := by rw [← given_eq h]; exact hk
  have hk3 : ((refCollect hs).map keyG).Nodup := ((refCollect_perm hs).map keyG).nodup_iff.2 hk2
  rw [collect_eq h] at hg ⊢
  have hmem := List.mem_of_getElem? hg
  have hmG := refCollect_mem.1 hmem
  refine ⟨holder_of h hmem, (s2 g hmG).1, (s2 g hmG).2, ?_, fun a ha => ?_⟩
  · unfold progMarks
    rw [if_neg (by simp [h]), given_eq h]
    exact marksG_has g.unit rfl _ _ hmG
  · unfold prevAt at ha
    by_cases hi : i = 0
    · rw [if_pos hi] at ha; cases ha
    · rw [if_neg hi] at ha
      have hsrt := refCollect_sorted hs
      have hlt : ltG g a = false := by
        have := List.pairwise_iff_getElem.1 hsrt (i - 1) i (lt_of_at ha) (lt_of_at hg) (by omega)
        rw [(List.getElem?_eq_some_iff.1 ha).2, (List.getElem?_eq_some_iff.1 hg).2] at this
        exact this
      have hne : a ≠ g := by
        intro e
        subst e
        have hn := List.pairwise_iff_getElem.1 hk3 (i - 1) i (by simpa using lt_of_at ha) (by simpa using lt_of_at hg) (by omega)
        rw [List.getElem_map, List.getElem_map, (List.getElem?_eq_some_iff.1 ha).2, (List.getElem?_eq_some_iff.1 hg).2] at hn
        exact hn rfl
      have hma := List.mem_of_getElem? ha
      refine ⟨sorted_less hlt, fun hm => ?_⟩
      have hu := collect_unit h hma hmem hm
      refine ⟨hu, ?_⟩
      have hfr : ¬ g.from_ < a.from_ := fun hc => by
        unfold ltG at hlt
        simp [hm, hc] at hlt
      rcases pairwise_two s1 (refCollect_mem.1 hma) hmG hne with hs' | hs'
      · exact hs' hm hu
      · have h1 := hs' hm.symm hu.symm
        have h2 := (s2 g hmG).1
        omega

theorem check_front : ∀ (hs : List Shot) (x : Shot) (f : ByteArray → Option Int) (prev : Option Shot), checkP f prev (hs ++ [x]) = 0 → checkP f prev hs = 0
  | [], _, _, _, _ => rfl
  | y :: r, x, f, prev, h => by
    rw [List.cons_append] at h
    unfold checkP at h ⊢
    by_cases hp : preE prev y ≠ 0
    · rw [if_pos hp] at h ⊢; exact h
    · rw [if_neg hp] at h ⊢
      cases hf : holdU f y.units with
      | none => rw [hf] at h; exact h
      | some f' => rw [hf] at h; exact check_front r x f' (some y) h
theorem check_longer {hs : List Shot} {x : Shot} (h : progCheck (hs ++ [x]) = 0) : progCheck hs = 0 := by
  obtain ⟨h1, h2⟩ := good_of h
  unfold progCheck
  rw [List.length_append, List.length_singleton] at h1
  rw [if_neg (by omega)]
  exact check_front hs x _ _ h2
def grownG (g : Given) (day : Int) (x : Given) : Bool := decide (x.mark = g.mark) && decide (x.unit = g.unit) && decide (x.from_ = g.from_) && (decide (x.until_ = g.until_) || (decide (g.until_ = 1048576) && decide (x.until_ = day)))
theorem grows_law {hs : List Shot} {x : Shot} (h : progCheck (hs ++ [x]) = 0) {g : Given} (hg : g ∈ collectL hs) : progHolder (hs ++ [x]) g.mark = (g.unit, true) ∧ (collectL (hs ++ [x])).any (grownG g x.day) = true := by
  have h0 := check_longer h
  rw [collect_eq h0] at hg
  have hmem : closeE x g ∈ refCollect (hs ++ [x]) := by
    rw [refCollect_mem, refG_snoc x hs none (fun y hy => (oks_of hs _ _ (good_of h0).2 y hy).hi), List.mem_append]
    exact .inl (List.mem_map.2 ⟨g, refCollect_mem.1 hg, rfl⟩)
  obtain ⟨c1, c2, c3⟩ := closeE_unit x g
  refine ⟨?_, ?_⟩
  · have := holder_of h hmem
    rwa [c1, c2] at this
  · rw [collect_eq h, List.any_eq_true]
    refine ⟨_, hmem, ?_⟩
    unfold grownG
    simp only [Bool.and_eq_true, Bool.or_eq_true, decide_eq_true_eq]
    refine ⟨⟨⟨c2, c1⟩, c3⟩, ?_⟩
    unfold closeE
    split
    · rename_i hc
      exact .inr ⟨hc.1, rfl⟩
    · exact .inl rfl
end Go.Proofs.Ytgnaknanpgfpnaa
