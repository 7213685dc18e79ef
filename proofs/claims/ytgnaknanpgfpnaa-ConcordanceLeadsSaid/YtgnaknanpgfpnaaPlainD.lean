/- Holder, Marks, Standing and Table of the program are the reference's. Plain lists; no program in sight. -/
import Derived.Test.YtgnaknanpgfpnaaRefK
namespace Go.Proofs.Ytgnaknanpgfpnaa

/-- one mark, one unit: from the check -/
theorem one_all : ∀ (hs : List Shot) (f : ByteArray → Option Int) (prev : Option Shot) (U : List Standing), checkP f prev hs = 0 → Holds1 f U → ∃ f', Holds1 f' (U ++ allUnits hs)
  | [], f, _, U, _, h => ⟨f, by simpa [allUnits] using h⟩
  | x :: r, f, prev, U, h, hH => by
    obtain ⟨_, f', hf, hr⟩ := good_cons h
    obtain ⟨f2, h2⟩ := one_all r f' (some x) (U ++ x.units) hr ((hold_all x.units f U hH).1 f' hf)
    exact ⟨f2, by simpa [allUnits] using h2⟩
theorem one_unit {hs : List Shot} (h : progCheck hs = 0) {y z : Standing} (hy : y ∈ allUnits hs) (hz : z ∈ allUnits hs) (hm : y.mark.size ≠ 0) (he : y.mark = z.mark) : y.unit = z.unit := by
  obtain ⟨f, hf⟩ := one_all hs _ none [] (good_of h).2 (fun m _ => ⟨by simp, by simp, by simp⟩)
  rw [List.nil_append] at hf
  obtain ⟨h1, h2, _⟩ := hf y.mark hm
  cases hfm : f y.mark with
  | none => exact absurd rfl (h2 hfm y hy)
  | some u => rw [h1 u hfm y hy rfl, h1 u hfm z hz he.symm]
theorem refG_mem {g : Given} : ∀ {hs : List Shot} {p : Option Shot}, g ∈ refG p hs → ∃ s ∈ allUnits hs, s.mark = g.mark ∧ s.unit = g.unit ∧ s.mark.size ≠ 0
  | [], _, h => by simp [refG] at h
  | x :: r, p, h => by
    rw [refG, List.mem_append] at h
    rcases h with h | h
    · obtain ⟨s, hs, he⟩ := List.mem_filterMap.1 h
      unfold openE1 at he
      split at he
      · cases he
      · rename_i hc
        injection he with he
        subst he
        exact ⟨s, by simp [allUnits, hs], rfl, rfl, fun e => hc (.inl e)⟩
    · obtain ⟨s, hs, h1⟩ := refG_mem h
      exact ⟨s, by simp only [allUnits, List.flatMap_cons, List.mem_append]; exact .inr hs, h1⟩
theorem refCollect_perm (hs : List Shot) : (refCollect hs).Perm (refG none hs) := by
  have := (foldl_ins (refG none hs) [] List.Pairwise.nil).2
  rwa [List.append_nil] at this
theorem refCollect_sorted (hs : List Shot) : sortedG (refCollect hs) := (foldl_ins (refG none hs) [] List.Pairwise.nil).1
theorem refCollect_mem {hs : List Shot} {g : Given} : g ∈ refCollect hs ↔ g ∈ refG none hs := (refCollect_perm hs).mem_iff
theorem collect_unit {hs : List Shot} (h : progCheck hs = 0) {a b : Given} (ha : a ∈ refCollect hs) (hb : b ∈ refCollect hs) (he : a.mark = b.mark) : a.unit = b.unit := by
  obtain ⟨s, hs1, h1, h2, h3⟩ := refG_mem (refCollect_mem.1 ha)
  obtain ⟨t, ht1, k1, k2, k3⟩ := refG_mem (refCollect_mem.1 hb)
  rw [← h2, ← k2]
  exact one_unit h hs1 ht1 h3 (by rw [h1, k1, he])

theorem now_eq (hs : List Shot) (u : Int) : markAt hs ((hs.length : Int) - 1) u = nowMark hs u := by
  unfold markAt nowMark
  by_cases h : (hs.length : Int) - 1 < 0
  · rw [if_pos h, List.getElem?_eq_none (by omega)]
  · rw [if_neg h, show ((hs.length : Int) - 1).toNat = hs.length - 1 by omega]
    cases hs[hs.length - 1]? <;> rfl
theorem lastMk_snoc (acc : List (ByteArray × ByteArray)) (x : ByteArray × ByteArray) : lastMk (acc ++ [x]) = some x.1 := by simp [lastMk]
theorem mid_eq {a b c : ByteArray} (h1 : lessB b a = false) (h2 : lessB c b = false) (h : a = c) : b = a := by
  subst h
  rcases lessB_tri b a with h | h | h
  · rw [h] at h1; cases h1
  · exact h
  · rw [h] at h2; cases h2
theorem sorted_less {a b : Given} (h : ltG b a = false) : lessB b.mark a.mark = false := by
  unfold ltG at h
  exact (Bool.or_eq_false_iff.1 h).1
theorem tab_eq (hs : List Shot) : ∀ (l : List Given) (p : Option Given) (acc : List (ByteArray × ByteArray)), sortedG (p.toList ++ l) → (∀ a ∈ p.toList ++ l, ∀ b ∈ p.toList ++ l, a.mark = b.mark → a.unit = b.unit) →
    (∀ q, p = some q → (nowMark hs q.unit = q.mark ∨ lastMk acc = some q.mark)) → (∀ g ∈ l, lastMk acc = some g.mark → p.map (·.mark) = some g.mark) → rtabG hs l acc = acc ++ tableG hs p l
  | [], p, acc, _, _, _, _ => by simp [rtabG, tableG]
  | g :: l, p, acc, hsrt, hone, h1, h2 => by
    have hsrt' : sortedG ((some g).toList ++ l) := by
      have : (g :: l).Sublist (p.toList ++ g :: l) := List.sublist_append_right _ _
      exact hsrt.sublist this
    have hone' : ∀ a ∈ (some g).toList ++ l, ∀ b ∈ (some g).toList ++ l, a.mark = b.mark → a.unit = b.unit := fun a ha b hb => hone a (List.mem_append_right _ ha) b (List.mem_append_right _ hb)
    have hnext : ∀ t ∈ l, lastMk acc = some t.mark → (some g).map (·.mark) = some t.mark := by
      intro t ht hl
      have hp := h2 t (by simp [ht]) hl
      cases p with
      | none => cases hp
      | some q =>
        simp only [Option.map_some, Option.some.injEq] at hp ⊢
        have hs2 : sortedG (q :: g :: l) := hsrt
        obtain ⟨a1, a2⟩ := List.pairwise_cons.1 hs2
        obtain ⟨b1, _⟩ := List.pairwise_cons.1 a2
        rw [mid_eq (sorted_less (a1 g (by simp))) (sorted_less (b1 t ht)) hp]
        exact hp
    unfold rtabG tableG
    rw [now_eq]
    by_cases hpg : p.map (·.mark) = some g.mark
    · rw [if_pos hpg]
      cases p with
      | none => cases hpg
      | some q =>
        simp only [Option.map_some, Option.some.injEq] at hpg
        have hu : q.unit = g.unit := hone q (by simp) g (by simp) hpg
        have hq := h1 q rfl
        rw [hu, hpg] at hq
        rw [if_pos hq]
        exact tab_eq hs l (some g) acc hsrt' hone' (fun q' hq' => by injection hq' with hq'; subst hq'; exact hq) hnext
    · rw [if_neg hpg]
      have hl : ¬ lastMk acc = some g.mark := fun e => hpg (h2 g (by simp) e)
      by_cases hn : nowMark hs g.unit = g.mark
      · rw [if_pos (.inl hn), if_pos hn]
        exact tab_eq hs l (some g) acc hsrt' hone' (fun q' hq' => by injection hq' with hq'; subst hq'; exact .inl hn) hnext
      · rw [if_neg (fun e => e.elim hn hl), if_neg hn, tab_eq hs l (some g) _ hsrt' hone' (fun q' hq' => by injection hq' with hq'; subst hq'; exact .inr (lastMk_snoc _ _)) (fun t _ e => by rw [lastMk_snoc] at e; exact e)]
        simp
theorem table_eq (hs : List Shot) : progTable hs = refTable hs := by
  unfold progTable refTable
  rw [← progCheck_eq]
  by_cases h : progCheck hs = 0
  · rw [if_neg (by simp [h]), if_neg (by simp [h]), collect_eq h]
    exact (tab_eq hs (refCollect hs) none [] (refCollect_sorted hs) (fun a ha b hb => collect_unit h ha hb) (by simp) (by simp [lastMk])).symm
  · rw [if_pos h, if_pos h]
theorem holder_eq (hs : List Shot) (m : ByteArray) : progHolder hs m = refHolder hs m := by
  unfold progHolder refHolder
  rw [← progCheck_eq]
  by_cases h : progCheck hs = 0
  · rw [if_neg (by simp [h]), if_neg (by simp [h]), collect_eq h]
  · rw [if_pos h, if_pos h]
theorem standing_eq (hs : List Shot) (u d : Int) : progStanding hs u d = refStanding hs u d := by
  unfold progStanding refStanding
  rw [progAt_eq]

theorem marksG_append (u : Int) : ∀ (a b : List Given) (acc : List ByteArray), marksG u (a ++ b) acc = marksG u b (marksG u a acc)
  | [], b, acc => rfl
  | g :: a, b, acc => by
    rw [List.cons_append, marksG, marksG]
    split
    · exact marksG_append u a b _
    · exact marksG_append u a b _
theorem marks_units (u d : Int) (p : Option Shot) (xr : List Shot) : ∀ (l : List Standing) (acc : List ByteArray), l.Pairwise (fun s t => s.unit < t.unit) → marksG u (l.filterMap (openE1 p xr d)) acc = match findU l u with
    | none => acc
    | some s => if s.mark.size = 0 ∨ lastM p u = s.mark ∨ hasB acc s.mark = true then acc else acc ++ [s.mark]
  | [], acc, _ => rfl
  | s :: l, acc, hp => by
    obtain ⟨h1, h2⟩ := List.pairwise_cons.1 hp
    have ih := fun a => marks_units u d p xr l a h2
    rw [List.filterMap_cons]
    by_cases hs : s.unit = u
    · have hn : findU l u = none := by
        unfold findU
        rw [List.find?_eq_none]
        intro y hy
        have := h1 y hy
        simp; omega
      have hf : findU (s :: l) u = some s := by simp [findU, hs]
      have ih0 : ∀ a, marksG u (l.filterMap (openE1 p xr d)) a = a := fun a => by rw [ih a, hn]
      rw [hf]
      simp only
      by_cases hc : s.mark.size = 0 ∨ lastM p s.unit = s.mark
      · have e : openE1 p xr d s = none := if_pos hc
        rw [e]
        simp only
        rw [ih0, if_pos (by rcases hc with hc | hc; exact .inl hc; exact .inr (.inl (by rw [← hs]; exact hc)))]
      · have e : openE1 p xr d s = some ⟨s.mark, s.unit, d, untilF s.mark s.unit xr⟩ := if_neg hc
        rw [e]
        simp only
        rw [marksG]
        cases hh : hasB acc s.mark
        · rw [if_pos ⟨hs, rfl⟩, ih0, if_neg (by rintro (h | h | h); exact hc (.inl h); exact hc (.inr (by rw [hs]; exact h)); cases h)]
        · rw [if_neg (by rintro ⟨_, h⟩; cases h), ih0, if_pos (.inr (.inr rfl))]
    · have hf : findU (s :: l) u = findU l u := by simp [findU, hs]
      rw [hf]
      by_cases hc : s.mark.size = 0 ∨ lastM p s.unit = s.mark
      · have e : openE1 p xr d s = none := if_pos hc
        rw [e]
        exact ih acc
      · have e : openE1 p xr d s = some ⟨s.mark, s.unit, d, untilF s.mark s.unit xr⟩ := if_neg hc
        rw [e]
        simp only
        rw [marksG, if_neg (fun h => hs h.1)]
        exact ih acc
theorem hasB_snoc (l : List ByteArray) (m x : ByteArray) : hasB (l ++ [m]) x = (hasB l x || decide (m = x)) := by simp [hasB]
theorem marks_all (u : Int) : ∀ (hs : List Shot) (p : Option Shot) (acc : List ByteArray), (∀ x ∈ hs, OKs x) → ((lastM p u).size = 0 ∨ hasB acc (lastM p u) = true) → marksG u (refG p hs) acc = rmarksG u hs acc
  | [], _, _, _, _ => rfl
  | x :: r, p, acc, ho, hl => by
    have hx := ho x (by simp)
    have ih := fun a ha => marks_all u r (some x) a (fun y hy => ho y (by simp [hy])) ha
    have hu := marks_units u x.day p (x :: r) x.units acc hx.asc
    rw [refG, marksG_append]
    unfold openE
    rw [hu, rmarksG]
    have hmk : markIn x u = match findU x.units u with | none => ⟨#[]⟩ | some y => y.mark := rfl
    cases hf : findU x.units u with
    | none =>
      rw [hf] at hmk
      simp only at hmk ⊢
      rw [hmk, if_neg (fun h => h.1 rfl)]
      exact ih acc (.inl (by show (markIn x u).size = 0; rw [hmk]; rfl))
    | some s =>
      rw [hf] at hmk
      simp only at hmk ⊢
      rw [hmk]
      by_cases hm : s.mark.size = 0
      · rw [if_pos (.inl hm), if_neg (fun h => h.1 hm)]
        exact ih acc (.inl (by show (markIn x u).size = 0; rw [hmk]; exact hm))
      · by_cases hh : hasB acc s.mark = true
        · rw [if_pos (.inr (.inr hh)), if_neg (fun h => by rw [hh] at h; cases h.2)]
          exact ih acc (.inr (by show hasB acc (markIn x u) = true; rw [hmk]; exact hh))
        · have hne : ¬ lastM p u = s.mark := fun e => by
            rw [e] at hl
            exact hl.elim hm hh
          rw [if_neg (fun h => h.elim hm (fun h => h.elim hne hh)), if_pos ⟨hm, by simpa using hh⟩]
          exact ih _ (.inr (by show hasB _ (markIn x u) = true; rw [hmk, hasB_snoc]; simp))
theorem marks_eq (hs : List Shot) (u : Int) : progMarks hs u = refMarks hs u := by
  unfold progMarks refMarks
  rw [← progCheck_eq]
  by_cases h : progCheck hs = 0
  · rw [if_neg (by simp [h]), if_neg (by simp [h]), given_eq h]
    exact marks_all u hs none [] (oks_of hs _ _ (good_of h).2) (.inl rfl)
  · rw [if_pos h, if_pos h]
end Go.Proofs.Ytgnaknanpgfpnaa
