/- Plain facts: what a history without a fault is, and that its concordance has one order. No program in sight. -/
import Derived.Test.YtgnaknanpgfpnaaCncD
import Derived.Test.YtgnaknanpgfpnaaGivenP
import Derived.Test.YtgnaknanpgfpnaaSort
namespace Go.Proofs.Ytgnaknanpgfpnaa

/-- what Check means for one shot -/
structure ShotOK (prev : Option Shot) (x : Shot) : Prop where
  lo : 0 ≤ x.day
  hi : x.day ≤ 1048575
  up : ∀ p, prev = some p → p.day < x.day
  few : x.units.length ≤ 256
  fields : fieldsE none x.units = 0
  above : aboveE (pmap x.units) x.units = 0
theorem preE_ok {prev : Option Shot} {x : Shot} (h : preE prev x = 0) : ShotOK prev x := by
  unfold preE at h
  by_cases h1 : x.day < 0 ∨ 1048575 < x.day
  · rw [if_pos h1] at h; cases h
  rw [if_neg h1] at h
  cases h2 : dayBad prev x
  · rw [h2, if_neg (by simp)] at h
    by_cases h3 : 256 < x.units.length
    · rw [if_pos h3] at h; cases h
    rw [if_neg h3] at h
    by_cases h4 : fieldsE none x.units ≠ 0
    · rw [if_pos h4] at h; exact absurd h h4
    · rw [if_neg h4] at h
      refine ⟨by omega, by omega, fun p hp => ?_, by omega, by simpa using h4, h⟩
      subst hp
      simp [dayBad] at h2
      exact h2
  · rw [h2, if_pos rfl] at h; cases h

theorem fields_pair : ∀ (p : Option Standing) (l : List Standing), fieldsE p l = 0 → (∀ q, p = some q → ∀ x ∈ l, q.unit < x.unit) ∧ l.Pairwise (fun s t => s.unit < t.unit) ∧ ∀ x ∈ l, 1 ≤ x.unit
  | _, [], _ => ⟨by simp, List.Pairwise.nil, by simp⟩
  | p, x :: r, h => by
    rw [fieldsE_cons] at h
    by_cases hf : fieldE p x ≠ 0
    · rw [if_pos hf] at h; exact absurd h hf
    rw [if_neg hf] at h
    have hf0 : fieldE p x = 0 := by simpa using hf
    obtain ⟨h1, h2, h3⟩ := fields_pair (some x) r h
    have hx1 : ¬ (x.unit < 1 ∨ 1073741824 < x.unit ∨ x.level < 1 ∨ 4 < x.level) := fun hc => by rw [fieldE_2 p x hc] at hf0; cases hf0
    have hx2 : ¬ (64 < (x.mark.size : Int) ∨ x.title.size = 0 ∨ 64 < (x.title.size : Int)) := fun hc => by rw [fieldE_4 p x hx1 hc] at hf0; cases hf0
    have hx : ∀ q, p = some q → q.unit < x.unit := fun q hq => by
      subst hq
      by_cases hc : x.unit ≤ q.unit
      · rw [fieldE_5 q x hx1 hx2 hc] at hf0; cases hf0
      · omega
    refine ⟨fun q hq y hy => ?_, List.pairwise_cons.2 ⟨fun y hy => h1 x rfl y hy, h2⟩, fun y hy => ?_⟩
    · rcases List.mem_cons.1 hy with rfl | hy
      · exact hx q hq
      · exact Int.lt_trans (hx q hq) (h1 x rfl y hy)
    · rcases List.mem_cons.1 hy with rfl | hy
      · omega
      · exact h3 y hy

theorem hold_keep : ∀ (l : List Standing) (f f' : ByteArray → Option Int) (m : ByteArray) (u : Int), holdU f l = some f' → f m = some u → m.size ≠ 0 → (∀ t ∈ l, t.mark = m → t.unit = u) ∧ f' m = some u
  | [], f, f', m, u, h, hf, _ => by
    simp [holdU] at h
    subst h
    exact ⟨by simp, hf⟩
  | s :: r, f, f', m, u, h, hf, hm => by
    by_cases hs : s.mark.size = 0
    · rw [holdU_skip _ _ _ hs] at h
      obtain ⟨h1, h2⟩ := hold_keep r f f' m u h hf hm
      refine ⟨fun t ht hmt => ?_, h2⟩
      rcases List.mem_cons.1 ht with rfl | ht
      · rw [hmt] at hs; exact absurd hs hm
      · exact h1 t ht hmt
    · by_cases hsm : s.mark = m
      · have hfm : f s.mark = some u := by rw [hsm]; exact hf
        by_cases hu : u = s.unit
        · subst hu
          rw [holdU_same _ _ _ hs hfm] at h
          obtain ⟨h1, h2⟩ := hold_keep r _ f' m s.unit h (by simp [upd, hsm]) hm
          refine ⟨fun t ht hmt => ?_, h2⟩
          rcases List.mem_cons.1 ht with rfl | ht
          · rfl
          · exact h1 t ht hmt
        · rw [holdU_bad _ _ _ u hs hfm hu] at h; cases h
      · have hm' : ¬ m = s.mark := fun h => hsm h.symm
        have step : holdU (upd f s.mark s.unit) r = some f' := by
          cases hfs : f s.mark with
          | none => rwa [holdU_new _ _ _ hs hfs] at h
          | some v =>
            by_cases hv : v = s.unit
            · subst hv; rwa [holdU_same _ _ _ hs hfs] at h
            · rw [holdU_bad _ _ _ v hs hfs hv] at h; cases h
        obtain ⟨h1, h2⟩ := hold_keep r _ f' m u step (by simp [upd, hm', hf]) hm
        refine ⟨fun t ht hmt => ?_, h2⟩
        rcases List.mem_cons.1 ht with rfl | ht
        · exact absurd hmt hsm
        · exact h1 t ht hmt
theorem hold_step {f f' : ByteArray → Option Int} {s : Standing} {r : List Standing} (h : holdU f (s :: r) = some f') (hs : s.mark.size ≠ 0) : holdU (upd f s.mark s.unit) r = some f' ∧ (∀ u, f s.mark = some u → u = s.unit) := by
  cases hfs : f s.mark with
  | none => rw [holdU_new _ _ _ hs hfs] at h; exact ⟨h, by simp⟩
  | some v =>
    by_cases hv : v = s.unit
    · subst hv
      rw [holdU_same _ _ _ hs hfs] at h
      exact ⟨h, fun u hu => by injection hu with hu; exact hu.symm⟩
    · rw [holdU_bad _ _ _ v hs hfs hv] at h; cases h
/-- two units of one shot never have one mark -/
theorem marks_apart : ∀ (l : List Standing) (f f' : ByteArray → Option Int), holdU f l = some f' → l.Pairwise (fun s t => s.unit < t.unit) → l.Pairwise (fun s t => s.mark.size ≠ 0 → s.mark ≠ t.mark)
  | [], _, _, _, _ => List.Pairwise.nil
  | s :: r, f, f', h, hp => by
    obtain ⟨h1, h2⟩ := List.pairwise_cons.1 hp
    by_cases hs : s.mark.size = 0
    · rw [holdU_skip _ _ _ hs] at h
      exact List.pairwise_cons.2 ⟨fun t ht hn => absurd hs hn, marks_apart r f f' h h2⟩
    · obtain ⟨hst, _⟩ := hold_step h hs
      refine List.pairwise_cons.2 ⟨fun t ht _ hmt => ?_, marks_apart r _ f' hst h2⟩
      have := (hold_keep r _ f' s.mark s.unit hst (by simp [upd]) hs).1 t ht hmt.symm
      have := h1 t ht
      omega

/-- a history without a fault, from a state on -/
def GoodFrom (f : ByteArray → Option Int) (prev : Option Shot) (hs : List Shot) : Prop := checkP f prev hs = 0
theorem good_cons {f : ByteArray → Option Int} {prev : Option Shot} {x : Shot} {r : List Shot} (h : checkP f prev (x :: r) = 0) : ShotOK prev x ∧ ∃ f', holdU f x.units = some f' ∧ checkP f' (some x) r = 0 := by
  unfold checkP at h
  by_cases hp : preE prev x ≠ 0
  · rw [if_pos hp] at h; exact absurd h hp
  rw [if_neg hp] at h
  refine ⟨preE_ok (by simpa using hp), ?_⟩
  cases hf : holdU f x.units with
  | none => rw [hf] at h; cases h
  | some f' => rw [hf] at h; exact ⟨f', rfl, h⟩
theorem good_of {hs : List Shot} (h : progCheck hs = 0) : hs.length ≤ 64 ∧ checkP (fun _ => none) none hs = 0 := by
  unfold progCheck at h
  by_cases hl : 64 < hs.length
  · rw [if_pos hl] at h; cases h
  · rw [if_neg hl] at h; exact ⟨by omega, h⟩
theorem good_few : ∀ (hs : List Shot) (f : ByteArray → Option Int) (prev : Option Shot), checkP f prev hs = 0 → ∀ s ∈ hs, s.units.length ≤ 256
  | [], _, _, _ => by simp
  | x :: r, f, prev, h => by
    obtain ⟨h1, f', _, h3⟩ := good_cons h
    intro s hs
    rcases List.mem_cons.1 hs with rfl | hs
    · exact h1.few
    · exact good_few r f' _ h3 s hs

def keyG (g : Given) : ByteArray × Int := (g.mark, g.from_)
theorem closeOut_key (x : Shot) (out : List Given) (now : Int → Option Int) : (closeOut x out now).map keyG = out.map keyG := by
  apply List.ext_getElem?
  intro j
  rw [List.getElem?_map, List.getElem?_map]
  by_cases hj : j < out.length
  · obtain ⟨g, hg⟩ := get_at out hj
    rw [closeOut_at x out now j g hg, hg]
    simp only [Option.map_some]
    congr 1
    split <;> rfl
  · rw [List.getElem?_eq_none (by rw [closeOut_len]; omega), List.getElem?_eq_none (by omega)]
theorem openU_len (day : Int) : ∀ (l : List Standing) (out : List Given) (now : Int → Option Int), (openU day l out now).1.length ≤ out.length + l.length
  | [], out, now => by simp [openU]
  | s :: r, out, now => by
    unfold openU
    split
    · have := openU_len day r (out ++ [⟨s.mark, s.unit, day, 1048576⟩]) (upd now s.unit out.length)
      simp at this ⊢
      omega
    · have := openU_len day r out now
      simp at this ⊢
      omega
theorem openU_keys (day : Int) : ∀ (l : List Standing) (out : List Given) (now : Int → Option Int), (out.map keyG).Nodup → (∀ s ∈ l, s.mark.size ≠ 0 → (s.mark, day) ∉ out.map keyG) → l.Pairwise (fun s t => s.mark.size ≠ 0 → s.mark ≠ t.mark) →
    ((openU day l out now).1.map keyG).Nodup ∧ ∀ g ∈ (openU day l out now).1, g ∈ out ∨ g.from_ = day
  | [], out, now, h, _, _ => ⟨h, fun g hg => .inl hg⟩
  | s :: r, out, now, h, h1, h2 => by
    obtain ⟨h3, h4⟩ := List.pairwise_cons.1 h2
    unfold openU
    split
    · rename_i hc
      have hn : ((out ++ [(⟨s.mark, s.unit, day, 1048576⟩ : Given)]).map keyG).Nodup := by
        rw [List.map_append, List.nodup_append]
        refine ⟨h, by simp, fun a ha b hb => ?_⟩
        simp at hb
        subst hb
        intro hab
        subst hab
        exact h1 s (by simp) hc.2 ha
      obtain ⟨a1, a2⟩ := openU_keys day r (out ++ [⟨s.mark, s.unit, day, 1048576⟩]) (upd now s.unit out.length) hn (fun t ht htm hin => by
        rw [List.map_append, List.mem_append] at hin
        rcases hin with hin | hin
        · exact h1 t (by simp [ht]) htm hin
        · simp [keyG] at hin
          exact h3 t ht hc.2 hin.symm) h4
      refine ⟨a1, fun g hg => ?_⟩
      rcases a2 g hg with hg | hg
      · rw [List.mem_append] at hg
        rcases hg with hg | hg
        · exact .inl hg
        · simp at hg; subst hg; exact .inr rfl
      · exact .inr hg
    · exact openU_keys day r out now h (fun t ht => h1 t (by simp [ht])) h4
theorem given_keys : ∀ (hs : List Shot) (f : ByteArray → Option Int) (prev : Option Shot) (st : List Given × (Int → Option Int)), checkP f prev hs = 0 → (st.1.map keyG).Nodup → (∀ g ∈ st.1, ∃ p, prev = some p ∧ g.from_ ≤ p.day) →
    ((hs.foldl givenS st).1.map keyG).Nodup ∧ (hs.foldl givenS st).1.length ≤ st.1.length + 256 * hs.length
  | [], _, _, st, _, h1, _ => ⟨h1, by simp⟩
  | x :: r, f, prev, st, h, h1, h2 => by
    obtain ⟨hok, f', hf, hr⟩ := good_cons h
    obtain ⟨_, hasc, _⟩ := fields_pair none x.units hok.fields
    have hap := marks_apart x.units f f' hf hasc
    have hfrom : ∀ g ∈ closeOut x st.1 st.2, g.from_ < x.day := by
      intro g hg
      have : keyG g ∈ (closeOut x st.1 st.2).map keyG := List.mem_map.2 ⟨g, hg, rfl⟩
      rw [closeOut_key] at this
      obtain ⟨g', hg', he⟩ := List.mem_map.1 this
      obtain ⟨p, hp, hle⟩ := h2 g' hg'
      have h3 := hok.up p hp
      have h4 : g'.from_ = g.from_ := congrArg Prod.snd he
      omega
    obtain ⟨a1, a2⟩ := openU_keys x.day x.units (closeOut x st.1 st.2) (closeNow x st.1 st.2) (by rw [closeOut_key]; exact h1) (fun s _ _ hin => by
      obtain ⟨g, hg, he⟩ := List.mem_map.1 hin
      have h3 := hfrom g hg
      have h4 : g.from_ = x.day := congrArg Prod.snd he
      omega) hap
    have hlen := openU_len x.day x.units (closeOut x st.1 st.2) (closeNow x st.1 st.2)
    rw [closeOut_len] at hlen
    have hfew := hok.few
    obtain ⟨b1, b2⟩ := given_keys r f' (some x) (givenS st x) hr a1 (fun g hg => ⟨x, rfl, by
      rcases a2 g hg with hg | hg
      · have := hfrom g hg; omega
      · omega⟩)
    refine ⟨b1, ?_⟩
    have : (givenS st x).1.length ≤ st.1.length + 256 := by
      show (openU x.day x.units (closeOut x st.1 st.2) (closeNow x st.1 st.2)).1.length ≤ _
      omega
    simp only [List.foldl_cons, List.length_cons]
    omega

def insG (l : List Given) (g : Given) : List Given := match l with
  | [] => [g]
  | y :: r => if ltG y g then y :: insG r g else g :: y :: r
def collectL (hs : List Shot) : List Given := (givenP hs).foldl insG []
theorem insG_perm (g : Given) : ∀ l : List Given, (insG l g).Perm (g :: l)
  | [] => List.Perm.refl _
  | y :: r => by
    unfold insG
    split
    · exact ((insG_perm g r).cons y).trans (List.Perm.swap g y r)
    · exact List.Perm.refl _
theorem insG_sorted (g : Given) : ∀ l : List Given, sortedG l → sortedG (insG l g)
  | [], _ => List.pairwise_cons.2 ⟨by simp, List.Pairwise.nil⟩
  | y :: r, h => by
    obtain ⟨h1, h2⟩ := List.pairwise_cons.1 h
    unfold insG
    cases hy : ltG y g
    · simp only [Bool.false_eq_true, if_false]
      refine List.pairwise_cons.2 ⟨fun z hz => ?_, h⟩
      rcases List.mem_cons.1 hz with rfl | hz
      · exact hy
      · have := h1 z hz
        exact (ltOf_cmpG z g) ▸ swoG.ntrans z y g (by rw [ltOf_cmpG]; exact this) (by rw [ltOf_cmpG]; exact hy)
    · simp only [if_true]
      refine List.pairwise_cons.2 ⟨fun z hz => ?_, insG_sorted g r h2⟩
      rcases List.mem_cons.1 ((insG_perm g r).mem_iff.1 hz) with rfl | hz
      · cases hgy : ltG z y
        · rfl
        · have := ltG_trans hy hgy
          rw [ltG_irrefl] at this
          cases this
      · exact h1 z hz
theorem foldl_ins (l : List Given) : ∀ acc : List Given, sortedG acc → sortedG (l.foldl insG acc) ∧ (l.foldl insG acc).Perm (l ++ acc) := by
  induction l with
  | nil => exact fun acc h => ⟨h, List.Perm.refl _⟩
  | cons g l ih =>
    intro acc h
    obtain ⟨h1, h2⟩ := ih (insG acc g) (insG_sorted g acc h)
    refine ⟨h1, h2.trans ?_⟩
    exact ((insG_perm g acc).append_left l).trans (by simp)
theorem keys_inj : ∀ {l : List Given}, (l.map keyG).Nodup → ∀ {a b : Given}, a ∈ l → b ∈ l → keyG a = keyG b → a = b
  | [], _, _, _, ha, _, _ => by cases ha
  | x :: l, hn, a, b, ha, hb, hab => by
    simp only [List.map_cons, List.nodup_cons] at hn
    rcases List.mem_cons.1 ha with rfl | ha' <;> rcases List.mem_cons.1 hb with rfl | hb'
    · rfl
    · exact absurd (List.mem_map.2 ⟨b, hb', hab.symm⟩) hn.1
    · exact absurd (List.mem_map.2 ⟨a, ha', hab⟩) hn.1
    · exact keys_inj hn.2 ha' hb' hab
theorem sorted_one : ∀ (l1 l2 : List Given), l1.Perm l2 → sortedG l1 → sortedG l2 → (l1.map keyG).Nodup → l1 = l2
  | [], l2, hp, _, _, _ => (List.Perm.nil_eq hp)
  | a :: t, [], hp, _, _, _ => by have := hp.length_eq; simp at this
  | a :: t, b :: s, hp, h1, h2, hn => by
    have hab : a = b := by
      have ha : a ∈ b :: s := hp.mem_iff.1 (by simp)
      have hb : b ∈ a :: t := hp.mem_iff.2 (by simp)
      rcases List.mem_cons.1 ha with h | ha'
      · exact h
      rcases List.mem_cons.1 hb with h | hb'
      · exact h.symm
      have e1 := (List.pairwise_cons.1 h1).1 b hb'
      have e2 := (List.pairwise_cons.1 h2).1 a ha'
      rcases ltG_tri a b with h | h | h
      · rw [h] at e2; cases e2
      · exact keys_inj hn (by simp) (by simp [hb']) (by unfold keyG; rw [h.1, h.2])
      · rw [h] at e1; cases e1
    subst hab
    rw [sorted_one t s (List.Perm.cons_inv hp) (List.pairwise_cons.1 h1).2 (List.pairwise_cons.1 h2).2 (by simp only [List.map_cons, List.nodup_cons] at hn; exact hn.2)]
/-- whatever sorted order of what was given: it is the concordance -/
theorem collect_one {hs : List Shot} (h : progCheck hs = 0) (ys : List Given) (hp : ys.Perm (givenP hs)) (hs' : sortedG ys) : ys = collectL hs := by
  obtain ⟨h1, h2⟩ := foldl_ins (givenP hs) [] List.Pairwise.nil
  obtain ⟨k1, _⟩ := given_keys hs _ none ([], fun _ => none) (good_of h).2 (by simp) (by simp)
  have hn : (ys.map keyG).Nodup := (hp.map keyG).nodup_iff.2 k1
  exact sorted_one ys _ (hp.trans (show (givenP hs).Perm (collectL hs) from by rw [List.append_nil] at h2; exact h2.symm)) hs' h1 hn
theorem given_len {hs : List Shot} (h : progCheck hs = 0) : (givenP hs).length ≤ 16384 := by
  obtain ⟨h0, h1⟩ := good_of h
  obtain ⟨_, k2⟩ := given_keys hs _ none ([], fun _ => none) h1 (by simp) (by simp)
  have : (givenP hs).length ≤ 0 + 256 * hs.length := k2
  omega
end Go.Proofs.Ytgnaknanpgfpnaa
