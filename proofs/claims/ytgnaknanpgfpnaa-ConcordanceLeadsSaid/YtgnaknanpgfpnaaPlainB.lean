/- The program's Check is the reference's, and At too. Plain lists; no program in sight. -/
import Derived.Test.YtgnaknanpgfpnaaRefE
import Derived.Test.YtgnaknanpgfpnaaCncF
namespace Go.Proofs.Ytgnaknanpgfpnaa

theorem fold_get (p : Int) : ∀ (xs : List Standing) (f : Int → Option Int), xs.Pairwise (fun s t => s.unit < t.unit) → (xs.foldl (fun f x => upd f x.unit x.parent) f) p = ((findU xs p).map (·.parent)).or (f p)
  | [], f, _ => by simp [findU]
  | x :: xs, f, h => by
    obtain ⟨h1, h2⟩ := List.pairwise_cons.1 h
    rw [List.foldl_cons, fold_get p xs _ h2]
    by_cases hx : x.unit = p
    · have hn : findU xs p = none := by
        unfold findU
        rw [List.find?_eq_none]
        intro y hy
        have := h1 y hy
        simp; omega
      have hf : findU (x :: xs) p = some x := by simp [findU, hx]
      rw [hn, hf]
      simp [upd, hx]
    · have hx' : ¬ p = x.unit := fun e => hx e.symm
      have hf : findU (x :: xs) p = findU xs p := by simp [findU, hx]
      rw [hf]
      simp [upd, hx']
theorem pmap_get (xs : List Standing) (h : xs.Pairwise (fun s t => s.unit < t.unit)) (h1 : ∀ x ∈ xs, 1 ≤ x.unit) (p : Int) : pmap xs p = if p = 0 then some 0 else (findU xs p).map (·.parent) := by
  unfold pmap
  rw [fold_get p xs _ h]
  by_cases hp : p = 0
  · subst hp
    have hn : findU xs 0 = none := by
      unfold findU
      rw [List.find?_eq_none]
      intro y hy
      have := h1 y hy
      simp; omega
    rw [hn]
    simp [upd]
  · simp [upd, hp]
theorem climb_eq (l : List Standing) (f : Int → Option Int) (hf : ∀ p, f p = if p = 0 then some 0 else (findU l p).map (·.parent)) (n : Nat) : ∀ p : Int, climb l (n + 1) p = climbM f n p := by
  induction n with
  | zero =>
    intro p
    by_cases hp : p = 0
    · subst hp; rw [climbM_zero]; simp [climb]
    · cases hu : findU l p with
      | none =>
        have : f p = none := by rw [hf, if_neg hp, hu]; rfl
        rw [climbM_none f 0 p hp this]
        simp [climb, hp, hu]
      | some y =>
        have hq : f p = some y.parent := by rw [hf, if_neg hp, hu]; rfl
        rw [climbM_last f p _ hp hq]
        simp [climb, hp, hu]
  | succ n ih =>
    intro p
    by_cases hp : p = 0
    · subst hp; rw [climbM_zero]; simp [climb]
    · cases hu : findU l p with
      | none =>
        have : f p = none := by rw [hf, if_neg hp, hu]; rfl
        rw [climbM_none f (n + 1) p hp this]
        simp [climb, hp, hu]
      | some y =>
        have hq : f p = some y.parent := by rw [hf, if_neg hp, hu]; rfl
        rw [climbM_step f n p _ hp hq, ← ih y.parent]
        rw [climb, if_neg hp, hu]
theorem above_places (l : List Standing) (f : Int → Option Int) (hf : ∀ p, f p = if p = 0 then some 0 else (findU l p).map (·.parent)) : ∀ r : List Standing, aboveE f r = placesE l r
  | [] => rfl
  | x :: r => by
    have ih := above_places l f hf r
    have hc := climb_eq l f hf 11 x.parent
    unfold aboveE placesE
    by_cases h7 : f x.parent = none
    · have hpl : placeE l x = 7 := by
        unfold placeE
        rw [hf] at h7
        by_cases hp : x.parent = 0
        · rw [if_pos hp] at h7; cases h7
        · rw [if_neg hp, Option.map_eq_none_iff] at h7
          rw [if_pos ⟨hp, h7⟩]
      rw [if_pos h7, hpl]; rfl
    · have hpl : placeE l x = climbM f 11 x.parent := by
        unfold placeE
        rw [if_neg, hc]
        rintro ⟨hp, hu⟩
        exact h7 (by rw [hf, if_neg hp, hu]; rfl)
      rw [if_neg h7, hpl, ih]

def allUnits (hs : List Shot) : List Standing := hs.flatMap (·.units)
theorem usedS_all (m : ByteArray) (u : Int) (hs : List Shot) : usedS m u hs = usedU m u (allUnits hs) := by
  unfold usedS allUnits
  induction hs with
  | nil => rfl
  | cons x r ih =>
    rw [List.any_cons, ih, List.flatMap_cons]
    unfold usedU
    rw [List.any_append]
def Holds1 (f : ByteArray → Option Int) (U : List Standing) : Prop := ∀ m, m.size ≠ 0 → (∀ u, f m = some u → ∀ y ∈ U, y.mark = m → y.unit = u) ∧ (f m = none → ∀ y ∈ U, y.mark ≠ m) ∧ (∀ u, f m = some u → ∃ y ∈ U, y.mark = m)
theorem holds_step {f : ByteArray → Option Int} {U : List Standing} {s : Standing} (h : Holds1 f U) (hs : s.mark.size ≠ 0) (hok : ∀ u, f s.mark = some u → u = s.unit) : Holds1 (upd f s.mark s.unit) (U ++ [s]) := by
  intro m hm
  obtain ⟨h1, h2, h3⟩ := h m hm
  by_cases he : m = s.mark
  · subst he
    refine ⟨fun u hu y hy hym => ?_, fun hn => ?_, fun u hu => ⟨s, by simp, rfl⟩⟩
    · simp [upd] at hu
      subst hu
      rcases List.mem_append.1 hy with hy | hy
      · cases hf : f s.mark with
        | none => exact absurd hym (h2 hf y hy)
        | some v => rw [h1 v hf y hy hym]; exact hok v hf
      · simp at hy; rw [hy]
    · simp [upd] at hn
  · have he' : ¬ s.mark = m := fun e => he e.symm
    refine ⟨fun u hu y hy hym => ?_, fun hn y hy => ?_, fun u hu => ?_⟩
    · simp [upd, he] at hu
      rcases List.mem_append.1 hy with hy | hy
      · exact h1 u hu y hy hym
      · simp at hy; subst hy; exact absurd hym he'
    · simp [upd, he] at hn
      rcases List.mem_append.1 hy with hy | hy
      · exact h2 hn y hy
      · simp at hy; subst hy; exact he'
    · simp [upd, he] at hu
      obtain ⟨y, hy, hym⟩ := h3 u hu
      exact ⟨y, by simp [hy], hym⟩
theorem holds_skip {f : ByteArray → Option Int} {U : List Standing} {s : Standing} (h : Holds1 f U) (hs : s.mark.size = 0) : Holds1 f (U ++ [s]) := by
  intro m hm
  obtain ⟨h1, h2, h3⟩ := h m hm
  have hne : s.mark ≠ m := fun e => hm (e ▸ hs)
  refine ⟨fun u hu y hy hym => ?_, fun hn y hy => ?_, fun u hu => ?_⟩
  · rcases List.mem_append.1 hy with hy | hy
    · exact h1 u hu y hy hym
    · simp at hy; subst hy; exact absurd hym hne
  · rcases List.mem_append.1 hy with hy | hy
    · exact h2 hn y hy
    · simp at hy; subst hy; exact hne
  · obtain ⟨y, hy, hym⟩ := h3 u hu
    exact ⟨y, by simp [hy], hym⟩
theorem hold_all : ∀ (l : List Standing) (f : ByteArray → Option Int) (U : List Standing), Holds1 f U →
    (∀ f', holdU f l = some f' → Holds1 f' (U ++ l)) ∧ (holdU f l = none → ∃ s ∈ l, s.mark.size ≠ 0 ∧ ∃ y ∈ U ++ l, y.mark = s.mark ∧ y.unit ≠ s.unit)
  | [], f, U, h => ⟨fun f' hf => by simp [holdU] at hf; subst hf; simpa using h, fun hf => by simp [holdU] at hf⟩
  | s :: r, f, U, h => by
    by_cases hs : s.mark.size = 0
    · obtain ⟨a1, a2⟩ := hold_all r f (U ++ [s]) (holds_skip h hs)
      rw [holdU_skip _ _ _ hs]
      refine ⟨fun f' hf => by simpa using a1 f' hf, fun hf => ?_⟩
      obtain ⟨t, ht, htm, y, hy, hyy⟩ := a2 hf
      exact ⟨t, by simp [ht], htm, y, by simpa using hy, hyy⟩
    · have next : (∀ u, f s.mark = some u → u = s.unit) → holdU f (s :: r) = holdU (upd f s.mark s.unit) r → _ := fun hok heq => by
        obtain ⟨a1, a2⟩ := hold_all r (upd f s.mark s.unit) (U ++ [s]) (holds_step h hs hok)
        exact (⟨fun f' hf => by rw [heq] at hf; simpa using a1 f' hf, fun hf => by
          rw [heq] at hf
          obtain ⟨t, ht, htm, y, hy, hyy⟩ := a2 hf
          exact ⟨t, by simp [ht], htm, y, by simpa using hy, hyy⟩⟩ : (∀ f', holdU f (s :: r) = some f' → Holds1 f' (U ++ s :: r)) ∧ (holdU f (s :: r) = none → ∃ t ∈ s :: r, t.mark.size ≠ 0 ∧ ∃ y ∈ U ++ s :: r, y.mark = t.mark ∧ y.unit ≠ t.unit))
      cases hf : f s.mark with
      | none => exact next (by simp [hf]) (holdU_new _ _ _ hs hf)
      | some v =>
        by_cases hv : v = s.unit
        · subst hv
          exact next (fun u hu => by rw [hf] at hu; injection hu with hu; exact hu.symm) (holdU_same _ _ _ hs hf)
        · rw [holdU_bad _ _ _ v hs hf hv]
          refine ⟨fun f' h => (by cases h), fun _ => ?_⟩
          obtain ⟨y, hy, hym⟩ := (h s.mark hs).2.2 v hf
          exact ⟨s, by simp, hs, y, by simp [hy], hym, by rw [(h s.mark hs).1 v hf y hy hym]; exact hv⟩
theorem marks_iff {f : ByteArray → Option Int} {pre : List Shot} {x : Shot} (h : Holds1 f (allUnits pre)) :
    (∀ f', holdU f x.units = some f' → marksE (pre ++ [x]) x.units = 0 ∧ Holds1 f' (allUnits (pre ++ [x]))) ∧ (holdU f x.units = none → marksE (pre ++ [x]) x.units = 19) := by
  have hall : allUnits (pre ++ [x]) = allUnits pre ++ x.units := by simp [allUnits]
  obtain ⟨a1, a2⟩ := hold_all x.units f (allUnits pre) h
  refine ⟨fun f' hf => ?_, fun hf => ?_⟩
  · have hH := a1 f' hf
    refine ⟨?_, by rw [hall]; exact hH⟩
    unfold marksE
    rw [if_neg]
    intro hany
    obtain ⟨s, hs, hc⟩ := List.any_eq_true.1 hany
    simp only [Bool.and_eq_true, decide_eq_true_eq] at hc
    obtain ⟨hsm, hu⟩ := hc
    rw [usedS_all, hall] at hu
    obtain ⟨y, hy, hyc⟩ := List.any_eq_true.1 hu
    simp only [Bool.and_eq_true, decide_eq_true_eq] at hyc
    obtain ⟨h1, h2, _⟩ := hH s.mark hsm
    cases hfm : f' s.mark with
    | none => exact h2 hfm y hy hyc.1
    | some v =>
      have e1 := h1 v hfm y hy hyc.1
      have e2 := h1 v hfm s (List.mem_append_right _ hs) rfl
      exact hyc.2 (e1.trans e2.symm)
  · obtain ⟨s, hs, hsm, y, hy, hym, hyu⟩ := a2 hf
    unfold marksE
    rw [if_pos]
    refine List.any_eq_true.2 ⟨s, hs, ?_⟩
    simp only [Bool.and_eq_true, decide_eq_true_eq]
    refine ⟨hsm, ?_⟩
    rw [usedS_all, hall]
    exact List.any_eq_true.2 ⟨y, hy, by simp [hym, hyu]⟩
theorem shot_pre (hs : List Shot) (i : Nat) (x : Shot) : shotE hs i x = if preE (prevAt hs i) x ≠ 0 then preE (prevAt hs i) x else marksE (hs.take (i + 1)) x.units := by
  have hab : fieldsE none x.units = 0 → aboveE (pmap x.units) x.units = placesE x.units x.units := fun hf => by
    obtain ⟨_, h1, h2⟩ := fields_pair none x.units hf
    exact above_places x.units _ (pmap_get x.units h1 h2) x.units
  unfold shotE preE
  by_cases h1 : x.day < 0 ∨ 1048575 < x.day
  · simp [h1]
  · cases h2 : dayBad (prevAt hs i) x
    · by_cases h3 : 256 < x.units.length
      · simp [h1, h3]
      · by_cases h4 : fieldsE none x.units = 0
        · rw [hab h4]; simp [h1, h3, h4]
        · simp [h1, h3, h4]
    · simp [h1]
theorem check_eq : ∀ (r pre : List Shot) (f : ByteArray → Option Int), Holds1 f (allUnits pre) → checkP f (prevAt (pre ++ r) pre.length) r = checkG (pre ++ r) r pre.length
  | [], pre, f, _ => rfl
  | x :: r, pre, f, h => by
    have ht : (pre ++ x :: r).take (pre.length + 1) = pre ++ [x] := by
      rw [show pre ++ x :: r = (pre ++ [x]) ++ r by simp, List.take_left' (by simp)]
    obtain ⟨m1, m2⟩ := marks_iff (x := x) h
    unfold checkP checkG
    rw [shot_pre, ht]
    by_cases hp : preE (prevAt (pre ++ x :: r) pre.length) x ≠ 0
    · rw [if_pos hp, if_pos hp, if_pos hp]
    · rw [if_neg hp, if_neg hp]
      cases hf : holdU f x.units with
      | none => rw [m2 hf]; rfl
      | some f' =>
        obtain ⟨e1, e2⟩ := m1 f' hf
        rw [e1]
        have ih := check_eq r (pre ++ [x]) f' e2
        have hpv : prevAt (pre ++ [x] ++ r) (pre ++ [x]).length = some x := by simp [prevAt]
        rw [hpv] at ih
        simp only [List.append_assoc, List.singleton_append, List.length_append, List.length_singleton] at ih
        simpa using ih
theorem progCheck_eq (hs : List Shot) : progCheck hs = refCheck hs := by
  unfold progCheck refCheck
  have h := check_eq hs [] (fun _ => none) (fun m _ => ⟨by simp, by simp [allUnits], by simp⟩)
  have hp : prevAt ([] ++ hs) ([] : List Shot).length = none := rfl
  rw [hp] at h
  simp only [List.nil_append, List.length_nil] at h
  rw [h]
theorem at_eq (d : Int) : ∀ (hs : List Shot) (i : Nat), hs.Pairwise (fun s t => s.day < t.day) → atG d hs i ((i : Int) - 1) = if idxG (fun x : Shot => decide (d < x.day)) hs i < 0 then (i : Int) + hs.length - 1 else idxG (fun x : Shot => decide (d < x.day)) hs i - 1
  | [], i, _ => by simp [atG, idxG]
  | x :: r, i, h => by
    obtain ⟨h1, h2⟩ := List.pairwise_cons.1 h
    by_cases hx : x.day ≤ d
    · have hd : decide (d < x.day) = false := by simp; omega
      have ih := at_eq d r (i + 1) h2
      simp only [atG, if_pos hx, idxG, hd, Bool.false_eq_true, if_false, List.length_cons]
      rw [show ((i + 1 : Nat) : Int) - 1 = (i : Int) by omega] at ih
      rw [ih]
      split <;> omega
    · have hd : decide (d < x.day) = true := by simp; omega
      have hrest : ∀ (l : List Shot) (j : Nat) (o : Int), (∀ y ∈ l, ¬ y.day ≤ d) → atG d l j o = o := by
        intro l
        induction l with
        | nil => intros; rfl
        | cons y l ih => intro j o hy; rw [atG, if_neg (hy y (by simp))]; exact ih _ _ fun z hz => hy z (by simp [hz])
      simp only [atG, if_neg hx, idxG, hd, if_true]
      rw [hrest r _ _ fun y hy => by have := h1 y hy; omega, if_neg (by omega)]
theorem days_pair : ∀ (hs : List Shot) (f : ByteArray → Option Int) (prev : Option Shot), checkP f prev hs = 0 → (∀ p, prev = some p → ∀ x ∈ hs, p.day < x.day) ∧ hs.Pairwise (fun s t => s.day < t.day)
  | [], _, _, _ => ⟨by simp, List.Pairwise.nil⟩
  | x :: r, f, prev, h => by
    obtain ⟨hok, f', _, hr⟩ := good_cons h
    obtain ⟨h1, h2⟩ := days_pair r f' (some x) hr
    refine ⟨fun p hp y hy => ?_, List.pairwise_cons.2 ⟨fun y hy => h1 x rfl y hy, h2⟩⟩
    have := hok.up p hp
    rcases List.mem_cons.1 hy with rfl | hy
    · exact this
    · have := h1 x rfl y hy; omega
theorem progAt_eq (hs : List Shot) (d : Int) : progAt hs d = refAt hs d := by
  unfold progAt refAt
  rw [← progCheck_eq]
  by_cases h : progCheck hs = 0
  · rw [if_neg (by simp [h]), if_neg (by simp [h])]
    have hp := (days_pair hs _ none (good_of h).2).2
    have := at_eq d hs 0 hp
    simp only [Int.natCast_zero, Int.zero_sub, Int.zero_add] at this
    rw [this]
    rfl
  · rw [if_pos h, if_pos h]
end Go.Proofs.Ytgnaknanpgfpnaa
