/- Plan and Reached of the program, every case in one contract (for RelocateEither). -/
import Derived.Test.YthabpkigflldmaaPlD
namespace Go.Proofs.Ythabpkigflldmaa
open Go.RowKit

theorem has_iff {states : List (List Int)} {x : List Int} : hasB states x = true ↔ x ∈ states := by
  unfold hasB
  rw [List.any_eq_true]
  constructor
  · rintro ⟨y, hy, he⟩
    have := (eqL_iff eqI_iff y x).1 he
    rw [← this]; exact hy
  · exact fun h => ⟨x, h, (eqL_iff eqI_iff x x).2 rfl⟩
theorem clG_all {ls : List Shelf} {bs : List Box} {states : List (List Int)} : ∀ (l : List (List Int)) (p : Option (List Int)), clG ls bs states p l = true → ∀ x ∈ l, stepsB ls bs states x = true
  | [], _, _, _, h => by cases h
  | x :: r, p, h, y, hy => by
    simp only [clG, Bool.and_eq_true] at h
    rcases List.mem_cons.1 hy with rfl | hy
    · exact h.1.2
    · exact clG_all r _ h.2 y hy
theorem closed_way {ls : List Shelf} {bs : List Box} {states : List (List Int)} (hcl : ∀ x ∈ states, stepsB ls bs states x = true) : ∀ (p : List Carry) (s t : List Int), s ∈ states → Leads (nbrF ls bs) s p t → t ∈ states
  | [], s, t, hs, h => by have : s = t := h; subst this; exact hs
  | c :: r, s, t, hs, ⟨x, hx, hr⟩ => by
    refine closed_way hcl r x t ?_ hr
    obtain ⟨c', hc', he⟩ := List.mem_map.1 hx
    injection he with e1 e2
    subst e1
    rw [← e2]
    exact has_iff.1 (List.all_eq_true.1 (hcl s hs) _ hc')
/-- a plan refutes every closed list -/
theorem closed_not {ls : List Shelf} {bs : List Box} {s t : List Int} {p : List Carry} (hs : possE ls bs s = 0) (ht : possE ls bs t = 0) (hp : planF ls bs s t = some p) (states : List (List Int)) : closedE ls bs s t states = 14 := by
  obtain ⟨hst, hr, hh⟩ := poss_zero hs
  have hL := plan_leads hst ⟨hr, hh⟩ hp
  unfold closedE
  rw [if_neg (by simp [hs]), if_neg (by simp [ht]), if_neg]
  intro h
  simp only [Bool.and_eq_true, Bool.not_eq_true'] at h
  obtain ⟨⟨h1, h2⟩, h3⟩ := h
  have := has_iff.2 (closed_way (clG_all _ _ h3) p s t (has_iff.1 h1) hL)
  rw [h2] at this
  cases this
theorem clG_mk {ls : List Shelf} {bs : List Box} {states : List (List Int)} : ∀ (l : List (List Int)) (p : Option (List Int)), (∀ x ∈ l, checkF ls bs x = 0) → (∀ x ∈ l, stepsB ls bs states x = true) → l.Pairwise (fun a b => cmpL a b < 0) → (∀ q ∈ p, ∀ x ∈ l, cmpL q x < 0) → clG ls bs states p l = true
  | [], _, _, _, _, _ => rfl
  | x :: r, p, h1, h2, h3, h4 => by
    obtain ⟨h5, h6⟩ := List.pairwise_cons.1 h3
    have ha : ascB p x = true := by
      cases p with
      | none => rfl
      | some q => simp only [ascB, decide_eq_true_eq]; exact h4 q rfl x List.mem_cons_self
    rw [clG, ha, h2 x List.mem_cons_self, h1 x List.mem_cons_self, clG_mk r (some x) (fun y hy => h1 y (List.mem_cons_of_mem _ hy)) (fun y hy => h2 y (List.mem_cons_of_mem _ hy)) h6 (fun q hq y hy => by cases hq; exact h5 y hy)]
    rfl
/-- no plan: the reached states are closed -/
theorem closed_yes {ls : List Shelf} {bs : List Box} {s t : List Int} {ys : List (List Int)} (hs : possE ls bs s = 0) (ht : possE ls bs t = 0) (hp : planF ls bs s t = none) (hperm : ys.Perm ((reachF ls bs s).map Prod.fst)) (hasc : ascW ys) : closedE ls bs s t ys = 0 := by
  obtain ⟨hst, hr, hh⟩ := poss_zero hs
  obtain ⟨hF, hgood, -⟩ := reach_found hst ⟨hr, hh⟩
  have hmem : ∀ x, x ∈ ys ↔ ∃ q, (x, q) ∈ reachF ls bs s := by
    intro x
    rw [hperm.mem_iff, List.mem_map]
    constructor
    · rintro ⟨e, he, rfl⟩; exact ⟨e.2, he⟩
    · rintro ⟨q, hq⟩; exact ⟨(x, q), hq, rfl⟩
  have hnd : ys.Nodup := hperm.nodup_iff.2 hF.nodup
  have hin : s ∈ ys := by
    obtain ⟨q, hq, _⟩ := hF.least [] s rfl
    exact (hmem s).2 ⟨q, hq⟩
  have hout : ¬ t ∈ ys := by
    intro h
    obtain ⟨q, hq⟩ := (hmem t).1 h
    exact planF_none hp (t, q) hq rfl
  have hstr : ys.Pairwise (fun a b => cmpL a b < 0) := by
    have hne : ys.Pairwise (fun a b => a ≠ b) := hnd
    refine (hasc.and hne).imp ?_
    rintro a b ⟨h1, h2⟩
    rcases cmpL_tri a b with h | h | h
    · exact h
    · exact absurd h h2
    · exact absurd h h1
  unfold closedE
  rw [if_neg (by simp [hs]), if_neg (by simp [ht]), if_pos]
  have e1 := has_iff.2 hin
  have e2 : hasB ys t = false := by
    cases h : hasB ys t
    · rfl
    · exact absurd (has_iff.1 h) hout
  rw [e1, e2, clG_mk ys none ?_ ?_ hstr (fun q hq => by cases hq)]
  · rfl
  · intro x hx
    obtain ⟨q, hq⟩ := (hmem x).1 hx
    have hg := hgood _ hq
    have := poss_of hst hg.1 hg.2
    rwa [possE, if_pos hst] at this
  · intro x hx
    obtain ⟨q, hq⟩ := (hmem x).1 hx
    refine List.all_eq_true.2 fun c hc => ?_
    have hL : Leads (nbrF ls bs) s (q ++ [c]) (movedF bs x c) := (leads_snoc _ q c s _).2 ⟨x, hF.leads _ hq, List.mem_map.2 ⟨c, hc, rfl⟩⟩
    obtain ⟨p, hp, _⟩ := hF.least _ _ hL
    exact has_iff.2 ((hmem _).2 ⟨p, hp⟩)
/-- the list of the reached states holds its start -/
theorem reached_has {ls : List Shelf} {bs : List Box} {s : List Int} {ys : List (List Int)} (hs : possE ls bs s = 0) (hperm : ys.Perm ((reachF ls bs s).map Prod.fst)) : hasB ys s = true := by
  obtain ⟨hst, hr, hh⟩ := poss_zero hs
  obtain ⟨q, hq, _⟩ := (reach_found hst ⟨hr, hh⟩).1.least [] s rfl
  exact has_iff.2 (hperm.mem_iff.2 (List.mem_map.2 ⟨(s, q), hq, rfl⟩))
open Go.RowKit

theorem poss_ne {ls : List Shelf} {bs : List Box} {s : List Int} : possE ls bs s ≠ 24 := by
  unfold possE
  split
  · unfold checkF
    split
    · decide
    · split
      · decide
      · cases heldB ls bs s <;> decide
  · unfold startE
    split
    · decide
    · split <;> decide
def plE (ls : List Shelf) (bs : List Box) (s t : List Int) : Int := if possE ls bs s ≠ 0 then possE ls bs s else if possE ls bs t ≠ 0 then possE ls bs t else if (planF ls bs s t).isSome = true then 0 else 24
theorem Plan_any (ls : List Shelf) (bs : List Box) (s t : List Int) (vl vb vs vt : Value) (w : World) (B : Nat) (hB : B ≤ w.heap.size) (hl : Shelves w B ls vl) (hbx : Boxes w B bs vb) (ha : Ints w B s vs) (hat : Ints w B t vt) :
    Calls Try.prog 13 #[vl, vb, vs, vt] w fun e w' => ∃ v', e = .returned (.tuple #[v', .int .i64 (plE ls bs s t)]) ∧ Below w.heap.size w w' := by
  unfold plE
  by_cases h1 : possE ls bs s = 0
  · rw [if_neg (by simp [h1])]
    by_cases h2 : possE ls bs t = 0
    · rw [if_neg (by simp [h2])]
      cases h3 : planF ls bs s t with
      | none => exact (Plan_none ls bs s t vl vb vs vt w B hB hl hbx ha hat h1 h2 h3).mono fun e w' ⟨he, hb⟩ => ⟨_, he, hb⟩
      | some p => exact (Plan_some ls bs s t vl vb vs vt w B hB hl hbx ha hat h1 h2 p h3).mono fun e w' ⟨v', he, _, hb⟩ => ⟨v', he, hb⟩
    · rw [if_pos h2]
      exact (Plan_bad2 ls bs s t vl vb vs vt w B hB hl hbx ha hat h1 h2).mono fun e w' ⟨he, hb⟩ => ⟨_, he, hb⟩
  · rw [if_pos h1]
    exact (Plan_bad1 ls bs s vl vb vs vt w B hB hl hbx ha h1).mono fun e w' ⟨he, hb⟩ => ⟨_, he, hb⟩
theorem Reached_any (ls : List Shelf) (bs : List Box) (s : List Int) (vl vb vs : Value) (w : World) (B : Nat) (hB : B ≤ w.heap.size) (hl : Shelves w B ls vl) (hbx : Boxes w B bs vb) (ha : Ints w B s vs) :
    Calls Try.prog 16 #[vl, vb, vs] w fun e w' => ∃ (ys : List (List Int)) (A : Option Addr) (c : Nat), e = .returned (.tuple #[.slice A ys.length c, .int .i64 (possE ls bs s)]) ∧ States w' w'.heap.size ys (.slice A ys.length c) ∧ (possE ls bs s = 0 → ys.Perm ((reachF ls bs s).map Prod.fst) ∧ ascW ys) ∧ Below w.heap.size w w' := by
  by_cases h1 : possE ls bs s = 0
  · refine (Reached_ok ls bs s vl vb vs w B hB hl hbx ha h1).mono ?_
    rintro e w' ⟨v', ys, rfl, hp, hasc, hown, hb⟩
    have h := hown.toSl saS
    obtain ⟨A, c, rfl, _⟩ := id h
    exact ⟨ys, A, c, by rw [h1], h, fun _ => ⟨hp, hasc⟩, hb⟩
  · refine (Reached_bad ls bs s vl vb vs w B hB hl hbx ha h1).mono ?_
    rintro e w' ⟨rfl, hb⟩
    exact ⟨[], none, 0, rfl, SlRep.nil_, fun h => absurd h h1, hb⟩
set_option maxHeartbeats 1000000 in
theorem long2_c (x : List Int) (v : Value) (w : World) (B : Nat) (_hB : B ≤ w.heap.size) (h : Ints w B x v) :
    Calls Try.prog 25 #[v] w fun e w' => e = .returned (.bool (decide (30 < x.length))) ∧ Below w.heap.size w w' := by
  obtain ⟨A, c, rfl, hc1, hc2, _⟩ := id h
  go_enter Try.func25, Try.ntmps25
  go_wp2
  go_ret
  exact ⟨ret_bool (by rw [decide_eq_decide]; omega), Below.refl _ _⟩
theorem same2_c (x y : List Int) (vx vy : Value) (g : Nat) (w : World) (B : Nat) (hB : B ≤ w.heap.size) (hx : Ints w B x vx) (hy : Ints w B y vy) (h0 : w.cell? ⟨g, 0, none⟩ = some vx) :
    Calls Try.prog 26 #[vy, .pointer (some ⟨g, 0, none⟩)] w fun e w' => e = .returned (.bool (eqL eqI y x)) ∧ Below w.heap.size w w' := by
  have HE := Lib.hid (Calls.below_of (equalI_c y x vy vx w B hB hy hx))
  go_enter Try.func26, Try.ntmps26
  go_wp2_with fail
  refine HE.out.mono ?_
  rintro e w1 ⟨rfl, hb1⟩
  go_wp2
  go_ret
  exact ⟨rfl, hb1⟩
end Go.Proofs.Ythabpkigflldmaa
