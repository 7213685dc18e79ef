/- Plans as ways: what Apply accepts leads on; the first plans are shortest. -/
import Derived.Test.YthabpkigflldmaaLaS
namespace Go.Proofs.Ythabpkigflldmaa
open Go.RowKit

theorem nbr_of_apply {ls : List Shelf} {bs : List Box} {s : List Int} {c : Carry} (hst : startE ls bs = 0) (h : applyE ls bs s c = 0) : (c, movedF bs s c) ∈ nbrF ls bs s := by
  obtain ⟨h1, h2, h3, h4, h5⟩ := apply_zero h
  obtain ⟨k, b, hk, hb, hid⟩ := bxIx_some h1
  obtain ⟨sh, hsh, hsid⟩ := shIx_mem h2
  have hm : movedF bs s c = s.set k c.to_ := moved_at hk
  rw [hk, Int.toNat_natCast] at h3
  refine (mem_nbr hst).2 ⟨k, b, sh, hb, hsh, ?_, ?_, ?_, ?_⟩
  · rw [hsid, h3]; exact fun e => h4 e.symm
  · rw [hsid, ← hm]; exact h5
  · rw [hid, h3, hsid]
  · rw [hm, hsid]
theorem apply_of_nbr {ls : List Shelf} {bs : List Box} {s : List Int} {c : Carry} {x : List Int} (hst : startE ls bs = 0) (h : (c, x) ∈ nbrF ls bs s) : applyE ls bs s c = 0 ∧ x = movedF bs s c := by
  obtain ⟨i, b, sh, h1, h2, h3, h4, rfl, rfl⟩ := (mem_nbr hst).1 h
  have h5 := bxIx_at (asc_of hst).2 h1
  have hm : movedF bs s ⟨b.id, s.getD i 0, sh.id⟩ = s.set i sh.id := moved_at h5
  refine ⟨?_, hm.symm⟩
  have h6 : ¬ shIx ls sh.id < 0 := by
    rcases idxF_cases (idS sh.id) ls with ⟨_, e2⟩ | ⟨k, x, e1, _⟩
    · have := e2 sh h2; simp [idS] at this
    · unfold shIx; omega
  unfold applyE
  rw [if_neg (by show ¬ (bxIx bs b.id < 0 ∨ shIx ls sh.id < 0); omega), if_neg (by show ¬ (s.getD (bxIx bs b.id).toNat 0 ≠ s.getD i 0); rw [h5]; simp), if_neg (by exact fun e => h3 e.symm), hm, if_neg (by simp [h4])]
theorem leads_of_fail {ls : List Shelf} {bs : List Box} (hst : startE ls bs = 0) : ∀ (p : List Carry) (s : List Int) (i : Nat), (failF ls bs s i p).2 = 0 → Leads (nbrF ls bs) s p (finalF bs s p)
  | [], _, _, _ => rfl
  | c :: r, s, i, h => by
    by_cases ha : applyE ls bs s c = 0
    · rw [failF, if_neg (by simp [ha])] at h
      exact ⟨_, nbr_of_apply hst ha, leads_of_fail hst r _ _ h⟩
    · rw [failF, if_pos ha] at h
      exact absurd h ha
theorem fail_of_leads {ls : List Shelf} {bs : List Box} (hst : startE ls bs = 0) : ∀ (p : List Carry) (s t : List Int) (i : Nat), Leads (nbrF ls bs) s p t → failF ls bs s i p = (-1, 0) ∧ finalF bs s p = t
  | [], s, t, _, h => ⟨rfl, h⟩
  | c :: r, s, t, i, ⟨x, hx, hr⟩ => by
    obtain ⟨h1, rfl⟩ := apply_of_nbr hst hx
    obtain ⟨h2, h3⟩ := fail_of_leads hst r _ t (i + 1) hr
    exact ⟨by rw [failF, if_neg (by simp [h1]), h2], h3⟩
theorem plan_of_leads {ls : List Shelf} {bs : List Box} (hst : startE ls bs = 0) {s t : List Int} {q : List Carry} (hg : Good ls bs s) (h : Leads (nbrF ls bs) s q t) : ∃ p, planF ls bs s t = some p ∧ p.length ≤ q.length ∧ Leads (nbrF ls bs) s p t := by
  obtain ⟨hF, _, _⟩ := reach_found hst hg
  obtain ⟨p, hp, hle⟩ := hF.least q t h
  cases hpl : planF ls bs s t with
  | none => exact absurd rfl (planF_none hpl (t, p) hp)
  | some p' =>
    have := hF.uniq (planF_some hpl) hp
    subst this
    refine ⟨_, rfl, ?_, hF.leads (t, _) hp⟩
    rcases hle with rfl | hle
    · exact Nat.le_refl _
    · exact slt_len hle
theorem plan_leads {ls : List Shelf} {bs : List Box} (hst : startE ls bs = 0) {s t : List Int} {p : List Carry} (hg : Good ls bs s) (h : planF ls bs s t = some p) : Leads (nbrF ls bs) s p t :=
  (reach_found hst hg).1.leads (t, p) (planF_some h)
/-- the plan, and the plan back -/
theorem shortest {ls : List Shelf} {bs : List Box} {s : List Int} {plan : List Carry} (hp : possE ls bs s = 0) (hf : (failF ls bs s 0 plan).2 = 0) :
    possE ls bs (finalF bs s plan) = 0 ∧ (finalF bs s plan).length = bs.length ∧ ∃ p q, planF ls bs s (finalF bs s plan) = some p ∧ planF ls bs (finalF bs s plan) s = some q ∧ p.length ≤ plan.length ∧ q.length = p.length := by
  obtain ⟨hst, hr, hh⟩ := poss_zero hp
  have hg : Good ls bs s := ⟨hr, hh⟩
  have hL := leads_of_fail hst plan s 0 hf
  have hg2 := leads_good hst plan s _ hg hL
  obtain ⟨p, h1, h2, h3⟩ := plan_of_leads hst hg hL
  obtain ⟨q, h4, h5, h6⟩ := plan_of_leads hst hg2 (leads_back hst p s _ hg h3)
  obtain ⟨p', h7, h8, _⟩ := plan_of_leads hst hg (leads_back hst q _ s hg2 h6)
  rw [h1] at h7
  injection h7 with h7
  subst h7
  rw [backP_len] at h5 h8
  exact ⟨poss_of hst hg2.1 hg2.2, hg2.1.1, p, q, h1, h4, h2, by omega⟩
end Go.Proofs.Ythabpkigflldmaa
