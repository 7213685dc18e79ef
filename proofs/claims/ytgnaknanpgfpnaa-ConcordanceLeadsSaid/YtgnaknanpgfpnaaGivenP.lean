/- What 'given' computes, in plain Lean: the lists and the map of what each unit has at present. -/
import Derived.Test.YtgnaknanpgfpnaaData
import Derived.Test.YtgnaknanpgfpnaaMaps
namespace Go.Proofs.Ytgnaknanpgfpnaa

def keepB (x : Shot) (out : List Given) (u k : Int) : Bool := match x.units.find? (fun y => y.unit == u) with
  | none => false
  | some y => match out[k.toNat]? with
    | none => false
    | some g => decide (y.mark = g.mark)
def closeNow (x : Shot) (out : List Given) (now : Int → Option Int) : Int → Option Int := fun u => match now u with
  | none => none
  | some k => if keepB x out u k then some k else none
def endAt (day : Int) (g : Given) : Given := { g with until_ := day }
def closeOut (x : Shot) (out : List Given) (now : Int → Option Int) : List Given :=
  out.mapIdx fun j g => if decide (now g.unit = some (j : Int)) && !keepB x out g.unit j then endAt x.day g else g
def openU (day : Int) : List Standing → List Given → (Int → Option Int) → List Given × (Int → Option Int)
  | [], out, now => (out, now)
  | s :: r, out, now => if now s.unit = none ∧ s.mark.size ≠ 0 then openU day r (out ++ [⟨s.mark, s.unit, day, 1048576⟩]) (upd now s.unit out.length) else openU day r out now
def givenS (st : List Given × (Int → Option Int)) (x : Shot) : List Given × (Int → Option Int) := openU x.day x.units (closeOut x st.1 st.2) (closeNow x st.1 st.2)
def givenP (hs : List Shot) : List Given := (hs.foldl givenS ([], fun _ => none)).1

/-- the map leads to places of the list that bear the unit -/
def GI (out : List Given) (now : Int → Option Int) : Prop := ∀ u k, now u = some k → 0 ≤ k ∧ ∃ g, out[k.toNat]? = some g ∧ g.unit = u

theorem closeOut_at (x : Shot) (out : List Given) (now : Int → Option Int) (j : Nat) (g : Given) (h : out[j]? = some g) :
    (closeOut x out now)[j]? = some (if decide (now g.unit = some (j : Int)) && !keepB x out g.unit j then endAt x.day g else g) := by
  simp [closeOut, h]
theorem closeOut_len (x : Shot) (out : List Given) (now : Int → Option Int) : (closeOut x out now).length = out.length := by simp [closeOut]
theorem GI.close {out : List Given} {now : Int → Option Int} (h : GI out now) (x : Shot) : GI (closeOut x out now) (closeNow x out now) := by
  intro u k hk
  unfold closeNow at hk
  cases hu : now u with
  | none => simp [hu] at hk
  | some k' =>
    rw [hu] at hk
    by_cases hkb : keepB x out u k' = true
    · simp [hkb] at hk
      subst hk
      obtain ⟨h0, g, hg, hgu⟩ := h u k' hu
      refine ⟨h0, _, closeOut_at x out now _ g hg, ?_⟩
      split
      · exact hgu
      · exact hgu
    · simp [hkb] at hk
theorem GI.push {out : List Given} {now : Int → Option Int} (h : GI out now) (g : Given) : GI (out ++ [g]) (upd now g.unit out.length) := by
  intro u k hk
  unfold upd at hk
  by_cases hu : u = g.unit
  · rw [if_pos hu] at hk
    injection hk with hk
    subst hk
    exact ⟨by omega, g, by simp, hu.symm⟩
  · rw [if_neg hu] at hk
    obtain ⟨h0, g', hg, hgu⟩ := h u k hk
    exact ⟨h0, g', by rw [List.getElem?_append_left (lt_of_at hg)]; exact hg, hgu⟩

section
variable (es : List (Int × Int × Nat)) (keep : Int → Int → Bool) (out : List Given) (day : Int)
def esD (seen : List Nat) : List (Int × Int × Nat) := es.filter fun e => !decide (e.2.2 ∈ seen) || keep e.1 e.2.1
def outD (seen : List Nat) : List Given := out.mapIdx fun j g => if es.any (fun e => decide (e.2.2 ∈ seen) && !keep e.1 e.2.1 && decide (e.2.1 = (j : Int))) then endAt day g else g
variable {es keep out day}
theorem esD_nil : esD es keep [] = es := by simp [esD]
theorem outD_nil : outD es keep out day [] = out := by
  apply List.ext_getElem?
  intro j
  simp [outD]
theorem outD_len (seen : List Nat) : (outD es keep out day seen).length = out.length := by simp [outD]
theorem born_inj : ∀ {es : List (Int × Int × Nat)}, (es.map (·.2.2)).Nodup → ∀ {a b : Int × Int × Nat}, a ∈ es → b ∈ es → a.2.2 = b.2.2 → a = b
  | [], _, _, _, ha, _, _ => by cases ha
  | x :: es, hn, a, b, ha, hb, hab => by
    simp only [List.map_cons, List.nodup_cons] at hn
    rcases List.mem_cons.1 ha with rfl | ha' <;> rcases List.mem_cons.1 hb with rfl | hb'
    · rfl
    · exact absurd (List.mem_map.2 ⟨b, hb', hab.symm⟩) hn.1
    · exact absurd (List.mem_map.2 ⟨a, ha', hab⟩) hn.1
    · exact born_inj hn.2 ha' hb' hab
theorem key_inj : ∀ {es : List (Int × Int × Nat)}, (es.map (·.1)).Nodup → ∀ {a b : Int × Int × Nat}, a ∈ es → b ∈ es → a.1 = b.1 → a = b
  | [], _, _, _, ha, _, _ => by cases ha
  | x :: es, hn, a, b, ha, hb, hab => by
    simp only [List.map_cons, List.nodup_cons] at hn
    rcases List.mem_cons.1 ha with rfl | ha' <;> rcases List.mem_cons.1 hb with rfl | hb'
    · rfl
    · exact absurd (List.mem_map.2 ⟨b, hb', hab.symm⟩) hn.1
    · exact absurd (List.mem_map.2 ⟨a, ha', hab⟩) hn.1
    · exact key_inj hn.2 ha' hb' hab
theorem esD_keep {seen : List Nat} {e : Int × Int × Nat} (hb : (es.map (·.2.2)).Nodup) (he : e ∈ es) (hk : keep e.1 e.2.1 = true) : esD es keep (seen ++ [e.2.2]) = esD es keep seen := by
  unfold esD
  apply List.filter_congr
  intro x hx
  by_cases hxe : x.2.2 = e.2.2
  · obtain rfl := born_inj hb hx he hxe
    simp [hk]
  · simp [hxe]
theorem outD_keep {seen : List Nat} {e : Int × Int × Nat} (hb : (es.map (·.2.2)).Nodup) (he : e ∈ es) (hk : keep e.1 e.2.1 = true) : outD es keep out day (seen ++ [e.2.2]) = outD es keep out day seen := by
  unfold outD
  congr 1
  funext j g
  congr 2
  rw [Bool.eq_iff_iff, List.any_eq_true, List.any_eq_true]
  constructor
  · rintro ⟨x, hx, h⟩
    refine ⟨x, hx, ?_⟩
    by_cases hxe : x.2.2 = e.2.2
    · obtain rfl := born_inj hb hx he hxe
      simp [hk] at h
    · simpa [hxe] using h
  · rintro ⟨x, hx, h⟩
    refine ⟨x, hx, ?_⟩
    simp only [Bool.and_eq_true, decide_eq_true_eq] at h ⊢
    exact ⟨⟨List.mem_append_left _ h.1.1, h.1.2⟩, h.2⟩
theorem esD_drop {seen : List Nat} {e : Int × Int × Nat} (hb : (es.map (·.2.2)).Nodup) (hkk : (es.map (·.1)).Nodup) (he : e ∈ es) (hk : keep e.1 e.2.1 = false) :
    (esD es keep seen).filter (fun x => !decide (x.1 = e.1)) = esD es keep (seen ++ [e.2.2]) := by
  unfold esD
  rw [List.filter_filter]
  apply List.filter_congr
  intro x hx
  by_cases hxe : x.2.2 = e.2.2
  · obtain rfl := born_inj hb hx he hxe
    simp [hk]
  · have hx1 : x.1 ≠ e.1 := fun h => hxe (by rw [key_inj hkk hx he h])
    simp [hxe, hx1]
theorem outD_drop {seen : List Nat} {e : Int × Int × Nat} (hb : (es.map (·.2.2)).Nodup) (he : e ∈ es) (hk : keep e.1 e.2.1 = false) (h0 : 0 ≤ e.2.1) {g : Given} (hg : (outD es keep out day seen)[e.2.1.toNat]? = some g) :
    (outD es keep out day seen).set e.2.1.toNat (endAt day g) = outD es keep out day (seen ++ [e.2.2]) := by
  apply List.ext_getElem?
  intro j
  rw [List.getElem?_set]
  have hlen := lt_of_at hg
  by_cases hj : e.2.1.toNat = j
  · subst hj
    rw [if_pos rfl, if_pos hlen]
    have hlo : e.2.1.toNat < out.length := by rw [outD_len] at hlen; exact hlen
    obtain ⟨g0, hg0⟩ := get_at out hlo
    have h1 : (outD es keep out day seen)[e.2.1.toNat]? = some (if es.any (fun x => decide (x.2.2 ∈ seen) && !keep x.1 x.2.1 && decide (x.2.1 = ((e.2.1.toNat : Nat) : Int))) then endAt day g0 else g0) := by simp [outD, hg0]
    have h2 : (outD es keep out day (seen ++ [e.2.2]))[e.2.1.toNat]? = some (if es.any (fun x => decide (x.2.2 ∈ seen ++ [e.2.2]) && !keep x.1 x.2.1 && decide (x.2.1 = ((e.2.1.toNat : Nat) : Int))) then endAt day g0 else g0) := by simp [outD, hg0]
    rw [h2, if_pos]
    · rw [h1] at hg
      injection hg with hg
      rw [← hg]
      split <;> rfl
    · rw [List.any_eq_true]
      refine ⟨e, he, ?_⟩
      simp only [Bool.and_eq_true, decide_eq_true_eq, Bool.not_eq_true']
      exact ⟨⟨by simp, hk⟩, by omega⟩
  · rw [if_neg hj]
    by_cases hlo : j < out.length
    · obtain ⟨g0, hg0⟩ := get_at out hlo
      have h1 : ∀ s : List Nat, (outD es keep out day s)[j]? = some (if es.any (fun x => decide (x.2.2 ∈ s) && !keep x.1 x.2.1 && decide (x.2.1 = (j : Int))) then endAt day g0 else g0) := fun s => by simp [outD, hg0]
      rw [h1, h1]
      congr 2
      rw [eq_iff_iff, List.any_eq_true, List.any_eq_true]
      constructor
      · rintro ⟨x, hx, h⟩
        refine ⟨x, hx, ?_⟩
        simp only [Bool.and_eq_true, decide_eq_true_eq] at h ⊢
        exact ⟨⟨List.mem_append_left _ h.1.1, h.1.2⟩, h.2⟩
      · rintro ⟨x, hx, h⟩
        refine ⟨x, hx, ?_⟩
        simp only [Bool.and_eq_true, decide_eq_true_eq, List.mem_append, List.mem_singleton] at h ⊢
        refine ⟨⟨?_, h.1.2⟩, h.2⟩
        rcases h.1.1 with hs | hs
        · exact hs
        · obtain rfl := born_inj hb hx he hs
          exact absurd h.2 (by omega)
    · rw [List.getElem?_eq_none (by rw [outD_len]; omega), List.getElem?_eq_none (by rw [outD_len]; omega)]
theorem all_seen {seen : List Nat} (h : ∀ e ∈ esD es keep seen, e.2.2 ∈ seen) : ∀ e ∈ es, e.2.2 ∈ seen := by
  intro e he
  by_cases hs : e.2.2 ∈ seen
  · exact hs
  · exact h e (List.mem_filter.2 ⟨he, by simp [hs]⟩)
theorem mget_mem {es : List (Int × Int × Nat)} (hkk : (es.map (·.1)).Nodup) {u k : Int} : mget es u = some k ↔ ∃ t, (u, k, t) ∈ es := by
  unfold mget
  constructor
  · intro h
    obtain ⟨e, he, hk⟩ := Option.map_eq_some_iff.1 h
    have h1 := List.find?_some he
    have h2 := List.mem_of_find?_eq_some he
    simp at h1
    subst h1 hk
    exact ⟨e.2.2, h2⟩
  · rintro ⟨t, ht⟩
    cases hf : es.find? (fun e => decide (e.1 = u)) with
    | none =>
      rw [List.find?_eq_none] at hf
      have := hf _ ht
      simp at this
    | some e =>
      have h1 := List.find?_some hf
      have h2 := List.mem_of_find?_eq_some hf
      simp at h1
      have := key_inj hkk h2 ht h1
      subst this
      rfl
/-- when all is seen: the map that is left -/
theorem esD_end {seen : List Nat} (hkk : (es.map (·.1)).Nodup) (h : ∀ e ∈ esD es keep seen, e.2.2 ∈ seen) (u : Int) :
    mget (esD es keep seen) u = match mget es u with | none => none | some k => if keep u k then some k else none := by
  have hs := all_seen h
  have hE : esD es keep seen = es.filter fun e => keep e.1 e.2.1 := by
    unfold esD
    apply List.filter_congr
    intro e he
    simp [hs e he]
  have hkk' : ((esD es keep seen).map (·.1)).Nodup := (List.filter_sublist.map _).nodup hkk
  cases hm : mget es u with
  | none =>
    simp only
    cases hq : mget (esD es keep seen) u with
    | none => rfl
    | some k =>
      obtain ⟨t, ht⟩ := (mget_mem hkk').1 hq
      rw [hE] at ht
      rw [(mget_mem hkk).2 ⟨t, (List.mem_filter.1 ht).1⟩] at hm
      cases hm
  | some k =>
    simp only
    obtain ⟨t, ht⟩ := (mget_mem hkk).1 hm
    by_cases hkp : keep u k = true
    · rw [if_pos hkp]
      exact (mget_mem hkk').2 ⟨t, by rw [hE]; exact List.mem_filter.2 ⟨ht, hkp⟩⟩
    · rw [if_neg hkp]
      cases hq : mget (esD es keep seen) u with
      | none => rfl
      | some k' =>
        obtain ⟨t', ht'⟩ := (mget_mem hkk').1 hq
        rw [hE] at ht'
        obtain ⟨h1, h2⟩ := List.mem_filter.1 ht'
        have := (mget_mem hkk).2 ⟨t', h1⟩
        rw [hm] at this
        injection this with this
        subst this
        exact absurd h2 hkp
end
theorem outD_end {es : List (Int × Int × Nat)} {x : Shot} {out : List Given} {seen : List Nat} (hkk : (es.map (·.1)).Nodup) (hG : GI out (mget es)) (h : ∀ e ∈ esD es (keepB x out) seen, e.2.2 ∈ seen) :
    outD es (keepB x out) out x.day seen = closeOut x out (mget es) := by
  have hs := all_seen h
  apply List.ext_getElem?
  intro j
  by_cases hlo : j < out.length
  · obtain ⟨g0, hg0⟩ := get_at out hlo
    rw [closeOut_at x out _ j g0 hg0]
    have h1 : (outD es (keepB x out) out x.day seen)[j]? = some (if es.any (fun e => decide (e.2.2 ∈ seen) && !keepB x out e.1 e.2.1 && decide (e.2.1 = (j : Int))) then endAt x.day g0 else g0) := by simp [outD, hg0]
    rw [h1]
    congr 2
    rw [eq_iff_iff, List.any_eq_true]
    simp only [Bool.and_eq_true, decide_eq_true_eq, Bool.not_eq_true']
    constructor
    · rintro ⟨e, he, ⟨_, h2⟩, h3⟩
      have hm : mget es e.1 = some e.2.1 := (mget_mem hkk).2 ⟨e.2.2, he⟩
      obtain ⟨_, g, hg, hgu⟩ := hG _ _ hm
      rw [h3] at hg
      simp only [Int.toNat_natCast] at hg
      rw [hg0] at hg
      injection hg with hg
      subst hg
      rw [hgu, hm, h3] at *
      exact ⟨rfl, h2⟩
    · rintro ⟨h1, h2⟩
      obtain ⟨t, ht⟩ := (mget_mem hkk).1 h1
      exact ⟨_, ht, ⟨hs _ ht, h2⟩, rfl⟩
  · rw [List.getElem?_eq_none (by rw [outD_len]; omega), List.getElem?_eq_none (by rw [closeOut_len]; omega)]
end Go.Proofs.Ytgnaknanpgfpnaa
