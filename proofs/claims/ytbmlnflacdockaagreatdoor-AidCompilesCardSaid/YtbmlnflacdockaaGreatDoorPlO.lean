/- Plain: the sections of a finding aid are those of its unit and the units below, in order, with different numbers (AidOnce). -/
import Derived.Test.YtbmlnflacdockaaGreatDoorPrX
import Derived.Test.YtbmlnflacdockaaGreatDoorPlG
namespace Go.Proofs.YtbmlnflacdockaaGreatDoor
open Go.RowKit

/-- what a row of digits means -/
def valD (l : List UInt8) : Nat := l.foldl (fun v d => v * 10 + (d.toNat - 48)) 0
theorem valD_snoc (l : List UInt8) (d : UInt8) : valD (l ++ [d]) = valD l * 10 + (d.toNat - 48) := by simp [valD]
theorem dig_toNat {k : Nat} (h : k < 10) : (UInt8.ofNat (48 + k)).toNat = 48 + k := by
  simp
  omega
theorem valD_dec : ∀ (m n : Nat), n < m → valD (Lib.decDigits n) = n
  | 0, _, h => by omega
  | m + 1, n, h => by
    rw [Lib.decDigits]
    by_cases c : n < 10
    · rw [dif_pos c]
      have := dig_toNat c
      simp only [valD, List.foldl_cons, List.foldl_nil, this]
      omega
    · rw [dif_neg c, valD_snoc, valD_dec m (n / 10) (by omega), dig_toNat (Nat.mod_lt _ (by decide))]
      omega
theorem dec_inj {a b : Nat} (h : Lib.decDigits a = Lib.decDigits b) : a = b := by
  rw [← valD_dec (a + 1) a (by omega), ← valD_dec (b + 1) b (by omega), h]
theorem dec_dot : ∀ (m n : Nat), n < m → (46 : UInt8) ∉ Lib.decDigits n
  | 0, _, h => by omega
  | m + 1, n, h => by
    have key : ∀ k, k < 10 → (46 : UInt8) ≠ UInt8.ofNat (48 + k) := fun k hk e => by
      have := congrArg UInt8.toNat e
      rw [dig_toNat hk] at this
      simp at this
      omega
    rw [Lib.decDigits]
    by_cases c : n < 10
    · rw [dif_pos c]
      simpa using key n c
    · rw [dif_neg c, List.mem_append, not_or]
      exact ⟨dec_dot m (n / 10) (by omega), by simpa using key _ (Nat.mod_lt _ (by decide))⟩
/-- two rows parted at their last point -/
theorem dot_split : ∀ {a a' d d' : List UInt8}, (46 : UInt8) ∉ d → (46 : UInt8) ∉ d' → a ++ 46 :: d = a' ++ 46 :: d' → a = a' ∧ d = d'
  | [], [], d, d', _, _, h => by simpa using h
  | [], x :: a', d, d', h1, _, h => by
    injection h with e1 e2
    exact absurd (by rw [e2]; simp) h1
  | x :: a, [], d, d', _, h2, h => by
    injection h with e1 e2
    exact absurd (by rw [← e2]; simp) h2
  | x :: a, y :: a', d, d', h1, h2, h => by
    injection h with e1 e2
    obtain ⟨i1, i2⟩ := dot_split h1 h2 e2
    exact ⟨by rw [e1, i1], i2⟩
theorem subS_list (a : ByteArray) (n : Nat) : (subS a n).data.toList = a.data.toList ++ 46 :: Lib.decDigits n := by
  unfold subS digS
  simp [ByteArray.data_append]
theorem subS_inj {a b : ByteArray} {n m : Nat} (h : subS a n = subS b m) : a = b ∧ n = m := by
  have e := congrArg (fun x : ByteArray => x.data.toList) h
  simp only [subS_list] at e
  obtain ⟨e1, e2⟩ := dot_split (dec_dot _ n (Nat.lt_succ_self _)) (dec_dot _ m (Nat.lt_succ_self _)) e
  exact ⟨ByteArray.ext (Array.toList_inj.1 e1), dec_inj e2⟩
theorem subS_one {a : ByteArray} {n : Nat} : subS a n ≠ oneS := fun h => by
  have e := congrArg (fun x : ByteArray => x.data.toList) h
  simp only [subS_list] at e
  have hm : (46 : UInt8) ∈ oneS.data.toList := by rw [← e]; simp
  simp [oneS] at hm
theorem subS_ne {a : ByteArray} {n : Nat} : subS a n ≠ ⟨#[]⟩ := fun h => by
  have e := congrArg (fun x : ByteArray => x.data.toList) h
  simp only [subS_list] at e
  simp at e
section
variable {l : List Sheet} (T : Tree l)
include T
/-- the sheet above, where the finding aid's unit stands further up -/
theorem Tree.up_in {root : Int} {i : Nat} {s : Sheet} (hs : l[i]? = some s) (h : root ∈ chainF l i) (hne : s.unit ≠ root) : ∃ (j : Nat) (x : Sheet), j < i ∧ l[j]? = some x ∧ x.unit = s.parent ∧ shtIx (l.take i) s.parent = j ∧ root ∈ chainF l j := by
  rcases T.up hs with ⟨_, e⟩ | ⟨j, x, hj, hx, hu, _, hix, e⟩
  · rw [e] at h
    simp at h
    exact absurd h.symm hne
  · rw [e] at h
    rcases List.mem_cons.1 h with h | h
    · exact absurd h.symm hne
    · exact ⟨j, x, hj, hx, hu, hix, h⟩
omit T in
theorem kids_mono (p : Int) : ∀ (d i : Nat), kidsN l i p ≤ kidsN l (i + d) p
  | 0, i => Nat.le_refl _
  | d + 1, i => by
    refine Nat.le_trans (kids_mono p d i) ?_
    by_cases h : i + d < l.length
    · obtain ⟨s, hs⟩ := get_at l h
      rw [show i + (d + 1) = i + d + 1 from rfl, kids_succ hs]
      omega
    · unfold kidsN
      rw [List.take_of_length_le (by omega), List.take_of_length_le (by omega)]
      exact Nat.le_refl _
theorem num_inj {root : Int} : ∀ (n i j : Nat), i < n → ∀ (s t : Sheet), l[i]? = some s → l[j]? = some t → root ∈ chainF l i → root ∈ chainF l j → rnumF l root i = rnumF l root j → i = j
  | 0, _, _, h, _, _, _, _, _, _, _ => by omega
  | n + 1, i, j, h, s, t, hs, ht, hi, hj, e => by
    by_cases c1 : s.unit = root
    · by_cases c2 : t.unit = root
      · exact T.uniq hs ht (c1.trans c2.symm)
      · obtain ⟨k, x, hk, hx, hu, hix, _⟩ := T.up_in ht hj c2
        rw [rnum_root hs c1, rnum_up ht c2 hk hix] at e
        exact absurd e.symm subS_one
    · obtain ⟨k, x, hk, hx, hu, hix, hkr⟩ := T.up_in hs hi c1
      by_cases c2 : t.unit = root
      · rw [rnum_root ht c2, rnum_up hs c1 hk hix] at e
        exact absurd e subS_one
      · obtain ⟨k', x', hk', hx', hu', hix', hkr'⟩ := T.up_in ht hj c2
        rw [rnum_up hs c1 hk hix, rnum_up ht c2 hk' hix'] at e
        obtain ⟨e1, e2⟩ := subS_inj e
        obtain rfl := num_inj n k k' (by omega) x x' hx hx' hkr hkr' e1
        rw [hx] at hx'
        injection hx' with hx'
        subst hx'
        have hp : s.parent = t.parent := hu.symm.trans hu'
        have e3 : kidsN l (i + 1) s.parent = kidsN l (j + 1) s.parent := by rw [e2, hp]
        have k1 := kids_succ hs s.parent
        have k2 := kids_succ ht s.parent
        rw [if_pos rfl] at k1
        rw [if_pos hp.symm] at k2
        rcases Nat.lt_trichotomy i j with hlt | heq | hgt
        · have := kids_mono (l := l) s.parent (j - (i + 1)) (i + 1)
          rw [show i + 1 + (j - (i + 1)) = j by omega] at this
          omega
        · exact heq
        · have := kids_mono (l := l) s.parent (i - (j + 1)) (j + 1)
          rw [show j + 1 + (i - (j + 1)) = i by omega] at this
          omega
theorem num_ne {root : Int} {i : Nat} {s : Sheet} (hs : l[i]? = some s) (h : root ∈ chainF l i) : rnumF l root i ≠ ⟨#[]⟩ := by
  by_cases c : s.unit = root
  · rw [rnum_root hs c]
    intro e
    have := congrArg ByteArray.size e
    cases this
  · obtain ⟨k, x, hk, hx, hu, hix, _⟩ := T.up_in hs h c
    rw [rnum_up hs c hk hix]
    exact subS_ne
/-- a section of the finding aid -/
def SecOk (l : List Sheet) (root : Int) (i : Nat) (p : Sheet × ByteArray) : Prop := l[i]? = some p.1 ∧ root ∈ chainF l i ∧ p.2 = rnumF l root i
omit T in
theorem rnumL_mem {root : Int} : ∀ (r : List Sheet) (i : Nat), l.drop i = r → ∀ p ∈ rnumL l root i r, ∃ j, i ≤ j ∧ SecOk l root j p
  | [], _, _, p, h => by simp [rnumL] at h
  | s :: r, i, hd, p, h => by
    have hs : l[i]? = some s := by
      have := congrArg (fun x => x[0]?) hd
      simpa using this
    have hd' : l.drop (i + 1) = r := by
      have := drop_at hs
      rw [hd] at this
      injection this with _ e
      exact e.symm
    rw [rnumL] at h
    split at h
    · rename_i hc
      rcases List.mem_cons.1 h with rfl | h
      · exact ⟨i, Nat.le_refl _, hs, inB_iff.1 hc, rfl⟩
      · obtain ⟨j, h1, h2⟩ := rnumL_mem r (i + 1) hd' p h
        exact ⟨j, by omega, h2⟩
    · obtain ⟨j, h1, h2⟩ := rnumL_mem r (i + 1) hd' p h
      exact ⟨j, by omega, h2⟩
omit T in
theorem rnumL_asc {root : Int} : ∀ (r : List Sheet) (i : Nat), l.drop i = r → (rnumL l root i r).Pairwise fun a b => ∃ j k, j < k ∧ SecOk l root j a ∧ SecOk l root k b
  | [], _, _ => List.Pairwise.nil
  | s :: r, i, hd => by
    have hs : l[i]? = some s := by
      have := congrArg (fun x => x[0]?) hd
      simpa using this
    have hd' : l.drop (i + 1) = r := by
      have := drop_at hs
      rw [hd] at this
      injection this with _ e
      exact e.symm
    rw [rnumL]
    split
    · rename_i hc
      refine List.pairwise_cons.2 ⟨fun p hp => ?_, rnumL_asc r (i + 1) hd'⟩
      obtain ⟨k, h1, h2⟩ := rnumL_mem r (i + 1) hd' p hp
      exact ⟨i, k, by omega, ⟨hs, inB_iff.1 hc, rfl⟩, h2⟩
    · exact rnumL_asc r (i + 1) hd'
/-- the units below, as the statement gathers them -/
def belS (root : Int) (st : List Int × List Int) (s : Sheet) : List Int × List Int := if s.unit = root ∨ s.parent ∈ st.1 then (addK st.1 s.unit, st.2 ++ [s.unit]) else st
def belF (root : Int) (l : List Sheet) : List Int × List Int := l.foldl (belS root) ([root], [])
omit T in
theorem belF_step {root : Int} {i : Nat} {s : Sheet} (hs : l[i]? = some s) : belF root (l.take (i + 1)) = belS root (belF root (l.take i)) s := by
  unfold belF
  rw [take_at hs, List.foldl_append]
  rfl
theorem bel_in {root : Int} (hr : 1 ≤ root) : ∀ (i : Nat), i ≤ l.length → ∀ x, x ∈ (belF root (l.take i)).1 ↔ (x = root ∨ ∃ (j : Nat) (y : Sheet), j < i ∧ l[j]? = some y ∧ y.unit = x ∧ root ∈ chainF l j)
  | 0, _, x => by simp [belF]
  | i + 1, hi, x => by
    obtain ⟨s, hs⟩ := get_at l (show i < l.length by omega)
    have ih := bel_in hr i (by omega)
    have hcond : (s.unit = root ∨ s.parent ∈ (belF root (l.take i)).1) ↔ root ∈ chainF l i := by
      rw [ih]
      rcases T.up hs with ⟨h0, e⟩ | ⟨j, y, hj, hy, hu, h0, hix, e⟩
      · rw [e, h0]
        constructor
        · rintro (h | h | ⟨j, y, hj, hy, hyu, _⟩)
          · simp [h]
          · omega
          · have := T.pos y (List.mem_of_getElem? hy)
            omega
        · intro h
          simp at h
          exact .inl h.symm
      · rw [e]
        constructor
        · rintro (h | h | ⟨j', y', hj', hy', hyu', hr'⟩)
          · simp [h]
          · refine List.mem_cons_of_mem _ ?_
            rcases T.up hy with ⟨_, e2⟩ | ⟨_, _, _, _, _, _, _, e2⟩
            · rw [e2]; simp [hu, h]
            · rw [e2]; simp [hu, h]
          · obtain rfl := T.uniq hy hy' (hu.trans hyu'.symm)
            exact List.mem_cons_of_mem _ hr'
        · intro h
          rcases List.mem_cons.1 h with h | h
          · exact .inl h.symm
          · exact .inr (.inr ⟨j, y, hj, hy, hu, h⟩)
    rw [belF_step hs]
    unfold belS
    by_cases c : root ∈ chainF l i
    · rw [if_pos (hcond.2 c)]
      simp only
      unfold addK
      have hx : x ∈ (if s.unit ∈ (belF root (l.take i)).1 then (belF root (l.take i)).1 else (belF root (l.take i)).1 ++ [s.unit]) ↔ x ∈ (belF root (l.take i)).1 ∨ x = s.unit := by
        split
        · rename_i hm
          exact ⟨.inl, fun h => h.elim id (fun h => by rw [h]; exact hm)⟩
        · simp
      rw [hx, ih]
      constructor
      · rintro ((h | ⟨j, y, hj, h⟩) | h)
        · exact .inl h
        · exact .inr ⟨j, y, by omega, h⟩
        · exact .inr ⟨i, s, by omega, hs, h.symm, c⟩
      · rintro (h | ⟨j, y, hj, hy, hyu, hyr⟩)
        · exact .inl (.inl h)
        · rcases Nat.lt_or_ge j i with hlt | hge
          · exact .inl (.inr ⟨j, y, hlt, hy, hyu, hyr⟩)
          · obtain rfl : j = i := by omega
            rw [hs] at hy
            injection hy with hy
            exact .inr (by rw [← hyu, hy])
    · rw [if_neg (fun h => c (hcond.1 h)), ih]
      constructor
      · rintro (h | ⟨j, y, hj, h⟩)
        · exact .inl h
        · exact .inr ⟨j, y, by omega, h⟩
      · rintro (h | ⟨j, y, hj, hy, hyu, hyr⟩)
        · exact .inl h
        · rcases Nat.lt_or_ge j i with hlt | hge
          · exact .inr ⟨j, y, hlt, hy, hyu, hyr⟩
          · obtain rfl : j = i := by omega
            exact absurd hyr c
theorem bel_cond {root : Int} (hr : 1 ≤ root) {i : Nat} {s : Sheet} (hs : l[i]? = some s) : (s.unit = root ∨ s.parent ∈ (belF root (l.take i)).1) ↔ root ∈ chainF l i := by
  rw [bel_in T hr i (Nat.le_of_lt (lt_of_at hs))]
  rcases T.up hs with ⟨h0, e⟩ | ⟨j, y, hj, hy, hu, h0, hix, e⟩
  · rw [e, h0]
    constructor
    · rintro (h | h | ⟨j, y, hj, hy, hyu, _⟩)
      · simp [h]
      · omega
      · have := T.pos y (List.mem_of_getElem? hy)
        omega
    · intro h
      simp at h
      exact .inl h.symm
  · rw [e]
    constructor
    · rintro (h | h | ⟨j', y', hj', hy', hyu', hr'⟩)
      · simp [h]
      · refine List.mem_cons_of_mem _ ?_
        rcases T.up hy with ⟨_, e2⟩ | ⟨_, _, _, _, _, _, _, e2⟩
        · rw [e2]; simp [hu, h]
        · rw [e2]; simp [hu, h]
      · obtain rfl := T.uniq hy hy' (hu.trans hyu'.symm)
        exact List.mem_cons_of_mem _ hr'
    · intro h
      rcases List.mem_cons.1 h with h | h
      · exact .inl h.symm
      · exact .inr (.inr ⟨j, y, hj, hy, hu, h⟩)
theorem bel_units {root : Int} (hr : 1 ≤ root) : ∀ (r : List Sheet) (i : Nat), l.drop i = r → i ≤ l.length → (belF root l).2 = (belF root (l.take i)).2 ++ (rnumL l root i r).map fun p => p.1.unit
  | [], i, hd, hi => by
    have : l.length ≤ i := by simpa using hd
    rw [List.take_of_length_le this]
    simp [rnumL]
  | s :: r, i, hd, hi => by
    have hs : l[i]? = some s := by
      have := congrArg (fun x => x[0]?) hd
      simpa using this
    have hd' : l.drop (i + 1) = r := by
      have := drop_at hs
      rw [hd] at this
      injection this with _ e
      exact e.symm
    rw [bel_units hr r (i + 1) hd' (lt_of_at hs), belF_step hs, rnumL]
    unfold belS
    by_cases c : root ∈ chainF l i
    · rw [if_pos ((bel_cond T hr hs).2 c), if_pos (inB_iff.2 c)]
      simp
    · rw [if_neg (fun h => c ((bel_cond T hr hs).1 h)), if_neg (fun h => c (inB_iff.1 h))]
/-- what the statement asks of the sections -/
theorem once_units {root : Int} (hr : 1 ≤ root) : (belF root l).2 = (secnF l root).map fun p => p.1.unit := by
  rw [secnF_eq T, bel_units T hr l 0 (by simp) (Nat.zero_le _)]
  simp [belF]
theorem once_diff {root : Int} : (secnF l root).Pairwise fun a b => a.1.unit ≠ b.1.unit ∧ a.2 ≠ b.2 := by
  rw [secnF_eq T]
  refine (rnumL_asc l 0 (by simp)).imp ?_
  rintro a b ⟨j, k, hjk, ⟨a1, a2, a3⟩, ⟨b1, b2, b3⟩⟩
  refine ⟨T.units j k _ _ hjk a1 b1, fun e => ?_⟩
  rw [a3, b3] at e
  have := num_inj T (j + 1) j k (by omega) _ _ a1 b1 a2 b2 e
  omega
theorem once_some {root : Int} : ∀ p ∈ secnF l root, p.2 ≠ ⟨#[]⟩ := by
  rw [secnF_eq T]
  intro p hp
  obtain ⟨j, _, h1, h2, h3⟩ := rnumL_mem l 0 (by simp) p hp
  rw [h3]
  exact num_ne T h1 h2
end
theorem lastU_none {u : Int} : ∀ {l : List (Sheet × ByteArray)} {t : ByteArray}, (∀ p ∈ l, p.1.unit ≠ u) → lastU u t l = t
  | [], _, _ => rfl
  | p :: r, t, h => by
    rw [lastU, if_neg (h p (by simp))]
    exact lastU_none (fun q hq => h q (by simp [hq]))
theorem lastU_at : ∀ {l : List (Sheet × ByteArray)} {t : ByteArray} {p : Sheet × ByteArray}, (l.Pairwise fun a b => a.1.unit ≠ b.1.unit) → p ∈ l → lastU p.1.unit t l = p.2
  | q :: r, t, p, h, hp => by
    obtain ⟨h1, h2⟩ := List.pairwise_cons.1 h
    rw [lastU]
    rcases List.mem_cons.1 hp with rfl | hp
    · rw [if_pos rfl]
      exact lastU_none (fun x hx => (h1 x hx).symm)
    · rw [if_neg (h1 p hp)]
      exact lastU_at h2 hp
end Go.Proofs.YtbmlnflacdockaaGreatDoor
