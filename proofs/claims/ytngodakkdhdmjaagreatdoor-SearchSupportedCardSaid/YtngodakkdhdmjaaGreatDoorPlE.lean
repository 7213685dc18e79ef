/- Plain: the numbers of sections, by maps as the program reckons them, and by recursion as the reference says them. -/
import Derived.Test.YtngodakkdhdmjaaGreatDoorPri
import Derived.Test.YtngodakkdhdmjaaGreatDoorBas
import Derived.Lib.ItoaNum
namespace Go.Proofs.YtngodakkdhdmjaaGreatDoor
open Go.RowKit

abbrev Tab := (Int → Option ByteArray) × (Int → Option Nat)
def oneS : ByteArray := ⟨#[49]⟩
def digS (n : Nat) : ByteArray := ⟨(Lib.decDigits n).toArray⟩
/-- a number behind another one -/
def subS (a : ByteArray) (n : Nat) : ByteArray := a ++ ⟨#[46]⟩ ++ digS n
def secnS (root : Int) (st : Tab) (s : Sheet) : Tab :=
  if s.unit = root then (upd st.1 s.unit oneS, st.2)
  else match st.1 s.parent with
    | none => st
    | some a => (upd st.1 s.unit (subS a ((st.2 s.parent).getD 0 + 1)), upd st.2 s.parent ((st.2 s.parent).getD 0 + 1))
/-- the sheets of a finding aid, each with its number -/
def secnG (root : Int) : Tab → List Sheet → List (Sheet × ByteArray)
  | _, [] => []
  | st, s :: r => match (secnS root st s).1 s.unit with
    | none => secnG root (secnS root st s) r
    | some n => (s, n) :: secnG root (secnS root st s) r
def tab0 : Tab := (fun _ => none, fun _ => none)
def secnF (l : List Sheet) (root : Int) : List (Sheet × ByteArray) := secnG root tab0 l
/-- how many of the first sheets have a parent -/
def kidsN (l : List Sheet) (i : Nat) (p : Int) : Nat := ((l.take i).filter fun x => decide (x.parent = p)).length
def rnumG (l : List Sheet) (root : Int) : Nat → Nat → ByteArray
  | 0, _ => ⟨#[]⟩
  | f + 1, i => match l[i]? with
    | none => ⟨#[]⟩
    | some s => if s.unit = root then oneS else subS (if shtIx (l.take i) s.parent < 0 then ⟨#[]⟩ else rnumG l root f (shtIx (l.take i) s.parent).toNat) (kidsN l (i + 1) s.parent)
/-- the number of a section, as the reference says it -/
def rnumF (l : List Sheet) (root : Int) (i : Nat) : ByteArray := rnumG l root (i + 1) i
/-- the facts on the sheets of a right catalog -/
structure Tree (l : List Sheet) : Prop where
  units : ∀ (a b : Nat) (x y : Sheet), a < b → l[a]? = some x → l[b]? = some y → x.unit ≠ y.unit
  pos : ∀ s ∈ l, 1 ≤ s.unit
  par : ∀ (i : Nat) (s : Sheet), l[i]? = some s → s.parent = 0 ∨ ∃ (j : Nat) (x : Sheet), j < i ∧ l[j]? = some x ∧ x.unit = s.parent
  len : l.length ≤ 256
theorem shtG_tree {ls : List ByteArray} {l : List Sheet} : ∀ (r : List Sheet) (i : Nat) (p : List Int), l.drop i = r → PInv l i p → shtG ls (l.take i) p r = 0 →
    ∀ (m : Nat) (s : Sheet), i ≤ m → l[m]? = some s → (s.parent = 0 ∨ ∃ (j : Nat) (x : Sheet), j < m ∧ l[j]? = some x ∧ x.unit = s.parent) ∧ ∀ (a : Nat) (x : Sheet), a < m → l[a]? = some x → x.unit ≠ s.unit
  | [], i, p, hd, h, _ => fun m s hm hs => by
    have hl : l.length ≤ i := by simpa using hd
    have := lt_of_at hs
    omega
  | s :: r, i, p, hd, h, h0 => by
    have hs : l[i]? = some s := by
      have := congrArg (fun x => x[0]?) hd
      simpa using this
    have hd' : l.drop (i + 1) = r := by
      have := drop_at hs
      rw [hd] at this
      injection this with _ e
      exact e.symm
    rw [shtG] at h0
    by_cases hz : shtF ls (l.take i) p s = 0
    · rw [if_pos hz, ← take_at hs] at h0
      obtain ⟨_, _, h3, h4, _⟩ := shtF_zero hz
      have ih := shtG_tree r (i + 1) (nextP p s) hd' (h.next hs h3 h4) h0
      intro m x hm hx
      rcases Nat.lt_or_ge i m with hlt | hge
      · exact ih m x hlt hx
      · obtain rfl : m = i := by omega
        rw [hs] at hx
        injection hx with hx
        subst hx
        refine ⟨?_, fun a y ha hy => shtIx_neg.1 h3 y (List.mem_of_getElem? (i := a) (by rw [List.getElem?_take, if_pos ha]; exact hy))⟩
        rcases h4 with h4 | h4
        · exact .inl h4
        · rcases untIx_cases p s.parent with ⟨e, _⟩ | ⟨k, e, hk⟩
          · omega
          · exact .inr (h.mem _ (List.mem_of_getElem? hk))
    · rw [if_neg hz] at h0
      exact absurd h0 hz
theorem Cat.tree {c : Cat} (h : catE c = 0) : Tree c.sheets := by
  obtain ⟨_, _, hl, hs⟩ := catE_zero h
  have h0 : shtG c.langs (c.sheets.take 0) [] c.sheets = 0 := by
    unfold catE at h
    by_cases h1 : langE c.langs = 0
    · rw [if_neg (by simp [h1])] at h
      by_cases h2 : labE c.langs c.labels = 0
      · rw [if_neg (by simp [h2])] at h
        unfold shtE at h
        rw [if_neg (by omega)] at h
        simpa using h
      · rw [if_pos h2] at h; exact absurd h h2
    · rw [if_pos h1] at h; exact absurd h h1
  have ht := shtG_tree c.sheets 0 [] (by simp) (PInv.start _) h0
  exact ⟨fun a b x y hab hx hy => (ht b y (Nat.zero_le _) hy).2 a x hab hx, fun s hs' => (hs s hs').1.1, fun i s hi => (ht i s (Nat.zero_le _) hi).1, hl⟩
section
variable {l : List Sheet} (T : Tree l)
include T
theorem Tree.uniq {a b : Nat} {x y : Sheet} (hx : l[a]? = some x) (hy : l[b]? = some y) (e : x.unit = y.unit) : a = b := by
  rcases Nat.lt_trichotomy a b with h | h | h
  · exact absurd e (T.units a b x y h hx hy)
  · exact h
  · exact absurd e.symm (T.units b a y x h hy hx)
theorem Tree.ix {i j : Nat} {x : Sheet} (hj : j < i) (hx : l[j]? = some x) : shtIx (l.take i) x.unit = j :=
  shtIx_at (by rw [List.getElem?_take, if_pos hj]; exact hx) rfl (fun k y hk hy => by
    rw [List.getElem?_take, if_pos (by omega)] at hy
    exact T.units k j y x hk hy hx)
theorem Tree.ix_all {j : Nat} {x : Sheet} (hx : l[j]? = some x) : shtIx l x.unit = j :=
  shtIx_at hx rfl (fun k y hk hy => T.units k j y x hk hy hx)
/-- the sheet above -/
theorem Tree.up {i : Nat} {s : Sheet} (hs : l[i]? = some s) : (s.parent = 0 ∧ chainF l i = [s.unit]) ∨ ∃ (j : Nat) (x : Sheet), j < i ∧ l[j]? = some x ∧ x.unit = s.parent ∧ s.parent ≠ 0 ∧ shtIx (l.take i) s.parent = j ∧ chainF l i = s.unit :: chainF l j := by
  rcases T.par i s hs with h | ⟨j, x, hj, hx, hu⟩
  · exact .inl ⟨h, by rw [chainF_at hs, if_pos h]⟩
  · have hp := T.pos x (List.mem_of_getElem? hx)
    have h0 : s.parent ≠ 0 := by omega
    have hix := T.ix hj hx
    rw [hu] at hix
    exact .inr ⟨j, x, hj, hx, hu, h0, hix, by rw [chainF_at hs, if_neg h0, hix]⟩
/-- what stands in a chain is the unit of a sheet not behind it -/
theorem Tree.chain_mem : ∀ (n i : Nat), i < n → ∀ (s : Sheet), l[i]? = some s → ∀ u ∈ chainF l i, ∃ (m : Nat) (x : Sheet), m ≤ i ∧ l[m]? = some x ∧ x.unit = u
  | 0, i, h, _, _, _, _ => by omega
  | n + 1, i, h, s, hs, u, hu => by
    rcases T.up hs with ⟨_, e⟩ | ⟨j, x, hj, hx, _, _, _, e⟩
    · rw [e] at hu
      simp at hu
      exact ⟨i, s, Nat.le_refl _, hs, hu.symm⟩
    · rw [e] at hu
      rcases List.mem_cons.1 hu with rfl | hu
      · exact ⟨i, s, Nat.le_refl _, hs, rfl⟩
      · obtain ⟨m, y, hm, hy, hyu⟩ := Tree.chain_mem n j (by omega) x hx u hu
        exact ⟨m, y, by omega, hy, hyu⟩
omit T in
theorem rnumG_fuel (root : Int) : ∀ (n i f f' : Nat), i < n → i < f → i < f' → rnumG l root f i = rnumG l root f' i
  | 0, _, _, _, h, _, _ => by omega
  | n + 1, i, 0, _, _, h, _ => by omega
  | n + 1, i, _, 0, _, _, h => by omega
  | n + 1, i, f + 1, f' + 1, hn, h1, h2 => by
    unfold rnumG
    cases hs : l[i]? with
    | none => rfl
    | some s =>
      simp only
      by_cases hp : s.unit = root
      · rw [if_pos hp, if_pos hp]
      · rw [if_neg hp, if_neg hp]
        have hlt := shtIx_lt (l.take i) s.parent
        rw [List.length_take] at hlt
        by_cases h0 : shtIx (l.take i) s.parent < 0
        · rw [if_pos h0, if_pos h0]
        · rw [if_neg h0, if_neg h0, rnumG_fuel root n _ f f' (by omega) (by omega) (by omega)]
omit T in
theorem rnum_root {root : Int} {i : Nat} {s : Sheet} (hs : l[i]? = some s) (h : s.unit = root) : rnumF l root i = oneS := by
  unfold rnumF rnumG
  simp only [hs]
  rw [if_pos h]
omit T in
theorem rnum_up {root : Int} {i j : Nat} {s : Sheet} (hs : l[i]? = some s) (h : s.unit ≠ root) (hj : j < i) (hix : shtIx (l.take i) s.parent = j) : rnumF l root i = subS (rnumF l root j) (kidsN l (i + 1) s.parent) := by
  unfold rnumF
  rw [rnumG]
  simp only [hs]
  rw [if_neg h, hix, if_neg (by omega), Int.toNat_natCast, rnumG_fuel root (j + 1) j i (j + 1) (by omega) hj (by omega)]
omit T in
theorem kids_succ {i : Nat} {s : Sheet} (hs : l[i]? = some s) (p : Int) : kidsN l (i + 1) p = kidsN l i p + if s.parent = p then 1 else 0 := by
  unfold kidsN
  rw [take_at hs, List.filter_append, List.length_append]
  by_cases h : s.parent = p <;> simp [h]
/-- the tables behind the first sheets -/
structure TabOk (l : List Sheet) (root : Int) (i : Nat) (st : Tab) : Prop where
  num : ∀ u n, st.1 u = some n ↔ ∃ (j : Nat) (x : Sheet), j < i ∧ l[j]? = some x ∧ x.unit = u ∧ root ∈ chainF l j ∧ n = rnumF l root j
  kids : ∀ u n, st.1 u = some n → (st.2 u).getD 0 = kidsN l i u
  free : ∀ u, st.1 u = none → st.2 u = none
omit T in
theorem TabOk.start (root : Int) : TabOk l root 0 tab0 where
  num := fun u n => ⟨fun h => (by cases h), fun ⟨_, _, h, _⟩ => (by omega)⟩
  kids := fun u n h => (by cases h)
  free := fun _ _ => rfl
theorem kids_zero {i : Nat} {u : Int} (h1 : 1 ≤ u) (h : ∀ (j : Nat) (x : Sheet), j < i → l[j]? = some x → x.unit ≠ u) : ∀ k, k ≤ i + 1 → kidsN l k u = 0 := by
  intro k
  induction k with
  | zero => intro _; rfl
  | succ k ih =>
    intro hk
    by_cases hlt : k < l.length
    · obtain ⟨s, hs⟩ := get_at l hlt
      rw [kids_succ hs, ih (by omega)]
      rcases T.par k s hs with h0 | ⟨j, x, hj, hx, e⟩
      · rw [if_neg (by omega)]
      · rw [if_neg (fun c => h j x (by omega) hx (by rw [e, c]))]
    · have e : kidsN l (k + 1) u = kidsN l k u := by
        unfold kidsN
        rw [List.take_of_length_le (by omega), List.take_of_length_le (by omega)]
      rw [e, ih (by omega)]
theorem TabOk.next {root : Int} {i : Nat} {st : Tab} (h : TabOk l root i st) {s : Sheet} (hs : l[i]? = some s) : TabOk l root (i + 1) (secnS root st s) ∧ (secnS root st s).1 s.unit = if root ∈ chainF l i then some (rnumF l root i) else none := by
  have hnew : st.1 s.unit = none := by
    cases hn : st.1 s.unit with
    | none => rfl
    | some n =>
      obtain ⟨j, x, hj, hx, e, _⟩ := (h.num _ _).1 hn
      exact absurd e (T.units j i x s hj hx hs)
  have hpos := T.pos s (List.mem_of_getElem? hs)
  have hps : s.parent ≠ s.unit := by
    rcases T.par i s hs with h0 | ⟨j, x, hj, hx, e⟩
    · omega
    · rw [← e]; exact T.units j i x s hj hx hs
  have hold : ∀ {u : Int} {n : ByteArray}, u ≠ s.unit → ((∃ (j : Nat) (x : Sheet), j < i + 1 ∧ l[j]? = some x ∧ x.unit = u ∧ root ∈ chainF l j ∧ n = rnumF l root j) ↔ st.1 u = some n) := by
    intro u n hu
    rw [h.num]
    constructor
    · rintro ⟨j, x, hj, hx, e, h2⟩
      rcases Nat.lt_or_ge j i with hlt | hge
      · exact ⟨j, x, hlt, hx, e, h2⟩
      · obtain rfl : j = i := by omega
        rw [hs] at hx
        injection hx with hx
        exact absurd (by rw [← e, hx]) hu
    · rintro ⟨j, x, hj, h2⟩
      exact ⟨j, x, by omega, h2⟩
  have hself : ∀ {n : ByteArray}, (∃ (j : Nat) (x : Sheet), j < i + 1 ∧ l[j]? = some x ∧ x.unit = s.unit ∧ root ∈ chainF l j ∧ n = rnumF l root j) ↔ root ∈ chainF l i ∧ n = rnumF l root i := by
    intro n
    constructor
    · rintro ⟨j, x, _, hx, e, h2⟩
      obtain rfl := T.uniq hx hs e
      exact h2
    · intro h2
      exact ⟨i, s, by omega, hs, rfl, h2⟩
  have hk0 : kidsN l (i + 1) s.unit = 0 := kids_zero T hpos (fun j x hj hx => T.units j i x s hj hx hs) _ (Nat.le_refl _)
  unfold secnS
  by_cases hr : s.unit = root
  · have hin : root ∈ chainF l i := by
      rcases T.up hs with ⟨_, e⟩ | ⟨_, _, _, _, _, _, _, e⟩ <;> rw [e, hr] <;> simp
    rw [if_pos hr, if_pos hin]
    refine ⟨⟨fun u n => ?_, fun u n hn => ?_, fun u hn => ?_⟩, by simp [upd, rnum_root hs hr]⟩
    · simp only [upd]
      by_cases hu : u = s.unit
      · subst hu
        rw [if_pos rfl, hself, rnum_root hs hr]
        simp [hin, eq_comm]
      · rw [if_neg hu, hold hu]
    · simp only [upd] at hn
      by_cases hu : u = s.unit
      · subst hu
        rw [h.free _ hnew, hk0]
        rfl
      · rw [if_neg hu] at hn
        rw [h.kids u n hn, kids_succ hs]
        have : s.parent ≠ u := by
          intro c
          obtain ⟨j, x, hj, hx, e, hc, _⟩ := (h.num _ _).1 hn
          obtain ⟨m, y, hm, hy, e2⟩ := T.chain_mem (j + 1) j (by omega) x hx root hc
          exact T.units m i y s (by omega) hy hs (by rw [e2, hr])
        rw [if_neg this]
        rfl
    · simp only [upd] at hn
      by_cases hu : u = s.unit
      · rw [if_pos hu] at hn; cases hn
      · rw [if_neg hu] at hn
        exact h.free u hn
  · rw [if_neg hr]
    rcases T.up hs with ⟨hp0, e⟩ | ⟨j, x, hj, hx, hxu, hp0, hix, e⟩
    · have hout : root ∉ chainF l i := by rw [e]; simp; exact fun c => hr c.symm
      have hpn : st.1 s.parent = none := by
        cases hn : st.1 s.parent with
        | none => rfl
        | some n =>
          obtain ⟨j, x, hj, hx, e2, _⟩ := (h.num _ _).1 hn
          have := T.pos x (List.mem_of_getElem? hx)
          omega
      rw [hpn, if_neg hout]
      refine ⟨⟨fun u n => ?_, fun u n hn => ?_, h.free⟩, hnew⟩
      · by_cases hu : u = s.unit
        · subst hu
          rw [hself, hnew]
          simp [hout]
        · rw [hold hu]
      · rw [h.kids u n hn, kids_succ hs]
        have : s.parent ≠ u := by
          intro c
          rw [← c, hpn] at hn
          cases hn
        rw [if_neg this]
        rfl
    · have hci : root ∈ chainF l i ↔ root ∈ chainF l j := by
        rw [e, List.mem_cons]
        exact ⟨fun c => c.resolve_left (fun c => hr c.symm), .inr⟩
      cases hpn : st.1 s.parent with
      | none =>
        have hout : root ∉ chainF l i := by
          intro c
          have := (h.num s.parent (rnumF l root j)).2 ⟨j, x, hj, hx, hxu, hci.1 c, rfl⟩
          rw [hpn] at this
          cases this
        rw [if_neg hout]
        refine ⟨⟨fun u n => ?_, fun u n hn => ?_, h.free⟩, hnew⟩
        · by_cases hu : u = s.unit
          · subst hu
            rw [hself, hnew]
            simp [hout]
          · rw [hold hu]
        · simp only at hn
          rw [h.kids u n hn, kids_succ hs]
          have : s.parent ≠ u := by
            intro c
            rw [← c, hpn] at hn
            cases hn
          rw [if_neg this]
          rfl
      | some a =>
        obtain ⟨j', x', hj', hx', e2, hc, ha⟩ := (h.num _ _).1 hpn
        obtain rfl := T.uniq hx' hx (e2.trans hxu.symm)
        have hin := hci.2 hc
        have hk := h.kids _ _ hpn
        have hks : kidsN l (i + 1) s.parent = (st.2 s.parent).getD 0 + 1 := by rw [kids_succ hs, if_pos rfl, hk]
        have hnum : rnumF l root i = subS a ((st.2 s.parent).getD 0 + 1) := by rw [rnum_up hs hr hj hix, ← ha, hks]
        rw [if_pos hin]
        refine ⟨⟨fun u n => ?_, fun u n hn => ?_, fun u hn => ?_⟩, by simp [upd, hnum]⟩
        · simp only [upd]
          by_cases hu : u = s.unit
          · subst hu
            rw [if_pos rfl, hself, hnum]
            simp [hin, eq_comm]
          · rw [if_neg hu, hold hu]
        · simp only [upd] at hn ⊢
          by_cases hu : u = s.unit
          · subst hu
            rw [if_neg (fun c => hps c.symm), h.free _ hnew, hk0]
            rfl
          · rw [if_neg hu] at hn
            by_cases hup : u = s.parent
            · subst hup
              rw [if_pos rfl, hks]
              rfl
            · rw [if_neg hup, h.kids u n hn, kids_succ hs, if_neg (fun c => hup c.symm)]
              rfl
        · simp only [upd] at hn ⊢
          by_cases hu : u = s.unit
          · rw [if_pos hu] at hn; cases hn
          · rw [if_neg hu] at hn
            by_cases hup : u = s.parent
            · rw [hup, hpn] at hn; cases hn
            · rw [if_neg hup]
              exact h.free u hn
/-- the sections of a finding aid, as the reference says them -/
def rnumL (l : List Sheet) (root : Int) : Nat → List Sheet → List (Sheet × ByteArray)
  | _, [] => []
  | i, s :: r => if inB (chainF l i) root = true then (s, rnumF l root i) :: rnumL l root (i + 1) r else rnumL l root (i + 1) r
theorem secn_eq {root : Int} : ∀ (r : List Sheet) (i : Nat) (st : Tab), l.drop i = r → TabOk l root i st → secnG root st r = rnumL l root i r
  | [], _, _, _, _ => rfl
  | s :: r, i, st, hd, h => by
    have hs : l[i]? = some s := by
      have := congrArg (fun x => x[0]?) hd
      simpa using this
    have hd' : l.drop (i + 1) = r := by
      have := drop_at hs
      rw [hd] at this
      injection this with _ e
      exact e.symm
    obtain ⟨h1, h2⟩ := h.next T hs
    rw [secnG, rnumL, h2]
    by_cases hc : root ∈ chainF l i
    · rw [if_pos hc, if_pos (inB_iff.2 hc), ← secn_eq r (i + 1) _ hd' h1]
    · rw [if_neg hc, if_neg (fun c => hc (inB_iff.1 c)), ← secn_eq r (i + 1) _ hd' h1]
theorem secnF_eq (root : Int) : secnF l root = rnumL l root 0 l := secn_eq T l 0 tab0 (by simp) (TabOk.start root)
end
end Go.Proofs.YtngodakkdhdmjaaGreatDoor
