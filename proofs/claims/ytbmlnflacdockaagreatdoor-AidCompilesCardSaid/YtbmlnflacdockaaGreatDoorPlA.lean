/- Plain: the program's way down to a sheet is the reference's chain, read backwards; so both find the same first fault. -/
import Derived.Test.YtbmlnflacdockaaGreatDoorSpc
namespace Go.Proofs.YtbmlnflacdockaaGreatDoor
open Go.RowKit

theorem shtIx_lt (l : List Sheet) (u : Int) : shtIx l u < l.length := by
  rcases idxF_cases (fun s : Sheet => decide (s.unit = u)) l with ⟨h1, _⟩ | ⟨k, x, h1, h2, _⟩
  · have : shtIx l u = -1 := h1
    omega
  · have := lt_of_at h2
    have : shtIx l u = k := h1
    omega
theorem chainG_fuel (l : List Sheet) : ∀ (n : Nat) (i : Int) (f f' : Nat), i.toNat < n → i.toNat < f → i.toNat < f' → chainG l f i = chainG l f' i
  | 0, _, _, _, h, _, _ => by omega
  | n + 1, i, 0, _, _, h, _ => by omega
  | n + 1, i, _, 0, _, _, h => by omega
  | n + 1, i, f + 1, f' + 1, hn, h1, h2 => by
    unfold chainG
    by_cases hi : i < 0
    · rw [if_pos hi, if_pos hi]
    · rw [if_neg hi, if_neg hi]
      cases hs : l[i.toNat]? with
      | none => rfl
      | some s =>
        simp only
        by_cases hp : s.parent = 0
        · rw [if_pos hp, if_pos hp]
        · rw [if_neg hp, if_neg hp]
          have hlt := shtIx_lt (l.take i.toNat) s.parent
          rw [List.length_take] at hlt
          by_cases hneg : shtIx (l.take i.toNat) s.parent < 0
          · rcases f with _ | f <;> rcases f' with _ | f'
            · rfl
            · simp [chainG, hneg]
            · simp [chainG, hneg]
            · simp [chainG, hneg]
          · rw [chainG_fuel l n _ f f' (by omega) (by omega) (by omega)]
theorem chainG_neg (l : List Sheet) (f : Nat) {i : Int} (h : i < 0) : chainG l f i = [] := by
  cases f with
  | zero => rfl
  | succ f => rw [chainG, if_pos h]
theorem chainF_at {l : List Sheet} {i : Nat} {s : Sheet} (h : l[i]? = some s) : chainF l i = s.unit :: if s.parent = 0 then [] else chainF l (shtIx (l.take i) s.parent) := by
  unfold chainF
  rw [show ((i : Int).toNat + 1) = i + 1 by omega, chainG, if_neg (by omega)]
  simp only [Int.toNat_natCast, h]
  by_cases hp : s.parent = 0
  · rw [if_pos hp, if_pos hp]
  · rw [if_neg hp, if_neg hp]
    have hlt := shtIx_lt (l.take i) s.parent
    rw [List.length_take] at hlt
    by_cases hneg : shtIx (l.take i) s.parent < 0
    · rw [chainG_neg l _ hneg, chainG_neg l _ hneg]
    · rw [chainG_fuel l (i + 1) _ i _ (by omega) (by omega) (Nat.lt_succ_self _)]
theorem shtIx_at {l : List Sheet} {u : Int} {k : Nat} {s : Sheet} (hk : l[k]? = some s) (hu : s.unit = u) (hf : ∀ (j : Nat) y, j < k → l[j]? = some y → y.unit ≠ u) : shtIx l u = k := by
  rcases idxF_cases (fun s : Sheet => decide (s.unit = u)) l with ⟨_, h2⟩ | ⟨m, x, h1, h2, h3, h4⟩
  · have := h2 s (List.mem_of_getElem? hk)
    simp [hu] at this
  · have hm : m = k := by
      rcases Nat.lt_trichotomy m k with h | h | h
      · simp only [decide_eq_true_eq] at h3
        exact absurd h3 (hf m x h h2)
      · exact h
      · have := h4 k s h hk
        simp [hu] at this
    subst hm
    exact h1
theorem shtIx_neg {l : List Sheet} {u : Int} : shtIx l u < 0 ↔ ∀ s ∈ l, s.unit ≠ u := by
  rcases idxF_cases (fun s : Sheet => decide (s.unit = u)) l with ⟨h1, h2⟩ | ⟨m, x, h1, h2, h3, _⟩
  · have e : shtIx l u = -1 := h1
    exact ⟨fun _ s hs => by simpa using h2 s hs, fun _ => by omega⟩
  · have e : shtIx l u = m := h1
    simp only [decide_eq_true_eq] at h3
    exact ⟨fun h => by omega, fun h => absurd h3 (h x (List.mem_of_getElem? h2))⟩
theorem untIx_cases (l : List Int) (u : Int) : (untIx l u = -1 ∧ u ∉ l) ∨ ∃ k : Nat, untIx l u = (k : Int) ∧ l[k]? = some u := by
  rcases idxF_cases (fun x : Int => decide (x = u)) l with ⟨h1, h2⟩ | ⟨m, x, h1, h2, h3, _⟩
  · exact .inl ⟨h1, fun h => by have := h2 u h; simp at this⟩
  · simp only [decide_eq_true_eq] at h3
    subst h3
    exact .inr ⟨m, h1, h2⟩
theorem inB_iff {l : List Int} {u : Int} : inB l u = true ↔ u ∈ l := by
  unfold inB
  simp
/-- the way down to the sheet ahead of sheet i -/
structure PInv (l : List Sheet) (i : Nat) (p : List Int) : Prop where
  units : ∀ (a b : Nat) (x y : Sheet), a < b → b < i → l[a]? = some x → l[b]? = some y → x.unit ≠ y.unit
  mem : ∀ u ∈ p, ∃ (m : Nat) (s : Sheet), m < i ∧ l[m]? = some s ∧ s.unit = u
  chain : ∀ (j : Nat) (u : Int), p[j]? = some u → chainF l (shtIx (l.take i) u) = (p.take (j + 1)).reverse
  last : ∀ (k : Nat) (s : Sheet), k + 1 = i → l[k]? = some s → ∃ q, p = q ++ [s.unit]
theorem PInv.ix {l : List Sheet} {i : Nat} {p : List Int} (h : PInv l i p) {m : Nat} {s : Sheet} (hm : m < i) (hs : l[m]? = some s) : shtIx (l.take i) s.unit = m :=
  shtIx_at (by rw [List.getElem?_take, if_pos hm]; exact hs) rfl (fun j y hj hy => by
    rw [List.getElem?_take, if_pos (by omega)] at hy
    exact h.units j m y s hj hm hy hs)
theorem PInv.before {l : List Sheet} {i : Nat} {p : List Int} (h : PInv l (i + 1) p) {s : Sheet} (hs : l[i]? = some s) : chainF l (i : Int) = p.reverse := by
  obtain ⟨q, rfl⟩ := h.last i s rfl hs
  have h1 := h.chain q.length s.unit (by simp)
  rw [h.ix (Nat.lt_succ_self i) hs] at h1
  rw [h1, List.take_of_length_le (by simp)]
theorem PInv.start (l : List Sheet) : PInv l 0 [] := ⟨fun _ _ _ _ _ h => by omega, fun _ h => by simp at h, fun _ _ h => by simp at h, fun k _ h => by omega⟩
theorem keepN_at {p : List Int} {u : Int} {j : Nat} (hu : u ≠ 0) (h : untIx p u = (j : Int)) : keepN p u = j + 1 := by
  unfold keepN
  rw [if_neg hu, h]
  omega
theorem PInv.next {l : List Sheet} {i : Nat} {p : List Int} (h : PInv l i p) {s : Sheet} (hs : l[i]? = some s) (hnew : shtIx (l.take i) s.unit < 0) (hpar : s.parent = 0 ∨ 0 ≤ untIx p s.parent) : PInv l (i + 1) (nextP p s) := by
  have hne : ∀ (m : Nat) (x : Sheet), m < i → l[m]? = some x → x.unit ≠ s.unit := fun m x hm hx => shtIx_neg.1 hnew x (List.mem_of_getElem? (i := m) (by rw [List.getElem?_take, if_pos hm]; exact hx))
  have hun : ∀ (a b : Nat) (x y : Sheet), a < b → b < i + 1 → l[a]? = some x → l[b]? = some y → x.unit ≠ y.unit := by
    intro a b x y hab hb hx hy
    rcases Nat.lt_or_ge b i with hb' | hb'
    · exact h.units a b x y hab hb' hx hy
    · obtain rfl : b = i := by omega
      rw [hs] at hy
      injection hy with hy
      subst hy
      exact hne a x hab hx
  have hix : ∀ (m : Nat) (x : Sheet), m < i + 1 → l[m]? = some x → shtIx (l.take (i + 1)) x.unit = m := fun m x hm hx =>
    shtIx_at (by rw [List.getElem?_take, if_pos hm]; exact hx) rfl (fun j y hj hy => by
      rw [List.getElem?_take, if_pos (by omega)] at hy
      exact hun j m y x hj hm hy hx)
  -- the way above the new sheet
  have hch : chainF l (i : Int) = (nextP p s).reverse := by
    rw [chainF_at hs]
    unfold nextP
    rcases Classical.em (s.parent = 0) with hp | hp
    · rw [if_pos hp]
      simp [keepN, hp]
    · rw [if_neg hp]
      rcases untIx_cases p s.parent with ⟨e, _⟩ | ⟨k, e, hk⟩
      · rcases hpar with h1 | h1
        · exact absurd h1 hp
        · omega
      · rw [h.chain k _ hk, keepN_at hp e]
        simp
  refine ⟨hun, ?_, ?_, ?_⟩
  · intro u hu
    unfold nextP at hu
    rcases List.mem_append.1 hu with hu | hu
    · obtain ⟨m, x, hm, hx, e⟩ := h.mem u (List.mem_of_mem_take hu)
      exact ⟨m, x, by omega, hx, e⟩
    · simp at hu
      exact ⟨i, s, by omega, hs, hu.symm⟩
  · intro j u hj
    have hpl : (p.take (keepN p s.parent)).length ≤ p.length := by simp; omega
    by_cases hlt : j < (p.take (keepN p s.parent)).length
    · have hj' : p[j]? = some u := by
        unfold nextP at hj
        rw [List.getElem?_append_left hlt, List.getElem?_take] at hj
        split at hj
        · exact hj
        · cases hj
      obtain ⟨m, x, hm, hx, e⟩ := h.mem u (List.mem_of_getElem? hj')
      have h1 := h.chain j u hj'
      rw [← e, h.ix hm hx] at h1
      rw [← e, hix m x (by omega) hx, h1]
      unfold nextP
      rw [List.take_append_of_le_length (by omega), List.take_take]
      rw [List.length_take] at hlt
      congr 2
      omega
    · have hju : j = (p.take (keepN p s.parent)).length ∧ u = s.unit := by
        unfold nextP at hj
        have := lt_of_at hj
        rw [List.length_append, List.length_singleton] at this
        rw [List.getElem?_append_right (by omega)] at hj
        have e : j - (p.take (keepN p s.parent)).length = 0 := by omega
        rw [e] at hj
        simp at hj
        exact ⟨by omega, hj.symm⟩
      obtain ⟨rfl, rfl⟩ := hju
      rw [hix i s (Nat.lt_succ_self i) hs, hch]
      congr 1
      symm
      apply List.take_of_length_le
      simp [nextP]
  · intro k x hk hx
    obtain rfl : k = i := by omega
    rw [hs] at hx
    injection hx with hx
    subst hx
    exact ⟨_, rfl⟩
theorem keepN_len {l : List Sheet} {i : Nat} {p : List Int} (h : PInv l i p) {u : Int} (hu : u ≠ 0) {k : Nat} (e : untIx p u = (k : Int)) (hk : p[k]? = some u) : (chainF l (shtIx (l.take i) u)).length = keepN p u := by
  rw [h.chain k u hk, keepN_at hu e, List.length_reverse, List.length_take]
  have := lt_of_at hk
  omega
theorem shtF_eq {ls : List ByteArray} {l : List Sheet} {i : Nat} {p : List Int} (h : PInv l i p) {s : Sheet} (hs : l[i]? = some s) : rshtF ls l i s = shtF ls (l.take i) p s := by
  unfold rshtF shtF
  by_cases h1 : s.unit < 1 ∨ 1073741824 < s.unit ∨ s.level < 1 ∨ 4 < s.level
  · rw [if_pos h1, if_pos h1]
  rw [if_neg h1, if_neg h1]
  by_cases h2 : 64 < s.mark.size ∨ s.title.size < 1 ∨ 64 < s.title.size
  · rw [if_pos h2, if_pos (by omega)]
  rw [if_neg h2, if_neg (by omega)]
  by_cases h3 : 0 ≤ shtIx (l.take i) s.unit
  · rw [if_pos h3, if_pos h3]
  rw [if_neg h3, if_neg h3]
  by_cases hp : s.parent = 0
  · rw [if_neg (by simp [hp]), if_neg (by simp [hp]), if_neg (by simp [hp]), if_neg (by simp [keepN, hp])]
  · have hin : (i = 0 ∨ inB (chainF l ((i : Int) - 1)) s.parent = false) ↔ untIx p s.parent < 0 := by
      rcases i with _ | i
      · have hpe : p = [] := by
          rcases p with _ | ⟨u, p⟩
          · rfl
          · obtain ⟨m, _, hm, _⟩ := h.mem u List.mem_cons_self
            omega
        subst hpe
        simp [untIx, idxF, idxG]
      · obtain ⟨x, hx⟩ := get_at l (show i < l.length by have := lt_of_at hs; omega)
        rw [show ((i + 1 : Nat) : Int) - 1 = (i : Int) by omega, h.before hx]
        have e : inB p.reverse s.parent = false ↔ s.parent ∉ p := by
          rw [← Bool.not_eq_true, inB_iff, List.mem_reverse]
        rcases untIx_cases p s.parent with ⟨e1, e2⟩ | ⟨k, e1, e2⟩
        · exact ⟨fun _ => by omega, fun _ => .inr (e.2 e2)⟩
        · exact ⟨fun h => h.elim (fun h => by omega) (fun h => absurd (List.mem_of_getElem? e2) (e.1 h)), fun h => by omega⟩
    by_cases h4 : untIx p s.parent < 0
    · rw [if_pos ⟨hp, hin.2 h4⟩, if_pos ⟨hp, h4⟩]
    · have n1 : ¬ (s.parent ≠ 0 ∧ (i = 0 ∨ inB (chainF l ((i : Int) - 1)) s.parent = false)) := fun c => h4 (hin.1 c.2)
      have n2 : ¬ (s.parent ≠ 0 ∧ untIx p s.parent < 0) := fun c => h4 c.2
      rw [if_neg n1, if_neg n2]
      rcases untIx_cases p s.parent with ⟨e1, _⟩ | ⟨k, e1, e2⟩
      · omega
      · have hk := keepN_len h hp e1 e2
        by_cases h5 : 12 ≤ keepN p s.parent
        · have n3 : s.parent ≠ 0 ∧ 12 ≤ (chainF l (shtIx (l.take i) s.parent)).length := ⟨hp, by omega⟩
          rw [if_pos n3, if_pos h5]
        · have n3 : ¬ (s.parent ≠ 0 ∧ 12 ≤ (chainF l (shtIx (l.take i) s.parent)).length) := fun c => h5 (by have := c.2; omega)
          rw [if_neg n3, if_neg h5]
theorem shtF_zero {ls : List ByteArray} {bf : List Sheet} {p : List Int} {s : Sheet} (h : shtF ls bf p s = 0) : (1 ≤ s.unit ∧ s.unit ≤ 1073741824 ∧ 1 ≤ s.level ∧ s.level ≤ 4) ∧ (s.mark.size ≤ 64 ∧ 1 ≤ s.title.size ∧ s.title.size ≤ 64) ∧ shtIx bf s.unit < 0 ∧ (s.parent = 0 ∨ 0 ≤ untIx p s.parent) ∧ keepN p s.parent < 12 ∧ fctE ls s.facts = 0 := by
  unfold shtF at h
  by_cases h1 : s.unit < 1 ∨ 1073741824 < s.unit ∨ s.level < 1 ∨ 4 < s.level
  · rw [if_pos h1] at h; cases h
  rw [if_neg h1] at h
  by_cases h2 : 64 < s.mark.size ∨ s.title.size < 1 ∨ 64 < s.title.size
  · rw [if_pos h2] at h; cases h
  rw [if_neg h2] at h
  by_cases h3 : 0 ≤ shtIx bf s.unit
  · rw [if_pos h3] at h; cases h
  rw [if_neg h3] at h
  by_cases h4 : s.parent ≠ 0 ∧ untIx p s.parent < 0
  · rw [if_pos h4] at h; cases h
  rw [if_neg h4] at h
  by_cases h5 : 12 ≤ keepN p s.parent
  · rw [if_pos h5] at h; cases h
  rw [if_neg h5] at h
  refine ⟨by omega, by omega, by omega, ?_, by omega, h⟩
  by_cases hp : s.parent = 0
  · exact .inl hp
  · exact .inr (by have : ¬ untIx p s.parent < 0 := fun c => h4 ⟨hp, c⟩; omega)
theorem shtG_eq {ls : List ByteArray} {l : List Sheet} : ∀ (r : List Sheet) (i : Nat) (p : List Int), l.drop i = r → PInv l i p → rshtG ls l i r = shtG ls (l.take i) p r
  | [], _, _, _, _ => rfl
  | s :: r, i, p, hd, h => by
    have hs : l[i]? = some s := by
      have := congrArg (fun x => x[0]?) hd
      simpa using this
    have hd' : l.drop (i + 1) = r := by
      have := drop_at hs
      rw [hd] at this
      injection this with _ e
      exact e.symm
    rw [rshtG, shtG, shtF_eq h hs]
    by_cases h0 : shtF ls (l.take i) p s = 0
    · rw [if_pos h0, if_pos h0, ← take_at hs]
      obtain ⟨_, _, h3, h4, _⟩ := shtF_zero h0
      exact shtG_eq r (i + 1) (nextP p s) hd' (h.next hs h3 h4)
    · rw [if_neg h0, if_neg h0]
theorem rcat_eq (c : Cat) : rcatE c = catE c := by
  unfold rcatE catE shtE
  rw [shtG_eq c.sheets 0 [] (by simp) (PInv.start _)]
  simp
end Go.Proofs.YtbmlnflacdockaaGreatDoor
