/- Plain: the finding aid of a unit below is a part of the greater one (AidParts). -/
import Derived.Test.YtbmlnflacdockaaGreatDoorPlO
import Derived.Test.YtbmlnflacdockaaGreatDoorCmB
namespace Go.Proofs.YtbmlnflacdockaaGreatDoor
open Go.RowKit

/-- the sheets go down the tree: what stands in a chain is the sheet itself or stood in the chain before -/
def Deep (l : List Sheet) : Prop := ∀ (m : Nat) (s : Sheet) (u : Int), l[m + 1]? = some s → u ∈ chainF l ((m + 1 : Nat) : Int) → s.unit = u ∨ u ∈ chainF l (m : Int)
theorem shtG_deep {ls : List ByteArray} {l : List Sheet} : ∀ (r : List Sheet) (i : Nat) (p : List Int), l.drop i = r → PInv l i p → shtG ls (l.take i) p r = 0 →
    ∀ (m : Nat) (s : Sheet) (u : Int), i ≤ m + 1 → l[m + 1]? = some s → u ∈ chainF l ((m + 1 : Nat) : Int) → s.unit = u ∨ u ∈ chainF l (m : Int)
  | [], i, p, hd, h, _ => fun m s u hm hs => by
    have hl : l.length ≤ i := by simpa using hd
    have := lt_of_at hs
    omega
  | s :: r, i, p, hd, h, h0 => by
    have hs : l[i]? = some s := by
      have := congrArg (fun x => x[0]?) hd
      simpa using this
    have hd' : l.drop (i + 1) = r := by
      have := drop_at hs
      rw [hd] at this
      injection this with _ e
      exact e.symm
    rw [shtG] at h0
    by_cases hz : shtF ls (l.take i) p s = 0
    · rw [if_pos hz, ← take_at hs] at h0
      obtain ⟨_, _, h3, h4, _⟩ := shtF_zero hz
      have ih := shtG_deep r (i + 1) (nextP p s) hd' (h.next hs h3 h4) h0
      intro m x u hm hx hu
      rcases Nat.lt_or_ge i (m + 1) with hlt | hge
      · exact ih m x u hlt hx hu
      · obtain rfl : i = m + 1 := by omega
        rw [hs] at hx
        injection hx with hx
        subst hx
        rw [(h.next hs h3 h4).before hs, List.mem_reverse] at hu
        unfold nextP at hu
        rw [List.mem_append] at hu
        rcases hu with hu | hu
        · obtain ⟨y, hy⟩ := get_at l (show m < l.length by have := lt_of_at hs; omega)
          rw [h.before hy, List.mem_reverse]
          exact .inr (List.mem_of_mem_take hu)
        · exact .inl (by simpa using hu : u = s.unit).symm
    · rw [if_neg hz] at h0
      exact absurd h0 hz
theorem Cat.deep {c : Cat} (h : catE c = 0) : Deep c.sheets := by
  obtain ⟨_, _, hl, hs⟩ := catE_zero h
  have h0 : shtG c.langs (c.sheets.take 0) [] c.sheets = 0 := by
    unfold catE at h
    by_cases h1 : langE c.langs = 0
    · rw [if_neg (by simp [h1])] at h
      by_cases h2 : labE c.langs c.labels = 0
      · rw [if_neg (by simp [h2])] at h
        unfold shtE at h
        rw [if_neg (by omega)] at h
        simpa using h
      · rw [if_pos h2] at h; exact absurd h h2
    · rw [if_pos h1] at h; exact absurd h h1
  intro m s u hm hu
  exact shtG_deep c.sheets 0 [] (by simp) (PInv.start _) h0 m s u (Nat.zero_le _) hm hu
section
variable {l : List Sheet} (T : Tree l)
include T
theorem Tree.trans {root u : Int} {i : Nat} {y : Sheet} (hy : l[i]? = some y) (hu : y.unit = u) (hr : root ∈ chainF l i) : ∀ (n j : Nat), j < n → ∀ s, l[j]? = some s → u ∈ chainF l j → root ∈ chainF l j
  | 0, _, h, _, _, _ => by omega
  | n + 1, j, h, s, hs, hj => by
    by_cases c : s.unit = u
    · obtain rfl := T.uniq hs hy (c.trans hu.symm)
      exact hr
    · rcases T.up hs with ⟨_, e⟩ | ⟨k, x, hk, hx, _, _, _, e⟩
      · rw [e] at hj
        simp at hj
        exact absurd hj.symm c
      · rw [e] at hj
        rw [e]
        rcases List.mem_cons.1 hj with hj | hj
        · exact absurd hj.symm c
        · exact List.mem_cons_of_mem _ (Tree.trans hy hu hr n k (by omega) x hx hj)
omit T in
theorem pnt_sub (a : ByteArray) (n : Nat) : pntN (subS a n) = pntN a + 1 := by
  have hc : Lib.countByte (subS a n).data.toList 46 = Lib.countByte a.data.toList 46 + 1 := by
    rw [subS_list]
    unfold Lib.countByte
    rw [List.count_append, List.count_cons_self, List.count_eq_zero.2 (dec_dot _ n (Nat.lt_succ_self _))]
  unfold pntN
  rw [hc]
  omega
theorem Tree.pnt_le {root : Int} : ∀ (n i : Nat), i < n → ∀ s, l[i]? = some s → root ∈ chainF l i → pntN (rnumF l root i) ≤ i
  | 0, _, h, _, _, _ => by omega
  | n + 1, i, h, s, hs, hr => by
    by_cases c : s.unit = root
    · rw [rnum_root hs c, show pntN oneS = 0 by decide]
      omega
    · obtain ⟨k, x, hk, hx, hxu, hix, hkc⟩ := T.up_in hs hr c
      rw [rnum_up hs c hk hix, pnt_sub]
      have := Tree.pnt_le n k (by omega) x hx hkc
      omega
omit T in
theorem kids_le (k : Nat) (q : Int) : kidsN l k q ≤ l.length := by
  unfold kidsN
  refine Nat.le_trans (List.length_filter_le _ _) ?_
  rw [List.length_take]
  omega
theorem Tree.size_le {root : Int} (h14 : l.length ≤ 14) : ∀ (n i : Nat), i < n → ∀ s, l[i]? = some s → root ∈ chainF l i → (rnumF l root i).size ≤ 3 * i + 1
  | 0, _, h, _, _, _ => by omega
  | n + 1, i, h, s, hs, hr => by
    by_cases c : s.unit = root
    · rw [rnum_root hs c, show oneS.size = 1 from rfl]
      omega
    · obtain ⟨k, x, hk, hx, hxu, hix, hkc⟩ := T.up_in hs hr c
      rw [rnum_up hs c hk hix]
      have h1 := subS_size (a := rnumF l root k) (n := kidsN l (i + 1) s.parent) (by have := kids_le (l := l) (i + 1) s.parent; omega)
      have := Tree.size_le h14 n k (by omega) x hx hkc
      omega
/-- a number below is the number of the unit and what follows -/
theorem Tree.num_app {root u : Int} {i : Nat} {y : Sheet} (hy : l[i]? = some y) (hu : y.unit = u) (hr : root ∈ chainF l i) : ∀ (n j : Nat), j < n → ∀ s, l[j]? = some s → u ∈ chainF l j → ∃ z, rnumF l u j = oneS ++ z ∧ rnumF l root j = rnumF l root i ++ z
  | 0, _, h, _, _, _ => by omega
  | n + 1, j, h, s, hs, hj => by
    by_cases c : s.unit = u
    · obtain rfl := T.uniq hs hy (c.trans hu.symm)
      exact ⟨⟨#[]⟩, by rw [rnum_root hs c]; rfl, by apply ByteArray.ext; simp⟩
    · obtain ⟨k, x, hk, hx, hxu, hix, hkc⟩ := T.up_in hs hj c
      obtain ⟨z, z1, z2⟩ := Tree.num_app hy hu hr n k (by omega) x hx hkc
      obtain ⟨m, w, hm, hw, hwu⟩ := T.chain_mem _ j (Nat.lt_succ_self _) s hs u hj
      obtain rfl := T.uniq hw hy (hwu.trans hu.symm)
      have hne : m ≠ j := fun e => by
        subst e
        rw [hs] at hw
        injection hw with hw
        subst hw
        exact c hwu
      have c2 : s.unit ≠ root := fun e => by
        obtain ⟨q, v, hq, hv, hvu⟩ := T.chain_mem _ m (Nat.lt_succ_self _) w hw root hr
        have := T.uniq hv hs (hvu.trans e.symm)
        omega
      refine ⟨subS z (kidsN l (j + 1) s.parent), ?_, ?_⟩
      · rw [rnum_up hs c hk hix, z1]
        unfold subS
        apply ByteArray.ext
        simp
      · rw [rnum_up hs c2 hk hix, z2]
        unfold subS
        apply ByteArray.ext
        simp
end
theorem rnumL_app {l : List Sheet} {root : Int} : ∀ (r1 r2 : List Sheet) (a : Nat), rnumL l root a (r1 ++ r2) = rnumL l root a r1 ++ rnumL l root (a + r1.length) r2
  | [], r2, a => by simp [rnumL]
  | s :: r1, r2, a => by
    have ih := rnumL_app (l := l) (root := root) r1 r2 (a + 1)
    rw [List.cons_append, rnumL, rnumL, ih, show a + 1 + r1.length = a + (s :: r1).length by simp; omega]
    split <;> simp
theorem rnumL_none {l : List Sheet} {root : Int} : ∀ (r : List Sheet) (a : Nat), (∀ j, a ≤ j → j < a + r.length → root ∉ chainF l j) → rnumL l root a r = []
  | [], _, _ => rfl
  | s :: r, a, h => by
    rw [rnumL, if_neg (fun e => h a (Nat.le_refl _) (by simp) (inB_iff.1 e))]
    exact rnumL_none r (a + 1) fun j h1 h2 => h j (by omega) (by simp; omega)
theorem rnumL_all {l : List Sheet} {root : Int} : ∀ (r : List Sheet) (a : Nat), (∀ j, a ≤ j → j < a + r.length → root ∈ chainF l j) → rnumL l root a r = (r.zipIdx a).map fun p => (p.1, rnumF l root p.2)
  | [], _, _ => rfl
  | s :: r, a, h => by
    rw [rnumL, if_pos (inB_iff.2 (h a (Nat.le_refl _) (by simp))), rnumL_all r (a + 1) fun j h1 h2 => h j (by omega) (by simp; omega)]
    rfl
theorem deep_down {l : List Sheet} (T : Tree l) (D : Deep l) {u : Int} {i : Nat} {y : Sheet} (hy : l[i]? = some y) (hu : y.unit = u) : ∀ (d a : Nat), i ≤ a → a + d < l.length → u ∈ chainF l ((a + d : Nat) : Int) → u ∈ chainF l (a : Int)
  | 0, _, _, _, h => h
  | d + 1, a, hi, hl, h => by
    obtain ⟨s, hs⟩ := get_at l (show a + d + 1 < l.length by omega)
    rcases D (a + d) s u hs h with h1 | h1
    · have := T.uniq hs hy (h1.trans hu.symm)
      omega
    · exact deep_down T D hy hu d a hi (by omega) h1
theorem deep_split {l : List Sheet} (T : Tree l) (D : Deep l) {u : Int} {i : Nat} {y : Sheet} (hy : l[i]? = some y) (hu : y.unit = u) : ∀ (r : List Sheet) (a : Nat), i ≤ a → l.drop a = r →
    ∃ r1 r2, r = r1 ++ r2 ∧ (∀ j, a ≤ j → j < a + r1.length → u ∈ chainF l j) ∧ (∀ j, a + r1.length ≤ j → j < l.length → u ∉ chainF l j)
  | [], a, _, hd => by
    have hl : l.length ≤ a := by simpa using hd
    refine ⟨[], [], rfl, fun j h1 h2 => ?_, fun j h1 h2 => ?_⟩
    · simp at h2; omega
    · simp at h1; omega
  | s :: r, a, hi, hd => by
    have hs : l[a]? = some s := by
      have := congrArg (fun x => x[0]?) hd
      simpa using this
    have hd' : l.drop (a + 1) = r := by
      have := drop_at hs
      rw [hd] at this
      injection this with _ e
      exact e.symm
    by_cases c : u ∈ chainF l a
    · obtain ⟨r1, r2, e, h1, h2⟩ := deep_split T D hy hu r (a + 1) (by omega) hd'
      refine ⟨s :: r1, r2, by rw [e]; rfl, fun j g1 g2 => ?_, fun j g1 g2 => h2 j (by simp at g1; omega) g2⟩
      rcases Nat.eq_or_lt_of_le g1 with g | g
      · rw [← g]; exact c
      · exact h1 j g (by simp at g2; omega)
    · refine ⟨[], s :: r, rfl, fun j h1 h2 => by simp at h2; omega, fun j h1 h2 hc => c ?_⟩
      have := deep_down T D hy hu (j - a) a hi (by simp at h1; omega) (by rw [show a + (j - a) = j by simp at h1; omega]; exact hc)
      exact this
/-- the sections of the unit stand together in those of the root -/
theorem parts_split {l : List Sheet} (T : Tree l) (D : Deep l) (h14 : l.length ≤ 14) {root u : Int} {i : Nat} {y : Sheet} (hy : l[i]? = some y) (hu : y.unit = u) (hr : root ∈ chainF l i) :
    ∃ (A Z : List (Sheet × ByteArray)) (Q : List (Sheet × Nat)), secnF l root = A ++ (Q.map (fun p => (p.1, rnumF l root p.2)) ++ Z) ∧ secnF l u = Q.map (fun p => (p.1, rnumF l u p.2)) ∧ (∀ p ∈ A, p.1.unit ≠ u) ∧ Q.head? = some (y, i) ∧ ∀ p ∈ Q, l[p.2]? = some p.1 ∧ (pntN (rnumF l u p.2) ≤ 256 ∧ (rnumF l u p.2).size ≤ 64) ∧ ∃ z, rnumF l u p.2 = oneS ++ z ∧ rnumF l root p.2 = rnumF l root i ++ z := by
  obtain ⟨r1, r2, e, h1, h2⟩ := deep_split T D hy hu (l.drop i) i (Nat.le_refl _) rfl
  have hil := lt_of_at hy
  have hlen : r1.length + r2.length = l.length - i := by
    have := congrArg List.length e
    simpa using this.symm
  have huc : u ∈ chainF l i := by rw [chainF_at hy, hu]; simp
  have hr1 : ∃ r, r1 = y :: r := by
    rcases r1 with _ | ⟨x, r⟩
    · exact absurd huc (h2 i (by simp) hil)
    · have := drop_at hy
      rw [e] at this
      injection this with e1 _
      exact ⟨r, by rw [e1]⟩
  have hl : l = l.take i ++ (r1 ++ r2) := by rw [← e, List.take_append_drop]
  have hti : (l.take i).length = i := by rw [List.length_take]; omega
  have hat : ∀ p ∈ r1.zipIdx i, l[p.2]? = some p.1 ∧ i ≤ p.2 ∧ p.2 < i + r1.length := by
    intro p hp
    obtain ⟨g1, g2, g3⟩ := List.mem_zipIdx (x := p.1) (i := p.2) hp
    refine ⟨?_, g1, g2⟩
    have : l[p.2]? = (l.take i ++ (r1 ++ r2))[p.2]? := congrArg (fun x => x[p.2]?) hl
    rw [this, List.getElem?_append_right (by omega), hti, List.getElem?_append_left (by omega), List.getElem?_eq_getElem (by omega), ← g3]
  have hroot : ∀ j, i ≤ j → j < i + r1.length → root ∈ chainF l j := fun j g1 g2 => by
    obtain ⟨s, hs⟩ := get_at l (show j < l.length by omega)
    exact T.trans hy hu hr _ j (Nat.lt_succ_self _) s hs (h1 j g1 g2)
  refine ⟨rnumL l root 0 (l.take i), rnumL l root (i + r1.length) r2, r1.zipIdx i, ?_, ?_, ?_, ?_, ?_⟩
  · rw [secnF_eq T, ← rnumL_all r1 i hroot]
    have := rnumL_app (l := l) (root := root) (l.take i) (r1 ++ r2) 0
    rw [← hl, hti, Nat.zero_add, rnumL_app] at this
    exact this
  · rw [secnF_eq T, ← rnumL_all r1 i h1]
    have := rnumL_app (l := l) (root := u) (l.take i) (r1 ++ r2) 0
    rw [← hl, hti, Nat.zero_add, rnumL_app, rnumL_none (l.take i) 0, rnumL_none r2 (i + r1.length)] at this
    · simpa using this
    · intro j g1 g2
      exact h2 j g1 (by omega)
    · intro j g1 g2 hc
      obtain ⟨s, hs⟩ := get_at l (show j < l.length by omega)
      obtain ⟨m, w, hm, hw, hwu⟩ := T.chain_mem _ j (Nat.lt_succ_self _) s hs u hc
      have := T.uniq hw hy (hwu.trans hu.symm)
      omega
  · intro p hp
    have gen : ∀ (r : List Sheet) (a : Nat), (∀ (k : Nat) (s : Sheet), r[k]? = some s → s.unit ≠ u) → ∀ p ∈ rnumL l root a r, p.1.unit ≠ u := by
      intro r
      induction r with
      | nil => intro a _ p hp; simp [rnumL] at hp
      | cons s r ih =>
        intro a hh p hp
        rw [rnumL] at hp
        split at hp
        · rcases List.mem_cons.1 hp with rfl | hp
          · exact hh 0 s rfl
          · exact ih (a + 1) (fun k s hs => hh (k + 1) s (by simpa using hs)) p hp
        · exact ih (a + 1) (fun k s hs => hh (k + 1) s (by simpa using hs)) p hp
    refine gen (l.take i) 0 (fun k s hs c => ?_) p hp
    have hk := lt_of_at hs
    rw [List.getElem?_take, if_pos (by omega)] at hs
    have := T.uniq hs hy (c.trans hu.symm)
    omega
  · obtain ⟨r, rfl⟩ := hr1
    rfl
  · intro p hp
    obtain ⟨g1, g2, g3⟩ := hat p hp
    refine ⟨g1, ?_, T.num_app hy hu hr _ p.2 (Nat.lt_succ_self _) p.1 g1 (h1 p.2 g2 g3)⟩
    have h3 := T.pnt_le (root := u) _ p.2 (Nat.lt_succ_self _) p.1 g1 (h1 p.2 g2 g3)
    have h4 := lt_of_at g1
    have h5 := T.size_le (root := u) h14 _ p.2 (Nat.lt_succ_self _) p.1 g1 (h1 p.2 g2 g3)
    omega
def shN (d : Int) (a : Node) : Node := { a with depth := a.depth + d }
theorem count_app (a b : ByteArray) : pntN (a ++ b) = pntN a + pntN b := by
  unfold pntN
  have : (a ++ b).data.toList = a.data.toList ++ b.data.toList := by simp
  rw [this]
  unfold Lib.countByte
  simp
/-- what the statement asks of a section of the part and the section of the whole -/
structure PartOk (n : ByteArray) (x t : Sect) : Prop where
  small : ∀ a ∈ x.nodes, 0 ≤ a.depth ∧ a.depth ≤ 257
  nsz : x.number.size ≤ 64
  tsz : ∀ a, x.nodes[0]? = some a → a.text.size ≤ 1000
  unit : x.unit = t.unit
  num : ∃ z, x.number = oneS ++ z ∧ t.number = n ++ z
  len : x.nodes.length = t.nodes.length
  pos : 0 < x.nodes.length
  at_ : ∀ (k : Nat) (a b : Node), x.nodes[k]? = some a → t.nodes[k]? = some b → a.depth + pntN n = b.depth ∧ a.tag = b.tag ∧ (0 < k → a.text = b.text) ∧ (k = 0 → ∃ z, a.text = oneS ++ z ∧ b.text = n ++ z)
theorem part_ok (c : Cat) (ord : List ByteArray) (s : Sheet) (n z : ByteArray) (hsm : pntN (oneS ++ z) ≤ 256 ∧ (oneS ++ z).size ≤ 64) (ht : s.title.size ≤ 64) : PartOk n (secF c ord s (oneS ++ z)) (secF c ord s (n ++ z)) := by
  have h1 : pntN (oneS ++ z) = pntN z := by rw [count_app]; rw [show pntN oneS = 0 by decide]; omega
  have h2 : pntN (n ++ z) = pntN z + pntN n := by rw [count_app]; omega
  have hm : markN s (n ++ z) = (markN s (oneS ++ z)).map (shN (pntN n)) := by
    unfold markN
    split
    · rfl
    · simp only [List.map_cons, List.map_nil, shN, h1, h2]
      congr 2
      omega
  have hp : (chooseF ord s.facts).map (parN c ord (n ++ z)) = ((chooseF ord s.facts).map (parN c ord (oneS ++ z))).map (shN (pntN n)) := by
    rw [List.map_map]
    apply List.map_congr_left
    intro f _
    simp only [Function.comp, parN, shN, h1, h2]
    congr 1
    omega
  have hnn : 0 ≤ pntN (oneS ++ z) := by unfold pntN; omega
  obtain ⟨hsm, hsz⟩ := hsm
  refine ⟨?_, hsz, ?_, rfl, ⟨z, rfl, rfl⟩, ?_, by simp [secF], ?_⟩
  · intro a ha
    unfold secF headN markN at ha
    simp only [List.cons_append, List.mem_cons, List.mem_append, List.mem_map] at ha
    rcases ha with rfl | ha | ⟨f, _, rfl⟩
    · exact ⟨hnn, by simp only; omega⟩
    · split at ha
      · cases ha
      · simp only [List.mem_singleton] at ha
        subst ha
        exact ⟨by simp only; omega, by simp only; omega⟩
    · exact ⟨by simp only [parN]; omega, by simp only [parN]; omega⟩
  · intro a ha
    unfold secF at ha
    simp only [List.cons_append, List.getElem?_cons_zero, Option.some.injEq] at ha
    subst ha
    show (oneS ++ z ++ ⟨#[32]⟩ ++ s.title).size ≤ 1000
    rw [ByteArray.size_append, ByteArray.size_append]
    have : (⟨#[32]⟩ : ByteArray).size = 1 := rfl
    omega
  · unfold secF
    simp [hm]
  · intro k a b ha hb
    unfold secF at ha hb
    rcases k with _ | k
    · simp only [List.cons_append, List.getElem?_cons_zero, Option.some.injEq] at ha hb
      subst ha hb
      refine ⟨by unfold headN; simp only [h1, h2], rfl, fun h => by omega, fun _ => ⟨z ++ ⟨#[32]⟩ ++ s.title, ?_, ?_⟩⟩
      · unfold headN; apply ByteArray.ext; simp
      · unfold headN; apply ByteArray.ext; simp
    · simp only [List.cons_append, List.getElem?_cons_succ] at ha hb
      rw [hm, hp, ← List.map_append, List.getElem?_map, ha] at hb
      injection hb with hb
      subst hb
      exact ⟨rfl, rfl, fun _ => rfl, fun h => by omega⟩
/-- AidParts in plain words -/
theorem lastU_mem {u : Int} : ∀ {l : List (Sheet × ByteArray)} {t : ByteArray}, lastU u t l ≠ t → ∃ p ∈ l, p.1.unit = u ∧ lastU u t l = p.2
  | [], t, h => absurd rfl h
  | p :: r, t, h => by
    rw [lastU] at h ⊢
    by_cases c : p.1.unit = u
    · rw [if_pos c] at h ⊢
      by_cases c2 : lastU u p.2 r = p.2
      · exact ⟨p, by simp, c, c2⟩
      · obtain ⟨q, h1, h2, h3⟩ := lastU_mem c2
        exact ⟨q, by simp [h1], h2, h3⟩
    · rw [if_neg c] at h ⊢
      obtain ⟨q, h1, h2, h3⟩ := lastU_mem h
      exact ⟨q, by simp [h1], h2, h3⟩
theorem numU_some {c : Cat} {root u : Int} (h : numU c root u ≠ ⟨#[]⟩) : catE c = 0 ∧ ∃ (i : Nat) (y : Sheet), c.sheets[i]? = some y ∧ y.unit = u ∧ root ∈ chainF c.sheets i ∧ numU c root u = rnumF c.sheets root i := by
  unfold numU at h ⊢
  by_cases h0 : catE c = 0
  · rw [if_pos h0] at h ⊢
    have T := Cat.tree h0
    obtain ⟨p, hp, hu, e⟩ := lastU_mem h
    rw [secnF_eq T] at hp
    obtain ⟨j, _, h1, h2, h3⟩ := rnumL_mem c.sheets 0 (by simp) p hp
    exact ⟨h0, j, p.1, h1, hu, h2, by rw [e, h3]⟩
  · rw [if_neg h0] at h
    exact absurd rfl h
structure PartsP (n : ByteArray) (u : Int) (whole part : List Sect) : Prop where
  small : 0 ≤ pntN n ∧ pntN n ≤ 256 ∧ n.size ≤ 64
  split : ∃ A M Z, whole = A ++ (M ++ Z) ∧ (∀ x ∈ A, x.unit ≠ u) ∧ M.length = part.length ∧ (∃ x r, M = x :: r ∧ x.unit = u) ∧ ∀ (k : Nat) x t, part[k]? = some x → M[k]? = some t → PartOk n x t
theorem parts_ok {c : Cat} {root u : Int} {s : ByteArray} (h14 : catE c = 0 → c.sheets.length ≤ 14) (h : numU c root u ≠ ⟨#[]⟩) : (cmpE c root s = cmpE c u s) ∧ (cmpE c root s = 0 → PartsP (numU c root u) u (aidF c root s) (aidF c u s)) := by
  obtain ⟨h0, i, y, hy, hu, hr, hn⟩ := numU_some h
  have T := Cat.tree h0
  obtain ⟨m, w, hm, hw, hwr⟩ := T.chain_mem _ i (Nat.lt_succ_self _) y hy root hr
  have e1 : shtIx c.sheets u = (i : Int) := by rw [← hu]; exact T.ix_all hy
  have e2 : shtIx c.sheets root = (m : Int) := by rw [← hwr]; exact T.ix_all hw
  have hE : cmpE c root s = cmpE c u s := by
    unfold cmpE
    rw [e1, e2, if_neg (show ¬ ((m : Int) < 0) by omega), if_neg (show ¬ ((i : Int) < 0) by omega)]
  refine ⟨hE, fun hz => ?_⟩
  obtain ⟨A, Z, Q, q1, q2, q3, q4, q5⟩ := parts_split T (Cat.deep h0) (h14 h0) hy hu hr
  have hF : ∀ v, cmpE c v s = 0 → aidF c v s = (secnF c.sheets v).map fun p => secF c (prefP c.langs s) p.1 p.2 := by
    intro v hv
    unfold aidF
    rw [if_pos hv]
    rfl
  rw [hF root hz, hF u (hE ▸ hz), q1, q2, hn]
  refine ⟨⟨by unfold pntN; omega, ?_, ?_⟩, ⟨_, _, _, by rw [List.map_append, List.map_append], ?_, ?_, ?_, ?_⟩⟩
  · have h3 := T.pnt_le (root := root) _ i (Nat.lt_succ_self _) y hy hr
    have h4 := lt_of_at hy
    have h5 := T.len
    omega
  · have h3 := T.size_le (root := root) (h14 h0) _ i (Nat.lt_succ_self _) y hy hr
    have h4 := lt_of_at hy
    have h5 := h14 h0
    omega
  · intro x hx
    obtain ⟨p, hp, rfl⟩ := List.mem_map.1 hx
    exact q3 p hp
  · simp
  · rcases Q with _ | ⟨q, Q⟩
    · cases q4
    · simp at q4
      subst q4
      exact ⟨_, _, rfl, hu⟩
  · intro k x t hx ht
    rw [List.getElem?_map, List.getElem?_map] at hx ht
    cases hq : Q[k]? with
    | none => rw [hq] at hx; cases hx
    | some q =>
      rw [hq] at hx ht
      injection hx with hx
      injection ht with ht
      subst hx ht
      obtain ⟨hq2, zs, z, z1, z2⟩ := q5 q (List.mem_of_getElem? hq)
      rw [z1] at zs
      show PartOk _ (secF c _ q.1 (rnumF c.sheets u q.2)) (secF c _ q.1 (rnumF c.sheets root q.2))
      rw [z1, z2]
      exact part_ok _ _ _ _ _ zs ((catE_zero h0).2.2.2 q.1 (List.mem_of_getElem? hq2)).2.1.2.2
theorem idxG_skip {α : Type} (p : α → Bool) : ∀ (a b : List α) (i : Nat), (∀ x ∈ a, p x = false) → idxG p (a ++ b) i = idxG p b (i + a.length)
  | [], b, i, _ => rfl
  | x :: a, b, i, h => by
    rw [List.cons_append, idxG, if_neg (by simp [h x (by simp)]), idxG_skip p a b (i + 1) (fun y hy => h y (by simp [hy])), List.length_cons]
    congr 1
    omega
theorem PartsP.at_ {n : ByteArray} {u : Int} {whole part : List Sect} (h : PartsP n u whole part) : ∃ a : Nat, idxF (fun x => decide (x.unit = u)) whole = a ∧ a + part.length ≤ whole.length ∧ ∀ (k : Nat) x, part[k]? = some x → ∃ t, whole[a + k]? = some t ∧ PartOk n x t := by
  obtain ⟨A, M, Z, rfl, hA, hl, ⟨x, r, rfl, hx⟩, hM⟩ := h.split
  refine ⟨A.length, ?_, by simp at hl ⊢; omega, fun k y hy => ?_⟩
  · unfold idxF
    rw [idxG_skip _ _ _ _ (fun y hy => by simpa using hA y hy), List.cons_append, idxG, if_pos (by simpa using hx)]
    simp
  · have hk := lt_of_at hy
    obtain ⟨t, ht⟩ := get_at (x :: r) (show k < (x :: r).length by omega)
    refine ⟨t, ?_, hM k y t hy ht⟩
    rw [List.getElem?_append_right (by omega), Nat.add_sub_cancel_left, List.getElem?_append_left (by omega)]
    exact ht
end Go.Proofs.YtbmlnflacdockaaGreatDoor
