/- What AidApart lays: a sheet of the copy turned; and what a range over a string passes by. -/
import Derived.Test.YtbmlnflacdockaaDoorPlO
import Derived.Test.YtbmlnflacdockaaDoorCmB
import Derived.Test.YtbmlnflacdockaaDoorPlU
import Derived.Test.YtbmlnflacdockaaDoorRfG
import Derived.Lib.OthersKept
namespace Go.Proofs.YtbmlnflacdockaaDoor
open Go.RowKit

def keyS (s : Sheet) : Int × Int := (s.unit, s.parent)
def SameKey (l l' : List Sheet) : Prop := l.map keyS = l'.map keyS
theorem idxG_map {α β : Type} (f : α → β) (p : β → Bool) : ∀ (l : List α) (i : Nat), idxG p (l.map f) i = idxG (fun x => p (f x)) l i
  | [], _ => rfl
  | x :: r, i => by
    rw [List.map_cons, idxG, idxG, idxG_map f p r (i + 1)]
section
variable {l l' : List Sheet} (h : SameKey l l')
include h
theorem SameKey.take (n : Nat) : SameKey (l.take n) (l'.take n) := by
  unfold SameKey at *
  rw [List.map_take, List.map_take, h]
theorem SameKey.len : l.length = l'.length := by
  have := congrArg List.length h
  simpa using this
theorem SameKey.at_ {i : Nat} {s : Sheet} (hs : l[i]? = some s) : ∃ s', l'[i]? = some s' ∧ s'.unit = s.unit ∧ s'.parent = s.parent := by
  obtain ⟨s', hs'⟩ := get_at l' (show i < l'.length by rw [← SameKey.len h]; exact lt_of_at hs)
  have := congrArg (fun x => x[i]?) h
  simp only [List.getElem?_map, hs, hs', Option.map_some, Option.some.injEq] at this
  unfold keyS at this
  injection this with e1 e2
  exact ⟨s', hs', e1.symm, e2.symm⟩
theorem SameKey.none {i : Nat} (hs : l[i]? = none) : l'[i]? = none := by
  rw [List.getElem?_eq_none_iff] at hs ⊢
  rw [← SameKey.len h]
  exact hs
theorem SameKey.ix (u : Int) : shtIx l u = shtIx l' u := by
  have e : ∀ l : List Sheet, shtIx l u = idxG (fun k : Int × Int => decide (k.1 = u)) (l.map keyS) 0 := fun l => by
    rw [idxG_map]
    rfl
  rw [e, e, h]
theorem SameKey.chainG : ∀ (f : Nat) (i : Int), chainG l f i = chainG l' f i
  | 0, _ => rfl
  | f + 1, i => by
    rw [Go.Proofs.YtbmlnflacdockaaDoor.chainG, Go.Proofs.YtbmlnflacdockaaDoor.chainG]
    by_cases hi : i < 0
    · rw [if_pos hi, if_pos hi]
    · rw [if_neg hi, if_neg hi]
      cases hs : l[i.toNat]? with
      | none => rw [SameKey.none h hs]
      | some s =>
        obtain ⟨s', hs', e1, e2⟩ := SameKey.at_ h hs
        rw [hs']
        simp only
        rw [e1, e2, SameKey.ix (SameKey.take h _), SameKey.chainG f]
theorem SameKey.chain (i : Int) : chainF l i = chainF l' i := SameKey.chainG h _ i
theorem SameKey.kids (i : Nat) (p : Int) : kidsN l i p = kidsN l' i p := by
  have e : ∀ l : List Sheet, kidsN l i p = ((l.take i).map keyS |>.filter fun k => decide (k.2 = p)).length := fun l => by
    unfold kidsN
    rw [List.filter_map, List.length_map]
    rfl
  rw [e, e]
  have := SameKey.take h i
  unfold SameKey at this
  rw [this]
theorem SameKey.numG (root : Int) : ∀ (f i : Nat), rnumG l root f i = rnumG l' root f i
  | 0, _ => rfl
  | f + 1, i => by
    rw [rnumG, rnumG]
    cases hs : l[i]? with
    | none => rw [SameKey.none h hs]
    | some s =>
      obtain ⟨s', hs', e1, e2⟩ := SameKey.at_ h hs
      rw [hs']
      simp only
      rw [e1, e2, SameKey.ix (SameKey.take h _), SameKey.kids h, SameKey.numG root f]
theorem SameKey.num (root : Int) (i : Nat) : rnumF l root i = rnumF l' root i := SameKey.numG h root _ i
theorem SameKey.rnumL {root : Int} : ∀ (r r' : List Sheet) (a : Nat), r.length = r'.length → (∀ (k : Nat) s, r[k]? = some s → root ∈ chainF l ((a + k : Nat) : Int) → r'[k]? = some s) → rnumL l' root a r' = rnumL l root a r
  | [], [], _, _, _ => rfl
  | [], _ :: _, _, hl, _ => by simp at hl
  | _ :: _, [], _, hl, _ => by simp at hl
  | s :: r, s' :: r', a, hl, hk => by
    have ih := SameKey.rnumL (root := root) r r' (a + 1) (by simpa using hl) (fun k x hx hc => by
      have := hk (k + 1) x (by simpa using hx) (by rw [show a + (k + 1) = a + 1 + k by omega]; exact hc)
      simpa using this)
    rw [Go.Proofs.YtbmlnflacdockaaDoor.rnumL, Go.Proofs.YtbmlnflacdockaaDoor.rnumL, ih, ← SameKey.chain h, ← SameKey.num h]
    by_cases hc : inB (chainF l a) root = true
    · have := hk 0 s rfl (inB_iff.1 hc)
      simp at this
      rw [if_pos hc, if_pos hc, this]
    · rw [if_neg hc, if_neg hc]
end
/-- a sheet that has turned: all but the title and the facts stand -/
structure Turned (s s' : Sheet) : Prop where
  unit : s'.unit = s.unit
  parent : s'.parent = s.parent
  level : s'.level = s.level
  mark : s'.mark = s.mark
  rest : s' = s ∨ (1 ≤ s'.title.size ∧ s'.title.size ≤ 64 ∧ s'.facts = [])
theorem Turned.ok {ls : List ByteArray} {l l' : List Sheet} {i : Nat} {s s' : Sheet} (hk : SameKey l l') (ht : Turned s s') (h : rshtF ls l i s = 0) : rshtF ls l' i s' = 0 := by
  unfold rshtF at h ⊢
  rw [ht.unit, ht.parent, ht.level, ht.mark, ← SameKey.ix (SameKey.take hk i), ← SameKey.ix (SameKey.take hk i), ← SameKey.chain hk, ← SameKey.chain hk]
  by_cases c1 : s.unit < 1 ∨ 1073741824 < s.unit ∨ s.level < 1 ∨ 4 < s.level
  · rw [if_pos c1] at h; cases h
  rw [if_neg c1] at h ⊢
  by_cases c2 : 64 < s.mark.size ∨ s.title.size = 0 ∨ 64 < s.title.size
  · rw [if_pos c2] at h; cases h
  rw [if_neg c2] at h
  by_cases c3 : 0 ≤ shtIx (l.take i) s.unit
  · rw [if_pos c3] at h; cases h
  rw [if_neg c3] at h
  by_cases c4 : s.parent ≠ 0 ∧ (i = 0 ∨ inB (chainF l ((i : Int) - 1)) s.parent = false)
  · rw [if_pos c4] at h; cases h
  rw [if_neg c4] at h
  by_cases c5 : s.parent ≠ 0 ∧ 12 ≤ (chainF l (shtIx (l.take i) s.parent)).length
  · rw [if_pos c5] at h; cases h
  rw [if_neg c5] at h
  have c2' : ¬ (64 < s.mark.size ∨ s'.title.size = 0 ∨ 64 < s'.title.size) := by
    rcases ht.rest with e | ⟨e1, e2, _⟩
    · rw [e]; exact c2
    · omega
  rw [if_neg c2', if_neg c3, if_neg c4, if_neg c5]
  rcases ht.rest with e | ⟨_, _, e3⟩
  · rw [e]; exact h
  · rw [e3]
    unfold fctE
    rw [if_neg (by simp)]
    rfl
theorem Turned.okG {ls : List ByteArray} {l l' : List Sheet} (hk : SameKey l l') : ∀ (r r' : List Sheet) (a : Nat), r.length = r'.length → (∀ (k : Nat) s, r[k]? = some s → ∃ s', r'[k]? = some s' ∧ Turned s s') → rshtG ls l a r = 0 → rshtG ls l' a r' = 0
  | [], [], _, _, _, _ => rfl
  | [], _ :: _, _, hl, _, _ => by simp at hl
  | _ :: _, [], _, hl, _, _ => by simp at hl
  | s :: r, s' :: r', a, hl, ht, h => by
    rw [rshtG] at h ⊢
    obtain ⟨t, ht1, ht2⟩ := ht 0 s rfl
    simp at ht1
    subst ht1
    by_cases h0 : rshtF ls l a s = 0
    · rw [if_pos h0] at h
      rw [if_pos (ht2.ok hk h0)]
      exact Turned.okG hk r r' (a + 1) (by simpa using hl) (fun k x hx => by
        obtain ⟨x', h1, h2⟩ := ht (k + 1) x (by simpa using hx)
        exact ⟨x', by simpa using h1, h2⟩) h
    · rw [if_neg h0] at h
      exact absurd h h0
theorem chooseG_in {ord : List ByteArray} : ∀ (l out : List Fact) (x : Fact), x ∈ chooseG ord out l → x ∈ out ∨ x ∈ l
  | [], out, x, h => .inl (by simpa [chooseG] using h)
  | f :: r, out, x, h => by
    have step : ∀ o, (x ∈ chooseG ord o r) → (∀ y ∈ o, y ∈ out ∨ y = f) → x ∈ out ∨ x ∈ f :: r := fun o hx ho => by
      rcases chooseG_in r o x hx with h1 | h1
      · rcases ho x h1 with h2 | h2
        · exact .inl h2
        · exact .inr (by rw [h2]; simp)
      · exact .inr (by simp [h1])
    rw [chooseG] at h
    cases hq : out.getLast? with
    | none =>
      rw [hq] at h
      exact step _ h (fun y hy => by simpa using hy)
    | some q =>
      rw [hq] at h
      simp only at h
      split at h
      · exact step _ h (fun y hy => by simpa using hy)
      · split at h
        · refine step _ h (fun y hy => ?_)
          rcases List.mem_append.1 hy with hy | hy
          · exact .inl (List.dropLast_subset _ hy)
          · exact .inr (by simpa using hy)
        · exact step _ h (fun y hy => .inl hy)
theorem chooseF_in {ord : List ByteArray} {l : List Fact} {x : Fact} (h : x ∈ chooseF ord l) : x ∈ l := by
  rcases chooseG_in l [] x h with h | h
  · cases h
  · exact h
theorem expG_congr {f f' : Nat → ByteArray} {t : ByteArray} (h : ∀ i, i < t.size → t.data.toList.getD i 0 = 91 → f (unitF (t.extract i t.size)).1 = f' (unitF (t.extract i t.size)).1) : ∀ (g i : Nat), expG f t g i = expG f' t g i
  | 0, _ => rfl
  | g + 1, i => by
    unfold expG
    by_cases hi : i < t.size
    · rw [if_pos hi, if_pos hi]
      by_cases hc : t.data.toList.getD i 0 = 91 ∧ 0 < (unitF (t.extract i t.size)).2
      · rw [if_pos hc, if_pos hc, h i hi hc.1, expG_congr h g]
      · rw [if_neg hc, if_neg hc, expG_congr h g]
    · rw [if_neg hi, if_neg hi]
theorem extract_head {t : ByteArray} {j : Nat} (hj : j < t.size) : (t.extract j t.size).data.toList.getD 0 0 = t.data.toList.getD j 0 := by
  have : (t.extract j t.size).data.toList = t.data.toList.drop j := by
    rw [ByteArray.data_extract, Array.toList_extract]
    have e : t.size = t.data.toList.length := by simp
    rw [e]
    show (t.data.toList.drop j).take (t.data.toList.length - j) = _
    exact List.take_of_length_le (by simp)
  rw [this]
  simp [List.getD, List.getElem?_drop]
/-- no text of a catalog cites the unit -/
def NoCite (c : Cat) (x : Int) : Prop := ∀ s ∈ c.sheets, ∀ f ∈ s.facts, ∀ j, j < f.text.size → f.text.data.toList.getD j 0 = 91 → ((pieceF (f.text.extract j f.text.size)).1 : Int) ≠ x
def turnC (c : Cat) (i : Nat) (y : Sheet) (t : ByteArray) : Cat := { c with sheets := c.sheets.set i { y with title := t, facts := [] } }
theorem apart_key {c : Cat} {i : Nat} {y : Sheet} {t : ByteArray} (hy : c.sheets[i]? = some y) : SameKey c.sheets (turnC c i y t).sheets := by
  unfold SameKey turnC
  rw [List.map_set]
  symm
  apply List.ext_getElem?
  intro k
  rw [List.getElem?_set]
  split
  · rename_i e
    subst e
    rw [List.getElem?_map, hy]
    split
    · rfl
    · rename_i h2
      have := lt_of_at hy
      simp at h2
      omega
  · rfl
theorem apart_cat {c : Cat} {i : Nat} {y : Sheet} {t : ByteArray} (hy : c.sheets[i]? = some y) (ht : 1 ≤ t.size ∧ t.size ≤ 64) (h0 : catE c = 0) : catE (turnC c i y t) = 0 := by
  have hk := apart_key (t := t) hy
  rw [← rcat_eq] at h0 ⊢
  unfold rcatE at h0 ⊢
  by_cases h1 : langE c.langs = 0
  · rw [if_neg (by simp [h1])] at h0
    rw [show (turnC c i y t).langs = c.langs from rfl, show (turnC c i y t).labels = c.labels from rfl, if_neg (by simp [h1])]
    by_cases h2 : labE c.langs c.labels = 0
    · rw [if_neg (by simp [h2])] at h0 ⊢
      rw [← hk.len]
      by_cases h3 : 256 < c.sheets.length
      · rw [if_pos h3] at h0; cases h0
      · rw [if_neg h3] at h0 ⊢
        refine Turned.okG hk c.sheets _ 0 hk.len (fun k s hs => ?_) h0
        by_cases e : i = k
        · subst e
          rw [hy] at hs
          injection hs with hs
          subst hs
          exact ⟨_, List.getElem?_set_self (lt_of_at hy), rfl, rfl, rfl, rfl, .inr ⟨ht.1, ht.2, rfl⟩⟩
        · exact ⟨s, by unfold turnC; rw [List.getElem?_set_ne e]; exact hs, rfl, rfl, rfl, rfl, .inl rfl⟩
    · rw [if_pos h2] at h0
      exact absurd h0 h2
  · rw [if_pos h1] at h0
    exact absurd h0 h1
theorem apart_out {c : Cat} {root : Int} {i : Nat} {y : Sheet} (hy : c.sheets[i]? = some y) (h0 : catE c = 0) (hn : numU c root y.unit = ⟨#[]⟩) : root ∉ chainF c.sheets i := by
  intro hr
  have T := Cat.tree h0
  unfold numU at hn
  rw [if_pos h0] at hn
  have hm : (y, rnumF c.sheets root i) ∈ secnF c.sheets root := by
    rw [secnF_eq T]
    have gen : ∀ (r : List Sheet) (a : Nat), c.sheets.drop a = r → a ≤ i → (y, rnumF c.sheets root i) ∈ rnumL c.sheets root a r := by
      intro r
      induction r with
      | nil =>
        intro a hd ha
        have hl : c.sheets.length ≤ a := by simpa using hd
        have := lt_of_at hy
        omega
      | cons s r ih =>
        intro a hd ha
        have hs : c.sheets[a]? = some s := by
          have := congrArg (fun x => x[0]?) hd
          simpa using this
        have hd' : c.sheets.drop (a + 1) = r := by
          have := drop_at hs
          rw [hd] at this
          injection this with _ e
          exact e.symm
        rw [rnumL]
        rcases Nat.eq_or_lt_of_le ha with e | hlt
        · subst e
          rw [hy] at hs
          injection hs with hs
          subst hs
          rw [if_pos (inB_iff.2 hr)]
          simp
        · have := ih (a + 1) hd' hlt
          split
          · exact List.mem_cons_of_mem _ this
          · exact this
    exact gen c.sheets 0 (by simp) (Nat.zero_le _)
  have := lastU_at (t := ⟨#[]⟩) ((once_diff T (root := root)).imp fun h => h.1) hm
  rw [this] at hn
  exact num_ne T hy hr hn
theorem apart_cite {c : Cat} {i : Nat} {y : Sheet} {t : ByteArray} (hy : c.sheets[i]? = some y) {u : Int} (hu : u ≠ y.unit) : citeF (turnC c i y t).sheets u = citeF c.sheets u := by
  have hk := apart_key (t := t) hy
  unfold citeF
  rw [← hk.ix]
  by_cases h : shtIx c.sheets u < 0
  · rw [if_pos h, if_pos h]
  · rw [if_neg h, if_neg h]
    rcases idxF_cases (fun s : Sheet => decide (s.unit = u)) c.sheets with ⟨e, _⟩ | ⟨k, x, e, hx, hp, _⟩
    · exact absurd (show shtIx c.sheets u < 0 by rw [show shtIx c.sheets u = -1 from e]; decide) h
    · rw [show shtIx c.sheets u = k from e, Int.toNat_natCast]
      have hne : i ≠ k := fun e => by
        subst e
        rw [hy] at hx
        injection hx with hx
        subst hx
        simp at hp
        exact hu hp.symm
      unfold turnC
      rw [List.getElem?_set_ne hne]
/-- AidApart in plain words -/
theorem apart_ok {c : Cat} {u : Int} {s t : ByteArray} {i : Nat} {y : Sheet} (hy : c.sheets[i]? = some y) (ht : 1 ≤ t.size ∧ t.size ≤ 64) (hE : cmpE c u s = 0) (hn : numU c u y.unit = ⟨#[]⟩) (hc : NoCite c y.unit) : cmpE (turnC c i y t) u s = 0 ∧ aidF (turnC c i y t) u s = aidF c u s := by
  have h0 : catE c = 0 := Classical.byContradiction fun e => by
    unfold cmpE at hE
    rw [if_pos e] at hE
    cases hE
  have hk := apart_key (t := t) hy
  have h0' := apart_cat (t := t) hy ht h0
  have T := Cat.tree h0
  have T' := Cat.tree h0'
  have hE' : cmpE (turnC c i y t) u s = 0 := by
    unfold cmpE at hE ⊢
    rw [if_neg (by simp [h0'])]
    rw [if_neg (by simp [h0])] at hE
    rw [← hk.ix]
    exact hE
  refine ⟨hE', ?_⟩
  have hout := apart_out hy h0 hn
  have hsec : secnF (turnC c i y t).sheets u = secnF c.sheets u := by
    rw [secnF_eq T, secnF_eq T']
    refine hk.rnumL c.sheets _ 0 hk.len (fun k x hx hr => ?_)
    have hne : i ≠ k := fun e => by
      subst e
      rw [Nat.zero_add] at hr
      exact hout hr
    unfold turnC
    rw [List.getElem?_set_ne hne]
    exact hx
  unfold aidF
  rw [if_pos hE', if_pos hE]
  unfold aidL secL
  rw [hsec, show (turnC c i y t).langs = c.langs from rfl]
  apply List.map_congr_left
  intro p hp
  rw [secnF_eq T] at hp
  obtain ⟨j, -, hj, -⟩ := rnumL_mem c.sheets 0 (by simp) p hp
  have hpm := List.mem_of_getElem? hj
  have hpar : (chooseF (prefP c.langs s) p.1.facts).map (parN (turnC c i y t) (prefP c.langs s) p.2) = (chooseF (prefP c.langs s) p.1.facts).map (parN c (prefP c.langs s) p.2) := by
    apply List.map_congr_left
    intro f hf
    have hff := chooseF_in hf
    unfold parN textF
    rw [show (turnC c i y t).labels = c.labels from rfl]
    have : expF (fun u => citeF (turnC c i y t).sheets u) f.text = expF (fun u => citeF c.sheets u) f.text := by
      unfold expF
      refine expG_congr (fun k hk1 hk2 => ?_) _ _
      have h1 := hc p.1 hpm f hff k hk1 hk2
      rw [piece_eq (by rw [extract_head hk1]; exact hk2)] at h1
      exact apart_cite hy h1
    rw [this]
  unfold secF
  rw [hpar]
open Go.RowKit

abbrev turnW (W : World) (g i : Nat) (t : ByteArray) : World := (W.setCell ⟨g, i * 6 + 4, none⟩ (.string t)).setCell ⟨g, i * 6 + 5, none⟩ (.slice none 0 0)
theorem turnW_heap (W : World) (g i : Nat) (t : ByteArray) (b : Nat) (hb : b ≠ g) : (turnW W g i t).heap[b]? = W.heap[b]? := by
  rw [Below.heap_setCell _ _ _ _ hb, Below.heap_setCell _ _ _ _ hb]
theorem turnW_size (W : World) (g i : Nat) (t : ByteArray) : (turnW W g i t).heap.size = W.heap.size := by simp [turnW, World.setCell]
theorem turn_rep {m : Nat} {W : World} {xs : List Sheet} {g n cap i : Nat} {y : Sheet} {t : ByteArray} {e : TypeId} (h : OwnRep 6 (lowT m) e m W xs (.slice (some ⟨g, 0, none⟩) n cap)) (hy : xs[i]? = some y) :
    SlRep 6 shtR (turnW W g i t) (fun b => b < W.heap.size) (xs.set i { y with title := t, facts := [] }) (.slice (some ⟨g, 0, none⟩) n cap) := by
  have hS := h.toSl (lowTS m)
  obtain ⟨css, hl, hr, hown⟩ := h
  have hlt : g < W.heap.size := (hown.lt g rfl).2
  obtain ⟨hn1, hn2, hn3⟩ := hS.len_
  have hcell : ∀ (k : Nat) (x : Sheet), xs[k]? = some x → ∃ cs, shtR W (fun b => b < W.heap.size ∧ b ≠ g) x cs ∧ ∀ j u, cs[j]? = some u → W.cell? ⟨g, k * 6 + j, none⟩ = some u := by
    intro k x hx
    obtain ⟨cs, hcs⟩ := get_at css (show k < css.length by rw [hl]; exact lt_of_at hx)
    refine ⟨cs, shtS.mono (fun b hb => ⟨hb.1.1, fun e => hb.1.2 (by rw [e]; rfl)⟩) (hr k x cs hx hcs), fun j u hu => ?_⟩
    have h1 := hown.cells (g := g) rfl (k * 6 + j) u (flatten_at (lowTS m) hl hr k x _ j u hx hcs hu)
    have hadd : (⟨g, 0, none⟩ : Addr).add (k * 6 + j) = ⟨g, k * 6 + j, none⟩ := by
      unfold Addr.add
      split
      · rename_i h0; rw [show k * 6 + j = 0 by omega]
      · rw [Nat.zero_add]
    rwa [hadd] at h1
  have hold : ∀ (q : Nat) u, q ≠ i * 6 + 4 → q ≠ i * 6 + 5 → W.cell? ⟨g, q, none⟩ = some u → (turnW W g i t).cell? ⟨g, q, none⟩ = some u := by
    intro q u h4 h5 hu
    rw [World.cell?_setCell_other _ _ _ _ (by intro e; injection e with _ e; exact h5 e.symm), World.cell?_setCell_other _ _ _ _ (by intro e; injection e with _ e; exact h4 e.symm)]
    exact hu
  refine ⟨_, cap, by rw [List.length_set, ← hn1], by rw [List.length_set, ← hn1]; exact hn2, hn3, fun k x hx => ?_⟩
  by_cases hk : k = i
  · subst hk
    rw [List.getElem?_set_self (lt_of_at hy)] at hx
    injection hx with hx
    subst hx
    obtain ⟨cs, ⟨vf, rfl, -⟩, hc⟩ := hcell k y hy
    refine ⟨g, 0, [.int .i64 y.unit, .int .i64 y.parent, .int .i64 y.level, .string y.mark, .string t, .slice none 0 0], rfl, hlt, ⟨_, rfl, SlRep.nil_⟩, fun j u hu => ?_⟩
    rw [Nat.zero_add]
    have c4 := hc 4 _ rfl
    have c5 := hc 5 _ rfl
    match j, hu with
    | 0, hu => simp at hu; subst hu; exact hold _ _ (by omega) (by omega) (hc 0 _ rfl)
    | 1, hu => simp at hu; subst hu; exact hold _ _ (by omega) (by omega) (hc 1 _ rfl)
    | 2, hu => simp at hu; subst hu; exact hold _ _ (by omega) (by omega) (hc 2 _ rfl)
    | 3, hu => simp at hu; subst hu; exact hold _ _ (by omega) (by omega) (hc 3 _ rfl)
    | 4, hu =>
      simp at hu
      subst hu
      rw [World.cell?_setCell_other _ _ _ _ (by intro e; injection e with _ e; omega)]
      exact World.cell?_setCell_same _ _ _ c4
    | 5, hu =>
      simp at hu
      subst hu
      exact World.cell?_setCell_same _ _ _ ((World.cell?_setCell_other _ _ _ _ (by intro e; injection e with _ e; omega)).trans c5)
    | j + 6, hu => simp at hu
  · rw [List.getElem?_set_ne (fun e => hk e.symm)] at hx
    obtain ⟨cs, hR, hc⟩ := hcell k x hx
    have hlen := shtS.len hR
    refine ⟨g, 0, cs, rfl, hlt, shtS.mono (fun b hb => hb.1) (shtS.frame (fun b hb => turnW_heap W g i t b hb.2) hR), fun j u hu => ?_⟩
    have hj : j < 6 := by rw [← hlen]; exact lt_of_at hu
    rw [Nat.zero_add]
    exact hold _ _ (by omega) (by omega) (hc j u hu)
/-- what a rune takes besides its first byte is no bracket -/
theorem decode_skip (s : ByteArray) (pos j : Nat) (h1 : pos < j) (h2 : j < pos + (Utf8.decode s pos).2) : s.data.toList.getD j 0 ≠ 91 := by
  have key : ∀ k, (s.get! (pos + k)).toNat / 64 = 2 → pos + k < s.size → j = pos + k → s.data.toList.getD j 0 ≠ 91 := by
    intro k hk hs e he
    subst e
    have : s.get! (pos + k) = s.data.toList.getD (pos + k) 0 := by
      rw [← Lib.getD_at s (pos + k) hs]
      simp [ByteArray.get!, getElem!_pos, hs]
      rfl
    rw [this, he] at hk
    revert hk
    decide
  revert h2
  unfold Utf8.decode
  simp only
  split
  · intro h2; exfalso; simp at h2; omega
  · split
    · rename_i hc
      simp only [Bool.and_eq_true, decide_eq_true_eq, beq_iff_eq] at hc
      split
      · intro h2; simp at h2; exact key 1 hc.2.2 hc.2.1 (by omega)
      · intro h2; exfalso; simp at h2; omega
    · split
      · rename_i hc
        simp only [Bool.and_eq_true, decide_eq_true_eq, beq_iff_eq] at hc
        split
        · intro h2
          simp at h2
          rcases (show j = pos + 1 ∨ j = pos + 2 by omega) with e | e
          · exact key 1 hc.1.2.2 hc.1.2.1 e
          · exact key 2 hc.2.2 hc.2.1 e
        · intro h2; exfalso; simp at h2; omega
      · split
        · rename_i hc
          simp only [Bool.and_eq_true, decide_eq_true_eq, beq_iff_eq] at hc
          split
          · intro h2
            simp at h2
            rcases (show j = pos + 1 ∨ j = pos + 2 ∨ j = pos + 3 by omega) with e | e | e
            · exact key 1 hc.1.1.2.2 hc.1.1.2.1 e
            · exact key 2 hc.1.2.2 hc.1.2.1 e
            · exact key 3 hc.2.2 hc.2.1 e
          · intro h2; exfalso; simp at h2; omega
        · intro h2; exfalso; simp at h2; omega
theorem decode_pos (s : ByteArray) (pos : Nat) (h : pos < s.size) : 1 ≤ (Utf8.decode s pos).2 := by
  by_cases ha : (s[pos]'h).toNat < 128
  · rw [decode_ascii s pos h ha]
    exact Nat.le_refl _
  · exact (decode_high s pos h (by omega)).2
end Go.Proofs.YtbmlnflacdockaaDoor
