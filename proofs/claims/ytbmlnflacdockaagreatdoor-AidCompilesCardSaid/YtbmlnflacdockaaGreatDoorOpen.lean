/- The arguments of the statements, opened: what can be read as data reads as my lists. -/
import Derived.Test.YtbmlnflacdockaaGreatDoorPrA
import Derived.Test.YtbmlnflacdockaaGreatDoorRows
import Derived.ProofKit
import Derived.Deep.Slices
import Derived.Deep.Fields
import Derived.Lib.SmallJoins
namespace Go.Proofs.YtbmlnflacdockaaGreatDoor
open Go.RowKit Go.ChangeShapes Go.WideShapes Go.Deep

theorem addr_add {a : Addr} {v : Value} {w : World} {n : Nat} (h : w.cell? (a.add n) = some v) (hs : a.spot = none) : a.add n = ⟨a.block, a.off + n, none⟩ := by
  obtain ⟨b, o, s⟩ := a
  simp only at hs
  subst hs
  unfold Addr.add
  split
  · rename_i h0; subst h0; rfl
  · rfl
section
variable {H : Type} {enc : TypeId × Value → H} {P : Program} {w : World} {base : Nat} {spare : Nat → Bool} {held : Bool}
theorem list_of {α : Type} {Q : Nat → α → Prop} : ∀ n : Nat, (∀ i, i < n → ∃ x, Q i x) → ∃ xs : List α, xs.length = n ∧ ∀ (i : Nat) x, xs[i]? = some x → Q i x
  | 0, _ => ⟨[], rfl, fun i x hx => by simp at hx⟩
  | n + 1, h => by
    obtain ⟨xs, h1, h2⟩ := list_of n fun i hi => h i (by omega)
    obtain ⟨x, hx⟩ := h n (by omega)
    refine ⟨xs ++ [x], by simp [h1], fun i y hy => ?_⟩
    by_cases hi : i < xs.length
    · rw [List.getElem?_append_left hi] at hy; exact h2 i y hy
    · have hl := lt_of_at hy
      simp at hl
      obtain rfl : i = xs.length := by omega
      simp at hy
      subst hy
      rw [h1]; exact hx
theorem open_sl {α : Type} {k : Nat} {R : CRep α} {t e : TypeId} {fuel : Nat} {cs : List Value} {x : DataW H × List MemPlace} (ht : P.underlying t = some (.slice e)) (hk : P.cellsOf e = k) (hpos : 0 < k)
    (hel : ∀ (n : Nat) (cs : List Value) (y : DataW H × List MemPlace), cs.length = k → DataW.trod enc P w base spare held n e cs = some y → ∃ x, R w (fun b => b < w.heap.size) x cs)
    (h : DataW.trod enc P w base spare held fuel t cs = some x) : ∃ (xs : List α) (v : Value), cs = [v] ∧ SlRep k R w (fun b => b < w.heap.size) xs v := by
  rcases open_slice ht h with ⟨h0, _⟩ | ⟨a, len, cap, m, n, D, Pl, hcs, hb, hl, hm, hmm, hx, hi⟩
  · exact ⟨[], _, h0, SlRep.nil_⟩
  · have hle : len ≤ m := by rw [hmm]; split <;> omega
    obtain ⟨xs, hxl, hxs⟩ := list_of (Q := fun i x => ∃ cs', R w (fun b => b < w.heap.size) x cs' ∧ cs'.length = k ∧ ∀ j, j < k → w.cell? ((a.add (i * k)).add j) = cs'[j]?) len (fun i hil => by
      obtain ⟨cs', hc, ht'⟩ := hi i (by omega)
      rw [hk] at hc
      obtain ⟨_, hcl, hat⟩ := World.cells?_some hc
      obtain ⟨x, hx⟩ := hel n cs' _ hcl ht'
      exact ⟨x, cs', hx, hcl, hat⟩)
    refine ⟨xs, _, hcs, some a, cap, by rw [hxl], by omega, by unfold maxLen at hm; omega, fun i x hx => ?_⟩
    obtain ⟨cs', hr, hcl, hat⟩ := hxs i x hx
    have h0 := hat 0 hpos
    rw [Go.Deep.add_add, Nat.add_zero, List.getElem?_eq_getElem (by omega)] at h0
    have hsp : a.spot = none := by
      obtain ⟨x0, hx0⟩ := get_at xs (show 0 < xs.length by have := lt_of_at hx; omega)
      obtain ⟨cs0, _, hcl0, hat0⟩ := hxs 0 x0 hx0
      have h00 := hat0 0 hpos
      rw [Nat.zero_mul] at h00
      have ha : (a.add 0).add 0 = a := rfl
      rw [ha, List.getElem?_eq_getElem (by omega)] at h00
      cases hs : a.spot with
      | none => rfl
      | some s =>
        unfold World.cell? at h00
        split at h00
        · simp [hs] at h00
        · cases h00
    have e0 := addr_add h0 hsp
    have hlt : a.block < w.heap.size := by
      rw [e0] at h0
      exact World.block_lt_of_cell? w ⟨a.block, a.off + i * k, none⟩ h0
    refine ⟨a.block, a.off, cs', by obtain ⟨b, o, s⟩ := a; simp only at hsp; subst hsp; rfl, hlt, hr, fun j u hu => ?_⟩
    have hj := hat j (by rw [← hcl]; exact lt_of_at hu)
    rw [hu, Go.Deep.add_add] at hj
    have := addr_add hj hsp
    rw [this] at hj
    rw [Nat.add_assoc]
    exact hj
end
section
variable {H : Type} {enc : TypeId × Value → H} {w : World} {base : Nat} {spare : Nat → Bool} {held : Bool}
set_option maxRecDepth 100000 in
theorem open_Label (n : Nat) (cs : List Value) (y : DataW H × List MemPlace) (hl : cs.length = 4) (h : DataW.trod enc Tryz.prog w base spare held n 63 cs = some y) : ∃ x : Label, flat Label.enc w (fun b => b < w.heap.size) x cs := by
  obtain ⟨ys, n', _, hy, hlen, hyl, hf⟩ := DataW.trod_struct Tryz.underlying63 h
  match cs, hl with
  | [c0, c1, c2, c3], _ =>
    match ys, hyl with
    | [y0, y1, y2, y3], _ =>
      have k0 : Tryz.prog.cellsOf 3 = 1 := by kernel_rfl
      have k1 : Tryz.prog.cellsOf 9 = 1 := by kernel_rfl
      have g0 := hf 0 _ rfl
      have g1 := hf 1 _ rfl
      have g2 := hf 2 _ rfl
      have g3 := hf 3 _ rfl
      simp [k0, k1] at g0 g1 g2 g3
      obtain ⟨a0, e0, _⟩ := DataW.trod_int Tryz.underlying3 g0
      obtain ⟨a1, e1, _⟩ := DataW.trod_string Tryz.underlying9 g1
      obtain ⟨a2, e2, _⟩ := DataW.trod_string Tryz.underlying9 g2
      obtain ⟨a3, e3, _⟩ := DataW.trod_int Tryz.underlying3 g3
      simp at e0 e1 e2 e3
      subst e0 e1 e2 e3
      exact ⟨⟨a0, a1, a2, a3⟩, rfl⟩
set_option maxRecDepth 100000 in
theorem open_Fact (n : Nat) (cs : List Value) (y : DataW H × List MemPlace) (hl : cs.length = 3) (h : DataW.trod enc Tryz.prog w base spare held n 49 cs = some y) : ∃ x : Fact, flat Fact.enc w (fun b => b < w.heap.size) x cs := by
  obtain ⟨ys, n', _, hy, hlen, hyl, hf⟩ := DataW.trod_struct Tryz.underlying49 h
  match cs, hl with
  | [c0, c1, c2], _ =>
    match ys, hyl with
    | [y0, y1, y2], _ =>
      have k0 : Tryz.prog.cellsOf 3 = 1 := by kernel_rfl
      have k1 : Tryz.prog.cellsOf 9 = 1 := by kernel_rfl
      have g0 := hf 0 _ rfl
      have g1 := hf 1 _ rfl
      have g2 := hf 2 _ rfl
      simp [k0, k1] at g0 g1 g2
      obtain ⟨a0, e0, _⟩ := DataW.trod_int Tryz.underlying3 g0
      obtain ⟨a1, e1, _⟩ := DataW.trod_string Tryz.underlying9 g1
      obtain ⟨a2, e2, _⟩ := DataW.trod_string Tryz.underlying9 g2
      simp at e0 e1 e2
      subst e0 e1 e2
      exact ⟨⟨a0, a1, a2⟩, rfl⟩
set_option maxRecDepth 100000 in
theorem open_Sheet (n : Nat) (cs : List Value) (y : DataW H × List MemPlace) (hl : cs.length = 6) (h : DataW.trod enc Tryz.prog w base spare held n 65 cs = some y) : ∃ x : Sheet, shtR w (fun b => b < w.heap.size) x cs := by
  obtain ⟨ys, n', _, hy, hlen, hyl, hf⟩ := DataW.trod_struct Tryz.underlying65 h
  match cs, hl with
  | [c0, c1, c2, c3, c4, c5], _ =>
    match ys, hyl with
    | [y0, y1, y2, y3, y4, y5], _ =>
      have k0 : Tryz.prog.cellsOf 47 = 1 := by kernel_rfl
      have k1 : Tryz.prog.cellsOf 3 = 1 := by kernel_rfl
      have k2 : Tryz.prog.cellsOf 9 = 1 := by kernel_rfl
      have g0 := hf 0 _ rfl
      have g1 := hf 1 _ rfl
      have g2 := hf 2 _ rfl
      have g3 := hf 3 _ rfl
      have g4 := hf 4 _ rfl
      have g5 := hf 5 _ rfl
      simp [k0, k1, k2] at g0 g1 g2 g3 g4 g5
      obtain ⟨a0, e0, _⟩ := DataW.trod_int Tryz.underlying3 g0
      obtain ⟨a1, e1, _⟩ := DataW.trod_int Tryz.underlying3 g1
      obtain ⟨a2, e2, _⟩ := DataW.trod_int Tryz.underlying3 g2
      obtain ⟨a3, e3, _⟩ := DataW.trod_string Tryz.underlying9 g3
      obtain ⟨a4, e4, _⟩ := DataW.trod_string Tryz.underlying9 g4
      obtain ⟨us, v, e5, hus⟩ := open_sl (R := flat Fact.enc) (k := 3) Tryz.underlying47 (by kernel_rfl) (by decide) open_Fact g5
      simp at e0 e1 e2 e3 e4 e5
      subst e0 e1 e2 e3 e4 e5
      exact ⟨⟨a0, a1, a2, a3, a4, us⟩, _, rfl, hus⟩
set_option maxRecDepth 100000 in
theorem open_Node (n : Nat) (cs : List Value) (y : DataW H × List MemPlace) (hl : cs.length = 3) (h : DataW.trod enc Tryz.prog w base spare held n 61 cs = some y) : ∃ x : Node, flat Node.enc w (fun b => b < w.heap.size) x cs := by
  obtain ⟨ys, n', _, hy, hlen, hyl, hf⟩ := DataW.trod_struct Tryz.underlying61 h
  match cs, hl with
  | [c0, c1, c2], _ =>
    match ys, hyl with
    | [y0, y1, y2], _ =>
      have k0 : Tryz.prog.cellsOf 3 = 1 := by kernel_rfl
      have k1 : Tryz.prog.cellsOf 9 = 1 := by kernel_rfl
      have g0 := hf 0 _ rfl
      have g1 := hf 1 _ rfl
      have g2 := hf 2 _ rfl
      simp [k0, k1] at g0 g1 g2
      obtain ⟨a0, e0, _⟩ := DataW.trod_int Tryz.underlying3 g0
      obtain ⟨a1, e1, _⟩ := DataW.trod_string Tryz.underlying9 g1
      obtain ⟨a2, e2, _⟩ := DataW.trod_string Tryz.underlying9 g2
      simp at e0 e1 e2
      subst e0 e1 e2
      exact ⟨⟨a0, a1, a2⟩, rfl⟩
set_option maxRecDepth 100000 in
theorem open_Sect (n : Nat) (cs : List Value) (y : DataW H × List MemPlace) (hl : cs.length = 3) (h : DataW.trod enc Tryz.prog w base spare held n 70 cs = some y) : ∃ x : Sect, secR w (fun b => b < w.heap.size) x cs := by
  obtain ⟨ys, n', _, hy, hlen, hyl, hf⟩ := DataW.trod_struct Tryz.underlying70 h
  match cs, hl with
  | [c0, c1, c2], _ =>
    match ys, hyl with
    | [y0, y1, y2], _ =>
      have k0 : Tryz.prog.cellsOf 56 = 1 := by kernel_rfl
      have k1 : Tryz.prog.cellsOf 3 = 1 := by kernel_rfl
      have k2 : Tryz.prog.cellsOf 9 = 1 := by kernel_rfl
      have g0 := hf 0 _ rfl
      have g1 := hf 1 _ rfl
      have g2 := hf 2 _ rfl
      simp [k0, k1, k2] at g0 g1 g2
      obtain ⟨a0, e0, _⟩ := DataW.trod_int Tryz.underlying3 g0
      obtain ⟨a1, e1, _⟩ := DataW.trod_string Tryz.underlying9 g1
      obtain ⟨us, v, e2, hus⟩ := open_sl (R := flat Node.enc) (k := 3) Tryz.underlying56 (by kernel_rfl) (by decide) open_Node g2
      simp at e0 e1 e2
      subst e0 e1 e2
      exact ⟨⟨a0, a1, us⟩, _, rfl, hus⟩
theorem open_strE (n : Nat) (cs : List Value) (y : DataW H × List MemPlace) (hl : cs.length = 1) (h : DataW.trod enc Tryz.prog w base spare held n 9 cs = some y) : ∃ x : ByteArray, flat strEnc w (fun b => b < w.heap.size) x cs := by
  match cs, hl with
  | [c0], _ =>
    obtain ⟨a0, e0, _⟩ := DataW.trod_string Tryz.underlying9 h
    simp at e0
    subst e0
    exact ⟨a0, rfl⟩
set_option maxRecDepth 100000 in
theorem open_aid {r : Reach} {b0 : Nat} {v : Value} {d : DataW H} {p : List MemPlace} (hv : Value.okWide Tryz.prog w r b0 31 v) (h : DataW.Trod enc Tryz.prog w base spare held 31 v d p) :
    ∃ (u : Int) (l : ByteArray) (ss : List Sect) (vs : Value), v = .agg #[.int .i64 u, .string l, vs] ∧ Sects w w.heap.size ss vs := by
  obtain ⟨v0, v1, v2, y0, y1, y2, n, rfl, _, _, h0, h1, h2⟩ := Joins.open_agg3 Tryz.underlying31 (by kernel_rfl) (by kernel_rfl) hv h
  obtain ⟨a0, e0, _⟩ := DataW.trod_int Tryz.underlying3 h0
  obtain ⟨a1, e1, _⟩ := DataW.trod_string Tryz.underlying9 h1
  obtain ⟨ss, vs, e2, hss⟩ := open_sl (R := secR) (k := 3) Tryz.underlying29 (by kernel_rfl) (by decide) open_Sect h2
  simp at e0 e1 e2
  subst e0 e1 e2
  exact ⟨a0, a1, ss, _, rfl, hss⟩
set_option maxRecDepth 100000 in
theorem open_cat {r : Reach} {b0 : Nat} {v : Value} {d : DataW H} {p : List MemPlace} (hv : Value.okWide Tryz.prog w r b0 26 v) (h : DataW.Trod enc Tryz.prog w base spare held 26 v d p) :
    ∃ (c : Cat) (v1 v2 v3 : Value), v = .agg #[v1, v2, v3] ∧ CatRep w w.heap.size c v1 v2 v3 := by
  obtain ⟨v0, v1, v2, y0, y1, y2, n, rfl, _, _, h0, h1, h2⟩ := Joins.open_agg3 Tryz.underlying26 (by kernel_rfl) (by kernel_rfl) hv h
  obtain ⟨s0, u0, e0, g0⟩ := open_sl (R := flat strEnc) (k := 1) Tryz.underlying22 (by kernel_rfl) (by decide) open_strE h0
  obtain ⟨s1, u1, e1, g1⟩ := open_sl (R := flat Label.enc) (k := 4) Tryz.underlying23 (by kernel_rfl) (by decide) open_Label h1
  obtain ⟨s2, u2, e2, g2⟩ := open_sl (R := shtR) (k := 6) Tryz.underlying24 (by kernel_rfl) (by decide) open_Sheet h2
  simp at e0 e1 e2
  subst e0 e1 e2
  exact ⟨⟨s0, s1, s2⟩, _, _, _, rfl, ⟨g0, g1, g2⟩⟩
end
end Go.Proofs.YtbmlnflacdockaaGreatDoor
