/- Rows of the call's own whose elements stand in their cells alone: reading and writing one cell. -/
import Derived.Test.YthbccfchjgihgaaGreatDoorBase
namespace Go.Proofs.YthbccfchjgihgaaGreatDoor
open Go.RowKit
section
variable {α : Type} {k : Nat} {enc : α → List Value} {e : TypeId} {base : Nat} {w : World} {xs : List α} {v : Value}

theorem OwnRep.rows (h : OwnRep k (flat enc) e base w xs v) : w.ownsRow base e k v xs.length (xs.map enc).flatten := by
  obtain ⟨css, hl, hr, hown⟩ := h
  have : css = xs.map enc := by
    apply List.ext_getElem?
    intro i
    by_cases hi : i < xs.length
    · obtain ⟨x, hx⟩ := get_at xs hi
      obtain ⟨cs, hcs⟩ := get_at css (show i < css.length by omega)
      rw [List.getElem?_map, hx, hcs]
      exact congrArg some (hr i x cs hx hcs)
    · rw [List.getElem?_eq_none (by omega), List.getElem?_eq_none (by simp; omega)]
  rw [← this]
  exact hown
theorem OwnRep.of_rows (h : w.ownsRow base e k v xs.length (xs.map enc).flatten) : OwnRep k (flat enc) e base w xs v := by
  refine ⟨xs.map enc, by simp, fun i x cs hx hcs => ?_, h⟩
  rw [List.getElem?_map, hx] at hcs
  injection hcs with hcs
  exact hcs.symm
theorem OwnRep.open_ (hR : Shape k (flat enc)) (h : OwnRep k (flat enc) e base w xs v) (hne : 0 < xs.length) :
    ∃ g cap, v = .slice (some ⟨g, 0, none⟩) xs.length cap ∧ base ≤ g ∧ g < w.heap.size ∧ xs.length ≤ cap ∧ cap ≤ 9223372036854775807 ∧ (∃ cur, w.heap[g]? = some (.cells cur e (0, 0))) ∧
      ∀ (i : Nat) x (j : Nat) u, xs[i]? = some x → (enc x)[j]? = some u → w.cell? ⟨g, i * k + j, none⟩ = some u ∧ w.frozen? ⟨g, i * k + j, none⟩ = false := by
  have hrow := h.rows
  have hlt := h.own_lt
  rcases hrow.2 with ⟨_, h0⟩ | ⟨g, cap, cur, rfl, hbg, hg, hcap, hm, hs, ht⟩
  · omega
  · obtain ⟨h1, h2⟩ := hlt g rfl
    refine ⟨g, cap, rfl, h1, h2, hcap, hm, ⟨cur, hg⟩, fun i x j u hx hu => ⟨?_, by simp [World.frozen?, hg]⟩⟩
    obtain ⟨A, c, e1, _, _, h3⟩ := h.toSl hR
    obtain ⟨b, off, cs, hA, _, hr, hc⟩ := h3 i x hx
    injection e1 with e1
    rw [← e1] at hA
    injection hA with hA
    injection hA with hA1 hA2
    subst hA1 hA2
    have := hc j u (by rw [hr]; exact hu)
    rwa [Nat.zero_add] at this
theorem flatten_set : ∀ (css : List (List Value)) (i j : Nat) (cs : List Value) (u : Value), (∀ c ∈ css, c.length = k) → css[i]? = some cs → j < k → (css.set i (cs.set j u)).flatten = css.flatten.set (i * k + j) u
  | [], i, j, cs, u, _, hi, _ => by simp at hi
  | c :: css, 0, j, cs, u, hl, hi, hj => by
    simp at hi
    subst hi
    have : j < c.length := by rw [hl c (by simp)]; exact hj
    simp [List.set_append_left _ _ this]
  | c :: css, i + 1, j, cs, u, hl, hi, hj => by
    have ih := flatten_set css i j cs u (fun x hx => hl x (by simp [hx])) (by simpa using hi) hj
    have hc : c.length = k := hl c (by simp)
    rw [List.set_cons_succ, List.flatten_cons, List.flatten_cons, ih, List.set_append_right _ _ (by rw [hc, Nat.add_mul]; omega)]
    congr 2
    rw [hc, Nat.add_mul]; omega
theorem OwnRep.set_ (hR : Shape k (flat enc)) {g n cap : Nat} (h : OwnRep k (flat enc) e base w xs (.slice (some ⟨g, 0, none⟩) n cap)) {i j : Nat} {x x' : α} {u : Value} (hx : xs[i]? = some x) (hj : j < k) (he : enc x' = (enc x).set j u) :
    OwnRep k (flat enc) e base (w.setCell ⟨g, i * k + j, none⟩ u) (xs.set i x') (.slice (some ⟨g, 0, none⟩) n cap) := by
  have hrow := h.rows
  refine OwnRep.of_rows ?_
  have hl : ∀ c ∈ xs.map enc, c.length = k := fun c hc => by
    obtain ⟨y, _, rfl⟩ := List.mem_map.1 hc
    exact hR.len (w := w) (F := fun _ => True) (x := y) rfl
  have hf : ((xs.set i x').map enc).flatten = ((xs.map enc).flatten).set (i * k + j) u := by
    rw [List.map_set, he]
    exact flatten_set (xs.map enc) i j (enc x) u hl (by rw [List.getElem?_map, hx]; rfl) hj
  rcases hrow.2 with ⟨h0, _⟩ | ⟨g', cap', cur, hv, hbg, hg, hcap, hm, hs, ht⟩
  · cases h0
  · injection hv with hv1 hv2 hv3
    injection hv1 with hv1
    injection hv1 with hv1
    subst hv1 hv2 hv3
    refine ⟨by rw [hf, List.length_set, List.length_set]; exact hrow.1, .inr ⟨g, cap, cur.setIfInBounds (i * k + j) u, by rw [List.length_set], hbg, ?_, by rw [List.length_set]; exact hcap, hm, by simpa using hs, ?_⟩⟩
    · simp [World.setCell, Array.getElem?_modify, hg]
    · rw [hf, List.length_set, Array.toList_setIfInBounds, List.take_set, ht]
theorem OwnRep.keep {w' : World} (h : OwnRep k (flat enc) e base w xs v) (hf : ∀ b, v.ownBlock = some b → w'.heap[b]? = w.heap[b]?) : OwnRep k (flat enc) e base w' xs v := OwnRep.of_rows (ownsRow_frame h.rows hf)
theorem OwnRep.base_le {base' : Nat} (h : OwnRep k (flat enc) e base w xs v) (hb : base' ≤ base) : OwnRep k (flat enc) e base' w xs v := by
  have h1 := h.rows
  refine OwnRep.of_rows ⟨h1.1, ?_⟩
  rcases h1.2 with h0 | ⟨g, cap, cur, rfl, hbg, h2⟩
  · exact .inl h0
  · exact .inr ⟨g, cap, cur, rfl, by omega, h2⟩
theorem below_turn {B : Nat} {w0 w1 w2 : World} (h1 : Below B w0 w1) (h2 : Below B w0 w2) (hs : w1.heap.size ≤ w2.heap.size) : Below B w1 w2 :=
  ⟨h2.os.trans h1.os.symm, h2.tape.trans h1.tape.symm, h2.output.trans h1.output.symm, hs, fun k hk => (h2.block k hk).trans (h1.block k hk).symm⟩
theorem OwnRep.len_pos {A : Option Addr} {n c : Nat} (hR : Shape k (flat enc)) (h : OwnRep k (flat enc) e base w xs (.slice A n c)) : n = xs.length := (h.toSl hR).len_.1
end
end Go.Proofs.YthbccfchjgihgaaGreatDoor
