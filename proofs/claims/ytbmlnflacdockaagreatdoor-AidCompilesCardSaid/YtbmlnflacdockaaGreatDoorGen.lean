/- Words for rows of the call's own, used from chapter 47 on. -/
import Derived.Test.YtbmlnflacdockaaGreatDoorTwo
namespace Go.Proofs.YtbmlnflacdockaaGreatDoor
open Go.RowKit

theorem own_ptr {e : TypeId} {α : Type} {k n : Nat} {R : CRep α} {base : Nat} {w : World} {xs : List α} {v : Value} (h : OwnRep k R e base w xs v) (hn : xs.length = n) (hne : 0 < n) : ∃ g cap, v = .slice (some ⟨g, 0, none⟩) n cap ∧ base ≤ g ∧ g < w.heap.size ∧ n ≤ cap ∧ cap ≤ 9223372036854775807 := by
  subst hn
  have hlt := h.own_lt
  obtain ⟨css, hl, hr, hrow⟩ := h
  rcases hrow.2 with ⟨_, h0⟩ | ⟨g, cap, cur, rfl, hbg, hg, hcap, hm, hs, ht⟩
  · omega
  · exact ⟨g, cap, rfl, (hlt g rfl).1, (hlt g rfl).2, hcap, by unfold maxLen at hm; omega⟩
theorem cell_grown {w w' : World} {ob : Option Nat} (h : w.grownBy w' ob) {p : Addr} (hb : p.block < w.heap.size) (hne : some p.block ≠ ob) : w'.cell? p = w.cell? p := World.cell?_of_block (w := w) (h.block p.block hb hne)
/-- the first elements of a row of the call's own -/
theorem OwnRep.take_ {α : Type} {k : Nat} {enc : α → List Value} {e : TypeId} {base : Nat} {w : World} {xs : List α} {A : Option Addr} {n c : Nat} (hR : Shape k (flat enc)) (h : OwnRep k (flat enc) e base w xs (.slice A n c)) {i : Nat} (hi : i ≤ xs.length) :
    OwnRep k (flat enc) e base w (xs.take i) (.slice A i c) := by
  have hrow := h.rows
  refine OwnRep.of_rows ?_
  have hl : (xs.take i).length = i := by rw [List.length_take]; omega
  have hfl : ∀ ys : List α, (ys.map enc).flatten.length = ys.length * k := fun ys => flatten_len (w := w) (F := fun _ => True) hR (xs := ys) (by simp) (fun j x cs hx hcs => by rw [List.getElem?_map, hx] at hcs; injection hcs with hcs; exact hcs.symm)
  rcases hrow.2 with ⟨h1, h0⟩ | ⟨g, cap, cur, hv, hbg, hg, hcap, hm, hs, ht⟩
  · injection h1 with e1 e2 e3
    subst e1 e3
    have : xs = [] := List.eq_nil_of_length_eq_zero h0
    subst this
    have : i = 0 := by simpa using hi
    subst this
    exact ⟨by simp, .inl ⟨rfl, by simp⟩⟩
  · injection hv with e1 e2 e3
    subst e1 e3
    refine ⟨by rw [hfl], .inr ⟨g, c, cur, by rw [hl], hbg, hg, by rw [hl]; omega, hm, hs, ?_⟩⟩
    rw [hl]
    have e4 : ((xs.take i).map enc).flatten = ((xs.map enc).flatten).take (i * k) := by
      have e5 : (xs.map enc).flatten = ((xs.take i).map enc).flatten ++ ((xs.drop i).map enc).flatten := by
        rw [← List.flatten_append, ← List.map_append, List.take_append_drop]
      rw [e5, List.take_append_of_le_length (Nat.le_of_eq (by rw [hfl, hl]))]
      exact (List.take_of_length_le (Nat.le_of_eq (by rw [hfl, hl]))).symm
    rw [e4, ← ht, List.take_take]
    congr 1
    have := Nat.mul_le_mul_right k hi
    omega
theorem OwnRep.cases_ {α : Type} {k : Nat} {R : CRep α} {e : TypeId} {base : Nat} {w : World} {xs : List α} {v : Value} (h : OwnRep k R e base w xs v) :
    (v = .slice none 0 0 ∧ xs = []) ∨ ∃ g cap, v = .slice (some ⟨g, 0, none⟩) xs.length cap ∧ base ≤ g ∧ g < w.heap.size ∧ xs.length ≤ cap ∧ cap ≤ 9223372036854775807 := by
  have hlt := h.own_lt
  obtain ⟨css, hl, hr, hrow⟩ := h
  rcases hrow.2 with ⟨h1, h0⟩ | ⟨g, cap, cur, rfl, hbg, hg, hcap, hm, hs, ht⟩
  · exact .inl ⟨h1, List.eq_nil_of_length_eq_zero h0⟩
  · exact .inr ⟨g, cap, rfl, (hlt g rfl).1, (hlt g rfl).2, hcap, by unfold maxLen at hm; omega⟩
theorem SlRep.take_ {α : Type} {k : Nat} {R : CRep α} {w : World} {F : Nat → Prop} {xs : List α} {A : Option Addr} {n c : Nat} (h : SlRep k R w F xs (.slice A n c)) {i : Nat} (hi : i ≤ xs.length) : SlRep k R w F (xs.take i) (.slice A i c) := by
  obtain ⟨A', c', e, h1, h2, h3⟩ := h
  injection e with e1 e2 e3
  subst e1 e2 e3
  have hl : (xs.take i).length = i := by rw [List.length_take]; omega
  refine ⟨A, c, by rw [hl], by omega, h2, fun j x hx => ?_⟩
  have hj := lt_of_at hx
  rw [List.getElem?_take, if_pos (by omega)] at hx
  exact h3 j x hx
end Go.Proofs.YtbmlnflacdockaaGreatDoor
