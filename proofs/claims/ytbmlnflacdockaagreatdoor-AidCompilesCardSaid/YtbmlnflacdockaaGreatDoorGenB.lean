/- A row without room, its block known whole. -/
import Derived.Test.YtbmlnflacdockaaGreatDoorGen
namespace Go.Proofs.YtbmlnflacdockaaGreatDoor
open Go.RowKit

/-- a row without room: its block known whole -/
theorem OwnRep.full {α : Type} {k : Nat} {enc : α → List Value} {e : TypeId} {base g n : Nat} {w : World} {xs : List α} (hR : Shape k (flat enc)) (h : OwnRep k (flat enc) e base w xs (.slice (some ⟨g, 0, none⟩) n n)) : n = xs.length ∧ w.heap[g]? = some (.cells (xs.map enc).flatten.toArray e (0, 0)) := by
  have hn : n = xs.length := h.len_pos hR
  have hrow := h.rows
  refine ⟨hn, ?_⟩
  have hfl : (xs.map enc).flatten.length = xs.length * k := flatten_len (w := w) (F := fun _ => True) hR (xs := xs) (by simp) (fun j x cs hx hcs => by rw [List.getElem?_map, hx] at hcs; injection hcs with hcs; exact hcs.symm)
  rcases hrow.2 with ⟨h1, h0⟩ | ⟨g', cap', cur, hv, hbg, hg, hcap, hm, hs, ht⟩
  · cases h1
  · injection hv with e1 e2 e3
    injection e1 with e1
    injection e1 with e1
    subst e1 e3
    rw [hg]
    congr 2
    apply Array.ext'
    rw [List.toList_toArray, ← ht]
    symm
    apply List.take_of_length_le
    rw [Array.length_toList, hs, hn]
    exact Nat.le_refl _
theorem OwnRep.of_full {α : Type} {k : Nat} {enc : α → List Value} {e : TypeId} {base g n : Nat} {w : World} {xs : List α} (hR : Shape k (flat enc)) (hn : n = xs.length) (hm : n ≤ maxLen) (hb : base ≤ g) (h : w.heap[g]? = some (.cells (xs.map enc).flatten.toArray e (0, 0))) : OwnRep k (flat enc) e base w xs (.slice (some ⟨g, 0, none⟩) n n) := by
  subst hn
  have hfl : (xs.map enc).flatten.length = xs.length * k := flatten_len (w := w) (F := fun _ => True) hR (xs := xs) (by simp) (fun j x cs hx hcs => by rw [List.getElem?_map, hx] at hcs; injection hcs with hcs; exact hcs.symm)
  exact OwnRep.of_rows ⟨hfl, .inr ⟨g, xs.length, _, rfl, hb, h, Nat.le_refl _, hm, by simpa using hfl, by rw [List.toList_toArray]; exact List.take_of_length_le (by rw [hfl]; exact Nat.le_refl _)⟩⟩
end Go.Proofs.YtbmlnflacdockaaGreatDoor
