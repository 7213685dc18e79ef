/- A struct stored over a struct, cell by cell (written by gen_put.py). -/
import Derived.Test.YtenaifmkejmdaaaGreatDoorRd
namespace Go.Proofs.YtenaifmkejmdaaaGreatDoor
open Go.RowKit

abbrev bE : ByteArray := ⟨#[]⟩
theorem put_at {W : World} {b : Nat} {cs : Array Value} {t : TypeId} {fz : Nat × Nat} (h : W.heap[b]? = some (.cells cs t fz)) (j : Nat) (u : Value) (cs' : Array Value) (hc : cs.setIfInBounds j u = cs') : (W.setCell ⟨b, j, none⟩ u).heap[b]? = some (.cells cs' t fz) := by
  subst hc
  simp [World.setCell, Array.getElem?_modify, h]
abbrev pI0 (W : World) (_ : Nat) (_ : Item) : World := W
abbrev pI1 (W : World) (b : Nat) (x : Item) : World := (pI0 W b x).setCell ⟨b, 0, none⟩ (.int .i64 x.number)
abbrev pI2 (W : World) (b : Nat) (x : Item) : World := (pI1 W b x).setCell ⟨b, 1, none⟩ (.int .i64 x.file)
abbrev pI3 (W : World) (b : Nat) (x : Item) : World := (pI2 W b x).setCell ⟨b, 2, none⟩ (.string x.title)
abbrev pI4 (W : World) (b : Nat) (x : Item) : World := (pI3 W b x).setCell ⟨b, 3, none⟩ (.int .i64 x.first)
abbrev pI5 (W : World) (b : Nat) (x : Item) : World := (pI4 W b x).setCell ⟨b, 4, none⟩ (.int .i64 x.last)
abbrev pI6 (W : World) (b : Nat) (x : Item) : World := (pI5 W b x).setCell ⟨b, 5, none⟩ (.int .i64 x.pages)
abbrev pI7 (W : World) (b : Nat) (x : Item) : World := (pI6 W b x).setCell ⟨b, 6, none⟩ (.string x.digest)
theorem pI0_at {W : World} {b : Nat} {y : Item} (x : Item) (h : W.heap[b]? = some (.cells #[.int .i64 y.number, .int .i64 y.file, .string y.title, .int .i64 y.first, .int .i64 y.last, .int .i64 y.pages, .string y.digest] 47 (0, 0))) : (pI0 W b x).heap[b]? = some (.cells #[.int .i64 y.number, .int .i64 y.file, .string y.title, .int .i64 y.first, .int .i64 y.last, .int .i64 y.pages, .string y.digest] 47 (0, 0)) := by
  exact h
theorem pI1_at {W : World} {b : Nat} {y : Item} (x : Item) (h : W.heap[b]? = some (.cells #[.int .i64 y.number, .int .i64 y.file, .string y.title, .int .i64 y.first, .int .i64 y.last, .int .i64 y.pages, .string y.digest] 47 (0, 0))) : (pI1 W b x).heap[b]? = some (.cells #[.int .i64 x.number, .int .i64 y.file, .string y.title, .int .i64 y.first, .int .i64 y.last, .int .i64 y.pages, .string y.digest] 47 (0, 0)) := by
  have h0 := pI0_at x h
  exact put_at h0 0 _ _ rfl
theorem pI2_at {W : World} {b : Nat} {y : Item} (x : Item) (h : W.heap[b]? = some (.cells #[.int .i64 y.number, .int .i64 y.file, .string y.title, .int .i64 y.first, .int .i64 y.last, .int .i64 y.pages, .string y.digest] 47 (0, 0))) : (pI2 W b x).heap[b]? = some (.cells #[.int .i64 x.number, .int .i64 x.file, .string y.title, .int .i64 y.first, .int .i64 y.last, .int .i64 y.pages, .string y.digest] 47 (0, 0)) := by
  have h0 := pI1_at x h
  exact put_at h0 1 _ _ rfl
theorem pI3_at {W : World} {b : Nat} {y : Item} (x : Item) (h : W.heap[b]? = some (.cells #[.int .i64 y.number, .int .i64 y.file, .string y.title, .int .i64 y.first, .int .i64 y.last, .int .i64 y.pages, .string y.digest] 47 (0, 0))) : (pI3 W b x).heap[b]? = some (.cells #[.int .i64 x.number, .int .i64 x.file, .string x.title, .int .i64 y.first, .int .i64 y.last, .int .i64 y.pages, .string y.digest] 47 (0, 0)) := by
  have h0 := pI2_at x h
  exact put_at h0 2 _ _ rfl
theorem pI4_at {W : World} {b : Nat} {y : Item} (x : Item) (h : W.heap[b]? = some (.cells #[.int .i64 y.number, .int .i64 y.file, .string y.title, .int .i64 y.first, .int .i64 y.last, .int .i64 y.pages, .string y.digest] 47 (0, 0))) : (pI4 W b x).heap[b]? = some (.cells #[.int .i64 x.number, .int .i64 x.file, .string x.title, .int .i64 x.first, .int .i64 y.last, .int .i64 y.pages, .string y.digest] 47 (0, 0)) := by
  have h0 := pI3_at x h
  exact put_at h0 3 _ _ rfl
theorem pI5_at {W : World} {b : Nat} {y : Item} (x : Item) (h : W.heap[b]? = some (.cells #[.int .i64 y.number, .int .i64 y.file, .string y.title, .int .i64 y.first, .int .i64 y.last, .int .i64 y.pages, .string y.digest] 47 (0, 0))) : (pI5 W b x).heap[b]? = some (.cells #[.int .i64 x.number, .int .i64 x.file, .string x.title, .int .i64 x.first, .int .i64 x.last, .int .i64 y.pages, .string y.digest] 47 (0, 0)) := by
  have h0 := pI4_at x h
  exact put_at h0 4 _ _ rfl
theorem pI6_at {W : World} {b : Nat} {y : Item} (x : Item) (h : W.heap[b]? = some (.cells #[.int .i64 y.number, .int .i64 y.file, .string y.title, .int .i64 y.first, .int .i64 y.last, .int .i64 y.pages, .string y.digest] 47 (0, 0))) : (pI6 W b x).heap[b]? = some (.cells #[.int .i64 x.number, .int .i64 x.file, .string x.title, .int .i64 x.first, .int .i64 x.last, .int .i64 x.pages, .string y.digest] 47 (0, 0)) := by
  have h0 := pI5_at x h
  exact put_at h0 5 _ _ rfl
theorem pI7_at {W : World} {b : Nat} {y : Item} (x : Item) (h : W.heap[b]? = some (.cells #[.int .i64 y.number, .int .i64 y.file, .string y.title, .int .i64 y.first, .int .i64 y.last, .int .i64 y.pages, .string y.digest] 47 (0, 0))) : (pI7 W b x).heap[b]? = some (.cells #[.int .i64 x.number, .int .i64 x.file, .string x.title, .int .i64 x.first, .int .i64 x.last, .int .i64 x.pages, .string x.digest] 47 (0, 0)) := by
  have h0 := pI6_at x h
  exact put_at h0 6 _ _ rfl
theorem pI_facts {W : World} {b : Nat} {y : Item} (x : Item) (h : W.heap[b]? = some (.cells #[.int .i64 y.number, .int .i64 y.file, .string y.title, .int .i64 y.first, .int .i64 y.last, .int .i64 y.pages, .string y.digest] 47 (0, 0))) : ((pI0 W b x).cell? ⟨b, 0, none⟩ = some (.int .i64 y.number) ∧ (pI0 W b x).frozen? ⟨b, 0, none⟩ = false ∧ (pI1 W b x).cell? ⟨b, 1, none⟩ = some (.int .i64 y.file) ∧ (pI1 W b x).frozen? ⟨b, 1, none⟩ = false ∧ (pI2 W b x).cell? ⟨b, 2, none⟩ = some (.string y.title) ∧ (pI2 W b x).frozen? ⟨b, 2, none⟩ = false ∧ (pI3 W b x).cell? ⟨b, 3, none⟩ = some (.int .i64 y.first) ∧ (pI3 W b x).frozen? ⟨b, 3, none⟩ = false ∧ (pI4 W b x).cell? ⟨b, 4, none⟩ = some (.int .i64 y.last) ∧ (pI4 W b x).frozen? ⟨b, 4, none⟩ = false ∧ (pI5 W b x).cell? ⟨b, 5, none⟩ = some (.int .i64 y.pages) ∧ (pI5 W b x).frozen? ⟨b, 5, none⟩ = false ∧ (pI6 W b x).cell? ⟨b, 6, none⟩ = some (.string y.digest) ∧ (pI6 W b x).frozen? ⟨b, 6, none⟩ = false) ∧ ((pI7 W b x).cell? ⟨b, 0, none⟩ = some (.int .i64 x.number) ∧ (pI7 W b x).cell? ⟨b, 1, none⟩ = some (.int .i64 x.file) ∧ (pI7 W b x).cell? ⟨b, 2, none⟩ = some (.string x.title) ∧ (pI7 W b x).cell? ⟨b, 3, none⟩ = some (.int .i64 x.first) ∧ (pI7 W b x).cell? ⟨b, 4, none⟩ = some (.int .i64 x.last) ∧ (pI7 W b x).cell? ⟨b, 5, none⟩ = some (.int .i64 x.pages) ∧ (pI7 W b x).cell? ⟨b, 6, none⟩ = some (.string x.digest)) :=
  ⟨⟨by rw [Lib.cell_of_heap (pI0_at x h)]; rfl, Lib.frozen_of_heap (pI0_at x h) 0, by rw [Lib.cell_of_heap (pI1_at x h)]; rfl, Lib.frozen_of_heap (pI1_at x h) 1, by rw [Lib.cell_of_heap (pI2_at x h)]; rfl, Lib.frozen_of_heap (pI2_at x h) 2, by rw [Lib.cell_of_heap (pI3_at x h)]; rfl, Lib.frozen_of_heap (pI3_at x h) 3, by rw [Lib.cell_of_heap (pI4_at x h)]; rfl, Lib.frozen_of_heap (pI4_at x h) 4, by rw [Lib.cell_of_heap (pI5_at x h)]; rfl, Lib.frozen_of_heap (pI5_at x h) 5, by rw [Lib.cell_of_heap (pI6_at x h)]; rfl, Lib.frozen_of_heap (pI6_at x h) 6⟩, by rw [Lib.cell_of_heap (pI7_at x h)]; rfl, by rw [Lib.cell_of_heap (pI7_at x h)]; rfl, by rw [Lib.cell_of_heap (pI7_at x h)]; rfl, by rw [Lib.cell_of_heap (pI7_at x h)]; rfl, by rw [Lib.cell_of_heap (pI7_at x h)]; rfl, by rw [Lib.cell_of_heap (pI7_at x h)]; rfl, by rw [Lib.cell_of_heap (pI7_at x h)]; rfl⟩
theorem pI_below {B : Nat} {w W : World} {b : Nat} (x : Item) (h : Below B w W) (hb : B ≤ b) : Below B w (pI7 W b x) := (((((((h.setCell (p := ⟨b, 0, none⟩) hb _).setCell (p := ⟨b, 1, none⟩) hb _).setCell (p := ⟨b, 2, none⟩) hb _).setCell (p := ⟨b, 3, none⟩) hb _).setCell (p := ⟨b, 4, none⟩) hb _).setCell (p := ⟨b, 5, none⟩) hb _).setCell (p := ⟨b, 6, none⟩) hb _)
theorem pI_off {W : World} {b k : Nat} (x : Item) (hk : k ≠ b) : (pI7 W b x).heap[k]? = W.heap[k]? := by
  unfold pI7 pI6 pI5 pI4 pI3 pI2 pI1 pI0
  rw [Below.heap_setCell _ _ _ _ hk, Below.heap_setCell _ _ _ _ hk, Below.heap_setCell _ _ _ _ hk, Below.heap_setCell _ _ _ _ hk, Below.heap_setCell _ _ _ _ hk, Below.heap_setCell _ _ _ _ hk, Below.heap_setCell _ _ _ _ hk]
abbrev pT0 (W : World) (_ : Nat) (_ : TL) (_ : Value) : World := W
abbrev pT1 (W : World) (b : Nat) (x : TL) (v : Value) : World := (pT0 W b x v).setCell ⟨b, 0, none⟩ (.int .i64 x.id)
abbrev pT2 (W : World) (b : Nat) (x : TL) (v : Value) : World := (pT1 W b x v).setCell ⟨b, 1, none⟩ (.int .i64 x.office)
abbrev pT3 (W : World) (b : Nat) (x : TL) (v : Value) : World := (pT2 W b x v).setCell ⟨b, 2, none⟩ (.int .i64 x.day)
abbrev pT4 (W : World) (b : Nat) (x : TL) (v : Value) : World := (pT3 W b x v).setCell ⟨b, 3, none⟩ (v)
theorem pT0_at {W : World} {b : Nat} {y : TL} {u : Value} (x : TL) (v : Value) (h : W.heap[b]? = some (.cells #[.int .i64 y.id, .int .i64 y.office, .int .i64 y.day, u] 24 (0, 0))) : (pT0 W b x v).heap[b]? = some (.cells #[.int .i64 y.id, .int .i64 y.office, .int .i64 y.day, u] 24 (0, 0)) := by
  exact h
theorem pT1_at {W : World} {b : Nat} {y : TL} {u : Value} (x : TL) (v : Value) (h : W.heap[b]? = some (.cells #[.int .i64 y.id, .int .i64 y.office, .int .i64 y.day, u] 24 (0, 0))) : (pT1 W b x v).heap[b]? = some (.cells #[.int .i64 x.id, .int .i64 y.office, .int .i64 y.day, u] 24 (0, 0)) := by
  have h0 := pT0_at x v h
  exact put_at h0 0 _ _ rfl
theorem pT2_at {W : World} {b : Nat} {y : TL} {u : Value} (x : TL) (v : Value) (h : W.heap[b]? = some (.cells #[.int .i64 y.id, .int .i64 y.office, .int .i64 y.day, u] 24 (0, 0))) : (pT2 W b x v).heap[b]? = some (.cells #[.int .i64 x.id, .int .i64 x.office, .int .i64 y.day, u] 24 (0, 0)) := by
  have h0 := pT1_at x v h
  exact put_at h0 1 _ _ rfl
theorem pT3_at {W : World} {b : Nat} {y : TL} {u : Value} (x : TL) (v : Value) (h : W.heap[b]? = some (.cells #[.int .i64 y.id, .int .i64 y.office, .int .i64 y.day, u] 24 (0, 0))) : (pT3 W b x v).heap[b]? = some (.cells #[.int .i64 x.id, .int .i64 x.office, .int .i64 x.day, u] 24 (0, 0)) := by
  have h0 := pT2_at x v h
  exact put_at h0 2 _ _ rfl
theorem pT4_at {W : World} {b : Nat} {y : TL} {u : Value} (x : TL) (v : Value) (h : W.heap[b]? = some (.cells #[.int .i64 y.id, .int .i64 y.office, .int .i64 y.day, u] 24 (0, 0))) : (pT4 W b x v).heap[b]? = some (.cells #[.int .i64 x.id, .int .i64 x.office, .int .i64 x.day, v] 24 (0, 0)) := by
  have h0 := pT3_at x v h
  exact put_at h0 3 _ _ rfl
theorem pT_facts {W : World} {b : Nat} {y : TL} {u : Value} (x : TL) (v : Value) (h : W.heap[b]? = some (.cells #[.int .i64 y.id, .int .i64 y.office, .int .i64 y.day, u] 24 (0, 0))) : ((pT0 W b x v).cell? ⟨b, 0, none⟩ = some (.int .i64 y.id) ∧ (pT0 W b x v).frozen? ⟨b, 0, none⟩ = false ∧ (pT1 W b x v).cell? ⟨b, 1, none⟩ = some (.int .i64 y.office) ∧ (pT1 W b x v).frozen? ⟨b, 1, none⟩ = false ∧ (pT2 W b x v).cell? ⟨b, 2, none⟩ = some (.int .i64 y.day) ∧ (pT2 W b x v).frozen? ⟨b, 2, none⟩ = false ∧ (pT3 W b x v).cell? ⟨b, 3, none⟩ = some (u) ∧ (pT3 W b x v).frozen? ⟨b, 3, none⟩ = false) ∧ ((pT4 W b x v).cell? ⟨b, 0, none⟩ = some (.int .i64 x.id) ∧ (pT4 W b x v).cell? ⟨b, 1, none⟩ = some (.int .i64 x.office) ∧ (pT4 W b x v).cell? ⟨b, 2, none⟩ = some (.int .i64 x.day) ∧ (pT4 W b x v).cell? ⟨b, 3, none⟩ = some (v)) :=
  ⟨⟨by rw [Lib.cell_of_heap (pT0_at x v h)]; rfl, Lib.frozen_of_heap (pT0_at x v h) 0, by rw [Lib.cell_of_heap (pT1_at x v h)]; rfl, Lib.frozen_of_heap (pT1_at x v h) 1, by rw [Lib.cell_of_heap (pT2_at x v h)]; rfl, Lib.frozen_of_heap (pT2_at x v h) 2, by rw [Lib.cell_of_heap (pT3_at x v h)]; rfl, Lib.frozen_of_heap (pT3_at x v h) 3⟩, by rw [Lib.cell_of_heap (pT4_at x v h)]; rfl, by rw [Lib.cell_of_heap (pT4_at x v h)]; rfl, by rw [Lib.cell_of_heap (pT4_at x v h)]; rfl, by rw [Lib.cell_of_heap (pT4_at x v h)]; rfl⟩
theorem pT_below {B : Nat} {w W : World} {b : Nat} (x : TL) (v : Value) (h : Below B w W) (hb : B ≤ b) : Below B w (pT4 W b x v) := ((((h.setCell (p := ⟨b, 0, none⟩) hb _).setCell (p := ⟨b, 1, none⟩) hb _).setCell (p := ⟨b, 2, none⟩) hb _).setCell (p := ⟨b, 3, none⟩) hb _)
theorem pT_off {W : World} {b k : Nat} (x : TL) (v : Value) (hk : k ≠ b) : (pT4 W b x v).heap[k]? = W.heap[k]? := by
  unfold pT4 pT3 pT2 pT1 pT0
  rw [Below.heap_setCell _ _ _ _ hk, Below.heap_setCell _ _ _ _ hk, Below.heap_setCell _ _ _ _ hk, Below.heap_setCell _ _ _ _ hk]
end Go.Proofs.YtenaifmkejmdaaaGreatDoor
