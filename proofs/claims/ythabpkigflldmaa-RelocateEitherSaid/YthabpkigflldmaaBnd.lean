/- Words for values that lie in known blocks while a region makes memory. -/
import Derived.Test.YthabpkigflldmaaBase
namespace Go.Proofs.Ythabpkigflldmaa
open Go.RowKit

/-- a slice value that reads as a list, in blocks from lo on and ahead of hi, all of them there -/
def Bnd {α : Type} (k : Nat) (R : CRep α) (w : World) (lo hi : Nat) (xs : List α) (v : Value) : Prop := SlRep k R w (fun b => lo ≤ b ∧ b < hi) xs v ∧ hi ≤ w.heap.size
section
variable {α : Type} {k : Nat} {R : CRep α} {W W' : World} {lo hi n : Nat} {xs : List α} {v : Value}
theorem Bnd.of (h : SlRep k R W (fun b => b < W.heap.size) xs v) (hR : Shape k R) : Bnd k R W 0 W.heap.size xs v := ⟨h.monoF hR (fun _ hb => ⟨Nat.zero_le _, hb⟩), Nat.le_refl _⟩
theorem Bnd.ofB (h : SlRep k R W (fun b => b < n) xs v) (hR : Shape k R) (hn : n ≤ W.heap.size) : Bnd k R W 0 n xs v := ⟨h.monoF hR (fun _ hb => ⟨Nat.zero_le _, hb⟩), hn⟩
theorem Bnd.own {enc : α → List Value} {e : TypeId} (h : OwnRep k (flat enc) e n W xs v) (hR : Shape k (flat enc)) : Bnd k (flat enc) W n W.heap.size xs v := ⟨(h.toFlat hR).monoF hR (fun b hb => h.own_lt b hb), Nat.le_refl _⟩
theorem Bnd.call (h : Bnd k R W lo hi xs v) (hR : Shape k R) (hb : Below W.heap.size W W') : Bnd k R W' lo hi xs v :=
  ⟨h.1.frame hR (fun b hl => hb.block b (Nat.lt_of_lt_of_le hl.2 h.2)), Nat.le_trans h.2 hb.size⟩
theorem Bnd.alloc (h : Bnd k R W lo hi xs v) (hR : Shape k R) (o : Obj) : Bnd k R (W.alloc o) lo hi xs v := h.call hR ((Below.refl _ _).alloc (Nat.le_refl _) _)
theorem Bnd.drew (h : Bnd k R W lo hi xs v) (hR : Shape k R) : Bnd k R W.drew lo hi xs v := h.call hR (Below.refl _ _).drew
theorem Bnd.callA {o : Obj} (h : Bnd k R W lo hi xs v) (hR : Shape k R) (hb : Below (W.alloc o).heap.size (W.alloc o) W') : Bnd k R W' lo hi xs v := (h.alloc hR o).call hR hb
theorem Bnd.sl (h : Bnd k R W lo hi xs v) (hR : Shape k R) : SlRep k R W (fun b => b < W.heap.size) xs v := h.1.monoF hR (fun _ hb => Nat.lt_of_lt_of_le hb.2 h.2)
theorem Bnd.two (h : Bnd k R W lo hi xs v) (hR : Shape k R) {g : Nat} (hg : hi ≤ g ∨ g < lo) (a b : Value) : Bnd k R ((W.setCell ⟨g, 0, none⟩ a).setCell ⟨g, 1, none⟩ b) lo hi xs v := by
  refine ⟨h.1.frame hR (fun c hc => ?_), by simpa [World.setCell] using h.2⟩
  have : c ≠ g := by rcases hg with hg | hg <;> omega
  rw [Below.heap_setCell _ _ _ _ this, Below.heap_setCell _ _ _ _ this]
theorem Bnd.one (h : Bnd k R W lo hi xs v) (hR : Shape k R) {g o : Nat} (hg : hi ≤ g ∨ g < lo) (a : Value) : Bnd k R (W.setCell ⟨g, o, none⟩ a) lo hi xs v := by
  refine ⟨h.1.frame hR (fun c hc => ?_), by simpa [World.setCell] using h.2⟩
  have : c ≠ g := by rcases hg with hg | hg <;> omega
  rw [Below.heap_setCell _ _ _ _ this]
end
/-- two cells laid by an alloc, kept by a call -/
theorem bnd_two {W W' : World} {a b : Value} {t : TypeId} (hb : Below (W.alloc (.cells #[a, b] t)).heap.size (W.alloc (.cells #[a, b] t)) W') :
    W'.cell? ⟨W.heap.size, 0, none⟩ = some a ∧ W'.cell? ⟨W.heap.size, 1, none⟩ = some b ∧ W'.frozen? ⟨W.heap.size, 0, none⟩ = false ∧ W'.frozen? ⟨W.heap.size, 1, none⟩ = false ∧ W.heap.size < W'.heap.size :=
  ⟨(hb.cell (p := ⟨W.heap.size, 0, none⟩) (by simp)).trans (by simp), (hb.cell (p := ⟨W.heap.size, 1, none⟩) (by simp)).trans (by simp), (hb.frozen (p := ⟨W.heap.size, 0, none⟩) (by simp)).trans (by simp), (hb.frozen (p := ⟨W.heap.size, 1, none⟩) (by simp)).trans (by simp), by have := hb.size; simp at this; omega⟩
theorem bnd_twoD {W W' : World} {a b : Value} {t : TypeId} (hb : Below (W.alloc (.cells #[a, b] t)).drew.heap.size (W.alloc (.cells #[a, b] t)).drew W') :
    W'.cell? ⟨W.heap.size, 0, none⟩ = some a ∧ W'.cell? ⟨W.heap.size, 1, none⟩ = some b ∧ W'.frozen? ⟨W.heap.size, 0, none⟩ = false ∧ W'.frozen? ⟨W.heap.size, 1, none⟩ = false ∧ W.heap.size < W'.heap.size :=
  bnd_two ((Below.refl _ _).drew.trans hb)
theorem bnd_keep {W W' : World} {g : Nat} {a b : Value} (h : W.cell? ⟨g, 0, none⟩ = some a ∧ W.cell? ⟨g, 1, none⟩ = some b ∧ W.frozen? ⟨g, 0, none⟩ = false ∧ W.frozen? ⟨g, 1, none⟩ = false ∧ g < W.heap.size) (hb : Below W.heap.size W W') :
    W'.cell? ⟨g, 0, none⟩ = some a ∧ W'.cell? ⟨g, 1, none⟩ = some b ∧ W'.frozen? ⟨g, 0, none⟩ = false ∧ W'.frozen? ⟨g, 1, none⟩ = false ∧ g < W'.heap.size :=
  ⟨(hb.cell (p := ⟨g, 0, none⟩) h.2.2.2.2).trans h.1, (hb.cell (p := ⟨g, 1, none⟩) h.2.2.2.2).trans h.2.1, (hb.frozen (p := ⟨g, 0, none⟩) h.2.2.2.2).trans h.2.2.1, (hb.frozen (p := ⟨g, 1, none⟩) h.2.2.2.2).trans h.2.2.2.1, Nat.lt_of_lt_of_le h.2.2.2.2 hb.size⟩
theorem bnd_alloc {B : Nat} {a w : World} (h : Below B a w) (hB : B ≤ a.heap.size) (o : Obj) : Below B a (w.alloc o) := h.alloc (Nat.le_trans hB h.size) o
theorem bnd_call {B : Nat} {a w w' : World} (h : Below B a w) (hB : B ≤ a.heap.size) (hb : Below w.heap.size w w') : Below B a w' := h.trans (hb.mono (Nat.le_trans hB h.size))
theorem bnd_set2 {B g : Nat} {a w : World} {x y : Value} (h : Below B a w) (hg : B ≤ g) : Below B a ((w.setCell ⟨g, 0, none⟩ x).setCell ⟨g, 1, none⟩ y) := (h.setCell hg _).setCell hg _
end Go.Proofs.Ythabpkigflldmaa
