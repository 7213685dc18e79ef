/- Words for a range over a function: what stays where blocks that are no cells turn. -/
import Derived.Test.YtenaifmkejmdaaaGreatDoorIdI
import Derived.Test.YtenaifmkejmdaaaGreatDoorStep
import Derived.RangeFuncNested
import Derived.RangeFuncBound
import Derived.RangeFuncCalls
import Derived.RangeFuncLeaves
import Derived.RangeFuncBox
import Derived.Shelf.Abstract
import Derived.Shelf.RegionOpen
import Derived.OwnWalkIn
import Derived.TacticsInMore
import Derived.LoopNIn
import Derived.LoopIn
namespace Go.Proofs.YtenaifmkejmdaaaGreatDoor
open Go.RowKit Go.Shelf

theorem cells_of {w : World} {a : Addr} {u : Value} (h : w.cell? a = some u) : ∃ o, w.heap[a.block]? = some o ∧ o.isCells = true := by
  unfold World.cell? at h
  cases hb : w.heap[a.block]? with
  | none => simp [hb] at h
  | some o =>
    refine ⟨o, rfl, ?_⟩
    cases o <;> simp [hb] at h <;> rfl
def SameC (w w' : World) : Prop := ∀ (b : Nat) (o : Obj), w.heap[b]? = some o → o.isCells = true → w'.heap[b]? = w.heap[b]?
theorem SameC.cell {w w' : World} (hs : SameC w w') {a : Addr} {u : Value} (h : w.cell? a = some u) : w'.cell? a = some u := by
  obtain ⟨o, ho, hc⟩ := cells_of h
  exact (World.cell?_of_block (hs a.block o ho hc)).trans h
structure ShapeC {α : Type} (R : CRep α) : Prop where
  frameC : ∀ {w w' : World} {F : Nat → Prop} {x : α} {cs : List Value}, SameC w w' → R w F x cs → R w' F x cs
section
variable {α : Type} {k : Nat} {R : CRep α} {w w' : World} {F : Nat → Prop} {xs : List α} {v : Value}
theorem SlRep.frameC (hR : ShapeC R) (hs : SameC w w') (h : SlRep k R w F xs v) : SlRep k R w' F xs v := by
  obtain ⟨A, c, e, h1, h2, h3⟩ := h
  refine ⟨A, c, e, h1, h2, fun i x hx => ?_⟩
  obtain ⟨b, off, cs, hA, hlt, hr, hc⟩ := h3 i x hx
  exact ⟨b, off, cs, hA, hlt, hR.frameC hs hr, fun j u hu => hs.cell (hc j u hu)⟩
theorem OwnRep.frameC (hR : Shape k R) (hC : ShapeC R) {e : TypeId} {base : Nat} (hs : SameC w w') (hz : w.heap.size ≤ w'.heap.size) (h : OwnRep k R e base w xs v) : OwnRep k R e base w' xs v := by
  obtain ⟨css, hl, hr, hown⟩ := h
  refine ⟨css, hl, fun i x cs hx hcs => hR.mono (fun b hb => ⟨Nat.lt_of_lt_of_le hb.1 hz, hb.2⟩) (hC.frameC hs (hr i x cs hx hcs)), ownsRow_frame hown fun b hb => ?_⟩
  rcases hown.2 with ⟨rfl, _⟩ | ⟨g, cap, cur, rfl, _, hg, _⟩
  · cases hb
  · cases hb
    exact hs g _ hg rfl
end
theorem flatC {α : Type} (enc : α → List Value) : ShapeC (flat enc) := ⟨fun _ h => h⟩
theorem sameC_grown {W W' : World} {row : Option Nat} (hg : W.grownBy W' row) (hr : ∀ r, row = some r → ∃ o : Obj, W.heap[r]? = some o ∧ o.isCells = false) : SameC W W' := by
  intro b o ho hc
  refine hg.block b (Array.getElem?_eq_some_iff.1 ho).1 (fun e => ?_)
  obtain ⟨o', ho', hc'⟩ := hr b e.symm
  rw [ho] at ho'
  injection ho' with ho'
  subst ho'
  rw [hc] at hc'
  cases hc'
/-- a variable in a box that holds a row of the call's own -/
def RowBox {α β : Type} (k : Nat) (R : CRep α) (e t : TypeId) (base g : Nat) (f : List β → List α) (pre : List β) (W : World) : Prop := ∃ v, Boxed W g t v ∧ OwnRep k R e base W (f pre) v ∧ v.ownBlock ≠ some g
theorem rowBox_own {α β : Type} {k : Nat} {R : CRep α} (hR : Shape k R) (hC : ShapeC R) (e t : TypeId) (base g : Nat) (f : List β → List α) : Own (RowBox k R e t base g f) := by
  rintro pre W W' row ⟨v, h1, h2, h3⟩ hg hr
  have hs := sameC_grown hg hr
  exact ⟨v, (hs g _ h1 rfl).trans h1, h2.frameC hR hC hs hg.size, h3⟩
section
variable {α : Type} {k : Nat} {R : CRep α} {w : World} {F : Nat → Prop} {xs : List α} {v : Value}
theorem wpListIn_append_rep {Fe : Fence} {n : Nat} {P : Program} {ops : Array Oper} {rest : List Oper} {o : Oper} {a : Act} {Q : Exit → Act → World → Prop} (hgd : o.guard = none) (hR : Shape k R) {t e : TypeId} {bytes : Nat} (hE : Elem P t e k bytes) (base : Nat) (s x : Operand)
    (ho : o.op = .call { callee := .builtin .append, args := #[s, x], argTypes := #[t, t] }) {ys : List α}
    (hs : a.eval s = v) (hown : OwnRep k R e base w xs v) {A : Option Addr} {m c : Nat} (hx : a.eval x = .slice A m c) (hsrc : SlRep k R w F ys (.slice A m c)) (hF : ∀ b, F b → b < w.heap.size ∧ v.ownBlock ≠ some b)
    (hn : xs.length + ys.length ≤ 4294967296) (hby : bytes ≤ 4096) (hbase : base ≤ w.heap.size)
    (h : ∀ v' w', OwnRep k R e base w' (xs ++ ys) v' → w.grownBy w' v.ownBlock → (v'.ownBlock = v.ownBlock ∨ v'.ownBlock = some w.heap.size) → wpListIn Fe n P ops Q rest (a.put o.dst v') w') : wpListIn Fe n P ops Q (o :: rest) a w := by
  refine wpListIn_plain hgd fun K hK' => ?_
  obtain ⟨v', w', hrun, r1, r2, r3⟩ := run_append_rep (P := P) hR hE base o.type hown hsrc hF hn hby hbase
  unfold Oper.wpIn
  refine ⟨?_, ?_⟩
  · simp [Oper.about, ho, resolve, Target.leads, Sem.run_pure]
  · rw [Oper.semAt_plain Fe _ _ (by rw [ho]; intro c hc'; cases hc')]
    simp [execOp, ho, resolve, invoke, builtin, hs, hx, hrun, Result.andThen]
    exact hK' _ _ (h v' w' r1 r2 r3)
end
theorem box_set {W : World} {g : Nat} {t : TypeId} {v v' : Value} (h : Boxed W g t v) : Boxed (W.setCell ⟨g, 0, none⟩ v') g t v' := by
  unfold Boxed at *
  simp [World.setCell, Array.getElem?_modify, h]
theorem box_keep {W W' : World} {g : Nat} {t : TypeId} {v : Value} (h : Boxed W g t v) (hb : W'.heap[g]? = W.heap[g]?) : Boxed W' g t v := hb.trans h
end Go.Proofs.YtenaifmkejmdaaaGreatDoor
