/- An append inside a region that draws its order. -/
import Derived.Test.YthbccfchjgihgaaGreatDoorBase
namespace Go.Proofs.YthbccfchjgihgaaGreatDoor
open Go.RowKit
section
variable {α : Type} {k : Nat} {R : CRep α} {w : World} {F : Nat → Prop} {xs : List α} {v : Value}
theorem step_append_rep {P : Program} {ops : Array Oper} {o : Oper} {a : Act} {K : Act → World → Prop} {Q : Exit → Act → World → Prop} {E : Prop} (hgd : o.guard = none) (hR : Shape k R) {t e : TypeId} {bytes : Nat} (hE : Elem P t e k bytes) (base : Nat) (s x : Operand)
    (ho : o.op = .call { callee := .builtin .append, args := #[s, x], argTypes := #[t, t] }) {ys : List α}
    (hs : a.eval s = v) (hown : OwnRep k R e base w xs v) {A : Option Addr} {m c : Nat} (hx : a.eval x = .slice A m c) (hsrc : SlRep k R w F ys (.slice A m c)) (hF : ∀ b, F b → b < w.heap.size ∧ v.ownBlock ≠ some b)
    (hn : xs.length + ys.length ≤ 4294967296) (hby : bytes ≤ 4096) (hbase : base ≤ w.heap.size)
    (h : ∀ v' w', OwnRep k R e base w' (xs ++ ys) v' → w.grownBy w' v.ownBlock → (v'.ownBlock = v.ownBlock ∨ v'.ownBlock = some w.heap.size) → K (a.put o.dst v') w') :
    if Region.wanted o (yielded ops a.tmps) = true then Oper.wp P o a w K Q else E := by
  have hw : Region.wanted o (yielded ops a.tmps) = true := by simp [Region.wanted, hgd]
  rw [if_pos hw]
  exact wp_append_rep hR hE base s x ho hs hown hx hsrc hF hn hby hbase h
end
end Go.Proofs.YthbccfchjgihgaaGreatDoor
