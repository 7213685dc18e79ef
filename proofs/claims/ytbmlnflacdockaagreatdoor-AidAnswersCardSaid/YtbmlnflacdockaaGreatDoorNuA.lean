/- Words for numbered. -/
import Derived.Test.YtbmlnflacdockaaGreatDoorPlE
import Derived.Test.YtbmlnflacdockaaGreatDoorPrJ
namespace Go.Proofs.YtbmlnflacdockaaGreatDoor
open Go.RowKit

abbrev NumMap (w : World) (b : Nat) (f : Int → Option ByteArray) : Prop := MapF w b (fun n : Int => Value.int .i64 n) Value.string f
abbrev KidMap (w : World) (b : Nat) (f : Int → Option Nat) : Prop := MapF w b (fun n : Int => Value.int .i64 n) (fun n : Nat => Value.int .i64 n) f
theorem intKind : KeyKind Tryz.prog 3 (fun n : Int => Value.int .i64 n) := int_kind Tryz.underlying3
theorem zeroInt (w : World) : (zeroValue 3).run Tryz.prog w = .ok (.int .i64 0) w := by kernel_rfl
theorem zeroStr (w : World) : (zeroValue 9).run Tryz.prog w = .ok (.string ⟨#[]⟩) w := by kernel_rfl
/-- nothing turns but three blocks -/
structure Aside (m : Nat) (W W' : World) : Prop where
  size : W.heap.size ≤ W'.heap.size
  same : ∀ b, b < W.heap.size → (b < m ∨ m + 3 ≤ b) → W'.heap[b]? = W.heap[b]?
theorem Aside.refl (m : Nat) (W : World) : Aside m W W := ⟨Nat.le_refl _, fun _ _ _ => rfl⟩
theorem Aside.trans {m : Nat} {W1 W2 W3 : World} (h1 : Aside m W1 W2) (h2 : Aside m W2 W3) : Aside m W1 W3 := ⟨Nat.le_trans h1.size h2.size, fun b hb hm => (h2.same b (Nat.lt_of_lt_of_le hb h1.size) hm).trans (h1.same b hb hm)⟩
theorem Aside.below {m : Nat} {W W' : World} (h : Below W.heap.size W W') : Aside m W W' := ⟨h.size, fun b hb _ => h.block b hb⟩
theorem Aside.grown {m o : Nat} {W W' : World} (h : W.grownBy W' (some o)) (h1 : m ≤ o) (h2 : o < m + 3) : Aside m W W' := ⟨h.size, fun b hb hm => h.block b hb (fun e => by injection e; omega)⟩
section
variable {κ ν : Type} [DecidableEq κ] {P : Program} {w : World} {b : Nat} {kenc : κ → Value} {venc : ν → Value}
theorem look_val {t kt et : TypeId} (hK : KeyKind P kt kenc) (ht : P.underlying t = some (.map kt et)) {z : Value} (hz : (zeroValue et).run P w = .ok z w)
    {f : κ → Option ν} (h : MapF w b kenc venc f) {k : κ} {val : Value} (hval : (match f k with | none => z | some v => venc v) = val) : (Instr.lookup t (.map (some b)) (kenc k) false).run P w = .ok val w := by
  have hrun := run_lookup_at hK ht hz h k false
  rw [hrun, ← hval]
  cases f k <;> rfl
end
theorem subS_size {a : ByteArray} {n : Nat} (h : n < 100) : (subS a n).size ≤ a.size + 3 := by
  unfold subS
  rw [ByteArray.size_append, ByteArray.size_append]
  have := digits_le h
  show a.size + 1 + (digS n).size ≤ a.size + 3
  unfold digS
  omega
theorem secnG_cons (root : Int) (st : Tab) (s : Sheet) (r : List Sheet) : secnG root st (s :: r) = match (secnS root st s).1 s.unit with
    | none => secnG root (secnS root st s) r
    | some n => (s, n) :: secnG root (secnS root st s) r := rfl
end Go.Proofs.YtbmlnflacdockaaGreatDoor
