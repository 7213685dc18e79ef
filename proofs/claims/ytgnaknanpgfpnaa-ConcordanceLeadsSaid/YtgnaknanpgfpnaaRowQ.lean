/- More arguments of the statements, opened: an int, a question, a shot by value. -/
import Derived.Test.YtgnaknanpgfpnaaRowK
namespace Go.Proofs.Ytgnaknanpgfpnaa
open Go.ChangeShapes Go.WideShapes Go.ChangeAt Go.RowKit

section
variable {H : Type} {enc : TypeId × Value → H} {w : World} {base : Nat} {spare : Nat → Bool} {held : Bool}
set_option maxRecDepth 100000 in
theorem open_int_ {r : Reach} {b0 : Nat} {v : Value} {d : DataW H} {p : List MemPlace} (hv : Value.okWide Try.prog w r b0 3 v) (h : DataW.Trod enc Try.prog w base spare held 3 v d p) : ∃ n : Int, v = .int .i64 n := by
  obtain ⟨n, rfl, _⟩ := open_int Try.underlying3 hv h
  exact ⟨n, rfl⟩
set_option maxRecDepth 100000 in
theorem open_question {r : Reach} {b0 : Nat} {v : Value} {d : DataW H} {p : List MemPlace} (hv : Value.okWide Try.prog w r b0 42 v) (h : DataW.Trod enc Try.prog w base spare held 42 v d p) :
    ∃ (m : ByteArray) (u day : Int), v = .agg #[.string m, .int .i64 u, .int .i64 day] := by
  obtain ⟨v0, v1, v2, y0, y1, y2, n, rfl, _, _, h0, h1, h2⟩ := Joins.open_agg3 Try.underlying42 (by kernel_rfl) (by kernel_rfl) hv h
  obtain ⟨a0, e0, _⟩ := DataW.trod_string Try.underlying9 h0
  obtain ⟨a1, e1, _⟩ := DataW.trod_int Try.underlying3 h1
  obtain ⟨a2, e2, _⟩ := DataW.trod_int Try.underlying3 h2
  simp at e0 e1 e2
  subst e0 e1 e2
  exact ⟨_, _, _, rfl⟩
set_option maxRecDepth 100000 in
theorem open_shotv {r : Reach} {b0 : Nat} {v : Value} {d : DataW H} {p : List MemPlace} (hv : Value.okWide Try.prog w r b0 61 v) (h : DataW.Trod enc Try.prog w base spare held 61 v d p) :
    ∃ (x : Shot) (u : Value), v = .agg #[.int .i64 x.day, u] ∧ Units w w.heap.size x.units u := by
  obtain ⟨v0, v1, y0, y1, n, rfl, _, _, h0, h1⟩ := Joins.open_agg2 Try.underlying61 (by kernel_rfl) (by kernel_rfl) hv h
  obtain ⟨a0, e0, _⟩ := DataW.trod_int Try.underlying3 h0
  obtain ⟨us, v, e1, hus⟩ := open_sl (R := flat Standing.enc) (k := 5) Try.underlying59 (by kernel_rfl) (by decide) open_standing h1
  simp at e0 e1
  subst e0 e1
  exact ⟨⟨a0, us⟩, _, rfl, hus⟩
end
end Go.Proofs.Ytgnaknanpgfpnaa
