/- The library's variables that chapter 19 reads: a length, a table. -/
import Derived.Test.YthbccfchjgihgaaGreatDoorShelf
import Derived.Test.YthbccfchjgihgaaGreatDoorRes
import Derived.Lib.SmallJoins
namespace Go.Proofs.YthbccfchjgihgaaGreatDoor
open Go.RowKit

structure VarOk (w : World) : Prop where
  len : ∃ m : Int, w.cell? ⟨0, 0, none⟩ = some (.int .i64 m)
  tab : Lib.TabIs Tryz.prog w "internal/strconv.uint64pow10" .u64 Lib.pow10Tab
theorem cell_kept_ {w w' : World} {a : Addr} {u : Value} (hb : Below w.heap.size w w') (h : w.cell? a = some u) : w'.cell? a = some u :=
  (hb.cell (p := a) (World.block_lt_of_cell? w a h)).trans h
theorem VarOk.below {w w' : World} (h : VarOk w) (hb : Below w.heap.size w w') : VarOk w' := by
  obtain ⟨⟨m, h1⟩, h2⟩ := h
  exact ⟨⟨m, cell_kept_ hb h1⟩, Go.Joins.tab_stays (g := 3) (by kernel_rfl) h2 hb (Nat.le_refl _)⟩
end Go.Proofs.YthbccfchjgihgaaGreatDoor
