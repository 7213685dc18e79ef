/- The library's variables that chapter 16 reads: a length, a table, two errors. -/
import Derived.Test.YtenaifmkejmdaaaGreatDoorShelf
import Derived.Test.YtenaifmkejmdaaaGreatDoorSpc
import Derived.Lib.SmallJoins
namespace Go.Proofs.YtenaifmkejmdaaaGreatDoor
open Go.RowKit

structure VarOk (w : World) : Prop where
  len : ∃ m : Int, w.cell? ⟨0, 0, none⟩ = some (.int .i64 m)
  tab : Lib.TabIs Tryz.prog w "internal/strconv.uint64pow10" .u64 Lib.pow10Tab
  syn : ∃ ev, w.cell? ⟨1, 0, none⟩ = some ev ∧ (ev = .nilIface ∨ ∃ te pe, ev = .iface te pe)
  rng : ∃ ev, w.cell? ⟨2, 0, none⟩ = some ev ∧ (ev = .nilIface ∨ ∃ te pe, ev = .iface te pe)
theorem cell_kept_ {w w' : World} {a : Addr} {u : Value} (hb : Below w.heap.size w w') (h : w.cell? a = some u) : w'.cell? a = some u :=
  (hb.cell (p := a) (World.block_lt_of_cell? w a h)).trans h
theorem VarOk.below {w w' : World} (h : VarOk w) (hb : Below w.heap.size w w') : VarOk w' := by
  obtain ⟨⟨m, h1⟩, h2, ⟨e1, h3, h4⟩, ⟨e2, h5, h6⟩⟩ := h
  exact ⟨⟨m, cell_kept_ hb h1⟩, Go.Joins.tab_stays (g := 3) (by kernel_rfl) h2 hb (Nat.le_refl _), ⟨e1, cell_kept_ hb h3, h4⟩, ⟨e2, cell_kept_ hb h5, h6⟩⟩
end Go.Proofs.YtenaifmkejmdaaaGreatDoor
