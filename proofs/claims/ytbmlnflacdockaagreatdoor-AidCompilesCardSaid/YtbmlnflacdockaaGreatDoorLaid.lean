/- What the listed variables give: the error variable that the library hands on is a nil or an error; and the heap that the door's run leaves. -/
import Derived.Test.YtbmlnflacdockaaGreatDoorOpen
import Derived.Test.YtbmlnflacdockaaGreatDoorPrM
import Derived.Test.YtbmlnflacdockaaGreatDoorRowK
import Derived.LaidMore
import Derived.LaidLaws
import Derived.MakeChecks
import Derived.Stop.LaidErr
import Derived.Stop.Joined
namespace Go.Proofs.YtbmlnflacdockaaGreatDoor
open Go.ChangeShapes Go.WideShapes Go.ChangeAt Go.RowKit

abbrev laidL : List (String × DataW Unit) := [("math/bits.deBruijn32tab", Rows.laid_math_bits_deBruijn32tab), ("math/bits.deBruijn64tab", Rows.laid_math_bits_deBruijn64tab), ("internal/strconv.uint64pow10", Rows.laid_internal_strconv_uint64pow10), ("strconv.ErrRange", Rows.laid_strconv_ErrRange), ("strconv.ErrSyntax", Rows.laid_strconv_ErrSyntax)]
theorem gSyn : Tryz.prog.globalNamed "strconv.ErrSyntax" = some 2 := by kernel_rfl
theorem tSyn : (Tryz.prog.globals[2]?).map (·.type) = some 109 := by kernel_rfl
theorem starS : ("*errors.errorString" : String) = "*" ++ "errors.errorString" := by decide
theorem rowE (u : TypeId) (h : Tryz.prog.typeName? 3 u = some "*errors.errorString") : u = 150 :=
  typeName_ptr_named (nm := "errors.errorString") (by rw [← starS]; kernel_rfl) (by kernel_rfl) (by decide) u (by rw [← starS]; exact h)
theorem syn_of_laid {W : World} (h : laidMetH Tryz.prog laidL W) : SynOk W := by
  rw [MakeChecks.laidMetH_plain _ _ _ (by kernel_rfl)] at h
  obtain ⟨a, s, hv, _, _, _⟩ := laid_sentinel h.tail.tail.tail.tail gSyn tSyn Tryz.underlying109 rowE Tryz.underlying150 Tryz.underlying152 rfl rfl Tryz.underlying9 (by kernel_rfl) (by kernel_rfl)
  have hc := World.var?_cell gSyn hv 0
  have hc' : W.cell? ⟨2, 0, none⟩ = some (.iface 150 (.pointer (some a))) := by simpa using hc
  exact ⟨World.block_lt_of_cell? W ⟨2, 0, none⟩ hc', _, hc', .inr ⟨_, _, rfl⟩⟩
/-- The door's own heap meets the condition. -/
theorem door_met (os : Os) (args : Array Value) : laidMetH Tryz.prog laidL ((World.doorLaid Tryz.prog 62 os).forCall (fun _ _ => 0) ⟨#[], args, []⟩).memory :=
  laidMetH_of_parts3 (fuel := 8) (laidMet_of_run' 8 (by kernel_rfl) (by kernel_rfl)) (by kernel_rfl) (by kernel_rfl)
end Go.Proofs.YtbmlnflacdockaaGreatDoor
