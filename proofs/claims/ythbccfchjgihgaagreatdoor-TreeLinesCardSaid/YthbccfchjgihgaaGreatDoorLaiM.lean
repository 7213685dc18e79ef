/- What the five listed variables of TreeLines give. -/
import Derived.Test.YthbccfchjgihgaaGreatDoorLaid
namespace Go.Proofs.YthbccfchjgihgaaGreatDoor
open Go.ChangeShapes Go.WideShapes Go.ChangeAt Go.RowKit

abbrev laidM : List (String × DataW Unit) := [("math/bits.deBruijn32tab", Rows.laid_math_bits_deBruijn32tab), ("math/bits.deBruijn64tab", Rows.laid_math_bits_deBruijn64tab), ("internal/strconv.uint64pow10", Rows.laid_internal_strconv_uint64pow10), ("unicode/utf8.acceptRanges", Rows.laid_unicode_utf8_acceptRanges), ("unicode/utf8.first", Rows.laid_unicode_utf8_first)]
theorem var_of_laidM {W : World} (h : laidMetH Tryz.prog laidM W) (hs : W.ShapedOpen Tryz.prog) : VarOk W := by
  rw [MakeChecks.laidMetH_plain _ _ _ (by kernel_rfl)] at h
  refine ⟨?_, ?_⟩
  · exact cell_of_shapedOpen_int (g := 0) (t := 3) (zero := #[.int .i64 0]) hs (of_decide_eq_true (by kernel_rfl)) (by kernel_rfl) rfl (by kernel_rfl) (by kernel_rfl) Tryz.underlying3
  · exact Lib.tabIs_of_head gTab tTab Tryz.underlying181 Tryz.underlying147 (by kernel_rfl) (by kernel_rfl) h.tail.tail
/-- The world that lays the listed variables. -/
theorem lay_shapedM (os : Os) (args : Array Value) : ((World.laidAll Tryz.prog os laidM).forCall (fun _ _ => 0) ⟨#[], args, []⟩).Shaped Tryz.prog := by
  exact World.shaped_of_ZipB (by kernel_rfl) (by kernel_rfl)
theorem lay_metM (os : Os) (args : Array Value) : laidMetH Tryz.prog laidM ((World.laidAll Tryz.prog os laidM).forCall (fun _ _ => 0) ⟨#[], args, []⟩).memory := by
  rw [MakeChecks.laidMetH_plain _ _ _ (by kernel_rfl)]
  exact laidMet_laidAll _ (by kernel_rfl) (by kernel_rfl)
end Go.Proofs.YthbccfchjgihgaaGreatDoor
