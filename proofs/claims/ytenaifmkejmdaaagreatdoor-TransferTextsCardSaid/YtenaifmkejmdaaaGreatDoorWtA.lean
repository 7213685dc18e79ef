/- The program: numbers in bounds. -/
import Derived.Test.YtenaifmkejmdaaaGreatDoorSpc
import Derived.BigQuiet
import Derived.IntWalk
namespace Go.Proofs.YtenaifmkejmdaaaGreatDoor
open Go.RowKit

theorem within_c (n lo hi : Int) (w : World) : Calls Tryz.prog 33 #[.int .i64 n, .int .i64 lo, .int .i64 hi] w fun e w' => e = .returned (.bool (inB n lo hi)) ∧ w = w' := by
  have HE := Lib.hid (show inB n lo hi = (decide (lo ≤ n) && decide (n ≤ hi)) from rfl)
  go_enter Tryz.func33, Tryz.ntmps33
  go_wp2
  all_goals
    go_ret
    refine ⟨ret_bool ?_, rfl⟩
    rw [HE.out]
    clear HE
    rw [Bool.eq_iff_iff]
    simp only [Bool.and_eq_true, decide_eq_true_eq, Bool.false_eq_true, false_iff, true_iff]
    omega
end Go.Proofs.YtenaifmkejmdaaaGreatDoor
