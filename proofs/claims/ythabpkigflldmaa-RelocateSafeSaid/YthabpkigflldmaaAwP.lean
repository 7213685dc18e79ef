/- What the examples of the chapter come to, in plain words. -/
import Derived.Test.YthabpkigflldmaaFwA
namespace Go.Proofs.Ythabpkigflldmaa

set_option maxRecDepth 100000 in
theorem ex_start2 : startE (exS 2) exB = 0 := by decide +kernel
set_option maxRecDepth 100000 in
theorem ex_poss2 : possE (exS 2) exB [1, 2] = 0 ∧ possE (exS 2) exB [2, 1] = 0 := by decide +kernel
set_option maxRecDepth 100000 in
theorem ex_poss3 : possE (exS 3) exB [1, 2] = 0 ∧ possE (exS 3) exB [2, 1] = 0 := by decide +kernel
set_option maxRecDepth 100000 in
theorem ex_plan2 : (planF (exS 2) exB [1, 2] [2, 1]).isNone = true := by decide +kernel
set_option maxRecDepth 100000 in
theorem ex_plan3 : ((planF (exS 3) exB [1, 2] [2, 1]).map fun p => p.map fun c => (c.box, c.from_, c.to_)) = some [(5, 1, 3), (6, 2, 1), (5, 3, 2)] := by decide +kernel
set_option maxRecDepth 100000 in
theorem ex_reach2 : (reachF (exS 2) exB [1, 2]).map Prod.fst = [[1, 2]] := by decide +kernel
set_option maxRecDepth 100000 in
theorem ex_closed2 : closedE (exS 2) exB [1, 2] [2, 1] [[1, 2]] = 0 := by decide +kernel
end Go.Proofs.Ythabpkigflldmaa
