/-
  The evaluator at the two cubes: when they meet. Conditions: none.
-/
import Derived.Test.YteaggpgdfiodfaaGreatDoorOr
import Derived.KernelRfl
namespace Go.Proofs.YteaggpgdfiodfaaGreatDoor
set_option linter.all false
open Go.RowKit

set_option maxRecDepth 1000000
theorem ev_meets : evK Tryz.prog (tabO OB T3) keepF 1000 12 none 98 [cB0, cB1, vt3 1 0 0, bv false] ⟨0, []⟩ = some (cM, ⟨0, []⟩) := by kernel_rfl
end Go.Proofs.YteaggpgdfiodfaaGreatDoor
