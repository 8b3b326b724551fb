/-
  The evaluator at the two cubes: the second one placed. Conditions: none.
-/
import Derived.Test.YteaggpgdfiodfaaGreatDoorOr
import Derived.KernelRfl
namespace Go.Proofs.YteaggpgdfiodfaaGreatDoor
set_option linter.all false
open Go.RowKit

set_option maxRecDepth 1000000
theorem ev_place1 : evK Tryz.prog OB keepF 1000 12 none 63 [cI1, cCell] ⟨0, []⟩ = some (cB1, ⟨0, []⟩) := by kernel_rfl
end Go.Proofs.YteaggpgdfiodfaaGreatDoor
