/-
  The evaluator at the two cubes: the assembly; the first one placed. Conditions: none.
-/
import Derived.Test.YteaggpgdfiodfaaGreatDoorOr
import Derived.KernelRfl
namespace Go.Proofs.YteaggpgdfiodfaaGreatDoor
set_option linter.all false
open Go.RowKit

set_option maxRecDepth 1000000
theorem ev_cubes : evK Tryz.prog OB keepF 1000 12 none 8 [nv 2] ⟨0, []⟩ = some (cCU, ⟨0, []⟩) := by kernel_rfl
theorem ev_place0 : evK Tryz.prog OB keepF 1000 12 none 63 [cI0, cCell] ⟨0, []⟩ = some (cB0, ⟨0, []⟩) := by kernel_rfl
end Go.Proofs.YteaggpgdfiodfaaGreatDoor
