/-
  The evaluator at the examples of the chapter. Conditions: none.
-/
import Derived.Test.YteaggpgdfiodfaaGreatDoorOr
import Derived.KernelRfl
namespace Go.Proofs.YteaggpgdfiodfaaGreatDoor
set_option linter.all false
open Go.RowKit

set_option maxRecDepth 1000000
theorem ev_known : evK Tryz.prog (tabO OB T4) keepF 1000 12 none 4 [] ⟨0, []⟩ = some (bv true, ⟨0, []⟩) := by kernel_rfl
end Go.Proofs.YteaggpgdfiodfaaGreatDoor
