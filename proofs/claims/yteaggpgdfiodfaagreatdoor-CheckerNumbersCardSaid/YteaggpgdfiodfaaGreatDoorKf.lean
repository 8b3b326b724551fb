/-
  The evaluator at the statement. Conditions: none.
-/
import Derived.Test.YteaggpgdfiodfaaGreatDoorOr
import Derived.KernelRfl
namespace Go.Proofs.YteaggpgdfiodfaaGreatDoor
set_option linter.all false
open Go.RowKit

set_option maxRecDepth 1000000
theorem ev_law0 : evK Tryz.prog (OS 0 false) keepF 1000 12 none 3 [.one .sym] ⟨0, []⟩ = some (bv true, ⟨0, []⟩) := by kernel_rfl
theorem ev_law3 : evK Tryz.prog (OS 3 false) keepF 1000 12 none 3 [.one .sym] ⟨0, []⟩ = some (bv true, ⟨0, []⟩) := by kernel_rfl
theorem ev_law5 : evK Tryz.prog (OS 5 false) keepF 1000 12 none 3 [.one .sym] ⟨0, []⟩ = some (bv true, ⟨0, []⟩) := by kernel_rfl
theorem ev_law14 : evK Tryz.prog (OS 14 false) keepF 1000 12 none 3 [.one .sym] ⟨0, []⟩ = some (bv true, ⟨0, []⟩) := by kernel_rfl
theorem ev_law19 : evK Tryz.prog (OS 19 false) keepF 1000 12 none 3 [.one .sym] ⟨0, []⟩ = some (bv true, ⟨0, []⟩) := by kernel_rfl
theorem ev_lawlong (e : Int) : evK Tryz.prog (OS e true) keepF 1000 12 none 3 [.one .sym] ⟨0, []⟩ = some (bv true, ⟨0, []⟩) := by kernel_rfl
end Go.Proofs.YteaggpgdfiodfaaGreatDoor
