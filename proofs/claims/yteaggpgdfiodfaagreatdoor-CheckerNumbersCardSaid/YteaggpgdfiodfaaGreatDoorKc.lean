/-
  The evaluator at the two cubes: extents. Conditions: none.
-/
import Derived.Test.YteaggpgdfiodfaaGreatDoorOr
import Derived.KernelRfl
namespace Go.Proofs.YteaggpgdfiodfaaGreatDoor
set_option linter.all false
open Go.RowKit

set_option maxRecDepth 1000000
theorem ev_extent00 : evK Tryz.prog OB keepF 1000 12 none 31 [cB0, vt3 1 0 0] ⟨0, []⟩ = some (cX00, ⟨0, []⟩) := by kernel_rfl
theorem ev_extent01 : evK Tryz.prog OB keepF 1000 12 none 31 [cB0, vt3 0 1 0] ⟨0, []⟩ = some (cX01, ⟨0, []⟩) := by kernel_rfl
theorem ev_extent02 : evK Tryz.prog OB keepF 1000 12 none 31 [cB0, vt3 0 0 1] ⟨0, []⟩ = some (cX02, ⟨0, []⟩) := by kernel_rfl
theorem ev_extent03 : evK Tryz.prog OB keepF 1000 12 none 31 [cB0, vt3 (-1) 0 0] ⟨0, []⟩ = some (cX03, ⟨0, []⟩) := by kernel_rfl
theorem ev_extent04 : evK Tryz.prog OB keepF 1000 12 none 31 [cB0, vt3 0 (-1) 0] ⟨0, []⟩ = some (cX04, ⟨0, []⟩) := by kernel_rfl
theorem ev_extent05 : evK Tryz.prog OB keepF 1000 12 none 31 [cB0, vt3 0 0 (-1)] ⟨0, []⟩ = some (cX05, ⟨0, []⟩) := by kernel_rfl
theorem ev_extent10 : evK Tryz.prog OB keepF 1000 12 none 31 [cB1, vt3 1 0 0] ⟨0, []⟩ = some (cX10, ⟨0, []⟩) := by kernel_rfl
theorem ev_extent11 : evK Tryz.prog OB keepF 1000 12 none 31 [cB1, vt3 0 1 0] ⟨0, []⟩ = some (cX11, ⟨0, []⟩) := by kernel_rfl
theorem ev_extent12 : evK Tryz.prog OB keepF 1000 12 none 31 [cB1, vt3 0 0 1] ⟨0, []⟩ = some (cX12, ⟨0, []⟩) := by kernel_rfl
theorem ev_extent13 : evK Tryz.prog OB keepF 1000 12 none 31 [cB1, vt3 (-1) 0 0] ⟨0, []⟩ = some (cX13, ⟨0, []⟩) := by kernel_rfl
theorem ev_extent14 : evK Tryz.prog OB keepF 1000 12 none 31 [cB1, vt3 0 (-1) 0] ⟨0, []⟩ = some (cX14, ⟨0, []⟩) := by kernel_rfl
theorem ev_extent15 : evK Tryz.prog OB keepF 1000 12 none 31 [cB1, vt3 0 0 (-1)] ⟨0, []⟩ = some (cX15, ⟨0, []⟩) := by kernel_rfl
end Go.Proofs.YteaggpgdfiodfaaGreatDoor
