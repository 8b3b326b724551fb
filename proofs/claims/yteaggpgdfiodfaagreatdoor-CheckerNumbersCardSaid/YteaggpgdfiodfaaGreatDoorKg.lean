/-
  The evaluator at the statement, where the number is too long. Conditions: none.
-/
import Derived.Test.YteaggpgdfiodfaaGreatDoorOr
import Derived.KernelRfl
namespace Go.Proofs.YteaggpgdfiodfaaGreatDoor
set_option linter.all false
open Go.RowKit

def OL (f : Nat) (args : List SV) : Option SV :=
  cond (Nat.beq f 4) (one_ [] (bv true) args) <|
  cond (Nat.beq f 14) (oShort true args) (tabO OB T4 f args)
set_option maxRecDepth 1000000
theorem ev_lawL : evK Tryz.prog OL keepF 1000 12 none 3 [.one .sym] ⟨0, []⟩ = some (bv true, ⟨0, []⟩) := by kernel_rfl
end Go.Proofs.YteaggpgdfiodfaaGreatDoor
