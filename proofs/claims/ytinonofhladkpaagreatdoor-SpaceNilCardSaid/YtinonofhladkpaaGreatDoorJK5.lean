/-
  The calls on the nil space, by our machine: an eighth of the ways.
-/
import Derived.Test.YtinonofhladkpaaGreatDoorJNilDefs
namespace Go.Proofs.YtinonofhladkpaaGreatDoor.spaceNil
set_option linter.unusedVariables false
theorem good5_0 : good true false true false false false = true := by kernel_rfl
theorem good5_1 : good true false true false false true = true := by kernel_rfl
theorem good5_2 : good true false true false true false = true := by kernel_rfl
theorem good5_3 : good true false true false true true = true := by kernel_rfl
theorem good5_4 : good true false true true false false = true := by kernel_rfl
theorem good5_5 : good true false true true false true = true := by kernel_rfl
theorem good5_6 : good true false true true true false = true := by kernel_rfl
theorem good5_7 : good true false true true true true = true := by kernel_rfl
end Go.Proofs.YtinonofhladkpaaGreatDoor.spaceNil
