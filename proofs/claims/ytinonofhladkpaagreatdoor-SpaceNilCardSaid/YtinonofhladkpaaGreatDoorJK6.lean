/-
  The calls on the nil space, by our machine: an eighth of the ways.
-/
import Derived.Test.YtinonofhladkpaaGreatDoorJNilDefs
namespace Go.Proofs.YtinonofhladkpaaGreatDoor.spaceNil
set_option linter.unusedVariables false
theorem good6_0 : good true true false false false false = true := by kernel_rfl
theorem good6_1 : good true true false false false true = true := by kernel_rfl
theorem good6_2 : good true true false false true false = true := by kernel_rfl
theorem good6_3 : good true true false false true true = true := by kernel_rfl
theorem good6_4 : good true true false true false false = true := by kernel_rfl
theorem good6_5 : good true true false true false true = true := by kernel_rfl
theorem good6_6 : good true true false true true false = true := by kernel_rfl
theorem good6_7 : good true true false true true true = true := by kernel_rfl
end Go.Proofs.YtinonofhladkpaaGreatDoor.spaceNil
