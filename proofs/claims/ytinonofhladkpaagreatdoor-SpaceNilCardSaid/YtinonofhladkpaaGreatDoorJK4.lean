/-
  The calls on the nil space, by our machine: an eighth of the ways.
-/
import Derived.Test.YtinonofhladkpaaGreatDoorJNilDefs
namespace Go.Proofs.YtinonofhladkpaaGreatDoor.spaceNil
set_option linter.unusedVariables false
theorem good4_0 : good true false false false false false = true := by kernel_rfl
theorem good4_1 : good true false false false false true = true := by kernel_rfl
theorem good4_2 : good true false false false true false = true := by kernel_rfl
theorem good4_3 : good true false false false true true = true := by kernel_rfl
theorem good4_4 : good true false false true false false = true := by kernel_rfl
theorem good4_5 : good true false false true false true = true := by kernel_rfl
theorem good4_6 : good true false false true true false = true := by kernel_rfl
theorem good4_7 : good true false false true true true = true := by kernel_rfl
end Go.Proofs.YtinonofhladkpaaGreatDoor.spaceNil
