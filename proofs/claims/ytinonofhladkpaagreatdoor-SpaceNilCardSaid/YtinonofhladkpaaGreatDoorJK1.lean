/-
  The calls on the nil space, by our machine: an eighth of the ways.
-/
import Derived.Test.YtinonofhladkpaaGreatDoorJNilDefs
namespace Go.Proofs.YtinonofhladkpaaGreatDoor.spaceNil
set_option linter.unusedVariables false
theorem good1_0 : good false false true false false false = true := by kernel_rfl
theorem good1_1 : good false false true false false true = true := by kernel_rfl
theorem good1_2 : good false false true false true false = true := by kernel_rfl
theorem good1_3 : good false false true false true true = true := by kernel_rfl
theorem good1_4 : good false false true true false false = true := by kernel_rfl
theorem good1_5 : good false false true true false true = true := by kernel_rfl
theorem good1_6 : good false false true true true false = true := by kernel_rfl
theorem good1_7 : good false false true true true true = true := by kernel_rfl
end Go.Proofs.YtinonofhladkpaaGreatDoor.spaceNil
