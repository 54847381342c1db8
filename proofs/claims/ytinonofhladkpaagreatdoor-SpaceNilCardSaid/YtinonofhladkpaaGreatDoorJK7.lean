/-
  The calls on the nil space, by our machine: an eighth of the ways.
-/
import Derived.Test.YtinonofhladkpaaGreatDoorJNilDefs
namespace Go.Proofs.YtinonofhladkpaaGreatDoor.spaceNil
set_option linter.unusedVariables false
theorem good7_0 : good true true true false false false = true := by kernel_rfl
theorem good7_1 : good true true true false false true = true := by kernel_rfl
theorem good7_2 : good true true true false true false = true := by kernel_rfl
theorem good7_3 : good true true true false true true = true := by kernel_rfl
theorem good7_4 : good true true true true false false = true := by kernel_rfl
theorem good7_5 : good true true true true false true = true := by kernel_rfl
theorem good7_6 : good true true true true true false = true := by kernel_rfl
theorem good7_7 : good true true true true true true = true := by kernel_rfl
end Go.Proofs.YtinonofhladkpaaGreatDoor.spaceNil
