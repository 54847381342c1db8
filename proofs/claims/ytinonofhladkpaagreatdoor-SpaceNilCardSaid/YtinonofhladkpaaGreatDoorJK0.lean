/-
  The calls on the nil space, by our machine: an eighth of the ways.
-/
import Derived.Test.YtinonofhladkpaaGreatDoorJNilDefs
namespace Go.Proofs.YtinonofhladkpaaGreatDoor.spaceNil
set_option linter.unusedVariables false
theorem good0_0 : good false false false false false false = true := by kernel_rfl
theorem good0_1 : good false false false false false true = true := by kernel_rfl
theorem good0_2 : good false false false false true false = true := by kernel_rfl
theorem good0_3 : good false false false false true true = true := by kernel_rfl
theorem good0_4 : good false false false true false false = true := by kernel_rfl
theorem good0_5 : good false false false true false true = true := by kernel_rfl
theorem good0_6 : good false false false true true false = true := by kernel_rfl
theorem good0_7 : good false false false true true true = true := by kernel_rfl
end Go.Proofs.YtinonofhladkpaaGreatDoor.spaceNil
