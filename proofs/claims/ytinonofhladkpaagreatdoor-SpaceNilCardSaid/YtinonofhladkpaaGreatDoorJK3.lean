/-
  The calls on the nil space, by our machine: an eighth of the ways.
-/
import Derived.Test.YtinonofhladkpaaGreatDoorJNilDefs
namespace Go.Proofs.YtinonofhladkpaaGreatDoor.spaceNil
set_option linter.unusedVariables false
theorem good3_0 : good false true true false false false = true := by kernel_rfl
theorem good3_1 : good false true true false false true = true := by kernel_rfl
theorem good3_2 : good false true true false true false = true := by kernel_rfl
theorem good3_3 : good false true true false true true = true := by kernel_rfl
theorem good3_4 : good false true true true false false = true := by kernel_rfl
theorem good3_5 : good false true true true false true = true := by kernel_rfl
theorem good3_6 : good false true true true true false = true := by kernel_rfl
theorem good3_7 : good false true true true true true = true := by kernel_rfl
end Go.Proofs.YtinonofhladkpaaGreatDoor.spaceNil
