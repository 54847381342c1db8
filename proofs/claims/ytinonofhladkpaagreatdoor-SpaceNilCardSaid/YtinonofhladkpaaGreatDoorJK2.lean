/-
  The calls on the nil space, by our machine: an eighth of the ways.
-/
import Derived.Test.YtinonofhladkpaaGreatDoorJNilDefs
namespace Go.Proofs.YtinonofhladkpaaGreatDoor.spaceNil
set_option linter.unusedVariables false
theorem good2_0 : good false true false false false false = true := by kernel_rfl
theorem good2_1 : good false true false false false true = true := by kernel_rfl
theorem good2_2 : good false true false false true false = true := by kernel_rfl
theorem good2_3 : good false true false false true true = true := by kernel_rfl
theorem good2_4 : good false true false true false false = true := by kernel_rfl
theorem good2_5 : good false true false true false true = true := by kernel_rfl
theorem good2_6 : good false true false true true false = true := by kernel_rfl
theorem good2_7 : good false true false true true true = true := by kernel_rfl
end Go.Proofs.YtinonofhladkpaaGreatDoor.spaceNil
