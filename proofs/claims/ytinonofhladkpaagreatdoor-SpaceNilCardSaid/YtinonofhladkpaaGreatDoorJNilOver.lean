/-
  The row of SpaceNil holds. No conditions.
-/
import Derived.Test.YtinonofhladkpaaGreatDoorRows
import Derived.Test.YtinonofhladkpaaGreatDoorCards
import Derived.Test.YtinonofhladkpaaGreatDoorTie
import Derived.Test.YtinonofhladkpaaGreatDoorJNilLift
import Derived.Test.YtinonofhladkpaaGreatDoorJNilFacts
import Derived.Test.YtinonofhladkpaaGreatDoorJE
import Derived.WalkKit
import Derived.ProofKit
import Derived.OpenShut
import Derived.LaidLaws
import Derived.LaidHandle
import Derived.LaidMore
import Derived.Lay
import Derived.SevenTiedAt
import Derived.Stop.Joined
namespace Go.Proofs.YtinonofhladkpaaGreatDoor.spaceNil
open Go.ChangeShapes Go.WideShapes Go.ChangeAt Go.RowKit
set_option linter.unusedVariables false

theorem over : Rows.spaceNilRow.holds Tryz.pinned (OpenSpec.ofChange Rows.spaceNilSpec) :=
  OpenClaim.holds_of_wide 3 Tryz.f3 rfl rfl rfl rfl rfl rfl rfl ⟨rfl, rfl, rfl, rfl, rfl⟩ rfl rfl rfl rfl rfl (by kernel_rfl) Tryz.func3 facts
    (of_decide_eq_true (by kernel_rfl)) (by unfold Func.isWrapper; first | (rw [if_pos (by decide +kernel)]; kernel_rfl) | (rw [if_neg (by decide +kernel)]; exact ⟨rfl, rfl⟩))
    (fun os started H enc _ => lifted os started H enc)
end Go.Proofs.YtinonofhladkpaaGreatDoor.spaceNil
