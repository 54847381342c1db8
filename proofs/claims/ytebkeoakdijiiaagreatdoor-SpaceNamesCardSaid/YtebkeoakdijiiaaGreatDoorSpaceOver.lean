/-
  The row of SpaceNames holds. No conditions.
-/
import Derived.Test.YtebkeoakdijiiaaGreatDoorRows
import Derived.Test.YtebkeoakdijiiaaGreatDoorCards
import Derived.Test.YtebkeoakdijiiaaGreatDoorTie
import Derived.Test.YtebkeoakdijiiaaGreatDoorSpaceLift
import Derived.Test.YtebkeoakdijiiaaGreatDoorSpaceFacts
import Derived.Test.YtebkeoakdijiiaaGreatDoorEvZF
import Derived.WalkKit
import Derived.ProofKit
import Derived.OpenShut
import Derived.LaidLaws
import Derived.LaidHandle
import Derived.LaidMore
import Derived.Lay
import Derived.SevenTiedAt
import Derived.Stop.Joined
namespace Go.Proofs.YtebkeoakdijiiaaGreatDoor.spaceNames
open Go.ChangeShapes Go.WideShapes Go.ChangeAt Go.RowKit
set_option linter.unusedVariables false

theorem over : Rows.spaceNamesRow.holds Tryz.pinned (OpenSpec.ofChange Rows.spaceNamesSpec) :=
  OpenClaim.holds_of_wide 3 Tryz.f3 rfl rfl rfl rfl rfl rfl rfl ⟨rfl, rfl, rfl, rfl, rfl⟩ rfl rfl rfl rfl rfl (by kernel_rfl) Tryz.func3 facts
    (of_decide_eq_true (by kernel_rfl)) (by unfold Func.isWrapper; first | (rw [if_pos (by decide +kernel)]; kernel_rfl) | (rw [if_neg (by decide +kernel)]; exact ⟨rfl, rfl⟩))
    (fun os started H enc _ => lifted os started H enc)
end Go.Proofs.YtebkeoakdijiiaaGreatDoor.spaceNames
