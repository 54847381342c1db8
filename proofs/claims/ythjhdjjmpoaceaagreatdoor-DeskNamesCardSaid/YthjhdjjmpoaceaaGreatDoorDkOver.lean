/-
  The row of DeskNames holds. No conditions.
-/
import Derived.Test.YthjhdjjmpoaceaaGreatDoorRows
import Derived.Test.YthjhdjjmpoaceaaGreatDoorCards
import Derived.Test.YthjhdjjmpoaceaaGreatDoorDkLift
import Derived.Test.YthjhdjjmpoaceaaGreatDoorDkFacts
import Derived.WalkKit
import Derived.ProofKit
import Derived.OpenShut
import Derived.LaidLaws
import Derived.LaidHandle
import Derived.LaidMore
import Derived.Lay
import Derived.SevenTiedAt
import Derived.Stop.Joined
namespace Go.Proofs.YthjhdjjmpoaceaaGreatDoor.deskNames
open Go.ChangeShapes Go.WideShapes Go.ChangeAt Go.RowKit
set_option linter.unusedVariables false

theorem over : Rows.deskNamesRow.holds Tryz.pinned (OpenSpec.ofChange Rows.deskNamesSpec) :=
  OpenClaim.holds_of_wide 3 Tryz.f3 rfl rfl rfl rfl rfl rfl rfl ⟨rfl, rfl, rfl, rfl, rfl⟩ rfl rfl rfl rfl rfl (by kernel_rfl) Tryz.func3 facts
    (of_decide_eq_true (by kernel_rfl)) (by unfold Func.isWrapper; first | (rw [if_pos (by decide +kernel)]; kernel_rfl) | (rw [if_neg (by decide +kernel)]; exact ⟨rfl, rfl⟩))
    (fun os started H enc _ => lifted os started H enc)
end Go.Proofs.YthjhdjjmpoaceaaGreatDoor.deskNames
