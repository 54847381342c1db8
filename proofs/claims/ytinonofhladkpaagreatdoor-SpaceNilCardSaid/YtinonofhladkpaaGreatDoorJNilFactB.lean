/-
  Closed cells of the row of SpaceNil are right (B). No conditions.
-/
import Derived.Test.YtinonofhladkpaaGreatDoorRows
import Derived.Test.YtinonofhladkpaaGreatDoorCards
import Derived.Test.YtinonofhladkpaaGreatDoorTie
import Derived.Test.YtinonofhladkpaaGreatDoorJE
import Derived.WalkKit
import Derived.ProofKit
import Derived.OpenShut
import Derived.LaidLaws
import Derived.LaidHandle
import Derived.LaidMore
import Derived.Lay
import Derived.SevenTiedAt
import Derived.Stop.Joined
import Derived.JoinedOf
namespace Go.Proofs.YtinonofhladkpaaGreatDoor.spaceNil
open Go.ChangeShapes Go.WideShapes Go.ChangeAt Go.RowKit
set_option linter.unusedVariables false

theorem factB : (Rows.spaceNilRow.unfollowed == Program.unfollowed Tryz.pinned.checked.prog 3) = true := by kernel_rfl
end Go.Proofs.YtinonofhladkpaaGreatDoor.spaceNil
