/-
  The closed cells of the row of SpaceNames are right. No conditions.
-/
import Derived.Test.YtebkeoakdijiiaaGreatDoorRows
import Derived.Test.YtebkeoakdijiiaaGreatDoorSpaceFactA
import Derived.Test.YtebkeoakdijiiaaGreatDoorSpaceFactB
import Derived.Test.YtebkeoakdijiiaaGreatDoorSpaceFactC
import Derived.Test.YtebkeoakdijiiaaGreatDoorSpaceFactD
import Derived.Test.YtebkeoakdijiiaaGreatDoorSpaceFactE
import Derived.Test.YtebkeoakdijiiaaGreatDoorCards
import Derived.Test.YtebkeoakdijiiaaGreatDoorTie
import Derived.Test.YtebkeoakdijiiaaGreatDoorEvZF
import Derived.WalkKit
import Derived.ProofKit
import Derived.OpenShut
import Derived.LaidLaws
import Derived.LaidHandle
import Derived.LaidMore
import Derived.Lay
import Derived.SevenTiedAt
import Derived.Stop.Joined
import Derived.JoinedOf
namespace Go.Proofs.YtebkeoakdijiiaaGreatDoor.spaceNames
open Go.ChangeShapes Go.WideShapes Go.ChangeAt Go.RowKit
set_option linter.unusedVariables false

theorem facts : joinedFacts Tryz.pinned.checked.prog 3 Tryz.f3 Rows.spaceNamesSpec Rows.spaceNamesRow = true := by
  unfold joinedFacts
  rw [factA, factB, factC, factD, factE1, factE2]
  kernel_rfl
end Go.Proofs.YtebkeoakdijiiaaGreatDoor.spaceNames
