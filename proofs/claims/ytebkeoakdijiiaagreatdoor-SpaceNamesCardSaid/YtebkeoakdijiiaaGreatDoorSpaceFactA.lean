/-
  Closed cells of the row of SpaceNames are right (A). No conditions.
-/
import Derived.Test.YtebkeoakdijiiaaGreatDoorRows
import Derived.Test.YtebkeoakdijiiaaGreatDoorCards
import Derived.Test.YtebkeoakdijiiaaGreatDoorTie
import Derived.Test.YtebkeoakdijiiaaGreatDoorEvZF
import Derived.WalkKit
import Derived.ProofKit
import Derived.OpenShut
import Derived.LaidLaws
import Derived.LaidHandle
import Derived.LaidMore
import Derived.Lay
import Derived.SevenTiedAt
import Derived.Stop.Joined
import Derived.JoinedOf
namespace Go.Proofs.YtebkeoakdijiiaaGreatDoor.spaceNames
open Go.ChangeShapes Go.WideShapes Go.ChangeAt Go.RowKit
set_option linter.unusedVariables false

theorem factA : (Rows.spaceNamesRow.inPlace == Program.inPlace Tryz.pinned.checked.prog 3) = true := by kernel_rfl
end Go.Proofs.YtebkeoakdijiiaaGreatDoor.spaceNames
