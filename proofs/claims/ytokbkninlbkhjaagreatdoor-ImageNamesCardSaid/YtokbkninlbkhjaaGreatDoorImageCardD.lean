/-
  The card of ImageNames: it sets off nothing. No conditions.
-/
import Derived.Test.YtokbkninlbkhjaaGreatDoorRows
import Derived.Test.YtokbkninlbkhjaaGreatDoorCards
import Derived.Test.YtokbkninlbkhjaaGreatDoorTie
import Derived.Test.YtokbkninlbkhjaaGreatDoorEvZF
import Derived.WalkKit
import Derived.ProofKit
import Derived.OpenShut
import Derived.LaidLaws
import Derived.LaidHandle
import Derived.LaidMore
import Derived.Lay
import Derived.SevenTiedAt
import Derived.Stop.Joined
import Derived.JoinedOf
namespace Go.Proofs.YtokbkninlbkhjaaGreatDoor.imageNames
open Go.ChangeShapes Go.WideShapes Go.ChangeAt Go.RowKit
set_option linter.unusedVariables false

theorem cardD : false = Rows.imageNamesRow.goesBy Tryz.pinned.checked.prog := by kernel_rfl
end Go.Proofs.YtokbkninlbkhjaaGreatDoor.imageNames
