/-
  The closed cells of the row of ImageNames are right. No conditions.
-/
import Derived.Test.YtokbkninlbkhjaaGreatDoorRows
import Derived.Test.YtokbkninlbkhjaaGreatDoorImageFactA
import Derived.Test.YtokbkninlbkhjaaGreatDoorImageFactB
import Derived.Test.YtokbkninlbkhjaaGreatDoorImageFactC
import Derived.Test.YtokbkninlbkhjaaGreatDoorImageFactD
import Derived.Test.YtokbkninlbkhjaaGreatDoorImageFactE
import Derived.Test.YtokbkninlbkhjaaGreatDoorCards
import Derived.Test.YtokbkninlbkhjaaGreatDoorTie
import Derived.Test.YtokbkninlbkhjaaGreatDoorEvZF
import Derived.WalkKit
import Derived.ProofKit
import Derived.OpenShut
import Derived.LaidLaws
import Derived.LaidHandle
import Derived.LaidMore
import Derived.Lay
import Derived.SevenTiedAt
import Derived.Stop.Joined
import Derived.JoinedOf
namespace Go.Proofs.YtokbkninlbkhjaaGreatDoor.imageNames
open Go.ChangeShapes Go.WideShapes Go.ChangeAt Go.RowKit
set_option linter.unusedVariables false

theorem facts : joinedFacts Tryz.pinned.checked.prog 3 Tryz.f3 Rows.imageNamesSpec Rows.imageNamesRow = true := by
  unfold joinedFacts
  rw [factA, factB, factC, factD, factE1, factE2]
  kernel_rfl
end Go.Proofs.YtokbkninlbkhjaaGreatDoor.imageNames
