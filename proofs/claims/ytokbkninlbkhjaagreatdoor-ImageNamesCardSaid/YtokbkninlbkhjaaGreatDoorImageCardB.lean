/-
  The card of ImageNames: its main, its function. No conditions.
-/
import Derived.Test.YtokbkninlbkhjaaGreatDoorRows
import Derived.Test.YtokbkninlbkhjaaGreatDoorCards
import Derived.Test.YtokbkninlbkhjaaGreatDoorTie
import Derived.Test.YtokbkninlbkhjaaGreatDoorEvZF
import Derived.WalkKit
import Derived.ProofKit
import Derived.OpenShut
import Derived.LaidLaws
import Derived.LaidHandle
import Derived.LaidMore
import Derived.Lay
import Derived.SevenTiedAt
import Derived.Stop.Joined
import Derived.JoinedOf
namespace Go.Proofs.YtokbkninlbkhjaaGreatDoor.imageNames
open Go.ChangeShapes Go.WideShapes Go.ChangeAt Go.RowKit
set_option linter.unusedVariables false

theorem cardB1 : Tryz.pinned.checked.prog.mainIs = some (true, "4780376d115d218d480f9fee06db2782799416df51ccb21e9fa4b68f97566f6a".toList) := by kernel_rfl
theorem cardB2 : Tryz.prog.funcNamed "dovetail/dovetaillaw21.ImageNames" = some 3 := by kernel_rfl
end Go.Proofs.YtokbkninlbkhjaaGreatDoor.imageNames
