/-
  The card of SpaceNames: its main, its function. No conditions.
-/
import Derived.Test.YtebkeoakdijiiaaGreatDoorRows
import Derived.Test.YtebkeoakdijiiaaGreatDoorCards
import Derived.Test.YtebkeoakdijiiaaGreatDoorTie
import Derived.Test.YtebkeoakdijiiaaGreatDoorEvZF
import Derived.WalkKit
import Derived.ProofKit
import Derived.OpenShut
import Derived.LaidLaws
import Derived.LaidHandle
import Derived.LaidMore
import Derived.Lay
import Derived.SevenTiedAt
import Derived.Stop.Joined
import Derived.JoinedOf
namespace Go.Proofs.YtebkeoakdijiiaaGreatDoor.spaceNames
open Go.ChangeShapes Go.WideShapes Go.ChangeAt Go.RowKit
set_option linter.unusedVariables false

theorem cardB1 : Tryz.pinned.checked.prog.mainIs = some (true, "0175cc1897a6ad90d7be8f72cf12b2415ab0fae34f0e59275ec09e5b915955a7".toList) := by kernel_rfl
theorem cardB2 : Tryz.prog.funcNamed "dovetail/dovetaillaw20.SpaceNames" = some 3 := by kernel_rfl
end Go.Proofs.YtebkeoakdijiiaaGreatDoor.spaceNames
