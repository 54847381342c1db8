/-
  The card of SpaceNil: its main, its function, its input. No conditions.
-/
import Derived.Test.YtinonofhladkpaaGreatDoorRows
import Derived.Test.YtinonofhladkpaaGreatDoorCards
import Derived.Test.YtinonofhladkpaaGreatDoorTie
import Derived.Test.YtinonofhladkpaaGreatDoorJE
import Derived.WalkKit
import Derived.ProofKit
import Derived.OpenShut
import Derived.LaidLaws
import Derived.LaidHandle
import Derived.LaidMore
import Derived.Lay
import Derived.SevenTiedAt
import Derived.Stop.Joined
import Derived.JoinedOf
namespace Go.Proofs.YtinonofhladkpaaGreatDoor.spaceNil
open Go.ChangeShapes Go.WideShapes Go.ChangeAt Go.RowKit
set_option linter.unusedVariables false

theorem cardB1 : Tryz.pinned.checked.prog.mainIs = some (true, "d4ec75e4608a71c8955a9ece46ae2f0e9426ebd78313df0d1065aeb2d318f089".toList) := by kernel_rfl
theorem cardB2 : Tryz.prog.funcNamed "dovetail/dovetaillaw20.SpaceNil" = some 3 := by kernel_rfl
theorem cardB3 : Tryz.prog.wantsStandIn 33 = false := by kernel_rfl
end Go.Proofs.YtinonofhladkpaaGreatDoor.spaceNil
