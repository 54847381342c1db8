/-
  The card of DeskNames: its main, its function. No conditions.
-/
import Derived.Test.YthjhdjjmpoaceaaGreatDoorRows
import Derived.Test.YthjhdjjmpoaceaaGreatDoorCards
import Derived.WalkKit
import Derived.ProofKit
import Derived.OpenShut
import Derived.LaidLaws
import Derived.LaidHandle
import Derived.LaidMore
import Derived.Lay
import Derived.SevenTiedAt
import Derived.Stop.Joined
import Derived.JoinedOf
namespace Go.Proofs.YthjhdjjmpoaceaaGreatDoor.deskNames
open Go.ChangeShapes Go.WideShapes Go.ChangeAt Go.RowKit
set_option linter.unusedVariables false

theorem cardB1 : Tryz.pinned.checked.prog.mainIs = some (true, "f3147189c119526f119c59ef80982094058e491cc7f88735403e555579506798".toList) := by kernel_rfl
theorem cardB2 : Tryz.prog.funcNamed "dovetail/dovetaillaw22.DeskNames" = some 3 := by kernel_rfl
end Go.Proofs.YthjhdjjmpoaceaaGreatDoor.deskNames
