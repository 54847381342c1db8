/-
  The closed cells of the row of DeskNames are right. No conditions.
-/
import Derived.Test.YthjhdjjmpoaceaaGreatDoorRows
import Derived.Test.YthjhdjjmpoaceaaGreatDoorDkFactA
import Derived.Test.YthjhdjjmpoaceaaGreatDoorDkFactB
import Derived.Test.YthjhdjjmpoaceaaGreatDoorDkFactC
import Derived.Test.YthjhdjjmpoaceaaGreatDoorDkFactD
import Derived.Test.YthjhdjjmpoaceaaGreatDoorDkFactE
import Derived.WalkKit
import Derived.ProofKit
import Derived.OpenShut
import Derived.LaidLaws
import Derived.LaidHandle
import Derived.LaidMore
import Derived.Lay
import Derived.SevenTiedAt
import Derived.Stop.Joined
namespace Go.Proofs.YthjhdjjmpoaceaaGreatDoor.deskNames
open Go.ChangeShapes Go.WideShapes Go.ChangeAt Go.RowKit
set_option linter.unusedVariables false

theorem facts : joinedFacts Tryz.pinned.checked.prog 3 Tryz.f3 Rows.deskNamesSpec Rows.deskNamesRow = true := by
  unfold joinedFacts
  rw [factA, factB, factC, factD, factE1, factE2]
  kernel_rfl
end Go.Proofs.YthjhdjjmpoaceaaGreatDoor.deskNames
