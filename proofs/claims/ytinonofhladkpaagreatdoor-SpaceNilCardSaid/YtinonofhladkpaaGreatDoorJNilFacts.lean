/-
  The closed cells of the row of SpaceNil are right. No conditions.
-/
import Derived.Test.YtinonofhladkpaaGreatDoorRows
import Derived.Test.YtinonofhladkpaaGreatDoorJNilFactA
import Derived.Test.YtinonofhladkpaaGreatDoorJNilFactB
import Derived.Test.YtinonofhladkpaaGreatDoorJNilFactC
import Derived.Test.YtinonofhladkpaaGreatDoorJNilFactD
import Derived.Test.YtinonofhladkpaaGreatDoorJNilFactE
import Derived.Test.YtinonofhladkpaaGreatDoorCards
import Derived.Test.YtinonofhladkpaaGreatDoorTie
import Derived.Test.YtinonofhladkpaaGreatDoorJE
import Derived.WalkKit
import Derived.ProofKit
import Derived.OpenShut
import Derived.LaidLaws
import Derived.LaidHandle
import Derived.LaidMore
import Derived.Lay
import Derived.SevenTiedAt
import Derived.Stop.Joined
import Derived.JoinedOf
namespace Go.Proofs.YtinonofhladkpaaGreatDoor.spaceNil
open Go.ChangeShapes Go.WideShapes Go.ChangeAt Go.RowKit
set_option linter.unusedVariables false

theorem facts : joinedFacts Tryz.pinned.checked.prog 3 Tryz.f3 Rows.spaceNilSpec Rows.spaceNilRow = true := by
  unfold joinedFacts
  rw [factA, factB, factC, factD, factE1, factE2]
  kernel_rfl
end Go.Proofs.YtinonofhladkpaaGreatDoor.spaceNil
