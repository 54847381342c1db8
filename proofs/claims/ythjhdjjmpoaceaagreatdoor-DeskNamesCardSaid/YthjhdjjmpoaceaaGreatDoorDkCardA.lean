/-
  The card of DeskNames: its words, its looks. No conditions.
-/
import Derived.Test.YthjhdjjmpoaceaaGreatDoorRows
import Derived.Test.YthjhdjjmpoaceaaGreatDoorCards
import Derived.WalkKit
import Derived.ProofKit
import Derived.OpenShut
import Derived.LaidLaws
import Derived.LaidHandle
import Derived.LaidMore
import Derived.Lay
import Derived.SevenTiedAt
import Derived.Stop.Joined
import Derived.JoinedOf
namespace Go.Proofs.YthjhdjjmpoaceaaGreatDoor.deskNames
open Go.ChangeShapes Go.WideShapes Go.ChangeAt Go.RowKit
set_option linter.unusedVariables false

theorem cardA : Rows.deskNamesRow.wfByText (OpenSpec.ofChange Rows.deskNamesSpec) = true := by kernel_rfl
theorem cardC : true = Tryz.pinned.checked.prog.looks [] := by kernel_rfl
end Go.Proofs.YthjhdjjmpoaceaaGreatDoor.deskNames
