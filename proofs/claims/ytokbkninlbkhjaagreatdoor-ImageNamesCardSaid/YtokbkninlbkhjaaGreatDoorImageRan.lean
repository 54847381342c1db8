/-
  What the call of ImageNames comes to. No conditions.
-/
import Derived.Test.YtokbkninlbkhjaaGreatDoorRows
import Derived.Test.YtokbkninlbkhjaaGreatDoorCards
import Derived.Test.YtokbkninlbkhjaaGreatDoorTie
import Derived.Test.YtokbkninlbkhjaaGreatDoorEvZE
import Derived.Test.YtokbkninlbkhjaaGreatDoorEvZF
import Derived.WalkKit
import Derived.ProofKit
import Derived.OpenShut
import Derived.LaidLaws
import Derived.LaidHandle
import Derived.LaidMore
import Derived.Lay
import Derived.SevenTiedAt
import Derived.Stop.Joined
namespace Go.Proofs.YtokbkninlbkhjaaGreatDoor.imageNames
open Go.ChangeShapes Go.WideShapes Go.ChangeAt Go.RowKit
set_option linter.unusedVariables false

theorem own : ownKnob Tryz.prog.godebug = none := by kernel_rfl
theorem plain : Ev.plainB Tryz.prog = true := by kernel_rfl
theorem mixed : Tryz.prog.follows .mixedOrders = true := by kernel_rfl
theorem ran : Ev.isTrue (Ev.evCall2 (fun _ _ _ => none) Tryz.prog 100000 60 3 [] ⟨Ev.laidMem Tryz.prog (Rows.imageNamesRow.laid.filter fun x => x.2.handleName?.isNone), 64, 0⟩) = true := by kernel_rfl
theorem walk {w : World} (h : laidMetH Tryz.prog Rows.imageNamesRow.laid w) : Calls Tryz.prog 3 #[] w fun e w' => e = .returned (.bool true) ∧ Below w.heap.size w w' :=
  Ev.laid_true plain mixed h Ev.no_sums 100000 60 3 ran
end Go.Proofs.YtokbkninlbkhjaaGreatDoor.imageNames
