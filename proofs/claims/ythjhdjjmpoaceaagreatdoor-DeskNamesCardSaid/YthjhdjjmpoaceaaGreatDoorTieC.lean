/-
  The tie of DeskNames: what is read. No conditions.
-/
import Derived.Test.YthjhdjjmpoaceaaGreatDoorRows
import Derived.LaidByTextLater
import Derived.SevenTiedAt
import Derived.Test.YthjhdjjmpoaceaaGreatDoorTieA
namespace Go.Proofs.YthjhdjjmpoaceaaGreatDoor
open Go
theorem tie_h1 : ∀ os tape, (DataW.laidRun Tryz.prog (varsWorld Tryz.prog 400 (varsId Tryz.prog) os tape).memory 8 ((tieL.filter fun x => x.2.handleName?.isNone).map (·.1))).map (·.1) = some (tieL.filter fun x => x.2.handleName?.isNone) := fun _ _ => by kernel_rfl
end Go.Proofs.YthjhdjjmpoaceaaGreatDoor
