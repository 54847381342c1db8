/-
  The tie of DeskNames: no block twice. No conditions.
-/
import Derived.Test.YthjhdjjmpoaceaaGreatDoorRows
import Derived.LaidByTextLater
import Derived.SevenTiedAt
import Derived.Test.YthjhdjjmpoaceaaGreatDoorTieA
namespace Go.Proofs.YthjhdjjmpoaceaaGreatDoor
open Go
theorem tie_h2 : ∀ os tape, (DataW.laidRun Tryz.prog (varsWorld Tryz.prog 400 (varsId Tryz.prog) os tape).memory 8 ((tieL.filter fun x => x.2.handleName?.isNone).map (·.1))).map (fun x => decide x.2.Nodup && laidRowsB Tryz.prog (varsWorld Tryz.prog 400 (varsId Tryz.prog) os tape).memory x.2) = some true := fun _ _ => by kernel_rfl
end Go.Proofs.YthjhdjjmpoaceaaGreatDoor
