/-
  The tie of DeskNames: the handles. No conditions.
-/
import Derived.Test.YthjhdjjmpoaceaaGreatDoorRows
import Derived.LaidByTextLater
import Derived.SevenTiedAt
import Derived.Test.YthjhdjjmpoaceaaGreatDoorTieA
namespace Go.Proofs.YthjhdjjmpoaceaaGreatDoor
open Go
theorem tie_h3 : ∀ os tape, (tieL.filter fun x => x.2.handleName?.isSome).all (handleAtB Tryz.prog (varsWorld Tryz.prog 400 (varsId Tryz.prog) os tape).memory) = true := fun _ _ => by kernel_rfl
end Go.Proofs.YthjhdjjmpoaceaaGreatDoor
