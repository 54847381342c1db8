/-
  The tie of DeskNames: the run ends. No conditions.
-/
import Derived.Test.YthjhdjjmpoaceaaGreatDoorRows
import Derived.LaidByTextLater
import Derived.SevenTiedAt
import Derived.Test.YthjhdjjmpoaceaaGreatDoorTieA
namespace Go.Proofs.YthjhdjjmpoaceaaGreatDoor
open Go
theorem tie_hd : ∀ os tape, varsDone Tryz.prog 400 (varsId Tryz.prog) os tape = true := fun _ _ => by kernel_rfl
end Go.Proofs.YthjhdjjmpoaceaaGreatDoor
