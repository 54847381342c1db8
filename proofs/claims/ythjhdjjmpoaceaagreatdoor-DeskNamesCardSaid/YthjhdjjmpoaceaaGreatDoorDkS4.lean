/-
  A call on the way of DeskNames: it is so.
-/
import Derived.Test.YthjhdjjmpoaceaaGreatDoorDkDefs
namespace Go.Proofs.YthjhdjjmpoaceaaGreatDoor.deskNames
open Go.RowKit
set_option linter.unusedVariables false

theorem ok4 : Ev.isStep base st4 (Ev.evCall2 sums4 Tryz.prog 100000 60 st4.f st4.l (Ev.stepIn base st4)) = true := by kernel_rfl
end Go.Proofs.YthjhdjjmpoaceaaGreatDoor.deskNames
