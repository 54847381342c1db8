/-
  A call on the way of DeskNames: it is so.
-/
import Derived.Test.YthjhdjjmpoaceaaGreatDoorDkDefs
namespace Go.Proofs.YthjhdjjmpoaceaaGreatDoor.deskNames
open Go.RowKit
set_option linter.unusedVariables false

theorem ok5 : Ev.isStep base st5 (Ev.evCall2 sums5 Tryz.prog 100000 60 st5.f st5.l (Ev.stepIn base st5)) = true := by kernel_rfl
end Go.Proofs.YthjhdjjmpoaceaaGreatDoor.deskNames
