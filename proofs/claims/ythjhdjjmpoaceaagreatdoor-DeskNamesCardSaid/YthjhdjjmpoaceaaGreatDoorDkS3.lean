/-
  A call on the way of DeskNames: it is so.
-/
import Derived.Test.YthjhdjjmpoaceaaGreatDoorDkDefs
namespace Go.Proofs.YthjhdjjmpoaceaaGreatDoor.deskNames
open Go.RowKit
set_option linter.unusedVariables false

theorem ok3 : Ev.isStep base st3 (Ev.evCall2 sums3 Tryz.prog 100000 60 st3.f st3.l (Ev.stepIn base st3)) = true := by kernel_rfl
end Go.Proofs.YthjhdjjmpoaceaaGreatDoor.deskNames
