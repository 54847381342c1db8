/-
  A call on the way of DeskNames: it is so.
-/
import Derived.Test.YthjhdjjmpoaceaaGreatDoorDkDefs
namespace Go.Proofs.YthjhdjjmpoaceaaGreatDoor.deskNames
open Go.RowKit
set_option linter.unusedVariables false

theorem ok8 : Ev.isStep base st8 (Ev.evCall2 sums8 Tryz.prog 100000 60 st8.f st8.l (Ev.stepIn base st8)) = true := by kernel_rfl
end Go.Proofs.YthjhdjjmpoaceaaGreatDoor.deskNames
