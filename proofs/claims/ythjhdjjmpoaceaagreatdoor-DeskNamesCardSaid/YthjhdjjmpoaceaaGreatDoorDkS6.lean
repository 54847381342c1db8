/-
  A call on the way of DeskNames: it is so.
-/
import Derived.Test.YthjhdjjmpoaceaaGreatDoorDkDefs
namespace Go.Proofs.YthjhdjjmpoaceaaGreatDoor.deskNames
open Go.RowKit
set_option linter.unusedVariables false

theorem ok6 : Ev.isStep base st6 (Ev.evCall2 sums6 Tryz.prog 100000 60 st6.f st6.l (Ev.stepIn base st6)) = true := by kernel_rfl
end Go.Proofs.YthjhdjjmpoaceaaGreatDoor.deskNames
