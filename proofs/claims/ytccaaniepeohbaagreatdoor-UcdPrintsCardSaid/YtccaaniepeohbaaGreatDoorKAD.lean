/-
  A call on the way of UcdPrints: it is so.
-/
import Derived.Test.YtccaaniepeohbaaGreatDoorKAA
namespace Go.Proofs.YtccaaniepeohbaaGreatDoor.ucdPrints
open Go.RowKit
set_option linter.unusedVariables false

theorem ok2 : Ev.isStep base st2 (Ev.evCall2 sums2 Tryz.prog 100000 60 st2.f st2.l (Ev.stepIn base st2)) = true := by kernel_rfl
end Go.Proofs.YtccaaniepeohbaaGreatDoor.ucdPrints
