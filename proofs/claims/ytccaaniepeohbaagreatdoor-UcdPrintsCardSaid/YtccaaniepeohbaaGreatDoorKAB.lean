/-
  A call on the way of UcdPrints: it is so.
-/
import Derived.Test.YtccaaniepeohbaaGreatDoorKAA
namespace Go.Proofs.YtccaaniepeohbaaGreatDoor.ucdPrints
open Go.RowKit
set_option linter.unusedVariables false

theorem ok0 : Ev.isStep base st0 (Ev.evCall2 sums0 Tryz.prog 100000 60 st0.f st0.l (Ev.stepIn base st0)) = true := by kernel_rfl
end Go.Proofs.YtccaaniepeohbaaGreatDoor.ucdPrints
