/-
  A call on the way of UcdPrints: it is so.
-/
import Derived.Test.YtccaaniepeohbaaGreatDoorKAT
/-! A call on the way of UcdPrints: it is so. -/
namespace Go.Proofs.YtccaaniepeohbaaGreatDoor.ucdPrints
open Go.RowKit
set_option linter.unusedVariables false

theorem ok0 : Ev.isStep base st0 (Ev.evCall2 sums0 Tryz.prog 100000 60 st0.f st0.l (Ev.stepIn base st0)) = true := by kernel_rfl
end Go.Proofs.YtccaaniepeohbaaGreatDoor.ucdPrints

/-! A call on the way of UcdPrints: it is so. -/
namespace Go.Proofs.YtccaaniepeohbaaGreatDoor.ucdPrints
open Go.RowKit
set_option linter.unusedVariables false

theorem ok1 : Ev.isStep base st1 (Ev.evCall2 sums1 Tryz.prog 100000 60 st1.f st1.l (Ev.stepIn base st1)) = true := by kernel_rfl
end Go.Proofs.YtccaaniepeohbaaGreatDoor.ucdPrints

/-! A call on the way of UcdPrints: it is so. -/
namespace Go.Proofs.YtccaaniepeohbaaGreatDoor.ucdPrints
open Go.RowKit
set_option linter.unusedVariables false

theorem ok2 : Ev.isStep base st2 (Ev.evCall2 sums2 Tryz.prog 100000 60 st2.f st2.l (Ev.stepIn base st2)) = true := by kernel_rfl
end Go.Proofs.YtccaaniepeohbaaGreatDoor.ucdPrints
