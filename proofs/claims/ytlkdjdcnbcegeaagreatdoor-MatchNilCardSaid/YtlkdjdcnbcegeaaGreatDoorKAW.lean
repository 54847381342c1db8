/-
  A call on the way of MatchNil: it is so.
-/
import Derived.Test.YtlkdjdcnbcegeaaGreatDoorKAV
namespace Go.Proofs.YtlkdjdcnbcegeaaGreatDoor.matchNil
open Go.RowKit
set_option linter.unusedVariables false

theorem ok0 : Ev.isStep base st0 (Ev.evCall2 sums0 Tryz.prog 100000 60 st0.f st0.l (Ev.stepIn base st0)) = true := by kernel_rfl
end Go.Proofs.YtlkdjdcnbcegeaaGreatDoor.matchNil
