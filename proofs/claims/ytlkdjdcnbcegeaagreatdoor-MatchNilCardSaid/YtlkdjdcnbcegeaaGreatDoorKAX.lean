/-
  A call on the way of MatchNil: it is so.
-/
import Derived.Test.YtlkdjdcnbcegeaaGreatDoorKAV
namespace Go.Proofs.YtlkdjdcnbcegeaaGreatDoor.matchNil
open Go.RowKit
set_option linter.unusedVariables false

theorem ok1 : Ev.isStep base st1 (Ev.evCall2 sums1 Tryz.prog 100000 60 st1.f st1.l (Ev.stepIn base st1)) = true := by kernel_rfl
end Go.Proofs.YtlkdjdcnbcegeaaGreatDoor.matchNil
