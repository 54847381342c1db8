/-
  A call on the way of MatchNil: it is so.
-/
import Derived.Test.YtlkdjdcnbcegeaaGreatDoorKAV
/-! A call on the way of MatchNil: it is so. -/
namespace Go.Proofs.YtlkdjdcnbcegeaaGreatDoor.matchNil
open Go.RowKit
set_option linter.unusedVariables false

theorem ok2 : Ev.isStep base st2 (Ev.evCall2 sums2 Tryz.prog 100000 60 st2.f st2.l (Ev.stepIn base st2)) = true := by kernel_rfl
end Go.Proofs.YtlkdjdcnbcegeaaGreatDoor.matchNil

/-! A call on the way of MatchNil: it is so. -/
namespace Go.Proofs.YtlkdjdcnbcegeaaGreatDoor.matchNil
open Go.RowKit
set_option linter.unusedVariables false

theorem ok3 : Ev.isStep base st3 (Ev.evCall2 sums3 Tryz.prog 100000 60 st3.f st3.l (Ev.stepIn base st3)) = true := by kernel_rfl
end Go.Proofs.YtlkdjdcnbcegeaaGreatDoor.matchNil

/-! A call on the way of MatchNil: it is so. -/
namespace Go.Proofs.YtlkdjdcnbcegeaaGreatDoor.matchNil
open Go.RowKit
set_option linter.unusedVariables false

theorem ok4 : Ev.isStep base st4 (Ev.evCall2 sums4 Tryz.prog 100000 60 st4.f st4.l (Ev.stepIn base st4)) = true := by kernel_rfl
end Go.Proofs.YtlkdjdcnbcegeaaGreatDoor.matchNil
