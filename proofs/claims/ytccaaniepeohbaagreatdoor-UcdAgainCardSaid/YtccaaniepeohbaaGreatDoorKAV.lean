/-
  Calls on the way of UcdPrints, all of them.
-/
import Derived.Test.YtccaaniepeohbaaGreatDoorKAU
namespace Go.Proofs.YtccaaniepeohbaaGreatDoor.ucdPrints
open Go.RowKit
set_option linter.unusedVariables false

theorem plain0 : Ev.plainB Tryz.prog = true := by kernel_rfl
theorem mixed0 : Tryz.prog.follows .mixedOrders = true := by kernel_rfl
theorem sums0_ok (w : World) : Ev.SumOK Tryz.prog w sums0 := (Ev.walkSum_ok (Ev.plainly_of plain0) mixed0 Ev.no_sums 13 100000 60)
theorem sums1_ok (w : World) : Ev.SumOK Tryz.prog w sums1 := Ev.stepSum_ok (Ev.plainly_of plain0) mixed0 (sums0_ok w) (sums0_ok w) ok0
theorem sums2_ok (w : World) : Ev.SumOK Tryz.prog w sums2 := Ev.stepSum_ok (Ev.plainly_of plain0) mixed0 (sums1_ok w) (sums1_ok w) ok1
theorem sums3_ok (w : World) : Ev.SumOK Tryz.prog w sums3 := Ev.stepSum_ok (Ev.plainly_of plain0) mixed0 (sums2_ok w) (sums2_ok w) ok2
end Go.Proofs.YtccaaniepeohbaaGreatDoor.ucdPrints
