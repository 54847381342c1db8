/-
  Calls on the way of UcdNil, all of them.
-/
import Derived.Test.YthlfmpkbdcimkaaGreatDoorUcdOS0
import Derived.Test.YthlfmpkbdcimkaaGreatDoorUcdOS1
import Derived.Test.YthlfmpkbdcimkaaGreatDoorUcdOS2
import Derived.Test.YthlfmpkbdcimkaaGreatDoorUcdOS3
namespace Go.Proofs.YthlfmpkbdcimkaaGreatDoor.ucdNil
open Go.RowKit
set_option linter.unusedVariables false

theorem plain0 : Ev.plainB Tryz.prog = true := by kernel_rfl
theorem mixed0 : Tryz.prog.follows .mixedOrders = true := by kernel_rfl
theorem sums0_ok (w : World) : Ev.SumOK Tryz.prog w sums0 := (Ev.walkSum_ok (Ev.plainly_of plain0) mixed0 Ev.no_sums 15 100000 60)
noncomputable def sums1 : Ev.Sums := Ev.stepSum base st0 sums0
theorem sums1_ok (w : World) : Ev.SumOK Tryz.prog w sums1 := Ev.stepSum_ok (Ev.plainly_of plain0) mixed0 (sums0_ok w) (sums0_ok w) ok0
noncomputable def sums2 : Ev.Sums := Ev.stepSum base st1 sums1
theorem sums2_ok (w : World) : Ev.SumOK Tryz.prog w sums2 := Ev.stepSum_ok (Ev.plainly_of plain0) mixed0 (sums1_ok w) (sums0_ok w) ok1
noncomputable def sums3 : Ev.Sums := Ev.stepSum base st2 sums2
theorem sums3_ok (w : World) : Ev.SumOK Tryz.prog w sums3 := Ev.stepSum_ok (Ev.plainly_of plain0) mixed0 (sums2_ok w) (sums0_ok w) ok2
noncomputable def sums4 : Ev.Sums := Ev.stepSum base st3 sums3
theorem sums4_ok (w : World) : Ev.SumOK Tryz.prog w sums4 := Ev.stepSum_ok (Ev.plainly_of plain0) mixed0 (sums3_ok w) (sums0_ok w) ok3
end Go.Proofs.YthlfmpkbdcimkaaGreatDoor.ucdNil
