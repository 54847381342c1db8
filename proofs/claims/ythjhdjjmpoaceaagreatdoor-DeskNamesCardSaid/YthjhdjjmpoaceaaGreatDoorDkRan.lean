/-
  The law DeskNames runs to true over what its row lists.
-/
import Derived.Test.YthjhdjjmpoaceaaGreatDoorDkS0
import Derived.Test.YthjhdjjmpoaceaaGreatDoorDkS1
import Derived.Test.YthjhdjjmpoaceaaGreatDoorDkS2
import Derived.Test.YthjhdjjmpoaceaaGreatDoorDkS3
import Derived.Test.YthjhdjjmpoaceaaGreatDoorDkS4
import Derived.Test.YthjhdjjmpoaceaaGreatDoorDkS5
import Derived.Test.YthjhdjjmpoaceaaGreatDoorDkS6
import Derived.Test.YthjhdjjmpoaceaaGreatDoorDkS7
import Derived.Test.YthjhdjjmpoaceaaGreatDoorDkS8
import Derived.Test.YthjhdjjmpoaceaaGreatDoorJE
namespace Go.Proofs.YthjhdjjmpoaceaaGreatDoor.deskNames
open Go.RowKit
set_option linter.unusedVariables false

theorem plain0 : Ev.plainB Tryz.prog = true := by kernel_rfl
theorem mixed0 : Tryz.prog.follows .mixedOrders = true := by kernel_rfl
theorem sums0_ok (w : World) : Ev.SumOK Tryz.prog w sums0 := Ev.no_sums
theorem sums1_ok (w : World) : Ev.SumOK Tryz.prog w sums1 := Ev.stepSum_ok (Ev.plainly_of plain0) mixed0 (sums0_ok w) (sums0_ok w) ok0
theorem sums2_ok (w : World) : Ev.SumOK Tryz.prog w sums2 := Ev.stepSum_ok (Ev.plainly_of plain0) mixed0 (sums1_ok w) (sums1_ok w) ok1
theorem sums3_ok (w : World) : Ev.SumOK Tryz.prog w sums3 := Ev.stepSum_ok (Ev.plainly_of plain0) mixed0 (sums2_ok w) (sums2_ok w) ok2
theorem sums4_ok (w : World) : Ev.SumOK Tryz.prog w sums4 := Ev.stepSum_ok (Ev.plainly_of plain0) mixed0 (sums3_ok w) (sums3_ok w) ok3
theorem sums5_ok (w : World) : Ev.SumOK Tryz.prog w sums5 := Ev.stepSum_ok (Ev.plainly_of plain0) mixed0 (sums4_ok w) (sums4_ok w) ok4
theorem sums6_ok (w : World) : Ev.SumOK Tryz.prog w sums6 := Ev.stepSum_ok (Ev.plainly_of plain0) mixed0 (sums5_ok w) (sums5_ok w) ok5
theorem sums7_ok (w : World) : Ev.SumOK Tryz.prog w sums7 := Ev.stepSum_ok (Ev.plainly_of plain0) mixed0 (sums6_ok w) (sums6_ok w) ok6
theorem sums8_ok (w : World) : Ev.SumOK Tryz.prog w sums8 := Ev.stepSum_ok (Ev.plainly_of plain0) mixed0 (sums7_ok w) (sums7_ok w) ok7
theorem sums9_ok (w : World) : Ev.SumOK Tryz.prog w sums9 := Ev.stepSum_ok (Ev.plainly_of plain0) mixed0 (sums8_ok w) (sums8_ok w) ok8
theorem call_true {P : Program} {w : World} {H : Ev.T Ev.AObj} (hP : Ev.Plainly P) (hm : P.follows .mixedOrders = true) {sm : Ev.Sums} (hsm : Ev.SumOK P w sm) (steps n : Nat) (f : FuncId) (h0 : Ev.HR P w Ev.E0 H 64 w) (he : Ev.isTrue (Ev.evCall2 sm P steps n f [] ⟨H, 64, 0⟩) = true) : Calls P f #[] w (TruePost w) := by
  obtain ⟨m, hr⟩ := Ev.isTrue_ok he
  obtain ⟨_, hc⟩ := Ev.evCall2_ok hP hm hsm steps n f [] _ _ _ hr
  refine Calls.mono (hc Ev.E0 w #[] h0 (Nat.zero_le _) .nil) fun e w'' ⟨E', _, k2, _, _, k5⟩ => ?_
  cases e with
  | returned v => cases k5; exact ⟨rfl, k2.below⟩
  | _ => exact k5.elim
theorem laid_hr {w : World} (h : laidMetH Tryz.prog Rows.deskNamesRow.laid w) : Ev.HR Tryz.prog w Ev.E0 base 64 w :=
  Ev.HR.laidH h (x := ("errors.errorType", Rows.laid_errors_errorType)) (List.mem_of_getElem? (i := 8) rfl) rfl rfl (name := [101, 114, 114, 111, 114]) rfl (by kernel_rfl) (by kernel_rfl) (by kernel_rfl) (by decide) (of_decide_eq_true (by kernel_rfl))
theorem ran : Ev.isTrue (Ev.evCall2 sums9 Tryz.prog 100000 60 3 [] ⟨base, 64, 0⟩) = true := by kernel_rfl
theorem walk {w : World} (h : laidMetH Tryz.prog Rows.deskNamesRow.laid w) : Calls Tryz.prog 3 #[] w (TruePost w) := call_true (Ev.plainly_of plain0) mixed0 (sums9_ok w) 100000 60 _ (laid_hr h) ran
end Go.Proofs.YthjhdjjmpoaceaaGreatDoor.deskNames
