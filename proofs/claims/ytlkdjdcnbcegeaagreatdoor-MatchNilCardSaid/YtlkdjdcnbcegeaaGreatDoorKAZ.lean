/-
  Calls on the way of MatchNil, all of them.
-/
import Derived.Test.YtlkdjdcnbcegeaaGreatDoorKAW
import Derived.Test.YtlkdjdcnbcegeaaGreatDoorKAX
import Derived.Test.YtlkdjdcnbcegeaaGreatDoorKAY
import Derived.Test.YtlkdjdcnbcegeaaGreatDoorKAO
/-! Calls on the way of MatchNil, all of them. -/
namespace Go.Proofs.YtlkdjdcnbcegeaaGreatDoor.matchNil
open Go.RowKit
set_option linter.unusedVariables false

theorem plain0 : Ev.plainB Tryz.prog = true := by kernel_rfl
theorem mixed0 : Tryz.prog.follows .mixedOrders = true := by kernel_rfl
theorem sums0_ok (w : World) : Ev.SumOK Tryz.prog w sums0 := Ev.no_sums
theorem sums1_ok (w : World) : Ev.SumOK Tryz.prog w sums1 := Ev.stepSum_ok (Ev.plainly_of plain0) mixed0 (sums0_ok w) (sums0_ok w) ok0
theorem sums2_ok (w : World) : Ev.SumOK Tryz.prog w sums2 := Ev.stepSum_ok (Ev.plainly_of plain0) mixed0 (sums1_ok w) (sums1_ok w) ok1
theorem sums3_ok (w : World) : Ev.SumOK Tryz.prog w sums3 := Ev.stepSum_ok (Ev.plainly_of plain0) mixed0 (sums2_ok w) (sums2_ok w) ok2
theorem sums4_ok (w : World) : Ev.SumOK Tryz.prog w sums4 := Ev.stepSum_ok (Ev.plainly_of plain0) mixed0 (sums3_ok w) (sums3_ok w) ok3
theorem sums5_ok (w : World) : Ev.SumOK Tryz.prog w sums5 := Ev.stepSum_ok (Ev.plainly_of plain0) mixed0 (sums4_ok w) (sums4_ok w) ok4
end Go.Proofs.YtlkdjdcnbcegeaaGreatDoor.matchNil

/-! The law's look at its package, answered by our machine in steps. -/
namespace Go.Proofs.YtlkdjdcnbcegeaaGreatDoor
open Go.RowKit Go.WideShapes Ev
set_option linter.unusedVariables false
theorem mawake_ran : Ev.isTrue (Ev.evCall2 matchNil.sums5 Tryz.prog 100000 60 12 [] ⟨matchNil.base, 64, 0⟩) = true := by kernel_rfl
theorem call_true {P : Program} {w : World} {H : T AObj} (hP : Plainly P) (hm : P.follows .mixedOrders = true) {sm : Sums} (hsm : SumOK P w sm) (steps n : Nat) (f : FuncId) (h0 : HR P w E0 H 64 w) (he : Ev.isTrue (Ev.evCall2 sm P steps n f [] ⟨H, 64, 0⟩) = true) : Calls P f #[] w (Ret (.bool true) w) := by
  obtain ⟨m, hr⟩ := isTrue_ok he
  obtain ⟨_, hc⟩ := evCall2_ok hP hm hsm steps n f [] _ _ _ hr
  refine Calls.mono (hc E0 w #[] h0 (Nat.zero_le _) .nil) fun e w'' ⟨E', _, k2, _, _, k5⟩ => ?_
  cases e with
  | returned v => cases k5; exact ⟨rfl, k2.below⟩
  | _ => exact k5.elim
theorem mbase_hr {w : World} (h : laidMetH Tryz.prog Rows.matchNilRow.laid w) : HR Tryz.prog w E0 matchNil.base 64 w := by
  unfold matchNil.base
  exact HR.laid h
theorem mawake_any {w w' : World} (h : laidMetH Tryz.prog Rows.matchNilRow.laid w) (hb : Below w.heap.size w w') : Calls Tryz.prog 12 #[] w' (Ret (.bool true) w') :=
  call_true (Ev.plainly_of plainT) mixedT (matchNil.sums5_ok w') 100000 60 _ (HR.at_later (mbase_hr h) hb) mawake_ran
end Go.Proofs.YtlkdjdcnbcegeaaGreatDoor
