/-
  Calls on the way of SpaceNil, all of them.
-/
import Derived.Test.YtinonofhladkpaaGreatDoorJSpNS0
import Derived.Test.YtinonofhladkpaaGreatDoorJSpNS1
import Derived.Test.YtinonofhladkpaaGreatDoorJSpNS2
import Derived.Test.YtinonofhladkpaaGreatDoorJSpNS3
import Derived.Test.YtinonofhladkpaaGreatDoorJSpNS4
import Derived.Test.YtinonofhladkpaaGreatDoorJSpNS5
import Derived.Test.YtinonofhladkpaaGreatDoorJSpNS6
import Derived.Test.YtinonofhladkpaaGreatDoorJE
/-! Calls on the way of SpaceNil, all of them. -/
namespace Go.Proofs.YtinonofhladkpaaGreatDoor.spaceNilA
open Go.RowKit
set_option linter.unusedVariables false

theorem plain0 : Ev.plainB Tryz.prog = true := by kernel_rfl
theorem mixed0 : Tryz.prog.follows .mixedOrders = true := by kernel_rfl
theorem sums0_ok (w : World) : Ev.SumOK Tryz.prog w sums0 := (Ev.capSum_ok (Ev.plainly_of plain0) mixed0 Ev.no_sums 83 100000 60)
theorem sums1_ok (w : World) : Ev.SumOK Tryz.prog w sums1 := Ev.stepSum_ok (Ev.plainly_of plain0) mixed0 (sums0_ok w) (sums0_ok w) ok0
theorem sums2_ok (w : World) : Ev.SumOK Tryz.prog w sums2 := Ev.stepSum_ok (Ev.plainly_of plain0) mixed0 (sums1_ok w) (sums1_ok w) ok1
theorem sums3_ok (w : World) : Ev.SumOK Tryz.prog w sums3 := Ev.stepSum_ok (Ev.plainly_of plain0) mixed0 (sums2_ok w) (sums2_ok w) ok2
theorem sums4_ok (w : World) : Ev.SumOK Tryz.prog w sums4 := Ev.stepSum_ok (Ev.plainly_of plain0) mixed0 (sums3_ok w) (sums3_ok w) ok3
theorem sums5_ok (w : World) : Ev.SumOK Tryz.prog w sums5 := Ev.stepSum_ok (Ev.plainly_of plain0) mixed0 (sums4_ok w) (sums4_ok w) ok4
theorem sums6_ok (w : World) : Ev.SumOK Tryz.prog w sums6 := Ev.stepSum_ok (Ev.plainly_of plain0) mixed0 (sums5_ok w) (sums5_ok w) ok5
theorem sums7_ok (w : World) : Ev.SumOK Tryz.prog w sums7 := Ev.stepSum_ok (Ev.plainly_of plain0) mixed0 (sums6_ok w) (sums6_ok w) ok6
end Go.Proofs.YtinonofhladkpaaGreatDoor.spaceNilA

/-! The law's look at the package: true, at every later world. -/
namespace Go.Proofs.YtinonofhladkpaaGreatDoor.spaceNilA
open Go.RowKit Ev
set_option linter.unusedVariables false
theorem awake_ran : Ev.isTrue (Ev.evCall2 sums7 Tryz.prog 100000 60 4 [] ⟨base, 64, 0⟩) = true := by kernel_rfl
theorem base_hr {w : World} (h : laidMetH Tryz.prog Rows.spaceNilRow.laid w) : HR Tryz.prog w E0 base 64 w := by
  unfold base
  exact HR.laid h
theorem call_true {P : Program} {w : World} {H : T AObj} (hP : Plainly P) (hm : P.follows .mixedOrders = true) {sm : Sums} (hsm : SumOK P w sm) (steps n : Nat) (f : FuncId) (h0 : HR P w E0 H 64 w) (he : Ev.isTrue (Ev.evCall2 sm P steps n f [] ⟨H, 64, 0⟩) = true) : Calls P f #[] w (TruePost w) := by
  obtain ⟨m, hr⟩ := isTrue_ok he
  obtain ⟨_, hc⟩ := evCall2_ok hP hm hsm steps n f [] _ _ _ hr
  refine Calls.mono (hc E0 w #[] h0 (Nat.zero_le _) .nil) fun e w'' ⟨E', _, k2, _, _, k5⟩ => ?_
  cases e with
  | returned v => cases k5; exact ⟨rfl, k2.below⟩
  | _ => exact k5.elim
theorem awake_any {w w' : World} (h : laidMetH Tryz.prog Rows.spaceNilRow.laid w) (hb : Below w.heap.size w w') : Calls Tryz.prog 4 #[] w' (TruePost w') :=
  call_true (Ev.plainly_of plain0) mixed0 (sums7_ok w') 100000 60 _ (HR.at_later (base_hr h) hb) awake_ran
end Go.Proofs.YtinonofhladkpaaGreatDoor.spaceNilA
