/-
  The law's look at its package, answered by our machine in steps; a walk over the map of marks, whichever way.
-/
import Derived.Test.YtccaaniepeohbaaGreatDoorKAM
import Derived.Test.YtccaaniepeohbaaGreatDoorKAV
namespace Go.Proofs.YtccaaniepeohbaaGreatDoor
open Go.RowKit Go.WideShapes Ev
set_option linter.unusedVariables false
theorem awake_ran : Ev.isTrue (Ev.evCall2 ucdPrints.sums3 Tryz.prog 100000 60 9 [] ⟨ucdPrints.base, 64, 0⟩) = true := by kernel_rfl
theorem call_true {P : Program} {w : World} {H : T AObj} (hP : Plainly P) (hm : P.follows .mixedOrders = true) {sm : Sums} (hsm : SumOK P w sm) (steps n : Nat) (f : FuncId) (h0 : HR P w E0 H 64 w) (he : Ev.isTrue (Ev.evCall2 sm P steps n f [] ⟨H, 64, 0⟩) = true) : Calls P f #[] w (Ret (.bool true) w) := by
  obtain ⟨m, hr⟩ := isTrue_ok he
  obtain ⟨_, hc⟩ := evCall2_ok hP hm hsm steps n f [] _ _ _ hr
  refine Calls.mono (hc E0 w #[] h0 (Nat.zero_le _) .nil) fun e w'' ⟨E', _, k2, _, _, k5⟩ => ?_
  cases e with
  | returned v => cases k5; exact ⟨rfl, k2.below⟩
  | _ => exact k5.elim
theorem base_hr {w : World} (h : laidMetH Tryz.prog Rows.ucdPrintsRow.laid w) : HR Tryz.prog w E0 ucdPrints.base 64 w := by
  unfold ucdPrints.base
  exact HR.laid h
theorem awake_any {w w' : World} (h : laidMetH Tryz.prog Rows.ucdPrintsRow.laid w) (hb : Below w.heap.size w w') : Calls Tryz.prog 9 #[] w' (Ret (.bool true) w') :=
  call_true (Ev.plainly_of plainT) mixedT (ucdPrints.sums3_ok w') 100000 60 _ (HR.at_later (base_hr h) hb) awake_ran
end Go.Proofs.YtccaaniepeohbaaGreatDoor
