/-
  The law's look at its package, and the count of noughts behind a number, answered by our machine.
-/
import Derived.Test.YtlkdjdcnbcegeaaGreatDoorKAM
import Derived.Test.YtlkdjdcnbcegeaaGreatDoorRows
import Derived.Test.YtlkdjdcnbcegeaaGreatDoorKAN
namespace Go.Proofs.YtlkdjdcnbcegeaaGreatDoor
open Go.RowKit Go.WideShapes Ev
set_option linter.unusedVariables false
theorem plainT : plainB Tryz.prog = true := by kernel_rfl
theorem mixedT : Tryz.prog.follows .mixedOrders = true := by kernel_rfl
theorem call_full {P : Program} {w0 w : World} {E : Env} {H : T AObj} {next : Nat} (hP : Plainly P) (hm : P.follows .mixedOrders = true) (steps n : Nat) (f : FuncId) {l : List Value} {args : Array Value} {v : Value} {m : Mem} (h0 : HR P w0 E H next w) (hv : VRL E l args.toList) (hr : evCall2 (fun _ _ _ => none) P steps n f l ⟨H, next, 0⟩ = .ok (.ret v, m)) :
    Calls P f args w fun e w' => ∃ E' v', E.le E' ∧ HR P w0 E' m.H m.next w' ∧ e = .returned v' ∧ VR E' v v' := by
  obtain ⟨_, hc⟩ := evCall2_ok hP hm no_sums steps n f _ _ _ _ hr
  refine Calls.mono (hc E w args h0 (Nat.zero_le _) hv) fun e w'' ⟨E', k1, k2, _, _, k5⟩ => ?_
  cases e with
  | returned v' => exact ⟨E', v', k1, k2, rfl, k5⟩
  | _ => exact k5.elim
theorem true_full {P : Program} {w : World} {E : Env} {H : T AObj} (hP : Plainly P) (hm : P.follows .mixedOrders = true) (steps n : Nat) (f : FuncId) {l : List Value} {args : Array Value} (h0 : HR P w E H 64 w) (hv : VRL E l args.toList) (he : isTrue (evCall2 (fun _ _ _ => none) P steps n f l ⟨H, 64, 0⟩) = true) :
    Calls P f args w (Ret (.bool true) w) := by
  obtain ⟨m, hr⟩ := isTrue_ok he
  refine Calls.mono (call_full hP hm steps n f h0 hv hr) fun e w' ⟨E', v', _, k2, k3, k4⟩ => ?_
  cases k4
  exact ⟨k3, k2.below⟩
noncomputable def baseW : T AObj := laidMem Tryz.prog (Rows.matchNilRow.laid.filter fun x => x.2.handleName?.isNone)
def isFour : Tr (Out × Mem) → Bool
  | .ok (.ret (.int .i64 4), _) => true
  | _ => false
theorem isFour_ok {t : Tr (Out × Mem)} (h : isFour t = true) : ∃ m, t = .ok (.ret (.int .i64 4), m) := by
  unfold isFour at h
  split at h
  · exact ⟨_, rfl⟩
  · cases h
theorem tz_ran : isFour (evCall2 (fun _ _ _ => none) Tryz.prog 1000 60 168 [.int .u64 16] ⟨baseW, 64, 0⟩) = true := by kernel_rfl
theorem tz_any {w w' : World} (h : laidMetH Tryz.prog Rows.matchNilRow.laid w) (hb : Below w.heap.size w w') : Calls Tryz.prog 168 #[.int .u64 16] w' (Ret (.int .i64 4) w') := by
  obtain ⟨m, hr⟩ := isFour_ok tz_ran
  refine Calls.mono (call_full (plainly_of plainT) mixedT _ _ _ (HR.at_later (HR.laid h) hb) (.cons (.int _ _) .nil) hr) fun e w'' ⟨E', v', _, k2, k3, k4⟩ => ?_
  cases k4
  exact ⟨k3, k2.below⟩
end Go.Proofs.YtlkdjdcnbcegeaaGreatDoor
