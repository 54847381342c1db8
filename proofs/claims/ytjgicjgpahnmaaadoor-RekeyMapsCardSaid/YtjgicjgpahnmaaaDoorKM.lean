/-
  rekey.why, answered by our machine, whatever item's error comes; the variable 'none'.
-/
import Derived.Test.YtjgicjgpahnmaaaDoorKL
import Derived.Test.YtjgicjgpahnmaaaDoorRows
namespace Go.Proofs.YtjgicjgpahnmaaaDoor
open Go.RowKit Ev
set_option linter.unusedVariables false
noncomputable def rtypeW : TypeId := match Tryd.prog.cutTypes.find? (·.1 == "internal/reflectlite.rtype") with
  | some x => x.2
  | none => 0
noncomputable def baseW : T AObj := (laidMem Tryd.prog (Rows.rekeyGoesUptoRow.laid.filter fun x => x.2.handleName?.isNone)).set 1 (.cells (T.leaf.set 0 (.iface rtypeW (.agg #[typeHandle Tryd.prog 41]))) 1 0 false)
theorem base_hr {w : World} (h : laidMetH Tryd.prog Rows.rekeyGoesUptoRow.laid w) : HR Tryd.prog w E0 baseW 64 w :=
  HR.laidH h (x := ("errors.errorType", Rows.laid_errors_errorType)) (List.mem_of_getElem? (i := 0) rfl) rfl rfl (name := [101, 114, 114, 111, 114]) rfl (by kernel_rfl) (by kernel_rfl) (by kernel_rfl) (by decide) (of_decide_eq_true (by kernel_rfl))
def isRet (r : Tr (Out × Mem)) : Bool := match r with
  | .ok (.ret (.iface _ _), _) => true
  | .ok (.ret .nilIface, _) => true
  | _ => false
theorem isRet_ok {r : Tr (Out × Mem)} (h : isRet r = true) : ∃ v m, r = .ok (.ret v, m) ∧ ∀ E v', VR E v v' → v'.cells = #[v'] := by
  unfold isRet at h
  split at h
  · exact ⟨_, _, rfl, fun E v' h => by cases h; rfl⟩
  · exact ⟨_, _, rfl, fun E v' h => by cases h; rfl⟩
  · cases h
theorem why_ran90 : isRet (evCall2 (fun _ _ _ => none) Tryd.prog 100000 60 29 [.iface 32 (.int .i64 90)] ⟨baseW, 64, 0⟩) = true := by kernel_rfl
theorem why_ran91 : isRet (evCall2 (fun _ _ _ => none) Tryd.prog 100000 60 29 [.iface 32 (.int .i64 91)] ⟨baseW, 64, 0⟩) = true := by kernel_rfl
theorem why_ranP : isRet (evCall2 (fun _ _ _ => none) Tryd.prog 100000 60 29 [.iface 135 (.chan (some 0))] ⟨baseW, 64, 0⟩) = true := by kernel_rfl
theorem why_ranA : isRet (evCall2 (fun _ _ _ => none) Tryd.prog 100000 60 29 [.iface 135 (.agg #[.chan (some 0)])] ⟨baseW, 64, 0⟩) = true := by kernel_rfl
/-- Something comes back. -/
def SomePost (w : World) (e : Ending) (w' : World) : Prop := ∃ v, e = .returned v ∧ v.cells = #[v] ∧ Below w.heap.size w w'
/-- The errors that an item may have. -/
def ItemErr (v : Value) : Prop := v = .iface 32 (.int .i64 90) ∨ v = .iface 32 (.int .i64 91) ∨ (∃ x, x.oneCell' = true ∧ opqOK x = true ∧ v = .iface 135 x) ∨ (∃ x, opqOK x = true ∧ v = .iface 135 (.agg #[x]))
theorem call_some {P : Program} {w : World} {H : T AObj} (hP : Plainly P) (hm : P.follows .mixedOrders = true) (steps n : Nat) (f : FuncId) {l : List Value} {args : Array Value} (h0 : HR P w E0 H 64 w) (hv : VRL E0 l args.toList) (he : isRet (evCall2 (fun _ _ _ => none) P steps n f l ⟨H, 64, 0⟩) = true) : Calls P f args w (SomePost w) := by
  obtain ⟨v, m, hr, hone⟩ := isRet_ok he
  obtain ⟨_, hc⟩ := evCall2_ok hP hm no_sums steps n f _ _ _ _ hr
  refine Calls.mono (hc E0 w args h0 (Nat.zero_le _) hv) fun e w'' ⟨E', _, k2, _, _, k5⟩ => ?_
  cases e with
  | returned v => exact ⟨_, rfl, hone _ _ k5, k2.below⟩
  | _ => exact k5.elim
theorem some_of {w0 w : World} (h : laidMetH Tryd.prog Rows.rekeyGoesUptoRow.laid w0) (hb : Below w0.heap.size w0 w) (steps n : Nat) (f : FuncId) {l : List Value} (hr : isRet (evCall2 (fun _ _ _ => none) Tryd.prog steps n f l ⟨baseW, 64, 0⟩) = true) {args : Array Value} (hv : VRL E0 l args.toList) :
    Calls Tryd.prog f args w (SomePost w) := call_some (plainly_of plainT) mixedT steps n f (HR.at_later (base_hr h) hb) hv hr
theorem why_any {w0 w : World} (h : laidMetH Tryd.prog Rows.rekeyGoesUptoRow.laid w0) (hb : Below w0.heap.size w0 w) {v : Value} (hv : ItemErr v) : Calls Tryd.prog 29 #[v] w (SomePost w) := by
  rcases hv with rfl | rfl | ⟨x, _, hx, rfl⟩ | ⟨x, hx, rfl⟩
  · exact some_of h hb _ _ _ why_ran90 (.cons (.iface _ (.int _ _)) .nil)
  · exact some_of h hb _ _ _ why_ran91 (.cons (.iface _ (.int _ _)) .nil)
  · exact some_of h hb _ _ _ why_ranP (.cons (.iface _ (.opq 0 hx)) .nil)
  · exact some_of h hb _ _ _ why_ranA (.cons (.iface _ (.agg (.cons (.opq 0 hx) .nil))) .nil)
/-- The variable 'none' is there. -/
def NoneMet (w : World) : Prop := ∃ v, w.cell? ⟨0, 0, none⟩ = some v ∧ ItemErr v
end Go.Proofs.YtjgicjgpahnmaaaDoor
