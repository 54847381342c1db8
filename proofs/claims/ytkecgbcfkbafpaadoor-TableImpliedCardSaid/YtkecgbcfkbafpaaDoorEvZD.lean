/-
  A closed law by one computation of our machine.
-/
import Derived.Test.YtkecgbcfkbafpaaDoorEvZC
namespace Go.Proofs.YtkecgbcfkbafpaaDoor.Ev
set_option linter.unusedSectionVars false
variable [Sig]
open Go.RowKit
set_option linter.unusedSimpArgs false

variable {P : Program}

def plainB (P : Program) : Bool := P.funcs.toList.all fun fn => decide (fn.name ≠ "runtime.NumGoroutine")
theorem plainly_of (h : plainB P = true) : Plainly P := by
  intro g fn hf
  have := List.all_eq_true.1 h fn (Array.mem_toList_iff.2 (Array.mem_of_getElem? hf))
  exact of_decide_eq_true this
def isTrue : Tr (Out × Mem) → Bool
  | .ok (.ret (.bool true), _) => true
  | _ => false
theorem isTrue_ok {r : Tr (Out × Mem)} (h : isTrue r = true) : ∃ m, r = .ok (.ret (.bool true), m) := by
  unfold isTrue at h
  split at h
  · exact ⟨_, rfl⟩
  · cases h
theorem closed_true (hP : plainB P = true) (hm : P.follows .mixedOrders = true) (w : World) (steps n : Nat) (f : FuncId) (he : isTrue (evCall2 (fun _ _ _ => none) P steps n f [] ⟨.leaf, 64, 0⟩) = true) :
    Calls P f #[] w fun e w' => e = .returned (.bool true) ∧ Below w.heap.size w w' := by
  obtain ⟨m, h⟩ := isTrue_ok he
  exact ev_true (plainly_of hP) hm w no_sums steps n f h
end Go.Proofs.YtkecgbcfkbafpaaDoor.Ev
