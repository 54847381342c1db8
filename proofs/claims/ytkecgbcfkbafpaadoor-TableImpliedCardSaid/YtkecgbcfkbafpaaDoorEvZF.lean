/-
  A world whose variables hold what a row lists: a handle beside data.
-/
import Derived.Lay
import Derived.LaidMore
import Derived.LaidHandle
import Derived.Stop.Joined
import Derived.Test.YtkecgbcfkbafpaaDoorEvZE
namespace Go.Proofs.YtkecgbcfkbafpaaDoor.Ev
set_option linter.unusedSectionVars false
variable [Sig]
open Go.RowKit
set_option linter.unusedSimpArgs false

noncomputable def handled (P : Program) (os : Os) : World :=
  match P.globalNamed "errors.errorType", (P.cutTypes.find? (·.1 == "internal/reflectlite.rtype")).map (·.2), (List.range P.types.size).find? fun t => P.rowNamed t [101, 114, 114, 111, 114] with
  | some g, some u, some ty => { World.holding P os ⟨#[], #[], []⟩ with heap := (World.holding P os ⟨#[], #[], []⟩).heap.modify g fun
      | .cells _ t fz => .cells #[.iface u (.agg #[typeHandle P ty])] t fz
      | o => o }
  | _, _, _ => World.holding P os ⟨#[], #[], []⟩
theorem handled_os (P : Program) (os : Os) : (handled P os).os = os := by
  unfold handled
  split <;> rfl
noncomputable def handWorld (P : Program) (os : Os) (laid : List (String × DataW Unit)) : World := (handled P os).layVars P (laid.filter fun x => x.2.handleName?.isNone)
theorem handWorld_os (P : Program) (os : Os) (laid : List (String × DataW Unit)) : (handWorld P os laid).os = os := (World.layVars_os _ _ _).trans (handled_os P os)
theorem hand_met {P : Program} {os : Os} {laid : List (String × DataW Unit)} (args : Array Value)
    (hf : (handled P os).layFits P (laid.filter fun x => x.2.handleName?.isNone) [] = true)
    (hi : (handled P os).layIfaces P (laid.filter fun x => x.2.handleName?.isNone) (handWorld P os laid) = true)
    (hh : (laid.filter fun x => x.2.handleName?.isSome).all (handleAtB P (handWorld P os laid)) = true) :
    laidMetH P laid ((handWorld P os laid).forCall (fun _ _ => 0) ⟨#[], args, []⟩).memory := by
  have key : laidMetH P laid (handWorld P os laid) := by
    refine laidMetH_of_parts ?_ hh
    generalize hl : (laid.filter fun x => x.2.handleName?.isNone) = l at hf hi ⊢
    have e1 : (l.filter fun x => (l.map (·.1)).contains x.1) = l := List.filter_eq_self.2 fun x hx => List.contains_iff_mem.2 (List.mem_map.2 ⟨x, hx, rfl⟩)
    have e2 : (l.filter fun x => !(l.map (·.1)).contains x.1) = [] := List.filter_eq_nil_iff.2 fun x hx => by rw [List.contains_iff_mem.2 (List.mem_map.2 ⟨x, hx, rfl⟩)]; simp
    refine laidMet_layVars (w0 := handled P os) (l.map (·.1)) [] (by rw [e1, handWorld, hl]) (by rw [e1]; exact hf) (by rw [e1]; exact hi) (by rw [e2]; exact LaidIn.none)
  exact laidMetH.of_heap (by simp [World.memory, World.forCall, Input.heap]) key
end Go.Proofs.YtkecgbcfkbafpaaDoor.Ev
