/-
  The card of DeskNames: no goroutine. No conditions.
-/
import Derived.Test.YthjhdjjmpoaceaaGreatDoorRows
import Derived.Test.YthjhdjjmpoaceaaGreatDoorCards
import Derived.WalkKit
import Derived.ProofKit
import Derived.OpenShut
import Derived.LaidLaws
import Derived.LaidHandle
import Derived.LaidMore
import Derived.Lay
import Derived.SevenTiedAt
import Derived.Stop.Joined
import Derived.JoinedOf
namespace Go.Proofs.YthjhdjjmpoaceaaGreatDoor.deskNames
open Go.ChangeShapes Go.WideShapes Go.ChangeAt Go.RowKit
set_option linter.unusedVariables false

theorem noGo : (Tryz.pinned.checked.prog.funcs.any Func.goes) = false := by kernel_rfl
theorem goes_no {P : Program} (h : P.funcs.any Func.goes = false) (f : FuncId) : P.goes f = false := by
  unfold Program.goes
  rw [h, Bool.and_false, Bool.or_false, List.any_eq_false]
  intro g _ hg
  cases hf : P.funcs[g]? with
  | none => rw [hf] at hg; simp at hg
  | some fn =>
    rw [hf] at hg
    simp only [Option.any_some] at hg
    have hm : fn ∈ P.funcs := Array.mem_of_getElem? hf
    have := Array.any_eq_false'.1 h fn hm
    exact this hg
theorem goesBy_no {P : Program} (h : P.funcs.any Func.goes = false) (c : OpenClaim) (hs : c.start = .entering) : false = c.goesBy P := by
  unfold OpenClaim.goesBy Program.goesAt Program.goesFrom
  rw [hs]
  cases P.funcNamed c.func with
  | none => rfl
  | some f => simp [goes_no h f]
theorem cardD : false = Rows.deskNamesRow.goesBy Tryz.pinned.checked.prog := goesBy_no noGo _ rfl
end Go.Proofs.YthjhdjjmpoaceaaGreatDoor.deskNames
