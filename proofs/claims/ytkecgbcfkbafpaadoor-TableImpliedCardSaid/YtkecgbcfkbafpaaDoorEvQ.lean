/-
  Guards, results: ours stand for the model's.
-/
import Derived.Test.YtkecgbcfkbafpaaDoorEvP
namespace Go.Proofs.YtkecgbcfkbafpaaDoor.Ev
set_option linter.unusedSectionVars false
variable [Sig]
open Go.RowKit
set_option linter.unusedSimpArgs false

variable {P : Program} {w0 w : World} {E : Env} {m : Mem}

theorem yieldedE_eq {tm : T Value} {nt : Nat} {a : Act} (ha : AR E tm nt a) (ops : Array Oper) (j : Nat) : yielded ops a.tmps j = yieldedE ops tm j := by
  unfold yielded yieldedE
  cases hd : (ops[j]?).bind (·.dst) with
  | none => rfl
  | some t =>
    have hg := ha.get t
    simp only [Option.bind_some]
    rw [Array.getD_eq_getD_getElem?] at hg
    cases h1 : tm.get t with
    | none =>
      rw [h1] at hg
      simp only [Option.getD_none] at hg
      cases h2 : a.tmps[t]? with
      | none => rfl
      | some u => rw [h2] at hg; simp only [Option.getD_some] at hg; cases hg; rfl
    | some v =>
      rw [h1] at hg
      simp only [Option.getD_some] at hg
      cases h2 : a.tmps[t]? with
      | none =>
        rw [h2] at hg; simp only [Option.getD_none] at hg
        cases hg <;> first | rfl | (rename_i k h; exact absurd h Bool.false_ne_true)
      | some u =>
        rw [h2] at hg; simp only [Option.getD_some] at hg
        cases hg <;> first | rfl | (rename_i k h; cases u <;> first | rfl | exact absurd h Bool.false_ne_true)
theorem wantedE {tm : T Value} {nt : Nat} {a : Act} (ha : AR E tm nt a) (ops : Array Oper) (o : Oper) : Region.wanted o (yielded ops a.tmps) = Region.wanted o (yieldedE ops tm) := by
  rw [show yielded ops a.tmps = yieldedE ops tm from funext fun j => yieldedE_eq ha ops j]
end Go.Proofs.YtkecgbcfkbafpaaDoor.Ev
