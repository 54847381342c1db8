/-
  Results: ours stand for the model's.
-/
import Derived.Test.YtkecgbcfkbafpaaDoorEvQ
namespace Go.Proofs.YtkecgbcfkbafpaaDoor.Ev
set_option linter.unusedSectionVars false
variable [Sig]
open Go.RowKit
set_option linter.unusedSimpArgs false

variable {P : Program} {w0 w : World} {E : Env} {m : Mem}

theorem evResult_run (h : HR P w0 E m.H m.next w) {tm : T Value} {nt : Nat} {a : Act} (ha : AR E tm nt a) : ∀ (rs : List ResultVar) (l : List Value), evResult P m tm rs = some l →
    ∃ l', (rs.mapM (fun | ResultVar.tmp t => pure (a.tmps.getD t Go.undef) | .cell x t => do loadVar t (← asAddr (a.tmps.getD x Go.undef)) : ResultVar → Sem Value)).run P w = .ok l' w ∧ VRL E l l' := by
  intro rs
  induction rs with
  | nil => intro l e; simp only [evResult, Option.some.injEq] at e; subst e; exact ⟨[], rfl, .nil⟩
  | cons r rs ih =>
    intro l e
    cases r with
    | tmp t =>
      simp only [evResult] at e
      cases hr : evResult P m tm rs with
      | none => rw [hr] at e; cases e
      | some l0 =>
        rw [hr] at e
        simp only [Option.some.injEq] at e
        subst e
        obtain ⟨l', h1, h2⟩ := ih l0 hr
        refine ⟨a.tmps.getD t Go.undef :: l', ?_, .cons (ha.get t) h2⟩
        simp only [List.mapM_cons, Sem.run_bind, Sem.run_pure, Result.andThen, h1]
    | cell x t =>
      simp only [evResult] at e
      cases hl : exLoad P m.H t ((tm.get x).getD Go.undef) with
      | none => rw [hl] at e; simp at e
      | some v =>
        rw [hl] at e
        cases hr : evResult P m tm rs with
        | none => rw [hr] at e; simp at e
        | some l0 =>
          rw [hr] at e
          simp only [Option.some.injEq] at e
          subst e
          obtain ⟨l', h1, h2⟩ := ih l0 hr
          obtain ⟨v', k1, k2⟩ := exLoad_run h (ha.get x) hl
          refine ⟨v' :: l', ?_, .cons k2 h2⟩
          have k3 : (do loadVar t (← asAddr (a.tmps.getD x Go.undef)) : Sem Value).run P w = .ok v' w := by
            have hg := ha.get x
            generalize a.tmps.getD x Go.undef = q at hg k1 ⊢
            generalize (tm.get x).getD Go.undef = qa at hg hl
            cases hg <;> first | (simp [exLoad] at hl; done) | exact k1
          rw [Sem.run_bind] at k3
          simp only [List.mapM_cons, Sem.run_bind, Sem.run_pure, Result.andThen, h1] at k3 ⊢
          rw [k3]
          simp only [h1]
end Go.Proofs.YtkecgbcfkbafpaaDoor.Ev
