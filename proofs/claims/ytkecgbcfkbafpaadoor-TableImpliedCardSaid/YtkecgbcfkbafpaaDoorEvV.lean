/-
  One operation, calls too: what our machine does stands for what the model does.
-/
import Derived.Test.YtkecgbcfkbafpaaDoorEvU
namespace Go.Proofs.YtkecgbcfkbafpaaDoor.Ev
set_option linter.unusedSectionVars false
variable [Sig]
open Go.RowKit
set_option linter.unusedSimpArgs false

variable {P : Program} {w0 w : World} {E : Env} {m : Mem}

/-- A deferred call that stands for one. -/
def DOne (P : Program) (E : Env) : Df → Deferred → Prop
  | .fn f l, d => ∃ cap args, d.target = .fn (.func f) cap ∧ (∀ w, (invoke d.target d.args).run P w = .ok (.enter f args) w) ∧ VRL E l args.toList
  | .mark D, d => ∃ b, E.blk D = some b ∧ d.target = .collected b
theorem DOne.monoT {E E' : Env} {x : Df} {d : Deferred} (h : E.To E') (k : DOne P E x d) : DOne P E' x d := by
  cases x with
  | fn f l =>
    obtain ⟨cap, args, h1, h2, h3⟩ := k
    exact ⟨cap, args, h1, h2, h3.monoT h⟩
  | mark D =>
    obtain ⟨b, h1, h2⟩ := k
    exact ⟨b, (h D b h1).1, h2⟩
theorem DOne.mono {E E' : Env} {x : Df} {d : Deferred} (h : E.le E') (k : DOne P E x d) : DOne P E' x d := k.monoT h.T
inductive DR (P : Program) (E : Env) : List Df → List Deferred → Prop where
  | nil : DR P E [] []
  | cons {x : Df} {d : Deferred} {xs : List Df} {ds : List Deferred} (h : DOne P E x d) (t : DR P E xs ds) : DR P E (x :: xs) (d :: ds)
theorem DR.monoT {E E' : Env} {xs : List Df} {ds : List Deferred} (h : E.To E') (k : DR P E xs ds) : DR P E' xs ds := by
  induction k with
  | nil => exact .nil
  | cons a _ ih => exact .cons (a.monoT h) ih
theorem DR.mono {E E' : Env} {xs : List Df} {ds : List Deferred} (h : E.le E') (k : DR P E xs ds) : DR P E' xs ds := k.monoT h.T
/-- How a call of the model's ends, and one of ours. -/
def OutR (E : Env) : Out → Ending → Prop
  | .ret v, .returned v' => VR E v v'
  | .pan v, .panicked ch => ∃ v', ch = [{ v := v', recovered := false }] ∧ VR E v v'
  | _, _ => False
/-- Whatever 'call' answers is so. -/
def CallOK (P : Program) (w0 : World) (call : Call2) : Prop :=
  ∀ (f : FuncId) (l : List Value) (m : Mem) (out : Out) (m' : Mem), call f l m = .ok (out, m') →
    (∃ fn, P.funcs[f]? = some fn ∧ fn.body.isSome = true) ∧
    ∀ (E : Env) (w : World) (args : Array Value), HR P w0 E m.H m.next w → m.lo ≤ m.next → VRL E l args.toList →
      Calls P f args w fun e w' => ∃ E', E.le E' ∧ HR P w0 E' m'.H m'.next w' ∧ m'.lo = m.lo ∧ m.next ≤ m'.next ∧ OutR E' out e
/-- What an operation must lead to. -/
def StepTo (P : Program) (w0 : World) (E : Env) (m : Mem) (a : Act) (w : World) (o : Oper) (next : Act → World → Prop) (Q : Exit → Act → World → Prop) : Did → Prop
  | .val v m' => ∀ E' v' w', E.le E' → HR P w0 E' m'.H m'.next w' → VR E' v v' → m'.lo = m.lo → m.next ≤ m'.next → next (a.put o.dst v') w'
  | .pan v m' => ∀ E' v' w', E.le E' → HR P w0 E' m'.H m'.next w' → VR E' v v' → m'.lo = m.lo → m.next ≤ m'.next → Q (.panic [{ v := v', recovered := false }]) a w'
  | .later x => ∀ d, DOne P E x d → next ({ a with defers := d :: a.defers }.put o.dst Go.undef) w

theorem exOp_wp (h : HR P w0 E m.H m.next w) (hlo : m.lo ≤ m.next) {tm : T Value} {nt : Nat} {a : Act} (ha : AR E tm nt a) {o : Oper} {v : Value} {m' : Mem} (he : exOp P m tm o = some (v, m'))
    {next : Act → World → Prop} {Q : Exit → Act → World → Prop} (hn : StepTo P w0 E m a w o next Q (.val v m')) : o.wp P a w next Q := by
  obtain ⟨E', v', w', h1, h2, h3, h4, _, h6, h7⟩ := exOp_run h hlo ha he
  unfold Oper.wp
  rcases h1 with h1 | ⟨h1, rfl⟩
  · rw [h1]; exact hn E' v' w' h2 h3 h4 h6 h7
  · rw [h1]; exact hn E' _ w' h2 h3 h4 h6 h7
theorem isFuncCall_op {o : Op} {c : Call} (h : isFuncCall o = some c) : o = .call c := by
  unfold isFuncCall at h
  split at h
  · cases h
  · injection h with h; rw [h]
  · cases h
theorem exStep2_wp (hP : Plainly P) {call : Call2} (hcall : CallOK P w0 call) (h : HR P w0 E m.H m.next w) (hlo : m.lo ≤ m.next) {tm : T Value} {nt : Nat} {a : Act} (ha : AR E tm nt a) {o : Oper} {d : Did}
    (he : exStep2 call P m tm o = .ok d) {next : Act → World → Prop} {Q : Exit → Act → World → Prop} (hn : StepTo P w0 E m a w o next Q d) : o.wp P a w next Q := by
  unfold exStep2 at he
  split at he
  · rename_i c ho
    split at he
    · rename_i x hx
      injection he with he
      subst he
      unfold exLater at hx
      split at hx
      · rename_i y hc
        split at hx
        · rename_i g l hg
          split at hx
          · rename_i fn hf
            split at hx
            · rename_i hb
              injection hx with hx
              subst hx
              obtain ⟨d, cap, args, h1, h2, h3, h4⟩ := exCallee_value ha hc hg o.type
              have hrun : (execOp a.eval o).run P w = .ok (.defer d) w := by
                unfold execOp
                rw [ho]
                simp only [Sem.run_bind, h1, Result.andThen, Sem.run_pure]
              unfold Oper.wp
              rw [hrun]
              exact hn d ⟨cap, args, h2, fun w => by rw [h3 w]; exact callFunc_run hP hf hb args w, h4⟩
            · cases hx
          · cases hx
        · cases hx
      · cases hx
    · cases he
  · rename_i x ho
    split at he
    · rename_i t v hx
      injection he with he
      subst he
      have hv := ev_VR ha hx
      generalize hy : a.eval x = y at hv
      cases hv with
      | @iface _ _ v' hv =>
        have hrun : (execOp a.eval o).run P w = .halt (.panic (.iface t v')) w := by
          unfold execOp
          rw [ho]
          simp [Sem.run_bind, hy, Instr.panic, goPanic, Sem.run, Result.andThen]
        unfold Oper.wp
        rw [hrun]
        exact hn E (.iface t v') w E.le_refl h (.iface t hv) rfl (Nat.le_refl _)
    · cases he
  · split at he
    · rename_i c hc
      split at he
      · rename_i g l hg
        have key : ∀ out m', call g l m = .ok (out, m') → (∀ E' w' e, E.le E' → HR P w0 E' m'.H m'.next w' → m'.lo = m.lo → m.next ≤ m'.next → OutR E' out e → match e with
            | .returned v' => next (a.put o.dst v') w'
            | .panicked ch => Q (.panic ch) a w'
            | .outgrown => False) → o.wp P a w next Q := by
          intro out m' hcl hk
          obtain ⟨⟨fn, hf, hb⟩, hC⟩ := hcall g l m out m' hcl
          obtain ⟨args, h1, h2⟩ := exCallee_run hP h ha hg hf hb o.type
          have hrun : (execOp a.eval o).run P w = .ok (.enter g args) w := by
            unfold execOp
            rw [isFuncCall_op hc]
            exact h1
          unfold Oper.wp
          rw [hrun]
          refine Calls.mono (hC E w args h hlo h2) fun e w' ⟨E', k1, k2, k3, k4, k5⟩ => ?_
          have := hk E' w' e k1 k2 k3 k4 k5
          cases e with
          | returned v => exact this
          | panicked ch => exact this
          | outgrown => exact this.elim
        split at he
        · rename_i v m' hex
          injection he with he
          subst he
          obtain ⟨args, h1, h2⟩ := exCallee_any h ha hg o.type
          obtain ⟨E', v', w', k0, k1, k2, k3, _, k5, k6⟩ := exExt_run hP h hlo h2 hex
          have hrun : (execOp a.eval o).run P w = (callFunc g args).run P w := by
            unfold execOp
            rw [isFuncCall_op hc]
            exact h1
          unfold Oper.wp
          rw [hrun]
          rcases k0 with k0 | ⟨k0, rfl⟩
          · rw [k0]; exact hn E' v' w' k1 k2 k3 k5 k6
          · rw [k0]; exact hn E' _ w' k1 k2 k3 k5 k6
        split at he
        · rename_i v m' hcl
          injection he with he
          subst he
          refine key _ _ hcl fun E' w' e k1 k2 k3 k4 k5 => ?_
          cases e with
          | returned v' => exact hn E' v' w' k1 k2 k5 k3 k4
          | panicked ch => exact k5.elim
          | outgrown => exact k5.elim
        · rename_i v m' hcl
          injection he with he
          subst he
          refine key _ _ hcl fun E' w' e k1 k2 k3 k4 k5 => ?_
          cases e with
          | returned v' => exact k5.elim
          | panicked ch =>
            obtain ⟨v', rfl, k6⟩ := k5
            exact hn E' v' w' k1 k2 k6 k3 k4
          | outgrown => exact k5.elim
        · cases he
      · cases he
    · split at he
      · rename_i v m' hx
        injection he with he
        subst he
        exact exOp_wp h hlo ha hx hn
      · cases he
end Go.Proofs.YtkecgbcfkbafpaaDoor.Ev
