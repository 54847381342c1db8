/-
  Deferred functions' code, results.
-/
import Derived.Test.YtkecgbcfkbafpaaDoorEvZA
import Derived.Recover
namespace Go.Proofs.YtkecgbcfkbafpaaDoor.Ev
set_option linter.unusedSectionVars false
variable [Sig]
open Go.RowKit
set_option linter.unusedSimpArgs false

variable {P : Program} {w0 w : World} {E : Env} {m : Mem} {ops : Array Oper}

theorem sem_bind_pure {α : Type} (x : Sem α) : x.bind Sem.pure = x := by
  induction x with
  | frozen a k ih => simp only [Sem.bind]; exact congrArg _ (funext ih)
  | _ => simp_all [Sem.bind]
theorem sem_bind_assoc {α β γ : Type} (x : Sem α) (f : α → Sem β) (g : β → Sem γ) : (x.bind f).bind g = x.bind fun a => (f a).bind g := by
  induction x with
  | frozen a k ih => simp only [Sem.bind]; exact congrArg _ (funext ih)
  | _ => simp_all [Sem.bind]
theorem sem_lawful : LawfulMonad Sem := LawfulMonad.mk' (m := Sem)
  (id_map := fun x => sem_bind_pure x)
  (pure_bind := fun _ _ => rfl)
  (bind_assoc := fun x f g => sem_bind_assoc x f g)
/-- One result, or several. -/
def oneOr : List Value → Value
  | [v] => v
  | vs => .tuple vs.toArray
theorem results_run (h : HR P w0 E m.H m.next w) {tm : T Value} {nt : Nat} {a : Act} (ha : AR E tm nt a) (fn : Func) {l : List Value} (he : evResult P m tm fn.results.toList = some l) :
    ∃ v', (results fn a.tmps).run P w = .ok v' w ∧ VR E (oneOr l) v' := by
  obtain ⟨l', h1, h2⟩ := evResult_run h ha fn.results.toList l he
  haveI := sem_lawful
  refine ⟨oneOr l', ?_, ?_⟩
  · unfold results
    rw [Array.mapM_eq_mapM_toList, map_eq_pure_bind, bind_assoc, Sem.run_bind]
    refine Eq.trans (congrArg (fun r => Result.andThen r _) h1) ?_
    simp only [Result.andThen, pure_bind, Sem.run_pure]
    congr 1
    match l' with
    | [] => rfl
    | [v] => rfl
    | _ :: _ :: _ => rfl
  · cases h2 with
    | nil => exact .tuple .nil
    | cons a b =>
      cases b with
      | nil => exact a
      | cons c d => exact .tuple (.cons a (.cons c d))
/-- A caller's mode that stands for one of ours. -/
def MdR (E : Env) : Md → FrameMode → Prop
  | none, u => u = .returning
  | some (v, r), u => ∃ v', u = .panicking [{ v := v', recovered := r }] ∧ VR E v v'
theorem MdR.mono {E E' : Env} (h : E.le E') {u : Md} {u' : FrameMode} (k : MdR E u u') : MdR E' u u' := by
  cases u with
  | none => exact k
  | some p => obtain ⟨v', h1, h2⟩ := k; exact ⟨v', h1, h2.mono h⟩
theorem MdR.settle {u : Md} {u' : FrameMode} (k : MdR E u u') : MdR E (settleE u) (settle u') := by
  cases u with
  | none => cases k; rfl
  | some p =>
    obtain ⟨v, r⟩ := p
    obtain ⟨v', rfl, h2⟩ := k
    cases r
    · exact ⟨v', rfl, h2⟩
    · rfl
theorem isRecover_op {o : Op} (h : isRecover o = true) : ∃ args ts, o = .call { callee := .builtin .recover, args := args, argTypes := ts } := by
  unfold isRecover at h
  split at h
  · exact ⟨_, _, rfl⟩
  · cases h
/-- What must hold of every outcome that ours stands for; the callers' frames turn too. -/
def EndsS (P : Program) (w0 : World) (E : Env) (nt : Nat) (s : St) (e : Ex2) (s' : St) (u' : Md) (c₀ : Frame) (cs : List Frame) (Q : Exit → Act → List Frame → World → Prop) : Prop :=
  ∀ E' x a' w' um, E.le E' → SR P w0 E' nt s' a' w' → s'.m.lo = s.m.lo → s.m.next ≤ s'.m.next → ExR E' e x → MdR E' u' um → Q x a' ({ c₀ with mode := um } :: cs) w'
theorem EndsS.of {nt : Nat} {s s1 s' : St} {e : Ex2} {u' : Md} {c₀ : Frame} {cs : List Frame} {Q : Exit → Act → List Frame → World → Prop} {E' : Env} (h : EndsS P w0 E nt s e s' u' c₀ cs Q) (hE : E.le E') (h1 : s1.m.lo = s.m.lo) (h2 : s.m.next ≤ s1.m.next) :
    EndsS P w0 E' nt s1 e s' u' c₀ cs Q :=
  fun E'' x a' w' um k1 k2 k3 k4 k5 k6 => h E'' x a' w' um (Env.le_trans hE k1) k2 (k3.trans h1) (Nat.le_trans h2 k4) k5 k6
theorem evOpsS2_wp (hP : Plainly P) {call : Call2} (hcall : CallOK P w0 call) {nt : Nat} (hB : nt ≤ 1073741824) (c₀ : Frame) (cs : List Frame) : ∀ (l : List Oper) (k : Nat) (E : Env) (s s' : St) (u u' : Md) (um : FrameMode) (r : Option Value) (a : Act) (w : World) (Q : Exit → Act → List Frame → World → Prop),
    (∀ j, l[j]? = ops[k + j]?) → SR P w0 E nt s a w → MdR E u um → evOpsS2 call P nt ops l s u = .ok (r, s', u') → EndsS P w0 E nt s (opsEx r) s' u' c₀ cs Q → wpOpsS P ops Q (List.range' k l.length) a ({ c₀ with mode := um } :: cs) w := by
  intro l
  induction l with
  | nil =>
    intro k E s s' u u' um r a w Q _ h hu he hQ
    simp only [evOpsS2, Tr.ok.injEq, Prod.mk.injEq] at he
    obtain ⟨rfl, rfl, rfl⟩ := he
    exact hQ E .normal a w um E.le_refl h rfl (Nat.le_refl _) trivial hu
  | cons o l ih =>
    intro k E s s' u u' um r a w Q hops h hu he hQ
    have ho : ops[k]? = some o := by simpa using (hops 0).symm
    have hops' : ∀ j, l[j]? = ops[k + 1 + j]? := fun j => by have := hops (j + 1); simpa [Nat.add_assoc, Nat.add_comm 1 j] using this
    simp only [List.length_cons, List.range'_succ, wpOpsS, ho]
    simp only [evOpsS2] at he
    split at he
    · cases he
    · rename_i hd
      have hd := dstOk_lt (by simpa using hd)
      have hw := wantedE h.ar ops o
      split at he
      · rename_i hwt
        rw [hw, hwt, if_pos rfl]
        split at he
        · rename_i hrec
          obtain ⟨args, ts, hop⟩ := isRecover_op hrec
          have hrun : (execOp a.eval o).run P w = .ok .recover w := by
            unfold execOp
            rw [hop]
            rfl
          rw [hrun]
          simp only
          split at he
          · rename_i v
            obtain ⟨v', rfl, hv⟩ := hu
            simp only [recoverD]
            exact ih (k + 1) E ⟨Ev.putE s.tm o.dst v, s.df, s.m⟩ s' (some (v, true)) u' _ r _ w Q hops' ⟨h.hr, h.lo, h.ar.putE hd hB hv, by rw [put_defers]; exact h.df⟩ ⟨v', rfl, hv⟩ he (hQ.of E.le_refl rfl (Nat.le_refl _))
          · rename_i hno
            have hnone : recoverD ({ c₀ with mode := um } :: cs) = none := by
              cases u with
              | none => cases hu; rfl
              | some p =>
                obtain ⟨v, r⟩ := p
                cases r with
                | false => exact absurd rfl (hno v)
                | true => obtain ⟨v', rfl, _⟩ := hu; rfl
            rw [hnone]
            exact ih (k + 1) E ⟨Ev.putE s.tm o.dst .nilIface, s.df, s.m⟩ s' _ u' _ r _ w Q hops' ⟨h.hr, h.lo, h.ar.putE hd hB .nilIface, by rw [put_defers]; exact h.df⟩ hu he (hQ.of E.le_refl rfl (Nat.le_refl _))
        · suffices key : o.wp P a w (fun a' w' => wpOpsS P ops Q (List.range' (k + 1) l.length) a' ({ c₀ with mode := um } :: cs) w') (fun e a' w' => Q e a' ({ c₀ with mode := um } :: cs) w') by
            unfold Oper.wp at key
            generalize (execOp a.eval o).run P w = r at key ⊢
            cases r with
            | ok n w' => cases n <;> first | exact key | exact key.elim
            | halt x w' => exact key
          split at he
          · rename_i v m' hs
            refine exStep2_wp hP hcall h.hr h.lo h.ar hs fun E' v' w' k1 k2 k3 k4 k5 => ?_
            exact ih (k + 1) E' ⟨Ev.putE s.tm o.dst v, s.df, m'⟩ s' u u' um r _ w' Q hops' ⟨k2, by have := h.lo; simp only; omega, (h.ar.mono k1).putE hd hB k3, by rw [put_defers]; exact h.df.mono k1⟩ (hu.mono k1) he (hQ.of k1 k4 k5)
          · rename_i v m' hs
            simp only [Tr.ok.injEq, Prod.mk.injEq] at he
            obtain ⟨rfl, rfl, rfl⟩ := he
            refine exStep2_wp hP hcall h.hr h.lo h.ar hs fun E' v' w' k1 k2 k3 k4 k5 => ?_
            exact hQ E' _ a w' um k1 ⟨k2, by have := h.lo; simp only; omega, h.ar.mono k1, h.df.mono k1⟩ k4 k5 ⟨v', rfl, k3⟩ (hu.mono k1)
          · rename_i d hs
            refine exStep2_wp hP hcall h.hr h.lo h.ar hs fun d' hd' => ?_
            refine ih (k + 1) E ⟨Ev.putE s.tm o.dst Go.undef, d :: s.df, s.m⟩ s' u u' um r _ w Q hops' ⟨h.hr, h.lo, ?_, ?_⟩ hu he (hQ.of E.le_refl rfl (Nat.le_refl _))
            · have : AR E s.tm nt { a with defers := d' :: a.defers } := ⟨h.ar.glob, h.ar.size, h.ar.get⟩
              exact this.putE hd hB (VR.undef E)
            · rw [put_defers]
              exact .cons hd' h.df
          · cases he
      · rename_i hwt
        rw [hw, if_neg hwt]
        exact ih (k + 1) E ⟨Ev.putE s.tm o.dst Go.undef, s.df, s.m⟩ s' u u' um r _ w Q hops' ⟨h.hr, h.lo, h.ar.putE hd hB (VR.undef E), by rw [put_defers]; exact h.df⟩ hu he (hQ.of E.le_refl rfl (Nat.le_refl _))
theorem evCodeS2_wp (hP : Plainly P) (hm : P.follows .mixedOrders = true) {call rnd : Call2} (hcall : CallOK P w0 call) (hrnd : RndOK P w0 rnd) {nt : Nat} (hB : nt ≤ 1073741824) (c₀ : Frame) (cs : List Frame) : ∀ (n : Nat) (c : Code) (E : Env) (s s' : St) (u u' : Md) (um : FrameMode) (e : Ex2) (a : Act) (w : World) (Q : Exit → Act → List Frame → World → Prop),
    SR P w0 E nt s a w → MdR E u um → evCodeS2 call rnd P nt n c s u = .ok (e, s', u') → EndsS P w0 E nt s e s' u' c₀ cs Q → c.wpS P Q a ({ c₀ with mode := um } :: cs) w := by
  intro n
  induction n with
  | zero => intro c E s s' u u' um e a w Q _ _ he; simp [evCodeS2] at he
  | succ n ih =>
    intro c E s s' u u' um e a w Q h hu he hQ
    have rest : plain2 u (evCode2 false call rnd P nt n c s) = .ok (e, s', u') → c.wpS P Q a ({ c₀ with mode := um } :: cs) w := fun he => by
      unfold plain2 at he
      split at he
      · rename_i e1 s1 hs
        simp only [Tr.ok.injEq, Prod.mk.injEq] at he
        obtain ⟨rfl, rfl, rfl⟩ := he
        exact wpS_of_wp (wpIn_WF.1 (evCode2_wp hP hm hcall hrnd (rd := false) (ro := none) (fun _ => rfl) hB n c E s s1 e1 a w _ h hs fun E' x a' w' k1 k2 k3 k4 k5 => hQ E' x a' w' um k1 k2 k3 k4 k5 (hu.mono k1)))
      · cases he
    cases c with
    | seq x y =>
      refine wpS_seq ?_
      simp only [evCodeS2] at he
      split at he
      · rename_i s1 u1 hs
        refine ih x E s s1 u u1 um .normal a w _ h hu hs fun E' z a' w' um' k1 k2 k3 k4 k5 k6 => ?_
        cases z with
        | normal => exact ih y E' s1 s' u1 u' um' e a' w' Q k2 k6 he (hQ.of k1 k3 k4)
        | _ => exact k5.elim
      · rename_i r hno
        refine ih x E s s' u u' um e a w _ h hu he fun E' z a' w' um' k1 k2 k3 k4 k5 k6 => ?_
        have := hQ E' z a' w' um' k1 k2 k3 k4 k5 k6
        cases z with
        | normal =>
          cases e with
          | normal => exact absurd he (hno _ _)
          | _ => exact k5.elim
        | _ => exact this
    | cond c x y =>
      simp only [evCodeS2] at he
      split at he
      · rename_i hv
        have := ev_VR h.ar hv
        generalize hy : a.eval c = z at this
        cases this
        exact wpS_cond hy (ih x E s s' u u' um e a w Q h hu he hQ)
      · rename_i hv
        have := ev_VR h.ar hv
        generalize hy : a.eval c = z at this
        cases this
        exact wpS_cond hy (ih y E s s' u u' um e a w Q h hu he hQ)
      · cases he
    | region id ops draw =>
      cases draw with
      | true => simp only [evCodeS2] at he; exact rest he
      | false =>
        simp only [evCodeS2] at he
        have key : ∀ r, evOpsS2 call P nt ops ops.toList s u = .ok (r, s', u') → e = opsEx r → (Code.region id ops false).wpS P Q a ({ c₀ with mode := um } :: cs) w := fun r hr he' => by
          subst he'
          refine wpS_region ?_
          have := evOpsS2_wp (ops := ops) hP hcall hB c₀ cs ops.toList 0 E s s' u u' um r a w Q (by simp) h hu hr hQ
          rw [List.range_eq_range', ← Array.length_toList]
          exact this
        split at he
        · rename_i s1 u1 hs
          simp only [Tr.ok.injEq, Prod.mk.injEq] at he
          obtain ⟨rfl, rfl, rfl⟩ := he
          exact key none hs rfl
        · rename_i v s1 u1 hs
          simp only [Tr.ok.injEq, Prod.mk.injEq] at he
          obtain ⟨rfl, rfl, rfl⟩ := he
          exact key (some v) hs rfl
        · cases he
    | _ => simp only [evCodeS2] at he; exact rest he
end Go.Proofs.YtkecgbcfkbafpaaDoor.Ev
