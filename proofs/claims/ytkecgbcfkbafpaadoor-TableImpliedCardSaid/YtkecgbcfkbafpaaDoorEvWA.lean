/-
  One operation, yields too, in whatever frame: what our machine does stands for what the model does.
-/
import Derived.OrdersIn
import Derived.RangeFuncLeaves
import Derived.TacticsIn
import Derived.Test.YtkecgbcfkbafpaaDoorEvW
namespace Go.Proofs.YtkecgbcfkbafpaaDoor.Ev
set_option linter.unusedSectionVars false
variable [Sig]
open Go.RowKit
set_option linter.unusedSimpArgs false

variable {P : Program} {w0 w : World} {E : Env} {m : Mem}

/-- The widest fence, about a frame of such a make: a plain one; a round's. -/
def WF (ro : Option Nat) : Fence := { Fence.wide with round := ro }
theorem callsIn_WF {ro : Option Nat} {n : Nat} {f : FuncId} {args : Array Value} {R : Ending → World → Prop} : CallsIn (WF ro) n P f args w R ↔ Calls P f args w R :=
  (callsIn_wide (n := n) (P := P) (f := f) (args := args) (w := w) (R := R))
theorem wpIn_WF {n : Nat} {c : Code} {Q : Exit → Act → World → Prop} {a : Act} : c.wpIn (WF none) n P Q a w ↔ c.wp P Q a w := wpIn_wide
theorem rowsIn_WF {ro : Option Nat} {n : Nat} {row : String} {args : Array Value} {R : Value → World → Prop} (h : Rows P row args w R) : RowsIn (WF ro) n P row args w R :=
  fun c cs _ => let ⟨v, w', r, s⟩ := h c cs; ⟨v, w', r, stepsIn_wide.2 s⟩
theorem op_wpIn {ro : Option Nat} {o : Oper} {a : Act} {next : Act → World → Prop} {Q : Exit → Act → World → Prop} (hd : ro = none ∨ ∀ c, o.op ≠ .defer c) (h : o.wp P a w next Q) : o.wpIn (WF ro) 0 P a w next Q := by
  refine ⟨fun _ _ => trivial, ?_⟩
  have hs : o.semAt (WF ro).round a.eval = execOp a.eval o := by
    rcases hd with rfl | hd
    · rfl
    · exact Oper.semAt_eq _ _ _ hd
  rw [hs]
  unfold Oper.wp at h
  have hdep : (WF ro).depth.isSome = true → 1 ≤ 0 := fun h => by cases h
  generalize (execOp a.eval o).run P w = r at h ⊢
  cases r with
  | ok x w' =>
    cases x <;> simp only [Oper.upon, Oper.uponIn] at h ⊢ <;> first
      | exact h
      | exact h.elim
      | exact ⟨hdep, callsIn_WF.2 (Calls.mono h fun e w hh => by cases e <;> exact hh)⟩
      | exact ⟨hdep, rowsIn_WF h⟩
  | halt x w' => cases x <;> simp only [Oper.upon, Oper.uponIn] at h ⊢ <;> exact h

/-- Whatever 'rnd' answers of a round is so. -/
def RndOK (P : Program) (w0 : World) (rnd : Call2) : Prop :=
  ∀ (L : Nat) (l : List Value) (m : Mem) (out : Out) (m' : Mem), rnd L l m = .ok (out, m') →
    ∀ (E : Env) (w : World) (args : Array Value) (b : Nat), HR P w0 E m.H m.next w → m.lo ≤ m.next → VRL E l args.toList → E.blk L = some b →
      ∃ fn tmps asg body, (Instr.yield b args).run P w = .ok (.round b fn tmps asg body) w ∧
        RoundIn Fence.wide 0 P b fn tmps asg body w fun e w' => ∃ E', E.le E' ∧ HR P w0 E' m'.H m'.next w' ∧ m'.lo = m.lo ∧ m.next ≤ m'.next ∧ OutR E' out e

theorem exYield_run {tm : T Value} {nt : Nat} {a : Act} (ha : AR E tm nt a) {c : Call} {L : Nat} {l : List Value} (he : exYield tm c = some (L, l)) (ty : TypeId) :
    ∃ (b : Nat) (args : Array Value), E.blk L = some b ∧ VRL E l args.toList ∧ ∀ w, (do let d ← resolve a.eval c ty; invoke d.target d.args : Sem Next).run P w = (Instr.yield b args).run P w := by
  unfold exYield at he
  split at he
  · rename_i x hc
    split at he
    · rename_i L' hx
      split at he
      · rename_i l' hl
        injection he with he
        injection he with e1 e2
        subst e1 e2
        have hv := ev_VR ha hx
        have hl := evs_VR ha c.args.toList _ hl
        generalize hy : a.eval x = y at hv
        cases hv with
        | @yield _ b hb =>
          refine ⟨b, c.args.map a.eval, hb, by simpa using hl, fun w => ?_⟩
          have hres : (resolve a.eval c ty).run P w = .ok { target := .fn (.yield b) #[], args := #[] ++ c.args.map a.eval } w := by
            simp [resolve, hc, hy, Deferred.ofValue, Sem.run_pure]
          rw [Sem.run_bind, hres]
          simp [Result.andThen, invoke]
      · cases he
    · cases he
  · cases he
theorem exYield_congr {tm tm' : T Value} {c : Call} (h : ∀ x ∈ c.operands.toList, ev tm x = ev tm' x) : exYield tm c = exYield tm' c := by
  have hargs : evs tm c.args.toList = evs tm' c.args.toList := evs_congr _ fun x hx => h x (by simp only [Call.operands]; split <;> simp_all)
  unfold exYield
  cases hc : c.callee with
  | value f => have hf : ev tm f = ev tm' f := h f (by simp [Call.operands, hc]); simp only [hf, hargs]
  | _ => rfl
theorem exStep3_congr {call rnd : Call2} {tm tm' : T Value} (o : Oper) (h : ∀ x ∈ o.op.operands.toList, ev tm x = ev tm' x) : exStep3 call rnd P m tm o = exStep3 call rnd P m tm' o := by
  unfold exStep3
  rw [exStep2_congr (tm := tm) (tm' := tm') o h]
  split
  · rename_i c hc
    rw [exYield_congr (tm := tm) (tm' := tm') fun x hx => h x (by rw [isFuncCall_op hc]; exact hx)]
  · rfl
theorem exStep2_later {call : Call2} {tm : T Value} {o : Oper} {d : Did} (he : exStep2 call P m tm o = .ok d) (hd : ∀ x, d ≠ .later x) : ∀ c, o.op ≠ .defer c := by
  intro c hc
  unfold exStep2 at he
  rw [hc] at he
  simp only at he
  split at he
  · injection he with he; exact hd _ he.symm
  · cases he
theorem exOp_noDefer {tm : T Value} {o : Oper} {v : Value} {m' : Mem} (he : exOp P m tm o = some (v, m')) : ∀ c, o.op ≠ .defer c := by
  intro c hc
  unfold exOp at he
  rw [hc] at he
  cases he
theorem exStep3_wp (hP : Plainly P) {call rnd : Call2} (hcall : CallOK P w0 call) (hrnd : RndOK P w0 rnd) {ro : Option Nat} (h : HR P w0 E m.H m.next w) (hlo : m.lo ≤ m.next) {tm : T Value} {nt : Nat} {a : Act} (ha : AR E tm nt a) {o : Oper} {d : Did}
    (he : exStep3 call rnd P m tm o = .ok d) (hd : ro = none ∨ ∀ x, d ≠ .later x) {next : Act → World → Prop} {Q : Exit → Act → World → Prop} (hn : StepTo P w0 E m a w o next Q d) : o.wpIn (WF ro) 0 P a w next Q := by
  unfold exStep3 at he
  split at he
  · rename_i c hc
    have hop := isFuncCall_op hc
    have hnd : ∀ c, o.op ≠ .defer c := fun c h => by rw [hop] at h; cases h
    split at he
    · rename_i L l hy
      split at he
      · rename_i v m' hr
        injection he with he
        subst he
        obtain ⟨b, args, k1, k2, k3⟩ := exYield_run (P := P) ha hy o.type
        obtain ⟨fn, tmps, asg, body, k4, k5⟩ := hrnd L l m _ _ hr E w args b h hlo k2 k1
        refine ⟨fun _ _ => trivial, ?_⟩
        rw [Oper.semAt_eq _ _ _ hnd]
        have hrun : (execOp a.eval o).run P w = .ok (.round b fn tmps asg body) w := by
          unfold execOp
          rw [hop]
          exact (k3 w).trans k4
        rw [hrun]
        refine ⟨fun h => (by cases h), RoundIn.mono k5 fun e w' ⟨E', q1, q2, q3, q4, q5⟩ => ?_⟩
        cases e with
        | returned v' => exact hn E' v' w' q1 q2 q5 q3 q4
        | panicked ch => exact q5.elim
        | outgrown => exact q5.elim
      · cases he
      · cases he
    · exact op_wpIn (.inr hnd) (exStep2_wp hP hcall h hlo ha he hn)
  · refine op_wpIn ?_ (exStep2_wp hP hcall h hlo ha he hn)
    rcases hd with hd | hd
    · exact .inl hd
    · exact .inr (exStep2_later he hd)

/-! ### operations that do nothing but lay a block -/
theorem teq_eq : ∀ (t t' : T Value), teq t t' = true → t = t'
  | .leaf, t', h => by cases t' <;> simp_all [teq]
  | .node a v b, t', h => by
    cases t' with
    | leaf => simp [teq] at h
    | node a' v' b' =>
      simp only [teq, Bool.and_eq_true] at h
      obtain ⟨⟨h1, h2⟩, h3⟩ := h
      rw [teq_eq a a' h2, teq_eq b b' h3]
      cases v <;> cases v' <;> simp at h1 <;> first | rfl | rw [veq_eq _ _ h1]
theorem holds_get {x : Fr} {m : Mem} (h : holds x m = true) : m.H.get x.2.2.1 = some x.2.2.2 := by
  unfold holds at h
  split at h
  · rename_i cs n e g cs' n' e' g' h1 h2
    simp only [Bool.and_eq_true, beq_iff_eq] at h
    obtain ⟨⟨⟨k1, k2⟩, k3⟩, k4⟩ := h
    rw [h2, h1, teq_eq _ _ k1, Nat.eq_of_beq_eq_true k2, Nat.eq_of_beq_eq_true k3, k4]
  · cases h
theorem cleanT_get {cs : T Value} : ∀ (n : Nat), cleanT cs n = true → ∀ j v, j < n → cs.get j = some v → clean v = true := by
  intro n
  induction n with
  | zero => intro _ j v hj; omega
  | succ n ih =>
    intro h j v hj hv
    simp only [cleanT, Bool.and_eq_true] at h
    by_cases e : j = n
    · subst e
      have := h.1
      rw [hv] at this
      exact this
    · exact ih h.2 j v (by omega) hv
theorem isFree_spec {o : Oper} (h : isFree o = true) : (∀ cs b, o.op ≠ .select cs b) ∧ (∀ c, o.op ≠ .defer c) ∧ (∀ x ∈ o.op.operands, ∃ v, x = .const v) ∧ o.guard = none := by
  unfold isFree at h
  simp only [Bool.and_eq_true] at h
  obtain ⟨⟨⟨h1, h2⟩, h3⟩, _⟩ := h
  refine ⟨fun cs b e => ?_, fun c e => ?_, fun x hx => ?_, by simpa using h3⟩
  · rw [e] at h1; cases h1
  · rw [e] at h1; cases h1
  · have := List.all_eq_true.1 h2 x (Array.mem_toList_iff.2 hx)
    unfold isConst at this
    split at this
    · exact ⟨_, rfl⟩
    · cases this
theorem freeOut_run {o : Oper} (hf : isFree o = true) {n : Nat} {v : Value} {ob : AObj} (he : freeOut P o n = some (v, ob)) (a : Act) (w : World) :
    ∃ v' w' b r, ((execOp a.eval o).run P w = .ok (.value v') w' ∨ ((execOp a.eval o).run P w = .ok .skip w' ∧ v' = Go.undef)) ∧ Below w.heap.size w w' ∧ w.heap.size ≤ b ∧ b < w'.heap.size ∧ w'.heap[b]? = some r ∧
      (∀ E : Env, E.cap n = none → OR P E n ob r) ∧ (∀ E : Env, E.blk n = some b → E.cap n = none → VR E v v') := by
  obtain ⟨hs, hnd, hc, hg⟩ := isFree_spec hf
  unfold freeOut at he
  split at he
  · rename_i v0 m' hx
    split at he
    · rename_i cs k e hm
      split at he
      · rename_i hcl
        have hcl := cleanT_get k hcl
        obtain ⟨E', v', w', h1, h2, h3, h4, _⟩ := exOp_run (nt := 0) (a := { tmps := #[], defers := [] }) (HR.start w) (Nat.zero_le _) ⟨by intro g hg; simp [hg], rfl, fun t => by simpa [T.get] using VR.undef _⟩ hx
        have hcong : execOp a.eval o = execOp (Act.eval { tmps := #[], defers := [] }) o := execOp_congr o hs fun x hx => by
          obtain ⟨u, rfl⟩ := hc x hx
          rfl
        have hph : E'.ph 64 = false := by rw [h2.ph]
        obtain ⟨b, r, q1, q2, arr, ⟨fz, elem', hz, hel, hr⟩, hsz, hcell⟩ := h3.born 64 _ hm hph
        have hd := (h3.dom 64 b q1).2 (Nat.le_refl _)
        have hcap : E'.cap 64 = none ∧ arr.size = k := by
          unfold sizeOk at hsz
          cases hcp : E'.cap 64 with
          | none => rw [hcp] at hsz; exact ⟨rfl, hsz.1⟩
          | some p => rw [hcp] at hsz; simp at hsz
        have hor : ∀ E : Env, E.cap n = none → OR P E n (.cells cs k e false) r := fun E hE => by
          refine ⟨arr, ⟨fz, elem', hz, fun _ => hel (Nat.le_refl _), hr⟩, ?_, fun j u hj hu => ?_⟩
          · unfold sizeOk; rw [hE]; exact ⟨hcap.2, rfl⟩
          · obtain ⟨u', k1, k2⟩ := hcell j u hj hu
            have hcu := hcl j u hj hu
            rw [VR.eq_of_clean k2 hcu] at k1
            exact ⟨u, k1, VR.of_clean E u hcu⟩
        rw [hcong]
        refine ⟨v', w', b, r, h1, h3.below, hd.1, hd.2, q2, ?_⟩
        split at he
        · simp only [Option.some.injEq, Prod.mk.injEq] at he
          obtain ⟨rfl, rfl⟩ := he
          refine ⟨hor, fun E hb hE => ?_⟩
          cases h4 with
          | ptr o hb' =>
            rw [q1] at hb'
            injection hb' with hb'
            subst hb'
            exact .ptr 0 hb
        · simp only [Option.some.injEq, Prod.mk.injEq] at he
          obtain ⟨rfl, rfl⟩ := he
          refine ⟨hor, fun E hb hE => ?_⟩
          cases h4 with
          | slice o l hb' hc' =>
            rw [q1] at hb'
            injection hb' with hb'
            subst hb'
            refine .slice 0 _ hb ?_
            unfold capOf at hc' ⊢
            rw [hcap.1] at hc'
            rw [hE]
            exact hc'
        · cases he
      · cases he
    · cases he
  · cases he
/-- What a free operation must lead to. -/
theorem free_wp {ro : Option Nat} {o : Oper} (hf : isFree o = true) {n : Nat} {v : Value} {ob : AObj} (he : freeOut P o n = some (v, ob)) {a : Act} {next : Act → World → Prop} {Q : Exit → Act → World → Prop}
    (hn : ∀ v' w' b r, Below w.heap.size w w' → w.heap.size ≤ b → b < w'.heap.size → w'.heap[b]? = some r → (∀ E : Env, E.cap n = none → OR P E n ob r) → (∀ E : Env, E.blk n = some b → E.cap n = none → VR E v v') → next (a.put o.dst v') w') :
    o.wpIn (WF ro) 0 P a w next Q := by
  obtain ⟨v', w', b, r, h1, h2, h3, h4, h5, h6, h7⟩ := freeOut_run hf he a w
  refine op_wpIn (.inr (isFree_spec hf).2.1) ?_
  unfold Oper.wp
  rcases h1 with h1 | ⟨h1, rfl⟩
  · rw [h1]; exact hn v' w' b r h2 h3 h4 h5 h6 h7
  · rw [h1]; exact hn _ w' b r h2 h3 h4 h5 h6 h7
theorem frOf_mem {i : Nat} {x : Fr} : ∀ (fl : List Fr), frOf i fl = some x → x ∈ fl ∧ x.1 = i := by
  intro fl
  induction fl with
  | nil => intro h; cases h
  | cons y r ih =>
    intro h
    simp only [frOf] at h
    split at h
    · rename_i hb
      injection h with h
      subst h
      exact ⟨List.mem_cons_self .., Nat.eq_of_beq_eq_true hb⟩
    · obtain ⟨h1, h2⟩ := ih h
      exact ⟨List.mem_cons_of_mem _ h1, h2⟩
/-- What is laid out beforehand. -/
def Env.phs (E : Env) (fl : List Fr) : Env := ⟨E.blk, E.cap, fun i => E.ph i || fl.any fun f => f.2.2.1 == i⟩
structure Lain (P : Program) (L : PL) (m m0 : Mem) (fl : List Fr) : Prop where
  lo : m0.lo = m.lo
  next : m.next ≤ m0.next
  num : ∀ f ∈ fl, m.next ≤ f.2.2.1 ∧ f.2.2.1 < m0.next
  from' : ∀ f ∈ fl, ∃ x ∈ L, x.1 = f.1 ∧ isFree x.2.1 = true ∧ freeOut P x.2.1 f.2.2.1 = some (f.2.1, f.2.2.2)
  inj : ∀ f ∈ fl, ∀ f' ∈ fl, f.2.2.1 = f'.2.2.1 → f = f'
  idx : L.Pairwise (fun x y => x.1 ≠ y.1) → ∀ f ∈ fl, ∀ f' ∈ fl, f.1 = f'.1 → f = f'
theorem layFree_ok : ∀ (L : PL) (m : Mem) (E : Env) (w : World) (fl : List Fr) (m0 : Mem), layFree P L m = some (fl, m0) → HR P w0 E m.H m.next w → HR P w0 (E.phs fl) m0.H m0.next w ∧ Lain P L m m0 fl := by
  intro L
  induction L with
  | nil =>
    intro m E w fl m0 he h
    simp only [layFree, Option.some.injEq, Prod.mk.injEq] at he
    obtain ⟨rfl, rfl⟩ := he
    refine ⟨?_, rfl, Nat.le_refl _, by simp, by simp, by simp, fun _ => by simp⟩
    have : E.phs [] = E := by simp [Env.phs]
    rw [this]; exact h
  | cons x L ih =>
    intro m E w fl m0 he h
    obtain ⟨i, o, p⟩ := x
    simp only [layFree] at he
    split at he
    · rename_i hf
      split at he
      · rename_i v ob ho
        split at he
        · rename_i hlt
          rw [Nat.blt_eq] at hlt
          split at he
          · rename_i l m1 hl
            simp only [Option.some.injEq, Prod.mk.injEq] at he
            obtain ⟨rfl, rfl⟩ := he
            obtain ⟨k1, k2⟩ := ih _ _ _ _ _ hl (h.lay hlt ob)
            have hnx := k2.next
            simp only at hnx
            refine ⟨?_, k2.lo, by omega, fun f hf' => ?_, fun f hf' => ?_, fun f hf' f' hf2 e => ?_, fun hp f hf' f' hf2 e => ?_⟩
            · have : (E.phantom m.next).phs l = E.phs ((i, v, m.next, ob) :: l) := by
                unfold Env.phantom Env.phs
                congr 1
                funext j
                simp only [List.any_cons]
                have e1 : (j == m.next) = (m.next == j) := by rw [Bool.eq_iff_iff, beq_iff_eq, beq_iff_eq]; exact ⟨Eq.symm, Eq.symm⟩
                rw [e1]
                cases E.ph j <;> cases (m.next == j) <;> simp
              rw [← this]; exact k1
            · rcases List.mem_cons.1 hf' with rfl | hf'
              · simp only; omega
              · have := k2.num f hf'; simp only at this; omega
            · rcases List.mem_cons.1 hf' with rfl | hf'
              · exact ⟨(i, o, p), List.mem_cons_self .., rfl, hf, ho⟩
              · obtain ⟨y, q1, q2⟩ := k2.from' f hf'
                exact ⟨y, List.mem_cons_of_mem _ q1, q2⟩
            · rcases List.mem_cons.1 hf' with rfl | hf' <;> rcases List.mem_cons.1 hf2 with rfl | hf2
              · rfl
              · have := k2.num f' hf2; simp only at this e; omega
              · have := k2.num f hf'; simp only at this e; omega
              · exact k2.inj f hf' f' hf2 e
            · obtain ⟨hp1, hp2⟩ := List.pairwise_cons.1 hp
              rcases List.mem_cons.1 hf' with rfl | hf' <;> rcases List.mem_cons.1 hf2 with rfl | hf2
              · rfl
              · obtain ⟨y, q1, q2, _⟩ := k2.from' f' hf2
                exact absurd (e.trans q2.symm) (hp1 y q1)
              · obtain ⟨y, q1, q2, _⟩ := k2.from' f hf'
                exact absurd (e.symm.trans q2.symm) (hp1 y q1)
              · exact k2.idx hp2 f hf' f' hf2 e
          · cases he
        · cases he
      · cases he
    · obtain ⟨k1, k2⟩ := ih _ _ _ _ _ he h
      refine ⟨k1, k2.lo, k2.next, k2.num, fun f hf' => ?_, k2.inj, fun hp => k2.idx (List.pairwise_cons.1 hp).2⟩
      obtain ⟨y, q1, q2⟩ := k2.from' f hf'
      exact ⟨y, List.mem_cons_of_mem _ q1, q2⟩
end Go.Proofs.YtkecgbcfkbafpaaDoor.Ev
