/-
  What an operation of our machine does hangs on what it looks at; equal values.
-/
import Derived.Test.YthjhdjjmpoaceaaGreatDoorJC
import Derived.OrdersIn
import Derived.RangeFuncLeaves
import Derived.TacticsIn
/-! What an operation of our machine does hangs on what it looks at; equal values. -/
namespace Go.Proofs.YthjhdjjmpoaceaaGreatDoor.Ev
open Go.RowKit
set_option linter.unusedSimpArgs false

variable {P : Program} {w0 w : World} {E : Env} {m : Mem}

theorem evs_congr {tm tm' : T Value} : ∀ (xs : List Operand), (∀ x ∈ xs, ev tm x = ev tm' x) → evs tm xs = evs tm' xs := by
  intro xs
  induction xs with
  | nil => intro _; rfl
  | cons x r ih =>
    intro h
    simp only [evs]
    rw [h x (List.mem_cons_self ..), ih fun y hy => h y (List.mem_cons_of_mem _ hy)]
theorem evps_congr {tm tm' : T Value} : ∀ (xs : List (Nat × Operand)), (∀ x ∈ xs, ev tm x.2 = ev tm' x.2) → evps tm xs = evps tm' xs := by
  intro xs
  induction xs with
  | nil => intro _; rfl
  | cons x r ih =>
    intro h
    obtain ⟨i, x⟩ := x
    simp only [evps]
    rw [h (i, x) (List.mem_cons_self ..), ih fun y hy => h y (List.mem_cons_of_mem _ hy)]
theorem evO_congr {tm tm' : T Value} {x : Option Operand} (h : ∀ y, x = some y → ev tm y = ev tm' y) : evO tm x = evO tm' x := by
  cases x with
  | none => rfl
  | some x => simp only [evO]; rw [h x rfl]
theorem exCallee_congr {tm tm' : T Value} {c : Call} (h : ∀ x ∈ c.operands.toList, ev tm x = ev tm' x) : exCallee P m tm c = exCallee P m tm' c := by
  have hargs : evs tm c.args.toList = evs tm' c.args.toList := evs_congr _ fun x hx => h x (by simp only [Call.operands]; split <;> simp_all)
  unfold exCallee
  cases hc : c.callee with
  | value f => have hf : ev tm f = ev tm' f := h f (by simp [Call.operands, hc]); simp only [hf, hargs]
  | invoke r n => have hr : ev tm r = ev tm' r := h r (by simp [Call.operands, hc]); simp only [hr, hargs]
  | builtin b => rfl
theorem exOp_congr {tm tm' : T Value} (o : Oper) (h : ∀ x ∈ o.op.operands.toList, ev tm x = ev tm' x) : exOp P m tm o = exOp P m tm' o := by
  obtain ⟨dst, op, type, pos, after, guard⟩ := o
  cases op <;> simp only [Op.operands] at h <;> simp only [exOp]
  case build t ps => rw [evps_congr ps.toList fun x hx => h x.2 (by simp only [Array.toList_map, List.mem_map]; exact ⟨x, hx, rfl⟩)]
  case buildSlice t n ps => rw [evps_congr ps.toList fun x hx => h x.2 (by simp only [Array.toList_map, List.mem_map]; exact ⟨x, hx, rfl⟩)]
  case makeFunc fn first captured =>
    cases fn <;> try rfl
    dsimp only
    rw [evs_congr first.toList fun x hx => h x (by simp; exact .inl (by simpa using hx)), evs_congr captured.toList fun x hx => h x (by simp; exact .inr (by simpa using hx))]
  case call c =>
    obtain ⟨cal, args, ts⟩ := c
    cases cal <;> try rfl
    dsimp only
    rw [evs_congr args.toList fun x hx => h x (by simp [Call.operands]; simpa using hx)]
  case makeMap t r => rw [evO_congr fun y hy => h y (by subst hy; simp)]
  case makeSlice t l c => rw [evO_congr fun y hy => h y (by injection hy with hy; subst hy; simp), evO_congr (x := some c) fun y hy => h y (by injection hy with hy; subst hy; simp)]
  case slice t x lo hi mx =>
    cases mx <;> try rfl
    dsimp only
    rw [h x (by simp), evO_congr (x := lo) fun y hy => h y (by subst hy; simp), evO_congr (x := hi) fun y hy => h y (by subst hy; simp)]
  case lookup t x k ok => rw [h x (by simp), evO_congr (x := some k) fun y hy => h y (by injection hy with hy; subst hy; simp)]
  case mapUpdate t x k v => rw [h x (by simp), h v (by simp), evO_congr (x := some k) fun y hy => h y (by injection hy with hy; subst hy; simp)]
  case insert t x k v => rw [h x (by simp), h v (by simp), evO_congr (x := some k) fun y hy => h y (by injection hy with hy; subst hy; simp)]
  all_goals (first | rfl | (simp_all; done))
theorem exStep2_congr {call : Call2} {tm tm' : T Value} (o : Oper) (h : ∀ x ∈ o.op.operands.toList, ev tm x = ev tm' x) : exStep2 call P m tm o = exStep2 call P m tm' o := by
  have h0 := exOp_congr (P := P) (m := m) o h
  unfold exStep2
  rw [h0]
  split
  · rename_i c ho
    have : exCallee P m tm c = exCallee P m tm' c := exCallee_congr fun x hx => h x (by rw [ho]; exact hx)
    unfold exLater
    rw [this]
  · rename_i x ho
    rw [h x (by rw [ho]; simp [Op.operands])]
  · split
    · rename_i c hc
      rw [exCallee_congr (tm := tm) (tm' := tm') fun x hx => h x (by rw [isFuncCall_op hc]; exact hx)]
    · rfl

/-! ### equal values -/
mutual
theorem veq_eq : ∀ (v u : Value), veq v u = true → v = u
  | .bool a, u, h => by cases u <;> simp_all [veq]
  | .int k a, u, h => by cases u <;> simp_all [veq]
  | .string s, u, h => by cases u <;> simp_all [veq]
  | .pointer a, u, h => by cases u <;> simp_all [veq]
  | .slice a n c, u, h => by cases u <;> simp_all [veq]
  | .map a, u, h => by cases u <;> simp_all [veq]
  | .chan a, u, h => by cases u <;> simp_all [veq]
  | .nilFunc, u, h => by cases u <;> simp_all [veq]
  | .nilIface, u, h => by cases u <;> simp_all [veq]
  | .iface t v, u, h => by
    cases u <;> simp only [veq] at h <;> try cases h
    simp only [Bool.and_eq_true] at h
    rw [veq_eq v _ h.2, Nat.eq_of_beq_eq_true h.1]
  | .agg ⟨x⟩, u, h => by
    cases u <;> simp only [veq] at h <;> try cases h
    rename_i y
    obtain ⟨y⟩ := y
    simp only [veq] at h
    rw [veqL_eq x _ h]
  | .tuple ⟨x⟩, u, h => by
    cases u <;> simp only [veq] at h <;> try cases h
    rename_i y
    obtain ⟨y⟩ := y
    simp only [veq] at h
    rw [veqL_eq x _ h]
  | .func (.func f) ⟨x⟩ ⟨y⟩, u, h => by
    cases u <;> try (simp [veq] at h; done)
    rename_i fn a b
    obtain ⟨a⟩ := a
    obtain ⟨b⟩ := b
    cases fn <;> try (simp [veq] at h; done)
    simp only [veq, Bool.and_eq_true] at h
    rw [veqL_eq x _ h.1.2, veqL_eq y _ h.2, Nat.eq_of_beq_eq_true h.1.1]
  | .func (.method _) ⟨_⟩ ⟨_⟩, u, h => by cases u <;> simp [veq] at h
  | .func (.methodOf _ _) ⟨_⟩ ⟨_⟩, u, h => by cases u <;> simp [veq] at h
  | .func (.via _ _ _ _) ⟨_⟩ ⟨_⟩, u, h => by cases u <;> simp [veq] at h
  | .func (.yield _) ⟨_⟩ ⟨_⟩, u, h => by cases u <;> simp [veq] at h
  | .float _ _, u, h => by cases u <;> simp [veq] at h
  | .complex _ _ _, u, h => by cases u <;> simp [veq] at h
theorem veqL_eq : ∀ (x y : List Value), veqL x y = true → x = y
  | [], y, h => by cases y <;> simp_all [veqL]
  | v :: x, y, h => by
    cases y with
    | nil => simp [veqL] at h
    | cons u y =>
      simp only [veqL, Bool.and_eq_true] at h
      rw [veq_eq v u h.1, veqL_eq x y h.2]
end
/-- What leaves memory as it is leaves it as it is. -/
theorem same_mem {m m' : Mem} {r : Option Value} {v : Value} (h : Ev.same m r = some (v, m')) : m' = m := by
  cases r with
  | none => cases h
  | some u => simp only [Ev.same, Option.some.injEq, Prod.mk.injEq] at h; exact h.2.symm
theorem still_mem {tm : T Value} {o : Oper} (hs : still P o.op = true) {v : Value} {m' : Mem} (he : exOp P m tm o = some (v, m')) : m' = m := by
  obtain ⟨dst, op, type, pos, after, guard⟩ := o
  cases op <;> try (exact absurd hs Bool.false_ne_true)
  all_goals simp only [exOp] at he
  case call c =>
    obtain ⟨cal, args, ts⟩ := c
    cases cal <;> simp only [exOp] at he <;> try cases he
    rename_i b
    cases b <;> try (exact absurd hs Bool.false_ne_true)
    all_goals
      split at he
      · simp only [exBuiltin] at he
        (repeat' (split at he)) <;> first | exact same_mem he | (cases he; rfl) | (cases he; done) | (simp_all; done)
      · cases he
  case convert src dst x =>
    split at he
    · rename_i u hx
      split at he
      · rename_i r hb
        exfalso
        unfold exBytes at hb
        split at hb
        · split at hb
          · rename_i e h1 h2
            simp only [still, h2] at hs
            cases hs
          · cases hb
        · split at hb
          · rename_i e h1
            split at hb
            · split at hb
              · rename_i hc
                rw [← hc.1] at hs
                simp only [still, h1] at hs
                cases hs
              · cases hb
            · cases hb
          · cases hb
        · cases hb
      · (repeat' (split at he)) <;> first | exact same_mem he | (cases he; done)
    · cases he
  all_goals (repeat' (split at he)) <;> first | contradiction | exact same_mem he | (cases he; done) | (cases he; rfl) | skip
end Go.Proofs.YthjhdjjmpoaceaaGreatDoor.Ev

/-! One operation, yields too, in whatever frame: what our machine does stands for what the model does. -/
namespace Go.Proofs.YthjhdjjmpoaceaaGreatDoor.Ev
open Go.RowKit
set_option linter.unusedSimpArgs false

variable {P : Program} {w0 w : World} {E : Env} {m : Mem}

/-- The widest fence, about a frame of such a make: a plain one; a round's. -/
def WF (ro : Option Nat) : Fence := { Fence.wide with round := ro }
theorem callsIn_WF {ro : Option Nat} {n : Nat} {f : FuncId} {args : Array Value} {R : Ending → World → Prop} : CallsIn (WF ro) n P f args w R ↔ Calls P f args w R :=
  (callsIn_wide (n := n) (P := P) (f := f) (args := args) (w := w) (R := R))
theorem wpIn_WF {n : Nat} {c : Code} {Q : Exit → Act → World → Prop} {a : Act} : c.wpIn (WF none) n P Q a w ↔ c.wp P Q a w := wpIn_wide
theorem rowsIn_WF {ro : Option Nat} {n : Nat} {row : String} {args : Array Value} {R : Value → World → Prop} (h : Rows P row args w R) : RowsIn (WF ro) n P row args w R :=
  fun c cs _ => let ⟨v, w', r, s⟩ := h c cs; ⟨v, w', r, stepsIn_wide.2 s⟩
theorem op_wpIn {ro : Option Nat} {o : Oper} {a : Act} {next : Act → World → Prop} {Q : Exit → Act → World → Prop} (hd : ro = none ∨ ∀ c, o.op ≠ .defer c) (h : o.wp P a w next Q) : o.wpIn (WF ro) 0 P a w next Q := by
  refine ⟨fun _ _ => trivial, ?_⟩
  have hs : o.semAt (WF ro).round a.eval = execOp a.eval o := by
    rcases hd with rfl | hd
    · rfl
    · exact Oper.semAt_eq _ _ _ hd
  rw [hs]
  unfold Oper.wp at h
  have hdep : (WF ro).depth.isSome = true → 1 ≤ 0 := fun h => by cases h
  generalize (execOp a.eval o).run P w = r at h ⊢
  cases r with
  | ok x w' =>
    cases x <;> simp only [Oper.upon, Oper.uponIn] at h ⊢ <;> first
      | exact h
      | exact h.elim
      | exact ⟨hdep, callsIn_WF.2 (Calls.mono h fun e w hh => by cases e <;> exact hh)⟩
      | exact ⟨hdep, rowsIn_WF h⟩
  | halt x w' => cases x <;> simp only [Oper.upon, Oper.uponIn] at h ⊢ <;> exact h

/-- Whatever 'rnd' answers of a round is so. -/
def RndOK (P : Program) (w0 : World) (rnd : Call2) : Prop :=
  ∀ (L : Nat) (l : List Value) (m : Mem) (out : Out) (m' : Mem), rnd L l m = .ok (out, m') →
    ∀ (E : Env) (w : World) (args : Array Value) (b : Nat), HR P w0 E m.H m.next w → m.lo ≤ m.next → VRL E l args.toList → E.blk L = some b →
      ∃ fn tmps asg body, (Instr.yield b args).run P w = .ok (.round b fn tmps asg body) w ∧
        RoundIn Fence.wide 0 P b fn tmps asg body w fun e w' => ∃ E', E.le E' ∧ HR P w0 E' m'.H m'.next w' ∧ m'.lo = m.lo ∧ m.next ≤ m'.next ∧ OutR E' out e

theorem exYield_run {tm : T Value} {nt : Nat} {a : Act} (ha : AR E tm nt a) {c : Call} {L : Nat} {l : List Value} (he : exYield tm c = some (L, l)) (ty : TypeId) :
    ∃ (b : Nat) (args : Array Value), E.blk L = some b ∧ VRL E l args.toList ∧ ∀ w, (do let d ← resolve a.eval c ty; invoke d.target d.args : Sem Next).run P w = (Instr.yield b args).run P w := by
  unfold exYield at he
  split at he
  · rename_i x hc
    split at he
    · rename_i L' hx
      split at he
      · rename_i l' hl
        injection he with he
        injection he with e1 e2
        subst e1 e2
        have hv := ev_VR ha hx
        have hl := evs_VR ha c.args.toList _ hl
        generalize hy : a.eval x = y at hv
        cases hv with
        | @yield _ b hb =>
          refine ⟨b, c.args.map a.eval, hb, by simpa using hl, fun w => ?_⟩
          have hres : (resolve a.eval c ty).run P w = .ok { target := .fn (.yield b) #[], args := #[] ++ c.args.map a.eval } w := by
            simp [resolve, hc, hy, Deferred.ofValue, Sem.run_pure]
          rw [Sem.run_bind, hres]
          simp [Result.andThen, invoke]
      · cases he
    · cases he
  · cases he
theorem exYield_congr {tm tm' : T Value} {c : Call} (h : ∀ x ∈ c.operands.toList, ev tm x = ev tm' x) : exYield tm c = exYield tm' c := by
  have hargs : evs tm c.args.toList = evs tm' c.args.toList := evs_congr _ fun x hx => h x (by simp only [Call.operands]; split <;> simp_all)
  unfold exYield
  cases hc : c.callee with
  | value f => have hf : ev tm f = ev tm' f := h f (by simp [Call.operands, hc]); simp only [hf, hargs]
  | _ => rfl
theorem exStep3_congr {call rnd : Call2} {tm tm' : T Value} (o : Oper) (h : ∀ x ∈ o.op.operands.toList, ev tm x = ev tm' x) : exStep3 call rnd P m tm o = exStep3 call rnd P m tm' o := by
  unfold exStep3
  rw [exStep2_congr (tm := tm) (tm' := tm') o h]
  split
  · rename_i c hc
    rw [exYield_congr (tm := tm) (tm' := tm') fun x hx => h x (by rw [isFuncCall_op hc]; exact hx)]
  · rfl
theorem exStep2_later {call : Call2} {tm : T Value} {o : Oper} {d : Did} (he : exStep2 call P m tm o = .ok d) (hd : ∀ x, d ≠ .later x) : ∀ c, o.op ≠ .defer c := by
  intro c hc
  unfold exStep2 at he
  rw [hc] at he
  simp only at he
  split at he
  · injection he with he; exact hd _ he.symm
  · cases he
theorem exOp_noDefer {tm : T Value} {o : Oper} {v : Value} {m' : Mem} (he : exOp P m tm o = some (v, m')) : ∀ c, o.op ≠ .defer c := by
  intro c hc
  unfold exOp at he
  rw [hc] at he
  cases he
theorem exStep3_wp (hP : Plainly P) {call rnd : Call2} (hcall : CallOK P w0 call) (hrnd : RndOK P w0 rnd) {ro : Option Nat} (h : HR P w0 E m.H m.next w) (hlo : m.lo ≤ m.next) {tm : T Value} {nt : Nat} {a : Act} (ha : AR E tm nt a) {o : Oper} {d : Did}
    (he : exStep3 call rnd P m tm o = .ok d) (hd : ro = none ∨ ∀ x, d ≠ .later x) {next : Act → World → Prop} {Q : Exit → Act → World → Prop} (hn : StepTo P w0 E m a w o next Q d) : o.wpIn (WF ro) 0 P a w next Q := by
  unfold exStep3 at he
  split at he
  · rename_i c hc
    have hop := isFuncCall_op hc
    have hnd : ∀ c, o.op ≠ .defer c := fun c h => by rw [hop] at h; cases h
    split at he
    · rename_i L l hy
      split at he
      · rename_i v m' hr
        injection he with he
        subst he
        obtain ⟨b, args, k1, k2, k3⟩ := exYield_run (P := P) ha hy o.type
        obtain ⟨fn, tmps, asg, body, k4, k5⟩ := hrnd L l m _ _ hr E w args b h hlo k2 k1
        refine ⟨fun _ _ => trivial, ?_⟩
        rw [Oper.semAt_eq _ _ _ hnd]
        have hrun : (execOp a.eval o).run P w = .ok (.round b fn tmps asg body) w := by
          unfold execOp
          rw [hop]
          exact (k3 w).trans k4
        rw [hrun]
        refine ⟨fun h => (by cases h), RoundIn.mono k5 fun e w' ⟨E', q1, q2, q3, q4, q5⟩ => ?_⟩
        cases e with
        | returned v' => exact hn E' v' w' q1 q2 q5 q3 q4
        | panicked ch => exact q5.elim
        | outgrown => exact q5.elim
      · cases he
      · cases he
    · exact op_wpIn (.inr hnd) (exStep2_wp hP hcall h hlo ha he hn)
  · refine op_wpIn ?_ (exStep2_wp hP hcall h hlo ha he hn)
    rcases hd with hd | hd
    · exact .inl hd
    · exact .inr (exStep2_later he hd)

/-! ### operations that do nothing but lay a block -/
theorem teq_eq : ∀ (t t' : T Value), teq t t' = true → t = t'
  | .leaf, t', h => by cases t' <;> simp_all [teq]
  | .node a v b, t', h => by
    cases t' with
    | leaf => simp [teq] at h
    | node a' v' b' =>
      simp only [teq, Bool.and_eq_true] at h
      obtain ⟨⟨h1, h2⟩, h3⟩ := h
      rw [teq_eq a a' h2, teq_eq b b' h3]
      cases v <;> cases v' <;> simp at h1 <;> first | rfl | rw [veq_eq _ _ h1]
theorem holds_get {x : Fr} {m : Mem} (h : holds x m = true) : m.H.get x.2.2.1 = some x.2.2.2 := by
  unfold holds at h
  split at h
  · rename_i cs n e g cs' n' e' g' h1 h2
    simp only [Bool.and_eq_true, beq_iff_eq] at h
    obtain ⟨⟨⟨k1, k2⟩, k3⟩, k4⟩ := h
    rw [h2, h1, teq_eq _ _ k1, Nat.eq_of_beq_eq_true k2, Nat.eq_of_beq_eq_true k3, k4]
  · cases h
theorem cleanT_get {cs : T Value} : ∀ (n : Nat), cleanT cs n = true → ∀ j v, j < n → cs.get j = some v → clean v = true := by
  intro n
  induction n with
  | zero => intro _ j v hj; omega
  | succ n ih =>
    intro h j v hj hv
    simp only [cleanT, Bool.and_eq_true] at h
    by_cases e : j = n
    · subst e
      have := h.1
      rw [hv] at this
      exact this
    · exact ih h.2 j v (by omega) hv
theorem isFree_spec {o : Oper} (h : isFree o = true) : (∀ cs b, o.op ≠ .select cs b) ∧ (∀ c, o.op ≠ .defer c) ∧ (∀ x ∈ o.op.operands, ∃ v, x = .const v) ∧ o.guard = none := by
  unfold isFree at h
  simp only [Bool.and_eq_true] at h
  obtain ⟨⟨⟨h1, h2⟩, h3⟩, _⟩ := h
  refine ⟨fun cs b e => ?_, fun c e => ?_, fun x hx => ?_, by simpa using h3⟩
  · rw [e] at h1; cases h1
  · rw [e] at h1; cases h1
  · have := List.all_eq_true.1 h2 x (Array.mem_toList_iff.2 hx)
    unfold isConst at this
    split at this
    · exact ⟨_, rfl⟩
    · cases this
theorem freeOut_run {o : Oper} (hf : isFree o = true) {n : Nat} {v : Value} {ob : AObj} (he : freeOut P o n = some (v, ob)) (a : Act) (w : World) :
    ∃ v' w' b r, ((execOp a.eval o).run P w = .ok (.value v') w' ∨ ((execOp a.eval o).run P w = .ok .skip w' ∧ v' = Go.undef)) ∧ Below w.heap.size w w' ∧ w.heap.size ≤ b ∧ b < w'.heap.size ∧ w'.heap[b]? = some r ∧
      (∀ E : Env, E.cap n = none → OR P E n ob r) ∧ (∀ E : Env, E.blk n = some b → E.cap n = none → VR E v v') := by
  obtain ⟨hs, hnd, hc, hg⟩ := isFree_spec hf
  unfold freeOut at he
  split at he
  · rename_i v0 m' hx
    split at he
    · rename_i cs k e hm
      split at he
      · rename_i hcl
        have hcl := cleanT_get k hcl
        obtain ⟨E', v', w', h1, h2, h3, h4, _⟩ := exOp_run (nt := 0) (a := { tmps := #[], defers := [] }) (HR.start w) (Nat.zero_le _) ⟨by intro g hg; simp [hg], rfl, fun t => by simpa [T.get] using VR.undef _⟩ hx
        have hcong : execOp a.eval o = execOp (Act.eval { tmps := #[], defers := [] }) o := execOp_congr o hs fun x hx => by
          obtain ⟨u, rfl⟩ := hc x hx
          rfl
        have hph : E'.ph 64 = false := by rw [h2.ph]
        obtain ⟨b, r, q1, q2, arr, ⟨fz, elem', hz, hel, hr⟩, hsz, hcell⟩ := h3.born 64 _ hm hph
        have hd := (h3.dom 64 b q1).2 (Nat.le_refl _)
        have hcap : E'.cap 64 = none ∧ arr.size = k := by
          unfold sizeOk at hsz
          cases hcp : E'.cap 64 with
          | none => rw [hcp] at hsz; exact ⟨rfl, hsz.1⟩
          | some p => rw [hcp] at hsz; simp at hsz
        have hor : ∀ E : Env, E.cap n = none → OR P E n (.cells cs k e false) r := fun E hE => by
          refine ⟨arr, ⟨fz, elem', fun _ => hz (Nat.le_refl _), fun _ => hel (Nat.le_refl _), hr⟩, ?_, fun j u hj hu => ?_⟩
          · unfold sizeOk; rw [hE]; exact ⟨hcap.2, rfl⟩
          · obtain ⟨u', k1, k2⟩ := hcell j u hj hu
            have hcu := hcl j u hj hu
            rw [VR.eq_of_clean k2 hcu] at k1
            exact ⟨u, k1, VR.of_clean E u hcu⟩
        rw [hcong]
        refine ⟨v', w', b, r, h1, h3.below, hd.1, hd.2, q2, ?_⟩
        split at he
        · simp only [Option.some.injEq, Prod.mk.injEq] at he
          obtain ⟨rfl, rfl⟩ := he
          refine ⟨hor, fun E hb hE => ?_⟩
          cases h4 with
          | ptr o hb' =>
            rw [q1] at hb'
            injection hb' with hb'
            subst hb'
            exact .ptr 0 hb
        · simp only [Option.some.injEq, Prod.mk.injEq] at he
          obtain ⟨rfl, rfl⟩ := he
          refine ⟨hor, fun E hb hE => ?_⟩
          cases h4 with
          | slice o l hb' hc' =>
            rw [q1] at hb'
            injection hb' with hb'
            subst hb'
            refine .slice 0 _ hb ?_
            unfold capOf at hc' ⊢
            rw [hcap.1] at hc'
            rw [hE]
            exact hc'
        · cases he
      · cases he
    · cases he
  · cases he
/-- What a free operation must lead to. -/
theorem free_wp {ro : Option Nat} {o : Oper} (hf : isFree o = true) {n : Nat} {v : Value} {ob : AObj} (he : freeOut P o n = some (v, ob)) {a : Act} {next : Act → World → Prop} {Q : Exit → Act → World → Prop}
    (hn : ∀ v' w' b r, Below w.heap.size w w' → w.heap.size ≤ b → b < w'.heap.size → w'.heap[b]? = some r → (∀ E : Env, E.cap n = none → OR P E n ob r) → (∀ E : Env, E.blk n = some b → E.cap n = none → VR E v v') → next (a.put o.dst v') w') :
    o.wpIn (WF ro) 0 P a w next Q := by
  obtain ⟨v', w', b, r, h1, h2, h3, h4, h5, h6, h7⟩ := freeOut_run hf he a w
  refine op_wpIn (.inr (isFree_spec hf).2.1) ?_
  unfold Oper.wp
  rcases h1 with h1 | ⟨h1, rfl⟩
  · rw [h1]; exact hn v' w' b r h2 h3 h4 h5 h6 h7
  · rw [h1]; exact hn _ w' b r h2 h3 h4 h5 h6 h7
theorem frOf_mem {i : Nat} {x : Fr} : ∀ (fl : List Fr), frOf i fl = some x → x ∈ fl ∧ x.1 = i := by
  intro fl
  induction fl with
  | nil => intro h; cases h
  | cons y r ih =>
    intro h
    simp only [frOf] at h
    split at h
    · rename_i hb
      injection h with h
      subst h
      exact ⟨List.mem_cons_self .., Nat.eq_of_beq_eq_true hb⟩
    · obtain ⟨h1, h2⟩ := ih h
      exact ⟨List.mem_cons_of_mem _ h1, h2⟩
/-- What is laid out beforehand. -/
def Env.phs (E : Env) (fl : List Fr) : Env := ⟨E.blk, E.cap, fun i => E.ph i || fl.any fun f => f.2.2.1 == i⟩
structure Lain (P : Program) (L : PL) (m m0 : Mem) (fl : List Fr) : Prop where
  lo : m0.lo = m.lo
  next : m.next ≤ m0.next
  num : ∀ f ∈ fl, m.next ≤ f.2.2.1 ∧ f.2.2.1 < m0.next
  from' : ∀ f ∈ fl, ∃ x ∈ L, x.1 = f.1 ∧ isFree x.2.1 = true ∧ freeOut P x.2.1 f.2.2.1 = some (f.2.1, f.2.2.2)
  inj : ∀ f ∈ fl, ∀ f' ∈ fl, f.2.2.1 = f'.2.2.1 → f = f'
  idx : L.Pairwise (fun x y => x.1 ≠ y.1) → ∀ f ∈ fl, ∀ f' ∈ fl, f.1 = f'.1 → f = f'
theorem layFree_ok : ∀ (L : PL) (m : Mem) (E : Env) (w : World) (fl : List Fr) (m0 : Mem), layFree P L m = some (fl, m0) → HR P w0 E m.H m.next w → HR P w0 (E.phs fl) m0.H m0.next w ∧ Lain P L m m0 fl := by
  intro L
  induction L with
  | nil =>
    intro m E w fl m0 he h
    simp only [layFree, Option.some.injEq, Prod.mk.injEq] at he
    obtain ⟨rfl, rfl⟩ := he
    refine ⟨?_, rfl, Nat.le_refl _, by simp, by simp, by simp, fun _ => by simp⟩
    have : E.phs [] = E := by simp [Env.phs]
    rw [this]; exact h
  | cons x L ih =>
    intro m E w fl m0 he h
    obtain ⟨i, o, p⟩ := x
    simp only [layFree] at he
    split at he
    · rename_i hf
      split at he
      · rename_i v ob ho
        split at he
        · rename_i hlt
          rw [Nat.blt_eq] at hlt
          split at he
          · rename_i l m1 hl
            simp only [Option.some.injEq, Prod.mk.injEq] at he
            obtain ⟨rfl, rfl⟩ := he
            obtain ⟨k1, k2⟩ := ih _ _ _ _ _ hl (h.lay hlt ob)
            have hnx := k2.next
            simp only at hnx
            refine ⟨?_, k2.lo, by omega, fun f hf' => ?_, fun f hf' => ?_, fun f hf' f' hf2 e => ?_, fun hp f hf' f' hf2 e => ?_⟩
            · have : (E.phantom m.next).phs l = E.phs ((i, v, m.next, ob) :: l) := by
                unfold Env.phantom Env.phs
                congr 1
                funext j
                simp only [List.any_cons]
                have e1 : (j == m.next) = (m.next == j) := by rw [Bool.eq_iff_iff, beq_iff_eq, beq_iff_eq]; exact ⟨Eq.symm, Eq.symm⟩
                rw [e1]
                cases E.ph j <;> cases (m.next == j) <;> simp
              rw [← this]; exact k1
            · rcases List.mem_cons.1 hf' with rfl | hf'
              · simp only; omega
              · have := k2.num f hf'; simp only at this; omega
            · rcases List.mem_cons.1 hf' with rfl | hf'
              · exact ⟨(i, o, p), List.mem_cons_self .., rfl, hf, ho⟩
              · obtain ⟨y, q1, q2⟩ := k2.from' f hf'
                exact ⟨y, List.mem_cons_of_mem _ q1, q2⟩
            · rcases List.mem_cons.1 hf' with rfl | hf' <;> rcases List.mem_cons.1 hf2 with rfl | hf2
              · rfl
              · have := k2.num f' hf2; simp only at this e; omega
              · have := k2.num f hf'; simp only at this e; omega
              · exact k2.inj f hf' f' hf2 e
            · obtain ⟨hp1, hp2⟩ := List.pairwise_cons.1 hp
              rcases List.mem_cons.1 hf' with rfl | hf' <;> rcases List.mem_cons.1 hf2 with rfl | hf2
              · rfl
              · obtain ⟨y, q1, q2, _⟩ := k2.from' f' hf2
                exact absurd (e.trans q2.symm) (hp1 y q1)
              · obtain ⟨y, q1, q2, _⟩ := k2.from' f hf'
                exact absurd (e.symm.trans q2.symm) (hp1 y q1)
              · exact k2.idx hp2 f hf' f' hf2 e
          · cases he
        · cases he
      · cases he
    · obtain ⟨k1, k2⟩ := ih _ _ _ _ _ he h
      refine ⟨k1, k2.lo, k2.next, k2.num, fun f hf' => ?_, k2.inj, fun hp => k2.idx (List.pairwise_cons.1 hp).2⟩
      obtain ⟨y, q1, q2⟩ := k2.from' f hf'
      exact ⟨y, List.mem_cons_of_mem _ q1, q2⟩
end Go.Proofs.YthjhdjjmpoaceaaGreatDoor.Ev

/-! Regions whose order is drawn: the plan, and what a run in the text's order says. -/
namespace Go.Proofs.YthjhdjjmpoaceaaGreatDoor.Ev
open Go.RowKit
set_option linter.unusedSimpArgs false

variable {P : Program} {w0 w : World} {E : Env} {m : Mem} {ops : Array Oper}

def shape (x : Nat × Oper × Plan) : Nat × Oper := (x.1, x.2.1)
theorem fwd_shape : ∀ (l : List Oper) (i k : Nat) (acc : PL), (fwd P i k l acc).map shape = ((l.zipIdx i).map fun q => (q.2, q.1)).reverse ++ acc.map shape := by
  intro l
  induction l with
  | nil => intro i k acc; simp [fwd]
  | cons o r ih => intro i k acc; simp [fwd, ih, shape]
theorem bwd_shape (n : Nat) : ∀ (F acc : PL), (bwd n F acc).map shape = (F.map shape).reverse ++ acc.map shape := by
  intro F
  induction F with
  | nil => intro acc; simp [bwd]
  | cons x r ih => obtain ⟨i, o, p⟩ := x; intro acc; simp [bwd, ih, shape]
structure PlanOK (P : Program) (nt : Nat) (ops : Array Oper) (n : Nat) (L : PL) : Prop where
  here : ∀ (i : Nat) (o : Oper), ops[i]? = some o → ∃ p, L[i]? = some (i, o, p)
  back : ∀ (i : Nat) (x : Nat × Oper × Plan), L[i]? = some x → x.1 = i ∧ ops[i]? = some x.2.1
  one : ∀ x ∈ L, oneOk P nt n L x = true
  pair : ∀ x ∈ L, ∀ y ∈ L, pairOk ops x y = true
theorem drPlan_ok {nt n : Nat} {L : PL} (h : drPlan P nt ops = some (n, L)) : PlanOK P nt ops n L := by
  unfold drPlan at h
  simp only at h
  split at h
  · rename_i hc
    injection h with h
    injection h with h1 h2
    subst h1 h2
    have hs : (bwd (actives (fwd P 0 0 ops.toList [])) (fwd P 0 0 ops.toList []) []).map shape = (ops.toList.zipIdx 0).map fun q => (q.2, q.1) := by
      rw [bwd_shape, fwd_shape]; simp
    generalize bwd (actives (fwd P 0 0 ops.toList [])) (fwd P 0 0 ops.toList []) [] = L at hs hc
    have hi : ∀ i, (L[i]?).map shape = (ops[i]?).map fun o => (i, o) := fun i => by
      rw [← List.getElem?_map, hs]
      simp only [List.getElem?_map, List.getElem?_zipIdx, Array.getElem?_toList]
      cases ops[i]? <;> simp
    refine ⟨fun i o ho => ?_, fun i x hx => ?_, fun x hx => ?_, fun x hx y hy => ?_⟩
    · have := hi i
      rw [ho] at this
      cases hL : L[i]? with
      | none => rw [hL] at this; simp at this
      | some x =>
        obtain ⟨j, o', p⟩ := x
        rw [hL] at this
        simp [shape] at this
        exact ⟨p, by rw [this.1, this.2]⟩
    · have := hi i
      rw [hx] at this
      cases ho : ops[i]? with
      | none => rw [ho] at this; simp at this
      | some o =>
        rw [ho] at this
        simp [shape] at this
        exact ⟨this.1, by rw [this.2]⟩
    · have := List.all_eq_true.1 hc x hx
      simp only [Bool.and_eq_true] at this
      exact this.1
    · have := List.all_eq_true.1 hc x hx
      simp only [Bool.and_eq_true] at this
      exact List.all_eq_true.1 this.2 y hy
  · cases h
theorem waits_iff {o : Oper} {j : Nat} : waits o j = true ↔ ∃ e ∈ o.after, Region.binds .any e = true ∧ e.on = j := by
  unfold waits
  rw [List.any_eq_true]
  constructor
  · rintro ⟨e, he, h⟩
    simp only [Bool.and_eq_true] at h
    exact ⟨e, Array.mem_toList_iff.1 he, h.1, Nat.eq_of_beq_eq_true h.2⟩
  · rintro ⟨e, he, h1, h2⟩
    refine ⟨e, Array.mem_toList_iff.2 he, ?_⟩
    rw [h1, h2]; simp
theorem PlanOK.apart {nt n : Nat} {L : PL} (h : PlanOK P nt ops n L) : L.Pairwise fun x y => x.1 ≠ y.1 := by
  rw [List.pairwise_iff_getElem]
  intro i j hi hj hij e
  have h1 := (h.back i _ (List.getElem?_eq_getElem hi)).1
  have h2 := (h.back j _ (List.getElem?_eq_getElem hj)).1
  omega
namespace PlanOK
variable {nt n : Nat} {L : PL} (h : PlanOK P nt ops n L) {x y : Nat × Oper × Plan}
include h
theorem mem_at (hx : x ∈ L) : L[x.1]? = some x := by
  obtain ⟨i, hi⟩ := List.mem_iff_getElem?.1 hx
  have := (h.back i x hi).1
  rw [this]; exact hi
theorem op_at (hx : x ∈ L) : ops[x.1]? = some x.2.1 := (h.back _ _ (h.mem_at hx)).2
theorem eq_of (hx : x ∈ L) (hy : y ∈ L) (e : x.1 = y.1) : x = y := by
  have h1 := h.mem_at hx
  have h2 := h.mem_at hy
  rw [e, h2] at h1
  injection h1 with h1
  exact h1.symm
theorem dst (hx : x ∈ L) {d : Nat} (hd : x.2.1.dst = some d) : d < nt := by
  have := h.one x hx
  unfold oneOk at this
  rw [hd] at this
  simp only [Bool.and_eq_true] at this
  exact of_decide_eq_true (by simpa [Nat.blt_eq] using this.1.1.1)
theorem edge (hx : x ∈ L) {j : Nat} (hw : waits x.2.1 j = true) : j < x.1 := by
  obtain ⟨e, he, h1, h2⟩ := waits_iff.1 hw
  have := h.one x hx
  unfold oneOk at this
  simp only [Bool.and_eq_true] at this
  have := List.all_eq_true.1 this.1.1.2 e (Array.mem_toList_iff.2 he)
  rw [h1] at this
  simp only [Bool.not_true, Bool.false_or, Nat.blt_eq] at this
  omega
theorem act (hx : x ∈ L) : x.2.2.act = !calm P x.2.1 := by
  have := h.one x hx
  unfold oneOk at this
  simp only [Bool.and_eq_true, beq_iff_eq] at this
  exact this.1.2
theorem free (hx : x ∈ L) (hf : isFree x.2.1 = true) : x.2.2.act = false := by
  rw [h.act hx]
  simp [calm, hf]
theorem uniq (hx : x ∈ L) (hy : y ∈ L) (hne : x.1 ≠ y.1) {d : Nat} (hd : y.2.1.dst = some d) : x.2.1.dst ≠ some d := by
  intro hd'
  have := h.pair x hx y hy
  unfold pairOk at this
  rw [hd, hd'] at this
  simp only [Bool.and_eq_true, Bool.or_eq_true] at this
  rcases this.2 with k | k
  · exact hne (Nat.eq_of_beq_eq_true k)
  · simp at k
theorem look (hx : x ∈ L) (hy : y ∈ L) {d : Nat} (hd : y.2.1.dst = some d) (hl : d ∈ x.2.1.looksAt ops) : waits x.2.1 y.1 = true ∨ waits y.2.1 x.1 = true := by
  have := h.pair x hx y hy
  unfold pairOk at this
  rw [hd] at this
  simp only [Bool.and_eq_true, Bool.or_eq_true] at this
  rcases this.1 with (k | k) | k
  · have hb : looksE ops x.2.1 d = true := List.any_eq_true.2 ⟨d, hl, by simp⟩
    rw [hb] at k; cases k
  · exact .inl k
  · exact .inr k
omit h in
theorem behind_iff {o : Oper} {k : Nat} (hb : behind L o k = true) : k = 0 ∨ ∃ y ∈ L, waits o y.1 = true ∧ ((y.2.2.act = true ∧ k ≤ y.2.2.rank + 1) ∨ (y.2.2.act = false ∧ k ≤ y.2.2.lo)) := by
  unfold behind at hb
  simp only [Bool.or_eq_true] at hb
  rcases hb with q | q
  · exact .inl (Nat.eq_of_beq_eq_true q)
  · obtain ⟨y, hy, q⟩ := List.any_eq_true.1 q
    simp only [Bool.and_eq_true] at q
    refine .inr ⟨y, hy, q.1, ?_⟩
    cases ha : y.2.2.act with
    | true => rw [ha] at q; exact .inl ⟨rfl, by simpa using q.2⟩
    | false => rw [ha] at q; exact .inr ⟨rfl, by simpa using q.2⟩
theorem chain (hx : x ∈ L) (ax : x.2.2.act = true) : x.2.2.rank = 0 ∨ ∃ y ∈ L, waits x.2.1 y.1 = true ∧ ((y.2.2.act = true ∧ x.2.2.rank ≤ y.2.2.rank + 1) ∨ (y.2.2.act = false ∧ x.2.2.rank ≤ y.2.2.lo)) := by
  have := h.one x hx
  unfold oneOk at this
  simp only [Bool.and_eq_true, ax, if_true] at this
  exact behind_iff this.2
theorem lo (hx : x ∈ L) (ax : x.2.2.act = false) : x.2.2.lo = 0 ∨ ∃ y ∈ L, waits x.2.1 y.1 = true ∧ ((y.2.2.act = true ∧ x.2.2.lo ≤ y.2.2.rank + 1) ∨ (y.2.2.act = false ∧ x.2.2.lo ≤ y.2.2.lo)) := by
  have := h.one x hx
  unfold oneOk at this
  simp only [Bool.and_eq_true, ax, Bool.false_eq_true, if_false] at this
  exact behind_iff this.2.1
theorem hi (hx : x ∈ L) (ax : x.2.2.act = false) : n ≤ x.2.2.hi ∨ ∃ y ∈ L, waits y.2.1 x.1 = true ∧ ((y.2.2.act = true ∧ y.2.2.rank ≤ x.2.2.hi) ∨ (y.2.2.act = false ∧ y.2.2.hi ≤ x.2.2.hi)) := by
  have := h.one x hx
  unfold oneOk at this
  simp only [Bool.and_eq_true, ax, Bool.false_eq_true, if_false] at this
  have := this.2.2
  simp only [Bool.or_eq_true] at this
  rcases this with k | k
  · exact .inl (by simpa using k)
  · obtain ⟨y, hy, k⟩ := List.any_eq_true.1 k
    simp only [Bool.and_eq_true] at k
    refine .inr ⟨y, hy, k.1, ?_⟩
    cases ha : y.2.2.act with
    | true => rw [ha] at k; exact .inl ⟨rfl, by simpa using k.2⟩
    | false => rw [ha] at k; exact .inr ⟨rfl, by simpa using k.2⟩
end PlanOK
end Go.Proofs.YthjhdjjmpoaceaaGreatDoor.Ev

/-! Regions whose order is drawn: what the run in the text's order says of each operation. -/
namespace Go.Proofs.YthjhdjjmpoaceaaGreatDoor.Ev
open Go.RowKit
set_option linter.unusedSimpArgs false

variable {P : Program} {w0 w : World} {E : Env} {m : Mem} {ops : Array Oper}

theorem putE_get {tm : T Value} {dst : Option Tmp} {v : Value} (hb : ∀ d, dst = some d → d < 1073741824) (t : Nat) : (putE tm dst v).get t = if dst = some t then some v else tm.get t := by
  cases dst with
  | none => simp [putE]
  | some d =>
    rw [putE, T.get_set _ _ _ (hb d rfl)]
    by_cases h : t = d
    · simp [h]
    · simp [h, Ne.symm h]
/-- What the run says of one operation. -/
def RunSays (call rnd : Call2) (P : Program) (ops : Array Oper) (R : PL) (k : Nat) (mm : List Mem) (tm0 tmF : T Value) (j : Nat) (x : Nat × Oper × Plan) (v : Value) (tmi : T Value) : Prop :=
  (∀ t, (∀ j' y, j' < j → R[j']? = some y → y.2.1.dst ≠ some t) → tmi.get t = tm0.get t) ∧ (∀ t, (∀ j' y, j ≤ j' → R[j']? = some y → y.2.1.dst ≠ some t) → tmF.get t = tmi.get t) ∧
    (∀ d, x.2.1.dst = some d → (∀ j' y, j < j' → R[j']? = some y → y.2.1.dst ≠ some d) → tmF.get d = some v) ∧
    (Region.wanted x.2.1 (yieldedE ops tmi) = false → v = Go.undef) ∧
    (x.2.2.act = true → k ≤ x.2.2.rank ∧ ∃ mi mi' : Mem, mm[x.2.2.rank - k]? = some mi ∧ mm[x.2.2.rank - k + 1]? = some mi' ∧
      ((Region.wanted x.2.1 (yieldedE ops tmi) = true ∧ exStep3 call rnd P mi tmi x.2.1 = .ok (.val v mi')) ∨ (Region.wanted x.2.1 (yieldedE ops tmi) = false ∧ mi' = mi)))
structure RunOK (call rnd : Call2) (P : Program) (ops : Array Oper) (fl : List Fr) (R : PL) (k : Nat) (tm : T Value) (m : Mem) (vs : List (Value × T Value)) (ms : List Mem) (tmF : T Value) : Prop where
  keeps : ∀ t, (∀ x ∈ R, x.2.1.dst ≠ some t) → tmF.get t = tm.get t
  says : ∀ (j : Nat) (x : Nat × Oper × Plan), R[j]? = some x → ∃ v tmi, vs[j]? = some (v, tmi) ∧ RunSays call rnd P ops R k (m :: ms) tm tmF j x v tmi
  rank : ∀ r, r < ms.length → ∃ x ∈ R, x.2.2.act = true ∧ x.2.2.rank = k + r
  inj : ∀ (j j' : Nat) (x y : Nat × Oper × Plan), R[j]? = some x → R[j']? = some y → x.2.2.act = true → y.2.2.act = true → x.2.2.rank = y.2.2.rank → j = j'
  free : ∀ (j : Nat) (x : Nat × Oper × Plan), R[j]? = some x → isFree x.2.1 = true → ∃ f tmi, frOf x.1 fl = some f ∧ vs[j]? = some (f.2.1, tmi)
theorem RunOK.cons {call rnd : Call2} {fl : List Fr} {R : PL} {k k' : Nat} {tm : T Value} {m m' : Mem} {vs : List (Value × T Value)} {ms ms' : List Mem} {tmF : T Value} {x : Nat × Oper × Plan} {v : Value}
    (hb : ∀ d, x.2.1.dst = some d → d < 1073741824) (h : RunOK call rnd P ops fl R k' (putE tm x.2.1.dst v) m' vs ms tmF)
    (hk : (x.2.2.act = true ∧ x.2.2.rank = k ∧ k' = k + 1 ∧ ms' = m' :: ms ∧ ((Region.wanted x.2.1 (yieldedE ops tm) = true ∧ exStep3 call rnd P m tm x.2.1 = .ok (.val v m')) ∨ (Region.wanted x.2.1 (yieldedE ops tm) = false ∧ m' = m))) ∨ (x.2.2.act = false ∧ k' = k ∧ ms' = ms ∧ m' = m))
    (hv : Region.wanted x.2.1 (yieldedE ops tm) = false → v = Go.undef) (hfr : isFree x.2.1 = true → ∃ f, frOf x.1 fl = some f ∧ v = f.2.1) : RunOK call rnd P ops fl (x :: R) k tm m ((v, tm) :: vs) ms' tmF := by
  refine ⟨fun t ht => ?_, fun j y hj => ?_, fun r hr => ?_, fun j j' y z hy hz hay haz hr => ?_, fun j y hy hfy => ?_⟩
  · rw [h.keeps t fun y hy => ht y (List.mem_cons_of_mem _ hy), putE_get hb, if_neg (ht x (List.mem_cons_self ..))]
  · cases j with
    | zero =>
      simp only [List.getElem?_cons_zero, Option.some.injEq] at hj
      subst hj
      refine ⟨v, tm, rfl, fun _ _ => rfl, fun t ht => ?_, fun d hd hno => ?_, hv, fun ha => ?_⟩
      · rw [h.keeps t fun y hy => by
          obtain ⟨i, hi⟩ := List.mem_iff_getElem?.1 hy
          exact ht (i + 1) y (Nat.zero_le _) (by simpa using hi), putE_get hb, if_neg (ht 0 x (Nat.le_refl _) rfl)]
      · rw [h.keeps d fun y hy => by
          obtain ⟨i, hi⟩ := List.mem_iff_getElem?.1 hy
          exact hno (i + 1) y (Nat.succ_pos _) (by simpa using hi), putE_get hb, if_pos hd]
      · rcases hk with ⟨_, hr, _, rfl, hs⟩ | ⟨ha', _⟩
        · refine ⟨Nat.le_of_eq hr.symm, m, m', ?_, ?_, hs⟩ <;> simp [hr]
        · rw [ha] at ha'; cases ha'
    | succ j =>
      simp only [List.getElem?_cons_succ] at hj
      obtain ⟨u, tmi, h1, h0, h2, h3, h4, h5⟩ := h.says j y hj
      refine ⟨u, tmi, by simpa using h1, fun t ht => ?_, fun t ht => h2 t fun j' z hj' hz => ht (j' + 1) z (Nat.succ_le_succ hj') (by simpa using hz), fun d hd hno => h3 d hd fun j' z hj' hz => hno (j' + 1) z (Nat.succ_lt_succ hj') (by simpa using hz), h4, fun ha => ?_⟩
      · rw [h0 t fun j' z hj' hz => ht (j' + 1) z (Nat.succ_lt_succ hj') (by simpa using hz), putE_get hb, if_neg (ht 0 x (Nat.succ_pos _) rfl)]
      obtain ⟨k1, mi, mi', k2, k3, k4⟩ := h5 ha
      rcases hk with ⟨_, hr, hk', rfl, hs⟩ | ⟨ha', hk', rfl, rfl⟩
      · subst hk'
        have e1 : y.2.2.rank - k = (y.2.2.rank - (k + 1)) + 1 := by omega
        exact ⟨by omega, mi, mi', by rw [e1, List.getElem?_cons_succ]; exact k2, by rw [e1, List.getElem?_cons_succ]; exact k3, k4⟩
      · subst hk'
        exact ⟨k1, mi, mi', k2, k3, k4⟩
  · rcases hk with ⟨ha, hr', hk', rfl, hs⟩ | ⟨ha', hk', rfl, rfl⟩
    · cases r with
      | zero => exact ⟨x, List.mem_cons_self .., ha, by omega⟩
      | succ r =>
        obtain ⟨y, h1, h2, h3⟩ := h.rank r (by simpa using hr)
        exact ⟨y, List.mem_cons_of_mem _ h1, h2, by omega⟩
    · obtain ⟨y, h1, h2, h3⟩ := h.rank r hr
      exact ⟨y, List.mem_cons_of_mem _ h1, h2, by omega⟩
  · have low : ∀ (i : Nat) (u : Nat × Oper × Plan), R[i]? = some u → u.2.2.act = true → k' ≤ u.2.2.rank := fun i u hu hau => by
      obtain ⟨v, tmi, _, _, _, _, _, h5⟩ := h.says i u hu
      exact (h5 hau).1
    have hk' : x.2.2.act = true → x.2.2.rank + 1 = k' := fun ha => by
      rcases hk with ⟨_, h1, h2, _⟩ | ⟨ha', _⟩
      · omega
      · rw [ha] at ha'; cases ha'
    cases j with
    | zero =>
      cases j' with
      | zero => rfl
      | succ j' =>
        simp only [List.getElem?_cons_zero, List.getElem?_cons_succ, Option.some.injEq] at hy hz
        subst hy
        have := low j' z hz haz
        have := hk' hay
        omega
    | succ j =>
      cases j' with
      | zero =>
        simp only [List.getElem?_cons_zero, List.getElem?_cons_succ, Option.some.injEq] at hy hz
        subst hz
        have := low j y hy hay
        have := hk' haz
        omega
      | succ j' => rw [h.inj j j' y z (by simpa using hy) (by simpa using hz) hay haz hr]
  · cases j with
    | zero =>
      simp only [List.getElem?_cons_zero, Option.some.injEq] at hy
      subst hy
      obtain ⟨f, k1, k2⟩ := hfr hfy
      exact ⟨f, tm, k1, by simp [k2]⟩
    | succ j =>
      obtain ⟨f, tmi, k1, k2⟩ := h.free j y (by simpa using hy) hfy
      exact ⟨f, tmi, k1, by simpa using k2⟩
theorem drRun_ok {call rnd : Call2} {fl : List Fr} : ∀ (R : PL) (k : Nat) (tm : T Value) (m : Mem) (vs : List (Value × T Value)) (ms : List Mem) (tmF : T Value), (∀ x ∈ R, ∀ d, x.2.1.dst = some d → d < 1073741824) → (∀ x ∈ R, isFree x.2.1 = true → x.2.2.act = false) →
    drRun call rnd P ops fl R k tm m = .ok (vs, ms, tmF) → RunOK call rnd P ops fl R k tm m vs ms tmF := by
  intro R
  induction R with
  | nil =>
    intro k tm m vs ms tmF _ _ he
    simp only [drRun, Tr.ok.injEq, Prod.mk.injEq] at he
    obtain ⟨rfl, rfl, rfl⟩ := he
    exact ⟨fun _ _ => rfl, fun j x hx => by simp at hx, fun r hr => by simp at hr, fun j j' x y hx => by simp at hx, fun j x hx => by simp at hx⟩
  | cons x R ih =>
    intro k tm m vs ms tmF hb hfa he
    obtain ⟨i, o, p⟩ := x
    have hb0 := hb _ (List.mem_cons_self ..)
    have hb' := fun x hx => hb x (List.mem_cons_of_mem (i, o, p) hx)
    have hfa0 := hfa _ (List.mem_cons_self ..)
    have hfa' := fun x hx => hfa x (List.mem_cons_of_mem (i, o, p) hx)
    simp only [drRun] at he
    split at he
    · rename_i hfree
      split at he
      · rename_i f hfo
        split at he
        · rename_i vs' ms' tm' hd
          simp only [Tr.ok.injEq, Prod.mk.injEq] at he
          obtain ⟨rfl, rfl, rfl⟩ := he
          refine RunOK.cons hb0 (ih _ _ _ _ _ _ hb' hfa' hd) (.inr ⟨hfa0 hfree, rfl, rfl, rfl⟩) (fun h => ?_) fun _ => ⟨f, hfo, rfl⟩
          have := (isFree_spec hfree).2.2.2
          simp [Region.wanted, this] at h
        · cases he
      · cases he
    rename_i hfree
    have hnf : ∀ v : Value, isFree o = true → ∃ f, frOf i fl = some f ∧ v = f.2.1 := fun v h => absurd h hfree
    split at he
    · rename_i hw
      split at he
      · rename_i ha
        split at he
        · rename_i hr
          split at he
          · rename_i v m' hs
            split at he
            · rename_i vs' ms' tm' hd
              simp only [Tr.ok.injEq, Prod.mk.injEq] at he
              obtain ⟨rfl, rfl, rfl⟩ := he
              exact RunOK.cons hb0 (ih _ _ _ _ _ _ hb' hfa' hd) (.inl ⟨ha, Nat.eq_of_beq_eq_true hr, rfl, rfl, .inl ⟨hw, hs⟩⟩) (fun h => by rw [hw] at h; cases h) (hnf _)
            · cases he
          · cases he
          · cases he
        · cases he
      · rename_i ha
        split at he
        · rename_i v m' hs
          split at he
          · rename_i vs' ms' tm' hd
            simp only [Tr.ok.injEq, Prod.mk.injEq] at he
            obtain ⟨rfl, rfl, rfl⟩ := he
            exact RunOK.cons hb0 (ih _ _ _ _ _ _ hb' hfa' hd) (.inr ⟨by simpa using ha, rfl, rfl, rfl⟩) (fun h => by rw [hw] at h; cases h) (hnf _)
          · cases he
        · cases he
    · rename_i hw
      have hw' : Region.wanted o (yieldedE ops tm) = false := by simpa using hw
      split at he
      · rename_i ha
        split at he
        · rename_i hr
          split at he
          · rename_i vs' ms' tm' hd
            simp only [Tr.ok.injEq, Prod.mk.injEq] at he
            obtain ⟨rfl, rfl, rfl⟩ := he
            exact RunOK.cons hb0 (ih _ _ _ _ _ _ hb' hfa' hd) (.inl ⟨ha, Nat.eq_of_beq_eq_true hr, rfl, rfl, .inr ⟨hw', rfl⟩⟩) (fun _ => rfl) (hnf _)
          · cases he
        · cases he
      · rename_i ha
        split at he
        · rename_i vs' ms' tm' hd
          simp only [Tr.ok.injEq, Prod.mk.injEq] at he
          obtain ⟨rfl, rfl, rfl⟩ := he
          exact RunOK.cons hb0 (ih _ _ _ _ _ _ hb' hfa' hd) (.inr ⟨by simpa using ha, rfl, rfl, rfl⟩) (fun _ => rfl) (hnf _)
        · cases he
theorem okAt_get {tm : T Value} {o : Oper} {v : Value} : ∀ (l : List Mem), okAt P tm o v l = true → ∀ m ∈ l, ∃ m', exOp P m tm o = some (v, m') := by
  intro l
  induction l with
  | nil => intro _ m hm; cases hm
  | cons a r ih =>
    intro h m hm
    simp only [okAt, Bool.and_eq_true] at h
    rcases List.mem_cons.1 hm with rfl | hm
    · have h1 := h.1
      split at h1
      · rename_i u m' hx
        exact ⟨m', by rw [hx, veq_eq u v h1]⟩
      · cases h1
    · exact ih h.2 m hm
theorem drChk_get {fl : List Fr} {ms : List Mem} : ∀ (R : PL) (vs : List (Value × T Value)), drChk P ops fl ms R vs = true → ∀ (j : Nat) (x : Nat × Oper × Plan) (v : Value) (tm : T Value), R[j]? = some x → vs[j]? = some (v, tm) → isFree x.2.1 = false → x.2.2.act = false →
    Region.wanted x.2.1 (yieldedE ops tm) = true → ∀ q m, x.2.2.lo ≤ q → q ≤ x.2.2.hi → ms[q]? = some m → ∃ m', exOp P m tm x.2.1 = some (v, m') := by
  intro R
  induction R with
  | nil => intro vs _ j x v tm hx; simp at hx
  | cons y R ih =>
    intro vs h j x v tm hx hv hnf ha hw q m h1 h2 hm
    obtain ⟨i, o, p⟩ := y
    cases vs with
    | nil => simp at hv
    | cons u vs =>
      obtain ⟨u, tu⟩ := u
      simp only [drChk, Bool.and_eq_true] at h
      cases j with
      | zero =>
        simp only [List.getElem?_cons_zero, Option.some.injEq, Prod.mk.injEq] at hx hv
        obtain ⟨rfl, rfl⟩ := hv
        subst hx
        simp only at hnf
        have h0 := h.1
        rw [hnf] at h0
        simp only [Bool.false_eq_true, if_false, Bool.or_eq_true] at h0
        rcases h0 with (k | k) | k
        · rw [ha] at k; cases k
        · rw [hw] at k; cases k
        · refine okAt_get _ k m ?_
          rw [List.mem_iff_getElem?]
          refine ⟨q - p.lo, ?_⟩
          rw [List.getElem?_take_of_lt (by simp only at h1 h2; omega), List.getElem?_drop]
          simp only at h1
          rw [show p.lo + (q - p.lo) = q by omega]
          exact hm
      | succ j => exact ih vs h.2 j x v tm (by simpa using hx) (by simpa using hv) hnf ha hw q m h1 h2 hm
theorem drChk_free {fl : List Fr} {ms : List Mem} : ∀ (R : PL) (vs : List (Value × T Value)), drChk P ops fl ms R vs = true → ∀ (j : Nat) (x : Nat × Oper × Plan) (f : Fr), R[j]? = some x → isFree x.2.1 = true → frOf x.1 fl = some f →
    ∀ q m, q ≤ x.2.2.hi → ms[q]? = some m → holds f m = true := by
  intro R
  induction R with
  | nil => intro vs _ j x v hx; simp at hx
  | cons y R ih =>
    intro vs h j x f hx hf hfo q m h1 hm
    obtain ⟨i, o, p⟩ := y
    cases vs with
    | nil => simp [drChk] at h
    | cons u vs =>
      obtain ⟨u, tu⟩ := u
      simp only [drChk, Bool.and_eq_true] at h
      cases j with
      | zero =>
        simp only [List.getElem?_cons_zero, Option.some.injEq] at hx
        subst hx
        simp only at hf hfo h1
        have h0 := h.1
        rw [hf, hfo] at h0
        simp only [if_true] at h0
        refine List.all_eq_true.1 h0 m ?_
        rw [List.mem_iff_getElem?]
        exact ⟨q, by rw [List.getElem?_take_of_lt (by omega)]; exact hm⟩
      | succ j => exact ih vs h.2 j x f (by simpa using hx) hf hfo q m h1 hm
/-- What an operation looks at decides whether it is wanted, and its operands. -/
theorem wanted_congr {o : Oper} {tm tm' : T Value} (h : ∀ t ∈ o.looksAt ops, tm.get t = tm'.get t) : Region.wanted o (yieldedE ops tm) = Region.wanted o (yieldedE ops tm') := by
  unfold Region.wanted
  cases hg : o.guard with
  | none => rfl
  | some gw =>
    obtain ⟨g, want⟩ := gw
    have : yieldedE ops tm g = yieldedE ops tm' g := by
      unfold yieldedE
      cases ht : (ops[g]?).bind (·.dst) with
      | none => rfl
      | some t => simp only; rw [h t (by simp [Oper.looksAt, hg, ht])]
    simp only [this]
theorem operands_congr {o : Oper} {tm tm' : T Value} (h : ∀ t ∈ o.looksAt ops, tm.get t = tm'.get t) : ∀ x ∈ o.op.operands.toList, ev tm x = ev tm' x := by
  intro x hx
  cases x with
  | tmp t =>
    simp only [ev]
    rw [h t (List.mem_append_left _ (List.mem_filterMap.2 ⟨.tmp t, hx, rfl⟩))]
  | _ => rfl
end Go.Proofs.YthjhdjjmpoaceaaGreatDoor.Ev

/-! Regions whose order is drawn: in whatever order, the outcome is the one of the text's order. -/
namespace Go.Proofs.YthjhdjjmpoaceaaGreatDoor.Ev
open Go.RowKit
set_option linter.unusedSimpArgs false

variable {P : Program} {w0 w : World} {E : Env} {m : Mem} {ops : Array Oper}

theorem Env.le.trans2 {A B C : Env} (h : A.le B) (k : B.le C) : A.le C := Env.le_trans h k
theorem AR.congr {tm tm' : T Value} {nt : Nat} {a : Act} (h : AR E tm nt a) (e : ∀ t, tm'.get t = tm.get t) : AR E tm' nt a := ⟨h.glob, h.size, fun t => by rw [e t]; exact h.get t⟩
theorem AR.putE {tm : T Value} {nt : Nat} {a : Act} (h : AR E tm nt a) {dst : Option Tmp} {v v' : Value} (hd : ∀ d, dst = some d → d < nt) (hB : nt ≤ 1073741824) (hv : VR E v v') : AR E (putE tm dst v) nt (a.put dst v') := by
  cases dst with
  | none => exact h
  | some d => exact h.put (hd d rfl) (Nat.lt_of_lt_of_le (hd d rfl) hB) hv
/-- Where a run in any order stands. -/
structure DInv (P : Program) (w0 : World) (E0 : Env) (nt : Nat) (ops : Array Oper) (fl : List Fr) (L : PL) (m0 : Mem) (ms : List Mem) (tm0 tmF : T Value) (df : List Df) (listed : Array Bool) (E : Env) (k : Nat) (a : Act) (w : World) : Prop where
  clo : ∀ x ∈ L, listed.getD x.1 true = true → ∀ y ∈ L, waits x.2.1 y.1 = true → listed.getD y.1 true = true
  rk : ∀ x ∈ L, x.2.2.act = true → (listed.getD x.1 true = true ↔ x.2.2.rank < k)
  lo : ∀ x ∈ L, x.2.2.act = false → listed.getD x.1 true = true → x.2.2.lo ≤ k
  hi : ∀ x ∈ L, x.2.2.act = false → listed.getD x.1 true = false → k ≤ x.2.2.hi
  kn : k ≤ ms.length
  mem : ∃ mk, (m0 :: ms)[k]? = some mk ∧ HR P w0 E mk.H mk.next w ∧ mk.lo ≤ mk.next ∧ mk.lo = m0.lo ∧ m0.next ≤ mk.next
  tmx : ∃ tmx, AR E tmx nt a ∧ (∀ x ∈ L, listed.getD x.1 true = true → ∀ d, x.2.1.dst = some d → tmx.get d = tmF.get d) ∧ (∀ t, (∀ x ∈ L, listed.getD x.1 true = true → x.2.1.dst ≠ some t) → tmx.get t = tm0.get t)
  df : DR P E df a.defers
  to : E0.To E
  phs : ∀ i, E.ph i = true ↔ (E0.ph i = true ∨ ∃ f ∈ fl, f.2.2.1 = i ∧ listed.getD f.1 true = false)
theorem getD_false_true {l : Array Bool} {i : Nat} (h : l.getD i false = true) : l.getD i true = true := by
  cases hi : l[i]? with
  | none => simp [hi] at h
  | some b => simpa [hi] using h
theorem getD_true_false {l : Array Bool} {i : Nat} (hs : i < l.size) (h : l.getD i true = true) : l.getD i false = true := by
  simpa [hs] using h
theorem getD_set_self {l : Array Bool} {i : Nat} : (l.setIfInBounds i true).getD i true = true := by
  by_cases hi : i < l.size
  · simp [hi]
  · simp [hi]
theorem all_listed {listed : Array Bool} (hsz : listed.size = ops.size) {nt n : Nat} {L : PL} (hp : PlanOK P nt ops n L) (h : Region.ready .any ops listed = []) : ∀ i, i < ops.size → listed.getD i true = true := by
  intro i
  induction i using Nat.strongRecOn with
  | _ i ih =>
    intro hi
    cases hl : listed.getD i true with
    | true => rfl
    | false =>
      exfalso
      have : i ∈ Region.ready .any ops listed := by
        rw [mem_ready]
        refine ⟨hl, ops[i], by simp [hi], fun e he hb => ?_⟩
        obtain ⟨p, hx⟩ := hp.here i ops[i] (by simp [hi])
        have hlt : e.on < i := hp.edge (x := (i, ops[i], p)) (List.mem_of_getElem? hx) (waits_iff.2 ⟨e, he, hb, rfl⟩)
        exact getD_true_false (by omega) (ih e.on hlt (by omega))
      rw [h] at this
      cases this
/-- One more is listed: the same, but for what it yields. -/
theorem DInv.step {E0 : Env} {nt n : Nat} {fl : List Fr} {L : PL} (hp : PlanOK P nt ops n L) {m0 : Mem} {ms : List Mem} {tm0 tmF : T Value} {df : List Df} {listed : Array Bool} {E E' : Env} {k k' : Nat} {a a' : Act} {w w' : World}
    (h : DInv P w0 E0 nt ops fl L m0 ms tm0 tmF df listed E k a w) {x : Nat × Oper × Plan} (hx : x ∈ L) (hun : listed.getD x.1 true = false) (hready : ∀ y ∈ L, waits x.2.1 y.1 = true → listed.getD y.1 true = true)
    (hk : (x.2.2.act = true ∧ x.2.2.rank = k ∧ k' = k + 1 ∧ k < ms.length) ∨ (x.2.2.act = false ∧ k' = k)) (hn : ms.length = n)
    (hrank : ∀ y ∈ L, y.2.2.act = true → y.2.2.rank = x.2.2.rank → x.2.2.act = true → y = x)
    (hE : E.To E') (hphs : ∀ i, E'.ph i = true ↔ (E0.ph i = true ∨ ∃ f ∈ fl, f.2.2.1 = i ∧ (listed.setIfInBounds x.1 true).getD f.1 true = false)) (hmem : ∃ mk, (m0 :: ms)[k']? = some mk ∧ HR P w0 E' mk.H mk.next w' ∧ mk.lo ≤ mk.next ∧ mk.lo = m0.lo ∧ m0.next ≤ mk.next)
    {v v' : Value} (hv : VR E' v v') (hF : ∀ d, x.2.1.dst = some d → tmF.get d = some v) (hB : nt ≤ 1073741824) (ha : a' = a.put x.2.1.dst v') :
    DInv P w0 E0 nt ops fl L m0 ms tm0 tmF df (listed.setIfInBounds x.1 true) E' k' a' w' := by
  have hdst : ∀ d, x.2.1.dst = some d → d < nt := fun d hd => hp.dst hx hd
  have hset : ∀ y ∈ L, (listed.setIfInBounds x.1 true).getD y.1 true = true ↔ (y = x ∨ listed.getD y.1 true = true) := fun y hy => by
    by_cases e : y.1 = x.1
    · have := hp.eq_of hy hx e
      subst this
      exact ⟨fun _ => .inl rfl, fun _ => getD_set_self⟩
    · rw [getD_set_ne true (Ne.symm e)]
      exact ⟨.inr, fun k => k.resolve_left fun e' => e (by rw [e'])⟩
  have hlx : x.2.2.act = false → x.2.2.lo ≤ k := fun hax => by
    rcases hp.lo hx hax with e | ⟨y, hy, hw, e⟩
    · omega
    · have hly := hready y hy hw
      rcases e with ⟨hay, e⟩ | ⟨hay, e⟩
      · have := (h.rk y hy hay).1 hly; omega
      · have := h.lo y hy hay hly; omega
  refine ⟨fun y hy hly z hz hw => ?_, fun y hy hay => ?_, fun y hy hay hly => ?_, ?_, ?_, hmem, ?_, ?_, h.to.trans hE, hphs⟩
  · rcases (hset y hy).1 hly with rfl | hly
    · exact (hset z hz).2 (.inr (hready z hz hw))
    · exact (hset z hz).2 (.inr (h.clo y hy hly z hz hw))
  · rw [hset y hy]
    rcases hk with ⟨hax, hr, rfl, _⟩ | ⟨hax, rfl⟩
    · constructor
      · rintro (rfl | k1)
        · omega
        · have := (h.rk y hy hay).1 k1; omega
      · intro hlt
        by_cases e : y.2.2.rank = k
        · exact .inl (hrank y hy hay (by omega) hax)
        · exact .inr ((h.rk y hy hay).2 (by omega))
    · constructor
      · rintro (rfl | k1)
        · rw [hay] at hax; cases hax
        · exact (h.rk y hy hay).1 k1
      · exact fun k1 => .inr ((h.rk y hy hay).2 k1)
  · rcases (hset y hy).1 hly with rfl | hly
    · have := hlx hay
      rcases hk with ⟨_, _, rfl, _⟩ | ⟨_, rfl⟩ <;> omega
    · have := h.lo y hy hay hly
      rcases hk with ⟨_, _, rfl, _⟩ | ⟨_, rfl⟩ <;> omega
  · have key : ∀ (b : Nat) (y : Nat × Oper × Plan), y ∈ L → L.length - y.1 ≤ b → y.2.2.act = false → (listed.setIfInBounds x.1 true).getD y.1 true = false → k' ≤ y.2.2.hi := by
      intro b
      induction b with
      | zero =>
        intro y hy hb _ _
        have := hp.mem_at hy
        have := (List.getElem?_eq_some_iff.1 this).1
        omega
      | succ b ih =>
        intro y hy hb hay hun'
        have hnl : ¬ (y = x ∨ listed.getD y.1 true = true) := fun e => by rw [(hset y hy).2 e] at hun'; cases hun'
        have hyl : listed.getD y.1 true = false := by simpa using fun e => hnl (.inr e)
        have h0 := h.hi y hy hay hyl
        rcases hk with ⟨hax, hr, rfl, hkl⟩ | ⟨_, rfl⟩
        · by_cases e : y.2.2.hi = k
          · exfalso
            rcases hp.hi hy hay with e1 | ⟨z, hz, hw, e1⟩
            · omega
            · rcases e1 with ⟨haz, e1⟩ | ⟨haz, e1⟩
              · by_cases e2 : z.2.2.rank = k
                · have := hrank z hz haz (by omega) hax
                  subst this
                  rw [hready y hy hw] at hyl; cases hyl
                · have hlz := (h.rk z hz haz).2 (by omega)
                  have := h.clo z hz hlz y hy hw
                  rw [this] at hyl; cases hyl
              · have hzl : (listed.setIfInBounds x.1 true).getD z.1 true = false := by
                  cases hq : (listed.setIfInBounds x.1 true).getD z.1 true with
                  | false => rfl
                  | true =>
                    rcases (hset z hz).1 hq with rfl | hq
                    · rw [haz] at hax; cases hax
                    · have := h.clo z hz hq y hy hw
                      rw [this] at hyl; cases hyl
                have hlt := hp.edge hz hw
                have h1 := (List.getElem?_eq_some_iff.1 (hp.mem_at hz)).1
                have := ih z hz (by omega) haz hzl
                omega
          · omega
        · exact h0
    exact fun y hy hay hun' => key _ y hy (Nat.le_refl _) hay hun'
  · rcases hk with ⟨_, _, rfl, hkl⟩ | ⟨_, rfl⟩
    · exact hkl
    · exact h.kn
  · obtain ⟨tmx, h1, h2, h3⟩ := h.tmx
    refine ⟨putE tmx x.2.1.dst v, by rw [ha]; exact (h1.monoT hE).putE hdst hB hv, fun y hy hly d hd => ?_, fun t ht => ?_⟩
    · rw [putE_get fun d hd => Nat.lt_of_lt_of_le (hdst d hd) hB]
      by_cases e : x.2.1.dst = some d
      · rw [if_pos e, hF d e]
      · rw [if_neg e]
        rcases (hset y hy).1 hly with rfl | hly
        · exact absurd hd e
        · exact h2 y hy hly d hd
    · rw [putE_get fun d hd => Nat.lt_of_lt_of_le (hdst d hd) hB, if_neg (ht x hx ((hset x hx).2 (.inl rfl)))]
      exact h3 t fun y hy hly => ht y hy ((hset y hy).2 (.inr hly))
  · rw [ha]
    have : (a.put x.2.1.dst v').defers = a.defers := by cases x.2.1.dst <;> rfl
    rw [this]
    exact h.df.monoT hE

theorem DInv.lo_le {E0 : Env} {nt n : Nat} {fl : List Fr} {L : PL} (hp : PlanOK P nt ops n L) {m0 : Mem} {ms : List Mem} {tm0 tmF : T Value} {df : List Df} {listed : Array Bool} {k : Nat} {a : Act}
    (h : DInv P w0 E0 nt ops fl L m0 ms tm0 tmF df listed E k a w) {x : Nat × Oper × Plan} (hx : x ∈ L) (hready : ∀ y ∈ L, waits x.2.1 y.1 = true → listed.getD y.1 true = true) (hax : x.2.2.act = false) : x.2.2.lo ≤ k := by
  rcases hp.lo hx hax with e | ⟨y, hy, hw, e⟩
  · omega
  · have hly := hready y hy hw
    rcases e with ⟨hay, e⟩ | ⟨hay, e⟩
    · have := (h.rk y hy hay).1 hly; omega
    · have := h.lo y hy hay hly; omega
theorem drawn_any (hP : Plainly P) {call rnd : Call2} (hcall : CallOK P w0 call) (hrnd : RndOK P w0 rnd) {ro : Option Nat} {E0 : Env} {nt n : Nat} (hB : nt ≤ 1073741824) {fl : List Fr} {L : PL} (hp : PlanOK P nt ops n L) {mb m0 : Mem} (hlain : Lain P L mb m0 fl) (hfresh : ∀ i, E0.ph i = true → i < mb.next) {ms : List Mem} {vs : List (Value × T Value)} {tm0 tmF : T Value} {df : List Df}
    (hrun : RunOK call rnd P ops fl L 0 tm0 m0 vs ms tmF) (hn : ms.length = n) (hchk : drChk P ops fl (m0 :: ms) L vs = true) {Q : Exit → Act → World → Prop}
    (hQ : ∀ mk E' a' w', (m0 :: ms)[ms.length]? = some mk → E0.le E' → HR P w0 E' mk.H mk.next w' → mk.lo ≤ mk.next → mk.lo = m0.lo → m0.next ≤ mk.next → AR E' tmF nt a' → DR P E' df a'.defers → Q .normal a' w') :
    ∀ (fuel : Nat) (S : List Nat) (listed : Array Bool) (E : Env) (k : Nat) (a : Act) (w : World), DInv P w0 E0 nt ops fl L m0 ms tm0 tmF df listed E k a w → listed.size = ops.size →
      S.length ≤ fuel → (∀ i, i < ops.size → listed.getD i true = false → i ∈ S) → wpAnyIn (WF ro) 0 P .any ops Q fuel listed a w := by
  have done : ∀ (listed : Array Bool) (E : Env) (k : Nat) (a : Act) (w : World), DInv P w0 E0 nt ops fl L m0 ms tm0 tmF df listed E k a w → (∀ i, i < ops.size → listed.getD i true = true) → Q .normal a w := by
    intro listed E k a w h hall
    have hl : ∀ x ∈ L, listed.getD x.1 true = true := fun x hx => hall x.1 (Array.getElem?_eq_some_iff.1 (hp.op_at hx)).1
    have hk : k = ms.length := by
      have := h.kn
      by_cases e : k < ms.length
      · obtain ⟨x, hx, ha, hr⟩ := hrun.rank k e
        have := (h.rk x hx ha).1 (hl x hx)
        omega
      · omega
    subst hk
    obtain ⟨mk, h1, h2, h3, h4, h5⟩ := h.mem
    obtain ⟨tmx, k1, k2, k3⟩ := h.tmx
    have hle : E0.le E := by
      refine ⟨h.to, funext fun i => ?_⟩
      rw [Bool.eq_iff_iff, h.phs i]
      refine ⟨fun e => e.resolve_right fun ⟨f, hf, _, hl'⟩ => ?_, .inl⟩
      obtain ⟨x, hx, q1, _⟩ := hlain.from' f hf
      rw [← q1, hl x hx] at hl'
      cases hl'
    refine hQ mk E a w h1 hle h2 h3 h4 h5 (k1.congr fun t => ?_) h.df
    by_cases e : ∃ x ∈ L, x.2.1.dst = some t
    · obtain ⟨x, hx, hd⟩ := e
      exact (k2 x hx (hl x hx) t hd).symm
    · rw [k3 t fun x hx _ hd => e ⟨x, hx, hd⟩]
      exact hrun.keeps t fun x hx hd => e ⟨x, hx, hd⟩
  intro fuel
  induction fuel with
  | zero =>
    intro S listed E k a w h hsz hS hun
    have hnil : S = [] := List.length_eq_zero_iff.1 (Nat.le_zero.1 hS)
    have hall : ∀ i, i < ops.size → listed.getD i true = true := fun i hi => by
      cases hl : listed.getD i true with
      | true => rfl
      | false => have := hun i hi hl; rw [hnil] at this; cases this
    refine ⟨List.eq_nil_iff_forall_not_mem.2 fun i hi => ?_, done listed E k a w h hall⟩
    obtain ⟨h1, o, h2, _⟩ := mem_ready.1 hi
    rw [hall i (Array.getElem?_eq_some_iff.1 h2).1] at h1
    cases h1
  | succ fuel ih =>
    intro S listed E k a w h hsz hS hun
    refine ⟨fun hr => done listed E k a w h (all_listed hsz hp hr), fun i hi => ?_⟩
    obtain ⟨hl, o, ho, hedges⟩ := mem_ready.1 hi
    have hil : i < ops.size := (Array.getElem?_eq_some_iff.1 ho).1
    obtain ⟨p, hLi⟩ := hp.here i o ho
    have hx : (i, o, p) ∈ L := List.mem_of_getElem? hLi
    have hready : ∀ y ∈ L, waits o y.1 = true → listed.getD y.1 true = true := fun y hy hw => by
      obtain ⟨e, he, h1, h2⟩ := waits_iff.1 hw
      rw [← h2]
      exact getD_false_true (hedges e he h1)
    obtain ⟨v, tmi, hv, hs0, hs1, hs2, hs3, hs4⟩ := hrun.says i _ hLi
    obtain ⟨tmx, k1, k2, k3⟩ := h.tmx
    obtain ⟨mk, m1, m2, m3, m4, m5⟩ := h.mem
    have hxi : ∀ t ∈ o.looksAt ops, tmi.get t = tmx.get t := fun t ht => by
      have old : (∀ y ∈ L, y.2.1.dst = some t → waits y.2.1 i = true) → tmi.get t = tmx.get t := fun hall => by
        rw [k3 t fun y hy hly hd => by
          have := h.clo y hy hly _ hx (hall y hy hd)
          simp only at this
          rw [this] at hl; cases hl]
        refine hs0 t fun j' y hj' hy hd => ?_
        have h1 := hp.edge (List.mem_of_getElem? hy) (hall y (List.mem_of_getElem? hy) hd)
        have h2 := (hp.back j' y hy).1
        omega
      by_cases e : ∃ y ∈ L, y.2.1.dst = some t
      · obtain ⟨y, hy, hd⟩ := e
        have one : ∀ z ∈ L, z.2.1.dst = some t → z = y := fun z hz hdz => by
          by_cases e : z.1 = y.1
          · exact hp.eq_of hz hy e
          · exact absurd hdz (hp.uniq hz hy e hd)
        rcases hp.look hx hy hd ht with hw | hw
        · rw [k2 y hy (hready y hy hw) t hd]
          refine (hs1 t fun j' z hj' hz hdz => ?_).symm
          have := one z (List.mem_of_getElem? hz) hdz
          subst this
          have h1 := hp.edge hx hw
          have h2 := (hp.back j' z hz).1
          simp only at h1
          omega
        · exact old fun z hz hdz => by rw [one z hz hdz]; exact hw
      · exact old fun z hz hdz => absurd ⟨z, hz, hdz⟩ e
    have hF : ∀ d, o.dst = some d → tmF.get d = some v := fun d hd => hs2 d hd fun j' y hj' hy hd' => by
      have h2 := (hp.back j' y hy).1
      exact hp.uniq (List.mem_of_getElem? hy) hx (by simp only; omega) hd hd'
    have hwant : Region.wanted o (yielded ops a.tmps) = Region.wanted o (yieldedE ops tmi) := by rw [wantedE k1, wanted_congr hxi]
    have hrank : ∀ y ∈ L, y.2.2.act = true → y.2.2.rank = p.rank → p.act = true → y = (i, o, p) := fun y hy hay hr ha => by
      have := hrun.inj y.1 i y (i, o, p) (hp.mem_at hy) hLi hay ha hr
      exact hp.eq_of hy hx this
    have hrk : p.act = true → p.rank = k ∧ k < ms.length := fun ha => by
      obtain ⟨_, mi, mi', q1, q2, _⟩ := hs4 ha
      simp only [Nat.sub_zero] at q2
      have hlt : p.rank < ms.length := by
        have := (List.getElem?_eq_some_iff.1 q2).1
        simp only [List.length_cons] at this
        omega
      have hge : k ≤ p.rank := by
        by_cases e : p.rank < k
        · have := (h.rk _ hx ha).2 e
          simp only at this
          rw [this] at hl; cases hl
        · omega
      refine (fun (e : p.rank = k) => ⟨e, e ▸ hlt⟩) ?_
      rcases hp.chain hx ha with e | ⟨y, hy, hw, e⟩
      · simp only at e; omega
      · have hly := hready y hy hw
        simp only at e
        rcases e with ⟨hay, e⟩ | ⟨hay, e⟩
        · have := (h.rk y hy hay).1 hly; omega
        · have := h.lo y hy hay hly; omega
    have next : ∀ (k' : Nat) (E' : Env) (v' : Value) (w' : World), ((p.act = true ∧ p.rank = k ∧ k' = k + 1 ∧ k < ms.length) ∨ (p.act = false ∧ k' = k)) → E.To E' → (∀ i', E'.ph i' = true ↔ (E0.ph i' = true ∨ ∃ f ∈ fl, f.2.2.1 = i' ∧ (listed.setIfInBounds i true).getD f.1 true = false)) →
        (∃ mk, (m0 :: ms)[k']? = some mk ∧ HR P w0 E' mk.H mk.next w' ∧ mk.lo ≤ mk.next ∧ mk.lo = m0.lo ∧ m0.next ≤ mk.next) → VR E' v v' → wpAnyIn (WF ro) 0 P .any ops Q fuel (listed.setIfInBounds i true) (a.put o.dst v') w' := by
      intro k' E' v' w' hk hE hphs hm hvv
      refine ih (S.erase i) _ E' k' _ w' (DInv.step hp h hx hl hready hk hn hrank hE hphs hm hvv hF hB rfl) (by simpa using hsz) ?_ fun j hj hjl => ?_
      · have hmem := hun i hil hl
        rw [List.length_erase_of_mem hmem]
        omega
      · have hne : j ≠ i := fun e => by subst e; rw [getD_set_self] at hjl; cases hjl
        rw [getD_set_ne true (Ne.symm hne)] at hjl
        exact (List.mem_erase_of_ne hne).2 (hun j hj hjl)
    -- the names of the blocks that are yet to be, where none of them is listed now
    have still' : isFree o = false → ∀ E' : Env, E.le E' → ∀ i', E'.ph i' = true ↔ (E0.ph i' = true ∨ ∃ f ∈ fl, f.2.2.1 = i' ∧ (listed.setIfInBounds i true).getD f.1 true = false) := by
      intro hnf E' hE i'
      rw [hE.ph, h.phs i']
      have : ∀ f ∈ fl, (listed.setIfInBounds i true).getD f.1 true = listed.getD f.1 true := fun f hf => by
        refine getD_set_ne true fun e => ?_
        obtain ⟨y, hy, q1, q2, _⟩ := hlain.from' f hf
        have := hp.eq_of hy hx (q1.trans e.symm)
        subst this
        rw [hnf] at q2
        cases q2
      constructor
      · rintro (e | ⟨f, hf, q1, q2⟩)
        · exact .inl e
        · exact .inr ⟨f, hf, q1, by rw [this f hf]; exact q2⟩
      · rintro (e | ⟨f, hf, q1, q2⟩)
        · exact .inl e
        · exact .inr ⟨f, hf, q1, by rw [this f hf] at q2; exact q2⟩
    unfold wpOpIn
    simp only [ho]
    by_cases hfree : isFree o = true
    · -- a block that was laid beforehand comes to be
      have hga := (isFree_spec hfree).2.2.2
      have hwt : ∀ g, Region.wanted o g = true := fun g => by simp [Region.wanted, hga]
      rw [hwt, if_pos rfl]
      have hact := hp.free hx hfree
      simp only at hact
      obtain ⟨f, tmf, hfo, hvf⟩ := hrun.free i _ hLi hfree
      simp only at hfo
      obtain ⟨hfm, hfi⟩ := frOf_mem fl hfo
      rw [hv] at hvf
      injection hvf with hvf
      injection hvf with hvf _
      obtain ⟨y, hy, y1, y2, y3⟩ := hlain.from' f hfm
      have hyx : y = (i, o, p) := hp.eq_of hy hx (y1.trans hfi)
      subst hyx
      simp only at y3
      have hold := drChk_free L vs hchk i _ f hLi hfree hfo k mk (h.hi _ hx hact hl) m1
      have hget := holds_get hold
      have hnum := hlain.num f hfm
      have hph : E.ph f.2.2.1 = true := (h.phs _).2 (.inr ⟨f, hfm, rfl, by rw [hfi]; exact hl⟩)
      refine free_wp hfree y3 fun v' w' b r e1 e2 e3 e4 e5 e6 => ?_
      have hcap : (E.real f.2.2.1 b).cap f.2.2.1 = none := by simp [Env.real]
      have hblk : (E.real f.2.2.1 b).blk f.2.2.1 = some b := by simp [Env.real]
      refine next k (E.real f.2.2.1 b) v' w' (.inr ⟨hact, rfl⟩) (Env.to_real m2 hph b) (fun i' => ?_) ⟨mk, m1, m2.real hph e1 e2 e3 hget e4 (e5 _ hcap), m3, m4, m5⟩ (by rw [hvf]; exact e6 _ hblk hcap)
      simp only [Env.real]
      by_cases hi' : i' = f.2.2.1
      · rw [if_pos hi']
        constructor
        · intro e; cases e
        · rintro (e | ⟨f', hf', q1, q2⟩)
          · have := hfresh i' e; omega
          · have := hlain.inj f' hf' f hfm (q1.trans hi')
            subst this
            rw [hfi, getD_set_self] at q2
            cases q2
      · rw [if_neg hi', h.phs i']
        have hne : ∀ f' ∈ fl, f'.2.2.1 = i' → i ≠ f'.1 := fun f' hf' q1 e => by
          have := hlain.idx hp.apart f' hf' f hfm (e.symm.trans hfi.symm)
          subst this
          exact hi' q1.symm
        constructor
        · rintro (e | ⟨f', hf', q1, q2⟩)
          · exact .inl e
          · exact .inr ⟨f', hf', q1, by rw [getD_set_ne true (hne f' hf' q1)]; exact q2⟩
        · rintro (e | ⟨f', hf', q1, q2⟩)
          · exact .inl e
          · exact .inr ⟨f', hf', q1, by rw [getD_set_ne true (hne f' hf' q1)] at q2; exact q2⟩
    have hnf : isFree o = false := by simpa using hfree
    have still' := still' hnf
    cases hw : Region.wanted o (yieldedE ops tmi) with
    | true =>
      rw [hwant, hw]
      simp only [if_true]
      cases ha : p.act with
      | true =>
        obtain ⟨hr, hkl⟩ := hrk ha
        obtain ⟨_, mi, mi', q1, q2, q3⟩ := hs4 ha
        simp only [Nat.sub_zero, hr] at q1 q2
        rw [m1] at q1
        injection q1 with q1
        subst q1
        rcases q3 with ⟨_, q3⟩ | ⟨q3, _⟩
        · rw [exStep3_congr (tm' := tmx) o (operands_congr hxi)] at q3
          refine exStep3_wp hP hcall hrnd m2 m3 k1 q3 (.inr fun x hx => by cases hx) fun E' v' w' e1 e2 e3 e4 e5 => ?_
          exact next (k + 1) E' v' w' (.inl ⟨ha, hr, rfl, hkl⟩) e1.T (still' E' e1) ⟨mi', q2, e2, by omega, by omega, by omega⟩ e3
        · rw [hw] at q3; cases q3
      | false =>
        have hlo := h.lo_le hp hx hready ha
        have hhi := h.hi _ hx ha hl
        obtain ⟨m', he⟩ := drChk_get L vs hchk i _ v tmi hLi hv hnf ha hw k mk hlo hhi m1
        have hst : still P o.op = true := by
          have := hp.act hx
          rw [ha] at this
          simpa [calm, hnf] using this.symm
        have := still_mem hst he
        subst this
        rw [exOp_congr (tm' := tmx) o (operands_congr hxi)] at he
        refine op_wpIn (.inr (exOp_noDefer he)) (exOp_wp m2 m3 k1 he ?_)
        refine fun E' v' w' e1 e2 e3 e4 e5 => ?_
        exact next k E' v' w' (.inr ⟨ha, rfl⟩) e1.T (still' E' e1) ⟨_, m1, e2, m3, m4, m5⟩ e3
    | false =>
      rw [hwant, hw]
      simp only [Bool.false_eq_true, if_false]
      refine ⟨fun _ _ => trivial, ?_⟩
      have hvu := hs3 hw
      subst hvu
      cases ha : p.act with
      | true =>
        obtain ⟨hr, hkl⟩ := hrk ha
        obtain ⟨_, mi, mi', q1, q2, q3⟩ := hs4 ha
        simp only [Nat.sub_zero, hr] at q1 q2
        rw [m1] at q1
        injection q1 with q1
        subst q1
        rcases q3 with ⟨q3, _⟩ | ⟨_, rfl⟩
        · rw [hw] at q3; cases q3
        · exact next (k + 1) E _ w (.inl ⟨ha, hr, rfl, hkl⟩) E.le_refl.T (still' E E.le_refl) ⟨_, q2, m2, m3, m4, m5⟩ (VR.undef E)
      | false => exact next k E _ w (.inr ⟨ha, rfl⟩) E.le_refl.T (still' E E.le_refl) ⟨mk, m1, m2, m3, m4, m5⟩ (VR.undef E)
theorem last_get (m0 : Mem) (ms : List Mem) : (m0 :: ms)[ms.length]? = some (lastMem m0 ms) := by
  induction ms generalizing m0 with
  | nil => rfl
  | cons m r ih => simpa [lastMem] using ih m
/-- A state of ours stands for the model's. -/
structure SR (P : Program) (w0 : World) (E : Env) (nt : Nat) (s : St) (a : Act) (w : World) : Prop where
  hr : HR P w0 E s.m.H s.m.next w
  lo : s.m.lo ≤ s.m.next
  ar : AR E s.tm nt a
  df : DR P E s.df a.defers
theorem evDrawn_wp (hP : Plainly P) (hm : P.follows .mixedOrders = true) {call rnd : Call2} (hcall : CallOK P w0 call) (hrnd : RndOK P w0 rnd) {ro : Option Nat} {nt : Nat} (hB : nt ≤ 1073741824) {s s' : St} {a : Act} (h : SR P w0 E nt s a w) (he : evDrawn call rnd P nt ops s = .ok s') {id : Nat}
    {Q : Exit → Act → World → Prop} (hQ : ∀ E' a' w', E.le E' → SR P w0 E' nt s' a' w' → s'.m.lo = s.m.lo → s.m.next ≤ s'.m.next → Q .normal a' w') : (Code.region id ops true).wpIn (WF ro) 0 P Q a w := by
  unfold evDrawn at he
  split at he
  · rename_i n L hpl
    split at he
    · rename_i fl m0 hlay
      split at he
      · rename_i vs ms tmF hrun
        split at he
        · rename_i hc
          injection he with he
          subst he
          simp only [Bool.and_eq_true] at hc
          have hp := drPlan_ok hpl
          obtain ⟨hr0, hlain⟩ := layFree_ok L s.m E w fl m0 hlay h.hr
          have hr := drRun_ok L 0 s.tm m0 vs ms tmF (fun x hx d hd => Nat.lt_of_lt_of_le (hp.dst hx hd) hB) (fun x hx hf => hp.free hx hf) hrun
          have hun : ∀ x ∈ L, (Array.replicate ops.size false).getD x.1 true = false := fun x hx => by
            have := (Array.getElem?_eq_some_iff.1 (hp.op_at hx)).1
            simp [this]
          have hto : E.To (E.phs fl) := fun i b hb => ⟨hb, rfl⟩
          have hlo := hlain.lo
          have hnx := hlain.next
          have hslo := h.lo
          refine wpIn_region_any hm (drawn_any hP hcall hrnd hB hp hlain (fun i hi => (h.hr.ph i hi).1) hr (Nat.eq_of_beq_eq_true hc.1) hc.2 (E0 := E) (df := s.df) ?_ ops.size (List.range ops.size) _ (E.phs fl) 0 a _ ?_ (by simp) (by simp) fun i hi _ => List.mem_range.2 hi)
          · intro mk E' a' w' k1 k2 k3 k4 k5 k6 k7 k8
            rw [last_get] at k1
            injection k1 with k1
            subst k1
            exact hQ E' a' w' k2 ⟨k3, k4, k7, k8⟩ (k5.trans hlo) (Nat.le_trans hnx k6)
          · refine ⟨fun x hx hl => ?_, fun x hx _ => ?_, fun x hx _ hl => ?_, fun x hx _ _ => Nat.zero_le _, Nat.zero_le _, ⟨m0, rfl, hr0.drawn, by omega, rfl, Nat.le_refl _⟩, ⟨s.tm, h.ar.monoT hto, fun x hx hl => ?_, fun _ _ => rfl⟩, h.df.monoT hto, hto, fun i => ?_⟩
            · rw [hun x hx] at hl; cases hl
            · rw [hun x hx]; simp
            · rw [hun x hx] at hl; cases hl
            · rw [hun x hx] at hl; cases hl
            · simp only [Env.phs, Bool.or_eq_true, List.any_eq_true, beq_iff_eq]
              constructor
              · rintro (e | ⟨f, hf, q⟩)
                · exact .inl e
                · obtain ⟨x, hx, q1, _⟩ := hlain.from' f hf
                  exact .inr ⟨f, hf, q, by rw [← q1]; exact hun x hx⟩
              · rintro (e | ⟨f, hf, q, _⟩)
                · exact .inl e
                · exact .inr ⟨f, hf, q⟩
        · cases he
      · cases he
    · cases he
  · cases he
end Go.Proofs.YthjhdjjmpoaceaaGreatDoor.Ev
