/-
  Code: what our machine makes of it stands for what the model makes of it.
-/
import Derived.Scope
import Derived.Test.YtkecgbcfkbafpaaDoorEvZ
namespace Go.Proofs.YtkecgbcfkbafpaaDoor.Ev
set_option linter.unusedSectionVars false
variable [Sig]
open Go.RowKit
set_option linter.unusedSimpArgs false

variable {P : Program} {w0 w : World} {E : Env} {m : Mem} {ops : Array Oper}

theorem dstOk_lt {nt : Nat} {o : Oper} (h : dstOk nt o = true) : ∀ d, o.dst = some d → d < nt := by
  intro d hd
  unfold dstOk at h
  rw [hd] at h
  simpa using h
theorem put_defers (a : Act) (dst : Option Tmp) (v : Value) : (a.put dst v).defers = a.defers := by cases dst <;> rfl
/-- How a piece of code ends. -/
def ExR (E : Env) : Ex2 → Exit → Prop
  | .normal, .normal => True
  | .exit i, .exit j => i = j
  | .ret, .ret => True
  | .pan v, .panic ch => ∃ v', ch = [{ v := v', recovered := false }] ∧ VR E v v'
  | _, _ => False
/-- What must hold of every outcome that ours stands for. -/
def Ends (P : Program) (w0 : World) (E : Env) (nt : Nat) (s : St) (e : Ex2) (s' : St) (Q : Exit → Act → World → Prop) : Prop :=
  ∀ E' x a' w', E.le E' → SR P w0 E' nt s' a' w' → s'.m.lo = s.m.lo → s.m.next ≤ s'.m.next → ExR E' e x → Q x a' w'
theorem Ends.of {nt : Nat} {s s1 s' : St} {e : Ex2} {Q : Exit → Act → World → Prop} {E' : Env} (h : Ends P w0 E nt s e s' Q) (hE : E.le E') (h1 : s1.m.lo = s.m.lo) (h2 : s.m.next ≤ s1.m.next) : Ends P w0 E' nt s1 e s' Q :=
  fun E'' x a' w' k1 k2 k3 k4 k5 => h E'' x a' w' (Env.le_trans hE k1) k2 (k3.trans h1) (Nat.le_trans h2 k4) k5
def opsEx : Option Value → Ex2
  | none => .normal
  | some v => .pan v
theorem evOps2_wp (hP : Plainly P) {call rnd : Call2} (hcall : CallOK P w0 call) (hrnd : RndOK P w0 rnd) {rd : Bool} {ro : Option Nat} (hro : rd = false → ro = none) {nt : Nat} (hB : nt ≤ 1073741824) : ∀ (l : List Oper) (E : Env) (s s' : St) (r : Option Value) (a : Act) (w : World) (Q : Exit → Act → World → Prop),
    SR P w0 E nt s a w → evOps2 rd call rnd P nt ops l s = .ok (r, s') → Ends P w0 E nt s (opsEx r) s' Q → wpListIn (WF ro) 0 P ops Q l a w := by
  intro l
  induction l with
  | nil =>
    intro E s s' r a w Q h he hQ
    simp only [evOps2, Tr.ok.injEq, Prod.mk.injEq] at he
    obtain ⟨rfl, rfl⟩ := he
    exact hQ E .normal a w E.le_refl h rfl (Nat.le_refl _) trivial
  | cons o l ih =>
    intro E s s' r a w Q h he hQ
    simp only [evOps2] at he
    split at he
    · cases he
    · rename_i hd
      have hd := dstOk_lt (by simpa using hd)
      have hw := wantedE h.ar ops o
      unfold wpListIn
      split at he
      · rename_i hwt
        rw [hw, hwt, if_pos rfl]
        split at he
        · rename_i v m' hs
          refine exStep3_wp hP hcall hrnd h.hr h.lo h.ar hs (.inr fun x hx => by cases hx) fun E' v' w' k1 k2 k3 k4 k5 => ?_
          refine ih E' _ s' r _ w' Q ⟨k2, by have := h.lo; simp only; omega, (h.ar.mono k1).putE hd hB k3, by rw [put_defers]; exact h.df.mono k1⟩ he (hQ.of k1 k4 k5)
        · rename_i v m' hs
          simp only [Tr.ok.injEq, Prod.mk.injEq] at he
          obtain ⟨rfl, rfl⟩ := he
          refine exStep3_wp hP hcall hrnd h.hr h.lo h.ar hs (.inr fun x hx => by cases hx) fun E' v' w' k1 k2 k3 k4 k5 => ?_
          exact hQ E' _ a w' k1 ⟨k2, by have := h.lo; simp only; omega, h.ar.mono k1, h.df.mono k1⟩ k4 k5 ⟨v', rfl, k3⟩
        · rename_i d hs
          cases rd with
          | true => simp at he
          | false =>
          simp only [Bool.false_eq_true, if_false] at he
          refine exStep3_wp hP hcall hrnd h.hr h.lo h.ar hs (.inl (hro rfl)) fun d' hd' => ?_
          refine ih E ⟨Ev.putE s.tm o.dst Go.undef, d :: s.df, s.m⟩ s' r _ w Q ⟨h.hr, h.lo, ?_, ?_⟩ he (hQ.of E.le_refl rfl (Nat.le_refl _))
          · have : AR E s.tm nt { a with defers := d' :: a.defers } := ⟨h.ar.glob, h.ar.size, h.ar.get⟩
            exact this.putE hd hB (VR.undef E)
          · rw [put_defers]
            exact .cons hd' h.df
        · cases he
      · rename_i hwt
        rw [hw, if_neg hwt]
        refine ⟨fun _ _ => trivial, ?_⟩
        exact ih E ⟨Ev.putE s.tm o.dst Go.undef, s.df, s.m⟩ s' r _ w Q ⟨h.hr, h.lo, h.ar.putE hd hB (VR.undef E), by rw [put_defers]; exact h.df⟩ he (hQ.of E.le_refl rfl (Nat.le_refl _))

/-- A loop that is about to run its body. -/
def InL (ro : Option Nat) (P : Program) (c : Code) (Q : Exit → Act → World → Prop) (a : Act) (w : World) : Prop :=
  ∀ (b : Frame) (k : List Item) (cs : List Frame), b.roundOf = ro → ∃ e a' w', Q e a' w' ∧ ArrivesIn (Machine.fenced P (WF ro)) P (lone (b.atR a (.code c :: .inLoop c :: k)) cs w) b k cs e a' w'
theorem InL.wp {ro : Option Nat} {c : Code} {Q : Exit → Act → World → Prop} {a : Act} {w : World} (h : InL ro P c Q a w) : (Code.loop c).wpIn (WF ro) 0 P Q a w := fun b k cs hro _ _ => by
  obtain ⟨e, a', w', h1, h2⟩ := h b k cs hro
  exact ⟨e, a', w', h1, .of_steps (.one (fenced_wide P _) stepR_loop) h2⟩
theorem InL.round {ro : Option Nat} {c : Code} {Q : Exit → Act → World → Prop} {a : Act} {w : World} (h : c.wpIn (WF ro) 0 P (Exit.then (InL ro P c Q) Q) a w) : InL ro P c Q a w := by
  intro b k cs hro
  obtain ⟨e, a₁, w₁, hq, harr⟩ := h b (.inLoop c :: k) cs hro trivial (room_wide _)
  cases e with
  | normal =>
    obtain ⟨e₂, a₂, w₂, hq₂, harr₂⟩ := hq b k cs hro
    exact ⟨e₂, a₂, w₂, hq₂, .of_steps (StepsIn.trans harr (.one (fenced_wide P _) stepR_inLoop)) harr₂⟩
  | exit id => exact ⟨_, a₁, w₁, hq, .pass (x := .inLoop c) rfl (fun _ _ => .inl (by simp)) harr⟩
  | goto l => exact ⟨_, a₁, w₁, hq, .pass (x := .inLoop c) rfl (fun _ _ => .inl (by simp)) harr⟩
  | ret => exact ⟨_, a₁, w₁, hq, .pass (x := .inLoop c) rfl (fun _ _ => .inl (by simp)) harr⟩
  | panic ch => exact ⟨_, a₁, w₁, hq, .pass (x := .inLoop c) rfl (fun _ _ => .inl (by simp)) harr⟩
  | outgrown => exact ⟨_, a₁, w₁, hq, .pass (x := .inLoop c) rfl (fun _ _ => .inl (by simp)) harr⟩
theorem stepR_scope {b : Frame} {a : Act} {k : List Item} {cs : List Frame} {c : Code} : step P (lone (b.atR a (.code (.scope c) :: k)) cs w) = .next (lone (b.atR a (.code c :: .inScope c :: k)) cs w) :=
  step_lone_go (by simp [stepG, stepG.exec, Frame.atR])
theorem stepR_inScope {b : Frame} {a : Act} {k : List Item} {cs : List Frame} {c : Code} : step P (lone (b.atR a (.inScope c :: k)) cs w) = .next (lone (b.atR a k) cs w) :=
  step_lone_go (by simp [stepG, stepG.exec, Frame.atR])
theorem wpIn_scope_straight {ro : Option Nat} {c : Code} {Q : Exit → Act → World → Prop} {a : Act} (h : c.wpIn (WF ro) 0 P (Exit.noGoto Q) a w) : (Code.scope c).wpIn (WF ro) 0 P Q a w := by
  intro b k cs hro hf hr
  have h0 : (lone (b.atR a (.code (.scope c) :: k)) cs w).fenced P (WF ro) := fenced_wide P _
  obtain ⟨e, a₁, w₁, hq, harr⟩ := h b (.inScope c :: k) cs hro hf hr
  have hex : ∀ id, exitTo id (.inScope c :: k) = exitTo id k := fun id => by simp [exitTo]
  cases e with
  | normal => exact ⟨.normal, a₁, w₁, hq, .head h0 stepR_scope (StepsIn.trans harr (.one (fenced_wide P _) stepR_inScope))⟩
  | exit id =>
    exact ⟨.exit id, a₁, w₁, hq, fun k' hk => .head h0 stepR_scope (harr.1 k' (by rw [hex]; exact hk)),
      fun hr' hk => let ⟨k₁, h1, h2⟩ := harr.2 hr' (by rw [hex]; exact hk); ⟨k₁, h1, .head h0 stepR_scope h2⟩⟩
  | goto l => exact hq.elim
  | ret => exact ⟨_, a₁, w₁, hq, .of_steps (.one h0 stepR_scope) harr⟩
  | panic ch => exact ⟨_, a₁, w₁, hq, .of_steps (.one h0 stepR_scope) harr⟩
  | outgrown => exact ⟨_, a₁, w₁, hq, .of_steps (.one h0 stepR_scope) harr⟩
/-- Rounds of a loop. -/
theorem evLoop_wp {ro : Option Nat} {nt : Nat} {x : Code} {f : St → Tr (Ex2 × St)} (hf : ∀ (E : Env) (s s' : St) (e : Ex2) (a : Act) (w : World) (Q : Exit → Act → World → Prop), SR P w0 E nt s a w → f s = .ok (e, s') → Ends P w0 E nt s e s' Q → x.wpIn (WF ro) 0 P Q a w) :
    ∀ (k : Nat) (E : Env) (s s' : St) (r : Option Ex2) (a : Act) (w : World) (Q : Exit → Act → World → Prop), SR P w0 E nt s a w → evLoop f k s = .ok (r, s') →
      (match r with
      | some e => Ends P w0 E nt s e s' Q
      | none => ∀ E' a' w', E.le E' → SR P w0 E' nt s' a' w' → s'.m.lo = s.m.lo → s.m.next ≤ s'.m.next → InL ro P x Q a' w') → InL ro P x Q a w := by
  intro k
  induction k with
  | zero =>
    intro E s s' r a w Q h he hQ
    refine InL.round ?_
    simp only [evLoop] at he
    split at he
    · rename_i s1 hs
      have he : none = r ∧ s1 = s' := by
        obtain ⟨tm1, df1, m1⟩ := s1
        cases df1 <;> simpa only [Tr.ok.injEq, Prod.mk.injEq] using he
      obtain ⟨rfl, rfl⟩ := he
      refine hf E s s1 .normal a w _ h hs fun E' z a' w' k1 k2 k3 k4 k5 => ?_
      cases z with
      | normal => exact hQ E' a' w' k1 k2 k3 k4
      | _ => exact k5.elim
    · rename_i e1 s1 hno hs
      simp only [Tr.ok.injEq, Prod.mk.injEq] at he
      obtain ⟨rfl, rfl⟩ := he
      refine hf E s s1 e1 a w _ h hs fun E' z a' w' k1 k2 k3 k4 k5 => ?_
      have := hQ E' z a' w' k1 k2 k3 k4 k5
      cases z with
      | normal =>
        cases e1 with
        | normal => exact (hno rfl).elim
        | _ => exact k5.elim
      | _ => exact this
    · cases he
  | succ k ih =>
    intro E s s' r a w Q h he hQ
    simp only [evLoop] at he
    split at he
    · rename_i s1 hs
      refine ih E s s1 none a w Q h hs fun E1 a1 w1 k1 k2 k3 k4 => ?_
      refine ih E1 s1 s' r a1 w1 Q k2 he ?_
      cases r with
      | some e => exact hQ.of k1 k3 k4
      | none => exact fun E' a' w' q1 q2 q3 q4 => hQ E' a' w' (Env.le_trans k1 q1) q2 (q3.trans k3) (Nat.le_trans k4 q4)
    · exact ih E s s' r a w Q h he hQ
theorem putObj_below {l : Nat} {o : Obj} {n : Nat} {w' : World} (h : Below n w w') (hl : n ≤ l) : Below n w (w'.putObj l o) :=
  ⟨h.os, h.tape, h.output, by simpa using h.size, fun k hk => (World.putObj_heap_other (by omega)).trans (h.block k hk)⟩
theorem range_wp (hP : Plainly P) {call rnd : Call2} (hcall : CallOK P w0 call) {nt n : Nat} {g : Operand} {ps : Array Nat} {asg body : Code} {s s' : St} {e : Ex2} {a : Act} {Q : Exit → Act → World → Prop}
    (h : SR P w0 E nt s a w) (he : evCode2 false call rnd P nt (n + 1) (.rangeFunc g ps asg body) s = .ok (e, s')) (hQ : Ends P w0 E nt s e s' Q) : (Code.rangeFunc g ps asg body).wpIn (WF none) 0 P Q a w := by
  simp only [evCode2, Bool.false_eq_true, if_false] at he
  split at he
  · rename_i gf fst cap hv
    split at he
    · rename_i hc
      simp only [Bool.and_eq_true, Nat.blt_eq, Nat.ble_eq] at hc
      obtain ⟨hc1, hc2⟩ := hc
      have hvr := ev_VR h.ar hv
      generalize hy : a.eval g = y at hvr
      cases hvr with
      | @func _ fst fst' cap cap' hfst hcap =>
        refine wpIn_rangeFunc ?_
        intro fn _
        have hr1 := h.hr.new (c := none) (o := .dfr) (r := .deferred (some [])) (by omega) rfl
        have hb1 : (E.more s.m.next w.heap.size none).blk s.m.next = some w.heap.size := by simp [Env.more]
        have hle1 := Env.le_more h.hr w.heap.size none
        have hle2 := Env.le_more hr1 (w.alloc (.deferred (some []))).heap.size none
        have hle := Env.le_trans hle1 hle2
        have hsz : (w.alloc (.deferred (some []))).heap.size = w.heap.size + 1 := by simp
        have hr2 := hr1.new (c := none) (o := .loop s.tm nt ps.toList asg body s.m.next .ready none)
          (r := .loop { state := .ready, pending := none, fn := fn, tmps := a.tmps, params := ps, assign := asg, body := body, defers := w.heap.size }) (by omega)
          ⟨fn, a.tmps, w.heap.size, (hle2.to _ _ hb1).1, h.ar.size, fun t => (h.ar.get t).mono hle, by simp⟩
        have hent := run_enterLoop_outer (P := P) (w := w) fn a.tmps ps asg body
        generalize hW : (w.alloc (.deferred (some []))).alloc (.loop { state := .ready, pending := none, fn := fn, tmps := a.tmps, params := ps, assign := asg, body := body, defers := w.heap.size }) = W1 at hr2 hent
        generalize hE2 : Env.more (E.more s.m.next w.heap.size none) (s.m.next + 1) (w.alloc (.deferred (some []))).heap.size none = E2 at *
        have hbl : E2.blk (s.m.next + 1) = some (w.heap.size + 1) := by rw [← hE2]; simp [Env.more]
        have hbd : E2.blk s.m.next = some w.heap.size := (hle2.to _ _ hb1).1
        have hargs : VRL E2 (fst ++ .func (.yield (s.m.next + 1)) #[] #[] :: cap) (fst'.toArray ++ #[Value.func (.yield (w.heap.size + 1)) #[] #[]] ++ cap'.toArray).toList := by
          have := (hfst.mono hle).append (VRL.cons (VR.yield hbl) (hcap.mono hle))
          simpa using this
        have key : ∀ out m2, call gf (fst ++ .func (.yield (s.m.next + 1)) #[] #[] :: cap) { s.m with H := (s.m.H.set s.m.next .dfr).set (s.m.next + 1) (.loop s.tm nt ps.toList asg body s.m.next .ready none), next := s.m.next + 2 } = .ok (out, m2) →
            (∀ E' w' e', E2.le E' → HR P w0 E' m2.H m2.next w' → m2.lo = s.m.lo → s.m.next ≤ m2.next → OutR E' out e' → rangePost (WF none) 0 P (w.heap.size + 1) Q { a with defers := [{ target := .collected w.heap.size, args := #[] }] ++ a.defers } e' w') →
            ∃ (l : Nat) (mark : List Deferred) (w₁ : World) (d : Deferred) (w₁' : World) (f : FuncId) (args : Array Value) (w₂ : World),
              (Instr.enterLoop fn a.tmps ps asg body (WF none).round).run P w = .ok (l, mark) w₁ ∧
              (resolve a.eval (rangeCall g l) 0).run P w₁ = .ok d w₁' ∧
              (∀ f', Target.leads P w₁' d.target d.args = some f' → (WF none).fn f') ∧
              (invoke d.target d.args).run P w₁' = .ok (.enter f args) w₂ ∧
              ((WF none).depth.isSome = true → 1 ≤ 0) ∧
              CallsIn (WF none) (0 - 1) P f args w₂ (rangePost (WF none) 0 P l Q { a with defers := mark ++ a.defers }) := by
          intro out m2 hcl hk
          obtain ⟨⟨fn', hf, hb⟩, hC⟩ := hcall _ _ _ _ _ hcl
          refine ⟨w.heap.size + 1, [{ target := .collected w.heap.size, args := #[] }], W1, { target := .fn (.func gf) cap'.toArray, args := fst'.toArray ++ #[.func (.yield (w.heap.size + 1)) #[] #[]] }, W1, gf,
            fst'.toArray ++ #[.func (.yield (w.heap.size + 1)) #[] #[]] ++ cap'.toArray, W1, hent, ?_, fun _ _ => trivial, ?_, fun h => (by cases h), ?_⟩
          · have hcc : a.eval (Operand.const (Value.func (.yield (w.heap.size + 1)) #[] #[])) = Value.func (.yield (w.heap.size + 1)) #[] #[] := rfl
            simp [resolve, hy, hcc, Deferred.ofValue, Sem.run_pure]
          · simp only [invoke]
            exact callFunc_run hP hf hb _ _
          · refine callsIn_WF.2 (Calls.mono (hC E2 _ _ hr2 ?_ hargs) fun e' w' ⟨E', k1, k2, k3, k4, k5⟩ => ?_)
            · have := h.lo; simp only; omega
            · exact hk E' w' e' k1 k2 k3 (by simp only at k4; omega) k5
        have hsr : ∀ {E' : Env} {w' : World} {H' : T AObj} {nx : Nat}, E2.le E' → HR P w0 E' H' nx w' → s.m.next ≤ nx → SR P w0 E' nt ⟨s.tm, .mark s.m.next :: s.df, ⟨H', nx, s.m.lo⟩⟩ { a with defers := [{ target := .collected w.heap.size, args := #[] }] ++ a.defers } w' := fun {E' w' H' nx} k1 k2 k3 => by
          have hle' := Env.le_trans hle k1
          refine ⟨k2, Nat.le_trans h.lo k3, ⟨(h.ar.mono hle').glob, h.ar.size, (h.ar.mono hle').get⟩, ?_⟩
          exact .cons ⟨w.heap.size, (k1.to _ _ hbd).1, rfl⟩ (h.df.mono hle')
        split at he
        · rename_i v m2 hcl
          split at he
          · rename_i tm2 nt2 ps2 asg2 body2 dfr2 st2 pend2 hg
            split at he
            · cases he
            · rename_i hbusy
              have hst : st2 ≠ .busy := fun e => hbusy (by rw [e]; rfl)
              refine key _ _ hcl fun E' w' e' k1 k2 k3 k4 k5 => ?_
              cases e' with
              | panicked ch => exact k5.elim
              | outgrown => exact k5.elim
              | returned v' =>
                obtain ⟨H2, nx2, lo2⟩ := m2
                simp only at k2 k3 k4 hg he
                subst k3
                have hbl' := (k1.to _ _ hbl).1
                obtain ⟨b, r, q1, q2, fn2, tmps2, bd2, q3, q4, q5, rfl⟩ := k2.obj hbl' hg
                obtain rfl : w.heap.size + 1 = b := by rw [hbl'] at q1; injection q1
                have hend := run_endLoop (P := P) q2 hst
                have hd := k2.dom _ _ hbl'
                have hL : s.m.next + 1 < 1073741824 := by omega
                have hr3 : HR P w0 E' (H2.del (s.m.next + 1)) nx2 (w'.putObj (w.heap.size + 1) (.loop { state := .exhausted, pending := pend2, fn := fn2, tmps := tmps2, params := ps2.toArray, assign := asg2, body := body2, defers := bd2 })) := by
                  refine (k2.forget hL).keep (putObj_below (Below.refl _ _) (hd.2 (by omega)).1) fun j o c hj hcb => World.putObj_heap_other fun e => ?_
                  subst e
                  rw [T.get_del _ _ hL] at hj
                  split at hj
                  · cases hj
                  · rename_i hne
                    exact hne (k2.inj _ _ _ _ _ hj hg hcb hbl')
                refine ⟨_, _, hend, ?_⟩
                have hs := hsr k1 hr3 k4
                have hle' := Env.le_trans hle k1
                split at he
                · simp only [Tr.ok.injEq, Prod.mk.injEq] at he
                  obtain ⟨rfl, rfl⟩ := he
                  exact hQ E' .normal _ _ hle' hs rfl k4 trivial
                · simp only [Tr.ok.injEq, Prod.mk.injEq] at he
                  obtain ⟨rfl, rfl⟩ := he
                  exact wpIn_ret (hQ E' .ret _ _ hle' hs rfl k4 trivial)
                · simp only [Tr.ok.injEq, Prod.mk.injEq] at he
                  obtain ⟨rfl, rfl⟩ := he
                  exact wpIn_exit (hQ E' (.exit _) _ _ hle' hs rfl k4 rfl)
                · cases he
          · cases he
        · rename_i v m2 hcl
          simp only [Tr.ok.injEq, Prod.mk.injEq] at he
          obtain ⟨rfl, rfl⟩ := he
          refine key _ _ hcl fun E' w' e' k1 k2 k3 k4 k5 => ?_
          cases e' with
          | returned v' => exact k5.elim
          | outgrown => exact k5.elim
          | panicked ch =>
            obtain ⟨v', rfl, k6⟩ := k5
            obtain ⟨H2, nx2, lo2⟩ := m2
            simp only at k2 k3 k4
            subst k3
            exact hQ E' (.panic _) _ _ (Env.le_trans hle k1) (hsr k1 k2 k4) rfl k4 ⟨v', rfl, k6⟩
        · cases he
    · cases he
  · cases he
theorem evCode2_wp (hP : Plainly P) (hm : P.follows .mixedOrders = true) {call rnd : Call2} (hcall : CallOK P w0 call) (hrnd : RndOK P w0 rnd) {rd : Bool} {ro : Option Nat} (hro : rd = false → ro = none) {nt : Nat} (hB : nt ≤ 1073741824) : ∀ (n : Nat) (c : Code) (E : Env) (s s' : St) (e : Ex2) (a : Act) (w : World) (Q : Exit → Act → World → Prop),
    SR P w0 E nt s a w → evCode2 rd call rnd P nt n c s = .ok (e, s') → Ends P w0 E nt s e s' Q → c.wpIn (WF ro) 0 P Q a w := by
  intro n
  induction n with
  | zero => intro c E s s' e a w Q _ he; simp [evCode2] at he
  | succ n ih =>
    intro c E s s' e a w Q h he hQ
    have self : ∀ {x : Ex2} {y : Exit}, e = x → s' = s → ExR E x y → Q y a w := fun {x y} h1 h2 h3 => by
      subst h1 h2; exact hQ E y a w E.le_refl h rfl (Nat.le_refl _) h3
    cases c with
    | skip =>
      simp only [evCode2, Tr.ok.injEq, Prod.mk.injEq] at he
      exact wpIn_skip (self he.1.symm he.2.symm trivial)
    | label l =>
      simp only [evCode2, Tr.ok.injEq, Prod.mk.injEq] at he
      exact wpIn_label (self he.1.symm he.2.symm trivial)
    | exit id =>
      simp only [evCode2, Tr.ok.injEq, Prod.mk.injEq] at he
      exact wpIn_exit (self he.1.symm he.2.symm rfl)
    | ret =>
      simp only [evCode2, Tr.ok.injEq, Prod.mk.injEq] at he
      exact wpIn_ret (self he.1.symm he.2.symm trivial)
    | region id ops draw =>
      cases draw with
      | false =>
        simp only [evCode2] at he
        split at he
        · rename_i s1 hs
          simp only [Tr.ok.injEq, Prod.mk.injEq] at he
          obtain ⟨rfl, rfl⟩ := he
          exact wpIn_region_list (evOps2_wp hP hcall hrnd hro hB _ E s s1 none a w Q h hs hQ)
        · rename_i v s1 hs
          simp only [Tr.ok.injEq, Prod.mk.injEq] at he
          obtain ⟨rfl, rfl⟩ := he
          exact wpIn_region_list (evOps2_wp hP hcall hrnd hro hB _ E s s1 (some v) a w Q h hs hQ)
        · cases he
      | true =>
        simp only [evCode2] at he
        split at he
        · rename_i s1 hs
          simp only [Tr.ok.injEq, Prod.mk.injEq] at he
          obtain ⟨rfl, rfl⟩ := he
          exact evDrawn_wp hP hm hcall hrnd hB h hs fun E' a' w' k1 k2 k3 k4 => hQ E' .normal a' w' k1 k2 k3 k4 trivial
        · cases he
    | seq x y =>
      refine wpIn_seq ?_
      simp only [evCode2] at he
      split at he
      · rename_i s1 hs
        refine (ih x E s s1 .normal a w _ h hs fun E' z a' w' k1 k2 k3 k4 k5 => ?_)
        cases z with
        | normal => exact (ih y E' s1 s' e a' w' Q k2 he (hQ.of k1 k3 k4))
        | _ => exact k5.elim
      · rename_i r hno
        refine (ih x E s s' e a w _ h he fun E' z a' w' k1 k2 k3 k4 k5 => ?_)
        have := hQ E' z a' w' k1 k2 k3 k4 k5
        cases z with
        | normal =>
          cases e with
          | normal => exact absurd he (hno _)
          | _ => exact k5.elim
        | _ => exact this
    | cond c x y =>
      simp only [evCode2] at he
      split at he
      · rename_i hv
        have := ev_VR h.ar hv
        generalize hy : a.eval c = z at this
        cases this
        exact wpIn_cond_true hy (ih x E s s' e a w Q h he hQ)
      · rename_i hv
        have := ev_VR h.ar hv
        generalize hy : a.eval c = z at this
        cases this
        exact wpIn_cond_false hy (ih y E s s' e a w Q h he hQ)
      · cases he
    | block id x =>
      refine wpIn_block ?_
      simp only [evCode2] at he
      split at he
      · rename_i i s1 hs
        have hb : ∀ Q', Ends P w0 E nt s (.exit i) s1 Q' → x.wpIn (WF ro) 0 P Q' a w := fun Q' hQ' => ih x E s s1 (.exit i) a w Q' h hs hQ'
        refine hb _ fun E' z a' w' k1 k2 k3 k4 k5 => ?_
        cases z with
        | exit j =>
          cases k5
          simp only [Exit.inBlock]
          split at he
          · rename_i hi
            simp only [Tr.ok.injEq, Prod.mk.injEq] at he
            obtain ⟨rfl, rfl⟩ := he
            rw [if_pos hi]
            exact hQ E' .normal a' w' k1 k2 k3 k4 trivial
          · rename_i hi
            simp only [Tr.ok.injEq, Prod.mk.injEq] at he
            obtain ⟨rfl, rfl⟩ := he
            rw [if_neg hi]
            exact hQ E' (.exit i) a' w' k1 k2 k3 k4 rfl
        | _ => exact k5.elim
      · rename_i r hno
        refine (ih x E s s' e a w _ h he fun E' z a' w' k1 k2 k3 k4 k5 => ?_)
        have := hQ E' z a' w' k1 k2 k3 k4 k5
        cases z with
        | exit j =>
          cases e with
          | exit i => exact absurd he (hno _ _)
          | _ => exact k5.elim
        | _ => exact this
    | loop x =>
      have key : InL ro P x Q a w := by
        simp only [evCode2] at he
        split at he
        · rename_i e1 s1 hs
          simp only [Tr.ok.injEq, Prod.mk.injEq] at he
          obtain ⟨rfl, rfl⟩ := he
          exact evLoop_wp (fun E s s' e a w Q h he hQ => (ih x E s s' e a w Q h he hQ)) (24 + s.m.lo) E s s1 (some e1) a w Q h hs hQ
        · cases he
        · cases he
      exact key.wp
    | scope x =>
      refine wpIn_scope_straight ?_
      simp only [evCode2] at he
      refine (ih x E s s' e a w _ h he fun E' z a' w' k1 k2 k3 k4 k5 => ?_)
      have := hQ E' z a' w' k1 k2 k3 k4 k5
      cases z with
      | goto l => cases e <;> exact k5.elim
      | _ => exact this
    | rangeFunc g ps asg body =>
      cases rd with
      | true => simp [evCode2] at he
      | false =>
        obtain rfl := hro rfl
        exact range_wp hP hcall h he hQ
    | _ => simp [evCode2] at he
end Go.Proofs.YtkecgbcfkbafpaaDoor.Ev
