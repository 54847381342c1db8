/-
  Calls: what our machine answers is so.
-/
import Derived.Test.YtkecgbcfkbafpaaDoorEvZB
namespace Go.Proofs.YtkecgbcfkbafpaaDoor.Ev
set_option linter.unusedSectionVars false
variable [Sig]
open Go.RowKit
set_option linter.unusedSimpArgs false

variable {P : Program} {w0 w : World} {E : Env} {m : Mem}

/-- A memory that comes of another. -/
def Onto (P : Program) (w0 : World) (E E' : Env) (m m' : Mem) (w' : World) : Prop := E.le E' ∧ HR P w0 E' m'.H m'.next w' ∧ m'.lo = m.lo ∧ m.next ≤ m'.next
theorem DR.nil_eq {ds : List Deferred} (h : DR P E [] ds) : ds = [] := by cases h; rfl
theorem evDef_run (hP : Plainly P) (hm : P.follows .mixedOrders = true) {call rnd : Call2} (hcall : CallOK P w0 call) (hrnd : RndOK P w0 rnd) {steps : Nat} {d1 : FuncId} {d2 : List Value} {u u' : Md} {m m' : Mem} (he : evDef call rnd P steps d1 d2 u m = .ok (u', m')) {args : Array Value} {um : FrameMode}
    (h : HR P w0 E m.H m.next w) (hlo : m.lo ≤ m.next) (hargs : VRL E d2 args.toList) (hu : MdR E u um) :
    CallsD P d1 args um w fun e um' w' => ∃ E' v, e = .returned v ∧ Onto P w0 E E' m m' w' ∧ MdR E' u' um' := by
  unfold evDef at he
  split at he
  · rename_i fn hf
    split at he
    · rename_i c hb
      split at he
      · rename_i hc
        simp only [Bool.and_eq_true, Nat.ble_eq] at hc
        refine callsD_of_wpS hf hb fun c₀ cs hmode => ?_
        subst hmode
        have hsr : SR P w0 E fn.ntmps ⟨T.leaf.fill 0 d2, [], m⟩ { tmps := args ++ Array.replicate (fn.ntmps - args.size) Go.undef, defers := [] } w := by
          refine ⟨h, hlo, ?_, .nil⟩
          have := AR.enter E h.glob hargs fn.ntmps (by omega) hc.2
          simpa using this
        have fin : ∀ e s, evCodeS2 call rnd P fn.ntmps steps c ⟨T.leaf.fill 0 d2, [], m⟩ u = .ok (e, s, u') → (e = .normal ∨ e = .ret) → s.df = [] → (∃ l, evResult P s.m s.tm fn.results.toList = some l) → m' = s.m →
            c.wpS P (bodyPostS P fn c₀ cs fun e um' w' => ∃ E' v, e = .returned v ∧ Onto P w0 E E' m m' w' ∧ MdR E' u' um') { tmps := args ++ Array.replicate (fn.ntmps - args.size) Go.undef, defers := [] } (c₀ :: cs) w := by
          intro e s hs hee hdf ⟨l, hl⟩ hm'
          clear he
          subst hm'
          refine evCodeS2_wp hP hm hcall hrnd hc.1 c₀ cs steps c E _ s u u' c₀.mode e _ w _ hsr hu hs fun E' x a' w' um' k1 k2 k3 k4 k5 k6 => ?_
          have hd : a'.defers = [] := by have := k2.df; rw [hdf] at this; exact this.nil_eq
          obtain ⟨v', r1, r2⟩ := results_run k2.hr k2.ar fn hl
          have key : a'.defers = [] ∧ ∃ uu, ({ c₀ with mode := um' } :: cs : List Frame) = { c₀ with mode := uu } :: cs ∧ ∃ v, (results fn a'.tmps).run P w' = .ok v w' ∧ ∃ E' v_1, Ending.returned v = .returned v_1 ∧ Onto P w0 E E' m s.m w' ∧ MdR E' u' uu :=
            ⟨hd, um', rfl, v', r1, E', v', rfl, ⟨k1, k2.hr, k3, k4⟩, k6⟩
          rcases hee with rfl | rfl
          · cases x with
            | normal => exact key
            | _ => exact k5.elim
          · cases x with
            | ret => exact key
            | _ => exact k5.elim
        split at he
        · rename_i s u1 hs
          split at he
          · rename_i l hdf hl
            simp only [Tr.ok.injEq, Prod.mk.injEq] at he
            obtain ⟨rfl, rfl⟩ := he
            exact fin _ s hs (.inl rfl) hdf ⟨l, hl⟩ rfl
          · cases he
        · rename_i s u1 hs
          split at he
          · rename_i l hdf hl
            simp only [Tr.ok.injEq, Prod.mk.injEq] at he
            obtain ⟨rfl, rfl⟩ := he
            exact fin _ s hs (.inr rfl) hdf ⟨l, hl⟩ rfl
          · cases he
        · cases he
        · cases he
      · cases he
    · cases he
  · cases he
theorem MdR.not_run {u : Md} {um : FrameMode} (h : MdR E u um) : um ≠ .run := by
  cases u with
  | none => cases h; simp
  | some p => obtain ⟨v, rfl, _⟩ := h; simp
/-- How a frame leaves, marks among its deferred calls. -/
def LeavesW (P : Program) (fn : Func) (tmps : Array Value) (R : Ending → World → Prop) : List Deferred → FrameMode → World → Prop
  | [], u, w => Leaves P fn tmps R [] u w
  | d :: ds, u, w => u ≠ .run ∧
      ((∃ r w', d.target = .collected r ∧ (Instr.takeDeferred r).run P w = .ok [] w' ∧ LeavesW P fn tmps R ds u w') ∨
       (∃ fv cap f args, d.target = .fn fv cap ∧ (invoke d.target d.args).run P w = .ok (.enter f args) w ∧
        CallsD P f args u w fun
          | .returned _, u', w' => LeavesW P fn tmps R ds (settle u') w'
          | .panicked chain, u', w' => LeavesW P fn tmps R ds (raised u' chain) w'
          | .outgrown, _, w' => R .outgrown w'))
theorem leaves_stepsW {fn : Func} {tmps : Array Value} {R : Ending → World → Prop} : ∀ (ds : List Deferred) (u : FrameMode) (w : World) (fr : Frame)
    (cs : List Frame), fr.mode = u → fr.defers = ds → fr.tmps = tmps → P.funcs[fr.fn]? = some fn → fr.kind = .normal → LeavesW P fn tmps R ds u w →
    ∃ e w' fr', R e w' ∧ Comes P (lone fr cs w) (lone fr' cs w') e ∧ fr'.fn = fr.fn ∧ fr'.leaving P w' e := by
  intro ds
  induction ds with
  | nil => exact fun u w fr cs hu hd ht hf hk h => leaves_steps [] u w fr cs hu hd ht hf hk h
  | cons d ds ih =>
    intro u w fr cs hu hd ht hf hk h
    obtain ⟨hrun, h⟩ := h
    rcases h with ⟨r, w', htar, htake, hrest⟩ | ⟨fv, cap, f, args, htar, hinv, hcall⟩
    · have h1 := step_collected (cs := cs) (hu ▸ hrun) hd htar htake
      obtain ⟨e', w'', fr', hR', hs', hfn', hl'⟩ := ih u w' { fr with defers := [] ++ ds } cs hu rfl ht hf hk hrest
      exact ⟨e', w'', fr', hR', Comes.of_steps (.one h1) hs', hfn', hl'⟩
    · have h1 := step_defer (cs := cs) (hu ▸ hrun) hd htar hinv
      obtain ⟨e, u', w', frX, hR, hsteps, hkX, hgo⟩ := hcall { fr with defers := ds } cs hu
      cases e with
      | returned v =>
        have h2 := step_going_returned (c := { { fr with defers := ds } with mode := u' }) (cs := cs) hkX hgo
        obtain ⟨e', w'', fr', hR', hs', hfn', hl'⟩ := ih (settle u') w' { { { fr with defers := ds } with mode := u' } with mode := settle u' } cs rfl rfl ht hf hk hR
        exact ⟨e', w'', fr', hR', Comes.of_steps (.head h1 (Steps.trans hsteps (.one h2))) hs', hfn', hl'⟩
      | panicked chain =>
        have h2 := step_going_panicked (c := { { fr with defers := ds } with mode := u' }) (cs := cs) hgo
        obtain ⟨e', w'', fr', hR', hs', hfn', hl'⟩ := ih (raised u' chain) w' { { { fr with defers := ds } with mode := u' } with mode := raised u' chain } cs rfl rfl ht hf hk hR
        exact ⟨e', w'', fr', hR', Comes.of_steps (.head h1 (Steps.trans hsteps (.one h2))) hs', hfn', hl'⟩
      | outgrown => exact ⟨.outgrown, w', fr, hR, Outgrown.of_steps (.one h1) hsteps, rfl, trivial⟩
theorem LeavesW.mono {fn : Func} {tmps : Array Value} {R R' : Ending → World → Prop} : ∀ {ds : List Deferred} {u : FrameMode} {w : World}, LeavesW P fn tmps R ds u w → (∀ e w, R e w → R' e w) → LeavesW P fn tmps R' ds u w := by
  intro ds
  induction ds with
  | nil =>
    intro u w h hr
    cases u with
    | run => exact h.elim
    | returning => obtain ⟨v, h1, h2⟩ := h; exact ⟨v, h1, hr _ _ h2⟩
    | panicking ch => exact hr _ _ h
  | cons d ds ih =>
    intro u w h hr
    obtain ⟨h0, h⟩ := h
    refine ⟨h0, ?_⟩
    rcases h with ⟨r, w', h1, h2, h3⟩ | ⟨fv, cap, f, args, h1, h2, h3⟩
    · exact .inl ⟨r, w', h1, h2, ih h3 hr⟩
    · refine .inr ⟨fv, cap, f, args, h1, h2, CallsD.mono h3 fun e u' w' hh => ?_⟩
      cases e with
      | returned v => exact ih hh hr
      | panicked ch => exact ih hh hr
      | outgrown => exact hr _ _ hh
def bodyPostW (P : Program) (fn : Func) (R : Ending → World → Prop) : Exit → Act → World → Prop
  | .normal, a, w | .ret, a, w => LeavesW P fn a.tmps R a.defers .returning w
  | .panic chain, a, w => LeavesW P fn a.tmps R a.defers (.panicking chain) w
  | .outgrown, _, w => R .outgrown w
  | _, _, _ => False
theorem calls_of_wp_W {f : FuncId} {fn : Func} {c : Code} {args : Array Value} {w : World} {R : Ending → World → Prop}
    (hf : P.funcs[f]? = some fn) (hb : fn.body = some c)
    (h : c.wp P (bodyPostW P fn R) { tmps := args ++ Array.replicate (fn.ntmps - args.size) undef, defers := [] } w) : Calls P f args w R := by
  intro cs
  let b : Frame := { (default : Frame) with fn := f, kind := .normal }
  have henter : Frame.enter P f args .normal =
      b.at { tmps := args ++ Array.replicate (fn.ntmps - args.size) undef, defers := [] } [.code c] := by
    simp [Frame.enter, Frame.at, hf, hb, b]
  obtain ⟨e, a', w', hq, harr⟩ := h b [] cs
  rw [← henter] at harr
  cases e with
  | normal =>
    obtain ⟨e', w'', fr', hR, hs, hfn, hl⟩ := leaves_stepsW a'.defers .returning w' { b.at a' [] with mode := .returning } cs rfl rfl rfl hf rfl hq
    exact ⟨e', w'', fr', hR, Comes.of_steps (Steps.trans harr (.one step_end)) hs, hfn, hl⟩
  | ret =>
    obtain ⟨todo, hs₀⟩ := harr
    obtain ⟨e', w'', fr', hR, hs, hfn, hl⟩ := leaves_stepsW a'.defers .returning w' { b.at a' todo with mode := .returning } cs rfl rfl rfl hf rfl hq
    exact ⟨e', w'', fr', hR, Comes.of_steps hs₀ hs, hfn, hl⟩
  | panic chain =>
    obtain ⟨todo, hs₀⟩ := harr
    obtain ⟨e', w'', fr', hR, hs, hfn, hl⟩ := leaves_stepsW a'.defers (.panicking chain) w' { b.at a' todo with mode := .panicking chain } cs rfl rfl rfl hf rfl hq
    exact ⟨e', w'', fr', hR, Comes.of_steps hs₀ hs, hfn, hl⟩
  | exit id => exact hq.elim
  | goto l => exact hq.elim
  | outgrown => exact ⟨.outgrown, w', b, hq, harr.resolve_left (by simp [b]), rfl, trivial⟩
theorem evLeave_run (hP : Plainly P) (hm : P.follows .mixedOrders = true) {call rnd : Call2} (hcall : CallOK P w0 call) (hrnd : RndOK P w0 rnd) {steps : Nat} {fn : Func} {tmps : Array Value} {R : Ending → World → Prop} : ∀ (ds : List Df) (u u' : Md) (m m' : Mem) (E : Env) (w : World) (dm : List Deferred) (um : FrameMode),
    evLeave (evDef call rnd P steps) ds u m = .ok (u', m') → DR P E ds dm → HR P w0 E m.H m.next w → m.lo ≤ m.next → MdR E u um →
    (∀ E' w' um', Onto P w0 E E' m m' w' → MdR E' u' um' → LeavesW P fn tmps R [] um' w') → LeavesW P fn tmps R dm um w := by
  intro ds
  induction ds with
  | nil =>
    intro u u' m m' E w dm um he hd h hlo hu hk
    simp only [evLeave, Tr.ok.injEq, Prod.mk.injEq] at he
    obtain ⟨rfl, rfl⟩ := he
    rw [hd.nil_eq]
    exact hk E w um ⟨E.le_refl, h, rfl, Nat.le_refl _⟩ hu
  | cons d ds ih =>
    intro u u' m m' E w dm um he hd h hlo hu hk
    cases d with
    | fn f l =>
      simp only [evLeave] at he
      split at he
      · rename_i u1 m1 hd1
        cases hd with
        | cons hone htail =>
          obtain ⟨cap, args, h1, h2, h3⟩ := hone
          refine ⟨hu.not_run, .inr ⟨_, cap, f, args, h1, h2 w, ?_⟩⟩
          refine CallsD.mono (evDef_run hP hm hcall hrnd hd1 h hlo h3 hu) fun e um1 w1 hh => ?_
          obtain ⟨E1, v, rfl, ⟨k1, k2, k3, k4⟩, k5⟩ := hh
          refine ih (settleE u1) u' m1 m' E1 w1 _ (settle um1) he (htail.mono k1) k2 (by omega) k5.settle fun E' w' um' ⟨q1, q2, q3, q4⟩ q5 => ?_
          exact hk E' w' um' ⟨Env.le_trans k1 q1, q2, q3.trans k3, Nat.le_trans k4 q4⟩ q5
      · cases he
    | mark D =>
      simp only [evLeave] at he
      split at he
      · rename_i hg
        split at he
        · rename_i hc
          simp only [Bool.and_eq_true, Nat.blt_eq, Nat.ble_eq] at hc
          cases hd with
          | cons hone htail =>
            obtain ⟨b, h1, h2⟩ := hone
            obtain ⟨b', r, q1, q2, rfl⟩ := h.obj h1 hg
            obtain rfl : b = b' := by rw [h1] at q1; injection q1
            have hdm := h.dom _ _ h1
            have hr2 : HR P w0 E (m.H.del D) m.next (w.putObj b (.deferred none)) := by
              refine (h.forget hc.1).keep (putObj_below (Below.refl _ _) (hdm.2 hc.2).1) fun i o b2 hi hb2 => World.putObj_heap_other fun e => ?_
              subst e
              rw [T.get_del _ _ hc.1] at hi
              split at hi
              · cases hi
              · rename_i hne
                exact hne (h.inj _ _ _ _ _ hi hg hb2 h1)
            refine ⟨hu.not_run, .inl ⟨b, w.putObj b (.deferred none), h2, run_takeDeferred q2, ?_⟩⟩
            exact ih u u' { m with H := m.H.del D } m' E _ _ um he htail hr2 hlo hu fun E' w' um' ⟨q1, q2, q3, q4⟩ q5 => hk E' w' um' ⟨q1, q2, q3, q4⟩ q5
        · cases he
      · cases he
theorem evEnd_run (hP : Plainly P) (hm : P.follows .mixedOrders = true) {call rnd : Call2} (hcall : CallOK P w0 call) (hrnd : RndOK P w0 rnd) {steps nt : Nat} {fn : Func} {f : Nat} {s : St} {u : Md} {out : Out} {m m' : Mem} {a : Act} {um : FrameMode} {E0 : Env}
    (he : evEnd call rnd P steps fn f s u = .ok (out, m')) (h : SR P w0 E nt s a w) (hu : MdR E u um) (hE : E0.le E) (h1 : s.m.lo = m.lo) (h2 : m.next ≤ s.m.next) :
    LeavesW P fn a.tmps (fun e w' => ∃ E', E0.le E' ∧ HR P w0 E' m'.H m'.next w' ∧ m'.lo = m.lo ∧ m.next ≤ m'.next ∧ OutR E' out e) a.defers um w := by
  unfold evEnd at he
  have go : ∀ u' m1, evLeave (evDef call rnd P steps) s.df u s.m = .ok (u', m1) → (∀ E' w' um', Onto P w0 E E' s.m m1 w' → MdR E' u' um' → LeavesW P fn a.tmps (fun e w' => ∃ E', E0.le E' ∧ HR P w0 E' m'.H m'.next w' ∧ m'.lo = m.lo ∧ m.next ≤ m'.next ∧ OutR E' out e) [] um' w') →
      LeavesW P fn a.tmps (fun e w' => ∃ E', E0.le E' ∧ HR P w0 E' m'.H m'.next w' ∧ m'.lo = m.lo ∧ m.next ≤ m'.next ∧ OutR E' out e) a.defers um w := fun u' m1 hl hk =>
    evLeave_run hP hm hcall hrnd s.df u u' s.m m1 E w a.defers um hl h.df h.hr h.lo hu hk
  have ret : ∀ m1 l, evLeave (evDef call rnd P steps) s.df u s.m = .ok (none, m1) → evResult P m1 s.tm fn.results.toList = some l → m' = m1 → out = .ret (oneOr l) →
      LeavesW P fn a.tmps (fun e w' => ∃ E', E0.le E' ∧ HR P w0 E' m'.H m'.next w' ∧ m'.lo = m.lo ∧ m.next ≤ m'.next ∧ OutR E' out e) a.defers um w := fun m1 l hl hr e1 e2 => by
    subst e1 e2
    refine go none m' hl fun E' w' um' ⟨k1, k2, k3, k4⟩ k5 => ?_
    cases k5
    obtain ⟨v', r1, r2⟩ := results_run k2 (h.ar.mono k1) fn hr
    exact ⟨v', r1, E', Env.le_trans hE k1, k2, k3.trans h1, Nat.le_trans h2 k4, r2⟩
  split at he
  · rename_i m1 hl
    split at he
    · rename_i v hr
      simp only [Tr.ok.injEq, Prod.mk.injEq] at he
      exact ret m1 [v] hl hr he.2.symm he.1.symm
    · rename_i vs hno hr
      simp only [Tr.ok.injEq, Prod.mk.injEq] at he
      refine ret m1 vs hl hr he.2.symm ?_
      rw [← he.1]
      congr 1
      match vs with
      | [] => rfl
      | [v] => exact absurd rfl (hno v)
      | _ :: _ :: _ => rfl
    · cases he
  · rename_i v m1 hl
    simp only [Tr.ok.injEq, Prod.mk.injEq] at he
    obtain ⟨rfl, rfl⟩ := he
    refine go (some (v, false)) m1 hl fun E' w' um' ⟨k1, k2, k3, k4⟩ k5 => ?_
    obtain ⟨v', rfl, k6⟩ := k5
    exact ⟨E', Env.le_trans hE k1, k2, k3.trans h1, Nat.le_trans h2 k4, v', rfl, k6⟩
  · cases he
  · cases he
/-- Summaries that are so. -/
def SumOK (P : Program) (w0 : World) (sm : Sums) : Prop :=
  ∀ (f : FuncId) (l : List Value) (m : Mem) (out : Out) (m' : Mem), sm f l m = some (out, m') →
    (∃ fn, P.funcs[f]? = some fn ∧ fn.body.isSome = true) ∧
    ∀ (E : Env) (w : World) (args : Array Value), HR P w0 E m.H m.next w → m.lo ≤ m.next → VRL E l args.toList →
      Calls P f args w fun e w' => ∃ E', E.le E' ∧ HR P w0 E' m'.H m'.next w' ∧ m'.lo = m.lo ∧ m.next ≤ m'.next ∧ OutR E' out e
/-- A round's values in the temporaries. -/
theorem zipPut_AR {nt : Nat} (hB : nt ≤ 1073741824) : ∀ (ps : List Nat) (l l' : List Value) (tm tm1 : T Value) (a : Act), zipPut nt ps l tm = some tm1 → VRL E l l' → AR E tm nt a → ps.length = l'.length ∧
    AR E tm1 nt { a with tmps := (ps.zip l').foldl (fun tmps x => tmps.setIfInBounds x.1 x.2) a.tmps } := by
  intro ps
  induction ps with
  | nil =>
    intro l l' tm tm1 a he hl ha
    cases hl with
    | nil => simp only [zipPut, Option.some.injEq] at he; subst he; exact ⟨rfl, ha⟩
    | cons _ _ => simp [zipPut] at he
  | cons t ts ih =>
    intro l l' tm tm1 a he hl ha
    cases hl with
    | nil => simp [zipPut] at he
    | cons hv hs =>
      simp only [zipPut] at he
      split at he
      · rename_i hc
        rw [Nat.blt_eq] at hc
        obtain ⟨h1, h2⟩ := ih _ _ _ _ _ he hs (ha.put hc (by omega) hv)
        exact ⟨by simp [h1], h2⟩
      · cases he
theorem endRnd_ok {L : Nat} {e : Ex2} {m m' : Mem} {out : Out} (he : endRnd L e m = .ok (out, m')) (hL : 64 ≤ L) (hL2 : L < 1073741824) {b : Nat} (h : HR P w0 E m.H m.next w) (hb : E.blk L = some b) {x : Exit} {a : Act} (hx : ExR E e x)
    {R : Ending → World → Prop} (hR : ∀ t w', HR P w0 E m'.H m'.next w' → m'.lo = m.lo → m'.next = m.next → out = .ret (.bool t) → R (.returned (.bool t)) w') : roundPost P b R x a w := by
  unfold endRnd at he
  split at he
  · rename_i tm nt ps asg body dfr st pend hg
    obtain ⟨b', r, q1, q2, fn2, tmps2, bd2, q3, q4, q5, rfl⟩ := h.obj hb hg
    obtain rfl : b = b' := by rw [hb] at q1; injection q1
    have hd := h.dom _ _ hb
    have fin : ∀ (st' : LoopState) (pend' : Option Code), HR P w0 E (m.H.set L (.loop tm nt ps asg body dfr st' pend')) m.next
        (w.putObj b (.loop { state := st', pending := pend', fn := fn2, tmps := tmps2, params := ps.toArray, assign := asg, body := body, defers := bd2 })) := fun st' pend' =>
      h.turn hL2 hg hb ⟨fn2, tmps2, bd2, q3, q4, q5, rfl⟩ (putObj_below (Below.refl _ _) (hd.2 hL).1) (World.putObj_heap_same (hd.2 hL).2) (fun k hk => World.putObj_heap_other hk)
    split at he
    · simp only [Tr.ok.injEq, Prod.mk.injEq] at he
      obtain ⟨rfl, rfl⟩ := he
      cases x with
      | normal => exact ⟨_, _, run_endRound none q2, hR true _ (fin .ready none) rfl rfl rfl⟩
      | _ => exact hx.elim
    · simp only [Tr.ok.injEq, Prod.mk.injEq] at he
      obtain ⟨rfl, rfl⟩ := he
      cases x with
      | ret => exact ⟨_, _, run_endRound (some .ret) q2, hR false _ (fin .done (some .ret)) rfl rfl rfl⟩
      | _ => exact hx.elim
    · rename_i id
      simp only [Tr.ok.injEq, Prod.mk.injEq] at he
      obtain ⟨rfl, rfl⟩ := he
      cases x with
      | exit j => cases hx; exact ⟨_, _, run_endRound (some (.exit id)) q2, hR false _ (fin .done (some (.exit id))) rfl rfl rfl⟩
      | _ => exact hx.elim
    · cases he
  · cases he
theorem evRound_ok (hP : Plainly P) (hm : P.follows .mixedOrders = true) {call rnd : Call2} (hcall : CallOK P w0 call) (hrnd : RndOK P w0 rnd) (steps : Nat) : RndOK P w0 (evRound call rnd P steps) := by
  intro L l m out m' he E w args b h hlo hargs hbL
  unfold evRound at he
  split at he
  · rename_i tm nt ps asg body dfr pend hg
    split at he
    · rename_i hc
      simp only [Bool.and_eq_true, Nat.blt_eq, Nat.ble_eq] at hc
      obtain ⟨⟨hnt, hL2⟩, hL⟩ := hc
      obtain ⟨b', r, q1, q2, fn2, tmps2, bd2, q3, q4, q5, rfl⟩ := h.obj hbL hg
      obtain rfl : b = b' := by rw [hbL] at q1; injection q1
      split at he
      · rename_i tm1 hz
        obtain ⟨hlen, har⟩ := zipPut_AR hnt ps l args.toList tm tm1 { tmps := tmps2, defers := [] } hz hargs ⟨h.glob, q4, q5⟩
        have hzip : (ps.toArray.zip args).foldl (fun tmps (t, a) => tmps.setIfInBounds t a) tmps2 = (ps.zip args.toList).foldl (fun tmps x => tmps.setIfInBounds x.1 x.2) tmps2 := by
          have : ps.toArray.zip args = (ps.zip args.toList).toArray := by apply Array.ext'; simp
          rw [this, List.foldl_toArray']
          · simp
        refine ⟨fn2, _, asg, body, run_yield q2 (by simpa using hlen.symm), roundIn_of_wpIn trivial ?_⟩
        simp only
        rw [hzip]
        split at he
        · rename_i s1 hs1
          refine evCode2_wp hP hm hcall hrnd (rd := true) (ro := some b) (fun h => by cases h) hnt steps asg E ⟨tm1, [], m⟩ s1 .normal _ w _ ⟨h, hlo, har, .nil⟩ hs1 fun E1 x a1 w1 k1 k2 k3 k4 k5 => ?_
          cases x with
          | normal =>
            split at he
            · rename_i tm2 nt2 ps2 asg2 body2 dfr2 pend2 hg2
              have hb1 := (k1.to _ _ hbL).1
              obtain ⟨b', r, p1, p2, fn3, tmps3, bd3, p3, p4, p5, rfl⟩ := k2.hr.obj hb1 hg2
              obtain rfl : b = b' := by rw [hb1] at p1; injection p1
              have hd := k2.hr.dom _ _ hb1
              have hr1 : HR P w0 E1 (s1.m.H.set L (.loop tm2 nt2 ps2 asg2 body2 dfr2 .busy pend2)) s1.m.next
                  (w1.putObj b (.loop { state := .busy, pending := pend2, fn := fn3, tmps := tmps3, params := ps2.toArray, assign := asg2, body := body2, defers := bd3 })) :=
                k2.hr.turn hL2 hg2 hb1 ⟨fn3, tmps3, bd3, p3, p4, p5, rfl⟩ (putObj_below (Below.refl _ _) (hd.2 hL).1) (World.putObj_heap_same (hd.2 hL).2) (fun k hk => World.putObj_heap_other hk)
              refine ⟨_, run_beginRound p2 rfl, ?_⟩
              split at he
              · rename_i e2 s2 hs2
                refine evCode2_wp hP hm hcall hrnd (rd := true) (ro := some b) (fun h => by cases h) hnt steps body E1 ⟨s1.tm, s1.df, { s1.m with H := s1.m.H.set L (.loop tm2 nt2 ps2 asg2 body2 dfr2 .busy pend2) }⟩ s2 e2 a1 _ _ ⟨hr1, k2.lo, k2.ar, k2.df⟩ hs2 fun E2 x2 a2 w2 j1 j2 j3 j4 j5 => ?_
                refine endRnd_ok he hL hL2 j2.hr (j1.to _ _ hb1).1 j5 fun t w' i1 i2 i3 i4 => ?_
                refine ⟨E2, Env.le_trans k1 j1, i1, i2.trans (j3.trans k3), ?_, by rw [i4]; exact .bool t⟩
                rw [i3]
                exact Nat.le_trans k4 j4
              · cases he
            · cases he
          | _ => exact k5.elim
        · cases he
        · cases he
      · cases he
    · cases he
  · cases he
theorem evCall3_ok (hP : Plainly P) (hm : P.follows .mixedOrders = true) {sm : Sums} (hsm : SumOK P w0 sm) (steps : Nat) : ∀ n, CallOK P w0 (evCall3 sm P steps n false) ∧ RndOK P w0 (evCall3 sm P steps n true) := by
  intro n
  induction n with
  | zero => exact ⟨fun f l m out m' he => by simp [evCall3] at he, fun f l m out m' he => by simp [evCall3] at he⟩
  | succ n ih =>
    obtain ⟨ih, ihr⟩ := ih
    refine ⟨?_, ?_⟩
    · intro f l m out m' he
      simp only [evCall3] at he
      split at he
      · rename_i r hs
        simp only [Tr.ok.injEq] at he
        subst he
        exact hsm f l m out m' hs
      · split at he
        · rename_i fn hf
          split at he
          · rename_i c hb
            split at he
            · rename_i hc
              simp only [Bool.and_eq_true, Nat.ble_eq] at hc
              refine ⟨⟨fn, hf, by rw [hb]; rfl⟩, fun E w args h hlo hargs => ?_⟩
              refine calls_of_wp_W hf hb ((wpIn_WF (n := 0)).1 ?_)
              have hsr : SR P w0 E fn.ntmps ⟨T.leaf.fill 0 l, [], m⟩ { tmps := args ++ Array.replicate (fn.ntmps - args.size) Go.undef, defers := [] } w := by
                refine ⟨h, hlo, ?_, .nil⟩
                have := AR.enter E h.glob hargs fn.ntmps (by omega) hc.2
                simpa using this
              split at he
              · rename_i s hs
                refine evCode2_wp hP hm ih ihr (rd := false) (ro := none) (fun _ => rfl) hc.1 steps c E _ s .normal _ w _ hsr hs fun E' x a' w' k1 k2 k3 k4 k5 => ?_
                cases x with
                | normal => exact evEnd_run hP hm ih ihr he k2 (um := .returning) rfl k1 k3 k4
                | _ => exact k5.elim
              · rename_i s hs
                refine evCode2_wp hP hm ih ihr (rd := false) (ro := none) (fun _ => rfl) hc.1 steps c E _ s .ret _ w _ hsr hs fun E' x a' w' k1 k2 k3 k4 k5 => ?_
                cases x with
                | ret => exact evEnd_run hP hm ih ihr he k2 (um := .returning) rfl k1 k3 k4
                | _ => exact k5.elim
              · rename_i v s hs
                refine evCode2_wp hP hm ih ihr (rd := false) (ro := none) (fun _ => rfl) hc.1 steps c E _ s (.pan v) _ w _ hsr hs fun E' x a' w' k1 k2 k3 k4 k5 => ?_
                cases x with
                | panic ch =>
                  obtain ⟨v', rfl, k6⟩ := k5
                  exact evEnd_run hP hm ih ihr he k2 (um := .panicking [{ v := v', recovered := false }]) ⟨v', rfl, k6⟩ k1 k3 k4
                | _ => exact k5.elim
              · cases he
              · cases he
            · cases he
          · cases he
        · cases he
    · intro L l m out m' he
      simp only [evCall3] at he
      exact evRound_ok hP hm ih ihr steps L l m out m' he
theorem evCall2_ok (hP : Plainly P) (hm : P.follows .mixedOrders = true) {sm : Sums} (hsm : SumOK P w0 sm) (steps n : Nat) : CallOK P w0 (evCall2 sm P steps n) := (evCall3_ok hP hm hsm steps n).1
/-- A function without arguments that our machine answers with true. -/
theorem ev_true (hP : Plainly P) (hm : P.follows .mixedOrders = true) {sm : Sums} (w : World) (hsm : SumOK P w sm) (steps n : Nat) (f : FuncId) {m' : Mem} (he : evCall2 sm P steps n f [] ⟨.leaf, 64, 0⟩ = .ok (.ret (.bool true), m')) :
    Calls P f #[] w fun e w' => e = .returned (.bool true) ∧ Below w.heap.size w w' := by
  obtain ⟨_, h⟩ := evCall2_ok hP hm hsm steps n f [] ⟨.leaf, 64, 0⟩ _ _ he
  refine Calls.mono (h _ w #[] (HR.start w) (Nat.zero_le _) .nil) fun e w' ⟨E', _, k2, _, _, k5⟩ => ?_
  cases e with
  | returned v => cases k5; exact ⟨rfl, k2.below⟩
  | _ => exact k5.elim
/-- No summaries. -/
theorem no_sums : SumOK P w0 fun _ _ _ => none := fun _ _ _ _ _ h => by cases h
end Go.Proofs.YtkecgbcfkbafpaaDoor.Ev
