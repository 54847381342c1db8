/-
  Calls: what our machine answers is so.
-/
import Derived.Test.YtokbkninlbkhjaaGreatDoorEvZB
namespace Go.Proofs.YtokbkninlbkhjaaGreatDoor.Ev
open Go.RowKit
set_option linter.unusedSimpArgs false

variable {P : Program} {w0 w : World} {E : Env} {m : Mem}

/-- A memory that comes of another. -/
def Onto (P : Program) (w0 : World) (E E' : Env) (m m' : Mem) (w' : World) : Prop := E.le E' ∧ HR P w0 E' m'.H m'.next w' ∧ m'.lo = m.lo ∧ m.next ≤ m'.next
theorem DR.nil_eq {ds : List Deferred} (h : DR P E [] ds) : ds = [] := by cases h; rfl
theorem evDef_run (hP : Plainly P) (hm : P.follows .mixedOrders = true) {call : Call2} (hcall : CallOK P w0 call) {steps : Nat} {d : Df} {u u' : Md} {m m' : Mem} (he : evDef call P steps d u m = .ok (u', m')) {args : Array Value} {um : FrameMode}
    (h : HR P w0 E m.H m.next w) (hlo : m.lo ≤ m.next) (hargs : VRL E d.2 args.toList) (hu : MdR E u um) :
    CallsD P d.1 args um w fun e um' w' => ∃ E' v, e = .returned v ∧ Onto P w0 E E' m m' w' ∧ MdR E' u' um' := by
  unfold evDef at he
  split at he
  · rename_i fn hf
    split at he
    · rename_i c hb
      split at he
      · rename_i hc
        simp only [Bool.and_eq_true, Nat.ble_eq] at hc
        refine callsD_of_wpS hf hb fun c₀ cs hmode => ?_
        subst hmode
        have hsr : SR P w0 E fn.ntmps ⟨T.leaf.fill 0 d.2, [], m⟩ { tmps := args ++ Array.replicate (fn.ntmps - args.size) Go.undef, defers := [] } w := by
          refine ⟨h, hlo, ?_, .nil⟩
          have := AR.enter E h.glob hargs fn.ntmps (by omega) hc.2
          simpa using this
        have fin : ∀ e s, evCodeS2 call P fn.ntmps steps c ⟨T.leaf.fill 0 d.2, [], m⟩ u = .ok (e, s, u') → (e = .normal ∨ e = .ret) → s.df = [] → (∃ l, evResult P s.m s.tm fn.results.toList = some l) → m' = s.m →
            c.wpS P (bodyPostS P fn c₀ cs fun e um' w' => ∃ E' v, e = .returned v ∧ Onto P w0 E E' m m' w' ∧ MdR E' u' um') { tmps := args ++ Array.replicate (fn.ntmps - args.size) Go.undef, defers := [] } (c₀ :: cs) w := by
          intro e s hs hee hdf ⟨l, hl⟩ hm'
          clear he
          subst hm'
          refine evCodeS2_wp hP hm hcall hc.1 c₀ cs steps c E _ s u u' c₀.mode e _ w _ hsr hu hs fun E' x a' w' um' k1 k2 k3 k4 k5 k6 => ?_
          have hd : a'.defers = [] := by have := k2.df; rw [hdf] at this; exact this.nil_eq
          obtain ⟨v', r1, r2⟩ := results_run k2.hr k2.ar fn hl
          have key : a'.defers = [] ∧ ∃ uu, ({ c₀ with mode := um' } :: cs : List Frame) = { c₀ with mode := uu } :: cs ∧ ∃ v, (results fn a'.tmps).run P w' = .ok v w' ∧ ∃ E' v_1, Ending.returned v = .returned v_1 ∧ Onto P w0 E E' m s.m w' ∧ MdR E' u' uu :=
            ⟨hd, um', rfl, v', r1, E', v', rfl, ⟨k1, k2.hr, k3, k4⟩, k6⟩
          rcases hee with rfl | rfl
          · cases x with
            | normal => exact key
            | _ => exact k5.elim
          · cases x with
            | ret => exact key
            | _ => exact k5.elim
        split at he
        · rename_i s u1 hs
          split at he
          · rename_i l hdf hl
            simp only [Tr.ok.injEq, Prod.mk.injEq] at he
            obtain ⟨rfl, rfl⟩ := he
            exact fin _ s hs (.inl rfl) hdf ⟨l, hl⟩ rfl
          · cases he
        · rename_i s u1 hs
          split at he
          · rename_i l hdf hl
            simp only [Tr.ok.injEq, Prod.mk.injEq] at he
            obtain ⟨rfl, rfl⟩ := he
            exact fin _ s hs (.inr rfl) hdf ⟨l, hl⟩ rfl
          · cases he
        · cases he
        · cases he
      · cases he
    · cases he
  · cases he
theorem MdR.not_run {u : Md} {um : FrameMode} (h : MdR E u um) : um ≠ .run := by
  cases u with
  | none => cases h; simp
  | some p => obtain ⟨v, rfl, _⟩ := h; simp
theorem evLeave_run (hP : Plainly P) (hm : P.follows .mixedOrders = true) {call : Call2} (hcall : CallOK P w0 call) {steps : Nat} {fn : Func} {tmps : Array Value} {R : Ending → World → Prop} : ∀ (ds : List Df) (u u' : Md) (m m' : Mem) (E : Env) (w : World) (dm : List Deferred) (um : FrameMode),
    evLeave (evDef call P steps) ds u m = .ok (u', m') → DR P E ds dm → HR P w0 E m.H m.next w → m.lo ≤ m.next → MdR E u um →
    (∀ E' w' um', Onto P w0 E E' m m' w' → MdR E' u' um' → Leaves P fn tmps R [] um' w') → Leaves P fn tmps R dm um w := by
  intro ds
  induction ds with
  | nil =>
    intro u u' m m' E w dm um he hd h hlo hu hk
    simp only [evLeave, Tr.ok.injEq, Prod.mk.injEq] at he
    obtain ⟨rfl, rfl⟩ := he
    rw [hd.nil_eq]
    exact hk E w um ⟨E.le_refl, h, rfl, Nat.le_refl _⟩ hu
  | cons d ds ih =>
    intro u u' m m' E w dm um he hd h hlo hu hk
    simp only [evLeave] at he
    split at he
    · rename_i u1 m1 hd1
      cases hd with
      | cons hone htail =>
        obtain ⟨cap, args, h1, h2, h3⟩ := hone
        refine ⟨hu.not_run, _, cap, d.1, args, h1, h2 w, ?_⟩
        refine CallsD.mono (evDef_run hP hm hcall hd1 h hlo h3 hu) fun e um1 w1 hh => ?_
        obtain ⟨E1, v, rfl, ⟨k1, k2, k3, k4⟩, k5⟩ := hh
        refine ih (settleE u1) u' m1 m' E1 w1 _ (settle um1) he (htail.mono k1) k2 (by omega) k5.settle fun E' w' um' ⟨q1, q2, q3, q4⟩ q5 => ?_
        exact hk E' w' um' ⟨Env.le_trans k1 q1, q2, q3.trans k3, Nat.le_trans k4 q4⟩ q5
    · cases he
theorem evEnd_run (hP : Plainly P) (hm : P.follows .mixedOrders = true) {call : Call2} (hcall : CallOK P w0 call) {steps nt : Nat} {fn : Func} {f : Nat} {s : St} {u : Md} {out : Out} {m m' : Mem} {a : Act} {um : FrameMode} {E0 : Env}
    (he : evEnd call P steps fn f s u = .ok (out, m')) (h : SR P w0 E nt s a w) (hu : MdR E u um) (hE : E0.le E) (h1 : s.m.lo = m.lo) (h2 : m.next ≤ s.m.next) :
    Leaves P fn a.tmps (fun e w' => ∃ E', E0.le E' ∧ HR P w0 E' m'.H m'.next w' ∧ m'.lo = m.lo ∧ m.next ≤ m'.next ∧ OutR E' out e) a.defers um w := by
  unfold evEnd at he
  have go : ∀ u' m1, evLeave (evDef call P steps) s.df u s.m = .ok (u', m1) → (∀ E' w' um', Onto P w0 E E' s.m m1 w' → MdR E' u' um' → Leaves P fn a.tmps (fun e w' => ∃ E', E0.le E' ∧ HR P w0 E' m'.H m'.next w' ∧ m'.lo = m.lo ∧ m.next ≤ m'.next ∧ OutR E' out e) [] um' w') →
      Leaves P fn a.tmps (fun e w' => ∃ E', E0.le E' ∧ HR P w0 E' m'.H m'.next w' ∧ m'.lo = m.lo ∧ m.next ≤ m'.next ∧ OutR E' out e) a.defers um w := fun u' m1 hl hk =>
    evLeave_run hP hm hcall s.df u u' s.m m1 E w a.defers um hl h.df h.hr h.lo hu hk
  have ret : ∀ m1 l, evLeave (evDef call P steps) s.df u s.m = .ok (none, m1) → evResult P m1 s.tm fn.results.toList = some l → m' = m1 → out = .ret (oneOr l) →
      Leaves P fn a.tmps (fun e w' => ∃ E', E0.le E' ∧ HR P w0 E' m'.H m'.next w' ∧ m'.lo = m.lo ∧ m.next ≤ m'.next ∧ OutR E' out e) a.defers um w := fun m1 l hl hr e1 e2 => by
    subst e1 e2
    refine go none m' hl fun E' w' um' ⟨k1, k2, k3, k4⟩ k5 => ?_
    cases k5
    obtain ⟨v', r1, r2⟩ := results_run k2 (h.ar.mono k1) fn hr
    exact ⟨v', r1, E', Env.le_trans hE k1, k2, k3.trans h1, Nat.le_trans h2 k4, r2⟩
  split at he
  · rename_i m1 hl
    split at he
    · rename_i v hr
      simp only [Tr.ok.injEq, Prod.mk.injEq] at he
      exact ret m1 [v] hl hr he.2.symm he.1.symm
    · rename_i vs hno hr
      simp only [Tr.ok.injEq, Prod.mk.injEq] at he
      refine ret m1 vs hl hr he.2.symm ?_
      rw [← he.1]
      congr 1
      match vs with
      | [] => rfl
      | [v] => exact absurd rfl (hno v)
      | _ :: _ :: _ => rfl
    · cases he
  · rename_i v m1 hl
    simp only [Tr.ok.injEq, Prod.mk.injEq] at he
    obtain ⟨rfl, rfl⟩ := he
    refine go (some (v, false)) m1 hl fun E' w' um' ⟨k1, k2, k3, k4⟩ k5 => ?_
    obtain ⟨v', rfl, k6⟩ := k5
    exact ⟨E', Env.le_trans hE k1, k2, k3.trans h1, Nat.le_trans h2 k4, v', rfl, k6⟩
  · cases he
  · cases he
/-- Summaries that are so. -/
def SumOK (P : Program) (w0 : World) (sm : Sums) : Prop :=
  ∀ (f : FuncId) (l : List Value) (m : Mem) (out : Out) (m' : Mem), sm f l m = some (out, m') →
    (∃ fn, P.funcs[f]? = some fn ∧ fn.body.isSome = true) ∧
    ∀ (E : Env) (w : World) (args : Array Value), HR P w0 E m.H m.next w → m.lo ≤ m.next → VRL E l args.toList →
      Calls P f args w fun e w' => ∃ E', E.le E' ∧ HR P w0 E' m'.H m'.next w' ∧ m'.lo = m.lo ∧ m.next ≤ m'.next ∧ OutR E' out e
theorem evCall2_ok (hP : Plainly P) (hm : P.follows .mixedOrders = true) {sm : Sums} (hsm : SumOK P w0 sm) (steps : Nat) : ∀ n, CallOK P w0 (evCall2 sm P steps n) := by
  intro n
  induction n with
  | zero => intro f l m out m' he; simp [evCall2] at he
  | succ n ih =>
    intro f l m out m' he
    simp only [evCall2] at he
    split at he
    · rename_i r hs
      simp only [Tr.ok.injEq] at he
      subst he
      exact hsm f l m out m' hs
    · split at he
      · rename_i fn hf
        split at he
        · rename_i c hb
          split at he
          · rename_i hc
            simp only [Bool.and_eq_true, Nat.ble_eq] at hc
            refine ⟨⟨fn, hf, by rw [hb]; rfl⟩, fun E w args h hlo hargs => ?_⟩
            refine calls_of_wp_defers hf hb ?_
            have hsr : SR P w0 E fn.ntmps ⟨T.leaf.fill 0 l, [], m⟩ { tmps := args ++ Array.replicate (fn.ntmps - args.size) Go.undef, defers := [] } w := by
              refine ⟨h, hlo, ?_, .nil⟩
              have := AR.enter E h.glob hargs fn.ntmps (by omega) hc.2
              simpa using this
            split at he
            · rename_i s hs
              refine (evCode2_wp hP hm ih hc.1 steps c E _ s .normal _ w _ hsr hs fun E' x a' w' k1 k2 k3 k4 k5 => ?_).1
              cases x with
              | normal => exact evEnd_run hP hm ih he k2 (um := .returning) rfl k1 k3 k4
              | _ => exact k5.elim
            · rename_i s hs
              refine (evCode2_wp hP hm ih hc.1 steps c E _ s .ret _ w _ hsr hs fun E' x a' w' k1 k2 k3 k4 k5 => ?_).1
              cases x with
              | ret => exact evEnd_run hP hm ih he k2 (um := .returning) rfl k1 k3 k4
              | _ => exact k5.elim
            · rename_i v s hs
              refine (evCode2_wp hP hm ih hc.1 steps c E _ s (.pan v) _ w _ hsr hs fun E' x a' w' k1 k2 k3 k4 k5 => ?_).1
              cases x with
              | panic ch =>
                obtain ⟨v', rfl, k6⟩ := k5
                exact evEnd_run hP hm ih he k2 (um := .panicking [{ v := v', recovered := false }]) ⟨v', rfl, k6⟩ k1 k3 k4
              | _ => exact k5.elim
            · cases he
            · cases he
          · cases he
        · cases he
      · cases he
/-- A function without arguments that our machine answers with true. -/
theorem ev_true (hP : Plainly P) (hm : P.follows .mixedOrders = true) {sm : Sums} (w : World) (hsm : SumOK P w sm) (steps n : Nat) (f : FuncId) {m' : Mem} (he : evCall2 sm P steps n f [] ⟨.leaf, 64, 0⟩ = .ok (.ret (.bool true), m')) :
    Calls P f #[] w fun e w' => e = .returned (.bool true) ∧ Below w.heap.size w w' := by
  obtain ⟨_, h⟩ := evCall2_ok hP hm hsm steps n f [] ⟨.leaf, 64, 0⟩ _ _ he
  refine Calls.mono (h _ w #[] (HR.start w) (Nat.zero_le _) .nil) fun e w' ⟨E', _, k2, _, _, k5⟩ => ?_
  cases e with
  | returned v => cases k5; exact ⟨rfl, k2.below⟩
  | _ => exact k5.elim
/-- No summaries. -/
theorem no_sums : SumOK P w0 fun _ _ _ => none := fun _ _ _ _ _ h => by cases h
end Go.Proofs.YtokbkninlbkhjaaGreatDoor.Ev
