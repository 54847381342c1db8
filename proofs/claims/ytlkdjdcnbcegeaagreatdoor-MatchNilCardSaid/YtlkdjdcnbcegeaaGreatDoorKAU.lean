/-
  Code that walks over a map of several entries: whichever comes next.
-/
import Derived.Test.YtlkdjdcnbcegeaaGreatDoorKAM
/-! Code that walks over a map of several entries: whichever comes next. -/
namespace Go.Proofs.YtlkdjdcnbcegeaaGreatDoor.Ev
open Go.RowKit
set_option linter.unusedSimpArgs false

variable {P : Program} {w0 w : World} {E : Env} {m : Mem} {ops : Array Oper}

/-- All that may come of all that may have come. -/
def bindT {α β : Type} : List α → (α → Tr (List β)) → Tr (List β)
  | [], _ => .ok []
  | x :: r, f => match f x with
    | .ok l => match bindT r f with
      | .ok l' => .ok (l ++ l')
      | .bad l => .bad l
    | .bad l => .bad l
theorem bindT_mem {α β : Type} {f : α → Tr (List β)} : ∀ (l : List α) (L : List β), bindT l f = .ok L → ∀ x ∈ l, ∃ l', f x = .ok l' ∧ ∀ y ∈ l', y ∈ L := by
  intro l
  induction l with
  | nil => intro L _ x hx; cases hx
  | cons a r ih =>
    intro L h x hx
    simp only [bindT] at h
    split at h
    · rename_i l1 h1
      split at h
      · rename_i l2 h2
        injection h with h
        subst h
        rcases List.mem_cons.1 hx with rfl | hx
        · exact ⟨l1, h1, fun y hy => List.mem_append_left _ hy⟩
        · obtain ⟨l', k1, k2⟩ := ih l2 h2 x hx
          exact ⟨l', k1, fun y hy => List.mem_append_right _ (k2 y hy)⟩
      · cases h
    · cases h
def nextOf (m : Mem) (tm : T Value) (o : Oper) : Option (List (Value × Mem)) :=
  match o.op with
  | .next it false => match ev tm it with
    | some v => exNextN m v
    | none => none
  | _ => none
def evOpsN (call rnd : Call2) (P : Program) (nt : Nat) (ops : Array Oper) : List Oper → St → Tr (List (Option Value × St))
  | [], s => .ok [(none, s)]
  | o :: r, s =>
    if !dstOk nt o then .bad [3004]
    else if Region.wanted o (yieldedE ops s.tm) then
      match nextOf s.m s.tm o with
      | some L => bindT L fun x => evOpsN call rnd P nt ops r ⟨putE s.tm o.dst x.1, s.df, x.2⟩
      | none => match exStep3 call rnd P s.m s.tm o with
        | .ok (.val v m') => evOpsN call rnd P nt ops r ⟨putE s.tm o.dst v, s.df, m'⟩
        | .ok (.pan v m') => .ok [(some v, ⟨s.tm, s.df, m'⟩)]
        | .ok (.later d) => evOpsN call rnd P nt ops r ⟨putE s.tm o.dst Go.undef, d :: s.df, s.m⟩
        | .bad l => .bad (r.length :: l)
    else evOpsN call rnd P nt ops r ⟨putE s.tm o.dst Go.undef, s.df, s.m⟩
/-- At most so many rounds of a loop. -/
def evLoopN (f : St → Tr (List (Ex2 × St))) : Nat → St → Tr (List (Ex2 × St))
  | 0, _ => .bad [8]
  | k + 1, s => match f s with
    | .ok L => bindT L fun x => match x.1 with
      | .normal => evLoopN f k x.2
      | e => .ok [(e, x.2)]
    | .bad l => .bad l
def ofOps : Option Value × St → Ex2 × St
  | (none, s) => (.normal, s)
  | (some v, s) => (.pan v, s)
def unBlock (id : Nat) : Ex2 × St → Ex2 × St
  | (.exit i, s) => if i = id then (.normal, s) else (.exit i, s)
  | x => x
def evCodeN (call rnd : Call2) (P : Program) (nt : Nat) : Nat → Code → St → Tr (List (Ex2 × St))
  | 0, _, _ => .bad [1]
  | _ + 1, .region id ops false, s => match evOpsN call rnd P nt ops ops.toList s with
    | .ok L => .ok (L.map ofOps)
    | .bad l => .bad (id :: l)
  | n + 1, .seq a b, s => match evCodeN call rnd P nt n a s with
    | .ok L => bindT L fun x => match x.1 with
      | .normal => evCodeN call rnd P nt n b x.2
      | e => .ok [(e, x.2)]
    | .bad l => .bad l
  | n + 1, .cond c a b, s => match ev s.tm c with
    | some (.bool true) => evCodeN call rnd P nt n a s
    | some (.bool false) => evCodeN call rnd P nt n b s
    | _ => .bad [3]
  | n + 1, .block id b, s => match evCodeN call rnd P nt n b s with
    | .ok L => .ok (L.map (unBlock id))
    | .bad l => .bad l
  | n + 1, .loop b, s => evLoopN (fun s => evCodeN call rnd P nt n b s) 24 s
  | n + 1, .scope b, s => evCodeN call rnd P nt n b s
  | n + 1, c, s => match evCode2 false call rnd P nt n c s with
    | .ok r => .ok [r]
    | .bad l => .bad l
theorem next_wp (h : HR P w0 E m.H m.next w) {tm : T Value} {nt : Nat} {a : Act} (ha : AR E tm nt a) {o : Oper} {L : List (Value × Mem)} (he : nextOf m tm o = some L) {next : Act → World → Prop} {Q : Exit → Act → World → Prop}
    (hn : ∀ r ∈ L, ∀ E' v' w', E.le E' → HR P w0 E' r.2.H r.2.next w' → VR E' r.1 v' → r.2.lo = m.lo → m.next ≤ r.2.next → next (a.put o.dst v') w') : o.wpIn (WF none) 0 P a w next Q := by
  unfold nextOf at he
  split at he
  · rename_i it ho
    split at he
    · rename_i v hv
      obtain ⟨r, hr, E', v', w', k1, k2, k3, k4, _, k6, k7⟩ := exNextN_run h (ev_VR ha hv) he o.type
      refine op_wpIn (.inl rfl) ?_
      unfold Oper.wp execOp
      rw [ho]
      simp only [Sem.run_bind, k1, Result.andThen, Sem.run_pure]
      exact hn r hr E' v' w' k2 k3 k4 k6 k7
    · cases he
  · cases he
theorem evOpsN_wp (hP : Plainly P) {call rnd : Call2} (hcall : CallOK P w0 call) (hrnd : RndOK P w0 rnd) {nt : Nat} (hB : nt ≤ 1073741824) : ∀ (l : List Oper) (E : Env) (s : St) (L : List (Option Value × St)) (a : Act) (w : World) (Q : Exit → Act → World → Prop),
    SR P w0 E nt s a w → evOpsN call rnd P nt ops l s = .ok L → (∀ x ∈ L, Ends P w0 E nt s (opsEx x.1) x.2 Q) → wpListIn (WF none) 0 P ops Q l a w := by
  intro l
  induction l with
  | nil =>
    intro E s L a w Q h he hQ
    simp only [evOpsN, Tr.ok.injEq] at he
    subst he
    exact hQ (none, s) (List.mem_singleton.2 rfl) E .normal a w E.le_refl h rfl (Nat.le_refl _) trivial
  | cons o l ih =>
    intro E s L a w Q h he hQ
    simp only [evOpsN] at he
    split at he
    · cases he
    · rename_i hd
      have hd := dstOk_lt (by simpa using hd)
      have hw := wantedE h.ar ops o
      unfold wpListIn
      split at he
      · rename_i hwt
        rw [hw, hwt, if_pos rfl]
        split at he
        · rename_i L1 hL1
          refine next_wp h.hr h.ar hL1 fun r hr E' v' w' k1 k2 k3 k4 k5 => ?_
          obtain ⟨l', q1, q2⟩ := bindT_mem _ _ he r hr
          refine ih E' _ l' _ w' Q ⟨k2, by have := h.lo; simp only; omega, (h.ar.mono k1).putE hd hB k3, by rw [put_defers]; exact h.df.mono k1⟩ q1 fun x hx => ?_
          exact (hQ x (q2 x hx)).of k1 k4 k5
        · split at he
          · rename_i v m' hs
            refine exStep3_wp hP hcall hrnd h.hr h.lo h.ar hs (.inl rfl) fun E' v' w' k1 k2 k3 k4 k5 => ?_
            exact ih E' _ L _ w' Q ⟨k2, by have := h.lo; simp only; omega, (h.ar.mono k1).putE hd hB k3, by rw [put_defers]; exact h.df.mono k1⟩ he fun x hx => (hQ x hx).of k1 k4 k5
          · rename_i v m' hs
            simp only [Tr.ok.injEq] at he
            subst he
            refine exStep3_wp hP hcall hrnd h.hr h.lo h.ar hs (.inl rfl) fun E' v' w' k1 k2 k3 k4 k5 => ?_
            exact hQ _ (List.mem_singleton.2 rfl) E' _ a w' k1 ⟨k2, by have := h.lo; simp only; omega, h.ar.mono k1, h.df.mono k1⟩ k4 k5 ⟨v', rfl, k3⟩
          · rename_i d hs
            refine exStep3_wp hP hcall hrnd h.hr h.lo h.ar hs (.inl rfl) fun d' hd' => ?_
            refine ih E ⟨Ev.putE s.tm o.dst Go.undef, d :: s.df, s.m⟩ L _ w Q ⟨h.hr, h.lo, ?_, ?_⟩ he fun x hx => (hQ x hx).of E.le_refl rfl (Nat.le_refl _)
            · have : AR E s.tm nt { a with defers := d' :: a.defers } := ⟨h.ar.glob, h.ar.size, h.ar.get⟩
              exact this.putE hd hB (VR.undef E)
            · rw [put_defers]
              exact .cons hd' h.df
          · cases he
      · rename_i hwt
        rw [hw, if_neg hwt]
        refine ⟨fun _ _ => trivial, ?_⟩
        exact ih E ⟨Ev.putE s.tm o.dst Go.undef, s.df, s.m⟩ L _ w Q ⟨h.hr, h.lo, h.ar.putE hd hB (VR.undef E), by rw [put_defers]; exact h.df⟩ he fun x hx => (hQ x hx).of E.le_refl rfl (Nat.le_refl _)
theorem evLoopN_wp {nt : Nat} {x : Code} {f : St → Tr (List (Ex2 × St))} (hf : ∀ (E : Env) (s : St) (L : List (Ex2 × St)) (a : Act) (w : World) (Q : Exit → Act → World → Prop), SR P w0 E nt s a w → f s = .ok L → (∀ y ∈ L, Ends P w0 E nt s y.1 y.2 Q) → x.wpIn (WF none) 0 P Q a w) :
    ∀ (k : Nat) (E : Env) (s : St) (L : List (Ex2 × St)) (a : Act) (w : World) (Q : Exit → Act → World → Prop), SR P w0 E nt s a w → evLoopN f k s = .ok L → (∀ y ∈ L, Ends P w0 E nt s y.1 y.2 Q) → InL none P x Q a w := by
  intro k
  induction k with
  | zero => intro E s L a w Q _ he; cases he
  | succ k ih =>
    intro E s L a w Q h he hQ
    refine InL.round ?_
    simp only [evLoopN] at he
    split at he
    · rename_i L1 hL1
      refine hf E s L1 a w _ h hL1 fun y hy E' z a' w' k1 k2 k3 k4 k5 => ?_
      obtain ⟨l', q1, q2⟩ := bindT_mem _ _ he y hy
      obtain ⟨e, s'⟩ := y
      cases e with
      | normal =>
        cases z with
        | normal => exact ih E' s' l' a' w' Q k2 q1 fun u hu => (hQ u (q2 u hu)).of k1 k3 k4
        | _ => exact k5.elim
      | _ =>
        simp only [Tr.ok.injEq] at q1
        subst q1
        have := hQ _ (q2 _ (List.mem_singleton.2 rfl)) E' z a' w' k1 k2 k3 k4 k5
        cases z with
        | normal => exact k5.elim
        | _ => exact this
    · cases he
theorem evCodeN_wp (hP : Plainly P) (hm : P.follows .mixedOrders = true) {call rnd : Call2} (hcall : CallOK P w0 call) (hrnd : RndOK P w0 rnd) {nt : Nat} (hB : nt ≤ 1073741824) : ∀ (n : Nat) (c : Code) (E : Env) (s : St) (L : List (Ex2 × St)) (a : Act) (w : World) (Q : Exit → Act → World → Prop),
    SR P w0 E nt s a w → evCodeN call rnd P nt n c s = .ok L → (∀ y ∈ L, Ends P w0 E nt s y.1 y.2 Q) → c.wpIn (WF none) 0 P Q a w := by
  intro n
  induction n with
  | zero => intro c E s L a w Q _ he; simp [evCodeN] at he
  | succ n ih =>
    intro c E s L a w Q h he hQ
    have rest : (match evCode2 false call rnd P nt n c s with
        | .ok r => Tr.ok [r]
        | .bad l => Tr.bad l) = .ok L → c.wpIn (WF none) 0 P Q a w := fun he => by
      split at he
      · rename_i r hr
        simp only [Tr.ok.injEq] at he
        subst he
        exact evCode2_wp hP hm hcall hrnd (rd := false) (ro := none) (fun _ => rfl) hB n c E s r.2 r.1 a w Q h hr (hQ r (List.mem_singleton.2 rfl))
      · cases he
    cases c with
    | region id ops draw =>
      cases draw with
      | true => simp only [evCodeN] at he; exact rest he
      | false =>
        simp only [evCodeN] at he
        split at he
        · rename_i L1 hL1
          simp only [Tr.ok.injEq] at he
          subst he
          refine wpIn_region_list (evOpsN_wp hP hcall hrnd hB _ E s L1 a w Q h hL1 fun x hx => ?_)
          have := hQ _ (List.mem_map_of_mem (f := ofOps) hx)
          obtain ⟨r, s'⟩ := x
          cases r <;> exact this
        · cases he
    | seq x y =>
      simp only [evCodeN] at he
      split at he
      · rename_i L1 hL1
        refine wpIn_seq (ih x E s L1 a w _ h hL1 fun u hu E' z a' w' k1 k2 k3 k4 k5 => ?_)
        obtain ⟨l', q1, q2⟩ := bindT_mem _ _ he u hu
        obtain ⟨e, s'⟩ := u
        cases e with
        | normal =>
          cases z with
          | normal => exact ih y E' s' l' a' w' Q k2 q1 fun u hu => (hQ u (q2 u hu)).of k1 k3 k4
          | _ => exact k5.elim
        | _ =>
          simp only [Tr.ok.injEq] at q1
          subst q1
          have := hQ _ (q2 _ (List.mem_singleton.2 rfl)) E' z a' w' k1 k2 k3 k4 k5
          cases z with
          | normal => exact k5.elim
          | _ => exact this
      · cases he
    | cond c x y =>
      simp only [evCodeN] at he
      split at he
      · rename_i hv
        have := ev_VR h.ar hv
        generalize hy : a.eval c = z at this
        cases this
        exact wpIn_cond_true hy (ih x E s L a w Q h he hQ)
      · rename_i hv
        have := ev_VR h.ar hv
        generalize hy : a.eval c = z at this
        cases this
        exact wpIn_cond_false hy (ih y E s L a w Q h he hQ)
      · cases he
    | block id x =>
      simp only [evCodeN] at he
      split at he
      · rename_i L1 hL1
        simp only [Tr.ok.injEq] at he
        subst he
        refine wpIn_block (ih x E s L1 a w _ h hL1 fun u hu E' z a' w' k1 k2 k3 k4 k5 => ?_)
        have hq := hQ _ (List.mem_map_of_mem (f := unBlock id) hu)
        obtain ⟨e, s'⟩ := u
        cases e with
        | exit i =>
          cases z with
          | exit j =>
            cases k5
            simp only [Exit.inBlock]
            simp only [unBlock] at hq
            split at hq
            · rename_i hi
              rw [if_pos hi]
              exact hq E' .normal a' w' k1 k2 k3 k4 trivial
            · rename_i hi
              rw [if_neg hi]
              exact hq E' (.exit i) a' w' k1 k2 k3 k4 rfl
          | _ => exact k5.elim
        | _ =>
          have := hq E' z a' w' k1 k2 k3 k4 k5
          cases z with
          | exit j => exact k5.elim
          | _ => exact this
      · cases he
    | loop x =>
      simp only [evCodeN] at he
      exact (evLoopN_wp (fun E s L a w Q h he hQ => ih x E s L a w Q h he hQ) 24 E s L a w Q h he hQ).wp
    | scope x =>
      simp only [evCodeN] at he
      refine wpIn_scope_straight (ih x E s L a w _ h he fun u hu E' z a' w' k1 k2 k3 k4 k5 => ?_)
      have := hQ u hu E' z a' w' k1 k2 k3 k4 k5
      cases z with
      | goto l => cases hu1 : u.1 <;> rw [hu1] at k5 <;> exact k5.elim
      | _ => exact this
    | _ => simp only [evCodeN] at he; exact rest he
end Go.Proofs.YtlkdjdcnbcegeaaGreatDoor.Ev

/-! A call that walks over a map, and whose outcome is the same row whichever way the walk goes: its outcomes are brought to one. -/
namespace Go.Proofs.YtlkdjdcnbcegeaaGreatDoor.Ev
open Go.RowKit
set_option linter.unusedSimpArgs false

variable {P : Program} {w0 w : World} {E : Env} {m : Mem}

/-! ### all outcomes of a call -/
def evFnN (sm : Sums) (P : Program) (steps n : Nat) (f : FuncId) (l : List Value) (m : Mem) : Tr (List (Out × Mem)) :=
  match P.funcs[f]? with
  | some fn => match fn.body with
    | some c => if Nat.ble fn.ntmps 1073741824 && Nat.ble l.length fn.ntmps then
        match evCodeN (evCall3 sm P steps n false) (evCall3 sm P steps n true) P fn.ntmps steps c ⟨T.leaf.fill 0 l, [], m⟩ with
        | .ok L => bindT L fun x => match x.1 with
          | .normal | .ret => (match evEnd (evCall3 sm P steps n false) (evCall3 sm P steps n true) P steps fn f x.2 none with
            | .ok r => .ok [r]
            | .bad l => .bad l)
          | _ => .bad [f, 7]
        | .bad l => .bad (f :: l)
      else .bad [f, 12]
    | none => .bad [f, 9]
  | none => .bad [f, 10]
theorem evFnN_ok (hP : Plainly P) (hm : P.follows .mixedOrders = true) {sm : Sums} (hsm : SumOK P w0 sm) {steps n : Nat} {f : FuncId} {l : List Value} {L : List (Out × Mem)} (he : evFnN sm P steps n f l m = .ok L) :
    (∃ fn, P.funcs[f]? = some fn ∧ fn.body.isSome = true) ∧ ∀ (E : Env) (w : World) (args : Array Value), HR P w0 E m.H m.next w → m.lo ≤ m.next → VRL E l args.toList →
      Calls P f args w fun e w' => ∃ r ∈ L, ∃ E', E.le E' ∧ HR P w0 E' r.2.H r.2.next w' ∧ r.2.lo = m.lo ∧ m.next ≤ r.2.next ∧ OutR E' r.1 e := by
  obtain ⟨ih, ihr⟩ := evCall3_ok hP hm hsm steps n
  unfold evFnN at he
  split at he
  · rename_i fn hf
    split at he
    · rename_i c hb
      split at he
      · rename_i hc
        simp only [Bool.and_eq_true, Nat.ble_eq] at hc
        split at he
        · rename_i L1 hL1
          refine ⟨⟨fn, hf, by rw [hb]; rfl⟩, fun E w args h hlo hargs => ?_⟩
          refine calls_of_wp_W hf hb ((wpIn_WF (n := 0)).1 ?_)
          have hsr : SR P w0 E fn.ntmps ⟨T.leaf.fill 0 l, [], m⟩ { tmps := args ++ Array.replicate (fn.ntmps - args.size) Go.undef, defers := [] } w := by
            refine ⟨h, hlo, ?_, .nil⟩
            have := AR.enter E h.glob hargs fn.ntmps (by omega) hc.2
            simpa using this
          refine evCodeN_wp hP hm ih ihr hc.1 steps c E _ L1 _ w _ hsr hL1 fun y hy E' x a' w' k1 k2 k3 k4 k5 => ?_
          obtain ⟨l', q1, q2⟩ := bindT_mem _ _ he y hy
          obtain ⟨e, s⟩ := y
          have fin : ∀ r, evEnd (evCall3 sm P steps n false) (evCall3 sm P steps n true) P steps fn f s none = .ok r → r ∈ L →
              LeavesW P fn a'.tmps (fun e w' => ∃ r ∈ L, ∃ E', E.le E' ∧ HR P w0 E' r.2.H r.2.next w' ∧ r.2.lo = m.lo ∧ m.next ≤ r.2.next ∧ OutR E' r.1 e) a'.defers .returning w' := fun r hr hrL => by
            obtain ⟨out, m'⟩ := r
            have := evEnd_run (E0 := E) (m := m) hP hm ih ihr hr k2 (um := .returning) rfl k1 k3 k4
            refine LeavesW.mono this fun e w' hh => ?_
            obtain ⟨E'', z⟩ := hh
            exact ⟨_, hrL, E'', z⟩
          cases e with
          | normal =>
            simp only at q1
            split at q1
            · rename_i r hr
              injection q1 with q1
              subst q1
              cases x with
              | normal => exact fin r hr (q2 r (List.mem_singleton.2 rfl))
              | _ => exact k5.elim
            · cases q1
          | ret =>
            simp only at q1
            split at q1
            · rename_i r hr
              injection q1 with q1
              subst q1
              cases x with
              | ret => exact fin r hr (q2 r (List.mem_singleton.2 rfl))
              | _ => exact k5.elim
            · cases q1
          | exit i => cases q1
          | pan v => cases q1
        · cases he
      · cases he
    · cases he
  · cases he

/-! ### one row for all -/
/-- The rows that cells name get other numbers. -/
def renParts (base : Nat) : List Value → Nat → T AObj → Option (List Value × Nat × T AObj × List AObj)
  | [], Q, H => some ([], Q, H, [])
  | .slice (some ⟨q, 0, none⟩) k kc :: r, Q, H => match H.get q with
    | some ob => if Nat.ble base q && Nat.ble 64 q && Nat.blt Q 1073741824 && Nat.blt q 1073741824 then match renParts base r (Q + 1) ((H.del q).set Q ob) with
        | some (vs, Q', H', obs) => some (.slice (some ⟨Q, 0, none⟩) k kc :: vs, Q', H', ob :: obs)
        | none => none else none
    | none => none
  | v :: r, Q, H => if clean v then match renParts base r Q H with
      | some (vs, Q', H', obs) => some (v :: vs, Q', H', obs)
      | none => none else none
def putParts : T AObj → Nat → List AObj → T AObj
  | H, _, [] => H
  | H, Q, ob :: r => putParts (H.set Q ob) (Q + 1) r
theorem HR.upto {H : T AObj} {next q : Nat} (h : HR P w0 E H next w) (hq : next ≤ q) : HR P w0 E H q w :=
  ⟨h.below, fun i b hb => by have := h.dom i b hb; exact ⟨by omega, this.2⟩, h.glob, h.inj, fun i hi => by have := h.ph i hi; exact ⟨by omega, this.2⟩, h.born⟩
/-- A part's block gets its other number. -/
theorem part_name {Q q base : Nat} {H : T AObj} {ob : AObj} (h : HR P w0 E H Q w) (hph : ∀ i, E.ph i = true → i < base) (hg : H.get q = some ob) (c1 : base ≤ q) (c2 : 64 ≤ q) (c3 : Q < 1073741824) (c4 : q < 1073741824) :
    ∃ b, E.blk q = some b ∧ E.le (E.more Q b (E.cap q)) ∧ HR P w0 (E.more Q b (E.cap q)) ((H.del q).set Q ob) (Q + 1) w := by
  have hpq : E.ph q = false := by
    cases hp : E.ph q with
    | false => rfl
    | true => have := hph q hp; omega
  obtain ⟨b, rr, hb, hr1, hr2⟩ := h.born q ob hg hpq
  have hle1 := Env.le_more_ge h (Nat.le_refl Q) b (E.cap q)
  refine ⟨b, hb, hle1, ?_⟩
  exact h.name (H' := H.del q) (c := E.cap q) (o' := ob) (Nat.le_refl Q) c3 c2 hb hg (fun i o hi => by
    rw [T.get_del _ _ c4] at hi
    split at hi
    · cases hi
    · exact ⟨hi, by assumption⟩) (fun r hr hor => by
    -- the same block under the other number
    cases ob with
    | cells cs n el g =>
      obtain ⟨arr, ⟨fz, el', z1, z2, z3⟩, hsz, hc'⟩ := hor
      refine ⟨arr, ⟨fz, el', fun _ => z1 c2, fun _ => z2 c2, z3⟩, ?_, fun j v hj hv => ?_⟩
      · unfold sizeOk at hsz ⊢
        simp only [Env.more, if_true]
        exact hsz
      · obtain ⟨v', x1, x2⟩ := hc' j v hj hv
        exact ⟨v', x1, x2.mono hle1⟩
    | map es cl => obtain ⟨arr, e, hs⟩ := hor; exact ⟨arr, e, hs.mono hle1⟩
    | iter s p => exact hor
    | miter mi a b c =>
      cases mi with
      | none => exact hor
      | some j => obtain ⟨b', y1, y2⟩ := hor; exact ⟨b', (hle1.to j b' y1).1, y2⟩
    | loop tm nt ps asg body dfr st pend =>
      obtain ⟨fn, tmps, bd, y1, y2, y3, y4⟩ := hor
      exact ⟨fn, tmps, bd, (hle1.to dfr bd y1).1, y2, fun t => (y3 t).mono hle1, y4⟩
    | dfr => exact hor)
theorem part_val {Q q b k kc : Nat} {E1 E2 E3 : Env} (hb : E.blk q = some b) (h1 : E1 = E.more Q b (E.cap q)) (hle1 : E.le E1) (k1 : E1.le E2) (hle : E2.le E3) {v' : Value} (hvr : VR E3 (.slice (some ⟨q, 0, none⟩) k kc) v') : VR E3 (.slice (some ⟨Q, 0, none⟩) k kc) v' := by
  subst h1
  have hle3 := Env.le_trans k1 hle
  have hq3 := (Env.le_trans hle1 hle3).to q b hb
  have hQ3 := hle3.to Q b (by simp [Env.more])
  cases hvr with
  | @slice _ b' _ _ _ c' hb' hcap =>
    rw [hq3.1] at hb'
    injection hb' with hb'
    subst hb'
    refine .slice 0 _ hQ3.1 ?_
    unfold capOf at hcap ⊢
    rw [hq3.2] at hcap
    rw [hQ3.2]
    simp only [Env.more, if_true]
    exact hcap
theorem renParts_ok {base : Nat} : ∀ (us : List Value) (Q : Nat) (H : T AObj) (vs : List Value) (Q2 : Nat) (H2 : T AObj) (obs : List AObj) (E : Env), renParts base us Q H = some (vs, Q2, H2, obs) → HR P w0 E H Q w → (∀ i, E.ph i = true → i < base) →
    ∃ E2, E.le E2 ∧ HR P w0 E2 H2 Q2 w ∧ Q ≤ Q2 ∧ vs.length = us.length ∧ ∀ (j : Nat) (u v : Value), us[j]? = some u → vs[j]? = some v → ∀ E3 v', E2.le E3 → VR E3 u v' → VR E3 v v' := by
  intro us
  induction us with
  | nil =>
    intro Q H vs Q2 H2 obs E he h _
    simp only [renParts, Option.some.injEq, Prod.mk.injEq] at he
    obtain ⟨rfl, rfl, rfl, rfl⟩ := he
    exact ⟨E, E.le_refl, h, Nat.le_refl _, rfl, fun j u v hu => by simp at hu⟩
  | cons u us ih =>
    intro Q H vs Q2 H2 obs E he h hph
    have plain : (if clean u then match renParts base us Q H with
        | some (vs, Q', H', obs) => some (u :: vs, Q', H', obs)
        | none => none else none) = some (vs, Q2, H2, obs) → ∃ E2, E.le E2 ∧ HR P w0 E2 H2 Q2 w ∧ Q ≤ Q2 ∧ vs.length = (u :: us).length ∧ ∀ (j : Nat) (u' v : Value), (u :: us)[j]? = some u' → vs[j]? = some v → ∀ E3 v', E2.le E3 → VR E3 u' v' → VR E3 v v' := fun he => by
      split at he
      · split at he
        · rename_i vs1 Q1 H1 obs1 h1
          simp only [Option.some.injEq, Prod.mk.injEq] at he
          obtain ⟨rfl, rfl, rfl, rfl⟩ := he
          obtain ⟨E2, k1, k2, k3, k4, k5⟩ := ih Q H vs1 Q1 H1 obs1 E h1 h hph
          refine ⟨E2, k1, k2, k3, by simp [k4], fun j u' v hu hv E3 v' hle hvr => ?_⟩
          cases j with
          | zero =>
            simp only [List.getElem?_cons_zero, Option.some.injEq] at hu hv
            subst hu hv
            exact hvr
          | succ j => exact k5 j u' v (by simpa using hu) (by simpa using hv) E3 v' hle hvr
        · cases he
      · cases he
    unfold renParts at he
    split at he
    · rename_i heq; cases heq
    · rename_i q k kc r heq
      injection heq with e1 e2
      subst e1 e2
      split at he
      · rename_i ob hg
        split at he
        · rename_i hc
          simp only [Bool.and_eq_true, Nat.ble_eq, Nat.blt_eq] at hc
          obtain ⟨⟨⟨c1, c2⟩, c3⟩, c4⟩ := hc
          split at he
          · rename_i vs1 Q1 H1 obs1 h1
            simp only [Option.some.injEq, Prod.mk.injEq] at he
            obtain ⟨rfl, rfl, rfl, rfl⟩ := he
            obtain ⟨b, hb, hle1, hn⟩ := part_name h hph hg c1 c2 c3 c4
            obtain ⟨E2, k1, k2, k3, k4, k5⟩ := ih _ _ vs1 Q1 H1 obs1 _ h1 hn (fun i hi => hph i hi)
            refine ⟨E2, Env.le_trans hle1 k1, k2, by omega, by simp [k4], fun j u' v hu hv E3 v' hle hvr => ?_⟩
            cases j with
            | zero =>
              simp only [List.getElem?_cons_zero, Option.some.injEq] at hu hv
              subst hu hv
              exact part_val hb rfl hle1 k1 hle hvr
            | succ j => exact k5 j u' v (by simpa using hu) (by simpa using hv) E3 v' hle hvr
          · cases he
        · cases he
      · cases he
    · rename_i v r hno heq
      injection heq with e1 e2
      subst e1 e2
      exact plain he
structure Canon where
  n : Nat
  c : Nat
  nb : Nat
  elem : TypeId
  g : Bool
  vs : List Value
  obs : List AObj
  Q : Nat
def canonOne (m : Mem) (Q : Nat) : Out × Mem → Option Canon
  | (.ret (.slice (some ⟨p, 0, none⟩) n c), m1) => match m1.H.get p with
    | some (.cells cs nb elem g) => match cs.take 0 nb with
      | some us => if Nat.ble m1.next Q && Nat.ble m.next p && Nat.ble 64 p && Nat.blt p Q then match renParts m.next us Q m1.H with
          | some (vs, Q2, H2, obs) => match H2.get p with
            | some o => if aeq (.cells cs nb elem g) o && agreeT (putParts m.H Q obs) H2 && ((putParts m.H Q obs).get p).isNone && Nat.blt Q2 1073741824 && Nat.ble nb 1073741824 then some ⟨n, c, nb, elem, g, vs, obs, Q2⟩ else none
            | none => none
          | none => none else none
      | none => none
    | _ => none
  | _ => none
def aeqL : List AObj → List AObj → Bool
  | [], [] => true
  | a :: r, b :: s => aeq a b && aeqL r s
  | _, _ => false
theorem aeqL_eq : ∀ (x y : List AObj), aeqL x y = true → x = y := by
  intro x
  induction x with
  | nil => intro y h; cases y with | nil => rfl | cons _ _ => simp [aeqL] at h
  | cons a x ih =>
    intro y h
    cases y with
    | nil => simp [aeqL] at h
    | cons b y => simp only [aeqL, Bool.and_eq_true] at h; rw [aeq_eq h.1, ih y h.2]
def canonEq (a b : Canon) : Bool := Nat.beq a.n b.n && Nat.beq a.c b.c && Nat.beq a.nb b.nb && Nat.beq a.elem b.elem && (a.g == b.g) && veqL a.vs b.vs && aeqL a.obs b.obs && Nat.beq a.Q b.Q
theorem canonEq_eq {a b : Canon} (h : canonEq a b = true) : a = b := by
  unfold canonEq at h
  simp only [Bool.and_eq_true, beq_iff_eq] at h
  obtain ⟨⟨⟨⟨⟨⟨⟨h1, h2⟩, h3⟩, h4⟩, h5⟩, h6⟩, h7⟩, h8⟩ := h
  obtain ⟨n, c, nb, elem, g, vs, obs, Q⟩ := a
  obtain ⟨n', c', nb', elem', g', vs', obs', Q'⟩ := b
  simp only at h1 h2 h3 h4 h5 h6 h7 h8
  rw [Nat.eq_of_beq_eq_true h1, Nat.eq_of_beq_eq_true h2, Nat.eq_of_beq_eq_true h3, Nat.eq_of_beq_eq_true h4, h5, veqL_eq _ _ h6, aeqL_eq _ _ h7, Nat.eq_of_beq_eq_true h8]
def isCanon (m : Mem) (Q : Nat) (k : Canon) (r : Out × Mem) : Bool :=
  match canonOne m Q r with
  | some k' => canonEq k' k
  | none => false
def topOf : List (Out × Mem) → Nat
  | [] => 0
  | r :: l => Nat.max r.2.next (topOf l)
def canonOut (m : Mem) (Q : Nat) (k : Canon) : Out × Mem :=
  (.ret (.slice (some ⟨k.Q, 0, none⟩) k.n k.c), { m with H := (putParts m.H Q k.obs).set k.Q (.cells (T.leaf.fill 0 k.vs) k.nb k.elem k.g), next := k.Q + 1 })
def walkSum (fi : FuncId) (sm : Sums) (P : Program) (steps n : Nat) : Sums := fun f l m =>
  if Nat.beq f fi then match evFnN sm P steps n f l m with
    | .ok (r :: L) => match canonOne m (topOf (r :: L)) r with
      | some k => if (r :: L).all (isCanon m (topOf (r :: L)) k) then some (canonOut m (topOf (r :: L)) k) else none
      | none => none
    | _ => none
  else none
theorem canonOne_ok {Q : Nat} {r : Out × Mem} {k : Canon} (he : canonOne m Q r = some k) {E E' : Env} {w' : World} (hE : E.le E') (h0 : ∀ i, E.ph i = true → i < m.next) (h : HR P w0 E' r.2.H r.2.next w') {e : Ending} (ho : OutR E' r.1 e) :
    ∃ E'', E.le E'' ∧ HR P w0 E'' (canonOut m Q k).2.H (canonOut m Q k).2.next w' ∧ m.next ≤ (canonOut m Q k).2.next ∧ OutR E'' (canonOut m Q k).1 e := by
  unfold canonOne at he
  split at he
  · rename_i p n c m1
    split at he
    · rename_i cs nb elem g hg
      split at he
      · rename_i us hus
        split at he
        · rename_i hc
          simp only [Bool.and_eq_true, Nat.ble_eq, Nat.blt_eq] at hc
          obtain ⟨⟨⟨c1, c2⟩, c3⟩, c4⟩ := hc
          split at he
          · rename_i vs Q2 H2 obs hren
            split at he
            · rename_i o hg2
              split at he
              · rename_i hc2
                simp only [Bool.and_eq_true, Nat.blt_eq, Nat.ble_eq, Option.isNone_iff_eq_none] at hc2
                obtain ⟨⟨⟨⟨d1, d2⟩, d3⟩, d4⟩, d5⟩ := hc2
                injection he with he
                subst he
                have := aeq_eq d1
                subst this
                have hph : ∀ i, E'.ph i = true → i < m.next := fun i hi => h0 i (by rw [← hE.ph]; exact hi)
                obtain ⟨E2, k1, k2, k3, k4, k5⟩ := renParts_ok us Q m1.H vs Q2 H2 obs E' hren (h.upto c1) hph
                cases e with
                | panicked _ => exact ho.elim
                | outgrown => exact ho.elim
                | returned v' =>
                  cases ho with
                  | @slice _ bp _ _ _ cp' hbp hcp =>
                  have hbp2 := (k1.to p bp hbp).1
                  have hle2 := Env.le_more_ge k2 (Nat.le_refl Q2) bp (E2.cap p)
                  obtain ⟨t1, t2⟩ := T.take_spec _ _ _ _ hus
                  refine ⟨E2.more Q2 bp (E2.cap p), Env.le_trans hE (Env.le_trans k1 hle2), ?_, by simp only [canonOut]; omega, ?_⟩
                  · refine k2.name (Nat.le_refl Q2) d4 c3 hbp2 hg2 (fun j u hj => ⟨agreeT_get _ _ d2 j u hj, fun ej => ?_⟩) fun r hr hor => ?_
                    · subst ej; rw [d3] at hj; cases hj
                    · obtain ⟨arr, ⟨fz, el', z1, z2, z3⟩, hsz, hc'⟩ := hor
                      refine ⟨arr, ⟨fz, el', fun _ => z1 c3, fun _ => z2 c3, z3⟩, ?_, fun j v hj hv => ?_⟩
                      · unfold sizeOk at hsz ⊢
                        simp only [Env.more, if_true]
                        exact hsz
                      · have hvl : vs.length = nb := by rw [k4, t1]
                        simp only at hj
                        have hv : (T.leaf.fill 0 vs).get j = some v := hv
                        rw [T.get_fill _ _ _ _ (by omega), if_pos (by omega)] at hv
                        simp only [Nat.sub_zero] at hv
                        have hj' : j < us.length := by omega
                        have hu : us[j]? = some us[j] := List.getElem?_eq_getElem hj'
                        have h3 := t2 j _ hu
                        rw [Nat.zero_add] at h3
                        obtain ⟨v', x1, x2⟩ := hc' j _ hj h3
                        exact ⟨v', x1, k5 j _ v hu hv _ v' hle2 (x2.mono hle2)⟩
                  · refine .slice 0 _ (by simp [Env.more]) ?_
                    have := (k1.to p bp hbp).2
                    unfold capOf at hcp ⊢
                    simp only [Env.more, if_true]
                    rw [this]
                    exact hcp
              · cases he
            · cases he
          · cases he
        · cases he
      · cases he
    · cases he
  · cases he
theorem walkSum_ok (hP : Plainly P) (hm : P.follows .mixedOrders = true) {sm : Sums} (hsm : SumOK P w0 sm) (fi : FuncId) (steps n : Nat) : SumOK P w0 (walkSum fi sm P steps n) := by
  intro f l m out m' he
  unfold walkSum at he
  split at he
  · split at he
    · rename_i r L hL
      split at he
      · rename_i k hk
        split at he
        · rename_i hall
          injection he with he
          obtain ⟨hfn, hC⟩ := evFnN_ok hP hm hsm hL
          refine ⟨hfn, fun E w args h hlo hargs => Calls.mono (hC E w args h hlo hargs) fun e w' ⟨r', hr', E', k1, k2, k3, k4, k5⟩ => ?_⟩
          have hone := List.all_eq_true.1 hall r' hr'
          unfold isCanon at hone
          split at hone
          · rename_i k' hk'
            have := canonEq_eq hone
            subst this
            obtain ⟨E'', q1, q2, q3, q4⟩ := canonOne_ok hk' k1 (fun i hi => (h.ph i hi).1) k2 k5
            have e1 : (canonOut m (topOf (r :: L)) k').1 = out := by rw [he]
            have e2 : (canonOut m (topOf (r :: L)) k').2 = m' := by rw [he]
            rw [e1] at q4
            rw [e2] at q2 q3
            exact ⟨E'', q1, q2, by rw [← e2]; rfl, q3, q4⟩
          · cases hone
        · cases he
      · cases he
    · cases he
  · cases he
end Go.Proofs.YtlkdjdcnbcegeaaGreatDoor.Ev
