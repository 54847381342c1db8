/-
  Code that walks over a map of several entries: whichever comes next.
-/
import Derived.Test.YthlfmpkbdcimkaaGreatDoorEvCap
namespace Go.Proofs.YthlfmpkbdcimkaaGreatDoor.Ev
open Go.RowKit
set_option linter.unusedSimpArgs false

variable {P : Program} {w0 w : World} {E : Env} {m : Mem} {ops : Array Oper}

/-- All that may come of all that may have come. -/
def bindT {α β : Type} : List α → (α → Tr (List β)) → Tr (List β)
  | [], _ => .ok []
  | x :: r, f => match f x with
    | .ok l => match bindT r f with
      | .ok l' => .ok (l ++ l')
      | .bad l => .bad l
    | .bad l => .bad l
theorem bindT_mem {α β : Type} {f : α → Tr (List β)} : ∀ (l : List α) (L : List β), bindT l f = .ok L → ∀ x ∈ l, ∃ l', f x = .ok l' ∧ ∀ y ∈ l', y ∈ L := by
  intro l
  induction l with
  | nil => intro L _ x hx; cases hx
  | cons a r ih =>
    intro L h x hx
    simp only [bindT] at h
    split at h
    · rename_i l1 h1
      split at h
      · rename_i l2 h2
        injection h with h
        subst h
        rcases List.mem_cons.1 hx with rfl | hx
        · exact ⟨l1, h1, fun y hy => List.mem_append_left _ hy⟩
        · obtain ⟨l', k1, k2⟩ := ih l2 h2 x hx
          exact ⟨l', k1, fun y hy => List.mem_append_right _ (k2 y hy)⟩
      · cases h
    · cases h
def nextOf (m : Mem) (tm : T Value) (o : Oper) : Option (List (Value × Mem)) :=
  match o.op with
  | .next it false => match ev tm it with
    | some v => exNextN m v
    | none => none
  | _ => none
def evOpsN (call rnd : Call2) (P : Program) (nt : Nat) (ops : Array Oper) : List Oper → St → Tr (List (Option Value × St))
  | [], s => .ok [(none, s)]
  | o :: r, s =>
    if !dstOk nt o then .bad [3004]
    else if Region.wanted o (yieldedE ops s.tm) then
      match nextOf s.m s.tm o with
      | some L => bindT L fun x => evOpsN call rnd P nt ops r ⟨putE s.tm o.dst x.1, s.df, x.2⟩
      | none => match exStep3 call rnd P s.m s.tm o with
        | .ok (.val v m') => evOpsN call rnd P nt ops r ⟨putE s.tm o.dst v, s.df, m'⟩
        | .ok (.pan v m') => .ok [(some v, ⟨s.tm, s.df, m'⟩)]
        | .ok (.later d) => evOpsN call rnd P nt ops r ⟨putE s.tm o.dst Go.undef, d :: s.df, s.m⟩
        | .bad l => .bad (r.length :: l)
    else evOpsN call rnd P nt ops r ⟨putE s.tm o.dst Go.undef, s.df, s.m⟩
/-- At most so many rounds of a loop. -/
def evLoopN (f : St → Tr (List (Ex2 × St))) : Nat → St → Tr (List (Ex2 × St))
  | 0, _ => .bad [8]
  | k + 1, s => match f s with
    | .ok L => bindT L fun x => match x.1 with
      | .normal => evLoopN f k x.2
      | e => .ok [(e, x.2)]
    | .bad l => .bad l
def ofOps : Option Value × St → Ex2 × St
  | (none, s) => (.normal, s)
  | (some v, s) => (.pan v, s)
def unBlock (id : Nat) : Ex2 × St → Ex2 × St
  | (.exit i, s) => if i = id then (.normal, s) else (.exit i, s)
  | x => x
def evCodeN (call rnd : Call2) (P : Program) (nt : Nat) : Nat → Code → St → Tr (List (Ex2 × St))
  | 0, _, _ => .bad [1]
  | _ + 1, .region id ops false, s => match evOpsN call rnd P nt ops ops.toList s with
    | .ok L => .ok (L.map ofOps)
    | .bad l => .bad (id :: l)
  | n + 1, .seq a b, s => match evCodeN call rnd P nt n a s with
    | .ok L => bindT L fun x => match x.1 with
      | .normal => evCodeN call rnd P nt n b x.2
      | e => .ok [(e, x.2)]
    | .bad l => .bad l
  | n + 1, .cond c a b, s => match ev s.tm c with
    | some (.bool true) => evCodeN call rnd P nt n a s
    | some (.bool false) => evCodeN call rnd P nt n b s
    | _ => .bad [3]
  | n + 1, .block id b, s => match evCodeN call rnd P nt n b s with
    | .ok L => .ok (L.map (unBlock id))
    | .bad l => .bad l
  | n + 1, .loop b, s => evLoopN (fun s => evCodeN call rnd P nt n b s) 24 s
  | n + 1, .scope b, s => evCodeN call rnd P nt n b s
  | n + 1, c, s => match evCode2 false call rnd P nt n c s with
    | .ok r => .ok [r]
    | .bad l => .bad l
theorem next_wp (h : HR P w0 E m.H m.next w) {tm : T Value} {nt : Nat} {a : Act} (ha : AR E tm nt a) {o : Oper} {L : List (Value × Mem)} (he : nextOf m tm o = some L) {next : Act → World → Prop} {Q : Exit → Act → World → Prop}
    (hn : ∀ r ∈ L, ∀ E' v' w', E.le E' → HR P w0 E' r.2.H r.2.next w' → VR E' r.1 v' → r.2.lo = m.lo → m.next ≤ r.2.next → next (a.put o.dst v') w') : o.wpIn (WF none) 0 P a w next Q := by
  unfold nextOf at he
  split at he
  · rename_i it ho
    split at he
    · rename_i v hv
      obtain ⟨r, hr, E', v', w', k1, k2, k3, k4, _, k6, k7⟩ := exNextN_run h (ev_VR ha hv) he o.type
      refine op_wpIn (.inl rfl) ?_
      unfold Oper.wp execOp
      rw [ho]
      simp only [Sem.run_bind, k1, Result.andThen, Sem.run_pure]
      exact hn r hr E' v' w' k2 k3 k4 k6 k7
    · cases he
  · cases he
theorem evOpsN_wp (hP : Plainly P) {call rnd : Call2} (hcall : CallOK P w0 call) (hrnd : RndOK P w0 rnd) {nt : Nat} (hB : nt ≤ 1073741824) : ∀ (l : List Oper) (E : Env) (s : St) (L : List (Option Value × St)) (a : Act) (w : World) (Q : Exit → Act → World → Prop),
    SR P w0 E nt s a w → evOpsN call rnd P nt ops l s = .ok L → (∀ x ∈ L, Ends P w0 E nt s (opsEx x.1) x.2 Q) → wpListIn (WF none) 0 P ops Q l a w := by
  intro l
  induction l with
  | nil =>
    intro E s L a w Q h he hQ
    simp only [evOpsN, Tr.ok.injEq] at he
    subst he
    exact hQ (none, s) (List.mem_singleton.2 rfl) E .normal a w E.le_refl h rfl (Nat.le_refl _) trivial
  | cons o l ih =>
    intro E s L a w Q h he hQ
    simp only [evOpsN] at he
    split at he
    · cases he
    · rename_i hd
      have hd := dstOk_lt (by simpa using hd)
      have hw := wantedE h.ar ops o
      unfold wpListIn
      split at he
      · rename_i hwt
        rw [hw, hwt, if_pos rfl]
        split at he
        · rename_i L1 hL1
          refine next_wp h.hr h.ar hL1 fun r hr E' v' w' k1 k2 k3 k4 k5 => ?_
          obtain ⟨l', q1, q2⟩ := bindT_mem _ _ he r hr
          refine ih E' _ l' _ w' Q ⟨k2, by have := h.lo; simp only; omega, (h.ar.mono k1).putE hd hB k3, by rw [put_defers]; exact h.df.mono k1⟩ q1 fun x hx => ?_
          exact (hQ x (q2 x hx)).of k1 k4 k5
        · split at he
          · rename_i v m' hs
            refine exStep3_wp hP hcall hrnd h.hr h.lo h.ar hs (.inl rfl) fun E' v' w' k1 k2 k3 k4 k5 => ?_
            exact ih E' _ L _ w' Q ⟨k2, by have := h.lo; simp only; omega, (h.ar.mono k1).putE hd hB k3, by rw [put_defers]; exact h.df.mono k1⟩ he fun x hx => (hQ x hx).of k1 k4 k5
          · rename_i v m' hs
            simp only [Tr.ok.injEq] at he
            subst he
            refine exStep3_wp hP hcall hrnd h.hr h.lo h.ar hs (.inl rfl) fun E' v' w' k1 k2 k3 k4 k5 => ?_
            exact hQ _ (List.mem_singleton.2 rfl) E' _ a w' k1 ⟨k2, by have := h.lo; simp only; omega, h.ar.mono k1, h.df.mono k1⟩ k4 k5 ⟨v', rfl, k3⟩
          · rename_i d hs
            refine exStep3_wp hP hcall hrnd h.hr h.lo h.ar hs (.inl rfl) fun d' hd' => ?_
            refine ih E ⟨Ev.putE s.tm o.dst Go.undef, d :: s.df, s.m⟩ L _ w Q ⟨h.hr, h.lo, ?_, ?_⟩ he fun x hx => (hQ x hx).of E.le_refl rfl (Nat.le_refl _)
            · have : AR E s.tm nt { a with defers := d' :: a.defers } := ⟨h.ar.glob, h.ar.size, h.ar.get⟩
              exact this.putE hd hB (VR.undef E)
            · rw [put_defers]
              exact .cons hd' h.df
          · cases he
      · rename_i hwt
        rw [hw, if_neg hwt]
        refine ⟨fun _ _ => trivial, ?_⟩
        exact ih E ⟨Ev.putE s.tm o.dst Go.undef, s.df, s.m⟩ L _ w Q ⟨h.hr, h.lo, h.ar.putE hd hB (VR.undef E), by rw [put_defers]; exact h.df⟩ he fun x hx => (hQ x hx).of E.le_refl rfl (Nat.le_refl _)
theorem evLoopN_wp {nt : Nat} {x : Code} {f : St → Tr (List (Ex2 × St))} (hf : ∀ (E : Env) (s : St) (L : List (Ex2 × St)) (a : Act) (w : World) (Q : Exit → Act → World → Prop), SR P w0 E nt s a w → f s = .ok L → (∀ y ∈ L, Ends P w0 E nt s y.1 y.2 Q) → x.wpIn (WF none) 0 P Q a w) :
    ∀ (k : Nat) (E : Env) (s : St) (L : List (Ex2 × St)) (a : Act) (w : World) (Q : Exit → Act → World → Prop), SR P w0 E nt s a w → evLoopN f k s = .ok L → (∀ y ∈ L, Ends P w0 E nt s y.1 y.2 Q) → InL none P x Q a w := by
  intro k
  induction k with
  | zero => intro E s L a w Q _ he; cases he
  | succ k ih =>
    intro E s L a w Q h he hQ
    refine InL.round ?_
    simp only [evLoopN] at he
    split at he
    · rename_i L1 hL1
      refine hf E s L1 a w _ h hL1 fun y hy E' z a' w' k1 k2 k3 k4 k5 => ?_
      obtain ⟨l', q1, q2⟩ := bindT_mem _ _ he y hy
      obtain ⟨e, s'⟩ := y
      cases e with
      | normal =>
        cases z with
        | normal => exact ih E' s' l' a' w' Q k2 q1 fun u hu => (hQ u (q2 u hu)).of k1 k3 k4
        | _ => exact k5.elim
      | _ =>
        simp only [Tr.ok.injEq] at q1
        subst q1
        have := hQ _ (q2 _ (List.mem_singleton.2 rfl)) E' z a' w' k1 k2 k3 k4 k5
        cases z with
        | normal => exact k5.elim
        | _ => exact this
    · cases he
theorem evCodeN_wp (hP : Plainly P) (hm : P.follows .mixedOrders = true) {call rnd : Call2} (hcall : CallOK P w0 call) (hrnd : RndOK P w0 rnd) {nt : Nat} (hB : nt ≤ 1073741824) : ∀ (n : Nat) (c : Code) (E : Env) (s : St) (L : List (Ex2 × St)) (a : Act) (w : World) (Q : Exit → Act → World → Prop),
    SR P w0 E nt s a w → evCodeN call rnd P nt n c s = .ok L → (∀ y ∈ L, Ends P w0 E nt s y.1 y.2 Q) → c.wpIn (WF none) 0 P Q a w := by
  intro n
  induction n with
  | zero => intro c E s L a w Q _ he; simp [evCodeN] at he
  | succ n ih =>
    intro c E s L a w Q h he hQ
    have rest : (match evCode2 false call rnd P nt n c s with
        | .ok r => Tr.ok [r]
        | .bad l => Tr.bad l) = .ok L → c.wpIn (WF none) 0 P Q a w := fun he => by
      split at he
      · rename_i r hr
        simp only [Tr.ok.injEq] at he
        subst he
        exact evCode2_wp hP hm hcall hrnd (rd := false) (ro := none) (fun _ => rfl) hB n c E s r.2 r.1 a w Q h hr (hQ r (List.mem_singleton.2 rfl))
      · cases he
    cases c with
    | region id ops draw =>
      cases draw with
      | true => simp only [evCodeN] at he; exact rest he
      | false =>
        simp only [evCodeN] at he
        split at he
        · rename_i L1 hL1
          simp only [Tr.ok.injEq] at he
          subst he
          refine wpIn_region_list (evOpsN_wp hP hcall hrnd hB _ E s L1 a w Q h hL1 fun x hx => ?_)
          have := hQ _ (List.mem_map_of_mem (f := ofOps) hx)
          obtain ⟨r, s'⟩ := x
          cases r <;> exact this
        · cases he
    | seq x y =>
      simp only [evCodeN] at he
      split at he
      · rename_i L1 hL1
        refine wpIn_seq (ih x E s L1 a w _ h hL1 fun u hu E' z a' w' k1 k2 k3 k4 k5 => ?_)
        obtain ⟨l', q1, q2⟩ := bindT_mem _ _ he u hu
        obtain ⟨e, s'⟩ := u
        cases e with
        | normal =>
          cases z with
          | normal => exact ih y E' s' l' a' w' Q k2 q1 fun u hu => (hQ u (q2 u hu)).of k1 k3 k4
          | _ => exact k5.elim
        | _ =>
          simp only [Tr.ok.injEq] at q1
          subst q1
          have := hQ _ (q2 _ (List.mem_singleton.2 rfl)) E' z a' w' k1 k2 k3 k4 k5
          cases z with
          | normal => exact k5.elim
          | _ => exact this
      · cases he
    | cond c x y =>
      simp only [evCodeN] at he
      split at he
      · rename_i hv
        have := ev_VR h.ar hv
        generalize hy : a.eval c = z at this
        cases this
        exact wpIn_cond_true hy (ih x E s L a w Q h he hQ)
      · rename_i hv
        have := ev_VR h.ar hv
        generalize hy : a.eval c = z at this
        cases this
        exact wpIn_cond_false hy (ih y E s L a w Q h he hQ)
      · cases he
    | block id x =>
      simp only [evCodeN] at he
      split at he
      · rename_i L1 hL1
        simp only [Tr.ok.injEq] at he
        subst he
        refine wpIn_block (ih x E s L1 a w _ h hL1 fun u hu E' z a' w' k1 k2 k3 k4 k5 => ?_)
        have hq := hQ _ (List.mem_map_of_mem (f := unBlock id) hu)
        obtain ⟨e, s'⟩ := u
        cases e with
        | exit i =>
          cases z with
          | exit j =>
            cases k5
            simp only [Exit.inBlock]
            simp only [unBlock] at hq
            split at hq
            · rename_i hi
              rw [if_pos hi]
              exact hq E' .normal a' w' k1 k2 k3 k4 trivial
            · rename_i hi
              rw [if_neg hi]
              exact hq E' (.exit i) a' w' k1 k2 k3 k4 rfl
          | _ => exact k5.elim
        | _ =>
          have := hq E' z a' w' k1 k2 k3 k4 k5
          cases z with
          | exit j => exact k5.elim
          | _ => exact this
      · cases he
    | loop x =>
      simp only [evCodeN] at he
      exact (evLoopN_wp (fun E s L a w Q h he hQ => ih x E s L a w Q h he hQ) 24 E s L a w Q h he hQ).wp
    | scope x =>
      simp only [evCodeN] at he
      refine wpIn_scope_straight (ih x E s L a w _ h he fun u hu E' z a' w' k1 k2 k3 k4 k5 => ?_)
      have := hQ u hu E' z a' w' k1 k2 k3 k4 k5
      cases z with
      | goto l => cases hu1 : u.1 <;> rw [hu1] at k5 <;> exact k5.elim
      | _ => exact this
    | _ => simp only [evCodeN] at he; exact rest he
end Go.Proofs.YthlfmpkbdcimkaaGreatDoor.Ev
