/-
  Code: what our machine makes of it stands for what the model makes of it.
-/
import Derived.Scope
import Derived.Test.YtokbkninlbkhjaaGreatDoorEvZ
namespace Go.Proofs.YtokbkninlbkhjaaGreatDoor.Ev
open Go.RowKit
set_option linter.unusedSimpArgs false

variable {P : Program} {w0 w : World} {E : Env} {m : Mem} {ops : Array Oper}

theorem dstOk_lt {nt : Nat} {o : Oper} (h : dstOk nt o = true) : ∀ d, o.dst = some d → d < nt := by
  intro d hd
  unfold dstOk at h
  rw [hd] at h
  simpa using h
theorem put_defers (a : Act) (dst : Option Tmp) (v : Value) : (a.put dst v).defers = a.defers := by cases dst <;> rfl
/-- How a piece of code ends. -/
def ExR (E : Env) : Ex2 → Exit → Prop
  | .normal, .normal => True
  | .exit i, .exit j => i = j
  | .ret, .ret => True
  | .pan v, .panic ch => ∃ v', ch = [{ v := v', recovered := false }] ∧ VR E v v'
  | _, _ => False
/-- What must hold of every outcome that ours stands for. -/
def Ends (P : Program) (w0 : World) (E : Env) (nt : Nat) (s : St) (e : Ex2) (s' : St) (Q : Exit → Act → World → Prop) : Prop :=
  ∀ E' x a' w', E.le E' → SR P w0 E' nt s' a' w' → s'.m.lo = s.m.lo → s.m.next ≤ s'.m.next → ExR E' e x → Q x a' w'
theorem Ends.of {nt : Nat} {s s1 s' : St} {e : Ex2} {Q : Exit → Act → World → Prop} {E' : Env} (h : Ends P w0 E nt s e s' Q) (hE : E.le E') (h1 : s1.m.lo = s.m.lo) (h2 : s.m.next ≤ s1.m.next) : Ends P w0 E' nt s1 e s' Q :=
  fun E'' x a' w' k1 k2 k3 k4 k5 => h E'' x a' w' (Env.le_trans hE k1) k2 (k3.trans h1) (Nat.le_trans h2 k4) k5
def opsEx : Option Value → Ex2
  | none => .normal
  | some v => .pan v
theorem evOps2_wp (hP : Plainly P) {call : Call2} (hcall : CallOK P w0 call) {nt : Nat} (hB : nt ≤ 1073741824) : ∀ (l : List Oper) (E : Env) (s s' : St) (r : Option Value) (a : Act) (w : World) (Q : Exit → Act → World → Prop),
    SR P w0 E nt s a w → evOps2 call P nt ops l s = .ok (r, s') → Ends P w0 E nt s (opsEx r) s' Q → wpList P ops Q l a w := by
  intro l
  induction l with
  | nil =>
    intro E s s' r a w Q h he hQ
    simp only [evOps2, Tr.ok.injEq, Prod.mk.injEq] at he
    obtain ⟨rfl, rfl⟩ := he
    exact hQ E .normal a w E.le_refl h rfl (Nat.le_refl _) trivial
  | cons o l ih =>
    intro E s s' r a w Q h he hQ
    simp only [evOps2] at he
    split at he
    · cases he
    · rename_i hd
      have hd := dstOk_lt (by simpa using hd)
      have hw := wantedE h.ar ops o
      unfold wpList
      split at he
      · rename_i hwt
        rw [hw, hwt, if_pos rfl]
        refine .inl ?_
        split at he
        · rename_i v m' hs
          refine exStep2_wp hP hcall h.hr h.lo h.ar hs fun E' v' w' k1 k2 k3 k4 k5 => ?_
          refine ih E' _ s' r _ w' Q ⟨k2, by have := h.lo; simp only; omega, (h.ar.mono k1).putE hd hB k3, by rw [put_defers]; exact h.df.mono k1⟩ he (hQ.of k1 k4 k5)
        · rename_i v m' hs
          simp only [Tr.ok.injEq, Prod.mk.injEq] at he
          obtain ⟨rfl, rfl⟩ := he
          refine exStep2_wp hP hcall h.hr h.lo h.ar hs fun E' v' w' k1 k2 k3 k4 k5 => ?_
          exact hQ E' _ a w' k1 ⟨k2, by have := h.lo; simp only; omega, h.ar.mono k1, h.df.mono k1⟩ k4 k5 ⟨v', rfl, k3⟩
        · rename_i d hs
          refine exStep2_wp hP hcall h.hr h.lo h.ar hs fun d' hd' => ?_
          refine ih E ⟨Ev.putE s.tm o.dst Go.undef, d :: s.df, s.m⟩ s' r _ w Q ⟨h.hr, h.lo, ?_, ?_⟩ he (hQ.of E.le_refl rfl (Nat.le_refl _))
          · have : AR E s.tm nt { a with defers := d' :: a.defers } := ⟨h.ar.glob, h.ar.size, h.ar.get⟩
            exact this.putE hd hB (VR.undef E)
          · rw [put_defers]
            exact .cons hd' h.df
        · cases he
      · rename_i hwt
        rw [hw, if_neg hwt]
        exact ih E ⟨Ev.putE s.tm o.dst Go.undef, s.df, s.m⟩ s' r _ w Q ⟨h.hr, h.lo, h.ar.putE hd hB (VR.undef E), by rw [put_defers]; exact h.df⟩ he (hQ.of E.le_refl rfl (Nat.le_refl _))

/-- A loop that is about to run its body. -/
def InL (P : Program) (c : Code) (Q : Exit → Act → World → Prop) (a : Act) (w : World) : Prop :=
  ∀ (b : Frame) (k : List Item) (cs : List Frame), ∃ e a' w', Q e a' w' ∧ Arrives P (lone (b.at a (.code c :: .inLoop c :: k)) cs w) b k cs e a' w'
theorem InL.wp {c : Code} {Q : Exit → Act → World → Prop} {a : Act} {w : World} (h : InL P c Q a w) : (Code.loop c).wp P Q a w := fun b k cs => by
  obtain ⟨e, a', w', h1, h2⟩ := h b k cs
  exact ⟨e, a', w', h1, .of_steps (.one step_loop) h2⟩
theorem InL.round {c : Code} {Q : Exit → Act → World → Prop} {a : Act} {w : World} (h : c.wp P (Exit.then (InL P c Q) Q) a w) : InL P c Q a w := by
  intro b k cs
  obtain ⟨e, a₁, w₁, hq, harr⟩ := h b (.inLoop c :: k) cs
  cases e with
  | normal =>
    obtain ⟨e₂, a₂, w₂, hq₂, harr₂⟩ := hq b k cs
    exact ⟨e₂, a₂, w₂, hq₂, .of_steps (Steps.trans harr (.one step_inLoop)) harr₂⟩
  | exit id => exact ⟨_, a₁, w₁, hq, .pass (x := .inLoop c) rfl (fun _ _ => .inl (by simp)) harr⟩
  | goto l => exact ⟨_, a₁, w₁, hq, .pass (x := .inLoop c) rfl (fun _ _ => .inl (by simp)) harr⟩
  | ret => exact ⟨_, a₁, w₁, hq, .pass (x := .inLoop c) rfl (fun _ _ => .inl (by simp)) harr⟩
  | panic ch => exact ⟨_, a₁, w₁, hq, .pass (x := .inLoop c) rfl (fun _ _ => .inl (by simp)) harr⟩
  | outgrown => exact ⟨_, a₁, w₁, hq, .pass (x := .inLoop c) rfl (fun _ _ => .inl (by simp)) harr⟩
/-- Rounds of a loop. -/
theorem evLoop_wp {nt : Nat} {x : Code} {f : St → Tr (Ex2 × St)} (hf : ∀ (E : Env) (s s' : St) (e : Ex2) (a : Act) (w : World) (Q : Exit → Act → World → Prop), SR P w0 E nt s a w → f s = .ok (e, s') → Ends P w0 E nt s e s' Q → x.wp P Q a w) :
    ∀ (k : Nat) (E : Env) (s s' : St) (r : Option Ex2) (a : Act) (w : World) (Q : Exit → Act → World → Prop), SR P w0 E nt s a w → evLoop f k s = .ok (r, s') →
      (match r with
      | some e => Ends P w0 E nt s e s' Q
      | none => ∀ E' a' w', E.le E' → SR P w0 E' nt s' a' w' → s'.m.lo = s.m.lo → s.m.next ≤ s'.m.next → InL P x Q a' w') → InL P x Q a w := by
  intro k
  induction k with
  | zero =>
    intro E s s' r a w Q h he hQ
    refine InL.round ?_
    simp only [evLoop] at he
    split at he
    · rename_i s1 hs
      have he : none = r ∧ s1 = s' := by
        obtain ⟨tm1, df1, m1⟩ := s1
        cases df1 <;> simpa only [Tr.ok.injEq, Prod.mk.injEq] using he
      obtain ⟨rfl, rfl⟩ := he
      refine hf E s s1 .normal a w _ h hs fun E' z a' w' k1 k2 k3 k4 k5 => ?_
      cases z with
      | normal => exact hQ E' a' w' k1 k2 k3 k4
      | _ => exact k5.elim
    · rename_i e1 s1 hno hs
      simp only [Tr.ok.injEq, Prod.mk.injEq] at he
      obtain ⟨rfl, rfl⟩ := he
      refine hf E s s1 e1 a w _ h hs fun E' z a' w' k1 k2 k3 k4 k5 => ?_
      have := hQ E' z a' w' k1 k2 k3 k4 k5
      cases z with
      | normal =>
        cases e1 with
        | normal => exact (hno rfl).elim
        | _ => exact k5.elim
      | _ => exact this
    · cases he
  | succ k ih =>
    intro E s s' r a w Q h he hQ
    simp only [evLoop] at he
    split at he
    · rename_i s1 hs
      refine ih E s s1 none a w Q h hs fun E1 a1 w1 k1 k2 k3 k4 => ?_
      refine ih E1 s1 s' r a1 w1 Q k2 he ?_
      cases r with
      | some e => exact hQ.of k1 k3 k4
      | none => exact fun E' a' w' q1 q2 q3 q4 => hQ E' a' w' (Env.le_trans k1 q1) q2 (q3.trans k3) (Nat.le_trans k4 q4)
    · exact ih E s s' r a w Q h he hQ
theorem evCode2_wp (hP : Plainly P) (hm : P.follows .mixedOrders = true) {call : Call2} (hcall : CallOK P w0 call) {nt : Nat} (hB : nt ≤ 1073741824) : ∀ (n : Nat) (c : Code) (E : Env) (s s' : St) (e : Ex2) (a : Act) (w : World) (Q : Exit → Act → World → Prop),
    SR P w0 E nt s a w → evCode2 call P nt n c s = .ok (e, s') → Ends P w0 E nt s e s' Q → c.wp P Q a w ∧ ∀ d, c = .loop d → InL P d Q a w := by
  intro n
  induction n with
  | zero => intro c E s s' e a w Q _ he; simp [evCode2] at he
  | succ n ih =>
    intro c E s s' e a w Q h he hQ
    have self : ∀ {x : Ex2} {y : Exit}, e = x → s' = s → ExR E x y → Q y a w := fun {x y} h1 h2 h3 => by
      subst h1 h2; exact hQ E y a w E.le_refl h rfl (Nat.le_refl _) h3
    cases c with
    | skip =>
      simp only [evCode2, Tr.ok.injEq, Prod.mk.injEq] at he
      exact ⟨wp_skip (self he.1.symm he.2.symm trivial), fun d hd => by cases hd⟩
    | label l =>
      simp only [evCode2, Tr.ok.injEq, Prod.mk.injEq] at he
      exact ⟨wp_label (self he.1.symm he.2.symm trivial), fun d hd => by cases hd⟩
    | exit id =>
      simp only [evCode2, Tr.ok.injEq, Prod.mk.injEq] at he
      exact ⟨wp_exit (self he.1.symm he.2.symm rfl), fun d hd => by cases hd⟩
    | ret =>
      simp only [evCode2, Tr.ok.injEq, Prod.mk.injEq] at he
      exact ⟨wp_ret (self he.1.symm he.2.symm trivial), fun d hd => by cases hd⟩
    | region id ops draw =>
      refine ⟨?_, fun d hd => by cases hd⟩
      cases draw with
      | false =>
        simp only [evCode2] at he
        split at he
        · rename_i s1 hs
          simp only [Tr.ok.injEq, Prod.mk.injEq] at he
          obtain ⟨rfl, rfl⟩ := he
          exact wp_region_list (evOps2_wp hP hcall hB _ E s s1 none a w Q h hs hQ)
        · rename_i v s1 hs
          simp only [Tr.ok.injEq, Prod.mk.injEq] at he
          obtain ⟨rfl, rfl⟩ := he
          exact wp_region_list (evOps2_wp hP hcall hB _ E s s1 (some v) a w Q h hs hQ)
        · cases he
      | true =>
        simp only [evCode2] at he
        split at he
        · rename_i s1 hs
          simp only [Tr.ok.injEq, Prod.mk.injEq] at he
          obtain ⟨rfl, rfl⟩ := he
          exact evDrawn_wp hP hm hcall hB h hs fun E' a' w' k1 k2 k3 k4 => hQ E' .normal a' w' k1 k2 k3 k4 trivial
        · cases he
    | seq x y =>
      refine ⟨wp_seq ?_, fun d hd => by cases hd⟩
      simp only [evCode2] at he
      split at he
      · rename_i s1 hs
        refine (ih x E s s1 .normal a w _ h hs fun E' z a' w' k1 k2 k3 k4 k5 => ?_).1
        cases z with
        | normal => exact (ih y E' s1 s' e a' w' Q k2 he (hQ.of k1 k3 k4)).1
        | _ => exact k5.elim
      · rename_i r hno
        refine (ih x E s s' e a w _ h he fun E' z a' w' k1 k2 k3 k4 k5 => ?_).1
        have := hQ E' z a' w' k1 k2 k3 k4 k5
        cases z with
        | normal =>
          cases e with
          | normal => exact absurd he (hno _)
          | _ => exact k5.elim
        | _ => exact this
    | cond c x y =>
      refine ⟨?_, fun d hd => by cases hd⟩
      simp only [evCode2] at he
      split at he
      · rename_i hv
        have := ev_VR h.ar hv
        generalize hy : a.eval c = z at this
        cases this
        exact wp_cond_true hy (ih x E s s' e a w Q h he hQ).1
      · rename_i hv
        have := ev_VR h.ar hv
        generalize hy : a.eval c = z at this
        cases this
        exact wp_cond_false hy (ih y E s s' e a w Q h he hQ).1
      · cases he
    | block id x =>
      refine ⟨wp_block ?_, fun d hd => by cases hd⟩
      simp only [evCode2] at he
      split at he
      · rename_i i s1 hs
        have hb : ∀ Q', Ends P w0 E nt s (.exit i) s1 Q' → x.wp P Q' a w := fun Q' hQ' => (ih x E s s1 (.exit i) a w Q' h hs hQ').1
        refine hb _ fun E' z a' w' k1 k2 k3 k4 k5 => ?_
        cases z with
        | exit j =>
          cases k5
          simp only [Exit.inBlock]
          split at he
          · rename_i hi
            simp only [Tr.ok.injEq, Prod.mk.injEq] at he
            obtain ⟨rfl, rfl⟩ := he
            rw [if_pos hi]
            exact hQ E' .normal a' w' k1 k2 k3 k4 trivial
          · rename_i hi
            simp only [Tr.ok.injEq, Prod.mk.injEq] at he
            obtain ⟨rfl, rfl⟩ := he
            rw [if_neg hi]
            exact hQ E' (.exit i) a' w' k1 k2 k3 k4 rfl
        | _ => exact k5.elim
      · rename_i r hno
        refine (ih x E s s' e a w _ h he fun E' z a' w' k1 k2 k3 k4 k5 => ?_).1
        have := hQ E' z a' w' k1 k2 k3 k4 k5
        cases z with
        | exit j =>
          cases e with
          | exit i => exact absurd he (hno _ _)
          | _ => exact k5.elim
        | _ => exact this
    | loop x =>
      have key : InL P x Q a w := by
        simp only [evCode2] at he
        split at he
        · rename_i e1 s1 hs
          simp only [Tr.ok.injEq, Prod.mk.injEq] at he
          obtain ⟨rfl, rfl⟩ := he
          exact evLoop_wp (fun E s s' e a w Q h he hQ => (ih x E s s' e a w Q h he hQ).1) (24 + s.m.lo) E s s1 (some e1) a w Q h hs hQ
        · cases he
        · cases he
      exact ⟨key.wp, fun d hd => by injection hd with hd; exact hd ▸ key⟩
    | scope x =>
      refine ⟨wp_scope_straight ?_, fun d hd => by cases hd⟩
      simp only [evCode2] at he
      refine (ih x E s s' e a w _ h he fun E' z a' w' k1 k2 k3 k4 k5 => ?_).1
      have := hQ E' z a' w' k1 k2 k3 k4 k5
      cases z with
      | goto l => cases e <;> exact k5.elim
      | _ => exact this
    | _ => simp [evCode2] at he
end Go.Proofs.YtokbkninlbkhjaaGreatDoor.Ev
