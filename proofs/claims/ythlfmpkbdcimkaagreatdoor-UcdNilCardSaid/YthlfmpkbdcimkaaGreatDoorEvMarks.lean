/-
  A call that walks over a map, and whose outcome is the same row whichever way the walk goes: its outcomes are brought to one.
-/
import Derived.Test.YthlfmpkbdcimkaaGreatDoorEvNd
namespace Go.Proofs.YthlfmpkbdcimkaaGreatDoor.Ev
open Go.RowKit
set_option linter.unusedSimpArgs false

variable {P : Program} {w0 w : World} {E : Env} {m : Mem}

/-! ### all outcomes of a call -/
def evFnN (sm : Sums) (P : Program) (steps n : Nat) (f : FuncId) (l : List Value) (m : Mem) : Tr (List (Out × Mem)) :=
  match P.funcs[f]? with
  | some fn => match fn.body with
    | some c => if Nat.ble fn.ntmps 1073741824 && Nat.ble l.length fn.ntmps then
        match evCodeN (evCall3 sm P steps n false) (evCall3 sm P steps n true) P fn.ntmps steps c ⟨T.leaf.fill 0 l, [], m⟩ with
        | .ok L => bindT L fun x => match x.1 with
          | .normal | .ret => (match evEnd (evCall3 sm P steps n false) (evCall3 sm P steps n true) P steps fn f x.2 none with
            | .ok r => .ok [r]
            | .bad l => .bad l)
          | _ => .bad [f, 7]
        | .bad l => .bad (f :: l)
      else .bad [f, 12]
    | none => .bad [f, 9]
  | none => .bad [f, 10]
theorem evFnN_ok (hP : Plainly P) (hm : P.follows .mixedOrders = true) {sm : Sums} (hsm : SumOK P w0 sm) {steps n : Nat} {f : FuncId} {l : List Value} {L : List (Out × Mem)} (he : evFnN sm P steps n f l m = .ok L) :
    (∃ fn, P.funcs[f]? = some fn ∧ fn.body.isSome = true) ∧ ∀ (E : Env) (w : World) (args : Array Value), HR P w0 E m.H m.next w → m.lo ≤ m.next → VRL E l args.toList →
      Calls P f args w fun e w' => ∃ r ∈ L, ∃ E', E.le E' ∧ HR P w0 E' r.2.H r.2.next w' ∧ r.2.lo = m.lo ∧ m.next ≤ r.2.next ∧ OutR E' r.1 e := by
  obtain ⟨ih, ihr⟩ := evCall3_ok hP hm hsm steps n
  unfold evFnN at he
  split at he
  · rename_i fn hf
    split at he
    · rename_i c hb
      split at he
      · rename_i hc
        simp only [Bool.and_eq_true, Nat.ble_eq] at hc
        split at he
        · rename_i L1 hL1
          refine ⟨⟨fn, hf, by rw [hb]; rfl⟩, fun E w args h hlo hargs => ?_⟩
          refine calls_of_wp_W hf hb ((wpIn_WF (n := 0)).1 ?_)
          have hsr : SR P w0 E fn.ntmps ⟨T.leaf.fill 0 l, [], m⟩ { tmps := args ++ Array.replicate (fn.ntmps - args.size) Go.undef, defers := [] } w := by
            refine ⟨h, hlo, ?_, .nil⟩
            have := AR.enter E h.glob hargs fn.ntmps (by omega) hc.2
            simpa using this
          refine evCodeN_wp hP hm ih ihr hc.1 steps c E _ L1 _ w _ hsr hL1 fun y hy E' x a' w' k1 k2 k3 k4 k5 => ?_
          obtain ⟨l', q1, q2⟩ := bindT_mem _ _ he y hy
          obtain ⟨e, s⟩ := y
          have fin : ∀ r, evEnd (evCall3 sm P steps n false) (evCall3 sm P steps n true) P steps fn f s none = .ok r → r ∈ L →
              LeavesW P fn a'.tmps (fun e w' => ∃ r ∈ L, ∃ E', E.le E' ∧ HR P w0 E' r.2.H r.2.next w' ∧ r.2.lo = m.lo ∧ m.next ≤ r.2.next ∧ OutR E' r.1 e) a'.defers .returning w' := fun r hr hrL => by
            obtain ⟨out, m'⟩ := r
            have := evEnd_run (E0 := E) (m := m) hP hm ih ihr hr k2 (um := .returning) rfl k1 k3 k4
            refine LeavesW.mono this fun e w' hh => ?_
            obtain ⟨E'', z⟩ := hh
            exact ⟨_, hrL, E'', z⟩
          cases e with
          | normal =>
            simp only at q1
            split at q1
            · rename_i r hr
              injection q1 with q1
              subst q1
              cases x with
              | normal => exact fin r hr (q2 r (List.mem_singleton.2 rfl))
              | _ => exact k5.elim
            · cases q1
          | ret =>
            simp only at q1
            split at q1
            · rename_i r hr
              injection q1 with q1
              subst q1
              cases x with
              | ret => exact fin r hr (q2 r (List.mem_singleton.2 rfl))
              | _ => exact k5.elim
            · cases q1
          | exit i => cases q1
          | pan v => cases q1
        · cases he
      · cases he
    · cases he
  · cases he

/-! ### one row for all -/
/-- The rows that cells name get other numbers. -/
def renParts (base : Nat) : List Value → Nat → T AObj → Option (List Value × Nat × T AObj × List AObj)
  | [], Q, H => some ([], Q, H, [])
  | .slice (some ⟨q, 0, none⟩) k kc :: r, Q, H => match H.get q with
    | some ob => if Nat.ble base q && Nat.ble 64 q && Nat.blt Q 1073741824 && Nat.blt q 1073741824 then match renParts base r (Q + 1) ((H.del q).set Q ob) with
        | some (vs, Q', H', obs) => some (.slice (some ⟨Q, 0, none⟩) k kc :: vs, Q', H', ob :: obs)
        | none => none else none
    | none => none
  | v :: r, Q, H => if clean v then match renParts base r Q H with
      | some (vs, Q', H', obs) => some (v :: vs, Q', H', obs)
      | none => none else none
def putParts : T AObj → Nat → List AObj → T AObj
  | H, _, [] => H
  | H, Q, ob :: r => putParts (H.set Q ob) (Q + 1) r
theorem HR.upto {H : T AObj} {next q : Nat} (h : HR P w0 E H next w) (hq : next ≤ q) : HR P w0 E H q w :=
  ⟨h.below, fun i b hb => by have := h.dom i b hb; exact ⟨by omega, this.2⟩, h.glob, h.inj, fun i hi => by have := h.ph i hi; exact ⟨by omega, this.2⟩, h.born⟩
/-- A part's block gets its other number. -/
theorem part_name {Q q base : Nat} {H : T AObj} {ob : AObj} (h : HR P w0 E H Q w) (hph : ∀ i, E.ph i = true → i < base) (hg : H.get q = some ob) (c1 : base ≤ q) (c2 : 64 ≤ q) (c3 : Q < 1073741824) (c4 : q < 1073741824) :
    ∃ b, E.blk q = some b ∧ E.le (E.more Q b (E.cap q)) ∧ HR P w0 (E.more Q b (E.cap q)) ((H.del q).set Q ob) (Q + 1) w := by
  have hpq : E.ph q = false := by
    cases hp : E.ph q with
    | false => rfl
    | true => have := hph q hp; omega
  obtain ⟨b, rr, hb, hr1, hr2⟩ := h.born q ob hg hpq
  have hle1 := Env.le_more_ge h (Nat.le_refl Q) b (E.cap q)
  refine ⟨b, hb, hle1, ?_⟩
  exact h.name (H' := H.del q) (c := E.cap q) (o' := ob) (Nat.le_refl Q) c3 c2 hb hg (fun i o hi => by
    rw [T.get_del _ _ c4] at hi
    split at hi
    · cases hi
    · exact ⟨hi, by assumption⟩) (fun r hr hor => by
    -- the same block under the other number
    cases ob with
    | cells cs n el g =>
      obtain ⟨arr, ⟨fz, el', z1, z2, z3⟩, hsz, hc'⟩ := hor
      refine ⟨arr, ⟨fz, el', z1, fun _ => z2 c2, z3⟩, ?_, fun j v hj hv => ?_⟩
      · unfold sizeOk at hsz ⊢
        simp only [Env.more, if_true]
        exact hsz
      · obtain ⟨v', x1, x2⟩ := hc' j v hj hv
        exact ⟨v', x1, x2.mono hle1⟩
    | map es cl => obtain ⟨arr, e, hs⟩ := hor; exact ⟨arr, e, hs.mono hle1⟩
    | iter s p => exact hor
    | miter mi a b c =>
      cases mi with
      | none => exact hor
      | some j => obtain ⟨b', y1, y2⟩ := hor; exact ⟨b', (hle1.to j b' y1).1, y2⟩
    | loop tm nt ps asg body dfr st pend =>
      obtain ⟨fn, tmps, bd, y1, y2, y3, y4⟩ := hor
      exact ⟨fn, tmps, bd, (hle1.to dfr bd y1).1, y2, fun t => (y3 t).mono hle1, y4⟩
    | dfr => exact hor)
theorem part_val {Q q b k kc : Nat} {E1 E2 E3 : Env} (hb : E.blk q = some b) (h1 : E1 = E.more Q b (E.cap q)) (hle1 : E.le E1) (k1 : E1.le E2) (hle : E2.le E3) {v' : Value} (hvr : VR E3 (.slice (some ⟨q, 0, none⟩) k kc) v') : VR E3 (.slice (some ⟨Q, 0, none⟩) k kc) v' := by
  subst h1
  have hle3 := Env.le_trans k1 hle
  have hq3 := (Env.le_trans hle1 hle3).to q b hb
  have hQ3 := hle3.to Q b (by simp [Env.more])
  cases hvr with
  | @slice _ b' _ _ _ c' hb' hcap =>
    rw [hq3.1] at hb'
    injection hb' with hb'
    subst hb'
    refine .slice 0 _ hQ3.1 ?_
    unfold capOf at hcap ⊢
    rw [hq3.2] at hcap
    rw [hQ3.2]
    simp only [Env.more, if_true]
    exact hcap
theorem renParts_ok {base : Nat} : ∀ (us : List Value) (Q : Nat) (H : T AObj) (vs : List Value) (Q2 : Nat) (H2 : T AObj) (obs : List AObj) (E : Env), renParts base us Q H = some (vs, Q2, H2, obs) → HR P w0 E H Q w → (∀ i, E.ph i = true → i < base) →
    ∃ E2, E.le E2 ∧ HR P w0 E2 H2 Q2 w ∧ Q ≤ Q2 ∧ vs.length = us.length ∧ ∀ (j : Nat) (u v : Value), us[j]? = some u → vs[j]? = some v → ∀ E3 v', E2.le E3 → VR E3 u v' → VR E3 v v' := by
  intro us
  induction us with
  | nil =>
    intro Q H vs Q2 H2 obs E he h _
    simp only [renParts, Option.some.injEq, Prod.mk.injEq] at he
    obtain ⟨rfl, rfl, rfl, rfl⟩ := he
    exact ⟨E, E.le_refl, h, Nat.le_refl _, rfl, fun j u v hu => by simp at hu⟩
  | cons u us ih =>
    intro Q H vs Q2 H2 obs E he h hph
    have plain : (if clean u then match renParts base us Q H with
        | some (vs, Q', H', obs) => some (u :: vs, Q', H', obs)
        | none => none else none) = some (vs, Q2, H2, obs) → ∃ E2, E.le E2 ∧ HR P w0 E2 H2 Q2 w ∧ Q ≤ Q2 ∧ vs.length = (u :: us).length ∧ ∀ (j : Nat) (u' v : Value), (u :: us)[j]? = some u' → vs[j]? = some v → ∀ E3 v', E2.le E3 → VR E3 u' v' → VR E3 v v' := fun he => by
      split at he
      · split at he
        · rename_i vs1 Q1 H1 obs1 h1
          simp only [Option.some.injEq, Prod.mk.injEq] at he
          obtain ⟨rfl, rfl, rfl, rfl⟩ := he
          obtain ⟨E2, k1, k2, k3, k4, k5⟩ := ih Q H vs1 Q1 H1 obs1 E h1 h hph
          refine ⟨E2, k1, k2, k3, by simp [k4], fun j u' v hu hv E3 v' hle hvr => ?_⟩
          cases j with
          | zero =>
            simp only [List.getElem?_cons_zero, Option.some.injEq] at hu hv
            subst hu hv
            exact hvr
          | succ j => exact k5 j u' v (by simpa using hu) (by simpa using hv) E3 v' hle hvr
        · cases he
      · cases he
    unfold renParts at he
    split at he
    · rename_i heq; cases heq
    · rename_i q k kc r heq
      injection heq with e1 e2
      subst e1 e2
      split at he
      · rename_i ob hg
        split at he
        · rename_i hc
          simp only [Bool.and_eq_true, Nat.ble_eq, Nat.blt_eq] at hc
          obtain ⟨⟨⟨c1, c2⟩, c3⟩, c4⟩ := hc
          split at he
          · rename_i vs1 Q1 H1 obs1 h1
            simp only [Option.some.injEq, Prod.mk.injEq] at he
            obtain ⟨rfl, rfl, rfl, rfl⟩ := he
            obtain ⟨b, hb, hle1, hn⟩ := part_name h hph hg c1 c2 c3 c4
            obtain ⟨E2, k1, k2, k3, k4, k5⟩ := ih _ _ vs1 Q1 H1 obs1 _ h1 hn (fun i hi => hph i hi)
            refine ⟨E2, Env.le_trans hle1 k1, k2, by omega, by simp [k4], fun j u' v hu hv E3 v' hle hvr => ?_⟩
            cases j with
            | zero =>
              simp only [List.getElem?_cons_zero, Option.some.injEq] at hu hv
              subst hu hv
              exact part_val hb rfl hle1 k1 hle hvr
            | succ j => exact k5 j u' v (by simpa using hu) (by simpa using hv) E3 v' hle hvr
          · cases he
        · cases he
      · cases he
    · rename_i v r hno heq
      injection heq with e1 e2
      subst e1 e2
      exact plain he
structure Canon where
  n : Nat
  c : Nat
  nb : Nat
  elem : TypeId
  g : Bool
  vs : List Value
  obs : List AObj
  Q : Nat
def canonOne (m : Mem) (Q : Nat) : Out × Mem → Option Canon
  | (.ret (.slice (some ⟨p, 0, none⟩) n c), m1) => match m1.H.get p with
    | some (.cells cs nb elem g) => match cs.take 0 nb with
      | some us => if Nat.ble m1.next Q && Nat.ble m.next p && Nat.ble 64 p && Nat.blt p Q then match renParts m.next us Q m1.H with
          | some (vs, Q2, H2, obs) => match H2.get p with
            | some o => if aeq (.cells cs nb elem g) o && agreeT (putParts m.H Q obs) H2 && ((putParts m.H Q obs).get p).isNone && Nat.blt Q2 1073741824 && Nat.ble nb 1073741824 then some ⟨n, c, nb, elem, g, vs, obs, Q2⟩ else none
            | none => none
          | none => none else none
      | none => none
    | _ => none
  | _ => none
def aeqL : List AObj → List AObj → Bool
  | [], [] => true
  | a :: r, b :: s => aeq a b && aeqL r s
  | _, _ => false
theorem aeqL_eq : ∀ (x y : List AObj), aeqL x y = true → x = y := by
  intro x
  induction x with
  | nil => intro y h; cases y with | nil => rfl | cons _ _ => simp [aeqL] at h
  | cons a x ih =>
    intro y h
    cases y with
    | nil => simp [aeqL] at h
    | cons b y => simp only [aeqL, Bool.and_eq_true] at h; rw [aeq_eq h.1, ih y h.2]
def canonEq (a b : Canon) : Bool := Nat.beq a.n b.n && Nat.beq a.c b.c && Nat.beq a.nb b.nb && Nat.beq a.elem b.elem && (a.g == b.g) && veqL a.vs b.vs && aeqL a.obs b.obs && Nat.beq a.Q b.Q
theorem canonEq_eq {a b : Canon} (h : canonEq a b = true) : a = b := by
  unfold canonEq at h
  simp only [Bool.and_eq_true, beq_iff_eq] at h
  obtain ⟨⟨⟨⟨⟨⟨⟨h1, h2⟩, h3⟩, h4⟩, h5⟩, h6⟩, h7⟩, h8⟩ := h
  obtain ⟨n, c, nb, elem, g, vs, obs, Q⟩ := a
  obtain ⟨n', c', nb', elem', g', vs', obs', Q'⟩ := b
  simp only at h1 h2 h3 h4 h5 h6 h7 h8
  rw [Nat.eq_of_beq_eq_true h1, Nat.eq_of_beq_eq_true h2, Nat.eq_of_beq_eq_true h3, Nat.eq_of_beq_eq_true h4, h5, veqL_eq _ _ h6, aeqL_eq _ _ h7, Nat.eq_of_beq_eq_true h8]
def isCanon (m : Mem) (Q : Nat) (k : Canon) (r : Out × Mem) : Bool :=
  match canonOne m Q r with
  | some k' => canonEq k' k
  | none => false
def topOf : List (Out × Mem) → Nat
  | [] => 0
  | r :: l => Nat.max r.2.next (topOf l)
def canonOut (m : Mem) (Q : Nat) (k : Canon) : Out × Mem :=
  (.ret (.slice (some ⟨k.Q, 0, none⟩) k.n k.c), { m with H := (putParts m.H Q k.obs).set k.Q (.cells (T.leaf.fill 0 k.vs) k.nb k.elem k.g), next := k.Q + 1 })
def walkSum (fi : FuncId) (sm : Sums) (P : Program) (steps n : Nat) : Sums := fun f l m =>
  if Nat.beq f fi then match evFnN sm P steps n f l m with
    | .ok (r :: L) => match canonOne m (topOf (r :: L)) r with
      | some k => if (r :: L).all (isCanon m (topOf (r :: L)) k) then some (canonOut m (topOf (r :: L)) k) else none
      | none => none
    | _ => none
  else none
theorem canonOne_ok {Q : Nat} {r : Out × Mem} {k : Canon} (he : canonOne m Q r = some k) {E E' : Env} {w' : World} (hE : E.le E') (h0 : ∀ i, E.ph i = true → i < m.next) (h : HR P w0 E' r.2.H r.2.next w') {e : Ending} (ho : OutR E' r.1 e) :
    ∃ E'', E.le E'' ∧ HR P w0 E'' (canonOut m Q k).2.H (canonOut m Q k).2.next w' ∧ m.next ≤ (canonOut m Q k).2.next ∧ OutR E'' (canonOut m Q k).1 e := by
  unfold canonOne at he
  split at he
  · rename_i p n c m1
    split at he
    · rename_i cs nb elem g hg
      split at he
      · rename_i us hus
        split at he
        · rename_i hc
          simp only [Bool.and_eq_true, Nat.ble_eq, Nat.blt_eq] at hc
          obtain ⟨⟨⟨c1, c2⟩, c3⟩, c4⟩ := hc
          split at he
          · rename_i vs Q2 H2 obs hren
            split at he
            · rename_i o hg2
              split at he
              · rename_i hc2
                simp only [Bool.and_eq_true, Nat.blt_eq, Nat.ble_eq, Option.isNone_iff_eq_none] at hc2
                obtain ⟨⟨⟨⟨d1, d2⟩, d3⟩, d4⟩, d5⟩ := hc2
                injection he with he
                subst he
                have := aeq_eq d1
                subst this
                have hph : ∀ i, E'.ph i = true → i < m.next := fun i hi => h0 i (by rw [← hE.ph]; exact hi)
                obtain ⟨E2, k1, k2, k3, k4, k5⟩ := renParts_ok us Q m1.H vs Q2 H2 obs E' hren (h.upto c1) hph
                cases e with
                | panicked _ => exact ho.elim
                | outgrown => exact ho.elim
                | returned v' =>
                  cases ho with
                  | @slice _ bp _ _ _ cp' hbp hcp =>
                  have hbp2 := (k1.to p bp hbp).1
                  have hle2 := Env.le_more_ge k2 (Nat.le_refl Q2) bp (E2.cap p)
                  obtain ⟨t1, t2⟩ := T.take_spec _ _ _ _ hus
                  refine ⟨E2.more Q2 bp (E2.cap p), Env.le_trans hE (Env.le_trans k1 hle2), ?_, by simp only [canonOut]; omega, ?_⟩
                  · refine k2.name (Nat.le_refl Q2) d4 c3 hbp2 hg2 (fun j u hj => ⟨agreeT_get _ _ d2 j u hj, fun ej => ?_⟩) fun r hr hor => ?_
                    · subst ej; rw [d3] at hj; cases hj
                    · obtain ⟨arr, ⟨fz, el', z1, z2, z3⟩, hsz, hc'⟩ := hor
                      refine ⟨arr, ⟨fz, el', z1, fun _ => z2 c3, z3⟩, ?_, fun j v hj hv => ?_⟩
                      · unfold sizeOk at hsz ⊢
                        simp only [Env.more, if_true]
                        exact hsz
                      · have hvl : vs.length = nb := by rw [k4, t1]
                        simp only at hj
                        have hv : (T.leaf.fill 0 vs).get j = some v := hv
                        rw [T.get_fill _ _ _ _ (by omega), if_pos (by omega)] at hv
                        simp only [Nat.sub_zero] at hv
                        have hj' : j < us.length := by omega
                        have hu : us[j]? = some us[j] := List.getElem?_eq_getElem hj'
                        have h3 := t2 j _ hu
                        rw [Nat.zero_add] at h3
                        obtain ⟨v', x1, x2⟩ := hc' j _ hj h3
                        exact ⟨v', x1, k5 j _ v hu hv _ v' hle2 (x2.mono hle2)⟩
                  · refine .slice 0 _ (by simp [Env.more]) ?_
                    have := (k1.to p bp hbp).2
                    unfold capOf at hcp ⊢
                    simp only [Env.more, if_true]
                    rw [this]
                    exact hcp
              · cases he
            · cases he
          · cases he
        · cases he
      · cases he
    · cases he
  · cases he
theorem walkSum_ok (hP : Plainly P) (hm : P.follows .mixedOrders = true) {sm : Sums} (hsm : SumOK P w0 sm) (fi : FuncId) (steps n : Nat) : SumOK P w0 (walkSum fi sm P steps n) := by
  intro f l m out m' he
  unfold walkSum at he
  split at he
  · split at he
    · rename_i r L hL
      split at he
      · rename_i k hk
        split at he
        · rename_i hall
          injection he with he
          obtain ⟨hfn, hC⟩ := evFnN_ok hP hm hsm hL
          refine ⟨hfn, fun E w args h hlo hargs => Calls.mono (hC E w args h hlo hargs) fun e w' ⟨r', hr', E', k1, k2, k3, k4, k5⟩ => ?_⟩
          have hone := List.all_eq_true.1 hall r' hr'
          unfold isCanon at hone
          split at hone
          · rename_i k' hk'
            have := canonEq_eq hone
            subst this
            obtain ⟨E'', q1, q2, q3, q4⟩ := canonOne_ok hk' k1 (fun i hi => (h.ph i hi).1) k2 k5
            have e1 : (canonOut m (topOf (r :: L)) k').1 = out := by rw [he]
            have e2 : (canonOut m (topOf (r :: L)) k').2 = m' := by rw [he]
            rw [e1] at q4
            rw [e2] at q2 q3
            exact ⟨E'', q1, q2, by rw [← e2]; rfl, q3, q4⟩
          · cases hone
        · cases he
      · cases he
    · cases he
  · cases he
end Go.Proofs.YthlfmpkbdcimkaaGreatDoor.Ev
