/-
  Regions whose order is drawn: in whatever order, the outcome is the one of the text's order.
-/
import Derived.Test.YtlkdjdcnbcegeaaGreatDoorKAL
import Derived.Scope
import Derived.Recover
import Derived.LaidLaws
import Derived.Lay
import Derived.LaidMore
import Derived.LaidHandle
import Derived.Stop.Joined
import Derived.Carry
/-! Regions whose order is drawn: in whatever order, the outcome is the one of the text's order. -/
namespace Go.Proofs.YtlkdjdcnbcegeaaGreatDoor.Ev
open Go.RowKit
set_option linter.unusedSimpArgs false

variable {P : Program} {w0 w : World} {E : Env} {m : Mem} {ops : Array Oper}

theorem Env.le.trans2 {A B C : Env} (h : A.le B) (k : B.le C) : A.le C := Env.le_trans h k
theorem AR.congr {tm tm' : T Value} {nt : Nat} {a : Act} (h : AR E tm nt a) (e : ∀ t, tm'.get t = tm.get t) : AR E tm' nt a := ⟨h.glob, h.size, fun t => by rw [e t]; exact h.get t⟩
theorem AR.putE {tm : T Value} {nt : Nat} {a : Act} (h : AR E tm nt a) {dst : Option Tmp} {v v' : Value} (hd : ∀ d, dst = some d → d < nt) (hB : nt ≤ 1073741824) (hv : VR E v v') : AR E (putE tm dst v) nt (a.put dst v') := by
  cases dst with
  | none => exact h
  | some d => exact h.put (hd d rfl) (Nat.lt_of_lt_of_le (hd d rfl) hB) hv
/-- Where a run in any order stands. -/
structure DInv (P : Program) (w0 : World) (E0 : Env) (nt : Nat) (ops : Array Oper) (fl : List Fr) (L : PL) (m0 : Mem) (ms : List Mem) (tm0 tmF : T Value) (df : List Df) (listed : Array Bool) (E : Env) (k : Nat) (a : Act) (w : World) : Prop where
  clo : ∀ x ∈ L, listed.getD x.1 true = true → ∀ y ∈ L, waits x.2.1 y.1 = true → listed.getD y.1 true = true
  rk : ∀ x ∈ L, x.2.2.act = true → (listed.getD x.1 true = true ↔ x.2.2.rank < k)
  lo : ∀ x ∈ L, x.2.2.act = false → listed.getD x.1 true = true → x.2.2.lo ≤ k
  hi : ∀ x ∈ L, x.2.2.act = false → listed.getD x.1 true = false → k ≤ x.2.2.hi
  kn : k ≤ ms.length
  mem : ∃ mk, (m0 :: ms)[k]? = some mk ∧ HR P w0 E mk.H mk.next w ∧ mk.lo ≤ mk.next ∧ mk.lo = m0.lo ∧ m0.next ≤ mk.next
  tmx : ∃ tmx, AR E tmx nt a ∧ (∀ x ∈ L, listed.getD x.1 true = true → ∀ d, x.2.1.dst = some d → tmx.get d = tmF.get d) ∧ (∀ t, (∀ x ∈ L, listed.getD x.1 true = true → x.2.1.dst ≠ some t) → tmx.get t = tm0.get t)
  df : DR P E df a.defers
  to : E0.To E
  phs : ∀ i, E.ph i = true ↔ (E0.ph i = true ∨ ∃ f ∈ fl, f.2.2.1 = i ∧ listed.getD f.1 true = false)
theorem getD_false_true {l : Array Bool} {i : Nat} (h : l.getD i false = true) : l.getD i true = true := by
  cases hi : l[i]? with
  | none => simp [hi] at h
  | some b => simpa [hi] using h
theorem getD_true_false {l : Array Bool} {i : Nat} (hs : i < l.size) (h : l.getD i true = true) : l.getD i false = true := by
  simpa [hs] using h
theorem getD_set_self {l : Array Bool} {i : Nat} : (l.setIfInBounds i true).getD i true = true := by
  by_cases hi : i < l.size
  · simp [hi]
  · simp [hi]
theorem all_listed {listed : Array Bool} (hsz : listed.size = ops.size) {nt n : Nat} {L : PL} (hp : PlanOK P nt ops n L) (h : Region.ready .any ops listed = []) : ∀ i, i < ops.size → listed.getD i true = true := by
  intro i
  induction i using Nat.strongRecOn with
  | _ i ih =>
    intro hi
    cases hl : listed.getD i true with
    | true => rfl
    | false =>
      exfalso
      have : i ∈ Region.ready .any ops listed := by
        rw [mem_ready]
        refine ⟨hl, ops[i], by simp [hi], fun e he hb => ?_⟩
        obtain ⟨p, hx⟩ := hp.here i ops[i] (by simp [hi])
        have hlt : e.on < i := hp.edge (x := (i, ops[i], p)) (List.mem_of_getElem? hx) (waits_iff.2 ⟨e, he, hb, rfl⟩)
        exact getD_true_false (by omega) (ih e.on hlt (by omega))
      rw [h] at this
      cases this
/-- One more is listed: the same, but for what it yields. -/
theorem DInv.step {E0 : Env} {nt n : Nat} {fl : List Fr} {L : PL} (hp : PlanOK P nt ops n L) {m0 : Mem} {ms : List Mem} {tm0 tmF : T Value} {df : List Df} {listed : Array Bool} {E E' : Env} {k k' : Nat} {a a' : Act} {w w' : World}
    (h : DInv P w0 E0 nt ops fl L m0 ms tm0 tmF df listed E k a w) {x : Nat × Oper × Plan} (hx : x ∈ L) (hun : listed.getD x.1 true = false) (hready : ∀ y ∈ L, waits x.2.1 y.1 = true → listed.getD y.1 true = true)
    (hk : (x.2.2.act = true ∧ x.2.2.rank = k ∧ k' = k + 1 ∧ k < ms.length) ∨ (x.2.2.act = false ∧ k' = k)) (hn : ms.length = n)
    (hrank : ∀ y ∈ L, y.2.2.act = true → y.2.2.rank = x.2.2.rank → x.2.2.act = true → y = x)
    (hE : E.To E') (hphs : ∀ i, E'.ph i = true ↔ (E0.ph i = true ∨ ∃ f ∈ fl, f.2.2.1 = i ∧ (listed.setIfInBounds x.1 true).getD f.1 true = false)) (hmem : ∃ mk, (m0 :: ms)[k']? = some mk ∧ HR P w0 E' mk.H mk.next w' ∧ mk.lo ≤ mk.next ∧ mk.lo = m0.lo ∧ m0.next ≤ mk.next)
    {v v' : Value} (hv : VR E' v v') (hF : ∀ d, x.2.1.dst = some d → tmF.get d = some v) (hB : nt ≤ 1073741824) (ha : a' = a.put x.2.1.dst v') :
    DInv P w0 E0 nt ops fl L m0 ms tm0 tmF df (listed.setIfInBounds x.1 true) E' k' a' w' := by
  have hdst : ∀ d, x.2.1.dst = some d → d < nt := fun d hd => hp.dst hx hd
  have hset : ∀ y ∈ L, (listed.setIfInBounds x.1 true).getD y.1 true = true ↔ (y = x ∨ listed.getD y.1 true = true) := fun y hy => by
    by_cases e : y.1 = x.1
    · have := hp.eq_of hy hx e
      subst this
      exact ⟨fun _ => .inl rfl, fun _ => getD_set_self⟩
    · rw [getD_set_ne true (Ne.symm e)]
      exact ⟨.inr, fun k => k.resolve_left fun e' => e (by rw [e'])⟩
  have hlx : x.2.2.act = false → x.2.2.lo ≤ k := fun hax => by
    rcases hp.lo hx hax with e | ⟨y, hy, hw, e⟩
    · omega
    · have hly := hready y hy hw
      rcases e with ⟨hay, e⟩ | ⟨hay, e⟩
      · have := (h.rk y hy hay).1 hly; omega
      · have := h.lo y hy hay hly; omega
  refine ⟨fun y hy hly z hz hw => ?_, fun y hy hay => ?_, fun y hy hay hly => ?_, ?_, ?_, hmem, ?_, ?_, h.to.trans hE, hphs⟩
  · rcases (hset y hy).1 hly with rfl | hly
    · exact (hset z hz).2 (.inr (hready z hz hw))
    · exact (hset z hz).2 (.inr (h.clo y hy hly z hz hw))
  · rw [hset y hy]
    rcases hk with ⟨hax, hr, rfl, _⟩ | ⟨hax, rfl⟩
    · constructor
      · rintro (rfl | k1)
        · omega
        · have := (h.rk y hy hay).1 k1; omega
      · intro hlt
        by_cases e : y.2.2.rank = k
        · exact .inl (hrank y hy hay (by omega) hax)
        · exact .inr ((h.rk y hy hay).2 (by omega))
    · constructor
      · rintro (rfl | k1)
        · rw [hay] at hax; cases hax
        · exact (h.rk y hy hay).1 k1
      · exact fun k1 => .inr ((h.rk y hy hay).2 k1)
  · rcases (hset y hy).1 hly with rfl | hly
    · have := hlx hay
      rcases hk with ⟨_, _, rfl, _⟩ | ⟨_, rfl⟩ <;> omega
    · have := h.lo y hy hay hly
      rcases hk with ⟨_, _, rfl, _⟩ | ⟨_, rfl⟩ <;> omega
  · have key : ∀ (b : Nat) (y : Nat × Oper × Plan), y ∈ L → L.length - y.1 ≤ b → y.2.2.act = false → (listed.setIfInBounds x.1 true).getD y.1 true = false → k' ≤ y.2.2.hi := by
      intro b
      induction b with
      | zero =>
        intro y hy hb _ _
        have := hp.mem_at hy
        have := (List.getElem?_eq_some_iff.1 this).1
        omega
      | succ b ih =>
        intro y hy hb hay hun'
        have hnl : ¬ (y = x ∨ listed.getD y.1 true = true) := fun e => by rw [(hset y hy).2 e] at hun'; cases hun'
        have hyl : listed.getD y.1 true = false := by simpa using fun e => hnl (.inr e)
        have h0 := h.hi y hy hay hyl
        rcases hk with ⟨hax, hr, rfl, hkl⟩ | ⟨_, rfl⟩
        · by_cases e : y.2.2.hi = k
          · exfalso
            rcases hp.hi hy hay with e1 | ⟨z, hz, hw, e1⟩
            · omega
            · rcases e1 with ⟨haz, e1⟩ | ⟨haz, e1⟩
              · by_cases e2 : z.2.2.rank = k
                · have := hrank z hz haz (by omega) hax
                  subst this
                  rw [hready y hy hw] at hyl; cases hyl
                · have hlz := (h.rk z hz haz).2 (by omega)
                  have := h.clo z hz hlz y hy hw
                  rw [this] at hyl; cases hyl
              · have hzl : (listed.setIfInBounds x.1 true).getD z.1 true = false := by
                  cases hq : (listed.setIfInBounds x.1 true).getD z.1 true with
                  | false => rfl
                  | true =>
                    rcases (hset z hz).1 hq with rfl | hq
                    · rw [haz] at hax; cases hax
                    · have := h.clo z hz hq y hy hw
                      rw [this] at hyl; cases hyl
                have hlt := hp.edge hz hw
                have h1 := (List.getElem?_eq_some_iff.1 (hp.mem_at hz)).1
                have := ih z hz (by omega) haz hzl
                omega
          · omega
        · exact h0
    exact fun y hy hay hun' => key _ y hy (Nat.le_refl _) hay hun'
  · rcases hk with ⟨_, _, rfl, hkl⟩ | ⟨_, rfl⟩
    · exact hkl
    · exact h.kn
  · obtain ⟨tmx, h1, h2, h3⟩ := h.tmx
    refine ⟨putE tmx x.2.1.dst v, by rw [ha]; exact (h1.monoT hE).putE hdst hB hv, fun y hy hly d hd => ?_, fun t ht => ?_⟩
    · rw [putE_get fun d hd => Nat.lt_of_lt_of_le (hdst d hd) hB]
      by_cases e : x.2.1.dst = some d
      · rw [if_pos e, hF d e]
      · rw [if_neg e]
        rcases (hset y hy).1 hly with rfl | hly
        · exact absurd hd e
        · exact h2 y hy hly d hd
    · rw [putE_get fun d hd => Nat.lt_of_lt_of_le (hdst d hd) hB, if_neg (ht x hx ((hset x hx).2 (.inl rfl)))]
      exact h3 t fun y hy hly => ht y hy ((hset y hy).2 (.inr hly))
  · rw [ha]
    have : (a.put x.2.1.dst v').defers = a.defers := by cases x.2.1.dst <;> rfl
    rw [this]
    exact h.df.monoT hE

theorem DInv.lo_le {E0 : Env} {nt n : Nat} {fl : List Fr} {L : PL} (hp : PlanOK P nt ops n L) {m0 : Mem} {ms : List Mem} {tm0 tmF : T Value} {df : List Df} {listed : Array Bool} {k : Nat} {a : Act}
    (h : DInv P w0 E0 nt ops fl L m0 ms tm0 tmF df listed E k a w) {x : Nat × Oper × Plan} (hx : x ∈ L) (hready : ∀ y ∈ L, waits x.2.1 y.1 = true → listed.getD y.1 true = true) (hax : x.2.2.act = false) : x.2.2.lo ≤ k := by
  rcases hp.lo hx hax with e | ⟨y, hy, hw, e⟩
  · omega
  · have hly := hready y hy hw
    rcases e with ⟨hay, e⟩ | ⟨hay, e⟩
    · have := (h.rk y hy hay).1 hly; omega
    · have := h.lo y hy hay hly; omega
theorem drawn_any (hP : Plainly P) {call rnd : Call2} (hcall : CallOK P w0 call) (hrnd : RndOK P w0 rnd) {ro : Option Nat} {E0 : Env} {nt n : Nat} (hB : nt ≤ 1073741824) {fl : List Fr} {L : PL} (hp : PlanOK P nt ops n L) {mb m0 : Mem} (hlain : Lain P L mb m0 fl) (hfresh : ∀ i, E0.ph i = true → i < mb.next) {ms : List Mem} {vs : List (Value × T Value)} {tm0 tmF : T Value} {df : List Df}
    (hrun : RunOK call rnd P ops fl L 0 tm0 m0 vs ms tmF) (hn : ms.length = n) (hchk : drChk P ops fl (m0 :: ms) L vs = true) {Q : Exit → Act → World → Prop}
    (hQ : ∀ mk E' a' w', (m0 :: ms)[ms.length]? = some mk → E0.le E' → HR P w0 E' mk.H mk.next w' → mk.lo ≤ mk.next → mk.lo = m0.lo → m0.next ≤ mk.next → AR E' tmF nt a' → DR P E' df a'.defers → Q .normal a' w') :
    ∀ (fuel : Nat) (S : List Nat) (listed : Array Bool) (E : Env) (k : Nat) (a : Act) (w : World), DInv P w0 E0 nt ops fl L m0 ms tm0 tmF df listed E k a w → listed.size = ops.size →
      S.length ≤ fuel → (∀ i, i < ops.size → listed.getD i true = false → i ∈ S) → wpAnyIn (WF ro) 0 P .any ops Q fuel listed a w := by
  have done : ∀ (listed : Array Bool) (E : Env) (k : Nat) (a : Act) (w : World), DInv P w0 E0 nt ops fl L m0 ms tm0 tmF df listed E k a w → (∀ i, i < ops.size → listed.getD i true = true) → Q .normal a w := by
    intro listed E k a w h hall
    have hl : ∀ x ∈ L, listed.getD x.1 true = true := fun x hx => hall x.1 (Array.getElem?_eq_some_iff.1 (hp.op_at hx)).1
    have hk : k = ms.length := by
      have := h.kn
      by_cases e : k < ms.length
      · obtain ⟨x, hx, ha, hr⟩ := hrun.rank k e
        have := (h.rk x hx ha).1 (hl x hx)
        omega
      · omega
    subst hk
    obtain ⟨mk, h1, h2, h3, h4, h5⟩ := h.mem
    obtain ⟨tmx, k1, k2, k3⟩ := h.tmx
    have hle : E0.le E := by
      refine ⟨h.to, funext fun i => ?_⟩
      rw [Bool.eq_iff_iff, h.phs i]
      refine ⟨fun e => e.resolve_right fun ⟨f, hf, _, hl'⟩ => ?_, .inl⟩
      obtain ⟨x, hx, q1, _⟩ := hlain.from' f hf
      rw [← q1, hl x hx] at hl'
      cases hl'
    refine hQ mk E a w h1 hle h2 h3 h4 h5 (k1.congr fun t => ?_) h.df
    by_cases e : ∃ x ∈ L, x.2.1.dst = some t
    · obtain ⟨x, hx, hd⟩ := e
      exact (k2 x hx (hl x hx) t hd).symm
    · rw [k3 t fun x hx _ hd => e ⟨x, hx, hd⟩]
      exact hrun.keeps t fun x hx hd => e ⟨x, hx, hd⟩
  intro fuel
  induction fuel with
  | zero =>
    intro S listed E k a w h hsz hS hun
    have hnil : S = [] := List.length_eq_zero_iff.1 (Nat.le_zero.1 hS)
    have hall : ∀ i, i < ops.size → listed.getD i true = true := fun i hi => by
      cases hl : listed.getD i true with
      | true => rfl
      | false => have := hun i hi hl; rw [hnil] at this; cases this
    refine ⟨List.eq_nil_iff_forall_not_mem.2 fun i hi => ?_, done listed E k a w h hall⟩
    obtain ⟨h1, o, h2, _⟩ := mem_ready.1 hi
    rw [hall i (Array.getElem?_eq_some_iff.1 h2).1] at h1
    cases h1
  | succ fuel ih =>
    intro S listed E k a w h hsz hS hun
    refine ⟨fun hr => done listed E k a w h (all_listed hsz hp hr), fun i hi => ?_⟩
    obtain ⟨hl, o, ho, hedges⟩ := mem_ready.1 hi
    have hil : i < ops.size := (Array.getElem?_eq_some_iff.1 ho).1
    obtain ⟨p, hLi⟩ := hp.here i o ho
    have hx : (i, o, p) ∈ L := List.mem_of_getElem? hLi
    have hready : ∀ y ∈ L, waits o y.1 = true → listed.getD y.1 true = true := fun y hy hw => by
      obtain ⟨e, he, h1, h2⟩ := waits_iff.1 hw
      rw [← h2]
      exact getD_false_true (hedges e he h1)
    obtain ⟨v, tmi, hv, hs0, hs1, hs2, hs3, hs4⟩ := hrun.says i _ hLi
    obtain ⟨tmx, k1, k2, k3⟩ := h.tmx
    obtain ⟨mk, m1, m2, m3, m4, m5⟩ := h.mem
    have hxi : ∀ t ∈ o.looksAt ops, tmi.get t = tmx.get t := fun t ht => by
      have old : (∀ y ∈ L, y.2.1.dst = some t → waits y.2.1 i = true) → tmi.get t = tmx.get t := fun hall => by
        rw [k3 t fun y hy hly hd => by
          have := h.clo y hy hly _ hx (hall y hy hd)
          simp only at this
          rw [this] at hl; cases hl]
        refine hs0 t fun j' y hj' hy hd => ?_
        have h1 := hp.edge (List.mem_of_getElem? hy) (hall y (List.mem_of_getElem? hy) hd)
        have h2 := (hp.back j' y hy).1
        omega
      by_cases e : ∃ y ∈ L, y.2.1.dst = some t
      · obtain ⟨y, hy, hd⟩ := e
        have one : ∀ z ∈ L, z.2.1.dst = some t → z = y := fun z hz hdz => by
          by_cases e : z.1 = y.1
          · exact hp.eq_of hz hy e
          · exact absurd hdz (hp.uniq hz hy e hd)
        rcases hp.look hx hy hd ht with hw | hw
        · rw [k2 y hy (hready y hy hw) t hd]
          refine (hs1 t fun j' z hj' hz hdz => ?_).symm
          have := one z (List.mem_of_getElem? hz) hdz
          subst this
          have h1 := hp.edge hx hw
          have h2 := (hp.back j' z hz).1
          simp only at h1
          omega
        · exact old fun z hz hdz => by rw [one z hz hdz]; exact hw
      · exact old fun z hz hdz => absurd ⟨z, hz, hdz⟩ e
    have hF : ∀ d, o.dst = some d → tmF.get d = some v := fun d hd => hs2 d hd fun j' y hj' hy hd' => by
      have h2 := (hp.back j' y hy).1
      exact hp.uniq (List.mem_of_getElem? hy) hx (by simp only; omega) hd hd'
    have hwant : Region.wanted o (yielded ops a.tmps) = Region.wanted o (yieldedE ops tmi) := by rw [wantedE k1, wanted_congr hxi]
    have hrank : ∀ y ∈ L, y.2.2.act = true → y.2.2.rank = p.rank → p.act = true → y = (i, o, p) := fun y hy hay hr ha => by
      have := hrun.inj y.1 i y (i, o, p) (hp.mem_at hy) hLi hay ha hr
      exact hp.eq_of hy hx this
    have hrk : p.act = true → p.rank = k ∧ k < ms.length := fun ha => by
      obtain ⟨_, mi, mi', q1, q2, _⟩ := hs4 ha
      simp only [Nat.sub_zero] at q2
      have hlt : p.rank < ms.length := by
        have := (List.getElem?_eq_some_iff.1 q2).1
        simp only [List.length_cons] at this
        omega
      have hge : k ≤ p.rank := by
        by_cases e : p.rank < k
        · have := (h.rk _ hx ha).2 e
          simp only at this
          rw [this] at hl; cases hl
        · omega
      refine (fun (e : p.rank = k) => ⟨e, e ▸ hlt⟩) ?_
      rcases hp.chain hx ha with e | ⟨y, hy, hw, e⟩
      · simp only at e; omega
      · have hly := hready y hy hw
        simp only at e
        rcases e with ⟨hay, e⟩ | ⟨hay, e⟩
        · have := (h.rk y hy hay).1 hly; omega
        · have := h.lo y hy hay hly; omega
    have next : ∀ (k' : Nat) (E' : Env) (v' : Value) (w' : World), ((p.act = true ∧ p.rank = k ∧ k' = k + 1 ∧ k < ms.length) ∨ (p.act = false ∧ k' = k)) → E.To E' → (∀ i', E'.ph i' = true ↔ (E0.ph i' = true ∨ ∃ f ∈ fl, f.2.2.1 = i' ∧ (listed.setIfInBounds i true).getD f.1 true = false)) →
        (∃ mk, (m0 :: ms)[k']? = some mk ∧ HR P w0 E' mk.H mk.next w' ∧ mk.lo ≤ mk.next ∧ mk.lo = m0.lo ∧ m0.next ≤ mk.next) → VR E' v v' → wpAnyIn (WF ro) 0 P .any ops Q fuel (listed.setIfInBounds i true) (a.put o.dst v') w' := by
      intro k' E' v' w' hk hE hphs hm hvv
      refine ih (S.erase i) _ E' k' _ w' (DInv.step hp h hx hl hready hk hn hrank hE hphs hm hvv hF hB rfl) (by simpa using hsz) ?_ fun j hj hjl => ?_
      · have hmem := hun i hil hl
        rw [List.length_erase_of_mem hmem]
        omega
      · have hne : j ≠ i := fun e => by subst e; rw [getD_set_self] at hjl; cases hjl
        rw [getD_set_ne true (Ne.symm hne)] at hjl
        exact (List.mem_erase_of_ne hne).2 (hun j hj hjl)
    -- the names of the blocks that are yet to be, where none of them is listed now
    have still' : isFree o = false → ∀ E' : Env, E.le E' → ∀ i', E'.ph i' = true ↔ (E0.ph i' = true ∨ ∃ f ∈ fl, f.2.2.1 = i' ∧ (listed.setIfInBounds i true).getD f.1 true = false) := by
      intro hnf E' hE i'
      rw [hE.ph, h.phs i']
      have : ∀ f ∈ fl, (listed.setIfInBounds i true).getD f.1 true = listed.getD f.1 true := fun f hf => by
        refine getD_set_ne true fun e => ?_
        obtain ⟨y, hy, q1, q2, _⟩ := hlain.from' f hf
        have := hp.eq_of hy hx (q1.trans e.symm)
        subst this
        rw [hnf] at q2
        cases q2
      constructor
      · rintro (e | ⟨f, hf, q1, q2⟩)
        · exact .inl e
        · exact .inr ⟨f, hf, q1, by rw [this f hf]; exact q2⟩
      · rintro (e | ⟨f, hf, q1, q2⟩)
        · exact .inl e
        · exact .inr ⟨f, hf, q1, by rw [this f hf] at q2; exact q2⟩
    unfold wpOpIn
    simp only [ho]
    by_cases hfree : isFree o = true
    · -- a block that was laid beforehand comes to be
      have hga := (isFree_spec hfree).2.2.2
      have hwt : ∀ g, Region.wanted o g = true := fun g => by simp [Region.wanted, hga]
      rw [hwt, if_pos rfl]
      have hact := hp.free hx hfree
      simp only at hact
      obtain ⟨f, tmf, hfo, hvf⟩ := hrun.free i _ hLi hfree
      simp only at hfo
      obtain ⟨hfm, hfi⟩ := frOf_mem fl hfo
      rw [hv] at hvf
      injection hvf with hvf
      injection hvf with hvf _
      obtain ⟨y, hy, y1, y2, y3⟩ := hlain.from' f hfm
      have hyx : y = (i, o, p) := hp.eq_of hy hx (y1.trans hfi)
      subst hyx
      simp only at y3
      have hold := drChk_free L vs hchk i _ f hLi hfree hfo k mk (h.hi _ hx hact hl) m1
      have hget := holds_get hold
      have hnum := hlain.num f hfm
      have hph : E.ph f.2.2.1 = true := (h.phs _).2 (.inr ⟨f, hfm, rfl, by rw [hfi]; exact hl⟩)
      refine free_wp hfree y3 fun v' w' b r e1 e2 e3 e4 e5 e6 => ?_
      have hcap : (E.real f.2.2.1 b).cap f.2.2.1 = none := by simp [Env.real]
      have hblk : (E.real f.2.2.1 b).blk f.2.2.1 = some b := by simp [Env.real]
      refine next k (E.real f.2.2.1 b) v' w' (.inr ⟨hact, rfl⟩) (Env.to_real m2 hph b) (fun i' => ?_) ⟨mk, m1, m2.real hph e1 e2 e3 hget e4 (e5 _ hcap), m3, m4, m5⟩ (by rw [hvf]; exact e6 _ hblk hcap)
      simp only [Env.real]
      by_cases hi' : i' = f.2.2.1
      · rw [if_pos hi']
        constructor
        · intro e; cases e
        · rintro (e | ⟨f', hf', q1, q2⟩)
          · have := hfresh i' e; omega
          · have := hlain.inj f' hf' f hfm (q1.trans hi')
            subst this
            rw [hfi, getD_set_self] at q2
            cases q2
      · rw [if_neg hi', h.phs i']
        have hne : ∀ f' ∈ fl, f'.2.2.1 = i' → i ≠ f'.1 := fun f' hf' q1 e => by
          have := hlain.idx hp.apart f' hf' f hfm (e.symm.trans hfi.symm)
          subst this
          exact hi' q1.symm
        constructor
        · rintro (e | ⟨f', hf', q1, q2⟩)
          · exact .inl e
          · exact .inr ⟨f', hf', q1, by rw [getD_set_ne true (hne f' hf' q1)]; exact q2⟩
        · rintro (e | ⟨f', hf', q1, q2⟩)
          · exact .inl e
          · exact .inr ⟨f', hf', q1, by rw [getD_set_ne true (hne f' hf' q1)] at q2; exact q2⟩
    have hnf : isFree o = false := by simpa using hfree
    have still' := still' hnf
    cases hw : Region.wanted o (yieldedE ops tmi) with
    | true =>
      rw [hwant, hw]
      simp only [if_true]
      cases ha : p.act with
      | true =>
        obtain ⟨hr, hkl⟩ := hrk ha
        obtain ⟨_, mi, mi', q1, q2, q3⟩ := hs4 ha
        simp only [Nat.sub_zero, hr] at q1 q2
        rw [m1] at q1
        injection q1 with q1
        subst q1
        rcases q3 with ⟨_, q3⟩ | ⟨q3, _⟩
        · rw [exStep3_congr (tm' := tmx) o (operands_congr hxi)] at q3
          refine exStep3_wp hP hcall hrnd m2 m3 k1 q3 (.inr fun x hx => by cases hx) fun E' v' w' e1 e2 e3 e4 e5 => ?_
          exact next (k + 1) E' v' w' (.inl ⟨ha, hr, rfl, hkl⟩) e1.T (still' E' e1) ⟨mi', q2, e2, by omega, by omega, by omega⟩ e3
        · rw [hw] at q3; cases q3
      | false =>
        have hlo := h.lo_le hp hx hready ha
        have hhi := h.hi _ hx ha hl
        obtain ⟨m', he⟩ := drChk_get L vs hchk i _ v tmi hLi hv hnf ha hw k mk hlo hhi m1
        have hst : still P o.op = true := by
          have := hp.act hx
          rw [ha] at this
          simpa [calm, hnf] using this.symm
        have := still_mem hst he
        subst this
        rw [exOp_congr (tm' := tmx) o (operands_congr hxi)] at he
        refine op_wpIn (.inr (exOp_noDefer he)) (exOp_wp m2 m3 k1 he ?_)
        refine fun E' v' w' e1 e2 e3 e4 e5 => ?_
        exact next k E' v' w' (.inr ⟨ha, rfl⟩) e1.T (still' E' e1) ⟨_, m1, e2, m3, m4, m5⟩ e3
    | false =>
      rw [hwant, hw]
      simp only [Bool.false_eq_true, if_false]
      refine ⟨fun _ _ => trivial, ?_⟩
      have hvu := hs3 hw
      subst hvu
      cases ha : p.act with
      | true =>
        obtain ⟨hr, hkl⟩ := hrk ha
        obtain ⟨_, mi, mi', q1, q2, q3⟩ := hs4 ha
        simp only [Nat.sub_zero, hr] at q1 q2
        rw [m1] at q1
        injection q1 with q1
        subst q1
        rcases q3 with ⟨q3, _⟩ | ⟨_, rfl⟩
        · rw [hw] at q3; cases q3
        · exact next (k + 1) E _ w (.inl ⟨ha, hr, rfl, hkl⟩) E.le_refl.T (still' E E.le_refl) ⟨_, q2, m2, m3, m4, m5⟩ (VR.undef E)
      | false => exact next k E _ w (.inr ⟨ha, rfl⟩) E.le_refl.T (still' E E.le_refl) ⟨mk, m1, m2, m3, m4, m5⟩ (VR.undef E)
theorem last_get (m0 : Mem) (ms : List Mem) : (m0 :: ms)[ms.length]? = some (lastMem m0 ms) := by
  induction ms generalizing m0 with
  | nil => rfl
  | cons m r ih => simpa [lastMem] using ih m
/-- A state of ours stands for the model's. -/
structure SR (P : Program) (w0 : World) (E : Env) (nt : Nat) (s : St) (a : Act) (w : World) : Prop where
  hr : HR P w0 E s.m.H s.m.next w
  lo : s.m.lo ≤ s.m.next
  ar : AR E s.tm nt a
  df : DR P E s.df a.defers
theorem evDrawn_wp (hP : Plainly P) (hm : P.follows .mixedOrders = true) {call rnd : Call2} (hcall : CallOK P w0 call) (hrnd : RndOK P w0 rnd) {ro : Option Nat} {nt : Nat} (hB : nt ≤ 1073741824) {s s' : St} {a : Act} (h : SR P w0 E nt s a w) (he : evDrawn call rnd P nt ops s = .ok s') {id : Nat}
    {Q : Exit → Act → World → Prop} (hQ : ∀ E' a' w', E.le E' → SR P w0 E' nt s' a' w' → s'.m.lo = s.m.lo → s.m.next ≤ s'.m.next → Q .normal a' w') : (Code.region id ops true).wpIn (WF ro) 0 P Q a w := by
  unfold evDrawn at he
  split at he
  · rename_i n L hpl
    split at he
    · rename_i fl m0 hlay
      split at he
      · rename_i vs ms tmF hrun
        split at he
        · rename_i hc
          injection he with he
          subst he
          simp only [Bool.and_eq_true] at hc
          have hp := drPlan_ok hpl
          obtain ⟨hr0, hlain⟩ := layFree_ok L s.m E w fl m0 hlay h.hr
          have hr := drRun_ok L 0 s.tm m0 vs ms tmF (fun x hx d hd => Nat.lt_of_lt_of_le (hp.dst hx hd) hB) (fun x hx hf => hp.free hx hf) hrun
          have hun : ∀ x ∈ L, (Array.replicate ops.size false).getD x.1 true = false := fun x hx => by
            have := (Array.getElem?_eq_some_iff.1 (hp.op_at hx)).1
            simp [this]
          have hto : E.To (E.phs fl) := fun i b hb => ⟨hb, rfl⟩
          have hlo := hlain.lo
          have hnx := hlain.next
          have hslo := h.lo
          refine wpIn_region_any hm (drawn_any hP hcall hrnd hB hp hlain (fun i hi => (h.hr.ph i hi).1) hr (Nat.eq_of_beq_eq_true hc.1) hc.2 (E0 := E) (df := s.df) ?_ ops.size (List.range ops.size) _ (E.phs fl) 0 a _ ?_ (by simp) (by simp) fun i hi _ => List.mem_range.2 hi)
          · intro mk E' a' w' k1 k2 k3 k4 k5 k6 k7 k8
            rw [last_get] at k1
            injection k1 with k1
            subst k1
            exact hQ E' a' w' k2 ⟨k3, k4, k7, k8⟩ (k5.trans hlo) (Nat.le_trans hnx k6)
          · refine ⟨fun x hx hl => ?_, fun x hx _ => ?_, fun x hx _ hl => ?_, fun x hx _ _ => Nat.zero_le _, Nat.zero_le _, ⟨m0, rfl, hr0.drawn, by omega, rfl, Nat.le_refl _⟩, ⟨s.tm, h.ar.monoT hto, fun x hx hl => ?_, fun _ _ => rfl⟩, h.df.monoT hto, hto, fun i => ?_⟩
            · rw [hun x hx] at hl; cases hl
            · rw [hun x hx]; simp
            · rw [hun x hx] at hl; cases hl
            · rw [hun x hx] at hl; cases hl
            · simp only [Env.phs, Bool.or_eq_true, List.any_eq_true, beq_iff_eq]
              constructor
              · rintro (e | ⟨f, hf, q⟩)
                · exact .inl e
                · obtain ⟨x, hx, q1, _⟩ := hlain.from' f hf
                  exact .inr ⟨f, hf, q, by rw [← q1]; exact hun x hx⟩
              · rintro (e | ⟨f, hf, q, _⟩)
                · exact .inl e
                · exact .inr ⟨f, hf, q⟩
        · cases he
      · cases he
    · cases he
  · cases he
end Go.Proofs.YtlkdjdcnbcegeaaGreatDoor.Ev

/-! Code: what our machine makes of it stands for what the model makes of it. -/
namespace Go.Proofs.YtlkdjdcnbcegeaaGreatDoor.Ev
open Go.RowKit
set_option linter.unusedSimpArgs false

variable {P : Program} {w0 w : World} {E : Env} {m : Mem} {ops : Array Oper}

theorem dstOk_lt {nt : Nat} {o : Oper} (h : dstOk nt o = true) : ∀ d, o.dst = some d → d < nt := by
  intro d hd
  unfold dstOk at h
  rw [hd] at h
  simpa using h
theorem put_defers (a : Act) (dst : Option Tmp) (v : Value) : (a.put dst v).defers = a.defers := by cases dst <;> rfl
/-- How a piece of code ends. -/
def ExR (E : Env) : Ex2 → Exit → Prop
  | .normal, .normal => True
  | .exit i, .exit j => i = j
  | .ret, .ret => True
  | .pan v, .panic ch => ∃ v', ch = [{ v := v', recovered := false }] ∧ VR E v v'
  | _, _ => False
/-- What must hold of every outcome that ours stands for. -/
def Ends (P : Program) (w0 : World) (E : Env) (nt : Nat) (s : St) (e : Ex2) (s' : St) (Q : Exit → Act → World → Prop) : Prop :=
  ∀ E' x a' w', E.le E' → SR P w0 E' nt s' a' w' → s'.m.lo = s.m.lo → s.m.next ≤ s'.m.next → ExR E' e x → Q x a' w'
theorem Ends.of {nt : Nat} {s s1 s' : St} {e : Ex2} {Q : Exit → Act → World → Prop} {E' : Env} (h : Ends P w0 E nt s e s' Q) (hE : E.le E') (h1 : s1.m.lo = s.m.lo) (h2 : s.m.next ≤ s1.m.next) : Ends P w0 E' nt s1 e s' Q :=
  fun E'' x a' w' k1 k2 k3 k4 k5 => h E'' x a' w' (Env.le_trans hE k1) k2 (k3.trans h1) (Nat.le_trans h2 k4) k5
def opsEx : Option Value → Ex2
  | none => .normal
  | some v => .pan v
theorem evOps2_wp (hP : Plainly P) {call rnd : Call2} (hcall : CallOK P w0 call) (hrnd : RndOK P w0 rnd) {rd : Bool} {ro : Option Nat} (hro : rd = false → ro = none) {nt : Nat} (hB : nt ≤ 1073741824) : ∀ (l : List Oper) (E : Env) (s s' : St) (r : Option Value) (a : Act) (w : World) (Q : Exit → Act → World → Prop),
    SR P w0 E nt s a w → evOps2 rd call rnd P nt ops l s = .ok (r, s') → Ends P w0 E nt s (opsEx r) s' Q → wpListIn (WF ro) 0 P ops Q l a w := by
  intro l
  induction l with
  | nil =>
    intro E s s' r a w Q h he hQ
    simp only [evOps2, Tr.ok.injEq, Prod.mk.injEq] at he
    obtain ⟨rfl, rfl⟩ := he
    exact hQ E .normal a w E.le_refl h rfl (Nat.le_refl _) trivial
  | cons o l ih =>
    intro E s s' r a w Q h he hQ
    simp only [evOps2] at he
    split at he
    · cases he
    · rename_i hd
      have hd := dstOk_lt (by simpa using hd)
      have hw := wantedE h.ar ops o
      unfold wpListIn
      split at he
      · rename_i hwt
        rw [hw, hwt, if_pos rfl]
        split at he
        · rename_i v m' hs
          refine exStep3_wp hP hcall hrnd h.hr h.lo h.ar hs (.inr fun x hx => by cases hx) fun E' v' w' k1 k2 k3 k4 k5 => ?_
          refine ih E' _ s' r _ w' Q ⟨k2, by have := h.lo; simp only; omega, (h.ar.mono k1).putE hd hB k3, by rw [put_defers]; exact h.df.mono k1⟩ he (hQ.of k1 k4 k5)
        · rename_i v m' hs
          simp only [Tr.ok.injEq, Prod.mk.injEq] at he
          obtain ⟨rfl, rfl⟩ := he
          refine exStep3_wp hP hcall hrnd h.hr h.lo h.ar hs (.inr fun x hx => by cases hx) fun E' v' w' k1 k2 k3 k4 k5 => ?_
          exact hQ E' _ a w' k1 ⟨k2, by have := h.lo; simp only; omega, h.ar.mono k1, h.df.mono k1⟩ k4 k5 ⟨v', rfl, k3⟩
        · rename_i d hs
          cases rd with
          | true => simp at he
          | false =>
          simp only [Bool.false_eq_true, if_false] at he
          refine exStep3_wp hP hcall hrnd h.hr h.lo h.ar hs (.inl (hro rfl)) fun d' hd' => ?_
          refine ih E ⟨Ev.putE s.tm o.dst Go.undef, d :: s.df, s.m⟩ s' r _ w Q ⟨h.hr, h.lo, ?_, ?_⟩ he (hQ.of E.le_refl rfl (Nat.le_refl _))
          · have : AR E s.tm nt { a with defers := d' :: a.defers } := ⟨h.ar.glob, h.ar.size, h.ar.get⟩
            exact this.putE hd hB (VR.undef E)
          · rw [put_defers]
            exact .cons hd' h.df
        · cases he
      · rename_i hwt
        rw [hw, if_neg hwt]
        refine ⟨fun _ _ => trivial, ?_⟩
        exact ih E ⟨Ev.putE s.tm o.dst Go.undef, s.df, s.m⟩ s' r _ w Q ⟨h.hr, h.lo, h.ar.putE hd hB (VR.undef E), by rw [put_defers]; exact h.df⟩ he (hQ.of E.le_refl rfl (Nat.le_refl _))

/-- A loop that is about to run its body. -/
def InL (ro : Option Nat) (P : Program) (c : Code) (Q : Exit → Act → World → Prop) (a : Act) (w : World) : Prop :=
  ∀ (b : Frame) (k : List Item) (cs : List Frame), b.roundOf = ro → ∃ e a' w', Q e a' w' ∧ ArrivesIn (Machine.fenced P (WF ro)) P (lone (b.atR a (.code c :: .inLoop c :: k)) cs w) b k cs e a' w'
theorem InL.wp {ro : Option Nat} {c : Code} {Q : Exit → Act → World → Prop} {a : Act} {w : World} (h : InL ro P c Q a w) : (Code.loop c).wpIn (WF ro) 0 P Q a w := fun b k cs hro _ _ => by
  obtain ⟨e, a', w', h1, h2⟩ := h b k cs hro
  exact ⟨e, a', w', h1, .of_steps (.one (fenced_wide P _) stepR_loop) h2⟩
theorem InL.round {ro : Option Nat} {c : Code} {Q : Exit → Act → World → Prop} {a : Act} {w : World} (h : c.wpIn (WF ro) 0 P (Exit.then (InL ro P c Q) Q) a w) : InL ro P c Q a w := by
  intro b k cs hro
  obtain ⟨e, a₁, w₁, hq, harr⟩ := h b (.inLoop c :: k) cs hro trivial (room_wide _)
  cases e with
  | normal =>
    obtain ⟨e₂, a₂, w₂, hq₂, harr₂⟩ := hq b k cs hro
    exact ⟨e₂, a₂, w₂, hq₂, .of_steps (StepsIn.trans harr (.one (fenced_wide P _) stepR_inLoop)) harr₂⟩
  | exit id => exact ⟨_, a₁, w₁, hq, .pass (x := .inLoop c) rfl (fun _ _ => .inl (by simp)) harr⟩
  | goto l => exact ⟨_, a₁, w₁, hq, .pass (x := .inLoop c) rfl (fun _ _ => .inl (by simp)) harr⟩
  | ret => exact ⟨_, a₁, w₁, hq, .pass (x := .inLoop c) rfl (fun _ _ => .inl (by simp)) harr⟩
  | panic ch => exact ⟨_, a₁, w₁, hq, .pass (x := .inLoop c) rfl (fun _ _ => .inl (by simp)) harr⟩
  | outgrown => exact ⟨_, a₁, w₁, hq, .pass (x := .inLoop c) rfl (fun _ _ => .inl (by simp)) harr⟩
theorem stepR_scope {b : Frame} {a : Act} {k : List Item} {cs : List Frame} {c : Code} : step P (lone (b.atR a (.code (.scope c) :: k)) cs w) = .next (lone (b.atR a (.code c :: .inScope c :: k)) cs w) :=
  step_lone_go (by simp [stepG, stepG.exec, Frame.atR])
theorem stepR_inScope {b : Frame} {a : Act} {k : List Item} {cs : List Frame} {c : Code} : step P (lone (b.atR a (.inScope c :: k)) cs w) = .next (lone (b.atR a k) cs w) :=
  step_lone_go (by simp [stepG, stepG.exec, Frame.atR])
theorem wpIn_scope_straight {ro : Option Nat} {c : Code} {Q : Exit → Act → World → Prop} {a : Act} (h : c.wpIn (WF ro) 0 P (Exit.noGoto Q) a w) : (Code.scope c).wpIn (WF ro) 0 P Q a w := by
  intro b k cs hro hf hr
  have h0 : (lone (b.atR a (.code (.scope c) :: k)) cs w).fenced P (WF ro) := fenced_wide P _
  obtain ⟨e, a₁, w₁, hq, harr⟩ := h b (.inScope c :: k) cs hro hf hr
  have hex : ∀ id, exitTo id (.inScope c :: k) = exitTo id k := fun id => by simp [exitTo]
  cases e with
  | normal => exact ⟨.normal, a₁, w₁, hq, .head h0 stepR_scope (StepsIn.trans harr (.one (fenced_wide P _) stepR_inScope))⟩
  | exit id =>
    exact ⟨.exit id, a₁, w₁, hq, fun k' hk => .head h0 stepR_scope (harr.1 k' (by rw [hex]; exact hk)),
      fun hr' hk => let ⟨k₁, h1, h2⟩ := harr.2 hr' (by rw [hex]; exact hk); ⟨k₁, h1, .head h0 stepR_scope h2⟩⟩
  | goto l => exact hq.elim
  | ret => exact ⟨_, a₁, w₁, hq, .of_steps (.one h0 stepR_scope) harr⟩
  | panic ch => exact ⟨_, a₁, w₁, hq, .of_steps (.one h0 stepR_scope) harr⟩
  | outgrown => exact ⟨_, a₁, w₁, hq, .of_steps (.one h0 stepR_scope) harr⟩
/-- Rounds of a loop. -/
theorem evLoop_wp {ro : Option Nat} {nt : Nat} {x : Code} {f : St → Tr (Ex2 × St)} (hf : ∀ (E : Env) (s s' : St) (e : Ex2) (a : Act) (w : World) (Q : Exit → Act → World → Prop), SR P w0 E nt s a w → f s = .ok (e, s') → Ends P w0 E nt s e s' Q → x.wpIn (WF ro) 0 P Q a w) :
    ∀ (k : Nat) (E : Env) (s s' : St) (r : Option Ex2) (a : Act) (w : World) (Q : Exit → Act → World → Prop), SR P w0 E nt s a w → evLoop f k s = .ok (r, s') →
      (match r with
      | some e => Ends P w0 E nt s e s' Q
      | none => ∀ E' a' w', E.le E' → SR P w0 E' nt s' a' w' → s'.m.lo = s.m.lo → s.m.next ≤ s'.m.next → InL ro P x Q a' w') → InL ro P x Q a w := by
  intro k
  induction k with
  | zero =>
    intro E s s' r a w Q h he hQ
    refine InL.round ?_
    simp only [evLoop] at he
    split at he
    · rename_i s1 hs
      have he : none = r ∧ s1 = s' := by
        obtain ⟨tm1, df1, m1⟩ := s1
        cases df1 <;> simpa only [Tr.ok.injEq, Prod.mk.injEq] using he
      obtain ⟨rfl, rfl⟩ := he
      refine hf E s s1 .normal a w _ h hs fun E' z a' w' k1 k2 k3 k4 k5 => ?_
      cases z with
      | normal => exact hQ E' a' w' k1 k2 k3 k4
      | _ => exact k5.elim
    · rename_i e1 s1 hno hs
      simp only [Tr.ok.injEq, Prod.mk.injEq] at he
      obtain ⟨rfl, rfl⟩ := he
      refine hf E s s1 e1 a w _ h hs fun E' z a' w' k1 k2 k3 k4 k5 => ?_
      have := hQ E' z a' w' k1 k2 k3 k4 k5
      cases z with
      | normal =>
        cases e1 with
        | normal => exact (hno rfl).elim
        | _ => exact k5.elim
      | _ => exact this
    · cases he
  | succ k ih =>
    intro E s s' r a w Q h he hQ
    simp only [evLoop] at he
    split at he
    · rename_i s1 hs
      refine ih E s s1 none a w Q h hs fun E1 a1 w1 k1 k2 k3 k4 => ?_
      refine ih E1 s1 s' r a1 w1 Q k2 he ?_
      cases r with
      | some e => exact hQ.of k1 k3 k4
      | none => exact fun E' a' w' q1 q2 q3 q4 => hQ E' a' w' (Env.le_trans k1 q1) q2 (q3.trans k3) (Nat.le_trans k4 q4)
    · exact ih E s s' r a w Q h he hQ
theorem putObj_below {l : Nat} {o : Obj} {n : Nat} {w' : World} (h : Below n w w') (hl : n ≤ l) : Below n w (w'.putObj l o) :=
  ⟨h.os, h.tape, h.output, by simpa using h.size, fun k hk => (World.putObj_heap_other (by omega)).trans (h.block k hk)⟩
theorem range_wp (hP : Plainly P) {call rnd : Call2} (hcall : CallOK P w0 call) {nt n : Nat} {g : Operand} {ps : Array Nat} {asg body : Code} {s s' : St} {e : Ex2} {a : Act} {Q : Exit → Act → World → Prop}
    (h : SR P w0 E nt s a w) (he : evCode2 false call rnd P nt (n + 1) (.rangeFunc g ps asg body) s = .ok (e, s')) (hQ : Ends P w0 E nt s e s' Q) : (Code.rangeFunc g ps asg body).wpIn (WF none) 0 P Q a w := by
  simp only [evCode2, Bool.false_eq_true, if_false] at he
  split at he
  · rename_i gf fst cap hv
    split at he
    · rename_i hc
      simp only [Bool.and_eq_true, Nat.blt_eq, Nat.ble_eq] at hc
      obtain ⟨hc1, hc2⟩ := hc
      have hvr := ev_VR h.ar hv
      generalize hy : a.eval g = y at hvr
      cases hvr with
      | @func _ fst fst' cap cap' hfst hcap =>
        refine wpIn_rangeFunc ?_
        intro fn _
        have hr1 := h.hr.new (c := none) (o := .dfr) (r := .deferred (some [])) (by omega) rfl
        have hb1 : (E.more s.m.next w.heap.size none).blk s.m.next = some w.heap.size := by simp [Env.more]
        have hle1 := Env.le_more h.hr w.heap.size none
        have hle2 := Env.le_more hr1 (w.alloc (.deferred (some []))).heap.size none
        have hle := Env.le_trans hle1 hle2
        have hsz : (w.alloc (.deferred (some []))).heap.size = w.heap.size + 1 := by simp
        have hr2 := hr1.new (c := none) (o := .loop s.tm nt ps.toList asg body s.m.next .ready none)
          (r := .loop { state := .ready, pending := none, fn := fn, tmps := a.tmps, params := ps, assign := asg, body := body, defers := w.heap.size }) (by omega)
          ⟨fn, a.tmps, w.heap.size, (hle2.to _ _ hb1).1, h.ar.size, fun t => (h.ar.get t).mono hle, by simp⟩
        have hent := run_enterLoop_outer (P := P) (w := w) fn a.tmps ps asg body
        generalize hW : (w.alloc (.deferred (some []))).alloc (.loop { state := .ready, pending := none, fn := fn, tmps := a.tmps, params := ps, assign := asg, body := body, defers := w.heap.size }) = W1 at hr2 hent
        generalize hE2 : Env.more (E.more s.m.next w.heap.size none) (s.m.next + 1) (w.alloc (.deferred (some []))).heap.size none = E2 at *
        have hbl : E2.blk (s.m.next + 1) = some (w.heap.size + 1) := by rw [← hE2]; simp [Env.more]
        have hbd : E2.blk s.m.next = some w.heap.size := (hle2.to _ _ hb1).1
        have hargs : VRL E2 (fst ++ .func (.yield (s.m.next + 1)) #[] #[] :: cap) (fst'.toArray ++ #[Value.func (.yield (w.heap.size + 1)) #[] #[]] ++ cap'.toArray).toList := by
          have := (hfst.mono hle).append (VRL.cons (VR.yield hbl) (hcap.mono hle))
          simpa using this
        have key : ∀ out m2, call gf (fst ++ .func (.yield (s.m.next + 1)) #[] #[] :: cap) { s.m with H := (s.m.H.set s.m.next .dfr).set (s.m.next + 1) (.loop s.tm nt ps.toList asg body s.m.next .ready none), next := s.m.next + 2 } = .ok (out, m2) →
            (∀ E' w' e', E2.le E' → HR P w0 E' m2.H m2.next w' → m2.lo = s.m.lo → s.m.next ≤ m2.next → OutR E' out e' → rangePost (WF none) 0 P (w.heap.size + 1) Q { a with defers := [{ target := .collected w.heap.size, args := #[] }] ++ a.defers } e' w') →
            ∃ (l : Nat) (mark : List Deferred) (w₁ : World) (d : Deferred) (w₁' : World) (f : FuncId) (args : Array Value) (w₂ : World),
              (Instr.enterLoop fn a.tmps ps asg body (WF none).round).run P w = .ok (l, mark) w₁ ∧
              (resolve a.eval (rangeCall g l) 0).run P w₁ = .ok d w₁' ∧
              (∀ f', Target.leads P w₁' d.target d.args = some f' → (WF none).fn f') ∧
              (invoke d.target d.args).run P w₁' = .ok (.enter f args) w₂ ∧
              ((WF none).depth.isSome = true → 1 ≤ 0) ∧
              CallsIn (WF none) (0 - 1) P f args w₂ (rangePost (WF none) 0 P l Q { a with defers := mark ++ a.defers }) := by
          intro out m2 hcl hk
          obtain ⟨⟨fn', hf, hb⟩, hC⟩ := hcall _ _ _ _ _ hcl
          refine ⟨w.heap.size + 1, [{ target := .collected w.heap.size, args := #[] }], W1, { target := .fn (.func gf) cap'.toArray, args := fst'.toArray ++ #[.func (.yield (w.heap.size + 1)) #[] #[]] }, W1, gf,
            fst'.toArray ++ #[.func (.yield (w.heap.size + 1)) #[] #[]] ++ cap'.toArray, W1, hent, ?_, fun _ _ => trivial, ?_, fun h => (by cases h), ?_⟩
          · have hcc : a.eval (Operand.const (Value.func (.yield (w.heap.size + 1)) #[] #[])) = Value.func (.yield (w.heap.size + 1)) #[] #[] := rfl
            simp [resolve, hy, hcc, Deferred.ofValue, Sem.run_pure]
          · simp only [invoke]
            exact callFunc_run hP hf hb _ _
          · refine callsIn_WF.2 (Calls.mono (hC E2 _ _ hr2 ?_ hargs) fun e' w' ⟨E', k1, k2, k3, k4, k5⟩ => ?_)
            · have := h.lo; simp only; omega
            · exact hk E' w' e' k1 k2 k3 (by simp only at k4; omega) k5
        have hsr : ∀ {E' : Env} {w' : World} {H' : T AObj} {nx : Nat}, E2.le E' → HR P w0 E' H' nx w' → s.m.next ≤ nx → SR P w0 E' nt ⟨s.tm, .mark s.m.next :: s.df, ⟨H', nx, s.m.lo⟩⟩ { a with defers := [{ target := .collected w.heap.size, args := #[] }] ++ a.defers } w' := fun {E' w' H' nx} k1 k2 k3 => by
          have hle' := Env.le_trans hle k1
          refine ⟨k2, Nat.le_trans h.lo k3, ⟨(h.ar.mono hle').glob, h.ar.size, (h.ar.mono hle').get⟩, ?_⟩
          exact .cons ⟨w.heap.size, (k1.to _ _ hbd).1, rfl⟩ (h.df.mono hle')
        split at he
        · rename_i v m2 hcl
          split at he
          · rename_i tm2 nt2 ps2 asg2 body2 dfr2 st2 pend2 hg
            split at he
            · cases he
            · rename_i hbusy
              have hst : st2 ≠ .busy := fun e => hbusy (by rw [e]; rfl)
              refine key _ _ hcl fun E' w' e' k1 k2 k3 k4 k5 => ?_
              cases e' with
              | panicked ch => exact k5.elim
              | outgrown => exact k5.elim
              | returned v' =>
                obtain ⟨H2, nx2, lo2⟩ := m2
                simp only at k2 k3 k4 hg he
                subst k3
                have hbl' := (k1.to _ _ hbl).1
                obtain ⟨b, r, q1, q2, fn2, tmps2, bd2, q3, q4, q5, rfl⟩ := k2.obj hbl' hg
                obtain rfl : w.heap.size + 1 = b := by rw [hbl'] at q1; injection q1
                have hend := run_endLoop (P := P) q2 hst
                have hd := k2.dom _ _ hbl'
                have hL : s.m.next + 1 < 1073741824 := by omega
                have hr3 : HR P w0 E' (H2.del (s.m.next + 1)) nx2 (w'.putObj (w.heap.size + 1) (.loop { state := .exhausted, pending := pend2, fn := fn2, tmps := tmps2, params := ps2.toArray, assign := asg2, body := body2, defers := bd2 })) := by
                  refine (k2.forget hL).keep (putObj_below (Below.refl _ _) (hd.2 (by omega)).1) fun j o c hj hcb => World.putObj_heap_other fun e => ?_
                  subst e
                  rw [T.get_del _ _ hL] at hj
                  split at hj
                  · cases hj
                  · rename_i hne
                    exact hne (k2.inj _ _ _ _ _ hj hg hcb hbl')
                refine ⟨_, _, hend, ?_⟩
                have hs := hsr k1 hr3 k4
                have hle' := Env.le_trans hle k1
                split at he
                · simp only [Tr.ok.injEq, Prod.mk.injEq] at he
                  obtain ⟨rfl, rfl⟩ := he
                  exact hQ E' .normal _ _ hle' hs rfl k4 trivial
                · simp only [Tr.ok.injEq, Prod.mk.injEq] at he
                  obtain ⟨rfl, rfl⟩ := he
                  exact wpIn_ret (hQ E' .ret _ _ hle' hs rfl k4 trivial)
                · simp only [Tr.ok.injEq, Prod.mk.injEq] at he
                  obtain ⟨rfl, rfl⟩ := he
                  exact wpIn_exit (hQ E' (.exit _) _ _ hle' hs rfl k4 rfl)
                · cases he
          · cases he
        · rename_i v m2 hcl
          simp only [Tr.ok.injEq, Prod.mk.injEq] at he
          obtain ⟨rfl, rfl⟩ := he
          refine key _ _ hcl fun E' w' e' k1 k2 k3 k4 k5 => ?_
          cases e' with
          | returned v' => exact k5.elim
          | outgrown => exact k5.elim
          | panicked ch =>
            obtain ⟨v', rfl, k6⟩ := k5
            obtain ⟨H2, nx2, lo2⟩ := m2
            simp only at k2 k3 k4
            subst k3
            exact hQ E' (.panic _) _ _ (Env.le_trans hle k1) (hsr k1 k2 k4) rfl k4 ⟨v', rfl, k6⟩
        · cases he
    · cases he
  · cases he
theorem evCode2_wp (hP : Plainly P) (hm : P.follows .mixedOrders = true) {call rnd : Call2} (hcall : CallOK P w0 call) (hrnd : RndOK P w0 rnd) {rd : Bool} {ro : Option Nat} (hro : rd = false → ro = none) {nt : Nat} (hB : nt ≤ 1073741824) : ∀ (n : Nat) (c : Code) (E : Env) (s s' : St) (e : Ex2) (a : Act) (w : World) (Q : Exit → Act → World → Prop),
    SR P w0 E nt s a w → evCode2 rd call rnd P nt n c s = .ok (e, s') → Ends P w0 E nt s e s' Q → c.wpIn (WF ro) 0 P Q a w := by
  intro n
  induction n with
  | zero => intro c E s s' e a w Q _ he; simp [evCode2] at he
  | succ n ih =>
    intro c E s s' e a w Q h he hQ
    have self : ∀ {x : Ex2} {y : Exit}, e = x → s' = s → ExR E x y → Q y a w := fun {x y} h1 h2 h3 => by
      subst h1 h2; exact hQ E y a w E.le_refl h rfl (Nat.le_refl _) h3
    cases c with
    | skip =>
      simp only [evCode2, Tr.ok.injEq, Prod.mk.injEq] at he
      exact wpIn_skip (self he.1.symm he.2.symm trivial)
    | label l =>
      simp only [evCode2, Tr.ok.injEq, Prod.mk.injEq] at he
      exact wpIn_label (self he.1.symm he.2.symm trivial)
    | exit id =>
      simp only [evCode2, Tr.ok.injEq, Prod.mk.injEq] at he
      exact wpIn_exit (self he.1.symm he.2.symm rfl)
    | ret =>
      simp only [evCode2, Tr.ok.injEq, Prod.mk.injEq] at he
      exact wpIn_ret (self he.1.symm he.2.symm trivial)
    | region id ops draw =>
      cases draw with
      | false =>
        simp only [evCode2] at he
        split at he
        · rename_i s1 hs
          simp only [Tr.ok.injEq, Prod.mk.injEq] at he
          obtain ⟨rfl, rfl⟩ := he
          exact wpIn_region_list (evOps2_wp hP hcall hrnd hro hB _ E s s1 none a w Q h hs hQ)
        · rename_i v s1 hs
          simp only [Tr.ok.injEq, Prod.mk.injEq] at he
          obtain ⟨rfl, rfl⟩ := he
          exact wpIn_region_list (evOps2_wp hP hcall hrnd hro hB _ E s s1 (some v) a w Q h hs hQ)
        · cases he
      | true =>
        simp only [evCode2] at he
        split at he
        · rename_i s1 hs
          simp only [Tr.ok.injEq, Prod.mk.injEq] at he
          obtain ⟨rfl, rfl⟩ := he
          exact evDrawn_wp hP hm hcall hrnd hB h hs fun E' a' w' k1 k2 k3 k4 => hQ E' .normal a' w' k1 k2 k3 k4 trivial
        · cases he
    | seq x y =>
      refine wpIn_seq ?_
      simp only [evCode2] at he
      split at he
      · rename_i s1 hs
        refine (ih x E s s1 .normal a w _ h hs fun E' z a' w' k1 k2 k3 k4 k5 => ?_)
        cases z with
        | normal => exact (ih y E' s1 s' e a' w' Q k2 he (hQ.of k1 k3 k4))
        | _ => exact k5.elim
      · rename_i r hno
        refine (ih x E s s' e a w _ h he fun E' z a' w' k1 k2 k3 k4 k5 => ?_)
        have := hQ E' z a' w' k1 k2 k3 k4 k5
        cases z with
        | normal =>
          cases e with
          | normal => exact absurd he (hno _)
          | _ => exact k5.elim
        | _ => exact this
    | cond c x y =>
      simp only [evCode2] at he
      split at he
      · rename_i hv
        have := ev_VR h.ar hv
        generalize hy : a.eval c = z at this
        cases this
        exact wpIn_cond_true hy (ih x E s s' e a w Q h he hQ)
      · rename_i hv
        have := ev_VR h.ar hv
        generalize hy : a.eval c = z at this
        cases this
        exact wpIn_cond_false hy (ih y E s s' e a w Q h he hQ)
      · cases he
    | block id x =>
      refine wpIn_block ?_
      simp only [evCode2] at he
      split at he
      · rename_i i s1 hs
        have hb : ∀ Q', Ends P w0 E nt s (.exit i) s1 Q' → x.wpIn (WF ro) 0 P Q' a w := fun Q' hQ' => ih x E s s1 (.exit i) a w Q' h hs hQ'
        refine hb _ fun E' z a' w' k1 k2 k3 k4 k5 => ?_
        cases z with
        | exit j =>
          cases k5
          simp only [Exit.inBlock]
          split at he
          · rename_i hi
            simp only [Tr.ok.injEq, Prod.mk.injEq] at he
            obtain ⟨rfl, rfl⟩ := he
            rw [if_pos hi]
            exact hQ E' .normal a' w' k1 k2 k3 k4 trivial
          · rename_i hi
            simp only [Tr.ok.injEq, Prod.mk.injEq] at he
            obtain ⟨rfl, rfl⟩ := he
            rw [if_neg hi]
            exact hQ E' (.exit i) a' w' k1 k2 k3 k4 rfl
        | _ => exact k5.elim
      · rename_i r hno
        refine (ih x E s s' e a w _ h he fun E' z a' w' k1 k2 k3 k4 k5 => ?_)
        have := hQ E' z a' w' k1 k2 k3 k4 k5
        cases z with
        | exit j =>
          cases e with
          | exit i => exact absurd he (hno _ _)
          | _ => exact k5.elim
        | _ => exact this
    | loop x =>
      have key : InL ro P x Q a w := by
        simp only [evCode2] at he
        split at he
        · rename_i e1 s1 hs
          simp only [Tr.ok.injEq, Prod.mk.injEq] at he
          obtain ⟨rfl, rfl⟩ := he
          exact evLoop_wp (fun E s s' e a w Q h he hQ => (ih x E s s' e a w Q h he hQ)) (24 + s.m.lo) E s s1 (some e1) a w Q h hs hQ
        · cases he
        · cases he
      exact key.wp
    | scope x =>
      refine wpIn_scope_straight ?_
      simp only [evCode2] at he
      refine (ih x E s s' e a w _ h he fun E' z a' w' k1 k2 k3 k4 k5 => ?_)
      have := hQ E' z a' w' k1 k2 k3 k4 k5
      cases z with
      | goto l => cases e <;> exact k5.elim
      | _ => exact this
    | rangeFunc g ps asg body =>
      cases rd with
      | true => simp [evCode2] at he
      | false =>
        obtain rfl := hro rfl
        exact range_wp hP hcall h he hQ
    | _ => simp [evCode2] at he
end Go.Proofs.YtlkdjdcnbcegeaaGreatDoor.Ev

/-! Deferred functions' code, results. -/
namespace Go.Proofs.YtlkdjdcnbcegeaaGreatDoor.Ev
open Go.RowKit
set_option linter.unusedSimpArgs false

variable {P : Program} {w0 w : World} {E : Env} {m : Mem} {ops : Array Oper}

theorem sem_bind_pure {α : Type} (x : Sem α) : x.bind Sem.pure = x := by
  induction x with
  | frozen a k ih => simp only [Sem.bind]; exact congrArg _ (funext ih)
  | _ => simp_all [Sem.bind]
theorem sem_bind_assoc {α β γ : Type} (x : Sem α) (f : α → Sem β) (g : β → Sem γ) : (x.bind f).bind g = x.bind fun a => (f a).bind g := by
  induction x with
  | frozen a k ih => simp only [Sem.bind]; exact congrArg _ (funext ih)
  | _ => simp_all [Sem.bind]
theorem sem_lawful : LawfulMonad Sem := LawfulMonad.mk' (m := Sem)
  (id_map := fun x => sem_bind_pure x)
  (pure_bind := fun _ _ => rfl)
  (bind_assoc := fun x f g => sem_bind_assoc x f g)
/-- One result, or several. -/
def oneOr : List Value → Value
  | [v] => v
  | vs => .tuple vs.toArray
theorem results_run (h : HR P w0 E m.H m.next w) {tm : T Value} {nt : Nat} {a : Act} (ha : AR E tm nt a) (fn : Func) {l : List Value} (he : evResult P m tm fn.results.toList = some l) :
    ∃ v', (results fn a.tmps).run P w = .ok v' w ∧ VR E (oneOr l) v' := by
  obtain ⟨l', h1, h2⟩ := evResult_run h ha fn.results.toList l he
  haveI := sem_lawful
  refine ⟨oneOr l', ?_, ?_⟩
  · unfold results
    rw [Array.mapM_eq_mapM_toList, map_eq_pure_bind, bind_assoc, Sem.run_bind]
    refine Eq.trans (congrArg (fun r => Result.andThen r _) h1) ?_
    simp only [Result.andThen, pure_bind, Sem.run_pure]
    congr 1
    match l' with
    | [] => rfl
    | [v] => rfl
    | _ :: _ :: _ => rfl
  · cases h2 with
    | nil => exact .tuple .nil
    | cons a b =>
      cases b with
      | nil => exact a
      | cons c d => exact .tuple (.cons a (.cons c d))
/-- A caller's mode that stands for one of ours. -/
def MdR (E : Env) : Md → FrameMode → Prop
  | none, u => u = .returning
  | some (v, r), u => ∃ v', u = .panicking [{ v := v', recovered := r }] ∧ VR E v v'
theorem MdR.mono {E E' : Env} (h : E.le E') {u : Md} {u' : FrameMode} (k : MdR E u u') : MdR E' u u' := by
  cases u with
  | none => exact k
  | some p => obtain ⟨v', h1, h2⟩ := k; exact ⟨v', h1, h2.mono h⟩
theorem MdR.settle {u : Md} {u' : FrameMode} (k : MdR E u u') : MdR E (settleE u) (settle u') := by
  cases u with
  | none => cases k; rfl
  | some p =>
    obtain ⟨v, r⟩ := p
    obtain ⟨v', rfl, h2⟩ := k
    cases r
    · exact ⟨v', rfl, h2⟩
    · rfl
theorem isRecover_op {o : Op} (h : isRecover o = true) : ∃ args ts, o = .call { callee := .builtin .recover, args := args, argTypes := ts } := by
  unfold isRecover at h
  split at h
  · exact ⟨_, _, rfl⟩
  · cases h
/-- What must hold of every outcome that ours stands for; the callers' frames turn too. -/
def EndsS (P : Program) (w0 : World) (E : Env) (nt : Nat) (s : St) (e : Ex2) (s' : St) (u' : Md) (c₀ : Frame) (cs : List Frame) (Q : Exit → Act → List Frame → World → Prop) : Prop :=
  ∀ E' x a' w' um, E.le E' → SR P w0 E' nt s' a' w' → s'.m.lo = s.m.lo → s.m.next ≤ s'.m.next → ExR E' e x → MdR E' u' um → Q x a' ({ c₀ with mode := um } :: cs) w'
theorem EndsS.of {nt : Nat} {s s1 s' : St} {e : Ex2} {u' : Md} {c₀ : Frame} {cs : List Frame} {Q : Exit → Act → List Frame → World → Prop} {E' : Env} (h : EndsS P w0 E nt s e s' u' c₀ cs Q) (hE : E.le E') (h1 : s1.m.lo = s.m.lo) (h2 : s.m.next ≤ s1.m.next) :
    EndsS P w0 E' nt s1 e s' u' c₀ cs Q :=
  fun E'' x a' w' um k1 k2 k3 k4 k5 k6 => h E'' x a' w' um (Env.le_trans hE k1) k2 (k3.trans h1) (Nat.le_trans h2 k4) k5 k6
theorem evOpsS2_wp (hP : Plainly P) {call : Call2} (hcall : CallOK P w0 call) {nt : Nat} (hB : nt ≤ 1073741824) (c₀ : Frame) (cs : List Frame) : ∀ (l : List Oper) (k : Nat) (E : Env) (s s' : St) (u u' : Md) (um : FrameMode) (r : Option Value) (a : Act) (w : World) (Q : Exit → Act → List Frame → World → Prop),
    (∀ j, l[j]? = ops[k + j]?) → SR P w0 E nt s a w → MdR E u um → evOpsS2 call P nt ops l s u = .ok (r, s', u') → EndsS P w0 E nt s (opsEx r) s' u' c₀ cs Q → wpOpsS P ops Q (List.range' k l.length) a ({ c₀ with mode := um } :: cs) w := by
  intro l
  induction l with
  | nil =>
    intro k E s s' u u' um r a w Q _ h hu he hQ
    simp only [evOpsS2, Tr.ok.injEq, Prod.mk.injEq] at he
    obtain ⟨rfl, rfl, rfl⟩ := he
    exact hQ E .normal a w um E.le_refl h rfl (Nat.le_refl _) trivial hu
  | cons o l ih =>
    intro k E s s' u u' um r a w Q hops h hu he hQ
    have ho : ops[k]? = some o := by simpa using (hops 0).symm
    have hops' : ∀ j, l[j]? = ops[k + 1 + j]? := fun j => by have := hops (j + 1); simpa [Nat.add_assoc, Nat.add_comm 1 j] using this
    simp only [List.length_cons, List.range'_succ, wpOpsS, ho]
    simp only [evOpsS2] at he
    split at he
    · cases he
    · rename_i hd
      have hd := dstOk_lt (by simpa using hd)
      have hw := wantedE h.ar ops o
      split at he
      · rename_i hwt
        rw [hw, hwt, if_pos rfl]
        split at he
        · rename_i hrec
          obtain ⟨args, ts, hop⟩ := isRecover_op hrec
          have hrun : (execOp a.eval o).run P w = .ok .recover w := by
            unfold execOp
            rw [hop]
            rfl
          rw [hrun]
          simp only
          split at he
          · rename_i v
            obtain ⟨v', rfl, hv⟩ := hu
            simp only [recoverD]
            exact ih (k + 1) E ⟨Ev.putE s.tm o.dst v, s.df, s.m⟩ s' (some (v, true)) u' _ r _ w Q hops' ⟨h.hr, h.lo, h.ar.putE hd hB hv, by rw [put_defers]; exact h.df⟩ ⟨v', rfl, hv⟩ he (hQ.of E.le_refl rfl (Nat.le_refl _))
          · rename_i hno
            have hnone : recoverD ({ c₀ with mode := um } :: cs) = none := by
              cases u with
              | none => cases hu; rfl
              | some p =>
                obtain ⟨v, r⟩ := p
                cases r with
                | false => exact absurd rfl (hno v)
                | true => obtain ⟨v', rfl, _⟩ := hu; rfl
            rw [hnone]
            exact ih (k + 1) E ⟨Ev.putE s.tm o.dst .nilIface, s.df, s.m⟩ s' _ u' _ r _ w Q hops' ⟨h.hr, h.lo, h.ar.putE hd hB .nilIface, by rw [put_defers]; exact h.df⟩ hu he (hQ.of E.le_refl rfl (Nat.le_refl _))
        · suffices key : o.wp P a w (fun a' w' => wpOpsS P ops Q (List.range' (k + 1) l.length) a' ({ c₀ with mode := um } :: cs) w') (fun e a' w' => Q e a' ({ c₀ with mode := um } :: cs) w') by
            unfold Oper.wp at key
            generalize (execOp a.eval o).run P w = r at key ⊢
            cases r with
            | ok n w' => cases n <;> first | exact key | exact key.elim
            | halt x w' => exact key
          split at he
          · rename_i v m' hs
            refine exStep2_wp hP hcall h.hr h.lo h.ar hs fun E' v' w' k1 k2 k3 k4 k5 => ?_
            exact ih (k + 1) E' ⟨Ev.putE s.tm o.dst v, s.df, m'⟩ s' u u' um r _ w' Q hops' ⟨k2, by have := h.lo; simp only; omega, (h.ar.mono k1).putE hd hB k3, by rw [put_defers]; exact h.df.mono k1⟩ (hu.mono k1) he (hQ.of k1 k4 k5)
          · rename_i v m' hs
            simp only [Tr.ok.injEq, Prod.mk.injEq] at he
            obtain ⟨rfl, rfl, rfl⟩ := he
            refine exStep2_wp hP hcall h.hr h.lo h.ar hs fun E' v' w' k1 k2 k3 k4 k5 => ?_
            exact hQ E' _ a w' um k1 ⟨k2, by have := h.lo; simp only; omega, h.ar.mono k1, h.df.mono k1⟩ k4 k5 ⟨v', rfl, k3⟩ (hu.mono k1)
          · rename_i d hs
            refine exStep2_wp hP hcall h.hr h.lo h.ar hs fun d' hd' => ?_
            refine ih (k + 1) E ⟨Ev.putE s.tm o.dst Go.undef, d :: s.df, s.m⟩ s' u u' um r _ w Q hops' ⟨h.hr, h.lo, ?_, ?_⟩ hu he (hQ.of E.le_refl rfl (Nat.le_refl _))
            · have : AR E s.tm nt { a with defers := d' :: a.defers } := ⟨h.ar.glob, h.ar.size, h.ar.get⟩
              exact this.putE hd hB (VR.undef E)
            · rw [put_defers]
              exact .cons hd' h.df
          · cases he
      · rename_i hwt
        rw [hw, if_neg hwt]
        exact ih (k + 1) E ⟨Ev.putE s.tm o.dst Go.undef, s.df, s.m⟩ s' u u' um r _ w Q hops' ⟨h.hr, h.lo, h.ar.putE hd hB (VR.undef E), by rw [put_defers]; exact h.df⟩ hu he (hQ.of E.le_refl rfl (Nat.le_refl _))
theorem evCodeS2_wp (hP : Plainly P) (hm : P.follows .mixedOrders = true) {call rnd : Call2} (hcall : CallOK P w0 call) (hrnd : RndOK P w0 rnd) {nt : Nat} (hB : nt ≤ 1073741824) (c₀ : Frame) (cs : List Frame) : ∀ (n : Nat) (c : Code) (E : Env) (s s' : St) (u u' : Md) (um : FrameMode) (e : Ex2) (a : Act) (w : World) (Q : Exit → Act → List Frame → World → Prop),
    SR P w0 E nt s a w → MdR E u um → evCodeS2 call rnd P nt n c s u = .ok (e, s', u') → EndsS P w0 E nt s e s' u' c₀ cs Q → c.wpS P Q a ({ c₀ with mode := um } :: cs) w := by
  intro n
  induction n with
  | zero => intro c E s s' u u' um e a w Q _ _ he; simp [evCodeS2] at he
  | succ n ih =>
    intro c E s s' u u' um e a w Q h hu he hQ
    have rest : plain2 u (evCode2 false call rnd P nt n c s) = .ok (e, s', u') → c.wpS P Q a ({ c₀ with mode := um } :: cs) w := fun he => by
      unfold plain2 at he
      split at he
      · rename_i e1 s1 hs
        simp only [Tr.ok.injEq, Prod.mk.injEq] at he
        obtain ⟨rfl, rfl, rfl⟩ := he
        exact wpS_of_wp (wpIn_WF.1 (evCode2_wp hP hm hcall hrnd (rd := false) (ro := none) (fun _ => rfl) hB n c E s s1 e1 a w _ h hs fun E' x a' w' k1 k2 k3 k4 k5 => hQ E' x a' w' um k1 k2 k3 k4 k5 (hu.mono k1)))
      · cases he
    cases c with
    | seq x y =>
      refine wpS_seq ?_
      simp only [evCodeS2] at he
      split at he
      · rename_i s1 u1 hs
        refine ih x E s s1 u u1 um .normal a w _ h hu hs fun E' z a' w' um' k1 k2 k3 k4 k5 k6 => ?_
        cases z with
        | normal => exact ih y E' s1 s' u1 u' um' e a' w' Q k2 k6 he (hQ.of k1 k3 k4)
        | _ => exact k5.elim
      · rename_i r hno
        refine ih x E s s' u u' um e a w _ h hu he fun E' z a' w' um' k1 k2 k3 k4 k5 k6 => ?_
        have := hQ E' z a' w' um' k1 k2 k3 k4 k5 k6
        cases z with
        | normal =>
          cases e with
          | normal => exact absurd he (hno _ _)
          | _ => exact k5.elim
        | _ => exact this
    | cond c x y =>
      simp only [evCodeS2] at he
      split at he
      · rename_i hv
        have := ev_VR h.ar hv
        generalize hy : a.eval c = z at this
        cases this
        exact wpS_cond hy (ih x E s s' u u' um e a w Q h hu he hQ)
      · rename_i hv
        have := ev_VR h.ar hv
        generalize hy : a.eval c = z at this
        cases this
        exact wpS_cond hy (ih y E s s' u u' um e a w Q h hu he hQ)
      · cases he
    | region id ops draw =>
      cases draw with
      | true => simp only [evCodeS2] at he; exact rest he
      | false =>
        simp only [evCodeS2] at he
        have key : ∀ r, evOpsS2 call P nt ops ops.toList s u = .ok (r, s', u') → e = opsEx r → (Code.region id ops false).wpS P Q a ({ c₀ with mode := um } :: cs) w := fun r hr he' => by
          subst he'
          refine wpS_region ?_
          have := evOpsS2_wp (ops := ops) hP hcall hB c₀ cs ops.toList 0 E s s' u u' um r a w Q (by simp) h hu hr hQ
          rw [List.range_eq_range', ← Array.length_toList]
          exact this
        split at he
        · rename_i s1 u1 hs
          simp only [Tr.ok.injEq, Prod.mk.injEq] at he
          obtain ⟨rfl, rfl, rfl⟩ := he
          exact key none hs rfl
        · rename_i v s1 u1 hs
          simp only [Tr.ok.injEq, Prod.mk.injEq] at he
          obtain ⟨rfl, rfl, rfl⟩ := he
          exact key (some v) hs rfl
        · cases he
    | _ => simp only [evCodeS2] at he; exact rest he
end Go.Proofs.YtlkdjdcnbcegeaaGreatDoor.Ev

/-! Calls: what our machine answers is so. -/
namespace Go.Proofs.YtlkdjdcnbcegeaaGreatDoor.Ev
open Go.RowKit
set_option linter.unusedSimpArgs false

variable {P : Program} {w0 w : World} {E : Env} {m : Mem}

/-- A memory that comes of another. -/
def Onto (P : Program) (w0 : World) (E E' : Env) (m m' : Mem) (w' : World) : Prop := E.le E' ∧ HR P w0 E' m'.H m'.next w' ∧ m'.lo = m.lo ∧ m.next ≤ m'.next
theorem DR.nil_eq {ds : List Deferred} (h : DR P E [] ds) : ds = [] := by cases h; rfl
theorem evDef_run (hP : Plainly P) (hm : P.follows .mixedOrders = true) {call rnd : Call2} (hcall : CallOK P w0 call) (hrnd : RndOK P w0 rnd) {steps : Nat} {d1 : FuncId} {d2 : List Value} {u u' : Md} {m m' : Mem} (he : evDef call rnd P steps d1 d2 u m = .ok (u', m')) {args : Array Value} {um : FrameMode}
    (h : HR P w0 E m.H m.next w) (hlo : m.lo ≤ m.next) (hargs : VRL E d2 args.toList) (hu : MdR E u um) :
    CallsD P d1 args um w fun e um' w' => ∃ E' v, e = .returned v ∧ Onto P w0 E E' m m' w' ∧ MdR E' u' um' := by
  unfold evDef at he
  split at he
  · rename_i fn hf
    split at he
    · rename_i c hb
      split at he
      · rename_i hc
        simp only [Bool.and_eq_true, Nat.ble_eq] at hc
        refine callsD_of_wpS hf hb fun c₀ cs hmode => ?_
        subst hmode
        have hsr : SR P w0 E fn.ntmps ⟨T.leaf.fill 0 d2, [], m⟩ { tmps := args ++ Array.replicate (fn.ntmps - args.size) Go.undef, defers := [] } w := by
          refine ⟨h, hlo, ?_, .nil⟩
          have := AR.enter E h.glob hargs fn.ntmps (by omega) hc.2
          simpa using this
        have fin : ∀ e s, evCodeS2 call rnd P fn.ntmps steps c ⟨T.leaf.fill 0 d2, [], m⟩ u = .ok (e, s, u') → (e = .normal ∨ e = .ret) → s.df = [] → (∃ l, evResult P s.m s.tm fn.results.toList = some l) → m' = s.m →
            c.wpS P (bodyPostS P fn c₀ cs fun e um' w' => ∃ E' v, e = .returned v ∧ Onto P w0 E E' m m' w' ∧ MdR E' u' um') { tmps := args ++ Array.replicate (fn.ntmps - args.size) Go.undef, defers := [] } (c₀ :: cs) w := by
          intro e s hs hee hdf ⟨l, hl⟩ hm'
          clear he
          subst hm'
          refine evCodeS2_wp hP hm hcall hrnd hc.1 c₀ cs steps c E _ s u u' c₀.mode e _ w _ hsr hu hs fun E' x a' w' um' k1 k2 k3 k4 k5 k6 => ?_
          have hd : a'.defers = [] := by have := k2.df; rw [hdf] at this; exact this.nil_eq
          obtain ⟨v', r1, r2⟩ := results_run k2.hr k2.ar fn hl
          have key : a'.defers = [] ∧ ∃ uu, ({ c₀ with mode := um' } :: cs : List Frame) = { c₀ with mode := uu } :: cs ∧ ∃ v, (results fn a'.tmps).run P w' = .ok v w' ∧ ∃ E' v_1, Ending.returned v = .returned v_1 ∧ Onto P w0 E E' m s.m w' ∧ MdR E' u' uu :=
            ⟨hd, um', rfl, v', r1, E', v', rfl, ⟨k1, k2.hr, k3, k4⟩, k6⟩
          rcases hee with rfl | rfl
          · cases x with
            | normal => exact key
            | _ => exact k5.elim
          · cases x with
            | ret => exact key
            | _ => exact k5.elim
        split at he
        · rename_i s u1 hs
          split at he
          · rename_i l hdf hl
            simp only [Tr.ok.injEq, Prod.mk.injEq] at he
            obtain ⟨rfl, rfl⟩ := he
            exact fin _ s hs (.inl rfl) hdf ⟨l, hl⟩ rfl
          · cases he
        · rename_i s u1 hs
          split at he
          · rename_i l hdf hl
            simp only [Tr.ok.injEq, Prod.mk.injEq] at he
            obtain ⟨rfl, rfl⟩ := he
            exact fin _ s hs (.inr rfl) hdf ⟨l, hl⟩ rfl
          · cases he
        · cases he
        · cases he
      · cases he
    · cases he
  · cases he
theorem MdR.not_run {u : Md} {um : FrameMode} (h : MdR E u um) : um ≠ .run := by
  cases u with
  | none => cases h; simp
  | some p => obtain ⟨v, rfl, _⟩ := h; simp
/-- How a frame leaves, marks among its deferred calls. -/
def LeavesW (P : Program) (fn : Func) (tmps : Array Value) (R : Ending → World → Prop) : List Deferred → FrameMode → World → Prop
  | [], u, w => Leaves P fn tmps R [] u w
  | d :: ds, u, w => u ≠ .run ∧
      ((∃ r w', d.target = .collected r ∧ (Instr.takeDeferred r).run P w = .ok [] w' ∧ LeavesW P fn tmps R ds u w') ∨
       (∃ fv cap f args, d.target = .fn fv cap ∧ (invoke d.target d.args).run P w = .ok (.enter f args) w ∧
        CallsD P f args u w fun
          | .returned _, u', w' => LeavesW P fn tmps R ds (settle u') w'
          | .panicked chain, u', w' => LeavesW P fn tmps R ds (raised u' chain) w'
          | .outgrown, _, w' => R .outgrown w'))
theorem leaves_stepsW {fn : Func} {tmps : Array Value} {R : Ending → World → Prop} : ∀ (ds : List Deferred) (u : FrameMode) (w : World) (fr : Frame)
    (cs : List Frame), fr.mode = u → fr.defers = ds → fr.tmps = tmps → P.funcs[fr.fn]? = some fn → fr.kind = .normal → LeavesW P fn tmps R ds u w →
    ∃ e w' fr', R e w' ∧ Comes P (lone fr cs w) (lone fr' cs w') e ∧ fr'.fn = fr.fn ∧ fr'.leaving P w' e := by
  intro ds
  induction ds with
  | nil => exact fun u w fr cs hu hd ht hf hk h => leaves_steps [] u w fr cs hu hd ht hf hk h
  | cons d ds ih =>
    intro u w fr cs hu hd ht hf hk h
    obtain ⟨hrun, h⟩ := h
    rcases h with ⟨r, w', htar, htake, hrest⟩ | ⟨fv, cap, f, args, htar, hinv, hcall⟩
    · have h1 := step_collected (cs := cs) (hu ▸ hrun) hd htar htake
      obtain ⟨e', w'', fr', hR', hs', hfn', hl'⟩ := ih u w' { fr with defers := [] ++ ds } cs hu rfl ht hf hk hrest
      exact ⟨e', w'', fr', hR', Comes.of_steps (.one h1) hs', hfn', hl'⟩
    · have h1 := step_defer (cs := cs) (hu ▸ hrun) hd htar hinv
      obtain ⟨e, u', w', frX, hR, hsteps, hkX, hgo⟩ := hcall { fr with defers := ds } cs hu
      cases e with
      | returned v =>
        have h2 := step_going_returned (c := { { fr with defers := ds } with mode := u' }) (cs := cs) hkX hgo
        obtain ⟨e', w'', fr', hR', hs', hfn', hl'⟩ := ih (settle u') w' { { { fr with defers := ds } with mode := u' } with mode := settle u' } cs rfl rfl ht hf hk hR
        exact ⟨e', w'', fr', hR', Comes.of_steps (.head h1 (Steps.trans hsteps (.one h2))) hs', hfn', hl'⟩
      | panicked chain =>
        have h2 := step_going_panicked (c := { { fr with defers := ds } with mode := u' }) (cs := cs) hgo
        obtain ⟨e', w'', fr', hR', hs', hfn', hl'⟩ := ih (raised u' chain) w' { { { fr with defers := ds } with mode := u' } with mode := raised u' chain } cs rfl rfl ht hf hk hR
        exact ⟨e', w'', fr', hR', Comes.of_steps (.head h1 (Steps.trans hsteps (.one h2))) hs', hfn', hl'⟩
      | outgrown => exact ⟨.outgrown, w', fr, hR, Outgrown.of_steps (.one h1) hsteps, rfl, trivial⟩
theorem LeavesW.mono {fn : Func} {tmps : Array Value} {R R' : Ending → World → Prop} : ∀ {ds : List Deferred} {u : FrameMode} {w : World}, LeavesW P fn tmps R ds u w → (∀ e w, R e w → R' e w) → LeavesW P fn tmps R' ds u w := by
  intro ds
  induction ds with
  | nil =>
    intro u w h hr
    cases u with
    | run => exact h.elim
    | returning => obtain ⟨v, h1, h2⟩ := h; exact ⟨v, h1, hr _ _ h2⟩
    | panicking ch => exact hr _ _ h
  | cons d ds ih =>
    intro u w h hr
    obtain ⟨h0, h⟩ := h
    refine ⟨h0, ?_⟩
    rcases h with ⟨r, w', h1, h2, h3⟩ | ⟨fv, cap, f, args, h1, h2, h3⟩
    · exact .inl ⟨r, w', h1, h2, ih h3 hr⟩
    · refine .inr ⟨fv, cap, f, args, h1, h2, CallsD.mono h3 fun e u' w' hh => ?_⟩
      cases e with
      | returned v => exact ih hh hr
      | panicked ch => exact ih hh hr
      | outgrown => exact hr _ _ hh
def bodyPostW (P : Program) (fn : Func) (R : Ending → World → Prop) : Exit → Act → World → Prop
  | .normal, a, w | .ret, a, w => LeavesW P fn a.tmps R a.defers .returning w
  | .panic chain, a, w => LeavesW P fn a.tmps R a.defers (.panicking chain) w
  | .outgrown, _, w => R .outgrown w
  | _, _, _ => False
theorem calls_of_wp_W {f : FuncId} {fn : Func} {c : Code} {args : Array Value} {w : World} {R : Ending → World → Prop}
    (hf : P.funcs[f]? = some fn) (hb : fn.body = some c)
    (h : c.wp P (bodyPostW P fn R) { tmps := args ++ Array.replicate (fn.ntmps - args.size) undef, defers := [] } w) : Calls P f args w R := by
  intro cs
  let b : Frame := { (default : Frame) with fn := f, kind := .normal }
  have henter : Frame.enter P f args .normal =
      b.at { tmps := args ++ Array.replicate (fn.ntmps - args.size) undef, defers := [] } [.code c] := by
    simp [Frame.enter, Frame.at, hf, hb, b]
  obtain ⟨e, a', w', hq, harr⟩ := h b [] cs
  rw [← henter] at harr
  cases e with
  | normal =>
    obtain ⟨e', w'', fr', hR, hs, hfn, hl⟩ := leaves_stepsW a'.defers .returning w' { b.at a' [] with mode := .returning } cs rfl rfl rfl hf rfl hq
    exact ⟨e', w'', fr', hR, Comes.of_steps (Steps.trans harr (.one step_end)) hs, hfn, hl⟩
  | ret =>
    obtain ⟨todo, hs₀⟩ := harr
    obtain ⟨e', w'', fr', hR, hs, hfn, hl⟩ := leaves_stepsW a'.defers .returning w' { b.at a' todo with mode := .returning } cs rfl rfl rfl hf rfl hq
    exact ⟨e', w'', fr', hR, Comes.of_steps hs₀ hs, hfn, hl⟩
  | panic chain =>
    obtain ⟨todo, hs₀⟩ := harr
    obtain ⟨e', w'', fr', hR, hs, hfn, hl⟩ := leaves_stepsW a'.defers (.panicking chain) w' { b.at a' todo with mode := .panicking chain } cs rfl rfl rfl hf rfl hq
    exact ⟨e', w'', fr', hR, Comes.of_steps hs₀ hs, hfn, hl⟩
  | exit id => exact hq.elim
  | goto l => exact hq.elim
  | outgrown => exact ⟨.outgrown, w', b, hq, harr.resolve_left (by simp [b]), rfl, trivial⟩
theorem evLeave_run (hP : Plainly P) (hm : P.follows .mixedOrders = true) {call rnd : Call2} (hcall : CallOK P w0 call) (hrnd : RndOK P w0 rnd) {steps : Nat} {fn : Func} {tmps : Array Value} {R : Ending → World → Prop} : ∀ (ds : List Df) (u u' : Md) (m m' : Mem) (E : Env) (w : World) (dm : List Deferred) (um : FrameMode),
    evLeave (evDef call rnd P steps) ds u m = .ok (u', m') → DR P E ds dm → HR P w0 E m.H m.next w → m.lo ≤ m.next → MdR E u um →
    (∀ E' w' um', Onto P w0 E E' m m' w' → MdR E' u' um' → LeavesW P fn tmps R [] um' w') → LeavesW P fn tmps R dm um w := by
  intro ds
  induction ds with
  | nil =>
    intro u u' m m' E w dm um he hd h hlo hu hk
    simp only [evLeave, Tr.ok.injEq, Prod.mk.injEq] at he
    obtain ⟨rfl, rfl⟩ := he
    rw [hd.nil_eq]
    exact hk E w um ⟨E.le_refl, h, rfl, Nat.le_refl _⟩ hu
  | cons d ds ih =>
    intro u u' m m' E w dm um he hd h hlo hu hk
    cases d with
    | fn f l =>
      simp only [evLeave] at he
      split at he
      · rename_i u1 m1 hd1
        cases hd with
        | cons hone htail =>
          obtain ⟨cap, args, h1, h2, h3⟩ := hone
          refine ⟨hu.not_run, .inr ⟨_, cap, f, args, h1, h2 w, ?_⟩⟩
          refine CallsD.mono (evDef_run hP hm hcall hrnd hd1 h hlo h3 hu) fun e um1 w1 hh => ?_
          obtain ⟨E1, v, rfl, ⟨k1, k2, k3, k4⟩, k5⟩ := hh
          refine ih (settleE u1) u' m1 m' E1 w1 _ (settle um1) he (htail.mono k1) k2 (by omega) k5.settle fun E' w' um' ⟨q1, q2, q3, q4⟩ q5 => ?_
          exact hk E' w' um' ⟨Env.le_trans k1 q1, q2, q3.trans k3, Nat.le_trans k4 q4⟩ q5
      · cases he
    | mark D =>
      simp only [evLeave] at he
      split at he
      · rename_i hg
        split at he
        · rename_i hc
          simp only [Bool.and_eq_true, Nat.blt_eq, Nat.ble_eq] at hc
          cases hd with
          | cons hone htail =>
            obtain ⟨b, h1, h2⟩ := hone
            obtain ⟨b', r, q1, q2, rfl⟩ := h.obj h1 hg
            obtain rfl : b = b' := by rw [h1] at q1; injection q1
            have hdm := h.dom _ _ h1
            have hr2 : HR P w0 E (m.H.del D) m.next (w.putObj b (.deferred none)) := by
              refine (h.forget hc.1).keep (putObj_below (Below.refl _ _) (hdm.2 hc.2).1) fun i o b2 hi hb2 => World.putObj_heap_other fun e => ?_
              subst e
              rw [T.get_del _ _ hc.1] at hi
              split at hi
              · cases hi
              · rename_i hne
                exact hne (h.inj _ _ _ _ _ hi hg hb2 h1)
            refine ⟨hu.not_run, .inl ⟨b, w.putObj b (.deferred none), h2, run_takeDeferred q2, ?_⟩⟩
            exact ih u u' { m with H := m.H.del D } m' E _ _ um he htail hr2 hlo hu fun E' w' um' ⟨q1, q2, q3, q4⟩ q5 => hk E' w' um' ⟨q1, q2, q3, q4⟩ q5
        · cases he
      · cases he
theorem evEnd_run (hP : Plainly P) (hm : P.follows .mixedOrders = true) {call rnd : Call2} (hcall : CallOK P w0 call) (hrnd : RndOK P w0 rnd) {steps nt : Nat} {fn : Func} {f : Nat} {s : St} {u : Md} {out : Out} {m m' : Mem} {a : Act} {um : FrameMode} {E0 : Env}
    (he : evEnd call rnd P steps fn f s u = .ok (out, m')) (h : SR P w0 E nt s a w) (hu : MdR E u um) (hE : E0.le E) (h1 : s.m.lo = m.lo) (h2 : m.next ≤ s.m.next) :
    LeavesW P fn a.tmps (fun e w' => ∃ E', E0.le E' ∧ HR P w0 E' m'.H m'.next w' ∧ m'.lo = m.lo ∧ m.next ≤ m'.next ∧ OutR E' out e) a.defers um w := by
  unfold evEnd at he
  have go : ∀ u' m1, evLeave (evDef call rnd P steps) s.df u s.m = .ok (u', m1) → (∀ E' w' um', Onto P w0 E E' s.m m1 w' → MdR E' u' um' → LeavesW P fn a.tmps (fun e w' => ∃ E', E0.le E' ∧ HR P w0 E' m'.H m'.next w' ∧ m'.lo = m.lo ∧ m.next ≤ m'.next ∧ OutR E' out e) [] um' w') →
      LeavesW P fn a.tmps (fun e w' => ∃ E', E0.le E' ∧ HR P w0 E' m'.H m'.next w' ∧ m'.lo = m.lo ∧ m.next ≤ m'.next ∧ OutR E' out e) a.defers um w := fun u' m1 hl hk =>
    evLeave_run hP hm hcall hrnd s.df u u' s.m m1 E w a.defers um hl h.df h.hr h.lo hu hk
  have ret : ∀ m1 l, evLeave (evDef call rnd P steps) s.df u s.m = .ok (none, m1) → evResult P m1 s.tm fn.results.toList = some l → m' = m1 → out = .ret (oneOr l) →
      LeavesW P fn a.tmps (fun e w' => ∃ E', E0.le E' ∧ HR P w0 E' m'.H m'.next w' ∧ m'.lo = m.lo ∧ m.next ≤ m'.next ∧ OutR E' out e) a.defers um w := fun m1 l hl hr e1 e2 => by
    subst e1 e2
    refine go none m' hl fun E' w' um' ⟨k1, k2, k3, k4⟩ k5 => ?_
    cases k5
    obtain ⟨v', r1, r2⟩ := results_run k2 (h.ar.mono k1) fn hr
    exact ⟨v', r1, E', Env.le_trans hE k1, k2, k3.trans h1, Nat.le_trans h2 k4, r2⟩
  split at he
  · rename_i m1 hl
    split at he
    · rename_i v hr
      simp only [Tr.ok.injEq, Prod.mk.injEq] at he
      exact ret m1 [v] hl hr he.2.symm he.1.symm
    · rename_i vs hno hr
      simp only [Tr.ok.injEq, Prod.mk.injEq] at he
      refine ret m1 vs hl hr he.2.symm ?_
      rw [← he.1]
      congr 1
      match vs with
      | [] => rfl
      | [v] => exact absurd rfl (hno v)
      | _ :: _ :: _ => rfl
    · cases he
  · rename_i v m1 hl
    simp only [Tr.ok.injEq, Prod.mk.injEq] at he
    obtain ⟨rfl, rfl⟩ := he
    refine go (some (v, false)) m1 hl fun E' w' um' ⟨k1, k2, k3, k4⟩ k5 => ?_
    obtain ⟨v', rfl, k6⟩ := k5
    exact ⟨E', Env.le_trans hE k1, k2, k3.trans h1, Nat.le_trans h2 k4, v', rfl, k6⟩
  · cases he
  · cases he
/-- Summaries that are so. -/
def SumOK (P : Program) (w0 : World) (sm : Sums) : Prop :=
  ∀ (f : FuncId) (l : List Value) (m : Mem) (out : Out) (m' : Mem), sm f l m = some (out, m') →
    (∃ fn, P.funcs[f]? = some fn ∧ fn.body.isSome = true) ∧
    ∀ (E : Env) (w : World) (args : Array Value), HR P w0 E m.H m.next w → m.lo ≤ m.next → VRL E l args.toList →
      Calls P f args w fun e w' => ∃ E', E.le E' ∧ HR P w0 E' m'.H m'.next w' ∧ m'.lo = m.lo ∧ m.next ≤ m'.next ∧ OutR E' out e
/-- A round's values in the temporaries. -/
theorem zipPut_AR {nt : Nat} (hB : nt ≤ 1073741824) : ∀ (ps : List Nat) (l l' : List Value) (tm tm1 : T Value) (a : Act), zipPut nt ps l tm = some tm1 → VRL E l l' → AR E tm nt a → ps.length = l'.length ∧
    AR E tm1 nt { a with tmps := (ps.zip l').foldl (fun tmps x => tmps.setIfInBounds x.1 x.2) a.tmps } := by
  intro ps
  induction ps with
  | nil =>
    intro l l' tm tm1 a he hl ha
    cases hl with
    | nil => simp only [zipPut, Option.some.injEq] at he; subst he; exact ⟨rfl, ha⟩
    | cons _ _ => simp [zipPut] at he
  | cons t ts ih =>
    intro l l' tm tm1 a he hl ha
    cases hl with
    | nil => simp [zipPut] at he
    | cons hv hs =>
      simp only [zipPut] at he
      split at he
      · rename_i hc
        rw [Nat.blt_eq] at hc
        obtain ⟨h1, h2⟩ := ih _ _ _ _ _ he hs (ha.put hc (by omega) hv)
        exact ⟨by simp [h1], h2⟩
      · cases he
theorem endRnd_ok {L : Nat} {e : Ex2} {m m' : Mem} {out : Out} (he : endRnd L e m = .ok (out, m')) (hL : 64 ≤ L) (hL2 : L < 1073741824) {b : Nat} (h : HR P w0 E m.H m.next w) (hb : E.blk L = some b) {x : Exit} {a : Act} (hx : ExR E e x)
    {R : Ending → World → Prop} (hR : ∀ t w', HR P w0 E m'.H m'.next w' → m'.lo = m.lo → m'.next = m.next → out = .ret (.bool t) → R (.returned (.bool t)) w') : roundPost P b R x a w := by
  unfold endRnd at he
  split at he
  · rename_i tm nt ps asg body dfr st pend hg
    obtain ⟨b', r, q1, q2, fn2, tmps2, bd2, q3, q4, q5, rfl⟩ := h.obj hb hg
    obtain rfl : b = b' := by rw [hb] at q1; injection q1
    have hd := h.dom _ _ hb
    have fin : ∀ (st' : LoopState) (pend' : Option Code), HR P w0 E (m.H.set L (.loop tm nt ps asg body dfr st' pend')) m.next
        (w.putObj b (.loop { state := st', pending := pend', fn := fn2, tmps := tmps2, params := ps.toArray, assign := asg, body := body, defers := bd2 })) := fun st' pend' =>
      h.turn hL2 hg hb ⟨fn2, tmps2, bd2, q3, q4, q5, rfl⟩ (putObj_below (Below.refl _ _) (hd.2 hL).1) (World.putObj_heap_same (hd.2 hL).2) (fun k hk => World.putObj_heap_other hk)
    split at he
    · simp only [Tr.ok.injEq, Prod.mk.injEq] at he
      obtain ⟨rfl, rfl⟩ := he
      cases x with
      | normal => exact ⟨_, _, run_endRound none q2, hR true _ (fin .ready none) rfl rfl rfl⟩
      | _ => exact hx.elim
    · simp only [Tr.ok.injEq, Prod.mk.injEq] at he
      obtain ⟨rfl, rfl⟩ := he
      cases x with
      | ret => exact ⟨_, _, run_endRound (some .ret) q2, hR false _ (fin .done (some .ret)) rfl rfl rfl⟩
      | _ => exact hx.elim
    · rename_i id
      simp only [Tr.ok.injEq, Prod.mk.injEq] at he
      obtain ⟨rfl, rfl⟩ := he
      cases x with
      | exit j => cases hx; exact ⟨_, _, run_endRound (some (.exit id)) q2, hR false _ (fin .done (some (.exit id))) rfl rfl rfl⟩
      | _ => exact hx.elim
    · cases he
  · cases he
theorem evRound_ok (hP : Plainly P) (hm : P.follows .mixedOrders = true) {call rnd : Call2} (hcall : CallOK P w0 call) (hrnd : RndOK P w0 rnd) (steps : Nat) : RndOK P w0 (evRound call rnd P steps) := by
  intro L l m out m' he E w args b h hlo hargs hbL
  unfold evRound at he
  split at he
  · rename_i tm nt ps asg body dfr pend hg
    split at he
    · rename_i hc
      simp only [Bool.and_eq_true, Nat.blt_eq, Nat.ble_eq] at hc
      obtain ⟨⟨hnt, hL2⟩, hL⟩ := hc
      obtain ⟨b', r, q1, q2, fn2, tmps2, bd2, q3, q4, q5, rfl⟩ := h.obj hbL hg
      obtain rfl : b = b' := by rw [hbL] at q1; injection q1
      split at he
      · rename_i tm1 hz
        obtain ⟨hlen, har⟩ := zipPut_AR hnt ps l args.toList tm tm1 { tmps := tmps2, defers := [] } hz hargs ⟨h.glob, q4, q5⟩
        have hzip : (ps.toArray.zip args).foldl (fun tmps (t, a) => tmps.setIfInBounds t a) tmps2 = (ps.zip args.toList).foldl (fun tmps x => tmps.setIfInBounds x.1 x.2) tmps2 := by
          have : ps.toArray.zip args = (ps.zip args.toList).toArray := by apply Array.ext'; simp
          rw [this, List.foldl_toArray']
          · simp
        refine ⟨fn2, _, asg, body, run_yield q2 (by simpa using hlen.symm), roundIn_of_wpIn trivial ?_⟩
        simp only
        rw [hzip]
        split at he
        · rename_i s1 hs1
          refine evCode2_wp hP hm hcall hrnd (rd := true) (ro := some b) (fun h => by cases h) hnt steps asg E ⟨tm1, [], m⟩ s1 .normal _ w _ ⟨h, hlo, har, .nil⟩ hs1 fun E1 x a1 w1 k1 k2 k3 k4 k5 => ?_
          cases x with
          | normal =>
            split at he
            · rename_i tm2 nt2 ps2 asg2 body2 dfr2 pend2 hg2
              have hb1 := (k1.to _ _ hbL).1
              obtain ⟨b', r, p1, p2, fn3, tmps3, bd3, p3, p4, p5, rfl⟩ := k2.hr.obj hb1 hg2
              obtain rfl : b = b' := by rw [hb1] at p1; injection p1
              have hd := k2.hr.dom _ _ hb1
              have hr1 : HR P w0 E1 (s1.m.H.set L (.loop tm2 nt2 ps2 asg2 body2 dfr2 .busy pend2)) s1.m.next
                  (w1.putObj b (.loop { state := .busy, pending := pend2, fn := fn3, tmps := tmps3, params := ps2.toArray, assign := asg2, body := body2, defers := bd3 })) :=
                k2.hr.turn hL2 hg2 hb1 ⟨fn3, tmps3, bd3, p3, p4, p5, rfl⟩ (putObj_below (Below.refl _ _) (hd.2 hL).1) (World.putObj_heap_same (hd.2 hL).2) (fun k hk => World.putObj_heap_other hk)
              refine ⟨_, run_beginRound p2 rfl, ?_⟩
              split at he
              · rename_i e2 s2 hs2
                refine evCode2_wp hP hm hcall hrnd (rd := true) (ro := some b) (fun h => by cases h) hnt steps body E1 ⟨s1.tm, s1.df, { s1.m with H := s1.m.H.set L (.loop tm2 nt2 ps2 asg2 body2 dfr2 .busy pend2) }⟩ s2 e2 a1 _ _ ⟨hr1, k2.lo, k2.ar, k2.df⟩ hs2 fun E2 x2 a2 w2 j1 j2 j3 j4 j5 => ?_
                refine endRnd_ok he hL hL2 j2.hr (j1.to _ _ hb1).1 j5 fun t w' i1 i2 i3 i4 => ?_
                refine ⟨E2, Env.le_trans k1 j1, i1, i2.trans (j3.trans k3), ?_, by rw [i4]; exact .bool t⟩
                rw [i3]
                exact Nat.le_trans k4 j4
              · cases he
            · cases he
          | _ => exact k5.elim
        · cases he
        · cases he
      · cases he
    · cases he
  · cases he
theorem evCall3_ok (hP : Plainly P) (hm : P.follows .mixedOrders = true) {sm : Sums} (hsm : SumOK P w0 sm) (steps : Nat) : ∀ n, CallOK P w0 (evCall3 sm P steps n false) ∧ RndOK P w0 (evCall3 sm P steps n true) := by
  intro n
  induction n with
  | zero => exact ⟨fun f l m out m' he => by simp [evCall3] at he, fun f l m out m' he => by simp [evCall3] at he⟩
  | succ n ih =>
    obtain ⟨ih, ihr⟩ := ih
    refine ⟨?_, ?_⟩
    · intro f l m out m' he
      simp only [evCall3] at he
      split at he
      · rename_i r hs
        simp only [Tr.ok.injEq] at he
        subst he
        exact hsm f l m out m' hs
      · split at he
        · rename_i fn hf
          split at he
          · rename_i c hb
            split at he
            · rename_i hc
              simp only [Bool.and_eq_true, Nat.ble_eq] at hc
              refine ⟨⟨fn, hf, by rw [hb]; rfl⟩, fun E w args h hlo hargs => ?_⟩
              refine calls_of_wp_W hf hb ((wpIn_WF (n := 0)).1 ?_)
              have hsr : SR P w0 E fn.ntmps ⟨T.leaf.fill 0 l, [], m⟩ { tmps := args ++ Array.replicate (fn.ntmps - args.size) Go.undef, defers := [] } w := by
                refine ⟨h, hlo, ?_, .nil⟩
                have := AR.enter E h.glob hargs fn.ntmps (by omega) hc.2
                simpa using this
              split at he
              · rename_i s hs
                refine evCode2_wp hP hm ih ihr (rd := false) (ro := none) (fun _ => rfl) hc.1 steps c E _ s .normal _ w _ hsr hs fun E' x a' w' k1 k2 k3 k4 k5 => ?_
                cases x with
                | normal => exact evEnd_run hP hm ih ihr he k2 (um := .returning) rfl k1 k3 k4
                | _ => exact k5.elim
              · rename_i s hs
                refine evCode2_wp hP hm ih ihr (rd := false) (ro := none) (fun _ => rfl) hc.1 steps c E _ s .ret _ w _ hsr hs fun E' x a' w' k1 k2 k3 k4 k5 => ?_
                cases x with
                | ret => exact evEnd_run hP hm ih ihr he k2 (um := .returning) rfl k1 k3 k4
                | _ => exact k5.elim
              · rename_i v s hs
                refine evCode2_wp hP hm ih ihr (rd := false) (ro := none) (fun _ => rfl) hc.1 steps c E _ s (.pan v) _ w _ hsr hs fun E' x a' w' k1 k2 k3 k4 k5 => ?_
                cases x with
                | panic ch =>
                  obtain ⟨v', rfl, k6⟩ := k5
                  exact evEnd_run hP hm ih ihr he k2 (um := .panicking [{ v := v', recovered := false }]) ⟨v', rfl, k6⟩ k1 k3 k4
                | _ => exact k5.elim
              · cases he
              · cases he
            · cases he
          · cases he
        · cases he
    · intro L l m out m' he
      simp only [evCall3] at he
      exact evRound_ok hP hm ih ihr steps L l m out m' he
theorem evCall2_ok (hP : Plainly P) (hm : P.follows .mixedOrders = true) {sm : Sums} (hsm : SumOK P w0 sm) (steps n : Nat) : CallOK P w0 (evCall2 sm P steps n) := (evCall3_ok hP hm hsm steps n).1
/-- A function without arguments that our machine answers with true. -/
theorem ev_true (hP : Plainly P) (hm : P.follows .mixedOrders = true) {sm : Sums} (w : World) (hsm : SumOK P w sm) (steps n : Nat) (f : FuncId) {m' : Mem} (he : evCall2 sm P steps n f [] ⟨.leaf, 64, 0⟩ = .ok (.ret (.bool true), m')) :
    Calls P f #[] w fun e w' => e = .returned (.bool true) ∧ Below w.heap.size w w' := by
  obtain ⟨_, h⟩ := evCall2_ok hP hm hsm steps n f [] ⟨.leaf, 64, 0⟩ _ _ he
  refine Calls.mono (h _ w #[] (HR.start w) (Nat.zero_le _) .nil) fun e w' ⟨E', _, k2, _, _, k5⟩ => ?_
  cases e with
  | returned v => cases k5; exact ⟨rfl, k2.below⟩
  | _ => exact k5.elim
/-- No summaries. -/
theorem no_sums : SumOK P w0 fun _ _ _ => none := fun _ _ _ _ _ h => by cases h
end Go.Proofs.YtlkdjdcnbcegeaaGreatDoor.Ev

/-! A call whose outcome hangs on a row's capacity: both ways are reckoned, and come to the same. -/
namespace Go.Proofs.YtlkdjdcnbcegeaaGreatDoor.Ev
open Go.RowKit
set_option linter.unusedSimpArgs false

variable {P : Program} {w0 w w' : World} {E : Env} {m : Mem}

/-! ### equal blocks -/
def entEq : List MapEntry → List MapEntry → Bool
  | [], [] => true
  | ⟨k, v, b⟩ :: r, ⟨k', v', b'⟩ :: r' => veq k k' && veq v v' && Nat.beq b b' && entEq r r'
  | _, _ => false
theorem entEq_eq : ∀ (x y : List MapEntry), entEq x y = true → x = y := by
  intro x
  induction x with
  | nil => intro y h; cases y with | nil => rfl | cons _ _ => simp [entEq] at h
  | cons a x ih =>
    intro y h
    obtain ⟨k, v, b⟩ := a
    cases y with
    | nil => simp [entEq] at h
    | cons a' y =>
      obtain ⟨k', v', b'⟩ := a'
      simp only [entEq, Bool.and_eq_true] at h
      obtain ⟨⟨⟨h1, h2⟩, h3⟩, h4⟩ := h
      rw [veq_eq _ _ h1, veq_eq _ _ h2, Nat.eq_of_beq_eq_true h3, ih y h4]
def aeq : AObj → AObj → Bool
  | .cells cs n e g, .cells cs' n' e' g' => teq cs cs' && Nat.beq n n' && Nat.beq e e' && (g == g')
  | .map es c, .map es' c' => entEq es es' && Nat.beq c c'
  | .iter s p, .iter s' p' => decide (s = s') && Nat.beq p p'
  | .miter m a b c, .miter m' a' b' c' => decide (m = m') && Nat.beq a a' && Nat.beq b b' && decide (c = c')
  | .dfr, .dfr => true
  | _, _ => false
theorem aeq_eq {a b : AObj} (h : aeq a b = true) : a = b := by
  unfold aeq at h
  split at h
  · simp only [Bool.and_eq_true, beq_iff_eq] at h
    obtain ⟨⟨⟨h1, h2⟩, h3⟩, h4⟩ := h
    rw [teq_eq _ _ h1, Nat.eq_of_beq_eq_true h2, Nat.eq_of_beq_eq_true h3, h4]
  · simp only [Bool.and_eq_true] at h
    rw [entEq_eq _ _ h.1, Nat.eq_of_beq_eq_true h.2]
  · simp only [Bool.and_eq_true, decide_eq_true_eq] at h
    rw [h.1, Nat.eq_of_beq_eq_true h.2]
  · simp only [Bool.and_eq_true, decide_eq_true_eq] at h
    obtain ⟨⟨⟨h1, h2⟩, h3⟩, h4⟩ := h
    rw [h1, Nat.eq_of_beq_eq_true h2, Nat.eq_of_beq_eq_true h3, h4]
  · rfl
  · cases h
/-- Does whatever lies in one memory lie so in another? -/
def agreeT : T AObj → T AObj → Bool
  | .leaf, _ => true
  | .node a v b, .node a' v' b' => (match v, v' with
    | none, _ => true
    | some o, some o' => aeq o o'
    | _, _ => false) && agreeT a a' && agreeT b b'
  | .node a none b, .leaf => agreeT a .leaf && agreeT b .leaf
  | .node _ (some _) _, .leaf => false
theorem agreeT_get : ∀ (t t' : T AObj), agreeT t t' = true → ∀ i o, t.get i = some o → t'.get i = some o := by
  intro t
  induction t with
  | leaf => intro t' _ i o h; simp [T.get] at h
  | node a v b iha ihb =>
    intro t' h i o hg
    cases t' with
    | leaf =>
      cases v with
      | some _ => simp [agreeT] at h
      | none =>
        simp only [agreeT, Bool.and_eq_true] at h
        simp only [T.get] at hg
        split at hg
        · cases hg
        · split at hg
          · have := iha .leaf h.1 _ o hg; simp [T.get] at this
          · have := ihb .leaf h.2 _ o hg; simp [T.get] at this
    | node a' v' b' =>
      simp only [agreeT, Bool.and_eq_true] at h
      simp only [T.get] at hg ⊢
      split at hg
      · rename_i hi
        rw [if_pos hi]
        subst hg
        cases v' with
        | none => simp at h
        | some o' => simp only at h; rw [aeq_eq h.1.1]
      · rename_i hi
        rw [if_neg hi]
        split at hg
        · rename_i h1; rw [if_pos h1]; exact iha a' h.1.2 _ o hg
        · rename_i h1; rw [if_neg h1]; exact ihb b' h.2 _ o hg

/-! ### other names for a block -/
/-- Whatever lies in memory is numbered below what comes next. -/
theorem HR.lt {H : T AObj} {next : Nat} (h : HR P w0 E H next w) {i : Nat} {o : AObj} (hg : H.get i = some o) : i < next := by
  cases hp : E.ph i with
  | true => exact (h.ph i hp).1
  | false => obtain ⟨b, _, hb, _⟩ := h.born i o hg hp; exact (h.dom i b hb).1
theorem Env.le_more_ge {H : T AObj} {next q : Nat} (h : HR P w0 E H next w) (hq : next ≤ q) (b : Nat) (c : Option (Nat × Nat)) : E.le (E.more q b c) := ⟨fun i b' hb => by
  have := (h.dom i b' hb).1
  simp only [Env.more]
  rw [if_neg (by omega), if_neg (by omega)]
  exact ⟨hb, rfl⟩, rfl⟩
/-- A block has another name from now on, beside some of what lies in memory. -/
theorem HR.name {H H' : T AObj} {next q : Nat} (h : HR P w0 E H next w) (hq : next ≤ q) (hq2 : q < 1073741824) {p b : Nat} (h64 : 64 ≤ p) (hb : E.blk p = some b) {o o' : AObj} (hg : H.get p = some o) {c : Option (Nat × Nat)}
    (hs : ∀ i u, H'.get i = some u → H.get i = some u ∧ i ≠ p) (ho : ∀ r, w.heap[b]? = some r → OR P E p o r → OR P (E.more q b c) q o' r) : HR P w0 (E.more q b c) (H'.set q o') (q + 1) w := by
  have hle := Env.le_more_ge h hq b c
  have hbk : ∀ i b', (E.more q b c).blk i = some b' → (i = q ∧ b' = b) ∨ (i ≠ q ∧ E.blk i = some b') := by
    intro i b' e
    simp only [Env.more] at e
    split at e
    · injection e with e; exact .inl ⟨‹_›, e.symm⟩
    · exact .inr ⟨‹_›, e⟩
  have hget : ∀ i u, (H'.set q o').get i = some u → (i = q ∧ u = o') ∨ (i ≠ q ∧ H'.get i = some u) := fun i u e => by
    rw [T.get_set _ _ _ hq2] at e
    split at e
    · injection e with e; exact .inl ⟨‹_›, e.symm⟩
    · exact .inr ⟨‹_›, e⟩
  refine ⟨h.below, fun i b' e => ?_, fun g hgl => (hle.to g g (h.glob g hgl)).1, fun i j o1 o2 b' h1 h2 e1 e2 => ?_, fun i hi => ?_, fun i u hu hp => ?_⟩
  · rcases hbk i b' e with ⟨rfl, rfl⟩ | ⟨_, e⟩
    · exact ⟨by omega, fun _ => (h.dom p _ hb).2 h64⟩
    · have := h.dom i b' e; exact ⟨by omega, this.2⟩
  · rcases hget i o1 h1 with ⟨rfl, _⟩ | ⟨hi, g1⟩ <;> rcases hget j o2 h2 with ⟨rfl, _⟩ | ⟨hj, g2⟩
    · rfl
    · rcases hbk i b' e1 with ⟨_, rfl⟩ | ⟨e, _⟩
      · rcases hbk j _ e2 with ⟨e, _⟩ | ⟨_, e2⟩
        · exact absurd e hj
        · exact absurd (h.inj j p o2 o _ (hs j o2 g2).1 hg e2 hb) (hs j o2 g2).2
      · exact absurd rfl e
    · rcases hbk j b' e2 with ⟨_, rfl⟩ | ⟨e, _⟩
      · rcases hbk i _ e1 with ⟨e, _⟩ | ⟨_, e1⟩
        · exact absurd e hi
        · exact absurd (h.inj i p o1 o _ (hs i o1 g1).1 hg e1 hb) (hs i o1 g1).2
      · exact absurd rfl e
    · rcases hbk i b' e1 with ⟨e, _⟩ | ⟨_, e1⟩
      · exact absurd e hi
      · rcases hbk j b' e2 with ⟨e, _⟩ | ⟨_, e2⟩
        · exact absurd e hj
        · exact h.inj i j o1 o2 b' (hs i o1 g1).1 (hs j o2 g2).1 e1 e2
  · have := h.ph i hi
    refine ⟨by omega, ?_⟩
    simp only [Env.more]
    rw [if_neg (by omega)]
    exact this.2
  · rcases hget i u hu with ⟨rfl, rfl⟩ | ⟨hi, hu⟩
    · obtain ⟨b', r, k1, k2, k3⟩ := h.obj hb hg
      rw [hb] at k1
      injection k1 with k1
      subst k1
      exact ⟨b, r, by simp [Env.more], k2, ho r k2 k3⟩
    · obtain ⟨b', r, k1, k2, k3⟩ := h.born i u (hs i u hu).1 hp
      exact ⟨b', r, (hle.to i b' k1).1, k2, k3.mono hle k1⟩

/-! ### both ways -/
def reMem (m : Mem) (i : Nat) (cs : T Value) (n : Nat) (elem : TypeId) (g : Bool) : Mem := { m with H := (m.H.del i).set m.next (.cells cs n elem g), next := m.next + 1 }
/-- What one way comes to: the row's cells, and the number that comes next. -/
def capEnd (m : Mem) (i k1 elem s : Nat) : Tr (Out × Mem) → Option (List Value × Nat)
  | .ok (.ret (.slice (some ⟨p, 0, none⟩) n c), m1) =>
    if Nat.beq n k1 && Nat.ble k1 c && Nat.ble m.next p && Nat.ble m.next m1.next then match m1.H.get p with
      | some (.cells cs' n' e' true) => if Nat.beq e' elem && Nat.ble (k1 * s) n' && agreeT (m.H.del i) m1.H then
          match cs'.take 0 (k1 * s) with
          | some l => some (l, m1.next)
          | none => none else none
      | _ => none
    else none
  | _ => none
def blank (cs : T Value) (o : Nat) : Nat → Bool
  | 0 => true
  | n + 1 => (cs.get (o + n)).isNone && blank cs o n
def capSum (fi : FuncId) (sm : Sums) (P : Program) (steps n : Nat) : Sums := fun f l m =>
  if Nat.beq f fi then match l with
    | [.slice (some ⟨i, 0, none⟩) k c, x, y] => match m.H.get i with
      | some (.cells cs nb elem true) =>
        if Nat.beq c k && Nat.beq nb (k * P.cellsOf elem) && Nat.blt 0 (P.cellsOf elem) && Nat.ble 64 i && Nat.blt i 1073741824 && Nat.blt m.next 1073741824 && Nat.ble 64 m.next && blank cs nb (P.cellsOf elem) && Nat.ble ((k + 1) * P.cellsOf elem) 1073741824 then
          match capEnd m i (k + 1) elem (P.cellsOf elem) (evCall2 sm P steps n f [.slice (some ⟨m.next, 0, none⟩) k k, x, y] (reMem m i cs nb elem false)),
            capEnd m i (k + 1) elem (P.cellsOf elem) (evCall2 sm P steps n f [.slice (some ⟨m.next, 0, none⟩) k (k + 1), x, y] (reMem m i cs (nb + P.cellsOf elem) elem true)) with
          | some (la, qa), some (lb, qb) => if veqL la lb && Nat.blt (Nat.max qa qb) 1073741824 then
              some (.ret (.slice (some ⟨Nat.max qa qb, 0, none⟩) (k + 1) (k + 1)), { m with H := (m.H.del i).set (Nat.max qa qb) (.cells (T.leaf.fill 0 la) ((k + 1) * P.cellsOf elem) elem true), next := Nat.max qa qb + 1 }) else none
          | _, _ => none
        else none
      | _ => none
    | _ => none
  else none
theorem blank_get {cs : T Value} {o : Nat} : ∀ (n : Nat), blank cs o n = true → ∀ j, o ≤ j → j < o + n → cs.get j = none := by
  intro n
  induction n with
  | zero => intro _ j h1 h2; omega
  | succ n ih =>
    intro h j h1 h2
    simp only [blank, Bool.and_eq_true, Option.isNone_iff_eq_none] at h
    by_cases e : j = o + n
    · rw [e]; exact h.1
    · exact ih h.2 j h1 (by omega)
theorem capEnd_ok {i k1 elem s : Nat} {r : Tr (Out × Mem)} {la : List Value} {qa : Nat} (he : capEnd m i k1 elem s r = some (la, qa)) : ∃ p c m1 cs' n', r = .ok (.ret (.slice (some ⟨p, 0, none⟩) k1 c), m1) ∧ k1 ≤ c ∧ m.next ≤ p ∧ m.next ≤ m1.next ∧ m1.next = qa ∧
    m1.H.get p = some (.cells cs' n' elem true) ∧ k1 * s ≤ n' ∧ agreeT (m.H.del i) m1.H = true ∧ cs'.take 0 (k1 * s) = some la := by
  unfold capEnd at he
  split at he
  · rename_i p n c m1
    split at he
    · rename_i hc
      simp only [Bool.and_eq_true, Nat.ble_eq] at hc
      obtain ⟨⟨⟨h1, h2⟩, h3⟩, h4⟩ := hc
      obtain rfl := Nat.eq_of_beq_eq_true h1
      split at he
      · rename_i cs' n' e' hg
        split at he
        · rename_i hc2
          simp only [Bool.and_eq_true, Nat.ble_eq] at hc2
          obtain ⟨⟨k1', k2⟩, k3⟩ := hc2
          obtain rfl := Nat.eq_of_beq_eq_true k1'
          split at he
          · rename_i l hl
            simp only [Option.some.injEq, Prod.mk.injEq] at he
            obtain ⟨rfl, rfl⟩ := he
            exact ⟨p, c, m1, cs', n', rfl, h2, h3, h4, rfl, hg, k2, k3, hl⟩
          · cases he
        · cases he
      · cases he
    · cases he
  · cases he
theorem capSum_ok (hP : Plainly P) (hm : P.follows .mixedOrders = true) {sm : Sums} (hsm : SumOK P w0 sm) (fi : FuncId) (steps n : Nat) : SumOK P w0 (capSum fi sm P steps n) := by
  intro f l m out m' he
  unfold capSum at he
  split at he
  · split at he
    · rename_i i k c x y
      split at he
      · rename_i cs nb elem hg
        split at he
        · rename_i hc
          simp only [Bool.and_eq_true, Nat.ble_eq, Nat.blt_eq] at hc
          obtain ⟨⟨⟨⟨⟨⟨⟨⟨c1, c2⟩, c3⟩, c4⟩, c5⟩, c6⟩, c7⟩, c8⟩, c9⟩ := hc
          obtain rfl := Nat.eq_of_beq_eq_true c1
          obtain rfl := Nat.eq_of_beq_eq_true c2
          have hbl := blank_get _ c8
          split at he
          · rename_i la qa lb qb hA hB
            split at he
            · rename_i hq
              simp only [Bool.and_eq_true, Nat.blt_eq] at hq
              obtain ⟨hq1, hq2⟩ := hq
              obtain rfl := veqL_eq _ _ hq1
              simp only [Option.some.injEq, Prod.mk.injEq] at he
              obtain ⟨rfl, rfl⟩ := he
              generalize hQ : Nat.max qa qb = q at hq2
              have hqa : qa ≤ q := by rw [← hQ]; exact Nat.le_max_left _ _
              have hqb : qb ≤ q := by rw [← hQ]; exact Nat.le_max_right _ _
              have hsuc : (c + 1) * P.cellsOf elem = c * P.cellsOf elem + P.cellsOf elem := by rw [Nat.add_mul, Nat.one_mul]
              obtain ⟨pA, cA, mA, csA, nA, rA, a1, a2, a3, a4, a5, a6, a7, a8⟩ := capEnd_ok hA
              obtain ⟨pB, cB, mB, csB, nB, rB, b1, b2, b3, b4, b5, b6, b7, b8⟩ := capEnd_ok hB
              have hcall := evCall2_ok hP hm hsm steps n
              obtain ⟨hfn, hCA⟩ := hcall _ _ _ _ _ rA
              obtain ⟨_, hCB⟩ := hcall _ _ _ _ _ rB
              refine ⟨hfn, fun E w args h hlo hargs => ?_⟩
              generalize hL : args.toList = L at hargs
              cases hargs with
              | cons hv hl =>
              rename_i L'
              cases hv with
              | @slice _ b _ _ _ c' hb hcap =>
              obtain ⟨b', r, k1, k2, arr, ⟨fz, elem', hfz, hel, rfl⟩, hsz, hcell⟩ := h.obj hb hg
              obtain rfl : b = b' := by rw [hb] at k1; injection k1
              cases hcp : E.cap i with
              | none => rw [sizeOk, hcp] at hsz; simp at hsz
              | some q0 =>
              obtain ⟨C, s⟩ := q0
              simp only [sizeOk, hcp] at hsz
              obtain ⟨s1, s2, s3, _, s5⟩ := hsz
              obtain ⟨e1, e2⟩ : c ≤ c' ∧ c' = C := by simpa [capOf, hcp] using hcap
              subst e2
              -- the end of either way
              have fin : ∀ (E1 E' : Env) (p cc : Nat) (m1 : Mem) (cs' : T Value) (n' : Nat) (e : Ending) (w' : World), E.le E1 → E1.le E' → HR P w0 E' m1.H m1.next w' → m1.next ≤ q → c + 1 ≤ cc → m.next ≤ p → m.next ≤ m1.next → m1.H.get p = some (.cells cs' n' elem true) → (c + 1) * P.cellsOf elem ≤ n' →
                  agreeT (m.H.del i) m1.H = true → cs'.take 0 ((c + 1) * P.cellsOf elem) = some la → OutR E' (.ret (.slice (some ⟨p, 0, none⟩) (c + 1) cc)) e →
                  ∃ E'', E.le E'' ∧ HR P w0 E'' ((m.H.del i).set q (.cells (T.leaf.fill 0 la) ((c + 1) * P.cellsOf elem) elem true)) (q + 1) w' ∧ m.lo = m.lo ∧ m.next ≤ q + 1 ∧ OutR E'' (.ret (.slice (some ⟨q, 0, none⟩) (c + 1) (c + 1))) e := by
                intro E1 E' p cc m1 cs' n' e w' g1 g2 g3 g4 g5 g6 g7 g8 g9 g10 g11 g12
                cases e with
                | panicked _ => exact g12.elim
                | outgrown => exact g12.elim
                | returned v' =>
                  cases g12 with
                  | @slice _ bp _ _ _ cp' hbp hcpp =>
                  obtain ⟨t1, t2⟩ := T.take_spec _ _ _ _ g11
                  have hcap' : ∃ C' s', E'.cap p = some (C', s') := by
                    obtain ⟨_, _, _, _, arr', _, hsz', _⟩ := g3.obj hbp g8
                    cases hcq : E'.cap p with
                    | none => rw [sizeOk, hcq] at hsz'; simp at hsz'
                    | some z => exact ⟨z.1, z.2, rfl⟩
                  obtain ⟨C', s', hC'⟩ := hcap'
                  have hle2 := Env.le_more_ge g3 g4 bp (some (C', s'))
                  refine ⟨E'.more q bp (some (C', s')), Env.le_trans g1 (Env.le_trans g2 hle2), ?_, rfl, by omega, ?_⟩
                  · refine g3.name g4 hq2 (by omega) hbp g8 (fun j u hj => ?_) fun r hr hor => ?_
                    · refine ⟨agreeT_get _ _ g10 j u hj, fun ej => ?_⟩
                      subst ej
                      rw [T.get_del _ _ c5] at hj
                      split at hj
                      · cases hj
                      · have := h.lt hj; omega
                    · obtain ⟨arr', ⟨fz', el', z1, z2, z3⟩, hsz', hc'⟩ := hor
                      refine ⟨arr', ⟨fz', el', fun _ => z1 (by omega), fun _ => z2 (by omega), z3⟩, ?_, fun j v hj hv => ?_⟩
                      · simp only [sizeOk, hC'] at hsz'
                        simp only [sizeOk, Env.more, if_true]
                        exact ⟨by omega, hsz'.2.1, hsz'.2.2.1, trivial, hsz'.2.2.2.2⟩
                      · rw [T.get_fill _ _ _ _ (by omega), if_pos (by omega)] at hv
                        simp only [Nat.sub_zero] at hv
                        have := t2 j v hv
                        rw [Nat.zero_add] at this
                        obtain ⟨v', x1, x2⟩ := hc' j v (by omega) this
                        exact ⟨v', x1, x2.mono hle2⟩
                  · have hx : cc ≤ cp' ∧ cp' = C' - 0 / s' := by simpa [capOf, hC'] using hcpp
                    exact .slice 0 _ (by simp [Env.more]) (by simp only [capOf, Env.more, if_true]; exact ⟨by omega, hx.2⟩)
              by_cases hCk : c' = c
              · -- no room
                subst hCk
                have hle1 := Env.le_more h b none
                have hr1 : HR P w0 (E.more m.next b none) (reMem m i cs (c' * P.cellsOf elem) elem false).H (m.next + 1) w := by
                  refine h.name (Nat.le_refl _) c6 c4 hb hg (fun j u hj => ?_) fun r hr hor => ?_
                  · rw [T.get_del _ _ c5] at hj
                    split at hj
                    · cases hj
                    · exact ⟨hj, by assumption⟩
                  · obtain ⟨arr', ⟨fz', el', z1, z2, z3⟩, hsz', hc'⟩ := hor
                    refine ⟨arr', ⟨fz', el', fun _ => z1 c4, fun _ => z2 c4, z3⟩, ?_, fun j v hj hv => ?_⟩
                    · simp only [sizeOk, hcp] at hsz'
                      simp only [sizeOk, Env.more, if_true]
                      refine ⟨?_, trivial⟩
                      rw [hsz'.2.1, hsz'.2.2.2.2]
                    · obtain ⟨v', x1, x2⟩ := hc' j v hj hv
                      exact ⟨v', x1, x2.mono hle1⟩
                refine Calls.mono (hCA (E.more m.next b none) w args hr1 (by show m.lo ≤ m.next + 1; omega) (by rw [hL]; exact .cons (.slice 0 _ (by simp [Env.more]) (by simp [capOf, Env.more])) (hl.mono hle1))) fun e w' ⟨E', x1, x2, x3, x4, x5⟩ => ?_
                exact fin _ E' pA cA mA csA nA e w' hle1 x1 x2 (by omega) a1 a2 a3 a5 a6 a7 a8 x5
              · -- room
                have hle1 := Env.le_more h b (some (c', s))
                have hge : (c + 1) * P.cellsOf elem ≤ c' * P.cellsOf elem := Nat.mul_le_mul_right _ (by omega)
                have hr1 : HR P w0 (E.more m.next b (some (c', s))) (reMem m i cs (c * P.cellsOf elem + P.cellsOf elem) elem true).H (m.next + 1) w := by
                  refine h.name (Nat.le_refl _) c6 c4 hb hg (fun j u hj => ?_) fun r hr hor => ?_
                  · rw [T.get_del _ _ c5] at hj
                    split at hj
                    · cases hj
                    · exact ⟨hj, by assumption⟩
                  · obtain ⟨arr', ⟨fz', el', z1, z2, z3⟩, hsz', hc'⟩ := hor
                    refine ⟨arr', ⟨fz', el', fun _ => z1 c4, fun _ => z2 c4, z3⟩, ?_, fun j v hj hv => ?_⟩
                    · simp only [sizeOk, hcp] at hsz'
                      simp only [sizeOk, Env.more, if_true]
                      refine ⟨?_, hsz'.2.1, hsz'.2.2.1, trivial, hsz'.2.2.2.2⟩
                      rw [hsz'.2.1, ← hsz'.2.2.2.2]
                      omega
                    · by_cases hjn : j < c * P.cellsOf elem
                      · obtain ⟨v', x1, x2⟩ := hc' j v hjn hv
                        exact ⟨v', x1, x2.mono hle1⟩
                      · rw [hbl j (by omega) hj] at hv
                        cases hv
                refine Calls.mono (hCB (E.more m.next b (some (c', s))) w args hr1 (by show m.lo ≤ m.next + 1; omega) (by rw [hL]; exact .cons (.slice 0 _ (by simp [Env.more]) (by simp [capOf, Env.more]; omega)) (hl.mono hle1))) fun e w' ⟨E', x1, x2, x3, x4, x5⟩ => ?_
                exact fin _ E' pB cB mB csB nB e w' hle1 x1 x2 (by omega) b1 b2 b3 b5 b6 b7 b8 x5
            · cases he
          · cases he
        · cases he
      · cases he
    · cases he
  · cases he
end Go.Proofs.YtlkdjdcnbcegeaaGreatDoor.Ev

/-! Calls whose outcomes are reckoned out beforehand, memory and all. -/
namespace Go.Proofs.YtlkdjdcnbcegeaaGreatDoor.Ev
open Go.RowKit
set_option linter.unusedSimpArgs false

variable {P : Program} {w0 w : World} {E : Env} {m : Mem}

/-- Blocks laid into a memory. -/
def layL : T AObj → List (Nat × AObj) → T AObj
  | H, [] => H
  | H, (i, o) :: r => layL (H.set i o) r
/-- A row that is written out. -/
def rowO (vs : List Value) (n elem : Nat) (g : Bool) : AObj := .cells (T.leaf.fill 0 vs) n elem g
/-- A call, the memory that it finds (beside what lies there at the start), its answer, the memory that it leaves. -/
structure Step where
  f : FuncId
  l : List Value
  inp : List (Nat × AObj)
  next : Nat
  out : Value
  res : List (Nat × AObj)
  next' : Nat
def stepIn (base : T AObj) (x : Step) : Mem := ⟨layL base x.inp, x.next, 0⟩
def isStep (base : T AObj) (x : Step) : Tr (Out × Mem) → Bool
  | .ok (.ret v, m1) => veq v x.out && agreeT (layL base x.res) m1.H && Nat.ble m1.next x.next' && Nat.ble x.next x.next'
  | _ => false
def stepSum (base : T AObj) (x : Step) (sm : Sums) : Sums := fun f l m =>
  if Nat.beq f x.f && veqL l x.l && Nat.beq m.next x.next && Nat.beq m.lo 0 && agreeT (layL base x.inp) m.H then some (.ret x.out, { m with H := layL base x.res, next := x.next' })
  else sm f l m
/-- Less of what lies in memory. -/
theorem HR.sub {H H' : T AObj} {next : Nat} (h : HR P w0 E H next w) (hs : ∀ i o, H'.get i = some o → H.get i = some o) : HR P w0 E H' next w :=
  ⟨h.below, h.dom, h.glob, fun i j o o' b h1 h2 => h.inj i j o o' b (hs i o h1) (hs j o' h2), h.ph, fun i o hi hp => h.born i o (hs i o hi) hp⟩
theorem HR.upto' {H : T AObj} {next q : Nat} (h : HR P w0 E H next w) (hq : next ≤ q) : HR P w0 E H q w :=
  ⟨h.below, fun i b hb => by have := h.dom i b hb; exact ⟨by omega, this.2⟩, h.glob, h.inj, fun i hi => by have := h.ph i hi; exact ⟨by omega, this.2⟩, h.born⟩
theorem stepSum_ok (hP : Plainly P) (hm : P.follows .mixedOrders = true) {base : T AObj} {x : Step} {sm sm' : Sums} (hsm : SumOK P w0 sm) (hsm' : SumOK P w0 sm') {steps n : Nat}
    (hr : isStep base x (evCall2 sm' P steps n x.f x.l (stepIn base x)) = true) : SumOK P w0 (stepSum base x sm) := by
  intro f l m out m' he
  unfold stepSum at he
  split at he
  · rename_i hc
    simp only [Bool.and_eq_true] at hc
    obtain ⟨⟨⟨⟨c1, c2⟩, c3⟩, c4⟩, c5⟩ := hc
    obtain rfl := Nat.eq_of_beq_eq_true c1
    obtain rfl := veqL_eq _ _ c2
    have e3 := Nat.eq_of_beq_eq_true c3
    have e4 := Nat.eq_of_beq_eq_true c4
    simp only [Option.some.injEq, Prod.mk.injEq] at he
    obtain ⟨rfl, rfl⟩ := he
    unfold isStep at hr
    split at hr
    · rename_i v m1 hcall
      simp only [Bool.and_eq_true, Nat.ble_eq] at hr
      obtain ⟨⟨⟨r1, r2⟩, r3⟩, r4⟩ := hr
      have := veq_eq _ _ r1
      subst this
      obtain ⟨hfn, hC⟩ := evCall2_ok hP hm hsm' steps n _ _ _ _ _ hcall
      refine ⟨hfn, fun E w args h hlo hargs => ?_⟩
      refine Calls.mono (hC E w args (by rw [e3] at h; exact h.sub (agreeT_get _ _ c5)) (Nat.zero_le _) hargs) fun e w' ⟨E', k1, k2, k3, k4, k5⟩ => ?_
      exact ⟨E', k1, (k2.sub (agreeT_get _ _ r2)).upto' r3, rfl, by simp only; omega, k5⟩
    · cases hr
  · exact hsm f l m out m' he
end Go.Proofs.YtlkdjdcnbcegeaaGreatDoor.Ev

/-! A closed law by one computation of our machine. -/
namespace Go.Proofs.YtlkdjdcnbcegeaaGreatDoor.Ev
open Go.RowKit
set_option linter.unusedSimpArgs false

variable {P : Program}

def plainB (P : Program) : Bool := P.funcs.toList.all fun fn => decide (fn.name ≠ "runtime.NumGoroutine")
theorem plainly_of (h : plainB P = true) : Plainly P := by
  intro g fn hf
  have := List.all_eq_true.1 h fn (Array.mem_toList_iff.2 (Array.mem_of_getElem? hf))
  exact of_decide_eq_true this
def isTrue : Tr (Out × Mem) → Bool
  | .ok (.ret (.bool true), _) => true
  | _ => false
theorem isTrue_ok {r : Tr (Out × Mem)} (h : isTrue r = true) : ∃ m, r = .ok (.ret (.bool true), m) := by
  unfold isTrue at h
  split at h
  · exact ⟨_, rfl⟩
  · cases h
theorem closed_true (hP : plainB P = true) (hm : P.follows .mixedOrders = true) (w : World) (steps n : Nat) (f : FuncId) (he : isTrue (evCall2 (fun _ _ _ => none) P steps n f [] ⟨.leaf, 64, 0⟩) = true) :
    Calls P f #[] w fun e w' => e = .returned (.bool true) ∧ Below w.heap.size w w' := by
  obtain ⟨m, h⟩ := isTrue_ok he
  exact ev_true (plainly_of hP) hm w no_sums steps n f h
end Go.Proofs.YtlkdjdcnbcegeaaGreatDoor.Ev

/-! Package variables that hold known integers: our machine's first memory. -/
namespace Go.Proofs.YtlkdjdcnbcegeaaGreatDoor.Ev
open Go.RowKit
set_option linter.unusedSimpArgs false

variable {P : Program} {w : World}

def litInts : List (DataW Unit) → Option (List Value)
  | [] => some []
  | .lit (.int k n) :: r => match litInts r with
    | some l => some (.int k n :: l)
    | none => none
  | _ => none
def intsOf : DataW Unit → Option (List Value)
  | .agg l => litInts l
  | _ => none
/-- A variable's cells, where they are integers. -/
def laidRow (P : Program) (n : String) (d : DataW Unit) : Option (Nat × List Value) :=
  match P.globalNamed n with
  | some g => match (P.globals[g]?).map (·.type) with
    | some t => match P.underlying t with
      | some (.array k e) => match P.underlying e, intsOf d with
        | some (.int _), some l => if g < 48 ∧ P.cellsOf e = 1 ∧ P.cellsOf t = k ∧ l.length = k ∧ k ≠ 0 ∧ k ≤ 1073741824 then some (g, l) else none
        | _, _ => none
      | _ => none
    | none => none
  | none => none
def laidMem (P : Program) : List (String × DataW Unit) → T AObj
  | [] => .leaf
  | (n, d) :: r => match laidRow P n d with
    | some (g, l) => (laidMem P r).set g (.cells (T.leaf.fill 0 l) l.length 0 false)
    | none => laidMem P r
def E0 : Env := ⟨fun i => if i < 48 then some i else none, fun _ => none, fun _ => false⟩

theorem mapM_at {α β : Type} {f : α → Option β} : ∀ (l : List α) (r : List β), l.mapM f = some r → ∀ (i : Nat) x, l[i]? = some x → ∃ y, r[i]? = some y ∧ f x = some y := by
  intro l
  induction l with
  | nil => intro r _ i x h; simp at h
  | cons a l ih =>
    intro r h i x hx
    rw [List.mapM_cons] at h
    cases ha : f a with
    | none => rw [ha] at h; cases h
    | some b =>
      rw [ha] at h
      cases hl : l.mapM f with
      | none => simp [hl] at h
      | some bs =>
        simp [hl] at h
        subst h
        cases i with
        | zero => simp at hx; subst hx; exact ⟨b, rfl, ha⟩
        | succ i => exact ih bs hl i x (by simpa using hx)
theorem litInts_get : ∀ (ds : List (DataW Unit)) (l : List Value), litInts ds = some l → l.length = ds.length ∧ ∀ (i : Nat) d, ds[i]? = some d → ∃ k n, d = .lit (.int k n) ∧ l[i]? = some (.int k n) := by
  intro ds
  induction ds with
  | nil => intro l h; simp only [litInts, Option.some.injEq] at h; subst h; exact ⟨rfl, fun i d h => by simp at h⟩
  | cons d ds ih =>
    intro l h
    unfold litInts at h
    split at h
    · rename_i heq; cases heq
    · rename_i k n r heq
      injection heq with e1 e2
      subst e1 e2
      split at h
      · rename_i l' hl
        injection h with h
        subst h
        obtain ⟨h1, h2⟩ := ih l' hl
        refine ⟨by simp [h1], fun i d hd => ?_⟩
        cases i with
        | zero => simp at hd; subst hd; exact ⟨k, n, rfl, rfl⟩
        | succ i => exact h2 i d (by simpa using hd)
      · cases h
    · cases h
theorem trod_ints {fuel k : Nat} {t e : TypeId} {kk : IntKind} {cs l : List Value} {d : DataW Unit} {p : List MemPlace} (hu : P.underlying t = some (.array k e)) (he : P.underlying e = some (.int kk)) (h1 : P.cellsOf e = 1) (ht : P.cellsOf t = k)
    (hd : intsOf d = some l) (hl : l.length = k) (h : DataW.trod (fun _ => ()) P w 0 (fun _ => true) false fuel t cs = some (d, p)) : cs = l := by
  cases fuel with
  | zero => simp [DataW.trod] at h
  | succ fuel =>
    unfold DataW.trod at h
    rw [hu] at h
    simp only at h
    split at h
    · rename_i hlen
      cases hm : (List.range k).mapM fun i => DataW.trod (fun _ => ()) P w 0 (fun _ => true) false fuel e ((cs.drop (i * P.cellsOf e)).take (P.cellsOf e)) with
      | none => rw [hm] at h; cases h
      | some xs =>
        rw [hm] at h
        simp only [Option.map_some, Option.some.injEq, Prod.mk.injEq] at h
        obtain ⟨rfl, _⟩ := h
        simp only [intsOf] at hd
        obtain ⟨_, g2⟩ := litInts_get _ _ hd
        apply List.ext_getElem?
        intro i
        by_cases hi : i < k
        · obtain ⟨y, y1, y2⟩ := mapM_at _ _ hm i i (by rw [List.getElem?_range hi])
          obtain ⟨k1, n1, z1, z2⟩ := g2 i y.1 (by rw [List.getElem?_map, y1]; rfl)
          rw [z2]
          rw [h1, Nat.mul_one] at y2
          have hci : cs[i]? = some cs[i] := List.getElem?_eq_getElem (by omega)
          have hone : (cs.drop i).take 1 = [cs[i]] := by
            rw [List.drop_eq_getElem_cons (by omega)]; rfl
          rw [hone] at y2
          cases fuel with
          | zero => simp [DataW.trod] at y2
          | succ fuel =>
            unfold DataW.trod at y2
            rw [he] at y2
            rw [hci]
            generalize cs[i] = v at y2
            cases v <;> simp only at y2 <;> try cases y2
            split at y2
            · rename_i hc
              injection y2 with y2
              subst y2
              simp only at z1
              injection z1 with z1
              injection z1 with z1 z3
              rw [hc.1, z1, z3]
            · cases y2
        · rw [List.getElem?_eq_none (by omega), List.getElem?_eq_none (by omega)]
    · cases h
theorem laid_none {laid : List (String × DataW Unit)} (h : laidMetH P laid w) : laidMet P (laid.filter fun x => x.2.handleName?.isNone) w := by
  unfold laidMetH at h
  split at h
  · rename_i he
    have : laid.filter (fun x => x.2.handleName?.isNone) = laid := by
      apply List.filter_eq_self.2
      intro x hx
      have := List.filter_eq_nil_iff.1 he x hx
      cases hn : x.2.handleName? with
      | none => rfl
      | some _ => rw [hn] at this; simp at this
    rw [this]; exact h
  · exact h.1
theorem laidMem_at : ∀ (laid : List (String × DataW Unit)) (ps : List MemPlace), DataW.LaidVars P w laid ps → (∀ b off, MemPlace.cell b off ∈ ps → ∃ c t, w.heap[b]? = some (.cells c t (0, 0))) →
    ∀ i o, (laidMem P laid).get i = some o → i < 48 ∧ ∃ r, w.heap[i]? = some r ∧ OR P E0 i o r := by
  intro laid
  induction laid with
  | nil => intro ps _ _ i o h; simp [laidMem, T.get] at h
  | cons x laid ih =>
    intro ps hv hcell i o h
    obtain ⟨n, d⟩ := x
    obtain ⟨g, t, cs, fuel, p, q, e1, e2, e3, e4, e5, rfl⟩ := hv
    have ih' := ih q e5 fun b off hb => hcell b off (List.mem_append_right _ hb)
    simp only [laidMem] at h
    cases hr : laidRow P n d with
    | none => rw [hr] at h; exact ih' i o h
    | some gl =>
      obtain ⟨g', l⟩ := gl
      rw [hr] at h
      simp only at h
      unfold laidRow at hr
      rw [e1] at hr
      simp only [e2] at hr
      cases hu : P.underlying t with
      | none => rw [hu] at hr; cases hr
      | some td =>
        rw [hu] at hr
        cases td <;> try (simp at hr; done)
        rename_i k e
        simp only at hr
        split at hr
        · rename_i kk l' he hd
          split at hr
          · rename_i hc
            obtain ⟨c1, c2, c3, c4, c5, c6⟩ := hc
            injection hr with hr
            injection hr with hr1 hr2
            subst hr1 hr2
            rw [T.get_set _ _ _ (by omega)] at h
            split at h
            · rename_i hi
              subst hi
              injection h with h
              subst h
              have hcs := trod_ints hu he c2 c3 hd c4 e4
              have hsz : cs.size = k := by rw [← Array.length_toList, hcs]; exact c4
              obtain ⟨c, t', hheap⟩ := hcell i 0 (List.mem_append_left _ (List.mem_append_left _ (by
                unfold MemPlace.row
                simp only [List.mem_map, List.mem_range]
                exact ⟨0, by omega, by simp [Addr.add]⟩)))
              have hcc : c = cs := by
                unfold World.var? at e3
                rw [e1] at e3
                simp only [Option.bind_some, hheap, Option.some.injEq] at e3
                exact e3
              subst hcc
              refine ⟨c1, _, hheap, c, ⟨_, t', fun _ => .inl rfl, fun h64 => by omega, rfl⟩, ?_, fun j v hj hv => ?_⟩
              · simp [sizeOk, E0, hsz, c4]
              · rw [T.get_fill _ _ _ _ (by omega), if_pos (by omega)] at hv
                simp only [Nat.sub_zero] at hv
                have hmem : clean v = true := by
                  obtain ⟨dl, rfl⟩ : ∃ dl, d = .agg dl := by
                    cases d <;> first | exact ⟨_, rfl⟩ | (simp [intsOf] at hd)
                  obtain ⟨g1, g2⟩ := litInts_get _ _ hd
                  have hjd : dl[j]? = some dl[j] := List.getElem?_eq_getElem (by omega)
                  obtain ⟨k1, n1, _, z2⟩ := g2 j _ hjd
                  rw [z2] at hv
                  injection hv with hv
                  subst hv; rfl
                refine ⟨v, ?_, VR.of_clean E0 v hmem⟩
                rw [← Array.getElem?_toList, hcs]; exact hv
            · exact ih' i o h
          · cases hr
        · cases hr
theorem HR.laid {laid : List (String × DataW Unit)} (h : laidMetH P laid w) : HR P w E0 (laidMem P (laid.filter fun x => x.2.handleName?.isNone)) 64 w := by
  obtain ⟨ps, h1, _, h3⟩ := laid_none h
  have hat := laidMem_at _ ps h1 fun b off hb => (h3 b off hb).1
  refine ⟨Below.refl _ _, fun i b hb => ?_, fun g hg => by simp [E0, hg], fun i j o o' b _ _ hi hj => ?_, fun i hp => absurd hp Bool.false_ne_true, fun i o ho _ => ?_⟩
  · simp only [E0] at hb
    split at hb
    · exact ⟨by omega, fun _ => by omega⟩
    · cases hb
  · simp only [E0] at hi hj
    split at hi <;> split at hj <;> first | (cases hi; cases hj; rfl) | (cases hi; done) | (cases hj; done)
  · obtain ⟨k1, r, k2, k3⟩ := hat i o ho
    exact ⟨i, r, by simp [E0, k1], k2, k3⟩
/-- A law, over package variables that hold known integers, at arguments that ours stand for. -/
theorem laid_call {laid : List (String × DataW Unit)} (hP : plainB P = true) (hm : P.follows .mixedOrders = true) {w : World} (h : laidMetH P laid w) {sm : Sums} (hsm : SumOK P w sm) (steps n : Nat) (f : FuncId)
    {l : List Value} {args : Array Value} (hl : VRL E0 l args.toList) (he : isTrue (evCall2 sm P steps n f l ⟨laidMem P (laid.filter fun x => x.2.handleName?.isNone), 64, 0⟩) = true) :
    Calls P f args w fun e w' => e = .returned (.bool true) ∧ Below w.heap.size w w' := by
  obtain ⟨m, hr⟩ := isTrue_ok he
  obtain ⟨_, hc⟩ := evCall2_ok (plainly_of hP) hm hsm steps n f l _ _ _ hr
  refine Calls.mono (hc E0 w args (HR.laid h) (Nat.zero_le _) hl) fun e w' ⟨E', _, k2, _, _, k5⟩ => ?_
  cases e with
  | returned v => cases k5; exact ⟨rfl, k2.below⟩
  | _ => exact k5.elim
/-- A closed law, over package variables that hold known integers. -/
theorem laid_true {laid : List (String × DataW Unit)} (hP : plainB P = true) (hm : P.follows .mixedOrders = true) {w : World} (h : laidMetH P laid w) {sm : Sums} (hsm : SumOK P w sm) (steps n : Nat) (f : FuncId)
    (he : isTrue (evCall2 sm P steps n f [] ⟨laidMem P (laid.filter fun x => x.2.handleName?.isNone), 64, 0⟩) = true) :
    Calls P f #[] w fun e w' => e = .returned (.bool true) ∧ Below w.heap.size w w' := laid_call hP hm h hsm steps n f .nil he
end Go.Proofs.YtlkdjdcnbcegeaaGreatDoor.Ev

/-! The laid variables and a type's handle among them; a block that comes later. -/
namespace Go.Proofs.YtlkdjdcnbcegeaaGreatDoor.Ev
set_option linter.unusedVariables false
open Go.RowKit
variable {P : Program} {w0 w w' : World} {E : Env} {H : T AObj} {next : Nat}
theorem HR.newAt (h : HR P w0 E H next w) (hn : next < 1073741824) {c : Option (Nat × Nat)} {o : AObj} {r : Obj} {b : Nat} (hge : w.heap.size ≤ b) (ho : OR P (E.more next b c) next o r) (hb : Below w.heap.size w w') (hnew : w'.heap[b]? = some r) :
    HR P w0 (E.more next b c) (H.set next o) (next + 1) w' := by
  have hle := Env.le_more h b c
  have hbk : ∀ i b', (E.more next b c).blk i = some b' → (i = next ∧ b' = b) ∨ (i ≠ next ∧ E.blk i = some b') := by
    intro i b' e
    simp only [Env.more] at e
    split at e
    · injection e with e; exact .inl ⟨‹_›, e.symm⟩
    · exact .inr ⟨‹_›, e⟩
  have hold : ∀ j o', H.get j = some o' → ∀ b', E.blk j = some b' → b' < w.heap.size := fun j o' hj b' e => by
    obtain ⟨b2, r', k1, k2, _⟩ := h.obj e hj
    rw [e] at k1
    injection k1 with k1
    subst k1
    exact (Array.getElem?_eq_some_iff.1 k2).1
  have hlt : b < w'.heap.size := (Array.getElem?_eq_some_iff.1 hnew).1
  refine ⟨h.below.trans ⟨hb.os, hb.tape, hb.output, hb.size, fun k hk => hb.block k (Nat.lt_of_lt_of_le hk h.below.size)⟩, ?_, fun g hg => (hle.to g g (h.glob g hg)).1, ?_, fun i hi => ?_, ?_⟩
  · intro i b' e
    rcases hbk i b' e with ⟨rfl, rfl⟩ | ⟨_, e⟩
    · exact ⟨by omega, fun _ => ⟨Nat.le_trans h.below.size hge, hlt⟩⟩
    · have := h.dom i b' e; have := hb.size; omega
  · intro i j o1 o2 b' h1 h2 e1 e2
    rw [T.get_set _ _ _ hn] at h1 h2
    rcases hbk i b' e1 with ⟨rfl, rfl⟩ | ⟨hi, e1'⟩ <;> rcases hbk j _ e2 with ⟨rfl, hb2⟩ | ⟨hj, e2'⟩
    · rfl
    · rw [if_neg hj] at h2; have := hold j o2 h2 _ e2'; omega
    · rw [if_neg hi] at h1; subst hb2; have := hold i o1 h1 _ e1'; omega
    · rw [if_neg hi] at h1; rw [if_neg hj] at h2
      exact h.inj i j o1 o2 b' h1 h2 e1' e2'
  · have := h.ph i hi
    refine ⟨by omega, ?_⟩
    simp only [Env.more]
    rw [if_neg (by omega)]
    exact this.2
  · intro i o1 h1 hp
    rw [T.get_set _ _ _ hn] at h1
    split at h1
    · injection h1 with h1; subst h1
      rename_i hi; subst hi
      exact ⟨b, r, by simp [Env.more], hnew, ho⟩
    · obtain ⟨b', r1, g1, g2, g3⟩ := h.born i o1 h1 hp
      exact ⟨b', r1, (hle.to i b' g1).1, by rw [hb.block b' (Array.getElem?_eq_some_iff.1 g2).1]; exact g2, g3.mono hle g1⟩
/-- A package variable that holds a type's handle. -/
theorem HR.laidH {laid : List (String × DataW Unit)} (h : laidMetH P laid w) {x : String × DataW Unit} (hx : x ∈ laid) (hs : x.2.handleName?.isSome = true) (hf : x.2.funcsIn? = none) {g u ty : Nat} {name : List UInt8} (hn : x.2.handleName? = some name) (hg : P.globalNamed x.1 = some g) (hu : (P.cutTypes.find? (·.1 == "internal/reflectlite.rtype")).map (·.2) = some u)
    (hty : ((List.range P.types.size).all fun t => !P.rowNamed t name || Nat.beq t ty) = true) (hg48 : g < 48) (hgs : P.globals.size < 48) :
    HR P w E0 ((laidMem P (laid.filter fun x => x.2.handleName?.isNone)).set g (.cells (T.leaf.set 0 (.iface u (.agg #[typeHandle P ty]))) 1 0 false)) 64 w := by
  have h0 := HR.laid h
  have hm : handlesMet P (laid.filter fun x => x.2.handleName?.isSome) w := by
    unfold laidMetH at h
    split at h
    · rename_i he
      have := List.filter_eq_nil_iff.1 he x hx
      rw [hs] at this; simp at this
    · rename_i y ys he
      rw [he]; exact h.2
  have h1 := hm x (List.mem_filter.2 ⟨hx, hs⟩)
  rw [hf] at h1
  obtain ⟨name', u', ty', k1, k2, k3, k4, k5⟩ := h1
  rw [hn] at k1; injection k1 with k1; subst k1
  rw [hu] at k2; injection k2 with k2; subst k2
  have hty' : ty' = ty := by
    have := List.all_eq_true.1 hty ty' (List.mem_range.2 k3)
    rw [k4] at this
    exact Nat.eq_of_beq_eq_true (by simpa using this)
  subst hty'
  unfold World.var? at k5
  rw [hg] at k5
  simp only [Option.bind_some] at k5
  split at k5
  · rename_i cs t fz hheap
    injection k5 with k5
    subst k5
    refine ⟨h0.below, h0.dom, h0.glob, fun i j o o' b h1 h2 e1 e2 => ?_, h0.ph, fun i o ho hp => ?_⟩
    · simp only [E0] at e1 e2
      split at e1 <;> split at e2 <;> first | (cases e1; cases e2; rfl) | (cases e1; done) | (cases e2; done)
    · rw [T.get_set _ _ _ (by omega)] at ho
      split at ho
      · rename_i e
        injection ho with ho
        subst e ho
        refine ⟨i, _, by simp [E0, hg48], hheap, _, ⟨fz, t, fun h64 => by omega, fun h64 => by omega, rfl⟩, by simp [sizeOk, E0], fun j v hj hv => ?_⟩
        obtain rfl : j = 0 := by omega
        rw [T.get_set _ _ _ (by omega), if_pos rfl] at hv
        injection hv with hv
        subst hv
        refine ⟨_, rfl, VR.of_g h0.glob _ ?_⟩
        have e1 : Nat.blt P.globals.size 48 = true := by rw [Nat.blt_eq]; exact hgs
        show (Nat.blt P.globals.size 48 && gcleanL []) = true
        rw [e1]; rfl
      · exact h0.born i o ho hp
  · cases k5
/-- The first memory at a later world. -/
theorem HR.at_later (h0 : HR P w E0 H 64 w) (hb : Below w.heap.size w w') : HR P w' E0 H 64 w' := by
  refine ⟨Below.refl _ _, fun i b e => ?_, h0.glob, h0.inj, fun i hp => absurd hp Bool.false_ne_true, fun i o ho hp => ?_⟩
  · have := (h0.dom i b e).1
    exact ⟨this, fun h64 => by omega⟩
  · obtain ⟨b, r, k1, k2, k3⟩ := h0.born i o ho hp
    exact ⟨b, r, k1, by rw [hb.block b (Array.getElem?_eq_some_iff.1 k2).1]; exact k2, k3⟩
end Go.Proofs.YtlkdjdcnbcegeaaGreatDoor.Ev

/-! A world whose variables hold what a row lists: a handle beside data. -/
namespace Go.Proofs.YtlkdjdcnbcegeaaGreatDoor.Ev
open Go.RowKit
set_option linter.unusedSimpArgs false

noncomputable def handled (P : Program) (os : Os) : World :=
  match P.globalNamed "errors.errorType", (P.cutTypes.find? (·.1 == "internal/reflectlite.rtype")).map (·.2), (List.range P.types.size).find? fun t => P.rowNamed t [101, 114, 114, 111, 114] with
  | some g, some u, some ty => { World.holding P os ⟨#[], #[], []⟩ with heap := (World.holding P os ⟨#[], #[], []⟩).heap.modify g fun
      | .cells _ t fz => .cells #[.iface u (.agg #[typeHandle P ty])] t fz
      | o => o }
  | _, _, _ => World.holding P os ⟨#[], #[], []⟩
theorem handled_os (P : Program) (os : Os) : (handled P os).os = os := by
  unfold handled
  split <;> rfl
noncomputable def handWorld (P : Program) (os : Os) (laid : List (String × DataW Unit)) : World := (handled P os).layVars P (laid.filter fun x => x.2.handleName?.isNone)
theorem handWorld_os (P : Program) (os : Os) (laid : List (String × DataW Unit)) : (handWorld P os laid).os = os := (World.layVars_os _ _ _).trans (handled_os P os)
theorem hand_met {P : Program} {os : Os} {laid : List (String × DataW Unit)} (args : Array Value)
    (hf : (handled P os).layFits P (laid.filter fun x => x.2.handleName?.isNone) [] = true)
    (hi : (handled P os).layIfaces P (laid.filter fun x => x.2.handleName?.isNone) (handWorld P os laid) = true)
    (hh : (laid.filter fun x => x.2.handleName?.isSome).all (handleAtB P (handWorld P os laid)) = true) :
    laidMetH P laid ((handWorld P os laid).forCall (fun _ _ => 0) ⟨#[], args, []⟩).memory := by
  have key : laidMetH P laid (handWorld P os laid) := by
    refine laidMetH_of_parts ?_ hh
    generalize hl : (laid.filter fun x => x.2.handleName?.isNone) = l at hf hi ⊢
    have e1 : (l.filter fun x => (l.map (·.1)).contains x.1) = l := List.filter_eq_self.2 fun x hx => List.contains_iff_mem.2 (List.mem_map.2 ⟨x, hx, rfl⟩)
    have e2 : (l.filter fun x => !(l.map (·.1)).contains x.1) = [] := List.filter_eq_nil_iff.2 fun x hx => by rw [List.contains_iff_mem.2 (List.mem_map.2 ⟨x, hx, rfl⟩)]; simp
    refine laidMet_layVars (w0 := handled P os) (l.map (·.1)) [] (by rw [e1, handWorld, hl]) (by rw [e1]; exact hf) (by rw [e1]; exact hi) (by rw [e2]; exact LaidIn.none)
  exact laidMetH.of_heap (by simp [World.memory, World.forCall, Input.heap]) key
end Go.Proofs.YtlkdjdcnbcegeaaGreatDoor.Ev

/-! Arguments that nothing is known of, and what they read as afterwards. -/
namespace Go.Proofs.YtlkdjdcnbcegeaaGreatDoor.Ev
open Go.RowKit
set_option linter.unusedSimpArgs false

variable {P : Program}

def opqT (P : Program) (t : TypeId) : Bool :=
  match P.underlying t with
  | some (.slice _) | some (.int _) => true
  | _ => false
theorem opq_ok {t : TypeId} {v : Value} {w : World} {r : Reach} {b : Nat} (ht : opqT P t = true) (h : Value.okWide P w r b t v) : opqOK v = true := by
  unfold opqT at ht
  unfold Value.okWide at h
  split at ht
  · rename_i e hu
    rw [hu] at h
    simp only at h
    unfold Cell.okWide at h
    rw [hu] at h
    cases v <;> first | rfl | (exfalso; simp [Cell.ok, hu] at h)
  · rename_i k hu
    rw [hu] at h
    simp only at h
    unfold Cell.okWide at h
    rw [hu] at h
    cases v <;> first | rfl | (exfalso; simp [Cell.ok, hu] at h)
  · cases ht
def rowed (P : Program) (ts : List TypeId) : Bool := ts.all fun t => P.readableRec t && decide (t < P.types.size)
/-- Arguments read as they did, where the world has at most new blocks. -/
theorem trodAll_below {H : Type} {enc : TypeId × Value → H} (hl : laidOutB P = true) {W W' : World} (hb : Below W.heap.size W W') : ∀ (ts : List TypeId) (vs : List Value) (ds : List (DataW H)) (ps : List MemPlace), rowed P ts = true →
    DataW.TrodAll enc P W 0 (fun _ => true) true ts vs ds ps → (∀ x ∈ ps, x.block < W.heap.size) → DataW.TrodAll enc P W' 0 (fun b => decide (b < W.heap.size)) true ts vs ds ps := by
  intro ts
  induction ts with
  | nil => intro vs ds ps _ h _; cases vs <;> cases ds <;> first | exact h | exact h.elim
  | cons t ts ih =>
    intro vs ds ps hr h hlt
    simp only [rowed, List.all_cons, Bool.and_eq_true, decide_eq_true_eq] at hr
    cases vs with
    | nil => cases ds <;> exact h.elim
    | cons v vs =>
      cases ds with
      | nil => exact h.elim
      | cons d ds =>
        obtain ⟨p, q, h1, h2, rfl⟩ := h
        exact ⟨p, q, Below.trod hl hr.1.1 hr.1.2 h1 hb fun x hx => hlt x (List.mem_append_left _ hx), ih vs ds q (by simpa [rowed] using hr.2) h2 fun x hx => hlt x (List.mem_append_right _ hx), rfl⟩
end Go.Proofs.YtlkdjdcnbcegeaaGreatDoor.Ev
