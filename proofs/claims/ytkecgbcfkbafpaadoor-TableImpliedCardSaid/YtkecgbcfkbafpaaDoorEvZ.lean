/-
  Regions whose order is drawn: in whatever order, the outcome is the one of the text's order.
-/
import Derived.Test.YtkecgbcfkbafpaaDoorEvY
namespace Go.Proofs.YtkecgbcfkbafpaaDoor.Ev
set_option linter.unusedSectionVars false
variable [Sig]
open Go.RowKit
set_option linter.unusedSimpArgs false

variable {P : Program} {w0 w : World} {E : Env} {m : Mem} {ops : Array Oper}

theorem Env.le.trans2 {A B C : Env} (h : A.le B) (k : B.le C) : A.le C := Env.le_trans h k
theorem AR.congr {tm tm' : T Value} {nt : Nat} {a : Act} (h : AR E tm nt a) (e : ∀ t, tm'.get t = tm.get t) : AR E tm' nt a := ⟨h.glob, h.size, fun t => by rw [e t]; exact h.get t⟩
theorem AR.putE {tm : T Value} {nt : Nat} {a : Act} (h : AR E tm nt a) {dst : Option Tmp} {v v' : Value} (hd : ∀ d, dst = some d → d < nt) (hB : nt ≤ 1073741824) (hv : VR E v v') : AR E (putE tm dst v) nt (a.put dst v') := by
  cases dst with
  | none => exact h
  | some d => exact h.put (hd d rfl) (Nat.lt_of_lt_of_le (hd d rfl) hB) hv
/-- Where a run in any order stands. -/
structure DInv (P : Program) (w0 : World) (E0 : Env) (nt : Nat) (ops : Array Oper) (fl : List Fr) (L : PL) (m0 : Mem) (ms : List Mem) (tm0 tmF : T Value) (df : List Df) (listed : Array Bool) (E : Env) (k : Nat) (a : Act) (w : World) : Prop where
  clo : ∀ x ∈ L, listed.getD x.1 true = true → ∀ y ∈ L, waits x.2.1 y.1 = true → listed.getD y.1 true = true
  rk : ∀ x ∈ L, x.2.2.act = true → (listed.getD x.1 true = true ↔ x.2.2.rank < k)
  lo : ∀ x ∈ L, x.2.2.act = false → listed.getD x.1 true = true → x.2.2.lo ≤ k
  hi : ∀ x ∈ L, x.2.2.act = false → listed.getD x.1 true = false → k ≤ x.2.2.hi
  kn : k ≤ ms.length
  mem : ∃ mk, (m0 :: ms)[k]? = some mk ∧ HR P w0 E mk.H mk.next w ∧ mk.lo ≤ mk.next ∧ mk.lo = m0.lo ∧ m0.next ≤ mk.next
  tmx : ∃ tmx, AR E tmx nt a ∧ (∀ x ∈ L, listed.getD x.1 true = true → ∀ d, x.2.1.dst = some d → tmx.get d = tmF.get d) ∧ (∀ t, (∀ x ∈ L, listed.getD x.1 true = true → x.2.1.dst ≠ some t) → tmx.get t = tm0.get t)
  df : DR P E df a.defers
  to : E0.To E
  phs : ∀ i, E.ph i = true ↔ (E0.ph i = true ∨ ∃ f ∈ fl, f.2.2.1 = i ∧ listed.getD f.1 true = false)
theorem getD_false_true {l : Array Bool} {i : Nat} (h : l.getD i false = true) : l.getD i true = true := by
  cases hi : l[i]? with
  | none => simp [hi] at h
  | some b => simpa [hi] using h
theorem getD_true_false {l : Array Bool} {i : Nat} (hs : i < l.size) (h : l.getD i true = true) : l.getD i false = true := by
  simpa [hs] using h
theorem getD_set_self {l : Array Bool} {i : Nat} : (l.setIfInBounds i true).getD i true = true := by
  by_cases hi : i < l.size
  · simp [hi]
  · simp [hi]
theorem all_listed {listed : Array Bool} (hsz : listed.size = ops.size) {nt n : Nat} {L : PL} (hp : PlanOK P nt ops n L) (h : Region.ready .any ops listed = []) : ∀ i, i < ops.size → listed.getD i true = true := by
  intro i
  induction i using Nat.strongRecOn with
  | _ i ih =>
    intro hi
    cases hl : listed.getD i true with
    | true => rfl
    | false =>
      exfalso
      have : i ∈ Region.ready .any ops listed := by
        rw [mem_ready]
        refine ⟨hl, ops[i], by simp [hi], fun e he hb => ?_⟩
        obtain ⟨p, hx⟩ := hp.here i ops[i] (by simp [hi])
        have hlt : e.on < i := hp.edge (x := (i, ops[i], p)) (List.mem_of_getElem? hx) (waits_iff.2 ⟨e, he, hb, rfl⟩)
        exact getD_true_false (by omega) (ih e.on hlt (by omega))
      rw [h] at this
      cases this
/-- One more is listed: the same, but for what it yields. -/
theorem DInv.step {E0 : Env} {nt n : Nat} {fl : List Fr} {L : PL} (hp : PlanOK P nt ops n L) {m0 : Mem} {ms : List Mem} {tm0 tmF : T Value} {df : List Df} {listed : Array Bool} {E E' : Env} {k k' : Nat} {a a' : Act} {w w' : World}
    (h : DInv P w0 E0 nt ops fl L m0 ms tm0 tmF df listed E k a w) {x : Nat × Oper × Plan} (hx : x ∈ L) (hun : listed.getD x.1 true = false) (hready : ∀ y ∈ L, waits x.2.1 y.1 = true → listed.getD y.1 true = true)
    (hk : (x.2.2.act = true ∧ x.2.2.rank = k ∧ k' = k + 1 ∧ k < ms.length) ∨ (x.2.2.act = false ∧ k' = k)) (hn : ms.length = n)
    (hrank : ∀ y ∈ L, y.2.2.act = true → y.2.2.rank = x.2.2.rank → x.2.2.act = true → y = x)
    (hE : E.To E') (hphs : ∀ i, E'.ph i = true ↔ (E0.ph i = true ∨ ∃ f ∈ fl, f.2.2.1 = i ∧ (listed.setIfInBounds x.1 true).getD f.1 true = false)) (hmem : ∃ mk, (m0 :: ms)[k']? = some mk ∧ HR P w0 E' mk.H mk.next w' ∧ mk.lo ≤ mk.next ∧ mk.lo = m0.lo ∧ m0.next ≤ mk.next)
    {v v' : Value} (hv : VR E' v v') (hF : ∀ d, x.2.1.dst = some d → tmF.get d = some v) (hB : nt ≤ 1073741824) (ha : a' = a.put x.2.1.dst v') :
    DInv P w0 E0 nt ops fl L m0 ms tm0 tmF df (listed.setIfInBounds x.1 true) E' k' a' w' := by
  have hdst : ∀ d, x.2.1.dst = some d → d < nt := fun d hd => hp.dst hx hd
  have hset : ∀ y ∈ L, (listed.setIfInBounds x.1 true).getD y.1 true = true ↔ (y = x ∨ listed.getD y.1 true = true) := fun y hy => by
    by_cases e : y.1 = x.1
    · have := hp.eq_of hy hx e
      subst this
      exact ⟨fun _ => .inl rfl, fun _ => getD_set_self⟩
    · rw [getD_set_ne true (Ne.symm e)]
      exact ⟨.inr, fun k => k.resolve_left fun e' => e (by rw [e'])⟩
  have hlx : x.2.2.act = false → x.2.2.lo ≤ k := fun hax => by
    rcases hp.lo hx hax with e | ⟨y, hy, hw, e⟩
    · omega
    · have hly := hready y hy hw
      rcases e with ⟨hay, e⟩ | ⟨hay, e⟩
      · have := (h.rk y hy hay).1 hly; omega
      · have := h.lo y hy hay hly; omega
  refine ⟨fun y hy hly z hz hw => ?_, fun y hy hay => ?_, fun y hy hay hly => ?_, ?_, ?_, hmem, ?_, ?_, h.to.trans hE, hphs⟩
  · rcases (hset y hy).1 hly with rfl | hly
    · exact (hset z hz).2 (.inr (hready z hz hw))
    · exact (hset z hz).2 (.inr (h.clo y hy hly z hz hw))
  · rw [hset y hy]
    rcases hk with ⟨hax, hr, rfl, _⟩ | ⟨hax, rfl⟩
    · constructor
      · rintro (rfl | k1)
        · omega
        · have := (h.rk y hy hay).1 k1; omega
      · intro hlt
        by_cases e : y.2.2.rank = k
        · exact .inl (hrank y hy hay (by omega) hax)
        · exact .inr ((h.rk y hy hay).2 (by omega))
    · constructor
      · rintro (rfl | k1)
        · rw [hay] at hax; cases hax
        · exact (h.rk y hy hay).1 k1
      · exact fun k1 => .inr ((h.rk y hy hay).2 k1)
  · rcases (hset y hy).1 hly with rfl | hly
    · have := hlx hay
      rcases hk with ⟨_, _, rfl, _⟩ | ⟨_, rfl⟩ <;> omega
    · have := h.lo y hy hay hly
      rcases hk with ⟨_, _, rfl, _⟩ | ⟨_, rfl⟩ <;> omega
  · have key : ∀ (b : Nat) (y : Nat × Oper × Plan), y ∈ L → L.length - y.1 ≤ b → y.2.2.act = false → (listed.setIfInBounds x.1 true).getD y.1 true = false → k' ≤ y.2.2.hi := by
      intro b
      induction b with
      | zero =>
        intro y hy hb _ _
        have := hp.mem_at hy
        have := (List.getElem?_eq_some_iff.1 this).1
        omega
      | succ b ih =>
        intro y hy hb hay hun'
        have hnl : ¬ (y = x ∨ listed.getD y.1 true = true) := fun e => by rw [(hset y hy).2 e] at hun'; cases hun'
        have hyl : listed.getD y.1 true = false := by simpa using fun e => hnl (.inr e)
        have h0 := h.hi y hy hay hyl
        rcases hk with ⟨hax, hr, rfl, hkl⟩ | ⟨_, rfl⟩
        · by_cases e : y.2.2.hi = k
          · exfalso
            rcases hp.hi hy hay with e1 | ⟨z, hz, hw, e1⟩
            · omega
            · rcases e1 with ⟨haz, e1⟩ | ⟨haz, e1⟩
              · by_cases e2 : z.2.2.rank = k
                · have := hrank z hz haz (by omega) hax
                  subst this
                  rw [hready y hy hw] at hyl; cases hyl
                · have hlz := (h.rk z hz haz).2 (by omega)
                  have := h.clo z hz hlz y hy hw
                  rw [this] at hyl; cases hyl
              · have hzl : (listed.setIfInBounds x.1 true).getD z.1 true = false := by
                  cases hq : (listed.setIfInBounds x.1 true).getD z.1 true with
                  | false => rfl
                  | true =>
                    rcases (hset z hz).1 hq with rfl | hq
                    · rw [haz] at hax; cases hax
                    · have := h.clo z hz hq y hy hw
                      rw [this] at hyl; cases hyl
                have hlt := hp.edge hz hw
                have h1 := (List.getElem?_eq_some_iff.1 (hp.mem_at hz)).1
                have := ih z hz (by omega) haz hzl
                omega
          · omega
        · exact h0
    exact fun y hy hay hun' => key _ y hy (Nat.le_refl _) hay hun'
  · rcases hk with ⟨_, _, rfl, hkl⟩ | ⟨_, rfl⟩
    · exact hkl
    · exact h.kn
  · obtain ⟨tmx, h1, h2, h3⟩ := h.tmx
    refine ⟨putE tmx x.2.1.dst v, by rw [ha]; exact (h1.monoT hE).putE hdst hB hv, fun y hy hly d hd => ?_, fun t ht => ?_⟩
    · rw [putE_get fun d hd => Nat.lt_of_lt_of_le (hdst d hd) hB]
      by_cases e : x.2.1.dst = some d
      · rw [if_pos e, hF d e]
      · rw [if_neg e]
        rcases (hset y hy).1 hly with rfl | hly
        · exact absurd hd e
        · exact h2 y hy hly d hd
    · rw [putE_get fun d hd => Nat.lt_of_lt_of_le (hdst d hd) hB, if_neg (ht x hx ((hset x hx).2 (.inl rfl)))]
      exact h3 t fun y hy hly => ht y hy ((hset y hy).2 (.inr hly))
  · rw [ha]
    have : (a.put x.2.1.dst v').defers = a.defers := by cases x.2.1.dst <;> rfl
    rw [this]
    exact h.df.monoT hE

theorem DInv.lo_le {E0 : Env} {nt n : Nat} {fl : List Fr} {L : PL} (hp : PlanOK P nt ops n L) {m0 : Mem} {ms : List Mem} {tm0 tmF : T Value} {df : List Df} {listed : Array Bool} {k : Nat} {a : Act}
    (h : DInv P w0 E0 nt ops fl L m0 ms tm0 tmF df listed E k a w) {x : Nat × Oper × Plan} (hx : x ∈ L) (hready : ∀ y ∈ L, waits x.2.1 y.1 = true → listed.getD y.1 true = true) (hax : x.2.2.act = false) : x.2.2.lo ≤ k := by
  rcases hp.lo hx hax with e | ⟨y, hy, hw, e⟩
  · omega
  · have hly := hready y hy hw
    rcases e with ⟨hay, e⟩ | ⟨hay, e⟩
    · have := (h.rk y hy hay).1 hly; omega
    · have := h.lo y hy hay hly; omega
theorem drawn_any (hP : Plainly P) {call rnd : Call2} (hcall : CallOK P w0 call) (hrnd : RndOK P w0 rnd) {ro : Option Nat} {E0 : Env} {nt n : Nat} (hB : nt ≤ 1073741824) {fl : List Fr} {L : PL} (hp : PlanOK P nt ops n L) {mb m0 : Mem} (hlain : Lain P L mb m0 fl) (hfresh : ∀ i, E0.ph i = true → i < mb.next) {ms : List Mem} {vs : List (Value × T Value)} {tm0 tmF : T Value} {df : List Df}
    (hrun : RunOK call rnd P ops fl L 0 tm0 m0 vs ms tmF) (hn : ms.length = n) (hchk : drChk P ops fl (m0 :: ms) L vs = true) {Q : Exit → Act → World → Prop}
    (hQ : ∀ mk E' a' w', (m0 :: ms)[ms.length]? = some mk → E0.le E' → HR P w0 E' mk.H mk.next w' → mk.lo ≤ mk.next → mk.lo = m0.lo → m0.next ≤ mk.next → AR E' tmF nt a' → DR P E' df a'.defers → Q .normal a' w') :
    ∀ (fuel : Nat) (S : List Nat) (listed : Array Bool) (E : Env) (k : Nat) (a : Act) (w : World), DInv P w0 E0 nt ops fl L m0 ms tm0 tmF df listed E k a w → listed.size = ops.size →
      S.length ≤ fuel → (∀ i, i < ops.size → listed.getD i true = false → i ∈ S) → wpAnyIn (WF ro) 0 P .any ops Q fuel listed a w := by
  have done : ∀ (listed : Array Bool) (E : Env) (k : Nat) (a : Act) (w : World), DInv P w0 E0 nt ops fl L m0 ms tm0 tmF df listed E k a w → (∀ i, i < ops.size → listed.getD i true = true) → Q .normal a w := by
    intro listed E k a w h hall
    have hl : ∀ x ∈ L, listed.getD x.1 true = true := fun x hx => hall x.1 (Array.getElem?_eq_some_iff.1 (hp.op_at hx)).1
    have hk : k = ms.length := by
      have := h.kn
      by_cases e : k < ms.length
      · obtain ⟨x, hx, ha, hr⟩ := hrun.rank k e
        have := (h.rk x hx ha).1 (hl x hx)
        omega
      · omega
    subst hk
    obtain ⟨mk, h1, h2, h3, h4, h5⟩ := h.mem
    obtain ⟨tmx, k1, k2, k3⟩ := h.tmx
    have hle : E0.le E := by
      refine ⟨h.to, funext fun i => ?_⟩
      rw [Bool.eq_iff_iff, h.phs i]
      refine ⟨fun e => e.resolve_right fun ⟨f, hf, _, hl'⟩ => ?_, .inl⟩
      obtain ⟨x, hx, q1, _⟩ := hlain.from' f hf
      rw [← q1, hl x hx] at hl'
      cases hl'
    refine hQ mk E a w h1 hle h2 h3 h4 h5 (k1.congr fun t => ?_) h.df
    by_cases e : ∃ x ∈ L, x.2.1.dst = some t
    · obtain ⟨x, hx, hd⟩ := e
      exact (k2 x hx (hl x hx) t hd).symm
    · rw [k3 t fun x hx _ hd => e ⟨x, hx, hd⟩]
      exact hrun.keeps t fun x hx hd => e ⟨x, hx, hd⟩
  intro fuel
  induction fuel with
  | zero =>
    intro S listed E k a w h hsz hS hun
    have hnil : S = [] := List.length_eq_zero_iff.1 (Nat.le_zero.1 hS)
    have hall : ∀ i, i < ops.size → listed.getD i true = true := fun i hi => by
      cases hl : listed.getD i true with
      | true => rfl
      | false => have := hun i hi hl; rw [hnil] at this; cases this
    refine ⟨List.eq_nil_iff_forall_not_mem.2 fun i hi => ?_, done listed E k a w h hall⟩
    obtain ⟨h1, o, h2, _⟩ := mem_ready.1 hi
    rw [hall i (Array.getElem?_eq_some_iff.1 h2).1] at h1
    cases h1
  | succ fuel ih =>
    intro S listed E k a w h hsz hS hun
    refine ⟨fun hr => done listed E k a w h (all_listed hsz hp hr), fun i hi => ?_⟩
    obtain ⟨hl, o, ho, hedges⟩ := mem_ready.1 hi
    have hil : i < ops.size := (Array.getElem?_eq_some_iff.1 ho).1
    obtain ⟨p, hLi⟩ := hp.here i o ho
    have hx : (i, o, p) ∈ L := List.mem_of_getElem? hLi
    have hready : ∀ y ∈ L, waits o y.1 = true → listed.getD y.1 true = true := fun y hy hw => by
      obtain ⟨e, he, h1, h2⟩ := waits_iff.1 hw
      rw [← h2]
      exact getD_false_true (hedges e he h1)
    obtain ⟨v, tmi, hv, hs0, hs1, hs2, hs3, hs4⟩ := hrun.says i _ hLi
    obtain ⟨tmx, k1, k2, k3⟩ := h.tmx
    obtain ⟨mk, m1, m2, m3, m4, m5⟩ := h.mem
    have hxi : ∀ t ∈ o.looksAt ops, tmi.get t = tmx.get t := fun t ht => by
      have old : (∀ y ∈ L, y.2.1.dst = some t → waits y.2.1 i = true) → tmi.get t = tmx.get t := fun hall => by
        rw [k3 t fun y hy hly hd => by
          have := h.clo y hy hly _ hx (hall y hy hd)
          simp only at this
          rw [this] at hl; cases hl]
        refine hs0 t fun j' y hj' hy hd => ?_
        have h1 := hp.edge (List.mem_of_getElem? hy) (hall y (List.mem_of_getElem? hy) hd)
        have h2 := (hp.back j' y hy).1
        omega
      by_cases e : ∃ y ∈ L, y.2.1.dst = some t
      · obtain ⟨y, hy, hd⟩ := e
        have one : ∀ z ∈ L, z.2.1.dst = some t → z = y := fun z hz hdz => by
          by_cases e : z.1 = y.1
          · exact hp.eq_of hz hy e
          · exact absurd hdz (hp.uniq hz hy e hd)
        rcases hp.look hx hy hd ht with hw | hw
        · rw [k2 y hy (hready y hy hw) t hd]
          refine (hs1 t fun j' z hj' hz hdz => ?_).symm
          have := one z (List.mem_of_getElem? hz) hdz
          subst this
          have h1 := hp.edge hx hw
          have h2 := (hp.back j' z hz).1
          simp only at h1
          omega
        · exact old fun z hz hdz => by rw [one z hz hdz]; exact hw
      · exact old fun z hz hdz => absurd ⟨z, hz, hdz⟩ e
    have hF : ∀ d, o.dst = some d → tmF.get d = some v := fun d hd => hs2 d hd fun j' y hj' hy hd' => by
      have h2 := (hp.back j' y hy).1
      exact hp.uniq (List.mem_of_getElem? hy) hx (by simp only; omega) hd hd'
    have hwant : Region.wanted o (yielded ops a.tmps) = Region.wanted o (yieldedE ops tmi) := by rw [wantedE k1, wanted_congr hxi]
    have hrank : ∀ y ∈ L, y.2.2.act = true → y.2.2.rank = p.rank → p.act = true → y = (i, o, p) := fun y hy hay hr ha => by
      have := hrun.inj y.1 i y (i, o, p) (hp.mem_at hy) hLi hay ha hr
      exact hp.eq_of hy hx this
    have hrk : p.act = true → p.rank = k ∧ k < ms.length := fun ha => by
      obtain ⟨_, mi, mi', q1, q2, _⟩ := hs4 ha
      simp only [Nat.sub_zero] at q2
      have hlt : p.rank < ms.length := by
        have := (List.getElem?_eq_some_iff.1 q2).1
        simp only [List.length_cons] at this
        omega
      have hge : k ≤ p.rank := by
        by_cases e : p.rank < k
        · have := (h.rk _ hx ha).2 e
          simp only at this
          rw [this] at hl; cases hl
        · omega
      refine (fun (e : p.rank = k) => ⟨e, e ▸ hlt⟩) ?_
      rcases hp.chain hx ha with e | ⟨y, hy, hw, e⟩
      · simp only at e; omega
      · have hly := hready y hy hw
        simp only at e
        rcases e with ⟨hay, e⟩ | ⟨hay, e⟩
        · have := (h.rk y hy hay).1 hly; omega
        · have := h.lo y hy hay hly; omega
    have next : ∀ (k' : Nat) (E' : Env) (v' : Value) (w' : World), ((p.act = true ∧ p.rank = k ∧ k' = k + 1 ∧ k < ms.length) ∨ (p.act = false ∧ k' = k)) → E.To E' → (∀ i', E'.ph i' = true ↔ (E0.ph i' = true ∨ ∃ f ∈ fl, f.2.2.1 = i' ∧ (listed.setIfInBounds i true).getD f.1 true = false)) →
        (∃ mk, (m0 :: ms)[k']? = some mk ∧ HR P w0 E' mk.H mk.next w' ∧ mk.lo ≤ mk.next ∧ mk.lo = m0.lo ∧ m0.next ≤ mk.next) → VR E' v v' → wpAnyIn (WF ro) 0 P .any ops Q fuel (listed.setIfInBounds i true) (a.put o.dst v') w' := by
      intro k' E' v' w' hk hE hphs hm hvv
      refine ih (S.erase i) _ E' k' _ w' (DInv.step hp h hx hl hready hk hn hrank hE hphs hm hvv hF hB rfl) (by simpa using hsz) ?_ fun j hj hjl => ?_
      · have hmem := hun i hil hl
        rw [List.length_erase_of_mem hmem]
        omega
      · have hne : j ≠ i := fun e => by subst e; rw [getD_set_self] at hjl; cases hjl
        rw [getD_set_ne true (Ne.symm hne)] at hjl
        exact (List.mem_erase_of_ne hne).2 (hun j hj hjl)
    -- the names of the blocks that are yet to be, where none of them is listed now
    have still' : isFree o = false → ∀ E' : Env, E.le E' → ∀ i', E'.ph i' = true ↔ (E0.ph i' = true ∨ ∃ f ∈ fl, f.2.2.1 = i' ∧ (listed.setIfInBounds i true).getD f.1 true = false) := by
      intro hnf E' hE i'
      rw [hE.ph, h.phs i']
      have : ∀ f ∈ fl, (listed.setIfInBounds i true).getD f.1 true = listed.getD f.1 true := fun f hf => by
        refine getD_set_ne true fun e => ?_
        obtain ⟨y, hy, q1, q2, _⟩ := hlain.from' f hf
        have := hp.eq_of hy hx (q1.trans e.symm)
        subst this
        rw [hnf] at q2
        cases q2
      constructor
      · rintro (e | ⟨f, hf, q1, q2⟩)
        · exact .inl e
        · exact .inr ⟨f, hf, q1, by rw [this f hf]; exact q2⟩
      · rintro (e | ⟨f, hf, q1, q2⟩)
        · exact .inl e
        · exact .inr ⟨f, hf, q1, by rw [this f hf] at q2; exact q2⟩
    unfold wpOpIn
    simp only [ho]
    by_cases hfree : isFree o = true
    · -- a block that was laid beforehand comes to be
      have hga := (isFree_spec hfree).2.2.2
      have hwt : ∀ g, Region.wanted o g = true := fun g => by simp [Region.wanted, hga]
      rw [hwt, if_pos rfl]
      have hact := hp.free hx hfree
      simp only at hact
      obtain ⟨f, tmf, hfo, hvf⟩ := hrun.free i _ hLi hfree
      simp only at hfo
      obtain ⟨hfm, hfi⟩ := frOf_mem fl hfo
      rw [hv] at hvf
      injection hvf with hvf
      injection hvf with hvf _
      obtain ⟨y, hy, y1, y2, y3⟩ := hlain.from' f hfm
      have hyx : y = (i, o, p) := hp.eq_of hy hx (y1.trans hfi)
      subst hyx
      simp only at y3
      have hold := drChk_free L vs hchk i _ f hLi hfree hfo k mk (h.hi _ hx hact hl) m1
      have hget := holds_get hold
      have hnum := hlain.num f hfm
      have hph : E.ph f.2.2.1 = true := (h.phs _).2 (.inr ⟨f, hfm, rfl, by rw [hfi]; exact hl⟩)
      refine free_wp hfree y3 fun v' w' b r e1 e2 e3 e4 e5 e6 => ?_
      have hcap : (E.real f.2.2.1 b).cap f.2.2.1 = none := by simp [Env.real]
      have hblk : (E.real f.2.2.1 b).blk f.2.2.1 = some b := by simp [Env.real]
      refine next k (E.real f.2.2.1 b) v' w' (.inr ⟨hact, rfl⟩) (Env.to_real m2 hph b) (fun i' => ?_) ⟨mk, m1, m2.real hph e1 e2 e3 hget e4 (e5 _ hcap), m3, m4, m5⟩ (by rw [hvf]; exact e6 _ hblk hcap)
      simp only [Env.real]
      by_cases hi' : i' = f.2.2.1
      · rw [if_pos hi']
        constructor
        · intro e; cases e
        · rintro (e | ⟨f', hf', q1, q2⟩)
          · have := hfresh i' e; omega
          · have := hlain.inj f' hf' f hfm (q1.trans hi')
            subst this
            rw [hfi, getD_set_self] at q2
            cases q2
      · rw [if_neg hi', h.phs i']
        have hne : ∀ f' ∈ fl, f'.2.2.1 = i' → i ≠ f'.1 := fun f' hf' q1 e => by
          have := hlain.idx hp.apart f' hf' f hfm (e.symm.trans hfi.symm)
          subst this
          exact hi' q1.symm
        constructor
        · rintro (e | ⟨f', hf', q1, q2⟩)
          · exact .inl e
          · exact .inr ⟨f', hf', q1, by rw [getD_set_ne true (hne f' hf' q1)]; exact q2⟩
        · rintro (e | ⟨f', hf', q1, q2⟩)
          · exact .inl e
          · exact .inr ⟨f', hf', q1, by rw [getD_set_ne true (hne f' hf' q1)] at q2; exact q2⟩
    have hnf : isFree o = false := by simpa using hfree
    have still' := still' hnf
    cases hw : Region.wanted o (yieldedE ops tmi) with
    | true =>
      rw [hwant, hw]
      simp only [if_true]
      cases ha : p.act with
      | true =>
        obtain ⟨hr, hkl⟩ := hrk ha
        obtain ⟨_, mi, mi', q1, q2, q3⟩ := hs4 ha
        simp only [Nat.sub_zero, hr] at q1 q2
        rw [m1] at q1
        injection q1 with q1
        subst q1
        rcases q3 with ⟨_, q3⟩ | ⟨q3, _⟩
        · rw [exStep3_congr (tm' := tmx) o (operands_congr hxi)] at q3
          refine exStep3_wp hP hcall hrnd m2 m3 k1 q3 (.inr fun x hx => by cases hx) fun E' v' w' e1 e2 e3 e4 e5 => ?_
          exact next (k + 1) E' v' w' (.inl ⟨ha, hr, rfl, hkl⟩) e1.T (still' E' e1) ⟨mi', q2, e2, by omega, by omega, by omega⟩ e3
        · rw [hw] at q3; cases q3
      | false =>
        have hlo := h.lo_le hp hx hready ha
        have hhi := h.hi _ hx ha hl
        obtain ⟨m', he⟩ := drChk_get L vs hchk i _ v tmi hLi hv hnf ha hw k mk hlo hhi m1
        have hst : still P o.op = true := by
          have := hp.act hx
          rw [ha] at this
          simpa [calm, hnf] using this.symm
        have := still_mem hst he
        subst this
        rw [exOp_congr (tm' := tmx) o (operands_congr hxi)] at he
        refine op_wpIn (.inr (exOp_noDefer he)) (exOp_wp m2 m3 k1 he ?_)
        refine fun E' v' w' e1 e2 e3 e4 e5 => ?_
        exact next k E' v' w' (.inr ⟨ha, rfl⟩) e1.T (still' E' e1) ⟨_, m1, e2, m3, m4, m5⟩ e3
    | false =>
      rw [hwant, hw]
      simp only [Bool.false_eq_true, if_false]
      refine ⟨fun _ _ => trivial, ?_⟩
      have hvu := hs3 hw
      subst hvu
      cases ha : p.act with
      | true =>
        obtain ⟨hr, hkl⟩ := hrk ha
        obtain ⟨_, mi, mi', q1, q2, q3⟩ := hs4 ha
        simp only [Nat.sub_zero, hr] at q1 q2
        rw [m1] at q1
        injection q1 with q1
        subst q1
        rcases q3 with ⟨q3, _⟩ | ⟨_, rfl⟩
        · rw [hw] at q3; cases q3
        · exact next (k + 1) E _ w (.inl ⟨ha, hr, rfl, hkl⟩) E.le_refl.T (still' E E.le_refl) ⟨_, q2, m2, m3, m4, m5⟩ (VR.undef E)
      | false => exact next k E _ w (.inr ⟨ha, rfl⟩) E.le_refl.T (still' E E.le_refl) ⟨mk, m1, m2, m3, m4, m5⟩ (VR.undef E)
theorem last_get (m0 : Mem) (ms : List Mem) : (m0 :: ms)[ms.length]? = some (lastMem m0 ms) := by
  induction ms generalizing m0 with
  | nil => rfl
  | cons m r ih => simpa [lastMem] using ih m
/-- A state of ours stands for the model's. -/
structure SR (P : Program) (w0 : World) (E : Env) (nt : Nat) (s : St) (a : Act) (w : World) : Prop where
  hr : HR P w0 E s.m.H s.m.next w
  lo : s.m.lo ≤ s.m.next
  ar : AR E s.tm nt a
  df : DR P E s.df a.defers
theorem evDrawn_wp (hP : Plainly P) (hm : P.follows .mixedOrders = true) {call rnd : Call2} (hcall : CallOK P w0 call) (hrnd : RndOK P w0 rnd) {ro : Option Nat} {nt : Nat} (hB : nt ≤ 1073741824) {s s' : St} {a : Act} (h : SR P w0 E nt s a w) (he : evDrawn call rnd P nt ops s = .ok s') {id : Nat}
    {Q : Exit → Act → World → Prop} (hQ : ∀ E' a' w', E.le E' → SR P w0 E' nt s' a' w' → s'.m.lo = s.m.lo → s.m.next ≤ s'.m.next → Q .normal a' w') : (Code.region id ops true).wpIn (WF ro) 0 P Q a w := by
  unfold evDrawn at he
  split at he
  · rename_i n L hpl
    split at he
    · rename_i fl m0 hlay
      split at he
      · rename_i vs ms tmF hrun
        split at he
        · rename_i hc
          injection he with he
          subst he
          simp only [Bool.and_eq_true] at hc
          have hp := drPlan_ok hpl
          obtain ⟨hr0, hlain⟩ := layFree_ok L s.m E w fl m0 hlay h.hr
          have hr := drRun_ok L 0 s.tm m0 vs ms tmF (fun x hx d hd => Nat.lt_of_lt_of_le (hp.dst hx hd) hB) (fun x hx hf => hp.free hx hf) hrun
          have hun : ∀ x ∈ L, (Array.replicate ops.size false).getD x.1 true = false := fun x hx => by
            have := (Array.getElem?_eq_some_iff.1 (hp.op_at hx)).1
            simp [this]
          have hto : E.To (E.phs fl) := fun i b hb => ⟨hb, rfl⟩
          have hlo := hlain.lo
          have hnx := hlain.next
          have hslo := h.lo
          refine wpIn_region_any hm (drawn_any hP hcall hrnd hB hp hlain (fun i hi => (h.hr.ph i hi).1) hr (Nat.eq_of_beq_eq_true hc.1) hc.2 (E0 := E) (df := s.df) ?_ ops.size (List.range ops.size) _ (E.phs fl) 0 a _ ?_ (by simp) (by simp) fun i hi _ => List.mem_range.2 hi)
          · intro mk E' a' w' k1 k2 k3 k4 k5 k6 k7 k8
            rw [last_get] at k1
            injection k1 with k1
            subst k1
            exact hQ E' a' w' k2 ⟨k3, k4, k7, k8⟩ (k5.trans hlo) (Nat.le_trans hnx k6)
          · refine ⟨fun x hx hl => ?_, fun x hx _ => ?_, fun x hx _ hl => ?_, fun x hx _ _ => Nat.zero_le _, Nat.zero_le _, ⟨m0, rfl, hr0.drawn, by omega, rfl, Nat.le_refl _⟩, ⟨s.tm, h.ar.monoT hto, fun x hx hl => ?_, fun _ _ => rfl⟩, h.df.monoT hto, hto, fun i => ?_⟩
            · rw [hun x hx] at hl; cases hl
            · rw [hun x hx]; simp
            · rw [hun x hx] at hl; cases hl
            · rw [hun x hx] at hl; cases hl
            · simp only [Env.phs, Bool.or_eq_true, List.any_eq_true, beq_iff_eq]
              constructor
              · rintro (e | ⟨f, hf, q⟩)
                · exact .inl e
                · obtain ⟨x, hx, q1, _⟩ := hlain.from' f hf
                  exact .inr ⟨f, hf, q, by rw [← q1]; exact hun x hx⟩
              · rintro (e | ⟨f, hf, q, _⟩)
                · exact .inl e
                · exact .inr ⟨f, hf, q⟩
        · cases he
      · cases he
    · cases he
  · cases he
end Go.Proofs.YtkecgbcfkbafpaaDoor.Ev
