/-
  Regions whose order is drawn: what the run in the text's order says of each operation.
-/
import Derived.Test.YtkecgbcfkbafpaaDoorEvX
namespace Go.Proofs.YtkecgbcfkbafpaaDoor.Ev
set_option linter.unusedSectionVars false
variable [Sig]
open Go.RowKit
set_option linter.unusedSimpArgs false

variable {P : Program} {w0 w : World} {E : Env} {m : Mem} {ops : Array Oper}

theorem putE_get {tm : T Value} {dst : Option Tmp} {v : Value} (hb : ∀ d, dst = some d → d < 1073741824) (t : Nat) : (putE tm dst v).get t = if dst = some t then some v else tm.get t := by
  cases dst with
  | none => simp [putE]
  | some d =>
    rw [putE, T.get_set _ _ _ (hb d rfl)]
    by_cases h : t = d
    · simp [h]
    · simp [h, Ne.symm h]
/-- What the run says of one operation. -/
def RunSays (call rnd : Call2) (P : Program) (ops : Array Oper) (R : PL) (k : Nat) (mm : List Mem) (tm0 tmF : T Value) (j : Nat) (x : Nat × Oper × Plan) (v : Value) (tmi : T Value) : Prop :=
  (∀ t, (∀ j' y, j' < j → R[j']? = some y → y.2.1.dst ≠ some t) → tmi.get t = tm0.get t) ∧ (∀ t, (∀ j' y, j ≤ j' → R[j']? = some y → y.2.1.dst ≠ some t) → tmF.get t = tmi.get t) ∧
    (∀ d, x.2.1.dst = some d → (∀ j' y, j < j' → R[j']? = some y → y.2.1.dst ≠ some d) → tmF.get d = some v) ∧
    (Region.wanted x.2.1 (yieldedE ops tmi) = false → v = Go.undef) ∧
    (x.2.2.act = true → k ≤ x.2.2.rank ∧ ∃ mi mi' : Mem, mm[x.2.2.rank - k]? = some mi ∧ mm[x.2.2.rank - k + 1]? = some mi' ∧
      ((Region.wanted x.2.1 (yieldedE ops tmi) = true ∧ exStep3 call rnd P mi tmi x.2.1 = .ok (.val v mi')) ∨ (Region.wanted x.2.1 (yieldedE ops tmi) = false ∧ mi' = mi)))
structure RunOK (call rnd : Call2) (P : Program) (ops : Array Oper) (fl : List Fr) (R : PL) (k : Nat) (tm : T Value) (m : Mem) (vs : List (Value × T Value)) (ms : List Mem) (tmF : T Value) : Prop where
  keeps : ∀ t, (∀ x ∈ R, x.2.1.dst ≠ some t) → tmF.get t = tm.get t
  says : ∀ (j : Nat) (x : Nat × Oper × Plan), R[j]? = some x → ∃ v tmi, vs[j]? = some (v, tmi) ∧ RunSays call rnd P ops R k (m :: ms) tm tmF j x v tmi
  rank : ∀ r, r < ms.length → ∃ x ∈ R, x.2.2.act = true ∧ x.2.2.rank = k + r
  inj : ∀ (j j' : Nat) (x y : Nat × Oper × Plan), R[j]? = some x → R[j']? = some y → x.2.2.act = true → y.2.2.act = true → x.2.2.rank = y.2.2.rank → j = j'
  free : ∀ (j : Nat) (x : Nat × Oper × Plan), R[j]? = some x → isFree x.2.1 = true → ∃ f tmi, frOf x.1 fl = some f ∧ vs[j]? = some (f.2.1, tmi)
theorem RunOK.cons {call rnd : Call2} {fl : List Fr} {R : PL} {k k' : Nat} {tm : T Value} {m m' : Mem} {vs : List (Value × T Value)} {ms ms' : List Mem} {tmF : T Value} {x : Nat × Oper × Plan} {v : Value}
    (hb : ∀ d, x.2.1.dst = some d → d < 1073741824) (h : RunOK call rnd P ops fl R k' (putE tm x.2.1.dst v) m' vs ms tmF)
    (hk : (x.2.2.act = true ∧ x.2.2.rank = k ∧ k' = k + 1 ∧ ms' = m' :: ms ∧ ((Region.wanted x.2.1 (yieldedE ops tm) = true ∧ exStep3 call rnd P m tm x.2.1 = .ok (.val v m')) ∨ (Region.wanted x.2.1 (yieldedE ops tm) = false ∧ m' = m))) ∨ (x.2.2.act = false ∧ k' = k ∧ ms' = ms ∧ m' = m))
    (hv : Region.wanted x.2.1 (yieldedE ops tm) = false → v = Go.undef) (hfr : isFree x.2.1 = true → ∃ f, frOf x.1 fl = some f ∧ v = f.2.1) : RunOK call rnd P ops fl (x :: R) k tm m ((v, tm) :: vs) ms' tmF := by
  refine ⟨fun t ht => ?_, fun j y hj => ?_, fun r hr => ?_, fun j j' y z hy hz hay haz hr => ?_, fun j y hy hfy => ?_⟩
  · rw [h.keeps t fun y hy => ht y (List.mem_cons_of_mem _ hy), putE_get hb, if_neg (ht x (List.mem_cons_self ..))]
  · cases j with
    | zero =>
      simp only [List.getElem?_cons_zero, Option.some.injEq] at hj
      subst hj
      refine ⟨v, tm, rfl, fun _ _ => rfl, fun t ht => ?_, fun d hd hno => ?_, hv, fun ha => ?_⟩
      · rw [h.keeps t fun y hy => by
          obtain ⟨i, hi⟩ := List.mem_iff_getElem?.1 hy
          exact ht (i + 1) y (Nat.zero_le _) (by simpa using hi), putE_get hb, if_neg (ht 0 x (Nat.le_refl _) rfl)]
      · rw [h.keeps d fun y hy => by
          obtain ⟨i, hi⟩ := List.mem_iff_getElem?.1 hy
          exact hno (i + 1) y (Nat.succ_pos _) (by simpa using hi), putE_get hb, if_pos hd]
      · rcases hk with ⟨_, hr, _, rfl, hs⟩ | ⟨ha', _⟩
        · refine ⟨Nat.le_of_eq hr.symm, m, m', ?_, ?_, hs⟩ <;> simp [hr]
        · rw [ha] at ha'; cases ha'
    | succ j =>
      simp only [List.getElem?_cons_succ] at hj
      obtain ⟨u, tmi, h1, h0, h2, h3, h4, h5⟩ := h.says j y hj
      refine ⟨u, tmi, by simpa using h1, fun t ht => ?_, fun t ht => h2 t fun j' z hj' hz => ht (j' + 1) z (Nat.succ_le_succ hj') (by simpa using hz), fun d hd hno => h3 d hd fun j' z hj' hz => hno (j' + 1) z (Nat.succ_lt_succ hj') (by simpa using hz), h4, fun ha => ?_⟩
      · rw [h0 t fun j' z hj' hz => ht (j' + 1) z (Nat.succ_lt_succ hj') (by simpa using hz), putE_get hb, if_neg (ht 0 x (Nat.succ_pos _) rfl)]
      obtain ⟨k1, mi, mi', k2, k3, k4⟩ := h5 ha
      rcases hk with ⟨_, hr, hk', rfl, hs⟩ | ⟨ha', hk', rfl, rfl⟩
      · subst hk'
        have e1 : y.2.2.rank - k = (y.2.2.rank - (k + 1)) + 1 := by omega
        exact ⟨by omega, mi, mi', by rw [e1, List.getElem?_cons_succ]; exact k2, by rw [e1, List.getElem?_cons_succ]; exact k3, k4⟩
      · subst hk'
        exact ⟨k1, mi, mi', k2, k3, k4⟩
  · rcases hk with ⟨ha, hr', hk', rfl, hs⟩ | ⟨ha', hk', rfl, rfl⟩
    · cases r with
      | zero => exact ⟨x, List.mem_cons_self .., ha, by omega⟩
      | succ r =>
        obtain ⟨y, h1, h2, h3⟩ := h.rank r (by simpa using hr)
        exact ⟨y, List.mem_cons_of_mem _ h1, h2, by omega⟩
    · obtain ⟨y, h1, h2, h3⟩ := h.rank r hr
      exact ⟨y, List.mem_cons_of_mem _ h1, h2, by omega⟩
  · have low : ∀ (i : Nat) (u : Nat × Oper × Plan), R[i]? = some u → u.2.2.act = true → k' ≤ u.2.2.rank := fun i u hu hau => by
      obtain ⟨v, tmi, _, _, _, _, _, h5⟩ := h.says i u hu
      exact (h5 hau).1
    have hk' : x.2.2.act = true → x.2.2.rank + 1 = k' := fun ha => by
      rcases hk with ⟨_, h1, h2, _⟩ | ⟨ha', _⟩
      · omega
      · rw [ha] at ha'; cases ha'
    cases j with
    | zero =>
      cases j' with
      | zero => rfl
      | succ j' =>
        simp only [List.getElem?_cons_zero, List.getElem?_cons_succ, Option.some.injEq] at hy hz
        subst hy
        have := low j' z hz haz
        have := hk' hay
        omega
    | succ j =>
      cases j' with
      | zero =>
        simp only [List.getElem?_cons_zero, List.getElem?_cons_succ, Option.some.injEq] at hy hz
        subst hz
        have := low j y hy hay
        have := hk' haz
        omega
      | succ j' => rw [h.inj j j' y z (by simpa using hy) (by simpa using hz) hay haz hr]
  · cases j with
    | zero =>
      simp only [List.getElem?_cons_zero, Option.some.injEq] at hy
      subst hy
      obtain ⟨f, k1, k2⟩ := hfr hfy
      exact ⟨f, tm, k1, by simp [k2]⟩
    | succ j =>
      obtain ⟨f, tmi, k1, k2⟩ := h.free j y (by simpa using hy) hfy
      exact ⟨f, tmi, k1, by simpa using k2⟩
theorem drRun_ok {call rnd : Call2} {fl : List Fr} : ∀ (R : PL) (k : Nat) (tm : T Value) (m : Mem) (vs : List (Value × T Value)) (ms : List Mem) (tmF : T Value), (∀ x ∈ R, ∀ d, x.2.1.dst = some d → d < 1073741824) → (∀ x ∈ R, isFree x.2.1 = true → x.2.2.act = false) →
    drRun call rnd P ops fl R k tm m = .ok (vs, ms, tmF) → RunOK call rnd P ops fl R k tm m vs ms tmF := by
  intro R
  induction R with
  | nil =>
    intro k tm m vs ms tmF _ _ he
    simp only [drRun, Tr.ok.injEq, Prod.mk.injEq] at he
    obtain ⟨rfl, rfl, rfl⟩ := he
    exact ⟨fun _ _ => rfl, fun j x hx => by simp at hx, fun r hr => by simp at hr, fun j j' x y hx => by simp at hx, fun j x hx => by simp at hx⟩
  | cons x R ih =>
    intro k tm m vs ms tmF hb hfa he
    obtain ⟨i, o, p⟩ := x
    have hb0 := hb _ (List.mem_cons_self ..)
    have hb' := fun x hx => hb x (List.mem_cons_of_mem (i, o, p) hx)
    have hfa0 := hfa _ (List.mem_cons_self ..)
    have hfa' := fun x hx => hfa x (List.mem_cons_of_mem (i, o, p) hx)
    simp only [drRun] at he
    split at he
    · rename_i hfree
      split at he
      · rename_i f hfo
        split at he
        · rename_i vs' ms' tm' hd
          simp only [Tr.ok.injEq, Prod.mk.injEq] at he
          obtain ⟨rfl, rfl, rfl⟩ := he
          refine RunOK.cons hb0 (ih _ _ _ _ _ _ hb' hfa' hd) (.inr ⟨hfa0 hfree, rfl, rfl, rfl⟩) (fun h => ?_) fun _ => ⟨f, hfo, rfl⟩
          have := (isFree_spec hfree).2.2.2
          simp [Region.wanted, this] at h
        · cases he
      · cases he
    rename_i hfree
    have hnf : ∀ v : Value, isFree o = true → ∃ f, frOf i fl = some f ∧ v = f.2.1 := fun v h => absurd h hfree
    split at he
    · rename_i hw
      split at he
      · rename_i ha
        split at he
        · rename_i hr
          split at he
          · rename_i v m' hs
            split at he
            · rename_i vs' ms' tm' hd
              simp only [Tr.ok.injEq, Prod.mk.injEq] at he
              obtain ⟨rfl, rfl, rfl⟩ := he
              exact RunOK.cons hb0 (ih _ _ _ _ _ _ hb' hfa' hd) (.inl ⟨ha, Nat.eq_of_beq_eq_true hr, rfl, rfl, .inl ⟨hw, hs⟩⟩) (fun h => by rw [hw] at h; cases h) (hnf _)
            · cases he
          · cases he
          · cases he
        · cases he
      · rename_i ha
        split at he
        · rename_i v m' hs
          split at he
          · rename_i vs' ms' tm' hd
            simp only [Tr.ok.injEq, Prod.mk.injEq] at he
            obtain ⟨rfl, rfl, rfl⟩ := he
            exact RunOK.cons hb0 (ih _ _ _ _ _ _ hb' hfa' hd) (.inr ⟨by simpa using ha, rfl, rfl, rfl⟩) (fun h => by rw [hw] at h; cases h) (hnf _)
          · cases he
        · cases he
    · rename_i hw
      have hw' : Region.wanted o (yieldedE ops tm) = false := by simpa using hw
      split at he
      · rename_i ha
        split at he
        · rename_i hr
          split at he
          · rename_i vs' ms' tm' hd
            simp only [Tr.ok.injEq, Prod.mk.injEq] at he
            obtain ⟨rfl, rfl, rfl⟩ := he
            exact RunOK.cons hb0 (ih _ _ _ _ _ _ hb' hfa' hd) (.inl ⟨ha, Nat.eq_of_beq_eq_true hr, rfl, rfl, .inr ⟨hw', rfl⟩⟩) (fun _ => rfl) (hnf _)
          · cases he
        · cases he
      · rename_i ha
        split at he
        · rename_i vs' ms' tm' hd
          simp only [Tr.ok.injEq, Prod.mk.injEq] at he
          obtain ⟨rfl, rfl, rfl⟩ := he
          exact RunOK.cons hb0 (ih _ _ _ _ _ _ hb' hfa' hd) (.inr ⟨by simpa using ha, rfl, rfl, rfl⟩) (fun _ => rfl) (hnf _)
        · cases he
theorem okAt_get {tm : T Value} {o : Oper} {v : Value} : ∀ (l : List Mem), okAt P tm o v l = true → ∀ m ∈ l, ∃ m', exOp P m tm o = some (v, m') := by
  intro l
  induction l with
  | nil => intro _ m hm; cases hm
  | cons a r ih =>
    intro h m hm
    simp only [okAt, Bool.and_eq_true] at h
    rcases List.mem_cons.1 hm with rfl | hm
    · have h1 := h.1
      split at h1
      · rename_i u m' hx
        exact ⟨m', by rw [hx, veq_eq u v h1]⟩
      · cases h1
    · exact ih h.2 m hm
theorem drChk_get {fl : List Fr} {ms : List Mem} : ∀ (R : PL) (vs : List (Value × T Value)), drChk P ops fl ms R vs = true → ∀ (j : Nat) (x : Nat × Oper × Plan) (v : Value) (tm : T Value), R[j]? = some x → vs[j]? = some (v, tm) → isFree x.2.1 = false → x.2.2.act = false →
    Region.wanted x.2.1 (yieldedE ops tm) = true → ∀ q m, x.2.2.lo ≤ q → q ≤ x.2.2.hi → ms[q]? = some m → ∃ m', exOp P m tm x.2.1 = some (v, m') := by
  intro R
  induction R with
  | nil => intro vs _ j x v tm hx; simp at hx
  | cons y R ih =>
    intro vs h j x v tm hx hv hnf ha hw q m h1 h2 hm
    obtain ⟨i, o, p⟩ := y
    cases vs with
    | nil => simp at hv
    | cons u vs =>
      obtain ⟨u, tu⟩ := u
      simp only [drChk, Bool.and_eq_true] at h
      cases j with
      | zero =>
        simp only [List.getElem?_cons_zero, Option.some.injEq, Prod.mk.injEq] at hx hv
        obtain ⟨rfl, rfl⟩ := hv
        subst hx
        simp only at hnf
        have h0 := h.1
        rw [hnf] at h0
        simp only [Bool.false_eq_true, if_false, Bool.or_eq_true] at h0
        rcases h0 with (k | k) | k
        · rw [ha] at k; cases k
        · rw [hw] at k; cases k
        · refine okAt_get _ k m ?_
          rw [List.mem_iff_getElem?]
          refine ⟨q - p.lo, ?_⟩
          rw [List.getElem?_take_of_lt (by simp only at h1 h2; omega), List.getElem?_drop]
          simp only at h1
          rw [show p.lo + (q - p.lo) = q by omega]
          exact hm
      | succ j => exact ih vs h.2 j x v tm (by simpa using hx) (by simpa using hv) hnf ha hw q m h1 h2 hm
theorem drChk_free {fl : List Fr} {ms : List Mem} : ∀ (R : PL) (vs : List (Value × T Value)), drChk P ops fl ms R vs = true → ∀ (j : Nat) (x : Nat × Oper × Plan) (f : Fr), R[j]? = some x → isFree x.2.1 = true → frOf x.1 fl = some f →
    ∀ q m, q ≤ x.2.2.hi → ms[q]? = some m → holds f m = true := by
  intro R
  induction R with
  | nil => intro vs _ j x v hx; simp at hx
  | cons y R ih =>
    intro vs h j x f hx hf hfo q m h1 hm
    obtain ⟨i, o, p⟩ := y
    cases vs with
    | nil => simp [drChk] at h
    | cons u vs =>
      obtain ⟨u, tu⟩ := u
      simp only [drChk, Bool.and_eq_true] at h
      cases j with
      | zero =>
        simp only [List.getElem?_cons_zero, Option.some.injEq] at hx
        subst hx
        simp only at hf hfo h1
        have h0 := h.1
        rw [hf, hfo] at h0
        simp only [if_true] at h0
        refine List.all_eq_true.1 h0 m ?_
        rw [List.mem_iff_getElem?]
        exact ⟨q, by rw [List.getElem?_take_of_lt (by omega)]; exact hm⟩
      | succ j => exact ih vs h.2 j x f (by simpa using hx) hf hfo q m h1 hm
/-- What an operation looks at decides whether it is wanted, and its operands. -/
theorem wanted_congr {o : Oper} {tm tm' : T Value} (h : ∀ t ∈ o.looksAt ops, tm.get t = tm'.get t) : Region.wanted o (yieldedE ops tm) = Region.wanted o (yieldedE ops tm') := by
  unfold Region.wanted
  cases hg : o.guard with
  | none => rfl
  | some gw =>
    obtain ⟨g, want⟩ := gw
    have : yieldedE ops tm g = yieldedE ops tm' g := by
      unfold yieldedE
      cases ht : (ops[g]?).bind (·.dst) with
      | none => rfl
      | some t => simp only; rw [h t (by simp [Oper.looksAt, hg, ht])]
    simp only [this]
theorem operands_congr {o : Oper} {tm tm' : T Value} (h : ∀ t ∈ o.looksAt ops, tm.get t = tm'.get t) : ∀ x ∈ o.op.operands.toList, ev tm x = ev tm' x := by
  intro x hx
  cases x with
  | tmp t =>
    simp only [ev]
    rw [h t (List.mem_append_left _ (List.mem_filterMap.2 ⟨.tmp t, hx, rfl⟩))]
  | _ => rfl
end Go.Proofs.YtkecgbcfkbafpaaDoor.Ev
