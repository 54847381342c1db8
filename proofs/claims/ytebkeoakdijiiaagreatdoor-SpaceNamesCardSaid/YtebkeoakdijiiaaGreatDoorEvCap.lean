/-
  A call whose outcome hangs on a row's capacity: both ways are reckoned, and come to the same.
-/
import Derived.Test.YtebkeoakdijiiaaGreatDoorEvZC
namespace Go.Proofs.YtebkeoakdijiiaaGreatDoor.Ev
open Go.RowKit
set_option linter.unusedSimpArgs false

variable {P : Program} {w0 w w' : World} {E : Env} {m : Mem}

/-! ### equal blocks -/
def entEq : List MapEntry → List MapEntry → Bool
  | [], [] => true
  | ⟨k, v, b⟩ :: r, ⟨k', v', b'⟩ :: r' => veq k k' && veq v v' && Nat.beq b b' && entEq r r'
  | _, _ => false
theorem entEq_eq : ∀ (x y : List MapEntry), entEq x y = true → x = y := by
  intro x
  induction x with
  | nil => intro y h; cases y with | nil => rfl | cons _ _ => simp [entEq] at h
  | cons a x ih =>
    intro y h
    obtain ⟨k, v, b⟩ := a
    cases y with
    | nil => simp [entEq] at h
    | cons a' y =>
      obtain ⟨k', v', b'⟩ := a'
      simp only [entEq, Bool.and_eq_true] at h
      obtain ⟨⟨⟨h1, h2⟩, h3⟩, h4⟩ := h
      rw [veq_eq _ _ h1, veq_eq _ _ h2, Nat.eq_of_beq_eq_true h3, ih y h4]
def aeq : AObj → AObj → Bool
  | .cells cs n e g, .cells cs' n' e' g' => teq cs cs' && Nat.beq n n' && Nat.beq e e' && (g == g')
  | .map es c, .map es' c' => entEq es es' && Nat.beq c c'
  | .iter s p, .iter s' p' => decide (s = s') && Nat.beq p p'
  | .miter m a b c, .miter m' a' b' c' => decide (m = m') && Nat.beq a a' && Nat.beq b b' && decide (c = c')
  | .dfr, .dfr => true
  | _, _ => false
theorem aeq_eq {a b : AObj} (h : aeq a b = true) : a = b := by
  unfold aeq at h
  split at h
  · simp only [Bool.and_eq_true, beq_iff_eq] at h
    obtain ⟨⟨⟨h1, h2⟩, h3⟩, h4⟩ := h
    rw [teq_eq _ _ h1, Nat.eq_of_beq_eq_true h2, Nat.eq_of_beq_eq_true h3, h4]
  · simp only [Bool.and_eq_true] at h
    rw [entEq_eq _ _ h.1, Nat.eq_of_beq_eq_true h.2]
  · simp only [Bool.and_eq_true, decide_eq_true_eq] at h
    rw [h.1, Nat.eq_of_beq_eq_true h.2]
  · simp only [Bool.and_eq_true, decide_eq_true_eq] at h
    obtain ⟨⟨⟨h1, h2⟩, h3⟩, h4⟩ := h
    rw [h1, Nat.eq_of_beq_eq_true h2, Nat.eq_of_beq_eq_true h3, h4]
  · rfl
  · cases h
/-- Does whatever lies in one memory lie so in another? -/
def agreeT : T AObj → T AObj → Bool
  | .leaf, _ => true
  | .node a v b, .node a' v' b' => (match v, v' with
    | none, _ => true
    | some o, some o' => aeq o o'
    | _, _ => false) && agreeT a a' && agreeT b b'
  | .node a none b, .leaf => agreeT a .leaf && agreeT b .leaf
  | .node _ (some _) _, .leaf => false
theorem agreeT_get : ∀ (t t' : T AObj), agreeT t t' = true → ∀ i o, t.get i = some o → t'.get i = some o := by
  intro t
  induction t with
  | leaf => intro t' _ i o h; simp [T.get] at h
  | node a v b iha ihb =>
    intro t' h i o hg
    cases t' with
    | leaf =>
      cases v with
      | some _ => simp [agreeT] at h
      | none =>
        simp only [agreeT, Bool.and_eq_true] at h
        simp only [T.get] at hg
        split at hg
        · cases hg
        · split at hg
          · have := iha .leaf h.1 _ o hg; simp [T.get] at this
          · have := ihb .leaf h.2 _ o hg; simp [T.get] at this
    | node a' v' b' =>
      simp only [agreeT, Bool.and_eq_true] at h
      simp only [T.get] at hg ⊢
      split at hg
      · rename_i hi
        rw [if_pos hi]
        subst hg
        cases v' with
        | none => simp at h
        | some o' => simp only at h; rw [aeq_eq h.1.1]
      · rename_i hi
        rw [if_neg hi]
        split at hg
        · rename_i h1; rw [if_pos h1]; exact iha a' h.1.2 _ o hg
        · rename_i h1; rw [if_neg h1]; exact ihb b' h.2 _ o hg

/-! ### other names for a block -/
/-- Whatever lies in memory is numbered below what comes next. -/
theorem HR.lt {H : T AObj} {next : Nat} (h : HR P w0 E H next w) {i : Nat} {o : AObj} (hg : H.get i = some o) : i < next := by
  cases hp : E.ph i with
  | true => exact (h.ph i hp).1
  | false => obtain ⟨b, _, hb, _⟩ := h.born i o hg hp; exact (h.dom i b hb).1
theorem Env.le_more_ge {H : T AObj} {next q : Nat} (h : HR P w0 E H next w) (hq : next ≤ q) (b : Nat) (c : Option (Nat × Nat)) : E.le (E.more q b c) := ⟨fun i b' hb => by
  have := (h.dom i b' hb).1
  simp only [Env.more]
  rw [if_neg (by omega), if_neg (by omega)]
  exact ⟨hb, rfl⟩, rfl⟩
/-- A block has another name from now on, beside some of what lies in memory. -/
theorem HR.name {H H' : T AObj} {next q : Nat} (h : HR P w0 E H next w) (hq : next ≤ q) (hq2 : q < 1073741824) {p b : Nat} (h64 : 64 ≤ p) (hb : E.blk p = some b) {o o' : AObj} (hg : H.get p = some o) {c : Option (Nat × Nat)}
    (hs : ∀ i u, H'.get i = some u → H.get i = some u ∧ i ≠ p) (ho : ∀ r, w.heap[b]? = some r → OR P E p o r → OR P (E.more q b c) q o' r) : HR P w0 (E.more q b c) (H'.set q o') (q + 1) w := by
  have hle := Env.le_more_ge h hq b c
  have hbk : ∀ i b', (E.more q b c).blk i = some b' → (i = q ∧ b' = b) ∨ (i ≠ q ∧ E.blk i = some b') := by
    intro i b' e
    simp only [Env.more] at e
    split at e
    · injection e with e; exact .inl ⟨‹_›, e.symm⟩
    · exact .inr ⟨‹_›, e⟩
  have hget : ∀ i u, (H'.set q o').get i = some u → (i = q ∧ u = o') ∨ (i ≠ q ∧ H'.get i = some u) := fun i u e => by
    rw [T.get_set _ _ _ hq2] at e
    split at e
    · injection e with e; exact .inl ⟨‹_›, e.symm⟩
    · exact .inr ⟨‹_›, e⟩
  refine ⟨h.below, fun i b' e => ?_, fun g hgl => (hle.to g g (h.glob g hgl)).1, fun i j o1 o2 b' h1 h2 e1 e2 => ?_, fun i hi => ?_, fun i u hu hp => ?_⟩
  · rcases hbk i b' e with ⟨rfl, rfl⟩ | ⟨_, e⟩
    · exact ⟨by omega, fun _ => (h.dom p _ hb).2 h64⟩
    · have := h.dom i b' e; exact ⟨by omega, this.2⟩
  · rcases hget i o1 h1 with ⟨rfl, _⟩ | ⟨hi, g1⟩ <;> rcases hget j o2 h2 with ⟨rfl, _⟩ | ⟨hj, g2⟩
    · rfl
    · rcases hbk i b' e1 with ⟨_, rfl⟩ | ⟨e, _⟩
      · rcases hbk j _ e2 with ⟨e, _⟩ | ⟨_, e2⟩
        · exact absurd e hj
        · exact absurd (h.inj j p o2 o _ (hs j o2 g2).1 hg e2 hb) (hs j o2 g2).2
      · exact absurd rfl e
    · rcases hbk j b' e2 with ⟨_, rfl⟩ | ⟨e, _⟩
      · rcases hbk i _ e1 with ⟨e, _⟩ | ⟨_, e1⟩
        · exact absurd e hi
        · exact absurd (h.inj i p o1 o _ (hs i o1 g1).1 hg e1 hb) (hs i o1 g1).2
      · exact absurd rfl e
    · rcases hbk i b' e1 with ⟨e, _⟩ | ⟨_, e1⟩
      · exact absurd e hi
      · rcases hbk j b' e2 with ⟨e, _⟩ | ⟨_, e2⟩
        · exact absurd e hj
        · exact h.inj i j o1 o2 b' (hs i o1 g1).1 (hs j o2 g2).1 e1 e2
  · have := h.ph i hi
    refine ⟨by omega, ?_⟩
    simp only [Env.more]
    rw [if_neg (by omega)]
    exact this.2
  · rcases hget i u hu with ⟨rfl, rfl⟩ | ⟨hi, hu⟩
    · obtain ⟨b', r, k1, k2, k3⟩ := h.obj hb hg
      rw [hb] at k1
      injection k1 with k1
      subst k1
      exact ⟨b, r, by simp [Env.more], k2, ho r k2 k3⟩
    · obtain ⟨b', r, k1, k2, k3⟩ := h.born i u (hs i u hu).1 hp
      exact ⟨b', r, (hle.to i b' k1).1, k2, k3.mono hle k1⟩

/-! ### both ways -/
def reMem (m : Mem) (i : Nat) (cs : T Value) (n : Nat) (elem : TypeId) (g : Bool) : Mem := { m with H := (m.H.del i).set m.next (.cells cs n elem g), next := m.next + 1 }
/-- What one way comes to: the row's cells, and the number that comes next. -/
def capEnd (m : Mem) (i k1 elem s : Nat) : Tr (Out × Mem) → Option (List Value × Nat)
  | .ok (.ret (.slice (some ⟨p, 0, none⟩) n c), m1) =>
    if Nat.beq n k1 && Nat.ble k1 c && Nat.ble m.next p && Nat.ble m.next m1.next then match m1.H.get p with
      | some (.cells cs' n' e' true) => if Nat.beq e' elem && Nat.ble (k1 * s) n' && agreeT (m.H.del i) m1.H then
          match cs'.take 0 (k1 * s) with
          | some l => some (l, m1.next)
          | none => none else none
      | _ => none
    else none
  | _ => none
def blank (cs : T Value) (o : Nat) : Nat → Bool
  | 0 => true
  | n + 1 => (cs.get (o + n)).isNone && blank cs o n
def capSum (fi : FuncId) (sm : Sums) (P : Program) (steps n : Nat) : Sums := fun f l m =>
  if Nat.beq f fi then match l with
    | [.slice (some ⟨i, 0, none⟩) k c, x, y] => match m.H.get i with
      | some (.cells cs nb elem true) =>
        if Nat.beq c k && Nat.beq nb (k * P.cellsOf elem) && Nat.blt 0 (P.cellsOf elem) && Nat.ble 64 i && Nat.blt i 1073741824 && Nat.blt m.next 1073741824 && Nat.ble 64 m.next && blank cs nb (P.cellsOf elem) && Nat.ble ((k + 1) * P.cellsOf elem) 1073741824 then
          match capEnd m i (k + 1) elem (P.cellsOf elem) (evCall2 sm P steps n f [.slice (some ⟨m.next, 0, none⟩) k k, x, y] (reMem m i cs nb elem false)),
            capEnd m i (k + 1) elem (P.cellsOf elem) (evCall2 sm P steps n f [.slice (some ⟨m.next, 0, none⟩) k (k + 1), x, y] (reMem m i cs (nb + P.cellsOf elem) elem true)) with
          | some (la, qa), some (lb, qb) => if veqL la lb && Nat.blt (Nat.max qa qb) 1073741824 then
              some (.ret (.slice (some ⟨Nat.max qa qb, 0, none⟩) (k + 1) (k + 1)), { m with H := (m.H.del i).set (Nat.max qa qb) (.cells (T.leaf.fill 0 la) ((k + 1) * P.cellsOf elem) elem true), next := Nat.max qa qb + 1 }) else none
          | _, _ => none
        else none
      | _ => none
    | _ => none
  else none
theorem blank_get {cs : T Value} {o : Nat} : ∀ (n : Nat), blank cs o n = true → ∀ j, o ≤ j → j < o + n → cs.get j = none := by
  intro n
  induction n with
  | zero => intro _ j h1 h2; omega
  | succ n ih =>
    intro h j h1 h2
    simp only [blank, Bool.and_eq_true, Option.isNone_iff_eq_none] at h
    by_cases e : j = o + n
    · rw [e]; exact h.1
    · exact ih h.2 j h1 (by omega)
theorem capEnd_ok {i k1 elem s : Nat} {r : Tr (Out × Mem)} {la : List Value} {qa : Nat} (he : capEnd m i k1 elem s r = some (la, qa)) : ∃ p c m1 cs' n', r = .ok (.ret (.slice (some ⟨p, 0, none⟩) k1 c), m1) ∧ k1 ≤ c ∧ m.next ≤ p ∧ m.next ≤ m1.next ∧ m1.next = qa ∧
    m1.H.get p = some (.cells cs' n' elem true) ∧ k1 * s ≤ n' ∧ agreeT (m.H.del i) m1.H = true ∧ cs'.take 0 (k1 * s) = some la := by
  unfold capEnd at he
  split at he
  · rename_i p n c m1
    split at he
    · rename_i hc
      simp only [Bool.and_eq_true, Nat.ble_eq] at hc
      obtain ⟨⟨⟨h1, h2⟩, h3⟩, h4⟩ := hc
      obtain rfl := Nat.eq_of_beq_eq_true h1
      split at he
      · rename_i cs' n' e' hg
        split at he
        · rename_i hc2
          simp only [Bool.and_eq_true, Nat.ble_eq] at hc2
          obtain ⟨⟨k1', k2⟩, k3⟩ := hc2
          obtain rfl := Nat.eq_of_beq_eq_true k1'
          split at he
          · rename_i l hl
            simp only [Option.some.injEq, Prod.mk.injEq] at he
            obtain ⟨rfl, rfl⟩ := he
            exact ⟨p, c, m1, cs', n', rfl, h2, h3, h4, rfl, hg, k2, k3, hl⟩
          · cases he
        · cases he
      · cases he
    · cases he
  · cases he
theorem capSum_ok (hP : Plainly P) (hm : P.follows .mixedOrders = true) {sm : Sums} (hsm : SumOK P w0 sm) (fi : FuncId) (steps n : Nat) : SumOK P w0 (capSum fi sm P steps n) := by
  intro f l m out m' he
  unfold capSum at he
  split at he
  · split at he
    · rename_i i k c x y
      split at he
      · rename_i cs nb elem hg
        split at he
        · rename_i hc
          simp only [Bool.and_eq_true, Nat.ble_eq, Nat.blt_eq] at hc
          obtain ⟨⟨⟨⟨⟨⟨⟨⟨c1, c2⟩, c3⟩, c4⟩, c5⟩, c6⟩, c7⟩, c8⟩, c9⟩ := hc
          obtain rfl := Nat.eq_of_beq_eq_true c1
          obtain rfl := Nat.eq_of_beq_eq_true c2
          have hbl := blank_get _ c8
          split at he
          · rename_i la qa lb qb hA hB
            split at he
            · rename_i hq
              simp only [Bool.and_eq_true, Nat.blt_eq] at hq
              obtain ⟨hq1, hq2⟩ := hq
              obtain rfl := veqL_eq _ _ hq1
              simp only [Option.some.injEq, Prod.mk.injEq] at he
              obtain ⟨rfl, rfl⟩ := he
              generalize hQ : Nat.max qa qb = q at hq2
              have hqa : qa ≤ q := by rw [← hQ]; exact Nat.le_max_left _ _
              have hqb : qb ≤ q := by rw [← hQ]; exact Nat.le_max_right _ _
              have hsuc : (c + 1) * P.cellsOf elem = c * P.cellsOf elem + P.cellsOf elem := by rw [Nat.add_mul, Nat.one_mul]
              obtain ⟨pA, cA, mA, csA, nA, rA, a1, a2, a3, a4, a5, a6, a7, a8⟩ := capEnd_ok hA
              obtain ⟨pB, cB, mB, csB, nB, rB, b1, b2, b3, b4, b5, b6, b7, b8⟩ := capEnd_ok hB
              have hcall := evCall2_ok hP hm hsm steps n
              obtain ⟨hfn, hCA⟩ := hcall _ _ _ _ _ rA
              obtain ⟨_, hCB⟩ := hcall _ _ _ _ _ rB
              refine ⟨hfn, fun E w args h hlo hargs => ?_⟩
              generalize hL : args.toList = L at hargs
              cases hargs with
              | cons hv hl =>
              rename_i L'
              cases hv with
              | @slice _ b _ _ _ c' hb hcap =>
              obtain ⟨b', r, k1, k2, arr, ⟨fz, elem', hfz, hel, rfl⟩, hsz, hcell⟩ := h.obj hb hg
              obtain rfl : b = b' := by rw [hb] at k1; injection k1
              cases hcp : E.cap i with
              | none => rw [sizeOk, hcp] at hsz; simp at hsz
              | some q0 =>
              obtain ⟨C, s⟩ := q0
              simp only [sizeOk, hcp] at hsz
              obtain ⟨s1, s2, s3, _, s5⟩ := hsz
              obtain ⟨e1, e2⟩ : c ≤ c' ∧ c' = C := by simpa [capOf, hcp] using hcap
              subst e2
              -- the end of either way
              have fin : ∀ (E1 E' : Env) (p cc : Nat) (m1 : Mem) (cs' : T Value) (n' : Nat) (e : Ending) (w' : World), E.le E1 → E1.le E' → HR P w0 E' m1.H m1.next w' → m1.next ≤ q → c + 1 ≤ cc → m.next ≤ p → m.next ≤ m1.next → m1.H.get p = some (.cells cs' n' elem true) → (c + 1) * P.cellsOf elem ≤ n' →
                  agreeT (m.H.del i) m1.H = true → cs'.take 0 ((c + 1) * P.cellsOf elem) = some la → OutR E' (.ret (.slice (some ⟨p, 0, none⟩) (c + 1) cc)) e →
                  ∃ E'', E.le E'' ∧ HR P w0 E'' ((m.H.del i).set q (.cells (T.leaf.fill 0 la) ((c + 1) * P.cellsOf elem) elem true)) (q + 1) w' ∧ m.lo = m.lo ∧ m.next ≤ q + 1 ∧ OutR E'' (.ret (.slice (some ⟨q, 0, none⟩) (c + 1) (c + 1))) e := by
                intro E1 E' p cc m1 cs' n' e w' g1 g2 g3 g4 g5 g6 g7 g8 g9 g10 g11 g12
                cases e with
                | panicked _ => exact g12.elim
                | outgrown => exact g12.elim
                | returned v' =>
                  cases g12 with
                  | @slice _ bp _ _ _ cp' hbp hcpp =>
                  obtain ⟨t1, t2⟩ := T.take_spec _ _ _ _ g11
                  have hcap' : ∃ C' s', E'.cap p = some (C', s') := by
                    obtain ⟨_, _, _, _, arr', _, hsz', _⟩ := g3.obj hbp g8
                    cases hcq : E'.cap p with
                    | none => rw [sizeOk, hcq] at hsz'; simp at hsz'
                    | some z => exact ⟨z.1, z.2, rfl⟩
                  obtain ⟨C', s', hC'⟩ := hcap'
                  have hle2 := Env.le_more_ge g3 g4 bp (some (C', s'))
                  refine ⟨E'.more q bp (some (C', s')), Env.le_trans g1 (Env.le_trans g2 hle2), ?_, rfl, by omega, ?_⟩
                  · refine g3.name g4 hq2 (by omega) hbp g8 (fun j u hj => ?_) fun r hr hor => ?_
                    · refine ⟨agreeT_get _ _ g10 j u hj, fun ej => ?_⟩
                      subst ej
                      rw [T.get_del _ _ c5] at hj
                      split at hj
                      · cases hj
                      · have := h.lt hj; omega
                    · obtain ⟨arr', ⟨fz', el', z1, z2, z3⟩, hsz', hc'⟩ := hor
                      refine ⟨arr', ⟨fz', el', z1, fun _ => z2 (by omega), z3⟩, ?_, fun j v hj hv => ?_⟩
                      · simp only [sizeOk, hC'] at hsz'
                        simp only [sizeOk, Env.more, if_true]
                        exact ⟨by omega, hsz'.2.1, hsz'.2.2.1, trivial, hsz'.2.2.2.2⟩
                      · rw [T.get_fill _ _ _ _ (by omega), if_pos (by omega)] at hv
                        simp only [Nat.sub_zero] at hv
                        have := t2 j v hv
                        rw [Nat.zero_add] at this
                        obtain ⟨v', x1, x2⟩ := hc' j v (by omega) this
                        exact ⟨v', x1, x2.mono hle2⟩
                  · have hx : cc ≤ cp' ∧ cp' = C' - 0 / s' := by simpa [capOf, hC'] using hcpp
                    exact .slice 0 _ (by simp [Env.more]) (by simp only [capOf, Env.more, if_true]; exact ⟨by omega, hx.2⟩)
              by_cases hCk : c' = c
              · -- no room
                subst hCk
                have hle1 := Env.le_more h b none
                have hr1 : HR P w0 (E.more m.next b none) (reMem m i cs (c' * P.cellsOf elem) elem false).H (m.next + 1) w := by
                  refine h.name (Nat.le_refl _) c6 c4 hb hg (fun j u hj => ?_) fun r hr hor => ?_
                  · rw [T.get_del _ _ c5] at hj
                    split at hj
                    · cases hj
                    · exact ⟨hj, by assumption⟩
                  · obtain ⟨arr', ⟨fz', el', z1, z2, z3⟩, hsz', hc'⟩ := hor
                    refine ⟨arr', ⟨fz', el', z1, fun _ => z2 c4, z3⟩, ?_, fun j v hj hv => ?_⟩
                    · simp only [sizeOk, hcp] at hsz'
                      simp only [sizeOk, Env.more, if_true]
                      refine ⟨?_, trivial⟩
                      rw [hsz'.2.1, hsz'.2.2.2.2]
                    · obtain ⟨v', x1, x2⟩ := hc' j v hj hv
                      exact ⟨v', x1, x2.mono hle1⟩
                refine Calls.mono (hCA (E.more m.next b none) w args hr1 (by show m.lo ≤ m.next + 1; omega) (by rw [hL]; exact .cons (.slice 0 _ (by simp [Env.more]) (by simp [capOf, Env.more])) (hl.mono hle1))) fun e w' ⟨E', x1, x2, x3, x4, x5⟩ => ?_
                exact fin _ E' pA cA mA csA nA e w' hle1 x1 x2 (by omega) a1 a2 a3 a5 a6 a7 a8 x5
              · -- room
                have hle1 := Env.le_more h b (some (c', s))
                have hge : (c + 1) * P.cellsOf elem ≤ c' * P.cellsOf elem := Nat.mul_le_mul_right _ (by omega)
                have hr1 : HR P w0 (E.more m.next b (some (c', s))) (reMem m i cs (c * P.cellsOf elem + P.cellsOf elem) elem true).H (m.next + 1) w := by
                  refine h.name (Nat.le_refl _) c6 c4 hb hg (fun j u hj => ?_) fun r hr hor => ?_
                  · rw [T.get_del _ _ c5] at hj
                    split at hj
                    · cases hj
                    · exact ⟨hj, by assumption⟩
                  · obtain ⟨arr', ⟨fz', el', z1, z2, z3⟩, hsz', hc'⟩ := hor
                    refine ⟨arr', ⟨fz', el', z1, fun _ => z2 c4, z3⟩, ?_, fun j v hj hv => ?_⟩
                    · simp only [sizeOk, hcp] at hsz'
                      simp only [sizeOk, Env.more, if_true]
                      refine ⟨?_, hsz'.2.1, hsz'.2.2.1, trivial, hsz'.2.2.2.2⟩
                      rw [hsz'.2.1, ← hsz'.2.2.2.2]
                      omega
                    · by_cases hjn : j < c * P.cellsOf elem
                      · obtain ⟨v', x1, x2⟩ := hc' j v hjn hv
                        exact ⟨v', x1, x2.mono hle1⟩
                      · rw [hbl j (by omega) hj] at hv
                        cases hv
                refine Calls.mono (hCB (E.more m.next b (some (c', s))) w args hr1 (by show m.lo ≤ m.next + 1; omega) (by rw [hL]; exact .cons (.slice 0 _ (by simp [Env.more]) (by simp [capOf, Env.more]; omega)) (hl.mono hle1))) fun e w' ⟨E', x1, x2, x3, x4, x5⟩ => ?_
                exact fin _ E' pB cB mB csB nB e w' hle1 x1 x2 (by omega) b1 b2 b3 b5 b6 b7 b8 x5
            · cases he
          · cases he
        · cases he
      · cases he
    · cases he
  · cases he
end Go.Proofs.YtebkeoakdijiiaaGreatDoor.Ev
