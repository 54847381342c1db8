/-
  Two numbers that are not known: in which ranges they stand, their quotients and rests by 32768, with something added, and which of these are the same.
-/
import Derived.Test.YtkecgbcfkbafpaaDoorEvM
namespace Go.Proofs.YtkecgbcfkbafpaaDoor.Ev
open Go.RowKit

structure SCase where
  lp : Int
  hp : Int
  lq : Int
  hq : Int
  flags : List (Nat × Int × Int × Bool)
def sform (f : Nat) (x : Int) : Int := if f = 0 then x else if f = 1 then x.tdiv 32768 else x.tmod 32768
structure SCase.Valid (c : SCase) (p q : Int) : Prop where
  lp : c.lp ≤ p
  hp : p ≤ c.hp
  lq : c.lq ≤ q
  hq : q ≤ c.hq
  fl : ∀ f a b r, (f, a, b, r) ∈ c.flags → decide (sform f p + a = sform f q + b) = r
structure Lin where
  s : Bool
  v : Nat
  f : Nat
  o : Int
def lin : Value → Option Lin
  | .int .i64 n => some ⟨false, 0, 0, n⟩
  | .float .f32 j => some ⟨true, j % 2, (j / 2) % 3, ((j / 6 : Nat) : Int)⟩
  | _ => none
def varOf (p q : Int) (v : Nat) : Int := if v = 0 then p else q
def symVal (p q : Int) (j : Nat) : Int := sform ((j / 2) % 3) (varOf p q (j % 2)) + ((j / 6 : Nat) : Int)
def lval (p q : Int) (l : Lin) : Int := match l.s with
  | true => sform l.f (varOf p q l.v) + l.o
  | false => l.o
theorem lin_val {p q : Int} {x x' : Value} {l : Lin} (h : SV (symVal p q) x x') (hl : lin x = some l) : x' = .int .i64 (lval p q l) := by
  cases h with
  | bool b => simp [lin] at hl
  | int k n =>
    cases k <;> simp [lin] at hl
    subst hl; rfl
  | sym j =>
    simp [lin] at hl
    subst hl; rfl
def SCase.lo (c : SCase) (v : Nat) : Int := if v = 0 then c.lp else c.lq
def SCase.hi (c : SCase) (v : Nat) : Int := if v = 0 then c.hp else c.hq
theorem SCase.Valid.lo {c : SCase} {p q : Int} (h : c.Valid p q) (v : Nat) : c.lo v ≤ varOf p q v := by
  unfold SCase.lo varOf; split; exact h.lp; exact h.lq
theorem SCase.Valid.hi {c : SCase} {p q : Int} (h : c.Valid p q) (v : Nat) : varOf p q v ≤ c.hi v := by
  unfold SCase.hi varOf; split; exact h.hp; exact h.hq
def rng (c : SCase) (l : Lin) : Option (Int × Int) :=
  match l.s with
  | false => some (l.o, l.o)
  | true => if l.f = 0 then some (c.lo l.v + l.o, c.hi l.v + l.o)
    else if 0 ≤ c.lo l.v then (if l.f = 1 then some (c.lo l.v / 32768 + l.o, c.hi l.v / 32768 + l.o) else some (l.o, 32767 + l.o))
    else none
theorem rng_ok {c : SCase} {p q : Int} (h : c.Valid p q) {l : Lin} {a b : Int} (hr : rng c l = some (a, b)) : a ≤ lval p q l ∧ lval p q l ≤ b := by
  unfold rng at hr
  unfold lval
  have h1 := h.lo l.v
  have h2 := h.hi l.v
  generalize varOf p q l.v = x at *
  cases hs : l.s with
  | false =>
    rw [hs] at hr
    simp only [Option.some.injEq, Prod.mk.injEq] at hr
    simp only
    omega
  | true =>
    rw [hs] at hr
    simp only at hr ⊢
    unfold sform
    split at hr
    · rename_i h0
      simp only [Option.some.injEq, Prod.mk.injEq] at hr
      rw [if_pos h0]
      omega
    · rename_i h0
      rw [if_neg h0]
      split at hr
      · rename_i hlo
        split at hr
        · rename_i hf
          rw [if_pos hf]
          simp only [Option.some.injEq, Prod.mk.injEq] at hr
          rw [Int.tdiv_eq_ediv_of_nonneg (by omega)]
          omega
        · rename_i hf
          rw [if_neg hf]
          simp only [Option.some.injEq, Prod.mk.injEq] at hr
          rw [Int.tmod_eq_emod_of_nonneg (by omega)]
          omega
      · cases hr
def cmpI (op : BinOp) (x y : Int × Int) : Option Bool :=
  match op with
  | .lss => if x.2 < y.1 then some true else if x.1 ≥ y.2 then some false else none
  | .leq => if x.2 ≤ y.1 then some true else if x.1 > y.2 then some false else none
  | .gtr => if x.1 > y.2 then some true else if x.2 ≤ y.1 then some false else none
  | .geq => if x.1 ≥ y.2 then some true else if x.2 < y.1 then some false else none
  | .eql => if x.2 < y.1 ∨ y.2 < x.1 then some false else none
  | .neq => if x.2 < y.1 ∨ y.2 < x.1 then some true else none
  | _ => none
theorem cmpI_ok {op : BinOp} {x y : Int × Int} {b : Bool} {m n : Int} (hx : x.1 ≤ m ∧ m ≤ x.2) (hy : y.1 ≤ n ∧ n ≤ y.2) (h : cmpI op x y = some b) (P : Program) (t : TypeId) (w : World) :
    (binOp op t (.int .i64 m) (.int .i64 n)).run P w = .ok (.bool b) w := by
  unfold cmpI at h
  split at h
  all_goals first
    | (cases h; done)
    | (split at h
       · injection h with h
         subst h
         simp [binOp, Op.intCmp, Sem.run_pure]
         omega
       · split at h
         · injection h with h
           subst h
           simp [binOp, Op.intCmp, Sem.run_pure]
           omega
         · cases h)
    | (split at h
       · injection h with h
         subst h
         simp [binOp, Op.intCmp, Sem.run_pure]
         omega
       · cases h)
def findFlag (f : Nat) (a b : Int) : List (Nat × Int × Int × Bool) → Option Bool
  | [] => none
  | (g, x, y, r) :: l => if f = g ∧ a = x ∧ b = y then some r else findFlag f a b l
theorem findFlag_mem {f : Nat} {a b : Int} {r : Bool} : ∀ {l : List (Nat × Int × Int × Bool)}, findFlag f a b l = some r → (f, a, b, r) ∈ l
  | [], h => by cases h
  | (g, x, y, r') :: l, h => by
    simp only [findFlag] at h
    split at h
    · rename_i hc
      injection h with h
      obtain ⟨rfl, rfl, rfl⟩ := hc
      subst h
      exact .head _
    · exact .tail _ (findFlag_mem h)
def eqS (c : SCase) (a b : Lin) : Option Bool :=
  if a.s = true ∧ b.s = true ∧ a.f = b.f then
    if a.v = b.v then some (decide (a.o = b.o))
    else if a.v = 0 ∧ b.v = 1 then findFlag a.f a.o b.o c.flags
    else none
  else none
theorem eqS_ok {c : SCase} {p q : Int} (h : c.Valid p q) {a b : Lin} {r : Bool} (he : eqS c a b = some r) : decide (lval p q a = lval p q b) = r := by
  unfold eqS at he
  split at he
  · rename_i hc
    unfold lval
    rw [hc.1, hc.2.1]
    simp only
    split at he
    · rename_i hv
      injection he with he
      rw [← he, hc.2.2, hv]
      congr 1
      exact propext ⟨fun k => by omega, fun k => by omega⟩
    · split at he
      · rename_i hv
        have := h.fl _ _ _ _ (findFlag_mem he)
        rw [hv.1, hv.2, ← hc.2.2]
        exact this
      · cases he
  · cases he
def shiftS (c : SCase) (a : Lin) (n : Int) : Option Value :=
  match rng c a with
  | some (l, h) => if 0 ≤ n ∧ 0 ≤ a.o ∧ a.v < 2 ∧ a.f < 3 ∧ 0 ≤ l ∧ h + n < 4611686018427387904 then some (.float .f32 (6 * (a.o + n).toNat + 2 * a.f + a.v)) else none
  | none => none
theorem wrap_small {n : Int} (h : 0 ≤ n) (k : n < 4611686018427387904) : IntKind.wrap .i64 n = n := by
  have hm : n % 18446744073709551616 = n := by omega
  have h9 : ¬ (9223372036854775808 ≤ n) := by omega
  simp [IntKind.wrap, IntKind.signed, IntKind.bits, hm, h9]
theorem shiftS_ok {c : SCase} {p q : Int} (h : c.Valid p q) {a : Lin} {n : Int} {r : Value} (hs : a.s = true) (he : shiftS c a n = some r) :
    SV (symVal p q) r (.int .i64 (lval p q a + n)) ∧ IntKind.wrap .i64 (lval p q a + n) = lval p q a + n := by
  unfold shiftS at he
  split at he
  · rename_i l hh hr
    split at he
    · rename_i hc
      injection he with he
      subst he
      have h1 := rng_ok h hr
      refine ⟨?_, wrap_small (by omega) (by omega)⟩
      have hv : symVal p q (6 * (a.o + n).toNat + 2 * a.f + a.v) = lval p q a + n := by
        unfold symVal lval
        rw [hs]
        simp only
        have e1 : (6 * (a.o + n).toNat + 2 * a.f + a.v) / 2 % 3 = a.f := by omega
        have e2 : (6 * (a.o + n).toNat + 2 * a.f + a.v) % 2 = a.v := by omega
        have e3 : (6 * (a.o + n).toNat + 2 * a.f + a.v) / 6 = (a.o + n).toNat := by omega
        rw [e1, e2, e3]
        omega
      rw [← hv]
      exact .sym _
    · cases he
  · cases he
def divS (c : SCase) (f : Nat) (a b : Lin) : Option Value :=
  if a.s = true ∧ a.f = 0 ∧ a.o = 0 ∧ a.v < 2 ∧ b.s = false ∧ b.o = 32768 ∧ 0 ≤ c.lo a.v ∧ c.hi a.v < 4611686018427387904 then some (.float .f32 (2 * f + a.v)) else none
def stab (c : SCase) (op : BinOp) (x y : Value) : Option Value :=
  match lin x, lin y with
  | some a, some b => match op with
    | .add => if a.s && !b.s then shiftS c a b.o else if !a.s && b.s then shiftS c b a.o else none
    | .quo => divS c 1 a b
    | .rem => divS c 2 a b
    | .eql => match eqS c a b with
      | some r => some (.bool r)
      | none => match rng c a, rng c b with
        | some u, some v => (cmpI .eql u v).map .bool
        | _, _ => none
    | .neq => match eqS c a b with
      | some r => some (.bool (!r))
      | none => match rng c a, rng c b with
        | some u, some v => (cmpI .neq u v).map .bool
        | _, _ => none
    | op => match rng c a, rng c b with
      | some u, some v => (cmpI op u v).map .bool
      | _, _ => none
  | _, _ => none
theorem cmp_rng {c : SCase} {p q : Int} (h : c.Valid p q) {op : BinOp} {a b : Lin} {r : Value} (he : (match rng c a, rng c b with
      | some u, some v => (cmpI op u v).map Value.bool
      | _, _ => none) = some r) : ∃ r', SV (symVal p q) r r' ∧ ∀ (P : Program) (t : TypeId) (w : World), (binOp op t (.int .i64 (lval p q a)) (.int .i64 (lval p q b))).run P w = .ok r' w := by
  split at he
  · rename_i u v hu hv
    cases hc : cmpI op u v with
    | none => rw [hc] at he; cases he
    | some b =>
      rw [hc] at he
      injection he with he
      subst he
      exact ⟨_, .bool b, fun P t w => cmpI_ok (rng_ok h (a := u.1) (b := u.2) hu) (rng_ok h (a := v.1) (b := v.2) hv) hc P t w⟩
  · cases he
theorem divS_ok {c : SCase} {p q : Int} (h : c.Valid p q) {f : Nat} {a b : Lin} {r : Value} (he : divS c f a b = some r) (hf : f = 1 ∨ f = 2) :
    SV (symVal p q) r (.int .i64 (sform f (lval p q a))) ∧ lval p q b = 32768 ∧ 0 ≤ lval p q a ∧ lval p q a < 4611686018427387904 := by
  unfold divS at he
  split at he
  · rename_i hc
    obtain ⟨hs, hf0, ho, hv, hbs, hbo, hlo, hhi⟩ := hc
    injection he with he
    subst he
    have h1 := h.lo a.v
    have h2 := h.hi a.v
    have ha : lval p q a = varOf p q a.v := by
      unfold lval sform; rw [hs]; simp only; rw [if_pos hf0]; omega
    have hb : lval p q b = 32768 := by unfold lval; rw [hbs]; exact hbo
    refine ⟨?_, hb, by omega, by omega⟩
    have hval : symVal p q (2 * f + a.v) = sform f (lval p q a) := by
      unfold symVal
      have e1 : (2 * f + a.v) / 2 % 3 = f := by omega
      have e2 : (2 * f + a.v) % 2 = a.v := by omega
      have e3 : (2 * f + a.v) / 6 = 0 := by omega
      rw [e1, e2, e3, ha]; omega
    rw [← hval]
    exact .sym _
  · cases he
theorem stab_ok {c : SCase} {p q : Int} (h : c.Valid p q) {op : BinOp} {x y r : Value} (he : stab c op x y = some r) {x' y' : Value} (hx : SV (symVal p q) x x') (hy : SV (symVal p q) y y') :
    ∃ r', SV (symVal p q) r r' ∧ ∀ (P : Program) (t : TypeId) (w : World), (binOp op t x' y').run P w = .ok r' w := by
  unfold stab at he
  split at he
  · rename_i a b ha hb
    rw [lin_val hx ha, lin_val hy hb]
    split at he
    · split at he
      · rename_i hc
        simp only [Bool.and_eq_true] at hc
        obtain ⟨k1, k2⟩ := shiftS_ok h hc.1 he
        have hb' : lval p q b = b.o := by unfold lval; have := hc.2; simp at this; rw [this]
        refine ⟨_, k1, fun P t w => ?_⟩
        simp [binOp, Op.intArith, Sem.run_pure, hb', k2]
      · split at he
        · rename_i hc
          simp only [Bool.and_eq_true] at hc
          obtain ⟨k1, k2⟩ := shiftS_ok h hc.2 he
          have ha' : lval p q a = a.o := by unfold lval; have := hc.1; simp at this; rw [this]
          refine ⟨_, k1, fun P t w => ?_⟩
          rw [Int.add_comm] at k2 ⊢
          simp [binOp, Op.intArith, Sem.run_pure, ha', k2]
        · cases he
    · obtain ⟨k1, k2, k3, k4⟩ := divS_ok h he (.inl rfl)
      refine ⟨_, k1, fun P t w => ?_⟩
      have e : sform 1 (lval p q a) = (lval p q a).tdiv 32768 := by simp [sform]
      have h0 : 0 ≤ (lval p q a).tdiv 32768 := by rw [Int.tdiv_eq_ediv_of_nonneg k3]; omega
      have h1 : (lval p q a).tdiv 32768 < 4611686018427387904 := by rw [Int.tdiv_eq_ediv_of_nonneg k3]; omega
      simp [binOp, Op.intDiv, Sem.run_pure, k2, e, wrap_small h0 h1]
    · obtain ⟨k1, k2, k3, k4⟩ := divS_ok h he (.inr rfl)
      refine ⟨_, k1, fun P t w => ?_⟩
      have e : sform 2 (lval p q a) = (lval p q a).tmod 32768 := by simp [sform]
      simp [binOp, Op.intDiv, Sem.run_pure, k2, e]
    · split at he
      · rename_i r0 hq
        injection he with he
        subst he
        refine ⟨_, .bool _, fun P t w => ?_⟩
        have := eqS_ok h hq
        simp only [binOp, Op.intCmp, Sem.run_pure, ne_eq, not_true_eq_false, if_false]
        rw [show (lval p q a == lval p q b) = decide (lval p q a = lval p q b) from rfl, this]
      · exact cmp_rng h he
    · split at he
      · rename_i r0 hq
        injection he with he
        subst he
        refine ⟨_, .bool _, fun P t w => ?_⟩
        have := eqS_ok h hq
        simp [binOp, Op.intCmp, Sem.run_pure, bne, ← this]
        rfl
      · exact cmp_rng h he
    · exact cmp_rng h he
  · cases he
/-- The two numbers, and what is known of them. -/
@[reducible] def sigOf (c : SCase) (p q : Int) (h : c.Valid p q) : Sig := ⟨symVal p q, stab c, fun he _ _ hx hy => stab_ok h he hx hy⟩
end Go.Proofs.YtkecgbcfkbafpaaDoor.Ev
