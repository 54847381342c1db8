/-
  What an operation of our machine does hangs on what it looks at; equal values.
-/
import Derived.Test.YtkecgbcfkbafpaaDoorEvV
namespace Go.Proofs.YtkecgbcfkbafpaaDoor.Ev
set_option linter.unusedSectionVars false
variable [Sig]
open Go.RowKit
set_option linter.unusedSimpArgs false

variable {P : Program} {w0 w : World} {E : Env} {m : Mem}

theorem evs_congr {tm tm' : T Value} : ∀ (xs : List Operand), (∀ x ∈ xs, ev tm x = ev tm' x) → evs tm xs = evs tm' xs := by
  intro xs
  induction xs with
  | nil => intro _; rfl
  | cons x r ih =>
    intro h
    simp only [evs]
    rw [h x (List.mem_cons_self ..), ih fun y hy => h y (List.mem_cons_of_mem _ hy)]
theorem evps_congr {tm tm' : T Value} : ∀ (xs : List (Nat × Operand)), (∀ x ∈ xs, ev tm x.2 = ev tm' x.2) → evps tm xs = evps tm' xs := by
  intro xs
  induction xs with
  | nil => intro _; rfl
  | cons x r ih =>
    intro h
    obtain ⟨i, x⟩ := x
    simp only [evps]
    rw [h (i, x) (List.mem_cons_self ..), ih fun y hy => h y (List.mem_cons_of_mem _ hy)]
theorem evO_congr {tm tm' : T Value} {x : Option Operand} (h : ∀ y, x = some y → ev tm y = ev tm' y) : evO tm x = evO tm' x := by
  cases x with
  | none => rfl
  | some x => simp only [evO]; rw [h x rfl]
theorem exCallee_congr {tm tm' : T Value} {c : Call} (h : ∀ x ∈ c.operands.toList, ev tm x = ev tm' x) : exCallee P m tm c = exCallee P m tm' c := by
  have hargs : evs tm c.args.toList = evs tm' c.args.toList := evs_congr _ fun x hx => h x (by simp only [Call.operands]; split <;> simp_all)
  unfold exCallee
  cases hc : c.callee with
  | value f => have hf : ev tm f = ev tm' f := h f (by simp [Call.operands, hc]); simp only [hf, hargs]
  | invoke r n => have hr : ev tm r = ev tm' r := h r (by simp [Call.operands, hc]); simp only [hr, hargs]
  | builtin b => rfl
theorem exOp_congr {tm tm' : T Value} (o : Oper) (h : ∀ x ∈ o.op.operands.toList, ev tm x = ev tm' x) : exOp P m tm o = exOp P m tm' o := by
  obtain ⟨dst, op, type, pos, after, guard⟩ := o
  cases op <;> simp only [Op.operands] at h <;> simp only [exOp]
  case build t ps => rw [evps_congr ps.toList fun x hx => h x.2 (by simp only [Array.toList_map, List.mem_map]; exact ⟨x, hx, rfl⟩)]
  case buildSlice t n ps => rw [evps_congr ps.toList fun x hx => h x.2 (by simp only [Array.toList_map, List.mem_map]; exact ⟨x, hx, rfl⟩)]
  case makeFunc fn first captured =>
    cases fn <;> try rfl
    dsimp only
    rw [evs_congr first.toList fun x hx => h x (by simp; exact .inl (by simpa using hx)), evs_congr captured.toList fun x hx => h x (by simp; exact .inr (by simpa using hx))]
  case call c =>
    obtain ⟨cal, args, ts⟩ := c
    cases cal <;> try rfl
    dsimp only
    rw [evs_congr args.toList fun x hx => h x (by simp [Call.operands]; simpa using hx)]
  case makeMap t r => rw [evO_congr fun y hy => h y (by subst hy; simp)]
  case makeSlice t l c => rw [evO_congr fun y hy => h y (by injection hy with hy; subst hy; simp), evO_congr (x := some c) fun y hy => h y (by injection hy with hy; subst hy; simp)]
  case slice t x lo hi mx =>
    cases mx <;> try rfl
    dsimp only
    rw [h x (by simp), evO_congr (x := lo) fun y hy => h y (by subst hy; simp), evO_congr (x := hi) fun y hy => h y (by subst hy; simp)]
  case lookup t x k ok => rw [h x (by simp), evO_congr (x := some k) fun y hy => h y (by injection hy with hy; subst hy; simp)]
  case mapUpdate t x k v => rw [h x (by simp), h v (by simp), evO_congr (x := some k) fun y hy => h y (by injection hy with hy; subst hy; simp)]
  case insert t x k v => rw [h x (by simp), h v (by simp), evO_congr (x := some k) fun y hy => h y (by injection hy with hy; subst hy; simp)]
  all_goals (first | rfl | (simp_all; done))
theorem exStep2_congr {call : Call2} {tm tm' : T Value} (o : Oper) (h : ∀ x ∈ o.op.operands.toList, ev tm x = ev tm' x) : exStep2 call P m tm o = exStep2 call P m tm' o := by
  have h0 := exOp_congr (P := P) (m := m) o h
  unfold exStep2
  rw [h0]
  split
  · rename_i c ho
    have : exCallee P m tm c = exCallee P m tm' c := exCallee_congr fun x hx => h x (by rw [ho]; exact hx)
    unfold exLater
    rw [this]
  · rename_i x ho
    rw [h x (by rw [ho]; simp [Op.operands])]
  · split
    · rename_i c hc
      rw [exCallee_congr (tm := tm) (tm' := tm') fun x hx => h x (by rw [isFuncCall_op hc]; exact hx)]
    · rfl

/-! ### equal values -/
mutual
theorem veq_eq : ∀ (v u : Value), veq v u = true → v = u
  | .bool a, u, h => by cases u <;> simp_all [veq]
  | .int k a, u, h => by cases u <;> simp_all [veq]
  | .string s, u, h => by cases u <;> simp_all [veq]
  | .pointer a, u, h => by cases u <;> simp_all [veq]
  | .slice a n c, u, h => by cases u <;> simp_all [veq]
  | .map a, u, h => by cases u <;> simp_all [veq]
  | .chan a, u, h => by cases u <;> simp_all [veq]
  | .nilFunc, u, h => by cases u <;> simp_all [veq]
  | .nilIface, u, h => by cases u <;> simp_all [veq]
  | .iface t v, u, h => by
    cases u <;> simp only [veq] at h <;> try cases h
    simp only [Bool.and_eq_true] at h
    rw [veq_eq v _ h.2, Nat.eq_of_beq_eq_true h.1]
  | .agg ⟨x⟩, u, h => by
    cases u <;> simp only [veq] at h <;> try cases h
    rename_i y
    obtain ⟨y⟩ := y
    simp only [veq] at h
    rw [veqL_eq x _ h]
  | .tuple ⟨x⟩, u, h => by
    cases u <;> simp only [veq] at h <;> try cases h
    rename_i y
    obtain ⟨y⟩ := y
    simp only [veq] at h
    rw [veqL_eq x _ h]
  | .func (.func f) ⟨x⟩ ⟨y⟩, u, h => by
    cases u <;> try (simp [veq] at h; done)
    rename_i fn a b
    obtain ⟨a⟩ := a
    obtain ⟨b⟩ := b
    cases fn <;> try (simp [veq] at h; done)
    simp only [veq, Bool.and_eq_true] at h
    rw [veqL_eq x _ h.1.2, veqL_eq y _ h.2, Nat.eq_of_beq_eq_true h.1.1]
  | .func (.method _) ⟨_⟩ ⟨_⟩, u, h => by cases u <;> simp [veq] at h
  | .func (.methodOf _ _) ⟨_⟩ ⟨_⟩, u, h => by cases u <;> simp [veq] at h
  | .func (.via _ _ _ _) ⟨_⟩ ⟨_⟩, u, h => by cases u <;> simp [veq] at h
  | .func (.yield _) ⟨_⟩ ⟨_⟩, u, h => by cases u <;> simp [veq] at h
  | .float .f32 a, u, h => by
    cases u <;> try (simp [veq] at h; done)
    rename_i k b
    cases k <;> try (simp [veq] at h; done)
    simp only [veq] at h
    rw [Nat.eq_of_beq_eq_true h]
  | .float .f64 _, u, h => by cases u <;> simp [veq] at h
  | .complex _ _ _, u, h => by cases u <;> simp [veq] at h
theorem veqL_eq : ∀ (x y : List Value), veqL x y = true → x = y
  | [], y, h => by cases y <;> simp_all [veqL]
  | v :: x, y, h => by
    cases y with
    | nil => simp [veqL] at h
    | cons u y =>
      simp only [veqL, Bool.and_eq_true] at h
      rw [veq_eq v u h.1, veqL_eq x y h.2]
end
/-- What leaves memory as it is leaves it as it is. -/
theorem same_mem {m m' : Mem} {r : Option Value} {v : Value} (h : Ev.same m r = some (v, m')) : m' = m := by
  cases r with
  | none => cases h
  | some u => simp only [Ev.same, Option.some.injEq, Prod.mk.injEq] at h; exact h.2.symm
theorem still_mem {tm : T Value} {o : Oper} (hs : still P o.op = true) {v : Value} {m' : Mem} (he : exOp P m tm o = some (v, m')) : m' = m := by
  obtain ⟨dst, op, type, pos, after, guard⟩ := o
  cases op <;> try (exact absurd hs Bool.false_ne_true)
  all_goals simp only [exOp] at he
  case call c =>
    obtain ⟨cal, args, ts⟩ := c
    cases cal <;> simp only [exOp] at he <;> try cases he
    rename_i b
    cases b <;> try (exact absurd hs Bool.false_ne_true)
    all_goals
      split at he
      · simp only [exBuiltin] at he
        (repeat' (split at he)) <;> first | exact same_mem he | (cases he; rfl) | (cases he; done) | (simp_all; done)
      · cases he
  case convert src dst x =>
    split at he
    · rename_i u hx
      split at he
      · rename_i r hb
        exfalso
        unfold exBytes at hb
        split at hb
        · split at hb
          · rename_i e h1 h2
            simp only [still, h2] at hs
            cases hs
          · cases hb
        · split at hb
          · rename_i e h1
            split at hb
            · split at hb
              · rename_i hc
                rw [← hc.1] at hs
                simp only [still, h1] at hs
                cases hs
              · cases hb
            · cases hb
          · cases hb
        · cases hb
      · (repeat' (split at he)) <;> first | exact same_mem he | (cases he; done)
    · cases he
  all_goals (repeat' (split at he)) <;> first | contradiction | exact same_mem he | (cases he; done) | (cases he; rfl) | skip
end Go.Proofs.YtkecgbcfkbafpaaDoor.Ev
