/-
  One operation of our machine (but for calls of functions), and that it stands for the model's.
-/
import Derived.Test.YtebkeoakdijiiaaGreatDoorEvLB
namespace Go.Proofs.YtebkeoakdijiiaaGreatDoor.Ev
open Go.RowKit
set_option linter.unusedSimpArgs false

variable {P : Program} {w0 w : World} {E : Env} {m : Mem}

/-! ### operands -/
def ev (tm : T Value) : Operand → Option Value
  | .tmp t => some ((tm.get t).getD Go.undef)
  | .const v => if clean v then some v else none
  | .global g => if g < 48 then some (.pointer (some ⟨g, 0, none⟩)) else none
  | .func f => some (.func (.func f) #[] #[])
theorem ev_VR {tm : T Value} {nt : Nat} {a : Act} (h : AR E tm nt a) {x : Operand} {v : Value} (he : ev tm x = some v) : VR E v (a.eval x) := by
  cases x with
  | tmp t => simp only [ev, Option.some.injEq] at he; subst he; exact h.get t
  | const u =>
    simp only [ev] at he
    split at he
    · injection he with he; subst he; exact VR.of_clean E _ (by assumption)
    · cases he
  | global g =>
    simp only [ev] at he
    split at he
    · rename_i hg
      injection he with he; subst he
      exact .ptr 0 (h.glob g hg)
    · cases he
  | func f => simp only [ev, Option.some.injEq] at he; subst he; exact .func f (y := []) (y' := []) (x := []) (x' := []) .nil .nil
def evs (tm : T Value) : List Operand → Option (List Value)
  | [] => some []
  | x :: r => match ev tm x, evs tm r with
    | some v, some l => some (v :: l)
    | _, _ => none
theorem evs_VR {tm : T Value} {nt : Nat} {a : Act} (h : AR E tm nt a) : ∀ (xs : List Operand) (l : List Value), evs tm xs = some l → VRL E l (xs.map a.eval) := by
  intro xs
  induction xs with
  | nil => intro l e; simp only [evs, Option.some.injEq] at e; subst e; exact .nil
  | cons x r ih =>
    intro l e
    simp only [evs] at e
    split at e
    · rename_i v l' h1 h2
      injection e with e; subst e
      exact .cons (ev_VR h h1) (ih _ h2)
    · cases e
def evps (tm : T Value) : List (Nat × Operand) → Option (List (Nat × Value))
  | [] => some []
  | (i, x) :: r => match ev tm x, evps tm r with
    | some v, some l => some ((i, v) :: l)
    | _, _ => none
theorem evps_PR {tm : T Value} {nt : Nat} {a : Act} (h : AR E tm nt a) : ∀ (xs : List (Nat × Operand)) (l : List (Nat × Value)), evps tm xs = some l → PR E l (xs.map fun p => (p.1, a.eval p.2)) := by
  intro xs
  induction xs with
  | nil => intro l e; simp only [evps, Option.some.injEq] at e; subst e; exact .nil
  | cons p r ih =>
    intro l e
    obtain ⟨i, x⟩ := p
    simp only [evps] at e
    split at e
    · rename_i v l' h1 h2
      injection e with e; subst e
      exact .cons i (ev_VR h h1) (ih _ h2)
    · cases e
/-- An operand that may lack, its value without any address. -/
def evO (tm : T Value) : Option Operand → Option (Option Value)
  | none => some none
  | some x => match ev tm x with
    | some v => if clean v then some (some v) else none
    | none => none
theorem evO_eq {tm : T Value} {nt : Nat} {a : Act} (h : AR E tm nt a) {x : Option Operand} {v : Option Value} (he : evO tm x = some v) : x.map a.eval = v := by
  cases x with
  | none => simp only [evO, Option.some.injEq] at he; subst he; rfl
  | some x =>
    simp only [evO] at he
    cases hx : ev tm x with
    | none => rw [hx] at he; cases he
    | some u =>
      rw [hx] at he
      simp only at he
      split at he
      · rename_i hc
        injection he with he
        subst he
        simp [(ev_VR h hx).eq_of_clean hc]
      · cases he
/-- A value that a computation without memory hands back, itself without any address. -/
def cleanQ (P : Program) (s : Sem Value) : Option Value :=
  match valQ P s with
  | some v => if clean v then some v else none
  | none => none
theorem cleanQ_run {s : Sem Value} {v : Value} (he : cleanQ P s = some v) : s.run P w = .ok v w ∧ VR E v v := by
  unfold cleanQ at he
  cases hq : valQ P s with
  | none => rw [hq] at he; cases he
  | some u =>
    rw [hq] at he
    simp only at he
    split at he
    · injection he with he; subst he; exact ⟨valQ_run w _ _ hq, VR.of_clean E _ (by assumption)⟩
    · cases he

/-! ### operators -/
/-- A number beside one of which is known that it is not less than another. -/
def lowBin (op : BinOp) (x y : Value) : Option Bool :=
  match op, x, y with
  | .gtr, .int .i64 a, .float .f64 c => if a ≤ (c : Int) then some false else none
  | _, _, _ => none
theorem lowBin_run {op : BinOp} {t : TypeId} {xo yo : Operand} {x x' y y' : Value} {b : Bool} (hx : VR E x x') (hy : VR E y y') (he : lowBin op x y = some b) :
    ((do eqGuard op t xo yo x' y'; binOp op t x' y') : Sem Value).run P w = .ok (.bool b) w := by
  unfold lowBin at he
  split at he
  · rename_i a c
    split at he
    · rename_i hc
      injection he with he
      subst he
      cases hx with
      | int _ _ =>
        cases hy with
        | low _ h =>
          rename_i n
          have : ¬ (a > (n : Int)) := by omega
          simp [eqGuard, binOp, Op.intCmp, Sem.run_pure]
          omega
    · cases he
  · cases he
def exBin (P : Program) (op : BinOp) (t : TypeId) (xo yo : Operand) (x y : Value) : Option Value :=
  match lowBin op x y with
  | some b => some (.bool b)
  | none =>
  if clean x && clean y then cleanQ P (do eqGuard op t xo yo x y; binOp op t x y)
  else match exEq P t x y with
    | some b => match op with
      | .eql => some (.bool b)
      | .neq => some (.bool (!b))
      | _ => none
    | none => match op, exPtrNe P t x y with
      | .neq, some b => some (.bool b)
      | _, _ => none
theorem eqGuard_nil {t : TypeId} {xo yo : Operand} {x x' y y' : Value} {b : Bool} (hx : VR E x x') (hy : VR E y y') (he : exEq P t x y = some b) (op : BinOp) : (eqGuard op t xo yo x' y').run P w = .ok () w := by
  unfold exEq at he
  cases hu : P.underlying t with
  | none => rw [hu] at he; simp at he
  | some d =>
    rw [hu] at he
    cases d <;> try (simp at he; done)
    all_goals (cases hx <;> try (simp at he; done))
    all_goals (cases hy <;> try (simp at he; done))
    all_goals (cases op <;> simp [eqGuard, Sem.run_pure])
theorem binOp_nil {t : TypeId} {x x' y y' : Value} {b : Bool} (hx : VR E x x') (hy : VR E y y') (he : exEq P t x y = some b) :
    binOp .eql t x' y' = (do pure (.bool (← Op.equal t x' y'))) ∧ binOp .neq t x' y' = (do pure (.bool (!(← Op.equal t x' y')))) := by
  unfold exEq at he
  cases hu : P.underlying t with
  | none => rw [hu] at he; simp at he
  | some d =>
    rw [hu] at he
    cases d <;> try (simp at he; done)
    all_goals (cases hx <;> try (simp at he; done))
    all_goals (cases hy <;> try (simp at he; done))
    all_goals exact ⟨rfl, rfl⟩
theorem exBin_run {op : BinOp} {t : TypeId} {xo yo : Operand} {x x' y y' v : Value} (hx : VR E x x') (hy : VR E y y') (he : exBin P op t xo yo x y = some v) :
    ((do eqGuard op t xo yo x' y'; binOp op t x' y') : Sem Value).run P w = .ok v w ∧ VR E v v := by
  unfold exBin at he
  cases hlb : lowBin op x y with
  | some b =>
    rw [hlb] at he
    simp only [Option.some.injEq] at he
    subst he
    exact ⟨lowBin_run hx hy hlb, .bool b⟩
  | none =>
  rw [hlb] at he
  simp only at he
  split at he
  · rename_i hc
    simp only [Bool.and_eq_true] at hc
    rw [hx.eq_of_clean hc.1, hy.eq_of_clean hc.2]
    exact cleanQ_run he
  · cases hq : exEq P t x y with
    | none =>
      rw [hq] at he
      cases op <;> try (simp at he; done)
      cases hq2 : exPtrNe P t x y with
      | none => rw [hq2] at he; simp at he
      | some b =>
        rw [hq2] at he
        simp only [Option.some.injEq] at he
        subst he
        obtain ⟨r1, r2⟩ := exPtrNe_run (w := w) hx hy hq2
        rw [Sem.run_bind, r2]
        exact ⟨r1, .bool b⟩
    | some b =>
      rw [hq] at he
      have h1 := exEq_run (w := w) hx hy hq
      have h2 := binOp_nil hx hy hq
      have h3 := eqGuard_nil (w := w) (xo := xo) (yo := yo) hx hy hq op
      cases op <;> try (simp at he; done)
      all_goals
        simp only [Option.some.injEq] at he
        subst he
        refine ⟨?_, .bool _⟩
        rw [Sem.run_bind, h3]
        simp [Result.andThen, h2, h1, Sem.run_pure]
end Go.Proofs.YtebkeoakdijiiaaGreatDoor.Ev
