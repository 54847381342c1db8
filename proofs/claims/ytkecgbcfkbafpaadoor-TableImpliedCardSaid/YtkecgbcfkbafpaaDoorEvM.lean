/-
  One operation of our machine (but for calls of functions), and that it stands for the model's.
-/
import Derived.Test.YtkecgbcfkbafpaaDoorEvLB
namespace Go.Proofs.YtkecgbcfkbafpaaDoor.Ev
set_option linter.unusedSectionVars false
variable [Sig]
open Go.RowKit
set_option linter.unusedSimpArgs false

variable {P : Program} {w0 w : World} {E : Env} {m : Mem}

/-! ### operands -/
def ev (tm : T Value) : Operand → Option Value
  | .tmp t => some ((tm.get t).getD Go.undef)
  | .const v => if clean v then some v else none
  | .global g => if g < 48 then some (.pointer (some ⟨g, 0, none⟩)) else none
  | .func f => some (.func (.func f) #[] #[])
theorem ev_VR {tm : T Value} {nt : Nat} {a : Act} (h : AR E tm nt a) {x : Operand} {v : Value} (he : ev tm x = some v) : VR E v (a.eval x) := by
  cases x with
  | tmp t => simp only [ev, Option.some.injEq] at he; subst he; exact h.get t
  | const u =>
    simp only [ev] at he
    split at he
    · injection he with he; subst he; exact VR.of_clean E _ (by assumption)
    · cases he
  | global g =>
    simp only [ev] at he
    split at he
    · rename_i hg
      injection he with he; subst he
      exact .ptr 0 (h.glob g hg)
    · cases he
  | func f => simp only [ev, Option.some.injEq] at he; subst he; exact .func f (y := []) (y' := []) (x := []) (x' := []) .nil .nil
def evs (tm : T Value) : List Operand → Option (List Value)
  | [] => some []
  | x :: r => match ev tm x, evs tm r with
    | some v, some l => some (v :: l)
    | _, _ => none
theorem evs_VR {tm : T Value} {nt : Nat} {a : Act} (h : AR E tm nt a) : ∀ (xs : List Operand) (l : List Value), evs tm xs = some l → VRL E l (xs.map a.eval) := by
  intro xs
  induction xs with
  | nil => intro l e; simp only [evs, Option.some.injEq] at e; subst e; exact .nil
  | cons x r ih =>
    intro l e
    simp only [evs] at e
    split at e
    · rename_i v l' h1 h2
      injection e with e; subst e
      exact .cons (ev_VR h h1) (ih _ h2)
    · cases e
def evps (tm : T Value) : List (Nat × Operand) → Option (List (Nat × Value))
  | [] => some []
  | (i, x) :: r => match ev tm x, evps tm r with
    | some v, some l => some ((i, v) :: l)
    | _, _ => none
theorem evps_PR {tm : T Value} {nt : Nat} {a : Act} (h : AR E tm nt a) : ∀ (xs : List (Nat × Operand)) (l : List (Nat × Value)), evps tm xs = some l → PR E l (xs.map fun p => (p.1, a.eval p.2)) := by
  intro xs
  induction xs with
  | nil => intro l e; simp only [evps, Option.some.injEq] at e; subst e; exact .nil
  | cons p r ih =>
    intro l e
    obtain ⟨i, x⟩ := p
    simp only [evps] at e
    split at e
    · rename_i v l' h1 h2
      injection e with e; subst e
      exact .cons i (ev_VR h h1) (ih _ h2)
    · cases e
/-- An operand that may lack, its value without any address. -/
def evO (tm : T Value) : Option Operand → Option (Option Value)
  | none => some none
  | some x => match ev tm x with
    | some v => if clean v then some (some v) else none
    | none => none
theorem evO_eq {tm : T Value} {nt : Nat} {a : Act} (h : AR E tm nt a) {x : Option Operand} {v : Option Value} (he : evO tm x = some v) : x.map a.eval = v := by
  cases x with
  | none => simp only [evO, Option.some.injEq] at he; subst he; rfl
  | some x =>
    simp only [evO] at he
    cases hx : ev tm x with
    | none => rw [hx] at he; cases he
    | some u =>
      rw [hx] at he
      simp only at he
      split at he
      · rename_i hc
        injection he with he
        subst he
        simp [(ev_VR h hx).eq_of_clean hc]
      · cases he
/-- A value that a computation without memory hands back, itself without any address. -/
def cleanQ (P : Program) (s : Sem Value) : Option Value :=
  match valQ P s with
  | some v => if clean v then some v else none
  | none => none
theorem cleanQ_run {s : Sem Value} {v : Value} (he : cleanQ P s = some v) : s.run P w = .ok v w ∧ VR E v v := by
  unfold cleanQ at he
  cases hq : valQ P s with
  | none => rw [hq] at he; cases he
  | some u =>
    rw [hq] at he
    simp only at he
    split at he
    · injection he with he; subst he; exact ⟨valQ_run w _ _ hq, VR.of_clean E _ (by assumption)⟩
    · cases he

/-! ### operators -/
/-- A number beside one of which is known that it is not less than another. -/
def lowBin (op : BinOp) (x y : Value) : Option Bool :=
  match op, x, y with
  | .gtr, .int .i64 a, .float .f64 c => if a ≤ (c : Int) then some false else none
  | _, _, _ => none
theorem lowBin_run {op : BinOp} {t : TypeId} {xo yo : Operand} {x x' y y' : Value} {b : Bool} (hx : VR E x x') (hy : VR E y y') (he : lowBin op x y = some b) :
    ((do eqGuard op t xo yo x' y'; binOp op t x' y') : Sem Value).run P w = .ok (.bool b) w := by
  unfold lowBin at he
  split at he
  · rename_i a c
    split at he
    · rename_i hc
      injection he with he
      subst he
      cases hx with
      | int _ _ =>
        cases hy with
        | low _ h =>
          rename_i n
          have : ¬ (a > (n : Int)) := by omega
          simp [eqGuard, binOp, Op.intCmp, Sem.run_pure]
          omega
    · cases he
  · cases he
/-! ### symbols -/
def symIsh : Value → Bool
  | .bool _ | .int _ _ | .float .f32 _ => true
  | _ => false
theorem sv_of {x x' : Value} (h : VR E x x') (c : symIsh x = true) : SV Sig.val x x' := by
  cases h <;> first | (simp [symIsh] at c; done) | exact .bool _ | exact .int _ _ | exact .sym _
theorem vr_of {x x' : Value} (h : SV Sig.val x x') : VR E x x' := by
  cases h with
  | bool b => exact .bool b
  | int k n => exact .int k n
  | sym j => exact .sym j
def symBin (op : BinOp) (x y : Value) : Option Value := if symIsh x && symIsh y then Sig.tab op x y else none
theorem symBin_run {op : BinOp} {t : TypeId} {xo yo : Operand} {x x' y y' v : Value} (hx : VR E x x') (hy : VR E y y') (he : symBin op x y = some v) :
    ∃ v', ((do eqGuard op t xo yo x' y'; binOp op t x' y') : Sem Value).run P w = .ok v' w ∧ VR E v v' := by
  unfold symBin at he
  split at he
  · rename_i hc
    simp only [Bool.and_eq_true] at hc
    have h1 := sv_of hx hc.1
    have h2 := sv_of hy hc.2
    obtain ⟨r, hr, hrun⟩ := Sig.ok he h1 h2
    refine ⟨r, ?_, vr_of hr⟩
    have hg : (eqGuard op t xo yo x' y').run P w = .ok () w := by
      cases h1 <;> cases h2 <;> cases op <;> simp [eqGuard, Sem.run_pure]
    rw [Sem.run_bind, hg]
    exact hrun P t w
  · cases he
/-- Are two of one cell the same? -/
def isNum : Value → Bool
  | .int _ _ | .float .f32 _ => true
  | _ => false
def sEqAtom (P : Program) (t : TypeId) (a b : Value) : Option Bool :=
  match P.underlying t with
  | some .bool => match a, b with
    | .bool x, .bool y => some (x == y)
    | _, _ => none
  | some (.int _) => match clean a && clean b with
    | true => match a, b with
      | .int k x, .int k' y => if k = k' then some (x == y) else none
      | _, _ => none
    | false => if isNum a && isNum b then match symBin .eql a b with
      | some (.bool r) => some r
      | _ => none
      else none
  | _ => none
theorem int_eql {a b x y : Value} {r : Bool} {t : TypeId} {k0 : IntKind} (hu : P.underlying t = some (.int k0)) (d : Nat) (ha : isNum a = true) (hb : isNum b = true) (h1 : SV Sig.val a x) (h2 : SV Sig.val b y)
    (hr : ∃ r', SV Sig.val (.bool r) r' ∧ ∀ (P : Program) (t : TypeId) (w : World), (binOp .eql t x y).run P w = .ok r' w) : (Op.equalIn (d + 1) t x y).run P w = .ok r w := by
  obtain ⟨r', hr', hrun⟩ := hr
  cases hr'
  have := hrun P t w
  cases h1 with
  | bool c => simp [isNum] at ha
  | int k n =>
    cases h2 with
    | bool c => simp [isNum] at hb
    | int k' n' =>
      by_cases hk : k = k'
      · subst hk
        rw [run_equalIn_int w d t k k0 n n' hu]
        simpa [binOp, Op.intCmp, Sem.run_pure] using this
      · simp [binOp, hk] at this
    | sym j =>
      by_cases hk : k = .i64
      · subst hk
        rw [run_equalIn_int w d t .i64 k0 n _ hu]
        simpa [binOp, Op.intCmp, Sem.run_pure] using this
      · simp [binOp, hk] at this
  | sym j =>
    cases h2 with
    | bool c => simp [isNum] at hb
    | int k' n' =>
      by_cases hk : IntKind.i64 = k'
      · subst hk
        rw [run_equalIn_int w d t .i64 k0 _ n' hu]
        simpa [binOp, Op.intCmp, Sem.run_pure] using this
      · simp [binOp, hk] at this
    | sym j' =>
      rw [run_equalIn_int w d t .i64 k0 _ _ hu]
      simpa [binOp, Op.intCmp, Sem.run_pure] using this
theorem sEqAtom_run {t : TypeId} {a a' b b' : Value} {r : Bool} (ha : VR E a a') (hb : VR E b b') (he : sEqAtom P t a b = some r) (d : Nat) :
    (Op.equalIn (d + 1) t a' b').run P w = .ok r w := by
  unfold sEqAtom at he
  split at he
  · rename_i hu
    split at he
    · injection he with he
      subst he
      cases ha
      cases hb
      exact run_equalIn_bool w d t _ _ hu
    · cases he
  · rename_i k0 hu
    split at he
    · split at he
      · split at he
        · rename_i hk
          subst hk
          injection he with he
          subst he
          cases ha
          cases hb
          exact run_equalIn_int w d t _ _ _ _ hu
        · cases he
      · cases he
    · split at he
      · rename_i hnum
        simp only [Bool.and_eq_true] at hnum
        split at he
        · rename_i r0 hs
          injection he with he
          subst he
          unfold symBin at hs
          split at hs
          · rename_i hc
            simp only [Bool.and_eq_true] at hc
            exact int_eql hu d hnum.1 hnum.2 (sv_of ha hc.1) (sv_of hb hc.2) (Sig.ok hs (sv_of ha hc.1) (sv_of hb hc.2))
          · cases hs
        · cases he
      · cases he
  · cases he
def sEqFields (P : Program) (xs ys : List Value) : List Field → Option Bool
  | [] => some true
  | f :: fs => if f.name ≠ "_" then
      match exPart P f.type xs f.offset, exPart P f.type ys f.offset with
      | some a, some b => match sEqAtom P f.type a b with
        | some true => sEqFields P xs ys fs
        | some false => some false
        | none => none
      | _, _ => none
    else sEqFields P xs ys fs
theorem sEqFields_run {x x' y y' : List Value} (hx : VRL E x x') (hy : VRL E y y') (d : Nat) : ∀ {fs : List Field} {r : Bool}, sEqFields P x y fs = some r → (Op.eqFields (d + 1) x'.toArray y'.toArray fs).run P w = .ok r w
  | [], r, h => by
    simp only [sEqFields, Option.some.injEq] at h
    subst h
    simp [Op.eqFields, Sem.run_pure]
  | f :: fs, r, h => by
    simp only [sEqFields] at h
    by_cases hn : f.name ≠ "_"
    · rw [if_pos hn] at h
      cases ha : exPart P f.type x f.offset with
      | none => rw [ha] at h; simp at h
      | some a =>
        cases hb : exPart P f.type y f.offset with
        | none => rw [ha, hb] at h; simp at h
        | some b =>
          rw [ha, hb] at h
          simp only at h
          obtain ⟨a', ra, va⟩ := exPart_run (w := w) hx ha
          obtain ⟨b', rb, vb⟩ := exPart_run (w := w) hy hb
          rw [Op.eqFields, if_pos hn, Sem.run_bind, ra]
          simp only [Result.andThen_ok]
          rw [Sem.run_bind, rb]
          simp only [Result.andThen_ok]
          cases hs : sEqAtom P f.type a b with
          | none => rw [hs] at h; simp at h
          | some q =>
            rw [hs] at h
            rw [Sem.run_bind, sEqAtom_run va vb hs d]
            simp only [Result.andThen_ok]
            cases q with
            | true => simpa using sEqFields_run hx hy d h
            | false =>
              simp only [Option.some.injEq] at h
              subst h
              simp [Sem.run_pure]
    · rw [if_neg hn] at h
      rw [Op.eqFields, if_neg hn]
      exact sEqFields_run hx hy d h
/-- Are two structs the same? -/
def sEq (P : Program) (t : TypeId) (x y : Value) : Option Bool :=
  match P.underlying t, x, y with
  | some (.struct fs), .agg ⟨a⟩, .agg ⟨b⟩ => if P.stoodInHeld t || P.eqGuardType P.depth t then none else sEqFields P a b fs.toList
  | _, _, _ => none
theorem sEq_run {t : TypeId} {xo yo : Operand} {x x' y y' : Value} {b : Bool} (hx : VR E x x') (hy : VR E y y') (he : sEq P t x y = some b) :
    ((do eqGuard .eql t xo yo x' y'; binOp .eql t x' y') : Sem Value).run P w = .ok (.bool b) w ∧ ((do eqGuard .neq t xo yo x' y'; binOp .neq t x' y') : Sem Value).run P w = .ok (.bool (!b)) w := by
  unfold sEq at he
  split at he
  · rename_i fs a c hu
    split at he
    · cases he
    · rename_i hg
      simp only [Bool.or_eq_true, not_or, Bool.not_eq_true] at hg
      cases hx with
      | agg hx =>
        cases hy with
        | agg hy =>
          have hf : P.fieldsOf t = fs := by simp [Program.fieldsOf, hu]
          subst hf
          have h1 := (run_equalIn_struct (P := P) w 9999 t (List.toArray _) (List.toArray _) hu hg.1).trans (sEqFields_run (w := w) hx hy 9998 he)
          constructor
          · rw [Sem.run_bind, run_eqGuard_agg w _ t _ _ _ _ hg.2]
            simp only [Result.andThen_ok]
            rw [run_eql_struct, h1]
            rfl
          · rw [Sem.run_bind, run_eqGuard_agg w _ t _ _ _ _ hg.2]
            simp only [Result.andThen_ok]
            rw [run_neq_struct, h1]
            rfl
  · cases he
def sEqBin (P : Program) (op : BinOp) (t : TypeId) (x y : Value) : Option Value :=
  match op with
  | .eql => (sEq P t x y).map .bool
  | .neq => (sEq P t x y).map fun b => .bool (!b)
  | _ => none
theorem sEqBin_run {op : BinOp} {t : TypeId} {xo yo : Operand} {x x' y y' v : Value} (hx : VR E x x') (hy : VR E y y') (he : sEqBin P op t x y = some v) :
    ∃ v', ((do eqGuard op t xo yo x' y'; binOp op t x' y') : Sem Value).run P w = .ok v' w ∧ VR E v v' := by
  unfold sEqBin at he
  split at he
  · cases hs : sEq P t x y with
    | none => rw [hs] at he; cases he
    | some b =>
      rw [hs] at he
      injection he with he
      subst he
      exact ⟨_, (sEq_run hx hy hs).1, .bool _⟩
  · cases hs : sEq P t x y with
    | none => rw [hs] at he; cases he
    | some b =>
      rw [hs] at he
      injection he with he
      subst he
      exact ⟨_, (sEq_run hx hy hs).2, .bool _⟩
  · cases he
def exBin (P : Program) (op : BinOp) (t : TypeId) (xo yo : Operand) (x y : Value) : Option Value :=
  match lowBin op x y with
  | some b => some (.bool b)
  | none =>
  if clean x && clean y then cleanQ P (do eqGuard op t xo yo x y; binOp op t x y)
  else match symBin op x y with
  | some v => some v
  | none => match sEqBin P op t x y with
  | some v => some v
  | none => match exEq P t x y with
    | some b => match op with
      | .eql => some (.bool b)
      | .neq => some (.bool (!b))
      | _ => none
    | none => match op, exPtrNe P t x y with
      | .neq, some b => some (.bool b)
      | _, _ => none
theorem eqGuard_nil {t : TypeId} {xo yo : Operand} {x x' y y' : Value} {b : Bool} (hx : VR E x x') (hy : VR E y y') (he : exEq P t x y = some b) (op : BinOp) : (eqGuard op t xo yo x' y').run P w = .ok () w := by
  unfold exEq at he
  cases hu : P.underlying t with
  | none => rw [hu] at he; simp at he
  | some d =>
    rw [hu] at he
    cases d <;> try (simp at he; done)
    all_goals (cases hx <;> try (simp at he; done))
    all_goals (cases hy <;> try (simp at he; done))
    all_goals (cases op <;> simp [eqGuard, Sem.run_pure])
theorem binOp_nil {t : TypeId} {x x' y y' : Value} {b : Bool} (hx : VR E x x') (hy : VR E y y') (he : exEq P t x y = some b) :
    binOp .eql t x' y' = (do pure (.bool (← Op.equal t x' y'))) ∧ binOp .neq t x' y' = (do pure (.bool (!(← Op.equal t x' y')))) := by
  unfold exEq at he
  cases hu : P.underlying t with
  | none => rw [hu] at he; simp at he
  | some d =>
    rw [hu] at he
    cases d <;> try (simp at he; done)
    all_goals (cases hx <;> try (simp at he; done))
    all_goals (cases hy <;> try (simp at he; done))
    all_goals exact ⟨rfl, rfl⟩
theorem exBin_run {op : BinOp} {t : TypeId} {xo yo : Operand} {x x' y y' v : Value} (hx : VR E x x') (hy : VR E y y') (he : exBin P op t xo yo x y = some v) :
    ∃ v', ((do eqGuard op t xo yo x' y'; binOp op t x' y') : Sem Value).run P w = .ok v' w ∧ VR E v v' := by
  unfold exBin at he
  cases hlb : lowBin op x y with
  | some b =>
    rw [hlb] at he
    simp only [Option.some.injEq] at he
    subst he
    exact ⟨_, lowBin_run hx hy hlb, .bool b⟩
  | none =>
  rw [hlb] at he
  simp only at he
  split at he
  · rename_i hc
    simp only [Bool.and_eq_true] at hc
    rw [hx.eq_of_clean hc.1, hy.eq_of_clean hc.2]
    exact ⟨_, cleanQ_run he⟩
  · cases hsb : symBin op x y with
    | some u =>
      rw [hsb] at he
      simp only [Option.some.injEq] at he
      subst he
      exact symBin_run hx hy hsb
    | none =>
    rw [hsb] at he
    simp only at he
    cases hse : sEqBin P op t x y with
    | some u =>
      rw [hse] at he
      simp only [Option.some.injEq] at he
      subst he
      exact sEqBin_run hx hy hse
    | none =>
    rw [hse] at he
    simp only at he
    cases hq : exEq P t x y with
    | none =>
      rw [hq] at he
      cases op <;> try (simp at he; done)
      cases hq2 : exPtrNe P t x y with
      | none => rw [hq2] at he; simp at he
      | some b =>
        rw [hq2] at he
        simp only [Option.some.injEq] at he
        subst he
        obtain ⟨r1, r2⟩ := exPtrNe_run (w := w) hx hy hq2
        refine ⟨_, ?_, .bool b⟩
        rw [Sem.run_bind, r2]
        exact r1
    | some b =>
      rw [hq] at he
      have h1 := exEq_run (w := w) hx hy hq
      have h2 := binOp_nil hx hy hq
      have h3 := eqGuard_nil (w := w) (xo := xo) (yo := yo) hx hy hq op
      cases op <;> try (simp at he; done)
      all_goals
        simp only [Option.some.injEq] at he
        subst he
        refine ⟨_, ?_, .bool _⟩
        rw [Sem.run_bind, h3]
        simp [Result.andThen, h2, h1, Sem.run_pure]
end Go.Proofs.YtkecgbcfkbafpaaDoor.Ev
