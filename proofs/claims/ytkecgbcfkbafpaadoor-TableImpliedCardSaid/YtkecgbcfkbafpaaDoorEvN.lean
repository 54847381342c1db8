/-
  One operation of our machine (but for calls of functions), and that it stands for the model's.
-/
import Derived.Test.YtkecgbcfkbafpaaDoorEvM
namespace Go.Proofs.YtkecgbcfkbafpaaDoor.Ev
set_option linter.unusedSectionVars false
variable [Sig]
open Go.RowKit
set_option linter.unusedSimpArgs false

variable {P : Program} {w0 w : World} {E : Env} {m : Mem}

def same (m : Mem) : Option Value → Option (Value × Mem)
  | some v => some (v, m)
  | none => none
/-- A builtin that is called. -/
def exBuiltin (P : Program) (m : Mem) (b : Builtin) (ts : List TypeId) (ty : TypeId) (args : List Value) : Option (Value × Mem) :=
  match b, ts, args with
  | .append, [t, tx], [s, x] => match exAppend P m t tx s x with
    | some r => some r
    | none => exAppendZ P m t tx s x
  | .copy, [t, _], [d, x] => exCopy P m t d x
  | .len, [t], [x] => match exLen P t x with
    | some v => some (v, m)
    | none => same m (exLenM P m t x)
  | .unsafeSliceData, _, [x] => same m (exSData x)
  | .unsafeString, [pt, _], l => exUString P m pt l
  | .cap, [t], [x] => same m (exCap P m.H t x)
  | .max, ts, args => if cleanL args then same m (cleanQ P (Builtin.max_ ts.toArray ty args.toArray)) else none
  | .min, ts, args => if cleanL args then same m (cleanQ P (Builtin.min_ ts.toArray ty args.toArray)) else none
  | _, _, _ => none
def exNil (v : Value) : Option Value :=
  match v with
  | .pointer none | .nilIface | .nilFunc => none
  | .func (.func _) _ _ => some v
  | .func _ _ _ => none
  | .chan _ => none
  | v => some v
/-- One operation; calls of functions apart. -/
def exOp (P : Program) (m : Mem) (tm : T Value) (o : Oper) : Option (Value × Mem) :=
  match o.op with
  | .move x | .assign x => same m (ev tm x)
  | .pick c a b => match ev tm c with
    | some (.bool true) => same m (ev tm a)
    | some (.bool false) => same m (ev tm b)
    | _ => none
  | .alloc elem => exAlloc P m elem
  | .box elem x => match ev tm x with
    | some v => exBox m elem v
    | none => none
  | .build t parts => match evps tm parts.toList, P.info? t with
    | some ps, some info => match info.zero, P.built t ps with
      | some z, some out => if cleanL z.cells.toList then some (.agg out.toList.toArray, m) else none
      | _, _ => none
    | _, _ => none
  | .buildSlice t len parts => match evps tm parts.toList with
    | some ps => exBuildSlice P m t len ps
    | none => none
  | .load t a => match ev tm a with
    | some v => same m (exLoad P m.H t v)
    | none => none
  | .store t a x => match ev tm a, ev tm x with
    | some v, some u => match exStore P m.H m.lo t u v with
      | some H' => some (Go.undef, { m with H := H' })
      | none => none
    | _, _ => none
  | .nilCheck x => match ev tm x with
    | some v => same m (exNil v)
    | none => none
  | .binOp op t x y _ => match ev tm x, ev tm y with
    | some u, some v => same m (exBin P op t x y u v)
    | _, _ => none
  | .unOp op _ x => match ev tm x with
    | some v => if clean v then same m (cleanQ P (Op.unary op v)) else none
    | none => none
  | .convert src dst x => match ev tm x with
    | some v => match exBytes P m src dst v with
      | some r => some r
      | none => if clean v then same m (cleanQ P (convert src dst v)) else
        match P.underlying src, P.underlying dst with
        | some (.slice e), some .string => match P.underlying e with
          | some (.int .u8) => same m (exToString m v)
          | _ => none
        | _, _ => same m (exUPtr P m src dst v)
    | none => none
  | .makeInterface t x => match ev tm x with
    | some v => same m (exIface P t v)
    | none => none
  | .makeFunc (.func f) first captured => match evs tm first.toList, evs tm captured.toList with
    | some g, some l => some (.func (.func f) g.toArray l.toArray, m)
    | _, _ => none
  | .makeMap t r => match evO tm r with
    | some h => exMakeMap P m t h
    | none => none
  | .makeSlice t l c => match evO tm (some l), evO tm (some c) with
    | some (some l), some (some c) => exMakeSlice P m t l c
    | _, _ => none
  | .slice t x lo hi none => match ev tm x, evO tm lo, evO tm hi with
    | some v, some l, some h => if clean v then same m (cleanQ P (Instr.sliceAt t v l h none)) else same m (exSlice P m.H t v l h)
    | _, _, _ => none
  | .fieldAddr s x f => match ev tm x with
    | some v => same m (exFieldAddr P s v f)
    | none => none
  | .field t x f => match ev tm x with
    | some v => same m (exField P t v f)
    | none => none
  | .indexAddr t x i => match ev tm x, ev tm i with
    | some v, some u => same m (exIndexAddr P t v u)
    | _, _ => none
  | .index t x i => match ev tm x, ev tm i with
    | some v, some u => same m (exIndex P t v u)
    | _, _ => none
  | .lookup t x k ok => match ev tm x, evO tm (some k) with
    | some v, some (some u) => same m (exLookup P m.H t v u ok)
    | _, _ => none
  | .mapUpdate t x k v | .insert t x k v => match ev tm x, evO tm (some k), ev tm v with
    | some x, some (some k), some v => match exUpdate P m t x k v with
      | some m' => some (Go.undef, m')
      | none => none
    | _, _, _ => none
  | .range t x => match ev tm x with
    | some v => exRange P m t v
    | none => none
  | .next it str => match ev tm it with
    | some v => exNext m v str
    | none => none
  | .entry it => match ev tm it with
    | some v => same m (exEntry m.H v)
    | none => none
  | .typeAssert x _ t ok => match ev tm x with
    | some v => same m (exAssert P v t ok)
    | none => none
  | .extract t i => match ev tm t with
    | some v => same m (exExtract v i)
    | none => none
  | .call { callee := .builtin b, args, argTypes } => match evs tm args.toList with
    | some l => exBuiltin P m b argTypes.toList o.type l
    | none => none
  | _ => none

/-- An operation of the model's comes to what ours comes to. -/
def OpGood (P : Program) (w0 : World) (E : Env) (m : Mem) (w : World) (s : Sem Next) (v : Value) (m' : Mem) : Prop :=
  ∃ E' v' w', (s.run P w = .ok (.value v') w' ∨ (s.run P w = .ok .skip w' ∧ v' = Go.undef)) ∧ E.le E' ∧ HR P w0 E' m'.H m'.next w' ∧ VR E' v v' ∧ (∀ i, i < m.lo → m'.H.get i = m.H.get i) ∧ m'.lo = m.lo ∧ m.next ≤ m'.next
theorem OpGood.of {s : Sem Value} {v : Value} {m' : Mem} (h : Good P w0 E m w s v m') : OpGood P w0 E m w (do pure (.value (← s))) v m' := by
  obtain ⟨E', v', w', h1, h2⟩ := h
  exact ⟨E', v', w', .inl (by rw [Sem.run_bind, h1]; rfl), h2⟩
theorem OpGood.same (h : HR P w0 E m.H m.next w) {s : Sem Value} {v : Value} {r : Option Value} {m' : Mem} (he : Ev.same m r = some (v, m')) (hr : r = some v → ∃ v', s.run P w = .ok v' w ∧ VR E v v') : OpGood P w0 E m w (do pure (.value (← s))) v m' := by
  cases r with
  | none => cases he
  | some u =>
    simp only [Ev.same, Option.some.injEq, Prod.mk.injEq] at he
    obtain ⟨rfl, rfl⟩ := he
    obtain ⟨v', h1, h2⟩ := hr rfl
    exact .of (.same h h1 h2)

theorem opt2 {α β : Type} {x : Option α} {y : Option β} : (∃ a b, x = some a ∧ y = some b) ∨ x = none ∨ y = none := by cases x <;> cases y <;> simp
theorem exNil_run {v v' u : Value} (hv : VR E v v') (he : exNil v = some u) : (∃ x, (match v' with
    | .pointer none | .nilIface | .nilFunc => runtimePanic .nilDeref
    | .func (.method name) first captured =>
      match (first[0]? : Option Value) with
      | some .nilIface => runtimePanic .nilDeref
      | some (.iface t w) => do
        if (← nilAhead ((← program).types.size + Made.depth) t w name) != some false then
          unsupported (.noEntry "op/nilCheck.the method's receiver behind this interface value is a nil pointer, or cannot be seen to be none, and the arguments act or may panic (ledger 612)")
        pure (.value (.func (.method name) first captured))
      | _ => pure (.value (.func (.method name) first captured))
    | x => pure (.value x) : Sem Next) = pure (.value x) ∧ VR E u x) := by
  cases hv <;> first | (simp [exNil] at he; done) | (simp only [exNil, Option.some.injEq] at he; subst he; refine ⟨_, rfl, ?_⟩; constructor <;> assumption)
theorem exBuiltin_run (h : HR P w0 E m.H m.next w) (hlo : m.lo ≤ m.next) {b : Builtin} {ts : List TypeId} {ty : TypeId} {cs : Array Bool} {l l' : List Value} (hl : VRL E l l') {v : Value} {m' : Mem} (he : exBuiltin P m b ts ty l = some (v, m')) :
    OpGood P w0 E m w (builtin b ts.toArray ty cs l'.toArray) v m' := by
  unfold exBuiltin at he
  split at he
  · rcases hl with _ | ⟨hs, hl⟩
    rcases hl with _ | ⟨hx, hl⟩
    cases hl
    split at he
    · rename_i r hr
      injection he with he
      subst he
      exact .of (exAppend_run h hlo hs hx hr)
    · exact .of (exAppendZ_run h hlo hs hx he)
  · rcases hl with _ | ⟨hs, hl⟩
    rcases hl with _ | ⟨hx, hl⟩
    cases hl
    exact .of (exCopy_run h hs hx he)
  · rcases hl with _ | ⟨hs, hl⟩
    cases hl
    split at he
    · rename_i u hu
      simp only [Option.some.injEq, Prod.mk.injEq] at he
      obtain ⟨rfl, rfl⟩ := he
      exact .of (.same h (exLen_run hs hu).1 (exLen_run (w := w) (ty := 0) hs hu).2)
    · exact .same h he fun e => exLenM_run h hs e
  · rcases hl with _ | ⟨hs, hl⟩
    cases hl
    exact .same h he fun e => exSData_run hs e
  · exact .of (exUString_run h hl he)
  · rcases hl with _ | ⟨hs, hl⟩
    cases hl
    exact .same h he fun e => exCap_run h hs e
  · split at he
    · rename_i hc
      obtain rfl := hl.eq_of_clean hc
      exact .same h he fun e => ⟨v, cleanQ_run e⟩
    · cases he
  · split at he
    · rename_i hc
      obtain rfl := hl.eq_of_clean hc
      exact .same h he fun e => ⟨v, cleanQ_run e⟩
    · cases he
  · cases he
end Go.Proofs.YtkecgbcfkbafpaaDoor.Ev
