/-
  Our machine's code and calls.
-/
import Derived.Test.YtlkdjdcnbcegeaaGreatDoorKAI
import Derived.Test.YtlkdjdcnbcegeaaGreatDoorKAK
import Derived.Orders
import Derived.KernelRfl
import Derived.RangeFuncRecord
import GoSem.Extern.ReflectliteValue
import Derived.Defers
import Derived.Laws.Externs
import Derived.Lib.Overlaps
import Derived.OrdersIn
import Derived.RangeFuncLeaves
import Derived.TacticsIn
/-! Our machine's code and calls. -/
namespace Go.Proofs.YtlkdjdcnbcegeaaGreatDoor.Ev
open Go.RowKit
set_option linter.unusedSimpArgs false

inductive Ex where
  | normal
  | exit (id : Nat)
  | ret

/-- A call of ours. -/
abbrev CallFn := FuncId → List Value → Mem → Option (Value × Mem)

/-- Whom a call calls: a function, with these arguments. -/
def exCallee (P : Program) (m : Mem) (tm : T Value) (c : Call) : Option (FuncId × List Value) :=
  match c.callee with
  | .value f => match ev tm f, evs tm c.args.toList with
    | some (.func (.func g) ⟨fst⟩ ⟨cap⟩), some l => some (g, fst ++ l ++ cap)
    | _, _ => none
  | .invoke r name => match ev tm r, evs tm c.args.toList with
    | some (.iface t v), some l => match P.info? t with
      | some info => match info.methods.find? (·.name == name) with
        | some mt => match mt.path.isEmpty, mt.func, P.underlying t with
          | true, some (g, true), some (.pointer _) => some (g, v :: l)
          | true, some (g, false), some (.pointer e) => match exLoad P m.H e v with
            | some u => some (g, u :: l)
            | none => none
          | true, some (g, false), some _ => some (g, v :: l)
          | false, _, _ => if gclean v then
              match valQ P (Go.method (P.types.size + Made.depth) t v name) with
              | some (g, u) => if gclean u then some (g, u :: l) else none
              | none => none
            else none
          | _, _, _ => none
        | none => none
      | none => none
    | _, _ => none
  | .builtin _ => none
def isFuncCall : Op → Option Call
  | .call { callee := .builtin _, .. } => none
  | .call c => some c
  | _ => none
/-- One operation, calls of functions too. -/
def exStep (call : CallFn) (P : Program) (m : Mem) (tm : T Value) (o : Oper) : Option (Value × Mem) :=
  match isFuncCall o.op with
  | some c => match exCallee P m tm c with
    | some (g, l) => call g l m
    | none => none
  | none => exOp P m tm o
def yieldedE (ops : Array Oper) (tm : T Value) (j : Nat) : Option Bool :=
  match (ops[j]?).bind (·.dst) with
  | some t => match tm.get t with
    | some (.bool b) => some b
    | _ => none
  | none => none
def putE (tm : T Value) (dst : Option Tmp) (v : Value) : T Value :=
  match dst with
  | some d => tm.set d v
  | none => tm
/-- Operations one after another. -/
def evOps (call : CallFn) (P : Program) (ops : Array Oper) : List Oper → T Value → Mem → Option (T Value × Mem)
  | [], tm, m => some (tm, m)
  | o :: r, tm, m =>
    if Region.wanted o (yieldedE ops tm) then
      match exStep call P m tm o with
      | some (v, m') => evOps call P ops r (putE tm o.dst v) m'
      | none => none
    else evOps call P ops r (putE tm o.dst Go.undef) m
def evCode (call : CallFn) (P : Program) : Nat → Code → T Value → Mem → Option (Ex × T Value × Mem)
  | 0, _, _, _ => none
  | _ + 1, .skip, tm, m => some (.normal, tm, m)
  | _ + 1, .label _, tm, m => some (.normal, tm, m)
  | _ + 1, .exit id, tm, m => some (.exit id, tm, m)
  | _ + 1, .ret, tm, m => some (.ret, tm, m)
  | _ + 1, .region _ ops _, tm, m => match evOps call P ops ops.toList tm m with
    | some (tm', m') => some (.normal, tm', m')
    | none => none
  | n + 1, .seq a b, tm, m => match evCode call P n a tm m with
    | some (.normal, tm', m') => evCode call P n b tm' m'
    | r => r
  | n + 1, .cond c a b, tm, m => match ev tm c with
    | some (.bool true) => evCode call P n a tm m
    | some (.bool false) => evCode call P n b tm m
    | _ => none
  | n + 1, .block id b, tm, m => match evCode call P n b tm m with
    | some (.exit i, tm', m') => if i = id then some (.normal, tm', m') else some (.exit i, tm', m')
    | r => r
  | n + 1, .loop b, tm, m => match evCode call P n b tm m with
    | some (.normal, tm', m') => evCode call P n (.loop b) tm' m'
    | r => r
  | _ + 1, _, _, _ => none
def evResult (P : Program) (m : Mem) (tm : T Value) : List ResultVar → Option (List Value)
  | [] => some []
  | .tmp t :: r => match evResult P m tm r with
    | some l => some ((tm.get t).getD Go.undef :: l)
    | none => none
  | .cell a t :: r => match exLoad P m.H t ((tm.get a).getD Go.undef), evResult P m tm r with
    | some v, some l => some (v :: l)
    | _, _ => none
def evCall (P : Program) (steps : Nat) : Nat → CallFn
  | 0, _, _, _ => none
  | n + 1, f, l, m => match P.funcs[f]? with
    | some fn => match fn.body with
      | some c => match evCode (evCall P steps n) P steps c (T.leaf.fill 0 l) m with
        | some (.exit _, _, _) => none
        | some (_, tm, m') => match evResult P m' tm fn.results.toList with
          | some [v] => some (v, m')
          | some vs => some (.tuple vs.toArray, m')
          | none => none
        | none => none
      | none => none
    | none => none
end Go.Proofs.YtlkdjdcnbcegeaaGreatDoor.Ev

/-! Guards, results: ours stand for the model's. -/
namespace Go.Proofs.YtlkdjdcnbcegeaaGreatDoor.Ev
open Go.RowKit
set_option linter.unusedSimpArgs false

variable {P : Program} {w0 w : World} {E : Env} {m : Mem}

theorem yieldedE_eq {tm : T Value} {nt : Nat} {a : Act} (ha : AR E tm nt a) (ops : Array Oper) (j : Nat) : yielded ops a.tmps j = yieldedE ops tm j := by
  unfold yielded yieldedE
  cases hd : (ops[j]?).bind (·.dst) with
  | none => rfl
  | some t =>
    have hg := ha.get t
    simp only [Option.bind_some]
    rw [Array.getD_eq_getD_getElem?] at hg
    cases h1 : tm.get t with
    | none =>
      rw [h1] at hg
      simp only [Option.getD_none] at hg
      cases h2 : a.tmps[t]? with
      | none => rfl
      | some u => rw [h2] at hg; simp only [Option.getD_some] at hg; cases hg; rfl
    | some v =>
      rw [h1] at hg
      simp only [Option.getD_some] at hg
      cases h2 : a.tmps[t]? with
      | none =>
        rw [h2] at hg; simp only [Option.getD_none] at hg
        cases hg <;> first | rfl | (rename_i k h; exact absurd h Bool.false_ne_true)
      | some u =>
        rw [h2] at hg; simp only [Option.getD_some] at hg
        cases hg <;> first | rfl | (rename_i k h; cases u <;> first | rfl | exact absurd h Bool.false_ne_true)
theorem wantedE {tm : T Value} {nt : Nat} {a : Act} (ha : AR E tm nt a) (ops : Array Oper) (o : Oper) : Region.wanted o (yielded ops a.tmps) = Region.wanted o (yieldedE ops tm) := by
  rw [show yielded ops a.tmps = yieldedE ops tm from funext fun j => yieldedE_eq ha ops j]
end Go.Proofs.YtlkdjdcnbcegeaaGreatDoor.Ev

/-! Results: ours stand for the model's. -/
namespace Go.Proofs.YtlkdjdcnbcegeaaGreatDoor.Ev
open Go.RowKit
set_option linter.unusedSimpArgs false

variable {P : Program} {w0 w : World} {E : Env} {m : Mem}

theorem evResult_run (h : HR P w0 E m.H m.next w) {tm : T Value} {nt : Nat} {a : Act} (ha : AR E tm nt a) : ∀ (rs : List ResultVar) (l : List Value), evResult P m tm rs = some l →
    ∃ l', (rs.mapM (fun | ResultVar.tmp t => pure (a.tmps.getD t Go.undef) | .cell x t => do loadVar t (← asAddr (a.tmps.getD x Go.undef)) : ResultVar → Sem Value)).run P w = .ok l' w ∧ VRL E l l' := by
  intro rs
  induction rs with
  | nil => intro l e; simp only [evResult, Option.some.injEq] at e; subst e; exact ⟨[], rfl, .nil⟩
  | cons r rs ih =>
    intro l e
    cases r with
    | tmp t =>
      simp only [evResult] at e
      cases hr : evResult P m tm rs with
      | none => rw [hr] at e; cases e
      | some l0 =>
        rw [hr] at e
        simp only [Option.some.injEq] at e
        subst e
        obtain ⟨l', h1, h2⟩ := ih l0 hr
        refine ⟨a.tmps.getD t Go.undef :: l', ?_, .cons (ha.get t) h2⟩
        simp only [List.mapM_cons, Sem.run_bind, Sem.run_pure, Result.andThen, h1]
    | cell x t =>
      simp only [evResult] at e
      cases hl : exLoad P m.H t ((tm.get x).getD Go.undef) with
      | none => rw [hl] at e; simp at e
      | some v =>
        rw [hl] at e
        cases hr : evResult P m tm rs with
        | none => rw [hr] at e; simp at e
        | some l0 =>
          rw [hr] at e
          simp only [Option.some.injEq] at e
          subst e
          obtain ⟨l', h1, h2⟩ := ih l0 hr
          obtain ⟨v', k1, k2⟩ := exLoad_run h (ha.get x) hl
          refine ⟨v' :: l', ?_, .cons k2 h2⟩
          have k3 : (do loadVar t (← asAddr (a.tmps.getD x Go.undef)) : Sem Value).run P w = .ok v' w := by
            have hg := ha.get x
            generalize a.tmps.getD x Go.undef = q at hg k1 ⊢
            generalize (tm.get x).getD Go.undef = qa at hg hl
            cases hg <;> first | (simp [exLoad] at hl; done) | exact k1
          rw [Sem.run_bind] at k3
          simp only [List.mapM_cons, Sem.run_bind, Sem.run_pure, Result.andThen, h1] at k3 ⊢
          rw [k3]
          simp only [h1]
end Go.Proofs.YtlkdjdcnbcegeaaGreatDoor.Ev

/-! Our machine's reflectlite.Value: ValueOf, Type, IsNil, Elem, Set, of pointers, and that they stand for the model's. -/
namespace Go.Proofs.YtlkdjdcnbcegeaaGreatDoor.Ev
set_option linter.unusedVariables false
set_option linter.unusedSectionVars false
open Go.RowKit
open Go.Extern Go.Extern.Rtype
def sayAsked : String := "a Value asked or handed on"
/-- The type of a Value that may be asked. -/
def rvType (P : Program) (h : Value) (ask : Bool) : Option TypeId :=
  match valQ P (ofHandle h) with
  | some t => if ask then (match valQ P (noPack sayAsked t) with
    | some _ => some t
    | none => none) else some t
  | none => none
/-- A Value of a type at an address. -/
def rvMk (P : Program) (t : TypeId) (a : Value) (fl : Nat) : Option Value :=
  match valQ P (handle t), valQ P (kind t) with
  | some h, some k => if gclean h then some (.agg #[h, a, .int .u64 (Int.ofNat (k + 128 + fl))]) else none
  | _, _ => none
def exRv (P : Program) (m : Mem) (name : String) (l : List Value) : Option (Value × Mem) :=
  match l with
  | [.iface t v] => if name = "internal/reflectlite.ValueOf" then
      match exBox m t v with
      | some (a, m') => match rvMk P t a 0 with
        | some r => some (r, m')
        | none => none
      | none => none
    else none
  | [.agg ⟨[h, a, .int .u64 (.ofNat (f + 1))]⟩] => if gclean h then
      if name = "(internal/reflectlite.Value).Type" then
        match a, rvType P h false with
        | .pointer (some _), some t => same m (gQ P (ReflectliteType.toType t))
        | _, _ => none
      else if name = "(internal/reflectlite.Value).IsNil" then
        match a, rvType P h true with
        | .pointer (some a), some t => if Nat.beq ((f + 1) % 32) 22 then
            match exLoad P m.H t (.pointer (some a)) with
            | some (.pointer none) => some (.bool true, m)
            | some (.pointer (some _)) => some (.bool false, m)
            | _ => none
          else none
        | _, _ => none
      else if name = "(internal/reflectlite.Value).Elem" then
        match a, rvType P h true with
        | .pointer (some a), some t => if Nat.beq ((f + 1) % 32) 22 then
            match exLoad P m.H t (.pointer (some a)), valQ P (elem? t) with
            | some (.pointer (some p)), some (some e) => match rvMk P e (.pointer (some p)) 256 with
              | some r => some (r, m)
              | none => none
            | _, _ => none
          else none
        | _, _ => none
      else none
    else none
  | [.agg ⟨[h, a, .int .u64 (.ofNat (f + 1))]⟩, .agg ⟨[h', a', .int .u64 (.ofNat (f' + 1))]⟩] => if gclean h && gclean h' && decide (name = "(internal/reflectlite.Value).Set") && Nat.beq ((f + 1) / 256 % 2) 1 then
      match a, a', rvType P h true, rvType P h' true with
      | .pointer (some a), .pointer (some a'), some t, some t' => match exLoad P m.H t' (.pointer (some a')), valQ P (directlyAssignable t t') with
        | some u, some true => match exStore P m.H m.lo t u (.pointer (some a)) with
          | some H' => some (.tuple #[], ⟨H', m.next, m.lo⟩)
          | none => none
        | _, _ => none
      | _, _, _, _ => none
    else none
  | _ => none
variable {P : Program} {w0 w : World} {E : Env} {m : Mem}
theorem rvType_run {h : Value} {ask : Bool} {t : TypeId} (he : rvType P h ask = some t) (w : World) : (ofHandle h).run P w = .ok t w ∧ (ask = true → (noPack sayAsked t).run P w = .ok () w) := by
  unfold rvType at he
  cases hq : valQ P (ofHandle h) with
  | none => rw [hq] at he; cases he
  | some t0 =>
    rw [hq] at he
    cases ask with
    | false => simp only [Bool.false_eq_true, if_false, Option.some.injEq] at he; subst he; exact ⟨valQ_run w _ _ hq, fun h => by cases h⟩
    | true =>
      simp only [if_true] at he
      cases hn : valQ P (noPack sayAsked t0) with
      | none => rw [hn] at he; cases he
      | some u => rw [hn] at he; simp only [Option.some.injEq] at he; subst he; exact ⟨valQ_run w _ _ hq, fun _ => valQ_run w _ _ hn⟩
theorem rvMk_run {t : TypeId} {p : Addr} {a : Value} {fl : Nat} {r : Value} (hg : ∀ g, g < 48 → E.blk g = some g) (ha : VR E a (.pointer (some p))) (he : rvMk P t a fl = some r) (w : World) :
    ∃ r', (ReflectliteValue.mk t p fl).run P w = .ok r' w ∧ VR E r r' := by
  unfold rvMk at he
  cases hh : valQ P (handle t) with
  | none => rw [hh] at he; cases he
  | some h =>
    cases hk : valQ P (kind t) with
    | none => rw [hh, hk] at he; cases he
    | some k =>
      rw [hh, hk] at he
      simp only at he
      split at he
      · rename_i hc
        injection he with he
        subst he
        refine ⟨.agg #[h, .pointer (some p), .int .u64 (Int.ofNat (k + 128 + fl))], ?_, .agg (.cons (VR.of_g hg _ hc) (.cons ha (.cons (.int _ _) .nil)))⟩
        unfold ReflectliteValue.mk
        simp only [Sem.run_bind, valQ_run w _ _ hh, valQ_run w _ _ hk, Result.andThen, Sem.run_pure]
        rfl
      · cases he
/-- Which row a function without a body has. -/
def RowIs (name : String) (e : Array Value → Sem Value) : Prop := Extern.allGenericRows.lookup name = none ∧ Extern.allTypedRows.lookup name = none ∧ Extern.allRows.lookup name = some e
theorem rowValueOf : RowIs "internal/reflectlite.ValueOf" (fun args => ReflectliteValue.unpack (args.getD 0 (.tuple #[]))) := ⟨by kernel_rfl, by kernel_rfl, by kernel_rfl⟩
theorem rowType : RowIs "(internal/reflectlite.Value).Type" (ReflectliteValue.methodAny (ReflectliteValue.valueError "reflectlite.Value.Type" 0) fun t _ _ _ => ReflectliteType.toType t) := ⟨by kernel_rfl, by kernel_rfl, by kernel_rfl⟩
theorem rowIsNil : RowIs "(internal/reflectlite.Value).IsNil" (ReflectliteValue.method (ReflectliteValue.valueError "reflectlite.Value.IsNil" 0) ReflectliteValue.isNil) := ⟨by kernel_rfl, by kernel_rfl, by kernel_rfl⟩
theorem rowElem : RowIs "(internal/reflectlite.Value).Elem" (ReflectliteValue.method (ReflectliteValue.valueError "reflectlite.Value.Elem" 0) ReflectliteValue.elem) := ⟨by kernel_rfl, by kernel_rfl, by kernel_rfl⟩
theorem rowSet : RowIs "(internal/reflectlite.Value).Set" (ReflectliteValue.set) := ⟨by kernel_rfl, by kernel_rfl, by kernel_rfl⟩
theorem loadVar_of {t : TypeId} {p : Addr} {u : Value} {w w' : World} (h : (Instr.loadAt t (.pointer (some p))).run P w = .ok u w') : (loadVar t p).run P w = .ok u w' := h
theorem storeVar_of {t : TypeId} {p : Addr} {u : Value} {w w' : World} (h : (Instr.storeAt t (.pointer (some p)) u).run P w = .ok () w') : (storeVar t p u).run P w = .ok () w' := h
theorem partsAny_run {h : Value} {p : Addr} {f : Nat} {t : TypeId} (hh : (ofHandle h).run P w = .ok t w) : (ReflectliteValue.partsAny (.agg #[h, .pointer (some p), .int .u64 (.ofNat (f + 1))])).run P w = .ok (some (t, p, f + 1)) w := by
  have e : ReflectliteValue.partsAny (.agg #[h, .pointer (some p), .int .u64 (.ofNat (f + 1))]) = (ofHandle h >>= fun x => pure (some (x, p, f + 1))) := rfl
  rw [e, Sem.run_bind, hh]; rfl
theorem parts_run {h : Value} {p : Addr} {f : Nat} {t : TypeId} (hh : (ofHandle h).run P w = .ok t w) (hn : (noPack sayAsked t).run P w = .ok () w) : (ReflectliteValue.parts (.agg #[h, .pointer (some p), .int .u64 (.ofNat (f + 1))])).run P w = .ok (some (t, p, f + 1)) w := by
  unfold ReflectliteValue.parts
  rw [Sem.run_bind, partsAny_run hh]
  simp only [Result.andThen]
  rw [Sem.run_bind, show (noPack "a Value asked or handed on" t).run P w = .ok () w from hn]; rfl
theorem method_run {z : Sem Value} {g : TypeId → Addr → Nat → Nat → Sem Value} {h : Value} {p : Addr} {f : Nat} {t : TypeId} (hh : (ofHandle h).run P w = .ok t w) (hn : (noPack sayAsked t).run P w = .ok () w) :
    (ReflectliteValue.method z g #[.agg #[h, .pointer (some p), .int .u64 (.ofNat (f + 1))]]).run P w = (g t p (f + 1) ((f + 1) % 32)).run P w := by
  have e : ReflectliteValue.method z g #[.agg #[h, .pointer (some p), .int .u64 (.ofNat (f + 1))]] = (ReflectliteValue.parts (.agg #[h, .pointer (some p), .int .u64 (.ofNat (f + 1))]) >>= fun x => match x with
    | none => z
    | some (t, a, fl) => g t a fl (fl % 32)) := rfl
  rw [e, Sem.run_bind, parts_run hh hn]; rfl
theorem isNil_run {t : TypeId} {p : Addr} {fl : Nat} {q : Option Addr} (hl : (loadVar t p).run P w = .ok (.pointer q) w) : (ReflectliteValue.isNil t p fl 22).run P w = .ok (.bool q.isNone) w := by
  unfold ReflectliteValue.isNil
  rw [if_neg (by decide)]
  show ((loadVar t p) >>= _).run P w = _
  rw [Sem.run_bind, hl]
  cases q <;> rfl
theorem elem_run {t e : TypeId} {p q : Addr} {fl : Nat} {r : Value} (hl : (loadVar t p).run P w = .ok (.pointer (some q)) w) (he : (elem? t).run P w = .ok (some e) w) (hm : (ReflectliteValue.mk e q 256).run P w = .ok r w) : (ReflectliteValue.elem t p fl 22).run P w = .ok r w := by
  unfold ReflectliteValue.elem
  rw [if_neg (by decide)]
  show ((loadVar t p) >>= _).run P w = _
  rw [Sem.run_bind, hl]
  show ((elem? t) >>= _).run P w = _
  rw [Sem.run_bind, he]
  exact hm
theorem set_run {h h1 : Value} {p p1 : Addr} {f f1 : Nat} {t t1 : TypeId} {u : Value} {w' : World} (hh : (ofHandle h).run P w = .ok t w) (hn : (noPack sayAsked t).run P w = .ok () w) (hh1 : (ofHandle h1).run P w = .ok t1 w) (hn1 : (noPack sayAsked t1).run P w = .ok () w)
    (hf : (f + 1) / 256 % 2 = 1) (hl : (loadVar t1 p1).run P w = .ok u w) (hd : (directlyAssignable t t1).run P w = .ok true w) (hs : (storeVar t p u).run P w = .ok () w') :
    (ReflectliteValue.set #[.agg #[h, .pointer (some p), .int .u64 (.ofNat (f + 1))], .agg #[h1, .pointer (some p1), .int .u64 (.ofNat (f1 + 1))]]).run P w = .ok (.tuple #[]) w' := by
  unfold ReflectliteValue.set
  show ((ReflectliteValue.parts (.agg #[h, .pointer (some p), .int .u64 (.ofNat (f + 1))])) >>= _).run P w = _
  rw [Sem.run_bind, parts_run hh hn]
  show ((ReflectliteValue.parts (.agg #[h1, .pointer (some p1), .int .u64 (.ofNat (f1 + 1))])) >>= _).run P w = _
  rw [Sem.run_bind, parts_run hh1 hn1]
  have hc : ((f + 1) / ReflectliteValue.flagAddr % 2 == 0) = false := by
    rw [show ReflectliteValue.flagAddr = 256 from rfl, hf]; rfl
  show (if ((f + 1) / ReflectliteValue.flagAddr % 2 == 0) = true then _ else _ : Sem Value).run P w = _
  rw [if_neg (by rw [hc]; exact Bool.false_ne_true)]
  show ((loadVar t1 p1) >>= _).run P w = _
  rw [Sem.run_bind, hl]
  show ((directlyAssignable t t1) >>= _).run P w = _
  rw [Sem.run_bind, hd]
  show ((storeVar t p u) >>= _).run P w = _
  rw [Sem.run_bind, hs]
  rfl
theorem exRv_run (h : HR P w0 E m.H m.next w) (hlo : m.lo ≤ m.next) {name : String} {l : List Value} {args : Array Value} (hl : VRL E l args.toList) {v : Value} {m' : Mem} (he : exRv P m name l = some (v, m')) :
    ∃ e, RowIs name e ∧ Good P w0 E m w (e args) v m' := by
  obtain ⟨al⟩ := args
  simp only at hl
  unfold exRv at he
  split at he
  · -- ValueOf
    rename_i t x
    split at he
    · rename_i hnm
      subst hnm
      cases hl with
      | cons hx hl =>
        cases hl
        cases hx with
        | iface _ hv =>
          rename_i x'
          unfold exBox at he
          cases hq : exRowNew m t x.cells.toList with
          | none => rw [hq] at he; cases he
          | some m1 =>
            rw [hq] at he
            simp only at he
            cases hr : rvMk P t (.pointer (some ⟨m.next, 0, none⟩)) 0 with
            | none => rw [hr] at he; cases he
            | some r =>
              rw [hr] at he
              simp only [Option.some.injEq, Prod.mk.injEq] at he
              obtain ⟨rfl, rfl⟩ := he
              obtain ⟨E', h1, h2, h3, h4, h5, h6, h7, h8⟩ := exRowNew_run h hlo hv.cells hq
              obtain ⟨r', k1, k2⟩ := rvMk_run h3.glob (.ptr 0 h4) hr (w.alloc (.cells x'.cells.toList.toArray t))
              refine ⟨_, rowValueOf, E', r', _, ?_, h2, h3, k2, h6, h7, h8⟩
              show (ReflectliteValue.unpack (.iface t x')).run P w = _
              unfold ReflectliteValue.unpack
              rw [Sem.run_bind]
              have : (newVar t x').run P w = .ok ⟨w.heap.size, 0, none⟩ (w.alloc (.cells x'.cells.toList.toArray t)) := by
                unfold newVar
                have e : x'.cells.toList.toArray = x'.cells := by simp
                rw [e] at h1 ⊢
                exact h1
              rw [this]
              exact k1
    · cases he
  · rename_i h0 a f
    cases hl with
    | cons hx hl =>
      cases hl
      cases hx with
      | agg hy =>
        cases hy with
        | cons hh hy =>
          cases hy with
          | cons ha hy =>
            cases hy with
            | cons hf hy =>
              cases hy; cases hf
              split at he
              · rename_i hg
                have hh0 := VR.eq_of_g h.glob hh hg
                rw [hh0]
                clear hh0 hh
                split at he
                · rename_i hnm
                  subst hnm
                  split at he
                  · rename_i q t ht
                    cases ha with
                    | ptr o hb =>
                      rename_i b
                      obtain ⟨k1, _⟩ := rvType_run ht w
                      cases hq : gQ P (ReflectliteType.toType t) with
                      | none => rw [hq] at he; cases he
                      | some x =>
                        rw [hq] at he
                        simp only [Ev.same, Option.some.injEq, Prod.mk.injEq] at he
                        obtain ⟨rfl, rfl⟩ := he
                        have hr2 := gQ_run (w := w) (E := E) h.glob hq
                        refine ⟨_, rowType, Good.same h ?_ hr2.2⟩
                        show (ReflectliteValue.methodAny _ _ _).run P w = _
                        unfold ReflectliteValue.methodAny
                        show ((ReflectliteValue.partsAny (.agg #[_, .pointer (some ⟨b, o, none⟩), .int .u64 (.ofNat (f + 1))])) >>= _).run P w = _
                        rw [Sem.run_bind, partsAny_run k1]
                        exact hr2.1
                  · cases he
                · split at he
                  · rename_i hnm
                    subst hnm
                    split at he
                    · rename_i q t ht
                      split at he
                      · rename_i hk
                        have hk := Nat.eq_of_beq_eq_true hk
                        cases ha with
                        | ptr o hb =>
                          rename_i b
                          obtain ⟨k1, k2⟩ := rvType_run ht w
                          have k2 := k2 rfl
                          split at he
                          · rename_i hq
                            simp only [Option.some.injEq, Prod.mk.injEq] at he
                            obtain ⟨rfl, rfl⟩ := he
                            obtain ⟨u', l1, l2⟩ := exLoad_run h (.ptr o hb) hq
                            cases l2
                            refine ⟨_, rowIsNil, Good.same h ?_ (.bool true)⟩
                            rw [method_run k1 k2]
                            show (ReflectliteValue.isNil t ⟨b, o, none⟩ (f + 1) ((f + 1) % 32)).run P w = _
                            rw [hk]
                            exact isNil_run (loadVar_of l1)
                          · rename_i hq
                            simp only [Option.some.injEq, Prod.mk.injEq] at he
                            obtain ⟨rfl, rfl⟩ := he
                            obtain ⟨u', l1, l2⟩ := exLoad_run h (.ptr o hb) hq
                            cases l2
                            refine ⟨_, rowIsNil, Good.same h ?_ (.bool false)⟩
                            rw [method_run k1 k2]
                            show (ReflectliteValue.isNil t ⟨b, o, none⟩ (f + 1) ((f + 1) % 32)).run P w = _
                            rw [hk]
                            exact isNil_run (loadVar_of l1)
                          · cases he
                      · cases he
                    · cases he
                  · split at he
                    · rename_i hnm
                      subst hnm
                      split at he
                      · rename_i q t ht
                        split at he
                        · rename_i hk
                          have hk := Nat.eq_of_beq_eq_true hk
                          cases ha with
                          | ptr o hb =>
                            rename_i b
                            obtain ⟨k1, k2⟩ := rvType_run ht w
                            have k2 := k2 rfl
                            split at he
                            · rename_i q2 e2 hq he2
                              cases hr : rvMk P e2 (.pointer (some q2)) 256 with
                              | none => rw [hr] at he; cases he
                              | some r =>
                                rw [hr] at he
                                simp only [Option.some.injEq, Prod.mk.injEq] at he
                                obtain ⟨rfl, rfl⟩ := he
                                obtain ⟨u', l1, l2⟩ := exLoad_run h (.ptr o hb) hq
                                cases l2 with
                                | ptr o2 hb2 =>
                                  obtain ⟨r', m1, m2⟩ := rvMk_run h.glob (.ptr o2 hb2) hr w
                                  refine ⟨_, rowElem, Good.same h ?_ m2⟩
                                  rw [method_run k1 k2]
                                  show (ReflectliteValue.elem t ⟨b, o, none⟩ (f + 1) ((f + 1) % 32)).run P w = _
                                  rw [hk]
                                  exact elem_run (loadVar_of l1) (valQ_run w _ _ he2) m1
                            · cases he
                        · cases he
                      · cases he
                    · cases he
              · cases he
  · rename_i h0 a f h1 a1 f1
    cases hl with
    | cons hx hl =>
      cases hl with
      | cons hx1 hl =>
        cases hl
        cases hx with
        | agg hy =>
          cases hx1 with
          | agg hy1 =>
                        cases hy with
            | cons hh hy =>
              cases hy with
              | cons ha hy =>
                cases hy with
                | cons hf hy =>
                  cases hy; cases hf
                  cases hy1 with
                  | cons hh1 hy1 =>
                    cases hy1 with
                    | cons ha1 hy1 =>
                      cases hy1 with
                      | cons hf1 hy1 =>
                        cases hy1; cases hf1
                        split at he
                        · rename_i hc
                          simp only [Bool.and_eq_true, decide_eq_true_eq] at hc
                          obtain ⟨⟨⟨hg, hg1⟩, hnm⟩, hfl⟩ := hc
                          have hfl := Nat.eq_of_beq_eq_true hfl
                          subst hnm
                          have hh0 := VR.eq_of_g h.glob hh hg
                          have hh2 := VR.eq_of_g h.glob hh1 hg1
                          rw [hh0, hh2]
                          clear hh0 hh2 hh hh1
                          split at he
                          · rename_i q q1 t t1 ht ht1
                            cases ha with
                            | ptr o hb =>
                              rename_i b
                              cases ha1 with
                              | ptr o1 hb1 =>
                                rename_i b1
                                obtain ⟨k1, k2⟩ := rvType_run ht w
                                have k2 := k2 rfl
                                obtain ⟨k3, k4⟩ := rvType_run ht1 w
                                have k4 := k4 rfl
                                split at he
                                · rename_i u hq hd
                                  split at he
                                  · rename_i H' hs
                                    simp only [Option.some.injEq, Prod.mk.injEq] at he
                                    obtain ⟨rfl, rfl⟩ := he
                                    obtain ⟨u', l1, l2⟩ := exLoad_run h (.ptr o1 hb1) hq
                                    obtain ⟨w1, s1, s2, s3⟩ := exStore_run h (.ptr o hb) l2 hs
                                    refine ⟨_, rowSet, E, .tuple #[], w1, ?_, E.le_refl, s2, .tuple .nil, s3, rfl, Nat.le_refl _⟩
                                    exact set_run k1 k2 k3 k4 hfl (loadVar_of l1) (valQ_run w _ _ hd) (storeVar_of s1)
                                  · cases he
                                · cases he
                          · cases he
                        · cases he
  · cases he
end Go.Proofs.YtlkdjdcnbcegeaaGreatDoor.Ev

/-! Our machine's code and calls: with deferred calls, panics, recovering. -/
namespace Go.Proofs.YtlkdjdcnbcegeaaGreatDoor.Ev
open Go.RowKit
set_option linter.unusedSimpArgs false

/-- What comes of a run of ours, or where it sticks. -/
inductive Tr (α : Type) where
  | ok (a : α)
  | bad (l : List Nat)
/-- How a call of ours ends. -/
inductive Out where
  | ret (v : Value)
  | pan (v : Value)
/-- How a piece of code ends. -/
inductive Ex2 where
  | normal
  | exit (id : Nat)
  | ret
  | pan (v : Value)
/-- A deferred call; or the mark of a range over a function. -/
inductive Df where
  | fn (f : FuncId) (l : List Value)
  | mark (D : Nat)
structure St where
  tm : T Value
  df : List Df
  m : Mem
abbrev Call2 := FuncId → List Value → Mem → Tr (Out × Mem)
inductive Did where
  | val (v : Value) (m : Mem)
  | pan (v : Value) (m : Mem)
  | later (d : Df)
/-- What a deferred call will call. -/
def exLater (P : Program) (m : Mem) (tm : T Value) (c : Call) : Option Df :=
  match c.callee with
  | .value _ => match exCallee P m tm c with
    | some (g, l) => match P.funcs[g]? with
      | some fn => if fn.body.isSome then some (.fn g l) else none
      | none => none
    | none => none
  | _ => none
/-- Is a function without a body 'slices.overlaps', at whatever type? -/
def isOverlaps (fn : Func) : Bool :=
  decide (fn.origin = "slices.overlaps") && (Extern.allGenericRows.lookup fn.name).isNone && (Extern.allTypedRows.lookup fn.name).isNone && (Extern.allRows.lookup fn.name).isNone
/-- Two rows, one beside the other: they don't overlap. -/
def exOverlaps (P : Program) (m : Mem) (fn : Func) (i j : Nat) : Bool :=
  match fn.params, fn.resultTypes with
  | ⟨[t, t']⟩, ⟨[_]⟩ => Nat.beq t t' && (match P.underlying t with
    | some (.slice e) => (P.info? e).isSome
    | _ => false) && !Nat.beq i j && Nat.ble 64 i && Nat.ble 64 j && (match m.H.get i, m.H.get j with
    | some (.cells _ _ ei _), some (.cells _ nj ej _) => !Nat.beq (P.cellsOf ei) 1 && !Nat.beq (P.cellsOf ej) 1 && Nat.ble 1 nj
    | _, _ => false) && isOverlaps fn
  | _, _ => false
/-- Calls of three functions without a body. -/
def exExtM (P : Program) (m : Mem) (fn : Func) (l : List Value) : Option (Value × Mem) :=
  match l with
  | [.pointer a] => if fn.name = "internal/abi.NoEscape" then some (.pointer a, m) else none
  | [.slice (some ⟨i, _, none⟩) _ _, .slice (some ⟨j, _, none⟩) _ _] => if exOverlaps P m fn i j then some (.bool false, m) else none
  | [.iface t _] => if fn.name = "internal/reflectlite.TypeOf" then same m (gQ P (Extern.ReflectliteType.typeOf #[.iface t .nilIface])) else none
  | [.int .i64 (.ofNat n)] => if fn.name = "internal/bytealg.MakeNoZero" then
      match fn.resultTypes with
      | ⟨[t]⟩ => match P.underlying t with
        | some (.slice e) => if m.next < 1073741824 ∧ n ≤ 281474976710656 ∧ P.cellsOf e = 1 then some (.slice (some ⟨m.next, 0, none⟩) n n, rowMem m e .leaf n) else none
        | _ => none
      | _ => none
    else none
  | _ => none
/-- .. or of reflectlite's Value. -/
def exExtR (P : Program) (m : Mem) (fn : Func) (l : List Value) : Option (Value × Mem) :=
  match exExtM P m fn l with
  | some r => some r
  | none => exRv P m fn.name l
/-- A call of a function without a body. -/
def exExt (P : Program) (m : Mem) (g : FuncId) (l : List Value) : Option (Value × Mem) :=
  match P.funcs[g]? with
  | some fn => if fn.body.isNone then
      match Extern.findNext fn with
      | none => match exExtR P m fn l with
        | some r => some r
        | none => if gcleanL l then
            match Extern.find fn with
            | some e => same m (gQ P (e l.toArray))
            | none => none
          else none
      | some _ => none
    else none
  | none => none
/-- Does a type assertion fail? -/
def exMiss (P : Program) (v : Value) (t : TypeId) : Bool :=
  match P.underlying t, v with
  | some (.interface _), .nilIface => true
  | some (.interface want), .iface d _ =>
    match P.info? d with
    | some info => missed want info.methods
    | none => false
  | _, _ => false
/-- A type assertion that panics. -/
def exFails (P : Program) (tm : T Value) (o : Oper) : Option Value := match o.op with
  | .typeAssert x _ t false => match ev tm x with
    | some v => match exMiss P v t, P.underlying P.rt.typeAssertionError with
      | true, some (.pointer _) => some (.iface P.rt.typeAssertionError (.chan (some 0)))
      | _, _ => none
    | none => none
  | _ => none
/-- One operation. -/
def exStep2 (call : Call2) (P : Program) (m : Mem) (tm : T Value) (o : Oper) : Tr Did :=
  match o.op with
  | .defer c => match exLater P m tm c with
    | some d => .ok (.later d)
    | none => .bad [1001]
  | .panic x => match ev tm x with
    | some (.iface t v) => .ok (.pan (.iface t v) m)
    | _ => .bad [1002]
  | _ => match isFuncCall o.op with
    | some c => match exCallee P m tm c with
      | some (g, l) => match exExt P m g l with
        | some (v, m') => .ok (.val v m')
        | none => match call g l m with
          | .ok (.ret v, m') => .ok (.val v m')
          | .ok (.pan v, m') => .ok (.pan v m')
          | .bad l => .bad l
      | none => .bad [1000]
    | none => match exOp P m tm o with
      | some (v, m') => .ok (.val v m')
      | none => match exFails P tm o with
        | some v => .ok (.pan v m)
        | none => .bad [2000]

/-- A call of a loop's yield. -/
def exYield (tm : T Value) (c : Call) : Option (Nat × List Value) :=
  match c.callee with
  | .value x => match ev tm x with
    | some (.func (.yield L) ⟨[]⟩ ⟨[]⟩) => match evs tm c.args.toList with
      | some l => some (L, l)
      | none => none
    | _ => none
  | _ => none
/-- One operation, yields too. -/
def exStep3 (call rnd : Call2) (P : Program) (m : Mem) (tm : T Value) (o : Oper) : Tr Did :=
  match isFuncCall o.op with
  | some c => match exYield tm c with
    | some (L, l) => match rnd L l m with
      | .ok (.ret v, m') => .ok (.val v m')
      | .ok _ => .bad [1004]
      | .bad l => .bad l
    | none => exStep2 call P m tm o
  | none => exStep2 call P m tm o

/-! ### regions whose order is drawn -/
/-- Does an operation leave memory as it is? -/
def still (P : Program) : Op → Bool
  | .convert _ dst _ => match P.underlying dst with
    | some (.slice _) => false
    | _ => true
  | .move _ | .assign _ | .pick .. | .build .. | .load .. | .nilCheck _ | .binOp .. | .unOp .. | .makeInterface .. | .makeFunc .. | .slice .. | .fieldAddr .. | .field .. | .indexAddr .. | .index .. | .lookup .. | .typeAssert .. | .extract .. => true
  | .call { callee := .builtin .len, .. } | .call { callee := .builtin .cap, .. } => true
  | _ => false
/-- Does an operation do nothing but lay a new block, whatever comes about? -/
def isAlloc : Op → Bool
  | .alloc _ | .buildSlice .. => true
  | _ => false
def isConst : Operand → Bool
  | .const _ => true
  | _ => false
def isFree (o : Oper) : Bool := isAlloc o.op && o.op.operands.toList.all isConst && o.guard.isNone && o.after.toList.all fun e => !Region.binds .any e
/-- Does an operation leave memory as it is, but for a block laid beforehand? -/
def calm (P : Program) (o : Oper) : Bool := still P o.op || isFree o
structure Plan where
  act : Bool
  rank : Nat
  lo : Nat
  hi : Nat
abbrev PL := List (Nat × Oper × Plan)
/-- Does the first wait for the second, with none between? -/
def waits (o : Oper) (j : Nat) : Bool := o.after.toList.any fun e => Region.binds .any e && Nat.beq e.on j
def fwd (P : Program) : Nat → Nat → List Oper → PL → PL
  | _, _, [], acc => acc
  | i, k, o :: r, acc =>
    let lo := acc.foldl (fun m y => if waits o y.1 then Nat.max m (if y.2.2.act then y.2.2.rank + 1 else y.2.2.lo) else m) 0
    let act := !calm P o
    fwd P (i + 1) (if act then k + 1 else k) r ((i, o, ⟨act, k, lo, 0⟩) :: acc)
def bwd (n : Nat) : PL → PL → PL
  | [], acc => acc
  | (i, o, p) :: r, acc =>
    let hi := acc.foldl (fun m y => if waits y.2.1 i then Nat.min m (if y.2.2.act then y.2.2.rank else y.2.2.hi) else m) n
    bwd n r ((i, o, ⟨p.act, p.rank, p.lo, hi⟩) :: acc)
def looksE (ops : Array Oper) (o : Oper) (d : Nat) : Bool := (o.looksAt ops).any (Nat.beq d)
/-- Two operations of a region, one beside the other. -/
def pairOk (ops : Array Oper) (x y : Nat × Oper × Plan) : Bool :=
  (match y.2.1.dst with
   | some d => (!looksE ops x.2.1 d || waits x.2.1 y.1 || waits y.2.1 x.1) && (Nat.beq x.1 y.1 || match x.2.1.dst with
      | some d' => !Nat.beq d d'
      | none => true)
   | none => true)
/-- Does an operation come behind so many that may turn memory? -/
def behind (L : PL) (o : Oper) (k : Nat) : Bool :=
  Nat.beq k 0 || L.any fun y => waits o y.1 && (if y.2.2.act then Nat.ble k (y.2.2.rank + 1) else Nat.ble k y.2.2.lo)
def oneOk (P : Program) (nt n : Nat) (L : PL) (x : Nat × Oper × Plan) : Bool :=
  (match x.2.1.dst with
   | some d => Nat.blt d nt
   | none => true) &&
  x.2.1.after.toList.all (fun e => !Region.binds .any e || Nat.blt e.on x.1) &&
  (x.2.2.act == !calm P x.2.1) &&
  (if x.2.2.act then behind L x.2.1 x.2.2.rank else (behind L x.2.1 x.2.2.lo &&
    (Nat.ble n x.2.2.hi || L.any fun y => waits y.2.1 x.1 && (if y.2.2.act then Nat.ble y.2.2.rank x.2.2.hi else Nat.ble y.2.2.hi x.2.2.hi))))
def actives (L : PL) : Nat := L.foldl (fun n x => if x.2.2.act then n + 1 else n) 0
def drPlan (P : Program) (nt : Nat) (ops : Array Oper) : Option (Nat × PL) :=
  let F := fwd P 0 0 ops.toList []
  let n := actives F
  let L := bwd n F []
  if L.all (fun x => oneOk P nt n L x && L.all (pairOk ops x)) then some (n, L) else none
mutual
def veq : Value → Value → Bool
  | .bool a, .bool b => a == b
  | .int k a, .int k' b => decide (k = k') && decide (a = b)
  | .string s, .string t => decide (s = t)
  | .pointer a, .pointer b => decide (a = b)
  | .slice a n c, .slice b n' c' => decide (a = b) && Nat.beq n n' && Nat.beq c c'
  | .map a, .map b => decide (a = b)
  | .chan a, .chan b => decide (a = b)
  | .func (.func f) ⟨x⟩ ⟨y⟩, .func (.func f') ⟨x'⟩ ⟨y'⟩ => Nat.beq f f' && veqL x x' && veqL y y'
  | .nilFunc, .nilFunc => true
  | .iface t v, .iface t' v' => Nat.beq t t' && veq v v'
  | .nilIface, .nilIface => true
  | .agg ⟨x⟩, .agg ⟨x'⟩ => veqL x x'
  | .tuple ⟨x⟩, .tuple ⟨x'⟩ => veqL x x'
  | _, _ => false
def veqL : List Value → List Value → Bool
  | [], [] => true
  | v :: x, v' :: x' => veq v v' && veqL x x'
  | _, _ => false
end
/-- A block that is laid beforehand: whose operation's, what that yields, its number, what lies there. -/
abbrev Fr := Nat × Value × Nat × AObj
/-- The cells of a row, all of them without any address. -/
def cleanT (cs : T Value) : Nat → Bool
  | 0 => true
  | n + 1 => (match cs.get n with
    | some v => clean v
    | none => true) && cleanT cs n
/-- What an operation that does nothing but lay a block lays and yields, its block's number given. -/
def freeOut (P : Program) (o : Oper) (n : Nat) : Option (Value × AObj) :=
  match exOp P ⟨.leaf, 64, 0⟩ .leaf o with
  | some (v, m') => match m'.H.get 64 with
    | some (.cells cs k e false) => if cleanT cs k then match v with
      | .pointer (some ⟨64, 0, none⟩) => some (.pointer (some ⟨n, 0, none⟩), .cells cs k e false)
      | .slice (some ⟨64, 0, none⟩) l c => some (.slice (some ⟨n, 0, none⟩) l c, .cells cs k e false)
      | _ => none else none
    | _ => none
  | none => none
def layFree (P : Program) : PL → Mem → Option (List Fr × Mem)
  | [], m => some ([], m)
  | (i, o, _) :: r, m => if isFree o then match freeOut P o m.next with
      | some (v, ob) => if Nat.blt m.next 1073741824 then match layFree P r { m with H := m.H.set m.next ob, next := m.next + 1 } with
          | some (l, m') => some ((i, v, m.next, ob) :: l, m')
          | none => none else none
      | none => none
    else layFree P r m
def frOf (i : Nat) : List Fr → Option Fr
  | [] => none
  | x :: r => if Nat.beq x.1 i then some x else frOf i r
def teq : T Value → T Value → Bool
  | .leaf, .leaf => true
  | .node a v b, .node a' v' b' => (match v, v' with
    | none, none => true
    | some v, some v' => veq v v'
    | _, _ => false) && teq a a' && teq b b'
  | _, _ => false
/-- Does a block hold what it held? -/
def holds (x : Fr) (m : Mem) : Bool :=
  match x.2.2.2, m.H.get x.2.2.1 with
  | .cells cs n e g, some (.cells cs' n' e' g') => teq cs cs' && Nat.beq n n' && Nat.beq e e' && (g == g')
  | _, _ => false
/-- A region's operations in the text's order: what each yields, and memory after each that may turn it. -/
def drRun (call rnd : Call2) (P : Program) (ops : Array Oper) (fl : List Fr) : PL → Nat → T Value → Mem → Tr (List (Value × T Value) × List Mem × T Value)
  | [], _, tm, _ => .ok ([], [], tm)
  | (i, o, p) :: r, k, tm, m =>
    if isFree o then match frOf i fl with
      | some x => match drRun call rnd P ops fl r k (putE tm o.dst x.2.1) m with
        | .ok (vs, ms, tm') => .ok ((x.2.1, tm) :: vs, ms, tm')
        | .bad l => .bad l
      | none => .bad [3005]
    else if Region.wanted o (yieldedE ops tm) then
      if p.act then
        if Nat.beq p.rank k then
          match exStep3 call rnd P m tm o with
          | .ok (.val v m') => match drRun call rnd P ops fl r (k + 1) (putE tm o.dst v) m' with
            | .ok (vs, ms, tm') => .ok ((v, tm) :: vs, m' :: ms, tm')
            | .bad l => .bad l
          | .ok _ => .bad [r.length, 7777]
          | .bad l => .bad (r.length :: l)
        else .bad [3001]
      else match exOp P m tm o with
        | some (v, _) => match drRun call rnd P ops fl r k (putE tm o.dst v) m with
          | .ok (vs, ms, tm') => .ok ((v, tm) :: vs, ms, tm')
          | .bad l => .bad l
        | none => .bad [r.length, 2000]
    else if p.act then
      if Nat.beq p.rank k then
        match drRun call rnd P ops fl r (k + 1) (putE tm o.dst Go.undef) m with
        | .ok (vs, ms, tm') => .ok ((Go.undef, tm) :: vs, m :: ms, tm')
        | .bad l => .bad l
      else .bad [3001]
    else match drRun call rnd P ops fl r k (putE tm o.dst Go.undef) m with
      | .ok (vs, ms, tm') => .ok ((Go.undef, tm) :: vs, ms, tm')
      | .bad l => .bad l
def okAt (P : Program) (tm : T Value) (o : Oper) (v : Value) : List Mem → Bool
  | [] => true
  | m :: r => (match exOp P m tm o with
    | some (u, _) => veq u v
    | none => false) && okAt P tm o v r
/-- Whatever leaves memory as it is yields the same at each place where it may be. -/
def drChk (P : Program) (ops : Array Oper) (fl : List Fr) (ms : List Mem) : PL → List (Value × T Value) → Bool
  | [], [] => true
  | (i, o, p) :: r, (v, tm) :: vs =>
    (if isFree o then match frOf i fl with
      | some x => (ms.take (p.hi + 1)).all (holds x)
      | none => false
    else p.act || !Region.wanted o (yieldedE ops tm) || okAt P tm o v ((ms.drop p.lo).take (p.hi + 1 - p.lo))) && drChk P ops fl ms r vs
  | _, _ => false
def lastMem : Mem → List Mem → Mem
  | m, [] => m
  | _, m :: r => lastMem m r
def evDrawn (call rnd : Call2) (P : Program) (nt : Nat) (ops : Array Oper) (s : St) : Tr St :=
  match drPlan P nt ops with
  | some (n, L) => match layFree P L s.m with
    | some (fl, m0) => match drRun call rnd P ops fl L 0 s.tm m0 with
      | .ok (vs, ms, tm) => if Nat.beq ms.length n && drChk P ops fl (m0 :: ms) L vs then .ok ⟨tm, s.df, lastMem m0 ms⟩ else .bad [3002]
      | .bad l => .bad l
    | none => .bad [3006]
  | none => .bad [3003]
def dstOk (nt : Nat) (o : Oper) : Bool :=
  match o.dst with
  | some d => Nat.blt d nt
  | none => true

/-- Operations one after another. -/
def evOps2 (rd : Bool) (call rnd : Call2) (P : Program) (nt : Nat) (ops : Array Oper) : List Oper → St → Tr (Option Value × St)
  | [], s => .ok (none, s)
  | o :: r, s =>
    if !dstOk nt o then .bad [3004]
    else if Region.wanted o (yieldedE ops s.tm) then
      match exStep3 call rnd P s.m s.tm o with
      | .ok (.val v m') => evOps2 rd call rnd P nt ops r ⟨putE s.tm o.dst v, s.df, m'⟩
      | .ok (.pan v m') => .ok (some v, ⟨s.tm, s.df, m'⟩)
      | .ok (.later d) => if rd then .bad [1003] else evOps2 rd call rnd P nt ops r ⟨putE s.tm o.dst Go.undef, d :: s.df, s.m⟩
      | .bad l => .bad (r.length :: l)
    else evOps2 rd call rnd P nt ops r ⟨putE s.tm o.dst Go.undef, s.df, s.m⟩
/-- At most 2^k rounds of a loop; 'none': it goes on. -/
def evLoop (f : St → Tr (Ex2 × St)) : Nat → St → Tr (Option Ex2 × St)
  | 0, s => match f s with
    | .ok (.normal, s') => match s'.df with
      | [] => .ok (none, ⟨s'.tm, [], s'.m⟩)
      | d :: r => .ok (none, ⟨s'.tm, d :: r, s'.m⟩)
    | .ok (e, s') => .ok (some e, s')
    | .bad l => .bad l
  | k + 1, s => match evLoop f k s with
    | .ok (none, s') => evLoop f k s'
    | r => r
def isBusy : LoopState → Bool
  | .busy => true
  | _ => false
def evCode2 (rd : Bool) (call rnd : Call2) (P : Program) (nt : Nat) : Nat → Code → St → Tr (Ex2 × St)
  | 0, _, _ => .bad [1]
  | _ + 1, .skip, s => .ok (.normal, s)
  | _ + 1, .label _, s => .ok (.normal, s)
  | _ + 1, .exit id, s => .ok (.exit id, s)
  | _ + 1, .ret, s => .ok (.ret, s)
  | _ + 1, .region id ops false, s => match evOps2 rd call rnd P nt ops ops.toList s with
    | .ok (none, s') => .ok (.normal, s')
    | .ok (some v, s') => .ok (.pan v, s')
    | .bad l => .bad (id :: l)
  | _ + 1, .region id ops true, s => match evDrawn call rnd P nt ops s with
    | .ok s' => .ok (.normal, s')
    | .bad l => .bad (id :: l)
  | n + 1, .seq a b, s => match evCode2 rd call rnd P nt n a s with
    | .ok (.normal, s') => evCode2 rd call rnd P nt n b s'
    | r => r
  | n + 1, .cond c a b, s => match ev s.tm c with
    | some (.bool true) => evCode2 rd call rnd P nt n a s
    | some (.bool false) => evCode2 rd call rnd P nt n b s
    | _ => .bad [3]
  | n + 1, .block id b, s => match evCode2 rd call rnd P nt n b s with
    | .ok (.exit i, s') => if i = id then .ok (.normal, s') else .ok (.exit i, s')
    | r => r
  | n + 1, .loop b, s => match evLoop (fun s => evCode2 rd call rnd P nt n b s) (24 + s.m.lo) s with
    | .ok (some e, s') => .ok (e, s')
    | .ok (none, _) => .bad [8]
    | .bad l => .bad l
  | _ + 1, .rangeFunc g ps asg body, s => if rd then .bad [4, 1] else match ev s.tm g with
    | some (.func (.func gf) ⟨fst⟩ ⟨cap⟩) =>
      if Nat.blt (s.m.next + 2) 1073741824 && Nat.ble 64 s.m.next then
        match call gf (fst ++ .func (.yield (s.m.next + 1)) #[] #[] :: cap) { s.m with H := (s.m.H.set s.m.next .dfr).set (s.m.next + 1) (.loop s.tm nt ps.toList asg body s.m.next .ready none), next := s.m.next + 2 } with
        | .ok (.ret _, m2) => match m2.H.get (s.m.next + 1) with
          | some (.loop _ _ _ _ _ _ st2 pend2) =>
            if isBusy st2 then .bad [4, 5] else
            match pend2 with
            | none => .ok (.normal, ⟨s.tm, .mark s.m.next :: s.df, { m2 with H := m2.H.del (s.m.next + 1) }⟩)
            | some .ret => .ok (.ret, ⟨s.tm, .mark s.m.next :: s.df, { m2 with H := m2.H.del (s.m.next + 1) }⟩)
            | some (.exit id) => .ok (.exit id, ⟨s.tm, .mark s.m.next :: s.df, { m2 with H := m2.H.del (s.m.next + 1) }⟩)
            | _ => .bad [4, 6]
          | _ => .bad [4, 4]
        | .ok (.pan v, m2) => .ok (.pan v, ⟨s.tm, .mark s.m.next :: s.df, m2⟩)
        | .bad l => .bad (4 :: l)
      else .bad [4, 3]
    | _ => .bad [4, 2]
  | n + 1, .scope b, s => evCode2 rd call rnd P nt n b s
  | _ + 1, .goto .., _ => .bad [6]
  | _ + 1, _, _ => .bad [7]
/-- A round's values go to the temporaries. -/
def zipPut (nt : Nat) : List Nat → List Value → T Value → Option (T Value)
  | [], [], tm => some tm
  | t :: ts, v :: vs, tm => if Nat.blt t nt then zipPut nt ts vs (tm.set t v) else none
  | _, _, _ => none
/-- What a round leaves behind. -/
def endRnd (L : Nat) (e : Ex2) (m : Mem) : Tr (Out × Mem) :=
  match m.H.get L with
  | some (.loop tm nt ps asg body dfr _ _) => match e with
    | .normal => .ok (.ret (.bool true), { m with H := m.H.set L (.loop tm nt ps asg body dfr .ready none) })
    | .ret => .ok (.ret (.bool false), { m with H := m.H.set L (.loop tm nt ps asg body dfr .done (some .ret)) })
    | .exit id => .ok (.ret (.bool false), { m with H := m.H.set L (.loop tm nt ps asg body dfr .done (some (.exit id))) })
    | .pan _ => .bad [5, 1]
  | _ => .bad [5, 2]
/-- A round of a range over a function. -/
def evRound (call rnd : Call2) (P : Program) (steps : Nat) (L : Nat) (l : List Value) (m : Mem) : Tr (Out × Mem) :=
  match m.H.get L with
  | some (.loop tm nt ps asg body _ .ready _) =>
    if Nat.ble nt 1073741824 && Nat.blt L 1073741824 && Nat.ble 64 L then
      match zipPut nt ps l tm with
      | some tm1 => match evCode2 true call rnd P nt steps asg ⟨tm1, [], m⟩ with
        | .ok (.normal, s1) => match s1.m.H.get L with
          | some (.loop tm2 nt2 ps2 asg2 body2 dfr2 .ready pend2) =>
            match evCode2 true call rnd P nt steps body ⟨s1.tm, s1.df, { s1.m with H := s1.m.H.set L (.loop tm2 nt2 ps2 asg2 body2 dfr2 .busy pend2) }⟩ with
            | .ok (e, s2) => endRnd L e s2.m
            | .bad l => .bad (5 :: l)
          | _ => .bad [5, 3]
        | .ok _ => .bad [5, 4]
        | .bad l => .bad (5 :: l)
      | none => .bad [5, 5]
    else .bad [5, 6]
  | _ => .bad [5, 7]
/-- A caller's state when a deferred call runs: it returns, or panics with a value, recovered or not. -/
abbrev Md := Option (Value × Bool)
def isRecover : Op → Bool
  | .call { callee := .builtin .recover, .. } => true
  | _ => false
def evOpsS2 (call : Call2) (P : Program) (nt : Nat) (ops : Array Oper) : List Oper → St → Md → Tr (Option Value × St × Md)
  | [], s, u => .ok (none, s, u)
  | o :: r, s, u =>
    if !dstOk nt o then .bad [3004]
    else if Region.wanted o (yieldedE ops s.tm) then
      if isRecover o.op then
        match u with
        | some (v, false) => evOpsS2 call P nt ops r ⟨putE s.tm o.dst v, s.df, s.m⟩ (some (v, true))
        | u => evOpsS2 call P nt ops r ⟨putE s.tm o.dst .nilIface, s.df, s.m⟩ u
      else match exStep2 call P s.m s.tm o with
      | .ok (.val v m') => evOpsS2 call P nt ops r ⟨putE s.tm o.dst v, s.df, m'⟩ u
      | .ok (.pan v m') => .ok (some v, ⟨s.tm, s.df, m'⟩, u)
      | .ok (.later d) => evOpsS2 call P nt ops r ⟨putE s.tm o.dst Go.undef, d :: s.df, s.m⟩ u
      | .bad l => .bad (r.length :: l)
    else evOpsS2 call P nt ops r ⟨putE s.tm o.dst Go.undef, s.df, s.m⟩ u
def plain2 (u : Md) : Tr (Ex2 × St) → Tr (Ex2 × St × Md)
  | .ok (e, s) => .ok (e, s, u)
  | .bad l => .bad l
/-- The code of a deferred function. -/
def evCodeS2 (call rnd : Call2) (P : Program) (nt : Nat) : Nat → Code → St → Md → Tr (Ex2 × St × Md)
  | 0, _, _, _ => .bad [1]
  | n + 1, .seq a b, s, u => match evCodeS2 call rnd P nt n a s u with
    | .ok (.normal, s', u') => evCodeS2 call rnd P nt n b s' u'
    | r => r
  | n + 1, .cond c a b, s, u => match ev s.tm c with
    | some (.bool true) => evCodeS2 call rnd P nt n a s u
    | some (.bool false) => evCodeS2 call rnd P nt n b s u
    | _ => .bad [3]
  | _ + 1, .region id ops false, s, u => match evOpsS2 call P nt ops ops.toList s u with
    | .ok (none, s', u') => .ok (.normal, s', u')
    | .ok (some v, s', u') => .ok (.pan v, s', u')
    | .bad l => .bad (id :: l)
  | n + 1, c, s, u => plain2 u (evCode2 false call rnd P nt n c s)
def settleE : Md → Md
  | some (_, true) => none
  | u => u
/-- The deferred calls, the last one first. -/
def evLeave (callD : FuncId → List Value → Md → Mem → Tr (Md × Mem)) : List Df → Md → Mem → Tr (Md × Mem)
  | [], u, m => .ok (u, m)
  | .fn f l :: ds, u, m => match callD f l u m with
    | .ok (u', m') => evLeave callD ds (settleE u') m'
    | .bad l => .bad l
  | .mark D :: ds, u, m => match m.H.get D with
    | some .dfr => if Nat.blt D 1073741824 && Nat.ble 64 D then evLeave callD ds u { m with H := m.H.del D } else .bad [13, 1]
    | _ => .bad [13, 2]
def evDef (call rnd : Call2) (P : Program) (steps : Nat) (f : FuncId) (l : List Value) (u : Md) (m : Mem) : Tr (Md × Mem) :=
  match P.funcs[f]? with
  | some fn => match fn.body with
    | some c => if Nat.ble fn.ntmps 1073741824 && Nat.ble l.length fn.ntmps then
        match evCodeS2 call rnd P fn.ntmps steps c ⟨T.leaf.fill 0 l, [], m⟩ u with
        | .ok (.normal, s, u') | .ok (.ret, s, u') => match s.df, evResult P s.m s.tm fn.results.toList with
          | [], some _ => .ok (u', s.m)
          | _, _ => .bad [f, 8]
        | .ok _ => .bad [f, 7]
        | .bad l => .bad (f :: l)
      else .bad [f, 12]
    | none => .bad [f, 9]
  | none => .bad [f, 10]
def evEnd (call rnd : Call2) (P : Program) (steps : Nat) (fn : Func) (f : Nat) (s : St) (u : Md) : Tr (Out × Mem) :=
  match evLeave (evDef call rnd P steps) s.df u s.m with
  | .ok (none, m') => match evResult P m' s.tm fn.results.toList with
    | some [v] => .ok (.ret v, m')
    | some vs => .ok (.ret (.tuple vs.toArray), m')
    | none => .bad [f, 8]
  | .ok (some (v, false), m') => .ok (.pan v, m')
  | .ok _ => .bad [f, 11]
  | .bad l => .bad (f :: l)
/-- Summaries: what some calls come to. -/
abbrev Sums := FuncId → List Value → Mem → Option (Out × Mem)
def evCall3 (sm : Sums) (P : Program) (steps : Nat) : Nat → Bool → Call2
  | 0, _, f, _, _ => .bad [f, 6]
  | n + 1, true, L, l, m => evRound (evCall3 sm P steps n false) (evCall3 sm P steps n true) P steps L l m
  | n + 1, false, f, l, m => match sm f l m with
    | some r => .ok r
    | none => match P.funcs[f]? with
      | some fn => match fn.body with
        | some c => if Nat.ble fn.ntmps 1073741824 && Nat.ble l.length fn.ntmps then
            match evCode2 false (evCall3 sm P steps n false) (evCall3 sm P steps n true) P fn.ntmps steps c ⟨T.leaf.fill 0 l, [], m⟩ with
            | .ok (.normal, s) | .ok (.ret, s) => evEnd (evCall3 sm P steps n false) (evCall3 sm P steps n true) P steps fn f s none
            | .ok (.pan v, s) => evEnd (evCall3 sm P steps n false) (evCall3 sm P steps n true) P steps fn f s (some (v, false))
            | .ok _ => .bad [f, 7]
            | .bad l => .bad (f :: l)
          else .bad [f, 12]
        | none => .bad [f, 9]
      | none => .bad [f, 10]
def evCall2 (sm : Sums) (P : Program) (steps n : Nat) : Call2 := evCall3 sm P steps n false
end Go.Proofs.YtlkdjdcnbcegeaaGreatDoor.Ev

/-! What our machine calls is what the model calls. -/
namespace Go.Proofs.YtlkdjdcnbcegeaaGreatDoor.Ev
open Go.RowKit
set_option linter.unusedSimpArgs false

variable {P : Program} {w0 w : World} {E : Env} {m : Mem}

/-- No function with a body is the one whose call is none. -/
def Plainly (P : Program) : Prop := ∀ (g : Nat) (fn : Func), P.funcs[g]? = some fn → fn.name ≠ "runtime.NumGoroutine"
theorem callFunc_run (hP : Plainly P) {g : Nat} {fn : Func} (hf : P.funcs[g]? = some fn) (hb : fn.body.isSome = true) (args : Array Value) (w : World) :
    (callFunc g args).run P w = .ok (.enter g args) w := by
  have hn := hP g fn hf
  have hne : fn.body ≠ none := by intro e; rw [e] at hb; cases hb
  simp [callFunc, Sem.run_bind, program, Sem.run, Result.andThen, hf, hn, hne, Sem.run_pure]
theorem exCallee_value {tm : T Value} {nt : Nat} {a : Act} (ha : AR E tm nt a) {c : Call} {x : Operand} (hc : c.callee = .value x) {g : Nat} {l : List Value} (he : exCallee P m tm c = some (g, l)) (ty : TypeId) :
    ∃ (d : Deferred) (cap args : Array Value), (∀ w, (resolve a.eval c ty).run P w = .ok d w) ∧ d.target = .fn (.func g) cap ∧
    (∀ w, (invoke d.target d.args).run P w = (callFunc g args).run P w) ∧ VRL E l args.toList := by
  unfold exCallee at he
  rw [hc] at he
  simp only at he
  split at he
  · rename_i g' fst cap l' h1 h2
    injection he with he
    injection he with e1 e2
    subst e1 e2
    have hv := ev_VR ha h1
    have hl := evs_VR ha c.args.toList _ h2
    generalize hy : a.eval x = y at hv
    cases hv with
    | @func _ y y' x' l' h0 h' =>
      refine ⟨{ target := .fn (.func g') l'.toArray, args := y'.toArray ++ c.args.map a.eval }, l'.toArray, y'.toArray ++ c.args.map a.eval ++ l'.toArray, fun w => ?_, rfl, fun w => ?_, ?_⟩
      · simp [resolve, hc, hy, Deferred.ofValue, Sem.run_pure]
      · simp only [invoke]
      · simpa [List.append_assoc] using (h0.append hl).append h'
  · cases he
theorem wrap_nil (ts : Array TypeId) (t : TypeId) (A : Addr) (n : String) : Builtin.ssaWrapNilChk_ ts t #[.pointer (some A), strVal "", strVal n] = pure (.pointer (some A)) := rfl
theorem exCallee_invoke (h : HR P w0 E m.H m.next w) {tm : T Value} {nt : Nat} {a : Act} (ha : AR E tm nt a) {c : Call} {x : Operand} {name : String} (hc : c.callee = .invoke x name) {g : Nat} {l : List Value}
    (he : exCallee P m tm c = some (g, l)) (ty : TypeId) :
    ∃ args : Array Value, (do let d ← resolve a.eval c ty; invoke d.target d.args : Sem Next).run P w = (callFunc g args).run P w ∧ VRL E l args.toList := by
  unfold exCallee at he
  rw [hc] at he
  simp only at he
  split at he
  · rename_i t v l' h1 h2
    have hv := ev_VR ha h1
    have hl := evs_VR ha c.args.toList _ h2
    split at he
    · rename_i info hi
      split at he
      · rename_i mt hm
        generalize hy : a.eval x = y at hv
        cases hv with
        | @iface _ _ v' hv =>
          have key : ∀ (u u' : Value), (receiverAt t (.val v') (mt.func.getD (0, false)).2 (some ((name.splitOn ".").getLastD name))).run P w = .ok u' w → VR E u u' → mt.path.isEmpty = true → mt.func = some (g, (mt.func.getD (0, false)).2) → l = u :: l' →
              ∃ args : Array Value, (do let d ← resolve a.eval c ty; invoke d.target d.args : Sem Next).run P w = (callFunc g args).run P w ∧ VRL E l args.toList := by
            intro u u' hr hu hpath hfun hl'
            refine ⟨#[u'] ++ c.args.map a.eval, ?_, by rw [hl']; simpa using VRL.cons hu hl⟩
            have hpl : mt.path.toList = [] := by rw [Array.isEmpty_iff.1 hpath]
            have hres : (resolve a.eval c ty).run P w = .ok { target := .fn (.method name) #[], args := #[.iface t v'] ++ c.args.map a.eval } w := by unfold resolve; rw [hc, ← hy]; rfl
            rw [Sem.run_bind, hres]
            simp only [Result.andThen, invoke]
            have hg0 : (#[Value.iface t v'] ++ c.args.map a.eval)[0]? = some (.iface t v') := by rw [Array.getElem?_append_left (by exact Nat.zero_lt_one)]; rfl
            have hex : (#[Value.iface t v'] ++ c.args.map a.eval).extract 1 (#[Value.iface t v'] ++ c.args.map a.eval).size = c.args.map a.eval := by
              apply Array.ext'
              simp
              exact List.take_of_length_le (by simp)
            rw [hg0, hex]
            simp only [callMethod, program, Sem.run_bind, Sem.run, Result.andThen]
            have hmeth : (Go.method (P.types.size + Made.depth) t v' name).run P w = .ok (g, u') w := by
              have hd : P.types.size + Made.depth = (P.types.size + (Made.depth - 1)) + 1 := by simp [Made.depth]
              rw [hd]
              simp only [Go.method, Sem.run_bind, run_typeInfo w hi, Result.andThen, hm, hpl, follow, Sem.run_pure]
              rw [hfun]
              simp only [Sem.run_bind, hpath, if_true, hr, Result.andThen, Sem.run_pure]
            rw [hmeth]
          split at he
          · rename_i g' e hp hfu hu
            injection he with he
            injection he with e1 e2
            subst e1 e2
            refine key v v' ?_ hv hp (by rw [hfu]; rfl) rfl
            rw [hfu]
            simp [receiverAt, Sem.run_bind, run_underlying hu, Result.andThen, Place.get, Sem.run_pure]
          · rename_i g' e hp hfu hu
            split at he
            · rename_i u hlo
              injection he with he
              injection he with e1 e2
              subst e1 e2
              obtain ⟨u', h3, h4⟩ := exLoad_run h hv hlo
              refine key u u' ?_ h4 hp (by rw [hfu]; rfl) rfl
              rw [hfu]
              cases hv <;> simp only [exLoad] at hlo <;> try cases hlo
              simp only [Instr.loadAt] at h3
              simp only [receiverAt, Sem.run_bind, run_underlying hu, Result.andThen, Place.get, Sem.run_pure, wrap_nil, Option.getD_some]
              simpa [Sem.run_bind, Result.andThen, Instr.sureAddr, asAddr, Sem.run_pure] using h3
            · cases he
          · rename_i g' e hno hp hfu hu
            injection he with he
            injection he with e1 e2
            subst e1 e2
            refine key v v' ?_ hv hp (by rw [hfu]; rfl) rfl
            rw [hfu]
            rw [receiverAt, Sem.run_bind, run_underlying hu]
            simp only [Result.andThen]
            cases e <;> first | exact absurd rfl (hno _) | rfl
          · split at he
            · rename_i hg
              obtain rfl := VR.eq_of_g h.glob hv hg
              cases hq : valQ P (Go.method (P.types.size + Made.depth) t v' name) with
              | none => rw [hq] at he; cases he
              | some gu =>
                obtain ⟨g0, u0⟩ := gu
                rw [hq] at he
                simp only at he
                split at he
                · rename_i hgu
                  injection he with he
                  injection he with e1 e2
                  subst e1 e2
                  refine ⟨#[u0] ++ c.args.map a.eval, ?_, by simpa using VRL.cons (VR.of_g h.glob _ hgu) hl⟩
                  have hres : (resolve a.eval c ty).run P w = .ok { target := .fn (.method name) #[], args := #[.iface t v'] ++ c.args.map a.eval } w := by unfold resolve; rw [hc, ← hy]; rfl
                  rw [Sem.run_bind, hres]
                  simp only [Result.andThen, invoke]
                  have hg0 : (#[Value.iface t v'] ++ c.args.map a.eval)[0]? = some (.iface t v') := by rw [Array.getElem?_append_left (by exact Nat.zero_lt_one)]; rfl
                  have hex : (#[Value.iface t v'] ++ c.args.map a.eval).extract 1 (#[Value.iface t v'] ++ c.args.map a.eval).size = c.args.map a.eval := by
                    apply Array.ext'
                    simp
                    exact List.take_of_length_le (by simp)
                  rw [hg0, hex]
                  simp only [callMethod, program, Sem.run_bind, Sem.run, Result.andThen]
                  rw [valQ_run w _ _ hq]
                · cases he
            · cases he
          · cases he
      · cases he
    · cases he
  · cases he

/-- What a call calls. -/
theorem exCallee_any (h : HR P w0 E m.H m.next w) {tm : T Value} {nt : Nat} {a : Act} (ha : AR E tm nt a) {c : Call} {g : Nat} {l : List Value}
    (he : exCallee P m tm c = some (g, l)) (ty : TypeId) :
    ∃ args : Array Value, (do let d ← resolve a.eval c ty; invoke d.target d.args : Sem Next).run P w = (callFunc g args).run P w ∧ VRL E l args.toList := by
  cases hc : c.callee with
  | value x =>
    obtain ⟨d, cap, args, h1, _, h3, h4⟩ := exCallee_value ha hc he ty
    exact ⟨args, by rw [Sem.run_bind, h1]; exact h3 w, h4⟩
  | invoke x name => exact exCallee_invoke h ha hc he ty
  | builtin b => unfold exCallee at he; rw [hc] at he; cases he
theorem exCallee_run (hP : Plainly P) (h : HR P w0 E m.H m.next w) {tm : T Value} {nt : Nat} {a : Act} (ha : AR E tm nt a) {c : Call} {g : Nat} {l : List Value}
    (he : exCallee P m tm c = some (g, l)) {fn : Func} (hf : P.funcs[g]? = some fn) (hb : fn.body.isSome = true) (ty : TypeId) :
    ∃ args : Array Value, (do let d ← resolve a.eval c ty; invoke d.target d.args : Sem Next).run P w = .ok (.enter g args) w ∧ VRL E l args.toList := by
  obtain ⟨args, h1, h2⟩ := exCallee_any h ha he ty
  exact ⟨args, by rw [h1]; exact callFunc_run hP hf hb args w, h2⟩

/-! ### functions without a body -/
theorem no_generic1 : Extern.allGenericRows.lookup "internal/abi.NoEscape" = none := by kernel_rfl
theorem no_typed1 : Extern.allTypedRows.lookup "internal/abi.NoEscape" = none := by kernel_rfl
theorem row1 : Extern.allRows.lookup "internal/abi.NoEscape" = some Extern.AbiNoEscape.same := by kernel_rfl
theorem no_generic2 : Extern.allGenericRows.lookup "internal/bytealg.MakeNoZero" = none := by kernel_rfl
theorem row2 : Extern.allTypedRows.lookup "internal/bytealg.MakeNoZero" = some Extern.BytealgMakeNoZero.makeNoZero := by kernel_rfl
theorem no_generic3 : Extern.allGenericRows.lookup "internal/reflectlite.TypeOf" = none := by kernel_rfl
theorem no_typed3 : Extern.allTypedRows.lookup "internal/reflectlite.TypeOf" = none := by kernel_rfl
theorem row3 : Extern.allRows.lookup "internal/reflectlite.TypeOf" = some Extern.ReflectliteType.typeOf := by kernel_rfl
theorem no_generic4 : Extern.allGenericRows.lookup "slices.overlaps" = none := by kernel_rfl
theorem typed4 : Extern.allTypedRows.lookup "slices.overlaps" = some Extern.SlicesOverlaps.overlaps := by kernel_rfl
theorem isOverlaps_find {fn : Func} (h : isOverlaps fn = true) : Extern.find fn = some (Extern.SlicesOverlaps.overlaps fn.params fn.resultTypes) := by
  unfold isOverlaps at h
  simp only [Bool.and_eq_true, decide_eq_true_eq, Option.isNone_iff_eq_none] at h
  obtain ⟨⟨⟨h1, h2⟩, h3⟩, h4⟩ := h
  simp [Extern.find, h1, h2, h3, h4, no_generic4, typed4]
theorem exOverlaps_run (h : HR P w0 E m.H m.next w) {fn : Func} {i j b b' o o' : Nat} (hb : E.blk i = some b) (hb' : E.blk j = some b') (he : exOverlaps P m fn i j = true) (la ca lb cb : Nat) :
    Extern.find fn = some (Extern.SlicesOverlaps.overlaps fn.params fn.resultTypes) ∧
    (Extern.SlicesOverlaps.overlaps fn.params fn.resultTypes #[.slice (some ⟨b, o, none⟩) la ca, .slice (some ⟨b', o', none⟩) lb cb]).run P w = .ok (.bool false) w := by
  unfold exOverlaps at he
  split at he
  · rename_i t t' r hp hres
    simp only [Bool.and_eq_true, Bool.not_eq_true', Nat.ble_eq] at he
    obtain ⟨⟨⟨⟨⟨⟨h1, h2⟩, h3⟩, h4⟩, h5⟩, h6⟩, h7⟩ := he
    obtain rfl := Nat.eq_of_beq_eq_true h1
    have hij : i ≠ j := fun e => by subst e; simp at h3
    split at h2
    · rename_i e hu
      split at h6
      · rename_i ci ni ei gi cj nj ej gj hgi hgj
        simp only [Bool.and_eq_true, Bool.not_eq_true', Nat.ble_eq] at h6
        obtain ⟨⟨k1, k2⟩, k3⟩ := h6
        obtain ⟨b1, r1, q1, q2, arr1, ⟨fz1, e1, hz1, hel1, rfl⟩, hs1, _⟩ := h.obj hb hgi
        obtain rfl : b = b1 := by rw [hb] at q1; injection q1
        obtain ⟨b2, r2, q3, q4, arr2, ⟨fz2, e2, hz2, hel2, rfl⟩, hs2, _⟩ := h.obj hb' hgj
        obtain rfl : b' = b2 := by rw [hb'] at q3; injection q3
        have hne : b ≠ b' := fun e => by subst e; exact hij (h.inj i j _ _ b hgi hgj hb hb')
        have hf1 : fz1 = (0, 0) := by
          rcases hz1 h4 with hz | ⟨_, hz⟩
          · exact hz
          · rw [hel1 h4] at hz; rw [hz] at k1; simp at k1
        subst hf1
        cases hi : P.info? e with
        | none => rw [hi] at h2; cases h2
        | some info =>
          refine ⟨isOverlaps_find h7, ?_⟩
          have e1' : fn.params = #[t, t] := hp
          have e2' : fn.resultTypes = #[r] := hres
          rw [e1', e2']
          have hsz := sizeOk_n hs2
          refine Lib.run_overlaps_apart w t r e hu (P.cellsOf e) (fun w => run_sizeOf w hi) ⟨b, o, none⟩ ⟨b', o', none⟩ la ca lb cb hne e1 e2 arr1.size arr2.size (by simp [World.shape?, q2]) (by simp [World.shape?, q4]) (by omega) ?_ ?_
          · unfold World.frozen?
            rw [q2]
            simp
          · unfold World.frozen?
            rw [q2]
            simp
      · cases h6
    · cases h2
  · cases he
theorem exExt_run (hP : Plainly P) (h : HR P w0 E m.H m.next w) (hlo : m.lo ≤ m.next) {g : FuncId} {l : List Value} {args : Array Value} (hl : VRL E l args.toList) {v : Value} {m' : Mem} (he : exExt P m g l = some (v, m')) :
    OpGood P w0 E m w (callFunc g args) v m' := by
  unfold exExt at he
  split at he
  · rename_i fn hf
    split at he
    · rename_i hb
      have hname : (fn.name == "runtime.NumGoroutine") = false := by simpa using hP g fn hf
      split at he
      · rename_i hn
        have key : ∀ e, Extern.find fn = some e → Good P w0 E m w (e args) v m' → OpGood P w0 E m w (callFunc g args) v m' := fun e hfe hg => by
          obtain ⟨E', v', w', h1, h2⟩ := hg
          exact ⟨E', v', w', .inl (by rw [run_callFunc_extern hf hname hb hn hfe, h1]; rfl), h2⟩
        split at he
        · rename_i r hr
          injection he with he
          subst he
          rcases hM : exExtM P m fn l with _ | r0
          · rw [exExtR, hM] at hr
            obtain ⟨e, ⟨q1, q2, q3⟩, hg⟩ := exRv_run h hlo hl hr
            exact key e (by simp [Extern.find, q1, q2, q3]) hg
          rw [exExtR, hM] at hr
          injection hr with hr
          subst hr
          replace hr := hM
          unfold exExtM at hr
          split at hr
          · rename_i a
            split at hr
            · rename_i hnm
              simp only [Option.some.injEq, Prod.mk.injEq] at hr
              obtain ⟨rfl, rfl⟩ := hr
              obtain ⟨al⟩ := args
              simp only at hl
              cases hl with
              | @cons _ x _ _ hx hl =>
                cases hl
                refine key Extern.AbiNoEscape.same ?_ (Good.same h (Lib.run_noEscape w x) hx)
                simp only [Extern.find, hnm, no_generic1, no_typed1, row1]
                rfl
            · cases hr
          · rename_i i o la ca j o' lb cb
            split at hr
            · rename_i hov
              simp only [Option.some.injEq, Prod.mk.injEq] at hr
              obtain ⟨rfl, rfl⟩ := hr
              obtain ⟨al⟩ := args
              simp only at hl
              cases hl with
              | cons hx hl =>
                cases hl with
                | cons hy hl =>
                  cases hl
                  cases hx with
                  | slice _ _ hb _ =>
                    cases hy with
                    | slice _ _ hb' _ =>
                      obtain ⟨r1, r2⟩ := exOverlaps_run h hb hb' hov la _ lb _
                      exact key _ r1 (Good.same h r2 (.bool false))
            · cases hr
          · rename_i t u
            split at hr
            · rename_i hnm
              cases hq : gQ P (Extern.ReflectliteType.typeOf #[.iface t .nilIface]) with
              | none => rw [hq] at hr; cases hr
              | some x =>
                rw [hq] at hr
                simp only [Ev.same, Option.some.injEq, Prod.mk.injEq] at hr
                obtain ⟨rfl, rfl⟩ := hr
                obtain ⟨al⟩ := args
                simp only at hl
                cases hl with
                | cons hx hl =>
                  cases hl; cases hx
                  have hr2 := gQ_run (w := w) (E := E) h.glob hq
                  refine key Extern.ReflectliteType.typeOf ?_ (Good.same h hr2.1 hr2.2)
                  simp only [Extern.find, hnm, no_generic3, no_typed3, row3]
                  rfl
            · cases hr
          · rename_i n
            split at hr
            · rename_i hnm
              split at hr
              · rename_i t hrt
                split at hr
                · rename_i e hu
                  split at hr
                  · rename_i hc
                    simp only [Option.some.injEq, Prod.mk.injEq] at hr
                    obtain ⟨rfl, rfl⟩ := hr
                    obtain ⟨al⟩ := args
                    simp only at hl
                    cases hl with
                    | cons hx hl =>
                      cases hl; cases hx
                      obtain ⟨cs, h1, h2, _⟩ := Lib.run_makeNoZero (P := P) w fn.params t e hu n hc.2.1
                      refine key (Extern.BytealgMakeNoZero.makeNoZero fn.params #[t]) ?_ (rowMem_good h hlo hc.1 hc.2.2 (.inl rfl) h2 (fun j u _ hu => by simp [T.get] at hu) ?_ (World.alloc_heap_new w.drew.drew _) h1)
                      · simp only [Extern.find, hnm, no_generic2, row2, hrt]
                        rfl
                      · exact (Below.refl _ _).drew.drew.alloc (Nat.le_refl _) _
                  · cases hr
                · cases hr
              · cases hr
            · cases hr
          · cases hr
        · split at he
          · rename_i hcl
            split at he
            · rename_i e hfe
              have hargs : args = l.toArray := by
                have := hl.eq_of_g h.glob hcl
                apply Array.ext'
                simpa using this
              subst hargs
              cases hq : gQ P (e l.toArray) with
              | none => rw [hq] at he; cases he
              | some u =>
                rw [hq] at he
                simp only [Ev.same, Option.some.injEq, Prod.mk.injEq] at he
                obtain ⟨rfl, rfl⟩ := he
                have hr := gQ_run (w := w) (E := E) h.glob hq
                exact key e hfe (Good.same h hr.1 hr.2)
            · cases he
          · cases he
      · cases he
    · cases he
  · cases he
end Go.Proofs.YtlkdjdcnbcegeaaGreatDoor.Ev

/-! One operation, calls too: what our machine does stands for what the model does. -/
namespace Go.Proofs.YtlkdjdcnbcegeaaGreatDoor.Ev
open Go.RowKit
set_option linter.unusedSimpArgs false

variable {P : Program} {w0 w : World} {E : Env} {m : Mem}

/-- A deferred call that stands for one. -/
def DOne (P : Program) (E : Env) : Df → Deferred → Prop
  | .fn f l, d => ∃ cap args, d.target = .fn (.func f) cap ∧ (∀ w, (invoke d.target d.args).run P w = .ok (.enter f args) w) ∧ VRL E l args.toList
  | .mark D, d => ∃ b, E.blk D = some b ∧ d.target = .collected b
theorem DOne.monoT {E E' : Env} {x : Df} {d : Deferred} (h : E.To E') (k : DOne P E x d) : DOne P E' x d := by
  cases x with
  | fn f l =>
    obtain ⟨cap, args, h1, h2, h3⟩ := k
    exact ⟨cap, args, h1, h2, h3.monoT h⟩
  | mark D =>
    obtain ⟨b, h1, h2⟩ := k
    exact ⟨b, (h D b h1).1, h2⟩
theorem DOne.mono {E E' : Env} {x : Df} {d : Deferred} (h : E.le E') (k : DOne P E x d) : DOne P E' x d := k.monoT h.T
inductive DR (P : Program) (E : Env) : List Df → List Deferred → Prop where
  | nil : DR P E [] []
  | cons {x : Df} {d : Deferred} {xs : List Df} {ds : List Deferred} (h : DOne P E x d) (t : DR P E xs ds) : DR P E (x :: xs) (d :: ds)
theorem DR.monoT {E E' : Env} {xs : List Df} {ds : List Deferred} (h : E.To E') (k : DR P E xs ds) : DR P E' xs ds := by
  induction k with
  | nil => exact .nil
  | cons a _ ih => exact .cons (a.monoT h) ih
theorem DR.mono {E E' : Env} {xs : List Df} {ds : List Deferred} (h : E.le E') (k : DR P E xs ds) : DR P E' xs ds := k.monoT h.T
/-- How a call of the model's ends, and one of ours. -/
def OutR (E : Env) : Out → Ending → Prop
  | .ret v, .returned v' => VR E v v'
  | .pan v, .panicked ch => ∃ v', ch = [{ v := v', recovered := false }] ∧ VR E v v'
  | _, _ => False
/-- Whatever 'call' answers is so. -/
def CallOK (P : Program) (w0 : World) (call : Call2) : Prop :=
  ∀ (f : FuncId) (l : List Value) (m : Mem) (out : Out) (m' : Mem), call f l m = .ok (out, m') →
    (∃ fn, P.funcs[f]? = some fn ∧ fn.body.isSome = true) ∧
    ∀ (E : Env) (w : World) (args : Array Value), HR P w0 E m.H m.next w → m.lo ≤ m.next → VRL E l args.toList →
      Calls P f args w fun e w' => ∃ E', E.le E' ∧ HR P w0 E' m'.H m'.next w' ∧ m'.lo = m.lo ∧ m.next ≤ m'.next ∧ OutR E' out e
/-- What an operation must lead to. -/
def StepTo (P : Program) (w0 : World) (E : Env) (m : Mem) (a : Act) (w : World) (o : Oper) (next : Act → World → Prop) (Q : Exit → Act → World → Prop) : Did → Prop
  | .val v m' => ∀ E' v' w', E.le E' → HR P w0 E' m'.H m'.next w' → VR E' v v' → m'.lo = m.lo → m.next ≤ m'.next → next (a.put o.dst v') w'
  | .pan v m' => ∀ E' v' w', E.le E' → HR P w0 E' m'.H m'.next w' → VR E' v v' → m'.lo = m.lo → m.next ≤ m'.next → Q (.panic [{ v := v', recovered := false }]) a w'
  | .later x => ∀ d, DOne P E x d → next ({ a with defers := d :: a.defers }.put o.dst Go.undef) w

theorem exOp_wp (h : HR P w0 E m.H m.next w) (hlo : m.lo ≤ m.next) {tm : T Value} {nt : Nat} {a : Act} (ha : AR E tm nt a) {o : Oper} {v : Value} {m' : Mem} (he : exOp P m tm o = some (v, m'))
    {next : Act → World → Prop} {Q : Exit → Act → World → Prop} (hn : StepTo P w0 E m a w o next Q (.val v m')) : o.wp P a w next Q := by
  obtain ⟨E', v', w', h1, h2, h3, h4, _, h6, h7⟩ := exOp_run h hlo ha he
  unfold Oper.wp
  rcases h1 with h1 | ⟨h1, rfl⟩
  · rw [h1]; exact hn E' v' w' h2 h3 h4 h6 h7
  · rw [h1]; exact hn E' _ w' h2 h3 h4 h6 h7
theorem isFuncCall_op {o : Op} {c : Call} (h : isFuncCall o = some c) : o = .call c := by
  unfold isFuncCall at h
  split at h
  · cases h
  · injection h with h; rw [h]
  · cases h
theorem HR.laterV {H : T AObj} {next : Nat} {w' : World} (h : HR P w0 E H next w) (hb : Below w.heap.size w w') : HR P w0 E H next w' :=
  h.keep ⟨hb.os, hb.tape, hb.output, hb.size, fun k hk => hb.block k (Nat.lt_of_lt_of_le hk h.below.size)⟩ fun i o b hi he => by
    obtain ⟨b', r, k1, k2, _⟩ := h.obj he hi
    rw [he] at k1
    injection k1 with k1
    subst k1
    exact hb.block b (Array.getElem?_eq_some_iff.1 k2).1
theorem exFails_wp (h : HR P w0 E m.H m.next w) {tm : T Value} {nt : Nat} {a : Act} (ha : AR E tm nt a) {o : Oper} {v : Value}
    (he : exFails P tm o = some v) {next : Act → World → Prop} {Q : Exit → Act → World → Prop} (hn : StepTo P w0 E m a w o next Q (.pan v m)) : o.wp P a w next Q := by
  unfold exFails at he
  split at he
  · rename_i x xt t ho
    split at he
    · rename_i u hx
      split at he
      · rename_i e hm hu
        injection he with he
        subst he
        have hv := ev_VR ha hx
        generalize hy : a.eval x = y at hv
        have hnew : ∀ (s d : Option TypeId) (mm : String), ∃ r w', ((runtimePanic (.typeAssertion s d t mm) : Sem Value)).run P w = .halt (.panic (.iface P.rt.typeAssertionError (.pointer (some r)))) w' ∧ Below w.heap.size w w' := by
          intro s d mm
          refine ⟨⟨w.heap.size, 0, none⟩, _, by simp [runtimePanic, elemOf, run_underlying hu, newVar, newRow, newObj, program, Sem.run_bind, Sem.run, goPanic, Result.andThen, Sem.run_pure]; rfl, ?_⟩
          exact (Below.refl _ _).alloc (Nat.le_refl _) _
        have hta : ∃ s d mm, (Instr.typeAssert y xt t false).run P w = ((runtimePanic (.typeAssertion s d t mm) : Sem Value)).run P w := by
          unfold exMiss at hm
          split at hm
          · rename_i ms hi
            cases hv
            refine ⟨none, none, "", ?_⟩
            rw [Instr.typeAssert, Sem.run_bind, run_underlying hi]
            rfl
          · rename_i want d _ hi
            cases hv with
            | iface _ hx =>
            split at hm
            · rename_i info hin
              obtain ⟨m, hmm⟩ := missed_true hm
              refine ⟨none, some d, m, ?_⟩
              rw [Instr.typeAssert, Sem.run_bind, run_underlying hi]
              simp only [Result.andThen, Sem.run_bind, run_typeInfo w hin, hmm]
              rfl
            · cases hm
          · cases hm
        have hrun : ∃ r w', (execOp a.eval o).run P w = .halt (.panic (.iface P.rt.typeAssertionError (.pointer (some r)))) w' ∧ Below w.heap.size w w' := by
          obtain ⟨s, d, mm, h1⟩ := hta
          obtain ⟨r, w', h2, h3⟩ := hnew s d mm
          refine ⟨r, w', ?_, h3⟩
          unfold execOp
          rw [ho]
          simp only [Sem.run_bind, hy, h1, h2, Result.andThen]
        obtain ⟨r, w', hrun, hb⟩ := hrun
        unfold Oper.wp
        rw [hrun]
        exact hn E _ w' E.le_refl (HR.laterV h hb) (.iface _ (.opq 0 rfl)) rfl (Nat.le_refl _)
      · cases he
    · cases he
  · cases he
theorem exStep2_wp (hP : Plainly P) {call : Call2} (hcall : CallOK P w0 call) (h : HR P w0 E m.H m.next w) (hlo : m.lo ≤ m.next) {tm : T Value} {nt : Nat} {a : Act} (ha : AR E tm nt a) {o : Oper} {d : Did}
    (he : exStep2 call P m tm o = .ok d) {next : Act → World → Prop} {Q : Exit → Act → World → Prop} (hn : StepTo P w0 E m a w o next Q d) : o.wp P a w next Q := by
  unfold exStep2 at he
  split at he
  · rename_i c ho
    split at he
    · rename_i x hx
      injection he with he
      subst he
      unfold exLater at hx
      split at hx
      · rename_i y hc
        split at hx
        · rename_i g l hg
          split at hx
          · rename_i fn hf
            split at hx
            · rename_i hb
              injection hx with hx
              subst hx
              obtain ⟨d, cap, args, h1, h2, h3, h4⟩ := exCallee_value ha hc hg o.type
              have hrun : (execOp a.eval o).run P w = .ok (.defer d) w := by
                unfold execOp
                rw [ho]
                simp only [Sem.run_bind, h1, Result.andThen, Sem.run_pure]
              unfold Oper.wp
              rw [hrun]
              exact hn d ⟨cap, args, h2, fun w => by rw [h3 w]; exact callFunc_run hP hf hb args w, h4⟩
            · cases hx
          · cases hx
        · cases hx
      · cases hx
    · cases he
  · rename_i x ho
    split at he
    · rename_i t v hx
      injection he with he
      subst he
      have hv := ev_VR ha hx
      generalize hy : a.eval x = y at hv
      cases hv with
      | @iface _ _ v' hv =>
        have hrun : (execOp a.eval o).run P w = .halt (.panic (.iface t v')) w := by
          unfold execOp
          rw [ho]
          simp [Sem.run_bind, hy, Instr.panic, goPanic, Sem.run, Result.andThen]
        unfold Oper.wp
        rw [hrun]
        exact hn E (.iface t v') w E.le_refl h (.iface t hv) rfl (Nat.le_refl _)
    · cases he
  · split at he
    · rename_i c hc
      split at he
      · rename_i g l hg
        have key : ∀ out m', call g l m = .ok (out, m') → (∀ E' w' e, E.le E' → HR P w0 E' m'.H m'.next w' → m'.lo = m.lo → m.next ≤ m'.next → OutR E' out e → match e with
            | .returned v' => next (a.put o.dst v') w'
            | .panicked ch => Q (.panic ch) a w'
            | .outgrown => False) → o.wp P a w next Q := by
          intro out m' hcl hk
          obtain ⟨⟨fn, hf, hb⟩, hC⟩ := hcall g l m out m' hcl
          obtain ⟨args, h1, h2⟩ := exCallee_run hP h ha hg hf hb o.type
          have hrun : (execOp a.eval o).run P w = .ok (.enter g args) w := by
            unfold execOp
            rw [isFuncCall_op hc]
            exact h1
          unfold Oper.wp
          rw [hrun]
          refine Calls.mono (hC E w args h hlo h2) fun e w' ⟨E', k1, k2, k3, k4, k5⟩ => ?_
          have := hk E' w' e k1 k2 k3 k4 k5
          cases e with
          | returned v => exact this
          | panicked ch => exact this
          | outgrown => exact this.elim
        split at he
        · rename_i v m' hex
          injection he with he
          subst he
          obtain ⟨args, h1, h2⟩ := exCallee_any h ha hg o.type
          obtain ⟨E', v', w', k0, k1, k2, k3, _, k5, k6⟩ := exExt_run hP h hlo h2 hex
          have hrun : (execOp a.eval o).run P w = (callFunc g args).run P w := by
            unfold execOp
            rw [isFuncCall_op hc]
            exact h1
          unfold Oper.wp
          rw [hrun]
          rcases k0 with k0 | ⟨k0, rfl⟩
          · rw [k0]; exact hn E' v' w' k1 k2 k3 k5 k6
          · rw [k0]; exact hn E' _ w' k1 k2 k3 k5 k6
        split at he
        · rename_i v m' hcl
          injection he with he
          subst he
          refine key _ _ hcl fun E' w' e k1 k2 k3 k4 k5 => ?_
          cases e with
          | returned v' => exact hn E' v' w' k1 k2 k5 k3 k4
          | panicked ch => exact k5.elim
          | outgrown => exact k5.elim
        · rename_i v m' hcl
          injection he with he
          subst he
          refine key _ _ hcl fun E' w' e k1 k2 k3 k4 k5 => ?_
          cases e with
          | returned v' => exact k5.elim
          | panicked ch =>
            obtain ⟨v', rfl, k6⟩ := k5
            exact hn E' v' w' k1 k2 k6 k3 k4
          | outgrown => exact k5.elim
        · cases he
      · cases he
    · split at he
      · rename_i v m' hx
        injection he with he
        subst he
        exact exOp_wp h hlo ha hx hn
      · split at he
        · rename_i v hx
          injection he with he
          subst he
          exact exFails_wp h ha hx hn
        · cases he
end Go.Proofs.YtlkdjdcnbcegeaaGreatDoor.Ev

/-! What an operation of our machine does hangs on what it looks at; equal values. -/
namespace Go.Proofs.YtlkdjdcnbcegeaaGreatDoor.Ev
open Go.RowKit
set_option linter.unusedSimpArgs false

variable {P : Program} {w0 w : World} {E : Env} {m : Mem}

theorem evs_congr {tm tm' : T Value} : ∀ (xs : List Operand), (∀ x ∈ xs, ev tm x = ev tm' x) → evs tm xs = evs tm' xs := by
  intro xs
  induction xs with
  | nil => intro _; rfl
  | cons x r ih =>
    intro h
    simp only [evs]
    rw [h x (List.mem_cons_self ..), ih fun y hy => h y (List.mem_cons_of_mem _ hy)]
theorem evps_congr {tm tm' : T Value} : ∀ (xs : List (Nat × Operand)), (∀ x ∈ xs, ev tm x.2 = ev tm' x.2) → evps tm xs = evps tm' xs := by
  intro xs
  induction xs with
  | nil => intro _; rfl
  | cons x r ih =>
    intro h
    obtain ⟨i, x⟩ := x
    simp only [evps]
    rw [h (i, x) (List.mem_cons_self ..), ih fun y hy => h y (List.mem_cons_of_mem _ hy)]
theorem evO_congr {tm tm' : T Value} {x : Option Operand} (h : ∀ y, x = some y → ev tm y = ev tm' y) : evO tm x = evO tm' x := by
  cases x with
  | none => rfl
  | some x => simp only [evO]; rw [h x rfl]
theorem exCallee_congr {tm tm' : T Value} {c : Call} (h : ∀ x ∈ c.operands.toList, ev tm x = ev tm' x) : exCallee P m tm c = exCallee P m tm' c := by
  have hargs : evs tm c.args.toList = evs tm' c.args.toList := evs_congr _ fun x hx => h x (by simp only [Call.operands]; split <;> simp_all)
  unfold exCallee
  cases hc : c.callee with
  | value f => have hf : ev tm f = ev tm' f := h f (by simp [Call.operands, hc]); simp only [hf, hargs]
  | invoke r n => have hr : ev tm r = ev tm' r := h r (by simp [Call.operands, hc]); simp only [hr, hargs]
  | builtin b => rfl
theorem exOp_congr {tm tm' : T Value} (o : Oper) (h : ∀ x ∈ o.op.operands.toList, ev tm x = ev tm' x) : exOp P m tm o = exOp P m tm' o := by
  obtain ⟨dst, op, type, pos, after, guard⟩ := o
  cases op <;> simp only [Op.operands] at h <;> simp only [exOp]
  case build t ps => rw [evps_congr ps.toList fun x hx => h x.2 (by simp only [Array.toList_map, List.mem_map]; exact ⟨x, hx, rfl⟩)]
  case buildSlice t n ps => rw [evps_congr ps.toList fun x hx => h x.2 (by simp only [Array.toList_map, List.mem_map]; exact ⟨x, hx, rfl⟩)]
  case makeFunc fn first captured =>
    cases fn <;> try rfl
    dsimp only
    rw [evs_congr first.toList fun x hx => h x (by simp; exact .inl (by simpa using hx)), evs_congr captured.toList fun x hx => h x (by simp; exact .inr (by simpa using hx))]
  case call c =>
    obtain ⟨cal, args, ts⟩ := c
    cases cal <;> try rfl
    dsimp only
    rw [evs_congr args.toList fun x hx => h x (by simp [Call.operands]; simpa using hx)]
  case makeMap t r => rw [evO_congr fun y hy => h y (by subst hy; simp)]
  case makeSlice t l c => rw [evO_congr fun y hy => h y (by injection hy with hy; subst hy; simp), evO_congr (x := some c) fun y hy => h y (by injection hy with hy; subst hy; simp)]
  case slice t x lo hi mx =>
    cases mx <;> try rfl
    dsimp only
    rw [h x (by simp), evO_congr (x := lo) fun y hy => h y (by subst hy; simp), evO_congr (x := hi) fun y hy => h y (by subst hy; simp)]
  case lookup t x k ok => rw [h x (by simp), evO_congr (x := some k) fun y hy => h y (by injection hy with hy; subst hy; simp)]
  case mapUpdate t x k v => rw [h x (by simp), h v (by simp), evO_congr (x := some k) fun y hy => h y (by injection hy with hy; subst hy; simp)]
  case insert t x k v => rw [h x (by simp), h v (by simp), evO_congr (x := some k) fun y hy => h y (by injection hy with hy; subst hy; simp)]
  all_goals (first | rfl | (simp_all; done))
theorem exStep2_congr {call : Call2} {tm tm' : T Value} (o : Oper) (h : ∀ x ∈ o.op.operands.toList, ev tm x = ev tm' x) : exStep2 call P m tm o = exStep2 call P m tm' o := by
  have h0 := exOp_congr (P := P) (m := m) o h
  unfold exStep2
  rw [h0]
  split
  · rename_i c ho
    have : exCallee P m tm c = exCallee P m tm' c := exCallee_congr fun x hx => h x (by rw [ho]; exact hx)
    unfold exLater
    rw [this]
  · rename_i x ho
    rw [h x (by rw [ho]; simp [Op.operands])]
  · split
    · rename_i c hc
      rw [exCallee_congr (tm := tm) (tm' := tm') fun x hx => h x (by rw [isFuncCall_op hc]; exact hx)]
    · have h1 : exFails P tm o = exFails P tm' o := by
        unfold exFails
        split
        · rename_i x _ t ho
          rw [h x (by rw [ho]; simp [Op.operands])]
        · rfl
      rw [h1]

/-! ### equal values -/
mutual
theorem veq_eq : ∀ (v u : Value), veq v u = true → v = u
  | .bool a, u, h => by cases u <;> simp_all [veq]
  | .int k a, u, h => by cases u <;> simp_all [veq]
  | .string s, u, h => by cases u <;> simp_all [veq]
  | .pointer a, u, h => by cases u <;> simp_all [veq]
  | .slice a n c, u, h => by cases u <;> simp_all [veq]
  | .map a, u, h => by cases u <;> simp_all [veq]
  | .chan a, u, h => by cases u <;> simp_all [veq]
  | .nilFunc, u, h => by cases u <;> simp_all [veq]
  | .nilIface, u, h => by cases u <;> simp_all [veq]
  | .iface t v, u, h => by
    cases u <;> simp only [veq] at h <;> try cases h
    simp only [Bool.and_eq_true] at h
    rw [veq_eq v _ h.2, Nat.eq_of_beq_eq_true h.1]
  | .agg ⟨x⟩, u, h => by
    cases u <;> simp only [veq] at h <;> try cases h
    rename_i y
    obtain ⟨y⟩ := y
    simp only [veq] at h
    rw [veqL_eq x _ h]
  | .tuple ⟨x⟩, u, h => by
    cases u <;> simp only [veq] at h <;> try cases h
    rename_i y
    obtain ⟨y⟩ := y
    simp only [veq] at h
    rw [veqL_eq x _ h]
  | .func (.func f) ⟨x⟩ ⟨y⟩, u, h => by
    cases u <;> try (simp [veq] at h; done)
    rename_i fn a b
    obtain ⟨a⟩ := a
    obtain ⟨b⟩ := b
    cases fn <;> try (simp [veq] at h; done)
    simp only [veq, Bool.and_eq_true] at h
    rw [veqL_eq x _ h.1.2, veqL_eq y _ h.2, Nat.eq_of_beq_eq_true h.1.1]
  | .func (.method _) ⟨_⟩ ⟨_⟩, u, h => by cases u <;> simp [veq] at h
  | .func (.methodOf _ _) ⟨_⟩ ⟨_⟩, u, h => by cases u <;> simp [veq] at h
  | .func (.via _ _ _ _) ⟨_⟩ ⟨_⟩, u, h => by cases u <;> simp [veq] at h
  | .func (.yield _) ⟨_⟩ ⟨_⟩, u, h => by cases u <;> simp [veq] at h
  | .float _ _, u, h => by cases u <;> simp [veq] at h
  | .complex _ _ _, u, h => by cases u <;> simp [veq] at h
theorem veqL_eq : ∀ (x y : List Value), veqL x y = true → x = y
  | [], y, h => by cases y <;> simp_all [veqL]
  | v :: x, y, h => by
    cases y with
    | nil => simp [veqL] at h
    | cons u y =>
      simp only [veqL, Bool.and_eq_true] at h
      rw [veq_eq v u h.1, veqL_eq x y h.2]
end
/-- What leaves memory as it is leaves it as it is. -/
theorem same_mem {m m' : Mem} {r : Option Value} {v : Value} (h : Ev.same m r = some (v, m')) : m' = m := by
  cases r with
  | none => cases h
  | some u => simp only [Ev.same, Option.some.injEq, Prod.mk.injEq] at h; exact h.2.symm
theorem still_mem {tm : T Value} {o : Oper} (hs : still P o.op = true) {v : Value} {m' : Mem} (he : exOp P m tm o = some (v, m')) : m' = m := by
  obtain ⟨dst, op, type, pos, after, guard⟩ := o
  cases op <;> try (exact absurd hs Bool.false_ne_true)
  all_goals simp only [exOp] at he
  case call c =>
    obtain ⟨cal, args, ts⟩ := c
    cases cal <;> simp only [exOp] at he <;> try cases he
    rename_i b
    cases b <;> try (exact absurd hs Bool.false_ne_true)
    all_goals
      split at he
      · simp only [exBuiltin] at he
        (repeat' (split at he)) <;> first | exact same_mem he | (cases he; rfl) | (cases he; done) | (simp_all; done)
      · cases he
  case convert src dst x =>
    split at he
    · rename_i u hx
      split at he
      · rename_i r hb
        exfalso
        unfold exBytes at hb
        split at hb
        · split at hb
          · rename_i e h1 h2
            simp only [still, h2] at hs
            cases hs
          · cases hb
        · split at hb
          · rename_i e h1
            split at hb
            · split at hb
              · rename_i hc
                rw [← hc.1] at hs
                simp only [still, h1] at hs
                cases hs
              · cases hb
            · cases hb
          · cases hb
        · cases hb
      · (repeat' (split at he)) <;> first | exact same_mem he | (cases he; done)
    · cases he
  all_goals (repeat' (split at he)) <;> first | contradiction | exact same_mem he | (cases he; done) | (cases he; rfl) | skip
end Go.Proofs.YtlkdjdcnbcegeaaGreatDoor.Ev

/-! One operation, yields too, in whatever frame: what our machine does stands for what the model does. -/
namespace Go.Proofs.YtlkdjdcnbcegeaaGreatDoor.Ev
open Go.RowKit
set_option linter.unusedSimpArgs false

variable {P : Program} {w0 w : World} {E : Env} {m : Mem}

/-- The widest fence, about a frame of such a make: a plain one; a round's. -/
def WF (ro : Option Nat) : Fence := { Fence.wide with round := ro }
theorem callsIn_WF {ro : Option Nat} {n : Nat} {f : FuncId} {args : Array Value} {R : Ending → World → Prop} : CallsIn (WF ro) n P f args w R ↔ Calls P f args w R :=
  (callsIn_wide (n := n) (P := P) (f := f) (args := args) (w := w) (R := R))
theorem wpIn_WF {n : Nat} {c : Code} {Q : Exit → Act → World → Prop} {a : Act} : c.wpIn (WF none) n P Q a w ↔ c.wp P Q a w := wpIn_wide
theorem rowsIn_WF {ro : Option Nat} {n : Nat} {row : String} {args : Array Value} {R : Value → World → Prop} (h : Rows P row args w R) : RowsIn (WF ro) n P row args w R :=
  fun c cs _ => let ⟨v, w', r, s⟩ := h c cs; ⟨v, w', r, stepsIn_wide.2 s⟩
theorem op_wpIn {ro : Option Nat} {o : Oper} {a : Act} {next : Act → World → Prop} {Q : Exit → Act → World → Prop} (hd : ro = none ∨ ∀ c, o.op ≠ .defer c) (h : o.wp P a w next Q) : o.wpIn (WF ro) 0 P a w next Q := by
  refine ⟨fun _ _ => trivial, ?_⟩
  have hs : o.semAt (WF ro).round a.eval = execOp a.eval o := by
    rcases hd with rfl | hd
    · rfl
    · exact Oper.semAt_eq _ _ _ hd
  rw [hs]
  unfold Oper.wp at h
  have hdep : (WF ro).depth.isSome = true → 1 ≤ 0 := fun h => by cases h
  generalize (execOp a.eval o).run P w = r at h ⊢
  cases r with
  | ok x w' =>
    cases x <;> simp only [Oper.upon, Oper.uponIn] at h ⊢ <;> first
      | exact h
      | exact h.elim
      | exact ⟨hdep, callsIn_WF.2 (Calls.mono h fun e w hh => by cases e <;> exact hh)⟩
      | exact ⟨hdep, rowsIn_WF h⟩
  | halt x w' => cases x <;> simp only [Oper.upon, Oper.uponIn] at h ⊢ <;> exact h

/-- Whatever 'rnd' answers of a round is so. -/
def RndOK (P : Program) (w0 : World) (rnd : Call2) : Prop :=
  ∀ (L : Nat) (l : List Value) (m : Mem) (out : Out) (m' : Mem), rnd L l m = .ok (out, m') →
    ∀ (E : Env) (w : World) (args : Array Value) (b : Nat), HR P w0 E m.H m.next w → m.lo ≤ m.next → VRL E l args.toList → E.blk L = some b →
      ∃ fn tmps asg body, (Instr.yield b args).run P w = .ok (.round b fn tmps asg body) w ∧
        RoundIn Fence.wide 0 P b fn tmps asg body w fun e w' => ∃ E', E.le E' ∧ HR P w0 E' m'.H m'.next w' ∧ m'.lo = m.lo ∧ m.next ≤ m'.next ∧ OutR E' out e

theorem exYield_run {tm : T Value} {nt : Nat} {a : Act} (ha : AR E tm nt a) {c : Call} {L : Nat} {l : List Value} (he : exYield tm c = some (L, l)) (ty : TypeId) :
    ∃ (b : Nat) (args : Array Value), E.blk L = some b ∧ VRL E l args.toList ∧ ∀ w, (do let d ← resolve a.eval c ty; invoke d.target d.args : Sem Next).run P w = (Instr.yield b args).run P w := by
  unfold exYield at he
  split at he
  · rename_i x hc
    split at he
    · rename_i L' hx
      split at he
      · rename_i l' hl
        injection he with he
        injection he with e1 e2
        subst e1 e2
        have hv := ev_VR ha hx
        have hl := evs_VR ha c.args.toList _ hl
        generalize hy : a.eval x = y at hv
        cases hv with
        | @yield _ b hb =>
          refine ⟨b, c.args.map a.eval, hb, by simpa using hl, fun w => ?_⟩
          have hres : (resolve a.eval c ty).run P w = .ok { target := .fn (.yield b) #[], args := #[] ++ c.args.map a.eval } w := by
            simp [resolve, hc, hy, Deferred.ofValue, Sem.run_pure]
          rw [Sem.run_bind, hres]
          simp [Result.andThen, invoke]
      · cases he
    · cases he
  · cases he
theorem exYield_congr {tm tm' : T Value} {c : Call} (h : ∀ x ∈ c.operands.toList, ev tm x = ev tm' x) : exYield tm c = exYield tm' c := by
  have hargs : evs tm c.args.toList = evs tm' c.args.toList := evs_congr _ fun x hx => h x (by simp only [Call.operands]; split <;> simp_all)
  unfold exYield
  cases hc : c.callee with
  | value f => have hf : ev tm f = ev tm' f := h f (by simp [Call.operands, hc]); simp only [hf, hargs]
  | _ => rfl
theorem exStep3_congr {call rnd : Call2} {tm tm' : T Value} (o : Oper) (h : ∀ x ∈ o.op.operands.toList, ev tm x = ev tm' x) : exStep3 call rnd P m tm o = exStep3 call rnd P m tm' o := by
  unfold exStep3
  rw [exStep2_congr (tm := tm) (tm' := tm') o h]
  split
  · rename_i c hc
    rw [exYield_congr (tm := tm) (tm' := tm') fun x hx => h x (by rw [isFuncCall_op hc]; exact hx)]
  · rfl
theorem exStep2_later {call : Call2} {tm : T Value} {o : Oper} {d : Did} (he : exStep2 call P m tm o = .ok d) (hd : ∀ x, d ≠ .later x) : ∀ c, o.op ≠ .defer c := by
  intro c hc
  unfold exStep2 at he
  rw [hc] at he
  simp only at he
  split at he
  · injection he with he; exact hd _ he.symm
  · cases he
theorem exOp_noDefer {tm : T Value} {o : Oper} {v : Value} {m' : Mem} (he : exOp P m tm o = some (v, m')) : ∀ c, o.op ≠ .defer c := by
  intro c hc
  unfold exOp at he
  rw [hc] at he
  cases he
theorem exStep3_wp (hP : Plainly P) {call rnd : Call2} (hcall : CallOK P w0 call) (hrnd : RndOK P w0 rnd) {ro : Option Nat} (h : HR P w0 E m.H m.next w) (hlo : m.lo ≤ m.next) {tm : T Value} {nt : Nat} {a : Act} (ha : AR E tm nt a) {o : Oper} {d : Did}
    (he : exStep3 call rnd P m tm o = .ok d) (hd : ro = none ∨ ∀ x, d ≠ .later x) {next : Act → World → Prop} {Q : Exit → Act → World → Prop} (hn : StepTo P w0 E m a w o next Q d) : o.wpIn (WF ro) 0 P a w next Q := by
  unfold exStep3 at he
  split at he
  · rename_i c hc
    have hop := isFuncCall_op hc
    have hnd : ∀ c, o.op ≠ .defer c := fun c h => by rw [hop] at h; cases h
    split at he
    · rename_i L l hy
      split at he
      · rename_i v m' hr
        injection he with he
        subst he
        obtain ⟨b, args, k1, k2, k3⟩ := exYield_run (P := P) ha hy o.type
        obtain ⟨fn, tmps, asg, body, k4, k5⟩ := hrnd L l m _ _ hr E w args b h hlo k2 k1
        refine ⟨fun _ _ => trivial, ?_⟩
        rw [Oper.semAt_eq _ _ _ hnd]
        have hrun : (execOp a.eval o).run P w = .ok (.round b fn tmps asg body) w := by
          unfold execOp
          rw [hop]
          exact (k3 w).trans k4
        rw [hrun]
        refine ⟨fun h => (by cases h), RoundIn.mono k5 fun e w' ⟨E', q1, q2, q3, q4, q5⟩ => ?_⟩
        cases e with
        | returned v' => exact hn E' v' w' q1 q2 q5 q3 q4
        | panicked ch => exact q5.elim
        | outgrown => exact q5.elim
      · cases he
      · cases he
    · exact op_wpIn (.inr hnd) (exStep2_wp hP hcall h hlo ha he hn)
  · refine op_wpIn ?_ (exStep2_wp hP hcall h hlo ha he hn)
    rcases hd with hd | hd
    · exact .inl hd
    · exact .inr (exStep2_later he hd)

/-! ### operations that do nothing but lay a block -/
theorem teq_eq : ∀ (t t' : T Value), teq t t' = true → t = t'
  | .leaf, t', h => by cases t' <;> simp_all [teq]
  | .node a v b, t', h => by
    cases t' with
    | leaf => simp [teq] at h
    | node a' v' b' =>
      simp only [teq, Bool.and_eq_true] at h
      obtain ⟨⟨h1, h2⟩, h3⟩ := h
      rw [teq_eq a a' h2, teq_eq b b' h3]
      cases v <;> cases v' <;> simp at h1 <;> first | rfl | rw [veq_eq _ _ h1]
theorem holds_get {x : Fr} {m : Mem} (h : holds x m = true) : m.H.get x.2.2.1 = some x.2.2.2 := by
  unfold holds at h
  split at h
  · rename_i cs n e g cs' n' e' g' h1 h2
    simp only [Bool.and_eq_true, beq_iff_eq] at h
    obtain ⟨⟨⟨k1, k2⟩, k3⟩, k4⟩ := h
    rw [h2, h1, teq_eq _ _ k1, Nat.eq_of_beq_eq_true k2, Nat.eq_of_beq_eq_true k3, k4]
  · cases h
theorem cleanT_get {cs : T Value} : ∀ (n : Nat), cleanT cs n = true → ∀ j v, j < n → cs.get j = some v → clean v = true := by
  intro n
  induction n with
  | zero => intro _ j v hj; omega
  | succ n ih =>
    intro h j v hj hv
    simp only [cleanT, Bool.and_eq_true] at h
    by_cases e : j = n
    · subst e
      have := h.1
      rw [hv] at this
      exact this
    · exact ih h.2 j v (by omega) hv
theorem isFree_spec {o : Oper} (h : isFree o = true) : (∀ cs b, o.op ≠ .select cs b) ∧ (∀ c, o.op ≠ .defer c) ∧ (∀ x ∈ o.op.operands, ∃ v, x = .const v) ∧ o.guard = none := by
  unfold isFree at h
  simp only [Bool.and_eq_true] at h
  obtain ⟨⟨⟨h1, h2⟩, h3⟩, _⟩ := h
  refine ⟨fun cs b e => ?_, fun c e => ?_, fun x hx => ?_, by simpa using h3⟩
  · rw [e] at h1; cases h1
  · rw [e] at h1; cases h1
  · have := List.all_eq_true.1 h2 x (Array.mem_toList_iff.2 hx)
    unfold isConst at this
    split at this
    · exact ⟨_, rfl⟩
    · cases this
theorem freeOut_run {o : Oper} (hf : isFree o = true) {n : Nat} {v : Value} {ob : AObj} (he : freeOut P o n = some (v, ob)) (a : Act) (w : World) :
    ∃ v' w' b r, ((execOp a.eval o).run P w = .ok (.value v') w' ∨ ((execOp a.eval o).run P w = .ok .skip w' ∧ v' = Go.undef)) ∧ Below w.heap.size w w' ∧ w.heap.size ≤ b ∧ b < w'.heap.size ∧ w'.heap[b]? = some r ∧
      (∀ E : Env, E.cap n = none → OR P E n ob r) ∧ (∀ E : Env, E.blk n = some b → E.cap n = none → VR E v v') := by
  obtain ⟨hs, hnd, hc, hg⟩ := isFree_spec hf
  unfold freeOut at he
  split at he
  · rename_i v0 m' hx
    split at he
    · rename_i cs k e hm
      split at he
      · rename_i hcl
        have hcl := cleanT_get k hcl
        obtain ⟨E', v', w', h1, h2, h3, h4, _⟩ := exOp_run (nt := 0) (a := { tmps := #[], defers := [] }) (HR.start w) (Nat.zero_le _) ⟨by intro g hg; simp [hg], rfl, fun t => by simpa [T.get] using VR.undef _⟩ hx
        have hcong : execOp a.eval o = execOp (Act.eval { tmps := #[], defers := [] }) o := execOp_congr o hs fun x hx => by
          obtain ⟨u, rfl⟩ := hc x hx
          rfl
        have hph : E'.ph 64 = false := by rw [h2.ph]
        obtain ⟨b, r, q1, q2, arr, ⟨fz, elem', hz, hel, hr⟩, hsz, hcell⟩ := h3.born 64 _ hm hph
        have hd := (h3.dom 64 b q1).2 (Nat.le_refl _)
        have hcap : E'.cap 64 = none ∧ arr.size = k := by
          unfold sizeOk at hsz
          cases hcp : E'.cap 64 with
          | none => rw [hcp] at hsz; exact ⟨rfl, hsz.1⟩
          | some p => rw [hcp] at hsz; simp at hsz
        have hor : ∀ E : Env, E.cap n = none → OR P E n (.cells cs k e false) r := fun E hE => by
          refine ⟨arr, ⟨fz, elem', fun _ => hz (Nat.le_refl _), fun _ => hel (Nat.le_refl _), hr⟩, ?_, fun j u hj hu => ?_⟩
          · unfold sizeOk; rw [hE]; exact ⟨hcap.2, rfl⟩
          · obtain ⟨u', k1, k2⟩ := hcell j u hj hu
            have hcu := hcl j u hj hu
            rw [VR.eq_of_clean k2 hcu] at k1
            exact ⟨u, k1, VR.of_clean E u hcu⟩
        rw [hcong]
        refine ⟨v', w', b, r, h1, h3.below, hd.1, hd.2, q2, ?_⟩
        split at he
        · simp only [Option.some.injEq, Prod.mk.injEq] at he
          obtain ⟨rfl, rfl⟩ := he
          refine ⟨hor, fun E hb hE => ?_⟩
          cases h4 with
          | ptr o hb' =>
            rw [q1] at hb'
            injection hb' with hb'
            subst hb'
            exact .ptr 0 hb
        · simp only [Option.some.injEq, Prod.mk.injEq] at he
          obtain ⟨rfl, rfl⟩ := he
          refine ⟨hor, fun E hb hE => ?_⟩
          cases h4 with
          | slice o l hb' hc' =>
            rw [q1] at hb'
            injection hb' with hb'
            subst hb'
            refine .slice 0 _ hb ?_
            unfold capOf at hc' ⊢
            rw [hcap.1] at hc'
            rw [hE]
            exact hc'
        · cases he
      · cases he
    · cases he
  · cases he
/-- What a free operation must lead to. -/
theorem free_wp {ro : Option Nat} {o : Oper} (hf : isFree o = true) {n : Nat} {v : Value} {ob : AObj} (he : freeOut P o n = some (v, ob)) {a : Act} {next : Act → World → Prop} {Q : Exit → Act → World → Prop}
    (hn : ∀ v' w' b r, Below w.heap.size w w' → w.heap.size ≤ b → b < w'.heap.size → w'.heap[b]? = some r → (∀ E : Env, E.cap n = none → OR P E n ob r) → (∀ E : Env, E.blk n = some b → E.cap n = none → VR E v v') → next (a.put o.dst v') w') :
    o.wpIn (WF ro) 0 P a w next Q := by
  obtain ⟨v', w', b, r, h1, h2, h3, h4, h5, h6, h7⟩ := freeOut_run hf he a w
  refine op_wpIn (.inr (isFree_spec hf).2.1) ?_
  unfold Oper.wp
  rcases h1 with h1 | ⟨h1, rfl⟩
  · rw [h1]; exact hn v' w' b r h2 h3 h4 h5 h6 h7
  · rw [h1]; exact hn _ w' b r h2 h3 h4 h5 h6 h7
theorem frOf_mem {i : Nat} {x : Fr} : ∀ (fl : List Fr), frOf i fl = some x → x ∈ fl ∧ x.1 = i := by
  intro fl
  induction fl with
  | nil => intro h; cases h
  | cons y r ih =>
    intro h
    simp only [frOf] at h
    split at h
    · rename_i hb
      injection h with h
      subst h
      exact ⟨List.mem_cons_self .., Nat.eq_of_beq_eq_true hb⟩
    · obtain ⟨h1, h2⟩ := ih h
      exact ⟨List.mem_cons_of_mem _ h1, h2⟩
/-- What is laid out beforehand. -/
def Env.phs (E : Env) (fl : List Fr) : Env := ⟨E.blk, E.cap, fun i => E.ph i || fl.any fun f => f.2.2.1 == i⟩
structure Lain (P : Program) (L : PL) (m m0 : Mem) (fl : List Fr) : Prop where
  lo : m0.lo = m.lo
  next : m.next ≤ m0.next
  num : ∀ f ∈ fl, m.next ≤ f.2.2.1 ∧ f.2.2.1 < m0.next
  from' : ∀ f ∈ fl, ∃ x ∈ L, x.1 = f.1 ∧ isFree x.2.1 = true ∧ freeOut P x.2.1 f.2.2.1 = some (f.2.1, f.2.2.2)
  inj : ∀ f ∈ fl, ∀ f' ∈ fl, f.2.2.1 = f'.2.2.1 → f = f'
  idx : L.Pairwise (fun x y => x.1 ≠ y.1) → ∀ f ∈ fl, ∀ f' ∈ fl, f.1 = f'.1 → f = f'
theorem layFree_ok : ∀ (L : PL) (m : Mem) (E : Env) (w : World) (fl : List Fr) (m0 : Mem), layFree P L m = some (fl, m0) → HR P w0 E m.H m.next w → HR P w0 (E.phs fl) m0.H m0.next w ∧ Lain P L m m0 fl := by
  intro L
  induction L with
  | nil =>
    intro m E w fl m0 he h
    simp only [layFree, Option.some.injEq, Prod.mk.injEq] at he
    obtain ⟨rfl, rfl⟩ := he
    refine ⟨?_, rfl, Nat.le_refl _, by simp, by simp, by simp, fun _ => by simp⟩
    have : E.phs [] = E := by simp [Env.phs]
    rw [this]; exact h
  | cons x L ih =>
    intro m E w fl m0 he h
    obtain ⟨i, o, p⟩ := x
    simp only [layFree] at he
    split at he
    · rename_i hf
      split at he
      · rename_i v ob ho
        split at he
        · rename_i hlt
          rw [Nat.blt_eq] at hlt
          split at he
          · rename_i l m1 hl
            simp only [Option.some.injEq, Prod.mk.injEq] at he
            obtain ⟨rfl, rfl⟩ := he
            obtain ⟨k1, k2⟩ := ih _ _ _ _ _ hl (h.lay hlt ob)
            have hnx := k2.next
            simp only at hnx
            refine ⟨?_, k2.lo, by omega, fun f hf' => ?_, fun f hf' => ?_, fun f hf' f' hf2 e => ?_, fun hp f hf' f' hf2 e => ?_⟩
            · have : (E.phantom m.next).phs l = E.phs ((i, v, m.next, ob) :: l) := by
                unfold Env.phantom Env.phs
                congr 1
                funext j
                simp only [List.any_cons]
                have e1 : (j == m.next) = (m.next == j) := by rw [Bool.eq_iff_iff, beq_iff_eq, beq_iff_eq]; exact ⟨Eq.symm, Eq.symm⟩
                rw [e1]
                cases E.ph j <;> cases (m.next == j) <;> simp
              rw [← this]; exact k1
            · rcases List.mem_cons.1 hf' with rfl | hf'
              · simp only; omega
              · have := k2.num f hf'; simp only at this; omega
            · rcases List.mem_cons.1 hf' with rfl | hf'
              · exact ⟨(i, o, p), List.mem_cons_self .., rfl, hf, ho⟩
              · obtain ⟨y, q1, q2⟩ := k2.from' f hf'
                exact ⟨y, List.mem_cons_of_mem _ q1, q2⟩
            · rcases List.mem_cons.1 hf' with rfl | hf' <;> rcases List.mem_cons.1 hf2 with rfl | hf2
              · rfl
              · have := k2.num f' hf2; simp only at this e; omega
              · have := k2.num f hf'; simp only at this e; omega
              · exact k2.inj f hf' f' hf2 e
            · obtain ⟨hp1, hp2⟩ := List.pairwise_cons.1 hp
              rcases List.mem_cons.1 hf' with rfl | hf' <;> rcases List.mem_cons.1 hf2 with rfl | hf2
              · rfl
              · obtain ⟨y, q1, q2, _⟩ := k2.from' f' hf2
                exact absurd (e.trans q2.symm) (hp1 y q1)
              · obtain ⟨y, q1, q2, _⟩ := k2.from' f hf'
                exact absurd (e.symm.trans q2.symm) (hp1 y q1)
              · exact k2.idx hp2 f hf' f' hf2 e
          · cases he
        · cases he
      · cases he
    · obtain ⟨k1, k2⟩ := ih _ _ _ _ _ he h
      refine ⟨k1, k2.lo, k2.next, k2.num, fun f hf' => ?_, k2.inj, fun hp => k2.idx (List.pairwise_cons.1 hp).2⟩
      obtain ⟨y, q1, q2⟩ := k2.from' f hf'
      exact ⟨y, List.mem_cons_of_mem _ q1, q2⟩
end Go.Proofs.YtlkdjdcnbcegeaaGreatDoor.Ev

/-! Regions whose order is drawn: the plan, and what a run in the text's order says. -/
namespace Go.Proofs.YtlkdjdcnbcegeaaGreatDoor.Ev
open Go.RowKit
set_option linter.unusedSimpArgs false

variable {P : Program} {w0 w : World} {E : Env} {m : Mem} {ops : Array Oper}

def shape (x : Nat × Oper × Plan) : Nat × Oper := (x.1, x.2.1)
theorem fwd_shape : ∀ (l : List Oper) (i k : Nat) (acc : PL), (fwd P i k l acc).map shape = ((l.zipIdx i).map fun q => (q.2, q.1)).reverse ++ acc.map shape := by
  intro l
  induction l with
  | nil => intro i k acc; simp [fwd]
  | cons o r ih => intro i k acc; simp [fwd, ih, shape]
theorem bwd_shape (n : Nat) : ∀ (F acc : PL), (bwd n F acc).map shape = (F.map shape).reverse ++ acc.map shape := by
  intro F
  induction F with
  | nil => intro acc; simp [bwd]
  | cons x r ih => obtain ⟨i, o, p⟩ := x; intro acc; simp [bwd, ih, shape]
structure PlanOK (P : Program) (nt : Nat) (ops : Array Oper) (n : Nat) (L : PL) : Prop where
  here : ∀ (i : Nat) (o : Oper), ops[i]? = some o → ∃ p, L[i]? = some (i, o, p)
  back : ∀ (i : Nat) (x : Nat × Oper × Plan), L[i]? = some x → x.1 = i ∧ ops[i]? = some x.2.1
  one : ∀ x ∈ L, oneOk P nt n L x = true
  pair : ∀ x ∈ L, ∀ y ∈ L, pairOk ops x y = true
theorem drPlan_ok {nt n : Nat} {L : PL} (h : drPlan P nt ops = some (n, L)) : PlanOK P nt ops n L := by
  unfold drPlan at h
  simp only at h
  split at h
  · rename_i hc
    injection h with h
    injection h with h1 h2
    subst h1 h2
    have hs : (bwd (actives (fwd P 0 0 ops.toList [])) (fwd P 0 0 ops.toList []) []).map shape = (ops.toList.zipIdx 0).map fun q => (q.2, q.1) := by
      rw [bwd_shape, fwd_shape]; simp
    generalize bwd (actives (fwd P 0 0 ops.toList [])) (fwd P 0 0 ops.toList []) [] = L at hs hc
    have hi : ∀ i, (L[i]?).map shape = (ops[i]?).map fun o => (i, o) := fun i => by
      rw [← List.getElem?_map, hs]
      simp only [List.getElem?_map, List.getElem?_zipIdx, Array.getElem?_toList]
      cases ops[i]? <;> simp
    refine ⟨fun i o ho => ?_, fun i x hx => ?_, fun x hx => ?_, fun x hx y hy => ?_⟩
    · have := hi i
      rw [ho] at this
      cases hL : L[i]? with
      | none => rw [hL] at this; simp at this
      | some x =>
        obtain ⟨j, o', p⟩ := x
        rw [hL] at this
        simp [shape] at this
        exact ⟨p, by rw [this.1, this.2]⟩
    · have := hi i
      rw [hx] at this
      cases ho : ops[i]? with
      | none => rw [ho] at this; simp at this
      | some o =>
        rw [ho] at this
        simp [shape] at this
        exact ⟨this.1, by rw [this.2]⟩
    · have := List.all_eq_true.1 hc x hx
      simp only [Bool.and_eq_true] at this
      exact this.1
    · have := List.all_eq_true.1 hc x hx
      simp only [Bool.and_eq_true] at this
      exact List.all_eq_true.1 this.2 y hy
  · cases h
theorem waits_iff {o : Oper} {j : Nat} : waits o j = true ↔ ∃ e ∈ o.after, Region.binds .any e = true ∧ e.on = j := by
  unfold waits
  rw [List.any_eq_true]
  constructor
  · rintro ⟨e, he, h⟩
    simp only [Bool.and_eq_true] at h
    exact ⟨e, Array.mem_toList_iff.1 he, h.1, Nat.eq_of_beq_eq_true h.2⟩
  · rintro ⟨e, he, h1, h2⟩
    refine ⟨e, Array.mem_toList_iff.2 he, ?_⟩
    rw [h1, h2]; simp
theorem PlanOK.apart {nt n : Nat} {L : PL} (h : PlanOK P nt ops n L) : L.Pairwise fun x y => x.1 ≠ y.1 := by
  rw [List.pairwise_iff_getElem]
  intro i j hi hj hij e
  have h1 := (h.back i _ (List.getElem?_eq_getElem hi)).1
  have h2 := (h.back j _ (List.getElem?_eq_getElem hj)).1
  omega
namespace PlanOK
variable {nt n : Nat} {L : PL} (h : PlanOK P nt ops n L) {x y : Nat × Oper × Plan}
include h
theorem mem_at (hx : x ∈ L) : L[x.1]? = some x := by
  obtain ⟨i, hi⟩ := List.mem_iff_getElem?.1 hx
  have := (h.back i x hi).1
  rw [this]; exact hi
theorem op_at (hx : x ∈ L) : ops[x.1]? = some x.2.1 := (h.back _ _ (h.mem_at hx)).2
theorem eq_of (hx : x ∈ L) (hy : y ∈ L) (e : x.1 = y.1) : x = y := by
  have h1 := h.mem_at hx
  have h2 := h.mem_at hy
  rw [e, h2] at h1
  injection h1 with h1
  exact h1.symm
theorem dst (hx : x ∈ L) {d : Nat} (hd : x.2.1.dst = some d) : d < nt := by
  have := h.one x hx
  unfold oneOk at this
  rw [hd] at this
  simp only [Bool.and_eq_true] at this
  exact of_decide_eq_true (by simpa [Nat.blt_eq] using this.1.1.1)
theorem edge (hx : x ∈ L) {j : Nat} (hw : waits x.2.1 j = true) : j < x.1 := by
  obtain ⟨e, he, h1, h2⟩ := waits_iff.1 hw
  have := h.one x hx
  unfold oneOk at this
  simp only [Bool.and_eq_true] at this
  have := List.all_eq_true.1 this.1.1.2 e (Array.mem_toList_iff.2 he)
  rw [h1] at this
  simp only [Bool.not_true, Bool.false_or, Nat.blt_eq] at this
  omega
theorem act (hx : x ∈ L) : x.2.2.act = !calm P x.2.1 := by
  have := h.one x hx
  unfold oneOk at this
  simp only [Bool.and_eq_true, beq_iff_eq] at this
  exact this.1.2
theorem free (hx : x ∈ L) (hf : isFree x.2.1 = true) : x.2.2.act = false := by
  rw [h.act hx]
  simp [calm, hf]
theorem uniq (hx : x ∈ L) (hy : y ∈ L) (hne : x.1 ≠ y.1) {d : Nat} (hd : y.2.1.dst = some d) : x.2.1.dst ≠ some d := by
  intro hd'
  have := h.pair x hx y hy
  unfold pairOk at this
  rw [hd, hd'] at this
  simp only [Bool.and_eq_true, Bool.or_eq_true] at this
  rcases this.2 with k | k
  · exact hne (Nat.eq_of_beq_eq_true k)
  · simp at k
theorem look (hx : x ∈ L) (hy : y ∈ L) {d : Nat} (hd : y.2.1.dst = some d) (hl : d ∈ x.2.1.looksAt ops) : waits x.2.1 y.1 = true ∨ waits y.2.1 x.1 = true := by
  have := h.pair x hx y hy
  unfold pairOk at this
  rw [hd] at this
  simp only [Bool.and_eq_true, Bool.or_eq_true] at this
  rcases this.1 with (k | k) | k
  · have hb : looksE ops x.2.1 d = true := List.any_eq_true.2 ⟨d, hl, by simp⟩
    rw [hb] at k; cases k
  · exact .inl k
  · exact .inr k
omit h in
theorem behind_iff {o : Oper} {k : Nat} (hb : behind L o k = true) : k = 0 ∨ ∃ y ∈ L, waits o y.1 = true ∧ ((y.2.2.act = true ∧ k ≤ y.2.2.rank + 1) ∨ (y.2.2.act = false ∧ k ≤ y.2.2.lo)) := by
  unfold behind at hb
  simp only [Bool.or_eq_true] at hb
  rcases hb with q | q
  · exact .inl (Nat.eq_of_beq_eq_true q)
  · obtain ⟨y, hy, q⟩ := List.any_eq_true.1 q
    simp only [Bool.and_eq_true] at q
    refine .inr ⟨y, hy, q.1, ?_⟩
    cases ha : y.2.2.act with
    | true => rw [ha] at q; exact .inl ⟨rfl, by simpa using q.2⟩
    | false => rw [ha] at q; exact .inr ⟨rfl, by simpa using q.2⟩
theorem chain (hx : x ∈ L) (ax : x.2.2.act = true) : x.2.2.rank = 0 ∨ ∃ y ∈ L, waits x.2.1 y.1 = true ∧ ((y.2.2.act = true ∧ x.2.2.rank ≤ y.2.2.rank + 1) ∨ (y.2.2.act = false ∧ x.2.2.rank ≤ y.2.2.lo)) := by
  have := h.one x hx
  unfold oneOk at this
  simp only [Bool.and_eq_true, ax, if_true] at this
  exact behind_iff this.2
theorem lo (hx : x ∈ L) (ax : x.2.2.act = false) : x.2.2.lo = 0 ∨ ∃ y ∈ L, waits x.2.1 y.1 = true ∧ ((y.2.2.act = true ∧ x.2.2.lo ≤ y.2.2.rank + 1) ∨ (y.2.2.act = false ∧ x.2.2.lo ≤ y.2.2.lo)) := by
  have := h.one x hx
  unfold oneOk at this
  simp only [Bool.and_eq_true, ax, Bool.false_eq_true, if_false] at this
  exact behind_iff this.2.1
theorem hi (hx : x ∈ L) (ax : x.2.2.act = false) : n ≤ x.2.2.hi ∨ ∃ y ∈ L, waits y.2.1 x.1 = true ∧ ((y.2.2.act = true ∧ y.2.2.rank ≤ x.2.2.hi) ∨ (y.2.2.act = false ∧ y.2.2.hi ≤ x.2.2.hi)) := by
  have := h.one x hx
  unfold oneOk at this
  simp only [Bool.and_eq_true, ax, Bool.false_eq_true, if_false] at this
  have := this.2.2
  simp only [Bool.or_eq_true] at this
  rcases this with k | k
  · exact .inl (by simpa using k)
  · obtain ⟨y, hy, k⟩ := List.any_eq_true.1 k
    simp only [Bool.and_eq_true] at k
    refine .inr ⟨y, hy, k.1, ?_⟩
    cases ha : y.2.2.act with
    | true => rw [ha] at k; exact .inl ⟨rfl, by simpa using k.2⟩
    | false => rw [ha] at k; exact .inr ⟨rfl, by simpa using k.2⟩
end PlanOK
end Go.Proofs.YtlkdjdcnbcegeaaGreatDoor.Ev

/-! Regions whose order is drawn: what the run in the text's order says of each operation. -/
namespace Go.Proofs.YtlkdjdcnbcegeaaGreatDoor.Ev
open Go.RowKit
set_option linter.unusedSimpArgs false

variable {P : Program} {w0 w : World} {E : Env} {m : Mem} {ops : Array Oper}

theorem putE_get {tm : T Value} {dst : Option Tmp} {v : Value} (hb : ∀ d, dst = some d → d < 1073741824) (t : Nat) : (putE tm dst v).get t = if dst = some t then some v else tm.get t := by
  cases dst with
  | none => simp [putE]
  | some d =>
    rw [putE, T.get_set _ _ _ (hb d rfl)]
    by_cases h : t = d
    · simp [h]
    · simp [h, Ne.symm h]
/-- What the run says of one operation. -/
def RunSays (call rnd : Call2) (P : Program) (ops : Array Oper) (R : PL) (k : Nat) (mm : List Mem) (tm0 tmF : T Value) (j : Nat) (x : Nat × Oper × Plan) (v : Value) (tmi : T Value) : Prop :=
  (∀ t, (∀ j' y, j' < j → R[j']? = some y → y.2.1.dst ≠ some t) → tmi.get t = tm0.get t) ∧ (∀ t, (∀ j' y, j ≤ j' → R[j']? = some y → y.2.1.dst ≠ some t) → tmF.get t = tmi.get t) ∧
    (∀ d, x.2.1.dst = some d → (∀ j' y, j < j' → R[j']? = some y → y.2.1.dst ≠ some d) → tmF.get d = some v) ∧
    (Region.wanted x.2.1 (yieldedE ops tmi) = false → v = Go.undef) ∧
    (x.2.2.act = true → k ≤ x.2.2.rank ∧ ∃ mi mi' : Mem, mm[x.2.2.rank - k]? = some mi ∧ mm[x.2.2.rank - k + 1]? = some mi' ∧
      ((Region.wanted x.2.1 (yieldedE ops tmi) = true ∧ exStep3 call rnd P mi tmi x.2.1 = .ok (.val v mi')) ∨ (Region.wanted x.2.1 (yieldedE ops tmi) = false ∧ mi' = mi)))
structure RunOK (call rnd : Call2) (P : Program) (ops : Array Oper) (fl : List Fr) (R : PL) (k : Nat) (tm : T Value) (m : Mem) (vs : List (Value × T Value)) (ms : List Mem) (tmF : T Value) : Prop where
  keeps : ∀ t, (∀ x ∈ R, x.2.1.dst ≠ some t) → tmF.get t = tm.get t
  says : ∀ (j : Nat) (x : Nat × Oper × Plan), R[j]? = some x → ∃ v tmi, vs[j]? = some (v, tmi) ∧ RunSays call rnd P ops R k (m :: ms) tm tmF j x v tmi
  rank : ∀ r, r < ms.length → ∃ x ∈ R, x.2.2.act = true ∧ x.2.2.rank = k + r
  inj : ∀ (j j' : Nat) (x y : Nat × Oper × Plan), R[j]? = some x → R[j']? = some y → x.2.2.act = true → y.2.2.act = true → x.2.2.rank = y.2.2.rank → j = j'
  free : ∀ (j : Nat) (x : Nat × Oper × Plan), R[j]? = some x → isFree x.2.1 = true → ∃ f tmi, frOf x.1 fl = some f ∧ vs[j]? = some (f.2.1, tmi)
theorem RunOK.cons {call rnd : Call2} {fl : List Fr} {R : PL} {k k' : Nat} {tm : T Value} {m m' : Mem} {vs : List (Value × T Value)} {ms ms' : List Mem} {tmF : T Value} {x : Nat × Oper × Plan} {v : Value}
    (hb : ∀ d, x.2.1.dst = some d → d < 1073741824) (h : RunOK call rnd P ops fl R k' (putE tm x.2.1.dst v) m' vs ms tmF)
    (hk : (x.2.2.act = true ∧ x.2.2.rank = k ∧ k' = k + 1 ∧ ms' = m' :: ms ∧ ((Region.wanted x.2.1 (yieldedE ops tm) = true ∧ exStep3 call rnd P m tm x.2.1 = .ok (.val v m')) ∨ (Region.wanted x.2.1 (yieldedE ops tm) = false ∧ m' = m))) ∨ (x.2.2.act = false ∧ k' = k ∧ ms' = ms ∧ m' = m))
    (hv : Region.wanted x.2.1 (yieldedE ops tm) = false → v = Go.undef) (hfr : isFree x.2.1 = true → ∃ f, frOf x.1 fl = some f ∧ v = f.2.1) : RunOK call rnd P ops fl (x :: R) k tm m ((v, tm) :: vs) ms' tmF := by
  refine ⟨fun t ht => ?_, fun j y hj => ?_, fun r hr => ?_, fun j j' y z hy hz hay haz hr => ?_, fun j y hy hfy => ?_⟩
  · rw [h.keeps t fun y hy => ht y (List.mem_cons_of_mem _ hy), putE_get hb, if_neg (ht x (List.mem_cons_self ..))]
  · cases j with
    | zero =>
      simp only [List.getElem?_cons_zero, Option.some.injEq] at hj
      subst hj
      refine ⟨v, tm, rfl, fun _ _ => rfl, fun t ht => ?_, fun d hd hno => ?_, hv, fun ha => ?_⟩
      · rw [h.keeps t fun y hy => by
          obtain ⟨i, hi⟩ := List.mem_iff_getElem?.1 hy
          exact ht (i + 1) y (Nat.zero_le _) (by simpa using hi), putE_get hb, if_neg (ht 0 x (Nat.le_refl _) rfl)]
      · rw [h.keeps d fun y hy => by
          obtain ⟨i, hi⟩ := List.mem_iff_getElem?.1 hy
          exact hno (i + 1) y (Nat.succ_pos _) (by simpa using hi), putE_get hb, if_pos hd]
      · rcases hk with ⟨_, hr, _, rfl, hs⟩ | ⟨ha', _⟩
        · refine ⟨Nat.le_of_eq hr.symm, m, m', ?_, ?_, hs⟩ <;> simp [hr]
        · rw [ha] at ha'; cases ha'
    | succ j =>
      simp only [List.getElem?_cons_succ] at hj
      obtain ⟨u, tmi, h1, h0, h2, h3, h4, h5⟩ := h.says j y hj
      refine ⟨u, tmi, by simpa using h1, fun t ht => ?_, fun t ht => h2 t fun j' z hj' hz => ht (j' + 1) z (Nat.succ_le_succ hj') (by simpa using hz), fun d hd hno => h3 d hd fun j' z hj' hz => hno (j' + 1) z (Nat.succ_lt_succ hj') (by simpa using hz), h4, fun ha => ?_⟩
      · rw [h0 t fun j' z hj' hz => ht (j' + 1) z (Nat.succ_lt_succ hj') (by simpa using hz), putE_get hb, if_neg (ht 0 x (Nat.succ_pos _) rfl)]
      obtain ⟨k1, mi, mi', k2, k3, k4⟩ := h5 ha
      rcases hk with ⟨_, hr, hk', rfl, hs⟩ | ⟨ha', hk', rfl, rfl⟩
      · subst hk'
        have e1 : y.2.2.rank - k = (y.2.2.rank - (k + 1)) + 1 := by omega
        exact ⟨by omega, mi, mi', by rw [e1, List.getElem?_cons_succ]; exact k2, by rw [e1, List.getElem?_cons_succ]; exact k3, k4⟩
      · subst hk'
        exact ⟨k1, mi, mi', k2, k3, k4⟩
  · rcases hk with ⟨ha, hr', hk', rfl, hs⟩ | ⟨ha', hk', rfl, rfl⟩
    · cases r with
      | zero => exact ⟨x, List.mem_cons_self .., ha, by omega⟩
      | succ r =>
        obtain ⟨y, h1, h2, h3⟩ := h.rank r (by simpa using hr)
        exact ⟨y, List.mem_cons_of_mem _ h1, h2, by omega⟩
    · obtain ⟨y, h1, h2, h3⟩ := h.rank r hr
      exact ⟨y, List.mem_cons_of_mem _ h1, h2, by omega⟩
  · have low : ∀ (i : Nat) (u : Nat × Oper × Plan), R[i]? = some u → u.2.2.act = true → k' ≤ u.2.2.rank := fun i u hu hau => by
      obtain ⟨v, tmi, _, _, _, _, _, h5⟩ := h.says i u hu
      exact (h5 hau).1
    have hk' : x.2.2.act = true → x.2.2.rank + 1 = k' := fun ha => by
      rcases hk with ⟨_, h1, h2, _⟩ | ⟨ha', _⟩
      · omega
      · rw [ha] at ha'; cases ha'
    cases j with
    | zero =>
      cases j' with
      | zero => rfl
      | succ j' =>
        simp only [List.getElem?_cons_zero, List.getElem?_cons_succ, Option.some.injEq] at hy hz
        subst hy
        have := low j' z hz haz
        have := hk' hay
        omega
    | succ j =>
      cases j' with
      | zero =>
        simp only [List.getElem?_cons_zero, List.getElem?_cons_succ, Option.some.injEq] at hy hz
        subst hz
        have := low j y hy hay
        have := hk' haz
        omega
      | succ j' => rw [h.inj j j' y z (by simpa using hy) (by simpa using hz) hay haz hr]
  · cases j with
    | zero =>
      simp only [List.getElem?_cons_zero, Option.some.injEq] at hy
      subst hy
      obtain ⟨f, k1, k2⟩ := hfr hfy
      exact ⟨f, tm, k1, by simp [k2]⟩
    | succ j =>
      obtain ⟨f, tmi, k1, k2⟩ := h.free j y (by simpa using hy) hfy
      exact ⟨f, tmi, k1, by simpa using k2⟩
theorem drRun_ok {call rnd : Call2} {fl : List Fr} : ∀ (R : PL) (k : Nat) (tm : T Value) (m : Mem) (vs : List (Value × T Value)) (ms : List Mem) (tmF : T Value), (∀ x ∈ R, ∀ d, x.2.1.dst = some d → d < 1073741824) → (∀ x ∈ R, isFree x.2.1 = true → x.2.2.act = false) →
    drRun call rnd P ops fl R k tm m = .ok (vs, ms, tmF) → RunOK call rnd P ops fl R k tm m vs ms tmF := by
  intro R
  induction R with
  | nil =>
    intro k tm m vs ms tmF _ _ he
    simp only [drRun, Tr.ok.injEq, Prod.mk.injEq] at he
    obtain ⟨rfl, rfl, rfl⟩ := he
    exact ⟨fun _ _ => rfl, fun j x hx => by simp at hx, fun r hr => by simp at hr, fun j j' x y hx => by simp at hx, fun j x hx => by simp at hx⟩
  | cons x R ih =>
    intro k tm m vs ms tmF hb hfa he
    obtain ⟨i, o, p⟩ := x
    have hb0 := hb _ (List.mem_cons_self ..)
    have hb' := fun x hx => hb x (List.mem_cons_of_mem (i, o, p) hx)
    have hfa0 := hfa _ (List.mem_cons_self ..)
    have hfa' := fun x hx => hfa x (List.mem_cons_of_mem (i, o, p) hx)
    simp only [drRun] at he
    split at he
    · rename_i hfree
      split at he
      · rename_i f hfo
        split at he
        · rename_i vs' ms' tm' hd
          simp only [Tr.ok.injEq, Prod.mk.injEq] at he
          obtain ⟨rfl, rfl, rfl⟩ := he
          refine RunOK.cons hb0 (ih _ _ _ _ _ _ hb' hfa' hd) (.inr ⟨hfa0 hfree, rfl, rfl, rfl⟩) (fun h => ?_) fun _ => ⟨f, hfo, rfl⟩
          have := (isFree_spec hfree).2.2.2
          simp [Region.wanted, this] at h
        · cases he
      · cases he
    rename_i hfree
    have hnf : ∀ v : Value, isFree o = true → ∃ f, frOf i fl = some f ∧ v = f.2.1 := fun v h => absurd h hfree
    split at he
    · rename_i hw
      split at he
      · rename_i ha
        split at he
        · rename_i hr
          split at he
          · rename_i v m' hs
            split at he
            · rename_i vs' ms' tm' hd
              simp only [Tr.ok.injEq, Prod.mk.injEq] at he
              obtain ⟨rfl, rfl, rfl⟩ := he
              exact RunOK.cons hb0 (ih _ _ _ _ _ _ hb' hfa' hd) (.inl ⟨ha, Nat.eq_of_beq_eq_true hr, rfl, rfl, .inl ⟨hw, hs⟩⟩) (fun h => by rw [hw] at h; cases h) (hnf _)
            · cases he
          · cases he
          · cases he
        · cases he
      · rename_i ha
        split at he
        · rename_i v m' hs
          split at he
          · rename_i vs' ms' tm' hd
            simp only [Tr.ok.injEq, Prod.mk.injEq] at he
            obtain ⟨rfl, rfl, rfl⟩ := he
            exact RunOK.cons hb0 (ih _ _ _ _ _ _ hb' hfa' hd) (.inr ⟨by simpa using ha, rfl, rfl, rfl⟩) (fun h => by rw [hw] at h; cases h) (hnf _)
          · cases he
        · cases he
    · rename_i hw
      have hw' : Region.wanted o (yieldedE ops tm) = false := by simpa using hw
      split at he
      · rename_i ha
        split at he
        · rename_i hr
          split at he
          · rename_i vs' ms' tm' hd
            simp only [Tr.ok.injEq, Prod.mk.injEq] at he
            obtain ⟨rfl, rfl, rfl⟩ := he
            exact RunOK.cons hb0 (ih _ _ _ _ _ _ hb' hfa' hd) (.inl ⟨ha, Nat.eq_of_beq_eq_true hr, rfl, rfl, .inr ⟨hw', rfl⟩⟩) (fun _ => rfl) (hnf _)
          · cases he
        · cases he
      · rename_i ha
        split at he
        · rename_i vs' ms' tm' hd
          simp only [Tr.ok.injEq, Prod.mk.injEq] at he
          obtain ⟨rfl, rfl, rfl⟩ := he
          exact RunOK.cons hb0 (ih _ _ _ _ _ _ hb' hfa' hd) (.inr ⟨by simpa using ha, rfl, rfl, rfl⟩) (fun _ => rfl) (hnf _)
        · cases he
theorem okAt_get {tm : T Value} {o : Oper} {v : Value} : ∀ (l : List Mem), okAt P tm o v l = true → ∀ m ∈ l, ∃ m', exOp P m tm o = some (v, m') := by
  intro l
  induction l with
  | nil => intro _ m hm; cases hm
  | cons a r ih =>
    intro h m hm
    simp only [okAt, Bool.and_eq_true] at h
    rcases List.mem_cons.1 hm with rfl | hm
    · have h1 := h.1
      split at h1
      · rename_i u m' hx
        exact ⟨m', by rw [hx, veq_eq u v h1]⟩
      · cases h1
    · exact ih h.2 m hm
theorem drChk_get {fl : List Fr} {ms : List Mem} : ∀ (R : PL) (vs : List (Value × T Value)), drChk P ops fl ms R vs = true → ∀ (j : Nat) (x : Nat × Oper × Plan) (v : Value) (tm : T Value), R[j]? = some x → vs[j]? = some (v, tm) → isFree x.2.1 = false → x.2.2.act = false →
    Region.wanted x.2.1 (yieldedE ops tm) = true → ∀ q m, x.2.2.lo ≤ q → q ≤ x.2.2.hi → ms[q]? = some m → ∃ m', exOp P m tm x.2.1 = some (v, m') := by
  intro R
  induction R with
  | nil => intro vs _ j x v tm hx; simp at hx
  | cons y R ih =>
    intro vs h j x v tm hx hv hnf ha hw q m h1 h2 hm
    obtain ⟨i, o, p⟩ := y
    cases vs with
    | nil => simp at hv
    | cons u vs =>
      obtain ⟨u, tu⟩ := u
      simp only [drChk, Bool.and_eq_true] at h
      cases j with
      | zero =>
        simp only [List.getElem?_cons_zero, Option.some.injEq, Prod.mk.injEq] at hx hv
        obtain ⟨rfl, rfl⟩ := hv
        subst hx
        simp only at hnf
        have h0 := h.1
        rw [hnf] at h0
        simp only [Bool.false_eq_true, if_false, Bool.or_eq_true] at h0
        rcases h0 with (k | k) | k
        · rw [ha] at k; cases k
        · rw [hw] at k; cases k
        · refine okAt_get _ k m ?_
          rw [List.mem_iff_getElem?]
          refine ⟨q - p.lo, ?_⟩
          rw [List.getElem?_take_of_lt (by simp only at h1 h2; omega), List.getElem?_drop]
          simp only at h1
          rw [show p.lo + (q - p.lo) = q by omega]
          exact hm
      | succ j => exact ih vs h.2 j x v tm (by simpa using hx) (by simpa using hv) hnf ha hw q m h1 h2 hm
theorem drChk_free {fl : List Fr} {ms : List Mem} : ∀ (R : PL) (vs : List (Value × T Value)), drChk P ops fl ms R vs = true → ∀ (j : Nat) (x : Nat × Oper × Plan) (f : Fr), R[j]? = some x → isFree x.2.1 = true → frOf x.1 fl = some f →
    ∀ q m, q ≤ x.2.2.hi → ms[q]? = some m → holds f m = true := by
  intro R
  induction R with
  | nil => intro vs _ j x v hx; simp at hx
  | cons y R ih =>
    intro vs h j x f hx hf hfo q m h1 hm
    obtain ⟨i, o, p⟩ := y
    cases vs with
    | nil => simp [drChk] at h
    | cons u vs =>
      obtain ⟨u, tu⟩ := u
      simp only [drChk, Bool.and_eq_true] at h
      cases j with
      | zero =>
        simp only [List.getElem?_cons_zero, Option.some.injEq] at hx
        subst hx
        simp only at hf hfo h1
        have h0 := h.1
        rw [hf, hfo] at h0
        simp only [if_true] at h0
        refine List.all_eq_true.1 h0 m ?_
        rw [List.mem_iff_getElem?]
        exact ⟨q, by rw [List.getElem?_take_of_lt (by omega)]; exact hm⟩
      | succ j => exact ih vs h.2 j x f (by simpa using hx) hf hfo q m h1 hm
/-- What an operation looks at decides whether it is wanted, and its operands. -/
theorem wanted_congr {o : Oper} {tm tm' : T Value} (h : ∀ t ∈ o.looksAt ops, tm.get t = tm'.get t) : Region.wanted o (yieldedE ops tm) = Region.wanted o (yieldedE ops tm') := by
  unfold Region.wanted
  cases hg : o.guard with
  | none => rfl
  | some gw =>
    obtain ⟨g, want⟩ := gw
    have : yieldedE ops tm g = yieldedE ops tm' g := by
      unfold yieldedE
      cases ht : (ops[g]?).bind (·.dst) with
      | none => rfl
      | some t => simp only; rw [h t (by simp [Oper.looksAt, hg, ht])]
    simp only [this]
theorem operands_congr {o : Oper} {tm tm' : T Value} (h : ∀ t ∈ o.looksAt ops, tm.get t = tm'.get t) : ∀ x ∈ o.op.operands.toList, ev tm x = ev tm' x := by
  intro x hx
  cases x with
  | tmp t =>
    simp only [ev]
    rw [h t (List.mem_append_left _ (List.mem_filterMap.2 ⟨.tmp t, hx, rfl⟩))]
  | _ => rfl
end Go.Proofs.YtlkdjdcnbcegeaaGreatDoor.Ev
