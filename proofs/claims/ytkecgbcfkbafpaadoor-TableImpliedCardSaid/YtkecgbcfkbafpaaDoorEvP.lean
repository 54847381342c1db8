/-
  Our machine's code and calls.
-/
import Derived.Test.YtkecgbcfkbafpaaDoorEvO
namespace Go.Proofs.YtkecgbcfkbafpaaDoor.Ev
set_option linter.unusedSectionVars false
variable [Sig]
open Go.RowKit
set_option linter.unusedSimpArgs false

inductive Ex where
  | normal
  | exit (id : Nat)
  | ret

/-- A call of ours. -/
abbrev CallFn := FuncId → List Value → Mem → Option (Value × Mem)

/-- Whom a call calls: a function, with these arguments. -/
def exCallee (P : Program) (m : Mem) (tm : T Value) (c : Call) : Option (FuncId × List Value) :=
  match c.callee with
  | .value f => match ev tm f, evs tm c.args.toList with
    | some (.func (.func g) ⟨fst⟩ ⟨cap⟩), some l => some (g, fst ++ l ++ cap)
    | _, _ => none
  | .invoke r name => match ev tm r, evs tm c.args.toList with
    | some (.iface t v), some l => match P.info? t with
      | some info => match info.methods.find? (·.name == name) with
        | some mt => match mt.path.isEmpty, mt.func, P.underlying t with
          | true, some (g, true), some (.pointer _) => some (g, v :: l)
          | true, some (g, false), some (.pointer e) => match exLoad P m.H e v with
            | some u => some (g, u :: l)
            | none => none
          | true, some (g, false), some _ => some (g, v :: l)
          | _, _, _ => none
        | none => none
      | none => none
    | _, _ => none
  | .builtin _ => none
def isFuncCall : Op → Option Call
  | .call { callee := .builtin _, .. } => none
  | .call c => some c
  | _ => none
/-- One operation, calls of functions too. -/
def exStep (call : CallFn) (P : Program) (m : Mem) (tm : T Value) (o : Oper) : Option (Value × Mem) :=
  match isFuncCall o.op with
  | some c => match exCallee P m tm c with
    | some (g, l) => call g l m
    | none => none
  | none => exOp P m tm o
def yieldedE (ops : Array Oper) (tm : T Value) (j : Nat) : Option Bool :=
  match (ops[j]?).bind (·.dst) with
  | some t => match tm.get t with
    | some (.bool b) => some b
    | _ => none
  | none => none
def putE (tm : T Value) (dst : Option Tmp) (v : Value) : T Value :=
  match dst with
  | some d => tm.set d v
  | none => tm
/-- Operations one after another. -/
def evOps (call : CallFn) (P : Program) (ops : Array Oper) : List Oper → T Value → Mem → Option (T Value × Mem)
  | [], tm, m => some (tm, m)
  | o :: r, tm, m =>
    if Region.wanted o (yieldedE ops tm) then
      match exStep call P m tm o with
      | some (v, m') => evOps call P ops r (putE tm o.dst v) m'
      | none => none
    else evOps call P ops r (putE tm o.dst Go.undef) m
def evCode (call : CallFn) (P : Program) : Nat → Code → T Value → Mem → Option (Ex × T Value × Mem)
  | 0, _, _, _ => none
  | _ + 1, .skip, tm, m => some (.normal, tm, m)
  | _ + 1, .label _, tm, m => some (.normal, tm, m)
  | _ + 1, .exit id, tm, m => some (.exit id, tm, m)
  | _ + 1, .ret, tm, m => some (.ret, tm, m)
  | _ + 1, .region _ ops _, tm, m => match evOps call P ops ops.toList tm m with
    | some (tm', m') => some (.normal, tm', m')
    | none => none
  | n + 1, .seq a b, tm, m => match evCode call P n a tm m with
    | some (.normal, tm', m') => evCode call P n b tm' m'
    | r => r
  | n + 1, .cond c a b, tm, m => match ev tm c with
    | some (.bool true) => evCode call P n a tm m
    | some (.bool false) => evCode call P n b tm m
    | _ => none
  | n + 1, .block id b, tm, m => match evCode call P n b tm m with
    | some (.exit i, tm', m') => if i = id then some (.normal, tm', m') else some (.exit i, tm', m')
    | r => r
  | n + 1, .loop b, tm, m => match evCode call P n b tm m with
    | some (.normal, tm', m') => evCode call P n (.loop b) tm' m'
    | r => r
  | _ + 1, _, _, _ => none
def evResult (P : Program) (m : Mem) (tm : T Value) : List ResultVar → Option (List Value)
  | [] => some []
  | .tmp t :: r => match evResult P m tm r with
    | some l => some ((tm.get t).getD Go.undef :: l)
    | none => none
  | .cell a t :: r => match exLoad P m.H t ((tm.get a).getD Go.undef), evResult P m tm r with
    | some v, some l => some (v :: l)
    | _, _ => none
def evCall (P : Program) (steps : Nat) : Nat → CallFn
  | 0, _, _, _ => none
  | n + 1, f, l, m => match P.funcs[f]? with
    | some fn => match fn.body with
      | some c => match evCode (evCall P steps n) P steps c (T.leaf.fill 0 l) m with
        | some (.exit _, _, _) => none
        | some (_, tm, m') => match evResult P m' tm fn.results.toList with
          | some [v] => some (v, m')
          | some vs => some (.tuple vs.toArray, m')
          | none => none
        | none => none
      | none => none
    | none => none
end Go.Proofs.YtkecgbcfkbafpaaDoor.Ev
