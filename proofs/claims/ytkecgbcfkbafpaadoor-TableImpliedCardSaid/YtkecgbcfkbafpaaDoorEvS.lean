/-
  Our machine's code and calls: with deferred calls, panics, recovering.
-/
import Derived.Orders
import Derived.Test.YtkecgbcfkbafpaaDoorEvR
namespace Go.Proofs.YtkecgbcfkbafpaaDoor.Ev
set_option linter.unusedSectionVars false
variable [Sig]
open Go.RowKit
set_option linter.unusedSimpArgs false

/-- What comes of a run of ours, or where it sticks. -/
inductive Tr (α : Type) where
  | ok (a : α)
  | bad (l : List Nat)
/-- How a call of ours ends. -/
inductive Out where
  | ret (v : Value)
  | pan (v : Value)
/-- How a piece of code ends. -/
inductive Ex2 where
  | normal
  | exit (id : Nat)
  | ret
  | pan (v : Value)
/-- A deferred call; or the mark of a range over a function. -/
inductive Df where
  | fn (f : FuncId) (l : List Value)
  | mark (D : Nat)
structure St where
  tm : T Value
  df : List Df
  m : Mem
abbrev Call2 := FuncId → List Value → Mem → Tr (Out × Mem)
inductive Did where
  | val (v : Value) (m : Mem)
  | pan (v : Value) (m : Mem)
  | later (d : Df)
/-- What a deferred call will call. -/
def exLater (P : Program) (m : Mem) (tm : T Value) (c : Call) : Option Df :=
  match c.callee with
  | .value _ => match exCallee P m tm c with
    | some (g, l) => match P.funcs[g]? with
      | some fn => if fn.body.isSome then some (.fn g l) else none
      | none => none
    | none => none
  | _ => none
/-! ### values whose addresses are package variables' -/
mutual
def gclean : Value → Bool
  | .bool _ | .int _ _ | .string _ | .pointer none | .slice none _ _ | .map none | .nilFunc | .nilIface => true
  | .func (.func _) ⟨y⟩ ⟨x⟩ => y.isEmpty && gcleanL x
  | .iface _ v => gclean v
  | .agg ⟨x⟩ | .tuple ⟨x⟩ => gcleanL x
  | .pointer (some ⟨g, _, none⟩) => Nat.blt g 48
  | _ => false
def gcleanL : List Value → Bool
  | [] => true
  | v :: x => gclean v && gcleanL x
end
mutual
theorem VR.of_g {E : Env} (hg : ∀ g, g < 48 → E.blk g = some g) : ∀ (v : Value), gclean v = true → VR E v v
  | .bool b, _ => .bool b
  | .int k n, _ => .int k n
  | .string s, _ => .string s
  | .pointer none, _ => .ptr0
  | .slice none n c, _ => .slice0 n c
  | .map none, _ => .map0
  | .nilFunc, _ => .nilFunc
  | .nilIface, _ => .nilIface
  | .func (.func f) ⟨[]⟩ ⟨x⟩, h => .func f .nil (VRL.of_g hg x (by simpa [gclean] using h))
  | .func (.func f) ⟨u :: y⟩ ⟨x⟩, h => by simp [gclean] at h
  | .float _ _, h => by simp [gclean] at h
  | .complex _ _ _, h => by simp [gclean] at h
  | .pointer (some ⟨g, o, none⟩), h => .ptr o (hg g (by simpa [gclean] using h))
  | .pointer (some ⟨g, o, some _⟩), h => by simp [gclean] at h
  | .slice (some _) _ _, h => by simp [gclean] at h
  | .map (some _), h => by simp [gclean] at h
  | .chan _, h => by simp [gclean] at h
  | .func (.method _) _ _, h => by simp [gclean] at h
  | .func (.methodOf _ _) _ _, h => by simp [gclean] at h
  | .func (.via _ _ _ _) _ _, h => by simp [gclean] at h
  | .func (.yield _) _ _, h => by simp [gclean] at h
  | .iface t v, h => .iface t (VR.of_g hg v (by simpa [gclean] using h))
  | .agg ⟨x⟩, h => .agg (VRL.of_g hg x (by simpa [gclean] using h))
  | .tuple ⟨x⟩, h => .tuple (VRL.of_g hg x (by simpa [gclean] using h))
theorem VRL.of_g {E : Env} (hg : ∀ g, g < 48 → E.blk g = some g) : ∀ (x : List Value), gcleanL x = true → VRL E x x
  | [], _ => .nil
  | v :: x, h => by
    simp only [gcleanL, Bool.and_eq_true] at h
    exact .cons (VR.of_g hg v h.1) (VRL.of_g hg x h.2)
end
mutual
theorem VR.eq_of_g {E : Env} (hg : ∀ g, g < 48 → E.blk g = some g) : ∀ {v v' : Value}, VR E v v' → gclean v = true → v' = v
  | _, _, .bool _, _ => rfl
  | _, _, .int _ _, _ => rfl
  | _, _, .string _, _ => rfl
  | _, _, .ptr0, _ => rfl
  | _, _, .ptr o hb, h => by
    rw [hg _ (by simpa [gclean] using h)] at hb
    injection hb with hb
    rw [hb]
  | _, _, .slice0 _ _, _ => rfl
  | _, _, .slicex _ _ _, h => by simp [gclean] at h
  | _, _, .map0, _ => rfl
  | _, _, .func f .nil hl, h => by rw [VRL.eq_of_g hg hl (by simpa [gclean] using h)]
  | _, _, .func f (.cons _ _) hl, h => by simp [gclean] at h
  | _, _, .yield _, h => by simp [gclean] at h
  | _, _, .sym _, h => by simp [gclean] at h
  | _, _, .low _ _, h => by simp [gclean] at h
  | _, _, .nilFunc, _ => rfl
  | _, _, .iface t hv, h => by rw [VR.eq_of_g hg hv (by simpa [gclean] using h)]
  | _, _, .nilIface, _ => rfl
  | _, _, .opq _ _, h => by simp [gclean] at h
  | _, _, .agg hl, h => by rw [VRL.eq_of_g hg hl (by simpa [gclean] using h)]
  | _, _, .tuple hl, h => by rw [VRL.eq_of_g hg hl (by simpa [gclean] using h)]
theorem VRL.eq_of_g {E : Env} (hg : ∀ g, g < 48 → E.blk g = some g) : ∀ {x x' : List Value}, VRL E x x' → gcleanL x = true → x' = x
  | _, _, .nil, _ => rfl
  | _, _, .cons hv hl, h => by
    simp only [gcleanL, Bool.and_eq_true] at h
    rw [VR.eq_of_g hg hv h.1, VRL.eq_of_g hg hl h.2]
end
/-- What a computation that looks at no memory comes to: such a value. -/
def gQ (P : Program) (s : Sem Value) : Option Value :=
  match valQ P s with
  | some v => if gclean v then some v else none
  | none => none
theorem gQ_run {P : Program} {w : World} {E : Env} (hg : ∀ g, g < 48 → E.blk g = some g) {s : Sem Value} {v : Value} (he : gQ P s = some v) : s.run P w = .ok v w ∧ VR E v v := by
  unfold gQ at he
  cases hq : valQ P s with
  | none => rw [hq] at he; cases he
  | some u =>
    rw [hq] at he
    simp only at he
    split at he
    · injection he with he; subst he; exact ⟨valQ_run w _ _ hq, VR.of_g hg _ (by assumption)⟩
    · cases he
/-- Is a function without a body 'slices.overlaps', at whatever type? -/
def isOverlaps (fn : Func) : Bool :=
  decide (fn.origin = "slices.overlaps") && (Extern.allGenericRows.lookup fn.name).isNone && (Extern.allTypedRows.lookup fn.name).isNone && (Extern.allRows.lookup fn.name).isNone
/-- Two rows, one beside the other: they don't overlap. -/
def exOverlaps (P : Program) (m : Mem) (fn : Func) (i j : Nat) : Bool :=
  match fn.params, fn.resultTypes with
  | ⟨[t, t']⟩, ⟨[_]⟩ => Nat.beq t t' && (match P.underlying t with
    | some (.slice e) => (P.info? e).isSome
    | _ => false) && !Nat.beq i j && Nat.ble 64 i && Nat.ble 64 j && (match m.H.get i, m.H.get j with
    | some (.cells _ _ ei _), some (.cells _ nj ej _) => !Nat.beq (P.cellsOf ei) 1 && !Nat.beq (P.cellsOf ej) 1 && Nat.ble 1 nj
    | _, _ => false) && isOverlaps fn
  | _, _ => false
/-- Calls of three functions without a body. -/
def exExtM (P : Program) (m : Mem) (fn : Func) (l : List Value) : Option (Value × Mem) :=
  match l with
  | [.pointer a] => if fn.name = "internal/abi.NoEscape" then some (.pointer a, m) else none
  | [.slice (some ⟨i, _, none⟩) _ _, .slice (some ⟨j, _, none⟩) _ _] => if exOverlaps P m fn i j then some (.bool false, m) else none
  | [.iface t _] => if fn.name = "internal/reflectlite.TypeOf" then same m (gQ P (Extern.ReflectliteType.typeOf #[.iface t .nilIface])) else none
  | [.int .i64 (.ofNat n)] => if fn.name = "internal/bytealg.MakeNoZero" then
      match fn.resultTypes with
      | ⟨[t]⟩ => match P.underlying t with
        | some (.slice e) => if m.next < 1073741824 ∧ n ≤ 281474976710656 ∧ P.cellsOf e = 1 then some (.slice (some ⟨m.next, 0, none⟩) n n, rowMem m e .leaf n) else none
        | _ => none
      | _ => none
    else none
  | _ => none
/-- A call of a function without a body. -/
def exExt (P : Program) (m : Mem) (g : FuncId) (l : List Value) : Option (Value × Mem) :=
  match P.funcs[g]? with
  | some fn => if fn.body.isNone then
      match Extern.findNext fn with
      | none => match exExtM P m fn l with
        | some r => some r
        | none => if gcleanL l then
            match Extern.find fn with
            | some e => same m (gQ P (e l.toArray))
            | none => none
          else none
      | some _ => none
    else none
  | none => none
/-- One operation. -/
def exStep2 (call : Call2) (P : Program) (m : Mem) (tm : T Value) (o : Oper) : Tr Did :=
  match o.op with
  | .defer c => match exLater P m tm c with
    | some d => .ok (.later d)
    | none => .bad [1001]
  | .panic x => match ev tm x with
    | some (.iface t v) => .ok (.pan (.iface t v) m)
    | _ => .bad [1002]
  | _ => match isFuncCall o.op with
    | some c => match exCallee P m tm c with
      | some (g, l) => match exExt P m g l with
        | some (v, m') => .ok (.val v m')
        | none => match call g l m with
          | .ok (.ret v, m') => .ok (.val v m')
          | .ok (.pan v, m') => .ok (.pan v m')
          | .bad l => .bad l
      | none => .bad [1000]
    | none => match exOp P m tm o with
      | some (v, m') => .ok (.val v m')
      | none => .bad [2000]

/-- A call of a loop's yield. -/
def exYield (tm : T Value) (c : Call) : Option (Nat × List Value) :=
  match c.callee with
  | .value x => match ev tm x with
    | some (.func (.yield L) ⟨[]⟩ ⟨[]⟩) => match evs tm c.args.toList with
      | some l => some (L, l)
      | none => none
    | _ => none
  | _ => none
/-- One operation, yields too. -/
def exStep3 (call rnd : Call2) (P : Program) (m : Mem) (tm : T Value) (o : Oper) : Tr Did :=
  match isFuncCall o.op with
  | some c => match exYield tm c with
    | some (L, l) => match rnd L l m with
      | .ok (.ret v, m') => .ok (.val v m')
      | .ok _ => .bad [1004]
      | .bad l => .bad l
    | none => exStep2 call P m tm o
  | none => exStep2 call P m tm o

/-! ### regions whose order is drawn -/
/-- Does an operation leave memory as it is? -/
def still (P : Program) : Op → Bool
  | .convert _ dst _ => match P.underlying dst with
    | some (.slice _) => false
    | _ => true
  | .move _ | .assign _ | .pick .. | .build .. | .load .. | .nilCheck _ | .binOp .. | .unOp .. | .makeInterface .. | .makeFunc .. | .slice .. | .fieldAddr .. | .field .. | .indexAddr .. | .index .. | .lookup .. | .typeAssert .. | .extract .. => true
  | .call { callee := .builtin .len, .. } | .call { callee := .builtin .cap, .. } => true
  | _ => false
/-- Does an operation do nothing but lay a new block, whatever comes about? -/
def isAlloc : Op → Bool
  | .alloc _ | .buildSlice .. => true
  | _ => false
def isConst : Operand → Bool
  | .const _ => true
  | _ => false
def isFree (o : Oper) : Bool := isAlloc o.op && o.op.operands.toList.all isConst && o.guard.isNone && o.after.toList.all fun e => !Region.binds .any e
/-- Does an operation leave memory as it is, but for a block laid beforehand? -/
def calm (P : Program) (o : Oper) : Bool := still P o.op || isFree o
structure Plan where
  act : Bool
  rank : Nat
  lo : Nat
  hi : Nat
abbrev PL := List (Nat × Oper × Plan)
/-- Does the first wait for the second, with none between? -/
def waits (o : Oper) (j : Nat) : Bool := o.after.toList.any fun e => Region.binds .any e && Nat.beq e.on j
def fwd (P : Program) : Nat → Nat → List Oper → PL → PL
  | _, _, [], acc => acc
  | i, k, o :: r, acc =>
    let lo := acc.foldl (fun m y => if waits o y.1 then Nat.max m (if y.2.2.act then y.2.2.rank + 1 else y.2.2.lo) else m) 0
    let act := !calm P o
    fwd P (i + 1) (if act then k + 1 else k) r ((i, o, ⟨act, k, lo, 0⟩) :: acc)
def bwd (n : Nat) : PL → PL → PL
  | [], acc => acc
  | (i, o, p) :: r, acc =>
    let hi := acc.foldl (fun m y => if waits y.2.1 i then Nat.min m (if y.2.2.act then y.2.2.rank else y.2.2.hi) else m) n
    bwd n r ((i, o, ⟨p.act, p.rank, p.lo, hi⟩) :: acc)
def looksE (ops : Array Oper) (o : Oper) (d : Nat) : Bool := (o.looksAt ops).any (Nat.beq d)
/-- Two operations of a region, one beside the other. -/
def pairOk (ops : Array Oper) (x y : Nat × Oper × Plan) : Bool :=
  (match y.2.1.dst with
   | some d => (!looksE ops x.2.1 d || waits x.2.1 y.1 || waits y.2.1 x.1) && (Nat.beq x.1 y.1 || match x.2.1.dst with
      | some d' => !Nat.beq d d'
      | none => true)
   | none => true)
/-- Does an operation come behind so many that may turn memory? -/
def behind (L : PL) (o : Oper) (k : Nat) : Bool :=
  Nat.beq k 0 || L.any fun y => waits o y.1 && (if y.2.2.act then Nat.ble k (y.2.2.rank + 1) else Nat.ble k y.2.2.lo)
def oneOk (P : Program) (nt n : Nat) (L : PL) (x : Nat × Oper × Plan) : Bool :=
  (match x.2.1.dst with
   | some d => Nat.blt d nt
   | none => true) &&
  x.2.1.after.toList.all (fun e => !Region.binds .any e || Nat.blt e.on x.1) &&
  (x.2.2.act == !calm P x.2.1) &&
  (if x.2.2.act then behind L x.2.1 x.2.2.rank else (behind L x.2.1 x.2.2.lo &&
    (Nat.ble n x.2.2.hi || L.any fun y => waits y.2.1 x.1 && (if y.2.2.act then Nat.ble y.2.2.rank x.2.2.hi else Nat.ble y.2.2.hi x.2.2.hi))))
def actives (L : PL) : Nat := L.foldl (fun n x => if x.2.2.act then n + 1 else n) 0
def drPlan (P : Program) (nt : Nat) (ops : Array Oper) : Option (Nat × PL) :=
  let F := fwd P 0 0 ops.toList []
  let n := actives F
  let L := bwd n F []
  if L.all (fun x => oneOk P nt n L x && L.all (pairOk ops x)) then some (n, L) else none
mutual
def veq : Value → Value → Bool
  | .bool a, .bool b => a == b
  | .int k a, .int k' b => decide (k = k') && decide (a = b)
  | .string s, .string t => decide (s = t)
  | .pointer a, .pointer b => decide (a = b)
  | .slice a n c, .slice b n' c' => decide (a = b) && Nat.beq n n' && Nat.beq c c'
  | .map a, .map b => decide (a = b)
  | .chan a, .chan b => decide (a = b)
  | .func (.func f) ⟨x⟩ ⟨y⟩, .func (.func f') ⟨x'⟩ ⟨y'⟩ => Nat.beq f f' && veqL x x' && veqL y y'
  | .nilFunc, .nilFunc => true
  | .iface t v, .iface t' v' => Nat.beq t t' && veq v v'
  | .nilIface, .nilIface => true
  | .float .f32 a, .float .f32 b => Nat.beq a b
  | .agg ⟨x⟩, .agg ⟨x'⟩ => veqL x x'
  | .tuple ⟨x⟩, .tuple ⟨x'⟩ => veqL x x'
  | _, _ => false
def veqL : List Value → List Value → Bool
  | [], [] => true
  | v :: x, v' :: x' => veq v v' && veqL x x'
  | _, _ => false
end
/-- A block that is laid beforehand: whose operation's, what that yields, its number, what lies there. -/
abbrev Fr := Nat × Value × Nat × AObj
/-- The cells of a row, all of them without any address. -/
def cleanT (cs : T Value) : Nat → Bool
  | 0 => true
  | n + 1 => (match cs.get n with
    | some v => clean v
    | none => true) && cleanT cs n
/-- What an operation that does nothing but lay a block lays and yields, its block's number given. -/
def freeOut (P : Program) (o : Oper) (n : Nat) : Option (Value × AObj) :=
  match exOp P ⟨.leaf, 64, 0⟩ .leaf o with
  | some (v, m') => match m'.H.get 64 with
    | some (.cells cs k e false) => if cleanT cs k then match v with
      | .pointer (some ⟨64, 0, none⟩) => some (.pointer (some ⟨n, 0, none⟩), .cells cs k e false)
      | .slice (some ⟨64, 0, none⟩) l c => some (.slice (some ⟨n, 0, none⟩) l c, .cells cs k e false)
      | _ => none else none
    | _ => none
  | none => none
def layFree (P : Program) : PL → Mem → Option (List Fr × Mem)
  | [], m => some ([], m)
  | (i, o, _) :: r, m => if isFree o then match freeOut P o m.next with
      | some (v, ob) => if Nat.blt m.next 1073741824 then match layFree P r { m with H := m.H.set m.next ob, next := m.next + 1 } with
          | some (l, m') => some ((i, v, m.next, ob) :: l, m')
          | none => none else none
      | none => none
    else layFree P r m
def frOf (i : Nat) : List Fr → Option Fr
  | [] => none
  | x :: r => if Nat.beq x.1 i then some x else frOf i r
def teq : T Value → T Value → Bool
  | .leaf, .leaf => true
  | .node a v b, .node a' v' b' => (match v, v' with
    | none, none => true
    | some v, some v' => veq v v'
    | _, _ => false) && teq a a' && teq b b'
  | _, _ => false
/-- Does a block hold what it held? -/
def holds (x : Fr) (m : Mem) : Bool :=
  match x.2.2.2, m.H.get x.2.2.1 with
  | .cells cs n e g, some (.cells cs' n' e' g') => teq cs cs' && Nat.beq n n' && Nat.beq e e' && (g == g')
  | _, _ => false
/-- A region's operations in the text's order: what each yields, and memory after each that may turn it. -/
def drRun (call rnd : Call2) (P : Program) (ops : Array Oper) (fl : List Fr) : PL → Nat → T Value → Mem → Tr (List (Value × T Value) × List Mem × T Value)
  | [], _, tm, _ => .ok ([], [], tm)
  | (i, o, p) :: r, k, tm, m =>
    if isFree o then match frOf i fl with
      | some x => match drRun call rnd P ops fl r k (putE tm o.dst x.2.1) m with
        | .ok (vs, ms, tm') => .ok ((x.2.1, tm) :: vs, ms, tm')
        | .bad l => .bad l
      | none => .bad [3005]
    else if Region.wanted o (yieldedE ops tm) then
      if p.act then
        if Nat.beq p.rank k then
          match exStep3 call rnd P m tm o with
          | .ok (.val v m') => match drRun call rnd P ops fl r (k + 1) (putE tm o.dst v) m' with
            | .ok (vs, ms, tm') => .ok ((v, tm) :: vs, m' :: ms, tm')
            | .bad l => .bad l
          | .ok _ => .bad [r.length, 7777]
          | .bad l => .bad (r.length :: l)
        else .bad [3001]
      else match exOp P m tm o with
        | some (v, _) => match drRun call rnd P ops fl r k (putE tm o.dst v) m with
          | .ok (vs, ms, tm') => .ok ((v, tm) :: vs, ms, tm')
          | .bad l => .bad l
        | none => .bad [r.length, 2000]
    else if p.act then
      if Nat.beq p.rank k then
        match drRun call rnd P ops fl r (k + 1) (putE tm o.dst Go.undef) m with
        | .ok (vs, ms, tm') => .ok ((Go.undef, tm) :: vs, m :: ms, tm')
        | .bad l => .bad l
      else .bad [3001]
    else match drRun call rnd P ops fl r k (putE tm o.dst Go.undef) m with
      | .ok (vs, ms, tm') => .ok ((Go.undef, tm) :: vs, ms, tm')
      | .bad l => .bad l
def okAt (P : Program) (tm : T Value) (o : Oper) (v : Value) : List Mem → Bool
  | [] => true
  | m :: r => (match exOp P m tm o with
    | some (u, _) => veq u v
    | none => false) && okAt P tm o v r
/-- Whatever leaves memory as it is yields the same at each place where it may be. -/
def drChk (P : Program) (ops : Array Oper) (fl : List Fr) (ms : List Mem) : PL → List (Value × T Value) → Bool
  | [], [] => true
  | (i, o, p) :: r, (v, tm) :: vs =>
    (if isFree o then match frOf i fl with
      | some x => (ms.take (p.hi + 1)).all (holds x)
      | none => false
    else p.act || !Region.wanted o (yieldedE ops tm) || okAt P tm o v ((ms.drop p.lo).take (p.hi + 1 - p.lo))) && drChk P ops fl ms r vs
  | _, _ => false
def lastMem : Mem → List Mem → Mem
  | m, [] => m
  | _, m :: r => lastMem m r
def evDrawn (call rnd : Call2) (P : Program) (nt : Nat) (ops : Array Oper) (s : St) : Tr St :=
  match drPlan P nt ops with
  | some (n, L) => match layFree P L s.m with
    | some (fl, m0) => match drRun call rnd P ops fl L 0 s.tm m0 with
      | .ok (vs, ms, tm) => if Nat.beq ms.length n && drChk P ops fl (m0 :: ms) L vs then .ok ⟨tm, s.df, lastMem m0 ms⟩ else .bad [3002]
      | .bad l => .bad l
    | none => .bad [3006]
  | none => .bad [3003]
def dstOk (nt : Nat) (o : Oper) : Bool :=
  match o.dst with
  | some d => Nat.blt d nt
  | none => true

/-- Operations one after another. -/
def evOps2 (rd : Bool) (call rnd : Call2) (P : Program) (nt : Nat) (ops : Array Oper) : List Oper → St → Tr (Option Value × St)
  | [], s => .ok (none, s)
  | o :: r, s =>
    if !dstOk nt o then .bad [3004]
    else if Region.wanted o (yieldedE ops s.tm) then
      match exStep3 call rnd P s.m s.tm o with
      | .ok (.val v m') => evOps2 rd call rnd P nt ops r ⟨putE s.tm o.dst v, s.df, m'⟩
      | .ok (.pan v m') => .ok (some v, ⟨s.tm, s.df, m'⟩)
      | .ok (.later d) => if rd then .bad [1003] else evOps2 rd call rnd P nt ops r ⟨putE s.tm o.dst Go.undef, d :: s.df, s.m⟩
      | .bad l => .bad (r.length :: l)
    else evOps2 rd call rnd P nt ops r ⟨putE s.tm o.dst Go.undef, s.df, s.m⟩
/-- At most 2^k rounds of a loop; 'none': it goes on. -/
def evLoop (f : St → Tr (Ex2 × St)) : Nat → St → Tr (Option Ex2 × St)
  | 0, s => match f s with
    | .ok (.normal, s') => match s'.df with
      | [] => .ok (none, ⟨s'.tm, [], s'.m⟩)
      | d :: r => .ok (none, ⟨s'.tm, d :: r, s'.m⟩)
    | .ok (e, s') => .ok (some e, s')
    | .bad l => .bad l
  | k + 1, s => match evLoop f k s with
    | .ok (none, s') => evLoop f k s'
    | r => r
def isBusy : LoopState → Bool
  | .busy => true
  | _ => false
def evCode2 (rd : Bool) (call rnd : Call2) (P : Program) (nt : Nat) : Nat → Code → St → Tr (Ex2 × St)
  | 0, _, _ => .bad [1]
  | _ + 1, .skip, s => .ok (.normal, s)
  | _ + 1, .label _, s => .ok (.normal, s)
  | _ + 1, .exit id, s => .ok (.exit id, s)
  | _ + 1, .ret, s => .ok (.ret, s)
  | _ + 1, .region id ops false, s => match evOps2 rd call rnd P nt ops ops.toList s with
    | .ok (none, s') => .ok (.normal, s')
    | .ok (some v, s') => .ok (.pan v, s')
    | .bad l => .bad (id :: l)
  | _ + 1, .region id ops true, s => match evDrawn call rnd P nt ops s with
    | .ok s' => .ok (.normal, s')
    | .bad l => .bad (id :: l)
  | n + 1, .seq a b, s => match evCode2 rd call rnd P nt n a s with
    | .ok (.normal, s') => evCode2 rd call rnd P nt n b s'
    | r => r
  | n + 1, .cond c a b, s => match ev s.tm c with
    | some (.bool true) => evCode2 rd call rnd P nt n a s
    | some (.bool false) => evCode2 rd call rnd P nt n b s
    | _ => .bad [3]
  | n + 1, .block id b, s => match evCode2 rd call rnd P nt n b s with
    | .ok (.exit i, s') => if i = id then .ok (.normal, s') else .ok (.exit i, s')
    | r => r
  | n + 1, .loop b, s => match evLoop (fun s => evCode2 rd call rnd P nt n b s) (24 + s.m.lo) s with
    | .ok (some e, s') => .ok (e, s')
    | .ok (none, _) => .bad [8]
    | .bad l => .bad l
  | _ + 1, .rangeFunc g ps asg body, s => if rd then .bad [4, 1] else match ev s.tm g with
    | some (.func (.func gf) ⟨fst⟩ ⟨cap⟩) =>
      if Nat.blt (s.m.next + 2) 1073741824 && Nat.ble 64 s.m.next then
        match call gf (fst ++ .func (.yield (s.m.next + 1)) #[] #[] :: cap) { s.m with H := (s.m.H.set s.m.next .dfr).set (s.m.next + 1) (.loop s.tm nt ps.toList asg body s.m.next .ready none), next := s.m.next + 2 } with
        | .ok (.ret _, m2) => match m2.H.get (s.m.next + 1) with
          | some (.loop _ _ _ _ _ _ st2 pend2) =>
            if isBusy st2 then .bad [4, 5] else
            match pend2 with
            | none => .ok (.normal, ⟨s.tm, .mark s.m.next :: s.df, { m2 with H := m2.H.del (s.m.next + 1) }⟩)
            | some .ret => .ok (.ret, ⟨s.tm, .mark s.m.next :: s.df, { m2 with H := m2.H.del (s.m.next + 1) }⟩)
            | some (.exit id) => .ok (.exit id, ⟨s.tm, .mark s.m.next :: s.df, { m2 with H := m2.H.del (s.m.next + 1) }⟩)
            | _ => .bad [4, 6]
          | _ => .bad [4, 4]
        | .ok (.pan v, m2) => .ok (.pan v, ⟨s.tm, .mark s.m.next :: s.df, m2⟩)
        | .bad l => .bad (4 :: l)
      else .bad [4, 3]
    | _ => .bad [4, 2]
  | n + 1, .scope b, s => evCode2 rd call rnd P nt n b s
  | _ + 1, .goto .., _ => .bad [6]
  | _ + 1, _, _ => .bad [7]
/-- A round's values go to the temporaries. -/
def zipPut (nt : Nat) : List Nat → List Value → T Value → Option (T Value)
  | [], [], tm => some tm
  | t :: ts, v :: vs, tm => if Nat.blt t nt then zipPut nt ts vs (tm.set t v) else none
  | _, _, _ => none
/-- What a round leaves behind. -/
def endRnd (L : Nat) (e : Ex2) (m : Mem) : Tr (Out × Mem) :=
  match m.H.get L with
  | some (.loop tm nt ps asg body dfr _ _) => match e with
    | .normal => .ok (.ret (.bool true), { m with H := m.H.set L (.loop tm nt ps asg body dfr .ready none) })
    | .ret => .ok (.ret (.bool false), { m with H := m.H.set L (.loop tm nt ps asg body dfr .done (some .ret)) })
    | .exit id => .ok (.ret (.bool false), { m with H := m.H.set L (.loop tm nt ps asg body dfr .done (some (.exit id))) })
    | .pan _ => .bad [5, 1]
  | _ => .bad [5, 2]
/-- A round of a range over a function. -/
def evRound (call rnd : Call2) (P : Program) (steps : Nat) (L : Nat) (l : List Value) (m : Mem) : Tr (Out × Mem) :=
  match m.H.get L with
  | some (.loop tm nt ps asg body _ .ready _) =>
    if Nat.ble nt 1073741824 && Nat.blt L 1073741824 && Nat.ble 64 L then
      match zipPut nt ps l tm with
      | some tm1 => match evCode2 true call rnd P nt steps asg ⟨tm1, [], m⟩ with
        | .ok (.normal, s1) => match s1.m.H.get L with
          | some (.loop tm2 nt2 ps2 asg2 body2 dfr2 .ready pend2) =>
            match evCode2 true call rnd P nt steps body ⟨s1.tm, s1.df, { s1.m with H := s1.m.H.set L (.loop tm2 nt2 ps2 asg2 body2 dfr2 .busy pend2) }⟩ with
            | .ok (e, s2) => endRnd L e s2.m
            | .bad l => .bad (5 :: l)
          | _ => .bad [5, 3]
        | .ok _ => .bad [5, 4]
        | .bad l => .bad (5 :: l)
      | none => .bad [5, 5]
    else .bad [5, 6]
  | _ => .bad [5, 7]
/-- A caller's state when a deferred call runs: it returns, or panics with a value, recovered or not. -/
abbrev Md := Option (Value × Bool)
def isRecover : Op → Bool
  | .call { callee := .builtin .recover, .. } => true
  | _ => false
def evOpsS2 (call : Call2) (P : Program) (nt : Nat) (ops : Array Oper) : List Oper → St → Md → Tr (Option Value × St × Md)
  | [], s, u => .ok (none, s, u)
  | o :: r, s, u =>
    if !dstOk nt o then .bad [3004]
    else if Region.wanted o (yieldedE ops s.tm) then
      if isRecover o.op then
        match u with
        | some (v, false) => evOpsS2 call P nt ops r ⟨putE s.tm o.dst v, s.df, s.m⟩ (some (v, true))
        | u => evOpsS2 call P nt ops r ⟨putE s.tm o.dst .nilIface, s.df, s.m⟩ u
      else match exStep2 call P s.m s.tm o with
      | .ok (.val v m') => evOpsS2 call P nt ops r ⟨putE s.tm o.dst v, s.df, m'⟩ u
      | .ok (.pan v m') => .ok (some v, ⟨s.tm, s.df, m'⟩, u)
      | .ok (.later d) => evOpsS2 call P nt ops r ⟨putE s.tm o.dst Go.undef, d :: s.df, s.m⟩ u
      | .bad l => .bad (r.length :: l)
    else evOpsS2 call P nt ops r ⟨putE s.tm o.dst Go.undef, s.df, s.m⟩ u
def plain2 (u : Md) : Tr (Ex2 × St) → Tr (Ex2 × St × Md)
  | .ok (e, s) => .ok (e, s, u)
  | .bad l => .bad l
/-- The code of a deferred function. -/
def evCodeS2 (call rnd : Call2) (P : Program) (nt : Nat) : Nat → Code → St → Md → Tr (Ex2 × St × Md)
  | 0, _, _, _ => .bad [1]
  | n + 1, .seq a b, s, u => match evCodeS2 call rnd P nt n a s u with
    | .ok (.normal, s', u') => evCodeS2 call rnd P nt n b s' u'
    | r => r
  | n + 1, .cond c a b, s, u => match ev s.tm c with
    | some (.bool true) => evCodeS2 call rnd P nt n a s u
    | some (.bool false) => evCodeS2 call rnd P nt n b s u
    | _ => .bad [3]
  | _ + 1, .region id ops false, s, u => match evOpsS2 call P nt ops ops.toList s u with
    | .ok (none, s', u') => .ok (.normal, s', u')
    | .ok (some v, s', u') => .ok (.pan v, s', u')
    | .bad l => .bad (id :: l)
  | n + 1, c, s, u => plain2 u (evCode2 false call rnd P nt n c s)
def settleE : Md → Md
  | some (_, true) => none
  | u => u
/-- The deferred calls, the last one first. -/
def evLeave (callD : FuncId → List Value → Md → Mem → Tr (Md × Mem)) : List Df → Md → Mem → Tr (Md × Mem)
  | [], u, m => .ok (u, m)
  | .fn f l :: ds, u, m => match callD f l u m with
    | .ok (u', m') => evLeave callD ds (settleE u') m'
    | .bad l => .bad l
  | .mark D :: ds, u, m => match m.H.get D with
    | some .dfr => if Nat.blt D 1073741824 && Nat.ble 64 D then evLeave callD ds u { m with H := m.H.del D } else .bad [13, 1]
    | _ => .bad [13, 2]
def evDef (call rnd : Call2) (P : Program) (steps : Nat) (f : FuncId) (l : List Value) (u : Md) (m : Mem) : Tr (Md × Mem) :=
  match P.funcs[f]? with
  | some fn => match fn.body with
    | some c => if Nat.ble fn.ntmps 1073741824 && Nat.ble l.length fn.ntmps then
        match evCodeS2 call rnd P fn.ntmps steps c ⟨T.leaf.fill 0 l, [], m⟩ u with
        | .ok (.normal, s, u') | .ok (.ret, s, u') => match s.df, evResult P s.m s.tm fn.results.toList with
          | [], some _ => .ok (u', s.m)
          | _, _ => .bad [f, 8]
        | .ok _ => .bad [f, 7]
        | .bad l => .bad (f :: l)
      else .bad [f, 12]
    | none => .bad [f, 9]
  | none => .bad [f, 10]
def evEnd (call rnd : Call2) (P : Program) (steps : Nat) (fn : Func) (f : Nat) (s : St) (u : Md) : Tr (Out × Mem) :=
  match evLeave (evDef call rnd P steps) s.df u s.m with
  | .ok (none, m') => match evResult P m' s.tm fn.results.toList with
    | some [v] => .ok (.ret v, m')
    | some vs => .ok (.ret (.tuple vs.toArray), m')
    | none => .bad [f, 8]
  | .ok (some (v, false), m') => .ok (.pan v, m')
  | .ok _ => .bad [f, 11]
  | .bad l => .bad (f :: l)
/-- Summaries: what some calls come to. -/
abbrev Sums := FuncId → List Value → Mem → Option (Out × Mem)
def evCall3 (sm : Sums) (P : Program) (steps : Nat) : Nat → Bool → Call2
  | 0, _, f, _, _ => .bad [f, 6]
  | n + 1, true, L, l, m => evRound (evCall3 sm P steps n false) (evCall3 sm P steps n true) P steps L l m
  | n + 1, false, f, l, m => match sm f l m with
    | some r => .ok r
    | none => match P.funcs[f]? with
      | some fn => match fn.body with
        | some c => if Nat.ble fn.ntmps 1073741824 && Nat.ble l.length fn.ntmps then
            match evCode2 false (evCall3 sm P steps n false) (evCall3 sm P steps n true) P fn.ntmps steps c ⟨T.leaf.fill 0 l, [], m⟩ with
            | .ok (.normal, s) | .ok (.ret, s) => evEnd (evCall3 sm P steps n false) (evCall3 sm P steps n true) P steps fn f s none
            | .ok (.pan v, s) => evEnd (evCall3 sm P steps n false) (evCall3 sm P steps n true) P steps fn f s (some (v, false))
            | .ok _ => .bad [f, 7]
            | .bad l => .bad (f :: l)
          else .bad [f, 12]
        | none => .bad [f, 9]
      | none => .bad [f, 10]
def evCall2 (sm : Sums) (P : Program) (steps n : Nat) : Call2 := evCall3 sm P steps n false
end Go.Proofs.YtkecgbcfkbafpaaDoor.Ev
