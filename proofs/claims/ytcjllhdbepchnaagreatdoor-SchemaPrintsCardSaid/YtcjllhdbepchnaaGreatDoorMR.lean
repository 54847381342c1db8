/-
  Does a field say what may not be: the program's answer, one kind.
-/
import Derived.Test.YtcjllhdbepchnaaGreatDoorML
import Derived.Test.YtcjllhdbepchnaaGreatDoorMM
import Derived.Test.YtcjllhdbepchnaaGreatDoorMN
import Derived.Test.YtcjllhdbepchnaaGreatDoorMO
import Derived.Test.YtcjllhdbepchnaaGreatDoorMP
import Derived.Test.YtcjllhdbepchnaaGreatDoorMQ
namespace Go.Proofs.YtcjllhdbepchnaaGreatDoor
open Go.RowKit Go.WideShapes
set_option linter.unusedVariables false
theorem oddP2 (nm : ByteArray) (dn : Bool) (nl : Nat) (bd lb : Bool) (lm : ByteArray) (hb : Bool) (hm : ByteArray) (ms st : Int) (sh ba : Bool) (l : List FT) (a : Option Addr) (c : Nat) (w : World) (hok : (⟨nm, 2, dn, nl, bd, lb, lm, hb, hm, ms, st, sh, ba⟩ : FS).ok) (hl : l.length ≤ 140737488351232) :
    Calls Tryz.prog 92 #[.agg #[.string nm, .int .u8 (2 : Nat), .bool dn, .int .u8 nl, .bool bd, .bool lb, .string lm, .bool hb, .string hm, .int .i64 ms, .int .i64 st, .bool sh, .bool ba, .slice a l.length c]] w (isOdd w (.mk ⟨nm, 2, dn, nl, bd, lb, lm, hb, hm, ms, st, sh, ba⟩ l)) := by
  cases bd with
  | true => exact oddP2a nm dn nl true lb lm hb hm ms st sh ba l a c w hok hl rfl
  | false =>
    cases lb with
    | true => exact oddP2b nm dn nl false true lm hb hm ms st sh ba l a c w hok hl rfl rfl
    | false =>
      cases e1 : (lm.toList == []) with
      | false => exact oddP2c nm dn nl false false lm hb hm ms st sh ba l a c w hok hl rfl rfl e1
      | true =>
        cases hb with
        | true => exact oddP2d nm dn nl false false lm true hm ms st sh ba l a c w hok hl rfl rfl e1 rfl
        | false =>
          cases e2 : (hm.toList == []) with
          | false => exact oddP2e nm dn nl false false lm false hm ms st sh ba l a c w hok hl rfl rfl e1 rfl e2
          | true => exact oddP2f nm dn nl false false lm false hm ms st sh ba l a c w hok hl rfl rfl e1 rfl e2
end Go.Proofs.YtcjllhdbepchnaaGreatDoor
