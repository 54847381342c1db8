/-
  Does a field say what may not be: the program's answer, one kind.
-/
import Derived.Test.YtcjllhdbepchnaaGreatDoorMI
namespace Go.Proofs.YtcjllhdbepchnaaGreatDoor
open Go.RowKit Go.WideShapes
set_option linter.unusedVariables false
/-- Do the bounds of a number say what may not be? -/
def oddIntB (bd lb : Bool) (lm : ByteArray) (hb : Bool) (hm : ByteArray) : Bool := if bd then decide (numWhy2 lb lm hb hm ≠ 0) || decide (0 < numCmp lb lm hb hm) else lb || lm.size != 0 || hb || hm.size != 0
theorem oddIntB_any (nm : ByteArray) (k : Nat) (dn : Bool) (nl : Nat) (bd lb : Bool) (lm : ByteArray) (hb : Bool) (hm : ByteArray) (ms st : Int) (sh ba : Bool) (n : Nat) (a : Option Addr) (c : Nat) (w : World) (hl : lm.size ≤ 140737488351232) (hh : hm.size ≤ 140737488351232) : Calls Tryz.prog 137 #[.agg #[.string nm, .int .u8 k, .bool dn, .int .u8 nl, .bool bd, .bool lb, .string lm, .bool hb, .string hm, .int .i64 ms, .int .i64 st, .bool sh, .bool ba, .slice a n c]] w (Ret (.bool (oddIntB bd lb lm hb hm)) w) := oddInt_any nm k dn nl bd lb lm hb hm ms st sh ba n a c w hl hh
end Go.Proofs.YtcjllhdbepchnaaGreatDoor
