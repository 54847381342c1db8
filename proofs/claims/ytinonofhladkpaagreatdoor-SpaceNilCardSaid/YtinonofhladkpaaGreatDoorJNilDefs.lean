/-
  The calls on the nil space, by our machine: what it starts from.
-/
import Derived.Test.YtinonofhladkpaaGreatDoorJE
import Derived.Test.YtinonofhladkpaaGreatDoorRows
namespace Go.Proofs.YtinonofhladkpaaGreatDoor.spaceNil
open Go.RowKit
set_option linter.unusedVariables false
noncomputable def rest : Code := match Tryz.f3.body with
  | some (.seq _ (.seq _ (.seq _ r))) => r
  | _ => .skip
def opq (b1 b2 b3 b4 b5 b6 : Bool) : List Value := [.chan (some 0), .chan (some 1), .chan (some 2), .chan (some 3), .chan (some 4), .chan (some 5), .bool b1, .bool b2, .chan (some 8), .chan (some 9), .chan (some 10), .chan (some 11), .bool b3, .bool b4, .chan (some 14), .chan (some 15), .chan (some 16), .chan (some 17), .bool b5, .chan (some 19), .bool b6, .chan (some 21), .chan (some 22)]
def tmOf (b1 b2 b3 b4 b5 b6 : Bool) : List Value := .agg (opq b1 b2 b3 b4 b5 b6).toArray :: .pointer (some ⟨64, 0, none⟩) :: .bool false :: .bool true :: (List.replicate 20 Go.undef ++ .bool true :: .agg (opq b1 b2 b3 b4 b5 b6).toArray :: .chan (some 30) :: .bool false :: List.replicate 162 Go.undef)
noncomputable def rtype : TypeId := match Tryz.prog.cutTypes.find? (·.1 == "internal/reflectlite.rtype") with
  | some x => x.2
  | none => 0
noncomputable def base : Ev.T Ev.AObj := (Ev.laidMem Tryz.prog (Rows.spaceNilRow.laid.filter fun x => x.2.handleName?.isNone)).set 1 (.cells (Ev.T.leaf.set 0 (.iface rtype (.agg #[typeHandle Tryz.prog 43]))) 1 0 false)
noncomputable def mem (b1 b2 b3 b4 b5 b6 : Bool) : Ev.T Ev.AObj := base.set 64 (.cells (Ev.T.leaf.fill 0 (opq b1 b2 b3 b4 b5 b6)) 23 33 false)
def noSum : Ev.Sums := fun _ _ _ => none
noncomputable def good (b1 b2 b3 b4 b5 b6 : Bool) : Bool := Ev.isRetT Tryz.prog Tryz.f3.results.toList (Ev.evCode2 false (Ev.evCall3 noSum Tryz.prog 100000 60 false) (Ev.evCall3 noSum Tryz.prog 100000 60 true) Tryz.prog Tryz.f3.ntmps 100000 rest ⟨Ev.T.leaf.fill 0 (tmOf b1 b2 b3 b4 b5 b6), [], ⟨mem b1 b2 b3 b4 b5 b6, 65, 0⟩⟩)
end Go.Proofs.YtinonofhladkpaaGreatDoor.spaceNil
