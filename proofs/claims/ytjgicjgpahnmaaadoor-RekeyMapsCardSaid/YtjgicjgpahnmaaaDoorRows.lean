/-
  NARROWER THAN 'FOR EVERY INPUT', by the rows' own cells (each row's printed sentence says how): RekeyNames: laid · RekeyGoes: loops, laid · RekeyMaps: loops, laid.
  DERIVED. THE GIVEN ROWS OF THIS SEAT. 3 by the template 'for every input the law returns true; each argument reads behind the call as it read before'; 0 by the template 'total and deterministic' (their statements: YtjgicjgpahnmaaaDoorTotals.lean).
  GIVEN WITH THE SEED: the statements are not yours to turn. If you find one false, say at which input.
  Laid BY PROGRAM, IN A SANDBOX (cutbox-rows.mjs): the forced cells as the released guide's own fill.sh prints them over the translation 08d8d74ee3b3a5a5… (all of the seat's roots in one cut). By AI agents, Wed Nov 11 2026. No macro, syntax, notation, axiom, sorry.
-/
import Derived.Test.YtjgicjgpahnmaaaDoorChecked
import GoSem.Claim
import GoSem.ClaimJoined
import GoSem.ClaimMapViews
import Derived.JoinedTies
import Derived.KernelRfl
namespace Go.Proofs.YtjgicjgpahnmaaaDoor
/- THE CELL 'sum', in the pinned program and in every row, IS THE sha256 OF THE DUMP (.gsa) THAT YtjgicjgpahnmaaaDoorProg.lean LOADS. Nothing in Lean hashes anything: it is a label: what it is worth is what the hold of that sum in a sandbox is worth. -/
noncomputable def Tryd.pinned : Pinned := { name := "ytjgicjgpahnmaaadoor", sum := "08d8d74ee3b3a5a59caeea0a95c7f20078dcd5937ad9954045d03d9169e0e694", checked := Tryd.checked }
namespace Rows
def none {H : Type} : Left H := { results := [], args := [] }

/- WHAT THE LISTED PACKAGE-LEVEL VARIABLES READ AS WHEN THE CALL BEGINS. Each datum BY PROGRAM (the guide's laid-datum.mjs) off the statement by which the dump's own 'gosem.cut.vars' lays the variable. In a bare row this is a premise. The card (YtjgicjgpahnmaaaDoorCards.lean) ties it to the program's text. -/
def laid_errors_errorType {H : Type} : DataW H := .iface "internal/reflectlite.rtype" (.agg [.ptr (.lit (.string [101, 114, 114, 111, 114]))])
def laid_dovetail_rekey_none {H : Type} : DataW H := .iface "*errors.errorString" (.ptr (.agg [.lit (.string [110, 111, 32, 115, 117, 99, 104, 32, 102, 105, 101, 108, 100])]))

/-- 'dovetaillaw18.RekeyNames': WHATEVER THE INPUT: true; the input reads as it did. -/
def rekeyNamesSpec : ChangeSpec := { name := "rekeyNames", fn := fun _ => fun
  | [] => { results := [.lit (.bool true)], args := [] }
  | _ => none }
def rekeyNamesRow : OpenClaim := { program := "ytjgicjgpahnmaaadoor", sum := "08d8d74ee3b3a5a59caeea0a95c7f20078dcd5937ad9954045d03d9169e0e694", func := "dovetail/dovetaillaw18.RekeyNames", spec := "rekeyNames", inPlace := ["internal/reflectlite.ValueOf", "(internal/reflectlite.Value).Type", "(internal/reflectlite.Value).IsNil", "internal/reflectlite.TypeOf", "(internal/reflectlite.Value).Elem", "(internal/reflectlite.Value).Set"], unfollowed := true, recurses := true, named := ["dovetail/rekey.none", "errors.errorType"], apart := false, laid := [("errors.errorType", laid_errors_errorType), ("dovetail/rekey.none", laid_dovetail_rekey_none)] }
def RekeyNamesSaid : Prop := rekeyNamesRow.holds Tryd.pinned (OpenSpec.ofChange rekeyNamesSpec)

/-- ITS FALSE NEIGHBOUR: 'it returns false'. Refute it at one input. -/
def rekeyNamesWrong : ChangeSpec := { name := "rekeyNames", fn := fun _ => fun
  | [] => { results := [.lit (.bool false)], args := [] }
  | _ => none }
def RekeyNamesWrongFalsely : Prop := rekeyNamesRow.holds Tryd.pinned (OpenSpec.ofChange rekeyNamesWrong)

/-- 'dovetaillaw18.RekeyGoes': WHATEVER THE INPUT: true; the input reads as it did. -/
def rekeyGoesSpec : ChangeSpec := { name := "rekeyGoes", fn := fun _ => fun
  | [d1, d2, d3] => { results := [.lit (.bool true)], args := [d1, d2, d3] }
  | _ => none }
def rekeyGoesRow : OpenClaim := { program := "ytjgicjgpahnmaaadoor", sum := "08d8d74ee3b3a5a59caeea0a95c7f20078dcd5937ad9954045d03d9169e0e694", func := "dovetail/dovetaillaw18.RekeyGoes", spec := "rekeyGoes", inPlace := ["internal/reflectlite.ValueOf", "(internal/reflectlite.Value).Type", "(internal/reflectlite.Value).IsNil", "internal/reflectlite.TypeOf", "(internal/reflectlite.Value).Elem", "(internal/reflectlite.Value).Set"], unfollowed := true, recurses := true, named := ["dovetail/rekey.none", "errors.errorType"], loops := true, apart := false, laid := [("errors.errorType", laid_errors_errorType), ("dovetail/rekey.none", laid_dovetail_rekey_none)] }
def RekeyGoesSaid : Prop := rekeyGoesRow.holds Tryd.pinned (OpenSpec.ofChange rekeyGoesSpec)

/-- ITS FALSE NEIGHBOUR: 'it returns false'. Refute it at one input. -/
def rekeyGoesWrong : ChangeSpec := { name := "rekeyGoes", fn := fun _ => fun
  | [d1, d2, d3] => { results := [.lit (.bool false)], args := [d1, d2, d3] }
  | _ => none }
def RekeyGoesWrongFalsely : Prop := rekeyGoesRow.holds Tryd.pinned (OpenSpec.ofChange rekeyGoesWrong)

/-- 'dovetaillaw18.RekeyMaps': WHATEVER THE INPUT: true; the input reads as it did. -/
def rekeyMapsSpec : ChangeSpec := { name := "rekeyMaps", fn := fun _ => fun
  | [d1, d2] => { results := [.lit (.bool true)], args := [d1, d2] }
  | _ => none }
def rekeyMapsRow : OpenClaim := { program := "ytjgicjgpahnmaaadoor", sum := "08d8d74ee3b3a5a59caeea0a95c7f20078dcd5937ad9954045d03d9169e0e694", func := "dovetail/dovetaillaw18.RekeyMaps", spec := "rekeyMaps", inPlace := ["internal/reflectlite.ValueOf", "(internal/reflectlite.Value).Type", "(internal/reflectlite.Value).IsNil", "internal/reflectlite.TypeOf", "(internal/reflectlite.Value).Elem", "(internal/reflectlite.Value).Set"], unfollowed := true, recurses := true, named := ["dovetail/rekey.none", "errors.errorType"], loops := true, apart := false, laid := [("errors.errorType", laid_errors_errorType), ("dovetail/rekey.none", laid_dovetail_rekey_none)] }
def RekeyMapsSaid : Prop := rekeyMapsRow.holds Tryd.pinned (OpenSpec.ofChange rekeyMapsSpec)

/-- ITS FALSE NEIGHBOUR: 'it returns false'. Refute it at one input. -/
def rekeyMapsWrong : ChangeSpec := { name := "rekeyMaps", fn := fun _ => fun
  | [d1, d2] => { results := [.lit (.bool false)], args := [d1, d2] }
  | _ => none }
def RekeyMapsWrongFalsely : Prop := rekeyMapsRow.holds Tryd.pinned (OpenSpec.ofChange rekeyMapsWrong)

/- THE SECOND FORM. 'bulk': how many values and letters a reading holds, each counted each time it is reached (what is shared counts as often as it is met; a slice's spare places count too). A statement '..UptoSaid' is the law's where the arguments, and the package variables that the reading takes, are together of bulk at most 1048576: NARROWER than '..Said'. Prove '..Said' where nothing that the law and all that it calls make is longer than what came in: it says more and counts as full. Else prove '..UptoSaid'. A law counts once. -/
mutual
def uptoBulk {H : Type} : DataW H → Nat
  | .lit (.string bytes) => bytes.length + 1
  | .lit _ => 1
  | .nil => 1
  | .ptr d => uptoBulk d + 1
  | .slice elems spare => uptoBulkAll elems + uptoBulkAll spare + 1
  | .agg parts => uptoBulkAll parts + 1
  | .iface _ d => uptoBulk d + 1
  | .map entries => uptoBulkEntries entries + 1
  | .held _ => 1
def uptoBulkAll {H : Type} : List (DataW H) → Nat
  | [] => 0
  | d :: r => uptoBulk d + uptoBulkAll r
def uptoBulkEntries {H : Type} : List (Lit × DataW H) → Nat
  | [] => 0
  | x :: r => uptoBulkEntry x + uptoBulkEntries r
def uptoBulkEntry {H : Type} : Lit × DataW H → Nat
  | (.string bytes, d) => bytes.length + uptoBulk d + 1
  | (_, d) => uptoBulk d + 1
 end
def uptoSmall : (H : Type) → List (DataW H) → Bool := fun _ ds => decide (uptoBulkAll ds ≤ 1048576)
def OpenSpec.upto (s : _root_.Go.ChangeSpec) : _root_.Go.OpenSpec := { _root_.Go.OpenSpec.ofChange s with cond := some uptoSmall }

/-- 'dovetaillaw18.RekeyNames', WHERE WHAT IT READS IS OF BULK AT MOST 1048576: true; the input reads as it did. -/
def rekeyNamesUptoRow : OpenClaim := { program := "ytjgicjgpahnmaaadoor", sum := "08d8d74ee3b3a5a59caeea0a95c7f20078dcd5937ad9954045d03d9169e0e694", func := "dovetail/dovetaillaw18.RekeyNames", spec := "rekeyNames", inPlace := ["internal/reflectlite.ValueOf", "(internal/reflectlite.Value).Type", "(internal/reflectlite.Value).IsNil", "internal/reflectlite.TypeOf", "(internal/reflectlite.Value).Elem", "(internal/reflectlite.Value).Set"], unfollowed := true, recurses := true, named := ["dovetail/rekey.none", "errors.errorType"], apart := false, laid := [("errors.errorType", laid_errors_errorType), ("dovetail/rekey.none", laid_dovetail_rekey_none)], narrowed := true }
def RekeyNamesUptoSaid : Prop := rekeyNamesUptoRow.holds Tryd.pinned (OpenSpec.upto rekeyNamesSpec)

/-- 'dovetaillaw18.RekeyGoes', WHERE WHAT IT READS IS OF BULK AT MOST 1048576: true; the input reads as it did. -/
def rekeyGoesUptoRow : OpenClaim := { program := "ytjgicjgpahnmaaadoor", sum := "08d8d74ee3b3a5a59caeea0a95c7f20078dcd5937ad9954045d03d9169e0e694", func := "dovetail/dovetaillaw18.RekeyGoes", spec := "rekeyGoes", inPlace := ["internal/reflectlite.ValueOf", "(internal/reflectlite.Value).Type", "(internal/reflectlite.Value).IsNil", "internal/reflectlite.TypeOf", "(internal/reflectlite.Value).Elem", "(internal/reflectlite.Value).Set"], unfollowed := true, recurses := true, named := ["dovetail/rekey.none", "errors.errorType"], loops := true, apart := false, laid := [("errors.errorType", laid_errors_errorType), ("dovetail/rekey.none", laid_dovetail_rekey_none)], narrowed := true }
def RekeyGoesUptoSaid : Prop := rekeyGoesUptoRow.holds Tryd.pinned (OpenSpec.upto rekeyGoesSpec)

/-- 'dovetaillaw18.RekeyMaps', WHERE WHAT IT READS IS OF BULK AT MOST 1048576: true; the input reads as it did. -/
def rekeyMapsUptoRow : OpenClaim := { program := "ytjgicjgpahnmaaadoor", sum := "08d8d74ee3b3a5a59caeea0a95c7f20078dcd5937ad9954045d03d9169e0e694", func := "dovetail/dovetaillaw18.RekeyMaps", spec := "rekeyMaps", inPlace := ["internal/reflectlite.ValueOf", "(internal/reflectlite.Value).Type", "(internal/reflectlite.Value).IsNil", "internal/reflectlite.TypeOf", "(internal/reflectlite.Value).Elem", "(internal/reflectlite.Value).Set"], unfollowed := true, recurses := true, named := ["dovetail/rekey.none", "errors.errorType"], loops := true, apart := false, laid := [("errors.errorType", laid_errors_errorType), ("dovetail/rekey.none", laid_dovetail_rekey_none)], narrowed := true }
def RekeyMapsUptoSaid : Prop := rekeyMapsUptoRow.holds Tryd.pinned (OpenSpec.upto rekeyMapsSpec)

end Rows
end Go.Proofs.YtjgicjgpahnmaaaDoor
