/-
  No cell of these rows narrows 'for every input' (looked for: loops, veiled, ifaces, maps, wideKeys, modest, calm, conditions, laid).
  DERIVED. THE GIVEN ROWS OF THIS SEAT. 5 by the template 'for every input the law returns true; each argument reads behind the call as it read before'; 0 by the template 'total and deterministic' (their statements: YtdidepaldppcjaaTotals.lean).
  GIVEN WITH THE SEED: the statements are not yours to turn. If you find one false, say at which input.
  Laid BY PROGRAM, IN A SANDBOX (cutbox-rows.mjs): the forced cells as the released guide's own fill.sh prints them over the translation a4b7a56dcf19a6b8… (all of the seat's roots in one cut). By AI agents, Wed Nov 11 2026. No macro, syntax, notation, axiom, sorry.
-/
import Derived.Test.YtdidepaldppcjaaChecked
import GoSem.Claim
import GoSem.ClaimJoined
import GoSem.ClaimMapViews
import Derived.JoinedTies
import Derived.KernelRfl
namespace Go.Proofs.Ytdidepaldppcjaa
/- THE CELL 'sum', in the pinned program and in every row, IS THE sha256 OF THE DUMP (.gsa) THAT YtdidepaldppcjaaProg.lean LOADS. Nothing in Lean hashes anything: it is a label: what it is worth is what the hold of that sum in a sandbox is worth. -/
noncomputable def Try.pinned : Pinned := { name := "ytdidepaldppcjaa", sum := "a4b7a56dcf19a6b8e214d9c5f01ca1597bb5d5fbd97a177040b0b53bfbd3520f", checked := Try.checked }
namespace Rows
def none {H : Type} : Left H := { results := [], args := [] }

/-- 'dovetaillaw03.UtfNames': WHATEVER THE INPUT: true; the input reads as it did. -/
def utfNamesSpec : ChangeSpec := { name := "utfNames", fn := fun _ => fun
  | [] => { results := [.lit (.bool true)], args := [] }
  | _ => none }
def utfNamesRow : OpenClaim := { program := "ytdidepaldppcjaa", sum := "a4b7a56dcf19a6b8e214d9c5f01ca1597bb5d5fbd97a177040b0b53bfbd3520f", func := "dovetail/dovetaillaw03.UtfNames", spec := "utfNames", unfollowed := true, recurses := true, apart := false }
def UtfNamesSaid : Prop := utfNamesRow.holds Try.pinned (OpenSpec.ofChange utfNamesSpec)

/-- ITS FALSE NEIGHBOUR: 'it returns false'. Refute it at one input. -/
def utfNamesWrong : ChangeSpec := { name := "utfNames", fn := fun _ => fun
  | [] => { results := [.lit (.bool false)], args := [] }
  | _ => none }
def UtfNamesWrongFalsely : Prop := utfNamesRow.holds Try.pinned (OpenSpec.ofChange utfNamesWrong)

/-- 'dovetaillaw03.UtfExact': WHATEVER THE INPUT: true; the input reads as it did. -/
def utfExactSpec : ChangeSpec := { name := "utfExact", fn := fun _ => fun
  | [d] => { results := [.lit (.bool true)], args := [d] }
  | _ => none }
def utfExactRow : OpenClaim := { program := "ytdidepaldppcjaa", sum := "a4b7a56dcf19a6b8e214d9c5f01ca1597bb5d5fbd97a177040b0b53bfbd3520f", func := "dovetail/dovetaillaw03.UtfExact", spec := "utfExact", unfollowed := true, recurses := true, apart := false }
def UtfExactSaid : Prop := utfExactRow.holds Try.pinned (OpenSpec.ofChange utfExactSpec)

/-- ITS FALSE NEIGHBOUR: 'it returns false'. Refute it at one input. -/
def utfExactWrong : ChangeSpec := { name := "utfExact", fn := fun _ => fun
  | [d] => { results := [.lit (.bool false)], args := [d] }
  | _ => none }
def UtfExactWrongFalsely : Prop := utfExactRow.holds Try.pinned (OpenSpec.ofChange utfExactWrong)

/-- 'dovetaillaw03.UtfBack': WHATEVER THE INPUT: true; the input reads as it did. -/
def utfBackSpec : ChangeSpec := { name := "utfBack", fn := fun _ => fun
  | [d1, d2] => { results := [.lit (.bool true)], args := [d1, d2] }
  | _ => none }
def utfBackRow : OpenClaim := { program := "ytdidepaldppcjaa", sum := "a4b7a56dcf19a6b8e214d9c5f01ca1597bb5d5fbd97a177040b0b53bfbd3520f", func := "dovetail/dovetaillaw03.UtfBack", spec := "utfBack", unfollowed := true, recurses := true, apart := false }
def UtfBackSaid : Prop := utfBackRow.holds Try.pinned (OpenSpec.ofChange utfBackSpec)

/-- ITS FALSE NEIGHBOUR: 'it returns false'. Refute it at one input. -/
def utfBackWrong : ChangeSpec := { name := "utfBack", fn := fun _ => fun
  | [d1, d2] => { results := [.lit (.bool false)], args := [d1, d2] }
  | _ => none }
def UtfBackWrongFalsely : Prop := utfBackRow.holds Try.pinned (OpenSpec.ofChange utfBackWrong)

/-- 'dovetaillaw03.UtfOrder': WHATEVER THE INPUT: true; the input reads as it did. -/
def utfOrderSpec : ChangeSpec := { name := "utfOrder", fn := fun _ => fun
  | [d1, d2] => { results := [.lit (.bool true)], args := [d1, d2] }
  | _ => none }
def utfOrderRow : OpenClaim := { program := "ytdidepaldppcjaa", sum := "a4b7a56dcf19a6b8e214d9c5f01ca1597bb5d5fbd97a177040b0b53bfbd3520f", func := "dovetail/dovetaillaw03.UtfOrder", spec := "utfOrder", unfollowed := true, recurses := true, apart := false }
def UtfOrderSaid : Prop := utfOrderRow.holds Try.pinned (OpenSpec.ofChange utfOrderSpec)

/-- ITS FALSE NEIGHBOUR: 'it returns false'. Refute it at one input. -/
def utfOrderWrong : ChangeSpec := { name := "utfOrder", fn := fun _ => fun
  | [d1, d2] => { results := [.lit (.bool false)], args := [d1, d2] }
  | _ => none }
def UtfOrderWrongFalsely : Prop := utfOrderRow.holds Try.pinned (OpenSpec.ofChange utfOrderWrong)

/-- 'dovetaillaw03.UtfJoined': WHATEVER THE INPUT: true; the input reads as it did. -/
def utfJoinedSpec : ChangeSpec := { name := "utfJoined", fn := fun _ => fun
  | [d1, d2] => { results := [.lit (.bool true)], args := [d1, d2] }
  | _ => none }
def utfJoinedRow : OpenClaim := { program := "ytdidepaldppcjaa", sum := "a4b7a56dcf19a6b8e214d9c5f01ca1597bb5d5fbd97a177040b0b53bfbd3520f", func := "dovetail/dovetaillaw03.UtfJoined", spec := "utfJoined", unfollowed := true, recurses := true, apart := false }
def UtfJoinedSaid : Prop := utfJoinedRow.holds Try.pinned (OpenSpec.ofChange utfJoinedSpec)

/-- ITS FALSE NEIGHBOUR: 'it returns false'. Refute it at one input. -/
def utfJoinedWrong : ChangeSpec := { name := "utfJoined", fn := fun _ => fun
  | [d1, d2] => { results := [.lit (.bool false)], args := [d1, d2] }
  | _ => none }
def UtfJoinedWrongFalsely : Prop := utfJoinedRow.holds Try.pinned (OpenSpec.ofChange utfJoinedWrong)

/- THE SECOND FORM. 'bulk': how many values and letters a reading holds, each counted each time it is reached (what is shared counts as often as it is met; a slice's spare places count too). A statement '..UptoSaid' is the law's where the arguments, and the package variables that the reading takes, are together of bulk at most 1048576: NARROWER than '..Said'. Prove '..Said' where nothing that the law and all that it calls make is longer than what came in: it says more and counts as full. Else prove '..UptoSaid'. A law counts once. -/
mutual
def uptoBulk {H : Type} : DataW H → Nat
  | .lit (.string bytes) => bytes.length + 1
  | .lit _ => 1
  | .nil => 1
  | .ptr d => uptoBulk d + 1
  | .slice elems spare => uptoBulkAll elems + uptoBulkAll spare + 1
  | .agg parts => uptoBulkAll parts + 1
  | .iface _ d => uptoBulk d + 1
  | .map entries => uptoBulkEntries entries + 1
  | .held _ => 1
def uptoBulkAll {H : Type} : List (DataW H) → Nat
  | [] => 0
  | d :: r => uptoBulk d + uptoBulkAll r
def uptoBulkEntries {H : Type} : List (Lit × DataW H) → Nat
  | [] => 0
  | x :: r => uptoBulkEntry x + uptoBulkEntries r
def uptoBulkEntry {H : Type} : Lit × DataW H → Nat
  | (.string bytes, d) => bytes.length + uptoBulk d + 1
  | (_, d) => uptoBulk d + 1
 end
def uptoSmall : (H : Type) → List (DataW H) → Bool := fun _ ds => decide (uptoBulkAll ds ≤ 1048576)
def OpenSpec.upto (s : _root_.Go.ChangeSpec) : _root_.Go.OpenSpec := { _root_.Go.OpenSpec.ofChange s with cond := some uptoSmall }

/-- 'dovetaillaw03.UtfNames', WHERE WHAT IT READS IS OF BULK AT MOST 1048576: true; the input reads as it did. -/
def utfNamesUptoRow : OpenClaim := { program := "ytdidepaldppcjaa", sum := "a4b7a56dcf19a6b8e214d9c5f01ca1597bb5d5fbd97a177040b0b53bfbd3520f", func := "dovetail/dovetaillaw03.UtfNames", spec := "utfNames", unfollowed := true, recurses := true, apart := false, narrowed := true }
def UtfNamesUptoSaid : Prop := utfNamesUptoRow.holds Try.pinned (OpenSpec.upto utfNamesSpec)

/-- 'dovetaillaw03.UtfExact', WHERE WHAT IT READS IS OF BULK AT MOST 1048576: true; the input reads as it did. -/
def utfExactUptoRow : OpenClaim := { program := "ytdidepaldppcjaa", sum := "a4b7a56dcf19a6b8e214d9c5f01ca1597bb5d5fbd97a177040b0b53bfbd3520f", func := "dovetail/dovetaillaw03.UtfExact", spec := "utfExact", unfollowed := true, recurses := true, apart := false, narrowed := true }
def UtfExactUptoSaid : Prop := utfExactUptoRow.holds Try.pinned (OpenSpec.upto utfExactSpec)

/-- 'dovetaillaw03.UtfBack', WHERE WHAT IT READS IS OF BULK AT MOST 1048576: true; the input reads as it did. -/
def utfBackUptoRow : OpenClaim := { program := "ytdidepaldppcjaa", sum := "a4b7a56dcf19a6b8e214d9c5f01ca1597bb5d5fbd97a177040b0b53bfbd3520f", func := "dovetail/dovetaillaw03.UtfBack", spec := "utfBack", unfollowed := true, recurses := true, apart := false, narrowed := true }
def UtfBackUptoSaid : Prop := utfBackUptoRow.holds Try.pinned (OpenSpec.upto utfBackSpec)

/-- 'dovetaillaw03.UtfOrder', WHERE WHAT IT READS IS OF BULK AT MOST 1048576: true; the input reads as it did. -/
def utfOrderUptoRow : OpenClaim := { program := "ytdidepaldppcjaa", sum := "a4b7a56dcf19a6b8e214d9c5f01ca1597bb5d5fbd97a177040b0b53bfbd3520f", func := "dovetail/dovetaillaw03.UtfOrder", spec := "utfOrder", unfollowed := true, recurses := true, apart := false, narrowed := true }
def UtfOrderUptoSaid : Prop := utfOrderUptoRow.holds Try.pinned (OpenSpec.upto utfOrderSpec)

/-- 'dovetaillaw03.UtfJoined', WHERE WHAT IT READS IS OF BULK AT MOST 1048576: true; the input reads as it did. -/
def utfJoinedUptoRow : OpenClaim := { program := "ytdidepaldppcjaa", sum := "a4b7a56dcf19a6b8e214d9c5f01ca1597bb5d5fbd97a177040b0b53bfbd3520f", func := "dovetail/dovetaillaw03.UtfJoined", spec := "utfJoined", unfollowed := true, recurses := true, apart := false, narrowed := true }
def UtfJoinedUptoSaid : Prop := utfJoinedUptoRow.holds Try.pinned (OpenSpec.upto utfJoinedSpec)

end Rows
end Go.Proofs.Ytdidepaldppcjaa
