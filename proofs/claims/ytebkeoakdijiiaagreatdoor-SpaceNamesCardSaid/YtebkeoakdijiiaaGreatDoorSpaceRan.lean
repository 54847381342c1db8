/-
  Calls on the way of SpaceNames, all of them.
-/
import Derived.Test.YtebkeoakdijiiaaGreatDoorSpNS0
import Derived.Test.YtebkeoakdijiiaaGreatDoorSpNS1
import Derived.Test.YtebkeoakdijiiaaGreatDoorSpNS2
import Derived.Test.YtebkeoakdijiiaaGreatDoorSpNS3
import Derived.Test.YtebkeoakdijiiaaGreatDoorSpNS4
import Derived.Test.YtebkeoakdijiiaaGreatDoorSpNS5
import Derived.Test.YtebkeoakdijiiaaGreatDoorSpNS6
import Derived.Test.YtebkeoakdijiiaaGreatDoorRows
import Derived.Test.YtebkeoakdijiiaaGreatDoorCards
import Derived.Test.YtebkeoakdijiiaaGreatDoorTie
import Derived.Test.YtebkeoakdijiiaaGreatDoorEvZE
import Derived.Test.YtebkeoakdijiiaaGreatDoorEvZF
import Derived.WalkKit
import Derived.ProofKit
import Derived.OpenShut
import Derived.LaidLaws
import Derived.LaidHandle
import Derived.LaidMore
import Derived.Lay
import Derived.SevenTiedAt
import Derived.Stop.Joined
namespace Go.Proofs.YtebkeoakdijiiaaGreatDoor.spaceNames
open Go.ChangeShapes Go.WideShapes Go.ChangeAt Go.RowKit
set_option linter.unusedVariables false

theorem plain0 : Ev.plainB Tryz.prog = true := by kernel_rfl
theorem mixed0 : Tryz.prog.follows .mixedOrders = true := by kernel_rfl
theorem sums0_ok (w : World) : Ev.SumOK Tryz.prog w sums0 := (Ev.capSum_ok (Ev.plainly_of plain0) mixed0 Ev.no_sums 41 100000 60)
theorem sums1_ok (w : World) : Ev.SumOK Tryz.prog w sums1 := Ev.stepSum_ok (Ev.plainly_of plain0) mixed0 (sums0_ok w) (sums0_ok w) ok0
theorem sums2_ok (w : World) : Ev.SumOK Tryz.prog w sums2 := Ev.stepSum_ok (Ev.plainly_of plain0) mixed0 (sums1_ok w) (sums1_ok w) ok1
theorem sums3_ok (w : World) : Ev.SumOK Tryz.prog w sums3 := Ev.stepSum_ok (Ev.plainly_of plain0) mixed0 (sums2_ok w) (sums2_ok w) ok2
theorem sums4_ok (w : World) : Ev.SumOK Tryz.prog w sums4 := Ev.stepSum_ok (Ev.plainly_of plain0) mixed0 (sums3_ok w) (sums3_ok w) ok3
theorem sums5_ok (w : World) : Ev.SumOK Tryz.prog w sums5 := Ev.stepSum_ok (Ev.plainly_of plain0) mixed0 (sums4_ok w) (sums4_ok w) ok4
theorem sums6_ok (w : World) : Ev.SumOK Tryz.prog w sums6 := Ev.stepSum_ok (Ev.plainly_of plain0) mixed0 (sums5_ok w) (sums5_ok w) ok5
theorem sums7_ok (w : World) : Ev.SumOK Tryz.prog w sums7 := Ev.stepSum_ok (Ev.plainly_of plain0) mixed0 (sums6_ok w) (sums6_ok w) ok6
theorem own : ownKnob Tryz.prog.godebug = none := by kernel_rfl
theorem plain : Ev.plainB Tryz.prog = true := by kernel_rfl
theorem mixed : Tryz.prog.follows .mixedOrders = true := by kernel_rfl
theorem ran : Ev.isTrue (Ev.evCall2 sums7 Tryz.prog 100000 60 3 [] ⟨Ev.laidMem Tryz.prog (Rows.spaceNamesRow.laid.filter fun x => x.2.handleName?.isNone), 64, 0⟩) = true := by kernel_rfl
theorem walk {w : World} (h : laidMetH Tryz.prog Rows.spaceNamesRow.laid w) : Calls Tryz.prog 3 #[] w fun e w' => e = .returned (.bool true) ∧ Below w.heap.size w w' :=
  Ev.laid_true plain mixed h (sums7_ok _) 100000 60 3 ran
end Go.Proofs.YtebkeoakdijiiaaGreatDoor.spaceNames
