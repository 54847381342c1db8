/-
  The law SpaceNames answers true, for every input (it has none), and changes nothing. No conditions.
-/
import Derived.Test.YtebkeoakdijiiaaGreatDoorRows
import Derived.Test.YtebkeoakdijiiaaGreatDoorCards
import Derived.Test.YtebkeoakdijiiaaGreatDoorTie
import Derived.Test.YtebkeoakdijiiaaGreatDoorSpaceOver
import Derived.Test.YtebkeoakdijiiaaGreatDoorSpaceCardB
import Derived.Test.YtebkeoakdijiiaaGreatDoorEvZF
import Derived.WalkKit
import Derived.ProofKit
import Derived.OpenShut
import Derived.LaidLaws
import Derived.LaidHandle
import Derived.LaidMore
import Derived.Lay
import Derived.SevenTiedAt
import Derived.Stop.Joined
import Derived.JoinedOf
namespace Go.Proofs.YtebkeoakdijiiaaGreatDoor.spaceNames
open Go.ChangeShapes Go.WideShapes Go.ChangeAt Go.RowKit
set_option linter.unusedVariables false

theorem cardA : Rows.spaceNamesRow.wfByText (OpenSpec.ofChange Rows.spaceNamesSpec) = true := by kernel_rfl

theorem cardC : true = Tryz.pinned.checked.prog.looks [] := by kernel_rfl

theorem cardD : false = Rows.spaceNamesRow.goesBy Tryz.pinned.checked.prog := by kernel_rfl

/-- The statement. -/
theorem proved : Rows.SpaceNamesCardSaid :=
  Claim7.holds_tied_plain_at .later [] [.data, .data, .data, .data, .handle, .sentinel, .sentinel, .pinned, .pinned] true (true, "0175cc1897a6ad90d7be8f72cf12b2415ab0fae34f0e59275ec09e5b915955a7") true
    over (fun _ h => by cases h) cardA (fun _ h => by cases h) spaceNames_row_tie rfl ⟨rfl, rfl⟩ cardB1 rfl
    (fun f fn hf hfn => by
      obtain rfl : f = 3 := Option.some.inj (cardB2.symm.trans hf) |>.symm
      obtain rfl : fn = Tryz.f3 := (Option.some.inj (Tryz.func3.symm.trans hfn)).symm
      exact ⟨cardC, fun j t ht => by
        rw [Tryz.params3] at ht
        simp at ht⟩)
    cardD
#print axioms proved
end Go.Proofs.YtebkeoakdijiiaaGreatDoor.spaceNames
