/-
  The law SpaceNil answers true, for every input, and changes nothing. No conditions.
-/
import Derived.Test.YtinonofhladkpaaGreatDoorRows
import Derived.Test.YtinonofhladkpaaGreatDoorCards
import Derived.Test.YtinonofhladkpaaGreatDoorTie
import Derived.Test.YtinonofhladkpaaGreatDoorJNilOver
import Derived.Test.YtinonofhladkpaaGreatDoorJNilCardA
import Derived.Test.YtinonofhladkpaaGreatDoorJNilCardB
import Derived.Test.YtinonofhladkpaaGreatDoorJNilCardD
import Derived.Test.YtinonofhladkpaaGreatDoorJE
import Derived.WalkKit
import Derived.ProofKit
import Derived.OpenShut
import Derived.LaidLaws
import Derived.LaidHandle
import Derived.LaidMore
import Derived.Lay
import Derived.SevenTiedAt
import Derived.Stop.Joined
import Derived.JoinedOf
namespace Go.Proofs.YtinonofhladkpaaGreatDoor.spaceNil
open Go.ChangeShapes Go.WideShapes Go.ChangeAt Go.RowKit
set_option linter.unusedVariables false

/-- The statement. -/
theorem proved : Rows.SpaceNilCardSaid :=
  Claim7.holds_tied_plain_at .later [] [.data, .data, .data, .data, .handle, .sentinel, .sentinel, .sentinel, .data, .pinned, .pinned] true (true, "d4ec75e4608a71c8955a9ece46ae2f0e9426ebd78313df0d1065aeb2d318f089") true
    over (fun _ h => by cases h) cardA (fun _ h => by cases h) spaceNil_row_tie rfl ⟨rfl, rfl⟩ cardB1 rfl
    (fun f fn hf hfn => by
      obtain rfl : f = 3 := Option.some.inj (cardB2.symm.trans hf) |>.symm
      obtain rfl : fn = Tryz.f3 := (Option.some.inj (Tryz.func3.symm.trans hfn)).symm
      exact ⟨cardC, fun j t ht => by
        rw [Tryz.params3] at ht
        match j with
        | 0 =>
          obtain rfl : t = 33 := by simpa using ht.symm
          exact cardB3
        | j + 1 => simp at ht⟩)
    cardD
#print axioms proved
end Go.Proofs.YtinonofhladkpaaGreatDoor.spaceNil
