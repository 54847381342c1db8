/-
  The law DeskNames answers true, for every input (it has none), and changes nothing. No conditions.
-/
import Derived.Test.YthjhdjjmpoaceaaGreatDoorRows
import Derived.Test.YthjhdjjmpoaceaaGreatDoorCards
import Derived.Test.YthjhdjjmpoaceaaGreatDoorTieZ
import Derived.Test.YthjhdjjmpoaceaaGreatDoorDkOver
import Derived.Test.YthjhdjjmpoaceaaGreatDoorDkCardA
import Derived.Test.YthjhdjjmpoaceaaGreatDoorDkCardB
import Derived.Test.YthjhdjjmpoaceaaGreatDoorDkCardD
import Derived.WalkKit
import Derived.ProofKit
import Derived.OpenShut
import Derived.LaidLaws
import Derived.LaidHandle
import Derived.LaidMore
import Derived.Lay
import Derived.SevenTiedAt
import Derived.Stop.Joined
import Derived.JoinedOf
namespace Go.Proofs.YthjhdjjmpoaceaaGreatDoor.deskNames
open Go.ChangeShapes Go.WideShapes Go.ChangeAt Go.RowKit
set_option linter.unusedVariables false

/-- The statement. -/
theorem proved : Rows.DeskNamesCardSaid :=
  Claim7.holds_tied_plain_at .later [] [.pinned, .data, .sentinel, .sentinel, .data, .data, .data, .pinned, .handle, .data, .sentinel] true (true, "f3147189c119526f119c59ef80982094058e491cc7f88735403e555579506798") true
    over (fun _ h => by cases h) cardA (fun _ h => by cases h) deskNames_row_tie rfl ⟨rfl, rfl⟩ cardB1 rfl
    (fun f fn hf hfn => by
      obtain rfl : f = 3 := Option.some.inj (cardB2.symm.trans hf) |>.symm
      obtain rfl : fn = Tryz.f3 := (Option.some.inj (Tryz.func3.symm.trans hfn)).symm
      exact ⟨cardC, fun j t ht => by
        rw [Tryz.params3] at ht
        simp at ht⟩)
    cardD
#print axioms proved
end Go.Proofs.YthjhdjjmpoaceaaGreatDoor.deskNames
