/-
  The law ImageNames answers true, for every input (it has none), and changes nothing. No conditions.
-/
import Derived.Test.YtokbkninlbkhjaaGreatDoorRows
import Derived.Test.YtokbkninlbkhjaaGreatDoorCards
import Derived.Test.YtokbkninlbkhjaaGreatDoorTie
import Derived.Test.YtokbkninlbkhjaaGreatDoorImageOver
import Derived.Test.YtokbkninlbkhjaaGreatDoorImageCardA
import Derived.Test.YtokbkninlbkhjaaGreatDoorImageCardB
import Derived.Test.YtokbkninlbkhjaaGreatDoorImageCardC
import Derived.Test.YtokbkninlbkhjaaGreatDoorImageCardD
import Derived.Test.YtokbkninlbkhjaaGreatDoorEvZF
import Derived.WalkKit
import Derived.ProofKit
import Derived.OpenShut
import Derived.LaidLaws
import Derived.LaidHandle
import Derived.LaidMore
import Derived.Lay
import Derived.SevenTiedAt
import Derived.Stop.Joined
namespace Go.Proofs.YtokbkninlbkhjaaGreatDoor.imageNames
open Go.ChangeShapes Go.WideShapes Go.ChangeAt Go.RowKit
set_option linter.unusedVariables false

/-- The statement. -/
theorem proved : Rows.ImageNamesCardSaid :=
  Claim7.holds_tied_plain_at .later [] [.data, .data, .data, .data, .handle, .sentinel, .sentinel, .data, .pinned, .pinned] true (true, "4780376d115d218d480f9fee06db2782799416df51ccb21e9fa4b68f97566f6a") true
    over (fun _ h => by cases h) cardA (fun _ h => by cases h) imageNames_row_tie rfl ⟨rfl, rfl⟩ cardB1 rfl
    (fun f fn hf hfn => by
      obtain rfl : f = 3 := Option.some.inj (cardB2.symm.trans hf) |>.symm
      obtain rfl : fn = Tryz.f3 := (Option.some.inj (Tryz.func3.symm.trans hfn)).symm
      exact ⟨cardC, fun j t ht => by
        rw [Tryz.params3] at ht
        simp at ht⟩)
    cardD
#print axioms proved
end Go.Proofs.YtokbkninlbkhjaaGreatDoor.imageNames
