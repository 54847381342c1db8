/-
  DERIVED. GIVEN WITH THE SEED: THE CARDS: each row of YtjgicjgpahnmaaaDoorRows.lean that lists a variable, with what it lists TIED to the program's text (the seventh form; the later family's looks); each row that meets fmt, with fmt's text TOLD by the authors' own Lean function (tested against real Go, not proved from fmt's source: count such statements apart). THE CARD IS WHAT COUNTS. Prove the row's statement (the work); the ties are given (YtjgicjgpahnmaaaDoorTie.lean); close each card by the builder's one call (the guide's Derived/Test/ToyasCard.lean, 'card_holds'). Laid BY PROGRAM, IN A SANDBOX (cutbox-door.mjs). By AI agents, Wed Nov 11 2026. No macro, syntax, notation, axiom, sorry.
-/
import Derived.Test.YtjgicjgpahnmaaaDoorRows
import GoSem.ClaimSeven
namespace Go.Proofs.YtjgicjgpahnmaaaDoor
namespace Rows

/-- THE TIED CARD OF 'dovetaillaw18.RekeyNames'. -/
def rekeyNamesCard : Claim7 := { stood := { row := rekeyNamesRow, standIns := [], harness := (true, "0d410c8e3e9c5a3da7111a5351d8615b3ee62c365fae92a54dc1a536b17078b5"), looks := true }, kinds := [], alts := [], laidByText := true, laidKinds := [.handle, .sentinel], laidTests := true, laidLooks := .later }
def RekeyNamesCardSaid : Prop := Claim7.holds Tryd.pinned (.plain (OpenSpec.ofChange rekeyNamesSpec)) rekeyNamesCard

/-- THE TIED CARD OF 'dovetaillaw18.RekeyGoes'. -/
def rekeyGoesCard : Claim7 := { stood := { row := rekeyGoesRow, standIns := [], harness := (true, "0d410c8e3e9c5a3da7111a5351d8615b3ee62c365fae92a54dc1a536b17078b5"), looks := true }, kinds := [], alts := [], laidByText := true, laidKinds := [.handle, .sentinel], laidTests := true, laidLooks := .later }
def RekeyGoesCardSaid : Prop := Claim7.holds Tryd.pinned (.plain (OpenSpec.ofChange rekeyGoesSpec)) rekeyGoesCard

/-- THE TIED CARD OF 'dovetaillaw18.RekeyMaps'. -/
def rekeyMapsCard : Claim7 := { stood := { row := rekeyMapsRow, standIns := [], harness := (true, "0d410c8e3e9c5a3da7111a5351d8615b3ee62c365fae92a54dc1a536b17078b5"), looks := true }, kinds := [], alts := [], laidByText := true, laidKinds := [.handle, .sentinel], laidTests := true, laidLooks := .later }
def RekeyMapsCardSaid : Prop := Claim7.holds Tryd.pinned (.plain (OpenSpec.ofChange rekeyMapsSpec)) rekeyMapsCard

/-- THE SECOND FORM's CARD OF 'dovetaillaw18.RekeyNames'. -/
def rekeyNamesUptoCard : Claim7 := { stood := { row := rekeyNamesUptoRow, standIns := [], harness := (true, "0d410c8e3e9c5a3da7111a5351d8615b3ee62c365fae92a54dc1a536b17078b5"), looks := true }, kinds := [], alts := [], laidByText := true, laidKinds := [.handle, .sentinel], laidTests := true, laidLooks := .later }
def RekeyNamesUptoCardSaid : Prop := Claim7.holds Tryd.pinned (.plain (OpenSpec.upto rekeyNamesSpec)) rekeyNamesUptoCard

/-- THE SECOND FORM's CARD OF 'dovetaillaw18.RekeyGoes'. -/
def rekeyGoesUptoCard : Claim7 := { stood := { row := rekeyGoesUptoRow, standIns := [], harness := (true, "0d410c8e3e9c5a3da7111a5351d8615b3ee62c365fae92a54dc1a536b17078b5"), looks := true }, kinds := [], alts := [], laidByText := true, laidKinds := [.handle, .sentinel], laidTests := true, laidLooks := .later }
def RekeyGoesUptoCardSaid : Prop := Claim7.holds Tryd.pinned (.plain (OpenSpec.upto rekeyGoesSpec)) rekeyGoesUptoCard

/-- THE SECOND FORM's CARD OF 'dovetaillaw18.RekeyMaps'. -/
def rekeyMapsUptoCard : Claim7 := { stood := { row := rekeyMapsUptoRow, standIns := [], harness := (true, "0d410c8e3e9c5a3da7111a5351d8615b3ee62c365fae92a54dc1a536b17078b5"), looks := true }, kinds := [], alts := [], laidByText := true, laidKinds := [.handle, .sentinel], laidTests := true, laidLooks := .later }
def RekeyMapsUptoCardSaid : Prop := Claim7.holds Tryd.pinned (.plain (OpenSpec.upto rekeyMapsSpec)) rekeyMapsUptoCard
end Rows
end Go.Proofs.YtjgicjgpahnmaaaDoor
