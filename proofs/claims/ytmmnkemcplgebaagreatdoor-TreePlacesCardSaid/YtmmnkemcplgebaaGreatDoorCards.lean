/-
  DERIVED. GIVEN WITH THE SEED: THE CARDS: each row of YtmmnkemcplgebaaGreatDoorRows.lean that lists a variable, with what it lists TIED to the program's text (the seventh form; the later family's looks); each row that meets fmt, with fmt's text TOLD by the authors' own Lean function (tested against real Go, not proved from fmt's source: count such statements apart). THE CARD IS WHAT COUNTS. Prove the row's statement (the work); the ties are given (YtmmnkemcplgebaaGreatDoorTie.lean); close each card by the builder's one call (the guide's Derived/Test/ToyasCard.lean, 'card_holds'). Laid BY PROGRAM, IN A SANDBOX (cutbox-door.mjs). By AI agents, Wed Nov 11 2026. No macro, syntax, notation, axiom, sorry.
-/
import Derived.Test.YtmmnkemcplgebaaGreatDoorRows
import GoSem.ClaimSeven
namespace Go.Proofs.YtmmnkemcplgebaaGreatDoor
namespace Rows

/-- THE TIED CARD OF 'hindsightlaw3.TreeFree'. -/
def treeFreeCard : Claim7 := { stood := { row := treeFreeRow, standIns := [], harness := (true, "c18a1c4f1cb4e7cd5f97f4068ec765be9d4da339ed64ab5ab60a0f329d1dc634"), looks := false }, kinds := [], alts := [], laidByText := true, laidKinds := [.data, .data, .data, .data, .data, .pinned, .pinned, .pinned], laidTests := true, laidLooks := .later }
def TreeFreeCardSaid : Prop := Claim7.holds Tryz.pinned (.plain (OpenSpec.ofChange treeFreeSpec)) treeFreeCard

/-- THE TIED CARD OF 'hindsightlaw3.TreeStops'. -/
def treeStopsCard : Claim7 := { stood := { row := treeStopsRow, standIns := [], harness := (true, "c18a1c4f1cb4e7cd5f97f4068ec765be9d4da339ed64ab5ab60a0f329d1dc634"), looks := false }, kinds := [], alts := [], laidByText := true, laidKinds := [.data, .data, .data, .data, .data, .pinned, .pinned, .pinned], laidTests := true, laidLooks := .later }
def TreeStopsCardSaid : Prop := Claim7.holds Tryz.pinned (.plain (OpenSpec.ofChange treeStopsSpec)) treeStopsCard

/-- THE TIED CARD OF 'hindsightlaw3.TreePlaces'. -/
def treePlacesCard : Claim7 := { stood := { row := treePlacesRow, standIns := [], harness := (true, "c18a1c4f1cb4e7cd5f97f4068ec765be9d4da339ed64ab5ab60a0f329d1dc634"), looks := false }, kinds := [], alts := [], laidByText := true, laidKinds := [.data, .data, .data, .data, .data, .pinned, .pinned, .pinned], laidTests := true, laidLooks := .later }
def TreePlacesCardSaid : Prop := Claim7.holds Tryz.pinned (.plain (OpenSpec.ofChange treePlacesSpec)) treePlacesCard

/-- THE TIED CARD OF 'hindsightlaw3.TreeSays'. -/
def treeSaysCard : Claim7 := { stood := { row := treeSaysRow, standIns := [], harness := (true, "c18a1c4f1cb4e7cd5f97f4068ec765be9d4da339ed64ab5ab60a0f329d1dc634"), looks := false }, kinds := [], alts := [], laidByText := true, laidKinds := [.data, .data, .data, .data, .data, .pinned, .pinned, .pinned], laidTests := true, laidLooks := .later }
def TreeSaysCardSaid : Prop := Claim7.holds Tryz.pinned (.plain (OpenSpec.ofChange treeSaysSpec)) treeSaysCard

/-- THE SECOND FORM's CARD OF 'hindsightlaw3.TreeFree'. -/
def treeFreeUptoCard : Claim7 := { stood := { row := treeFreeUptoRow, standIns := [], harness := (true, "c18a1c4f1cb4e7cd5f97f4068ec765be9d4da339ed64ab5ab60a0f329d1dc634"), looks := false }, kinds := [], alts := [], laidByText := true, laidKinds := [.data, .data, .data, .data, .data, .pinned, .pinned, .pinned], laidTests := true, laidLooks := .later }
def TreeFreeUptoCardSaid : Prop := Claim7.holds Tryz.pinned (.plain (OpenSpec.upto treeFreeSpec)) treeFreeUptoCard

/-- THE SECOND FORM's CARD OF 'hindsightlaw3.TreeStops'. -/
def treeStopsUptoCard : Claim7 := { stood := { row := treeStopsUptoRow, standIns := [], harness := (true, "c18a1c4f1cb4e7cd5f97f4068ec765be9d4da339ed64ab5ab60a0f329d1dc634"), looks := false }, kinds := [], alts := [], laidByText := true, laidKinds := [.data, .data, .data, .data, .data, .pinned, .pinned, .pinned], laidTests := true, laidLooks := .later }
def TreeStopsUptoCardSaid : Prop := Claim7.holds Tryz.pinned (.plain (OpenSpec.upto treeStopsSpec)) treeStopsUptoCard

/-- THE SECOND FORM's CARD OF 'hindsightlaw3.TreePlaces'. -/
def treePlacesUptoCard : Claim7 := { stood := { row := treePlacesUptoRow, standIns := [], harness := (true, "c18a1c4f1cb4e7cd5f97f4068ec765be9d4da339ed64ab5ab60a0f329d1dc634"), looks := false }, kinds := [], alts := [], laidByText := true, laidKinds := [.data, .data, .data, .data, .data, .pinned, .pinned, .pinned], laidTests := true, laidLooks := .later }
def TreePlacesUptoCardSaid : Prop := Claim7.holds Tryz.pinned (.plain (OpenSpec.upto treePlacesSpec)) treePlacesUptoCard

/-- THE SECOND FORM's CARD OF 'hindsightlaw3.TreeSays'. -/
def treeSaysUptoCard : Claim7 := { stood := { row := treeSaysUptoRow, standIns := [], harness := (true, "c18a1c4f1cb4e7cd5f97f4068ec765be9d4da339ed64ab5ab60a0f329d1dc634"), looks := false }, kinds := [], alts := [], laidByText := true, laidKinds := [.data, .data, .data, .data, .data, .pinned, .pinned, .pinned], laidTests := true, laidLooks := .later }
def TreeSaysUptoCardSaid : Prop := Claim7.holds Tryz.pinned (.plain (OpenSpec.upto treeSaysSpec)) treeSaysUptoCard
end Rows
end Go.Proofs.YtmmnkemcplgebaaGreatDoor
