/-
  DERIVED. GIVEN WITH THE SEED: THE CARDS: each row of YthjaoinieikjdaaGreatDoorRows.lean that lists a variable, with what it lists TIED to the program's text (the seventh form; the later family's looks); each row that meets fmt, with fmt's text TOLD by the authors' own Lean function (tested against real Go, not proved from fmt's source: count such statements apart). THE CARD IS WHAT COUNTS. Prove the row's statement (the work); the ties are given (YthjaoinieikjdaaGreatDoorTie.lean); close each card by the builder's one call (the guide's Derived/Test/ToyasCard.lean, 'card_holds'). Laid BY PROGRAM, IN A SANDBOX (cutbox-door.mjs). By AI agents, Wed Nov 11 2026. No macro, syntax, notation, axiom, sorry.
-/
import Derived.Test.YthjaoinieikjdaaGreatDoorRows
import GoSem.ClaimSeven
namespace Go.Proofs.YthjaoinieikjdaaGreatDoor
namespace Rows

/-- THE TIED CARD OF 'hindsightlaw13.SlotCounts'. -/
def slotCountsCard : Claim7 := { stood := { row := slotCountsRow, standIns := [], harness := (true, "aadbce135cdd32214bb237f262ea06d942474da2484e97b9936f5af1d2e8ec18"), looks := false }, kinds := [], alts := [], laidByText := true, laidKinds := [.data, .data, .pinned, .pinned, .pinned], laidTests := true, laidLooks := .later }
def SlotCountsCardSaid : Prop := Claim7.holds Tryz.pinned (.plain (OpenSpec.ofChange slotCountsSpec)) slotCountsCard

/-- THE TIED CARD OF 'hindsightlaw13.SlotSays'. -/
def slotSaysCard : Claim7 := { stood := { row := slotSaysRow, standIns := [], harness := (true, "aadbce135cdd32214bb237f262ea06d942474da2484e97b9936f5af1d2e8ec18"), looks := false }, kinds := [], alts := [], laidByText := true, laidKinds := [.data, .data, .pinned, .pinned, .pinned], laidTests := true, laidLooks := .later }
def SlotSaysCardSaid : Prop := Claim7.holds Tryz.pinned (.plain (OpenSpec.ofChange slotSaysSpec)) slotSaysCard

/-- THE TIED CARD OF 'hindsightlaw13.SlotTexts'. -/
def slotTextsCard : Claim7 := { stood := { row := slotTextsRow, standIns := [], harness := (true, "aadbce135cdd32214bb237f262ea06d942474da2484e97b9936f5af1d2e8ec18"), looks := false }, kinds := [], alts := [], laidByText := true, laidKinds := [.data, .data, .pinned, .pinned, .pinned], laidTests := true, laidLooks := .later }
def SlotTextsCardSaid : Prop := Claim7.holds Tryz.pinned (.plain (OpenSpec.ofChange slotTextsSpec)) slotTextsCard

/-- THE TIED CARD OF 'hindsightlaw13.SlotApart'. -/
def slotApartCard : Claim7 := { stood := { row := slotApartRow, standIns := [], harness := (true, "aadbce135cdd32214bb237f262ea06d942474da2484e97b9936f5af1d2e8ec18"), looks := false }, kinds := [], alts := [], laidByText := true, laidKinds := [.data, .data, .pinned, .pinned, .pinned], laidTests := true, laidLooks := .later }
def SlotApartCardSaid : Prop := Claim7.holds Tryz.pinned (.plain (OpenSpec.ofChange slotApartSpec)) slotApartCard

/-- THE TIED CARD OF 'hindsightlaw3.TreeSays'. -/
def treeSaysCard : Claim7 := { stood := { row := treeSaysRow, standIns := [], harness := (true, "aadbce135cdd32214bb237f262ea06d942474da2484e97b9936f5af1d2e8ec18"), looks := false }, kinds := [], alts := [], laidByText := true, laidKinds := [.data, .data, .data, .data, .data, .pinned, .pinned, .pinned], laidTests := true, laidLooks := .later }
def TreeSaysCardSaid : Prop := Claim7.holds Tryz.pinned (.plain (OpenSpec.ofChange treeSaysSpec)) treeSaysCard

/-- THE SECOND FORM's CARD OF 'hindsightlaw13.SlotCounts'. -/
def slotCountsUptoCard : Claim7 := { stood := { row := slotCountsUptoRow, standIns := [], harness := (true, "aadbce135cdd32214bb237f262ea06d942474da2484e97b9936f5af1d2e8ec18"), looks := false }, kinds := [], alts := [], laidByText := true, laidKinds := [.data, .data, .pinned, .pinned, .pinned], laidTests := true, laidLooks := .later }
def SlotCountsUptoCardSaid : Prop := Claim7.holds Tryz.pinned (.plain (OpenSpec.upto slotCountsSpec)) slotCountsUptoCard

/-- THE SECOND FORM's CARD OF 'hindsightlaw13.SlotSays'. -/
def slotSaysUptoCard : Claim7 := { stood := { row := slotSaysUptoRow, standIns := [], harness := (true, "aadbce135cdd32214bb237f262ea06d942474da2484e97b9936f5af1d2e8ec18"), looks := false }, kinds := [], alts := [], laidByText := true, laidKinds := [.data, .data, .pinned, .pinned, .pinned], laidTests := true, laidLooks := .later }
def SlotSaysUptoCardSaid : Prop := Claim7.holds Tryz.pinned (.plain (OpenSpec.upto slotSaysSpec)) slotSaysUptoCard

/-- THE SECOND FORM's CARD OF 'hindsightlaw13.SlotTexts'. -/
def slotTextsUptoCard : Claim7 := { stood := { row := slotTextsUptoRow, standIns := [], harness := (true, "aadbce135cdd32214bb237f262ea06d942474da2484e97b9936f5af1d2e8ec18"), looks := false }, kinds := [], alts := [], laidByText := true, laidKinds := [.data, .data, .pinned, .pinned, .pinned], laidTests := true, laidLooks := .later }
def SlotTextsUptoCardSaid : Prop := Claim7.holds Tryz.pinned (.plain (OpenSpec.upto slotTextsSpec)) slotTextsUptoCard

/-- THE SECOND FORM's CARD OF 'hindsightlaw13.SlotApart'. -/
def slotApartUptoCard : Claim7 := { stood := { row := slotApartUptoRow, standIns := [], harness := (true, "aadbce135cdd32214bb237f262ea06d942474da2484e97b9936f5af1d2e8ec18"), looks := false }, kinds := [], alts := [], laidByText := true, laidKinds := [.data, .data, .pinned, .pinned, .pinned], laidTests := true, laidLooks := .later }
def SlotApartUptoCardSaid : Prop := Claim7.holds Tryz.pinned (.plain (OpenSpec.upto slotApartSpec)) slotApartUptoCard

/-- THE SECOND FORM's CARD OF 'hindsightlaw3.TreeSays'. -/
def treeSaysUptoCard : Claim7 := { stood := { row := treeSaysUptoRow, standIns := [], harness := (true, "aadbce135cdd32214bb237f262ea06d942474da2484e97b9936f5af1d2e8ec18"), looks := false }, kinds := [], alts := [], laidByText := true, laidKinds := [.data, .data, .data, .data, .data, .pinned, .pinned, .pinned], laidTests := true, laidLooks := .later }
def TreeSaysUptoCardSaid : Prop := Claim7.holds Tryz.pinned (.plain (OpenSpec.upto treeSaysSpec)) treeSaysUptoCard
end Rows
end Go.Proofs.YthjaoinieikjdaaGreatDoor
