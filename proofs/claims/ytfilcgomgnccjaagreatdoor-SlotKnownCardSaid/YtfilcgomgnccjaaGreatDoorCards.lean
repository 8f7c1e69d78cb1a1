/-
  DERIVED. GIVEN WITH THE SEED: THE CARDS: each row of YtfilcgomgnccjaaGreatDoorRows.lean that lists a variable, with what it lists TIED to the program's text (the seventh form; the later family's looks); each row that meets fmt, with fmt's text TOLD by the authors' own Lean function (tested against real Go, not proved from fmt's source: count such statements apart). THE CARD IS WHAT COUNTS. Prove the row's statement (the work); the ties are given (YtfilcgomgnccjaaGreatDoorTie.lean); close each card by the builder's one call (the guide's Derived/Test/ToyasCard.lean, 'card_holds'). Laid BY PROGRAM, IN A SANDBOX (cutbox-door.mjs). By AI agents, Wed Nov 11 2026. No macro, syntax, notation, axiom, sorry.
-/
import Derived.Test.YtfilcgomgnccjaaGreatDoorRows
import GoSem.ClaimSeven
namespace Go.Proofs.YtfilcgomgnccjaaGreatDoor
namespace Rows

/-- THE TIED CARD OF 'hindsightlaw13.SlotKnown'. -/
def slotKnownCard : Claim7 := { stood := { row := slotKnownRow, standIns := [], harness := (true, "6915cfc732727408c97fba3074ba9ae015ef262648fc9ade719690273d02470a"), looks := false }, kinds := [], alts := [], laidByText := true, laidKinds := [.data, .data, .pinned, .pinned, .pinned], laidTests := true, laidLooks := .later }
def SlotKnownCardSaid : Prop := Claim7.holds Tryz.pinned (.plain (OpenSpec.ofChange slotKnownSpec)) slotKnownCard

/-- THE SECOND FORM's CARD OF 'hindsightlaw13.SlotKnown'. -/
def slotKnownUptoCard : Claim7 := { stood := { row := slotKnownUptoRow, standIns := [], harness := (true, "6915cfc732727408c97fba3074ba9ae015ef262648fc9ade719690273d02470a"), looks := false }, kinds := [], alts := [], laidByText := true, laidKinds := [.data, .data, .pinned, .pinned, .pinned], laidTests := true, laidLooks := .later }
def SlotKnownUptoCardSaid : Prop := Claim7.holds Tryz.pinned (.plain (OpenSpec.upto slotKnownSpec)) slotKnownUptoCard
end Rows
end Go.Proofs.YtfilcgomgnccjaaGreatDoor
