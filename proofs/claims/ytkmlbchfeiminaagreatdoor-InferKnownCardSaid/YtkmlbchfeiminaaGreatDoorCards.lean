/-
  DERIVED. GIVEN WITH THE SEED: THE CARDS: each row of YtkmlbchfeiminaaGreatDoorRows.lean that lists a variable, with what it lists TIED to the program's text (the seventh form; the later family's looks); each row that meets fmt, with fmt's text TOLD by the authors' own Lean function (tested against real Go, not proved from fmt's source: count such statements apart). THE CARD IS WHAT COUNTS. Prove the row's statement (the work); the ties are given (YtkmlbchfeiminaaGreatDoorTie.lean); close each card by the builder's one call (the guide's Derived/Test/ToyasCard.lean, 'card_holds'). Laid BY PROGRAM, IN A SANDBOX (cutbox-door.mjs). By AI agents, Wed Nov 11 2026. No macro, syntax, notation, axiom, sorry.
-/
import Derived.Test.YtkmlbchfeiminaaGreatDoorRows
import GoSem.ClaimSeven
namespace Go.Proofs.YtkmlbchfeiminaaGreatDoor
namespace Rows

/-- THE TIED CARD OF 'hindsightlaw7.InferKnown'. -/
def inferKnownCard : Claim7 := { stood := { row := inferKnownRow, standIns := [], harness := (true, "c11245d2744b4fcd0ce7aa29ab179566827e5951103895216ac4c734bdb3cd6e"), looks := false }, kinds := [], alts := [], laidByText := true, laidKinds := [.data, .data, .data, .data, .data, .pinned, .pinned, .pinned], laidTests := true, laidLooks := .later }
def InferKnownCardSaid : Prop := Claim7.holds Tryz.pinned (.plain (OpenSpec.ofChange inferKnownSpec)) inferKnownCard

/-- THE SECOND FORM's CARD OF 'hindsightlaw7.InferKnown'. -/
def inferKnownUptoCard : Claim7 := { stood := { row := inferKnownUptoRow, standIns := [], harness := (true, "c11245d2744b4fcd0ce7aa29ab179566827e5951103895216ac4c734bdb3cd6e"), looks := false }, kinds := [], alts := [], laidByText := true, laidKinds := [.data, .data, .data, .data, .data, .pinned, .pinned, .pinned], laidTests := true, laidLooks := .later }
def InferKnownUptoCardSaid : Prop := Claim7.holds Tryz.pinned (.plain (OpenSpec.upto inferKnownSpec)) inferKnownUptoCard
end Rows
end Go.Proofs.YtkmlbchfeiminaaGreatDoor
