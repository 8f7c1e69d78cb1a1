/-
  DERIVED. GIVEN WITH THE SEED: THE CARDS: each row of YtgfaeilkkmjkoaaGreatDoorRows.lean that lists a variable, with what it lists TIED to the program's text (the seventh form; the later family's looks); each row that meets fmt, with fmt's text TOLD by the authors' own Lean function (tested against real Go, not proved from fmt's source: count such statements apart). THE CARD IS WHAT COUNTS. Prove the row's statement (the work); the ties are given (YtgfaeilkkmjkoaaGreatDoorTie.lean); close each card by the builder's one call (the guide's Derived/Test/ToyasCard.lean, 'card_holds'). Laid BY PROGRAM, IN A SANDBOX (cutbox-door.mjs). By AI agents, Wed Nov 11 2026. No macro, syntax, notation, axiom, sorry.
-/
import Derived.Test.YtgfaeilkkmjkoaaGreatDoorRows
import GoSem.ClaimSeven
namespace Go.Proofs.YtgfaeilkkmjkoaaGreatDoor
namespace Rows

/-- THE TIED CARD OF 'hindsightlaw20.VmKnown'. -/
def vmKnownCard : Claim7 := { stood := { row := vmKnownRow, standIns := [], harness := (true, "2a47aa2f7187091182cc5ab649ec8a91970980de1d3ac15236cfb63498c9d181"), looks := false }, kinds := [], alts := [], laidByText := true, laidKinds := [.data, .data, .data, .data, .data, .pinned, .pinned, .pinned], laidTests := true, laidLooks := .later }
def VmKnownCardSaid : Prop := Claim7.holds Tryz.pinned (.plain (OpenSpec.ofChange vmKnownSpec)) vmKnownCard

/-- THE SECOND FORM's CARD OF 'hindsightlaw20.VmKnown'. -/
def vmKnownUptoCard : Claim7 := { stood := { row := vmKnownUptoRow, standIns := [], harness := (true, "2a47aa2f7187091182cc5ab649ec8a91970980de1d3ac15236cfb63498c9d181"), looks := false }, kinds := [], alts := [], laidByText := true, laidKinds := [.data, .data, .data, .data, .data, .pinned, .pinned, .pinned], laidTests := true, laidLooks := .later }
def VmKnownUptoCardSaid : Prop := Claim7.holds Tryz.pinned (.plain (OpenSpec.upto vmKnownSpec)) vmKnownUptoCard
end Rows
end Go.Proofs.YtgfaeilkkmjkoaaGreatDoor
