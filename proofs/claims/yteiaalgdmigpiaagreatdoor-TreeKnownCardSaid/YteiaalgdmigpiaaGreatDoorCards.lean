/-
  DERIVED. GIVEN WITH THE SEED: THE CARDS: each row of YteiaalgdmigpiaaGreatDoorRows.lean that lists a variable, with what it lists TIED to the program's text (the seventh form; the later family's looks); each row that meets fmt, with fmt's text TOLD by the authors' own Lean function (tested against real Go, not proved from fmt's source: count such statements apart). THE CARD IS WHAT COUNTS. Prove the row's statement (the work); the ties are given (YteiaalgdmigpiaaGreatDoorTie.lean); close each card by the builder's one call (the guide's Derived/Test/ToyasCard.lean, 'card_holds'). Laid BY PROGRAM, IN A SANDBOX (cutbox-door.mjs). By AI agents, Wed Nov 11 2026. No macro, syntax, notation, axiom, sorry.
-/
import Derived.Test.YteiaalgdmigpiaaGreatDoorRows
import GoSem.ClaimSeven
namespace Go.Proofs.YteiaalgdmigpiaaGreatDoor
namespace Rows

/-- THE TIED CARD OF 'hindsightlaw13.SlotKnown'. -/
def slotKnownCard : Claim7 := { stood := { row := slotKnownRow, standIns := [], harness := (true, "c63e864a3845fc14fc56a25b5a356006397714fe317c81ca0fa1abe4497d4463"), looks := false }, kinds := [], alts := [], laidByText := true, laidKinds := [.data, .data, .pinned, .pinned, .pinned], laidTests := true, laidLooks := .later }
def SlotKnownCardSaid : Prop := Claim7.holds Tryz.pinned (.plain (OpenSpec.ofChange slotKnownSpec)) slotKnownCard

/-- THE TIED CARD OF 'hindsightlaw3.TreeKnown'. -/
def treeKnownCard : Claim7 := { stood := { row := treeKnownRow, standIns := [], harness := (true, "c63e864a3845fc14fc56a25b5a356006397714fe317c81ca0fa1abe4497d4463"), looks := false }, kinds := [], alts := [], laidByText := true, laidKinds := [.data, .data, .data, .data, .data, .pinned, .pinned, .pinned], laidTests := true, laidLooks := .later }
def TreeKnownCardSaid : Prop := Claim7.holds Tryz.pinned (.plain (OpenSpec.ofChange treeKnownSpec)) treeKnownCard

/-- THE SECOND FORM's CARD OF 'hindsightlaw13.SlotKnown'. -/
def slotKnownUptoCard : Claim7 := { stood := { row := slotKnownUptoRow, standIns := [], harness := (true, "c63e864a3845fc14fc56a25b5a356006397714fe317c81ca0fa1abe4497d4463"), looks := false }, kinds := [], alts := [], laidByText := true, laidKinds := [.data, .data, .pinned, .pinned, .pinned], laidTests := true, laidLooks := .later }
def SlotKnownUptoCardSaid : Prop := Claim7.holds Tryz.pinned (.plain (OpenSpec.upto slotKnownSpec)) slotKnownUptoCard

/-- THE SECOND FORM's CARD OF 'hindsightlaw3.TreeKnown'. -/
def treeKnownUptoCard : Claim7 := { stood := { row := treeKnownUptoRow, standIns := [], harness := (true, "c63e864a3845fc14fc56a25b5a356006397714fe317c81ca0fa1abe4497d4463"), looks := false }, kinds := [], alts := [], laidByText := true, laidKinds := [.data, .data, .data, .data, .data, .pinned, .pinned, .pinned], laidTests := true, laidLooks := .later }
def TreeKnownUptoCardSaid : Prop := Claim7.holds Tryz.pinned (.plain (OpenSpec.upto treeKnownSpec)) treeKnownUptoCard
end Rows
end Go.Proofs.YteiaalgdmigpiaaGreatDoor
