/-
  DERIVED. GIVEN WITH THE SEED: THE CARDS: each row of YtfgdhcomldidlaaGreatDoorRows.lean that lists a variable, with what it lists TIED to the program's text (the seventh form; the later family's looks); each row that meets fmt, with fmt's text TOLD by the authors' own Lean function (tested against real Go, not proved from fmt's source: count such statements apart). THE CARD IS WHAT COUNTS. Prove the row's statement (the work); the ties are given (YtfgdhcomldidlaaGreatDoorTie.lean); close each card by the builder's one call (the guide's Derived/Test/ToyasCard.lean, 'card_holds'). Laid BY PROGRAM, IN A SANDBOX (cutbox-door.mjs). By AI agents, Wed Nov 11 2026. No macro, syntax, notation, axiom, sorry.
-/
import Derived.Test.YtfgdhcomldidlaaGreatDoorRows
import GoSem.ClaimSeven
namespace Go.Proofs.YtfgdhcomldidlaaGreatDoor
namespace Rows

/-- THE TIED CARD OF 'hindsightlaw26.ShowInts'. -/
def showIntsCard : Claim7 := { stood := { row := showIntsRow, standIns := [], harness := (true, "e9ae693b11bb0874a181bfc7300e41a5e328ac659d1ef47c36dd014e4b7763b1"), looks := false }, kinds := [], alts := [], laidByText := true, laidKinds := [.data, .data, .data, .data, .data, .pinned, .pinned, .pinned], laidTests := true, laidLooks := .later }
def ShowIntsCardSaid : Prop := Claim7.holds Tryz.pinned (.plain (OpenSpec.ofChange showIntsSpec)) showIntsCard

/-- THE TIED CARD OF 'hindsightlaw26.ShowKnown'. -/
def showKnownCard : Claim7 := { stood := { row := showKnownRow, standIns := [], harness := (true, "e9ae693b11bb0874a181bfc7300e41a5e328ac659d1ef47c36dd014e4b7763b1"), looks := false }, kinds := [], alts := [], laidByText := true, laidKinds := [.data, .data, .data, .data, .data, .pinned, .pinned, .pinned], laidTests := true, laidLooks := .later }
def ShowKnownCardSaid : Prop := Claim7.holds Tryz.pinned (.plain (OpenSpec.ofChange showKnownSpec)) showKnownCard

/-- THE SECOND FORM's CARD OF 'hindsightlaw26.ShowInts'. -/
def showIntsUptoCard : Claim7 := { stood := { row := showIntsUptoRow, standIns := [], harness := (true, "e9ae693b11bb0874a181bfc7300e41a5e328ac659d1ef47c36dd014e4b7763b1"), looks := false }, kinds := [], alts := [], laidByText := true, laidKinds := [.data, .data, .data, .data, .data, .pinned, .pinned, .pinned], laidTests := true, laidLooks := .later }
def ShowIntsUptoCardSaid : Prop := Claim7.holds Tryz.pinned (.plain (OpenSpec.upto showIntsSpec)) showIntsUptoCard

/-- THE SECOND FORM's CARD OF 'hindsightlaw26.ShowKnown'. -/
def showKnownUptoCard : Claim7 := { stood := { row := showKnownUptoRow, standIns := [], harness := (true, "e9ae693b11bb0874a181bfc7300e41a5e328ac659d1ef47c36dd014e4b7763b1"), looks := false }, kinds := [], alts := [], laidByText := true, laidKinds := [.data, .data, .data, .data, .data, .pinned, .pinned, .pinned], laidTests := true, laidLooks := .later }
def ShowKnownUptoCardSaid : Prop := Claim7.holds Tryz.pinned (.plain (OpenSpec.upto showKnownSpec)) showKnownUptoCard
end Rows
end Go.Proofs.YtfgdhcomldidlaaGreatDoor
