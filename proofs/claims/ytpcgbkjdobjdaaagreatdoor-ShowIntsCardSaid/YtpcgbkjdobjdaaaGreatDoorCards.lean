/-
  DERIVED. GIVEN WITH THE SEED: THE CARDS: each row of YtpcgbkjdobjdaaaGreatDoorRows.lean that lists a variable, with what it lists TIED to the program's text (the seventh form; the later family's looks); each row that meets fmt, with fmt's text TOLD by the authors' own Lean function (tested against real Go, not proved from fmt's source: count such statements apart). THE CARD IS WHAT COUNTS. Prove the row's statement (the work); the ties are given (YtpcgbkjdobjdaaaGreatDoorTie.lean); close each card by the builder's one call (the guide's Derived/Test/ToyasCard.lean, 'card_holds'). Laid BY PROGRAM, IN A SANDBOX (cutbox-door.mjs). By AI agents, Wed Nov 11 2026. No macro, syntax, notation, axiom, sorry.
-/
import Derived.Test.YtpcgbkjdobjdaaaGreatDoorRows
import GoSem.ClaimSeven
namespace Go.Proofs.YtpcgbkjdobjdaaaGreatDoor
namespace Rows

/-- THE TIED CARD OF 'hindsightlaw26.ShowInts'. -/
def showIntsCard : Claim7 := { stood := { row := showIntsRow, standIns := [], harness := (true, "75eb2659996f75bb26fc8493b1c26ba066431086b894cfd7b374bb67a5362432"), looks := false }, kinds := [], alts := [], laidByText := true, laidKinds := [.data, .data, .data, .data, .data, .pinned, .pinned, .pinned], laidTests := true, laidLooks := .later }
def ShowIntsCardSaid : Prop := Claim7.holds Tryz.pinned (.plain (OpenSpec.ofChange showIntsSpec)) showIntsCard

/-- THE SECOND FORM's CARD OF 'hindsightlaw26.ShowInts'. -/
def showIntsUptoCard : Claim7 := { stood := { row := showIntsUptoRow, standIns := [], harness := (true, "75eb2659996f75bb26fc8493b1c26ba066431086b894cfd7b374bb67a5362432"), looks := false }, kinds := [], alts := [], laidByText := true, laidKinds := [.data, .data, .data, .data, .data, .pinned, .pinned, .pinned], laidTests := true, laidLooks := .later }
def ShowIntsUptoCardSaid : Prop := Claim7.holds Tryz.pinned (.plain (OpenSpec.upto showIntsSpec)) showIntsUptoCard
end Rows
end Go.Proofs.YtpcgbkjdobjdaaaGreatDoor
