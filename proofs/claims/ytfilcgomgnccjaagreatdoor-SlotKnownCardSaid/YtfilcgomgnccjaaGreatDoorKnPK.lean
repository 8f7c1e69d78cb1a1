/-
  SlotKnown: closed facts of the card.
-/
import Derived.Test.YtfilcgomgnccjaaGreatDoorProg
import Derived.Test.YtfilcgomgnccjaaGreatDoorRows
import Derived.Test.YtfilcgomgnccjaaGreatDoorRowF
import Derived.SevenTiedAt
set_option linter.unusedSimpArgs false
set_option linter.unusedVariables false
namespace Go.Proofs.YtfilcgomgnccjaaGreatDoor.slotKnown
open Go
theorem noGo : Tryz.prog.funcs.any Func.goes = false := by kernel_rfl
theorem cardGoes : false = Rows.slotKnownRow.goesBy Tryz.pinned.checked.prog := (RowF.goes_false (P := Tryz.prog) noGo _).symm
end Go.Proofs.YtfilcgomgnccjaaGreatDoor.slotKnown
