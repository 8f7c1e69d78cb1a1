/-
  SlotKnown: closed facts of the card.
-/
import Derived.Test.YtfilcgomgnccjaaGreatDoorProg
import Derived.Test.YtfilcgomgnccjaaGreatDoorRows
import Derived.Test.YtfilcgomgnccjaaGreatDoorRowF
import Derived.SevenTiedAt
set_option linter.unusedSimpArgs false
set_option linter.unusedVariables false
namespace Go.Proofs.YtfilcgomgnccjaaGreatDoor.slotKnown
open Go
theorem cardWf : Rows.slotKnownRow.wfByText (OpenSpec.ofChange Rows.slotKnownSpec) = true := by kernel_rfl
theorem cardMain : Tryz.pinned.checked.prog.mainIs = some (true, "6915cfc732727408c97fba3074ba9ae015ef262648fc9ade719690273d02470a".toList) := by kernel_rfl
end Go.Proofs.YtfilcgomgnccjaaGreatDoor.slotKnown
