/-
  SlotKnown: closed facts of the row.
-/
import Derived.Test.YtfilcgomgnccjaaGreatDoorProg
import Derived.Test.YtfilcgomgnccjaaGreatDoorRows
import Derived.Test.YtfilcgomgnccjaaGreatDoorRowF
set_option linter.unusedSimpArgs false
set_option linter.unusedVariables false
namespace Go.Proofs.YtfilcgomgnccjaaGreatDoor.slotKnown
open Go
theorem fact1 : (laidOutB Tryz.prog) = true := by kernel_rfl
end Go.Proofs.YtfilcgomgnccjaaGreatDoor.slotKnown
