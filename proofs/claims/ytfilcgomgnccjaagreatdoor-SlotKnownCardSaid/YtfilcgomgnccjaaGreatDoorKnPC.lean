/-
  SlotKnown: closed facts of the row.
-/
import Derived.Test.YtfilcgomgnccjaaGreatDoorProg
import Derived.Test.YtfilcgomgnccjaaGreatDoorRows
import Derived.Test.YtfilcgomgnccjaaGreatDoorRowF
set_option linter.unusedSimpArgs false
set_option linter.unusedVariables false
namespace Go.Proofs.YtfilcgomgnccjaaGreatDoor.slotKnown
open Go
theorem fact2 : (mapsRowed Tryz.prog) = true := by kernel_rfl
theorem fact3 : (Tryz.f3.params.all (Tryz.prog.readableRec ·)) = true := by kernel_rfl
theorem fact4 : (namedTie Tryz.prog Rows.slotKnownRow.named Rows.slotKnownSpec.vars) = true := by kernel_rfl
theorem fact5 : ((Rows.slotKnownRow.stops == [])) = true := by kernel_rfl
theorem fact6 : ((Tryz.prog.stops == [])) = true := by kernel_rfl
theorem fact7 : ((Rows.slotKnownRow.knobs == [])) = true := by kernel_rfl
theorem fact8 : ((Tryz.prog.stopKnobs == [])) = true := by kernel_rfl
end Go.Proofs.YtfilcgomgnccjaaGreatDoor.slotKnown
