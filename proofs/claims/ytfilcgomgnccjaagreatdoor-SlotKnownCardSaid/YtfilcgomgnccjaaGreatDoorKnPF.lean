/-
  SlotKnown: closed facts of the row.
-/
import Derived.Test.YtfilcgomgnccjaaGreatDoorProg
import Derived.Test.YtfilcgomgnccjaaGreatDoorRows
import Derived.Test.YtfilcgomgnccjaaGreatDoorRowF
set_option linter.unusedSimpArgs false
set_option linter.unusedVariables false
namespace Go.Proofs.YtfilcgomgnccjaaGreatDoor.slotKnown
open Go
theorem fact13 : ((Rows.slotKnownRow.maps == (Tryz.f3.params.toList ++ Rows.slotKnownSpec.plain.varTypes Tryz.prog).any (Tryz.prog.mapsRec ·))) = true := by kernel_rfl
theorem fact14 : ((Rows.slotKnownRow.ifaces == (Tryz.f3.params.toList ++ Rows.slotKnownSpec.plain.varTypes Tryz.prog).any (Tryz.prog.ifacesRec ·))) = true := by kernel_rfl
theorem fact15 : ((Rows.slotKnownRow.mapsOut == Tryz.prog.mapsAmong Tryz.f3.resultTypes.toList)) = true := by kernel_rfl
theorem fact16 : ((Rows.slotKnownRow.loops == (Tryz.f3.params.toList ++ Rows.slotKnownSpec.plain.varTypes Tryz.prog).any (Tryz.prog.loopsFrom ·))) = true := by kernel_rfl
theorem fact17 : ((Rows.slotKnownRow.wideKeys == (Tryz.f3.params.toList ++ Rows.slotKnownSpec.plain.varTypes Tryz.prog ++ Tryz.f3.resultTypes.toList).any (Tryz.prog.wideKeysFrom ·))) = true := by kernel_rfl
theorem fact18 : (Rows.slotKnownSpec.vars.all (Tryz.prog.varReadable ·)) = true := by kernel_rfl
theorem fact19 : (Tryz.f3.resultTypes.all (fun t => Tryz.prog.readableRec t && decide (t < Tryz.prog.types.size))) = true := by kernel_rfl
theorem fact20 : ((Rows.slotKnownRow.ifacesOut == Tryz.f3.resultTypes.toList.any (Tryz.prog.ifacesRec ·))) = true := by kernel_rfl
theorem fact21 : ((Rows.slotKnownRow.loopsOut == Tryz.f3.resultTypes.toList.any (Tryz.prog.loopsFrom ·))) = true := by kernel_rfl
end Go.Proofs.YtfilcgomgnccjaaGreatDoor.slotKnown
