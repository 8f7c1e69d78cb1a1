/-
  ShowKnown: closed facts of the row.
-/
import Derived.Test.YtfgdhcomldidlaaGreatDoorProg
import Derived.Test.YtfgdhcomldidlaaGreatDoorRows
import Derived.Test.YtfgdhcomldidlaaGreatDoorRowF
set_option linter.unusedSimpArgs false
set_option linter.unusedVariables false
namespace Go.Proofs.YtfgdhcomldidlaaGreatDoor.showKnown
open Go
theorem fact13 : ((Rows.showKnownRow.maps == (Tryz.f4.params.toList ++ Rows.showKnownSpec.plain.varTypes Tryz.prog).any (Tryz.prog.mapsRec ·))) = true := by kernel_rfl
theorem fact14 : ((Rows.showKnownRow.ifaces == (Tryz.f4.params.toList ++ Rows.showKnownSpec.plain.varTypes Tryz.prog).any (Tryz.prog.ifacesRec ·))) = true := by kernel_rfl
theorem fact15 : ((Rows.showKnownRow.mapsOut == Tryz.prog.mapsAmong Tryz.f4.resultTypes.toList)) = true := by kernel_rfl
theorem fact16 : ((Rows.showKnownRow.loops == (Tryz.f4.params.toList ++ Rows.showKnownSpec.plain.varTypes Tryz.prog).any (Tryz.prog.loopsFrom ·))) = true := by kernel_rfl
theorem fact17 : ((Rows.showKnownRow.wideKeys == (Tryz.f4.params.toList ++ Rows.showKnownSpec.plain.varTypes Tryz.prog ++ Tryz.f4.resultTypes.toList).any (Tryz.prog.wideKeysFrom ·))) = true := by kernel_rfl
theorem fact18 : (Rows.showKnownSpec.vars.all (Tryz.prog.varReadable ·)) = true := by kernel_rfl
theorem fact19 : (Tryz.f4.resultTypes.all (fun t => Tryz.prog.readableRec t && decide (t < Tryz.prog.types.size))) = true := by kernel_rfl
theorem fact20 : ((Rows.showKnownRow.ifacesOut == Tryz.f4.resultTypes.toList.any (Tryz.prog.ifacesRec ·))) = true := by kernel_rfl
theorem fact21 : ((Rows.showKnownRow.loopsOut == Tryz.f4.resultTypes.toList.any (Tryz.prog.loopsFrom ·))) = true := by kernel_rfl
end Go.Proofs.YtfgdhcomldidlaaGreatDoor.showKnown
