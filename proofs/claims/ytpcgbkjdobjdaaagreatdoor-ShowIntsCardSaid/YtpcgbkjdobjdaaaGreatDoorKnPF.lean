/-
  ShowInts: closed facts of the row.
-/
import Derived.Test.YtpcgbkjdobjdaaaGreatDoorProg
import Derived.Test.YtpcgbkjdobjdaaaGreatDoorRows
import Derived.Test.YtpcgbkjdobjdaaaGreatDoorRowF
set_option linter.unusedSimpArgs false
set_option linter.unusedVariables false
namespace Go.Proofs.YtpcgbkjdobjdaaaGreatDoor.showInts
open Go
theorem fact13 : ((Rows.showIntsRow.maps == (Tryz.f3.params.toList ++ Rows.showIntsSpec.plain.varTypes Tryz.prog).any (Tryz.prog.mapsRec ·))) = true := by kernel_rfl
theorem fact14 : ((Rows.showIntsRow.ifaces == (Tryz.f3.params.toList ++ Rows.showIntsSpec.plain.varTypes Tryz.prog).any (Tryz.prog.ifacesRec ·))) = true := by kernel_rfl
theorem fact15 : ((Rows.showIntsRow.mapsOut == Tryz.prog.mapsAmong Tryz.f3.resultTypes.toList)) = true := by kernel_rfl
theorem fact16 : ((Rows.showIntsRow.loops == (Tryz.f3.params.toList ++ Rows.showIntsSpec.plain.varTypes Tryz.prog).any (Tryz.prog.loopsFrom ·))) = true := by kernel_rfl
theorem fact17 : ((Rows.showIntsRow.wideKeys == (Tryz.f3.params.toList ++ Rows.showIntsSpec.plain.varTypes Tryz.prog ++ Tryz.f3.resultTypes.toList).any (Tryz.prog.wideKeysFrom ·))) = true := by kernel_rfl
theorem fact18 : (Rows.showIntsSpec.vars.all (Tryz.prog.varReadable ·)) = true := by kernel_rfl
theorem fact19 : (Tryz.f3.resultTypes.all (fun t => Tryz.prog.readableRec t && decide (t < Tryz.prog.types.size))) = true := by kernel_rfl
theorem fact20 : ((Rows.showIntsRow.ifacesOut == Tryz.f3.resultTypes.toList.any (Tryz.prog.ifacesRec ·))) = true := by kernel_rfl
theorem fact21 : ((Rows.showIntsRow.loopsOut == Tryz.f3.resultTypes.toList.any (Tryz.prog.loopsFrom ·))) = true := by kernel_rfl
end Go.Proofs.YtpcgbkjdobjdaaaGreatDoor.showInts
