/-
  ShowKnown: closed facts of the row.
-/
import Derived.Test.YtfgdhcomldidlaaGreatDoorProg
import Derived.Test.YtfgdhcomldidlaaGreatDoorRows
import Derived.Test.YtfgdhcomldidlaaGreatDoorRowF
set_option linter.unusedSimpArgs false
set_option linter.unusedVariables false
namespace Go.Proofs.YtfgdhcomldidlaaGreatDoor.showKnown
open Go
theorem fact2 : (mapsRowed Tryz.prog) = true := by kernel_rfl
theorem fact3 : (Tryz.f4.params.all (Tryz.prog.readableRec ·)) = true := by kernel_rfl
theorem fact4 : (namedTie Tryz.prog Rows.showKnownRow.named Rows.showKnownSpec.vars) = true := by kernel_rfl
theorem fact5 : ((Rows.showKnownRow.stops == [])) = true := by kernel_rfl
theorem fact6 : ((Tryz.prog.stops == [])) = true := by kernel_rfl
theorem fact7 : ((Rows.showKnownRow.knobs == [])) = true := by kernel_rfl
theorem fact8 : ((Tryz.prog.stopKnobs == [])) = true := by kernel_rfl
end Go.Proofs.YtfgdhcomldidlaaGreatDoor.showKnown
