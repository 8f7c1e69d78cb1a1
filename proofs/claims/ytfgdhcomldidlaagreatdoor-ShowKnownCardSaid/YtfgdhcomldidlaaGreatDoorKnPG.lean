/-
  ShowKnown: closed facts of the row.
-/
import Derived.Test.YtfgdhcomldidlaaGreatDoorProg
import Derived.Test.YtfgdhcomldidlaaGreatDoorRows
import Derived.Test.YtfgdhcomldidlaaGreatDoorRowF
set_option linter.unusedSimpArgs false
set_option linter.unusedVariables false
namespace Go.Proofs.YtfgdhcomldidlaaGreatDoor.showKnown
open Go
theorem fact22 : ((Rows.showKnownRow.plainKeys == Tryz.prog.plainKeys)) = true := by kernel_rfl
theorem fact23 : (Rows.showKnownRow.shortTexts.isNone) = true := by kernel_rfl
theorem fact24 : (Tryz.prog.stopsHeard) = true := by kernel_rfl
end Go.Proofs.YtfgdhcomldidlaaGreatDoor.showKnown
