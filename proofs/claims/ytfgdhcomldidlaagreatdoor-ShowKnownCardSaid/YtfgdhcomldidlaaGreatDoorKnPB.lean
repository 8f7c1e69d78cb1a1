/-
  ShowKnown: closed facts of the row.
-/
import Derived.Test.YtfgdhcomldidlaaGreatDoorProg
import Derived.Test.YtfgdhcomldidlaaGreatDoorRows
import Derived.Test.YtfgdhcomldidlaaGreatDoorRowF
set_option linter.unusedSimpArgs false
set_option linter.unusedVariables false
namespace Go.Proofs.YtfgdhcomldidlaaGreatDoor.showKnown
open Go
theorem fact1 : (laidOutB Tryz.prog) = true := by kernel_rfl
end Go.Proofs.YtfgdhcomldidlaaGreatDoor.showKnown
