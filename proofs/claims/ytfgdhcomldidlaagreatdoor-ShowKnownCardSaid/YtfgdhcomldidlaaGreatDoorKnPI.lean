/-
  ShowKnown: closed facts of the card.
-/
import Derived.Test.YtfgdhcomldidlaaGreatDoorProg
import Derived.Test.YtfgdhcomldidlaaGreatDoorRows
import Derived.Test.YtfgdhcomldidlaaGreatDoorRowF
import Derived.SevenTiedAt
set_option linter.unusedSimpArgs false
set_option linter.unusedVariables false
namespace Go.Proofs.YtfgdhcomldidlaaGreatDoor.showKnown
open Go
theorem cardWf : Rows.showKnownRow.wfByText (OpenSpec.ofChange Rows.showKnownSpec) = true := by kernel_rfl
theorem cardMain : Tryz.pinned.checked.prog.mainIs = some (true, "e9ae693b11bb0874a181bfc7300e41a5e328ac659d1ef47c36dd014e4b7763b1".toList) := by kernel_rfl
end Go.Proofs.YtfgdhcomldidlaaGreatDoor.showKnown
