/-
  ShowKnown: closed facts of the card.
-/
import Derived.Test.YtfgdhcomldidlaaGreatDoorProg
import Derived.Test.YtfgdhcomldidlaaGreatDoorRows
import Derived.SevenTiedAt
set_option linter.unusedSimpArgs false
set_option linter.unusedVariables false
namespace Go.Proofs.YtfgdhcomldidlaaGreatDoor.showKnown
open Go
theorem cardGoes : false = Rows.showKnownRow.goesBy Tryz.pinned.checked.prog := by kernel_rfl
end Go.Proofs.YtfgdhcomldidlaaGreatDoor.showKnown
