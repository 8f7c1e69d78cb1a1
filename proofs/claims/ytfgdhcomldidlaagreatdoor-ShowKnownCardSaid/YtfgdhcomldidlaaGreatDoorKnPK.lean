/-
  ShowKnown: closed facts of the card.
-/
import Derived.Test.YtfgdhcomldidlaaGreatDoorProg
import Derived.Test.YtfgdhcomldidlaaGreatDoorRows
import Derived.Test.YtfgdhcomldidlaaGreatDoorRowF
import Derived.SevenTiedAt
set_option linter.unusedSimpArgs false
set_option linter.unusedVariables false
namespace Go.Proofs.YtfgdhcomldidlaaGreatDoor.showKnown
open Go
theorem noGo : Tryz.prog.funcs.any Func.goes = false := by kernel_rfl
theorem cardGoes : false = Rows.showKnownRow.goesBy Tryz.pinned.checked.prog := (RowF.goes_false (P := Tryz.prog) noGo _).symm
end Go.Proofs.YtfgdhcomldidlaaGreatDoor.showKnown
