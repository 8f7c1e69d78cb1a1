/-
  ShowInts: closed facts of the card.
-/
import Derived.Test.YtpcgbkjdobjdaaaGreatDoorProg
import Derived.Test.YtpcgbkjdobjdaaaGreatDoorRows
import Derived.Test.YtpcgbkjdobjdaaaGreatDoorRowF
import Derived.SevenTiedAt
set_option linter.unusedSimpArgs false
set_option linter.unusedVariables false
namespace Go.Proofs.YtpcgbkjdobjdaaaGreatDoor.showInts
open Go
theorem noGo : Tryz.prog.funcs.any Func.goes = false := by kernel_rfl
theorem cardGoes : false = Rows.showIntsRow.goesBy Tryz.pinned.checked.prog := (RowF.goes_false (P := Tryz.prog) noGo _).symm
end Go.Proofs.YtpcgbkjdobjdaaaGreatDoor.showInts
