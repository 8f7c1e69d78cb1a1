/-
  ShowInts: closed facts of the card.
-/
import Derived.Test.YtpcgbkjdobjdaaaGreatDoorProg
import Derived.Test.YtpcgbkjdobjdaaaGreatDoorRows
import Derived.Test.YtpcgbkjdobjdaaaGreatDoorRowF
import Derived.SevenTiedAt
set_option linter.unusedSimpArgs false
set_option linter.unusedVariables false
namespace Go.Proofs.YtpcgbkjdobjdaaaGreatDoor.showInts
open Go
theorem cardWf : Rows.showIntsRow.wfByText (OpenSpec.ofChange Rows.showIntsSpec) = true := by kernel_rfl
theorem cardMain : Tryz.pinned.checked.prog.mainIs = some (true, "75eb2659996f75bb26fc8493b1c26ba066431086b894cfd7b374bb67a5362432".toList) := by kernel_rfl
end Go.Proofs.YtpcgbkjdobjdaaaGreatDoor.showInts
