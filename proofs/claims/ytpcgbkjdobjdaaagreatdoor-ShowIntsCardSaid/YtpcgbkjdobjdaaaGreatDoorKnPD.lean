/-
  ShowInts: closed facts of the row.
-/
import Derived.Test.YtpcgbkjdobjdaaaGreatDoorProg
import Derived.Test.YtpcgbkjdobjdaaaGreatDoorRows
import Derived.Test.YtpcgbkjdobjdaaaGreatDoorRowF
import Derived.Test.YtpcgbkjdobjdaaaGreatDoorKnC
set_option linter.unusedSimpArgs false
set_option linter.unusedVariables false
namespace Go.Proofs.YtpcgbkjdobjdaaaGreatDoor.showInts
open Go
theorem fact9 : ((Rows.showIntsRow.inPlace == Tryz.prog.inPlace 3)) = true := by
  rw [RowF.inPlace_of clos]; kernel_rfl
theorem unf : Tryz.prog.unfollowed 3 = true := RowF.unfollowed_of clos 187 (by kernel_rfl) (by kernel_rfl)
theorem fact10 : ((Rows.showIntsRow.unfollowed == Tryz.prog.unfollowed 3)) = true := by rw [unf]; rfl
theorem fact11 : ((Rows.showIntsRow.recurses == Tryz.prog.recurses 3)) = true := by rw [RowF.recurses_of unf]; rfl
theorem fact12 : ((Rows.showIntsRow.named == Tryz.prog.varsNamed 3)) = true := by
  rw [RowF.vars_of clos]; kernel_rfl
end Go.Proofs.YtpcgbkjdobjdaaaGreatDoor.showInts
