/-
  ShowKnown: closed facts of the row.
-/
import Derived.Test.YtfgdhcomldidlaaGreatDoorProg
import Derived.Test.YtfgdhcomldidlaaGreatDoorRows
import Derived.Test.YtfgdhcomldidlaaGreatDoorRowF
import Derived.Test.YtfgdhcomldidlaaGreatDoorKnC
set_option linter.unusedSimpArgs false
set_option linter.unusedVariables false
namespace Go.Proofs.YtfgdhcomldidlaaGreatDoor.showKnown
open Go
theorem fact9 : ((Rows.showKnownRow.inPlace == Tryz.prog.inPlace 4)) = true := by
  rw [RowF.inPlace_of clos]; kernel_rfl
theorem unf : Tryz.prog.unfollowed 4 = true := RowF.unfollowed_of clos 194 (by kernel_rfl) (by kernel_rfl)
theorem fact10 : ((Rows.showKnownRow.unfollowed == Tryz.prog.unfollowed 4)) = true := by rw [unf]; rfl
theorem fact11 : ((Rows.showKnownRow.recurses == Tryz.prog.recurses 4)) = true := by rw [RowF.recurses_of unf]; rfl
theorem fact12 : ((Rows.showKnownRow.named == Tryz.prog.varsNamed 4)) = true := by
  rw [RowF.vars_of clos]; kernel_rfl
end Go.Proofs.YtfgdhcomldidlaaGreatDoor.showKnown
