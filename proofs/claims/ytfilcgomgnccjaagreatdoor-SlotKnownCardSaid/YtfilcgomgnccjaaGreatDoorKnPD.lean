/-
  SlotKnown: closed facts of the row.
-/
import Derived.Test.YtfilcgomgnccjaaGreatDoorProg
import Derived.Test.YtfilcgomgnccjaaGreatDoorRows
import Derived.Test.YtfilcgomgnccjaaGreatDoorRowF
import Derived.Test.YtfilcgomgnccjaaGreatDoorKnC
set_option linter.unusedSimpArgs false
set_option linter.unusedVariables false
namespace Go.Proofs.YtfilcgomgnccjaaGreatDoor.slotKnown
open Go
theorem fact9 : ((Rows.slotKnownRow.inPlace == Tryz.prog.inPlace 3)) = true := by
  rw [RowF.inPlace_of clos]; kernel_rfl
theorem unf : Tryz.prog.unfollowed 3 = true := RowF.unfollowed_of clos 108 (by kernel_rfl) (by kernel_rfl)
theorem fact10 : ((Rows.slotKnownRow.unfollowed == Tryz.prog.unfollowed 3)) = true := by rw [unf]; rfl
theorem fact11 : ((Rows.slotKnownRow.recurses == Tryz.prog.recurses 3)) = true := by rw [RowF.recurses_of unf]; rfl
theorem fact12 : ((Rows.slotKnownRow.named == Tryz.prog.varsNamed 3)) = true := by
  rw [RowF.vars_of clos]; kernel_rfl
end Go.Proofs.YtfilcgomgnccjaaGreatDoor.slotKnown
