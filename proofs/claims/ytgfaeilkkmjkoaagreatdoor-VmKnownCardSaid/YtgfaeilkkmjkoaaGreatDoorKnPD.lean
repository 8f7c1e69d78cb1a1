/-
  VmKnown: closed facts of the row.
-/
import Derived.Test.YtgfaeilkkmjkoaaGreatDoorProg
import Derived.Test.YtgfaeilkkmjkoaaGreatDoorRows
import Derived.Test.YtgfaeilkkmjkoaaGreatDoorRowF
import Derived.Test.YtgfaeilkkmjkoaaGreatDoorKnC
set_option linter.unusedSimpArgs false
set_option linter.unusedVariables false
namespace Go.Proofs.YtgfaeilkkmjkoaaGreatDoor.vmKnown
open Go
theorem fact9 : ((Rows.vmKnownRow.inPlace == Tryz.prog.inPlace 3)) = true := by
  rw [RowF.inPlace_of clos]; kernel_rfl
theorem unf : Tryz.prog.unfollowed 3 = true := RowF.unfollowed_of clos 154 (by kernel_rfl) (by kernel_rfl)
theorem fact10 : ((Rows.vmKnownRow.unfollowed == Tryz.prog.unfollowed 3)) = true := by rw [unf]; rfl
theorem fact11 : ((Rows.vmKnownRow.recurses == Tryz.prog.recurses 3)) = true := by rw [RowF.recurses_of unf]; rfl
theorem fact12 : ((Rows.vmKnownRow.named == Tryz.prog.varsNamed 3)) = true := by
  rw [RowF.vars_of clos]; kernel_rfl
end Go.Proofs.YtgfaeilkkmjkoaaGreatDoor.vmKnown
