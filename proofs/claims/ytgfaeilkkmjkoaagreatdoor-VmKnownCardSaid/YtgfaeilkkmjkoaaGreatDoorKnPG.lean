/-
  VmKnown: closed facts of the row.
-/
import Derived.Test.YtgfaeilkkmjkoaaGreatDoorProg
import Derived.Test.YtgfaeilkkmjkoaaGreatDoorRows
import Derived.Test.YtgfaeilkkmjkoaaGreatDoorRowF
set_option linter.unusedSimpArgs false
set_option linter.unusedVariables false
namespace Go.Proofs.YtgfaeilkkmjkoaaGreatDoor.vmKnown
open Go
theorem fact22 : ((Rows.vmKnownRow.plainKeys == Tryz.prog.plainKeys)) = true := by kernel_rfl
theorem fact23 : (Rows.vmKnownRow.shortTexts.isNone) = true := by kernel_rfl
theorem fact24 : (Tryz.prog.stopsHeard) = true := by kernel_rfl
end Go.Proofs.YtgfaeilkkmjkoaaGreatDoor.vmKnown
