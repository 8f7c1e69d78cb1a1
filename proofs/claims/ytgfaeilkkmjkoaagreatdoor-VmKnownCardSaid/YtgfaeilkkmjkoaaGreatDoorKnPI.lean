/-
  VmKnown: closed facts of the card.
-/
import Derived.Test.YtgfaeilkkmjkoaaGreatDoorProg
import Derived.Test.YtgfaeilkkmjkoaaGreatDoorRows
import Derived.Test.YtgfaeilkkmjkoaaGreatDoorRowF
import Derived.SevenTiedAt
set_option linter.unusedSimpArgs false
set_option linter.unusedVariables false
namespace Go.Proofs.YtgfaeilkkmjkoaaGreatDoor.vmKnown
open Go
theorem cardWf : Rows.vmKnownRow.wfByText (OpenSpec.ofChange Rows.vmKnownSpec) = true := by kernel_rfl
theorem cardMain : Tryz.pinned.checked.prog.mainIs = some (true, "2a47aa2f7187091182cc5ab649ec8a91970980de1d3ac15236cfb63498c9d181".toList) := by kernel_rfl
end Go.Proofs.YtgfaeilkkmjkoaaGreatDoor.vmKnown
