/-
  VmKnown: closed facts of the card.
-/
import Derived.Test.YtgfaeilkkmjkoaaGreatDoorProg
import Derived.Test.YtgfaeilkkmjkoaaGreatDoorRows
import Derived.Test.YtgfaeilkkmjkoaaGreatDoorRowF
import Derived.SevenTiedAt
set_option linter.unusedSimpArgs false
set_option linter.unusedVariables false
namespace Go.Proofs.YtgfaeilkkmjkoaaGreatDoor.vmKnown
open Go
theorem noGo : Tryz.prog.funcs.any Func.goes = false := by kernel_rfl
theorem cardGoes : false = Rows.vmKnownRow.goesBy Tryz.pinned.checked.prog := (RowF.goes_false (P := Tryz.prog) noGo _).symm
end Go.Proofs.YtgfaeilkkmjkoaaGreatDoor.vmKnown
