/-
  VmKnown: closed facts of the row.
-/
import Derived.Test.YtgfaeilkkmjkoaaGreatDoorProg
import Derived.Test.YtgfaeilkkmjkoaaGreatDoorRows
import Derived.Test.YtgfaeilkkmjkoaaGreatDoorRowF
set_option linter.unusedSimpArgs false
set_option linter.unusedVariables false
namespace Go.Proofs.YtgfaeilkkmjkoaaGreatDoor.vmKnown
open Go
theorem fact25 : (Tryz.prog.mayEnter) = true := by kernel_rfl
theorem fact26 : ((Rows.vmKnownRow.lifted == Tryz.prog.liftsFinal)) = true := by kernel_rfl
theorem fact27 : ((Tryz.prog.make == some Rows.vmKnownRow.make)) = true := by kernel_rfl
theorem fact28 : ((Rows.vmKnownRow.kinds == (if Rows.vmKnownRow.domain.isEmpty then [] else Tryz.f3.params.toList.map fun t => match Tryz.prog.underlying t with | some (.int k) => some k | _ => none))) = true := by kernel_rfl
theorem fact29 : ((Rows.vmKnownRow.pinned == Rows.vmKnownRow.pinnedBy)) = true := by kernel_rfl
theorem fact30 : ((Rows.vmKnownRow.veiled == (Tryz.f3.params.toList ++ Rows.vmKnownSpec.plain.varTypes Tryz.prog ++ Tryz.f3.resultTypes.toList).any (Tryz.prog.veiledRec ·))) = true := by kernel_rfl
theorem fact31 : (Rows.vmKnownRow.veiledFits Tryz.prog Tryz.f3.params.toList (Tryz.f3.params.toList ++ Rows.vmKnownSpec.plain.varTypes Tryz.prog ++ Tryz.f3.resultTypes.toList)) = true := by kernel_rfl
end Go.Proofs.YtgfaeilkkmjkoaaGreatDoor.vmKnown
