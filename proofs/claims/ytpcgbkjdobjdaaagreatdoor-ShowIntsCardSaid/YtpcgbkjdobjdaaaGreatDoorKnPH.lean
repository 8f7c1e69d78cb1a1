/-
  ShowInts: closed facts of the row.
-/
import Derived.Test.YtpcgbkjdobjdaaaGreatDoorProg
import Derived.Test.YtpcgbkjdobjdaaaGreatDoorRows
import Derived.Test.YtpcgbkjdobjdaaaGreatDoorRowF
set_option linter.unusedSimpArgs false
set_option linter.unusedVariables false
namespace Go.Proofs.YtpcgbkjdobjdaaaGreatDoor.showInts
open Go
theorem fact25 : (Tryz.prog.mayEnter) = true := by kernel_rfl
theorem fact26 : ((Rows.showIntsRow.lifted == Tryz.prog.liftsFinal)) = true := by kernel_rfl
theorem fact27 : ((Tryz.prog.make == some Rows.showIntsRow.make)) = true := by kernel_rfl
theorem fact28 : ((Rows.showIntsRow.kinds == (if Rows.showIntsRow.domain.isEmpty then [] else Tryz.f3.params.toList.map fun t => match Tryz.prog.underlying t with | some (.int k) => some k | _ => none))) = true := by kernel_rfl
theorem fact29 : ((Rows.showIntsRow.pinned == Rows.showIntsRow.pinnedBy)) = true := by kernel_rfl
theorem fact30 : ((Rows.showIntsRow.veiled == (Tryz.f3.params.toList ++ Rows.showIntsSpec.plain.varTypes Tryz.prog ++ Tryz.f3.resultTypes.toList).any (Tryz.prog.veiledRec ·))) = true := by kernel_rfl
theorem fact31 : (Rows.showIntsRow.veiledFits Tryz.prog Tryz.f3.params.toList (Tryz.f3.params.toList ++ Rows.showIntsSpec.plain.varTypes Tryz.prog ++ Tryz.f3.resultTypes.toList)) = true := by kernel_rfl
end Go.Proofs.YtpcgbkjdobjdaaaGreatDoor.showInts
