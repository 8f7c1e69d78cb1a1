/-
  VmKnown: some rounds of the law's own run.
-/
import Derived.Test.YtgfaeilkkmjkoaaGreatDoorKnRL
import Derived.Test.YtgfaeilkkmjkoaaGreatDoorKnRT0
import Derived.Test.YtgfaeilkkmjkoaaGreatDoorKnRT1
set_option linter.unusedSimpArgs false
set_option linter.unusedVariables false
namespace Go.Proofs.YtgfaeilkkmjkoaaGreatDoor.vmKnown
open Go Go.Abs
theorem rounds0 : roundsK body 17 kN (fun _ _ _ => none) (fun _ _ => none) tm0 st0 = some (.nrm, tm1, st1) := by kernel_rfl
end Go.Proofs.YtgfaeilkkmjkoaaGreatDoor.vmKnown
