/-
  VmKnown: some rounds of the law's own run.
-/
import Derived.Test.YtgfaeilkkmjkoaaGreatDoorKnRL
import Derived.Test.YtgfaeilkkmjkoaaGreatDoorKnRT1
import Derived.Test.YtgfaeilkkmjkoaaGreatDoorKnRT2
set_option linter.unusedSimpArgs false
set_option linter.unusedVariables false
namespace Go.Proofs.YtgfaeilkkmjkoaaGreatDoor.vmKnown
open Go Go.Abs
theorem rounds1 : roundsK body 17 kN (fun _ _ _ => none) (fun _ _ => none) tm1 st1 = some (.nrm, tm2, st2) := by kernel_rfl
end Go.Proofs.YtgfaeilkkmjkoaaGreatDoor.vmKnown
