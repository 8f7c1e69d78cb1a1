/-
  VmKnown: the first part of the law's own run.
-/
import Derived.Test.YtgfaeilkkmjkoaaGreatDoorKnRL
import Derived.Test.YtgfaeilkkmjkoaaGreatDoorKnRT0
set_option linter.unusedSimpArgs false
set_option linter.unusedVariables false
namespace Go.Proofs.YtgfaeilkkmjkoaaGreatDoor.vmKnown
open Go Go.Abs
theorem part : evCK M E C 3000 Tryz.f3.ntmps (takeSeq 9 code) (evCK M E C 3000 Tryz.f3.ntmps (loopH atLoop) kN kE kR) kE kR (initK [] 0 PM.leaf) S0 = some (.nrm, tm0, st0) := by kernel_rfl
end Go.Proofs.YtgfaeilkkmjkoaaGreatDoor.vmKnown
