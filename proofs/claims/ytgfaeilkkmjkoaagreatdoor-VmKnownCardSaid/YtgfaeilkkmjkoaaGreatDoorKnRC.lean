/-
  VmKnown: the last part of the law's own run.
-/
import Derived.Test.YtgfaeilkkmjkoaaGreatDoorKnRL
import Derived.Test.YtgfaeilkkmjkoaaGreatDoorKnRT2
set_option linter.unusedSimpArgs false
set_option linter.unusedVariables false
namespace Go.Proofs.YtgfaeilkkmjkoaaGreatDoor.vmKnown
open Go Go.Abs
theorem last : saysTrue (fnEnd E Tryz.f3 (iterK body 2966 rest (blockE (loopI atLoop) rest kE) kR tm2 st2)) = true := by kernel_rfl
end Go.Proofs.YtgfaeilkkmjkoaaGreatDoor.vmKnown
