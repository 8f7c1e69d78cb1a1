/-
  VmKnown: the law's own run.
-/
import Derived.Test.YtgfaeilkkmjkoaaGreatDoorKnRA
import Derived.Test.YtgfaeilkkmjkoaaGreatDoorKnRC
import Derived.Test.YtgfaeilkkmjkoaaGreatDoorKnRB0
import Derived.Test.YtgfaeilkkmjkoaaGreatDoorKnRB1
set_option linter.unusedSimpArgs false
set_option linter.unusedVariables false
namespace Go.Proofs.YtgfaeilkkmjkoaaGreatDoor.vmKnown
open Go Go.Abs
theorem shape : dropSeq 9 code = .seq (.seq (loopH atLoop) (.block (loopI atLoop) (.loop (loopB atLoop)))) (loopR atLoop) := by kernel_rfl
theorem rounds_all : rounds (evC (mac1 E (evF E 3000 59) 3000 Tryz.f3.ntmps) E (evF E 3000 59) 3000 Tryz.f3.ntmps (loopB atLoop)) 34 tm0 st0 = some (tm2, st2) := by
  rw [show 34 = 17 + (17) from rfl]
  rw [rounds_add _ _ _ _ _ _ (parts_eq rounds0)]
  exact parts_eq rounds1
theorem run : saysTrue (evF (envT ts) 3000 60 3 [] S0) = true :=
  says_parts2 (E := E) (show E.fn 3 = some Tryz.f3 by kernel_rfl) (show E.X 3 = none by kernel_rfl) (show Tryz.f3.body = some code by kernel_rfl) shape (by kernel_rfl) (by kernel_rfl) (by kernel_rfl) part rounds_all (show 3000 = 34 + 2966 from rfl) last
end Go.Proofs.YtgfaeilkkmjkoaaGreatDoor.vmKnown
