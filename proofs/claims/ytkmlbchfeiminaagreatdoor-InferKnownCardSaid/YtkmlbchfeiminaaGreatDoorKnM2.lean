import Derived.Test.YtkmlbchfeiminaaGreatDoorKnL2
set_option linter.unusedSimpArgs false
set_option linter.unusedVariables false
namespace Go.Proofs.YtkmlbchfeiminaaGreatDoor.inferKnown
open Go Go.Abs
noncomputable def env2 : Env := envX fun f => bif Nat.beq f 5 then some (memoL txt2 val2 st2) else none
theorem main2 : says [40, 105, 110, 116, 32, 45, 62, 32, 105, 110, 116, 41] (evFK env2 300 60 7 [.sc (.string txt2)] S0) = true := by kernel_rfl
end Go.Proofs.YtkmlbchfeiminaaGreatDoor.inferKnown
