import Derived.Test.YtkmlbchfeiminaaGreatDoorKnL3
set_option linter.unusedSimpArgs false
set_option linter.unusedVariables false
namespace Go.Proofs.YtkmlbchfeiminaaGreatDoor.inferKnown
open Go Go.Abs
noncomputable def env3 : Env := envX fun f => bif Nat.beq f 5 then some (memoL txt3 val3 st3) else none
theorem main3 : says [40, 40, 105, 110, 116, 32, 45, 62, 32, 105, 110, 116, 41, 32, 114, 101, 102, 41] (evFK env3 300 60 7 [.sc (.string txt3)] S0) = true := by kernel_rfl
end Go.Proofs.YtkmlbchfeiminaaGreatDoor.inferKnown
