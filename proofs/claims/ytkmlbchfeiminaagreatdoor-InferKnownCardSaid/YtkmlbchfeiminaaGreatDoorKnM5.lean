import Derived.Test.YtkmlbchfeiminaaGreatDoorKnL5
set_option linter.unusedSimpArgs false
set_option linter.unusedVariables false
namespace Go.Proofs.YtkmlbchfeiminaaGreatDoor.inferKnown
open Go Go.Abs
noncomputable def env5 : Env := envX fun f => bif Nat.beq f 5 then some (memoL txt5 val5 st5) else none
theorem main5 : says [40, 108, 32, 45, 62, 32, 105, 110, 116, 41] (evFK env5 300 60 7 [.sc (.string txt5)] S0) = true := by kernel_rfl
end Go.Proofs.YtkmlbchfeiminaaGreatDoor.inferKnown
