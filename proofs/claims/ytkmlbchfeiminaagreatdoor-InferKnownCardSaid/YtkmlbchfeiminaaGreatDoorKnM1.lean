import Derived.Test.YtkmlbchfeiminaaGreatDoorKnInfE
set_option linter.unusedSimpArgs false
set_option linter.unusedVariables false
namespace Go.Proofs.YtkmlbchfeiminaaGreatDoor.inferKnown
open Go Go.Abs
def txt1 : ByteArray := ⟨#[102, 117, 110, 32, 102, 32, 45, 62, 32, 102, 117, 110, 32, 120, 32, 45, 62, 32, 102, 32, 40, 102, 32, 120, 41]⟩
theorem main1 : says [40, 40, 39, 97, 32, 45, 62, 32, 39, 97, 41, 32, 45, 62, 32, 40, 39, 97, 32, 45, 62, 32, 39, 97, 41, 41] (evFK env0 300 60 7 [.sc (.string txt1)] S0) = true := by kernel_rfl
end Go.Proofs.YtkmlbchfeiminaaGreatDoor.inferKnown
