import Derived.Test.YtkmlbchfeiminaaGreatDoorKnInfE
set_option linter.unusedSimpArgs false
set_option linter.unusedVariables false
namespace Go.Proofs.YtkmlbchfeiminaaGreatDoor.inferKnown
open Go Go.Abs
def txt11 : ByteArray := ⟨#[112, 114, 105, 110, 116, 32, 49, 32, 59, 32, 40, 41]⟩
theorem main11 : says [117, 110, 105, 116] (evFK env0 300 60 7 [.sc (.string txt11)] S0) = true := by kernel_rfl
end Go.Proofs.YtkmlbchfeiminaaGreatDoor.inferKnown
