import Derived.Test.YtkmlbchfeiminaaGreatDoorKnInfE
set_option linter.unusedSimpArgs false
set_option linter.unusedVariables false
namespace Go.Proofs.YtkmlbchfeiminaaGreatDoor.inferKnown
open Go Go.Abs
def txt12 : ByteArray := ⟨#[116, 121, 112, 101, 32, 116, 32, 61, 32, 65, 32, 111, 102, 32, 105, 110, 116, 32, 105, 110, 32, 65, 32, 40, 116, 114, 117, 101, 41]⟩
theorem main12 : says [69, 53] (evFK env0 300 60 7 [.sc (.string txt12)] S0) = true := by kernel_rfl
end Go.Proofs.YtkmlbchfeiminaaGreatDoor.inferKnown
