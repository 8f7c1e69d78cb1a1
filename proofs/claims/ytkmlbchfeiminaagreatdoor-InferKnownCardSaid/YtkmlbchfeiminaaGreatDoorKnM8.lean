import Derived.Test.YtkmlbchfeiminaaGreatDoorKnInfE
set_option linter.unusedSimpArgs false
set_option linter.unusedVariables false
namespace Go.Proofs.YtkmlbchfeiminaaGreatDoor.inferKnown
open Go Go.Abs
def txt8 : ByteArray := ⟨#[116, 114, 121, 32, 114, 101, 97, 100, 32, 119, 105, 116, 104, 32, 101, 32, 45, 62, 32, 101, 32, 101, 110, 100]⟩
theorem main8 : says [105, 110, 116] (evFK env0 300 60 7 [.sc (.string txt8)] S0) = true := by kernel_rfl
end Go.Proofs.YtkmlbchfeiminaaGreatDoor.inferKnown
