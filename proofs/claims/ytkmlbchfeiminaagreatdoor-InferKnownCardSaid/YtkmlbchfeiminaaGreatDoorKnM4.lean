import Derived.Test.YtkmlbchfeiminaaGreatDoorKnInfE
set_option linter.unusedSimpArgs false
set_option linter.unusedVariables false
namespace Go.Proofs.YtkmlbchfeiminaaGreatDoor.inferKnown
open Go Go.Abs
def txt4 : ByteArray := ⟨#[108, 101, 116, 32, 114, 32, 61, 32, 114, 101, 102, 32, 49, 32, 105, 110, 32, 33, 32, 114]⟩
theorem main4 : says [105, 110, 116] (evFK env0 300 60 7 [.sc (.string txt4)] S0) = true := by kernel_rfl
end Go.Proofs.YtkmlbchfeiminaaGreatDoor.inferKnown
