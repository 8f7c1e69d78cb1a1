import Derived.Test.YtkmlbchfeiminaaGreatDoorKnInfE
set_option linter.unusedSimpArgs false
set_option linter.unusedVariables false
namespace Go.Proofs.YtkmlbchfeiminaaGreatDoor.inferKnown
open Go Go.Abs
def txt10 : ByteArray := ⟨#[108, 101, 116, 32, 105, 100, 32, 61, 32, 102, 117, 110, 32, 120, 32, 45, 62, 32, 120, 32, 105, 110, 32, 108, 101, 116, 32, 112, 32, 61, 32, 105, 100, 32, 105, 100, 32, 105, 110, 32, 112]⟩
theorem main10 : says [40, 39, 97, 32, 45, 62, 32, 39, 97, 41] (evFK env0 300 60 7 [.sc (.string txt10)] S0) = true := by kernel_rfl
end Go.Proofs.YtkmlbchfeiminaaGreatDoor.inferKnown
