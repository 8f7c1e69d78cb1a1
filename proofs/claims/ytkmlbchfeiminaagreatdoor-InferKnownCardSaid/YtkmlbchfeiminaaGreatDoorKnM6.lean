import Derived.Test.YtkmlbchfeiminaaGreatDoorKnInfE
set_option linter.unusedSimpArgs false
set_option linter.unusedVariables false
namespace Go.Proofs.YtkmlbchfeiminaaGreatDoor.inferKnown
open Go Go.Abs
def txt6 : ByteArray := ⟨#[102, 117, 110, 32, 120, 32, 45, 62, 32, 120, 32, 120]⟩
theorem main6 : says [69, 53] (evFK env0 300 60 7 [.sc (.string txt6)] S0) = true := by kernel_rfl
end Go.Proofs.YtkmlbchfeiminaaGreatDoor.inferKnown
