import Derived.Test.YtkmlbchfeiminaaGreatDoorKnInfE
set_option linter.unusedSimpArgs false
set_option linter.unusedVariables false
namespace Go.Proofs.YtkmlbchfeiminaaGreatDoor.inferKnown
open Go Go.Abs
def txt9 : ByteArray := ⟨#[114, 97, 105, 115, 101, 32, 49]⟩
theorem main9 : says [39, 97] (evFK env0 300 60 7 [.sc (.string txt9)] S0) = true := by kernel_rfl
end Go.Proofs.YtkmlbchfeiminaaGreatDoor.inferKnown
