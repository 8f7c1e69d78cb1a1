import Derived.Test.YtkmlbchfeiminaaGreatDoorKnInfE
set_option linter.unusedSimpArgs false
set_option linter.unusedVariables false
namespace Go.Proofs.YtkmlbchfeiminaaGreatDoor.inferKnown
open Go Go.Abs
def txta2 : ByteArray := ⟨#[108, 101, 116, 32, 105, 32, 61, 32, 102, 117, 110, 32, 120, 32, 45, 62, 32, 120, 32, 105, 110, 32, 40, 105, 32, 40, 41, 32, 59, 32, 105, 41]⟩
theorem maina2 : says [40, 39, 97, 32, 45, 62, 32, 39, 97, 41] (evFK env0 300 60 7 [.sc (.string txta2)] S0) = true := by kernel_rfl
end Go.Proofs.YtkmlbchfeiminaaGreatDoor.inferKnown
