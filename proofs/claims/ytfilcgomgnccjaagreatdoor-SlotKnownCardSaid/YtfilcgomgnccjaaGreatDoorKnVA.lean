/-
  SlotKnown: a call of plain values, by the kernel.
-/
import Derived.Test.YtfilcgomgnccjaaGreatDoorKnF
import Derived.Test.YtfilcgomgnccjaaGreatDoorKnVA1
set_option linter.unusedSimpArgs false
set_option linter.unusedVariables false
namespace Go.Proofs.YtfilcgomgnccjaaGreatDoor.slotKnown
open Go Go.Abs
noncomputable def argsA : List AV := []
noncomputable def valA : AV := (.sc (.bool true))
noncomputable def tsA : List (Nat × List (List AV × AV)) := [(5, [(argsA1, valA1)])]
theorem givesA : gives valA (evFK (envT tsA) 3000 60 4 argsA S0) = true := by kernel_rfl
theorem allA : AllTold tsA := (.cons 5 _ _ (Told.mem1 toldA1 (fun _ _ h => by cases h)) (fun fn hfn => by obtain rfl : fn = Tryz.f5 := (Option.some.inj (Tryz.func5.symm.trans hfn)).symm; kernel_rfl) .nil)
theorem toldA : Told 4 argsA valA := told (fineT allA) givesA
end Go.Proofs.YtfilcgomgnccjaaGreatDoor.slotKnown
