/-
  ShowInts: a call of plain values, by the kernel.
-/
import Derived.Test.YtpcgbkjdobjdaaaGreatDoorKnF
import Derived.Test.YtpcgbkjdobjdaaaGreatDoorKnVB1
set_option linter.unusedSimpArgs false
set_option linter.unusedVariables false
namespace Go.Proofs.YtpcgbkjdobjdaaaGreatDoor.showInts
open Go Go.Abs
noncomputable def argsA : List AV := []
noncomputable def valA : AV := (.sc (.bool true))
noncomputable def tsA : List (Nat × List (List AV × AV)) := [(12, [(argsB1, valB1)])]
theorem givesA : gives valA (evFK (envT tsA) 3000 60 4 argsA S0) = true := by kernel_rfl
theorem allA : AllTold tsA := (.cons 12 _ _ (Told.mem1 toldB1 (fun _ _ h => by cases h)) (fun fn hfn => by obtain rfl : fn = Tryz.f12 := (Option.some.inj (Tryz.func12.symm.trans hfn)).symm; kernel_rfl) .nil)
theorem toldA : Told 4 argsA valA := told (fineT allA) givesA
end Go.Proofs.YtpcgbkjdobjdaaaGreatDoor.showInts
