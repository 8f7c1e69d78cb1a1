/-
  ShowKnown: a call of plain values, by the kernel.
-/
import Derived.Test.YtfgdhcomldidlaaGreatDoorKnF
import Derived.Test.YtfgdhcomldidlaaGreatDoorKnVB1
set_option linter.unusedSimpArgs false
set_option linter.unusedVariables false
namespace Go.Proofs.YtfgdhcomldidlaaGreatDoor.showKnown
open Go Go.Abs
noncomputable def argsA : List AV := []
noncomputable def valA : AV := (.sc (.bool true))
noncomputable def tsA : List (Nat × List (List AV × AV)) := [(16, [(argsB1, valB1)])]
theorem givesA : gives valA (evFK (envT tsA) 3000 60 5 argsA S0) = true := by kernel_rfl
theorem allA : AllTold tsA := (.cons 16 _ _ (Told.mem1 toldB1 (fun _ _ h => by cases h)) (fun fn hfn => by obtain rfl : fn = Tryz.f16 := (Option.some.inj (Tryz.func16.symm.trans hfn)).symm; kernel_rfl) .nil)
theorem toldA : Told 5 argsA valA := told (fineT allA) givesA
end Go.Proofs.YtfgdhcomldidlaaGreatDoor.showKnown
