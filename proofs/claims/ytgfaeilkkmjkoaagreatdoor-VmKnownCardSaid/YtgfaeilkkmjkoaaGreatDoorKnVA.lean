/-
  VmKnown: a call of plain values, by the kernel.
-/
import Derived.Test.YtgfaeilkkmjkoaaGreatDoorKnF
import Derived.Test.YtgfaeilkkmjkoaaGreatDoorKnVB1
set_option linter.unusedSimpArgs false
set_option linter.unusedVariables false
namespace Go.Proofs.YtgfaeilkkmjkoaaGreatDoor.vmKnown
open Go Go.Abs
noncomputable def argsA : List AV := []
noncomputable def valA : AV := (.sc (.bool true))
noncomputable def tsA : List (Nat × List (List AV × AV)) := [(13, [(argsB1, valB1)])]
theorem givesA : gives valA (evFK (envT tsA) 3000 60 4 argsA S0) = true := by kernel_rfl
theorem allA : AllTold tsA := (.cons 13 _ _ (Told.mem1 toldB1 (fun _ _ h => by cases h)) (fun fn hfn => by obtain rfl : fn = Tryz.f13 := (Option.some.inj (Tryz.func13.symm.trans hfn)).symm; kernel_rfl) .nil)
theorem toldA : Told 4 argsA valA := told (fineT allA) givesA
end Go.Proofs.YtgfaeilkkmjkoaaGreatDoor.vmKnown
