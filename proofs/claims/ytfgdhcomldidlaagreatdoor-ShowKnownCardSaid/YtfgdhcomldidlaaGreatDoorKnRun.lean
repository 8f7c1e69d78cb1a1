/-
  ShowKnown: the law's own run.
-/
import Derived.Test.YtfgdhcomldidlaaGreatDoorKnF
import Derived.Test.YtfgdhcomldidlaaGreatDoorKnVB1
import Derived.Test.YtfgdhcomldidlaaGreatDoorKnVB2
import Derived.Test.YtfgdhcomldidlaaGreatDoorKnVA
set_option linter.unusedSimpArgs false
set_option linter.unusedVariables false
namespace Go.Proofs.YtfgdhcomldidlaaGreatDoor.showKnown
open Go Go.Abs
noncomputable def ts : List (Nat × List (List AV × AV)) := [(16, [(argsB1, valB1), (argsB2, valB2)]), (5, [(argsA, valA)])]
theorem all : AllTold ts := (.cons 16 _ _ (Told.mem1 toldB1 (Told.mem1 toldB2 (fun _ _ h => by cases h))) (fun fn hfn => by obtain rfl : fn = Tryz.f16 := (Option.some.inj (Tryz.func16.symm.trans hfn)).symm; kernel_rfl) (.cons 5 _ _ (Told.mem1 toldA (fun _ _ h => by cases h)) (fun fn hfn => by obtain rfl : fn = Tryz.f5 := (Option.some.inj (Tryz.func5.symm.trans hfn)).symm; kernel_rfl) .nil))
theorem fine : Fine (envT ts) := fineT all
theorem runK : saysTrue (evFK (envT ts) 3000 60 4 [] S0) = true := by kernel_rfl
theorem run : saysTrue (evF (envT ts) 3000 60 4 [] S0) = true := saysTrueK runK
end Go.Proofs.YtfgdhcomldidlaaGreatDoor.showKnown
