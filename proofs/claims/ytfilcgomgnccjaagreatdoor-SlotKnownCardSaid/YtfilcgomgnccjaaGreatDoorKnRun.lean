/-
  SlotKnown: the law's own run.
-/
import Derived.Test.YtfilcgomgnccjaaGreatDoorKnF
import Derived.Test.YtfilcgomgnccjaaGreatDoorKnVA
import Derived.Test.YtfilcgomgnccjaaGreatDoorKnVA2
import Derived.Test.YtfilcgomgnccjaaGreatDoorKnVF
import Derived.Test.YtfilcgomgnccjaaGreatDoorKnVB1
import Derived.Test.YtfilcgomgnccjaaGreatDoorKnVB2
import Derived.Test.YtfilcgomgnccjaaGreatDoorKnVB3
import Derived.Test.YtfilcgomgnccjaaGreatDoorKnVS1
import Derived.Test.YtfilcgomgnccjaaGreatDoorKnVS2
set_option linter.unusedSimpArgs false
set_option linter.unusedVariables false
namespace Go.Proofs.YtfilcgomgnccjaaGreatDoor.slotKnown
open Go Go.Abs
noncomputable def ts : List (Nat × List (List AV × AV)) := [(4, [(argsA, valA)]), (5, [(argsA2, valA2)]), (6, [(argsF, valF)]), (8, [(argsB1, valB1), (argsB2, valB2), (argsB3, valB3)]), (10, [(argsS1, valS1), (argsS2, valS2)])]
theorem all : AllTold ts := (.cons 4 _ _ (Told.mem1 toldA (fun _ _ h => by cases h)) (fun fn hfn => by obtain rfl : fn = Tryz.f4 := (Option.some.inj (Tryz.func4.symm.trans hfn)).symm; kernel_rfl) (.cons 5 _ _ (Told.mem1 toldA2 (fun _ _ h => by cases h)) (fun fn hfn => by obtain rfl : fn = Tryz.f5 := (Option.some.inj (Tryz.func5.symm.trans hfn)).symm; kernel_rfl) (.cons 6 _ _ (Told.mem1 toldF (fun _ _ h => by cases h)) (fun fn hfn => by obtain rfl : fn = Tryz.f6 := (Option.some.inj (Tryz.func6.symm.trans hfn)).symm; kernel_rfl) (.cons 8 _ _ (Told.mem1 toldB1 (Told.mem1 toldB2 (Told.mem1 toldB3 (fun _ _ h => by cases h)))) (fun fn hfn => by obtain rfl : fn = Tryz.f8 := (Option.some.inj (Tryz.func8.symm.trans hfn)).symm; kernel_rfl) (.cons 10 _ _ (Told.mem1 toldS1 (Told.mem1 toldS2 (fun _ _ h => by cases h))) (fun fn hfn => by obtain rfl : fn = Tryz.f10 := (Option.some.inj (Tryz.func10.symm.trans hfn)).symm; kernel_rfl) .nil)))))
theorem fine : Fine (envT ts) := fineT all
theorem runK : saysTrue (evFK (envT ts) 3000 60 3 [] S0) = true := by kernel_rfl
theorem run : saysTrue (evF (envT ts) 3000 60 3 [] S0) = true := saysTrueK runK
end Go.Proofs.YtfilcgomgnccjaaGreatDoor.slotKnown
