/-
  SlotKnown: a call of plain values, by the kernel.
-/
import Derived.Test.YtfilcgomgnccjaaGreatDoorKnF
import Derived.Test.YtfilcgomgnccjaaGreatDoorKnVP1
set_option linter.unusedSimpArgs false
set_option linter.unusedVariables false
namespace Go.Proofs.YtfilcgomgnccjaaGreatDoor.slotKnown
open Go Go.Abs
noncomputable def argsA1 : List AV := [(.sc (.string ⟨#[102, 117, 110, 32, 120, 32, 45, 62, 32, 102, 117, 110, 32, 121, 32, 45, 62, 32, 120]⟩))]
noncomputable def valA1 : AV := (.tup [(.agg [(.vec 0 7 [(.agg [(.sc (.int .i64 6)), (.sc (.int .i64 0)), (.sc (.string ⟨#[]⟩)), (.sc (.string ⟨#[120]⟩)), (.vec 0 1 [(.sc (.int .i64 1))]), (.sc (.int .i64 0)), (.sc (.int .i64 19))]), (.agg [(.sc (.int .i64 6)), (.sc (.int .i64 0)), (.sc (.string ⟨#[]⟩)), (.sc (.string ⟨#[121]⟩)), (.vec 0 1 [(.sc (.int .i64 2))]), (.sc (.int .i64 9)), (.sc (.int .i64 19))]), (.agg [(.sc (.int .i64 4)), (.sc (.int .i64 0)), (.sc (.string ⟨#[120]⟩)), (.sc (.string ⟨#[]⟩)), (.vec 0 1 []), (.sc (.int .i64 18)), (.sc (.int .i64 19))])]), (.sc (.slice none 0 0))]), (.sc (.bool true))])
noncomputable def tsA1 : List (Nat × List (List AV × AV)) := [(12, [(argsP1, valP1)])]
theorem givesA1 : gives valA1 (evFK (envT tsA1) 3000 60 5 argsA1 S0) = true := by kernel_rfl
theorem allA1 : AllTold tsA1 := (.cons 12 _ _ (Told.mem1 toldP1 (fun _ _ h => by cases h)) (fun fn hfn => by obtain rfl : fn = Tryz.f12 := (Option.some.inj (Tryz.func12.symm.trans hfn)).symm; kernel_rfl) .nil)
theorem toldA1 : Told 5 argsA1 valA1 := told (fineT allA1) givesA1
end Go.Proofs.YtfilcgomgnccjaaGreatDoor.slotKnown
