/-
  SlotKnown: a call of plain values, by the kernel.
-/
import Derived.Test.YtfilcgomgnccjaaGreatDoorKnF
set_option linter.unusedSimpArgs false
set_option linter.unusedVariables false
namespace Go.Proofs.YtfilcgomgnccjaaGreatDoor.slotKnown
open Go Go.Abs
noncomputable def argsP1 : List AV := [(.sc (.string ⟨#[102, 117, 110, 32, 120, 32, 45, 62, 32, 102, 117, 110, 32, 121, 32, 45, 62, 32, 120]⟩))]
noncomputable def valP1 : AV := (.tup [(.agg [(.vec 0 7 [(.agg [(.sc (.int .i64 6)), (.sc (.int .i64 0)), (.sc (.string ⟨#[]⟩)), (.sc (.string ⟨#[120]⟩)), (.vec 0 1 [(.sc (.int .i64 1))]), (.sc (.int .i64 0)), (.sc (.int .i64 19))]), (.agg [(.sc (.int .i64 6)), (.sc (.int .i64 0)), (.sc (.string ⟨#[]⟩)), (.sc (.string ⟨#[121]⟩)), (.vec 0 1 [(.sc (.int .i64 2))]), (.sc (.int .i64 9)), (.sc (.int .i64 19))]), (.agg [(.sc (.int .i64 4)), (.sc (.int .i64 0)), (.sc (.string ⟨#[120]⟩)), (.sc (.string ⟨#[]⟩)), (.sc (.slice none 0 0)), (.sc (.int .i64 18)), (.sc (.int .i64 19))])]), (.sc (.slice none 0 0))]), (.sc (.int .i64 0)), (.sc (.int .i64 0))])
noncomputable def tsP1 : List (Nat × List (List AV × AV)) := []
theorem givesP1 : gives valP1 (evFK (envT tsP1) 3000 60 12 argsP1 S0) = true := by kernel_rfl
theorem allP1 : AllTold tsP1 := .nil
theorem toldP1 : Told 12 argsP1 valP1 := told (fineT allP1) givesP1
end Go.Proofs.YtfilcgomgnccjaaGreatDoor.slotKnown
