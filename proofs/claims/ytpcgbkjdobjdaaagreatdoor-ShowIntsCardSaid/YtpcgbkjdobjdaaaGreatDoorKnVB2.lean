/-
  ShowInts: a call of plain values, by the kernel.
-/
import Derived.Test.YtpcgbkjdobjdaaaGreatDoorKnF
set_option linter.unusedSimpArgs false
set_option linter.unusedVariables false
namespace Go.Proofs.YtpcgbkjdobjdaaaGreatDoor.showInts
open Go Go.Abs
noncomputable def argsB2 : List AV := [(.sc (.string ⟨#[49]⟩))]
noncomputable def valB2 : AV := (.tup [(.agg [(.sc (.string ⟨#[49]⟩)), (.vec 0 7 [(.agg [(.sc (.int .i64 1)), (.sc (.int .i64 1)), (.sc (.string ⟨#[]⟩)), (.sc (.string ⟨#[]⟩)), (.sc (.slice none 0 0)), (.sc (.int .i64 0)), (.sc (.int .i64 1))])]), (.sc (.slice none 0 0)), (.vec 0 4 [(.agg [(.sc (.int .i64 1)), (.sc (.string ⟨#[]⟩)), (.sc (.int .i64 0)), (.sc (.slice none 0 0))])]), (.vec 0 4 [(.agg [(.sc (.int .i64 0)), (.sc (.string ⟨#[]⟩)), (.sc (.int .i64 0)), (.sc (.slice none 0 0))])]), (.vec 0 4 [(.agg [(.sc (.int .i64 0)), (.sc (.string ⟨#[]⟩)), (.sc (.int .i64 0)), (.sc (.slice none 0 0))])]), (.sc (.int .i64 1)), (.sc (.string ⟨#[]⟩)), (.sc (.int .i64 0)), (.sc (.slice none 0 0)), (.vec 0 1 [(.sc (.int .u8 1)), (.sc (.int .u8 66)), (.sc (.int .u8 2)), (.sc (.int .u8 10))]), (.sc (.slice none 0 0)), (.vec 0 4 [(.agg [(.sc (.int .i64 (-1))), (.sc (.int .i64 0)), (.sc (.int .i64 0)), (.sc (.int .i64 0))])]), (.sc (.slice none 0 0)), (.sc (.slice none 0 0)), (.sc (.slice none 0 0))]), (.sc (.int .i64 0)), (.sc (.int .i64 0))])
noncomputable def tsB2 : List (Nat × List (List AV × AV)) := []
theorem givesB2 : gives valB2 (evFK (envT tsB2) 3000 60 12 argsB2 S0) = true := by kernel_rfl
theorem allB2 : AllTold tsB2 := .nil
theorem toldB2 : Told 12 argsB2 valB2 := told (fineT allB2) givesB2
end Go.Proofs.YtpcgbkjdobjdaaaGreatDoor.showInts
