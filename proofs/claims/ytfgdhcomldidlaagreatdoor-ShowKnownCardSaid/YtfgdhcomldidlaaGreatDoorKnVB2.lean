/-
  ShowKnown: a call of plain values, by the kernel.
-/
import Derived.Test.YtfgdhcomldidlaaGreatDoorKnF
set_option linter.unusedSimpArgs false
set_option linter.unusedVariables false
namespace Go.Proofs.YtfgdhcomldidlaaGreatDoor.showKnown
open Go Go.Abs
noncomputable def argsB2 : List AV := [(.sc (.string ⟨#[116, 121, 112, 101, 32, 116, 32, 61, 32, 65, 32, 124, 32, 66, 32, 111, 102, 32, 105, 110, 116, 32, 105, 110, 32, 66, 32, 40, 55, 41]⟩))]
noncomputable def valB2 : AV := (.tup [(.agg [(.sc (.string ⟨#[116, 121, 112, 101, 32, 116, 32, 61, 32, 65, 32, 124, 32, 66, 32, 111, 102, 32, 105, 110, 116, 32, 105, 110, 32, 66, 32, 40, 55, 41]⟩)), (.vec 0 7 [(.agg [(.sc (.int .i64 5)), (.sc (.int .i64 0)), (.sc (.string ⟨#[66]⟩)), (.sc (.string ⟨#[]⟩)), (.vec 0 1 [(.sc (.int .i64 1))]), (.sc (.int .i64 25)), (.sc (.int .i64 30))]), (.agg [(.sc (.int .i64 1)), (.sc (.int .i64 7)), (.sc (.string ⟨#[]⟩)), (.sc (.string ⟨#[]⟩)), (.sc (.slice none 0 0)), (.sc (.int .i64 28)), (.sc (.int .i64 29))])]), (.vec 0 2 [(.agg [(.sc (.string ⟨#[116]⟩)), (.vec 0 2 [(.agg [(.sc (.string ⟨#[65]⟩)), (.sc (.slice none 0 0))]), (.agg [(.sc (.string ⟨#[66]⟩)), (.vec 0 1 [(.sc (.string ⟨#[105, 110, 116]⟩))])])])])]), (.vec 0 4 [(.agg [(.sc (.int .i64 4)), (.sc (.string ⟨#[116]⟩)), (.sc (.int .i64 0)), (.sc (.slice none 0 0))]), (.agg [(.sc (.int .i64 1)), (.sc (.string ⟨#[]⟩)), (.sc (.int .i64 0)), (.sc (.slice none 0 0))])]), (.vec 0 4 [(.agg [(.sc (.int .i64 0)), (.sc (.string ⟨#[]⟩)), (.sc (.int .i64 0)), (.sc (.slice none 0 0))]), (.agg [(.sc (.int .i64 0)), (.sc (.string ⟨#[]⟩)), (.sc (.int .i64 0)), (.sc (.slice none 0 0))])]), (.vec 0 4 [(.agg [(.sc (.int .i64 0)), (.sc (.string ⟨#[]⟩)), (.sc (.int .i64 0)), (.sc (.slice none 0 0))]), (.agg [(.sc (.int .i64 0)), (.sc (.string ⟨#[]⟩)), (.sc (.int .i64 0)), (.sc (.slice none 0 0))])]), (.sc (.int .i64 4)), (.sc (.string ⟨#[116]⟩)), (.sc (.int .i64 0)), (.sc (.slice none 0 0)), (.vec 0 1 [(.sc (.int .u8 1)), (.sc (.int .u8 66)), (.sc (.int .u8 14)), (.sc (.int .u8 206)), (.sc (.int .u8 2)), (.sc (.int .u8 2)), (.sc (.int .u8 10))]), (.sc (.slice none 0 0)), (.vec 0 4 [(.agg [(.sc (.int .i64 (-1))), (.sc (.int .i64 0)), (.sc (.int .i64 0)), (.sc (.int .i64 0))])]), (.vec 0 1 [(.sc (.string ⟨#[65]⟩)), (.sc (.string ⟨#[66]⟩))]), (.sc (.slice none 0 0)), (.sc (.slice none 0 0))]), (.sc (.int .i64 0)), (.sc (.int .i64 0))])
noncomputable def tsB2 : List (Nat × List (List AV × AV)) := []
theorem givesB2 : gives valB2 (evFK (envT tsB2) 3000 60 16 argsB2 S0) = true := by kernel_rfl
theorem allB2 : AllTold tsB2 := .nil
theorem toldB2 : Told 16 argsB2 valB2 := told (fineT allB2) givesB2
end Go.Proofs.YtfgdhcomldidlaaGreatDoor.showKnown
