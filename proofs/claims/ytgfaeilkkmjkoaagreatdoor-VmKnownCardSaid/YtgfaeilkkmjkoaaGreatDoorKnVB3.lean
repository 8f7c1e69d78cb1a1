/-
  VmKnown: a call of plain values, by the kernel.
-/
import Derived.Test.YtgfaeilkkmjkoaaGreatDoorKnF
set_option linter.unusedSimpArgs false
set_option linter.unusedVariables false
namespace Go.Proofs.YtgfaeilkkmjkoaaGreatDoor.vmKnown
open Go Go.Abs
noncomputable def argsB3 : List AV := [(.sc (.string ⟨#[49]⟩))]
noncomputable def valB3 : AV := (.tup [(.agg [(.sc (.string ⟨#[49]⟩)), (.vec 0 7 [(.agg [(.sc (.int .i64 1)), (.sc (.int .i64 1)), (.sc (.string ⟨#[]⟩)), (.sc (.string ⟨#[]⟩)), (.sc (.slice none 0 0)), (.sc (.int .i64 0)), (.sc (.int .i64 1))])]), (.sc (.slice none 0 0)), (.vec 0 4 [(.agg [(.sc (.int .i64 1)), (.sc (.string ⟨#[]⟩)), (.sc (.int .i64 0)), (.sc (.slice none 0 0))])]), (.vec 0 4 [(.agg [(.sc (.int .i64 0)), (.sc (.string ⟨#[]⟩)), (.sc (.int .i64 0)), (.sc (.slice none 0 0))])]), (.vec 0 4 [(.agg [(.sc (.int .i64 0)), (.sc (.string ⟨#[]⟩)), (.sc (.int .i64 0)), (.sc (.slice none 0 0))])]), (.sc (.int .i64 1)), (.sc (.string ⟨#[]⟩)), (.sc (.int .i64 0)), (.sc (.slice none 0 0)), (.vec 0 1 [(.sc (.int .u8 1)), (.sc (.int .u8 66)), (.sc (.int .u8 2)), (.sc (.int .u8 10))]), (.sc (.slice none 0 0)), (.vec 0 4 [(.agg [(.sc (.int .i64 (-1))), (.sc (.int .i64 0)), (.sc (.int .i64 0)), (.sc (.int .i64 0))])]), (.sc (.slice none 0 0)), (.sc (.slice none 0 0)), (.sc (.slice none 0 0))]), (.sc (.int .i64 0)), (.sc (.int .i64 0))])
noncomputable def tsB3 : List (Nat × List (List AV × AV)) := []
theorem givesB3 : gives valB3 (evFK (envT tsB3) 3000 60 13 argsB3 S0) = true := by kernel_rfl
theorem allB3 : AllTold tsB3 := .nil
theorem toldB3 : Told 13 argsB3 valB3 := told (fineT allB3) givesB3
end Go.Proofs.YtgfaeilkkmjkoaaGreatDoor.vmKnown
