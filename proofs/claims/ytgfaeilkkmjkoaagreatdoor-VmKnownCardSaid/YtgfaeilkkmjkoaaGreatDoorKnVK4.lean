/-
  VmKnown: a call of plain values, by the kernel.
-/
import Derived.Test.YtgfaeilkkmjkoaaGreatDoorKnF
set_option linter.unusedSimpArgs false
set_option linter.unusedVariables false
namespace Go.Proofs.YtgfaeilkkmjkoaaGreatDoor.vmKnown
open Go Go.Abs
noncomputable def argsK4 : List AV := [(.agg [(.vec 0 7 [(.agg [(.sc (.int .i64 9)), (.sc (.int .i64 0)), (.sc (.string ⟨#[102]⟩)), (.sc (.string ⟨#[120]⟩)), (.vec 0 1 [(.sc (.int .i64 1)), (.sc (.int .i64 4))]), (.sc (.int .i64 0)), (.sc (.int .i64 24))]), (.agg [(.sc (.int .i64 7)), (.sc (.int .i64 0)), (.sc (.string ⟨#[]⟩)), (.sc (.string ⟨#[]⟩)), (.vec 0 1 [(.sc (.int .i64 2)), (.sc (.int .i64 3))]), (.sc (.int .i64 14)), (.sc (.int .i64 17))]), (.agg [(.sc (.int .i64 4)), (.sc (.int .i64 0)), (.sc (.string ⟨#[102]⟩)), (.sc (.string ⟨#[]⟩)), (.sc (.slice none 0 0)), (.sc (.int .i64 14)), (.sc (.int .i64 15))]), (.agg [(.sc (.int .i64 4)), (.sc (.int .i64 0)), (.sc (.string ⟨#[120]⟩)), (.sc (.string ⟨#[]⟩)), (.sc (.slice none 0 0)), (.sc (.int .i64 16)), (.sc (.int .i64 17))]), (.agg [(.sc (.int .i64 7)), (.sc (.int .i64 0)), (.sc (.string ⟨#[]⟩)), (.sc (.string ⟨#[]⟩)), (.vec 0 1 [(.sc (.int .i64 5)), (.sc (.int .i64 6))]), (.sc (.int .i64 21)), (.sc (.int .i64 24))]), (.agg [(.sc (.int .i64 4)), (.sc (.int .i64 0)), (.sc (.string ⟨#[102]⟩)), (.sc (.string ⟨#[]⟩)), (.sc (.slice none 0 0)), (.sc (.int .i64 21)), (.sc (.int .i64 22))]), (.agg [(.sc (.int .i64 1)), (.sc (.int .i64 0)), (.sc (.string ⟨#[]⟩)), (.sc (.string ⟨#[]⟩)), (.sc (.slice none 0 0)), (.sc (.int .i64 23)), (.sc (.int .i64 24))])]), (.sc (.slice none 0 0))])]
noncomputable def valK4 : AV := (.sc (.bool true))
noncomputable def tsK4 : List (Nat × List (List AV × AV)) := []
theorem givesK4 : gives valK4 (evFK (envT tsK4) 3000 60 48 argsK4 S0) = true := by kernel_rfl
theorem allK4 : AllTold tsK4 := .nil
theorem toldK4 : Told 48 argsK4 valK4 := told (fineT allK4) givesK4
end Go.Proofs.YtgfaeilkkmjkoaaGreatDoor.vmKnown
