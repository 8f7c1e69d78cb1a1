/-
  VmKnown: a call of plain values, by the kernel.
-/
import Derived.Test.YtgfaeilkkmjkoaaGreatDoorKnF
set_option linter.unusedSimpArgs false
set_option linter.unusedVariables false
namespace Go.Proofs.YtgfaeilkkmjkoaaGreatDoor.vmKnown
open Go Go.Abs
noncomputable def argsK2 : List AV := [(.agg [(.vec 0 7 [(.agg [(.sc (.int .i64 9)), (.sc (.int .i64 0)), (.sc (.string ⟨#[102]⟩)), (.sc (.string ⟨#[120]⟩)), (.vec 0 1 [(.sc (.int .i64 1)), (.sc (.int .i64 8))]), (.sc (.int .i64 0)), (.sc (.int .i64 34))]), (.agg [(.sc (.int .i64 14)), (.sc (.int .i64 0)), (.sc (.string ⟨#[43]⟩)), (.sc (.string ⟨#[]⟩)), (.vec 0 1 [(.sc (.int .i64 2)), (.sc (.int .i64 7))]), (.sc (.int .i64 14)), (.sc (.int .i64 27))]), (.agg [(.sc (.int .i64 7)), (.sc (.int .i64 0)), (.sc (.string ⟨#[]⟩)), (.sc (.string ⟨#[]⟩)), (.vec 0 1 [(.sc (.int .i64 3)), (.sc (.int .i64 4))]), (.sc (.int .i64 14)), (.sc (.int .i64 22))]), (.agg [(.sc (.int .i64 4)), (.sc (.int .i64 0)), (.sc (.string ⟨#[102]⟩)), (.sc (.string ⟨#[]⟩)), (.sc (.slice none 0 0)), (.sc (.int .i64 14)), (.sc (.int .i64 15))]), (.agg [(.sc (.int .i64 14)), (.sc (.int .i64 0)), (.sc (.string ⟨#[43]⟩)), (.sc (.string ⟨#[]⟩)), (.vec 0 1 [(.sc (.int .i64 5)), (.sc (.int .i64 6))]), (.sc (.int .i64 17)), (.sc (.int .i64 22))]), (.agg [(.sc (.int .i64 4)), (.sc (.int .i64 0)), (.sc (.string ⟨#[120]⟩)), (.sc (.string ⟨#[]⟩)), (.sc (.slice none 0 0)), (.sc (.int .i64 17)), (.sc (.int .i64 18))]), (.agg [(.sc (.int .i64 1)), (.sc (.int .i64 1)), (.sc (.string ⟨#[]⟩)), (.sc (.string ⟨#[]⟩)), (.sc (.slice none 0 0)), (.sc (.int .i64 21)), (.sc (.int .i64 22))]), (.agg [(.sc (.int .i64 1)), (.sc (.int .i64 1)), (.sc (.string ⟨#[]⟩)), (.sc (.string ⟨#[]⟩)), (.sc (.slice none 0 0)), (.sc (.int .i64 26)), (.sc (.int .i64 27))]), (.agg [(.sc (.int .i64 7)), (.sc (.int .i64 0)), (.sc (.string ⟨#[]⟩)), (.sc (.string ⟨#[]⟩)), (.vec 0 1 [(.sc (.int .i64 9)), (.sc (.int .i64 10))]), (.sc (.int .i64 31)), (.sc (.int .i64 34))]), (.agg [(.sc (.int .i64 4)), (.sc (.int .i64 0)), (.sc (.string ⟨#[102]⟩)), (.sc (.string ⟨#[]⟩)), (.sc (.slice none 0 0)), (.sc (.int .i64 31)), (.sc (.int .i64 32))]), (.agg [(.sc (.int .i64 1)), (.sc (.int .i64 0)), (.sc (.string ⟨#[]⟩)), (.sc (.string ⟨#[]⟩)), (.sc (.slice none 0 0)), (.sc (.int .i64 33)), (.sc (.int .i64 34))])]), (.sc (.slice none 0 0))])]
noncomputable def valK2 : AV := (.sc (.bool true))
noncomputable def tsK2 : List (Nat × List (List AV × AV)) := []
theorem givesK2 : gives valK2 (evFK (envT tsK2) 3000 60 48 argsK2 S0) = true := by kernel_rfl
theorem allK2 : AllTold tsK2 := .nil
theorem toldK2 : Told 48 argsK2 valK2 := told (fineT allK2) givesK2
end Go.Proofs.YtgfaeilkkmjkoaaGreatDoor.vmKnown
