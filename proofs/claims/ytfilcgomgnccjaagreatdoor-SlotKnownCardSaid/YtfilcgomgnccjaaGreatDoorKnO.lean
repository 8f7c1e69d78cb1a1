/-
  SlotKnown: the row.
-/
import Derived.Test.YtfilcgomgnccjaaGreatDoorKnL
import Derived.Test.YtfilcgomgnccjaaGreatDoorKnPA
import Derived.Test.YtfilcgomgnccjaaGreatDoorKnPB
import Derived.Test.YtfilcgomgnccjaaGreatDoorKnPC
import Derived.Test.YtfilcgomgnccjaaGreatDoorKnPD
import Derived.Test.YtfilcgomgnccjaaGreatDoorKnPF
import Derived.Test.YtfilcgomgnccjaaGreatDoorKnPG
import Derived.Test.YtfilcgomgnccjaaGreatDoorKnPH
set_option linter.unusedSimpArgs false
set_option linter.unusedVariables false
namespace Go.Proofs.YtfilcgomgnccjaaGreatDoor.slotKnown
open Go.ChangeShapes Go.WideShapes Go.ChangeAt Go.RowKit
set_option maxRecDepth 100000 in
theorem closed : joinedFacts Tryz.prog 3 Tryz.f3 Rows.slotKnownSpec Rows.slotKnownRow = true := by
  unfold joinedFacts
  refine RowF.andB ?_ fact31
  refine RowF.andB ?_ fact30
  refine RowF.andB ?_ fact29
  refine RowF.andB ?_ fact28
  refine RowF.andB ?_ fact27
  refine RowF.andB ?_ fact26
  refine RowF.andB ?_ fact25
  refine RowF.andB ?_ fact24
  refine RowF.andB ?_ fact23
  refine RowF.andB ?_ fact22
  refine RowF.andB ?_ fact21
  refine RowF.andB ?_ fact20
  refine RowF.andB ?_ fact19
  refine RowF.andB ?_ fact18
  refine RowF.andB ?_ fact17
  refine RowF.andB ?_ fact16
  refine RowF.andB ?_ fact15
  refine RowF.andB ?_ fact14
  refine RowF.andB ?_ fact13
  refine RowF.andB ?_ fact12
  refine RowF.andB ?_ fact11
  refine RowF.andB ?_ fact10
  refine RowF.andB ?_ fact9
  refine RowF.andB ?_ fact8
  refine RowF.andB ?_ fact7
  refine RowF.andB ?_ fact6
  refine RowF.andB ?_ fact5
  refine RowF.andB ?_ fact4
  refine RowF.andB ?_ fact3
  refine RowF.andB ?_ fact2
  refine RowF.andB ?_ fact1
  exact fact0
theorem over : Rows.SlotKnownSaid :=
  OpenClaim.holds_of_wide 3 Tryz.f3 rfl rfl rfl rfl rfl rfl rfl ⟨rfl, rfl, rfl, rfl, rfl⟩ rfl rfl rfl rfl rfl (by kernel_rfl) Tryz.func3 closed
    (of_decide_eq_true (by kernel_rfl)) (by unfold Func.isWrapper; first | (rw [if_pos (by decide +kernel)]; kernel_rfl) | (rw [if_neg (by decide +kernel)]; exact ⟨rfl, rfl⟩))
    (fun os started H enc _ => lifted os started H enc)
end Go.Proofs.YtfilcgomgnccjaaGreatDoor.slotKnown
