/-
  ShowKnown: the row.
-/
import Derived.Test.YtfgdhcomldidlaaGreatDoorKnShL
import Derived.Test.YtfgdhcomldidlaaGreatDoorKnShPA
import Derived.Test.YtfgdhcomldidlaaGreatDoorKnShPB
import Derived.Test.YtfgdhcomldidlaaGreatDoorKnShPC
import Derived.Test.YtfgdhcomldidlaaGreatDoorKnShPD
import Derived.Test.YtfgdhcomldidlaaGreatDoorKnShPE
import Derived.Test.YtfgdhcomldidlaaGreatDoorKnShPF
import Derived.Test.YtfgdhcomldidlaaGreatDoorKnShPG
import Derived.Test.YtfgdhcomldidlaaGreatDoorKnShPH
set_option linter.unusedSimpArgs false
set_option linter.unusedVariables false
namespace Go.Proofs.YtfgdhcomldidlaaGreatDoor.showKnown
open Go.ChangeShapes Go.WideShapes Go.ChangeAt Go.RowKit

theorem andB {a b : Bool} (h1 : a = true) (h2 : b = true) : (a && b) = true := by rw [h1, h2]; rfl
set_option maxRecDepth 100000 in
theorem closed : joinedFacts Tryz.prog 4 Tryz.f4 Rows.showKnownSpec Rows.showKnownRow = true := by
  unfold joinedFacts
  refine andB ?_ fact31
  refine andB ?_ fact30
  refine andB ?_ fact29
  refine andB ?_ fact28
  refine andB ?_ fact27
  refine andB ?_ fact26
  refine andB ?_ fact25
  refine andB ?_ fact24
  refine andB ?_ fact23
  refine andB ?_ fact22
  refine andB ?_ fact21
  refine andB ?_ fact20
  refine andB ?_ fact19
  refine andB ?_ fact18
  refine andB ?_ fact17
  refine andB ?_ fact16
  refine andB ?_ fact15
  refine andB ?_ fact14
  refine andB ?_ fact13
  refine andB ?_ fact12
  refine andB ?_ fact11
  refine andB ?_ fact10
  refine andB ?_ fact9
  refine andB ?_ fact8
  refine andB ?_ fact7
  refine andB ?_ fact6
  refine andB ?_ fact5
  refine andB ?_ fact4
  refine andB ?_ fact3
  refine andB ?_ fact2
  refine andB ?_ fact1
  exact fact0
theorem over : Rows.ShowKnownSaid :=
  OpenClaim.holds_of_wide 4 Tryz.f4 rfl rfl rfl rfl rfl rfl rfl ⟨rfl, rfl, rfl, rfl, rfl⟩ rfl rfl rfl rfl rfl (by kernel_rfl) Tryz.func4 closed
    (of_decide_eq_true (by kernel_rfl)) (by unfold Func.isWrapper; first | (rw [if_pos (by decide +kernel)]; kernel_rfl) | (rw [if_neg (by decide +kernel)]; exact ⟨rfl, rfl⟩))
    (fun os started H enc _ => lifted os started H enc)
end Go.Proofs.YtfgdhcomldidlaaGreatDoor.showKnown
