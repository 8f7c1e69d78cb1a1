/-
  The law ShowInts answers true, whatever the memory and the tape; nothing that was there is turned. No conditions.
-/
import Derived.Test.YtpcgbkjdobjdaaaGreatDoorTie
import Derived.Test.YtpcgbkjdobjdaaaGreatDoorCards
import Derived.Test.YtpcgbkjdobjdaaaGreatDoorKnO
import Derived.Test.YtpcgbkjdobjdaaaGreatDoorKnPI
import Derived.Test.YtpcgbkjdobjdaaaGreatDoorKnPJ
import Derived.Test.YtpcgbkjdobjdaaaGreatDoorKnPK
set_option linter.unusedSimpArgs false
set_option linter.unusedVariables false
namespace Go.Proofs.YtpcgbkjdobjdaaaGreatDoor.showInts
open Go.ChangeShapes Go.WideShapes Go.ChangeAt Go.RowKit
/-- The statement. -/
theorem proved : Rows.ShowIntsCardSaid :=
  Claim7.holds_tied_plain_at .later [] [.data, .data, .data, .data, .data, .pinned, .pinned, .pinned] true (true, "75eb2659996f75bb26fc8493b1c26ba066431086b894cfd7b374bb67a5362432") false
    over (fun _ h => by cases h) cardWf (fun _ h => by cases h) showInts_row_tie rfl ⟨rfl, rfl⟩ cardMain rfl
    (fun f fn hf hfn => by
      obtain rfl : f = 3 := Option.some.inj ((show Tryz.prog.funcNamed "hindsight/hindsightlaw26.ShowInts" = some 3 by kernel_rfl).symm.trans hf) |>.symm
      obtain rfl : fn = Tryz.f3 := (Option.some.inj (Tryz.func3.symm.trans hfn)).symm
      exact ⟨cardLooks, fun j t ht => by
        rw [Tryz.params3] at ht
        have h3 : t = 2 := by
          rcases j with _ | j
          · simpa using ht.symm
          · simp at ht
        subst h3
        exact (show Tryz.prog.wantsStandIn 2 = false by kernel_rfl)⟩)
    cardGoes
#print axioms proved
end Go.Proofs.YtpcgbkjdobjdaaaGreatDoor.showInts
