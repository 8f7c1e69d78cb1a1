/-
  The law ShowKnown answers true, whatever the memory and the tape; nothing that was there is turned. No conditions.
-/
import Derived.Test.YtfgdhcomldidlaaGreatDoorTie
import Derived.Test.YtfgdhcomldidlaaGreatDoorCards
import Derived.Test.YtfgdhcomldidlaaGreatDoorKnO
import Derived.Test.YtfgdhcomldidlaaGreatDoorKnPI
import Derived.Test.YtfgdhcomldidlaaGreatDoorKnPJ
import Derived.Test.YtfgdhcomldidlaaGreatDoorKnPK
set_option linter.unusedSimpArgs false
set_option linter.unusedVariables false
namespace Go.Proofs.YtfgdhcomldidlaaGreatDoor.showKnown
open Go.ChangeShapes Go.WideShapes Go.ChangeAt Go.RowKit
/-- The statement. -/
theorem proved : Rows.ShowKnownCardSaid :=
  Claim7.holds_tied_plain_at .later [] [.data, .data, .data, .data, .data, .pinned, .pinned, .pinned] true (true, "e9ae693b11bb0874a181bfc7300e41a5e328ac659d1ef47c36dd014e4b7763b1") false
    over (fun _ h => by cases h) cardWf (fun _ h => by cases h) showKnown_row_tie rfl ⟨rfl, rfl⟩ cardMain rfl
    (fun f fn hf hfn => by
      obtain rfl : f = 4 := Option.some.inj ((show Tryz.prog.funcNamed "hindsight/hindsightlaw26.ShowKnown" = some 4 by kernel_rfl).symm.trans hf) |>.symm
      obtain rfl : fn = Tryz.f4 := (Option.some.inj (Tryz.func4.symm.trans hfn)).symm
      exact ⟨cardLooks, fun j t ht => by
        rw [Tryz.params4] at ht
        simp at ht⟩)
    cardGoes
#print axioms proved
end Go.Proofs.YtfgdhcomldidlaaGreatDoor.showKnown
