/-
  The law SlotKnown answers true, whatever the memory and the tape; nothing that was there is turned. No conditions.
-/
import Derived.Test.YtfilcgomgnccjaaGreatDoorTie
import Derived.Test.YtfilcgomgnccjaaGreatDoorCards
import Derived.Test.YtfilcgomgnccjaaGreatDoorKnO
import Derived.Test.YtfilcgomgnccjaaGreatDoorKnPI
import Derived.Test.YtfilcgomgnccjaaGreatDoorKnPJ
import Derived.Test.YtfilcgomgnccjaaGreatDoorKnPK
set_option linter.unusedSimpArgs false
set_option linter.unusedVariables false
namespace Go.Proofs.YtfilcgomgnccjaaGreatDoor.slotKnown
open Go.ChangeShapes Go.WideShapes Go.ChangeAt Go.RowKit
/-- The statement. -/
theorem proved : Rows.SlotKnownCardSaid :=
  Claim7.holds_tied_plain_at .later [] [.data, .data, .pinned, .pinned, .pinned] true (true, "6915cfc732727408c97fba3074ba9ae015ef262648fc9ade719690273d02470a") false
    over (fun _ h => by cases h) cardWf (fun _ h => by cases h) slotKnown_row_tie rfl ⟨rfl, rfl⟩ cardMain rfl
    (fun f fn hf hfn => by
      obtain rfl : f = 3 := Option.some.inj ((show Tryz.prog.funcNamed "hindsight/hindsightlaw13.SlotKnown" = some 3 by kernel_rfl).symm.trans hf) |>.symm
      obtain rfl : fn = Tryz.f3 := (Option.some.inj (Tryz.func3.symm.trans hfn)).symm
      exact ⟨cardLooks, fun j t ht => by
        rw [Tryz.params3] at ht
        simp at ht⟩)
    cardGoes
#print axioms proved
end Go.Proofs.YtfilcgomgnccjaaGreatDoor.slotKnown
