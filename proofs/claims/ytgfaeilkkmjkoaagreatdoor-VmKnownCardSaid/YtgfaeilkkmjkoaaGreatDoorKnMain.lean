/-
  The law VmKnown answers true, whatever the memory and the tape; nothing that was there is turned. No conditions.
-/
import Derived.Test.YtgfaeilkkmjkoaaGreatDoorTie
import Derived.Test.YtgfaeilkkmjkoaaGreatDoorCards
import Derived.Test.YtgfaeilkkmjkoaaGreatDoorKnO
import Derived.Test.YtgfaeilkkmjkoaaGreatDoorKnPI
import Derived.Test.YtgfaeilkkmjkoaaGreatDoorKnPJ
import Derived.Test.YtgfaeilkkmjkoaaGreatDoorKnPK
set_option linter.unusedSimpArgs false
set_option linter.unusedVariables false
namespace Go.Proofs.YtgfaeilkkmjkoaaGreatDoor.vmKnown
open Go.ChangeShapes Go.WideShapes Go.ChangeAt Go.RowKit
/-- The statement. -/
theorem proved : Rows.VmKnownCardSaid :=
  Claim7.holds_tied_plain_at .later [] [.data, .data, .data, .data, .data, .pinned, .pinned, .pinned] true (true, "2a47aa2f7187091182cc5ab649ec8a91970980de1d3ac15236cfb63498c9d181") false
    over (fun _ h => by cases h) cardWf (fun _ h => by cases h) vmKnown_row_tie rfl ⟨rfl, rfl⟩ cardMain rfl
    (fun f fn hf hfn => by
      obtain rfl : f = 3 := Option.some.inj ((show Tryz.prog.funcNamed "hindsight/hindsightlaw20.VmKnown" = some 3 by kernel_rfl).symm.trans hf) |>.symm
      obtain rfl : fn = Tryz.f3 := (Option.some.inj (Tryz.func3.symm.trans hfn)).symm
      exact ⟨cardLooks, fun j t ht => by
        rw [Tryz.params3] at ht
        simp at ht⟩)
    cardGoes
#print axioms proved
end Go.Proofs.YtgfaeilkkmjkoaaGreatDoor.vmKnown
