/-
  DERIVED. GIVEN WITH THE SEED: THE CARDS: each row of YtaacibffjmbfiaaDoorRows.lean that lists a variable, with what it lists TIED to the program's text (the seventh form; the later family's looks); each row that meets fmt, with fmt's text TOLD by the authors' own Lean function (tested against real Go, not proved from fmt's source: count such statements apart). THE CARD IS WHAT COUNTS. Prove the row's statement (the work); the ties are given (YtaacibffjmbfiaaDoorTie.lean); close each card by the builder's one call (the guide's Derived/Test/ToyasCard.lean, 'card_holds'). Laid BY PROGRAM, IN A SANDBOX (cutbox-door.mjs). By AI agents, Wed Nov 11 2026. No macro, syntax, notation, axiom, sorry.
-/
import Derived.Test.YtaacibffjmbfiaaDoorRows
import GoSem.ClaimSeven
namespace Go.Proofs.YtaacibffjmbfiaaDoor
namespace Rows

/-- THE TIED CARD OF 'hindsightlaw6.SchemeApart'. -/
def schemeApartCard : Claim7 := { stood := { row := schemeApartRow, standIns := [], harness := (true, "1fe812490c54cf6fc0c7d6991b749aea9c3225d2242103fb8f9fda143dbe8461"), looks := false }, kinds := [], alts := [], laidByText := true, laidKinds := [.data, .data, .data], laidTests := true, laidLooks := .later }
def SchemeApartCardSaid : Prop := Claim7.holds Tryd.pinned (.plain (OpenSpec.ofChange schemeApartSpec)) schemeApartCard

/-- THE TIED CARD OF 'hindsightlaw6.SchemeMono'. -/
def schemeMonoCard : Claim7 := { stood := { row := schemeMonoRow, standIns := [], harness := (true, "1fe812490c54cf6fc0c7d6991b749aea9c3225d2242103fb8f9fda143dbe8461"), looks := false }, kinds := [], alts := [], laidByText := true, laidKinds := [.data, .data, .data], laidTests := true, laidLooks := .later }
def SchemeMonoCardSaid : Prop := Claim7.holds Tryd.pinned (.plain (OpenSpec.ofChange schemeMonoSpec)) schemeMonoCard

/-- THE TIED CARD OF 'hindsightlaw6.SchemeHeld'. -/
def schemeHeldCard : Claim7 := { stood := { row := schemeHeldRow, standIns := [], harness := (true, "1fe812490c54cf6fc0c7d6991b749aea9c3225d2242103fb8f9fda143dbe8461"), looks := false }, kinds := [], alts := [], laidByText := true, laidKinds := [.data, .data, .data], laidTests := true, laidLooks := .later }
def SchemeHeldCardSaid : Prop := Claim7.holds Tryd.pinned (.plain (OpenSpec.ofChange schemeHeldSpec)) schemeHeldCard

/-- THE TIED CARD OF 'hindsightlaw6.SchemeTakes'. -/
def schemeTakesCard : Claim7 := { stood := { row := schemeTakesRow, standIns := [], harness := (true, "1fe812490c54cf6fc0c7d6991b749aea9c3225d2242103fb8f9fda143dbe8461"), looks := false }, kinds := [], alts := [], laidByText := true, laidKinds := [.data, .data, .data], laidTests := true, laidLooks := .later }
def SchemeTakesCardSaid : Prop := Claim7.holds Tryd.pinned (.plain (OpenSpec.ofChange schemeTakesSpec)) schemeTakesCard

/-- THE TIED CARD OF 'hindsightlaw6.SchemeSays'. -/
def schemeSaysCard : Claim7 := { stood := { row := schemeSaysRow, standIns := [], harness := (true, "1fe812490c54cf6fc0c7d6991b749aea9c3225d2242103fb8f9fda143dbe8461"), looks := false }, kinds := [], alts := [], laidByText := true, laidKinds := [.data, .data, .data], laidTests := true, laidLooks := .later }
def SchemeSaysCardSaid : Prop := Claim7.holds Tryd.pinned (.plain (OpenSpec.ofChange schemeSaysSpec)) schemeSaysCard

/-- THE SECOND FORM's CARD OF 'hindsightlaw6.SchemeApart'. -/
def schemeApartUptoCard : Claim7 := { stood := { row := schemeApartUptoRow, standIns := [], harness := (true, "1fe812490c54cf6fc0c7d6991b749aea9c3225d2242103fb8f9fda143dbe8461"), looks := false }, kinds := [], alts := [], laidByText := true, laidKinds := [.data, .data, .data], laidTests := true, laidLooks := .later }
def SchemeApartUptoCardSaid : Prop := Claim7.holds Tryd.pinned (.plain (OpenSpec.upto schemeApartSpec)) schemeApartUptoCard

/-- THE SECOND FORM's CARD OF 'hindsightlaw6.SchemeMono'. -/
def schemeMonoUptoCard : Claim7 := { stood := { row := schemeMonoUptoRow, standIns := [], harness := (true, "1fe812490c54cf6fc0c7d6991b749aea9c3225d2242103fb8f9fda143dbe8461"), looks := false }, kinds := [], alts := [], laidByText := true, laidKinds := [.data, .data, .data], laidTests := true, laidLooks := .later }
def SchemeMonoUptoCardSaid : Prop := Claim7.holds Tryd.pinned (.plain (OpenSpec.upto schemeMonoSpec)) schemeMonoUptoCard

/-- THE SECOND FORM's CARD OF 'hindsightlaw6.SchemeHeld'. -/
def schemeHeldUptoCard : Claim7 := { stood := { row := schemeHeldUptoRow, standIns := [], harness := (true, "1fe812490c54cf6fc0c7d6991b749aea9c3225d2242103fb8f9fda143dbe8461"), looks := false }, kinds := [], alts := [], laidByText := true, laidKinds := [.data, .data, .data], laidTests := true, laidLooks := .later }
def SchemeHeldUptoCardSaid : Prop := Claim7.holds Tryd.pinned (.plain (OpenSpec.upto schemeHeldSpec)) schemeHeldUptoCard

/-- THE SECOND FORM's CARD OF 'hindsightlaw6.SchemeTakes'. -/
def schemeTakesUptoCard : Claim7 := { stood := { row := schemeTakesUptoRow, standIns := [], harness := (true, "1fe812490c54cf6fc0c7d6991b749aea9c3225d2242103fb8f9fda143dbe8461"), looks := false }, kinds := [], alts := [], laidByText := true, laidKinds := [.data, .data, .data], laidTests := true, laidLooks := .later }
def SchemeTakesUptoCardSaid : Prop := Claim7.holds Tryd.pinned (.plain (OpenSpec.upto schemeTakesSpec)) schemeTakesUptoCard

/-- THE SECOND FORM's CARD OF 'hindsightlaw6.SchemeSays'. -/
def schemeSaysUptoCard : Claim7 := { stood := { row := schemeSaysUptoRow, standIns := [], harness := (true, "1fe812490c54cf6fc0c7d6991b749aea9c3225d2242103fb8f9fda143dbe8461"), looks := false }, kinds := [], alts := [], laidByText := true, laidKinds := [.data, .data, .data], laidTests := true, laidLooks := .later }
def SchemeSaysUptoCardSaid : Prop := Claim7.holds Tryd.pinned (.plain (OpenSpec.upto schemeSaysSpec)) schemeSaysUptoCard
end Rows
end Go.Proofs.YtaacibffjmbfiaaDoor
