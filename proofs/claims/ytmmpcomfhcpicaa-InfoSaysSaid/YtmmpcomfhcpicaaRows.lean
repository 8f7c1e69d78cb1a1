/-
  No cell of these rows narrows 'for every input' (looked for: loops, veiled, ifaces, maps, wideKeys, modest, calm, conditions, laid).
  DERIVED. THE GIVEN ROWS OF THIS SEAT. 4 by the template 'for every input the law returns true; each argument reads behind the call as it read before'; 0 by the template 'total and deterministic' (their statements: YtmmpcomfhcpicaaTotals.lean).
  GIVEN WITH THE SEED: the statements are not yours to turn. If you find one false, say at which input.
  Laid BY PROGRAM, IN A SANDBOX (cutbox-rows.mjs): the forced cells as the released guide's own fill.sh prints them over the translation c6f68fa5ef8aa084… (all of the seat's roots in one cut). By AI agents, Wed Nov 11 2026. No macro, syntax, notation, axiom, sorry.
-/
import Derived.Test.YtmmpcomfhcpicaaChecked
import GoSem.Claim
import GoSem.ClaimJoined
import GoSem.ClaimMapViews
import Derived.JoinedTies
import Derived.KernelRfl
namespace Go.Proofs.Ytmmpcomfhcpicaa
/- THE CELL 'sum', in the pinned program and in every row, IS THE sha256 OF THE DUMP (.gsa) THAT YtmmpcomfhcpicaaProg.lean LOADS. Nothing in Lean hashes anything: it is a label: what it is worth is what the hold of that sum in a sandbox is worth. -/
noncomputable def Try.pinned : Pinned := { name := "ytmmpcomfhcpicaa", sum := "c6f68fa5ef8aa084c022d8a1e2209840ed5dc12b82242e9503bd53c7656daa58", checked := Try.checked }
namespace Rows
def none {H : Type} : Left H := { results := [], args := [] }

/-- 'hindsightlaw16.InfoBack': WHATEVER THE INPUT: true; the input reads as it did. -/
def infoBackSpec : ChangeSpec := { name := "infoBack", fn := fun _ => fun
  | [d1, d2] => { results := [.lit (.bool true)], args := [d1, d2] }
  | _ => none }
def infoBackRow : OpenClaim := { program := "ytmmpcomfhcpicaa", sum := "c6f68fa5ef8aa084c022d8a1e2209840ed5dc12b82242e9503bd53c7656daa58", func := "hindsight/hindsightlaw16.InfoBack", spec := "infoBack", inPlace := ["internal/bytealg.abigen_runtime_cmpstring"], unfollowed := true, recurses := true, apart := false }
def InfoBackSaid : Prop := infoBackRow.holds Try.pinned (OpenSpec.ofChange infoBackSpec)

/-- ITS FALSE NEIGHBOUR: 'it returns false'. Refute it at one input. -/
def infoBackWrong : ChangeSpec := { name := "infoBack", fn := fun _ => fun
  | [d1, d2] => { results := [.lit (.bool false)], args := [d1, d2] }
  | _ => none }
def InfoBackWrongFalsely : Prop := infoBackRow.holds Try.pinned (OpenSpec.ofChange infoBackWrong)

/-- 'hindsightlaw16.InfoPuts': WHATEVER THE INPUT: true; the input reads as it did. -/
def infoPutsSpec : ChangeSpec := { name := "infoPuts", fn := fun _ => fun
  | [d1, d2] => { results := [.lit (.bool true)], args := [d1, d2] }
  | _ => none }
def infoPutsRow : OpenClaim := { program := "ytmmpcomfhcpicaa", sum := "c6f68fa5ef8aa084c022d8a1e2209840ed5dc12b82242e9503bd53c7656daa58", func := "hindsight/hindsightlaw16.InfoPuts", spec := "infoPuts", inPlace := ["internal/bytealg.abigen_runtime_cmpstring"], unfollowed := true, recurses := true, apart := false }
def InfoPutsSaid : Prop := infoPutsRow.holds Try.pinned (OpenSpec.ofChange infoPutsSpec)

/-- ITS FALSE NEIGHBOUR: 'it returns false'. Refute it at one input. -/
def infoPutsWrong : ChangeSpec := { name := "infoPuts", fn := fun _ => fun
  | [d1, d2] => { results := [.lit (.bool false)], args := [d1, d2] }
  | _ => none }
def InfoPutsWrongFalsely : Prop := infoPutsRow.holds Try.pinned (OpenSpec.ofChange infoPutsWrong)

/-- 'hindsightlaw16.InfoSays': WHATEVER THE INPUT: true; the input reads as it did. -/
def infoSaysSpec : ChangeSpec := { name := "infoSays", fn := fun _ => fun
  | [d1, d2, d3, d4] => { results := [.lit (.bool true)], args := [d1, d2, d3, d4] }
  | _ => none }
def infoSaysRow : OpenClaim := { program := "ytmmpcomfhcpicaa", sum := "c6f68fa5ef8aa084c022d8a1e2209840ed5dc12b82242e9503bd53c7656daa58", func := "hindsight/hindsightlaw16.InfoSays", spec := "infoSays", inPlace := ["internal/bytealg.abigen_runtime_cmpstring"], unfollowed := true, recurses := true, apart := false }
def InfoSaysSaid : Prop := infoSaysRow.holds Try.pinned (OpenSpec.ofChange infoSaysSpec)

/-- ITS FALSE NEIGHBOUR: 'it returns false'. Refute it at one input. -/
def infoSaysWrong : ChangeSpec := { name := "infoSays", fn := fun _ => fun
  | [d1, d2, d3, d4] => { results := [.lit (.bool false)], args := [d1, d2, d3, d4] }
  | _ => none }
def InfoSaysWrongFalsely : Prop := infoSaysRow.holds Try.pinned (OpenSpec.ofChange infoSaysWrong)

/-- 'hindsightlaw16.InfoApart': WHATEVER THE INPUT: true; the input reads as it did. -/
def infoApartSpec : ChangeSpec := { name := "infoApart", fn := fun _ => fun
  | [d1, d2] => { results := [.lit (.bool true)], args := [d1, d2] }
  | _ => none }
def infoApartRow : OpenClaim := { program := "ytmmpcomfhcpicaa", sum := "c6f68fa5ef8aa084c022d8a1e2209840ed5dc12b82242e9503bd53c7656daa58", func := "hindsight/hindsightlaw16.InfoApart", spec := "infoApart", inPlace := ["internal/bytealg.abigen_runtime_cmpstring"], unfollowed := true, recurses := true, apart := false }
def InfoApartSaid : Prop := infoApartRow.holds Try.pinned (OpenSpec.ofChange infoApartSpec)

/-- ITS FALSE NEIGHBOUR: 'it returns false'. Refute it at one input. -/
def infoApartWrong : ChangeSpec := { name := "infoApart", fn := fun _ => fun
  | [d1, d2] => { results := [.lit (.bool false)], args := [d1, d2] }
  | _ => none }
def InfoApartWrongFalsely : Prop := infoApartRow.holds Try.pinned (OpenSpec.ofChange infoApartWrong)

/- THE SECOND FORM. 'bulk': how many values and letters a reading holds, each counted each time it is reached (what is shared counts as often as it is met; a slice's spare places count too). A statement '..UptoSaid' is the law's where the arguments, and the package variables that the reading takes, are together of bulk at most 1048576: NARROWER than '..Said'. Prove '..Said' where nothing that the law and all that it calls make is longer than what came in: it says more and counts as full. Else prove '..UptoSaid'. A law counts once. -/
mutual
def uptoBulk {H : Type} : DataW H → Nat
  | .lit (.string bytes) => bytes.length + 1
  | .lit _ => 1
  | .nil => 1
  | .ptr d => uptoBulk d + 1
  | .slice elems spare => uptoBulkAll elems + uptoBulkAll spare + 1
  | .agg parts => uptoBulkAll parts + 1
  | .iface _ d => uptoBulk d + 1
  | .map entries => uptoBulkEntries entries + 1
  | .held _ => 1
def uptoBulkAll {H : Type} : List (DataW H) → Nat
  | [] => 0
  | d :: r => uptoBulk d + uptoBulkAll r
def uptoBulkEntries {H : Type} : List (Lit × DataW H) → Nat
  | [] => 0
  | x :: r => uptoBulkEntry x + uptoBulkEntries r
def uptoBulkEntry {H : Type} : Lit × DataW H → Nat
  | (.string bytes, d) => bytes.length + uptoBulk d + 1
  | (_, d) => uptoBulk d + 1
 end
def uptoSmall : (H : Type) → List (DataW H) → Bool := fun _ ds => decide (uptoBulkAll ds ≤ 1048576)
def OpenSpec.upto (s : _root_.Go.ChangeSpec) : _root_.Go.OpenSpec := { _root_.Go.OpenSpec.ofChange s with cond := some uptoSmall }

/-- 'hindsightlaw16.InfoBack', WHERE WHAT IT READS IS OF BULK AT MOST 1048576: true; the input reads as it did. -/
def infoBackUptoRow : OpenClaim := { program := "ytmmpcomfhcpicaa", sum := "c6f68fa5ef8aa084c022d8a1e2209840ed5dc12b82242e9503bd53c7656daa58", func := "hindsight/hindsightlaw16.InfoBack", spec := "infoBack", inPlace := ["internal/bytealg.abigen_runtime_cmpstring"], unfollowed := true, recurses := true, apart := false, narrowed := true }
def InfoBackUptoSaid : Prop := infoBackUptoRow.holds Try.pinned (OpenSpec.upto infoBackSpec)

/-- 'hindsightlaw16.InfoPuts', WHERE WHAT IT READS IS OF BULK AT MOST 1048576: true; the input reads as it did. -/
def infoPutsUptoRow : OpenClaim := { program := "ytmmpcomfhcpicaa", sum := "c6f68fa5ef8aa084c022d8a1e2209840ed5dc12b82242e9503bd53c7656daa58", func := "hindsight/hindsightlaw16.InfoPuts", spec := "infoPuts", inPlace := ["internal/bytealg.abigen_runtime_cmpstring"], unfollowed := true, recurses := true, apart := false, narrowed := true }
def InfoPutsUptoSaid : Prop := infoPutsUptoRow.holds Try.pinned (OpenSpec.upto infoPutsSpec)

/-- 'hindsightlaw16.InfoSays', WHERE WHAT IT READS IS OF BULK AT MOST 1048576: true; the input reads as it did. -/
def infoSaysUptoRow : OpenClaim := { program := "ytmmpcomfhcpicaa", sum := "c6f68fa5ef8aa084c022d8a1e2209840ed5dc12b82242e9503bd53c7656daa58", func := "hindsight/hindsightlaw16.InfoSays", spec := "infoSays", inPlace := ["internal/bytealg.abigen_runtime_cmpstring"], unfollowed := true, recurses := true, apart := false, narrowed := true }
def InfoSaysUptoSaid : Prop := infoSaysUptoRow.holds Try.pinned (OpenSpec.upto infoSaysSpec)

/-- 'hindsightlaw16.InfoApart', WHERE WHAT IT READS IS OF BULK AT MOST 1048576: true; the input reads as it did. -/
def infoApartUptoRow : OpenClaim := { program := "ytmmpcomfhcpicaa", sum := "c6f68fa5ef8aa084c022d8a1e2209840ed5dc12b82242e9503bd53c7656daa58", func := "hindsight/hindsightlaw16.InfoApart", spec := "infoApart", inPlace := ["internal/bytealg.abigen_runtime_cmpstring"], unfollowed := true, recurses := true, apart := false, narrowed := true }
def InfoApartUptoSaid : Prop := infoApartUptoRow.holds Try.pinned (OpenSpec.upto infoApartSpec)

end Rows
end Go.Proofs.Ytmmpcomfhcpicaa
