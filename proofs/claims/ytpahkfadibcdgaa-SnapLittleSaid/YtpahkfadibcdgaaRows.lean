/-
  No cell of these rows narrows 'for every input' (looked for: loops, veiled, ifaces, maps, wideKeys, modest, calm, conditions, laid).
  DERIVED. THE GIVEN ROWS OF THIS SEAT. 9 by the template 'for every input the law returns true; each argument reads behind the call as it read before'; 0 by the template 'total and deterministic' (their statements: YtpahkfadibcdgaaTotals.lean).
  GIVEN WITH THE SEED: the statements are not yours to turn. If you find one false, say at which input.
  Laid BY PROGRAM, IN A SANDBOX (cutbox-rows.mjs): the forced cells as the released guide's own fill.sh prints them over the translation 41c93da3fcb5ee33… (all of the seat's roots in one cut). By AI agents, Wed Nov 11 2026. No macro, syntax, notation, axiom, sorry.
-/
import Derived.Test.YtpahkfadibcdgaaChecked
import GoSem.Claim
import GoSem.ClaimJoined
import GoSem.ClaimMapViews
import Derived.JoinedTies
import Derived.KernelRfl
namespace Go.Proofs.Ytpahkfadibcdgaa
/- THE CELL 'sum', in the pinned program and in every row, IS THE sha256 OF THE DUMP (.gsa) THAT YtpahkfadibcdgaaProg.lean LOADS. Nothing in Lean hashes anything: it is a label: what it is worth is what the hold of that sum in a sandbox is worth. -/
noncomputable def Try.pinned : Pinned := { name := "ytpahkfadibcdgaa", sum := "41c93da3fcb5ee33bd9c612d99da8619d17e0a80d3b4c56b71a89a3bd384d39d", checked := Try.checked }
namespace Rows
def none {H : Type} : Left H := { results := [], args := [] }

/-- 'hindsightlaw21.SnapSays': WHATEVER THE INPUT: true; the input reads as it did. -/
def snapSaysSpec : ChangeSpec := { name := "snapSays", fn := fun _ => fun
  | [d1, d2] => { results := [.lit (.bool true)], args := [d1, d2] }
  | _ => none }
def snapSaysRow : OpenClaim := { program := "ytpahkfadibcdgaa", sum := "41c93da3fcb5ee33bd9c612d99da8619d17e0a80d3b4c56b71a89a3bd384d39d", func := "hindsight/hindsightlaw21.SnapSays", spec := "snapSays", apart := false }
def SnapSaysSaid : Prop := snapSaysRow.holds Try.pinned (OpenSpec.ofChange snapSaysSpec)

/-- ITS FALSE NEIGHBOUR: 'it returns false'. Refute it at one input. -/
def snapSaysWrong : ChangeSpec := { name := "snapSays", fn := fun _ => fun
  | [d1, d2] => { results := [.lit (.bool false)], args := [d1, d2] }
  | _ => none }
def SnapSaysWrongFalsely : Prop := snapSaysRow.holds Try.pinned (OpenSpec.ofChange snapSaysWrong)

/-- 'hindsightlaw14.CodeKnown': WHATEVER THE INPUT: true; the input reads as it did. -/
def codeKnownSpec : ChangeSpec := { name := "codeKnown", fn := fun _ => fun
  | [] => { results := [.lit (.bool true)], args := [] }
  | _ => none }
def codeKnownRow : OpenClaim := { program := "ytpahkfadibcdgaa", sum := "41c93da3fcb5ee33bd9c612d99da8619d17e0a80d3b4c56b71a89a3bd384d39d", func := "hindsight/hindsightlaw14.CodeKnown", spec := "codeKnown", apart := false }
def CodeKnownSaid : Prop := codeKnownRow.holds Try.pinned (OpenSpec.ofChange codeKnownSpec)

/-- ITS FALSE NEIGHBOUR: 'it returns false'. Refute it at one input. -/
def codeKnownWrong : ChangeSpec := { name := "codeKnown", fn := fun _ => fun
  | [] => { results := [.lit (.bool false)], args := [] }
  | _ => none }
def CodeKnownWrongFalsely : Prop := codeKnownRow.holds Try.pinned (OpenSpec.ofChange codeKnownWrong)

/-- 'hindsightlaw14.CodeSays': WHATEVER THE INPUT: true; the input reads as it did. -/
def codeSaysSpec : ChangeSpec := { name := "codeSays", fn := fun _ => fun
  | [d1, d2] => { results := [.lit (.bool true)], args := [d1, d2] }
  | _ => none }
def codeSaysRow : OpenClaim := { program := "ytpahkfadibcdgaa", sum := "41c93da3fcb5ee33bd9c612d99da8619d17e0a80d3b4c56b71a89a3bd384d39d", func := "hindsight/hindsightlaw14.CodeSays", spec := "codeSays", apart := false }
def CodeSaysSaid : Prop := codeSaysRow.holds Try.pinned (OpenSpec.ofChange codeSaysSpec)

/-- ITS FALSE NEIGHBOUR: 'it returns false'. Refute it at one input. -/
def codeSaysWrong : ChangeSpec := { name := "codeSays", fn := fun _ => fun
  | [d1, d2] => { results := [.lit (.bool false)], args := [d1, d2] }
  | _ => none }
def CodeSaysWrongFalsely : Prop := codeSaysRow.holds Try.pinned (OpenSpec.ofChange codeSaysWrong)

/-- 'hindsightlaw14.CodeBack': WHATEVER THE INPUT: true; the input reads as it did. -/
def codeBackSpec : ChangeSpec := { name := "codeBack", fn := fun _ => fun
  | [d] => { results := [.lit (.bool true)], args := [d] }
  | _ => none }
def codeBackRow : OpenClaim := { program := "ytpahkfadibcdgaa", sum := "41c93da3fcb5ee33bd9c612d99da8619d17e0a80d3b4c56b71a89a3bd384d39d", func := "hindsight/hindsightlaw14.CodeBack", spec := "codeBack", apart := false }
def CodeBackSaid : Prop := codeBackRow.holds Try.pinned (OpenSpec.ofChange codeBackSpec)

/-- ITS FALSE NEIGHBOUR: 'it returns false'. Refute it at one input. -/
def codeBackWrong : ChangeSpec := { name := "codeBack", fn := fun _ => fun
  | [d] => { results := [.lit (.bool false)], args := [d] }
  | _ => none }
def CodeBackWrongFalsely : Prop := codeBackRow.holds Try.pinned (OpenSpec.ofChange codeBackWrong)

/-- 'hindsightlaw14.CodeCuts': WHATEVER THE INPUT: true; the input reads as it did. -/
def codeCutsSpec : ChangeSpec := { name := "codeCuts", fn := fun _ => fun
  | [d1, d2] => { results := [.lit (.bool true)], args := [d1, d2] }
  | _ => none }
def codeCutsRow : OpenClaim := { program := "ytpahkfadibcdgaa", sum := "41c93da3fcb5ee33bd9c612d99da8619d17e0a80d3b4c56b71a89a3bd384d39d", func := "hindsight/hindsightlaw14.CodeCuts", spec := "codeCuts", apart := false }
def CodeCutsSaid : Prop := codeCutsRow.holds Try.pinned (OpenSpec.ofChange codeCutsSpec)

/-- ITS FALSE NEIGHBOUR: 'it returns false'. Refute it at one input. -/
def codeCutsWrong : ChangeSpec := { name := "codeCuts", fn := fun _ => fun
  | [d1, d2] => { results := [.lit (.bool false)], args := [d1, d2] }
  | _ => none }
def CodeCutsWrongFalsely : Prop := codeCutsRow.holds Try.pinned (OpenSpec.ofChange codeCutsWrong)

/-- 'hindsightlaw21.SnapBack': WHATEVER THE INPUT: true; the input reads as it did. -/
def snapBackSpec : ChangeSpec := { name := "snapBack", fn := fun _ => fun
  | [d1, d2] => { results := [.lit (.bool true)], args := [d1, d2] }
  | _ => none }
def snapBackRow : OpenClaim := { program := "ytpahkfadibcdgaa", sum := "41c93da3fcb5ee33bd9c612d99da8619d17e0a80d3b4c56b71a89a3bd384d39d", func := "hindsight/hindsightlaw21.SnapBack", spec := "snapBack", apart := false }
def SnapBackSaid : Prop := snapBackRow.holds Try.pinned (OpenSpec.ofChange snapBackSpec)

/-- ITS FALSE NEIGHBOUR: 'it returns false'. Refute it at one input. -/
def snapBackWrong : ChangeSpec := { name := "snapBack", fn := fun _ => fun
  | [d1, d2] => { results := [.lit (.bool false)], args := [d1, d2] }
  | _ => none }
def SnapBackWrongFalsely : Prop := snapBackRow.holds Try.pinned (OpenSpec.ofChange snapBackWrong)

/-- 'hindsightlaw21.SnapChain': WHATEVER THE INPUT: true; the input reads as it did. -/
def snapChainSpec : ChangeSpec := { name := "snapChain", fn := fun _ => fun
  | [d] => { results := [.lit (.bool true)], args := [d] }
  | _ => none }
def snapChainRow : OpenClaim := { program := "ytpahkfadibcdgaa", sum := "41c93da3fcb5ee33bd9c612d99da8619d17e0a80d3b4c56b71a89a3bd384d39d", func := "hindsight/hindsightlaw21.SnapChain", spec := "snapChain", apart := false }
def SnapChainSaid : Prop := snapChainRow.holds Try.pinned (OpenSpec.ofChange snapChainSpec)

/-- ITS FALSE NEIGHBOUR: 'it returns false'. Refute it at one input. -/
def snapChainWrong : ChangeSpec := { name := "snapChain", fn := fun _ => fun
  | [d] => { results := [.lit (.bool false)], args := [d] }
  | _ => none }
def SnapChainWrongFalsely : Prop := snapChainRow.holds Try.pinned (OpenSpec.ofChange snapChainWrong)

/-- 'hindsightlaw21.SnapLittle': WHATEVER THE INPUT: true; the input reads as it did. -/
def snapLittleSpec : ChangeSpec := { name := "snapLittle", fn := fun _ => fun
  | [d1, d2, d3] => { results := [.lit (.bool true)], args := [d1, d2, d3] }
  | _ => none }
def snapLittleRow : OpenClaim := { program := "ytpahkfadibcdgaa", sum := "41c93da3fcb5ee33bd9c612d99da8619d17e0a80d3b4c56b71a89a3bd384d39d", func := "hindsight/hindsightlaw21.SnapLittle", spec := "snapLittle", apart := false }
def SnapLittleSaid : Prop := snapLittleRow.holds Try.pinned (OpenSpec.ofChange snapLittleSpec)

/-- ITS FALSE NEIGHBOUR: 'it returns false'. Refute it at one input. -/
def snapLittleWrong : ChangeSpec := { name := "snapLittle", fn := fun _ => fun
  | [d1, d2, d3] => { results := [.lit (.bool false)], args := [d1, d2, d3] }
  | _ => none }
def SnapLittleWrongFalsely : Prop := snapLittleRow.holds Try.pinned (OpenSpec.ofChange snapLittleWrong)

/-- 'hindsightlaw21.SnapEnds': WHATEVER THE INPUT: true; the input reads as it did. -/
def snapEndsSpec : ChangeSpec := { name := "snapEnds", fn := fun _ => fun
  | [d] => { results := [.lit (.bool true)], args := [d] }
  | _ => none }
def snapEndsRow : OpenClaim := { program := "ytpahkfadibcdgaa", sum := "41c93da3fcb5ee33bd9c612d99da8619d17e0a80d3b4c56b71a89a3bd384d39d", func := "hindsight/hindsightlaw21.SnapEnds", spec := "snapEnds", apart := false }
def SnapEndsSaid : Prop := snapEndsRow.holds Try.pinned (OpenSpec.ofChange snapEndsSpec)

/-- ITS FALSE NEIGHBOUR: 'it returns false'. Refute it at one input. -/
def snapEndsWrong : ChangeSpec := { name := "snapEnds", fn := fun _ => fun
  | [d] => { results := [.lit (.bool false)], args := [d] }
  | _ => none }
def SnapEndsWrongFalsely : Prop := snapEndsRow.holds Try.pinned (OpenSpec.ofChange snapEndsWrong)

/- THE SECOND FORM. 'bulk': how many values and letters a reading holds, each counted each time it is reached (what is shared counts as often as it is met; a slice's spare places count too). A statement '..UptoSaid' is the law's where the arguments, and the package variables that the reading takes, are together of bulk at most 1048576: NARROWER than '..Said'. Prove '..Said' where nothing that the law and all that it calls make is longer than what came in: it says more and counts as full. Else prove '..UptoSaid'. A law counts once. -/
mutual
def uptoBulk {H : Type} : DataW H → Nat
  | .lit (.string bytes) => bytes.length + 1
  | .lit _ => 1
  | .nil => 1
  | .ptr d => uptoBulk d + 1
  | .slice elems spare => uptoBulkAll elems + uptoBulkAll spare + 1
  | .agg parts => uptoBulkAll parts + 1
  | .iface _ d => uptoBulk d + 1
  | .map entries => uptoBulkEntries entries + 1
  | .held _ => 1
def uptoBulkAll {H : Type} : List (DataW H) → Nat
  | [] => 0
  | d :: r => uptoBulk d + uptoBulkAll r
def uptoBulkEntries {H : Type} : List (Lit × DataW H) → Nat
  | [] => 0
  | x :: r => uptoBulkEntry x + uptoBulkEntries r
def uptoBulkEntry {H : Type} : Lit × DataW H → Nat
  | (.string bytes, d) => bytes.length + uptoBulk d + 1
  | (_, d) => uptoBulk d + 1
 end
def uptoSmall : (H : Type) → List (DataW H) → Bool := fun _ ds => decide (uptoBulkAll ds ≤ 1048576)
def OpenSpec.upto (s : _root_.Go.ChangeSpec) : _root_.Go.OpenSpec := { _root_.Go.OpenSpec.ofChange s with cond := some uptoSmall }

/-- 'hindsightlaw21.SnapSays', WHERE WHAT IT READS IS OF BULK AT MOST 1048576: true; the input reads as it did. -/
def snapSaysUptoRow : OpenClaim := { program := "ytpahkfadibcdgaa", sum := "41c93da3fcb5ee33bd9c612d99da8619d17e0a80d3b4c56b71a89a3bd384d39d", func := "hindsight/hindsightlaw21.SnapSays", spec := "snapSays", apart := false, narrowed := true }
def SnapSaysUptoSaid : Prop := snapSaysUptoRow.holds Try.pinned (OpenSpec.upto snapSaysSpec)

/-- 'hindsightlaw14.CodeKnown', WHERE WHAT IT READS IS OF BULK AT MOST 1048576: true; the input reads as it did. -/
def codeKnownUptoRow : OpenClaim := { program := "ytpahkfadibcdgaa", sum := "41c93da3fcb5ee33bd9c612d99da8619d17e0a80d3b4c56b71a89a3bd384d39d", func := "hindsight/hindsightlaw14.CodeKnown", spec := "codeKnown", apart := false, narrowed := true }
def CodeKnownUptoSaid : Prop := codeKnownUptoRow.holds Try.pinned (OpenSpec.upto codeKnownSpec)

/-- 'hindsightlaw14.CodeSays', WHERE WHAT IT READS IS OF BULK AT MOST 1048576: true; the input reads as it did. -/
def codeSaysUptoRow : OpenClaim := { program := "ytpahkfadibcdgaa", sum := "41c93da3fcb5ee33bd9c612d99da8619d17e0a80d3b4c56b71a89a3bd384d39d", func := "hindsight/hindsightlaw14.CodeSays", spec := "codeSays", apart := false, narrowed := true }
def CodeSaysUptoSaid : Prop := codeSaysUptoRow.holds Try.pinned (OpenSpec.upto codeSaysSpec)

/-- 'hindsightlaw14.CodeBack', WHERE WHAT IT READS IS OF BULK AT MOST 1048576: true; the input reads as it did. -/
def codeBackUptoRow : OpenClaim := { program := "ytpahkfadibcdgaa", sum := "41c93da3fcb5ee33bd9c612d99da8619d17e0a80d3b4c56b71a89a3bd384d39d", func := "hindsight/hindsightlaw14.CodeBack", spec := "codeBack", apart := false, narrowed := true }
def CodeBackUptoSaid : Prop := codeBackUptoRow.holds Try.pinned (OpenSpec.upto codeBackSpec)

/-- 'hindsightlaw14.CodeCuts', WHERE WHAT IT READS IS OF BULK AT MOST 1048576: true; the input reads as it did. -/
def codeCutsUptoRow : OpenClaim := { program := "ytpahkfadibcdgaa", sum := "41c93da3fcb5ee33bd9c612d99da8619d17e0a80d3b4c56b71a89a3bd384d39d", func := "hindsight/hindsightlaw14.CodeCuts", spec := "codeCuts", apart := false, narrowed := true }
def CodeCutsUptoSaid : Prop := codeCutsUptoRow.holds Try.pinned (OpenSpec.upto codeCutsSpec)

/-- 'hindsightlaw21.SnapBack', WHERE WHAT IT READS IS OF BULK AT MOST 1048576: true; the input reads as it did. -/
def snapBackUptoRow : OpenClaim := { program := "ytpahkfadibcdgaa", sum := "41c93da3fcb5ee33bd9c612d99da8619d17e0a80d3b4c56b71a89a3bd384d39d", func := "hindsight/hindsightlaw21.SnapBack", spec := "snapBack", apart := false, narrowed := true }
def SnapBackUptoSaid : Prop := snapBackUptoRow.holds Try.pinned (OpenSpec.upto snapBackSpec)

/-- 'hindsightlaw21.SnapChain', WHERE WHAT IT READS IS OF BULK AT MOST 1048576: true; the input reads as it did. -/
def snapChainUptoRow : OpenClaim := { program := "ytpahkfadibcdgaa", sum := "41c93da3fcb5ee33bd9c612d99da8619d17e0a80d3b4c56b71a89a3bd384d39d", func := "hindsight/hindsightlaw21.SnapChain", spec := "snapChain", apart := false, narrowed := true }
def SnapChainUptoSaid : Prop := snapChainUptoRow.holds Try.pinned (OpenSpec.upto snapChainSpec)

/-- 'hindsightlaw21.SnapLittle', WHERE WHAT IT READS IS OF BULK AT MOST 1048576: true; the input reads as it did. -/
def snapLittleUptoRow : OpenClaim := { program := "ytpahkfadibcdgaa", sum := "41c93da3fcb5ee33bd9c612d99da8619d17e0a80d3b4c56b71a89a3bd384d39d", func := "hindsight/hindsightlaw21.SnapLittle", spec := "snapLittle", apart := false, narrowed := true }
def SnapLittleUptoSaid : Prop := snapLittleUptoRow.holds Try.pinned (OpenSpec.upto snapLittleSpec)

/-- 'hindsightlaw21.SnapEnds', WHERE WHAT IT READS IS OF BULK AT MOST 1048576: true; the input reads as it did. -/
def snapEndsUptoRow : OpenClaim := { program := "ytpahkfadibcdgaa", sum := "41c93da3fcb5ee33bd9c612d99da8619d17e0a80d3b4c56b71a89a3bd384d39d", func := "hindsight/hindsightlaw21.SnapEnds", spec := "snapEnds", apart := false, narrowed := true }
def SnapEndsUptoSaid : Prop := snapEndsUptoRow.holds Try.pinned (OpenSpec.upto snapEndsSpec)

end Rows
end Go.Proofs.Ytpahkfadibcdgaa
