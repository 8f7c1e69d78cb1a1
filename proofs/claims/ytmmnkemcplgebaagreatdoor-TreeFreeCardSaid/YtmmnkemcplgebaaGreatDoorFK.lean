/-
  Words of a text: what the program's functions answer, in plain terms.
-/
import Derived.Test.YtmmnkemcplgebaaGreatDoorFJ
import Derived.Lib.RangeT
import Derived.Lib.IsU
import Derived.Lib.Props
import Derived.Shelf.Unicode.DecodeSlow
section
set_option linter.unusedSimpArgs false
set_option linter.unusedVariables false
set_option maxRecDepth 100000
namespace Go.Proofs.YtmmnkemcplgebaaGreatDoor
open Go.Abs
/-- A text's bytes. -/
abbrev bl (s : ByteArray) : List UInt8 := s.data.toList
def keyL : List ByteArray := [⟨#[116, 121, 112, 101]⟩, ⟨#[111, 102]⟩, ⟨#[108, 101, 116]⟩, ⟨#[114, 101, 99]⟩, ⟨#[105, 110]⟩, ⟨#[102, 117, 110]⟩, ⟨#[105, 102]⟩, ⟨#[116, 104, 101, 110]⟩, ⟨#[101, 108, 115, 101]⟩, ⟨#[109, 97, 116, 99, 104]⟩, ⟨#[119, 105, 116, 104]⟩, ⟨#[101, 110, 100]⟩, ⟨#[114, 101, 102]⟩, ⟨#[112, 114, 105, 110, 116]⟩, ⟨#[114, 101, 97, 100]⟩, ⟨#[114, 97, 105, 115, 101]⟩, ⟨#[116, 114, 121]⟩, ⟨#[116, 114, 117, 101]⟩, ⟨#[102, 97, 108, 115, 101]⟩]
def isKeyF (s : ByteArray) : Bool := keyL.any fun k => s.toList == k.toList
/-- What the library's table says of a rune of Latin-1. -/
noncomputable def propB (r : Int) : Int := bitsV .and .u8 (Lib.propertiesTab.getD (IntKind.u8.wrap r).toNat 0) 96
noncomputable def letterF (r : Int) : Bool := bif decide (IntKind.u32.wrap r ≤ 255) then propB r != 0 else Lib.exclGo Lib.letterT r
noncomputable def upperF (r : Int) : Bool := bif decide (IntKind.u32.wrap r ≤ 255) then propB r == 32 else Lib.exclGo Lib.upperT r
noncomputable def classF (r : Int) : Int :=
  bif r == 95 || r == 39 || letterF r then 1
  else bif decide (48 ≤ r) && decide (r ≤ 57) then 2
  else bif r == 32 || r == 9 || r == 10 || r == 13 then 3
  else bif r == 40 || r == 41 || r == 44 || r == 59 || r == 61 || r == 60 || r == 62 || r == 43 || r == 45 || r == 42 || r == 124 || r == 33 || r == 58 then 4 else 0
/-- The part of a text up to a place. -/
def cutB (s : ByteArray) (n : Nat) : ByteArray := s.extract 0 n
def prefF (s p : ByteArray) : Bool := bif decide (p.size ≤ s.size) then (cutB s p.size).toList == p.toList else false
def runF (may : Int → Bool) (s : ByteArray) : List (Nat × Nat) → Nat
  | [] => s.size
  | (i, r) :: l => bif may r then runF may s l else i
noncomputable def upperTF (s : ByteArray) : Bool := match runes s 0 with
  | [] => false
  | (_, r) :: _ => upperF r
def valueF : Int → List (Nat × Nat) → Option Int
  | n, [] => some n
  | n, (_, r) :: l => 
    bif decide (n ≤ IntKind.i64.wrap ((IntKind.i64.wrap (4611686018427387903 - IntKind.i64.wrap (IntKind.i32.wrap ((r : Int) - 48)))).tdiv 10)) then valueF (IntKind.i64.wrap (IntKind.i64.wrap (10 * n) + IntKind.i64.wrap (IntKind.i32.wrap ((r : Int) - 48)))) l else none
/-- A word: its kind, its text. -/
structure WordV where
  kind : Int
  text : ByteArray
def noWord : WordV := ⟨0, ⟨#[]⟩⟩
noncomputable def mayNamed (r : Int) : Bool := classF r == 1 || classF r == 2
noncomputable def mayDigit (r : Int) : Bool := classF r == 2
noncomputable def namedF (s : ByteArray) : WordV := 
  let t := cutB s (runF mayNamed s (runes s 0))
  ⟨bif upperTF s then 3 else bif isKeyF t then 4 else 2, t⟩
def markedF (s : ByteArray) : WordV :=
  bif prefF s ⟨#[58, 61]⟩ then ⟨5, ⟨#[58, 61]⟩⟩ else bif prefF s ⟨#[45, 62]⟩ then ⟨5, ⟨#[45, 62]⟩⟩
  else bif (bl s).getD 0 0 == 62 || (bl s).getD 0 0 == 58 then noWord else ⟨5, cutB s 1⟩
def firstF (s : ByteArray) : Int := (Lib.decodeGo s).1
noncomputable def wordF (s : ByteArray) : WordV :=
  bif classF (firstF s) == 1 then (bif firstF s != 39 then namedF s else noWord)
  else bif classF (firstF s) == 2 then (bif (valueF 0 (runes (cutB s (runF mayDigit s (runes s 0))) 0)).isSome then ⟨1, cutB s (runF mayDigit s (runes s 0))⟩ else noWord)
  else bif classF (firstF s) == 4 then markedF s else noWord
noncomputable def justF (s : ByteArray) (kind : Int) : Bool :=
  bif (s.toList == (⟨#[]⟩ : ByteArray).toList) || decide (4000 < s.size) then false else (wordF s).kind == kind && (wordF s).text.toList == s.toList
noncomputable def isNameF (s : ByteArray) : Bool := bif s.toList != (⟨#[95]⟩ : ByteArray).toList then justF s 2 else false
noncomputable def isConF (s : ByteArray) : Bool := justF s 3
end Go.Proofs.YtmmnkemcplgebaaGreatDoor
end
