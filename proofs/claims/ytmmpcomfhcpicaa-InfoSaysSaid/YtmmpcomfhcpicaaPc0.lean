/-
  The compiled code of functions of this seat's program, and facts on its types: written by program (wip/GenPC.lean); the kernel checks each row.
-/
import Derived.Test.YtmmpcomfhcpicaaRows
import Derived.Test.YtmmpcomfhcpicaaAbsD
set_option linter.unusedSimpArgs false
set_option linter.unusedVariables false
set_option maxRecDepth 100000
namespace Go.Proofs.Ytmmpcomfhcpicaa.Cmp0
open Go.Abs
noncomputable def E : Env := plainEnv Try.prog (fun t _ => false) (fun _ _ => none) (extOf [62] [])
theorem load3 {tm : PM AV} {S : St} {d : Option Tmp} (x : Operand) : opV E tm d (.load 3 x) S = loadC false 1 (E.ev tm x) S := load_chk 3 false 1 (by kernel_rfl) x
theorem load9 {tm : PM AV} {S : St} {d : Option Tmp} (x : Operand) : opV E tm d (.load 9 x) S = loadC false 1 (E.ev tm x) S := load_chk 9 false 1 (by kernel_rfl) x
theorem und22 : E.und 22 = some (.slice 41) := by kernel_rfl
theorem el22 : elIs E 22 41 true 4 32 = true := by kernel_rfl
theorem bs22 {tm : PM AV} {S : St} {d : Option Tmp} (n : Nat) (ps : Array (Nat × Operand)) : opV E tm d (.buildSlice 22 n ps) S = buildSliceA E 22 n (ps.toList.map fun p => (p.1, E.ev tm p.2)) S := rfl
theorem app22 {tm : PM AV} {S : St} {d : Option Tmp} (x y : Operand) (t1 : TypeId) : opV E tm d (.call (Call.mk (.builtin .append) #[x, y] #[22, t1])) S = builtinA E false .append [22, t1] [E.ev tm x, E.ev tm y] S := rfl
theorem und23 : E.und 23 = some (.slice 43) := by kernel_rfl
theorem el23 : elIs E 23 43 true 6 64 = true := by kernel_rfl
theorem bs23 {tm : PM AV} {S : St} {d : Option Tmp} (n : Nat) (ps : Array (Nat × Operand)) : opV E tm d (.buildSlice 23 n ps) S = buildSliceA E 23 n (ps.toList.map fun p => (p.1, E.ev tm p.2)) S := rfl
theorem app23 {tm : PM AV} {S : St} {d : Option Tmp} (x y : Operand) (t1 : TypeId) : opV E tm d (.call (Call.mk (.builtin .append) #[x, y] #[23, t1])) S = builtinA E false .append [23, t1] [E.ev tm x, E.ev tm y] S := rfl
theorem und28 : E.und 28 = some (.slice 5) := by kernel_rfl
theorem sl28 : slIs E 28 1 = true := by kernel_rfl
theorem el28 : elIs E 28 5 false 1 1 = true := by kernel_rfl
theorem bs28 {tm : PM AV} {S : St} {d : Option Tmp} (n : Nat) (ps : Array (Nat × Operand)) : opV E tm d (.buildSlice 28 n ps) S = buildSliceA E 28 n (ps.toList.map fun p => (p.1, E.ev tm p.2)) S := rfl
theorem app28 {tm : PM AV} {S : St} {d : Option Tmp} (x y : Operand) (t1 : TypeId) : opV E tm d (.call (Call.mk (.builtin .append) #[x, y] #[28, t1])) S = builtinA E false .append [28, t1] [E.ev tm x, E.ev tm y] S := rfl
theorem und34 : E.und 34 = some (.slice 51) := by kernel_rfl
theorem el34 : elIs E 34 51 true 4 32 = true := by kernel_rfl
theorem bs34 {tm : PM AV} {S : St} {d : Option Tmp} (n : Nat) (ps : Array (Nat × Operand)) : opV E tm d (.buildSlice 34 n ps) S = buildSliceA E 34 n (ps.toList.map fun p => (p.1, E.ev tm p.2)) S := rfl
theorem app34 {tm : PM AV} {S : St} {d : Option Tmp} (x y : Operand) (t1 : TypeId) : opV E tm d (.call (Call.mk (.builtin .append) #[x, y] #[34, t1])) S = builtinA E false .append [34, t1] [E.ev tm x, E.ev tm y] S := rfl
theorem und35 : E.und 35 = some (.slice 56) := by kernel_rfl
theorem sl35 : slIs E 35 6 = true := by kernel_rfl
theorem el35 : elIs E 35 56 true 6 64 = true := by kernel_rfl
theorem bs35 {tm : PM AV} {S : St} {d : Option Tmp} (n : Nat) (ps : Array (Nat × Operand)) : opV E tm d (.buildSlice 35 n ps) S = buildSliceA E 35 n (ps.toList.map fun p => (p.1, E.ev tm p.2)) S := rfl
theorem app35 {tm : PM AV} {S : St} {d : Option Tmp} (x y : Operand) (t1 : TypeId) : opV E tm d (.call (Call.mk (.builtin .append) #[x, y] #[35, t1])) S = builtinA E false .append [35, t1] [E.ev tm x, E.ev tm y] S := rfl
theorem und57 : E.und 57 = some (.slice 3) := by kernel_rfl
theorem el57 : elIs E 57 3 false 1 8 = true := by kernel_rfl
theorem bs57 {tm : PM AV} {S : St} {d : Option Tmp} (n : Nat) (ps : Array (Nat × Operand)) : opV E tm d (.buildSlice 57 n ps) S = buildSliceA E 57 n (ps.toList.map fun p => (p.1, E.ev tm p.2)) S := rfl
theorem app57 {tm : PM AV} {S : St} {d : Option Tmp} (x y : Operand) (t1 : TypeId) : opV E tm d (.call (Call.mk (.builtin .append) #[x, y] #[57, t1])) S = builtinA E false .append [57, t1] [E.ev tm x, E.ev tm y] S := rfl
theorem index57 {tm : PM AV} {S : St} {d : Option Tmp} (x y : Operand) : opV E tm d (.indexAddr 57 x y) S = idxV 1 (E.ev tm x) (int? (E.ev tm y)) S := index_chk 57 1 (by kernel_rfl) x y
theorem len57 {tm : PM AV} {S : St} {d : Option Tmp} (x : Operand) : opV E tm d (.call (Call.mk (.builtin .len) #[x] #[57])) S = lenV (E.ev tm x) S := op_len (t := 57) (e := 3) (by kernel_rfl) x
theorem call7 {nt : Nat} {k : List KI} {tm : PM AV} {S : St} {Q : PostA} (d : Option Tmp) (xs : Array Operand) (ats : Array TypeId) (r : List POp) : EndsA E nt (.c (.reg (⟨d, .call (Call.mk (.value (.func 7)) xs ats), none⟩ :: r)) :: k) .nrm tm S Q = CallK E nt 7 (xs.toList.map (E.ev tm)) d r k tm S Q := e_call d 7 xs ats r rfl
theorem call8 {nt : Nat} {k : List KI} {tm : PM AV} {S : St} {Q : PostA} (d : Option Tmp) (xs : Array Operand) (ats : Array TypeId) (r : List POp) : EndsA E nt (.c (.reg (⟨d, .call (Call.mk (.value (.func 8)) xs ats), none⟩ :: r)) :: k) .nrm tm S Q = CallK E nt 8 (xs.toList.map (E.ev tm)) d r k tm S Q := e_call d 8 xs ats r rfl
theorem call9 {nt : Nat} {k : List KI} {tm : PM AV} {S : St} {Q : PostA} (d : Option Tmp) (xs : Array Operand) (ats : Array TypeId) (r : List POp) : EndsA E nt (.c (.reg (⟨d, .call (Call.mk (.value (.func 9)) xs ats), none⟩ :: r)) :: k) .nrm tm S Q = CallK E nt 9 (xs.toList.map (E.ev tm)) d r k tm S Q := e_call d 9 xs ats r rfl
theorem call10 {nt : Nat} {k : List KI} {tm : PM AV} {S : St} {Q : PostA} (d : Option Tmp) (xs : Array Operand) (ats : Array TypeId) (r : List POp) : EndsA E nt (.c (.reg (⟨d, .call (Call.mk (.value (.func 10)) xs ats), none⟩ :: r)) :: k) .nrm tm S Q = CallK E nt 10 (xs.toList.map (E.ev tm)) d r k tm S Q := e_call d 10 xs ats r rfl
theorem call11 {nt : Nat} {k : List KI} {tm : PM AV} {S : St} {Q : PostA} (d : Option Tmp) (xs : Array Operand) (ats : Array TypeId) (r : List POp) : EndsA E nt (.c (.reg (⟨d, .call (Call.mk (.value (.func 11)) xs ats), none⟩ :: r)) :: k) .nrm tm S Q = CallK E nt 11 (xs.toList.map (E.ev tm)) d r k tm S Q := e_call d 11 xs ats r rfl
theorem call12 {nt : Nat} {k : List KI} {tm : PM AV} {S : St} {Q : PostA} (d : Option Tmp) (xs : Array Operand) (ats : Array TypeId) (r : List POp) : EndsA E nt (.c (.reg (⟨d, .call (Call.mk (.value (.func 12)) xs ats), none⟩ :: r)) :: k) .nrm tm S Q = CallK E nt 12 (xs.toList.map (E.ev tm)) d r k tm S Q := e_call d 12 xs ats r rfl
theorem call13 {nt : Nat} {k : List KI} {tm : PM AV} {S : St} {Q : PostA} (d : Option Tmp) (xs : Array Operand) (ats : Array TypeId) (r : List POp) : EndsA E nt (.c (.reg (⟨d, .call (Call.mk (.value (.func 13)) xs ats), none⟩ :: r)) :: k) .nrm tm S Q = CallK E nt 13 (xs.toList.map (E.ev tm)) d r k tm S Q := e_call d 13 xs ats r rfl
theorem call14 {nt : Nat} {k : List KI} {tm : PM AV} {S : St} {Q : PostA} (d : Option Tmp) (xs : Array Operand) (ats : Array TypeId) (r : List POp) : EndsA E nt (.c (.reg (⟨d, .call (Call.mk (.value (.func 14)) xs ats), none⟩ :: r)) :: k) .nrm tm S Q = CallK E nt 14 (xs.toList.map (E.ev tm)) d r k tm S Q := e_call d 14 xs ats r rfl
theorem call15 {nt : Nat} {k : List KI} {tm : PM AV} {S : St} {Q : PostA} (d : Option Tmp) (xs : Array Operand) (ats : Array TypeId) (r : List POp) : EndsA E nt (.c (.reg (⟨d, .call (Call.mk (.value (.func 15)) xs ats), none⟩ :: r)) :: k) .nrm tm S Q = CallK E nt 15 (xs.toList.map (E.ev tm)) d r k tm S Q := e_call d 15 xs ats r rfl
theorem call16 {nt : Nat} {k : List KI} {tm : PM AV} {S : St} {Q : PostA} (d : Option Tmp) (xs : Array Operand) (ats : Array TypeId) (r : List POp) : EndsA E nt (.c (.reg (⟨d, .call (Call.mk (.value (.func 16)) xs ats), none⟩ :: r)) :: k) .nrm tm S Q = CallK E nt 16 (xs.toList.map (E.ev tm)) d r k tm S Q := e_call d 16 xs ats r rfl
theorem call17 {nt : Nat} {k : List KI} {tm : PM AV} {S : St} {Q : PostA} (d : Option Tmp) (xs : Array Operand) (ats : Array TypeId) (r : List POp) : EndsA E nt (.c (.reg (⟨d, .call (Call.mk (.value (.func 17)) xs ats), none⟩ :: r)) :: k) .nrm tm S Q = CallK E nt 17 (xs.toList.map (E.ev tm)) d r k tm S Q := e_call d 17 xs ats r rfl
theorem call18 {nt : Nat} {k : List KI} {tm : PM AV} {S : St} {Q : PostA} (d : Option Tmp) (xs : Array Operand) (ats : Array TypeId) (r : List POp) : EndsA E nt (.c (.reg (⟨d, .call (Call.mk (.value (.func 18)) xs ats), none⟩ :: r)) :: k) .nrm tm S Q = CallK E nt 18 (xs.toList.map (E.ev tm)) d r k tm S Q := e_call d 18 xs ats r rfl
theorem call19 {nt : Nat} {k : List KI} {tm : PM AV} {S : St} {Q : PostA} (d : Option Tmp) (xs : Array Operand) (ats : Array TypeId) (r : List POp) : EndsA E nt (.c (.reg (⟨d, .call (Call.mk (.value (.func 19)) xs ats), none⟩ :: r)) :: k) .nrm tm S Q = CallK E nt 19 (xs.toList.map (E.ev tm)) d r k tm S Q := e_call d 19 xs ats r rfl
theorem call20 {nt : Nat} {k : List KI} {tm : PM AV} {S : St} {Q : PostA} (d : Option Tmp) (xs : Array Operand) (ats : Array TypeId) (r : List POp) : EndsA E nt (.c (.reg (⟨d, .call (Call.mk (.value (.func 20)) xs ats), none⟩ :: r)) :: k) .nrm tm S Q = CallK E nt 20 (xs.toList.map (E.ev tm)) d r k tm S Q := e_call d 20 xs ats r rfl
theorem call21 {nt : Nat} {k : List KI} {tm : PM AV} {S : St} {Q : PostA} (d : Option Tmp) (xs : Array Operand) (ats : Array TypeId) (r : List POp) : EndsA E nt (.c (.reg (⟨d, .call (Call.mk (.value (.func 21)) xs ats), none⟩ :: r)) :: k) .nrm tm S Q = CallK E nt 21 (xs.toList.map (E.ev tm)) d r k tm S Q := e_call d 21 xs ats r rfl
theorem call22 {nt : Nat} {k : List KI} {tm : PM AV} {S : St} {Q : PostA} (d : Option Tmp) (xs : Array Operand) (ats : Array TypeId) (r : List POp) : EndsA E nt (.c (.reg (⟨d, .call (Call.mk (.value (.func 22)) xs ats), none⟩ :: r)) :: k) .nrm tm S Q = CallK E nt 22 (xs.toList.map (E.ev tm)) d r k tm S Q := e_call d 22 xs ats r rfl
theorem call24 {nt : Nat} {k : List KI} {tm : PM AV} {S : St} {Q : PostA} (d : Option Tmp) (xs : Array Operand) (ats : Array TypeId) (r : List POp) : EndsA E nt (.c (.reg (⟨d, .call (Call.mk (.value (.func 24)) xs ats), none⟩ :: r)) :: k) .nrm tm S Q = CallK E nt 24 (xs.toList.map (E.ev tm)) d r k tm S Q := e_call d 24 xs ats r rfl
theorem call25 {nt : Nat} {k : List KI} {tm : PM AV} {S : St} {Q : PostA} (d : Option Tmp) (xs : Array Operand) (ats : Array TypeId) (r : List POp) : EndsA E nt (.c (.reg (⟨d, .call (Call.mk (.value (.func 25)) xs ats), none⟩ :: r)) :: k) .nrm tm S Q = CallK E nt 25 (xs.toList.map (E.ev tm)) d r k tm S Q := e_call d 25 xs ats r rfl
theorem call26 {nt : Nat} {k : List KI} {tm : PM AV} {S : St} {Q : PostA} (d : Option Tmp) (xs : Array Operand) (ats : Array TypeId) (r : List POp) : EndsA E nt (.c (.reg (⟨d, .call (Call.mk (.value (.func 26)) xs ats), none⟩ :: r)) :: k) .nrm tm S Q = CallK E nt 26 (xs.toList.map (E.ev tm)) d r k tm S Q := e_call d 26 xs ats r rfl
theorem call28 {nt : Nat} {k : List KI} {tm : PM AV} {S : St} {Q : PostA} (d : Option Tmp) (xs : Array Operand) (ats : Array TypeId) (r : List POp) : EndsA E nt (.c (.reg (⟨d, .call (Call.mk (.value (.func 28)) xs ats), none⟩ :: r)) :: k) .nrm tm S Q = CallK E nt 28 (xs.toList.map (E.ev tm)) d r k tm S Q := e_call d 28 xs ats r rfl
theorem call29 {nt : Nat} {k : List KI} {tm : PM AV} {S : St} {Q : PostA} (d : Option Tmp) (xs : Array Operand) (ats : Array TypeId) (r : List POp) : EndsA E nt (.c (.reg (⟨d, .call (Call.mk (.value (.func 29)) xs ats), none⟩ :: r)) :: k) .nrm tm S Q = CallK E nt 29 (xs.toList.map (E.ev tm)) d r k tm S Q := e_call d 29 xs ats r rfl
theorem call30 {nt : Nat} {k : List KI} {tm : PM AV} {S : St} {Q : PostA} (d : Option Tmp) (xs : Array Operand) (ats : Array TypeId) (r : List POp) : EndsA E nt (.c (.reg (⟨d, .call (Call.mk (.value (.func 30)) xs ats), none⟩ :: r)) :: k) .nrm tm S Q = CallK E nt 30 (xs.toList.map (E.ev tm)) d r k tm S Q := e_call d 30 xs ats r rfl
theorem call31 {nt : Nat} {k : List KI} {tm : PM AV} {S : St} {Q : PostA} (d : Option Tmp) (xs : Array Operand) (ats : Array TypeId) (r : List POp) : EndsA E nt (.c (.reg (⟨d, .call (Call.mk (.value (.func 31)) xs ats), none⟩ :: r)) :: k) .nrm tm S Q = CallK E nt 31 (xs.toList.map (E.ev tm)) d r k tm S Q := e_call d 31 xs ats r rfl
theorem call32 {nt : Nat} {k : List KI} {tm : PM AV} {S : St} {Q : PostA} (d : Option Tmp) (xs : Array Operand) (ats : Array TypeId) (r : List POp) : EndsA E nt (.c (.reg (⟨d, .call (Call.mk (.value (.func 32)) xs ats), none⟩ :: r)) :: k) .nrm tm S Q = CallK E nt 32 (xs.toList.map (E.ev tm)) d r k tm S Q := e_call d 32 xs ats r rfl
theorem call33 {nt : Nat} {k : List KI} {tm : PM AV} {S : St} {Q : PostA} (d : Option Tmp) (xs : Array Operand) (ats : Array TypeId) (r : List POp) : EndsA E nt (.c (.reg (⟨d, .call (Call.mk (.value (.func 33)) xs ats), none⟩ :: r)) :: k) .nrm tm S Q = CallK E nt 33 (xs.toList.map (E.ev tm)) d r k tm S Q := e_call d 33 xs ats r rfl
theorem call34 {nt : Nat} {k : List KI} {tm : PM AV} {S : St} {Q : PostA} (d : Option Tmp) (xs : Array Operand) (ats : Array TypeId) (r : List POp) : EndsA E nt (.c (.reg (⟨d, .call (Call.mk (.value (.func 34)) xs ats), none⟩ :: r)) :: k) .nrm tm S Q = CallK E nt 34 (xs.toList.map (E.ev tm)) d r k tm S Q := e_call d 34 xs ats r rfl
theorem call35 {nt : Nat} {k : List KI} {tm : PM AV} {S : St} {Q : PostA} (d : Option Tmp) (xs : Array Operand) (ats : Array TypeId) (r : List POp) : EndsA E nt (.c (.reg (⟨d, .call (Call.mk (.value (.func 35)) xs ats), none⟩ :: r)) :: k) .nrm tm S Q = CallK E nt 35 (xs.toList.map (E.ev tm)) d r k tm S Q := e_call d 35 xs ats r rfl
theorem call36 {nt : Nat} {k : List KI} {tm : PM AV} {S : St} {Q : PostA} (d : Option Tmp) (xs : Array Operand) (ats : Array TypeId) (r : List POp) : EndsA E nt (.c (.reg (⟨d, .call (Call.mk (.value (.func 36)) xs ats), none⟩ :: r)) :: k) .nrm tm S Q = CallK E nt 36 (xs.toList.map (E.ev tm)) d r k tm S Q := e_call d 36 xs ats r rfl
theorem call37 {nt : Nat} {k : List KI} {tm : PM AV} {S : St} {Q : PostA} (d : Option Tmp) (xs : Array Operand) (ats : Array TypeId) (r : List POp) : EndsA E nt (.c (.reg (⟨d, .call (Call.mk (.value (.func 37)) xs ats), none⟩ :: r)) :: k) .nrm tm S Q = CallK E nt 37 (xs.toList.map (E.ev tm)) d r k tm S Q := e_call d 37 xs ats r rfl
theorem call38 {nt : Nat} {k : List KI} {tm : PM AV} {S : St} {Q : PostA} (d : Option Tmp) (xs : Array Operand) (ats : Array TypeId) (r : List POp) : EndsA E nt (.c (.reg (⟨d, .call (Call.mk (.value (.func 38)) xs ats), none⟩ :: r)) :: k) .nrm tm S Q = CallK E nt 38 (xs.toList.map (E.ev tm)) d r k tm S Q := e_call d 38 xs ats r rfl
theorem call39 {nt : Nat} {k : List KI} {tm : PM AV} {S : St} {Q : PostA} (d : Option Tmp) (xs : Array Operand) (ats : Array TypeId) (r : List POp) : EndsA E nt (.c (.reg (⟨d, .call (Call.mk (.value (.func 39)) xs ats), none⟩ :: r)) :: k) .nrm tm S Q = CallK E nt 39 (xs.toList.map (E.ev tm)) d r k tm S Q := e_call d 39 xs ats r rfl
theorem call40 {nt : Nat} {k : List KI} {tm : PM AV} {S : St} {Q : PostA} (d : Option Tmp) (xs : Array Operand) (ats : Array TypeId) (r : List POp) : EndsA E nt (.c (.reg (⟨d, .call (Call.mk (.value (.func 40)) xs ats), none⟩ :: r)) :: k) .nrm tm S Q = CallK E nt 40 (xs.toList.map (E.ev tm)) d r k tm S Q := e_call d 40 xs ats r rfl
theorem call41 {nt : Nat} {k : List KI} {tm : PM AV} {S : St} {Q : PostA} (d : Option Tmp) (xs : Array Operand) (ats : Array TypeId) (r : List POp) : EndsA E nt (.c (.reg (⟨d, .call (Call.mk (.value (.func 41)) xs ats), none⟩ :: r)) :: k) .nrm tm S Q = CallK E nt 41 (xs.toList.map (E.ev tm)) d r k tm S Q := e_call d 41 xs ats r rfl
theorem call43 {nt : Nat} {k : List KI} {tm : PM AV} {S : St} {Q : PostA} (d : Option Tmp) (xs : Array Operand) (ats : Array TypeId) (r : List POp) : EndsA E nt (.c (.reg (⟨d, .call (Call.mk (.value (.func 43)) xs ats), none⟩ :: r)) :: k) .nrm tm S Q = CallK E nt 43 (xs.toList.map (E.ev tm)) d r k tm S Q := e_call d 43 xs ats r rfl
theorem call44 {nt : Nat} {k : List KI} {tm : PM AV} {S : St} {Q : PostA} (d : Option Tmp) (xs : Array Operand) (ats : Array TypeId) (r : List POp) : EndsA E nt (.c (.reg (⟨d, .call (Call.mk (.value (.func 44)) xs ats), none⟩ :: r)) :: k) .nrm tm S Q = CallK E nt 44 (xs.toList.map (E.ev tm)) d r k tm S Q := e_call d 44 xs ats r rfl
theorem call47 {nt : Nat} {k : List KI} {tm : PM AV} {S : St} {Q : PostA} (d : Option Tmp) (xs : Array Operand) (ats : Array TypeId) (r : List POp) : EndsA E nt (.c (.reg (⟨d, .call (Call.mk (.value (.func 47)) xs ats), none⟩ :: r)) :: k) .nrm tm S Q = CallK E nt 47 (xs.toList.map (E.ev tm)) d r k tm S Q := e_call d 47 xs ats r rfl
theorem call48 {nt : Nat} {k : List KI} {tm : PM AV} {S : St} {Q : PostA} (d : Option Tmp) (xs : Array Operand) (ats : Array TypeId) (r : List POp) : EndsA E nt (.c (.reg (⟨d, .call (Call.mk (.value (.func 48)) xs ats), none⟩ :: r)) :: k) .nrm tm S Q = CallK E nt 48 (xs.toList.map (E.ev tm)) d r k tm S Q := e_call d 48 xs ats r rfl
theorem call49 {nt : Nat} {k : List KI} {tm : PM AV} {S : St} {Q : PostA} (d : Option Tmp) (xs : Array Operand) (ats : Array TypeId) (r : List POp) : EndsA E nt (.c (.reg (⟨d, .call (Call.mk (.value (.func 49)) xs ats), none⟩ :: r)) :: k) .nrm tm S Q = CallK E nt 49 (xs.toList.map (E.ev tm)) d r k tm S Q := e_call d 49 xs ats r rfl
theorem call50 {nt : Nat} {k : List KI} {tm : PM AV} {S : St} {Q : PostA} (d : Option Tmp) (xs : Array Operand) (ats : Array TypeId) (r : List POp) : EndsA E nt (.c (.reg (⟨d, .call (Call.mk (.value (.func 50)) xs ats), none⟩ :: r)) :: k) .nrm tm S Q = CallK E nt 50 (xs.toList.map (E.ev tm)) d r k tm S Q := e_call d 50 xs ats r rfl
theorem call52 {nt : Nat} {k : List KI} {tm : PM AV} {S : St} {Q : PostA} (d : Option Tmp) (xs : Array Operand) (ats : Array TypeId) (r : List POp) : EndsA E nt (.c (.reg (⟨d, .call (Call.mk (.value (.func 52)) xs ats), none⟩ :: r)) :: k) .nrm tm S Q = CallK E nt 52 (xs.toList.map (E.ev tm)) d r k tm S Q := e_call d 52 xs ats r rfl
theorem call63 {nt : Nat} {k : List KI} {tm : PM AV} {S : St} {Q : PostA} (d : Option Tmp) (xs : Array Operand) (ats : Array TypeId) (r : List POp) : EndsA E nt (.c (.reg (⟨d, .call (Call.mk (.value (.func 63)) xs ats), none⟩ :: r)) :: k) .nrm tm S Q = CallK E nt 63 (xs.toList.map (E.ev tm)) d r k tm S Q := e_call d 63 xs ats r rfl
theorem call78 {nt : Nat} {k : List KI} {tm : PM AV} {S : St} {Q : PostA} (d : Option Tmp) (xs : Array Operand) (ats : Array TypeId) (r : List POp) : EndsA E nt (.c (.reg (⟨d, .call (Call.mk (.value (.func 78)) xs ats), none⟩ :: r)) :: k) .nrm tm S Q = CallK E nt 78 (xs.toList.map (E.ev tm)) d r k tm S Q := e_call d 78 xs ats r rfl
theorem call83 {nt : Nat} {k : List KI} {tm : PM AV} {S : St} {Q : PostA} (d : Option Tmp) (xs : Array Operand) (ats : Array TypeId) (r : List POp) : EndsA E nt (.c (.reg (⟨d, .call (Call.mk (.value (.func 83)) xs ats), none⟩ :: r)) :: k) .nrm tm S Q = CallK E nt 83 (xs.toList.map (E.ev tm)) d r k tm S Q := e_call d 83 xs ats r rfl
/-! hindsight/info.Good$1 -/
def r27_0 : List POp := [
  ⟨some 2, .box 43 (.tmp 0), none⟩,
  ⟨some 3, .box 43 (.tmp 1), none⟩,
  ⟨some 4, .assign (.const (.int .i64 0)), none⟩]
def r27_1 : List POp := [
  ⟨some 5, .fieldAddr 43 (.tmp 2) 2, none⟩,
  ⟨some 6, .load 9 (.tmp 5), none⟩,
  ⟨some 7, .fieldAddr 43 (.tmp 3) 2, none⟩,
  ⟨some 8, .load 9 (.tmp 7), none⟩,
  ⟨some 9, .call { callee := .value (.func 29), args := #[(.tmp 6), (.tmp 8)], argTypes := #[9, 9] }, none⟩,
  ⟨some 10, .fieldAddr 43 (.tmp 2) 0, none⟩,
  ⟨some 11, .load 3 (.tmp 10), none⟩,
  ⟨some 12, .fieldAddr 43 (.tmp 3) 0, none⟩,
  ⟨some 13, .load 3 (.tmp 12), none⟩]
def r27_2 : List POp := [
  ⟨some 14, .call { callee := .value (.func 30), args := #[(.tmp 11), (.tmp 13)], argTypes := #[3, 3] }, none⟩,
  ⟨some 15, .buildSlice 57 2 #[(0, (.tmp 9)), (1, (.tmp 14))], none⟩,
  ⟨some 16, .call { callee := .value (.func 28), args := #[(.tmp 15)], argTypes := #[57] }, none⟩,
  ⟨some 4, .assign (.tmp 16), none⟩]
noncomputable def d27_0 : Array Oper := match Try.f27.body.map (comp E Try.f27.ntmps) with | some p => p.draws.getD 0 #[] | none => #[]
theorem draw27_0 : DrawC E 17 d27_0 13 9 r27_1 r27_2 [(.tmp 10), (.tmp 12)] := ⟨by kernel_rfl, by decide, by kernel_rfl, by kernel_rfl, by kernel_rfl, by kernel_rfl, by kernel_rfl⟩
noncomputable def p27 : PC := (.seq (.reg r27_0) (.seq (.draw d27_0) .ret))
theorem comp27 : (Try.f27.body.map (comp E Try.f27.ntmps)) = some p27 := by kernel_rfl
theorem ev27 {args : List AV} {S : St} {P : AV → St → Prop} (hn : Nat.ble args.length 17 = true) (h : EndsA E 17 [.c p27] .nrm (initTm 0 args .leaf) S (RetQ E [.tmp 4] P)) : ∃ r S', EvA E 27 args S r S' ∧ P r S' := ev_ends (fn := Try.f27) (by kernel_rfl) rfl comp27 (by kernel_rfl) (by kernel_rfl) hn h
/-! cmp.Or[int] -/
def r28_0 : List POp := [
  ⟨some 2, .assign (.const (.int .i64 0)), none⟩]
def r28_1 : List POp := [
  ⟨some 3, .assign (.const (.int .i64 0)), none⟩]
def r28_2 : List POp := [
  ⟨some 6, .move (.tmp 0), none⟩,
  ⟨some 7, .call { callee := .builtin .len, args := #[(.tmp 6)], argTypes := #[57] }, none⟩,
  ⟨some 8, .move (.const (.int .i64 0)), none⟩]
def r28_3 : List POp := [
  ⟨some 9, .binOp .lss 3 (.tmp 8) (.tmp 7) 3, none⟩]
def r28_4 : List POp := [
  ⟨some 10, .indexAddr 57 (.tmp 6) (.tmp 8), none⟩,
  ⟨some 11, .load 3 (.tmp 10), none⟩,
  ⟨some 5, .assign (.tmp 11), none⟩]
def r28_5 : List POp := [
  ⟨some 12, .move (.tmp 5), none⟩,
  ⟨some 13, .move (.tmp 3), none⟩,
  ⟨some 14, .binOp .neq 3 (.tmp 12) (.tmp 13) 3, none⟩]
def r28_6 : List POp := [
  ⟨some 15, .move (.tmp 5), none⟩,
  ⟨some 2, .assign (.tmp 15), none⟩]
def r28_7 : List POp := [
  ⟨some 16, .binOp .add 3 (.tmp 8) (.const (.int .i64 1)) 3, none⟩,
  ⟨some 8, .move (.tmp 16), none⟩]
noncomputable def b28_8 : PC := (.seq (.reg r28_3) (.seq (.cond (.tmp 9) .skip (.exit 0)) (.seq (.block 1 (.seq (.reg r28_4) (.seq (.reg r28_5) (.cond (.tmp 14) (.seq (.reg r28_6) .ret) .skip)))) (.reg r28_7))))
def r28_9 : List POp := [
  ⟨some 17, .move (.tmp 3), none⟩,
  ⟨some 2, .assign (.tmp 17), none⟩]
noncomputable def p28 : PC := (.seq (.reg r28_0) (.seq (.reg r28_1) (.seq (.seq (.reg r28_2) (.block 0 (.loop b28_8))) (.seq (.reg r28_9) .ret))))
theorem comp28 : (Try.f28.body.map (comp E Try.f28.ntmps)) = some p28 := by kernel_rfl
theorem ev28 {args : List AV} {S : St} {P : AV → St → Prop} (hn : Nat.ble args.length 18 = true) (h : EndsA E 18 [.c p28] .nrm (initTm 0 args .leaf) S (RetQ E [.tmp 2] P)) : ∃ r S', EvA E 28 args S r S' ∧ P r S' := ev_ends (fn := Try.f28) (by kernel_rfl) rfl comp28 (by kernel_rfl) (by kernel_rfl) hn h
/-! strings.Compare -/
def r29_0 : List POp := [
  ⟨some 4, .assign (.const (.int .i64 0)), none⟩]
def r29_1 : List POp := [
  ⟨some 5, .move (.tmp 0), none⟩,
  ⟨some 6, .move (.tmp 1), none⟩,
  ⟨some 7, .call { callee := .value (.func 47), args := #[(.tmp 5), (.tmp 6)], argTypes := #[9, 9] }, none⟩,
  ⟨some 4, .assign (.tmp 7), none⟩]
noncomputable def p29 : PC := (.seq (.reg r29_0) (.seq (.reg r29_1) .ret))
theorem comp29 : (Try.f29.body.map (comp E Try.f29.ntmps)) = some p29 := by kernel_rfl
theorem ev29 {args : List AV} {S : St} {P : AV → St → Prop} (hn : Nat.ble args.length 8 = true) (h : EndsA E 8 [.c p29] .nrm (initTm 0 args .leaf) S (RetQ E [.tmp 4] P)) : ∃ r S', EvA E 29 args S r S' ∧ P r S' := ev_ends (fn := Try.f29) (by kernel_rfl) rfl comp29 (by kernel_rfl) (by kernel_rfl) hn h
/-! cmp.Compare[int] -/
def r30_0 : List POp := [
  ⟨some 4, .assign (.const (.int .i64 0)), none⟩]
def r30_1 : List POp := [
  ⟨some 7, .move (.tmp 0), none⟩,
  ⟨some 8, .call { callee := .value (.func 48), args := #[(.tmp 7)], argTypes := #[3] }, none⟩,
  ⟨some 5, .assign (.tmp 8), none⟩]
def r30_2 : List POp := [
  ⟨some 9, .move (.tmp 1), none⟩,
  ⟨some 10, .call { callee := .value (.func 48), args := #[(.tmp 9)], argTypes := #[3] }, none⟩,
  ⟨some 6, .assign (.tmp 10), none⟩]
def r30_3 : List POp := [
  ⟨some 11, .move (.tmp 5), none⟩]
def r30_4 : List POp := [
  ⟨some 12, .move (.tmp 6), none⟩]
def r30_5 : List POp := [
  ⟨some 4, .assign (.const (.int .i64 0)), none⟩]
def r30_6 : List POp := [
  ⟨some 4, .assign (.const (.int .i64 (-1))), none⟩]
def r30_7 : List POp := [
  ⟨some 13, .move (.tmp 6), none⟩]
def r30_8 : List POp := [
  ⟨some 4, .assign (.const (.int .i64 1)), none⟩]
def r30_9 : List POp := [
  ⟨some 14, .move (.tmp 0), none⟩,
  ⟨some 15, .move (.tmp 1), none⟩,
  ⟨some 16, .binOp .lss 3 (.tmp 14) (.tmp 15) 3, none⟩]
def r30_10 : List POp := [
  ⟨some 4, .assign (.const (.int .i64 (-1))), none⟩]
def r30_11 : List POp := [
  ⟨some 17, .move (.tmp 0), none⟩,
  ⟨some 18, .move (.tmp 1), none⟩,
  ⟨some 19, .binOp .gtr 3 (.tmp 17) (.tmp 18) 3, none⟩]
def r30_12 : List POp := [
  ⟨some 4, .assign (.const (.int .i64 1)), none⟩]
def r30_13 : List POp := [
  ⟨some 4, .assign (.const (.int .i64 0)), none⟩]
noncomputable def p30 : PC := (.seq (.reg r30_0) (.seq (.reg r30_1) (.seq (.reg r30_2) (.seq (.seq (.reg r30_3) (.cond (.tmp 11) (.seq (.seq (.reg r30_4) (.cond (.tmp 12) (.seq (.reg r30_5) .ret) .skip)) (.seq (.reg r30_6) .ret)) .skip)) (.seq (.seq (.reg r30_7) (.cond (.tmp 13) (.seq (.reg r30_8) .ret) .skip)) (.seq (.seq (.reg r30_9) (.cond (.tmp 16) (.seq (.reg r30_10) .ret) .skip)) (.seq (.seq (.reg r30_11) (.cond (.tmp 19) (.seq (.reg r30_12) .ret) .skip)) (.seq (.reg r30_13) .ret))))))))
theorem comp30 : (Try.f30.body.map (comp E Try.f30.ntmps)) = some p30 := by kernel_rfl
theorem ev30 {args : List AV} {S : St} {P : AV → St → Prop} (hn : Nat.ble args.length 20 = true) (h : EndsA E 20 [.c p30] .nrm (initTm 0 args .leaf) S (RetQ E [.tmp 4] P)) : ∃ r S', EvA E 30 args S r S' ∧ P r S' := ev_ends (fn := Try.f30) (by kernel_rfl) rfl comp30 (by kernel_rfl) (by kernel_rfl) hn h
/-! internal/bytealg.CompareString -/
def r47_0 : List POp := [
  ⟨some 4, .assign (.const (.int .i64 0)), none⟩]
def r47_1 : List POp := [
  ⟨some 5, .move (.tmp 0), none⟩,
  ⟨some 6, .move (.tmp 1), none⟩,
  ⟨some 7, .call { callee := .value (.func 62), args := #[(.tmp 5), (.tmp 6)], argTypes := #[9, 9] }, none⟩,
  ⟨some 4, .assign (.tmp 7), none⟩]
noncomputable def p47 : PC := (.seq (.reg r47_0) (.seq (.reg r47_1) .ret))
theorem comp47 : (Try.f47.body.map (comp E Try.f47.ntmps)) = some p47 := by kernel_rfl
theorem ev47 {args : List AV} {S : St} {P : AV → St → Prop} (hn : Nat.ble args.length 8 = true) (h : EndsA E 8 [.c p47] .nrm (initTm 0 args .leaf) S (RetQ E [.tmp 4] P)) : ∃ r S', EvA E 47 args S r S' ∧ P r S' := ev_ends (fn := Try.f47) (by kernel_rfl) rfl comp47 (by kernel_rfl) (by kernel_rfl) hn h
/-! cmp.isNaN[int] -/
def r48_0 : List POp := [
  ⟨some 2, .assign (.const (.bool false)), none⟩]
def r48_1 : List POp := [
  ⟨some 3, .move (.tmp 0), none⟩,
  ⟨some 4, .move (.tmp 0), none⟩,
  ⟨some 5, .binOp .neq 3 (.tmp 3) (.tmp 4) 3, none⟩,
  ⟨some 2, .assign (.tmp 5), none⟩]
noncomputable def p48 : PC := (.seq (.reg r48_0) (.seq (.reg r48_1) .ret))
theorem comp48 : (Try.f48.body.map (comp E Try.f48.ntmps)) = some p48 := by kernel_rfl
theorem ev48 {args : List AV} {S : St} {P : AV → St → Prop} (hn : Nat.ble args.length 6 = true) (h : EndsA E 6 [.c p48] .nrm (initTm 0 args .leaf) S (RetQ E [.tmp 2] P)) : ∃ r S', EvA E 48 args S r S' ∧ P r S' := ev_ends (fn := Try.f48) (by kernel_rfl) rfl comp48 (by kernel_rfl) (by kernel_rfl) hn h
end Go.Proofs.Ytmmpcomfhcpicaa.Cmp0
