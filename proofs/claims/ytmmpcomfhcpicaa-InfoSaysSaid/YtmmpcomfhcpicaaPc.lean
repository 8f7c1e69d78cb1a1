/-
  The compiled code of functions of this seat's program, and facts on its types: written by program (wip/GenPC.lean); the kernel checks each row.
-/
import Derived.Test.YtmmpcomfhcpicaaRows
import Derived.Test.YtmmpcomfhcpicaaAbsD
import Derived.Test.YtmmpcomfhcpicaaSortF
import Derived.Test.YtmmpcomfhcpicaaSortD
set_option linter.unusedSimpArgs false
set_option linter.unusedVariables false
set_option maxRecDepth 100000
namespace Go.Proofs.Ytmmpcomfhcpicaa
open Go.Abs
noncomputable def E : Env := { plainEnv Try.prog (fun t d => (Nat.beq t 23 && isDst d 7) || (Nat.beq t 23 && isDst d 28) || (Nat.beq t 57 && isDst d 23)) (fun _ _ => none) (extOf [62] []) with X := fun f => bif Nat.beq f 26 then some (sortFX 27 6 parseV encV srtV) else bif Nat.beq f 43 then some sortX else none }
theorem load3 {tm : PM AV} {S : St} {d : Option Tmp} (x : Operand) : opV E tm d (.load 3 x) S = loadC false 1 (E.ev tm x) S := load_chk 3 false 1 (by kernel_rfl) x
theorem store3 {tm : PM AV} {S : St} {d : Option Tmp} (x y : Operand) : opV E tm d (.store 3 x y) S = storeC 1 (E.ev tm x) (E.ev tm y) S := store_chk (b := false) 3 1 (by kernel_rfl) x y
theorem load4 {tm : PM AV} {S : St} {d : Option Tmp} (x : Operand) : opV E tm d (.load 4 x) S = loadC false 1 (E.ev tm x) S := load_chk 4 false 1 (by kernel_rfl) x
theorem store4 {tm : PM AV} {S : St} {d : Option Tmp} (x y : Operand) : opV E tm d (.store 4 x y) S = storeC 1 (E.ev tm x) (E.ev tm y) S := store_chk (b := false) 4 1 (by kernel_rfl) x y
theorem load5 {tm : PM AV} {S : St} {d : Option Tmp} (x : Operand) : opV E tm d (.load 5 x) S = loadC false 1 (E.ev tm x) S := load_chk 5 false 1 (by kernel_rfl) x
theorem load9 {tm : PM AV} {S : St} {d : Option Tmp} (x : Operand) : opV E tm d (.load 9 x) S = loadC false 1 (E.ev tm x) S := load_chk 9 false 1 (by kernel_rfl) x
theorem store9 {tm : PM AV} {S : St} {d : Option Tmp} (x y : Operand) : opV E tm d (.store 9 x y) S = storeC 1 (E.ev tm x) (E.ev tm y) S := store_chk (b := false) 9 1 (by kernel_rfl) x y
theorem load22 {tm : PM AV} {S : St} {d : Option Tmp} (x : Operand) : opV E tm d (.load 22 x) S = loadC false 1 (E.ev tm x) S := load_chk 22 false 1 (by kernel_rfl) x
theorem store22 {tm : PM AV} {S : St} {d : Option Tmp} (x y : Operand) : opV E tm d (.store 22 x y) S = storeC 1 (E.ev tm x) (E.ev tm y) S := store_chk (b := false) 22 1 (by kernel_rfl) x y
theorem und22 : E.und 22 = some (.slice 41) := by kernel_rfl
theorem el22 : elIs E 22 41 true 4 32 = true := by kernel_rfl
theorem bs22 {tm : PM AV} {S : St} {d : Option Tmp} (n : Nat) (ps : Array (Nat × Operand)) : opV E tm d (.buildSlice 22 n ps) S = buildSliceA E 22 n (ps.toList.map fun p => (p.1, E.ev tm p.2)) S := rfl
theorem app22 {tm : PM AV} {S : St} {d : Option Tmp} (x y : Operand) (t1 : TypeId) : opV E tm d (.call (Call.mk (.builtin .append) #[x, y] #[22, t1])) S = builtinA E false .append [22, t1] [E.ev tm x, E.ev tm y] S := rfl
theorem index22 {tm : PM AV} {S : St} {d : Option Tmp} (x y : Operand) : opV E tm d (.indexAddr 22 x y) S = idxV 4 (E.ev tm x) (int? (E.ev tm y)) S := index_chk 22 4 (by kernel_rfl) x y
theorem len22 {tm : PM AV} {S : St} {d : Option Tmp} (x : Operand) : opV E tm d (.call (Call.mk (.builtin .len) #[x] #[22])) S = lenV (E.ev tm x) S := op_len (t := 22) (e := 41) (by kernel_rfl) x
theorem load23 {tm : PM AV} {S : St} {d : Option Tmp} (x : Operand) : opV E tm d (.load 23 x) S = loadC false 1 (E.ev tm x) S := load_chk 23 false 1 (by kernel_rfl) x
theorem store23 {tm : PM AV} {S : St} {d : Option Tmp} (x y : Operand) : opV E tm d (.store 23 x y) S = storeC 1 (E.ev tm x) (E.ev tm y) S := store_chk (b := false) 23 1 (by kernel_rfl) x y
theorem und23 : E.und 23 = some (.slice 43) := by kernel_rfl
theorem el23 : elIs E 23 43 true 6 64 = true := by kernel_rfl
theorem hp23 {k : Nat} (hk7 : (k == 7) = false) (hk28 : (k == 28) = false) : E.hp 23 (some k) = false := by
  show ((isDst (some k) 7 || isDst (some k) 28) || false) = false
  simp only [isDst] at *
  simp [hk7, hk28]
theorem bs23 {tm : PM AV} {S : St} {k : Nat} (hk7 : (k == 7) = false) (hk28 : (k == 28) = false) (n : Nat) (ps : Array (Nat × Operand)) : opV E tm (some k) (.buildSlice 23 n ps) S = buildSliceA E 23 n (ps.toList.map fun p => (p.1, E.ev tm p.2)) S := by
  have h1 : isMk E (opOf (some k) (.buildSlice 23 n ps)) = false := hp23 hk7 hk28
  simp only [opV, evOp, h1, cond_false]; rfl
theorem app23 {tm : PM AV} {S : St} {k : Nat} (hk7 : (k == 7) = false) (hk28 : (k == 28) = false) (x y : Operand) (t1 : TypeId) : opV E tm (some k) (.call (Call.mk (.builtin .append) #[x, y] #[23, t1])) S = builtinA E false .append [23, t1] [E.ev tm x, E.ev tm y] S := by
  have h : opV E tm (some k) (.call (Call.mk (.builtin .append) #[x, y] #[23, t1])) S = builtinA E (E.hp 23 (some k)) .append [23, t1] [E.ev tm x, E.ev tm y] S := rfl
  rw [h, hp23 hk7 hk28]
theorem app23m {tm : PM AV} {S : St} (x y : Operand) (t1 : TypeId) : opV E tm (some 7) (.call (Call.mk (.builtin .append) #[x, y] #[23, t1])) S = builtinA E true .append [23, t1] [E.ev tm x, E.ev tm y] S := rfl
theorem app23m2 {tm : PM AV} {S : St} (x y : Operand) (t1 : TypeId) : opV E tm (some 28) (.call (Call.mk (.builtin .append) #[x, y] #[23, t1])) S = builtinA E true .append [23, t1] [E.ev tm x, E.ev tm y] S := rfl
theorem index23 {tm : PM AV} {S : St} {d : Option Tmp} (x y : Operand) : opV E tm d (.indexAddr 23 x y) S = idxV 6 (E.ev tm x) (int? (E.ev tm y)) S := index_chk 23 6 (by kernel_rfl) x y
theorem len23 {tm : PM AV} {S : St} {d : Option Tmp} (x : Operand) : opV E tm d (.call (Call.mk (.builtin .len) #[x] #[23])) S = lenV (E.ev tm x) S := op_len (t := 23) (e := 43) (by kernel_rfl) x
theorem load25 {tm : PM AV} {S : St} {d : Option Tmp} (x : Operand) : opV E tm d (.load 25 x) S = loadC true 2 (E.ev tm x) S := load_chk 25 true 2 (by kernel_rfl) x
theorem store25 {tm : PM AV} {S : St} {d : Option Tmp} (x y : Operand) : opV E tm d (.store 25 x y) S = storeC 2 (E.ev tm x) (E.ev tm y) S := store_chk (b := true) 25 2 (by kernel_rfl) x y
theorem load28 {tm : PM AV} {S : St} {d : Option Tmp} (x : Operand) : opV E tm d (.load 28 x) S = loadC false 1 (E.ev tm x) S := load_chk 28 false 1 (by kernel_rfl) x
theorem store28 {tm : PM AV} {S : St} {d : Option Tmp} (x y : Operand) : opV E tm d (.store 28 x y) S = storeC 1 (E.ev tm x) (E.ev tm y) S := store_chk (b := false) 28 1 (by kernel_rfl) x y
theorem und28 : E.und 28 = some (.slice 5) := by kernel_rfl
theorem sl28 : slIs E 28 1 = true := by kernel_rfl
theorem el28 : elIs E 28 5 false 1 1 = true := by kernel_rfl
theorem bs28 {tm : PM AV} {S : St} {d : Option Tmp} (n : Nat) (ps : Array (Nat × Operand)) : opV E tm d (.buildSlice 28 n ps) S = buildSliceA E 28 n (ps.toList.map fun p => (p.1, E.ev tm p.2)) S := rfl
theorem app28 {tm : PM AV} {S : St} {d : Option Tmp} (x y : Operand) (t1 : TypeId) : opV E tm d (.call (Call.mk (.builtin .append) #[x, y] #[28, t1])) S = builtinA E false .append [28, t1] [E.ev tm x, E.ev tm y] S := rfl
theorem index28 {tm : PM AV} {S : St} {d : Option Tmp} (x y : Operand) : opV E tm d (.indexAddr 28 x y) S = idxV 1 (E.ev tm x) (int? (E.ev tm y)) S := index_chk 28 1 (by kernel_rfl) x y
theorem len28 {tm : PM AV} {S : St} {d : Option Tmp} (x : Operand) : opV E tm d (.call (Call.mk (.builtin .len) #[x] #[28])) S = lenV (E.ev tm x) S := op_len (t := 28) (e := 5) (by kernel_rfl) x
theorem load34 {tm : PM AV} {S : St} {d : Option Tmp} (x : Operand) : opV E tm d (.load 34 x) S = loadC false 1 (E.ev tm x) S := load_chk 34 false 1 (by kernel_rfl) x
theorem store34 {tm : PM AV} {S : St} {d : Option Tmp} (x y : Operand) : opV E tm d (.store 34 x y) S = storeC 1 (E.ev tm x) (E.ev tm y) S := store_chk (b := false) 34 1 (by kernel_rfl) x y
theorem und34 : E.und 34 = some (.slice 51) := by kernel_rfl
theorem el34 : elIs E 34 51 true 4 32 = true := by kernel_rfl
theorem bs34 {tm : PM AV} {S : St} {d : Option Tmp} (n : Nat) (ps : Array (Nat × Operand)) : opV E tm d (.buildSlice 34 n ps) S = buildSliceA E 34 n (ps.toList.map fun p => (p.1, E.ev tm p.2)) S := rfl
theorem app34 {tm : PM AV} {S : St} {d : Option Tmp} (x y : Operand) (t1 : TypeId) : opV E tm d (.call (Call.mk (.builtin .append) #[x, y] #[34, t1])) S = builtinA E false .append [34, t1] [E.ev tm x, E.ev tm y] S := rfl
theorem index34 {tm : PM AV} {S : St} {d : Option Tmp} (x y : Operand) : opV E tm d (.indexAddr 34 x y) S = idxV 4 (E.ev tm x) (int? (E.ev tm y)) S := index_chk 34 4 (by kernel_rfl) x y
theorem len34 {tm : PM AV} {S : St} {d : Option Tmp} (x : Operand) : opV E tm d (.call (Call.mk (.builtin .len) #[x] #[34])) S = lenV (E.ev tm x) S := op_len (t := 34) (e := 51) (by kernel_rfl) x
theorem load35 {tm : PM AV} {S : St} {d : Option Tmp} (x : Operand) : opV E tm d (.load 35 x) S = loadC false 1 (E.ev tm x) S := load_chk 35 false 1 (by kernel_rfl) x
theorem store35 {tm : PM AV} {S : St} {d : Option Tmp} (x y : Operand) : opV E tm d (.store 35 x y) S = storeC 1 (E.ev tm x) (E.ev tm y) S := store_chk (b := false) 35 1 (by kernel_rfl) x y
theorem und35 : E.und 35 = some (.slice 56) := by kernel_rfl
theorem sl35 : slIs E 35 6 = true := by kernel_rfl
theorem el35 : elIs E 35 56 true 6 64 = true := by kernel_rfl
theorem bs35 {tm : PM AV} {S : St} {d : Option Tmp} (n : Nat) (ps : Array (Nat × Operand)) : opV E tm d (.buildSlice 35 n ps) S = buildSliceA E 35 n (ps.toList.map fun p => (p.1, E.ev tm p.2)) S := rfl
theorem app35 {tm : PM AV} {S : St} {d : Option Tmp} (x y : Operand) (t1 : TypeId) : opV E tm d (.call (Call.mk (.builtin .append) #[x, y] #[35, t1])) S = builtinA E false .append [35, t1] [E.ev tm x, E.ev tm y] S := rfl
theorem index35 {tm : PM AV} {S : St} {d : Option Tmp} (x y : Operand) : opV E tm d (.indexAddr 35 x y) S = idxV 6 (E.ev tm x) (int? (E.ev tm y)) S := index_chk 35 6 (by kernel_rfl) x y
theorem len35 {tm : PM AV} {S : St} {d : Option Tmp} (x : Operand) : opV E tm d (.call (Call.mk (.builtin .len) #[x] #[35])) S = lenV (E.ev tm x) S := op_len (t := 35) (e := 56) (by kernel_rfl) x
theorem load37 {tm : PM AV} {S : St} {d : Option Tmp} (x : Operand) : opV E tm d (.load 37 x) S = loadC true 2 (E.ev tm x) S := load_chk 37 true 2 (by kernel_rfl) x
theorem store37 {tm : PM AV} {S : St} {d : Option Tmp} (x y : Operand) : opV E tm d (.store 37 x y) S = storeC 2 (E.ev tm x) (E.ev tm y) S := store_chk (b := true) 37 2 (by kernel_rfl) x y
theorem load41 {tm : PM AV} {S : St} {d : Option Tmp} (x : Operand) : opV E tm d (.load 41 x) S = loadC true 4 (E.ev tm x) S := load_chk 41 true 4 (by kernel_rfl) x
theorem store41 {tm : PM AV} {S : St} {d : Option Tmp} (x y : Operand) : opV E tm d (.store 41 x y) S = storeC 4 (E.ev tm x) (E.ev tm y) S := store_chk (b := true) 41 4 (by kernel_rfl) x y
theorem load43 {tm : PM AV} {S : St} {d : Option Tmp} (x : Operand) : opV E tm d (.load 43 x) S = loadC true 6 (E.ev tm x) S := load_chk 43 true 6 (by kernel_rfl) x
theorem store43 {tm : PM AV} {S : St} {d : Option Tmp} (x y : Operand) : opV E tm d (.store 43 x y) S = storeC 6 (E.ev tm x) (E.ev tm y) S := store_chk (b := true) 43 6 (by kernel_rfl) x y
theorem load51 {tm : PM AV} {S : St} {d : Option Tmp} (x : Operand) : opV E tm d (.load 51 x) S = loadC true 4 (E.ev tm x) S := load_chk 51 true 4 (by kernel_rfl) x
theorem store51 {tm : PM AV} {S : St} {d : Option Tmp} (x y : Operand) : opV E tm d (.store 51 x y) S = storeC 4 (E.ev tm x) (E.ev tm y) S := store_chk (b := true) 51 4 (by kernel_rfl) x y
theorem load56 {tm : PM AV} {S : St} {d : Option Tmp} (x : Operand) : opV E tm d (.load 56 x) S = loadC true 6 (E.ev tm x) S := load_chk 56 true 6 (by kernel_rfl) x
theorem store56 {tm : PM AV} {S : St} {d : Option Tmp} (x y : Operand) : opV E tm d (.store 56 x y) S = storeC 6 (E.ev tm x) (E.ev tm y) S := store_chk (b := true) 56 6 (by kernel_rfl) x y
theorem und57 : E.und 57 = some (.slice 3) := by kernel_rfl
theorem el57 : elIs E 57 3 false 1 8 = true := by kernel_rfl
theorem hp57 {k : Nat} (hk23 : (k == 23) = false) : E.hp 57 (some k) = false := by
  show ((false || false) || isDst (some k) 23) = false
  simp only [isDst] at *
  simp [hk23]
theorem bs57 {tm : PM AV} {S : St} {k : Nat} (hk23 : (k == 23) = false) (n : Nat) (ps : Array (Nat × Operand)) : opV E tm (some k) (.buildSlice 57 n ps) S = buildSliceA E 57 n (ps.toList.map fun p => (p.1, E.ev tm p.2)) S := by
  have h1 : isMk E (opOf (some k) (.buildSlice 57 n ps)) = false := hp57 hk23
  simp only [opV, evOp, h1, cond_false]; rfl
theorem app57 {tm : PM AV} {S : St} {k : Nat} (hk23 : (k == 23) = false) (x y : Operand) (t1 : TypeId) : opV E tm (some k) (.call (Call.mk (.builtin .append) #[x, y] #[57, t1])) S = builtinA E false .append [57, t1] [E.ev tm x, E.ev tm y] S := by
  have h : opV E tm (some k) (.call (Call.mk (.builtin .append) #[x, y] #[57, t1])) S = builtinA E (E.hp 57 (some k)) .append [57, t1] [E.ev tm x, E.ev tm y] S := rfl
  rw [h, hp57 hk23]
theorem app57m {tm : PM AV} {S : St} (x y : Operand) (t1 : TypeId) : opV E tm (some 23) (.call (Call.mk (.builtin .append) #[x, y] #[57, t1])) S = builtinA E true .append [57, t1] [E.ev tm x, E.ev tm y] S := rfl
theorem index57 {tm : PM AV} {S : St} {d : Option Tmp} (x y : Operand) : opV E tm d (.indexAddr 57 x y) S = idxV 1 (E.ev tm x) (int? (E.ev tm y)) S := index_chk 57 1 (by kernel_rfl) x y
theorem len57 {tm : PM AV} {S : St} {d : Option Tmp} (x : Operand) : opV E tm d (.call (Call.mk (.builtin .len) #[x] #[57])) S = lenV (E.ev tm x) S := op_len (t := 57) (e := 3) (by kernel_rfl) x
theorem conv3_5 {S : St} (mu : Bool) (n : Int) : convertA E mu 3 5 (.sc (.int .i64 n)) S = some (.sc (.int .u8 (IntKind.wrap .u8 n)), S) := conv_chk 3 5 .i64 .u8 n (by kernel_rfl) (by kernel_rfl)
theorem conv3_85 {S : St} (mu : Bool) (n : Int) : convertA E mu 3 85 (.sc (.int .i64 n)) S = some (.sc (.int .u64 (IntKind.wrap .u64 n)), S) := conv_chk 3 85 .i64 .u64 n (by kernel_rfl) (by kernel_rfl)
theorem conv3_90 {S : St} (mu : Bool) (n : Int) : convertA E mu 3 90 (.sc (.int .i64 n)) S = some (.sc (.int .u64 (IntKind.wrap .u64 n)), S) := conv_chk 3 90 .i64 .u64 n (by kernel_rfl) (by kernel_rfl)
theorem conv5_3 {S : St} (mu : Bool) (n : Int) : convertA E mu 5 3 (.sc (.int .u8 n)) S = some (.sc (.int .i64 (IntKind.wrap .i64 n)), S) := conv_chk 5 3 .u8 .i64 n (by kernel_rfl) (by kernel_rfl)
theorem conv5_85 {S : St} (mu : Bool) (n : Int) : convertA E mu 5 85 (.sc (.int .u8 n)) S = some (.sc (.int .u64 (IntKind.wrap .u64 n)), S) := conv_chk 5 85 .u8 .u64 n (by kernel_rfl) (by kernel_rfl)
theorem conv85_3 {S : St} (mu : Bool) (n : Int) : convertA E mu 85 3 (.sc (.int .u64 n)) S = some (.sc (.int .i64 (IntKind.wrap .i64 n)), S) := conv_chk 85 3 .u64 .i64 n (by kernel_rfl) (by kernel_rfl)
theorem conv85_5 {S : St} (mu : Bool) (n : Int) : convertA E mu 85 5 (.sc (.int .u64 n)) S = some (.sc (.int .u8 (IntKind.wrap .u8 n)), S) := conv_chk 85 5 .u64 .u8 n (by kernel_rfl) (by kernel_rfl)
theorem conv90_3 {S : St} (mu : Bool) (n : Int) : convertA E mu 90 3 (.sc (.int .u64 n)) S = some (.sc (.int .i64 (IntKind.wrap .i64 n)), S) := conv_chk 90 3 .u64 .i64 n (by kernel_rfl) (by kernel_rfl)
theorem call7 {nt : Nat} {k : List KI} {tm : PM AV} {S : St} {Q : PostA} (d : Option Tmp) (xs : Array Operand) (ats : Array TypeId) (r : List POp) : EndsA E nt (.c (.reg (⟨d, .call (Call.mk (.value (.func 7)) xs ats), none⟩ :: r)) :: k) .nrm tm S Q = CallK E nt 7 (xs.toList.map (E.ev tm)) d r k tm S Q := e_call d 7 xs ats r rfl
theorem call8 {nt : Nat} {k : List KI} {tm : PM AV} {S : St} {Q : PostA} (d : Option Tmp) (xs : Array Operand) (ats : Array TypeId) (r : List POp) : EndsA E nt (.c (.reg (⟨d, .call (Call.mk (.value (.func 8)) xs ats), none⟩ :: r)) :: k) .nrm tm S Q = CallK E nt 8 (xs.toList.map (E.ev tm)) d r k tm S Q := e_call d 8 xs ats r rfl
theorem call9 {nt : Nat} {k : List KI} {tm : PM AV} {S : St} {Q : PostA} (d : Option Tmp) (xs : Array Operand) (ats : Array TypeId) (r : List POp) : EndsA E nt (.c (.reg (⟨d, .call (Call.mk (.value (.func 9)) xs ats), none⟩ :: r)) :: k) .nrm tm S Q = CallK E nt 9 (xs.toList.map (E.ev tm)) d r k tm S Q := e_call d 9 xs ats r rfl
theorem call10 {nt : Nat} {k : List KI} {tm : PM AV} {S : St} {Q : PostA} (d : Option Tmp) (xs : Array Operand) (ats : Array TypeId) (r : List POp) : EndsA E nt (.c (.reg (⟨d, .call (Call.mk (.value (.func 10)) xs ats), none⟩ :: r)) :: k) .nrm tm S Q = CallK E nt 10 (xs.toList.map (E.ev tm)) d r k tm S Q := e_call d 10 xs ats r rfl
theorem call11 {nt : Nat} {k : List KI} {tm : PM AV} {S : St} {Q : PostA} (d : Option Tmp) (xs : Array Operand) (ats : Array TypeId) (r : List POp) : EndsA E nt (.c (.reg (⟨d, .call (Call.mk (.value (.func 11)) xs ats), none⟩ :: r)) :: k) .nrm tm S Q = CallK E nt 11 (xs.toList.map (E.ev tm)) d r k tm S Q := e_call d 11 xs ats r rfl
theorem call12 {nt : Nat} {k : List KI} {tm : PM AV} {S : St} {Q : PostA} (d : Option Tmp) (xs : Array Operand) (ats : Array TypeId) (r : List POp) : EndsA E nt (.c (.reg (⟨d, .call (Call.mk (.value (.func 12)) xs ats), none⟩ :: r)) :: k) .nrm tm S Q = CallK E nt 12 (xs.toList.map (E.ev tm)) d r k tm S Q := e_call d 12 xs ats r rfl
theorem call13 {nt : Nat} {k : List KI} {tm : PM AV} {S : St} {Q : PostA} (d : Option Tmp) (xs : Array Operand) (ats : Array TypeId) (r : List POp) : EndsA E nt (.c (.reg (⟨d, .call (Call.mk (.value (.func 13)) xs ats), none⟩ :: r)) :: k) .nrm tm S Q = CallK E nt 13 (xs.toList.map (E.ev tm)) d r k tm S Q := e_call d 13 xs ats r rfl
theorem call14 {nt : Nat} {k : List KI} {tm : PM AV} {S : St} {Q : PostA} (d : Option Tmp) (xs : Array Operand) (ats : Array TypeId) (r : List POp) : EndsA E nt (.c (.reg (⟨d, .call (Call.mk (.value (.func 14)) xs ats), none⟩ :: r)) :: k) .nrm tm S Q = CallK E nt 14 (xs.toList.map (E.ev tm)) d r k tm S Q := e_call d 14 xs ats r rfl
theorem call15 {nt : Nat} {k : List KI} {tm : PM AV} {S : St} {Q : PostA} (d : Option Tmp) (xs : Array Operand) (ats : Array TypeId) (r : List POp) : EndsA E nt (.c (.reg (⟨d, .call (Call.mk (.value (.func 15)) xs ats), none⟩ :: r)) :: k) .nrm tm S Q = CallK E nt 15 (xs.toList.map (E.ev tm)) d r k tm S Q := e_call d 15 xs ats r rfl
theorem call16 {nt : Nat} {k : List KI} {tm : PM AV} {S : St} {Q : PostA} (d : Option Tmp) (xs : Array Operand) (ats : Array TypeId) (r : List POp) : EndsA E nt (.c (.reg (⟨d, .call (Call.mk (.value (.func 16)) xs ats), none⟩ :: r)) :: k) .nrm tm S Q = CallK E nt 16 (xs.toList.map (E.ev tm)) d r k tm S Q := e_call d 16 xs ats r rfl
theorem call17 {nt : Nat} {k : List KI} {tm : PM AV} {S : St} {Q : PostA} (d : Option Tmp) (xs : Array Operand) (ats : Array TypeId) (r : List POp) : EndsA E nt (.c (.reg (⟨d, .call (Call.mk (.value (.func 17)) xs ats), none⟩ :: r)) :: k) .nrm tm S Q = CallK E nt 17 (xs.toList.map (E.ev tm)) d r k tm S Q := e_call d 17 xs ats r rfl
theorem call18 {nt : Nat} {k : List KI} {tm : PM AV} {S : St} {Q : PostA} (d : Option Tmp) (xs : Array Operand) (ats : Array TypeId) (r : List POp) : EndsA E nt (.c (.reg (⟨d, .call (Call.mk (.value (.func 18)) xs ats), none⟩ :: r)) :: k) .nrm tm S Q = CallK E nt 18 (xs.toList.map (E.ev tm)) d r k tm S Q := e_call d 18 xs ats r rfl
theorem call19 {nt : Nat} {k : List KI} {tm : PM AV} {S : St} {Q : PostA} (d : Option Tmp) (xs : Array Operand) (ats : Array TypeId) (r : List POp) : EndsA E nt (.c (.reg (⟨d, .call (Call.mk (.value (.func 19)) xs ats), none⟩ :: r)) :: k) .nrm tm S Q = CallK E nt 19 (xs.toList.map (E.ev tm)) d r k tm S Q := e_call d 19 xs ats r rfl
theorem call20 {nt : Nat} {k : List KI} {tm : PM AV} {S : St} {Q : PostA} (d : Option Tmp) (xs : Array Operand) (ats : Array TypeId) (r : List POp) : EndsA E nt (.c (.reg (⟨d, .call (Call.mk (.value (.func 20)) xs ats), none⟩ :: r)) :: k) .nrm tm S Q = CallK E nt 20 (xs.toList.map (E.ev tm)) d r k tm S Q := e_call d 20 xs ats r rfl
theorem call21 {nt : Nat} {k : List KI} {tm : PM AV} {S : St} {Q : PostA} (d : Option Tmp) (xs : Array Operand) (ats : Array TypeId) (r : List POp) : EndsA E nt (.c (.reg (⟨d, .call (Call.mk (.value (.func 21)) xs ats), none⟩ :: r)) :: k) .nrm tm S Q = CallK E nt 21 (xs.toList.map (E.ev tm)) d r k tm S Q := e_call d 21 xs ats r rfl
theorem call22 {nt : Nat} {k : List KI} {tm : PM AV} {S : St} {Q : PostA} (d : Option Tmp) (xs : Array Operand) (ats : Array TypeId) (r : List POp) : EndsA E nt (.c (.reg (⟨d, .call (Call.mk (.value (.func 22)) xs ats), none⟩ :: r)) :: k) .nrm tm S Q = CallK E nt 22 (xs.toList.map (E.ev tm)) d r k tm S Q := e_call d 22 xs ats r rfl
theorem call24 {nt : Nat} {k : List KI} {tm : PM AV} {S : St} {Q : PostA} (d : Option Tmp) (xs : Array Operand) (ats : Array TypeId) (r : List POp) : EndsA E nt (.c (.reg (⟨d, .call (Call.mk (.value (.func 24)) xs ats), none⟩ :: r)) :: k) .nrm tm S Q = CallK E nt 24 (xs.toList.map (E.ev tm)) d r k tm S Q := e_call d 24 xs ats r rfl
theorem call25 {nt : Nat} {k : List KI} {tm : PM AV} {S : St} {Q : PostA} (d : Option Tmp) (xs : Array Operand) (ats : Array TypeId) (r : List POp) : EndsA E nt (.c (.reg (⟨d, .call (Call.mk (.value (.func 25)) xs ats), none⟩ :: r)) :: k) .nrm tm S Q = CallK E nt 25 (xs.toList.map (E.ev tm)) d r k tm S Q := e_call d 25 xs ats r rfl
theorem call26 {nt : Nat} {k : List KI} {tm : PM AV} {S : St} {Q : PostA} (d : Option Tmp) (xs : Array Operand) (ats : Array TypeId) (r : List POp) : EndsA E nt (.c (.reg (⟨d, .call (Call.mk (.value (.func 26)) xs ats), none⟩ :: r)) :: k) .nrm tm S Q = CallK E nt 26 (xs.toList.map (E.ev tm)) d r k tm S Q := e_call d 26 xs ats r rfl
theorem call28 {nt : Nat} {k : List KI} {tm : PM AV} {S : St} {Q : PostA} (d : Option Tmp) (xs : Array Operand) (ats : Array TypeId) (r : List POp) : EndsA E nt (.c (.reg (⟨d, .call (Call.mk (.value (.func 28)) xs ats), none⟩ :: r)) :: k) .nrm tm S Q = CallK E nt 28 (xs.toList.map (E.ev tm)) d r k tm S Q := e_call d 28 xs ats r rfl
theorem call29 {nt : Nat} {k : List KI} {tm : PM AV} {S : St} {Q : PostA} (d : Option Tmp) (xs : Array Operand) (ats : Array TypeId) (r : List POp) : EndsA E nt (.c (.reg (⟨d, .call (Call.mk (.value (.func 29)) xs ats), none⟩ :: r)) :: k) .nrm tm S Q = CallK E nt 29 (xs.toList.map (E.ev tm)) d r k tm S Q := e_call d 29 xs ats r rfl
theorem call30 {nt : Nat} {k : List KI} {tm : PM AV} {S : St} {Q : PostA} (d : Option Tmp) (xs : Array Operand) (ats : Array TypeId) (r : List POp) : EndsA E nt (.c (.reg (⟨d, .call (Call.mk (.value (.func 30)) xs ats), none⟩ :: r)) :: k) .nrm tm S Q = CallK E nt 30 (xs.toList.map (E.ev tm)) d r k tm S Q := e_call d 30 xs ats r rfl
theorem call31 {nt : Nat} {k : List KI} {tm : PM AV} {S : St} {Q : PostA} (d : Option Tmp) (xs : Array Operand) (ats : Array TypeId) (r : List POp) : EndsA E nt (.c (.reg (⟨d, .call (Call.mk (.value (.func 31)) xs ats), none⟩ :: r)) :: k) .nrm tm S Q = CallK E nt 31 (xs.toList.map (E.ev tm)) d r k tm S Q := e_call d 31 xs ats r rfl
theorem call32 {nt : Nat} {k : List KI} {tm : PM AV} {S : St} {Q : PostA} (d : Option Tmp) (xs : Array Operand) (ats : Array TypeId) (r : List POp) : EndsA E nt (.c (.reg (⟨d, .call (Call.mk (.value (.func 32)) xs ats), none⟩ :: r)) :: k) .nrm tm S Q = CallK E nt 32 (xs.toList.map (E.ev tm)) d r k tm S Q := e_call d 32 xs ats r rfl
theorem call33 {nt : Nat} {k : List KI} {tm : PM AV} {S : St} {Q : PostA} (d : Option Tmp) (xs : Array Operand) (ats : Array TypeId) (r : List POp) : EndsA E nt (.c (.reg (⟨d, .call (Call.mk (.value (.func 33)) xs ats), none⟩ :: r)) :: k) .nrm tm S Q = CallK E nt 33 (xs.toList.map (E.ev tm)) d r k tm S Q := e_call d 33 xs ats r rfl
theorem call34 {nt : Nat} {k : List KI} {tm : PM AV} {S : St} {Q : PostA} (d : Option Tmp) (xs : Array Operand) (ats : Array TypeId) (r : List POp) : EndsA E nt (.c (.reg (⟨d, .call (Call.mk (.value (.func 34)) xs ats), none⟩ :: r)) :: k) .nrm tm S Q = CallK E nt 34 (xs.toList.map (E.ev tm)) d r k tm S Q := e_call d 34 xs ats r rfl
theorem call35 {nt : Nat} {k : List KI} {tm : PM AV} {S : St} {Q : PostA} (d : Option Tmp) (xs : Array Operand) (ats : Array TypeId) (r : List POp) : EndsA E nt (.c (.reg (⟨d, .call (Call.mk (.value (.func 35)) xs ats), none⟩ :: r)) :: k) .nrm tm S Q = CallK E nt 35 (xs.toList.map (E.ev tm)) d r k tm S Q := e_call d 35 xs ats r rfl
theorem call36 {nt : Nat} {k : List KI} {tm : PM AV} {S : St} {Q : PostA} (d : Option Tmp) (xs : Array Operand) (ats : Array TypeId) (r : List POp) : EndsA E nt (.c (.reg (⟨d, .call (Call.mk (.value (.func 36)) xs ats), none⟩ :: r)) :: k) .nrm tm S Q = CallK E nt 36 (xs.toList.map (E.ev tm)) d r k tm S Q := e_call d 36 xs ats r rfl
theorem call37 {nt : Nat} {k : List KI} {tm : PM AV} {S : St} {Q : PostA} (d : Option Tmp) (xs : Array Operand) (ats : Array TypeId) (r : List POp) : EndsA E nt (.c (.reg (⟨d, .call (Call.mk (.value (.func 37)) xs ats), none⟩ :: r)) :: k) .nrm tm S Q = CallK E nt 37 (xs.toList.map (E.ev tm)) d r k tm S Q := e_call d 37 xs ats r rfl
theorem call38 {nt : Nat} {k : List KI} {tm : PM AV} {S : St} {Q : PostA} (d : Option Tmp) (xs : Array Operand) (ats : Array TypeId) (r : List POp) : EndsA E nt (.c (.reg (⟨d, .call (Call.mk (.value (.func 38)) xs ats), none⟩ :: r)) :: k) .nrm tm S Q = CallK E nt 38 (xs.toList.map (E.ev tm)) d r k tm S Q := e_call d 38 xs ats r rfl
theorem call39 {nt : Nat} {k : List KI} {tm : PM AV} {S : St} {Q : PostA} (d : Option Tmp) (xs : Array Operand) (ats : Array TypeId) (r : List POp) : EndsA E nt (.c (.reg (⟨d, .call (Call.mk (.value (.func 39)) xs ats), none⟩ :: r)) :: k) .nrm tm S Q = CallK E nt 39 (xs.toList.map (E.ev tm)) d r k tm S Q := e_call d 39 xs ats r rfl
theorem call40 {nt : Nat} {k : List KI} {tm : PM AV} {S : St} {Q : PostA} (d : Option Tmp) (xs : Array Operand) (ats : Array TypeId) (r : List POp) : EndsA E nt (.c (.reg (⟨d, .call (Call.mk (.value (.func 40)) xs ats), none⟩ :: r)) :: k) .nrm tm S Q = CallK E nt 40 (xs.toList.map (E.ev tm)) d r k tm S Q := e_call d 40 xs ats r rfl
theorem call41 {nt : Nat} {k : List KI} {tm : PM AV} {S : St} {Q : PostA} (d : Option Tmp) (xs : Array Operand) (ats : Array TypeId) (r : List POp) : EndsA E nt (.c (.reg (⟨d, .call (Call.mk (.value (.func 41)) xs ats), none⟩ :: r)) :: k) .nrm tm S Q = CallK E nt 41 (xs.toList.map (E.ev tm)) d r k tm S Q := e_call d 41 xs ats r rfl
theorem call43 {nt : Nat} {k : List KI} {tm : PM AV} {S : St} {Q : PostA} (d : Option Tmp) (xs : Array Operand) (ats : Array TypeId) (r : List POp) : EndsA E nt (.c (.reg (⟨d, .call (Call.mk (.value (.func 43)) xs ats), none⟩ :: r)) :: k) .nrm tm S Q = CallK E nt 43 (xs.toList.map (E.ev tm)) d r k tm S Q := e_call d 43 xs ats r rfl
theorem call44 {nt : Nat} {k : List KI} {tm : PM AV} {S : St} {Q : PostA} (d : Option Tmp) (xs : Array Operand) (ats : Array TypeId) (r : List POp) : EndsA E nt (.c (.reg (⟨d, .call (Call.mk (.value (.func 44)) xs ats), none⟩ :: r)) :: k) .nrm tm S Q = CallK E nt 44 (xs.toList.map (E.ev tm)) d r k tm S Q := e_call d 44 xs ats r rfl
theorem call47 {nt : Nat} {k : List KI} {tm : PM AV} {S : St} {Q : PostA} (d : Option Tmp) (xs : Array Operand) (ats : Array TypeId) (r : List POp) : EndsA E nt (.c (.reg (⟨d, .call (Call.mk (.value (.func 47)) xs ats), none⟩ :: r)) :: k) .nrm tm S Q = CallK E nt 47 (xs.toList.map (E.ev tm)) d r k tm S Q := e_call d 47 xs ats r rfl
theorem call48 {nt : Nat} {k : List KI} {tm : PM AV} {S : St} {Q : PostA} (d : Option Tmp) (xs : Array Operand) (ats : Array TypeId) (r : List POp) : EndsA E nt (.c (.reg (⟨d, .call (Call.mk (.value (.func 48)) xs ats), none⟩ :: r)) :: k) .nrm tm S Q = CallK E nt 48 (xs.toList.map (E.ev tm)) d r k tm S Q := e_call d 48 xs ats r rfl
theorem call49 {nt : Nat} {k : List KI} {tm : PM AV} {S : St} {Q : PostA} (d : Option Tmp) (xs : Array Operand) (ats : Array TypeId) (r : List POp) : EndsA E nt (.c (.reg (⟨d, .call (Call.mk (.value (.func 49)) xs ats), none⟩ :: r)) :: k) .nrm tm S Q = CallK E nt 49 (xs.toList.map (E.ev tm)) d r k tm S Q := e_call d 49 xs ats r rfl
theorem call50 {nt : Nat} {k : List KI} {tm : PM AV} {S : St} {Q : PostA} (d : Option Tmp) (xs : Array Operand) (ats : Array TypeId) (r : List POp) : EndsA E nt (.c (.reg (⟨d, .call (Call.mk (.value (.func 50)) xs ats), none⟩ :: r)) :: k) .nrm tm S Q = CallK E nt 50 (xs.toList.map (E.ev tm)) d r k tm S Q := e_call d 50 xs ats r rfl
theorem call52 {nt : Nat} {k : List KI} {tm : PM AV} {S : St} {Q : PostA} (d : Option Tmp) (xs : Array Operand) (ats : Array TypeId) (r : List POp) : EndsA E nt (.c (.reg (⟨d, .call (Call.mk (.value (.func 52)) xs ats), none⟩ :: r)) :: k) .nrm tm S Q = CallK E nt 52 (xs.toList.map (E.ev tm)) d r k tm S Q := e_call d 52 xs ats r rfl
theorem call63 {nt : Nat} {k : List KI} {tm : PM AV} {S : St} {Q : PostA} (d : Option Tmp) (xs : Array Operand) (ats : Array TypeId) (r : List POp) : EndsA E nt (.c (.reg (⟨d, .call (Call.mk (.value (.func 63)) xs ats), none⟩ :: r)) :: k) .nrm tm S Q = CallK E nt 63 (xs.toList.map (E.ev tm)) d r k tm S Q := e_call d 63 xs ats r rfl
theorem call78 {nt : Nat} {k : List KI} {tm : PM AV} {S : St} {Q : PostA} (d : Option Tmp) (xs : Array Operand) (ats : Array TypeId) (r : List POp) : EndsA E nt (.c (.reg (⟨d, .call (Call.mk (.value (.func 78)) xs ats), none⟩ :: r)) :: k) .nrm tm S Q = CallK E nt 78 (xs.toList.map (E.ev tm)) d r k tm S Q := e_call d 78 xs ats r rfl
theorem call83 {nt : Nat} {k : List KI} {tm : PM AV} {S : St} {Q : PostA} (d : Option Tmp) (xs : Array Operand) (ats : Array TypeId) (r : List POp) : EndsA E nt (.c (.reg (⟨d, .call (Call.mk (.value (.func 83)) xs ats), none⟩ :: r)) :: k) .nrm tm S Q = CallK E nt 83 (xs.toList.map (E.ev tm)) d r k tm S Q := e_call d 83 xs ats r rfl
/-! hindsight/hindsightlaw16.InfoSays -/
def r5_0 : List POp := [
  ⟨some 4, .box 25 (.tmp 0), none⟩,
  ⟨some 8, .assign (.const (.bool false)), none⟩]
def r5_1 : List POp := [
  ⟨some 24, .call { callee := .value (.func 7), args := #[], argTypes := #[] }, none⟩,
  ⟨some 25, .unOp .not 4 (.tmp 24), none⟩]
def r5_2 : List POp := [
  ⟨some 8, .assign (.const (.bool false)), none⟩]
def r5_3 : List POp := [
  ⟨some 26, .load 25 (.tmp 4), none⟩,
  ⟨some 27, .call { callee := .value (.func 8), args := #[(.tmp 26)], argTypes := #[25] }, none⟩,
  ⟨some 28, .move (.tmp 27), none⟩,
  ⟨some 29, .move (.tmp 1), some (28, false)⟩,
  ⟨some 30, .call { callee := .builtin .len, args := #[(.tmp 29)], argTypes := #[28] }, some (28, false)⟩,
  ⟨some 31, .binOp .gtr 3 (.tmp 30) (.const (.int .i64 600)) 3, some (28, false)⟩,
  ⟨some 32, .pick (.tmp 28) (.const (.bool true)) (.tmp 31), none⟩]
def r5_4 : List POp := [
  ⟨some 8, .assign (.const (.bool true)), none⟩]
def r5_5 : List POp := [
  ⟨some 33, .load 25 (.tmp 4), none⟩,
  ⟨some 34, .call { callee := .value (.func 13), args := #[(.tmp 33)], argTypes := #[25] }, none⟩,
  ⟨some 9, .alloc 37, none⟩,
  ⟨none, .store 37 (.tmp 9) (.tmp 34), none⟩]
def r5_6 : List POp := [
  ⟨some 36, .move (.tmp 1), none⟩,
  ⟨some 37, .call { callee := .value (.func 11), args := #[(.tmp 36)], argTypes := #[28] }, none⟩,
  ⟨some 35, .move (.tmp 37), none⟩,
  ⟨some 38, .extract (.tmp 35) 0, none⟩,
  ⟨some 39, .extract (.tmp 35) 1, none⟩,
  ⟨some 10, .alloc 25, none⟩,
  ⟨none, .store 25 (.tmp 10) (.tmp 38), none⟩,
  ⟨some 11, .assign (.tmp 39), none⟩]
def r5_7 : List POp := [
  ⟨some 41, .move (.tmp 1), none⟩,
  ⟨some 42, .call { callee := .value (.func 14), args := #[(.tmp 41)], argTypes := #[28] }, none⟩,
  ⟨some 40, .move (.tmp 42), none⟩,
  ⟨some 43, .extract (.tmp 40) 0, none⟩,
  ⟨some 44, .extract (.tmp 40) 1, none⟩,
  ⟨some 12, .alloc 37, none⟩,
  ⟨none, .store 37 (.tmp 12) (.tmp 43), none⟩,
  ⟨some 13, .assign (.tmp 44), none⟩]
def r5_8 : List POp := [
  ⟨some 45, .load 25 (.tmp 4), none⟩,
  ⟨some 46, .call { callee := .value (.func 9), args := #[(.tmp 45)], argTypes := #[25] }, none⟩,
  ⟨some 47, .load 37 (.tmp 9), none⟩,
  ⟨some 48, .call { callee := .value (.func 15), args := #[(.tmp 47)], argTypes := #[37] }, none⟩,
  ⟨some 49, .binOp .neq 4 (.tmp 46) (.tmp 48) 4, none⟩,
  ⟨some 50, .move (.tmp 49), none⟩,
  ⟨some 51, .load 25 (.tmp 4), some (50, false)⟩,
  ⟨some 52, .call { callee := .value (.func 10), args := #[(.tmp 51)], argTypes := #[25] }, some (50, false)⟩,
  ⟨some 53, .convert 28 9 (.tmp 52), some (50, false)⟩,
  ⟨some 54, .load 37 (.tmp 9), some (50, false)⟩,
  ⟨some 55, .call { callee := .value (.func 16), args := #[(.tmp 54)], argTypes := #[37] }, some (50, false)⟩,
  ⟨some 56, .convert 28 9 (.tmp 55), some (50, false)⟩,
  ⟨some 57, .binOp .neq 9 (.tmp 53) (.tmp 56) 9, some (50, false)⟩,
  ⟨some 58, .pick (.tmp 50) (.const (.bool true)) (.tmp 57), none⟩,
  ⟨some 59, .move (.tmp 58), none⟩,
  ⟨some 60, .move (.tmp 11), some (59, false)⟩,
  ⟨some 61, .binOp .eql 30 (.tmp 60) (.const (.int .i64 0)) 30, some (59, false)⟩,
  ⟨some 62, .move (.tmp 13), some (59, false)⟩,
  ⟨some 63, .binOp .neq 4 (.tmp 61) (.tmp 62) 4, some (59, false)⟩,
  ⟨some 64, .pick (.tmp 59) (.const (.bool true)) (.tmp 63), none⟩,
  ⟨some 65, .move (.tmp 64), none⟩,
  ⟨some 66, .move (.tmp 13), some (65, false)⟩,
  ⟨some 67, .unOp .not 4 (.tmp 66), some (65, false)⟩,
  ⟨some 68, .move (.tmp 67), some (65, false)⟩,
  ⟨some 69, .move (.tmp 11), some (68, true)⟩,
  ⟨some 70, .binOp .neq 30 (.tmp 69) (.const (.int .i64 3)) 30, some (68, true)⟩,
  ⟨some 71, .pick (.tmp 68) (.tmp 70) (.const (.bool false)), some (65, false)⟩,
  ⟨some 72, .pick (.tmp 65) (.const (.bool true)) (.tmp 71), none⟩,
  ⟨some 73, .move (.tmp 72), none⟩,
  ⟨some 74, .load 25 (.tmp 10), some (73, false)⟩,
  ⟨some 75, .call { callee := .value (.func 13), args := #[(.tmp 74)], argTypes := #[25] }, some (73, false)⟩,
  ⟨some 76, .load 37 (.tmp 12), some (73, false)⟩]
def r5_9 : List POp := [
  ⟨some 77, .call { callee := .value (.func 12), args := #[(.tmp 75), (.tmp 76)], argTypes := #[37, 37] }, some (73, false)⟩,
  ⟨some 78, .unOp .not 4 (.tmp 77), some (73, false)⟩,
  ⟨some 79, .pick (.tmp 73) (.const (.bool true)) (.tmp 78), none⟩]
noncomputable def d5_0 : Array Oper := match Try.f5.body.map (comp E Try.f5.ntmps) with | some p => p.draws.getD 0 #[] | none => #[]
theorem draw5_0 : DrawC E 245 d5_0 35 32 r5_8 r5_9 [(.tmp 9), (.tmp 52), (.tmp 9), (.tmp 12)] := ⟨by kernel_rfl, by decide, by kernel_rfl, by kernel_rfl, by kernel_rfl, by kernel_rfl, by kernel_rfl⟩
def r5_10 : List POp := [
  ⟨some 8, .assign (.const (.bool false)), none⟩]
def r5_11 : List POp := [
  ⟨some 80, .load 25 (.tmp 4), none⟩,
  ⟨some 81, .call { callee := .value (.func 9), args := #[(.tmp 80)], argTypes := #[25] }, none⟩,
  ⟨some 82, .unOp .not 4 (.tmp 81), none⟩]
def r5_12 : List POp := [
  ⟨some 8, .assign (.const (.bool true)), none⟩]
def r5_13 : List POp := [
  ⟨some 84, .load 25 (.tmp 4), none⟩,
  ⟨some 85, .move (.tmp 2), none⟩,
  ⟨some 86, .call { callee := .value (.func 17), args := #[(.tmp 84), (.tmp 85)], argTypes := #[25, 3] }, none⟩,
  ⟨some 83, .move (.tmp 86), none⟩,
  ⟨some 87, .extract (.tmp 83) 0, none⟩,
  ⟨some 88, .extract (.tmp 83) 1, none⟩,
  ⟨some 14, .alloc 41, none⟩,
  ⟨none, .store 41 (.tmp 14) (.tmp 87), none⟩,
  ⟨some 15, .assign (.tmp 88), none⟩]
def r5_14 : List POp := [
  ⟨some 90, .load 37 (.tmp 9), none⟩,
  ⟨some 91, .move (.tmp 2), none⟩,
  ⟨some 92, .call { callee := .value (.func 18), args := #[(.tmp 90), (.tmp 91)], argTypes := #[37, 3] }, none⟩,
  ⟨some 89, .move (.tmp 92), none⟩,
  ⟨some 93, .extract (.tmp 89) 0, none⟩,
  ⟨some 94, .extract (.tmp 89) 1, none⟩,
  ⟨some 16, .alloc 51, none⟩,
  ⟨none, .store 51 (.tmp 16) (.tmp 93), none⟩,
  ⟨some 17, .assign (.tmp 94), none⟩]
def r5_15 : List POp := [
  ⟨some 95, .move (.tmp 15), none⟩,
  ⟨some 96, .move (.tmp 17), none⟩,
  ⟨some 97, .binOp .neq 4 (.tmp 95) (.tmp 96) 4, none⟩,
  ⟨some 98, .move (.tmp 97), none⟩,
  ⟨some 99, .fieldAddr 41 (.tmp 14) 0, some (98, false)⟩,
  ⟨some 100, .load 3 (.tmp 99), some (98, false)⟩,
  ⟨some 101, .fieldAddr 51 (.tmp 16) 0, some (98, false)⟩,
  ⟨some 102, .load 3 (.tmp 101), some (98, false)⟩,
  ⟨some 103, .binOp .neq 3 (.tmp 100) (.tmp 102) 3, some (98, false)⟩,
  ⟨some 104, .pick (.tmp 98) (.const (.bool true)) (.tmp 103), none⟩,
  ⟨some 105, .move (.tmp 104), none⟩,
  ⟨some 106, .fieldAddr 41 (.tmp 14) 1, some (105, false)⟩,
  ⟨some 107, .load 3 (.tmp 106), some (105, false)⟩,
  ⟨some 108, .fieldAddr 51 (.tmp 16) 1, some (105, false)⟩,
  ⟨some 109, .load 3 (.tmp 108), some (105, false)⟩,
  ⟨some 110, .binOp .neq 3 (.tmp 107) (.tmp 109) 3, some (105, false)⟩,
  ⟨some 111, .pick (.tmp 105) (.const (.bool true)) (.tmp 110), none⟩,
  ⟨some 112, .move (.tmp 111), none⟩,
  ⟨some 113, .fieldAddr 41 (.tmp 14) 2, some (112, false)⟩,
  ⟨some 114, .load 3 (.tmp 113), some (112, false)⟩,
  ⟨some 115, .fieldAddr 51 (.tmp 16) 2, some (112, false)⟩,
  ⟨some 116, .load 3 (.tmp 115), some (112, false)⟩,
  ⟨some 117, .binOp .neq 3 (.tmp 114) (.tmp 116) 3, some (112, false)⟩,
  ⟨some 118, .pick (.tmp 112) (.const (.bool true)) (.tmp 117), none⟩,
  ⟨some 119, .move (.tmp 118), none⟩,
  ⟨some 120, .fieldAddr 41 (.tmp 14) 3, some (119, false)⟩,
  ⟨some 121, .load 3 (.tmp 120), some (119, false)⟩,
  ⟨some 122, .fieldAddr 51 (.tmp 16) 3, some (119, false)⟩,
  ⟨some 123, .load 3 (.tmp 122), some (119, false)⟩,
  ⟨some 124, .binOp .neq 3 (.tmp 121) (.tmp 123) 3, some (119, false)⟩,
  ⟨some 125, .pick (.tmp 119) (.const (.bool true)) (.tmp 124), none⟩]
def r5_16 : List POp := [
  ⟨some 8, .assign (.const (.bool false)), none⟩]
def r5_17 : List POp := [
  ⟨some 126, .load 25 (.tmp 4), none⟩,
  ⟨some 127, .move (.tmp 2), none⟩,
  ⟨some 128, .call { callee := .value (.func 19), args := #[(.tmp 126), (.tmp 127)], argTypes := #[25, 3] }, none⟩,
  ⟨some 129, .load 37 (.tmp 9), none⟩]
def r5_18 : List POp := [
  ⟨some 130, .move (.tmp 2), none⟩,
  ⟨some 131, .call { callee := .value (.func 20), args := #[(.tmp 129), (.tmp 130)], argTypes := #[37, 3] }, none⟩,
  ⟨some 18, .assign (.tmp 128), none⟩,
  ⟨some 19, .assign (.tmp 131), none⟩]
noncomputable def d5_1 : Array Oper := match Try.f5.body.map (comp E Try.f5.ntmps) with | some p => p.draws.getD 1 #[] | none => #[]
theorem draw5_1 : DrawC E 245 d5_1 8 4 r5_17 r5_18 [(.tmp 9)] := ⟨by kernel_rfl, by decide, by kernel_rfl, by kernel_rfl, by kernel_rfl, by kernel_rfl, by kernel_rfl⟩
def r5_19 : List POp := [
  ⟨some 132, .move (.tmp 18), none⟩,
  ⟨some 133, .call { callee := .builtin .len, args := #[(.tmp 132)], argTypes := #[23] }, none⟩,
  ⟨some 134, .move (.tmp 19), none⟩,
  ⟨some 135, .call { callee := .builtin .len, args := #[(.tmp 134)], argTypes := #[35] }, none⟩,
  ⟨some 136, .binOp .neq 3 (.tmp 133) (.tmp 135) 3, none⟩]
def r5_20 : List POp := [
  ⟨some 8, .assign (.const (.bool false)), none⟩]
def r5_21 : List POp := [
  ⟨some 20, .assign (.const (.int .i64 0)), none⟩]
def r5_22 : List POp := [
  ⟨some 137, .move (.tmp 20), none⟩,
  ⟨some 138, .move (.tmp 18), none⟩,
  ⟨some 139, .call { callee := .builtin .len, args := #[(.tmp 138)], argTypes := #[23] }, none⟩,
  ⟨some 140, .binOp .lss 3 (.tmp 137) (.tmp 139) 3, none⟩]
def r5_23 : List POp := [
  ⟨some 143, .move (.tmp 18), none⟩,
  ⟨some 144, .move (.tmp 20), none⟩,
  ⟨some 145, .indexAddr 23 (.tmp 143) (.tmp 144), none⟩,
  ⟨some 146, .fieldAddr 43 (.tmp 145) 2, none⟩,
  ⟨some 147, .load 9 (.tmp 146), none⟩,
  ⟨some 148, .move (.tmp 19), none⟩,
  ⟨some 149, .move (.tmp 20), none⟩,
  ⟨some 150, .indexAddr 35 (.tmp 148) (.tmp 149), none⟩,
  ⟨some 151, .fieldAddr 56 (.tmp 150) 2, none⟩,
  ⟨some 152, .load 9 (.tmp 151), none⟩,
  ⟨some 153, .binOp .neq 9 (.tmp 147) (.tmp 152) 9, none⟩,
  ⟨some 154, .move (.tmp 153), none⟩,
  ⟨some 155, .move (.tmp 18), some (154, false)⟩,
  ⟨some 156, .move (.tmp 20), some (154, false)⟩,
  ⟨some 157, .indexAddr 23 (.tmp 155) (.tmp 156), some (154, false)⟩,
  ⟨some 158, .fieldAddr 43 (.tmp 157) 3, some (154, false)⟩,
  ⟨some 159, .load 3 (.tmp 158), some (154, false)⟩,
  ⟨some 160, .move (.tmp 19), some (154, false)⟩,
  ⟨some 161, .move (.tmp 20), some (154, false)⟩,
  ⟨some 162, .indexAddr 35 (.tmp 160) (.tmp 161), some (154, false)⟩,
  ⟨some 163, .fieldAddr 56 (.tmp 162) 3, some (154, false)⟩,
  ⟨some 164, .load 3 (.tmp 163), some (154, false)⟩,
  ⟨some 165, .binOp .neq 3 (.tmp 159) (.tmp 164) 3, some (154, false)⟩,
  ⟨some 166, .pick (.tmp 154) (.const (.bool true)) (.tmp 165), none⟩,
  ⟨some 167, .move (.tmp 166), none⟩,
  ⟨some 168, .move (.tmp 18), some (167, false)⟩,
  ⟨some 169, .move (.tmp 20), some (167, false)⟩,
  ⟨some 170, .indexAddr 23 (.tmp 168) (.tmp 169), some (167, false)⟩,
  ⟨some 171, .fieldAddr 43 (.tmp 170) 4, some (167, false)⟩,
  ⟨some 172, .load 3 (.tmp 171), some (167, false)⟩,
  ⟨some 173, .move (.tmp 19), some (167, false)⟩,
  ⟨some 174, .move (.tmp 20), some (167, false)⟩,
  ⟨some 175, .indexAddr 35 (.tmp 173) (.tmp 174), some (167, false)⟩,
  ⟨some 176, .fieldAddr 56 (.tmp 175) 4, some (167, false)⟩,
  ⟨some 177, .load 3 (.tmp 176), some (167, false)⟩,
  ⟨some 178, .binOp .neq 3 (.tmp 172) (.tmp 177) 3, some (167, false)⟩,
  ⟨some 179, .pick (.tmp 167) (.const (.bool true)) (.tmp 178), none⟩,
  ⟨some 180, .move (.tmp 179), none⟩,
  ⟨some 181, .move (.tmp 18), some (180, false)⟩,
  ⟨some 182, .move (.tmp 20), some (180, false)⟩,
  ⟨some 183, .indexAddr 23 (.tmp 181) (.tmp 182), some (180, false)⟩,
  ⟨some 184, .fieldAddr 43 (.tmp 183) 0, some (180, false)⟩,
  ⟨some 185, .load 3 (.tmp 184), some (180, false)⟩,
  ⟨some 186, .move (.tmp 19), some (180, false)⟩,
  ⟨some 187, .move (.tmp 20), some (180, false)⟩,
  ⟨some 188, .indexAddr 35 (.tmp 186) (.tmp 187), some (180, false)⟩,
  ⟨some 189, .fieldAddr 56 (.tmp 188) 0, some (180, false)⟩,
  ⟨some 190, .load 3 (.tmp 189), some (180, false)⟩,
  ⟨some 191, .binOp .neq 3 (.tmp 185) (.tmp 190) 3, some (180, false)⟩,
  ⟨some 192, .pick (.tmp 180) (.const (.bool true)) (.tmp 191), none⟩,
  ⟨some 193, .move (.tmp 192), none⟩,
  ⟨some 194, .move (.tmp 18), some (193, false)⟩,
  ⟨some 195, .move (.tmp 20), some (193, false)⟩,
  ⟨some 196, .indexAddr 23 (.tmp 194) (.tmp 195), some (193, false)⟩,
  ⟨some 197, .fieldAddr 43 (.tmp 196) 1, some (193, false)⟩,
  ⟨some 198, .load 3 (.tmp 197), some (193, false)⟩,
  ⟨some 199, .move (.tmp 19), some (193, false)⟩,
  ⟨some 200, .move (.tmp 20), some (193, false)⟩,
  ⟨some 201, .indexAddr 35 (.tmp 199) (.tmp 200), some (193, false)⟩,
  ⟨some 202, .fieldAddr 56 (.tmp 201) 1, some (193, false)⟩,
  ⟨some 203, .load 3 (.tmp 202), some (193, false)⟩,
  ⟨some 204, .binOp .neq 3 (.tmp 198) (.tmp 203) 3, some (193, false)⟩,
  ⟨some 205, .pick (.tmp 193) (.const (.bool true)) (.tmp 204), none⟩,
  ⟨some 206, .move (.tmp 205), none⟩,
  ⟨some 207, .move (.tmp 18), some (206, false)⟩,
  ⟨some 208, .move (.tmp 20), some (206, false)⟩,
  ⟨some 209, .indexAddr 23 (.tmp 207) (.tmp 208), some (206, false)⟩,
  ⟨some 210, .fieldAddr 43 (.tmp 209) 5, some (206, false)⟩,
  ⟨some 211, .load 9 (.tmp 210), some (206, false)⟩,
  ⟨some 212, .move (.tmp 19), some (206, false)⟩,
  ⟨some 213, .move (.tmp 20), some (206, false)⟩,
  ⟨some 214, .indexAddr 35 (.tmp 212) (.tmp 213), some (206, false)⟩,
  ⟨some 215, .fieldAddr 56 (.tmp 214) 5, some (206, false)⟩,
  ⟨some 216, .load 9 (.tmp 215), some (206, false)⟩,
  ⟨some 217, .binOp .neq 9 (.tmp 211) (.tmp 216) 9, some (206, false)⟩,
  ⟨some 218, .pick (.tmp 206) (.const (.bool true)) (.tmp 217), none⟩]
def r5_24 : List POp := [
  ⟨some 8, .assign (.const (.bool false)), none⟩]
def r5_25 : List POp := [
  ⟨some 141, .move (.tmp 20), none⟩,
  ⟨some 142, .binOp .add 3 (.tmp 141) (.const (.int .i64 1)) 3, none⟩,
  ⟨some 20, .assign (.tmp 142), none⟩]
noncomputable def b5_26 : PC := (.seq (.seq (.reg r5_22) (.cond (.tmp 140) .skip (.exit 0))) (.seq (.block 1 (.seq (.regD 76 r5_23) (.cond (.tmp 218) (.seq (.reg r5_24) .ret) .skip))) (.reg r5_25)))
def r5_27 : List POp := [
  ⟨some 219, .load 25 (.tmp 4), none⟩,
  ⟨some 220, .move (.tmp 3), none⟩,
  ⟨some 221, .call { callee := .value (.func 21), args := #[(.tmp 219), (.tmp 220)], argTypes := #[25, 3] }, none⟩,
  ⟨some 222, .load 37 (.tmp 9), none⟩]
def r5_28 : List POp := [
  ⟨some 223, .move (.tmp 3), none⟩,
  ⟨some 224, .call { callee := .value (.func 22), args := #[(.tmp 222), (.tmp 223)], argTypes := #[37, 3] }, none⟩,
  ⟨some 21, .assign (.tmp 221), none⟩,
  ⟨some 22, .assign (.tmp 224), none⟩]
noncomputable def d5_2 : Array Oper := match Try.f5.body.map (comp E Try.f5.ntmps) with | some p => p.draws.getD 2 #[] | none => #[]
theorem draw5_2 : DrawC E 245 d5_2 8 4 r5_27 r5_28 [(.tmp 9)] := ⟨by kernel_rfl, by decide, by kernel_rfl, by kernel_rfl, by kernel_rfl, by kernel_rfl, by kernel_rfl⟩
def r5_29 : List POp := [
  ⟨some 225, .move (.tmp 21), none⟩,
  ⟨some 226, .call { callee := .builtin .len, args := #[(.tmp 225)], argTypes := #[57] }, none⟩,
  ⟨some 227, .move (.tmp 22), none⟩,
  ⟨some 228, .call { callee := .builtin .len, args := #[(.tmp 227)], argTypes := #[57] }, none⟩,
  ⟨some 229, .binOp .neq 3 (.tmp 226) (.tmp 228) 3, none⟩]
def r5_30 : List POp := [
  ⟨some 8, .assign (.const (.bool false)), none⟩]
def r5_31 : List POp := [
  ⟨some 23, .assign (.const (.int .i64 0)), none⟩]
def r5_32 : List POp := [
  ⟨some 230, .move (.tmp 23), none⟩,
  ⟨some 231, .move (.tmp 21), none⟩,
  ⟨some 232, .call { callee := .builtin .len, args := #[(.tmp 231)], argTypes := #[57] }, none⟩,
  ⟨some 233, .binOp .lss 3 (.tmp 230) (.tmp 232) 3, none⟩]
def r5_33 : List POp := [
  ⟨some 236, .move (.tmp 21), none⟩,
  ⟨some 237, .move (.tmp 23), none⟩,
  ⟨some 238, .indexAddr 57 (.tmp 236) (.tmp 237), none⟩,
  ⟨some 239, .load 3 (.tmp 238), none⟩,
  ⟨some 240, .move (.tmp 22), none⟩,
  ⟨some 241, .move (.tmp 23), none⟩,
  ⟨some 242, .indexAddr 57 (.tmp 240) (.tmp 241), none⟩,
  ⟨some 243, .load 3 (.tmp 242), none⟩,
  ⟨some 244, .binOp .neq 3 (.tmp 239) (.tmp 243) 3, none⟩]
def r5_34 : List POp := [
  ⟨some 8, .assign (.const (.bool false)), none⟩]
def r5_35 : List POp := [
  ⟨some 234, .move (.tmp 23), none⟩,
  ⟨some 235, .binOp .add 3 (.tmp 234) (.const (.int .i64 1)) 3, none⟩,
  ⟨some 23, .assign (.tmp 235), none⟩]
noncomputable def b5_36 : PC := (.seq (.seq (.reg r5_32) (.cond (.tmp 233) .skip (.exit 2))) (.seq (.block 3 (.seq (.regD 9 r5_33) (.cond (.tmp 244) (.seq (.reg r5_34) .ret) .skip))) (.reg r5_35)))
def r5_37 : List POp := [
  ⟨some 8, .assign (.const (.bool true)), none⟩]
noncomputable def p5 : PC := (.seq (.reg r5_0) (.seq (.seq (.reg r5_1) (.cond (.tmp 25) (.seq (.reg r5_2) .ret) .skip)) (.seq (.seq (.reg r5_3) (.cond (.tmp 32) (.seq (.reg r5_4) .ret) .skip)) (.seq (.reg r5_5) (.seq (.reg r5_6) (.seq (.reg r5_7) (.seq (.seq (.draw d5_0) (.cond (.tmp 79) (.seq (.reg r5_10) .ret) .skip)) (.seq (.seq (.reg r5_11) (.cond (.tmp 82) (.seq (.reg r5_12) .ret) .skip)) (.seq (.reg r5_13) (.seq (.reg r5_14) (.seq (.seq (.reg r5_15) (.cond (.tmp 125) (.seq (.reg r5_16) .ret) .skip)) (.seq (.draw d5_1) (.seq (.seq (.reg r5_19) (.cond (.tmp 136) (.seq (.reg r5_20) .ret) .skip)) (.seq (.seq (.reg r5_21) (.block 0 (.loop b5_26))) (.seq (.draw d5_2) (.seq (.seq (.reg r5_29) (.cond (.tmp 229) (.seq (.reg r5_30) .ret) .skip)) (.seq (.seq (.reg r5_31) (.block 2 (.loop b5_36))) (.seq (.reg r5_37) .ret))))))))))))))))))
theorem comp5 : (Try.f5.body.map (comp E Try.f5.ntmps)) = some p5 := by kernel_rfl
theorem ev5 {args : List AV} {S : St} {P : AV → St → Prop} (hn : Nat.ble args.length 245 = true) (h : EndsA E 245 [.c p5] .nrm (initTm 0 args .leaf) S (RetQ E [.tmp 8] P)) : ∃ r S', EvA E 5 args S r S' ∧ P r S' := ev_ends (fn := Try.f5) (by kernel_rfl) rfl comp5 (by kernel_rfl) (by kernel_rfl) hn h
/-! hindsight/hindsightlaw16.heavy -/
def r8_0 : List POp := [
  ⟨some 1, .box 25 (.tmp 0), none⟩,
  ⟨some 2, .assign (.const (.bool false)), none⟩]
def r8_1 : List POp := [
  ⟨some 4, .fieldAddr 25 (.tmp 1) 0, none⟩,
  ⟨some 5, .load 22 (.tmp 4), none⟩,
  ⟨some 6, .call { callee := .builtin .len, args := #[(.tmp 5)], argTypes := #[22] }, none⟩,
  ⟨some 7, .binOp .gtr 3 (.tmp 6) (.const (.int .i64 40)) 3, none⟩,
  ⟨some 8, .move (.tmp 7), none⟩,
  ⟨some 9, .fieldAddr 25 (.tmp 1) 1, some (8, false)⟩,
  ⟨some 10, .load 23 (.tmp 9), some (8, false)⟩,
  ⟨some 11, .call { callee := .builtin .len, args := #[(.tmp 10)], argTypes := #[23] }, some (8, false)⟩,
  ⟨some 12, .binOp .gtr 3 (.tmp 11) (.const (.int .i64 40)) 3, some (8, false)⟩,
  ⟨some 13, .pick (.tmp 8) (.const (.bool true)) (.tmp 12), none⟩]
def r8_2 : List POp := [
  ⟨some 2, .assign (.const (.bool true)), none⟩]
def r8_3 : List POp := [
  ⟨some 3, .assign (.const (.int .i64 0)), none⟩]
def r8_4 : List POp := [
  ⟨some 14, .move (.tmp 3), none⟩,
  ⟨some 15, .fieldAddr 25 (.tmp 1) 1, none⟩,
  ⟨some 16, .load 23 (.tmp 15), none⟩,
  ⟨some 17, .call { callee := .builtin .len, args := #[(.tmp 16)], argTypes := #[23] }, none⟩,
  ⟨some 18, .binOp .lss 3 (.tmp 14) (.tmp 17) 3, none⟩]
def r8_5 : List POp := [
  ⟨some 21, .fieldAddr 25 (.tmp 1) 1, none⟩,
  ⟨some 22, .load 23 (.tmp 21), none⟩,
  ⟨some 23, .move (.tmp 3), none⟩,
  ⟨some 24, .indexAddr 23 (.tmp 22) (.tmp 23), none⟩,
  ⟨some 25, .fieldAddr 43 (.tmp 24) 2, none⟩,
  ⟨some 26, .load 9 (.tmp 25), none⟩,
  ⟨some 27, .call { callee := .builtin .len, args := #[(.tmp 26)], argTypes := #[9] }, none⟩,
  ⟨some 28, .binOp .gtr 3 (.tmp 27) (.const (.int .i64 250)) 3, none⟩,
  ⟨some 29, .move (.tmp 28), none⟩,
  ⟨some 30, .fieldAddr 25 (.tmp 1) 1, some (29, false)⟩,
  ⟨some 31, .load 23 (.tmp 30), some (29, false)⟩,
  ⟨some 32, .move (.tmp 3), some (29, false)⟩,
  ⟨some 33, .indexAddr 23 (.tmp 31) (.tmp 32), some (29, false)⟩,
  ⟨some 34, .fieldAddr 43 (.tmp 33) 5, some (29, false)⟩,
  ⟨some 35, .load 9 (.tmp 34), some (29, false)⟩,
  ⟨some 36, .call { callee := .builtin .len, args := #[(.tmp 35)], argTypes := #[9] }, some (29, false)⟩,
  ⟨some 37, .binOp .gtr 3 (.tmp 36) (.const (.int .i64 300)) 3, some (29, false)⟩,
  ⟨some 38, .pick (.tmp 29) (.const (.bool true)) (.tmp 37), none⟩]
def r8_6 : List POp := [
  ⟨some 2, .assign (.const (.bool true)), none⟩]
def r8_7 : List POp := [
  ⟨some 19, .move (.tmp 3), none⟩,
  ⟨some 20, .binOp .add 3 (.tmp 19) (.const (.int .i64 1)) 3, none⟩,
  ⟨some 3, .assign (.tmp 20), none⟩]
noncomputable def b8_8 : PC := (.seq (.seq (.reg r8_4) (.cond (.tmp 18) .skip (.exit 0))) (.seq (.block 1 (.seq (.reg r8_5) (.cond (.tmp 38) (.seq (.reg r8_6) .ret) .skip))) (.reg r8_7)))
def r8_9 : List POp := [
  ⟨some 2, .assign (.const (.bool false)), none⟩]
noncomputable def p8 : PC := (.seq (.reg r8_0) (.seq (.seq (.reg r8_1) (.cond (.tmp 13) (.seq (.reg r8_2) .ret) .skip)) (.seq (.seq (.reg r8_3) (.block 0 (.loop b8_8))) (.seq (.reg r8_9) .ret))))
theorem comp8 : (Try.f8.body.map (comp E Try.f8.ntmps)) = some p8 := by kernel_rfl
theorem ev8 {args : List AV} {S : St} {P : AV → St → Prop} (hn : Nat.ble args.length 39 = true) (h : EndsA E 39 [.c p8] .nrm (initTm 0 args .leaf) S (RetQ E [.tmp 2] P)) : ∃ r S', EvA E 8 args S r S' ∧ P r S' := ev_ends (fn := Try.f8) (by kernel_rfl) rfl comp8 (by kernel_rfl) (by kernel_rfl) hn h
/-! hindsight/info.Good -/
def r9_0 : List POp := [
  ⟨some 1, .box 25 (.tmp 0), none⟩,
  ⟨some 2, .assign (.const (.bool false)), none⟩]
def r9_1 : List POp := [
  ⟨some 6, .fieldAddr 25 (.tmp 1) 0, none⟩,
  ⟨some 7, .load 22 (.tmp 6), none⟩,
  ⟨some 8, .call { callee := .value (.func 24), args := #[(.tmp 7)], argTypes := #[22] }, none⟩,
  ⟨some 9, .unOp .not 4 (.tmp 8), none⟩,
  ⟨some 10, .move (.tmp 9), none⟩,
  ⟨some 11, .fieldAddr 25 (.tmp 1) 1, some (10, false)⟩,
  ⟨some 12, .load 23 (.tmp 11), some (10, false)⟩,
  ⟨some 13, .call { callee := .builtin .len, args := #[(.tmp 12)], argTypes := #[23] }, some (10, false)⟩,
  ⟨some 14, .binOp .gtr 3 (.tmp 13) (.const (.int .i64 10000)) 3, some (10, false)⟩,
  ⟨some 15, .pick (.tmp 10) (.const (.bool true)) (.tmp 14), none⟩]
def r9_2 : List POp := [
  ⟨some 2, .assign (.const (.bool false)), none⟩]
def r9_3 : List POp := [
  ⟨some 16, .fieldAddr 25 (.tmp 1) 1, none⟩,
  ⟨some 17, .load 23 (.tmp 16), none⟩,
  ⟨some 18, .call { callee := .value (.func 25), args := #[(.tmp 17)], argTypes := #[23] }, none⟩,
  ⟨some 3, .assign (.tmp 18), none⟩]
def r9_4 : List POp := [
  ⟨some 19, .move (.tmp 3), none⟩,
  ⟨some 20, .call { callee := .value (.func 26), args := #[(.tmp 19), (.func 27)], argTypes := #[23, 69] }, none⟩]
def r9_5 : List POp := [
  ⟨some 21, .move (.tmp 3), none⟩,
  ⟨some 22, .call { callee := .builtin .len, args := #[(.tmp 21)], argTypes := #[23] }, none⟩,
  ⟨some 23, .move (.const (.int .i64 0)), none⟩]
def r9_6 : List POp := [
  ⟨some 24, .binOp .lss 3 (.tmp 23) (.tmp 22) 3, none⟩]
def r9_7 : List POp := [
  ⟨some 25, .move (.tmp 23), none⟩,
  ⟨some 26, .indexAddr 23 (.tmp 21) (.tmp 23), none⟩,
  ⟨some 27, .load 43 (.tmp 26), none⟩,
  ⟨some 5, .alloc 43, none⟩,
  ⟨some 4, .assign (.tmp 25), none⟩,
  ⟨none, .store 43 (.tmp 5) (.tmp 27), none⟩]
def r9_8 : List POp := [
  ⟨some 28, .load 43 (.tmp 5), none⟩,
  ⟨some 29, .call { callee := .value (.func 31), args := #[(.tmp 28)], argTypes := #[43] }, none⟩,
  ⟨some 30, .unOp .not 4 (.tmp 29), none⟩,
  ⟨some 31, .move (.tmp 30), none⟩,
  ⟨some 32, .move (.tmp 4), some (31, false)⟩,
  ⟨some 33, .binOp .gtr 3 (.tmp 32) (.const (.int .i64 0)) 3, some (31, false)⟩,
  ⟨some 34, .move (.tmp 33), some (31, false)⟩,
  ⟨some 35, .move (.tmp 3), some (34, true)⟩,
  ⟨some 36, .move (.tmp 4), some (34, true)⟩,
  ⟨some 37, .binOp .sub 3 (.tmp 36) (.const (.int .i64 1)) 3, some (34, true)⟩,
  ⟨some 38, .indexAddr 23 (.tmp 35) (.tmp 37), some (34, true)⟩,
  ⟨some 39, .fieldAddr 43 (.tmp 38) 2, some (34, true)⟩,
  ⟨some 40, .load 9 (.tmp 39), some (34, true)⟩,
  ⟨some 41, .fieldAddr 43 (.tmp 5) 2, some (34, true)⟩,
  ⟨some 42, .load 9 (.tmp 41), some (34, true)⟩,
  ⟨some 43, .binOp .eql 9 (.tmp 40) (.tmp 42) 9, some (34, true)⟩,
  ⟨some 44, .pick (.tmp 34) (.tmp 43) (.const (.bool false)), some (31, false)⟩,
  ⟨some 45, .move (.tmp 44), some (31, false)⟩,
  ⟨some 46, .move (.tmp 3), some (45, true)⟩,
  ⟨some 47, .move (.tmp 4), some (45, true)⟩,
  ⟨some 48, .binOp .sub 3 (.tmp 47) (.const (.int .i64 1)) 3, some (45, true)⟩,
  ⟨some 49, .indexAddr 23 (.tmp 46) (.tmp 48), some (45, true)⟩,
  ⟨some 50, .fieldAddr 43 (.tmp 49) 1, some (45, true)⟩,
  ⟨some 51, .load 3 (.tmp 50), some (45, true)⟩,
  ⟨some 52, .fieldAddr 43 (.tmp 5) 0, some (45, true)⟩,
  ⟨some 53, .load 3 (.tmp 52), some (45, true)⟩,
  ⟨some 54, .binOp .gtr 3 (.tmp 51) (.tmp 53) 3, some (45, true)⟩,
  ⟨some 55, .pick (.tmp 45) (.tmp 54) (.const (.bool false)), some (31, false)⟩,
  ⟨some 56, .pick (.tmp 31) (.const (.bool true)) (.tmp 55), none⟩]
def r9_9 : List POp := [
  ⟨some 2, .assign (.const (.bool false)), none⟩]
def r9_10 : List POp := [
  ⟨some 57, .binOp .add 3 (.tmp 23) (.const (.int .i64 1)) 3, none⟩,
  ⟨some 23, .move (.tmp 57), none⟩]
noncomputable def b9_11 : PC := (.seq (.reg r9_6) (.seq (.cond (.tmp 24) .skip (.exit 0)) (.seq (.block 1 (.seq (.reg r9_7) (.seq (.regD 29 r9_8) (.cond (.tmp 56) (.seq (.reg r9_9) .ret) .skip)))) (.reg r9_10))))
def r9_12 : List POp := [
  ⟨some 2, .assign (.const (.bool true)), none⟩]
noncomputable def p9 : PC := (.seq (.reg r9_0) (.seq (.seq (.reg r9_1) (.cond (.tmp 15) (.seq (.reg r9_2) .ret) .skip)) (.seq (.reg r9_3) (.seq (.reg r9_4) (.seq (.seq (.reg r9_5) (.block 0 (.loop b9_11))) (.seq (.reg r9_12) .ret))))))
theorem comp9 : (Try.f9.body.map (comp E Try.f9.ntmps)) = some p9 := by kernel_rfl
theorem ev9 {args : List AV} {S : St} {P : AV → St → Prop} (hn : Nat.ble args.length 58 = true) (h : EndsA E 58 [.c p9] .nrm (initTm 0 args .leaf) S (RetQ E [.tmp 2] P)) : ∃ r S', EvA E 9 args S r S' ∧ P r S' := ev_ends (fn := Try.f9) (by kernel_rfl) rfl comp9 (by kernel_rfl) (by kernel_rfl) hn h
/-! hindsight/info.Put -/
def r10_0 : List POp := [
  ⟨some 1, .box 25 (.tmp 0), none⟩,
  ⟨some 2, .assign (.const (.slice none 0 0)), none⟩]
def r10_1 : List POp := [
  ⟨some 10, .load 25 (.tmp 1), none⟩,
  ⟨some 11, .call { callee := .value (.func 9), args := #[(.tmp 10)], argTypes := #[25] }, none⟩,
  ⟨some 12, .unOp .not 4 (.tmp 11), none⟩]
def r10_2 : List POp := [
  ⟨some 2, .assign (.const (.slice none 0 0)), none⟩]
def r10_3 : List POp := [
  ⟨some 13, .fieldAddr 25 (.tmp 1) 0, none⟩,
  ⟨some 14, .load 22 (.tmp 13), none⟩,
  ⟨some 15, .call { callee := .builtin .len, args := #[(.tmp 14)], argTypes := #[22] }, none⟩,
  ⟨some 16, .call { callee := .value (.func 32), args := #[(.const (.slice none 0 0)), (.tmp 15)], argTypes := #[28, 3] }, none⟩,
  ⟨some 3, .assign (.tmp 16), none⟩]
def r10_4 : List POp := [
  ⟨some 17, .fieldAddr 25 (.tmp 1) 0, none⟩,
  ⟨some 18, .load 22 (.tmp 17), none⟩,
  ⟨some 19, .call { callee := .builtin .len, args := #[(.tmp 18)], argTypes := #[22] }, none⟩,
  ⟨some 20, .move (.const (.int .i64 0)), none⟩]
def r10_5 : List POp := [
  ⟨some 21, .binOp .lss 3 (.tmp 20) (.tmp 19) 3, none⟩]
def r10_6 : List POp := [
  ⟨some 22, .indexAddr 22 (.tmp 18) (.tmp 20), none⟩,
  ⟨some 23, .load 41 (.tmp 22), none⟩,
  ⟨some 5, .alloc 41, none⟩,
  ⟨none, .store 41 (.tmp 5) (.tmp 23), none⟩]
def r10_7 : List POp := [
  ⟨some 24, .fieldAddr 41 (.tmp 5) 0, none⟩,
  ⟨some 25, .load 3 (.tmp 24), none⟩,
  ⟨some 26, .fieldAddr 41 (.tmp 5) 1, none⟩,
  ⟨some 27, .load 3 (.tmp 26), none⟩,
  ⟨some 28, .fieldAddr 41 (.tmp 5) 2, none⟩,
  ⟨some 29, .load 3 (.tmp 28), none⟩,
  ⟨some 30, .fieldAddr 41 (.tmp 5) 3, none⟩,
  ⟨some 31, .load 3 (.tmp 30), none⟩,
  ⟨some 32, .buildSlice 57 4 #[(0, (.tmp 25)), (1, (.tmp 27)), (2, (.tmp 29)), (3, (.tmp 31))], none⟩,
  ⟨some 33, .call { callee := .builtin .len, args := #[(.tmp 32)], argTypes := #[57] }, none⟩,
  ⟨some 34, .move (.const (.int .i64 0)), none⟩]
def r10_8 : List POp := [
  ⟨some 35, .binOp .lss 3 (.tmp 34) (.tmp 33) 3, none⟩]
def r10_9 : List POp := [
  ⟨some 36, .indexAddr 57 (.tmp 32) (.tmp 34), none⟩,
  ⟨some 37, .load 3 (.tmp 36), none⟩,
  ⟨some 7, .assign (.tmp 37), none⟩]
def r10_10 : List POp := [
  ⟨some 38, .move (.tmp 3), none⟩,
  ⟨some 39, .move (.tmp 7), none⟩,
  ⟨some 40, .call { callee := .value (.func 32), args := #[(.tmp 38), (.tmp 39)], argTypes := #[28, 3] }, none⟩,
  ⟨some 3, .assign (.tmp 40), none⟩]
def r10_11 : List POp := [
  ⟨some 41, .binOp .add 3 (.tmp 34) (.const (.int .i64 1)) 3, none⟩,
  ⟨some 34, .move (.tmp 41), none⟩]
noncomputable def b10_12 : PC := (.seq (.reg r10_8) (.seq (.cond (.tmp 35) .skip (.exit 2)) (.seq (.block 3 (.seq (.reg r10_9) (.reg r10_10))) (.reg r10_11))))
def r10_13 : List POp := [
  ⟨some 42, .binOp .add 3 (.tmp 20) (.const (.int .i64 1)) 3, none⟩,
  ⟨some 20, .move (.tmp 42), none⟩]
noncomputable def b10_14 : PC := (.seq (.reg r10_5) (.seq (.cond (.tmp 21) .skip (.exit 0)) (.seq (.block 1 (.seq (.reg r10_6) (.seq (.reg r10_7) (.block 2 (.loop b10_12))))) (.reg r10_13))))
def r10_15 : List POp := [
  ⟨some 43, .move (.tmp 3), none⟩,
  ⟨some 44, .fieldAddr 25 (.tmp 1) 1, none⟩,
  ⟨some 45, .load 23 (.tmp 44), none⟩,
  ⟨some 46, .call { callee := .builtin .len, args := #[(.tmp 45)], argTypes := #[23] }, none⟩,
  ⟨some 47, .call { callee := .value (.func 32), args := #[(.tmp 43), (.tmp 46)], argTypes := #[28, 3] }, none⟩,
  ⟨some 3, .assign (.tmp 47), none⟩]
def r10_16 : List POp := [
  ⟨some 48, .fieldAddr 25 (.tmp 1) 1, none⟩,
  ⟨some 49, .load 23 (.tmp 48), none⟩,
  ⟨some 50, .call { callee := .builtin .len, args := #[(.tmp 49)], argTypes := #[23] }, none⟩,
  ⟨some 51, .move (.const (.int .i64 0)), none⟩]
def r10_17 : List POp := [
  ⟨some 52, .binOp .lss 3 (.tmp 51) (.tmp 50) 3, none⟩]
def r10_18 : List POp := [
  ⟨some 53, .indexAddr 23 (.tmp 49) (.tmp 51), none⟩,
  ⟨some 54, .load 43 (.tmp 53), none⟩,
  ⟨some 9, .alloc 43, none⟩,
  ⟨none, .store 43 (.tmp 9) (.tmp 54), none⟩]
def r10_19 : List POp := [
  ⟨some 55, .move (.tmp 3), none⟩,
  ⟨some 56, .fieldAddr 43 (.tmp 9) 0, none⟩,
  ⟨some 57, .load 3 (.tmp 56), none⟩,
  ⟨some 58, .call { callee := .value (.func 32), args := #[(.tmp 55), (.tmp 57)], argTypes := #[28, 3] }, none⟩,
  ⟨some 59, .fieldAddr 43 (.tmp 9) 1, none⟩,
  ⟨some 60, .load 3 (.tmp 59), none⟩,
  ⟨some 61, .call { callee := .value (.func 32), args := #[(.tmp 58), (.tmp 60)], argTypes := #[28, 3] }, none⟩,
  ⟨some 62, .fieldAddr 43 (.tmp 9) 2, none⟩,
  ⟨some 63, .load 9 (.tmp 62), none⟩]
def r10_20 : List POp := [
  ⟨some 64, .call { callee := .value (.func 33), args := #[(.tmp 61), (.tmp 63)], argTypes := #[28, 9] }, none⟩,
  ⟨some 3, .assign (.tmp 64), none⟩]
noncomputable def d10_0 : Array Oper := match Try.f10.body.map (comp E Try.f10.ntmps) with | some p => p.draws.getD 0 #[] | none => #[]
theorem draw10_0 : DrawC E 77 d10_0 11 9 r10_19 r10_20 [(.tmp 59), (.tmp 62)] := ⟨by kernel_rfl, by decide, by kernel_rfl, by kernel_rfl, by kernel_rfl, by kernel_rfl, by kernel_rfl⟩
def r10_21 : List POp := [
  ⟨some 65, .move (.tmp 3), none⟩,
  ⟨some 66, .fieldAddr 43 (.tmp 9) 3, none⟩,
  ⟨some 67, .load 3 (.tmp 66), none⟩,
  ⟨some 68, .call { callee := .value (.func 32), args := #[(.tmp 65), (.tmp 67)], argTypes := #[28, 3] }, none⟩,
  ⟨some 69, .fieldAddr 43 (.tmp 9) 4, none⟩,
  ⟨some 70, .load 3 (.tmp 69), none⟩,
  ⟨some 71, .call { callee := .value (.func 32), args := #[(.tmp 68), (.tmp 70)], argTypes := #[28, 3] }, none⟩,
  ⟨some 72, .fieldAddr 43 (.tmp 9) 5, none⟩,
  ⟨some 73, .load 9 (.tmp 72), none⟩]
def r10_22 : List POp := [
  ⟨some 74, .call { callee := .value (.func 33), args := #[(.tmp 71), (.tmp 73)], argTypes := #[28, 9] }, none⟩,
  ⟨some 3, .assign (.tmp 74), none⟩]
noncomputable def d10_1 : Array Oper := match Try.f10.body.map (comp E Try.f10.ntmps) with | some p => p.draws.getD 1 #[] | none => #[]
theorem draw10_1 : DrawC E 77 d10_1 11 9 r10_21 r10_22 [(.tmp 69), (.tmp 72)] := ⟨by kernel_rfl, by decide, by kernel_rfl, by kernel_rfl, by kernel_rfl, by kernel_rfl, by kernel_rfl⟩
def r10_23 : List POp := [
  ⟨some 75, .binOp .add 3 (.tmp 51) (.const (.int .i64 1)) 3, none⟩,
  ⟨some 51, .move (.tmp 75), none⟩]
noncomputable def b10_24 : PC := (.seq (.reg r10_17) (.seq (.cond (.tmp 52) .skip (.exit 4)) (.seq (.block 5 (.seq (.reg r10_18) (.seq (.draw d10_0) (.draw d10_1)))) (.reg r10_23))))
def r10_25 : List POp := [
  ⟨some 76, .move (.tmp 3), none⟩,
  ⟨some 2, .assign (.tmp 76), none⟩]
noncomputable def p10 : PC := (.seq (.reg r10_0) (.seq (.seq (.reg r10_1) (.cond (.tmp 12) (.seq (.reg r10_2) .ret) .skip)) (.seq (.reg r10_3) (.seq (.seq (.reg r10_4) (.block 0 (.loop b10_14))) (.seq (.reg r10_15) (.seq (.seq (.reg r10_16) (.block 4 (.loop b10_24))) (.seq (.reg r10_25) .ret)))))))
theorem comp10 : (Try.f10.body.map (comp E Try.f10.ntmps)) = some p10 := by kernel_rfl
theorem ev10 {args : List AV} {S : St} {P : AV → St → Prop} (hn : Nat.ble args.length 77 = true) (h : EndsA E 77 [.c p10] .nrm (initTm 0 args .leaf) S (RetQ E [.tmp 2] P)) : ∃ r S', EvA E 10 args S r S' ∧ P r S' := ev_ends (fn := Try.f10) (by kernel_rfl) rfl comp10 (by kernel_rfl) (by kernel_rfl) hn h
/-! hindsight/info.Get -/
def r11_0 : List POp := [
  ⟨some 2, .alloc 25, none⟩,
  ⟨some 3, .assign (.const (.int .i64 0)), none⟩]
def r11_1 : List POp := [
  ⟨some 9, .move (.tmp 0), none⟩,
  ⟨some 10, .build 75 #[(0, (.tmp 9))], none⟩,
  ⟨some 11, .box 75 (.tmp 10), none⟩,
  ⟨some 4, .assign (.tmp 11), none⟩]
def r11_2 : List POp := [
  ⟨some 5, .alloc 25, none⟩]
def r11_3 : List POp := [
  ⟨some 12, .move (.tmp 4), none⟩,
  ⟨some 13, .call { callee := .value (.func 34), args := #[(.tmp 12), (.const (.int .i64 10000))], argTypes := #[73, 3] }, none⟩,
  ⟨some 6, .assign (.tmp 13), none⟩]
def r11_4 : List POp := [
  ⟨some 14, .move (.tmp 6), none⟩,
  ⟨some 15, .binOp .gtr 3 (.tmp 14) (.const (.int .i64 0)) 3, none⟩,
  ⟨some 16, .move (.tmp 15), none⟩,
  ⟨some 17, .move (.tmp 4), some (16, true)⟩,
  ⟨some 18, .nilCheck (.tmp 17), some (16, true)⟩,
  ⟨some 19, .fieldAddr 75 (.tmp 18) 1, some (16, true)⟩,
  ⟨some 20, .load 4 (.tmp 19), some (16, true)⟩,
  ⟨some 21, .unOp .not 4 (.tmp 20), some (16, true)⟩,
  ⟨some 22, .pick (.tmp 16) (.tmp 21) (.const (.bool false)), none⟩]
def r11_5 : List POp := [
  ⟨some 25, .fieldAddr 25 (.tmp 5) 0, none⟩,
  ⟨some 26, .load 22 (.tmp 25), none⟩,
  ⟨some 27, .move (.tmp 4), none⟩,
  ⟨some 28, .call { callee := .value (.func 34), args := #[(.tmp 27), (.const (.int .i64 2147483647))], argTypes := #[73, 3] }, none⟩,
  ⟨some 29, .move (.tmp 4), none⟩,
  ⟨some 30, .call { callee := .value (.func 34), args := #[(.tmp 29), (.const (.int .i64 2147483647))], argTypes := #[73, 3] }, none⟩,
  ⟨some 31, .move (.tmp 4), none⟩,
  ⟨some 32, .call { callee := .value (.func 34), args := #[(.tmp 31), (.const (.int .i64 2147483647))], argTypes := #[73, 3] }, none⟩,
  ⟨some 33, .move (.tmp 4), none⟩,
  ⟨some 34, .call { callee := .value (.func 34), args := #[(.tmp 33), (.const (.int .i64 2147483647))], argTypes := #[73, 3] }, none⟩]
def r11_6 : List POp := [
  ⟨some 35, .build 41 #[(0, (.tmp 28)), (1, (.tmp 30)), (2, (.tmp 32)), (3, (.tmp 34))], none⟩,
  ⟨some 36, .buildSlice 22 1 #[(0, (.tmp 35))], none⟩,
  ⟨some 37, .call { callee := .builtin .append, args := #[(.tmp 26), (.tmp 36)], argTypes := #[22, 22] }, none⟩,
  ⟨some 38, .fieldAddr 25 (.tmp 5) 0, none⟩,
  ⟨none, .store 22 (.tmp 38) (.tmp 37), none⟩]
noncomputable def d11_0 : Array Oper := match Try.f11.body.map (comp E Try.f11.ntmps) with | some p => p.draws.getD 0 #[] | none => #[]
theorem draw11_0 : DrawC E 93 d11_0 15 10 r11_5 r11_6 [(.tmp 25)] := ⟨by kernel_rfl, by decide, by kernel_rfl, by kernel_rfl, by kernel_rfl, by kernel_rfl, by kernel_rfl⟩
def r11_7 : List POp := [
  ⟨some 23, .move (.tmp 6), none⟩,
  ⟨some 24, .binOp .sub 3 (.tmp 23) (.const (.int .i64 1)) 3, none⟩,
  ⟨some 6, .assign (.tmp 24), none⟩]
noncomputable def b11_8 : PC := (.seq (.seq (.reg r11_4) (.cond (.tmp 22) .skip (.exit 0))) (.seq (.block 1 (.draw d11_0)) (.reg r11_7)))
def r11_9 : List POp := [
  ⟨some 39, .move (.tmp 4), none⟩,
  ⟨some 40, .call { callee := .value (.func 34), args := #[(.tmp 39), (.const (.int .i64 10000))], argTypes := #[73, 3] }, none⟩,
  ⟨some 7, .assign (.tmp 40), none⟩]
def r11_10 : List POp := [
  ⟨some 41, .move (.tmp 7), none⟩,
  ⟨some 42, .binOp .gtr 3 (.tmp 41) (.const (.int .i64 0)) 3, none⟩,
  ⟨some 43, .move (.tmp 42), none⟩,
  ⟨some 44, .move (.tmp 4), some (43, true)⟩,
  ⟨some 45, .nilCheck (.tmp 44), some (43, true)⟩,
  ⟨some 46, .fieldAddr 75 (.tmp 45) 1, some (43, true)⟩,
  ⟨some 47, .load 4 (.tmp 46), some (43, true)⟩,
  ⟨some 48, .unOp .not 4 (.tmp 47), some (43, true)⟩,
  ⟨some 49, .pick (.tmp 43) (.tmp 48) (.const (.bool false)), none⟩]
def r11_11 : List POp := [
  ⟨some 52, .move (.tmp 4), none⟩,
  ⟨some 53, .call { callee := .value (.func 34), args := #[(.tmp 52), (.const (.int .i64 2147483647))], argTypes := #[73, 3] }, none⟩,
  ⟨some 54, .move (.tmp 4), none⟩,
  ⟨some 55, .call { callee := .value (.func 34), args := #[(.tmp 54), (.const (.int .i64 2147483647))], argTypes := #[73, 3] }, none⟩,
  ⟨some 56, .move (.tmp 4), none⟩,
  ⟨some 57, .call { callee := .value (.func 35), args := #[(.tmp 56), (.const (.int .i64 4000))], argTypes := #[73, 3] }, none⟩,
  ⟨some 58, .build 43 #[(0, (.tmp 53)), (1, (.tmp 55)), (2, (.tmp 57))], none⟩,
  ⟨some 8, .alloc 43, none⟩,
  ⟨none, .store 43 (.tmp 8) (.tmp 58), none⟩]
def r11_12 : List POp := [
  ⟨some 59, .move (.tmp 4), none⟩,
  ⟨some 60, .call { callee := .value (.func 34), args := #[(.tmp 59), (.const (.int .i64 3))], argTypes := #[73, 3] }, none⟩,
  ⟨some 61, .move (.tmp 4), none⟩,
  ⟨some 62, .call { callee := .value (.func 34), args := #[(.tmp 61), (.const (.int .i64 65535))], argTypes := #[73, 3] }, none⟩,
  ⟨some 63, .move (.tmp 4), none⟩,
  ⟨some 64, .call { callee := .value (.func 35), args := #[(.tmp 63), (.const (.int .i64 4000000))], argTypes := #[73, 3] }, none⟩,
  ⟨some 65, .fieldAddr 43 (.tmp 8) 3, none⟩,
  ⟨none, .store 3 (.tmp 65) (.tmp 60), none⟩,
  ⟨some 66, .fieldAddr 43 (.tmp 8) 4, none⟩,
  ⟨none, .store 3 (.tmp 66) (.tmp 62), none⟩,
  ⟨some 67, .fieldAddr 43 (.tmp 8) 5, none⟩,
  ⟨none, .store 9 (.tmp 67) (.tmp 64), none⟩]
def r11_13 : List POp := [
  ⟨some 68, .fieldAddr 25 (.tmp 5) 1, none⟩,
  ⟨some 69, .load 23 (.tmp 68), none⟩,
  ⟨some 70, .load 43 (.tmp 8), none⟩,
  ⟨some 71, .buildSlice 23 1 #[(0, (.tmp 70))], none⟩,
  ⟨some 72, .call { callee := .builtin .append, args := #[(.tmp 69), (.tmp 71)], argTypes := #[23, 23] }, none⟩,
  ⟨some 73, .fieldAddr 25 (.tmp 5) 1, none⟩,
  ⟨none, .store 23 (.tmp 73) (.tmp 72), none⟩]
def r11_14 : List POp := [
  ⟨some 50, .move (.tmp 7), none⟩,
  ⟨some 51, .binOp .sub 3 (.tmp 50) (.const (.int .i64 1)) 3, none⟩,
  ⟨some 7, .assign (.tmp 51), none⟩]
noncomputable def b11_15 : PC := (.seq (.seq (.reg r11_10) (.cond (.tmp 49) .skip (.exit 2))) (.seq (.block 3 (.seq (.reg r11_11) (.seq (.reg r11_12) (.reg r11_13)))) (.reg r11_14)))
def r11_16 : List POp := [
  ⟨some 74, .move (.tmp 4), none⟩,
  ⟨some 75, .nilCheck (.tmp 74), none⟩,
  ⟨some 76, .fieldAddr 75 (.tmp 75) 1, none⟩,
  ⟨some 77, .load 4 (.tmp 76), none⟩,
  ⟨some 78, .move (.tmp 77), none⟩,
  ⟨some 79, .move (.tmp 4), some (78, false)⟩,
  ⟨some 80, .nilCheck (.tmp 79), some (78, false)⟩,
  ⟨some 81, .fieldAddr 75 (.tmp 80) 0, some (78, false)⟩,
  ⟨some 82, .load 28 (.tmp 81), some (78, false)⟩,
  ⟨some 83, .call { callee := .builtin .len, args := #[(.tmp 82)], argTypes := #[28] }, some (78, false)⟩,
  ⟨some 84, .binOp .gtr 3 (.tmp 83) (.const (.int .i64 0)) 3, some (78, false)⟩,
  ⟨some 85, .pick (.tmp 78) (.const (.bool true)) (.tmp 84), none⟩,
  ⟨some 86, .move (.tmp 85), none⟩,
  ⟨some 87, .load 25 (.tmp 5), some (86, false)⟩,
  ⟨some 88, .call { callee := .value (.func 9), args := #[(.tmp 87)], argTypes := #[25] }, some (86, false)⟩,
  ⟨some 89, .unOp .not 4 (.tmp 88), some (86, false)⟩,
  ⟨some 90, .pick (.tmp 86) (.const (.bool true)) (.tmp 89), none⟩]
def r11_17 : List POp := [
  ⟨some 91, .build 25 #[], none⟩,
  ⟨none, .store 25 (.tmp 2) (.tmp 91), none⟩,
  ⟨some 3, .assign (.const (.int .i64 3)), none⟩]
def r11_18 : List POp := [
  ⟨some 92, .load 25 (.tmp 5), none⟩,
  ⟨none, .store 25 (.tmp 2) (.tmp 92), none⟩,
  ⟨some 3, .assign (.const (.int .i64 0)), none⟩]
noncomputable def p11 : PC := (.seq (.reg r11_0) (.seq (.reg r11_1) (.seq (.reg r11_2) (.seq (.seq (.reg r11_3) (.block 0 (.loop b11_8))) (.seq (.seq (.reg r11_9) (.block 2 (.loop b11_15))) (.seq (.seq (.reg r11_16) (.cond (.tmp 90) (.seq (.reg r11_17) .ret) .skip)) (.seq (.reg r11_18) .ret)))))))
theorem comp11 : (Try.f11.body.map (comp E Try.f11.ntmps)) = some p11 := by kernel_rfl
theorem ev11 {args : List AV} {S : St} {P : AV → St → Prop} (hn : Nat.ble args.length 93 = true) (h : EndsA E 93 [.c p11] .nrm (initTm 0 args .leaf) S (RetQ E [.cell 2 25, .tmp 3] P)) : ∃ r S', EvA E 11 args S r S' ∧ P r S' := ev_ends (fn := Try.f11) (by kernel_rfl) rfl comp11 (by kernel_rfl) (by kernel_rfl) hn h
/-! hindsight/hindsightref11.SameTable -/
def r12_0 : List POp := [
  ⟨some 2, .box 37 (.tmp 0), none⟩,
  ⟨some 3, .box 37 (.tmp 1), none⟩,
  ⟨some 4, .assign (.const (.bool false)), none⟩]
def r12_1 : List POp := [
  ⟨some 7, .fieldAddr 37 (.tmp 2) 0, none⟩,
  ⟨some 8, .load 34 (.tmp 7), none⟩,
  ⟨some 9, .call { callee := .builtin .len, args := #[(.tmp 8)], argTypes := #[34] }, none⟩,
  ⟨some 10, .fieldAddr 37 (.tmp 3) 0, none⟩,
  ⟨some 11, .load 34 (.tmp 10), none⟩,
  ⟨some 12, .call { callee := .builtin .len, args := #[(.tmp 11)], argTypes := #[34] }, none⟩,
  ⟨some 13, .binOp .neq 3 (.tmp 9) (.tmp 12) 3, none⟩,
  ⟨some 14, .move (.tmp 13), none⟩,
  ⟨some 15, .fieldAddr 37 (.tmp 2) 1, some (14, false)⟩,
  ⟨some 16, .load 35 (.tmp 15), some (14, false)⟩,
  ⟨some 17, .call { callee := .builtin .len, args := #[(.tmp 16)], argTypes := #[35] }, some (14, false)⟩,
  ⟨some 18, .fieldAddr 37 (.tmp 3) 1, some (14, false)⟩,
  ⟨some 19, .load 35 (.tmp 18), some (14, false)⟩,
  ⟨some 20, .call { callee := .builtin .len, args := #[(.tmp 19)], argTypes := #[35] }, some (14, false)⟩,
  ⟨some 21, .binOp .neq 3 (.tmp 17) (.tmp 20) 3, some (14, false)⟩,
  ⟨some 22, .pick (.tmp 14) (.const (.bool true)) (.tmp 21), none⟩]
def r12_2 : List POp := [
  ⟨some 4, .assign (.const (.bool false)), none⟩]
def r12_3 : List POp := [
  ⟨some 5, .assign (.const (.int .i64 0)), none⟩]
def r12_4 : List POp := [
  ⟨some 23, .move (.tmp 5), none⟩,
  ⟨some 24, .fieldAddr 37 (.tmp 2) 0, none⟩,
  ⟨some 25, .load 34 (.tmp 24), none⟩,
  ⟨some 26, .call { callee := .builtin .len, args := #[(.tmp 25)], argTypes := #[34] }, none⟩,
  ⟨some 27, .binOp .lss 3 (.tmp 23) (.tmp 26) 3, none⟩]
def r12_5 : List POp := [
  ⟨some 30, .fieldAddr 37 (.tmp 2) 0, none⟩,
  ⟨some 31, .load 34 (.tmp 30), none⟩,
  ⟨some 32, .move (.tmp 5), none⟩,
  ⟨some 33, .indexAddr 34 (.tmp 31) (.tmp 32), none⟩,
  ⟨some 34, .load 51 (.tmp 33), none⟩,
  ⟨some 35, .fieldAddr 37 (.tmp 3) 0, none⟩,
  ⟨some 36, .load 34 (.tmp 35), none⟩,
  ⟨some 37, .move (.tmp 5), none⟩,
  ⟨some 38, .indexAddr 34 (.tmp 36) (.tmp 37), none⟩,
  ⟨some 39, .load 51 (.tmp 38), none⟩,
  ⟨some 40, .binOp .neq 51 (.tmp 34) (.tmp 39) 51, none⟩]
def r12_6 : List POp := [
  ⟨some 4, .assign (.const (.bool false)), none⟩]
def r12_7 : List POp := [
  ⟨some 28, .move (.tmp 5), none⟩,
  ⟨some 29, .binOp .add 3 (.tmp 28) (.const (.int .i64 1)) 3, none⟩,
  ⟨some 5, .assign (.tmp 29), none⟩]
noncomputable def b12_8 : PC := (.seq (.seq (.reg r12_4) (.cond (.tmp 27) .skip (.exit 0))) (.seq (.block 1 (.seq (.regD 11 r12_5) (.cond (.tmp 40) (.seq (.reg r12_6) .ret) .skip))) (.reg r12_7)))
def r12_9 : List POp := [
  ⟨some 6, .assign (.const (.int .i64 0)), none⟩]
def r12_10 : List POp := [
  ⟨some 41, .move (.tmp 6), none⟩,
  ⟨some 42, .fieldAddr 37 (.tmp 2) 1, none⟩,
  ⟨some 43, .load 35 (.tmp 42), none⟩,
  ⟨some 44, .call { callee := .builtin .len, args := #[(.tmp 43)], argTypes := #[35] }, none⟩,
  ⟨some 45, .binOp .lss 3 (.tmp 41) (.tmp 44) 3, none⟩]
def r12_11 : List POp := [
  ⟨some 48, .fieldAddr 37 (.tmp 2) 1, none⟩,
  ⟨some 49, .load 35 (.tmp 48), none⟩,
  ⟨some 50, .move (.tmp 6), none⟩,
  ⟨some 51, .indexAddr 35 (.tmp 49) (.tmp 50), none⟩,
  ⟨some 52, .load 56 (.tmp 51), none⟩,
  ⟨some 53, .fieldAddr 37 (.tmp 3) 1, none⟩,
  ⟨some 54, .load 35 (.tmp 53), none⟩,
  ⟨some 55, .move (.tmp 6), none⟩,
  ⟨some 56, .indexAddr 35 (.tmp 54) (.tmp 55), none⟩,
  ⟨some 57, .load 56 (.tmp 56), none⟩,
  ⟨some 58, .binOp .neq 56 (.tmp 52) (.tmp 57) 56, none⟩]
def r12_12 : List POp := [
  ⟨some 4, .assign (.const (.bool false)), none⟩]
def r12_13 : List POp := [
  ⟨some 46, .move (.tmp 6), none⟩,
  ⟨some 47, .binOp .add 3 (.tmp 46) (.const (.int .i64 1)) 3, none⟩,
  ⟨some 6, .assign (.tmp 47), none⟩]
noncomputable def b12_14 : PC := (.seq (.seq (.reg r12_10) (.cond (.tmp 45) .skip (.exit 2))) (.seq (.block 3 (.seq (.regD 11 r12_11) (.cond (.tmp 58) (.seq (.reg r12_12) .ret) .skip))) (.reg r12_13)))
def r12_15 : List POp := [
  ⟨some 4, .assign (.const (.bool true)), none⟩]
noncomputable def p12 : PC := (.seq (.reg r12_0) (.seq (.seq (.reg r12_1) (.cond (.tmp 22) (.seq (.reg r12_2) .ret) .skip)) (.seq (.seq (.reg r12_3) (.block 0 (.loop b12_8))) (.seq (.seq (.reg r12_9) (.block 2 (.loop b12_14))) (.seq (.reg r12_15) .ret)))))
theorem comp12 : (Try.f12.body.map (comp E Try.f12.ntmps)) = some p12 := by kernel_rfl
theorem ev12 {args : List AV} {S : St} {P : AV → St → Prop} (hn : Nat.ble args.length 59 = true) (h : EndsA E 59 [.c p12] .nrm (initTm 0 args .leaf) S (RetQ E [.tmp 4] P)) : ∃ r S', EvA E 12 args S r S' ∧ P r S' := ev_ends (fn := Try.f12) (by kernel_rfl) rfl comp12 (by kernel_rfl) (by kernel_rfl) hn h
/-! hindsight/hindsightlaw16.own -/
def r13_0 : List POp := [
  ⟨some 1, .box 25 (.tmp 0), none⟩,
  ⟨some 2, .alloc 37, none⟩]
def r13_1 : List POp := [
  ⟨some 8, .build 37 #[], none⟩,
  ⟨some 3, .alloc 37, none⟩,
  ⟨none, .store 37 (.tmp 3) (.tmp 8), none⟩]
def r13_2 : List POp := [
  ⟨some 4, .assign (.const (.int .i64 0)), none⟩]
def r13_3 : List POp := [
  ⟨some 9, .move (.tmp 4), none⟩,
  ⟨some 10, .fieldAddr 25 (.tmp 1) 0, none⟩,
  ⟨some 11, .load 22 (.tmp 10), none⟩,
  ⟨some 12, .call { callee := .builtin .len, args := #[(.tmp 11)], argTypes := #[22] }, none⟩,
  ⟨some 13, .binOp .lss 3 (.tmp 9) (.tmp 12) 3, none⟩]
def r13_4 : List POp := [
  ⟨some 16, .fieldAddr 25 (.tmp 1) 0, none⟩,
  ⟨some 17, .load 22 (.tmp 16), none⟩,
  ⟨some 18, .move (.tmp 4), none⟩,
  ⟨some 19, .indexAddr 22 (.tmp 17) (.tmp 18), none⟩,
  ⟨some 20, .load 41 (.tmp 19), none⟩,
  ⟨some 5, .alloc 41, none⟩,
  ⟨none, .store 41 (.tmp 5) (.tmp 20), none⟩]
def r13_5 : List POp := [
  ⟨some 21, .fieldAddr 37 (.tmp 3) 0, none⟩,
  ⟨some 22, .load 34 (.tmp 21), none⟩,
  ⟨some 23, .fieldAddr 41 (.tmp 5) 0, none⟩,
  ⟨some 24, .load 3 (.tmp 23), none⟩,
  ⟨some 25, .fieldAddr 41 (.tmp 5) 1, none⟩,
  ⟨some 26, .load 3 (.tmp 25), none⟩,
  ⟨some 27, .fieldAddr 41 (.tmp 5) 2, none⟩,
  ⟨some 28, .load 3 (.tmp 27), none⟩,
  ⟨some 29, .fieldAddr 41 (.tmp 5) 3, none⟩,
  ⟨some 30, .load 3 (.tmp 29), none⟩,
  ⟨some 31, .build 51 #[(0, (.tmp 24)), (1, (.tmp 26)), (2, (.tmp 28)), (3, (.tmp 30))], none⟩,
  ⟨some 32, .buildSlice 34 1 #[(0, (.tmp 31))], none⟩,
  ⟨some 33, .call { callee := .builtin .append, args := #[(.tmp 22), (.tmp 32)], argTypes := #[34, 34] }, none⟩,
  ⟨some 34, .fieldAddr 37 (.tmp 3) 0, none⟩,
  ⟨none, .store 34 (.tmp 34) (.tmp 33), none⟩]
def r13_6 : List POp := [
  ⟨some 14, .move (.tmp 4), none⟩,
  ⟨some 15, .binOp .add 3 (.tmp 14) (.const (.int .i64 1)) 3, none⟩,
  ⟨some 4, .assign (.tmp 15), none⟩]
noncomputable def b13_7 : PC := (.seq (.seq (.reg r13_3) (.cond (.tmp 13) .skip (.exit 0))) (.seq (.block 1 (.seq (.reg r13_4) (.reg r13_5))) (.reg r13_6)))
def r13_8 : List POp := [
  ⟨some 6, .assign (.const (.int .i64 0)), none⟩]
def r13_9 : List POp := [
  ⟨some 35, .move (.tmp 6), none⟩,
  ⟨some 36, .fieldAddr 25 (.tmp 1) 1, none⟩,
  ⟨some 37, .load 23 (.tmp 36), none⟩,
  ⟨some 38, .call { callee := .builtin .len, args := #[(.tmp 37)], argTypes := #[23] }, none⟩,
  ⟨some 39, .binOp .lss 3 (.tmp 35) (.tmp 38) 3, none⟩]
def r13_10 : List POp := [
  ⟨some 42, .fieldAddr 25 (.tmp 1) 1, none⟩,
  ⟨some 43, .load 23 (.tmp 42), none⟩,
  ⟨some 44, .move (.tmp 6), none⟩,
  ⟨some 45, .indexAddr 23 (.tmp 43) (.tmp 44), none⟩,
  ⟨some 46, .load 43 (.tmp 45), none⟩,
  ⟨some 7, .alloc 43, none⟩,
  ⟨none, .store 43 (.tmp 7) (.tmp 46), none⟩]
def r13_11 : List POp := [
  ⟨some 47, .fieldAddr 37 (.tmp 3) 1, none⟩,
  ⟨some 48, .load 35 (.tmp 47), none⟩,
  ⟨some 49, .fieldAddr 43 (.tmp 7) 0, none⟩,
  ⟨some 50, .load 3 (.tmp 49), none⟩,
  ⟨some 51, .fieldAddr 43 (.tmp 7) 1, none⟩,
  ⟨some 52, .load 3 (.tmp 51), none⟩,
  ⟨some 53, .fieldAddr 43 (.tmp 7) 2, none⟩,
  ⟨some 54, .load 9 (.tmp 53), none⟩,
  ⟨some 55, .fieldAddr 43 (.tmp 7) 3, none⟩,
  ⟨some 56, .load 3 (.tmp 55), none⟩,
  ⟨some 57, .fieldAddr 43 (.tmp 7) 4, none⟩,
  ⟨some 58, .load 3 (.tmp 57), none⟩,
  ⟨some 59, .fieldAddr 43 (.tmp 7) 5, none⟩,
  ⟨some 60, .load 9 (.tmp 59), none⟩,
  ⟨some 61, .build 56 #[(0, (.tmp 50)), (1, (.tmp 52)), (2, (.tmp 54)), (3, (.tmp 56)), (4, (.tmp 58)), (5, (.tmp 60))], none⟩,
  ⟨some 62, .buildSlice 35 1 #[(0, (.tmp 61))], none⟩,
  ⟨some 63, .call { callee := .builtin .append, args := #[(.tmp 48), (.tmp 62)], argTypes := #[35, 35] }, none⟩,
  ⟨some 64, .fieldAddr 37 (.tmp 3) 1, none⟩,
  ⟨none, .store 35 (.tmp 64) (.tmp 63), none⟩]
def r13_12 : List POp := [
  ⟨some 40, .move (.tmp 6), none⟩,
  ⟨some 41, .binOp .add 3 (.tmp 40) (.const (.int .i64 1)) 3, none⟩,
  ⟨some 6, .assign (.tmp 41), none⟩]
noncomputable def b13_13 : PC := (.seq (.seq (.reg r13_9) (.cond (.tmp 39) .skip (.exit 2))) (.seq (.block 3 (.seq (.reg r13_10) (.reg r13_11))) (.reg r13_12)))
def r13_14 : List POp := [
  ⟨some 65, .load 37 (.tmp 3), none⟩,
  ⟨none, .store 37 (.tmp 2) (.tmp 65), none⟩]
noncomputable def p13 : PC := (.seq (.reg r13_0) (.seq (.reg r13_1) (.seq (.seq (.reg r13_2) (.block 0 (.loop b13_7))) (.seq (.seq (.reg r13_8) (.block 2 (.loop b13_13))) (.seq (.reg r13_14) .ret)))))
theorem comp13 : (Try.f13.body.map (comp E Try.f13.ntmps)) = some p13 := by kernel_rfl
theorem ev13 {args : List AV} {S : St} {P : AV → St → Prop} (hn : Nat.ble args.length 66 = true) (h : EndsA E 66 [.c p13] .nrm (initTm 0 args .leaf) S (RetQ E [.cell 2 37] P)) : ∃ r S', EvA E 13 args S r S' ∧ P r S' := ev_ends (fn := Try.f13) (by kernel_rfl) rfl comp13 (by kernel_rfl) (by kernel_rfl) hn h
/-! hindsight/hindsightref11.GetTable -/
def r14_0 : List POp := [
  ⟨some 2, .alloc 37, none⟩,
  ⟨some 3, .assign (.const (.bool false)), none⟩]
def r14_1 : List POp := [
  ⟨some 11, .move (.tmp 0), none⟩,
  ⟨some 12, .build 80 #[(0, (.tmp 11))], none⟩,
  ⟨some 13, .box 80 (.tmp 12), none⟩,
  ⟨some 4, .assign (.tmp 13), none⟩]
def r14_2 : List POp := [
  ⟨some 14, .build 37 #[], none⟩,
  ⟨some 5, .alloc 37, none⟩,
  ⟨none, .store 37 (.tmp 5) (.tmp 14), none⟩]
def r14_3 : List POp := [
  ⟨some 15, .move (.tmp 4), none⟩,
  ⟨some 16, .call { callee := .value (.func 36), args := #[(.tmp 15)], argTypes := #[78] }, none⟩,
  ⟨some 6, .assign (.tmp 16), none⟩]
def r14_4 : List POp := [
  ⟨some 7, .assign (.const (.int .i64 0)), none⟩]
def r14_5 : List POp := [
  ⟨some 17, .move (.tmp 7), none⟩,
  ⟨some 18, .move (.tmp 6), none⟩,
  ⟨some 19, .binOp .lss 3 (.tmp 17) (.tmp 18) 3, none⟩,
  ⟨some 20, .move (.tmp 19), none⟩,
  ⟨some 21, .move (.tmp 4), some (20, true)⟩,
  ⟨some 22, .nilCheck (.tmp 21), some (20, true)⟩,
  ⟨some 23, .fieldAddr 80 (.tmp 22) 1, some (20, true)⟩,
  ⟨some 24, .load 4 (.tmp 23), some (20, true)⟩,
  ⟨some 25, .unOp .not 4 (.tmp 24), some (20, true)⟩,
  ⟨some 26, .pick (.tmp 20) (.tmp 25) (.const (.bool false)), none⟩]
def r14_6 : List POp := [
  ⟨some 29, .move (.tmp 4), none⟩,
  ⟨some 30, .call { callee := .value (.func 36), args := #[(.tmp 29)], argTypes := #[78] }, none⟩,
  ⟨some 31, .build 51 #[(0, (.tmp 30))], none⟩,
  ⟨some 8, .alloc 51, none⟩,
  ⟨none, .store 51 (.tmp 8) (.tmp 31), none⟩]
def r14_7 : List POp := [
  ⟨some 32, .move (.tmp 4), none⟩,
  ⟨some 33, .call { callee := .value (.func 36), args := #[(.tmp 32)], argTypes := #[78] }, none⟩,
  ⟨some 34, .fieldAddr 51 (.tmp 8) 1, none⟩,
  ⟨none, .store 3 (.tmp 34) (.tmp 33), none⟩]
def r14_8 : List POp := [
  ⟨some 35, .move (.tmp 4), none⟩,
  ⟨some 36, .call { callee := .value (.func 36), args := #[(.tmp 35)], argTypes := #[78] }, none⟩,
  ⟨some 37, .fieldAddr 51 (.tmp 8) 2, none⟩,
  ⟨none, .store 3 (.tmp 37) (.tmp 36), none⟩]
def r14_9 : List POp := [
  ⟨some 38, .move (.tmp 4), none⟩,
  ⟨some 39, .call { callee := .value (.func 36), args := #[(.tmp 38)], argTypes := #[78] }, none⟩,
  ⟨some 40, .fieldAddr 51 (.tmp 8) 3, none⟩,
  ⟨none, .store 3 (.tmp 40) (.tmp 39), none⟩]
def r14_10 : List POp := [
  ⟨some 41, .fieldAddr 37 (.tmp 5) 0, none⟩,
  ⟨some 42, .load 34 (.tmp 41), none⟩,
  ⟨some 43, .load 51 (.tmp 8), none⟩,
  ⟨some 44, .buildSlice 34 1 #[(0, (.tmp 43))], none⟩,
  ⟨some 45, .call { callee := .builtin .append, args := #[(.tmp 42), (.tmp 44)], argTypes := #[34, 34] }, none⟩,
  ⟨some 46, .fieldAddr 37 (.tmp 5) 0, none⟩,
  ⟨none, .store 34 (.tmp 46) (.tmp 45), none⟩]
def r14_11 : List POp := [
  ⟨some 27, .move (.tmp 7), none⟩,
  ⟨some 28, .binOp .add 3 (.tmp 27) (.const (.int .i64 1)) 3, none⟩,
  ⟨some 7, .assign (.tmp 28), none⟩]
noncomputable def b14_12 : PC := (.seq (.seq (.reg r14_5) (.cond (.tmp 26) .skip (.exit 0))) (.seq (.block 1 (.seq (.reg r14_6) (.seq (.reg r14_7) (.seq (.reg r14_8) (.seq (.reg r14_9) (.reg r14_10)))))) (.reg r14_11)))
def r14_13 : List POp := [
  ⟨some 47, .move (.tmp 4), none⟩,
  ⟨some 48, .call { callee := .value (.func 36), args := #[(.tmp 47)], argTypes := #[78] }, none⟩,
  ⟨some 6, .assign (.tmp 48), none⟩]
def r14_14 : List POp := [
  ⟨some 9, .assign (.const (.int .i64 0)), none⟩]
def r14_15 : List POp := [
  ⟨some 49, .move (.tmp 9), none⟩,
  ⟨some 50, .move (.tmp 6), none⟩,
  ⟨some 51, .binOp .lss 3 (.tmp 49) (.tmp 50) 3, none⟩,
  ⟨some 52, .move (.tmp 51), none⟩,
  ⟨some 53, .move (.tmp 4), some (52, true)⟩,
  ⟨some 54, .nilCheck (.tmp 53), some (52, true)⟩,
  ⟨some 55, .fieldAddr 80 (.tmp 54) 1, some (52, true)⟩,
  ⟨some 56, .load 4 (.tmp 55), some (52, true)⟩,
  ⟨some 57, .unOp .not 4 (.tmp 56), some (52, true)⟩,
  ⟨some 58, .pick (.tmp 52) (.tmp 57) (.const (.bool false)), none⟩]
def r14_16 : List POp := [
  ⟨some 61, .move (.tmp 4), none⟩,
  ⟨some 62, .call { callee := .value (.func 36), args := #[(.tmp 61)], argTypes := #[78] }, none⟩,
  ⟨some 63, .build 56 #[(0, (.tmp 62))], none⟩,
  ⟨some 10, .alloc 56, none⟩,
  ⟨none, .store 56 (.tmp 10) (.tmp 63), none⟩]
def r14_17 : List POp := [
  ⟨some 64, .move (.tmp 4), none⟩,
  ⟨some 65, .call { callee := .value (.func 36), args := #[(.tmp 64)], argTypes := #[78] }, none⟩,
  ⟨some 66, .fieldAddr 56 (.tmp 10) 1, none⟩,
  ⟨none, .store 3 (.tmp 66) (.tmp 65), none⟩]
def r14_18 : List POp := [
  ⟨some 67, .move (.tmp 4), none⟩,
  ⟨some 68, .call { callee := .value (.func 37), args := #[(.tmp 67)], argTypes := #[78] }, none⟩,
  ⟨some 69, .fieldAddr 56 (.tmp 10) 2, none⟩,
  ⟨none, .store 9 (.tmp 69) (.tmp 68), none⟩]
def r14_19 : List POp := [
  ⟨some 70, .move (.tmp 4), none⟩,
  ⟨some 71, .call { callee := .value (.func 36), args := #[(.tmp 70)], argTypes := #[78] }, none⟩,
  ⟨some 72, .fieldAddr 56 (.tmp 10) 3, none⟩,
  ⟨none, .store 3 (.tmp 72) (.tmp 71), none⟩]
def r14_20 : List POp := [
  ⟨some 73, .move (.tmp 4), none⟩,
  ⟨some 74, .call { callee := .value (.func 36), args := #[(.tmp 73)], argTypes := #[78] }, none⟩,
  ⟨some 75, .fieldAddr 56 (.tmp 10) 4, none⟩,
  ⟨none, .store 3 (.tmp 75) (.tmp 74), none⟩]
def r14_21 : List POp := [
  ⟨some 76, .move (.tmp 4), none⟩,
  ⟨some 77, .call { callee := .value (.func 37), args := #[(.tmp 76)], argTypes := #[78] }, none⟩,
  ⟨some 78, .fieldAddr 56 (.tmp 10) 5, none⟩,
  ⟨none, .store 9 (.tmp 78) (.tmp 77), none⟩]
def r14_22 : List POp := [
  ⟨some 79, .fieldAddr 37 (.tmp 5) 1, none⟩,
  ⟨some 80, .load 35 (.tmp 79), none⟩,
  ⟨some 81, .load 56 (.tmp 10), none⟩,
  ⟨some 82, .buildSlice 35 1 #[(0, (.tmp 81))], none⟩,
  ⟨some 83, .call { callee := .builtin .append, args := #[(.tmp 80), (.tmp 82)], argTypes := #[35, 35] }, none⟩,
  ⟨some 84, .fieldAddr 37 (.tmp 5) 1, none⟩,
  ⟨none, .store 35 (.tmp 84) (.tmp 83), none⟩]
def r14_23 : List POp := [
  ⟨some 59, .move (.tmp 9), none⟩,
  ⟨some 60, .binOp .add 3 (.tmp 59) (.const (.int .i64 1)) 3, none⟩,
  ⟨some 9, .assign (.tmp 60), none⟩]
noncomputable def b14_24 : PC := (.seq (.seq (.reg r14_15) (.cond (.tmp 58) .skip (.exit 2))) (.seq (.block 3 (.seq (.reg r14_16) (.seq (.reg r14_17) (.seq (.reg r14_18) (.seq (.reg r14_19) (.seq (.reg r14_20) (.seq (.reg r14_21) (.reg r14_22)))))))) (.reg r14_23)))
def r14_25 : List POp := [
  ⟨some 85, .move (.tmp 4), none⟩,
  ⟨some 86, .nilCheck (.tmp 85), none⟩,
  ⟨some 87, .fieldAddr 80 (.tmp 86) 1, none⟩,
  ⟨some 88, .load 4 (.tmp 87), none⟩,
  ⟨some 89, .move (.tmp 88), none⟩,
  ⟨some 90, .move (.tmp 4), some (89, false)⟩,
  ⟨some 91, .nilCheck (.tmp 90), some (89, false)⟩,
  ⟨some 92, .fieldAddr 80 (.tmp 91) 0, some (89, false)⟩,
  ⟨some 93, .load 28 (.tmp 92), some (89, false)⟩,
  ⟨some 94, .call { callee := .builtin .len, args := #[(.tmp 93)], argTypes := #[28] }, some (89, false)⟩,
  ⟨some 95, .binOp .gtr 3 (.tmp 94) (.const (.int .i64 0)) 3, some (89, false)⟩,
  ⟨some 96, .pick (.tmp 89) (.const (.bool true)) (.tmp 95), none⟩,
  ⟨some 97, .move (.tmp 96), none⟩,
  ⟨some 98, .load 37 (.tmp 5), some (97, false)⟩,
  ⟨some 99, .call { callee := .value (.func 15), args := #[(.tmp 98)], argTypes := #[37] }, some (97, false)⟩,
  ⟨some 100, .unOp .not 4 (.tmp 99), some (97, false)⟩,
  ⟨some 101, .pick (.tmp 97) (.const (.bool true)) (.tmp 100), none⟩]
def r14_26 : List POp := [
  ⟨some 102, .build 37 #[], none⟩,
  ⟨none, .store 37 (.tmp 2) (.tmp 102), none⟩,
  ⟨some 3, .assign (.const (.bool false)), none⟩]
def r14_27 : List POp := [
  ⟨some 103, .load 37 (.tmp 5), none⟩,
  ⟨none, .store 37 (.tmp 2) (.tmp 103), none⟩,
  ⟨some 3, .assign (.const (.bool true)), none⟩]
noncomputable def p14 : PC := (.seq (.reg r14_0) (.seq (.reg r14_1) (.seq (.reg r14_2) (.seq (.reg r14_3) (.seq (.seq (.reg r14_4) (.block 0 (.loop b14_12))) (.seq (.reg r14_13) (.seq (.seq (.reg r14_14) (.block 2 (.loop b14_24))) (.seq (.seq (.reg r14_25) (.cond (.tmp 101) (.seq (.reg r14_26) .ret) .skip)) (.seq (.reg r14_27) .ret)))))))))
theorem comp14 : (Try.f14.body.map (comp E Try.f14.ntmps)) = some p14 := by kernel_rfl
theorem ev14 {args : List AV} {S : St} {P : AV → St → Prop} (hn : Nat.ble args.length 104 = true) (h : EndsA E 104 [.c p14] .nrm (initTm 0 args .leaf) S (RetQ E [.cell 2 37, .tmp 3] P)) : ∃ r S', EvA E 14 args S r S' ∧ P r S' := ev_ends (fn := Try.f14) (by kernel_rfl) rfl comp14 (by kernel_rfl) (by kernel_rfl) hn h
/-! hindsight/hindsightref11.GoodTable -/
def r15_0 : List POp := [
  ⟨some 1, .box 37 (.tmp 0), none⟩,
  ⟨some 2, .assign (.const (.bool false)), none⟩]
def r15_1 : List POp := [
  ⟨some 9, .fieldAddr 37 (.tmp 1) 0, none⟩,
  ⟨some 10, .load 34 (.tmp 9), none⟩,
  ⟨some 11, .call { callee := .builtin .len, args := #[(.tmp 10)], argTypes := #[34] }, none⟩,
  ⟨some 12, .binOp .gtr 3 (.tmp 11) (.const (.int .i64 10000)) 3, none⟩,
  ⟨some 13, .move (.tmp 12), none⟩,
  ⟨some 14, .fieldAddr 37 (.tmp 1) 1, some (13, false)⟩,
  ⟨some 15, .load 35 (.tmp 14), some (13, false)⟩,
  ⟨some 16, .call { callee := .builtin .len, args := #[(.tmp 15)], argTypes := #[35] }, some (13, false)⟩,
  ⟨some 17, .binOp .gtr 3 (.tmp 16) (.const (.int .i64 10000)) 3, some (13, false)⟩,
  ⟨some 18, .pick (.tmp 13) (.const (.bool true)) (.tmp 17), none⟩]
def r15_2 : List POp := [
  ⟨some 2, .assign (.const (.bool false)), none⟩]
def r15_3 : List POp := [
  ⟨some 3, .assign (.const (.int .i64 0)), none⟩]
def r15_4 : List POp := [
  ⟨some 19, .move (.tmp 3), none⟩,
  ⟨some 20, .fieldAddr 37 (.tmp 1) 0, none⟩,
  ⟨some 21, .load 34 (.tmp 20), none⟩,
  ⟨some 22, .call { callee := .builtin .len, args := #[(.tmp 21)], argTypes := #[34] }, none⟩,
  ⟨some 23, .binOp .lss 3 (.tmp 19) (.tmp 22) 3, none⟩]
def r15_5 : List POp := [
  ⟨some 26, .fieldAddr 37 (.tmp 1) 0, none⟩,
  ⟨some 27, .load 34 (.tmp 26), none⟩,
  ⟨some 28, .move (.tmp 3), none⟩,
  ⟨some 29, .indexAddr 34 (.tmp 27) (.tmp 28), none⟩,
  ⟨some 30, .load 51 (.tmp 29), none⟩,
  ⟨some 4, .alloc 51, none⟩,
  ⟨none, .store 51 (.tmp 4) (.tmp 30), none⟩]
def r15_6 : List POp := [
  ⟨some 31, .fieldAddr 51 (.tmp 4) 0, none⟩,
  ⟨some 32, .load 3 (.tmp 31), none⟩,
  ⟨some 33, .call { callee := .value (.func 38), args := #[(.tmp 32)], argTypes := #[3] }, none⟩,
  ⟨some 34, .unOp .not 4 (.tmp 33), none⟩,
  ⟨some 35, .move (.tmp 34), none⟩,
  ⟨some 36, .fieldAddr 51 (.tmp 4) 1, some (35, false)⟩,
  ⟨some 37, .load 3 (.tmp 36), some (35, false)⟩,
  ⟨some 38, .call { callee := .value (.func 38), args := #[(.tmp 37)], argTypes := #[3] }, some (35, false)⟩,
  ⟨some 39, .unOp .not 4 (.tmp 38), some (35, false)⟩,
  ⟨some 40, .pick (.tmp 35) (.const (.bool true)) (.tmp 39), none⟩,
  ⟨some 41, .move (.tmp 40), none⟩,
  ⟨some 42, .fieldAddr 51 (.tmp 4) 2, some (41, false)⟩,
  ⟨some 43, .load 3 (.tmp 42), some (41, false)⟩,
  ⟨some 44, .call { callee := .value (.func 39), args := #[(.tmp 43)], argTypes := #[3] }, some (41, false)⟩,
  ⟨some 45, .unOp .not 4 (.tmp 44), some (41, false)⟩,
  ⟨some 46, .pick (.tmp 41) (.const (.bool true)) (.tmp 45), none⟩,
  ⟨some 47, .move (.tmp 46), none⟩,
  ⟨some 48, .fieldAddr 51 (.tmp 4) 3, some (47, false)⟩,
  ⟨some 49, .load 3 (.tmp 48), some (47, false)⟩,
  ⟨some 50, .call { callee := .value (.func 39), args := #[(.tmp 49)], argTypes := #[3] }, some (47, false)⟩,
  ⟨some 51, .unOp .not 4 (.tmp 50), some (47, false)⟩,
  ⟨some 52, .pick (.tmp 47) (.const (.bool true)) (.tmp 51), none⟩,
  ⟨some 53, .move (.tmp 52), none⟩,
  ⟨some 54, .move (.tmp 3), some (53, false)⟩,
  ⟨some 55, .binOp .gtr 3 (.tmp 54) (.const (.int .i64 0)) 3, some (53, false)⟩,
  ⟨some 56, .move (.tmp 55), some (53, false)⟩,
  ⟨some 57, .fieldAddr 51 (.tmp 4) 0, some (56, true)⟩,
  ⟨some 58, .load 3 (.tmp 57), some (56, true)⟩,
  ⟨some 59, .fieldAddr 37 (.tmp 1) 0, some (56, true)⟩,
  ⟨some 60, .load 34 (.tmp 59), some (56, true)⟩,
  ⟨some 61, .move (.tmp 3), some (56, true)⟩,
  ⟨some 62, .binOp .sub 3 (.tmp 61) (.const (.int .i64 1)) 3, some (56, true)⟩,
  ⟨some 63, .indexAddr 34 (.tmp 60) (.tmp 62), some (56, true)⟩,
  ⟨some 64, .fieldAddr 51 (.tmp 63) 0, some (56, true)⟩,
  ⟨some 65, .load 3 (.tmp 64), some (56, true)⟩,
  ⟨some 66, .binOp .leq 3 (.tmp 58) (.tmp 65) 3, some (56, true)⟩,
  ⟨some 67, .pick (.tmp 56) (.tmp 66) (.const (.bool false)), some (53, false)⟩,
  ⟨some 68, .pick (.tmp 53) (.const (.bool true)) (.tmp 67), none⟩]
def r15_7 : List POp := [
  ⟨some 2, .assign (.const (.bool false)), none⟩]
def r15_8 : List POp := [
  ⟨some 24, .move (.tmp 3), none⟩,
  ⟨some 25, .binOp .add 3 (.tmp 24) (.const (.int .i64 1)) 3, none⟩,
  ⟨some 3, .assign (.tmp 25), none⟩]
noncomputable def b15_9 : PC := (.seq (.seq (.reg r15_4) (.cond (.tmp 23) .skip (.exit 0))) (.seq (.block 1 (.seq (.reg r15_5) (.seq (.regD 38 r15_6) (.cond (.tmp 68) (.seq (.reg r15_7) .ret) .skip)))) (.reg r15_8)))
def r15_10 : List POp := [
  ⟨some 5, .assign (.const (.int .i64 0)), none⟩]
def r15_11 : List POp := [
  ⟨some 69, .move (.tmp 5), none⟩,
  ⟨some 70, .fieldAddr 37 (.tmp 1) 1, none⟩,
  ⟨some 71, .load 35 (.tmp 70), none⟩,
  ⟨some 72, .call { callee := .builtin .len, args := #[(.tmp 71)], argTypes := #[35] }, none⟩,
  ⟨some 73, .binOp .lss 3 (.tmp 69) (.tmp 72) 3, none⟩]
def r15_12 : List POp := [
  ⟨some 76, .fieldAddr 37 (.tmp 1) 1, none⟩,
  ⟨some 77, .load 35 (.tmp 76), none⟩,
  ⟨some 78, .move (.tmp 5), none⟩,
  ⟨some 79, .indexAddr 35 (.tmp 77) (.tmp 78), none⟩,
  ⟨some 80, .load 56 (.tmp 79), none⟩,
  ⟨some 6, .alloc 56, none⟩,
  ⟨none, .store 56 (.tmp 6) (.tmp 80), none⟩]
def r15_13 : List POp := [
  ⟨some 81, .fieldAddr 56 (.tmp 6) 0, none⟩,
  ⟨some 82, .load 3 (.tmp 81), none⟩,
  ⟨some 83, .call { callee := .value (.func 38), args := #[(.tmp 82)], argTypes := #[3] }, none⟩,
  ⟨some 84, .unOp .not 4 (.tmp 83), none⟩,
  ⟨some 85, .move (.tmp 84), none⟩,
  ⟨some 86, .fieldAddr 56 (.tmp 6) 1, some (85, false)⟩,
  ⟨some 87, .load 3 (.tmp 86), some (85, false)⟩,
  ⟨some 88, .call { callee := .value (.func 38), args := #[(.tmp 87)], argTypes := #[3] }, some (85, false)⟩,
  ⟨some 89, .unOp .not 4 (.tmp 88), some (85, false)⟩,
  ⟨some 90, .pick (.tmp 85) (.const (.bool true)) (.tmp 89), none⟩,
  ⟨some 91, .move (.tmp 90), none⟩,
  ⟨some 92, .fieldAddr 56 (.tmp 6) 0, some (91, false)⟩,
  ⟨some 93, .load 3 (.tmp 92), some (91, false)⟩,
  ⟨some 94, .fieldAddr 56 (.tmp 6) 1, some (91, false)⟩,
  ⟨some 95, .load 3 (.tmp 94), some (91, false)⟩,
  ⟨some 96, .binOp .geq 3 (.tmp 93) (.tmp 95) 3, some (91, false)⟩,
  ⟨some 97, .pick (.tmp 91) (.const (.bool true)) (.tmp 96), none⟩,
  ⟨some 98, .move (.tmp 97), none⟩,
  ⟨some 99, .fieldAddr 56 (.tmp 6) 2, some (98, false)⟩,
  ⟨some 100, .load 9 (.tmp 99), some (98, false)⟩,
  ⟨some 101, .call { callee := .builtin .len, args := #[(.tmp 100)], argTypes := #[9] }, some (98, false)⟩,
  ⟨some 102, .binOp .lss 3 (.tmp 101) (.const (.int .i64 1)) 3, some (98, false)⟩,
  ⟨some 103, .pick (.tmp 98) (.const (.bool true)) (.tmp 102), none⟩,
  ⟨some 104, .move (.tmp 103), none⟩,
  ⟨some 105, .fieldAddr 56 (.tmp 6) 2, some (104, false)⟩,
  ⟨some 106, .load 9 (.tmp 105), some (104, false)⟩,
  ⟨some 107, .call { callee := .builtin .len, args := #[(.tmp 106)], argTypes := #[9] }, some (104, false)⟩,
  ⟨some 108, .binOp .gtr 3 (.tmp 107) (.const (.int .i64 4000)) 3, some (104, false)⟩,
  ⟨some 109, .pick (.tmp 104) (.const (.bool true)) (.tmp 108), none⟩,
  ⟨some 110, .move (.tmp 109), none⟩,
  ⟨some 111, .fieldAddr 56 (.tmp 6) 3, some (110, false)⟩,
  ⟨some 112, .load 3 (.tmp 111), some (110, false)⟩,
  ⟨some 113, .binOp .lss 3 (.tmp 112) (.const (.int .i64 1)) 3, some (110, false)⟩,
  ⟨some 114, .pick (.tmp 110) (.const (.bool true)) (.tmp 113), none⟩,
  ⟨some 115, .move (.tmp 114), none⟩,
  ⟨some 116, .fieldAddr 56 (.tmp 6) 3, some (115, false)⟩,
  ⟨some 117, .load 3 (.tmp 116), some (115, false)⟩,
  ⟨some 118, .binOp .gtr 3 (.tmp 117) (.const (.int .i64 3)) 3, some (115, false)⟩,
  ⟨some 119, .pick (.tmp 115) (.const (.bool true)) (.tmp 118), none⟩,
  ⟨some 120, .move (.tmp 119), none⟩,
  ⟨some 121, .fieldAddr 56 (.tmp 6) 4, some (120, false)⟩,
  ⟨some 122, .load 3 (.tmp 121), some (120, false)⟩,
  ⟨some 123, .binOp .lss 3 (.tmp 122) (.const (.int .i64 0)) 3, some (120, false)⟩,
  ⟨some 124, .pick (.tmp 120) (.const (.bool true)) (.tmp 123), none⟩,
  ⟨some 125, .move (.tmp 124), none⟩,
  ⟨some 126, .fieldAddr 56 (.tmp 6) 4, some (125, false)⟩,
  ⟨some 127, .load 3 (.tmp 126), some (125, false)⟩,
  ⟨some 128, .binOp .gtr 3 (.tmp 127) (.const (.int .i64 65535)) 3, some (125, false)⟩,
  ⟨some 129, .pick (.tmp 125) (.const (.bool true)) (.tmp 128), none⟩,
  ⟨some 130, .move (.tmp 129), none⟩,
  ⟨some 131, .fieldAddr 56 (.tmp 6) 5, some (130, false)⟩,
  ⟨some 132, .load 9 (.tmp 131), some (130, false)⟩,
  ⟨some 133, .call { callee := .builtin .len, args := #[(.tmp 132)], argTypes := #[9] }, some (130, false)⟩,
  ⟨some 134, .binOp .gtr 3 (.tmp 133) (.const (.int .i64 4000000)) 3, some (130, false)⟩,
  ⟨some 135, .pick (.tmp 130) (.const (.bool true)) (.tmp 134), none⟩]
def r15_14 : List POp := [
  ⟨some 2, .assign (.const (.bool false)), none⟩]
def r15_15 : List POp := [
  ⟨some 7, .assign (.const (.int .i64 0)), none⟩]
def r15_16 : List POp := [
  ⟨some 136, .move (.tmp 7), none⟩,
  ⟨some 137, .move (.tmp 5), none⟩,
  ⟨some 138, .binOp .lss 3 (.tmp 136) (.tmp 137) 3, none⟩]
def r15_17 : List POp := [
  ⟨some 141, .fieldAddr 37 (.tmp 1) 1, none⟩,
  ⟨some 142, .load 35 (.tmp 141), none⟩,
  ⟨some 143, .move (.tmp 7), none⟩,
  ⟨some 144, .indexAddr 35 (.tmp 142) (.tmp 143), none⟩,
  ⟨some 145, .load 56 (.tmp 144), none⟩,
  ⟨some 8, .alloc 56, none⟩,
  ⟨none, .store 56 (.tmp 8) (.tmp 145), none⟩]
def r15_18 : List POp := [
  ⟨some 146, .fieldAddr 56 (.tmp 8) 2, none⟩,
  ⟨some 147, .load 9 (.tmp 146), none⟩,
  ⟨some 148, .fieldAddr 56 (.tmp 6) 2, none⟩,
  ⟨some 149, .load 9 (.tmp 148), none⟩,
  ⟨some 150, .binOp .eql 9 (.tmp 147) (.tmp 149) 9, none⟩,
  ⟨some 151, .move (.tmp 150), none⟩,
  ⟨some 152, .fieldAddr 56 (.tmp 8) 0, some (151, true)⟩,
  ⟨some 153, .load 3 (.tmp 152), some (151, true)⟩,
  ⟨some 154, .fieldAddr 56 (.tmp 6) 1, some (151, true)⟩,
  ⟨some 155, .load 3 (.tmp 154), some (151, true)⟩,
  ⟨some 156, .binOp .lss 3 (.tmp 153) (.tmp 155) 3, some (151, true)⟩,
  ⟨some 157, .pick (.tmp 151) (.tmp 156) (.const (.bool false)), none⟩,
  ⟨some 158, .move (.tmp 157), none⟩,
  ⟨some 159, .fieldAddr 56 (.tmp 6) 0, some (158, true)⟩,
  ⟨some 160, .load 3 (.tmp 159), some (158, true)⟩,
  ⟨some 161, .fieldAddr 56 (.tmp 8) 1, some (158, true)⟩,
  ⟨some 162, .load 3 (.tmp 161), some (158, true)⟩,
  ⟨some 163, .binOp .lss 3 (.tmp 160) (.tmp 162) 3, some (158, true)⟩,
  ⟨some 164, .pick (.tmp 158) (.tmp 163) (.const (.bool false)), none⟩]
def r15_19 : List POp := [
  ⟨some 2, .assign (.const (.bool false)), none⟩]
def r15_20 : List POp := [
  ⟨some 139, .move (.tmp 7), none⟩,
  ⟨some 140, .binOp .add 3 (.tmp 139) (.const (.int .i64 1)) 3, none⟩,
  ⟨some 7, .assign (.tmp 140), none⟩]
noncomputable def b15_21 : PC := (.seq (.seq (.reg r15_16) (.cond (.tmp 138) .skip (.exit 4))) (.seq (.block 5 (.seq (.reg r15_17) (.seq (.reg r15_18) (.cond (.tmp 164) (.seq (.reg r15_19) .ret) .skip)))) (.reg r15_20)))
def r15_22 : List POp := [
  ⟨some 74, .move (.tmp 5), none⟩,
  ⟨some 75, .binOp .add 3 (.tmp 74) (.const (.int .i64 1)) 3, none⟩,
  ⟨some 5, .assign (.tmp 75), none⟩]
noncomputable def b15_23 : PC := (.seq (.seq (.reg r15_11) (.cond (.tmp 73) .skip (.exit 2))) (.seq (.block 3 (.seq (.reg r15_12) (.seq (.seq (.reg r15_13) (.cond (.tmp 135) (.seq (.reg r15_14) .ret) .skip)) (.seq (.reg r15_15) (.block 4 (.loop b15_21)))))) (.reg r15_22)))
def r15_24 : List POp := [
  ⟨some 2, .assign (.const (.bool true)), none⟩]
noncomputable def p15 : PC := (.seq (.reg r15_0) (.seq (.seq (.reg r15_1) (.cond (.tmp 18) (.seq (.reg r15_2) .ret) .skip)) (.seq (.seq (.reg r15_3) (.block 0 (.loop b15_9))) (.seq (.seq (.reg r15_10) (.block 2 (.loop b15_23))) (.seq (.reg r15_24) .ret)))))
theorem comp15 : (Try.f15.body.map (comp E Try.f15.ntmps)) = some p15 := by kernel_rfl
theorem ev15 {args : List AV} {S : St} {P : AV → St → Prop} (hn : Nat.ble args.length 165 = true) (h : EndsA E 165 [.c p15] .nrm (initTm 0 args .leaf) S (RetQ E [.tmp 2] P)) : ∃ r S', EvA E 15 args S r S' ∧ P r S' := ev_ends (fn := Try.f15) (by kernel_rfl) rfl comp15 (by kernel_rfl) (by kernel_rfl) hn h
/-! hindsight/hindsightref11.PutTable -/
def r16_0 : List POp := [
  ⟨some 1, .box 37 (.tmp 0), none⟩,
  ⟨some 2, .assign (.const (.slice none 0 0)), none⟩]
def r16_1 : List POp := [
  ⟨some 8, .load 37 (.tmp 1), none⟩,
  ⟨some 9, .call { callee := .value (.func 15), args := #[(.tmp 8)], argTypes := #[37] }, none⟩,
  ⟨some 10, .unOp .not 4 (.tmp 9), none⟩]
def r16_2 : List POp := [
  ⟨some 2, .assign (.const (.slice none 0 0)), none⟩]
def r16_3 : List POp := [
  ⟨some 11, .fieldAddr 37 (.tmp 1) 0, none⟩,
  ⟨some 12, .load 34 (.tmp 11), none⟩,
  ⟨some 13, .call { callee := .builtin .len, args := #[(.tmp 12)], argTypes := #[34] }, none⟩,
  ⟨some 14, .convert 3 85 (.tmp 13), none⟩,
  ⟨some 15, .call { callee := .value (.func 40), args := #[(.const (.slice none 0 0)), (.tmp 14)], argTypes := #[28, 85] }, none⟩,
  ⟨some 3, .assign (.tmp 15), none⟩]
def r16_4 : List POp := [
  ⟨some 4, .assign (.const (.int .i64 0)), none⟩]
def r16_5 : List POp := [
  ⟨some 16, .move (.tmp 4), none⟩,
  ⟨some 17, .fieldAddr 37 (.tmp 1) 0, none⟩,
  ⟨some 18, .load 34 (.tmp 17), none⟩,
  ⟨some 19, .call { callee := .builtin .len, args := #[(.tmp 18)], argTypes := #[34] }, none⟩,
  ⟨some 20, .binOp .lss 3 (.tmp 16) (.tmp 19) 3, none⟩]
def r16_6 : List POp := [
  ⟨some 23, .fieldAddr 37 (.tmp 1) 0, none⟩,
  ⟨some 24, .load 34 (.tmp 23), none⟩,
  ⟨some 25, .move (.tmp 4), none⟩,
  ⟨some 26, .indexAddr 34 (.tmp 24) (.tmp 25), none⟩,
  ⟨some 27, .load 51 (.tmp 26), none⟩,
  ⟨some 5, .alloc 51, none⟩,
  ⟨none, .store 51 (.tmp 5) (.tmp 27), none⟩]
def r16_7 : List POp := [
  ⟨some 28, .move (.tmp 3), none⟩,
  ⟨some 29, .fieldAddr 51 (.tmp 5) 0, none⟩,
  ⟨some 30, .load 3 (.tmp 29), none⟩,
  ⟨some 31, .convert 3 85 (.tmp 30), none⟩,
  ⟨some 32, .call { callee := .value (.func 40), args := #[(.tmp 28), (.tmp 31)], argTypes := #[28, 85] }, none⟩,
  ⟨some 33, .fieldAddr 51 (.tmp 5) 1, none⟩,
  ⟨some 34, .load 3 (.tmp 33), none⟩,
  ⟨some 35, .convert 3 85 (.tmp 34), none⟩,
  ⟨some 36, .call { callee := .value (.func 40), args := #[(.tmp 32), (.tmp 35)], argTypes := #[28, 85] }, none⟩,
  ⟨some 37, .fieldAddr 51 (.tmp 5) 2, none⟩,
  ⟨some 38, .load 3 (.tmp 37), none⟩,
  ⟨some 39, .convert 3 85 (.tmp 38), none⟩,
  ⟨some 40, .call { callee := .value (.func 40), args := #[(.tmp 36), (.tmp 39)], argTypes := #[28, 85] }, none⟩,
  ⟨some 41, .fieldAddr 51 (.tmp 5) 3, none⟩,
  ⟨some 42, .load 3 (.tmp 41), none⟩,
  ⟨some 43, .convert 3 85 (.tmp 42), none⟩]
def r16_8 : List POp := [
  ⟨some 44, .call { callee := .value (.func 40), args := #[(.tmp 40), (.tmp 43)], argTypes := #[28, 85] }, none⟩,
  ⟨some 3, .assign (.tmp 44), none⟩]
noncomputable def d16_0 : Array Oper := match Try.f16.body.map (comp E Try.f16.ntmps) with | some p => p.draws.getD 0 #[] | none => #[]
theorem draw16_0 : DrawC E 98 d16_0 18 16 r16_7 r16_8 [(.tmp 33), (.tmp 34), (.tmp 37), (.tmp 38), (.tmp 41), (.tmp 42)] := ⟨by kernel_rfl, by decide, by kernel_rfl, by kernel_rfl, by kernel_rfl, by kernel_rfl, by kernel_rfl⟩
def r16_9 : List POp := [
  ⟨some 21, .move (.tmp 4), none⟩,
  ⟨some 22, .binOp .add 3 (.tmp 21) (.const (.int .i64 1)) 3, none⟩,
  ⟨some 4, .assign (.tmp 22), none⟩]
noncomputable def b16_10 : PC := (.seq (.seq (.reg r16_5) (.cond (.tmp 20) .skip (.exit 0))) (.seq (.block 1 (.seq (.reg r16_6) (.draw d16_0))) (.reg r16_9)))
def r16_11 : List POp := [
  ⟨some 45, .move (.tmp 3), none⟩,
  ⟨some 46, .fieldAddr 37 (.tmp 1) 1, none⟩,
  ⟨some 47, .load 35 (.tmp 46), none⟩,
  ⟨some 48, .call { callee := .builtin .len, args := #[(.tmp 47)], argTypes := #[35] }, none⟩,
  ⟨some 49, .convert 3 85 (.tmp 48), none⟩,
  ⟨some 50, .call { callee := .value (.func 40), args := #[(.tmp 45), (.tmp 49)], argTypes := #[28, 85] }, none⟩,
  ⟨some 3, .assign (.tmp 50), none⟩]
def r16_12 : List POp := [
  ⟨some 6, .assign (.const (.int .i64 0)), none⟩]
def r16_13 : List POp := [
  ⟨some 51, .move (.tmp 6), none⟩,
  ⟨some 52, .fieldAddr 37 (.tmp 1) 1, none⟩,
  ⟨some 53, .load 35 (.tmp 52), none⟩,
  ⟨some 54, .call { callee := .builtin .len, args := #[(.tmp 53)], argTypes := #[35] }, none⟩,
  ⟨some 55, .binOp .lss 3 (.tmp 51) (.tmp 54) 3, none⟩]
def r16_14 : List POp := [
  ⟨some 58, .fieldAddr 37 (.tmp 1) 1, none⟩,
  ⟨some 59, .load 35 (.tmp 58), none⟩,
  ⟨some 60, .move (.tmp 6), none⟩,
  ⟨some 61, .indexAddr 35 (.tmp 59) (.tmp 60), none⟩,
  ⟨some 62, .load 56 (.tmp 61), none⟩,
  ⟨some 7, .alloc 56, none⟩,
  ⟨none, .store 56 (.tmp 7) (.tmp 62), none⟩]
def r16_15 : List POp := [
  ⟨some 63, .move (.tmp 3), none⟩,
  ⟨some 64, .fieldAddr 56 (.tmp 7) 0, none⟩,
  ⟨some 65, .load 3 (.tmp 64), none⟩,
  ⟨some 66, .convert 3 85 (.tmp 65), none⟩,
  ⟨some 67, .call { callee := .value (.func 40), args := #[(.tmp 63), (.tmp 66)], argTypes := #[28, 85] }, none⟩,
  ⟨some 68, .fieldAddr 56 (.tmp 7) 1, none⟩,
  ⟨some 69, .load 3 (.tmp 68), none⟩,
  ⟨some 70, .convert 3 85 (.tmp 69), none⟩,
  ⟨some 71, .call { callee := .value (.func 40), args := #[(.tmp 67), (.tmp 70)], argTypes := #[28, 85] }, none⟩,
  ⟨some 72, .fieldAddr 56 (.tmp 7) 2, none⟩,
  ⟨some 73, .load 9 (.tmp 72), none⟩,
  ⟨some 74, .call { callee := .builtin .len, args := #[(.tmp 73)], argTypes := #[9] }, none⟩,
  ⟨some 75, .convert 3 85 (.tmp 74), none⟩,
  ⟨some 76, .call { callee := .value (.func 40), args := #[(.tmp 71), (.tmp 75)], argTypes := #[28, 85] }, none⟩,
  ⟨some 77, .fieldAddr 56 (.tmp 7) 2, none⟩,
  ⟨some 78, .load 9 (.tmp 77), none⟩]
def r16_16 : List POp := [
  ⟨some 79, .call { callee := .builtin .append, args := #[(.tmp 76), (.tmp 78)], argTypes := #[28, 9] }, none⟩,
  ⟨some 3, .assign (.tmp 79), none⟩]
noncomputable def d16_1 : Array Oper := match Try.f16.body.map (comp E Try.f16.ntmps) with | some p => p.draws.getD 1 #[] | none => #[]
theorem draw16_1 : DrawC E 98 d16_1 18 16 r16_15 r16_16 [(.tmp 68), (.tmp 69), (.tmp 72), (.tmp 73), (.tmp 74), (.tmp 77)] := ⟨by kernel_rfl, by decide, by kernel_rfl, by kernel_rfl, by kernel_rfl, by kernel_rfl, by kernel_rfl⟩
def r16_17 : List POp := [
  ⟨some 80, .move (.tmp 3), none⟩,
  ⟨some 81, .fieldAddr 56 (.tmp 7) 3, none⟩,
  ⟨some 82, .load 3 (.tmp 81), none⟩,
  ⟨some 83, .convert 3 85 (.tmp 82), none⟩,
  ⟨some 84, .call { callee := .value (.func 40), args := #[(.tmp 80), (.tmp 83)], argTypes := #[28, 85] }, none⟩,
  ⟨some 85, .fieldAddr 56 (.tmp 7) 4, none⟩,
  ⟨some 86, .load 3 (.tmp 85), none⟩,
  ⟨some 87, .convert 3 85 (.tmp 86), none⟩,
  ⟨some 88, .call { callee := .value (.func 40), args := #[(.tmp 84), (.tmp 87)], argTypes := #[28, 85] }, none⟩,
  ⟨some 89, .fieldAddr 56 (.tmp 7) 5, none⟩,
  ⟨some 90, .load 9 (.tmp 89), none⟩,
  ⟨some 91, .call { callee := .builtin .len, args := #[(.tmp 90)], argTypes := #[9] }, none⟩,
  ⟨some 92, .convert 3 85 (.tmp 91), none⟩,
  ⟨some 93, .call { callee := .value (.func 40), args := #[(.tmp 88), (.tmp 92)], argTypes := #[28, 85] }, none⟩,
  ⟨some 94, .fieldAddr 56 (.tmp 7) 5, none⟩,
  ⟨some 95, .load 9 (.tmp 94), none⟩]
def r16_18 : List POp := [
  ⟨some 96, .call { callee := .builtin .append, args := #[(.tmp 93), (.tmp 95)], argTypes := #[28, 9] }, none⟩,
  ⟨some 3, .assign (.tmp 96), none⟩]
noncomputable def d16_2 : Array Oper := match Try.f16.body.map (comp E Try.f16.ntmps) with | some p => p.draws.getD 2 #[] | none => #[]
theorem draw16_2 : DrawC E 98 d16_2 18 16 r16_17 r16_18 [(.tmp 85), (.tmp 86), (.tmp 89), (.tmp 90), (.tmp 91), (.tmp 94)] := ⟨by kernel_rfl, by decide, by kernel_rfl, by kernel_rfl, by kernel_rfl, by kernel_rfl, by kernel_rfl⟩
def r16_19 : List POp := [
  ⟨some 56, .move (.tmp 6), none⟩,
  ⟨some 57, .binOp .add 3 (.tmp 56) (.const (.int .i64 1)) 3, none⟩,
  ⟨some 6, .assign (.tmp 57), none⟩]
noncomputable def b16_20 : PC := (.seq (.seq (.reg r16_13) (.cond (.tmp 55) .skip (.exit 2))) (.seq (.block 3 (.seq (.reg r16_14) (.seq (.draw d16_1) (.draw d16_2)))) (.reg r16_19)))
def r16_21 : List POp := [
  ⟨some 97, .move (.tmp 3), none⟩,
  ⟨some 2, .assign (.tmp 97), none⟩]
noncomputable def p16 : PC := (.seq (.reg r16_0) (.seq (.seq (.reg r16_1) (.cond (.tmp 10) (.seq (.reg r16_2) .ret) .skip)) (.seq (.reg r16_3) (.seq (.seq (.reg r16_4) (.block 0 (.loop b16_10))) (.seq (.reg r16_11) (.seq (.seq (.reg r16_12) (.block 2 (.loop b16_20))) (.seq (.reg r16_21) .ret)))))))
theorem comp16 : (Try.f16.body.map (comp E Try.f16.ntmps)) = some p16 := by kernel_rfl
theorem ev16 {args : List AV} {S : St} {P : AV → St → Prop} (hn : Nat.ble args.length 98 = true) (h : EndsA E 98 [.c p16] .nrm (initTm 0 args .leaf) S (RetQ E [.tmp 2] P)) : ∃ r S', EvA E 16 args S r S' ∧ P r S' := ev_ends (fn := Try.f16) (by kernel_rfl) rfl comp16 (by kernel_rfl) (by kernel_rfl) hn h
/-! hindsight/info.At -/
def r17_0 : List POp := [
  ⟨some 2, .box 25 (.tmp 0), none⟩,
  ⟨some 4, .alloc 41, none⟩,
  ⟨some 5, .assign (.const (.bool false)), none⟩]
def r17_1 : List POp := [
  ⟨some 8, .fieldAddr 25 (.tmp 2) 0, none⟩,
  ⟨some 9, .load 22 (.tmp 8), none⟩,
  ⟨some 10, .call { callee := .builtin .len, args := #[(.tmp 9)], argTypes := #[22] }, none⟩,
  ⟨some 11, .move (.const (.int .i64 0)), none⟩]
def r17_2 : List POp := [
  ⟨some 12, .binOp .lss 3 (.tmp 11) (.tmp 10) 3, none⟩]
def r17_3 : List POp := [
  ⟨some 13, .indexAddr 22 (.tmp 9) (.tmp 11), none⟩,
  ⟨some 14, .load 41 (.tmp 13), none⟩,
  ⟨some 7, .alloc 41, none⟩,
  ⟨none, .store 41 (.tmp 7) (.tmp 14), none⟩]
def r17_4 : List POp := [
  ⟨some 15, .fieldAddr 41 (.tmp 7) 0, none⟩,
  ⟨some 16, .load 3 (.tmp 15), none⟩,
  ⟨some 17, .move (.tmp 1), none⟩,
  ⟨some 18, .binOp .eql 3 (.tmp 16) (.tmp 17) 3, none⟩]
def r17_5 : List POp := [
  ⟨some 19, .load 41 (.tmp 7), none⟩,
  ⟨none, .store 41 (.tmp 4) (.tmp 19), none⟩,
  ⟨some 5, .assign (.const (.bool true)), none⟩]
def r17_6 : List POp := [
  ⟨some 20, .binOp .add 3 (.tmp 11) (.const (.int .i64 1)) 3, none⟩,
  ⟨some 11, .move (.tmp 20), none⟩]
noncomputable def b17_7 : PC := (.seq (.reg r17_2) (.seq (.cond (.tmp 12) .skip (.exit 0)) (.seq (.block 1 (.seq (.reg r17_3) (.seq (.reg r17_4) (.cond (.tmp 18) (.seq (.reg r17_5) .ret) .skip)))) (.reg r17_6))))
def r17_8 : List POp := [
  ⟨some 21, .build 41 #[], none⟩,
  ⟨none, .store 41 (.tmp 4) (.tmp 21), none⟩,
  ⟨some 5, .assign (.const (.bool false)), none⟩]
noncomputable def p17 : PC := (.seq (.reg r17_0) (.seq (.seq (.reg r17_1) (.block 0 (.loop b17_7))) (.seq (.reg r17_8) .ret)))
theorem comp17 : (Try.f17.body.map (comp E Try.f17.ntmps)) = some p17 := by kernel_rfl
theorem ev17 {args : List AV} {S : St} {P : AV → St → Prop} (hn : Nat.ble args.length 22 = true) (h : EndsA E 22 [.c p17] .nrm (initTm 0 args .leaf) S (RetQ E [.cell 4 41, .tmp 5] P)) : ∃ r S', EvA E 17 args S r S' ∧ P r S' := ev_ends (fn := Try.f17) (by kernel_rfl) rfl comp17 (by kernel_rfl) (by kernel_rfl) hn h
/-! hindsight/hindsightref11.StopAt -/
def r18_0 : List POp := [
  ⟨some 2, .box 37 (.tmp 0), none⟩,
  ⟨some 4, .alloc 51, none⟩,
  ⟨some 5, .assign (.const (.bool false)), none⟩]
def r18_1 : List POp := [
  ⟨some 6, .assign (.const (.int .i64 0)), none⟩]
def r18_2 : List POp := [
  ⟨some 7, .move (.tmp 6), none⟩,
  ⟨some 8, .fieldAddr 37 (.tmp 2) 0, none⟩,
  ⟨some 9, .load 34 (.tmp 8), none⟩,
  ⟨some 10, .call { callee := .builtin .len, args := #[(.tmp 9)], argTypes := #[34] }, none⟩,
  ⟨some 11, .binOp .lss 3 (.tmp 7) (.tmp 10) 3, none⟩]
def r18_3 : List POp := [
  ⟨some 14, .fieldAddr 37 (.tmp 2) 0, none⟩,
  ⟨some 15, .load 34 (.tmp 14), none⟩,
  ⟨some 16, .move (.tmp 6), none⟩,
  ⟨some 17, .indexAddr 34 (.tmp 15) (.tmp 16), none⟩,
  ⟨some 18, .fieldAddr 51 (.tmp 17) 0, none⟩,
  ⟨some 19, .load 3 (.tmp 18), none⟩,
  ⟨some 20, .move (.tmp 1), none⟩,
  ⟨some 21, .binOp .eql 3 (.tmp 19) (.tmp 20) 3, none⟩]
def r18_4 : List POp := [
  ⟨some 22, .fieldAddr 37 (.tmp 2) 0, none⟩,
  ⟨some 23, .load 34 (.tmp 22), none⟩,
  ⟨some 24, .move (.tmp 6), none⟩,
  ⟨some 25, .indexAddr 34 (.tmp 23) (.tmp 24), none⟩,
  ⟨some 26, .load 51 (.tmp 25), none⟩,
  ⟨none, .store 51 (.tmp 4) (.tmp 26), none⟩,
  ⟨some 5, .assign (.const (.bool true)), none⟩]
def r18_5 : List POp := [
  ⟨some 12, .move (.tmp 6), none⟩,
  ⟨some 13, .binOp .add 3 (.tmp 12) (.const (.int .i64 1)) 3, none⟩,
  ⟨some 6, .assign (.tmp 13), none⟩]
noncomputable def b18_6 : PC := (.seq (.seq (.reg r18_2) (.cond (.tmp 11) .skip (.exit 0))) (.seq (.block 1 (.seq (.reg r18_3) (.cond (.tmp 21) (.seq (.reg r18_4) .ret) .skip))) (.reg r18_5)))
def r18_7 : List POp := [
  ⟨some 27, .build 51 #[], none⟩,
  ⟨none, .store 51 (.tmp 4) (.tmp 27), none⟩,
  ⟨some 5, .assign (.const (.bool false)), none⟩]
noncomputable def p18 : PC := (.seq (.reg r18_0) (.seq (.seq (.reg r18_1) (.block 0 (.loop b18_6))) (.seq (.reg r18_7) .ret)))
theorem comp18 : (Try.f18.body.map (comp E Try.f18.ntmps)) = some p18 := by kernel_rfl
theorem ev18 {args : List AV} {S : St} {P : AV → St → Prop} (hn : Nat.ble args.length 28 = true) (h : EndsA E 28 [.c p18] .nrm (initTm 0 args .leaf) S (RetQ E [.cell 4 51, .tmp 5] P)) : ∃ r S', EvA E 18 args S r S' ∧ P r S' := ev_ends (fn := Try.f18) (by kernel_rfl) rfl comp18 (by kernel_rfl) (by kernel_rfl) hn h
/-! hindsight/info.Names -/
def r19_0 : List POp := [
  ⟨some 2, .box 25 (.tmp 0), none⟩,
  ⟨some 4, .assign (.const (.slice none 0 0)), none⟩]
def r19_1 : List POp := [
  ⟨some 5, .assign (.const (.slice none 0 0)), none⟩]
def r19_2 : List POp := [
  ⟨some 8, .fieldAddr 25 (.tmp 2) 1, none⟩,
  ⟨some 9, .load 23 (.tmp 8), none⟩,
  ⟨some 10, .call { callee := .builtin .len, args := #[(.tmp 9)], argTypes := #[23] }, none⟩,
  ⟨some 11, .move (.const (.int .i64 0)), none⟩]
def r19_3 : List POp := [
  ⟨some 12, .binOp .lss 3 (.tmp 11) (.tmp 10) 3, none⟩]
def r19_4 : List POp := [
  ⟨some 13, .indexAddr 23 (.tmp 9) (.tmp 11), none⟩,
  ⟨some 14, .load 43 (.tmp 13), none⟩,
  ⟨some 7, .alloc 43, none⟩,
  ⟨none, .store 43 (.tmp 7) (.tmp 14), none⟩]
def r19_5 : List POp := [
  ⟨some 15, .move (.tmp 1), none⟩,
  ⟨some 16, .fieldAddr 43 (.tmp 7) 0, none⟩,
  ⟨some 17, .load 3 (.tmp 16), none⟩,
  ⟨some 18, .binOp .geq 3 (.tmp 15) (.tmp 17) 3, none⟩,
  ⟨some 19, .move (.tmp 18), none⟩,
  ⟨some 20, .move (.tmp 1), some (19, true)⟩,
  ⟨some 21, .fieldAddr 43 (.tmp 7) 1, some (19, true)⟩,
  ⟨some 22, .load 3 (.tmp 21), some (19, true)⟩,
  ⟨some 23, .binOp .lss 3 (.tmp 20) (.tmp 22) 3, some (19, true)⟩,
  ⟨some 24, .pick (.tmp 19) (.tmp 23) (.const (.bool false)), none⟩]
def r19_6 : List POp := [
  ⟨some 25, .move (.tmp 5), none⟩,
  ⟨some 26, .load 43 (.tmp 7), none⟩,
  ⟨some 27, .buildSlice 23 1 #[(0, (.tmp 26))], none⟩,
  ⟨some 28, .call { callee := .builtin .append, args := #[(.tmp 25), (.tmp 27)], argTypes := #[23, 23] }, none⟩,
  ⟨some 5, .assign (.tmp 28), none⟩]
def r19_7 : List POp := [
  ⟨some 29, .binOp .add 3 (.tmp 11) (.const (.int .i64 1)) 3, none⟩,
  ⟨some 11, .move (.tmp 29), none⟩]
noncomputable def b19_8 : PC := (.seq (.reg r19_3) (.seq (.cond (.tmp 12) .skip (.exit 0)) (.seq (.block 1 (.seq (.reg r19_4) (.seq (.reg r19_5) (.cond (.tmp 24) (.reg r19_6) .skip)))) (.reg r19_7))))
def r19_9 : List POp := [
  ⟨some 30, .move (.tmp 5), none⟩,
  ⟨some 31, .call { callee := .value (.func 41), args := #[(.tmp 30), (.func 42)], argTypes := #[23, 69] }, none⟩]
def r19_10 : List POp := [
  ⟨some 32, .move (.tmp 5), none⟩,
  ⟨some 4, .assign (.tmp 32), none⟩]
noncomputable def p19 : PC := (.seq (.reg r19_0) (.seq (.reg r19_1) (.seq (.seq (.reg r19_2) (.block 0 (.loop b19_8))) (.seq (.reg r19_9) (.seq (.reg r19_10) .ret)))))
theorem comp19 : (Try.f19.body.map (comp E Try.f19.ntmps)) = some p19 := by kernel_rfl
theorem ev19 {args : List AV} {S : St} {P : AV → St → Prop} (hn : Nat.ble args.length 33 = true) (h : EndsA E 33 [.c p19] .nrm (initTm 0 args .leaf) S (RetQ E [.tmp 4] P)) : ∃ r S', EvA E 19 args S r S' ∧ P r S' := ev_ends (fn := Try.f19) (by kernel_rfl) rfl comp19 (by kernel_rfl) (by kernel_rfl) hn h
/-! hindsight/hindsightref11.NamesAt -/
def r20_0 : List POp := [
  ⟨some 2, .box 37 (.tmp 0), none⟩,
  ⟨some 4, .assign (.const (.slice none 0 0)), none⟩]
def r20_1 : List POp := [
  ⟨some 5, .assign (.const (.slice none 0 0)), none⟩]
def r20_2 : List POp := [
  ⟨some 6, .assign (.const (.int .i64 0)), none⟩]
def r20_3 : List POp := [
  ⟨some 9, .move (.tmp 6), none⟩,
  ⟨some 10, .fieldAddr 37 (.tmp 2) 1, none⟩,
  ⟨some 11, .load 35 (.tmp 10), none⟩,
  ⟨some 12, .call { callee := .builtin .len, args := #[(.tmp 11)], argTypes := #[35] }, none⟩,
  ⟨some 13, .binOp .lss 3 (.tmp 9) (.tmp 12) 3, none⟩]
def r20_4 : List POp := [
  ⟨some 16, .fieldAddr 37 (.tmp 2) 1, none⟩,
  ⟨some 17, .load 35 (.tmp 16), none⟩,
  ⟨some 18, .move (.tmp 6), none⟩,
  ⟨some 19, .indexAddr 35 (.tmp 17) (.tmp 18), none⟩,
  ⟨some 20, .load 56 (.tmp 19), none⟩,
  ⟨some 7, .alloc 56, none⟩,
  ⟨none, .store 56 (.tmp 7) (.tmp 20), none⟩]
def r20_5 : List POp := [
  ⟨some 21, .move (.tmp 1), none⟩,
  ⟨some 22, .fieldAddr 56 (.tmp 7) 0, none⟩,
  ⟨some 23, .load 3 (.tmp 22), none⟩,
  ⟨some 24, .binOp .lss 3 (.tmp 21) (.tmp 23) 3, none⟩,
  ⟨some 25, .move (.tmp 24), none⟩,
  ⟨some 26, .move (.tmp 1), some (25, false)⟩,
  ⟨some 27, .fieldAddr 56 (.tmp 7) 1, some (25, false)⟩,
  ⟨some 28, .load 3 (.tmp 27), some (25, false)⟩,
  ⟨some 29, .binOp .geq 3 (.tmp 26) (.tmp 28) 3, some (25, false)⟩,
  ⟨some 30, .pick (.tmp 25) (.const (.bool true)) (.tmp 29), none⟩]
def r20_6 : List POp := [
  ⟨some 8, .assign (.const (.int .i64 0)), none⟩]
def r20_7 : List POp := [
  ⟨some 31, .move (.tmp 8), none⟩,
  ⟨some 32, .move (.tmp 5), none⟩,
  ⟨some 33, .call { callee := .builtin .len, args := #[(.tmp 32)], argTypes := #[35] }, none⟩,
  ⟨some 34, .binOp .lss 3 (.tmp 31) (.tmp 33) 3, none⟩,
  ⟨some 35, .move (.tmp 34), none⟩,
  ⟨some 36, .move (.tmp 5), some (35, true)⟩,
  ⟨some 37, .move (.tmp 8), some (35, true)⟩,
  ⟨some 38, .indexAddr 35 (.tmp 36) (.tmp 37), some (35, true)⟩,
  ⟨some 39, .fieldAddr 56 (.tmp 38) 2, some (35, true)⟩,
  ⟨some 40, .load 9 (.tmp 39), some (35, true)⟩,
  ⟨some 41, .fieldAddr 56 (.tmp 7) 2, some (35, true)⟩,
  ⟨some 42, .load 9 (.tmp 41), some (35, true)⟩,
  ⟨some 43, .binOp .lss 9 (.tmp 40) (.tmp 42) 9, some (35, true)⟩,
  ⟨some 44, .pick (.tmp 35) (.tmp 43) (.const (.bool false)), none⟩]
def r20_8 : List POp := [
  ⟨some 45, .move (.tmp 8), none⟩,
  ⟨some 46, .binOp .add 3 (.tmp 45) (.const (.int .i64 1)) 3, none⟩,
  ⟨some 8, .assign (.tmp 46), none⟩]
noncomputable def b20_9 : PC := (.seq (.seq (.regD 14 r20_7) (.cond (.tmp 44) .skip (.exit 2))) (.block 3 (.reg r20_8)))
def r20_10 : List POp := [
  ⟨some 47, .buildSlice 35 0 #[], none⟩,
  ⟨some 48, .move (.tmp 5), none⟩,
  ⟨some 49, .move (.tmp 8), none⟩,
  ⟨some 50, .slice 35 (.tmp 48) none (some (.tmp 49)) none, none⟩,
  ⟨some 51, .call { callee := .builtin .append, args := #[(.tmp 47), (.tmp 50)], argTypes := #[35, 35] }, none⟩,
  ⟨some 52, .load 56 (.tmp 7), none⟩,
  ⟨some 53, .buildSlice 35 1 #[(0, (.tmp 52))], none⟩,
  ⟨some 54, .call { callee := .builtin .append, args := #[(.tmp 51), (.tmp 53)], argTypes := #[35, 35] }, none⟩,
  ⟨some 55, .move (.tmp 5), none⟩,
  ⟨some 56, .move (.tmp 8), none⟩,
  ⟨some 57, .slice 35 (.tmp 55) (some (.tmp 56)) none none, none⟩]
def r20_11 : List POp := [
  ⟨some 58, .call { callee := .builtin .append, args := #[(.tmp 54), (.tmp 57)], argTypes := #[35, 35] }, none⟩,
  ⟨some 5, .assign (.tmp 58), none⟩]
noncomputable def d20_0 : Array Oper := match Try.f20.body.map (comp E Try.f20.ntmps) with | some p => p.draws.getD 0 #[] | none => #[]
theorem draw20_0 : DrawC E 60 d20_0 13 11 r20_10 r20_11 [(.tmp 7), (.tmp 55)] := ⟨by kernel_rfl, by decide, by kernel_rfl, by kernel_rfl, by kernel_rfl, by kernel_rfl, by kernel_rfl⟩
def r20_12 : List POp := [
  ⟨some 14, .move (.tmp 6), none⟩,
  ⟨some 15, .binOp .add 3 (.tmp 14) (.const (.int .i64 1)) 3, none⟩,
  ⟨some 6, .assign (.tmp 15), none⟩]
noncomputable def b20_13 : PC := (.seq (.seq (.reg r20_3) (.cond (.tmp 13) .skip (.exit 0))) (.seq (.block 1 (.seq (.reg r20_4) (.seq (.seq (.reg r20_5) (.cond (.tmp 30) (.exit 1) .skip)) (.seq (.reg r20_6) (.seq (.block 2 (.loop b20_9)) (.draw d20_0)))))) (.reg r20_12)))
def r20_14 : List POp := [
  ⟨some 59, .move (.tmp 5), none⟩,
  ⟨some 4, .assign (.tmp 59), none⟩]
noncomputable def p20 : PC := (.seq (.reg r20_0) (.seq (.reg r20_1) (.seq (.seq (.reg r20_2) (.block 0 (.loop b20_13))) (.seq (.reg r20_14) .ret))))
theorem comp20 : (Try.f20.body.map (comp E Try.f20.ntmps)) = some p20 := by kernel_rfl
theorem ev20 {args : List AV} {S : St} {P : AV → St → Prop} (hn : Nat.ble args.length 60 = true) (h : EndsA E 60 [.c p20] .nrm (initTm 0 args .leaf) S (RetQ E [.tmp 4] P)) : ∃ r S', EvA E 20 args S r S' ∧ P r S' := ev_ends (fn := Try.f20) (by kernel_rfl) rfl comp20 (by kernel_rfl) (by kernel_rfl) hn h
/-! hindsight/info.OnLine -/
def r21_0 : List POp := [
  ⟨some 2, .box 25 (.tmp 0), none⟩,
  ⟨some 4, .assign (.const (.slice none 0 0)), none⟩]
def r21_1 : List POp := [
  ⟨some 5, .assign (.const (.slice none 0 0)), none⟩]
def r21_2 : List POp := [
  ⟨some 8, .fieldAddr 25 (.tmp 2) 0, none⟩,
  ⟨some 9, .load 22 (.tmp 8), none⟩,
  ⟨some 10, .call { callee := .builtin .len, args := #[(.tmp 9)], argTypes := #[22] }, none⟩,
  ⟨some 11, .move (.const (.int .i64 0)), none⟩]
def r21_3 : List POp := [
  ⟨some 12, .binOp .lss 3 (.tmp 11) (.tmp 10) 3, none⟩]
def r21_4 : List POp := [
  ⟨some 13, .indexAddr 22 (.tmp 9) (.tmp 11), none⟩,
  ⟨some 14, .load 41 (.tmp 13), none⟩,
  ⟨some 7, .alloc 41, none⟩,
  ⟨none, .store 41 (.tmp 7) (.tmp 14), none⟩]
def r21_5 : List POp := [
  ⟨some 15, .fieldAddr 41 (.tmp 7) 2, none⟩,
  ⟨some 16, .load 3 (.tmp 15), none⟩,
  ⟨some 17, .move (.tmp 1), none⟩,
  ⟨some 18, .binOp .eql 3 (.tmp 16) (.tmp 17) 3, none⟩]
def r21_6 : List POp := [
  ⟨some 19, .move (.tmp 5), none⟩,
  ⟨some 20, .fieldAddr 41 (.tmp 7) 0, none⟩,
  ⟨some 21, .load 3 (.tmp 20), none⟩,
  ⟨some 22, .buildSlice 57 1 #[(0, (.tmp 21))], none⟩,
  ⟨some 23, .call { callee := .builtin .append, args := #[(.tmp 19), (.tmp 22)], argTypes := #[57, 57] }, none⟩,
  ⟨some 5, .assign (.tmp 23), none⟩]
def r21_7 : List POp := [
  ⟨some 24, .binOp .add 3 (.tmp 11) (.const (.int .i64 1)) 3, none⟩,
  ⟨some 11, .move (.tmp 24), none⟩]
noncomputable def b21_8 : PC := (.seq (.reg r21_3) (.seq (.cond (.tmp 12) .skip (.exit 0)) (.seq (.block 1 (.seq (.reg r21_4) (.seq (.reg r21_5) (.cond (.tmp 18) (.reg r21_6) .skip)))) (.reg r21_7))))
def r21_9 : List POp := [
  ⟨some 25, .move (.tmp 5), none⟩,
  ⟨some 26, .call { callee := .value (.func 43), args := #[(.tmp 25)], argTypes := #[57] }, none⟩]
def r21_10 : List POp := [
  ⟨some 27, .move (.tmp 5), none⟩,
  ⟨some 4, .assign (.tmp 27), none⟩]
noncomputable def p21 : PC := (.seq (.reg r21_0) (.seq (.reg r21_1) (.seq (.seq (.reg r21_2) (.block 0 (.loop b21_8))) (.seq (.reg r21_9) (.seq (.reg r21_10) .ret)))))
theorem comp21 : (Try.f21.body.map (comp E Try.f21.ntmps)) = some p21 := by kernel_rfl
theorem ev21 {args : List AV} {S : St} {P : AV → St → Prop} (hn : Nat.ble args.length 28 = true) (h : EndsA E 28 [.c p21] .nrm (initTm 0 args .leaf) S (RetQ E [.tmp 4] P)) : ∃ r S', EvA E 21 args S r S' ∧ P r S' := ev_ends (fn := Try.f21) (by kernel_rfl) rfl comp21 (by kernel_rfl) (by kernel_rfl) hn h
/-! hindsight/hindsightref11.OnLine -/
def r22_0 : List POp := [
  ⟨some 2, .box 37 (.tmp 0), none⟩,
  ⟨some 4, .assign (.const (.slice none 0 0)), none⟩]
def r22_1 : List POp := [
  ⟨some 5, .assign (.const (.slice none 0 0)), none⟩]
def r22_2 : List POp := [
  ⟨some 6, .assign (.const (.int .i64 0)), none⟩]
def r22_3 : List POp := [
  ⟨some 7, .move (.tmp 6), none⟩,
  ⟨some 8, .fieldAddr 37 (.tmp 2) 0, none⟩,
  ⟨some 9, .load 34 (.tmp 8), none⟩,
  ⟨some 10, .call { callee := .builtin .len, args := #[(.tmp 9)], argTypes := #[34] }, none⟩,
  ⟨some 11, .binOp .lss 3 (.tmp 7) (.tmp 10) 3, none⟩]
def r22_4 : List POp := [
  ⟨some 14, .fieldAddr 37 (.tmp 2) 0, none⟩,
  ⟨some 15, .load 34 (.tmp 14), none⟩,
  ⟨some 16, .move (.tmp 6), none⟩,
  ⟨some 17, .indexAddr 34 (.tmp 15) (.tmp 16), none⟩,
  ⟨some 18, .fieldAddr 51 (.tmp 17) 2, none⟩,
  ⟨some 19, .load 3 (.tmp 18), none⟩,
  ⟨some 20, .move (.tmp 1), none⟩,
  ⟨some 21, .binOp .eql 3 (.tmp 19) (.tmp 20) 3, none⟩]
def r22_5 : List POp := [
  ⟨some 22, .move (.tmp 5), none⟩,
  ⟨some 23, .fieldAddr 37 (.tmp 2) 0, none⟩,
  ⟨some 24, .load 34 (.tmp 23), none⟩,
  ⟨some 25, .move (.tmp 6), none⟩,
  ⟨some 26, .indexAddr 34 (.tmp 24) (.tmp 25), none⟩,
  ⟨some 27, .fieldAddr 51 (.tmp 26) 0, none⟩,
  ⟨some 28, .load 3 (.tmp 27), none⟩,
  ⟨some 29, .buildSlice 57 1 #[(0, (.tmp 28))], none⟩,
  ⟨some 30, .call { callee := .builtin .append, args := #[(.tmp 22), (.tmp 29)], argTypes := #[57, 57] }, none⟩,
  ⟨some 5, .assign (.tmp 30), none⟩]
def r22_6 : List POp := [
  ⟨some 12, .move (.tmp 6), none⟩,
  ⟨some 13, .binOp .add 3 (.tmp 12) (.const (.int .i64 1)) 3, none⟩,
  ⟨some 6, .assign (.tmp 13), none⟩]
noncomputable def b22_7 : PC := (.seq (.seq (.reg r22_3) (.cond (.tmp 11) .skip (.exit 0))) (.seq (.block 1 (.seq (.reg r22_4) (.cond (.tmp 21) (.reg r22_5) .skip))) (.reg r22_6)))
def r22_8 : List POp := [
  ⟨some 31, .move (.tmp 5), none⟩,
  ⟨some 4, .assign (.tmp 31), none⟩]
noncomputable def p22 : PC := (.seq (.reg r22_0) (.seq (.reg r22_1) (.seq (.seq (.reg r22_2) (.block 0 (.loop b22_7))) (.seq (.reg r22_8) .ret))))
theorem comp22 : (Try.f22.body.map (comp E Try.f22.ntmps)) = some p22 := by kernel_rfl
theorem ev22 {args : List AV} {S : St} {P : AV → St → Prop} (hn : Nat.ble args.length 32 = true) (h : EndsA E 32 [.c p22] .nrm (initTm 0 args .leaf) S (RetQ E [.tmp 4] P)) : ∃ r S', EvA E 22 args S r S' ∧ P r S' := ev_ends (fn := Try.f22) (by kernel_rfl) rfl comp22 (by kernel_rfl) (by kernel_rfl) hn h
/-! hindsight/info.stops -/
def r24_0 : List POp := [
  ⟨some 2, .assign (.const (.bool false)), none⟩]
def r24_1 : List POp := [
  ⟨some 5, .move (.tmp 0), none⟩,
  ⟨some 6, .call { callee := .builtin .len, args := #[(.tmp 5)], argTypes := #[22] }, none⟩,
  ⟨some 7, .move (.const (.int .i64 0)), none⟩]
def r24_2 : List POp := [
  ⟨some 8, .binOp .lss 3 (.tmp 7) (.tmp 6) 3, none⟩]
def r24_3 : List POp := [
  ⟨some 9, .move (.tmp 7), none⟩,
  ⟨some 10, .indexAddr 22 (.tmp 5) (.tmp 7), none⟩,
  ⟨some 11, .load 41 (.tmp 10), none⟩,
  ⟨some 4, .alloc 41, none⟩,
  ⟨some 3, .assign (.tmp 9), none⟩,
  ⟨none, .store 41 (.tmp 4) (.tmp 11), none⟩]
def r24_4 : List POp := [
  ⟨some 12, .fieldAddr 41 (.tmp 4) 0, none⟩,
  ⟨some 13, .load 3 (.tmp 12), none⟩,
  ⟨some 14, .call { callee := .value (.func 44), args := #[(.tmp 13), (.const (.int .i64 0)), (.const (.int .i64 2147483647))], argTypes := #[3, 3, 3] }, none⟩,
  ⟨some 15, .unOp .not 4 (.tmp 14), none⟩,
  ⟨some 16, .move (.tmp 15), none⟩,
  ⟨some 17, .fieldAddr 41 (.tmp 4) 1, some (16, false)⟩,
  ⟨some 18, .load 3 (.tmp 17), some (16, false)⟩,
  ⟨some 19, .call { callee := .value (.func 44), args := #[(.tmp 18), (.const (.int .i64 0)), (.const (.int .i64 2147483647))], argTypes := #[3, 3, 3] }, some (16, false)⟩,
  ⟨some 20, .unOp .not 4 (.tmp 19), some (16, false)⟩,
  ⟨some 21, .pick (.tmp 16) (.const (.bool true)) (.tmp 20), none⟩,
  ⟨some 22, .move (.tmp 21), none⟩,
  ⟨some 23, .fieldAddr 41 (.tmp 4) 2, some (22, false)⟩,
  ⟨some 24, .load 3 (.tmp 23), some (22, false)⟩,
  ⟨some 25, .call { callee := .value (.func 44), args := #[(.tmp 24), (.const (.int .i64 1)), (.const (.int .i64 2147483647))], argTypes := #[3, 3, 3] }, some (22, false)⟩,
  ⟨some 26, .unOp .not 4 (.tmp 25), some (22, false)⟩,
  ⟨some 27, .pick (.tmp 22) (.const (.bool true)) (.tmp 26), none⟩,
  ⟨some 28, .move (.tmp 27), none⟩,
  ⟨some 29, .fieldAddr 41 (.tmp 4) 3, some (28, false)⟩,
  ⟨some 30, .load 3 (.tmp 29), some (28, false)⟩,
  ⟨some 31, .call { callee := .value (.func 44), args := #[(.tmp 30), (.const (.int .i64 1)), (.const (.int .i64 2147483647))], argTypes := #[3, 3, 3] }, some (28, false)⟩,
  ⟨some 32, .unOp .not 4 (.tmp 31), some (28, false)⟩,
  ⟨some 33, .pick (.tmp 28) (.const (.bool true)) (.tmp 32), none⟩,
  ⟨some 34, .move (.tmp 33), none⟩,
  ⟨some 35, .move (.tmp 3), some (34, false)⟩,
  ⟨some 36, .binOp .gtr 3 (.tmp 35) (.const (.int .i64 0)) 3, some (34, false)⟩,
  ⟨some 37, .move (.tmp 36), some (34, false)⟩,
  ⟨some 38, .move (.tmp 0), some (37, true)⟩,
  ⟨some 39, .move (.tmp 3), some (37, true)⟩,
  ⟨some 40, .binOp .sub 3 (.tmp 39) (.const (.int .i64 1)) 3, some (37, true)⟩,
  ⟨some 41, .indexAddr 22 (.tmp 38) (.tmp 40), some (37, true)⟩,
  ⟨some 42, .fieldAddr 41 (.tmp 41) 0, some (37, true)⟩,
  ⟨some 43, .load 3 (.tmp 42), some (37, true)⟩,
  ⟨some 44, .fieldAddr 41 (.tmp 4) 0, some (37, true)⟩,
  ⟨some 45, .load 3 (.tmp 44), some (37, true)⟩,
  ⟨some 46, .binOp .geq 3 (.tmp 43) (.tmp 45) 3, some (37, true)⟩,
  ⟨some 47, .pick (.tmp 37) (.tmp 46) (.const (.bool false)), some (34, false)⟩,
  ⟨some 48, .pick (.tmp 34) (.const (.bool true)) (.tmp 47), none⟩]
def r24_5 : List POp := [
  ⟨some 2, .assign (.const (.bool false)), none⟩]
def r24_6 : List POp := [
  ⟨some 49, .binOp .add 3 (.tmp 7) (.const (.int .i64 1)) 3, none⟩,
  ⟨some 7, .move (.tmp 49), none⟩]
noncomputable def b24_7 : PC := (.seq (.reg r24_2) (.seq (.cond (.tmp 8) .skip (.exit 0)) (.seq (.block 1 (.seq (.reg r24_3) (.seq (.regD 37 r24_4) (.cond (.tmp 48) (.seq (.reg r24_5) .ret) .skip)))) (.reg r24_6))))
def r24_8 : List POp := [
  ⟨some 50, .move (.tmp 0), none⟩,
  ⟨some 51, .call { callee := .builtin .len, args := #[(.tmp 50)], argTypes := #[22] }, none⟩,
  ⟨some 52, .binOp .leq 3 (.tmp 51) (.const (.int .i64 10000)) 3, none⟩,
  ⟨some 2, .assign (.tmp 52), none⟩]
noncomputable def p24 : PC := (.seq (.reg r24_0) (.seq (.seq (.reg r24_1) (.block 0 (.loop b24_7))) (.seq (.reg r24_8) .ret)))
theorem comp24 : (Try.f24.body.map (comp E Try.f24.ntmps)) = some p24 := by kernel_rfl
theorem ev24 {args : List AV} {S : St} {P : AV → St → Prop} (hn : Nat.ble args.length 53 = true) (h : EndsA E 53 [.c p24] .nrm (initTm 0 args .leaf) S (RetQ E [.tmp 2] P)) : ∃ r S', EvA E 24 args S r S' ∧ P r S' := ev_ends (fn := Try.f24) (by kernel_rfl) rfl comp24 (by kernel_rfl) (by kernel_rfl) hn h
/-! slices.Clone[[]hindsight/info.Var,hindsight/info.Var] -/
def r25_0 : List POp := [
  ⟨some 2, .assign (.const (.slice none 0 0)), none⟩]
def r25_1 : List POp := [
  ⟨some 3, .move (.tmp 0), none⟩,
  ⟨some 4, .binOp .eql 23 (.tmp 3) (.const (.slice none 0 0)) 23, none⟩]
def r25_2 : List POp := [
  ⟨some 2, .assign (.const (.slice none 0 0)), none⟩]
def r25_3 : List POp := [
  ⟨some 5, .buildSlice 23 0 #[], none⟩,
  ⟨some 6, .move (.tmp 0), none⟩,
  ⟨some 7, .call { callee := .builtin .append, args := #[(.tmp 5), (.tmp 6)], argTypes := #[23, 23] }, none⟩,
  ⟨some 2, .assign (.tmp 7), none⟩]
noncomputable def p25 : PC := (.seq (.reg r25_0) (.seq (.seq (.reg r25_1) (.cond (.tmp 4) (.seq (.reg r25_2) .ret) .skip)) (.seq (.reg r25_3) .ret)))
theorem comp25 : (Try.f25.body.map (comp E Try.f25.ntmps)) = some p25 := by kernel_rfl
theorem ev25 {args : List AV} {S : St} {P : AV → St → Prop} (hn : Nat.ble args.length 8 = true) (h : EndsA E 8 [.c p25] .nrm (initTm 0 args .leaf) S (RetQ E [.tmp 2] P)) : ∃ r S', EvA E 25 args S r S' ∧ P r S' := ev_ends (fn := Try.f25) (by kernel_rfl) rfl comp25 (by kernel_rfl) (by kernel_rfl) hn h
/-! strings.Compare -/
def r29_0 : List POp := [
  ⟨some 4, .assign (.const (.int .i64 0)), none⟩]
def r29_1 : List POp := [
  ⟨some 5, .move (.tmp 0), none⟩,
  ⟨some 6, .move (.tmp 1), none⟩,
  ⟨some 7, .call { callee := .value (.func 47), args := #[(.tmp 5), (.tmp 6)], argTypes := #[9, 9] }, none⟩,
  ⟨some 4, .assign (.tmp 7), none⟩]
noncomputable def p29 : PC := (.seq (.reg r29_0) (.seq (.reg r29_1) .ret))
theorem comp29 : (Try.f29.body.map (comp E Try.f29.ntmps)) = some p29 := by kernel_rfl
theorem ev29 {args : List AV} {S : St} {P : AV → St → Prop} (hn : Nat.ble args.length 8 = true) (h : EndsA E 8 [.c p29] .nrm (initTm 0 args .leaf) S (RetQ E [.tmp 4] P)) : ∃ r S', EvA E 29 args S r S' ∧ P r S' := ev_ends (fn := Try.f29) (by kernel_rfl) rfl comp29 (by kernel_rfl) (by kernel_rfl) hn h
/-! hindsight/info.variable -/
def r31_0 : List POp := [
  ⟨some 1, .box 43 (.tmp 0), none⟩,
  ⟨some 2, .assign (.const (.bool false)), none⟩]
def r31_1 : List POp := [
  ⟨some 3, .fieldAddr 43 (.tmp 1) 0, none⟩,
  ⟨some 4, .load 3 (.tmp 3), none⟩,
  ⟨some 5, .call { callee := .value (.func 44), args := #[(.tmp 4), (.const (.int .i64 0)), (.const (.int .i64 2147483647))], argTypes := #[3, 3, 3] }, none⟩,
  ⟨some 6, .move (.tmp 5), none⟩,
  ⟨some 7, .fieldAddr 43 (.tmp 1) 1, some (6, true)⟩,
  ⟨some 8, .load 3 (.tmp 7), some (6, true)⟩,
  ⟨some 9, .call { callee := .value (.func 44), args := #[(.tmp 8), (.const (.int .i64 0)), (.const (.int .i64 2147483647))], argTypes := #[3, 3, 3] }, some (6, true)⟩,
  ⟨some 10, .pick (.tmp 6) (.tmp 9) (.const (.bool false)), none⟩,
  ⟨some 11, .move (.tmp 10), none⟩,
  ⟨some 12, .fieldAddr 43 (.tmp 1) 0, some (11, true)⟩,
  ⟨some 13, .load 3 (.tmp 12), some (11, true)⟩,
  ⟨some 14, .fieldAddr 43 (.tmp 1) 1, some (11, true)⟩,
  ⟨some 15, .load 3 (.tmp 14), some (11, true)⟩,
  ⟨some 16, .binOp .lss 3 (.tmp 13) (.tmp 15) 3, some (11, true)⟩,
  ⟨some 17, .pick (.tmp 11) (.tmp 16) (.const (.bool false)), none⟩,
  ⟨some 18, .move (.tmp 17), none⟩,
  ⟨some 19, .fieldAddr 43 (.tmp 1) 2, some (18, true)⟩,
  ⟨some 20, .load 9 (.tmp 19), some (18, true)⟩,
  ⟨some 21, .call { callee := .builtin .len, args := #[(.tmp 20)], argTypes := #[9] }, some (18, true)⟩,
  ⟨some 22, .call { callee := .value (.func 44), args := #[(.tmp 21), (.const (.int .i64 1)), (.const (.int .i64 4000))], argTypes := #[3, 3, 3] }, some (18, true)⟩,
  ⟨some 23, .pick (.tmp 18) (.tmp 22) (.const (.bool false)), none⟩,
  ⟨some 24, .move (.tmp 23), none⟩,
  ⟨some 25, .fieldAddr 43 (.tmp 1) 3, some (24, true)⟩,
  ⟨some 26, .load 3 (.tmp 25), some (24, true)⟩,
  ⟨some 27, .call { callee := .value (.func 44), args := #[(.tmp 26), (.const (.int .i64 1)), (.const (.int .i64 3))], argTypes := #[3, 3, 3] }, some (24, true)⟩,
  ⟨some 28, .pick (.tmp 24) (.tmp 27) (.const (.bool false)), none⟩,
  ⟨some 29, .move (.tmp 28), none⟩,
  ⟨some 30, .fieldAddr 43 (.tmp 1) 4, some (29, true)⟩,
  ⟨some 31, .load 3 (.tmp 30), some (29, true)⟩,
  ⟨some 32, .call { callee := .value (.func 44), args := #[(.tmp 31), (.const (.int .i64 0)), (.const (.int .i64 65535))], argTypes := #[3, 3, 3] }, some (29, true)⟩,
  ⟨some 33, .pick (.tmp 29) (.tmp 32) (.const (.bool false)), none⟩,
  ⟨some 34, .move (.tmp 33), none⟩,
  ⟨some 35, .fieldAddr 43 (.tmp 1) 5, some (34, true)⟩,
  ⟨some 36, .load 9 (.tmp 35), some (34, true)⟩,
  ⟨some 37, .call { callee := .builtin .len, args := #[(.tmp 36)], argTypes := #[9] }, some (34, true)⟩,
  ⟨some 38, .binOp .leq 3 (.tmp 37) (.const (.int .i64 4000000)) 3, some (34, true)⟩,
  ⟨some 39, .pick (.tmp 34) (.tmp 38) (.const (.bool false)), none⟩,
  ⟨some 2, .assign (.tmp 39), none⟩]
noncomputable def p31 : PC := (.seq (.reg r31_0) (.seq (.reg r31_1) .ret))
theorem comp31 : (Try.f31.body.map (comp E Try.f31.ntmps)) = some p31 := by kernel_rfl
theorem ev31 {args : List AV} {S : St} {P : AV → St → Prop} (hn : Nat.ble args.length 40 = true) (h : EndsA E 40 [.c p31] .nrm (initTm 0 args .leaf) S (RetQ E [.tmp 2] P)) : ∃ r S', EvA E 31 args S r S' ∧ P r S' := ev_ends (fn := Try.f31) (by kernel_rfl) rfl comp31 (by kernel_rfl) (by kernel_rfl) hn h
/-! hindsight/info.number -/
def r32_0 : List POp := [
  ⟨some 4, .assign (.const (.slice none 0 0)), none⟩]
def r32_1 : List POp := [
  ⟨some 5, .move (.tmp 1), none⟩,
  ⟨some 6, .binOp .geq 3 (.tmp 5) (.const (.int .i64 128)) 3, none⟩]
def r32_2 : List POp := [
  ⟨some 9, .move (.tmp 0), none⟩,
  ⟨some 10, .move (.tmp 1), none⟩,
  ⟨some 11, .convert 3 5 (.tmp 10), none⟩,
  ⟨some 12, .binOp .or 5 (.tmp 11) (.const (.int .u8 128)) 5, none⟩,
  ⟨some 13, .buildSlice 28 1 #[(0, (.tmp 12))], none⟩,
  ⟨some 14, .call { callee := .builtin .append, args := #[(.tmp 9), (.tmp 13)], argTypes := #[28, 28] }, none⟩,
  ⟨some 0, .assign (.tmp 14), none⟩]
def r32_3 : List POp := [
  ⟨some 7, .move (.tmp 1), none⟩,
  ⟨some 8, .binOp .shr 3 (.tmp 7) (.const (.int .u64 7)) 90, none⟩,
  ⟨some 1, .assign (.tmp 8), none⟩]
noncomputable def b32_4 : PC := (.seq (.seq (.reg r32_1) (.cond (.tmp 6) .skip (.exit 0))) (.seq (.block 1 (.reg r32_2)) (.reg r32_3)))
def r32_5 : List POp := [
  ⟨some 15, .move (.tmp 0), none⟩,
  ⟨some 16, .move (.tmp 1), none⟩,
  ⟨some 17, .convert 3 5 (.tmp 16), none⟩,
  ⟨some 18, .buildSlice 28 1 #[(0, (.tmp 17))], none⟩,
  ⟨some 19, .call { callee := .builtin .append, args := #[(.tmp 15), (.tmp 18)], argTypes := #[28, 28] }, none⟩,
  ⟨some 4, .assign (.tmp 19), none⟩]
noncomputable def p32 : PC := (.seq (.reg r32_0) (.seq (.block 0 (.loop b32_4)) (.seq (.reg r32_5) .ret)))
theorem comp32 : (Try.f32.body.map (comp E Try.f32.ntmps)) = some p32 := by kernel_rfl
theorem ev32 {args : List AV} {S : St} {P : AV → St → Prop} (hn : Nat.ble args.length 20 = true) (h : EndsA E 20 [.c p32] .nrm (initTm 0 args .leaf) S (RetQ E [.tmp 4] P)) : ∃ r S', EvA E 32 args S r S' ∧ P r S' := ev_ends (fn := Try.f32) (by kernel_rfl) rfl comp32 (by kernel_rfl) (by kernel_rfl) hn h
/-! hindsight/info.text -/
def r33_0 : List POp := [
  ⟨some 4, .assign (.const (.slice none 0 0)), none⟩]
def r33_1 : List POp := [
  ⟨some 5, .move (.tmp 0), none⟩,
  ⟨some 6, .move (.tmp 1), none⟩,
  ⟨some 7, .call { callee := .builtin .len, args := #[(.tmp 6)], argTypes := #[9] }, none⟩,
  ⟨some 8, .call { callee := .value (.func 32), args := #[(.tmp 5), (.tmp 7)], argTypes := #[28, 3] }, none⟩,
  ⟨some 9, .move (.tmp 1), none⟩,
  ⟨some 10, .call { callee := .builtin .append, args := #[(.tmp 8), (.tmp 9)], argTypes := #[28, 9] }, none⟩,
  ⟨some 4, .assign (.tmp 10), none⟩]
noncomputable def p33 : PC := (.seq (.reg r33_0) (.seq (.reg r33_1) .ret))
theorem comp33 : (Try.f33.body.map (comp E Try.f33.ntmps)) = some p33 := by kernel_rfl
theorem ev33 {args : List AV} {S : St} {P : AV → St → Prop} (hn : Nat.ble args.length 11 = true) (h : EndsA E 11 [.c p33] .nrm (initTm 0 args .leaf) S (RetQ E [.tmp 4] P)) : ∃ r S', EvA E 33 args S r S' ∧ P r S' := ev_ends (fn := Try.f33) (by kernel_rfl) rfl comp33 (by kernel_rfl) (by kernel_rfl) hn h
/-! (*hindsight/info.reader).number -/
def r34_0 : List POp := [
  ⟨some 4, .assign (.const (.int .i64 0)), none⟩]
def r34_1 : List POp := [
  ⟨some 5, .assign (.const (.int .i64 0)), none⟩]
def r34_2 : List POp := [
  ⟨some 8, .move (.tmp 0), none⟩,
  ⟨some 9, .nilCheck (.tmp 8), none⟩,
  ⟨some 10, .fieldAddr 75 (.tmp 9) 0, none⟩,
  ⟨some 11, .load 28 (.tmp 10), none⟩,
  ⟨some 12, .move (.tmp 0), none⟩,
  ⟨some 13, .nilCheck (.tmp 12), none⟩,
  ⟨some 14, .fieldAddr 75 (.tmp 13) 0, none⟩,
  ⟨some 15, .load 28 (.tmp 14), none⟩,
  ⟨some 16, .call { callee := .builtin .len, args := #[(.tmp 15)], argTypes := #[28] }, none⟩,
  ⟨some 17, .call { callee := .builtin .min, args := #[(.tmp 16), (.const (.int .i64 5))], argTypes := #[3, 3] }, none⟩,
  ⟨some 18, .slice 28 (.tmp 11) none (some (.tmp 17)) none, none⟩,
  ⟨some 19, .call { callee := .builtin .len, args := #[(.tmp 18)], argTypes := #[28] }, none⟩,
  ⟨some 20, .move (.const (.int .i64 0)), none⟩]
def r34_3 : List POp := [
  ⟨some 21, .binOp .lss 3 (.tmp 20) (.tmp 19) 3, none⟩]
def r34_4 : List POp := [
  ⟨some 22, .move (.tmp 20), none⟩,
  ⟨some 23, .indexAddr 28 (.tmp 18) (.tmp 20), none⟩,
  ⟨some 24, .load 5 (.tmp 23), none⟩,
  ⟨some 6, .assign (.tmp 22), none⟩,
  ⟨some 7, .assign (.tmp 24), none⟩]
def r34_5 : List POp := [
  ⟨some 25, .move (.tmp 5), none⟩,
  ⟨some 26, .move (.tmp 7), none⟩,
  ⟨some 27, .binOp .andNot 5 (.tmp 26) (.const (.int .u8 128)) 5, none⟩,
  ⟨some 28, .convert 5 3 (.tmp 27), none⟩,
  ⟨some 29, .move (.tmp 6), none⟩,
  ⟨some 30, .binOp .mul 3 (.const (.int .i64 7)) (.tmp 29) 3, none⟩,
  ⟨some 31, .binOp .shl 3 (.tmp 28) (.tmp 30) 3, none⟩,
  ⟨some 32, .binOp .or 3 (.tmp 25) (.tmp 31) 3, none⟩,
  ⟨some 5, .assign (.tmp 32), none⟩]
def r34_6 : List POp := [
  ⟨some 33, .move (.tmp 7), none⟩,
  ⟨some 34, .binOp .and 5 (.tmp 33) (.const (.int .u8 128)) 5, none⟩,
  ⟨some 35, .binOp .neq 5 (.tmp 34) (.const (.int .u8 0)) 5, none⟩]
def r34_7 : List POp := [
  ⟨some 36, .move (.tmp 6), none⟩,
  ⟨some 37, .binOp .gtr 3 (.tmp 36) (.const (.int .i64 0)) 3, none⟩,
  ⟨some 38, .move (.tmp 37), none⟩,
  ⟨some 39, .move (.tmp 7), some (38, true)⟩,
  ⟨some 40, .binOp .eql 5 (.tmp 39) (.const (.int .u8 0)) 5, some (38, true)⟩,
  ⟨some 41, .pick (.tmp 38) (.tmp 40) (.const (.bool false)), none⟩,
  ⟨some 42, .move (.tmp 41), none⟩,
  ⟨some 43, .move (.tmp 5), some (42, false)⟩,
  ⟨some 44, .move (.tmp 1), some (42, false)⟩,
  ⟨some 45, .binOp .gtr 3 (.tmp 43) (.tmp 44) 3, some (42, false)⟩,
  ⟨some 46, .pick (.tmp 42) (.const (.bool true)) (.tmp 45), none⟩]
def r34_8 : List POp := [
  ⟨some 47, .move (.tmp 0), none⟩,
  ⟨some 48, .move (.tmp 0), none⟩,
  ⟨some 49, .nilCheck (.tmp 48), none⟩,
  ⟨some 50, .fieldAddr 75 (.tmp 49) 0, none⟩,
  ⟨some 51, .load 28 (.tmp 50), none⟩,
  ⟨some 52, .move (.tmp 6), none⟩,
  ⟨some 53, .binOp .add 3 (.tmp 52) (.const (.int .i64 1)) 3, none⟩,
  ⟨some 54, .slice 28 (.tmp 51) (some (.tmp 53)) none none, none⟩,
  ⟨some 55, .nilCheck (.tmp 47), none⟩,
  ⟨some 56, .fieldAddr 75 (.tmp 55) 0, none⟩,
  ⟨none, .store 28 (.tmp 56) (.tmp 54), none⟩]
def r34_9 : List POp := [
  ⟨some 57, .move (.tmp 5), none⟩,
  ⟨some 4, .assign (.tmp 57), none⟩]
def r34_10 : List POp := [
  ⟨some 58, .binOp .add 3 (.tmp 20) (.const (.int .i64 1)) 3, none⟩,
  ⟨some 20, .move (.tmp 58), none⟩]
noncomputable def b34_11 : PC := (.seq (.reg r34_3) (.seq (.cond (.tmp 21) .skip (.exit 0)) (.seq (.block 1 (.seq (.reg r34_4) (.seq (.reg r34_5) (.seq (.seq (.reg r34_6) (.cond (.tmp 35) (.exit 1) .skip)) (.seq (.seq (.reg r34_7) (.cond (.tmp 46) (.exit 0) .skip)) (.seq (.reg r34_8) (.seq (.reg r34_9) .ret))))))) (.reg r34_10))))
def r34_12 : List POp := [
  ⟨some 59, .move (.tmp 0), none⟩,
  ⟨some 60, .move (.tmp 0), none⟩,
  ⟨some 61, .nilCheck (.tmp 59), none⟩,
  ⟨some 62, .fieldAddr 75 (.tmp 61) 0, none⟩,
  ⟨none, .store 28 (.tmp 62) (.const (.slice none 0 0)), none⟩,
  ⟨some 63, .nilCheck (.tmp 60), none⟩,
  ⟨some 64, .fieldAddr 75 (.tmp 63) 1, none⟩,
  ⟨none, .store 4 (.tmp 64) (.const (.bool true)), none⟩]
def r34_13 : List POp := [
  ⟨some 4, .assign (.const (.int .i64 0)), none⟩]
noncomputable def p34 : PC := (.seq (.reg r34_0) (.seq (.reg r34_1) (.seq (.seq (.regD 13 r34_2) (.block 0 (.loop b34_11))) (.seq (.reg r34_12) (.seq (.reg r34_13) .ret)))))
theorem comp34 : (Try.f34.body.map (comp E Try.f34.ntmps)) = some p34 := by kernel_rfl
theorem ev34 {args : List AV} {S : St} {P : AV → St → Prop} (hn : Nat.ble args.length 65 = true) (h : EndsA E 65 [.c p34] .nrm (initTm 0 args .leaf) S (RetQ E [.tmp 4] P)) : ∃ r S', EvA E 34 args S r S' ∧ P r S' := ev_ends (fn := Try.f34) (by kernel_rfl) rfl comp34 (by kernel_rfl) (by kernel_rfl) hn h
/-! (*hindsight/info.reader).text -/
def r35_0 : List POp := [
  ⟨some 4, .assign (.const (.string ⟨#[]⟩)), none⟩]
def r35_1 : List POp := [
  ⟨some 7, .move (.tmp 0), none⟩,
  ⟨some 8, .move (.tmp 1), none⟩,
  ⟨some 9, .call { callee := .value (.func 34), args := #[(.tmp 7), (.tmp 8)], argTypes := #[73, 3] }, none⟩,
  ⟨some 5, .assign (.tmp 9), none⟩]
def r35_2 : List POp := [
  ⟨some 10, .move (.tmp 5), none⟩,
  ⟨some 11, .move (.tmp 0), none⟩,
  ⟨some 12, .nilCheck (.tmp 11), none⟩,
  ⟨some 13, .fieldAddr 75 (.tmp 12) 0, none⟩,
  ⟨some 14, .load 28 (.tmp 13), none⟩,
  ⟨some 15, .call { callee := .builtin .len, args := #[(.tmp 14)], argTypes := #[28] }, none⟩,
  ⟨some 16, .binOp .gtr 3 (.tmp 10) (.tmp 15) 3, none⟩]
def r35_3 : List POp := [
  ⟨some 17, .move (.tmp 0), none⟩,
  ⟨some 18, .move (.tmp 0), none⟩,
  ⟨some 19, .nilCheck (.tmp 17), none⟩,
  ⟨some 20, .fieldAddr 75 (.tmp 19) 0, none⟩,
  ⟨none, .store 28 (.tmp 20) (.const (.slice none 0 0)), none⟩,
  ⟨some 21, .nilCheck (.tmp 18), none⟩,
  ⟨some 22, .fieldAddr 75 (.tmp 21) 1, none⟩,
  ⟨none, .store 4 (.tmp 22) (.const (.bool true)), none⟩]
def r35_4 : List POp := [
  ⟨some 4, .assign (.const (.string ⟨#[]⟩)), none⟩]
def r35_5 : List POp := [
  ⟨some 23, .move (.tmp 0), none⟩,
  ⟨some 24, .nilCheck (.tmp 23), none⟩,
  ⟨some 25, .fieldAddr 75 (.tmp 24) 0, none⟩,
  ⟨some 26, .load 28 (.tmp 25), none⟩,
  ⟨some 27, .move (.tmp 5), none⟩,
  ⟨some 28, .slice 28 (.tmp 26) none (some (.tmp 27)) none, none⟩,
  ⟨some 29, .convert 28 9 (.tmp 28), none⟩,
  ⟨some 6, .assign (.tmp 29), none⟩]
def r35_6 : List POp := [
  ⟨some 30, .move (.tmp 0), none⟩,
  ⟨some 31, .move (.tmp 0), none⟩,
  ⟨some 32, .nilCheck (.tmp 31), none⟩,
  ⟨some 33, .fieldAddr 75 (.tmp 32) 0, none⟩,
  ⟨some 34, .load 28 (.tmp 33), none⟩,
  ⟨some 35, .move (.tmp 5), none⟩,
  ⟨some 36, .slice 28 (.tmp 34) (some (.tmp 35)) none none, none⟩,
  ⟨some 37, .nilCheck (.tmp 30), none⟩,
  ⟨some 38, .fieldAddr 75 (.tmp 37) 0, none⟩,
  ⟨none, .store 28 (.tmp 38) (.tmp 36), none⟩]
def r35_7 : List POp := [
  ⟨some 39, .move (.tmp 6), none⟩,
  ⟨some 4, .assign (.tmp 39), none⟩]
noncomputable def p35 : PC := (.seq (.reg r35_0) (.seq (.reg r35_1) (.seq (.seq (.reg r35_2) (.cond (.tmp 16) (.seq (.reg r35_3) (.seq (.reg r35_4) .ret)) .skip)) (.seq (.reg r35_5) (.seq (.reg r35_6) (.seq (.reg r35_7) .ret))))))
theorem comp35 : (Try.f35.body.map (comp E Try.f35.ntmps)) = some p35 := by kernel_rfl
theorem ev35 {args : List AV} {S : St} {P : AV → St → Prop} (hn : Nat.ble args.length 40 = true) (h : EndsA E 40 [.c p35] .nrm (initTm 0 args .leaf) S (RetQ E [.tmp 4] P)) : ∃ r S', EvA E 35 args S r S' ∧ P r S' := ev_ends (fn := Try.f35) (by kernel_rfl) rfl comp35 (by kernel_rfl) (by kernel_rfl) hn h
/-! (*hindsight/hindsightref11.reader).num -/
def r36_0 : List POp := [
  ⟨some 2, .assign (.const (.int .i64 0)), none⟩]
def r36_1 : List POp := [
  ⟨some 6, .move (.tmp 0), none⟩,
  ⟨some 7, .nilCheck (.tmp 6), none⟩,
  ⟨some 8, .fieldAddr 80 (.tmp 7) 0, none⟩,
  ⟨some 9, .load 28 (.tmp 8), none⟩,
  ⟨some 10, .call { callee := .value (.func 49), args := #[(.tmp 9)], argTypes := #[28] }, none⟩,
  ⟨some 5, .move (.tmp 10), none⟩,
  ⟨some 11, .extract (.tmp 5) 0, none⟩,
  ⟨some 12, .extract (.tmp 5) 1, none⟩,
  ⟨some 3, .assign (.tmp 11), none⟩,
  ⟨some 4, .assign (.tmp 12), none⟩]
def r36_2 : List POp := [
  ⟨some 13, .move (.tmp 0), none⟩,
  ⟨some 14, .nilCheck (.tmp 13), none⟩,
  ⟨some 15, .fieldAddr 80 (.tmp 14) 1, none⟩,
  ⟨some 16, .load 4 (.tmp 15), none⟩,
  ⟨some 17, .move (.tmp 16), none⟩,
  ⟨some 18, .move (.tmp 4), some (17, false)⟩,
  ⟨some 19, .binOp .eql 3 (.tmp 18) (.const (.int .i64 0)) 3, some (17, false)⟩,
  ⟨some 20, .pick (.tmp 17) (.const (.bool true)) (.tmp 19), none⟩,
  ⟨some 21, .move (.tmp 20), none⟩,
  ⟨some 22, .move (.tmp 3), some (21, false)⟩,
  ⟨some 23, .binOp .gtr 85 (.tmp 22) (.const (.int .u64 2147483647)) 85, some (21, false)⟩,
  ⟨some 24, .pick (.tmp 21) (.const (.bool true)) (.tmp 23), none⟩]
def r36_3 : List POp := [
  ⟨some 25, .move (.tmp 0), none⟩,
  ⟨some 26, .nilCheck (.tmp 25), none⟩,
  ⟨some 27, .fieldAddr 80 (.tmp 26) 1, none⟩,
  ⟨none, .store 4 (.tmp 27) (.const (.bool true)), none⟩]
def r36_4 : List POp := [
  ⟨some 2, .assign (.const (.int .i64 0)), none⟩]
def r36_5 : List POp := [
  ⟨some 28, .move (.tmp 0), none⟩,
  ⟨some 29, .move (.tmp 0), none⟩,
  ⟨some 30, .nilCheck (.tmp 29), none⟩,
  ⟨some 31, .fieldAddr 80 (.tmp 30) 0, none⟩,
  ⟨some 32, .load 28 (.tmp 31), none⟩,
  ⟨some 33, .move (.tmp 4), none⟩,
  ⟨some 34, .slice 28 (.tmp 32) (some (.tmp 33)) none none, none⟩,
  ⟨some 35, .nilCheck (.tmp 28), none⟩,
  ⟨some 36, .fieldAddr 80 (.tmp 35) 0, none⟩,
  ⟨none, .store 28 (.tmp 36) (.tmp 34), none⟩]
def r36_6 : List POp := [
  ⟨some 37, .move (.tmp 3), none⟩,
  ⟨some 38, .convert 85 3 (.tmp 37), none⟩,
  ⟨some 2, .assign (.tmp 38), none⟩]
noncomputable def p36 : PC := (.seq (.reg r36_0) (.seq (.reg r36_1) (.seq (.seq (.reg r36_2) (.cond (.tmp 24) (.seq (.reg r36_3) (.seq (.reg r36_4) .ret)) .skip)) (.seq (.reg r36_5) (.seq (.reg r36_6) .ret)))))
theorem comp36 : (Try.f36.body.map (comp E Try.f36.ntmps)) = some p36 := by kernel_rfl
theorem ev36 {args : List AV} {S : St} {P : AV → St → Prop} (hn : Nat.ble args.length 39 = true) (h : EndsA E 39 [.c p36] .nrm (initTm 0 args .leaf) S (RetQ E [.tmp 2] P)) : ∃ r S', EvA E 36 args S r S' ∧ P r S' := ev_ends (fn := Try.f36) (by kernel_rfl) rfl comp36 (by kernel_rfl) (by kernel_rfl) hn h
/-! (*hindsight/hindsightref11.reader).text -/
def r37_0 : List POp := [
  ⟨some 2, .assign (.const (.string ⟨#[]⟩)), none⟩]
def r37_1 : List POp := [
  ⟨some 5, .move (.tmp 0), none⟩,
  ⟨some 6, .call { callee := .value (.func 36), args := #[(.tmp 5)], argTypes := #[78] }, none⟩,
  ⟨some 3, .assign (.tmp 6), none⟩]
def r37_2 : List POp := [
  ⟨some 7, .move (.tmp 0), none⟩,
  ⟨some 8, .nilCheck (.tmp 7), none⟩,
  ⟨some 9, .fieldAddr 80 (.tmp 8) 1, none⟩,
  ⟨some 10, .load 4 (.tmp 9), none⟩,
  ⟨some 11, .move (.tmp 10), none⟩,
  ⟨some 12, .move (.tmp 3), some (11, false)⟩,
  ⟨some 13, .move (.tmp 0), some (11, false)⟩,
  ⟨some 14, .nilCheck (.tmp 13), some (11, false)⟩,
  ⟨some 15, .fieldAddr 80 (.tmp 14) 0, some (11, false)⟩,
  ⟨some 16, .load 28 (.tmp 15), some (11, false)⟩,
  ⟨some 17, .call { callee := .builtin .len, args := #[(.tmp 16)], argTypes := #[28] }, some (11, false)⟩,
  ⟨some 18, .binOp .gtr 3 (.tmp 12) (.tmp 17) 3, some (11, false)⟩,
  ⟨some 19, .pick (.tmp 11) (.const (.bool true)) (.tmp 18), none⟩]
def r37_3 : List POp := [
  ⟨some 20, .move (.tmp 0), none⟩,
  ⟨some 21, .nilCheck (.tmp 20), none⟩,
  ⟨some 22, .fieldAddr 80 (.tmp 21) 1, none⟩,
  ⟨none, .store 4 (.tmp 22) (.const (.bool true)), none⟩]
def r37_4 : List POp := [
  ⟨some 2, .assign (.const (.string ⟨#[]⟩)), none⟩]
def r37_5 : List POp := [
  ⟨some 23, .move (.tmp 0), none⟩,
  ⟨some 24, .nilCheck (.tmp 23), none⟩,
  ⟨some 25, .fieldAddr 80 (.tmp 24) 0, none⟩,
  ⟨some 26, .load 28 (.tmp 25), none⟩,
  ⟨some 27, .move (.tmp 3), none⟩,
  ⟨some 28, .slice 28 (.tmp 26) none (some (.tmp 27)) none, none⟩,
  ⟨some 29, .convert 28 9 (.tmp 28), none⟩,
  ⟨some 4, .assign (.tmp 29), none⟩]
def r37_6 : List POp := [
  ⟨some 30, .move (.tmp 0), none⟩,
  ⟨some 31, .move (.tmp 0), none⟩,
  ⟨some 32, .nilCheck (.tmp 31), none⟩,
  ⟨some 33, .fieldAddr 80 (.tmp 32) 0, none⟩,
  ⟨some 34, .load 28 (.tmp 33), none⟩,
  ⟨some 35, .move (.tmp 3), none⟩,
  ⟨some 36, .slice 28 (.tmp 34) (some (.tmp 35)) none none, none⟩,
  ⟨some 37, .nilCheck (.tmp 30), none⟩,
  ⟨some 38, .fieldAddr 80 (.tmp 37) 0, none⟩,
  ⟨none, .store 28 (.tmp 38) (.tmp 36), none⟩]
def r37_7 : List POp := [
  ⟨some 39, .move (.tmp 4), none⟩,
  ⟨some 2, .assign (.tmp 39), none⟩]
noncomputable def p37 : PC := (.seq (.reg r37_0) (.seq (.reg r37_1) (.seq (.seq (.reg r37_2) (.cond (.tmp 19) (.seq (.reg r37_3) (.seq (.reg r37_4) .ret)) .skip)) (.seq (.reg r37_5) (.seq (.reg r37_6) (.seq (.reg r37_7) .ret))))))
theorem comp37 : (Try.f37.body.map (comp E Try.f37.ntmps)) = some p37 := by kernel_rfl
theorem ev37 {args : List AV} {S : St} {P : AV → St → Prop} (hn : Nat.ble args.length 40 = true) (h : EndsA E 40 [.c p37] .nrm (initTm 0 args .leaf) S (RetQ E [.tmp 2] P)) : ∃ r S', EvA E 37 args S r S' ∧ P r S' := ev_ends (fn := Try.f37) (by kernel_rfl) rfl comp37 (by kernel_rfl) (by kernel_rfl) hn h
/-! hindsight/hindsightref11.pc -/
def r38_0 : List POp := [
  ⟨some 2, .assign (.const (.bool false)), none⟩]
def r38_1 : List POp := [
  ⟨some 3, .move (.tmp 0), none⟩,
  ⟨some 4, .binOp .geq 3 (.tmp 3) (.const (.int .i64 0)) 3, none⟩,
  ⟨some 5, .move (.tmp 4), none⟩,
  ⟨some 6, .move (.tmp 0), some (5, true)⟩,
  ⟨some 7, .binOp .leq 3 (.tmp 6) (.const (.int .i64 2147483647)) 3, some (5, true)⟩,
  ⟨some 8, .pick (.tmp 5) (.tmp 7) (.const (.bool false)), none⟩,
  ⟨some 2, .assign (.tmp 8), none⟩]
noncomputable def p38 : PC := (.seq (.reg r38_0) (.seq (.reg r38_1) .ret))
theorem comp38 : (Try.f38.body.map (comp E Try.f38.ntmps)) = some p38 := by kernel_rfl
theorem ev38 {args : List AV} {S : St} {P : AV → St → Prop} (hn : Nat.ble args.length 9 = true) (h : EndsA E 9 [.c p38] .nrm (initTm 0 args .leaf) S (RetQ E [.tmp 2] P)) : ∃ r S', EvA E 38 args S r S' ∧ P r S' := ev_ends (fn := Try.f38) (by kernel_rfl) rfl comp38 (by kernel_rfl) (by kernel_rfl) hn h
/-! hindsight/hindsightref11.line -/
def r39_0 : List POp := [
  ⟨some 2, .assign (.const (.bool false)), none⟩]
def r39_1 : List POp := [
  ⟨some 3, .move (.tmp 0), none⟩,
  ⟨some 4, .binOp .geq 3 (.tmp 3) (.const (.int .i64 1)) 3, none⟩,
  ⟨some 5, .move (.tmp 4), none⟩,
  ⟨some 6, .move (.tmp 0), some (5, true)⟩,
  ⟨some 7, .binOp .leq 3 (.tmp 6) (.const (.int .i64 2147483647)) 3, some (5, true)⟩,
  ⟨some 8, .pick (.tmp 5) (.tmp 7) (.const (.bool false)), none⟩,
  ⟨some 2, .assign (.tmp 8), none⟩]
noncomputable def p39 : PC := (.seq (.reg r39_0) (.seq (.reg r39_1) .ret))
theorem comp39 : (Try.f39.body.map (comp E Try.f39.ntmps)) = some p39 := by kernel_rfl
theorem ev39 {args : List AV} {S : St} {P : AV → St → Prop} (hn : Nat.ble args.length 9 = true) (h : EndsA E 9 [.c p39] .nrm (initTm 0 args .leaf) S (RetQ E [.tmp 2] P)) : ∃ r S', EvA E 39 args S r S' ∧ P r S' := ev_ends (fn := Try.f39) (by kernel_rfl) rfl comp39 (by kernel_rfl) (by kernel_rfl) hn h
/-! hindsight/hindsightref11.group -/
def r40_0 : List POp := [
  ⟨some 4, .assign (.const (.slice none 0 0)), none⟩]
def r40_1 : List POp := [
  ⟨some 5, .move (.tmp 1), none⟩,
  ⟨some 6, .binOp .geq 85 (.tmp 5) (.const (.int .u64 128)) 85, none⟩]
def r40_2 : List POp := [
  ⟨some 7, .move (.tmp 0), none⟩,
  ⟨some 8, .move (.tmp 1), none⟩,
  ⟨some 9, .binOp .rem 85 (.tmp 8) (.const (.int .u64 128)) 85, none⟩,
  ⟨some 10, .convert 85 5 (.tmp 9), none⟩,
  ⟨some 11, .binOp .add 5 (.tmp 10) (.const (.int .u8 128)) 5, none⟩,
  ⟨some 12, .buildSlice 28 1 #[(0, (.tmp 11))], none⟩,
  ⟨some 13, .call { callee := .builtin .append, args := #[(.tmp 7), (.tmp 12)], argTypes := #[28, 28] }, none⟩,
  ⟨some 0, .assign (.tmp 13), none⟩]
def r40_3 : List POp := [
  ⟨some 14, .move (.tmp 1), none⟩,
  ⟨some 15, .binOp .quo 85 (.tmp 14) (.const (.int .u64 128)) 85, none⟩,
  ⟨some 1, .assign (.tmp 15), none⟩]
noncomputable def b40_4 : PC := (.seq (.seq (.reg r40_1) (.cond (.tmp 6) .skip (.exit 0))) (.block 1 (.seq (.reg r40_2) (.reg r40_3))))
def r40_5 : List POp := [
  ⟨some 16, .move (.tmp 0), none⟩,
  ⟨some 17, .move (.tmp 1), none⟩,
  ⟨some 18, .convert 85 5 (.tmp 17), none⟩,
  ⟨some 19, .buildSlice 28 1 #[(0, (.tmp 18))], none⟩,
  ⟨some 20, .call { callee := .builtin .append, args := #[(.tmp 16), (.tmp 19)], argTypes := #[28, 28] }, none⟩,
  ⟨some 4, .assign (.tmp 20), none⟩]
noncomputable def p40 : PC := (.seq (.reg r40_0) (.seq (.block 0 (.loop b40_4)) (.seq (.reg r40_5) .ret)))
theorem comp40 : (Try.f40.body.map (comp E Try.f40.ntmps)) = some p40 := by kernel_rfl
theorem ev40 {args : List AV} {S : St} {P : AV → St → Prop} (hn : Nat.ble args.length 21 = true) (h : EndsA E 21 [.c p40] .nrm (initTm 0 args .leaf) S (RetQ E [.tmp 4] P)) : ∃ r S', EvA E 40 args S r S' ∧ P r S' := ev_ends (fn := Try.f40) (by kernel_rfl) rfl comp40 (by kernel_rfl) (by kernel_rfl) hn h
/-! slices.SortStableFunc[[]hindsight/info.Var,hindsight/info.Var] -/
def r41_0 : List POp := [
  ⟨some 4, .move (.tmp 0), none⟩,
  ⟨some 5, .move (.tmp 0), none⟩,
  ⟨some 6, .call { callee := .builtin .len, args := #[(.tmp 5)], argTypes := #[23] }, none⟩,
  ⟨some 7, .move (.tmp 1), none⟩,
  ⟨some 8, .call { callee := .value (.func 50), args := #[(.tmp 4), (.tmp 6), (.tmp 7)], argTypes := #[23, 3, 69] }, none⟩]
noncomputable def p41 : PC := (.reg r41_0)
theorem comp41 : (Try.f41.body.map (comp E Try.f41.ntmps)) = some p41 := by kernel_rfl
theorem ev41 {args : List AV} {S : St} {P : AV → St → Prop} (hn : Nat.ble args.length 9 = true) (h : EndsA E 9 [.c p41] .nrm (initTm 0 args .leaf) S (RetQ E [] P)) : ∃ r S', EvA E 41 args S r S' ∧ P r S' := ev_ends (fn := Try.f41) (by kernel_rfl) rfl comp41 (by kernel_rfl) (by kernel_rfl) hn h
/-! hindsight/info.Names$1 -/
def r42_0 : List POp := [
  ⟨some 2, .box 43 (.tmp 0), none⟩,
  ⟨some 3, .box 43 (.tmp 1), none⟩,
  ⟨some 4, .assign (.const (.int .i64 0)), none⟩]
def r42_1 : List POp := [
  ⟨some 5, .fieldAddr 43 (.tmp 2) 2, none⟩,
  ⟨some 6, .load 9 (.tmp 5), none⟩,
  ⟨some 7, .fieldAddr 43 (.tmp 3) 2, none⟩,
  ⟨some 8, .load 9 (.tmp 7), none⟩,
  ⟨some 9, .call { callee := .value (.func 29), args := #[(.tmp 6), (.tmp 8)], argTypes := #[9, 9] }, none⟩,
  ⟨some 4, .assign (.tmp 9), none⟩]
noncomputable def p42 : PC := (.seq (.reg r42_0) (.seq (.reg r42_1) .ret))
theorem comp42 : (Try.f42.body.map (comp E Try.f42.ntmps)) = some p42 := by kernel_rfl
theorem ev42 {args : List AV} {S : St} {P : AV → St → Prop} (hn : Nat.ble args.length 10 = true) (h : EndsA E 10 [.c p42] .nrm (initTm 0 args .leaf) S (RetQ E [.tmp 4] P)) : ∃ r S', EvA E 42 args S r S' ∧ P r S' := ev_ends (fn := Try.f42) (by kernel_rfl) rfl comp42 (by kernel_rfl) (by kernel_rfl) hn h
/-! hindsight/info.in -/
def r44_0 : List POp := [
  ⟨some 6, .assign (.const (.bool false)), none⟩]
def r44_1 : List POp := [
  ⟨some 7, .move (.tmp 0), none⟩,
  ⟨some 8, .move (.tmp 1), none⟩,
  ⟨some 9, .binOp .geq 3 (.tmp 7) (.tmp 8) 3, none⟩,
  ⟨some 10, .move (.tmp 9), none⟩,
  ⟨some 11, .move (.tmp 0), some (10, true)⟩,
  ⟨some 12, .move (.tmp 2), some (10, true)⟩,
  ⟨some 13, .binOp .leq 3 (.tmp 11) (.tmp 12) 3, some (10, true)⟩,
  ⟨some 14, .pick (.tmp 10) (.tmp 13) (.const (.bool false)), none⟩,
  ⟨some 6, .assign (.tmp 14), none⟩]
noncomputable def p44 : PC := (.seq (.reg r44_0) (.seq (.reg r44_1) .ret))
theorem comp44 : (Try.f44.body.map (comp E Try.f44.ntmps)) = some p44 := by kernel_rfl
theorem ev44 {args : List AV} {S : St} {P : AV → St → Prop} (hn : Nat.ble args.length 15 = true) (h : EndsA E 15 [.c p44] .nrm (initTm 0 args .leaf) S (RetQ E [.tmp 6] P)) : ∃ r S', EvA E 44 args S r S' ∧ P r S' := ev_ends (fn := Try.f44) (by kernel_rfl) rfl comp44 (by kernel_rfl) (by kernel_rfl) hn h
/-! internal/bytealg.CompareString -/
def r47_0 : List POp := [
  ⟨some 4, .assign (.const (.int .i64 0)), none⟩]
def r47_1 : List POp := [
  ⟨some 5, .move (.tmp 0), none⟩,
  ⟨some 6, .move (.tmp 1), none⟩,
  ⟨some 7, .call { callee := .value (.func 62), args := #[(.tmp 5), (.tmp 6)], argTypes := #[9, 9] }, none⟩,
  ⟨some 4, .assign (.tmp 7), none⟩]
noncomputable def p47 : PC := (.seq (.reg r47_0) (.seq (.reg r47_1) .ret))
theorem comp47 : (Try.f47.body.map (comp E Try.f47.ntmps)) = some p47 := by kernel_rfl
theorem ev47 {args : List AV} {S : St} {P : AV → St → Prop} (hn : Nat.ble args.length 8 = true) (h : EndsA E 8 [.c p47] .nrm (initTm 0 args .leaf) S (RetQ E [.tmp 4] P)) : ∃ r S', EvA E 47 args S r S' ∧ P r S' := ev_ends (fn := Try.f47) (by kernel_rfl) rfl comp47 (by kernel_rfl) (by kernel_rfl) hn h
/-! hindsight/hindsightref11.Groups -/
def r49_0 : List POp := [
  ⟨some 2, .assign (.const (.int .u64 0)), none⟩,
  ⟨some 3, .assign (.const (.int .i64 0)), none⟩]
def r49_1 : List POp := [
  ⟨some 4, .assign (.const (.int .u64 0)), none⟩]
def r49_2 : List POp := [
  ⟨some 5, .assign (.const (.int .i64 0)), none⟩]
def r49_3 : List POp := [
  ⟨some 6, .move (.tmp 5), none⟩,
  ⟨some 7, .move (.tmp 0), none⟩,
  ⟨some 8, .call { callee := .builtin .len, args := #[(.tmp 7)], argTypes := #[28] }, none⟩,
  ⟨some 9, .binOp .lss 3 (.tmp 6) (.tmp 8) 3, none⟩,
  ⟨some 10, .move (.tmp 9), none⟩,
  ⟨some 11, .move (.tmp 5), some (10, true)⟩,
  ⟨some 12, .binOp .lss 3 (.tmp 11) (.const (.int .i64 10)) 3, some (10, true)⟩,
  ⟨some 13, .pick (.tmp 10) (.tmp 12) (.const (.bool false)), none⟩]
def r49_4 : List POp := [
  ⟨some 16, .move (.tmp 5), none⟩,
  ⟨some 17, .binOp .eql 3 (.tmp 16) (.const (.int .i64 9)) 3, none⟩,
  ⟨some 18, .move (.tmp 17), none⟩,
  ⟨some 19, .move (.tmp 0), some (18, true)⟩,
  ⟨some 20, .move (.tmp 5), some (18, true)⟩,
  ⟨some 21, .indexAddr 28 (.tmp 19) (.tmp 20), some (18, true)⟩,
  ⟨some 22, .load 5 (.tmp 21), some (18, true)⟩,
  ⟨some 23, .binOp .gtr 5 (.tmp 22) (.const (.int .u8 1)) 5, some (18, true)⟩,
  ⟨some 24, .pick (.tmp 18) (.tmp 23) (.const (.bool false)), none⟩]
def r49_5 : List POp := [
  ⟨some 2, .assign (.const (.int .u64 0)), none⟩,
  ⟨some 3, .assign (.const (.int .i64 0)), none⟩]
def r49_6 : List POp := [
  ⟨some 25, .move (.tmp 4), none⟩,
  ⟨some 26, .move (.tmp 0), none⟩,
  ⟨some 27, .move (.tmp 5), none⟩,
  ⟨some 28, .indexAddr 28 (.tmp 26) (.tmp 27), none⟩,
  ⟨some 29, .load 5 (.tmp 28), none⟩,
  ⟨some 30, .binOp .and 5 (.tmp 29) (.const (.int .u8 127)) 5, none⟩,
  ⟨some 31, .convert 5 85 (.tmp 30), none⟩,
  ⟨some 32, .move (.tmp 5), none⟩,
  ⟨some 33, .binOp .mul 3 (.const (.int .i64 7)) (.tmp 32) 3, none⟩,
  ⟨some 34, .convert 3 90 (.tmp 33), none⟩,
  ⟨some 35, .binOp .shl 85 (.tmp 31) (.tmp 34) 90, none⟩,
  ⟨some 36, .binOp .or 85 (.tmp 25) (.tmp 35) 85, none⟩,
  ⟨some 4, .assign (.tmp 36), none⟩]
def r49_7 : List POp := [
  ⟨some 37, .move (.tmp 0), none⟩,
  ⟨some 38, .move (.tmp 5), none⟩,
  ⟨some 39, .indexAddr 28 (.tmp 37) (.tmp 38), none⟩,
  ⟨some 40, .load 5 (.tmp 39), none⟩,
  ⟨some 41, .binOp .lss 5 (.tmp 40) (.const (.int .u8 128)) 5, none⟩]
def r49_8 : List POp := [
  ⟨some 42, .move (.tmp 0), none⟩,
  ⟨some 43, .move (.tmp 5), none⟩,
  ⟨some 44, .indexAddr 28 (.tmp 42) (.tmp 43), none⟩,
  ⟨some 45, .load 5 (.tmp 44), none⟩,
  ⟨some 46, .binOp .eql 5 (.tmp 45) (.const (.int .u8 0)) 5, none⟩,
  ⟨some 47, .move (.tmp 46), none⟩,
  ⟨some 48, .move (.tmp 5), some (47, true)⟩,
  ⟨some 49, .binOp .gtr 3 (.tmp 48) (.const (.int .i64 0)) 3, some (47, true)⟩,
  ⟨some 50, .pick (.tmp 47) (.tmp 49) (.const (.bool false)), none⟩]
def r49_9 : List POp := [
  ⟨some 2, .assign (.const (.int .u64 0)), none⟩,
  ⟨some 3, .assign (.const (.int .i64 0)), none⟩]
def r49_10 : List POp := [
  ⟨some 51, .move (.tmp 4), none⟩,
  ⟨some 52, .move (.tmp 5), none⟩,
  ⟨some 53, .binOp .add 3 (.tmp 52) (.const (.int .i64 1)) 3, none⟩,
  ⟨some 2, .assign (.tmp 51), none⟩,
  ⟨some 3, .assign (.tmp 53), none⟩]
def r49_11 : List POp := [
  ⟨some 14, .move (.tmp 5), none⟩,
  ⟨some 15, .binOp .add 3 (.tmp 14) (.const (.int .i64 1)) 3, none⟩,
  ⟨some 5, .assign (.tmp 15), none⟩]
noncomputable def b49_12 : PC := (.seq (.seq (.reg r49_3) (.cond (.tmp 13) .skip (.exit 0))) (.seq (.block 1 (.seq (.seq (.reg r49_4) (.cond (.tmp 24) (.seq (.reg r49_5) .ret) .skip)) (.seq (.reg r49_6) (.seq (.reg r49_7) (.cond (.tmp 41) (.seq (.seq (.reg r49_8) (.cond (.tmp 50) (.seq (.reg r49_9) .ret) .skip)) (.seq (.reg r49_10) .ret)) .skip))))) (.reg r49_11)))
def r49_13 : List POp := [
  ⟨some 2, .assign (.const (.int .u64 0)), none⟩,
  ⟨some 3, .assign (.const (.int .i64 0)), none⟩]
noncomputable def p49 : PC := (.seq (.reg r49_0) (.seq (.reg r49_1) (.seq (.seq (.reg r49_2) (.block 0 (.loop b49_12))) (.seq (.reg r49_13) .ret))))
theorem comp49 : (Try.f49.body.map (comp E Try.f49.ntmps)) = some p49 := by kernel_rfl
theorem ev49 {args : List AV} {S : St} {P : AV → St → Prop} (hn : Nat.ble args.length 54 = true) (h : EndsA E 54 [.c p49] .nrm (initTm 0 args .leaf) S (RetQ E [.tmp 2, .tmp 3] P)) : ∃ r S', EvA E 49 args S r S' ∧ P r S' := ev_ends (fn := Try.f49) (by kernel_rfl) rfl comp49 (by kernel_rfl) (by kernel_rfl) hn h
/-! slices.stableCmpFunc[hindsight/info.Var] -/
def r50_0 : List POp := [
  ⟨some 6, .assign (.const (.int .i64 20)), none⟩]
def r50_1 : List POp := [
  ⟨some 10, .move (.tmp 6), none⟩,
  ⟨some 7, .assign (.const (.int .i64 0)), none⟩,
  ⟨some 8, .assign (.tmp 10), none⟩]
def r50_2 : List POp := [
  ⟨some 11, .move (.tmp 8), none⟩,
  ⟨some 12, .move (.tmp 1), none⟩,
  ⟨some 13, .binOp .leq 3 (.tmp 11) (.tmp 12) 3, none⟩]
def r50_3 : List POp := [
  ⟨some 14, .move (.tmp 0), none⟩,
  ⟨some 15, .move (.tmp 7), none⟩,
  ⟨some 16, .move (.tmp 8), none⟩,
  ⟨some 17, .move (.tmp 2), none⟩,
  ⟨some 18, .call { callee := .value (.func 52), args := #[(.tmp 14), (.tmp 15), (.tmp 16), (.tmp 17)], argTypes := #[23, 3, 3, 69] }, none⟩]
def r50_4 : List POp := [
  ⟨some 19, .move (.tmp 8), none⟩,
  ⟨some 7, .assign (.tmp 19), none⟩]
def r50_5 : List POp := [
  ⟨some 20, .move (.tmp 8), none⟩,
  ⟨some 21, .move (.tmp 6), none⟩,
  ⟨some 22, .binOp .add 3 (.tmp 20) (.tmp 21) 3, none⟩,
  ⟨some 8, .assign (.tmp 22), none⟩]
noncomputable def b50_6 : PC := (.seq (.seq (.reg r50_2) (.cond (.tmp 13) .skip (.exit 0))) (.block 1 (.seq (.reg r50_3) (.seq (.reg r50_4) (.reg r50_5)))))
def r50_7 : List POp := [
  ⟨some 23, .move (.tmp 0), none⟩,
  ⟨some 24, .move (.tmp 7), none⟩,
  ⟨some 25, .move (.tmp 1), none⟩,
  ⟨some 26, .move (.tmp 2), none⟩,
  ⟨some 27, .call { callee := .value (.func 52), args := #[(.tmp 23), (.tmp 24), (.tmp 25), (.tmp 26)], argTypes := #[23, 3, 3, 69] }, none⟩]
def r50_8 : List POp := [
  ⟨some 28, .move (.tmp 6), none⟩,
  ⟨some 29, .move (.tmp 1), none⟩,
  ⟨some 30, .binOp .lss 3 (.tmp 28) (.tmp 29) 3, none⟩]
def r50_9 : List POp := [
  ⟨some 31, .move (.tmp 6), none⟩,
  ⟨some 32, .binOp .mul 3 (.const (.int .i64 2)) (.tmp 31) 3, none⟩,
  ⟨some 7, .assign (.const (.int .i64 0)), none⟩,
  ⟨some 8, .assign (.tmp 32), none⟩]
def r50_10 : List POp := [
  ⟨some 33, .move (.tmp 8), none⟩,
  ⟨some 34, .move (.tmp 1), none⟩,
  ⟨some 35, .binOp .leq 3 (.tmp 33) (.tmp 34) 3, none⟩]
def r50_11 : List POp := [
  ⟨some 36, .move (.tmp 0), none⟩,
  ⟨some 37, .move (.tmp 7), none⟩,
  ⟨some 38, .move (.tmp 7), none⟩,
  ⟨some 39, .move (.tmp 6), none⟩,
  ⟨some 40, .binOp .add 3 (.tmp 38) (.tmp 39) 3, none⟩,
  ⟨some 41, .move (.tmp 8), none⟩,
  ⟨some 42, .move (.tmp 2), none⟩,
  ⟨some 43, .call { callee := .value (.func 63), args := #[(.tmp 36), (.tmp 37), (.tmp 40), (.tmp 41), (.tmp 42)], argTypes := #[23, 3, 3, 3, 69] }, none⟩]
def r50_12 : List POp := [
  ⟨some 44, .move (.tmp 8), none⟩,
  ⟨some 7, .assign (.tmp 44), none⟩]
def r50_13 : List POp := [
  ⟨some 45, .move (.tmp 8), none⟩,
  ⟨some 46, .move (.tmp 6), none⟩,
  ⟨some 47, .binOp .mul 3 (.const (.int .i64 2)) (.tmp 46) 3, none⟩,
  ⟨some 48, .binOp .add 3 (.tmp 45) (.tmp 47) 3, none⟩,
  ⟨some 8, .assign (.tmp 48), none⟩]
noncomputable def b50_14 : PC := (.seq (.seq (.reg r50_10) (.cond (.tmp 35) .skip (.exit 4))) (.block 5 (.seq (.reg r50_11) (.seq (.reg r50_12) (.reg r50_13)))))
def r50_15 : List POp := [
  ⟨some 49, .move (.tmp 7), none⟩,
  ⟨some 50, .move (.tmp 6), none⟩,
  ⟨some 51, .binOp .add 3 (.tmp 49) (.tmp 50) 3, none⟩,
  ⟨some 9, .assign (.tmp 51), none⟩]
def r50_16 : List POp := [
  ⟨some 52, .move (.tmp 9), none⟩,
  ⟨some 53, .move (.tmp 1), none⟩,
  ⟨some 54, .binOp .lss 3 (.tmp 52) (.tmp 53) 3, none⟩]
def r50_17 : List POp := [
  ⟨some 55, .move (.tmp 0), none⟩,
  ⟨some 56, .move (.tmp 7), none⟩,
  ⟨some 57, .move (.tmp 9), none⟩,
  ⟨some 58, .move (.tmp 1), none⟩,
  ⟨some 59, .move (.tmp 2), none⟩,
  ⟨some 60, .call { callee := .value (.func 63), args := #[(.tmp 55), (.tmp 56), (.tmp 57), (.tmp 58), (.tmp 59)], argTypes := #[23, 3, 3, 3, 69] }, none⟩]
def r50_18 : List POp := [
  ⟨some 61, .move (.tmp 6), none⟩,
  ⟨some 62, .binOp .mul 3 (.tmp 61) (.const (.int .i64 2)) 3, none⟩,
  ⟨some 6, .assign (.tmp 62), none⟩]
noncomputable def b50_19 : PC := (.seq (.seq (.reg r50_8) (.cond (.tmp 30) .skip (.exit 2))) (.block 3 (.seq (.reg r50_9) (.seq (.block 4 (.loop b50_14)) (.seq (.seq (.reg r50_15) (.seq (.reg r50_16) (.cond (.tmp 54) (.reg r50_17) .skip))) (.reg r50_18))))))
noncomputable def p50 : PC := (.seq (.reg r50_0) (.seq (.reg r50_1) (.seq (.block 0 (.loop b50_6)) (.seq (.reg r50_7) (.block 2 (.loop b50_19))))))
theorem comp50 : (Try.f50.body.map (comp E Try.f50.ntmps)) = some p50 := by kernel_rfl
theorem ev50 {args : List AV} {S : St} {P : AV → St → Prop} (hn : Nat.ble args.length 63 = true) (h : EndsA E 63 [.c p50] .nrm (initTm 0 args .leaf) S (RetQ E [] P)) : ∃ r S', EvA E 50 args S r S' ∧ P r S' := ev_ends (fn := Try.f50) (by kernel_rfl) rfl comp50 (by kernel_rfl) (by kernel_rfl) hn h
/-! slices.insertionSortCmpFunc[hindsight/info.Var] -/
def r52_0 : List POp := [
  ⟨some 10, .move (.tmp 1), none⟩,
  ⟨some 11, .binOp .add 3 (.tmp 10) (.const (.int .i64 1)) 3, none⟩,
  ⟨some 8, .assign (.tmp 11), none⟩]
def r52_1 : List POp := [
  ⟨some 12, .move (.tmp 8), none⟩,
  ⟨some 13, .move (.tmp 2), none⟩,
  ⟨some 14, .binOp .lss 3 (.tmp 12) (.tmp 13) 3, none⟩]
def r52_2 : List POp := [
  ⟨some 17, .move (.tmp 8), none⟩,
  ⟨some 9, .assign (.tmp 17), none⟩]
def r52_3 : List POp := [
  ⟨some 18, .move (.tmp 9), none⟩,
  ⟨some 19, .move (.tmp 1), none⟩,
  ⟨some 20, .binOp .gtr 3 (.tmp 18) (.tmp 19) 3, none⟩,
  ⟨some 21, .move (.tmp 20), none⟩,
  ⟨some 22, .move (.tmp 3), some (21, true)⟩,
  ⟨some 23, .move (.tmp 0), some (21, true)⟩,
  ⟨some 24, .move (.tmp 9), some (21, true)⟩,
  ⟨some 25, .indexAddr 23 (.tmp 23) (.tmp 24), some (21, true)⟩,
  ⟨some 26, .load 43 (.tmp 25), some (21, true)⟩,
  ⟨some 27, .move (.tmp 0), some (21, true)⟩,
  ⟨some 28, .move (.tmp 9), some (21, true)⟩,
  ⟨some 29, .binOp .sub 3 (.tmp 28) (.const (.int .i64 1)) 3, some (21, true)⟩,
  ⟨some 30, .indexAddr 23 (.tmp 27) (.tmp 29), some (21, true)⟩,
  ⟨some 31, .load 43 (.tmp 30), some (21, true)⟩,
  ⟨some 32, .call { callee := .value (.tmp 22), args := #[(.tmp 26), (.tmp 31)], argTypes := #[43, 43] }, some (21, true)⟩,
  ⟨some 33, .binOp .lss 3 (.tmp 32) (.const (.int .i64 0)) 3, some (21, true)⟩,
  ⟨some 34, .pick (.tmp 21) (.tmp 33) (.const (.bool false)), none⟩]
def r52_4 : List POp := [
  ⟨some 37, .move (.tmp 0), none⟩,
  ⟨some 38, .move (.tmp 9), none⟩,
  ⟨some 39, .move (.tmp 0), none⟩,
  ⟨some 40, .move (.tmp 9), none⟩,
  ⟨some 41, .binOp .sub 3 (.tmp 40) (.const (.int .i64 1)) 3, none⟩,
  ⟨some 42, .move (.tmp 0), none⟩,
  ⟨some 43, .move (.tmp 9), none⟩,
  ⟨some 44, .binOp .sub 3 (.tmp 43) (.const (.int .i64 1)) 3, none⟩,
  ⟨some 45, .indexAddr 23 (.tmp 42) (.tmp 44), none⟩,
  ⟨some 46, .load 43 (.tmp 45), none⟩,
  ⟨some 47, .move (.tmp 0), none⟩,
  ⟨some 48, .move (.tmp 9), none⟩,
  ⟨some 49, .indexAddr 23 (.tmp 47) (.tmp 48), none⟩,
  ⟨some 50, .load 43 (.tmp 49), none⟩,
  ⟨some 51, .indexAddr 23 (.tmp 37) (.tmp 38), none⟩,
  ⟨none, .store 43 (.tmp 51) (.tmp 46), none⟩,
  ⟨some 52, .indexAddr 23 (.tmp 39) (.tmp 41), none⟩,
  ⟨none, .store 43 (.tmp 52) (.tmp 50), none⟩]
def r52_5 : List POp := [
  ⟨some 35, .move (.tmp 9), none⟩,
  ⟨some 36, .binOp .sub 3 (.tmp 35) (.const (.int .i64 1)) 3, none⟩,
  ⟨some 9, .assign (.tmp 36), none⟩]
noncomputable def b52_6 : PC := (.seq (.seq (.regD 17 r52_3) (.cond (.tmp 34) .skip (.exit 2))) (.seq (.block 3 (.regD 18 r52_4)) (.reg r52_5)))
def r52_7 : List POp := [
  ⟨some 15, .move (.tmp 8), none⟩,
  ⟨some 16, .binOp .add 3 (.tmp 15) (.const (.int .i64 1)) 3, none⟩,
  ⟨some 8, .assign (.tmp 16), none⟩]
noncomputable def b52_8 : PC := (.seq (.seq (.reg r52_1) (.cond (.tmp 14) .skip (.exit 0))) (.seq (.block 1 (.seq (.reg r52_2) (.block 2 (.loop b52_6)))) (.reg r52_7)))
noncomputable def p52 : PC := (.seq (.reg r52_0) (.block 0 (.loop b52_8)))
theorem comp52 : (Try.f52.body.map (comp E Try.f52.ntmps)) = some p52 := by kernel_rfl
theorem ev52 {args : List AV} {S : St} {P : AV → St → Prop} (hn : Nat.ble args.length 53 = true) (h : EndsA E 53 [.c p52] .nrm (initTm 0 args .leaf) S (RetQ E [] P)) : ∃ r S', EvA E 52 args S r S' ∧ P r S' := ev_ends (fn := Try.f52) (by kernel_rfl) rfl comp52 (by kernel_rfl) (by kernel_rfl) hn h
/-! slices.symMergeCmpFunc[hindsight/info.Var] -/
def r63_0 : List POp := [
  ⟨some 25, .move (.tmp 2), none⟩,
  ⟨some 26, .move (.tmp 1), none⟩,
  ⟨some 27, .binOp .sub 3 (.tmp 25) (.tmp 26) 3, none⟩,
  ⟨some 28, .binOp .eql 3 (.tmp 27) (.const (.int .i64 1)) 3, none⟩]
def r63_1 : List POp := [
  ⟨some 29, .move (.tmp 2), none⟩,
  ⟨some 10, .assign (.tmp 29), none⟩]
def r63_2 : List POp := [
  ⟨some 30, .move (.tmp 3), none⟩,
  ⟨some 11, .assign (.tmp 30), none⟩]
def r63_3 : List POp := [
  ⟨some 31, .move (.tmp 10), none⟩,
  ⟨some 32, .move (.tmp 11), none⟩,
  ⟨some 33, .binOp .lss 3 (.tmp 31) (.tmp 32) 3, none⟩]
def r63_4 : List POp := [
  ⟨some 34, .move (.tmp 10), none⟩,
  ⟨some 35, .move (.tmp 11), none⟩,
  ⟨some 36, .binOp .add 3 (.tmp 34) (.tmp 35) 3, none⟩,
  ⟨some 37, .convert 3 90 (.tmp 36), none⟩,
  ⟨some 38, .binOp .shr 90 (.tmp 37) (.const (.int .u64 1)) 90, none⟩,
  ⟨some 39, .convert 90 3 (.tmp 38), none⟩,
  ⟨some 12, .assign (.tmp 39), none⟩]
def r63_5 : List POp := [
  ⟨some 40, .move (.tmp 4), none⟩,
  ⟨some 41, .move (.tmp 0), none⟩,
  ⟨some 42, .move (.tmp 12), none⟩,
  ⟨some 43, .indexAddr 23 (.tmp 41) (.tmp 42), none⟩,
  ⟨some 44, .load 43 (.tmp 43), none⟩,
  ⟨some 45, .move (.tmp 0), none⟩,
  ⟨some 46, .move (.tmp 1), none⟩,
  ⟨some 47, .indexAddr 23 (.tmp 45) (.tmp 46), none⟩,
  ⟨some 48, .load 43 (.tmp 47), none⟩,
  ⟨some 49, .call { callee := .value (.tmp 40), args := #[(.tmp 44), (.tmp 48)], argTypes := #[43, 43] }, none⟩,
  ⟨some 50, .binOp .lss 3 (.tmp 49) (.const (.int .i64 0)) 3, none⟩]
def r63_6 : List POp := [
  ⟨some 51, .move (.tmp 12), none⟩,
  ⟨some 52, .binOp .add 3 (.tmp 51) (.const (.int .i64 1)) 3, none⟩,
  ⟨some 10, .assign (.tmp 52), none⟩]
def r63_7 : List POp := [
  ⟨some 53, .move (.tmp 12), none⟩,
  ⟨some 11, .assign (.tmp 53), none⟩]
noncomputable def b63_8 : PC := (.seq (.seq (.reg r63_3) (.cond (.tmp 33) .skip (.exit 0))) (.block 1 (.seq (.reg r63_4) (.seq (.regD 11 r63_5) (.cond (.tmp 50) (.reg r63_6) (.reg r63_7))))))
def r63_9 : List POp := [
  ⟨some 54, .move (.tmp 1), none⟩,
  ⟨some 13, .assign (.tmp 54), none⟩]
def r63_10 : List POp := [
  ⟨some 55, .move (.tmp 13), none⟩,
  ⟨some 56, .move (.tmp 10), none⟩,
  ⟨some 57, .binOp .sub 3 (.tmp 56) (.const (.int .i64 1)) 3, none⟩,
  ⟨some 58, .binOp .lss 3 (.tmp 55) (.tmp 57) 3, none⟩]
def r63_11 : List POp := [
  ⟨some 61, .move (.tmp 0), none⟩,
  ⟨some 62, .move (.tmp 13), none⟩,
  ⟨some 63, .move (.tmp 0), none⟩,
  ⟨some 64, .move (.tmp 13), none⟩,
  ⟨some 65, .binOp .add 3 (.tmp 64) (.const (.int .i64 1)) 3, none⟩,
  ⟨some 66, .move (.tmp 0), none⟩,
  ⟨some 67, .move (.tmp 13), none⟩,
  ⟨some 68, .binOp .add 3 (.tmp 67) (.const (.int .i64 1)) 3, none⟩,
  ⟨some 69, .indexAddr 23 (.tmp 66) (.tmp 68), none⟩,
  ⟨some 70, .load 43 (.tmp 69), none⟩,
  ⟨some 71, .move (.tmp 0), none⟩,
  ⟨some 72, .move (.tmp 13), none⟩,
  ⟨some 73, .indexAddr 23 (.tmp 71) (.tmp 72), none⟩,
  ⟨some 74, .load 43 (.tmp 73), none⟩,
  ⟨some 75, .indexAddr 23 (.tmp 61) (.tmp 62), none⟩,
  ⟨none, .store 43 (.tmp 75) (.tmp 70), none⟩,
  ⟨some 76, .indexAddr 23 (.tmp 63) (.tmp 65), none⟩,
  ⟨none, .store 43 (.tmp 76) (.tmp 74), none⟩]
def r63_12 : List POp := [
  ⟨some 59, .move (.tmp 13), none⟩,
  ⟨some 60, .binOp .add 3 (.tmp 59) (.const (.int .i64 1)) 3, none⟩,
  ⟨some 13, .assign (.tmp 60), none⟩]
noncomputable def b63_13 : PC := (.seq (.seq (.reg r63_10) (.cond (.tmp 58) .skip (.exit 2))) (.seq (.block 3 (.regD 18 r63_11)) (.reg r63_12)))
def r63_14 : List POp := [
  ⟨some 77, .move (.tmp 3), none⟩,
  ⟨some 78, .move (.tmp 2), none⟩,
  ⟨some 79, .binOp .sub 3 (.tmp 77) (.tmp 78) 3, none⟩,
  ⟨some 80, .binOp .eql 3 (.tmp 79) (.const (.int .i64 1)) 3, none⟩]
def r63_15 : List POp := [
  ⟨some 81, .move (.tmp 1), none⟩,
  ⟨some 14, .assign (.tmp 81), none⟩]
def r63_16 : List POp := [
  ⟨some 82, .move (.tmp 2), none⟩,
  ⟨some 15, .assign (.tmp 82), none⟩]
def r63_17 : List POp := [
  ⟨some 83, .move (.tmp 14), none⟩,
  ⟨some 84, .move (.tmp 15), none⟩,
  ⟨some 85, .binOp .lss 3 (.tmp 83) (.tmp 84) 3, none⟩]
def r63_18 : List POp := [
  ⟨some 86, .move (.tmp 14), none⟩,
  ⟨some 87, .move (.tmp 15), none⟩,
  ⟨some 88, .binOp .add 3 (.tmp 86) (.tmp 87) 3, none⟩,
  ⟨some 89, .convert 3 90 (.tmp 88), none⟩,
  ⟨some 90, .binOp .shr 90 (.tmp 89) (.const (.int .u64 1)) 90, none⟩,
  ⟨some 91, .convert 90 3 (.tmp 90), none⟩,
  ⟨some 16, .assign (.tmp 91), none⟩]
def r63_19 : List POp := [
  ⟨some 92, .move (.tmp 4), none⟩,
  ⟨some 93, .move (.tmp 0), none⟩,
  ⟨some 94, .move (.tmp 2), none⟩,
  ⟨some 95, .indexAddr 23 (.tmp 93) (.tmp 94), none⟩,
  ⟨some 96, .load 43 (.tmp 95), none⟩,
  ⟨some 97, .move (.tmp 0), none⟩,
  ⟨some 98, .move (.tmp 16), none⟩,
  ⟨some 99, .indexAddr 23 (.tmp 97) (.tmp 98), none⟩,
  ⟨some 100, .load 43 (.tmp 99), none⟩,
  ⟨some 101, .call { callee := .value (.tmp 92), args := #[(.tmp 96), (.tmp 100)], argTypes := #[43, 43] }, none⟩,
  ⟨some 102, .binOp .lss 3 (.tmp 101) (.const (.int .i64 0)) 3, none⟩,
  ⟨some 103, .unOp .not 4 (.tmp 102), none⟩]
def r63_20 : List POp := [
  ⟨some 104, .move (.tmp 16), none⟩,
  ⟨some 105, .binOp .add 3 (.tmp 104) (.const (.int .i64 1)) 3, none⟩,
  ⟨some 14, .assign (.tmp 105), none⟩]
def r63_21 : List POp := [
  ⟨some 106, .move (.tmp 16), none⟩,
  ⟨some 15, .assign (.tmp 106), none⟩]
noncomputable def b63_22 : PC := (.seq (.seq (.reg r63_17) (.cond (.tmp 85) .skip (.exit 4))) (.block 5 (.seq (.reg r63_18) (.seq (.regD 12 r63_19) (.cond (.tmp 103) (.reg r63_20) (.reg r63_21))))))
def r63_23 : List POp := [
  ⟨some 107, .move (.tmp 2), none⟩,
  ⟨some 17, .assign (.tmp 107), none⟩]
def r63_24 : List POp := [
  ⟨some 108, .move (.tmp 17), none⟩,
  ⟨some 109, .move (.tmp 14), none⟩,
  ⟨some 110, .binOp .gtr 3 (.tmp 108) (.tmp 109) 3, none⟩]
def r63_25 : List POp := [
  ⟨some 113, .move (.tmp 0), none⟩,
  ⟨some 114, .move (.tmp 17), none⟩,
  ⟨some 115, .move (.tmp 0), none⟩,
  ⟨some 116, .move (.tmp 17), none⟩,
  ⟨some 117, .binOp .sub 3 (.tmp 116) (.const (.int .i64 1)) 3, none⟩,
  ⟨some 118, .move (.tmp 0), none⟩,
  ⟨some 119, .move (.tmp 17), none⟩,
  ⟨some 120, .binOp .sub 3 (.tmp 119) (.const (.int .i64 1)) 3, none⟩,
  ⟨some 121, .indexAddr 23 (.tmp 118) (.tmp 120), none⟩,
  ⟨some 122, .load 43 (.tmp 121), none⟩,
  ⟨some 123, .move (.tmp 0), none⟩,
  ⟨some 124, .move (.tmp 17), none⟩,
  ⟨some 125, .indexAddr 23 (.tmp 123) (.tmp 124), none⟩,
  ⟨some 126, .load 43 (.tmp 125), none⟩,
  ⟨some 127, .indexAddr 23 (.tmp 113) (.tmp 114), none⟩,
  ⟨none, .store 43 (.tmp 127) (.tmp 122), none⟩,
  ⟨some 128, .indexAddr 23 (.tmp 115) (.tmp 117), none⟩,
  ⟨none, .store 43 (.tmp 128) (.tmp 126), none⟩]
def r63_26 : List POp := [
  ⟨some 111, .move (.tmp 17), none⟩,
  ⟨some 112, .binOp .sub 3 (.tmp 111) (.const (.int .i64 1)) 3, none⟩,
  ⟨some 17, .assign (.tmp 112), none⟩]
noncomputable def b63_27 : PC := (.seq (.seq (.reg r63_24) (.cond (.tmp 110) .skip (.exit 6))) (.seq (.block 7 (.regD 18 r63_25)) (.reg r63_26)))
def r63_28 : List POp := [
  ⟨some 129, .move (.tmp 1), none⟩,
  ⟨some 130, .move (.tmp 3), none⟩,
  ⟨some 131, .binOp .add 3 (.tmp 129) (.tmp 130) 3, none⟩,
  ⟨some 132, .convert 3 90 (.tmp 131), none⟩,
  ⟨some 133, .binOp .shr 90 (.tmp 132) (.const (.int .u64 1)) 90, none⟩,
  ⟨some 134, .convert 90 3 (.tmp 133), none⟩,
  ⟨some 18, .assign (.tmp 134), none⟩]
def r63_29 : List POp := [
  ⟨some 135, .move (.tmp 18), none⟩,
  ⟨some 136, .move (.tmp 2), none⟩,
  ⟨some 137, .binOp .add 3 (.tmp 135) (.tmp 136) 3, none⟩,
  ⟨some 19, .assign (.tmp 137), none⟩]
def r63_30 : List POp := [
  ⟨some 20, .assign (.const (.int .i64 0)), none⟩,
  ⟨some 21, .assign (.const (.int .i64 0)), none⟩]
def r63_31 : List POp := [
  ⟨some 138, .move (.tmp 2), none⟩,
  ⟨some 139, .move (.tmp 18), none⟩,
  ⟨some 140, .binOp .gtr 3 (.tmp 138) (.tmp 139) 3, none⟩]
def r63_32 : List POp := [
  ⟨some 141, .move (.tmp 19), none⟩,
  ⟨some 142, .move (.tmp 3), none⟩,
  ⟨some 143, .binOp .sub 3 (.tmp 141) (.tmp 142) 3, none⟩,
  ⟨some 20, .assign (.tmp 143), none⟩]
def r63_33 : List POp := [
  ⟨some 144, .move (.tmp 18), none⟩,
  ⟨some 21, .assign (.tmp 144), none⟩]
def r63_34 : List POp := [
  ⟨some 145, .move (.tmp 1), none⟩,
  ⟨some 20, .assign (.tmp 145), none⟩]
def r63_35 : List POp := [
  ⟨some 146, .move (.tmp 2), none⟩,
  ⟨some 21, .assign (.tmp 146), none⟩]
def r63_36 : List POp := [
  ⟨some 147, .move (.tmp 19), none⟩,
  ⟨some 148, .binOp .sub 3 (.tmp 147) (.const (.int .i64 1)) 3, none⟩,
  ⟨some 22, .assign (.tmp 148), none⟩]
def r63_37 : List POp := [
  ⟨some 149, .move (.tmp 20), none⟩,
  ⟨some 150, .move (.tmp 21), none⟩,
  ⟨some 151, .binOp .lss 3 (.tmp 149) (.tmp 150) 3, none⟩]
def r63_38 : List POp := [
  ⟨some 152, .move (.tmp 20), none⟩,
  ⟨some 153, .move (.tmp 21), none⟩,
  ⟨some 154, .binOp .add 3 (.tmp 152) (.tmp 153) 3, none⟩,
  ⟨some 155, .convert 3 90 (.tmp 154), none⟩,
  ⟨some 156, .binOp .shr 90 (.tmp 155) (.const (.int .u64 1)) 90, none⟩,
  ⟨some 157, .convert 90 3 (.tmp 156), none⟩,
  ⟨some 23, .assign (.tmp 157), none⟩]
def r63_39 : List POp := [
  ⟨some 158, .move (.tmp 4), none⟩,
  ⟨some 159, .move (.tmp 0), none⟩,
  ⟨some 160, .move (.tmp 22), none⟩,
  ⟨some 161, .move (.tmp 23), none⟩,
  ⟨some 162, .binOp .sub 3 (.tmp 160) (.tmp 161) 3, none⟩,
  ⟨some 163, .indexAddr 23 (.tmp 159) (.tmp 162), none⟩,
  ⟨some 164, .load 43 (.tmp 163), none⟩,
  ⟨some 165, .move (.tmp 0), none⟩,
  ⟨some 166, .move (.tmp 23), none⟩,
  ⟨some 167, .indexAddr 23 (.tmp 165) (.tmp 166), none⟩,
  ⟨some 168, .load 43 (.tmp 167), none⟩,
  ⟨some 169, .call { callee := .value (.tmp 158), args := #[(.tmp 164), (.tmp 168)], argTypes := #[43, 43] }, none⟩,
  ⟨some 170, .binOp .lss 3 (.tmp 169) (.const (.int .i64 0)) 3, none⟩,
  ⟨some 171, .unOp .not 4 (.tmp 170), none⟩]
def r63_40 : List POp := [
  ⟨some 172, .move (.tmp 23), none⟩,
  ⟨some 173, .binOp .add 3 (.tmp 172) (.const (.int .i64 1)) 3, none⟩,
  ⟨some 20, .assign (.tmp 173), none⟩]
def r63_41 : List POp := [
  ⟨some 174, .move (.tmp 23), none⟩,
  ⟨some 21, .assign (.tmp 174), none⟩]
noncomputable def b63_42 : PC := (.seq (.seq (.reg r63_37) (.cond (.tmp 151) .skip (.exit 8))) (.block 9 (.seq (.reg r63_38) (.seq (.regD 14 r63_39) (.cond (.tmp 171) (.reg r63_40) (.reg r63_41))))))
def r63_43 : List POp := [
  ⟨some 175, .move (.tmp 19), none⟩,
  ⟨some 176, .move (.tmp 20), none⟩,
  ⟨some 177, .binOp .sub 3 (.tmp 175) (.tmp 176) 3, none⟩,
  ⟨some 24, .assign (.tmp 177), none⟩]
def r63_44 : List POp := [
  ⟨some 178, .move (.tmp 20), none⟩,
  ⟨some 179, .move (.tmp 2), none⟩,
  ⟨some 180, .binOp .lss 3 (.tmp 178) (.tmp 179) 3, none⟩,
  ⟨some 181, .move (.tmp 180), none⟩,
  ⟨some 182, .move (.tmp 2), some (181, true)⟩,
  ⟨some 183, .move (.tmp 24), some (181, true)⟩,
  ⟨some 184, .binOp .lss 3 (.tmp 182) (.tmp 183) 3, some (181, true)⟩,
  ⟨some 185, .pick (.tmp 181) (.tmp 184) (.const (.bool false)), none⟩]
def r63_45 : List POp := [
  ⟨some 186, .move (.tmp 0), none⟩,
  ⟨some 187, .move (.tmp 20), none⟩,
  ⟨some 188, .move (.tmp 2), none⟩,
  ⟨some 189, .move (.tmp 24), none⟩,
  ⟨some 190, .move (.tmp 4), none⟩,
  ⟨some 191, .call { callee := .value (.func 78), args := #[(.tmp 186), (.tmp 187), (.tmp 188), (.tmp 189), (.tmp 190)], argTypes := #[23, 3, 3, 3, 69] }, none⟩]
def r63_46 : List POp := [
  ⟨some 192, .move (.tmp 1), none⟩,
  ⟨some 193, .move (.tmp 20), none⟩,
  ⟨some 194, .binOp .lss 3 (.tmp 192) (.tmp 193) 3, none⟩,
  ⟨some 195, .move (.tmp 194), none⟩,
  ⟨some 196, .move (.tmp 20), some (195, true)⟩,
  ⟨some 197, .move (.tmp 18), some (195, true)⟩,
  ⟨some 198, .binOp .lss 3 (.tmp 196) (.tmp 197) 3, some (195, true)⟩,
  ⟨some 199, .pick (.tmp 195) (.tmp 198) (.const (.bool false)), none⟩]
def r63_47 : List POp := [
  ⟨some 200, .move (.tmp 0), none⟩,
  ⟨some 201, .move (.tmp 1), none⟩,
  ⟨some 202, .move (.tmp 20), none⟩,
  ⟨some 203, .move (.tmp 18), none⟩,
  ⟨some 204, .move (.tmp 4), none⟩,
  ⟨some 205, .call { callee := .value (.func 63), args := #[(.tmp 200), (.tmp 201), (.tmp 202), (.tmp 203), (.tmp 204)], argTypes := #[23, 3, 3, 3, 69] }, none⟩]
def r63_48 : List POp := [
  ⟨some 206, .move (.tmp 18), none⟩,
  ⟨some 207, .move (.tmp 24), none⟩,
  ⟨some 208, .binOp .lss 3 (.tmp 206) (.tmp 207) 3, none⟩,
  ⟨some 209, .move (.tmp 208), none⟩,
  ⟨some 210, .move (.tmp 24), some (209, true)⟩,
  ⟨some 211, .move (.tmp 3), some (209, true)⟩,
  ⟨some 212, .binOp .lss 3 (.tmp 210) (.tmp 211) 3, some (209, true)⟩,
  ⟨some 213, .pick (.tmp 209) (.tmp 212) (.const (.bool false)), none⟩]
def r63_49 : List POp := [
  ⟨some 214, .move (.tmp 0), none⟩,
  ⟨some 215, .move (.tmp 18), none⟩,
  ⟨some 216, .move (.tmp 24), none⟩,
  ⟨some 217, .move (.tmp 3), none⟩,
  ⟨some 218, .move (.tmp 4), none⟩,
  ⟨some 219, .call { callee := .value (.func 63), args := #[(.tmp 214), (.tmp 215), (.tmp 216), (.tmp 217), (.tmp 218)], argTypes := #[23, 3, 3, 3, 69] }, none⟩]
noncomputable def p63 : PC := (.seq (.seq (.reg r63_0) (.cond (.tmp 28) (.seq (.reg r63_1) (.seq (.reg r63_2) (.seq (.block 0 (.loop b63_8)) (.seq (.seq (.reg r63_9) (.block 2 (.loop b63_13))) .ret)))) .skip)) (.seq (.seq (.reg r63_14) (.cond (.tmp 80) (.seq (.reg r63_15) (.seq (.reg r63_16) (.seq (.block 4 (.loop b63_22)) (.seq (.seq (.reg r63_23) (.block 6 (.loop b63_27))) .ret)))) .skip)) (.seq (.reg r63_28) (.seq (.reg r63_29) (.seq (.reg r63_30) (.seq (.seq (.reg r63_31) (.cond (.tmp 140) (.seq (.reg r63_32) (.reg r63_33)) (.seq (.reg r63_34) (.reg r63_35)))) (.seq (.reg r63_36) (.seq (.block 8 (.loop b63_42)) (.seq (.reg r63_43) (.seq (.seq (.reg r63_44) (.cond (.tmp 185) (.reg r63_45) .skip)) (.seq (.seq (.reg r63_46) (.cond (.tmp 199) (.reg r63_47) .skip)) (.seq (.reg r63_48) (.cond (.tmp 213) (.reg r63_49) .skip)))))))))))))
theorem comp63 : (Try.f63.body.map (comp E Try.f63.ntmps)) = some p63 := by kernel_rfl
theorem ev63 {args : List AV} {S : St} {P : AV → St → Prop} (hn : Nat.ble args.length 220 = true) (h : EndsA E 220 [.c p63] .nrm (initTm 0 args .leaf) S (RetQ E [] P)) : ∃ r S', EvA E 63 args S r S' ∧ P r S' := ev_ends (fn := Try.f63) (by kernel_rfl) rfl comp63 (by kernel_rfl) (by kernel_rfl) hn h
/-! slices.rotateCmpFunc[hindsight/info.Var] -/
def r78_0 : List POp := [
  ⟨some 12, .move (.tmp 2), none⟩,
  ⟨some 13, .move (.tmp 1), none⟩,
  ⟨some 14, .binOp .sub 3 (.tmp 12) (.tmp 13) 3, none⟩,
  ⟨some 10, .assign (.tmp 14), none⟩]
def r78_1 : List POp := [
  ⟨some 15, .move (.tmp 3), none⟩,
  ⟨some 16, .move (.tmp 2), none⟩,
  ⟨some 17, .binOp .sub 3 (.tmp 15) (.tmp 16) 3, none⟩,
  ⟨some 11, .assign (.tmp 17), none⟩]
def r78_2 : List POp := [
  ⟨some 18, .move (.tmp 10), none⟩,
  ⟨some 19, .move (.tmp 11), none⟩,
  ⟨some 20, .binOp .neq 3 (.tmp 18) (.tmp 19) 3, none⟩]
def r78_3 : List POp := [
  ⟨some 21, .move (.tmp 10), none⟩,
  ⟨some 22, .move (.tmp 11), none⟩,
  ⟨some 23, .binOp .gtr 3 (.tmp 21) (.tmp 22) 3, none⟩]
def r78_4 : List POp := [
  ⟨some 24, .move (.tmp 0), none⟩,
  ⟨some 25, .move (.tmp 2), none⟩,
  ⟨some 26, .move (.tmp 10), none⟩,
  ⟨some 27, .binOp .sub 3 (.tmp 25) (.tmp 26) 3, none⟩,
  ⟨some 28, .move (.tmp 2), none⟩,
  ⟨some 29, .move (.tmp 11), none⟩,
  ⟨some 30, .move (.tmp 4), none⟩,
  ⟨some 31, .call { callee := .value (.func 83), args := #[(.tmp 24), (.tmp 27), (.tmp 28), (.tmp 29), (.tmp 30)], argTypes := #[23, 3, 3, 3, 69] }, none⟩]
def r78_5 : List POp := [
  ⟨some 32, .move (.tmp 10), none⟩,
  ⟨some 33, .move (.tmp 11), none⟩,
  ⟨some 34, .binOp .sub 3 (.tmp 32) (.tmp 33) 3, none⟩,
  ⟨some 10, .assign (.tmp 34), none⟩]
def r78_6 : List POp := [
  ⟨some 35, .move (.tmp 0), none⟩,
  ⟨some 36, .move (.tmp 2), none⟩,
  ⟨some 37, .move (.tmp 10), none⟩,
  ⟨some 38, .binOp .sub 3 (.tmp 36) (.tmp 37) 3, none⟩,
  ⟨some 39, .move (.tmp 2), none⟩,
  ⟨some 40, .move (.tmp 11), none⟩,
  ⟨some 41, .binOp .add 3 (.tmp 39) (.tmp 40) 3, none⟩,
  ⟨some 42, .move (.tmp 10), none⟩,
  ⟨some 43, .binOp .sub 3 (.tmp 41) (.tmp 42) 3, none⟩,
  ⟨some 44, .move (.tmp 10), none⟩,
  ⟨some 45, .move (.tmp 4), none⟩,
  ⟨some 46, .call { callee := .value (.func 83), args := #[(.tmp 35), (.tmp 38), (.tmp 43), (.tmp 44), (.tmp 45)], argTypes := #[23, 3, 3, 3, 69] }, none⟩]
def r78_7 : List POp := [
  ⟨some 47, .move (.tmp 11), none⟩,
  ⟨some 48, .move (.tmp 10), none⟩,
  ⟨some 49, .binOp .sub 3 (.tmp 47) (.tmp 48) 3, none⟩,
  ⟨some 11, .assign (.tmp 49), none⟩]
noncomputable def b78_8 : PC := (.seq (.seq (.reg r78_2) (.cond (.tmp 20) .skip (.exit 0))) (.block 1 (.seq (.reg r78_3) (.cond (.tmp 23) (.seq (.reg r78_4) (.reg r78_5)) (.seq (.reg r78_6) (.reg r78_7))))))
def r78_9 : List POp := [
  ⟨some 50, .move (.tmp 0), none⟩,
  ⟨some 51, .move (.tmp 2), none⟩,
  ⟨some 52, .move (.tmp 10), none⟩,
  ⟨some 53, .binOp .sub 3 (.tmp 51) (.tmp 52) 3, none⟩,
  ⟨some 54, .move (.tmp 2), none⟩,
  ⟨some 55, .move (.tmp 10), none⟩,
  ⟨some 56, .move (.tmp 4), none⟩,
  ⟨some 57, .call { callee := .value (.func 83), args := #[(.tmp 50), (.tmp 53), (.tmp 54), (.tmp 55), (.tmp 56)], argTypes := #[23, 3, 3, 3, 69] }, none⟩]
noncomputable def p78 : PC := (.seq (.reg r78_0) (.seq (.reg r78_1) (.seq (.block 0 (.loop b78_8)) (.reg r78_9))))
theorem comp78 : (Try.f78.body.map (comp E Try.f78.ntmps)) = some p78 := by kernel_rfl
theorem ev78 {args : List AV} {S : St} {P : AV → St → Prop} (hn : Nat.ble args.length 58 = true) (h : EndsA E 58 [.c p78] .nrm (initTm 0 args .leaf) S (RetQ E [] P)) : ∃ r S', EvA E 78 args S r S' ∧ P r S' := ev_ends (fn := Try.f78) (by kernel_rfl) rfl comp78 (by kernel_rfl) (by kernel_rfl) hn h
/-! slices.swapRangeCmpFunc[hindsight/info.Var] -/
def r83_0 : List POp := [
  ⟨some 10, .assign (.const (.int .i64 0)), none⟩]
def r83_1 : List POp := [
  ⟨some 11, .move (.tmp 10), none⟩,
  ⟨some 12, .move (.tmp 3), none⟩,
  ⟨some 13, .binOp .lss 3 (.tmp 11) (.tmp 12) 3, none⟩]
def r83_2 : List POp := [
  ⟨some 16, .move (.tmp 0), none⟩,
  ⟨some 17, .move (.tmp 1), none⟩,
  ⟨some 18, .move (.tmp 10), none⟩,
  ⟨some 19, .binOp .add 3 (.tmp 17) (.tmp 18) 3, none⟩,
  ⟨some 20, .move (.tmp 0), none⟩,
  ⟨some 21, .move (.tmp 2), none⟩,
  ⟨some 22, .move (.tmp 10), none⟩,
  ⟨some 23, .binOp .add 3 (.tmp 21) (.tmp 22) 3, none⟩,
  ⟨some 24, .move (.tmp 0), none⟩,
  ⟨some 25, .move (.tmp 2), none⟩,
  ⟨some 26, .move (.tmp 10), none⟩,
  ⟨some 27, .binOp .add 3 (.tmp 25) (.tmp 26) 3, none⟩,
  ⟨some 28, .indexAddr 23 (.tmp 24) (.tmp 27), none⟩,
  ⟨some 29, .load 43 (.tmp 28), none⟩,
  ⟨some 30, .move (.tmp 0), none⟩,
  ⟨some 31, .move (.tmp 1), none⟩,
  ⟨some 32, .move (.tmp 10), none⟩,
  ⟨some 33, .binOp .add 3 (.tmp 31) (.tmp 32) 3, none⟩,
  ⟨some 34, .indexAddr 23 (.tmp 30) (.tmp 33), none⟩,
  ⟨some 35, .load 43 (.tmp 34), none⟩,
  ⟨some 36, .indexAddr 23 (.tmp 16) (.tmp 19), none⟩,
  ⟨none, .store 43 (.tmp 36) (.tmp 29), none⟩,
  ⟨some 37, .indexAddr 23 (.tmp 20) (.tmp 23), none⟩,
  ⟨none, .store 43 (.tmp 37) (.tmp 35), none⟩]
def r83_3 : List POp := [
  ⟨some 14, .move (.tmp 10), none⟩,
  ⟨some 15, .binOp .add 3 (.tmp 14) (.const (.int .i64 1)) 3, none⟩,
  ⟨some 10, .assign (.tmp 15), none⟩]
noncomputable def b83_4 : PC := (.seq (.seq (.reg r83_1) (.cond (.tmp 13) .skip (.exit 0))) (.seq (.block 1 (.regD 24 r83_2)) (.reg r83_3)))
noncomputable def p83 : PC := (.seq (.reg r83_0) (.block 0 (.loop b83_4)))
theorem comp83 : (Try.f83.body.map (comp E Try.f83.ntmps)) = some p83 := by kernel_rfl
theorem ev83 {args : List AV} {S : St} {P : AV → St → Prop} (hn : Nat.ble args.length 38 = true) (h : EndsA E 38 [.c p83] .nrm (initTm 0 args .leaf) S (RetQ E [] P)) : ∃ r S', EvA E 83 args S r S' ∧ P r S' := ev_ends (fn := Try.f83) (by kernel_rfl) rfl comp83 (by kernel_rfl) (by kernel_rfl) hn h
end Go.Proofs.Ytmmpcomfhcpicaa
