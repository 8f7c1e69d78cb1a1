/-
  The compiled code of functions of this seat's program, and facts on its types: written by program (wip/GenPC.lean); the kernel checks each row.
-/
import Derived.Test.YtmmpcomfhcpicaaRows
import Derived.Test.YtmmpcomfhcpicaaAbs24
import Derived.Test.YtmmpcomfhcpicaaSortF
import Derived.Test.YtmmpcomfhcpicaaSortD
set_option linter.unusedSimpArgs false
set_option linter.unusedVariables false
set_option maxRecDepth 100000
namespace Go.Proofs.Ytmmpcomfhcpicaa
open Go.Abs
noncomputable def E : Env := { plainEnv Try.prog (fun t d => (Nat.beq t 23 && isDst d 7) || (Nat.beq t 23 && isDst d 28) || (Nat.beq t 57 && isDst d 23)) (fun _ _ => none) (extOf [62] []) with X := fun f => bif Nat.beq f 26 then some (sortFX 27 6 parseV encV srtV) else bif Nat.beq f 43 then some sortX else none }
theorem load2 {tm : PM AV} {S : St} {d : Option Tmp} (x : Operand) : opV E tm d (.load 2 x) S = loadC false 1 (E.ev tm x) S := load_chk 2 false 1 (by kernel_rfl) x
theorem store2 {tm : PM AV} {S : St} {d : Option Tmp} (x y : Operand) : opV E tm d (.store 2 x y) S = storeC 1 (E.ev tm x) (E.ev tm y) S := store_chk (b := false) 2 1 (by kernel_rfl) x y
theorem load3 {tm : PM AV} {S : St} {d : Option Tmp} (x : Operand) : opV E tm d (.load 3 x) S = loadC false 1 (E.ev tm x) S := load_chk 3 false 1 (by kernel_rfl) x
theorem store3 {tm : PM AV} {S : St} {d : Option Tmp} (x y : Operand) : opV E tm d (.store 3 x y) S = storeC 1 (E.ev tm x) (E.ev tm y) S := store_chk (b := false) 3 1 (by kernel_rfl) x y
theorem load4 {tm : PM AV} {S : St} {d : Option Tmp} (x : Operand) : opV E tm d (.load 4 x) S = loadC false 1 (E.ev tm x) S := load_chk 4 false 1 (by kernel_rfl) x
theorem store4 {tm : PM AV} {S : St} {d : Option Tmp} (x y : Operand) : opV E tm d (.store 4 x y) S = storeC 1 (E.ev tm x) (E.ev tm y) S := store_chk (b := false) 4 1 (by kernel_rfl) x y
theorem load5 {tm : PM AV} {S : St} {d : Option Tmp} (x : Operand) : opV E tm d (.load 5 x) S = loadC false 1 (E.ev tm x) S := load_chk 5 false 1 (by kernel_rfl) x
theorem store5 {tm : PM AV} {S : St} {d : Option Tmp} (x y : Operand) : opV E tm d (.store 5 x y) S = storeC 1 (E.ev tm x) (E.ev tm y) S := store_chk (b := false) 5 1 (by kernel_rfl) x y
theorem load6 {tm : PM AV} {S : St} {d : Option Tmp} (x : Operand) : opV E tm d (.load 6 x) S = loadC false 1 (E.ev tm x) S := load_chk 6 false 1 (by kernel_rfl) x
theorem store6 {tm : PM AV} {S : St} {d : Option Tmp} (x y : Operand) : opV E tm d (.store 6 x y) S = storeC 1 (E.ev tm x) (E.ev tm y) S := store_chk (b := false) 6 1 (by kernel_rfl) x y
theorem load7 {tm : PM AV} {S : St} {d : Option Tmp} (x : Operand) : opV E tm d (.load 7 x) S = loadC true 4 (E.ev tm x) S := load_chk 7 true 4 (by kernel_rfl) x
theorem store7 {tm : PM AV} {S : St} {d : Option Tmp} (x y : Operand) : opV E tm d (.store 7 x y) S = storeC 4 (E.ev tm x) (E.ev tm y) S := store_chk (b := true) 7 4 (by kernel_rfl) x y
theorem load8 {tm : PM AV} {S : St} {d : Option Tmp} (x : Operand) : opV E tm d (.load 8 x) S = loadC true 4 (E.ev tm x) S := load_chk 8 true 4 (by kernel_rfl) x
theorem store8 {tm : PM AV} {S : St} {d : Option Tmp} (x y : Operand) : opV E tm d (.store 8 x y) S = storeC 4 (E.ev tm x) (E.ev tm y) S := store_chk (b := true) 8 4 (by kernel_rfl) x y
theorem load9 {tm : PM AV} {S : St} {d : Option Tmp} (x : Operand) : opV E tm d (.load 9 x) S = loadC false 1 (E.ev tm x) S := load_chk 9 false 1 (by kernel_rfl) x
theorem store9 {tm : PM AV} {S : St} {d : Option Tmp} (x y : Operand) : opV E tm d (.store 9 x y) S = storeC 1 (E.ev tm x) (E.ev tm y) S := store_chk (b := false) 9 1 (by kernel_rfl) x y
theorem load10 {tm : PM AV} {S : St} {d : Option Tmp} (x : Operand) : opV E tm d (.load 10 x) S = loadC false 1 (E.ev tm x) S := load_chk 10 false 1 (by kernel_rfl) x
theorem store10 {tm : PM AV} {S : St} {d : Option Tmp} (x y : Operand) : opV E tm d (.store 10 x y) S = storeC 1 (E.ev tm x) (E.ev tm y) S := store_chk (b := false) 10 1 (by kernel_rfl) x y
theorem load11 {tm : PM AV} {S : St} {d : Option Tmp} (x : Operand) : opV E tm d (.load 11 x) S = loadC false 1 (E.ev tm x) S := load_chk 11 false 1 (by kernel_rfl) x
theorem store11 {tm : PM AV} {S : St} {d : Option Tmp} (x y : Operand) : opV E tm d (.store 11 x y) S = storeC 1 (E.ev tm x) (E.ev tm y) S := store_chk (b := false) 11 1 (by kernel_rfl) x y
theorem load12 {tm : PM AV} {S : St} {d : Option Tmp} (x : Operand) : opV E tm d (.load 12 x) S = loadC false 1 (E.ev tm x) S := load_chk 12 false 1 (by kernel_rfl) x
theorem store12 {tm : PM AV} {S : St} {d : Option Tmp} (x y : Operand) : opV E tm d (.store 12 x y) S = storeC 1 (E.ev tm x) (E.ev tm y) S := store_chk (b := false) 12 1 (by kernel_rfl) x y
theorem load13 {tm : PM AV} {S : St} {d : Option Tmp} (x : Operand) : opV E tm d (.load 13 x) S = loadC true 2 (E.ev tm x) S := load_chk 13 true 2 (by kernel_rfl) x
theorem store13 {tm : PM AV} {S : St} {d : Option Tmp} (x y : Operand) : opV E tm d (.store 13 x y) S = storeC 2 (E.ev tm x) (E.ev tm y) S := store_chk (b := true) 13 2 (by kernel_rfl) x y
theorem load14 {tm : PM AV} {S : St} {d : Option Tmp} (x : Operand) : opV E tm d (.load 14 x) S = loadC true 2 (E.ev tm x) S := load_chk 14 true 2 (by kernel_rfl) x
theorem store14 {tm : PM AV} {S : St} {d : Option Tmp} (x y : Operand) : opV E tm d (.store 14 x y) S = storeC 2 (E.ev tm x) (E.ev tm y) S := store_chk (b := true) 14 2 (by kernel_rfl) x y
theorem load15 {tm : PM AV} {S : St} {d : Option Tmp} (x : Operand) : opV E tm d (.load 15 x) S = loadC false 1 (E.ev tm x) S := load_chk 15 false 1 (by kernel_rfl) x
theorem store15 {tm : PM AV} {S : St} {d : Option Tmp} (x y : Operand) : opV E tm d (.store 15 x y) S = storeC 1 (E.ev tm x) (E.ev tm y) S := store_chk (b := false) 15 1 (by kernel_rfl) x y
theorem load16 {tm : PM AV} {S : St} {d : Option Tmp} (x : Operand) : opV E tm d (.load 16 x) S = loadC false 1 (E.ev tm x) S := load_chk 16 false 1 (by kernel_rfl) x
theorem store16 {tm : PM AV} {S : St} {d : Option Tmp} (x y : Operand) : opV E tm d (.store 16 x y) S = storeC 1 (E.ev tm x) (E.ev tm y) S := store_chk (b := false) 16 1 (by kernel_rfl) x y
theorem load17 {tm : PM AV} {S : St} {d : Option Tmp} (x : Operand) : opV E tm d (.load 17 x) S = loadC false 1 (E.ev tm x) S := load_chk 17 false 1 (by kernel_rfl) x
theorem store17 {tm : PM AV} {S : St} {d : Option Tmp} (x y : Operand) : opV E tm d (.store 17 x y) S = storeC 1 (E.ev tm x) (E.ev tm y) S := store_chk (b := false) 17 1 (by kernel_rfl) x y
theorem load18 {tm : PM AV} {S : St} {d : Option Tmp} (x : Operand) : opV E tm d (.load 18 x) S = loadC true 1 (E.ev tm x) S := load_chk 18 true 1 (by kernel_rfl) x
theorem store18 {tm : PM AV} {S : St} {d : Option Tmp} (x y : Operand) : opV E tm d (.store 18 x y) S = storeC 1 (E.ev tm x) (E.ev tm y) S := store_chk (b := true) 18 1 (by kernel_rfl) x y
theorem load19 {tm : PM AV} {S : St} {d : Option Tmp} (x : Operand) : opV E tm d (.load 19 x) S = loadC true 1 (E.ev tm x) S := load_chk 19 true 1 (by kernel_rfl) x
theorem store19 {tm : PM AV} {S : St} {d : Option Tmp} (x y : Operand) : opV E tm d (.store 19 x y) S = storeC 1 (E.ev tm x) (E.ev tm y) S := store_chk (b := true) 19 1 (by kernel_rfl) x y
theorem load21 {tm : PM AV} {S : St} {d : Option Tmp} (x : Operand) : opV E tm d (.load 21 x) S = loadC false 1 (E.ev tm x) S := load_chk 21 false 1 (by kernel_rfl) x
theorem store21 {tm : PM AV} {S : St} {d : Option Tmp} (x y : Operand) : opV E tm d (.store 21 x y) S = storeC 1 (E.ev tm x) (E.ev tm y) S := store_chk (b := false) 21 1 (by kernel_rfl) x y
theorem load22 {tm : PM AV} {S : St} {d : Option Tmp} (x : Operand) : opV E tm d (.load 22 x) S = loadC false 1 (E.ev tm x) S := load_chk 22 false 1 (by kernel_rfl) x
theorem store22 {tm : PM AV} {S : St} {d : Option Tmp} (x y : Operand) : opV E tm d (.store 22 x y) S = storeC 1 (E.ev tm x) (E.ev tm y) S := store_chk (b := false) 22 1 (by kernel_rfl) x y
theorem und22 : E.und 22 = some (.slice 41) := by kernel_rfl
theorem sl22 : slIs E 22 4 = true := by kernel_rfl
theorem el22 : elIs E 22 41 true 4 32 = true := by kernel_rfl
theorem bs22 {tm : PM AV} {S : St} {d : Option Tmp} (n : Nat) (ps : Array (Nat × Operand)) : opV E tm d (.buildSlice 22 n ps) S = buildSliceA E 22 n (ps.toList.map fun p => (p.1, E.ev tm p.2)) S := rfl
theorem app22 {tm : PM AV} {S : St} {d : Option Tmp} (x y : Operand) (t1 : TypeId) : opV E tm d (.call (Call.mk (.builtin .append) #[x, y] #[22, t1])) S = builtinA E false .append [22, t1] [E.ev tm x, E.ev tm y] S := rfl
theorem index22 {tm : PM AV} {S : St} {d : Option Tmp} (x y : Operand) : opV E tm d (.indexAddr 22 x y) S = idxV 4 (E.ev tm x) (int? (E.ev tm y)) S := index_chk 22 4 (by kernel_rfl) x y
theorem len22 {tm : PM AV} {S : St} {d : Option Tmp} (x : Operand) : opV E tm d (.call (Call.mk (.builtin .len) #[x] #[22])) S = lenV (E.ev tm x) S := op_len (t := 22) (e := 41) (by kernel_rfl) x
theorem load23 {tm : PM AV} {S : St} {d : Option Tmp} (x : Operand) : opV E tm d (.load 23 x) S = loadC false 1 (E.ev tm x) S := load_chk 23 false 1 (by kernel_rfl) x
theorem store23 {tm : PM AV} {S : St} {d : Option Tmp} (x y : Operand) : opV E tm d (.store 23 x y) S = storeC 1 (E.ev tm x) (E.ev tm y) S := store_chk (b := false) 23 1 (by kernel_rfl) x y
theorem und23 : E.und 23 = some (.slice 43) := by kernel_rfl
theorem sl23 : slIs E 23 6 = true := by kernel_rfl
theorem el23 : elIs E 23 43 true 6 64 = true := by kernel_rfl
theorem hp23 {k : Nat} (hk7 : (k == 7) = false) (hk28 : (k == 28) = false) : E.hp 23 (some k) = false := by
  show ((isDst (some k) 7 || isDst (some k) 28) || false) = false
  simp only [isDst] at *
  simp [hk7, hk28]
theorem bs23 {tm : PM AV} {S : St} {k : Nat} (hk7 : (k == 7) = false) (hk28 : (k == 28) = false) (n : Nat) (ps : Array (Nat × Operand)) : opV E tm (some k) (.buildSlice 23 n ps) S = buildSliceA E 23 n (ps.toList.map fun p => (p.1, E.ev tm p.2)) S := by
  have h1 : isMk E (opOf (some k) (.buildSlice 23 n ps)) = false := hp23 hk7 hk28
  simp only [opV, evOp, h1, cond_false]; rfl
theorem app23 {tm : PM AV} {S : St} {k : Nat} (hk7 : (k == 7) = false) (hk28 : (k == 28) = false) (x y : Operand) (t1 : TypeId) : opV E tm (some k) (.call (Call.mk (.builtin .append) #[x, y] #[23, t1])) S = builtinA E false .append [23, t1] [E.ev tm x, E.ev tm y] S := by
  have h : opV E tm (some k) (.call (Call.mk (.builtin .append) #[x, y] #[23, t1])) S = builtinA E (E.hp 23 (some k)) .append [23, t1] [E.ev tm x, E.ev tm y] S := rfl
  rw [h, hp23 hk7 hk28]
theorem app23m {tm : PM AV} {S : St} (x y : Operand) (t1 : TypeId) : opV E tm (some 7) (.call (Call.mk (.builtin .append) #[x, y] #[23, t1])) S = builtinA E true .append [23, t1] [E.ev tm x, E.ev tm y] S := rfl
theorem app23m2 {tm : PM AV} {S : St} (x y : Operand) (t1 : TypeId) : opV E tm (some 28) (.call (Call.mk (.builtin .append) #[x, y] #[23, t1])) S = builtinA E true .append [23, t1] [E.ev tm x, E.ev tm y] S := rfl
theorem index23 {tm : PM AV} {S : St} {d : Option Tmp} (x y : Operand) : opV E tm d (.indexAddr 23 x y) S = idxV 6 (E.ev tm x) (int? (E.ev tm y)) S := index_chk 23 6 (by kernel_rfl) x y
theorem len23 {tm : PM AV} {S : St} {d : Option Tmp} (x : Operand) : opV E tm d (.call (Call.mk (.builtin .len) #[x] #[23])) S = lenV (E.ev tm x) S := op_len (t := 23) (e := 43) (by kernel_rfl) x
theorem load24 {tm : PM AV} {S : St} {d : Option Tmp} (x : Operand) : opV E tm d (.load 24 x) S = loadC true 2 (E.ev tm x) S := load_chk 24 true 2 (by kernel_rfl) x
theorem store24 {tm : PM AV} {S : St} {d : Option Tmp} (x y : Operand) : opV E tm d (.store 24 x y) S = storeC 2 (E.ev tm x) (E.ev tm y) S := store_chk (b := true) 24 2 (by kernel_rfl) x y
theorem load25 {tm : PM AV} {S : St} {d : Option Tmp} (x : Operand) : opV E tm d (.load 25 x) S = loadC true 2 (E.ev tm x) S := load_chk 25 true 2 (by kernel_rfl) x
theorem store25 {tm : PM AV} {S : St} {d : Option Tmp} (x y : Operand) : opV E tm d (.store 25 x y) S = storeC 2 (E.ev tm x) (E.ev tm y) S := store_chk (b := true) 25 2 (by kernel_rfl) x y
theorem load28 {tm : PM AV} {S : St} {d : Option Tmp} (x : Operand) : opV E tm d (.load 28 x) S = loadC false 1 (E.ev tm x) S := load_chk 28 false 1 (by kernel_rfl) x
theorem store28 {tm : PM AV} {S : St} {d : Option Tmp} (x y : Operand) : opV E tm d (.store 28 x y) S = storeC 1 (E.ev tm x) (E.ev tm y) S := store_chk (b := false) 28 1 (by kernel_rfl) x y
theorem und28 : E.und 28 = some (.slice 5) := by kernel_rfl
theorem sl28 : slIs E 28 1 = true := by kernel_rfl
theorem el28 : elIs E 28 5 false 1 1 = true := by kernel_rfl
theorem bs28 {tm : PM AV} {S : St} {d : Option Tmp} (n : Nat) (ps : Array (Nat × Operand)) : opV E tm d (.buildSlice 28 n ps) S = buildSliceA E 28 n (ps.toList.map fun p => (p.1, E.ev tm p.2)) S := rfl
theorem app28 {tm : PM AV} {S : St} {d : Option Tmp} (x y : Operand) (t1 : TypeId) : opV E tm d (.call (Call.mk (.builtin .append) #[x, y] #[28, t1])) S = builtinA E false .append [28, t1] [E.ev tm x, E.ev tm y] S := rfl
theorem index28 {tm : PM AV} {S : St} {d : Option Tmp} (x y : Operand) : opV E tm d (.indexAddr 28 x y) S = idxV 1 (E.ev tm x) (int? (E.ev tm y)) S := index_chk 28 1 (by kernel_rfl) x y
theorem len28 {tm : PM AV} {S : St} {d : Option Tmp} (x : Operand) : opV E tm d (.call (Call.mk (.builtin .len) #[x] #[28])) S = lenV (E.ev tm x) S := op_len (t := 28) (e := 5) (by kernel_rfl) x
theorem load30 {tm : PM AV} {S : St} {d : Option Tmp} (x : Operand) : opV E tm d (.load 30 x) S = loadC false 1 (E.ev tm x) S := load_chk 30 false 1 (by kernel_rfl) x
theorem store30 {tm : PM AV} {S : St} {d : Option Tmp} (x y : Operand) : opV E tm d (.store 30 x y) S = storeC 1 (E.ev tm x) (E.ev tm y) S := store_chk (b := false) 30 1 (by kernel_rfl) x y
theorem load34 {tm : PM AV} {S : St} {d : Option Tmp} (x : Operand) : opV E tm d (.load 34 x) S = loadC false 1 (E.ev tm x) S := load_chk 34 false 1 (by kernel_rfl) x
theorem store34 {tm : PM AV} {S : St} {d : Option Tmp} (x y : Operand) : opV E tm d (.store 34 x y) S = storeC 1 (E.ev tm x) (E.ev tm y) S := store_chk (b := false) 34 1 (by kernel_rfl) x y
theorem und34 : E.und 34 = some (.slice 51) := by kernel_rfl
theorem sl34 : slIs E 34 4 = true := by kernel_rfl
theorem el34 : elIs E 34 51 true 4 32 = true := by kernel_rfl
theorem bs34 {tm : PM AV} {S : St} {d : Option Tmp} (n : Nat) (ps : Array (Nat × Operand)) : opV E tm d (.buildSlice 34 n ps) S = buildSliceA E 34 n (ps.toList.map fun p => (p.1, E.ev tm p.2)) S := rfl
theorem app34 {tm : PM AV} {S : St} {d : Option Tmp} (x y : Operand) (t1 : TypeId) : opV E tm d (.call (Call.mk (.builtin .append) #[x, y] #[34, t1])) S = builtinA E false .append [34, t1] [E.ev tm x, E.ev tm y] S := rfl
theorem index34 {tm : PM AV} {S : St} {d : Option Tmp} (x y : Operand) : opV E tm d (.indexAddr 34 x y) S = idxV 4 (E.ev tm x) (int? (E.ev tm y)) S := index_chk 34 4 (by kernel_rfl) x y
theorem len34 {tm : PM AV} {S : St} {d : Option Tmp} (x : Operand) : opV E tm d (.call (Call.mk (.builtin .len) #[x] #[34])) S = lenV (E.ev tm x) S := op_len (t := 34) (e := 51) (by kernel_rfl) x
theorem load35 {tm : PM AV} {S : St} {d : Option Tmp} (x : Operand) : opV E tm d (.load 35 x) S = loadC false 1 (E.ev tm x) S := load_chk 35 false 1 (by kernel_rfl) x
theorem store35 {tm : PM AV} {S : St} {d : Option Tmp} (x y : Operand) : opV E tm d (.store 35 x y) S = storeC 1 (E.ev tm x) (E.ev tm y) S := store_chk (b := false) 35 1 (by kernel_rfl) x y
theorem und35 : E.und 35 = some (.slice 56) := by kernel_rfl
theorem sl35 : slIs E 35 6 = true := by kernel_rfl
theorem el35 : elIs E 35 56 true 6 64 = true := by kernel_rfl
theorem bs35 {tm : PM AV} {S : St} {d : Option Tmp} (n : Nat) (ps : Array (Nat × Operand)) : opV E tm d (.buildSlice 35 n ps) S = buildSliceA E 35 n (ps.toList.map fun p => (p.1, E.ev tm p.2)) S := rfl
theorem app35 {tm : PM AV} {S : St} {d : Option Tmp} (x y : Operand) (t1 : TypeId) : opV E tm d (.call (Call.mk (.builtin .append) #[x, y] #[35, t1])) S = builtinA E false .append [35, t1] [E.ev tm x, E.ev tm y] S := rfl
theorem index35 {tm : PM AV} {S : St} {d : Option Tmp} (x y : Operand) : opV E tm d (.indexAddr 35 x y) S = idxV 6 (E.ev tm x) (int? (E.ev tm y)) S := index_chk 35 6 (by kernel_rfl) x y
theorem len35 {tm : PM AV} {S : St} {d : Option Tmp} (x : Operand) : opV E tm d (.call (Call.mk (.builtin .len) #[x] #[35])) S = lenV (E.ev tm x) S := op_len (t := 35) (e := 56) (by kernel_rfl) x
theorem load36 {tm : PM AV} {S : St} {d : Option Tmp} (x : Operand) : opV E tm d (.load 36 x) S = loadC true 2 (E.ev tm x) S := load_chk 36 true 2 (by kernel_rfl) x
theorem store36 {tm : PM AV} {S : St} {d : Option Tmp} (x y : Operand) : opV E tm d (.store 36 x y) S = storeC 2 (E.ev tm x) (E.ev tm y) S := store_chk (b := true) 36 2 (by kernel_rfl) x y
theorem load37 {tm : PM AV} {S : St} {d : Option Tmp} (x : Operand) : opV E tm d (.load 37 x) S = loadC true 2 (E.ev tm x) S := load_chk 37 true 2 (by kernel_rfl) x
theorem store37 {tm : PM AV} {S : St} {d : Option Tmp} (x y : Operand) : opV E tm d (.store 37 x y) S = storeC 2 (E.ev tm x) (E.ev tm y) S := store_chk (b := true) 37 2 (by kernel_rfl) x y
theorem load40 {tm : PM AV} {S : St} {d : Option Tmp} (x : Operand) : opV E tm d (.load 40 x) S = loadC true 4 (E.ev tm x) S := load_chk 40 true 4 (by kernel_rfl) x
theorem store40 {tm : PM AV} {S : St} {d : Option Tmp} (x y : Operand) : opV E tm d (.store 40 x y) S = storeC 4 (E.ev tm x) (E.ev tm y) S := store_chk (b := true) 40 4 (by kernel_rfl) x y
theorem load41 {tm : PM AV} {S : St} {d : Option Tmp} (x : Operand) : opV E tm d (.load 41 x) S = loadC true 4 (E.ev tm x) S := load_chk 41 true 4 (by kernel_rfl) x
theorem store41 {tm : PM AV} {S : St} {d : Option Tmp} (x y : Operand) : opV E tm d (.store 41 x y) S = storeC 4 (E.ev tm x) (E.ev tm y) S := store_chk (b := true) 41 4 (by kernel_rfl) x y
theorem load42 {tm : PM AV} {S : St} {d : Option Tmp} (x : Operand) : opV E tm d (.load 42 x) S = loadC true 6 (E.ev tm x) S := load_chk 42 true 6 (by kernel_rfl) x
theorem store42 {tm : PM AV} {S : St} {d : Option Tmp} (x y : Operand) : opV E tm d (.store 42 x y) S = storeC 6 (E.ev tm x) (E.ev tm y) S := store_chk (b := true) 42 6 (by kernel_rfl) x y
theorem load43 {tm : PM AV} {S : St} {d : Option Tmp} (x : Operand) : opV E tm d (.load 43 x) S = loadC true 6 (E.ev tm x) S := load_chk 43 true 6 (by kernel_rfl) x
theorem store43 {tm : PM AV} {S : St} {d : Option Tmp} (x y : Operand) : opV E tm d (.store 43 x y) S = storeC 6 (E.ev tm x) (E.ev tm y) S := store_chk (b := true) 43 6 (by kernel_rfl) x y
theorem load51 {tm : PM AV} {S : St} {d : Option Tmp} (x : Operand) : opV E tm d (.load 51 x) S = loadC true 4 (E.ev tm x) S := load_chk 51 true 4 (by kernel_rfl) x
theorem store51 {tm : PM AV} {S : St} {d : Option Tmp} (x y : Operand) : opV E tm d (.store 51 x y) S = storeC 4 (E.ev tm x) (E.ev tm y) S := store_chk (b := true) 51 4 (by kernel_rfl) x y
theorem load56 {tm : PM AV} {S : St} {d : Option Tmp} (x : Operand) : opV E tm d (.load 56 x) S = loadC true 6 (E.ev tm x) S := load_chk 56 true 6 (by kernel_rfl) x
theorem store56 {tm : PM AV} {S : St} {d : Option Tmp} (x y : Operand) : opV E tm d (.store 56 x y) S = storeC 6 (E.ev tm x) (E.ev tm y) S := store_chk (b := true) 56 6 (by kernel_rfl) x y
theorem load57 {tm : PM AV} {S : St} {d : Option Tmp} (x : Operand) : opV E tm d (.load 57 x) S = loadC false 1 (E.ev tm x) S := load_chk 57 false 1 (by kernel_rfl) x
theorem store57 {tm : PM AV} {S : St} {d : Option Tmp} (x y : Operand) : opV E tm d (.store 57 x y) S = storeC 1 (E.ev tm x) (E.ev tm y) S := store_chk (b := false) 57 1 (by kernel_rfl) x y
theorem und57 : E.und 57 = some (.slice 3) := by kernel_rfl
theorem sl57 : slIs E 57 1 = true := by kernel_rfl
theorem el57 : elIs E 57 3 false 1 8 = true := by kernel_rfl
theorem hp57 {k : Nat} (hk23 : (k == 23) = false) : E.hp 57 (some k) = false := by
  show ((false || false) || isDst (some k) 23) = false
  simp only [isDst] at *
  simp [hk23]
theorem bs57 {tm : PM AV} {S : St} {k : Nat} (hk23 : (k == 23) = false) (n : Nat) (ps : Array (Nat × Operand)) : opV E tm (some k) (.buildSlice 57 n ps) S = buildSliceA E 57 n (ps.toList.map fun p => (p.1, E.ev tm p.2)) S := by
  have h1 : isMk E (opOf (some k) (.buildSlice 57 n ps)) = false := hp57 hk23
  simp only [opV, evOp, h1, cond_false]; rfl
theorem app57 {tm : PM AV} {S : St} {k : Nat} (hk23 : (k == 23) = false) (x y : Operand) (t1 : TypeId) : opV E tm (some k) (.call (Call.mk (.builtin .append) #[x, y] #[57, t1])) S = builtinA E false .append [57, t1] [E.ev tm x, E.ev tm y] S := by
  have h : opV E tm (some k) (.call (Call.mk (.builtin .append) #[x, y] #[57, t1])) S = builtinA E (E.hp 57 (some k)) .append [57, t1] [E.ev tm x, E.ev tm y] S := rfl
  rw [h, hp57 hk23]
theorem app57m {tm : PM AV} {S : St} (x y : Operand) (t1 : TypeId) : opV E tm (some 23) (.call (Call.mk (.builtin .append) #[x, y] #[57, t1])) S = builtinA E true .append [57, t1] [E.ev tm x, E.ev tm y] S := rfl
theorem index57 {tm : PM AV} {S : St} {d : Option Tmp} (x y : Operand) : opV E tm d (.indexAddr 57 x y) S = idxV 1 (E.ev tm x) (int? (E.ev tm y)) S := index_chk 57 1 (by kernel_rfl) x y
theorem len57 {tm : PM AV} {S : St} {d : Option Tmp} (x : Operand) : opV E tm d (.call (Call.mk (.builtin .len) #[x] #[57])) S = lenV (E.ev tm x) S := op_len (t := 57) (e := 3) (by kernel_rfl) x
theorem load61 {tm : PM AV} {S : St} {d : Option Tmp} (x : Operand) : opV E tm d (.load 61 x) S = loadC false 1 (E.ev tm x) S := load_chk 61 false 1 (by kernel_rfl) x
theorem store61 {tm : PM AV} {S : St} {d : Option Tmp} (x y : Operand) : opV E tm d (.store 61 x y) S = storeC 1 (E.ev tm x) (E.ev tm y) S := store_chk (b := false) 61 1 (by kernel_rfl) x y
theorem load73 {tm : PM AV} {S : St} {d : Option Tmp} (x : Operand) : opV E tm d (.load 73 x) S = loadC false 1 (E.ev tm x) S := load_chk 73 false 1 (by kernel_rfl) x
theorem store73 {tm : PM AV} {S : St} {d : Option Tmp} (x y : Operand) : opV E tm d (.store 73 x y) S = storeC 1 (E.ev tm x) (E.ev tm y) S := store_chk (b := false) 73 1 (by kernel_rfl) x y
theorem load74 {tm : PM AV} {S : St} {d : Option Tmp} (x : Operand) : opV E tm d (.load 74 x) S = loadC true 2 (E.ev tm x) S := load_chk 74 true 2 (by kernel_rfl) x
theorem store74 {tm : PM AV} {S : St} {d : Option Tmp} (x y : Operand) : opV E tm d (.store 74 x y) S = storeC 2 (E.ev tm x) (E.ev tm y) S := store_chk (b := true) 74 2 (by kernel_rfl) x y
theorem load75 {tm : PM AV} {S : St} {d : Option Tmp} (x : Operand) : opV E tm d (.load 75 x) S = loadC true 2 (E.ev tm x) S := load_chk 75 true 2 (by kernel_rfl) x
theorem store75 {tm : PM AV} {S : St} {d : Option Tmp} (x y : Operand) : opV E tm d (.store 75 x y) S = storeC 2 (E.ev tm x) (E.ev tm y) S := store_chk (b := true) 75 2 (by kernel_rfl) x y
theorem load78 {tm : PM AV} {S : St} {d : Option Tmp} (x : Operand) : opV E tm d (.load 78 x) S = loadC false 1 (E.ev tm x) S := load_chk 78 false 1 (by kernel_rfl) x
theorem store78 {tm : PM AV} {S : St} {d : Option Tmp} (x y : Operand) : opV E tm d (.store 78 x y) S = storeC 1 (E.ev tm x) (E.ev tm y) S := store_chk (b := false) 78 1 (by kernel_rfl) x y
theorem load79 {tm : PM AV} {S : St} {d : Option Tmp} (x : Operand) : opV E tm d (.load 79 x) S = loadC true 2 (E.ev tm x) S := load_chk 79 true 2 (by kernel_rfl) x
theorem store79 {tm : PM AV} {S : St} {d : Option Tmp} (x y : Operand) : opV E tm d (.store 79 x y) S = storeC 2 (E.ev tm x) (E.ev tm y) S := store_chk (b := true) 79 2 (by kernel_rfl) x y
theorem load80 {tm : PM AV} {S : St} {d : Option Tmp} (x : Operand) : opV E tm d (.load 80 x) S = loadC true 2 (E.ev tm x) S := load_chk 80 true 2 (by kernel_rfl) x
theorem store80 {tm : PM AV} {S : St} {d : Option Tmp} (x y : Operand) : opV E tm d (.store 80 x y) S = storeC 2 (E.ev tm x) (E.ev tm y) S := store_chk (b := true) 80 2 (by kernel_rfl) x y
theorem load85 {tm : PM AV} {S : St} {d : Option Tmp} (x : Operand) : opV E tm d (.load 85 x) S = loadC false 1 (E.ev tm x) S := load_chk 85 false 1 (by kernel_rfl) x
theorem store85 {tm : PM AV} {S : St} {d : Option Tmp} (x y : Operand) : opV E tm d (.store 85 x y) S = storeC 1 (E.ev tm x) (E.ev tm y) S := store_chk (b := false) 85 1 (by kernel_rfl) x y
theorem load90 {tm : PM AV} {S : St} {d : Option Tmp} (x : Operand) : opV E tm d (.load 90 x) S = loadC false 1 (E.ev tm x) S := load_chk 90 false 1 (by kernel_rfl) x
theorem store90 {tm : PM AV} {S : St} {d : Option Tmp} (x y : Operand) : opV E tm d (.store 90 x y) S = storeC 1 (E.ev tm x) (E.ev tm y) S := store_chk (b := false) 90 1 (by kernel_rfl) x y
theorem load96 {tm : PM AV} {S : St} {d : Option Tmp} (x : Operand) : opV E tm d (.load 96 x) S = loadC false 1 (E.ev tm x) S := load_chk 96 false 1 (by kernel_rfl) x
theorem store96 {tm : PM AV} {S : St} {d : Option Tmp} (x y : Operand) : opV E tm d (.store 96 x y) S = storeC 1 (E.ev tm x) (E.ev tm y) S := store_chk (b := false) 96 1 (by kernel_rfl) x y
theorem load104 {tm : PM AV} {S : St} {d : Option Tmp} (x : Operand) : opV E tm d (.load 104 x) S = loadC false 1 (E.ev tm x) S := load_chk 104 false 1 (by kernel_rfl) x
theorem store104 {tm : PM AV} {S : St} {d : Option Tmp} (x y : Operand) : opV E tm d (.store 104 x y) S = storeC 1 (E.ev tm x) (E.ev tm y) S := store_chk (b := false) 104 1 (by kernel_rfl) x y
theorem load112 {tm : PM AV} {S : St} {d : Option Tmp} (x : Operand) : opV E tm d (.load 112 x) S = loadC false 1 (E.ev tm x) S := load_chk 112 false 1 (by kernel_rfl) x
theorem store112 {tm : PM AV} {S : St} {d : Option Tmp} (x y : Operand) : opV E tm d (.store 112 x y) S = storeC 1 (E.ev tm x) (E.ev tm y) S := store_chk (b := false) 112 1 (by kernel_rfl) x y
theorem load116 {tm : PM AV} {S : St} {d : Option Tmp} (x : Operand) : opV E tm d (.load 116 x) S = loadC false 1 (E.ev tm x) S := load_chk 116 false 1 (by kernel_rfl) x
theorem store116 {tm : PM AV} {S : St} {d : Option Tmp} (x y : Operand) : opV E tm d (.store 116 x y) S = storeC 1 (E.ev tm x) (E.ev tm y) S := store_chk (b := false) 116 1 (by kernel_rfl) x y
theorem load120 {tm : PM AV} {S : St} {d : Option Tmp} (x : Operand) : opV E tm d (.load 120 x) S = loadC false 1 (E.ev tm x) S := load_chk 120 false 1 (by kernel_rfl) x
theorem store120 {tm : PM AV} {S : St} {d : Option Tmp} (x y : Operand) : opV E tm d (.store 120 x y) S = storeC 1 (E.ev tm x) (E.ev tm y) S := store_chk (b := false) 120 1 (by kernel_rfl) x y
theorem load124 {tm : PM AV} {S : St} {d : Option Tmp} (x : Operand) : opV E tm d (.load 124 x) S = loadC true 4 (E.ev tm x) S := load_chk 124 true 4 (by kernel_rfl) x
theorem store124 {tm : PM AV} {S : St} {d : Option Tmp} (x y : Operand) : opV E tm d (.store 124 x y) S = storeC 4 (E.ev tm x) (E.ev tm y) S := store_chk (b := true) 124 4 (by kernel_rfl) x y
theorem load125 {tm : PM AV} {S : St} {d : Option Tmp} (x : Operand) : opV E tm d (.load 125 x) S = loadC true 4 (E.ev tm x) S := load_chk 125 true 4 (by kernel_rfl) x
theorem store125 {tm : PM AV} {S : St} {d : Option Tmp} (x y : Operand) : opV E tm d (.store 125 x y) S = storeC 4 (E.ev tm x) (E.ev tm y) S := store_chk (b := true) 125 4 (by kernel_rfl) x y
theorem load126 {tm : PM AV} {S : St} {d : Option Tmp} (x : Operand) : opV E tm d (.load 126 x) S = loadC true 0 (E.ev tm x) S := load_chk 126 true 0 (by kernel_rfl) x
theorem store126 {tm : PM AV} {S : St} {d : Option Tmp} (x y : Operand) : opV E tm d (.store 126 x y) S = storeC 0 (E.ev tm x) (E.ev tm y) S := store_chk (b := true) 126 0 (by kernel_rfl) x y
theorem load127 {tm : PM AV} {S : St} {d : Option Tmp} (x : Operand) : opV E tm d (.load 127 x) S = loadC true 0 (E.ev tm x) S := load_chk 127 true 0 (by kernel_rfl) x
theorem store127 {tm : PM AV} {S : St} {d : Option Tmp} (x y : Operand) : opV E tm d (.store 127 x y) S = storeC 0 (E.ev tm x) (E.ev tm y) S := store_chk (b := true) 127 0 (by kernel_rfl) x y
theorem load128 {tm : PM AV} {S : St} {d : Option Tmp} (x : Operand) : opV E tm d (.load 128 x) S = loadC true 0 (E.ev tm x) S := load_chk 128 true 0 (by kernel_rfl) x
theorem store128 {tm : PM AV} {S : St} {d : Option Tmp} (x y : Operand) : opV E tm d (.store 128 x y) S = storeC 0 (E.ev tm x) (E.ev tm y) S := store_chk (b := true) 128 0 (by kernel_rfl) x y
theorem load129 {tm : PM AV} {S : St} {d : Option Tmp} (x : Operand) : opV E tm d (.load 129 x) S = loadC false 1 (E.ev tm x) S := load_chk 129 false 1 (by kernel_rfl) x
theorem store129 {tm : PM AV} {S : St} {d : Option Tmp} (x y : Operand) : opV E tm d (.store 129 x y) S = storeC 1 (E.ev tm x) (E.ev tm y) S := store_chk (b := false) 129 1 (by kernel_rfl) x y
theorem load130 {tm : PM AV} {S : St} {d : Option Tmp} (x : Operand) : opV E tm d (.load 130 x) S = loadC false 1 (E.ev tm x) S := load_chk 130 false 1 (by kernel_rfl) x
theorem store130 {tm : PM AV} {S : St} {d : Option Tmp} (x y : Operand) : opV E tm d (.store 130 x y) S = storeC 1 (E.ev tm x) (E.ev tm y) S := store_chk (b := false) 130 1 (by kernel_rfl) x y
theorem load132 {tm : PM AV} {S : St} {d : Option Tmp} (x : Operand) : opV E tm d (.load 132 x) S = loadC false 1 (E.ev tm x) S := load_chk 132 false 1 (by kernel_rfl) x
theorem store132 {tm : PM AV} {S : St} {d : Option Tmp} (x y : Operand) : opV E tm d (.store 132 x y) S = storeC 1 (E.ev tm x) (E.ev tm y) S := store_chk (b := false) 132 1 (by kernel_rfl) x y
theorem load133 {tm : PM AV} {S : St} {d : Option Tmp} (x : Operand) : opV E tm d (.load 133 x) S = loadC false 1 (E.ev tm x) S := load_chk 133 false 1 (by kernel_rfl) x
theorem store133 {tm : PM AV} {S : St} {d : Option Tmp} (x y : Operand) : opV E tm d (.store 133 x y) S = storeC 1 (E.ev tm x) (E.ev tm y) S := store_chk (b := false) 133 1 (by kernel_rfl) x y
theorem load134 {tm : PM AV} {S : St} {d : Option Tmp} (x : Operand) : opV E tm d (.load 134 x) S = loadC false 1 (E.ev tm x) S := load_chk 134 false 1 (by kernel_rfl) x
theorem store134 {tm : PM AV} {S : St} {d : Option Tmp} (x y : Operand) : opV E tm d (.store 134 x y) S = storeC 1 (E.ev tm x) (E.ev tm y) S := store_chk (b := false) 134 1 (by kernel_rfl) x y
theorem load135 {tm : PM AV} {S : St} {d : Option Tmp} (x : Operand) : opV E tm d (.load 135 x) S = loadC true 11 (E.ev tm x) S := load_chk 135 true 11 (by kernel_rfl) x
theorem store135 {tm : PM AV} {S : St} {d : Option Tmp} (x y : Operand) : opV E tm d (.store 135 x y) S = storeC 11 (E.ev tm x) (E.ev tm y) S := store_chk (b := true) 135 11 (by kernel_rfl) x y
theorem load136 {tm : PM AV} {S : St} {d : Option Tmp} (x : Operand) : opV E tm d (.load 136 x) S = loadC true 11 (E.ev tm x) S := load_chk 136 true 11 (by kernel_rfl) x
theorem store136 {tm : PM AV} {S : St} {d : Option Tmp} (x y : Operand) : opV E tm d (.store 136 x y) S = storeC 11 (E.ev tm x) (E.ev tm y) S := store_chk (b := true) 136 11 (by kernel_rfl) x y
theorem conv3_5 {S : St} (mu : Bool) (n : Int) : convertA E mu 3 5 (.sc (.int .i64 n)) S = some (.sc (.int .u8 (IntKind.wrap .u8 n)), S) := conv_chk 3 5 .i64 .u8 n (by kernel_rfl) (by kernel_rfl)
theorem conv3_85 {S : St} (mu : Bool) (n : Int) : convertA E mu 3 85 (.sc (.int .i64 n)) S = some (.sc (.int .u64 (IntKind.wrap .u64 n)), S) := conv_chk 3 85 .i64 .u64 n (by kernel_rfl) (by kernel_rfl)
theorem conv3_90 {S : St} (mu : Bool) (n : Int) : convertA E mu 3 90 (.sc (.int .i64 n)) S = some (.sc (.int .u64 (IntKind.wrap .u64 n)), S) := conv_chk 3 90 .i64 .u64 n (by kernel_rfl) (by kernel_rfl)
theorem conv3_112 {S : St} (mu : Bool) (n : Int) : convertA E mu 3 112 (.sc (.int .i64 n)) S = some (.sc (.int .u64 (IntKind.wrap .u64 n)), S) := conv_chk 3 112 .i64 .u64 n (by kernel_rfl) (by kernel_rfl)
theorem conv5_3 {S : St} (mu : Bool) (n : Int) : convertA E mu 5 3 (.sc (.int .u8 n)) S = some (.sc (.int .i64 (IntKind.wrap .i64 n)), S) := conv_chk 5 3 .u8 .i64 n (by kernel_rfl) (by kernel_rfl)
theorem conv5_85 {S : St} (mu : Bool) (n : Int) : convertA E mu 5 85 (.sc (.int .u8 n)) S = some (.sc (.int .u64 (IntKind.wrap .u64 n)), S) := conv_chk 5 85 .u8 .u64 n (by kernel_rfl) (by kernel_rfl)
theorem conv85_3 {S : St} (mu : Bool) (n : Int) : convertA E mu 85 3 (.sc (.int .u64 n)) S = some (.sc (.int .i64 (IntKind.wrap .i64 n)), S) := conv_chk 85 3 .u64 .i64 n (by kernel_rfl) (by kernel_rfl)
theorem conv85_5 {S : St} (mu : Bool) (n : Int) : convertA E mu 85 5 (.sc (.int .u64 n)) S = some (.sc (.int .u8 (IntKind.wrap .u8 n)), S) := conv_chk 85 5 .u64 .u8 n (by kernel_rfl) (by kernel_rfl)
theorem conv90_3 {S : St} (mu : Bool) (n : Int) : convertA E mu 90 3 (.sc (.int .u64 n)) S = some (.sc (.int .i64 (IntKind.wrap .i64 n)), S) := conv_chk 90 3 .u64 .i64 n (by kernel_rfl) (by kernel_rfl)
theorem conv90_104 {S : St} (mu : Bool) (n : Int) : convertA E mu 90 104 (.sc (.int .u64 n)) S = some (.sc (.int .u32 (IntKind.wrap .u32 n)), S) := conv_chk 90 104 .u64 .u32 n (by kernel_rfl) (by kernel_rfl)
theorem conv104_5 {S : St} (mu : Bool) (n : Int) : convertA E mu 104 5 (.sc (.int .u32 n)) S = some (.sc (.int .u8 (IntKind.wrap .u8 n)), S) := conv_chk 104 5 .u32 .u8 n (by kernel_rfl) (by kernel_rfl)
theorem call3 {nt : Nat} {k : List KI} {tm : PM AV} {S : St} {Q : PostA} (d : Option Tmp) (xs : Array Operand) (ats : Array TypeId) (r : List POp) : EndsA E nt (.c (.reg (⟨d, .call (Call.mk (.value (.func 3)) xs ats), none⟩ :: r)) :: k) .nrm tm S Q = CallK E nt 3 (xs.toList.map (E.ev tm)) d r k tm S Q := e_call d 3 xs ats r rfl
theorem call4 {nt : Nat} {k : List KI} {tm : PM AV} {S : St} {Q : PostA} (d : Option Tmp) (xs : Array Operand) (ats : Array TypeId) (r : List POp) : EndsA E nt (.c (.reg (⟨d, .call (Call.mk (.value (.func 4)) xs ats), none⟩ :: r)) :: k) .nrm tm S Q = CallK E nt 4 (xs.toList.map (E.ev tm)) d r k tm S Q := e_call d 4 xs ats r rfl
theorem call5 {nt : Nat} {k : List KI} {tm : PM AV} {S : St} {Q : PostA} (d : Option Tmp) (xs : Array Operand) (ats : Array TypeId) (r : List POp) : EndsA E nt (.c (.reg (⟨d, .call (Call.mk (.value (.func 5)) xs ats), none⟩ :: r)) :: k) .nrm tm S Q = CallK E nt 5 (xs.toList.map (E.ev tm)) d r k tm S Q := e_call d 5 xs ats r rfl
theorem call6 {nt : Nat} {k : List KI} {tm : PM AV} {S : St} {Q : PostA} (d : Option Tmp) (xs : Array Operand) (ats : Array TypeId) (r : List POp) : EndsA E nt (.c (.reg (⟨d, .call (Call.mk (.value (.func 6)) xs ats), none⟩ :: r)) :: k) .nrm tm S Q = CallK E nt 6 (xs.toList.map (E.ev tm)) d r k tm S Q := e_call d 6 xs ats r rfl
theorem call7 {nt : Nat} {k : List KI} {tm : PM AV} {S : St} {Q : PostA} (d : Option Tmp) (xs : Array Operand) (ats : Array TypeId) (r : List POp) : EndsA E nt (.c (.reg (⟨d, .call (Call.mk (.value (.func 7)) xs ats), none⟩ :: r)) :: k) .nrm tm S Q = CallK E nt 7 (xs.toList.map (E.ev tm)) d r k tm S Q := e_call d 7 xs ats r rfl
theorem call8 {nt : Nat} {k : List KI} {tm : PM AV} {S : St} {Q : PostA} (d : Option Tmp) (xs : Array Operand) (ats : Array TypeId) (r : List POp) : EndsA E nt (.c (.reg (⟨d, .call (Call.mk (.value (.func 8)) xs ats), none⟩ :: r)) :: k) .nrm tm S Q = CallK E nt 8 (xs.toList.map (E.ev tm)) d r k tm S Q := e_call d 8 xs ats r rfl
theorem call9 {nt : Nat} {k : List KI} {tm : PM AV} {S : St} {Q : PostA} (d : Option Tmp) (xs : Array Operand) (ats : Array TypeId) (r : List POp) : EndsA E nt (.c (.reg (⟨d, .call (Call.mk (.value (.func 9)) xs ats), none⟩ :: r)) :: k) .nrm tm S Q = CallK E nt 9 (xs.toList.map (E.ev tm)) d r k tm S Q := e_call d 9 xs ats r rfl
theorem call10 {nt : Nat} {k : List KI} {tm : PM AV} {S : St} {Q : PostA} (d : Option Tmp) (xs : Array Operand) (ats : Array TypeId) (r : List POp) : EndsA E nt (.c (.reg (⟨d, .call (Call.mk (.value (.func 10)) xs ats), none⟩ :: r)) :: k) .nrm tm S Q = CallK E nt 10 (xs.toList.map (E.ev tm)) d r k tm S Q := e_call d 10 xs ats r rfl
theorem call11 {nt : Nat} {k : List KI} {tm : PM AV} {S : St} {Q : PostA} (d : Option Tmp) (xs : Array Operand) (ats : Array TypeId) (r : List POp) : EndsA E nt (.c (.reg (⟨d, .call (Call.mk (.value (.func 11)) xs ats), none⟩ :: r)) :: k) .nrm tm S Q = CallK E nt 11 (xs.toList.map (E.ev tm)) d r k tm S Q := e_call d 11 xs ats r rfl
theorem call12 {nt : Nat} {k : List KI} {tm : PM AV} {S : St} {Q : PostA} (d : Option Tmp) (xs : Array Operand) (ats : Array TypeId) (r : List POp) : EndsA E nt (.c (.reg (⟨d, .call (Call.mk (.value (.func 12)) xs ats), none⟩ :: r)) :: k) .nrm tm S Q = CallK E nt 12 (xs.toList.map (E.ev tm)) d r k tm S Q := e_call d 12 xs ats r rfl
theorem call13 {nt : Nat} {k : List KI} {tm : PM AV} {S : St} {Q : PostA} (d : Option Tmp) (xs : Array Operand) (ats : Array TypeId) (r : List POp) : EndsA E nt (.c (.reg (⟨d, .call (Call.mk (.value (.func 13)) xs ats), none⟩ :: r)) :: k) .nrm tm S Q = CallK E nt 13 (xs.toList.map (E.ev tm)) d r k tm S Q := e_call d 13 xs ats r rfl
theorem call14 {nt : Nat} {k : List KI} {tm : PM AV} {S : St} {Q : PostA} (d : Option Tmp) (xs : Array Operand) (ats : Array TypeId) (r : List POp) : EndsA E nt (.c (.reg (⟨d, .call (Call.mk (.value (.func 14)) xs ats), none⟩ :: r)) :: k) .nrm tm S Q = CallK E nt 14 (xs.toList.map (E.ev tm)) d r k tm S Q := e_call d 14 xs ats r rfl
theorem call15 {nt : Nat} {k : List KI} {tm : PM AV} {S : St} {Q : PostA} (d : Option Tmp) (xs : Array Operand) (ats : Array TypeId) (r : List POp) : EndsA E nt (.c (.reg (⟨d, .call (Call.mk (.value (.func 15)) xs ats), none⟩ :: r)) :: k) .nrm tm S Q = CallK E nt 15 (xs.toList.map (E.ev tm)) d r k tm S Q := e_call d 15 xs ats r rfl
theorem call16 {nt : Nat} {k : List KI} {tm : PM AV} {S : St} {Q : PostA} (d : Option Tmp) (xs : Array Operand) (ats : Array TypeId) (r : List POp) : EndsA E nt (.c (.reg (⟨d, .call (Call.mk (.value (.func 16)) xs ats), none⟩ :: r)) :: k) .nrm tm S Q = CallK E nt 16 (xs.toList.map (E.ev tm)) d r k tm S Q := e_call d 16 xs ats r rfl
theorem call17 {nt : Nat} {k : List KI} {tm : PM AV} {S : St} {Q : PostA} (d : Option Tmp) (xs : Array Operand) (ats : Array TypeId) (r : List POp) : EndsA E nt (.c (.reg (⟨d, .call (Call.mk (.value (.func 17)) xs ats), none⟩ :: r)) :: k) .nrm tm S Q = CallK E nt 17 (xs.toList.map (E.ev tm)) d r k tm S Q := e_call d 17 xs ats r rfl
theorem call18 {nt : Nat} {k : List KI} {tm : PM AV} {S : St} {Q : PostA} (d : Option Tmp) (xs : Array Operand) (ats : Array TypeId) (r : List POp) : EndsA E nt (.c (.reg (⟨d, .call (Call.mk (.value (.func 18)) xs ats), none⟩ :: r)) :: k) .nrm tm S Q = CallK E nt 18 (xs.toList.map (E.ev tm)) d r k tm S Q := e_call d 18 xs ats r rfl
theorem call19 {nt : Nat} {k : List KI} {tm : PM AV} {S : St} {Q : PostA} (d : Option Tmp) (xs : Array Operand) (ats : Array TypeId) (r : List POp) : EndsA E nt (.c (.reg (⟨d, .call (Call.mk (.value (.func 19)) xs ats), none⟩ :: r)) :: k) .nrm tm S Q = CallK E nt 19 (xs.toList.map (E.ev tm)) d r k tm S Q := e_call d 19 xs ats r rfl
theorem call20 {nt : Nat} {k : List KI} {tm : PM AV} {S : St} {Q : PostA} (d : Option Tmp) (xs : Array Operand) (ats : Array TypeId) (r : List POp) : EndsA E nt (.c (.reg (⟨d, .call (Call.mk (.value (.func 20)) xs ats), none⟩ :: r)) :: k) .nrm tm S Q = CallK E nt 20 (xs.toList.map (E.ev tm)) d r k tm S Q := e_call d 20 xs ats r rfl
theorem call21 {nt : Nat} {k : List KI} {tm : PM AV} {S : St} {Q : PostA} (d : Option Tmp) (xs : Array Operand) (ats : Array TypeId) (r : List POp) : EndsA E nt (.c (.reg (⟨d, .call (Call.mk (.value (.func 21)) xs ats), none⟩ :: r)) :: k) .nrm tm S Q = CallK E nt 21 (xs.toList.map (E.ev tm)) d r k tm S Q := e_call d 21 xs ats r rfl
theorem call22 {nt : Nat} {k : List KI} {tm : PM AV} {S : St} {Q : PostA} (d : Option Tmp) (xs : Array Operand) (ats : Array TypeId) (r : List POp) : EndsA E nt (.c (.reg (⟨d, .call (Call.mk (.value (.func 22)) xs ats), none⟩ :: r)) :: k) .nrm tm S Q = CallK E nt 22 (xs.toList.map (E.ev tm)) d r k tm S Q := e_call d 22 xs ats r rfl
theorem call23 {nt : Nat} {k : List KI} {tm : PM AV} {S : St} {Q : PostA} (d : Option Tmp) (xs : Array Operand) (ats : Array TypeId) (r : List POp) : EndsA E nt (.c (.reg (⟨d, .call (Call.mk (.value (.func 23)) xs ats), none⟩ :: r)) :: k) .nrm tm S Q = CallK E nt 23 (xs.toList.map (E.ev tm)) d r k tm S Q := e_call d 23 xs ats r rfl
theorem call24 {nt : Nat} {k : List KI} {tm : PM AV} {S : St} {Q : PostA} (d : Option Tmp) (xs : Array Operand) (ats : Array TypeId) (r : List POp) : EndsA E nt (.c (.reg (⟨d, .call (Call.mk (.value (.func 24)) xs ats), none⟩ :: r)) :: k) .nrm tm S Q = CallK E nt 24 (xs.toList.map (E.ev tm)) d r k tm S Q := e_call d 24 xs ats r rfl
theorem call25 {nt : Nat} {k : List KI} {tm : PM AV} {S : St} {Q : PostA} (d : Option Tmp) (xs : Array Operand) (ats : Array TypeId) (r : List POp) : EndsA E nt (.c (.reg (⟨d, .call (Call.mk (.value (.func 25)) xs ats), none⟩ :: r)) :: k) .nrm tm S Q = CallK E nt 25 (xs.toList.map (E.ev tm)) d r k tm S Q := e_call d 25 xs ats r rfl
theorem call26 {nt : Nat} {k : List KI} {tm : PM AV} {S : St} {Q : PostA} (d : Option Tmp) (xs : Array Operand) (ats : Array TypeId) (r : List POp) : EndsA E nt (.c (.reg (⟨d, .call (Call.mk (.value (.func 26)) xs ats), none⟩ :: r)) :: k) .nrm tm S Q = CallK E nt 26 (xs.toList.map (E.ev tm)) d r k tm S Q := e_call d 26 xs ats r rfl
theorem call27 {nt : Nat} {k : List KI} {tm : PM AV} {S : St} {Q : PostA} (d : Option Tmp) (xs : Array Operand) (ats : Array TypeId) (r : List POp) : EndsA E nt (.c (.reg (⟨d, .call (Call.mk (.value (.func 27)) xs ats), none⟩ :: r)) :: k) .nrm tm S Q = CallK E nt 27 (xs.toList.map (E.ev tm)) d r k tm S Q := e_call d 27 xs ats r rfl
theorem call28 {nt : Nat} {k : List KI} {tm : PM AV} {S : St} {Q : PostA} (d : Option Tmp) (xs : Array Operand) (ats : Array TypeId) (r : List POp) : EndsA E nt (.c (.reg (⟨d, .call (Call.mk (.value (.func 28)) xs ats), none⟩ :: r)) :: k) .nrm tm S Q = CallK E nt 28 (xs.toList.map (E.ev tm)) d r k tm S Q := e_call d 28 xs ats r rfl
theorem call29 {nt : Nat} {k : List KI} {tm : PM AV} {S : St} {Q : PostA} (d : Option Tmp) (xs : Array Operand) (ats : Array TypeId) (r : List POp) : EndsA E nt (.c (.reg (⟨d, .call (Call.mk (.value (.func 29)) xs ats), none⟩ :: r)) :: k) .nrm tm S Q = CallK E nt 29 (xs.toList.map (E.ev tm)) d r k tm S Q := e_call d 29 xs ats r rfl
theorem call30 {nt : Nat} {k : List KI} {tm : PM AV} {S : St} {Q : PostA} (d : Option Tmp) (xs : Array Operand) (ats : Array TypeId) (r : List POp) : EndsA E nt (.c (.reg (⟨d, .call (Call.mk (.value (.func 30)) xs ats), none⟩ :: r)) :: k) .nrm tm S Q = CallK E nt 30 (xs.toList.map (E.ev tm)) d r k tm S Q := e_call d 30 xs ats r rfl
theorem call31 {nt : Nat} {k : List KI} {tm : PM AV} {S : St} {Q : PostA} (d : Option Tmp) (xs : Array Operand) (ats : Array TypeId) (r : List POp) : EndsA E nt (.c (.reg (⟨d, .call (Call.mk (.value (.func 31)) xs ats), none⟩ :: r)) :: k) .nrm tm S Q = CallK E nt 31 (xs.toList.map (E.ev tm)) d r k tm S Q := e_call d 31 xs ats r rfl
theorem call32 {nt : Nat} {k : List KI} {tm : PM AV} {S : St} {Q : PostA} (d : Option Tmp) (xs : Array Operand) (ats : Array TypeId) (r : List POp) : EndsA E nt (.c (.reg (⟨d, .call (Call.mk (.value (.func 32)) xs ats), none⟩ :: r)) :: k) .nrm tm S Q = CallK E nt 32 (xs.toList.map (E.ev tm)) d r k tm S Q := e_call d 32 xs ats r rfl
theorem call33 {nt : Nat} {k : List KI} {tm : PM AV} {S : St} {Q : PostA} (d : Option Tmp) (xs : Array Operand) (ats : Array TypeId) (r : List POp) : EndsA E nt (.c (.reg (⟨d, .call (Call.mk (.value (.func 33)) xs ats), none⟩ :: r)) :: k) .nrm tm S Q = CallK E nt 33 (xs.toList.map (E.ev tm)) d r k tm S Q := e_call d 33 xs ats r rfl
theorem call34 {nt : Nat} {k : List KI} {tm : PM AV} {S : St} {Q : PostA} (d : Option Tmp) (xs : Array Operand) (ats : Array TypeId) (r : List POp) : EndsA E nt (.c (.reg (⟨d, .call (Call.mk (.value (.func 34)) xs ats), none⟩ :: r)) :: k) .nrm tm S Q = CallK E nt 34 (xs.toList.map (E.ev tm)) d r k tm S Q := e_call d 34 xs ats r rfl
theorem call35 {nt : Nat} {k : List KI} {tm : PM AV} {S : St} {Q : PostA} (d : Option Tmp) (xs : Array Operand) (ats : Array TypeId) (r : List POp) : EndsA E nt (.c (.reg (⟨d, .call (Call.mk (.value (.func 35)) xs ats), none⟩ :: r)) :: k) .nrm tm S Q = CallK E nt 35 (xs.toList.map (E.ev tm)) d r k tm S Q := e_call d 35 xs ats r rfl
theorem call36 {nt : Nat} {k : List KI} {tm : PM AV} {S : St} {Q : PostA} (d : Option Tmp) (xs : Array Operand) (ats : Array TypeId) (r : List POp) : EndsA E nt (.c (.reg (⟨d, .call (Call.mk (.value (.func 36)) xs ats), none⟩ :: r)) :: k) .nrm tm S Q = CallK E nt 36 (xs.toList.map (E.ev tm)) d r k tm S Q := e_call d 36 xs ats r rfl
theorem call37 {nt : Nat} {k : List KI} {tm : PM AV} {S : St} {Q : PostA} (d : Option Tmp) (xs : Array Operand) (ats : Array TypeId) (r : List POp) : EndsA E nt (.c (.reg (⟨d, .call (Call.mk (.value (.func 37)) xs ats), none⟩ :: r)) :: k) .nrm tm S Q = CallK E nt 37 (xs.toList.map (E.ev tm)) d r k tm S Q := e_call d 37 xs ats r rfl
theorem call38 {nt : Nat} {k : List KI} {tm : PM AV} {S : St} {Q : PostA} (d : Option Tmp) (xs : Array Operand) (ats : Array TypeId) (r : List POp) : EndsA E nt (.c (.reg (⟨d, .call (Call.mk (.value (.func 38)) xs ats), none⟩ :: r)) :: k) .nrm tm S Q = CallK E nt 38 (xs.toList.map (E.ev tm)) d r k tm S Q := e_call d 38 xs ats r rfl
theorem call39 {nt : Nat} {k : List KI} {tm : PM AV} {S : St} {Q : PostA} (d : Option Tmp) (xs : Array Operand) (ats : Array TypeId) (r : List POp) : EndsA E nt (.c (.reg (⟨d, .call (Call.mk (.value (.func 39)) xs ats), none⟩ :: r)) :: k) .nrm tm S Q = CallK E nt 39 (xs.toList.map (E.ev tm)) d r k tm S Q := e_call d 39 xs ats r rfl
theorem call40 {nt : Nat} {k : List KI} {tm : PM AV} {S : St} {Q : PostA} (d : Option Tmp) (xs : Array Operand) (ats : Array TypeId) (r : List POp) : EndsA E nt (.c (.reg (⟨d, .call (Call.mk (.value (.func 40)) xs ats), none⟩ :: r)) :: k) .nrm tm S Q = CallK E nt 40 (xs.toList.map (E.ev tm)) d r k tm S Q := e_call d 40 xs ats r rfl
theorem call41 {nt : Nat} {k : List KI} {tm : PM AV} {S : St} {Q : PostA} (d : Option Tmp) (xs : Array Operand) (ats : Array TypeId) (r : List POp) : EndsA E nt (.c (.reg (⟨d, .call (Call.mk (.value (.func 41)) xs ats), none⟩ :: r)) :: k) .nrm tm S Q = CallK E nt 41 (xs.toList.map (E.ev tm)) d r k tm S Q := e_call d 41 xs ats r rfl
theorem call42 {nt : Nat} {k : List KI} {tm : PM AV} {S : St} {Q : PostA} (d : Option Tmp) (xs : Array Operand) (ats : Array TypeId) (r : List POp) : EndsA E nt (.c (.reg (⟨d, .call (Call.mk (.value (.func 42)) xs ats), none⟩ :: r)) :: k) .nrm tm S Q = CallK E nt 42 (xs.toList.map (E.ev tm)) d r k tm S Q := e_call d 42 xs ats r rfl
theorem call43 {nt : Nat} {k : List KI} {tm : PM AV} {S : St} {Q : PostA} (d : Option Tmp) (xs : Array Operand) (ats : Array TypeId) (r : List POp) : EndsA E nt (.c (.reg (⟨d, .call (Call.mk (.value (.func 43)) xs ats), none⟩ :: r)) :: k) .nrm tm S Q = CallK E nt 43 (xs.toList.map (E.ev tm)) d r k tm S Q := e_call d 43 xs ats r rfl
theorem call44 {nt : Nat} {k : List KI} {tm : PM AV} {S : St} {Q : PostA} (d : Option Tmp) (xs : Array Operand) (ats : Array TypeId) (r : List POp) : EndsA E nt (.c (.reg (⟨d, .call (Call.mk (.value (.func 44)) xs ats), none⟩ :: r)) :: k) .nrm tm S Q = CallK E nt 44 (xs.toList.map (E.ev tm)) d r k tm S Q := e_call d 44 xs ats r rfl
theorem call45 {nt : Nat} {k : List KI} {tm : PM AV} {S : St} {Q : PostA} (d : Option Tmp) (xs : Array Operand) (ats : Array TypeId) (r : List POp) : EndsA E nt (.c (.reg (⟨d, .call (Call.mk (.value (.func 45)) xs ats), none⟩ :: r)) :: k) .nrm tm S Q = CallK E nt 45 (xs.toList.map (E.ev tm)) d r k tm S Q := e_call d 45 xs ats r rfl
theorem call46 {nt : Nat} {k : List KI} {tm : PM AV} {S : St} {Q : PostA} (d : Option Tmp) (xs : Array Operand) (ats : Array TypeId) (r : List POp) : EndsA E nt (.c (.reg (⟨d, .call (Call.mk (.value (.func 46)) xs ats), none⟩ :: r)) :: k) .nrm tm S Q = CallK E nt 46 (xs.toList.map (E.ev tm)) d r k tm S Q := e_call d 46 xs ats r rfl
theorem call47 {nt : Nat} {k : List KI} {tm : PM AV} {S : St} {Q : PostA} (d : Option Tmp) (xs : Array Operand) (ats : Array TypeId) (r : List POp) : EndsA E nt (.c (.reg (⟨d, .call (Call.mk (.value (.func 47)) xs ats), none⟩ :: r)) :: k) .nrm tm S Q = CallK E nt 47 (xs.toList.map (E.ev tm)) d r k tm S Q := e_call d 47 xs ats r rfl
theorem call48 {nt : Nat} {k : List KI} {tm : PM AV} {S : St} {Q : PostA} (d : Option Tmp) (xs : Array Operand) (ats : Array TypeId) (r : List POp) : EndsA E nt (.c (.reg (⟨d, .call (Call.mk (.value (.func 48)) xs ats), none⟩ :: r)) :: k) .nrm tm S Q = CallK E nt 48 (xs.toList.map (E.ev tm)) d r k tm S Q := e_call d 48 xs ats r rfl
theorem call49 {nt : Nat} {k : List KI} {tm : PM AV} {S : St} {Q : PostA} (d : Option Tmp) (xs : Array Operand) (ats : Array TypeId) (r : List POp) : EndsA E nt (.c (.reg (⟨d, .call (Call.mk (.value (.func 49)) xs ats), none⟩ :: r)) :: k) .nrm tm S Q = CallK E nt 49 (xs.toList.map (E.ev tm)) d r k tm S Q := e_call d 49 xs ats r rfl
theorem call50 {nt : Nat} {k : List KI} {tm : PM AV} {S : St} {Q : PostA} (d : Option Tmp) (xs : Array Operand) (ats : Array TypeId) (r : List POp) : EndsA E nt (.c (.reg (⟨d, .call (Call.mk (.value (.func 50)) xs ats), none⟩ :: r)) :: k) .nrm tm S Q = CallK E nt 50 (xs.toList.map (E.ev tm)) d r k tm S Q := e_call d 50 xs ats r rfl
theorem call51 {nt : Nat} {k : List KI} {tm : PM AV} {S : St} {Q : PostA} (d : Option Tmp) (xs : Array Operand) (ats : Array TypeId) (r : List POp) : EndsA E nt (.c (.reg (⟨d, .call (Call.mk (.value (.func 51)) xs ats), none⟩ :: r)) :: k) .nrm tm S Q = CallK E nt 51 (xs.toList.map (E.ev tm)) d r k tm S Q := e_call d 51 xs ats r rfl
theorem call52 {nt : Nat} {k : List KI} {tm : PM AV} {S : St} {Q : PostA} (d : Option Tmp) (xs : Array Operand) (ats : Array TypeId) (r : List POp) : EndsA E nt (.c (.reg (⟨d, .call (Call.mk (.value (.func 52)) xs ats), none⟩ :: r)) :: k) .nrm tm S Q = CallK E nt 52 (xs.toList.map (E.ev tm)) d r k tm S Q := e_call d 52 xs ats r rfl
theorem call53 {nt : Nat} {k : List KI} {tm : PM AV} {S : St} {Q : PostA} (d : Option Tmp) (xs : Array Operand) (ats : Array TypeId) (r : List POp) : EndsA E nt (.c (.reg (⟨d, .call (Call.mk (.value (.func 53)) xs ats), none⟩ :: r)) :: k) .nrm tm S Q = CallK E nt 53 (xs.toList.map (E.ev tm)) d r k tm S Q := e_call d 53 xs ats r rfl
theorem call54 {nt : Nat} {k : List KI} {tm : PM AV} {S : St} {Q : PostA} (d : Option Tmp) (xs : Array Operand) (ats : Array TypeId) (r : List POp) : EndsA E nt (.c (.reg (⟨d, .call (Call.mk (.value (.func 54)) xs ats), none⟩ :: r)) :: k) .nrm tm S Q = CallK E nt 54 (xs.toList.map (E.ev tm)) d r k tm S Q := e_call d 54 xs ats r rfl
theorem call55 {nt : Nat} {k : List KI} {tm : PM AV} {S : St} {Q : PostA} (d : Option Tmp) (xs : Array Operand) (ats : Array TypeId) (r : List POp) : EndsA E nt (.c (.reg (⟨d, .call (Call.mk (.value (.func 55)) xs ats), none⟩ :: r)) :: k) .nrm tm S Q = CallK E nt 55 (xs.toList.map (E.ev tm)) d r k tm S Q := e_call d 55 xs ats r rfl
theorem call56 {nt : Nat} {k : List KI} {tm : PM AV} {S : St} {Q : PostA} (d : Option Tmp) (xs : Array Operand) (ats : Array TypeId) (r : List POp) : EndsA E nt (.c (.reg (⟨d, .call (Call.mk (.value (.func 56)) xs ats), none⟩ :: r)) :: k) .nrm tm S Q = CallK E nt 56 (xs.toList.map (E.ev tm)) d r k tm S Q := e_call d 56 xs ats r rfl
theorem call57 {nt : Nat} {k : List KI} {tm : PM AV} {S : St} {Q : PostA} (d : Option Tmp) (xs : Array Operand) (ats : Array TypeId) (r : List POp) : EndsA E nt (.c (.reg (⟨d, .call (Call.mk (.value (.func 57)) xs ats), none⟩ :: r)) :: k) .nrm tm S Q = CallK E nt 57 (xs.toList.map (E.ev tm)) d r k tm S Q := e_call d 57 xs ats r rfl
theorem call58 {nt : Nat} {k : List KI} {tm : PM AV} {S : St} {Q : PostA} (d : Option Tmp) (xs : Array Operand) (ats : Array TypeId) (r : List POp) : EndsA E nt (.c (.reg (⟨d, .call (Call.mk (.value (.func 58)) xs ats), none⟩ :: r)) :: k) .nrm tm S Q = CallK E nt 58 (xs.toList.map (E.ev tm)) d r k tm S Q := e_call d 58 xs ats r rfl
theorem call59 {nt : Nat} {k : List KI} {tm : PM AV} {S : St} {Q : PostA} (d : Option Tmp) (xs : Array Operand) (ats : Array TypeId) (r : List POp) : EndsA E nt (.c (.reg (⟨d, .call (Call.mk (.value (.func 59)) xs ats), none⟩ :: r)) :: k) .nrm tm S Q = CallK E nt 59 (xs.toList.map (E.ev tm)) d r k tm S Q := e_call d 59 xs ats r rfl
theorem call60 {nt : Nat} {k : List KI} {tm : PM AV} {S : St} {Q : PostA} (d : Option Tmp) (xs : Array Operand) (ats : Array TypeId) (r : List POp) : EndsA E nt (.c (.reg (⟨d, .call (Call.mk (.value (.func 60)) xs ats), none⟩ :: r)) :: k) .nrm tm S Q = CallK E nt 60 (xs.toList.map (E.ev tm)) d r k tm S Q := e_call d 60 xs ats r rfl
theorem call61 {nt : Nat} {k : List KI} {tm : PM AV} {S : St} {Q : PostA} (d : Option Tmp) (xs : Array Operand) (ats : Array TypeId) (r : List POp) : EndsA E nt (.c (.reg (⟨d, .call (Call.mk (.value (.func 61)) xs ats), none⟩ :: r)) :: k) .nrm tm S Q = CallK E nt 61 (xs.toList.map (E.ev tm)) d r k tm S Q := e_call d 61 xs ats r rfl
theorem call63 {nt : Nat} {k : List KI} {tm : PM AV} {S : St} {Q : PostA} (d : Option Tmp) (xs : Array Operand) (ats : Array TypeId) (r : List POp) : EndsA E nt (.c (.reg (⟨d, .call (Call.mk (.value (.func 63)) xs ats), none⟩ :: r)) :: k) .nrm tm S Q = CallK E nt 63 (xs.toList.map (E.ev tm)) d r k tm S Q := e_call d 63 xs ats r rfl
theorem call64 {nt : Nat} {k : List KI} {tm : PM AV} {S : St} {Q : PostA} (d : Option Tmp) (xs : Array Operand) (ats : Array TypeId) (r : List POp) : EndsA E nt (.c (.reg (⟨d, .call (Call.mk (.value (.func 64)) xs ats), none⟩ :: r)) :: k) .nrm tm S Q = CallK E nt 64 (xs.toList.map (E.ev tm)) d r k tm S Q := e_call d 64 xs ats r rfl
theorem call65 {nt : Nat} {k : List KI} {tm : PM AV} {S : St} {Q : PostA} (d : Option Tmp) (xs : Array Operand) (ats : Array TypeId) (r : List POp) : EndsA E nt (.c (.reg (⟨d, .call (Call.mk (.value (.func 65)) xs ats), none⟩ :: r)) :: k) .nrm tm S Q = CallK E nt 65 (xs.toList.map (E.ev tm)) d r k tm S Q := e_call d 65 xs ats r rfl
theorem call66 {nt : Nat} {k : List KI} {tm : PM AV} {S : St} {Q : PostA} (d : Option Tmp) (xs : Array Operand) (ats : Array TypeId) (r : List POp) : EndsA E nt (.c (.reg (⟨d, .call (Call.mk (.value (.func 66)) xs ats), none⟩ :: r)) :: k) .nrm tm S Q = CallK E nt 66 (xs.toList.map (E.ev tm)) d r k tm S Q := e_call d 66 xs ats r rfl
theorem call67 {nt : Nat} {k : List KI} {tm : PM AV} {S : St} {Q : PostA} (d : Option Tmp) (xs : Array Operand) (ats : Array TypeId) (r : List POp) : EndsA E nt (.c (.reg (⟨d, .call (Call.mk (.value (.func 67)) xs ats), none⟩ :: r)) :: k) .nrm tm S Q = CallK E nt 67 (xs.toList.map (E.ev tm)) d r k tm S Q := e_call d 67 xs ats r rfl
theorem call68 {nt : Nat} {k : List KI} {tm : PM AV} {S : St} {Q : PostA} (d : Option Tmp) (xs : Array Operand) (ats : Array TypeId) (r : List POp) : EndsA E nt (.c (.reg (⟨d, .call (Call.mk (.value (.func 68)) xs ats), none⟩ :: r)) :: k) .nrm tm S Q = CallK E nt 68 (xs.toList.map (E.ev tm)) d r k tm S Q := e_call d 68 xs ats r rfl
theorem call69 {nt : Nat} {k : List KI} {tm : PM AV} {S : St} {Q : PostA} (d : Option Tmp) (xs : Array Operand) (ats : Array TypeId) (r : List POp) : EndsA E nt (.c (.reg (⟨d, .call (Call.mk (.value (.func 69)) xs ats), none⟩ :: r)) :: k) .nrm tm S Q = CallK E nt 69 (xs.toList.map (E.ev tm)) d r k tm S Q := e_call d 69 xs ats r rfl
theorem call70 {nt : Nat} {k : List KI} {tm : PM AV} {S : St} {Q : PostA} (d : Option Tmp) (xs : Array Operand) (ats : Array TypeId) (r : List POp) : EndsA E nt (.c (.reg (⟨d, .call (Call.mk (.value (.func 70)) xs ats), none⟩ :: r)) :: k) .nrm tm S Q = CallK E nt 70 (xs.toList.map (E.ev tm)) d r k tm S Q := e_call d 70 xs ats r rfl
theorem call71 {nt : Nat} {k : List KI} {tm : PM AV} {S : St} {Q : PostA} (d : Option Tmp) (xs : Array Operand) (ats : Array TypeId) (r : List POp) : EndsA E nt (.c (.reg (⟨d, .call (Call.mk (.value (.func 71)) xs ats), none⟩ :: r)) :: k) .nrm tm S Q = CallK E nt 71 (xs.toList.map (E.ev tm)) d r k tm S Q := e_call d 71 xs ats r rfl
theorem call72 {nt : Nat} {k : List KI} {tm : PM AV} {S : St} {Q : PostA} (d : Option Tmp) (xs : Array Operand) (ats : Array TypeId) (r : List POp) : EndsA E nt (.c (.reg (⟨d, .call (Call.mk (.value (.func 72)) xs ats), none⟩ :: r)) :: k) .nrm tm S Q = CallK E nt 72 (xs.toList.map (E.ev tm)) d r k tm S Q := e_call d 72 xs ats r rfl
theorem call73 {nt : Nat} {k : List KI} {tm : PM AV} {S : St} {Q : PostA} (d : Option Tmp) (xs : Array Operand) (ats : Array TypeId) (r : List POp) : EndsA E nt (.c (.reg (⟨d, .call (Call.mk (.value (.func 73)) xs ats), none⟩ :: r)) :: k) .nrm tm S Q = CallK E nt 73 (xs.toList.map (E.ev tm)) d r k tm S Q := e_call d 73 xs ats r rfl
theorem call74 {nt : Nat} {k : List KI} {tm : PM AV} {S : St} {Q : PostA} (d : Option Tmp) (xs : Array Operand) (ats : Array TypeId) (r : List POp) : EndsA E nt (.c (.reg (⟨d, .call (Call.mk (.value (.func 74)) xs ats), none⟩ :: r)) :: k) .nrm tm S Q = CallK E nt 74 (xs.toList.map (E.ev tm)) d r k tm S Q := e_call d 74 xs ats r rfl
theorem call75 {nt : Nat} {k : List KI} {tm : PM AV} {S : St} {Q : PostA} (d : Option Tmp) (xs : Array Operand) (ats : Array TypeId) (r : List POp) : EndsA E nt (.c (.reg (⟨d, .call (Call.mk (.value (.func 75)) xs ats), none⟩ :: r)) :: k) .nrm tm S Q = CallK E nt 75 (xs.toList.map (E.ev tm)) d r k tm S Q := e_call d 75 xs ats r rfl
theorem call76 {nt : Nat} {k : List KI} {tm : PM AV} {S : St} {Q : PostA} (d : Option Tmp) (xs : Array Operand) (ats : Array TypeId) (r : List POp) : EndsA E nt (.c (.reg (⟨d, .call (Call.mk (.value (.func 76)) xs ats), none⟩ :: r)) :: k) .nrm tm S Q = CallK E nt 76 (xs.toList.map (E.ev tm)) d r k tm S Q := e_call d 76 xs ats r rfl
theorem call77 {nt : Nat} {k : List KI} {tm : PM AV} {S : St} {Q : PostA} (d : Option Tmp) (xs : Array Operand) (ats : Array TypeId) (r : List POp) : EndsA E nt (.c (.reg (⟨d, .call (Call.mk (.value (.func 77)) xs ats), none⟩ :: r)) :: k) .nrm tm S Q = CallK E nt 77 (xs.toList.map (E.ev tm)) d r k tm S Q := e_call d 77 xs ats r rfl
theorem call78 {nt : Nat} {k : List KI} {tm : PM AV} {S : St} {Q : PostA} (d : Option Tmp) (xs : Array Operand) (ats : Array TypeId) (r : List POp) : EndsA E nt (.c (.reg (⟨d, .call (Call.mk (.value (.func 78)) xs ats), none⟩ :: r)) :: k) .nrm tm S Q = CallK E nt 78 (xs.toList.map (E.ev tm)) d r k tm S Q := e_call d 78 xs ats r rfl
theorem call79 {nt : Nat} {k : List KI} {tm : PM AV} {S : St} {Q : PostA} (d : Option Tmp) (xs : Array Operand) (ats : Array TypeId) (r : List POp) : EndsA E nt (.c (.reg (⟨d, .call (Call.mk (.value (.func 79)) xs ats), none⟩ :: r)) :: k) .nrm tm S Q = CallK E nt 79 (xs.toList.map (E.ev tm)) d r k tm S Q := e_call d 79 xs ats r rfl
theorem call80 {nt : Nat} {k : List KI} {tm : PM AV} {S : St} {Q : PostA} (d : Option Tmp) (xs : Array Operand) (ats : Array TypeId) (r : List POp) : EndsA E nt (.c (.reg (⟨d, .call (Call.mk (.value (.func 80)) xs ats), none⟩ :: r)) :: k) .nrm tm S Q = CallK E nt 80 (xs.toList.map (E.ev tm)) d r k tm S Q := e_call d 80 xs ats r rfl
theorem call81 {nt : Nat} {k : List KI} {tm : PM AV} {S : St} {Q : PostA} (d : Option Tmp) (xs : Array Operand) (ats : Array TypeId) (r : List POp) : EndsA E nt (.c (.reg (⟨d, .call (Call.mk (.value (.func 81)) xs ats), none⟩ :: r)) :: k) .nrm tm S Q = CallK E nt 81 (xs.toList.map (E.ev tm)) d r k tm S Q := e_call d 81 xs ats r rfl
theorem call82 {nt : Nat} {k : List KI} {tm : PM AV} {S : St} {Q : PostA} (d : Option Tmp) (xs : Array Operand) (ats : Array TypeId) (r : List POp) : EndsA E nt (.c (.reg (⟨d, .call (Call.mk (.value (.func 82)) xs ats), none⟩ :: r)) :: k) .nrm tm S Q = CallK E nt 82 (xs.toList.map (E.ev tm)) d r k tm S Q := e_call d 82 xs ats r rfl
theorem call83 {nt : Nat} {k : List KI} {tm : PM AV} {S : St} {Q : PostA} (d : Option Tmp) (xs : Array Operand) (ats : Array TypeId) (r : List POp) : EndsA E nt (.c (.reg (⟨d, .call (Call.mk (.value (.func 83)) xs ats), none⟩ :: r)) :: k) .nrm tm S Q = CallK E nt 83 (xs.toList.map (E.ev tm)) d r k tm S Q := e_call d 83 xs ats r rfl
theorem call84 {nt : Nat} {k : List KI} {tm : PM AV} {S : St} {Q : PostA} (d : Option Tmp) (xs : Array Operand) (ats : Array TypeId) (r : List POp) : EndsA E nt (.c (.reg (⟨d, .call (Call.mk (.value (.func 84)) xs ats), none⟩ :: r)) :: k) .nrm tm S Q = CallK E nt 84 (xs.toList.map (E.ev tm)) d r k tm S Q := e_call d 84 xs ats r rfl
/-! hindsight/hindsightlaw16.InfoApart -/
def r6_0 : List POp := [
  ⟨some 2, .box 25 (.tmp 0), none⟩,
  ⟨some 4, .assign (.const (.bool false)), none⟩]
def r6_1 : List POp := [
  ⟨some 12, .call { callee := .value (.func 7), args := #[], argTypes := #[] }, none⟩,
  ⟨some 13, .unOp .not 4 (.tmp 12), none⟩]
def r6_2 : List POp := [
  ⟨some 4, .assign (.const (.bool false)), none⟩]
def r6_3 : List POp := [
  ⟨some 14, .load 25 (.tmp 2), none⟩,
  ⟨some 15, .call { callee := .value (.func 8), args := #[(.tmp 14)], argTypes := #[25] }, none⟩,
  ⟨some 16, .move (.tmp 15), none⟩,
  ⟨some 17, .load 25 (.tmp 2), some (16, false)⟩,
  ⟨some 18, .call { callee := .value (.func 9), args := #[(.tmp 17)], argTypes := #[25] }, some (16, false)⟩,
  ⟨some 19, .unOp .not 4 (.tmp 18), some (16, false)⟩,
  ⟨some 20, .pick (.tmp 16) (.const (.bool true)) (.tmp 19), none⟩]
def r6_4 : List POp := [
  ⟨some 4, .assign (.const (.bool true)), none⟩]
def r6_5 : List POp := [
  ⟨some 21, .load 25 (.tmp 2), none⟩,
  ⟨some 22, .move (.tmp 1), none⟩,
  ⟨some 23, .call { callee := .value (.func 19), args := #[(.tmp 21), (.tmp 22)], argTypes := #[25, 3] }, none⟩,
  ⟨some 5, .assign (.tmp 23), none⟩]
def r6_6 : List POp := [
  ⟨some 6, .assign (.const (.int .i64 0)), none⟩]
def r6_7 : List POp := [
  ⟨some 7, .assign (.const (.int .i64 0)), none⟩]
def r6_8 : List POp := [
  ⟨some 24, .move (.tmp 7), none⟩,
  ⟨some 25, .fieldAddr 25 (.tmp 2) 1, none⟩,
  ⟨some 26, .load 23 (.tmp 25), none⟩,
  ⟨some 27, .call { callee := .builtin .len, args := #[(.tmp 26)], argTypes := #[23] }, none⟩,
  ⟨some 28, .binOp .lss 3 (.tmp 24) (.tmp 27) 3, none⟩]
def r6_9 : List POp := [
  ⟨some 31, .fieldAddr 25 (.tmp 2) 1, none⟩,
  ⟨some 32, .load 23 (.tmp 31), none⟩,
  ⟨some 33, .move (.tmp 7), none⟩,
  ⟨some 34, .indexAddr 23 (.tmp 32) (.tmp 33), none⟩,
  ⟨some 35, .fieldAddr 43 (.tmp 34) 0, none⟩,
  ⟨some 36, .load 3 (.tmp 35), none⟩,
  ⟨some 37, .move (.tmp 1), none⟩,
  ⟨some 38, .binOp .leq 3 (.tmp 36) (.tmp 37) 3, none⟩,
  ⟨some 39, .move (.tmp 38), none⟩,
  ⟨some 40, .move (.tmp 1), some (39, true)⟩,
  ⟨some 41, .fieldAddr 25 (.tmp 2) 1, some (39, true)⟩,
  ⟨some 42, .load 23 (.tmp 41), some (39, true)⟩,
  ⟨some 43, .move (.tmp 7), some (39, true)⟩,
  ⟨some 44, .indexAddr 23 (.tmp 42) (.tmp 43), some (39, true)⟩,
  ⟨some 45, .fieldAddr 43 (.tmp 44) 1, some (39, true)⟩,
  ⟨some 46, .load 3 (.tmp 45), some (39, true)⟩,
  ⟨some 47, .binOp .lss 3 (.tmp 40) (.tmp 46) 3, some (39, true)⟩,
  ⟨some 48, .pick (.tmp 39) (.tmp 47) (.const (.bool false)), none⟩]
def r6_10 : List POp := [
  ⟨some 49, .move (.tmp 6), none⟩,
  ⟨some 50, .binOp .add 3 (.tmp 49) (.const (.int .i64 1)) 3, none⟩,
  ⟨some 6, .assign (.tmp 50), none⟩]
def r6_11 : List POp := [
  ⟨some 29, .move (.tmp 7), none⟩,
  ⟨some 30, .binOp .add 3 (.tmp 29) (.const (.int .i64 1)) 3, none⟩,
  ⟨some 7, .assign (.tmp 30), none⟩]
noncomputable def b6_12 : PC := (.seq (.seq (.reg r6_8) (.cond (.tmp 28) .skip (.exit 0))) (.seq (.block 1 (.seq (.reg r6_9) (.cond (.tmp 48) (.reg r6_10) .skip))) (.reg r6_11)))
def r6_13 : List POp := [
  ⟨some 8, .assign (.const (.int .i64 0)), none⟩]
def r6_14 : List POp := [
  ⟨some 51, .move (.tmp 8), none⟩,
  ⟨some 52, .move (.tmp 5), none⟩,
  ⟨some 53, .call { callee := .builtin .len, args := #[(.tmp 52)], argTypes := #[23] }, none⟩,
  ⟨some 54, .binOp .lss 3 (.tmp 51) (.tmp 53) 3, none⟩]
def r6_15 : List POp := [
  ⟨some 57, .move (.tmp 5), none⟩,
  ⟨some 58, .move (.tmp 8), none⟩,
  ⟨some 59, .indexAddr 23 (.tmp 57) (.tmp 58), none⟩,
  ⟨some 60, .fieldAddr 43 (.tmp 59) 0, none⟩,
  ⟨some 61, .load 3 (.tmp 60), none⟩,
  ⟨some 62, .move (.tmp 1), none⟩,
  ⟨some 63, .binOp .gtr 3 (.tmp 61) (.tmp 62) 3, none⟩,
  ⟨some 64, .move (.tmp 63), none⟩,
  ⟨some 65, .move (.tmp 5), some (64, false)⟩,
  ⟨some 66, .move (.tmp 8), some (64, false)⟩,
  ⟨some 67, .indexAddr 23 (.tmp 65) (.tmp 66), some (64, false)⟩,
  ⟨some 68, .fieldAddr 43 (.tmp 67) 1, some (64, false)⟩,
  ⟨some 69, .load 3 (.tmp 68), some (64, false)⟩,
  ⟨some 70, .move (.tmp 1), some (64, false)⟩,
  ⟨some 71, .binOp .leq 3 (.tmp 69) (.tmp 70) 3, some (64, false)⟩,
  ⟨some 72, .pick (.tmp 64) (.const (.bool true)) (.tmp 71), none⟩,
  ⟨some 73, .move (.tmp 72), none⟩,
  ⟨some 74, .move (.tmp 8), some (73, false)⟩,
  ⟨some 75, .binOp .gtr 3 (.tmp 74) (.const (.int .i64 0)) 3, some (73, false)⟩,
  ⟨some 76, .move (.tmp 75), some (73, false)⟩,
  ⟨some 77, .move (.tmp 5), some (76, true)⟩,
  ⟨some 78, .move (.tmp 8), some (76, true)⟩,
  ⟨some 79, .binOp .sub 3 (.tmp 78) (.const (.int .i64 1)) 3, some (76, true)⟩,
  ⟨some 80, .indexAddr 23 (.tmp 77) (.tmp 79), some (76, true)⟩,
  ⟨some 81, .fieldAddr 43 (.tmp 80) 2, some (76, true)⟩,
  ⟨some 82, .load 9 (.tmp 81), some (76, true)⟩,
  ⟨some 83, .move (.tmp 5), some (76, true)⟩,
  ⟨some 84, .move (.tmp 8), some (76, true)⟩,
  ⟨some 85, .indexAddr 23 (.tmp 83) (.tmp 84), some (76, true)⟩,
  ⟨some 86, .fieldAddr 43 (.tmp 85) 2, some (76, true)⟩,
  ⟨some 87, .load 9 (.tmp 86), some (76, true)⟩,
  ⟨some 88, .binOp .geq 9 (.tmp 82) (.tmp 87) 9, some (76, true)⟩,
  ⟨some 89, .pick (.tmp 76) (.tmp 88) (.const (.bool false)), some (73, false)⟩,
  ⟨some 90, .pick (.tmp 73) (.const (.bool true)) (.tmp 89), none⟩]
def r6_16 : List POp := [
  ⟨some 4, .assign (.const (.bool false)), none⟩]
def r6_17 : List POp := [
  ⟨some 55, .move (.tmp 8), none⟩,
  ⟨some 56, .binOp .add 3 (.tmp 55) (.const (.int .i64 1)) 3, none⟩,
  ⟨some 8, .assign (.tmp 56), none⟩]
noncomputable def b6_18 : PC := (.seq (.seq (.reg r6_14) (.cond (.tmp 54) .skip (.exit 2))) (.seq (.block 3 (.seq (.regD 34 r6_15) (.cond (.tmp 90) (.seq (.reg r6_16) .ret) .skip))) (.reg r6_17)))
def r6_19 : List POp := [
  ⟨some 9, .assign (.const (.int .i64 0)), none⟩]
def r6_20 : List POp := [
  ⟨some 91, .makeMap 61 none, none⟩,
  ⟨some 10, .assign (.tmp 91), none⟩]
def r6_21 : List POp := [
  ⟨some 11, .assign (.const (.int .i64 0)), none⟩]
def r6_22 : List POp := [
  ⟨some 92, .move (.tmp 11), none⟩,
  ⟨some 93, .fieldAddr 25 (.tmp 2) 0, none⟩,
  ⟨some 94, .load 22 (.tmp 93), none⟩,
  ⟨some 95, .call { callee := .builtin .len, args := #[(.tmp 94)], argTypes := #[22] }, none⟩,
  ⟨some 96, .binOp .lss 3 (.tmp 92) (.tmp 95) 3, none⟩]
def r6_23 : List POp := [
  ⟨some 99, .move (.tmp 10), none⟩,
  ⟨some 100, .fieldAddr 25 (.tmp 2) 0, none⟩,
  ⟨some 101, .load 22 (.tmp 100), none⟩,
  ⟨some 102, .move (.tmp 11), none⟩,
  ⟨some 103, .indexAddr 22 (.tmp 101) (.tmp 102), none⟩,
  ⟨some 104, .fieldAddr 41 (.tmp 103) 2, none⟩,
  ⟨some 105, .load 3 (.tmp 104), none⟩,
  ⟨some 106, .lookup 61 (.tmp 99) (.tmp 105) false, none⟩,
  ⟨some 107, .unOp .not 4 (.tmp 106), none⟩]
def r6_24 : List POp := [
  ⟨some 108, .move (.tmp 10), none⟩,
  ⟨some 109, .fieldAddr 25 (.tmp 2) 0, none⟩,
  ⟨some 110, .load 22 (.tmp 109), none⟩,
  ⟨some 111, .move (.tmp 11), none⟩,
  ⟨some 112, .indexAddr 22 (.tmp 110) (.tmp 111), none⟩,
  ⟨some 113, .fieldAddr 41 (.tmp 112) 2, none⟩,
  ⟨some 114, .load 3 (.tmp 113), none⟩,
  ⟨none, .mapUpdate 61 (.tmp 108) (.tmp 114) (.const (.bool true)), none⟩]
def r6_25 : List POp := [
  ⟨some 115, .move (.tmp 9), none⟩,
  ⟨some 116, .load 25 (.tmp 2), none⟩,
  ⟨some 117, .fieldAddr 25 (.tmp 2) 0, none⟩,
  ⟨some 118, .load 22 (.tmp 117), none⟩,
  ⟨some 119, .move (.tmp 11), none⟩,
  ⟨some 120, .indexAddr 22 (.tmp 118) (.tmp 119), none⟩,
  ⟨some 121, .fieldAddr 41 (.tmp 120) 2, none⟩,
  ⟨some 122, .load 3 (.tmp 121), none⟩,
  ⟨some 123, .call { callee := .value (.func 21), args := #[(.tmp 116), (.tmp 122)], argTypes := #[25, 3] }, none⟩,
  ⟨some 124, .call { callee := .builtin .len, args := #[(.tmp 123)], argTypes := #[57] }, none⟩,
  ⟨some 125, .binOp .add 3 (.tmp 115) (.tmp 124) 3, none⟩,
  ⟨some 9, .assign (.tmp 125), none⟩]
def r6_26 : List POp := [
  ⟨some 97, .move (.tmp 11), none⟩,
  ⟨some 98, .binOp .add 3 (.tmp 97) (.const (.int .i64 1)) 3, none⟩,
  ⟨some 11, .assign (.tmp 98), none⟩]
noncomputable def b6_27 : PC := (.seq (.seq (.reg r6_22) (.cond (.tmp 96) .skip (.exit 4))) (.seq (.block 5 (.seq (.reg r6_23) (.cond (.tmp 107) (.seq (.reg r6_24) (.regD 12 r6_25)) .skip))) (.reg r6_26)))
def r6_28 : List POp := [
  ⟨some 126, .move (.tmp 5), none⟩,
  ⟨some 127, .call { callee := .builtin .len, args := #[(.tmp 126)], argTypes := #[23] }, none⟩,
  ⟨some 128, .move (.tmp 6), none⟩,
  ⟨some 129, .binOp .eql 3 (.tmp 127) (.tmp 128) 3, none⟩,
  ⟨some 130, .move (.tmp 129), none⟩,
  ⟨some 131, .move (.tmp 9), some (130, true)⟩,
  ⟨some 132, .fieldAddr 25 (.tmp 2) 0, some (130, true)⟩,
  ⟨some 133, .load 22 (.tmp 132), some (130, true)⟩,
  ⟨some 134, .call { callee := .builtin .len, args := #[(.tmp 133)], argTypes := #[22] }, some (130, true)⟩,
  ⟨some 135, .binOp .eql 3 (.tmp 131) (.tmp 134) 3, some (130, true)⟩,
  ⟨some 136, .pick (.tmp 130) (.tmp 135) (.const (.bool false)), none⟩,
  ⟨some 4, .assign (.tmp 136), none⟩]
noncomputable def p6 : PC := (.seq (.reg r6_0) (.seq (.seq (.reg r6_1) (.cond (.tmp 13) (.seq (.reg r6_2) .ret) .skip)) (.seq (.seq (.reg r6_3) (.cond (.tmp 20) (.seq (.reg r6_4) .ret) .skip)) (.seq (.reg r6_5) (.seq (.reg r6_6) (.seq (.seq (.reg r6_7) (.block 0 (.loop b6_12))) (.seq (.seq (.reg r6_13) (.block 2 (.loop b6_18))) (.seq (.reg r6_19) (.seq (.reg r6_20) (.seq (.seq (.reg r6_21) (.block 4 (.loop b6_27))) (.seq (.reg r6_28) .ret)))))))))))
theorem comp6 : (Try.f6.body.map (comp E Try.f6.ntmps)) = some p6 := by kernel_rfl
theorem ev6 {args : List AV} {S : St} {P : AV → St → Prop} (hn : Nat.ble args.length 137 = true) (h : EndsA E 137 [.c p6] .nrm (initTm 0 args .leaf) S (RetQ E [.tmp 4] P)) : ∃ r S', EvA E 6 args S r S' ∧ P r S' := ev_ends (fn := Try.f6) (by kernel_rfl) rfl comp6 (by kernel_rfl) (by kernel_rfl) hn h
/-! hindsight/hindsightlaw16.heavy -/
def r8_0 : List POp := [
  ⟨some 1, .box 25 (.tmp 0), none⟩,
  ⟨some 2, .assign (.const (.bool false)), none⟩]
def r8_1 : List POp := [
  ⟨some 4, .fieldAddr 25 (.tmp 1) 0, none⟩,
  ⟨some 5, .load 22 (.tmp 4), none⟩,
  ⟨some 6, .call { callee := .builtin .len, args := #[(.tmp 5)], argTypes := #[22] }, none⟩,
  ⟨some 7, .binOp .gtr 3 (.tmp 6) (.const (.int .i64 40)) 3, none⟩,
  ⟨some 8, .move (.tmp 7), none⟩,
  ⟨some 9, .fieldAddr 25 (.tmp 1) 1, some (8, false)⟩,
  ⟨some 10, .load 23 (.tmp 9), some (8, false)⟩,
  ⟨some 11, .call { callee := .builtin .len, args := #[(.tmp 10)], argTypes := #[23] }, some (8, false)⟩,
  ⟨some 12, .binOp .gtr 3 (.tmp 11) (.const (.int .i64 40)) 3, some (8, false)⟩,
  ⟨some 13, .pick (.tmp 8) (.const (.bool true)) (.tmp 12), none⟩]
def r8_2 : List POp := [
  ⟨some 2, .assign (.const (.bool true)), none⟩]
def r8_3 : List POp := [
  ⟨some 3, .assign (.const (.int .i64 0)), none⟩]
def r8_4 : List POp := [
  ⟨some 14, .move (.tmp 3), none⟩,
  ⟨some 15, .fieldAddr 25 (.tmp 1) 1, none⟩,
  ⟨some 16, .load 23 (.tmp 15), none⟩,
  ⟨some 17, .call { callee := .builtin .len, args := #[(.tmp 16)], argTypes := #[23] }, none⟩,
  ⟨some 18, .binOp .lss 3 (.tmp 14) (.tmp 17) 3, none⟩]
def r8_5 : List POp := [
  ⟨some 21, .fieldAddr 25 (.tmp 1) 1, none⟩,
  ⟨some 22, .load 23 (.tmp 21), none⟩,
  ⟨some 23, .move (.tmp 3), none⟩,
  ⟨some 24, .indexAddr 23 (.tmp 22) (.tmp 23), none⟩,
  ⟨some 25, .fieldAddr 43 (.tmp 24) 2, none⟩,
  ⟨some 26, .load 9 (.tmp 25), none⟩,
  ⟨some 27, .call { callee := .builtin .len, args := #[(.tmp 26)], argTypes := #[9] }, none⟩,
  ⟨some 28, .binOp .gtr 3 (.tmp 27) (.const (.int .i64 250)) 3, none⟩,
  ⟨some 29, .move (.tmp 28), none⟩,
  ⟨some 30, .fieldAddr 25 (.tmp 1) 1, some (29, false)⟩,
  ⟨some 31, .load 23 (.tmp 30), some (29, false)⟩,
  ⟨some 32, .move (.tmp 3), some (29, false)⟩,
  ⟨some 33, .indexAddr 23 (.tmp 31) (.tmp 32), some (29, false)⟩,
  ⟨some 34, .fieldAddr 43 (.tmp 33) 5, some (29, false)⟩,
  ⟨some 35, .load 9 (.tmp 34), some (29, false)⟩,
  ⟨some 36, .call { callee := .builtin .len, args := #[(.tmp 35)], argTypes := #[9] }, some (29, false)⟩,
  ⟨some 37, .binOp .gtr 3 (.tmp 36) (.const (.int .i64 300)) 3, some (29, false)⟩,
  ⟨some 38, .pick (.tmp 29) (.const (.bool true)) (.tmp 37), none⟩]
def r8_6 : List POp := [
  ⟨some 2, .assign (.const (.bool true)), none⟩]
def r8_7 : List POp := [
  ⟨some 19, .move (.tmp 3), none⟩,
  ⟨some 20, .binOp .add 3 (.tmp 19) (.const (.int .i64 1)) 3, none⟩,
  ⟨some 3, .assign (.tmp 20), none⟩]
noncomputable def b8_8 : PC := (.seq (.seq (.reg r8_4) (.cond (.tmp 18) .skip (.exit 0))) (.seq (.block 1 (.seq (.reg r8_5) (.cond (.tmp 38) (.seq (.reg r8_6) .ret) .skip))) (.reg r8_7)))
def r8_9 : List POp := [
  ⟨some 2, .assign (.const (.bool false)), none⟩]
noncomputable def p8 : PC := (.seq (.reg r8_0) (.seq (.seq (.reg r8_1) (.cond (.tmp 13) (.seq (.reg r8_2) .ret) .skip)) (.seq (.seq (.reg r8_3) (.block 0 (.loop b8_8))) (.seq (.reg r8_9) .ret))))
theorem comp8 : (Try.f8.body.map (comp E Try.f8.ntmps)) = some p8 := by kernel_rfl
theorem ev8 {args : List AV} {S : St} {P : AV → St → Prop} (hn : Nat.ble args.length 39 = true) (h : EndsA E 39 [.c p8] .nrm (initTm 0 args .leaf) S (RetQ E [.tmp 2] P)) : ∃ r S', EvA E 8 args S r S' ∧ P r S' := ev_ends (fn := Try.f8) (by kernel_rfl) rfl comp8 (by kernel_rfl) (by kernel_rfl) hn h
/-! hindsight/info.Good -/
def r9_0 : List POp := [
  ⟨some 1, .box 25 (.tmp 0), none⟩,
  ⟨some 2, .assign (.const (.bool false)), none⟩]
def r9_1 : List POp := [
  ⟨some 6, .fieldAddr 25 (.tmp 1) 0, none⟩,
  ⟨some 7, .load 22 (.tmp 6), none⟩,
  ⟨some 8, .call { callee := .value (.func 24), args := #[(.tmp 7)], argTypes := #[22] }, none⟩,
  ⟨some 9, .unOp .not 4 (.tmp 8), none⟩,
  ⟨some 10, .move (.tmp 9), none⟩,
  ⟨some 11, .fieldAddr 25 (.tmp 1) 1, some (10, false)⟩,
  ⟨some 12, .load 23 (.tmp 11), some (10, false)⟩,
  ⟨some 13, .call { callee := .builtin .len, args := #[(.tmp 12)], argTypes := #[23] }, some (10, false)⟩,
  ⟨some 14, .binOp .gtr 3 (.tmp 13) (.const (.int .i64 10000)) 3, some (10, false)⟩,
  ⟨some 15, .pick (.tmp 10) (.const (.bool true)) (.tmp 14), none⟩]
def r9_2 : List POp := [
  ⟨some 2, .assign (.const (.bool false)), none⟩]
def r9_3 : List POp := [
  ⟨some 16, .fieldAddr 25 (.tmp 1) 1, none⟩,
  ⟨some 17, .load 23 (.tmp 16), none⟩,
  ⟨some 18, .call { callee := .value (.func 25), args := #[(.tmp 17)], argTypes := #[23] }, none⟩,
  ⟨some 3, .assign (.tmp 18), none⟩]
def r9_4 : List POp := [
  ⟨some 19, .move (.tmp 3), none⟩,
  ⟨some 20, .call { callee := .value (.func 26), args := #[(.tmp 19), (.func 27)], argTypes := #[23, 69] }, none⟩]
def r9_5 : List POp := [
  ⟨some 21, .move (.tmp 3), none⟩,
  ⟨some 22, .call { callee := .builtin .len, args := #[(.tmp 21)], argTypes := #[23] }, none⟩,
  ⟨some 23, .move (.const (.int .i64 0)), none⟩]
def r9_6 : List POp := [
  ⟨some 24, .binOp .lss 3 (.tmp 23) (.tmp 22) 3, none⟩]
def r9_7 : List POp := [
  ⟨some 25, .move (.tmp 23), none⟩,
  ⟨some 26, .indexAddr 23 (.tmp 21) (.tmp 23), none⟩,
  ⟨some 27, .load 43 (.tmp 26), none⟩,
  ⟨some 5, .alloc 43, none⟩,
  ⟨some 4, .assign (.tmp 25), none⟩,
  ⟨none, .store 43 (.tmp 5) (.tmp 27), none⟩]
def r9_8 : List POp := [
  ⟨some 28, .load 43 (.tmp 5), none⟩,
  ⟨some 29, .call { callee := .value (.func 31), args := #[(.tmp 28)], argTypes := #[43] }, none⟩,
  ⟨some 30, .unOp .not 4 (.tmp 29), none⟩,
  ⟨some 31, .move (.tmp 30), none⟩,
  ⟨some 32, .move (.tmp 4), some (31, false)⟩,
  ⟨some 33, .binOp .gtr 3 (.tmp 32) (.const (.int .i64 0)) 3, some (31, false)⟩,
  ⟨some 34, .move (.tmp 33), some (31, false)⟩,
  ⟨some 35, .move (.tmp 3), some (34, true)⟩,
  ⟨some 36, .move (.tmp 4), some (34, true)⟩,
  ⟨some 37, .binOp .sub 3 (.tmp 36) (.const (.int .i64 1)) 3, some (34, true)⟩,
  ⟨some 38, .indexAddr 23 (.tmp 35) (.tmp 37), some (34, true)⟩,
  ⟨some 39, .fieldAddr 43 (.tmp 38) 2, some (34, true)⟩,
  ⟨some 40, .load 9 (.tmp 39), some (34, true)⟩,
  ⟨some 41, .fieldAddr 43 (.tmp 5) 2, some (34, true)⟩,
  ⟨some 42, .load 9 (.tmp 41), some (34, true)⟩,
  ⟨some 43, .binOp .eql 9 (.tmp 40) (.tmp 42) 9, some (34, true)⟩,
  ⟨some 44, .pick (.tmp 34) (.tmp 43) (.const (.bool false)), some (31, false)⟩,
  ⟨some 45, .move (.tmp 44), some (31, false)⟩,
  ⟨some 46, .move (.tmp 3), some (45, true)⟩,
  ⟨some 47, .move (.tmp 4), some (45, true)⟩,
  ⟨some 48, .binOp .sub 3 (.tmp 47) (.const (.int .i64 1)) 3, some (45, true)⟩,
  ⟨some 49, .indexAddr 23 (.tmp 46) (.tmp 48), some (45, true)⟩,
  ⟨some 50, .fieldAddr 43 (.tmp 49) 1, some (45, true)⟩,
  ⟨some 51, .load 3 (.tmp 50), some (45, true)⟩,
  ⟨some 52, .fieldAddr 43 (.tmp 5) 0, some (45, true)⟩,
  ⟨some 53, .load 3 (.tmp 52), some (45, true)⟩,
  ⟨some 54, .binOp .gtr 3 (.tmp 51) (.tmp 53) 3, some (45, true)⟩,
  ⟨some 55, .pick (.tmp 45) (.tmp 54) (.const (.bool false)), some (31, false)⟩,
  ⟨some 56, .pick (.tmp 31) (.const (.bool true)) (.tmp 55), none⟩]
def r9_9 : List POp := [
  ⟨some 2, .assign (.const (.bool false)), none⟩]
def r9_10 : List POp := [
  ⟨some 57, .binOp .add 3 (.tmp 23) (.const (.int .i64 1)) 3, none⟩,
  ⟨some 23, .move (.tmp 57), none⟩]
noncomputable def b9_11 : PC := (.seq (.reg r9_6) (.seq (.cond (.tmp 24) .skip (.exit 0)) (.seq (.block 1 (.seq (.reg r9_7) (.seq (.regD 29 r9_8) (.cond (.tmp 56) (.seq (.reg r9_9) .ret) .skip)))) (.reg r9_10))))
def r9_12 : List POp := [
  ⟨some 2, .assign (.const (.bool true)), none⟩]
noncomputable def p9 : PC := (.seq (.reg r9_0) (.seq (.seq (.reg r9_1) (.cond (.tmp 15) (.seq (.reg r9_2) .ret) .skip)) (.seq (.reg r9_3) (.seq (.reg r9_4) (.seq (.seq (.reg r9_5) (.block 0 (.loop b9_11))) (.seq (.reg r9_12) .ret))))))
theorem comp9 : (Try.f9.body.map (comp E Try.f9.ntmps)) = some p9 := by kernel_rfl
theorem ev9 {args : List AV} {S : St} {P : AV → St → Prop} (hn : Nat.ble args.length 58 = true) (h : EndsA E 58 [.c p9] .nrm (initTm 0 args .leaf) S (RetQ E [.tmp 2] P)) : ∃ r S', EvA E 9 args S r S' ∧ P r S' := ev_ends (fn := Try.f9) (by kernel_rfl) rfl comp9 (by kernel_rfl) (by kernel_rfl) hn h
/-! hindsight/info.Names -/
def r19_0 : List POp := [
  ⟨some 2, .box 25 (.tmp 0), none⟩,
  ⟨some 4, .assign (.const (.slice none 0 0)), none⟩]
def r19_1 : List POp := [
  ⟨some 5, .assign (.const (.slice none 0 0)), none⟩]
def r19_2 : List POp := [
  ⟨some 8, .fieldAddr 25 (.tmp 2) 1, none⟩,
  ⟨some 9, .load 23 (.tmp 8), none⟩,
  ⟨some 10, .call { callee := .builtin .len, args := #[(.tmp 9)], argTypes := #[23] }, none⟩,
  ⟨some 11, .move (.const (.int .i64 0)), none⟩]
def r19_3 : List POp := [
  ⟨some 12, .binOp .lss 3 (.tmp 11) (.tmp 10) 3, none⟩]
def r19_4 : List POp := [
  ⟨some 13, .indexAddr 23 (.tmp 9) (.tmp 11), none⟩,
  ⟨some 14, .load 43 (.tmp 13), none⟩,
  ⟨some 7, .alloc 43, none⟩,
  ⟨none, .store 43 (.tmp 7) (.tmp 14), none⟩]
def r19_5 : List POp := [
  ⟨some 15, .move (.tmp 1), none⟩,
  ⟨some 16, .fieldAddr 43 (.tmp 7) 0, none⟩,
  ⟨some 17, .load 3 (.tmp 16), none⟩,
  ⟨some 18, .binOp .geq 3 (.tmp 15) (.tmp 17) 3, none⟩,
  ⟨some 19, .move (.tmp 18), none⟩,
  ⟨some 20, .move (.tmp 1), some (19, true)⟩,
  ⟨some 21, .fieldAddr 43 (.tmp 7) 1, some (19, true)⟩,
  ⟨some 22, .load 3 (.tmp 21), some (19, true)⟩,
  ⟨some 23, .binOp .lss 3 (.tmp 20) (.tmp 22) 3, some (19, true)⟩,
  ⟨some 24, .pick (.tmp 19) (.tmp 23) (.const (.bool false)), none⟩]
def r19_6 : List POp := [
  ⟨some 25, .move (.tmp 5), none⟩,
  ⟨some 26, .load 43 (.tmp 7), none⟩,
  ⟨some 27, .buildSlice 23 1 #[(0, (.tmp 26))], none⟩,
  ⟨some 28, .call { callee := .builtin .append, args := #[(.tmp 25), (.tmp 27)], argTypes := #[23, 23] }, none⟩,
  ⟨some 5, .assign (.tmp 28), none⟩]
def r19_7 : List POp := [
  ⟨some 29, .binOp .add 3 (.tmp 11) (.const (.int .i64 1)) 3, none⟩,
  ⟨some 11, .move (.tmp 29), none⟩]
noncomputable def b19_8 : PC := (.seq (.reg r19_3) (.seq (.cond (.tmp 12) .skip (.exit 0)) (.seq (.block 1 (.seq (.reg r19_4) (.seq (.reg r19_5) (.cond (.tmp 24) (.reg r19_6) .skip)))) (.reg r19_7))))
def r19_9 : List POp := [
  ⟨some 30, .move (.tmp 5), none⟩,
  ⟨some 31, .call { callee := .value (.func 41), args := #[(.tmp 30), (.func 42)], argTypes := #[23, 69] }, none⟩]
def r19_10 : List POp := [
  ⟨some 32, .move (.tmp 5), none⟩,
  ⟨some 4, .assign (.tmp 32), none⟩]
noncomputable def p19 : PC := (.seq (.reg r19_0) (.seq (.reg r19_1) (.seq (.seq (.reg r19_2) (.block 0 (.loop b19_8))) (.seq (.reg r19_9) (.seq (.reg r19_10) .ret)))))
theorem comp19 : (Try.f19.body.map (comp E Try.f19.ntmps)) = some p19 := by kernel_rfl
theorem ev19 {args : List AV} {S : St} {P : AV → St → Prop} (hn : Nat.ble args.length 33 = true) (h : EndsA E 33 [.c p19] .nrm (initTm 0 args .leaf) S (RetQ E [.tmp 4] P)) : ∃ r S', EvA E 19 args S r S' ∧ P r S' := ev_ends (fn := Try.f19) (by kernel_rfl) rfl comp19 (by kernel_rfl) (by kernel_rfl) hn h
/-! hindsight/info.OnLine -/
def r21_0 : List POp := [
  ⟨some 2, .box 25 (.tmp 0), none⟩,
  ⟨some 4, .assign (.const (.slice none 0 0)), none⟩]
def r21_1 : List POp := [
  ⟨some 5, .assign (.const (.slice none 0 0)), none⟩]
def r21_2 : List POp := [
  ⟨some 8, .fieldAddr 25 (.tmp 2) 0, none⟩,
  ⟨some 9, .load 22 (.tmp 8), none⟩,
  ⟨some 10, .call { callee := .builtin .len, args := #[(.tmp 9)], argTypes := #[22] }, none⟩,
  ⟨some 11, .move (.const (.int .i64 0)), none⟩]
def r21_3 : List POp := [
  ⟨some 12, .binOp .lss 3 (.tmp 11) (.tmp 10) 3, none⟩]
def r21_4 : List POp := [
  ⟨some 13, .indexAddr 22 (.tmp 9) (.tmp 11), none⟩,
  ⟨some 14, .load 41 (.tmp 13), none⟩,
  ⟨some 7, .alloc 41, none⟩,
  ⟨none, .store 41 (.tmp 7) (.tmp 14), none⟩]
def r21_5 : List POp := [
  ⟨some 15, .fieldAddr 41 (.tmp 7) 2, none⟩,
  ⟨some 16, .load 3 (.tmp 15), none⟩,
  ⟨some 17, .move (.tmp 1), none⟩,
  ⟨some 18, .binOp .eql 3 (.tmp 16) (.tmp 17) 3, none⟩]
def r21_6 : List POp := [
  ⟨some 19, .move (.tmp 5), none⟩,
  ⟨some 20, .fieldAddr 41 (.tmp 7) 0, none⟩,
  ⟨some 21, .load 3 (.tmp 20), none⟩,
  ⟨some 22, .buildSlice 57 1 #[(0, (.tmp 21))], none⟩,
  ⟨some 23, .call { callee := .builtin .append, args := #[(.tmp 19), (.tmp 22)], argTypes := #[57, 57] }, none⟩,
  ⟨some 5, .assign (.tmp 23), none⟩]
def r21_7 : List POp := [
  ⟨some 24, .binOp .add 3 (.tmp 11) (.const (.int .i64 1)) 3, none⟩,
  ⟨some 11, .move (.tmp 24), none⟩]
noncomputable def b21_8 : PC := (.seq (.reg r21_3) (.seq (.cond (.tmp 12) .skip (.exit 0)) (.seq (.block 1 (.seq (.reg r21_4) (.seq (.reg r21_5) (.cond (.tmp 18) (.reg r21_6) .skip)))) (.reg r21_7))))
def r21_9 : List POp := [
  ⟨some 25, .move (.tmp 5), none⟩,
  ⟨some 26, .call { callee := .value (.func 43), args := #[(.tmp 25)], argTypes := #[57] }, none⟩]
def r21_10 : List POp := [
  ⟨some 27, .move (.tmp 5), none⟩,
  ⟨some 4, .assign (.tmp 27), none⟩]
noncomputable def p21 : PC := (.seq (.reg r21_0) (.seq (.reg r21_1) (.seq (.seq (.reg r21_2) (.block 0 (.loop b21_8))) (.seq (.reg r21_9) (.seq (.reg r21_10) .ret)))))
theorem comp21 : (Try.f21.body.map (comp E Try.f21.ntmps)) = some p21 := by kernel_rfl
theorem ev21 {args : List AV} {S : St} {P : AV → St → Prop} (hn : Nat.ble args.length 28 = true) (h : EndsA E 28 [.c p21] .nrm (initTm 0 args .leaf) S (RetQ E [.tmp 4] P)) : ∃ r S', EvA E 21 args S r S' ∧ P r S' := ev_ends (fn := Try.f21) (by kernel_rfl) rfl comp21 (by kernel_rfl) (by kernel_rfl) hn h
/-! hindsight/info.stops -/
def r24_0 : List POp := [
  ⟨some 2, .assign (.const (.bool false)), none⟩]
def r24_1 : List POp := [
  ⟨some 5, .move (.tmp 0), none⟩,
  ⟨some 6, .call { callee := .builtin .len, args := #[(.tmp 5)], argTypes := #[22] }, none⟩,
  ⟨some 7, .move (.const (.int .i64 0)), none⟩]
def r24_2 : List POp := [
  ⟨some 8, .binOp .lss 3 (.tmp 7) (.tmp 6) 3, none⟩]
def r24_3 : List POp := [
  ⟨some 9, .move (.tmp 7), none⟩,
  ⟨some 10, .indexAddr 22 (.tmp 5) (.tmp 7), none⟩,
  ⟨some 11, .load 41 (.tmp 10), none⟩,
  ⟨some 4, .alloc 41, none⟩,
  ⟨some 3, .assign (.tmp 9), none⟩,
  ⟨none, .store 41 (.tmp 4) (.tmp 11), none⟩]
def r24_4 : List POp := [
  ⟨some 12, .fieldAddr 41 (.tmp 4) 0, none⟩,
  ⟨some 13, .load 3 (.tmp 12), none⟩,
  ⟨some 14, .call { callee := .value (.func 44), args := #[(.tmp 13), (.const (.int .i64 0)), (.const (.int .i64 2147483647))], argTypes := #[3, 3, 3] }, none⟩,
  ⟨some 15, .unOp .not 4 (.tmp 14), none⟩,
  ⟨some 16, .move (.tmp 15), none⟩,
  ⟨some 17, .fieldAddr 41 (.tmp 4) 1, some (16, false)⟩,
  ⟨some 18, .load 3 (.tmp 17), some (16, false)⟩,
  ⟨some 19, .call { callee := .value (.func 44), args := #[(.tmp 18), (.const (.int .i64 0)), (.const (.int .i64 2147483647))], argTypes := #[3, 3, 3] }, some (16, false)⟩,
  ⟨some 20, .unOp .not 4 (.tmp 19), some (16, false)⟩,
  ⟨some 21, .pick (.tmp 16) (.const (.bool true)) (.tmp 20), none⟩,
  ⟨some 22, .move (.tmp 21), none⟩,
  ⟨some 23, .fieldAddr 41 (.tmp 4) 2, some (22, false)⟩,
  ⟨some 24, .load 3 (.tmp 23), some (22, false)⟩,
  ⟨some 25, .call { callee := .value (.func 44), args := #[(.tmp 24), (.const (.int .i64 1)), (.const (.int .i64 2147483647))], argTypes := #[3, 3, 3] }, some (22, false)⟩,
  ⟨some 26, .unOp .not 4 (.tmp 25), some (22, false)⟩,
  ⟨some 27, .pick (.tmp 22) (.const (.bool true)) (.tmp 26), none⟩,
  ⟨some 28, .move (.tmp 27), none⟩,
  ⟨some 29, .fieldAddr 41 (.tmp 4) 3, some (28, false)⟩,
  ⟨some 30, .load 3 (.tmp 29), some (28, false)⟩,
  ⟨some 31, .call { callee := .value (.func 44), args := #[(.tmp 30), (.const (.int .i64 1)), (.const (.int .i64 2147483647))], argTypes := #[3, 3, 3] }, some (28, false)⟩,
  ⟨some 32, .unOp .not 4 (.tmp 31), some (28, false)⟩,
  ⟨some 33, .pick (.tmp 28) (.const (.bool true)) (.tmp 32), none⟩,
  ⟨some 34, .move (.tmp 33), none⟩,
  ⟨some 35, .move (.tmp 3), some (34, false)⟩,
  ⟨some 36, .binOp .gtr 3 (.tmp 35) (.const (.int .i64 0)) 3, some (34, false)⟩,
  ⟨some 37, .move (.tmp 36), some (34, false)⟩,
  ⟨some 38, .move (.tmp 0), some (37, true)⟩,
  ⟨some 39, .move (.tmp 3), some (37, true)⟩,
  ⟨some 40, .binOp .sub 3 (.tmp 39) (.const (.int .i64 1)) 3, some (37, true)⟩,
  ⟨some 41, .indexAddr 22 (.tmp 38) (.tmp 40), some (37, true)⟩,
  ⟨some 42, .fieldAddr 41 (.tmp 41) 0, some (37, true)⟩,
  ⟨some 43, .load 3 (.tmp 42), some (37, true)⟩,
  ⟨some 44, .fieldAddr 41 (.tmp 4) 0, some (37, true)⟩,
  ⟨some 45, .load 3 (.tmp 44), some (37, true)⟩,
  ⟨some 46, .binOp .geq 3 (.tmp 43) (.tmp 45) 3, some (37, true)⟩,
  ⟨some 47, .pick (.tmp 37) (.tmp 46) (.const (.bool false)), some (34, false)⟩,
  ⟨some 48, .pick (.tmp 34) (.const (.bool true)) (.tmp 47), none⟩]
def r24_5 : List POp := [
  ⟨some 2, .assign (.const (.bool false)), none⟩]
def r24_6 : List POp := [
  ⟨some 49, .binOp .add 3 (.tmp 7) (.const (.int .i64 1)) 3, none⟩,
  ⟨some 7, .move (.tmp 49), none⟩]
noncomputable def b24_7 : PC := (.seq (.reg r24_2) (.seq (.cond (.tmp 8) .skip (.exit 0)) (.seq (.block 1 (.seq (.reg r24_3) (.seq (.regD 37 r24_4) (.cond (.tmp 48) (.seq (.reg r24_5) .ret) .skip)))) (.reg r24_6))))
def r24_8 : List POp := [
  ⟨some 50, .move (.tmp 0), none⟩,
  ⟨some 51, .call { callee := .builtin .len, args := #[(.tmp 50)], argTypes := #[22] }, none⟩,
  ⟨some 52, .binOp .leq 3 (.tmp 51) (.const (.int .i64 10000)) 3, none⟩,
  ⟨some 2, .assign (.tmp 52), none⟩]
noncomputable def p24 : PC := (.seq (.reg r24_0) (.seq (.seq (.reg r24_1) (.block 0 (.loop b24_7))) (.seq (.reg r24_8) .ret)))
theorem comp24 : (Try.f24.body.map (comp E Try.f24.ntmps)) = some p24 := by kernel_rfl
theorem ev24 {args : List AV} {S : St} {P : AV → St → Prop} (hn : Nat.ble args.length 53 = true) (h : EndsA E 53 [.c p24] .nrm (initTm 0 args .leaf) S (RetQ E [.tmp 2] P)) : ∃ r S', EvA E 24 args S r S' ∧ P r S' := ev_ends (fn := Try.f24) (by kernel_rfl) rfl comp24 (by kernel_rfl) (by kernel_rfl) hn h
/-! slices.Clone[[]hindsight/info.Var,hindsight/info.Var] -/
def r25_0 : List POp := [
  ⟨some 2, .assign (.const (.slice none 0 0)), none⟩]
def r25_1 : List POp := [
  ⟨some 3, .move (.tmp 0), none⟩,
  ⟨some 4, .binOp .eql 23 (.tmp 3) (.const (.slice none 0 0)) 23, none⟩]
def r25_2 : List POp := [
  ⟨some 2, .assign (.const (.slice none 0 0)), none⟩]
def r25_3 : List POp := [
  ⟨some 5, .buildSlice 23 0 #[], none⟩,
  ⟨some 6, .move (.tmp 0), none⟩,
  ⟨some 7, .call { callee := .builtin .append, args := #[(.tmp 5), (.tmp 6)], argTypes := #[23, 23] }, none⟩,
  ⟨some 2, .assign (.tmp 7), none⟩]
noncomputable def p25 : PC := (.seq (.reg r25_0) (.seq (.seq (.reg r25_1) (.cond (.tmp 4) (.seq (.reg r25_2) .ret) .skip)) (.seq (.reg r25_3) .ret)))
theorem comp25 : (Try.f25.body.map (comp E Try.f25.ntmps)) = some p25 := by kernel_rfl
theorem ev25 {args : List AV} {S : St} {P : AV → St → Prop} (hn : Nat.ble args.length 8 = true) (h : EndsA E 8 [.c p25] .nrm (initTm 0 args .leaf) S (RetQ E [.tmp 2] P)) : ∃ r S', EvA E 25 args S r S' ∧ P r S' := ev_ends (fn := Try.f25) (by kernel_rfl) rfl comp25 (by kernel_rfl) (by kernel_rfl) hn h
/-! strings.Compare -/
def r29_0 : List POp := [
  ⟨some 4, .assign (.const (.int .i64 0)), none⟩]
def r29_1 : List POp := [
  ⟨some 5, .move (.tmp 0), none⟩,
  ⟨some 6, .move (.tmp 1), none⟩,
  ⟨some 7, .call { callee := .value (.func 47), args := #[(.tmp 5), (.tmp 6)], argTypes := #[9, 9] }, none⟩,
  ⟨some 4, .assign (.tmp 7), none⟩]
noncomputable def p29 : PC := (.seq (.reg r29_0) (.seq (.reg r29_1) .ret))
theorem comp29 : (Try.f29.body.map (comp E Try.f29.ntmps)) = some p29 := by kernel_rfl
theorem ev29 {args : List AV} {S : St} {P : AV → St → Prop} (hn : Nat.ble args.length 8 = true) (h : EndsA E 8 [.c p29] .nrm (initTm 0 args .leaf) S (RetQ E [.tmp 4] P)) : ∃ r S', EvA E 29 args S r S' ∧ P r S' := ev_ends (fn := Try.f29) (by kernel_rfl) rfl comp29 (by kernel_rfl) (by kernel_rfl) hn h
/-! hindsight/info.variable -/
def r31_0 : List POp := [
  ⟨some 1, .box 43 (.tmp 0), none⟩,
  ⟨some 2, .assign (.const (.bool false)), none⟩]
def r31_1 : List POp := [
  ⟨some 3, .fieldAddr 43 (.tmp 1) 0, none⟩,
  ⟨some 4, .load 3 (.tmp 3), none⟩,
  ⟨some 5, .call { callee := .value (.func 44), args := #[(.tmp 4), (.const (.int .i64 0)), (.const (.int .i64 2147483647))], argTypes := #[3, 3, 3] }, none⟩,
  ⟨some 6, .move (.tmp 5), none⟩,
  ⟨some 7, .fieldAddr 43 (.tmp 1) 1, some (6, true)⟩,
  ⟨some 8, .load 3 (.tmp 7), some (6, true)⟩,
  ⟨some 9, .call { callee := .value (.func 44), args := #[(.tmp 8), (.const (.int .i64 0)), (.const (.int .i64 2147483647))], argTypes := #[3, 3, 3] }, some (6, true)⟩,
  ⟨some 10, .pick (.tmp 6) (.tmp 9) (.const (.bool false)), none⟩,
  ⟨some 11, .move (.tmp 10), none⟩,
  ⟨some 12, .fieldAddr 43 (.tmp 1) 0, some (11, true)⟩,
  ⟨some 13, .load 3 (.tmp 12), some (11, true)⟩,
  ⟨some 14, .fieldAddr 43 (.tmp 1) 1, some (11, true)⟩,
  ⟨some 15, .load 3 (.tmp 14), some (11, true)⟩,
  ⟨some 16, .binOp .lss 3 (.tmp 13) (.tmp 15) 3, some (11, true)⟩,
  ⟨some 17, .pick (.tmp 11) (.tmp 16) (.const (.bool false)), none⟩,
  ⟨some 18, .move (.tmp 17), none⟩,
  ⟨some 19, .fieldAddr 43 (.tmp 1) 2, some (18, true)⟩,
  ⟨some 20, .load 9 (.tmp 19), some (18, true)⟩,
  ⟨some 21, .call { callee := .builtin .len, args := #[(.tmp 20)], argTypes := #[9] }, some (18, true)⟩,
  ⟨some 22, .call { callee := .value (.func 44), args := #[(.tmp 21), (.const (.int .i64 1)), (.const (.int .i64 4000))], argTypes := #[3, 3, 3] }, some (18, true)⟩,
  ⟨some 23, .pick (.tmp 18) (.tmp 22) (.const (.bool false)), none⟩,
  ⟨some 24, .move (.tmp 23), none⟩,
  ⟨some 25, .fieldAddr 43 (.tmp 1) 3, some (24, true)⟩,
  ⟨some 26, .load 3 (.tmp 25), some (24, true)⟩,
  ⟨some 27, .call { callee := .value (.func 44), args := #[(.tmp 26), (.const (.int .i64 1)), (.const (.int .i64 3))], argTypes := #[3, 3, 3] }, some (24, true)⟩,
  ⟨some 28, .pick (.tmp 24) (.tmp 27) (.const (.bool false)), none⟩,
  ⟨some 29, .move (.tmp 28), none⟩,
  ⟨some 30, .fieldAddr 43 (.tmp 1) 4, some (29, true)⟩,
  ⟨some 31, .load 3 (.tmp 30), some (29, true)⟩,
  ⟨some 32, .call { callee := .value (.func 44), args := #[(.tmp 31), (.const (.int .i64 0)), (.const (.int .i64 65535))], argTypes := #[3, 3, 3] }, some (29, true)⟩,
  ⟨some 33, .pick (.tmp 29) (.tmp 32) (.const (.bool false)), none⟩,
  ⟨some 34, .move (.tmp 33), none⟩,
  ⟨some 35, .fieldAddr 43 (.tmp 1) 5, some (34, true)⟩,
  ⟨some 36, .load 9 (.tmp 35), some (34, true)⟩,
  ⟨some 37, .call { callee := .builtin .len, args := #[(.tmp 36)], argTypes := #[9] }, some (34, true)⟩,
  ⟨some 38, .binOp .leq 3 (.tmp 37) (.const (.int .i64 4000000)) 3, some (34, true)⟩,
  ⟨some 39, .pick (.tmp 34) (.tmp 38) (.const (.bool false)), none⟩,
  ⟨some 2, .assign (.tmp 39), none⟩]
noncomputable def p31 : PC := (.seq (.reg r31_0) (.seq (.reg r31_1) .ret))
theorem comp31 : (Try.f31.body.map (comp E Try.f31.ntmps)) = some p31 := by kernel_rfl
theorem ev31 {args : List AV} {S : St} {P : AV → St → Prop} (hn : Nat.ble args.length 40 = true) (h : EndsA E 40 [.c p31] .nrm (initTm 0 args .leaf) S (RetQ E [.tmp 2] P)) : ∃ r S', EvA E 31 args S r S' ∧ P r S' := ev_ends (fn := Try.f31) (by kernel_rfl) rfl comp31 (by kernel_rfl) (by kernel_rfl) hn h
/-! slices.SortStableFunc[[]hindsight/info.Var,hindsight/info.Var] -/
def r41_0 : List POp := [
  ⟨some 4, .move (.tmp 0), none⟩,
  ⟨some 5, .move (.tmp 0), none⟩,
  ⟨some 6, .call { callee := .builtin .len, args := #[(.tmp 5)], argTypes := #[23] }, none⟩,
  ⟨some 7, .move (.tmp 1), none⟩,
  ⟨some 8, .call { callee := .value (.func 50), args := #[(.tmp 4), (.tmp 6), (.tmp 7)], argTypes := #[23, 3, 69] }, none⟩]
noncomputable def p41 : PC := (.reg r41_0)
theorem comp41 : (Try.f41.body.map (comp E Try.f41.ntmps)) = some p41 := by kernel_rfl
theorem ev41 {args : List AV} {S : St} {P : AV → St → Prop} (hn : Nat.ble args.length 9 = true) (h : EndsA E 9 [.c p41] .nrm (initTm 0 args .leaf) S (RetQ E [] P)) : ∃ r S', EvA E 41 args S r S' ∧ P r S' := ev_ends (fn := Try.f41) (by kernel_rfl) rfl comp41 (by kernel_rfl) (by kernel_rfl) hn h
/-! hindsight/info.Names$1 -/
def r42_0 : List POp := [
  ⟨some 2, .box 43 (.tmp 0), none⟩,
  ⟨some 3, .box 43 (.tmp 1), none⟩,
  ⟨some 4, .assign (.const (.int .i64 0)), none⟩]
def r42_1 : List POp := [
  ⟨some 5, .fieldAddr 43 (.tmp 2) 2, none⟩,
  ⟨some 6, .load 9 (.tmp 5), none⟩,
  ⟨some 7, .fieldAddr 43 (.tmp 3) 2, none⟩,
  ⟨some 8, .load 9 (.tmp 7), none⟩,
  ⟨some 9, .call { callee := .value (.func 29), args := #[(.tmp 6), (.tmp 8)], argTypes := #[9, 9] }, none⟩,
  ⟨some 4, .assign (.tmp 9), none⟩]
noncomputable def p42 : PC := (.seq (.reg r42_0) (.seq (.reg r42_1) .ret))
theorem comp42 : (Try.f42.body.map (comp E Try.f42.ntmps)) = some p42 := by kernel_rfl
theorem ev42 {args : List AV} {S : St} {P : AV → St → Prop} (hn : Nat.ble args.length 10 = true) (h : EndsA E 10 [.c p42] .nrm (initTm 0 args .leaf) S (RetQ E [.tmp 4] P)) : ∃ r S', EvA E 42 args S r S' ∧ P r S' := ev_ends (fn := Try.f42) (by kernel_rfl) rfl comp42 (by kernel_rfl) (by kernel_rfl) hn h
/-! hindsight/info.in -/
def r44_0 : List POp := [
  ⟨some 6, .assign (.const (.bool false)), none⟩]
def r44_1 : List POp := [
  ⟨some 7, .move (.tmp 0), none⟩,
  ⟨some 8, .move (.tmp 1), none⟩,
  ⟨some 9, .binOp .geq 3 (.tmp 7) (.tmp 8) 3, none⟩,
  ⟨some 10, .move (.tmp 9), none⟩,
  ⟨some 11, .move (.tmp 0), some (10, true)⟩,
  ⟨some 12, .move (.tmp 2), some (10, true)⟩,
  ⟨some 13, .binOp .leq 3 (.tmp 11) (.tmp 12) 3, some (10, true)⟩,
  ⟨some 14, .pick (.tmp 10) (.tmp 13) (.const (.bool false)), none⟩,
  ⟨some 6, .assign (.tmp 14), none⟩]
noncomputable def p44 : PC := (.seq (.reg r44_0) (.seq (.reg r44_1) .ret))
theorem comp44 : (Try.f44.body.map (comp E Try.f44.ntmps)) = some p44 := by kernel_rfl
theorem ev44 {args : List AV} {S : St} {P : AV → St → Prop} (hn : Nat.ble args.length 15 = true) (h : EndsA E 15 [.c p44] .nrm (initTm 0 args .leaf) S (RetQ E [.tmp 6] P)) : ∃ r S', EvA E 44 args S r S' ∧ P r S' := ev_ends (fn := Try.f44) (by kernel_rfl) rfl comp44 (by kernel_rfl) (by kernel_rfl) hn h
/-! internal/bytealg.CompareString -/
def r47_0 : List POp := [
  ⟨some 4, .assign (.const (.int .i64 0)), none⟩]
def r47_1 : List POp := [
  ⟨some 5, .move (.tmp 0), none⟩,
  ⟨some 6, .move (.tmp 1), none⟩,
  ⟨some 7, .call { callee := .value (.func 62), args := #[(.tmp 5), (.tmp 6)], argTypes := #[9, 9] }, none⟩,
  ⟨some 4, .assign (.tmp 7), none⟩]
noncomputable def p47 : PC := (.seq (.reg r47_0) (.seq (.reg r47_1) .ret))
theorem comp47 : (Try.f47.body.map (comp E Try.f47.ntmps)) = some p47 := by kernel_rfl
theorem ev47 {args : List AV} {S : St} {P : AV → St → Prop} (hn : Nat.ble args.length 8 = true) (h : EndsA E 8 [.c p47] .nrm (initTm 0 args .leaf) S (RetQ E [.tmp 4] P)) : ∃ r S', EvA E 47 args S r S' ∧ P r S' := ev_ends (fn := Try.f47) (by kernel_rfl) rfl comp47 (by kernel_rfl) (by kernel_rfl) hn h
/-! slices.stableCmpFunc[hindsight/info.Var] -/
def r50_0 : List POp := [
  ⟨some 6, .assign (.const (.int .i64 20)), none⟩]
def r50_1 : List POp := [
  ⟨some 10, .move (.tmp 6), none⟩,
  ⟨some 7, .assign (.const (.int .i64 0)), none⟩,
  ⟨some 8, .assign (.tmp 10), none⟩]
def r50_2 : List POp := [
  ⟨some 11, .move (.tmp 8), none⟩,
  ⟨some 12, .move (.tmp 1), none⟩,
  ⟨some 13, .binOp .leq 3 (.tmp 11) (.tmp 12) 3, none⟩]
def r50_3 : List POp := [
  ⟨some 14, .move (.tmp 0), none⟩,
  ⟨some 15, .move (.tmp 7), none⟩,
  ⟨some 16, .move (.tmp 8), none⟩,
  ⟨some 17, .move (.tmp 2), none⟩,
  ⟨some 18, .call { callee := .value (.func 52), args := #[(.tmp 14), (.tmp 15), (.tmp 16), (.tmp 17)], argTypes := #[23, 3, 3, 69] }, none⟩]
def r50_4 : List POp := [
  ⟨some 19, .move (.tmp 8), none⟩,
  ⟨some 7, .assign (.tmp 19), none⟩]
def r50_5 : List POp := [
  ⟨some 20, .move (.tmp 8), none⟩,
  ⟨some 21, .move (.tmp 6), none⟩,
  ⟨some 22, .binOp .add 3 (.tmp 20) (.tmp 21) 3, none⟩,
  ⟨some 8, .assign (.tmp 22), none⟩]
noncomputable def b50_6 : PC := (.seq (.seq (.reg r50_2) (.cond (.tmp 13) .skip (.exit 0))) (.block 1 (.seq (.reg r50_3) (.seq (.reg r50_4) (.reg r50_5)))))
def r50_7 : List POp := [
  ⟨some 23, .move (.tmp 0), none⟩,
  ⟨some 24, .move (.tmp 7), none⟩,
  ⟨some 25, .move (.tmp 1), none⟩,
  ⟨some 26, .move (.tmp 2), none⟩,
  ⟨some 27, .call { callee := .value (.func 52), args := #[(.tmp 23), (.tmp 24), (.tmp 25), (.tmp 26)], argTypes := #[23, 3, 3, 69] }, none⟩]
def r50_8 : List POp := [
  ⟨some 28, .move (.tmp 6), none⟩,
  ⟨some 29, .move (.tmp 1), none⟩,
  ⟨some 30, .binOp .lss 3 (.tmp 28) (.tmp 29) 3, none⟩]
def r50_9 : List POp := [
  ⟨some 31, .move (.tmp 6), none⟩,
  ⟨some 32, .binOp .mul 3 (.const (.int .i64 2)) (.tmp 31) 3, none⟩,
  ⟨some 7, .assign (.const (.int .i64 0)), none⟩,
  ⟨some 8, .assign (.tmp 32), none⟩]
def r50_10 : List POp := [
  ⟨some 33, .move (.tmp 8), none⟩,
  ⟨some 34, .move (.tmp 1), none⟩,
  ⟨some 35, .binOp .leq 3 (.tmp 33) (.tmp 34) 3, none⟩]
def r50_11 : List POp := [
  ⟨some 36, .move (.tmp 0), none⟩,
  ⟨some 37, .move (.tmp 7), none⟩,
  ⟨some 38, .move (.tmp 7), none⟩,
  ⟨some 39, .move (.tmp 6), none⟩,
  ⟨some 40, .binOp .add 3 (.tmp 38) (.tmp 39) 3, none⟩,
  ⟨some 41, .move (.tmp 8), none⟩,
  ⟨some 42, .move (.tmp 2), none⟩,
  ⟨some 43, .call { callee := .value (.func 63), args := #[(.tmp 36), (.tmp 37), (.tmp 40), (.tmp 41), (.tmp 42)], argTypes := #[23, 3, 3, 3, 69] }, none⟩]
def r50_12 : List POp := [
  ⟨some 44, .move (.tmp 8), none⟩,
  ⟨some 7, .assign (.tmp 44), none⟩]
def r50_13 : List POp := [
  ⟨some 45, .move (.tmp 8), none⟩,
  ⟨some 46, .move (.tmp 6), none⟩,
  ⟨some 47, .binOp .mul 3 (.const (.int .i64 2)) (.tmp 46) 3, none⟩,
  ⟨some 48, .binOp .add 3 (.tmp 45) (.tmp 47) 3, none⟩,
  ⟨some 8, .assign (.tmp 48), none⟩]
noncomputable def b50_14 : PC := (.seq (.seq (.reg r50_10) (.cond (.tmp 35) .skip (.exit 4))) (.block 5 (.seq (.reg r50_11) (.seq (.reg r50_12) (.reg r50_13)))))
def r50_15 : List POp := [
  ⟨some 49, .move (.tmp 7), none⟩,
  ⟨some 50, .move (.tmp 6), none⟩,
  ⟨some 51, .binOp .add 3 (.tmp 49) (.tmp 50) 3, none⟩,
  ⟨some 9, .assign (.tmp 51), none⟩]
def r50_16 : List POp := [
  ⟨some 52, .move (.tmp 9), none⟩,
  ⟨some 53, .move (.tmp 1), none⟩,
  ⟨some 54, .binOp .lss 3 (.tmp 52) (.tmp 53) 3, none⟩]
def r50_17 : List POp := [
  ⟨some 55, .move (.tmp 0), none⟩,
  ⟨some 56, .move (.tmp 7), none⟩,
  ⟨some 57, .move (.tmp 9), none⟩,
  ⟨some 58, .move (.tmp 1), none⟩,
  ⟨some 59, .move (.tmp 2), none⟩,
  ⟨some 60, .call { callee := .value (.func 63), args := #[(.tmp 55), (.tmp 56), (.tmp 57), (.tmp 58), (.tmp 59)], argTypes := #[23, 3, 3, 3, 69] }, none⟩]
def r50_18 : List POp := [
  ⟨some 61, .move (.tmp 6), none⟩,
  ⟨some 62, .binOp .mul 3 (.tmp 61) (.const (.int .i64 2)) 3, none⟩,
  ⟨some 6, .assign (.tmp 62), none⟩]
noncomputable def b50_19 : PC := (.seq (.seq (.reg r50_8) (.cond (.tmp 30) .skip (.exit 2))) (.block 3 (.seq (.reg r50_9) (.seq (.block 4 (.loop b50_14)) (.seq (.seq (.reg r50_15) (.seq (.reg r50_16) (.cond (.tmp 54) (.reg r50_17) .skip))) (.reg r50_18))))))
noncomputable def p50 : PC := (.seq (.reg r50_0) (.seq (.reg r50_1) (.seq (.block 0 (.loop b50_6)) (.seq (.reg r50_7) (.block 2 (.loop b50_19))))))
theorem comp50 : (Try.f50.body.map (comp E Try.f50.ntmps)) = some p50 := by kernel_rfl
theorem ev50 {args : List AV} {S : St} {P : AV → St → Prop} (hn : Nat.ble args.length 63 = true) (h : EndsA E 63 [.c p50] .nrm (initTm 0 args .leaf) S (RetQ E [] P)) : ∃ r S', EvA E 50 args S r S' ∧ P r S' := ev_ends (fn := Try.f50) (by kernel_rfl) rfl comp50 (by kernel_rfl) (by kernel_rfl) hn h
/-! slices.insertionSortCmpFunc[hindsight/info.Var] -/
def r52_0 : List POp := [
  ⟨some 10, .move (.tmp 1), none⟩,
  ⟨some 11, .binOp .add 3 (.tmp 10) (.const (.int .i64 1)) 3, none⟩,
  ⟨some 8, .assign (.tmp 11), none⟩]
def r52_1 : List POp := [
  ⟨some 12, .move (.tmp 8), none⟩,
  ⟨some 13, .move (.tmp 2), none⟩,
  ⟨some 14, .binOp .lss 3 (.tmp 12) (.tmp 13) 3, none⟩]
def r52_2 : List POp := [
  ⟨some 17, .move (.tmp 8), none⟩,
  ⟨some 9, .assign (.tmp 17), none⟩]
def r52_3 : List POp := [
  ⟨some 18, .move (.tmp 9), none⟩,
  ⟨some 19, .move (.tmp 1), none⟩,
  ⟨some 20, .binOp .gtr 3 (.tmp 18) (.tmp 19) 3, none⟩,
  ⟨some 21, .move (.tmp 20), none⟩,
  ⟨some 22, .move (.tmp 3), some (21, true)⟩,
  ⟨some 23, .move (.tmp 0), some (21, true)⟩,
  ⟨some 24, .move (.tmp 9), some (21, true)⟩,
  ⟨some 25, .indexAddr 23 (.tmp 23) (.tmp 24), some (21, true)⟩,
  ⟨some 26, .load 43 (.tmp 25), some (21, true)⟩,
  ⟨some 27, .move (.tmp 0), some (21, true)⟩,
  ⟨some 28, .move (.tmp 9), some (21, true)⟩,
  ⟨some 29, .binOp .sub 3 (.tmp 28) (.const (.int .i64 1)) 3, some (21, true)⟩,
  ⟨some 30, .indexAddr 23 (.tmp 27) (.tmp 29), some (21, true)⟩,
  ⟨some 31, .load 43 (.tmp 30), some (21, true)⟩,
  ⟨some 32, .call { callee := .value (.tmp 22), args := #[(.tmp 26), (.tmp 31)], argTypes := #[43, 43] }, some (21, true)⟩,
  ⟨some 33, .binOp .lss 3 (.tmp 32) (.const (.int .i64 0)) 3, some (21, true)⟩,
  ⟨some 34, .pick (.tmp 21) (.tmp 33) (.const (.bool false)), none⟩]
def r52_4 : List POp := [
  ⟨some 37, .move (.tmp 0), none⟩,
  ⟨some 38, .move (.tmp 9), none⟩,
  ⟨some 39, .move (.tmp 0), none⟩,
  ⟨some 40, .move (.tmp 9), none⟩,
  ⟨some 41, .binOp .sub 3 (.tmp 40) (.const (.int .i64 1)) 3, none⟩,
  ⟨some 42, .move (.tmp 0), none⟩,
  ⟨some 43, .move (.tmp 9), none⟩,
  ⟨some 44, .binOp .sub 3 (.tmp 43) (.const (.int .i64 1)) 3, none⟩,
  ⟨some 45, .indexAddr 23 (.tmp 42) (.tmp 44), none⟩,
  ⟨some 46, .load 43 (.tmp 45), none⟩,
  ⟨some 47, .move (.tmp 0), none⟩,
  ⟨some 48, .move (.tmp 9), none⟩,
  ⟨some 49, .indexAddr 23 (.tmp 47) (.tmp 48), none⟩,
  ⟨some 50, .load 43 (.tmp 49), none⟩,
  ⟨some 51, .indexAddr 23 (.tmp 37) (.tmp 38), none⟩,
  ⟨none, .store 43 (.tmp 51) (.tmp 46), none⟩,
  ⟨some 52, .indexAddr 23 (.tmp 39) (.tmp 41), none⟩,
  ⟨none, .store 43 (.tmp 52) (.tmp 50), none⟩]
def r52_5 : List POp := [
  ⟨some 35, .move (.tmp 9), none⟩,
  ⟨some 36, .binOp .sub 3 (.tmp 35) (.const (.int .i64 1)) 3, none⟩,
  ⟨some 9, .assign (.tmp 36), none⟩]
noncomputable def b52_6 : PC := (.seq (.seq (.regD 17 r52_3) (.cond (.tmp 34) .skip (.exit 2))) (.seq (.block 3 (.regD 18 r52_4)) (.reg r52_5)))
def r52_7 : List POp := [
  ⟨some 15, .move (.tmp 8), none⟩,
  ⟨some 16, .binOp .add 3 (.tmp 15) (.const (.int .i64 1)) 3, none⟩,
  ⟨some 8, .assign (.tmp 16), none⟩]
noncomputable def b52_8 : PC := (.seq (.seq (.reg r52_1) (.cond (.tmp 14) .skip (.exit 0))) (.seq (.block 1 (.seq (.reg r52_2) (.block 2 (.loop b52_6)))) (.reg r52_7)))
noncomputable def p52 : PC := (.seq (.reg r52_0) (.block 0 (.loop b52_8)))
theorem comp52 : (Try.f52.body.map (comp E Try.f52.ntmps)) = some p52 := by kernel_rfl
theorem ev52 {args : List AV} {S : St} {P : AV → St → Prop} (hn : Nat.ble args.length 53 = true) (h : EndsA E 53 [.c p52] .nrm (initTm 0 args .leaf) S (RetQ E [] P)) : ∃ r S', EvA E 52 args S r S' ∧ P r S' := ev_ends (fn := Try.f52) (by kernel_rfl) rfl comp52 (by kernel_rfl) (by kernel_rfl) hn h
/-! slices.symMergeCmpFunc[hindsight/info.Var] -/
def r63_0 : List POp := [
  ⟨some 25, .move (.tmp 2), none⟩,
  ⟨some 26, .move (.tmp 1), none⟩,
  ⟨some 27, .binOp .sub 3 (.tmp 25) (.tmp 26) 3, none⟩,
  ⟨some 28, .binOp .eql 3 (.tmp 27) (.const (.int .i64 1)) 3, none⟩]
def r63_1 : List POp := [
  ⟨some 29, .move (.tmp 2), none⟩,
  ⟨some 10, .assign (.tmp 29), none⟩]
def r63_2 : List POp := [
  ⟨some 30, .move (.tmp 3), none⟩,
  ⟨some 11, .assign (.tmp 30), none⟩]
def r63_3 : List POp := [
  ⟨some 31, .move (.tmp 10), none⟩,
  ⟨some 32, .move (.tmp 11), none⟩,
  ⟨some 33, .binOp .lss 3 (.tmp 31) (.tmp 32) 3, none⟩]
def r63_4 : List POp := [
  ⟨some 34, .move (.tmp 10), none⟩,
  ⟨some 35, .move (.tmp 11), none⟩,
  ⟨some 36, .binOp .add 3 (.tmp 34) (.tmp 35) 3, none⟩,
  ⟨some 37, .convert 3 90 (.tmp 36), none⟩,
  ⟨some 38, .binOp .shr 90 (.tmp 37) (.const (.int .u64 1)) 90, none⟩,
  ⟨some 39, .convert 90 3 (.tmp 38), none⟩,
  ⟨some 12, .assign (.tmp 39), none⟩]
def r63_5 : List POp := [
  ⟨some 40, .move (.tmp 4), none⟩,
  ⟨some 41, .move (.tmp 0), none⟩,
  ⟨some 42, .move (.tmp 12), none⟩,
  ⟨some 43, .indexAddr 23 (.tmp 41) (.tmp 42), none⟩,
  ⟨some 44, .load 43 (.tmp 43), none⟩,
  ⟨some 45, .move (.tmp 0), none⟩,
  ⟨some 46, .move (.tmp 1), none⟩,
  ⟨some 47, .indexAddr 23 (.tmp 45) (.tmp 46), none⟩,
  ⟨some 48, .load 43 (.tmp 47), none⟩,
  ⟨some 49, .call { callee := .value (.tmp 40), args := #[(.tmp 44), (.tmp 48)], argTypes := #[43, 43] }, none⟩,
  ⟨some 50, .binOp .lss 3 (.tmp 49) (.const (.int .i64 0)) 3, none⟩]
def r63_6 : List POp := [
  ⟨some 51, .move (.tmp 12), none⟩,
  ⟨some 52, .binOp .add 3 (.tmp 51) (.const (.int .i64 1)) 3, none⟩,
  ⟨some 10, .assign (.tmp 52), none⟩]
def r63_7 : List POp := [
  ⟨some 53, .move (.tmp 12), none⟩,
  ⟨some 11, .assign (.tmp 53), none⟩]
noncomputable def b63_8 : PC := (.seq (.seq (.reg r63_3) (.cond (.tmp 33) .skip (.exit 0))) (.block 1 (.seq (.reg r63_4) (.seq (.regD 11 r63_5) (.cond (.tmp 50) (.reg r63_6) (.reg r63_7))))))
def r63_9 : List POp := [
  ⟨some 54, .move (.tmp 1), none⟩,
  ⟨some 13, .assign (.tmp 54), none⟩]
def r63_10 : List POp := [
  ⟨some 55, .move (.tmp 13), none⟩,
  ⟨some 56, .move (.tmp 10), none⟩,
  ⟨some 57, .binOp .sub 3 (.tmp 56) (.const (.int .i64 1)) 3, none⟩,
  ⟨some 58, .binOp .lss 3 (.tmp 55) (.tmp 57) 3, none⟩]
def r63_11 : List POp := [
  ⟨some 61, .move (.tmp 0), none⟩,
  ⟨some 62, .move (.tmp 13), none⟩,
  ⟨some 63, .move (.tmp 0), none⟩,
  ⟨some 64, .move (.tmp 13), none⟩,
  ⟨some 65, .binOp .add 3 (.tmp 64) (.const (.int .i64 1)) 3, none⟩,
  ⟨some 66, .move (.tmp 0), none⟩,
  ⟨some 67, .move (.tmp 13), none⟩,
  ⟨some 68, .binOp .add 3 (.tmp 67) (.const (.int .i64 1)) 3, none⟩,
  ⟨some 69, .indexAddr 23 (.tmp 66) (.tmp 68), none⟩,
  ⟨some 70, .load 43 (.tmp 69), none⟩,
  ⟨some 71, .move (.tmp 0), none⟩,
  ⟨some 72, .move (.tmp 13), none⟩,
  ⟨some 73, .indexAddr 23 (.tmp 71) (.tmp 72), none⟩,
  ⟨some 74, .load 43 (.tmp 73), none⟩,
  ⟨some 75, .indexAddr 23 (.tmp 61) (.tmp 62), none⟩,
  ⟨none, .store 43 (.tmp 75) (.tmp 70), none⟩,
  ⟨some 76, .indexAddr 23 (.tmp 63) (.tmp 65), none⟩,
  ⟨none, .store 43 (.tmp 76) (.tmp 74), none⟩]
def r63_12 : List POp := [
  ⟨some 59, .move (.tmp 13), none⟩,
  ⟨some 60, .binOp .add 3 (.tmp 59) (.const (.int .i64 1)) 3, none⟩,
  ⟨some 13, .assign (.tmp 60), none⟩]
noncomputable def b63_13 : PC := (.seq (.seq (.reg r63_10) (.cond (.tmp 58) .skip (.exit 2))) (.seq (.block 3 (.regD 18 r63_11)) (.reg r63_12)))
def r63_14 : List POp := [
  ⟨some 77, .move (.tmp 3), none⟩,
  ⟨some 78, .move (.tmp 2), none⟩,
  ⟨some 79, .binOp .sub 3 (.tmp 77) (.tmp 78) 3, none⟩,
  ⟨some 80, .binOp .eql 3 (.tmp 79) (.const (.int .i64 1)) 3, none⟩]
def r63_15 : List POp := [
  ⟨some 81, .move (.tmp 1), none⟩,
  ⟨some 14, .assign (.tmp 81), none⟩]
def r63_16 : List POp := [
  ⟨some 82, .move (.tmp 2), none⟩,
  ⟨some 15, .assign (.tmp 82), none⟩]
def r63_17 : List POp := [
  ⟨some 83, .move (.tmp 14), none⟩,
  ⟨some 84, .move (.tmp 15), none⟩,
  ⟨some 85, .binOp .lss 3 (.tmp 83) (.tmp 84) 3, none⟩]
def r63_18 : List POp := [
  ⟨some 86, .move (.tmp 14), none⟩,
  ⟨some 87, .move (.tmp 15), none⟩,
  ⟨some 88, .binOp .add 3 (.tmp 86) (.tmp 87) 3, none⟩,
  ⟨some 89, .convert 3 90 (.tmp 88), none⟩,
  ⟨some 90, .binOp .shr 90 (.tmp 89) (.const (.int .u64 1)) 90, none⟩,
  ⟨some 91, .convert 90 3 (.tmp 90), none⟩,
  ⟨some 16, .assign (.tmp 91), none⟩]
def r63_19 : List POp := [
  ⟨some 92, .move (.tmp 4), none⟩,
  ⟨some 93, .move (.tmp 0), none⟩,
  ⟨some 94, .move (.tmp 2), none⟩,
  ⟨some 95, .indexAddr 23 (.tmp 93) (.tmp 94), none⟩,
  ⟨some 96, .load 43 (.tmp 95), none⟩,
  ⟨some 97, .move (.tmp 0), none⟩,
  ⟨some 98, .move (.tmp 16), none⟩,
  ⟨some 99, .indexAddr 23 (.tmp 97) (.tmp 98), none⟩,
  ⟨some 100, .load 43 (.tmp 99), none⟩,
  ⟨some 101, .call { callee := .value (.tmp 92), args := #[(.tmp 96), (.tmp 100)], argTypes := #[43, 43] }, none⟩,
  ⟨some 102, .binOp .lss 3 (.tmp 101) (.const (.int .i64 0)) 3, none⟩,
  ⟨some 103, .unOp .not 4 (.tmp 102), none⟩]
def r63_20 : List POp := [
  ⟨some 104, .move (.tmp 16), none⟩,
  ⟨some 105, .binOp .add 3 (.tmp 104) (.const (.int .i64 1)) 3, none⟩,
  ⟨some 14, .assign (.tmp 105), none⟩]
def r63_21 : List POp := [
  ⟨some 106, .move (.tmp 16), none⟩,
  ⟨some 15, .assign (.tmp 106), none⟩]
noncomputable def b63_22 : PC := (.seq (.seq (.reg r63_17) (.cond (.tmp 85) .skip (.exit 4))) (.block 5 (.seq (.reg r63_18) (.seq (.regD 12 r63_19) (.cond (.tmp 103) (.reg r63_20) (.reg r63_21))))))
def r63_23 : List POp := [
  ⟨some 107, .move (.tmp 2), none⟩,
  ⟨some 17, .assign (.tmp 107), none⟩]
def r63_24 : List POp := [
  ⟨some 108, .move (.tmp 17), none⟩,
  ⟨some 109, .move (.tmp 14), none⟩,
  ⟨some 110, .binOp .gtr 3 (.tmp 108) (.tmp 109) 3, none⟩]
def r63_25 : List POp := [
  ⟨some 113, .move (.tmp 0), none⟩,
  ⟨some 114, .move (.tmp 17), none⟩,
  ⟨some 115, .move (.tmp 0), none⟩,
  ⟨some 116, .move (.tmp 17), none⟩,
  ⟨some 117, .binOp .sub 3 (.tmp 116) (.const (.int .i64 1)) 3, none⟩,
  ⟨some 118, .move (.tmp 0), none⟩,
  ⟨some 119, .move (.tmp 17), none⟩,
  ⟨some 120, .binOp .sub 3 (.tmp 119) (.const (.int .i64 1)) 3, none⟩,
  ⟨some 121, .indexAddr 23 (.tmp 118) (.tmp 120), none⟩,
  ⟨some 122, .load 43 (.tmp 121), none⟩,
  ⟨some 123, .move (.tmp 0), none⟩,
  ⟨some 124, .move (.tmp 17), none⟩,
  ⟨some 125, .indexAddr 23 (.tmp 123) (.tmp 124), none⟩,
  ⟨some 126, .load 43 (.tmp 125), none⟩,
  ⟨some 127, .indexAddr 23 (.tmp 113) (.tmp 114), none⟩,
  ⟨none, .store 43 (.tmp 127) (.tmp 122), none⟩,
  ⟨some 128, .indexAddr 23 (.tmp 115) (.tmp 117), none⟩,
  ⟨none, .store 43 (.tmp 128) (.tmp 126), none⟩]
def r63_26 : List POp := [
  ⟨some 111, .move (.tmp 17), none⟩,
  ⟨some 112, .binOp .sub 3 (.tmp 111) (.const (.int .i64 1)) 3, none⟩,
  ⟨some 17, .assign (.tmp 112), none⟩]
noncomputable def b63_27 : PC := (.seq (.seq (.reg r63_24) (.cond (.tmp 110) .skip (.exit 6))) (.seq (.block 7 (.regD 18 r63_25)) (.reg r63_26)))
def r63_28 : List POp := [
  ⟨some 129, .move (.tmp 1), none⟩,
  ⟨some 130, .move (.tmp 3), none⟩,
  ⟨some 131, .binOp .add 3 (.tmp 129) (.tmp 130) 3, none⟩,
  ⟨some 132, .convert 3 90 (.tmp 131), none⟩,
  ⟨some 133, .binOp .shr 90 (.tmp 132) (.const (.int .u64 1)) 90, none⟩,
  ⟨some 134, .convert 90 3 (.tmp 133), none⟩,
  ⟨some 18, .assign (.tmp 134), none⟩]
def r63_29 : List POp := [
  ⟨some 135, .move (.tmp 18), none⟩,
  ⟨some 136, .move (.tmp 2), none⟩,
  ⟨some 137, .binOp .add 3 (.tmp 135) (.tmp 136) 3, none⟩,
  ⟨some 19, .assign (.tmp 137), none⟩]
def r63_30 : List POp := [
  ⟨some 20, .assign (.const (.int .i64 0)), none⟩,
  ⟨some 21, .assign (.const (.int .i64 0)), none⟩]
def r63_31 : List POp := [
  ⟨some 138, .move (.tmp 2), none⟩,
  ⟨some 139, .move (.tmp 18), none⟩,
  ⟨some 140, .binOp .gtr 3 (.tmp 138) (.tmp 139) 3, none⟩]
def r63_32 : List POp := [
  ⟨some 141, .move (.tmp 19), none⟩,
  ⟨some 142, .move (.tmp 3), none⟩,
  ⟨some 143, .binOp .sub 3 (.tmp 141) (.tmp 142) 3, none⟩,
  ⟨some 20, .assign (.tmp 143), none⟩]
def r63_33 : List POp := [
  ⟨some 144, .move (.tmp 18), none⟩,
  ⟨some 21, .assign (.tmp 144), none⟩]
def r63_34 : List POp := [
  ⟨some 145, .move (.tmp 1), none⟩,
  ⟨some 20, .assign (.tmp 145), none⟩]
def r63_35 : List POp := [
  ⟨some 146, .move (.tmp 2), none⟩,
  ⟨some 21, .assign (.tmp 146), none⟩]
def r63_36 : List POp := [
  ⟨some 147, .move (.tmp 19), none⟩,
  ⟨some 148, .binOp .sub 3 (.tmp 147) (.const (.int .i64 1)) 3, none⟩,
  ⟨some 22, .assign (.tmp 148), none⟩]
def r63_37 : List POp := [
  ⟨some 149, .move (.tmp 20), none⟩,
  ⟨some 150, .move (.tmp 21), none⟩,
  ⟨some 151, .binOp .lss 3 (.tmp 149) (.tmp 150) 3, none⟩]
def r63_38 : List POp := [
  ⟨some 152, .move (.tmp 20), none⟩,
  ⟨some 153, .move (.tmp 21), none⟩,
  ⟨some 154, .binOp .add 3 (.tmp 152) (.tmp 153) 3, none⟩,
  ⟨some 155, .convert 3 90 (.tmp 154), none⟩,
  ⟨some 156, .binOp .shr 90 (.tmp 155) (.const (.int .u64 1)) 90, none⟩,
  ⟨some 157, .convert 90 3 (.tmp 156), none⟩,
  ⟨some 23, .assign (.tmp 157), none⟩]
def r63_39 : List POp := [
  ⟨some 158, .move (.tmp 4), none⟩,
  ⟨some 159, .move (.tmp 0), none⟩,
  ⟨some 160, .move (.tmp 22), none⟩,
  ⟨some 161, .move (.tmp 23), none⟩,
  ⟨some 162, .binOp .sub 3 (.tmp 160) (.tmp 161) 3, none⟩,
  ⟨some 163, .indexAddr 23 (.tmp 159) (.tmp 162), none⟩,
  ⟨some 164, .load 43 (.tmp 163), none⟩,
  ⟨some 165, .move (.tmp 0), none⟩,
  ⟨some 166, .move (.tmp 23), none⟩,
  ⟨some 167, .indexAddr 23 (.tmp 165) (.tmp 166), none⟩,
  ⟨some 168, .load 43 (.tmp 167), none⟩,
  ⟨some 169, .call { callee := .value (.tmp 158), args := #[(.tmp 164), (.tmp 168)], argTypes := #[43, 43] }, none⟩,
  ⟨some 170, .binOp .lss 3 (.tmp 169) (.const (.int .i64 0)) 3, none⟩,
  ⟨some 171, .unOp .not 4 (.tmp 170), none⟩]
def r63_40 : List POp := [
  ⟨some 172, .move (.tmp 23), none⟩,
  ⟨some 173, .binOp .add 3 (.tmp 172) (.const (.int .i64 1)) 3, none⟩,
  ⟨some 20, .assign (.tmp 173), none⟩]
def r63_41 : List POp := [
  ⟨some 174, .move (.tmp 23), none⟩,
  ⟨some 21, .assign (.tmp 174), none⟩]
noncomputable def b63_42 : PC := (.seq (.seq (.reg r63_37) (.cond (.tmp 151) .skip (.exit 8))) (.block 9 (.seq (.reg r63_38) (.seq (.regD 14 r63_39) (.cond (.tmp 171) (.reg r63_40) (.reg r63_41))))))
def r63_43 : List POp := [
  ⟨some 175, .move (.tmp 19), none⟩,
  ⟨some 176, .move (.tmp 20), none⟩,
  ⟨some 177, .binOp .sub 3 (.tmp 175) (.tmp 176) 3, none⟩,
  ⟨some 24, .assign (.tmp 177), none⟩]
def r63_44 : List POp := [
  ⟨some 178, .move (.tmp 20), none⟩,
  ⟨some 179, .move (.tmp 2), none⟩,
  ⟨some 180, .binOp .lss 3 (.tmp 178) (.tmp 179) 3, none⟩,
  ⟨some 181, .move (.tmp 180), none⟩,
  ⟨some 182, .move (.tmp 2), some (181, true)⟩,
  ⟨some 183, .move (.tmp 24), some (181, true)⟩,
  ⟨some 184, .binOp .lss 3 (.tmp 182) (.tmp 183) 3, some (181, true)⟩,
  ⟨some 185, .pick (.tmp 181) (.tmp 184) (.const (.bool false)), none⟩]
def r63_45 : List POp := [
  ⟨some 186, .move (.tmp 0), none⟩,
  ⟨some 187, .move (.tmp 20), none⟩,
  ⟨some 188, .move (.tmp 2), none⟩,
  ⟨some 189, .move (.tmp 24), none⟩,
  ⟨some 190, .move (.tmp 4), none⟩,
  ⟨some 191, .call { callee := .value (.func 78), args := #[(.tmp 186), (.tmp 187), (.tmp 188), (.tmp 189), (.tmp 190)], argTypes := #[23, 3, 3, 3, 69] }, none⟩]
def r63_46 : List POp := [
  ⟨some 192, .move (.tmp 1), none⟩,
  ⟨some 193, .move (.tmp 20), none⟩,
  ⟨some 194, .binOp .lss 3 (.tmp 192) (.tmp 193) 3, none⟩,
  ⟨some 195, .move (.tmp 194), none⟩,
  ⟨some 196, .move (.tmp 20), some (195, true)⟩,
  ⟨some 197, .move (.tmp 18), some (195, true)⟩,
  ⟨some 198, .binOp .lss 3 (.tmp 196) (.tmp 197) 3, some (195, true)⟩,
  ⟨some 199, .pick (.tmp 195) (.tmp 198) (.const (.bool false)), none⟩]
def r63_47 : List POp := [
  ⟨some 200, .move (.tmp 0), none⟩,
  ⟨some 201, .move (.tmp 1), none⟩,
  ⟨some 202, .move (.tmp 20), none⟩,
  ⟨some 203, .move (.tmp 18), none⟩,
  ⟨some 204, .move (.tmp 4), none⟩,
  ⟨some 205, .call { callee := .value (.func 63), args := #[(.tmp 200), (.tmp 201), (.tmp 202), (.tmp 203), (.tmp 204)], argTypes := #[23, 3, 3, 3, 69] }, none⟩]
def r63_48 : List POp := [
  ⟨some 206, .move (.tmp 18), none⟩,
  ⟨some 207, .move (.tmp 24), none⟩,
  ⟨some 208, .binOp .lss 3 (.tmp 206) (.tmp 207) 3, none⟩,
  ⟨some 209, .move (.tmp 208), none⟩,
  ⟨some 210, .move (.tmp 24), some (209, true)⟩,
  ⟨some 211, .move (.tmp 3), some (209, true)⟩,
  ⟨some 212, .binOp .lss 3 (.tmp 210) (.tmp 211) 3, some (209, true)⟩,
  ⟨some 213, .pick (.tmp 209) (.tmp 212) (.const (.bool false)), none⟩]
def r63_49 : List POp := [
  ⟨some 214, .move (.tmp 0), none⟩,
  ⟨some 215, .move (.tmp 18), none⟩,
  ⟨some 216, .move (.tmp 24), none⟩,
  ⟨some 217, .move (.tmp 3), none⟩,
  ⟨some 218, .move (.tmp 4), none⟩,
  ⟨some 219, .call { callee := .value (.func 63), args := #[(.tmp 214), (.tmp 215), (.tmp 216), (.tmp 217), (.tmp 218)], argTypes := #[23, 3, 3, 3, 69] }, none⟩]
noncomputable def p63 : PC := (.seq (.seq (.reg r63_0) (.cond (.tmp 28) (.seq (.reg r63_1) (.seq (.reg r63_2) (.seq (.block 0 (.loop b63_8)) (.seq (.seq (.reg r63_9) (.block 2 (.loop b63_13))) .ret)))) .skip)) (.seq (.seq (.reg r63_14) (.cond (.tmp 80) (.seq (.reg r63_15) (.seq (.reg r63_16) (.seq (.block 4 (.loop b63_22)) (.seq (.seq (.reg r63_23) (.block 6 (.loop b63_27))) .ret)))) .skip)) (.seq (.reg r63_28) (.seq (.reg r63_29) (.seq (.reg r63_30) (.seq (.seq (.reg r63_31) (.cond (.tmp 140) (.seq (.reg r63_32) (.reg r63_33)) (.seq (.reg r63_34) (.reg r63_35)))) (.seq (.reg r63_36) (.seq (.block 8 (.loop b63_42)) (.seq (.reg r63_43) (.seq (.seq (.reg r63_44) (.cond (.tmp 185) (.reg r63_45) .skip)) (.seq (.seq (.reg r63_46) (.cond (.tmp 199) (.reg r63_47) .skip)) (.seq (.reg r63_48) (.cond (.tmp 213) (.reg r63_49) .skip)))))))))))))
theorem comp63 : (Try.f63.body.map (comp E Try.f63.ntmps)) = some p63 := by kernel_rfl
theorem ev63 {args : List AV} {S : St} {P : AV → St → Prop} (hn : Nat.ble args.length 220 = true) (h : EndsA E 220 [.c p63] .nrm (initTm 0 args .leaf) S (RetQ E [] P)) : ∃ r S', EvA E 63 args S r S' ∧ P r S' := ev_ends (fn := Try.f63) (by kernel_rfl) rfl comp63 (by kernel_rfl) (by kernel_rfl) hn h
/-! slices.rotateCmpFunc[hindsight/info.Var] -/
def r78_0 : List POp := [
  ⟨some 12, .move (.tmp 2), none⟩,
  ⟨some 13, .move (.tmp 1), none⟩,
  ⟨some 14, .binOp .sub 3 (.tmp 12) (.tmp 13) 3, none⟩,
  ⟨some 10, .assign (.tmp 14), none⟩]
def r78_1 : List POp := [
  ⟨some 15, .move (.tmp 3), none⟩,
  ⟨some 16, .move (.tmp 2), none⟩,
  ⟨some 17, .binOp .sub 3 (.tmp 15) (.tmp 16) 3, none⟩,
  ⟨some 11, .assign (.tmp 17), none⟩]
def r78_2 : List POp := [
  ⟨some 18, .move (.tmp 10), none⟩,
  ⟨some 19, .move (.tmp 11), none⟩,
  ⟨some 20, .binOp .neq 3 (.tmp 18) (.tmp 19) 3, none⟩]
def r78_3 : List POp := [
  ⟨some 21, .move (.tmp 10), none⟩,
  ⟨some 22, .move (.tmp 11), none⟩,
  ⟨some 23, .binOp .gtr 3 (.tmp 21) (.tmp 22) 3, none⟩]
def r78_4 : List POp := [
  ⟨some 24, .move (.tmp 0), none⟩,
  ⟨some 25, .move (.tmp 2), none⟩,
  ⟨some 26, .move (.tmp 10), none⟩,
  ⟨some 27, .binOp .sub 3 (.tmp 25) (.tmp 26) 3, none⟩,
  ⟨some 28, .move (.tmp 2), none⟩,
  ⟨some 29, .move (.tmp 11), none⟩,
  ⟨some 30, .move (.tmp 4), none⟩,
  ⟨some 31, .call { callee := .value (.func 83), args := #[(.tmp 24), (.tmp 27), (.tmp 28), (.tmp 29), (.tmp 30)], argTypes := #[23, 3, 3, 3, 69] }, none⟩]
def r78_5 : List POp := [
  ⟨some 32, .move (.tmp 10), none⟩,
  ⟨some 33, .move (.tmp 11), none⟩,
  ⟨some 34, .binOp .sub 3 (.tmp 32) (.tmp 33) 3, none⟩,
  ⟨some 10, .assign (.tmp 34), none⟩]
def r78_6 : List POp := [
  ⟨some 35, .move (.tmp 0), none⟩,
  ⟨some 36, .move (.tmp 2), none⟩,
  ⟨some 37, .move (.tmp 10), none⟩,
  ⟨some 38, .binOp .sub 3 (.tmp 36) (.tmp 37) 3, none⟩,
  ⟨some 39, .move (.tmp 2), none⟩,
  ⟨some 40, .move (.tmp 11), none⟩,
  ⟨some 41, .binOp .add 3 (.tmp 39) (.tmp 40) 3, none⟩,
  ⟨some 42, .move (.tmp 10), none⟩,
  ⟨some 43, .binOp .sub 3 (.tmp 41) (.tmp 42) 3, none⟩,
  ⟨some 44, .move (.tmp 10), none⟩,
  ⟨some 45, .move (.tmp 4), none⟩,
  ⟨some 46, .call { callee := .value (.func 83), args := #[(.tmp 35), (.tmp 38), (.tmp 43), (.tmp 44), (.tmp 45)], argTypes := #[23, 3, 3, 3, 69] }, none⟩]
def r78_7 : List POp := [
  ⟨some 47, .move (.tmp 11), none⟩,
  ⟨some 48, .move (.tmp 10), none⟩,
  ⟨some 49, .binOp .sub 3 (.tmp 47) (.tmp 48) 3, none⟩,
  ⟨some 11, .assign (.tmp 49), none⟩]
noncomputable def b78_8 : PC := (.seq (.seq (.reg r78_2) (.cond (.tmp 20) .skip (.exit 0))) (.block 1 (.seq (.reg r78_3) (.cond (.tmp 23) (.seq (.reg r78_4) (.reg r78_5)) (.seq (.reg r78_6) (.reg r78_7))))))
def r78_9 : List POp := [
  ⟨some 50, .move (.tmp 0), none⟩,
  ⟨some 51, .move (.tmp 2), none⟩,
  ⟨some 52, .move (.tmp 10), none⟩,
  ⟨some 53, .binOp .sub 3 (.tmp 51) (.tmp 52) 3, none⟩,
  ⟨some 54, .move (.tmp 2), none⟩,
  ⟨some 55, .move (.tmp 10), none⟩,
  ⟨some 56, .move (.tmp 4), none⟩,
  ⟨some 57, .call { callee := .value (.func 83), args := #[(.tmp 50), (.tmp 53), (.tmp 54), (.tmp 55), (.tmp 56)], argTypes := #[23, 3, 3, 3, 69] }, none⟩]
noncomputable def p78 : PC := (.seq (.reg r78_0) (.seq (.reg r78_1) (.seq (.block 0 (.loop b78_8)) (.reg r78_9))))
theorem comp78 : (Try.f78.body.map (comp E Try.f78.ntmps)) = some p78 := by kernel_rfl
theorem ev78 {args : List AV} {S : St} {P : AV → St → Prop} (hn : Nat.ble args.length 58 = true) (h : EndsA E 58 [.c p78] .nrm (initTm 0 args .leaf) S (RetQ E [] P)) : ∃ r S', EvA E 78 args S r S' ∧ P r S' := ev_ends (fn := Try.f78) (by kernel_rfl) rfl comp78 (by kernel_rfl) (by kernel_rfl) hn h
/-! slices.swapRangeCmpFunc[hindsight/info.Var] -/
def r83_0 : List POp := [
  ⟨some 10, .assign (.const (.int .i64 0)), none⟩]
def r83_1 : List POp := [
  ⟨some 11, .move (.tmp 10), none⟩,
  ⟨some 12, .move (.tmp 3), none⟩,
  ⟨some 13, .binOp .lss 3 (.tmp 11) (.tmp 12) 3, none⟩]
def r83_2 : List POp := [
  ⟨some 16, .move (.tmp 0), none⟩,
  ⟨some 17, .move (.tmp 1), none⟩,
  ⟨some 18, .move (.tmp 10), none⟩,
  ⟨some 19, .binOp .add 3 (.tmp 17) (.tmp 18) 3, none⟩,
  ⟨some 20, .move (.tmp 0), none⟩,
  ⟨some 21, .move (.tmp 2), none⟩,
  ⟨some 22, .move (.tmp 10), none⟩,
  ⟨some 23, .binOp .add 3 (.tmp 21) (.tmp 22) 3, none⟩,
  ⟨some 24, .move (.tmp 0), none⟩,
  ⟨some 25, .move (.tmp 2), none⟩,
  ⟨some 26, .move (.tmp 10), none⟩,
  ⟨some 27, .binOp .add 3 (.tmp 25) (.tmp 26) 3, none⟩,
  ⟨some 28, .indexAddr 23 (.tmp 24) (.tmp 27), none⟩,
  ⟨some 29, .load 43 (.tmp 28), none⟩,
  ⟨some 30, .move (.tmp 0), none⟩,
  ⟨some 31, .move (.tmp 1), none⟩,
  ⟨some 32, .move (.tmp 10), none⟩,
  ⟨some 33, .binOp .add 3 (.tmp 31) (.tmp 32) 3, none⟩,
  ⟨some 34, .indexAddr 23 (.tmp 30) (.tmp 33), none⟩,
  ⟨some 35, .load 43 (.tmp 34), none⟩,
  ⟨some 36, .indexAddr 23 (.tmp 16) (.tmp 19), none⟩,
  ⟨none, .store 43 (.tmp 36) (.tmp 29), none⟩,
  ⟨some 37, .indexAddr 23 (.tmp 20) (.tmp 23), none⟩,
  ⟨none, .store 43 (.tmp 37) (.tmp 35), none⟩]
def r83_3 : List POp := [
  ⟨some 14, .move (.tmp 10), none⟩,
  ⟨some 15, .binOp .add 3 (.tmp 14) (.const (.int .i64 1)) 3, none⟩,
  ⟨some 10, .assign (.tmp 15), none⟩]
noncomputable def b83_4 : PC := (.seq (.seq (.reg r83_1) (.cond (.tmp 13) .skip (.exit 0))) (.seq (.block 1 (.regD 24 r83_2)) (.reg r83_3)))
noncomputable def p83 : PC := (.seq (.reg r83_0) (.block 0 (.loop b83_4)))
theorem comp83 : (Try.f83.body.map (comp E Try.f83.ntmps)) = some p83 := by kernel_rfl
theorem ev83 {args : List AV} {S : St} {P : AV → St → Prop} (hn : Nat.ble args.length 38 = true) (h : EndsA E 38 [.c p83] .nrm (initTm 0 args .leaf) S (RetQ E [] P)) : ∃ r S', EvA E 83 args S r S' ∧ P r S' := ev_ends (fn := Try.f83) (by kernel_rfl) rfl comp83 (by kernel_rfl) (by kernel_rfl) hn h
end Go.Proofs.Ytmmpcomfhcpicaa
