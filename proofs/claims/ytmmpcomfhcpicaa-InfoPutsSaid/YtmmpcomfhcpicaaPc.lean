/-
  The compiled code of functions of this seat's program, and facts on its types: written by program (wip/GenPC.lean); the kernel checks each row.
-/
import Derived.Test.YtmmpcomfhcpicaaRows
import Derived.Test.YtmmpcomfhcpicaaAbs24
import Derived.Test.YtmmpcomfhcpicaaSortF
set_option linter.unusedSimpArgs false
set_option linter.unusedVariables false
set_option maxRecDepth 100000
namespace Go.Proofs.Ytmmpcomfhcpicaa
open Go.Abs
noncomputable def E : Env := { plainEnv Try.prog (fun t d => (Nat.beq t 23 && isDst d 7)) (fun _ _ => none) (fun _ => none) with X := fun f => bif Nat.beq f 26 then some (sortFX 27 6 parseV encV srtV) else none }
theorem load2 {tm : PM AV} {S : St} {d : Option Tmp} (x : Operand) : opV E tm d (.load 2 x) S = loadC false 1 (E.ev tm x) S := load_chk 2 false 1 (by kernel_rfl) x
theorem store2 {tm : PM AV} {S : St} {d : Option Tmp} (x y : Operand) : opV E tm d (.store 2 x y) S = storeC 1 (E.ev tm x) (E.ev tm y) S := store_chk (b := false) 2 1 (by kernel_rfl) x y
theorem load3 {tm : PM AV} {S : St} {d : Option Tmp} (x : Operand) : opV E tm d (.load 3 x) S = loadC false 1 (E.ev tm x) S := load_chk 3 false 1 (by kernel_rfl) x
theorem store3 {tm : PM AV} {S : St} {d : Option Tmp} (x y : Operand) : opV E tm d (.store 3 x y) S = storeC 1 (E.ev tm x) (E.ev tm y) S := store_chk (b := false) 3 1 (by kernel_rfl) x y
theorem load4 {tm : PM AV} {S : St} {d : Option Tmp} (x : Operand) : opV E tm d (.load 4 x) S = loadC false 1 (E.ev tm x) S := load_chk 4 false 1 (by kernel_rfl) x
theorem store4 {tm : PM AV} {S : St} {d : Option Tmp} (x y : Operand) : opV E tm d (.store 4 x y) S = storeC 1 (E.ev tm x) (E.ev tm y) S := store_chk (b := false) 4 1 (by kernel_rfl) x y
theorem load5 {tm : PM AV} {S : St} {d : Option Tmp} (x : Operand) : opV E tm d (.load 5 x) S = loadC false 1 (E.ev tm x) S := load_chk 5 false 1 (by kernel_rfl) x
theorem store5 {tm : PM AV} {S : St} {d : Option Tmp} (x y : Operand) : opV E tm d (.store 5 x y) S = storeC 1 (E.ev tm x) (E.ev tm y) S := store_chk (b := false) 5 1 (by kernel_rfl) x y
theorem load6 {tm : PM AV} {S : St} {d : Option Tmp} (x : Operand) : opV E tm d (.load 6 x) S = loadC false 1 (E.ev tm x) S := load_chk 6 false 1 (by kernel_rfl) x
theorem store6 {tm : PM AV} {S : St} {d : Option Tmp} (x y : Operand) : opV E tm d (.store 6 x y) S = storeC 1 (E.ev tm x) (E.ev tm y) S := store_chk (b := false) 6 1 (by kernel_rfl) x y
theorem load7 {tm : PM AV} {S : St} {d : Option Tmp} (x : Operand) : opV E tm d (.load 7 x) S = loadC true 4 (E.ev tm x) S := load_chk 7 true 4 (by kernel_rfl) x
theorem store7 {tm : PM AV} {S : St} {d : Option Tmp} (x y : Operand) : opV E tm d (.store 7 x y) S = storeC 4 (E.ev tm x) (E.ev tm y) S := store_chk (b := true) 7 4 (by kernel_rfl) x y
theorem load8 {tm : PM AV} {S : St} {d : Option Tmp} (x : Operand) : opV E tm d (.load 8 x) S = loadC true 4 (E.ev tm x) S := load_chk 8 true 4 (by kernel_rfl) x
theorem store8 {tm : PM AV} {S : St} {d : Option Tmp} (x y : Operand) : opV E tm d (.store 8 x y) S = storeC 4 (E.ev tm x) (E.ev tm y) S := store_chk (b := true) 8 4 (by kernel_rfl) x y
theorem load9 {tm : PM AV} {S : St} {d : Option Tmp} (x : Operand) : opV E tm d (.load 9 x) S = loadC false 1 (E.ev tm x) S := load_chk 9 false 1 (by kernel_rfl) x
theorem store9 {tm : PM AV} {S : St} {d : Option Tmp} (x y : Operand) : opV E tm d (.store 9 x y) S = storeC 1 (E.ev tm x) (E.ev tm y) S := store_chk (b := false) 9 1 (by kernel_rfl) x y
theorem load10 {tm : PM AV} {S : St} {d : Option Tmp} (x : Operand) : opV E tm d (.load 10 x) S = loadC false 1 (E.ev tm x) S := load_chk 10 false 1 (by kernel_rfl) x
theorem store10 {tm : PM AV} {S : St} {d : Option Tmp} (x y : Operand) : opV E tm d (.store 10 x y) S = storeC 1 (E.ev tm x) (E.ev tm y) S := store_chk (b := false) 10 1 (by kernel_rfl) x y
theorem load11 {tm : PM AV} {S : St} {d : Option Tmp} (x : Operand) : opV E tm d (.load 11 x) S = loadC false 1 (E.ev tm x) S := load_chk 11 false 1 (by kernel_rfl) x
theorem store11 {tm : PM AV} {S : St} {d : Option Tmp} (x y : Operand) : opV E tm d (.store 11 x y) S = storeC 1 (E.ev tm x) (E.ev tm y) S := store_chk (b := false) 11 1 (by kernel_rfl) x y
theorem load12 {tm : PM AV} {S : St} {d : Option Tmp} (x : Operand) : opV E tm d (.load 12 x) S = loadC false 1 (E.ev tm x) S := load_chk 12 false 1 (by kernel_rfl) x
theorem store12 {tm : PM AV} {S : St} {d : Option Tmp} (x y : Operand) : opV E tm d (.store 12 x y) S = storeC 1 (E.ev tm x) (E.ev tm y) S := store_chk (b := false) 12 1 (by kernel_rfl) x y
theorem load13 {tm : PM AV} {S : St} {d : Option Tmp} (x : Operand) : opV E tm d (.load 13 x) S = loadC true 2 (E.ev tm x) S := load_chk 13 true 2 (by kernel_rfl) x
theorem store13 {tm : PM AV} {S : St} {d : Option Tmp} (x y : Operand) : opV E tm d (.store 13 x y) S = storeC 2 (E.ev tm x) (E.ev tm y) S := store_chk (b := true) 13 2 (by kernel_rfl) x y
theorem load14 {tm : PM AV} {S : St} {d : Option Tmp} (x : Operand) : opV E tm d (.load 14 x) S = loadC true 2 (E.ev tm x) S := load_chk 14 true 2 (by kernel_rfl) x
theorem store14 {tm : PM AV} {S : St} {d : Option Tmp} (x y : Operand) : opV E tm d (.store 14 x y) S = storeC 2 (E.ev tm x) (E.ev tm y) S := store_chk (b := true) 14 2 (by kernel_rfl) x y
theorem load15 {tm : PM AV} {S : St} {d : Option Tmp} (x : Operand) : opV E tm d (.load 15 x) S = loadC false 1 (E.ev tm x) S := load_chk 15 false 1 (by kernel_rfl) x
theorem store15 {tm : PM AV} {S : St} {d : Option Tmp} (x y : Operand) : opV E tm d (.store 15 x y) S = storeC 1 (E.ev tm x) (E.ev tm y) S := store_chk (b := false) 15 1 (by kernel_rfl) x y
theorem load16 {tm : PM AV} {S : St} {d : Option Tmp} (x : Operand) : opV E tm d (.load 16 x) S = loadC false 1 (E.ev tm x) S := load_chk 16 false 1 (by kernel_rfl) x
theorem store16 {tm : PM AV} {S : St} {d : Option Tmp} (x y : Operand) : opV E tm d (.store 16 x y) S = storeC 1 (E.ev tm x) (E.ev tm y) S := store_chk (b := false) 16 1 (by kernel_rfl) x y
theorem load17 {tm : PM AV} {S : St} {d : Option Tmp} (x : Operand) : opV E tm d (.load 17 x) S = loadC false 1 (E.ev tm x) S := load_chk 17 false 1 (by kernel_rfl) x
theorem store17 {tm : PM AV} {S : St} {d : Option Tmp} (x y : Operand) : opV E tm d (.store 17 x y) S = storeC 1 (E.ev tm x) (E.ev tm y) S := store_chk (b := false) 17 1 (by kernel_rfl) x y
theorem load18 {tm : PM AV} {S : St} {d : Option Tmp} (x : Operand) : opV E tm d (.load 18 x) S = loadC true 1 (E.ev tm x) S := load_chk 18 true 1 (by kernel_rfl) x
theorem store18 {tm : PM AV} {S : St} {d : Option Tmp} (x y : Operand) : opV E tm d (.store 18 x y) S = storeC 1 (E.ev tm x) (E.ev tm y) S := store_chk (b := true) 18 1 (by kernel_rfl) x y
theorem load19 {tm : PM AV} {S : St} {d : Option Tmp} (x : Operand) : opV E tm d (.load 19 x) S = loadC true 1 (E.ev tm x) S := load_chk 19 true 1 (by kernel_rfl) x
theorem store19 {tm : PM AV} {S : St} {d : Option Tmp} (x y : Operand) : opV E tm d (.store 19 x y) S = storeC 1 (E.ev tm x) (E.ev tm y) S := store_chk (b := true) 19 1 (by kernel_rfl) x y
theorem load21 {tm : PM AV} {S : St} {d : Option Tmp} (x : Operand) : opV E tm d (.load 21 x) S = loadC false 1 (E.ev tm x) S := load_chk 21 false 1 (by kernel_rfl) x
theorem store21 {tm : PM AV} {S : St} {d : Option Tmp} (x y : Operand) : opV E tm d (.store 21 x y) S = storeC 1 (E.ev tm x) (E.ev tm y) S := store_chk (b := false) 21 1 (by kernel_rfl) x y
theorem load22 {tm : PM AV} {S : St} {d : Option Tmp} (x : Operand) : opV E tm d (.load 22 x) S = loadC false 1 (E.ev tm x) S := load_chk 22 false 1 (by kernel_rfl) x
theorem store22 {tm : PM AV} {S : St} {d : Option Tmp} (x y : Operand) : opV E tm d (.store 22 x y) S = storeC 1 (E.ev tm x) (E.ev tm y) S := store_chk (b := false) 22 1 (by kernel_rfl) x y
theorem und22 : E.und 22 = some (.slice 41) := by kernel_rfl
theorem sl22 : slIs E 22 4 = true := by kernel_rfl
theorem el22 : elIs E 22 41 true 4 32 = true := by kernel_rfl
theorem bs22 {tm : PM AV} {S : St} {d : Option Tmp} (n : Nat) (ps : Array (Nat × Operand)) : opV E tm d (.buildSlice 22 n ps) S = buildSliceA E 22 n (ps.toList.map fun p => (p.1, E.ev tm p.2)) S := rfl
theorem app22 {tm : PM AV} {S : St} {d : Option Tmp} (x y : Operand) (t1 : TypeId) : opV E tm d (.call (Call.mk (.builtin .append) #[x, y] #[22, t1])) S = builtinA E false .append [22, t1] [E.ev tm x, E.ev tm y] S := rfl
theorem index22 {tm : PM AV} {S : St} {d : Option Tmp} (x y : Operand) : opV E tm d (.indexAddr 22 x y) S = idxV 4 (E.ev tm x) (int? (E.ev tm y)) S := index_chk 22 4 (by kernel_rfl) x y
theorem len22 {tm : PM AV} {S : St} {d : Option Tmp} (x : Operand) : opV E tm d (.call (Call.mk (.builtin .len) #[x] #[22])) S = lenV (E.ev tm x) S := op_len (t := 22) (e := 41) (by kernel_rfl) x
theorem load23 {tm : PM AV} {S : St} {d : Option Tmp} (x : Operand) : opV E tm d (.load 23 x) S = loadC false 1 (E.ev tm x) S := load_chk 23 false 1 (by kernel_rfl) x
theorem store23 {tm : PM AV} {S : St} {d : Option Tmp} (x y : Operand) : opV E tm d (.store 23 x y) S = storeC 1 (E.ev tm x) (E.ev tm y) S := store_chk (b := false) 23 1 (by kernel_rfl) x y
theorem und23 : E.und 23 = some (.slice 43) := by kernel_rfl
theorem sl23 : slIs E 23 6 = true := by kernel_rfl
theorem el23 : elIs E 23 43 true 6 64 = true := by kernel_rfl
theorem hp23 {k : Nat} (hk : (k == 7) = false) : E.hp 23 (some k) = false := by
  show (Nat.beq 23 23 && isDst (some k) 7) = false
  simpa [isDst] using hk
theorem bs23 {tm : PM AV} {S : St} {k : Nat} (hk : (k == 7) = false) (n : Nat) (ps : Array (Nat × Operand)) : opV E tm (some k) (.buildSlice 23 n ps) S = buildSliceA E 23 n (ps.toList.map fun p => (p.1, E.ev tm p.2)) S := by
  have h1 : isMk E (opOf (some k) (.buildSlice 23 n ps)) = false := hp23 hk
  simp only [opV, evOp, h1, cond_false]; rfl
theorem app23 {tm : PM AV} {S : St} {k : Nat} (hk : (k == 7) = false) (x y : Operand) (t1 : TypeId) : opV E tm (some k) (.call (Call.mk (.builtin .append) #[x, y] #[23, t1])) S = builtinA E false .append [23, t1] [E.ev tm x, E.ev tm y] S := by
  have h : opV E tm (some k) (.call (Call.mk (.builtin .append) #[x, y] #[23, t1])) S = builtinA E (E.hp 23 (some k)) .append [23, t1] [E.ev tm x, E.ev tm y] S := rfl
  rw [h, hp23 hk]
theorem app23m {tm : PM AV} {S : St} (x y : Operand) (t1 : TypeId) : opV E tm (some 7) (.call (Call.mk (.builtin .append) #[x, y] #[23, t1])) S = builtinA E true .append [23, t1] [E.ev tm x, E.ev tm y] S := rfl
theorem index23 {tm : PM AV} {S : St} {d : Option Tmp} (x y : Operand) : opV E tm d (.indexAddr 23 x y) S = idxV 6 (E.ev tm x) (int? (E.ev tm y)) S := index_chk 23 6 (by kernel_rfl) x y
theorem len23 {tm : PM AV} {S : St} {d : Option Tmp} (x : Operand) : opV E tm d (.call (Call.mk (.builtin .len) #[x] #[23])) S = lenV (E.ev tm x) S := op_len (t := 23) (e := 43) (by kernel_rfl) x
theorem load24 {tm : PM AV} {S : St} {d : Option Tmp} (x : Operand) : opV E tm d (.load 24 x) S = loadC true 2 (E.ev tm x) S := load_chk 24 true 2 (by kernel_rfl) x
theorem store24 {tm : PM AV} {S : St} {d : Option Tmp} (x y : Operand) : opV E tm d (.store 24 x y) S = storeC 2 (E.ev tm x) (E.ev tm y) S := store_chk (b := true) 24 2 (by kernel_rfl) x y
theorem load25 {tm : PM AV} {S : St} {d : Option Tmp} (x : Operand) : opV E tm d (.load 25 x) S = loadC true 2 (E.ev tm x) S := load_chk 25 true 2 (by kernel_rfl) x
theorem store25 {tm : PM AV} {S : St} {d : Option Tmp} (x y : Operand) : opV E tm d (.store 25 x y) S = storeC 2 (E.ev tm x) (E.ev tm y) S := store_chk (b := true) 25 2 (by kernel_rfl) x y
theorem load28 {tm : PM AV} {S : St} {d : Option Tmp} (x : Operand) : opV E tm d (.load 28 x) S = loadC false 1 (E.ev tm x) S := load_chk 28 false 1 (by kernel_rfl) x
theorem store28 {tm : PM AV} {S : St} {d : Option Tmp} (x y : Operand) : opV E tm d (.store 28 x y) S = storeC 1 (E.ev tm x) (E.ev tm y) S := store_chk (b := false) 28 1 (by kernel_rfl) x y
theorem und28 : E.und 28 = some (.slice 5) := by kernel_rfl
theorem sl28 : slIs E 28 1 = true := by kernel_rfl
theorem el28 : elIs E 28 5 false 1 1 = true := by kernel_rfl
theorem bs28 {tm : PM AV} {S : St} {d : Option Tmp} (n : Nat) (ps : Array (Nat × Operand)) : opV E tm d (.buildSlice 28 n ps) S = buildSliceA E 28 n (ps.toList.map fun p => (p.1, E.ev tm p.2)) S := rfl
theorem app28 {tm : PM AV} {S : St} {d : Option Tmp} (x y : Operand) (t1 : TypeId) : opV E tm d (.call (Call.mk (.builtin .append) #[x, y] #[28, t1])) S = builtinA E false .append [28, t1] [E.ev tm x, E.ev tm y] S := rfl
theorem index28 {tm : PM AV} {S : St} {d : Option Tmp} (x y : Operand) : opV E tm d (.indexAddr 28 x y) S = idxV 1 (E.ev tm x) (int? (E.ev tm y)) S := index_chk 28 1 (by kernel_rfl) x y
theorem len28 {tm : PM AV} {S : St} {d : Option Tmp} (x : Operand) : opV E tm d (.call (Call.mk (.builtin .len) #[x] #[28])) S = lenV (E.ev tm x) S := op_len (t := 28) (e := 5) (by kernel_rfl) x
theorem load30 {tm : PM AV} {S : St} {d : Option Tmp} (x : Operand) : opV E tm d (.load 30 x) S = loadC false 1 (E.ev tm x) S := load_chk 30 false 1 (by kernel_rfl) x
theorem store30 {tm : PM AV} {S : St} {d : Option Tmp} (x y : Operand) : opV E tm d (.store 30 x y) S = storeC 1 (E.ev tm x) (E.ev tm y) S := store_chk (b := false) 30 1 (by kernel_rfl) x y
theorem load34 {tm : PM AV} {S : St} {d : Option Tmp} (x : Operand) : opV E tm d (.load 34 x) S = loadC false 1 (E.ev tm x) S := load_chk 34 false 1 (by kernel_rfl) x
theorem store34 {tm : PM AV} {S : St} {d : Option Tmp} (x y : Operand) : opV E tm d (.store 34 x y) S = storeC 1 (E.ev tm x) (E.ev tm y) S := store_chk (b := false) 34 1 (by kernel_rfl) x y
theorem und34 : E.und 34 = some (.slice 51) := by kernel_rfl
theorem sl34 : slIs E 34 4 = true := by kernel_rfl
theorem el34 : elIs E 34 51 true 4 32 = true := by kernel_rfl
theorem bs34 {tm : PM AV} {S : St} {d : Option Tmp} (n : Nat) (ps : Array (Nat × Operand)) : opV E tm d (.buildSlice 34 n ps) S = buildSliceA E 34 n (ps.toList.map fun p => (p.1, E.ev tm p.2)) S := rfl
theorem app34 {tm : PM AV} {S : St} {d : Option Tmp} (x y : Operand) (t1 : TypeId) : opV E tm d (.call (Call.mk (.builtin .append) #[x, y] #[34, t1])) S = builtinA E false .append [34, t1] [E.ev tm x, E.ev tm y] S := rfl
theorem index34 {tm : PM AV} {S : St} {d : Option Tmp} (x y : Operand) : opV E tm d (.indexAddr 34 x y) S = idxV 4 (E.ev tm x) (int? (E.ev tm y)) S := index_chk 34 4 (by kernel_rfl) x y
theorem len34 {tm : PM AV} {S : St} {d : Option Tmp} (x : Operand) : opV E tm d (.call (Call.mk (.builtin .len) #[x] #[34])) S = lenV (E.ev tm x) S := op_len (t := 34) (e := 51) (by kernel_rfl) x
theorem load35 {tm : PM AV} {S : St} {d : Option Tmp} (x : Operand) : opV E tm d (.load 35 x) S = loadC false 1 (E.ev tm x) S := load_chk 35 false 1 (by kernel_rfl) x
theorem store35 {tm : PM AV} {S : St} {d : Option Tmp} (x y : Operand) : opV E tm d (.store 35 x y) S = storeC 1 (E.ev tm x) (E.ev tm y) S := store_chk (b := false) 35 1 (by kernel_rfl) x y
theorem und35 : E.und 35 = some (.slice 56) := by kernel_rfl
theorem sl35 : slIs E 35 6 = true := by kernel_rfl
theorem el35 : elIs E 35 56 true 6 64 = true := by kernel_rfl
theorem bs35 {tm : PM AV} {S : St} {d : Option Tmp} (n : Nat) (ps : Array (Nat × Operand)) : opV E tm d (.buildSlice 35 n ps) S = buildSliceA E 35 n (ps.toList.map fun p => (p.1, E.ev tm p.2)) S := rfl
theorem app35 {tm : PM AV} {S : St} {d : Option Tmp} (x y : Operand) (t1 : TypeId) : opV E tm d (.call (Call.mk (.builtin .append) #[x, y] #[35, t1])) S = builtinA E false .append [35, t1] [E.ev tm x, E.ev tm y] S := rfl
theorem index35 {tm : PM AV} {S : St} {d : Option Tmp} (x y : Operand) : opV E tm d (.indexAddr 35 x y) S = idxV 6 (E.ev tm x) (int? (E.ev tm y)) S := index_chk 35 6 (by kernel_rfl) x y
theorem len35 {tm : PM AV} {S : St} {d : Option Tmp} (x : Operand) : opV E tm d (.call (Call.mk (.builtin .len) #[x] #[35])) S = lenV (E.ev tm x) S := op_len (t := 35) (e := 56) (by kernel_rfl) x
theorem load36 {tm : PM AV} {S : St} {d : Option Tmp} (x : Operand) : opV E tm d (.load 36 x) S = loadC true 2 (E.ev tm x) S := load_chk 36 true 2 (by kernel_rfl) x
theorem store36 {tm : PM AV} {S : St} {d : Option Tmp} (x y : Operand) : opV E tm d (.store 36 x y) S = storeC 2 (E.ev tm x) (E.ev tm y) S := store_chk (b := true) 36 2 (by kernel_rfl) x y
theorem load37 {tm : PM AV} {S : St} {d : Option Tmp} (x : Operand) : opV E tm d (.load 37 x) S = loadC true 2 (E.ev tm x) S := load_chk 37 true 2 (by kernel_rfl) x
theorem store37 {tm : PM AV} {S : St} {d : Option Tmp} (x y : Operand) : opV E tm d (.store 37 x y) S = storeC 2 (E.ev tm x) (E.ev tm y) S := store_chk (b := true) 37 2 (by kernel_rfl) x y
theorem load40 {tm : PM AV} {S : St} {d : Option Tmp} (x : Operand) : opV E tm d (.load 40 x) S = loadC true 4 (E.ev tm x) S := load_chk 40 true 4 (by kernel_rfl) x
theorem store40 {tm : PM AV} {S : St} {d : Option Tmp} (x y : Operand) : opV E tm d (.store 40 x y) S = storeC 4 (E.ev tm x) (E.ev tm y) S := store_chk (b := true) 40 4 (by kernel_rfl) x y
theorem load41 {tm : PM AV} {S : St} {d : Option Tmp} (x : Operand) : opV E tm d (.load 41 x) S = loadC true 4 (E.ev tm x) S := load_chk 41 true 4 (by kernel_rfl) x
theorem store41 {tm : PM AV} {S : St} {d : Option Tmp} (x y : Operand) : opV E tm d (.store 41 x y) S = storeC 4 (E.ev tm x) (E.ev tm y) S := store_chk (b := true) 41 4 (by kernel_rfl) x y
theorem load42 {tm : PM AV} {S : St} {d : Option Tmp} (x : Operand) : opV E tm d (.load 42 x) S = loadC true 6 (E.ev tm x) S := load_chk 42 true 6 (by kernel_rfl) x
theorem store42 {tm : PM AV} {S : St} {d : Option Tmp} (x y : Operand) : opV E tm d (.store 42 x y) S = storeC 6 (E.ev tm x) (E.ev tm y) S := store_chk (b := true) 42 6 (by kernel_rfl) x y
theorem load43 {tm : PM AV} {S : St} {d : Option Tmp} (x : Operand) : opV E tm d (.load 43 x) S = loadC true 6 (E.ev tm x) S := load_chk 43 true 6 (by kernel_rfl) x
theorem store43 {tm : PM AV} {S : St} {d : Option Tmp} (x y : Operand) : opV E tm d (.store 43 x y) S = storeC 6 (E.ev tm x) (E.ev tm y) S := store_chk (b := true) 43 6 (by kernel_rfl) x y
theorem load51 {tm : PM AV} {S : St} {d : Option Tmp} (x : Operand) : opV E tm d (.load 51 x) S = loadC true 4 (E.ev tm x) S := load_chk 51 true 4 (by kernel_rfl) x
theorem store51 {tm : PM AV} {S : St} {d : Option Tmp} (x y : Operand) : opV E tm d (.store 51 x y) S = storeC 4 (E.ev tm x) (E.ev tm y) S := store_chk (b := true) 51 4 (by kernel_rfl) x y
theorem load56 {tm : PM AV} {S : St} {d : Option Tmp} (x : Operand) : opV E tm d (.load 56 x) S = loadC true 6 (E.ev tm x) S := load_chk 56 true 6 (by kernel_rfl) x
theorem store56 {tm : PM AV} {S : St} {d : Option Tmp} (x y : Operand) : opV E tm d (.store 56 x y) S = storeC 6 (E.ev tm x) (E.ev tm y) S := store_chk (b := true) 56 6 (by kernel_rfl) x y
theorem load57 {tm : PM AV} {S : St} {d : Option Tmp} (x : Operand) : opV E tm d (.load 57 x) S = loadC false 1 (E.ev tm x) S := load_chk 57 false 1 (by kernel_rfl) x
theorem store57 {tm : PM AV} {S : St} {d : Option Tmp} (x y : Operand) : opV E tm d (.store 57 x y) S = storeC 1 (E.ev tm x) (E.ev tm y) S := store_chk (b := false) 57 1 (by kernel_rfl) x y
theorem und57 : E.und 57 = some (.slice 3) := by kernel_rfl
theorem sl57 : slIs E 57 1 = true := by kernel_rfl
theorem el57 : elIs E 57 3 false 1 8 = true := by kernel_rfl
theorem bs57 {tm : PM AV} {S : St} {d : Option Tmp} (n : Nat) (ps : Array (Nat × Operand)) : opV E tm d (.buildSlice 57 n ps) S = buildSliceA E 57 n (ps.toList.map fun p => (p.1, E.ev tm p.2)) S := rfl
theorem app57 {tm : PM AV} {S : St} {d : Option Tmp} (x y : Operand) (t1 : TypeId) : opV E tm d (.call (Call.mk (.builtin .append) #[x, y] #[57, t1])) S = builtinA E false .append [57, t1] [E.ev tm x, E.ev tm y] S := rfl
theorem index57 {tm : PM AV} {S : St} {d : Option Tmp} (x y : Operand) : opV E tm d (.indexAddr 57 x y) S = idxV 1 (E.ev tm x) (int? (E.ev tm y)) S := index_chk 57 1 (by kernel_rfl) x y
theorem len57 {tm : PM AV} {S : St} {d : Option Tmp} (x : Operand) : opV E tm d (.call (Call.mk (.builtin .len) #[x] #[57])) S = lenV (E.ev tm x) S := op_len (t := 57) (e := 3) (by kernel_rfl) x
theorem load61 {tm : PM AV} {S : St} {d : Option Tmp} (x : Operand) : opV E tm d (.load 61 x) S = loadC false 1 (E.ev tm x) S := load_chk 61 false 1 (by kernel_rfl) x
theorem store61 {tm : PM AV} {S : St} {d : Option Tmp} (x y : Operand) : opV E tm d (.store 61 x y) S = storeC 1 (E.ev tm x) (E.ev tm y) S := store_chk (b := false) 61 1 (by kernel_rfl) x y
theorem load73 {tm : PM AV} {S : St} {d : Option Tmp} (x : Operand) : opV E tm d (.load 73 x) S = loadC false 1 (E.ev tm x) S := load_chk 73 false 1 (by kernel_rfl) x
theorem store73 {tm : PM AV} {S : St} {d : Option Tmp} (x y : Operand) : opV E tm d (.store 73 x y) S = storeC 1 (E.ev tm x) (E.ev tm y) S := store_chk (b := false) 73 1 (by kernel_rfl) x y
theorem load74 {tm : PM AV} {S : St} {d : Option Tmp} (x : Operand) : opV E tm d (.load 74 x) S = loadC true 2 (E.ev tm x) S := load_chk 74 true 2 (by kernel_rfl) x
theorem store74 {tm : PM AV} {S : St} {d : Option Tmp} (x y : Operand) : opV E tm d (.store 74 x y) S = storeC 2 (E.ev tm x) (E.ev tm y) S := store_chk (b := true) 74 2 (by kernel_rfl) x y
theorem load75 {tm : PM AV} {S : St} {d : Option Tmp} (x : Operand) : opV E tm d (.load 75 x) S = loadC true 2 (E.ev tm x) S := load_chk 75 true 2 (by kernel_rfl) x
theorem store75 {tm : PM AV} {S : St} {d : Option Tmp} (x y : Operand) : opV E tm d (.store 75 x y) S = storeC 2 (E.ev tm x) (E.ev tm y) S := store_chk (b := true) 75 2 (by kernel_rfl) x y
theorem load78 {tm : PM AV} {S : St} {d : Option Tmp} (x : Operand) : opV E tm d (.load 78 x) S = loadC false 1 (E.ev tm x) S := load_chk 78 false 1 (by kernel_rfl) x
theorem store78 {tm : PM AV} {S : St} {d : Option Tmp} (x y : Operand) : opV E tm d (.store 78 x y) S = storeC 1 (E.ev tm x) (E.ev tm y) S := store_chk (b := false) 78 1 (by kernel_rfl) x y
theorem load79 {tm : PM AV} {S : St} {d : Option Tmp} (x : Operand) : opV E tm d (.load 79 x) S = loadC true 2 (E.ev tm x) S := load_chk 79 true 2 (by kernel_rfl) x
theorem store79 {tm : PM AV} {S : St} {d : Option Tmp} (x y : Operand) : opV E tm d (.store 79 x y) S = storeC 2 (E.ev tm x) (E.ev tm y) S := store_chk (b := true) 79 2 (by kernel_rfl) x y
theorem load80 {tm : PM AV} {S : St} {d : Option Tmp} (x : Operand) : opV E tm d (.load 80 x) S = loadC true 2 (E.ev tm x) S := load_chk 80 true 2 (by kernel_rfl) x
theorem store80 {tm : PM AV} {S : St} {d : Option Tmp} (x y : Operand) : opV E tm d (.store 80 x y) S = storeC 2 (E.ev tm x) (E.ev tm y) S := store_chk (b := true) 80 2 (by kernel_rfl) x y
theorem load85 {tm : PM AV} {S : St} {d : Option Tmp} (x : Operand) : opV E tm d (.load 85 x) S = loadC false 1 (E.ev tm x) S := load_chk 85 false 1 (by kernel_rfl) x
theorem store85 {tm : PM AV} {S : St} {d : Option Tmp} (x y : Operand) : opV E tm d (.store 85 x y) S = storeC 1 (E.ev tm x) (E.ev tm y) S := store_chk (b := false) 85 1 (by kernel_rfl) x y
theorem load90 {tm : PM AV} {S : St} {d : Option Tmp} (x : Operand) : opV E tm d (.load 90 x) S = loadC false 1 (E.ev tm x) S := load_chk 90 false 1 (by kernel_rfl) x
theorem store90 {tm : PM AV} {S : St} {d : Option Tmp} (x y : Operand) : opV E tm d (.store 90 x y) S = storeC 1 (E.ev tm x) (E.ev tm y) S := store_chk (b := false) 90 1 (by kernel_rfl) x y
theorem load96 {tm : PM AV} {S : St} {d : Option Tmp} (x : Operand) : opV E tm d (.load 96 x) S = loadC false 1 (E.ev tm x) S := load_chk 96 false 1 (by kernel_rfl) x
theorem store96 {tm : PM AV} {S : St} {d : Option Tmp} (x y : Operand) : opV E tm d (.store 96 x y) S = storeC 1 (E.ev tm x) (E.ev tm y) S := store_chk (b := false) 96 1 (by kernel_rfl) x y
theorem load104 {tm : PM AV} {S : St} {d : Option Tmp} (x : Operand) : opV E tm d (.load 104 x) S = loadC false 1 (E.ev tm x) S := load_chk 104 false 1 (by kernel_rfl) x
theorem store104 {tm : PM AV} {S : St} {d : Option Tmp} (x y : Operand) : opV E tm d (.store 104 x y) S = storeC 1 (E.ev tm x) (E.ev tm y) S := store_chk (b := false) 104 1 (by kernel_rfl) x y
theorem load112 {tm : PM AV} {S : St} {d : Option Tmp} (x : Operand) : opV E tm d (.load 112 x) S = loadC false 1 (E.ev tm x) S := load_chk 112 false 1 (by kernel_rfl) x
theorem store112 {tm : PM AV} {S : St} {d : Option Tmp} (x y : Operand) : opV E tm d (.store 112 x y) S = storeC 1 (E.ev tm x) (E.ev tm y) S := store_chk (b := false) 112 1 (by kernel_rfl) x y
theorem load116 {tm : PM AV} {S : St} {d : Option Tmp} (x : Operand) : opV E tm d (.load 116 x) S = loadC false 1 (E.ev tm x) S := load_chk 116 false 1 (by kernel_rfl) x
theorem store116 {tm : PM AV} {S : St} {d : Option Tmp} (x y : Operand) : opV E tm d (.store 116 x y) S = storeC 1 (E.ev tm x) (E.ev tm y) S := store_chk (b := false) 116 1 (by kernel_rfl) x y
theorem load120 {tm : PM AV} {S : St} {d : Option Tmp} (x : Operand) : opV E tm d (.load 120 x) S = loadC false 1 (E.ev tm x) S := load_chk 120 false 1 (by kernel_rfl) x
theorem store120 {tm : PM AV} {S : St} {d : Option Tmp} (x y : Operand) : opV E tm d (.store 120 x y) S = storeC 1 (E.ev tm x) (E.ev tm y) S := store_chk (b := false) 120 1 (by kernel_rfl) x y
theorem load124 {tm : PM AV} {S : St} {d : Option Tmp} (x : Operand) : opV E tm d (.load 124 x) S = loadC true 4 (E.ev tm x) S := load_chk 124 true 4 (by kernel_rfl) x
theorem store124 {tm : PM AV} {S : St} {d : Option Tmp} (x y : Operand) : opV E tm d (.store 124 x y) S = storeC 4 (E.ev tm x) (E.ev tm y) S := store_chk (b := true) 124 4 (by kernel_rfl) x y
theorem load125 {tm : PM AV} {S : St} {d : Option Tmp} (x : Operand) : opV E tm d (.load 125 x) S = loadC true 4 (E.ev tm x) S := load_chk 125 true 4 (by kernel_rfl) x
theorem store125 {tm : PM AV} {S : St} {d : Option Tmp} (x y : Operand) : opV E tm d (.store 125 x y) S = storeC 4 (E.ev tm x) (E.ev tm y) S := store_chk (b := true) 125 4 (by kernel_rfl) x y
theorem load126 {tm : PM AV} {S : St} {d : Option Tmp} (x : Operand) : opV E tm d (.load 126 x) S = loadC true 0 (E.ev tm x) S := load_chk 126 true 0 (by kernel_rfl) x
theorem store126 {tm : PM AV} {S : St} {d : Option Tmp} (x y : Operand) : opV E tm d (.store 126 x y) S = storeC 0 (E.ev tm x) (E.ev tm y) S := store_chk (b := true) 126 0 (by kernel_rfl) x y
theorem load127 {tm : PM AV} {S : St} {d : Option Tmp} (x : Operand) : opV E tm d (.load 127 x) S = loadC true 0 (E.ev tm x) S := load_chk 127 true 0 (by kernel_rfl) x
theorem store127 {tm : PM AV} {S : St} {d : Option Tmp} (x y : Operand) : opV E tm d (.store 127 x y) S = storeC 0 (E.ev tm x) (E.ev tm y) S := store_chk (b := true) 127 0 (by kernel_rfl) x y
theorem load128 {tm : PM AV} {S : St} {d : Option Tmp} (x : Operand) : opV E tm d (.load 128 x) S = loadC true 0 (E.ev tm x) S := load_chk 128 true 0 (by kernel_rfl) x
theorem store128 {tm : PM AV} {S : St} {d : Option Tmp} (x y : Operand) : opV E tm d (.store 128 x y) S = storeC 0 (E.ev tm x) (E.ev tm y) S := store_chk (b := true) 128 0 (by kernel_rfl) x y
theorem load129 {tm : PM AV} {S : St} {d : Option Tmp} (x : Operand) : opV E tm d (.load 129 x) S = loadC false 1 (E.ev tm x) S := load_chk 129 false 1 (by kernel_rfl) x
theorem store129 {tm : PM AV} {S : St} {d : Option Tmp} (x y : Operand) : opV E tm d (.store 129 x y) S = storeC 1 (E.ev tm x) (E.ev tm y) S := store_chk (b := false) 129 1 (by kernel_rfl) x y
theorem load130 {tm : PM AV} {S : St} {d : Option Tmp} (x : Operand) : opV E tm d (.load 130 x) S = loadC false 1 (E.ev tm x) S := load_chk 130 false 1 (by kernel_rfl) x
theorem store130 {tm : PM AV} {S : St} {d : Option Tmp} (x y : Operand) : opV E tm d (.store 130 x y) S = storeC 1 (E.ev tm x) (E.ev tm y) S := store_chk (b := false) 130 1 (by kernel_rfl) x y
theorem load132 {tm : PM AV} {S : St} {d : Option Tmp} (x : Operand) : opV E tm d (.load 132 x) S = loadC false 1 (E.ev tm x) S := load_chk 132 false 1 (by kernel_rfl) x
theorem store132 {tm : PM AV} {S : St} {d : Option Tmp} (x y : Operand) : opV E tm d (.store 132 x y) S = storeC 1 (E.ev tm x) (E.ev tm y) S := store_chk (b := false) 132 1 (by kernel_rfl) x y
theorem load133 {tm : PM AV} {S : St} {d : Option Tmp} (x : Operand) : opV E tm d (.load 133 x) S = loadC false 1 (E.ev tm x) S := load_chk 133 false 1 (by kernel_rfl) x
theorem store133 {tm : PM AV} {S : St} {d : Option Tmp} (x y : Operand) : opV E tm d (.store 133 x y) S = storeC 1 (E.ev tm x) (E.ev tm y) S := store_chk (b := false) 133 1 (by kernel_rfl) x y
theorem load134 {tm : PM AV} {S : St} {d : Option Tmp} (x : Operand) : opV E tm d (.load 134 x) S = loadC false 1 (E.ev tm x) S := load_chk 134 false 1 (by kernel_rfl) x
theorem store134 {tm : PM AV} {S : St} {d : Option Tmp} (x y : Operand) : opV E tm d (.store 134 x y) S = storeC 1 (E.ev tm x) (E.ev tm y) S := store_chk (b := false) 134 1 (by kernel_rfl) x y
theorem load135 {tm : PM AV} {S : St} {d : Option Tmp} (x : Operand) : opV E tm d (.load 135 x) S = loadC true 11 (E.ev tm x) S := load_chk 135 true 11 (by kernel_rfl) x
theorem store135 {tm : PM AV} {S : St} {d : Option Tmp} (x y : Operand) : opV E tm d (.store 135 x y) S = storeC 11 (E.ev tm x) (E.ev tm y) S := store_chk (b := true) 135 11 (by kernel_rfl) x y
theorem load136 {tm : PM AV} {S : St} {d : Option Tmp} (x : Operand) : opV E tm d (.load 136 x) S = loadC true 11 (E.ev tm x) S := load_chk 136 true 11 (by kernel_rfl) x
theorem store136 {tm : PM AV} {S : St} {d : Option Tmp} (x y : Operand) : opV E tm d (.store 136 x y) S = storeC 11 (E.ev tm x) (E.ev tm y) S := store_chk (b := true) 136 11 (by kernel_rfl) x y
theorem conv3_5 {S : St} (mu : Bool) (n : Int) : convertA E mu 3 5 (.sc (.int .i64 n)) S = some (.sc (.int .u8 (IntKind.wrap .u8 n)), S) := conv_chk 3 5 .i64 .u8 n (by kernel_rfl) (by kernel_rfl)
theorem conv3_85 {S : St} (mu : Bool) (n : Int) : convertA E mu 3 85 (.sc (.int .i64 n)) S = some (.sc (.int .u64 (IntKind.wrap .u64 n)), S) := conv_chk 3 85 .i64 .u64 n (by kernel_rfl) (by kernel_rfl)
theorem conv3_90 {S : St} (mu : Bool) (n : Int) : convertA E mu 3 90 (.sc (.int .i64 n)) S = some (.sc (.int .u64 (IntKind.wrap .u64 n)), S) := conv_chk 3 90 .i64 .u64 n (by kernel_rfl) (by kernel_rfl)
theorem conv3_112 {S : St} (mu : Bool) (n : Int) : convertA E mu 3 112 (.sc (.int .i64 n)) S = some (.sc (.int .u64 (IntKind.wrap .u64 n)), S) := conv_chk 3 112 .i64 .u64 n (by kernel_rfl) (by kernel_rfl)
theorem conv5_3 {S : St} (mu : Bool) (n : Int) : convertA E mu 5 3 (.sc (.int .u8 n)) S = some (.sc (.int .i64 (IntKind.wrap .i64 n)), S) := conv_chk 5 3 .u8 .i64 n (by kernel_rfl) (by kernel_rfl)
theorem conv5_85 {S : St} (mu : Bool) (n : Int) : convertA E mu 5 85 (.sc (.int .u8 n)) S = some (.sc (.int .u64 (IntKind.wrap .u64 n)), S) := conv_chk 5 85 .u8 .u64 n (by kernel_rfl) (by kernel_rfl)
theorem conv85_3 {S : St} (mu : Bool) (n : Int) : convertA E mu 85 3 (.sc (.int .u64 n)) S = some (.sc (.int .i64 (IntKind.wrap .i64 n)), S) := conv_chk 85 3 .u64 .i64 n (by kernel_rfl) (by kernel_rfl)
theorem conv85_5 {S : St} (mu : Bool) (n : Int) : convertA E mu 85 5 (.sc (.int .u64 n)) S = some (.sc (.int .u8 (IntKind.wrap .u8 n)), S) := conv_chk 85 5 .u64 .u8 n (by kernel_rfl) (by kernel_rfl)
theorem conv90_3 {S : St} (mu : Bool) (n : Int) : convertA E mu 90 3 (.sc (.int .u64 n)) S = some (.sc (.int .i64 (IntKind.wrap .i64 n)), S) := conv_chk 90 3 .u64 .i64 n (by kernel_rfl) (by kernel_rfl)
theorem conv90_104 {S : St} (mu : Bool) (n : Int) : convertA E mu 90 104 (.sc (.int .u64 n)) S = some (.sc (.int .u32 (IntKind.wrap .u32 n)), S) := conv_chk 90 104 .u64 .u32 n (by kernel_rfl) (by kernel_rfl)
theorem conv104_5 {S : St} (mu : Bool) (n : Int) : convertA E mu 104 5 (.sc (.int .u32 n)) S = some (.sc (.int .u8 (IntKind.wrap .u8 n)), S) := conv_chk 104 5 .u32 .u8 n (by kernel_rfl) (by kernel_rfl)
theorem call3 {nt : Nat} {k : List KI} {tm : PM AV} {S : St} {Q : PostA} (d : Option Tmp) (xs : Array Operand) (ats : Array TypeId) (r : List POp) : EndsA E nt (.c (.reg (⟨d, .call (Call.mk (.value (.func 3)) xs ats), none⟩ :: r)) :: k) .nrm tm S Q = CallK E nt 3 (xs.toList.map (E.ev tm)) d r k tm S Q := e_call d 3 xs ats r rfl
theorem call4 {nt : Nat} {k : List KI} {tm : PM AV} {S : St} {Q : PostA} (d : Option Tmp) (xs : Array Operand) (ats : Array TypeId) (r : List POp) : EndsA E nt (.c (.reg (⟨d, .call (Call.mk (.value (.func 4)) xs ats), none⟩ :: r)) :: k) .nrm tm S Q = CallK E nt 4 (xs.toList.map (E.ev tm)) d r k tm S Q := e_call d 4 xs ats r rfl
theorem call5 {nt : Nat} {k : List KI} {tm : PM AV} {S : St} {Q : PostA} (d : Option Tmp) (xs : Array Operand) (ats : Array TypeId) (r : List POp) : EndsA E nt (.c (.reg (⟨d, .call (Call.mk (.value (.func 5)) xs ats), none⟩ :: r)) :: k) .nrm tm S Q = CallK E nt 5 (xs.toList.map (E.ev tm)) d r k tm S Q := e_call d 5 xs ats r rfl
theorem call6 {nt : Nat} {k : List KI} {tm : PM AV} {S : St} {Q : PostA} (d : Option Tmp) (xs : Array Operand) (ats : Array TypeId) (r : List POp) : EndsA E nt (.c (.reg (⟨d, .call (Call.mk (.value (.func 6)) xs ats), none⟩ :: r)) :: k) .nrm tm S Q = CallK E nt 6 (xs.toList.map (E.ev tm)) d r k tm S Q := e_call d 6 xs ats r rfl
theorem call7 {nt : Nat} {k : List KI} {tm : PM AV} {S : St} {Q : PostA} (d : Option Tmp) (xs : Array Operand) (ats : Array TypeId) (r : List POp) : EndsA E nt (.c (.reg (⟨d, .call (Call.mk (.value (.func 7)) xs ats), none⟩ :: r)) :: k) .nrm tm S Q = CallK E nt 7 (xs.toList.map (E.ev tm)) d r k tm S Q := e_call d 7 xs ats r rfl
theorem call8 {nt : Nat} {k : List KI} {tm : PM AV} {S : St} {Q : PostA} (d : Option Tmp) (xs : Array Operand) (ats : Array TypeId) (r : List POp) : EndsA E nt (.c (.reg (⟨d, .call (Call.mk (.value (.func 8)) xs ats), none⟩ :: r)) :: k) .nrm tm S Q = CallK E nt 8 (xs.toList.map (E.ev tm)) d r k tm S Q := e_call d 8 xs ats r rfl
theorem call9 {nt : Nat} {k : List KI} {tm : PM AV} {S : St} {Q : PostA} (d : Option Tmp) (xs : Array Operand) (ats : Array TypeId) (r : List POp) : EndsA E nt (.c (.reg (⟨d, .call (Call.mk (.value (.func 9)) xs ats), none⟩ :: r)) :: k) .nrm tm S Q = CallK E nt 9 (xs.toList.map (E.ev tm)) d r k tm S Q := e_call d 9 xs ats r rfl
theorem call10 {nt : Nat} {k : List KI} {tm : PM AV} {S : St} {Q : PostA} (d : Option Tmp) (xs : Array Operand) (ats : Array TypeId) (r : List POp) : EndsA E nt (.c (.reg (⟨d, .call (Call.mk (.value (.func 10)) xs ats), none⟩ :: r)) :: k) .nrm tm S Q = CallK E nt 10 (xs.toList.map (E.ev tm)) d r k tm S Q := e_call d 10 xs ats r rfl
theorem call11 {nt : Nat} {k : List KI} {tm : PM AV} {S : St} {Q : PostA} (d : Option Tmp) (xs : Array Operand) (ats : Array TypeId) (r : List POp) : EndsA E nt (.c (.reg (⟨d, .call (Call.mk (.value (.func 11)) xs ats), none⟩ :: r)) :: k) .nrm tm S Q = CallK E nt 11 (xs.toList.map (E.ev tm)) d r k tm S Q := e_call d 11 xs ats r rfl
theorem call12 {nt : Nat} {k : List KI} {tm : PM AV} {S : St} {Q : PostA} (d : Option Tmp) (xs : Array Operand) (ats : Array TypeId) (r : List POp) : EndsA E nt (.c (.reg (⟨d, .call (Call.mk (.value (.func 12)) xs ats), none⟩ :: r)) :: k) .nrm tm S Q = CallK E nt 12 (xs.toList.map (E.ev tm)) d r k tm S Q := e_call d 12 xs ats r rfl
theorem call13 {nt : Nat} {k : List KI} {tm : PM AV} {S : St} {Q : PostA} (d : Option Tmp) (xs : Array Operand) (ats : Array TypeId) (r : List POp) : EndsA E nt (.c (.reg (⟨d, .call (Call.mk (.value (.func 13)) xs ats), none⟩ :: r)) :: k) .nrm tm S Q = CallK E nt 13 (xs.toList.map (E.ev tm)) d r k tm S Q := e_call d 13 xs ats r rfl
theorem call14 {nt : Nat} {k : List KI} {tm : PM AV} {S : St} {Q : PostA} (d : Option Tmp) (xs : Array Operand) (ats : Array TypeId) (r : List POp) : EndsA E nt (.c (.reg (⟨d, .call (Call.mk (.value (.func 14)) xs ats), none⟩ :: r)) :: k) .nrm tm S Q = CallK E nt 14 (xs.toList.map (E.ev tm)) d r k tm S Q := e_call d 14 xs ats r rfl
theorem call15 {nt : Nat} {k : List KI} {tm : PM AV} {S : St} {Q : PostA} (d : Option Tmp) (xs : Array Operand) (ats : Array TypeId) (r : List POp) : EndsA E nt (.c (.reg (⟨d, .call (Call.mk (.value (.func 15)) xs ats), none⟩ :: r)) :: k) .nrm tm S Q = CallK E nt 15 (xs.toList.map (E.ev tm)) d r k tm S Q := e_call d 15 xs ats r rfl
theorem call16 {nt : Nat} {k : List KI} {tm : PM AV} {S : St} {Q : PostA} (d : Option Tmp) (xs : Array Operand) (ats : Array TypeId) (r : List POp) : EndsA E nt (.c (.reg (⟨d, .call (Call.mk (.value (.func 16)) xs ats), none⟩ :: r)) :: k) .nrm tm S Q = CallK E nt 16 (xs.toList.map (E.ev tm)) d r k tm S Q := e_call d 16 xs ats r rfl
theorem call17 {nt : Nat} {k : List KI} {tm : PM AV} {S : St} {Q : PostA} (d : Option Tmp) (xs : Array Operand) (ats : Array TypeId) (r : List POp) : EndsA E nt (.c (.reg (⟨d, .call (Call.mk (.value (.func 17)) xs ats), none⟩ :: r)) :: k) .nrm tm S Q = CallK E nt 17 (xs.toList.map (E.ev tm)) d r k tm S Q := e_call d 17 xs ats r rfl
theorem call18 {nt : Nat} {k : List KI} {tm : PM AV} {S : St} {Q : PostA} (d : Option Tmp) (xs : Array Operand) (ats : Array TypeId) (r : List POp) : EndsA E nt (.c (.reg (⟨d, .call (Call.mk (.value (.func 18)) xs ats), none⟩ :: r)) :: k) .nrm tm S Q = CallK E nt 18 (xs.toList.map (E.ev tm)) d r k tm S Q := e_call d 18 xs ats r rfl
theorem call19 {nt : Nat} {k : List KI} {tm : PM AV} {S : St} {Q : PostA} (d : Option Tmp) (xs : Array Operand) (ats : Array TypeId) (r : List POp) : EndsA E nt (.c (.reg (⟨d, .call (Call.mk (.value (.func 19)) xs ats), none⟩ :: r)) :: k) .nrm tm S Q = CallK E nt 19 (xs.toList.map (E.ev tm)) d r k tm S Q := e_call d 19 xs ats r rfl
theorem call20 {nt : Nat} {k : List KI} {tm : PM AV} {S : St} {Q : PostA} (d : Option Tmp) (xs : Array Operand) (ats : Array TypeId) (r : List POp) : EndsA E nt (.c (.reg (⟨d, .call (Call.mk (.value (.func 20)) xs ats), none⟩ :: r)) :: k) .nrm tm S Q = CallK E nt 20 (xs.toList.map (E.ev tm)) d r k tm S Q := e_call d 20 xs ats r rfl
theorem call21 {nt : Nat} {k : List KI} {tm : PM AV} {S : St} {Q : PostA} (d : Option Tmp) (xs : Array Operand) (ats : Array TypeId) (r : List POp) : EndsA E nt (.c (.reg (⟨d, .call (Call.mk (.value (.func 21)) xs ats), none⟩ :: r)) :: k) .nrm tm S Q = CallK E nt 21 (xs.toList.map (E.ev tm)) d r k tm S Q := e_call d 21 xs ats r rfl
theorem call22 {nt : Nat} {k : List KI} {tm : PM AV} {S : St} {Q : PostA} (d : Option Tmp) (xs : Array Operand) (ats : Array TypeId) (r : List POp) : EndsA E nt (.c (.reg (⟨d, .call (Call.mk (.value (.func 22)) xs ats), none⟩ :: r)) :: k) .nrm tm S Q = CallK E nt 22 (xs.toList.map (E.ev tm)) d r k tm S Q := e_call d 22 xs ats r rfl
theorem call23 {nt : Nat} {k : List KI} {tm : PM AV} {S : St} {Q : PostA} (d : Option Tmp) (xs : Array Operand) (ats : Array TypeId) (r : List POp) : EndsA E nt (.c (.reg (⟨d, .call (Call.mk (.value (.func 23)) xs ats), none⟩ :: r)) :: k) .nrm tm S Q = CallK E nt 23 (xs.toList.map (E.ev tm)) d r k tm S Q := e_call d 23 xs ats r rfl
theorem call24 {nt : Nat} {k : List KI} {tm : PM AV} {S : St} {Q : PostA} (d : Option Tmp) (xs : Array Operand) (ats : Array TypeId) (r : List POp) : EndsA E nt (.c (.reg (⟨d, .call (Call.mk (.value (.func 24)) xs ats), none⟩ :: r)) :: k) .nrm tm S Q = CallK E nt 24 (xs.toList.map (E.ev tm)) d r k tm S Q := e_call d 24 xs ats r rfl
theorem call25 {nt : Nat} {k : List KI} {tm : PM AV} {S : St} {Q : PostA} (d : Option Tmp) (xs : Array Operand) (ats : Array TypeId) (r : List POp) : EndsA E nt (.c (.reg (⟨d, .call (Call.mk (.value (.func 25)) xs ats), none⟩ :: r)) :: k) .nrm tm S Q = CallK E nt 25 (xs.toList.map (E.ev tm)) d r k tm S Q := e_call d 25 xs ats r rfl
theorem call26 {nt : Nat} {k : List KI} {tm : PM AV} {S : St} {Q : PostA} (d : Option Tmp) (xs : Array Operand) (ats : Array TypeId) (r : List POp) : EndsA E nt (.c (.reg (⟨d, .call (Call.mk (.value (.func 26)) xs ats), none⟩ :: r)) :: k) .nrm tm S Q = CallK E nt 26 (xs.toList.map (E.ev tm)) d r k tm S Q := e_call d 26 xs ats r rfl
theorem call27 {nt : Nat} {k : List KI} {tm : PM AV} {S : St} {Q : PostA} (d : Option Tmp) (xs : Array Operand) (ats : Array TypeId) (r : List POp) : EndsA E nt (.c (.reg (⟨d, .call (Call.mk (.value (.func 27)) xs ats), none⟩ :: r)) :: k) .nrm tm S Q = CallK E nt 27 (xs.toList.map (E.ev tm)) d r k tm S Q := e_call d 27 xs ats r rfl
theorem call28 {nt : Nat} {k : List KI} {tm : PM AV} {S : St} {Q : PostA} (d : Option Tmp) (xs : Array Operand) (ats : Array TypeId) (r : List POp) : EndsA E nt (.c (.reg (⟨d, .call (Call.mk (.value (.func 28)) xs ats), none⟩ :: r)) :: k) .nrm tm S Q = CallK E nt 28 (xs.toList.map (E.ev tm)) d r k tm S Q := e_call d 28 xs ats r rfl
theorem call29 {nt : Nat} {k : List KI} {tm : PM AV} {S : St} {Q : PostA} (d : Option Tmp) (xs : Array Operand) (ats : Array TypeId) (r : List POp) : EndsA E nt (.c (.reg (⟨d, .call (Call.mk (.value (.func 29)) xs ats), none⟩ :: r)) :: k) .nrm tm S Q = CallK E nt 29 (xs.toList.map (E.ev tm)) d r k tm S Q := e_call d 29 xs ats r rfl
theorem call30 {nt : Nat} {k : List KI} {tm : PM AV} {S : St} {Q : PostA} (d : Option Tmp) (xs : Array Operand) (ats : Array TypeId) (r : List POp) : EndsA E nt (.c (.reg (⟨d, .call (Call.mk (.value (.func 30)) xs ats), none⟩ :: r)) :: k) .nrm tm S Q = CallK E nt 30 (xs.toList.map (E.ev tm)) d r k tm S Q := e_call d 30 xs ats r rfl
theorem call31 {nt : Nat} {k : List KI} {tm : PM AV} {S : St} {Q : PostA} (d : Option Tmp) (xs : Array Operand) (ats : Array TypeId) (r : List POp) : EndsA E nt (.c (.reg (⟨d, .call (Call.mk (.value (.func 31)) xs ats), none⟩ :: r)) :: k) .nrm tm S Q = CallK E nt 31 (xs.toList.map (E.ev tm)) d r k tm S Q := e_call d 31 xs ats r rfl
theorem call32 {nt : Nat} {k : List KI} {tm : PM AV} {S : St} {Q : PostA} (d : Option Tmp) (xs : Array Operand) (ats : Array TypeId) (r : List POp) : EndsA E nt (.c (.reg (⟨d, .call (Call.mk (.value (.func 32)) xs ats), none⟩ :: r)) :: k) .nrm tm S Q = CallK E nt 32 (xs.toList.map (E.ev tm)) d r k tm S Q := e_call d 32 xs ats r rfl
theorem call33 {nt : Nat} {k : List KI} {tm : PM AV} {S : St} {Q : PostA} (d : Option Tmp) (xs : Array Operand) (ats : Array TypeId) (r : List POp) : EndsA E nt (.c (.reg (⟨d, .call (Call.mk (.value (.func 33)) xs ats), none⟩ :: r)) :: k) .nrm tm S Q = CallK E nt 33 (xs.toList.map (E.ev tm)) d r k tm S Q := e_call d 33 xs ats r rfl
theorem call34 {nt : Nat} {k : List KI} {tm : PM AV} {S : St} {Q : PostA} (d : Option Tmp) (xs : Array Operand) (ats : Array TypeId) (r : List POp) : EndsA E nt (.c (.reg (⟨d, .call (Call.mk (.value (.func 34)) xs ats), none⟩ :: r)) :: k) .nrm tm S Q = CallK E nt 34 (xs.toList.map (E.ev tm)) d r k tm S Q := e_call d 34 xs ats r rfl
theorem call35 {nt : Nat} {k : List KI} {tm : PM AV} {S : St} {Q : PostA} (d : Option Tmp) (xs : Array Operand) (ats : Array TypeId) (r : List POp) : EndsA E nt (.c (.reg (⟨d, .call (Call.mk (.value (.func 35)) xs ats), none⟩ :: r)) :: k) .nrm tm S Q = CallK E nt 35 (xs.toList.map (E.ev tm)) d r k tm S Q := e_call d 35 xs ats r rfl
theorem call36 {nt : Nat} {k : List KI} {tm : PM AV} {S : St} {Q : PostA} (d : Option Tmp) (xs : Array Operand) (ats : Array TypeId) (r : List POp) : EndsA E nt (.c (.reg (⟨d, .call (Call.mk (.value (.func 36)) xs ats), none⟩ :: r)) :: k) .nrm tm S Q = CallK E nt 36 (xs.toList.map (E.ev tm)) d r k tm S Q := e_call d 36 xs ats r rfl
theorem call37 {nt : Nat} {k : List KI} {tm : PM AV} {S : St} {Q : PostA} (d : Option Tmp) (xs : Array Operand) (ats : Array TypeId) (r : List POp) : EndsA E nt (.c (.reg (⟨d, .call (Call.mk (.value (.func 37)) xs ats), none⟩ :: r)) :: k) .nrm tm S Q = CallK E nt 37 (xs.toList.map (E.ev tm)) d r k tm S Q := e_call d 37 xs ats r rfl
theorem call38 {nt : Nat} {k : List KI} {tm : PM AV} {S : St} {Q : PostA} (d : Option Tmp) (xs : Array Operand) (ats : Array TypeId) (r : List POp) : EndsA E nt (.c (.reg (⟨d, .call (Call.mk (.value (.func 38)) xs ats), none⟩ :: r)) :: k) .nrm tm S Q = CallK E nt 38 (xs.toList.map (E.ev tm)) d r k tm S Q := e_call d 38 xs ats r rfl
theorem call39 {nt : Nat} {k : List KI} {tm : PM AV} {S : St} {Q : PostA} (d : Option Tmp) (xs : Array Operand) (ats : Array TypeId) (r : List POp) : EndsA E nt (.c (.reg (⟨d, .call (Call.mk (.value (.func 39)) xs ats), none⟩ :: r)) :: k) .nrm tm S Q = CallK E nt 39 (xs.toList.map (E.ev tm)) d r k tm S Q := e_call d 39 xs ats r rfl
theorem call40 {nt : Nat} {k : List KI} {tm : PM AV} {S : St} {Q : PostA} (d : Option Tmp) (xs : Array Operand) (ats : Array TypeId) (r : List POp) : EndsA E nt (.c (.reg (⟨d, .call (Call.mk (.value (.func 40)) xs ats), none⟩ :: r)) :: k) .nrm tm S Q = CallK E nt 40 (xs.toList.map (E.ev tm)) d r k tm S Q := e_call d 40 xs ats r rfl
theorem call41 {nt : Nat} {k : List KI} {tm : PM AV} {S : St} {Q : PostA} (d : Option Tmp) (xs : Array Operand) (ats : Array TypeId) (r : List POp) : EndsA E nt (.c (.reg (⟨d, .call (Call.mk (.value (.func 41)) xs ats), none⟩ :: r)) :: k) .nrm tm S Q = CallK E nt 41 (xs.toList.map (E.ev tm)) d r k tm S Q := e_call d 41 xs ats r rfl
theorem call42 {nt : Nat} {k : List KI} {tm : PM AV} {S : St} {Q : PostA} (d : Option Tmp) (xs : Array Operand) (ats : Array TypeId) (r : List POp) : EndsA E nt (.c (.reg (⟨d, .call (Call.mk (.value (.func 42)) xs ats), none⟩ :: r)) :: k) .nrm tm S Q = CallK E nt 42 (xs.toList.map (E.ev tm)) d r k tm S Q := e_call d 42 xs ats r rfl
theorem call43 {nt : Nat} {k : List KI} {tm : PM AV} {S : St} {Q : PostA} (d : Option Tmp) (xs : Array Operand) (ats : Array TypeId) (r : List POp) : EndsA E nt (.c (.reg (⟨d, .call (Call.mk (.value (.func 43)) xs ats), none⟩ :: r)) :: k) .nrm tm S Q = CallK E nt 43 (xs.toList.map (E.ev tm)) d r k tm S Q := e_call d 43 xs ats r rfl
theorem call44 {nt : Nat} {k : List KI} {tm : PM AV} {S : St} {Q : PostA} (d : Option Tmp) (xs : Array Operand) (ats : Array TypeId) (r : List POp) : EndsA E nt (.c (.reg (⟨d, .call (Call.mk (.value (.func 44)) xs ats), none⟩ :: r)) :: k) .nrm tm S Q = CallK E nt 44 (xs.toList.map (E.ev tm)) d r k tm S Q := e_call d 44 xs ats r rfl
theorem call45 {nt : Nat} {k : List KI} {tm : PM AV} {S : St} {Q : PostA} (d : Option Tmp) (xs : Array Operand) (ats : Array TypeId) (r : List POp) : EndsA E nt (.c (.reg (⟨d, .call (Call.mk (.value (.func 45)) xs ats), none⟩ :: r)) :: k) .nrm tm S Q = CallK E nt 45 (xs.toList.map (E.ev tm)) d r k tm S Q := e_call d 45 xs ats r rfl
theorem call46 {nt : Nat} {k : List KI} {tm : PM AV} {S : St} {Q : PostA} (d : Option Tmp) (xs : Array Operand) (ats : Array TypeId) (r : List POp) : EndsA E nt (.c (.reg (⟨d, .call (Call.mk (.value (.func 46)) xs ats), none⟩ :: r)) :: k) .nrm tm S Q = CallK E nt 46 (xs.toList.map (E.ev tm)) d r k tm S Q := e_call d 46 xs ats r rfl
theorem call47 {nt : Nat} {k : List KI} {tm : PM AV} {S : St} {Q : PostA} (d : Option Tmp) (xs : Array Operand) (ats : Array TypeId) (r : List POp) : EndsA E nt (.c (.reg (⟨d, .call (Call.mk (.value (.func 47)) xs ats), none⟩ :: r)) :: k) .nrm tm S Q = CallK E nt 47 (xs.toList.map (E.ev tm)) d r k tm S Q := e_call d 47 xs ats r rfl
theorem call48 {nt : Nat} {k : List KI} {tm : PM AV} {S : St} {Q : PostA} (d : Option Tmp) (xs : Array Operand) (ats : Array TypeId) (r : List POp) : EndsA E nt (.c (.reg (⟨d, .call (Call.mk (.value (.func 48)) xs ats), none⟩ :: r)) :: k) .nrm tm S Q = CallK E nt 48 (xs.toList.map (E.ev tm)) d r k tm S Q := e_call d 48 xs ats r rfl
theorem call49 {nt : Nat} {k : List KI} {tm : PM AV} {S : St} {Q : PostA} (d : Option Tmp) (xs : Array Operand) (ats : Array TypeId) (r : List POp) : EndsA E nt (.c (.reg (⟨d, .call (Call.mk (.value (.func 49)) xs ats), none⟩ :: r)) :: k) .nrm tm S Q = CallK E nt 49 (xs.toList.map (E.ev tm)) d r k tm S Q := e_call d 49 xs ats r rfl
theorem call50 {nt : Nat} {k : List KI} {tm : PM AV} {S : St} {Q : PostA} (d : Option Tmp) (xs : Array Operand) (ats : Array TypeId) (r : List POp) : EndsA E nt (.c (.reg (⟨d, .call (Call.mk (.value (.func 50)) xs ats), none⟩ :: r)) :: k) .nrm tm S Q = CallK E nt 50 (xs.toList.map (E.ev tm)) d r k tm S Q := e_call d 50 xs ats r rfl
theorem call51 {nt : Nat} {k : List KI} {tm : PM AV} {S : St} {Q : PostA} (d : Option Tmp) (xs : Array Operand) (ats : Array TypeId) (r : List POp) : EndsA E nt (.c (.reg (⟨d, .call (Call.mk (.value (.func 51)) xs ats), none⟩ :: r)) :: k) .nrm tm S Q = CallK E nt 51 (xs.toList.map (E.ev tm)) d r k tm S Q := e_call d 51 xs ats r rfl
theorem call52 {nt : Nat} {k : List KI} {tm : PM AV} {S : St} {Q : PostA} (d : Option Tmp) (xs : Array Operand) (ats : Array TypeId) (r : List POp) : EndsA E nt (.c (.reg (⟨d, .call (Call.mk (.value (.func 52)) xs ats), none⟩ :: r)) :: k) .nrm tm S Q = CallK E nt 52 (xs.toList.map (E.ev tm)) d r k tm S Q := e_call d 52 xs ats r rfl
theorem call53 {nt : Nat} {k : List KI} {tm : PM AV} {S : St} {Q : PostA} (d : Option Tmp) (xs : Array Operand) (ats : Array TypeId) (r : List POp) : EndsA E nt (.c (.reg (⟨d, .call (Call.mk (.value (.func 53)) xs ats), none⟩ :: r)) :: k) .nrm tm S Q = CallK E nt 53 (xs.toList.map (E.ev tm)) d r k tm S Q := e_call d 53 xs ats r rfl
theorem call54 {nt : Nat} {k : List KI} {tm : PM AV} {S : St} {Q : PostA} (d : Option Tmp) (xs : Array Operand) (ats : Array TypeId) (r : List POp) : EndsA E nt (.c (.reg (⟨d, .call (Call.mk (.value (.func 54)) xs ats), none⟩ :: r)) :: k) .nrm tm S Q = CallK E nt 54 (xs.toList.map (E.ev tm)) d r k tm S Q := e_call d 54 xs ats r rfl
theorem call55 {nt : Nat} {k : List KI} {tm : PM AV} {S : St} {Q : PostA} (d : Option Tmp) (xs : Array Operand) (ats : Array TypeId) (r : List POp) : EndsA E nt (.c (.reg (⟨d, .call (Call.mk (.value (.func 55)) xs ats), none⟩ :: r)) :: k) .nrm tm S Q = CallK E nt 55 (xs.toList.map (E.ev tm)) d r k tm S Q := e_call d 55 xs ats r rfl
theorem call56 {nt : Nat} {k : List KI} {tm : PM AV} {S : St} {Q : PostA} (d : Option Tmp) (xs : Array Operand) (ats : Array TypeId) (r : List POp) : EndsA E nt (.c (.reg (⟨d, .call (Call.mk (.value (.func 56)) xs ats), none⟩ :: r)) :: k) .nrm tm S Q = CallK E nt 56 (xs.toList.map (E.ev tm)) d r k tm S Q := e_call d 56 xs ats r rfl
theorem call57 {nt : Nat} {k : List KI} {tm : PM AV} {S : St} {Q : PostA} (d : Option Tmp) (xs : Array Operand) (ats : Array TypeId) (r : List POp) : EndsA E nt (.c (.reg (⟨d, .call (Call.mk (.value (.func 57)) xs ats), none⟩ :: r)) :: k) .nrm tm S Q = CallK E nt 57 (xs.toList.map (E.ev tm)) d r k tm S Q := e_call d 57 xs ats r rfl
theorem call58 {nt : Nat} {k : List KI} {tm : PM AV} {S : St} {Q : PostA} (d : Option Tmp) (xs : Array Operand) (ats : Array TypeId) (r : List POp) : EndsA E nt (.c (.reg (⟨d, .call (Call.mk (.value (.func 58)) xs ats), none⟩ :: r)) :: k) .nrm tm S Q = CallK E nt 58 (xs.toList.map (E.ev tm)) d r k tm S Q := e_call d 58 xs ats r rfl
theorem call59 {nt : Nat} {k : List KI} {tm : PM AV} {S : St} {Q : PostA} (d : Option Tmp) (xs : Array Operand) (ats : Array TypeId) (r : List POp) : EndsA E nt (.c (.reg (⟨d, .call (Call.mk (.value (.func 59)) xs ats), none⟩ :: r)) :: k) .nrm tm S Q = CallK E nt 59 (xs.toList.map (E.ev tm)) d r k tm S Q := e_call d 59 xs ats r rfl
theorem call60 {nt : Nat} {k : List KI} {tm : PM AV} {S : St} {Q : PostA} (d : Option Tmp) (xs : Array Operand) (ats : Array TypeId) (r : List POp) : EndsA E nt (.c (.reg (⟨d, .call (Call.mk (.value (.func 60)) xs ats), none⟩ :: r)) :: k) .nrm tm S Q = CallK E nt 60 (xs.toList.map (E.ev tm)) d r k tm S Q := e_call d 60 xs ats r rfl
theorem call61 {nt : Nat} {k : List KI} {tm : PM AV} {S : St} {Q : PostA} (d : Option Tmp) (xs : Array Operand) (ats : Array TypeId) (r : List POp) : EndsA E nt (.c (.reg (⟨d, .call (Call.mk (.value (.func 61)) xs ats), none⟩ :: r)) :: k) .nrm tm S Q = CallK E nt 61 (xs.toList.map (E.ev tm)) d r k tm S Q := e_call d 61 xs ats r rfl
theorem call63 {nt : Nat} {k : List KI} {tm : PM AV} {S : St} {Q : PostA} (d : Option Tmp) (xs : Array Operand) (ats : Array TypeId) (r : List POp) : EndsA E nt (.c (.reg (⟨d, .call (Call.mk (.value (.func 63)) xs ats), none⟩ :: r)) :: k) .nrm tm S Q = CallK E nt 63 (xs.toList.map (E.ev tm)) d r k tm S Q := e_call d 63 xs ats r rfl
theorem call64 {nt : Nat} {k : List KI} {tm : PM AV} {S : St} {Q : PostA} (d : Option Tmp) (xs : Array Operand) (ats : Array TypeId) (r : List POp) : EndsA E nt (.c (.reg (⟨d, .call (Call.mk (.value (.func 64)) xs ats), none⟩ :: r)) :: k) .nrm tm S Q = CallK E nt 64 (xs.toList.map (E.ev tm)) d r k tm S Q := e_call d 64 xs ats r rfl
theorem call65 {nt : Nat} {k : List KI} {tm : PM AV} {S : St} {Q : PostA} (d : Option Tmp) (xs : Array Operand) (ats : Array TypeId) (r : List POp) : EndsA E nt (.c (.reg (⟨d, .call (Call.mk (.value (.func 65)) xs ats), none⟩ :: r)) :: k) .nrm tm S Q = CallK E nt 65 (xs.toList.map (E.ev tm)) d r k tm S Q := e_call d 65 xs ats r rfl
theorem call66 {nt : Nat} {k : List KI} {tm : PM AV} {S : St} {Q : PostA} (d : Option Tmp) (xs : Array Operand) (ats : Array TypeId) (r : List POp) : EndsA E nt (.c (.reg (⟨d, .call (Call.mk (.value (.func 66)) xs ats), none⟩ :: r)) :: k) .nrm tm S Q = CallK E nt 66 (xs.toList.map (E.ev tm)) d r k tm S Q := e_call d 66 xs ats r rfl
theorem call67 {nt : Nat} {k : List KI} {tm : PM AV} {S : St} {Q : PostA} (d : Option Tmp) (xs : Array Operand) (ats : Array TypeId) (r : List POp) : EndsA E nt (.c (.reg (⟨d, .call (Call.mk (.value (.func 67)) xs ats), none⟩ :: r)) :: k) .nrm tm S Q = CallK E nt 67 (xs.toList.map (E.ev tm)) d r k tm S Q := e_call d 67 xs ats r rfl
theorem call68 {nt : Nat} {k : List KI} {tm : PM AV} {S : St} {Q : PostA} (d : Option Tmp) (xs : Array Operand) (ats : Array TypeId) (r : List POp) : EndsA E nt (.c (.reg (⟨d, .call (Call.mk (.value (.func 68)) xs ats), none⟩ :: r)) :: k) .nrm tm S Q = CallK E nt 68 (xs.toList.map (E.ev tm)) d r k tm S Q := e_call d 68 xs ats r rfl
theorem call69 {nt : Nat} {k : List KI} {tm : PM AV} {S : St} {Q : PostA} (d : Option Tmp) (xs : Array Operand) (ats : Array TypeId) (r : List POp) : EndsA E nt (.c (.reg (⟨d, .call (Call.mk (.value (.func 69)) xs ats), none⟩ :: r)) :: k) .nrm tm S Q = CallK E nt 69 (xs.toList.map (E.ev tm)) d r k tm S Q := e_call d 69 xs ats r rfl
theorem call70 {nt : Nat} {k : List KI} {tm : PM AV} {S : St} {Q : PostA} (d : Option Tmp) (xs : Array Operand) (ats : Array TypeId) (r : List POp) : EndsA E nt (.c (.reg (⟨d, .call (Call.mk (.value (.func 70)) xs ats), none⟩ :: r)) :: k) .nrm tm S Q = CallK E nt 70 (xs.toList.map (E.ev tm)) d r k tm S Q := e_call d 70 xs ats r rfl
theorem call71 {nt : Nat} {k : List KI} {tm : PM AV} {S : St} {Q : PostA} (d : Option Tmp) (xs : Array Operand) (ats : Array TypeId) (r : List POp) : EndsA E nt (.c (.reg (⟨d, .call (Call.mk (.value (.func 71)) xs ats), none⟩ :: r)) :: k) .nrm tm S Q = CallK E nt 71 (xs.toList.map (E.ev tm)) d r k tm S Q := e_call d 71 xs ats r rfl
theorem call72 {nt : Nat} {k : List KI} {tm : PM AV} {S : St} {Q : PostA} (d : Option Tmp) (xs : Array Operand) (ats : Array TypeId) (r : List POp) : EndsA E nt (.c (.reg (⟨d, .call (Call.mk (.value (.func 72)) xs ats), none⟩ :: r)) :: k) .nrm tm S Q = CallK E nt 72 (xs.toList.map (E.ev tm)) d r k tm S Q := e_call d 72 xs ats r rfl
theorem call73 {nt : Nat} {k : List KI} {tm : PM AV} {S : St} {Q : PostA} (d : Option Tmp) (xs : Array Operand) (ats : Array TypeId) (r : List POp) : EndsA E nt (.c (.reg (⟨d, .call (Call.mk (.value (.func 73)) xs ats), none⟩ :: r)) :: k) .nrm tm S Q = CallK E nt 73 (xs.toList.map (E.ev tm)) d r k tm S Q := e_call d 73 xs ats r rfl
theorem call74 {nt : Nat} {k : List KI} {tm : PM AV} {S : St} {Q : PostA} (d : Option Tmp) (xs : Array Operand) (ats : Array TypeId) (r : List POp) : EndsA E nt (.c (.reg (⟨d, .call (Call.mk (.value (.func 74)) xs ats), none⟩ :: r)) :: k) .nrm tm S Q = CallK E nt 74 (xs.toList.map (E.ev tm)) d r k tm S Q := e_call d 74 xs ats r rfl
theorem call75 {nt : Nat} {k : List KI} {tm : PM AV} {S : St} {Q : PostA} (d : Option Tmp) (xs : Array Operand) (ats : Array TypeId) (r : List POp) : EndsA E nt (.c (.reg (⟨d, .call (Call.mk (.value (.func 75)) xs ats), none⟩ :: r)) :: k) .nrm tm S Q = CallK E nt 75 (xs.toList.map (E.ev tm)) d r k tm S Q := e_call d 75 xs ats r rfl
theorem call76 {nt : Nat} {k : List KI} {tm : PM AV} {S : St} {Q : PostA} (d : Option Tmp) (xs : Array Operand) (ats : Array TypeId) (r : List POp) : EndsA E nt (.c (.reg (⟨d, .call (Call.mk (.value (.func 76)) xs ats), none⟩ :: r)) :: k) .nrm tm S Q = CallK E nt 76 (xs.toList.map (E.ev tm)) d r k tm S Q := e_call d 76 xs ats r rfl
theorem call77 {nt : Nat} {k : List KI} {tm : PM AV} {S : St} {Q : PostA} (d : Option Tmp) (xs : Array Operand) (ats : Array TypeId) (r : List POp) : EndsA E nt (.c (.reg (⟨d, .call (Call.mk (.value (.func 77)) xs ats), none⟩ :: r)) :: k) .nrm tm S Q = CallK E nt 77 (xs.toList.map (E.ev tm)) d r k tm S Q := e_call d 77 xs ats r rfl
theorem call78 {nt : Nat} {k : List KI} {tm : PM AV} {S : St} {Q : PostA} (d : Option Tmp) (xs : Array Operand) (ats : Array TypeId) (r : List POp) : EndsA E nt (.c (.reg (⟨d, .call (Call.mk (.value (.func 78)) xs ats), none⟩ :: r)) :: k) .nrm tm S Q = CallK E nt 78 (xs.toList.map (E.ev tm)) d r k tm S Q := e_call d 78 xs ats r rfl
theorem call79 {nt : Nat} {k : List KI} {tm : PM AV} {S : St} {Q : PostA} (d : Option Tmp) (xs : Array Operand) (ats : Array TypeId) (r : List POp) : EndsA E nt (.c (.reg (⟨d, .call (Call.mk (.value (.func 79)) xs ats), none⟩ :: r)) :: k) .nrm tm S Q = CallK E nt 79 (xs.toList.map (E.ev tm)) d r k tm S Q := e_call d 79 xs ats r rfl
theorem call80 {nt : Nat} {k : List KI} {tm : PM AV} {S : St} {Q : PostA} (d : Option Tmp) (xs : Array Operand) (ats : Array TypeId) (r : List POp) : EndsA E nt (.c (.reg (⟨d, .call (Call.mk (.value (.func 80)) xs ats), none⟩ :: r)) :: k) .nrm tm S Q = CallK E nt 80 (xs.toList.map (E.ev tm)) d r k tm S Q := e_call d 80 xs ats r rfl
theorem call81 {nt : Nat} {k : List KI} {tm : PM AV} {S : St} {Q : PostA} (d : Option Tmp) (xs : Array Operand) (ats : Array TypeId) (r : List POp) : EndsA E nt (.c (.reg (⟨d, .call (Call.mk (.value (.func 81)) xs ats), none⟩ :: r)) :: k) .nrm tm S Q = CallK E nt 81 (xs.toList.map (E.ev tm)) d r k tm S Q := e_call d 81 xs ats r rfl
theorem call82 {nt : Nat} {k : List KI} {tm : PM AV} {S : St} {Q : PostA} (d : Option Tmp) (xs : Array Operand) (ats : Array TypeId) (r : List POp) : EndsA E nt (.c (.reg (⟨d, .call (Call.mk (.value (.func 82)) xs ats), none⟩ :: r)) :: k) .nrm tm S Q = CallK E nt 82 (xs.toList.map (E.ev tm)) d r k tm S Q := e_call d 82 xs ats r rfl
theorem call83 {nt : Nat} {k : List KI} {tm : PM AV} {S : St} {Q : PostA} (d : Option Tmp) (xs : Array Operand) (ats : Array TypeId) (r : List POp) : EndsA E nt (.c (.reg (⟨d, .call (Call.mk (.value (.func 83)) xs ats), none⟩ :: r)) :: k) .nrm tm S Q = CallK E nt 83 (xs.toList.map (E.ev tm)) d r k tm S Q := e_call d 83 xs ats r rfl
theorem call84 {nt : Nat} {k : List KI} {tm : PM AV} {S : St} {Q : PostA} (d : Option Tmp) (xs : Array Operand) (ats : Array TypeId) (r : List POp) : EndsA E nt (.c (.reg (⟨d, .call (Call.mk (.value (.func 84)) xs ats), none⟩ :: r)) :: k) .nrm tm S Q = CallK E nt 84 (xs.toList.map (E.ev tm)) d r k tm S Q := e_call d 84 xs ats r rfl
/-! hindsight/hindsightlaw16.InfoBack -/
def r3_0 : List POp := [
  ⟨some 2, .box 25 (.tmp 0), none⟩,
  ⟨some 4, .assign (.const (.bool false)), none⟩]
def r3_1 : List POp := [
  ⟨some 10, .call { callee := .value (.func 7), args := #[], argTypes := #[] }, none⟩,
  ⟨some 11, .unOp .not 4 (.tmp 10), none⟩]
def r3_2 : List POp := [
  ⟨some 4, .assign (.const (.bool false)), none⟩]
def r3_3 : List POp := [
  ⟨some 12, .load 25 (.tmp 2), none⟩,
  ⟨some 13, .call { callee := .value (.func 8), args := #[(.tmp 12)], argTypes := #[25] }, none⟩,
  ⟨some 14, .move (.tmp 13), none⟩,
  ⟨some 15, .load 25 (.tmp 2), some (14, false)⟩,
  ⟨some 16, .call { callee := .value (.func 9), args := #[(.tmp 15)], argTypes := #[25] }, some (14, false)⟩,
  ⟨some 17, .unOp .not 4 (.tmp 16), some (14, false)⟩,
  ⟨some 18, .pick (.tmp 14) (.const (.bool true)) (.tmp 17), none⟩]
def r3_4 : List POp := [
  ⟨some 4, .assign (.const (.bool true)), none⟩]
def r3_5 : List POp := [
  ⟨some 19, .load 25 (.tmp 2), none⟩,
  ⟨some 20, .call { callee := .value (.func 10), args := #[(.tmp 19)], argTypes := #[25] }, none⟩,
  ⟨some 5, .assign (.tmp 20), none⟩]
def r3_6 : List POp := [
  ⟨some 22, .move (.tmp 5), none⟩,
  ⟨some 23, .call { callee := .value (.func 11), args := #[(.tmp 22)], argTypes := #[28] }, none⟩,
  ⟨some 21, .move (.tmp 23), none⟩,
  ⟨some 24, .extract (.tmp 21) 0, none⟩,
  ⟨some 25, .extract (.tmp 21) 1, none⟩,
  ⟨some 6, .alloc 25, none⟩,
  ⟨none, .store 25 (.tmp 6) (.tmp 24), none⟩,
  ⟨some 7, .assign (.tmp 25), none⟩]
def r3_7 : List POp := [
  ⟨some 26, .move (.tmp 7), none⟩,
  ⟨some 27, .binOp .neq 30 (.tmp 26) (.const (.int .i64 0)) 30, none⟩,
  ⟨some 28, .move (.tmp 27), none⟩,
  ⟨some 29, .load 25 (.tmp 6), some (28, false)⟩,
  ⟨some 30, .call { callee := .value (.func 13), args := #[(.tmp 29)], argTypes := #[25] }, some (28, false)⟩,
  ⟨some 31, .load 25 (.tmp 2), some (28, false)⟩]
def r3_8 : List POp := [
  ⟨some 32, .call { callee := .value (.func 13), args := #[(.tmp 31)], argTypes := #[25] }, some (28, false)⟩,
  ⟨some 33, .call { callee := .value (.func 12), args := #[(.tmp 30), (.tmp 32)], argTypes := #[37, 37] }, some (28, false)⟩,
  ⟨some 34, .unOp .not 4 (.tmp 33), some (28, false)⟩,
  ⟨some 35, .pick (.tmp 28) (.const (.bool true)) (.tmp 34), none⟩]
noncomputable def d3_0 : Array Oper := match Try.f3.body.map (comp E Try.f3.ntmps) with | some p => p.draws.getD 0 #[] | none => #[]
theorem draw3_0 : DrawC E 53 d3_0 10 6 r3_7 r3_8 [(.tmp 2)] := ⟨by kernel_rfl, by decide, by kernel_rfl, by kernel_rfl, by kernel_rfl, by kernel_rfl, by kernel_rfl⟩
def r3_9 : List POp := [
  ⟨some 4, .assign (.const (.bool false)), none⟩]
def r3_10 : List POp := [
  ⟨some 36, .move (.tmp 1), none⟩,
  ⟨some 37, .binOp .lss 3 (.tmp 36) (.const (.int .i64 0)) 3, none⟩,
  ⟨some 38, .move (.tmp 37), none⟩,
  ⟨some 39, .move (.tmp 1), some (38, false)⟩,
  ⟨some 40, .move (.tmp 5), some (38, false)⟩,
  ⟨some 41, .call { callee := .builtin .len, args := #[(.tmp 40)], argTypes := #[28] }, some (38, false)⟩,
  ⟨some 42, .binOp .geq 3 (.tmp 39) (.tmp 41) 3, some (38, false)⟩,
  ⟨some 43, .pick (.tmp 38) (.const (.bool true)) (.tmp 42), none⟩]
def r3_11 : List POp := [
  ⟨some 4, .assign (.const (.bool true)), none⟩]
def r3_12 : List POp := [
  ⟨some 45, .move (.tmp 5), none⟩,
  ⟨some 46, .move (.tmp 1), none⟩,
  ⟨some 47, .slice 28 (.tmp 45) none (some (.tmp 46)) none, none⟩,
  ⟨some 48, .call { callee := .value (.func 11), args := #[(.tmp 47)], argTypes := #[28] }, none⟩,
  ⟨some 44, .move (.tmp 48), none⟩,
  ⟨some 49, .extract (.tmp 44) 0, none⟩,
  ⟨some 50, .extract (.tmp 44) 1, none⟩,
  ⟨some 8, .alloc 25, none⟩,
  ⟨none, .store 25 (.tmp 8) (.tmp 49), none⟩,
  ⟨some 9, .assign (.tmp 50), none⟩]
def r3_13 : List POp := [
  ⟨some 51, .move (.tmp 9), none⟩,
  ⟨some 52, .binOp .eql 30 (.tmp 51) (.const (.int .i64 3)) 30, none⟩,
  ⟨some 4, .assign (.tmp 52), none⟩]
noncomputable def p3 : PC := (.seq (.reg r3_0) (.seq (.seq (.reg r3_1) (.cond (.tmp 11) (.seq (.reg r3_2) .ret) .skip)) (.seq (.seq (.reg r3_3) (.cond (.tmp 18) (.seq (.reg r3_4) .ret) .skip)) (.seq (.reg r3_5) (.seq (.reg r3_6) (.seq (.seq (.draw d3_0) (.cond (.tmp 35) (.seq (.reg r3_9) .ret) .skip)) (.seq (.seq (.reg r3_10) (.cond (.tmp 43) (.seq (.reg r3_11) .ret) .skip)) (.seq (.reg r3_12) (.seq (.reg r3_13) .ret)))))))))
theorem comp3 : (Try.f3.body.map (comp E Try.f3.ntmps)) = some p3 := by kernel_rfl
theorem ev3 {args : List AV} {S : St} {P : AV → St → Prop} (hn : Nat.ble args.length 53 = true) (h : EndsA E 53 [.c p3] .nrm (initTm 0 args .leaf) S (RetQ E [.tmp 4] P)) : ∃ r S', EvA E 3 args S r S' ∧ P r S' := ev_ends (fn := Try.f3) (by kernel_rfl) rfl comp3 (by kernel_rfl) (by kernel_rfl) hn h
/-! hindsight/hindsightlaw16.InfoPuts -/
def r4_0 : List POp := [
  ⟨some 2, .box 25 (.tmp 0), none⟩,
  ⟨some 3, .box 25 (.tmp 1), none⟩,
  ⟨some 4, .assign (.const (.bool false)), none⟩]
def r4_1 : List POp := [
  ⟨some 8, .call { callee := .value (.func 7), args := #[], argTypes := #[] }, none⟩,
  ⟨some 9, .unOp .not 4 (.tmp 8), none⟩]
def r4_2 : List POp := [
  ⟨some 4, .assign (.const (.bool false)), none⟩]
def r4_3 : List POp := [
  ⟨some 10, .load 25 (.tmp 2), none⟩,
  ⟨some 11, .call { callee := .value (.func 8), args := #[(.tmp 10)], argTypes := #[25] }, none⟩,
  ⟨some 12, .move (.tmp 11), none⟩,
  ⟨some 13, .load 25 (.tmp 3), some (12, false)⟩,
  ⟨some 14, .call { callee := .value (.func 8), args := #[(.tmp 13)], argTypes := #[25] }, some (12, false)⟩,
  ⟨some 15, .pick (.tmp 12) (.const (.bool true)) (.tmp 14), none⟩,
  ⟨some 16, .move (.tmp 15), none⟩,
  ⟨some 17, .load 25 (.tmp 2), some (16, false)⟩,
  ⟨some 18, .call { callee := .value (.func 9), args := #[(.tmp 17)], argTypes := #[25] }, some (16, false)⟩,
  ⟨some 19, .unOp .not 4 (.tmp 18), some (16, false)⟩,
  ⟨some 20, .pick (.tmp 16) (.const (.bool true)) (.tmp 19), none⟩,
  ⟨some 21, .move (.tmp 20), none⟩,
  ⟨some 22, .load 25 (.tmp 3), some (21, false)⟩,
  ⟨some 23, .call { callee := .value (.func 9), args := #[(.tmp 22)], argTypes := #[25] }, some (21, false)⟩,
  ⟨some 24, .unOp .not 4 (.tmp 23), some (21, false)⟩,
  ⟨some 25, .pick (.tmp 21) (.const (.bool true)) (.tmp 24), none⟩]
def r4_4 : List POp := [
  ⟨some 4, .assign (.const (.bool true)), none⟩]
def r4_5 : List POp := [
  ⟨some 26, .fieldAddr 25 (.tmp 2) 0, none⟩,
  ⟨some 27, .load 22 (.tmp 26), none⟩,
  ⟨some 28, .call { callee := .builtin .len, args := #[(.tmp 27)], argTypes := #[22] }, none⟩,
  ⟨some 29, .fieldAddr 25 (.tmp 3) 0, none⟩,
  ⟨some 30, .load 22 (.tmp 29), none⟩,
  ⟨some 31, .call { callee := .builtin .len, args := #[(.tmp 30)], argTypes := #[22] }, none⟩,
  ⟨some 32, .binOp .eql 3 (.tmp 28) (.tmp 31) 3, none⟩,
  ⟨some 33, .move (.tmp 32), none⟩,
  ⟨some 34, .fieldAddr 25 (.tmp 2) 1, some (33, true)⟩,
  ⟨some 35, .load 23 (.tmp 34), some (33, true)⟩,
  ⟨some 36, .call { callee := .builtin .len, args := #[(.tmp 35)], argTypes := #[23] }, some (33, true)⟩,
  ⟨some 37, .fieldAddr 25 (.tmp 3) 1, some (33, true)⟩,
  ⟨some 38, .load 23 (.tmp 37), some (33, true)⟩,
  ⟨some 39, .call { callee := .builtin .len, args := #[(.tmp 38)], argTypes := #[23] }, some (33, true)⟩,
  ⟨some 40, .binOp .eql 3 (.tmp 36) (.tmp 39) 3, some (33, true)⟩,
  ⟨some 41, .pick (.tmp 33) (.tmp 40) (.const (.bool false)), none⟩,
  ⟨some 5, .assign (.tmp 41), none⟩]
def r4_6 : List POp := [
  ⟨some 6, .assign (.const (.int .i64 0)), none⟩]
def r4_7 : List POp := [
  ⟨some 42, .move (.tmp 5), none⟩,
  ⟨some 43, .move (.tmp 42), none⟩,
  ⟨some 44, .move (.tmp 6), some (43, true)⟩,
  ⟨some 45, .fieldAddr 25 (.tmp 2) 0, some (43, true)⟩,
  ⟨some 46, .load 22 (.tmp 45), some (43, true)⟩,
  ⟨some 47, .call { callee := .builtin .len, args := #[(.tmp 46)], argTypes := #[22] }, some (43, true)⟩,
  ⟨some 48, .binOp .lss 3 (.tmp 44) (.tmp 47) 3, some (43, true)⟩,
  ⟨some 49, .pick (.tmp 43) (.tmp 48) (.const (.bool false)), none⟩]
def r4_8 : List POp := [
  ⟨some 52, .fieldAddr 25 (.tmp 2) 0, none⟩,
  ⟨some 53, .load 22 (.tmp 52), none⟩,
  ⟨some 54, .move (.tmp 6), none⟩,
  ⟨some 55, .indexAddr 22 (.tmp 53) (.tmp 54), none⟩,
  ⟨some 56, .load 41 (.tmp 55), none⟩,
  ⟨some 57, .fieldAddr 25 (.tmp 3) 0, none⟩,
  ⟨some 58, .load 22 (.tmp 57), none⟩,
  ⟨some 59, .move (.tmp 6), none⟩,
  ⟨some 60, .indexAddr 22 (.tmp 58) (.tmp 59), none⟩,
  ⟨some 61, .load 41 (.tmp 60), none⟩,
  ⟨some 62, .binOp .eql 41 (.tmp 56) (.tmp 61) 41, none⟩,
  ⟨some 5, .assign (.tmp 62), none⟩]
def r4_9 : List POp := [
  ⟨some 50, .move (.tmp 6), none⟩,
  ⟨some 51, .binOp .add 3 (.tmp 50) (.const (.int .i64 1)) 3, none⟩,
  ⟨some 6, .assign (.tmp 51), none⟩]
noncomputable def b4_10 : PC := (.seq (.seq (.reg r4_7) (.cond (.tmp 49) .skip (.exit 0))) (.seq (.block 1 (.regD 12 r4_8)) (.reg r4_9)))
def r4_11 : List POp := [
  ⟨some 7, .assign (.const (.int .i64 0)), none⟩]
def r4_12 : List POp := [
  ⟨some 63, .move (.tmp 5), none⟩,
  ⟨some 64, .move (.tmp 63), none⟩,
  ⟨some 65, .move (.tmp 7), some (64, true)⟩,
  ⟨some 66, .fieldAddr 25 (.tmp 2) 1, some (64, true)⟩,
  ⟨some 67, .load 23 (.tmp 66), some (64, true)⟩,
  ⟨some 68, .call { callee := .builtin .len, args := #[(.tmp 67)], argTypes := #[23] }, some (64, true)⟩,
  ⟨some 69, .binOp .lss 3 (.tmp 65) (.tmp 68) 3, some (64, true)⟩,
  ⟨some 70, .pick (.tmp 64) (.tmp 69) (.const (.bool false)), none⟩]
def r4_13 : List POp := [
  ⟨some 73, .fieldAddr 25 (.tmp 2) 1, none⟩,
  ⟨some 74, .load 23 (.tmp 73), none⟩,
  ⟨some 75, .move (.tmp 7), none⟩,
  ⟨some 76, .indexAddr 23 (.tmp 74) (.tmp 75), none⟩,
  ⟨some 77, .load 43 (.tmp 76), none⟩,
  ⟨some 78, .fieldAddr 25 (.tmp 3) 1, none⟩,
  ⟨some 79, .load 23 (.tmp 78), none⟩,
  ⟨some 80, .move (.tmp 7), none⟩,
  ⟨some 81, .indexAddr 23 (.tmp 79) (.tmp 80), none⟩,
  ⟨some 82, .load 43 (.tmp 81), none⟩,
  ⟨some 83, .binOp .eql 43 (.tmp 77) (.tmp 82) 43, none⟩,
  ⟨some 5, .assign (.tmp 83), none⟩]
def r4_14 : List POp := [
  ⟨some 71, .move (.tmp 7), none⟩,
  ⟨some 72, .binOp .add 3 (.tmp 71) (.const (.int .i64 1)) 3, none⟩,
  ⟨some 7, .assign (.tmp 72), none⟩]
noncomputable def b4_15 : PC := (.seq (.seq (.reg r4_12) (.cond (.tmp 70) .skip (.exit 2))) (.seq (.block 3 (.regD 12 r4_13)) (.reg r4_14)))
def r4_16 : List POp := [
  ⟨some 84, .load 25 (.tmp 2), none⟩,
  ⟨some 85, .call { callee := .value (.func 10), args := #[(.tmp 84)], argTypes := #[25] }, none⟩,
  ⟨some 86, .convert 28 9 (.tmp 85), none⟩,
  ⟨some 87, .load 25 (.tmp 3), none⟩,
  ⟨some 88, .call { callee := .value (.func 10), args := #[(.tmp 87)], argTypes := #[25] }, none⟩]
def r4_17 : List POp := [
  ⟨some 89, .convert 28 9 (.tmp 88), none⟩,
  ⟨some 90, .binOp .eql 9 (.tmp 86) (.tmp 89) 9, none⟩,
  ⟨some 91, .move (.tmp 5), none⟩,
  ⟨some 92, .binOp .eql 4 (.tmp 90) (.tmp 91) 4, none⟩,
  ⟨some 4, .assign (.tmp 92), none⟩]
noncomputable def d4_0 : Array Oper := match Try.f4.body.map (comp E Try.f4.ntmps) with | some p => p.draws.getD 0 #[] | none => #[]
theorem draw4_0 : DrawC E 93 d4_0 10 5 r4_16 r4_17 [(.tmp 85), (.tmp 3)] := ⟨by kernel_rfl, by decide, by kernel_rfl, by kernel_rfl, by kernel_rfl, by kernel_rfl, by kernel_rfl⟩
noncomputable def p4 : PC := (.seq (.reg r4_0) (.seq (.seq (.reg r4_1) (.cond (.tmp 9) (.seq (.reg r4_2) .ret) .skip)) (.seq (.seq (.reg r4_3) (.cond (.tmp 25) (.seq (.reg r4_4) .ret) .skip)) (.seq (.reg r4_5) (.seq (.seq (.reg r4_6) (.block 0 (.loop b4_10))) (.seq (.seq (.reg r4_11) (.block 2 (.loop b4_15))) (.seq (.draw d4_0) .ret)))))))
theorem comp4 : (Try.f4.body.map (comp E Try.f4.ntmps)) = some p4 := by kernel_rfl
theorem ev4 {args : List AV} {S : St} {P : AV → St → Prop} (hn : Nat.ble args.length 93 = true) (h : EndsA E 93 [.c p4] .nrm (initTm 0 args .leaf) S (RetQ E [.tmp 4] P)) : ∃ r S', EvA E 4 args S r S' ∧ P r S' := ev_ends (fn := Try.f4) (by kernel_rfl) rfl comp4 (by kernel_rfl) (by kernel_rfl) hn h
/-! hindsight/hindsightlaw16.heavy -/
def r8_0 : List POp := [
  ⟨some 1, .box 25 (.tmp 0), none⟩,
  ⟨some 2, .assign (.const (.bool false)), none⟩]
def r8_1 : List POp := [
  ⟨some 4, .fieldAddr 25 (.tmp 1) 0, none⟩,
  ⟨some 5, .load 22 (.tmp 4), none⟩,
  ⟨some 6, .call { callee := .builtin .len, args := #[(.tmp 5)], argTypes := #[22] }, none⟩,
  ⟨some 7, .binOp .gtr 3 (.tmp 6) (.const (.int .i64 40)) 3, none⟩,
  ⟨some 8, .move (.tmp 7), none⟩,
  ⟨some 9, .fieldAddr 25 (.tmp 1) 1, some (8, false)⟩,
  ⟨some 10, .load 23 (.tmp 9), some (8, false)⟩,
  ⟨some 11, .call { callee := .builtin .len, args := #[(.tmp 10)], argTypes := #[23] }, some (8, false)⟩,
  ⟨some 12, .binOp .gtr 3 (.tmp 11) (.const (.int .i64 40)) 3, some (8, false)⟩,
  ⟨some 13, .pick (.tmp 8) (.const (.bool true)) (.tmp 12), none⟩]
def r8_2 : List POp := [
  ⟨some 2, .assign (.const (.bool true)), none⟩]
def r8_3 : List POp := [
  ⟨some 3, .assign (.const (.int .i64 0)), none⟩]
def r8_4 : List POp := [
  ⟨some 14, .move (.tmp 3), none⟩,
  ⟨some 15, .fieldAddr 25 (.tmp 1) 1, none⟩,
  ⟨some 16, .load 23 (.tmp 15), none⟩,
  ⟨some 17, .call { callee := .builtin .len, args := #[(.tmp 16)], argTypes := #[23] }, none⟩,
  ⟨some 18, .binOp .lss 3 (.tmp 14) (.tmp 17) 3, none⟩]
def r8_5 : List POp := [
  ⟨some 21, .fieldAddr 25 (.tmp 1) 1, none⟩,
  ⟨some 22, .load 23 (.tmp 21), none⟩,
  ⟨some 23, .move (.tmp 3), none⟩,
  ⟨some 24, .indexAddr 23 (.tmp 22) (.tmp 23), none⟩,
  ⟨some 25, .fieldAddr 43 (.tmp 24) 2, none⟩,
  ⟨some 26, .load 9 (.tmp 25), none⟩,
  ⟨some 27, .call { callee := .builtin .len, args := #[(.tmp 26)], argTypes := #[9] }, none⟩,
  ⟨some 28, .binOp .gtr 3 (.tmp 27) (.const (.int .i64 250)) 3, none⟩,
  ⟨some 29, .move (.tmp 28), none⟩,
  ⟨some 30, .fieldAddr 25 (.tmp 1) 1, some (29, false)⟩,
  ⟨some 31, .load 23 (.tmp 30), some (29, false)⟩,
  ⟨some 32, .move (.tmp 3), some (29, false)⟩,
  ⟨some 33, .indexAddr 23 (.tmp 31) (.tmp 32), some (29, false)⟩,
  ⟨some 34, .fieldAddr 43 (.tmp 33) 5, some (29, false)⟩,
  ⟨some 35, .load 9 (.tmp 34), some (29, false)⟩,
  ⟨some 36, .call { callee := .builtin .len, args := #[(.tmp 35)], argTypes := #[9] }, some (29, false)⟩,
  ⟨some 37, .binOp .gtr 3 (.tmp 36) (.const (.int .i64 300)) 3, some (29, false)⟩,
  ⟨some 38, .pick (.tmp 29) (.const (.bool true)) (.tmp 37), none⟩]
def r8_6 : List POp := [
  ⟨some 2, .assign (.const (.bool true)), none⟩]
def r8_7 : List POp := [
  ⟨some 19, .move (.tmp 3), none⟩,
  ⟨some 20, .binOp .add 3 (.tmp 19) (.const (.int .i64 1)) 3, none⟩,
  ⟨some 3, .assign (.tmp 20), none⟩]
noncomputable def b8_8 : PC := (.seq (.seq (.reg r8_4) (.cond (.tmp 18) .skip (.exit 0))) (.seq (.block 1 (.seq (.reg r8_5) (.cond (.tmp 38) (.seq (.reg r8_6) .ret) .skip))) (.reg r8_7)))
def r8_9 : List POp := [
  ⟨some 2, .assign (.const (.bool false)), none⟩]
noncomputable def p8 : PC := (.seq (.reg r8_0) (.seq (.seq (.reg r8_1) (.cond (.tmp 13) (.seq (.reg r8_2) .ret) .skip)) (.seq (.seq (.reg r8_3) (.block 0 (.loop b8_8))) (.seq (.reg r8_9) .ret))))
theorem comp8 : (Try.f8.body.map (comp E Try.f8.ntmps)) = some p8 := by kernel_rfl
theorem ev8 {args : List AV} {S : St} {P : AV → St → Prop} (hn : Nat.ble args.length 39 = true) (h : EndsA E 39 [.c p8] .nrm (initTm 0 args .leaf) S (RetQ E [.tmp 2] P)) : ∃ r S', EvA E 8 args S r S' ∧ P r S' := ev_ends (fn := Try.f8) (by kernel_rfl) rfl comp8 (by kernel_rfl) (by kernel_rfl) hn h
/-! hindsight/info.Good -/
def r9_0 : List POp := [
  ⟨some 1, .box 25 (.tmp 0), none⟩,
  ⟨some 2, .assign (.const (.bool false)), none⟩]
def r9_1 : List POp := [
  ⟨some 6, .fieldAddr 25 (.tmp 1) 0, none⟩,
  ⟨some 7, .load 22 (.tmp 6), none⟩,
  ⟨some 8, .call { callee := .value (.func 24), args := #[(.tmp 7)], argTypes := #[22] }, none⟩,
  ⟨some 9, .unOp .not 4 (.tmp 8), none⟩,
  ⟨some 10, .move (.tmp 9), none⟩,
  ⟨some 11, .fieldAddr 25 (.tmp 1) 1, some (10, false)⟩,
  ⟨some 12, .load 23 (.tmp 11), some (10, false)⟩,
  ⟨some 13, .call { callee := .builtin .len, args := #[(.tmp 12)], argTypes := #[23] }, some (10, false)⟩,
  ⟨some 14, .binOp .gtr 3 (.tmp 13) (.const (.int .i64 10000)) 3, some (10, false)⟩,
  ⟨some 15, .pick (.tmp 10) (.const (.bool true)) (.tmp 14), none⟩]
def r9_2 : List POp := [
  ⟨some 2, .assign (.const (.bool false)), none⟩]
def r9_3 : List POp := [
  ⟨some 16, .fieldAddr 25 (.tmp 1) 1, none⟩,
  ⟨some 17, .load 23 (.tmp 16), none⟩,
  ⟨some 18, .call { callee := .value (.func 25), args := #[(.tmp 17)], argTypes := #[23] }, none⟩,
  ⟨some 3, .assign (.tmp 18), none⟩]
def r9_4 : List POp := [
  ⟨some 19, .move (.tmp 3), none⟩,
  ⟨some 20, .call { callee := .value (.func 26), args := #[(.tmp 19), (.func 27)], argTypes := #[23, 69] }, none⟩]
def r9_5 : List POp := [
  ⟨some 21, .move (.tmp 3), none⟩,
  ⟨some 22, .call { callee := .builtin .len, args := #[(.tmp 21)], argTypes := #[23] }, none⟩,
  ⟨some 23, .move (.const (.int .i64 0)), none⟩]
def r9_6 : List POp := [
  ⟨some 24, .binOp .lss 3 (.tmp 23) (.tmp 22) 3, none⟩]
def r9_7 : List POp := [
  ⟨some 25, .move (.tmp 23), none⟩,
  ⟨some 26, .indexAddr 23 (.tmp 21) (.tmp 23), none⟩,
  ⟨some 27, .load 43 (.tmp 26), none⟩,
  ⟨some 5, .alloc 43, none⟩,
  ⟨some 4, .assign (.tmp 25), none⟩,
  ⟨none, .store 43 (.tmp 5) (.tmp 27), none⟩]
def r9_8 : List POp := [
  ⟨some 28, .load 43 (.tmp 5), none⟩,
  ⟨some 29, .call { callee := .value (.func 31), args := #[(.tmp 28)], argTypes := #[43] }, none⟩,
  ⟨some 30, .unOp .not 4 (.tmp 29), none⟩,
  ⟨some 31, .move (.tmp 30), none⟩,
  ⟨some 32, .move (.tmp 4), some (31, false)⟩,
  ⟨some 33, .binOp .gtr 3 (.tmp 32) (.const (.int .i64 0)) 3, some (31, false)⟩,
  ⟨some 34, .move (.tmp 33), some (31, false)⟩,
  ⟨some 35, .move (.tmp 3), some (34, true)⟩,
  ⟨some 36, .move (.tmp 4), some (34, true)⟩,
  ⟨some 37, .binOp .sub 3 (.tmp 36) (.const (.int .i64 1)) 3, some (34, true)⟩,
  ⟨some 38, .indexAddr 23 (.tmp 35) (.tmp 37), some (34, true)⟩,
  ⟨some 39, .fieldAddr 43 (.tmp 38) 2, some (34, true)⟩,
  ⟨some 40, .load 9 (.tmp 39), some (34, true)⟩,
  ⟨some 41, .fieldAddr 43 (.tmp 5) 2, some (34, true)⟩,
  ⟨some 42, .load 9 (.tmp 41), some (34, true)⟩,
  ⟨some 43, .binOp .eql 9 (.tmp 40) (.tmp 42) 9, some (34, true)⟩,
  ⟨some 44, .pick (.tmp 34) (.tmp 43) (.const (.bool false)), some (31, false)⟩,
  ⟨some 45, .move (.tmp 44), some (31, false)⟩,
  ⟨some 46, .move (.tmp 3), some (45, true)⟩,
  ⟨some 47, .move (.tmp 4), some (45, true)⟩,
  ⟨some 48, .binOp .sub 3 (.tmp 47) (.const (.int .i64 1)) 3, some (45, true)⟩,
  ⟨some 49, .indexAddr 23 (.tmp 46) (.tmp 48), some (45, true)⟩,
  ⟨some 50, .fieldAddr 43 (.tmp 49) 1, some (45, true)⟩,
  ⟨some 51, .load 3 (.tmp 50), some (45, true)⟩,
  ⟨some 52, .fieldAddr 43 (.tmp 5) 0, some (45, true)⟩,
  ⟨some 53, .load 3 (.tmp 52), some (45, true)⟩,
  ⟨some 54, .binOp .gtr 3 (.tmp 51) (.tmp 53) 3, some (45, true)⟩,
  ⟨some 55, .pick (.tmp 45) (.tmp 54) (.const (.bool false)), some (31, false)⟩,
  ⟨some 56, .pick (.tmp 31) (.const (.bool true)) (.tmp 55), none⟩]
def r9_9 : List POp := [
  ⟨some 2, .assign (.const (.bool false)), none⟩]
def r9_10 : List POp := [
  ⟨some 57, .binOp .add 3 (.tmp 23) (.const (.int .i64 1)) 3, none⟩,
  ⟨some 23, .move (.tmp 57), none⟩]
noncomputable def b9_11 : PC := (.seq (.reg r9_6) (.seq (.cond (.tmp 24) .skip (.exit 0)) (.seq (.block 1 (.seq (.reg r9_7) (.seq (.regD 29 r9_8) (.cond (.tmp 56) (.seq (.reg r9_9) .ret) .skip)))) (.reg r9_10))))
def r9_12 : List POp := [
  ⟨some 2, .assign (.const (.bool true)), none⟩]
noncomputable def p9 : PC := (.seq (.reg r9_0) (.seq (.seq (.reg r9_1) (.cond (.tmp 15) (.seq (.reg r9_2) .ret) .skip)) (.seq (.reg r9_3) (.seq (.reg r9_4) (.seq (.seq (.reg r9_5) (.block 0 (.loop b9_11))) (.seq (.reg r9_12) .ret))))))
theorem comp9 : (Try.f9.body.map (comp E Try.f9.ntmps)) = some p9 := by kernel_rfl
theorem ev9 {args : List AV} {S : St} {P : AV → St → Prop} (hn : Nat.ble args.length 58 = true) (h : EndsA E 58 [.c p9] .nrm (initTm 0 args .leaf) S (RetQ E [.tmp 2] P)) : ∃ r S', EvA E 9 args S r S' ∧ P r S' := ev_ends (fn := Try.f9) (by kernel_rfl) rfl comp9 (by kernel_rfl) (by kernel_rfl) hn h
/-! hindsight/info.Put -/
def r10_0 : List POp := [
  ⟨some 1, .box 25 (.tmp 0), none⟩,
  ⟨some 2, .assign (.const (.slice none 0 0)), none⟩]
def r10_1 : List POp := [
  ⟨some 10, .load 25 (.tmp 1), none⟩,
  ⟨some 11, .call { callee := .value (.func 9), args := #[(.tmp 10)], argTypes := #[25] }, none⟩,
  ⟨some 12, .unOp .not 4 (.tmp 11), none⟩]
def r10_2 : List POp := [
  ⟨some 2, .assign (.const (.slice none 0 0)), none⟩]
def r10_3 : List POp := [
  ⟨some 13, .fieldAddr 25 (.tmp 1) 0, none⟩,
  ⟨some 14, .load 22 (.tmp 13), none⟩,
  ⟨some 15, .call { callee := .builtin .len, args := #[(.tmp 14)], argTypes := #[22] }, none⟩,
  ⟨some 16, .call { callee := .value (.func 32), args := #[(.const (.slice none 0 0)), (.tmp 15)], argTypes := #[28, 3] }, none⟩,
  ⟨some 3, .assign (.tmp 16), none⟩]
def r10_4 : List POp := [
  ⟨some 17, .fieldAddr 25 (.tmp 1) 0, none⟩,
  ⟨some 18, .load 22 (.tmp 17), none⟩,
  ⟨some 19, .call { callee := .builtin .len, args := #[(.tmp 18)], argTypes := #[22] }, none⟩,
  ⟨some 20, .move (.const (.int .i64 0)), none⟩]
def r10_5 : List POp := [
  ⟨some 21, .binOp .lss 3 (.tmp 20) (.tmp 19) 3, none⟩]
def r10_6 : List POp := [
  ⟨some 22, .indexAddr 22 (.tmp 18) (.tmp 20), none⟩,
  ⟨some 23, .load 41 (.tmp 22), none⟩,
  ⟨some 5, .alloc 41, none⟩,
  ⟨none, .store 41 (.tmp 5) (.tmp 23), none⟩]
def r10_7 : List POp := [
  ⟨some 24, .fieldAddr 41 (.tmp 5) 0, none⟩,
  ⟨some 25, .load 3 (.tmp 24), none⟩,
  ⟨some 26, .fieldAddr 41 (.tmp 5) 1, none⟩,
  ⟨some 27, .load 3 (.tmp 26), none⟩,
  ⟨some 28, .fieldAddr 41 (.tmp 5) 2, none⟩,
  ⟨some 29, .load 3 (.tmp 28), none⟩,
  ⟨some 30, .fieldAddr 41 (.tmp 5) 3, none⟩,
  ⟨some 31, .load 3 (.tmp 30), none⟩,
  ⟨some 32, .buildSlice 57 4 #[(0, (.tmp 25)), (1, (.tmp 27)), (2, (.tmp 29)), (3, (.tmp 31))], none⟩,
  ⟨some 33, .call { callee := .builtin .len, args := #[(.tmp 32)], argTypes := #[57] }, none⟩,
  ⟨some 34, .move (.const (.int .i64 0)), none⟩]
def r10_8 : List POp := [
  ⟨some 35, .binOp .lss 3 (.tmp 34) (.tmp 33) 3, none⟩]
def r10_9 : List POp := [
  ⟨some 36, .indexAddr 57 (.tmp 32) (.tmp 34), none⟩,
  ⟨some 37, .load 3 (.tmp 36), none⟩,
  ⟨some 7, .assign (.tmp 37), none⟩]
def r10_10 : List POp := [
  ⟨some 38, .move (.tmp 3), none⟩,
  ⟨some 39, .move (.tmp 7), none⟩,
  ⟨some 40, .call { callee := .value (.func 32), args := #[(.tmp 38), (.tmp 39)], argTypes := #[28, 3] }, none⟩,
  ⟨some 3, .assign (.tmp 40), none⟩]
def r10_11 : List POp := [
  ⟨some 41, .binOp .add 3 (.tmp 34) (.const (.int .i64 1)) 3, none⟩,
  ⟨some 34, .move (.tmp 41), none⟩]
noncomputable def b10_12 : PC := (.seq (.reg r10_8) (.seq (.cond (.tmp 35) .skip (.exit 2)) (.seq (.block 3 (.seq (.reg r10_9) (.reg r10_10))) (.reg r10_11))))
def r10_13 : List POp := [
  ⟨some 42, .binOp .add 3 (.tmp 20) (.const (.int .i64 1)) 3, none⟩,
  ⟨some 20, .move (.tmp 42), none⟩]
noncomputable def b10_14 : PC := (.seq (.reg r10_5) (.seq (.cond (.tmp 21) .skip (.exit 0)) (.seq (.block 1 (.seq (.reg r10_6) (.seq (.reg r10_7) (.block 2 (.loop b10_12))))) (.reg r10_13))))
def r10_15 : List POp := [
  ⟨some 43, .move (.tmp 3), none⟩,
  ⟨some 44, .fieldAddr 25 (.tmp 1) 1, none⟩,
  ⟨some 45, .load 23 (.tmp 44), none⟩,
  ⟨some 46, .call { callee := .builtin .len, args := #[(.tmp 45)], argTypes := #[23] }, none⟩,
  ⟨some 47, .call { callee := .value (.func 32), args := #[(.tmp 43), (.tmp 46)], argTypes := #[28, 3] }, none⟩,
  ⟨some 3, .assign (.tmp 47), none⟩]
def r10_16 : List POp := [
  ⟨some 48, .fieldAddr 25 (.tmp 1) 1, none⟩,
  ⟨some 49, .load 23 (.tmp 48), none⟩,
  ⟨some 50, .call { callee := .builtin .len, args := #[(.tmp 49)], argTypes := #[23] }, none⟩,
  ⟨some 51, .move (.const (.int .i64 0)), none⟩]
def r10_17 : List POp := [
  ⟨some 52, .binOp .lss 3 (.tmp 51) (.tmp 50) 3, none⟩]
def r10_18 : List POp := [
  ⟨some 53, .indexAddr 23 (.tmp 49) (.tmp 51), none⟩,
  ⟨some 54, .load 43 (.tmp 53), none⟩,
  ⟨some 9, .alloc 43, none⟩,
  ⟨none, .store 43 (.tmp 9) (.tmp 54), none⟩]
def r10_19 : List POp := [
  ⟨some 55, .move (.tmp 3), none⟩,
  ⟨some 56, .fieldAddr 43 (.tmp 9) 0, none⟩,
  ⟨some 57, .load 3 (.tmp 56), none⟩,
  ⟨some 58, .call { callee := .value (.func 32), args := #[(.tmp 55), (.tmp 57)], argTypes := #[28, 3] }, none⟩,
  ⟨some 59, .fieldAddr 43 (.tmp 9) 1, none⟩,
  ⟨some 60, .load 3 (.tmp 59), none⟩,
  ⟨some 61, .call { callee := .value (.func 32), args := #[(.tmp 58), (.tmp 60)], argTypes := #[28, 3] }, none⟩,
  ⟨some 62, .fieldAddr 43 (.tmp 9) 2, none⟩,
  ⟨some 63, .load 9 (.tmp 62), none⟩]
def r10_20 : List POp := [
  ⟨some 64, .call { callee := .value (.func 33), args := #[(.tmp 61), (.tmp 63)], argTypes := #[28, 9] }, none⟩,
  ⟨some 3, .assign (.tmp 64), none⟩]
noncomputable def d10_0 : Array Oper := match Try.f10.body.map (comp E Try.f10.ntmps) with | some p => p.draws.getD 0 #[] | none => #[]
theorem draw10_0 : DrawC E 77 d10_0 11 9 r10_19 r10_20 [(.tmp 59), (.tmp 62)] := ⟨by kernel_rfl, by decide, by kernel_rfl, by kernel_rfl, by kernel_rfl, by kernel_rfl, by kernel_rfl⟩
def r10_21 : List POp := [
  ⟨some 65, .move (.tmp 3), none⟩,
  ⟨some 66, .fieldAddr 43 (.tmp 9) 3, none⟩,
  ⟨some 67, .load 3 (.tmp 66), none⟩,
  ⟨some 68, .call { callee := .value (.func 32), args := #[(.tmp 65), (.tmp 67)], argTypes := #[28, 3] }, none⟩,
  ⟨some 69, .fieldAddr 43 (.tmp 9) 4, none⟩,
  ⟨some 70, .load 3 (.tmp 69), none⟩,
  ⟨some 71, .call { callee := .value (.func 32), args := #[(.tmp 68), (.tmp 70)], argTypes := #[28, 3] }, none⟩,
  ⟨some 72, .fieldAddr 43 (.tmp 9) 5, none⟩,
  ⟨some 73, .load 9 (.tmp 72), none⟩]
def r10_22 : List POp := [
  ⟨some 74, .call { callee := .value (.func 33), args := #[(.tmp 71), (.tmp 73)], argTypes := #[28, 9] }, none⟩,
  ⟨some 3, .assign (.tmp 74), none⟩]
noncomputable def d10_1 : Array Oper := match Try.f10.body.map (comp E Try.f10.ntmps) with | some p => p.draws.getD 1 #[] | none => #[]
theorem draw10_1 : DrawC E 77 d10_1 11 9 r10_21 r10_22 [(.tmp 69), (.tmp 72)] := ⟨by kernel_rfl, by decide, by kernel_rfl, by kernel_rfl, by kernel_rfl, by kernel_rfl, by kernel_rfl⟩
def r10_23 : List POp := [
  ⟨some 75, .binOp .add 3 (.tmp 51) (.const (.int .i64 1)) 3, none⟩,
  ⟨some 51, .move (.tmp 75), none⟩]
noncomputable def b10_24 : PC := (.seq (.reg r10_17) (.seq (.cond (.tmp 52) .skip (.exit 4)) (.seq (.block 5 (.seq (.reg r10_18) (.seq (.draw d10_0) (.draw d10_1)))) (.reg r10_23))))
def r10_25 : List POp := [
  ⟨some 76, .move (.tmp 3), none⟩,
  ⟨some 2, .assign (.tmp 76), none⟩]
noncomputable def p10 : PC := (.seq (.reg r10_0) (.seq (.seq (.reg r10_1) (.cond (.tmp 12) (.seq (.reg r10_2) .ret) .skip)) (.seq (.reg r10_3) (.seq (.seq (.reg r10_4) (.block 0 (.loop b10_14))) (.seq (.reg r10_15) (.seq (.seq (.reg r10_16) (.block 4 (.loop b10_24))) (.seq (.reg r10_25) .ret)))))))
theorem comp10 : (Try.f10.body.map (comp E Try.f10.ntmps)) = some p10 := by kernel_rfl
theorem ev10 {args : List AV} {S : St} {P : AV → St → Prop} (hn : Nat.ble args.length 77 = true) (h : EndsA E 77 [.c p10] .nrm (initTm 0 args .leaf) S (RetQ E [.tmp 2] P)) : ∃ r S', EvA E 10 args S r S' ∧ P r S' := ev_ends (fn := Try.f10) (by kernel_rfl) rfl comp10 (by kernel_rfl) (by kernel_rfl) hn h
/-! hindsight/info.Get -/
def r11_0 : List POp := [
  ⟨some 2, .alloc 25, none⟩,
  ⟨some 3, .assign (.const (.int .i64 0)), none⟩]
def r11_1 : List POp := [
  ⟨some 9, .move (.tmp 0), none⟩,
  ⟨some 10, .build 75 #[(0, (.tmp 9))], none⟩,
  ⟨some 11, .box 75 (.tmp 10), none⟩,
  ⟨some 4, .assign (.tmp 11), none⟩]
def r11_2 : List POp := [
  ⟨some 5, .alloc 25, none⟩]
def r11_3 : List POp := [
  ⟨some 12, .move (.tmp 4), none⟩,
  ⟨some 13, .call { callee := .value (.func 34), args := #[(.tmp 12), (.const (.int .i64 10000))], argTypes := #[73, 3] }, none⟩,
  ⟨some 6, .assign (.tmp 13), none⟩]
def r11_4 : List POp := [
  ⟨some 14, .move (.tmp 6), none⟩,
  ⟨some 15, .binOp .gtr 3 (.tmp 14) (.const (.int .i64 0)) 3, none⟩,
  ⟨some 16, .move (.tmp 15), none⟩,
  ⟨some 17, .move (.tmp 4), some (16, true)⟩,
  ⟨some 18, .nilCheck (.tmp 17), some (16, true)⟩,
  ⟨some 19, .fieldAddr 75 (.tmp 18) 1, some (16, true)⟩,
  ⟨some 20, .load 4 (.tmp 19), some (16, true)⟩,
  ⟨some 21, .unOp .not 4 (.tmp 20), some (16, true)⟩,
  ⟨some 22, .pick (.tmp 16) (.tmp 21) (.const (.bool false)), none⟩]
def r11_5 : List POp := [
  ⟨some 25, .fieldAddr 25 (.tmp 5) 0, none⟩,
  ⟨some 26, .load 22 (.tmp 25), none⟩,
  ⟨some 27, .move (.tmp 4), none⟩,
  ⟨some 28, .call { callee := .value (.func 34), args := #[(.tmp 27), (.const (.int .i64 2147483647))], argTypes := #[73, 3] }, none⟩,
  ⟨some 29, .move (.tmp 4), none⟩,
  ⟨some 30, .call { callee := .value (.func 34), args := #[(.tmp 29), (.const (.int .i64 2147483647))], argTypes := #[73, 3] }, none⟩,
  ⟨some 31, .move (.tmp 4), none⟩,
  ⟨some 32, .call { callee := .value (.func 34), args := #[(.tmp 31), (.const (.int .i64 2147483647))], argTypes := #[73, 3] }, none⟩,
  ⟨some 33, .move (.tmp 4), none⟩,
  ⟨some 34, .call { callee := .value (.func 34), args := #[(.tmp 33), (.const (.int .i64 2147483647))], argTypes := #[73, 3] }, none⟩]
def r11_6 : List POp := [
  ⟨some 35, .build 41 #[(0, (.tmp 28)), (1, (.tmp 30)), (2, (.tmp 32)), (3, (.tmp 34))], none⟩,
  ⟨some 36, .buildSlice 22 1 #[(0, (.tmp 35))], none⟩,
  ⟨some 37, .call { callee := .builtin .append, args := #[(.tmp 26), (.tmp 36)], argTypes := #[22, 22] }, none⟩,
  ⟨some 38, .fieldAddr 25 (.tmp 5) 0, none⟩,
  ⟨none, .store 22 (.tmp 38) (.tmp 37), none⟩]
noncomputable def d11_0 : Array Oper := match Try.f11.body.map (comp E Try.f11.ntmps) with | some p => p.draws.getD 0 #[] | none => #[]
theorem draw11_0 : DrawC E 93 d11_0 15 10 r11_5 r11_6 [(.tmp 25)] := ⟨by kernel_rfl, by decide, by kernel_rfl, by kernel_rfl, by kernel_rfl, by kernel_rfl, by kernel_rfl⟩
def r11_7 : List POp := [
  ⟨some 23, .move (.tmp 6), none⟩,
  ⟨some 24, .binOp .sub 3 (.tmp 23) (.const (.int .i64 1)) 3, none⟩,
  ⟨some 6, .assign (.tmp 24), none⟩]
noncomputable def b11_8 : PC := (.seq (.seq (.reg r11_4) (.cond (.tmp 22) .skip (.exit 0))) (.seq (.block 1 (.draw d11_0)) (.reg r11_7)))
def r11_9 : List POp := [
  ⟨some 39, .move (.tmp 4), none⟩,
  ⟨some 40, .call { callee := .value (.func 34), args := #[(.tmp 39), (.const (.int .i64 10000))], argTypes := #[73, 3] }, none⟩,
  ⟨some 7, .assign (.tmp 40), none⟩]
def r11_10 : List POp := [
  ⟨some 41, .move (.tmp 7), none⟩,
  ⟨some 42, .binOp .gtr 3 (.tmp 41) (.const (.int .i64 0)) 3, none⟩,
  ⟨some 43, .move (.tmp 42), none⟩,
  ⟨some 44, .move (.tmp 4), some (43, true)⟩,
  ⟨some 45, .nilCheck (.tmp 44), some (43, true)⟩,
  ⟨some 46, .fieldAddr 75 (.tmp 45) 1, some (43, true)⟩,
  ⟨some 47, .load 4 (.tmp 46), some (43, true)⟩,
  ⟨some 48, .unOp .not 4 (.tmp 47), some (43, true)⟩,
  ⟨some 49, .pick (.tmp 43) (.tmp 48) (.const (.bool false)), none⟩]
def r11_11 : List POp := [
  ⟨some 52, .move (.tmp 4), none⟩,
  ⟨some 53, .call { callee := .value (.func 34), args := #[(.tmp 52), (.const (.int .i64 2147483647))], argTypes := #[73, 3] }, none⟩,
  ⟨some 54, .move (.tmp 4), none⟩,
  ⟨some 55, .call { callee := .value (.func 34), args := #[(.tmp 54), (.const (.int .i64 2147483647))], argTypes := #[73, 3] }, none⟩,
  ⟨some 56, .move (.tmp 4), none⟩,
  ⟨some 57, .call { callee := .value (.func 35), args := #[(.tmp 56), (.const (.int .i64 4000))], argTypes := #[73, 3] }, none⟩,
  ⟨some 58, .build 43 #[(0, (.tmp 53)), (1, (.tmp 55)), (2, (.tmp 57))], none⟩,
  ⟨some 8, .alloc 43, none⟩,
  ⟨none, .store 43 (.tmp 8) (.tmp 58), none⟩]
def r11_12 : List POp := [
  ⟨some 59, .move (.tmp 4), none⟩,
  ⟨some 60, .call { callee := .value (.func 34), args := #[(.tmp 59), (.const (.int .i64 3))], argTypes := #[73, 3] }, none⟩,
  ⟨some 61, .move (.tmp 4), none⟩,
  ⟨some 62, .call { callee := .value (.func 34), args := #[(.tmp 61), (.const (.int .i64 65535))], argTypes := #[73, 3] }, none⟩,
  ⟨some 63, .move (.tmp 4), none⟩,
  ⟨some 64, .call { callee := .value (.func 35), args := #[(.tmp 63), (.const (.int .i64 4000000))], argTypes := #[73, 3] }, none⟩,
  ⟨some 65, .fieldAddr 43 (.tmp 8) 3, none⟩,
  ⟨none, .store 3 (.tmp 65) (.tmp 60), none⟩,
  ⟨some 66, .fieldAddr 43 (.tmp 8) 4, none⟩,
  ⟨none, .store 3 (.tmp 66) (.tmp 62), none⟩,
  ⟨some 67, .fieldAddr 43 (.tmp 8) 5, none⟩,
  ⟨none, .store 9 (.tmp 67) (.tmp 64), none⟩]
def r11_13 : List POp := [
  ⟨some 68, .fieldAddr 25 (.tmp 5) 1, none⟩,
  ⟨some 69, .load 23 (.tmp 68), none⟩,
  ⟨some 70, .load 43 (.tmp 8), none⟩,
  ⟨some 71, .buildSlice 23 1 #[(0, (.tmp 70))], none⟩,
  ⟨some 72, .call { callee := .builtin .append, args := #[(.tmp 69), (.tmp 71)], argTypes := #[23, 23] }, none⟩,
  ⟨some 73, .fieldAddr 25 (.tmp 5) 1, none⟩,
  ⟨none, .store 23 (.tmp 73) (.tmp 72), none⟩]
def r11_14 : List POp := [
  ⟨some 50, .move (.tmp 7), none⟩,
  ⟨some 51, .binOp .sub 3 (.tmp 50) (.const (.int .i64 1)) 3, none⟩,
  ⟨some 7, .assign (.tmp 51), none⟩]
noncomputable def b11_15 : PC := (.seq (.seq (.reg r11_10) (.cond (.tmp 49) .skip (.exit 2))) (.seq (.block 3 (.seq (.reg r11_11) (.seq (.reg r11_12) (.reg r11_13)))) (.reg r11_14)))
def r11_16 : List POp := [
  ⟨some 74, .move (.tmp 4), none⟩,
  ⟨some 75, .nilCheck (.tmp 74), none⟩,
  ⟨some 76, .fieldAddr 75 (.tmp 75) 1, none⟩,
  ⟨some 77, .load 4 (.tmp 76), none⟩,
  ⟨some 78, .move (.tmp 77), none⟩,
  ⟨some 79, .move (.tmp 4), some (78, false)⟩,
  ⟨some 80, .nilCheck (.tmp 79), some (78, false)⟩,
  ⟨some 81, .fieldAddr 75 (.tmp 80) 0, some (78, false)⟩,
  ⟨some 82, .load 28 (.tmp 81), some (78, false)⟩,
  ⟨some 83, .call { callee := .builtin .len, args := #[(.tmp 82)], argTypes := #[28] }, some (78, false)⟩,
  ⟨some 84, .binOp .gtr 3 (.tmp 83) (.const (.int .i64 0)) 3, some (78, false)⟩,
  ⟨some 85, .pick (.tmp 78) (.const (.bool true)) (.tmp 84), none⟩,
  ⟨some 86, .move (.tmp 85), none⟩,
  ⟨some 87, .load 25 (.tmp 5), some (86, false)⟩,
  ⟨some 88, .call { callee := .value (.func 9), args := #[(.tmp 87)], argTypes := #[25] }, some (86, false)⟩,
  ⟨some 89, .unOp .not 4 (.tmp 88), some (86, false)⟩,
  ⟨some 90, .pick (.tmp 86) (.const (.bool true)) (.tmp 89), none⟩]
def r11_17 : List POp := [
  ⟨some 91, .build 25 #[], none⟩,
  ⟨none, .store 25 (.tmp 2) (.tmp 91), none⟩,
  ⟨some 3, .assign (.const (.int .i64 3)), none⟩]
def r11_18 : List POp := [
  ⟨some 92, .load 25 (.tmp 5), none⟩,
  ⟨none, .store 25 (.tmp 2) (.tmp 92), none⟩,
  ⟨some 3, .assign (.const (.int .i64 0)), none⟩]
noncomputable def p11 : PC := (.seq (.reg r11_0) (.seq (.reg r11_1) (.seq (.reg r11_2) (.seq (.seq (.reg r11_3) (.block 0 (.loop b11_8))) (.seq (.seq (.reg r11_9) (.block 2 (.loop b11_15))) (.seq (.seq (.reg r11_16) (.cond (.tmp 90) (.seq (.reg r11_17) .ret) .skip)) (.seq (.reg r11_18) .ret)))))))
theorem comp11 : (Try.f11.body.map (comp E Try.f11.ntmps)) = some p11 := by kernel_rfl
theorem ev11 {args : List AV} {S : St} {P : AV → St → Prop} (hn : Nat.ble args.length 93 = true) (h : EndsA E 93 [.c p11] .nrm (initTm 0 args .leaf) S (RetQ E [.cell 2 25, .tmp 3] P)) : ∃ r S', EvA E 11 args S r S' ∧ P r S' := ev_ends (fn := Try.f11) (by kernel_rfl) rfl comp11 (by kernel_rfl) (by kernel_rfl) hn h
/-! hindsight/hindsightref11.SameTable -/
def r12_0 : List POp := [
  ⟨some 2, .box 37 (.tmp 0), none⟩,
  ⟨some 3, .box 37 (.tmp 1), none⟩,
  ⟨some 4, .assign (.const (.bool false)), none⟩]
def r12_1 : List POp := [
  ⟨some 7, .fieldAddr 37 (.tmp 2) 0, none⟩,
  ⟨some 8, .load 34 (.tmp 7), none⟩,
  ⟨some 9, .call { callee := .builtin .len, args := #[(.tmp 8)], argTypes := #[34] }, none⟩,
  ⟨some 10, .fieldAddr 37 (.tmp 3) 0, none⟩,
  ⟨some 11, .load 34 (.tmp 10), none⟩,
  ⟨some 12, .call { callee := .builtin .len, args := #[(.tmp 11)], argTypes := #[34] }, none⟩,
  ⟨some 13, .binOp .neq 3 (.tmp 9) (.tmp 12) 3, none⟩,
  ⟨some 14, .move (.tmp 13), none⟩,
  ⟨some 15, .fieldAddr 37 (.tmp 2) 1, some (14, false)⟩,
  ⟨some 16, .load 35 (.tmp 15), some (14, false)⟩,
  ⟨some 17, .call { callee := .builtin .len, args := #[(.tmp 16)], argTypes := #[35] }, some (14, false)⟩,
  ⟨some 18, .fieldAddr 37 (.tmp 3) 1, some (14, false)⟩,
  ⟨some 19, .load 35 (.tmp 18), some (14, false)⟩,
  ⟨some 20, .call { callee := .builtin .len, args := #[(.tmp 19)], argTypes := #[35] }, some (14, false)⟩,
  ⟨some 21, .binOp .neq 3 (.tmp 17) (.tmp 20) 3, some (14, false)⟩,
  ⟨some 22, .pick (.tmp 14) (.const (.bool true)) (.tmp 21), none⟩]
def r12_2 : List POp := [
  ⟨some 4, .assign (.const (.bool false)), none⟩]
def r12_3 : List POp := [
  ⟨some 5, .assign (.const (.int .i64 0)), none⟩]
def r12_4 : List POp := [
  ⟨some 23, .move (.tmp 5), none⟩,
  ⟨some 24, .fieldAddr 37 (.tmp 2) 0, none⟩,
  ⟨some 25, .load 34 (.tmp 24), none⟩,
  ⟨some 26, .call { callee := .builtin .len, args := #[(.tmp 25)], argTypes := #[34] }, none⟩,
  ⟨some 27, .binOp .lss 3 (.tmp 23) (.tmp 26) 3, none⟩]
def r12_5 : List POp := [
  ⟨some 30, .fieldAddr 37 (.tmp 2) 0, none⟩,
  ⟨some 31, .load 34 (.tmp 30), none⟩,
  ⟨some 32, .move (.tmp 5), none⟩,
  ⟨some 33, .indexAddr 34 (.tmp 31) (.tmp 32), none⟩,
  ⟨some 34, .load 51 (.tmp 33), none⟩,
  ⟨some 35, .fieldAddr 37 (.tmp 3) 0, none⟩,
  ⟨some 36, .load 34 (.tmp 35), none⟩,
  ⟨some 37, .move (.tmp 5), none⟩,
  ⟨some 38, .indexAddr 34 (.tmp 36) (.tmp 37), none⟩,
  ⟨some 39, .load 51 (.tmp 38), none⟩,
  ⟨some 40, .binOp .neq 51 (.tmp 34) (.tmp 39) 51, none⟩]
def r12_6 : List POp := [
  ⟨some 4, .assign (.const (.bool false)), none⟩]
def r12_7 : List POp := [
  ⟨some 28, .move (.tmp 5), none⟩,
  ⟨some 29, .binOp .add 3 (.tmp 28) (.const (.int .i64 1)) 3, none⟩,
  ⟨some 5, .assign (.tmp 29), none⟩]
noncomputable def b12_8 : PC := (.seq (.seq (.reg r12_4) (.cond (.tmp 27) .skip (.exit 0))) (.seq (.block 1 (.seq (.regD 11 r12_5) (.cond (.tmp 40) (.seq (.reg r12_6) .ret) .skip))) (.reg r12_7)))
def r12_9 : List POp := [
  ⟨some 6, .assign (.const (.int .i64 0)), none⟩]
def r12_10 : List POp := [
  ⟨some 41, .move (.tmp 6), none⟩,
  ⟨some 42, .fieldAddr 37 (.tmp 2) 1, none⟩,
  ⟨some 43, .load 35 (.tmp 42), none⟩,
  ⟨some 44, .call { callee := .builtin .len, args := #[(.tmp 43)], argTypes := #[35] }, none⟩,
  ⟨some 45, .binOp .lss 3 (.tmp 41) (.tmp 44) 3, none⟩]
def r12_11 : List POp := [
  ⟨some 48, .fieldAddr 37 (.tmp 2) 1, none⟩,
  ⟨some 49, .load 35 (.tmp 48), none⟩,
  ⟨some 50, .move (.tmp 6), none⟩,
  ⟨some 51, .indexAddr 35 (.tmp 49) (.tmp 50), none⟩,
  ⟨some 52, .load 56 (.tmp 51), none⟩,
  ⟨some 53, .fieldAddr 37 (.tmp 3) 1, none⟩,
  ⟨some 54, .load 35 (.tmp 53), none⟩,
  ⟨some 55, .move (.tmp 6), none⟩,
  ⟨some 56, .indexAddr 35 (.tmp 54) (.tmp 55), none⟩,
  ⟨some 57, .load 56 (.tmp 56), none⟩,
  ⟨some 58, .binOp .neq 56 (.tmp 52) (.tmp 57) 56, none⟩]
def r12_12 : List POp := [
  ⟨some 4, .assign (.const (.bool false)), none⟩]
def r12_13 : List POp := [
  ⟨some 46, .move (.tmp 6), none⟩,
  ⟨some 47, .binOp .add 3 (.tmp 46) (.const (.int .i64 1)) 3, none⟩,
  ⟨some 6, .assign (.tmp 47), none⟩]
noncomputable def b12_14 : PC := (.seq (.seq (.reg r12_10) (.cond (.tmp 45) .skip (.exit 2))) (.seq (.block 3 (.seq (.regD 11 r12_11) (.cond (.tmp 58) (.seq (.reg r12_12) .ret) .skip))) (.reg r12_13)))
def r12_15 : List POp := [
  ⟨some 4, .assign (.const (.bool true)), none⟩]
noncomputable def p12 : PC := (.seq (.reg r12_0) (.seq (.seq (.reg r12_1) (.cond (.tmp 22) (.seq (.reg r12_2) .ret) .skip)) (.seq (.seq (.reg r12_3) (.block 0 (.loop b12_8))) (.seq (.seq (.reg r12_9) (.block 2 (.loop b12_14))) (.seq (.reg r12_15) .ret)))))
theorem comp12 : (Try.f12.body.map (comp E Try.f12.ntmps)) = some p12 := by kernel_rfl
theorem ev12 {args : List AV} {S : St} {P : AV → St → Prop} (hn : Nat.ble args.length 59 = true) (h : EndsA E 59 [.c p12] .nrm (initTm 0 args .leaf) S (RetQ E [.tmp 4] P)) : ∃ r S', EvA E 12 args S r S' ∧ P r S' := ev_ends (fn := Try.f12) (by kernel_rfl) rfl comp12 (by kernel_rfl) (by kernel_rfl) hn h
/-! hindsight/hindsightlaw16.own -/
def r13_0 : List POp := [
  ⟨some 1, .box 25 (.tmp 0), none⟩,
  ⟨some 2, .alloc 37, none⟩]
def r13_1 : List POp := [
  ⟨some 8, .build 37 #[], none⟩,
  ⟨some 3, .alloc 37, none⟩,
  ⟨none, .store 37 (.tmp 3) (.tmp 8), none⟩]
def r13_2 : List POp := [
  ⟨some 4, .assign (.const (.int .i64 0)), none⟩]
def r13_3 : List POp := [
  ⟨some 9, .move (.tmp 4), none⟩,
  ⟨some 10, .fieldAddr 25 (.tmp 1) 0, none⟩,
  ⟨some 11, .load 22 (.tmp 10), none⟩,
  ⟨some 12, .call { callee := .builtin .len, args := #[(.tmp 11)], argTypes := #[22] }, none⟩,
  ⟨some 13, .binOp .lss 3 (.tmp 9) (.tmp 12) 3, none⟩]
def r13_4 : List POp := [
  ⟨some 16, .fieldAddr 25 (.tmp 1) 0, none⟩,
  ⟨some 17, .load 22 (.tmp 16), none⟩,
  ⟨some 18, .move (.tmp 4), none⟩,
  ⟨some 19, .indexAddr 22 (.tmp 17) (.tmp 18), none⟩,
  ⟨some 20, .load 41 (.tmp 19), none⟩,
  ⟨some 5, .alloc 41, none⟩,
  ⟨none, .store 41 (.tmp 5) (.tmp 20), none⟩]
def r13_5 : List POp := [
  ⟨some 21, .fieldAddr 37 (.tmp 3) 0, none⟩,
  ⟨some 22, .load 34 (.tmp 21), none⟩,
  ⟨some 23, .fieldAddr 41 (.tmp 5) 0, none⟩,
  ⟨some 24, .load 3 (.tmp 23), none⟩,
  ⟨some 25, .fieldAddr 41 (.tmp 5) 1, none⟩,
  ⟨some 26, .load 3 (.tmp 25), none⟩,
  ⟨some 27, .fieldAddr 41 (.tmp 5) 2, none⟩,
  ⟨some 28, .load 3 (.tmp 27), none⟩,
  ⟨some 29, .fieldAddr 41 (.tmp 5) 3, none⟩,
  ⟨some 30, .load 3 (.tmp 29), none⟩,
  ⟨some 31, .build 51 #[(0, (.tmp 24)), (1, (.tmp 26)), (2, (.tmp 28)), (3, (.tmp 30))], none⟩,
  ⟨some 32, .buildSlice 34 1 #[(0, (.tmp 31))], none⟩,
  ⟨some 33, .call { callee := .builtin .append, args := #[(.tmp 22), (.tmp 32)], argTypes := #[34, 34] }, none⟩,
  ⟨some 34, .fieldAddr 37 (.tmp 3) 0, none⟩,
  ⟨none, .store 34 (.tmp 34) (.tmp 33), none⟩]
def r13_6 : List POp := [
  ⟨some 14, .move (.tmp 4), none⟩,
  ⟨some 15, .binOp .add 3 (.tmp 14) (.const (.int .i64 1)) 3, none⟩,
  ⟨some 4, .assign (.tmp 15), none⟩]
noncomputable def b13_7 : PC := (.seq (.seq (.reg r13_3) (.cond (.tmp 13) .skip (.exit 0))) (.seq (.block 1 (.seq (.reg r13_4) (.reg r13_5))) (.reg r13_6)))
def r13_8 : List POp := [
  ⟨some 6, .assign (.const (.int .i64 0)), none⟩]
def r13_9 : List POp := [
  ⟨some 35, .move (.tmp 6), none⟩,
  ⟨some 36, .fieldAddr 25 (.tmp 1) 1, none⟩,
  ⟨some 37, .load 23 (.tmp 36), none⟩,
  ⟨some 38, .call { callee := .builtin .len, args := #[(.tmp 37)], argTypes := #[23] }, none⟩,
  ⟨some 39, .binOp .lss 3 (.tmp 35) (.tmp 38) 3, none⟩]
def r13_10 : List POp := [
  ⟨some 42, .fieldAddr 25 (.tmp 1) 1, none⟩,
  ⟨some 43, .load 23 (.tmp 42), none⟩,
  ⟨some 44, .move (.tmp 6), none⟩,
  ⟨some 45, .indexAddr 23 (.tmp 43) (.tmp 44), none⟩,
  ⟨some 46, .load 43 (.tmp 45), none⟩,
  ⟨some 7, .alloc 43, none⟩,
  ⟨none, .store 43 (.tmp 7) (.tmp 46), none⟩]
def r13_11 : List POp := [
  ⟨some 47, .fieldAddr 37 (.tmp 3) 1, none⟩,
  ⟨some 48, .load 35 (.tmp 47), none⟩,
  ⟨some 49, .fieldAddr 43 (.tmp 7) 0, none⟩,
  ⟨some 50, .load 3 (.tmp 49), none⟩,
  ⟨some 51, .fieldAddr 43 (.tmp 7) 1, none⟩,
  ⟨some 52, .load 3 (.tmp 51), none⟩,
  ⟨some 53, .fieldAddr 43 (.tmp 7) 2, none⟩,
  ⟨some 54, .load 9 (.tmp 53), none⟩,
  ⟨some 55, .fieldAddr 43 (.tmp 7) 3, none⟩,
  ⟨some 56, .load 3 (.tmp 55), none⟩,
  ⟨some 57, .fieldAddr 43 (.tmp 7) 4, none⟩,
  ⟨some 58, .load 3 (.tmp 57), none⟩,
  ⟨some 59, .fieldAddr 43 (.tmp 7) 5, none⟩,
  ⟨some 60, .load 9 (.tmp 59), none⟩,
  ⟨some 61, .build 56 #[(0, (.tmp 50)), (1, (.tmp 52)), (2, (.tmp 54)), (3, (.tmp 56)), (4, (.tmp 58)), (5, (.tmp 60))], none⟩,
  ⟨some 62, .buildSlice 35 1 #[(0, (.tmp 61))], none⟩,
  ⟨some 63, .call { callee := .builtin .append, args := #[(.tmp 48), (.tmp 62)], argTypes := #[35, 35] }, none⟩,
  ⟨some 64, .fieldAddr 37 (.tmp 3) 1, none⟩,
  ⟨none, .store 35 (.tmp 64) (.tmp 63), none⟩]
def r13_12 : List POp := [
  ⟨some 40, .move (.tmp 6), none⟩,
  ⟨some 41, .binOp .add 3 (.tmp 40) (.const (.int .i64 1)) 3, none⟩,
  ⟨some 6, .assign (.tmp 41), none⟩]
noncomputable def b13_13 : PC := (.seq (.seq (.reg r13_9) (.cond (.tmp 39) .skip (.exit 2))) (.seq (.block 3 (.seq (.reg r13_10) (.reg r13_11))) (.reg r13_12)))
def r13_14 : List POp := [
  ⟨some 65, .load 37 (.tmp 3), none⟩,
  ⟨none, .store 37 (.tmp 2) (.tmp 65), none⟩]
noncomputable def p13 : PC := (.seq (.reg r13_0) (.seq (.reg r13_1) (.seq (.seq (.reg r13_2) (.block 0 (.loop b13_7))) (.seq (.seq (.reg r13_8) (.block 2 (.loop b13_13))) (.seq (.reg r13_14) .ret)))))
theorem comp13 : (Try.f13.body.map (comp E Try.f13.ntmps)) = some p13 := by kernel_rfl
theorem ev13 {args : List AV} {S : St} {P : AV → St → Prop} (hn : Nat.ble args.length 66 = true) (h : EndsA E 66 [.c p13] .nrm (initTm 0 args .leaf) S (RetQ E [.cell 2 37] P)) : ∃ r S', EvA E 13 args S r S' ∧ P r S' := ev_ends (fn := Try.f13) (by kernel_rfl) rfl comp13 (by kernel_rfl) (by kernel_rfl) hn h
/-! hindsight/info.stops -/
def r24_0 : List POp := [
  ⟨some 2, .assign (.const (.bool false)), none⟩]
def r24_1 : List POp := [
  ⟨some 5, .move (.tmp 0), none⟩,
  ⟨some 6, .call { callee := .builtin .len, args := #[(.tmp 5)], argTypes := #[22] }, none⟩,
  ⟨some 7, .move (.const (.int .i64 0)), none⟩]
def r24_2 : List POp := [
  ⟨some 8, .binOp .lss 3 (.tmp 7) (.tmp 6) 3, none⟩]
def r24_3 : List POp := [
  ⟨some 9, .move (.tmp 7), none⟩,
  ⟨some 10, .indexAddr 22 (.tmp 5) (.tmp 7), none⟩,
  ⟨some 11, .load 41 (.tmp 10), none⟩,
  ⟨some 4, .alloc 41, none⟩,
  ⟨some 3, .assign (.tmp 9), none⟩,
  ⟨none, .store 41 (.tmp 4) (.tmp 11), none⟩]
def r24_4 : List POp := [
  ⟨some 12, .fieldAddr 41 (.tmp 4) 0, none⟩,
  ⟨some 13, .load 3 (.tmp 12), none⟩,
  ⟨some 14, .call { callee := .value (.func 44), args := #[(.tmp 13), (.const (.int .i64 0)), (.const (.int .i64 2147483647))], argTypes := #[3, 3, 3] }, none⟩,
  ⟨some 15, .unOp .not 4 (.tmp 14), none⟩,
  ⟨some 16, .move (.tmp 15), none⟩,
  ⟨some 17, .fieldAddr 41 (.tmp 4) 1, some (16, false)⟩,
  ⟨some 18, .load 3 (.tmp 17), some (16, false)⟩,
  ⟨some 19, .call { callee := .value (.func 44), args := #[(.tmp 18), (.const (.int .i64 0)), (.const (.int .i64 2147483647))], argTypes := #[3, 3, 3] }, some (16, false)⟩,
  ⟨some 20, .unOp .not 4 (.tmp 19), some (16, false)⟩,
  ⟨some 21, .pick (.tmp 16) (.const (.bool true)) (.tmp 20), none⟩,
  ⟨some 22, .move (.tmp 21), none⟩,
  ⟨some 23, .fieldAddr 41 (.tmp 4) 2, some (22, false)⟩,
  ⟨some 24, .load 3 (.tmp 23), some (22, false)⟩,
  ⟨some 25, .call { callee := .value (.func 44), args := #[(.tmp 24), (.const (.int .i64 1)), (.const (.int .i64 2147483647))], argTypes := #[3, 3, 3] }, some (22, false)⟩,
  ⟨some 26, .unOp .not 4 (.tmp 25), some (22, false)⟩,
  ⟨some 27, .pick (.tmp 22) (.const (.bool true)) (.tmp 26), none⟩,
  ⟨some 28, .move (.tmp 27), none⟩,
  ⟨some 29, .fieldAddr 41 (.tmp 4) 3, some (28, false)⟩,
  ⟨some 30, .load 3 (.tmp 29), some (28, false)⟩,
  ⟨some 31, .call { callee := .value (.func 44), args := #[(.tmp 30), (.const (.int .i64 1)), (.const (.int .i64 2147483647))], argTypes := #[3, 3, 3] }, some (28, false)⟩,
  ⟨some 32, .unOp .not 4 (.tmp 31), some (28, false)⟩,
  ⟨some 33, .pick (.tmp 28) (.const (.bool true)) (.tmp 32), none⟩,
  ⟨some 34, .move (.tmp 33), none⟩,
  ⟨some 35, .move (.tmp 3), some (34, false)⟩,
  ⟨some 36, .binOp .gtr 3 (.tmp 35) (.const (.int .i64 0)) 3, some (34, false)⟩,
  ⟨some 37, .move (.tmp 36), some (34, false)⟩,
  ⟨some 38, .move (.tmp 0), some (37, true)⟩,
  ⟨some 39, .move (.tmp 3), some (37, true)⟩,
  ⟨some 40, .binOp .sub 3 (.tmp 39) (.const (.int .i64 1)) 3, some (37, true)⟩,
  ⟨some 41, .indexAddr 22 (.tmp 38) (.tmp 40), some (37, true)⟩,
  ⟨some 42, .fieldAddr 41 (.tmp 41) 0, some (37, true)⟩,
  ⟨some 43, .load 3 (.tmp 42), some (37, true)⟩,
  ⟨some 44, .fieldAddr 41 (.tmp 4) 0, some (37, true)⟩,
  ⟨some 45, .load 3 (.tmp 44), some (37, true)⟩,
  ⟨some 46, .binOp .geq 3 (.tmp 43) (.tmp 45) 3, some (37, true)⟩,
  ⟨some 47, .pick (.tmp 37) (.tmp 46) (.const (.bool false)), some (34, false)⟩,
  ⟨some 48, .pick (.tmp 34) (.const (.bool true)) (.tmp 47), none⟩]
def r24_5 : List POp := [
  ⟨some 2, .assign (.const (.bool false)), none⟩]
def r24_6 : List POp := [
  ⟨some 49, .binOp .add 3 (.tmp 7) (.const (.int .i64 1)) 3, none⟩,
  ⟨some 7, .move (.tmp 49), none⟩]
noncomputable def b24_7 : PC := (.seq (.reg r24_2) (.seq (.cond (.tmp 8) .skip (.exit 0)) (.seq (.block 1 (.seq (.reg r24_3) (.seq (.regD 37 r24_4) (.cond (.tmp 48) (.seq (.reg r24_5) .ret) .skip)))) (.reg r24_6))))
def r24_8 : List POp := [
  ⟨some 50, .move (.tmp 0), none⟩,
  ⟨some 51, .call { callee := .builtin .len, args := #[(.tmp 50)], argTypes := #[22] }, none⟩,
  ⟨some 52, .binOp .leq 3 (.tmp 51) (.const (.int .i64 10000)) 3, none⟩,
  ⟨some 2, .assign (.tmp 52), none⟩]
noncomputable def p24 : PC := (.seq (.reg r24_0) (.seq (.seq (.reg r24_1) (.block 0 (.loop b24_7))) (.seq (.reg r24_8) .ret)))
theorem comp24 : (Try.f24.body.map (comp E Try.f24.ntmps)) = some p24 := by kernel_rfl
theorem ev24 {args : List AV} {S : St} {P : AV → St → Prop} (hn : Nat.ble args.length 53 = true) (h : EndsA E 53 [.c p24] .nrm (initTm 0 args .leaf) S (RetQ E [.tmp 2] P)) : ∃ r S', EvA E 24 args S r S' ∧ P r S' := ev_ends (fn := Try.f24) (by kernel_rfl) rfl comp24 (by kernel_rfl) (by kernel_rfl) hn h
/-! slices.Clone[[]hindsight/info.Var,hindsight/info.Var] -/
def r25_0 : List POp := [
  ⟨some 2, .assign (.const (.slice none 0 0)), none⟩]
def r25_1 : List POp := [
  ⟨some 3, .move (.tmp 0), none⟩,
  ⟨some 4, .binOp .eql 23 (.tmp 3) (.const (.slice none 0 0)) 23, none⟩]
def r25_2 : List POp := [
  ⟨some 2, .assign (.const (.slice none 0 0)), none⟩]
def r25_3 : List POp := [
  ⟨some 5, .buildSlice 23 0 #[], none⟩,
  ⟨some 6, .move (.tmp 0), none⟩,
  ⟨some 7, .call { callee := .builtin .append, args := #[(.tmp 5), (.tmp 6)], argTypes := #[23, 23] }, none⟩,
  ⟨some 2, .assign (.tmp 7), none⟩]
noncomputable def p25 : PC := (.seq (.reg r25_0) (.seq (.seq (.reg r25_1) (.cond (.tmp 4) (.seq (.reg r25_2) .ret) .skip)) (.seq (.reg r25_3) .ret)))
theorem comp25 : (Try.f25.body.map (comp E Try.f25.ntmps)) = some p25 := by kernel_rfl
theorem ev25 {args : List AV} {S : St} {P : AV → St → Prop} (hn : Nat.ble args.length 8 = true) (h : EndsA E 8 [.c p25] .nrm (initTm 0 args .leaf) S (RetQ E [.tmp 2] P)) : ∃ r S', EvA E 25 args S r S' ∧ P r S' := ev_ends (fn := Try.f25) (by kernel_rfl) rfl comp25 (by kernel_rfl) (by kernel_rfl) hn h
/-! hindsight/info.variable -/
def r31_0 : List POp := [
  ⟨some 1, .box 43 (.tmp 0), none⟩,
  ⟨some 2, .assign (.const (.bool false)), none⟩]
def r31_1 : List POp := [
  ⟨some 3, .fieldAddr 43 (.tmp 1) 0, none⟩,
  ⟨some 4, .load 3 (.tmp 3), none⟩,
  ⟨some 5, .call { callee := .value (.func 44), args := #[(.tmp 4), (.const (.int .i64 0)), (.const (.int .i64 2147483647))], argTypes := #[3, 3, 3] }, none⟩,
  ⟨some 6, .move (.tmp 5), none⟩,
  ⟨some 7, .fieldAddr 43 (.tmp 1) 1, some (6, true)⟩,
  ⟨some 8, .load 3 (.tmp 7), some (6, true)⟩,
  ⟨some 9, .call { callee := .value (.func 44), args := #[(.tmp 8), (.const (.int .i64 0)), (.const (.int .i64 2147483647))], argTypes := #[3, 3, 3] }, some (6, true)⟩,
  ⟨some 10, .pick (.tmp 6) (.tmp 9) (.const (.bool false)), none⟩,
  ⟨some 11, .move (.tmp 10), none⟩,
  ⟨some 12, .fieldAddr 43 (.tmp 1) 0, some (11, true)⟩,
  ⟨some 13, .load 3 (.tmp 12), some (11, true)⟩,
  ⟨some 14, .fieldAddr 43 (.tmp 1) 1, some (11, true)⟩,
  ⟨some 15, .load 3 (.tmp 14), some (11, true)⟩,
  ⟨some 16, .binOp .lss 3 (.tmp 13) (.tmp 15) 3, some (11, true)⟩,
  ⟨some 17, .pick (.tmp 11) (.tmp 16) (.const (.bool false)), none⟩,
  ⟨some 18, .move (.tmp 17), none⟩,
  ⟨some 19, .fieldAddr 43 (.tmp 1) 2, some (18, true)⟩,
  ⟨some 20, .load 9 (.tmp 19), some (18, true)⟩,
  ⟨some 21, .call { callee := .builtin .len, args := #[(.tmp 20)], argTypes := #[9] }, some (18, true)⟩,
  ⟨some 22, .call { callee := .value (.func 44), args := #[(.tmp 21), (.const (.int .i64 1)), (.const (.int .i64 4000))], argTypes := #[3, 3, 3] }, some (18, true)⟩,
  ⟨some 23, .pick (.tmp 18) (.tmp 22) (.const (.bool false)), none⟩,
  ⟨some 24, .move (.tmp 23), none⟩,
  ⟨some 25, .fieldAddr 43 (.tmp 1) 3, some (24, true)⟩,
  ⟨some 26, .load 3 (.tmp 25), some (24, true)⟩,
  ⟨some 27, .call { callee := .value (.func 44), args := #[(.tmp 26), (.const (.int .i64 1)), (.const (.int .i64 3))], argTypes := #[3, 3, 3] }, some (24, true)⟩,
  ⟨some 28, .pick (.tmp 24) (.tmp 27) (.const (.bool false)), none⟩,
  ⟨some 29, .move (.tmp 28), none⟩,
  ⟨some 30, .fieldAddr 43 (.tmp 1) 4, some (29, true)⟩,
  ⟨some 31, .load 3 (.tmp 30), some (29, true)⟩,
  ⟨some 32, .call { callee := .value (.func 44), args := #[(.tmp 31), (.const (.int .i64 0)), (.const (.int .i64 65535))], argTypes := #[3, 3, 3] }, some (29, true)⟩,
  ⟨some 33, .pick (.tmp 29) (.tmp 32) (.const (.bool false)), none⟩,
  ⟨some 34, .move (.tmp 33), none⟩,
  ⟨some 35, .fieldAddr 43 (.tmp 1) 5, some (34, true)⟩,
  ⟨some 36, .load 9 (.tmp 35), some (34, true)⟩,
  ⟨some 37, .call { callee := .builtin .len, args := #[(.tmp 36)], argTypes := #[9] }, some (34, true)⟩,
  ⟨some 38, .binOp .leq 3 (.tmp 37) (.const (.int .i64 4000000)) 3, some (34, true)⟩,
  ⟨some 39, .pick (.tmp 34) (.tmp 38) (.const (.bool false)), none⟩,
  ⟨some 2, .assign (.tmp 39), none⟩]
noncomputable def p31 : PC := (.seq (.reg r31_0) (.seq (.reg r31_1) .ret))
theorem comp31 : (Try.f31.body.map (comp E Try.f31.ntmps)) = some p31 := by kernel_rfl
theorem ev31 {args : List AV} {S : St} {P : AV → St → Prop} (hn : Nat.ble args.length 40 = true) (h : EndsA E 40 [.c p31] .nrm (initTm 0 args .leaf) S (RetQ E [.tmp 2] P)) : ∃ r S', EvA E 31 args S r S' ∧ P r S' := ev_ends (fn := Try.f31) (by kernel_rfl) rfl comp31 (by kernel_rfl) (by kernel_rfl) hn h
/-! hindsight/info.number -/
def r32_0 : List POp := [
  ⟨some 4, .assign (.const (.slice none 0 0)), none⟩]
def r32_1 : List POp := [
  ⟨some 5, .move (.tmp 1), none⟩,
  ⟨some 6, .binOp .geq 3 (.tmp 5) (.const (.int .i64 128)) 3, none⟩]
def r32_2 : List POp := [
  ⟨some 9, .move (.tmp 0), none⟩,
  ⟨some 10, .move (.tmp 1), none⟩,
  ⟨some 11, .convert 3 5 (.tmp 10), none⟩,
  ⟨some 12, .binOp .or 5 (.tmp 11) (.const (.int .u8 128)) 5, none⟩,
  ⟨some 13, .buildSlice 28 1 #[(0, (.tmp 12))], none⟩,
  ⟨some 14, .call { callee := .builtin .append, args := #[(.tmp 9), (.tmp 13)], argTypes := #[28, 28] }, none⟩,
  ⟨some 0, .assign (.tmp 14), none⟩]
def r32_3 : List POp := [
  ⟨some 7, .move (.tmp 1), none⟩,
  ⟨some 8, .binOp .shr 3 (.tmp 7) (.const (.int .u64 7)) 90, none⟩,
  ⟨some 1, .assign (.tmp 8), none⟩]
noncomputable def b32_4 : PC := (.seq (.seq (.reg r32_1) (.cond (.tmp 6) .skip (.exit 0))) (.seq (.block 1 (.reg r32_2)) (.reg r32_3)))
def r32_5 : List POp := [
  ⟨some 15, .move (.tmp 0), none⟩,
  ⟨some 16, .move (.tmp 1), none⟩,
  ⟨some 17, .convert 3 5 (.tmp 16), none⟩,
  ⟨some 18, .buildSlice 28 1 #[(0, (.tmp 17))], none⟩,
  ⟨some 19, .call { callee := .builtin .append, args := #[(.tmp 15), (.tmp 18)], argTypes := #[28, 28] }, none⟩,
  ⟨some 4, .assign (.tmp 19), none⟩]
noncomputable def p32 : PC := (.seq (.reg r32_0) (.seq (.block 0 (.loop b32_4)) (.seq (.reg r32_5) .ret)))
theorem comp32 : (Try.f32.body.map (comp E Try.f32.ntmps)) = some p32 := by kernel_rfl
theorem ev32 {args : List AV} {S : St} {P : AV → St → Prop} (hn : Nat.ble args.length 20 = true) (h : EndsA E 20 [.c p32] .nrm (initTm 0 args .leaf) S (RetQ E [.tmp 4] P)) : ∃ r S', EvA E 32 args S r S' ∧ P r S' := ev_ends (fn := Try.f32) (by kernel_rfl) rfl comp32 (by kernel_rfl) (by kernel_rfl) hn h
/-! hindsight/info.text -/
def r33_0 : List POp := [
  ⟨some 4, .assign (.const (.slice none 0 0)), none⟩]
def r33_1 : List POp := [
  ⟨some 5, .move (.tmp 0), none⟩,
  ⟨some 6, .move (.tmp 1), none⟩,
  ⟨some 7, .call { callee := .builtin .len, args := #[(.tmp 6)], argTypes := #[9] }, none⟩,
  ⟨some 8, .call { callee := .value (.func 32), args := #[(.tmp 5), (.tmp 7)], argTypes := #[28, 3] }, none⟩,
  ⟨some 9, .move (.tmp 1), none⟩,
  ⟨some 10, .call { callee := .builtin .append, args := #[(.tmp 8), (.tmp 9)], argTypes := #[28, 9] }, none⟩,
  ⟨some 4, .assign (.tmp 10), none⟩]
noncomputable def p33 : PC := (.seq (.reg r33_0) (.seq (.reg r33_1) .ret))
theorem comp33 : (Try.f33.body.map (comp E Try.f33.ntmps)) = some p33 := by kernel_rfl
theorem ev33 {args : List AV} {S : St} {P : AV → St → Prop} (hn : Nat.ble args.length 11 = true) (h : EndsA E 11 [.c p33] .nrm (initTm 0 args .leaf) S (RetQ E [.tmp 4] P)) : ∃ r S', EvA E 33 args S r S' ∧ P r S' := ev_ends (fn := Try.f33) (by kernel_rfl) rfl comp33 (by kernel_rfl) (by kernel_rfl) hn h
/-! (*hindsight/info.reader).number -/
def r34_0 : List POp := [
  ⟨some 4, .assign (.const (.int .i64 0)), none⟩]
def r34_1 : List POp := [
  ⟨some 5, .assign (.const (.int .i64 0)), none⟩]
def r34_2 : List POp := [
  ⟨some 8, .move (.tmp 0), none⟩,
  ⟨some 9, .nilCheck (.tmp 8), none⟩,
  ⟨some 10, .fieldAddr 75 (.tmp 9) 0, none⟩,
  ⟨some 11, .load 28 (.tmp 10), none⟩,
  ⟨some 12, .move (.tmp 0), none⟩,
  ⟨some 13, .nilCheck (.tmp 12), none⟩,
  ⟨some 14, .fieldAddr 75 (.tmp 13) 0, none⟩,
  ⟨some 15, .load 28 (.tmp 14), none⟩,
  ⟨some 16, .call { callee := .builtin .len, args := #[(.tmp 15)], argTypes := #[28] }, none⟩,
  ⟨some 17, .call { callee := .builtin .min, args := #[(.tmp 16), (.const (.int .i64 5))], argTypes := #[3, 3] }, none⟩,
  ⟨some 18, .slice 28 (.tmp 11) none (some (.tmp 17)) none, none⟩,
  ⟨some 19, .call { callee := .builtin .len, args := #[(.tmp 18)], argTypes := #[28] }, none⟩,
  ⟨some 20, .move (.const (.int .i64 0)), none⟩]
def r34_3 : List POp := [
  ⟨some 21, .binOp .lss 3 (.tmp 20) (.tmp 19) 3, none⟩]
def r34_4 : List POp := [
  ⟨some 22, .move (.tmp 20), none⟩,
  ⟨some 23, .indexAddr 28 (.tmp 18) (.tmp 20), none⟩,
  ⟨some 24, .load 5 (.tmp 23), none⟩,
  ⟨some 6, .assign (.tmp 22), none⟩,
  ⟨some 7, .assign (.tmp 24), none⟩]
def r34_5 : List POp := [
  ⟨some 25, .move (.tmp 5), none⟩,
  ⟨some 26, .move (.tmp 7), none⟩,
  ⟨some 27, .binOp .andNot 5 (.tmp 26) (.const (.int .u8 128)) 5, none⟩,
  ⟨some 28, .convert 5 3 (.tmp 27), none⟩,
  ⟨some 29, .move (.tmp 6), none⟩,
  ⟨some 30, .binOp .mul 3 (.const (.int .i64 7)) (.tmp 29) 3, none⟩,
  ⟨some 31, .binOp .shl 3 (.tmp 28) (.tmp 30) 3, none⟩,
  ⟨some 32, .binOp .or 3 (.tmp 25) (.tmp 31) 3, none⟩,
  ⟨some 5, .assign (.tmp 32), none⟩]
def r34_6 : List POp := [
  ⟨some 33, .move (.tmp 7), none⟩,
  ⟨some 34, .binOp .and 5 (.tmp 33) (.const (.int .u8 128)) 5, none⟩,
  ⟨some 35, .binOp .neq 5 (.tmp 34) (.const (.int .u8 0)) 5, none⟩]
def r34_7 : List POp := [
  ⟨some 36, .move (.tmp 6), none⟩,
  ⟨some 37, .binOp .gtr 3 (.tmp 36) (.const (.int .i64 0)) 3, none⟩,
  ⟨some 38, .move (.tmp 37), none⟩,
  ⟨some 39, .move (.tmp 7), some (38, true)⟩,
  ⟨some 40, .binOp .eql 5 (.tmp 39) (.const (.int .u8 0)) 5, some (38, true)⟩,
  ⟨some 41, .pick (.tmp 38) (.tmp 40) (.const (.bool false)), none⟩,
  ⟨some 42, .move (.tmp 41), none⟩,
  ⟨some 43, .move (.tmp 5), some (42, false)⟩,
  ⟨some 44, .move (.tmp 1), some (42, false)⟩,
  ⟨some 45, .binOp .gtr 3 (.tmp 43) (.tmp 44) 3, some (42, false)⟩,
  ⟨some 46, .pick (.tmp 42) (.const (.bool true)) (.tmp 45), none⟩]
def r34_8 : List POp := [
  ⟨some 47, .move (.tmp 0), none⟩,
  ⟨some 48, .move (.tmp 0), none⟩,
  ⟨some 49, .nilCheck (.tmp 48), none⟩,
  ⟨some 50, .fieldAddr 75 (.tmp 49) 0, none⟩,
  ⟨some 51, .load 28 (.tmp 50), none⟩,
  ⟨some 52, .move (.tmp 6), none⟩,
  ⟨some 53, .binOp .add 3 (.tmp 52) (.const (.int .i64 1)) 3, none⟩,
  ⟨some 54, .slice 28 (.tmp 51) (some (.tmp 53)) none none, none⟩,
  ⟨some 55, .nilCheck (.tmp 47), none⟩,
  ⟨some 56, .fieldAddr 75 (.tmp 55) 0, none⟩,
  ⟨none, .store 28 (.tmp 56) (.tmp 54), none⟩]
def r34_9 : List POp := [
  ⟨some 57, .move (.tmp 5), none⟩,
  ⟨some 4, .assign (.tmp 57), none⟩]
def r34_10 : List POp := [
  ⟨some 58, .binOp .add 3 (.tmp 20) (.const (.int .i64 1)) 3, none⟩,
  ⟨some 20, .move (.tmp 58), none⟩]
noncomputable def b34_11 : PC := (.seq (.reg r34_3) (.seq (.cond (.tmp 21) .skip (.exit 0)) (.seq (.block 1 (.seq (.reg r34_4) (.seq (.reg r34_5) (.seq (.seq (.reg r34_6) (.cond (.tmp 35) (.exit 1) .skip)) (.seq (.seq (.reg r34_7) (.cond (.tmp 46) (.exit 0) .skip)) (.seq (.reg r34_8) (.seq (.reg r34_9) .ret))))))) (.reg r34_10))))
def r34_12 : List POp := [
  ⟨some 59, .move (.tmp 0), none⟩,
  ⟨some 60, .move (.tmp 0), none⟩,
  ⟨some 61, .nilCheck (.tmp 59), none⟩,
  ⟨some 62, .fieldAddr 75 (.tmp 61) 0, none⟩,
  ⟨none, .store 28 (.tmp 62) (.const (.slice none 0 0)), none⟩,
  ⟨some 63, .nilCheck (.tmp 60), none⟩,
  ⟨some 64, .fieldAddr 75 (.tmp 63) 1, none⟩,
  ⟨none, .store 4 (.tmp 64) (.const (.bool true)), none⟩]
def r34_13 : List POp := [
  ⟨some 4, .assign (.const (.int .i64 0)), none⟩]
noncomputable def p34 : PC := (.seq (.reg r34_0) (.seq (.reg r34_1) (.seq (.seq (.regD 13 r34_2) (.block 0 (.loop b34_11))) (.seq (.reg r34_12) (.seq (.reg r34_13) .ret)))))
theorem comp34 : (Try.f34.body.map (comp E Try.f34.ntmps)) = some p34 := by kernel_rfl
theorem ev34 {args : List AV} {S : St} {P : AV → St → Prop} (hn : Nat.ble args.length 65 = true) (h : EndsA E 65 [.c p34] .nrm (initTm 0 args .leaf) S (RetQ E [.tmp 4] P)) : ∃ r S', EvA E 34 args S r S' ∧ P r S' := ev_ends (fn := Try.f34) (by kernel_rfl) rfl comp34 (by kernel_rfl) (by kernel_rfl) hn h
/-! (*hindsight/info.reader).text -/
def r35_0 : List POp := [
  ⟨some 4, .assign (.const (.string ⟨#[]⟩)), none⟩]
def r35_1 : List POp := [
  ⟨some 7, .move (.tmp 0), none⟩,
  ⟨some 8, .move (.tmp 1), none⟩,
  ⟨some 9, .call { callee := .value (.func 34), args := #[(.tmp 7), (.tmp 8)], argTypes := #[73, 3] }, none⟩,
  ⟨some 5, .assign (.tmp 9), none⟩]
def r35_2 : List POp := [
  ⟨some 10, .move (.tmp 5), none⟩,
  ⟨some 11, .move (.tmp 0), none⟩,
  ⟨some 12, .nilCheck (.tmp 11), none⟩,
  ⟨some 13, .fieldAddr 75 (.tmp 12) 0, none⟩,
  ⟨some 14, .load 28 (.tmp 13), none⟩,
  ⟨some 15, .call { callee := .builtin .len, args := #[(.tmp 14)], argTypes := #[28] }, none⟩,
  ⟨some 16, .binOp .gtr 3 (.tmp 10) (.tmp 15) 3, none⟩]
def r35_3 : List POp := [
  ⟨some 17, .move (.tmp 0), none⟩,
  ⟨some 18, .move (.tmp 0), none⟩,
  ⟨some 19, .nilCheck (.tmp 17), none⟩,
  ⟨some 20, .fieldAddr 75 (.tmp 19) 0, none⟩,
  ⟨none, .store 28 (.tmp 20) (.const (.slice none 0 0)), none⟩,
  ⟨some 21, .nilCheck (.tmp 18), none⟩,
  ⟨some 22, .fieldAddr 75 (.tmp 21) 1, none⟩,
  ⟨none, .store 4 (.tmp 22) (.const (.bool true)), none⟩]
def r35_4 : List POp := [
  ⟨some 4, .assign (.const (.string ⟨#[]⟩)), none⟩]
def r35_5 : List POp := [
  ⟨some 23, .move (.tmp 0), none⟩,
  ⟨some 24, .nilCheck (.tmp 23), none⟩,
  ⟨some 25, .fieldAddr 75 (.tmp 24) 0, none⟩,
  ⟨some 26, .load 28 (.tmp 25), none⟩,
  ⟨some 27, .move (.tmp 5), none⟩,
  ⟨some 28, .slice 28 (.tmp 26) none (some (.tmp 27)) none, none⟩,
  ⟨some 29, .convert 28 9 (.tmp 28), none⟩,
  ⟨some 6, .assign (.tmp 29), none⟩]
def r35_6 : List POp := [
  ⟨some 30, .move (.tmp 0), none⟩,
  ⟨some 31, .move (.tmp 0), none⟩,
  ⟨some 32, .nilCheck (.tmp 31), none⟩,
  ⟨some 33, .fieldAddr 75 (.tmp 32) 0, none⟩,
  ⟨some 34, .load 28 (.tmp 33), none⟩,
  ⟨some 35, .move (.tmp 5), none⟩,
  ⟨some 36, .slice 28 (.tmp 34) (some (.tmp 35)) none none, none⟩,
  ⟨some 37, .nilCheck (.tmp 30), none⟩,
  ⟨some 38, .fieldAddr 75 (.tmp 37) 0, none⟩,
  ⟨none, .store 28 (.tmp 38) (.tmp 36), none⟩]
def r35_7 : List POp := [
  ⟨some 39, .move (.tmp 6), none⟩,
  ⟨some 4, .assign (.tmp 39), none⟩]
noncomputable def p35 : PC := (.seq (.reg r35_0) (.seq (.reg r35_1) (.seq (.seq (.reg r35_2) (.cond (.tmp 16) (.seq (.reg r35_3) (.seq (.reg r35_4) .ret)) .skip)) (.seq (.reg r35_5) (.seq (.reg r35_6) (.seq (.reg r35_7) .ret))))))
theorem comp35 : (Try.f35.body.map (comp E Try.f35.ntmps)) = some p35 := by kernel_rfl
theorem ev35 {args : List AV} {S : St} {P : AV → St → Prop} (hn : Nat.ble args.length 40 = true) (h : EndsA E 40 [.c p35] .nrm (initTm 0 args .leaf) S (RetQ E [.tmp 4] P)) : ∃ r S', EvA E 35 args S r S' ∧ P r S' := ev_ends (fn := Try.f35) (by kernel_rfl) rfl comp35 (by kernel_rfl) (by kernel_rfl) hn h
/-! hindsight/info.in -/
def r44_0 : List POp := [
  ⟨some 6, .assign (.const (.bool false)), none⟩]
def r44_1 : List POp := [
  ⟨some 7, .move (.tmp 0), none⟩,
  ⟨some 8, .move (.tmp 1), none⟩,
  ⟨some 9, .binOp .geq 3 (.tmp 7) (.tmp 8) 3, none⟩,
  ⟨some 10, .move (.tmp 9), none⟩,
  ⟨some 11, .move (.tmp 0), some (10, true)⟩,
  ⟨some 12, .move (.tmp 2), some (10, true)⟩,
  ⟨some 13, .binOp .leq 3 (.tmp 11) (.tmp 12) 3, some (10, true)⟩,
  ⟨some 14, .pick (.tmp 10) (.tmp 13) (.const (.bool false)), none⟩,
  ⟨some 6, .assign (.tmp 14), none⟩]
noncomputable def p44 : PC := (.seq (.reg r44_0) (.seq (.reg r44_1) .ret))
theorem comp44 : (Try.f44.body.map (comp E Try.f44.ntmps)) = some p44 := by kernel_rfl
theorem ev44 {args : List AV} {S : St} {P : AV → St → Prop} (hn : Nat.ble args.length 15 = true) (h : EndsA E 15 [.c p44] .nrm (initTm 0 args .leaf) S (RetQ E [.tmp 6] P)) : ∃ r S', EvA E 44 args S r S' ∧ P r S' := ev_ends (fn := Try.f44) (by kernel_rfl) rfl comp44 (by kernel_rfl) (by kernel_rfl) hn h
end Go.Proofs.Ytmmpcomfhcpicaa
