/-
  The compiled code of functions of this seat's program, and facts on its types: written by program (wip/GenPC.lean); the kernel checks each row.
-/
import Derived.Test.YtmmpcomfhcpicaaRows
import Derived.Test.YtmmpcomfhcpicaaAbs24
set_option linter.unusedSimpArgs false
set_option linter.unusedVariables false
set_option maxRecDepth 100000
namespace Go.Proofs.Ytmmpcomfhcpicaa.Cmp0
open Go.Abs
noncomputable def E : Env := plainEnv Try.prog (fun t _ => false) (fun _ _ => none) (extOf [62] [])
theorem load2 {tm : PM AV} {S : St} {d : Option Tmp} (x : Operand) : opV E tm d (.load 2 x) S = loadC false 1 (E.ev tm x) S := load_chk 2 false 1 (by kernel_rfl) x
theorem store2 {tm : PM AV} {S : St} {d : Option Tmp} (x y : Operand) : opV E tm d (.store 2 x y) S = storeC 1 (E.ev tm x) (E.ev tm y) S := store_chk (b := false) 2 1 (by kernel_rfl) x y
theorem load3 {tm : PM AV} {S : St} {d : Option Tmp} (x : Operand) : opV E tm d (.load 3 x) S = loadC false 1 (E.ev tm x) S := load_chk 3 false 1 (by kernel_rfl) x
theorem store3 {tm : PM AV} {S : St} {d : Option Tmp} (x y : Operand) : opV E tm d (.store 3 x y) S = storeC 1 (E.ev tm x) (E.ev tm y) S := store_chk (b := false) 3 1 (by kernel_rfl) x y
theorem load4 {tm : PM AV} {S : St} {d : Option Tmp} (x : Operand) : opV E tm d (.load 4 x) S = loadC false 1 (E.ev tm x) S := load_chk 4 false 1 (by kernel_rfl) x
theorem store4 {tm : PM AV} {S : St} {d : Option Tmp} (x y : Operand) : opV E tm d (.store 4 x y) S = storeC 1 (E.ev tm x) (E.ev tm y) S := store_chk (b := false) 4 1 (by kernel_rfl) x y
theorem load5 {tm : PM AV} {S : St} {d : Option Tmp} (x : Operand) : opV E tm d (.load 5 x) S = loadC false 1 (E.ev tm x) S := load_chk 5 false 1 (by kernel_rfl) x
theorem store5 {tm : PM AV} {S : St} {d : Option Tmp} (x y : Operand) : opV E tm d (.store 5 x y) S = storeC 1 (E.ev tm x) (E.ev tm y) S := store_chk (b := false) 5 1 (by kernel_rfl) x y
theorem load6 {tm : PM AV} {S : St} {d : Option Tmp} (x : Operand) : opV E tm d (.load 6 x) S = loadC false 1 (E.ev tm x) S := load_chk 6 false 1 (by kernel_rfl) x
theorem store6 {tm : PM AV} {S : St} {d : Option Tmp} (x y : Operand) : opV E tm d (.store 6 x y) S = storeC 1 (E.ev tm x) (E.ev tm y) S := store_chk (b := false) 6 1 (by kernel_rfl) x y
theorem load7 {tm : PM AV} {S : St} {d : Option Tmp} (x : Operand) : opV E tm d (.load 7 x) S = loadC true 4 (E.ev tm x) S := load_chk 7 true 4 (by kernel_rfl) x
theorem store7 {tm : PM AV} {S : St} {d : Option Tmp} (x y : Operand) : opV E tm d (.store 7 x y) S = storeC 4 (E.ev tm x) (E.ev tm y) S := store_chk (b := true) 7 4 (by kernel_rfl) x y
theorem load8 {tm : PM AV} {S : St} {d : Option Tmp} (x : Operand) : opV E tm d (.load 8 x) S = loadC true 4 (E.ev tm x) S := load_chk 8 true 4 (by kernel_rfl) x
theorem store8 {tm : PM AV} {S : St} {d : Option Tmp} (x y : Operand) : opV E tm d (.store 8 x y) S = storeC 4 (E.ev tm x) (E.ev tm y) S := store_chk (b := true) 8 4 (by kernel_rfl) x y
theorem load9 {tm : PM AV} {S : St} {d : Option Tmp} (x : Operand) : opV E tm d (.load 9 x) S = loadC false 1 (E.ev tm x) S := load_chk 9 false 1 (by kernel_rfl) x
theorem store9 {tm : PM AV} {S : St} {d : Option Tmp} (x y : Operand) : opV E tm d (.store 9 x y) S = storeC 1 (E.ev tm x) (E.ev tm y) S := store_chk (b := false) 9 1 (by kernel_rfl) x y
theorem load10 {tm : PM AV} {S : St} {d : Option Tmp} (x : Operand) : opV E tm d (.load 10 x) S = loadC false 1 (E.ev tm x) S := load_chk 10 false 1 (by kernel_rfl) x
theorem store10 {tm : PM AV} {S : St} {d : Option Tmp} (x y : Operand) : opV E tm d (.store 10 x y) S = storeC 1 (E.ev tm x) (E.ev tm y) S := store_chk (b := false) 10 1 (by kernel_rfl) x y
theorem load11 {tm : PM AV} {S : St} {d : Option Tmp} (x : Operand) : opV E tm d (.load 11 x) S = loadC false 1 (E.ev tm x) S := load_chk 11 false 1 (by kernel_rfl) x
theorem store11 {tm : PM AV} {S : St} {d : Option Tmp} (x y : Operand) : opV E tm d (.store 11 x y) S = storeC 1 (E.ev tm x) (E.ev tm y) S := store_chk (b := false) 11 1 (by kernel_rfl) x y
theorem load12 {tm : PM AV} {S : St} {d : Option Tmp} (x : Operand) : opV E tm d (.load 12 x) S = loadC false 1 (E.ev tm x) S := load_chk 12 false 1 (by kernel_rfl) x
theorem store12 {tm : PM AV} {S : St} {d : Option Tmp} (x y : Operand) : opV E tm d (.store 12 x y) S = storeC 1 (E.ev tm x) (E.ev tm y) S := store_chk (b := false) 12 1 (by kernel_rfl) x y
theorem load13 {tm : PM AV} {S : St} {d : Option Tmp} (x : Operand) : opV E tm d (.load 13 x) S = loadC true 2 (E.ev tm x) S := load_chk 13 true 2 (by kernel_rfl) x
theorem store13 {tm : PM AV} {S : St} {d : Option Tmp} (x y : Operand) : opV E tm d (.store 13 x y) S = storeC 2 (E.ev tm x) (E.ev tm y) S := store_chk (b := true) 13 2 (by kernel_rfl) x y
theorem load14 {tm : PM AV} {S : St} {d : Option Tmp} (x : Operand) : opV E tm d (.load 14 x) S = loadC true 2 (E.ev tm x) S := load_chk 14 true 2 (by kernel_rfl) x
theorem store14 {tm : PM AV} {S : St} {d : Option Tmp} (x y : Operand) : opV E tm d (.store 14 x y) S = storeC 2 (E.ev tm x) (E.ev tm y) S := store_chk (b := true) 14 2 (by kernel_rfl) x y
theorem load15 {tm : PM AV} {S : St} {d : Option Tmp} (x : Operand) : opV E tm d (.load 15 x) S = loadC false 1 (E.ev tm x) S := load_chk 15 false 1 (by kernel_rfl) x
theorem store15 {tm : PM AV} {S : St} {d : Option Tmp} (x y : Operand) : opV E tm d (.store 15 x y) S = storeC 1 (E.ev tm x) (E.ev tm y) S := store_chk (b := false) 15 1 (by kernel_rfl) x y
theorem load16 {tm : PM AV} {S : St} {d : Option Tmp} (x : Operand) : opV E tm d (.load 16 x) S = loadC false 1 (E.ev tm x) S := load_chk 16 false 1 (by kernel_rfl) x
theorem store16 {tm : PM AV} {S : St} {d : Option Tmp} (x y : Operand) : opV E tm d (.store 16 x y) S = storeC 1 (E.ev tm x) (E.ev tm y) S := store_chk (b := false) 16 1 (by kernel_rfl) x y
theorem load17 {tm : PM AV} {S : St} {d : Option Tmp} (x : Operand) : opV E tm d (.load 17 x) S = loadC false 1 (E.ev tm x) S := load_chk 17 false 1 (by kernel_rfl) x
theorem store17 {tm : PM AV} {S : St} {d : Option Tmp} (x y : Operand) : opV E tm d (.store 17 x y) S = storeC 1 (E.ev tm x) (E.ev tm y) S := store_chk (b := false) 17 1 (by kernel_rfl) x y
theorem load18 {tm : PM AV} {S : St} {d : Option Tmp} (x : Operand) : opV E tm d (.load 18 x) S = loadC true 1 (E.ev tm x) S := load_chk 18 true 1 (by kernel_rfl) x
theorem store18 {tm : PM AV} {S : St} {d : Option Tmp} (x y : Operand) : opV E tm d (.store 18 x y) S = storeC 1 (E.ev tm x) (E.ev tm y) S := store_chk (b := true) 18 1 (by kernel_rfl) x y
theorem load19 {tm : PM AV} {S : St} {d : Option Tmp} (x : Operand) : opV E tm d (.load 19 x) S = loadC true 1 (E.ev tm x) S := load_chk 19 true 1 (by kernel_rfl) x
theorem store19 {tm : PM AV} {S : St} {d : Option Tmp} (x y : Operand) : opV E tm d (.store 19 x y) S = storeC 1 (E.ev tm x) (E.ev tm y) S := store_chk (b := true) 19 1 (by kernel_rfl) x y
theorem load21 {tm : PM AV} {S : St} {d : Option Tmp} (x : Operand) : opV E tm d (.load 21 x) S = loadC false 1 (E.ev tm x) S := load_chk 21 false 1 (by kernel_rfl) x
theorem store21 {tm : PM AV} {S : St} {d : Option Tmp} (x y : Operand) : opV E tm d (.store 21 x y) S = storeC 1 (E.ev tm x) (E.ev tm y) S := store_chk (b := false) 21 1 (by kernel_rfl) x y
theorem load22 {tm : PM AV} {S : St} {d : Option Tmp} (x : Operand) : opV E tm d (.load 22 x) S = loadC false 1 (E.ev tm x) S := load_chk 22 false 1 (by kernel_rfl) x
theorem store22 {tm : PM AV} {S : St} {d : Option Tmp} (x y : Operand) : opV E tm d (.store 22 x y) S = storeC 1 (E.ev tm x) (E.ev tm y) S := store_chk (b := false) 22 1 (by kernel_rfl) x y
theorem und22 : E.und 22 = some (.slice 41) := by kernel_rfl
theorem sl22 : slIs E 22 4 = true := by kernel_rfl
theorem el22 : elIs E 22 41 true 4 32 = true := by kernel_rfl
theorem bs22 {tm : PM AV} {S : St} {d : Option Tmp} (n : Nat) (ps : Array (Nat × Operand)) : opV E tm d (.buildSlice 22 n ps) S = buildSliceA E 22 n (ps.toList.map fun p => (p.1, E.ev tm p.2)) S := rfl
theorem app22 {tm : PM AV} {S : St} {d : Option Tmp} (x y : Operand) (t1 : TypeId) : opV E tm d (.call (Call.mk (.builtin .append) #[x, y] #[22, t1])) S = builtinA E false .append [22, t1] [E.ev tm x, E.ev tm y] S := rfl
theorem index22 {tm : PM AV} {S : St} {d : Option Tmp} (x y : Operand) : opV E tm d (.indexAddr 22 x y) S = idxV 4 (E.ev tm x) (int? (E.ev tm y)) S := index_chk 22 4 (by kernel_rfl) x y
theorem len22 {tm : PM AV} {S : St} {d : Option Tmp} (x : Operand) : opV E tm d (.call (Call.mk (.builtin .len) #[x] #[22])) S = lenV (E.ev tm x) S := op_len (t := 22) (e := 41) (by kernel_rfl) x
theorem load23 {tm : PM AV} {S : St} {d : Option Tmp} (x : Operand) : opV E tm d (.load 23 x) S = loadC false 1 (E.ev tm x) S := load_chk 23 false 1 (by kernel_rfl) x
theorem store23 {tm : PM AV} {S : St} {d : Option Tmp} (x y : Operand) : opV E tm d (.store 23 x y) S = storeC 1 (E.ev tm x) (E.ev tm y) S := store_chk (b := false) 23 1 (by kernel_rfl) x y
theorem und23 : E.und 23 = some (.slice 43) := by kernel_rfl
theorem sl23 : slIs E 23 6 = true := by kernel_rfl
theorem el23 : elIs E 23 43 true 6 64 = true := by kernel_rfl
theorem bs23 {tm : PM AV} {S : St} {d : Option Tmp} (n : Nat) (ps : Array (Nat × Operand)) : opV E tm d (.buildSlice 23 n ps) S = buildSliceA E 23 n (ps.toList.map fun p => (p.1, E.ev tm p.2)) S := rfl
theorem app23 {tm : PM AV} {S : St} {d : Option Tmp} (x y : Operand) (t1 : TypeId) : opV E tm d (.call (Call.mk (.builtin .append) #[x, y] #[23, t1])) S = builtinA E false .append [23, t1] [E.ev tm x, E.ev tm y] S := rfl
theorem index23 {tm : PM AV} {S : St} {d : Option Tmp} (x y : Operand) : opV E tm d (.indexAddr 23 x y) S = idxV 6 (E.ev tm x) (int? (E.ev tm y)) S := index_chk 23 6 (by kernel_rfl) x y
theorem len23 {tm : PM AV} {S : St} {d : Option Tmp} (x : Operand) : opV E tm d (.call (Call.mk (.builtin .len) #[x] #[23])) S = lenV (E.ev tm x) S := op_len (t := 23) (e := 43) (by kernel_rfl) x
theorem load24 {tm : PM AV} {S : St} {d : Option Tmp} (x : Operand) : opV E tm d (.load 24 x) S = loadC true 2 (E.ev tm x) S := load_chk 24 true 2 (by kernel_rfl) x
theorem store24 {tm : PM AV} {S : St} {d : Option Tmp} (x y : Operand) : opV E tm d (.store 24 x y) S = storeC 2 (E.ev tm x) (E.ev tm y) S := store_chk (b := true) 24 2 (by kernel_rfl) x y
theorem load25 {tm : PM AV} {S : St} {d : Option Tmp} (x : Operand) : opV E tm d (.load 25 x) S = loadC true 2 (E.ev tm x) S := load_chk 25 true 2 (by kernel_rfl) x
theorem store25 {tm : PM AV} {S : St} {d : Option Tmp} (x y : Operand) : opV E tm d (.store 25 x y) S = storeC 2 (E.ev tm x) (E.ev tm y) S := store_chk (b := true) 25 2 (by kernel_rfl) x y
theorem load28 {tm : PM AV} {S : St} {d : Option Tmp} (x : Operand) : opV E tm d (.load 28 x) S = loadC false 1 (E.ev tm x) S := load_chk 28 false 1 (by kernel_rfl) x
theorem store28 {tm : PM AV} {S : St} {d : Option Tmp} (x y : Operand) : opV E tm d (.store 28 x y) S = storeC 1 (E.ev tm x) (E.ev tm y) S := store_chk (b := false) 28 1 (by kernel_rfl) x y
theorem und28 : E.und 28 = some (.slice 5) := by kernel_rfl
theorem sl28 : slIs E 28 1 = true := by kernel_rfl
theorem el28 : elIs E 28 5 false 1 1 = true := by kernel_rfl
theorem bs28 {tm : PM AV} {S : St} {d : Option Tmp} (n : Nat) (ps : Array (Nat × Operand)) : opV E tm d (.buildSlice 28 n ps) S = buildSliceA E 28 n (ps.toList.map fun p => (p.1, E.ev tm p.2)) S := rfl
theorem app28 {tm : PM AV} {S : St} {d : Option Tmp} (x y : Operand) (t1 : TypeId) : opV E tm d (.call (Call.mk (.builtin .append) #[x, y] #[28, t1])) S = builtinA E false .append [28, t1] [E.ev tm x, E.ev tm y] S := rfl
theorem index28 {tm : PM AV} {S : St} {d : Option Tmp} (x y : Operand) : opV E tm d (.indexAddr 28 x y) S = idxV 1 (E.ev tm x) (int? (E.ev tm y)) S := index_chk 28 1 (by kernel_rfl) x y
theorem len28 {tm : PM AV} {S : St} {d : Option Tmp} (x : Operand) : opV E tm d (.call (Call.mk (.builtin .len) #[x] #[28])) S = lenV (E.ev tm x) S := op_len (t := 28) (e := 5) (by kernel_rfl) x
theorem load30 {tm : PM AV} {S : St} {d : Option Tmp} (x : Operand) : opV E tm d (.load 30 x) S = loadC false 1 (E.ev tm x) S := load_chk 30 false 1 (by kernel_rfl) x
theorem store30 {tm : PM AV} {S : St} {d : Option Tmp} (x y : Operand) : opV E tm d (.store 30 x y) S = storeC 1 (E.ev tm x) (E.ev tm y) S := store_chk (b := false) 30 1 (by kernel_rfl) x y
theorem load34 {tm : PM AV} {S : St} {d : Option Tmp} (x : Operand) : opV E tm d (.load 34 x) S = loadC false 1 (E.ev tm x) S := load_chk 34 false 1 (by kernel_rfl) x
theorem store34 {tm : PM AV} {S : St} {d : Option Tmp} (x y : Operand) : opV E tm d (.store 34 x y) S = storeC 1 (E.ev tm x) (E.ev tm y) S := store_chk (b := false) 34 1 (by kernel_rfl) x y
theorem und34 : E.und 34 = some (.slice 51) := by kernel_rfl
theorem sl34 : slIs E 34 4 = true := by kernel_rfl
theorem el34 : elIs E 34 51 true 4 32 = true := by kernel_rfl
theorem bs34 {tm : PM AV} {S : St} {d : Option Tmp} (n : Nat) (ps : Array (Nat × Operand)) : opV E tm d (.buildSlice 34 n ps) S = buildSliceA E 34 n (ps.toList.map fun p => (p.1, E.ev tm p.2)) S := rfl
theorem app34 {tm : PM AV} {S : St} {d : Option Tmp} (x y : Operand) (t1 : TypeId) : opV E tm d (.call (Call.mk (.builtin .append) #[x, y] #[34, t1])) S = builtinA E false .append [34, t1] [E.ev tm x, E.ev tm y] S := rfl
theorem index34 {tm : PM AV} {S : St} {d : Option Tmp} (x y : Operand) : opV E tm d (.indexAddr 34 x y) S = idxV 4 (E.ev tm x) (int? (E.ev tm y)) S := index_chk 34 4 (by kernel_rfl) x y
theorem len34 {tm : PM AV} {S : St} {d : Option Tmp} (x : Operand) : opV E tm d (.call (Call.mk (.builtin .len) #[x] #[34])) S = lenV (E.ev tm x) S := op_len (t := 34) (e := 51) (by kernel_rfl) x
theorem load35 {tm : PM AV} {S : St} {d : Option Tmp} (x : Operand) : opV E tm d (.load 35 x) S = loadC false 1 (E.ev tm x) S := load_chk 35 false 1 (by kernel_rfl) x
theorem store35 {tm : PM AV} {S : St} {d : Option Tmp} (x y : Operand) : opV E tm d (.store 35 x y) S = storeC 1 (E.ev tm x) (E.ev tm y) S := store_chk (b := false) 35 1 (by kernel_rfl) x y
theorem und35 : E.und 35 = some (.slice 56) := by kernel_rfl
theorem sl35 : slIs E 35 6 = true := by kernel_rfl
theorem el35 : elIs E 35 56 true 6 64 = true := by kernel_rfl
theorem bs35 {tm : PM AV} {S : St} {d : Option Tmp} (n : Nat) (ps : Array (Nat × Operand)) : opV E tm d (.buildSlice 35 n ps) S = buildSliceA E 35 n (ps.toList.map fun p => (p.1, E.ev tm p.2)) S := rfl
theorem app35 {tm : PM AV} {S : St} {d : Option Tmp} (x y : Operand) (t1 : TypeId) : opV E tm d (.call (Call.mk (.builtin .append) #[x, y] #[35, t1])) S = builtinA E false .append [35, t1] [E.ev tm x, E.ev tm y] S := rfl
theorem index35 {tm : PM AV} {S : St} {d : Option Tmp} (x y : Operand) : opV E tm d (.indexAddr 35 x y) S = idxV 6 (E.ev tm x) (int? (E.ev tm y)) S := index_chk 35 6 (by kernel_rfl) x y
theorem len35 {tm : PM AV} {S : St} {d : Option Tmp} (x : Operand) : opV E tm d (.call (Call.mk (.builtin .len) #[x] #[35])) S = lenV (E.ev tm x) S := op_len (t := 35) (e := 56) (by kernel_rfl) x
theorem load36 {tm : PM AV} {S : St} {d : Option Tmp} (x : Operand) : opV E tm d (.load 36 x) S = loadC true 2 (E.ev tm x) S := load_chk 36 true 2 (by kernel_rfl) x
theorem store36 {tm : PM AV} {S : St} {d : Option Tmp} (x y : Operand) : opV E tm d (.store 36 x y) S = storeC 2 (E.ev tm x) (E.ev tm y) S := store_chk (b := true) 36 2 (by kernel_rfl) x y
theorem load37 {tm : PM AV} {S : St} {d : Option Tmp} (x : Operand) : opV E tm d (.load 37 x) S = loadC true 2 (E.ev tm x) S := load_chk 37 true 2 (by kernel_rfl) x
theorem store37 {tm : PM AV} {S : St} {d : Option Tmp} (x y : Operand) : opV E tm d (.store 37 x y) S = storeC 2 (E.ev tm x) (E.ev tm y) S := store_chk (b := true) 37 2 (by kernel_rfl) x y
theorem load40 {tm : PM AV} {S : St} {d : Option Tmp} (x : Operand) : opV E tm d (.load 40 x) S = loadC true 4 (E.ev tm x) S := load_chk 40 true 4 (by kernel_rfl) x
theorem store40 {tm : PM AV} {S : St} {d : Option Tmp} (x y : Operand) : opV E tm d (.store 40 x y) S = storeC 4 (E.ev tm x) (E.ev tm y) S := store_chk (b := true) 40 4 (by kernel_rfl) x y
theorem load41 {tm : PM AV} {S : St} {d : Option Tmp} (x : Operand) : opV E tm d (.load 41 x) S = loadC true 4 (E.ev tm x) S := load_chk 41 true 4 (by kernel_rfl) x
theorem store41 {tm : PM AV} {S : St} {d : Option Tmp} (x y : Operand) : opV E tm d (.store 41 x y) S = storeC 4 (E.ev tm x) (E.ev tm y) S := store_chk (b := true) 41 4 (by kernel_rfl) x y
theorem load42 {tm : PM AV} {S : St} {d : Option Tmp} (x : Operand) : opV E tm d (.load 42 x) S = loadC true 6 (E.ev tm x) S := load_chk 42 true 6 (by kernel_rfl) x
theorem store42 {tm : PM AV} {S : St} {d : Option Tmp} (x y : Operand) : opV E tm d (.store 42 x y) S = storeC 6 (E.ev tm x) (E.ev tm y) S := store_chk (b := true) 42 6 (by kernel_rfl) x y
theorem load43 {tm : PM AV} {S : St} {d : Option Tmp} (x : Operand) : opV E tm d (.load 43 x) S = loadC true 6 (E.ev tm x) S := load_chk 43 true 6 (by kernel_rfl) x
theorem store43 {tm : PM AV} {S : St} {d : Option Tmp} (x y : Operand) : opV E tm d (.store 43 x y) S = storeC 6 (E.ev tm x) (E.ev tm y) S := store_chk (b := true) 43 6 (by kernel_rfl) x y
theorem load51 {tm : PM AV} {S : St} {d : Option Tmp} (x : Operand) : opV E tm d (.load 51 x) S = loadC true 4 (E.ev tm x) S := load_chk 51 true 4 (by kernel_rfl) x
theorem store51 {tm : PM AV} {S : St} {d : Option Tmp} (x y : Operand) : opV E tm d (.store 51 x y) S = storeC 4 (E.ev tm x) (E.ev tm y) S := store_chk (b := true) 51 4 (by kernel_rfl) x y
theorem load56 {tm : PM AV} {S : St} {d : Option Tmp} (x : Operand) : opV E tm d (.load 56 x) S = loadC true 6 (E.ev tm x) S := load_chk 56 true 6 (by kernel_rfl) x
theorem store56 {tm : PM AV} {S : St} {d : Option Tmp} (x y : Operand) : opV E tm d (.store 56 x y) S = storeC 6 (E.ev tm x) (E.ev tm y) S := store_chk (b := true) 56 6 (by kernel_rfl) x y
theorem load57 {tm : PM AV} {S : St} {d : Option Tmp} (x : Operand) : opV E tm d (.load 57 x) S = loadC false 1 (E.ev tm x) S := load_chk 57 false 1 (by kernel_rfl) x
theorem store57 {tm : PM AV} {S : St} {d : Option Tmp} (x y : Operand) : opV E tm d (.store 57 x y) S = storeC 1 (E.ev tm x) (E.ev tm y) S := store_chk (b := false) 57 1 (by kernel_rfl) x y
theorem und57 : E.und 57 = some (.slice 3) := by kernel_rfl
theorem sl57 : slIs E 57 1 = true := by kernel_rfl
theorem el57 : elIs E 57 3 false 1 8 = true := by kernel_rfl
theorem bs57 {tm : PM AV} {S : St} {d : Option Tmp} (n : Nat) (ps : Array (Nat × Operand)) : opV E tm d (.buildSlice 57 n ps) S = buildSliceA E 57 n (ps.toList.map fun p => (p.1, E.ev tm p.2)) S := rfl
theorem app57 {tm : PM AV} {S : St} {d : Option Tmp} (x y : Operand) (t1 : TypeId) : opV E tm d (.call (Call.mk (.builtin .append) #[x, y] #[57, t1])) S = builtinA E false .append [57, t1] [E.ev tm x, E.ev tm y] S := rfl
theorem index57 {tm : PM AV} {S : St} {d : Option Tmp} (x y : Operand) : opV E tm d (.indexAddr 57 x y) S = idxV 1 (E.ev tm x) (int? (E.ev tm y)) S := index_chk 57 1 (by kernel_rfl) x y
theorem len57 {tm : PM AV} {S : St} {d : Option Tmp} (x : Operand) : opV E tm d (.call (Call.mk (.builtin .len) #[x] #[57])) S = lenV (E.ev tm x) S := op_len (t := 57) (e := 3) (by kernel_rfl) x
theorem load61 {tm : PM AV} {S : St} {d : Option Tmp} (x : Operand) : opV E tm d (.load 61 x) S = loadC false 1 (E.ev tm x) S := load_chk 61 false 1 (by kernel_rfl) x
theorem store61 {tm : PM AV} {S : St} {d : Option Tmp} (x y : Operand) : opV E tm d (.store 61 x y) S = storeC 1 (E.ev tm x) (E.ev tm y) S := store_chk (b := false) 61 1 (by kernel_rfl) x y
theorem load73 {tm : PM AV} {S : St} {d : Option Tmp} (x : Operand) : opV E tm d (.load 73 x) S = loadC false 1 (E.ev tm x) S := load_chk 73 false 1 (by kernel_rfl) x
theorem store73 {tm : PM AV} {S : St} {d : Option Tmp} (x y : Operand) : opV E tm d (.store 73 x y) S = storeC 1 (E.ev tm x) (E.ev tm y) S := store_chk (b := false) 73 1 (by kernel_rfl) x y
theorem load74 {tm : PM AV} {S : St} {d : Option Tmp} (x : Operand) : opV E tm d (.load 74 x) S = loadC true 2 (E.ev tm x) S := load_chk 74 true 2 (by kernel_rfl) x
theorem store74 {tm : PM AV} {S : St} {d : Option Tmp} (x y : Operand) : opV E tm d (.store 74 x y) S = storeC 2 (E.ev tm x) (E.ev tm y) S := store_chk (b := true) 74 2 (by kernel_rfl) x y
theorem load75 {tm : PM AV} {S : St} {d : Option Tmp} (x : Operand) : opV E tm d (.load 75 x) S = loadC true 2 (E.ev tm x) S := load_chk 75 true 2 (by kernel_rfl) x
theorem store75 {tm : PM AV} {S : St} {d : Option Tmp} (x y : Operand) : opV E tm d (.store 75 x y) S = storeC 2 (E.ev tm x) (E.ev tm y) S := store_chk (b := true) 75 2 (by kernel_rfl) x y
theorem load78 {tm : PM AV} {S : St} {d : Option Tmp} (x : Operand) : opV E tm d (.load 78 x) S = loadC false 1 (E.ev tm x) S := load_chk 78 false 1 (by kernel_rfl) x
theorem store78 {tm : PM AV} {S : St} {d : Option Tmp} (x y : Operand) : opV E tm d (.store 78 x y) S = storeC 1 (E.ev tm x) (E.ev tm y) S := store_chk (b := false) 78 1 (by kernel_rfl) x y
theorem load79 {tm : PM AV} {S : St} {d : Option Tmp} (x : Operand) : opV E tm d (.load 79 x) S = loadC true 2 (E.ev tm x) S := load_chk 79 true 2 (by kernel_rfl) x
theorem store79 {tm : PM AV} {S : St} {d : Option Tmp} (x y : Operand) : opV E tm d (.store 79 x y) S = storeC 2 (E.ev tm x) (E.ev tm y) S := store_chk (b := true) 79 2 (by kernel_rfl) x y
theorem load80 {tm : PM AV} {S : St} {d : Option Tmp} (x : Operand) : opV E tm d (.load 80 x) S = loadC true 2 (E.ev tm x) S := load_chk 80 true 2 (by kernel_rfl) x
theorem store80 {tm : PM AV} {S : St} {d : Option Tmp} (x y : Operand) : opV E tm d (.store 80 x y) S = storeC 2 (E.ev tm x) (E.ev tm y) S := store_chk (b := true) 80 2 (by kernel_rfl) x y
theorem load85 {tm : PM AV} {S : St} {d : Option Tmp} (x : Operand) : opV E tm d (.load 85 x) S = loadC false 1 (E.ev tm x) S := load_chk 85 false 1 (by kernel_rfl) x
theorem store85 {tm : PM AV} {S : St} {d : Option Tmp} (x y : Operand) : opV E tm d (.store 85 x y) S = storeC 1 (E.ev tm x) (E.ev tm y) S := store_chk (b := false) 85 1 (by kernel_rfl) x y
theorem load90 {tm : PM AV} {S : St} {d : Option Tmp} (x : Operand) : opV E tm d (.load 90 x) S = loadC false 1 (E.ev tm x) S := load_chk 90 false 1 (by kernel_rfl) x
theorem store90 {tm : PM AV} {S : St} {d : Option Tmp} (x y : Operand) : opV E tm d (.store 90 x y) S = storeC 1 (E.ev tm x) (E.ev tm y) S := store_chk (b := false) 90 1 (by kernel_rfl) x y
theorem load96 {tm : PM AV} {S : St} {d : Option Tmp} (x : Operand) : opV E tm d (.load 96 x) S = loadC false 1 (E.ev tm x) S := load_chk 96 false 1 (by kernel_rfl) x
theorem store96 {tm : PM AV} {S : St} {d : Option Tmp} (x y : Operand) : opV E tm d (.store 96 x y) S = storeC 1 (E.ev tm x) (E.ev tm y) S := store_chk (b := false) 96 1 (by kernel_rfl) x y
theorem load104 {tm : PM AV} {S : St} {d : Option Tmp} (x : Operand) : opV E tm d (.load 104 x) S = loadC false 1 (E.ev tm x) S := load_chk 104 false 1 (by kernel_rfl) x
theorem store104 {tm : PM AV} {S : St} {d : Option Tmp} (x y : Operand) : opV E tm d (.store 104 x y) S = storeC 1 (E.ev tm x) (E.ev tm y) S := store_chk (b := false) 104 1 (by kernel_rfl) x y
theorem load112 {tm : PM AV} {S : St} {d : Option Tmp} (x : Operand) : opV E tm d (.load 112 x) S = loadC false 1 (E.ev tm x) S := load_chk 112 false 1 (by kernel_rfl) x
theorem store112 {tm : PM AV} {S : St} {d : Option Tmp} (x y : Operand) : opV E tm d (.store 112 x y) S = storeC 1 (E.ev tm x) (E.ev tm y) S := store_chk (b := false) 112 1 (by kernel_rfl) x y
theorem load116 {tm : PM AV} {S : St} {d : Option Tmp} (x : Operand) : opV E tm d (.load 116 x) S = loadC false 1 (E.ev tm x) S := load_chk 116 false 1 (by kernel_rfl) x
theorem store116 {tm : PM AV} {S : St} {d : Option Tmp} (x y : Operand) : opV E tm d (.store 116 x y) S = storeC 1 (E.ev tm x) (E.ev tm y) S := store_chk (b := false) 116 1 (by kernel_rfl) x y
theorem load120 {tm : PM AV} {S : St} {d : Option Tmp} (x : Operand) : opV E tm d (.load 120 x) S = loadC false 1 (E.ev tm x) S := load_chk 120 false 1 (by kernel_rfl) x
theorem store120 {tm : PM AV} {S : St} {d : Option Tmp} (x y : Operand) : opV E tm d (.store 120 x y) S = storeC 1 (E.ev tm x) (E.ev tm y) S := store_chk (b := false) 120 1 (by kernel_rfl) x y
theorem load124 {tm : PM AV} {S : St} {d : Option Tmp} (x : Operand) : opV E tm d (.load 124 x) S = loadC true 4 (E.ev tm x) S := load_chk 124 true 4 (by kernel_rfl) x
theorem store124 {tm : PM AV} {S : St} {d : Option Tmp} (x y : Operand) : opV E tm d (.store 124 x y) S = storeC 4 (E.ev tm x) (E.ev tm y) S := store_chk (b := true) 124 4 (by kernel_rfl) x y
theorem load125 {tm : PM AV} {S : St} {d : Option Tmp} (x : Operand) : opV E tm d (.load 125 x) S = loadC true 4 (E.ev tm x) S := load_chk 125 true 4 (by kernel_rfl) x
theorem store125 {tm : PM AV} {S : St} {d : Option Tmp} (x y : Operand) : opV E tm d (.store 125 x y) S = storeC 4 (E.ev tm x) (E.ev tm y) S := store_chk (b := true) 125 4 (by kernel_rfl) x y
theorem load126 {tm : PM AV} {S : St} {d : Option Tmp} (x : Operand) : opV E tm d (.load 126 x) S = loadC true 0 (E.ev tm x) S := load_chk 126 true 0 (by kernel_rfl) x
theorem store126 {tm : PM AV} {S : St} {d : Option Tmp} (x y : Operand) : opV E tm d (.store 126 x y) S = storeC 0 (E.ev tm x) (E.ev tm y) S := store_chk (b := true) 126 0 (by kernel_rfl) x y
theorem load127 {tm : PM AV} {S : St} {d : Option Tmp} (x : Operand) : opV E tm d (.load 127 x) S = loadC true 0 (E.ev tm x) S := load_chk 127 true 0 (by kernel_rfl) x
theorem store127 {tm : PM AV} {S : St} {d : Option Tmp} (x y : Operand) : opV E tm d (.store 127 x y) S = storeC 0 (E.ev tm x) (E.ev tm y) S := store_chk (b := true) 127 0 (by kernel_rfl) x y
theorem load128 {tm : PM AV} {S : St} {d : Option Tmp} (x : Operand) : opV E tm d (.load 128 x) S = loadC true 0 (E.ev tm x) S := load_chk 128 true 0 (by kernel_rfl) x
theorem store128 {tm : PM AV} {S : St} {d : Option Tmp} (x y : Operand) : opV E tm d (.store 128 x y) S = storeC 0 (E.ev tm x) (E.ev tm y) S := store_chk (b := true) 128 0 (by kernel_rfl) x y
theorem load129 {tm : PM AV} {S : St} {d : Option Tmp} (x : Operand) : opV E tm d (.load 129 x) S = loadC false 1 (E.ev tm x) S := load_chk 129 false 1 (by kernel_rfl) x
theorem store129 {tm : PM AV} {S : St} {d : Option Tmp} (x y : Operand) : opV E tm d (.store 129 x y) S = storeC 1 (E.ev tm x) (E.ev tm y) S := store_chk (b := false) 129 1 (by kernel_rfl) x y
theorem load130 {tm : PM AV} {S : St} {d : Option Tmp} (x : Operand) : opV E tm d (.load 130 x) S = loadC false 1 (E.ev tm x) S := load_chk 130 false 1 (by kernel_rfl) x
theorem store130 {tm : PM AV} {S : St} {d : Option Tmp} (x y : Operand) : opV E tm d (.store 130 x y) S = storeC 1 (E.ev tm x) (E.ev tm y) S := store_chk (b := false) 130 1 (by kernel_rfl) x y
theorem load132 {tm : PM AV} {S : St} {d : Option Tmp} (x : Operand) : opV E tm d (.load 132 x) S = loadC false 1 (E.ev tm x) S := load_chk 132 false 1 (by kernel_rfl) x
theorem store132 {tm : PM AV} {S : St} {d : Option Tmp} (x y : Operand) : opV E tm d (.store 132 x y) S = storeC 1 (E.ev tm x) (E.ev tm y) S := store_chk (b := false) 132 1 (by kernel_rfl) x y
theorem load133 {tm : PM AV} {S : St} {d : Option Tmp} (x : Operand) : opV E tm d (.load 133 x) S = loadC false 1 (E.ev tm x) S := load_chk 133 false 1 (by kernel_rfl) x
theorem store133 {tm : PM AV} {S : St} {d : Option Tmp} (x y : Operand) : opV E tm d (.store 133 x y) S = storeC 1 (E.ev tm x) (E.ev tm y) S := store_chk (b := false) 133 1 (by kernel_rfl) x y
theorem load134 {tm : PM AV} {S : St} {d : Option Tmp} (x : Operand) : opV E tm d (.load 134 x) S = loadC false 1 (E.ev tm x) S := load_chk 134 false 1 (by kernel_rfl) x
theorem store134 {tm : PM AV} {S : St} {d : Option Tmp} (x y : Operand) : opV E tm d (.store 134 x y) S = storeC 1 (E.ev tm x) (E.ev tm y) S := store_chk (b := false) 134 1 (by kernel_rfl) x y
theorem load135 {tm : PM AV} {S : St} {d : Option Tmp} (x : Operand) : opV E tm d (.load 135 x) S = loadC true 11 (E.ev tm x) S := load_chk 135 true 11 (by kernel_rfl) x
theorem store135 {tm : PM AV} {S : St} {d : Option Tmp} (x y : Operand) : opV E tm d (.store 135 x y) S = storeC 11 (E.ev tm x) (E.ev tm y) S := store_chk (b := true) 135 11 (by kernel_rfl) x y
theorem load136 {tm : PM AV} {S : St} {d : Option Tmp} (x : Operand) : opV E tm d (.load 136 x) S = loadC true 11 (E.ev tm x) S := load_chk 136 true 11 (by kernel_rfl) x
theorem store136 {tm : PM AV} {S : St} {d : Option Tmp} (x y : Operand) : opV E tm d (.store 136 x y) S = storeC 11 (E.ev tm x) (E.ev tm y) S := store_chk (b := true) 136 11 (by kernel_rfl) x y
theorem conv3_5 {S : St} (mu : Bool) (n : Int) : convertA E mu 3 5 (.sc (.int .i64 n)) S = some (.sc (.int .u8 (IntKind.wrap .u8 n)), S) := conv_chk 3 5 .i64 .u8 n (by kernel_rfl) (by kernel_rfl)
theorem conv3_85 {S : St} (mu : Bool) (n : Int) : convertA E mu 3 85 (.sc (.int .i64 n)) S = some (.sc (.int .u64 (IntKind.wrap .u64 n)), S) := conv_chk 3 85 .i64 .u64 n (by kernel_rfl) (by kernel_rfl)
theorem conv3_90 {S : St} (mu : Bool) (n : Int) : convertA E mu 3 90 (.sc (.int .i64 n)) S = some (.sc (.int .u64 (IntKind.wrap .u64 n)), S) := conv_chk 3 90 .i64 .u64 n (by kernel_rfl) (by kernel_rfl)
theorem conv3_112 {S : St} (mu : Bool) (n : Int) : convertA E mu 3 112 (.sc (.int .i64 n)) S = some (.sc (.int .u64 (IntKind.wrap .u64 n)), S) := conv_chk 3 112 .i64 .u64 n (by kernel_rfl) (by kernel_rfl)
theorem conv5_3 {S : St} (mu : Bool) (n : Int) : convertA E mu 5 3 (.sc (.int .u8 n)) S = some (.sc (.int .i64 (IntKind.wrap .i64 n)), S) := conv_chk 5 3 .u8 .i64 n (by kernel_rfl) (by kernel_rfl)
theorem conv5_85 {S : St} (mu : Bool) (n : Int) : convertA E mu 5 85 (.sc (.int .u8 n)) S = some (.sc (.int .u64 (IntKind.wrap .u64 n)), S) := conv_chk 5 85 .u8 .u64 n (by kernel_rfl) (by kernel_rfl)
theorem conv85_3 {S : St} (mu : Bool) (n : Int) : convertA E mu 85 3 (.sc (.int .u64 n)) S = some (.sc (.int .i64 (IntKind.wrap .i64 n)), S) := conv_chk 85 3 .u64 .i64 n (by kernel_rfl) (by kernel_rfl)
theorem conv85_5 {S : St} (mu : Bool) (n : Int) : convertA E mu 85 5 (.sc (.int .u64 n)) S = some (.sc (.int .u8 (IntKind.wrap .u8 n)), S) := conv_chk 85 5 .u64 .u8 n (by kernel_rfl) (by kernel_rfl)
theorem conv90_3 {S : St} (mu : Bool) (n : Int) : convertA E mu 90 3 (.sc (.int .u64 n)) S = some (.sc (.int .i64 (IntKind.wrap .i64 n)), S) := conv_chk 90 3 .u64 .i64 n (by kernel_rfl) (by kernel_rfl)
theorem conv90_104 {S : St} (mu : Bool) (n : Int) : convertA E mu 90 104 (.sc (.int .u64 n)) S = some (.sc (.int .u32 (IntKind.wrap .u32 n)), S) := conv_chk 90 104 .u64 .u32 n (by kernel_rfl) (by kernel_rfl)
theorem conv104_5 {S : St} (mu : Bool) (n : Int) : convertA E mu 104 5 (.sc (.int .u32 n)) S = some (.sc (.int .u8 (IntKind.wrap .u8 n)), S) := conv_chk 104 5 .u32 .u8 n (by kernel_rfl) (by kernel_rfl)
theorem call3 {nt : Nat} {k : List KI} {tm : PM AV} {S : St} {Q : PostA} (d : Option Tmp) (xs : Array Operand) (ats : Array TypeId) (r : List POp) : EndsA E nt (.c (.reg (⟨d, .call (Call.mk (.value (.func 3)) xs ats), none⟩ :: r)) :: k) .nrm tm S Q = CallK E nt 3 (xs.toList.map (E.ev tm)) d r k tm S Q := e_call d 3 xs ats r rfl
theorem call4 {nt : Nat} {k : List KI} {tm : PM AV} {S : St} {Q : PostA} (d : Option Tmp) (xs : Array Operand) (ats : Array TypeId) (r : List POp) : EndsA E nt (.c (.reg (⟨d, .call (Call.mk (.value (.func 4)) xs ats), none⟩ :: r)) :: k) .nrm tm S Q = CallK E nt 4 (xs.toList.map (E.ev tm)) d r k tm S Q := e_call d 4 xs ats r rfl
theorem call5 {nt : Nat} {k : List KI} {tm : PM AV} {S : St} {Q : PostA} (d : Option Tmp) (xs : Array Operand) (ats : Array TypeId) (r : List POp) : EndsA E nt (.c (.reg (⟨d, .call (Call.mk (.value (.func 5)) xs ats), none⟩ :: r)) :: k) .nrm tm S Q = CallK E nt 5 (xs.toList.map (E.ev tm)) d r k tm S Q := e_call d 5 xs ats r rfl
theorem call6 {nt : Nat} {k : List KI} {tm : PM AV} {S : St} {Q : PostA} (d : Option Tmp) (xs : Array Operand) (ats : Array TypeId) (r : List POp) : EndsA E nt (.c (.reg (⟨d, .call (Call.mk (.value (.func 6)) xs ats), none⟩ :: r)) :: k) .nrm tm S Q = CallK E nt 6 (xs.toList.map (E.ev tm)) d r k tm S Q := e_call d 6 xs ats r rfl
theorem call7 {nt : Nat} {k : List KI} {tm : PM AV} {S : St} {Q : PostA} (d : Option Tmp) (xs : Array Operand) (ats : Array TypeId) (r : List POp) : EndsA E nt (.c (.reg (⟨d, .call (Call.mk (.value (.func 7)) xs ats), none⟩ :: r)) :: k) .nrm tm S Q = CallK E nt 7 (xs.toList.map (E.ev tm)) d r k tm S Q := e_call d 7 xs ats r rfl
theorem call8 {nt : Nat} {k : List KI} {tm : PM AV} {S : St} {Q : PostA} (d : Option Tmp) (xs : Array Operand) (ats : Array TypeId) (r : List POp) : EndsA E nt (.c (.reg (⟨d, .call (Call.mk (.value (.func 8)) xs ats), none⟩ :: r)) :: k) .nrm tm S Q = CallK E nt 8 (xs.toList.map (E.ev tm)) d r k tm S Q := e_call d 8 xs ats r rfl
theorem call9 {nt : Nat} {k : List KI} {tm : PM AV} {S : St} {Q : PostA} (d : Option Tmp) (xs : Array Operand) (ats : Array TypeId) (r : List POp) : EndsA E nt (.c (.reg (⟨d, .call (Call.mk (.value (.func 9)) xs ats), none⟩ :: r)) :: k) .nrm tm S Q = CallK E nt 9 (xs.toList.map (E.ev tm)) d r k tm S Q := e_call d 9 xs ats r rfl
theorem call10 {nt : Nat} {k : List KI} {tm : PM AV} {S : St} {Q : PostA} (d : Option Tmp) (xs : Array Operand) (ats : Array TypeId) (r : List POp) : EndsA E nt (.c (.reg (⟨d, .call (Call.mk (.value (.func 10)) xs ats), none⟩ :: r)) :: k) .nrm tm S Q = CallK E nt 10 (xs.toList.map (E.ev tm)) d r k tm S Q := e_call d 10 xs ats r rfl
theorem call11 {nt : Nat} {k : List KI} {tm : PM AV} {S : St} {Q : PostA} (d : Option Tmp) (xs : Array Operand) (ats : Array TypeId) (r : List POp) : EndsA E nt (.c (.reg (⟨d, .call (Call.mk (.value (.func 11)) xs ats), none⟩ :: r)) :: k) .nrm tm S Q = CallK E nt 11 (xs.toList.map (E.ev tm)) d r k tm S Q := e_call d 11 xs ats r rfl
theorem call12 {nt : Nat} {k : List KI} {tm : PM AV} {S : St} {Q : PostA} (d : Option Tmp) (xs : Array Operand) (ats : Array TypeId) (r : List POp) : EndsA E nt (.c (.reg (⟨d, .call (Call.mk (.value (.func 12)) xs ats), none⟩ :: r)) :: k) .nrm tm S Q = CallK E nt 12 (xs.toList.map (E.ev tm)) d r k tm S Q := e_call d 12 xs ats r rfl
theorem call13 {nt : Nat} {k : List KI} {tm : PM AV} {S : St} {Q : PostA} (d : Option Tmp) (xs : Array Operand) (ats : Array TypeId) (r : List POp) : EndsA E nt (.c (.reg (⟨d, .call (Call.mk (.value (.func 13)) xs ats), none⟩ :: r)) :: k) .nrm tm S Q = CallK E nt 13 (xs.toList.map (E.ev tm)) d r k tm S Q := e_call d 13 xs ats r rfl
theorem call14 {nt : Nat} {k : List KI} {tm : PM AV} {S : St} {Q : PostA} (d : Option Tmp) (xs : Array Operand) (ats : Array TypeId) (r : List POp) : EndsA E nt (.c (.reg (⟨d, .call (Call.mk (.value (.func 14)) xs ats), none⟩ :: r)) :: k) .nrm tm S Q = CallK E nt 14 (xs.toList.map (E.ev tm)) d r k tm S Q := e_call d 14 xs ats r rfl
theorem call15 {nt : Nat} {k : List KI} {tm : PM AV} {S : St} {Q : PostA} (d : Option Tmp) (xs : Array Operand) (ats : Array TypeId) (r : List POp) : EndsA E nt (.c (.reg (⟨d, .call (Call.mk (.value (.func 15)) xs ats), none⟩ :: r)) :: k) .nrm tm S Q = CallK E nt 15 (xs.toList.map (E.ev tm)) d r k tm S Q := e_call d 15 xs ats r rfl
theorem call16 {nt : Nat} {k : List KI} {tm : PM AV} {S : St} {Q : PostA} (d : Option Tmp) (xs : Array Operand) (ats : Array TypeId) (r : List POp) : EndsA E nt (.c (.reg (⟨d, .call (Call.mk (.value (.func 16)) xs ats), none⟩ :: r)) :: k) .nrm tm S Q = CallK E nt 16 (xs.toList.map (E.ev tm)) d r k tm S Q := e_call d 16 xs ats r rfl
theorem call17 {nt : Nat} {k : List KI} {tm : PM AV} {S : St} {Q : PostA} (d : Option Tmp) (xs : Array Operand) (ats : Array TypeId) (r : List POp) : EndsA E nt (.c (.reg (⟨d, .call (Call.mk (.value (.func 17)) xs ats), none⟩ :: r)) :: k) .nrm tm S Q = CallK E nt 17 (xs.toList.map (E.ev tm)) d r k tm S Q := e_call d 17 xs ats r rfl
theorem call18 {nt : Nat} {k : List KI} {tm : PM AV} {S : St} {Q : PostA} (d : Option Tmp) (xs : Array Operand) (ats : Array TypeId) (r : List POp) : EndsA E nt (.c (.reg (⟨d, .call (Call.mk (.value (.func 18)) xs ats), none⟩ :: r)) :: k) .nrm tm S Q = CallK E nt 18 (xs.toList.map (E.ev tm)) d r k tm S Q := e_call d 18 xs ats r rfl
theorem call19 {nt : Nat} {k : List KI} {tm : PM AV} {S : St} {Q : PostA} (d : Option Tmp) (xs : Array Operand) (ats : Array TypeId) (r : List POp) : EndsA E nt (.c (.reg (⟨d, .call (Call.mk (.value (.func 19)) xs ats), none⟩ :: r)) :: k) .nrm tm S Q = CallK E nt 19 (xs.toList.map (E.ev tm)) d r k tm S Q := e_call d 19 xs ats r rfl
theorem call20 {nt : Nat} {k : List KI} {tm : PM AV} {S : St} {Q : PostA} (d : Option Tmp) (xs : Array Operand) (ats : Array TypeId) (r : List POp) : EndsA E nt (.c (.reg (⟨d, .call (Call.mk (.value (.func 20)) xs ats), none⟩ :: r)) :: k) .nrm tm S Q = CallK E nt 20 (xs.toList.map (E.ev tm)) d r k tm S Q := e_call d 20 xs ats r rfl
theorem call21 {nt : Nat} {k : List KI} {tm : PM AV} {S : St} {Q : PostA} (d : Option Tmp) (xs : Array Operand) (ats : Array TypeId) (r : List POp) : EndsA E nt (.c (.reg (⟨d, .call (Call.mk (.value (.func 21)) xs ats), none⟩ :: r)) :: k) .nrm tm S Q = CallK E nt 21 (xs.toList.map (E.ev tm)) d r k tm S Q := e_call d 21 xs ats r rfl
theorem call22 {nt : Nat} {k : List KI} {tm : PM AV} {S : St} {Q : PostA} (d : Option Tmp) (xs : Array Operand) (ats : Array TypeId) (r : List POp) : EndsA E nt (.c (.reg (⟨d, .call (Call.mk (.value (.func 22)) xs ats), none⟩ :: r)) :: k) .nrm tm S Q = CallK E nt 22 (xs.toList.map (E.ev tm)) d r k tm S Q := e_call d 22 xs ats r rfl
theorem call23 {nt : Nat} {k : List KI} {tm : PM AV} {S : St} {Q : PostA} (d : Option Tmp) (xs : Array Operand) (ats : Array TypeId) (r : List POp) : EndsA E nt (.c (.reg (⟨d, .call (Call.mk (.value (.func 23)) xs ats), none⟩ :: r)) :: k) .nrm tm S Q = CallK E nt 23 (xs.toList.map (E.ev tm)) d r k tm S Q := e_call d 23 xs ats r rfl
theorem call24 {nt : Nat} {k : List KI} {tm : PM AV} {S : St} {Q : PostA} (d : Option Tmp) (xs : Array Operand) (ats : Array TypeId) (r : List POp) : EndsA E nt (.c (.reg (⟨d, .call (Call.mk (.value (.func 24)) xs ats), none⟩ :: r)) :: k) .nrm tm S Q = CallK E nt 24 (xs.toList.map (E.ev tm)) d r k tm S Q := e_call d 24 xs ats r rfl
theorem call25 {nt : Nat} {k : List KI} {tm : PM AV} {S : St} {Q : PostA} (d : Option Tmp) (xs : Array Operand) (ats : Array TypeId) (r : List POp) : EndsA E nt (.c (.reg (⟨d, .call (Call.mk (.value (.func 25)) xs ats), none⟩ :: r)) :: k) .nrm tm S Q = CallK E nt 25 (xs.toList.map (E.ev tm)) d r k tm S Q := e_call d 25 xs ats r rfl
theorem call26 {nt : Nat} {k : List KI} {tm : PM AV} {S : St} {Q : PostA} (d : Option Tmp) (xs : Array Operand) (ats : Array TypeId) (r : List POp) : EndsA E nt (.c (.reg (⟨d, .call (Call.mk (.value (.func 26)) xs ats), none⟩ :: r)) :: k) .nrm tm S Q = CallK E nt 26 (xs.toList.map (E.ev tm)) d r k tm S Q := e_call d 26 xs ats r rfl
theorem call27 {nt : Nat} {k : List KI} {tm : PM AV} {S : St} {Q : PostA} (d : Option Tmp) (xs : Array Operand) (ats : Array TypeId) (r : List POp) : EndsA E nt (.c (.reg (⟨d, .call (Call.mk (.value (.func 27)) xs ats), none⟩ :: r)) :: k) .nrm tm S Q = CallK E nt 27 (xs.toList.map (E.ev tm)) d r k tm S Q := e_call d 27 xs ats r rfl
theorem call28 {nt : Nat} {k : List KI} {tm : PM AV} {S : St} {Q : PostA} (d : Option Tmp) (xs : Array Operand) (ats : Array TypeId) (r : List POp) : EndsA E nt (.c (.reg (⟨d, .call (Call.mk (.value (.func 28)) xs ats), none⟩ :: r)) :: k) .nrm tm S Q = CallK E nt 28 (xs.toList.map (E.ev tm)) d r k tm S Q := e_call d 28 xs ats r rfl
theorem call29 {nt : Nat} {k : List KI} {tm : PM AV} {S : St} {Q : PostA} (d : Option Tmp) (xs : Array Operand) (ats : Array TypeId) (r : List POp) : EndsA E nt (.c (.reg (⟨d, .call (Call.mk (.value (.func 29)) xs ats), none⟩ :: r)) :: k) .nrm tm S Q = CallK E nt 29 (xs.toList.map (E.ev tm)) d r k tm S Q := e_call d 29 xs ats r rfl
theorem call30 {nt : Nat} {k : List KI} {tm : PM AV} {S : St} {Q : PostA} (d : Option Tmp) (xs : Array Operand) (ats : Array TypeId) (r : List POp) : EndsA E nt (.c (.reg (⟨d, .call (Call.mk (.value (.func 30)) xs ats), none⟩ :: r)) :: k) .nrm tm S Q = CallK E nt 30 (xs.toList.map (E.ev tm)) d r k tm S Q := e_call d 30 xs ats r rfl
theorem call31 {nt : Nat} {k : List KI} {tm : PM AV} {S : St} {Q : PostA} (d : Option Tmp) (xs : Array Operand) (ats : Array TypeId) (r : List POp) : EndsA E nt (.c (.reg (⟨d, .call (Call.mk (.value (.func 31)) xs ats), none⟩ :: r)) :: k) .nrm tm S Q = CallK E nt 31 (xs.toList.map (E.ev tm)) d r k tm S Q := e_call d 31 xs ats r rfl
theorem call32 {nt : Nat} {k : List KI} {tm : PM AV} {S : St} {Q : PostA} (d : Option Tmp) (xs : Array Operand) (ats : Array TypeId) (r : List POp) : EndsA E nt (.c (.reg (⟨d, .call (Call.mk (.value (.func 32)) xs ats), none⟩ :: r)) :: k) .nrm tm S Q = CallK E nt 32 (xs.toList.map (E.ev tm)) d r k tm S Q := e_call d 32 xs ats r rfl
theorem call33 {nt : Nat} {k : List KI} {tm : PM AV} {S : St} {Q : PostA} (d : Option Tmp) (xs : Array Operand) (ats : Array TypeId) (r : List POp) : EndsA E nt (.c (.reg (⟨d, .call (Call.mk (.value (.func 33)) xs ats), none⟩ :: r)) :: k) .nrm tm S Q = CallK E nt 33 (xs.toList.map (E.ev tm)) d r k tm S Q := e_call d 33 xs ats r rfl
theorem call34 {nt : Nat} {k : List KI} {tm : PM AV} {S : St} {Q : PostA} (d : Option Tmp) (xs : Array Operand) (ats : Array TypeId) (r : List POp) : EndsA E nt (.c (.reg (⟨d, .call (Call.mk (.value (.func 34)) xs ats), none⟩ :: r)) :: k) .nrm tm S Q = CallK E nt 34 (xs.toList.map (E.ev tm)) d r k tm S Q := e_call d 34 xs ats r rfl
theorem call35 {nt : Nat} {k : List KI} {tm : PM AV} {S : St} {Q : PostA} (d : Option Tmp) (xs : Array Operand) (ats : Array TypeId) (r : List POp) : EndsA E nt (.c (.reg (⟨d, .call (Call.mk (.value (.func 35)) xs ats), none⟩ :: r)) :: k) .nrm tm S Q = CallK E nt 35 (xs.toList.map (E.ev tm)) d r k tm S Q := e_call d 35 xs ats r rfl
theorem call36 {nt : Nat} {k : List KI} {tm : PM AV} {S : St} {Q : PostA} (d : Option Tmp) (xs : Array Operand) (ats : Array TypeId) (r : List POp) : EndsA E nt (.c (.reg (⟨d, .call (Call.mk (.value (.func 36)) xs ats), none⟩ :: r)) :: k) .nrm tm S Q = CallK E nt 36 (xs.toList.map (E.ev tm)) d r k tm S Q := e_call d 36 xs ats r rfl
theorem call37 {nt : Nat} {k : List KI} {tm : PM AV} {S : St} {Q : PostA} (d : Option Tmp) (xs : Array Operand) (ats : Array TypeId) (r : List POp) : EndsA E nt (.c (.reg (⟨d, .call (Call.mk (.value (.func 37)) xs ats), none⟩ :: r)) :: k) .nrm tm S Q = CallK E nt 37 (xs.toList.map (E.ev tm)) d r k tm S Q := e_call d 37 xs ats r rfl
theorem call38 {nt : Nat} {k : List KI} {tm : PM AV} {S : St} {Q : PostA} (d : Option Tmp) (xs : Array Operand) (ats : Array TypeId) (r : List POp) : EndsA E nt (.c (.reg (⟨d, .call (Call.mk (.value (.func 38)) xs ats), none⟩ :: r)) :: k) .nrm tm S Q = CallK E nt 38 (xs.toList.map (E.ev tm)) d r k tm S Q := e_call d 38 xs ats r rfl
theorem call39 {nt : Nat} {k : List KI} {tm : PM AV} {S : St} {Q : PostA} (d : Option Tmp) (xs : Array Operand) (ats : Array TypeId) (r : List POp) : EndsA E nt (.c (.reg (⟨d, .call (Call.mk (.value (.func 39)) xs ats), none⟩ :: r)) :: k) .nrm tm S Q = CallK E nt 39 (xs.toList.map (E.ev tm)) d r k tm S Q := e_call d 39 xs ats r rfl
theorem call40 {nt : Nat} {k : List KI} {tm : PM AV} {S : St} {Q : PostA} (d : Option Tmp) (xs : Array Operand) (ats : Array TypeId) (r : List POp) : EndsA E nt (.c (.reg (⟨d, .call (Call.mk (.value (.func 40)) xs ats), none⟩ :: r)) :: k) .nrm tm S Q = CallK E nt 40 (xs.toList.map (E.ev tm)) d r k tm S Q := e_call d 40 xs ats r rfl
theorem call41 {nt : Nat} {k : List KI} {tm : PM AV} {S : St} {Q : PostA} (d : Option Tmp) (xs : Array Operand) (ats : Array TypeId) (r : List POp) : EndsA E nt (.c (.reg (⟨d, .call (Call.mk (.value (.func 41)) xs ats), none⟩ :: r)) :: k) .nrm tm S Q = CallK E nt 41 (xs.toList.map (E.ev tm)) d r k tm S Q := e_call d 41 xs ats r rfl
theorem call42 {nt : Nat} {k : List KI} {tm : PM AV} {S : St} {Q : PostA} (d : Option Tmp) (xs : Array Operand) (ats : Array TypeId) (r : List POp) : EndsA E nt (.c (.reg (⟨d, .call (Call.mk (.value (.func 42)) xs ats), none⟩ :: r)) :: k) .nrm tm S Q = CallK E nt 42 (xs.toList.map (E.ev tm)) d r k tm S Q := e_call d 42 xs ats r rfl
theorem call43 {nt : Nat} {k : List KI} {tm : PM AV} {S : St} {Q : PostA} (d : Option Tmp) (xs : Array Operand) (ats : Array TypeId) (r : List POp) : EndsA E nt (.c (.reg (⟨d, .call (Call.mk (.value (.func 43)) xs ats), none⟩ :: r)) :: k) .nrm tm S Q = CallK E nt 43 (xs.toList.map (E.ev tm)) d r k tm S Q := e_call d 43 xs ats r rfl
theorem call44 {nt : Nat} {k : List KI} {tm : PM AV} {S : St} {Q : PostA} (d : Option Tmp) (xs : Array Operand) (ats : Array TypeId) (r : List POp) : EndsA E nt (.c (.reg (⟨d, .call (Call.mk (.value (.func 44)) xs ats), none⟩ :: r)) :: k) .nrm tm S Q = CallK E nt 44 (xs.toList.map (E.ev tm)) d r k tm S Q := e_call d 44 xs ats r rfl
theorem call45 {nt : Nat} {k : List KI} {tm : PM AV} {S : St} {Q : PostA} (d : Option Tmp) (xs : Array Operand) (ats : Array TypeId) (r : List POp) : EndsA E nt (.c (.reg (⟨d, .call (Call.mk (.value (.func 45)) xs ats), none⟩ :: r)) :: k) .nrm tm S Q = CallK E nt 45 (xs.toList.map (E.ev tm)) d r k tm S Q := e_call d 45 xs ats r rfl
theorem call46 {nt : Nat} {k : List KI} {tm : PM AV} {S : St} {Q : PostA} (d : Option Tmp) (xs : Array Operand) (ats : Array TypeId) (r : List POp) : EndsA E nt (.c (.reg (⟨d, .call (Call.mk (.value (.func 46)) xs ats), none⟩ :: r)) :: k) .nrm tm S Q = CallK E nt 46 (xs.toList.map (E.ev tm)) d r k tm S Q := e_call d 46 xs ats r rfl
theorem call47 {nt : Nat} {k : List KI} {tm : PM AV} {S : St} {Q : PostA} (d : Option Tmp) (xs : Array Operand) (ats : Array TypeId) (r : List POp) : EndsA E nt (.c (.reg (⟨d, .call (Call.mk (.value (.func 47)) xs ats), none⟩ :: r)) :: k) .nrm tm S Q = CallK E nt 47 (xs.toList.map (E.ev tm)) d r k tm S Q := e_call d 47 xs ats r rfl
theorem call48 {nt : Nat} {k : List KI} {tm : PM AV} {S : St} {Q : PostA} (d : Option Tmp) (xs : Array Operand) (ats : Array TypeId) (r : List POp) : EndsA E nt (.c (.reg (⟨d, .call (Call.mk (.value (.func 48)) xs ats), none⟩ :: r)) :: k) .nrm tm S Q = CallK E nt 48 (xs.toList.map (E.ev tm)) d r k tm S Q := e_call d 48 xs ats r rfl
theorem call49 {nt : Nat} {k : List KI} {tm : PM AV} {S : St} {Q : PostA} (d : Option Tmp) (xs : Array Operand) (ats : Array TypeId) (r : List POp) : EndsA E nt (.c (.reg (⟨d, .call (Call.mk (.value (.func 49)) xs ats), none⟩ :: r)) :: k) .nrm tm S Q = CallK E nt 49 (xs.toList.map (E.ev tm)) d r k tm S Q := e_call d 49 xs ats r rfl
theorem call50 {nt : Nat} {k : List KI} {tm : PM AV} {S : St} {Q : PostA} (d : Option Tmp) (xs : Array Operand) (ats : Array TypeId) (r : List POp) : EndsA E nt (.c (.reg (⟨d, .call (Call.mk (.value (.func 50)) xs ats), none⟩ :: r)) :: k) .nrm tm S Q = CallK E nt 50 (xs.toList.map (E.ev tm)) d r k tm S Q := e_call d 50 xs ats r rfl
theorem call51 {nt : Nat} {k : List KI} {tm : PM AV} {S : St} {Q : PostA} (d : Option Tmp) (xs : Array Operand) (ats : Array TypeId) (r : List POp) : EndsA E nt (.c (.reg (⟨d, .call (Call.mk (.value (.func 51)) xs ats), none⟩ :: r)) :: k) .nrm tm S Q = CallK E nt 51 (xs.toList.map (E.ev tm)) d r k tm S Q := e_call d 51 xs ats r rfl
theorem call52 {nt : Nat} {k : List KI} {tm : PM AV} {S : St} {Q : PostA} (d : Option Tmp) (xs : Array Operand) (ats : Array TypeId) (r : List POp) : EndsA E nt (.c (.reg (⟨d, .call (Call.mk (.value (.func 52)) xs ats), none⟩ :: r)) :: k) .nrm tm S Q = CallK E nt 52 (xs.toList.map (E.ev tm)) d r k tm S Q := e_call d 52 xs ats r rfl
theorem call53 {nt : Nat} {k : List KI} {tm : PM AV} {S : St} {Q : PostA} (d : Option Tmp) (xs : Array Operand) (ats : Array TypeId) (r : List POp) : EndsA E nt (.c (.reg (⟨d, .call (Call.mk (.value (.func 53)) xs ats), none⟩ :: r)) :: k) .nrm tm S Q = CallK E nt 53 (xs.toList.map (E.ev tm)) d r k tm S Q := e_call d 53 xs ats r rfl
theorem call54 {nt : Nat} {k : List KI} {tm : PM AV} {S : St} {Q : PostA} (d : Option Tmp) (xs : Array Operand) (ats : Array TypeId) (r : List POp) : EndsA E nt (.c (.reg (⟨d, .call (Call.mk (.value (.func 54)) xs ats), none⟩ :: r)) :: k) .nrm tm S Q = CallK E nt 54 (xs.toList.map (E.ev tm)) d r k tm S Q := e_call d 54 xs ats r rfl
theorem call55 {nt : Nat} {k : List KI} {tm : PM AV} {S : St} {Q : PostA} (d : Option Tmp) (xs : Array Operand) (ats : Array TypeId) (r : List POp) : EndsA E nt (.c (.reg (⟨d, .call (Call.mk (.value (.func 55)) xs ats), none⟩ :: r)) :: k) .nrm tm S Q = CallK E nt 55 (xs.toList.map (E.ev tm)) d r k tm S Q := e_call d 55 xs ats r rfl
theorem call56 {nt : Nat} {k : List KI} {tm : PM AV} {S : St} {Q : PostA} (d : Option Tmp) (xs : Array Operand) (ats : Array TypeId) (r : List POp) : EndsA E nt (.c (.reg (⟨d, .call (Call.mk (.value (.func 56)) xs ats), none⟩ :: r)) :: k) .nrm tm S Q = CallK E nt 56 (xs.toList.map (E.ev tm)) d r k tm S Q := e_call d 56 xs ats r rfl
theorem call57 {nt : Nat} {k : List KI} {tm : PM AV} {S : St} {Q : PostA} (d : Option Tmp) (xs : Array Operand) (ats : Array TypeId) (r : List POp) : EndsA E nt (.c (.reg (⟨d, .call (Call.mk (.value (.func 57)) xs ats), none⟩ :: r)) :: k) .nrm tm S Q = CallK E nt 57 (xs.toList.map (E.ev tm)) d r k tm S Q := e_call d 57 xs ats r rfl
theorem call58 {nt : Nat} {k : List KI} {tm : PM AV} {S : St} {Q : PostA} (d : Option Tmp) (xs : Array Operand) (ats : Array TypeId) (r : List POp) : EndsA E nt (.c (.reg (⟨d, .call (Call.mk (.value (.func 58)) xs ats), none⟩ :: r)) :: k) .nrm tm S Q = CallK E nt 58 (xs.toList.map (E.ev tm)) d r k tm S Q := e_call d 58 xs ats r rfl
theorem call59 {nt : Nat} {k : List KI} {tm : PM AV} {S : St} {Q : PostA} (d : Option Tmp) (xs : Array Operand) (ats : Array TypeId) (r : List POp) : EndsA E nt (.c (.reg (⟨d, .call (Call.mk (.value (.func 59)) xs ats), none⟩ :: r)) :: k) .nrm tm S Q = CallK E nt 59 (xs.toList.map (E.ev tm)) d r k tm S Q := e_call d 59 xs ats r rfl
theorem call60 {nt : Nat} {k : List KI} {tm : PM AV} {S : St} {Q : PostA} (d : Option Tmp) (xs : Array Operand) (ats : Array TypeId) (r : List POp) : EndsA E nt (.c (.reg (⟨d, .call (Call.mk (.value (.func 60)) xs ats), none⟩ :: r)) :: k) .nrm tm S Q = CallK E nt 60 (xs.toList.map (E.ev tm)) d r k tm S Q := e_call d 60 xs ats r rfl
theorem call61 {nt : Nat} {k : List KI} {tm : PM AV} {S : St} {Q : PostA} (d : Option Tmp) (xs : Array Operand) (ats : Array TypeId) (r : List POp) : EndsA E nt (.c (.reg (⟨d, .call (Call.mk (.value (.func 61)) xs ats), none⟩ :: r)) :: k) .nrm tm S Q = CallK E nt 61 (xs.toList.map (E.ev tm)) d r k tm S Q := e_call d 61 xs ats r rfl
theorem call63 {nt : Nat} {k : List KI} {tm : PM AV} {S : St} {Q : PostA} (d : Option Tmp) (xs : Array Operand) (ats : Array TypeId) (r : List POp) : EndsA E nt (.c (.reg (⟨d, .call (Call.mk (.value (.func 63)) xs ats), none⟩ :: r)) :: k) .nrm tm S Q = CallK E nt 63 (xs.toList.map (E.ev tm)) d r k tm S Q := e_call d 63 xs ats r rfl
theorem call64 {nt : Nat} {k : List KI} {tm : PM AV} {S : St} {Q : PostA} (d : Option Tmp) (xs : Array Operand) (ats : Array TypeId) (r : List POp) : EndsA E nt (.c (.reg (⟨d, .call (Call.mk (.value (.func 64)) xs ats), none⟩ :: r)) :: k) .nrm tm S Q = CallK E nt 64 (xs.toList.map (E.ev tm)) d r k tm S Q := e_call d 64 xs ats r rfl
theorem call65 {nt : Nat} {k : List KI} {tm : PM AV} {S : St} {Q : PostA} (d : Option Tmp) (xs : Array Operand) (ats : Array TypeId) (r : List POp) : EndsA E nt (.c (.reg (⟨d, .call (Call.mk (.value (.func 65)) xs ats), none⟩ :: r)) :: k) .nrm tm S Q = CallK E nt 65 (xs.toList.map (E.ev tm)) d r k tm S Q := e_call d 65 xs ats r rfl
theorem call66 {nt : Nat} {k : List KI} {tm : PM AV} {S : St} {Q : PostA} (d : Option Tmp) (xs : Array Operand) (ats : Array TypeId) (r : List POp) : EndsA E nt (.c (.reg (⟨d, .call (Call.mk (.value (.func 66)) xs ats), none⟩ :: r)) :: k) .nrm tm S Q = CallK E nt 66 (xs.toList.map (E.ev tm)) d r k tm S Q := e_call d 66 xs ats r rfl
theorem call67 {nt : Nat} {k : List KI} {tm : PM AV} {S : St} {Q : PostA} (d : Option Tmp) (xs : Array Operand) (ats : Array TypeId) (r : List POp) : EndsA E nt (.c (.reg (⟨d, .call (Call.mk (.value (.func 67)) xs ats), none⟩ :: r)) :: k) .nrm tm S Q = CallK E nt 67 (xs.toList.map (E.ev tm)) d r k tm S Q := e_call d 67 xs ats r rfl
theorem call68 {nt : Nat} {k : List KI} {tm : PM AV} {S : St} {Q : PostA} (d : Option Tmp) (xs : Array Operand) (ats : Array TypeId) (r : List POp) : EndsA E nt (.c (.reg (⟨d, .call (Call.mk (.value (.func 68)) xs ats), none⟩ :: r)) :: k) .nrm tm S Q = CallK E nt 68 (xs.toList.map (E.ev tm)) d r k tm S Q := e_call d 68 xs ats r rfl
theorem call69 {nt : Nat} {k : List KI} {tm : PM AV} {S : St} {Q : PostA} (d : Option Tmp) (xs : Array Operand) (ats : Array TypeId) (r : List POp) : EndsA E nt (.c (.reg (⟨d, .call (Call.mk (.value (.func 69)) xs ats), none⟩ :: r)) :: k) .nrm tm S Q = CallK E nt 69 (xs.toList.map (E.ev tm)) d r k tm S Q := e_call d 69 xs ats r rfl
theorem call70 {nt : Nat} {k : List KI} {tm : PM AV} {S : St} {Q : PostA} (d : Option Tmp) (xs : Array Operand) (ats : Array TypeId) (r : List POp) : EndsA E nt (.c (.reg (⟨d, .call (Call.mk (.value (.func 70)) xs ats), none⟩ :: r)) :: k) .nrm tm S Q = CallK E nt 70 (xs.toList.map (E.ev tm)) d r k tm S Q := e_call d 70 xs ats r rfl
theorem call71 {nt : Nat} {k : List KI} {tm : PM AV} {S : St} {Q : PostA} (d : Option Tmp) (xs : Array Operand) (ats : Array TypeId) (r : List POp) : EndsA E nt (.c (.reg (⟨d, .call (Call.mk (.value (.func 71)) xs ats), none⟩ :: r)) :: k) .nrm tm S Q = CallK E nt 71 (xs.toList.map (E.ev tm)) d r k tm S Q := e_call d 71 xs ats r rfl
theorem call72 {nt : Nat} {k : List KI} {tm : PM AV} {S : St} {Q : PostA} (d : Option Tmp) (xs : Array Operand) (ats : Array TypeId) (r : List POp) : EndsA E nt (.c (.reg (⟨d, .call (Call.mk (.value (.func 72)) xs ats), none⟩ :: r)) :: k) .nrm tm S Q = CallK E nt 72 (xs.toList.map (E.ev tm)) d r k tm S Q := e_call d 72 xs ats r rfl
theorem call73 {nt : Nat} {k : List KI} {tm : PM AV} {S : St} {Q : PostA} (d : Option Tmp) (xs : Array Operand) (ats : Array TypeId) (r : List POp) : EndsA E nt (.c (.reg (⟨d, .call (Call.mk (.value (.func 73)) xs ats), none⟩ :: r)) :: k) .nrm tm S Q = CallK E nt 73 (xs.toList.map (E.ev tm)) d r k tm S Q := e_call d 73 xs ats r rfl
theorem call74 {nt : Nat} {k : List KI} {tm : PM AV} {S : St} {Q : PostA} (d : Option Tmp) (xs : Array Operand) (ats : Array TypeId) (r : List POp) : EndsA E nt (.c (.reg (⟨d, .call (Call.mk (.value (.func 74)) xs ats), none⟩ :: r)) :: k) .nrm tm S Q = CallK E nt 74 (xs.toList.map (E.ev tm)) d r k tm S Q := e_call d 74 xs ats r rfl
theorem call75 {nt : Nat} {k : List KI} {tm : PM AV} {S : St} {Q : PostA} (d : Option Tmp) (xs : Array Operand) (ats : Array TypeId) (r : List POp) : EndsA E nt (.c (.reg (⟨d, .call (Call.mk (.value (.func 75)) xs ats), none⟩ :: r)) :: k) .nrm tm S Q = CallK E nt 75 (xs.toList.map (E.ev tm)) d r k tm S Q := e_call d 75 xs ats r rfl
theorem call76 {nt : Nat} {k : List KI} {tm : PM AV} {S : St} {Q : PostA} (d : Option Tmp) (xs : Array Operand) (ats : Array TypeId) (r : List POp) : EndsA E nt (.c (.reg (⟨d, .call (Call.mk (.value (.func 76)) xs ats), none⟩ :: r)) :: k) .nrm tm S Q = CallK E nt 76 (xs.toList.map (E.ev tm)) d r k tm S Q := e_call d 76 xs ats r rfl
theorem call77 {nt : Nat} {k : List KI} {tm : PM AV} {S : St} {Q : PostA} (d : Option Tmp) (xs : Array Operand) (ats : Array TypeId) (r : List POp) : EndsA E nt (.c (.reg (⟨d, .call (Call.mk (.value (.func 77)) xs ats), none⟩ :: r)) :: k) .nrm tm S Q = CallK E nt 77 (xs.toList.map (E.ev tm)) d r k tm S Q := e_call d 77 xs ats r rfl
theorem call78 {nt : Nat} {k : List KI} {tm : PM AV} {S : St} {Q : PostA} (d : Option Tmp) (xs : Array Operand) (ats : Array TypeId) (r : List POp) : EndsA E nt (.c (.reg (⟨d, .call (Call.mk (.value (.func 78)) xs ats), none⟩ :: r)) :: k) .nrm tm S Q = CallK E nt 78 (xs.toList.map (E.ev tm)) d r k tm S Q := e_call d 78 xs ats r rfl
theorem call79 {nt : Nat} {k : List KI} {tm : PM AV} {S : St} {Q : PostA} (d : Option Tmp) (xs : Array Operand) (ats : Array TypeId) (r : List POp) : EndsA E nt (.c (.reg (⟨d, .call (Call.mk (.value (.func 79)) xs ats), none⟩ :: r)) :: k) .nrm tm S Q = CallK E nt 79 (xs.toList.map (E.ev tm)) d r k tm S Q := e_call d 79 xs ats r rfl
theorem call80 {nt : Nat} {k : List KI} {tm : PM AV} {S : St} {Q : PostA} (d : Option Tmp) (xs : Array Operand) (ats : Array TypeId) (r : List POp) : EndsA E nt (.c (.reg (⟨d, .call (Call.mk (.value (.func 80)) xs ats), none⟩ :: r)) :: k) .nrm tm S Q = CallK E nt 80 (xs.toList.map (E.ev tm)) d r k tm S Q := e_call d 80 xs ats r rfl
theorem call81 {nt : Nat} {k : List KI} {tm : PM AV} {S : St} {Q : PostA} (d : Option Tmp) (xs : Array Operand) (ats : Array TypeId) (r : List POp) : EndsA E nt (.c (.reg (⟨d, .call (Call.mk (.value (.func 81)) xs ats), none⟩ :: r)) :: k) .nrm tm S Q = CallK E nt 81 (xs.toList.map (E.ev tm)) d r k tm S Q := e_call d 81 xs ats r rfl
theorem call82 {nt : Nat} {k : List KI} {tm : PM AV} {S : St} {Q : PostA} (d : Option Tmp) (xs : Array Operand) (ats : Array TypeId) (r : List POp) : EndsA E nt (.c (.reg (⟨d, .call (Call.mk (.value (.func 82)) xs ats), none⟩ :: r)) :: k) .nrm tm S Q = CallK E nt 82 (xs.toList.map (E.ev tm)) d r k tm S Q := e_call d 82 xs ats r rfl
theorem call83 {nt : Nat} {k : List KI} {tm : PM AV} {S : St} {Q : PostA} (d : Option Tmp) (xs : Array Operand) (ats : Array TypeId) (r : List POp) : EndsA E nt (.c (.reg (⟨d, .call (Call.mk (.value (.func 83)) xs ats), none⟩ :: r)) :: k) .nrm tm S Q = CallK E nt 83 (xs.toList.map (E.ev tm)) d r k tm S Q := e_call d 83 xs ats r rfl
theorem call84 {nt : Nat} {k : List KI} {tm : PM AV} {S : St} {Q : PostA} (d : Option Tmp) (xs : Array Operand) (ats : Array TypeId) (r : List POp) : EndsA E nt (.c (.reg (⟨d, .call (Call.mk (.value (.func 84)) xs ats), none⟩ :: r)) :: k) .nrm tm S Q = CallK E nt 84 (xs.toList.map (E.ev tm)) d r k tm S Q := e_call d 84 xs ats r rfl
/-! hindsight/info.Good$1 -/
def r27_0 : List POp := [
  ⟨some 2, .box 43 (.tmp 0), none⟩,
  ⟨some 3, .box 43 (.tmp 1), none⟩,
  ⟨some 4, .assign (.const (.int .i64 0)), none⟩]
def r27_1 : List POp := [
  ⟨some 5, .fieldAddr 43 (.tmp 2) 2, none⟩,
  ⟨some 6, .load 9 (.tmp 5), none⟩,
  ⟨some 7, .fieldAddr 43 (.tmp 3) 2, none⟩,
  ⟨some 8, .load 9 (.tmp 7), none⟩,
  ⟨some 9, .call { callee := .value (.func 29), args := #[(.tmp 6), (.tmp 8)], argTypes := #[9, 9] }, none⟩,
  ⟨some 10, .fieldAddr 43 (.tmp 2) 0, none⟩,
  ⟨some 11, .load 3 (.tmp 10), none⟩,
  ⟨some 12, .fieldAddr 43 (.tmp 3) 0, none⟩,
  ⟨some 13, .load 3 (.tmp 12), none⟩]
def r27_2 : List POp := [
  ⟨some 14, .call { callee := .value (.func 30), args := #[(.tmp 11), (.tmp 13)], argTypes := #[3, 3] }, none⟩,
  ⟨some 15, .buildSlice 57 2 #[(0, (.tmp 9)), (1, (.tmp 14))], none⟩,
  ⟨some 16, .call { callee := .value (.func 28), args := #[(.tmp 15)], argTypes := #[57] }, none⟩,
  ⟨some 4, .assign (.tmp 16), none⟩]
noncomputable def d27_0 : Array Oper := match Try.f27.body.map (comp E Try.f27.ntmps) with | some p => p.draws.getD 0 #[] | none => #[]
theorem draw27_0 : DrawC E 17 d27_0 13 9 r27_1 r27_2 [(.tmp 10), (.tmp 12)] := ⟨by kernel_rfl, by decide, by kernel_rfl, by kernel_rfl, by kernel_rfl, by kernel_rfl, by kernel_rfl⟩
noncomputable def p27 : PC := (.seq (.reg r27_0) (.seq (.draw d27_0) .ret))
theorem comp27 : (Try.f27.body.map (comp E Try.f27.ntmps)) = some p27 := by kernel_rfl
theorem ev27 {args : List AV} {S : St} {P : AV → St → Prop} (hn : Nat.ble args.length 17 = true) (h : EndsA E 17 [.c p27] .nrm (initTm 0 args .leaf) S (RetQ E [.tmp 4] P)) : ∃ r S', EvA E 27 args S r S' ∧ P r S' := ev_ends (fn := Try.f27) (by kernel_rfl) rfl comp27 (by kernel_rfl) (by kernel_rfl) hn h
/-! cmp.Or[int] -/
def r28_0 : List POp := [
  ⟨some 2, .assign (.const (.int .i64 0)), none⟩]
def r28_1 : List POp := [
  ⟨some 3, .assign (.const (.int .i64 0)), none⟩]
def r28_2 : List POp := [
  ⟨some 6, .move (.tmp 0), none⟩,
  ⟨some 7, .call { callee := .builtin .len, args := #[(.tmp 6)], argTypes := #[57] }, none⟩,
  ⟨some 8, .move (.const (.int .i64 0)), none⟩]
def r28_3 : List POp := [
  ⟨some 9, .binOp .lss 3 (.tmp 8) (.tmp 7) 3, none⟩]
def r28_4 : List POp := [
  ⟨some 10, .indexAddr 57 (.tmp 6) (.tmp 8), none⟩,
  ⟨some 11, .load 3 (.tmp 10), none⟩,
  ⟨some 5, .assign (.tmp 11), none⟩]
def r28_5 : List POp := [
  ⟨some 12, .move (.tmp 5), none⟩,
  ⟨some 13, .move (.tmp 3), none⟩,
  ⟨some 14, .binOp .neq 3 (.tmp 12) (.tmp 13) 3, none⟩]
def r28_6 : List POp := [
  ⟨some 15, .move (.tmp 5), none⟩,
  ⟨some 2, .assign (.tmp 15), none⟩]
def r28_7 : List POp := [
  ⟨some 16, .binOp .add 3 (.tmp 8) (.const (.int .i64 1)) 3, none⟩,
  ⟨some 8, .move (.tmp 16), none⟩]
noncomputable def b28_8 : PC := (.seq (.reg r28_3) (.seq (.cond (.tmp 9) .skip (.exit 0)) (.seq (.block 1 (.seq (.reg r28_4) (.seq (.reg r28_5) (.cond (.tmp 14) (.seq (.reg r28_6) .ret) .skip)))) (.reg r28_7))))
def r28_9 : List POp := [
  ⟨some 17, .move (.tmp 3), none⟩,
  ⟨some 2, .assign (.tmp 17), none⟩]
noncomputable def p28 : PC := (.seq (.reg r28_0) (.seq (.reg r28_1) (.seq (.seq (.reg r28_2) (.block 0 (.loop b28_8))) (.seq (.reg r28_9) .ret))))
theorem comp28 : (Try.f28.body.map (comp E Try.f28.ntmps)) = some p28 := by kernel_rfl
theorem ev28 {args : List AV} {S : St} {P : AV → St → Prop} (hn : Nat.ble args.length 18 = true) (h : EndsA E 18 [.c p28] .nrm (initTm 0 args .leaf) S (RetQ E [.tmp 2] P)) : ∃ r S', EvA E 28 args S r S' ∧ P r S' := ev_ends (fn := Try.f28) (by kernel_rfl) rfl comp28 (by kernel_rfl) (by kernel_rfl) hn h
/-! strings.Compare -/
def r29_0 : List POp := [
  ⟨some 4, .assign (.const (.int .i64 0)), none⟩]
def r29_1 : List POp := [
  ⟨some 5, .move (.tmp 0), none⟩,
  ⟨some 6, .move (.tmp 1), none⟩,
  ⟨some 7, .call { callee := .value (.func 47), args := #[(.tmp 5), (.tmp 6)], argTypes := #[9, 9] }, none⟩,
  ⟨some 4, .assign (.tmp 7), none⟩]
noncomputable def p29 : PC := (.seq (.reg r29_0) (.seq (.reg r29_1) .ret))
theorem comp29 : (Try.f29.body.map (comp E Try.f29.ntmps)) = some p29 := by kernel_rfl
theorem ev29 {args : List AV} {S : St} {P : AV → St → Prop} (hn : Nat.ble args.length 8 = true) (h : EndsA E 8 [.c p29] .nrm (initTm 0 args .leaf) S (RetQ E [.tmp 4] P)) : ∃ r S', EvA E 29 args S r S' ∧ P r S' := ev_ends (fn := Try.f29) (by kernel_rfl) rfl comp29 (by kernel_rfl) (by kernel_rfl) hn h
/-! cmp.Compare[int] -/
def r30_0 : List POp := [
  ⟨some 4, .assign (.const (.int .i64 0)), none⟩]
def r30_1 : List POp := [
  ⟨some 7, .move (.tmp 0), none⟩,
  ⟨some 8, .call { callee := .value (.func 48), args := #[(.tmp 7)], argTypes := #[3] }, none⟩,
  ⟨some 5, .assign (.tmp 8), none⟩]
def r30_2 : List POp := [
  ⟨some 9, .move (.tmp 1), none⟩,
  ⟨some 10, .call { callee := .value (.func 48), args := #[(.tmp 9)], argTypes := #[3] }, none⟩,
  ⟨some 6, .assign (.tmp 10), none⟩]
def r30_3 : List POp := [
  ⟨some 11, .move (.tmp 5), none⟩]
def r30_4 : List POp := [
  ⟨some 12, .move (.tmp 6), none⟩]
def r30_5 : List POp := [
  ⟨some 4, .assign (.const (.int .i64 0)), none⟩]
def r30_6 : List POp := [
  ⟨some 4, .assign (.const (.int .i64 (-1))), none⟩]
def r30_7 : List POp := [
  ⟨some 13, .move (.tmp 6), none⟩]
def r30_8 : List POp := [
  ⟨some 4, .assign (.const (.int .i64 1)), none⟩]
def r30_9 : List POp := [
  ⟨some 14, .move (.tmp 0), none⟩,
  ⟨some 15, .move (.tmp 1), none⟩,
  ⟨some 16, .binOp .lss 3 (.tmp 14) (.tmp 15) 3, none⟩]
def r30_10 : List POp := [
  ⟨some 4, .assign (.const (.int .i64 (-1))), none⟩]
def r30_11 : List POp := [
  ⟨some 17, .move (.tmp 0), none⟩,
  ⟨some 18, .move (.tmp 1), none⟩,
  ⟨some 19, .binOp .gtr 3 (.tmp 17) (.tmp 18) 3, none⟩]
def r30_12 : List POp := [
  ⟨some 4, .assign (.const (.int .i64 1)), none⟩]
def r30_13 : List POp := [
  ⟨some 4, .assign (.const (.int .i64 0)), none⟩]
noncomputable def p30 : PC := (.seq (.reg r30_0) (.seq (.reg r30_1) (.seq (.reg r30_2) (.seq (.seq (.reg r30_3) (.cond (.tmp 11) (.seq (.seq (.reg r30_4) (.cond (.tmp 12) (.seq (.reg r30_5) .ret) .skip)) (.seq (.reg r30_6) .ret)) .skip)) (.seq (.seq (.reg r30_7) (.cond (.tmp 13) (.seq (.reg r30_8) .ret) .skip)) (.seq (.seq (.reg r30_9) (.cond (.tmp 16) (.seq (.reg r30_10) .ret) .skip)) (.seq (.seq (.reg r30_11) (.cond (.tmp 19) (.seq (.reg r30_12) .ret) .skip)) (.seq (.reg r30_13) .ret))))))))
theorem comp30 : (Try.f30.body.map (comp E Try.f30.ntmps)) = some p30 := by kernel_rfl
theorem ev30 {args : List AV} {S : St} {P : AV → St → Prop} (hn : Nat.ble args.length 20 = true) (h : EndsA E 20 [.c p30] .nrm (initTm 0 args .leaf) S (RetQ E [.tmp 4] P)) : ∃ r S', EvA E 30 args S r S' ∧ P r S' := ev_ends (fn := Try.f30) (by kernel_rfl) rfl comp30 (by kernel_rfl) (by kernel_rfl) hn h
/-! internal/bytealg.CompareString -/
def r47_0 : List POp := [
  ⟨some 4, .assign (.const (.int .i64 0)), none⟩]
def r47_1 : List POp := [
  ⟨some 5, .move (.tmp 0), none⟩,
  ⟨some 6, .move (.tmp 1), none⟩,
  ⟨some 7, .call { callee := .value (.func 62), args := #[(.tmp 5), (.tmp 6)], argTypes := #[9, 9] }, none⟩,
  ⟨some 4, .assign (.tmp 7), none⟩]
noncomputable def p47 : PC := (.seq (.reg r47_0) (.seq (.reg r47_1) .ret))
theorem comp47 : (Try.f47.body.map (comp E Try.f47.ntmps)) = some p47 := by kernel_rfl
theorem ev47 {args : List AV} {S : St} {P : AV → St → Prop} (hn : Nat.ble args.length 8 = true) (h : EndsA E 8 [.c p47] .nrm (initTm 0 args .leaf) S (RetQ E [.tmp 4] P)) : ∃ r S', EvA E 47 args S r S' ∧ P r S' := ev_ends (fn := Try.f47) (by kernel_rfl) rfl comp47 (by kernel_rfl) (by kernel_rfl) hn h
/-! cmp.isNaN[int] -/
def r48_0 : List POp := [
  ⟨some 2, .assign (.const (.bool false)), none⟩]
def r48_1 : List POp := [
  ⟨some 3, .move (.tmp 0), none⟩,
  ⟨some 4, .move (.tmp 0), none⟩,
  ⟨some 5, .binOp .neq 3 (.tmp 3) (.tmp 4) 3, none⟩,
  ⟨some 2, .assign (.tmp 5), none⟩]
noncomputable def p48 : PC := (.seq (.reg r48_0) (.seq (.reg r48_1) .ret))
theorem comp48 : (Try.f48.body.map (comp E Try.f48.ntmps)) = some p48 := by kernel_rfl
theorem ev48 {args : List AV} {S : St} {P : AV → St → Prop} (hn : Nat.ble args.length 6 = true) (h : EndsA E 6 [.c p48] .nrm (initTm 0 args .leaf) S (RetQ E [.tmp 2] P)) : ∃ r S', EvA E 48 args S r S' ∧ P r S' := ev_ends (fn := Try.f48) (by kernel_rfl) rfl comp48 (by kernel_rfl) (by kernel_rfl) hn h
end Go.Proofs.Ytmmpcomfhcpicaa.Cmp0
