/-
  The compiled code of functions of this seat's program, and facts on its types: written by program (wip/GenPC.lean); the kernel checks each row.
-/
import Derived.Test.YtpcgbkjdobjdaaaGreatDoorProg
import Derived.Test.YtpcgbkjdobjdaaaGreatDoorAbsI
import Derived.Test.YtpcgbkjdobjdaaaGreatDoorIntX
set_option linter.unusedSimpArgs false
set_option linter.unusedVariables false
set_option maxRecDepth 100000
namespace Go.Proofs.YtpcgbkjdobjdaaaGreatDoor
open Go.Abs
noncomputable def E : Env := { plainEnv Tryz.prog (fun t _ => false) (fun _ _ => none) (fun _ => none) with G := showInts.tabs, X := fun f => bif Nat.beq f 4 then some awX else bif Nat.beq f 5 then some buX else bif Nat.beq f 6 then some newX else bif Nat.beq f 35 then some (pureX fmtF) else none }
theorem load2 {tm : PM AV} {S : St} {d : Option Tmp} (x : Operand) : opV E tm d (.load 2 x) S = loadC false 1 (E.ev tm x) S := load_chk 2 false 1 (by kernel_rfl) x
theorem store2 {tm : PM AV} {S : St} {d : Option Tmp} (x y : Operand) : opV E tm d (.store 2 x y) S = storeC 1 (E.ev tm x) (E.ev tm y) S := store_chk (b := false) 2 1 (by kernel_rfl) x y
theorem load3 {tm : PM AV} {S : St} {d : Option Tmp} (x : Operand) : opV E tm d (.load 3 x) S = loadC false 1 (E.ev tm x) S := load_chk 3 false 1 (by kernel_rfl) x
theorem store3 {tm : PM AV} {S : St} {d : Option Tmp} (x y : Operand) : opV E tm d (.store 3 x y) S = storeC 1 (E.ev tm x) (E.ev tm y) S := store_chk (b := false) 3 1 (by kernel_rfl) x y
theorem load4 {tm : PM AV} {S : St} {d : Option Tmp} (x : Operand) : opV E tm d (.load 4 x) S = loadC false 1 (E.ev tm x) S := load_chk 4 false 1 (by kernel_rfl) x
theorem store4 {tm : PM AV} {S : St} {d : Option Tmp} (x y : Operand) : opV E tm d (.store 4 x y) S = storeC 1 (E.ev tm x) (E.ev tm y) S := store_chk (b := false) 4 1 (by kernel_rfl) x y
theorem load5 {tm : PM AV} {S : St} {d : Option Tmp} (x : Operand) : opV E tm d (.load 5 x) S = loadC false 1 (E.ev tm x) S := load_chk 5 false 1 (by kernel_rfl) x
theorem store5 {tm : PM AV} {S : St} {d : Option Tmp} (x y : Operand) : opV E tm d (.store 5 x y) S = storeC 1 (E.ev tm x) (E.ev tm y) S := store_chk (b := false) 5 1 (by kernel_rfl) x y
theorem load6 {tm : PM AV} {S : St} {d : Option Tmp} (x : Operand) : opV E tm d (.load 6 x) S = loadC false 1 (E.ev tm x) S := load_chk 6 false 1 (by kernel_rfl) x
theorem store6 {tm : PM AV} {S : St} {d : Option Tmp} (x y : Operand) : opV E tm d (.store 6 x y) S = storeC 1 (E.ev tm x) (E.ev tm y) S := store_chk (b := false) 6 1 (by kernel_rfl) x y
theorem load7 {tm : PM AV} {S : St} {d : Option Tmp} (x : Operand) : opV E tm d (.load 7 x) S = loadC true 4 (E.ev tm x) S := load_chk 7 true 4 (by kernel_rfl) x
theorem store7 {tm : PM AV} {S : St} {d : Option Tmp} (x y : Operand) : opV E tm d (.store 7 x y) S = storeC 4 (E.ev tm x) (E.ev tm y) S := store_chk (b := true) 7 4 (by kernel_rfl) x y
theorem load8 {tm : PM AV} {S : St} {d : Option Tmp} (x : Operand) : opV E tm d (.load 8 x) S = loadC true 4 (E.ev tm x) S := load_chk 8 true 4 (by kernel_rfl) x
theorem store8 {tm : PM AV} {S : St} {d : Option Tmp} (x y : Operand) : opV E tm d (.store 8 x y) S = storeC 4 (E.ev tm x) (E.ev tm y) S := store_chk (b := true) 8 4 (by kernel_rfl) x y
theorem load9 {tm : PM AV} {S : St} {d : Option Tmp} (x : Operand) : opV E tm d (.load 9 x) S = loadC false 1 (E.ev tm x) S := load_chk 9 false 1 (by kernel_rfl) x
theorem store9 {tm : PM AV} {S : St} {d : Option Tmp} (x y : Operand) : opV E tm d (.store 9 x y) S = storeC 1 (E.ev tm x) (E.ev tm y) S := store_chk (b := false) 9 1 (by kernel_rfl) x y
theorem load10 {tm : PM AV} {S : St} {d : Option Tmp} (x : Operand) : opV E tm d (.load 10 x) S = loadC false 1 (E.ev tm x) S := load_chk 10 false 1 (by kernel_rfl) x
theorem store10 {tm : PM AV} {S : St} {d : Option Tmp} (x y : Operand) : opV E tm d (.store 10 x y) S = storeC 1 (E.ev tm x) (E.ev tm y) S := store_chk (b := false) 10 1 (by kernel_rfl) x y
theorem load11 {tm : PM AV} {S : St} {d : Option Tmp} (x : Operand) : opV E tm d (.load 11 x) S = loadC false 1 (E.ev tm x) S := load_chk 11 false 1 (by kernel_rfl) x
theorem store11 {tm : PM AV} {S : St} {d : Option Tmp} (x y : Operand) : opV E tm d (.store 11 x y) S = storeC 1 (E.ev tm x) (E.ev tm y) S := store_chk (b := false) 11 1 (by kernel_rfl) x y
theorem load12 {tm : PM AV} {S : St} {d : Option Tmp} (x : Operand) : opV E tm d (.load 12 x) S = loadC false 1 (E.ev tm x) S := load_chk 12 false 1 (by kernel_rfl) x
theorem store12 {tm : PM AV} {S : St} {d : Option Tmp} (x y : Operand) : opV E tm d (.store 12 x y) S = storeC 1 (E.ev tm x) (E.ev tm y) S := store_chk (b := false) 12 1 (by kernel_rfl) x y
theorem load13 {tm : PM AV} {S : St} {d : Option Tmp} (x : Operand) : opV E tm d (.load 13 x) S = loadC true 2 (E.ev tm x) S := load_chk 13 true 2 (by kernel_rfl) x
theorem store13 {tm : PM AV} {S : St} {d : Option Tmp} (x y : Operand) : opV E tm d (.store 13 x y) S = storeC 2 (E.ev tm x) (E.ev tm y) S := store_chk (b := true) 13 2 (by kernel_rfl) x y
theorem load14 {tm : PM AV} {S : St} {d : Option Tmp} (x : Operand) : opV E tm d (.load 14 x) S = loadC true 2 (E.ev tm x) S := load_chk 14 true 2 (by kernel_rfl) x
theorem store14 {tm : PM AV} {S : St} {d : Option Tmp} (x y : Operand) : opV E tm d (.store 14 x y) S = storeC 2 (E.ev tm x) (E.ev tm y) S := store_chk (b := true) 14 2 (by kernel_rfl) x y
theorem load15 {tm : PM AV} {S : St} {d : Option Tmp} (x : Operand) : opV E tm d (.load 15 x) S = loadC false 1 (E.ev tm x) S := load_chk 15 false 1 (by kernel_rfl) x
theorem store15 {tm : PM AV} {S : St} {d : Option Tmp} (x y : Operand) : opV E tm d (.store 15 x y) S = storeC 1 (E.ev tm x) (E.ev tm y) S := store_chk (b := false) 15 1 (by kernel_rfl) x y
theorem load16 {tm : PM AV} {S : St} {d : Option Tmp} (x : Operand) : opV E tm d (.load 16 x) S = loadC false 1 (E.ev tm x) S := load_chk 16 false 1 (by kernel_rfl) x
theorem store16 {tm : PM AV} {S : St} {d : Option Tmp} (x y : Operand) : opV E tm d (.store 16 x y) S = storeC 1 (E.ev tm x) (E.ev tm y) S := store_chk (b := false) 16 1 (by kernel_rfl) x y
theorem load17 {tm : PM AV} {S : St} {d : Option Tmp} (x : Operand) : opV E tm d (.load 17 x) S = loadC false 1 (E.ev tm x) S := load_chk 17 false 1 (by kernel_rfl) x
theorem store17 {tm : PM AV} {S : St} {d : Option Tmp} (x y : Operand) : opV E tm d (.store 17 x y) S = storeC 1 (E.ev tm x) (E.ev tm y) S := store_chk (b := false) 17 1 (by kernel_rfl) x y
theorem load18 {tm : PM AV} {S : St} {d : Option Tmp} (x : Operand) : opV E tm d (.load 18 x) S = loadC true 1 (E.ev tm x) S := load_chk 18 true 1 (by kernel_rfl) x
theorem store18 {tm : PM AV} {S : St} {d : Option Tmp} (x y : Operand) : opV E tm d (.store 18 x y) S = storeC 1 (E.ev tm x) (E.ev tm y) S := store_chk (b := true) 18 1 (by kernel_rfl) x y
theorem load19 {tm : PM AV} {S : St} {d : Option Tmp} (x : Operand) : opV E tm d (.load 19 x) S = loadC true 1 (E.ev tm x) S := load_chk 19 true 1 (by kernel_rfl) x
theorem store19 {tm : PM AV} {S : St} {d : Option Tmp} (x y : Operand) : opV E tm d (.store 19 x y) S = storeC 1 (E.ev tm x) (E.ev tm y) S := store_chk (b := true) 19 1 (by kernel_rfl) x y
theorem load21 {tm : PM AV} {S : St} {d : Option Tmp} (x : Operand) : opV E tm d (.load 21 x) S = loadC false 1 (E.ev tm x) S := load_chk 21 false 1 (by kernel_rfl) x
theorem store21 {tm : PM AV} {S : St} {d : Option Tmp} (x y : Operand) : opV E tm d (.store 21 x y) S = storeC 1 (E.ev tm x) (E.ev tm y) S := store_chk (b := false) 21 1 (by kernel_rfl) x y
theorem load23 {tm : PM AV} {S : St} {d : Option Tmp} (x : Operand) : opV E tm d (.load 23 x) S = loadC false 1 (E.ev tm x) S := load_chk 23 false 1 (by kernel_rfl) x
theorem store23 {tm : PM AV} {S : St} {d : Option Tmp} (x y : Operand) : opV E tm d (.store 23 x y) S = storeC 1 (E.ev tm x) (E.ev tm y) S := store_chk (b := false) 23 1 (by kernel_rfl) x y
theorem und23 : E.und 23 = some (.slice 98) := by kernel_rfl
theorem sl23 : slIs E 23 7 = true := by kernel_rfl
theorem el23 : elIs E 23 98 true 7 88 = true := by kernel_rfl
theorem bs23 {tm : PM AV} {S : St} {d : Option Tmp} (n : Nat) (ps : Array (Nat × Operand)) : opV E tm d (.buildSlice 23 n ps) S = buildSliceA E 23 n (ps.toList.map fun p => (p.1, E.ev tm p.2)) S := rfl
theorem app23 {tm : PM AV} {S : St} {d : Option Tmp} (x y : Operand) (t1 : TypeId) : opV E tm d (.call (Call.mk (.builtin .append) #[x, y] #[23, t1])) S = builtinA E false .append [23, t1] [E.ev tm x, E.ev tm y] S := rfl
theorem index23 {tm : PM AV} {S : St} {d : Option Tmp} (x y : Operand) : opV E tm d (.indexAddr 23 x y) S = idxV 7 (E.ev tm x) (int? (E.ev tm y)) S := index_chk 23 7 (by kernel_rfl) x y
theorem len23 {tm : PM AV} {S : St} {d : Option Tmp} (x : Operand) : opV E tm d (.call (Call.mk (.builtin .len) #[x] #[23])) S = lenV (E.ev tm x) S := op_len (t := 23) (e := 98) (by kernel_rfl) x
theorem load24 {tm : PM AV} {S : St} {d : Option Tmp} (x : Operand) : opV E tm d (.load 24 x) S = loadC false 1 (E.ev tm x) S := load_chk 24 false 1 (by kernel_rfl) x
theorem store24 {tm : PM AV} {S : St} {d : Option Tmp} (x y : Operand) : opV E tm d (.store 24 x y) S = storeC 1 (E.ev tm x) (E.ev tm y) S := store_chk (b := false) 24 1 (by kernel_rfl) x y
theorem und24 : E.und 24 = some (.slice 149) := by kernel_rfl
theorem sl24 : slIs E 24 2 = true := by kernel_rfl
theorem el24 : elIs E 24 149 true 2 40 = true := by kernel_rfl
theorem bs24 {tm : PM AV} {S : St} {d : Option Tmp} (n : Nat) (ps : Array (Nat × Operand)) : opV E tm d (.buildSlice 24 n ps) S = buildSliceA E 24 n (ps.toList.map fun p => (p.1, E.ev tm p.2)) S := rfl
theorem app24 {tm : PM AV} {S : St} {d : Option Tmp} (x y : Operand) (t1 : TypeId) : opV E tm d (.call (Call.mk (.builtin .append) #[x, y] #[24, t1])) S = builtinA E false .append [24, t1] [E.ev tm x, E.ev tm y] S := rfl
theorem index24 {tm : PM AV} {S : St} {d : Option Tmp} (x y : Operand) : opV E tm d (.indexAddr 24 x y) S = idxV 2 (E.ev tm x) (int? (E.ev tm y)) S := index_chk 24 2 (by kernel_rfl) x y
theorem len24 {tm : PM AV} {S : St} {d : Option Tmp} (x : Operand) : opV E tm d (.call (Call.mk (.builtin .len) #[x] #[24])) S = lenV (E.ev tm x) S := op_len (t := 24) (e := 149) (by kernel_rfl) x
theorem load25 {tm : PM AV} {S : St} {d : Option Tmp} (x : Operand) : opV E tm d (.load 25 x) S = loadC true 2 (E.ev tm x) S := load_chk 25 true 2 (by kernel_rfl) x
theorem store25 {tm : PM AV} {S : St} {d : Option Tmp} (x y : Operand) : opV E tm d (.store 25 x y) S = storeC 2 (E.ev tm x) (E.ev tm y) S := store_chk (b := true) 25 2 (by kernel_rfl) x y
theorem load26 {tm : PM AV} {S : St} {d : Option Tmp} (x : Operand) : opV E tm d (.load 26 x) S = loadC true 2 (E.ev tm x) S := load_chk 26 true 2 (by kernel_rfl) x
theorem store26 {tm : PM AV} {S : St} {d : Option Tmp} (x y : Operand) : opV E tm d (.store 26 x y) S = storeC 2 (E.ev tm x) (E.ev tm y) S := store_chk (b := true) 26 2 (by kernel_rfl) x y
theorem load27 {tm : PM AV} {S : St} {d : Option Tmp} (x : Operand) : opV E tm d (.load 27 x) S = loadC false 1 (E.ev tm x) S := load_chk 27 false 1 (by kernel_rfl) x
theorem store27 {tm : PM AV} {S : St} {d : Option Tmp} (x y : Operand) : opV E tm d (.store 27 x y) S = storeC 1 (E.ev tm x) (E.ev tm y) S := store_chk (b := false) 27 1 (by kernel_rfl) x y
theorem und27 : E.und 27 = some (.slice 29) := by kernel_rfl
theorem sl27 : slIs E 27 4 = true := by kernel_rfl
theorem el27 : elIs E 27 29 true 4 56 = true := by kernel_rfl
theorem bs27 {tm : PM AV} {S : St} {d : Option Tmp} (n : Nat) (ps : Array (Nat × Operand)) : opV E tm d (.buildSlice 27 n ps) S = buildSliceA E 27 n (ps.toList.map fun p => (p.1, E.ev tm p.2)) S := rfl
theorem app27 {tm : PM AV} {S : St} {d : Option Tmp} (x y : Operand) (t1 : TypeId) : opV E tm d (.call (Call.mk (.builtin .append) #[x, y] #[27, t1])) S = builtinA E false .append [27, t1] [E.ev tm x, E.ev tm y] S := rfl
theorem index27 {tm : PM AV} {S : St} {d : Option Tmp} (x y : Operand) : opV E tm d (.indexAddr 27 x y) S = idxV 4 (E.ev tm x) (int? (E.ev tm y)) S := index_chk 27 4 (by kernel_rfl) x y
theorem len27 {tm : PM AV} {S : St} {d : Option Tmp} (x : Operand) : opV E tm d (.call (Call.mk (.builtin .len) #[x] #[27])) S = lenV (E.ev tm x) S := op_len (t := 27) (e := 29) (by kernel_rfl) x
theorem load28 {tm : PM AV} {S : St} {d : Option Tmp} (x : Operand) : opV E tm d (.load 28 x) S = loadC true 4 (E.ev tm x) S := load_chk 28 true 4 (by kernel_rfl) x
theorem store28 {tm : PM AV} {S : St} {d : Option Tmp} (x y : Operand) : opV E tm d (.store 28 x y) S = storeC 4 (E.ev tm x) (E.ev tm y) S := store_chk (b := true) 28 4 (by kernel_rfl) x y
theorem load29 {tm : PM AV} {S : St} {d : Option Tmp} (x : Operand) : opV E tm d (.load 29 x) S = loadC true 4 (E.ev tm x) S := load_chk 29 true 4 (by kernel_rfl) x
theorem store29 {tm : PM AV} {S : St} {d : Option Tmp} (x y : Operand) : opV E tm d (.store 29 x y) S = storeC 4 (E.ev tm x) (E.ev tm y) S := store_chk (b := true) 29 4 (by kernel_rfl) x y
theorem load30 {tm : PM AV} {S : St} {d : Option Tmp} (x : Operand) : opV E tm d (.load 30 x) S = loadC true 7 (E.ev tm x) S := load_chk 30 true 7 (by kernel_rfl) x
theorem store30 {tm : PM AV} {S : St} {d : Option Tmp} (x y : Operand) : opV E tm d (.store 30 x y) S = storeC 7 (E.ev tm x) (E.ev tm y) S := store_chk (b := true) 30 7 (by kernel_rfl) x y
theorem load31 {tm : PM AV} {S : St} {d : Option Tmp} (x : Operand) : opV E tm d (.load 31 x) S = loadC true 7 (E.ev tm x) S := load_chk 31 true 7 (by kernel_rfl) x
theorem store31 {tm : PM AV} {S : St} {d : Option Tmp} (x y : Operand) : opV E tm d (.store 31 x y) S = storeC 7 (E.ev tm x) (E.ev tm y) S := store_chk (b := true) 31 7 (by kernel_rfl) x y
theorem load32 {tm : PM AV} {S : St} {d : Option Tmp} (x : Operand) : opV E tm d (.load 32 x) S = loadC false 1 (E.ev tm x) S := load_chk 32 false 1 (by kernel_rfl) x
theorem store32 {tm : PM AV} {S : St} {d : Option Tmp} (x y : Operand) : opV E tm d (.store 32 x y) S = storeC 1 (E.ev tm x) (E.ev tm y) S := store_chk (b := false) 32 1 (by kernel_rfl) x y
theorem und32 : E.und 32 = some (.slice 5) := by kernel_rfl
theorem sl32 : slIs E 32 1 = true := by kernel_rfl
theorem el32 : elIs E 32 5 false 1 1 = true := by kernel_rfl
theorem bs32 {tm : PM AV} {S : St} {d : Option Tmp} (n : Nat) (ps : Array (Nat × Operand)) : opV E tm d (.buildSlice 32 n ps) S = buildSliceA E 32 n (ps.toList.map fun p => (p.1, E.ev tm p.2)) S := rfl
theorem app32 {tm : PM AV} {S : St} {d : Option Tmp} (x y : Operand) (t1 : TypeId) : opV E tm d (.call (Call.mk (.builtin .append) #[x, y] #[32, t1])) S = builtinA E false .append [32, t1] [E.ev tm x, E.ev tm y] S := rfl
theorem index32 {tm : PM AV} {S : St} {d : Option Tmp} (x y : Operand) : opV E tm d (.indexAddr 32 x y) S = idxV 1 (E.ev tm x) (int? (E.ev tm y)) S := index_chk 32 1 (by kernel_rfl) x y
theorem len32 {tm : PM AV} {S : St} {d : Option Tmp} (x : Operand) : opV E tm d (.call (Call.mk (.builtin .len) #[x] #[32])) S = lenV (E.ev tm x) S := op_len (t := 32) (e := 5) (by kernel_rfl) x
theorem load33 {tm : PM AV} {S : St} {d : Option Tmp} (x : Operand) : opV E tm d (.load 33 x) S = loadC false 1 (E.ev tm x) S := load_chk 33 false 1 (by kernel_rfl) x
theorem store33 {tm : PM AV} {S : St} {d : Option Tmp} (x y : Operand) : opV E tm d (.store 33 x y) S = storeC 1 (E.ev tm x) (E.ev tm y) S := store_chk (b := false) 33 1 (by kernel_rfl) x y
theorem und33 : E.und 33 = some (.slice 82) := by kernel_rfl
theorem sl33 : slIs E 33 2 = true := by kernel_rfl
theorem el33 : elIs E 33 82 true 2 16 = true := by kernel_rfl
theorem bs33 {tm : PM AV} {S : St} {d : Option Tmp} (n : Nat) (ps : Array (Nat × Operand)) : opV E tm d (.buildSlice 33 n ps) S = buildSliceA E 33 n (ps.toList.map fun p => (p.1, E.ev tm p.2)) S := rfl
theorem app33 {tm : PM AV} {S : St} {d : Option Tmp} (x y : Operand) (t1 : TypeId) : opV E tm d (.call (Call.mk (.builtin .append) #[x, y] #[33, t1])) S = builtinA E false .append [33, t1] [E.ev tm x, E.ev tm y] S := rfl
theorem index33 {tm : PM AV} {S : St} {d : Option Tmp} (x y : Operand) : opV E tm d (.indexAddr 33 x y) S = idxV 2 (E.ev tm x) (int? (E.ev tm y)) S := index_chk 33 2 (by kernel_rfl) x y
theorem len33 {tm : PM AV} {S : St} {d : Option Tmp} (x : Operand) : opV E tm d (.call (Call.mk (.builtin .len) #[x] #[33])) S = lenV (E.ev tm x) S := op_len (t := 33) (e := 82) (by kernel_rfl) x
theorem load34 {tm : PM AV} {S : St} {d : Option Tmp} (x : Operand) : opV E tm d (.load 34 x) S = loadC false 1 (E.ev tm x) S := load_chk 34 false 1 (by kernel_rfl) x
theorem store34 {tm : PM AV} {S : St} {d : Option Tmp} (x y : Operand) : opV E tm d (.store 34 x y) S = storeC 1 (E.ev tm x) (E.ev tm y) S := store_chk (b := false) 34 1 (by kernel_rfl) x y
theorem und34 : E.und 34 = some (.slice 269) := by kernel_rfl
theorem sl34 : slIs E 34 4 = true := by kernel_rfl
theorem el34 : elIs E 34 269 true 4 32 = true := by kernel_rfl
theorem bs34 {tm : PM AV} {S : St} {d : Option Tmp} (n : Nat) (ps : Array (Nat × Operand)) : opV E tm d (.buildSlice 34 n ps) S = buildSliceA E 34 n (ps.toList.map fun p => (p.1, E.ev tm p.2)) S := rfl
theorem app34 {tm : PM AV} {S : St} {d : Option Tmp} (x y : Operand) (t1 : TypeId) : opV E tm d (.call (Call.mk (.builtin .append) #[x, y] #[34, t1])) S = builtinA E false .append [34, t1] [E.ev tm x, E.ev tm y] S := rfl
theorem index34 {tm : PM AV} {S : St} {d : Option Tmp} (x y : Operand) : opV E tm d (.indexAddr 34 x y) S = idxV 4 (E.ev tm x) (int? (E.ev tm y)) S := index_chk 34 4 (by kernel_rfl) x y
theorem len34 {tm : PM AV} {S : St} {d : Option Tmp} (x : Operand) : opV E tm d (.call (Call.mk (.builtin .len) #[x] #[34])) S = lenV (E.ev tm x) S := op_len (t := 34) (e := 269) (by kernel_rfl) x
theorem load35 {tm : PM AV} {S : St} {d : Option Tmp} (x : Operand) : opV E tm d (.load 35 x) S = loadC false 1 (E.ev tm x) S := load_chk 35 false 1 (by kernel_rfl) x
theorem store35 {tm : PM AV} {S : St} {d : Option Tmp} (x y : Operand) : opV E tm d (.store 35 x y) S = storeC 1 (E.ev tm x) (E.ev tm y) S := store_chk (b := false) 35 1 (by kernel_rfl) x y
theorem und35 : E.und 35 = some (.slice 9) := by kernel_rfl
theorem sl35 : slIs E 35 1 = true := by kernel_rfl
theorem el35 : elIs E 35 9 false 1 16 = true := by kernel_rfl
theorem bs35 {tm : PM AV} {S : St} {d : Option Tmp} (n : Nat) (ps : Array (Nat × Operand)) : opV E tm d (.buildSlice 35 n ps) S = buildSliceA E 35 n (ps.toList.map fun p => (p.1, E.ev tm p.2)) S := rfl
theorem app35 {tm : PM AV} {S : St} {d : Option Tmp} (x y : Operand) (t1 : TypeId) : opV E tm d (.call (Call.mk (.builtin .append) #[x, y] #[35, t1])) S = builtinA E false .append [35, t1] [E.ev tm x, E.ev tm y] S := rfl
theorem index35 {tm : PM AV} {S : St} {d : Option Tmp} (x y : Operand) : opV E tm d (.indexAddr 35 x y) S = idxV 1 (E.ev tm x) (int? (E.ev tm y)) S := index_chk 35 1 (by kernel_rfl) x y
theorem len35 {tm : PM AV} {S : St} {d : Option Tmp} (x : Operand) : opV E tm d (.call (Call.mk (.builtin .len) #[x] #[35])) S = lenV (E.ev tm x) S := op_len (t := 35) (e := 9) (by kernel_rfl) x
theorem load36 {tm : PM AV} {S : St} {d : Option Tmp} (x : Operand) : opV E tm d (.load 36 x) S = loadC true 4 (E.ev tm x) S := load_chk 36 true 4 (by kernel_rfl) x
theorem store36 {tm : PM AV} {S : St} {d : Option Tmp} (x y : Operand) : opV E tm d (.store 36 x y) S = storeC 4 (E.ev tm x) (E.ev tm y) S := store_chk (b := true) 36 4 (by kernel_rfl) x y
theorem load37 {tm : PM AV} {S : St} {d : Option Tmp} (x : Operand) : opV E tm d (.load 37 x) S = loadC true 4 (E.ev tm x) S := load_chk 37 true 4 (by kernel_rfl) x
theorem store37 {tm : PM AV} {S : St} {d : Option Tmp} (x y : Operand) : opV E tm d (.store 37 x y) S = storeC 4 (E.ev tm x) (E.ev tm y) S := store_chk (b := true) 37 4 (by kernel_rfl) x y
theorem load38 {tm : PM AV} {S : St} {d : Option Tmp} (x : Operand) : opV E tm d (.load 38 x) S = loadC false 1 (E.ev tm x) S := load_chk 38 false 1 (by kernel_rfl) x
theorem store38 {tm : PM AV} {S : St} {d : Option Tmp} (x y : Operand) : opV E tm d (.store 38 x y) S = storeC 1 (E.ev tm x) (E.ev tm y) S := store_chk (b := false) 38 1 (by kernel_rfl) x y
theorem und38 : E.und 38 = some (.slice 126) := by kernel_rfl
theorem sl38 : slIs E 38 4 = true := by kernel_rfl
theorem el38 : elIs E 38 126 true 4 32 = true := by kernel_rfl
theorem bs38 {tm : PM AV} {S : St} {d : Option Tmp} (n : Nat) (ps : Array (Nat × Operand)) : opV E tm d (.buildSlice 38 n ps) S = buildSliceA E 38 n (ps.toList.map fun p => (p.1, E.ev tm p.2)) S := rfl
theorem app38 {tm : PM AV} {S : St} {d : Option Tmp} (x y : Operand) (t1 : TypeId) : opV E tm d (.call (Call.mk (.builtin .append) #[x, y] #[38, t1])) S = builtinA E false .append [38, t1] [E.ev tm x, E.ev tm y] S := rfl
theorem index38 {tm : PM AV} {S : St} {d : Option Tmp} (x y : Operand) : opV E tm d (.indexAddr 38 x y) S = idxV 4 (E.ev tm x) (int? (E.ev tm y)) S := index_chk 38 4 (by kernel_rfl) x y
theorem len38 {tm : PM AV} {S : St} {d : Option Tmp} (x : Operand) : opV E tm d (.call (Call.mk (.builtin .len) #[x] #[38])) S = lenV (E.ev tm x) S := op_len (t := 38) (e := 126) (by kernel_rfl) x
theorem load39 {tm : PM AV} {S : St} {d : Option Tmp} (x : Operand) : opV E tm d (.load 39 x) S = loadC false 1 (E.ev tm x) S := load_chk 39 false 1 (by kernel_rfl) x
theorem store39 {tm : PM AV} {S : St} {d : Option Tmp} (x y : Operand) : opV E tm d (.store 39 x y) S = storeC 1 (E.ev tm x) (E.ev tm y) S := store_chk (b := false) 39 1 (by kernel_rfl) x y
theorem und39 : E.und 39 = some (.slice 133) := by kernel_rfl
theorem sl39 : slIs E 39 6 = true := by kernel_rfl
theorem el39 : elIs E 39 133 true 6 64 = true := by kernel_rfl
theorem bs39 {tm : PM AV} {S : St} {d : Option Tmp} (n : Nat) (ps : Array (Nat × Operand)) : opV E tm d (.buildSlice 39 n ps) S = buildSliceA E 39 n (ps.toList.map fun p => (p.1, E.ev tm p.2)) S := rfl
theorem app39 {tm : PM AV} {S : St} {d : Option Tmp} (x y : Operand) (t1 : TypeId) : opV E tm d (.call (Call.mk (.builtin .append) #[x, y] #[39, t1])) S = builtinA E false .append [39, t1] [E.ev tm x, E.ev tm y] S := rfl
theorem index39 {tm : PM AV} {S : St} {d : Option Tmp} (x y : Operand) : opV E tm d (.indexAddr 39 x y) S = idxV 6 (E.ev tm x) (int? (E.ev tm y)) S := index_chk 39 6 (by kernel_rfl) x y
theorem len39 {tm : PM AV} {S : St} {d : Option Tmp} (x : Operand) : opV E tm d (.call (Call.mk (.builtin .len) #[x] #[39])) S = lenV (E.ev tm x) S := op_len (t := 39) (e := 133) (by kernel_rfl) x
theorem load40 {tm : PM AV} {S : St} {d : Option Tmp} (x : Operand) : opV E tm d (.load 40 x) S = loadC true 2 (E.ev tm x) S := load_chk 40 true 2 (by kernel_rfl) x
theorem store40 {tm : PM AV} {S : St} {d : Option Tmp} (x y : Operand) : opV E tm d (.store 40 x y) S = storeC 2 (E.ev tm x) (E.ev tm y) S := store_chk (b := true) 40 2 (by kernel_rfl) x y
theorem load41 {tm : PM AV} {S : St} {d : Option Tmp} (x : Operand) : opV E tm d (.load 41 x) S = loadC true 2 (E.ev tm x) S := load_chk 41 true 2 (by kernel_rfl) x
theorem store41 {tm : PM AV} {S : St} {d : Option Tmp} (x y : Operand) : opV E tm d (.store 41 x y) S = storeC 2 (E.ev tm x) (E.ev tm y) S := store_chk (b := true) 41 2 (by kernel_rfl) x y
theorem load42 {tm : PM AV} {S : St} {d : Option Tmp} (x : Operand) : opV E tm d (.load 42 x) S = loadC true 16 (E.ev tm x) S := load_chk 42 true 16 (by kernel_rfl) x
theorem store42 {tm : PM AV} {S : St} {d : Option Tmp} (x y : Operand) : opV E tm d (.store 42 x y) S = storeC 16 (E.ev tm x) (E.ev tm y) S := store_chk (b := true) 42 16 (by kernel_rfl) x y
theorem load43 {tm : PM AV} {S : St} {d : Option Tmp} (x : Operand) : opV E tm d (.load 43 x) S = loadC true 16 (E.ev tm x) S := load_chk 43 true 16 (by kernel_rfl) x
theorem store43 {tm : PM AV} {S : St} {d : Option Tmp} (x y : Operand) : opV E tm d (.store 43 x y) S = storeC 16 (E.ev tm x) (E.ev tm y) S := store_chk (b := true) 43 16 (by kernel_rfl) x y
theorem load46 {tm : PM AV} {S : St} {d : Option Tmp} (x : Operand) : opV E tm d (.load 46 x) S = loadC false 1 (E.ev tm x) S := load_chk 46 false 1 (by kernel_rfl) x
theorem store46 {tm : PM AV} {S : St} {d : Option Tmp} (x y : Operand) : opV E tm d (.store 46 x y) S = storeC 1 (E.ev tm x) (E.ev tm y) S := store_chk (b := false) 46 1 (by kernel_rfl) x y
theorem load47 {tm : PM AV} {S : St} {d : Option Tmp} (x : Operand) : opV E tm d (.load 47 x) S = loadC false 1 (E.ev tm x) S := load_chk 47 false 1 (by kernel_rfl) x
theorem store47 {tm : PM AV} {S : St} {d : Option Tmp} (x y : Operand) : opV E tm d (.store 47 x y) S = storeC 1 (E.ev tm x) (E.ev tm y) S := store_chk (b := false) 47 1 (by kernel_rfl) x y
theorem load50 {tm : PM AV} {S : St} {d : Option Tmp} (x : Operand) : opV E tm d (.load 50 x) S = loadC false 1 (E.ev tm x) S := load_chk 50 false 1 (by kernel_rfl) x
theorem store50 {tm : PM AV} {S : St} {d : Option Tmp} (x y : Operand) : opV E tm d (.store 50 x y) S = storeC 1 (E.ev tm x) (E.ev tm y) S := store_chk (b := false) 50 1 (by kernel_rfl) x y
theorem load51 {tm : PM AV} {S : St} {d : Option Tmp} (x : Operand) : opV E tm d (.load 51 x) S = loadC false 1 (E.ev tm x) S := load_chk 51 false 1 (by kernel_rfl) x
theorem store51 {tm : PM AV} {S : St} {d : Option Tmp} (x y : Operand) : opV E tm d (.store 51 x y) S = storeC 1 (E.ev tm x) (E.ev tm y) S := store_chk (b := false) 51 1 (by kernel_rfl) x y
theorem load53 {tm : PM AV} {S : St} {d : Option Tmp} (x : Operand) : opV E tm d (.load 53 x) S = loadC false 1 (E.ev tm x) S := load_chk 53 false 1 (by kernel_rfl) x
theorem store53 {tm : PM AV} {S : St} {d : Option Tmp} (x y : Operand) : opV E tm d (.store 53 x y) S = storeC 1 (E.ev tm x) (E.ev tm y) S := store_chk (b := false) 53 1 (by kernel_rfl) x y
theorem load62 {tm : PM AV} {S : St} {d : Option Tmp} (x : Operand) : opV E tm d (.load 62 x) S = loadC false 1 (E.ev tm x) S := load_chk 62 false 1 (by kernel_rfl) x
theorem store62 {tm : PM AV} {S : St} {d : Option Tmp} (x y : Operand) : opV E tm d (.store 62 x y) S = storeC 1 (E.ev tm x) (E.ev tm y) S := store_chk (b := false) 62 1 (by kernel_rfl) x y
theorem und62 : E.und 62 = some (.slice 2) := by kernel_rfl
theorem sl62 : slIs E 62 1 = true := by kernel_rfl
theorem el62 : elIs E 62 2 false 1 8 = true := by kernel_rfl
theorem bs62 {tm : PM AV} {S : St} {d : Option Tmp} (n : Nat) (ps : Array (Nat × Operand)) : opV E tm d (.buildSlice 62 n ps) S = buildSliceA E 62 n (ps.toList.map fun p => (p.1, E.ev tm p.2)) S := rfl
theorem app62 {tm : PM AV} {S : St} {d : Option Tmp} (x y : Operand) (t1 : TypeId) : opV E tm d (.call (Call.mk (.builtin .append) #[x, y] #[62, t1])) S = builtinA E false .append [62, t1] [E.ev tm x, E.ev tm y] S := rfl
theorem index62 {tm : PM AV} {S : St} {d : Option Tmp} (x y : Operand) : opV E tm d (.indexAddr 62 x y) S = idxV 1 (E.ev tm x) (int? (E.ev tm y)) S := index_chk 62 1 (by kernel_rfl) x y
theorem len62 {tm : PM AV} {S : St} {d : Option Tmp} (x : Operand) : opV E tm d (.call (Call.mk (.builtin .len) #[x] #[62])) S = lenV (E.ev tm x) S := op_len (t := 62) (e := 2) (by kernel_rfl) x
theorem load64 {tm : PM AV} {S : St} {d : Option Tmp} (x : Operand) : opV E tm d (.load 64 x) S = loadC false 1 (E.ev tm x) S := load_chk 64 false 1 (by kernel_rfl) x
theorem store64 {tm : PM AV} {S : St} {d : Option Tmp} (x y : Operand) : opV E tm d (.store 64 x y) S = storeC 1 (E.ev tm x) (E.ev tm y) S := store_chk (b := false) 64 1 (by kernel_rfl) x y
theorem load67 {tm : PM AV} {S : St} {d : Option Tmp} (x : Operand) : opV E tm d (.load 67 x) S = loadC false 1 (E.ev tm x) S := load_chk 67 false 1 (by kernel_rfl) x
theorem store67 {tm : PM AV} {S : St} {d : Option Tmp} (x y : Operand) : opV E tm d (.store 67 x y) S = storeC 1 (E.ev tm x) (E.ev tm y) S := store_chk (b := false) 67 1 (by kernel_rfl) x y
theorem load70 {tm : PM AV} {S : St} {d : Option Tmp} (x : Operand) : opV E tm d (.load 70 x) S = loadC false 1 (E.ev tm x) S := load_chk 70 false 1 (by kernel_rfl) x
theorem store70 {tm : PM AV} {S : St} {d : Option Tmp} (x y : Operand) : opV E tm d (.store 70 x y) S = storeC 1 (E.ev tm x) (E.ev tm y) S := store_chk (b := false) 70 1 (by kernel_rfl) x y
theorem load75 {tm : PM AV} {S : St} {d : Option Tmp} (x : Operand) : opV E tm d (.load 75 x) S = loadC false 1 (E.ev tm x) S := load_chk 75 false 1 (by kernel_rfl) x
theorem store75 {tm : PM AV} {S : St} {d : Option Tmp} (x y : Operand) : opV E tm d (.store 75 x y) S = storeC 1 (E.ev tm x) (E.ev tm y) S := store_chk (b := false) 75 1 (by kernel_rfl) x y
theorem load77 {tm : PM AV} {S : St} {d : Option Tmp} (x : Operand) : opV E tm d (.load 77 x) S = loadC false 1 (E.ev tm x) S := load_chk 77 false 1 (by kernel_rfl) x
theorem store77 {tm : PM AV} {S : St} {d : Option Tmp} (x y : Operand) : opV E tm d (.store 77 x y) S = storeC 1 (E.ev tm x) (E.ev tm y) S := store_chk (b := false) 77 1 (by kernel_rfl) x y
theorem load78 {tm : PM AV} {S : St} {d : Option Tmp} (x : Operand) : opV E tm d (.load 78 x) S = loadC false 1 (E.ev tm x) S := load_chk 78 false 1 (by kernel_rfl) x
theorem store78 {tm : PM AV} {S : St} {d : Option Tmp} (x y : Operand) : opV E tm d (.store 78 x y) S = storeC 1 (E.ev tm x) (E.ev tm y) S := store_chk (b := false) 78 1 (by kernel_rfl) x y
theorem und78 : E.und 78 = some (.slice 308) := by kernel_rfl
theorem sl78 : slIs E 78 3 = true := by kernel_rfl
theorem el78 : elIs E 78 308 true 3 24 = true := by kernel_rfl
theorem bs78 {tm : PM AV} {S : St} {d : Option Tmp} (n : Nat) (ps : Array (Nat × Operand)) : opV E tm d (.buildSlice 78 n ps) S = buildSliceA E 78 n (ps.toList.map fun p => (p.1, E.ev tm p.2)) S := rfl
theorem app78 {tm : PM AV} {S : St} {d : Option Tmp} (x y : Operand) (t1 : TypeId) : opV E tm d (.call (Call.mk (.builtin .append) #[x, y] #[78, t1])) S = builtinA E false .append [78, t1] [E.ev tm x, E.ev tm y] S := rfl
theorem index78 {tm : PM AV} {S : St} {d : Option Tmp} (x y : Operand) : opV E tm d (.indexAddr 78 x y) S = idxV 3 (E.ev tm x) (int? (E.ev tm y)) S := index_chk 78 3 (by kernel_rfl) x y
theorem len78 {tm : PM AV} {S : St} {d : Option Tmp} (x : Operand) : opV E tm d (.call (Call.mk (.builtin .len) #[x] #[78])) S = lenV (E.ev tm x) S := op_len (t := 78) (e := 308) (by kernel_rfl) x
theorem load79 {tm : PM AV} {S : St} {d : Option Tmp} (x : Operand) : opV E tm d (.load 79 x) S = loadC true 30 (E.ev tm x) S := load_chk 79 true 30 (by kernel_rfl) x
theorem store79 {tm : PM AV} {S : St} {d : Option Tmp} (x y : Operand) : opV E tm d (.store 79 x y) S = storeC 30 (E.ev tm x) (E.ev tm y) S := store_chk (b := true) 79 30 (by kernel_rfl) x y
theorem load80 {tm : PM AV} {S : St} {d : Option Tmp} (x : Operand) : opV E tm d (.load 80 x) S = loadC true 30 (E.ev tm x) S := load_chk 80 true 30 (by kernel_rfl) x
theorem store80 {tm : PM AV} {S : St} {d : Option Tmp} (x y : Operand) : opV E tm d (.store 80 x y) S = storeC 30 (E.ev tm x) (E.ev tm y) S := store_chk (b := true) 80 30 (by kernel_rfl) x y
theorem load81 {tm : PM AV} {S : St} {d : Option Tmp} (x : Operand) : opV E tm d (.load 81 x) S = loadC true 2 (E.ev tm x) S := load_chk 81 true 2 (by kernel_rfl) x
theorem store81 {tm : PM AV} {S : St} {d : Option Tmp} (x y : Operand) : opV E tm d (.store 81 x y) S = storeC 2 (E.ev tm x) (E.ev tm y) S := store_chk (b := true) 81 2 (by kernel_rfl) x y
theorem load82 {tm : PM AV} {S : St} {d : Option Tmp} (x : Operand) : opV E tm d (.load 82 x) S = loadC true 2 (E.ev tm x) S := load_chk 82 true 2 (by kernel_rfl) x
theorem store82 {tm : PM AV} {S : St} {d : Option Tmp} (x y : Operand) : opV E tm d (.store 82 x y) S = storeC 2 (E.ev tm x) (E.ev tm y) S := store_chk (b := true) 82 2 (by kernel_rfl) x y
theorem load84 {tm : PM AV} {S : St} {d : Option Tmp} (x : Operand) : opV E tm d (.load 84 x) S = loadC true 3 (E.ev tm x) S := load_chk 84 true 3 (by kernel_rfl) x
theorem store84 {tm : PM AV} {S : St} {d : Option Tmp} (x y : Operand) : opV E tm d (.store 84 x y) S = storeC 3 (E.ev tm x) (E.ev tm y) S := store_chk (b := true) 84 3 (by kernel_rfl) x y
theorem load85 {tm : PM AV} {S : St} {d : Option Tmp} (x : Operand) : opV E tm d (.load 85 x) S = loadC true 3 (E.ev tm x) S := load_chk 85 true 3 (by kernel_rfl) x
theorem store85 {tm : PM AV} {S : St} {d : Option Tmp} (x y : Operand) : opV E tm d (.store 85 x y) S = storeC 3 (E.ev tm x) (E.ev tm y) S := store_chk (b := true) 85 3 (by kernel_rfl) x y
theorem load96 {tm : PM AV} {S : St} {d : Option Tmp} (x : Operand) : opV E tm d (.load 96 x) S = loadC false 1 (E.ev tm x) S := load_chk 96 false 1 (by kernel_rfl) x
theorem store96 {tm : PM AV} {S : St} {d : Option Tmp} (x y : Operand) : opV E tm d (.store 96 x y) S = storeC 1 (E.ev tm x) (E.ev tm y) S := store_chk (b := false) 96 1 (by kernel_rfl) x y
theorem und96 : E.und 96 = some (.slice 3) := by kernel_rfl
theorem sl96 : slIs E 96 1 = true := by kernel_rfl
theorem el96 : elIs E 96 3 false 1 8 = true := by kernel_rfl
theorem bs96 {tm : PM AV} {S : St} {d : Option Tmp} (n : Nat) (ps : Array (Nat × Operand)) : opV E tm d (.buildSlice 96 n ps) S = buildSliceA E 96 n (ps.toList.map fun p => (p.1, E.ev tm p.2)) S := rfl
theorem app96 {tm : PM AV} {S : St} {d : Option Tmp} (x y : Operand) (t1 : TypeId) : opV E tm d (.call (Call.mk (.builtin .append) #[x, y] #[96, t1])) S = builtinA E false .append [96, t1] [E.ev tm x, E.ev tm y] S := rfl
theorem index96 {tm : PM AV} {S : St} {d : Option Tmp} (x y : Operand) : opV E tm d (.indexAddr 96 x y) S = idxV 1 (E.ev tm x) (int? (E.ev tm y)) S := index_chk 96 1 (by kernel_rfl) x y
theorem len96 {tm : PM AV} {S : St} {d : Option Tmp} (x : Operand) : opV E tm d (.call (Call.mk (.builtin .len) #[x] #[96])) S = lenV (E.ev tm x) S := op_len (t := 96) (e := 3) (by kernel_rfl) x
theorem load97 {tm : PM AV} {S : St} {d : Option Tmp} (x : Operand) : opV E tm d (.load 97 x) S = loadC true 7 (E.ev tm x) S := load_chk 97 true 7 (by kernel_rfl) x
theorem store97 {tm : PM AV} {S : St} {d : Option Tmp} (x y : Operand) : opV E tm d (.store 97 x y) S = storeC 7 (E.ev tm x) (E.ev tm y) S := store_chk (b := true) 97 7 (by kernel_rfl) x y
theorem load98 {tm : PM AV} {S : St} {d : Option Tmp} (x : Operand) : opV E tm d (.load 98 x) S = loadC true 7 (E.ev tm x) S := load_chk 98 true 7 (by kernel_rfl) x
theorem store98 {tm : PM AV} {S : St} {d : Option Tmp} (x y : Operand) : opV E tm d (.store 98 x y) S = storeC 7 (E.ev tm x) (E.ev tm y) S := store_chk (b := true) 98 7 (by kernel_rfl) x y
theorem load102 {tm : PM AV} {S : St} {d : Option Tmp} (x : Operand) : opV E tm d (.load 102 x) S = loadC false 1 (E.ev tm x) S := load_chk 102 false 1 (by kernel_rfl) x
theorem store102 {tm : PM AV} {S : St} {d : Option Tmp} (x y : Operand) : opV E tm d (.store 102 x y) S = storeC 1 (E.ev tm x) (E.ev tm y) S := store_chk (b := false) 102 1 (by kernel_rfl) x y
theorem und102 : E.und 102 = some (.slice 51) := by kernel_rfl
theorem sl102 : slIs E 102 1 = true := by kernel_rfl
theorem el102 : elIs E 102 51 false 1 8 = true := by kernel_rfl
theorem bs102 {tm : PM AV} {S : St} {d : Option Tmp} (n : Nat) (ps : Array (Nat × Operand)) : opV E tm d (.buildSlice 102 n ps) S = buildSliceA E 102 n (ps.toList.map fun p => (p.1, E.ev tm p.2)) S := rfl
theorem app102 {tm : PM AV} {S : St} {d : Option Tmp} (x y : Operand) (t1 : TypeId) : opV E tm d (.call (Call.mk (.builtin .append) #[x, y] #[102, t1])) S = builtinA E false .append [102, t1] [E.ev tm x, E.ev tm y] S := rfl
theorem index102 {tm : PM AV} {S : St} {d : Option Tmp} (x y : Operand) : opV E tm d (.indexAddr 102 x y) S = idxV 1 (E.ev tm x) (int? (E.ev tm y)) S := index_chk 102 1 (by kernel_rfl) x y
theorem len102 {tm : PM AV} {S : St} {d : Option Tmp} (x : Operand) : opV E tm d (.call (Call.mk (.builtin .len) #[x] #[102])) S = lenV (E.ev tm x) S := op_len (t := 102) (e := 51) (by kernel_rfl) x
theorem load103 {tm : PM AV} {S : St} {d : Option Tmp} (x : Operand) : opV E tm d (.load 103 x) S = loadC false 1 (E.ev tm x) S := load_chk 103 false 1 (by kernel_rfl) x
theorem store103 {tm : PM AV} {S : St} {d : Option Tmp} (x y : Operand) : opV E tm d (.store 103 x y) S = storeC 1 (E.ev tm x) (E.ev tm y) S := store_chk (b := false) 103 1 (by kernel_rfl) x y
theorem und103 : E.und 103 = some (.slice 4) := by kernel_rfl
theorem sl103 : slIs E 103 1 = true := by kernel_rfl
theorem el103 : elIs E 103 4 false 1 1 = true := by kernel_rfl
theorem bs103 {tm : PM AV} {S : St} {d : Option Tmp} (n : Nat) (ps : Array (Nat × Operand)) : opV E tm d (.buildSlice 103 n ps) S = buildSliceA E 103 n (ps.toList.map fun p => (p.1, E.ev tm p.2)) S := rfl
theorem app103 {tm : PM AV} {S : St} {d : Option Tmp} (x y : Operand) (t1 : TypeId) : opV E tm d (.call (Call.mk (.builtin .append) #[x, y] #[103, t1])) S = builtinA E false .append [103, t1] [E.ev tm x, E.ev tm y] S := rfl
theorem index103 {tm : PM AV} {S : St} {d : Option Tmp} (x y : Operand) : opV E tm d (.indexAddr 103 x y) S = idxV 1 (E.ev tm x) (int? (E.ev tm y)) S := index_chk 103 1 (by kernel_rfl) x y
theorem len103 {tm : PM AV} {S : St} {d : Option Tmp} (x : Operand) : opV E tm d (.call (Call.mk (.builtin .len) #[x] #[103])) S = lenV (E.ev tm x) S := op_len (t := 103) (e := 4) (by kernel_rfl) x
theorem load104 {tm : PM AV} {S : St} {d : Option Tmp} (x : Operand) : opV E tm d (.load 104 x) S = loadC true 4 (E.ev tm x) S := load_chk 104 true 4 (by kernel_rfl) x
theorem store104 {tm : PM AV} {S : St} {d : Option Tmp} (x y : Operand) : opV E tm d (.store 104 x y) S = storeC 4 (E.ev tm x) (E.ev tm y) S := store_chk (b := true) 104 4 (by kernel_rfl) x y
theorem load105 {tm : PM AV} {S : St} {d : Option Tmp} (x : Operand) : opV E tm d (.load 105 x) S = loadC true 4 (E.ev tm x) S := load_chk 105 true 4 (by kernel_rfl) x
theorem store105 {tm : PM AV} {S : St} {d : Option Tmp} (x y : Operand) : opV E tm d (.store 105 x y) S = storeC 4 (E.ev tm x) (E.ev tm y) S := store_chk (b := true) 105 4 (by kernel_rfl) x y
theorem load106 {tm : PM AV} {S : St} {d : Option Tmp} (x : Operand) : opV E tm d (.load 106 x) S = loadC false 1 (E.ev tm x) S := load_chk 106 false 1 (by kernel_rfl) x
theorem store106 {tm : PM AV} {S : St} {d : Option Tmp} (x y : Operand) : opV E tm d (.store 106 x y) S = storeC 1 (E.ev tm x) (E.ev tm y) S := store_chk (b := false) 106 1 (by kernel_rfl) x y
theorem und106 : E.und 106 = some (.slice 323) := by kernel_rfl
theorem sl106 : slIs E 106 1 = true := by kernel_rfl
theorem el106 : elIs E 106 323 false 1 8 = true := by kernel_rfl
theorem bs106 {tm : PM AV} {S : St} {d : Option Tmp} (n : Nat) (ps : Array (Nat × Operand)) : opV E tm d (.buildSlice 106 n ps) S = buildSliceA E 106 n (ps.toList.map fun p => (p.1, E.ev tm p.2)) S := rfl
theorem app106 {tm : PM AV} {S : St} {d : Option Tmp} (x y : Operand) (t1 : TypeId) : opV E tm d (.call (Call.mk (.builtin .append) #[x, y] #[106, t1])) S = builtinA E false .append [106, t1] [E.ev tm x, E.ev tm y] S := rfl
theorem index106 {tm : PM AV} {S : St} {d : Option Tmp} (x y : Operand) : opV E tm d (.indexAddr 106 x y) S = idxV 1 (E.ev tm x) (int? (E.ev tm y)) S := index_chk 106 1 (by kernel_rfl) x y
theorem len106 {tm : PM AV} {S : St} {d : Option Tmp} (x : Operand) : opV E tm d (.call (Call.mk (.builtin .len) #[x] #[106])) S = lenV (E.ev tm x) S := op_len (t := 106) (e := 323) (by kernel_rfl) x
theorem load107 {tm : PM AV} {S : St} {d : Option Tmp} (x : Operand) : opV E tm d (.load 107 x) S = loadC true 3 (E.ev tm x) S := load_chk 107 true 3 (by kernel_rfl) x
theorem store107 {tm : PM AV} {S : St} {d : Option Tmp} (x y : Operand) : opV E tm d (.store 107 x y) S = storeC 3 (E.ev tm x) (E.ev tm y) S := store_chk (b := true) 107 3 (by kernel_rfl) x y
theorem load108 {tm : PM AV} {S : St} {d : Option Tmp} (x : Operand) : opV E tm d (.load 108 x) S = loadC true 3 (E.ev tm x) S := load_chk 108 true 3 (by kernel_rfl) x
theorem store108 {tm : PM AV} {S : St} {d : Option Tmp} (x y : Operand) : opV E tm d (.store 108 x y) S = storeC 3 (E.ev tm x) (E.ev tm y) S := store_chk (b := true) 108 3 (by kernel_rfl) x y
theorem load109 {tm : PM AV} {S : St} {d : Option Tmp} (x : Operand) : opV E tm d (.load 109 x) S = loadC true 3 (E.ev tm x) S := load_chk 109 true 3 (by kernel_rfl) x
theorem store109 {tm : PM AV} {S : St} {d : Option Tmp} (x y : Operand) : opV E tm d (.store 109 x y) S = storeC 3 (E.ev tm x) (E.ev tm y) S := store_chk (b := true) 109 3 (by kernel_rfl) x y
theorem load110 {tm : PM AV} {S : St} {d : Option Tmp} (x : Operand) : opV E tm d (.load 110 x) S = loadC true 3 (E.ev tm x) S := load_chk 110 true 3 (by kernel_rfl) x
theorem store110 {tm : PM AV} {S : St} {d : Option Tmp} (x y : Operand) : opV E tm d (.store 110 x y) S = storeC 3 (E.ev tm x) (E.ev tm y) S := store_chk (b := true) 110 3 (by kernel_rfl) x y
theorem load112 {tm : PM AV} {S : St} {d : Option Tmp} (x : Operand) : opV E tm d (.load 112 x) S = loadC true 3 (E.ev tm x) S := load_chk 112 true 3 (by kernel_rfl) x
theorem store112 {tm : PM AV} {S : St} {d : Option Tmp} (x y : Operand) : opV E tm d (.store 112 x y) S = storeC 3 (E.ev tm x) (E.ev tm y) S := store_chk (b := true) 112 3 (by kernel_rfl) x y
theorem load113 {tm : PM AV} {S : St} {d : Option Tmp} (x : Operand) : opV E tm d (.load 113 x) S = loadC true 3 (E.ev tm x) S := load_chk 113 true 3 (by kernel_rfl) x
theorem store113 {tm : PM AV} {S : St} {d : Option Tmp} (x y : Operand) : opV E tm d (.store 113 x y) S = storeC 3 (E.ev tm x) (E.ev tm y) S := store_chk (b := true) 113 3 (by kernel_rfl) x y
theorem load125 {tm : PM AV} {S : St} {d : Option Tmp} (x : Operand) : opV E tm d (.load 125 x) S = loadC true 4 (E.ev tm x) S := load_chk 125 true 4 (by kernel_rfl) x
theorem store125 {tm : PM AV} {S : St} {d : Option Tmp} (x y : Operand) : opV E tm d (.store 125 x y) S = storeC 4 (E.ev tm x) (E.ev tm y) S := store_chk (b := true) 125 4 (by kernel_rfl) x y
theorem load126 {tm : PM AV} {S : St} {d : Option Tmp} (x : Operand) : opV E tm d (.load 126 x) S = loadC true 4 (E.ev tm x) S := load_chk 126 true 4 (by kernel_rfl) x
theorem store126 {tm : PM AV} {S : St} {d : Option Tmp} (x y : Operand) : opV E tm d (.store 126 x y) S = storeC 4 (E.ev tm x) (E.ev tm y) S := store_chk (b := true) 126 4 (by kernel_rfl) x y
theorem load132 {tm : PM AV} {S : St} {d : Option Tmp} (x : Operand) : opV E tm d (.load 132 x) S = loadC true 6 (E.ev tm x) S := load_chk 132 true 6 (by kernel_rfl) x
theorem store132 {tm : PM AV} {S : St} {d : Option Tmp} (x y : Operand) : opV E tm d (.store 132 x y) S = storeC 6 (E.ev tm x) (E.ev tm y) S := store_chk (b := true) 132 6 (by kernel_rfl) x y
theorem load133 {tm : PM AV} {S : St} {d : Option Tmp} (x : Operand) : opV E tm d (.load 133 x) S = loadC true 6 (E.ev tm x) S := load_chk 133 true 6 (by kernel_rfl) x
theorem store133 {tm : PM AV} {S : St} {d : Option Tmp} (x y : Operand) : opV E tm d (.store 133 x y) S = storeC 6 (E.ev tm x) (E.ev tm y) S := store_chk (b := true) 133 6 (by kernel_rfl) x y
theorem load137 {tm : PM AV} {S : St} {d : Option Tmp} (x : Operand) : opV E tm d (.load 137 x) S = loadC true 2 (E.ev tm x) S := load_chk 137 true 2 (by kernel_rfl) x
theorem store137 {tm : PM AV} {S : St} {d : Option Tmp} (x y : Operand) : opV E tm d (.store 137 x y) S = storeC 2 (E.ev tm x) (E.ev tm y) S := store_chk (b := true) 137 2 (by kernel_rfl) x y
theorem load138 {tm : PM AV} {S : St} {d : Option Tmp} (x : Operand) : opV E tm d (.load 138 x) S = loadC true 2 (E.ev tm x) S := load_chk 138 true 2 (by kernel_rfl) x
theorem store138 {tm : PM AV} {S : St} {d : Option Tmp} (x y : Operand) : opV E tm d (.store 138 x y) S = storeC 2 (E.ev tm x) (E.ev tm y) S := store_chk (b := true) 138 2 (by kernel_rfl) x y
theorem load140 {tm : PM AV} {S : St} {d : Option Tmp} (x : Operand) : opV E tm d (.load 140 x) S = loadC false 1 (E.ev tm x) S := load_chk 140 false 1 (by kernel_rfl) x
theorem store140 {tm : PM AV} {S : St} {d : Option Tmp} (x y : Operand) : opV E tm d (.store 140 x y) S = storeC 1 (E.ev tm x) (E.ev tm y) S := store_chk (b := false) 140 1 (by kernel_rfl) x y
theorem und140 : E.und 140 = some (.slice 230) := by kernel_rfl
theorem sl140 : slIs E 140 4 = true := by kernel_rfl
theorem el140 : elIs E 140 230 true 4 40 = true := by kernel_rfl
theorem bs140 {tm : PM AV} {S : St} {d : Option Tmp} (n : Nat) (ps : Array (Nat × Operand)) : opV E tm d (.buildSlice 140 n ps) S = buildSliceA E 140 n (ps.toList.map fun p => (p.1, E.ev tm p.2)) S := rfl
theorem app140 {tm : PM AV} {S : St} {d : Option Tmp} (x y : Operand) (t1 : TypeId) : opV E tm d (.call (Call.mk (.builtin .append) #[x, y] #[140, t1])) S = builtinA E false .append [140, t1] [E.ev tm x, E.ev tm y] S := rfl
theorem index140 {tm : PM AV} {S : St} {d : Option Tmp} (x y : Operand) : opV E tm d (.indexAddr 140 x y) S = idxV 4 (E.ev tm x) (int? (E.ev tm y)) S := index_chk 140 4 (by kernel_rfl) x y
theorem len140 {tm : PM AV} {S : St} {d : Option Tmp} (x : Operand) : opV E tm d (.call (Call.mk (.builtin .len) #[x] #[140])) S = lenV (E.ev tm x) S := op_len (t := 140) (e := 230) (by kernel_rfl) x
theorem load143 {tm : PM AV} {S : St} {d : Option Tmp} (x : Operand) : opV E tm d (.load 143 x) S = loadC false 1 (E.ev tm x) S := load_chk 143 false 1 (by kernel_rfl) x
theorem store143 {tm : PM AV} {S : St} {d : Option Tmp} (x y : Operand) : opV E tm d (.store 143 x y) S = storeC 1 (E.ev tm x) (E.ev tm y) S := store_chk (b := false) 143 1 (by kernel_rfl) x y
theorem load144 {tm : PM AV} {S : St} {d : Option Tmp} (x : Operand) : opV E tm d (.load 144 x) S = loadC true 5 (E.ev tm x) S := load_chk 144 true 5 (by kernel_rfl) x
theorem store144 {tm : PM AV} {S : St} {d : Option Tmp} (x y : Operand) : opV E tm d (.store 144 x y) S = storeC 5 (E.ev tm x) (E.ev tm y) S := store_chk (b := true) 144 5 (by kernel_rfl) x y
theorem load145 {tm : PM AV} {S : St} {d : Option Tmp} (x : Operand) : opV E tm d (.load 145 x) S = loadC true 5 (E.ev tm x) S := load_chk 145 true 5 (by kernel_rfl) x
theorem store145 {tm : PM AV} {S : St} {d : Option Tmp} (x y : Operand) : opV E tm d (.store 145 x y) S = storeC 5 (E.ev tm x) (E.ev tm y) S := store_chk (b := true) 145 5 (by kernel_rfl) x y
theorem load147 {tm : PM AV} {S : St} {d : Option Tmp} (x : Operand) : opV E tm d (.load 147 x) S = loadC false 1 (E.ev tm x) S := load_chk 147 false 1 (by kernel_rfl) x
theorem store147 {tm : PM AV} {S : St} {d : Option Tmp} (x y : Operand) : opV E tm d (.store 147 x y) S = storeC 1 (E.ev tm x) (E.ev tm y) S := store_chk (b := false) 147 1 (by kernel_rfl) x y
theorem und147 : E.und 147 = some (.slice 195) := by kernel_rfl
theorem sl147 : slIs E 147 2 = true := by kernel_rfl
theorem el147 : elIs E 147 195 true 2 40 = true := by kernel_rfl
theorem bs147 {tm : PM AV} {S : St} {d : Option Tmp} (n : Nat) (ps : Array (Nat × Operand)) : opV E tm d (.buildSlice 147 n ps) S = buildSliceA E 147 n (ps.toList.map fun p => (p.1, E.ev tm p.2)) S := rfl
theorem app147 {tm : PM AV} {S : St} {d : Option Tmp} (x y : Operand) (t1 : TypeId) : opV E tm d (.call (Call.mk (.builtin .append) #[x, y] #[147, t1])) S = builtinA E false .append [147, t1] [E.ev tm x, E.ev tm y] S := rfl
theorem index147 {tm : PM AV} {S : St} {d : Option Tmp} (x y : Operand) : opV E tm d (.indexAddr 147 x y) S = idxV 2 (E.ev tm x) (int? (E.ev tm y)) S := index_chk 147 2 (by kernel_rfl) x y
theorem len147 {tm : PM AV} {S : St} {d : Option Tmp} (x : Operand) : opV E tm d (.call (Call.mk (.builtin .len) #[x] #[147])) S = lenV (E.ev tm x) S := op_len (t := 147) (e := 195) (by kernel_rfl) x
theorem load148 {tm : PM AV} {S : St} {d : Option Tmp} (x : Operand) : opV E tm d (.load 148 x) S = loadC true 2 (E.ev tm x) S := load_chk 148 true 2 (by kernel_rfl) x
theorem store148 {tm : PM AV} {S : St} {d : Option Tmp} (x y : Operand) : opV E tm d (.store 148 x y) S = storeC 2 (E.ev tm x) (E.ev tm y) S := store_chk (b := true) 148 2 (by kernel_rfl) x y
theorem load149 {tm : PM AV} {S : St} {d : Option Tmp} (x : Operand) : opV E tm d (.load 149 x) S = loadC true 2 (E.ev tm x) S := load_chk 149 true 2 (by kernel_rfl) x
theorem store149 {tm : PM AV} {S : St} {d : Option Tmp} (x y : Operand) : opV E tm d (.store 149 x y) S = storeC 2 (E.ev tm x) (E.ev tm y) S := store_chk (b := true) 149 2 (by kernel_rfl) x y
theorem load151 {tm : PM AV} {S : St} {d : Option Tmp} (x : Operand) : opV E tm d (.load 151 x) S = loadC false 1 (E.ev tm x) S := load_chk 151 false 1 (by kernel_rfl) x
theorem store151 {tm : PM AV} {S : St} {d : Option Tmp} (x y : Operand) : opV E tm d (.store 151 x y) S = storeC 1 (E.ev tm x) (E.ev tm y) S := store_chk (b := false) 151 1 (by kernel_rfl) x y
theorem load154 {tm : PM AV} {S : St} {d : Option Tmp} (x : Operand) : opV E tm d (.load 154 x) S = loadC false 1 (E.ev tm x) S := load_chk 154 false 1 (by kernel_rfl) x
theorem store154 {tm : PM AV} {S : St} {d : Option Tmp} (x y : Operand) : opV E tm d (.store 154 x y) S = storeC 1 (E.ev tm x) (E.ev tm y) S := store_chk (b := false) 154 1 (by kernel_rfl) x y
theorem load155 {tm : PM AV} {S : St} {d : Option Tmp} (x : Operand) : opV E tm d (.load 155 x) S = loadC false 1 (E.ev tm x) S := load_chk 155 false 1 (by kernel_rfl) x
theorem store155 {tm : PM AV} {S : St} {d : Option Tmp} (x y : Operand) : opV E tm d (.store 155 x y) S = storeC 1 (E.ev tm x) (E.ev tm y) S := store_chk (b := false) 155 1 (by kernel_rfl) x y
theorem load156 {tm : PM AV} {S : St} {d : Option Tmp} (x : Operand) : opV E tm d (.load 156 x) S = loadC false 1 (E.ev tm x) S := load_chk 156 false 1 (by kernel_rfl) x
theorem store156 {tm : PM AV} {S : St} {d : Option Tmp} (x y : Operand) : opV E tm d (.store 156 x y) S = storeC 1 (E.ev tm x) (E.ev tm y) S := store_chk (b := false) 156 1 (by kernel_rfl) x y
theorem und156 : E.und 156 = some (.slice 151) := by kernel_rfl
theorem sl156 : slIs E 156 1 = true := by kernel_rfl
theorem el156 : elIs E 156 151 false 1 8 = true := by kernel_rfl
theorem bs156 {tm : PM AV} {S : St} {d : Option Tmp} (n : Nat) (ps : Array (Nat × Operand)) : opV E tm d (.buildSlice 156 n ps) S = buildSliceA E 156 n (ps.toList.map fun p => (p.1, E.ev tm p.2)) S := rfl
theorem app156 {tm : PM AV} {S : St} {d : Option Tmp} (x y : Operand) (t1 : TypeId) : opV E tm d (.call (Call.mk (.builtin .append) #[x, y] #[156, t1])) S = builtinA E false .append [156, t1] [E.ev tm x, E.ev tm y] S := rfl
theorem index156 {tm : PM AV} {S : St} {d : Option Tmp} (x y : Operand) : opV E tm d (.indexAddr 156 x y) S = idxV 1 (E.ev tm x) (int? (E.ev tm y)) S := index_chk 156 1 (by kernel_rfl) x y
theorem len156 {tm : PM AV} {S : St} {d : Option Tmp} (x : Operand) : opV E tm d (.call (Call.mk (.builtin .len) #[x] #[156])) S = lenV (E.ev tm x) S := op_len (t := 156) (e := 151) (by kernel_rfl) x
theorem load157 {tm : PM AV} {S : St} {d : Option Tmp} (x : Operand) : opV E tm d (.load 157 x) S = loadC true 8 (E.ev tm x) S := load_chk 157 true 8 (by kernel_rfl) x
theorem store157 {tm : PM AV} {S : St} {d : Option Tmp} (x y : Operand) : opV E tm d (.store 157 x y) S = storeC 8 (E.ev tm x) (E.ev tm y) S := store_chk (b := true) 157 8 (by kernel_rfl) x y
theorem load158 {tm : PM AV} {S : St} {d : Option Tmp} (x : Operand) : opV E tm d (.load 158 x) S = loadC true 8 (E.ev tm x) S := load_chk 158 true 8 (by kernel_rfl) x
theorem store158 {tm : PM AV} {S : St} {d : Option Tmp} (x y : Operand) : opV E tm d (.store 158 x y) S = storeC 8 (E.ev tm x) (E.ev tm y) S := store_chk (b := true) 158 8 (by kernel_rfl) x y
theorem load160 {tm : PM AV} {S : St} {d : Option Tmp} (x : Operand) : opV E tm d (.load 160 x) S = loadC false 1 (E.ev tm x) S := load_chk 160 false 1 (by kernel_rfl) x
theorem store160 {tm : PM AV} {S : St} {d : Option Tmp} (x y : Operand) : opV E tm d (.store 160 x y) S = storeC 1 (E.ev tm x) (E.ev tm y) S := store_chk (b := false) 160 1 (by kernel_rfl) x y
theorem load161 {tm : PM AV} {S : St} {d : Option Tmp} (x : Operand) : opV E tm d (.load 161 x) S = loadC false 1 (E.ev tm x) S := load_chk 161 false 1 (by kernel_rfl) x
theorem store161 {tm : PM AV} {S : St} {d : Option Tmp} (x y : Operand) : opV E tm d (.store 161 x y) S = storeC 1 (E.ev tm x) (E.ev tm y) S := store_chk (b := false) 161 1 (by kernel_rfl) x y
theorem load163 {tm : PM AV} {S : St} {d : Option Tmp} (x : Operand) : opV E tm d (.load 163 x) S = loadC true 12 (E.ev tm x) S := load_chk 163 true 12 (by kernel_rfl) x
theorem store163 {tm : PM AV} {S : St} {d : Option Tmp} (x y : Operand) : opV E tm d (.store 163 x y) S = storeC 12 (E.ev tm x) (E.ev tm y) S := store_chk (b := true) 163 12 (by kernel_rfl) x y
theorem load164 {tm : PM AV} {S : St} {d : Option Tmp} (x : Operand) : opV E tm d (.load 164 x) S = loadC true 12 (E.ev tm x) S := load_chk 164 true 12 (by kernel_rfl) x
theorem store164 {tm : PM AV} {S : St} {d : Option Tmp} (x y : Operand) : opV E tm d (.store 164 x y) S = storeC 12 (E.ev tm x) (E.ev tm y) S := store_chk (b := true) 164 12 (by kernel_rfl) x y
theorem load166 {tm : PM AV} {S : St} {d : Option Tmp} (x : Operand) : opV E tm d (.load 166 x) S = loadC false 1 (E.ev tm x) S := load_chk 166 false 1 (by kernel_rfl) x
theorem store166 {tm : PM AV} {S : St} {d : Option Tmp} (x y : Operand) : opV E tm d (.store 166 x y) S = storeC 1 (E.ev tm x) (E.ev tm y) S := store_chk (b := false) 166 1 (by kernel_rfl) x y
theorem und166 : E.und 166 = some (.slice 27) := by kernel_rfl
theorem sl166 : slIs E 166 1 = true := by kernel_rfl
theorem el166 : elIs E 166 27 false 1 24 = true := by kernel_rfl
theorem bs166 {tm : PM AV} {S : St} {d : Option Tmp} (n : Nat) (ps : Array (Nat × Operand)) : opV E tm d (.buildSlice 166 n ps) S = buildSliceA E 166 n (ps.toList.map fun p => (p.1, E.ev tm p.2)) S := rfl
theorem app166 {tm : PM AV} {S : St} {d : Option Tmp} (x y : Operand) (t1 : TypeId) : opV E tm d (.call (Call.mk (.builtin .append) #[x, y] #[166, t1])) S = builtinA E false .append [166, t1] [E.ev tm x, E.ev tm y] S := rfl
theorem index166 {tm : PM AV} {S : St} {d : Option Tmp} (x y : Operand) : opV E tm d (.indexAddr 166 x y) S = idxV 1 (E.ev tm x) (int? (E.ev tm y)) S := index_chk 166 1 (by kernel_rfl) x y
theorem len166 {tm : PM AV} {S : St} {d : Option Tmp} (x : Operand) : opV E tm d (.call (Call.mk (.builtin .len) #[x] #[166])) S = lenV (E.ev tm x) S := op_len (t := 166) (e := 27) (by kernel_rfl) x
theorem load169 {tm : PM AV} {S : St} {d : Option Tmp} (x : Operand) : opV E tm d (.load 169 x) S = loadC false 1 (E.ev tm x) S := load_chk 169 false 1 (by kernel_rfl) x
theorem store169 {tm : PM AV} {S : St} {d : Option Tmp} (x y : Operand) : opV E tm d (.store 169 x y) S = storeC 1 (E.ev tm x) (E.ev tm y) S := store_chk (b := false) 169 1 (by kernel_rfl) x y
theorem load170 {tm : PM AV} {S : St} {d : Option Tmp} (x : Operand) : opV E tm d (.load 170 x) S = loadC false 1 (E.ev tm x) S := load_chk 170 false 1 (by kernel_rfl) x
theorem store170 {tm : PM AV} {S : St} {d : Option Tmp} (x y : Operand) : opV E tm d (.store 170 x y) S = storeC 1 (E.ev tm x) (E.ev tm y) S := store_chk (b := false) 170 1 (by kernel_rfl) x y
theorem und170 : E.und 170 = some (.slice 257) := by kernel_rfl
theorem sl170 : slIs E 170 5 = true := by kernel_rfl
theorem el170 : elIs E 170 257 true 5 72 = true := by kernel_rfl
theorem bs170 {tm : PM AV} {S : St} {d : Option Tmp} (n : Nat) (ps : Array (Nat × Operand)) : opV E tm d (.buildSlice 170 n ps) S = buildSliceA E 170 n (ps.toList.map fun p => (p.1, E.ev tm p.2)) S := rfl
theorem app170 {tm : PM AV} {S : St} {d : Option Tmp} (x y : Operand) (t1 : TypeId) : opV E tm d (.call (Call.mk (.builtin .append) #[x, y] #[170, t1])) S = builtinA E false .append [170, t1] [E.ev tm x, E.ev tm y] S := rfl
theorem index170 {tm : PM AV} {S : St} {d : Option Tmp} (x y : Operand) : opV E tm d (.indexAddr 170 x y) S = idxV 5 (E.ev tm x) (int? (E.ev tm y)) S := index_chk 170 5 (by kernel_rfl) x y
theorem len170 {tm : PM AV} {S : St} {d : Option Tmp} (x : Operand) : opV E tm d (.call (Call.mk (.builtin .len) #[x] #[170])) S = lenV (E.ev tm x) S := op_len (t := 170) (e := 257) (by kernel_rfl) x
theorem load172 {tm : PM AV} {S : St} {d : Option Tmp} (x : Operand) : opV E tm d (.load 172 x) S = loadC false 1 (E.ev tm x) S := load_chk 172 false 1 (by kernel_rfl) x
theorem store172 {tm : PM AV} {S : St} {d : Option Tmp} (x y : Operand) : opV E tm d (.store 172 x y) S = storeC 1 (E.ev tm x) (E.ev tm y) S := store_chk (b := false) 172 1 (by kernel_rfl) x y
theorem load174 {tm : PM AV} {S : St} {d : Option Tmp} (x : Operand) : opV E tm d (.load 174 x) S = loadC false 1 (E.ev tm x) S := load_chk 174 false 1 (by kernel_rfl) x
theorem store174 {tm : PM AV} {S : St} {d : Option Tmp} (x y : Operand) : opV E tm d (.store 174 x y) S = storeC 1 (E.ev tm x) (E.ev tm y) S := store_chk (b := false) 174 1 (by kernel_rfl) x y
theorem und174 : E.und 174 = some (.slice 264) := by kernel_rfl
theorem sl174 : slIs E 174 7 = true := by kernel_rfl
theorem el174 : elIs E 174 264 true 7 56 = true := by kernel_rfl
theorem bs174 {tm : PM AV} {S : St} {d : Option Tmp} (n : Nat) (ps : Array (Nat × Operand)) : opV E tm d (.buildSlice 174 n ps) S = buildSliceA E 174 n (ps.toList.map fun p => (p.1, E.ev tm p.2)) S := rfl
theorem app174 {tm : PM AV} {S : St} {d : Option Tmp} (x y : Operand) (t1 : TypeId) : opV E tm d (.call (Call.mk (.builtin .append) #[x, y] #[174, t1])) S = builtinA E false .append [174, t1] [E.ev tm x, E.ev tm y] S := rfl
theorem index174 {tm : PM AV} {S : St} {d : Option Tmp} (x y : Operand) : opV E tm d (.indexAddr 174 x y) S = idxV 7 (E.ev tm x) (int? (E.ev tm y)) S := index_chk 174 7 (by kernel_rfl) x y
theorem len174 {tm : PM AV} {S : St} {d : Option Tmp} (x : Operand) : opV E tm d (.call (Call.mk (.builtin .len) #[x] #[174])) S = lenV (E.ev tm x) S := op_len (t := 174) (e := 264) (by kernel_rfl) x
theorem load175 {tm : PM AV} {S : St} {d : Option Tmp} (x : Operand) : opV E tm d (.load 175 x) S = loadC true 8 (E.ev tm x) S := load_chk 175 true 8 (by kernel_rfl) x
theorem store175 {tm : PM AV} {S : St} {d : Option Tmp} (x y : Operand) : opV E tm d (.store 175 x y) S = storeC 8 (E.ev tm x) (E.ev tm y) S := store_chk (b := true) 175 8 (by kernel_rfl) x y
theorem load176 {tm : PM AV} {S : St} {d : Option Tmp} (x : Operand) : opV E tm d (.load 176 x) S = loadC true 8 (E.ev tm x) S := load_chk 176 true 8 (by kernel_rfl) x
theorem store176 {tm : PM AV} {S : St} {d : Option Tmp} (x y : Operand) : opV E tm d (.store 176 x y) S = storeC 8 (E.ev tm x) (E.ev tm y) S := store_chk (b := true) 176 8 (by kernel_rfl) x y
theorem load185 {tm : PM AV} {S : St} {d : Option Tmp} (x : Operand) : opV E tm d (.load 185 x) S = loadC false 1 (E.ev tm x) S := load_chk 185 false 1 (by kernel_rfl) x
theorem store185 {tm : PM AV} {S : St} {d : Option Tmp} (x y : Operand) : opV E tm d (.store 185 x y) S = storeC 1 (E.ev tm x) (E.ev tm y) S := store_chk (b := false) 185 1 (by kernel_rfl) x y
theorem load186 {tm : PM AV} {S : St} {d : Option Tmp} (x : Operand) : opV E tm d (.load 186 x) S = loadC true 2 (E.ev tm x) S := load_chk 186 true 2 (by kernel_rfl) x
theorem store186 {tm : PM AV} {S : St} {d : Option Tmp} (x y : Operand) : opV E tm d (.store 186 x y) S = storeC 2 (E.ev tm x) (E.ev tm y) S := store_chk (b := true) 186 2 (by kernel_rfl) x y
theorem load187 {tm : PM AV} {S : St} {d : Option Tmp} (x : Operand) : opV E tm d (.load 187 x) S = loadC false 1 (E.ev tm x) S := load_chk 187 false 1 (by kernel_rfl) x
theorem store187 {tm : PM AV} {S : St} {d : Option Tmp} (x y : Operand) : opV E tm d (.store 187 x y) S = storeC 1 (E.ev tm x) (E.ev tm y) S := store_chk (b := false) 187 1 (by kernel_rfl) x y
theorem und187 : E.und 187 = some (.slice 186) := by kernel_rfl
theorem sl187 : slIs E 187 2 = true := by kernel_rfl
theorem el187 : elIs E 187 186 true 2 16 = true := by kernel_rfl
theorem bs187 {tm : PM AV} {S : St} {d : Option Tmp} (n : Nat) (ps : Array (Nat × Operand)) : opV E tm d (.buildSlice 187 n ps) S = buildSliceA E 187 n (ps.toList.map fun p => (p.1, E.ev tm p.2)) S := rfl
theorem app187 {tm : PM AV} {S : St} {d : Option Tmp} (x y : Operand) (t1 : TypeId) : opV E tm d (.call (Call.mk (.builtin .append) #[x, y] #[187, t1])) S = builtinA E false .append [187, t1] [E.ev tm x, E.ev tm y] S := rfl
theorem index187 {tm : PM AV} {S : St} {d : Option Tmp} (x y : Operand) : opV E tm d (.indexAddr 187 x y) S = idxV 2 (E.ev tm x) (int? (E.ev tm y)) S := index_chk 187 2 (by kernel_rfl) x y
theorem len187 {tm : PM AV} {S : St} {d : Option Tmp} (x : Operand) : opV E tm d (.call (Call.mk (.builtin .len) #[x] #[187])) S = lenV (E.ev tm x) S := op_len (t := 187) (e := 186) (by kernel_rfl) x
theorem load194 {tm : PM AV} {S : St} {d : Option Tmp} (x : Operand) : opV E tm d (.load 194 x) S = loadC true 2 (E.ev tm x) S := load_chk 194 true 2 (by kernel_rfl) x
theorem store194 {tm : PM AV} {S : St} {d : Option Tmp} (x y : Operand) : opV E tm d (.store 194 x y) S = storeC 2 (E.ev tm x) (E.ev tm y) S := store_chk (b := true) 194 2 (by kernel_rfl) x y
theorem load195 {tm : PM AV} {S : St} {d : Option Tmp} (x : Operand) : opV E tm d (.load 195 x) S = loadC true 2 (E.ev tm x) S := load_chk 195 true 2 (by kernel_rfl) x
theorem store195 {tm : PM AV} {S : St} {d : Option Tmp} (x y : Operand) : opV E tm d (.store 195 x y) S = storeC 2 (E.ev tm x) (E.ev tm y) S := store_chk (b := true) 195 2 (by kernel_rfl) x y
theorem load209 {tm : PM AV} {S : St} {d : Option Tmp} (x : Operand) : opV E tm d (.load 209 x) S = loadC false 1 (E.ev tm x) S := load_chk 209 false 1 (by kernel_rfl) x
theorem store209 {tm : PM AV} {S : St} {d : Option Tmp} (x y : Operand) : opV E tm d (.store 209 x y) S = storeC 1 (E.ev tm x) (E.ev tm y) S := store_chk (b := false) 209 1 (by kernel_rfl) x y
theorem und209 : E.und 209 = some (.slice 314) := by kernel_rfl
theorem sl209 : slIs E 209 2 = true := by kernel_rfl
theorem el209 : elIs E 209 314 true 2 16 = true := by kernel_rfl
theorem bs209 {tm : PM AV} {S : St} {d : Option Tmp} (n : Nat) (ps : Array (Nat × Operand)) : opV E tm d (.buildSlice 209 n ps) S = buildSliceA E 209 n (ps.toList.map fun p => (p.1, E.ev tm p.2)) S := rfl
theorem app209 {tm : PM AV} {S : St} {d : Option Tmp} (x y : Operand) (t1 : TypeId) : opV E tm d (.call (Call.mk (.builtin .append) #[x, y] #[209, t1])) S = builtinA E false .append [209, t1] [E.ev tm x, E.ev tm y] S := rfl
theorem index209 {tm : PM AV} {S : St} {d : Option Tmp} (x y : Operand) : opV E tm d (.indexAddr 209 x y) S = idxV 2 (E.ev tm x) (int? (E.ev tm y)) S := index_chk 209 2 (by kernel_rfl) x y
theorem len209 {tm : PM AV} {S : St} {d : Option Tmp} (x : Operand) : opV E tm d (.call (Call.mk (.builtin .len) #[x] #[209])) S = lenV (E.ev tm x) S := op_len (t := 209) (e := 314) (by kernel_rfl) x
theorem load211 {tm : PM AV} {S : St} {d : Option Tmp} (x : Operand) : opV E tm d (.load 211 x) S = loadC false 1 (E.ev tm x) S := load_chk 211 false 1 (by kernel_rfl) x
theorem store211 {tm : PM AV} {S : St} {d : Option Tmp} (x y : Operand) : opV E tm d (.store 211 x y) S = storeC 1 (E.ev tm x) (E.ev tm y) S := store_chk (b := false) 211 1 (by kernel_rfl) x y
theorem und211 : E.und 211 = some (.slice 216) := by kernel_rfl
theorem sl211 : slIs E 211 3 = true := by kernel_rfl
theorem el211 : elIs E 211 216 true 3 32 = true := by kernel_rfl
theorem bs211 {tm : PM AV} {S : St} {d : Option Tmp} (n : Nat) (ps : Array (Nat × Operand)) : opV E tm d (.buildSlice 211 n ps) S = buildSliceA E 211 n (ps.toList.map fun p => (p.1, E.ev tm p.2)) S := rfl
theorem app211 {tm : PM AV} {S : St} {d : Option Tmp} (x y : Operand) (t1 : TypeId) : opV E tm d (.call (Call.mk (.builtin .append) #[x, y] #[211, t1])) S = builtinA E false .append [211, t1] [E.ev tm x, E.ev tm y] S := rfl
theorem index211 {tm : PM AV} {S : St} {d : Option Tmp} (x y : Operand) : opV E tm d (.indexAddr 211 x y) S = idxV 3 (E.ev tm x) (int? (E.ev tm y)) S := index_chk 211 3 (by kernel_rfl) x y
theorem len211 {tm : PM AV} {S : St} {d : Option Tmp} (x : Operand) : opV E tm d (.call (Call.mk (.builtin .len) #[x] #[211])) S = lenV (E.ev tm x) S := op_len (t := 211) (e := 216) (by kernel_rfl) x
theorem load213 {tm : PM AV} {S : St} {d : Option Tmp} (x : Operand) : opV E tm d (.load 213 x) S = loadC true 2 (E.ev tm x) S := load_chk 213 true 2 (by kernel_rfl) x
theorem store213 {tm : PM AV} {S : St} {d : Option Tmp} (x y : Operand) : opV E tm d (.store 213 x y) S = storeC 2 (E.ev tm x) (E.ev tm y) S := store_chk (b := true) 213 2 (by kernel_rfl) x y
theorem load214 {tm : PM AV} {S : St} {d : Option Tmp} (x : Operand) : opV E tm d (.load 214 x) S = loadC true 2 (E.ev tm x) S := load_chk 214 true 2 (by kernel_rfl) x
theorem store214 {tm : PM AV} {S : St} {d : Option Tmp} (x y : Operand) : opV E tm d (.store 214 x y) S = storeC 2 (E.ev tm x) (E.ev tm y) S := store_chk (b := true) 214 2 (by kernel_rfl) x y
theorem load215 {tm : PM AV} {S : St} {d : Option Tmp} (x : Operand) : opV E tm d (.load 215 x) S = loadC true 3 (E.ev tm x) S := load_chk 215 true 3 (by kernel_rfl) x
theorem store215 {tm : PM AV} {S : St} {d : Option Tmp} (x y : Operand) : opV E tm d (.store 215 x y) S = storeC 3 (E.ev tm x) (E.ev tm y) S := store_chk (b := true) 215 3 (by kernel_rfl) x y
theorem load216 {tm : PM AV} {S : St} {d : Option Tmp} (x : Operand) : opV E tm d (.load 216 x) S = loadC true 3 (E.ev tm x) S := load_chk 216 true 3 (by kernel_rfl) x
theorem store216 {tm : PM AV} {S : St} {d : Option Tmp} (x y : Operand) : opV E tm d (.store 216 x y) S = storeC 3 (E.ev tm x) (E.ev tm y) S := store_chk (b := true) 216 3 (by kernel_rfl) x y
theorem load229 {tm : PM AV} {S : St} {d : Option Tmp} (x : Operand) : opV E tm d (.load 229 x) S = loadC true 4 (E.ev tm x) S := load_chk 229 true 4 (by kernel_rfl) x
theorem store229 {tm : PM AV} {S : St} {d : Option Tmp} (x y : Operand) : opV E tm d (.store 229 x y) S = storeC 4 (E.ev tm x) (E.ev tm y) S := store_chk (b := true) 229 4 (by kernel_rfl) x y
theorem load230 {tm : PM AV} {S : St} {d : Option Tmp} (x : Operand) : opV E tm d (.load 230 x) S = loadC true 4 (E.ev tm x) S := load_chk 230 true 4 (by kernel_rfl) x
theorem store230 {tm : PM AV} {S : St} {d : Option Tmp} (x y : Operand) : opV E tm d (.store 230 x y) S = storeC 4 (E.ev tm x) (E.ev tm y) S := store_chk (b := true) 230 4 (by kernel_rfl) x y
theorem load237 {tm : PM AV} {S : St} {d : Option Tmp} (x : Operand) : opV E tm d (.load 237 x) S = loadC false 1 (E.ev tm x) S := load_chk 237 false 1 (by kernel_rfl) x
theorem store237 {tm : PM AV} {S : St} {d : Option Tmp} (x y : Operand) : opV E tm d (.store 237 x y) S = storeC 1 (E.ev tm x) (E.ev tm y) S := store_chk (b := false) 237 1 (by kernel_rfl) x y
theorem load238 {tm : PM AV} {S : St} {d : Option Tmp} (x : Operand) : opV E tm d (.load 238 x) S = loadC true 3 (E.ev tm x) S := load_chk 238 true 3 (by kernel_rfl) x
theorem store238 {tm : PM AV} {S : St} {d : Option Tmp} (x y : Operand) : opV E tm d (.store 238 x y) S = storeC 3 (E.ev tm x) (E.ev tm y) S := store_chk (b := true) 238 3 (by kernel_rfl) x y
theorem load239 {tm : PM AV} {S : St} {d : Option Tmp} (x : Operand) : opV E tm d (.load 239 x) S = loadC true 3 (E.ev tm x) S := load_chk 239 true 3 (by kernel_rfl) x
theorem store239 {tm : PM AV} {S : St} {d : Option Tmp} (x y : Operand) : opV E tm d (.store 239 x y) S = storeC 3 (E.ev tm x) (E.ev tm y) S := store_chk (b := true) 239 3 (by kernel_rfl) x y
theorem load243 {tm : PM AV} {S : St} {d : Option Tmp} (x : Operand) : opV E tm d (.load 243 x) S = loadC false 1 (E.ev tm x) S := load_chk 243 false 1 (by kernel_rfl) x
theorem store243 {tm : PM AV} {S : St} {d : Option Tmp} (x y : Operand) : opV E tm d (.store 243 x y) S = storeC 1 (E.ev tm x) (E.ev tm y) S := store_chk (b := false) 243 1 (by kernel_rfl) x y
theorem load244 {tm : PM AV} {S : St} {d : Option Tmp} (x : Operand) : opV E tm d (.load 244 x) S = loadC true 2 (E.ev tm x) S := load_chk 244 true 2 (by kernel_rfl) x
theorem store244 {tm : PM AV} {S : St} {d : Option Tmp} (x y : Operand) : opV E tm d (.store 244 x y) S = storeC 2 (E.ev tm x) (E.ev tm y) S := store_chk (b := true) 244 2 (by kernel_rfl) x y
theorem load245 {tm : PM AV} {S : St} {d : Option Tmp} (x : Operand) : opV E tm d (.load 245 x) S = loadC true 2 (E.ev tm x) S := load_chk 245 true 2 (by kernel_rfl) x
theorem store245 {tm : PM AV} {S : St} {d : Option Tmp} (x y : Operand) : opV E tm d (.store 245 x y) S = storeC 2 (E.ev tm x) (E.ev tm y) S := store_chk (b := true) 245 2 (by kernel_rfl) x y
theorem load246 {tm : PM AV} {S : St} {d : Option Tmp} (x : Operand) : opV E tm d (.load 246 x) S = loadC false 1 (E.ev tm x) S := load_chk 246 false 1 (by kernel_rfl) x
theorem store246 {tm : PM AV} {S : St} {d : Option Tmp} (x y : Operand) : opV E tm d (.store 246 x y) S = storeC 1 (E.ev tm x) (E.ev tm y) S := store_chk (b := false) 246 1 (by kernel_rfl) x y
theorem load251 {tm : PM AV} {S : St} {d : Option Tmp} (x : Operand) : opV E tm d (.load 251 x) S = loadC false 1 (E.ev tm x) S := load_chk 251 false 1 (by kernel_rfl) x
theorem store251 {tm : PM AV} {S : St} {d : Option Tmp} (x y : Operand) : opV E tm d (.store 251 x y) S = storeC 1 (E.ev tm x) (E.ev tm y) S := store_chk (b := false) 251 1 (by kernel_rfl) x y
theorem und251 : E.und 251 = some (.slice 96) := by kernel_rfl
theorem sl251 : slIs E 251 1 = true := by kernel_rfl
theorem el251 : elIs E 251 96 false 1 24 = true := by kernel_rfl
theorem bs251 {tm : PM AV} {S : St} {d : Option Tmp} (n : Nat) (ps : Array (Nat × Operand)) : opV E tm d (.buildSlice 251 n ps) S = buildSliceA E 251 n (ps.toList.map fun p => (p.1, E.ev tm p.2)) S := rfl
theorem app251 {tm : PM AV} {S : St} {d : Option Tmp} (x y : Operand) (t1 : TypeId) : opV E tm d (.call (Call.mk (.builtin .append) #[x, y] #[251, t1])) S = builtinA E false .append [251, t1] [E.ev tm x, E.ev tm y] S := rfl
theorem index251 {tm : PM AV} {S : St} {d : Option Tmp} (x y : Operand) : opV E tm d (.indexAddr 251 x y) S = idxV 1 (E.ev tm x) (int? (E.ev tm y)) S := index_chk 251 1 (by kernel_rfl) x y
theorem len251 {tm : PM AV} {S : St} {d : Option Tmp} (x : Operand) : opV E tm d (.call (Call.mk (.builtin .len) #[x] #[251])) S = lenV (E.ev tm x) S := op_len (t := 251) (e := 96) (by kernel_rfl) x
theorem load254 {tm : PM AV} {S : St} {d : Option Tmp} (x : Operand) : opV E tm d (.load 254 x) S = loadC false 1 (E.ev tm x) S := load_chk 254 false 1 (by kernel_rfl) x
theorem store254 {tm : PM AV} {S : St} {d : Option Tmp} (x y : Operand) : opV E tm d (.store 254 x y) S = storeC 1 (E.ev tm x) (E.ev tm y) S := store_chk (b := false) 254 1 (by kernel_rfl) x y
theorem und254 : E.und 254 = some (.slice 214) := by kernel_rfl
theorem sl254 : slIs E 254 2 = true := by kernel_rfl
theorem el254 : elIs E 254 214 true 2 16 = true := by kernel_rfl
theorem bs254 {tm : PM AV} {S : St} {d : Option Tmp} (n : Nat) (ps : Array (Nat × Operand)) : opV E tm d (.buildSlice 254 n ps) S = buildSliceA E 254 n (ps.toList.map fun p => (p.1, E.ev tm p.2)) S := rfl
theorem app254 {tm : PM AV} {S : St} {d : Option Tmp} (x y : Operand) (t1 : TypeId) : opV E tm d (.call (Call.mk (.builtin .append) #[x, y] #[254, t1])) S = builtinA E false .append [254, t1] [E.ev tm x, E.ev tm y] S := rfl
theorem index254 {tm : PM AV} {S : St} {d : Option Tmp} (x y : Operand) : opV E tm d (.indexAddr 254 x y) S = idxV 2 (E.ev tm x) (int? (E.ev tm y)) S := index_chk 254 2 (by kernel_rfl) x y
theorem len254 {tm : PM AV} {S : St} {d : Option Tmp} (x : Operand) : opV E tm d (.call (Call.mk (.builtin .len) #[x] #[254])) S = lenV (E.ev tm x) S := op_len (t := 254) (e := 214) (by kernel_rfl) x
theorem load256 {tm : PM AV} {S : St} {d : Option Tmp} (x : Operand) : opV E tm d (.load 256 x) S = loadC true 5 (E.ev tm x) S := load_chk 256 true 5 (by kernel_rfl) x
theorem store256 {tm : PM AV} {S : St} {d : Option Tmp} (x y : Operand) : opV E tm d (.store 256 x y) S = storeC 5 (E.ev tm x) (E.ev tm y) S := store_chk (b := true) 256 5 (by kernel_rfl) x y
theorem load257 {tm : PM AV} {S : St} {d : Option Tmp} (x : Operand) : opV E tm d (.load 257 x) S = loadC true 5 (E.ev tm x) S := load_chk 257 true 5 (by kernel_rfl) x
theorem store257 {tm : PM AV} {S : St} {d : Option Tmp} (x y : Operand) : opV E tm d (.store 257 x y) S = storeC 5 (E.ev tm x) (E.ev tm y) S := store_chk (b := true) 257 5 (by kernel_rfl) x y
theorem load260 {tm : PM AV} {S : St} {d : Option Tmp} (x : Operand) : opV E tm d (.load 260 x) S = loadC false 1 (E.ev tm x) S := load_chk 260 false 1 (by kernel_rfl) x
theorem store260 {tm : PM AV} {S : St} {d : Option Tmp} (x y : Operand) : opV E tm d (.store 260 x y) S = storeC 1 (E.ev tm x) (E.ev tm y) S := store_chk (b := false) 260 1 (by kernel_rfl) x y
theorem load263 {tm : PM AV} {S : St} {d : Option Tmp} (x : Operand) : opV E tm d (.load 263 x) S = loadC true 7 (E.ev tm x) S := load_chk 263 true 7 (by kernel_rfl) x
theorem store263 {tm : PM AV} {S : St} {d : Option Tmp} (x y : Operand) : opV E tm d (.store 263 x y) S = storeC 7 (E.ev tm x) (E.ev tm y) S := store_chk (b := true) 263 7 (by kernel_rfl) x y
theorem load264 {tm : PM AV} {S : St} {d : Option Tmp} (x : Operand) : opV E tm d (.load 264 x) S = loadC true 7 (E.ev tm x) S := load_chk 264 true 7 (by kernel_rfl) x
theorem store264 {tm : PM AV} {S : St} {d : Option Tmp} (x y : Operand) : opV E tm d (.store 264 x y) S = storeC 7 (E.ev tm x) (E.ev tm y) S := store_chk (b := true) 264 7 (by kernel_rfl) x y
theorem load265 {tm : PM AV} {S : St} {d : Option Tmp} (x : Operand) : opV E tm d (.load 265 x) S = loadC true 3 (E.ev tm x) S := load_chk 265 true 3 (by kernel_rfl) x
theorem store265 {tm : PM AV} {S : St} {d : Option Tmp} (x y : Operand) : opV E tm d (.store 265 x y) S = storeC 3 (E.ev tm x) (E.ev tm y) S := store_chk (b := true) 265 3 (by kernel_rfl) x y
theorem load266 {tm : PM AV} {S : St} {d : Option Tmp} (x : Operand) : opV E tm d (.load 266 x) S = loadC true 3 (E.ev tm x) S := load_chk 266 true 3 (by kernel_rfl) x
theorem store266 {tm : PM AV} {S : St} {d : Option Tmp} (x y : Operand) : opV E tm d (.store 266 x y) S = storeC 3 (E.ev tm x) (E.ev tm y) S := store_chk (b := true) 266 3 (by kernel_rfl) x y
theorem load268 {tm : PM AV} {S : St} {d : Option Tmp} (x : Operand) : opV E tm d (.load 268 x) S = loadC true 4 (E.ev tm x) S := load_chk 268 true 4 (by kernel_rfl) x
theorem store268 {tm : PM AV} {S : St} {d : Option Tmp} (x y : Operand) : opV E tm d (.store 268 x y) S = storeC 4 (E.ev tm x) (E.ev tm y) S := store_chk (b := true) 268 4 (by kernel_rfl) x y
theorem load269 {tm : PM AV} {S : St} {d : Option Tmp} (x : Operand) : opV E tm d (.load 269 x) S = loadC true 4 (E.ev tm x) S := load_chk 269 true 4 (by kernel_rfl) x
theorem store269 {tm : PM AV} {S : St} {d : Option Tmp} (x y : Operand) : opV E tm d (.store 269 x y) S = storeC 4 (E.ev tm x) (E.ev tm y) S := store_chk (b := true) 269 4 (by kernel_rfl) x y
theorem load276 {tm : PM AV} {S : St} {d : Option Tmp} (x : Operand) : opV E tm d (.load 276 x) S = loadC true 24 (E.ev tm x) S := load_chk 276 true 24 (by kernel_rfl) x
theorem store276 {tm : PM AV} {S : St} {d : Option Tmp} (x y : Operand) : opV E tm d (.store 276 x y) S = storeC 24 (E.ev tm x) (E.ev tm y) S := store_chk (b := true) 276 24 (by kernel_rfl) x y
theorem load281 {tm : PM AV} {S : St} {d : Option Tmp} (x : Operand) : opV E tm d (.load 281 x) S = loadC false 1 (E.ev tm x) S := load_chk 281 false 1 (by kernel_rfl) x
theorem store281 {tm : PM AV} {S : St} {d : Option Tmp} (x y : Operand) : opV E tm d (.store 281 x y) S = storeC 1 (E.ev tm x) (E.ev tm y) S := store_chk (b := false) 281 1 (by kernel_rfl) x y
theorem load284 {tm : PM AV} {S : St} {d : Option Tmp} (x : Operand) : opV E tm d (.load 284 x) S = loadC false 1 (E.ev tm x) S := load_chk 284 false 1 (by kernel_rfl) x
theorem store284 {tm : PM AV} {S : St} {d : Option Tmp} (x y : Operand) : opV E tm d (.store 284 x y) S = storeC 1 (E.ev tm x) (E.ev tm y) S := store_chk (b := false) 284 1 (by kernel_rfl) x y
theorem load285 {tm : PM AV} {S : St} {d : Option Tmp} (x : Operand) : opV E tm d (.load 285 x) S = loadC true 2 (E.ev tm x) S := load_chk 285 true 2 (by kernel_rfl) x
theorem store285 {tm : PM AV} {S : St} {d : Option Tmp} (x y : Operand) : opV E tm d (.store 285 x y) S = storeC 2 (E.ev tm x) (E.ev tm y) S := store_chk (b := true) 285 2 (by kernel_rfl) x y
theorem load286 {tm : PM AV} {S : St} {d : Option Tmp} (x : Operand) : opV E tm d (.load 286 x) S = loadC true 2 (E.ev tm x) S := load_chk 286 true 2 (by kernel_rfl) x
theorem store286 {tm : PM AV} {S : St} {d : Option Tmp} (x y : Operand) : opV E tm d (.store 286 x y) S = storeC 2 (E.ev tm x) (E.ev tm y) S := store_chk (b := true) 286 2 (by kernel_rfl) x y
theorem load307 {tm : PM AV} {S : St} {d : Option Tmp} (x : Operand) : opV E tm d (.load 307 x) S = loadC true 3 (E.ev tm x) S := load_chk 307 true 3 (by kernel_rfl) x
theorem store307 {tm : PM AV} {S : St} {d : Option Tmp} (x y : Operand) : opV E tm d (.store 307 x y) S = storeC 3 (E.ev tm x) (E.ev tm y) S := store_chk (b := true) 307 3 (by kernel_rfl) x y
theorem load308 {tm : PM AV} {S : St} {d : Option Tmp} (x : Operand) : opV E tm d (.load 308 x) S = loadC true 3 (E.ev tm x) S := load_chk 308 true 3 (by kernel_rfl) x
theorem store308 {tm : PM AV} {S : St} {d : Option Tmp} (x y : Operand) : opV E tm d (.store 308 x y) S = storeC 3 (E.ev tm x) (E.ev tm y) S := store_chk (b := true) 308 3 (by kernel_rfl) x y
theorem load313 {tm : PM AV} {S : St} {d : Option Tmp} (x : Operand) : opV E tm d (.load 313 x) S = loadC true 2 (E.ev tm x) S := load_chk 313 true 2 (by kernel_rfl) x
theorem store313 {tm : PM AV} {S : St} {d : Option Tmp} (x y : Operand) : opV E tm d (.store 313 x y) S = storeC 2 (E.ev tm x) (E.ev tm y) S := store_chk (b := true) 313 2 (by kernel_rfl) x y
theorem load314 {tm : PM AV} {S : St} {d : Option Tmp} (x : Operand) : opV E tm d (.load 314 x) S = loadC true 2 (E.ev tm x) S := load_chk 314 true 2 (by kernel_rfl) x
theorem store314 {tm : PM AV} {S : St} {d : Option Tmp} (x y : Operand) : opV E tm d (.store 314 x y) S = storeC 2 (E.ev tm x) (E.ev tm y) S := store_chk (b := true) 314 2 (by kernel_rfl) x y
theorem load323 {tm : PM AV} {S : St} {d : Option Tmp} (x : Operand) : opV E tm d (.load 323 x) S = loadC false 1 (E.ev tm x) S := load_chk 323 false 1 (by kernel_rfl) x
theorem store323 {tm : PM AV} {S : St} {d : Option Tmp} (x y : Operand) : opV E tm d (.store 323 x y) S = storeC 1 (E.ev tm x) (E.ev tm y) S := store_chk (b := false) 323 1 (by kernel_rfl) x y
theorem load325 {tm : PM AV} {S : St} {d : Option Tmp} (x : Operand) : opV E tm d (.load 325 x) S = loadC true 4 (E.ev tm x) S := load_chk 325 true 4 (by kernel_rfl) x
theorem store325 {tm : PM AV} {S : St} {d : Option Tmp} (x y : Operand) : opV E tm d (.store 325 x y) S = storeC 4 (E.ev tm x) (E.ev tm y) S := store_chk (b := true) 325 4 (by kernel_rfl) x y
theorem load326 {tm : PM AV} {S : St} {d : Option Tmp} (x : Operand) : opV E tm d (.load 326 x) S = loadC true 4 (E.ev tm x) S := load_chk 326 true 4 (by kernel_rfl) x
theorem store326 {tm : PM AV} {S : St} {d : Option Tmp} (x y : Operand) : opV E tm d (.store 326 x y) S = storeC 4 (E.ev tm x) (E.ev tm y) S := store_chk (b := true) 326 4 (by kernel_rfl) x y
theorem load339 {tm : PM AV} {S : St} {d : Option Tmp} (x : Operand) : opV E tm d (.load 339 x) S = loadC false 1 (E.ev tm x) S := load_chk 339 false 1 (by kernel_rfl) x
theorem store339 {tm : PM AV} {S : St} {d : Option Tmp} (x y : Operand) : opV E tm d (.store 339 x y) S = storeC 1 (E.ev tm x) (E.ev tm y) S := store_chk (b := false) 339 1 (by kernel_rfl) x y
theorem load343 {tm : PM AV} {S : St} {d : Option Tmp} (x : Operand) : opV E tm d (.load 343 x) S = loadC true 5 (E.ev tm x) S := load_chk 343 true 5 (by kernel_rfl) x
theorem store343 {tm : PM AV} {S : St} {d : Option Tmp} (x y : Operand) : opV E tm d (.store 343 x y) S = storeC 5 (E.ev tm x) (E.ev tm y) S := store_chk (b := true) 343 5 (by kernel_rfl) x y
theorem load344 {tm : PM AV} {S : St} {d : Option Tmp} (x : Operand) : opV E tm d (.load 344 x) S = loadC true 5 (E.ev tm x) S := load_chk 344 true 5 (by kernel_rfl) x
theorem store344 {tm : PM AV} {S : St} {d : Option Tmp} (x y : Operand) : opV E tm d (.store 344 x y) S = storeC 5 (E.ev tm x) (E.ev tm y) S := store_chk (b := true) 344 5 (by kernel_rfl) x y
theorem load347 {tm : PM AV} {S : St} {d : Option Tmp} (x : Operand) : opV E tm d (.load 347 x) S = loadC false 1 (E.ev tm x) S := load_chk 347 false 1 (by kernel_rfl) x
theorem store347 {tm : PM AV} {S : St} {d : Option Tmp} (x y : Operand) : opV E tm d (.store 347 x y) S = storeC 1 (E.ev tm x) (E.ev tm y) S := store_chk (b := false) 347 1 (by kernel_rfl) x y
theorem und347 : E.und 347 = some (.slice 344) := by kernel_rfl
theorem sl347 : slIs E 347 5 = true := by kernel_rfl
theorem el347 : elIs E 347 344 true 5 80 = true := by kernel_rfl
theorem bs347 {tm : PM AV} {S : St} {d : Option Tmp} (n : Nat) (ps : Array (Nat × Operand)) : opV E tm d (.buildSlice 347 n ps) S = buildSliceA E 347 n (ps.toList.map fun p => (p.1, E.ev tm p.2)) S := rfl
theorem app347 {tm : PM AV} {S : St} {d : Option Tmp} (x y : Operand) (t1 : TypeId) : opV E tm d (.call (Call.mk (.builtin .append) #[x, y] #[347, t1])) S = builtinA E false .append [347, t1] [E.ev tm x, E.ev tm y] S := rfl
theorem index347 {tm : PM AV} {S : St} {d : Option Tmp} (x y : Operand) : opV E tm d (.indexAddr 347 x y) S = idxV 5 (E.ev tm x) (int? (E.ev tm y)) S := index_chk 347 5 (by kernel_rfl) x y
theorem len347 {tm : PM AV} {S : St} {d : Option Tmp} (x : Operand) : opV E tm d (.call (Call.mk (.builtin .len) #[x] #[347])) S = lenV (E.ev tm x) S := op_len (t := 347) (e := 344) (by kernel_rfl) x
theorem load349 {tm : PM AV} {S : St} {d : Option Tmp} (x : Operand) : opV E tm d (.load 349 x) S = loadC true 7 (E.ev tm x) S := load_chk 349 true 7 (by kernel_rfl) x
theorem store349 {tm : PM AV} {S : St} {d : Option Tmp} (x y : Operand) : opV E tm d (.store 349 x y) S = storeC 7 (E.ev tm x) (E.ev tm y) S := store_chk (b := true) 349 7 (by kernel_rfl) x y
theorem load350 {tm : PM AV} {S : St} {d : Option Tmp} (x : Operand) : opV E tm d (.load 350 x) S = loadC true 7 (E.ev tm x) S := load_chk 350 true 7 (by kernel_rfl) x
theorem store350 {tm : PM AV} {S : St} {d : Option Tmp} (x y : Operand) : opV E tm d (.store 350 x y) S = storeC 7 (E.ev tm x) (E.ev tm y) S := store_chk (b := true) 350 7 (by kernel_rfl) x y
theorem load358 {tm : PM AV} {S : St} {d : Option Tmp} (x : Operand) : opV E tm d (.load 358 x) S = loadC false 1 (E.ev tm x) S := load_chk 358 false 1 (by kernel_rfl) x
theorem store358 {tm : PM AV} {S : St} {d : Option Tmp} (x y : Operand) : opV E tm d (.store 358 x y) S = storeC 1 (E.ev tm x) (E.ev tm y) S := store_chk (b := false) 358 1 (by kernel_rfl) x y
theorem load359 {tm : PM AV} {S : St} {d : Option Tmp} (x : Operand) : opV E tm d (.load 359 x) S = loadC true 3 (E.ev tm x) S := load_chk 359 true 3 (by kernel_rfl) x
theorem store359 {tm : PM AV} {S : St} {d : Option Tmp} (x y : Operand) : opV E tm d (.store 359 x y) S = storeC 3 (E.ev tm x) (E.ev tm y) S := store_chk (b := true) 359 3 (by kernel_rfl) x y
theorem load360 {tm : PM AV} {S : St} {d : Option Tmp} (x : Operand) : opV E tm d (.load 360 x) S = loadC true 3 (E.ev tm x) S := load_chk 360 true 3 (by kernel_rfl) x
theorem store360 {tm : PM AV} {S : St} {d : Option Tmp} (x y : Operand) : opV E tm d (.store 360 x y) S = storeC 3 (E.ev tm x) (E.ev tm y) S := store_chk (b := true) 360 3 (by kernel_rfl) x y
theorem load372 {tm : PM AV} {S : St} {d : Option Tmp} (x : Operand) : opV E tm d (.load 372 x) S = loadC false 1 (E.ev tm x) S := load_chk 372 false 1 (by kernel_rfl) x
theorem store372 {tm : PM AV} {S : St} {d : Option Tmp} (x y : Operand) : opV E tm d (.store 372 x y) S = storeC 1 (E.ev tm x) (E.ev tm y) S := store_chk (b := false) 372 1 (by kernel_rfl) x y
theorem load377 {tm : PM AV} {S : St} {d : Option Tmp} (x : Operand) : opV E tm d (.load 377 x) S = loadC true 20 (E.ev tm x) S := load_chk 377 true 20 (by kernel_rfl) x
theorem store377 {tm : PM AV} {S : St} {d : Option Tmp} (x y : Operand) : opV E tm d (.store 377 x y) S = storeC 20 (E.ev tm x) (E.ev tm y) S := store_chk (b := true) 377 20 (by kernel_rfl) x y
theorem load378 {tm : PM AV} {S : St} {d : Option Tmp} (x : Operand) : opV E tm d (.load 378 x) S = loadC false 1 (E.ev tm x) S := load_chk 378 false 1 (by kernel_rfl) x
theorem store378 {tm : PM AV} {S : St} {d : Option Tmp} (x y : Operand) : opV E tm d (.store 378 x y) S = storeC 1 (E.ev tm x) (E.ev tm y) S := store_chk (b := false) 378 1 (by kernel_rfl) x y
theorem load379 {tm : PM AV} {S : St} {d : Option Tmp} (x : Operand) : opV E tm d (.load 379 x) S = loadC true 65 (E.ev tm x) S := load_chk 379 true 65 (by kernel_rfl) x
theorem store379 {tm : PM AV} {S : St} {d : Option Tmp} (x y : Operand) : opV E tm d (.store 379 x y) S = storeC 65 (E.ev tm x) (E.ev tm y) S := store_chk (b := true) 379 65 (by kernel_rfl) x y
theorem load381 {tm : PM AV} {S : St} {d : Option Tmp} (x : Operand) : opV E tm d (.load 381 x) S = loadC false 1 (E.ev tm x) S := load_chk 381 false 1 (by kernel_rfl) x
theorem store381 {tm : PM AV} {S : St} {d : Option Tmp} (x y : Operand) : opV E tm d (.store 381 x y) S = storeC 1 (E.ev tm x) (E.ev tm y) S := store_chk (b := false) 381 1 (by kernel_rfl) x y
theorem load382 {tm : PM AV} {S : St} {d : Option Tmp} (x : Operand) : opV E tm d (.load 382 x) S = loadC false 1 (E.ev tm x) S := load_chk 382 false 1 (by kernel_rfl) x
theorem store382 {tm : PM AV} {S : St} {d : Option Tmp} (x y : Operand) : opV E tm d (.store 382 x y) S = storeC 1 (E.ev tm x) (E.ev tm y) S := store_chk (b := false) 382 1 (by kernel_rfl) x y
theorem load383 {tm : PM AV} {S : St} {d : Option Tmp} (x : Operand) : opV E tm d (.load 383 x) S = loadC false 1 (E.ev tm x) S := load_chk 383 false 1 (by kernel_rfl) x
theorem store383 {tm : PM AV} {S : St} {d : Option Tmp} (x y : Operand) : opV E tm d (.store 383 x y) S = storeC 1 (E.ev tm x) (E.ev tm y) S := store_chk (b := false) 383 1 (by kernel_rfl) x y
theorem load384 {tm : PM AV} {S : St} {d : Option Tmp} (x : Operand) : opV E tm d (.load 384 x) S = loadC true 3 (E.ev tm x) S := load_chk 384 true 3 (by kernel_rfl) x
theorem store384 {tm : PM AV} {S : St} {d : Option Tmp} (x y : Operand) : opV E tm d (.store 384 x y) S = storeC 3 (E.ev tm x) (E.ev tm y) S := store_chk (b := true) 384 3 (by kernel_rfl) x y
theorem load385 {tm : PM AV} {S : St} {d : Option Tmp} (x : Operand) : opV E tm d (.load 385 x) S = loadC true 3 (E.ev tm x) S := load_chk 385 true 3 (by kernel_rfl) x
theorem store385 {tm : PM AV} {S : St} {d : Option Tmp} (x y : Operand) : opV E tm d (.store 385 x y) S = storeC 3 (E.ev tm x) (E.ev tm y) S := store_chk (b := true) 385 3 (by kernel_rfl) x y
theorem load411 {tm : PM AV} {S : St} {d : Option Tmp} (x : Operand) : opV E tm d (.load 411 x) S = loadC true 3 (E.ev tm x) S := load_chk 411 true 3 (by kernel_rfl) x
theorem store411 {tm : PM AV} {S : St} {d : Option Tmp} (x y : Operand) : opV E tm d (.store 411 x y) S = storeC 3 (E.ev tm x) (E.ev tm y) S := store_chk (b := true) 411 3 (by kernel_rfl) x y
theorem load412 {tm : PM AV} {S : St} {d : Option Tmp} (x : Operand) : opV E tm d (.load 412 x) S = loadC true 3 (E.ev tm x) S := load_chk 412 true 3 (by kernel_rfl) x
theorem store412 {tm : PM AV} {S : St} {d : Option Tmp} (x y : Operand) : opV E tm d (.store 412 x y) S = storeC 3 (E.ev tm x) (E.ev tm y) S := store_chk (b := true) 412 3 (by kernel_rfl) x y
theorem load417 {tm : PM AV} {S : St} {d : Option Tmp} (x : Operand) : opV E tm d (.load 417 x) S = loadC false 1 (E.ev tm x) S := load_chk 417 false 1 (by kernel_rfl) x
theorem store417 {tm : PM AV} {S : St} {d : Option Tmp} (x y : Operand) : opV E tm d (.store 417 x y) S = storeC 1 (E.ev tm x) (E.ev tm y) S := store_chk (b := false) 417 1 (by kernel_rfl) x y
theorem und417 : E.und 417 = some (.slice 412) := by kernel_rfl
theorem sl417 : slIs E 417 3 = true := by kernel_rfl
theorem el417 : elIs E 417 412 true 3 32 = true := by kernel_rfl
theorem bs417 {tm : PM AV} {S : St} {d : Option Tmp} (n : Nat) (ps : Array (Nat × Operand)) : opV E tm d (.buildSlice 417 n ps) S = buildSliceA E 417 n (ps.toList.map fun p => (p.1, E.ev tm p.2)) S := rfl
theorem app417 {tm : PM AV} {S : St} {d : Option Tmp} (x y : Operand) (t1 : TypeId) : opV E tm d (.call (Call.mk (.builtin .append) #[x, y] #[417, t1])) S = builtinA E false .append [417, t1] [E.ev tm x, E.ev tm y] S := rfl
theorem index417 {tm : PM AV} {S : St} {d : Option Tmp} (x y : Operand) : opV E tm d (.indexAddr 417 x y) S = idxV 3 (E.ev tm x) (int? (E.ev tm y)) S := index_chk 417 3 (by kernel_rfl) x y
theorem len417 {tm : PM AV} {S : St} {d : Option Tmp} (x : Operand) : opV E tm d (.call (Call.mk (.builtin .len) #[x] #[417])) S = lenV (E.ev tm x) S := op_len (t := 417) (e := 412) (by kernel_rfl) x
theorem load431 {tm : PM AV} {S : St} {d : Option Tmp} (x : Operand) : opV E tm d (.load 431 x) S = loadC false 1 (E.ev tm x) S := load_chk 431 false 1 (by kernel_rfl) x
theorem store431 {tm : PM AV} {S : St} {d : Option Tmp} (x y : Operand) : opV E tm d (.store 431 x y) S = storeC 1 (E.ev tm x) (E.ev tm y) S := store_chk (b := false) 431 1 (by kernel_rfl) x y
theorem load448 {tm : PM AV} {S : St} {d : Option Tmp} (x : Operand) : opV E tm d (.load 448 x) S = loadC true 256 (E.ev tm x) S := load_chk 448 true 256 (by kernel_rfl) x
theorem store448 {tm : PM AV} {S : St} {d : Option Tmp} (x y : Operand) : opV E tm d (.store 448 x y) S = storeC 256 (E.ev tm x) (E.ev tm y) S := store_chk (b := true) 448 256 (by kernel_rfl) x y
theorem load450 {tm : PM AV} {S : St} {d : Option Tmp} (x : Operand) : opV E tm d (.load 450 x) S = loadC false 1 (E.ev tm x) S := load_chk 450 false 1 (by kernel_rfl) x
theorem store450 {tm : PM AV} {S : St} {d : Option Tmp} (x y : Operand) : opV E tm d (.store 450 x y) S = storeC 1 (E.ev tm x) (E.ev tm y) S := store_chk (b := false) 450 1 (by kernel_rfl) x y
theorem load451 {tm : PM AV} {S : St} {d : Option Tmp} (x : Operand) : opV E tm d (.load 451 x) S = loadC true 2 (E.ev tm x) S := load_chk 451 true 2 (by kernel_rfl) x
theorem store451 {tm : PM AV} {S : St} {d : Option Tmp} (x y : Operand) : opV E tm d (.store 451 x y) S = storeC 2 (E.ev tm x) (E.ev tm y) S := store_chk (b := true) 451 2 (by kernel_rfl) x y
theorem load452 {tm : PM AV} {S : St} {d : Option Tmp} (x : Operand) : opV E tm d (.load 452 x) S = loadC true 2 (E.ev tm x) S := load_chk 452 true 2 (by kernel_rfl) x
theorem store452 {tm : PM AV} {S : St} {d : Option Tmp} (x y : Operand) : opV E tm d (.store 452 x y) S = storeC 2 (E.ev tm x) (E.ev tm y) S := store_chk (b := true) 452 2 (by kernel_rfl) x y
theorem load453 {tm : PM AV} {S : St} {d : Option Tmp} (x : Operand) : opV E tm d (.load 453 x) S = loadC true 32 (E.ev tm x) S := load_chk 453 true 32 (by kernel_rfl) x
theorem store453 {tm : PM AV} {S : St} {d : Option Tmp} (x y : Operand) : opV E tm d (.store 453 x y) S = storeC 32 (E.ev tm x) (E.ev tm y) S := store_chk (b := true) 453 32 (by kernel_rfl) x y
theorem load460 {tm : PM AV} {S : St} {d : Option Tmp} (x : Operand) : opV E tm d (.load 460 x) S = loadC false 1 (E.ev tm x) S := load_chk 460 false 1 (by kernel_rfl) x
theorem store460 {tm : PM AV} {S : St} {d : Option Tmp} (x y : Operand) : opV E tm d (.store 460 x y) S = storeC 1 (E.ev tm x) (E.ev tm y) S := store_chk (b := false) 460 1 (by kernel_rfl) x y
theorem load465 {tm : PM AV} {S : St} {d : Option Tmp} (x : Operand) : opV E tm d (.load 465 x) S = loadC false 1 (E.ev tm x) S := load_chk 465 false 1 (by kernel_rfl) x
theorem store465 {tm : PM AV} {S : St} {d : Option Tmp} (x y : Operand) : opV E tm d (.store 465 x y) S = storeC 1 (E.ev tm x) (E.ev tm y) S := store_chk (b := false) 465 1 (by kernel_rfl) x y
theorem load469 {tm : PM AV} {S : St} {d : Option Tmp} (x : Operand) : opV E tm d (.load 469 x) S = loadC false 1 (E.ev tm x) S := load_chk 469 false 1 (by kernel_rfl) x
theorem store469 {tm : PM AV} {S : St} {d : Option Tmp} (x y : Operand) : opV E tm d (.store 469 x y) S = storeC 1 (E.ev tm x) (E.ev tm y) S := store_chk (b := false) 469 1 (by kernel_rfl) x y
theorem load471 {tm : PM AV} {S : St} {d : Option Tmp} (x : Operand) : opV E tm d (.load 471 x) S = loadC true 32 (E.ev tm x) S := load_chk 471 true 32 (by kernel_rfl) x
theorem store471 {tm : PM AV} {S : St} {d : Option Tmp} (x y : Operand) : opV E tm d (.store 471 x y) S = storeC 32 (E.ev tm x) (E.ev tm y) S := store_chk (b := true) 471 32 (by kernel_rfl) x y
theorem load472 {tm : PM AV} {S : St} {d : Option Tmp} (x : Operand) : opV E tm d (.load 472 x) S = loadC true 64 (E.ev tm x) S := load_chk 472 true 64 (by kernel_rfl) x
theorem store472 {tm : PM AV} {S : St} {d : Option Tmp} (x y : Operand) : opV E tm d (.store 472 x y) S = storeC 64 (E.ev tm x) (E.ev tm y) S := store_chk (b := true) 472 64 (by kernel_rfl) x y
theorem load474 {tm : PM AV} {S : St} {d : Option Tmp} (x : Operand) : opV E tm d (.load 474 x) S = loadC false 1 (E.ev tm x) S := load_chk 474 false 1 (by kernel_rfl) x
theorem store474 {tm : PM AV} {S : St} {d : Option Tmp} (x y : Operand) : opV E tm d (.store 474 x y) S = storeC 1 (E.ev tm x) (E.ev tm y) S := store_chk (b := false) 474 1 (by kernel_rfl) x y
theorem und474 : E.und 474 = some (.slice 480) := by kernel_rfl
theorem sl474 : slIs E 474 3 = true := by kernel_rfl
theorem el474 : elIs E 474 480 true 3 6 = true := by kernel_rfl
theorem bs474 {tm : PM AV} {S : St} {d : Option Tmp} (n : Nat) (ps : Array (Nat × Operand)) : opV E tm d (.buildSlice 474 n ps) S = buildSliceA E 474 n (ps.toList.map fun p => (p.1, E.ev tm p.2)) S := rfl
theorem app474 {tm : PM AV} {S : St} {d : Option Tmp} (x y : Operand) (t1 : TypeId) : opV E tm d (.call (Call.mk (.builtin .append) #[x, y] #[474, t1])) S = builtinA E false .append [474, t1] [E.ev tm x, E.ev tm y] S := rfl
theorem index474 {tm : PM AV} {S : St} {d : Option Tmp} (x y : Operand) : opV E tm d (.indexAddr 474 x y) S = idxV 3 (E.ev tm x) (int? (E.ev tm y)) S := index_chk 474 3 (by kernel_rfl) x y
theorem len474 {tm : PM AV} {S : St} {d : Option Tmp} (x : Operand) : opV E tm d (.call (Call.mk (.builtin .len) #[x] #[474])) S = lenV (E.ev tm x) S := op_len (t := 474) (e := 480) (by kernel_rfl) x
theorem load475 {tm : PM AV} {S : St} {d : Option Tmp} (x : Operand) : opV E tm d (.load 475 x) S = loadC false 1 (E.ev tm x) S := load_chk 475 false 1 (by kernel_rfl) x
theorem store475 {tm : PM AV} {S : St} {d : Option Tmp} (x y : Operand) : opV E tm d (.store 475 x y) S = storeC 1 (E.ev tm x) (E.ev tm y) S := store_chk (b := false) 475 1 (by kernel_rfl) x y
theorem und475 : E.und 475 = some (.slice 483) := by kernel_rfl
theorem sl475 : slIs E 475 3 = true := by kernel_rfl
theorem el475 : elIs E 475 483 true 3 12 = true := by kernel_rfl
theorem bs475 {tm : PM AV} {S : St} {d : Option Tmp} (n : Nat) (ps : Array (Nat × Operand)) : opV E tm d (.buildSlice 475 n ps) S = buildSliceA E 475 n (ps.toList.map fun p => (p.1, E.ev tm p.2)) S := rfl
theorem app475 {tm : PM AV} {S : St} {d : Option Tmp} (x y : Operand) (t1 : TypeId) : opV E tm d (.call (Call.mk (.builtin .append) #[x, y] #[475, t1])) S = builtinA E false .append [475, t1] [E.ev tm x, E.ev tm y] S := rfl
theorem index475 {tm : PM AV} {S : St} {d : Option Tmp} (x y : Operand) : opV E tm d (.indexAddr 475 x y) S = idxV 3 (E.ev tm x) (int? (E.ev tm y)) S := index_chk 475 3 (by kernel_rfl) x y
theorem len475 {tm : PM AV} {S : St} {d : Option Tmp} (x : Operand) : opV E tm d (.call (Call.mk (.builtin .len) #[x] #[475])) S = lenV (E.ev tm x) S := op_len (t := 475) (e := 483) (by kernel_rfl) x
theorem load476 {tm : PM AV} {S : St} {d : Option Tmp} (x : Operand) : opV E tm d (.load 476 x) S = loadC true 3 (E.ev tm x) S := load_chk 476 true 3 (by kernel_rfl) x
theorem store476 {tm : PM AV} {S : St} {d : Option Tmp} (x y : Operand) : opV E tm d (.store 476 x y) S = storeC 3 (E.ev tm x) (E.ev tm y) S := store_chk (b := true) 476 3 (by kernel_rfl) x y
theorem load477 {tm : PM AV} {S : St} {d : Option Tmp} (x : Operand) : opV E tm d (.load 477 x) S = loadC true 3 (E.ev tm x) S := load_chk 477 true 3 (by kernel_rfl) x
theorem store477 {tm : PM AV} {S : St} {d : Option Tmp} (x y : Operand) : opV E tm d (.store 477 x y) S = storeC 3 (E.ev tm x) (E.ev tm y) S := store_chk (b := true) 477 3 (by kernel_rfl) x y
theorem load478 {tm : PM AV} {S : St} {d : Option Tmp} (x : Operand) : opV E tm d (.load 478 x) S = loadC false 1 (E.ev tm x) S := load_chk 478 false 1 (by kernel_rfl) x
theorem store478 {tm : PM AV} {S : St} {d : Option Tmp} (x y : Operand) : opV E tm d (.store 478 x y) S = storeC 1 (E.ev tm x) (E.ev tm y) S := store_chk (b := false) 478 1 (by kernel_rfl) x y
theorem load479 {tm : PM AV} {S : St} {d : Option Tmp} (x : Operand) : opV E tm d (.load 479 x) S = loadC true 3 (E.ev tm x) S := load_chk 479 true 3 (by kernel_rfl) x
theorem store479 {tm : PM AV} {S : St} {d : Option Tmp} (x y : Operand) : opV E tm d (.store 479 x y) S = storeC 3 (E.ev tm x) (E.ev tm y) S := store_chk (b := true) 479 3 (by kernel_rfl) x y
theorem load480 {tm : PM AV} {S : St} {d : Option Tmp} (x : Operand) : opV E tm d (.load 480 x) S = loadC true 3 (E.ev tm x) S := load_chk 480 true 3 (by kernel_rfl) x
theorem store480 {tm : PM AV} {S : St} {d : Option Tmp} (x y : Operand) : opV E tm d (.store 480 x y) S = storeC 3 (E.ev tm x) (E.ev tm y) S := store_chk (b := true) 480 3 (by kernel_rfl) x y
theorem load482 {tm : PM AV} {S : St} {d : Option Tmp} (x : Operand) : opV E tm d (.load 482 x) S = loadC true 3 (E.ev tm x) S := load_chk 482 true 3 (by kernel_rfl) x
theorem store482 {tm : PM AV} {S : St} {d : Option Tmp} (x y : Operand) : opV E tm d (.store 482 x y) S = storeC 3 (E.ev tm x) (E.ev tm y) S := store_chk (b := true) 482 3 (by kernel_rfl) x y
theorem load483 {tm : PM AV} {S : St} {d : Option Tmp} (x : Operand) : opV E tm d (.load 483 x) S = loadC true 3 (E.ev tm x) S := load_chk 483 true 3 (by kernel_rfl) x
theorem store483 {tm : PM AV} {S : St} {d : Option Tmp} (x y : Operand) : opV E tm d (.store 483 x y) S = storeC 3 (E.ev tm x) (E.ev tm y) S := store_chk (b := true) 483 3 (by kernel_rfl) x y
theorem load496 {tm : PM AV} {S : St} {d : Option Tmp} (x : Operand) : opV E tm d (.load 496 x) S = loadC false 1 (E.ev tm x) S := load_chk 496 false 1 (by kernel_rfl) x
theorem store496 {tm : PM AV} {S : St} {d : Option Tmp} (x y : Operand) : opV E tm d (.store 496 x y) S = storeC 1 (E.ev tm x) (E.ev tm y) S := store_chk (b := false) 496 1 (by kernel_rfl) x y
theorem load498 {tm : PM AV} {S : St} {d : Option Tmp} (x : Operand) : opV E tm d (.load 498 x) S = loadC false 1 (E.ev tm x) S := load_chk 498 false 1 (by kernel_rfl) x
theorem store498 {tm : PM AV} {S : St} {d : Option Tmp} (x y : Operand) : opV E tm d (.store 498 x y) S = storeC 1 (E.ev tm x) (E.ev tm y) S := store_chk (b := false) 498 1 (by kernel_rfl) x y
theorem load499 {tm : PM AV} {S : St} {d : Option Tmp} (x : Operand) : opV E tm d (.load 499 x) S = loadC false 1 (E.ev tm x) S := load_chk 499 false 1 (by kernel_rfl) x
theorem store499 {tm : PM AV} {S : St} {d : Option Tmp} (x y : Operand) : opV E tm d (.store 499 x y) S = storeC 1 (E.ev tm x) (E.ev tm y) S := store_chk (b := false) 499 1 (by kernel_rfl) x y
theorem load515 {tm : PM AV} {S : St} {d : Option Tmp} (x : Operand) : opV E tm d (.load 515 x) S = loadC true 4 (E.ev tm x) S := load_chk 515 true 4 (by kernel_rfl) x
theorem store515 {tm : PM AV} {S : St} {d : Option Tmp} (x y : Operand) : opV E tm d (.store 515 x y) S = storeC 4 (E.ev tm x) (E.ev tm y) S := store_chk (b := true) 515 4 (by kernel_rfl) x y
theorem load516 {tm : PM AV} {S : St} {d : Option Tmp} (x : Operand) : opV E tm d (.load 516 x) S = loadC true 4 (E.ev tm x) S := load_chk 516 true 4 (by kernel_rfl) x
theorem store516 {tm : PM AV} {S : St} {d : Option Tmp} (x y : Operand) : opV E tm d (.store 516 x y) S = storeC 4 (E.ev tm x) (E.ev tm y) S := store_chk (b := true) 516 4 (by kernel_rfl) x y
theorem load517 {tm : PM AV} {S : St} {d : Option Tmp} (x : Operand) : opV E tm d (.load 517 x) S = loadC true 0 (E.ev tm x) S := load_chk 517 true 0 (by kernel_rfl) x
theorem store517 {tm : PM AV} {S : St} {d : Option Tmp} (x y : Operand) : opV E tm d (.store 517 x y) S = storeC 0 (E.ev tm x) (E.ev tm y) S := store_chk (b := true) 517 0 (by kernel_rfl) x y
theorem load518 {tm : PM AV} {S : St} {d : Option Tmp} (x : Operand) : opV E tm d (.load 518 x) S = loadC true 0 (E.ev tm x) S := load_chk 518 true 0 (by kernel_rfl) x
theorem store518 {tm : PM AV} {S : St} {d : Option Tmp} (x y : Operand) : opV E tm d (.store 518 x y) S = storeC 0 (E.ev tm x) (E.ev tm y) S := store_chk (b := true) 518 0 (by kernel_rfl) x y
theorem load519 {tm : PM AV} {S : St} {d : Option Tmp} (x : Operand) : opV E tm d (.load 519 x) S = loadC true 0 (E.ev tm x) S := load_chk 519 true 0 (by kernel_rfl) x
theorem store519 {tm : PM AV} {S : St} {d : Option Tmp} (x y : Operand) : opV E tm d (.store 519 x y) S = storeC 0 (E.ev tm x) (E.ev tm y) S := store_chk (b := true) 519 0 (by kernel_rfl) x y
theorem load520 {tm : PM AV} {S : St} {d : Option Tmp} (x : Operand) : opV E tm d (.load 520 x) S = loadC false 1 (E.ev tm x) S := load_chk 520 false 1 (by kernel_rfl) x
theorem store520 {tm : PM AV} {S : St} {d : Option Tmp} (x y : Operand) : opV E tm d (.store 520 x y) S = storeC 1 (E.ev tm x) (E.ev tm y) S := store_chk (b := false) 520 1 (by kernel_rfl) x y
theorem load521 {tm : PM AV} {S : St} {d : Option Tmp} (x : Operand) : opV E tm d (.load 521 x) S = loadC false 1 (E.ev tm x) S := load_chk 521 false 1 (by kernel_rfl) x
theorem store521 {tm : PM AV} {S : St} {d : Option Tmp} (x y : Operand) : opV E tm d (.store 521 x y) S = storeC 1 (E.ev tm x) (E.ev tm y) S := store_chk (b := false) 521 1 (by kernel_rfl) x y
theorem load523 {tm : PM AV} {S : St} {d : Option Tmp} (x : Operand) : opV E tm d (.load 523 x) S = loadC false 1 (E.ev tm x) S := load_chk 523 false 1 (by kernel_rfl) x
theorem store523 {tm : PM AV} {S : St} {d : Option Tmp} (x y : Operand) : opV E tm d (.store 523 x y) S = storeC 1 (E.ev tm x) (E.ev tm y) S := store_chk (b := false) 523 1 (by kernel_rfl) x y
theorem load524 {tm : PM AV} {S : St} {d : Option Tmp} (x : Operand) : opV E tm d (.load 524 x) S = loadC false 1 (E.ev tm x) S := load_chk 524 false 1 (by kernel_rfl) x
theorem store524 {tm : PM AV} {S : St} {d : Option Tmp} (x y : Operand) : opV E tm d (.store 524 x y) S = storeC 1 (E.ev tm x) (E.ev tm y) S := store_chk (b := false) 524 1 (by kernel_rfl) x y
theorem load525 {tm : PM AV} {S : St} {d : Option Tmp} (x : Operand) : opV E tm d (.load 525 x) S = loadC true 11 (E.ev tm x) S := load_chk 525 true 11 (by kernel_rfl) x
theorem store525 {tm : PM AV} {S : St} {d : Option Tmp} (x y : Operand) : opV E tm d (.store 525 x y) S = storeC 11 (E.ev tm x) (E.ev tm y) S := store_chk (b := true) 525 11 (by kernel_rfl) x y
theorem load526 {tm : PM AV} {S : St} {d : Option Tmp} (x : Operand) : opV E tm d (.load 526 x) S = loadC true 11 (E.ev tm x) S := load_chk 526 true 11 (by kernel_rfl) x
theorem store526 {tm : PM AV} {S : St} {d : Option Tmp} (x y : Operand) : opV E tm d (.store 526 x y) S = storeC 11 (E.ev tm x) (E.ev tm y) S := store_chk (b := true) 526 11 (by kernel_rfl) x y
theorem conv2_5 {S : St} (mu : Bool) (n : Int) : convertA E mu 2 5 (.sc (.int .i64 n)) S = some (.sc (.int .u8 (IntKind.wrap .u8 n)), S) := conv_chk 2 5 .i64 .u8 n (by kernel_rfl) (by kernel_rfl)
theorem conv2_50 {S : St} (mu : Bool) (n : Int) : convertA E mu 2 50 (.sc (.int .i64 n)) S = some (.sc (.int .u64 (IntKind.wrap .u64 n)), S) := conv_chk 2 50 .i64 .u64 n (by kernel_rfl) (by kernel_rfl)
theorem conv2_51 {S : St} (mu : Bool) (n : Int) : convertA E mu 2 51 (.sc (.int .i64 n)) S = some (.sc (.int .u64 (IntKind.wrap .u64 n)), S) := conv_chk 2 51 .i64 .u64 n (by kernel_rfl) (by kernel_rfl)
theorem conv3_5 {S : St} (mu : Bool) (n : Int) : convertA E mu 3 5 (.sc (.int .i64 n)) S = some (.sc (.int .u8 (IntKind.wrap .u8 n)), S) := conv_chk 3 5 .i64 .u8 n (by kernel_rfl) (by kernel_rfl)
theorem conv3_21 {S : St} (mu : Bool) (n : Int) : convertA E mu 3 21 (.sc (.int .i64 n)) S = some (.sc (.int .i32 (IntKind.wrap .i32 n)), S) := conv_chk 3 21 .i64 .i32 n (by kernel_rfl) (by kernel_rfl)
theorem conv3_50 {S : St} (mu : Bool) (n : Int) : convertA E mu 3 50 (.sc (.int .i64 n)) S = some (.sc (.int .u64 (IntKind.wrap .u64 n)), S) := conv_chk 3 50 .i64 .u64 n (by kernel_rfl) (by kernel_rfl)
theorem conv3_51 {S : St} (mu : Bool) (n : Int) : convertA E mu 3 51 (.sc (.int .i64 n)) S = some (.sc (.int .u64 (IntKind.wrap .u64 n)), S) := conv_chk 3 51 .i64 .u64 n (by kernel_rfl) (by kernel_rfl)
theorem conv3_53 {S : St} (mu : Bool) (n : Int) : convertA E mu 3 53 (.sc (.int .i64 n)) S = some (.sc (.int .u64 (IntKind.wrap .u64 n)), S) := conv_chk 3 53 .i64 .u64 n (by kernel_rfl) (by kernel_rfl)
theorem conv3_465 {S : St} (mu : Bool) (n : Int) : convertA E mu 3 465 (.sc (.int .i64 n)) S = some (.sc (.int .u64 (IntKind.wrap .u64 n)), S) := conv_chk 3 465 .i64 .u64 n (by kernel_rfl) (by kernel_rfl)
theorem conv5_3 {S : St} (mu : Bool) (n : Int) : convertA E mu 5 3 (.sc (.int .u8 n)) S = some (.sc (.int .i64 (IntKind.wrap .i64 n)), S) := conv_chk 5 3 .u8 .i64 n (by kernel_rfl) (by kernel_rfl)
theorem conv5_21 {S : St} (mu : Bool) (n : Int) : convertA E mu 5 21 (.sc (.int .u8 n)) S = some (.sc (.int .i32 (IntKind.wrap .i32 n)), S) := conv_chk 5 21 .u8 .i32 n (by kernel_rfl) (by kernel_rfl)
theorem conv5_50 {S : St} (mu : Bool) (n : Int) : convertA E mu 5 50 (.sc (.int .u8 n)) S = some (.sc (.int .u64 (IntKind.wrap .u64 n)), S) := conv_chk 5 50 .u8 .u64 n (by kernel_rfl) (by kernel_rfl)
theorem conv21_2 {S : St} (mu : Bool) (n : Int) : convertA E mu 21 2 (.sc (.int .i32 n)) S = some (.sc (.int .i64 (IntKind.wrap .i64 n)), S) := conv_chk 21 2 .i32 .i64 n (by kernel_rfl) (by kernel_rfl)
theorem conv21_5 {S : St} (mu : Bool) (n : Int) : convertA E mu 21 5 (.sc (.int .i32 n)) S = some (.sc (.int .u8 (IntKind.wrap .u8 n)), S) := conv_chk 21 5 .i32 .u8 n (by kernel_rfl) (by kernel_rfl)
theorem conv21_378 {S : St} (mu : Bool) (n : Int) : convertA E mu 21 378 (.sc (.int .i32 n)) S = some (.sc (.int .u32 (IntKind.wrap .u32 n)), S) := conv_chk 21 378 .i32 .u32 n (by kernel_rfl) (by kernel_rfl)
theorem conv21_478 {S : St} (mu : Bool) (n : Int) : convertA E mu 21 478 (.sc (.int .i32 n)) S = some (.sc (.int .u16 (IntKind.wrap .u16 n)), S) := conv_chk 21 478 .i32 .u16 n (by kernel_rfl) (by kernel_rfl)
theorem conv50_2 {S : St} (mu : Bool) (n : Int) : convertA E mu 50 2 (.sc (.int .u64 n)) S = some (.sc (.int .i64 (IntKind.wrap .i64 n)), S) := conv_chk 50 2 .u64 .i64 n (by kernel_rfl) (by kernel_rfl)
theorem conv50_5 {S : St} (mu : Bool) (n : Int) : convertA E mu 50 5 (.sc (.int .u64 n)) S = some (.sc (.int .u8 (IntKind.wrap .u8 n)), S) := conv_chk 50 5 .u64 .u8 n (by kernel_rfl) (by kernel_rfl)
theorem conv50_378 {S : St} (mu : Bool) (n : Int) : convertA E mu 50 378 (.sc (.int .u64 n)) S = some (.sc (.int .u32 (IntKind.wrap .u32 n)), S) := conv_chk 50 378 .u64 .u32 n (by kernel_rfl) (by kernel_rfl)
theorem conv51_2 {S : St} (mu : Bool) (n : Int) : convertA E mu 51 2 (.sc (.int .u64 n)) S = some (.sc (.int .i64 (IntKind.wrap .i64 n)), S) := conv_chk 51 2 .u64 .i64 n (by kernel_rfl) (by kernel_rfl)
theorem conv51_3 {S : St} (mu : Bool) (n : Int) : convertA E mu 51 3 (.sc (.int .u64 n)) S = some (.sc (.int .i64 (IntKind.wrap .i64 n)), S) := conv_chk 51 3 .u64 .i64 n (by kernel_rfl) (by kernel_rfl)
theorem conv53_3 {S : St} (mu : Bool) (n : Int) : convertA E mu 53 3 (.sc (.int .u64 n)) S = some (.sc (.int .i64 (IntKind.wrap .i64 n)), S) := conv_chk 53 3 .u64 .i64 n (by kernel_rfl) (by kernel_rfl)
theorem conv53_378 {S : St} (mu : Bool) (n : Int) : convertA E mu 53 378 (.sc (.int .u64 n)) S = some (.sc (.int .u32 (IntKind.wrap .u32 n)), S) := conv_chk 53 378 .u64 .u32 n (by kernel_rfl) (by kernel_rfl)
theorem conv378_5 {S : St} (mu : Bool) (n : Int) : convertA E mu 378 5 (.sc (.int .u32 n)) S = some (.sc (.int .u8 (IntKind.wrap .u8 n)), S) := conv_chk 378 5 .u32 .u8 n (by kernel_rfl) (by kernel_rfl)
theorem conv378_21 {S : St} (mu : Bool) (n : Int) : convertA E mu 378 21 (.sc (.int .u32 n)) S = some (.sc (.int .i32 (IntKind.wrap .i32 n)), S) := conv_chk 378 21 .u32 .i32 n (by kernel_rfl) (by kernel_rfl)
theorem conv478_378 {S : St} (mu : Bool) (n : Int) : convertA E mu 478 378 (.sc (.int .u16 n)) S = some (.sc (.int .u32 (IntKind.wrap .u32 n)), S) := conv_chk 478 378 .u16 .u32 n (by kernel_rfl) (by kernel_rfl)
theorem call3 {nt : Nat} {k : List KI} {tm : PM AV} {S : St} {Q : PostA} (d : Option Tmp) (xs : Array Operand) (ats : Array TypeId) (r : List POp) : EndsA E nt (.c (.reg (⟨d, .call (Call.mk (.value (.func 3)) xs ats), none⟩ :: r)) :: k) .nrm tm S Q = CallK E nt 3 (xs.toList.map (E.ev tm)) d r k tm S Q := e_call d 3 xs ats r rfl
theorem call4 {nt : Nat} {k : List KI} {tm : PM AV} {S : St} {Q : PostA} (d : Option Tmp) (xs : Array Operand) (ats : Array TypeId) (r : List POp) : EndsA E nt (.c (.reg (⟨d, .call (Call.mk (.value (.func 4)) xs ats), none⟩ :: r)) :: k) .nrm tm S Q = CallK E nt 4 (xs.toList.map (E.ev tm)) d r k tm S Q := e_call d 4 xs ats r rfl
theorem call5 {nt : Nat} {k : List KI} {tm : PM AV} {S : St} {Q : PostA} (d : Option Tmp) (xs : Array Operand) (ats : Array TypeId) (r : List POp) : EndsA E nt (.c (.reg (⟨d, .call (Call.mk (.value (.func 5)) xs ats), none⟩ :: r)) :: k) .nrm tm S Q = CallK E nt 5 (xs.toList.map (E.ev tm)) d r k tm S Q := e_call d 5 xs ats r rfl
theorem call6 {nt : Nat} {k : List KI} {tm : PM AV} {S : St} {Q : PostA} (d : Option Tmp) (xs : Array Operand) (ats : Array TypeId) (r : List POp) : EndsA E nt (.c (.reg (⟨d, .call (Call.mk (.value (.func 6)) xs ats), none⟩ :: r)) :: k) .nrm tm S Q = CallK E nt 6 (xs.toList.map (E.ev tm)) d r k tm S Q := e_call d 6 xs ats r rfl
theorem call7 {nt : Nat} {k : List KI} {tm : PM AV} {S : St} {Q : PostA} (d : Option Tmp) (xs : Array Operand) (ats : Array TypeId) (r : List POp) : EndsA E nt (.c (.reg (⟨d, .call (Call.mk (.value (.func 7)) xs ats), none⟩ :: r)) :: k) .nrm tm S Q = CallK E nt 7 (xs.toList.map (E.ev tm)) d r k tm S Q := e_call d 7 xs ats r rfl
theorem call8 {nt : Nat} {k : List KI} {tm : PM AV} {S : St} {Q : PostA} (d : Option Tmp) (xs : Array Operand) (ats : Array TypeId) (r : List POp) : EndsA E nt (.c (.reg (⟨d, .call (Call.mk (.value (.func 8)) xs ats), none⟩ :: r)) :: k) .nrm tm S Q = CallK E nt 8 (xs.toList.map (E.ev tm)) d r k tm S Q := e_call d 8 xs ats r rfl
theorem call9 {nt : Nat} {k : List KI} {tm : PM AV} {S : St} {Q : PostA} (d : Option Tmp) (xs : Array Operand) (ats : Array TypeId) (r : List POp) : EndsA E nt (.c (.reg (⟨d, .call (Call.mk (.value (.func 9)) xs ats), none⟩ :: r)) :: k) .nrm tm S Q = CallK E nt 9 (xs.toList.map (E.ev tm)) d r k tm S Q := e_call d 9 xs ats r rfl
theorem call10 {nt : Nat} {k : List KI} {tm : PM AV} {S : St} {Q : PostA} (d : Option Tmp) (xs : Array Operand) (ats : Array TypeId) (r : List POp) : EndsA E nt (.c (.reg (⟨d, .call (Call.mk (.value (.func 10)) xs ats), none⟩ :: r)) :: k) .nrm tm S Q = CallK E nt 10 (xs.toList.map (E.ev tm)) d r k tm S Q := e_call d 10 xs ats r rfl
theorem call11 {nt : Nat} {k : List KI} {tm : PM AV} {S : St} {Q : PostA} (d : Option Tmp) (xs : Array Operand) (ats : Array TypeId) (r : List POp) : EndsA E nt (.c (.reg (⟨d, .call (Call.mk (.value (.func 11)) xs ats), none⟩ :: r)) :: k) .nrm tm S Q = CallK E nt 11 (xs.toList.map (E.ev tm)) d r k tm S Q := e_call d 11 xs ats r rfl
theorem call12 {nt : Nat} {k : List KI} {tm : PM AV} {S : St} {Q : PostA} (d : Option Tmp) (xs : Array Operand) (ats : Array TypeId) (r : List POp) : EndsA E nt (.c (.reg (⟨d, .call (Call.mk (.value (.func 12)) xs ats), none⟩ :: r)) :: k) .nrm tm S Q = CallK E nt 12 (xs.toList.map (E.ev tm)) d r k tm S Q := e_call d 12 xs ats r rfl
theorem call13 {nt : Nat} {k : List KI} {tm : PM AV} {S : St} {Q : PostA} (d : Option Tmp) (xs : Array Operand) (ats : Array TypeId) (r : List POp) : EndsA E nt (.c (.reg (⟨d, .call (Call.mk (.value (.func 13)) xs ats), none⟩ :: r)) :: k) .nrm tm S Q = CallK E nt 13 (xs.toList.map (E.ev tm)) d r k tm S Q := e_call d 13 xs ats r rfl
theorem call14 {nt : Nat} {k : List KI} {tm : PM AV} {S : St} {Q : PostA} (d : Option Tmp) (xs : Array Operand) (ats : Array TypeId) (r : List POp) : EndsA E nt (.c (.reg (⟨d, .call (Call.mk (.value (.func 14)) xs ats), none⟩ :: r)) :: k) .nrm tm S Q = CallK E nt 14 (xs.toList.map (E.ev tm)) d r k tm S Q := e_call d 14 xs ats r rfl
theorem call15 {nt : Nat} {k : List KI} {tm : PM AV} {S : St} {Q : PostA} (d : Option Tmp) (xs : Array Operand) (ats : Array TypeId) (r : List POp) : EndsA E nt (.c (.reg (⟨d, .call (Call.mk (.value (.func 15)) xs ats), none⟩ :: r)) :: k) .nrm tm S Q = CallK E nt 15 (xs.toList.map (E.ev tm)) d r k tm S Q := e_call d 15 xs ats r rfl
theorem call16 {nt : Nat} {k : List KI} {tm : PM AV} {S : St} {Q : PostA} (d : Option Tmp) (xs : Array Operand) (ats : Array TypeId) (r : List POp) : EndsA E nt (.c (.reg (⟨d, .call (Call.mk (.value (.func 16)) xs ats), none⟩ :: r)) :: k) .nrm tm S Q = CallK E nt 16 (xs.toList.map (E.ev tm)) d r k tm S Q := e_call d 16 xs ats r rfl
theorem call17 {nt : Nat} {k : List KI} {tm : PM AV} {S : St} {Q : PostA} (d : Option Tmp) (xs : Array Operand) (ats : Array TypeId) (r : List POp) : EndsA E nt (.c (.reg (⟨d, .call (Call.mk (.value (.func 17)) xs ats), none⟩ :: r)) :: k) .nrm tm S Q = CallK E nt 17 (xs.toList.map (E.ev tm)) d r k tm S Q := e_call d 17 xs ats r rfl
theorem call18 {nt : Nat} {k : List KI} {tm : PM AV} {S : St} {Q : PostA} (d : Option Tmp) (xs : Array Operand) (ats : Array TypeId) (r : List POp) : EndsA E nt (.c (.reg (⟨d, .call (Call.mk (.value (.func 18)) xs ats), none⟩ :: r)) :: k) .nrm tm S Q = CallK E nt 18 (xs.toList.map (E.ev tm)) d r k tm S Q := e_call d 18 xs ats r rfl
theorem call19 {nt : Nat} {k : List KI} {tm : PM AV} {S : St} {Q : PostA} (d : Option Tmp) (xs : Array Operand) (ats : Array TypeId) (r : List POp) : EndsA E nt (.c (.reg (⟨d, .call (Call.mk (.value (.func 19)) xs ats), none⟩ :: r)) :: k) .nrm tm S Q = CallK E nt 19 (xs.toList.map (E.ev tm)) d r k tm S Q := e_call d 19 xs ats r rfl
theorem call20 {nt : Nat} {k : List KI} {tm : PM AV} {S : St} {Q : PostA} (d : Option Tmp) (xs : Array Operand) (ats : Array TypeId) (r : List POp) : EndsA E nt (.c (.reg (⟨d, .call (Call.mk (.value (.func 20)) xs ats), none⟩ :: r)) :: k) .nrm tm S Q = CallK E nt 20 (xs.toList.map (E.ev tm)) d r k tm S Q := e_call d 20 xs ats r rfl
theorem call21 {nt : Nat} {k : List KI} {tm : PM AV} {S : St} {Q : PostA} (d : Option Tmp) (xs : Array Operand) (ats : Array TypeId) (r : List POp) : EndsA E nt (.c (.reg (⟨d, .call (Call.mk (.value (.func 21)) xs ats), none⟩ :: r)) :: k) .nrm tm S Q = CallK E nt 21 (xs.toList.map (E.ev tm)) d r k tm S Q := e_call d 21 xs ats r rfl
theorem call22 {nt : Nat} {k : List KI} {tm : PM AV} {S : St} {Q : PostA} (d : Option Tmp) (xs : Array Operand) (ats : Array TypeId) (r : List POp) : EndsA E nt (.c (.reg (⟨d, .call (Call.mk (.value (.func 22)) xs ats), none⟩ :: r)) :: k) .nrm tm S Q = CallK E nt 22 (xs.toList.map (E.ev tm)) d r k tm S Q := e_call d 22 xs ats r rfl
theorem call23 {nt : Nat} {k : List KI} {tm : PM AV} {S : St} {Q : PostA} (d : Option Tmp) (xs : Array Operand) (ats : Array TypeId) (r : List POp) : EndsA E nt (.c (.reg (⟨d, .call (Call.mk (.value (.func 23)) xs ats), none⟩ :: r)) :: k) .nrm tm S Q = CallK E nt 23 (xs.toList.map (E.ev tm)) d r k tm S Q := e_call d 23 xs ats r rfl
theorem call24 {nt : Nat} {k : List KI} {tm : PM AV} {S : St} {Q : PostA} (d : Option Tmp) (xs : Array Operand) (ats : Array TypeId) (r : List POp) : EndsA E nt (.c (.reg (⟨d, .call (Call.mk (.value (.func 24)) xs ats), none⟩ :: r)) :: k) .nrm tm S Q = CallK E nt 24 (xs.toList.map (E.ev tm)) d r k tm S Q := e_call d 24 xs ats r rfl
theorem call25 {nt : Nat} {k : List KI} {tm : PM AV} {S : St} {Q : PostA} (d : Option Tmp) (xs : Array Operand) (ats : Array TypeId) (r : List POp) : EndsA E nt (.c (.reg (⟨d, .call (Call.mk (.value (.func 25)) xs ats), none⟩ :: r)) :: k) .nrm tm S Q = CallK E nt 25 (xs.toList.map (E.ev tm)) d r k tm S Q := e_call d 25 xs ats r rfl
theorem call26 {nt : Nat} {k : List KI} {tm : PM AV} {S : St} {Q : PostA} (d : Option Tmp) (xs : Array Operand) (ats : Array TypeId) (r : List POp) : EndsA E nt (.c (.reg (⟨d, .call (Call.mk (.value (.func 26)) xs ats), none⟩ :: r)) :: k) .nrm tm S Q = CallK E nt 26 (xs.toList.map (E.ev tm)) d r k tm S Q := e_call d 26 xs ats r rfl
theorem call27 {nt : Nat} {k : List KI} {tm : PM AV} {S : St} {Q : PostA} (d : Option Tmp) (xs : Array Operand) (ats : Array TypeId) (r : List POp) : EndsA E nt (.c (.reg (⟨d, .call (Call.mk (.value (.func 27)) xs ats), none⟩ :: r)) :: k) .nrm tm S Q = CallK E nt 27 (xs.toList.map (E.ev tm)) d r k tm S Q := e_call d 27 xs ats r rfl
theorem call28 {nt : Nat} {k : List KI} {tm : PM AV} {S : St} {Q : PostA} (d : Option Tmp) (xs : Array Operand) (ats : Array TypeId) (r : List POp) : EndsA E nt (.c (.reg (⟨d, .call (Call.mk (.value (.func 28)) xs ats), none⟩ :: r)) :: k) .nrm tm S Q = CallK E nt 28 (xs.toList.map (E.ev tm)) d r k tm S Q := e_call d 28 xs ats r rfl
theorem call29 {nt : Nat} {k : List KI} {tm : PM AV} {S : St} {Q : PostA} (d : Option Tmp) (xs : Array Operand) (ats : Array TypeId) (r : List POp) : EndsA E nt (.c (.reg (⟨d, .call (Call.mk (.value (.func 29)) xs ats), none⟩ :: r)) :: k) .nrm tm S Q = CallK E nt 29 (xs.toList.map (E.ev tm)) d r k tm S Q := e_call d 29 xs ats r rfl
theorem call30 {nt : Nat} {k : List KI} {tm : PM AV} {S : St} {Q : PostA} (d : Option Tmp) (xs : Array Operand) (ats : Array TypeId) (r : List POp) : EndsA E nt (.c (.reg (⟨d, .call (Call.mk (.value (.func 30)) xs ats), none⟩ :: r)) :: k) .nrm tm S Q = CallK E nt 30 (xs.toList.map (E.ev tm)) d r k tm S Q := e_call d 30 xs ats r rfl
theorem call31 {nt : Nat} {k : List KI} {tm : PM AV} {S : St} {Q : PostA} (d : Option Tmp) (xs : Array Operand) (ats : Array TypeId) (r : List POp) : EndsA E nt (.c (.reg (⟨d, .call (Call.mk (.value (.func 31)) xs ats), none⟩ :: r)) :: k) .nrm tm S Q = CallK E nt 31 (xs.toList.map (E.ev tm)) d r k tm S Q := e_call d 31 xs ats r rfl
theorem call32 {nt : Nat} {k : List KI} {tm : PM AV} {S : St} {Q : PostA} (d : Option Tmp) (xs : Array Operand) (ats : Array TypeId) (r : List POp) : EndsA E nt (.c (.reg (⟨d, .call (Call.mk (.value (.func 32)) xs ats), none⟩ :: r)) :: k) .nrm tm S Q = CallK E nt 32 (xs.toList.map (E.ev tm)) d r k tm S Q := e_call d 32 xs ats r rfl
theorem call33 {nt : Nat} {k : List KI} {tm : PM AV} {S : St} {Q : PostA} (d : Option Tmp) (xs : Array Operand) (ats : Array TypeId) (r : List POp) : EndsA E nt (.c (.reg (⟨d, .call (Call.mk (.value (.func 33)) xs ats), none⟩ :: r)) :: k) .nrm tm S Q = CallK E nt 33 (xs.toList.map (E.ev tm)) d r k tm S Q := e_call d 33 xs ats r rfl
theorem call34 {nt : Nat} {k : List KI} {tm : PM AV} {S : St} {Q : PostA} (d : Option Tmp) (xs : Array Operand) (ats : Array TypeId) (r : List POp) : EndsA E nt (.c (.reg (⟨d, .call (Call.mk (.value (.func 34)) xs ats), none⟩ :: r)) :: k) .nrm tm S Q = CallK E nt 34 (xs.toList.map (E.ev tm)) d r k tm S Q := e_call d 34 xs ats r rfl
theorem call35 {nt : Nat} {k : List KI} {tm : PM AV} {S : St} {Q : PostA} (d : Option Tmp) (xs : Array Operand) (ats : Array TypeId) (r : List POp) : EndsA E nt (.c (.reg (⟨d, .call (Call.mk (.value (.func 35)) xs ats), none⟩ :: r)) :: k) .nrm tm S Q = CallK E nt 35 (xs.toList.map (E.ev tm)) d r k tm S Q := e_call d 35 xs ats r rfl
theorem call36 {nt : Nat} {k : List KI} {tm : PM AV} {S : St} {Q : PostA} (d : Option Tmp) (xs : Array Operand) (ats : Array TypeId) (r : List POp) : EndsA E nt (.c (.reg (⟨d, .call (Call.mk (.value (.func 36)) xs ats), none⟩ :: r)) :: k) .nrm tm S Q = CallK E nt 36 (xs.toList.map (E.ev tm)) d r k tm S Q := e_call d 36 xs ats r rfl
theorem call37 {nt : Nat} {k : List KI} {tm : PM AV} {S : St} {Q : PostA} (d : Option Tmp) (xs : Array Operand) (ats : Array TypeId) (r : List POp) : EndsA E nt (.c (.reg (⟨d, .call (Call.mk (.value (.func 37)) xs ats), none⟩ :: r)) :: k) .nrm tm S Q = CallK E nt 37 (xs.toList.map (E.ev tm)) d r k tm S Q := e_call d 37 xs ats r rfl
theorem call38 {nt : Nat} {k : List KI} {tm : PM AV} {S : St} {Q : PostA} (d : Option Tmp) (xs : Array Operand) (ats : Array TypeId) (r : List POp) : EndsA E nt (.c (.reg (⟨d, .call (Call.mk (.value (.func 38)) xs ats), none⟩ :: r)) :: k) .nrm tm S Q = CallK E nt 38 (xs.toList.map (E.ev tm)) d r k tm S Q := e_call d 38 xs ats r rfl
theorem call39 {nt : Nat} {k : List KI} {tm : PM AV} {S : St} {Q : PostA} (d : Option Tmp) (xs : Array Operand) (ats : Array TypeId) (r : List POp) : EndsA E nt (.c (.reg (⟨d, .call (Call.mk (.value (.func 39)) xs ats), none⟩ :: r)) :: k) .nrm tm S Q = CallK E nt 39 (xs.toList.map (E.ev tm)) d r k tm S Q := e_call d 39 xs ats r rfl
theorem call40 {nt : Nat} {k : List KI} {tm : PM AV} {S : St} {Q : PostA} (d : Option Tmp) (xs : Array Operand) (ats : Array TypeId) (r : List POp) : EndsA E nt (.c (.reg (⟨d, .call (Call.mk (.value (.func 40)) xs ats), none⟩ :: r)) :: k) .nrm tm S Q = CallK E nt 40 (xs.toList.map (E.ev tm)) d r k tm S Q := e_call d 40 xs ats r rfl
theorem call41 {nt : Nat} {k : List KI} {tm : PM AV} {S : St} {Q : PostA} (d : Option Tmp) (xs : Array Operand) (ats : Array TypeId) (r : List POp) : EndsA E nt (.c (.reg (⟨d, .call (Call.mk (.value (.func 41)) xs ats), none⟩ :: r)) :: k) .nrm tm S Q = CallK E nt 41 (xs.toList.map (E.ev tm)) d r k tm S Q := e_call d 41 xs ats r rfl
theorem call42 {nt : Nat} {k : List KI} {tm : PM AV} {S : St} {Q : PostA} (d : Option Tmp) (xs : Array Operand) (ats : Array TypeId) (r : List POp) : EndsA E nt (.c (.reg (⟨d, .call (Call.mk (.value (.func 42)) xs ats), none⟩ :: r)) :: k) .nrm tm S Q = CallK E nt 42 (xs.toList.map (E.ev tm)) d r k tm S Q := e_call d 42 xs ats r rfl
theorem call43 {nt : Nat} {k : List KI} {tm : PM AV} {S : St} {Q : PostA} (d : Option Tmp) (xs : Array Operand) (ats : Array TypeId) (r : List POp) : EndsA E nt (.c (.reg (⟨d, .call (Call.mk (.value (.func 43)) xs ats), none⟩ :: r)) :: k) .nrm tm S Q = CallK E nt 43 (xs.toList.map (E.ev tm)) d r k tm S Q := e_call d 43 xs ats r rfl
theorem call44 {nt : Nat} {k : List KI} {tm : PM AV} {S : St} {Q : PostA} (d : Option Tmp) (xs : Array Operand) (ats : Array TypeId) (r : List POp) : EndsA E nt (.c (.reg (⟨d, .call (Call.mk (.value (.func 44)) xs ats), none⟩ :: r)) :: k) .nrm tm S Q = CallK E nt 44 (xs.toList.map (E.ev tm)) d r k tm S Q := e_call d 44 xs ats r rfl
theorem call45 {nt : Nat} {k : List KI} {tm : PM AV} {S : St} {Q : PostA} (d : Option Tmp) (xs : Array Operand) (ats : Array TypeId) (r : List POp) : EndsA E nt (.c (.reg (⟨d, .call (Call.mk (.value (.func 45)) xs ats), none⟩ :: r)) :: k) .nrm tm S Q = CallK E nt 45 (xs.toList.map (E.ev tm)) d r k tm S Q := e_call d 45 xs ats r rfl
theorem call46 {nt : Nat} {k : List KI} {tm : PM AV} {S : St} {Q : PostA} (d : Option Tmp) (xs : Array Operand) (ats : Array TypeId) (r : List POp) : EndsA E nt (.c (.reg (⟨d, .call (Call.mk (.value (.func 46)) xs ats), none⟩ :: r)) :: k) .nrm tm S Q = CallK E nt 46 (xs.toList.map (E.ev tm)) d r k tm S Q := e_call d 46 xs ats r rfl
theorem call47 {nt : Nat} {k : List KI} {tm : PM AV} {S : St} {Q : PostA} (d : Option Tmp) (xs : Array Operand) (ats : Array TypeId) (r : List POp) : EndsA E nt (.c (.reg (⟨d, .call (Call.mk (.value (.func 47)) xs ats), none⟩ :: r)) :: k) .nrm tm S Q = CallK E nt 47 (xs.toList.map (E.ev tm)) d r k tm S Q := e_call d 47 xs ats r rfl
theorem call48 {nt : Nat} {k : List KI} {tm : PM AV} {S : St} {Q : PostA} (d : Option Tmp) (xs : Array Operand) (ats : Array TypeId) (r : List POp) : EndsA E nt (.c (.reg (⟨d, .call (Call.mk (.value (.func 48)) xs ats), none⟩ :: r)) :: k) .nrm tm S Q = CallK E nt 48 (xs.toList.map (E.ev tm)) d r k tm S Q := e_call d 48 xs ats r rfl
theorem call49 {nt : Nat} {k : List KI} {tm : PM AV} {S : St} {Q : PostA} (d : Option Tmp) (xs : Array Operand) (ats : Array TypeId) (r : List POp) : EndsA E nt (.c (.reg (⟨d, .call (Call.mk (.value (.func 49)) xs ats), none⟩ :: r)) :: k) .nrm tm S Q = CallK E nt 49 (xs.toList.map (E.ev tm)) d r k tm S Q := e_call d 49 xs ats r rfl
theorem call50 {nt : Nat} {k : List KI} {tm : PM AV} {S : St} {Q : PostA} (d : Option Tmp) (xs : Array Operand) (ats : Array TypeId) (r : List POp) : EndsA E nt (.c (.reg (⟨d, .call (Call.mk (.value (.func 50)) xs ats), none⟩ :: r)) :: k) .nrm tm S Q = CallK E nt 50 (xs.toList.map (E.ev tm)) d r k tm S Q := e_call d 50 xs ats r rfl
theorem call51 {nt : Nat} {k : List KI} {tm : PM AV} {S : St} {Q : PostA} (d : Option Tmp) (xs : Array Operand) (ats : Array TypeId) (r : List POp) : EndsA E nt (.c (.reg (⟨d, .call (Call.mk (.value (.func 51)) xs ats), none⟩ :: r)) :: k) .nrm tm S Q = CallK E nt 51 (xs.toList.map (E.ev tm)) d r k tm S Q := e_call d 51 xs ats r rfl
theorem call52 {nt : Nat} {k : List KI} {tm : PM AV} {S : St} {Q : PostA} (d : Option Tmp) (xs : Array Operand) (ats : Array TypeId) (r : List POp) : EndsA E nt (.c (.reg (⟨d, .call (Call.mk (.value (.func 52)) xs ats), none⟩ :: r)) :: k) .nrm tm S Q = CallK E nt 52 (xs.toList.map (E.ev tm)) d r k tm S Q := e_call d 52 xs ats r rfl
theorem call53 {nt : Nat} {k : List KI} {tm : PM AV} {S : St} {Q : PostA} (d : Option Tmp) (xs : Array Operand) (ats : Array TypeId) (r : List POp) : EndsA E nt (.c (.reg (⟨d, .call (Call.mk (.value (.func 53)) xs ats), none⟩ :: r)) :: k) .nrm tm S Q = CallK E nt 53 (xs.toList.map (E.ev tm)) d r k tm S Q := e_call d 53 xs ats r rfl
theorem call54 {nt : Nat} {k : List KI} {tm : PM AV} {S : St} {Q : PostA} (d : Option Tmp) (xs : Array Operand) (ats : Array TypeId) (r : List POp) : EndsA E nt (.c (.reg (⟨d, .call (Call.mk (.value (.func 54)) xs ats), none⟩ :: r)) :: k) .nrm tm S Q = CallK E nt 54 (xs.toList.map (E.ev tm)) d r k tm S Q := e_call d 54 xs ats r rfl
theorem call55 {nt : Nat} {k : List KI} {tm : PM AV} {S : St} {Q : PostA} (d : Option Tmp) (xs : Array Operand) (ats : Array TypeId) (r : List POp) : EndsA E nt (.c (.reg (⟨d, .call (Call.mk (.value (.func 55)) xs ats), none⟩ :: r)) :: k) .nrm tm S Q = CallK E nt 55 (xs.toList.map (E.ev tm)) d r k tm S Q := e_call d 55 xs ats r rfl
theorem call56 {nt : Nat} {k : List KI} {tm : PM AV} {S : St} {Q : PostA} (d : Option Tmp) (xs : Array Operand) (ats : Array TypeId) (r : List POp) : EndsA E nt (.c (.reg (⟨d, .call (Call.mk (.value (.func 56)) xs ats), none⟩ :: r)) :: k) .nrm tm S Q = CallK E nt 56 (xs.toList.map (E.ev tm)) d r k tm S Q := e_call d 56 xs ats r rfl
theorem call57 {nt : Nat} {k : List KI} {tm : PM AV} {S : St} {Q : PostA} (d : Option Tmp) (xs : Array Operand) (ats : Array TypeId) (r : List POp) : EndsA E nt (.c (.reg (⟨d, .call (Call.mk (.value (.func 57)) xs ats), none⟩ :: r)) :: k) .nrm tm S Q = CallK E nt 57 (xs.toList.map (E.ev tm)) d r k tm S Q := e_call d 57 xs ats r rfl
theorem call58 {nt : Nat} {k : List KI} {tm : PM AV} {S : St} {Q : PostA} (d : Option Tmp) (xs : Array Operand) (ats : Array TypeId) (r : List POp) : EndsA E nt (.c (.reg (⟨d, .call (Call.mk (.value (.func 58)) xs ats), none⟩ :: r)) :: k) .nrm tm S Q = CallK E nt 58 (xs.toList.map (E.ev tm)) d r k tm S Q := e_call d 58 xs ats r rfl
theorem call59 {nt : Nat} {k : List KI} {tm : PM AV} {S : St} {Q : PostA} (d : Option Tmp) (xs : Array Operand) (ats : Array TypeId) (r : List POp) : EndsA E nt (.c (.reg (⟨d, .call (Call.mk (.value (.func 59)) xs ats), none⟩ :: r)) :: k) .nrm tm S Q = CallK E nt 59 (xs.toList.map (E.ev tm)) d r k tm S Q := e_call d 59 xs ats r rfl
theorem call60 {nt : Nat} {k : List KI} {tm : PM AV} {S : St} {Q : PostA} (d : Option Tmp) (xs : Array Operand) (ats : Array TypeId) (r : List POp) : EndsA E nt (.c (.reg (⟨d, .call (Call.mk (.value (.func 60)) xs ats), none⟩ :: r)) :: k) .nrm tm S Q = CallK E nt 60 (xs.toList.map (E.ev tm)) d r k tm S Q := e_call d 60 xs ats r rfl
theorem call61 {nt : Nat} {k : List KI} {tm : PM AV} {S : St} {Q : PostA} (d : Option Tmp) (xs : Array Operand) (ats : Array TypeId) (r : List POp) : EndsA E nt (.c (.reg (⟨d, .call (Call.mk (.value (.func 61)) xs ats), none⟩ :: r)) :: k) .nrm tm S Q = CallK E nt 61 (xs.toList.map (E.ev tm)) d r k tm S Q := e_call d 61 xs ats r rfl
theorem call62 {nt : Nat} {k : List KI} {tm : PM AV} {S : St} {Q : PostA} (d : Option Tmp) (xs : Array Operand) (ats : Array TypeId) (r : List POp) : EndsA E nt (.c (.reg (⟨d, .call (Call.mk (.value (.func 62)) xs ats), none⟩ :: r)) :: k) .nrm tm S Q = CallK E nt 62 (xs.toList.map (E.ev tm)) d r k tm S Q := e_call d 62 xs ats r rfl
theorem call63 {nt : Nat} {k : List KI} {tm : PM AV} {S : St} {Q : PostA} (d : Option Tmp) (xs : Array Operand) (ats : Array TypeId) (r : List POp) : EndsA E nt (.c (.reg (⟨d, .call (Call.mk (.value (.func 63)) xs ats), none⟩ :: r)) :: k) .nrm tm S Q = CallK E nt 63 (xs.toList.map (E.ev tm)) d r k tm S Q := e_call d 63 xs ats r rfl
theorem call64 {nt : Nat} {k : List KI} {tm : PM AV} {S : St} {Q : PostA} (d : Option Tmp) (xs : Array Operand) (ats : Array TypeId) (r : List POp) : EndsA E nt (.c (.reg (⟨d, .call (Call.mk (.value (.func 64)) xs ats), none⟩ :: r)) :: k) .nrm tm S Q = CallK E nt 64 (xs.toList.map (E.ev tm)) d r k tm S Q := e_call d 64 xs ats r rfl
theorem call65 {nt : Nat} {k : List KI} {tm : PM AV} {S : St} {Q : PostA} (d : Option Tmp) (xs : Array Operand) (ats : Array TypeId) (r : List POp) : EndsA E nt (.c (.reg (⟨d, .call (Call.mk (.value (.func 65)) xs ats), none⟩ :: r)) :: k) .nrm tm S Q = CallK E nt 65 (xs.toList.map (E.ev tm)) d r k tm S Q := e_call d 65 xs ats r rfl
theorem call66 {nt : Nat} {k : List KI} {tm : PM AV} {S : St} {Q : PostA} (d : Option Tmp) (xs : Array Operand) (ats : Array TypeId) (r : List POp) : EndsA E nt (.c (.reg (⟨d, .call (Call.mk (.value (.func 66)) xs ats), none⟩ :: r)) :: k) .nrm tm S Q = CallK E nt 66 (xs.toList.map (E.ev tm)) d r k tm S Q := e_call d 66 xs ats r rfl
theorem call67 {nt : Nat} {k : List KI} {tm : PM AV} {S : St} {Q : PostA} (d : Option Tmp) (xs : Array Operand) (ats : Array TypeId) (r : List POp) : EndsA E nt (.c (.reg (⟨d, .call (Call.mk (.value (.func 67)) xs ats), none⟩ :: r)) :: k) .nrm tm S Q = CallK E nt 67 (xs.toList.map (E.ev tm)) d r k tm S Q := e_call d 67 xs ats r rfl
theorem call68 {nt : Nat} {k : List KI} {tm : PM AV} {S : St} {Q : PostA} (d : Option Tmp) (xs : Array Operand) (ats : Array TypeId) (r : List POp) : EndsA E nt (.c (.reg (⟨d, .call (Call.mk (.value (.func 68)) xs ats), none⟩ :: r)) :: k) .nrm tm S Q = CallK E nt 68 (xs.toList.map (E.ev tm)) d r k tm S Q := e_call d 68 xs ats r rfl
theorem call69 {nt : Nat} {k : List KI} {tm : PM AV} {S : St} {Q : PostA} (d : Option Tmp) (xs : Array Operand) (ats : Array TypeId) (r : List POp) : EndsA E nt (.c (.reg (⟨d, .call (Call.mk (.value (.func 69)) xs ats), none⟩ :: r)) :: k) .nrm tm S Q = CallK E nt 69 (xs.toList.map (E.ev tm)) d r k tm S Q := e_call d 69 xs ats r rfl
theorem call70 {nt : Nat} {k : List KI} {tm : PM AV} {S : St} {Q : PostA} (d : Option Tmp) (xs : Array Operand) (ats : Array TypeId) (r : List POp) : EndsA E nt (.c (.reg (⟨d, .call (Call.mk (.value (.func 70)) xs ats), none⟩ :: r)) :: k) .nrm tm S Q = CallK E nt 70 (xs.toList.map (E.ev tm)) d r k tm S Q := e_call d 70 xs ats r rfl
theorem call71 {nt : Nat} {k : List KI} {tm : PM AV} {S : St} {Q : PostA} (d : Option Tmp) (xs : Array Operand) (ats : Array TypeId) (r : List POp) : EndsA E nt (.c (.reg (⟨d, .call (Call.mk (.value (.func 71)) xs ats), none⟩ :: r)) :: k) .nrm tm S Q = CallK E nt 71 (xs.toList.map (E.ev tm)) d r k tm S Q := e_call d 71 xs ats r rfl
theorem call72 {nt : Nat} {k : List KI} {tm : PM AV} {S : St} {Q : PostA} (d : Option Tmp) (xs : Array Operand) (ats : Array TypeId) (r : List POp) : EndsA E nt (.c (.reg (⟨d, .call (Call.mk (.value (.func 72)) xs ats), none⟩ :: r)) :: k) .nrm tm S Q = CallK E nt 72 (xs.toList.map (E.ev tm)) d r k tm S Q := e_call d 72 xs ats r rfl
theorem call73 {nt : Nat} {k : List KI} {tm : PM AV} {S : St} {Q : PostA} (d : Option Tmp) (xs : Array Operand) (ats : Array TypeId) (r : List POp) : EndsA E nt (.c (.reg (⟨d, .call (Call.mk (.value (.func 73)) xs ats), none⟩ :: r)) :: k) .nrm tm S Q = CallK E nt 73 (xs.toList.map (E.ev tm)) d r k tm S Q := e_call d 73 xs ats r rfl
theorem call74 {nt : Nat} {k : List KI} {tm : PM AV} {S : St} {Q : PostA} (d : Option Tmp) (xs : Array Operand) (ats : Array TypeId) (r : List POp) : EndsA E nt (.c (.reg (⟨d, .call (Call.mk (.value (.func 74)) xs ats), none⟩ :: r)) :: k) .nrm tm S Q = CallK E nt 74 (xs.toList.map (E.ev tm)) d r k tm S Q := e_call d 74 xs ats r rfl
theorem call75 {nt : Nat} {k : List KI} {tm : PM AV} {S : St} {Q : PostA} (d : Option Tmp) (xs : Array Operand) (ats : Array TypeId) (r : List POp) : EndsA E nt (.c (.reg (⟨d, .call (Call.mk (.value (.func 75)) xs ats), none⟩ :: r)) :: k) .nrm tm S Q = CallK E nt 75 (xs.toList.map (E.ev tm)) d r k tm S Q := e_call d 75 xs ats r rfl
theorem call76 {nt : Nat} {k : List KI} {tm : PM AV} {S : St} {Q : PostA} (d : Option Tmp) (xs : Array Operand) (ats : Array TypeId) (r : List POp) : EndsA E nt (.c (.reg (⟨d, .call (Call.mk (.value (.func 76)) xs ats), none⟩ :: r)) :: k) .nrm tm S Q = CallK E nt 76 (xs.toList.map (E.ev tm)) d r k tm S Q := e_call d 76 xs ats r rfl
theorem call77 {nt : Nat} {k : List KI} {tm : PM AV} {S : St} {Q : PostA} (d : Option Tmp) (xs : Array Operand) (ats : Array TypeId) (r : List POp) : EndsA E nt (.c (.reg (⟨d, .call (Call.mk (.value (.func 77)) xs ats), none⟩ :: r)) :: k) .nrm tm S Q = CallK E nt 77 (xs.toList.map (E.ev tm)) d r k tm S Q := e_call d 77 xs ats r rfl
theorem call78 {nt : Nat} {k : List KI} {tm : PM AV} {S : St} {Q : PostA} (d : Option Tmp) (xs : Array Operand) (ats : Array TypeId) (r : List POp) : EndsA E nt (.c (.reg (⟨d, .call (Call.mk (.value (.func 78)) xs ats), none⟩ :: r)) :: k) .nrm tm S Q = CallK E nt 78 (xs.toList.map (E.ev tm)) d r k tm S Q := e_call d 78 xs ats r rfl
theorem call79 {nt : Nat} {k : List KI} {tm : PM AV} {S : St} {Q : PostA} (d : Option Tmp) (xs : Array Operand) (ats : Array TypeId) (r : List POp) : EndsA E nt (.c (.reg (⟨d, .call (Call.mk (.value (.func 79)) xs ats), none⟩ :: r)) :: k) .nrm tm S Q = CallK E nt 79 (xs.toList.map (E.ev tm)) d r k tm S Q := e_call d 79 xs ats r rfl
theorem call80 {nt : Nat} {k : List KI} {tm : PM AV} {S : St} {Q : PostA} (d : Option Tmp) (xs : Array Operand) (ats : Array TypeId) (r : List POp) : EndsA E nt (.c (.reg (⟨d, .call (Call.mk (.value (.func 80)) xs ats), none⟩ :: r)) :: k) .nrm tm S Q = CallK E nt 80 (xs.toList.map (E.ev tm)) d r k tm S Q := e_call d 80 xs ats r rfl
theorem call81 {nt : Nat} {k : List KI} {tm : PM AV} {S : St} {Q : PostA} (d : Option Tmp) (xs : Array Operand) (ats : Array TypeId) (r : List POp) : EndsA E nt (.c (.reg (⟨d, .call (Call.mk (.value (.func 81)) xs ats), none⟩ :: r)) :: k) .nrm tm S Q = CallK E nt 81 (xs.toList.map (E.ev tm)) d r k tm S Q := e_call d 81 xs ats r rfl
theorem call82 {nt : Nat} {k : List KI} {tm : PM AV} {S : St} {Q : PostA} (d : Option Tmp) (xs : Array Operand) (ats : Array TypeId) (r : List POp) : EndsA E nt (.c (.reg (⟨d, .call (Call.mk (.value (.func 82)) xs ats), none⟩ :: r)) :: k) .nrm tm S Q = CallK E nt 82 (xs.toList.map (E.ev tm)) d r k tm S Q := e_call d 82 xs ats r rfl
theorem call83 {nt : Nat} {k : List KI} {tm : PM AV} {S : St} {Q : PostA} (d : Option Tmp) (xs : Array Operand) (ats : Array TypeId) (r : List POp) : EndsA E nt (.c (.reg (⟨d, .call (Call.mk (.value (.func 83)) xs ats), none⟩ :: r)) :: k) .nrm tm S Q = CallK E nt 83 (xs.toList.map (E.ev tm)) d r k tm S Q := e_call d 83 xs ats r rfl
theorem call84 {nt : Nat} {k : List KI} {tm : PM AV} {S : St} {Q : PostA} (d : Option Tmp) (xs : Array Operand) (ats : Array TypeId) (r : List POp) : EndsA E nt (.c (.reg (⟨d, .call (Call.mk (.value (.func 84)) xs ats), none⟩ :: r)) :: k) .nrm tm S Q = CallK E nt 84 (xs.toList.map (E.ev tm)) d r k tm S Q := e_call d 84 xs ats r rfl
theorem call85 {nt : Nat} {k : List KI} {tm : PM AV} {S : St} {Q : PostA} (d : Option Tmp) (xs : Array Operand) (ats : Array TypeId) (r : List POp) : EndsA E nt (.c (.reg (⟨d, .call (Call.mk (.value (.func 85)) xs ats), none⟩ :: r)) :: k) .nrm tm S Q = CallK E nt 85 (xs.toList.map (E.ev tm)) d r k tm S Q := e_call d 85 xs ats r rfl
theorem call86 {nt : Nat} {k : List KI} {tm : PM AV} {S : St} {Q : PostA} (d : Option Tmp) (xs : Array Operand) (ats : Array TypeId) (r : List POp) : EndsA E nt (.c (.reg (⟨d, .call (Call.mk (.value (.func 86)) xs ats), none⟩ :: r)) :: k) .nrm tm S Q = CallK E nt 86 (xs.toList.map (E.ev tm)) d r k tm S Q := e_call d 86 xs ats r rfl
theorem call87 {nt : Nat} {k : List KI} {tm : PM AV} {S : St} {Q : PostA} (d : Option Tmp) (xs : Array Operand) (ats : Array TypeId) (r : List POp) : EndsA E nt (.c (.reg (⟨d, .call (Call.mk (.value (.func 87)) xs ats), none⟩ :: r)) :: k) .nrm tm S Q = CallK E nt 87 (xs.toList.map (E.ev tm)) d r k tm S Q := e_call d 87 xs ats r rfl
theorem call88 {nt : Nat} {k : List KI} {tm : PM AV} {S : St} {Q : PostA} (d : Option Tmp) (xs : Array Operand) (ats : Array TypeId) (r : List POp) : EndsA E nt (.c (.reg (⟨d, .call (Call.mk (.value (.func 88)) xs ats), none⟩ :: r)) :: k) .nrm tm S Q = CallK E nt 88 (xs.toList.map (E.ev tm)) d r k tm S Q := e_call d 88 xs ats r rfl
theorem call89 {nt : Nat} {k : List KI} {tm : PM AV} {S : St} {Q : PostA} (d : Option Tmp) (xs : Array Operand) (ats : Array TypeId) (r : List POp) : EndsA E nt (.c (.reg (⟨d, .call (Call.mk (.value (.func 89)) xs ats), none⟩ :: r)) :: k) .nrm tm S Q = CallK E nt 89 (xs.toList.map (E.ev tm)) d r k tm S Q := e_call d 89 xs ats r rfl
theorem call90 {nt : Nat} {k : List KI} {tm : PM AV} {S : St} {Q : PostA} (d : Option Tmp) (xs : Array Operand) (ats : Array TypeId) (r : List POp) : EndsA E nt (.c (.reg (⟨d, .call (Call.mk (.value (.func 90)) xs ats), none⟩ :: r)) :: k) .nrm tm S Q = CallK E nt 90 (xs.toList.map (E.ev tm)) d r k tm S Q := e_call d 90 xs ats r rfl
theorem call91 {nt : Nat} {k : List KI} {tm : PM AV} {S : St} {Q : PostA} (d : Option Tmp) (xs : Array Operand) (ats : Array TypeId) (r : List POp) : EndsA E nt (.c (.reg (⟨d, .call (Call.mk (.value (.func 91)) xs ats), none⟩ :: r)) :: k) .nrm tm S Q = CallK E nt 91 (xs.toList.map (E.ev tm)) d r k tm S Q := e_call d 91 xs ats r rfl
theorem call92 {nt : Nat} {k : List KI} {tm : PM AV} {S : St} {Q : PostA} (d : Option Tmp) (xs : Array Operand) (ats : Array TypeId) (r : List POp) : EndsA E nt (.c (.reg (⟨d, .call (Call.mk (.value (.func 92)) xs ats), none⟩ :: r)) :: k) .nrm tm S Q = CallK E nt 92 (xs.toList.map (E.ev tm)) d r k tm S Q := e_call d 92 xs ats r rfl
theorem call93 {nt : Nat} {k : List KI} {tm : PM AV} {S : St} {Q : PostA} (d : Option Tmp) (xs : Array Operand) (ats : Array TypeId) (r : List POp) : EndsA E nt (.c (.reg (⟨d, .call (Call.mk (.value (.func 93)) xs ats), none⟩ :: r)) :: k) .nrm tm S Q = CallK E nt 93 (xs.toList.map (E.ev tm)) d r k tm S Q := e_call d 93 xs ats r rfl
theorem call94 {nt : Nat} {k : List KI} {tm : PM AV} {S : St} {Q : PostA} (d : Option Tmp) (xs : Array Operand) (ats : Array TypeId) (r : List POp) : EndsA E nt (.c (.reg (⟨d, .call (Call.mk (.value (.func 94)) xs ats), none⟩ :: r)) :: k) .nrm tm S Q = CallK E nt 94 (xs.toList.map (E.ev tm)) d r k tm S Q := e_call d 94 xs ats r rfl
theorem call95 {nt : Nat} {k : List KI} {tm : PM AV} {S : St} {Q : PostA} (d : Option Tmp) (xs : Array Operand) (ats : Array TypeId) (r : List POp) : EndsA E nt (.c (.reg (⟨d, .call (Call.mk (.value (.func 95)) xs ats), none⟩ :: r)) :: k) .nrm tm S Q = CallK E nt 95 (xs.toList.map (E.ev tm)) d r k tm S Q := e_call d 95 xs ats r rfl
theorem call96 {nt : Nat} {k : List KI} {tm : PM AV} {S : St} {Q : PostA} (d : Option Tmp) (xs : Array Operand) (ats : Array TypeId) (r : List POp) : EndsA E nt (.c (.reg (⟨d, .call (Call.mk (.value (.func 96)) xs ats), none⟩ :: r)) :: k) .nrm tm S Q = CallK E nt 96 (xs.toList.map (E.ev tm)) d r k tm S Q := e_call d 96 xs ats r rfl
theorem call97 {nt : Nat} {k : List KI} {tm : PM AV} {S : St} {Q : PostA} (d : Option Tmp) (xs : Array Operand) (ats : Array TypeId) (r : List POp) : EndsA E nt (.c (.reg (⟨d, .call (Call.mk (.value (.func 97)) xs ats), none⟩ :: r)) :: k) .nrm tm S Q = CallK E nt 97 (xs.toList.map (E.ev tm)) d r k tm S Q := e_call d 97 xs ats r rfl
theorem call98 {nt : Nat} {k : List KI} {tm : PM AV} {S : St} {Q : PostA} (d : Option Tmp) (xs : Array Operand) (ats : Array TypeId) (r : List POp) : EndsA E nt (.c (.reg (⟨d, .call (Call.mk (.value (.func 98)) xs ats), none⟩ :: r)) :: k) .nrm tm S Q = CallK E nt 98 (xs.toList.map (E.ev tm)) d r k tm S Q := e_call d 98 xs ats r rfl
theorem call99 {nt : Nat} {k : List KI} {tm : PM AV} {S : St} {Q : PostA} (d : Option Tmp) (xs : Array Operand) (ats : Array TypeId) (r : List POp) : EndsA E nt (.c (.reg (⟨d, .call (Call.mk (.value (.func 99)) xs ats), none⟩ :: r)) :: k) .nrm tm S Q = CallK E nt 99 (xs.toList.map (E.ev tm)) d r k tm S Q := e_call d 99 xs ats r rfl
theorem call100 {nt : Nat} {k : List KI} {tm : PM AV} {S : St} {Q : PostA} (d : Option Tmp) (xs : Array Operand) (ats : Array TypeId) (r : List POp) : EndsA E nt (.c (.reg (⟨d, .call (Call.mk (.value (.func 100)) xs ats), none⟩ :: r)) :: k) .nrm tm S Q = CallK E nt 100 (xs.toList.map (E.ev tm)) d r k tm S Q := e_call d 100 xs ats r rfl
theorem call101 {nt : Nat} {k : List KI} {tm : PM AV} {S : St} {Q : PostA} (d : Option Tmp) (xs : Array Operand) (ats : Array TypeId) (r : List POp) : EndsA E nt (.c (.reg (⟨d, .call (Call.mk (.value (.func 101)) xs ats), none⟩ :: r)) :: k) .nrm tm S Q = CallK E nt 101 (xs.toList.map (E.ev tm)) d r k tm S Q := e_call d 101 xs ats r rfl
theorem call102 {nt : Nat} {k : List KI} {tm : PM AV} {S : St} {Q : PostA} (d : Option Tmp) (xs : Array Operand) (ats : Array TypeId) (r : List POp) : EndsA E nt (.c (.reg (⟨d, .call (Call.mk (.value (.func 102)) xs ats), none⟩ :: r)) :: k) .nrm tm S Q = CallK E nt 102 (xs.toList.map (E.ev tm)) d r k tm S Q := e_call d 102 xs ats r rfl
theorem call103 {nt : Nat} {k : List KI} {tm : PM AV} {S : St} {Q : PostA} (d : Option Tmp) (xs : Array Operand) (ats : Array TypeId) (r : List POp) : EndsA E nt (.c (.reg (⟨d, .call (Call.mk (.value (.func 103)) xs ats), none⟩ :: r)) :: k) .nrm tm S Q = CallK E nt 103 (xs.toList.map (E.ev tm)) d r k tm S Q := e_call d 103 xs ats r rfl
theorem call104 {nt : Nat} {k : List KI} {tm : PM AV} {S : St} {Q : PostA} (d : Option Tmp) (xs : Array Operand) (ats : Array TypeId) (r : List POp) : EndsA E nt (.c (.reg (⟨d, .call (Call.mk (.value (.func 104)) xs ats), none⟩ :: r)) :: k) .nrm tm S Q = CallK E nt 104 (xs.toList.map (E.ev tm)) d r k tm S Q := e_call d 104 xs ats r rfl
theorem call105 {nt : Nat} {k : List KI} {tm : PM AV} {S : St} {Q : PostA} (d : Option Tmp) (xs : Array Operand) (ats : Array TypeId) (r : List POp) : EndsA E nt (.c (.reg (⟨d, .call (Call.mk (.value (.func 105)) xs ats), none⟩ :: r)) :: k) .nrm tm S Q = CallK E nt 105 (xs.toList.map (E.ev tm)) d r k tm S Q := e_call d 105 xs ats r rfl
theorem call106 {nt : Nat} {k : List KI} {tm : PM AV} {S : St} {Q : PostA} (d : Option Tmp) (xs : Array Operand) (ats : Array TypeId) (r : List POp) : EndsA E nt (.c (.reg (⟨d, .call (Call.mk (.value (.func 106)) xs ats), none⟩ :: r)) :: k) .nrm tm S Q = CallK E nt 106 (xs.toList.map (E.ev tm)) d r k tm S Q := e_call d 106 xs ats r rfl
theorem call107 {nt : Nat} {k : List KI} {tm : PM AV} {S : St} {Q : PostA} (d : Option Tmp) (xs : Array Operand) (ats : Array TypeId) (r : List POp) : EndsA E nt (.c (.reg (⟨d, .call (Call.mk (.value (.func 107)) xs ats), none⟩ :: r)) :: k) .nrm tm S Q = CallK E nt 107 (xs.toList.map (E.ev tm)) d r k tm S Q := e_call d 107 xs ats r rfl
theorem call108 {nt : Nat} {k : List KI} {tm : PM AV} {S : St} {Q : PostA} (d : Option Tmp) (xs : Array Operand) (ats : Array TypeId) (r : List POp) : EndsA E nt (.c (.reg (⟨d, .call (Call.mk (.value (.func 108)) xs ats), none⟩ :: r)) :: k) .nrm tm S Q = CallK E nt 108 (xs.toList.map (E.ev tm)) d r k tm S Q := e_call d 108 xs ats r rfl
theorem call109 {nt : Nat} {k : List KI} {tm : PM AV} {S : St} {Q : PostA} (d : Option Tmp) (xs : Array Operand) (ats : Array TypeId) (r : List POp) : EndsA E nt (.c (.reg (⟨d, .call (Call.mk (.value (.func 109)) xs ats), none⟩ :: r)) :: k) .nrm tm S Q = CallK E nt 109 (xs.toList.map (E.ev tm)) d r k tm S Q := e_call d 109 xs ats r rfl
theorem call110 {nt : Nat} {k : List KI} {tm : PM AV} {S : St} {Q : PostA} (d : Option Tmp) (xs : Array Operand) (ats : Array TypeId) (r : List POp) : EndsA E nt (.c (.reg (⟨d, .call (Call.mk (.value (.func 110)) xs ats), none⟩ :: r)) :: k) .nrm tm S Q = CallK E nt 110 (xs.toList.map (E.ev tm)) d r k tm S Q := e_call d 110 xs ats r rfl
theorem call111 {nt : Nat} {k : List KI} {tm : PM AV} {S : St} {Q : PostA} (d : Option Tmp) (xs : Array Operand) (ats : Array TypeId) (r : List POp) : EndsA E nt (.c (.reg (⟨d, .call (Call.mk (.value (.func 111)) xs ats), none⟩ :: r)) :: k) .nrm tm S Q = CallK E nt 111 (xs.toList.map (E.ev tm)) d r k tm S Q := e_call d 111 xs ats r rfl
theorem call112 {nt : Nat} {k : List KI} {tm : PM AV} {S : St} {Q : PostA} (d : Option Tmp) (xs : Array Operand) (ats : Array TypeId) (r : List POp) : EndsA E nt (.c (.reg (⟨d, .call (Call.mk (.value (.func 112)) xs ats), none⟩ :: r)) :: k) .nrm tm S Q = CallK E nt 112 (xs.toList.map (E.ev tm)) d r k tm S Q := e_call d 112 xs ats r rfl
theorem call113 {nt : Nat} {k : List KI} {tm : PM AV} {S : St} {Q : PostA} (d : Option Tmp) (xs : Array Operand) (ats : Array TypeId) (r : List POp) : EndsA E nt (.c (.reg (⟨d, .call (Call.mk (.value (.func 113)) xs ats), none⟩ :: r)) :: k) .nrm tm S Q = CallK E nt 113 (xs.toList.map (E.ev tm)) d r k tm S Q := e_call d 113 xs ats r rfl
theorem call114 {nt : Nat} {k : List KI} {tm : PM AV} {S : St} {Q : PostA} (d : Option Tmp) (xs : Array Operand) (ats : Array TypeId) (r : List POp) : EndsA E nt (.c (.reg (⟨d, .call (Call.mk (.value (.func 114)) xs ats), none⟩ :: r)) :: k) .nrm tm S Q = CallK E nt 114 (xs.toList.map (E.ev tm)) d r k tm S Q := e_call d 114 xs ats r rfl
theorem call115 {nt : Nat} {k : List KI} {tm : PM AV} {S : St} {Q : PostA} (d : Option Tmp) (xs : Array Operand) (ats : Array TypeId) (r : List POp) : EndsA E nt (.c (.reg (⟨d, .call (Call.mk (.value (.func 115)) xs ats), none⟩ :: r)) :: k) .nrm tm S Q = CallK E nt 115 (xs.toList.map (E.ev tm)) d r k tm S Q := e_call d 115 xs ats r rfl
theorem call116 {nt : Nat} {k : List KI} {tm : PM AV} {S : St} {Q : PostA} (d : Option Tmp) (xs : Array Operand) (ats : Array TypeId) (r : List POp) : EndsA E nt (.c (.reg (⟨d, .call (Call.mk (.value (.func 116)) xs ats), none⟩ :: r)) :: k) .nrm tm S Q = CallK E nt 116 (xs.toList.map (E.ev tm)) d r k tm S Q := e_call d 116 xs ats r rfl
theorem call117 {nt : Nat} {k : List KI} {tm : PM AV} {S : St} {Q : PostA} (d : Option Tmp) (xs : Array Operand) (ats : Array TypeId) (r : List POp) : EndsA E nt (.c (.reg (⟨d, .call (Call.mk (.value (.func 117)) xs ats), none⟩ :: r)) :: k) .nrm tm S Q = CallK E nt 117 (xs.toList.map (E.ev tm)) d r k tm S Q := e_call d 117 xs ats r rfl
theorem call118 {nt : Nat} {k : List KI} {tm : PM AV} {S : St} {Q : PostA} (d : Option Tmp) (xs : Array Operand) (ats : Array TypeId) (r : List POp) : EndsA E nt (.c (.reg (⟨d, .call (Call.mk (.value (.func 118)) xs ats), none⟩ :: r)) :: k) .nrm tm S Q = CallK E nt 118 (xs.toList.map (E.ev tm)) d r k tm S Q := e_call d 118 xs ats r rfl
theorem call119 {nt : Nat} {k : List KI} {tm : PM AV} {S : St} {Q : PostA} (d : Option Tmp) (xs : Array Operand) (ats : Array TypeId) (r : List POp) : EndsA E nt (.c (.reg (⟨d, .call (Call.mk (.value (.func 119)) xs ats), none⟩ :: r)) :: k) .nrm tm S Q = CallK E nt 119 (xs.toList.map (E.ev tm)) d r k tm S Q := e_call d 119 xs ats r rfl
theorem call120 {nt : Nat} {k : List KI} {tm : PM AV} {S : St} {Q : PostA} (d : Option Tmp) (xs : Array Operand) (ats : Array TypeId) (r : List POp) : EndsA E nt (.c (.reg (⟨d, .call (Call.mk (.value (.func 120)) xs ats), none⟩ :: r)) :: k) .nrm tm S Q = CallK E nt 120 (xs.toList.map (E.ev tm)) d r k tm S Q := e_call d 120 xs ats r rfl
theorem call121 {nt : Nat} {k : List KI} {tm : PM AV} {S : St} {Q : PostA} (d : Option Tmp) (xs : Array Operand) (ats : Array TypeId) (r : List POp) : EndsA E nt (.c (.reg (⟨d, .call (Call.mk (.value (.func 121)) xs ats), none⟩ :: r)) :: k) .nrm tm S Q = CallK E nt 121 (xs.toList.map (E.ev tm)) d r k tm S Q := e_call d 121 xs ats r rfl
theorem call122 {nt : Nat} {k : List KI} {tm : PM AV} {S : St} {Q : PostA} (d : Option Tmp) (xs : Array Operand) (ats : Array TypeId) (r : List POp) : EndsA E nt (.c (.reg (⟨d, .call (Call.mk (.value (.func 122)) xs ats), none⟩ :: r)) :: k) .nrm tm S Q = CallK E nt 122 (xs.toList.map (E.ev tm)) d r k tm S Q := e_call d 122 xs ats r rfl
theorem call123 {nt : Nat} {k : List KI} {tm : PM AV} {S : St} {Q : PostA} (d : Option Tmp) (xs : Array Operand) (ats : Array TypeId) (r : List POp) : EndsA E nt (.c (.reg (⟨d, .call (Call.mk (.value (.func 123)) xs ats), none⟩ :: r)) :: k) .nrm tm S Q = CallK E nt 123 (xs.toList.map (E.ev tm)) d r k tm S Q := e_call d 123 xs ats r rfl
theorem call124 {nt : Nat} {k : List KI} {tm : PM AV} {S : St} {Q : PostA} (d : Option Tmp) (xs : Array Operand) (ats : Array TypeId) (r : List POp) : EndsA E nt (.c (.reg (⟨d, .call (Call.mk (.value (.func 124)) xs ats), none⟩ :: r)) :: k) .nrm tm S Q = CallK E nt 124 (xs.toList.map (E.ev tm)) d r k tm S Q := e_call d 124 xs ats r rfl
theorem call125 {nt : Nat} {k : List KI} {tm : PM AV} {S : St} {Q : PostA} (d : Option Tmp) (xs : Array Operand) (ats : Array TypeId) (r : List POp) : EndsA E nt (.c (.reg (⟨d, .call (Call.mk (.value (.func 125)) xs ats), none⟩ :: r)) :: k) .nrm tm S Q = CallK E nt 125 (xs.toList.map (E.ev tm)) d r k tm S Q := e_call d 125 xs ats r rfl
theorem call126 {nt : Nat} {k : List KI} {tm : PM AV} {S : St} {Q : PostA} (d : Option Tmp) (xs : Array Operand) (ats : Array TypeId) (r : List POp) : EndsA E nt (.c (.reg (⟨d, .call (Call.mk (.value (.func 126)) xs ats), none⟩ :: r)) :: k) .nrm tm S Q = CallK E nt 126 (xs.toList.map (E.ev tm)) d r k tm S Q := e_call d 126 xs ats r rfl
theorem call127 {nt : Nat} {k : List KI} {tm : PM AV} {S : St} {Q : PostA} (d : Option Tmp) (xs : Array Operand) (ats : Array TypeId) (r : List POp) : EndsA E nt (.c (.reg (⟨d, .call (Call.mk (.value (.func 127)) xs ats), none⟩ :: r)) :: k) .nrm tm S Q = CallK E nt 127 (xs.toList.map (E.ev tm)) d r k tm S Q := e_call d 127 xs ats r rfl
theorem call128 {nt : Nat} {k : List KI} {tm : PM AV} {S : St} {Q : PostA} (d : Option Tmp) (xs : Array Operand) (ats : Array TypeId) (r : List POp) : EndsA E nt (.c (.reg (⟨d, .call (Call.mk (.value (.func 128)) xs ats), none⟩ :: r)) :: k) .nrm tm S Q = CallK E nt 128 (xs.toList.map (E.ev tm)) d r k tm S Q := e_call d 128 xs ats r rfl
theorem call129 {nt : Nat} {k : List KI} {tm : PM AV} {S : St} {Q : PostA} (d : Option Tmp) (xs : Array Operand) (ats : Array TypeId) (r : List POp) : EndsA E nt (.c (.reg (⟨d, .call (Call.mk (.value (.func 129)) xs ats), none⟩ :: r)) :: k) .nrm tm S Q = CallK E nt 129 (xs.toList.map (E.ev tm)) d r k tm S Q := e_call d 129 xs ats r rfl
theorem call130 {nt : Nat} {k : List KI} {tm : PM AV} {S : St} {Q : PostA} (d : Option Tmp) (xs : Array Operand) (ats : Array TypeId) (r : List POp) : EndsA E nt (.c (.reg (⟨d, .call (Call.mk (.value (.func 130)) xs ats), none⟩ :: r)) :: k) .nrm tm S Q = CallK E nt 130 (xs.toList.map (E.ev tm)) d r k tm S Q := e_call d 130 xs ats r rfl
theorem call131 {nt : Nat} {k : List KI} {tm : PM AV} {S : St} {Q : PostA} (d : Option Tmp) (xs : Array Operand) (ats : Array TypeId) (r : List POp) : EndsA E nt (.c (.reg (⟨d, .call (Call.mk (.value (.func 131)) xs ats), none⟩ :: r)) :: k) .nrm tm S Q = CallK E nt 131 (xs.toList.map (E.ev tm)) d r k tm S Q := e_call d 131 xs ats r rfl
theorem call132 {nt : Nat} {k : List KI} {tm : PM AV} {S : St} {Q : PostA} (d : Option Tmp) (xs : Array Operand) (ats : Array TypeId) (r : List POp) : EndsA E nt (.c (.reg (⟨d, .call (Call.mk (.value (.func 132)) xs ats), none⟩ :: r)) :: k) .nrm tm S Q = CallK E nt 132 (xs.toList.map (E.ev tm)) d r k tm S Q := e_call d 132 xs ats r rfl
theorem call133 {nt : Nat} {k : List KI} {tm : PM AV} {S : St} {Q : PostA} (d : Option Tmp) (xs : Array Operand) (ats : Array TypeId) (r : List POp) : EndsA E nt (.c (.reg (⟨d, .call (Call.mk (.value (.func 133)) xs ats), none⟩ :: r)) :: k) .nrm tm S Q = CallK E nt 133 (xs.toList.map (E.ev tm)) d r k tm S Q := e_call d 133 xs ats r rfl
theorem call134 {nt : Nat} {k : List KI} {tm : PM AV} {S : St} {Q : PostA} (d : Option Tmp) (xs : Array Operand) (ats : Array TypeId) (r : List POp) : EndsA E nt (.c (.reg (⟨d, .call (Call.mk (.value (.func 134)) xs ats), none⟩ :: r)) :: k) .nrm tm S Q = CallK E nt 134 (xs.toList.map (E.ev tm)) d r k tm S Q := e_call d 134 xs ats r rfl
theorem call135 {nt : Nat} {k : List KI} {tm : PM AV} {S : St} {Q : PostA} (d : Option Tmp) (xs : Array Operand) (ats : Array TypeId) (r : List POp) : EndsA E nt (.c (.reg (⟨d, .call (Call.mk (.value (.func 135)) xs ats), none⟩ :: r)) :: k) .nrm tm S Q = CallK E nt 135 (xs.toList.map (E.ev tm)) d r k tm S Q := e_call d 135 xs ats r rfl
theorem call136 {nt : Nat} {k : List KI} {tm : PM AV} {S : St} {Q : PostA} (d : Option Tmp) (xs : Array Operand) (ats : Array TypeId) (r : List POp) : EndsA E nt (.c (.reg (⟨d, .call (Call.mk (.value (.func 136)) xs ats), none⟩ :: r)) :: k) .nrm tm S Q = CallK E nt 136 (xs.toList.map (E.ev tm)) d r k tm S Q := e_call d 136 xs ats r rfl
theorem call137 {nt : Nat} {k : List KI} {tm : PM AV} {S : St} {Q : PostA} (d : Option Tmp) (xs : Array Operand) (ats : Array TypeId) (r : List POp) : EndsA E nt (.c (.reg (⟨d, .call (Call.mk (.value (.func 137)) xs ats), none⟩ :: r)) :: k) .nrm tm S Q = CallK E nt 137 (xs.toList.map (E.ev tm)) d r k tm S Q := e_call d 137 xs ats r rfl
theorem call138 {nt : Nat} {k : List KI} {tm : PM AV} {S : St} {Q : PostA} (d : Option Tmp) (xs : Array Operand) (ats : Array TypeId) (r : List POp) : EndsA E nt (.c (.reg (⟨d, .call (Call.mk (.value (.func 138)) xs ats), none⟩ :: r)) :: k) .nrm tm S Q = CallK E nt 138 (xs.toList.map (E.ev tm)) d r k tm S Q := e_call d 138 xs ats r rfl
theorem call139 {nt : Nat} {k : List KI} {tm : PM AV} {S : St} {Q : PostA} (d : Option Tmp) (xs : Array Operand) (ats : Array TypeId) (r : List POp) : EndsA E nt (.c (.reg (⟨d, .call (Call.mk (.value (.func 139)) xs ats), none⟩ :: r)) :: k) .nrm tm S Q = CallK E nt 139 (xs.toList.map (E.ev tm)) d r k tm S Q := e_call d 139 xs ats r rfl
theorem call140 {nt : Nat} {k : List KI} {tm : PM AV} {S : St} {Q : PostA} (d : Option Tmp) (xs : Array Operand) (ats : Array TypeId) (r : List POp) : EndsA E nt (.c (.reg (⟨d, .call (Call.mk (.value (.func 140)) xs ats), none⟩ :: r)) :: k) .nrm tm S Q = CallK E nt 140 (xs.toList.map (E.ev tm)) d r k tm S Q := e_call d 140 xs ats r rfl
theorem call141 {nt : Nat} {k : List KI} {tm : PM AV} {S : St} {Q : PostA} (d : Option Tmp) (xs : Array Operand) (ats : Array TypeId) (r : List POp) : EndsA E nt (.c (.reg (⟨d, .call (Call.mk (.value (.func 141)) xs ats), none⟩ :: r)) :: k) .nrm tm S Q = CallK E nt 141 (xs.toList.map (E.ev tm)) d r k tm S Q := e_call d 141 xs ats r rfl
theorem call142 {nt : Nat} {k : List KI} {tm : PM AV} {S : St} {Q : PostA} (d : Option Tmp) (xs : Array Operand) (ats : Array TypeId) (r : List POp) : EndsA E nt (.c (.reg (⟨d, .call (Call.mk (.value (.func 142)) xs ats), none⟩ :: r)) :: k) .nrm tm S Q = CallK E nt 142 (xs.toList.map (E.ev tm)) d r k tm S Q := e_call d 142 xs ats r rfl
theorem call143 {nt : Nat} {k : List KI} {tm : PM AV} {S : St} {Q : PostA} (d : Option Tmp) (xs : Array Operand) (ats : Array TypeId) (r : List POp) : EndsA E nt (.c (.reg (⟨d, .call (Call.mk (.value (.func 143)) xs ats), none⟩ :: r)) :: k) .nrm tm S Q = CallK E nt 143 (xs.toList.map (E.ev tm)) d r k tm S Q := e_call d 143 xs ats r rfl
theorem call144 {nt : Nat} {k : List KI} {tm : PM AV} {S : St} {Q : PostA} (d : Option Tmp) (xs : Array Operand) (ats : Array TypeId) (r : List POp) : EndsA E nt (.c (.reg (⟨d, .call (Call.mk (.value (.func 144)) xs ats), none⟩ :: r)) :: k) .nrm tm S Q = CallK E nt 144 (xs.toList.map (E.ev tm)) d r k tm S Q := e_call d 144 xs ats r rfl
theorem call145 {nt : Nat} {k : List KI} {tm : PM AV} {S : St} {Q : PostA} (d : Option Tmp) (xs : Array Operand) (ats : Array TypeId) (r : List POp) : EndsA E nt (.c (.reg (⟨d, .call (Call.mk (.value (.func 145)) xs ats), none⟩ :: r)) :: k) .nrm tm S Q = CallK E nt 145 (xs.toList.map (E.ev tm)) d r k tm S Q := e_call d 145 xs ats r rfl
theorem call146 {nt : Nat} {k : List KI} {tm : PM AV} {S : St} {Q : PostA} (d : Option Tmp) (xs : Array Operand) (ats : Array TypeId) (r : List POp) : EndsA E nt (.c (.reg (⟨d, .call (Call.mk (.value (.func 146)) xs ats), none⟩ :: r)) :: k) .nrm tm S Q = CallK E nt 146 (xs.toList.map (E.ev tm)) d r k tm S Q := e_call d 146 xs ats r rfl
theorem call147 {nt : Nat} {k : List KI} {tm : PM AV} {S : St} {Q : PostA} (d : Option Tmp) (xs : Array Operand) (ats : Array TypeId) (r : List POp) : EndsA E nt (.c (.reg (⟨d, .call (Call.mk (.value (.func 147)) xs ats), none⟩ :: r)) :: k) .nrm tm S Q = CallK E nt 147 (xs.toList.map (E.ev tm)) d r k tm S Q := e_call d 147 xs ats r rfl
theorem call148 {nt : Nat} {k : List KI} {tm : PM AV} {S : St} {Q : PostA} (d : Option Tmp) (xs : Array Operand) (ats : Array TypeId) (r : List POp) : EndsA E nt (.c (.reg (⟨d, .call (Call.mk (.value (.func 148)) xs ats), none⟩ :: r)) :: k) .nrm tm S Q = CallK E nt 148 (xs.toList.map (E.ev tm)) d r k tm S Q := e_call d 148 xs ats r rfl
theorem call149 {nt : Nat} {k : List KI} {tm : PM AV} {S : St} {Q : PostA} (d : Option Tmp) (xs : Array Operand) (ats : Array TypeId) (r : List POp) : EndsA E nt (.c (.reg (⟨d, .call (Call.mk (.value (.func 149)) xs ats), none⟩ :: r)) :: k) .nrm tm S Q = CallK E nt 149 (xs.toList.map (E.ev tm)) d r k tm S Q := e_call d 149 xs ats r rfl
theorem call150 {nt : Nat} {k : List KI} {tm : PM AV} {S : St} {Q : PostA} (d : Option Tmp) (xs : Array Operand) (ats : Array TypeId) (r : List POp) : EndsA E nt (.c (.reg (⟨d, .call (Call.mk (.value (.func 150)) xs ats), none⟩ :: r)) :: k) .nrm tm S Q = CallK E nt 150 (xs.toList.map (E.ev tm)) d r k tm S Q := e_call d 150 xs ats r rfl
theorem call151 {nt : Nat} {k : List KI} {tm : PM AV} {S : St} {Q : PostA} (d : Option Tmp) (xs : Array Operand) (ats : Array TypeId) (r : List POp) : EndsA E nt (.c (.reg (⟨d, .call (Call.mk (.value (.func 151)) xs ats), none⟩ :: r)) :: k) .nrm tm S Q = CallK E nt 151 (xs.toList.map (E.ev tm)) d r k tm S Q := e_call d 151 xs ats r rfl
theorem call152 {nt : Nat} {k : List KI} {tm : PM AV} {S : St} {Q : PostA} (d : Option Tmp) (xs : Array Operand) (ats : Array TypeId) (r : List POp) : EndsA E nt (.c (.reg (⟨d, .call (Call.mk (.value (.func 152)) xs ats), none⟩ :: r)) :: k) .nrm tm S Q = CallK E nt 152 (xs.toList.map (E.ev tm)) d r k tm S Q := e_call d 152 xs ats r rfl
theorem call153 {nt : Nat} {k : List KI} {tm : PM AV} {S : St} {Q : PostA} (d : Option Tmp) (xs : Array Operand) (ats : Array TypeId) (r : List POp) : EndsA E nt (.c (.reg (⟨d, .call (Call.mk (.value (.func 153)) xs ats), none⟩ :: r)) :: k) .nrm tm S Q = CallK E nt 153 (xs.toList.map (E.ev tm)) d r k tm S Q := e_call d 153 xs ats r rfl
theorem call154 {nt : Nat} {k : List KI} {tm : PM AV} {S : St} {Q : PostA} (d : Option Tmp) (xs : Array Operand) (ats : Array TypeId) (r : List POp) : EndsA E nt (.c (.reg (⟨d, .call (Call.mk (.value (.func 154)) xs ats), none⟩ :: r)) :: k) .nrm tm S Q = CallK E nt 154 (xs.toList.map (E.ev tm)) d r k tm S Q := e_call d 154 xs ats r rfl
theorem call155 {nt : Nat} {k : List KI} {tm : PM AV} {S : St} {Q : PostA} (d : Option Tmp) (xs : Array Operand) (ats : Array TypeId) (r : List POp) : EndsA E nt (.c (.reg (⟨d, .call (Call.mk (.value (.func 155)) xs ats), none⟩ :: r)) :: k) .nrm tm S Q = CallK E nt 155 (xs.toList.map (E.ev tm)) d r k tm S Q := e_call d 155 xs ats r rfl
theorem call156 {nt : Nat} {k : List KI} {tm : PM AV} {S : St} {Q : PostA} (d : Option Tmp) (xs : Array Operand) (ats : Array TypeId) (r : List POp) : EndsA E nt (.c (.reg (⟨d, .call (Call.mk (.value (.func 156)) xs ats), none⟩ :: r)) :: k) .nrm tm S Q = CallK E nt 156 (xs.toList.map (E.ev tm)) d r k tm S Q := e_call d 156 xs ats r rfl
theorem call157 {nt : Nat} {k : List KI} {tm : PM AV} {S : St} {Q : PostA} (d : Option Tmp) (xs : Array Operand) (ats : Array TypeId) (r : List POp) : EndsA E nt (.c (.reg (⟨d, .call (Call.mk (.value (.func 157)) xs ats), none⟩ :: r)) :: k) .nrm tm S Q = CallK E nt 157 (xs.toList.map (E.ev tm)) d r k tm S Q := e_call d 157 xs ats r rfl
theorem call158 {nt : Nat} {k : List KI} {tm : PM AV} {S : St} {Q : PostA} (d : Option Tmp) (xs : Array Operand) (ats : Array TypeId) (r : List POp) : EndsA E nt (.c (.reg (⟨d, .call (Call.mk (.value (.func 158)) xs ats), none⟩ :: r)) :: k) .nrm tm S Q = CallK E nt 158 (xs.toList.map (E.ev tm)) d r k tm S Q := e_call d 158 xs ats r rfl
theorem call159 {nt : Nat} {k : List KI} {tm : PM AV} {S : St} {Q : PostA} (d : Option Tmp) (xs : Array Operand) (ats : Array TypeId) (r : List POp) : EndsA E nt (.c (.reg (⟨d, .call (Call.mk (.value (.func 159)) xs ats), none⟩ :: r)) :: k) .nrm tm S Q = CallK E nt 159 (xs.toList.map (E.ev tm)) d r k tm S Q := e_call d 159 xs ats r rfl
theorem call160 {nt : Nat} {k : List KI} {tm : PM AV} {S : St} {Q : PostA} (d : Option Tmp) (xs : Array Operand) (ats : Array TypeId) (r : List POp) : EndsA E nt (.c (.reg (⟨d, .call (Call.mk (.value (.func 160)) xs ats), none⟩ :: r)) :: k) .nrm tm S Q = CallK E nt 160 (xs.toList.map (E.ev tm)) d r k tm S Q := e_call d 160 xs ats r rfl
theorem call161 {nt : Nat} {k : List KI} {tm : PM AV} {S : St} {Q : PostA} (d : Option Tmp) (xs : Array Operand) (ats : Array TypeId) (r : List POp) : EndsA E nt (.c (.reg (⟨d, .call (Call.mk (.value (.func 161)) xs ats), none⟩ :: r)) :: k) .nrm tm S Q = CallK E nt 161 (xs.toList.map (E.ev tm)) d r k tm S Q := e_call d 161 xs ats r rfl
theorem call162 {nt : Nat} {k : List KI} {tm : PM AV} {S : St} {Q : PostA} (d : Option Tmp) (xs : Array Operand) (ats : Array TypeId) (r : List POp) : EndsA E nt (.c (.reg (⟨d, .call (Call.mk (.value (.func 162)) xs ats), none⟩ :: r)) :: k) .nrm tm S Q = CallK E nt 162 (xs.toList.map (E.ev tm)) d r k tm S Q := e_call d 162 xs ats r rfl
theorem call163 {nt : Nat} {k : List KI} {tm : PM AV} {S : St} {Q : PostA} (d : Option Tmp) (xs : Array Operand) (ats : Array TypeId) (r : List POp) : EndsA E nt (.c (.reg (⟨d, .call (Call.mk (.value (.func 163)) xs ats), none⟩ :: r)) :: k) .nrm tm S Q = CallK E nt 163 (xs.toList.map (E.ev tm)) d r k tm S Q := e_call d 163 xs ats r rfl
theorem call164 {nt : Nat} {k : List KI} {tm : PM AV} {S : St} {Q : PostA} (d : Option Tmp) (xs : Array Operand) (ats : Array TypeId) (r : List POp) : EndsA E nt (.c (.reg (⟨d, .call (Call.mk (.value (.func 164)) xs ats), none⟩ :: r)) :: k) .nrm tm S Q = CallK E nt 164 (xs.toList.map (E.ev tm)) d r k tm S Q := e_call d 164 xs ats r rfl
theorem call165 {nt : Nat} {k : List KI} {tm : PM AV} {S : St} {Q : PostA} (d : Option Tmp) (xs : Array Operand) (ats : Array TypeId) (r : List POp) : EndsA E nt (.c (.reg (⟨d, .call (Call.mk (.value (.func 165)) xs ats), none⟩ :: r)) :: k) .nrm tm S Q = CallK E nt 165 (xs.toList.map (E.ev tm)) d r k tm S Q := e_call d 165 xs ats r rfl
theorem call166 {nt : Nat} {k : List KI} {tm : PM AV} {S : St} {Q : PostA} (d : Option Tmp) (xs : Array Operand) (ats : Array TypeId) (r : List POp) : EndsA E nt (.c (.reg (⟨d, .call (Call.mk (.value (.func 166)) xs ats), none⟩ :: r)) :: k) .nrm tm S Q = CallK E nt 166 (xs.toList.map (E.ev tm)) d r k tm S Q := e_call d 166 xs ats r rfl
theorem call167 {nt : Nat} {k : List KI} {tm : PM AV} {S : St} {Q : PostA} (d : Option Tmp) (xs : Array Operand) (ats : Array TypeId) (r : List POp) : EndsA E nt (.c (.reg (⟨d, .call (Call.mk (.value (.func 167)) xs ats), none⟩ :: r)) :: k) .nrm tm S Q = CallK E nt 167 (xs.toList.map (E.ev tm)) d r k tm S Q := e_call d 167 xs ats r rfl
theorem call168 {nt : Nat} {k : List KI} {tm : PM AV} {S : St} {Q : PostA} (d : Option Tmp) (xs : Array Operand) (ats : Array TypeId) (r : List POp) : EndsA E nt (.c (.reg (⟨d, .call (Call.mk (.value (.func 168)) xs ats), none⟩ :: r)) :: k) .nrm tm S Q = CallK E nt 168 (xs.toList.map (E.ev tm)) d r k tm S Q := e_call d 168 xs ats r rfl
theorem call169 {nt : Nat} {k : List KI} {tm : PM AV} {S : St} {Q : PostA} (d : Option Tmp) (xs : Array Operand) (ats : Array TypeId) (r : List POp) : EndsA E nt (.c (.reg (⟨d, .call (Call.mk (.value (.func 169)) xs ats), none⟩ :: r)) :: k) .nrm tm S Q = CallK E nt 169 (xs.toList.map (E.ev tm)) d r k tm S Q := e_call d 169 xs ats r rfl
theorem call170 {nt : Nat} {k : List KI} {tm : PM AV} {S : St} {Q : PostA} (d : Option Tmp) (xs : Array Operand) (ats : Array TypeId) (r : List POp) : EndsA E nt (.c (.reg (⟨d, .call (Call.mk (.value (.func 170)) xs ats), none⟩ :: r)) :: k) .nrm tm S Q = CallK E nt 170 (xs.toList.map (E.ev tm)) d r k tm S Q := e_call d 170 xs ats r rfl
theorem call171 {nt : Nat} {k : List KI} {tm : PM AV} {S : St} {Q : PostA} (d : Option Tmp) (xs : Array Operand) (ats : Array TypeId) (r : List POp) : EndsA E nt (.c (.reg (⟨d, .call (Call.mk (.value (.func 171)) xs ats), none⟩ :: r)) :: k) .nrm tm S Q = CallK E nt 171 (xs.toList.map (E.ev tm)) d r k tm S Q := e_call d 171 xs ats r rfl
theorem call172 {nt : Nat} {k : List KI} {tm : PM AV} {S : St} {Q : PostA} (d : Option Tmp) (xs : Array Operand) (ats : Array TypeId) (r : List POp) : EndsA E nt (.c (.reg (⟨d, .call (Call.mk (.value (.func 172)) xs ats), none⟩ :: r)) :: k) .nrm tm S Q = CallK E nt 172 (xs.toList.map (E.ev tm)) d r k tm S Q := e_call d 172 xs ats r rfl
theorem call173 {nt : Nat} {k : List KI} {tm : PM AV} {S : St} {Q : PostA} (d : Option Tmp) (xs : Array Operand) (ats : Array TypeId) (r : List POp) : EndsA E nt (.c (.reg (⟨d, .call (Call.mk (.value (.func 173)) xs ats), none⟩ :: r)) :: k) .nrm tm S Q = CallK E nt 173 (xs.toList.map (E.ev tm)) d r k tm S Q := e_call d 173 xs ats r rfl
theorem call174 {nt : Nat} {k : List KI} {tm : PM AV} {S : St} {Q : PostA} (d : Option Tmp) (xs : Array Operand) (ats : Array TypeId) (r : List POp) : EndsA E nt (.c (.reg (⟨d, .call (Call.mk (.value (.func 174)) xs ats), none⟩ :: r)) :: k) .nrm tm S Q = CallK E nt 174 (xs.toList.map (E.ev tm)) d r k tm S Q := e_call d 174 xs ats r rfl
theorem call175 {nt : Nat} {k : List KI} {tm : PM AV} {S : St} {Q : PostA} (d : Option Tmp) (xs : Array Operand) (ats : Array TypeId) (r : List POp) : EndsA E nt (.c (.reg (⟨d, .call (Call.mk (.value (.func 175)) xs ats), none⟩ :: r)) :: k) .nrm tm S Q = CallK E nt 175 (xs.toList.map (E.ev tm)) d r k tm S Q := e_call d 175 xs ats r rfl
theorem call176 {nt : Nat} {k : List KI} {tm : PM AV} {S : St} {Q : PostA} (d : Option Tmp) (xs : Array Operand) (ats : Array TypeId) (r : List POp) : EndsA E nt (.c (.reg (⟨d, .call (Call.mk (.value (.func 176)) xs ats), none⟩ :: r)) :: k) .nrm tm S Q = CallK E nt 176 (xs.toList.map (E.ev tm)) d r k tm S Q := e_call d 176 xs ats r rfl
theorem call177 {nt : Nat} {k : List KI} {tm : PM AV} {S : St} {Q : PostA} (d : Option Tmp) (xs : Array Operand) (ats : Array TypeId) (r : List POp) : EndsA E nt (.c (.reg (⟨d, .call (Call.mk (.value (.func 177)) xs ats), none⟩ :: r)) :: k) .nrm tm S Q = CallK E nt 177 (xs.toList.map (E.ev tm)) d r k tm S Q := e_call d 177 xs ats r rfl
theorem call178 {nt : Nat} {k : List KI} {tm : PM AV} {S : St} {Q : PostA} (d : Option Tmp) (xs : Array Operand) (ats : Array TypeId) (r : List POp) : EndsA E nt (.c (.reg (⟨d, .call (Call.mk (.value (.func 178)) xs ats), none⟩ :: r)) :: k) .nrm tm S Q = CallK E nt 178 (xs.toList.map (E.ev tm)) d r k tm S Q := e_call d 178 xs ats r rfl
theorem call179 {nt : Nat} {k : List KI} {tm : PM AV} {S : St} {Q : PostA} (d : Option Tmp) (xs : Array Operand) (ats : Array TypeId) (r : List POp) : EndsA E nt (.c (.reg (⟨d, .call (Call.mk (.value (.func 179)) xs ats), none⟩ :: r)) :: k) .nrm tm S Q = CallK E nt 179 (xs.toList.map (E.ev tm)) d r k tm S Q := e_call d 179 xs ats r rfl
theorem call180 {nt : Nat} {k : List KI} {tm : PM AV} {S : St} {Q : PostA} (d : Option Tmp) (xs : Array Operand) (ats : Array TypeId) (r : List POp) : EndsA E nt (.c (.reg (⟨d, .call (Call.mk (.value (.func 180)) xs ats), none⟩ :: r)) :: k) .nrm tm S Q = CallK E nt 180 (xs.toList.map (E.ev tm)) d r k tm S Q := e_call d 180 xs ats r rfl
theorem call181 {nt : Nat} {k : List KI} {tm : PM AV} {S : St} {Q : PostA} (d : Option Tmp) (xs : Array Operand) (ats : Array TypeId) (r : List POp) : EndsA E nt (.c (.reg (⟨d, .call (Call.mk (.value (.func 181)) xs ats), none⟩ :: r)) :: k) .nrm tm S Q = CallK E nt 181 (xs.toList.map (E.ev tm)) d r k tm S Q := e_call d 181 xs ats r rfl
theorem call182 {nt : Nat} {k : List KI} {tm : PM AV} {S : St} {Q : PostA} (d : Option Tmp) (xs : Array Operand) (ats : Array TypeId) (r : List POp) : EndsA E nt (.c (.reg (⟨d, .call (Call.mk (.value (.func 182)) xs ats), none⟩ :: r)) :: k) .nrm tm S Q = CallK E nt 182 (xs.toList.map (E.ev tm)) d r k tm S Q := e_call d 182 xs ats r rfl
theorem call183 {nt : Nat} {k : List KI} {tm : PM AV} {S : St} {Q : PostA} (d : Option Tmp) (xs : Array Operand) (ats : Array TypeId) (r : List POp) : EndsA E nt (.c (.reg (⟨d, .call (Call.mk (.value (.func 183)) xs ats), none⟩ :: r)) :: k) .nrm tm S Q = CallK E nt 183 (xs.toList.map (E.ev tm)) d r k tm S Q := e_call d 183 xs ats r rfl
theorem call184 {nt : Nat} {k : List KI} {tm : PM AV} {S : St} {Q : PostA} (d : Option Tmp) (xs : Array Operand) (ats : Array TypeId) (r : List POp) : EndsA E nt (.c (.reg (⟨d, .call (Call.mk (.value (.func 184)) xs ats), none⟩ :: r)) :: k) .nrm tm S Q = CallK E nt 184 (xs.toList.map (E.ev tm)) d r k tm S Q := e_call d 184 xs ats r rfl
theorem call185 {nt : Nat} {k : List KI} {tm : PM AV} {S : St} {Q : PostA} (d : Option Tmp) (xs : Array Operand) (ats : Array TypeId) (r : List POp) : EndsA E nt (.c (.reg (⟨d, .call (Call.mk (.value (.func 185)) xs ats), none⟩ :: r)) :: k) .nrm tm S Q = CallK E nt 185 (xs.toList.map (E.ev tm)) d r k tm S Q := e_call d 185 xs ats r rfl
theorem call186 {nt : Nat} {k : List KI} {tm : PM AV} {S : St} {Q : PostA} (d : Option Tmp) (xs : Array Operand) (ats : Array TypeId) (r : List POp) : EndsA E nt (.c (.reg (⟨d, .call (Call.mk (.value (.func 186)) xs ats), none⟩ :: r)) :: k) .nrm tm S Q = CallK E nt 186 (xs.toList.map (E.ev tm)) d r k tm S Q := e_call d 186 xs ats r rfl
theorem call187 {nt : Nat} {k : List KI} {tm : PM AV} {S : St} {Q : PostA} (d : Option Tmp) (xs : Array Operand) (ats : Array TypeId) (r : List POp) : EndsA E nt (.c (.reg (⟨d, .call (Call.mk (.value (.func 187)) xs ats), none⟩ :: r)) :: k) .nrm tm S Q = CallK E nt 187 (xs.toList.map (E.ev tm)) d r k tm S Q := e_call d 187 xs ats r rfl
theorem call188 {nt : Nat} {k : List KI} {tm : PM AV} {S : St} {Q : PostA} (d : Option Tmp) (xs : Array Operand) (ats : Array TypeId) (r : List POp) : EndsA E nt (.c (.reg (⟨d, .call (Call.mk (.value (.func 188)) xs ats), none⟩ :: r)) :: k) .nrm tm S Q = CallK E nt 188 (xs.toList.map (E.ev tm)) d r k tm S Q := e_call d 188 xs ats r rfl
theorem call189 {nt : Nat} {k : List KI} {tm : PM AV} {S : St} {Q : PostA} (d : Option Tmp) (xs : Array Operand) (ats : Array TypeId) (r : List POp) : EndsA E nt (.c (.reg (⟨d, .call (Call.mk (.value (.func 189)) xs ats), none⟩ :: r)) :: k) .nrm tm S Q = CallK E nt 189 (xs.toList.map (E.ev tm)) d r k tm S Q := e_call d 189 xs ats r rfl
theorem call190 {nt : Nat} {k : List KI} {tm : PM AV} {S : St} {Q : PostA} (d : Option Tmp) (xs : Array Operand) (ats : Array TypeId) (r : List POp) : EndsA E nt (.c (.reg (⟨d, .call (Call.mk (.value (.func 190)) xs ats), none⟩ :: r)) :: k) .nrm tm S Q = CallK E nt 190 (xs.toList.map (E.ev tm)) d r k tm S Q := e_call d 190 xs ats r rfl
theorem call191 {nt : Nat} {k : List KI} {tm : PM AV} {S : St} {Q : PostA} (d : Option Tmp) (xs : Array Operand) (ats : Array TypeId) (r : List POp) : EndsA E nt (.c (.reg (⟨d, .call (Call.mk (.value (.func 191)) xs ats), none⟩ :: r)) :: k) .nrm tm S Q = CallK E nt 191 (xs.toList.map (E.ev tm)) d r k tm S Q := e_call d 191 xs ats r rfl
theorem call192 {nt : Nat} {k : List KI} {tm : PM AV} {S : St} {Q : PostA} (d : Option Tmp) (xs : Array Operand) (ats : Array TypeId) (r : List POp) : EndsA E nt (.c (.reg (⟨d, .call (Call.mk (.value (.func 192)) xs ats), none⟩ :: r)) :: k) .nrm tm S Q = CallK E nt 192 (xs.toList.map (E.ev tm)) d r k tm S Q := e_call d 192 xs ats r rfl
theorem call193 {nt : Nat} {k : List KI} {tm : PM AV} {S : St} {Q : PostA} (d : Option Tmp) (xs : Array Operand) (ats : Array TypeId) (r : List POp) : EndsA E nt (.c (.reg (⟨d, .call (Call.mk (.value (.func 193)) xs ats), none⟩ :: r)) :: k) .nrm tm S Q = CallK E nt 193 (xs.toList.map (E.ev tm)) d r k tm S Q := e_call d 193 xs ats r rfl
theorem call194 {nt : Nat} {k : List KI} {tm : PM AV} {S : St} {Q : PostA} (d : Option Tmp) (xs : Array Operand) (ats : Array TypeId) (r : List POp) : EndsA E nt (.c (.reg (⟨d, .call (Call.mk (.value (.func 194)) xs ats), none⟩ :: r)) :: k) .nrm tm S Q = CallK E nt 194 (xs.toList.map (E.ev tm)) d r k tm S Q := e_call d 194 xs ats r rfl
theorem call195 {nt : Nat} {k : List KI} {tm : PM AV} {S : St} {Q : PostA} (d : Option Tmp) (xs : Array Operand) (ats : Array TypeId) (r : List POp) : EndsA E nt (.c (.reg (⟨d, .call (Call.mk (.value (.func 195)) xs ats), none⟩ :: r)) :: k) .nrm tm S Q = CallK E nt 195 (xs.toList.map (E.ev tm)) d r k tm S Q := e_call d 195 xs ats r rfl
theorem call196 {nt : Nat} {k : List KI} {tm : PM AV} {S : St} {Q : PostA} (d : Option Tmp) (xs : Array Operand) (ats : Array TypeId) (r : List POp) : EndsA E nt (.c (.reg (⟨d, .call (Call.mk (.value (.func 196)) xs ats), none⟩ :: r)) :: k) .nrm tm S Q = CallK E nt 196 (xs.toList.map (E.ev tm)) d r k tm S Q := e_call d 196 xs ats r rfl
theorem call197 {nt : Nat} {k : List KI} {tm : PM AV} {S : St} {Q : PostA} (d : Option Tmp) (xs : Array Operand) (ats : Array TypeId) (r : List POp) : EndsA E nt (.c (.reg (⟨d, .call (Call.mk (.value (.func 197)) xs ats), none⟩ :: r)) :: k) .nrm tm S Q = CallK E nt 197 (xs.toList.map (E.ev tm)) d r k tm S Q := e_call d 197 xs ats r rfl
theorem call198 {nt : Nat} {k : List KI} {tm : PM AV} {S : St} {Q : PostA} (d : Option Tmp) (xs : Array Operand) (ats : Array TypeId) (r : List POp) : EndsA E nt (.c (.reg (⟨d, .call (Call.mk (.value (.func 198)) xs ats), none⟩ :: r)) :: k) .nrm tm S Q = CallK E nt 198 (xs.toList.map (E.ev tm)) d r k tm S Q := e_call d 198 xs ats r rfl
theorem call199 {nt : Nat} {k : List KI} {tm : PM AV} {S : St} {Q : PostA} (d : Option Tmp) (xs : Array Operand) (ats : Array TypeId) (r : List POp) : EndsA E nt (.c (.reg (⟨d, .call (Call.mk (.value (.func 199)) xs ats), none⟩ :: r)) :: k) .nrm tm S Q = CallK E nt 199 (xs.toList.map (E.ev tm)) d r k tm S Q := e_call d 199 xs ats r rfl
theorem call200 {nt : Nat} {k : List KI} {tm : PM AV} {S : St} {Q : PostA} (d : Option Tmp) (xs : Array Operand) (ats : Array TypeId) (r : List POp) : EndsA E nt (.c (.reg (⟨d, .call (Call.mk (.value (.func 200)) xs ats), none⟩ :: r)) :: k) .nrm tm S Q = CallK E nt 200 (xs.toList.map (E.ev tm)) d r k tm S Q := e_call d 200 xs ats r rfl
theorem call201 {nt : Nat} {k : List KI} {tm : PM AV} {S : St} {Q : PostA} (d : Option Tmp) (xs : Array Operand) (ats : Array TypeId) (r : List POp) : EndsA E nt (.c (.reg (⟨d, .call (Call.mk (.value (.func 201)) xs ats), none⟩ :: r)) :: k) .nrm tm S Q = CallK E nt 201 (xs.toList.map (E.ev tm)) d r k tm S Q := e_call d 201 xs ats r rfl
theorem call202 {nt : Nat} {k : List KI} {tm : PM AV} {S : St} {Q : PostA} (d : Option Tmp) (xs : Array Operand) (ats : Array TypeId) (r : List POp) : EndsA E nt (.c (.reg (⟨d, .call (Call.mk (.value (.func 202)) xs ats), none⟩ :: r)) :: k) .nrm tm S Q = CallK E nt 202 (xs.toList.map (E.ev tm)) d r k tm S Q := e_call d 202 xs ats r rfl
theorem call203 {nt : Nat} {k : List KI} {tm : PM AV} {S : St} {Q : PostA} (d : Option Tmp) (xs : Array Operand) (ats : Array TypeId) (r : List POp) : EndsA E nt (.c (.reg (⟨d, .call (Call.mk (.value (.func 203)) xs ats), none⟩ :: r)) :: k) .nrm tm S Q = CallK E nt 203 (xs.toList.map (E.ev tm)) d r k tm S Q := e_call d 203 xs ats r rfl
theorem call204 {nt : Nat} {k : List KI} {tm : PM AV} {S : St} {Q : PostA} (d : Option Tmp) (xs : Array Operand) (ats : Array TypeId) (r : List POp) : EndsA E nt (.c (.reg (⟨d, .call (Call.mk (.value (.func 204)) xs ats), none⟩ :: r)) :: k) .nrm tm S Q = CallK E nt 204 (xs.toList.map (E.ev tm)) d r k tm S Q := e_call d 204 xs ats r rfl
theorem call205 {nt : Nat} {k : List KI} {tm : PM AV} {S : St} {Q : PostA} (d : Option Tmp) (xs : Array Operand) (ats : Array TypeId) (r : List POp) : EndsA E nt (.c (.reg (⟨d, .call (Call.mk (.value (.func 205)) xs ats), none⟩ :: r)) :: k) .nrm tm S Q = CallK E nt 205 (xs.toList.map (E.ev tm)) d r k tm S Q := e_call d 205 xs ats r rfl
theorem call206 {nt : Nat} {k : List KI} {tm : PM AV} {S : St} {Q : PostA} (d : Option Tmp) (xs : Array Operand) (ats : Array TypeId) (r : List POp) : EndsA E nt (.c (.reg (⟨d, .call (Call.mk (.value (.func 206)) xs ats), none⟩ :: r)) :: k) .nrm tm S Q = CallK E nt 206 (xs.toList.map (E.ev tm)) d r k tm S Q := e_call d 206 xs ats r rfl
theorem call207 {nt : Nat} {k : List KI} {tm : PM AV} {S : St} {Q : PostA} (d : Option Tmp) (xs : Array Operand) (ats : Array TypeId) (r : List POp) : EndsA E nt (.c (.reg (⟨d, .call (Call.mk (.value (.func 207)) xs ats), none⟩ :: r)) :: k) .nrm tm S Q = CallK E nt 207 (xs.toList.map (E.ev tm)) d r k tm S Q := e_call d 207 xs ats r rfl
theorem call208 {nt : Nat} {k : List KI} {tm : PM AV} {S : St} {Q : PostA} (d : Option Tmp) (xs : Array Operand) (ats : Array TypeId) (r : List POp) : EndsA E nt (.c (.reg (⟨d, .call (Call.mk (.value (.func 208)) xs ats), none⟩ :: r)) :: k) .nrm tm S Q = CallK E nt 208 (xs.toList.map (E.ev tm)) d r k tm S Q := e_call d 208 xs ats r rfl
theorem call209 {nt : Nat} {k : List KI} {tm : PM AV} {S : St} {Q : PostA} (d : Option Tmp) (xs : Array Operand) (ats : Array TypeId) (r : List POp) : EndsA E nt (.c (.reg (⟨d, .call (Call.mk (.value (.func 209)) xs ats), none⟩ :: r)) :: k) .nrm tm S Q = CallK E nt 209 (xs.toList.map (E.ev tm)) d r k tm S Q := e_call d 209 xs ats r rfl
theorem call210 {nt : Nat} {k : List KI} {tm : PM AV} {S : St} {Q : PostA} (d : Option Tmp) (xs : Array Operand) (ats : Array TypeId) (r : List POp) : EndsA E nt (.c (.reg (⟨d, .call (Call.mk (.value (.func 210)) xs ats), none⟩ :: r)) :: k) .nrm tm S Q = CallK E nt 210 (xs.toList.map (E.ev tm)) d r k tm S Q := e_call d 210 xs ats r rfl
theorem call211 {nt : Nat} {k : List KI} {tm : PM AV} {S : St} {Q : PostA} (d : Option Tmp) (xs : Array Operand) (ats : Array TypeId) (r : List POp) : EndsA E nt (.c (.reg (⟨d, .call (Call.mk (.value (.func 211)) xs ats), none⟩ :: r)) :: k) .nrm tm S Q = CallK E nt 211 (xs.toList.map (E.ev tm)) d r k tm S Q := e_call d 211 xs ats r rfl
theorem call212 {nt : Nat} {k : List KI} {tm : PM AV} {S : St} {Q : PostA} (d : Option Tmp) (xs : Array Operand) (ats : Array TypeId) (r : List POp) : EndsA E nt (.c (.reg (⟨d, .call (Call.mk (.value (.func 212)) xs ats), none⟩ :: r)) :: k) .nrm tm S Q = CallK E nt 212 (xs.toList.map (E.ev tm)) d r k tm S Q := e_call d 212 xs ats r rfl
theorem call213 {nt : Nat} {k : List KI} {tm : PM AV} {S : St} {Q : PostA} (d : Option Tmp) (xs : Array Operand) (ats : Array TypeId) (r : List POp) : EndsA E nt (.c (.reg (⟨d, .call (Call.mk (.value (.func 213)) xs ats), none⟩ :: r)) :: k) .nrm tm S Q = CallK E nt 213 (xs.toList.map (E.ev tm)) d r k tm S Q := e_call d 213 xs ats r rfl
theorem call214 {nt : Nat} {k : List KI} {tm : PM AV} {S : St} {Q : PostA} (d : Option Tmp) (xs : Array Operand) (ats : Array TypeId) (r : List POp) : EndsA E nt (.c (.reg (⟨d, .call (Call.mk (.value (.func 214)) xs ats), none⟩ :: r)) :: k) .nrm tm S Q = CallK E nt 214 (xs.toList.map (E.ev tm)) d r k tm S Q := e_call d 214 xs ats r rfl
theorem call215 {nt : Nat} {k : List KI} {tm : PM AV} {S : St} {Q : PostA} (d : Option Tmp) (xs : Array Operand) (ats : Array TypeId) (r : List POp) : EndsA E nt (.c (.reg (⟨d, .call (Call.mk (.value (.func 215)) xs ats), none⟩ :: r)) :: k) .nrm tm S Q = CallK E nt 215 (xs.toList.map (E.ev tm)) d r k tm S Q := e_call d 215 xs ats r rfl
theorem call216 {nt : Nat} {k : List KI} {tm : PM AV} {S : St} {Q : PostA} (d : Option Tmp) (xs : Array Operand) (ats : Array TypeId) (r : List POp) : EndsA E nt (.c (.reg (⟨d, .call (Call.mk (.value (.func 216)) xs ats), none⟩ :: r)) :: k) .nrm tm S Q = CallK E nt 216 (xs.toList.map (E.ev tm)) d r k tm S Q := e_call d 216 xs ats r rfl
theorem call217 {nt : Nat} {k : List KI} {tm : PM AV} {S : St} {Q : PostA} (d : Option Tmp) (xs : Array Operand) (ats : Array TypeId) (r : List POp) : EndsA E nt (.c (.reg (⟨d, .call (Call.mk (.value (.func 217)) xs ats), none⟩ :: r)) :: k) .nrm tm S Q = CallK E nt 217 (xs.toList.map (E.ev tm)) d r k tm S Q := e_call d 217 xs ats r rfl
theorem call218 {nt : Nat} {k : List KI} {tm : PM AV} {S : St} {Q : PostA} (d : Option Tmp) (xs : Array Operand) (ats : Array TypeId) (r : List POp) : EndsA E nt (.c (.reg (⟨d, .call (Call.mk (.value (.func 218)) xs ats), none⟩ :: r)) :: k) .nrm tm S Q = CallK E nt 218 (xs.toList.map (E.ev tm)) d r k tm S Q := e_call d 218 xs ats r rfl
theorem call219 {nt : Nat} {k : List KI} {tm : PM AV} {S : St} {Q : PostA} (d : Option Tmp) (xs : Array Operand) (ats : Array TypeId) (r : List POp) : EndsA E nt (.c (.reg (⟨d, .call (Call.mk (.value (.func 219)) xs ats), none⟩ :: r)) :: k) .nrm tm S Q = CallK E nt 219 (xs.toList.map (E.ev tm)) d r k tm S Q := e_call d 219 xs ats r rfl
theorem call220 {nt : Nat} {k : List KI} {tm : PM AV} {S : St} {Q : PostA} (d : Option Tmp) (xs : Array Operand) (ats : Array TypeId) (r : List POp) : EndsA E nt (.c (.reg (⟨d, .call (Call.mk (.value (.func 220)) xs ats), none⟩ :: r)) :: k) .nrm tm S Q = CallK E nt 220 (xs.toList.map (E.ev tm)) d r k tm S Q := e_call d 220 xs ats r rfl
theorem call221 {nt : Nat} {k : List KI} {tm : PM AV} {S : St} {Q : PostA} (d : Option Tmp) (xs : Array Operand) (ats : Array TypeId) (r : List POp) : EndsA E nt (.c (.reg (⟨d, .call (Call.mk (.value (.func 221)) xs ats), none⟩ :: r)) :: k) .nrm tm S Q = CallK E nt 221 (xs.toList.map (E.ev tm)) d r k tm S Q := e_call d 221 xs ats r rfl
theorem call222 {nt : Nat} {k : List KI} {tm : PM AV} {S : St} {Q : PostA} (d : Option Tmp) (xs : Array Operand) (ats : Array TypeId) (r : List POp) : EndsA E nt (.c (.reg (⟨d, .call (Call.mk (.value (.func 222)) xs ats), none⟩ :: r)) :: k) .nrm tm S Q = CallK E nt 222 (xs.toList.map (E.ev tm)) d r k tm S Q := e_call d 222 xs ats r rfl
theorem call223 {nt : Nat} {k : List KI} {tm : PM AV} {S : St} {Q : PostA} (d : Option Tmp) (xs : Array Operand) (ats : Array TypeId) (r : List POp) : EndsA E nt (.c (.reg (⟨d, .call (Call.mk (.value (.func 223)) xs ats), none⟩ :: r)) :: k) .nrm tm S Q = CallK E nt 223 (xs.toList.map (E.ev tm)) d r k tm S Q := e_call d 223 xs ats r rfl
theorem call224 {nt : Nat} {k : List KI} {tm : PM AV} {S : St} {Q : PostA} (d : Option Tmp) (xs : Array Operand) (ats : Array TypeId) (r : List POp) : EndsA E nt (.c (.reg (⟨d, .call (Call.mk (.value (.func 224)) xs ats), none⟩ :: r)) :: k) .nrm tm S Q = CallK E nt 224 (xs.toList.map (E.ev tm)) d r k tm S Q := e_call d 224 xs ats r rfl
theorem call225 {nt : Nat} {k : List KI} {tm : PM AV} {S : St} {Q : PostA} (d : Option Tmp) (xs : Array Operand) (ats : Array TypeId) (r : List POp) : EndsA E nt (.c (.reg (⟨d, .call (Call.mk (.value (.func 225)) xs ats), none⟩ :: r)) :: k) .nrm tm S Q = CallK E nt 225 (xs.toList.map (E.ev tm)) d r k tm S Q := e_call d 225 xs ats r rfl
theorem call226 {nt : Nat} {k : List KI} {tm : PM AV} {S : St} {Q : PostA} (d : Option Tmp) (xs : Array Operand) (ats : Array TypeId) (r : List POp) : EndsA E nt (.c (.reg (⟨d, .call (Call.mk (.value (.func 226)) xs ats), none⟩ :: r)) :: k) .nrm tm S Q = CallK E nt 226 (xs.toList.map (E.ev tm)) d r k tm S Q := e_call d 226 xs ats r rfl
theorem call227 {nt : Nat} {k : List KI} {tm : PM AV} {S : St} {Q : PostA} (d : Option Tmp) (xs : Array Operand) (ats : Array TypeId) (r : List POp) : EndsA E nt (.c (.reg (⟨d, .call (Call.mk (.value (.func 227)) xs ats), none⟩ :: r)) :: k) .nrm tm S Q = CallK E nt 227 (xs.toList.map (E.ev tm)) d r k tm S Q := e_call d 227 xs ats r rfl
theorem call228 {nt : Nat} {k : List KI} {tm : PM AV} {S : St} {Q : PostA} (d : Option Tmp) (xs : Array Operand) (ats : Array TypeId) (r : List POp) : EndsA E nt (.c (.reg (⟨d, .call (Call.mk (.value (.func 228)) xs ats), none⟩ :: r)) :: k) .nrm tm S Q = CallK E nt 228 (xs.toList.map (E.ev tm)) d r k tm S Q := e_call d 228 xs ats r rfl
theorem call229 {nt : Nat} {k : List KI} {tm : PM AV} {S : St} {Q : PostA} (d : Option Tmp) (xs : Array Operand) (ats : Array TypeId) (r : List POp) : EndsA E nt (.c (.reg (⟨d, .call (Call.mk (.value (.func 229)) xs ats), none⟩ :: r)) :: k) .nrm tm S Q = CallK E nt 229 (xs.toList.map (E.ev tm)) d r k tm S Q := e_call d 229 xs ats r rfl
theorem call230 {nt : Nat} {k : List KI} {tm : PM AV} {S : St} {Q : PostA} (d : Option Tmp) (xs : Array Operand) (ats : Array TypeId) (r : List POp) : EndsA E nt (.c (.reg (⟨d, .call (Call.mk (.value (.func 230)) xs ats), none⟩ :: r)) :: k) .nrm tm S Q = CallK E nt 230 (xs.toList.map (E.ev tm)) d r k tm S Q := e_call d 230 xs ats r rfl
theorem call231 {nt : Nat} {k : List KI} {tm : PM AV} {S : St} {Q : PostA} (d : Option Tmp) (xs : Array Operand) (ats : Array TypeId) (r : List POp) : EndsA E nt (.c (.reg (⟨d, .call (Call.mk (.value (.func 231)) xs ats), none⟩ :: r)) :: k) .nrm tm S Q = CallK E nt 231 (xs.toList.map (E.ev tm)) d r k tm S Q := e_call d 231 xs ats r rfl
theorem call232 {nt : Nat} {k : List KI} {tm : PM AV} {S : St} {Q : PostA} (d : Option Tmp) (xs : Array Operand) (ats : Array TypeId) (r : List POp) : EndsA E nt (.c (.reg (⟨d, .call (Call.mk (.value (.func 232)) xs ats), none⟩ :: r)) :: k) .nrm tm S Q = CallK E nt 232 (xs.toList.map (E.ev tm)) d r k tm S Q := e_call d 232 xs ats r rfl
theorem call233 {nt : Nat} {k : List KI} {tm : PM AV} {S : St} {Q : PostA} (d : Option Tmp) (xs : Array Operand) (ats : Array TypeId) (r : List POp) : EndsA E nt (.c (.reg (⟨d, .call (Call.mk (.value (.func 233)) xs ats), none⟩ :: r)) :: k) .nrm tm S Q = CallK E nt 233 (xs.toList.map (E.ev tm)) d r k tm S Q := e_call d 233 xs ats r rfl
theorem call234 {nt : Nat} {k : List KI} {tm : PM AV} {S : St} {Q : PostA} (d : Option Tmp) (xs : Array Operand) (ats : Array TypeId) (r : List POp) : EndsA E nt (.c (.reg (⟨d, .call (Call.mk (.value (.func 234)) xs ats), none⟩ :: r)) :: k) .nrm tm S Q = CallK E nt 234 (xs.toList.map (E.ev tm)) d r k tm S Q := e_call d 234 xs ats r rfl
theorem call235 {nt : Nat} {k : List KI} {tm : PM AV} {S : St} {Q : PostA} (d : Option Tmp) (xs : Array Operand) (ats : Array TypeId) (r : List POp) : EndsA E nt (.c (.reg (⟨d, .call (Call.mk (.value (.func 235)) xs ats), none⟩ :: r)) :: k) .nrm tm S Q = CallK E nt 235 (xs.toList.map (E.ev tm)) d r k tm S Q := e_call d 235 xs ats r rfl
theorem call236 {nt : Nat} {k : List KI} {tm : PM AV} {S : St} {Q : PostA} (d : Option Tmp) (xs : Array Operand) (ats : Array TypeId) (r : List POp) : EndsA E nt (.c (.reg (⟨d, .call (Call.mk (.value (.func 236)) xs ats), none⟩ :: r)) :: k) .nrm tm S Q = CallK E nt 236 (xs.toList.map (E.ev tm)) d r k tm S Q := e_call d 236 xs ats r rfl
theorem call237 {nt : Nat} {k : List KI} {tm : PM AV} {S : St} {Q : PostA} (d : Option Tmp) (xs : Array Operand) (ats : Array TypeId) (r : List POp) : EndsA E nt (.c (.reg (⟨d, .call (Call.mk (.value (.func 237)) xs ats), none⟩ :: r)) :: k) .nrm tm S Q = CallK E nt 237 (xs.toList.map (E.ev tm)) d r k tm S Q := e_call d 237 xs ats r rfl
theorem call238 {nt : Nat} {k : List KI} {tm : PM AV} {S : St} {Q : PostA} (d : Option Tmp) (xs : Array Operand) (ats : Array TypeId) (r : List POp) : EndsA E nt (.c (.reg (⟨d, .call (Call.mk (.value (.func 238)) xs ats), none⟩ :: r)) :: k) .nrm tm S Q = CallK E nt 238 (xs.toList.map (E.ev tm)) d r k tm S Q := e_call d 238 xs ats r rfl
theorem call239 {nt : Nat} {k : List KI} {tm : PM AV} {S : St} {Q : PostA} (d : Option Tmp) (xs : Array Operand) (ats : Array TypeId) (r : List POp) : EndsA E nt (.c (.reg (⟨d, .call (Call.mk (.value (.func 239)) xs ats), none⟩ :: r)) :: k) .nrm tm S Q = CallK E nt 239 (xs.toList.map (E.ev tm)) d r k tm S Q := e_call d 239 xs ats r rfl
theorem call240 {nt : Nat} {k : List KI} {tm : PM AV} {S : St} {Q : PostA} (d : Option Tmp) (xs : Array Operand) (ats : Array TypeId) (r : List POp) : EndsA E nt (.c (.reg (⟨d, .call (Call.mk (.value (.func 240)) xs ats), none⟩ :: r)) :: k) .nrm tm S Q = CallK E nt 240 (xs.toList.map (E.ev tm)) d r k tm S Q := e_call d 240 xs ats r rfl
theorem call241 {nt : Nat} {k : List KI} {tm : PM AV} {S : St} {Q : PostA} (d : Option Tmp) (xs : Array Operand) (ats : Array TypeId) (r : List POp) : EndsA E nt (.c (.reg (⟨d, .call (Call.mk (.value (.func 241)) xs ats), none⟩ :: r)) :: k) .nrm tm S Q = CallK E nt 241 (xs.toList.map (E.ev tm)) d r k tm S Q := e_call d 241 xs ats r rfl
theorem call242 {nt : Nat} {k : List KI} {tm : PM AV} {S : St} {Q : PostA} (d : Option Tmp) (xs : Array Operand) (ats : Array TypeId) (r : List POp) : EndsA E nt (.c (.reg (⟨d, .call (Call.mk (.value (.func 242)) xs ats), none⟩ :: r)) :: k) .nrm tm S Q = CallK E nt 242 (xs.toList.map (E.ev tm)) d r k tm S Q := e_call d 242 xs ats r rfl
theorem call243 {nt : Nat} {k : List KI} {tm : PM AV} {S : St} {Q : PostA} (d : Option Tmp) (xs : Array Operand) (ats : Array TypeId) (r : List POp) : EndsA E nt (.c (.reg (⟨d, .call (Call.mk (.value (.func 243)) xs ats), none⟩ :: r)) :: k) .nrm tm S Q = CallK E nt 243 (xs.toList.map (E.ev tm)) d r k tm S Q := e_call d 243 xs ats r rfl
theorem call244 {nt : Nat} {k : List KI} {tm : PM AV} {S : St} {Q : PostA} (d : Option Tmp) (xs : Array Operand) (ats : Array TypeId) (r : List POp) : EndsA E nt (.c (.reg (⟨d, .call (Call.mk (.value (.func 244)) xs ats), none⟩ :: r)) :: k) .nrm tm S Q = CallK E nt 244 (xs.toList.map (E.ev tm)) d r k tm S Q := e_call d 244 xs ats r rfl
theorem call245 {nt : Nat} {k : List KI} {tm : PM AV} {S : St} {Q : PostA} (d : Option Tmp) (xs : Array Operand) (ats : Array TypeId) (r : List POp) : EndsA E nt (.c (.reg (⟨d, .call (Call.mk (.value (.func 245)) xs ats), none⟩ :: r)) :: k) .nrm tm S Q = CallK E nt 245 (xs.toList.map (E.ev tm)) d r k tm S Q := e_call d 245 xs ats r rfl
theorem call246 {nt : Nat} {k : List KI} {tm : PM AV} {S : St} {Q : PostA} (d : Option Tmp) (xs : Array Operand) (ats : Array TypeId) (r : List POp) : EndsA E nt (.c (.reg (⟨d, .call (Call.mk (.value (.func 246)) xs ats), none⟩ :: r)) :: k) .nrm tm S Q = CallK E nt 246 (xs.toList.map (E.ev tm)) d r k tm S Q := e_call d 246 xs ats r rfl
theorem call247 {nt : Nat} {k : List KI} {tm : PM AV} {S : St} {Q : PostA} (d : Option Tmp) (xs : Array Operand) (ats : Array TypeId) (r : List POp) : EndsA E nt (.c (.reg (⟨d, .call (Call.mk (.value (.func 247)) xs ats), none⟩ :: r)) :: k) .nrm tm S Q = CallK E nt 247 (xs.toList.map (E.ev tm)) d r k tm S Q := e_call d 247 xs ats r rfl
theorem call248 {nt : Nat} {k : List KI} {tm : PM AV} {S : St} {Q : PostA} (d : Option Tmp) (xs : Array Operand) (ats : Array TypeId) (r : List POp) : EndsA E nt (.c (.reg (⟨d, .call (Call.mk (.value (.func 248)) xs ats), none⟩ :: r)) :: k) .nrm tm S Q = CallK E nt 248 (xs.toList.map (E.ev tm)) d r k tm S Q := e_call d 248 xs ats r rfl
theorem call249 {nt : Nat} {k : List KI} {tm : PM AV} {S : St} {Q : PostA} (d : Option Tmp) (xs : Array Operand) (ats : Array TypeId) (r : List POp) : EndsA E nt (.c (.reg (⟨d, .call (Call.mk (.value (.func 249)) xs ats), none⟩ :: r)) :: k) .nrm tm S Q = CallK E nt 249 (xs.toList.map (E.ev tm)) d r k tm S Q := e_call d 249 xs ats r rfl
theorem call250 {nt : Nat} {k : List KI} {tm : PM AV} {S : St} {Q : PostA} (d : Option Tmp) (xs : Array Operand) (ats : Array TypeId) (r : List POp) : EndsA E nt (.c (.reg (⟨d, .call (Call.mk (.value (.func 250)) xs ats), none⟩ :: r)) :: k) .nrm tm S Q = CallK E nt 250 (xs.toList.map (E.ev tm)) d r k tm S Q := e_call d 250 xs ats r rfl
theorem call251 {nt : Nat} {k : List KI} {tm : PM AV} {S : St} {Q : PostA} (d : Option Tmp) (xs : Array Operand) (ats : Array TypeId) (r : List POp) : EndsA E nt (.c (.reg (⟨d, .call (Call.mk (.value (.func 251)) xs ats), none⟩ :: r)) :: k) .nrm tm S Q = CallK E nt 251 (xs.toList.map (E.ev tm)) d r k tm S Q := e_call d 251 xs ats r rfl
theorem call252 {nt : Nat} {k : List KI} {tm : PM AV} {S : St} {Q : PostA} (d : Option Tmp) (xs : Array Operand) (ats : Array TypeId) (r : List POp) : EndsA E nt (.c (.reg (⟨d, .call (Call.mk (.value (.func 252)) xs ats), none⟩ :: r)) :: k) .nrm tm S Q = CallK E nt 252 (xs.toList.map (E.ev tm)) d r k tm S Q := e_call d 252 xs ats r rfl
theorem call253 {nt : Nat} {k : List KI} {tm : PM AV} {S : St} {Q : PostA} (d : Option Tmp) (xs : Array Operand) (ats : Array TypeId) (r : List POp) : EndsA E nt (.c (.reg (⟨d, .call (Call.mk (.value (.func 253)) xs ats), none⟩ :: r)) :: k) .nrm tm S Q = CallK E nt 253 (xs.toList.map (E.ev tm)) d r k tm S Q := e_call d 253 xs ats r rfl
theorem call254 {nt : Nat} {k : List KI} {tm : PM AV} {S : St} {Q : PostA} (d : Option Tmp) (xs : Array Operand) (ats : Array TypeId) (r : List POp) : EndsA E nt (.c (.reg (⟨d, .call (Call.mk (.value (.func 254)) xs ats), none⟩ :: r)) :: k) .nrm tm S Q = CallK E nt 254 (xs.toList.map (E.ev tm)) d r k tm S Q := e_call d 254 xs ats r rfl
theorem call255 {nt : Nat} {k : List KI} {tm : PM AV} {S : St} {Q : PostA} (d : Option Tmp) (xs : Array Operand) (ats : Array TypeId) (r : List POp) : EndsA E nt (.c (.reg (⟨d, .call (Call.mk (.value (.func 255)) xs ats), none⟩ :: r)) :: k) .nrm tm S Q = CallK E nt 255 (xs.toList.map (E.ev tm)) d r k tm S Q := e_call d 255 xs ats r rfl
theorem call256 {nt : Nat} {k : List KI} {tm : PM AV} {S : St} {Q : PostA} (d : Option Tmp) (xs : Array Operand) (ats : Array TypeId) (r : List POp) : EndsA E nt (.c (.reg (⟨d, .call (Call.mk (.value (.func 256)) xs ats), none⟩ :: r)) :: k) .nrm tm S Q = CallK E nt 256 (xs.toList.map (E.ev tm)) d r k tm S Q := e_call d 256 xs ats r rfl
theorem call257 {nt : Nat} {k : List KI} {tm : PM AV} {S : St} {Q : PostA} (d : Option Tmp) (xs : Array Operand) (ats : Array TypeId) (r : List POp) : EndsA E nt (.c (.reg (⟨d, .call (Call.mk (.value (.func 257)) xs ats), none⟩ :: r)) :: k) .nrm tm S Q = CallK E nt 257 (xs.toList.map (E.ev tm)) d r k tm S Q := e_call d 257 xs ats r rfl
theorem call258 {nt : Nat} {k : List KI} {tm : PM AV} {S : St} {Q : PostA} (d : Option Tmp) (xs : Array Operand) (ats : Array TypeId) (r : List POp) : EndsA E nt (.c (.reg (⟨d, .call (Call.mk (.value (.func 258)) xs ats), none⟩ :: r)) :: k) .nrm tm S Q = CallK E nt 258 (xs.toList.map (E.ev tm)) d r k tm S Q := e_call d 258 xs ats r rfl
theorem call259 {nt : Nat} {k : List KI} {tm : PM AV} {S : St} {Q : PostA} (d : Option Tmp) (xs : Array Operand) (ats : Array TypeId) (r : List POp) : EndsA E nt (.c (.reg (⟨d, .call (Call.mk (.value (.func 259)) xs ats), none⟩ :: r)) :: k) .nrm tm S Q = CallK E nt 259 (xs.toList.map (E.ev tm)) d r k tm S Q := e_call d 259 xs ats r rfl
theorem call260 {nt : Nat} {k : List KI} {tm : PM AV} {S : St} {Q : PostA} (d : Option Tmp) (xs : Array Operand) (ats : Array TypeId) (r : List POp) : EndsA E nt (.c (.reg (⟨d, .call (Call.mk (.value (.func 260)) xs ats), none⟩ :: r)) :: k) .nrm tm S Q = CallK E nt 260 (xs.toList.map (E.ev tm)) d r k tm S Q := e_call d 260 xs ats r rfl
theorem call261 {nt : Nat} {k : List KI} {tm : PM AV} {S : St} {Q : PostA} (d : Option Tmp) (xs : Array Operand) (ats : Array TypeId) (r : List POp) : EndsA E nt (.c (.reg (⟨d, .call (Call.mk (.value (.func 261)) xs ats), none⟩ :: r)) :: k) .nrm tm S Q = CallK E nt 261 (xs.toList.map (E.ev tm)) d r k tm S Q := e_call d 261 xs ats r rfl
theorem call262 {nt : Nat} {k : List KI} {tm : PM AV} {S : St} {Q : PostA} (d : Option Tmp) (xs : Array Operand) (ats : Array TypeId) (r : List POp) : EndsA E nt (.c (.reg (⟨d, .call (Call.mk (.value (.func 262)) xs ats), none⟩ :: r)) :: k) .nrm tm S Q = CallK E nt 262 (xs.toList.map (E.ev tm)) d r k tm S Q := e_call d 262 xs ats r rfl
theorem call263 {nt : Nat} {k : List KI} {tm : PM AV} {S : St} {Q : PostA} (d : Option Tmp) (xs : Array Operand) (ats : Array TypeId) (r : List POp) : EndsA E nt (.c (.reg (⟨d, .call (Call.mk (.value (.func 263)) xs ats), none⟩ :: r)) :: k) .nrm tm S Q = CallK E nt 263 (xs.toList.map (E.ev tm)) d r k tm S Q := e_call d 263 xs ats r rfl
theorem call264 {nt : Nat} {k : List KI} {tm : PM AV} {S : St} {Q : PostA} (d : Option Tmp) (xs : Array Operand) (ats : Array TypeId) (r : List POp) : EndsA E nt (.c (.reg (⟨d, .call (Call.mk (.value (.func 264)) xs ats), none⟩ :: r)) :: k) .nrm tm S Q = CallK E nt 264 (xs.toList.map (E.ev tm)) d r k tm S Q := e_call d 264 xs ats r rfl
theorem call265 {nt : Nat} {k : List KI} {tm : PM AV} {S : St} {Q : PostA} (d : Option Tmp) (xs : Array Operand) (ats : Array TypeId) (r : List POp) : EndsA E nt (.c (.reg (⟨d, .call (Call.mk (.value (.func 265)) xs ats), none⟩ :: r)) :: k) .nrm tm S Q = CallK E nt 265 (xs.toList.map (E.ev tm)) d r k tm S Q := e_call d 265 xs ats r rfl
theorem call266 {nt : Nat} {k : List KI} {tm : PM AV} {S : St} {Q : PostA} (d : Option Tmp) (xs : Array Operand) (ats : Array TypeId) (r : List POp) : EndsA E nt (.c (.reg (⟨d, .call (Call.mk (.value (.func 266)) xs ats), none⟩ :: r)) :: k) .nrm tm S Q = CallK E nt 266 (xs.toList.map (E.ev tm)) d r k tm S Q := e_call d 266 xs ats r rfl
theorem call268 {nt : Nat} {k : List KI} {tm : PM AV} {S : St} {Q : PostA} (d : Option Tmp) (xs : Array Operand) (ats : Array TypeId) (r : List POp) : EndsA E nt (.c (.reg (⟨d, .call (Call.mk (.value (.func 268)) xs ats), none⟩ :: r)) :: k) .nrm tm S Q = CallK E nt 268 (xs.toList.map (E.ev tm)) d r k tm S Q := e_call d 268 xs ats r rfl
theorem call269 {nt : Nat} {k : List KI} {tm : PM AV} {S : St} {Q : PostA} (d : Option Tmp) (xs : Array Operand) (ats : Array TypeId) (r : List POp) : EndsA E nt (.c (.reg (⟨d, .call (Call.mk (.value (.func 269)) xs ats), none⟩ :: r)) :: k) .nrm tm S Q = CallK E nt 269 (xs.toList.map (E.ev tm)) d r k tm S Q := e_call d 269 xs ats r rfl
theorem call270 {nt : Nat} {k : List KI} {tm : PM AV} {S : St} {Q : PostA} (d : Option Tmp) (xs : Array Operand) (ats : Array TypeId) (r : List POp) : EndsA E nt (.c (.reg (⟨d, .call (Call.mk (.value (.func 270)) xs ats), none⟩ :: r)) :: k) .nrm tm S Q = CallK E nt 270 (xs.toList.map (E.ev tm)) d r k tm S Q := e_call d 270 xs ats r rfl
theorem call271 {nt : Nat} {k : List KI} {tm : PM AV} {S : St} {Q : PostA} (d : Option Tmp) (xs : Array Operand) (ats : Array TypeId) (r : List POp) : EndsA E nt (.c (.reg (⟨d, .call (Call.mk (.value (.func 271)) xs ats), none⟩ :: r)) :: k) .nrm tm S Q = CallK E nt 271 (xs.toList.map (E.ev tm)) d r k tm S Q := e_call d 271 xs ats r rfl
theorem call272 {nt : Nat} {k : List KI} {tm : PM AV} {S : St} {Q : PostA} (d : Option Tmp) (xs : Array Operand) (ats : Array TypeId) (r : List POp) : EndsA E nt (.c (.reg (⟨d, .call (Call.mk (.value (.func 272)) xs ats), none⟩ :: r)) :: k) .nrm tm S Q = CallK E nt 272 (xs.toList.map (E.ev tm)) d r k tm S Q := e_call d 272 xs ats r rfl
theorem call273 {nt : Nat} {k : List KI} {tm : PM AV} {S : St} {Q : PostA} (d : Option Tmp) (xs : Array Operand) (ats : Array TypeId) (r : List POp) : EndsA E nt (.c (.reg (⟨d, .call (Call.mk (.value (.func 273)) xs ats), none⟩ :: r)) :: k) .nrm tm S Q = CallK E nt 273 (xs.toList.map (E.ev tm)) d r k tm S Q := e_call d 273 xs ats r rfl
theorem call274 {nt : Nat} {k : List KI} {tm : PM AV} {S : St} {Q : PostA} (d : Option Tmp) (xs : Array Operand) (ats : Array TypeId) (r : List POp) : EndsA E nt (.c (.reg (⟨d, .call (Call.mk (.value (.func 274)) xs ats), none⟩ :: r)) :: k) .nrm tm S Q = CallK E nt 274 (xs.toList.map (E.ev tm)) d r k tm S Q := e_call d 274 xs ats r rfl
theorem call275 {nt : Nat} {k : List KI} {tm : PM AV} {S : St} {Q : PostA} (d : Option Tmp) (xs : Array Operand) (ats : Array TypeId) (r : List POp) : EndsA E nt (.c (.reg (⟨d, .call (Call.mk (.value (.func 275)) xs ats), none⟩ :: r)) :: k) .nrm tm S Q = CallK E nt 275 (xs.toList.map (E.ev tm)) d r k tm S Q := e_call d 275 xs ats r rfl
theorem call276 {nt : Nat} {k : List KI} {tm : PM AV} {S : St} {Q : PostA} (d : Option Tmp) (xs : Array Operand) (ats : Array TypeId) (r : List POp) : EndsA E nt (.c (.reg (⟨d, .call (Call.mk (.value (.func 276)) xs ats), none⟩ :: r)) :: k) .nrm tm S Q = CallK E nt 276 (xs.toList.map (E.ev tm)) d r k tm S Q := e_call d 276 xs ats r rfl
theorem call277 {nt : Nat} {k : List KI} {tm : PM AV} {S : St} {Q : PostA} (d : Option Tmp) (xs : Array Operand) (ats : Array TypeId) (r : List POp) : EndsA E nt (.c (.reg (⟨d, .call (Call.mk (.value (.func 277)) xs ats), none⟩ :: r)) :: k) .nrm tm S Q = CallK E nt 277 (xs.toList.map (E.ev tm)) d r k tm S Q := e_call d 277 xs ats r rfl
theorem call278 {nt : Nat} {k : List KI} {tm : PM AV} {S : St} {Q : PostA} (d : Option Tmp) (xs : Array Operand) (ats : Array TypeId) (r : List POp) : EndsA E nt (.c (.reg (⟨d, .call (Call.mk (.value (.func 278)) xs ats), none⟩ :: r)) :: k) .nrm tm S Q = CallK E nt 278 (xs.toList.map (E.ev tm)) d r k tm S Q := e_call d 278 xs ats r rfl
theorem call279 {nt : Nat} {k : List KI} {tm : PM AV} {S : St} {Q : PostA} (d : Option Tmp) (xs : Array Operand) (ats : Array TypeId) (r : List POp) : EndsA E nt (.c (.reg (⟨d, .call (Call.mk (.value (.func 279)) xs ats), none⟩ :: r)) :: k) .nrm tm S Q = CallK E nt 279 (xs.toList.map (E.ev tm)) d r k tm S Q := e_call d 279 xs ats r rfl
theorem call280 {nt : Nat} {k : List KI} {tm : PM AV} {S : St} {Q : PostA} (d : Option Tmp) (xs : Array Operand) (ats : Array TypeId) (r : List POp) : EndsA E nt (.c (.reg (⟨d, .call (Call.mk (.value (.func 280)) xs ats), none⟩ :: r)) :: k) .nrm tm S Q = CallK E nt 280 (xs.toList.map (E.ev tm)) d r k tm S Q := e_call d 280 xs ats r rfl
theorem call281 {nt : Nat} {k : List KI} {tm : PM AV} {S : St} {Q : PostA} (d : Option Tmp) (xs : Array Operand) (ats : Array TypeId) (r : List POp) : EndsA E nt (.c (.reg (⟨d, .call (Call.mk (.value (.func 281)) xs ats), none⟩ :: r)) :: k) .nrm tm S Q = CallK E nt 281 (xs.toList.map (E.ev tm)) d r k tm S Q := e_call d 281 xs ats r rfl
theorem call282 {nt : Nat} {k : List KI} {tm : PM AV} {S : St} {Q : PostA} (d : Option Tmp) (xs : Array Operand) (ats : Array TypeId) (r : List POp) : EndsA E nt (.c (.reg (⟨d, .call (Call.mk (.value (.func 282)) xs ats), none⟩ :: r)) :: k) .nrm tm S Q = CallK E nt 282 (xs.toList.map (E.ev tm)) d r k tm S Q := e_call d 282 xs ats r rfl
theorem call283 {nt : Nat} {k : List KI} {tm : PM AV} {S : St} {Q : PostA} (d : Option Tmp) (xs : Array Operand) (ats : Array TypeId) (r : List POp) : EndsA E nt (.c (.reg (⟨d, .call (Call.mk (.value (.func 283)) xs ats), none⟩ :: r)) :: k) .nrm tm S Q = CallK E nt 283 (xs.toList.map (E.ev tm)) d r k tm S Q := e_call d 283 xs ats r rfl
theorem call284 {nt : Nat} {k : List KI} {tm : PM AV} {S : St} {Q : PostA} (d : Option Tmp) (xs : Array Operand) (ats : Array TypeId) (r : List POp) : EndsA E nt (.c (.reg (⟨d, .call (Call.mk (.value (.func 284)) xs ats), none⟩ :: r)) :: k) .nrm tm S Q = CallK E nt 284 (xs.toList.map (E.ev tm)) d r k tm S Q := e_call d 284 xs ats r rfl
theorem call285 {nt : Nat} {k : List KI} {tm : PM AV} {S : St} {Q : PostA} (d : Option Tmp) (xs : Array Operand) (ats : Array TypeId) (r : List POp) : EndsA E nt (.c (.reg (⟨d, .call (Call.mk (.value (.func 285)) xs ats), none⟩ :: r)) :: k) .nrm tm S Q = CallK E nt 285 (xs.toList.map (E.ev tm)) d r k tm S Q := e_call d 285 xs ats r rfl
theorem call286 {nt : Nat} {k : List KI} {tm : PM AV} {S : St} {Q : PostA} (d : Option Tmp) (xs : Array Operand) (ats : Array TypeId) (r : List POp) : EndsA E nt (.c (.reg (⟨d, .call (Call.mk (.value (.func 286)) xs ats), none⟩ :: r)) :: k) .nrm tm S Q = CallK E nt 286 (xs.toList.map (E.ev tm)) d r k tm S Q := e_call d 286 xs ats r rfl
theorem call287 {nt : Nat} {k : List KI} {tm : PM AV} {S : St} {Q : PostA} (d : Option Tmp) (xs : Array Operand) (ats : Array TypeId) (r : List POp) : EndsA E nt (.c (.reg (⟨d, .call (Call.mk (.value (.func 287)) xs ats), none⟩ :: r)) :: k) .nrm tm S Q = CallK E nt 287 (xs.toList.map (E.ev tm)) d r k tm S Q := e_call d 287 xs ats r rfl
theorem call288 {nt : Nat} {k : List KI} {tm : PM AV} {S : St} {Q : PostA} (d : Option Tmp) (xs : Array Operand) (ats : Array TypeId) (r : List POp) : EndsA E nt (.c (.reg (⟨d, .call (Call.mk (.value (.func 288)) xs ats), none⟩ :: r)) :: k) .nrm tm S Q = CallK E nt 288 (xs.toList.map (E.ev tm)) d r k tm S Q := e_call d 288 xs ats r rfl
theorem call289 {nt : Nat} {k : List KI} {tm : PM AV} {S : St} {Q : PostA} (d : Option Tmp) (xs : Array Operand) (ats : Array TypeId) (r : List POp) : EndsA E nt (.c (.reg (⟨d, .call (Call.mk (.value (.func 289)) xs ats), none⟩ :: r)) :: k) .nrm tm S Q = CallK E nt 289 (xs.toList.map (E.ev tm)) d r k tm S Q := e_call d 289 xs ats r rfl
theorem call290 {nt : Nat} {k : List KI} {tm : PM AV} {S : St} {Q : PostA} (d : Option Tmp) (xs : Array Operand) (ats : Array TypeId) (r : List POp) : EndsA E nt (.c (.reg (⟨d, .call (Call.mk (.value (.func 290)) xs ats), none⟩ :: r)) :: k) .nrm tm S Q = CallK E nt 290 (xs.toList.map (E.ev tm)) d r k tm S Q := e_call d 290 xs ats r rfl
theorem call291 {nt : Nat} {k : List KI} {tm : PM AV} {S : St} {Q : PostA} (d : Option Tmp) (xs : Array Operand) (ats : Array TypeId) (r : List POp) : EndsA E nt (.c (.reg (⟨d, .call (Call.mk (.value (.func 291)) xs ats), none⟩ :: r)) :: k) .nrm tm S Q = CallK E nt 291 (xs.toList.map (E.ev tm)) d r k tm S Q := e_call d 291 xs ats r rfl
theorem call292 {nt : Nat} {k : List KI} {tm : PM AV} {S : St} {Q : PostA} (d : Option Tmp) (xs : Array Operand) (ats : Array TypeId) (r : List POp) : EndsA E nt (.c (.reg (⟨d, .call (Call.mk (.value (.func 292)) xs ats), none⟩ :: r)) :: k) .nrm tm S Q = CallK E nt 292 (xs.toList.map (E.ev tm)) d r k tm S Q := e_call d 292 xs ats r rfl
theorem call293 {nt : Nat} {k : List KI} {tm : PM AV} {S : St} {Q : PostA} (d : Option Tmp) (xs : Array Operand) (ats : Array TypeId) (r : List POp) : EndsA E nt (.c (.reg (⟨d, .call (Call.mk (.value (.func 293)) xs ats), none⟩ :: r)) :: k) .nrm tm S Q = CallK E nt 293 (xs.toList.map (E.ev tm)) d r k tm S Q := e_call d 293 xs ats r rfl
theorem call294 {nt : Nat} {k : List KI} {tm : PM AV} {S : St} {Q : PostA} (d : Option Tmp) (xs : Array Operand) (ats : Array TypeId) (r : List POp) : EndsA E nt (.c (.reg (⟨d, .call (Call.mk (.value (.func 294)) xs ats), none⟩ :: r)) :: k) .nrm tm S Q = CallK E nt 294 (xs.toList.map (E.ev tm)) d r k tm S Q := e_call d 294 xs ats r rfl
theorem call295 {nt : Nat} {k : List KI} {tm : PM AV} {S : St} {Q : PostA} (d : Option Tmp) (xs : Array Operand) (ats : Array TypeId) (r : List POp) : EndsA E nt (.c (.reg (⟨d, .call (Call.mk (.value (.func 295)) xs ats), none⟩ :: r)) :: k) .nrm tm S Q = CallK E nt 295 (xs.toList.map (E.ev tm)) d r k tm S Q := e_call d 295 xs ats r rfl
theorem call296 {nt : Nat} {k : List KI} {tm : PM AV} {S : St} {Q : PostA} (d : Option Tmp) (xs : Array Operand) (ats : Array TypeId) (r : List POp) : EndsA E nt (.c (.reg (⟨d, .call (Call.mk (.value (.func 296)) xs ats), none⟩ :: r)) :: k) .nrm tm S Q = CallK E nt 296 (xs.toList.map (E.ev tm)) d r k tm S Q := e_call d 296 xs ats r rfl
theorem call297 {nt : Nat} {k : List KI} {tm : PM AV} {S : St} {Q : PostA} (d : Option Tmp) (xs : Array Operand) (ats : Array TypeId) (r : List POp) : EndsA E nt (.c (.reg (⟨d, .call (Call.mk (.value (.func 297)) xs ats), none⟩ :: r)) :: k) .nrm tm S Q = CallK E nt 297 (xs.toList.map (E.ev tm)) d r k tm S Q := e_call d 297 xs ats r rfl
theorem call298 {nt : Nat} {k : List KI} {tm : PM AV} {S : St} {Q : PostA} (d : Option Tmp) (xs : Array Operand) (ats : Array TypeId) (r : List POp) : EndsA E nt (.c (.reg (⟨d, .call (Call.mk (.value (.func 298)) xs ats), none⟩ :: r)) :: k) .nrm tm S Q = CallK E nt 298 (xs.toList.map (E.ev tm)) d r k tm S Q := e_call d 298 xs ats r rfl
theorem call299 {nt : Nat} {k : List KI} {tm : PM AV} {S : St} {Q : PostA} (d : Option Tmp) (xs : Array Operand) (ats : Array TypeId) (r : List POp) : EndsA E nt (.c (.reg (⟨d, .call (Call.mk (.value (.func 299)) xs ats), none⟩ :: r)) :: k) .nrm tm S Q = CallK E nt 299 (xs.toList.map (E.ev tm)) d r k tm S Q := e_call d 299 xs ats r rfl
theorem call300 {nt : Nat} {k : List KI} {tm : PM AV} {S : St} {Q : PostA} (d : Option Tmp) (xs : Array Operand) (ats : Array TypeId) (r : List POp) : EndsA E nt (.c (.reg (⟨d, .call (Call.mk (.value (.func 300)) xs ats), none⟩ :: r)) :: k) .nrm tm S Q = CallK E nt 300 (xs.toList.map (E.ev tm)) d r k tm S Q := e_call d 300 xs ats r rfl
theorem call301 {nt : Nat} {k : List KI} {tm : PM AV} {S : St} {Q : PostA} (d : Option Tmp) (xs : Array Operand) (ats : Array TypeId) (r : List POp) : EndsA E nt (.c (.reg (⟨d, .call (Call.mk (.value (.func 301)) xs ats), none⟩ :: r)) :: k) .nrm tm S Q = CallK E nt 301 (xs.toList.map (E.ev tm)) d r k tm S Q := e_call d 301 xs ats r rfl
theorem call302 {nt : Nat} {k : List KI} {tm : PM AV} {S : St} {Q : PostA} (d : Option Tmp) (xs : Array Operand) (ats : Array TypeId) (r : List POp) : EndsA E nt (.c (.reg (⟨d, .call (Call.mk (.value (.func 302)) xs ats), none⟩ :: r)) :: k) .nrm tm S Q = CallK E nt 302 (xs.toList.map (E.ev tm)) d r k tm S Q := e_call d 302 xs ats r rfl
theorem call303 {nt : Nat} {k : List KI} {tm : PM AV} {S : St} {Q : PostA} (d : Option Tmp) (xs : Array Operand) (ats : Array TypeId) (r : List POp) : EndsA E nt (.c (.reg (⟨d, .call (Call.mk (.value (.func 303)) xs ats), none⟩ :: r)) :: k) .nrm tm S Q = CallK E nt 303 (xs.toList.map (E.ev tm)) d r k tm S Q := e_call d 303 xs ats r rfl
theorem call304 {nt : Nat} {k : List KI} {tm : PM AV} {S : St} {Q : PostA} (d : Option Tmp) (xs : Array Operand) (ats : Array TypeId) (r : List POp) : EndsA E nt (.c (.reg (⟨d, .call (Call.mk (.value (.func 304)) xs ats), none⟩ :: r)) :: k) .nrm tm S Q = CallK E nt 304 (xs.toList.map (E.ev tm)) d r k tm S Q := e_call d 304 xs ats r rfl
theorem call305 {nt : Nat} {k : List KI} {tm : PM AV} {S : St} {Q : PostA} (d : Option Tmp) (xs : Array Operand) (ats : Array TypeId) (r : List POp) : EndsA E nt (.c (.reg (⟨d, .call (Call.mk (.value (.func 305)) xs ats), none⟩ :: r)) :: k) .nrm tm S Q = CallK E nt 305 (xs.toList.map (E.ev tm)) d r k tm S Q := e_call d 305 xs ats r rfl
theorem call306 {nt : Nat} {k : List KI} {tm : PM AV} {S : St} {Q : PostA} (d : Option Tmp) (xs : Array Operand) (ats : Array TypeId) (r : List POp) : EndsA E nt (.c (.reg (⟨d, .call (Call.mk (.value (.func 306)) xs ats), none⟩ :: r)) :: k) .nrm tm S Q = CallK E nt 306 (xs.toList.map (E.ev tm)) d r k tm S Q := e_call d 306 xs ats r rfl
theorem call307 {nt : Nat} {k : List KI} {tm : PM AV} {S : St} {Q : PostA} (d : Option Tmp) (xs : Array Operand) (ats : Array TypeId) (r : List POp) : EndsA E nt (.c (.reg (⟨d, .call (Call.mk (.value (.func 307)) xs ats), none⟩ :: r)) :: k) .nrm tm S Q = CallK E nt 307 (xs.toList.map (E.ev tm)) d r k tm S Q := e_call d 307 xs ats r rfl
theorem call308 {nt : Nat} {k : List KI} {tm : PM AV} {S : St} {Q : PostA} (d : Option Tmp) (xs : Array Operand) (ats : Array TypeId) (r : List POp) : EndsA E nt (.c (.reg (⟨d, .call (Call.mk (.value (.func 308)) xs ats), none⟩ :: r)) :: k) .nrm tm S Q = CallK E nt 308 (xs.toList.map (E.ev tm)) d r k tm S Q := e_call d 308 xs ats r rfl
theorem call309 {nt : Nat} {k : List KI} {tm : PM AV} {S : St} {Q : PostA} (d : Option Tmp) (xs : Array Operand) (ats : Array TypeId) (r : List POp) : EndsA E nt (.c (.reg (⟨d, .call (Call.mk (.value (.func 309)) xs ats), none⟩ :: r)) :: k) .nrm tm S Q = CallK E nt 309 (xs.toList.map (E.ev tm)) d r k tm S Q := e_call d 309 xs ats r rfl
theorem call310 {nt : Nat} {k : List KI} {tm : PM AV} {S : St} {Q : PostA} (d : Option Tmp) (xs : Array Operand) (ats : Array TypeId) (r : List POp) : EndsA E nt (.c (.reg (⟨d, .call (Call.mk (.value (.func 310)) xs ats), none⟩ :: r)) :: k) .nrm tm S Q = CallK E nt 310 (xs.toList.map (E.ev tm)) d r k tm S Q := e_call d 310 xs ats r rfl
theorem call311 {nt : Nat} {k : List KI} {tm : PM AV} {S : St} {Q : PostA} (d : Option Tmp) (xs : Array Operand) (ats : Array TypeId) (r : List POp) : EndsA E nt (.c (.reg (⟨d, .call (Call.mk (.value (.func 311)) xs ats), none⟩ :: r)) :: k) .nrm tm S Q = CallK E nt 311 (xs.toList.map (E.ev tm)) d r k tm S Q := e_call d 311 xs ats r rfl
theorem call312 {nt : Nat} {k : List KI} {tm : PM AV} {S : St} {Q : PostA} (d : Option Tmp) (xs : Array Operand) (ats : Array TypeId) (r : List POp) : EndsA E nt (.c (.reg (⟨d, .call (Call.mk (.value (.func 312)) xs ats), none⟩ :: r)) :: k) .nrm tm S Q = CallK E nt 312 (xs.toList.map (E.ev tm)) d r k tm S Q := e_call d 312 xs ats r rfl
theorem call313 {nt : Nat} {k : List KI} {tm : PM AV} {S : St} {Q : PostA} (d : Option Tmp) (xs : Array Operand) (ats : Array TypeId) (r : List POp) : EndsA E nt (.c (.reg (⟨d, .call (Call.mk (.value (.func 313)) xs ats), none⟩ :: r)) :: k) .nrm tm S Q = CallK E nt 313 (xs.toList.map (E.ev tm)) d r k tm S Q := e_call d 313 xs ats r rfl
theorem call314 {nt : Nat} {k : List KI} {tm : PM AV} {S : St} {Q : PostA} (d : Option Tmp) (xs : Array Operand) (ats : Array TypeId) (r : List POp) : EndsA E nt (.c (.reg (⟨d, .call (Call.mk (.value (.func 314)) xs ats), none⟩ :: r)) :: k) .nrm tm S Q = CallK E nt 314 (xs.toList.map (E.ev tm)) d r k tm S Q := e_call d 314 xs ats r rfl
theorem call315 {nt : Nat} {k : List KI} {tm : PM AV} {S : St} {Q : PostA} (d : Option Tmp) (xs : Array Operand) (ats : Array TypeId) (r : List POp) : EndsA E nt (.c (.reg (⟨d, .call (Call.mk (.value (.func 315)) xs ats), none⟩ :: r)) :: k) .nrm tm S Q = CallK E nt 315 (xs.toList.map (E.ev tm)) d r k tm S Q := e_call d 315 xs ats r rfl
theorem call316 {nt : Nat} {k : List KI} {tm : PM AV} {S : St} {Q : PostA} (d : Option Tmp) (xs : Array Operand) (ats : Array TypeId) (r : List POp) : EndsA E nt (.c (.reg (⟨d, .call (Call.mk (.value (.func 316)) xs ats), none⟩ :: r)) :: k) .nrm tm S Q = CallK E nt 316 (xs.toList.map (E.ev tm)) d r k tm S Q := e_call d 316 xs ats r rfl
theorem call317 {nt : Nat} {k : List KI} {tm : PM AV} {S : St} {Q : PostA} (d : Option Tmp) (xs : Array Operand) (ats : Array TypeId) (r : List POp) : EndsA E nt (.c (.reg (⟨d, .call (Call.mk (.value (.func 317)) xs ats), none⟩ :: r)) :: k) .nrm tm S Q = CallK E nt 317 (xs.toList.map (E.ev tm)) d r k tm S Q := e_call d 317 xs ats r rfl
theorem call318 {nt : Nat} {k : List KI} {tm : PM AV} {S : St} {Q : PostA} (d : Option Tmp) (xs : Array Operand) (ats : Array TypeId) (r : List POp) : EndsA E nt (.c (.reg (⟨d, .call (Call.mk (.value (.func 318)) xs ats), none⟩ :: r)) :: k) .nrm tm S Q = CallK E nt 318 (xs.toList.map (E.ev tm)) d r k tm S Q := e_call d 318 xs ats r rfl
theorem call319 {nt : Nat} {k : List KI} {tm : PM AV} {S : St} {Q : PostA} (d : Option Tmp) (xs : Array Operand) (ats : Array TypeId) (r : List POp) : EndsA E nt (.c (.reg (⟨d, .call (Call.mk (.value (.func 319)) xs ats), none⟩ :: r)) :: k) .nrm tm S Q = CallK E nt 319 (xs.toList.map (E.ev tm)) d r k tm S Q := e_call d 319 xs ats r rfl
theorem call322 {nt : Nat} {k : List KI} {tm : PM AV} {S : St} {Q : PostA} (d : Option Tmp) (xs : Array Operand) (ats : Array TypeId) (r : List POp) : EndsA E nt (.c (.reg (⟨d, .call (Call.mk (.value (.func 322)) xs ats), none⟩ :: r)) :: k) .nrm tm S Q = CallK E nt 322 (xs.toList.map (E.ev tm)) d r k tm S Q := e_call d 322 xs ats r rfl
theorem call323 {nt : Nat} {k : List KI} {tm : PM AV} {S : St} {Q : PostA} (d : Option Tmp) (xs : Array Operand) (ats : Array TypeId) (r : List POp) : EndsA E nt (.c (.reg (⟨d, .call (Call.mk (.value (.func 323)) xs ats), none⟩ :: r)) :: k) .nrm tm S Q = CallK E nt 323 (xs.toList.map (E.ev tm)) d r k tm S Q := e_call d 323 xs ats r rfl
theorem call324 {nt : Nat} {k : List KI} {tm : PM AV} {S : St} {Q : PostA} (d : Option Tmp) (xs : Array Operand) (ats : Array TypeId) (r : List POp) : EndsA E nt (.c (.reg (⟨d, .call (Call.mk (.value (.func 324)) xs ats), none⟩ :: r)) :: k) .nrm tm S Q = CallK E nt 324 (xs.toList.map (E.ev tm)) d r k tm S Q := e_call d 324 xs ats r rfl
theorem call325 {nt : Nat} {k : List KI} {tm : PM AV} {S : St} {Q : PostA} (d : Option Tmp) (xs : Array Operand) (ats : Array TypeId) (r : List POp) : EndsA E nt (.c (.reg (⟨d, .call (Call.mk (.value (.func 325)) xs ats), none⟩ :: r)) :: k) .nrm tm S Q = CallK E nt 325 (xs.toList.map (E.ev tm)) d r k tm S Q := e_call d 325 xs ats r rfl
theorem call326 {nt : Nat} {k : List KI} {tm : PM AV} {S : St} {Q : PostA} (d : Option Tmp) (xs : Array Operand) (ats : Array TypeId) (r : List POp) : EndsA E nt (.c (.reg (⟨d, .call (Call.mk (.value (.func 326)) xs ats), none⟩ :: r)) :: k) .nrm tm S Q = CallK E nt 326 (xs.toList.map (E.ev tm)) d r k tm S Q := e_call d 326 xs ats r rfl
theorem call327 {nt : Nat} {k : List KI} {tm : PM AV} {S : St} {Q : PostA} (d : Option Tmp) (xs : Array Operand) (ats : Array TypeId) (r : List POp) : EndsA E nt (.c (.reg (⟨d, .call (Call.mk (.value (.func 327)) xs ats), none⟩ :: r)) :: k) .nrm tm S Q = CallK E nt 327 (xs.toList.map (E.ev tm)) d r k tm S Q := e_call d 327 xs ats r rfl
theorem call328 {nt : Nat} {k : List KI} {tm : PM AV} {S : St} {Q : PostA} (d : Option Tmp) (xs : Array Operand) (ats : Array TypeId) (r : List POp) : EndsA E nt (.c (.reg (⟨d, .call (Call.mk (.value (.func 328)) xs ats), none⟩ :: r)) :: k) .nrm tm S Q = CallK E nt 328 (xs.toList.map (E.ev tm)) d r k tm S Q := e_call d 328 xs ats r rfl
theorem call329 {nt : Nat} {k : List KI} {tm : PM AV} {S : St} {Q : PostA} (d : Option Tmp) (xs : Array Operand) (ats : Array TypeId) (r : List POp) : EndsA E nt (.c (.reg (⟨d, .call (Call.mk (.value (.func 329)) xs ats), none⟩ :: r)) :: k) .nrm tm S Q = CallK E nt 329 (xs.toList.map (E.ev tm)) d r k tm S Q := e_call d 329 xs ats r rfl
theorem call330 {nt : Nat} {k : List KI} {tm : PM AV} {S : St} {Q : PostA} (d : Option Tmp) (xs : Array Operand) (ats : Array TypeId) (r : List POp) : EndsA E nt (.c (.reg (⟨d, .call (Call.mk (.value (.func 330)) xs ats), none⟩ :: r)) :: k) .nrm tm S Q = CallK E nt 330 (xs.toList.map (E.ev tm)) d r k tm S Q := e_call d 330 xs ats r rfl
theorem call331 {nt : Nat} {k : List KI} {tm : PM AV} {S : St} {Q : PostA} (d : Option Tmp) (xs : Array Operand) (ats : Array TypeId) (r : List POp) : EndsA E nt (.c (.reg (⟨d, .call (Call.mk (.value (.func 331)) xs ats), none⟩ :: r)) :: k) .nrm tm S Q = CallK E nt 331 (xs.toList.map (E.ev tm)) d r k tm S Q := e_call d 331 xs ats r rfl
theorem call332 {nt : Nat} {k : List KI} {tm : PM AV} {S : St} {Q : PostA} (d : Option Tmp) (xs : Array Operand) (ats : Array TypeId) (r : List POp) : EndsA E nt (.c (.reg (⟨d, .call (Call.mk (.value (.func 332)) xs ats), none⟩ :: r)) :: k) .nrm tm S Q = CallK E nt 332 (xs.toList.map (E.ev tm)) d r k tm S Q := e_call d 332 xs ats r rfl
theorem call333 {nt : Nat} {k : List KI} {tm : PM AV} {S : St} {Q : PostA} (d : Option Tmp) (xs : Array Operand) (ats : Array TypeId) (r : List POp) : EndsA E nt (.c (.reg (⟨d, .call (Call.mk (.value (.func 333)) xs ats), none⟩ :: r)) :: k) .nrm tm S Q = CallK E nt 333 (xs.toList.map (E.ev tm)) d r k tm S Q := e_call d 333 xs ats r rfl
theorem call334 {nt : Nat} {k : List KI} {tm : PM AV} {S : St} {Q : PostA} (d : Option Tmp) (xs : Array Operand) (ats : Array TypeId) (r : List POp) : EndsA E nt (.c (.reg (⟨d, .call (Call.mk (.value (.func 334)) xs ats), none⟩ :: r)) :: k) .nrm tm S Q = CallK E nt 334 (xs.toList.map (E.ev tm)) d r k tm S Q := e_call d 334 xs ats r rfl
theorem call335 {nt : Nat} {k : List KI} {tm : PM AV} {S : St} {Q : PostA} (d : Option Tmp) (xs : Array Operand) (ats : Array TypeId) (r : List POp) : EndsA E nt (.c (.reg (⟨d, .call (Call.mk (.value (.func 335)) xs ats), none⟩ :: r)) :: k) .nrm tm S Q = CallK E nt 335 (xs.toList.map (E.ev tm)) d r k tm S Q := e_call d 335 xs ats r rfl
theorem call336 {nt : Nat} {k : List KI} {tm : PM AV} {S : St} {Q : PostA} (d : Option Tmp) (xs : Array Operand) (ats : Array TypeId) (r : List POp) : EndsA E nt (.c (.reg (⟨d, .call (Call.mk (.value (.func 336)) xs ats), none⟩ :: r)) :: k) .nrm tm S Q = CallK E nt 336 (xs.toList.map (E.ev tm)) d r k tm S Q := e_call d 336 xs ats r rfl
theorem call337 {nt : Nat} {k : List KI} {tm : PM AV} {S : St} {Q : PostA} (d : Option Tmp) (xs : Array Operand) (ats : Array TypeId) (r : List POp) : EndsA E nt (.c (.reg (⟨d, .call (Call.mk (.value (.func 337)) xs ats), none⟩ :: r)) :: k) .nrm tm S Q = CallK E nt 337 (xs.toList.map (E.ev tm)) d r k tm S Q := e_call d 337 xs ats r rfl
theorem call338 {nt : Nat} {k : List KI} {tm : PM AV} {S : St} {Q : PostA} (d : Option Tmp) (xs : Array Operand) (ats : Array TypeId) (r : List POp) : EndsA E nt (.c (.reg (⟨d, .call (Call.mk (.value (.func 338)) xs ats), none⟩ :: r)) :: k) .nrm tm S Q = CallK E nt 338 (xs.toList.map (E.ev tm)) d r k tm S Q := e_call d 338 xs ats r rfl
theorem call339 {nt : Nat} {k : List KI} {tm : PM AV} {S : St} {Q : PostA} (d : Option Tmp) (xs : Array Operand) (ats : Array TypeId) (r : List POp) : EndsA E nt (.c (.reg (⟨d, .call (Call.mk (.value (.func 339)) xs ats), none⟩ :: r)) :: k) .nrm tm S Q = CallK E nt 339 (xs.toList.map (E.ev tm)) d r k tm S Q := e_call d 339 xs ats r rfl
theorem call340 {nt : Nat} {k : List KI} {tm : PM AV} {S : St} {Q : PostA} (d : Option Tmp) (xs : Array Operand) (ats : Array TypeId) (r : List POp) : EndsA E nt (.c (.reg (⟨d, .call (Call.mk (.value (.func 340)) xs ats), none⟩ :: r)) :: k) .nrm tm S Q = CallK E nt 340 (xs.toList.map (E.ev tm)) d r k tm S Q := e_call d 340 xs ats r rfl
theorem call341 {nt : Nat} {k : List KI} {tm : PM AV} {S : St} {Q : PostA} (d : Option Tmp) (xs : Array Operand) (ats : Array TypeId) (r : List POp) : EndsA E nt (.c (.reg (⟨d, .call (Call.mk (.value (.func 341)) xs ats), none⟩ :: r)) :: k) .nrm tm S Q = CallK E nt 341 (xs.toList.map (E.ev tm)) d r k tm S Q := e_call d 341 xs ats r rfl
theorem call342 {nt : Nat} {k : List KI} {tm : PM AV} {S : St} {Q : PostA} (d : Option Tmp) (xs : Array Operand) (ats : Array TypeId) (r : List POp) : EndsA E nt (.c (.reg (⟨d, .call (Call.mk (.value (.func 342)) xs ats), none⟩ :: r)) :: k) .nrm tm S Q = CallK E nt 342 (xs.toList.map (E.ev tm)) d r k tm S Q := e_call d 342 xs ats r rfl
theorem call343 {nt : Nat} {k : List KI} {tm : PM AV} {S : St} {Q : PostA} (d : Option Tmp) (xs : Array Operand) (ats : Array TypeId) (r : List POp) : EndsA E nt (.c (.reg (⟨d, .call (Call.mk (.value (.func 343)) xs ats), none⟩ :: r)) :: k) .nrm tm S Q = CallK E nt 343 (xs.toList.map (E.ev tm)) d r k tm S Q := e_call d 343 xs ats r rfl
theorem call344 {nt : Nat} {k : List KI} {tm : PM AV} {S : St} {Q : PostA} (d : Option Tmp) (xs : Array Operand) (ats : Array TypeId) (r : List POp) : EndsA E nt (.c (.reg (⟨d, .call (Call.mk (.value (.func 344)) xs ats), none⟩ :: r)) :: k) .nrm tm S Q = CallK E nt 344 (xs.toList.map (E.ev tm)) d r k tm S Q := e_call d 344 xs ats r rfl
theorem call345 {nt : Nat} {k : List KI} {tm : PM AV} {S : St} {Q : PostA} (d : Option Tmp) (xs : Array Operand) (ats : Array TypeId) (r : List POp) : EndsA E nt (.c (.reg (⟨d, .call (Call.mk (.value (.func 345)) xs ats), none⟩ :: r)) :: k) .nrm tm S Q = CallK E nt 345 (xs.toList.map (E.ev tm)) d r k tm S Q := e_call d 345 xs ats r rfl
theorem call346 {nt : Nat} {k : List KI} {tm : PM AV} {S : St} {Q : PostA} (d : Option Tmp) (xs : Array Operand) (ats : Array TypeId) (r : List POp) : EndsA E nt (.c (.reg (⟨d, .call (Call.mk (.value (.func 346)) xs ats), none⟩ :: r)) :: k) .nrm tm S Q = CallK E nt 346 (xs.toList.map (E.ev tm)) d r k tm S Q := e_call d 346 xs ats r rfl
theorem call347 {nt : Nat} {k : List KI} {tm : PM AV} {S : St} {Q : PostA} (d : Option Tmp) (xs : Array Operand) (ats : Array TypeId) (r : List POp) : EndsA E nt (.c (.reg (⟨d, .call (Call.mk (.value (.func 347)) xs ats), none⟩ :: r)) :: k) .nrm tm S Q = CallK E nt 347 (xs.toList.map (E.ev tm)) d r k tm S Q := e_call d 347 xs ats r rfl
theorem call348 {nt : Nat} {k : List KI} {tm : PM AV} {S : St} {Q : PostA} (d : Option Tmp) (xs : Array Operand) (ats : Array TypeId) (r : List POp) : EndsA E nt (.c (.reg (⟨d, .call (Call.mk (.value (.func 348)) xs ats), none⟩ :: r)) :: k) .nrm tm S Q = CallK E nt 348 (xs.toList.map (E.ev tm)) d r k tm S Q := e_call d 348 xs ats r rfl
theorem call349 {nt : Nat} {k : List KI} {tm : PM AV} {S : St} {Q : PostA} (d : Option Tmp) (xs : Array Operand) (ats : Array TypeId) (r : List POp) : EndsA E nt (.c (.reg (⟨d, .call (Call.mk (.value (.func 349)) xs ats), none⟩ :: r)) :: k) .nrm tm S Q = CallK E nt 349 (xs.toList.map (E.ev tm)) d r k tm S Q := e_call d 349 xs ats r rfl
theorem call350 {nt : Nat} {k : List KI} {tm : PM AV} {S : St} {Q : PostA} (d : Option Tmp) (xs : Array Operand) (ats : Array TypeId) (r : List POp) : EndsA E nt (.c (.reg (⟨d, .call (Call.mk (.value (.func 350)) xs ats), none⟩ :: r)) :: k) .nrm tm S Q = CallK E nt 350 (xs.toList.map (E.ev tm)) d r k tm S Q := e_call d 350 xs ats r rfl
theorem call351 {nt : Nat} {k : List KI} {tm : PM AV} {S : St} {Q : PostA} (d : Option Tmp) (xs : Array Operand) (ats : Array TypeId) (r : List POp) : EndsA E nt (.c (.reg (⟨d, .call (Call.mk (.value (.func 351)) xs ats), none⟩ :: r)) :: k) .nrm tm S Q = CallK E nt 351 (xs.toList.map (E.ev tm)) d r k tm S Q := e_call d 351 xs ats r rfl
theorem call352 {nt : Nat} {k : List KI} {tm : PM AV} {S : St} {Q : PostA} (d : Option Tmp) (xs : Array Operand) (ats : Array TypeId) (r : List POp) : EndsA E nt (.c (.reg (⟨d, .call (Call.mk (.value (.func 352)) xs ats), none⟩ :: r)) :: k) .nrm tm S Q = CallK E nt 352 (xs.toList.map (E.ev tm)) d r k tm S Q := e_call d 352 xs ats r rfl
theorem call353 {nt : Nat} {k : List KI} {tm : PM AV} {S : St} {Q : PostA} (d : Option Tmp) (xs : Array Operand) (ats : Array TypeId) (r : List POp) : EndsA E nt (.c (.reg (⟨d, .call (Call.mk (.value (.func 353)) xs ats), none⟩ :: r)) :: k) .nrm tm S Q = CallK E nt 353 (xs.toList.map (E.ev tm)) d r k tm S Q := e_call d 353 xs ats r rfl
theorem call354 {nt : Nat} {k : List KI} {tm : PM AV} {S : St} {Q : PostA} (d : Option Tmp) (xs : Array Operand) (ats : Array TypeId) (r : List POp) : EndsA E nt (.c (.reg (⟨d, .call (Call.mk (.value (.func 354)) xs ats), none⟩ :: r)) :: k) .nrm tm S Q = CallK E nt 354 (xs.toList.map (E.ev tm)) d r k tm S Q := e_call d 354 xs ats r rfl
theorem call355 {nt : Nat} {k : List KI} {tm : PM AV} {S : St} {Q : PostA} (d : Option Tmp) (xs : Array Operand) (ats : Array TypeId) (r : List POp) : EndsA E nt (.c (.reg (⟨d, .call (Call.mk (.value (.func 355)) xs ats), none⟩ :: r)) :: k) .nrm tm S Q = CallK E nt 355 (xs.toList.map (E.ev tm)) d r k tm S Q := e_call d 355 xs ats r rfl
theorem call356 {nt : Nat} {k : List KI} {tm : PM AV} {S : St} {Q : PostA} (d : Option Tmp) (xs : Array Operand) (ats : Array TypeId) (r : List POp) : EndsA E nt (.c (.reg (⟨d, .call (Call.mk (.value (.func 356)) xs ats), none⟩ :: r)) :: k) .nrm tm S Q = CallK E nt 356 (xs.toList.map (E.ev tm)) d r k tm S Q := e_call d 356 xs ats r rfl
theorem call357 {nt : Nat} {k : List KI} {tm : PM AV} {S : St} {Q : PostA} (d : Option Tmp) (xs : Array Operand) (ats : Array TypeId) (r : List POp) : EndsA E nt (.c (.reg (⟨d, .call (Call.mk (.value (.func 357)) xs ats), none⟩ :: r)) :: k) .nrm tm S Q = CallK E nt 357 (xs.toList.map (E.ev tm)) d r k tm S Q := e_call d 357 xs ats r rfl
theorem call358 {nt : Nat} {k : List KI} {tm : PM AV} {S : St} {Q : PostA} (d : Option Tmp) (xs : Array Operand) (ats : Array TypeId) (r : List POp) : EndsA E nt (.c (.reg (⟨d, .call (Call.mk (.value (.func 358)) xs ats), none⟩ :: r)) :: k) .nrm tm S Q = CallK E nt 358 (xs.toList.map (E.ev tm)) d r k tm S Q := e_call d 358 xs ats r rfl
theorem call359 {nt : Nat} {k : List KI} {tm : PM AV} {S : St} {Q : PostA} (d : Option Tmp) (xs : Array Operand) (ats : Array TypeId) (r : List POp) : EndsA E nt (.c (.reg (⟨d, .call (Call.mk (.value (.func 359)) xs ats), none⟩ :: r)) :: k) .nrm tm S Q = CallK E nt 359 (xs.toList.map (E.ev tm)) d r k tm S Q := e_call d 359 xs ats r rfl
theorem call360 {nt : Nat} {k : List KI} {tm : PM AV} {S : St} {Q : PostA} (d : Option Tmp) (xs : Array Operand) (ats : Array TypeId) (r : List POp) : EndsA E nt (.c (.reg (⟨d, .call (Call.mk (.value (.func 360)) xs ats), none⟩ :: r)) :: k) .nrm tm S Q = CallK E nt 360 (xs.toList.map (E.ev tm)) d r k tm S Q := e_call d 360 xs ats r rfl
theorem call361 {nt : Nat} {k : List KI} {tm : PM AV} {S : St} {Q : PostA} (d : Option Tmp) (xs : Array Operand) (ats : Array TypeId) (r : List POp) : EndsA E nt (.c (.reg (⟨d, .call (Call.mk (.value (.func 361)) xs ats), none⟩ :: r)) :: k) .nrm tm S Q = CallK E nt 361 (xs.toList.map (E.ev tm)) d r k tm S Q := e_call d 361 xs ats r rfl
theorem call362 {nt : Nat} {k : List KI} {tm : PM AV} {S : St} {Q : PostA} (d : Option Tmp) (xs : Array Operand) (ats : Array TypeId) (r : List POp) : EndsA E nt (.c (.reg (⟨d, .call (Call.mk (.value (.func 362)) xs ats), none⟩ :: r)) :: k) .nrm tm S Q = CallK E nt 362 (xs.toList.map (E.ev tm)) d r k tm S Q := e_call d 362 xs ats r rfl
theorem call363 {nt : Nat} {k : List KI} {tm : PM AV} {S : St} {Q : PostA} (d : Option Tmp) (xs : Array Operand) (ats : Array TypeId) (r : List POp) : EndsA E nt (.c (.reg (⟨d, .call (Call.mk (.value (.func 363)) xs ats), none⟩ :: r)) :: k) .nrm tm S Q = CallK E nt 363 (xs.toList.map (E.ev tm)) d r k tm S Q := e_call d 363 xs ats r rfl
theorem call364 {nt : Nat} {k : List KI} {tm : PM AV} {S : St} {Q : PostA} (d : Option Tmp) (xs : Array Operand) (ats : Array TypeId) (r : List POp) : EndsA E nt (.c (.reg (⟨d, .call (Call.mk (.value (.func 364)) xs ats), none⟩ :: r)) :: k) .nrm tm S Q = CallK E nt 364 (xs.toList.map (E.ev tm)) d r k tm S Q := e_call d 364 xs ats r rfl
theorem call365 {nt : Nat} {k : List KI} {tm : PM AV} {S : St} {Q : PostA} (d : Option Tmp) (xs : Array Operand) (ats : Array TypeId) (r : List POp) : EndsA E nt (.c (.reg (⟨d, .call (Call.mk (.value (.func 365)) xs ats), none⟩ :: r)) :: k) .nrm tm S Q = CallK E nt 365 (xs.toList.map (E.ev tm)) d r k tm S Q := e_call d 365 xs ats r rfl
theorem call366 {nt : Nat} {k : List KI} {tm : PM AV} {S : St} {Q : PostA} (d : Option Tmp) (xs : Array Operand) (ats : Array TypeId) (r : List POp) : EndsA E nt (.c (.reg (⟨d, .call (Call.mk (.value (.func 366)) xs ats), none⟩ :: r)) :: k) .nrm tm S Q = CallK E nt 366 (xs.toList.map (E.ev tm)) d r k tm S Q := e_call d 366 xs ats r rfl
theorem call367 {nt : Nat} {k : List KI} {tm : PM AV} {S : St} {Q : PostA} (d : Option Tmp) (xs : Array Operand) (ats : Array TypeId) (r : List POp) : EndsA E nt (.c (.reg (⟨d, .call (Call.mk (.value (.func 367)) xs ats), none⟩ :: r)) :: k) .nrm tm S Q = CallK E nt 367 (xs.toList.map (E.ev tm)) d r k tm S Q := e_call d 367 xs ats r rfl
theorem call368 {nt : Nat} {k : List KI} {tm : PM AV} {S : St} {Q : PostA} (d : Option Tmp) (xs : Array Operand) (ats : Array TypeId) (r : List POp) : EndsA E nt (.c (.reg (⟨d, .call (Call.mk (.value (.func 368)) xs ats), none⟩ :: r)) :: k) .nrm tm S Q = CallK E nt 368 (xs.toList.map (E.ev tm)) d r k tm S Q := e_call d 368 xs ats r rfl
theorem call369 {nt : Nat} {k : List KI} {tm : PM AV} {S : St} {Q : PostA} (d : Option Tmp) (xs : Array Operand) (ats : Array TypeId) (r : List POp) : EndsA E nt (.c (.reg (⟨d, .call (Call.mk (.value (.func 369)) xs ats), none⟩ :: r)) :: k) .nrm tm S Q = CallK E nt 369 (xs.toList.map (E.ev tm)) d r k tm S Q := e_call d 369 xs ats r rfl
theorem call370 {nt : Nat} {k : List KI} {tm : PM AV} {S : St} {Q : PostA} (d : Option Tmp) (xs : Array Operand) (ats : Array TypeId) (r : List POp) : EndsA E nt (.c (.reg (⟨d, .call (Call.mk (.value (.func 370)) xs ats), none⟩ :: r)) :: k) .nrm tm S Q = CallK E nt 370 (xs.toList.map (E.ev tm)) d r k tm S Q := e_call d 370 xs ats r rfl
theorem call371 {nt : Nat} {k : List KI} {tm : PM AV} {S : St} {Q : PostA} (d : Option Tmp) (xs : Array Operand) (ats : Array TypeId) (r : List POp) : EndsA E nt (.c (.reg (⟨d, .call (Call.mk (.value (.func 371)) xs ats), none⟩ :: r)) :: k) .nrm tm S Q = CallK E nt 371 (xs.toList.map (E.ev tm)) d r k tm S Q := e_call d 371 xs ats r rfl
theorem call372 {nt : Nat} {k : List KI} {tm : PM AV} {S : St} {Q : PostA} (d : Option Tmp) (xs : Array Operand) (ats : Array TypeId) (r : List POp) : EndsA E nt (.c (.reg (⟨d, .call (Call.mk (.value (.func 372)) xs ats), none⟩ :: r)) :: k) .nrm tm S Q = CallK E nt 372 (xs.toList.map (E.ev tm)) d r k tm S Q := e_call d 372 xs ats r rfl
theorem call373 {nt : Nat} {k : List KI} {tm : PM AV} {S : St} {Q : PostA} (d : Option Tmp) (xs : Array Operand) (ats : Array TypeId) (r : List POp) : EndsA E nt (.c (.reg (⟨d, .call (Call.mk (.value (.func 373)) xs ats), none⟩ :: r)) :: k) .nrm tm S Q = CallK E nt 373 (xs.toList.map (E.ev tm)) d r k tm S Q := e_call d 373 xs ats r rfl
theorem call374 {nt : Nat} {k : List KI} {tm : PM AV} {S : St} {Q : PostA} (d : Option Tmp) (xs : Array Operand) (ats : Array TypeId) (r : List POp) : EndsA E nt (.c (.reg (⟨d, .call (Call.mk (.value (.func 374)) xs ats), none⟩ :: r)) :: k) .nrm tm S Q = CallK E nt 374 (xs.toList.map (E.ev tm)) d r k tm S Q := e_call d 374 xs ats r rfl
theorem call375 {nt : Nat} {k : List KI} {tm : PM AV} {S : St} {Q : PostA} (d : Option Tmp) (xs : Array Operand) (ats : Array TypeId) (r : List POp) : EndsA E nt (.c (.reg (⟨d, .call (Call.mk (.value (.func 375)) xs ats), none⟩ :: r)) :: k) .nrm tm S Q = CallK E nt 375 (xs.toList.map (E.ev tm)) d r k tm S Q := e_call d 375 xs ats r rfl
theorem call376 {nt : Nat} {k : List KI} {tm : PM AV} {S : St} {Q : PostA} (d : Option Tmp) (xs : Array Operand) (ats : Array TypeId) (r : List POp) : EndsA E nt (.c (.reg (⟨d, .call (Call.mk (.value (.func 376)) xs ats), none⟩ :: r)) :: k) .nrm tm S Q = CallK E nt 376 (xs.toList.map (E.ev tm)) d r k tm S Q := e_call d 376 xs ats r rfl
theorem call377 {nt : Nat} {k : List KI} {tm : PM AV} {S : St} {Q : PostA} (d : Option Tmp) (xs : Array Operand) (ats : Array TypeId) (r : List POp) : EndsA E nt (.c (.reg (⟨d, .call (Call.mk (.value (.func 377)) xs ats), none⟩ :: r)) :: k) .nrm tm S Q = CallK E nt 377 (xs.toList.map (E.ev tm)) d r k tm S Q := e_call d 377 xs ats r rfl
theorem call378 {nt : Nat} {k : List KI} {tm : PM AV} {S : St} {Q : PostA} (d : Option Tmp) (xs : Array Operand) (ats : Array TypeId) (r : List POp) : EndsA E nt (.c (.reg (⟨d, .call (Call.mk (.value (.func 378)) xs ats), none⟩ :: r)) :: k) .nrm tm S Q = CallK E nt 378 (xs.toList.map (E.ev tm)) d r k tm S Q := e_call d 378 xs ats r rfl
theorem call379 {nt : Nat} {k : List KI} {tm : PM AV} {S : St} {Q : PostA} (d : Option Tmp) (xs : Array Operand) (ats : Array TypeId) (r : List POp) : EndsA E nt (.c (.reg (⟨d, .call (Call.mk (.value (.func 379)) xs ats), none⟩ :: r)) :: k) .nrm tm S Q = CallK E nt 379 (xs.toList.map (E.ev tm)) d r k tm S Q := e_call d 379 xs ats r rfl
theorem call380 {nt : Nat} {k : List KI} {tm : PM AV} {S : St} {Q : PostA} (d : Option Tmp) (xs : Array Operand) (ats : Array TypeId) (r : List POp) : EndsA E nt (.c (.reg (⟨d, .call (Call.mk (.value (.func 380)) xs ats), none⟩ :: r)) :: k) .nrm tm S Q = CallK E nt 380 (xs.toList.map (E.ev tm)) d r k tm S Q := e_call d 380 xs ats r rfl
theorem call381 {nt : Nat} {k : List KI} {tm : PM AV} {S : St} {Q : PostA} (d : Option Tmp) (xs : Array Operand) (ats : Array TypeId) (r : List POp) : EndsA E nt (.c (.reg (⟨d, .call (Call.mk (.value (.func 381)) xs ats), none⟩ :: r)) :: k) .nrm tm S Q = CallK E nt 381 (xs.toList.map (E.ev tm)) d r k tm S Q := e_call d 381 xs ats r rfl
theorem call382 {nt : Nat} {k : List KI} {tm : PM AV} {S : St} {Q : PostA} (d : Option Tmp) (xs : Array Operand) (ats : Array TypeId) (r : List POp) : EndsA E nt (.c (.reg (⟨d, .call (Call.mk (.value (.func 382)) xs ats), none⟩ :: r)) :: k) .nrm tm S Q = CallK E nt 382 (xs.toList.map (E.ev tm)) d r k tm S Q := e_call d 382 xs ats r rfl
theorem call383 {nt : Nat} {k : List KI} {tm : PM AV} {S : St} {Q : PostA} (d : Option Tmp) (xs : Array Operand) (ats : Array TypeId) (r : List POp) : EndsA E nt (.c (.reg (⟨d, .call (Call.mk (.value (.func 383)) xs ats), none⟩ :: r)) :: k) .nrm tm S Q = CallK E nt 383 (xs.toList.map (E.ev tm)) d r k tm S Q := e_call d 383 xs ats r rfl
theorem call384 {nt : Nat} {k : List KI} {tm : PM AV} {S : St} {Q : PostA} (d : Option Tmp) (xs : Array Operand) (ats : Array TypeId) (r : List POp) : EndsA E nt (.c (.reg (⟨d, .call (Call.mk (.value (.func 384)) xs ats), none⟩ :: r)) :: k) .nrm tm S Q = CallK E nt 384 (xs.toList.map (E.ev tm)) d r k tm S Q := e_call d 384 xs ats r rfl
theorem call385 {nt : Nat} {k : List KI} {tm : PM AV} {S : St} {Q : PostA} (d : Option Tmp) (xs : Array Operand) (ats : Array TypeId) (r : List POp) : EndsA E nt (.c (.reg (⟨d, .call (Call.mk (.value (.func 385)) xs ats), none⟩ :: r)) :: k) .nrm tm S Q = CallK E nt 385 (xs.toList.map (E.ev tm)) d r k tm S Q := e_call d 385 xs ats r rfl
theorem call386 {nt : Nat} {k : List KI} {tm : PM AV} {S : St} {Q : PostA} (d : Option Tmp) (xs : Array Operand) (ats : Array TypeId) (r : List POp) : EndsA E nt (.c (.reg (⟨d, .call (Call.mk (.value (.func 386)) xs ats), none⟩ :: r)) :: k) .nrm tm S Q = CallK E nt 386 (xs.toList.map (E.ev tm)) d r k tm S Q := e_call d 386 xs ats r rfl
theorem call387 {nt : Nat} {k : List KI} {tm : PM AV} {S : St} {Q : PostA} (d : Option Tmp) (xs : Array Operand) (ats : Array TypeId) (r : List POp) : EndsA E nt (.c (.reg (⟨d, .call (Call.mk (.value (.func 387)) xs ats), none⟩ :: r)) :: k) .nrm tm S Q = CallK E nt 387 (xs.toList.map (E.ev tm)) d r k tm S Q := e_call d 387 xs ats r rfl
theorem call388 {nt : Nat} {k : List KI} {tm : PM AV} {S : St} {Q : PostA} (d : Option Tmp) (xs : Array Operand) (ats : Array TypeId) (r : List POp) : EndsA E nt (.c (.reg (⟨d, .call (Call.mk (.value (.func 388)) xs ats), none⟩ :: r)) :: k) .nrm tm S Q = CallK E nt 388 (xs.toList.map (E.ev tm)) d r k tm S Q := e_call d 388 xs ats r rfl
theorem call389 {nt : Nat} {k : List KI} {tm : PM AV} {S : St} {Q : PostA} (d : Option Tmp) (xs : Array Operand) (ats : Array TypeId) (r : List POp) : EndsA E nt (.c (.reg (⟨d, .call (Call.mk (.value (.func 389)) xs ats), none⟩ :: r)) :: k) .nrm tm S Q = CallK E nt 389 (xs.toList.map (E.ev tm)) d r k tm S Q := e_call d 389 xs ats r rfl
theorem call390 {nt : Nat} {k : List KI} {tm : PM AV} {S : St} {Q : PostA} (d : Option Tmp) (xs : Array Operand) (ats : Array TypeId) (r : List POp) : EndsA E nt (.c (.reg (⟨d, .call (Call.mk (.value (.func 390)) xs ats), none⟩ :: r)) :: k) .nrm tm S Q = CallK E nt 390 (xs.toList.map (E.ev tm)) d r k tm S Q := e_call d 390 xs ats r rfl
theorem call391 {nt : Nat} {k : List KI} {tm : PM AV} {S : St} {Q : PostA} (d : Option Tmp) (xs : Array Operand) (ats : Array TypeId) (r : List POp) : EndsA E nt (.c (.reg (⟨d, .call (Call.mk (.value (.func 391)) xs ats), none⟩ :: r)) :: k) .nrm tm S Q = CallK E nt 391 (xs.toList.map (E.ev tm)) d r k tm S Q := e_call d 391 xs ats r rfl
theorem call392 {nt : Nat} {k : List KI} {tm : PM AV} {S : St} {Q : PostA} (d : Option Tmp) (xs : Array Operand) (ats : Array TypeId) (r : List POp) : EndsA E nt (.c (.reg (⟨d, .call (Call.mk (.value (.func 392)) xs ats), none⟩ :: r)) :: k) .nrm tm S Q = CallK E nt 392 (xs.toList.map (E.ev tm)) d r k tm S Q := e_call d 392 xs ats r rfl
theorem call393 {nt : Nat} {k : List KI} {tm : PM AV} {S : St} {Q : PostA} (d : Option Tmp) (xs : Array Operand) (ats : Array TypeId) (r : List POp) : EndsA E nt (.c (.reg (⟨d, .call (Call.mk (.value (.func 393)) xs ats), none⟩ :: r)) :: k) .nrm tm S Q = CallK E nt 393 (xs.toList.map (E.ev tm)) d r k tm S Q := e_call d 393 xs ats r rfl
theorem call394 {nt : Nat} {k : List KI} {tm : PM AV} {S : St} {Q : PostA} (d : Option Tmp) (xs : Array Operand) (ats : Array TypeId) (r : List POp) : EndsA E nt (.c (.reg (⟨d, .call (Call.mk (.value (.func 394)) xs ats), none⟩ :: r)) :: k) .nrm tm S Q = CallK E nt 394 (xs.toList.map (E.ev tm)) d r k tm S Q := e_call d 394 xs ats r rfl
theorem call395 {nt : Nat} {k : List KI} {tm : PM AV} {S : St} {Q : PostA} (d : Option Tmp) (xs : Array Operand) (ats : Array TypeId) (r : List POp) : EndsA E nt (.c (.reg (⟨d, .call (Call.mk (.value (.func 395)) xs ats), none⟩ :: r)) :: k) .nrm tm S Q = CallK E nt 395 (xs.toList.map (E.ev tm)) d r k tm S Q := e_call d 395 xs ats r rfl
theorem call396 {nt : Nat} {k : List KI} {tm : PM AV} {S : St} {Q : PostA} (d : Option Tmp) (xs : Array Operand) (ats : Array TypeId) (r : List POp) : EndsA E nt (.c (.reg (⟨d, .call (Call.mk (.value (.func 396)) xs ats), none⟩ :: r)) :: k) .nrm tm S Q = CallK E nt 396 (xs.toList.map (E.ev tm)) d r k tm S Q := e_call d 396 xs ats r rfl
theorem call397 {nt : Nat} {k : List KI} {tm : PM AV} {S : St} {Q : PostA} (d : Option Tmp) (xs : Array Operand) (ats : Array TypeId) (r : List POp) : EndsA E nt (.c (.reg (⟨d, .call (Call.mk (.value (.func 397)) xs ats), none⟩ :: r)) :: k) .nrm tm S Q = CallK E nt 397 (xs.toList.map (E.ev tm)) d r k tm S Q := e_call d 397 xs ats r rfl
theorem call398 {nt : Nat} {k : List KI} {tm : PM AV} {S : St} {Q : PostA} (d : Option Tmp) (xs : Array Operand) (ats : Array TypeId) (r : List POp) : EndsA E nt (.c (.reg (⟨d, .call (Call.mk (.value (.func 398)) xs ats), none⟩ :: r)) :: k) .nrm tm S Q = CallK E nt 398 (xs.toList.map (E.ev tm)) d r k tm S Q := e_call d 398 xs ats r rfl
theorem call399 {nt : Nat} {k : List KI} {tm : PM AV} {S : St} {Q : PostA} (d : Option Tmp) (xs : Array Operand) (ats : Array TypeId) (r : List POp) : EndsA E nt (.c (.reg (⟨d, .call (Call.mk (.value (.func 399)) xs ats), none⟩ :: r)) :: k) .nrm tm S Q = CallK E nt 399 (xs.toList.map (E.ev tm)) d r k tm S Q := e_call d 399 xs ats r rfl
theorem call400 {nt : Nat} {k : List KI} {tm : PM AV} {S : St} {Q : PostA} (d : Option Tmp) (xs : Array Operand) (ats : Array TypeId) (r : List POp) : EndsA E nt (.c (.reg (⟨d, .call (Call.mk (.value (.func 400)) xs ats), none⟩ :: r)) :: k) .nrm tm S Q = CallK E nt 400 (xs.toList.map (E.ev tm)) d r k tm S Q := e_call d 400 xs ats r rfl
theorem call401 {nt : Nat} {k : List KI} {tm : PM AV} {S : St} {Q : PostA} (d : Option Tmp) (xs : Array Operand) (ats : Array TypeId) (r : List POp) : EndsA E nt (.c (.reg (⟨d, .call (Call.mk (.value (.func 401)) xs ats), none⟩ :: r)) :: k) .nrm tm S Q = CallK E nt 401 (xs.toList.map (E.ev tm)) d r k tm S Q := e_call d 401 xs ats r rfl
theorem call402 {nt : Nat} {k : List KI} {tm : PM AV} {S : St} {Q : PostA} (d : Option Tmp) (xs : Array Operand) (ats : Array TypeId) (r : List POp) : EndsA E nt (.c (.reg (⟨d, .call (Call.mk (.value (.func 402)) xs ats), none⟩ :: r)) :: k) .nrm tm S Q = CallK E nt 402 (xs.toList.map (E.ev tm)) d r k tm S Q := e_call d 402 xs ats r rfl
theorem call403 {nt : Nat} {k : List KI} {tm : PM AV} {S : St} {Q : PostA} (d : Option Tmp) (xs : Array Operand) (ats : Array TypeId) (r : List POp) : EndsA E nt (.c (.reg (⟨d, .call (Call.mk (.value (.func 403)) xs ats), none⟩ :: r)) :: k) .nrm tm S Q = CallK E nt 403 (xs.toList.map (E.ev tm)) d r k tm S Q := e_call d 403 xs ats r rfl
theorem call404 {nt : Nat} {k : List KI} {tm : PM AV} {S : St} {Q : PostA} (d : Option Tmp) (xs : Array Operand) (ats : Array TypeId) (r : List POp) : EndsA E nt (.c (.reg (⟨d, .call (Call.mk (.value (.func 404)) xs ats), none⟩ :: r)) :: k) .nrm tm S Q = CallK E nt 404 (xs.toList.map (E.ev tm)) d r k tm S Q := e_call d 404 xs ats r rfl
theorem call405 {nt : Nat} {k : List KI} {tm : PM AV} {S : St} {Q : PostA} (d : Option Tmp) (xs : Array Operand) (ats : Array TypeId) (r : List POp) : EndsA E nt (.c (.reg (⟨d, .call (Call.mk (.value (.func 405)) xs ats), none⟩ :: r)) :: k) .nrm tm S Q = CallK E nt 405 (xs.toList.map (E.ev tm)) d r k tm S Q := e_call d 405 xs ats r rfl
theorem call436 {nt : Nat} {k : List KI} {tm : PM AV} {S : St} {Q : PostA} (d : Option Tmp) (xs : Array Operand) (ats : Array TypeId) (r : List POp) : EndsA E nt (.c (.reg (⟨d, .call (Call.mk (.value (.func 436)) xs ats), none⟩ :: r)) :: k) .nrm tm S Q = CallK E nt 436 (xs.toList.map (E.ev tm)) d r k tm S Q := e_call d 436 xs ats r rfl
/-! hindsight/hindsightlaw26.ShowInts -/
def r3_0 : List POp := [
  ⟨some 2, .assign (.const (.bool false)), none⟩]
def r3_1 : List POp := [
  ⟨some 10, .call { callee := .value (.func 4), args := #[], argTypes := #[] }, none⟩,
  ⟨some 11, .unOp .not 4 (.tmp 10), none⟩]
def r3_2 : List POp := [
  ⟨some 2, .assign (.const (.bool false)), none⟩]
def r3_3 : List POp := [
  ⟨some 13, .call { callee := .value (.func 5), args := #[(.const (.string ⟨#[49]⟩)), (.const (.int .i64 9))], argTypes := #[9, 3] }, none⟩,
  ⟨some 12, .move (.tmp 13), none⟩,
  ⟨some 14, .extract (.tmp 12) 0, none⟩,
  ⟨some 15, .extract (.tmp 12) 1, none⟩,
  ⟨some 3, .alloc 43, none⟩,
  ⟨none, .store 43 (.tmp 3) (.tmp 14), none⟩,
  ⟨some 4, .assign (.tmp 15), none⟩]
def r3_4 : List POp := [
  ⟨some 16, .move (.tmp 4), none⟩,
  ⟨some 17, .unOp .not 4 (.tmp 16), none⟩]
def r3_5 : List POp := [
  ⟨some 2, .assign (.const (.bool false)), none⟩]
def r3_6 : List POp := [
  ⟨some 19, .load 43 (.tmp 3), none⟩,
  ⟨some 20, .call { callee := .value (.func 6), args := #[(.tmp 19), (.const (.slice none 0 0)), (.const (.int .i64 100)), (.const (.int .i64 100))], argTypes := #[43, 62, 3, 3] }, none⟩,
  ⟨some 18, .move (.tmp 20), none⟩,
  ⟨some 21, .extract (.tmp 18) 0, none⟩,
  ⟨some 22, .extract (.tmp 18) 1, none⟩,
  ⟨some 5, .assign (.tmp 21), none⟩,
  ⟨some 6, .assign (.tmp 22), none⟩]
def r3_7 : List POp := [
  ⟨some 23, .move (.tmp 6), none⟩,
  ⟨some 24, .binOp .neq 47 (.tmp 23) (.const (.int .i64 0)) 47, none⟩,
  ⟨some 25, .move (.tmp 24), none⟩,
  ⟨some 26, .move (.tmp 5), some (25, false)⟩,
  ⟨some 27, .binOp .eql 46 (.tmp 26) (.const (.pointer none)) 46, some (25, false)⟩,
  ⟨some 28, .pick (.tmp 25) (.const (.bool true)) (.tmp 27), none⟩]
def r3_8 : List POp := [
  ⟨some 2, .assign (.const (.bool false)), none⟩]
def r3_9 : List POp := [
  ⟨some 29, .move (.tmp 0), none⟩,
  ⟨some 30, .call { callee := .value (.func 7), args := #[(.tmp 29)], argTypes := #[2] }, none⟩,
  ⟨some 7, .assign (.tmp 30), none⟩]
def r3_10 : List POp := [
  ⟨some 8, .assign (.const (.string ⟨#[63]⟩)), none⟩,
  ⟨some 9, .assign (.const (.string ⟨#[63]⟩)), none⟩]
def r3_11 : List POp := [
  ⟨some 31, .move (.tmp 0), none⟩,
  ⟨some 32, .binOp .shl 2 (.tmp 31) (.const (.int .u64 1)) 53, none⟩,
  ⟨some 33, .binOp .shr 2 (.tmp 32) (.const (.int .u64 1)) 53, none⟩,
  ⟨some 0, .assign (.tmp 33), none⟩]
def r3_12 : List POp := [
  ⟨some 34, .move (.tmp 0), none⟩,
  ⟨some 35, .binOp .eql 2 (.tmp 34) (.const (.int .i64 1)) 2, none⟩]
def r3_13 : List POp := [
  ⟨some 8, .assign (.const (.string ⟨#[116, 114, 117, 101]⟩)), none⟩]
def r3_14 : List POp := [
  ⟨some 36, .move (.tmp 0), none⟩,
  ⟨some 37, .binOp .eql 2 (.tmp 36) (.const (.int .i64 0)) 2, none⟩]
def r3_15 : List POp := [
  ⟨some 8, .assign (.const (.string ⟨#[102, 97, 108, 115, 101]⟩)), none⟩,
  ⟨some 9, .assign (.const (.string ⟨#[40, 41]⟩)), none⟩]
def r3_16 : List POp := [
  ⟨some 38, .move (.tmp 5), none⟩,
  ⟨some 39, .load 43 (.tmp 3), none⟩,
  ⟨some 40, .move (.tmp 7), none⟩,
  ⟨some 41, .build 29 #[(0, (.const (.int .i64 1)))], none⟩,
  ⟨some 42, .call { callee := .value (.func 8), args := #[(.tmp 38), (.tmp 39), (.tmp 40), (.tmp 41)], argTypes := #[46, 43, 51, 29] }, none⟩,
  ⟨some 43, .move (.tmp 0), none⟩,
  ⟨some 44, .call { callee := .value (.func 9), args := #[(.tmp 43)], argTypes := #[2] }, none⟩,
  ⟨some 45, .binOp .eql 9 (.tmp 42) (.tmp 44) 9, none⟩,
  ⟨some 46, .move (.tmp 45), none⟩,
  ⟨some 47, .move (.tmp 5), some (46, true)⟩,
  ⟨some 48, .load 43 (.tmp 3), some (46, true)⟩,
  ⟨some 49, .move (.tmp 7), some (46, true)⟩,
  ⟨some 50, .build 29 #[(0, (.const (.int .i64 2)))], some (46, true)⟩,
  ⟨some 51, .call { callee := .value (.func 8), args := #[(.tmp 47), (.tmp 48), (.tmp 49), (.tmp 50)], argTypes := #[46, 43, 51, 29] }, some (46, true)⟩,
  ⟨some 52, .move (.tmp 8), some (46, true)⟩,
  ⟨some 53, .binOp .eql 9 (.tmp 51) (.tmp 52) 9, some (46, true)⟩,
  ⟨some 54, .pick (.tmp 46) (.tmp 53) (.const (.bool false)), none⟩,
  ⟨some 55, .move (.tmp 54), none⟩,
  ⟨some 56, .move (.tmp 5), some (55, true)⟩,
  ⟨some 57, .load 43 (.tmp 3), some (55, true)⟩,
  ⟨some 58, .move (.tmp 7), some (55, true)⟩,
  ⟨some 59, .build 29 #[(0, (.const (.int .i64 3)))], some (55, true)⟩,
  ⟨some 60, .call { callee := .value (.func 8), args := #[(.tmp 56), (.tmp 57), (.tmp 58), (.tmp 59)], argTypes := #[46, 43, 51, 29] }, some (55, true)⟩,
  ⟨some 61, .move (.tmp 9), some (55, true)⟩,
  ⟨some 62, .binOp .eql 9 (.tmp 60) (.tmp 61) 9, some (55, true)⟩,
  ⟨some 63, .pick (.tmp 55) (.tmp 62) (.const (.bool false)), none⟩,
  ⟨some 64, .move (.tmp 63), none⟩,
  ⟨some 65, .move (.tmp 5), some (64, true)⟩,
  ⟨some 66, .load 43 (.tmp 3), some (64, true)⟩,
  ⟨some 67, .move (.tmp 7), some (64, true)⟩,
  ⟨some 68, .build 29 #[(0, (.const (.int .i64 1)))], some (64, true)⟩,
  ⟨some 69, .build 29 #[(0, (.const (.int .i64 1)))], some (64, true)⟩,
  ⟨some 70, .buildSlice 27 2 #[(0, (.tmp 68)), (1, (.tmp 69))], some (64, true)⟩,
  ⟨some 71, .build 29 #[(0, (.const (.int .i64 5))), (3, (.tmp 70))], some (64, true)⟩,
  ⟨some 72, .call { callee := .value (.func 8), args := #[(.tmp 65), (.tmp 66), (.tmp 67), (.tmp 71)], argTypes := #[46, 43, 51, 29] }, some (64, true)⟩,
  ⟨some 73, .binOp .eql 9 (.tmp 72) (.const (.string ⟨#[63]⟩)) 9, some (64, true)⟩,
  ⟨some 74, .pick (.tmp 64) (.tmp 73) (.const (.bool false)), none⟩,
  ⟨some 75, .move (.tmp 74), none⟩,
  ⟨some 76, .move (.tmp 5), some (75, true)⟩,
  ⟨some 77, .load 43 (.tmp 3), some (75, true)⟩,
  ⟨some 78, .move (.tmp 7), some (75, true)⟩,
  ⟨some 79, .build 29 #[(0, (.const (.int .i64 7)))], some (75, true)⟩,
  ⟨some 80, .call { callee := .value (.func 8), args := #[(.tmp 76), (.tmp 77), (.tmp 78), (.tmp 79)], argTypes := #[46, 43, 51, 29] }, some (75, true)⟩,
  ⟨some 81, .binOp .eql 9 (.tmp 80) (.const (.string ⟨#[60, 112, 111, 108, 121, 62]⟩)) 9, some (75, true)⟩,
  ⟨some 82, .pick (.tmp 75) (.tmp 81) (.const (.bool false)), none⟩,
  ⟨some 2, .assign (.tmp 82), none⟩]
noncomputable def p3 : PC := (.seq (.reg r3_0) (.seq (.seq (.reg r3_1) (.cond (.tmp 11) (.seq (.reg r3_2) .ret) .skip)) (.seq (.reg r3_3) (.seq (.seq (.reg r3_4) (.cond (.tmp 17) (.seq (.reg r3_5) .ret) .skip)) (.seq (.reg r3_6) (.seq (.seq (.reg r3_7) (.cond (.tmp 28) (.seq (.reg r3_8) .ret) .skip)) (.seq (.reg r3_9) (.seq (.reg r3_10) (.seq (.reg r3_11) (.seq (.seq (.reg r3_12) (.cond (.tmp 35) (.reg r3_13) .skip)) (.seq (.seq (.reg r3_14) (.cond (.tmp 37) (.reg r3_15) .skip)) (.seq (.reg r3_16) .ret))))))))))))
theorem comp3 : (Tryz.f3.body.map (comp E Tryz.f3.ntmps)) = some p3 := by kernel_rfl
theorem ev3 {args : List AV} {S : St} {P : AV → St → Prop} (hn : Nat.ble args.length 83 = true) (h : EndsA E 83 [.c p3] .nrm (initTm 0 args .leaf) S (RetQ E [.tmp 2] P)) : ∃ r S', EvA E 3 args S r S' ∧ P r S' := ev_ends (fn := Tryz.f3) (by kernel_rfl) rfl comp3 (by kernel_rfl) (by kernel_rfl) hn h
/-! hindsight/word.Num -/
def r7_0 : List POp := [
  ⟨some 2, .assign (.const (.int .u64 0)), none⟩]
def r7_1 : List POp := [
  ⟨some 3, .move (.tmp 0), none⟩,
  ⟨some 4, .convert 2 51 (.tmp 3), none⟩,
  ⟨some 5, .binOp .shl 51 (.tmp 4) (.const (.int .u64 1)) 53, none⟩,
  ⟨some 6, .binOp .or 51 (.tmp 5) (.const (.int .u64 1)) 51, none⟩,
  ⟨some 2, .assign (.tmp 6), none⟩]
noncomputable def p7 : PC := (.seq (.reg r7_0) (.seq (.reg r7_1) .ret))
theorem comp7 : (Tryz.f7.body.map (comp E Tryz.f7.ntmps)) = some p7 := by kernel_rfl
theorem ev7 {args : List AV} {S : St} {P : AV → St → Prop} (hn : Nat.ble args.length 7 = true) (h : EndsA E 7 [.c p7] .nrm (initTm 0 args .leaf) S (RetQ E [.tmp 2] P)) : ∃ r S', EvA E 7 args S r S' ∧ P r S' := ev_ends (fn := Tryz.f7) (by kernel_rfl) rfl comp7 (by kernel_rfl) (by kernel_rfl) hn h
/-! hindsight/show.Word -/
def r8_0 : List POp := [
  ⟨some 5, .box 43 (.tmp 1), none⟩,
  ⟨some 7, .box 29 (.tmp 3), none⟩,
  ⟨some 8, .assign (.const (.string ⟨#[]⟩)), none⟩]
def r8_1 : List POp := [
  ⟨some 9, .move (.tmp 0), none⟩,
  ⟨some 10, .call { callee := .value (.func 21), args := #[(.tmp 9)], argTypes := #[46] }, none⟩,
  ⟨some 11, .fieldAddr 43 (.tmp 5) 1, none⟩,
  ⟨some 12, .load 26 (.tmp 11), none⟩,
  ⟨some 13, .build 85 #[(0, (.tmp 10)), (1, (.tmp 12))], none⟩,
  ⟨some 14, .move (.tmp 2), none⟩,
  ⟨some 15, .load 29 (.tmp 7), none⟩]
def r8_2 : List POp := [
  ⟨some 16, .call { callee := .value (.func 22), args := #[(.tmp 13), (.tmp 14), (.tmp 15), (.const (.int .i64 0))], argTypes := #[85, 51, 29, 3] }, none⟩,
  ⟨some 8, .assign (.tmp 16), none⟩]
noncomputable def d8_0 : Array Oper := match Tryz.f8.body.map (comp E Tryz.f8.ntmps) with | some p => p.draws.getD 0 #[] | none => #[]
theorem draw8_0 : DrawC E 17 d8_0 9 7 r8_1 r8_2 [(.tmp 11), (.tmp 7)] := ⟨by kernel_rfl, by decide, by kernel_rfl, by kernel_rfl, by kernel_rfl, by kernel_rfl, by kernel_rfl⟩
noncomputable def p8 : PC := (.seq (.reg r8_0) (.seq (.draw d8_0) .ret))
theorem comp8 : (Tryz.f8.body.map (comp E Tryz.f8.ntmps)) = some p8 := by kernel_rfl
theorem ev8 {args : List AV} {S : St} {P : AV → St → Prop} (hn : Nat.ble args.length 17 = true) (h : EndsA E 17 [.c p8] .nrm (initTm 0 args .leaf) S (RetQ E [.tmp 8] P)) : ∃ r S', EvA E 8 args S r S' ∧ P r S' := ev_ends (fn := Tryz.f8) (by kernel_rfl) rfl comp8 (by kernel_rfl) (by kernel_rfl) hn h
/-! hindsight/hindsightref1.Digits -/
def r9_0 : List POp := [
  ⟨some 2, .assign (.const (.string ⟨#[]⟩)), none⟩]
def r9_1 : List POp := [
  ⟨some 4, .move (.tmp 0), none⟩,
  ⟨some 5, .binOp .lss 2 (.tmp 4) (.const (.int .i64 0)) 2, none⟩]
def r9_2 : List POp := [
  ⟨some 6, .move (.tmp 0), none⟩,
  ⟨some 7, .unOp .neg 2 (.tmp 6), none⟩,
  ⟨some 8, .convert 2 50 (.tmp 7), none⟩,
  ⟨some 3, .assign (.tmp 8), none⟩]
def r9_3 : List POp := [
  ⟨some 9, .move (.tmp 3), none⟩,
  ⟨some 10, .binOp .geq 50 (.tmp 9) (.const (.int .u64 10)) 50, none⟩]
def r9_4 : List POp := [
  ⟨some 11, .move (.tmp 3), none⟩,
  ⟨some 12, .binOp .quo 50 (.tmp 11) (.const (.int .u64 10)) 50, none⟩,
  ⟨some 13, .convert 50 2 (.tmp 12), none⟩,
  ⟨some 14, .call { callee := .value (.func 9), args := #[(.tmp 13)], argTypes := #[2] }, none⟩,
  ⟨some 15, .binOp .add 9 (.const (.string ⟨#[45]⟩)) (.tmp 14) 9, none⟩,
  ⟨some 16, .move (.tmp 3), none⟩,
  ⟨some 17, .binOp .rem 50 (.tmp 16) (.const (.int .u64 10)) 50, none⟩,
  ⟨some 18, .convert 50 2 (.tmp 17), none⟩,
  ⟨some 19, .call { callee := .value (.func 9), args := #[(.tmp 18)], argTypes := #[2] }, none⟩,
  ⟨some 20, .binOp .add 9 (.tmp 15) (.tmp 19) 9, none⟩,
  ⟨some 2, .assign (.tmp 20), none⟩]
def r9_5 : List POp := [
  ⟨some 21, .move (.tmp 3), none⟩,
  ⟨some 22, .convert 50 2 (.tmp 21), none⟩,
  ⟨some 23, .call { callee := .value (.func 9), args := #[(.tmp 22)], argTypes := #[2] }, none⟩,
  ⟨some 24, .binOp .add 9 (.const (.string ⟨#[45]⟩)) (.tmp 23) 9, none⟩,
  ⟨some 2, .assign (.tmp 24), none⟩]
def r9_6 : List POp := [
  ⟨some 25, .move (.tmp 0), none⟩,
  ⟨some 26, .binOp .lss 2 (.tmp 25) (.const (.int .i64 10)) 2, none⟩]
def r9_7 : List POp := [
  ⟨some 27, .move (.tmp 0), none⟩,
  ⟨some 28, .binOp .add 2 (.const (.int .i64 48)) (.tmp 27) 2, none⟩,
  ⟨some 29, .convert 2 5 (.tmp 28), none⟩,
  ⟨some 30, .buildSlice 32 1 #[(0, (.tmp 29))], none⟩,
  ⟨some 31, .convert 32 9 (.tmp 30), none⟩,
  ⟨some 2, .assign (.tmp 31), none⟩]
def r9_8 : List POp := [
  ⟨some 32, .move (.tmp 0), none⟩,
  ⟨some 33, .binOp .quo 2 (.tmp 32) (.const (.int .i64 10)) 2, none⟩,
  ⟨some 34, .call { callee := .value (.func 9), args := #[(.tmp 33)], argTypes := #[2] }, none⟩,
  ⟨some 35, .move (.tmp 0), none⟩,
  ⟨some 36, .binOp .rem 2 (.tmp 35) (.const (.int .i64 10)) 2, none⟩,
  ⟨some 37, .call { callee := .value (.func 9), args := #[(.tmp 36)], argTypes := #[2] }, none⟩,
  ⟨some 38, .binOp .add 9 (.tmp 34) (.tmp 37) 9, none⟩,
  ⟨some 2, .assign (.tmp 38), none⟩]
noncomputable def p9 : PC := (.seq (.reg r9_0) (.seq (.seq (.reg r9_1) (.cond (.tmp 5) (.seq (.reg r9_2) (.seq (.seq (.reg r9_3) (.cond (.tmp 10) (.seq (.reg r9_4) .ret) .skip)) (.seq (.reg r9_5) .ret))) .skip)) (.seq (.seq (.reg r9_6) (.cond (.tmp 26) (.seq (.reg r9_7) .ret) .skip)) (.seq (.reg r9_8) .ret))))
theorem comp9 : (Tryz.f9.body.map (comp E Tryz.f9.ntmps)) = some p9 := by kernel_rfl
theorem ev9 {args : List AV} {S : St} {P : AV → St → Prop} (hn : Nat.ble args.length 39 = true) (h : EndsA E 39 [.c p9] .nrm (initTm 0 args .leaf) S (RetQ E [.tmp 2] P)) : ∃ r S', EvA E 9 args S r S' ∧ P r S' := ev_ends (fn := Tryz.f9) (by kernel_rfl) rfl comp9 (by kernel_rfl) (by kernel_rfl) hn h
/-! (*hindsight/vm.Machine).Heap -/
def r21_0 : List POp := [
  ⟨some 2, .assign (.const (.pointer none)), none⟩]
def r21_1 : List POp := [
  ⟨some 3, .move (.tmp 0), none⟩,
  ⟨some 4, .nilCheck (.tmp 3), none⟩,
  ⟨some 5, .fieldAddr 80 (.tmp 4) 13, none⟩,
  ⟨some 6, .load 64 (.tmp 5), none⟩,
  ⟨some 7, .call { callee := .value (.func 33), args := #[(.tmp 6)], argTypes := #[64] }, none⟩,
  ⟨some 2, .assign (.tmp 7), none⟩]
noncomputable def p21 : PC := (.seq (.reg r21_0) (.seq (.reg r21_1) .ret))
theorem comp21 : (Tryz.f21.body.map (comp E Tryz.f21.ntmps)) = some p21 := by kernel_rfl
theorem ev21 {args : List AV} {S : St} {P : AV → St → Prop} (hn : Nat.ble args.length 8 = true) (h : EndsA E 8 [.c p21] .nrm (initTm 0 args .leaf) S (RetQ E [.tmp 2] P)) : ∃ r S', EvA E 21 args S r S' ∧ P r S' := ev_ends (fn := Tryz.f21) (by kernel_rfl) rfl comp21 (by kernel_rfl) (by kernel_rfl) hn h
/-! (hindsight/show.teller).word -/
def r22_0 : List POp := [
  ⟨some 4, .box 85 (.tmp 0), none⟩,
  ⟨some 6, .box 29 (.tmp 2), none⟩,
  ⟨some 8, .assign (.const (.string ⟨#[]⟩)), none⟩]
def r22_1 : List POp := [
  ⟨some 15, .move (.tmp 3), none⟩,
  ⟨some 16, .binOp .geq 3 (.tmp 15) (.const (.int .i64 50)) 3, none⟩]
def r22_2 : List POp := [
  ⟨some 8, .assign (.const (.string ⟨#[46, 46]⟩)), none⟩]
def r22_3 : List POp := [
  ⟨some 18, .move (.tmp 1), none⟩,
  ⟨some 19, .call { callee := .value (.func 34), args := #[(.tmp 18)], argTypes := #[51] }, none⟩,
  ⟨some 17, .move (.tmp 19), none⟩,
  ⟨some 20, .extract (.tmp 17) 0, none⟩,
  ⟨some 21, .extract (.tmp 17) 1, none⟩,
  ⟨some 9, .assign (.tmp 20), none⟩,
  ⟨some 10, .assign (.tmp 21), none⟩]
def r22_4 : List POp := [
  ⟨some 22, .fieldAddr 29 (.tmp 6) 0, none⟩,
  ⟨some 23, .load 3 (.tmp 22), none⟩]
def r22_5 : List POp := [
  ⟨some 25, .binOp .eql 3 (.tmp 23) (.const (.int .i64 7)) 3, none⟩,
  ⟨some 24, .assign (.tmp 25), none⟩]
def r22_6 : List POp := [
  ⟨some 8, .assign (.const (.string ⟨#[60, 112, 111, 108, 121, 62]⟩)), none⟩]
def r22_7 : List POp := [
  ⟨some 27, .binOp .eql 3 (.tmp 23) (.const (.int .i64 1)) 3, none⟩,
  ⟨some 26, .assign (.tmp 27), none⟩]
def r22_8 : List POp := [
  ⟨some 28, .move (.tmp 10), none⟩]
def r22_9 : List POp := [
  ⟨some 29, .move (.tmp 9), none⟩,
  ⟨some 30, .call { callee := .value (.func 35), args := #[(.tmp 29), (.const (.int .i64 10))], argTypes := #[2, 3] }, none⟩,
  ⟨some 8, .assign (.tmp 30), none⟩]
def r22_10 : List POp := [
  ⟨some 32, .binOp .eql 3 (.tmp 23) (.const (.int .i64 2)) 3, none⟩,
  ⟨some 31, .assign (.tmp 32), none⟩]
def r22_11 : List POp := [
  ⟨some 33, .move (.tmp 10), none⟩,
  ⟨some 34, .move (.tmp 33), none⟩,
  ⟨some 35, .move (.tmp 9), some (34, true)⟩,
  ⟨some 36, .binOp .eql 2 (.tmp 35) (.const (.int .i64 0)) 2, some (34, true)⟩,
  ⟨some 37, .move (.tmp 36), some (34, true)⟩,
  ⟨some 38, .move (.tmp 9), some (37, false)⟩,
  ⟨some 39, .binOp .eql 2 (.tmp 38) (.const (.int .i64 1)) 2, some (37, false)⟩,
  ⟨some 40, .pick (.tmp 37) (.const (.bool true)) (.tmp 39), some (34, true)⟩,
  ⟨some 41, .pick (.tmp 34) (.tmp 40) (.const (.bool false)), none⟩]
def r22_12 : List POp := [
  ⟨some 42, .move (.tmp 9), none⟩,
  ⟨some 43, .binOp .eql 2 (.tmp 42) (.const (.int .i64 1)) 2, none⟩,
  ⟨some 44, .call { callee := .value (.func 36), args := #[(.tmp 43)], argTypes := #[4] }, none⟩,
  ⟨some 8, .assign (.tmp 44), none⟩]
def r22_13 : List POp := [
  ⟨some 46, .binOp .eql 3 (.tmp 23) (.const (.int .i64 3)) 3, none⟩,
  ⟨some 45, .assign (.tmp 46), none⟩]
def r22_14 : List POp := [
  ⟨some 47, .move (.tmp 10), none⟩,
  ⟨some 48, .move (.tmp 47), none⟩,
  ⟨some 49, .move (.tmp 9), some (48, true)⟩,
  ⟨some 50, .binOp .eql 2 (.tmp 49) (.const (.int .i64 0)) 2, some (48, true)⟩,
  ⟨some 51, .pick (.tmp 48) (.tmp 50) (.const (.bool false)), none⟩]
def r22_15 : List POp := [
  ⟨some 8, .assign (.const (.string ⟨#[40, 41]⟩)), none⟩]
def r22_16 : List POp := [
  ⟨some 53, .binOp .eql 3 (.tmp 23) (.const (.int .i64 4)) 3, none⟩,
  ⟨some 52, .assign (.tmp 53), none⟩]
def r22_17 : List POp := [
  ⟨some 54, .load 85 (.tmp 4), none⟩,
  ⟨some 55, .move (.tmp 1), none⟩,
  ⟨some 56, .load 29 (.tmp 6), none⟩,
  ⟨some 57, .move (.tmp 3), none⟩,
  ⟨some 58, .call { callee := .value (.func 37), args := #[(.tmp 54), (.tmp 55), (.tmp 56), (.tmp 57)], argTypes := #[85, 51, 29, 3] }, none⟩,
  ⟨some 8, .assign (.tmp 58), none⟩]
def r22_18 : List POp := [
  ⟨some 60, .binOp .eql 3 (.tmp 23) (.const (.int .i64 5)) 3, none⟩,
  ⟨some 59, .assign (.tmp 60), none⟩]
def r22_19 : List POp := [
  ⟨some 62, .fieldAddr 85 (.tmp 4) 0, none⟩,
  ⟨some 63, .load 64 (.tmp 62), none⟩,
  ⟨some 64, .move (.tmp 1), none⟩,
  ⟨some 65, .call { callee := .value (.func 38), args := #[(.tmp 63), (.tmp 64)], argTypes := #[64, 51] }, none⟩,
  ⟨some 61, .move (.tmp 65), none⟩,
  ⟨some 66, .extract (.tmp 61) 0, none⟩,
  ⟨some 67, .extract (.tmp 61) 1, none⟩,
  ⟨some 68, .extract (.tmp 61) 2, none⟩,
  ⟨some 69, .extract (.tmp 61) 3, none⟩,
  ⟨some 11, .assign (.tmp 66), none⟩,
  ⟨some 12, .assign (.tmp 67), none⟩,
  ⟨some 13, .assign (.tmp 68), none⟩,
  ⟨some 14, .assign (.tmp 69), none⟩]
def r22_20 : List POp := [
  ⟨some 70, .move (.tmp 14), none⟩,
  ⟨some 71, .binOp .eql 47 (.tmp 70) (.const (.int .i64 0)) 47, none⟩,
  ⟨some 72, .move (.tmp 71), none⟩,
  ⟨some 73, .move (.tmp 11), some (72, true)⟩,
  ⟨some 74, .binOp .eql 3 (.tmp 73) (.const (.int .i64 2)) 3, some (72, true)⟩,
  ⟨some 75, .pick (.tmp 72) (.tmp 74) (.const (.bool false)), none⟩]
def r22_21 : List POp := [
  ⟨some 8, .assign (.const (.string ⟨#[60, 102, 117, 110, 62]⟩)), none⟩]
def r22_22 : List POp := [
  ⟨some 77, .binOp .eql 3 (.tmp 23) (.const (.int .i64 6)) 3, none⟩,
  ⟨some 76, .assign (.tmp 77), none⟩]
def r22_23 : List POp := [
  ⟨some 78, .load 85 (.tmp 4), none⟩,
  ⟨some 79, .move (.tmp 1), none⟩,
  ⟨some 80, .load 29 (.tmp 6), none⟩,
  ⟨some 81, .move (.tmp 3), none⟩,
  ⟨some 82, .call { callee := .value (.func 39), args := #[(.tmp 78), (.tmp 79), (.tmp 80), (.tmp 81)], argTypes := #[85, 51, 29, 3] }, none⟩,
  ⟨some 8, .assign (.tmp 82), none⟩]
def r22_24 : List POp := [
  ⟨some 8, .assign (.const (.string ⟨#[63]⟩)), none⟩]
noncomputable def p22 : PC := (.seq (.reg r22_0) (.seq (.seq (.reg r22_1) (.cond (.tmp 16) (.seq (.reg r22_2) .ret) .skip)) (.seq (.reg r22_3) (.seq (.seq (.reg r22_4) (.block 0 (.seq (.reg r22_5) (.cond (.tmp 24) (.seq (.reg r22_6) .ret) (.seq (.reg r22_7) (.cond (.tmp 26) (.seq (.reg r22_8) (.cond (.tmp 28) (.seq (.reg r22_9) .ret) .skip)) (.seq (.reg r22_10) (.cond (.tmp 31) (.seq (.reg r22_11) (.cond (.tmp 41) (.seq (.reg r22_12) .ret) .skip)) (.seq (.reg r22_13) (.cond (.tmp 45) (.seq (.reg r22_14) (.cond (.tmp 51) (.seq (.reg r22_15) .ret) .skip)) (.seq (.reg r22_16) (.cond (.tmp 52) (.seq (.reg r22_17) .ret) (.seq (.reg r22_18) (.cond (.tmp 59) (.seq (.reg r22_19) (.seq (.reg r22_20) (.cond (.tmp 75) (.seq (.reg r22_21) .ret) .skip))) (.seq (.reg r22_22) (.cond (.tmp 76) (.seq (.reg r22_23) .ret) .skip)))))))))))))))) (.seq (.reg r22_24) .ret)))))
theorem comp22 : (Tryz.f22.body.map (comp E Tryz.f22.ntmps)) = some p22 := by kernel_rfl
theorem ev22 {args : List AV} {S : St} {P : AV → St → Prop} (hn : Nat.ble args.length 83 = true) (h : EndsA E 83 [.c p22] .nrm (initTm 0 args .leaf) S (RetQ E [.tmp 8] P)) : ∃ r S', EvA E 22 args S r S' ∧ P r S' := ev_ends (fn := Tryz.f22) (by kernel_rfl) rfl comp22 (by kernel_rfl) (by kernel_rfl) hn h
/-! (*hindsight/heap.Heap).Copy -/
def r33_0 : List POp := [
  ⟨some 2, .assign (.const (.pointer none)), none⟩]
def r33_1 : List POp := [
  ⟨some 3, .move (.tmp 0), none⟩,
  ⟨some 4, .nilCheck (.tmp 3), none⟩,
  ⟨some 5, .fieldAddr 105 (.tmp 4) 0, none⟩,
  ⟨some 6, .load 3 (.tmp 5), none⟩,
  ⟨some 7, .move (.tmp 0), none⟩,
  ⟨some 8, .nilCheck (.tmp 7), none⟩,
  ⟨some 9, .fieldAddr 105 (.tmp 8) 1, none⟩,
  ⟨some 10, .load 3 (.tmp 9), none⟩,
  ⟨some 11, .move (.tmp 0), none⟩,
  ⟨some 12, .nilCheck (.tmp 11), none⟩,
  ⟨some 13, .fieldAddr 105 (.tmp 12) 2, none⟩,
  ⟨some 14, .load 102 (.tmp 13), none⟩,
  ⟨some 15, .call { callee := .value (.func 71), args := #[(.tmp 14)], argTypes := #[102] }, none⟩,
  ⟨some 16, .move (.tmp 0), none⟩,
  ⟨some 17, .nilCheck (.tmp 16), none⟩,
  ⟨some 18, .fieldAddr 105 (.tmp 17) 3, none⟩,
  ⟨some 19, .load 103 (.tmp 18), none⟩,
  ⟨some 20, .call { callee := .value (.func 72), args := #[(.tmp 19)], argTypes := #[103] }, none⟩,
  ⟨some 21, .build 105 #[(0, (.tmp 6)), (1, (.tmp 10)), (2, (.tmp 15)), (3, (.tmp 20))], none⟩]
def r33_2 : List POp := [
  ⟨some 2, .assign (.tmp 22), none⟩]
noncomputable def d33_0 : Array Oper := match Tryz.f33.body.map (comp E Tryz.f33.ntmps) with | some p => p.draws.getD 0 #[] | none => #[]
theorem draw33_0 : DrawMk E 23 d33_0 21 r33_1 19 (some 22) (.box 105 (.tmp 21)) r33_2 [(.tmp 5), (.tmp 9), (.tmp 13), (.tmp 18)] := drawMk_of (by kernel_rfl) (by kernel_rfl) (by kernel_rfl) (by kernel_rfl) (by kernel_rfl)
noncomputable def p33 : PC := (.seq (.reg r33_0) (.seq (.draw d33_0) .ret))
theorem comp33 : (Tryz.f33.body.map (comp E Tryz.f33.ntmps)) = some p33 := by kernel_rfl
theorem ev33 {args : List AV} {S : St} {P : AV → St → Prop} (hn : Nat.ble args.length 23 = true) (h : EndsA E 23 [.c p33] .nrm (initTm 0 args .leaf) S (RetQ E [.tmp 2] P)) : ∃ r S', EvA E 33 args S r S' ∧ P r S' := ev_ends (fn := Tryz.f33) (by kernel_rfl) rfl comp33 (by kernel_rfl) (by kernel_rfl) hn h
/-! hindsight/word.Int -/
def r34_0 : List POp := [
  ⟨some 2, .assign (.const (.int .i64 0)), none⟩,
  ⟨some 3, .assign (.const (.bool false)), none⟩]
def r34_1 : List POp := [
  ⟨some 4, .move (.tmp 0), none⟩,
  ⟨some 5, .binOp .and 51 (.tmp 4) (.const (.int .u64 1)) 51, none⟩,
  ⟨some 6, .binOp .eql 51 (.tmp 5) (.const (.int .u64 0)) 51, none⟩]
def r34_2 : List POp := [
  ⟨some 2, .assign (.const (.int .i64 0)), none⟩,
  ⟨some 3, .assign (.const (.bool false)), none⟩]
def r34_3 : List POp := [
  ⟨some 7, .move (.tmp 0), none⟩,
  ⟨some 8, .convert 51 2 (.tmp 7), none⟩,
  ⟨some 9, .binOp .shr 2 (.tmp 8) (.const (.int .u64 1)) 53, none⟩,
  ⟨some 2, .assign (.tmp 9), none⟩,
  ⟨some 3, .assign (.const (.bool true)), none⟩]
noncomputable def p34 : PC := (.seq (.reg r34_0) (.seq (.seq (.reg r34_1) (.cond (.tmp 6) (.seq (.reg r34_2) .ret) .skip)) (.seq (.reg r34_3) .ret)))
theorem comp34 : (Tryz.f34.body.map (comp E Tryz.f34.ntmps)) = some p34 := by kernel_rfl
theorem ev34 {args : List AV} {S : St} {P : AV → St → Prop} (hn : Nat.ble args.length 10 = true) (h : EndsA E 10 [.c p34] .nrm (initTm 0 args .leaf) S (RetQ E [.tmp 2, .tmp 3] P)) : ∃ r S', EvA E 34 args S r S' ∧ P r S' := ev_ends (fn := Tryz.f34) (by kernel_rfl) rfl comp34 (by kernel_rfl) (by kernel_rfl) hn h
/-! strconv.FormatBool -/
def r36_0 : List POp := [
  ⟨some 2, .assign (.const (.string ⟨#[]⟩)), none⟩]
def r36_1 : List POp := [
  ⟨some 3, .move (.tmp 0), none⟩,
  ⟨some 4, .call { callee := .value (.func 74), args := #[(.tmp 3)], argTypes := #[4] }, none⟩,
  ⟨some 2, .assign (.tmp 4), none⟩]
noncomputable def p36 : PC := (.seq (.reg r36_0) (.seq (.reg r36_1) .ret))
theorem comp36 : (Tryz.f36.body.map (comp E Tryz.f36.ntmps)) = some p36 := by kernel_rfl
theorem ev36 {args : List AV} {S : St} {P : AV → St → Prop} (hn : Nat.ble args.length 5 = true) (h : EndsA E 5 [.c p36] .nrm (initTm 0 args .leaf) S (RetQ E [.tmp 2] P)) : ∃ r S', EvA E 36 args S r S' ∧ P r S' := ev_ends (fn := Tryz.f36) (by kernel_rfl) rfl comp36 (by kernel_rfl) (by kernel_rfl) hn h
/-! internal/strconv.FormatBool -/
def r74_0 : List POp := [
  ⟨some 2, .assign (.const (.string ⟨#[]⟩)), none⟩]
def r74_1 : List POp := [
  ⟨some 3, .move (.tmp 0), none⟩]
def r74_2 : List POp := [
  ⟨some 2, .assign (.const (.string ⟨#[116, 114, 117, 101]⟩)), none⟩]
def r74_3 : List POp := [
  ⟨some 2, .assign (.const (.string ⟨#[102, 97, 108, 115, 101]⟩)), none⟩]
noncomputable def p74 : PC := (.seq (.reg r74_0) (.seq (.seq (.reg r74_1) (.cond (.tmp 3) (.seq (.reg r74_2) .ret) .skip)) (.seq (.reg r74_3) .ret)))
theorem comp74 : (Tryz.f74.body.map (comp E Tryz.f74.ntmps)) = some p74 := by kernel_rfl
theorem ev74 {args : List AV} {S : St} {P : AV → St → Prop} (hn : Nat.ble args.length 4 = true) (h : EndsA E 4 [.c p74] .nrm (initTm 0 args .leaf) S (RetQ E [.tmp 2] P)) : ∃ r S', EvA E 74 args S r S' ∧ P r S' := ev_ends (fn := Tryz.f74) (by kernel_rfl) rfl comp74 (by kernel_rfl) (by kernel_rfl) hn h
/-! (*hindsight/heap.Heap).Head -/
def r38_0 : List POp := [
  ⟨some 4, .assign (.const (.int .i64 0)), none⟩,
  ⟨some 5, .assign (.const (.int .i64 0)), none⟩,
  ⟨some 6, .assign (.const (.int .i64 0)), none⟩,
  ⟨some 7, .assign (.const (.int .i64 0)), none⟩]
def r38_1 : List POp := [
  ⟨some 11, .move (.tmp 0), none⟩,
  ⟨some 12, .move (.tmp 1), none⟩,
  ⟨some 13, .call { callee := .value (.func 80), args := #[(.tmp 11), (.tmp 12)], argTypes := #[64, 51] }, none⟩,
  ⟨some 10, .move (.tmp 13), none⟩,
  ⟨some 14, .extract (.tmp 10) 0, none⟩,
  ⟨some 15, .extract (.tmp 10) 1, none⟩,
  ⟨some 8, .assign (.tmp 14), none⟩,
  ⟨some 9, .assign (.tmp 15), none⟩]
def r38_2 : List POp := [
  ⟨some 16, .move (.tmp 9), none⟩,
  ⟨some 17, .unOp .not 4 (.tmp 16), none⟩]
def r38_3 : List POp := [
  ⟨some 4, .assign (.const (.int .i64 0)), none⟩,
  ⟨some 5, .assign (.const (.int .i64 0)), none⟩,
  ⟨some 6, .assign (.const (.int .i64 0)), none⟩,
  ⟨some 7, .assign (.const (.int .i64 4)), none⟩]
def r38_4 : List POp := [
  ⟨some 19, .move (.tmp 0), none⟩,
  ⟨some 20, .nilCheck (.tmp 19), none⟩,
  ⟨some 21, .fieldAddr 105 (.tmp 20) 2, none⟩,
  ⟨some 22, .load 102 (.tmp 21), none⟩,
  ⟨some 23, .move (.tmp 8), none⟩,
  ⟨some 24, .indexAddr 102 (.tmp 22) (.tmp 23), none⟩,
  ⟨some 25, .load 51 (.tmp 24), none⟩,
  ⟨some 26, .call { callee := .value (.func 81), args := #[(.tmp 25)], argTypes := #[51] }, none⟩,
  ⟨some 18, .move (.tmp 26), none⟩,
  ⟨some 27, .extract (.tmp 18) 0, none⟩,
  ⟨some 28, .extract (.tmp 18) 1, none⟩,
  ⟨some 29, .extract (.tmp 18) 2, none⟩,
  ⟨some 30, .extract (.tmp 18) 3, none⟩,
  ⟨some 4, .assign (.tmp 27), none⟩,
  ⟨some 5, .assign (.tmp 28), none⟩,
  ⟨some 6, .assign (.tmp 29), none⟩]
def r38_5 : List POp := [
  ⟨some 31, .move (.tmp 4), none⟩,
  ⟨some 32, .move (.tmp 5), none⟩,
  ⟨some 33, .move (.tmp 6), none⟩,
  ⟨some 4, .assign (.tmp 31), none⟩,
  ⟨some 5, .assign (.tmp 32), none⟩,
  ⟨some 6, .assign (.tmp 33), none⟩,
  ⟨some 7, .assign (.const (.int .i64 0)), none⟩]
noncomputable def p38 : PC := (.seq (.reg r38_0) (.seq (.reg r38_1) (.seq (.seq (.reg r38_2) (.cond (.tmp 17) (.seq (.reg r38_3) .ret) .skip)) (.seq (.reg r38_4) (.seq (.reg r38_5) .ret)))))
theorem comp38 : (Tryz.f38.body.map (comp E Tryz.f38.ntmps)) = some p38 := by kernel_rfl
theorem ev38 {args : List AV} {S : St} {P : AV → St → Prop} (hn : Nat.ble args.length 34 = true) (h : EndsA E 34 [.c p38] .nrm (initTm 0 args .leaf) S (RetQ E [.tmp 4, .tmp 5, .tmp 6, .tmp 7] P)) : ∃ r S', EvA E 38 args S r S' ∧ P r S' := ev_ends (fn := Tryz.f38) (by kernel_rfl) rfl comp38 (by kernel_rfl) (by kernel_rfl) hn h
/-! (*hindsight/heap.Heap).place -/
def r80_0 : List POp := [
  ⟨some 4, .assign (.const (.int .i64 0)), none⟩,
  ⟨some 5, .assign (.const (.bool false)), none⟩]
def r80_1 : List POp := [
  ⟨some 9, .move (.tmp 1), none⟩,
  ⟨some 10, .call { callee := .value (.func 151), args := #[(.tmp 9)], argTypes := #[51] }, none⟩,
  ⟨some 8, .move (.tmp 10), none⟩,
  ⟨some 11, .extract (.tmp 8) 0, none⟩,
  ⟨some 12, .extract (.tmp 8) 1, none⟩,
  ⟨some 6, .assign (.tmp 11), none⟩,
  ⟨some 7, .assign (.tmp 12), none⟩]
def r80_2 : List POp := [
  ⟨some 13, .move (.tmp 6), none⟩,
  ⟨some 14, .move (.tmp 7), none⟩,
  ⟨some 15, .move (.tmp 14), none⟩,
  ⟨some 16, .move (.tmp 6), some (15, true)⟩,
  ⟨some 17, .move (.tmp 0), some (15, true)⟩,
  ⟨some 18, .nilCheck (.tmp 17), some (15, true)⟩,
  ⟨some 19, .fieldAddr 105 (.tmp 18) 3, some (15, true)⟩,
  ⟨some 20, .load 103 (.tmp 19), some (15, true)⟩,
  ⟨some 21, .call { callee := .builtin .len, args := #[(.tmp 20)], argTypes := #[103] }, some (15, true)⟩,
  ⟨some 22, .binOp .lss 3 (.tmp 16) (.tmp 21) 3, some (15, true)⟩,
  ⟨some 23, .pick (.tmp 15) (.tmp 22) (.const (.bool false)), none⟩,
  ⟨some 24, .move (.tmp 23), none⟩,
  ⟨some 25, .move (.tmp 0), some (24, true)⟩,
  ⟨some 26, .nilCheck (.tmp 25), some (24, true)⟩,
  ⟨some 27, .fieldAddr 105 (.tmp 26) 3, some (24, true)⟩,
  ⟨some 28, .load 103 (.tmp 27), some (24, true)⟩,
  ⟨some 29, .move (.tmp 6), some (24, true)⟩,
  ⟨some 30, .indexAddr 103 (.tmp 28) (.tmp 29), some (24, true)⟩,
  ⟨some 31, .load 4 (.tmp 30), some (24, true)⟩,
  ⟨some 32, .pick (.tmp 24) (.tmp 31) (.const (.bool false)), none⟩,
  ⟨some 4, .assign (.tmp 13), none⟩,
  ⟨some 5, .assign (.tmp 32), none⟩]
noncomputable def p80 : PC := (.seq (.reg r80_0) (.seq (.reg r80_1) (.seq (.regD 22 r80_2) .ret)))
theorem comp80 : (Tryz.f80.body.map (comp E Tryz.f80.ntmps)) = some p80 := by kernel_rfl
theorem ev80 {args : List AV} {S : St} {P : AV → St → Prop} (hn : Nat.ble args.length 33 = true) (h : EndsA E 33 [.c p80] .nrm (initTm 0 args .leaf) S (RetQ E [.tmp 4, .tmp 5] P)) : ∃ r S', EvA E 80 args S r S' ∧ P r S' := ev_ends (fn := Tryz.f80) (by kernel_rfl) rfl comp80 (by kernel_rfl) (by kernel_rfl) hn h
/-! hindsight/word.At -/
def r151_0 : List POp := [
  ⟨some 2, .assign (.const (.int .i64 0)), none⟩,
  ⟨some 3, .assign (.const (.bool false)), none⟩]
def r151_1 : List POp := [
  ⟨some 4, .move (.tmp 0), none⟩,
  ⟨some 5, .binOp .and 51 (.tmp 4) (.const (.int .u64 1)) 51, none⟩,
  ⟨some 6, .binOp .eql 51 (.tmp 5) (.const (.int .u64 1)) 51, none⟩,
  ⟨some 7, .move (.tmp 6), none⟩,
  ⟨some 8, .move (.tmp 0), some (7, false)⟩,
  ⟨some 9, .binOp .shr 51 (.tmp 8) (.const (.int .u64 1)) 53, some (7, false)⟩,
  ⟨some 10, .binOp .gtr 51 (.tmp 9) (.const (.int .u64 2147483647)) 51, some (7, false)⟩,
  ⟨some 11, .pick (.tmp 7) (.const (.bool true)) (.tmp 10), none⟩]
def r151_2 : List POp := [
  ⟨some 2, .assign (.const (.int .i64 0)), none⟩,
  ⟨some 3, .assign (.const (.bool false)), none⟩]
def r151_3 : List POp := [
  ⟨some 12, .move (.tmp 0), none⟩,
  ⟨some 13, .binOp .shr 51 (.tmp 12) (.const (.int .u64 1)) 53, none⟩,
  ⟨some 14, .convert 51 3 (.tmp 13), none⟩,
  ⟨some 2, .assign (.tmp 14), none⟩,
  ⟨some 3, .assign (.const (.bool true)), none⟩]
noncomputable def p151 : PC := (.seq (.reg r151_0) (.seq (.seq (.reg r151_1) (.cond (.tmp 11) (.seq (.reg r151_2) .ret) .skip)) (.seq (.reg r151_3) .ret)))
theorem comp151 : (Tryz.f151.body.map (comp E Tryz.f151.ntmps)) = some p151 := by kernel_rfl
theorem ev151 {args : List AV} {S : St} {P : AV → St → Prop} (hn : Nat.ble args.length 15 = true) (h : EndsA E 15 [.c p151] .nrm (initTm 0 args .leaf) S (RetQ E [.tmp 2, .tmp 3] P)) : ∃ r S', EvA E 151 args S r S' ∧ P r S' := ev_ends (fn := Tryz.f151) (by kernel_rfl) rfl comp151 (by kernel_rfl) (by kernel_rfl) hn h
/-! slices.Clone[[]hindsight/word.Word,hindsight/word.Word] -/
def r71_0 : List POp := [
  ⟨some 2, .assign (.const (.slice none 0 0)), none⟩]
def r71_1 : List POp := [
  ⟨some 3, .move (.tmp 0), none⟩,
  ⟨some 4, .binOp .eql 102 (.tmp 3) (.const (.slice none 0 0)) 102, none⟩]
def r71_2 : List POp := [
  ⟨some 2, .assign (.const (.slice none 0 0)), none⟩]
def r71_3 : List POp := [
  ⟨some 5, .buildSlice 102 0 #[], none⟩,
  ⟨some 6, .move (.tmp 0), none⟩,
  ⟨some 7, .call { callee := .builtin .append, args := #[(.tmp 5), (.tmp 6)], argTypes := #[102, 102] }, none⟩,
  ⟨some 2, .assign (.tmp 7), none⟩]
noncomputable def p71 : PC := (.seq (.reg r71_0) (.seq (.seq (.reg r71_1) (.cond (.tmp 4) (.seq (.reg r71_2) .ret) .skip)) (.seq (.reg r71_3) .ret)))
theorem comp71 : (Tryz.f71.body.map (comp E Tryz.f71.ntmps)) = some p71 := by kernel_rfl
theorem ev71 {args : List AV} {S : St} {P : AV → St → Prop} (hn : Nat.ble args.length 8 = true) (h : EndsA E 8 [.c p71] .nrm (initTm 0 args .leaf) S (RetQ E [.tmp 2] P)) : ∃ r S', EvA E 71 args S r S' ∧ P r S' := ev_ends (fn := Tryz.f71) (by kernel_rfl) rfl comp71 (by kernel_rfl) (by kernel_rfl) hn h
/-! slices.Clone[[]bool,bool] -/
def r72_0 : List POp := [
  ⟨some 2, .assign (.const (.slice none 0 0)), none⟩]
def r72_1 : List POp := [
  ⟨some 3, .move (.tmp 0), none⟩,
  ⟨some 4, .binOp .eql 103 (.tmp 3) (.const (.slice none 0 0)) 103, none⟩]
def r72_2 : List POp := [
  ⟨some 2, .assign (.const (.slice none 0 0)), none⟩]
def r72_3 : List POp := [
  ⟨some 5, .buildSlice 103 0 #[], none⟩,
  ⟨some 6, .move (.tmp 0), none⟩,
  ⟨some 7, .call { callee := .builtin .append, args := #[(.tmp 5), (.tmp 6)], argTypes := #[103, 103] }, none⟩,
  ⟨some 2, .assign (.tmp 7), none⟩]
noncomputable def p72 : PC := (.seq (.reg r72_0) (.seq (.seq (.reg r72_1) (.cond (.tmp 4) (.seq (.reg r72_2) .ret) .skip)) (.seq (.reg r72_3) .ret)))
theorem comp72 : (Tryz.f72.body.map (comp E Tryz.f72.ntmps)) = some p72 := by kernel_rfl
theorem ev72 {args : List AV} {S : St} {P : AV → St → Prop} (hn : Nat.ble args.length 8 = true) (h : EndsA E 8 [.c p72] .nrm (initTm 0 args .leaf) S (RetQ E [.tmp 2] P)) : ∃ r S', EvA E 72 args S r S' ∧ P r S' := ev_ends (fn := Tryz.f72) (by kernel_rfl) rfl comp72 (by kernel_rfl) (by kernel_rfl) hn h
end Go.Proofs.YtpcgbkjdobjdaaaGreatDoor
