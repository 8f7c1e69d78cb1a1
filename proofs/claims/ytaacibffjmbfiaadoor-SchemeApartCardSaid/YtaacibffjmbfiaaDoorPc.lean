/-
  The compiled code of functions of this seat's program, and facts on its types: written by program (wip/GenPC.lean); the kernel checks each row.
-/
import Derived.Test.YtaacibffjmbfiaaDoorRows
import Derived.Test.YtaacibffjmbfiaaDoorAbs24
import Derived.Test.YtaacibffjmbfiaaDoorAbs23
set_option linter.unusedSimpArgs false
set_option linter.unusedVariables false
set_option maxRecDepth 100000
namespace Go.Proofs.YtaacibffjmbfiaaDoor
open Go.Abs
noncomputable def E : Env := { plainEnv Tryd.prog (fun t d => (Nat.beq t 32 && isDst d 63)) (fun _ _ => none) (fun _ => none) with X := fun f => bif Nat.beq f 41 then some sortX else none }
theorem load2 {tm : PM AV} {S : St} {d : Option Tmp} (x : Operand) : opV E tm d (.load 2 x) S = loadC false 1 (E.ev tm x) S := load_chk 2 false 1 (by kernel_rfl) x
theorem store2 {tm : PM AV} {S : St} {d : Option Tmp} (x y : Operand) : opV E tm d (.store 2 x y) S = storeC 1 (E.ev tm x) (E.ev tm y) S := store_chk (b := false) 2 1 (by kernel_rfl) x y
theorem load3 {tm : PM AV} {S : St} {d : Option Tmp} (x : Operand) : opV E tm d (.load 3 x) S = loadC false 1 (E.ev tm x) S := load_chk 3 false 1 (by kernel_rfl) x
theorem store3 {tm : PM AV} {S : St} {d : Option Tmp} (x y : Operand) : opV E tm d (.store 3 x y) S = storeC 1 (E.ev tm x) (E.ev tm y) S := store_chk (b := false) 3 1 (by kernel_rfl) x y
theorem load4 {tm : PM AV} {S : St} {d : Option Tmp} (x : Operand) : opV E tm d (.load 4 x) S = loadC false 1 (E.ev tm x) S := load_chk 4 false 1 (by kernel_rfl) x
theorem store4 {tm : PM AV} {S : St} {d : Option Tmp} (x y : Operand) : opV E tm d (.store 4 x y) S = storeC 1 (E.ev tm x) (E.ev tm y) S := store_chk (b := false) 4 1 (by kernel_rfl) x y
theorem load5 {tm : PM AV} {S : St} {d : Option Tmp} (x : Operand) : opV E tm d (.load 5 x) S = loadC false 1 (E.ev tm x) S := load_chk 5 false 1 (by kernel_rfl) x
theorem store5 {tm : PM AV} {S : St} {d : Option Tmp} (x y : Operand) : opV E tm d (.store 5 x y) S = storeC 1 (E.ev tm x) (E.ev tm y) S := store_chk (b := false) 5 1 (by kernel_rfl) x y
theorem load6 {tm : PM AV} {S : St} {d : Option Tmp} (x : Operand) : opV E tm d (.load 6 x) S = loadC false 1 (E.ev tm x) S := load_chk 6 false 1 (by kernel_rfl) x
theorem store6 {tm : PM AV} {S : St} {d : Option Tmp} (x y : Operand) : opV E tm d (.store 6 x y) S = storeC 1 (E.ev tm x) (E.ev tm y) S := store_chk (b := false) 6 1 (by kernel_rfl) x y
theorem load7 {tm : PM AV} {S : St} {d : Option Tmp} (x : Operand) : opV E tm d (.load 7 x) S = loadC true 4 (E.ev tm x) S := load_chk 7 true 4 (by kernel_rfl) x
theorem store7 {tm : PM AV} {S : St} {d : Option Tmp} (x y : Operand) : opV E tm d (.store 7 x y) S = storeC 4 (E.ev tm x) (E.ev tm y) S := store_chk (b := true) 7 4 (by kernel_rfl) x y
theorem load8 {tm : PM AV} {S : St} {d : Option Tmp} (x : Operand) : opV E tm d (.load 8 x) S = loadC true 4 (E.ev tm x) S := load_chk 8 true 4 (by kernel_rfl) x
theorem store8 {tm : PM AV} {S : St} {d : Option Tmp} (x y : Operand) : opV E tm d (.store 8 x y) S = storeC 4 (E.ev tm x) (E.ev tm y) S := store_chk (b := true) 8 4 (by kernel_rfl) x y
theorem load9 {tm : PM AV} {S : St} {d : Option Tmp} (x : Operand) : opV E tm d (.load 9 x) S = loadC false 1 (E.ev tm x) S := load_chk 9 false 1 (by kernel_rfl) x
theorem store9 {tm : PM AV} {S : St} {d : Option Tmp} (x y : Operand) : opV E tm d (.store 9 x y) S = storeC 1 (E.ev tm x) (E.ev tm y) S := store_chk (b := false) 9 1 (by kernel_rfl) x y
theorem load10 {tm : PM AV} {S : St} {d : Option Tmp} (x : Operand) : opV E tm d (.load 10 x) S = loadC false 1 (E.ev tm x) S := load_chk 10 false 1 (by kernel_rfl) x
theorem store10 {tm : PM AV} {S : St} {d : Option Tmp} (x y : Operand) : opV E tm d (.store 10 x y) S = storeC 1 (E.ev tm x) (E.ev tm y) S := store_chk (b := false) 10 1 (by kernel_rfl) x y
theorem load11 {tm : PM AV} {S : St} {d : Option Tmp} (x : Operand) : opV E tm d (.load 11 x) S = loadC false 1 (E.ev tm x) S := load_chk 11 false 1 (by kernel_rfl) x
theorem store11 {tm : PM AV} {S : St} {d : Option Tmp} (x y : Operand) : opV E tm d (.store 11 x y) S = storeC 1 (E.ev tm x) (E.ev tm y) S := store_chk (b := false) 11 1 (by kernel_rfl) x y
theorem load12 {tm : PM AV} {S : St} {d : Option Tmp} (x : Operand) : opV E tm d (.load 12 x) S = loadC false 1 (E.ev tm x) S := load_chk 12 false 1 (by kernel_rfl) x
theorem store12 {tm : PM AV} {S : St} {d : Option Tmp} (x y : Operand) : opV E tm d (.store 12 x y) S = storeC 1 (E.ev tm x) (E.ev tm y) S := store_chk (b := false) 12 1 (by kernel_rfl) x y
theorem load13 {tm : PM AV} {S : St} {d : Option Tmp} (x : Operand) : opV E tm d (.load 13 x) S = loadC true 2 (E.ev tm x) S := load_chk 13 true 2 (by kernel_rfl) x
theorem store13 {tm : PM AV} {S : St} {d : Option Tmp} (x y : Operand) : opV E tm d (.store 13 x y) S = storeC 2 (E.ev tm x) (E.ev tm y) S := store_chk (b := true) 13 2 (by kernel_rfl) x y
theorem load14 {tm : PM AV} {S : St} {d : Option Tmp} (x : Operand) : opV E tm d (.load 14 x) S = loadC true 2 (E.ev tm x) S := load_chk 14 true 2 (by kernel_rfl) x
theorem store14 {tm : PM AV} {S : St} {d : Option Tmp} (x y : Operand) : opV E tm d (.store 14 x y) S = storeC 2 (E.ev tm x) (E.ev tm y) S := store_chk (b := true) 14 2 (by kernel_rfl) x y
theorem load15 {tm : PM AV} {S : St} {d : Option Tmp} (x : Operand) : opV E tm d (.load 15 x) S = loadC false 1 (E.ev tm x) S := load_chk 15 false 1 (by kernel_rfl) x
theorem store15 {tm : PM AV} {S : St} {d : Option Tmp} (x y : Operand) : opV E tm d (.store 15 x y) S = storeC 1 (E.ev tm x) (E.ev tm y) S := store_chk (b := false) 15 1 (by kernel_rfl) x y
theorem load16 {tm : PM AV} {S : St} {d : Option Tmp} (x : Operand) : opV E tm d (.load 16 x) S = loadC false 1 (E.ev tm x) S := load_chk 16 false 1 (by kernel_rfl) x
theorem store16 {tm : PM AV} {S : St} {d : Option Tmp} (x y : Operand) : opV E tm d (.store 16 x y) S = storeC 1 (E.ev tm x) (E.ev tm y) S := store_chk (b := false) 16 1 (by kernel_rfl) x y
theorem load17 {tm : PM AV} {S : St} {d : Option Tmp} (x : Operand) : opV E tm d (.load 17 x) S = loadC false 1 (E.ev tm x) S := load_chk 17 false 1 (by kernel_rfl) x
theorem store17 {tm : PM AV} {S : St} {d : Option Tmp} (x y : Operand) : opV E tm d (.store 17 x y) S = storeC 1 (E.ev tm x) (E.ev tm y) S := store_chk (b := false) 17 1 (by kernel_rfl) x y
theorem load18 {tm : PM AV} {S : St} {d : Option Tmp} (x : Operand) : opV E tm d (.load 18 x) S = loadC true 1 (E.ev tm x) S := load_chk 18 true 1 (by kernel_rfl) x
theorem store18 {tm : PM AV} {S : St} {d : Option Tmp} (x y : Operand) : opV E tm d (.store 18 x y) S = storeC 1 (E.ev tm x) (E.ev tm y) S := store_chk (b := true) 18 1 (by kernel_rfl) x y
theorem load19 {tm : PM AV} {S : St} {d : Option Tmp} (x : Operand) : opV E tm d (.load 19 x) S = loadC true 1 (E.ev tm x) S := load_chk 19 true 1 (by kernel_rfl) x
theorem store19 {tm : PM AV} {S : St} {d : Option Tmp} (x y : Operand) : opV E tm d (.store 19 x y) S = storeC 1 (E.ev tm x) (E.ev tm y) S := store_chk (b := true) 19 1 (by kernel_rfl) x y
theorem load21 {tm : PM AV} {S : St} {d : Option Tmp} (x : Operand) : opV E tm d (.load 21 x) S = loadC false 1 (E.ev tm x) S := load_chk 21 false 1 (by kernel_rfl) x
theorem store21 {tm : PM AV} {S : St} {d : Option Tmp} (x y : Operand) : opV E tm d (.store 21 x y) S = storeC 1 (E.ev tm x) (E.ev tm y) S := store_chk (b := false) 21 1 (by kernel_rfl) x y
theorem load22 {tm : PM AV} {S : St} {d : Option Tmp} (x : Operand) : opV E tm d (.load 22 x) S = loadC false 1 (E.ev tm x) S := load_chk 22 false 1 (by kernel_rfl) x
theorem store22 {tm : PM AV} {S : St} {d : Option Tmp} (x y : Operand) : opV E tm d (.store 22 x y) S = storeC 1 (E.ev tm x) (E.ev tm y) S := store_chk (b := false) 22 1 (by kernel_rfl) x y
theorem und22 : E.und 22 = some (.slice 24) := by kernel_rfl
theorem sl22 : slIs E 22 4 = true := by kernel_rfl
theorem el22 : elIs E 22 24 true 4 56 = true := by kernel_rfl
theorem bs22 {tm : PM AV} {S : St} {d : Option Tmp} (n : Nat) (ps : Array (Nat × Operand)) : opV E tm d (.buildSlice 22 n ps) S = buildSliceA E 22 n (ps.toList.map fun p => (p.1, E.ev tm p.2)) S := rfl
theorem app22 {tm : PM AV} {S : St} {d : Option Tmp} (x y : Operand) (t1 : TypeId) : opV E tm d (.call (Call.mk (.builtin .append) #[x, y] #[22, t1])) S = builtinA E false .append [22, t1] [E.ev tm x, E.ev tm y] S := rfl
theorem index22 {tm : PM AV} {S : St} {d : Option Tmp} (x y : Operand) : opV E tm d (.indexAddr 22 x y) S = idxV 4 (E.ev tm x) (int? (E.ev tm y)) S := index_chk 22 4 (by kernel_rfl) x y
theorem len22 {tm : PM AV} {S : St} {d : Option Tmp} (x : Operand) : opV E tm d (.call (Call.mk (.builtin .len) #[x] #[22])) S = lenV (E.ev tm x) S := op_len (t := 22) (e := 24) (by kernel_rfl) x
theorem load23 {tm : PM AV} {S : St} {d : Option Tmp} (x : Operand) : opV E tm d (.load 23 x) S = loadC true 4 (E.ev tm x) S := load_chk 23 true 4 (by kernel_rfl) x
theorem store23 {tm : PM AV} {S : St} {d : Option Tmp} (x y : Operand) : opV E tm d (.store 23 x y) S = storeC 4 (E.ev tm x) (E.ev tm y) S := store_chk (b := true) 23 4 (by kernel_rfl) x y
theorem load24 {tm : PM AV} {S : St} {d : Option Tmp} (x : Operand) : opV E tm d (.load 24 x) S = loadC true 4 (E.ev tm x) S := load_chk 24 true 4 (by kernel_rfl) x
theorem store24 {tm : PM AV} {S : St} {d : Option Tmp} (x y : Operand) : opV E tm d (.store 24 x y) S = storeC 4 (E.ev tm x) (E.ev tm y) S := store_chk (b := true) 24 4 (by kernel_rfl) x y
theorem load25 {tm : PM AV} {S : St} {d : Option Tmp} (x : Operand) : opV E tm d (.load 25 x) S = loadC false 1 (E.ev tm x) S := load_chk 25 false 1 (by kernel_rfl) x
theorem store25 {tm : PM AV} {S : St} {d : Option Tmp} (x y : Operand) : opV E tm d (.store 25 x y) S = storeC 1 (E.ev tm x) (E.ev tm y) S := store_chk (b := false) 25 1 (by kernel_rfl) x y
theorem und25 : E.und 25 = some (.slice 34) := by kernel_rfl
theorem sl25 : slIs E 25 5 = true := by kernel_rfl
theorem el25 : elIs E 25 34 true 5 80 = true := by kernel_rfl
theorem bs25 {tm : PM AV} {S : St} {d : Option Tmp} (n : Nat) (ps : Array (Nat × Operand)) : opV E tm d (.buildSlice 25 n ps) S = buildSliceA E 25 n (ps.toList.map fun p => (p.1, E.ev tm p.2)) S := rfl
theorem app25 {tm : PM AV} {S : St} {d : Option Tmp} (x y : Operand) (t1 : TypeId) : opV E tm d (.call (Call.mk (.builtin .append) #[x, y] #[25, t1])) S = builtinA E false .append [25, t1] [E.ev tm x, E.ev tm y] S := rfl
theorem index25 {tm : PM AV} {S : St} {d : Option Tmp} (x y : Operand) : opV E tm d (.indexAddr 25 x y) S = idxV 5 (E.ev tm x) (int? (E.ev tm y)) S := index_chk 25 5 (by kernel_rfl) x y
theorem len25 {tm : PM AV} {S : St} {d : Option Tmp} (x : Operand) : opV E tm d (.call (Call.mk (.builtin .len) #[x] #[25])) S = lenV (E.ev tm x) S := op_len (t := 25) (e := 34) (by kernel_rfl) x
theorem load29 {tm : PM AV} {S : St} {d : Option Tmp} (x : Operand) : opV E tm d (.load 29 x) S = loadC false 1 (E.ev tm x) S := load_chk 29 false 1 (by kernel_rfl) x
theorem store29 {tm : PM AV} {S : St} {d : Option Tmp} (x y : Operand) : opV E tm d (.store 29 x y) S = storeC 1 (E.ev tm x) (E.ev tm y) S := store_chk (b := false) 29 1 (by kernel_rfl) x y
theorem load32 {tm : PM AV} {S : St} {d : Option Tmp} (x : Operand) : opV E tm d (.load 32 x) S = loadC false 1 (E.ev tm x) S := load_chk 32 false 1 (by kernel_rfl) x
theorem store32 {tm : PM AV} {S : St} {d : Option Tmp} (x y : Operand) : opV E tm d (.store 32 x y) S = storeC 1 (E.ev tm x) (E.ev tm y) S := store_chk (b := false) 32 1 (by kernel_rfl) x y
theorem und32 : E.und 32 = some (.slice 3) := by kernel_rfl
theorem sl32 : slIs E 32 1 = true := by kernel_rfl
theorem el32 : elIs E 32 3 false 1 8 = true := by kernel_rfl
theorem hp32 {k : Nat} (hk : (k == 63) = false) : E.hp 32 (some k) = false := by
  show (Nat.beq 32 32 && isDst (some k) 63) = false
  simpa [isDst] using hk
theorem bs32 {tm : PM AV} {S : St} {k : Nat} (hk : (k == 63) = false) (n : Nat) (ps : Array (Nat × Operand)) : opV E tm (some k) (.buildSlice 32 n ps) S = buildSliceA E 32 n (ps.toList.map fun p => (p.1, E.ev tm p.2)) S := by
  have h1 : isMk E (opOf (some k) (.buildSlice 32 n ps)) = false := hp32 hk
  simp only [opV, evOp, h1, cond_false]; rfl
theorem app32 {tm : PM AV} {S : St} {k : Nat} (hk : (k == 63) = false) (x y : Operand) (t1 : TypeId) : opV E tm (some k) (.call (Call.mk (.builtin .append) #[x, y] #[32, t1])) S = builtinA E false .append [32, t1] [E.ev tm x, E.ev tm y] S := by
  have h : opV E tm (some k) (.call (Call.mk (.builtin .append) #[x, y] #[32, t1])) S = builtinA E (E.hp 32 (some k)) .append [32, t1] [E.ev tm x, E.ev tm y] S := rfl
  rw [h, hp32 hk]
theorem app32m {tm : PM AV} {S : St} (x y : Operand) (t1 : TypeId) : opV E tm (some 63) (.call (Call.mk (.builtin .append) #[x, y] #[32, t1])) S = builtinA E true .append [32, t1] [E.ev tm x, E.ev tm y] S := rfl
theorem index32 {tm : PM AV} {S : St} {d : Option Tmp} (x y : Operand) : opV E tm d (.indexAddr 32 x y) S = idxV 1 (E.ev tm x) (int? (E.ev tm y)) S := index_chk 32 1 (by kernel_rfl) x y
theorem len32 {tm : PM AV} {S : St} {d : Option Tmp} (x : Operand) : opV E tm d (.call (Call.mk (.builtin .len) #[x] #[32])) S = lenV (E.ev tm x) S := op_len (t := 32) (e := 3) (by kernel_rfl) x
theorem load33 {tm : PM AV} {S : St} {d : Option Tmp} (x : Operand) : opV E tm d (.load 33 x) S = loadC true 5 (E.ev tm x) S := load_chk 33 true 5 (by kernel_rfl) x
theorem store33 {tm : PM AV} {S : St} {d : Option Tmp} (x y : Operand) : opV E tm d (.store 33 x y) S = storeC 5 (E.ev tm x) (E.ev tm y) S := store_chk (b := true) 33 5 (by kernel_rfl) x y
theorem load34 {tm : PM AV} {S : St} {d : Option Tmp} (x : Operand) : opV E tm d (.load 34 x) S = loadC true 5 (E.ev tm x) S := load_chk 34 true 5 (by kernel_rfl) x
theorem store34 {tm : PM AV} {S : St} {d : Option Tmp} (x y : Operand) : opV E tm d (.store 34 x y) S = storeC 5 (E.ev tm x) (E.ev tm y) S := store_chk (b := true) 34 5 (by kernel_rfl) x y
theorem load46 {tm : PM AV} {S : St} {d : Option Tmp} (x : Operand) : opV E tm d (.load 46 x) S = loadC false 1 (E.ev tm x) S := load_chk 46 false 1 (by kernel_rfl) x
theorem store46 {tm : PM AV} {S : St} {d : Option Tmp} (x y : Operand) : opV E tm d (.store 46 x y) S = storeC 1 (E.ev tm x) (E.ev tm y) S := store_chk (b := false) 46 1 (by kernel_rfl) x y
theorem load47 {tm : PM AV} {S : St} {d : Option Tmp} (x : Operand) : opV E tm d (.load 47 x) S = loadC false 1 (E.ev tm x) S := load_chk 47 false 1 (by kernel_rfl) x
theorem store47 {tm : PM AV} {S : St} {d : Option Tmp} (x y : Operand) : opV E tm d (.store 47 x y) S = storeC 1 (E.ev tm x) (E.ev tm y) S := store_chk (b := false) 47 1 (by kernel_rfl) x y
theorem und47 : E.und 47 = some (.slice 49) := by kernel_rfl
theorem sl47 : slIs E 47 4 = true := by kernel_rfl
theorem el47 : elIs E 47 49 true 4 56 = true := by kernel_rfl
theorem bs47 {tm : PM AV} {S : St} {d : Option Tmp} (n : Nat) (ps : Array (Nat × Operand)) : opV E tm d (.buildSlice 47 n ps) S = buildSliceA E 47 n (ps.toList.map fun p => (p.1, E.ev tm p.2)) S := rfl
theorem app47 {tm : PM AV} {S : St} {d : Option Tmp} (x y : Operand) (t1 : TypeId) : opV E tm d (.call (Call.mk (.builtin .append) #[x, y] #[47, t1])) S = builtinA E false .append [47, t1] [E.ev tm x, E.ev tm y] S := rfl
theorem index47 {tm : PM AV} {S : St} {d : Option Tmp} (x y : Operand) : opV E tm d (.indexAddr 47 x y) S = idxV 4 (E.ev tm x) (int? (E.ev tm y)) S := index_chk 47 4 (by kernel_rfl) x y
theorem len47 {tm : PM AV} {S : St} {d : Option Tmp} (x : Operand) : opV E tm d (.call (Call.mk (.builtin .len) #[x] #[47])) S = lenV (E.ev tm x) S := op_len (t := 47) (e := 49) (by kernel_rfl) x
theorem load48 {tm : PM AV} {S : St} {d : Option Tmp} (x : Operand) : opV E tm d (.load 48 x) S = loadC true 4 (E.ev tm x) S := load_chk 48 true 4 (by kernel_rfl) x
theorem store48 {tm : PM AV} {S : St} {d : Option Tmp} (x y : Operand) : opV E tm d (.store 48 x y) S = storeC 4 (E.ev tm x) (E.ev tm y) S := store_chk (b := true) 48 4 (by kernel_rfl) x y
theorem load49 {tm : PM AV} {S : St} {d : Option Tmp} (x : Operand) : opV E tm d (.load 49 x) S = loadC true 4 (E.ev tm x) S := load_chk 49 true 4 (by kernel_rfl) x
theorem store49 {tm : PM AV} {S : St} {d : Option Tmp} (x y : Operand) : opV E tm d (.store 49 x y) S = storeC 4 (E.ev tm x) (E.ev tm y) S := store_chk (b := true) 49 4 (by kernel_rfl) x y
theorem load50 {tm : PM AV} {S : St} {d : Option Tmp} (x : Operand) : opV E tm d (.load 50 x) S = loadC true 8000 (E.ev tm x) S := load_chk 50 true 8000 (by kernel_rfl) x
theorem store50 {tm : PM AV} {S : St} {d : Option Tmp} (x y : Operand) : opV E tm d (.store 50 x y) S = storeC 8000 (E.ev tm x) (E.ev tm y) S := store_chk (b := true) 50 8000 (by kernel_rfl) x y
theorem load51 {tm : PM AV} {S : St} {d : Option Tmp} (x : Operand) : opV E tm d (.load 51 x) S = loadC true 8001 (E.ev tm x) S := load_chk 51 true 8001 (by kernel_rfl) x
theorem store51 {tm : PM AV} {S : St} {d : Option Tmp} (x y : Operand) : opV E tm d (.store 51 x y) S = storeC 8001 (E.ev tm x) (E.ev tm y) S := store_chk (b := true) 51 8001 (by kernel_rfl) x y
theorem load52 {tm : PM AV} {S : St} {d : Option Tmp} (x : Operand) : opV E tm d (.load 52 x) S = loadC true 8001 (E.ev tm x) S := load_chk 52 true 8001 (by kernel_rfl) x
theorem store52 {tm : PM AV} {S : St} {d : Option Tmp} (x y : Operand) : opV E tm d (.store 52 x y) S = storeC 8001 (E.ev tm x) (E.ev tm y) S := store_chk (b := true) 52 8001 (by kernel_rfl) x y
theorem load54 {tm : PM AV} {S : St} {d : Option Tmp} (x : Operand) : opV E tm d (.load 54 x) S = loadC false 1 (E.ev tm x) S := load_chk 54 false 1 (by kernel_rfl) x
theorem store54 {tm : PM AV} {S : St} {d : Option Tmp} (x y : Operand) : opV E tm d (.store 54 x y) S = storeC 1 (E.ev tm x) (E.ev tm y) S := store_chk (b := false) 54 1 (by kernel_rfl) x y
theorem load58 {tm : PM AV} {S : St} {d : Option Tmp} (x : Operand) : opV E tm d (.load 58 x) S = loadC false 1 (E.ev tm x) S := load_chk 58 false 1 (by kernel_rfl) x
theorem store58 {tm : PM AV} {S : St} {d : Option Tmp} (x y : Operand) : opV E tm d (.store 58 x y) S = storeC 1 (E.ev tm x) (E.ev tm y) S := store_chk (b := false) 58 1 (by kernel_rfl) x y
theorem und58 : E.und 58 = some (.slice 60) := by kernel_rfl
theorem sl58 : slIs E 58 5 = true := by kernel_rfl
theorem el58 : elIs E 58 60 true 5 80 = true := by kernel_rfl
theorem bs58 {tm : PM AV} {S : St} {d : Option Tmp} (n : Nat) (ps : Array (Nat × Operand)) : opV E tm d (.buildSlice 58 n ps) S = buildSliceA E 58 n (ps.toList.map fun p => (p.1, E.ev tm p.2)) S := rfl
theorem app58 {tm : PM AV} {S : St} {d : Option Tmp} (x y : Operand) (t1 : TypeId) : opV E tm d (.call (Call.mk (.builtin .append) #[x, y] #[58, t1])) S = builtinA E false .append [58, t1] [E.ev tm x, E.ev tm y] S := rfl
theorem index58 {tm : PM AV} {S : St} {d : Option Tmp} (x y : Operand) : opV E tm d (.indexAddr 58 x y) S = idxV 5 (E.ev tm x) (int? (E.ev tm y)) S := index_chk 58 5 (by kernel_rfl) x y
theorem len58 {tm : PM AV} {S : St} {d : Option Tmp} (x : Operand) : opV E tm d (.call (Call.mk (.builtin .len) #[x] #[58])) S = lenV (E.ev tm x) S := op_len (t := 58) (e := 60) (by kernel_rfl) x
theorem load59 {tm : PM AV} {S : St} {d : Option Tmp} (x : Operand) : opV E tm d (.load 59 x) S = loadC true 5 (E.ev tm x) S := load_chk 59 true 5 (by kernel_rfl) x
theorem store59 {tm : PM AV} {S : St} {d : Option Tmp} (x y : Operand) : opV E tm d (.store 59 x y) S = storeC 5 (E.ev tm x) (E.ev tm y) S := store_chk (b := true) 59 5 (by kernel_rfl) x y
theorem load60 {tm : PM AV} {S : St} {d : Option Tmp} (x : Operand) : opV E tm d (.load 60 x) S = loadC true 5 (E.ev tm x) S := load_chk 60 true 5 (by kernel_rfl) x
theorem store60 {tm : PM AV} {S : St} {d : Option Tmp} (x y : Operand) : opV E tm d (.store 60 x y) S = storeC 5 (E.ev tm x) (E.ev tm y) S := store_chk (b := true) 60 5 (by kernel_rfl) x y
theorem load70 {tm : PM AV} {S : St} {d : Option Tmp} (x : Operand) : opV E tm d (.load 70 x) S = loadC false 1 (E.ev tm x) S := load_chk 70 false 1 (by kernel_rfl) x
theorem store70 {tm : PM AV} {S : St} {d : Option Tmp} (x y : Operand) : opV E tm d (.store 70 x y) S = storeC 1 (E.ev tm x) (E.ev tm y) S := store_chk (b := false) 70 1 (by kernel_rfl) x y
theorem load71 {tm : PM AV} {S : St} {d : Option Tmp} (x : Operand) : opV E tm d (.load 71 x) S = loadC true 2 (E.ev tm x) S := load_chk 71 true 2 (by kernel_rfl) x
theorem store71 {tm : PM AV} {S : St} {d : Option Tmp} (x y : Operand) : opV E tm d (.store 71 x y) S = storeC 2 (E.ev tm x) (E.ev tm y) S := store_chk (b := true) 71 2 (by kernel_rfl) x y
theorem load72 {tm : PM AV} {S : St} {d : Option Tmp} (x : Operand) : opV E tm d (.load 72 x) S = loadC true 2 (E.ev tm x) S := load_chk 72 true 2 (by kernel_rfl) x
theorem store72 {tm : PM AV} {S : St} {d : Option Tmp} (x y : Operand) : opV E tm d (.store 72 x y) S = storeC 2 (E.ev tm x) (E.ev tm y) S := store_chk (b := true) 72 2 (by kernel_rfl) x y
theorem load76 {tm : PM AV} {S : St} {d : Option Tmp} (x : Operand) : opV E tm d (.load 76 x) S = loadC false 1 (E.ev tm x) S := load_chk 76 false 1 (by kernel_rfl) x
theorem store76 {tm : PM AV} {S : St} {d : Option Tmp} (x y : Operand) : opV E tm d (.store 76 x y) S = storeC 1 (E.ev tm x) (E.ev tm y) S := store_chk (b := false) 76 1 (by kernel_rfl) x y
theorem load81 {tm : PM AV} {S : St} {d : Option Tmp} (x : Operand) : opV E tm d (.load 81 x) S = loadC false 1 (E.ev tm x) S := load_chk 81 false 1 (by kernel_rfl) x
theorem store81 {tm : PM AV} {S : St} {d : Option Tmp} (x y : Operand) : opV E tm d (.store 81 x y) S = storeC 1 (E.ev tm x) (E.ev tm y) S := store_chk (b := false) 81 1 (by kernel_rfl) x y
theorem load95 {tm : PM AV} {S : St} {d : Option Tmp} (x : Operand) : opV E tm d (.load 95 x) S = loadC false 1 (E.ev tm x) S := load_chk 95 false 1 (by kernel_rfl) x
theorem store95 {tm : PM AV} {S : St} {d : Option Tmp} (x y : Operand) : opV E tm d (.store 95 x y) S = storeC 1 (E.ev tm x) (E.ev tm y) S := store_chk (b := false) 95 1 (by kernel_rfl) x y
theorem load102 {tm : PM AV} {S : St} {d : Option Tmp} (x : Operand) : opV E tm d (.load 102 x) S = loadC false 1 (E.ev tm x) S := load_chk 102 false 1 (by kernel_rfl) x
theorem store102 {tm : PM AV} {S : St} {d : Option Tmp} (x y : Operand) : opV E tm d (.store 102 x y) S = storeC 1 (E.ev tm x) (E.ev tm y) S := store_chk (b := false) 102 1 (by kernel_rfl) x y
theorem load111 {tm : PM AV} {S : St} {d : Option Tmp} (x : Operand) : opV E tm d (.load 111 x) S = loadC false 1 (E.ev tm x) S := load_chk 111 false 1 (by kernel_rfl) x
theorem store111 {tm : PM AV} {S : St} {d : Option Tmp} (x y : Operand) : opV E tm d (.store 111 x y) S = storeC 1 (E.ev tm x) (E.ev tm y) S := store_chk (b := false) 111 1 (by kernel_rfl) x y
theorem load113 {tm : PM AV} {S : St} {d : Option Tmp} (x : Operand) : opV E tm d (.load 113 x) S = loadC false 1 (E.ev tm x) S := load_chk 113 false 1 (by kernel_rfl) x
theorem store113 {tm : PM AV} {S : St} {d : Option Tmp} (x y : Operand) : opV E tm d (.store 113 x y) S = storeC 1 (E.ev tm x) (E.ev tm y) S := store_chk (b := false) 113 1 (by kernel_rfl) x y
theorem load115 {tm : PM AV} {S : St} {d : Option Tmp} (x : Operand) : opV E tm d (.load 115 x) S = loadC false 1 (E.ev tm x) S := load_chk 115 false 1 (by kernel_rfl) x
theorem store115 {tm : PM AV} {S : St} {d : Option Tmp} (x y : Operand) : opV E tm d (.store 115 x y) S = storeC 1 (E.ev tm x) (E.ev tm y) S := store_chk (b := false) 115 1 (by kernel_rfl) x y
theorem load119 {tm : PM AV} {S : St} {d : Option Tmp} (x : Operand) : opV E tm d (.load 119 x) S = loadC false 1 (E.ev tm x) S := load_chk 119 false 1 (by kernel_rfl) x
theorem store119 {tm : PM AV} {S : St} {d : Option Tmp} (x y : Operand) : opV E tm d (.store 119 x y) S = storeC 1 (E.ev tm x) (E.ev tm y) S := store_chk (b := false) 119 1 (by kernel_rfl) x y
theorem load123 {tm : PM AV} {S : St} {d : Option Tmp} (x : Operand) : opV E tm d (.load 123 x) S = loadC false 1 (E.ev tm x) S := load_chk 123 false 1 (by kernel_rfl) x
theorem store123 {tm : PM AV} {S : St} {d : Option Tmp} (x y : Operand) : opV E tm d (.store 123 x y) S = storeC 1 (E.ev tm x) (E.ev tm y) S := store_chk (b := false) 123 1 (by kernel_rfl) x y
theorem load126 {tm : PM AV} {S : St} {d : Option Tmp} (x : Operand) : opV E tm d (.load 126 x) S = loadC true 24 (E.ev tm x) S := load_chk 126 true 24 (by kernel_rfl) x
theorem store126 {tm : PM AV} {S : St} {d : Option Tmp} (x y : Operand) : opV E tm d (.store 126 x y) S = storeC 24 (E.ev tm x) (E.ev tm y) S := store_chk (b := true) 126 24 (by kernel_rfl) x y
theorem load128 {tm : PM AV} {S : St} {d : Option Tmp} (x : Operand) : opV E tm d (.load 128 x) S = loadC false 1 (E.ev tm x) S := load_chk 128 false 1 (by kernel_rfl) x
theorem store128 {tm : PM AV} {S : St} {d : Option Tmp} (x y : Operand) : opV E tm d (.store 128 x y) S = storeC 1 (E.ev tm x) (E.ev tm y) S := store_chk (b := false) 128 1 (by kernel_rfl) x y
theorem und128 : E.und 128 = some (.slice 5) := by kernel_rfl
theorem sl128 : slIs E 128 1 = true := by kernel_rfl
theorem el128 : elIs E 128 5 false 1 1 = true := by kernel_rfl
theorem bs128 {tm : PM AV} {S : St} {d : Option Tmp} (n : Nat) (ps : Array (Nat × Operand)) : opV E tm d (.buildSlice 128 n ps) S = buildSliceA E 128 n (ps.toList.map fun p => (p.1, E.ev tm p.2)) S := rfl
theorem app128 {tm : PM AV} {S : St} {d : Option Tmp} (x y : Operand) (t1 : TypeId) : opV E tm d (.call (Call.mk (.builtin .append) #[x, y] #[128, t1])) S = builtinA E false .append [128, t1] [E.ev tm x, E.ev tm y] S := rfl
theorem index128 {tm : PM AV} {S : St} {d : Option Tmp} (x y : Operand) : opV E tm d (.indexAddr 128 x y) S = idxV 1 (E.ev tm x) (int? (E.ev tm y)) S := index_chk 128 1 (by kernel_rfl) x y
theorem len128 {tm : PM AV} {S : St} {d : Option Tmp} (x : Operand) : opV E tm d (.call (Call.mk (.builtin .len) #[x] #[128])) S = lenV (E.ev tm x) S := op_len (t := 128) (e := 5) (by kernel_rfl) x
theorem load132 {tm : PM AV} {S : St} {d : Option Tmp} (x : Operand) : opV E tm d (.load 132 x) S = loadC true 20 (E.ev tm x) S := load_chk 132 true 20 (by kernel_rfl) x
theorem store132 {tm : PM AV} {S : St} {d : Option Tmp} (x y : Operand) : opV E tm d (.store 132 x y) S = storeC 20 (E.ev tm x) (E.ev tm y) S := store_chk (b := true) 132 20 (by kernel_rfl) x y
theorem load133 {tm : PM AV} {S : St} {d : Option Tmp} (x : Operand) : opV E tm d (.load 133 x) S = loadC true 65 (E.ev tm x) S := load_chk 133 true 65 (by kernel_rfl) x
theorem store133 {tm : PM AV} {S : St} {d : Option Tmp} (x y : Operand) : opV E tm d (.store 133 x y) S = storeC 65 (E.ev tm x) (E.ev tm y) S := store_chk (b := true) 133 65 (by kernel_rfl) x y
theorem load134 {tm : PM AV} {S : St} {d : Option Tmp} (x : Operand) : opV E tm d (.load 134 x) S = loadC true 32 (E.ev tm x) S := load_chk 134 true 32 (by kernel_rfl) x
theorem store134 {tm : PM AV} {S : St} {d : Option Tmp} (x y : Operand) : opV E tm d (.store 134 x y) S = storeC 32 (E.ev tm x) (E.ev tm y) S := store_chk (b := true) 134 32 (by kernel_rfl) x y
theorem load135 {tm : PM AV} {S : St} {d : Option Tmp} (x : Operand) : opV E tm d (.load 135 x) S = loadC true 64 (E.ev tm x) S := load_chk 135 true 64 (by kernel_rfl) x
theorem store135 {tm : PM AV} {S : St} {d : Option Tmp} (x y : Operand) : opV E tm d (.store 135 x y) S = storeC 64 (E.ev tm x) (E.ev tm y) S := store_chk (b := true) 135 64 (by kernel_rfl) x y
theorem load137 {tm : PM AV} {S : St} {d : Option Tmp} (x : Operand) : opV E tm d (.load 137 x) S = loadC true 4 (E.ev tm x) S := load_chk 137 true 4 (by kernel_rfl) x
theorem store137 {tm : PM AV} {S : St} {d : Option Tmp} (x y : Operand) : opV E tm d (.store 137 x y) S = storeC 4 (E.ev tm x) (E.ev tm y) S := store_chk (b := true) 137 4 (by kernel_rfl) x y
theorem load138 {tm : PM AV} {S : St} {d : Option Tmp} (x : Operand) : opV E tm d (.load 138 x) S = loadC true 4 (E.ev tm x) S := load_chk 138 true 4 (by kernel_rfl) x
theorem store138 {tm : PM AV} {S : St} {d : Option Tmp} (x y : Operand) : opV E tm d (.store 138 x y) S = storeC 4 (E.ev tm x) (E.ev tm y) S := store_chk (b := true) 138 4 (by kernel_rfl) x y
theorem load139 {tm : PM AV} {S : St} {d : Option Tmp} (x : Operand) : opV E tm d (.load 139 x) S = loadC true 0 (E.ev tm x) S := load_chk 139 true 0 (by kernel_rfl) x
theorem store139 {tm : PM AV} {S : St} {d : Option Tmp} (x y : Operand) : opV E tm d (.store 139 x y) S = storeC 0 (E.ev tm x) (E.ev tm y) S := store_chk (b := true) 139 0 (by kernel_rfl) x y
theorem load140 {tm : PM AV} {S : St} {d : Option Tmp} (x : Operand) : opV E tm d (.load 140 x) S = loadC true 0 (E.ev tm x) S := load_chk 140 true 0 (by kernel_rfl) x
theorem store140 {tm : PM AV} {S : St} {d : Option Tmp} (x y : Operand) : opV E tm d (.store 140 x y) S = storeC 0 (E.ev tm x) (E.ev tm y) S := store_chk (b := true) 140 0 (by kernel_rfl) x y
theorem load141 {tm : PM AV} {S : St} {d : Option Tmp} (x : Operand) : opV E tm d (.load 141 x) S = loadC true 0 (E.ev tm x) S := load_chk 141 true 0 (by kernel_rfl) x
theorem store141 {tm : PM AV} {S : St} {d : Option Tmp} (x y : Operand) : opV E tm d (.store 141 x y) S = storeC 0 (E.ev tm x) (E.ev tm y) S := store_chk (b := true) 141 0 (by kernel_rfl) x y
theorem load143 {tm : PM AV} {S : St} {d : Option Tmp} (x : Operand) : opV E tm d (.load 143 x) S = loadC false 1 (E.ev tm x) S := load_chk 143 false 1 (by kernel_rfl) x
theorem store143 {tm : PM AV} {S : St} {d : Option Tmp} (x y : Operand) : opV E tm d (.store 143 x y) S = storeC 1 (E.ev tm x) (E.ev tm y) S := store_chk (b := false) 143 1 (by kernel_rfl) x y
theorem load144 {tm : PM AV} {S : St} {d : Option Tmp} (x : Operand) : opV E tm d (.load 144 x) S = loadC false 1 (E.ev tm x) S := load_chk 144 false 1 (by kernel_rfl) x
theorem store144 {tm : PM AV} {S : St} {d : Option Tmp} (x y : Operand) : opV E tm d (.store 144 x y) S = storeC 1 (E.ev tm x) (E.ev tm y) S := store_chk (b := false) 144 1 (by kernel_rfl) x y
theorem load146 {tm : PM AV} {S : St} {d : Option Tmp} (x : Operand) : opV E tm d (.load 146 x) S = loadC false 1 (E.ev tm x) S := load_chk 146 false 1 (by kernel_rfl) x
theorem store146 {tm : PM AV} {S : St} {d : Option Tmp} (x y : Operand) : opV E tm d (.store 146 x y) S = storeC 1 (E.ev tm x) (E.ev tm y) S := store_chk (b := false) 146 1 (by kernel_rfl) x y
theorem load147 {tm : PM AV} {S : St} {d : Option Tmp} (x : Operand) : opV E tm d (.load 147 x) S = loadC false 1 (E.ev tm x) S := load_chk 147 false 1 (by kernel_rfl) x
theorem store147 {tm : PM AV} {S : St} {d : Option Tmp} (x y : Operand) : opV E tm d (.store 147 x y) S = storeC 1 (E.ev tm x) (E.ev tm y) S := store_chk (b := false) 147 1 (by kernel_rfl) x y
theorem load148 {tm : PM AV} {S : St} {d : Option Tmp} (x : Operand) : opV E tm d (.load 148 x) S = loadC false 1 (E.ev tm x) S := load_chk 148 false 1 (by kernel_rfl) x
theorem store148 {tm : PM AV} {S : St} {d : Option Tmp} (x y : Operand) : opV E tm d (.store 148 x y) S = storeC 1 (E.ev tm x) (E.ev tm y) S := store_chk (b := false) 148 1 (by kernel_rfl) x y
theorem load149 {tm : PM AV} {S : St} {d : Option Tmp} (x : Operand) : opV E tm d (.load 149 x) S = loadC true 11 (E.ev tm x) S := load_chk 149 true 11 (by kernel_rfl) x
theorem store149 {tm : PM AV} {S : St} {d : Option Tmp} (x y : Operand) : opV E tm d (.store 149 x y) S = storeC 11 (E.ev tm x) (E.ev tm y) S := store_chk (b := true) 149 11 (by kernel_rfl) x y
theorem load150 {tm : PM AV} {S : St} {d : Option Tmp} (x : Operand) : opV E tm d (.load 150 x) S = loadC true 11 (E.ev tm x) S := load_chk 150 true 11 (by kernel_rfl) x
theorem store150 {tm : PM AV} {S : St} {d : Option Tmp} (x y : Operand) : opV E tm d (.store 150 x y) S = storeC 11 (E.ev tm x) (E.ev tm y) S := store_chk (b := true) 150 11 (by kernel_rfl) x y
theorem conv2_113 {S : St} (mu : Bool) (n : Int) : convertA E mu 2 113 (.sc (.int .i64 n)) S = some (.sc (.int .u64 (IntKind.wrap .u64 n)), S) := conv_chk 2 113 .i64 .u64 n (by kernel_rfl) (by kernel_rfl)
theorem conv3_21 {S : St} (mu : Bool) (n : Int) : convertA E mu 3 21 (.sc (.int .i64 n)) S = some (.sc (.int .i32 (IntKind.wrap .i32 n)), S) := conv_chk 3 21 .i64 .i32 n (by kernel_rfl) (by kernel_rfl)
theorem conv3_95 {S : St} (mu : Bool) (n : Int) : convertA E mu 3 95 (.sc (.int .i64 n)) S = some (.sc (.int .u64 (IntKind.wrap .u64 n)), S) := conv_chk 3 95 .i64 .u64 n (by kernel_rfl) (by kernel_rfl)
theorem conv3_113 {S : St} (mu : Bool) (n : Int) : convertA E mu 3 113 (.sc (.int .i64 n)) S = some (.sc (.int .u64 (IntKind.wrap .u64 n)), S) := conv_chk 3 113 .i64 .u64 n (by kernel_rfl) (by kernel_rfl)
theorem conv3_115 {S : St} (mu : Bool) (n : Int) : convertA E mu 3 115 (.sc (.int .i64 n)) S = some (.sc (.int .u64 (IntKind.wrap .u64 n)), S) := conv_chk 3 115 .i64 .u64 n (by kernel_rfl) (by kernel_rfl)
theorem conv5_3 {S : St} (mu : Bool) (n : Int) : convertA E mu 5 3 (.sc (.int .u8 n)) S = some (.sc (.int .i64 (IntKind.wrap .i64 n)), S) := conv_chk 5 3 .u8 .i64 n (by kernel_rfl) (by kernel_rfl)
theorem conv95_3 {S : St} (mu : Bool) (n : Int) : convertA E mu 95 3 (.sc (.int .u64 n)) S = some (.sc (.int .i64 (IntKind.wrap .i64 n)), S) := conv_chk 95 3 .u64 .i64 n (by kernel_rfl) (by kernel_rfl)
theorem conv95_111 {S : St} (mu : Bool) (n : Int) : convertA E mu 95 111 (.sc (.int .u64 n)) S = some (.sc (.int .u32 (IntKind.wrap .u32 n)), S) := conv_chk 95 111 .u64 .u32 n (by kernel_rfl) (by kernel_rfl)
theorem conv111_5 {S : St} (mu : Bool) (n : Int) : convertA E mu 111 5 (.sc (.int .u32 n)) S = some (.sc (.int .u8 (IntKind.wrap .u8 n)), S) := conv_chk 111 5 .u32 .u8 n (by kernel_rfl) (by kernel_rfl)
theorem conv113_5 {S : St} (mu : Bool) (n : Int) : convertA E mu 113 5 (.sc (.int .u64 n)) S = some (.sc (.int .u8 (IntKind.wrap .u8 n)), S) := conv_chk 113 5 .u64 .u8 n (by kernel_rfl) (by kernel_rfl)
theorem conv113_111 {S : St} (mu : Bool) (n : Int) : convertA E mu 113 111 (.sc (.int .u64 n)) S = some (.sc (.int .u32 (IntKind.wrap .u32 n)), S) := conv_chk 113 111 .u64 .u32 n (by kernel_rfl) (by kernel_rfl)
theorem call3 {nt : Nat} {k : List KI} {tm : PM AV} {S : St} {Q : PostA} (d : Option Tmp) (xs : Array Operand) (ats : Array TypeId) (r : List POp) : EndsA E nt (.c (.reg (⟨d, .call (Call.mk (.value (.func 3)) xs ats), none⟩ :: r)) :: k) .nrm tm S Q = CallK E nt 3 (xs.toList.map (E.ev tm)) d r k tm S Q := e_call d 3 xs ats r rfl
theorem call4 {nt : Nat} {k : List KI} {tm : PM AV} {S : St} {Q : PostA} (d : Option Tmp) (xs : Array Operand) (ats : Array TypeId) (r : List POp) : EndsA E nt (.c (.reg (⟨d, .call (Call.mk (.value (.func 4)) xs ats), none⟩ :: r)) :: k) .nrm tm S Q = CallK E nt 4 (xs.toList.map (E.ev tm)) d r k tm S Q := e_call d 4 xs ats r rfl
theorem call5 {nt : Nat} {k : List KI} {tm : PM AV} {S : St} {Q : PostA} (d : Option Tmp) (xs : Array Operand) (ats : Array TypeId) (r : List POp) : EndsA E nt (.c (.reg (⟨d, .call (Call.mk (.value (.func 5)) xs ats), none⟩ :: r)) :: k) .nrm tm S Q = CallK E nt 5 (xs.toList.map (E.ev tm)) d r k tm S Q := e_call d 5 xs ats r rfl
theorem call6 {nt : Nat} {k : List KI} {tm : PM AV} {S : St} {Q : PostA} (d : Option Tmp) (xs : Array Operand) (ats : Array TypeId) (r : List POp) : EndsA E nt (.c (.reg (⟨d, .call (Call.mk (.value (.func 6)) xs ats), none⟩ :: r)) :: k) .nrm tm S Q = CallK E nt 6 (xs.toList.map (E.ev tm)) d r k tm S Q := e_call d 6 xs ats r rfl
theorem call7 {nt : Nat} {k : List KI} {tm : PM AV} {S : St} {Q : PostA} (d : Option Tmp) (xs : Array Operand) (ats : Array TypeId) (r : List POp) : EndsA E nt (.c (.reg (⟨d, .call (Call.mk (.value (.func 7)) xs ats), none⟩ :: r)) :: k) .nrm tm S Q = CallK E nt 7 (xs.toList.map (E.ev tm)) d r k tm S Q := e_call d 7 xs ats r rfl
theorem call8 {nt : Nat} {k : List KI} {tm : PM AV} {S : St} {Q : PostA} (d : Option Tmp) (xs : Array Operand) (ats : Array TypeId) (r : List POp) : EndsA E nt (.c (.reg (⟨d, .call (Call.mk (.value (.func 8)) xs ats), none⟩ :: r)) :: k) .nrm tm S Q = CallK E nt 8 (xs.toList.map (E.ev tm)) d r k tm S Q := e_call d 8 xs ats r rfl
theorem call9 {nt : Nat} {k : List KI} {tm : PM AV} {S : St} {Q : PostA} (d : Option Tmp) (xs : Array Operand) (ats : Array TypeId) (r : List POp) : EndsA E nt (.c (.reg (⟨d, .call (Call.mk (.value (.func 9)) xs ats), none⟩ :: r)) :: k) .nrm tm S Q = CallK E nt 9 (xs.toList.map (E.ev tm)) d r k tm S Q := e_call d 9 xs ats r rfl
theorem call10 {nt : Nat} {k : List KI} {tm : PM AV} {S : St} {Q : PostA} (d : Option Tmp) (xs : Array Operand) (ats : Array TypeId) (r : List POp) : EndsA E nt (.c (.reg (⟨d, .call (Call.mk (.value (.func 10)) xs ats), none⟩ :: r)) :: k) .nrm tm S Q = CallK E nt 10 (xs.toList.map (E.ev tm)) d r k tm S Q := e_call d 10 xs ats r rfl
theorem call11 {nt : Nat} {k : List KI} {tm : PM AV} {S : St} {Q : PostA} (d : Option Tmp) (xs : Array Operand) (ats : Array TypeId) (r : List POp) : EndsA E nt (.c (.reg (⟨d, .call (Call.mk (.value (.func 11)) xs ats), none⟩ :: r)) :: k) .nrm tm S Q = CallK E nt 11 (xs.toList.map (E.ev tm)) d r k tm S Q := e_call d 11 xs ats r rfl
theorem call12 {nt : Nat} {k : List KI} {tm : PM AV} {S : St} {Q : PostA} (d : Option Tmp) (xs : Array Operand) (ats : Array TypeId) (r : List POp) : EndsA E nt (.c (.reg (⟨d, .call (Call.mk (.value (.func 12)) xs ats), none⟩ :: r)) :: k) .nrm tm S Q = CallK E nt 12 (xs.toList.map (E.ev tm)) d r k tm S Q := e_call d 12 xs ats r rfl
theorem call13 {nt : Nat} {k : List KI} {tm : PM AV} {S : St} {Q : PostA} (d : Option Tmp) (xs : Array Operand) (ats : Array TypeId) (r : List POp) : EndsA E nt (.c (.reg (⟨d, .call (Call.mk (.value (.func 13)) xs ats), none⟩ :: r)) :: k) .nrm tm S Q = CallK E nt 13 (xs.toList.map (E.ev tm)) d r k tm S Q := e_call d 13 xs ats r rfl
theorem call14 {nt : Nat} {k : List KI} {tm : PM AV} {S : St} {Q : PostA} (d : Option Tmp) (xs : Array Operand) (ats : Array TypeId) (r : List POp) : EndsA E nt (.c (.reg (⟨d, .call (Call.mk (.value (.func 14)) xs ats), none⟩ :: r)) :: k) .nrm tm S Q = CallK E nt 14 (xs.toList.map (E.ev tm)) d r k tm S Q := e_call d 14 xs ats r rfl
theorem call15 {nt : Nat} {k : List KI} {tm : PM AV} {S : St} {Q : PostA} (d : Option Tmp) (xs : Array Operand) (ats : Array TypeId) (r : List POp) : EndsA E nt (.c (.reg (⟨d, .call (Call.mk (.value (.func 15)) xs ats), none⟩ :: r)) :: k) .nrm tm S Q = CallK E nt 15 (xs.toList.map (E.ev tm)) d r k tm S Q := e_call d 15 xs ats r rfl
theorem call16 {nt : Nat} {k : List KI} {tm : PM AV} {S : St} {Q : PostA} (d : Option Tmp) (xs : Array Operand) (ats : Array TypeId) (r : List POp) : EndsA E nt (.c (.reg (⟨d, .call (Call.mk (.value (.func 16)) xs ats), none⟩ :: r)) :: k) .nrm tm S Q = CallK E nt 16 (xs.toList.map (E.ev tm)) d r k tm S Q := e_call d 16 xs ats r rfl
theorem call17 {nt : Nat} {k : List KI} {tm : PM AV} {S : St} {Q : PostA} (d : Option Tmp) (xs : Array Operand) (ats : Array TypeId) (r : List POp) : EndsA E nt (.c (.reg (⟨d, .call (Call.mk (.value (.func 17)) xs ats), none⟩ :: r)) :: k) .nrm tm S Q = CallK E nt 17 (xs.toList.map (E.ev tm)) d r k tm S Q := e_call d 17 xs ats r rfl
theorem call18 {nt : Nat} {k : List KI} {tm : PM AV} {S : St} {Q : PostA} (d : Option Tmp) (xs : Array Operand) (ats : Array TypeId) (r : List POp) : EndsA E nt (.c (.reg (⟨d, .call (Call.mk (.value (.func 18)) xs ats), none⟩ :: r)) :: k) .nrm tm S Q = CallK E nt 18 (xs.toList.map (E.ev tm)) d r k tm S Q := e_call d 18 xs ats r rfl
theorem call19 {nt : Nat} {k : List KI} {tm : PM AV} {S : St} {Q : PostA} (d : Option Tmp) (xs : Array Operand) (ats : Array TypeId) (r : List POp) : EndsA E nt (.c (.reg (⟨d, .call (Call.mk (.value (.func 19)) xs ats), none⟩ :: r)) :: k) .nrm tm S Q = CallK E nt 19 (xs.toList.map (E.ev tm)) d r k tm S Q := e_call d 19 xs ats r rfl
theorem call20 {nt : Nat} {k : List KI} {tm : PM AV} {S : St} {Q : PostA} (d : Option Tmp) (xs : Array Operand) (ats : Array TypeId) (r : List POp) : EndsA E nt (.c (.reg (⟨d, .call (Call.mk (.value (.func 20)) xs ats), none⟩ :: r)) :: k) .nrm tm S Q = CallK E nt 20 (xs.toList.map (E.ev tm)) d r k tm S Q := e_call d 20 xs ats r rfl
theorem call21 {nt : Nat} {k : List KI} {tm : PM AV} {S : St} {Q : PostA} (d : Option Tmp) (xs : Array Operand) (ats : Array TypeId) (r : List POp) : EndsA E nt (.c (.reg (⟨d, .call (Call.mk (.value (.func 21)) xs ats), none⟩ :: r)) :: k) .nrm tm S Q = CallK E nt 21 (xs.toList.map (E.ev tm)) d r k tm S Q := e_call d 21 xs ats r rfl
theorem call22 {nt : Nat} {k : List KI} {tm : PM AV} {S : St} {Q : PostA} (d : Option Tmp) (xs : Array Operand) (ats : Array TypeId) (r : List POp) : EndsA E nt (.c (.reg (⟨d, .call (Call.mk (.value (.func 22)) xs ats), none⟩ :: r)) :: k) .nrm tm S Q = CallK E nt 22 (xs.toList.map (E.ev tm)) d r k tm S Q := e_call d 22 xs ats r rfl
theorem call23 {nt : Nat} {k : List KI} {tm : PM AV} {S : St} {Q : PostA} (d : Option Tmp) (xs : Array Operand) (ats : Array TypeId) (r : List POp) : EndsA E nt (.c (.reg (⟨d, .call (Call.mk (.value (.func 23)) xs ats), none⟩ :: r)) :: k) .nrm tm S Q = CallK E nt 23 (xs.toList.map (E.ev tm)) d r k tm S Q := e_call d 23 xs ats r rfl
theorem call24 {nt : Nat} {k : List KI} {tm : PM AV} {S : St} {Q : PostA} (d : Option Tmp) (xs : Array Operand) (ats : Array TypeId) (r : List POp) : EndsA E nt (.c (.reg (⟨d, .call (Call.mk (.value (.func 24)) xs ats), none⟩ :: r)) :: k) .nrm tm S Q = CallK E nt 24 (xs.toList.map (E.ev tm)) d r k tm S Q := e_call d 24 xs ats r rfl
theorem call25 {nt : Nat} {k : List KI} {tm : PM AV} {S : St} {Q : PostA} (d : Option Tmp) (xs : Array Operand) (ats : Array TypeId) (r : List POp) : EndsA E nt (.c (.reg (⟨d, .call (Call.mk (.value (.func 25)) xs ats), none⟩ :: r)) :: k) .nrm tm S Q = CallK E nt 25 (xs.toList.map (E.ev tm)) d r k tm S Q := e_call d 25 xs ats r rfl
theorem call26 {nt : Nat} {k : List KI} {tm : PM AV} {S : St} {Q : PostA} (d : Option Tmp) (xs : Array Operand) (ats : Array TypeId) (r : List POp) : EndsA E nt (.c (.reg (⟨d, .call (Call.mk (.value (.func 26)) xs ats), none⟩ :: r)) :: k) .nrm tm S Q = CallK E nt 26 (xs.toList.map (E.ev tm)) d r k tm S Q := e_call d 26 xs ats r rfl
theorem call27 {nt : Nat} {k : List KI} {tm : PM AV} {S : St} {Q : PostA} (d : Option Tmp) (xs : Array Operand) (ats : Array TypeId) (r : List POp) : EndsA E nt (.c (.reg (⟨d, .call (Call.mk (.value (.func 27)) xs ats), none⟩ :: r)) :: k) .nrm tm S Q = CallK E nt 27 (xs.toList.map (E.ev tm)) d r k tm S Q := e_call d 27 xs ats r rfl
theorem call28 {nt : Nat} {k : List KI} {tm : PM AV} {S : St} {Q : PostA} (d : Option Tmp) (xs : Array Operand) (ats : Array TypeId) (r : List POp) : EndsA E nt (.c (.reg (⟨d, .call (Call.mk (.value (.func 28)) xs ats), none⟩ :: r)) :: k) .nrm tm S Q = CallK E nt 28 (xs.toList.map (E.ev tm)) d r k tm S Q := e_call d 28 xs ats r rfl
theorem call29 {nt : Nat} {k : List KI} {tm : PM AV} {S : St} {Q : PostA} (d : Option Tmp) (xs : Array Operand) (ats : Array TypeId) (r : List POp) : EndsA E nt (.c (.reg (⟨d, .call (Call.mk (.value (.func 29)) xs ats), none⟩ :: r)) :: k) .nrm tm S Q = CallK E nt 29 (xs.toList.map (E.ev tm)) d r k tm S Q := e_call d 29 xs ats r rfl
theorem call30 {nt : Nat} {k : List KI} {tm : PM AV} {S : St} {Q : PostA} (d : Option Tmp) (xs : Array Operand) (ats : Array TypeId) (r : List POp) : EndsA E nt (.c (.reg (⟨d, .call (Call.mk (.value (.func 30)) xs ats), none⟩ :: r)) :: k) .nrm tm S Q = CallK E nt 30 (xs.toList.map (E.ev tm)) d r k tm S Q := e_call d 30 xs ats r rfl
theorem call31 {nt : Nat} {k : List KI} {tm : PM AV} {S : St} {Q : PostA} (d : Option Tmp) (xs : Array Operand) (ats : Array TypeId) (r : List POp) : EndsA E nt (.c (.reg (⟨d, .call (Call.mk (.value (.func 31)) xs ats), none⟩ :: r)) :: k) .nrm tm S Q = CallK E nt 31 (xs.toList.map (E.ev tm)) d r k tm S Q := e_call d 31 xs ats r rfl
theorem call32 {nt : Nat} {k : List KI} {tm : PM AV} {S : St} {Q : PostA} (d : Option Tmp) (xs : Array Operand) (ats : Array TypeId) (r : List POp) : EndsA E nt (.c (.reg (⟨d, .call (Call.mk (.value (.func 32)) xs ats), none⟩ :: r)) :: k) .nrm tm S Q = CallK E nt 32 (xs.toList.map (E.ev tm)) d r k tm S Q := e_call d 32 xs ats r rfl
theorem call33 {nt : Nat} {k : List KI} {tm : PM AV} {S : St} {Q : PostA} (d : Option Tmp) (xs : Array Operand) (ats : Array TypeId) (r : List POp) : EndsA E nt (.c (.reg (⟨d, .call (Call.mk (.value (.func 33)) xs ats), none⟩ :: r)) :: k) .nrm tm S Q = CallK E nt 33 (xs.toList.map (E.ev tm)) d r k tm S Q := e_call d 33 xs ats r rfl
theorem call34 {nt : Nat} {k : List KI} {tm : PM AV} {S : St} {Q : PostA} (d : Option Tmp) (xs : Array Operand) (ats : Array TypeId) (r : List POp) : EndsA E nt (.c (.reg (⟨d, .call (Call.mk (.value (.func 34)) xs ats), none⟩ :: r)) :: k) .nrm tm S Q = CallK E nt 34 (xs.toList.map (E.ev tm)) d r k tm S Q := e_call d 34 xs ats r rfl
theorem call35 {nt : Nat} {k : List KI} {tm : PM AV} {S : St} {Q : PostA} (d : Option Tmp) (xs : Array Operand) (ats : Array TypeId) (r : List POp) : EndsA E nt (.c (.reg (⟨d, .call (Call.mk (.value (.func 35)) xs ats), none⟩ :: r)) :: k) .nrm tm S Q = CallK E nt 35 (xs.toList.map (E.ev tm)) d r k tm S Q := e_call d 35 xs ats r rfl
theorem call36 {nt : Nat} {k : List KI} {tm : PM AV} {S : St} {Q : PostA} (d : Option Tmp) (xs : Array Operand) (ats : Array TypeId) (r : List POp) : EndsA E nt (.c (.reg (⟨d, .call (Call.mk (.value (.func 36)) xs ats), none⟩ :: r)) :: k) .nrm tm S Q = CallK E nt 36 (xs.toList.map (E.ev tm)) d r k tm S Q := e_call d 36 xs ats r rfl
theorem call37 {nt : Nat} {k : List KI} {tm : PM AV} {S : St} {Q : PostA} (d : Option Tmp) (xs : Array Operand) (ats : Array TypeId) (r : List POp) : EndsA E nt (.c (.reg (⟨d, .call (Call.mk (.value (.func 37)) xs ats), none⟩ :: r)) :: k) .nrm tm S Q = CallK E nt 37 (xs.toList.map (E.ev tm)) d r k tm S Q := e_call d 37 xs ats r rfl
theorem call38 {nt : Nat} {k : List KI} {tm : PM AV} {S : St} {Q : PostA} (d : Option Tmp) (xs : Array Operand) (ats : Array TypeId) (r : List POp) : EndsA E nt (.c (.reg (⟨d, .call (Call.mk (.value (.func 38)) xs ats), none⟩ :: r)) :: k) .nrm tm S Q = CallK E nt 38 (xs.toList.map (E.ev tm)) d r k tm S Q := e_call d 38 xs ats r rfl
theorem call39 {nt : Nat} {k : List KI} {tm : PM AV} {S : St} {Q : PostA} (d : Option Tmp) (xs : Array Operand) (ats : Array TypeId) (r : List POp) : EndsA E nt (.c (.reg (⟨d, .call (Call.mk (.value (.func 39)) xs ats), none⟩ :: r)) :: k) .nrm tm S Q = CallK E nt 39 (xs.toList.map (E.ev tm)) d r k tm S Q := e_call d 39 xs ats r rfl
theorem call40 {nt : Nat} {k : List KI} {tm : PM AV} {S : St} {Q : PostA} (d : Option Tmp) (xs : Array Operand) (ats : Array TypeId) (r : List POp) : EndsA E nt (.c (.reg (⟨d, .call (Call.mk (.value (.func 40)) xs ats), none⟩ :: r)) :: k) .nrm tm S Q = CallK E nt 40 (xs.toList.map (E.ev tm)) d r k tm S Q := e_call d 40 xs ats r rfl
theorem call41 {nt : Nat} {k : List KI} {tm : PM AV} {S : St} {Q : PostA} (d : Option Tmp) (xs : Array Operand) (ats : Array TypeId) (r : List POp) : EndsA E nt (.c (.reg (⟨d, .call (Call.mk (.value (.func 41)) xs ats), none⟩ :: r)) :: k) .nrm tm S Q = CallK E nt 41 (xs.toList.map (E.ev tm)) d r k tm S Q := e_call d 41 xs ats r rfl
theorem call42 {nt : Nat} {k : List KI} {tm : PM AV} {S : St} {Q : PostA} (d : Option Tmp) (xs : Array Operand) (ats : Array TypeId) (r : List POp) : EndsA E nt (.c (.reg (⟨d, .call (Call.mk (.value (.func 42)) xs ats), none⟩ :: r)) :: k) .nrm tm S Q = CallK E nt 42 (xs.toList.map (E.ev tm)) d r k tm S Q := e_call d 42 xs ats r rfl
theorem call43 {nt : Nat} {k : List KI} {tm : PM AV} {S : St} {Q : PostA} (d : Option Tmp) (xs : Array Operand) (ats : Array TypeId) (r : List POp) : EndsA E nt (.c (.reg (⟨d, .call (Call.mk (.value (.func 43)) xs ats), none⟩ :: r)) :: k) .nrm tm S Q = CallK E nt 43 (xs.toList.map (E.ev tm)) d r k tm S Q := e_call d 43 xs ats r rfl
theorem call44 {nt : Nat} {k : List KI} {tm : PM AV} {S : St} {Q : PostA} (d : Option Tmp) (xs : Array Operand) (ats : Array TypeId) (r : List POp) : EndsA E nt (.c (.reg (⟨d, .call (Call.mk (.value (.func 44)) xs ats), none⟩ :: r)) :: k) .nrm tm S Q = CallK E nt 44 (xs.toList.map (E.ev tm)) d r k tm S Q := e_call d 44 xs ats r rfl
theorem call45 {nt : Nat} {k : List KI} {tm : PM AV} {S : St} {Q : PostA} (d : Option Tmp) (xs : Array Operand) (ats : Array TypeId) (r : List POp) : EndsA E nt (.c (.reg (⟨d, .call (Call.mk (.value (.func 45)) xs ats), none⟩ :: r)) :: k) .nrm tm S Q = CallK E nt 45 (xs.toList.map (E.ev tm)) d r k tm S Q := e_call d 45 xs ats r rfl
theorem call46 {nt : Nat} {k : List KI} {tm : PM AV} {S : St} {Q : PostA} (d : Option Tmp) (xs : Array Operand) (ats : Array TypeId) (r : List POp) : EndsA E nt (.c (.reg (⟨d, .call (Call.mk (.value (.func 46)) xs ats), none⟩ :: r)) :: k) .nrm tm S Q = CallK E nt 46 (xs.toList.map (E.ev tm)) d r k tm S Q := e_call d 46 xs ats r rfl
theorem call47 {nt : Nat} {k : List KI} {tm : PM AV} {S : St} {Q : PostA} (d : Option Tmp) (xs : Array Operand) (ats : Array TypeId) (r : List POp) : EndsA E nt (.c (.reg (⟨d, .call (Call.mk (.value (.func 47)) xs ats), none⟩ :: r)) :: k) .nrm tm S Q = CallK E nt 47 (xs.toList.map (E.ev tm)) d r k tm S Q := e_call d 47 xs ats r rfl
theorem call48 {nt : Nat} {k : List KI} {tm : PM AV} {S : St} {Q : PostA} (d : Option Tmp) (xs : Array Operand) (ats : Array TypeId) (r : List POp) : EndsA E nt (.c (.reg (⟨d, .call (Call.mk (.value (.func 48)) xs ats), none⟩ :: r)) :: k) .nrm tm S Q = CallK E nt 48 (xs.toList.map (E.ev tm)) d r k tm S Q := e_call d 48 xs ats r rfl
theorem call49 {nt : Nat} {k : List KI} {tm : PM AV} {S : St} {Q : PostA} (d : Option Tmp) (xs : Array Operand) (ats : Array TypeId) (r : List POp) : EndsA E nt (.c (.reg (⟨d, .call (Call.mk (.value (.func 49)) xs ats), none⟩ :: r)) :: k) .nrm tm S Q = CallK E nt 49 (xs.toList.map (E.ev tm)) d r k tm S Q := e_call d 49 xs ats r rfl
theorem call50 {nt : Nat} {k : List KI} {tm : PM AV} {S : St} {Q : PostA} (d : Option Tmp) (xs : Array Operand) (ats : Array TypeId) (r : List POp) : EndsA E nt (.c (.reg (⟨d, .call (Call.mk (.value (.func 50)) xs ats), none⟩ :: r)) :: k) .nrm tm S Q = CallK E nt 50 (xs.toList.map (E.ev tm)) d r k tm S Q := e_call d 50 xs ats r rfl
theorem call51 {nt : Nat} {k : List KI} {tm : PM AV} {S : St} {Q : PostA} (d : Option Tmp) (xs : Array Operand) (ats : Array TypeId) (r : List POp) : EndsA E nt (.c (.reg (⟨d, .call (Call.mk (.value (.func 51)) xs ats), none⟩ :: r)) :: k) .nrm tm S Q = CallK E nt 51 (xs.toList.map (E.ev tm)) d r k tm S Q := e_call d 51 xs ats r rfl
theorem call52 {nt : Nat} {k : List KI} {tm : PM AV} {S : St} {Q : PostA} (d : Option Tmp) (xs : Array Operand) (ats : Array TypeId) (r : List POp) : EndsA E nt (.c (.reg (⟨d, .call (Call.mk (.value (.func 52)) xs ats), none⟩ :: r)) :: k) .nrm tm S Q = CallK E nt 52 (xs.toList.map (E.ev tm)) d r k tm S Q := e_call d 52 xs ats r rfl
theorem call53 {nt : Nat} {k : List KI} {tm : PM AV} {S : St} {Q : PostA} (d : Option Tmp) (xs : Array Operand) (ats : Array TypeId) (r : List POp) : EndsA E nt (.c (.reg (⟨d, .call (Call.mk (.value (.func 53)) xs ats), none⟩ :: r)) :: k) .nrm tm S Q = CallK E nt 53 (xs.toList.map (E.ev tm)) d r k tm S Q := e_call d 53 xs ats r rfl
theorem call54 {nt : Nat} {k : List KI} {tm : PM AV} {S : St} {Q : PostA} (d : Option Tmp) (xs : Array Operand) (ats : Array TypeId) (r : List POp) : EndsA E nt (.c (.reg (⟨d, .call (Call.mk (.value (.func 54)) xs ats), none⟩ :: r)) :: k) .nrm tm S Q = CallK E nt 54 (xs.toList.map (E.ev tm)) d r k tm S Q := e_call d 54 xs ats r rfl
theorem call55 {nt : Nat} {k : List KI} {tm : PM AV} {S : St} {Q : PostA} (d : Option Tmp) (xs : Array Operand) (ats : Array TypeId) (r : List POp) : EndsA E nt (.c (.reg (⟨d, .call (Call.mk (.value (.func 55)) xs ats), none⟩ :: r)) :: k) .nrm tm S Q = CallK E nt 55 (xs.toList.map (E.ev tm)) d r k tm S Q := e_call d 55 xs ats r rfl
theorem call56 {nt : Nat} {k : List KI} {tm : PM AV} {S : St} {Q : PostA} (d : Option Tmp) (xs : Array Operand) (ats : Array TypeId) (r : List POp) : EndsA E nt (.c (.reg (⟨d, .call (Call.mk (.value (.func 56)) xs ats), none⟩ :: r)) :: k) .nrm tm S Q = CallK E nt 56 (xs.toList.map (E.ev tm)) d r k tm S Q := e_call d 56 xs ats r rfl
theorem call57 {nt : Nat} {k : List KI} {tm : PM AV} {S : St} {Q : PostA} (d : Option Tmp) (xs : Array Operand) (ats : Array TypeId) (r : List POp) : EndsA E nt (.c (.reg (⟨d, .call (Call.mk (.value (.func 57)) xs ats), none⟩ :: r)) :: k) .nrm tm S Q = CallK E nt 57 (xs.toList.map (E.ev tm)) d r k tm S Q := e_call d 57 xs ats r rfl
theorem call58 {nt : Nat} {k : List KI} {tm : PM AV} {S : St} {Q : PostA} (d : Option Tmp) (xs : Array Operand) (ats : Array TypeId) (r : List POp) : EndsA E nt (.c (.reg (⟨d, .call (Call.mk (.value (.func 58)) xs ats), none⟩ :: r)) :: k) .nrm tm S Q = CallK E nt 58 (xs.toList.map (E.ev tm)) d r k tm S Q := e_call d 58 xs ats r rfl
theorem call59 {nt : Nat} {k : List KI} {tm : PM AV} {S : St} {Q : PostA} (d : Option Tmp) (xs : Array Operand) (ats : Array TypeId) (r : List POp) : EndsA E nt (.c (.reg (⟨d, .call (Call.mk (.value (.func 59)) xs ats), none⟩ :: r)) :: k) .nrm tm S Q = CallK E nt 59 (xs.toList.map (E.ev tm)) d r k tm S Q := e_call d 59 xs ats r rfl
theorem call60 {nt : Nat} {k : List KI} {tm : PM AV} {S : St} {Q : PostA} (d : Option Tmp) (xs : Array Operand) (ats : Array TypeId) (r : List POp) : EndsA E nt (.c (.reg (⟨d, .call (Call.mk (.value (.func 60)) xs ats), none⟩ :: r)) :: k) .nrm tm S Q = CallK E nt 60 (xs.toList.map (E.ev tm)) d r k tm S Q := e_call d 60 xs ats r rfl
theorem call61 {nt : Nat} {k : List KI} {tm : PM AV} {S : St} {Q : PostA} (d : Option Tmp) (xs : Array Operand) (ats : Array TypeId) (r : List POp) : EndsA E nt (.c (.reg (⟨d, .call (Call.mk (.value (.func 61)) xs ats), none⟩ :: r)) :: k) .nrm tm S Q = CallK E nt 61 (xs.toList.map (E.ev tm)) d r k tm S Q := e_call d 61 xs ats r rfl
theorem call62 {nt : Nat} {k : List KI} {tm : PM AV} {S : St} {Q : PostA} (d : Option Tmp) (xs : Array Operand) (ats : Array TypeId) (r : List POp) : EndsA E nt (.c (.reg (⟨d, .call (Call.mk (.value (.func 62)) xs ats), none⟩ :: r)) :: k) .nrm tm S Q = CallK E nt 62 (xs.toList.map (E.ev tm)) d r k tm S Q := e_call d 62 xs ats r rfl
theorem call63 {nt : Nat} {k : List KI} {tm : PM AV} {S : St} {Q : PostA} (d : Option Tmp) (xs : Array Operand) (ats : Array TypeId) (r : List POp) : EndsA E nt (.c (.reg (⟨d, .call (Call.mk (.value (.func 63)) xs ats), none⟩ :: r)) :: k) .nrm tm S Q = CallK E nt 63 (xs.toList.map (E.ev tm)) d r k tm S Q := e_call d 63 xs ats r rfl
theorem call64 {nt : Nat} {k : List KI} {tm : PM AV} {S : St} {Q : PostA} (d : Option Tmp) (xs : Array Operand) (ats : Array TypeId) (r : List POp) : EndsA E nt (.c (.reg (⟨d, .call (Call.mk (.value (.func 64)) xs ats), none⟩ :: r)) :: k) .nrm tm S Q = CallK E nt 64 (xs.toList.map (E.ev tm)) d r k tm S Q := e_call d 64 xs ats r rfl
theorem call65 {nt : Nat} {k : List KI} {tm : PM AV} {S : St} {Q : PostA} (d : Option Tmp) (xs : Array Operand) (ats : Array TypeId) (r : List POp) : EndsA E nt (.c (.reg (⟨d, .call (Call.mk (.value (.func 65)) xs ats), none⟩ :: r)) :: k) .nrm tm S Q = CallK E nt 65 (xs.toList.map (E.ev tm)) d r k tm S Q := e_call d 65 xs ats r rfl
theorem call66 {nt : Nat} {k : List KI} {tm : PM AV} {S : St} {Q : PostA} (d : Option Tmp) (xs : Array Operand) (ats : Array TypeId) (r : List POp) : EndsA E nt (.c (.reg (⟨d, .call (Call.mk (.value (.func 66)) xs ats), none⟩ :: r)) :: k) .nrm tm S Q = CallK E nt 66 (xs.toList.map (E.ev tm)) d r k tm S Q := e_call d 66 xs ats r rfl
theorem call67 {nt : Nat} {k : List KI} {tm : PM AV} {S : St} {Q : PostA} (d : Option Tmp) (xs : Array Operand) (ats : Array TypeId) (r : List POp) : EndsA E nt (.c (.reg (⟨d, .call (Call.mk (.value (.func 67)) xs ats), none⟩ :: r)) :: k) .nrm tm S Q = CallK E nt 67 (xs.toList.map (E.ev tm)) d r k tm S Q := e_call d 67 xs ats r rfl
theorem call68 {nt : Nat} {k : List KI} {tm : PM AV} {S : St} {Q : PostA} (d : Option Tmp) (xs : Array Operand) (ats : Array TypeId) (r : List POp) : EndsA E nt (.c (.reg (⟨d, .call (Call.mk (.value (.func 68)) xs ats), none⟩ :: r)) :: k) .nrm tm S Q = CallK E nt 68 (xs.toList.map (E.ev tm)) d r k tm S Q := e_call d 68 xs ats r rfl
theorem call69 {nt : Nat} {k : List KI} {tm : PM AV} {S : St} {Q : PostA} (d : Option Tmp) (xs : Array Operand) (ats : Array TypeId) (r : List POp) : EndsA E nt (.c (.reg (⟨d, .call (Call.mk (.value (.func 69)) xs ats), none⟩ :: r)) :: k) .nrm tm S Q = CallK E nt 69 (xs.toList.map (E.ev tm)) d r k tm S Q := e_call d 69 xs ats r rfl
theorem call70 {nt : Nat} {k : List KI} {tm : PM AV} {S : St} {Q : PostA} (d : Option Tmp) (xs : Array Operand) (ats : Array TypeId) (r : List POp) : EndsA E nt (.c (.reg (⟨d, .call (Call.mk (.value (.func 70)) xs ats), none⟩ :: r)) :: k) .nrm tm S Q = CallK E nt 70 (xs.toList.map (E.ev tm)) d r k tm S Q := e_call d 70 xs ats r rfl
theorem call71 {nt : Nat} {k : List KI} {tm : PM AV} {S : St} {Q : PostA} (d : Option Tmp) (xs : Array Operand) (ats : Array TypeId) (r : List POp) : EndsA E nt (.c (.reg (⟨d, .call (Call.mk (.value (.func 71)) xs ats), none⟩ :: r)) :: k) .nrm tm S Q = CallK E nt 71 (xs.toList.map (E.ev tm)) d r k tm S Q := e_call d 71 xs ats r rfl
theorem call72 {nt : Nat} {k : List KI} {tm : PM AV} {S : St} {Q : PostA} (d : Option Tmp) (xs : Array Operand) (ats : Array TypeId) (r : List POp) : EndsA E nt (.c (.reg (⟨d, .call (Call.mk (.value (.func 72)) xs ats), none⟩ :: r)) :: k) .nrm tm S Q = CallK E nt 72 (xs.toList.map (E.ev tm)) d r k tm S Q := e_call d 72 xs ats r rfl
theorem call73 {nt : Nat} {k : List KI} {tm : PM AV} {S : St} {Q : PostA} (d : Option Tmp) (xs : Array Operand) (ats : Array TypeId) (r : List POp) : EndsA E nt (.c (.reg (⟨d, .call (Call.mk (.value (.func 73)) xs ats), none⟩ :: r)) :: k) .nrm tm S Q = CallK E nt 73 (xs.toList.map (E.ev tm)) d r k tm S Q := e_call d 73 xs ats r rfl
theorem call74 {nt : Nat} {k : List KI} {tm : PM AV} {S : St} {Q : PostA} (d : Option Tmp) (xs : Array Operand) (ats : Array TypeId) (r : List POp) : EndsA E nt (.c (.reg (⟨d, .call (Call.mk (.value (.func 74)) xs ats), none⟩ :: r)) :: k) .nrm tm S Q = CallK E nt 74 (xs.toList.map (E.ev tm)) d r k tm S Q := e_call d 74 xs ats r rfl
theorem call75 {nt : Nat} {k : List KI} {tm : PM AV} {S : St} {Q : PostA} (d : Option Tmp) (xs : Array Operand) (ats : Array TypeId) (r : List POp) : EndsA E nt (.c (.reg (⟨d, .call (Call.mk (.value (.func 75)) xs ats), none⟩ :: r)) :: k) .nrm tm S Q = CallK E nt 75 (xs.toList.map (E.ev tm)) d r k tm S Q := e_call d 75 xs ats r rfl
theorem call76 {nt : Nat} {k : List KI} {tm : PM AV} {S : St} {Q : PostA} (d : Option Tmp) (xs : Array Operand) (ats : Array TypeId) (r : List POp) : EndsA E nt (.c (.reg (⟨d, .call (Call.mk (.value (.func 76)) xs ats), none⟩ :: r)) :: k) .nrm tm S Q = CallK E nt 76 (xs.toList.map (E.ev tm)) d r k tm S Q := e_call d 76 xs ats r rfl
theorem call77 {nt : Nat} {k : List KI} {tm : PM AV} {S : St} {Q : PostA} (d : Option Tmp) (xs : Array Operand) (ats : Array TypeId) (r : List POp) : EndsA E nt (.c (.reg (⟨d, .call (Call.mk (.value (.func 77)) xs ats), none⟩ :: r)) :: k) .nrm tm S Q = CallK E nt 77 (xs.toList.map (E.ev tm)) d r k tm S Q := e_call d 77 xs ats r rfl
theorem call78 {nt : Nat} {k : List KI} {tm : PM AV} {S : St} {Q : PostA} (d : Option Tmp) (xs : Array Operand) (ats : Array TypeId) (r : List POp) : EndsA E nt (.c (.reg (⟨d, .call (Call.mk (.value (.func 78)) xs ats), none⟩ :: r)) :: k) .nrm tm S Q = CallK E nt 78 (xs.toList.map (E.ev tm)) d r k tm S Q := e_call d 78 xs ats r rfl
theorem call79 {nt : Nat} {k : List KI} {tm : PM AV} {S : St} {Q : PostA} (d : Option Tmp) (xs : Array Operand) (ats : Array TypeId) (r : List POp) : EndsA E nt (.c (.reg (⟨d, .call (Call.mk (.value (.func 79)) xs ats), none⟩ :: r)) :: k) .nrm tm S Q = CallK E nt 79 (xs.toList.map (E.ev tm)) d r k tm S Q := e_call d 79 xs ats r rfl
theorem call80 {nt : Nat} {k : List KI} {tm : PM AV} {S : St} {Q : PostA} (d : Option Tmp) (xs : Array Operand) (ats : Array TypeId) (r : List POp) : EndsA E nt (.c (.reg (⟨d, .call (Call.mk (.value (.func 80)) xs ats), none⟩ :: r)) :: k) .nrm tm S Q = CallK E nt 80 (xs.toList.map (E.ev tm)) d r k tm S Q := e_call d 80 xs ats r rfl
theorem call81 {nt : Nat} {k : List KI} {tm : PM AV} {S : St} {Q : PostA} (d : Option Tmp) (xs : Array Operand) (ats : Array TypeId) (r : List POp) : EndsA E nt (.c (.reg (⟨d, .call (Call.mk (.value (.func 81)) xs ats), none⟩ :: r)) :: k) .nrm tm S Q = CallK E nt 81 (xs.toList.map (E.ev tm)) d r k tm S Q := e_call d 81 xs ats r rfl
theorem call82 {nt : Nat} {k : List KI} {tm : PM AV} {S : St} {Q : PostA} (d : Option Tmp) (xs : Array Operand) (ats : Array TypeId) (r : List POp) : EndsA E nt (.c (.reg (⟨d, .call (Call.mk (.value (.func 82)) xs ats), none⟩ :: r)) :: k) .nrm tm S Q = CallK E nt 82 (xs.toList.map (E.ev tm)) d r k tm S Q := e_call d 82 xs ats r rfl
theorem call83 {nt : Nat} {k : List KI} {tm : PM AV} {S : St} {Q : PostA} (d : Option Tmp) (xs : Array Operand) (ats : Array TypeId) (r : List POp) : EndsA E nt (.c (.reg (⟨d, .call (Call.mk (.value (.func 83)) xs ats), none⟩ :: r)) :: k) .nrm tm S Q = CallK E nt 83 (xs.toList.map (E.ev tm)) d r k tm S Q := e_call d 83 xs ats r rfl
theorem call84 {nt : Nat} {k : List KI} {tm : PM AV} {S : St} {Q : PostA} (d : Option Tmp) (xs : Array Operand) (ats : Array TypeId) (r : List POp) : EndsA E nt (.c (.reg (⟨d, .call (Call.mk (.value (.func 84)) xs ats), none⟩ :: r)) :: k) .nrm tm S Q = CallK E nt 84 (xs.toList.map (E.ev tm)) d r k tm S Q := e_call d 84 xs ats r rfl
theorem call85 {nt : Nat} {k : List KI} {tm : PM AV} {S : St} {Q : PostA} (d : Option Tmp) (xs : Array Operand) (ats : Array TypeId) (r : List POp) : EndsA E nt (.c (.reg (⟨d, .call (Call.mk (.value (.func 85)) xs ats), none⟩ :: r)) :: k) .nrm tm S Q = CallK E nt 85 (xs.toList.map (E.ev tm)) d r k tm S Q := e_call d 85 xs ats r rfl
theorem call86 {nt : Nat} {k : List KI} {tm : PM AV} {S : St} {Q : PostA} (d : Option Tmp) (xs : Array Operand) (ats : Array TypeId) (r : List POp) : EndsA E nt (.c (.reg (⟨d, .call (Call.mk (.value (.func 86)) xs ats), none⟩ :: r)) :: k) .nrm tm S Q = CallK E nt 86 (xs.toList.map (E.ev tm)) d r k tm S Q := e_call d 86 xs ats r rfl
theorem call87 {nt : Nat} {k : List KI} {tm : PM AV} {S : St} {Q : PostA} (d : Option Tmp) (xs : Array Operand) (ats : Array TypeId) (r : List POp) : EndsA E nt (.c (.reg (⟨d, .call (Call.mk (.value (.func 87)) xs ats), none⟩ :: r)) :: k) .nrm tm S Q = CallK E nt 87 (xs.toList.map (E.ev tm)) d r k tm S Q := e_call d 87 xs ats r rfl
theorem call88 {nt : Nat} {k : List KI} {tm : PM AV} {S : St} {Q : PostA} (d : Option Tmp) (xs : Array Operand) (ats : Array TypeId) (r : List POp) : EndsA E nt (.c (.reg (⟨d, .call (Call.mk (.value (.func 88)) xs ats), none⟩ :: r)) :: k) .nrm tm S Q = CallK E nt 88 (xs.toList.map (E.ev tm)) d r k tm S Q := e_call d 88 xs ats r rfl
theorem call89 {nt : Nat} {k : List KI} {tm : PM AV} {S : St} {Q : PostA} (d : Option Tmp) (xs : Array Operand) (ats : Array TypeId) (r : List POp) : EndsA E nt (.c (.reg (⟨d, .call (Call.mk (.value (.func 89)) xs ats), none⟩ :: r)) :: k) .nrm tm S Q = CallK E nt 89 (xs.toList.map (E.ev tm)) d r k tm S Q := e_call d 89 xs ats r rfl
theorem call90 {nt : Nat} {k : List KI} {tm : PM AV} {S : St} {Q : PostA} (d : Option Tmp) (xs : Array Operand) (ats : Array TypeId) (r : List POp) : EndsA E nt (.c (.reg (⟨d, .call (Call.mk (.value (.func 90)) xs ats), none⟩ :: r)) :: k) .nrm tm S Q = CallK E nt 90 (xs.toList.map (E.ev tm)) d r k tm S Q := e_call d 90 xs ats r rfl
theorem call91 {nt : Nat} {k : List KI} {tm : PM AV} {S : St} {Q : PostA} (d : Option Tmp) (xs : Array Operand) (ats : Array TypeId) (r : List POp) : EndsA E nt (.c (.reg (⟨d, .call (Call.mk (.value (.func 91)) xs ats), none⟩ :: r)) :: k) .nrm tm S Q = CallK E nt 91 (xs.toList.map (E.ev tm)) d r k tm S Q := e_call d 91 xs ats r rfl
theorem call92 {nt : Nat} {k : List KI} {tm : PM AV} {S : St} {Q : PostA} (d : Option Tmp) (xs : Array Operand) (ats : Array TypeId) (r : List POp) : EndsA E nt (.c (.reg (⟨d, .call (Call.mk (.value (.func 92)) xs ats), none⟩ :: r)) :: k) .nrm tm S Q = CallK E nt 92 (xs.toList.map (E.ev tm)) d r k tm S Q := e_call d 92 xs ats r rfl
theorem call93 {nt : Nat} {k : List KI} {tm : PM AV} {S : St} {Q : PostA} (d : Option Tmp) (xs : Array Operand) (ats : Array TypeId) (r : List POp) : EndsA E nt (.c (.reg (⟨d, .call (Call.mk (.value (.func 93)) xs ats), none⟩ :: r)) :: k) .nrm tm S Q = CallK E nt 93 (xs.toList.map (E.ev tm)) d r k tm S Q := e_call d 93 xs ats r rfl
theorem call94 {nt : Nat} {k : List KI} {tm : PM AV} {S : St} {Q : PostA} (d : Option Tmp) (xs : Array Operand) (ats : Array TypeId) (r : List POp) : EndsA E nt (.c (.reg (⟨d, .call (Call.mk (.value (.func 94)) xs ats), none⟩ :: r)) :: k) .nrm tm S Q = CallK E nt 94 (xs.toList.map (E.ev tm)) d r k tm S Q := e_call d 94 xs ats r rfl
theorem call95 {nt : Nat} {k : List KI} {tm : PM AV} {S : St} {Q : PostA} (d : Option Tmp) (xs : Array Operand) (ats : Array TypeId) (r : List POp) : EndsA E nt (.c (.reg (⟨d, .call (Call.mk (.value (.func 95)) xs ats), none⟩ :: r)) :: k) .nrm tm S Q = CallK E nt 95 (xs.toList.map (E.ev tm)) d r k tm S Q := e_call d 95 xs ats r rfl
theorem call96 {nt : Nat} {k : List KI} {tm : PM AV} {S : St} {Q : PostA} (d : Option Tmp) (xs : Array Operand) (ats : Array TypeId) (r : List POp) : EndsA E nt (.c (.reg (⟨d, .call (Call.mk (.value (.func 96)) xs ats), none⟩ :: r)) :: k) .nrm tm S Q = CallK E nt 96 (xs.toList.map (E.ev tm)) d r k tm S Q := e_call d 96 xs ats r rfl
theorem call97 {nt : Nat} {k : List KI} {tm : PM AV} {S : St} {Q : PostA} (d : Option Tmp) (xs : Array Operand) (ats : Array TypeId) (r : List POp) : EndsA E nt (.c (.reg (⟨d, .call (Call.mk (.value (.func 97)) xs ats), none⟩ :: r)) :: k) .nrm tm S Q = CallK E nt 97 (xs.toList.map (E.ev tm)) d r k tm S Q := e_call d 97 xs ats r rfl
theorem call98 {nt : Nat} {k : List KI} {tm : PM AV} {S : St} {Q : PostA} (d : Option Tmp) (xs : Array Operand) (ats : Array TypeId) (r : List POp) : EndsA E nt (.c (.reg (⟨d, .call (Call.mk (.value (.func 98)) xs ats), none⟩ :: r)) :: k) .nrm tm S Q = CallK E nt 98 (xs.toList.map (E.ev tm)) d r k tm S Q := e_call d 98 xs ats r rfl
theorem call99 {nt : Nat} {k : List KI} {tm : PM AV} {S : St} {Q : PostA} (d : Option Tmp) (xs : Array Operand) (ats : Array TypeId) (r : List POp) : EndsA E nt (.c (.reg (⟨d, .call (Call.mk (.value (.func 99)) xs ats), none⟩ :: r)) :: k) .nrm tm S Q = CallK E nt 99 (xs.toList.map (E.ev tm)) d r k tm S Q := e_call d 99 xs ats r rfl
theorem call100 {nt : Nat} {k : List KI} {tm : PM AV} {S : St} {Q : PostA} (d : Option Tmp) (xs : Array Operand) (ats : Array TypeId) (r : List POp) : EndsA E nt (.c (.reg (⟨d, .call (Call.mk (.value (.func 100)) xs ats), none⟩ :: r)) :: k) .nrm tm S Q = CallK E nt 100 (xs.toList.map (E.ev tm)) d r k tm S Q := e_call d 100 xs ats r rfl
theorem call101 {nt : Nat} {k : List KI} {tm : PM AV} {S : St} {Q : PostA} (d : Option Tmp) (xs : Array Operand) (ats : Array TypeId) (r : List POp) : EndsA E nt (.c (.reg (⟨d, .call (Call.mk (.value (.func 101)) xs ats), none⟩ :: r)) :: k) .nrm tm S Q = CallK E nt 101 (xs.toList.map (E.ev tm)) d r k tm S Q := e_call d 101 xs ats r rfl
theorem call102 {nt : Nat} {k : List KI} {tm : PM AV} {S : St} {Q : PostA} (d : Option Tmp) (xs : Array Operand) (ats : Array TypeId) (r : List POp) : EndsA E nt (.c (.reg (⟨d, .call (Call.mk (.value (.func 102)) xs ats), none⟩ :: r)) :: k) .nrm tm S Q = CallK E nt 102 (xs.toList.map (E.ev tm)) d r k tm S Q := e_call d 102 xs ats r rfl
theorem call103 {nt : Nat} {k : List KI} {tm : PM AV} {S : St} {Q : PostA} (d : Option Tmp) (xs : Array Operand) (ats : Array TypeId) (r : List POp) : EndsA E nt (.c (.reg (⟨d, .call (Call.mk (.value (.func 103)) xs ats), none⟩ :: r)) :: k) .nrm tm S Q = CallK E nt 103 (xs.toList.map (E.ev tm)) d r k tm S Q := e_call d 103 xs ats r rfl
theorem call104 {nt : Nat} {k : List KI} {tm : PM AV} {S : St} {Q : PostA} (d : Option Tmp) (xs : Array Operand) (ats : Array TypeId) (r : List POp) : EndsA E nt (.c (.reg (⟨d, .call (Call.mk (.value (.func 104)) xs ats), none⟩ :: r)) :: k) .nrm tm S Q = CallK E nt 104 (xs.toList.map (E.ev tm)) d r k tm S Q := e_call d 104 xs ats r rfl
theorem call127 {nt : Nat} {k : List KI} {tm : PM AV} {S : St} {Q : PostA} (d : Option Tmp) (xs : Array Operand) (ats : Array TypeId) (r : List POp) : EndsA E nt (.c (.reg (⟨d, .call (Call.mk (.value (.func 127)) xs ats), none⟩ :: r)) :: k) .nrm tm S Q = CallK E nt 127 (xs.toList.map (E.ev tm)) d r k tm S Q := e_call d 127 xs ats r rfl
/-! hindsight/hindsightlaw6.SchemeMono -/
def r4_0 : List POp := [
  ⟨some 1, .box 24 (.tmp 0), none⟩,
  ⟨some 2, .assign (.const (.bool false)), none⟩]
def r4_1 : List POp := [
  ⟨some 5, .call { callee := .value (.func 8), args := #[], argTypes := #[] }, none⟩,
  ⟨some 6, .unOp .not 4 (.tmp 5), none⟩]
def r4_2 : List POp := [
  ⟨some 2, .assign (.const (.bool false)), none⟩]
def r4_3 : List POp := [
  ⟨some 7, .load 24 (.tmp 1), none⟩,
  ⟨some 8, .call { callee := .value (.func 9), args := #[(.tmp 7), (.const (.int .i64 64))], argTypes := #[24, 3] }, none⟩,
  ⟨some 9, .unOp .not 4 (.tmp 8), none⟩,
  ⟨some 10, .move (.tmp 9), none⟩,
  ⟨some 11, .load 24 (.tmp 1), some (10, false)⟩,
  ⟨some 12, .call { callee := .value (.func 10), args := #[(.tmp 11)], argTypes := #[24] }, some (10, false)⟩,
  ⟨some 13, .unOp .not 4 (.tmp 12), some (10, false)⟩,
  ⟨some 14, .pick (.tmp 10) (.const (.bool true)) (.tmp 13), none⟩]
def r4_4 : List POp := [
  ⟨some 2, .assign (.const (.bool true)), none⟩]
def r4_5 : List POp := [
  ⟨some 15, .call { callee := .value (.func 11), args := #[], argTypes := #[] }, none⟩,
  ⟨some 3, .assign (.tmp 15), none⟩]
def r4_6 : List POp := [
  ⟨some 16, .load 24 (.tmp 1), none⟩,
  ⟨some 17, .call { callee := .value (.func 18), args := #[(.tmp 16)], argTypes := #[24] }, none⟩,
  ⟨some 4, .alloc 34, none⟩,
  ⟨none, .store 34 (.tmp 4) (.tmp 17), none⟩]
def r4_7 : List POp := [
  ⟨some 18, .load 34 (.tmp 4), none⟩,
  ⟨some 19, .call { callee := .value (.func 13), args := #[(.tmp 18)], argTypes := #[34] }, none⟩,
  ⟨some 20, .move (.tmp 19), none⟩,
  ⟨some 21, .move (.tmp 3), some (20, true)⟩,
  ⟨some 22, .load 34 (.tmp 4), some (20, true)⟩,
  ⟨some 23, .call { callee := .value (.func 16), args := #[(.tmp 21), (.tmp 22)], argTypes := #[29, 34] }, some (20, true)⟩,
  ⟨some 24, .load 24 (.tmp 1), some (20, true)⟩,
  ⟨some 25, .call { callee := .value (.func 19), args := #[(.tmp 23), (.tmp 24)], argTypes := #[24, 24] }, some (20, true)⟩,
  ⟨some 26, .pick (.tmp 20) (.tmp 25) (.const (.bool false)), none⟩,
  ⟨some 27, .move (.tmp 26), none⟩,
  ⟨some 28, .move (.tmp 3), some (27, true)⟩,
  ⟨some 29, .load 34 (.tmp 4), some (27, true)⟩,
  ⟨some 30, .call { callee := .value (.func 16), args := #[(.tmp 28), (.tmp 29)], argTypes := #[29, 34] }, some (27, true)⟩,
  ⟨some 31, .load 24 (.tmp 1), some (27, true)⟩]
def r4_8 : List POp := [
  ⟨some 32, .call { callee := .value (.func 19), args := #[(.tmp 30), (.tmp 31)], argTypes := #[24, 24] }, some (27, true)⟩,
  ⟨some 33, .pick (.tmp 27) (.tmp 32) (.const (.bool false)), none⟩,
  ⟨some 34, .move (.tmp 33), none⟩,
  ⟨some 35, .move (.tmp 3), some (34, true)⟩,
  ⟨some 36, .call { callee := .value (.func 12), args := #[(.tmp 35)], argTypes := #[29] }, some (34, true)⟩,
  ⟨some 37, .call { callee := .value (.func 20), args := #[(.const (.int .i64 0))], argTypes := #[3] }, some (34, true)⟩,
  ⟨some 38, .call { callee := .value (.func 19), args := #[(.tmp 36), (.tmp 37)], argTypes := #[24, 24] }, some (34, true)⟩,
  ⟨some 39, .pick (.tmp 34) (.tmp 38) (.const (.bool false)), none⟩,
  ⟨some 2, .assign (.tmp 39), none⟩]
noncomputable def d4_0 : Array Oper := match Tryd.f4.body.map (comp E Tryd.f4.ntmps) with | some p => p.draws.getD 0 #[] | none => #[]
theorem draw4_0 : DrawC E 40 d4_0 23 14 r4_7 r4_8 [(.tmp 1), (.tmp 1)] := ⟨by kernel_rfl, by decide, by kernel_rfl, by kernel_rfl, by kernel_rfl, by kernel_rfl, by kernel_rfl⟩
noncomputable def p4 : PC := (.seq (.reg r4_0) (.seq (.seq (.reg r4_1) (.cond (.tmp 6) (.seq (.reg r4_2) .ret) .skip)) (.seq (.seq (.reg r4_3) (.cond (.tmp 14) (.seq (.reg r4_4) .ret) .skip)) (.seq (.reg r4_5) (.seq (.reg r4_6) (.seq (.draw d4_0) .ret))))))
theorem comp4 : (Tryd.f4.body.map (comp E Tryd.f4.ntmps)) = some p4 := by kernel_rfl
theorem ev4 {args : List AV} {S : St} {P : AV → St → Prop} (hn : Nat.ble args.length 40 = true) (h : EndsA E 40 [.c p4] .nrm (initTm 0 args .leaf) S (RetQ E [.tmp 2] P)) : ∃ r S', EvA E 4 args S r S' ∧ P r S' := ev_ends (fn := Tryd.f4) (by kernel_rfl) rfl comp4 (by kernel_rfl) (by kernel_rfl) hn h
/-! hindsight/hindsightlaw6.small -/
def r9_0 : List POp := [
  ⟨some 2, .box 24 (.tmp 0), none⟩,
  ⟨some 4, .assign (.const (.bool false)), none⟩]
def r9_1 : List POp := [
  ⟨some 6, .move (.tmp 1), none⟩,
  ⟨some 7, .binOp .leq 3 (.tmp 6) (.const (.int .i64 0)) 3, none⟩,
  ⟨some 8, .move (.tmp 7), none⟩,
  ⟨some 9, .fieldAddr 24 (.tmp 2) 3, some (8, false)⟩,
  ⟨some 10, .load 22 (.tmp 9), some (8, false)⟩,
  ⟨some 11, .call { callee := .builtin .len, args := #[(.tmp 10)], argTypes := #[22] }, some (8, false)⟩,
  ⟨some 12, .binOp .gtr 3 (.tmp 11) (.const (.int .i64 4)) 3, some (8, false)⟩,
  ⟨some 13, .pick (.tmp 8) (.const (.bool true)) (.tmp 12), none⟩,
  ⟨some 14, .move (.tmp 13), none⟩,
  ⟨some 15, .fieldAddr 24 (.tmp 2) 1, some (14, false)⟩,
  ⟨some 16, .load 9 (.tmp 15), some (14, false)⟩,
  ⟨some 17, .call { callee := .builtin .len, args := #[(.tmp 16)], argTypes := #[9] }, some (14, false)⟩,
  ⟨some 18, .binOp .gtr 3 (.tmp 17) (.const (.int .i64 60)) 3, some (14, false)⟩,
  ⟨some 19, .pick (.tmp 14) (.const (.bool true)) (.tmp 18), none⟩]
def r9_2 : List POp := [
  ⟨some 4, .assign (.const (.bool false)), none⟩]
def r9_3 : List POp := [
  ⟨some 5, .assign (.const (.int .i64 0)), none⟩]
def r9_4 : List POp := [
  ⟨some 20, .move (.tmp 5), none⟩,
  ⟨some 21, .fieldAddr 24 (.tmp 2) 3, none⟩,
  ⟨some 22, .load 22 (.tmp 21), none⟩,
  ⟨some 23, .call { callee := .builtin .len, args := #[(.tmp 22)], argTypes := #[22] }, none⟩,
  ⟨some 24, .binOp .lss 3 (.tmp 20) (.tmp 23) 3, none⟩]
def r9_5 : List POp := [
  ⟨some 27, .fieldAddr 24 (.tmp 2) 3, none⟩,
  ⟨some 28, .load 22 (.tmp 27), none⟩,
  ⟨some 29, .move (.tmp 5), none⟩,
  ⟨some 30, .indexAddr 22 (.tmp 28) (.tmp 29), none⟩,
  ⟨some 31, .load 24 (.tmp 30), none⟩,
  ⟨some 32, .move (.tmp 1), none⟩,
  ⟨some 33, .binOp .quo 3 (.tmp 32) (.const (.int .i64 2)) 3, none⟩,
  ⟨some 34, .call { callee := .value (.func 9), args := #[(.tmp 31), (.tmp 33)], argTypes := #[24, 3] }, none⟩,
  ⟨some 35, .unOp .not 4 (.tmp 34), none⟩]
def r9_6 : List POp := [
  ⟨some 4, .assign (.const (.bool false)), none⟩]
def r9_7 : List POp := [
  ⟨some 25, .move (.tmp 5), none⟩,
  ⟨some 26, .binOp .add 3 (.tmp 25) (.const (.int .i64 1)) 3, none⟩,
  ⟨some 5, .assign (.tmp 26), none⟩]
noncomputable def b9_8 : PC := (.seq (.seq (.reg r9_4) (.cond (.tmp 24) .skip (.exit 0))) (.seq (.block 1 (.seq (.reg r9_5) (.cond (.tmp 35) (.seq (.reg r9_6) .ret) .skip))) (.reg r9_7)))
def r9_9 : List POp := [
  ⟨some 4, .assign (.const (.bool true)), none⟩]
noncomputable def p9 : PC := (.seq (.reg r9_0) (.seq (.seq (.reg r9_1) (.cond (.tmp 19) (.seq (.reg r9_2) .ret) .skip)) (.seq (.seq (.reg r9_3) (.block 0 (.loop b9_8))) (.seq (.reg r9_9) .ret))))
theorem comp9 : (Tryd.f9.body.map (comp E Tryd.f9.ntmps)) = some p9 := by kernel_rfl
theorem ev9 {args : List AV} {S : St} {P : AV → St → Prop} (hn : Nat.ble args.length 36 = true) (h : EndsA E 36 [.c p9] .nrm (initTm 0 args .leaf) S (RetQ E [.tmp 4] P)) : ∃ r S', EvA E 9 args S r S' ∧ P r S' := ev_ends (fn := Tryd.f9) (by kernel_rfl) rfl comp9 (by kernel_rfl) (by kernel_rfl) hn h
/-! hindsight/ty.Good -/
def r10_0 : List POp := [
  ⟨some 1, .box 24 (.tmp 0), none⟩,
  ⟨some 2, .assign (.const (.bool false)), none⟩]
def r10_1 : List POp := [
  ⟨some 3, .load 24 (.tmp 1), none⟩,
  ⟨some 4, .call { callee := .value (.func 33), args := #[(.tmp 3)], argTypes := #[24] }, none⟩,
  ⟨some 5, .binOp .leq 3 (.tmp 4) (.const (.int .i64 500)) 3, none⟩,
  ⟨some 6, .move (.tmp 5), none⟩,
  ⟨some 7, .load 24 (.tmp 1), some (6, true)⟩,
  ⟨some 8, .call { callee := .value (.func 34), args := #[(.tmp 7)], argTypes := #[24] }, some (6, true)⟩,
  ⟨some 9, .pick (.tmp 6) (.tmp 8) (.const (.bool false)), none⟩,
  ⟨some 2, .assign (.tmp 9), none⟩]
noncomputable def p10 : PC := (.seq (.reg r10_0) (.seq (.reg r10_1) .ret))
theorem comp10 : (Tryd.f10.body.map (comp E Tryd.f10.ntmps)) = some p10 := by kernel_rfl
theorem ev10 {args : List AV} {S : St} {P : AV → St → Prop} (hn : Nat.ble args.length 10 = true) (h : EndsA E 10 [.c p10] .nrm (initTm 0 args .leaf) S (RetQ E [.tmp 2] P)) : ∃ r S', EvA E 10 args S r S' ∧ P r S' := ev_ends (fn := Tryd.f10) (by kernel_rfl) rfl comp10 (by kernel_rfl) (by kernel_rfl) hn h
/-! hindsight/ty.New -/
def r11_0 : List POp := [
  ⟨some 0, .assign (.const (.pointer none)), none⟩]
def r11_1 : List POp := [
  ⟨some 1, .makeMap 70 none, none⟩,
  ⟨some 2, .build 72 #[(1, (.tmp 1))], none⟩,
  ⟨some 3, .box 72 (.tmp 2), none⟩,
  ⟨some 0, .assign (.tmp 3), none⟩]
noncomputable def p11 : PC := (.seq (.reg r11_0) (.seq (.reg r11_1) .ret))
theorem comp11 : (Tryd.f11.body.map (comp E Tryd.f11.ntmps)) = some p11 := by kernel_rfl
theorem ev11 {args : List AV} {S : St} {P : AV → St → Prop} (hn : Nat.ble args.length 4 = true) (h : EndsA E 4 [.c p11] .nrm (initTm 0 args .leaf) S (RetQ E [.tmp 0] P)) : ∃ r S', EvA E 11 args S r S' ∧ P r S' := ev_ends (fn := Tryd.f11) (by kernel_rfl) rfl comp11 (by kernel_rfl) (by kernel_rfl) hn h
/-! (*hindsight/ty.Sub).Fresh -/
def r12_0 : List POp := [
  ⟨some 2, .alloc 24, none⟩]
def r12_1 : List POp := [
  ⟨some 4, .move (.tmp 0), none⟩,
  ⟨some 5, .nilCheck (.tmp 4), none⟩,
  ⟨some 6, .fieldAddr 72 (.tmp 5) 0, none⟩,
  ⟨some 7, .load 3 (.tmp 6), none⟩,
  ⟨some 8, .build 24 #[(0, (.const (.int .i64 7))), (2, (.tmp 7))], none⟩,
  ⟨some 3, .alloc 24, none⟩,
  ⟨none, .store 24 (.tmp 3) (.tmp 8), none⟩]
def r12_2 : List POp := [
  ⟨some 9, .move (.tmp 0), none⟩,
  ⟨some 10, .move (.tmp 0), none⟩,
  ⟨some 11, .nilCheck (.tmp 10), none⟩,
  ⟨some 12, .fieldAddr 72 (.tmp 11) 0, none⟩,
  ⟨some 13, .load 3 (.tmp 12), none⟩,
  ⟨some 14, .binOp .add 3 (.tmp 13) (.const (.int .i64 1)) 3, none⟩,
  ⟨some 15, .call { callee := .builtin .min, args := #[(.tmp 14), (.const (.int .i64 1999))], argTypes := #[3, 3] }, none⟩,
  ⟨some 16, .nilCheck (.tmp 9), none⟩,
  ⟨some 17, .fieldAddr 72 (.tmp 16) 0, none⟩,
  ⟨none, .store 3 (.tmp 17) (.tmp 15), none⟩]
def r12_3 : List POp := [
  ⟨some 18, .load 24 (.tmp 3), none⟩,
  ⟨none, .store 24 (.tmp 2) (.tmp 18), none⟩]
noncomputable def p12 : PC := (.seq (.reg r12_0) (.seq (.reg r12_1) (.seq (.reg r12_2) (.seq (.reg r12_3) .ret))))
theorem comp12 : (Tryd.f12.body.map (comp E Tryd.f12.ntmps)) = some p12 := by kernel_rfl
theorem ev12 {args : List AV} {S : St} {P : AV → St → Prop} (hn : Nat.ble args.length 19 = true) (h : EndsA E 19 [.c p12] .nrm (initTm 0 args .leaf) S (RetQ E [.cell 2 24] P)) : ∃ r S', EvA E 12 args S r S' ∧ P r S' := ev_ends (fn := Tryd.f12) (by kernel_rfl) rfl comp12 (by kernel_rfl) (by kernel_rfl) hn h
/-! hindsight/scheme.Good -/
def r13_0 : List POp := [
  ⟨some 1, .box 34 (.tmp 0), none⟩,
  ⟨some 2, .assign (.const (.bool false)), none⟩]
def r13_1 : List POp := [
  ⟨some 6, .fieldAddr 34 (.tmp 1) 1, none⟩,
  ⟨some 7, .load 24 (.tmp 6), none⟩,
  ⟨some 8, .call { callee := .value (.func 10), args := #[(.tmp 7)], argTypes := #[24] }, none⟩,
  ⟨some 9, .unOp .not 4 (.tmp 8), none⟩]
def r13_2 : List POp := [
  ⟨some 2, .assign (.const (.bool false)), none⟩]
def r13_3 : List POp := [
  ⟨some 10, .fieldAddr 34 (.tmp 1) 1, none⟩,
  ⟨some 11, .load 24 (.tmp 10), none⟩,
  ⟨some 12, .call { callee := .value (.func 14), args := #[(.tmp 11)], argTypes := #[24] }, none⟩,
  ⟨some 3, .assign (.tmp 12), none⟩]
def r13_4 : List POp := [
  ⟨some 13, .fieldAddr 34 (.tmp 1) 0, none⟩,
  ⟨some 14, .load 32 (.tmp 13), none⟩,
  ⟨some 15, .call { callee := .builtin .len, args := #[(.tmp 14)], argTypes := #[32] }, none⟩,
  ⟨some 16, .move (.const (.int .i64 0)), none⟩]
def r13_5 : List POp := [
  ⟨some 17, .binOp .lss 3 (.tmp 16) (.tmp 15) 3, none⟩]
def r13_6 : List POp := [
  ⟨some 18, .move (.tmp 16), none⟩,
  ⟨some 19, .indexAddr 32 (.tmp 14) (.tmp 16), none⟩,
  ⟨some 20, .load 3 (.tmp 19), none⟩,
  ⟨some 4, .assign (.tmp 18), none⟩,
  ⟨some 5, .assign (.tmp 20), none⟩]
def r13_7 : List POp := [
  ⟨some 21, .move (.tmp 3), none⟩,
  ⟨some 22, .move (.tmp 5), none⟩,
  ⟨some 23, .call { callee := .value (.func 35), args := #[(.tmp 21), (.tmp 22)], argTypes := #[32, 3] }, none⟩,
  ⟨some 24, .unOp .not 4 (.tmp 23), none⟩,
  ⟨some 25, .move (.tmp 24), none⟩,
  ⟨some 26, .move (.tmp 4), some (25, false)⟩,
  ⟨some 27, .binOp .gtr 3 (.tmp 26) (.const (.int .i64 0)) 3, some (25, false)⟩,
  ⟨some 28, .move (.tmp 27), some (25, false)⟩,
  ⟨some 29, .fieldAddr 34 (.tmp 1) 0, some (28, true)⟩,
  ⟨some 30, .load 32 (.tmp 29), some (28, true)⟩,
  ⟨some 31, .move (.tmp 4), some (28, true)⟩,
  ⟨some 32, .binOp .sub 3 (.tmp 31) (.const (.int .i64 1)) 3, some (28, true)⟩,
  ⟨some 33, .indexAddr 32 (.tmp 30) (.tmp 32), some (28, true)⟩,
  ⟨some 34, .load 3 (.tmp 33), some (28, true)⟩,
  ⟨some 35, .move (.tmp 5), some (28, true)⟩,
  ⟨some 36, .binOp .geq 3 (.tmp 34) (.tmp 35) 3, some (28, true)⟩,
  ⟨some 37, .pick (.tmp 28) (.tmp 36) (.const (.bool false)), some (25, false)⟩,
  ⟨some 38, .pick (.tmp 25) (.const (.bool true)) (.tmp 37), none⟩]
def r13_8 : List POp := [
  ⟨some 2, .assign (.const (.bool false)), none⟩]
def r13_9 : List POp := [
  ⟨some 39, .binOp .add 3 (.tmp 16) (.const (.int .i64 1)) 3, none⟩,
  ⟨some 16, .move (.tmp 39), none⟩]
noncomputable def b13_10 : PC := (.seq (.reg r13_5) (.seq (.cond (.tmp 17) .skip (.exit 0)) (.seq (.block 1 (.seq (.reg r13_6) (.seq (.reg r13_7) (.cond (.tmp 38) (.seq (.reg r13_8) .ret) .skip)))) (.reg r13_9))))
def r13_11 : List POp := [
  ⟨some 2, .assign (.const (.bool true)), none⟩]
noncomputable def p13 : PC := (.seq (.reg r13_0) (.seq (.seq (.reg r13_1) (.cond (.tmp 9) (.seq (.reg r13_2) .ret) .skip)) (.seq (.reg r13_3) (.seq (.seq (.reg r13_4) (.block 0 (.loop b13_10))) (.seq (.reg r13_11) .ret)))))
theorem comp13 : (Tryd.f13.body.map (comp E Tryd.f13.ntmps)) = some p13 := by kernel_rfl
theorem ev13 {args : List AV} {S : St} {P : AV → St → Prop} (hn : Nat.ble args.length 40 = true) (h : EndsA E 40 [.c p13] .nrm (initTm 0 args .leaf) S (RetQ E [.tmp 2] P)) : ∃ r S', EvA E 13 args S r S' ∧ P r S' := ev_ends (fn := Tryd.f13) (by kernel_rfl) rfl comp13 (by kernel_rfl) (by kernel_rfl) hn h
/-! hindsight/ty.Vars -/
def r14_0 : List POp := [
  ⟨some 1, .box 24 (.tmp 0), none⟩,
  ⟨some 2, .assign (.const (.slice none 0 0)), none⟩]
def r14_1 : List POp := [
  ⟨some 3, .load 24 (.tmp 1), none⟩,
  ⟨some 4, .call { callee := .value (.func 36), args := #[(.tmp 3), (.const (.slice none 0 0))], argTypes := #[24, 32] }, none⟩,
  ⟨some 2, .assign (.tmp 4), none⟩]
noncomputable def p14 : PC := (.seq (.reg r14_0) (.seq (.reg r14_1) .ret))
theorem comp14 : (Tryd.f14.body.map (comp E Tryd.f14.ntmps)) = some p14 := by kernel_rfl
theorem ev14 {args : List AV} {S : St} {P : AV → St → Prop} (hn : Nat.ble args.length 5 = true) (h : EndsA E 5 [.c p14] .nrm (initTm 0 args .leaf) S (RetQ E [.tmp 2] P)) : ∃ r S', EvA E 14 args S r S' ∧ P r S' := ev_ends (fn := Tryd.f14) (by kernel_rfl) rfl comp14 (by kernel_rfl) (by kernel_rfl) hn h
/-! hindsight/scheme.Open -/
def r16_0 : List POp := [
  ⟨some 3, .box 34 (.tmp 1), none⟩,
  ⟨some 4, .alloc 24, none⟩]
def r16_1 : List POp := [
  ⟨some 8, .load 34 (.tmp 3), none⟩,
  ⟨some 9, .call { callee := .value (.func 13), args := #[(.tmp 8)], argTypes := #[34] }, none⟩,
  ⟨some 10, .unOp .not 4 (.tmp 9), none⟩]
def r16_2 : List POp := [
  ⟨some 11, .fieldAddr 34 (.tmp 3) 1, none⟩,
  ⟨some 12, .load 24 (.tmp 11), none⟩,
  ⟨none, .store 24 (.tmp 4) (.tmp 12), none⟩]
def r16_3 : List POp := [
  ⟨some 13, .makeMap 70 none, none⟩,
  ⟨some 5, .assign (.tmp 13), none⟩]
def r16_4 : List POp := [
  ⟨some 14, .fieldAddr 34 (.tmp 3) 0, none⟩,
  ⟨some 15, .load 32 (.tmp 14), none⟩,
  ⟨some 16, .call { callee := .builtin .len, args := #[(.tmp 15)], argTypes := #[32] }, none⟩,
  ⟨some 17, .move (.const (.int .i64 0)), none⟩]
def r16_5 : List POp := [
  ⟨some 18, .binOp .lss 3 (.tmp 17) (.tmp 16) 3, none⟩]
def r16_6 : List POp := [
  ⟨some 19, .indexAddr 32 (.tmp 15) (.tmp 17), none⟩,
  ⟨some 20, .load 3 (.tmp 19), none⟩,
  ⟨some 7, .assign (.tmp 20), none⟩]
def r16_7 : List POp := [
  ⟨some 21, .move (.tmp 5), none⟩,
  ⟨some 22, .move (.tmp 7), none⟩,
  ⟨some 23, .move (.tmp 0), none⟩,
  ⟨some 24, .call { callee := .value (.func 12), args := #[(.tmp 23)], argTypes := #[29] }, none⟩,
  ⟨none, .mapUpdate 70 (.tmp 21) (.tmp 22) (.tmp 24), none⟩]
def r16_8 : List POp := [
  ⟨some 25, .binOp .add 3 (.tmp 17) (.const (.int .i64 1)) 3, none⟩,
  ⟨some 17, .move (.tmp 25), none⟩]
noncomputable def b16_9 : PC := (.seq (.reg r16_5) (.seq (.cond (.tmp 18) .skip (.exit 0)) (.seq (.block 1 (.seq (.reg r16_6) (.reg r16_7))) (.reg r16_8))))
def r16_10 : List POp := [
  ⟨some 26, .move (.tmp 0), none⟩,
  ⟨some 27, .fieldAddr 34 (.tmp 3) 1, none⟩,
  ⟨some 28, .load 24 (.tmp 27), none⟩,
  ⟨some 29, .move (.tmp 5), none⟩,
  ⟨some 30, .call { callee := .value (.func 42), args := #[(.tmp 28), (.tmp 29)], argTypes := #[24, 70] }, none⟩,
  ⟨some 31, .call { callee := .value (.func 40), args := #[(.tmp 26), (.tmp 30)], argTypes := #[29, 24] }, none⟩,
  ⟨none, .store 24 (.tmp 4) (.tmp 31), none⟩]
noncomputable def p16 : PC := (.seq (.reg r16_0) (.seq (.seq (.reg r16_1) (.cond (.tmp 10) (.seq (.reg r16_2) .ret) .skip)) (.seq (.reg r16_3) (.seq (.seq (.reg r16_4) (.block 0 (.loop b16_9))) (.seq (.reg r16_10) .ret)))))
theorem comp16 : (Tryd.f16.body.map (comp E Tryd.f16.ntmps)) = some p16 := by kernel_rfl
theorem ev16 {args : List AV} {S : St} {P : AV → St → Prop} (hn : Nat.ble args.length 32 = true) (h : EndsA E 32 [.c p16] .nrm (initTm 0 args .leaf) S (RetQ E [.cell 4 24] P)) : ∃ r S', EvA E 16 args S r S' ∧ P r S' := ev_ends (fn := Tryd.f16) (by kernel_rfl) rfl comp16 (by kernel_rfl) (by kernel_rfl) hn h
/-! hindsight/scheme.Mono -/
def r18_0 : List POp := [
  ⟨some 1, .box 24 (.tmp 0), none⟩,
  ⟨some 2, .alloc 34, none⟩]
def r18_1 : List POp := [
  ⟨some 3, .load 24 (.tmp 1), none⟩,
  ⟨some 4, .build 34 #[(1, (.tmp 3))], none⟩,
  ⟨none, .store 34 (.tmp 2) (.tmp 4), none⟩]
noncomputable def p18 : PC := (.seq (.reg r18_0) (.seq (.reg r18_1) .ret))
theorem comp18 : (Tryd.f18.body.map (comp E Tryd.f18.ntmps)) = some p18 := by kernel_rfl
theorem ev18 {args : List AV} {S : St} {P : AV → St → Prop} (hn : Nat.ble args.length 5 = true) (h : EndsA E 5 [.c p18] .nrm (initTm 0 args .leaf) S (RetQ E [.cell 2 34] P)) : ∃ r S', EvA E 18 args S r S' ∧ P r S' := ev_ends (fn := Tryd.f18) (by kernel_rfl) rfl comp18 (by kernel_rfl) (by kernel_rfl) hn h
/-! hindsight/ty.Same -/
def r19_0 : List POp := [
  ⟨some 2, .box 24 (.tmp 0), none⟩,
  ⟨some 3, .box 24 (.tmp 1), none⟩,
  ⟨some 4, .assign (.const (.bool false)), none⟩]
def r19_1 : List POp := [
  ⟨some 6, .fieldAddr 24 (.tmp 2) 0, none⟩,
  ⟨some 7, .load 3 (.tmp 6), none⟩,
  ⟨some 8, .fieldAddr 24 (.tmp 3) 0, none⟩,
  ⟨some 9, .load 3 (.tmp 8), none⟩,
  ⟨some 10, .binOp .neq 3 (.tmp 7) (.tmp 9) 3, none⟩,
  ⟨some 11, .move (.tmp 10), none⟩,
  ⟨some 12, .fieldAddr 24 (.tmp 2) 1, some (11, false)⟩,
  ⟨some 13, .load 9 (.tmp 12), some (11, false)⟩,
  ⟨some 14, .fieldAddr 24 (.tmp 3) 1, some (11, false)⟩,
  ⟨some 15, .load 9 (.tmp 14), some (11, false)⟩,
  ⟨some 16, .binOp .neq 9 (.tmp 13) (.tmp 15) 9, some (11, false)⟩,
  ⟨some 17, .pick (.tmp 11) (.const (.bool true)) (.tmp 16), none⟩,
  ⟨some 18, .move (.tmp 17), none⟩,
  ⟨some 19, .fieldAddr 24 (.tmp 2) 2, some (18, false)⟩,
  ⟨some 20, .load 3 (.tmp 19), some (18, false)⟩,
  ⟨some 21, .fieldAddr 24 (.tmp 3) 2, some (18, false)⟩,
  ⟨some 22, .load 3 (.tmp 21), some (18, false)⟩,
  ⟨some 23, .binOp .neq 3 (.tmp 20) (.tmp 22) 3, some (18, false)⟩,
  ⟨some 24, .pick (.tmp 18) (.const (.bool true)) (.tmp 23), none⟩,
  ⟨some 25, .move (.tmp 24), none⟩,
  ⟨some 26, .fieldAddr 24 (.tmp 2) 3, some (25, false)⟩,
  ⟨some 27, .load 22 (.tmp 26), some (25, false)⟩,
  ⟨some 28, .call { callee := .builtin .len, args := #[(.tmp 27)], argTypes := #[22] }, some (25, false)⟩,
  ⟨some 29, .fieldAddr 24 (.tmp 3) 3, some (25, false)⟩,
  ⟨some 30, .load 22 (.tmp 29), some (25, false)⟩,
  ⟨some 31, .call { callee := .builtin .len, args := #[(.tmp 30)], argTypes := #[22] }, some (25, false)⟩,
  ⟨some 32, .binOp .neq 3 (.tmp 28) (.tmp 31) 3, some (25, false)⟩,
  ⟨some 33, .pick (.tmp 25) (.const (.bool true)) (.tmp 32), none⟩]
def r19_2 : List POp := [
  ⟨some 4, .assign (.const (.bool false)), none⟩]
def r19_3 : List POp := [
  ⟨some 34, .fieldAddr 24 (.tmp 2) 3, none⟩,
  ⟨some 35, .load 22 (.tmp 34), none⟩,
  ⟨some 36, .call { callee := .builtin .len, args := #[(.tmp 35)], argTypes := #[22] }, none⟩,
  ⟨some 37, .move (.const (.int .i64 0)), none⟩]
def r19_4 : List POp := [
  ⟨some 38, .binOp .lss 3 (.tmp 37) (.tmp 36) 3, none⟩]
def r19_5 : List POp := [
  ⟨some 39, .move (.tmp 37), none⟩,
  ⟨some 5, .assign (.tmp 39), none⟩]
def r19_6 : List POp := [
  ⟨some 40, .fieldAddr 24 (.tmp 2) 3, none⟩,
  ⟨some 41, .load 22 (.tmp 40), none⟩,
  ⟨some 42, .move (.tmp 5), none⟩,
  ⟨some 43, .indexAddr 22 (.tmp 41) (.tmp 42), none⟩,
  ⟨some 44, .load 24 (.tmp 43), none⟩,
  ⟨some 45, .fieldAddr 24 (.tmp 3) 3, none⟩,
  ⟨some 46, .load 22 (.tmp 45), none⟩,
  ⟨some 47, .move (.tmp 5), none⟩,
  ⟨some 48, .indexAddr 22 (.tmp 46) (.tmp 47), none⟩,
  ⟨some 49, .load 24 (.tmp 48), none⟩,
  ⟨some 50, .call { callee := .value (.func 19), args := #[(.tmp 44), (.tmp 49)], argTypes := #[24, 24] }, none⟩,
  ⟨some 51, .unOp .not 4 (.tmp 50), none⟩]
def r19_7 : List POp := [
  ⟨some 4, .assign (.const (.bool false)), none⟩]
def r19_8 : List POp := [
  ⟨some 52, .binOp .add 3 (.tmp 37) (.const (.int .i64 1)) 3, none⟩,
  ⟨some 37, .move (.tmp 52), none⟩]
noncomputable def b19_9 : PC := (.seq (.reg r19_4) (.seq (.cond (.tmp 38) .skip (.exit 0)) (.seq (.block 1 (.seq (.reg r19_5) (.seq (.regD 12 r19_6) (.cond (.tmp 51) (.seq (.reg r19_7) .ret) .skip)))) (.reg r19_8))))
def r19_10 : List POp := [
  ⟨some 4, .assign (.const (.bool true)), none⟩]
noncomputable def p19 : PC := (.seq (.reg r19_0) (.seq (.seq (.reg r19_1) (.cond (.tmp 33) (.seq (.reg r19_2) .ret) .skip)) (.seq (.seq (.reg r19_3) (.block 0 (.loop b19_9))) (.seq (.reg r19_10) .ret))))
theorem comp19 : (Tryd.f19.body.map (comp E Tryd.f19.ntmps)) = some p19 := by kernel_rfl
theorem ev19 {args : List AV} {S : St} {P : AV → St → Prop} (hn : Nat.ble args.length 53 = true) (h : EndsA E 53 [.c p19] .nrm (initTm 0 args .leaf) S (RetQ E [.tmp 4] P)) : ∃ r S', EvA E 19 args S r S' ∧ P r S' := ev_ends (fn := Tryd.f19) (by kernel_rfl) rfl comp19 (by kernel_rfl) (by kernel_rfl) hn h
/-! hindsight/hindsightlaw6.v -/
def r20_0 : List POp := [
  ⟨some 2, .alloc 24, none⟩]
def r20_1 : List POp := [
  ⟨some 3, .move (.tmp 0), none⟩,
  ⟨some 4, .build 24 #[(0, (.const (.int .i64 7))), (2, (.tmp 3))], none⟩,
  ⟨none, .store 24 (.tmp 2) (.tmp 4), none⟩]
noncomputable def p20 : PC := (.seq (.reg r20_0) (.seq (.reg r20_1) .ret))
theorem comp20 : (Tryd.f20.body.map (comp E Tryd.f20.ntmps)) = some p20 := by kernel_rfl
theorem ev20 {args : List AV} {S : St} {P : AV → St → Prop} (hn : Nat.ble args.length 5 = true) (h : EndsA E 5 [.c p20] .nrm (initTm 0 args .leaf) S (RetQ E [.cell 2 24] P)) : ∃ r S', EvA E 20 args S r S' ∧ P r S' := ev_ends (fn := Tryd.f20) (by kernel_rfl) rfl comp20 (by kernel_rfl) (by kernel_rfl) hn h
/-! hindsight/ty.Size -/
def r33_0 : List POp := [
  ⟨some 1, .box 24 (.tmp 0), none⟩,
  ⟨some 2, .assign (.const (.int .i64 0)), none⟩]
def r33_1 : List POp := [
  ⟨some 3, .load 24 (.tmp 1), none⟩,
  ⟨some 4, .call { callee := .value (.func 56), args := #[(.tmp 3), (.const (.int .i64 0))], argTypes := #[24, 3] }, none⟩,
  ⟨some 2, .assign (.tmp 4), none⟩]
noncomputable def p33 : PC := (.seq (.reg r33_0) (.seq (.reg r33_1) .ret))
theorem comp33 : (Tryd.f33.body.map (comp E Tryd.f33.ntmps)) = some p33 := by kernel_rfl
theorem ev33 {args : List AV} {S : St} {P : AV → St → Prop} (hn : Nat.ble args.length 5 = true) (h : EndsA E 5 [.c p33] .nrm (initTm 0 args .leaf) S (RetQ E [.tmp 2] P)) : ∃ r S', EvA E 33 args S r S' ∧ P r S' := ev_ends (fn := Tryd.f33) (by kernel_rfl) rfl comp33 (by kernel_rfl) (by kernel_rfl) hn h
/-! hindsight/ty.alone -/
def r34_0 : List POp := [
  ⟨some 1, .box 24 (.tmp 0), none⟩,
  ⟨some 2, .assign (.const (.bool false)), none⟩]
def r34_1 : List POp := [
  ⟨some 5, .fieldAddr 24 (.tmp 1) 0, none⟩,
  ⟨some 6, .load 3 (.tmp 5), none⟩,
  ⟨some 7, .binOp .lss 3 (.tmp 6) (.const (.int .i64 1)) 3, none⟩,
  ⟨some 8, .move (.tmp 7), none⟩,
  ⟨some 9, .fieldAddr 24 (.tmp 1) 0, some (8, false)⟩,
  ⟨some 10, .load 3 (.tmp 9), some (8, false)⟩,
  ⟨some 11, .binOp .gtr 3 (.tmp 10) (.const (.int .i64 7)) 3, some (8, false)⟩,
  ⟨some 12, .pick (.tmp 8) (.const (.bool true)) (.tmp 11), none⟩,
  ⟨some 13, .move (.tmp 12), none⟩,
  ⟨some 14, .fieldAddr 24 (.tmp 1) 3, some (13, false)⟩,
  ⟨some 15, .load 22 (.tmp 14), some (13, false)⟩,
  ⟨some 16, .call { callee := .builtin .len, args := #[(.tmp 15)], argTypes := #[22] }, some (13, false)⟩,
  ⟨some 17, .fieldAddr 24 (.tmp 1) 0, some (13, false)⟩,
  ⟨some 18, .load 3 (.tmp 17), some (13, false)⟩,
  ⟨some 19, .call { callee := .value (.func 57), args := #[(.tmp 18)], argTypes := #[3] }, some (13, false)⟩]
def r34_2 : List POp := [
  ⟨some 20, .binOp .neq 3 (.tmp 16) (.tmp 19) 3, some (13, false)⟩,
  ⟨some 21, .pick (.tmp 13) (.const (.bool true)) (.tmp 20), none⟩,
  ⟨some 22, .move (.tmp 21), none⟩,
  ⟨some 23, .fieldAddr 24 (.tmp 1) 1, some (22, false)⟩,
  ⟨some 24, .load 9 (.tmp 23), some (22, false)⟩,
  ⟨some 25, .binOp .neq 9 (.tmp 24) (.const (.string ⟨#[]⟩)) 9, some (22, false)⟩,
  ⟨some 26, .fieldAddr 24 (.tmp 1) 0, some (22, false)⟩,
  ⟨some 27, .load 3 (.tmp 26), some (22, false)⟩,
  ⟨some 28, .binOp .eql 3 (.tmp 27) (.const (.int .i64 4)) 3, some (22, false)⟩,
  ⟨some 29, .binOp .neq 4 (.tmp 25) (.tmp 28) 4, some (22, false)⟩,
  ⟨some 30, .pick (.tmp 22) (.const (.bool true)) (.tmp 29), none⟩]
noncomputable def d34_0 : Array Oper := match Tryd.f34.body.map (comp E Tryd.f34.ntmps) with | some p => p.draws.getD 0 #[] | none => #[]
theorem draw34_0 : DrawC E 60 d34_0 26 15 r34_1 r34_2 [(.tmp 14), (.tmp 15)] := ⟨by kernel_rfl, by decide, by kernel_rfl, by kernel_rfl, by kernel_rfl, by kernel_rfl, by kernel_rfl⟩
def r34_3 : List POp := [
  ⟨some 2, .assign (.const (.bool false)), none⟩]
def r34_4 : List POp := [
  ⟨some 31, .fieldAddr 24 (.tmp 1) 2, none⟩,
  ⟨some 32, .load 3 (.tmp 31), none⟩,
  ⟨some 33, .binOp .lss 3 (.tmp 32) (.const (.int .i64 0)) 3, none⟩,
  ⟨some 34, .move (.tmp 33), none⟩,
  ⟨some 35, .fieldAddr 24 (.tmp 1) 2, some (34, false)⟩,
  ⟨some 36, .load 3 (.tmp 35), some (34, false)⟩,
  ⟨some 37, .binOp .gtr 3 (.tmp 36) (.const (.int .i64 1999)) 3, some (34, false)⟩,
  ⟨some 38, .pick (.tmp 34) (.const (.bool true)) (.tmp 37), none⟩,
  ⟨some 39, .move (.tmp 38), none⟩,
  ⟨some 40, .fieldAddr 24 (.tmp 1) 2, some (39, false)⟩,
  ⟨some 41, .load 3 (.tmp 40), some (39, false)⟩,
  ⟨some 42, .binOp .neq 3 (.tmp 41) (.const (.int .i64 0)) 3, some (39, false)⟩,
  ⟨some 43, .move (.tmp 42), some (39, false)⟩,
  ⟨some 44, .fieldAddr 24 (.tmp 1) 0, some (43, true)⟩,
  ⟨some 45, .load 3 (.tmp 44), some (43, true)⟩,
  ⟨some 46, .binOp .neq 3 (.tmp 45) (.const (.int .i64 7)) 3, some (43, true)⟩,
  ⟨some 47, .pick (.tmp 43) (.tmp 46) (.const (.bool false)), some (39, false)⟩,
  ⟨some 48, .pick (.tmp 39) (.const (.bool true)) (.tmp 47), none⟩]
def r34_5 : List POp := [
  ⟨some 2, .assign (.const (.bool false)), none⟩]
def r34_6 : List POp := [
  ⟨some 49, .fieldAddr 24 (.tmp 1) 3, none⟩,
  ⟨some 50, .load 22 (.tmp 49), none⟩,
  ⟨some 51, .call { callee := .builtin .len, args := #[(.tmp 50)], argTypes := #[22] }, none⟩,
  ⟨some 52, .move (.const (.int .i64 0)), none⟩]
def r34_7 : List POp := [
  ⟨some 53, .binOp .lss 3 (.tmp 52) (.tmp 51) 3, none⟩]
def r34_8 : List POp := [
  ⟨some 54, .indexAddr 22 (.tmp 50) (.tmp 52), none⟩,
  ⟨some 55, .load 24 (.tmp 54), none⟩,
  ⟨some 4, .alloc 24, none⟩,
  ⟨none, .store 24 (.tmp 4) (.tmp 55), none⟩]
def r34_9 : List POp := [
  ⟨some 56, .load 24 (.tmp 4), none⟩,
  ⟨some 57, .call { callee := .value (.func 34), args := #[(.tmp 56)], argTypes := #[24] }, none⟩,
  ⟨some 58, .unOp .not 4 (.tmp 57), none⟩]
def r34_10 : List POp := [
  ⟨some 2, .assign (.const (.bool false)), none⟩]
def r34_11 : List POp := [
  ⟨some 59, .binOp .add 3 (.tmp 52) (.const (.int .i64 1)) 3, none⟩,
  ⟨some 52, .move (.tmp 59), none⟩]
noncomputable def b34_12 : PC := (.seq (.reg r34_7) (.seq (.cond (.tmp 53) .skip (.exit 0)) (.seq (.block 1 (.seq (.reg r34_8) (.seq (.reg r34_9) (.cond (.tmp 58) (.seq (.reg r34_10) .ret) .skip)))) (.reg r34_11))))
def r34_13 : List POp := [
  ⟨some 2, .assign (.const (.bool true)), none⟩]
noncomputable def p34 : PC := (.seq (.reg r34_0) (.seq (.seq (.draw d34_0) (.cond (.tmp 30) (.seq (.reg r34_3) .ret) .skip)) (.seq (.seq (.reg r34_4) (.cond (.tmp 48) (.seq (.reg r34_5) .ret) .skip)) (.seq (.seq (.reg r34_6) (.block 0 (.loop b34_12))) (.seq (.reg r34_13) .ret)))))
theorem comp34 : (Tryd.f34.body.map (comp E Tryd.f34.ntmps)) = some p34 := by kernel_rfl
theorem ev34 {args : List AV} {S : St} {P : AV → St → Prop} (hn : Nat.ble args.length 60 = true) (h : EndsA E 60 [.c p34] .nrm (initTm 0 args .leaf) S (RetQ E [.tmp 2] P)) : ∃ r S', EvA E 34 args S r S' ∧ P r S' := ev_ends (fn := Tryd.f34) (by kernel_rfl) rfl comp34 (by kernel_rfl) (by kernel_rfl) hn h
/-! hindsight/ty.vars -/
def r36_0 : List POp := [
  ⟨some 2, .box 24 (.tmp 0), none⟩,
  ⟨some 4, .assign (.const (.slice none 0 0)), none⟩]
def r36_1 : List POp := [
  ⟨some 9, .fieldAddr 24 (.tmp 2) 0, none⟩,
  ⟨some 10, .load 3 (.tmp 9), none⟩,
  ⟨some 11, .binOp .eql 3 (.tmp 10) (.const (.int .i64 7)) 3, none⟩]
def r36_2 : List POp := [
  ⟨some 12, .move (.tmp 1), none⟩,
  ⟨some 13, .call { callee := .builtin .len, args := #[(.tmp 12)], argTypes := #[32] }, none⟩,
  ⟨some 14, .move (.const (.int .i64 0)), none⟩]
def r36_3 : List POp := [
  ⟨some 15, .binOp .lss 3 (.tmp 14) (.tmp 13) 3, none⟩]
def r36_4 : List POp := [
  ⟨some 16, .indexAddr 32 (.tmp 12) (.tmp 14), none⟩,
  ⟨some 17, .load 3 (.tmp 16), none⟩,
  ⟨some 6, .assign (.tmp 17), none⟩]
def r36_5 : List POp := [
  ⟨some 18, .move (.tmp 6), none⟩,
  ⟨some 19, .fieldAddr 24 (.tmp 2) 2, none⟩,
  ⟨some 20, .load 3 (.tmp 19), none⟩,
  ⟨some 21, .binOp .eql 3 (.tmp 18) (.tmp 20) 3, none⟩]
def r36_6 : List POp := [
  ⟨some 22, .move (.tmp 1), none⟩,
  ⟨some 4, .assign (.tmp 22), none⟩]
def r36_7 : List POp := [
  ⟨some 23, .binOp .add 3 (.tmp 14) (.const (.int .i64 1)) 3, none⟩,
  ⟨some 14, .move (.tmp 23), none⟩]
noncomputable def b36_8 : PC := (.seq (.reg r36_3) (.seq (.cond (.tmp 15) .skip (.exit 0)) (.seq (.block 1 (.seq (.reg r36_4) (.seq (.reg r36_5) (.cond (.tmp 21) (.seq (.reg r36_6) .ret) .skip)))) (.reg r36_7))))
def r36_9 : List POp := [
  ⟨some 24, .move (.tmp 1), none⟩,
  ⟨some 25, .fieldAddr 24 (.tmp 2) 2, none⟩,
  ⟨some 26, .load 3 (.tmp 25), none⟩,
  ⟨some 27, .buildSlice 32 1 #[(0, (.tmp 26))], none⟩,
  ⟨some 28, .call { callee := .builtin .append, args := #[(.tmp 24), (.tmp 27)], argTypes := #[32, 32] }, none⟩,
  ⟨some 4, .assign (.tmp 28), none⟩]
def r36_10 : List POp := [
  ⟨some 29, .fieldAddr 24 (.tmp 2) 3, none⟩,
  ⟨some 30, .load 22 (.tmp 29), none⟩,
  ⟨some 31, .call { callee := .builtin .len, args := #[(.tmp 30)], argTypes := #[22] }, none⟩,
  ⟨some 32, .move (.const (.int .i64 0)), none⟩]
def r36_11 : List POp := [
  ⟨some 33, .binOp .lss 3 (.tmp 32) (.tmp 31) 3, none⟩]
def r36_12 : List POp := [
  ⟨some 34, .indexAddr 22 (.tmp 30) (.tmp 32), none⟩,
  ⟨some 35, .load 24 (.tmp 34), none⟩,
  ⟨some 8, .alloc 24, none⟩,
  ⟨none, .store 24 (.tmp 8) (.tmp 35), none⟩]
def r36_13 : List POp := [
  ⟨some 36, .load 24 (.tmp 8), none⟩,
  ⟨some 37, .move (.tmp 1), none⟩,
  ⟨some 38, .call { callee := .value (.func 36), args := #[(.tmp 36), (.tmp 37)], argTypes := #[24, 32] }, none⟩,
  ⟨some 1, .assign (.tmp 38), none⟩]
def r36_14 : List POp := [
  ⟨some 39, .binOp .add 3 (.tmp 32) (.const (.int .i64 1)) 3, none⟩,
  ⟨some 32, .move (.tmp 39), none⟩]
noncomputable def b36_15 : PC := (.seq (.reg r36_11) (.seq (.cond (.tmp 33) .skip (.exit 2)) (.seq (.block 3 (.seq (.reg r36_12) (.reg r36_13))) (.reg r36_14))))
def r36_16 : List POp := [
  ⟨some 40, .move (.tmp 1), none⟩,
  ⟨some 4, .assign (.tmp 40), none⟩]
noncomputable def p36 : PC := (.seq (.reg r36_0) (.seq (.seq (.reg r36_1) (.cond (.tmp 11) (.seq (.seq (.reg r36_2) (.block 0 (.loop b36_8))) (.seq (.reg r36_9) .ret)) .skip)) (.seq (.seq (.reg r36_10) (.block 2 (.loop b36_15))) (.seq (.reg r36_16) .ret))))
theorem comp36 : (Tryd.f36.body.map (comp E Tryd.f36.ntmps)) = some p36 := by kernel_rfl
theorem ev36 {args : List AV} {S : St} {P : AV → St → Prop} (hn : Nat.ble args.length 41 = true) (h : EndsA E 41 [.c p36] .nrm (initTm 0 args .leaf) S (RetQ E [.tmp 4] P)) : ∃ r S', EvA E 36 args S r S' ∧ P r S' := ev_ends (fn := Tryd.f36) (by kernel_rfl) rfl comp36 (by kernel_rfl) (by kernel_rfl) hn h
/-! (*hindsight/ty.Sub).Apply -/
def r40_0 : List POp := [
  ⟨some 3, .box 24 (.tmp 1), none⟩,
  ⟨some 4, .alloc 24, none⟩]
def r40_1 : List POp := [
  ⟨some 5, .load 24 (.tmp 3), none⟩,
  ⟨some 6, .call { callee := .value (.func 10), args := #[(.tmp 5)], argTypes := #[24] }, none⟩,
  ⟨some 7, .unOp .not 4 (.tmp 6), none⟩]
def r40_2 : List POp := [
  ⟨some 8, .load 24 (.tmp 3), none⟩,
  ⟨none, .store 24 (.tmp 4) (.tmp 8), none⟩]
def r40_3 : List POp := [
  ⟨some 9, .move (.tmp 0), none⟩,
  ⟨some 10, .load 24 (.tmp 3), none⟩,
  ⟨some 11, .call { callee := .value (.func 60), args := #[(.tmp 9), (.tmp 10)], argTypes := #[29, 24] }, none⟩,
  ⟨none, .store 24 (.tmp 4) (.tmp 11), none⟩]
noncomputable def p40 : PC := (.seq (.reg r40_0) (.seq (.seq (.reg r40_1) (.cond (.tmp 7) (.seq (.reg r40_2) .ret) .skip)) (.seq (.reg r40_3) .ret)))
theorem comp40 : (Tryd.f40.body.map (comp E Tryd.f40.ntmps)) = some p40 := by kernel_rfl
theorem ev40 {args : List AV} {S : St} {P : AV → St → Prop} (hn : Nat.ble args.length 12 = true) (h : EndsA E 12 [.c p40] .nrm (initTm 0 args .leaf) S (RetQ E [.cell 4 24] P)) : ∃ r S', EvA E 40 args S r S' ∧ P r S' := ev_ends (fn := Tryd.f40) (by kernel_rfl) rfl comp40 (by kernel_rfl) (by kernel_rfl) hn h
/-! hindsight/scheme.renewed -/
def r42_0 : List POp := [
  ⟨some 2, .box 24 (.tmp 0), none⟩,
  ⟨some 4, .alloc 24, none⟩]
def r42_1 : List POp := [
  ⟨some 10, .fieldAddr 24 (.tmp 2) 0, none⟩,
  ⟨some 11, .load 3 (.tmp 10), none⟩,
  ⟨some 12, .binOp .eql 3 (.tmp 11) (.const (.int .i64 7)) 3, none⟩]
def r42_2 : List POp := [
  ⟨some 14, .move (.tmp 1), none⟩,
  ⟨some 15, .fieldAddr 24 (.tmp 2) 2, none⟩,
  ⟨some 16, .load 3 (.tmp 15), none⟩,
  ⟨some 17, .lookup 70 (.tmp 14) (.tmp 16) true, none⟩,
  ⟨some 13, .move (.tmp 17), none⟩,
  ⟨some 18, .extract (.tmp 13) 0, none⟩,
  ⟨some 19, .extract (.tmp 13) 1, none⟩,
  ⟨some 5, .alloc 24, none⟩,
  ⟨none, .store 24 (.tmp 5) (.tmp 18), none⟩,
  ⟨some 6, .assign (.tmp 19), none⟩]
def r42_3 : List POp := [
  ⟨some 20, .move (.tmp 6), none⟩]
def r42_4 : List POp := [
  ⟨some 21, .load 24 (.tmp 5), none⟩,
  ⟨none, .store 24 (.tmp 4) (.tmp 21), none⟩]
def r42_5 : List POp := [
  ⟨some 22, .load 24 (.tmp 2), none⟩,
  ⟨none, .store 24 (.tmp 4) (.tmp 22), none⟩]
def r42_6 : List POp := [
  ⟨some 23, .load 24 (.tmp 2), none⟩,
  ⟨some 7, .alloc 24, none⟩,
  ⟨none, .store 24 (.tmp 7) (.tmp 23), none⟩]
def r42_7 : List POp := [
  ⟨some 24, .fieldAddr 24 (.tmp 7) 3, none⟩,
  ⟨none, .store 22 (.tmp 24) (.const (.slice none 0 0)), none⟩]
def r42_8 : List POp := [
  ⟨some 25, .fieldAddr 24 (.tmp 2) 3, none⟩,
  ⟨some 26, .load 22 (.tmp 25), none⟩,
  ⟨some 27, .call { callee := .builtin .len, args := #[(.tmp 26)], argTypes := #[22] }, none⟩,
  ⟨some 28, .move (.const (.int .i64 0)), none⟩]
def r42_9 : List POp := [
  ⟨some 29, .binOp .lss 3 (.tmp 28) (.tmp 27) 3, none⟩]
def r42_10 : List POp := [
  ⟨some 30, .indexAddr 22 (.tmp 26) (.tmp 28), none⟩,
  ⟨some 31, .load 24 (.tmp 30), none⟩,
  ⟨some 9, .alloc 24, none⟩,
  ⟨none, .store 24 (.tmp 9) (.tmp 31), none⟩]
def r42_11 : List POp := [
  ⟨some 32, .fieldAddr 24 (.tmp 7) 3, none⟩,
  ⟨some 33, .load 22 (.tmp 32), none⟩,
  ⟨some 34, .load 24 (.tmp 9), none⟩,
  ⟨some 35, .move (.tmp 1), none⟩,
  ⟨some 36, .call { callee := .value (.func 42), args := #[(.tmp 34), (.tmp 35)], argTypes := #[24, 70] }, none⟩]
def r42_12 : List POp := [
  ⟨some 37, .buildSlice 22 1 #[(0, (.tmp 36))], none⟩,
  ⟨some 38, .call { callee := .builtin .append, args := #[(.tmp 33), (.tmp 37)], argTypes := #[22, 22] }, none⟩,
  ⟨some 39, .fieldAddr 24 (.tmp 7) 3, none⟩,
  ⟨none, .store 22 (.tmp 39) (.tmp 38), none⟩]
noncomputable def d42_0 : Array Oper := match Tryd.f42.body.map (comp E Tryd.f42.ntmps) with | some p => p.draws.getD 0 #[] | none => #[]
theorem draw42_0 : DrawC E 42 d42_0 9 5 r42_11 r42_12 [(.tmp 32)] := ⟨by kernel_rfl, by decide, by kernel_rfl, by kernel_rfl, by kernel_rfl, by kernel_rfl, by kernel_rfl⟩
def r42_13 : List POp := [
  ⟨some 40, .binOp .add 3 (.tmp 28) (.const (.int .i64 1)) 3, none⟩,
  ⟨some 28, .move (.tmp 40), none⟩]
noncomputable def b42_14 : PC := (.seq (.reg r42_9) (.seq (.cond (.tmp 29) .skip (.exit 0)) (.seq (.block 1 (.seq (.reg r42_10) (.draw d42_0))) (.reg r42_13))))
def r42_15 : List POp := [
  ⟨some 41, .load 24 (.tmp 7), none⟩,
  ⟨none, .store 24 (.tmp 4) (.tmp 41), none⟩]
noncomputable def p42 : PC := (.seq (.reg r42_0) (.seq (.seq (.reg r42_1) (.cond (.tmp 12) (.seq (.seq (.reg r42_2) (.seq (.reg r42_3) (.cond (.tmp 20) (.seq (.reg r42_4) .ret) .skip))) (.seq (.reg r42_5) .ret)) .skip)) (.seq (.reg r42_6) (.seq (.reg r42_7) (.seq (.seq (.reg r42_8) (.block 0 (.loop b42_14))) (.seq (.reg r42_15) .ret))))))
theorem comp42 : (Tryd.f42.body.map (comp E Tryd.f42.ntmps)) = some p42 := by kernel_rfl
theorem ev42 {args : List AV} {S : St} {P : AV → St → Prop} (hn : Nat.ble args.length 42 = true) (h : EndsA E 42 [.c p42] .nrm (initTm 0 args .leaf) S (RetQ E [.cell 4 24] P)) : ∃ r S', EvA E 42 args S r S' ∧ P r S' := ev_ends (fn := Tryd.f42) (by kernel_rfl) rfl comp42 (by kernel_rfl) (by kernel_rfl) hn h
/-! hindsight/ty.measure -/
def r56_0 : List POp := [
  ⟨some 2, .box 24 (.tmp 0), none⟩,
  ⟨some 4, .assign (.const (.int .i64 0)), none⟩]
def r56_1 : List POp := [
  ⟨some 7, .move (.tmp 1), none⟩,
  ⟨some 8, .binOp .add 3 (.tmp 7) (.const (.int .i64 1)) 3, none⟩,
  ⟨some 1, .assign (.tmp 8), none⟩]
def r56_2 : List POp := [
  ⟨some 9, .fieldAddr 24 (.tmp 2) 3, none⟩,
  ⟨some 10, .load 22 (.tmp 9), none⟩,
  ⟨some 11, .call { callee := .builtin .len, args := #[(.tmp 10)], argTypes := #[22] }, none⟩,
  ⟨some 12, .move (.const (.int .i64 0)), none⟩]
def r56_3 : List POp := [
  ⟨some 13, .binOp .lss 3 (.tmp 12) (.tmp 11) 3, none⟩]
def r56_4 : List POp := [
  ⟨some 14, .indexAddr 22 (.tmp 10) (.tmp 12), none⟩,
  ⟨some 15, .load 24 (.tmp 14), none⟩,
  ⟨some 6, .alloc 24, none⟩,
  ⟨none, .store 24 (.tmp 6) (.tmp 15), none⟩]
def r56_5 : List POp := [
  ⟨some 16, .move (.tmp 1), none⟩,
  ⟨some 17, .binOp .gtr 3 (.tmp 16) (.const (.int .i64 500)) 3, none⟩]
def r56_6 : List POp := [
  ⟨some 18, .load 24 (.tmp 6), none⟩,
  ⟨some 19, .move (.tmp 1), none⟩,
  ⟨some 20, .call { callee := .value (.func 56), args := #[(.tmp 18), (.tmp 19)], argTypes := #[24, 3] }, none⟩,
  ⟨some 1, .assign (.tmp 20), none⟩]
def r56_7 : List POp := [
  ⟨some 21, .binOp .add 3 (.tmp 12) (.const (.int .i64 1)) 3, none⟩,
  ⟨some 12, .move (.tmp 21), none⟩]
noncomputable def b56_8 : PC := (.seq (.reg r56_3) (.seq (.cond (.tmp 13) .skip (.exit 0)) (.seq (.block 1 (.seq (.reg r56_4) (.seq (.seq (.reg r56_5) (.cond (.tmp 17) (.exit 0) .skip)) (.reg r56_6)))) (.reg r56_7))))
def r56_9 : List POp := [
  ⟨some 22, .move (.tmp 1), none⟩,
  ⟨some 23, .call { callee := .builtin .min, args := #[(.tmp 22), (.const (.int .i64 501))], argTypes := #[3, 3] }, none⟩,
  ⟨some 4, .assign (.tmp 23), none⟩]
noncomputable def p56 : PC := (.seq (.reg r56_0) (.seq (.reg r56_1) (.seq (.seq (.reg r56_2) (.block 0 (.loop b56_8))) (.seq (.reg r56_9) .ret))))
theorem comp56 : (Tryd.f56.body.map (comp E Tryd.f56.ntmps)) = some p56 := by kernel_rfl
theorem ev56 {args : List AV} {S : St} {P : AV → St → Prop} (hn : Nat.ble args.length 24 = true) (h : EndsA E 24 [.c p56] .nrm (initTm 0 args .leaf) S (RetQ E [.tmp 4] P)) : ∃ r S', EvA E 56 args S r S' ∧ P r S' := ev_ends (fn := Tryd.f56) (by kernel_rfl) rfl comp56 (by kernel_rfl) (by kernel_rfl) hn h
/-! hindsight/ty.args -/
def r57_0 : List POp := [
  ⟨some 2, .assign (.const (.int .i64 0)), none⟩]
def r57_1 : List POp := [
  ⟨some 3, .move (.tmp 0), none⟩]
def r57_2 : List POp := [
  ⟨some 5, .binOp .eql 3 (.tmp 3) (.const (.int .i64 5)) 3, none⟩,
  ⟨some 4, .assign (.tmp 5), none⟩]
def r57_3 : List POp := [
  ⟨some 2, .assign (.const (.int .i64 2)), none⟩]
def r57_4 : List POp := [
  ⟨some 7, .binOp .eql 3 (.tmp 3) (.const (.int .i64 6)) 3, none⟩,
  ⟨some 6, .assign (.tmp 7), none⟩]
def r57_5 : List POp := [
  ⟨some 2, .assign (.const (.int .i64 1)), none⟩]
def r57_6 : List POp := [
  ⟨some 2, .assign (.const (.int .i64 0)), none⟩]
noncomputable def p57 : PC := (.seq (.reg r57_0) (.seq (.seq (.reg r57_1) (.block 0 (.seq (.reg r57_2) (.cond (.tmp 4) (.seq (.reg r57_3) .ret) (.seq (.reg r57_4) (.cond (.tmp 6) (.seq (.reg r57_5) .ret) .skip)))))) (.seq (.reg r57_6) .ret)))
theorem comp57 : (Tryd.f57.body.map (comp E Tryd.f57.ntmps)) = some p57 := by kernel_rfl
theorem ev57 {args : List AV} {S : St} {P : AV → St → Prop} (hn : Nat.ble args.length 8 = true) (h : EndsA E 8 [.c p57] .nrm (initTm 0 args .leaf) S (RetQ E [.tmp 2] P)) : ∃ r S', EvA E 57 args S r S' ∧ P r S' := ev_ends (fn := Tryd.f57) (by kernel_rfl) rfl comp57 (by kernel_rfl) (by kernel_rfl) hn h
/-! (*hindsight/ty.Sub).apply -/
def r60_0 : List POp := [
  ⟨some 3, .box 24 (.tmp 1), none⟩,
  ⟨some 4, .alloc 24, none⟩]
def r60_1 : List POp := [
  ⟨some 8, .move (.tmp 0), none⟩,
  ⟨some 9, .load 24 (.tmp 3), none⟩,
  ⟨some 10, .call { callee := .value (.func 64), args := #[(.tmp 8), (.tmp 9)], argTypes := #[29, 24] }, none⟩,
  ⟨none, .store 24 (.tmp 3) (.tmp 10), none⟩]
def r60_2 : List POp := [
  ⟨some 11, .fieldAddr 24 (.tmp 3) 3, none⟩,
  ⟨some 12, .load 22 (.tmp 11), none⟩,
  ⟨some 13, .call { callee := .builtin .len, args := #[(.tmp 12)], argTypes := #[22] }, none⟩,
  ⟨some 14, .binOp .eql 3 (.tmp 13) (.const (.int .i64 0)) 3, none⟩]
def r60_3 : List POp := [
  ⟨some 15, .load 24 (.tmp 3), none⟩,
  ⟨none, .store 24 (.tmp 4) (.tmp 15), none⟩]
def r60_4 : List POp := [
  ⟨some 16, .load 24 (.tmp 3), none⟩,
  ⟨some 5, .alloc 24, none⟩,
  ⟨none, .store 24 (.tmp 5) (.tmp 16), none⟩]
def r60_5 : List POp := [
  ⟨some 17, .fieldAddr 24 (.tmp 5) 3, none⟩,
  ⟨none, .store 22 (.tmp 17) (.const (.slice none 0 0)), none⟩]
def r60_6 : List POp := [
  ⟨some 18, .fieldAddr 24 (.tmp 3) 3, none⟩,
  ⟨some 19, .load 22 (.tmp 18), none⟩,
  ⟨some 20, .call { callee := .builtin .len, args := #[(.tmp 19)], argTypes := #[22] }, none⟩,
  ⟨some 21, .move (.const (.int .i64 0)), none⟩]
def r60_7 : List POp := [
  ⟨some 22, .binOp .lss 3 (.tmp 21) (.tmp 20) 3, none⟩]
def r60_8 : List POp := [
  ⟨some 23, .indexAddr 22 (.tmp 19) (.tmp 21), none⟩,
  ⟨some 24, .load 24 (.tmp 23), none⟩,
  ⟨some 7, .alloc 24, none⟩,
  ⟨none, .store 24 (.tmp 7) (.tmp 24), none⟩]
def r60_9 : List POp := [
  ⟨some 25, .fieldAddr 24 (.tmp 5) 3, none⟩,
  ⟨some 26, .load 22 (.tmp 25), none⟩,
  ⟨some 27, .move (.tmp 0), none⟩,
  ⟨some 28, .load 24 (.tmp 7), none⟩,
  ⟨some 29, .call { callee := .value (.func 60), args := #[(.tmp 27), (.tmp 28)], argTypes := #[29, 24] }, none⟩]
def r60_10 : List POp := [
  ⟨some 30, .buildSlice 22 1 #[(0, (.tmp 29))], none⟩,
  ⟨some 31, .call { callee := .builtin .append, args := #[(.tmp 26), (.tmp 30)], argTypes := #[22, 22] }, none⟩,
  ⟨some 32, .fieldAddr 24 (.tmp 5) 3, none⟩,
  ⟨none, .store 22 (.tmp 32) (.tmp 31), none⟩]
noncomputable def d60_0 : Array Oper := match Tryd.f60.body.map (comp E Tryd.f60.ntmps) with | some p => p.draws.getD 0 #[] | none => #[]
theorem draw60_0 : DrawC E 35 d60_0 9 5 r60_9 r60_10 [(.tmp 25)] := ⟨by kernel_rfl, by decide, by kernel_rfl, by kernel_rfl, by kernel_rfl, by kernel_rfl, by kernel_rfl⟩
def r60_11 : List POp := [
  ⟨some 33, .binOp .add 3 (.tmp 21) (.const (.int .i64 1)) 3, none⟩,
  ⟨some 21, .move (.tmp 33), none⟩]
noncomputable def b60_12 : PC := (.seq (.reg r60_7) (.seq (.cond (.tmp 22) .skip (.exit 0)) (.seq (.block 1 (.seq (.reg r60_8) (.draw d60_0))) (.reg r60_11))))
def r60_13 : List POp := [
  ⟨some 34, .load 24 (.tmp 5), none⟩,
  ⟨none, .store 24 (.tmp 4) (.tmp 34), none⟩]
noncomputable def p60 : PC := (.seq (.reg r60_0) (.seq (.reg r60_1) (.seq (.seq (.reg r60_2) (.cond (.tmp 14) (.seq (.reg r60_3) .ret) .skip)) (.seq (.reg r60_4) (.seq (.reg r60_5) (.seq (.seq (.reg r60_6) (.block 0 (.loop b60_12))) (.seq (.reg r60_13) .ret)))))))
theorem comp60 : (Tryd.f60.body.map (comp E Tryd.f60.ntmps)) = some p60 := by kernel_rfl
theorem ev60 {args : List AV} {S : St} {P : AV → St → Prop} (hn : Nat.ble args.length 35 = true) (h : EndsA E 35 [.c p60] .nrm (initTm 0 args .leaf) S (RetQ E [.cell 4 24] P)) : ∃ r S', EvA E 60 args S r S' ∧ P r S' := ev_ends (fn := Tryd.f60) (by kernel_rfl) rfl comp60 (by kernel_rfl) (by kernel_rfl) hn h
/-! (*hindsight/ty.Sub).head -/
def r64_0 : List POp := [
  ⟨some 3, .box 24 (.tmp 1), none⟩,
  ⟨some 4, .alloc 24, none⟩]
def r64_1 : List POp := [
  ⟨some 7, .fieldAddr 24 (.tmp 3) 0, none⟩,
  ⟨some 8, .load 3 (.tmp 7), none⟩,
  ⟨some 9, .binOp .eql 3 (.tmp 8) (.const (.int .i64 7)) 3, none⟩]
def r64_2 : List POp := [
  ⟨some 11, .move (.tmp 0), none⟩,
  ⟨some 12, .nilCheck (.tmp 11), none⟩,
  ⟨some 13, .fieldAddr 72 (.tmp 12) 1, none⟩,
  ⟨some 14, .load 70 (.tmp 13), none⟩,
  ⟨some 15, .fieldAddr 24 (.tmp 3) 2, none⟩,
  ⟨some 16, .load 3 (.tmp 15), none⟩,
  ⟨some 17, .lookup 70 (.tmp 14) (.tmp 16) true, none⟩,
  ⟨some 10, .move (.tmp 17), none⟩,
  ⟨some 18, .extract (.tmp 10) 0, none⟩,
  ⟨some 19, .extract (.tmp 10) 1, none⟩]
def r64_3 : List POp := [
  ⟨none, .store 24 (.tmp 5) (.tmp 18), none⟩,
  ⟨some 6, .assign (.tmp 19), none⟩]
noncomputable def d64_0 : Array Oper := match Tryd.f64.body.map (comp E Tryd.f64.ntmps) with | some p => p.draws.getD 0 #[] | none => #[]
theorem draw64_0 : DrawMk E 24 d64_0 13 r64_2 10 (some 5) (.alloc 24) r64_3 [(.tmp 13), (.tmp 15), (.tmp 14)] := drawMk_of (by kernel_rfl) (by kernel_rfl) (by kernel_rfl) (by kernel_rfl) (by kernel_rfl)
def r64_4 : List POp := [
  ⟨some 20, .move (.tmp 6), none⟩,
  ⟨some 21, .unOp .not 4 (.tmp 20), none⟩]
def r64_5 : List POp := [
  ⟨some 22, .load 24 (.tmp 5), none⟩,
  ⟨none, .store 24 (.tmp 3) (.tmp 22), none⟩]
noncomputable def b64_6 : PC := (.seq (.seq (.reg r64_1) (.cond (.tmp 9) .skip (.exit 0))) (.block 1 (.seq (.draw d64_0) (.seq (.seq (.reg r64_4) (.cond (.tmp 21) (.exit 0) .skip)) (.reg r64_5)))))
def r64_7 : List POp := [
  ⟨some 23, .load 24 (.tmp 3), none⟩,
  ⟨none, .store 24 (.tmp 4) (.tmp 23), none⟩]
noncomputable def p64 : PC := (.seq (.reg r64_0) (.seq (.block 0 (.loop b64_6)) (.seq (.reg r64_7) .ret)))
theorem comp64 : (Tryd.f64.body.map (comp E Tryd.f64.ntmps)) = some p64 := by kernel_rfl
theorem ev64 {args : List AV} {S : St} {P : AV → St → Prop} (hn : Nat.ble args.length 24 = true) (h : EndsA E 24 [.c p64] .nrm (initTm 0 args .leaf) S (RetQ E [.cell 4 24] P)) : ∃ r S', EvA E 64 args S r S' ∧ P r S' := ev_ends (fn := Tryd.f64) (by kernel_rfl) rfl comp64 (by kernel_rfl) (by kernel_rfl) hn h
end Go.Proofs.YtaacibffjmbfiaaDoor
