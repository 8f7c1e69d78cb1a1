/-
  The compiled code of functions of this seat's program, and facts on its types: written by program (wip/GenPC.lean); the kernel checks each row.
-/
import Derived.Test.YtpahkfadibcdgaaRows
import Derived.Test.YtpahkfadibcdgaaAbs18
set_option linter.unusedSimpArgs false
set_option linter.unusedVariables false
namespace Go.Proofs.Ytpahkfadibcdgaa
open Go.Abs
noncomputable def E : Env := plainEnv Try.prog (fun t d => (Nat.beq t 22 && isDst d 28)) (fun _ _ => none) (fun _ => none)
theorem load2 {tm : PM AV} {S : St} {d : Option Tmp} (x : Operand) : opV E tm d (.load 2 x) S = loadC false 1 (E.ev tm x) S := load_chk 2 false 1 (by kernel_rfl) x
theorem store2 {tm : PM AV} {S : St} {d : Option Tmp} (x y : Operand) : opV E tm d (.store 2 x y) S = storeC 1 (E.ev tm x) (E.ev tm y) S := store_chk (b := false) 2 1 (by kernel_rfl) x y
theorem load3 {tm : PM AV} {S : St} {d : Option Tmp} (x : Operand) : opV E tm d (.load 3 x) S = loadC false 1 (E.ev tm x) S := load_chk 3 false 1 (by kernel_rfl) x
theorem store3 {tm : PM AV} {S : St} {d : Option Tmp} (x y : Operand) : opV E tm d (.store 3 x y) S = storeC 1 (E.ev tm x) (E.ev tm y) S := store_chk (b := false) 3 1 (by kernel_rfl) x y
theorem load4 {tm : PM AV} {S : St} {d : Option Tmp} (x : Operand) : opV E tm d (.load 4 x) S = loadC false 1 (E.ev tm x) S := load_chk 4 false 1 (by kernel_rfl) x
theorem store4 {tm : PM AV} {S : St} {d : Option Tmp} (x y : Operand) : opV E tm d (.store 4 x y) S = storeC 1 (E.ev tm x) (E.ev tm y) S := store_chk (b := false) 4 1 (by kernel_rfl) x y
theorem load5 {tm : PM AV} {S : St} {d : Option Tmp} (x : Operand) : opV E tm d (.load 5 x) S = loadC false 1 (E.ev tm x) S := load_chk 5 false 1 (by kernel_rfl) x
theorem store5 {tm : PM AV} {S : St} {d : Option Tmp} (x y : Operand) : opV E tm d (.store 5 x y) S = storeC 1 (E.ev tm x) (E.ev tm y) S := store_chk (b := false) 5 1 (by kernel_rfl) x y
theorem load6 {tm : PM AV} {S : St} {d : Option Tmp} (x : Operand) : opV E tm d (.load 6 x) S = loadC false 1 (E.ev tm x) S := load_chk 6 false 1 (by kernel_rfl) x
theorem store6 {tm : PM AV} {S : St} {d : Option Tmp} (x y : Operand) : opV E tm d (.store 6 x y) S = storeC 1 (E.ev tm x) (E.ev tm y) S := store_chk (b := false) 6 1 (by kernel_rfl) x y
theorem load7 {tm : PM AV} {S : St} {d : Option Tmp} (x : Operand) : opV E tm d (.load 7 x) S = loadC true 4 (E.ev tm x) S := load_chk 7 true 4 (by kernel_rfl) x
theorem store7 {tm : PM AV} {S : St} {d : Option Tmp} (x y : Operand) : opV E tm d (.store 7 x y) S = storeC 4 (E.ev tm x) (E.ev tm y) S := store_chk (b := true) 7 4 (by kernel_rfl) x y
theorem load8 {tm : PM AV} {S : St} {d : Option Tmp} (x : Operand) : opV E tm d (.load 8 x) S = loadC true 4 (E.ev tm x) S := load_chk 8 true 4 (by kernel_rfl) x
theorem store8 {tm : PM AV} {S : St} {d : Option Tmp} (x y : Operand) : opV E tm d (.store 8 x y) S = storeC 4 (E.ev tm x) (E.ev tm y) S := store_chk (b := true) 8 4 (by kernel_rfl) x y
theorem load9 {tm : PM AV} {S : St} {d : Option Tmp} (x : Operand) : opV E tm d (.load 9 x) S = loadC false 1 (E.ev tm x) S := load_chk 9 false 1 (by kernel_rfl) x
theorem store9 {tm : PM AV} {S : St} {d : Option Tmp} (x y : Operand) : opV E tm d (.store 9 x y) S = storeC 1 (E.ev tm x) (E.ev tm y) S := store_chk (b := false) 9 1 (by kernel_rfl) x y
theorem load10 {tm : PM AV} {S : St} {d : Option Tmp} (x : Operand) : opV E tm d (.load 10 x) S = loadC false 1 (E.ev tm x) S := load_chk 10 false 1 (by kernel_rfl) x
theorem store10 {tm : PM AV} {S : St} {d : Option Tmp} (x y : Operand) : opV E tm d (.store 10 x y) S = storeC 1 (E.ev tm x) (E.ev tm y) S := store_chk (b := false) 10 1 (by kernel_rfl) x y
theorem load11 {tm : PM AV} {S : St} {d : Option Tmp} (x : Operand) : opV E tm d (.load 11 x) S = loadC false 1 (E.ev tm x) S := load_chk 11 false 1 (by kernel_rfl) x
theorem store11 {tm : PM AV} {S : St} {d : Option Tmp} (x y : Operand) : opV E tm d (.store 11 x y) S = storeC 1 (E.ev tm x) (E.ev tm y) S := store_chk (b := false) 11 1 (by kernel_rfl) x y
theorem load12 {tm : PM AV} {S : St} {d : Option Tmp} (x : Operand) : opV E tm d (.load 12 x) S = loadC false 1 (E.ev tm x) S := load_chk 12 false 1 (by kernel_rfl) x
theorem store12 {tm : PM AV} {S : St} {d : Option Tmp} (x y : Operand) : opV E tm d (.store 12 x y) S = storeC 1 (E.ev tm x) (E.ev tm y) S := store_chk (b := false) 12 1 (by kernel_rfl) x y
theorem load13 {tm : PM AV} {S : St} {d : Option Tmp} (x : Operand) : opV E tm d (.load 13 x) S = loadC true 2 (E.ev tm x) S := load_chk 13 true 2 (by kernel_rfl) x
theorem store13 {tm : PM AV} {S : St} {d : Option Tmp} (x y : Operand) : opV E tm d (.store 13 x y) S = storeC 2 (E.ev tm x) (E.ev tm y) S := store_chk (b := true) 13 2 (by kernel_rfl) x y
theorem load14 {tm : PM AV} {S : St} {d : Option Tmp} (x : Operand) : opV E tm d (.load 14 x) S = loadC true 2 (E.ev tm x) S := load_chk 14 true 2 (by kernel_rfl) x
theorem store14 {tm : PM AV} {S : St} {d : Option Tmp} (x y : Operand) : opV E tm d (.store 14 x y) S = storeC 2 (E.ev tm x) (E.ev tm y) S := store_chk (b := true) 14 2 (by kernel_rfl) x y
theorem load15 {tm : PM AV} {S : St} {d : Option Tmp} (x : Operand) : opV E tm d (.load 15 x) S = loadC false 1 (E.ev tm x) S := load_chk 15 false 1 (by kernel_rfl) x
theorem store15 {tm : PM AV} {S : St} {d : Option Tmp} (x y : Operand) : opV E tm d (.store 15 x y) S = storeC 1 (E.ev tm x) (E.ev tm y) S := store_chk (b := false) 15 1 (by kernel_rfl) x y
theorem load16 {tm : PM AV} {S : St} {d : Option Tmp} (x : Operand) : opV E tm d (.load 16 x) S = loadC false 1 (E.ev tm x) S := load_chk 16 false 1 (by kernel_rfl) x
theorem store16 {tm : PM AV} {S : St} {d : Option Tmp} (x y : Operand) : opV E tm d (.store 16 x y) S = storeC 1 (E.ev tm x) (E.ev tm y) S := store_chk (b := false) 16 1 (by kernel_rfl) x y
theorem load17 {tm : PM AV} {S : St} {d : Option Tmp} (x : Operand) : opV E tm d (.load 17 x) S = loadC false 1 (E.ev tm x) S := load_chk 17 false 1 (by kernel_rfl) x
theorem store17 {tm : PM AV} {S : St} {d : Option Tmp} (x y : Operand) : opV E tm d (.store 17 x y) S = storeC 1 (E.ev tm x) (E.ev tm y) S := store_chk (b := false) 17 1 (by kernel_rfl) x y
theorem load18 {tm : PM AV} {S : St} {d : Option Tmp} (x : Operand) : opV E tm d (.load 18 x) S = loadC true 1 (E.ev tm x) S := load_chk 18 true 1 (by kernel_rfl) x
theorem store18 {tm : PM AV} {S : St} {d : Option Tmp} (x y : Operand) : opV E tm d (.store 18 x y) S = storeC 1 (E.ev tm x) (E.ev tm y) S := store_chk (b := true) 18 1 (by kernel_rfl) x y
theorem load19 {tm : PM AV} {S : St} {d : Option Tmp} (x : Operand) : opV E tm d (.load 19 x) S = loadC true 1 (E.ev tm x) S := load_chk 19 true 1 (by kernel_rfl) x
theorem store19 {tm : PM AV} {S : St} {d : Option Tmp} (x y : Operand) : opV E tm d (.store 19 x y) S = storeC 1 (E.ev tm x) (E.ev tm y) S := store_chk (b := true) 19 1 (by kernel_rfl) x y
theorem load21 {tm : PM AV} {S : St} {d : Option Tmp} (x : Operand) : opV E tm d (.load 21 x) S = loadC false 1 (E.ev tm x) S := load_chk 21 false 1 (by kernel_rfl) x
theorem store21 {tm : PM AV} {S : St} {d : Option Tmp} (x y : Operand) : opV E tm d (.store 21 x y) S = storeC 1 (E.ev tm x) (E.ev tm y) S := store_chk (b := false) 21 1 (by kernel_rfl) x y
theorem load22 {tm : PM AV} {S : St} {d : Option Tmp} (x : Operand) : opV E tm d (.load 22 x) S = loadC false 1 (E.ev tm x) S := load_chk 22 false 1 (by kernel_rfl) x
theorem store22 {tm : PM AV} {S : St} {d : Option Tmp} (x y : Operand) : opV E tm d (.store 22 x y) S = storeC 1 (E.ev tm x) (E.ev tm y) S := store_chk (b := false) 22 1 (by kernel_rfl) x y
theorem und22 : E.und 22 = some (.slice 5) := by kernel_rfl
theorem sl22 : slIs E 22 1 = true := by kernel_rfl
theorem el22 : elIs E 22 5 false 1 1 = true := by kernel_rfl
theorem hp22 {k : Nat} (hk : (k == 28) = false) : E.hp 22 (some k) = false := by
  show (Nat.beq 22 22 && isDst (some k) 28) = false
  simpa [isDst] using hk
theorem bs22 {tm : PM AV} {S : St} {k : Nat} (hk : (k == 28) = false) (n : Nat) (ps : Array (Nat × Operand)) : opV E tm (some k) (.buildSlice 22 n ps) S = buildSliceA E 22 n (ps.toList.map fun p => (p.1, E.ev tm p.2)) S := by
  have h1 : isMk E (opOf (some k) (.buildSlice 22 n ps)) = false := hp22 hk
  simp only [opV, evOp, h1, cond_false]; rfl
theorem app22 {tm : PM AV} {S : St} {k : Nat} (hk : (k == 28) = false) (x y : Operand) (t1 : TypeId) : opV E tm (some k) (.call (Call.mk (.builtin .append) #[x, y] #[22, t1])) S = builtinA E false .append [22, t1] [E.ev tm x, E.ev tm y] S := by
  have h : opV E tm (some k) (.call (Call.mk (.builtin .append) #[x, y] #[22, t1])) S = builtinA E (E.hp 22 (some k)) .append [22, t1] [E.ev tm x, E.ev tm y] S := rfl
  rw [h, hp22 hk]
theorem app22m {tm : PM AV} {S : St} (x y : Operand) (t1 : TypeId) : opV E tm (some 28) (.call (Call.mk (.builtin .append) #[x, y] #[22, t1])) S = builtinA E true .append [22, t1] [E.ev tm x, E.ev tm y] S := rfl
theorem index22 {tm : PM AV} {S : St} {d : Option Tmp} (x y : Operand) : opV E tm d (.indexAddr 22 x y) S = idxV 1 (E.ev tm x) (int? (E.ev tm y)) S := index_chk 22 1 (by kernel_rfl) x y
theorem len22 {tm : PM AV} {S : St} {d : Option Tmp} (x : Operand) : opV E tm d (.call (Call.mk (.builtin .len) #[x] #[22])) S = lenV (E.ev tm x) S := op_len (t := 22) (e := 5) (by kernel_rfl) x
theorem load24 {tm : PM AV} {S : St} {d : Option Tmp} (x : Operand) : opV E tm d (.load 24 x) S = loadC false 1 (E.ev tm x) S := load_chk 24 false 1 (by kernel_rfl) x
theorem store24 {tm : PM AV} {S : St} {d : Option Tmp} (x y : Operand) : opV E tm d (.store 24 x y) S = storeC 1 (E.ev tm x) (E.ev tm y) S := store_chk (b := false) 24 1 (by kernel_rfl) x y
theorem load27 {tm : PM AV} {S : St} {d : Option Tmp} (x : Operand) : opV E tm d (.load 27 x) S = loadC false 1 (E.ev tm x) S := load_chk 27 false 1 (by kernel_rfl) x
theorem store27 {tm : PM AV} {S : St} {d : Option Tmp} (x y : Operand) : opV E tm d (.store 27 x y) S = storeC 1 (E.ev tm x) (E.ev tm y) S := store_chk (b := false) 27 1 (by kernel_rfl) x y
theorem load30 {tm : PM AV} {S : St} {d : Option Tmp} (x : Operand) : opV E tm d (.load 30 x) S = loadC true 3 (E.ev tm x) S := load_chk 30 true 3 (by kernel_rfl) x
theorem store30 {tm : PM AV} {S : St} {d : Option Tmp} (x y : Operand) : opV E tm d (.store 30 x y) S = storeC 3 (E.ev tm x) (E.ev tm y) S := store_chk (b := true) 30 3 (by kernel_rfl) x y
theorem load31 {tm : PM AV} {S : St} {d : Option Tmp} (x : Operand) : opV E tm d (.load 31 x) S = loadC true 3 (E.ev tm x) S := load_chk 31 true 3 (by kernel_rfl) x
theorem store31 {tm : PM AV} {S : St} {d : Option Tmp} (x y : Operand) : opV E tm d (.store 31 x y) S = storeC 3 (E.ev tm x) (E.ev tm y) S := store_chk (b := true) 31 3 (by kernel_rfl) x y
theorem load34 {tm : PM AV} {S : St} {d : Option Tmp} (x : Operand) : opV E tm d (.load 34 x) S = loadC false 1 (E.ev tm x) S := load_chk 34 false 1 (by kernel_rfl) x
theorem store34 {tm : PM AV} {S : St} {d : Option Tmp} (x y : Operand) : opV E tm d (.store 34 x y) S = storeC 1 (E.ev tm x) (E.ev tm y) S := store_chk (b := false) 34 1 (by kernel_rfl) x y
theorem und34 : E.und 34 = some (.slice 31) := by kernel_rfl
theorem sl34 : slIs E 34 3 = true := by kernel_rfl
theorem el34 : elIs E 34 31 true 3 24 = true := by kernel_rfl
theorem bs34 {tm : PM AV} {S : St} {d : Option Tmp} (n : Nat) (ps : Array (Nat × Operand)) : opV E tm d (.buildSlice 34 n ps) S = buildSliceA E 34 n (ps.toList.map fun p => (p.1, E.ev tm p.2)) S := rfl
theorem app34 {tm : PM AV} {S : St} {d : Option Tmp} (x y : Operand) (t1 : TypeId) : opV E tm d (.call (Call.mk (.builtin .append) #[x, y] #[34, t1])) S = builtinA E false .append [34, t1] [E.ev tm x, E.ev tm y] S := rfl
theorem index34 {tm : PM AV} {S : St} {d : Option Tmp} (x y : Operand) : opV E tm d (.indexAddr 34 x y) S = idxV 3 (E.ev tm x) (int? (E.ev tm y)) S := index_chk 34 3 (by kernel_rfl) x y
theorem len34 {tm : PM AV} {S : St} {d : Option Tmp} (x : Operand) : opV E tm d (.call (Call.mk (.builtin .len) #[x] #[34])) S = lenV (E.ev tm x) S := op_len (t := 34) (e := 31) (by kernel_rfl) x
theorem load40 {tm : PM AV} {S : St} {d : Option Tmp} (x : Operand) : opV E tm d (.load 40 x) S = loadC true 3 (E.ev tm x) S := load_chk 40 true 3 (by kernel_rfl) x
theorem store40 {tm : PM AV} {S : St} {d : Option Tmp} (x y : Operand) : opV E tm d (.store 40 x y) S = storeC 3 (E.ev tm x) (E.ev tm y) S := store_chk (b := true) 40 3 (by kernel_rfl) x y
theorem load47 {tm : PM AV} {S : St} {d : Option Tmp} (x : Operand) : opV E tm d (.load 47 x) S = loadC false 1 (E.ev tm x) S := load_chk 47 false 1 (by kernel_rfl) x
theorem store47 {tm : PM AV} {S : St} {d : Option Tmp} (x y : Operand) : opV E tm d (.store 47 x y) S = storeC 1 (E.ev tm x) (E.ev tm y) S := store_chk (b := false) 47 1 (by kernel_rfl) x y
theorem load51 {tm : PM AV} {S : St} {d : Option Tmp} (x : Operand) : opV E tm d (.load 51 x) S = loadC false 1 (E.ev tm x) S := load_chk 51 false 1 (by kernel_rfl) x
theorem store51 {tm : PM AV} {S : St} {d : Option Tmp} (x y : Operand) : opV E tm d (.store 51 x y) S = storeC 1 (E.ev tm x) (E.ev tm y) S := store_chk (b := false) 51 1 (by kernel_rfl) x y
theorem und51 : E.und 51 = some (.slice 22) := by kernel_rfl
theorem sl51 : slIs E 51 1 = true := by kernel_rfl
theorem el51 : elIs E 51 22 false 1 24 = true := by kernel_rfl
theorem bs51 {tm : PM AV} {S : St} {d : Option Tmp} (n : Nat) (ps : Array (Nat × Operand)) : opV E tm d (.buildSlice 51 n ps) S = buildSliceA E 51 n (ps.toList.map fun p => (p.1, E.ev tm p.2)) S := rfl
theorem app51 {tm : PM AV} {S : St} {d : Option Tmp} (x y : Operand) (t1 : TypeId) : opV E tm d (.call (Call.mk (.builtin .append) #[x, y] #[51, t1])) S = builtinA E false .append [51, t1] [E.ev tm x, E.ev tm y] S := rfl
theorem index51 {tm : PM AV} {S : St} {d : Option Tmp} (x y : Operand) : opV E tm d (.indexAddr 51 x y) S = idxV 1 (E.ev tm x) (int? (E.ev tm y)) S := index_chk 51 1 (by kernel_rfl) x y
theorem len51 {tm : PM AV} {S : St} {d : Option Tmp} (x : Operand) : opV E tm d (.call (Call.mk (.builtin .len) #[x] #[51])) S = lenV (E.ev tm x) S := op_len (t := 51) (e := 22) (by kernel_rfl) x
theorem load58 {tm : PM AV} {S : St} {d : Option Tmp} (x : Operand) : opV E tm d (.load 58 x) S = loadC false 1 (E.ev tm x) S := load_chk 58 false 1 (by kernel_rfl) x
theorem store58 {tm : PM AV} {S : St} {d : Option Tmp} (x y : Operand) : opV E tm d (.store 58 x y) S = storeC 1 (E.ev tm x) (E.ev tm y) S := store_chk (b := false) 58 1 (by kernel_rfl) x y
theorem load59 {tm : PM AV} {S : St} {d : Option Tmp} (x : Operand) : opV E tm d (.load 59 x) S = loadC true 2 (E.ev tm x) S := load_chk 59 true 2 (by kernel_rfl) x
theorem store59 {tm : PM AV} {S : St} {d : Option Tmp} (x y : Operand) : opV E tm d (.store 59 x y) S = storeC 2 (E.ev tm x) (E.ev tm y) S := store_chk (b := true) 59 2 (by kernel_rfl) x y
theorem load60 {tm : PM AV} {S : St} {d : Option Tmp} (x : Operand) : opV E tm d (.load 60 x) S = loadC false 1 (E.ev tm x) S := load_chk 60 false 1 (by kernel_rfl) x
theorem store60 {tm : PM AV} {S : St} {d : Option Tmp} (x y : Operand) : opV E tm d (.store 60 x y) S = storeC 1 (E.ev tm x) (E.ev tm y) S := store_chk (b := false) 60 1 (by kernel_rfl) x y
theorem und60 : E.und 60 = some (.slice 59) := by kernel_rfl
theorem sl60 : slIs E 60 2 = true := by kernel_rfl
theorem el60 : elIs E 60 59 true 2 16 = true := by kernel_rfl
theorem bs60 {tm : PM AV} {S : St} {d : Option Tmp} (n : Nat) (ps : Array (Nat × Operand)) : opV E tm d (.buildSlice 60 n ps) S = buildSliceA E 60 n (ps.toList.map fun p => (p.1, E.ev tm p.2)) S := rfl
theorem app60 {tm : PM AV} {S : St} {d : Option Tmp} (x y : Operand) (t1 : TypeId) : opV E tm d (.call (Call.mk (.builtin .append) #[x, y] #[60, t1])) S = builtinA E false .append [60, t1] [E.ev tm x, E.ev tm y] S := rfl
theorem index60 {tm : PM AV} {S : St} {d : Option Tmp} (x y : Operand) : opV E tm d (.indexAddr 60 x y) S = idxV 2 (E.ev tm x) (int? (E.ev tm y)) S := index_chk 60 2 (by kernel_rfl) x y
theorem len60 {tm : PM AV} {S : St} {d : Option Tmp} (x : Operand) : opV E tm d (.call (Call.mk (.builtin .len) #[x] #[60])) S = lenV (E.ev tm x) S := op_len (t := 60) (e := 59) (by kernel_rfl) x
theorem load67 {tm : PM AV} {S : St} {d : Option Tmp} (x : Operand) : opV E tm d (.load 67 x) S = loadC false 1 (E.ev tm x) S := load_chk 67 false 1 (by kernel_rfl) x
theorem store67 {tm : PM AV} {S : St} {d : Option Tmp} (x y : Operand) : opV E tm d (.store 67 x y) S = storeC 1 (E.ev tm x) (E.ev tm y) S := store_chk (b := false) 67 1 (by kernel_rfl) x y
theorem load69 {tm : PM AV} {S : St} {d : Option Tmp} (x : Operand) : opV E tm d (.load 69 x) S = loadC true 2 (E.ev tm x) S := load_chk 69 true 2 (by kernel_rfl) x
theorem store69 {tm : PM AV} {S : St} {d : Option Tmp} (x y : Operand) : opV E tm d (.store 69 x y) S = storeC 2 (E.ev tm x) (E.ev tm y) S := store_chk (b := true) 69 2 (by kernel_rfl) x y
theorem load70 {tm : PM AV} {S : St} {d : Option Tmp} (x : Operand) : opV E tm d (.load 70 x) S = loadC false 1 (E.ev tm x) S := load_chk 70 false 1 (by kernel_rfl) x
theorem store70 {tm : PM AV} {S : St} {d : Option Tmp} (x y : Operand) : opV E tm d (.store 70 x y) S = storeC 1 (E.ev tm x) (E.ev tm y) S := store_chk (b := false) 70 1 (by kernel_rfl) x y
theorem und70 : E.und 70 = some (.slice 69) := by kernel_rfl
theorem sl70 : slIs E 70 2 = true := by kernel_rfl
theorem el70 : elIs E 70 69 true 2 16 = true := by kernel_rfl
theorem bs70 {tm : PM AV} {S : St} {d : Option Tmp} (n : Nat) (ps : Array (Nat × Operand)) : opV E tm d (.buildSlice 70 n ps) S = buildSliceA E 70 n (ps.toList.map fun p => (p.1, E.ev tm p.2)) S := rfl
theorem app70 {tm : PM AV} {S : St} {d : Option Tmp} (x y : Operand) (t1 : TypeId) : opV E tm d (.call (Call.mk (.builtin .append) #[x, y] #[70, t1])) S = builtinA E false .append [70, t1] [E.ev tm x, E.ev tm y] S := rfl
theorem index70 {tm : PM AV} {S : St} {d : Option Tmp} (x y : Operand) : opV E tm d (.indexAddr 70 x y) S = idxV 2 (E.ev tm x) (int? (E.ev tm y)) S := index_chk 70 2 (by kernel_rfl) x y
theorem len70 {tm : PM AV} {S : St} {d : Option Tmp} (x : Operand) : opV E tm d (.call (Call.mk (.builtin .len) #[x] #[70])) S = lenV (E.ev tm x) S := op_len (t := 70) (e := 69) (by kernel_rfl) x
theorem load76 {tm : PM AV} {S : St} {d : Option Tmp} (x : Operand) : opV E tm d (.load 76 x) S = loadC true 4 (E.ev tm x) S := load_chk 76 true 4 (by kernel_rfl) x
theorem store76 {tm : PM AV} {S : St} {d : Option Tmp} (x y : Operand) : opV E tm d (.store 76 x y) S = storeC 4 (E.ev tm x) (E.ev tm y) S := store_chk (b := true) 76 4 (by kernel_rfl) x y
theorem load77 {tm : PM AV} {S : St} {d : Option Tmp} (x : Operand) : opV E tm d (.load 77 x) S = loadC true 4 (E.ev tm x) S := load_chk 77 true 4 (by kernel_rfl) x
theorem store77 {tm : PM AV} {S : St} {d : Option Tmp} (x y : Operand) : opV E tm d (.store 77 x y) S = storeC 4 (E.ev tm x) (E.ev tm y) S := store_chk (b := true) 77 4 (by kernel_rfl) x y
theorem load78 {tm : PM AV} {S : St} {d : Option Tmp} (x : Operand) : opV E tm d (.load 78 x) S = loadC true 0 (E.ev tm x) S := load_chk 78 true 0 (by kernel_rfl) x
theorem store78 {tm : PM AV} {S : St} {d : Option Tmp} (x y : Operand) : opV E tm d (.store 78 x y) S = storeC 0 (E.ev tm x) (E.ev tm y) S := store_chk (b := true) 78 0 (by kernel_rfl) x y
theorem load79 {tm : PM AV} {S : St} {d : Option Tmp} (x : Operand) : opV E tm d (.load 79 x) S = loadC true 0 (E.ev tm x) S := load_chk 79 true 0 (by kernel_rfl) x
theorem store79 {tm : PM AV} {S : St} {d : Option Tmp} (x y : Operand) : opV E tm d (.store 79 x y) S = storeC 0 (E.ev tm x) (E.ev tm y) S := store_chk (b := true) 79 0 (by kernel_rfl) x y
theorem load80 {tm : PM AV} {S : St} {d : Option Tmp} (x : Operand) : opV E tm d (.load 80 x) S = loadC true 0 (E.ev tm x) S := load_chk 80 true 0 (by kernel_rfl) x
theorem store80 {tm : PM AV} {S : St} {d : Option Tmp} (x y : Operand) : opV E tm d (.store 80 x y) S = storeC 0 (E.ev tm x) (E.ev tm y) S := store_chk (b := true) 80 0 (by kernel_rfl) x y
theorem load82 {tm : PM AV} {S : St} {d : Option Tmp} (x : Operand) : opV E tm d (.load 82 x) S = loadC false 1 (E.ev tm x) S := load_chk 82 false 1 (by kernel_rfl) x
theorem store82 {tm : PM AV} {S : St} {d : Option Tmp} (x y : Operand) : opV E tm d (.store 82 x y) S = storeC 1 (E.ev tm x) (E.ev tm y) S := store_chk (b := false) 82 1 (by kernel_rfl) x y
theorem load83 {tm : PM AV} {S : St} {d : Option Tmp} (x : Operand) : opV E tm d (.load 83 x) S = loadC false 1 (E.ev tm x) S := load_chk 83 false 1 (by kernel_rfl) x
theorem store83 {tm : PM AV} {S : St} {d : Option Tmp} (x y : Operand) : opV E tm d (.store 83 x y) S = storeC 1 (E.ev tm x) (E.ev tm y) S := store_chk (b := false) 83 1 (by kernel_rfl) x y
theorem load84 {tm : PM AV} {S : St} {d : Option Tmp} (x : Operand) : opV E tm d (.load 84 x) S = loadC false 1 (E.ev tm x) S := load_chk 84 false 1 (by kernel_rfl) x
theorem store84 {tm : PM AV} {S : St} {d : Option Tmp} (x y : Operand) : opV E tm d (.store 84 x y) S = storeC 1 (E.ev tm x) (E.ev tm y) S := store_chk (b := false) 84 1 (by kernel_rfl) x y
theorem load86 {tm : PM AV} {S : St} {d : Option Tmp} (x : Operand) : opV E tm d (.load 86 x) S = loadC false 1 (E.ev tm x) S := load_chk 86 false 1 (by kernel_rfl) x
theorem store86 {tm : PM AV} {S : St} {d : Option Tmp} (x y : Operand) : opV E tm d (.store 86 x y) S = storeC 1 (E.ev tm x) (E.ev tm y) S := store_chk (b := false) 86 1 (by kernel_rfl) x y
theorem load87 {tm : PM AV} {S : St} {d : Option Tmp} (x : Operand) : opV E tm d (.load 87 x) S = loadC false 1 (E.ev tm x) S := load_chk 87 false 1 (by kernel_rfl) x
theorem store87 {tm : PM AV} {S : St} {d : Option Tmp} (x y : Operand) : opV E tm d (.store 87 x y) S = storeC 1 (E.ev tm x) (E.ev tm y) S := store_chk (b := false) 87 1 (by kernel_rfl) x y
theorem load88 {tm : PM AV} {S : St} {d : Option Tmp} (x : Operand) : opV E tm d (.load 88 x) S = loadC false 1 (E.ev tm x) S := load_chk 88 false 1 (by kernel_rfl) x
theorem store88 {tm : PM AV} {S : St} {d : Option Tmp} (x y : Operand) : opV E tm d (.store 88 x y) S = storeC 1 (E.ev tm x) (E.ev tm y) S := store_chk (b := false) 88 1 (by kernel_rfl) x y
theorem load89 {tm : PM AV} {S : St} {d : Option Tmp} (x : Operand) : opV E tm d (.load 89 x) S = loadC true 11 (E.ev tm x) S := load_chk 89 true 11 (by kernel_rfl) x
theorem store89 {tm : PM AV} {S : St} {d : Option Tmp} (x y : Operand) : opV E tm d (.store 89 x y) S = storeC 11 (E.ev tm x) (E.ev tm y) S := store_chk (b := true) 89 11 (by kernel_rfl) x y
theorem load90 {tm : PM AV} {S : St} {d : Option Tmp} (x : Operand) : opV E tm d (.load 90 x) S = loadC true 11 (E.ev tm x) S := load_chk 90 true 11 (by kernel_rfl) x
theorem store90 {tm : PM AV} {S : St} {d : Option Tmp} (x y : Operand) : opV E tm d (.store 90 x y) S = storeC 11 (E.ev tm x) (E.ev tm y) S := store_chk (b := true) 90 11 (by kernel_rfl) x y
theorem conv2_27 {S : St} (mu : Bool) (n : Int) : convertA E mu 2 27 (.sc (.int .i64 n)) S = some (.sc (.int .u64 (IntKind.wrap .u64 n)), S) := conv_chk 2 27 .i64 .u64 n (by kernel_rfl) (by kernel_rfl)
theorem conv3_5 {S : St} (mu : Bool) (n : Int) : convertA E mu 3 5 (.sc (.int .i64 n)) S = some (.sc (.int .u8 (IntKind.wrap .u8 n)), S) := conv_chk 3 5 .i64 .u8 n (by kernel_rfl) (by kernel_rfl)
theorem conv3_27 {S : St} (mu : Bool) (n : Int) : convertA E mu 3 27 (.sc (.int .i64 n)) S = some (.sc (.int .u64 (IntKind.wrap .u64 n)), S) := conv_chk 3 27 .i64 .u64 n (by kernel_rfl) (by kernel_rfl)
theorem conv3_67 {S : St} (mu : Bool) (n : Int) : convertA E mu 3 67 (.sc (.int .i64 n)) S = some (.sc (.int .u64 (IntKind.wrap .u64 n)), S) := conv_chk 3 67 .i64 .u64 n (by kernel_rfl) (by kernel_rfl)
theorem conv5_3 {S : St} (mu : Bool) (n : Int) : convertA E mu 5 3 (.sc (.int .u8 n)) S = some (.sc (.int .i64 (IntKind.wrap .i64 n)), S) := conv_chk 5 3 .u8 .i64 n (by kernel_rfl) (by kernel_rfl)
theorem conv5_27 {S : St} (mu : Bool) (n : Int) : convertA E mu 5 27 (.sc (.int .u8 n)) S = some (.sc (.int .u64 (IntKind.wrap .u64 n)), S) := conv_chk 5 27 .u8 .u64 n (by kernel_rfl) (by kernel_rfl)
theorem conv27_2 {S : St} (mu : Bool) (n : Int) : convertA E mu 27 2 (.sc (.int .u64 n)) S = some (.sc (.int .i64 (IntKind.wrap .i64 n)), S) := conv_chk 27 2 .u64 .i64 n (by kernel_rfl) (by kernel_rfl)
theorem conv27_3 {S : St} (mu : Bool) (n : Int) : convertA E mu 27 3 (.sc (.int .u64 n)) S = some (.sc (.int .i64 (IntKind.wrap .i64 n)), S) := conv_chk 27 3 .u64 .i64 n (by kernel_rfl) (by kernel_rfl)
theorem conv27_5 {S : St} (mu : Bool) (n : Int) : convertA E mu 27 5 (.sc (.int .u64 n)) S = some (.sc (.int .u8 (IntKind.wrap .u8 n)), S) := conv_chk 27 5 .u64 .u8 n (by kernel_rfl) (by kernel_rfl)
theorem call3 {nt : Nat} {k : List KI} {tm : PM AV} {S : St} {Q : PostA} (d : Option Tmp) (xs : Array Operand) (ats : Array TypeId) (r : List POp) : EndsA E nt (.c (.reg (⟨d, .call (Call.mk (.value (.func 3)) xs ats), none⟩ :: r)) :: k) .nrm tm S Q = CallK E nt 3 (xs.toList.map (E.ev tm)) d r k tm S Q := e_call d 3 xs ats r rfl
theorem call4 {nt : Nat} {k : List KI} {tm : PM AV} {S : St} {Q : PostA} (d : Option Tmp) (xs : Array Operand) (ats : Array TypeId) (r : List POp) : EndsA E nt (.c (.reg (⟨d, .call (Call.mk (.value (.func 4)) xs ats), none⟩ :: r)) :: k) .nrm tm S Q = CallK E nt 4 (xs.toList.map (E.ev tm)) d r k tm S Q := e_call d 4 xs ats r rfl
theorem call5 {nt : Nat} {k : List KI} {tm : PM AV} {S : St} {Q : PostA} (d : Option Tmp) (xs : Array Operand) (ats : Array TypeId) (r : List POp) : EndsA E nt (.c (.reg (⟨d, .call (Call.mk (.value (.func 5)) xs ats), none⟩ :: r)) :: k) .nrm tm S Q = CallK E nt 5 (xs.toList.map (E.ev tm)) d r k tm S Q := e_call d 5 xs ats r rfl
theorem call6 {nt : Nat} {k : List KI} {tm : PM AV} {S : St} {Q : PostA} (d : Option Tmp) (xs : Array Operand) (ats : Array TypeId) (r : List POp) : EndsA E nt (.c (.reg (⟨d, .call (Call.mk (.value (.func 6)) xs ats), none⟩ :: r)) :: k) .nrm tm S Q = CallK E nt 6 (xs.toList.map (E.ev tm)) d r k tm S Q := e_call d 6 xs ats r rfl
theorem call7 {nt : Nat} {k : List KI} {tm : PM AV} {S : St} {Q : PostA} (d : Option Tmp) (xs : Array Operand) (ats : Array TypeId) (r : List POp) : EndsA E nt (.c (.reg (⟨d, .call (Call.mk (.value (.func 7)) xs ats), none⟩ :: r)) :: k) .nrm tm S Q = CallK E nt 7 (xs.toList.map (E.ev tm)) d r k tm S Q := e_call d 7 xs ats r rfl
theorem call8 {nt : Nat} {k : List KI} {tm : PM AV} {S : St} {Q : PostA} (d : Option Tmp) (xs : Array Operand) (ats : Array TypeId) (r : List POp) : EndsA E nt (.c (.reg (⟨d, .call (Call.mk (.value (.func 8)) xs ats), none⟩ :: r)) :: k) .nrm tm S Q = CallK E nt 8 (xs.toList.map (E.ev tm)) d r k tm S Q := e_call d 8 xs ats r rfl
theorem call9 {nt : Nat} {k : List KI} {tm : PM AV} {S : St} {Q : PostA} (d : Option Tmp) (xs : Array Operand) (ats : Array TypeId) (r : List POp) : EndsA E nt (.c (.reg (⟨d, .call (Call.mk (.value (.func 9)) xs ats), none⟩ :: r)) :: k) .nrm tm S Q = CallK E nt 9 (xs.toList.map (E.ev tm)) d r k tm S Q := e_call d 9 xs ats r rfl
theorem call10 {nt : Nat} {k : List KI} {tm : PM AV} {S : St} {Q : PostA} (d : Option Tmp) (xs : Array Operand) (ats : Array TypeId) (r : List POp) : EndsA E nt (.c (.reg (⟨d, .call (Call.mk (.value (.func 10)) xs ats), none⟩ :: r)) :: k) .nrm tm S Q = CallK E nt 10 (xs.toList.map (E.ev tm)) d r k tm S Q := e_call d 10 xs ats r rfl
theorem call11 {nt : Nat} {k : List KI} {tm : PM AV} {S : St} {Q : PostA} (d : Option Tmp) (xs : Array Operand) (ats : Array TypeId) (r : List POp) : EndsA E nt (.c (.reg (⟨d, .call (Call.mk (.value (.func 11)) xs ats), none⟩ :: r)) :: k) .nrm tm S Q = CallK E nt 11 (xs.toList.map (E.ev tm)) d r k tm S Q := e_call d 11 xs ats r rfl
theorem call12 {nt : Nat} {k : List KI} {tm : PM AV} {S : St} {Q : PostA} (d : Option Tmp) (xs : Array Operand) (ats : Array TypeId) (r : List POp) : EndsA E nt (.c (.reg (⟨d, .call (Call.mk (.value (.func 12)) xs ats), none⟩ :: r)) :: k) .nrm tm S Q = CallK E nt 12 (xs.toList.map (E.ev tm)) d r k tm S Q := e_call d 12 xs ats r rfl
theorem call13 {nt : Nat} {k : List KI} {tm : PM AV} {S : St} {Q : PostA} (d : Option Tmp) (xs : Array Operand) (ats : Array TypeId) (r : List POp) : EndsA E nt (.c (.reg (⟨d, .call (Call.mk (.value (.func 13)) xs ats), none⟩ :: r)) :: k) .nrm tm S Q = CallK E nt 13 (xs.toList.map (E.ev tm)) d r k tm S Q := e_call d 13 xs ats r rfl
theorem call14 {nt : Nat} {k : List KI} {tm : PM AV} {S : St} {Q : PostA} (d : Option Tmp) (xs : Array Operand) (ats : Array TypeId) (r : List POp) : EndsA E nt (.c (.reg (⟨d, .call (Call.mk (.value (.func 14)) xs ats), none⟩ :: r)) :: k) .nrm tm S Q = CallK E nt 14 (xs.toList.map (E.ev tm)) d r k tm S Q := e_call d 14 xs ats r rfl
theorem call15 {nt : Nat} {k : List KI} {tm : PM AV} {S : St} {Q : PostA} (d : Option Tmp) (xs : Array Operand) (ats : Array TypeId) (r : List POp) : EndsA E nt (.c (.reg (⟨d, .call (Call.mk (.value (.func 15)) xs ats), none⟩ :: r)) :: k) .nrm tm S Q = CallK E nt 15 (xs.toList.map (E.ev tm)) d r k tm S Q := e_call d 15 xs ats r rfl
theorem call16 {nt : Nat} {k : List KI} {tm : PM AV} {S : St} {Q : PostA} (d : Option Tmp) (xs : Array Operand) (ats : Array TypeId) (r : List POp) : EndsA E nt (.c (.reg (⟨d, .call (Call.mk (.value (.func 16)) xs ats), none⟩ :: r)) :: k) .nrm tm S Q = CallK E nt 16 (xs.toList.map (E.ev tm)) d r k tm S Q := e_call d 16 xs ats r rfl
theorem call17 {nt : Nat} {k : List KI} {tm : PM AV} {S : St} {Q : PostA} (d : Option Tmp) (xs : Array Operand) (ats : Array TypeId) (r : List POp) : EndsA E nt (.c (.reg (⟨d, .call (Call.mk (.value (.func 17)) xs ats), none⟩ :: r)) :: k) .nrm tm S Q = CallK E nt 17 (xs.toList.map (E.ev tm)) d r k tm S Q := e_call d 17 xs ats r rfl
theorem call18 {nt : Nat} {k : List KI} {tm : PM AV} {S : St} {Q : PostA} (d : Option Tmp) (xs : Array Operand) (ats : Array TypeId) (r : List POp) : EndsA E nt (.c (.reg (⟨d, .call (Call.mk (.value (.func 18)) xs ats), none⟩ :: r)) :: k) .nrm tm S Q = CallK E nt 18 (xs.toList.map (E.ev tm)) d r k tm S Q := e_call d 18 xs ats r rfl
theorem call19 {nt : Nat} {k : List KI} {tm : PM AV} {S : St} {Q : PostA} (d : Option Tmp) (xs : Array Operand) (ats : Array TypeId) (r : List POp) : EndsA E nt (.c (.reg (⟨d, .call (Call.mk (.value (.func 19)) xs ats), none⟩ :: r)) :: k) .nrm tm S Q = CallK E nt 19 (xs.toList.map (E.ev tm)) d r k tm S Q := e_call d 19 xs ats r rfl
theorem call20 {nt : Nat} {k : List KI} {tm : PM AV} {S : St} {Q : PostA} (d : Option Tmp) (xs : Array Operand) (ats : Array TypeId) (r : List POp) : EndsA E nt (.c (.reg (⟨d, .call (Call.mk (.value (.func 20)) xs ats), none⟩ :: r)) :: k) .nrm tm S Q = CallK E nt 20 (xs.toList.map (E.ev tm)) d r k tm S Q := e_call d 20 xs ats r rfl
theorem call21 {nt : Nat} {k : List KI} {tm : PM AV} {S : St} {Q : PostA} (d : Option Tmp) (xs : Array Operand) (ats : Array TypeId) (r : List POp) : EndsA E nt (.c (.reg (⟨d, .call (Call.mk (.value (.func 21)) xs ats), none⟩ :: r)) :: k) .nrm tm S Q = CallK E nt 21 (xs.toList.map (E.ev tm)) d r k tm S Q := e_call d 21 xs ats r rfl
theorem call22 {nt : Nat} {k : List KI} {tm : PM AV} {S : St} {Q : PostA} (d : Option Tmp) (xs : Array Operand) (ats : Array TypeId) (r : List POp) : EndsA E nt (.c (.reg (⟨d, .call (Call.mk (.value (.func 22)) xs ats), none⟩ :: r)) :: k) .nrm tm S Q = CallK E nt 22 (xs.toList.map (E.ev tm)) d r k tm S Q := e_call d 22 xs ats r rfl
theorem call23 {nt : Nat} {k : List KI} {tm : PM AV} {S : St} {Q : PostA} (d : Option Tmp) (xs : Array Operand) (ats : Array TypeId) (r : List POp) : EndsA E nt (.c (.reg (⟨d, .call (Call.mk (.value (.func 23)) xs ats), none⟩ :: r)) :: k) .nrm tm S Q = CallK E nt 23 (xs.toList.map (E.ev tm)) d r k tm S Q := e_call d 23 xs ats r rfl
theorem call24 {nt : Nat} {k : List KI} {tm : PM AV} {S : St} {Q : PostA} (d : Option Tmp) (xs : Array Operand) (ats : Array TypeId) (r : List POp) : EndsA E nt (.c (.reg (⟨d, .call (Call.mk (.value (.func 24)) xs ats), none⟩ :: r)) :: k) .nrm tm S Q = CallK E nt 24 (xs.toList.map (E.ev tm)) d r k tm S Q := e_call d 24 xs ats r rfl
theorem call25 {nt : Nat} {k : List KI} {tm : PM AV} {S : St} {Q : PostA} (d : Option Tmp) (xs : Array Operand) (ats : Array TypeId) (r : List POp) : EndsA E nt (.c (.reg (⟨d, .call (Call.mk (.value (.func 25)) xs ats), none⟩ :: r)) :: k) .nrm tm S Q = CallK E nt 25 (xs.toList.map (E.ev tm)) d r k tm S Q := e_call d 25 xs ats r rfl
theorem call26 {nt : Nat} {k : List KI} {tm : PM AV} {S : St} {Q : PostA} (d : Option Tmp) (xs : Array Operand) (ats : Array TypeId) (r : List POp) : EndsA E nt (.c (.reg (⟨d, .call (Call.mk (.value (.func 26)) xs ats), none⟩ :: r)) :: k) .nrm tm S Q = CallK E nt 26 (xs.toList.map (E.ev tm)) d r k tm S Q := e_call d 26 xs ats r rfl
theorem call27 {nt : Nat} {k : List KI} {tm : PM AV} {S : St} {Q : PostA} (d : Option Tmp) (xs : Array Operand) (ats : Array TypeId) (r : List POp) : EndsA E nt (.c (.reg (⟨d, .call (Call.mk (.value (.func 27)) xs ats), none⟩ :: r)) :: k) .nrm tm S Q = CallK E nt 27 (xs.toList.map (E.ev tm)) d r k tm S Q := e_call d 27 xs ats r rfl
theorem call28 {nt : Nat} {k : List KI} {tm : PM AV} {S : St} {Q : PostA} (d : Option Tmp) (xs : Array Operand) (ats : Array TypeId) (r : List POp) : EndsA E nt (.c (.reg (⟨d, .call (Call.mk (.value (.func 28)) xs ats), none⟩ :: r)) :: k) .nrm tm S Q = CallK E nt 28 (xs.toList.map (E.ev tm)) d r k tm S Q := e_call d 28 xs ats r rfl
theorem call29 {nt : Nat} {k : List KI} {tm : PM AV} {S : St} {Q : PostA} (d : Option Tmp) (xs : Array Operand) (ats : Array TypeId) (r : List POp) : EndsA E nt (.c (.reg (⟨d, .call (Call.mk (.value (.func 29)) xs ats), none⟩ :: r)) :: k) .nrm tm S Q = CallK E nt 29 (xs.toList.map (E.ev tm)) d r k tm S Q := e_call d 29 xs ats r rfl
theorem call30 {nt : Nat} {k : List KI} {tm : PM AV} {S : St} {Q : PostA} (d : Option Tmp) (xs : Array Operand) (ats : Array TypeId) (r : List POp) : EndsA E nt (.c (.reg (⟨d, .call (Call.mk (.value (.func 30)) xs ats), none⟩ :: r)) :: k) .nrm tm S Q = CallK E nt 30 (xs.toList.map (E.ev tm)) d r k tm S Q := e_call d 30 xs ats r rfl
theorem call31 {nt : Nat} {k : List KI} {tm : PM AV} {S : St} {Q : PostA} (d : Option Tmp) (xs : Array Operand) (ats : Array TypeId) (r : List POp) : EndsA E nt (.c (.reg (⟨d, .call (Call.mk (.value (.func 31)) xs ats), none⟩ :: r)) :: k) .nrm tm S Q = CallK E nt 31 (xs.toList.map (E.ev tm)) d r k tm S Q := e_call d 31 xs ats r rfl
theorem call32 {nt : Nat} {k : List KI} {tm : PM AV} {S : St} {Q : PostA} (d : Option Tmp) (xs : Array Operand) (ats : Array TypeId) (r : List POp) : EndsA E nt (.c (.reg (⟨d, .call (Call.mk (.value (.func 32)) xs ats), none⟩ :: r)) :: k) .nrm tm S Q = CallK E nt 32 (xs.toList.map (E.ev tm)) d r k tm S Q := e_call d 32 xs ats r rfl
theorem call33 {nt : Nat} {k : List KI} {tm : PM AV} {S : St} {Q : PostA} (d : Option Tmp) (xs : Array Operand) (ats : Array TypeId) (r : List POp) : EndsA E nt (.c (.reg (⟨d, .call (Call.mk (.value (.func 33)) xs ats), none⟩ :: r)) :: k) .nrm tm S Q = CallK E nt 33 (xs.toList.map (E.ev tm)) d r k tm S Q := e_call d 33 xs ats r rfl
theorem call34 {nt : Nat} {k : List KI} {tm : PM AV} {S : St} {Q : PostA} (d : Option Tmp) (xs : Array Operand) (ats : Array TypeId) (r : List POp) : EndsA E nt (.c (.reg (⟨d, .call (Call.mk (.value (.func 34)) xs ats), none⟩ :: r)) :: k) .nrm tm S Q = CallK E nt 34 (xs.toList.map (E.ev tm)) d r k tm S Q := e_call d 34 xs ats r rfl
theorem call35 {nt : Nat} {k : List KI} {tm : PM AV} {S : St} {Q : PostA} (d : Option Tmp) (xs : Array Operand) (ats : Array TypeId) (r : List POp) : EndsA E nt (.c (.reg (⟨d, .call (Call.mk (.value (.func 35)) xs ats), none⟩ :: r)) :: k) .nrm tm S Q = CallK E nt 35 (xs.toList.map (E.ev tm)) d r k tm S Q := e_call d 35 xs ats r rfl
theorem call36 {nt : Nat} {k : List KI} {tm : PM AV} {S : St} {Q : PostA} (d : Option Tmp) (xs : Array Operand) (ats : Array TypeId) (r : List POp) : EndsA E nt (.c (.reg (⟨d, .call (Call.mk (.value (.func 36)) xs ats), none⟩ :: r)) :: k) .nrm tm S Q = CallK E nt 36 (xs.toList.map (E.ev tm)) d r k tm S Q := e_call d 36 xs ats r rfl
theorem call37 {nt : Nat} {k : List KI} {tm : PM AV} {S : St} {Q : PostA} (d : Option Tmp) (xs : Array Operand) (ats : Array TypeId) (r : List POp) : EndsA E nt (.c (.reg (⟨d, .call (Call.mk (.value (.func 37)) xs ats), none⟩ :: r)) :: k) .nrm tm S Q = CallK E nt 37 (xs.toList.map (E.ev tm)) d r k tm S Q := e_call d 37 xs ats r rfl
theorem call38 {nt : Nat} {k : List KI} {tm : PM AV} {S : St} {Q : PostA} (d : Option Tmp) (xs : Array Operand) (ats : Array TypeId) (r : List POp) : EndsA E nt (.c (.reg (⟨d, .call (Call.mk (.value (.func 38)) xs ats), none⟩ :: r)) :: k) .nrm tm S Q = CallK E nt 38 (xs.toList.map (E.ev tm)) d r k tm S Q := e_call d 38 xs ats r rfl
theorem call39 {nt : Nat} {k : List KI} {tm : PM AV} {S : St} {Q : PostA} (d : Option Tmp) (xs : Array Operand) (ats : Array TypeId) (r : List POp) : EndsA E nt (.c (.reg (⟨d, .call (Call.mk (.value (.func 39)) xs ats), none⟩ :: r)) :: k) .nrm tm S Q = CallK E nt 39 (xs.toList.map (E.ev tm)) d r k tm S Q := e_call d 39 xs ats r rfl
/-! hindsight/snap.Sum -/
def r15_0 : List POp := [
  ⟨some 2, .assign (.const (.int .u64 0)), none⟩]
def r15_1 : List POp := [
  ⟨some 3, .assign (.const (.int .u64 14695981039346656037)), none⟩]
def r15_2 : List POp := [
  ⟨some 6, .move (.tmp 0), none⟩,
  ⟨some 7, .call { callee := .builtin .len, args := #[(.tmp 6)], argTypes := #[22] }, none⟩,
  ⟨some 8, .move (.const (.int .i64 0)), none⟩]
def r15_3 : List POp := [
  ⟨some 9, .binOp .lss 3 (.tmp 8) (.tmp 7) 3, none⟩]
def r15_4 : List POp := [
  ⟨some 10, .indexAddr 22 (.tmp 6) (.tmp 8), none⟩,
  ⟨some 11, .load 5 (.tmp 10), none⟩,
  ⟨some 5, .assign (.tmp 11), none⟩]
def r15_5 : List POp := [
  ⟨some 12, .move (.tmp 3), none⟩,
  ⟨some 13, .move (.tmp 5), none⟩,
  ⟨some 14, .convert 5 27 (.tmp 13), none⟩,
  ⟨some 15, .binOp .xor 27 (.tmp 12) (.tmp 14) 27, none⟩,
  ⟨some 16, .binOp .mul 27 (.tmp 15) (.const (.int .u64 1099511628211)) 27, none⟩,
  ⟨some 3, .assign (.tmp 16), none⟩]
def r15_6 : List POp := [
  ⟨some 17, .binOp .add 3 (.tmp 8) (.const (.int .i64 1)) 3, none⟩,
  ⟨some 8, .move (.tmp 17), none⟩]
def b15_7 : PC := (.seq (.reg r15_3) (.seq (.cond (.tmp 9) .skip (.exit 0)) (.seq (.block 1 (.seq (.reg r15_4) (.reg r15_5))) (.reg r15_6))))
def r15_8 : List POp := [
  ⟨some 18, .move (.tmp 3), none⟩,
  ⟨some 2, .assign (.tmp 18), none⟩]
def p15 : PC := (.seq (.reg r15_0) (.seq (.reg r15_1) (.seq (.seq (.reg r15_2) (.block 0 (.loop b15_7))) (.seq (.reg r15_8) .ret))))
theorem comp15 : (Try.f15.body.map (comp E Try.f15.ntmps)) = some p15 := by kernel_rfl
theorem ev15 {args : List AV} {S : St} {P : AV → St → Prop} (hn : Nat.ble args.length 19 = true) (h : EndsA E 19 [.c p15] .nrm (initTm 0 args .leaf) S (RetQ E [.tmp 2] P)) : ∃ r S', EvA E 15 args S r S' ∧ P r S' := ev_ends (fn := Try.f15) (by kernel_rfl) rfl comp15 (by kernel_rfl) (by kernel_rfl) hn h
/-! hindsight/hindsightref11.Sum -/
def r16_0 : List POp := [
  ⟨some 2, .assign (.const (.int .u64 0)), none⟩]
def r16_1 : List POp := [
  ⟨some 3, .assign (.const (.int .u64 14695981039346656037)), none⟩]
def r16_2 : List POp := [
  ⟨some 4, .assign (.const (.int .i64 0)), none⟩]
def r16_3 : List POp := [
  ⟨some 5, .move (.tmp 4), none⟩,
  ⟨some 6, .move (.tmp 0), none⟩,
  ⟨some 7, .call { callee := .builtin .len, args := #[(.tmp 6)], argTypes := #[22] }, none⟩,
  ⟨some 8, .binOp .lss 3 (.tmp 5) (.tmp 7) 3, none⟩]
def r16_4 : List POp := [
  ⟨some 11, .move (.tmp 3), none⟩,
  ⟨some 12, .move (.tmp 0), none⟩,
  ⟨some 13, .move (.tmp 4), none⟩,
  ⟨some 14, .indexAddr 22 (.tmp 12) (.tmp 13), none⟩,
  ⟨some 15, .load 5 (.tmp 14), none⟩,
  ⟨some 16, .convert 5 27 (.tmp 15), none⟩,
  ⟨some 17, .binOp .xor 27 (.tmp 11) (.tmp 16) 27, none⟩,
  ⟨some 18, .binOp .mul 27 (.tmp 17) (.const (.int .u64 1099511628211)) 27, none⟩,
  ⟨some 3, .assign (.tmp 18), none⟩]
def r16_5 : List POp := [
  ⟨some 9, .move (.tmp 4), none⟩,
  ⟨some 10, .binOp .add 3 (.tmp 9) (.const (.int .i64 1)) 3, none⟩,
  ⟨some 4, .assign (.tmp 10), none⟩]
def b16_6 : PC := (.seq (.seq (.reg r16_3) (.cond (.tmp 8) .skip (.exit 0))) (.seq (.block 1 (.reg r16_4)) (.reg r16_5)))
def r16_7 : List POp := [
  ⟨some 19, .move (.tmp 3), none⟩,
  ⟨some 2, .assign (.tmp 19), none⟩]
def p16 : PC := (.seq (.reg r16_0) (.seq (.reg r16_1) (.seq (.seq (.reg r16_2) (.block 0 (.loop b16_6))) (.seq (.reg r16_7) .ret))))
theorem comp16 : (Try.f16.body.map (comp E Try.f16.ntmps)) = some p16 := by kernel_rfl
theorem ev16 {args : List AV} {S : St} {P : AV → St → Prop} (hn : Nat.ble args.length 20 = true) (h : EndsA E 20 [.c p16] .nrm (initTm 0 args .leaf) S (RetQ E [.tmp 2] P)) : ∃ r S', EvA E 16 args S r S' ∧ P r S' := ev_ends (fn := Try.f16) (by kernel_rfl) rfl comp16 (by kernel_rfl) (by kernel_rfl) hn h
/-! hindsight/snap.number -/
def r39_0 : List POp := [
  ⟨some 4, .assign (.const (.slice none 0 0)), none⟩]
def r39_1 : List POp := [
  ⟨some 5, .move (.tmp 1), none⟩,
  ⟨some 6, .binOp .geq 3 (.tmp 5) (.const (.int .i64 128)) 3, none⟩]
def r39_2 : List POp := [
  ⟨some 9, .move (.tmp 0), none⟩,
  ⟨some 10, .move (.tmp 1), none⟩,
  ⟨some 11, .convert 3 5 (.tmp 10), none⟩,
  ⟨some 12, .binOp .or 5 (.tmp 11) (.const (.int .u8 128)) 5, none⟩,
  ⟨some 13, .buildSlice 22 1 #[(0, (.tmp 12))], none⟩,
  ⟨some 14, .call { callee := .builtin .append, args := #[(.tmp 9), (.tmp 13)], argTypes := #[22, 22] }, none⟩,
  ⟨some 0, .assign (.tmp 14), none⟩]
def r39_3 : List POp := [
  ⟨some 7, .move (.tmp 1), none⟩,
  ⟨some 8, .binOp .shr 3 (.tmp 7) (.const (.int .u64 7)) 67, none⟩,
  ⟨some 1, .assign (.tmp 8), none⟩]
def b39_4 : PC := (.seq (.seq (.reg r39_1) (.cond (.tmp 6) .skip (.exit 0))) (.seq (.block 1 (.reg r39_2)) (.reg r39_3)))
def r39_5 : List POp := [
  ⟨some 15, .move (.tmp 0), none⟩,
  ⟨some 16, .move (.tmp 1), none⟩,
  ⟨some 17, .convert 3 5 (.tmp 16), none⟩,
  ⟨some 18, .buildSlice 22 1 #[(0, (.tmp 17))], none⟩,
  ⟨some 19, .call { callee := .builtin .append, args := #[(.tmp 15), (.tmp 18)], argTypes := #[22, 22] }, none⟩,
  ⟨some 4, .assign (.tmp 19), none⟩]
def p39 : PC := (.seq (.reg r39_0) (.seq (.block 0 (.loop b39_4)) (.seq (.reg r39_5) .ret)))
theorem comp39 : (Try.f39.body.map (comp E Try.f39.ntmps)) = some p39 := by kernel_rfl
theorem ev39 {args : List AV} {S : St} {P : AV → St → Prop} (hn : Nat.ble args.length 20 = true) (h : EndsA E 20 [.c p39] .nrm (initTm 0 args .leaf) S (RetQ E [.tmp 4] P)) : ∃ r S', EvA E 39 args S r S' ∧ P r S' := ev_ends (fn := Try.f39) (by kernel_rfl) rfl comp39 (by kernel_rfl) (by kernel_rfl) hn h
/-! hindsight/snap.read -/
def r38_0 : List POp := [
  ⟨some 2, .assign (.const (.int .i64 0)), none⟩,
  ⟨some 3, .assign (.const (.slice none 0 0)), none⟩,
  ⟨some 4, .assign (.const (.bool false)), none⟩]
def r38_1 : List POp := [
  ⟨some 5, .assign (.const (.int .u64 0)), none⟩]
def r38_2 : List POp := [
  ⟨some 8, .move (.tmp 0), none⟩,
  ⟨some 9, .move (.tmp 0), none⟩,
  ⟨some 10, .call { callee := .builtin .len, args := #[(.tmp 9)], argTypes := #[22] }, none⟩,
  ⟨some 11, .call { callee := .builtin .min, args := #[(.tmp 10), (.const (.int .i64 9))], argTypes := #[3, 3] }, none⟩,
  ⟨some 12, .slice 22 (.tmp 8) none (some (.tmp 11)) none, none⟩,
  ⟨some 13, .call { callee := .builtin .len, args := #[(.tmp 12)], argTypes := #[22] }, none⟩,
  ⟨some 14, .move (.const (.int .i64 0)), none⟩]
def r38_3 : List POp := [
  ⟨some 15, .binOp .lss 3 (.tmp 14) (.tmp 13) 3, none⟩]
def r38_4 : List POp := [
  ⟨some 16, .move (.tmp 14), none⟩,
  ⟨some 17, .indexAddr 22 (.tmp 12) (.tmp 14), none⟩,
  ⟨some 18, .load 5 (.tmp 17), none⟩,
  ⟨some 6, .assign (.tmp 16), none⟩,
  ⟨some 7, .assign (.tmp 18), none⟩]
def r38_5 : List POp := [
  ⟨some 19, .move (.tmp 5), none⟩,
  ⟨some 20, .move (.tmp 7), none⟩,
  ⟨some 21, .binOp .andNot 5 (.tmp 20) (.const (.int .u8 128)) 5, none⟩,
  ⟨some 22, .convert 5 27 (.tmp 21), none⟩,
  ⟨some 23, .move (.tmp 6), none⟩,
  ⟨some 24, .binOp .mul 3 (.const (.int .i64 7)) (.tmp 23) 3, none⟩,
  ⟨some 25, .binOp .shl 27 (.tmp 22) (.tmp 24) 3, none⟩,
  ⟨some 26, .binOp .or 27 (.tmp 19) (.tmp 25) 27, none⟩,
  ⟨some 5, .assign (.tmp 26), none⟩]
def r38_6 : List POp := [
  ⟨some 27, .move (.tmp 7), none⟩,
  ⟨some 28, .binOp .and 5 (.tmp 27) (.const (.int .u8 128)) 5, none⟩,
  ⟨some 29, .binOp .eql 5 (.tmp 28) (.const (.int .u8 0)) 5, none⟩]
def r38_7 : List POp := [
  ⟨some 30, .move (.tmp 5), none⟩,
  ⟨some 31, .convert 27 3 (.tmp 30), none⟩,
  ⟨some 32, .move (.tmp 0), none⟩,
  ⟨some 33, .move (.tmp 6), none⟩,
  ⟨some 34, .binOp .add 3 (.tmp 33) (.const (.int .i64 1)) 3, none⟩,
  ⟨some 35, .slice 22 (.tmp 32) (some (.tmp 34)) none none, none⟩,
  ⟨some 36, .move (.tmp 6), none⟩,
  ⟨some 37, .binOp .eql 3 (.tmp 36) (.const (.int .i64 0)) 3, none⟩,
  ⟨some 38, .move (.tmp 37), none⟩,
  ⟨some 39, .move (.tmp 7), some (38, false)⟩,
  ⟨some 40, .binOp .gtr 5 (.tmp 39) (.const (.int .u8 0)) 5, some (38, false)⟩,
  ⟨some 41, .pick (.tmp 38) (.const (.bool true)) (.tmp 40), none⟩,
  ⟨some 42, .move (.tmp 41), none⟩,
  ⟨some 43, .move (.tmp 5), some (42, true)⟩,
  ⟨some 44, .binOp .leq 27 (.tmp 43) (.const (.int .u64 9223372036854775807)) 27, some (42, true)⟩,
  ⟨some 45, .pick (.tmp 42) (.tmp 44) (.const (.bool false)), none⟩,
  ⟨some 2, .assign (.tmp 31), none⟩,
  ⟨some 3, .assign (.tmp 35), none⟩,
  ⟨some 4, .assign (.tmp 45), none⟩]
def r38_8 : List POp := [
  ⟨some 46, .binOp .add 3 (.tmp 14) (.const (.int .i64 1)) 3, none⟩,
  ⟨some 14, .move (.tmp 46), none⟩]
def b38_9 : PC := (.seq (.reg r38_3) (.seq (.cond (.tmp 15) .skip (.exit 0)) (.seq (.block 1 (.seq (.reg r38_4) (.seq (.reg r38_5) (.seq (.reg r38_6) (.cond (.tmp 29) (.seq (.regD 19 r38_7) .ret) .skip))))) (.reg r38_8))))
def r38_10 : List POp := [
  ⟨some 2, .assign (.const (.int .i64 0)), none⟩,
  ⟨some 3, .assign (.const (.slice none 0 0)), none⟩,
  ⟨some 4, .assign (.const (.bool false)), none⟩]
def p38 : PC := (.seq (.reg r38_0) (.seq (.reg r38_1) (.seq (.seq (.reg r38_2) (.block 0 (.loop b38_9))) (.seq (.reg r38_10) .ret))))
theorem comp38 : (Try.f38.body.map (comp E Try.f38.ntmps)) = some p38 := by kernel_rfl
theorem ev38 {args : List AV} {S : St} {P : AV → St → Prop} (hn : Nat.ble args.length 47 = true) (h : EndsA E 47 [.c p38] .nrm (initTm 0 args .leaf) S (RetQ E [.tmp 2, .tmp 3, .tmp 4] P)) : ∃ r S', EvA E 38 args S r S' ∧ P r S' := ev_ends (fn := Try.f38) (by kernel_rfl) rfl comp38 (by kernel_rfl) (by kernel_rfl) hn h
/-! hindsight/snap.piece -/
def r27_0 : List POp := [
  ⟨some 4, .assign (.const (.slice none 0 0)), none⟩,
  ⟨some 5, .assign (.const (.slice none 0 0)), none⟩,
  ⟨some 6, .assign (.const (.bool false)), none⟩]
def r27_1 : List POp := [
  ⟨some 7, .assign (.const (.int .i64 0)), none⟩]
def r27_2 : List POp := [
  ⟨some 13, .move (.tmp 1), none⟩,
  ⟨some 14, .indexAddr 22 (.tmp 13) (.const (.int .i64 0)), none⟩,
  ⟨some 15, .load 5 (.tmp 14), none⟩,
  ⟨some 16, .move (.tmp 1), none⟩,
  ⟨some 17, .slice 22 (.tmp 16) (some (.const (.int .i64 1))) none none, none⟩,
  ⟨some 8, .assign (.tmp 15), none⟩,
  ⟨some 9, .assign (.tmp 17), none⟩,
  ⟨some 10, .assign (.const (.bool true)), none⟩]
def r27_3 : List POp := [
  ⟨some 18, .move (.tmp 8), none⟩,
  ⟨some 19, .binOp .eql 5 (.tmp 18) (.const (.int .u8 1)) 5, none⟩]
def r27_4 : List POp := [
  ⟨some 21, .move (.tmp 9), none⟩,
  ⟨some 22, .call { callee := .value (.func 38), args := #[(.tmp 21)], argTypes := #[22] }, none⟩,
  ⟨some 20, .move (.tmp 22), none⟩,
  ⟨some 23, .extract (.tmp 20) 0, none⟩,
  ⟨some 24, .extract (.tmp 20) 1, none⟩,
  ⟨some 25, .extract (.tmp 20) 2, none⟩,
  ⟨some 7, .assign (.tmp 23), none⟩,
  ⟨some 9, .assign (.tmp 24), none⟩,
  ⟨some 10, .assign (.tmp 25), none⟩]
def r27_5 : List POp := [
  ⟨some 26, .move (.tmp 10), none⟩,
  ⟨some 27, .unOp .not 4 (.tmp 26), none⟩]
def r27_6 : List POp := [
  ⟨some 4, .assign (.const (.slice none 0 0)), none⟩,
  ⟨some 5, .assign (.const (.slice none 0 0)), none⟩,
  ⟨some 6, .assign (.const (.bool false)), none⟩]
def r27_7 : List POp := [
  ⟨some 29, .move (.tmp 9), none⟩,
  ⟨some 30, .call { callee := .value (.func 38), args := #[(.tmp 29)], argTypes := #[22] }, none⟩,
  ⟨some 28, .move (.tmp 30), none⟩,
  ⟨some 31, .extract (.tmp 28) 0, none⟩,
  ⟨some 32, .extract (.tmp 28) 1, none⟩,
  ⟨some 33, .extract (.tmp 28) 2, none⟩,
  ⟨some 11, .assign (.tmp 31), none⟩,
  ⟨some 9, .assign (.tmp 32), none⟩,
  ⟨some 10, .assign (.tmp 33), none⟩]
def r27_8 : List POp := [
  ⟨some 34, .move (.tmp 9), none⟩,
  ⟨some 12, .assign (.tmp 34), none⟩]
def r27_9 : List POp := [
  ⟨some 35, .move (.tmp 8), none⟩,
  ⟨some 36, .binOp .eql 5 (.tmp 35) (.const (.int .u8 1)) 5, none⟩]
def r27_10 : List POp := [
  ⟨some 37, .move (.tmp 0), none⟩,
  ⟨some 12, .assign (.tmp 37), none⟩]
def r27_11 : List POp := [
  ⟨some 38, .move (.tmp 10), none⟩,
  ⟨some 39, .unOp .not 4 (.tmp 38), none⟩,
  ⟨some 40, .move (.tmp 39), none⟩,
  ⟨some 41, .move (.tmp 11), some (40, false)⟩,
  ⟨some 42, .binOp .eql 3 (.tmp 41) (.const (.int .i64 0)) 3, some (40, false)⟩,
  ⟨some 43, .pick (.tmp 40) (.const (.bool true)) (.tmp 42), none⟩,
  ⟨some 44, .move (.tmp 43), none⟩,
  ⟨some 45, .move (.tmp 8), some (44, false)⟩,
  ⟨some 46, .binOp .neq 5 (.tmp 45) (.const (.int .u8 1)) 5, some (44, false)⟩,
  ⟨some 47, .move (.tmp 46), some (44, false)⟩,
  ⟨some 48, .move (.tmp 8), some (47, true)⟩,
  ⟨some 49, .binOp .neq 5 (.tmp 48) (.const (.int .u8 2)) 5, some (47, true)⟩,
  ⟨some 50, .pick (.tmp 47) (.tmp 49) (.const (.bool false)), some (44, false)⟩,
  ⟨some 51, .pick (.tmp 44) (.const (.bool true)) (.tmp 50), none⟩,
  ⟨some 52, .move (.tmp 51), none⟩,
  ⟨some 53, .move (.tmp 7), some (52, false)⟩,
  ⟨some 54, .move (.tmp 12), some (52, false)⟩,
  ⟨some 55, .call { callee := .builtin .len, args := #[(.tmp 54)], argTypes := #[22] }, some (52, false)⟩,
  ⟨some 56, .binOp .gtr 3 (.tmp 53) (.tmp 55) 3, some (52, false)⟩,
  ⟨some 57, .pick (.tmp 52) (.const (.bool true)) (.tmp 56), none⟩,
  ⟨some 58, .move (.tmp 57), none⟩,
  ⟨some 59, .move (.tmp 11), some (58, false)⟩,
  ⟨some 60, .move (.tmp 12), some (58, false)⟩,
  ⟨some 61, .call { callee := .builtin .len, args := #[(.tmp 60)], argTypes := #[22] }, some (58, false)⟩,
  ⟨some 62, .move (.tmp 7), some (58, false)⟩,
  ⟨some 63, .binOp .sub 3 (.tmp 61) (.tmp 62) 3, some (58, false)⟩,
  ⟨some 64, .binOp .gtr 3 (.tmp 59) (.tmp 63) 3, some (58, false)⟩,
  ⟨some 65, .pick (.tmp 58) (.const (.bool true)) (.tmp 64), none⟩]
def r27_12 : List POp := [
  ⟨some 4, .assign (.const (.slice none 0 0)), none⟩,
  ⟨some 5, .assign (.const (.slice none 0 0)), none⟩,
  ⟨some 6, .assign (.const (.bool false)), none⟩]
def r27_13 : List POp := [
  ⟨some 66, .move (.tmp 8), none⟩,
  ⟨some 67, .binOp .eql 5 (.tmp 66) (.const (.int .u8 2)) 5, none⟩]
def r27_14 : List POp := [
  ⟨some 68, .move (.tmp 9), none⟩,
  ⟨some 69, .move (.tmp 11), none⟩,
  ⟨some 70, .slice 22 (.tmp 68) (some (.tmp 69)) none none, none⟩,
  ⟨some 9, .assign (.tmp 70), none⟩]
def r27_15 : List POp := [
  ⟨some 71, .move (.tmp 12), none⟩,
  ⟨some 72, .move (.tmp 7), none⟩,
  ⟨some 73, .move (.tmp 7), none⟩,
  ⟨some 74, .move (.tmp 11), none⟩,
  ⟨some 75, .binOp .add 3 (.tmp 73) (.tmp 74) 3, none⟩,
  ⟨some 76, .slice 22 (.tmp 71) (some (.tmp 72)) (some (.tmp 75)) none, none⟩,
  ⟨some 77, .move (.tmp 9), none⟩,
  ⟨some 4, .assign (.tmp 76), none⟩,
  ⟨some 5, .assign (.tmp 77), none⟩,
  ⟨some 6, .assign (.const (.bool true)), none⟩]
def p27 : PC := (.seq (.reg r27_0) (.seq (.reg r27_1) (.seq (.regD 8 r27_2) (.seq (.seq (.reg r27_3) (.cond (.tmp 19) (.seq (.reg r27_4) (.seq (.reg r27_5) (.cond (.tmp 27) (.seq (.reg r27_6) .ret) .skip))) .skip)) (.seq (.reg r27_7) (.seq (.reg r27_8) (.seq (.seq (.reg r27_9) (.cond (.tmp 36) (.reg r27_10) .skip)) (.seq (.seq (.reg r27_11) (.cond (.tmp 65) (.seq (.reg r27_12) .ret) .skip)) (.seq (.seq (.reg r27_13) (.cond (.tmp 67) (.reg r27_14) .skip)) (.seq (.reg r27_15) .ret))))))))))
theorem comp27 : (Try.f27.body.map (comp E Try.f27.ntmps)) = some p27 := by kernel_rfl
theorem ev27 {args : List AV} {S : St} {P : AV → St → Prop} (hn : Nat.ble args.length 78 = true) (h : EndsA E 78 [.c p27] .nrm (initTm 0 args .leaf) S (RetQ E [.tmp 4, .tmp 5, .tmp 6] P)) : ∃ r S', EvA E 27 args S r S' ∧ P r S' := ev_ends (fn := Try.f27) (by kernel_rfl) rfl comp27 (by kernel_rfl) (by kernel_rfl) hn h
/-! hindsight/snap.Apply -/
def r13_0 : List POp := [
  ⟨some 4, .assign (.const (.slice none 0 0)), none⟩,
  ⟨some 5, .assign (.const (.int .i64 0)), none⟩]
def r13_1 : List POp := [
  ⟨some 6, .assign (.const (.slice none 0 0)), none⟩]
def r13_2 : List POp := [
  ⟨some 7, .assign (.const (.bool false)), none⟩]
def r13_3 : List POp := [
  ⟨some 11, .move (.tmp 1), none⟩,
  ⟨some 12, .call { callee := .builtin .len, args := #[(.tmp 11)], argTypes := #[22] }, none⟩,
  ⟨some 13, .binOp .gtr 3 (.tmp 12) (.const (.int .i64 0)) 3, none⟩]
def r13_4 : List POp := [
  ⟨some 15, .move (.tmp 0), none⟩,
  ⟨some 16, .move (.tmp 1), none⟩,
  ⟨some 17, .call { callee := .value (.func 27), args := #[(.tmp 15), (.tmp 16)], argTypes := #[22, 22] }, none⟩,
  ⟨some 14, .move (.tmp 17), none⟩,
  ⟨some 18, .extract (.tmp 14) 0, none⟩,
  ⟨some 19, .extract (.tmp 14) 1, none⟩,
  ⟨some 20, .extract (.tmp 14) 2, none⟩,
  ⟨some 8, .assign (.tmp 18), none⟩,
  ⟨some 9, .assign (.tmp 19), none⟩,
  ⟨some 10, .assign (.tmp 20), none⟩]
def r13_5 : List POp := [
  ⟨some 21, .move (.tmp 10), none⟩,
  ⟨some 22, .unOp .not 4 (.tmp 21), none⟩]
def r13_6 : List POp := [
  ⟨some 4, .assign (.const (.slice none 0 0)), none⟩,
  ⟨some 5, .assign (.const (.int .i64 3)), none⟩]
def r13_7 : List POp := [
  ⟨some 23, .move (.tmp 7), none⟩,
  ⟨some 24, .move (.tmp 23), none⟩,
  ⟨some 25, .move (.tmp 8), some (24, false)⟩,
  ⟨some 26, .call { callee := .builtin .len, args := #[(.tmp 25)], argTypes := #[22] }, some (24, false)⟩,
  ⟨some 27, .move (.tmp 6), some (24, false)⟩,
  ⟨some 28, .call { callee := .builtin .len, args := #[(.tmp 27)], argTypes := #[22] }, some (24, false)⟩,
  ⟨some 29, .binOp .sub 3 (.const (.int .i64 4194304)) (.tmp 28) 3, some (24, false)⟩,
  ⟨some 30, .binOp .gtr 3 (.tmp 26) (.tmp 29) 3, some (24, false)⟩,
  ⟨some 31, .pick (.tmp 24) (.const (.bool true)) (.tmp 30), none⟩,
  ⟨some 7, .assign (.tmp 31), none⟩]
def r13_8 : List POp := [
  ⟨some 32, .move (.tmp 7), none⟩,
  ⟨some 33, .unOp .not 4 (.tmp 32), none⟩]
def r13_9 : List POp := [
  ⟨some 34, .move (.tmp 6), none⟩,
  ⟨some 35, .move (.tmp 8), none⟩,
  ⟨some 36, .call { callee := .builtin .append, args := #[(.tmp 34), (.tmp 35)], argTypes := #[22, 22] }, none⟩,
  ⟨some 6, .assign (.tmp 36), none⟩]
def r13_10 : List POp := [
  ⟨some 37, .move (.tmp 9), none⟩,
  ⟨some 1, .assign (.tmp 37), none⟩]
def b13_11 : PC := (.seq (.seq (.reg r13_3) (.cond (.tmp 13) .skip (.exit 0))) (.block 1 (.seq (.reg r13_4) (.seq (.seq (.reg r13_5) (.cond (.tmp 22) (.seq (.reg r13_6) .ret) .skip)) (.seq (.reg r13_7) (.seq (.seq (.reg r13_8) (.cond (.tmp 33) (.reg r13_9) .skip)) (.reg r13_10)))))))
def r13_12 : List POp := [
  ⟨some 38, .move (.tmp 7), none⟩]
def r13_13 : List POp := [
  ⟨some 4, .assign (.const (.slice none 0 0)), none⟩,
  ⟨some 5, .assign (.const (.int .i64 2)), none⟩]
def r13_14 : List POp := [
  ⟨some 39, .move (.tmp 6), none⟩,
  ⟨some 4, .assign (.tmp 39), none⟩,
  ⟨some 5, .assign (.const (.int .i64 0)), none⟩]
def p13 : PC := (.seq (.reg r13_0) (.seq (.reg r13_1) (.seq (.reg r13_2) (.seq (.block 0 (.loop b13_11)) (.seq (.seq (.reg r13_12) (.cond (.tmp 38) (.seq (.reg r13_13) .ret) .skip)) (.seq (.reg r13_14) .ret))))))
theorem comp13 : (Try.f13.body.map (comp E Try.f13.ntmps)) = some p13 := by kernel_rfl
theorem ev13 {args : List AV} {S : St} {P : AV → St → Prop} (hn : Nat.ble args.length 40 = true) (h : EndsA E 40 [.c p13] .nrm (initTm 0 args .leaf) S (RetQ E [.tmp 4, .tmp 5] P)) : ∃ r S', EvA E 13 args S r S' ∧ P r S' := ev_ends (fn := Try.f13) (by kernel_rfl) rfl comp13 (by kernel_rfl) (by kernel_rfl) hn h
/-! hindsight/hindsightref11.Apply -/
def r14_0 : List POp := [
  ⟨some 4, .assign (.const (.slice none 0 0)), none⟩,
  ⟨some 5, .assign (.const (.int .i64 0)), none⟩]
def r14_1 : List POp := [
  ⟨some 6, .assign (.const (.slice none 0 0)), none⟩]
def r14_2 : List POp := [
  ⟨some 7, .assign (.const (.bool false)), none⟩]
def r14_3 : List POp := [
  ⟨some 8, .assign (.const (.int .i64 0)), none⟩]
def r14_4 : List POp := [
  ⟨some 15, .move (.tmp 8), none⟩,
  ⟨some 16, .move (.tmp 1), none⟩,
  ⟨some 17, .call { callee := .builtin .len, args := #[(.tmp 16)], argTypes := #[22] }, none⟩,
  ⟨some 18, .binOp .lss 3 (.tmp 15) (.tmp 17) 3, none⟩]
def r14_5 : List POp := [
  ⟨some 19, .move (.tmp 1), none⟩,
  ⟨some 20, .move (.tmp 8), none⟩,
  ⟨some 21, .indexAddr 22 (.tmp 19) (.tmp 20), none⟩,
  ⟨some 22, .load 5 (.tmp 21), none⟩,
  ⟨some 9, .assign (.tmp 22), none⟩]
def r14_6 : List POp := [
  ⟨some 23, .move (.tmp 8), none⟩,
  ⟨some 24, .binOp .add 3 (.tmp 23) (.const (.int .i64 1)) 3, none⟩,
  ⟨some 8, .assign (.tmp 24), none⟩]
def r14_7 : List POp := [
  ⟨some 25, .move (.tmp 9), none⟩,
  ⟨some 26, .binOp .neq 5 (.tmp 25) (.const (.int .u8 1)) 5, none⟩,
  ⟨some 27, .move (.tmp 26), none⟩,
  ⟨some 28, .move (.tmp 9), some (27, true)⟩,
  ⟨some 29, .binOp .neq 5 (.tmp 28) (.const (.int .u8 2)) 5, some (27, true)⟩,
  ⟨some 30, .pick (.tmp 27) (.tmp 29) (.const (.bool false)), none⟩]
def r14_8 : List POp := [
  ⟨some 4, .assign (.const (.slice none 0 0)), none⟩,
  ⟨some 5, .assign (.const (.int .i64 3)), none⟩]
def r14_9 : List POp := [
  ⟨some 10, .assign (.const (.int .u64 0)), none⟩]
def r14_10 : List POp := [
  ⟨some 11, .assign (.const (.int .i64 0)), none⟩]
def r14_11 : List POp := [
  ⟨some 31, .move (.tmp 9), none⟩,
  ⟨some 32, .binOp .eql 5 (.tmp 31) (.const (.int .u8 1)) 5, none⟩]
def r14_12 : List POp := [
  ⟨some 34, .move (.tmp 1), none⟩,
  ⟨some 35, .move (.tmp 8), none⟩,
  ⟨some 36, .slice 22 (.tmp 34) (some (.tmp 35)) none none, none⟩,
  ⟨some 37, .call { callee := .value (.func 28), args := #[(.tmp 36)], argTypes := #[22] }, none⟩,
  ⟨some 33, .move (.tmp 37), none⟩,
  ⟨some 38, .extract (.tmp 33) 0, none⟩,
  ⟨some 39, .extract (.tmp 33) 1, none⟩,
  ⟨some 10, .assign (.tmp 38), none⟩,
  ⟨some 11, .assign (.tmp 39), none⟩]
def r14_13 : List POp := [
  ⟨some 40, .move (.tmp 11), none⟩,
  ⟨some 41, .binOp .eql 3 (.tmp 40) (.const (.int .i64 0)) 3, none⟩]
def r14_14 : List POp := [
  ⟨some 4, .assign (.const (.slice none 0 0)), none⟩,
  ⟨some 5, .assign (.const (.int .i64 3)), none⟩]
def r14_15 : List POp := [
  ⟨some 42, .move (.tmp 8), none⟩,
  ⟨some 43, .move (.tmp 11), none⟩,
  ⟨some 44, .binOp .add 3 (.tmp 42) (.tmp 43) 3, none⟩,
  ⟨some 8, .assign (.tmp 44), none⟩]
def r14_16 : List POp := [
  ⟨some 46, .move (.tmp 1), none⟩,
  ⟨some 47, .move (.tmp 8), none⟩,
  ⟨some 48, .slice 22 (.tmp 46) (some (.tmp 47)) none none, none⟩,
  ⟨some 49, .call { callee := .value (.func 28), args := #[(.tmp 48)], argTypes := #[22] }, none⟩,
  ⟨some 45, .move (.tmp 49), none⟩,
  ⟨some 50, .extract (.tmp 45) 0, none⟩,
  ⟨some 51, .extract (.tmp 45) 1, none⟩,
  ⟨some 12, .assign (.tmp 50), none⟩,
  ⟨some 13, .assign (.tmp 51), none⟩]
def r14_17 : List POp := [
  ⟨some 52, .move (.tmp 13), none⟩,
  ⟨some 53, .binOp .eql 3 (.tmp 52) (.const (.int .i64 0)) 3, none⟩,
  ⟨some 54, .move (.tmp 53), none⟩,
  ⟨some 55, .move (.tmp 12), some (54, false)⟩,
  ⟨some 56, .binOp .eql 27 (.tmp 55) (.const (.int .u64 0)) 27, some (54, false)⟩,
  ⟨some 57, .pick (.tmp 54) (.const (.bool true)) (.tmp 56), none⟩]
def r14_18 : List POp := [
  ⟨some 4, .assign (.const (.slice none 0 0)), none⟩,
  ⟨some 5, .assign (.const (.int .i64 3)), none⟩]
def r14_19 : List POp := [
  ⟨some 58, .move (.tmp 8), none⟩,
  ⟨some 59, .move (.tmp 13), none⟩,
  ⟨some 60, .binOp .add 3 (.tmp 58) (.tmp 59) 3, none⟩,
  ⟨some 8, .assign (.tmp 60), none⟩]
def r14_20 : List POp := [
  ⟨some 61, .move (.tmp 1), none⟩,
  ⟨some 62, .move (.tmp 8), none⟩,
  ⟨some 63, .slice 22 (.tmp 61) (some (.tmp 62)) none none, none⟩,
  ⟨some 14, .assign (.tmp 63), none⟩]
def r14_21 : List POp := [
  ⟨some 64, .move (.tmp 9), none⟩,
  ⟨some 65, .binOp .eql 5 (.tmp 64) (.const (.int .u8 1)) 5, none⟩]
def r14_22 : List POp := [
  ⟨some 66, .move (.tmp 10), none⟩,
  ⟨some 67, .move (.tmp 0), none⟩,
  ⟨some 68, .call { callee := .builtin .len, args := #[(.tmp 67)], argTypes := #[22] }, none⟩,
  ⟨some 69, .convert 3 27 (.tmp 68), none⟩,
  ⟨some 70, .binOp .gtr 27 (.tmp 66) (.tmp 69) 27, none⟩]
def r14_23 : List POp := [
  ⟨some 4, .assign (.const (.slice none 0 0)), none⟩,
  ⟨some 5, .assign (.const (.int .i64 3)), none⟩]
def r14_24 : List POp := [
  ⟨some 71, .move (.tmp 0), none⟩,
  ⟨some 72, .move (.tmp 10), none⟩,
  ⟨some 73, .slice 22 (.tmp 71) (some (.tmp 72)) none none, none⟩,
  ⟨some 14, .assign (.tmp 73), none⟩]
def r14_25 : List POp := [
  ⟨some 74, .move (.tmp 12), none⟩,
  ⟨some 75, .move (.tmp 14), none⟩,
  ⟨some 76, .call { callee := .builtin .len, args := #[(.tmp 75)], argTypes := #[22] }, none⟩,
  ⟨some 77, .convert 3 27 (.tmp 76), none⟩,
  ⟨some 78, .binOp .gtr 27 (.tmp 74) (.tmp 77) 27, none⟩]
def r14_26 : List POp := [
  ⟨some 4, .assign (.const (.slice none 0 0)), none⟩,
  ⟨some 5, .assign (.const (.int .i64 3)), none⟩]
def r14_27 : List POp := [
  ⟨some 79, .move (.tmp 9), none⟩,
  ⟨some 80, .binOp .eql 5 (.tmp 79) (.const (.int .u8 2)) 5, none⟩]
def r14_28 : List POp := [
  ⟨some 81, .move (.tmp 8), none⟩,
  ⟨some 82, .move (.tmp 12), none⟩,
  ⟨some 83, .convert 27 3 (.tmp 82), none⟩,
  ⟨some 84, .binOp .add 3 (.tmp 81) (.tmp 83) 3, none⟩,
  ⟨some 8, .assign (.tmp 84), none⟩]
def r14_29 : List POp := [
  ⟨some 85, .move (.tmp 7), none⟩,
  ⟨some 86, .move (.tmp 85), none⟩,
  ⟨some 87, .move (.tmp 6), some (86, false)⟩,
  ⟨some 88, .call { callee := .builtin .len, args := #[(.tmp 87)], argTypes := #[22] }, some (86, false)⟩,
  ⟨some 89, .move (.tmp 12), some (86, false)⟩,
  ⟨some 90, .convert 27 3 (.tmp 89), some (86, false)⟩,
  ⟨some 91, .binOp .sub 3 (.const (.int .i64 4194304)) (.tmp 90) 3, some (86, false)⟩,
  ⟨some 92, .binOp .gtr 3 (.tmp 88) (.tmp 91) 3, some (86, false)⟩,
  ⟨some 93, .pick (.tmp 86) (.const (.bool true)) (.tmp 92), none⟩,
  ⟨some 7, .assign (.tmp 93), none⟩]
def r14_30 : List POp := [
  ⟨some 94, .move (.tmp 7), none⟩,
  ⟨some 95, .unOp .not 4 (.tmp 94), none⟩]
def r14_31 : List POp := [
  ⟨some 96, .move (.tmp 6), none⟩,
  ⟨some 97, .move (.tmp 14), none⟩,
  ⟨some 98, .move (.tmp 12), none⟩,
  ⟨some 99, .slice 22 (.tmp 97) none (some (.tmp 98)) none, none⟩,
  ⟨some 100, .call { callee := .builtin .append, args := #[(.tmp 96), (.tmp 99)], argTypes := #[22, 22] }, none⟩,
  ⟨some 6, .assign (.tmp 100), none⟩]
def b14_32 : PC := (.seq (.seq (.reg r14_4) (.cond (.tmp 18) .skip (.exit 0))) (.block 1 (.seq (.reg r14_5) (.seq (.reg r14_6) (.seq (.seq (.reg r14_7) (.cond (.tmp 30) (.seq (.reg r14_8) .ret) .skip)) (.seq (.reg r14_9) (.seq (.reg r14_10) (.seq (.seq (.reg r14_11) (.cond (.tmp 32) (.seq (.reg r14_12) (.seq (.seq (.reg r14_13) (.cond (.tmp 41) (.seq (.reg r14_14) .ret) .skip)) (.reg r14_15))) .skip)) (.seq (.reg r14_16) (.seq (.seq (.reg r14_17) (.cond (.tmp 57) (.seq (.reg r14_18) .ret) .skip)) (.seq (.reg r14_19) (.seq (.reg r14_20) (.seq (.seq (.reg r14_21) (.cond (.tmp 65) (.seq (.seq (.reg r14_22) (.cond (.tmp 70) (.seq (.reg r14_23) .ret) .skip)) (.reg r14_24)) .skip)) (.seq (.seq (.reg r14_25) (.cond (.tmp 78) (.seq (.reg r14_26) .ret) .skip)) (.seq (.seq (.reg r14_27) (.cond (.tmp 80) (.reg r14_28) .skip)) (.seq (.reg r14_29) (.seq (.reg r14_30) (.cond (.tmp 95) (.reg r14_31) .skip))))))))))))))))))
def r14_33 : List POp := [
  ⟨some 101, .move (.tmp 7), none⟩]
def r14_34 : List POp := [
  ⟨some 4, .assign (.const (.slice none 0 0)), none⟩,
  ⟨some 5, .assign (.const (.int .i64 2)), none⟩]
def r14_35 : List POp := [
  ⟨some 102, .move (.tmp 6), none⟩,
  ⟨some 4, .assign (.tmp 102), none⟩,
  ⟨some 5, .assign (.const (.int .i64 0)), none⟩]
def p14 : PC := (.seq (.reg r14_0) (.seq (.reg r14_1) (.seq (.reg r14_2) (.seq (.seq (.reg r14_3) (.block 0 (.loop b14_32))) (.seq (.seq (.reg r14_33) (.cond (.tmp 101) (.seq (.reg r14_34) .ret) .skip)) (.seq (.reg r14_35) .ret))))))
theorem comp14 : (Try.f14.body.map (comp E Try.f14.ntmps)) = some p14 := by kernel_rfl
theorem ev14 {args : List AV} {S : St} {P : AV → St → Prop} (hn : Nat.ble args.length 103 = true) (h : EndsA E 103 [.c p14] .nrm (initTm 0 args .leaf) S (RetQ E [.tmp 4, .tmp 5] P)) : ∃ r S', EvA E 14 args S r S' ∧ P r S' := ev_ends (fn := Try.f14) (by kernel_rfl) rfl comp14 (by kernel_rfl) (by kernel_rfl) hn h
/-! hindsight/hindsightref11.Groups -/
def r28_0 : List POp := [
  ⟨some 2, .assign (.const (.int .u64 0)), none⟩,
  ⟨some 3, .assign (.const (.int .i64 0)), none⟩]
def r28_1 : List POp := [
  ⟨some 4, .assign (.const (.int .u64 0)), none⟩]
def r28_2 : List POp := [
  ⟨some 5, .assign (.const (.int .i64 0)), none⟩]
def r28_3 : List POp := [
  ⟨some 6, .move (.tmp 5), none⟩,
  ⟨some 7, .move (.tmp 0), none⟩,
  ⟨some 8, .call { callee := .builtin .len, args := #[(.tmp 7)], argTypes := #[22] }, none⟩,
  ⟨some 9, .binOp .lss 3 (.tmp 6) (.tmp 8) 3, none⟩,
  ⟨some 10, .move (.tmp 9), none⟩,
  ⟨some 11, .move (.tmp 5), some (10, true)⟩,
  ⟨some 12, .binOp .lss 3 (.tmp 11) (.const (.int .i64 10)) 3, some (10, true)⟩,
  ⟨some 13, .pick (.tmp 10) (.tmp 12) (.const (.bool false)), none⟩]
def r28_4 : List POp := [
  ⟨some 16, .move (.tmp 5), none⟩,
  ⟨some 17, .binOp .eql 3 (.tmp 16) (.const (.int .i64 9)) 3, none⟩,
  ⟨some 18, .move (.tmp 17), none⟩,
  ⟨some 19, .move (.tmp 0), some (18, true)⟩,
  ⟨some 20, .move (.tmp 5), some (18, true)⟩,
  ⟨some 21, .indexAddr 22 (.tmp 19) (.tmp 20), some (18, true)⟩,
  ⟨some 22, .load 5 (.tmp 21), some (18, true)⟩,
  ⟨some 23, .binOp .gtr 5 (.tmp 22) (.const (.int .u8 1)) 5, some (18, true)⟩,
  ⟨some 24, .pick (.tmp 18) (.tmp 23) (.const (.bool false)), none⟩]
def r28_5 : List POp := [
  ⟨some 2, .assign (.const (.int .u64 0)), none⟩,
  ⟨some 3, .assign (.const (.int .i64 0)), none⟩]
def r28_6 : List POp := [
  ⟨some 25, .move (.tmp 4), none⟩,
  ⟨some 26, .move (.tmp 0), none⟩,
  ⟨some 27, .move (.tmp 5), none⟩,
  ⟨some 28, .indexAddr 22 (.tmp 26) (.tmp 27), none⟩,
  ⟨some 29, .load 5 (.tmp 28), none⟩,
  ⟨some 30, .binOp .and 5 (.tmp 29) (.const (.int .u8 127)) 5, none⟩,
  ⟨some 31, .convert 5 27 (.tmp 30), none⟩,
  ⟨some 32, .move (.tmp 5), none⟩,
  ⟨some 33, .binOp .mul 3 (.const (.int .i64 7)) (.tmp 32) 3, none⟩,
  ⟨some 34, .convert 3 67 (.tmp 33), none⟩,
  ⟨some 35, .binOp .shl 27 (.tmp 31) (.tmp 34) 67, none⟩,
  ⟨some 36, .binOp .or 27 (.tmp 25) (.tmp 35) 27, none⟩,
  ⟨some 4, .assign (.tmp 36), none⟩]
def r28_7 : List POp := [
  ⟨some 37, .move (.tmp 0), none⟩,
  ⟨some 38, .move (.tmp 5), none⟩,
  ⟨some 39, .indexAddr 22 (.tmp 37) (.tmp 38), none⟩,
  ⟨some 40, .load 5 (.tmp 39), none⟩,
  ⟨some 41, .binOp .lss 5 (.tmp 40) (.const (.int .u8 128)) 5, none⟩]
def r28_8 : List POp := [
  ⟨some 42, .move (.tmp 0), none⟩,
  ⟨some 43, .move (.tmp 5), none⟩,
  ⟨some 44, .indexAddr 22 (.tmp 42) (.tmp 43), none⟩,
  ⟨some 45, .load 5 (.tmp 44), none⟩,
  ⟨some 46, .binOp .eql 5 (.tmp 45) (.const (.int .u8 0)) 5, none⟩,
  ⟨some 47, .move (.tmp 46), none⟩,
  ⟨some 48, .move (.tmp 5), some (47, true)⟩,
  ⟨some 49, .binOp .gtr 3 (.tmp 48) (.const (.int .i64 0)) 3, some (47, true)⟩,
  ⟨some 50, .pick (.tmp 47) (.tmp 49) (.const (.bool false)), none⟩]
def r28_9 : List POp := [
  ⟨some 2, .assign (.const (.int .u64 0)), none⟩,
  ⟨some 3, .assign (.const (.int .i64 0)), none⟩]
def r28_10 : List POp := [
  ⟨some 51, .move (.tmp 4), none⟩,
  ⟨some 52, .move (.tmp 5), none⟩,
  ⟨some 53, .binOp .add 3 (.tmp 52) (.const (.int .i64 1)) 3, none⟩,
  ⟨some 2, .assign (.tmp 51), none⟩,
  ⟨some 3, .assign (.tmp 53), none⟩]
def r28_11 : List POp := [
  ⟨some 14, .move (.tmp 5), none⟩,
  ⟨some 15, .binOp .add 3 (.tmp 14) (.const (.int .i64 1)) 3, none⟩,
  ⟨some 5, .assign (.tmp 15), none⟩]
def b28_12 : PC := (.seq (.seq (.reg r28_3) (.cond (.tmp 13) .skip (.exit 0))) (.seq (.block 1 (.seq (.seq (.reg r28_4) (.cond (.tmp 24) (.seq (.reg r28_5) .ret) .skip)) (.seq (.reg r28_6) (.seq (.reg r28_7) (.cond (.tmp 41) (.seq (.seq (.reg r28_8) (.cond (.tmp 50) (.seq (.reg r28_9) .ret) .skip)) (.seq (.reg r28_10) .ret)) .skip))))) (.reg r28_11)))
def r28_13 : List POp := [
  ⟨some 2, .assign (.const (.int .u64 0)), none⟩,
  ⟨some 3, .assign (.const (.int .i64 0)), none⟩]
def p28 : PC := (.seq (.reg r28_0) (.seq (.reg r28_1) (.seq (.seq (.reg r28_2) (.block 0 (.loop b28_12))) (.seq (.reg r28_13) .ret))))
theorem comp28 : (Try.f28.body.map (comp E Try.f28.ntmps)) = some p28 := by kernel_rfl
theorem ev28 {args : List AV} {S : St} {P : AV → St → Prop} (hn : Nat.ble args.length 54 = true) (h : EndsA E 54 [.c p28] .nrm (initTm 0 args .leaf) S (RetQ E [.tmp 2, .tmp 3] P)) : ∃ r S', EvA E 28 args S r S' ∧ P r S' := ev_ends (fn := Try.f28) (by kernel_rfl) rfl comp28 (by kernel_rfl) (by kernel_rfl) hn h
/-! hindsight/hindsightlaw21.awake -/
def r12_0 : List POp := [
  ⟨some 0, .assign (.const (.bool false)), none⟩]
def r12_1 : List POp := [
  ⟨some 4, .buildSlice 22 3 #[(0, (.const (.int .u8 97))), (1, (.const (.int .u8 98))), (2, (.const (.int .u8 99)))], none⟩,
  ⟨some 5, .convert 22 22 (.tmp 4), none⟩,
  ⟨some 6, .buildSlice 22 6 #[(0, (.const (.int .u8 1))), (1, (.const (.int .u8 0))), (2, (.const (.int .u8 2))), (3, (.const (.int .u8 2))), (4, (.const (.int .u8 1))), (5, (.const (.int .u8 120)))], none⟩,
  ⟨some 7, .call { callee := .value (.func 13), args := #[(.tmp 5), (.tmp 6)], argTypes := #[22, 22] }, none⟩,
  ⟨some 3, .move (.tmp 7), none⟩,
  ⟨some 8, .extract (.tmp 3) 0, none⟩,
  ⟨some 9, .extract (.tmp 3) 1, none⟩,
  ⟨some 1, .assign (.tmp 8), none⟩,
  ⟨some 2, .assign (.tmp 9), none⟩]
def r12_2 : List POp := [
  ⟨some 10, .move (.tmp 2), none⟩,
  ⟨some 11, .binOp .eql 24 (.tmp 10) (.const (.int .i64 0)) 24, none⟩,
  ⟨some 12, .move (.tmp 11), none⟩,
  ⟨some 13, .move (.tmp 1), some (12, true)⟩,
  ⟨some 14, .convert 22 9 (.tmp 13), some (12, true)⟩,
  ⟨some 15, .binOp .eql 9 (.tmp 14) (.const (.string ⟨#[97, 98, 120]⟩)) 9, some (12, true)⟩,
  ⟨some 16, .pick (.tmp 12) (.tmp 15) (.const (.bool false)), none⟩,
  ⟨some 17, .move (.tmp 16), none⟩,
  ⟨some 18, .buildSlice 22 1 #[(0, (.const (.int .u8 97)))], some (17, true)⟩,
  ⟨some 19, .convert 22 22 (.tmp 18), some (17, true)⟩,
  ⟨some 20, .call { callee := .value (.func 15), args := #[(.tmp 19)], argTypes := #[22] }, some (17, true)⟩,
  ⟨some 21, .binOp .eql 27 (.tmp 20) (.const (.int .u64 12638187200555641996)) 27, some (17, true)⟩,
  ⟨some 22, .pick (.tmp 17) (.tmp 21) (.const (.bool false)), none⟩,
  ⟨some 0, .assign (.tmp 22), none⟩]
def p12 : PC := (.seq (.reg r12_0) (.seq (.reg r12_1) (.seq (.reg r12_2) .ret)))
theorem comp12 : (Try.f12.body.map (comp E Try.f12.ntmps)) = some p12 := by kernel_rfl
theorem ev12 {args : List AV} {S : St} {P : AV → St → Prop} (hn : Nat.ble args.length 23 = true) (h : EndsA E 23 [.c p12] .nrm (initTm 0 args .leaf) S (RetQ E [.tmp 0] P)) : ∃ r S', EvA E 12 args S r S' ∧ P r S' := ev_ends (fn := Try.f12) (by kernel_rfl) rfl comp12 (by kernel_rfl) (by kernel_rfl) hn h
/-! hindsight/snap.written -/
def r34_0 : List POp := [
  ⟨some 4, .assign (.const (.slice none 0 0)), none⟩]
def r34_1 : List POp := [
  ⟨some 5, .move (.tmp 1), none⟩,
  ⟨some 6, .call { callee := .builtin .len, args := #[(.tmp 5)], argTypes := #[22] }, none⟩,
  ⟨some 7, .binOp .eql 3 (.tmp 6) (.const (.int .i64 0)) 3, none⟩]
def r34_2 : List POp := [
  ⟨some 8, .move (.tmp 0), none⟩,
  ⟨some 4, .assign (.tmp 8), none⟩]
def r34_3 : List POp := [
  ⟨some 9, .move (.tmp 0), none⟩,
  ⟨some 10, .buildSlice 22 1 #[(0, (.const (.int .u8 2)))], none⟩,
  ⟨some 11, .call { callee := .builtin .append, args := #[(.tmp 9), (.tmp 10)], argTypes := #[22, 22] }, none⟩,
  ⟨some 12, .move (.tmp 1), none⟩,
  ⟨some 13, .call { callee := .builtin .len, args := #[(.tmp 12)], argTypes := #[22] }, none⟩,
  ⟨some 14, .call { callee := .value (.func 39), args := #[(.tmp 11), (.tmp 13)], argTypes := #[22, 3] }, none⟩,
  ⟨some 15, .move (.tmp 1), none⟩,
  ⟨some 16, .call { callee := .builtin .append, args := #[(.tmp 14), (.tmp 15)], argTypes := #[22, 22] }, none⟩,
  ⟨some 4, .assign (.tmp 16), none⟩]
def p34 : PC := (.seq (.reg r34_0) (.seq (.seq (.reg r34_1) (.cond (.tmp 7) (.seq (.reg r34_2) .ret) .skip)) (.seq (.reg r34_3) .ret)))
theorem comp34 : (Try.f34.body.map (comp E Try.f34.ntmps)) = some p34 := by kernel_rfl
theorem ev34 {args : List AV} {S : St} {P : AV → St → Prop} (hn : Nat.ble args.length 17 = true) (h : EndsA E 17 [.c p34] .nrm (initTm 0 args .leaf) S (RetQ E [.tmp 4] P)) : ∃ r S', EvA E 34 args S r S' ∧ P r S' := ev_ends (fn := Try.f34) (by kernel_rfl) rfl comp34 (by kernel_rfl) (by kernel_rfl) hn h
/-! hindsight/snap.ahead -/
def r35_0 : List POp := [
  ⟨some 4, .assign (.const (.int .i64 0)), none⟩]
def r35_1 : List POp := [
  ⟨some 5, .assign (.const (.int .i64 0)), none⟩]
def r35_2 : List POp := [
  ⟨some 6, .move (.tmp 5), none⟩,
  ⟨some 7, .move (.tmp 0), none⟩,
  ⟨some 8, .call { callee := .builtin .len, args := #[(.tmp 7)], argTypes := #[22] }, none⟩,
  ⟨some 9, .binOp .lss 3 (.tmp 6) (.tmp 8) 3, none⟩,
  ⟨some 10, .move (.tmp 9), none⟩,
  ⟨some 11, .move (.tmp 5), some (10, true)⟩,
  ⟨some 12, .move (.tmp 1), some (10, true)⟩,
  ⟨some 13, .call { callee := .builtin .len, args := #[(.tmp 12)], argTypes := #[22] }, some (10, true)⟩,
  ⟨some 14, .binOp .lss 3 (.tmp 11) (.tmp 13) 3, some (10, true)⟩,
  ⟨some 15, .pick (.tmp 10) (.tmp 14) (.const (.bool false)), none⟩,
  ⟨some 16, .move (.tmp 15), none⟩,
  ⟨some 17, .move (.tmp 0), some (16, true)⟩,
  ⟨some 18, .move (.tmp 5), some (16, true)⟩,
  ⟨some 19, .indexAddr 22 (.tmp 17) (.tmp 18), some (16, true)⟩,
  ⟨some 20, .load 5 (.tmp 19), some (16, true)⟩,
  ⟨some 21, .move (.tmp 1), some (16, true)⟩,
  ⟨some 22, .move (.tmp 5), some (16, true)⟩,
  ⟨some 23, .indexAddr 22 (.tmp 21) (.tmp 22), some (16, true)⟩,
  ⟨some 24, .load 5 (.tmp 23), some (16, true)⟩,
  ⟨some 25, .binOp .eql 5 (.tmp 20) (.tmp 24) 5, some (16, true)⟩,
  ⟨some 26, .pick (.tmp 16) (.tmp 25) (.const (.bool false)), none⟩]
def r35_3 : List POp := [
  ⟨some 27, .move (.tmp 5), none⟩,
  ⟨some 28, .binOp .add 3 (.tmp 27) (.const (.int .i64 1)) 3, none⟩,
  ⟨some 5, .assign (.tmp 28), none⟩]
def b35_4 : PC := (.seq (.seq (.regD 21 r35_2) (.cond (.tmp 26) .skip (.exit 0))) (.block 1 (.reg r35_3)))
def r35_5 : List POp := [
  ⟨some 29, .move (.tmp 5), none⟩,
  ⟨some 4, .assign (.tmp 29), none⟩]
def p35 : PC := (.seq (.reg r35_0) (.seq (.reg r35_1) (.seq (.block 0 (.loop b35_4)) (.seq (.reg r35_5) .ret))))
theorem comp35 : (Try.f35.body.map (comp E Try.f35.ntmps)) = some p35 := by kernel_rfl
theorem ev35 {args : List AV} {S : St} {P : AV → St → Prop} (hn : Nat.ble args.length 30 = true) (h : EndsA E 30 [.c p35] .nrm (initTm 0 args .leaf) S (RetQ E [.tmp 4] P)) : ∃ r S', EvA E 35 args S r S' ∧ P r S' := ev_ends (fn := Try.f35) (by kernel_rfl) rfl comp35 (by kernel_rfl) (by kernel_rfl) hn h
/-! hindsight/snap.behind -/
def r36_0 : List POp := [
  ⟨some 4, .assign (.const (.int .i64 0)), none⟩]
def r36_1 : List POp := [
  ⟨some 5, .assign (.const (.int .i64 0)), none⟩]
def r36_2 : List POp := [
  ⟨some 6, .move (.tmp 5), none⟩,
  ⟨some 7, .move (.tmp 0), none⟩,
  ⟨some 8, .call { callee := .builtin .len, args := #[(.tmp 7)], argTypes := #[22] }, none⟩,
  ⟨some 9, .binOp .lss 3 (.tmp 6) (.tmp 8) 3, none⟩,
  ⟨some 10, .move (.tmp 9), none⟩,
  ⟨some 11, .move (.tmp 5), some (10, true)⟩,
  ⟨some 12, .move (.tmp 1), some (10, true)⟩,
  ⟨some 13, .call { callee := .builtin .len, args := #[(.tmp 12)], argTypes := #[22] }, some (10, true)⟩,
  ⟨some 14, .binOp .lss 3 (.tmp 11) (.tmp 13) 3, some (10, true)⟩,
  ⟨some 15, .pick (.tmp 10) (.tmp 14) (.const (.bool false)), none⟩,
  ⟨some 16, .move (.tmp 15), none⟩,
  ⟨some 17, .move (.tmp 0), some (16, true)⟩,
  ⟨some 18, .move (.tmp 0), some (16, true)⟩,
  ⟨some 19, .call { callee := .builtin .len, args := #[(.tmp 18)], argTypes := #[22] }, some (16, true)⟩,
  ⟨some 20, .binOp .sub 3 (.tmp 19) (.const (.int .i64 1)) 3, some (16, true)⟩,
  ⟨some 21, .move (.tmp 5), some (16, true)⟩,
  ⟨some 22, .binOp .sub 3 (.tmp 20) (.tmp 21) 3, some (16, true)⟩,
  ⟨some 23, .indexAddr 22 (.tmp 17) (.tmp 22), some (16, true)⟩,
  ⟨some 24, .load 5 (.tmp 23), some (16, true)⟩,
  ⟨some 25, .move (.tmp 1), some (16, true)⟩,
  ⟨some 26, .move (.tmp 1), some (16, true)⟩,
  ⟨some 27, .call { callee := .builtin .len, args := #[(.tmp 26)], argTypes := #[22] }, some (16, true)⟩,
  ⟨some 28, .binOp .sub 3 (.tmp 27) (.const (.int .i64 1)) 3, some (16, true)⟩,
  ⟨some 29, .move (.tmp 5), some (16, true)⟩,
  ⟨some 30, .binOp .sub 3 (.tmp 28) (.tmp 29) 3, some (16, true)⟩,
  ⟨some 31, .indexAddr 22 (.tmp 25) (.tmp 30), some (16, true)⟩,
  ⟨some 32, .load 5 (.tmp 31), some (16, true)⟩,
  ⟨some 33, .binOp .eql 5 (.tmp 24) (.tmp 32) 5, some (16, true)⟩,
  ⟨some 34, .pick (.tmp 16) (.tmp 33) (.const (.bool false)), none⟩]
def r36_3 : List POp := [
  ⟨some 35, .move (.tmp 5), none⟩,
  ⟨some 36, .binOp .add 3 (.tmp 35) (.const (.int .i64 1)) 3, none⟩,
  ⟨some 5, .assign (.tmp 36), none⟩]
def b36_4 : PC := (.seq (.seq (.regD 29 r36_2) (.cond (.tmp 34) .skip (.exit 0))) (.block 1 (.reg r36_3)))
def r36_5 : List POp := [
  ⟨some 37, .move (.tmp 5), none⟩,
  ⟨some 4, .assign (.tmp 37), none⟩]
def p36 : PC := (.seq (.reg r36_0) (.seq (.reg r36_1) (.seq (.block 0 (.loop b36_4)) (.seq (.reg r36_5) .ret))))
theorem comp36 : (Try.f36.body.map (comp E Try.f36.ntmps)) = some p36 := by kernel_rfl
theorem ev36 {args : List AV} {S : St} {P : AV → St → Prop} (hn : Nat.ble args.length 38 = true) (h : EndsA E 38 [.c p36] .nrm (initTm 0 args .leaf) S (RetQ E [.tmp 4] P)) : ∃ r S', EvA E 36 args S r S' ∧ P r S' := ev_ends (fn := Try.f36) (by kernel_rfl) rfl comp36 (by kernel_rfl) (by kernel_rfl) hn h
/-! hindsight/snap.copied -/
def r37_0 : List POp := [
  ⟨some 6, .assign (.const (.slice none 0 0)), none⟩]
def r37_1 : List POp := [
  ⟨some 7, .move (.tmp 2), none⟩,
  ⟨some 8, .binOp .eql 3 (.tmp 7) (.const (.int .i64 0)) 3, none⟩]
def r37_2 : List POp := [
  ⟨some 9, .move (.tmp 0), none⟩,
  ⟨some 6, .assign (.tmp 9), none⟩]
def r37_3 : List POp := [
  ⟨some 10, .move (.tmp 0), none⟩,
  ⟨some 11, .buildSlice 22 1 #[(0, (.const (.int .u8 1)))], none⟩,
  ⟨some 12, .call { callee := .builtin .append, args := #[(.tmp 10), (.tmp 11)], argTypes := #[22, 22] }, none⟩,
  ⟨some 13, .move (.tmp 1), none⟩,
  ⟨some 14, .call { callee := .value (.func 39), args := #[(.tmp 12), (.tmp 13)], argTypes := #[22, 3] }, none⟩,
  ⟨some 15, .move (.tmp 2), none⟩,
  ⟨some 16, .call { callee := .value (.func 39), args := #[(.tmp 14), (.tmp 15)], argTypes := #[22, 3] }, none⟩,
  ⟨some 6, .assign (.tmp 16), none⟩]
def p37 : PC := (.seq (.reg r37_0) (.seq (.seq (.reg r37_1) (.cond (.tmp 8) (.seq (.reg r37_2) .ret) .skip)) (.seq (.reg r37_3) .ret)))
theorem comp37 : (Try.f37.body.map (comp E Try.f37.ntmps)) = some p37 := by kernel_rfl
theorem ev37 {args : List AV} {S : St} {P : AV → St → Prop} (hn : Nat.ble args.length 17 = true) (h : EndsA E 17 [.c p37] .nrm (initTm 0 args .leaf) S (RetQ E [.tmp 6] P)) : ∃ r S', EvA E 37 args S r S' ∧ P r S' := ev_ends (fn := Try.f37) (by kernel_rfl) rfl comp37 (by kernel_rfl) (by kernel_rfl) hn h
/-! hindsight/snap.Diff -/
def r26_0 : List POp := [
  ⟨some 4, .assign (.const (.slice none 0 0)), none⟩]
def r26_1 : List POp := [
  ⟨some 11, .move (.tmp 1), none⟩,
  ⟨some 12, .call { callee := .builtin .len, args := #[(.tmp 11)], argTypes := #[22] }, none⟩,
  ⟨some 13, .binOp .gtr 3 (.tmp 12) (.const (.int .i64 4194304)) 3, none⟩]
def r26_2 : List POp := [
  ⟨some 4, .assign (.const (.slice none 0 0)), none⟩]
def r26_3 : List POp := [
  ⟨some 14, .move (.tmp 1), none⟩,
  ⟨some 15, .call { callee := .value (.func 34), args := #[(.const (.slice none 0 0)), (.tmp 14)], argTypes := #[22, 22] }, none⟩,
  ⟨some 5, .assign (.tmp 15), none⟩]
def r26_4 : List POp := [
  ⟨some 16, .move (.tmp 0), none⟩,
  ⟨some 17, .move (.tmp 1), none⟩,
  ⟨some 18, .call { callee := .value (.func 35), args := #[(.tmp 16), (.tmp 17)], argTypes := #[22, 22] }, none⟩,
  ⟨some 6, .assign (.tmp 18), none⟩]
def r26_5 : List POp := [
  ⟨some 19, .move (.tmp 0), none⟩,
  ⟨some 20, .move (.tmp 6), none⟩,
  ⟨some 21, .slice 22 (.tmp 19) (some (.tmp 20)) none none, none⟩,
  ⟨some 22, .move (.tmp 1), none⟩,
  ⟨some 23, .move (.tmp 6), none⟩,
  ⟨some 24, .slice 22 (.tmp 22) (some (.tmp 23)) none none, none⟩,
  ⟨some 25, .call { callee := .value (.func 36), args := #[(.tmp 21), (.tmp 24)], argTypes := #[22, 22] }, none⟩,
  ⟨some 7, .assign (.tmp 25), none⟩]
def r26_6 : List POp := [
  ⟨some 26, .move (.tmp 6), none⟩,
  ⟨some 27, .move (.tmp 7), none⟩,
  ⟨some 28, .build 69 #[(0, (.tmp 26)), (1, (.tmp 27))], none⟩,
  ⟨some 29, .move (.tmp 6), none⟩,
  ⟨some 30, .build 69 #[(0, (.tmp 29)), (1, (.const (.int .i64 0)))], none⟩,
  ⟨some 31, .move (.tmp 7), none⟩,
  ⟨some 32, .build 69 #[(0, (.const (.int .i64 0))), (1, (.tmp 31))], none⟩,
  ⟨some 33, .buildSlice 70 3 #[(0, (.tmp 28)), (1, (.tmp 30)), (2, (.tmp 32))], none⟩,
  ⟨some 34, .call { callee := .builtin .len, args := #[(.tmp 33)], argTypes := #[70] }, none⟩,
  ⟨some 35, .move (.const (.int .i64 0)), none⟩]
def r26_7 : List POp := [
  ⟨some 36, .binOp .lss 3 (.tmp 35) (.tmp 34) 3, none⟩]
def r26_8 : List POp := [
  ⟨some 37, .indexAddr 70 (.tmp 33) (.tmp 35), none⟩,
  ⟨some 38, .load 69 (.tmp 37), none⟩,
  ⟨some 9, .alloc 69, none⟩,
  ⟨none, .store 69 (.tmp 9) (.tmp 38), none⟩]
def r26_9 : List POp := [
  ⟨some 39, .indexAddr 69 (.tmp 9) (.const (.int .i64 0)), none⟩,
  ⟨some 40, .load 3 (.tmp 39), none⟩,
  ⟨some 41, .call { callee := .value (.func 37), args := #[(.const (.slice none 0 0)), (.const (.int .i64 0)), (.tmp 40)], argTypes := #[22, 3, 3] }, none⟩,
  ⟨some 10, .assign (.tmp 41), none⟩]
def r26_10 : List POp := [
  ⟨some 42, .move (.tmp 10), none⟩,
  ⟨some 43, .move (.tmp 1), none⟩,
  ⟨some 44, .indexAddr 69 (.tmp 9) (.const (.int .i64 0)), none⟩,
  ⟨some 45, .load 3 (.tmp 44), none⟩,
  ⟨some 46, .move (.tmp 1), none⟩,
  ⟨some 47, .call { callee := .builtin .len, args := #[(.tmp 46)], argTypes := #[22] }, none⟩,
  ⟨some 48, .indexAddr 69 (.tmp 9) (.const (.int .i64 1)), none⟩,
  ⟨some 49, .load 3 (.tmp 48), none⟩,
  ⟨some 50, .binOp .sub 3 (.tmp 47) (.tmp 49) 3, none⟩,
  ⟨some 51, .slice 22 (.tmp 43) (some (.tmp 45)) (some (.tmp 50)) none, none⟩,
  ⟨some 52, .call { callee := .value (.func 34), args := #[(.tmp 42), (.tmp 51)], argTypes := #[22, 22] }, none⟩,
  ⟨some 10, .assign (.tmp 52), none⟩]
def r26_11 : List POp := [
  ⟨some 53, .move (.tmp 10), none⟩,
  ⟨some 54, .move (.tmp 0), none⟩,
  ⟨some 55, .call { callee := .builtin .len, args := #[(.tmp 54)], argTypes := #[22] }, none⟩,
  ⟨some 56, .indexAddr 69 (.tmp 9) (.const (.int .i64 1)), none⟩,
  ⟨some 57, .load 3 (.tmp 56), none⟩,
  ⟨some 58, .binOp .sub 3 (.tmp 55) (.tmp 57) 3, none⟩,
  ⟨some 59, .indexAddr 69 (.tmp 9) (.const (.int .i64 1)), none⟩,
  ⟨some 60, .load 3 (.tmp 59), none⟩,
  ⟨some 61, .call { callee := .value (.func 37), args := #[(.tmp 53), (.tmp 58), (.tmp 60)], argTypes := #[22, 3, 3] }, none⟩,
  ⟨some 10, .assign (.tmp 61), none⟩]
def r26_12 : List POp := [
  ⟨some 62, .move (.tmp 10), none⟩,
  ⟨some 63, .call { callee := .builtin .len, args := #[(.tmp 62)], argTypes := #[22] }, none⟩,
  ⟨some 64, .move (.tmp 5), none⟩,
  ⟨some 65, .call { callee := .builtin .len, args := #[(.tmp 64)], argTypes := #[22] }, none⟩,
  ⟨some 66, .binOp .lss 3 (.tmp 63) (.tmp 65) 3, none⟩]
def r26_13 : List POp := [
  ⟨some 67, .move (.tmp 10), none⟩,
  ⟨some 5, .assign (.tmp 67), none⟩]
def r26_14 : List POp := [
  ⟨some 68, .binOp .add 3 (.tmp 35) (.const (.int .i64 1)) 3, none⟩,
  ⟨some 35, .move (.tmp 68), none⟩]
def b26_15 : PC := (.seq (.reg r26_7) (.seq (.cond (.tmp 36) .skip (.exit 0)) (.seq (.block 1 (.seq (.reg r26_8) (.seq (.reg r26_9) (.seq (.reg r26_10) (.seq (.reg r26_11) (.seq (.reg r26_12) (.cond (.tmp 66) (.reg r26_13) .skip))))))) (.reg r26_14))))
def r26_16 : List POp := [
  ⟨some 69, .move (.tmp 5), none⟩,
  ⟨some 4, .assign (.tmp 69), none⟩]
def p26 : PC := (.seq (.reg r26_0) (.seq (.seq (.reg r26_1) (.cond (.tmp 13) (.seq (.reg r26_2) .ret) .skip)) (.seq (.reg r26_3) (.seq (.reg r26_4) (.seq (.regD 8 r26_5) (.seq (.seq (.reg r26_6) (.block 0 (.loop b26_15))) (.seq (.reg r26_16) .ret)))))))
theorem comp26 : (Try.f26.body.map (comp E Try.f26.ntmps)) = some p26 := by kernel_rfl
theorem ev26 {args : List AV} {S : St} {P : AV → St → Prop} (hn : Nat.ble args.length 70 = true) (h : EndsA E 70 [.c p26] .nrm (initTm 0 args .leaf) S (RetQ E [.tmp 4] P)) : ∃ r S', EvA E 26 args S r S' ∧ P r S' := ev_ends (fn := Try.f26) (by kernel_rfl) rfl comp26 (by kernel_rfl) (by kernel_rfl) hn h
/-! hindsight/hindsightlaw21.SnapSays -/
def r3_0 : List POp := [
  ⟨some 4, .assign (.const (.bool false)), none⟩]
def r3_1 : List POp := [
  ⟨some 9, .call { callee := .value (.func 12), args := #[], argTypes := #[] }, none⟩,
  ⟨some 10, .unOp .not 4 (.tmp 9), none⟩]
def r3_2 : List POp := [
  ⟨some 4, .assign (.const (.bool false)), none⟩]
def r3_3 : List POp := [
  ⟨some 11, .move (.tmp 0), none⟩,
  ⟨some 12, .call { callee := .builtin .len, args := #[(.tmp 11)], argTypes := #[22] }, none⟩,
  ⟨some 13, .binOp .gtr 3 (.tmp 12) (.const (.int .i64 300)) 3, none⟩,
  ⟨some 14, .move (.tmp 13), none⟩,
  ⟨some 15, .move (.tmp 1), some (14, false)⟩,
  ⟨some 16, .call { callee := .builtin .len, args := #[(.tmp 15)], argTypes := #[22] }, some (14, false)⟩,
  ⟨some 17, .binOp .gtr 3 (.tmp 16) (.const (.int .i64 300)) 3, some (14, false)⟩,
  ⟨some 18, .pick (.tmp 14) (.const (.bool true)) (.tmp 17), none⟩]
def r3_4 : List POp := [
  ⟨some 4, .assign (.const (.bool true)), none⟩]
def r3_5 : List POp := [
  ⟨some 20, .move (.tmp 0), none⟩,
  ⟨some 21, .move (.tmp 1), none⟩,
  ⟨some 22, .call { callee := .value (.func 13), args := #[(.tmp 20), (.tmp 21)], argTypes := #[22, 22] }, none⟩,
  ⟨some 19, .move (.tmp 22), none⟩,
  ⟨some 23, .extract (.tmp 19) 0, none⟩,
  ⟨some 24, .extract (.tmp 19) 1, none⟩,
  ⟨some 5, .assign (.tmp 23), none⟩,
  ⟨some 6, .assign (.tmp 24), none⟩]
def r3_6 : List POp := [
  ⟨some 26, .move (.tmp 0), none⟩,
  ⟨some 27, .move (.tmp 1), none⟩,
  ⟨some 28, .call { callee := .value (.func 14), args := #[(.tmp 26), (.tmp 27)], argTypes := #[22, 22] }, none⟩,
  ⟨some 25, .move (.tmp 28), none⟩,
  ⟨some 29, .extract (.tmp 25) 0, none⟩,
  ⟨some 30, .extract (.tmp 25) 1, none⟩,
  ⟨some 7, .assign (.tmp 29), none⟩,
  ⟨some 8, .assign (.tmp 30), none⟩]
def r3_7 : List POp := [
  ⟨some 31, .move (.tmp 5), none⟩,
  ⟨some 32, .convert 22 9 (.tmp 31), none⟩,
  ⟨some 33, .move (.tmp 7), none⟩,
  ⟨some 34, .convert 22 9 (.tmp 33), none⟩,
  ⟨some 35, .binOp .eql 9 (.tmp 32) (.tmp 34) 9, none⟩,
  ⟨some 36, .move (.tmp 35), none⟩,
  ⟨some 37, .move (.tmp 6), some (36, true)⟩,
  ⟨some 38, .move (.tmp 8), some (36, true)⟩,
  ⟨some 39, .binOp .eql 24 (.tmp 37) (.tmp 38) 24, some (36, true)⟩,
  ⟨some 40, .pick (.tmp 36) (.tmp 39) (.const (.bool false)), none⟩,
  ⟨some 41, .move (.tmp 40), none⟩,
  ⟨some 42, .move (.tmp 0), some (41, true)⟩,
  ⟨some 43, .call { callee := .value (.func 15), args := #[(.tmp 42)], argTypes := #[22] }, some (41, true)⟩,
  ⟨some 44, .move (.tmp 0), some (41, true)⟩,
  ⟨some 45, .call { callee := .value (.func 16), args := #[(.tmp 44)], argTypes := #[22] }, some (41, true)⟩,
  ⟨some 46, .binOp .eql 27 (.tmp 43) (.tmp 45) 27, some (41, true)⟩,
  ⟨some 47, .pick (.tmp 41) (.tmp 46) (.const (.bool false)), none⟩,
  ⟨some 4, .assign (.tmp 47), none⟩]
def p3 : PC := (.seq (.reg r3_0) (.seq (.seq (.reg r3_1) (.cond (.tmp 10) (.seq (.reg r3_2) .ret) .skip)) (.seq (.seq (.reg r3_3) (.cond (.tmp 18) (.seq (.reg r3_4) .ret) .skip)) (.seq (.reg r3_5) (.seq (.reg r3_6) (.seq (.reg r3_7) .ret))))))
theorem comp3 : (Try.f3.body.map (comp E Try.f3.ntmps)) = some p3 := by kernel_rfl
theorem ev3 {args : List AV} {S : St} {P : AV → St → Prop} (hn : Nat.ble args.length 48 = true) (h : EndsA E 48 [.c p3] .nrm (initTm 0 args .leaf) S (RetQ E [.tmp 4] P)) : ∃ r S', EvA E 3 args S r S' ∧ P r S' := ev_ends (fn := Try.f3) (by kernel_rfl) rfl comp3 (by kernel_rfl) (by kernel_rfl) hn h
end Go.Proofs.Ytpahkfadibcdgaa
