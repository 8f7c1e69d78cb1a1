/-
  The compiled code of functions of this seat's program, and facts on its types: written by program (wip/GenPC.lean); the kernel checks each row.
-/
import Derived.Test.YtmmnkemcplgebaaGreatDoorRows
import Derived.Test.YtmmnkemcplgebaaGreatDoorQBA
section
section
set_option linter.unusedSimpArgs false
set_option linter.unusedVariables false
set_option maxRecDepth 100000
namespace Go.Proofs.YtmmnkemcplgebaaGreatDoor
open Go.Abs
noncomputable def E : Env := { plainEnv Tryz.prog (fun t d => (Nat.beq t 31 && isDst d 26)) (fun _ _ => none) (extOf [] [86]) with G := tabs, X := fun f => bif Nat.beq f 145 then some (pureX exclF) else bif Nat.beq f 115 then some (pureX decF) else bif Nat.beq f 7 then some (memoX (.bool true)) else bif Nat.beq f 62 then some copyX else bif Nat.beq f 65 then some (pureX fmtF) else bif Nat.beq f 64 then some joinX else bif Nat.beq f 33 then some (sortedV 60) else none }
theorem load2 {tm : PM AV} {S : St} {d : Option Tmp} (x : Operand) : opV E tm d (.load 2 x) S = loadC false 1 (E.ev tm x) S := load_chk 2 false 1 (by kernel_rfl) x
theorem load3 {tm : PM AV} {S : St} {d : Option Tmp} (x : Operand) : opV E tm d (.load 3 x) S = loadC false 1 (E.ev tm x) S := load_chk 3 false 1 (by kernel_rfl) x
theorem store3 {tm : PM AV} {S : St} {d : Option Tmp} (x y : Operand) : opV E tm d (.store 3 x y) S = storeC 1 (E.ev tm x) (E.ev tm y) S := store_chk (b := false) 3 1 (by kernel_rfl) x y
theorem load5 {tm : PM AV} {S : St} {d : Option Tmp} (x : Operand) : opV E tm d (.load 5 x) S = loadC false 1 (E.ev tm x) S := load_chk 5 false 1 (by kernel_rfl) x
theorem load9 {tm : PM AV} {S : St} {d : Option Tmp} (x : Operand) : opV E tm d (.load 9 x) S = loadC false 1 (E.ev tm x) S := load_chk 9 false 1 (by kernel_rfl) x
theorem store9 {tm : PM AV} {S : St} {d : Option Tmp} (x y : Operand) : opV E tm d (.store 9 x y) S = storeC 1 (E.ev tm x) (E.ev tm y) S := store_chk (b := false) 9 1 (by kernel_rfl) x y
theorem load22 {tm : PM AV} {S : St} {d : Option Tmp} (x : Operand) : opV E tm d (.load 22 x) S = loadC false 1 (E.ev tm x) S := load_chk 22 false 1 (by kernel_rfl) x
theorem store22 {tm : PM AV} {S : St} {d : Option Tmp} (x y : Operand) : opV E tm d (.store 22 x y) S = storeC 1 (E.ev tm x) (E.ev tm y) S := store_chk (b := false) 22 1 (by kernel_rfl) x y
theorem und22 : E.und 22 = some (.slice 30) := by kernel_rfl
theorem el22 : elIs E 22 30 true 7 88 = true := by kernel_rfl
theorem bs22 {tm : PM AV} {S : St} {d : Option Tmp} (n : Nat) (ps : Array (Nat × Operand)) : opV E tm d (.buildSlice 22 n ps) S = buildSliceA E 22 n (ps.toList.map fun p => (p.1, E.ev tm p.2)) S := rfl
theorem app22 {tm : PM AV} {S : St} {d : Option Tmp} (x y : Operand) (t1 : TypeId) : opV E tm d (.call (Call.mk (.builtin .append) #[x, y] #[22, t1])) S = builtinA E false .append [22, t1] [E.ev tm x, E.ev tm y] S := rfl
theorem index22 {tm : PM AV} {S : St} {d : Option Tmp} (x y : Operand) : opV E tm d (.indexAddr 22 x y) S = idxV 7 (E.ev tm x) (int? (E.ev tm y)) S := index_chk 22 7 (by kernel_rfl) x y
theorem len22 {tm : PM AV} {S : St} {d : Option Tmp} (x : Operand) : opV E tm d (.call (Call.mk (.builtin .len) #[x] #[22])) S = lenV (E.ev tm x) S := op_len (t := 22) (e := 30) (by kernel_rfl) x
theorem load23 {tm : PM AV} {S : St} {d : Option Tmp} (x : Operand) : opV E tm d (.load 23 x) S = loadC false 1 (E.ev tm x) S := load_chk 23 false 1 (by kernel_rfl) x
theorem index23 {tm : PM AV} {S : St} {d : Option Tmp} (x y : Operand) : opV E tm d (.indexAddr 23 x y) S = idxV 2 (E.ev tm x) (int? (E.ev tm y)) S := index_chk 23 2 (by kernel_rfl) x y
theorem len23 {tm : PM AV} {S : St} {d : Option Tmp} (x : Operand) : opV E tm d (.call (Call.mk (.builtin .len) #[x] #[23])) S = lenV (E.ev tm x) S := op_len (t := 23) (e := 56) (by kernel_rfl) x
theorem load25 {tm : PM AV} {S : St} {d : Option Tmp} (x : Operand) : opV E tm d (.load 25 x) S = loadC true 2 (E.ev tm x) S := load_chk 25 true 2 (by kernel_rfl) x
theorem store25 {tm : PM AV} {S : St} {d : Option Tmp} (x y : Operand) : opV E tm d (.store 25 x y) S = storeC 2 (E.ev tm x) (E.ev tm y) S := store_chk (b := true) 25 2 (by kernel_rfl) x y
theorem load28 {tm : PM AV} {S : St} {d : Option Tmp} (x : Operand) : opV E tm d (.load 28 x) S = loadC false 1 (E.ev tm x) S := load_chk 28 false 1 (by kernel_rfl) x
theorem und28 : E.und 28 = some (.slice 3) := by kernel_rfl
theorem el28 : elIs E 28 3 false 1 8 = true := by kernel_rfl
theorem bs28 {tm : PM AV} {S : St} {d : Option Tmp} (n : Nat) (ps : Array (Nat × Operand)) : opV E tm d (.buildSlice 28 n ps) S = buildSliceA E 28 n (ps.toList.map fun p => (p.1, E.ev tm p.2)) S := rfl
theorem app28 {tm : PM AV} {S : St} {d : Option Tmp} (x y : Operand) (t1 : TypeId) : opV E tm d (.call (Call.mk (.builtin .append) #[x, y] #[28, t1])) S = builtinA E false .append [28, t1] [E.ev tm x, E.ev tm y] S := rfl
theorem index28 {tm : PM AV} {S : St} {d : Option Tmp} (x y : Operand) : opV E tm d (.indexAddr 28 x y) S = idxV 1 (E.ev tm x) (int? (E.ev tm y)) S := index_chk 28 1 (by kernel_rfl) x y
theorem len28 {tm : PM AV} {S : St} {d : Option Tmp} (x : Operand) : opV E tm d (.call (Call.mk (.builtin .len) #[x] #[28])) S = lenV (E.ev tm x) S := op_len (t := 28) (e := 3) (by kernel_rfl) x
theorem load30 {tm : PM AV} {S : St} {d : Option Tmp} (x : Operand) : opV E tm d (.load 30 x) S = loadC true 7 (E.ev tm x) S := load_chk 30 true 7 (by kernel_rfl) x
theorem store30 {tm : PM AV} {S : St} {d : Option Tmp} (x y : Operand) : opV E tm d (.store 30 x y) S = storeC 7 (E.ev tm x) (E.ev tm y) S := store_chk (b := true) 30 7 (by kernel_rfl) x y
theorem load31 {tm : PM AV} {S : St} {d : Option Tmp} (x : Operand) : opV E tm d (.load 31 x) S = loadC false 1 (E.ev tm x) S := load_chk 31 false 1 (by kernel_rfl) x
theorem store31 {tm : PM AV} {S : St} {d : Option Tmp} (x y : Operand) : opV E tm d (.store 31 x y) S = storeC 1 (E.ev tm x) (E.ev tm y) S := store_chk (b := false) 31 1 (by kernel_rfl) x y
theorem und31 : E.und 31 = some (.slice 9) := by kernel_rfl
theorem sl31 : slIs E 31 1 = true := by kernel_rfl
theorem el31 : elIs E 31 9 false 1 16 = true := by kernel_rfl
theorem hp31 {k : Nat} (hk26 : (k == 26) = false) : E.hp 31 (some k) = false := by
 show isDst (some k) 26 = false
 simp only [isDst] at *
 simp [hk26]
theorem bs31 {tm : PM AV} {S : St} {k : Nat} (hk26 : (k == 26) = false) (n : Nat) (ps : Array (Nat × Operand)) : opV E tm (some k) (.buildSlice 31 n ps) S = buildSliceA E 31 n (ps.toList.map fun p => (p.1, E.ev tm p.2)) S := by
 have h1 : isMk E (opOf (some k) (.buildSlice 31 n ps)) = false := hp31 hk26
 simp only [opV, evOp, h1, cond_false]; rfl
theorem app31 {tm : PM AV} {S : St} {k : Nat} (hk26 : (k == 26) = false) (x y : Operand) (t1 : TypeId) : opV E tm (some k) (.call (Call.mk (.builtin .append) #[x, y] #[31, t1])) S = builtinA E false .append [31, t1] [E.ev tm x, E.ev tm y] S := by
 have h : opV E tm (some k) (.call (Call.mk (.builtin .append) #[x, y] #[31, t1])) S = builtinA E (E.hp 31 (some k)) .append [31, t1] [E.ev tm x, E.ev tm y] S := rfl
 rw [h, hp31 hk26]
theorem app31m {tm : PM AV} {S : St} (x y : Operand) (t1 : TypeId) : opV E tm (some 26) (.call (Call.mk (.builtin .append) #[x, y] #[31, t1])) S = builtinA E true .append [31, t1] [E.ev tm x, E.ev tm y] S := rfl
theorem index31 {tm : PM AV} {S : St} {d : Option Tmp} (x y : Operand) : opV E tm d (.indexAddr 31 x y) S = idxV 1 (E.ev tm x) (int? (E.ev tm y)) S := index_chk 31 1 (by kernel_rfl) x y
theorem len31 {tm : PM AV} {S : St} {d : Option Tmp} (x : Operand) : opV E tm d (.call (Call.mk (.builtin .len) #[x] #[31])) S = lenV (E.ev tm x) S := op_len (t := 31) (e := 9) (by kernel_rfl) x
theorem load54 {tm : PM AV} {S : St} {d : Option Tmp} (x : Operand) : opV E tm d (.load 54 x) S = loadC false 1 (E.ev tm x) S := load_chk 54 false 1 (by kernel_rfl) x
theorem index54 {tm : PM AV} {S : St} {d : Option Tmp} (x y : Operand) : opV E tm d (.indexAddr 54 x y) S = idxV 2 (E.ev tm x) (int? (E.ev tm y)) S := index_chk 54 2 (by kernel_rfl) x y
theorem len54 {tm : PM AV} {S : St} {d : Option Tmp} (x : Operand) : opV E tm d (.call (Call.mk (.builtin .len) #[x] #[54])) S = lenV (E.ev tm x) S := op_len (t := 54) (e := 58) (by kernel_rfl) x
theorem load56 {tm : PM AV} {S : St} {d : Option Tmp} (x : Operand) : opV E tm d (.load 56 x) S = loadC true 2 (E.ev tm x) S := load_chk 56 true 2 (by kernel_rfl) x
theorem store56 {tm : PM AV} {S : St} {d : Option Tmp} (x y : Operand) : opV E tm d (.store 56 x y) S = storeC 2 (E.ev tm x) (E.ev tm y) S := store_chk (b := true) 56 2 (by kernel_rfl) x y
theorem load58 {tm : PM AV} {S : St} {d : Option Tmp} (x : Operand) : opV E tm d (.load 58 x) S = loadC true 2 (E.ev tm x) S := load_chk 58 true 2 (by kernel_rfl) x
theorem store58 {tm : PM AV} {S : St} {d : Option Tmp} (x y : Operand) : opV E tm d (.store 58 x y) S = storeC 2 (E.ev tm x) (E.ev tm y) S := store_chk (b := true) 58 2 (by kernel_rfl) x y
theorem load73 {tm : PM AV} {S : St} {d : Option Tmp} (x : Operand) : opV E tm d (.load 73 x) S = loadC false 1 (E.ev tm x) S := load_chk 73 false 1 (by kernel_rfl) x
theorem store73 {tm : PM AV} {S : St} {d : Option Tmp} (x y : Operand) : opV E tm d (.store 73 x y) S = storeC 1 (E.ev tm x) (E.ev tm y) S := store_chk (b := false) 73 1 (by kernel_rfl) x y
theorem load74 {tm : PM AV} {S : St} {d : Option Tmp} (x : Operand) : opV E tm d (.load 74 x) S = loadC false 1 (E.ev tm x) S := load_chk 74 false 1 (by kernel_rfl) x
theorem store74 {tm : PM AV} {S : St} {d : Option Tmp} (x y : Operand) : opV E tm d (.store 74 x y) S = storeC 1 (E.ev tm x) (E.ev tm y) S := store_chk (b := false) 74 1 (by kernel_rfl) x y
theorem el74 : elIs E 74 5 false 1 1 = true := by kernel_rfl
theorem app74 {tm : PM AV} {S : St} {d : Option Tmp} (x y : Operand) (t1 : TypeId) : opV E tm d (.call (Call.mk (.builtin .append) #[x, y] #[74, t1])) S = builtinA E false .append [74, t1] [E.ev tm x, E.ev tm y] S := rfl
theorem len74 {tm : PM AV} {S : St} {d : Option Tmp} (x : Operand) : opV E tm d (.call (Call.mk (.builtin .len) #[x] #[74])) S = lenV (E.ev tm x) S := op_len (t := 74) (e := 5) (by kernel_rfl) x
theorem load133 {tm : PM AV} {S : St} {d : Option Tmp} (x : Operand) : opV E tm d (.load 133 x) S = loadC true 4 (E.ev tm x) S := load_chk 133 true 4 (by kernel_rfl) x
theorem store133 {tm : PM AV} {S : St} {d : Option Tmp} (x y : Operand) : opV E tm d (.store 133 x y) S = storeC 4 (E.ev tm x) (E.ev tm y) S := store_chk (b := true) 133 4 (by kernel_rfl) x y
theorem load176 {tm : PM AV} {S : St} {d : Option Tmp} (x : Operand) : opV E tm d (.load 176 x) S = loadC false 1 (E.ev tm x) S := load_chk 176 false 1 (by kernel_rfl) x
theorem conv21_2 {S : St} (mu : Bool) (n : Int) : convertA E mu 21 2 (.sc (.int .i32 n)) S = some (.sc (.int .i64 (IntKind.wrap .i64 n)), S) := conv_chk 21 2 .i32 .i64 n (by kernel_rfl) (by kernel_rfl)
theorem conv21_5 {S : St} (mu : Bool) (n : Int) : convertA E mu 21 5 (.sc (.int .i32 n)) S = some (.sc (.int .u8 (IntKind.wrap .u8 n)), S) := conv_chk 21 5 .i32 .u8 n (by kernel_rfl) (by kernel_rfl)
theorem conv21_145 {S : St} (mu : Bool) (n : Int) : convertA E mu 21 145 (.sc (.int .i32 n)) S = some (.sc (.int .u32 (IntKind.wrap .u32 n)), S) := conv_chk 21 145 .i32 .u32 n (by kernel_rfl) (by kernel_rfl)
theorem callG (i : FuncId) (hx : E.ext i = none) {nt : Nat} {k : List KI} {tm : PM AV} {S : St} {Q : PostA} (d : Option Tmp) (xs : Array Operand) (ats : Array TypeId) (r : List POp) : EndsA E nt (.c (.reg (⟨d, .call (Call.mk (.value (.func i)) xs ats), none⟩ :: r)) :: k) .nrm tm S Q = CallK E nt i (xs.toList.map (E.ev tm)) d r k tm S Q := e_call d i xs ats r hx
abbrev EvC (i nt : Nat) (p : PC) (rv : List ResultVar) : Prop := ∀ {args : List AV} {S : St} {P : AV → St → Prop}, Nat.ble args.length nt = true → EndsA E nt [.c p] .nrm (initTm 0 args .leaf) S (RetQ E rv P) → ∃ r S', EvA E i args S r S' ∧ P r S'
theorem call7 : type_of% (@callG 7 rfl) := callG 7 rfl
theorem call8 : type_of% (@callG 8 rfl) := callG 8 rfl
theorem call9 : type_of% (@callG 9 rfl) := callG 9 rfl
theorem call10 : type_of% (@callG 10 rfl) := callG 10 rfl
theorem call11 : type_of% (@callG 11 rfl) := callG 11 rfl
theorem call12 : type_of% (@callG 12 rfl) := callG 12 rfl
theorem call13 : type_of% (@callG 13 rfl) := callG 13 rfl
theorem call14 : type_of% (@callG 14 rfl) := callG 14 rfl
theorem call15 : type_of% (@callG 15 rfl) := callG 15 rfl
theorem call17 : type_of% (@callG 17 rfl) := callG 17 rfl
theorem call27 : type_of% (@callG 27 rfl) := callG 27 rfl
theorem call28 : type_of% (@callG 28 rfl) := callG 28 rfl
theorem call29 : type_of% (@callG 29 rfl) := callG 29 rfl
theorem call30 : type_of% (@callG 30 rfl) := callG 30 rfl
theorem call31 : type_of% (@callG 31 rfl) := callG 31 rfl
theorem call32 : type_of% (@callG 32 rfl) := callG 32 rfl
theorem call33 : type_of% (@callG 33 rfl) := callG 33 rfl
theorem call34 : type_of% (@callG 34 rfl) := callG 34 rfl
theorem call35 : type_of% (@callG 35 rfl) := callG 35 rfl
theorem call36 : type_of% (@callG 36 rfl) := callG 36 rfl
theorem call37 : type_of% (@callG 37 rfl) := callG 37 rfl
theorem call38 : type_of% (@callG 38 rfl) := callG 38 rfl
theorem call39 : type_of% (@callG 39 rfl) := callG 39 rfl
theorem call40 : type_of% (@callG 40 rfl) := callG 40 rfl
theorem call41 : type_of% (@callG 41 rfl) := callG 41 rfl
theorem call49 : type_of% (@callG 49 rfl) := callG 49 rfl
theorem call50 : type_of% (@callG 50 rfl) := callG 50 rfl
theorem call51 : type_of% (@callG 51 rfl) := callG 51 rfl
theorem call53 : type_of% (@callG 53 rfl) := callG 53 rfl
theorem call55 : type_of% (@callG 55 rfl) := callG 55 rfl
theorem call56 : type_of% (@callG 56 rfl) := callG 56 rfl
theorem call57 : type_of% (@callG 57 rfl) := callG 57 rfl
theorem call61 : type_of% (@callG 61 rfl) := callG 61 rfl
theorem call62 : type_of% (@callG 62 rfl) := callG 62 rfl
theorem call63 : type_of% (@callG 63 rfl) := callG 63 rfl
theorem call64 : type_of% (@callG 64 rfl) := callG 64 rfl
theorem call65 : type_of% (@callG 65 rfl) := callG 65 rfl
theorem call66 : type_of% (@callG 66 rfl) := callG 66 rfl
theorem call67 : type_of% (@callG 67 rfl) := callG 67 rfl
theorem call68 : type_of% (@callG 68 rfl) := callG 68 rfl
theorem call77 : type_of% (@callG 77 rfl) := callG 77 rfl
theorem call78 : type_of% (@callG 78 rfl) := callG 78 rfl
theorem call79 : type_of% (@callG 79 rfl) := callG 79 rfl
theorem call80 : type_of% (@callG 80 rfl) := callG 80 rfl
theorem call81 : type_of% (@callG 81 rfl) := callG 81 rfl
theorem call82 : type_of% (@callG 82 rfl) := callG 82 rfl
theorem call89 : type_of% (@callG 89 rfl) := callG 89 rfl
theorem call90 : type_of% (@callG 90 rfl) := callG 90 rfl
theorem call94 : type_of% (@callG 94 rfl) := callG 94 rfl
theorem call115 : type_of% (@callG 115 rfl) := callG 115 rfl
theorem call116 : type_of% (@callG 116 rfl) := callG 116 rfl
theorem call117 : type_of% (@callG 117 rfl) := callG 117 rfl
theorem call118 : type_of% (@callG 118 rfl) := callG 118 rfl
theorem call120 : type_of% (@callG 120 rfl) := callG 120 rfl
theorem call121 : type_of% (@callG 121 rfl) := callG 121 rfl
theorem call133 : type_of% (@callG 133 rfl) := callG 133 rfl
theorem call135 : type_of% (@callG 135 rfl) := callG 135 rfl
theorem call139 : type_of% (@callG 139 rfl) := callG 139 rfl
theorem call140 : type_of% (@callG 140 rfl) := callG 140 rfl
theorem call141 : type_of% (@callG 141 rfl) := callG 141 rfl
theorem call145 : type_of% (@callG 145 rfl) := callG 145 rfl
theorem call146 : type_of% (@callG 146 rfl) := callG 146 rfl
def r4_0 : List POp := [
 ⟨some 1, .box 25 (.tmp 0), none⟩,
 ⟨some 2, .assign (.const (.bool false)), none⟩]
def r4_1 : List POp := [
 ⟨some 8, .call { callee := .value (.func 7), args := #[], argTypes := #[] }, none⟩,
 ⟨some 9, .unOp .not 4 (.tmp 8), none⟩]
def r4_2 : List POp := [
 ⟨some 2, .assign (.const (.bool false)), none⟩]
def r4_3 : List POp := [
 ⟨some 10, .load 25 (.tmp 1), none⟩,
 ⟨some 11, .call { callee := .value (.func 8), args := #[(.tmp 10)], argTypes := #[25] }, none⟩,
 ⟨some 12, .move (.tmp 11), none⟩,
 ⟨some 13, .load 25 (.tmp 1), some (12, false)⟩,
 ⟨some 14, .call { callee := .value (.func 9), args := #[(.tmp 13)], argTypes := #[25] }, some (12, false)⟩,
 ⟨some 15, .unOp .not 4 (.tmp 14), some (12, false)⟩,
 ⟨some 16, .pick (.tmp 12) (.const (.bool true)) (.tmp 15), none⟩]
def r4_4 : List POp := [
 ⟨some 2, .assign (.const (.bool true)), none⟩]
def r4_5 : List POp := [
 ⟨some 17, .load 25 (.tmp 1), none⟩,
 ⟨some 18, .call { callee := .value (.func 12), args := #[(.tmp 17)], argTypes := #[25] }, none⟩,
 ⟨some 3, .assign (.tmp 18), none⟩]
def r4_6 : List POp := [
 ⟨some 4, .assign (.const (.int .i64 0)), none⟩]
def r4_7 : List POp := [
 ⟨some 5, .assign (.const (.int .i64 0)), none⟩]
def r4_8 : List POp := [
 ⟨some 19, .move (.tmp 5), none⟩,
 ⟨some 20, .fieldAddr 25 (.tmp 1) 0, none⟩,
 ⟨some 21, .load 22 (.tmp 20), none⟩,
 ⟨some 22, .call { callee := .builtin .len, args := #[(.tmp 21)], argTypes := #[22] }, none⟩,
 ⟨some 23, .binOp .lss 3 (.tmp 19) (.tmp 22) 3, none⟩]
def r4_9 : List POp := [
 ⟨some 26, .fieldAddr 25 (.tmp 1) 0, none⟩,
 ⟨some 27, .load 22 (.tmp 26), none⟩,
 ⟨some 28, .move (.tmp 5), none⟩,
 ⟨some 29, .indexAddr 22 (.tmp 27) (.tmp 28), none⟩,
 ⟨some 30, .fieldAddr 30 (.tmp 29) 0, none⟩,
 ⟨some 31, .load 3 (.tmp 30), none⟩,
 ⟨some 6, .assign (.tmp 31), none⟩]
def r4_10 : List POp := [
 ⟨some 32, .move (.tmp 6), none⟩,
 ⟨some 33, .binOp .geq 3 (.tmp 32) (.const (.int .i64 7)) 3, none⟩,
 ⟨some 34, .move (.tmp 33), none⟩,
 ⟨some 35, .move (.tmp 6), some (34, true)⟩,
 ⟨some 36, .binOp .leq 3 (.tmp 35) (.const (.int .i64 11)) 3, some (34, true)⟩,
 ⟨some 37, .pick (.tmp 34) (.tmp 36) (.const (.bool false)), none⟩,
 ⟨some 38, .move (.tmp 37), none⟩,
 ⟨some 39, .move (.tmp 6), some (38, false)⟩,
 ⟨some 40, .binOp .eql 3 (.tmp 39) (.const (.int .i64 13)) 3, some (38, false)⟩,
 ⟨some 41, .pick (.tmp 38) (.const (.bool true)) (.tmp 40), none⟩,
 ⟨some 42, .move (.tmp 41), none⟩,
 ⟨some 43, .move (.tmp 6), some (42, false)⟩,
 ⟨some 44, .binOp .geq 3 (.tmp 43) (.const (.int .i64 17)) 3, some (42, false)⟩,
 ⟨some 45, .move (.tmp 44), some (42, false)⟩,
 ⟨some 46, .move (.tmp 6), some (45, true)⟩,
 ⟨some 47, .binOp .leq 3 (.tmp 46) (.const (.int .i64 20)) 3, some (45, true)⟩,
 ⟨some 48, .pick (.tmp 45) (.tmp 47) (.const (.bool false)), some (42, false)⟩,
 ⟨some 49, .pick (.tmp 42) (.const (.bool true)) (.tmp 48), none⟩,
 ⟨some 7, .assign (.tmp 49), none⟩]
def r4_11 : List POp := [
 ⟨some 50, .move (.tmp 7), none⟩]
def r4_12 : List POp := [
 ⟨some 51, .move (.tmp 4), none⟩,
 ⟨some 52, .move (.tmp 3), none⟩,
 ⟨some 53, .call { callee := .builtin .len, args := #[(.tmp 52)], argTypes := #[28] }, none⟩,
 ⟨some 54, .binOp .geq 3 (.tmp 51) (.tmp 53) 3, none⟩,
 ⟨some 55, .move (.tmp 54), none⟩,
 ⟨some 56, .move (.tmp 3), some (55, false)⟩,
 ⟨some 57, .move (.tmp 4), some (55, false)⟩,
 ⟨some 58, .indexAddr 28 (.tmp 56) (.tmp 57), some (55, false)⟩,
 ⟨some 59, .load 3 (.tmp 58), some (55, false)⟩,
 ⟨some 60, .move (.tmp 5), some (55, false)⟩,
 ⟨some 61, .binOp .neq 3 (.tmp 59) (.tmp 60) 3, some (55, false)⟩,
 ⟨some 62, .pick (.tmp 55) (.const (.bool true)) (.tmp 61), none⟩]
def r4_13 : List POp := [
 ⟨some 2, .assign (.const (.bool false)), none⟩]
def r4_14 : List POp := [
 ⟨some 63, .move (.tmp 4), none⟩,
 ⟨some 64, .binOp .add 3 (.tmp 63) (.const (.int .i64 1)) 3, none⟩,
 ⟨some 4, .assign (.tmp 64), none⟩]
def r4_15 : List POp := [
 ⟨some 24, .move (.tmp 5), none⟩,
 ⟨some 25, .binOp .add 3 (.tmp 24) (.const (.int .i64 1)) 3, none⟩,
 ⟨some 5, .assign (.tmp 25), none⟩]
noncomputable def b4_16 : PC := (.seq (.seq (.reg r4_8) (.cond (.tmp 23) .skip (.exit 0))) (.seq (.block 1 (.seq (.reg r4_9) (.seq (.reg r4_10) (.seq (.reg r4_11) (.cond (.tmp 50) (.seq (.seq (.reg r4_12) (.cond (.tmp 62) (.seq (.reg r4_13) .ret) .skip)) (.reg r4_14)) .skip))))) (.reg r4_15)))
def r4_17 : List POp := [
 ⟨some 65, .move (.tmp 4), none⟩,
 ⟨some 66, .move (.tmp 3), none⟩,
 ⟨some 67, .call { callee := .builtin .len, args := #[(.tmp 66)], argTypes := #[28] }, none⟩,
 ⟨some 68, .binOp .eql 3 (.tmp 65) (.tmp 67) 3, none⟩,
 ⟨some 2, .assign (.tmp 68), none⟩]
noncomputable def p4 : PC := (.seq (.reg r4_0) (.seq (.seq (.reg r4_1) (.cond (.tmp 9) (.seq (.reg r4_2) .ret) .skip)) (.seq (.seq (.reg r4_3) (.cond (.tmp 16) (.seq (.reg r4_4) .ret) .skip)) (.seq (.reg r4_5) (.seq (.reg r4_6) (.seq (.seq (.reg r4_7) (.block 0 (.loop b4_16))) (.seq (.reg r4_17) .ret)))))))
def r3_0 : List POp := [
 ⟨some 1, .box 25 (.tmp 0), none⟩,
 ⟨some 2, .assign (.const (.bool false)), none⟩]
def r3_1 : List POp := [
 ⟨some 13, .call { callee := .value (.func 7), args := #[], argTypes := #[] }, none⟩,
 ⟨some 14, .unOp .not 4 (.tmp 13), none⟩]
def r3_2 : List POp := [
 ⟨some 2, .assign (.const (.bool false)), none⟩]
def r3_3 : List POp := [
 ⟨some 15, .load 25 (.tmp 1), none⟩,
 ⟨some 16, .call { callee := .value (.func 8), args := #[(.tmp 15)], argTypes := #[25] }, none⟩,
 ⟨some 17, .move (.tmp 16), none⟩,
 ⟨some 18, .load 25 (.tmp 1), some (17, false)⟩,
 ⟨some 19, .call { callee := .value (.func 9), args := #[(.tmp 18)], argTypes := #[25] }, some (17, false)⟩,
 ⟨some 20, .unOp .not 4 (.tmp 19), some (17, false)⟩,
 ⟨some 21, .pick (.tmp 17) (.const (.bool true)) (.tmp 20), none⟩]
def r3_4 : List POp := [
 ⟨some 2, .assign (.const (.bool true)), none⟩]
def r3_5 : List POp := [
 ⟨some 3, .assign (.const (.int .i64 0)), none⟩]
def r3_6 : List POp := [
 ⟨some 22, .move (.tmp 3), none⟩,
 ⟨some 23, .fieldAddr 25 (.tmp 1) 0, none⟩,
 ⟨some 24, .load 22 (.tmp 23), none⟩,
 ⟨some 25, .call { callee := .builtin .len, args := #[(.tmp 24)], argTypes := #[22] }, none⟩,
 ⟨some 26, .binOp .lss 3 (.tmp 22) (.tmp 25) 3, none⟩]
def r3_7 : List POp := [
 ⟨some 29, .fieldAddr 25 (.tmp 1) 0, none⟩,
 ⟨some 30, .load 22 (.tmp 29), none⟩,
 ⟨some 31, .move (.tmp 3), none⟩,
 ⟨some 32, .indexAddr 22 (.tmp 30) (.tmp 31), none⟩,
 ⟨some 33, .fieldAddr 30 (.tmp 32) 4, none⟩,
 ⟨some 34, .load 28 (.tmp 33), none⟩,
 ⟨some 4, .assign (.tmp 34), none⟩]
def r3_8 : List POp := [
 ⟨some 5, .assign (.const (.slice none 0 0)), none⟩]
def r3_9 : List POp := [
 ⟨some 6, .assign (.const (.int .i64 0)), none⟩]
def r3_10 : List POp := [
 ⟨some 7, .assign (.const (.int .i64 0)), none⟩]
def r3_11 : List POp := [
 ⟨some 35, .move (.tmp 7), none⟩,
 ⟨some 36, .move (.tmp 4), none⟩,
 ⟨some 37, .call { callee := .builtin .len, args := #[(.tmp 36)], argTypes := #[28] }, none⟩,
 ⟨some 38, .binOp .lss 3 (.tmp 35) (.tmp 37) 3, none⟩]
def r3_12 : List POp := [
 ⟨some 41, .move (.tmp 5), none⟩,
 ⟨some 42, .load 25 (.tmp 1), none⟩,
 ⟨some 43, .move (.tmp 4), none⟩,
 ⟨some 44, .move (.tmp 7), none⟩,
 ⟨some 45, .indexAddr 28 (.tmp 43) (.tmp 44), none⟩,
 ⟨some 46, .load 3 (.tmp 45), none⟩,
 ⟨some 47, .call { callee := .value (.func 10), args := #[(.tmp 42), (.tmp 46)], argTypes := #[25, 3] }, none⟩,
 ⟨some 48, .call { callee := .builtin .append, args := #[(.tmp 41), (.tmp 47)], argTypes := #[31, 31] }, none⟩,
 ⟨some 5, .assign (.tmp 48), none⟩]
def r3_13 : List POp := [
 ⟨some 49, .load 25 (.tmp 1), none⟩,
 ⟨some 50, .move (.tmp 4), none⟩,
 ⟨some 51, .move (.tmp 7), none⟩,
 ⟨some 52, .indexAddr 28 (.tmp 50) (.tmp 51), none⟩,
 ⟨some 53, .load 3 (.tmp 52), none⟩,
 ⟨some 54, .call { callee := .value (.func 11), args := #[(.tmp 49), (.tmp 53)], argTypes := #[25, 3] }, none⟩,
 ⟨some 8, .assign (.tmp 54), none⟩]
def r3_14 : List POp := [
 ⟨some 55, .move (.tmp 8), none⟩,
 ⟨some 56, .move (.tmp 6), none⟩,
 ⟨some 57, .binOp .gtr 3 (.tmp 55) (.tmp 56) 3, none⟩]
def r3_15 : List POp := [
 ⟨some 58, .move (.tmp 8), none⟩,
 ⟨some 6, .assign (.tmp 58), none⟩]
def r3_16 : List POp := [
 ⟨some 39, .move (.tmp 7), none⟩,
 ⟨some 40, .binOp .add 3 (.tmp 39) (.const (.int .i64 1)) 3, none⟩,
 ⟨some 7, .assign (.tmp 40), none⟩]
noncomputable def b3_17 : PC := (.seq (.seq (.reg r3_11) (.cond (.tmp 38) .skip (.exit 2))) (.seq (.block 3 (.seq (.regD 9 r3_12) (.seq (.regD 7 r3_13) (.seq (.reg r3_14) (.cond (.tmp 57) (.reg r3_15) .skip))))) (.reg r3_16)))
def r3_18 : List POp := [
 ⟨some 59, .load 25 (.tmp 1), none⟩,
 ⟨some 60, .move (.tmp 3), none⟩,
 ⟨some 61, .call { callee := .value (.func 10), args := #[(.tmp 59), (.tmp 60)], argTypes := #[25, 3] }, none⟩,
 ⟨some 9, .assign (.tmp 61), none⟩]
def r3_19 : List POp := [
 ⟨some 10, .assign (.const (.int .i64 0)), none⟩]
def r3_20 : List POp := [
 ⟨some 62, .move (.tmp 10), none⟩,
 ⟨some 63, .move (.tmp 9), none⟩,
 ⟨some 64, .call { callee := .builtin .len, args := #[(.tmp 63)], argTypes := #[31] }, none⟩,
 ⟨some 65, .binOp .lss 3 (.tmp 62) (.tmp 64) 3, none⟩]
def r3_21 : List POp := [
 ⟨some 68, .fieldAddr 25 (.tmp 1) 0, none⟩,
 ⟨some 69, .load 22 (.tmp 68), none⟩,
 ⟨some 70, .move (.tmp 3), none⟩,
 ⟨some 71, .indexAddr 22 (.tmp 69) (.tmp 70), none⟩,
 ⟨some 72, .fieldAddr 30 (.tmp 71) 0, none⟩,
 ⟨some 73, .load 3 (.tmp 72), none⟩,
 ⟨some 74, .binOp .eql 3 (.tmp 73) (.const (.int .i64 4)) 3, none⟩,
 ⟨some 75, .move (.tmp 74), none⟩,
 ⟨some 76, .move (.tmp 9), some (75, true)⟩,
 ⟨some 77, .move (.tmp 10), some (75, true)⟩,
 ⟨some 78, .indexAddr 31 (.tmp 76) (.tmp 77), some (75, true)⟩,
 ⟨some 79, .load 9 (.tmp 78), some (75, true)⟩,
 ⟨some 80, .fieldAddr 25 (.tmp 1) 0, some (75, true)⟩,
 ⟨some 81, .load 22 (.tmp 80), some (75, true)⟩,
 ⟨some 82, .move (.tmp 3), some (75, true)⟩,
 ⟨some 83, .indexAddr 22 (.tmp 81) (.tmp 82), some (75, true)⟩,
 ⟨some 84, .fieldAddr 30 (.tmp 83) 2, some (75, true)⟩,
 ⟨some 85, .load 9 (.tmp 84), some (75, true)⟩,
 ⟨some 86, .binOp .eql 9 (.tmp 79) (.tmp 85) 9, some (75, true)⟩,
 ⟨some 87, .pick (.tmp 75) (.tmp 86) (.const (.bool false)), none⟩,
 ⟨some 11, .assign (.tmp 87), none⟩]
def r3_22 : List POp := [
 ⟨some 12, .assign (.const (.int .i64 0)), none⟩]
def r3_23 : List POp := [
 ⟨some 88, .move (.tmp 12), none⟩,
 ⟨some 89, .move (.tmp 5), none⟩,
 ⟨some 90, .call { callee := .builtin .len, args := #[(.tmp 89)], argTypes := #[31] }, none⟩,
 ⟨some 91, .binOp .lss 3 (.tmp 88) (.tmp 90) 3, none⟩]
def r3_24 : List POp := [
 ⟨some 94, .move (.tmp 11), none⟩,
 ⟨some 95, .move (.tmp 94), none⟩,
 ⟨some 96, .move (.tmp 5), some (95, false)⟩,
 ⟨some 97, .move (.tmp 12), some (95, false)⟩,
 ⟨some 98, .indexAddr 31 (.tmp 96) (.tmp 97), some (95, false)⟩,
 ⟨some 99, .load 9 (.tmp 98), some (95, false)⟩,
 ⟨some 100, .move (.tmp 9), some (95, false)⟩,
 ⟨some 101, .move (.tmp 10), some (95, false)⟩,
 ⟨some 102, .indexAddr 31 (.tmp 100) (.tmp 101), some (95, false)⟩,
 ⟨some 103, .load 9 (.tmp 102), some (95, false)⟩,
 ⟨some 104, .binOp .eql 9 (.tmp 99) (.tmp 103) 9, some (95, false)⟩,
 ⟨some 105, .pick (.tmp 95) (.const (.bool true)) (.tmp 104), none⟩,
 ⟨some 11, .assign (.tmp 105), none⟩]
def r3_25 : List POp := [
 ⟨some 92, .move (.tmp 12), none⟩,
 ⟨some 93, .binOp .add 3 (.tmp 92) (.const (.int .i64 1)) 3, none⟩,
 ⟨some 12, .assign (.tmp 93), none⟩]
noncomputable def b3_26 : PC := (.seq (.seq (.reg r3_23) (.cond (.tmp 91) .skip (.exit 6))) (.seq (.block 7 (.regD 13 r3_24)) (.reg r3_25)))
def r3_27 : List POp := [
 ⟨some 106, .move (.tmp 11), none⟩,
 ⟨some 107, .unOp .not 4 (.tmp 106), none⟩,
 ⟨some 108, .move (.tmp 107), none⟩,
 ⟨some 109, .move (.tmp 10), some (108, false)⟩,
 ⟨some 110, .binOp .gtr 3 (.tmp 109) (.const (.int .i64 0)) 3, some (108, false)⟩,
 ⟨some 111, .move (.tmp 110), some (108, false)⟩,
 ⟨some 112, .move (.tmp 9), some (111, true)⟩,
 ⟨some 113, .move (.tmp 10), some (111, true)⟩,
 ⟨some 114, .binOp .sub 3 (.tmp 113) (.const (.int .i64 1)) 3, some (111, true)⟩,
 ⟨some 115, .indexAddr 31 (.tmp 112) (.tmp 114), some (111, true)⟩,
 ⟨some 116, .load 9 (.tmp 115), some (111, true)⟩,
 ⟨some 117, .move (.tmp 9), some (111, true)⟩,
 ⟨some 118, .move (.tmp 10), some (111, true)⟩,
 ⟨some 119, .indexAddr 31 (.tmp 117) (.tmp 118), some (111, true)⟩,
 ⟨some 120, .load 9 (.tmp 119), some (111, true)⟩,
 ⟨some 121, .binOp .geq 9 (.tmp 116) (.tmp 120) 9, some (111, true)⟩,
 ⟨some 122, .pick (.tmp 111) (.tmp 121) (.const (.bool false)), some (108, false)⟩,
 ⟨some 123, .pick (.tmp 108) (.const (.bool true)) (.tmp 122), none⟩]
def r3_28 : List POp := [
 ⟨some 2, .assign (.const (.bool false)), none⟩]
def r3_29 : List POp := [
 ⟨some 66, .move (.tmp 10), none⟩,
 ⟨some 67, .binOp .add 3 (.tmp 66) (.const (.int .i64 1)) 3, none⟩,
 ⟨some 10, .assign (.tmp 67), none⟩]
noncomputable def b3_30 : PC := (.seq (.seq (.reg r3_20) (.cond (.tmp 65) .skip (.exit 4))) (.seq (.block 5 (.seq (.regD 21 r3_21) (.seq (.seq (.reg r3_22) (.block 6 (.loop b3_26))) (.seq (.regD 18 r3_27) (.cond (.tmp 123) (.seq (.reg r3_28) .ret) .skip))))) (.reg r3_29)))
def r3_31 : List POp := [
 ⟨some 124, .load 25 (.tmp 1), none⟩,
 ⟨some 125, .move (.tmp 3), none⟩,
 ⟨some 126, .call { callee := .value (.func 11), args := #[(.tmp 124), (.tmp 125)], argTypes := #[25, 3] }, none⟩,
 ⟨some 127, .move (.tmp 6), none⟩,
 ⟨some 128, .binOp .add 3 (.tmp 127) (.const (.int .i64 1)) 3, none⟩,
 ⟨some 129, .binOp .neq 3 (.tmp 126) (.tmp 128) 3, none⟩]
def r3_32 : List POp := [
 ⟨some 2, .assign (.const (.bool false)), none⟩]
def r3_33 : List POp := [
 ⟨some 27, .move (.tmp 3), none⟩,
 ⟨some 28, .binOp .add 3 (.tmp 27) (.const (.int .i64 1)) 3, none⟩,
 ⟨some 3, .assign (.tmp 28), none⟩]
noncomputable def b3_34 : PC := (.seq (.seq (.reg r3_6) (.cond (.tmp 26) .skip (.exit 0))) (.seq (.block 1 (.seq (.reg r3_7) (.seq (.reg r3_8) (.seq (.reg r3_9) (.seq (.seq (.reg r3_10) (.block 2 (.loop b3_17))) (.seq (.reg r3_18) (.seq (.seq (.reg r3_19) (.block 4 (.loop b3_30))) (.seq (.reg r3_31) (.cond (.tmp 129) (.seq (.reg r3_32) .ret) .skip))))))))) (.reg r3_33)))
def r3_35 : List POp := [
 ⟨some 2, .assign (.const (.bool true)), none⟩]
noncomputable def p3 : PC := (.seq (.reg r3_0) (.seq (.seq (.reg r3_1) (.cond (.tmp 14) (.seq (.reg r3_2) .ret) .skip)) (.seq (.seq (.reg r3_3) (.cond (.tmp 21) (.seq (.reg r3_4) .ret) .skip)) (.seq (.seq (.reg r3_5) (.block 0 (.loop b3_34))) (.seq (.reg r3_35) .ret)))))
def r5_0 : List POp := [
 ⟨some 4, .box 25 (.tmp 0), none⟩,
 ⟨some 8, .assign (.const (.bool false)), none⟩]
def r5_1 : List POp := [
 ⟨some 12, .call { callee := .value (.func 7), args := #[], argTypes := #[] }, none⟩,
 ⟨some 13, .unOp .not 4 (.tmp 12), none⟩]
def r5_2 : List POp := [
 ⟨some 8, .assign (.const (.bool false)), none⟩]
def r5_3 : List POp := [
 ⟨some 14, .load 25 (.tmp 4), none⟩,
 ⟨some 15, .call { callee := .value (.func 8), args := #[(.tmp 14)], argTypes := #[25] }, none⟩]
def r5_4 : List POp := [
 ⟨some 8, .assign (.const (.bool true)), none⟩]
def r5_5 : List POp := [
 ⟨some 16, .fieldAddr 25 (.tmp 4) 1, none⟩,
 ⟨some 17, .load 23 (.tmp 16), none⟩,
 ⟨some 18, .build 25 #[(1, (.tmp 17))], none⟩,
 ⟨some 9, .alloc 25, none⟩,
 ⟨none, .store 25 (.tmp 9) (.tmp 18), none⟩]
def r5_6 : List POp := [
 ⟨some 10, .assign (.const (.int .i64 0)), none⟩]
def r5_7 : List POp := [
 ⟨some 19, .move (.tmp 10), none⟩,
 ⟨some 20, .fieldAddr 25 (.tmp 4) 0, none⟩,
 ⟨some 21, .load 22 (.tmp 20), none⟩,
 ⟨some 22, .call { callee := .builtin .len, args := #[(.tmp 21)], argTypes := #[22] }, none⟩,
 ⟨some 23, .binOp .lss 3 (.tmp 19) (.tmp 22) 3, none⟩]
def r5_8 : List POp := [
 ⟨some 26, .fieldAddr 25 (.tmp 4) 0, none⟩,
 ⟨some 27, .load 22 (.tmp 26), none⟩,
 ⟨some 28, .move (.tmp 10), none⟩,
 ⟨some 29, .indexAddr 22 (.tmp 27) (.tmp 28), none⟩,
 ⟨some 30, .load 30 (.tmp 29), none⟩,
 ⟨some 11, .alloc 30, none⟩,
 ⟨none, .store 30 (.tmp 11) (.tmp 30), none⟩]
def r5_9 : List POp := [
 ⟨some 31, .move (.tmp 1), none⟩,
 ⟨some 32, .move (.tmp 2), none⟩,
 ⟨some 33, .fieldAddr 30 (.tmp 11) 5, none⟩,
 ⟨none, .store 3 (.tmp 33) (.tmp 31), none⟩,
 ⟨some 34, .fieldAddr 30 (.tmp 11) 6, none⟩,
 ⟨none, .store 3 (.tmp 34) (.tmp 32), none⟩]
def r5_10 : List POp := [
 ⟨some 35, .fieldAddr 25 (.tmp 9) 0, none⟩,
 ⟨some 36, .load 22 (.tmp 35), none⟩,
 ⟨some 37, .load 30 (.tmp 11), none⟩,
 ⟨some 38, .buildSlice 22 1 #[(0, (.tmp 37))], none⟩,
 ⟨some 39, .call { callee := .builtin .append, args := #[(.tmp 36), (.tmp 38)], argTypes := #[22, 22] }, none⟩,
 ⟨some 40, .fieldAddr 25 (.tmp 9) 0, none⟩,
 ⟨none, .store 22 (.tmp 40) (.tmp 39), none⟩]
def r5_11 : List POp := [
 ⟨some 24, .move (.tmp 10), none⟩,
 ⟨some 25, .binOp .add 3 (.tmp 24) (.const (.int .i64 1)) 3, none⟩,
 ⟨some 10, .assign (.tmp 25), none⟩]
noncomputable def b5_12 : PC := (.seq (.seq (.reg r5_7) (.cond (.tmp 23) .skip (.exit 0))) (.seq (.block 1 (.seq (.reg r5_8) (.seq (.reg r5_9) (.reg r5_10)))) (.reg r5_11)))
def r5_13 : List POp := [
 ⟨some 41, .load 25 (.tmp 4), none⟩,
 ⟨some 42, .call { callee := .value (.func 9), args := #[(.tmp 41)], argTypes := #[25] }, none⟩,
 ⟨some 43, .load 25 (.tmp 9), none⟩,
 ⟨some 44, .call { callee := .value (.func 9), args := #[(.tmp 43)], argTypes := #[25] }, none⟩,
 ⟨some 45, .binOp .eql 4 (.tmp 42) (.tmp 44) 4, none⟩,
 ⟨some 46, .move (.tmp 45), none⟩,
 ⟨some 47, .load 25 (.tmp 4), some (46, true)⟩,
 ⟨some 48, .call { callee := .value (.func 13), args := #[(.tmp 47)], argTypes := #[25] }, some (46, true)⟩,
 ⟨some 49, .load 25 (.tmp 9), some (46, true)⟩,
 ⟨some 50, .call { callee := .value (.func 13), args := #[(.tmp 49)], argTypes := #[25] }, some (46, true)⟩,
 ⟨some 51, .binOp .eql 9 (.tmp 48) (.tmp 50) 9, some (46, true)⟩,
 ⟨some 52, .pick (.tmp 46) (.tmp 51) (.const (.bool false)), none⟩,
 ⟨some 53, .move (.tmp 52), none⟩,
 ⟨some 54, .load 25 (.tmp 4), some (53, true)⟩,
 ⟨some 55, .move (.tmp 3), some (53, true)⟩,
 ⟨some 56, .call { callee := .value (.func 10), args := #[(.tmp 54), (.tmp 55)], argTypes := #[25, 3] }, some (53, true)⟩,
 ⟨some 57, .load 25 (.tmp 9), some (53, true)⟩,
 ⟨some 58, .move (.tmp 3), some (53, true)⟩,
 ⟨some 59, .call { callee := .value (.func 10), args := #[(.tmp 57), (.tmp 58)], argTypes := #[25, 3] }, some (53, true)⟩,
 ⟨some 60, .call { callee := .value (.func 14), args := #[(.tmp 56), (.tmp 59)], argTypes := #[31, 31] }, some (53, true)⟩,
 ⟨some 61, .pick (.tmp 53) (.tmp 60) (.const (.bool false)), none⟩,
 ⟨some 62, .move (.tmp 61), none⟩,
 ⟨some 63, .load 25 (.tmp 4), some (62, true)⟩,
 ⟨some 64, .call { callee := .value (.func 12), args := #[(.tmp 63)], argTypes := #[25] }, some (62, true)⟩,
 ⟨some 65, .load 25 (.tmp 9), some (62, true)⟩,
 ⟨some 66, .call { callee := .value (.func 12), args := #[(.tmp 65)], argTypes := #[25] }, some (62, true)⟩,
 ⟨some 67, .call { callee := .value (.func 15), args := #[(.tmp 64), (.tmp 66)], argTypes := #[28, 28] }, some (62, true)⟩,
 ⟨some 68, .pick (.tmp 62) (.tmp 67) (.const (.bool false)), none⟩,
 ⟨some 69, .move (.tmp 68), none⟩,
 ⟨some 70, .load 25 (.tmp 4), some (69, true)⟩,
 ⟨some 71, .move (.tmp 3), some (69, true)⟩,
 ⟨some 72, .call { callee := .value (.func 11), args := #[(.tmp 70), (.tmp 71)], argTypes := #[25, 3] }, some (69, true)⟩,
 ⟨some 73, .load 25 (.tmp 9), some (69, true)⟩]
def r5_14 : List POp := [
 ⟨some 74, .move (.tmp 3), some (69, true)⟩,
 ⟨some 75, .call { callee := .value (.func 11), args := #[(.tmp 73), (.tmp 74)], argTypes := #[25, 3] }, some (69, true)⟩,
 ⟨some 76, .binOp .eql 3 (.tmp 72) (.tmp 75) 3, some (69, true)⟩,
 ⟨some 77, .pick (.tmp 69) (.tmp 76) (.const (.bool false)), none⟩,
 ⟨some 8, .assign (.tmp 77), none⟩]
noncomputable def d5_0 : Array Oper := match Tryz.f5.body.map (comp E Tryz.f5.ntmps) with | some p => p.draws.getD 0 #[] | none => #[]
theorem draw5_0 : DrawC E 78 d5_0 38 33 r5_13 r5_14 [(.tmp 9), (.tmp 9), (.tmp 9), (.tmp 9), (.tmp 9)] := ⟨by kernel_rfl, by decide, by kernel_rfl, by kernel_rfl, by kernel_rfl, by kernel_rfl, by kernel_rfl⟩
noncomputable def p5 : PC := (.seq (.reg r5_0) (.seq (.seq (.reg r5_1) (.cond (.tmp 13) (.seq (.reg r5_2) .ret) .skip)) (.seq (.seq (.reg r5_3) (.cond (.tmp 15) (.seq (.reg r5_4) .ret) .skip)) (.seq (.reg r5_5) (.seq (.seq (.reg r5_6) (.block 0 (.loop b5_12))) (.seq (.draw d5_0) .ret))))))
theorem comp5 : (Tryz.f5.body.map (comp E Tryz.f5.ntmps)) = some p5 := by kernel_rfl
theorem ev5 : EvC 5 78 p5 [.tmp 8] := fun hn h => ev_ends (fn := Tryz.f5) (by kernel_rfl) rfl comp5 (by kernel_rfl) (by kernel_rfl) hn h
def r13_0 : List POp := [
 ⟨some 1, .box 25 (.tmp 0), none⟩,
 ⟨some 2, .assign (.const (.string ⟨#[]⟩)), none⟩]
def r13_1 : List POp := [
 ⟨some 6, .load 25 (.tmp 1), none⟩,
 ⟨some 7, .call { callee := .value (.func 9), args := #[(.tmp 6)], argTypes := #[25] }, none⟩,
 ⟨some 8, .unOp .not 4 (.tmp 7), none⟩]
def r13_2 : List POp := [
 ⟨some 2, .assign (.const (.string ⟨#[]⟩)), none⟩]
def r13_3 : List POp := [
 ⟨some 3, .alloc 76, none⟩]
def r13_4 : List POp := [
 ⟨some 9, .fieldAddr 25 (.tmp 1) 1, none⟩,
 ⟨some 10, .load 23 (.tmp 9), none⟩,
 ⟨some 11, .call { callee := .builtin .len, args := #[(.tmp 10)], argTypes := #[23] }, none⟩,
 ⟨some 12, .move (.const (.int .i64 0)), none⟩]
def r13_5 : List POp := [
 ⟨some 13, .binOp .lss 3 (.tmp 12) (.tmp 11) 3, none⟩]
def r13_6 : List POp := [
 ⟨some 14, .indexAddr 23 (.tmp 10) (.tmp 12), none⟩,
 ⟨some 15, .load 56 (.tmp 14), none⟩,
 ⟨some 5, .alloc 56, none⟩,
 ⟨none, .store 56 (.tmp 5) (.tmp 15), none⟩]
def r13_7 : List POp := [
 ⟨some 16, .load 56 (.tmp 5), none⟩,
 ⟨some 17, .call { callee := .value (.func 39), args := #[(.tmp 16)], argTypes := #[56] }, none⟩,
 ⟨some 18, .call { callee := .value (.func 38), args := #[(.tmp 3), (.tmp 17)], argTypes := #[76, 9] }, none⟩]
def r13_8 : List POp := [
 ⟨some 19, .binOp .add 3 (.tmp 12) (.const (.int .i64 1)) 3, none⟩,
 ⟨some 12, .move (.tmp 19), none⟩]
noncomputable def b13_9 : PC := (.seq (.reg r13_5) (.seq (.cond (.tmp 13) .skip (.exit 0)) (.seq (.block 1 (.seq (.reg r13_6) (.reg r13_7))) (.reg r13_8))))
def r13_10 : List POp := [
 ⟨some 20, .load 25 (.tmp 1), none⟩,
 ⟨some 21, .call { callee := .value (.func 40), args := #[(.tmp 20), (.const (.int .i64 0))], argTypes := #[25, 3] }, none⟩,
 ⟨some 22, .call { callee := .value (.func 38), args := #[(.tmp 3), (.tmp 21)], argTypes := #[76, 9] }, none⟩]
def r13_11 : List POp := [
 ⟨some 23, .call { callee := .value (.func 41), args := #[(.tmp 3)], argTypes := #[76] }, none⟩,
 ⟨some 2, .assign (.tmp 23), none⟩]
noncomputable def p13 : PC := (.seq (.reg r13_0) (.seq (.seq (.reg r13_1) (.cond (.tmp 8) (.seq (.reg r13_2) .ret) .skip)) (.seq (.reg r13_3) (.seq (.seq (.reg r13_4) (.block 0 (.loop b13_9))) (.seq (.reg r13_10) (.seq (.reg r13_11) .ret))))))
theorem comp13 : (Tryz.f13.body.map (comp E Tryz.f13.ntmps)) = some p13 := by kernel_rfl
theorem ev13 : EvC 13 24 p13 [.tmp 2] := fun hn h => ev_ends (fn := Tryz.f13) (by kernel_rfl) rfl comp13 (by kernel_rfl) (by kernel_rfl) hn h
def r40_0 : List POp := [
 ⟨some 2, .box 25 (.tmp 0), none⟩,
 ⟨some 4, .assign (.const (.string ⟨#[]⟩)), none⟩]
def r40_1 : List POp := [
 ⟨some 9, .fieldAddr 25 (.tmp 2) 0, none⟩,
 ⟨some 10, .load 22 (.tmp 9), none⟩,
 ⟨some 11, .move (.tmp 1), none⟩,
 ⟨some 12, .indexAddr 22 (.tmp 10) (.tmp 11), none⟩,
 ⟨some 13, .load 30 (.tmp 12), none⟩,
 ⟨some 5, .alloc 30, none⟩,
 ⟨none, .store 30 (.tmp 5) (.tmp 13), none⟩]
def r40_2 : List POp := [
 ⟨some 6, .assign (.const (.slice none 0 0)), none⟩]
def r40_3 : List POp := [
 ⟨some 14, .fieldAddr 30 (.tmp 5) 4, none⟩,
 ⟨some 15, .load 28 (.tmp 14), none⟩,
 ⟨some 16, .call { callee := .builtin .len, args := #[(.tmp 15)], argTypes := #[28] }, none⟩,
 ⟨some 17, .move (.const (.int .i64 0)), none⟩]
def r40_4 : List POp := [
 ⟨some 18, .binOp .lss 3 (.tmp 17) (.tmp 16) 3, none⟩]
def r40_5 : List POp := [
 ⟨some 19, .indexAddr 28 (.tmp 15) (.tmp 17), none⟩,
 ⟨some 20, .load 3 (.tmp 19), none⟩,
 ⟨some 8, .assign (.tmp 20), none⟩]
def r40_6 : List POp := [
 ⟨some 21, .move (.tmp 6), none⟩,
 ⟨some 22, .load 25 (.tmp 2), none⟩,
 ⟨some 23, .move (.tmp 8), none⟩,
 ⟨some 24, .call { callee := .value (.func 40), args := #[(.tmp 22), (.tmp 23)], argTypes := #[25, 3] }, none⟩,
 ⟨some 25, .buildSlice 31 1 #[(0, (.tmp 24))], none⟩,
 ⟨some 26, .call { callee := .builtin .append, args := #[(.tmp 21), (.tmp 25)], argTypes := #[31, 31] }, none⟩,
 ⟨some 6, .assign (.tmp 26), none⟩]
def r40_7 : List POp := [
 ⟨some 27, .binOp .add 3 (.tmp 17) (.const (.int .i64 1)) 3, none⟩,
 ⟨some 17, .move (.tmp 27), none⟩]
noncomputable def b40_8 : PC := (.seq (.reg r40_4) (.seq (.cond (.tmp 18) .skip (.exit 0)) (.seq (.block 1 (.seq (.reg r40_5) (.reg r40_6))) (.reg r40_7))))
def r40_9 : List POp := [
 ⟨some 28, .fieldAddr 30 (.tmp 5) 0, none⟩,
 ⟨some 29, .load 3 (.tmp 28), none⟩]
def r40_10 : List POp := [
 ⟨some 31, .binOp .eql 3 (.tmp 29) (.const (.int .i64 1)) 3, none⟩,
 ⟨some 30, .assign (.tmp 31), none⟩]
def r40_11 : List POp := [
 ⟨some 32, .binOp .eql 3 (.tmp 29) (.const (.int .i64 23)) 3, none⟩,
 ⟨some 30, .assign (.tmp 32), none⟩]
def r40_12 : List POp := [
 ⟨some 33, .fieldAddr 30 (.tmp 5) 1, none⟩,
 ⟨some 34, .load 2 (.tmp 33), none⟩,
 ⟨some 35, .call { callee := .value (.func 65), args := #[(.tmp 34), (.const (.int .i64 10))], argTypes := #[2, 3] }, none⟩,
 ⟨some 4, .assign (.tmp 35), none⟩]
def r40_13 : List POp := [
 ⟨some 37, .binOp .eql 3 (.tmp 29) (.const (.int .i64 2)) 3, none⟩,
 ⟨some 36, .assign (.tmp 37), none⟩]
def r40_14 : List POp := [
 ⟨some 38, .binOp .eql 3 (.tmp 29) (.const (.int .i64 24)) 3, none⟩,
 ⟨some 36, .assign (.tmp 38), none⟩]
def r40_15 : List POp := [
 ⟨some 39, .fieldAddr 30 (.tmp 5) 1, none⟩,
 ⟨some 40, .load 2 (.tmp 39), none⟩,
 ⟨some 41, .binOp .eql 2 (.tmp 40) (.const (.int .i64 1)) 2, none⟩,
 ⟨some 42, .call { callee := .value (.func 66), args := #[(.tmp 41)], argTypes := #[4] }, none⟩,
 ⟨some 4, .assign (.tmp 42), none⟩]
def r40_16 : List POp := [
 ⟨some 44, .binOp .eql 3 (.tmp 29) (.const (.int .i64 3)) 3, none⟩,
 ⟨some 43, .assign (.tmp 44), none⟩]
def r40_17 : List POp := [
 ⟨some 45, .binOp .eql 3 (.tmp 29) (.const (.int .i64 25)) 3, none⟩,
 ⟨some 43, .assign (.tmp 45), none⟩]
def r40_18 : List POp := [
 ⟨some 4, .assign (.const (.string ⟨#[40, 41]⟩)), none⟩]
def r40_19 : List POp := [
 ⟨some 47, .binOp .eql 3 (.tmp 29) (.const (.int .i64 4)) 3, none⟩,
 ⟨some 46, .assign (.tmp 47), none⟩]
def r40_20 : List POp := [
 ⟨some 48, .binOp .eql 3 (.tmp 29) (.const (.int .i64 22)) 3, none⟩,
 ⟨some 46, .assign (.tmp 48), none⟩]
def r40_21 : List POp := [
 ⟨some 49, .fieldAddr 30 (.tmp 5) 2, none⟩,
 ⟨some 50, .load 9 (.tmp 49), none⟩,
 ⟨some 4, .assign (.tmp 50), none⟩]
def r40_22 : List POp := [
 ⟨some 52, .binOp .eql 3 (.tmp 29) (.const (.int .i64 21)) 3, none⟩,
 ⟨some 51, .assign (.tmp 52), none⟩]
def r40_23 : List POp := [
 ⟨some 4, .assign (.const (.string ⟨#[95]⟩)), none⟩]
def r40_24 : List POp := [
 ⟨some 54, .binOp .eql 3 (.tmp 29) (.const (.int .i64 18)) 3, none⟩,
 ⟨some 53, .assign (.tmp 54), none⟩]
def r40_25 : List POp := [
 ⟨some 4, .assign (.const (.string ⟨#[114, 101, 97, 100]⟩)), none⟩]
def r40_26 : List POp := [
 ⟨some 56, .binOp .eql 3 (.tmp 29) (.const (.int .i64 5)) 3, none⟩,
 ⟨some 55, .assign (.tmp 56), none⟩]
def r40_27 : List POp := [
 ⟨some 57, .binOp .eql 3 (.tmp 29) (.const (.int .i64 26)) 3, none⟩,
 ⟨some 55, .assign (.tmp 57), none⟩]
def r40_28 : List POp := [
 ⟨some 58, .fieldAddr 30 (.tmp 5) 2, none⟩,
 ⟨some 59, .load 9 (.tmp 58), none⟩,
 ⟨some 60, .move (.tmp 6), none⟩,
 ⟨some 61, .call { callee := .value (.func 67), args := #[(.tmp 59), (.tmp 60)], argTypes := #[9, 31] }, none⟩,
 ⟨some 4, .assign (.tmp 61), none⟩]
def r40_29 : List POp := [
 ⟨some 62, .fieldAddr 30 (.tmp 5) 0, none⟩,
 ⟨some 63, .load 3 (.tmp 62), none⟩,
 ⟨some 64, .binOp .eql 3 (.tmp 63) (.const (.int .i64 7)) 3, none⟩,
 ⟨some 65, .move (.tmp 64), none⟩,
 ⟨some 66, .fieldAddr 25 (.tmp 2) 0, some (65, true)⟩,
 ⟨some 67, .load 22 (.tmp 66), some (65, true)⟩,
 ⟨some 68, .fieldAddr 30 (.tmp 5) 4, some (65, true)⟩,
 ⟨some 69, .load 28 (.tmp 68), some (65, true)⟩,
 ⟨some 70, .indexAddr 28 (.tmp 69) (.const (.int .i64 0)), some (65, true)⟩,
 ⟨some 71, .load 3 (.tmp 70), some (65, true)⟩,
 ⟨some 72, .indexAddr 22 (.tmp 67) (.tmp 71), some (65, true)⟩,
 ⟨some 73, .fieldAddr 30 (.tmp 72) 0, some (65, true)⟩,
 ⟨some 74, .load 3 (.tmp 73), some (65, true)⟩,
 ⟨some 75, .binOp .eql 3 (.tmp 74) (.const (.int .i64 5)) 3, some (65, true)⟩,
 ⟨some 76, .pick (.tmp 65) (.tmp 75) (.const (.bool false)), none⟩,
 ⟨some 77, .move (.tmp 76), none⟩,
 ⟨some 78, .fieldAddr 25 (.tmp 2) 0, some (77, true)⟩,
 ⟨some 79, .load 22 (.tmp 78), some (77, true)⟩,
 ⟨some 80, .fieldAddr 30 (.tmp 5) 4, some (77, true)⟩,
 ⟨some 81, .load 28 (.tmp 80), some (77, true)⟩,
 ⟨some 82, .indexAddr 28 (.tmp 81) (.const (.int .i64 0)), some (77, true)⟩,
 ⟨some 83, .load 3 (.tmp 82), some (77, true)⟩,
 ⟨some 84, .indexAddr 22 (.tmp 79) (.tmp 83), some (77, true)⟩,
 ⟨some 85, .fieldAddr 30 (.tmp 84) 4, some (77, true)⟩,
 ⟨some 86, .load 28 (.tmp 85), some (77, true)⟩,
 ⟨some 87, .call { callee := .builtin .len, args := #[(.tmp 86)], argTypes := #[28] }, some (77, true)⟩,
 ⟨some 88, .binOp .eql 3 (.tmp 87) (.const (.int .i64 0)) 3, some (77, true)⟩,
 ⟨some 89, .pick (.tmp 77) (.tmp 88) (.const (.bool false)), none⟩]
def r40_30 : List POp := [
 ⟨some 90, .move (.tmp 6), none⟩,
 ⟨some 91, .move (.tmp 6), none⟩,
 ⟨some 92, .indexAddr 31 (.tmp 91) (.const (.int .i64 0)), none⟩,
 ⟨some 93, .load 9 (.tmp 92), none⟩,
 ⟨some 94, .binOp .add 9 (.const (.string ⟨#[40]⟩)) (.tmp 93) 9, none⟩,
 ⟨some 95, .binOp .add 9 (.tmp 94) (.const (.string ⟨#[41]⟩)) 9, none⟩,
 ⟨some 96, .indexAddr 31 (.tmp 90) (.const (.int .i64 0)), none⟩,
 ⟨none, .store 9 (.tmp 96) (.tmp 95), none⟩]
def r40_31 : List POp := [
 ⟨some 97, .load 30 (.tmp 5), none⟩,
 ⟨some 98, .move (.tmp 6), none⟩,
 ⟨some 99, .call { callee := .value (.func 68), args := #[(.tmp 97), (.tmp 98)], argTypes := #[30, 31] }, none⟩,
 ⟨some 100, .binOp .add 9 (.const (.string ⟨#[40]⟩)) (.tmp 99) 9, none⟩,
 ⟨some 101, .binOp .add 9 (.tmp 100) (.const (.string ⟨#[41]⟩)) 9, none⟩,
 ⟨some 4, .assign (.tmp 101), none⟩]
noncomputable def p40 : PC := (.seq (.reg r40_0) (.seq (.reg r40_1) (.seq (.reg r40_2) (.seq (.seq (.reg r40_3) (.block 0 (.loop b40_8))) (.seq (.seq (.reg r40_9) (.block 2 (.seq (.seq (.reg r40_10) (.cond (.tmp 30) .skip (.reg r40_11))) (.cond (.tmp 30) (.seq (.reg r40_12) .ret) (.seq (.seq (.reg r40_13) (.cond (.tmp 36) .skip (.reg r40_14))) (.cond (.tmp 36) (.seq (.reg r40_15) .ret) (.seq (.seq (.reg r40_16) (.cond (.tmp 43) .skip (.reg r40_17))) (.cond (.tmp 43) (.seq (.reg r40_18) .ret) (.seq (.seq (.reg r40_19) (.cond (.tmp 46) .skip (.reg r40_20))) (.cond (.tmp 46) (.seq (.reg r40_21) .ret) (.seq (.reg r40_22) (.cond (.tmp 51) (.seq (.reg r40_23) .ret) (.seq (.reg r40_24) (.cond (.tmp 53) (.seq (.reg r40_25) .ret) (.seq (.seq (.reg r40_26) (.cond (.tmp 55) .skip (.reg r40_27))) (.cond (.tmp 55) (.seq (.reg r40_28) .ret) .skip)))))))))))))))) (.seq (.seq (.regD 28 r40_29) (.cond (.tmp 89) (.reg r40_30) .skip)) (.seq (.reg r40_31) .ret)))))))
theorem comp40 : (Tryz.f40.body.map (comp E Tryz.f40.ntmps)) = some p40 := by kernel_rfl
theorem ev40 : EvC 40 102 p40 [.tmp 4] := fun hn h => ev_ends (fn := Tryz.f40) (by kernel_rfl) rfl comp40 (by kernel_rfl) (by kernel_rfl) hn h
def r67_0 : List POp := [
 ⟨some 4, .assign (.const (.string ⟨#[]⟩)), none⟩]
def r67_1 : List POp := [
 ⟨some 5, .move (.tmp 1), none⟩,
 ⟨some 6, .call { callee := .builtin .len, args := #[(.tmp 5)], argTypes := #[31] }, none⟩,
 ⟨some 7, .binOp .eql 3 (.tmp 6) (.const (.int .i64 0)) 3, none⟩]
def r67_2 : List POp := [
 ⟨some 8, .move (.tmp 0), none⟩,
 ⟨some 4, .assign (.tmp 8), none⟩]
def r67_3 : List POp := [
 ⟨some 9, .move (.tmp 0), none⟩,
 ⟨some 10, .binOp .add 9 (.tmp 9) (.const (.string ⟨#[32, 40]⟩)) 9, none⟩,
 ⟨some 11, .move (.tmp 1), none⟩,
 ⟨some 12, .call { callee := .value (.func 64), args := #[(.tmp 11), (.const (.string ⟨#[44, 32]⟩))], argTypes := #[31, 9] }, none⟩,
 ⟨some 13, .binOp .add 9 (.tmp 10) (.tmp 12) 9, none⟩,
 ⟨some 14, .binOp .add 9 (.tmp 13) (.const (.string ⟨#[41]⟩)) 9, none⟩,
 ⟨some 4, .assign (.tmp 14), none⟩]
noncomputable def p67 : PC := (.seq (.reg r67_0) (.seq (.seq (.reg r67_1) (.cond (.tmp 7) (.seq (.reg r67_2) .ret) .skip)) (.seq (.reg r67_3) .ret)))
theorem comp67 : (Tryz.f67.body.map (comp E Tryz.f67.ntmps)) = some p67 := by kernel_rfl
theorem ev67 : EvC 67 15 p67 [.tmp 4] := fun hn h => ev_ends (fn := Tryz.f67) (by kernel_rfl) rfl comp67 (by kernel_rfl) (by kernel_rfl) hn h
def r68_0 : List POp := [
 ⟨some 2, .box 30 (.tmp 0), none⟩,
 ⟨some 4, .assign (.const (.string ⟨#[]⟩)), none⟩]
def r68_1 : List POp := [
 ⟨some 5, .fieldAddr 30 (.tmp 2) 0, none⟩,
 ⟨some 6, .load 3 (.tmp 5), none⟩]
def r68_2 : List POp := [
 ⟨some 8, .binOp .eql 3 (.tmp 6) (.const (.int .i64 6)) 3, none⟩,
 ⟨some 7, .assign (.tmp 8), none⟩]
def r68_3 : List POp := [
 ⟨some 9, .fieldAddr 30 (.tmp 2) 3, none⟩,
 ⟨some 10, .load 9 (.tmp 9), none⟩,
 ⟨some 11, .binOp .add 9 (.const (.string ⟨#[102, 117, 110, 32]⟩)) (.tmp 10) 9, none⟩,
 ⟨some 12, .binOp .add 9 (.tmp 11) (.const (.string ⟨#[32, 45, 62, 32]⟩)) 9, none⟩,
 ⟨some 13, .move (.tmp 1), none⟩,
 ⟨some 14, .indexAddr 31 (.tmp 13) (.const (.int .i64 0)), none⟩,
 ⟨some 15, .load 9 (.tmp 14), none⟩,
 ⟨some 16, .binOp .add 9 (.tmp 12) (.tmp 15) 9, none⟩,
 ⟨some 4, .assign (.tmp 16), none⟩]
def r68_4 : List POp := [
 ⟨some 18, .binOp .eql 3 (.tmp 6) (.const (.int .i64 7)) 3, none⟩,
 ⟨some 17, .assign (.tmp 18), none⟩]
def r68_5 : List POp := [
 ⟨some 19, .move (.tmp 1), none⟩,
 ⟨some 20, .indexAddr 31 (.tmp 19) (.const (.int .i64 0)), none⟩,
 ⟨some 21, .load 9 (.tmp 20), none⟩,
 ⟨some 22, .binOp .add 9 (.tmp 21) (.const (.string ⟨#[32]⟩)) 9, none⟩,
 ⟨some 23, .move (.tmp 1), none⟩,
 ⟨some 24, .indexAddr 31 (.tmp 23) (.const (.int .i64 1)), none⟩,
 ⟨some 25, .load 9 (.tmp 24), none⟩,
 ⟨some 26, .binOp .add 9 (.tmp 22) (.tmp 25) 9, none⟩,
 ⟨some 4, .assign (.tmp 26), none⟩]
def r68_6 : List POp := [
 ⟨some 28, .binOp .eql 3 (.tmp 6) (.const (.int .i64 8)) 3, none⟩,
 ⟨some 27, .assign (.tmp 28), none⟩]
def r68_7 : List POp := [
 ⟨some 29, .fieldAddr 30 (.tmp 2) 2, none⟩,
 ⟨some 30, .load 9 (.tmp 29), none⟩,
 ⟨some 31, .binOp .add 9 (.const (.string ⟨#[108, 101, 116, 32]⟩)) (.tmp 30) 9, none⟩,
 ⟨some 32, .binOp .add 9 (.tmp 31) (.const (.string ⟨#[32, 61, 32]⟩)) 9, none⟩,
 ⟨some 33, .move (.tmp 1), none⟩,
 ⟨some 34, .indexAddr 31 (.tmp 33) (.const (.int .i64 0)), none⟩,
 ⟨some 35, .load 9 (.tmp 34), none⟩,
 ⟨some 36, .binOp .add 9 (.tmp 32) (.tmp 35) 9, none⟩,
 ⟨some 37, .binOp .add 9 (.tmp 36) (.const (.string ⟨#[32, 105, 110, 32]⟩)) 9, none⟩,
 ⟨some 38, .move (.tmp 1), none⟩,
 ⟨some 39, .indexAddr 31 (.tmp 38) (.const (.int .i64 1)), none⟩,
 ⟨some 40, .load 9 (.tmp 39), none⟩,
 ⟨some 41, .binOp .add 9 (.tmp 37) (.tmp 40) 9, none⟩,
 ⟨some 4, .assign (.tmp 41), none⟩]
def r68_8 : List POp := [
 ⟨some 43, .binOp .eql 3 (.tmp 6) (.const (.int .i64 9)) 3, none⟩,
 ⟨some 42, .assign (.tmp 43), none⟩]
def r68_9 : List POp := [
 ⟨some 44, .fieldAddr 30 (.tmp 2) 2, none⟩,
 ⟨some 45, .load 9 (.tmp 44), none⟩,
 ⟨some 46, .binOp .add 9 (.const (.string ⟨#[108, 101, 116, 32, 114, 101, 99, 32]⟩)) (.tmp 45) 9, none⟩,
 ⟨some 47, .binOp .add 9 (.tmp 46) (.const (.string ⟨#[32]⟩)) 9, none⟩,
 ⟨some 48, .fieldAddr 30 (.tmp 2) 3, none⟩,
 ⟨some 49, .load 9 (.tmp 48), none⟩,
 ⟨some 50, .binOp .add 9 (.tmp 47) (.tmp 49) 9, none⟩,
 ⟨some 51, .binOp .add 9 (.tmp 50) (.const (.string ⟨#[32, 61, 32]⟩)) 9, none⟩,
 ⟨some 52, .move (.tmp 1), none⟩,
 ⟨some 53, .indexAddr 31 (.tmp 52) (.const (.int .i64 0)), none⟩,
 ⟨some 54, .load 9 (.tmp 53), none⟩,
 ⟨some 55, .binOp .add 9 (.tmp 51) (.tmp 54) 9, none⟩,
 ⟨some 56, .binOp .add 9 (.tmp 55) (.const (.string ⟨#[32, 105, 110, 32]⟩)) 9, none⟩,
 ⟨some 57, .move (.tmp 1), none⟩,
 ⟨some 58, .indexAddr 31 (.tmp 57) (.const (.int .i64 1)), none⟩,
 ⟨some 59, .load 9 (.tmp 58), none⟩,
 ⟨some 60, .binOp .add 9 (.tmp 56) (.tmp 59) 9, none⟩,
 ⟨some 4, .assign (.tmp 60), none⟩]
def r68_10 : List POp := [
 ⟨some 62, .binOp .eql 3 (.tmp 6) (.const (.int .i64 10)) 3, none⟩,
 ⟨some 61, .assign (.tmp 62), none⟩]
def r68_11 : List POp := [
 ⟨some 63, .move (.tmp 1), none⟩,
 ⟨some 64, .indexAddr 31 (.tmp 63) (.const (.int .i64 0)), none⟩,
 ⟨some 65, .load 9 (.tmp 64), none⟩,
 ⟨some 66, .binOp .add 9 (.const (.string ⟨#[105, 102, 32]⟩)) (.tmp 65) 9, none⟩,
 ⟨some 67, .binOp .add 9 (.tmp 66) (.const (.string ⟨#[32, 116, 104, 101, 110, 32]⟩)) 9, none⟩,
 ⟨some 68, .move (.tmp 1), none⟩,
 ⟨some 69, .indexAddr 31 (.tmp 68) (.const (.int .i64 1)), none⟩,
 ⟨some 70, .load 9 (.tmp 69), none⟩,
 ⟨some 71, .binOp .add 9 (.tmp 67) (.tmp 70) 9, none⟩,
 ⟨some 72, .binOp .add 9 (.tmp 71) (.const (.string ⟨#[32, 101, 108, 115, 101, 32]⟩)) 9, none⟩,
 ⟨some 73, .move (.tmp 1), none⟩,
 ⟨some 74, .indexAddr 31 (.tmp 73) (.const (.int .i64 2)), none⟩,
 ⟨some 75, .load 9 (.tmp 74), none⟩,
 ⟨some 76, .binOp .add 9 (.tmp 72) (.tmp 75) 9, none⟩,
 ⟨some 4, .assign (.tmp 76), none⟩]
def r68_12 : List POp := [
 ⟨some 78, .binOp .eql 3 (.tmp 6) (.const (.int .i64 11)) 3, none⟩,
 ⟨some 77, .assign (.tmp 78), none⟩]
def r68_13 : List POp := [
 ⟨some 79, .move (.tmp 1), none⟩,
 ⟨some 80, .indexAddr 31 (.tmp 79) (.const (.int .i64 0)), none⟩,
 ⟨some 81, .load 9 (.tmp 80), none⟩,
 ⟨some 82, .binOp .add 9 (.const (.string ⟨#[109, 97, 116, 99, 104, 32]⟩)) (.tmp 81) 9, none⟩,
 ⟨some 83, .binOp .add 9 (.tmp 82) (.const (.string ⟨#[32, 119, 105, 116, 104, 32]⟩)) 9, none⟩,
 ⟨some 84, .move (.tmp 1), none⟩,
 ⟨some 85, .slice 31 (.tmp 84) (some (.const (.int .i64 1))) none none, none⟩,
 ⟨some 86, .call { callee := .value (.func 90), args := #[(.tmp 85)], argTypes := #[31] }, none⟩]
def r68_14 : List POp := [
 ⟨some 87, .binOp .add 9 (.tmp 83) (.tmp 86) 9, none⟩,
 ⟨some 88, .binOp .add 9 (.tmp 87) (.const (.string ⟨#[32, 101, 110, 100]⟩)) 9, none⟩,
 ⟨some 4, .assign (.tmp 88), none⟩]
noncomputable def d68_0 : Array Oper := match Tryz.f68.body.map (comp E Tryz.f68.ntmps) with | some p => p.draws.getD 0 #[] | none => #[]
theorem draw68_0 : DrawC E 161 d68_0 11 8 r68_13 r68_14 [(.tmp 80)] := ⟨by kernel_rfl, by decide, by kernel_rfl, by kernel_rfl, by kernel_rfl, by kernel_rfl, by kernel_rfl⟩
def r68_15 : List POp := [
 ⟨some 90, .binOp .eql 3 (.tmp 6) (.const (.int .i64 12)) 3, none⟩,
 ⟨some 89, .assign (.tmp 90), none⟩]
def r68_16 : List POp := [
 ⟨some 91, .move (.tmp 1), none⟩,
 ⟨some 92, .indexAddr 31 (.tmp 91) (.const (.int .i64 0)), none⟩,
 ⟨some 93, .load 9 (.tmp 92), none⟩,
 ⟨some 94, .binOp .add 9 (.tmp 93) (.const (.string ⟨#[32, 59, 32]⟩)) 9, none⟩,
 ⟨some 95, .move (.tmp 1), none⟩,
 ⟨some 96, .indexAddr 31 (.tmp 95) (.const (.int .i64 1)), none⟩,
 ⟨some 97, .load 9 (.tmp 96), none⟩,
 ⟨some 98, .binOp .add 9 (.tmp 94) (.tmp 97) 9, none⟩,
 ⟨some 4, .assign (.tmp 98), none⟩]
def r68_17 : List POp := [
 ⟨some 100, .binOp .eql 3 (.tmp 6) (.const (.int .i64 13)) 3, none⟩,
 ⟨some 99, .assign (.tmp 100), none⟩]
def r68_18 : List POp := [
 ⟨some 101, .move (.tmp 1), none⟩,
 ⟨some 102, .indexAddr 31 (.tmp 101) (.const (.int .i64 0)), none⟩,
 ⟨some 103, .load 9 (.tmp 102), none⟩,
 ⟨some 104, .binOp .add 9 (.tmp 103) (.const (.string ⟨#[32, 58, 61, 32]⟩)) 9, none⟩,
 ⟨some 105, .move (.tmp 1), none⟩,
 ⟨some 106, .indexAddr 31 (.tmp 105) (.const (.int .i64 1)), none⟩,
 ⟨some 107, .load 9 (.tmp 106), none⟩,
 ⟨some 108, .binOp .add 9 (.tmp 104) (.tmp 107) 9, none⟩,
 ⟨some 4, .assign (.tmp 108), none⟩]
def r68_19 : List POp := [
 ⟨some 110, .binOp .eql 3 (.tmp 6) (.const (.int .i64 14)) 3, none⟩,
 ⟨some 109, .assign (.tmp 110), none⟩]
def r68_20 : List POp := [
 ⟨some 111, .move (.tmp 1), none⟩,
 ⟨some 112, .indexAddr 31 (.tmp 111) (.const (.int .i64 0)), none⟩,
 ⟨some 113, .load 9 (.tmp 112), none⟩,
 ⟨some 114, .binOp .add 9 (.tmp 113) (.const (.string ⟨#[32]⟩)) 9, none⟩,
 ⟨some 115, .fieldAddr 30 (.tmp 2) 2, none⟩,
 ⟨some 116, .load 9 (.tmp 115), none⟩,
 ⟨some 117, .binOp .add 9 (.tmp 114) (.tmp 116) 9, none⟩,
 ⟨some 118, .binOp .add 9 (.tmp 117) (.const (.string ⟨#[32]⟩)) 9, none⟩,
 ⟨some 119, .move (.tmp 1), none⟩,
 ⟨some 120, .indexAddr 31 (.tmp 119) (.const (.int .i64 1)), none⟩,
 ⟨some 121, .load 9 (.tmp 120), none⟩,
 ⟨some 122, .binOp .add 9 (.tmp 118) (.tmp 121) 9, none⟩,
 ⟨some 4, .assign (.tmp 122), none⟩]
def r68_21 : List POp := [
 ⟨some 124, .binOp .eql 3 (.tmp 6) (.const (.int .i64 15)) 3, none⟩,
 ⟨some 123, .assign (.tmp 124), none⟩]
def r68_22 : List POp := [
 ⟨some 125, .move (.tmp 1), none⟩,
 ⟨some 126, .indexAddr 31 (.tmp 125) (.const (.int .i64 0)), none⟩,
 ⟨some 127, .load 9 (.tmp 126), none⟩,
 ⟨some 128, .binOp .add 9 (.const (.string ⟨#[114, 101, 102, 32]⟩)) (.tmp 127) 9, none⟩,
 ⟨some 4, .assign (.tmp 128), none⟩]
def r68_23 : List POp := [
 ⟨some 130, .binOp .eql 3 (.tmp 6) (.const (.int .i64 16)) 3, none⟩,
 ⟨some 129, .assign (.tmp 130), none⟩]
def r68_24 : List POp := [
 ⟨some 131, .move (.tmp 1), none⟩,
 ⟨some 132, .indexAddr 31 (.tmp 131) (.const (.int .i64 0)), none⟩,
 ⟨some 133, .load 9 (.tmp 132), none⟩,
 ⟨some 134, .binOp .add 9 (.const (.string ⟨#[33, 32]⟩)) (.tmp 133) 9, none⟩,
 ⟨some 4, .assign (.tmp 134), none⟩]
def r68_25 : List POp := [
 ⟨some 136, .binOp .eql 3 (.tmp 6) (.const (.int .i64 17)) 3, none⟩,
 ⟨some 135, .assign (.tmp 136), none⟩]
def r68_26 : List POp := [
 ⟨some 137, .move (.tmp 1), none⟩,
 ⟨some 138, .indexAddr 31 (.tmp 137) (.const (.int .i64 0)), none⟩,
 ⟨some 139, .load 9 (.tmp 138), none⟩,
 ⟨some 140, .binOp .add 9 (.const (.string ⟨#[112, 114, 105, 110, 116, 32]⟩)) (.tmp 139) 9, none⟩,
 ⟨some 4, .assign (.tmp 140), none⟩]
def r68_27 : List POp := [
 ⟨some 142, .binOp .eql 3 (.tmp 6) (.const (.int .i64 19)) 3, none⟩,
 ⟨some 141, .assign (.tmp 142), none⟩]
def r68_28 : List POp := [
 ⟨some 143, .move (.tmp 1), none⟩,
 ⟨some 144, .indexAddr 31 (.tmp 143) (.const (.int .i64 0)), none⟩,
 ⟨some 145, .load 9 (.tmp 144), none⟩,
 ⟨some 146, .binOp .add 9 (.const (.string ⟨#[114, 97, 105, 115, 101, 32]⟩)) (.tmp 145) 9, none⟩,
 ⟨some 4, .assign (.tmp 146), none⟩]
def r68_29 : List POp := [
 ⟨some 147, .move (.tmp 1), none⟩,
 ⟨some 148, .indexAddr 31 (.tmp 147) (.const (.int .i64 0)), none⟩,
 ⟨some 149, .load 9 (.tmp 148), none⟩,
 ⟨some 150, .binOp .add 9 (.const (.string ⟨#[116, 114, 121, 32]⟩)) (.tmp 149) 9, none⟩,
 ⟨some 151, .binOp .add 9 (.tmp 150) (.const (.string ⟨#[32, 119, 105, 116, 104, 32]⟩)) 9, none⟩,
 ⟨some 152, .fieldAddr 30 (.tmp 2) 3, none⟩,
 ⟨some 153, .load 9 (.tmp 152), none⟩,
 ⟨some 154, .binOp .add 9 (.tmp 151) (.tmp 153) 9, none⟩,
 ⟨some 155, .binOp .add 9 (.tmp 154) (.const (.string ⟨#[32, 45, 62, 32]⟩)) 9, none⟩,
 ⟨some 156, .move (.tmp 1), none⟩,
 ⟨some 157, .indexAddr 31 (.tmp 156) (.const (.int .i64 1)), none⟩,
 ⟨some 158, .load 9 (.tmp 157), none⟩,
 ⟨some 159, .binOp .add 9 (.tmp 155) (.tmp 158) 9, none⟩,
 ⟨some 160, .binOp .add 9 (.tmp 159) (.const (.string ⟨#[32, 101, 110, 100]⟩)) 9, none⟩,
 ⟨some 4, .assign (.tmp 160), none⟩]
noncomputable def p68 : PC := (.seq (.reg r68_0) (.seq (.seq (.reg r68_1) (.block 0 (.seq (.reg r68_2) (.cond (.tmp 7) (.seq (.regD 9 r68_3) .ret) (.seq (.reg r68_4) (.cond (.tmp 17) (.seq (.regD 9 r68_5) .ret) (.seq (.reg r68_6) (.cond (.tmp 27) (.seq (.regD 14 r68_7) .ret) (.seq (.reg r68_8) (.cond (.tmp 42) (.seq (.regD 18 r68_9) .ret) (.seq (.reg r68_10) (.cond (.tmp 61) (.seq (.regD 15 r68_11) .ret) (.seq (.reg r68_12) (.cond (.tmp 77) (.seq (.draw d68_0) .ret) (.seq (.reg r68_15) (.cond (.tmp 89) (.seq (.regD 9 r68_16) .ret) (.seq (.reg r68_17) (.cond (.tmp 99) (.seq (.regD 9 r68_18) .ret) (.seq (.reg r68_19) (.cond (.tmp 109) (.seq (.regD 13 r68_20) .ret) (.seq (.reg r68_21) (.cond (.tmp 123) (.seq (.reg r68_22) .ret) (.seq (.reg r68_23) (.cond (.tmp 129) (.seq (.reg r68_24) .ret) (.seq (.reg r68_25) (.cond (.tmp 135) (.seq (.reg r68_26) .ret) (.seq (.reg r68_27) (.cond (.tmp 141) (.seq (.reg r68_28) .ret) .skip)))))))))))))))))))))))))))) (.seq (.regD 15 r68_29) .ret)))
theorem comp68 : (Tryz.f68.body.map (comp E Tryz.f68.ntmps)) = some p68 := by kernel_rfl
theorem ev68 : EvC 68 161 p68 [.tmp 4] := fun hn h => ev_ends (fn := Tryz.f68) (by kernel_rfl) rfl comp68 (by kernel_rfl) (by kernel_rfl) hn h
def r90_0 : List POp := [
 ⟨some 2, .assign (.const (.string ⟨#[]⟩)), none⟩]
def r90_1 : List POp := [
 ⟨some 3, .assign (.const (.slice none 0 0)), none⟩]
def r90_2 : List POp := [
 ⟨some 4, .assign (.const (.int .i64 0)), none⟩]
def r90_3 : List POp := [
 ⟨some 5, .move (.tmp 4), none⟩,
 ⟨some 6, .move (.tmp 0), none⟩,
 ⟨some 7, .call { callee := .builtin .len, args := #[(.tmp 6)], argTypes := #[31] }, none⟩,
 ⟨some 8, .binOp .lss 3 (.tmp 5) (.tmp 7) 3, none⟩]
def r90_4 : List POp := [
 ⟨some 11, .move (.tmp 3), none⟩,
 ⟨some 12, .move (.tmp 0), none⟩,
 ⟨some 13, .move (.tmp 4), none⟩,
 ⟨some 14, .indexAddr 31 (.tmp 12) (.tmp 13), none⟩,
 ⟨some 15, .load 9 (.tmp 14), none⟩,
 ⟨some 16, .binOp .add 9 (.tmp 15) (.const (.string ⟨#[32, 45, 62, 32]⟩)) 9, none⟩,
 ⟨some 17, .move (.tmp 0), none⟩,
 ⟨some 18, .move (.tmp 4), none⟩,
 ⟨some 19, .binOp .add 3 (.tmp 18) (.const (.int .i64 1)) 3, none⟩,
 ⟨some 20, .indexAddr 31 (.tmp 17) (.tmp 19), none⟩,
 ⟨some 21, .load 9 (.tmp 20), none⟩,
 ⟨some 22, .binOp .add 9 (.tmp 16) (.tmp 21) 9, none⟩,
 ⟨some 23, .buildSlice 31 1 #[(0, (.tmp 22))], none⟩,
 ⟨some 24, .call { callee := .builtin .append, args := #[(.tmp 11), (.tmp 23)], argTypes := #[31, 31] }, none⟩,
 ⟨some 3, .assign (.tmp 24), none⟩]
def r90_5 : List POp := [
 ⟨some 9, .move (.tmp 4), none⟩,
 ⟨some 10, .binOp .add 3 (.tmp 9) (.const (.int .i64 2)) 3, none⟩,
 ⟨some 4, .assign (.tmp 10), none⟩]
noncomputable def b90_6 : PC := (.seq (.seq (.reg r90_3) (.cond (.tmp 8) .skip (.exit 0))) (.seq (.block 1 (.regD 15 r90_4)) (.reg r90_5)))
def r90_7 : List POp := [
 ⟨some 25, .move (.tmp 3), none⟩,
 ⟨some 26, .call { callee := .value (.func 64), args := #[(.tmp 25), (.const (.string ⟨#[32, 124, 32]⟩))], argTypes := #[31, 9] }, none⟩,
 ⟨some 2, .assign (.tmp 26), none⟩]
noncomputable def p90 : PC := (.seq (.reg r90_0) (.seq (.reg r90_1) (.seq (.seq (.reg r90_2) (.block 0 (.loop b90_6))) (.seq (.reg r90_7) .ret))))
theorem comp90 : (Tryz.f90.body.map (comp E Tryz.f90.ntmps)) = some p90 := by kernel_rfl
theorem ev90 : EvC 90 27 p90 [.tmp 2] := fun hn h => ev_ends (fn := Tryz.f90) (by kernel_rfl) rfl comp90 (by kernel_rfl) (by kernel_rfl) hn h
def r39_0 : List POp := [
 ⟨some 1, .box 56 (.tmp 0), none⟩,
 ⟨some 2, .assign (.const (.string ⟨#[]⟩)), none⟩]
def r39_1 : List POp := [
 ⟨some 3, .assign (.const (.slice none 0 0)), none⟩]
def r39_2 : List POp := [
 ⟨some 7, .fieldAddr 56 (.tmp 1) 1, none⟩,
 ⟨some 8, .load 54 (.tmp 7), none⟩,
 ⟨some 9, .call { callee := .builtin .len, args := #[(.tmp 8)], argTypes := #[54] }, none⟩,
 ⟨some 10, .move (.const (.int .i64 0)), none⟩]
def r39_3 : List POp := [
 ⟨some 11, .binOp .lss 3 (.tmp 10) (.tmp 9) 3, none⟩]
def r39_4 : List POp := [
 ⟨some 12, .indexAddr 54 (.tmp 8) (.tmp 10), none⟩,
 ⟨some 13, .load 58 (.tmp 12), none⟩,
 ⟨some 5, .alloc 58, none⟩,
 ⟨none, .store 58 (.tmp 5) (.tmp 13), none⟩]
def r39_5 : List POp := [
 ⟨some 14, .fieldAddr 58 (.tmp 5) 0, none⟩,
 ⟨some 15, .load 9 (.tmp 14), none⟩,
 ⟨some 6, .assign (.tmp 15), none⟩]
def r39_6 : List POp := [
 ⟨some 16, .fieldAddr 58 (.tmp 5) 1, none⟩,
 ⟨some 17, .load 31 (.tmp 16), none⟩,
 ⟨some 18, .call { callee := .builtin .len, args := #[(.tmp 17)], argTypes := #[31] }, none⟩,
 ⟨some 19, .binOp .gtr 3 (.tmp 18) (.const (.int .i64 0)) 3, none⟩]
def r39_7 : List POp := [
 ⟨some 20, .move (.tmp 6), none⟩,
 ⟨some 21, .fieldAddr 58 (.tmp 5) 1, none⟩,
 ⟨some 22, .load 31 (.tmp 21), none⟩,
 ⟨some 23, .call { callee := .value (.func 64), args := #[(.tmp 22), (.const (.string ⟨#[44, 32]⟩))], argTypes := #[31, 9] }, none⟩,
 ⟨some 24, .binOp .add 9 (.const (.string ⟨#[32, 111, 102, 32]⟩)) (.tmp 23) 9, none⟩,
 ⟨some 25, .binOp .add 9 (.tmp 20) (.tmp 24) 9, none⟩,
 ⟨some 6, .assign (.tmp 25), none⟩]
def r39_8 : List POp := [
 ⟨some 26, .move (.tmp 3), none⟩,
 ⟨some 27, .move (.tmp 6), none⟩,
 ⟨some 28, .buildSlice 31 1 #[(0, (.tmp 27))], none⟩,
 ⟨some 29, .call { callee := .builtin .append, args := #[(.tmp 26), (.tmp 28)], argTypes := #[31, 31] }, none⟩,
 ⟨some 3, .assign (.tmp 29), none⟩]
def r39_9 : List POp := [
 ⟨some 30, .binOp .add 3 (.tmp 10) (.const (.int .i64 1)) 3, none⟩,
 ⟨some 10, .move (.tmp 30), none⟩]
noncomputable def b39_10 : PC := (.seq (.reg r39_3) (.seq (.cond (.tmp 11) .skip (.exit 0)) (.seq (.block 1 (.seq (.reg r39_4) (.seq (.reg r39_5) (.seq (.seq (.reg r39_6) (.cond (.tmp 19) (.reg r39_7) .skip)) (.reg r39_8))))) (.reg r39_9))))
def r39_11 : List POp := [
 ⟨some 31, .fieldAddr 56 (.tmp 1) 0, none⟩,
 ⟨some 32, .load 9 (.tmp 31), none⟩,
 ⟨some 33, .binOp .add 9 (.const (.string ⟨#[116, 121, 112, 101, 32]⟩)) (.tmp 32) 9, none⟩,
 ⟨some 34, .binOp .add 9 (.tmp 33) (.const (.string ⟨#[32, 61, 32]⟩)) 9, none⟩,
 ⟨some 35, .move (.tmp 3), none⟩,
 ⟨some 36, .call { callee := .value (.func 64), args := #[(.tmp 35), (.const (.string ⟨#[32, 124, 32]⟩))], argTypes := #[31, 9] }, none⟩]
def r39_12 : List POp := [
 ⟨some 37, .binOp .add 9 (.tmp 34) (.tmp 36) 9, none⟩,
 ⟨some 38, .binOp .add 9 (.tmp 37) (.const (.string ⟨#[32, 105, 110, 32]⟩)) 9, none⟩,
 ⟨some 2, .assign (.tmp 38), none⟩]
noncomputable def d39_0 : Array Oper := match Tryz.f39.body.map (comp E Tryz.f39.ntmps) with | some p => p.draws.getD 0 #[] | none => #[]
theorem draw39_0 : DrawC E 39 d39_0 9 6 r39_11 r39_12 [(.tmp 31)] := ⟨by kernel_rfl, by decide, by kernel_rfl, by kernel_rfl, by kernel_rfl, by kernel_rfl, by kernel_rfl⟩
noncomputable def p39 : PC := (.seq (.reg r39_0) (.seq (.reg r39_1) (.seq (.seq (.reg r39_2) (.block 0 (.loop b39_10))) (.seq (.draw d39_0) .ret))))
theorem comp39 : (Tryz.f39.body.map (comp E Tryz.f39.ntmps)) = some p39 := by kernel_rfl
theorem ev39 : EvC 39 39 p39 [.tmp 2] := fun hn h => ev_ends (fn := Tryz.f39) (by kernel_rfl) rfl comp39 (by kernel_rfl) (by kernel_rfl) hn h
def r14_0 : List POp := [
 ⟨some 4, .assign (.const (.bool false)), none⟩]
def r14_1 : List POp := [
 ⟨some 6, .move (.tmp 0), none⟩,
 ⟨some 7, .call { callee := .builtin .len, args := #[(.tmp 6)], argTypes := #[31] }, none⟩,
 ⟨some 8, .move (.tmp 1), none⟩,
 ⟨some 9, .call { callee := .builtin .len, args := #[(.tmp 8)], argTypes := #[31] }, none⟩,
 ⟨some 10, .binOp .neq 3 (.tmp 7) (.tmp 9) 3, none⟩]
def r14_2 : List POp := [
 ⟨some 4, .assign (.const (.bool false)), none⟩]
def r14_3 : List POp := [
 ⟨some 5, .assign (.const (.int .i64 0)), none⟩]
def r14_4 : List POp := [
 ⟨some 11, .move (.tmp 5), none⟩,
 ⟨some 12, .move (.tmp 0), none⟩,
 ⟨some 13, .call { callee := .builtin .len, args := #[(.tmp 12)], argTypes := #[31] }, none⟩,
 ⟨some 14, .binOp .lss 3 (.tmp 11) (.tmp 13) 3, none⟩]
def r14_5 : List POp := [
 ⟨some 17, .move (.tmp 0), none⟩,
 ⟨some 18, .move (.tmp 5), none⟩,
 ⟨some 19, .indexAddr 31 (.tmp 17) (.tmp 18), none⟩,
 ⟨some 20, .load 9 (.tmp 19), none⟩,
 ⟨some 21, .move (.tmp 1), none⟩,
 ⟨some 22, .move (.tmp 5), none⟩,
 ⟨some 23, .indexAddr 31 (.tmp 21) (.tmp 22), none⟩,
 ⟨some 24, .load 9 (.tmp 23), none⟩,
 ⟨some 25, .binOp .neq 9 (.tmp 20) (.tmp 24) 9, none⟩]
def r14_6 : List POp := [
 ⟨some 4, .assign (.const (.bool false)), none⟩]
def r14_7 : List POp := [
 ⟨some 15, .move (.tmp 5), none⟩,
 ⟨some 16, .binOp .add 3 (.tmp 15) (.const (.int .i64 1)) 3, none⟩,
 ⟨some 5, .assign (.tmp 16), none⟩]
noncomputable def b14_8 : PC := (.seq (.seq (.reg r14_4) (.cond (.tmp 14) .skip (.exit 0))) (.seq (.block 1 (.seq (.regD 9 r14_5) (.cond (.tmp 25) (.seq (.reg r14_6) .ret) .skip))) (.reg r14_7)))
def r14_9 : List POp := [
 ⟨some 4, .assign (.const (.bool true)), none⟩]
noncomputable def p14 : PC := (.seq (.reg r14_0) (.seq (.seq (.reg r14_1) (.cond (.tmp 10) (.seq (.reg r14_2) .ret) .skip)) (.seq (.seq (.reg r14_3) (.block 0 (.loop b14_8))) (.seq (.reg r14_9) .ret))))
theorem comp14 : (Tryz.f14.body.map (comp E Tryz.f14.ntmps)) = some p14 := by kernel_rfl
theorem ev14 : EvC 14 26 p14 [.tmp 4] := fun hn h => ev_ends (fn := Tryz.f14) (by kernel_rfl) rfl comp14 (by kernel_rfl) (by kernel_rfl) hn h
def r15_0 : List POp := [
 ⟨some 4, .assign (.const (.bool false)), none⟩]
def r15_1 : List POp := [
 ⟨some 6, .move (.tmp 0), none⟩,
 ⟨some 7, .call { callee := .builtin .len, args := #[(.tmp 6)], argTypes := #[28] }, none⟩,
 ⟨some 8, .move (.tmp 1), none⟩,
 ⟨some 9, .call { callee := .builtin .len, args := #[(.tmp 8)], argTypes := #[28] }, none⟩,
 ⟨some 10, .binOp .neq 3 (.tmp 7) (.tmp 9) 3, none⟩]
def r15_2 : List POp := [
 ⟨some 4, .assign (.const (.bool false)), none⟩]
def r15_3 : List POp := [
 ⟨some 5, .assign (.const (.int .i64 0)), none⟩]
def r15_4 : List POp := [
 ⟨some 11, .move (.tmp 5), none⟩,
 ⟨some 12, .move (.tmp 0), none⟩,
 ⟨some 13, .call { callee := .builtin .len, args := #[(.tmp 12)], argTypes := #[28] }, none⟩,
 ⟨some 14, .binOp .lss 3 (.tmp 11) (.tmp 13) 3, none⟩]
def r15_5 : List POp := [
 ⟨some 17, .move (.tmp 0), none⟩,
 ⟨some 18, .move (.tmp 5), none⟩,
 ⟨some 19, .indexAddr 28 (.tmp 17) (.tmp 18), none⟩,
 ⟨some 20, .load 3 (.tmp 19), none⟩,
 ⟨some 21, .move (.tmp 1), none⟩,
 ⟨some 22, .move (.tmp 5), none⟩,
 ⟨some 23, .indexAddr 28 (.tmp 21) (.tmp 22), none⟩,
 ⟨some 24, .load 3 (.tmp 23), none⟩,
 ⟨some 25, .binOp .neq 3 (.tmp 20) (.tmp 24) 3, none⟩]
def r15_6 : List POp := [
 ⟨some 4, .assign (.const (.bool false)), none⟩]
def r15_7 : List POp := [
 ⟨some 15, .move (.tmp 5), none⟩,
 ⟨some 16, .binOp .add 3 (.tmp 15) (.const (.int .i64 1)) 3, none⟩,
 ⟨some 5, .assign (.tmp 16), none⟩]
noncomputable def b15_8 : PC := (.seq (.seq (.reg r15_4) (.cond (.tmp 14) .skip (.exit 0))) (.seq (.block 1 (.seq (.regD 9 r15_5) (.cond (.tmp 25) (.seq (.reg r15_6) .ret) .skip))) (.reg r15_7)))
def r15_9 : List POp := [
 ⟨some 4, .assign (.const (.bool true)), none⟩]
noncomputable def p15 : PC := (.seq (.reg r15_0) (.seq (.seq (.reg r15_1) (.cond (.tmp 10) (.seq (.reg r15_2) .ret) .skip)) (.seq (.seq (.reg r15_3) (.block 0 (.loop b15_8))) (.seq (.reg r15_9) .ret))))
theorem comp15 : (Tryz.f15.body.map (comp E Tryz.f15.ntmps)) = some p15 := by kernel_rfl
theorem ev15 : EvC 15 26 p15 [.tmp 4] := fun hn h => ev_ends (fn := Tryz.f15) (by kernel_rfl) rfl comp15 (by kernel_rfl) (by kernel_rfl) hn h
def r38_0 : List POp := [
 ⟨some 4, .assign (.const (.int .i64 0)), none⟩,
 ⟨some 5, .assign (.const .nilIface), none⟩]
def r38_1 : List POp := [
 ⟨some 6, .move (.tmp 0), none⟩,
 ⟨some 7, .call { callee := .value (.func 63), args := #[(.tmp 6)], argTypes := #[73] }, none⟩]
def r38_2 : List POp := [
 ⟨some 8, .move (.tmp 0), none⟩,
 ⟨some 9, .move (.tmp 0), none⟩,
 ⟨some 10, .nilCheck (.tmp 9), none⟩,
 ⟨some 11, .fieldAddr 76 (.tmp 10) 1, none⟩,
 ⟨some 12, .load 74 (.tmp 11), none⟩,
 ⟨some 13, .move (.tmp 1), none⟩,
 ⟨some 14, .call { callee := .builtin .append, args := #[(.tmp 12), (.tmp 13)], argTypes := #[74, 9] }, none⟩,
 ⟨some 15, .nilCheck (.tmp 8), none⟩,
 ⟨some 16, .fieldAddr 76 (.tmp 15) 1, none⟩,
 ⟨none, .store 74 (.tmp 16) (.tmp 14), none⟩]
def r38_3 : List POp := [
 ⟨some 17, .move (.tmp 1), none⟩,
 ⟨some 18, .call { callee := .builtin .len, args := #[(.tmp 17)], argTypes := #[9] }, none⟩,
 ⟨some 4, .assign (.tmp 18), none⟩,
 ⟨some 5, .assign (.const .nilIface), none⟩]
noncomputable def p38 : PC := (.seq (.reg r38_0) (.seq (.reg r38_1) (.seq (.reg r38_2) (.seq (.reg r38_3) .ret))))
theorem comp38 : (Tryz.f38.body.map (comp E Tryz.f38.ntmps)) = some p38 := by kernel_rfl
theorem ev38 : EvC 38 19 p38 [.tmp 4, .tmp 5] := fun hn h => ev_ends (fn := Tryz.f38) (by kernel_rfl) rfl comp38 (by kernel_rfl) (by kernel_rfl) hn h
def r41_0 : List POp := [
 ⟨some 2, .assign (.const (.string ⟨#[]⟩)), none⟩]
def r41_1 : List POp := [
 ⟨some 3, .move (.tmp 0), none⟩,
 ⟨some 4, .nilCheck (.tmp 3), none⟩,
 ⟨some 5, .fieldAddr 76 (.tmp 4) 1, none⟩,
 ⟨some 6, .load 74 (.tmp 5), none⟩,
 ⟨some 7, .call { callee := .builtin .unsafeSliceData, args := #[(.tmp 6)], argTypes := #[74] }, none⟩,
 ⟨some 8, .move (.tmp 0), none⟩,
 ⟨some 9, .nilCheck (.tmp 8), none⟩,
 ⟨some 10, .fieldAddr 76 (.tmp 9) 1, none⟩,
 ⟨some 11, .load 74 (.tmp 10), none⟩,
 ⟨some 12, .call { callee := .builtin .len, args := #[(.tmp 11)], argTypes := #[74] }, none⟩]
def r41_2 : List POp := [
 ⟨some 13, .call { callee := .builtin .unsafeString, args := #[(.tmp 7), (.tmp 12)], argTypes := #[106, 3] }, none⟩,
 ⟨some 2, .assign (.tmp 13), none⟩]
noncomputable def d41_0 : Array Oper := match Tryz.f41.body.map (comp E Tryz.f41.ntmps) with | some p => p.draws.getD 0 #[] | none => #[]
theorem draw41_0 : DrawC E 14 d41_0 12 10 r41_1 r41_2 [(.tmp 10), (.tmp 11)] := ⟨by kernel_rfl, by decide, by kernel_rfl, by kernel_rfl, by kernel_rfl, by kernel_rfl, by kernel_rfl⟩
noncomputable def p41 : PC := (.seq (.reg r41_0) (.seq (.draw d41_0) .ret))
theorem comp41 : (Tryz.f41.body.map (comp E Tryz.f41.ntmps)) = some p41 := by kernel_rfl
theorem ev41 : EvC 41 14 p41 [.tmp 2] := fun hn h => ev_ends (fn := Tryz.f41) (by kernel_rfl) rfl comp41 (by kernel_rfl) (by kernel_rfl) hn h
def r63_0 : List POp := [
 ⟨some 2, .move (.tmp 0), none⟩,
 ⟨some 3, .nilCheck (.tmp 2), none⟩,
 ⟨some 4, .fieldAddr 76 (.tmp 3) 0, none⟩,
 ⟨some 5, .load 73 (.tmp 4), none⟩,
 ⟨some 6, .binOp .eql 73 (.tmp 5) (.const (.pointer none)) 73, none⟩]
def r63_1 : List POp := [
 ⟨some 7, .move (.tmp 0), none⟩,
 ⟨some 8, .move (.tmp 0), none⟩,
 ⟨some 9, .convert 73 121 (.tmp 8), none⟩,
 ⟨some 10, .call { callee := .value (.func 86), args := #[(.tmp 9)], argTypes := #[121] }, none⟩,
 ⟨some 11, .convert 121 73 (.tmp 10), none⟩,
 ⟨some 12, .nilCheck (.tmp 7), none⟩,
 ⟨some 13, .fieldAddr 76 (.tmp 12) 0, none⟩,
 ⟨none, .store 73 (.tmp 13) (.tmp 11), none⟩]
def r63_2 : List POp := [
 ⟨some 14, .move (.tmp 0), none⟩,
 ⟨some 15, .nilCheck (.tmp 14), none⟩,
 ⟨some 16, .fieldAddr 76 (.tmp 15) 0, none⟩,
 ⟨some 17, .load 73 (.tmp 16), none⟩,
 ⟨some 18, .move (.tmp 0), none⟩,
 ⟨some 19, .binOp .neq 73 (.tmp 17) (.tmp 18) 73, none⟩]
noncomputable def p63 : PC := (.seq (.reg r63_0) (.cond (.tmp 6) (.reg r63_1) (.seq (.reg r63_2) (.cond (.tmp 19) .bad .skip))))
theorem comp63 : (Tryz.f63.body.map (comp E Tryz.f63.ntmps)) = some p63 := by kernel_rfl
theorem ev63 : EvC 63 20 p63 [] := fun hn h => ev_ends (fn := Tryz.f63) (by kernel_rfl) rfl comp63 (by kernel_rfl) (by kernel_rfl) hn h
def r66_0 : List POp := [
 ⟨some 2, .assign (.const (.string ⟨#[]⟩)), none⟩]
def r66_1 : List POp := [
 ⟨some 3, .move (.tmp 0), none⟩,
 ⟨some 4, .call { callee := .value (.func 89), args := #[(.tmp 3)], argTypes := #[4] }, none⟩,
 ⟨some 2, .assign (.tmp 4), none⟩]
noncomputable def p66 : PC := (.seq (.reg r66_0) (.seq (.reg r66_1) .ret))
theorem comp66 : (Tryz.f66.body.map (comp E Tryz.f66.ntmps)) = some p66 := by kernel_rfl
theorem ev66 : EvC 66 5 p66 [.tmp 2] := fun hn h => ev_ends (fn := Tryz.f66) (by kernel_rfl) rfl comp66 (by kernel_rfl) (by kernel_rfl) hn h
def r89_0 : List POp := [
 ⟨some 2, .assign (.const (.string ⟨#[]⟩)), none⟩]
def r89_1 : List POp := [
 ⟨some 3, .move (.tmp 0), none⟩]
def r89_2 : List POp := [
 ⟨some 2, .assign (.const (.string ⟨#[116, 114, 117, 101]⟩)), none⟩]
def r89_3 : List POp := [
 ⟨some 2, .assign (.const (.string ⟨#[102, 97, 108, 115, 101]⟩)), none⟩]
noncomputable def p89 : PC := (.seq (.reg r89_0) (.seq (.seq (.reg r89_1) (.cond (.tmp 3) (.seq (.reg r89_2) .ret) .skip)) (.seq (.reg r89_3) .ret)))
theorem comp89 : (Tryz.f89.body.map (comp E Tryz.f89.ntmps)) = some p89 := by kernel_rfl
theorem ev89 : EvC 89 4 p89 [.tmp 2] := fun hn h => ev_ends (fn := Tryz.f89) (by kernel_rfl) rfl comp89 (by kernel_rfl) (by kernel_rfl) hn h
def r10_0 : List POp := [
 ⟨some 2, .box 25 (.tmp 0), none⟩,
 ⟨some 4, .assign (.const (.slice none 0 0)), none⟩]
def r10_1 : List POp := [
 ⟨some 5, .load 25 (.tmp 2), none⟩,
 ⟨some 6, .move (.tmp 1), none⟩,
 ⟨some 7, .call { callee := .value (.func 32), args := #[(.tmp 5), (.tmp 6)], argTypes := #[25, 3] }, none⟩,
 ⟨some 8, .unOp .not 4 (.tmp 7), none⟩]
def r10_2 : List POp := [
 ⟨some 4, .assign (.const (.slice none 0 0)), none⟩]
def r10_3 : List POp := [
 ⟨some 9, .load 25 (.tmp 2), none⟩,
 ⟨some 10, .move (.tmp 1), none⟩,
 ⟨some 11, .call { callee := .value (.func 35), args := #[(.tmp 9), (.tmp 10)], argTypes := #[25, 3] }, none⟩,
 ⟨some 12, .call { callee := .value (.func 34), args := #[(.tmp 11)], argTypes := #[71] }, none⟩,
 ⟨some 13, .call { callee := .value (.func 33), args := #[(.tmp 12)], argTypes := #[69] }, none⟩,
 ⟨some 4, .assign (.tmp 13), none⟩]
noncomputable def p10 : PC := (.seq (.reg r10_0) (.seq (.seq (.reg r10_1) (.cond (.tmp 8) (.seq (.reg r10_2) .ret) .skip)) (.seq (.reg r10_3) .ret)))
theorem comp10 : (Tryz.f10.body.map (comp E Tryz.f10.ntmps)) = some p10 := by kernel_rfl
theorem ev10 : EvC 10 14 p10 [.tmp 4] := fun hn h => ev_ends (fn := Tryz.f10) (by kernel_rfl) rfl comp10 (by kernel_rfl) (by kernel_rfl) hn h
def r35_0 : List POp := [
 ⟨some 2, .box 25 (.tmp 0), none⟩,
 ⟨some 4, .assign (.const (.map none)), none⟩]
def r35_1 : List POp := [
 ⟨some 12, .fieldAddr 25 (.tmp 2) 0, none⟩,
 ⟨some 13, .load 22 (.tmp 12), none⟩,
 ⟨some 14, .move (.tmp 1), none⟩,
 ⟨some 15, .indexAddr 22 (.tmp 13) (.tmp 14), none⟩,
 ⟨some 16, .load 30 (.tmp 15), none⟩,
 ⟨some 5, .alloc 30, none⟩,
 ⟨none, .store 30 (.tmp 5) (.tmp 16), none⟩]
def r35_2 : List POp := [
 ⟨some 17, .makeMap 71 none, none⟩,
 ⟨some 6, .assign (.tmp 17), none⟩]
def r35_3 : List POp := [
 ⟨some 18, .fieldAddr 30 (.tmp 5) 0, none⟩,
 ⟨some 19, .load 3 (.tmp 18), none⟩,
 ⟨some 20, .binOp .eql 3 (.tmp 19) (.const (.int .i64 4)) 3, none⟩]
def r35_4 : List POp := [
 ⟨some 21, .move (.tmp 6), none⟩,
 ⟨some 22, .fieldAddr 30 (.tmp 5) 2, none⟩,
 ⟨some 23, .load 9 (.tmp 22), none⟩,
 ⟨none, .mapUpdate 71 (.tmp 21) (.tmp 23) (.const (.bool true)), none⟩]
def r35_5 : List POp := [
 ⟨some 24, .fieldAddr 30 (.tmp 5) 4, none⟩,
 ⟨some 25, .load 28 (.tmp 24), none⟩,
 ⟨some 26, .call { callee := .builtin .len, args := #[(.tmp 25)], argTypes := #[28] }, none⟩,
 ⟨some 27, .move (.const (.int .i64 0)), none⟩]
def r35_6 : List POp := [
 ⟨some 28, .binOp .lss 3 (.tmp 27) (.tmp 26) 3, none⟩]
def r35_7 : List POp := [
 ⟨some 29, .move (.tmp 27), none⟩,
 ⟨some 30, .indexAddr 28 (.tmp 25) (.tmp 27), none⟩,
 ⟨some 31, .load 3 (.tmp 30), none⟩,
 ⟨some 7, .assign (.tmp 29), none⟩,
 ⟨some 8, .assign (.tmp 31), none⟩]
def r35_8 : List POp := [
 ⟨some 32, .load 25 (.tmp 2), none⟩,
 ⟨some 33, .move (.tmp 8), none⟩,
 ⟨some 34, .call { callee := .value (.func 35), args := #[(.tmp 32), (.tmp 33)], argTypes := #[25, 3] }, none⟩,
 ⟨some 9, .assign (.tmp 34), none⟩]
def r35_9 : List POp := [
 ⟨some 35, .load 25 (.tmp 2), none⟩,
 ⟨some 36, .load 30 (.tmp 5), none⟩,
 ⟨some 37, .move (.tmp 7), none⟩,
 ⟨some 38, .call { callee := .value (.func 61), args := #[(.tmp 35), (.tmp 36), (.tmp 37)], argTypes := #[25, 30, 3] }, none⟩,
 ⟨some 39, .call { callee := .builtin .len, args := #[(.tmp 38)], argTypes := #[31] }, none⟩,
 ⟨some 40, .move (.const (.int .i64 0)), none⟩]
def r35_10 : List POp := [
 ⟨some 41, .binOp .lss 3 (.tmp 40) (.tmp 39) 3, none⟩]
def r35_11 : List POp := [
 ⟨some 42, .indexAddr 31 (.tmp 38) (.tmp 40), none⟩,
 ⟨some 43, .load 9 (.tmp 42), none⟩,
 ⟨some 11, .assign (.tmp 43), none⟩]
def r35_12 : List POp := [
 ⟨some 44, .move (.tmp 9), none⟩,
 ⟨some 45, .move (.tmp 11), none⟩,
 ⟨none, .call { callee := .builtin .delete, args := #[(.tmp 44), (.tmp 45)], argTypes := #[71, 9] }, none⟩]
def r35_13 : List POp := [
 ⟨some 46, .binOp .add 3 (.tmp 40) (.const (.int .i64 1)) 3, none⟩,
 ⟨some 40, .move (.tmp 46), none⟩]
noncomputable def b35_14 : PC := (.seq (.reg r35_10) (.seq (.cond (.tmp 41) .skip (.exit 2)) (.seq (.block 3 (.seq (.reg r35_11) (.reg r35_12))) (.reg r35_13))))
def r35_15 : List POp := [
 ⟨some 47, .move (.tmp 6), none⟩,
 ⟨some 48, .move (.tmp 9), none⟩,
 ⟨some 49, .call { callee := .value (.func 62), args := #[(.tmp 47), (.tmp 48)], argTypes := #[71, 71] }, none⟩]
def r35_16 : List POp := [
 ⟨some 50, .binOp .add 3 (.tmp 27) (.const (.int .i64 1)) 3, none⟩,
 ⟨some 27, .move (.tmp 50), none⟩]
noncomputable def b35_17 : PC := (.seq (.reg r35_6) (.seq (.cond (.tmp 28) .skip (.exit 0)) (.seq (.block 1 (.seq (.reg r35_7) (.seq (.reg r35_8) (.seq (.seq (.reg r35_9) (.block 2 (.loop b35_14))) (.reg r35_15))))) (.reg r35_16))))
def r35_18 : List POp := [
 ⟨some 51, .move (.tmp 6), none⟩,
 ⟨some 4, .assign (.tmp 51), none⟩]
noncomputable def p35 : PC := (.seq (.reg r35_0) (.seq (.reg r35_1) (.seq (.reg r35_2) (.seq (.seq (.reg r35_3) (.cond (.tmp 20) (.reg r35_4) .skip)) (.seq (.seq (.reg r35_5) (.block 0 (.loop b35_17))) (.seq (.reg r35_18) .ret))))))
theorem comp35 : (Tryz.f35.body.map (comp E Tryz.f35.ntmps)) = some p35 := by kernel_rfl
theorem ev35 : EvC 35 52 p35 [.tmp 4] := fun hn h => ev_ends (fn := Tryz.f35) (by kernel_rfl) rfl comp35 (by kernel_rfl) (by kernel_rfl) hn h
def r61_0 : List POp := [
 ⟨some 3, .box 25 (.tmp 0), none⟩,
 ⟨some 4, .box 30 (.tmp 1), none⟩,
 ⟨some 6, .assign (.const (.slice none 0 0)), none⟩]
def r61_1 : List POp := [
 ⟨some 8, .fieldAddr 30 (.tmp 4) 0, none⟩,
 ⟨some 9, .load 3 (.tmp 8), none⟩,
 ⟨some 10, .binOp .eql 3 (.tmp 9) (.const (.int .i64 6)) 3, none⟩,
 ⟨some 7, .assign (.tmp 10), none⟩]
def r61_2 : List POp := [
 ⟨some 11, .fieldAddr 30 (.tmp 4) 0, none⟩,
 ⟨some 12, .load 3 (.tmp 11), none⟩,
 ⟨some 13, .binOp .eql 3 (.tmp 12) (.const (.int .i64 20)) 3, none⟩,
 ⟨some 14, .move (.tmp 13), none⟩,
 ⟨some 15, .move (.tmp 2), some (14, true)⟩,
 ⟨some 16, .binOp .eql 3 (.tmp 15) (.const (.int .i64 1)) 3, some (14, true)⟩,
 ⟨some 17, .pick (.tmp 14) (.tmp 16) (.const (.bool false)), none⟩,
 ⟨some 7, .assign (.tmp 17), none⟩]
def r61_3 : List POp := [
 ⟨some 18, .fieldAddr 30 (.tmp 4) 3, none⟩,
 ⟨some 19, .load 9 (.tmp 18), none⟩,
 ⟨some 20, .buildSlice 31 1 #[(0, (.tmp 19))], none⟩,
 ⟨some 6, .assign (.tmp 20), none⟩]
def r61_4 : List POp := [
 ⟨some 22, .fieldAddr 30 (.tmp 4) 0, none⟩,
 ⟨some 23, .load 3 (.tmp 22), none⟩,
 ⟨some 24, .binOp .eql 3 (.tmp 23) (.const (.int .i64 8)) 3, none⟩,
 ⟨some 25, .move (.tmp 24), none⟩,
 ⟨some 26, .move (.tmp 2), some (25, true)⟩,
 ⟨some 27, .binOp .eql 3 (.tmp 26) (.const (.int .i64 1)) 3, some (25, true)⟩,
 ⟨some 28, .pick (.tmp 25) (.tmp 27) (.const (.bool false)), none⟩,
 ⟨some 21, .assign (.tmp 28), none⟩]
def r61_5 : List POp := [
 ⟨some 29, .fieldAddr 30 (.tmp 4) 0, none⟩,
 ⟨some 30, .load 3 (.tmp 29), none⟩,
 ⟨some 31, .binOp .eql 3 (.tmp 30) (.const (.int .i64 9)) 3, none⟩,
 ⟨some 32, .move (.tmp 31), none⟩,
 ⟨some 33, .move (.tmp 2), some (32, true)⟩,
 ⟨some 34, .binOp .eql 3 (.tmp 33) (.const (.int .i64 1)) 3, some (32, true)⟩,
 ⟨some 35, .pick (.tmp 32) (.tmp 34) (.const (.bool false)), none⟩,
 ⟨some 21, .assign (.tmp 35), none⟩]
def r61_6 : List POp := [
 ⟨some 36, .fieldAddr 30 (.tmp 4) 2, none⟩,
 ⟨some 37, .load 9 (.tmp 36), none⟩,
 ⟨some 38, .buildSlice 31 1 #[(0, (.tmp 37))], none⟩,
 ⟨some 6, .assign (.tmp 38), none⟩]
def r61_7 : List POp := [
 ⟨some 40, .fieldAddr 30 (.tmp 4) 0, none⟩,
 ⟨some 41, .load 3 (.tmp 40), none⟩,
 ⟨some 42, .binOp .eql 3 (.tmp 41) (.const (.int .i64 9)) 3, none⟩,
 ⟨some 39, .assign (.tmp 42), none⟩]
def r61_8 : List POp := [
 ⟨some 43, .fieldAddr 30 (.tmp 4) 2, none⟩,
 ⟨some 44, .load 9 (.tmp 43), none⟩,
 ⟨some 45, .fieldAddr 30 (.tmp 4) 3, none⟩,
 ⟨some 46, .load 9 (.tmp 45), none⟩,
 ⟨some 47, .buildSlice 31 2 #[(0, (.tmp 44)), (1, (.tmp 46))], none⟩,
 ⟨some 6, .assign (.tmp 47), none⟩]
def r61_9 : List POp := [
 ⟨some 49, .fieldAddr 30 (.tmp 4) 0, none⟩,
 ⟨some 50, .load 3 (.tmp 49), none⟩,
 ⟨some 51, .binOp .eql 3 (.tmp 50) (.const (.int .i64 11)) 3, none⟩,
 ⟨some 52, .move (.tmp 51), none⟩,
 ⟨some 53, .move (.tmp 2), some (52, true)⟩,
 ⟨some 54, .binOp .gtr 3 (.tmp 53) (.const (.int .i64 0)) 3, some (52, true)⟩,
 ⟨some 55, .pick (.tmp 52) (.tmp 54) (.const (.bool false)), none⟩,
 ⟨some 56, .move (.tmp 55), none⟩,
 ⟨some 57, .move (.tmp 2), some (56, true)⟩,
 ⟨some 58, .call { callee := .value (.func 57), args := #[(.tmp 57)], argTypes := #[3] }, some (56, true)⟩,
 ⟨some 59, .unOp .not 4 (.tmp 58), some (56, true)⟩,
 ⟨some 60, .pick (.tmp 56) (.tmp 59) (.const (.bool false)), none⟩,
 ⟨some 48, .assign (.tmp 60), none⟩]
def r61_10 : List POp := [
 ⟨some 61, .load 25 (.tmp 3), none⟩,
 ⟨some 62, .fieldAddr 30 (.tmp 4) 4, none⟩,
 ⟨some 63, .load 28 (.tmp 62), none⟩,
 ⟨some 64, .move (.tmp 2), none⟩,
 ⟨some 65, .binOp .sub 3 (.tmp 64) (.const (.int .i64 1)) 3, none⟩,
 ⟨some 66, .indexAddr 28 (.tmp 63) (.tmp 65), none⟩,
 ⟨some 67, .load 3 (.tmp 66), none⟩,
 ⟨some 68, .call { callee := .value (.func 31), args := #[(.tmp 61), (.tmp 67)], argTypes := #[25, 3] }, none⟩,
 ⟨some 6, .assign (.tmp 68), none⟩]
def r61_11 : List POp := [
 ⟨some 6, .assign (.const (.slice none 0 0)), none⟩]
noncomputable def p61 : PC := (.seq (.reg r61_0) (.seq (.block 0 (.seq (.seq (.reg r61_1) (.cond (.tmp 7) .skip (.reg r61_2))) (.cond (.tmp 7) (.seq (.reg r61_3) .ret) (.seq (.seq (.reg r61_4) (.cond (.tmp 21) .skip (.reg r61_5))) (.cond (.tmp 21) (.seq (.reg r61_6) .ret) (.seq (.reg r61_7) (.cond (.tmp 39) (.seq (.reg r61_8) .ret) (.seq (.reg r61_9) (.cond (.tmp 48) (.seq (.regD 9 r61_10) .ret) .skip))))))))) (.seq (.reg r61_11) .ret)))
theorem comp61 : (Tryz.f61.body.map (comp E Tryz.f61.ntmps)) = some p61 := by kernel_rfl
theorem ev61 : EvC 61 69 p61 [.tmp 6] := fun hn h => ev_ends (fn := Tryz.f61) (by kernel_rfl) rfl comp61 (by kernel_rfl) (by kernel_rfl) hn h
def r32_0 : List POp := [
 ⟨some 2, .box 25 (.tmp 0), none⟩,
 ⟨some 4, .assign (.const (.bool false)), none⟩]
def r32_1 : List POp := [
 ⟨some 5, .move (.tmp 1), none⟩,
 ⟨some 6, .binOp .geq 3 (.tmp 5) (.const (.int .i64 0)) 3, none⟩,
 ⟨some 7, .move (.tmp 6), none⟩,
 ⟨some 8, .move (.tmp 1), some (7, true)⟩,
 ⟨some 9, .fieldAddr 25 (.tmp 2) 0, some (7, true)⟩,
 ⟨some 10, .load 22 (.tmp 9), some (7, true)⟩,
 ⟨some 11, .call { callee := .builtin .len, args := #[(.tmp 10)], argTypes := #[22] }, some (7, true)⟩,
 ⟨some 12, .binOp .lss 3 (.tmp 8) (.tmp 11) 3, some (7, true)⟩,
 ⟨some 13, .pick (.tmp 7) (.tmp 12) (.const (.bool false)), none⟩,
 ⟨some 14, .move (.tmp 13), none⟩,
 ⟨some 15, .load 25 (.tmp 2), some (14, true)⟩,
 ⟨some 16, .call { callee := .value (.func 9), args := #[(.tmp 15)], argTypes := #[25] }, some (14, true)⟩,
 ⟨some 17, .pick (.tmp 14) (.tmp 16) (.const (.bool false)), none⟩,
 ⟨some 4, .assign (.tmp 17), none⟩]
noncomputable def p32 : PC := (.seq (.reg r32_0) (.seq (.reg r32_1) .ret))
theorem comp32 : (Tryz.f32.body.map (comp E Tryz.f32.ntmps)) = some p32 := by kernel_rfl
theorem ev32 : EvC 32 18 p32 [.tmp 4] := fun hn h => ev_ends (fn := Tryz.f32) (by kernel_rfl) rfl comp32 (by kernel_rfl) (by kernel_rfl) hn h
def r36_0 : List POp := [
 ⟨some 2, .box 25 (.tmp 0), none⟩,
 ⟨some 4, .assign (.const (.int .i64 0)), none⟩]
def r36_1 : List POp := [
 ⟨some 5, .assign (.const (.int .i64 0)), none⟩]
def r36_2 : List POp := [
 ⟨some 8, .fieldAddr 25 (.tmp 2) 0, none⟩,
 ⟨some 9, .load 22 (.tmp 8), none⟩,
 ⟨some 10, .move (.tmp 1), none⟩,
 ⟨some 11, .indexAddr 22 (.tmp 9) (.tmp 10), none⟩,
 ⟨some 12, .fieldAddr 30 (.tmp 11) 4, none⟩,
 ⟨some 13, .load 28 (.tmp 12), none⟩,
 ⟨some 14, .call { callee := .builtin .len, args := #[(.tmp 13)], argTypes := #[28] }, none⟩,
 ⟨some 15, .move (.const (.int .i64 0)), none⟩]
def r36_3 : List POp := [
 ⟨some 16, .binOp .lss 3 (.tmp 15) (.tmp 14) 3, none⟩]
def r36_4 : List POp := [
 ⟨some 17, .indexAddr 28 (.tmp 13) (.tmp 15), none⟩,
 ⟨some 18, .load 3 (.tmp 17), none⟩,
 ⟨some 7, .assign (.tmp 18), none⟩]
def r36_5 : List POp := [
 ⟨some 19, .move (.tmp 5), none⟩,
 ⟨some 20, .load 25 (.tmp 2), none⟩,
 ⟨some 21, .move (.tmp 7), none⟩,
 ⟨some 22, .call { callee := .value (.func 36), args := #[(.tmp 20), (.tmp 21)], argTypes := #[25, 3] }, none⟩,
 ⟨some 23, .call { callee := .builtin .max, args := #[(.tmp 19), (.tmp 22)], argTypes := #[3, 3] }, none⟩,
 ⟨some 5, .assign (.tmp 23), none⟩]
def r36_6 : List POp := [
 ⟨some 24, .binOp .add 3 (.tmp 15) (.const (.int .i64 1)) 3, none⟩,
 ⟨some 15, .move (.tmp 24), none⟩]
noncomputable def b36_7 : PC := (.seq (.reg r36_3) (.seq (.cond (.tmp 16) .skip (.exit 0)) (.seq (.block 1 (.seq (.reg r36_4) (.reg r36_5))) (.reg r36_6))))
def r36_8 : List POp := [
 ⟨some 25, .move (.tmp 5), none⟩,
 ⟨some 26, .binOp .add 3 (.tmp 25) (.const (.int .i64 1)) 3, none⟩,
 ⟨some 4, .assign (.tmp 26), none⟩]
noncomputable def p36 : PC := (.seq (.reg r36_0) (.seq (.reg r36_1) (.seq (.seq (.reg r36_2) (.block 0 (.loop b36_7))) (.seq (.reg r36_8) .ret))))
theorem comp36 : (Tryz.f36.body.map (comp E Tryz.f36.ntmps)) = some p36 := by kernel_rfl
theorem ev36 : EvC 36 27 p36 [.tmp 4] := fun hn h => ev_ends (fn := Tryz.f36) (by kernel_rfl) rfl comp36 (by kernel_rfl) (by kernel_rfl) hn h
def r11_0 : List POp := [
 ⟨some 2, .box 25 (.tmp 0), none⟩,
 ⟨some 4, .assign (.const (.int .i64 0)), none⟩]
def r11_1 : List POp := [
 ⟨some 5, .load 25 (.tmp 2), none⟩,
 ⟨some 6, .move (.tmp 1), none⟩,
 ⟨some 7, .call { callee := .value (.func 32), args := #[(.tmp 5), (.tmp 6)], argTypes := #[25, 3] }, none⟩,
 ⟨some 8, .unOp .not 4 (.tmp 7), none⟩]
def r11_2 : List POp := [
 ⟨some 4, .assign (.const (.int .i64 0)), none⟩]
def r11_3 : List POp := [
 ⟨some 9, .load 25 (.tmp 2), none⟩,
 ⟨some 10, .move (.tmp 1), none⟩,
 ⟨some 11, .call { callee := .value (.func 36), args := #[(.tmp 9), (.tmp 10)], argTypes := #[25, 3] }, none⟩,
 ⟨some 4, .assign (.tmp 11), none⟩]
noncomputable def p11 : PC := (.seq (.reg r11_0) (.seq (.seq (.reg r11_1) (.cond (.tmp 8) (.seq (.reg r11_2) .ret) .skip)) (.seq (.reg r11_3) .ret)))
theorem comp11 : (Tryz.f11.body.map (comp E Tryz.f11.ntmps)) = some p11 := by kernel_rfl
theorem ev11 : EvC 11 12 p11 [.tmp 4] := fun hn h => ev_ends (fn := Tryz.f11) (by kernel_rfl) rfl comp11 (by kernel_rfl) (by kernel_rfl) hn h
def r34_0 : List POp := [
 ⟨some 1, .box 71 (.tmp 0), none⟩,
 ⟨some 2, .assign (.const .nilFunc), none⟩]
def r34_1 : List POp := [
 ⟨some 3, .makeFunc (.func 60) #[] #[(.tmp 1)], none⟩,
 ⟨some 2, .assign (.tmp 3), none⟩]
noncomputable def p34 : PC := (.seq (.reg r34_0) (.seq (.reg r34_1) .ret))
theorem comp34 : (Tryz.f34.body.map (comp E Tryz.f34.ntmps)) = some p34 := by kernel_rfl
theorem ev34 : EvC 34 4 p34 [.tmp 2] := fun hn h => ev_ends (fn := Tryz.f34) (by kernel_rfl) rfl comp34 (by kernel_rfl) (by kernel_rfl) hn h
def r8_0 : List POp := [
 ⟨some 1, .box 25 (.tmp 0), none⟩,
 ⟨some 2, .assign (.const (.bool false)), none⟩]
def r8_1 : List POp := [
 ⟨some 8, .fieldAddr 25 (.tmp 1) 0, none⟩,
 ⟨some 9, .load 22 (.tmp 8), none⟩,
 ⟨some 10, .call { callee := .builtin .len, args := #[(.tmp 9)], argTypes := #[22] }, none⟩,
 ⟨some 11, .binOp .gtr 3 (.tmp 10) (.const (.int .i64 60)) 3, none⟩,
 ⟨some 12, .move (.tmp 11), none⟩,
 ⟨some 13, .fieldAddr 25 (.tmp 1) 1, some (12, false)⟩,
 ⟨some 14, .load 23 (.tmp 13), some (12, false)⟩,
 ⟨some 15, .call { callee := .builtin .len, args := #[(.tmp 14)], argTypes := #[23] }, some (12, false)⟩,
 ⟨some 16, .binOp .gtr 3 (.tmp 15) (.const (.int .i64 4)) 3, some (12, false)⟩,
 ⟨some 17, .pick (.tmp 12) (.const (.bool true)) (.tmp 16), none⟩]
def r8_2 : List POp := [
 ⟨some 2, .assign (.const (.bool true)), none⟩]
def r8_3 : List POp := [
 ⟨some 3, .assign (.const (.int .i64 0)), none⟩]
def r8_4 : List POp := [
 ⟨some 18, .move (.tmp 3), none⟩,
 ⟨some 19, .fieldAddr 25 (.tmp 1) 0, none⟩,
 ⟨some 20, .load 22 (.tmp 19), none⟩,
 ⟨some 21, .call { callee := .builtin .len, args := #[(.tmp 20)], argTypes := #[22] }, none⟩,
 ⟨some 22, .binOp .lss 3 (.tmp 18) (.tmp 21) 3, none⟩]
def r8_5 : List POp := [
 ⟨some 25, .fieldAddr 25 (.tmp 1) 0, none⟩,
 ⟨some 26, .load 22 (.tmp 25), none⟩,
 ⟨some 27, .move (.tmp 3), none⟩,
 ⟨some 28, .indexAddr 22 (.tmp 26) (.tmp 27), none⟩,
 ⟨some 29, .fieldAddr 30 (.tmp 28) 2, none⟩,
 ⟨some 30, .load 9 (.tmp 29), none⟩,
 ⟨some 31, .call { callee := .builtin .len, args := #[(.tmp 30)], argTypes := #[9] }, none⟩,
 ⟨some 32, .binOp .gtr 3 (.tmp 31) (.const (.int .i64 60)) 3, none⟩,
 ⟨some 33, .move (.tmp 32), none⟩,
 ⟨some 34, .fieldAddr 25 (.tmp 1) 0, some (33, false)⟩,
 ⟨some 35, .load 22 (.tmp 34), some (33, false)⟩,
 ⟨some 36, .move (.tmp 3), some (33, false)⟩,
 ⟨some 37, .indexAddr 22 (.tmp 35) (.tmp 36), some (33, false)⟩,
 ⟨some 38, .fieldAddr 30 (.tmp 37) 3, some (33, false)⟩,
 ⟨some 39, .load 9 (.tmp 38), some (33, false)⟩,
 ⟨some 40, .call { callee := .builtin .len, args := #[(.tmp 39)], argTypes := #[9] }, some (33, false)⟩,
 ⟨some 41, .binOp .gtr 3 (.tmp 40) (.const (.int .i64 60)) 3, some (33, false)⟩,
 ⟨some 42, .pick (.tmp 33) (.const (.bool true)) (.tmp 41), none⟩,
 ⟨some 43, .move (.tmp 42), none⟩,
 ⟨some 44, .fieldAddr 25 (.tmp 1) 0, some (43, false)⟩,
 ⟨some 45, .load 22 (.tmp 44), some (43, false)⟩,
 ⟨some 46, .move (.tmp 3), some (43, false)⟩,
 ⟨some 47, .indexAddr 22 (.tmp 45) (.tmp 46), some (43, false)⟩,
 ⟨some 48, .fieldAddr 30 (.tmp 47) 4, some (43, false)⟩,
 ⟨some 49, .load 28 (.tmp 48), some (43, false)⟩,
 ⟨some 50, .call { callee := .builtin .len, args := #[(.tmp 49)], argTypes := #[28] }, some (43, false)⟩,
 ⟨some 51, .binOp .gtr 3 (.tmp 50) (.const (.int .i64 20)) 3, some (43, false)⟩,
 ⟨some 52, .pick (.tmp 43) (.const (.bool true)) (.tmp 51), none⟩]
def r8_6 : List POp := [
 ⟨some 2, .assign (.const (.bool true)), none⟩]
def r8_7 : List POp := [
 ⟨some 23, .move (.tmp 3), none⟩,
 ⟨some 24, .binOp .add 3 (.tmp 23) (.const (.int .i64 1)) 3, none⟩,
 ⟨some 3, .assign (.tmp 24), none⟩]
noncomputable def b8_8 : PC := (.seq (.seq (.reg r8_4) (.cond (.tmp 22) .skip (.exit 0))) (.seq (.block 1 (.seq (.reg r8_5) (.cond (.tmp 52) (.seq (.reg r8_6) .ret) .skip))) (.reg r8_7)))
def r8_9 : List POp := [
 ⟨some 4, .assign (.const (.int .i64 0)), none⟩]
def r8_10 : List POp := [
 ⟨some 53, .move (.tmp 4), none⟩,
 ⟨some 54, .fieldAddr 25 (.tmp 1) 1, none⟩,
 ⟨some 55, .load 23 (.tmp 54), none⟩,
 ⟨some 56, .call { callee := .builtin .len, args := #[(.tmp 55)], argTypes := #[23] }, none⟩,
 ⟨some 57, .binOp .lss 3 (.tmp 53) (.tmp 56) 3, none⟩]
def r8_11 : List POp := [
 ⟨some 60, .fieldAddr 25 (.tmp 1) 1, none⟩,
 ⟨some 61, .load 23 (.tmp 60), none⟩,
 ⟨some 62, .move (.tmp 4), none⟩,
 ⟨some 63, .indexAddr 23 (.tmp 61) (.tmp 62), none⟩,
 ⟨some 64, .fieldAddr 56 (.tmp 63) 1, none⟩,
 ⟨some 65, .load 54 (.tmp 64), none⟩,
 ⟨some 66, .call { callee := .builtin .len, args := #[(.tmp 65)], argTypes := #[54] }, none⟩,
 ⟨some 67, .binOp .gtr 3 (.tmp 66) (.const (.int .i64 6)) 3, none⟩,
 ⟨some 68, .move (.tmp 67), none⟩,
 ⟨some 69, .fieldAddr 25 (.tmp 1) 1, some (68, false)⟩,
 ⟨some 70, .load 23 (.tmp 69), some (68, false)⟩,
 ⟨some 71, .move (.tmp 4), some (68, false)⟩,
 ⟨some 72, .indexAddr 23 (.tmp 70) (.tmp 71), some (68, false)⟩,
 ⟨some 73, .fieldAddr 56 (.tmp 72) 0, some (68, false)⟩,
 ⟨some 74, .load 9 (.tmp 73), some (68, false)⟩,
 ⟨some 75, .call { callee := .builtin .len, args := #[(.tmp 74)], argTypes := #[9] }, some (68, false)⟩,
 ⟨some 76, .binOp .gtr 3 (.tmp 75) (.const (.int .i64 60)) 3, some (68, false)⟩,
 ⟨some 77, .pick (.tmp 68) (.const (.bool true)) (.tmp 76), none⟩]
def r8_12 : List POp := [
 ⟨some 2, .assign (.const (.bool true)), none⟩]
def r8_13 : List POp := [
 ⟨some 5, .assign (.const (.int .i64 0)), none⟩]
def r8_14 : List POp := [
 ⟨some 78, .move (.tmp 5), none⟩,
 ⟨some 79, .fieldAddr 25 (.tmp 1) 1, none⟩,
 ⟨some 80, .load 23 (.tmp 79), none⟩,
 ⟨some 81, .move (.tmp 4), none⟩,
 ⟨some 82, .indexAddr 23 (.tmp 80) (.tmp 81), none⟩,
 ⟨some 83, .fieldAddr 56 (.tmp 82) 1, none⟩,
 ⟨some 84, .load 54 (.tmp 83), none⟩,
 ⟨some 85, .call { callee := .builtin .len, args := #[(.tmp 84)], argTypes := #[54] }, none⟩,
 ⟨some 86, .binOp .lss 3 (.tmp 78) (.tmp 85) 3, none⟩]
def r8_15 : List POp := [
 ⟨some 89, .fieldAddr 25 (.tmp 1) 1, none⟩,
 ⟨some 90, .load 23 (.tmp 89), none⟩,
 ⟨some 91, .move (.tmp 4), none⟩,
 ⟨some 92, .indexAddr 23 (.tmp 90) (.tmp 91), none⟩,
 ⟨some 93, .fieldAddr 56 (.tmp 92) 1, none⟩,
 ⟨some 94, .load 54 (.tmp 93), none⟩,
 ⟨some 95, .move (.tmp 5), none⟩,
 ⟨some 96, .indexAddr 54 (.tmp 94) (.tmp 95), none⟩,
 ⟨some 97, .load 58 (.tmp 96), none⟩,
 ⟨some 6, .alloc 58, none⟩,
 ⟨none, .store 58 (.tmp 6) (.tmp 97), none⟩]
def r8_16 : List POp := [
 ⟨some 98, .fieldAddr 58 (.tmp 6) 0, none⟩,
 ⟨some 99, .load 9 (.tmp 98), none⟩,
 ⟨some 100, .call { callee := .builtin .len, args := #[(.tmp 99)], argTypes := #[9] }, none⟩,
 ⟨some 101, .binOp .gtr 3 (.tmp 100) (.const (.int .i64 60)) 3, none⟩,
 ⟨some 102, .move (.tmp 101), none⟩,
 ⟨some 103, .fieldAddr 58 (.tmp 6) 1, some (102, false)⟩,
 ⟨some 104, .load 31 (.tmp 103), some (102, false)⟩,
 ⟨some 105, .call { callee := .builtin .len, args := #[(.tmp 104)], argTypes := #[31] }, some (102, false)⟩,
 ⟨some 106, .binOp .gtr 3 (.tmp 105) (.const (.int .i64 4)) 3, some (102, false)⟩,
 ⟨some 107, .pick (.tmp 102) (.const (.bool true)) (.tmp 106), none⟩]
def r8_17 : List POp := [
 ⟨some 2, .assign (.const (.bool true)), none⟩]
def r8_18 : List POp := [
 ⟨some 7, .assign (.const (.int .i64 0)), none⟩]
def r8_19 : List POp := [
 ⟨some 108, .move (.tmp 7), none⟩,
 ⟨some 109, .fieldAddr 58 (.tmp 6) 1, none⟩,
 ⟨some 110, .load 31 (.tmp 109), none⟩,
 ⟨some 111, .call { callee := .builtin .len, args := #[(.tmp 110)], argTypes := #[31] }, none⟩,
 ⟨some 112, .binOp .lss 3 (.tmp 108) (.tmp 111) 3, none⟩]
def r8_20 : List POp := [
 ⟨some 115, .fieldAddr 58 (.tmp 6) 1, none⟩,
 ⟨some 116, .load 31 (.tmp 115), none⟩,
 ⟨some 117, .move (.tmp 7), none⟩,
 ⟨some 118, .indexAddr 31 (.tmp 116) (.tmp 117), none⟩,
 ⟨some 119, .load 9 (.tmp 118), none⟩,
 ⟨some 120, .call { callee := .builtin .len, args := #[(.tmp 119)], argTypes := #[9] }, none⟩,
 ⟨some 121, .binOp .gtr 3 (.tmp 120) (.const (.int .i64 60)) 3, none⟩]
def r8_21 : List POp := [
 ⟨some 2, .assign (.const (.bool true)), none⟩]
def r8_22 : List POp := [
 ⟨some 113, .move (.tmp 7), none⟩,
 ⟨some 114, .binOp .add 3 (.tmp 113) (.const (.int .i64 1)) 3, none⟩,
 ⟨some 7, .assign (.tmp 114), none⟩]
noncomputable def b8_23 : PC := (.seq (.seq (.reg r8_19) (.cond (.tmp 112) .skip (.exit 6))) (.seq (.block 7 (.seq (.reg r8_20) (.cond (.tmp 121) (.seq (.reg r8_21) .ret) .skip))) (.reg r8_22)))
def r8_24 : List POp := [
 ⟨some 87, .move (.tmp 5), none⟩,
 ⟨some 88, .binOp .add 3 (.tmp 87) (.const (.int .i64 1)) 3, none⟩,
 ⟨some 5, .assign (.tmp 88), none⟩]
noncomputable def b8_25 : PC := (.seq (.seq (.reg r8_14) (.cond (.tmp 86) .skip (.exit 4))) (.seq (.block 5 (.seq (.reg r8_15) (.seq (.seq (.reg r8_16) (.cond (.tmp 107) (.seq (.reg r8_17) .ret) .skip)) (.seq (.reg r8_18) (.block 6 (.loop b8_23)))))) (.reg r8_24)))
def r8_26 : List POp := [
 ⟨some 58, .move (.tmp 4), none⟩,
 ⟨some 59, .binOp .add 3 (.tmp 58) (.const (.int .i64 1)) 3, none⟩,
 ⟨some 4, .assign (.tmp 59), none⟩]
noncomputable def b8_27 : PC := (.seq (.seq (.reg r8_10) (.cond (.tmp 57) .skip (.exit 2))) (.seq (.block 3 (.seq (.seq (.reg r8_11) (.cond (.tmp 77) (.seq (.reg r8_12) .ret) .skip)) (.seq (.reg r8_13) (.block 4 (.loop b8_25))))) (.reg r8_26)))
def r8_28 : List POp := [
 ⟨some 2, .assign (.const (.bool false)), none⟩]
noncomputable def p8 : PC := (.seq (.reg r8_0) (.seq (.seq (.reg r8_1) (.cond (.tmp 17) (.seq (.reg r8_2) .ret) .skip)) (.seq (.seq (.reg r8_3) (.block 0 (.loop b8_8))) (.seq (.seq (.reg r8_9) (.block 2 (.loop b8_27))) (.seq (.reg r8_28) .ret)))))
theorem comp8 : (Tryz.f8.body.map (comp E Tryz.f8.ntmps)) = some p8 := by kernel_rfl
theorem ev8 : EvC 8 122 p8 [.tmp 2] := fun hn h => ev_ends (fn := Tryz.f8) (by kernel_rfl) rfl comp8 (by kernel_rfl) (by kernel_rfl) hn h
def r9_0 : List POp := [
 ⟨some 1, .box 25 (.tmp 0), none⟩,
 ⟨some 2, .assign (.const (.bool false)), none⟩]
def r9_1 : List POp := [
 ⟨some 6, .fieldAddr 25 (.tmp 1) 0, none⟩,
 ⟨some 7, .load 22 (.tmp 6), none⟩,
 ⟨some 8, .call { callee := .builtin .len, args := #[(.tmp 7)], argTypes := #[22] }, none⟩,
 ⟨some 9, .binOp .lss 3 (.tmp 8) (.const (.int .i64 1)) 3, none⟩,
 ⟨some 10, .move (.tmp 9), none⟩,
 ⟨some 11, .fieldAddr 25 (.tmp 1) 0, some (10, false)⟩,
 ⟨some 12, .load 22 (.tmp 11), some (10, false)⟩,
 ⟨some 13, .call { callee := .builtin .len, args := #[(.tmp 12)], argTypes := #[22] }, some (10, false)⟩,
 ⟨some 14, .binOp .gtr 3 (.tmp 13) (.const (.int .i64 1000)) 3, some (10, false)⟩,
 ⟨some 15, .pick (.tmp 10) (.const (.bool true)) (.tmp 14), none⟩,
 ⟨some 16, .move (.tmp 15), none⟩,
 ⟨some 17, .fieldAddr 25 (.tmp 1) 1, some (16, false)⟩,
 ⟨some 18, .load 23 (.tmp 17), some (16, false)⟩,
 ⟨some 19, .call { callee := .value (.func 27), args := #[(.tmp 18)], argTypes := #[23] }, some (16, false)⟩,
 ⟨some 20, .unOp .not 4 (.tmp 19), some (16, false)⟩,
 ⟨some 21, .pick (.tmp 16) (.const (.bool true)) (.tmp 20), none⟩]
def r9_2 : List POp := [
 ⟨some 2, .assign (.const (.bool false)), none⟩]
def r9_3 : List POp := [
 ⟨some 22, .load 25 (.tmp 1), none⟩,
 ⟨some 23, .build 62 #[(0, (.tmp 22))], none⟩,
 ⟨some 24, .box 62 (.tmp 23), none⟩,
 ⟨some 3, .assign (.tmp 24), none⟩]
def r9_4 : List POp := [
 ⟨some 25, .move (.tmp 3), none⟩,
 ⟨some 26, .call { callee := .value (.func 28), args := #[(.tmp 25), (.const (.bool false)), (.const (.int .i64 0))], argTypes := #[60, 4, 3] }, none⟩,
 ⟨some 27, .unOp .not 4 (.tmp 26), none⟩,
 ⟨some 28, .move (.tmp 27), none⟩,
 ⟨some 29, .move (.tmp 3), some (28, false)⟩,
 ⟨some 30, .nilCheck (.tmp 29), some (28, false)⟩,
 ⟨some 31, .fieldAddr 62 (.tmp 30) 1, some (28, false)⟩,
 ⟨some 32, .load 3 (.tmp 31), some (28, false)⟩,
 ⟨some 33, .fieldAddr 25 (.tmp 1) 0, some (28, false)⟩,
 ⟨some 34, .load 22 (.tmp 33), some (28, false)⟩,
 ⟨some 35, .call { callee := .builtin .len, args := #[(.tmp 34)], argTypes := #[22] }, some (28, false)⟩,
 ⟨some 36, .binOp .neq 3 (.tmp 32) (.tmp 35) 3, some (28, false)⟩,
 ⟨some 37, .pick (.tmp 28) (.const (.bool true)) (.tmp 36), none⟩]
def r9_5 : List POp := [
 ⟨some 2, .assign (.const (.bool false)), none⟩]
def r9_6 : List POp := [
 ⟨some 38, .fieldAddr 25 (.tmp 1) 0, none⟩,
 ⟨some 39, .load 22 (.tmp 38), none⟩,
 ⟨some 40, .call { callee := .builtin .len, args := #[(.tmp 39)], argTypes := #[22] }, none⟩,
 ⟨some 41, .move (.const (.int .i64 0)), none⟩]
def r9_7 : List POp := [
 ⟨some 42, .binOp .lss 3 (.tmp 41) (.tmp 40) 3, none⟩]
def r9_8 : List POp := [
 ⟨some 43, .move (.tmp 41), none⟩,
 ⟨some 44, .indexAddr 22 (.tmp 39) (.tmp 41), none⟩,
 ⟨some 45, .load 30 (.tmp 44), none⟩,
 ⟨some 5, .alloc 30, none⟩,
 ⟨some 4, .assign (.tmp 43), none⟩,
 ⟨none, .store 30 (.tmp 5) (.tmp 45), none⟩]
def r9_9 : List POp := [
 ⟨some 46, .fieldAddr 30 (.tmp 5) 0, none⟩,
 ⟨some 47, .load 3 (.tmp 46), none⟩,
 ⟨some 48, .call { callee := .value (.func 29), args := #[(.tmp 47)], argTypes := #[3] }, none⟩,
 ⟨some 49, .move (.tmp 48), none⟩,
 ⟨some 50, .load 25 (.tmp 1), some (49, true)⟩,
 ⟨some 51, .move (.tmp 4), some (49, true)⟩,
 ⟨some 52, .call { callee := .value (.func 31), args := #[(.tmp 50), (.tmp 51)], argTypes := #[25, 3] }, some (49, true)⟩,
 ⟨some 53, .call { callee := .value (.func 30), args := #[(.tmp 52)], argTypes := #[31] }, some (49, true)⟩,
 ⟨some 54, .pick (.tmp 49) (.tmp 53) (.const (.bool false)), none⟩]
def r9_10 : List POp := [
 ⟨some 2, .assign (.const (.bool false)), none⟩]
def r9_11 : List POp := [
 ⟨some 55, .binOp .add 3 (.tmp 41) (.const (.int .i64 1)) 3, none⟩,
 ⟨some 41, .move (.tmp 55), none⟩]
noncomputable def b9_12 : PC := (.seq (.reg r9_7) (.seq (.cond (.tmp 42) .skip (.exit 0)) (.seq (.block 1 (.seq (.reg r9_8) (.seq (.reg r9_9) (.cond (.tmp 54) (.seq (.reg r9_10) .ret) .skip)))) (.reg r9_11))))
def r9_13 : List POp := [
 ⟨some 2, .assign (.const (.bool true)), none⟩]
noncomputable def p9 : PC := (.seq (.reg r9_0) (.seq (.seq (.reg r9_1) (.cond (.tmp 21) (.seq (.reg r9_2) .ret) .skip)) (.seq (.reg r9_3) (.seq (.seq (.regD 13 r9_4) (.cond (.tmp 37) (.seq (.reg r9_5) .ret) .skip)) (.seq (.seq (.reg r9_6) (.block 0 (.loop b9_12))) (.seq (.reg r9_13) .ret))))))
theorem comp9 : (Tryz.f9.body.map (comp E Tryz.f9.ntmps)) = some p9 := by kernel_rfl
theorem ev9 : EvC 9 56 p9 [.tmp 2] := fun hn h => ev_ends (fn := Tryz.f9) (by kernel_rfl) rfl comp9 (by kernel_rfl) (by kernel_rfl) hn h
def r12_0 : List POp := [
 ⟨some 1, .box 25 (.tmp 0), none⟩,
 ⟨some 2, .assign (.const (.slice none 0 0)), none⟩]
def r12_1 : List POp := [
 ⟨some 6, .load 25 (.tmp 1), none⟩,
 ⟨some 7, .call { callee := .value (.func 9), args := #[(.tmp 6)], argTypes := #[25] }, none⟩,
 ⟨some 8, .unOp .not 4 (.tmp 7), none⟩]
def r12_2 : List POp := [
 ⟨some 2, .assign (.const (.slice none 0 0)), none⟩]
def r12_3 : List POp := [
 ⟨some 3, .assign (.const (.slice none 0 0)), none⟩]
def r12_4 : List POp := [
 ⟨some 9, .fieldAddr 25 (.tmp 1) 0, none⟩,
 ⟨some 10, .load 22 (.tmp 9), none⟩,
 ⟨some 11, .call { callee := .builtin .len, args := #[(.tmp 10)], argTypes := #[22] }, none⟩,
 ⟨some 12, .move (.const (.int .i64 0)), none⟩]
def r12_5 : List POp := [
 ⟨some 13, .binOp .lss 3 (.tmp 12) (.tmp 11) 3, none⟩]
def r12_6 : List POp := [
 ⟨some 14, .move (.tmp 12), none⟩,
 ⟨some 15, .indexAddr 22 (.tmp 10) (.tmp 12), none⟩,
 ⟨some 16, .load 30 (.tmp 15), none⟩,
 ⟨some 5, .alloc 30, none⟩,
 ⟨some 4, .assign (.tmp 14), none⟩,
 ⟨none, .store 30 (.tmp 5) (.tmp 16), none⟩]
def r12_7 : List POp := [
 ⟨some 17, .fieldAddr 30 (.tmp 5) 0, none⟩,
 ⟨some 18, .load 3 (.tmp 17), none⟩,
 ⟨some 19, .call { callee := .value (.func 37), args := #[(.tmp 18)], argTypes := #[3] }, none⟩]
def r12_8 : List POp := [
 ⟨some 20, .move (.tmp 3), none⟩,
 ⟨some 21, .move (.tmp 4), none⟩,
 ⟨some 22, .buildSlice 28 1 #[(0, (.tmp 21))], none⟩,
 ⟨some 23, .call { callee := .builtin .append, args := #[(.tmp 20), (.tmp 22)], argTypes := #[28, 28] }, none⟩,
 ⟨some 3, .assign (.tmp 23), none⟩]
def r12_9 : List POp := [
 ⟨some 24, .binOp .add 3 (.tmp 12) (.const (.int .i64 1)) 3, none⟩,
 ⟨some 12, .move (.tmp 24), none⟩]
noncomputable def b12_10 : PC := (.seq (.reg r12_5) (.seq (.cond (.tmp 13) .skip (.exit 0)) (.seq (.block 1 (.seq (.reg r12_6) (.seq (.reg r12_7) (.cond (.tmp 19) (.reg r12_8) .skip)))) (.reg r12_9))))
def r12_11 : List POp := [
 ⟨some 25, .move (.tmp 3), none⟩,
 ⟨some 2, .assign (.tmp 25), none⟩]
noncomputable def p12 : PC := (.seq (.reg r12_0) (.seq (.seq (.reg r12_1) (.cond (.tmp 8) (.seq (.reg r12_2) .ret) .skip)) (.seq (.reg r12_3) (.seq (.seq (.reg r12_4) (.block 0 (.loop b12_10))) (.seq (.reg r12_11) .ret)))))
theorem comp12 : (Tryz.f12.body.map (comp E Tryz.f12.ntmps)) = some p12 := by kernel_rfl
theorem ev12 : EvC 12 26 p12 [.tmp 2] := fun hn h => ev_ends (fn := Tryz.f12) (by kernel_rfl) rfl comp12 (by kernel_rfl) (by kernel_rfl) hn h
def r27_0 : List POp := [
 ⟨some 2, .assign (.const (.bool false)), none⟩]
def r27_1 : List POp := [
 ⟨some 3, .alloc 31, none⟩,
 ⟨some 4, .assign (.const (.slice none 0 0)), none⟩,
 ⟨some 5, .assign (.const (.slice none 0 0)), none⟩]
def r27_2 : List POp := [
 ⟨some 12, .move (.tmp 0), none⟩,
 ⟨some 13, .call { callee := .builtin .len, args := #[(.tmp 12)], argTypes := #[23] }, none⟩,
 ⟨some 14, .move (.const (.int .i64 0)), none⟩]
def r27_3 : List POp := [
 ⟨some 15, .binOp .lss 3 (.tmp 14) (.tmp 13) 3, none⟩]
def r27_4 : List POp := [
 ⟨some 16, .indexAddr 23 (.tmp 12) (.tmp 14), none⟩,
 ⟨some 17, .load 56 (.tmp 16), none⟩,
 ⟨some 7, .alloc 56, none⟩,
 ⟨none, .store 56 (.tmp 7) (.tmp 17), none⟩]
def r27_5 : List POp := [
 ⟨some 18, .fieldAddr 56 (.tmp 7) 0, none⟩,
 ⟨some 19, .load 9 (.tmp 18), none⟩,
 ⟨some 20, .call { callee := .value (.func 49), args := #[(.tmp 19)], argTypes := #[9] }, none⟩,
 ⟨some 21, .unOp .not 4 (.tmp 20), none⟩,
 ⟨some 22, .move (.tmp 21), none⟩,
 ⟨some 23, .fieldAddr 56 (.tmp 7) 0, some (22, false)⟩,
 ⟨some 24, .load 9 (.tmp 23), some (22, false)⟩,
 ⟨some 25, .call { callee := .value (.func 50), args := #[(.tmp 24)], argTypes := #[9] }, some (22, false)⟩,
 ⟨some 26, .pick (.tmp 22) (.const (.bool true)) (.tmp 25), none⟩,
 ⟨some 27, .move (.tmp 26), none⟩,
 ⟨some 28, .fieldAddr 56 (.tmp 7) 1, some (27, false)⟩,
 ⟨some 29, .load 54 (.tmp 28), some (27, false)⟩,
 ⟨some 30, .call { callee := .builtin .len, args := #[(.tmp 29)], argTypes := #[54] }, some (27, false)⟩,
 ⟨some 31, .binOp .lss 3 (.tmp 30) (.const (.int .i64 1)) 3, some (27, false)⟩,
 ⟨some 32, .pick (.tmp 27) (.const (.bool true)) (.tmp 31), none⟩,
 ⟨some 33, .move (.tmp 32), none⟩,
 ⟨some 34, .fieldAddr 56 (.tmp 7) 1, some (33, false)⟩,
 ⟨some 35, .load 54 (.tmp 34), some (33, false)⟩,
 ⟨some 36, .call { callee := .builtin .len, args := #[(.tmp 35)], argTypes := #[54] }, some (33, false)⟩,
 ⟨some 37, .binOp .gtr 3 (.tmp 36) (.const (.int .i64 20)) 3, some (33, false)⟩,
 ⟨some 38, .pick (.tmp 33) (.const (.bool true)) (.tmp 37), none⟩]
def r27_6 : List POp := [
 ⟨some 2, .assign (.const (.bool false)), none⟩]
def r27_7 : List POp := [
 ⟨some 39, .load 31 (.tmp 3), none⟩,
 ⟨some 40, .fieldAddr 56 (.tmp 7) 0, none⟩,
 ⟨some 41, .load 9 (.tmp 40), none⟩,
 ⟨some 42, .buildSlice 31 1 #[(0, (.tmp 41))], none⟩,
 ⟨some 43, .call { callee := .builtin .append, args := #[(.tmp 39), (.tmp 42)], argTypes := #[31, 31] }, none⟩,
 ⟨none, .store 31 (.tmp 3) (.tmp 43), none⟩]
def r27_8 : List POp := [
 ⟨some 44, .fieldAddr 56 (.tmp 7) 1, none⟩,
 ⟨some 45, .load 54 (.tmp 44), none⟩,
 ⟨some 46, .call { callee := .builtin .len, args := #[(.tmp 45)], argTypes := #[54] }, none⟩,
 ⟨some 47, .move (.const (.int .i64 0)), none⟩]
def r27_9 : List POp := [
 ⟨some 48, .binOp .lss 3 (.tmp 47) (.tmp 46) 3, none⟩]
def r27_10 : List POp := [
 ⟨some 49, .indexAddr 54 (.tmp 45) (.tmp 47), none⟩,
 ⟨some 50, .load 58 (.tmp 49), none⟩,
 ⟨some 9, .alloc 58, none⟩,
 ⟨none, .store 58 (.tmp 9) (.tmp 50), none⟩]
def r27_11 : List POp := [
 ⟨some 51, .fieldAddr 58 (.tmp 9) 0, none⟩,
 ⟨some 52, .load 9 (.tmp 51), none⟩,
 ⟨some 53, .call { callee := .value (.func 51), args := #[(.tmp 52)], argTypes := #[9] }, none⟩,
 ⟨some 54, .unOp .not 4 (.tmp 53), none⟩,
 ⟨some 55, .move (.tmp 54), none⟩,
 ⟨some 56, .fieldAddr 58 (.tmp 9) 1, some (55, false)⟩,
 ⟨some 57, .load 31 (.tmp 56), some (55, false)⟩,
 ⟨some 58, .call { callee := .builtin .len, args := #[(.tmp 57)], argTypes := #[31] }, some (55, false)⟩,
 ⟨some 59, .binOp .gtr 3 (.tmp 58) (.const (.int .i64 3)) 3, some (55, false)⟩,
 ⟨some 60, .pick (.tmp 55) (.const (.bool true)) (.tmp 59), none⟩]
def r27_12 : List POp := [
 ⟨some 2, .assign (.const (.bool false)), none⟩]
def r27_13 : List POp := [
 ⟨some 61, .move (.tmp 4), none⟩,
 ⟨some 62, .fieldAddr 58 (.tmp 9) 0, none⟩,
 ⟨some 63, .load 9 (.tmp 62), none⟩,
 ⟨some 64, .buildSlice 31 1 #[(0, (.tmp 63))], none⟩,
 ⟨some 65, .call { callee := .builtin .append, args := #[(.tmp 61), (.tmp 64)], argTypes := #[31, 31] }, none⟩,
 ⟨some 4, .assign (.tmp 65), none⟩]
def r27_14 : List POp := [
 ⟨some 66, .move (.tmp 5), none⟩,
 ⟨some 67, .fieldAddr 58 (.tmp 9) 1, none⟩,
 ⟨some 68, .load 31 (.tmp 67), none⟩,
 ⟨some 69, .call { callee := .builtin .append, args := #[(.tmp 66), (.tmp 68)], argTypes := #[31, 31] }, none⟩,
 ⟨some 5, .assign (.tmp 69), none⟩]
def r27_15 : List POp := [
 ⟨some 70, .binOp .add 3 (.tmp 47) (.const (.int .i64 1)) 3, none⟩,
 ⟨some 47, .move (.tmp 70), none⟩]
noncomputable def b27_16 : PC := (.seq (.reg r27_9) (.seq (.cond (.tmp 48) .skip (.exit 2)) (.seq (.block 3 (.seq (.reg r27_10) (.seq (.seq (.reg r27_11) (.cond (.tmp 60) (.seq (.reg r27_12) .ret) .skip)) (.seq (.reg r27_13) (.reg r27_14))))) (.reg r27_15))))
def r27_17 : List POp := [
 ⟨some 71, .binOp .add 3 (.tmp 14) (.const (.int .i64 1)) 3, none⟩,
 ⟨some 14, .move (.tmp 71), none⟩]
noncomputable def b27_18 : PC := (.seq (.reg r27_3) (.seq (.cond (.tmp 15) .skip (.exit 0)) (.seq (.block 1 (.seq (.reg r27_4) (.seq (.seq (.reg r27_5) (.cond (.tmp 38) (.seq (.reg r27_6) .ret) .skip)) (.seq (.reg r27_7) (.seq (.reg r27_8) (.block 2 (.loop b27_16))))))) (.reg r27_17))))
def r27_19 : List POp := [
 ⟨some 72, .makeFunc (.func 52) #[] #[(.tmp 3)], none⟩,
 ⟨some 10, .alloc 95, none⟩,
 ⟨none, .store 95 (.tmp 10) (.tmp 72), none⟩]
def r27_20 : List POp := [
 ⟨some 73, .makeFunc (.func 54) #[] #[(.tmp 10)], none⟩,
 ⟨some 11, .assign (.tmp 73), none⟩]
def r27_21 : List POp := [
 ⟨some 74, .move (.tmp 0), none⟩,
 ⟨some 75, .call { callee := .builtin .len, args := #[(.tmp 74)], argTypes := #[23] }, none⟩,
 ⟨some 76, .binOp .leq 3 (.tmp 75) (.const (.int .i64 20)) 3, none⟩,
 ⟨some 77, .move (.tmp 76), none⟩,
 ⟨some 78, .load 31 (.tmp 3), some (77, true)⟩,
 ⟨some 79, .call { callee := .value (.func 30), args := #[(.tmp 78)], argTypes := #[31] }, some (77, true)⟩,
 ⟨some 80, .unOp .not 4 (.tmp 79), some (77, true)⟩,
 ⟨some 81, .pick (.tmp 77) (.tmp 80) (.const (.bool false)), none⟩,
 ⟨some 82, .move (.tmp 81), none⟩,
 ⟨some 83, .move (.tmp 4), some (82, true)⟩,
 ⟨some 84, .call { callee := .value (.func 30), args := #[(.tmp 83)], argTypes := #[31] }, some (82, true)⟩,
 ⟨some 85, .unOp .not 4 (.tmp 84), some (82, true)⟩,
 ⟨some 86, .pick (.tmp 82) (.tmp 85) (.const (.bool false)), none⟩,
 ⟨some 87, .move (.tmp 86), none⟩,
 ⟨some 88, .move (.tmp 5), some (87, true)⟩,
 ⟨some 89, .move (.tmp 11), some (87, true)⟩,
 ⟨some 90, .call { callee := .value (.func 55), args := #[(.tmp 88), (.tmp 89)], argTypes := #[31, 95] }, some (87, true)⟩,
 ⟨some 91, .unOp .not 4 (.tmp 90), some (87, true)⟩,
 ⟨some 92, .pick (.tmp 87) (.tmp 91) (.const (.bool false)), none⟩,
 ⟨some 2, .assign (.tmp 92), none⟩]
noncomputable def p27 : PC := (.seq (.reg r27_0) (.seq (.reg r27_1) (.seq (.seq (.reg r27_2) (.block 0 (.loop b27_18))) (.seq (.reg r27_19) (.seq (.reg r27_20) (.seq (.reg r27_21) .ret))))))
theorem comp27 : (Tryz.f27.body.map (comp E Tryz.f27.ntmps)) = some p27 := by kernel_rfl
theorem ev27 : EvC 27 93 p27 [.tmp 2] := fun hn h => ev_ends (fn := Tryz.f27) (by kernel_rfl) rfl comp27 (by kernel_rfl) (by kernel_rfl) hn h
def r28_0 : List POp := [
 ⟨some 6, .assign (.const (.bool false)), none⟩]
def r28_1 : List POp := [
 ⟨some 11, .move (.tmp 0), none⟩,
 ⟨some 12, .nilCheck (.tmp 11), none⟩,
 ⟨some 13, .fieldAddr 62 (.tmp 12) 1, none⟩,
 ⟨some 14, .load 3 (.tmp 13), none⟩,
 ⟨some 7, .assign (.tmp 14), none⟩]
def r28_2 : List POp := [
 ⟨some 15, .move (.tmp 7), none⟩,
 ⟨some 16, .move (.tmp 0), none⟩,
 ⟨some 17, .nilCheck (.tmp 16), none⟩,
 ⟨some 18, .fieldAddr 62 (.tmp 17) 0, none⟩,
 ⟨some 19, .fieldAddr 25 (.tmp 18) 0, none⟩,
 ⟨some 20, .load 22 (.tmp 19), none⟩,
 ⟨some 21, .call { callee := .builtin .len, args := #[(.tmp 20)], argTypes := #[22] }, none⟩,
 ⟨some 22, .binOp .geq 3 (.tmp 15) (.tmp 21) 3, none⟩,
 ⟨some 23, .move (.tmp 22), none⟩,
 ⟨some 24, .move (.tmp 2), some (23, false)⟩,
 ⟨some 25, .binOp .geq 3 (.tmp 24) (.const (.int .i64 60)) 3, some (23, false)⟩,
 ⟨some 26, .pick (.tmp 23) (.const (.bool true)) (.tmp 25), none⟩]
def r28_3 : List POp := [
 ⟨some 6, .assign (.const (.bool false)), none⟩]
def r28_4 : List POp := [
 ⟨some 27, .move (.tmp 0), none⟩,
 ⟨some 28, .nilCheck (.tmp 27), none⟩,
 ⟨some 29, .fieldAddr 62 (.tmp 28) 0, none⟩,
 ⟨some 30, .fieldAddr 25 (.tmp 29) 0, none⟩,
 ⟨some 31, .load 22 (.tmp 30), none⟩,
 ⟨some 32, .move (.tmp 7), none⟩,
 ⟨some 33, .indexAddr 22 (.tmp 31) (.tmp 32), none⟩,
 ⟨some 34, .load 30 (.tmp 33), none⟩,
 ⟨some 8, .alloc 30, none⟩,
 ⟨none, .store 30 (.tmp 8) (.tmp 34), none⟩]
def r28_5 : List POp := [
 ⟨some 35, .fieldAddr 30 (.tmp 8) 0, none⟩,
 ⟨some 36, .load 3 (.tmp 35), none⟩,
 ⟨some 37, .call { callee := .value (.func 29), args := #[(.tmp 36)], argTypes := #[3] }, none⟩,
 ⟨some 38, .move (.tmp 1), none⟩,
 ⟨some 39, .binOp .neq 4 (.tmp 37) (.tmp 38) 4, none⟩,
 ⟨some 40, .move (.tmp 39), none⟩,
 ⟨some 41, .move (.tmp 0), some (40, false)⟩,
 ⟨some 42, .nilCheck (.tmp 41), some (40, false)⟩,
 ⟨some 43, .fieldAddr 62 (.tmp 42) 0, some (40, false)⟩,
 ⟨some 44, .load 25 (.tmp 43), some (40, false)⟩,
 ⟨some 45, .load 30 (.tmp 8), some (40, false)⟩,
 ⟨some 46, .call { callee := .value (.func 56), args := #[(.tmp 44), (.tmp 45)], argTypes := #[25, 30] }, some (40, false)⟩,
 ⟨some 47, .unOp .not 4 (.tmp 46), some (40, false)⟩,
 ⟨some 48, .pick (.tmp 40) (.const (.bool true)) (.tmp 47), none⟩]
def r28_6 : List POp := [
 ⟨some 6, .assign (.const (.bool false)), none⟩]
def r28_7 : List POp := [
 ⟨some 49, .move (.tmp 0), none⟩,
 ⟨some 50, .nilCheck (.tmp 49), none⟩,
 ⟨some 51, .fieldAddr 62 (.tmp 50) 1, none⟩,
 ⟨some 52, .load 3 (.tmp 51), none⟩,
 ⟨some 53, .binOp .add 3 (.tmp 52) (.const (.int .i64 1)) 3, none⟩,
 ⟨some 54, .nilCheck (.tmp 49), none⟩,
 ⟨some 55, .fieldAddr 62 (.tmp 54) 1, none⟩,
 ⟨none, .store 3 (.tmp 55) (.tmp 53), none⟩]
def r28_8 : List POp := [
 ⟨some 56, .fieldAddr 30 (.tmp 8) 4, none⟩,
 ⟨some 57, .load 28 (.tmp 56), none⟩,
 ⟨some 58, .call { callee := .builtin .len, args := #[(.tmp 57)], argTypes := #[28] }, none⟩,
 ⟨some 59, .move (.const (.int .i64 0)), none⟩]
def r28_9 : List POp := [
 ⟨some 60, .binOp .lss 3 (.tmp 59) (.tmp 58) 3, none⟩]
def r28_10 : List POp := [
 ⟨some 61, .move (.tmp 59), none⟩,
 ⟨some 62, .indexAddr 28 (.tmp 57) (.tmp 59), none⟩,
 ⟨some 63, .load 3 (.tmp 62), none⟩,
 ⟨some 9, .assign (.tmp 61), none⟩,
 ⟨some 10, .assign (.tmp 63), none⟩]
def r28_11 : List POp := [
 ⟨some 64, .move (.tmp 10), none⟩,
 ⟨some 65, .move (.tmp 0), none⟩,
 ⟨some 66, .nilCheck (.tmp 65), none⟩,
 ⟨some 67, .fieldAddr 62 (.tmp 66) 1, none⟩,
 ⟨some 68, .load 3 (.tmp 67), none⟩,
 ⟨some 69, .binOp .neq 3 (.tmp 64) (.tmp 68) 3, none⟩,
 ⟨some 70, .move (.tmp 69), none⟩,
 ⟨some 71, .move (.tmp 0), some (70, false)⟩,
 ⟨some 72, .move (.tmp 1), some (70, false)⟩,
 ⟨some 73, .move (.tmp 72), some (70, false)⟩,
 ⟨some 74, .fieldAddr 30 (.tmp 8) 0, some (73, false)⟩,
 ⟨some 75, .load 3 (.tmp 74), some (73, false)⟩,
 ⟨some 76, .binOp .eql 3 (.tmp 75) (.const (.int .i64 11)) 3, some (73, false)⟩,
 ⟨some 77, .move (.tmp 76), some (73, false)⟩,
 ⟨some 78, .move (.tmp 9), some (77, true)⟩,
 ⟨some 79, .call { callee := .value (.func 57), args := #[(.tmp 78)], argTypes := #[3] }, some (77, true)⟩,
 ⟨some 80, .pick (.tmp 77) (.tmp 79) (.const (.bool false)), some (73, false)⟩,
 ⟨some 81, .pick (.tmp 73) (.const (.bool true)) (.tmp 80), some (70, false)⟩,
 ⟨some 82, .move (.tmp 2), some (70, false)⟩,
 ⟨some 83, .binOp .add 3 (.tmp 82) (.const (.int .i64 1)) 3, some (70, false)⟩,
 ⟨some 84, .call { callee := .value (.func 28), args := #[(.tmp 71), (.tmp 81), (.tmp 83)], argTypes := #[60, 4, 3] }, some (70, false)⟩,
 ⟨some 85, .unOp .not 4 (.tmp 84), some (70, false)⟩,
 ⟨some 86, .pick (.tmp 70) (.const (.bool true)) (.tmp 85), none⟩]
def r28_12 : List POp := [
 ⟨some 6, .assign (.const (.bool false)), none⟩]
def r28_13 : List POp := [
 ⟨some 87, .binOp .add 3 (.tmp 59) (.const (.int .i64 1)) 3, none⟩,
 ⟨some 59, .move (.tmp 87), none⟩]
noncomputable def b28_14 : PC := (.seq (.reg r28_9) (.seq (.cond (.tmp 60) .skip (.exit 0)) (.seq (.block 1 (.seq (.reg r28_10) (.seq (.reg r28_11) (.cond (.tmp 86) (.seq (.reg r28_12) .ret) .skip)))) (.reg r28_13))))
def r28_15 : List POp := [
 ⟨some 6, .assign (.const (.bool true)), none⟩]
noncomputable def p28 : PC := (.seq (.reg r28_0) (.seq (.reg r28_1) (.seq (.seq (.reg r28_2) (.cond (.tmp 26) (.seq (.reg r28_3) .ret) .skip)) (.seq (.reg r28_4) (.seq (.seq (.regD 14 r28_5) (.cond (.tmp 48) (.seq (.reg r28_6) .ret) .skip)) (.seq (.reg r28_7) (.seq (.seq (.reg r28_8) (.block 0 (.loop b28_14))) (.seq (.reg r28_15) .ret))))))))
theorem comp28 : (Tryz.f28.body.map (comp E Tryz.f28.ntmps)) = some p28 := by kernel_rfl
theorem ev28 : EvC 28 88 p28 [.tmp 6] := fun hn h => ev_ends (fn := Tryz.f28) (by kernel_rfl) rfl comp28 (by kernel_rfl) (by kernel_rfl) hn h
def r29_0 : List POp := [
 ⟨some 2, .assign (.const (.bool false)), none⟩]
def r29_1 : List POp := [
 ⟨some 3, .move (.tmp 0), none⟩,
 ⟨some 4, .binOp .geq 3 (.tmp 3) (.const (.int .i64 21)) 3, none⟩,
 ⟨some 5, .move (.tmp 4), none⟩,
 ⟨some 6, .move (.tmp 0), some (5, true)⟩,
 ⟨some 7, .binOp .leq 3 (.tmp 6) (.const (.int .i64 26)) 3, some (5, true)⟩,
 ⟨some 8, .pick (.tmp 5) (.tmp 7) (.const (.bool false)), none⟩,
 ⟨some 2, .assign (.tmp 8), none⟩]
noncomputable def p29 : PC := (.seq (.reg r29_0) (.seq (.reg r29_1) .ret))
theorem comp29 : (Tryz.f29.body.map (comp E Tryz.f29.ntmps)) = some p29 := by kernel_rfl
theorem ev29 : EvC 29 9 p29 [.tmp 2] := fun hn h => ev_ends (fn := Tryz.f29) (by kernel_rfl) rfl comp29 (by kernel_rfl) (by kernel_rfl) hn h
def r30_0 : List POp := [
 ⟨some 2, .assign (.const (.bool false)), none⟩]
def r30_1 : List POp := [
 ⟨some 6, .makeMap 71 none, none⟩,
 ⟨some 3, .assign (.tmp 6), none⟩]
def r30_2 : List POp := [
 ⟨some 7, .move (.tmp 0), none⟩,
 ⟨some 8, .call { callee := .builtin .len, args := #[(.tmp 7)], argTypes := #[31] }, none⟩,
 ⟨some 9, .move (.const (.int .i64 0)), none⟩]
def r30_3 : List POp := [
 ⟨some 10, .binOp .lss 3 (.tmp 9) (.tmp 8) 3, none⟩]
def r30_4 : List POp := [
 ⟨some 11, .indexAddr 31 (.tmp 7) (.tmp 9), none⟩,
 ⟨some 12, .load 9 (.tmp 11), none⟩,
 ⟨some 5, .assign (.tmp 12), none⟩]
def r30_5 : List POp := [
 ⟨some 13, .move (.tmp 3), none⟩,
 ⟨some 14, .move (.tmp 5), none⟩,
 ⟨some 15, .lookup 71 (.tmp 13) (.tmp 14) false, none⟩]
def r30_6 : List POp := [
 ⟨some 2, .assign (.const (.bool true)), none⟩]
def r30_7 : List POp := [
 ⟨some 16, .move (.tmp 3), none⟩,
 ⟨some 17, .move (.tmp 5), none⟩,
 ⟨none, .mapUpdate 71 (.tmp 16) (.tmp 17) (.const (.bool true)), none⟩]
def r30_8 : List POp := [
 ⟨some 18, .binOp .add 3 (.tmp 9) (.const (.int .i64 1)) 3, none⟩,
 ⟨some 9, .move (.tmp 18), none⟩]
noncomputable def b30_9 : PC := (.seq (.reg r30_3) (.seq (.cond (.tmp 10) .skip (.exit 0)) (.seq (.block 1 (.seq (.reg r30_4) (.seq (.seq (.reg r30_5) (.cond (.tmp 15) (.seq (.reg r30_6) .ret) .skip)) (.reg r30_7)))) (.reg r30_8))))
def r30_10 : List POp := [
 ⟨some 2, .assign (.const (.bool false)), none⟩]
noncomputable def p30 : PC := (.seq (.reg r30_0) (.seq (.reg r30_1) (.seq (.seq (.reg r30_2) (.block 0 (.loop b30_9))) (.seq (.reg r30_10) .ret))))
theorem comp30 : (Tryz.f30.body.map (comp E Tryz.f30.ntmps)) = some p30 := by kernel_rfl
theorem ev30 : EvC 30 19 p30 [.tmp 2] := fun hn h => ev_ends (fn := Tryz.f30) (by kernel_rfl) rfl comp30 (by kernel_rfl) (by kernel_rfl) hn h
def r31_0 : List POp := [
 ⟨some 2, .box 25 (.tmp 0), none⟩,
 ⟨some 4, .assign (.const (.slice none 0 0)), none⟩]
def r31_1 : List POp := [
 ⟨some 9, .fieldAddr 25 (.tmp 2) 0, none⟩,
 ⟨some 10, .load 22 (.tmp 9), none⟩,
 ⟨some 11, .move (.tmp 1), none⟩,
 ⟨some 12, .indexAddr 22 (.tmp 10) (.tmp 11), none⟩,
 ⟨some 13, .load 30 (.tmp 12), none⟩,
 ⟨some 5, .alloc 30, none⟩,
 ⟨none, .store 30 (.tmp 5) (.tmp 13), none⟩]
def r31_2 : List POp := [
 ⟨some 14, .fieldAddr 30 (.tmp 5) 0, none⟩,
 ⟨some 15, .load 3 (.tmp 14), none⟩,
 ⟨some 16, .binOp .eql 3 (.tmp 15) (.const (.int .i64 22)) 3, none⟩]
def r31_3 : List POp := [
 ⟨some 17, .fieldAddr 30 (.tmp 5) 2, none⟩,
 ⟨some 18, .load 9 (.tmp 17), none⟩,
 ⟨some 19, .buildSlice 31 1 #[(0, (.tmp 18))], none⟩,
 ⟨some 4, .assign (.tmp 19), none⟩]
def r31_4 : List POp := [
 ⟨some 6, .assign (.const (.slice none 0 0)), none⟩]
def r31_5 : List POp := [
 ⟨some 20, .fieldAddr 30 (.tmp 5) 0, none⟩,
 ⟨some 21, .load 3 (.tmp 20), none⟩,
 ⟨some 22, .binOp .eql 3 (.tmp 21) (.const (.int .i64 26)) 3, none⟩]
def r31_6 : List POp := [
 ⟨some 23, .fieldAddr 30 (.tmp 5) 4, none⟩,
 ⟨some 24, .load 28 (.tmp 23), none⟩,
 ⟨some 25, .call { callee := .builtin .len, args := #[(.tmp 24)], argTypes := #[28] }, none⟩,
 ⟨some 26, .move (.const (.int .i64 0)), none⟩]
def r31_7 : List POp := [
 ⟨some 27, .binOp .lss 3 (.tmp 26) (.tmp 25) 3, none⟩]
def r31_8 : List POp := [
 ⟨some 28, .indexAddr 28 (.tmp 24) (.tmp 26), none⟩,
 ⟨some 29, .load 3 (.tmp 28), none⟩,
 ⟨some 8, .assign (.tmp 29), none⟩]
def r31_9 : List POp := [
 ⟨some 30, .move (.tmp 6), none⟩,
 ⟨some 31, .load 25 (.tmp 2), none⟩,
 ⟨some 32, .move (.tmp 8), none⟩,
 ⟨some 33, .call { callee := .value (.func 31), args := #[(.tmp 31), (.tmp 32)], argTypes := #[25, 3] }, none⟩,
 ⟨some 34, .call { callee := .builtin .append, args := #[(.tmp 30), (.tmp 33)], argTypes := #[31, 31] }, none⟩,
 ⟨some 6, .assign (.tmp 34), none⟩]
def r31_10 : List POp := [
 ⟨some 35, .binOp .add 3 (.tmp 26) (.const (.int .i64 1)) 3, none⟩,
 ⟨some 26, .move (.tmp 35), none⟩]
noncomputable def b31_11 : PC := (.seq (.reg r31_7) (.seq (.cond (.tmp 27) .skip (.exit 0)) (.seq (.block 1 (.seq (.reg r31_8) (.reg r31_9))) (.reg r31_10))))
def r31_12 : List POp := [
 ⟨some 36, .move (.tmp 6), none⟩,
 ⟨some 4, .assign (.tmp 36), none⟩]
noncomputable def p31 : PC := (.seq (.reg r31_0) (.seq (.reg r31_1) (.seq (.seq (.reg r31_2) (.cond (.tmp 16) (.seq (.reg r31_3) .ret) .skip)) (.seq (.reg r31_4) (.seq (.seq (.reg r31_5) (.cond (.tmp 22) (.seq (.reg r31_6) (.block 0 (.loop b31_11))) .skip)) (.seq (.reg r31_12) .ret))))))
theorem comp31 : (Tryz.f31.body.map (comp E Tryz.f31.ntmps)) = some p31 := by kernel_rfl
theorem ev31 : EvC 31 37 p31 [.tmp 4] := fun hn h => ev_ends (fn := Tryz.f31) (by kernel_rfl) rfl comp31 (by kernel_rfl) (by kernel_rfl) hn h
def r37_0 : List POp := [
 ⟨some 2, .assign (.const (.bool false)), none⟩]
def r37_1 : List POp := [
 ⟨some 3, .move (.tmp 0), none⟩]
def r37_2 : List POp := [
 ⟨some 5, .binOp .eql 3 (.tmp 3) (.const (.int .i64 7)) 3, none⟩,
 ⟨some 4, .assign (.tmp 5), none⟩]
def r37_3 : List POp := [
 ⟨some 6, .binOp .eql 3 (.tmp 3) (.const (.int .i64 8)) 3, none⟩,
 ⟨some 4, .assign (.tmp 6), none⟩]
def r37_4 : List POp := [
 ⟨some 7, .binOp .eql 3 (.tmp 3) (.const (.int .i64 9)) 3, none⟩,
 ⟨some 4, .assign (.tmp 7), none⟩]
def r37_5 : List POp := [
 ⟨some 8, .binOp .eql 3 (.tmp 3) (.const (.int .i64 10)) 3, none⟩,
 ⟨some 4, .assign (.tmp 8), none⟩]
def r37_6 : List POp := [
 ⟨some 9, .binOp .eql 3 (.tmp 3) (.const (.int .i64 11)) 3, none⟩,
 ⟨some 4, .assign (.tmp 9), none⟩]
def r37_7 : List POp := [
 ⟨some 10, .binOp .eql 3 (.tmp 3) (.const (.int .i64 13)) 3, none⟩,
 ⟨some 4, .assign (.tmp 10), none⟩]
def r37_8 : List POp := [
 ⟨some 11, .binOp .eql 3 (.tmp 3) (.const (.int .i64 17)) 3, none⟩,
 ⟨some 4, .assign (.tmp 11), none⟩]
def r37_9 : List POp := [
 ⟨some 12, .binOp .eql 3 (.tmp 3) (.const (.int .i64 18)) 3, none⟩,
 ⟨some 4, .assign (.tmp 12), none⟩]
def r37_10 : List POp := [
 ⟨some 13, .binOp .eql 3 (.tmp 3) (.const (.int .i64 19)) 3, none⟩,
 ⟨some 4, .assign (.tmp 13), none⟩]
def r37_11 : List POp := [
 ⟨some 14, .binOp .eql 3 (.tmp 3) (.const (.int .i64 20)) 3, none⟩,
 ⟨some 4, .assign (.tmp 14), none⟩]
def r37_12 : List POp := [
 ⟨some 2, .assign (.const (.bool true)), none⟩]
def r37_13 : List POp := [
 ⟨some 2, .assign (.const (.bool false)), none⟩]
noncomputable def p37 : PC := (.seq (.reg r37_0) (.seq (.seq (.reg r37_1) (.block 0 (.seq (.seq (.reg r37_2) (.cond (.tmp 4) .skip (.seq (.reg r37_3) (.cond (.tmp 4) .skip (.seq (.reg r37_4) (.cond (.tmp 4) .skip (.seq (.reg r37_5) (.cond (.tmp 4) .skip (.seq (.reg r37_6) (.cond (.tmp 4) .skip (.seq (.reg r37_7) (.cond (.tmp 4) .skip (.seq (.reg r37_8) (.cond (.tmp 4) .skip (.seq (.reg r37_9) (.cond (.tmp 4) .skip (.seq (.reg r37_10) (.cond (.tmp 4) .skip (.reg r37_11))))))))))))))))))) (.cond (.tmp 4) (.seq (.reg r37_12) .ret) .skip)))) (.seq (.reg r37_13) .ret)))
theorem comp37 : (Tryz.f37.body.map (comp E Tryz.f37.ntmps)) = some p37 := by kernel_rfl
theorem ev37 : EvC 37 15 p37 [.tmp 2] := fun hn h => ev_ends (fn := Tryz.f37) (by kernel_rfl) rfl comp37 (by kernel_rfl) (by kernel_rfl) hn h
def r49_0 : List POp := [
 ⟨some 2, .assign (.const (.bool false)), none⟩]
def r49_1 : List POp := [
 ⟨some 3, .move (.tmp 0), none⟩,
 ⟨some 4, .binOp .neq 9 (.tmp 3) (.const (.string ⟨#[95]⟩)) 9, none⟩,
 ⟨some 5, .move (.tmp 4), none⟩,
 ⟨some 6, .move (.tmp 0), some (5, true)⟩,
 ⟨some 7, .call { callee := .value (.func 77), args := #[(.tmp 6), (.const (.int .i64 2))], argTypes := #[9, 3] }, some (5, true)⟩,
 ⟨some 8, .pick (.tmp 5) (.tmp 7) (.const (.bool false)), none⟩,
 ⟨some 2, .assign (.tmp 8), none⟩]
noncomputable def p49 : PC := (.seq (.reg r49_0) (.seq (.reg r49_1) .ret))
theorem comp49 : (Tryz.f49.body.map (comp E Tryz.f49.ntmps)) = some p49 := by kernel_rfl
theorem ev49 : EvC 49 9 p49 [.tmp 2] := fun hn h => ev_ends (fn := Tryz.f49) (by kernel_rfl) rfl comp49 (by kernel_rfl) (by kernel_rfl) hn h
def r50_0 : List POp := [
 ⟨some 2, .assign (.const (.bool false)), none⟩]
def r50_1 : List POp := [
 ⟨some 3, .move (.tmp 0), none⟩,
 ⟨some 4, .binOp .eql 9 (.tmp 3) (.const (.string ⟨#[105, 110, 116]⟩)) 9, none⟩,
 ⟨some 5, .move (.tmp 4), none⟩,
 ⟨some 6, .move (.tmp 0), some (5, false)⟩,
 ⟨some 7, .binOp .eql 9 (.tmp 6) (.const (.string ⟨#[98, 111, 111, 108]⟩)) 9, some (5, false)⟩,
 ⟨some 8, .pick (.tmp 5) (.const (.bool true)) (.tmp 7), none⟩,
 ⟨some 9, .move (.tmp 8), none⟩,
 ⟨some 10, .move (.tmp 0), some (9, false)⟩,
 ⟨some 11, .binOp .eql 9 (.tmp 10) (.const (.string ⟨#[117, 110, 105, 116]⟩)) 9, some (9, false)⟩,
 ⟨some 12, .pick (.tmp 9) (.const (.bool true)) (.tmp 11), none⟩,
 ⟨some 2, .assign (.tmp 12), none⟩]
noncomputable def p50 : PC := (.seq (.reg r50_0) (.seq (.reg r50_1) .ret))
theorem comp50 : (Tryz.f50.body.map (comp E Tryz.f50.ntmps)) = some p50 := by kernel_rfl
theorem ev50 : EvC 50 13 p50 [.tmp 2] := fun hn h => ev_ends (fn := Tryz.f50) (by kernel_rfl) rfl comp50 (by kernel_rfl) (by kernel_rfl) hn h
def r51_0 : List POp := [
 ⟨some 2, .assign (.const (.bool false)), none⟩]
def r51_1 : List POp := [
 ⟨some 3, .move (.tmp 0), none⟩,
 ⟨some 4, .call { callee := .value (.func 77), args := #[(.tmp 3), (.const (.int .i64 3))], argTypes := #[9, 3] }, none⟩,
 ⟨some 2, .assign (.tmp 4), none⟩]
noncomputable def p51 : PC := (.seq (.reg r51_0) (.seq (.reg r51_1) .ret))
theorem comp51 : (Tryz.f51.body.map (comp E Tryz.f51.ntmps)) = some p51 := by kernel_rfl
theorem ev51 : EvC 51 5 p51 [.tmp 2] := fun hn h => ev_ends (fn := Tryz.f51) (by kernel_rfl) rfl comp51 (by kernel_rfl) (by kernel_rfl) hn h
def r52_0 : List POp := [
 ⟨some 3, .assign (.const (.bool false)), none⟩]
def r52_1 : List POp := [
 ⟨some 4, .move (.tmp 0), none⟩,
 ⟨some 5, .call { callee := .value (.func 50), args := #[(.tmp 4)], argTypes := #[9] }, none⟩,
 ⟨some 6, .move (.tmp 5), none⟩,
 ⟨some 7, .load 31 (.tmp 1), some (6, false)⟩,
 ⟨some 8, .move (.tmp 0), some (6, false)⟩,
 ⟨some 9, .call { callee := .value (.func 53), args := #[(.tmp 7), (.tmp 8)], argTypes := #[31, 9] }, some (6, false)⟩,
 ⟨some 10, .pick (.tmp 6) (.const (.bool true)) (.tmp 9), none⟩,
 ⟨some 3, .assign (.tmp 10), none⟩]
noncomputable def p52 : PC := (.seq (.reg r52_0) (.seq (.reg r52_1) .ret))
theorem comp52 : (Tryz.f52.body.map (comp E Tryz.f52.ntmps)) = some p52 := by kernel_rfl
theorem ev52 : EvC 52 11 p52 [.tmp 3] := fun hn h => ev_ends (fn := Tryz.f52) (by kernel_rfl) rfl comp52 (by kernel_rfl) (by kernel_rfl) hn h
def r53_0 : List POp := [
 ⟨some 4, .assign (.const (.bool false)), none⟩]
def r53_1 : List POp := [
 ⟨some 5, .move (.tmp 0), none⟩,
 ⟨some 6, .move (.tmp 1), none⟩,
 ⟨some 7, .call { callee := .value (.func 78), args := #[(.tmp 5), (.tmp 6)], argTypes := #[31, 9] }, none⟩,
 ⟨some 8, .binOp .geq 3 (.tmp 7) (.const (.int .i64 0)) 3, none⟩,
 ⟨some 4, .assign (.tmp 8), none⟩]
noncomputable def p53 : PC := (.seq (.reg r53_0) (.seq (.reg r53_1) .ret))
theorem comp53 : (Tryz.f53.body.map (comp E Tryz.f53.ntmps)) = some p53 := by kernel_rfl
theorem ev53 : EvC 53 9 p53 [.tmp 4] := fun hn h => ev_ends (fn := Tryz.f53) (by kernel_rfl) rfl comp53 (by kernel_rfl) (by kernel_rfl) hn h
def r54_0 : List POp := [
 ⟨some 3, .assign (.const (.bool false)), none⟩]
def r54_1 : List POp := [
 ⟨some 4, .load 95 (.tmp 1), none⟩,
 ⟨some 5, .move (.tmp 0), none⟩,
 ⟨some 6, .call { callee := .value (.tmp 4), args := #[(.tmp 5)], argTypes := #[9] }, none⟩,
 ⟨some 7, .unOp .not 4 (.tmp 6), none⟩,
 ⟨some 3, .assign (.tmp 7), none⟩]
noncomputable def p54 : PC := (.seq (.reg r54_0) (.seq (.reg r54_1) .ret))
theorem comp54 : (Tryz.f54.body.map (comp E Tryz.f54.ntmps)) = some p54 := by kernel_rfl
theorem ev54 : EvC 54 8 p54 [.tmp 3] := fun hn h => ev_ends (fn := Tryz.f54) (by kernel_rfl) rfl comp54 (by kernel_rfl) (by kernel_rfl) hn h
def r55_0 : List POp := [
 ⟨some 4, .assign (.const (.bool false)), none⟩]
def r55_1 : List POp := [
 ⟨some 5, .move (.tmp 0), none⟩,
 ⟨some 6, .move (.tmp 1), none⟩,
 ⟨some 7, .call { callee := .value (.func 79), args := #[(.tmp 5), (.tmp 6)], argTypes := #[31, 95] }, none⟩,
 ⟨some 8, .binOp .geq 3 (.tmp 7) (.const (.int .i64 0)) 3, none⟩,
 ⟨some 4, .assign (.tmp 8), none⟩]
noncomputable def p55 : PC := (.seq (.reg r55_0) (.seq (.reg r55_1) .ret))
theorem comp55 : (Tryz.f55.body.map (comp E Tryz.f55.ntmps)) = some p55 := by kernel_rfl
theorem ev55 : EvC 55 9 p55 [.tmp 4] := fun hn h => ev_ends (fn := Tryz.f55) (by kernel_rfl) rfl comp55 (by kernel_rfl) (by kernel_rfl) hn h
def r56_0 : List POp := [
 ⟨some 2, .box 25 (.tmp 0), none⟩,
 ⟨some 3, .box 30 (.tmp 1), none⟩,
 ⟨some 4, .assign (.const (.bool false)), none⟩]
def r56_1 : List POp := [
 ⟨some 10, .fieldAddr 30 (.tmp 3) 0, none⟩,
 ⟨some 11, .load 3 (.tmp 10), none⟩,
 ⟨some 12, .binOp .lss 3 (.tmp 11) (.const (.int .i64 1)) 3, none⟩,
 ⟨some 13, .move (.tmp 12), none⟩,
 ⟨some 14, .fieldAddr 30 (.tmp 3) 0, some (13, false)⟩,
 ⟨some 15, .load 3 (.tmp 14), some (13, false)⟩,
 ⟨some 16, .binOp .gtr 3 (.tmp 15) (.const (.int .i64 26)) 3, some (13, false)⟩,
 ⟨some 17, .pick (.tmp 13) (.const (.bool true)) (.tmp 16), none⟩,
 ⟨some 18, .move (.tmp 17), none⟩,
 ⟨some 19, .load 30 (.tmp 3), some (18, false)⟩,
 ⟨some 20, .call { callee := .value (.func 80), args := #[(.tmp 19)], argTypes := #[30] }, some (18, false)⟩,
 ⟨some 21, .unOp .not 4 (.tmp 20), some (18, false)⟩,
 ⟨some 22, .pick (.tmp 18) (.const (.bool true)) (.tmp 21), none⟩,
 ⟨some 23, .move (.tmp 22), none⟩,
 ⟨some 24, .load 30 (.tmp 3), some (23, false)⟩,
 ⟨some 25, .call { callee := .value (.func 81), args := #[(.tmp 24)], argTypes := #[30] }, some (23, false)⟩,
 ⟨some 26, .unOp .not 4 (.tmp 25), some (23, false)⟩,
 ⟨some 27, .pick (.tmp 23) (.const (.bool true)) (.tmp 26), none⟩]
def r56_2 : List POp := [
 ⟨some 4, .assign (.const (.bool false)), none⟩]
def r56_3 : List POp := [
 ⟨some 29, .fieldAddr 30 (.tmp 3) 0, none⟩,
 ⟨some 30, .load 3 (.tmp 29), none⟩,
 ⟨some 31, .call { callee := .value (.func 82), args := #[(.tmp 30)], argTypes := #[3] }, none⟩,
 ⟨some 28, .move (.tmp 31), none⟩,
 ⟨some 32, .extract (.tmp 28) 0, none⟩,
 ⟨some 33, .extract (.tmp 28) 1, none⟩,
 ⟨some 5, .assign (.tmp 32), none⟩,
 ⟨some 6, .assign (.tmp 33), none⟩]
def r56_4 : List POp := [
 ⟨some 34, .fieldAddr 30 (.tmp 3) 4, none⟩,
 ⟨some 35, .load 28 (.tmp 34), none⟩,
 ⟨some 36, .call { callee := .builtin .len, args := #[(.tmp 35)], argTypes := #[28] }, none⟩,
 ⟨some 37, .move (.tmp 5), none⟩,
 ⟨some 38, .binOp .lss 3 (.tmp 36) (.tmp 37) 3, none⟩,
 ⟨some 39, .move (.tmp 38), none⟩,
 ⟨some 40, .fieldAddr 30 (.tmp 3) 4, some (39, false)⟩,
 ⟨some 41, .load 28 (.tmp 40), some (39, false)⟩,
 ⟨some 42, .call { callee := .builtin .len, args := #[(.tmp 41)], argTypes := #[28] }, some (39, false)⟩,
 ⟨some 43, .move (.tmp 6), some (39, false)⟩,
 ⟨some 44, .binOp .gtr 3 (.tmp 42) (.tmp 43) 3, some (39, false)⟩,
 ⟨some 45, .pick (.tmp 39) (.const (.bool true)) (.tmp 44), none⟩,
 ⟨some 46, .move (.tmp 45), none⟩,
 ⟨some 47, .fieldAddr 30 (.tmp 3) 0, some (46, false)⟩,
 ⟨some 48, .load 3 (.tmp 47), some (46, false)⟩,
 ⟨some 49, .binOp .eql 3 (.tmp 48) (.const (.int .i64 11)) 3, some (46, false)⟩,
 ⟨some 50, .move (.tmp 49), some (46, false)⟩,
 ⟨some 51, .fieldAddr 30 (.tmp 3) 4, some (50, true)⟩,
 ⟨some 52, .load 28 (.tmp 51), some (50, true)⟩,
 ⟨some 53, .call { callee := .builtin .len, args := #[(.tmp 52)], argTypes := #[28] }, some (50, true)⟩,
 ⟨some 54, .call { callee := .value (.func 57), args := #[(.tmp 53)], argTypes := #[3] }, some (50, true)⟩,
 ⟨some 55, .unOp .not 4 (.tmp 54), some (50, true)⟩,
 ⟨some 56, .pick (.tmp 50) (.tmp 55) (.const (.bool false)), some (46, false)⟩,
 ⟨some 57, .pick (.tmp 46) (.const (.bool true)) (.tmp 56), none⟩]
def r56_5 : List POp := [
 ⟨some 4, .assign (.const (.bool false)), none⟩]
def r56_6 : List POp := [
 ⟨some 58, .fieldAddr 30 (.tmp 3) 0, none⟩,
 ⟨some 59, .load 3 (.tmp 58), none⟩,
 ⟨some 60, .binOp .neq 3 (.tmp 59) (.const (.int .i64 5)) 3, none⟩,
 ⟨some 61, .move (.tmp 60), none⟩,
 ⟨some 62, .fieldAddr 30 (.tmp 3) 0, some (61, true)⟩,
 ⟨some 63, .load 3 (.tmp 62), some (61, true)⟩,
 ⟨some 64, .binOp .neq 3 (.tmp 63) (.const (.int .i64 26)) 3, some (61, true)⟩,
 ⟨some 65, .pick (.tmp 61) (.tmp 64) (.const (.bool false)), none⟩]
def r56_7 : List POp := [
 ⟨some 4, .assign (.const (.bool true)), none⟩]
def r56_8 : List POp := [
 ⟨some 67, .load 25 (.tmp 2), none⟩,
 ⟨some 68, .fieldAddr 30 (.tmp 3) 2, none⟩,
 ⟨some 69, .load 9 (.tmp 68), none⟩,
 ⟨some 70, .call { callee := .value (.func 17), args := #[(.tmp 67), (.tmp 69)], argTypes := #[25, 9] }, none⟩,
 ⟨some 66, .move (.tmp 70), none⟩,
 ⟨some 71, .extract (.tmp 66) 0, none⟩,
 ⟨some 72, .extract (.tmp 66) 1, none⟩,
 ⟨some 73, .extract (.tmp 66) 2, none⟩,
 ⟨some 7, .assign (.tmp 71), none⟩,
 ⟨some 8, .assign (.tmp 72), none⟩,
 ⟨some 9, .assign (.tmp 73), none⟩]
def r56_9 : List POp := [
 ⟨some 74, .move (.tmp 9), none⟩,
 ⟨some 75, .move (.tmp 74), none⟩,
 ⟨some 76, .fieldAddr 25 (.tmp 2) 1, some (75, true)⟩,
 ⟨some 77, .load 23 (.tmp 76), some (75, true)⟩,
 ⟨some 78, .move (.tmp 7), some (75, true)⟩,
 ⟨some 79, .indexAddr 23 (.tmp 77) (.tmp 78), some (75, true)⟩,
 ⟨some 80, .fieldAddr 56 (.tmp 79) 1, some (75, true)⟩,
 ⟨some 81, .load 54 (.tmp 80), some (75, true)⟩,
 ⟨some 82, .move (.tmp 8), some (75, true)⟩,
 ⟨some 83, .indexAddr 54 (.tmp 81) (.tmp 82), some (75, true)⟩,
 ⟨some 84, .fieldAddr 58 (.tmp 83) 1, some (75, true)⟩,
 ⟨some 85, .load 31 (.tmp 84), some (75, true)⟩,
 ⟨some 86, .call { callee := .builtin .len, args := #[(.tmp 85)], argTypes := #[31] }, some (75, true)⟩,
 ⟨some 87, .fieldAddr 30 (.tmp 3) 4, some (75, true)⟩,
 ⟨some 88, .load 28 (.tmp 87), some (75, true)⟩,
 ⟨some 89, .call { callee := .builtin .len, args := #[(.tmp 88)], argTypes := #[28] }, some (75, true)⟩,
 ⟨some 90, .binOp .eql 3 (.tmp 86) (.tmp 89) 3, some (75, true)⟩,
 ⟨some 91, .pick (.tmp 75) (.tmp 90) (.const (.bool false)), none⟩,
 ⟨some 4, .assign (.tmp 91), none⟩]
noncomputable def p56 : PC := (.seq (.reg r56_0) (.seq (.seq (.reg r56_1) (.cond (.tmp 27) (.seq (.reg r56_2) .ret) .skip)) (.seq (.reg r56_3) (.seq (.seq (.reg r56_4) (.cond (.tmp 57) (.seq (.reg r56_5) .ret) .skip)) (.seq (.seq (.reg r56_6) (.cond (.tmp 65) (.seq (.reg r56_7) .ret) .skip)) (.seq (.reg r56_8) (.seq (.regD 19 r56_9) .ret)))))))
theorem comp56 : (Tryz.f56.body.map (comp E Tryz.f56.ntmps)) = some p56 := by kernel_rfl
theorem ev56 : EvC 56 92 p56 [.tmp 4] := fun hn h => ev_ends (fn := Tryz.f56) (by kernel_rfl) rfl comp56 (by kernel_rfl) (by kernel_rfl) hn h
def r57_0 : List POp := [
 ⟨some 2, .assign (.const (.bool false)), none⟩]
def r57_1 : List POp := [
 ⟨some 3, .move (.tmp 0), none⟩,
 ⟨some 4, .binOp .rem 3 (.tmp 3) (.const (.int .i64 2)) 3, none⟩,
 ⟨some 5, .binOp .eql 3 (.tmp 4) (.const (.int .i64 1)) 3, none⟩,
 ⟨some 2, .assign (.tmp 5), none⟩]
noncomputable def p57 : PC := (.seq (.reg r57_0) (.seq (.reg r57_1) .ret))
theorem comp57 : (Tryz.f57.body.map (comp E Tryz.f57.ntmps)) = some p57 := by kernel_rfl
theorem ev57 : EvC 57 6 p57 [.tmp 2] := fun hn h => ev_ends (fn := Tryz.f57) (by kernel_rfl) rfl comp57 (by kernel_rfl) (by kernel_rfl) hn h
def r77_0 : List POp := [
 ⟨some 4, .assign (.const (.bool false)), none⟩]
def r77_1 : List POp := [
 ⟨some 6, .move (.tmp 0), none⟩,
 ⟨some 7, .binOp .eql 9 (.tmp 6) (.const (.string ⟨#[]⟩)) 9, none⟩,
 ⟨some 8, .move (.tmp 7), none⟩,
 ⟨some 9, .move (.tmp 0), some (8, false)⟩,
 ⟨some 10, .call { callee := .builtin .len, args := #[(.tmp 9)], argTypes := #[9] }, some (8, false)⟩,
 ⟨some 11, .binOp .gtr 3 (.tmp 10) (.const (.int .i64 4000)) 3, some (8, false)⟩,
 ⟨some 12, .pick (.tmp 8) (.const (.bool true)) (.tmp 11), none⟩]
def r77_2 : List POp := [
 ⟨some 4, .assign (.const (.bool false)), none⟩]
def r77_3 : List POp := [
 ⟨some 13, .move (.tmp 0), none⟩,
 ⟨some 14, .call { callee := .value (.func 94), args := #[(.tmp 13)], argTypes := #[9] }, none⟩,
 ⟨some 5, .alloc 133, none⟩,
 ⟨none, .store 133 (.tmp 5) (.tmp 14), none⟩]
def r77_4 : List POp := [
 ⟨some 15, .fieldAddr 133 (.tmp 5) 0, none⟩,
 ⟨some 16, .load 3 (.tmp 15), none⟩,
 ⟨some 17, .move (.tmp 1), none⟩,
 ⟨some 18, .binOp .eql 3 (.tmp 16) (.tmp 17) 3, none⟩,
 ⟨some 19, .move (.tmp 18), none⟩,
 ⟨some 20, .fieldAddr 133 (.tmp 5) 1, some (19, true)⟩,
 ⟨some 21, .load 9 (.tmp 20), some (19, true)⟩,
 ⟨some 22, .move (.tmp 0), some (19, true)⟩,
 ⟨some 23, .binOp .eql 9 (.tmp 21) (.tmp 22) 9, some (19, true)⟩,
 ⟨some 24, .pick (.tmp 19) (.tmp 23) (.const (.bool false)), none⟩,
 ⟨some 4, .assign (.tmp 24), none⟩]
noncomputable def p77 : PC := (.seq (.reg r77_0) (.seq (.seq (.reg r77_1) (.cond (.tmp 12) (.seq (.reg r77_2) .ret) .skip)) (.seq (.reg r77_3) (.seq (.reg r77_4) .ret))))
theorem comp77 : (Tryz.f77.body.map (comp E Tryz.f77.ntmps)) = some p77 := by kernel_rfl
theorem ev77 : EvC 77 25 p77 [.tmp 4] := fun hn h => ev_ends (fn := Tryz.f77) (by kernel_rfl) rfl comp77 (by kernel_rfl) (by kernel_rfl) hn h
def r78_0 : List POp := [
 ⟨some 4, .assign (.const (.int .i64 0)), none⟩]
def r78_1 : List POp := [
 ⟨some 6, .move (.tmp 0), none⟩,
 ⟨some 7, .call { callee := .builtin .len, args := #[(.tmp 6)], argTypes := #[31] }, none⟩,
 ⟨some 8, .move (.const (.int .i64 0)), none⟩]
def r78_2 : List POp := [
 ⟨some 9, .binOp .lss 3 (.tmp 8) (.tmp 7) 3, none⟩]
def r78_3 : List POp := [
 ⟨some 10, .move (.tmp 8), none⟩,
 ⟨some 5, .assign (.tmp 10), none⟩]
def r78_4 : List POp := [
 ⟨some 11, .move (.tmp 1), none⟩,
 ⟨some 12, .move (.tmp 0), none⟩,
 ⟨some 13, .move (.tmp 5), none⟩,
 ⟨some 14, .indexAddr 31 (.tmp 12) (.tmp 13), none⟩,
 ⟨some 15, .load 9 (.tmp 14), none⟩,
 ⟨some 16, .binOp .eql 9 (.tmp 11) (.tmp 15) 9, none⟩]
def r78_5 : List POp := [
 ⟨some 17, .move (.tmp 5), none⟩,
 ⟨some 4, .assign (.tmp 17), none⟩]
def r78_6 : List POp := [
 ⟨some 18, .binOp .add 3 (.tmp 8) (.const (.int .i64 1)) 3, none⟩,
 ⟨some 8, .move (.tmp 18), none⟩]
noncomputable def b78_7 : PC := (.seq (.reg r78_2) (.seq (.cond (.tmp 9) .skip (.exit 0)) (.seq (.block 1 (.seq (.reg r78_3) (.seq (.reg r78_4) (.cond (.tmp 16) (.seq (.reg r78_5) .ret) .skip)))) (.reg r78_6))))
def r78_8 : List POp := [
 ⟨some 4, .assign (.const (.int .i64 (-1))), none⟩]
noncomputable def p78 : PC := (.seq (.reg r78_0) (.seq (.seq (.reg r78_1) (.block 0 (.loop b78_7))) (.seq (.reg r78_8) .ret)))
theorem comp78 : (Tryz.f78.body.map (comp E Tryz.f78.ntmps)) = some p78 := by kernel_rfl
theorem ev78 : EvC 78 19 p78 [.tmp 4] := fun hn h => ev_ends (fn := Tryz.f78) (by kernel_rfl) rfl comp78 (by kernel_rfl) (by kernel_rfl) hn h
def r79_0 : List POp := [
 ⟨some 4, .assign (.const (.int .i64 0)), none⟩]
def r79_1 : List POp := [
 ⟨some 6, .move (.tmp 0), none⟩,
 ⟨some 7, .call { callee := .builtin .len, args := #[(.tmp 6)], argTypes := #[31] }, none⟩,
 ⟨some 8, .move (.const (.int .i64 0)), none⟩]
def r79_2 : List POp := [
 ⟨some 9, .binOp .lss 3 (.tmp 8) (.tmp 7) 3, none⟩]
def r79_3 : List POp := [
 ⟨some 10, .move (.tmp 8), none⟩,
 ⟨some 5, .assign (.tmp 10), none⟩]
def r79_4 : List POp := [
 ⟨some 11, .move (.tmp 1), none⟩,
 ⟨some 12, .move (.tmp 0), none⟩,
 ⟨some 13, .move (.tmp 5), none⟩,
 ⟨some 14, .indexAddr 31 (.tmp 12) (.tmp 13), none⟩,
 ⟨some 15, .load 9 (.tmp 14), none⟩,
 ⟨some 16, .call { callee := .value (.tmp 11), args := #[(.tmp 15)], argTypes := #[9] }, none⟩]
def r79_5 : List POp := [
 ⟨some 17, .move (.tmp 5), none⟩,
 ⟨some 4, .assign (.tmp 17), none⟩]
def r79_6 : List POp := [
 ⟨some 18, .binOp .add 3 (.tmp 8) (.const (.int .i64 1)) 3, none⟩,
 ⟨some 8, .move (.tmp 18), none⟩]
noncomputable def b79_7 : PC := (.seq (.reg r79_2) (.seq (.cond (.tmp 9) .skip (.exit 0)) (.seq (.block 1 (.seq (.reg r79_3) (.seq (.reg r79_4) (.cond (.tmp 16) (.seq (.reg r79_5) .ret) .skip)))) (.reg r79_6))))
def r79_8 : List POp := [
 ⟨some 4, .assign (.const (.int .i64 (-1))), none⟩]
noncomputable def p79 : PC := (.seq (.reg r79_0) (.seq (.seq (.reg r79_1) (.block 0 (.loop b79_7))) (.seq (.reg r79_8) .ret)))
theorem comp79 : (Tryz.f79.body.map (comp E Tryz.f79.ntmps)) = some p79 := by kernel_rfl
theorem ev79 : EvC 79 19 p79 [.tmp 4] := fun hn h => ev_ends (fn := Tryz.f79) (by kernel_rfl) rfl comp79 (by kernel_rfl) (by kernel_rfl) hn h
def r80_0 : List POp := [
 ⟨some 1, .box 30 (.tmp 0), none⟩,
 ⟨some 2, .assign (.const (.bool false)), none⟩]
def r80_1 : List POp := [
 ⟨some 3, .fieldAddr 30 (.tmp 1) 0, none⟩,
 ⟨some 4, .load 3 (.tmp 3), none⟩]
def r80_2 : List POp := [
 ⟨some 6, .binOp .eql 3 (.tmp 4) (.const (.int .i64 1)) 3, none⟩,
 ⟨some 5, .assign (.tmp 6), none⟩]
def r80_3 : List POp := [
 ⟨some 7, .binOp .eql 3 (.tmp 4) (.const (.int .i64 23)) 3, none⟩,
 ⟨some 5, .assign (.tmp 7), none⟩]
def r80_4 : List POp := [
 ⟨some 8, .fieldAddr 30 (.tmp 1) 1, none⟩,
 ⟨some 9, .load 2 (.tmp 8), none⟩,
 ⟨some 10, .binOp .geq 2 (.tmp 9) (.const (.int .i64 0)) 2, none⟩,
 ⟨some 11, .move (.tmp 10), none⟩,
 ⟨some 12, .fieldAddr 30 (.tmp 1) 1, some (11, true)⟩,
 ⟨some 13, .load 2 (.tmp 12), some (11, true)⟩,
 ⟨some 14, .binOp .leq 2 (.tmp 13) (.const (.int .i64 4611686018427387903)) 2, some (11, true)⟩,
 ⟨some 15, .pick (.tmp 11) (.tmp 14) (.const (.bool false)), none⟩,
 ⟨some 2, .assign (.tmp 15), none⟩]
def r80_5 : List POp := [
 ⟨some 17, .binOp .eql 3 (.tmp 4) (.const (.int .i64 2)) 3, none⟩,
 ⟨some 16, .assign (.tmp 17), none⟩]
def r80_6 : List POp := [
 ⟨some 18, .binOp .eql 3 (.tmp 4) (.const (.int .i64 24)) 3, none⟩,
 ⟨some 16, .assign (.tmp 18), none⟩]
def r80_7 : List POp := [
 ⟨some 19, .fieldAddr 30 (.tmp 1) 1, none⟩,
 ⟨some 20, .load 2 (.tmp 19), none⟩,
 ⟨some 21, .binOp .eql 2 (.tmp 20) (.const (.int .i64 0)) 2, none⟩,
 ⟨some 22, .move (.tmp 21), none⟩,
 ⟨some 23, .fieldAddr 30 (.tmp 1) 1, some (22, false)⟩,
 ⟨some 24, .load 2 (.tmp 23), some (22, false)⟩,
 ⟨some 25, .binOp .eql 2 (.tmp 24) (.const (.int .i64 1)) 2, some (22, false)⟩,
 ⟨some 26, .pick (.tmp 22) (.const (.bool true)) (.tmp 25), none⟩,
 ⟨some 2, .assign (.tmp 26), none⟩]
def r80_8 : List POp := [
 ⟨some 27, .fieldAddr 30 (.tmp 1) 1, none⟩,
 ⟨some 28, .load 2 (.tmp 27), none⟩,
 ⟨some 29, .binOp .eql 2 (.tmp 28) (.const (.int .i64 0)) 2, none⟩,
 ⟨some 2, .assign (.tmp 29), none⟩]
noncomputable def p80 : PC := (.seq (.reg r80_0) (.seq (.seq (.reg r80_1) (.block 0 (.seq (.seq (.reg r80_2) (.cond (.tmp 5) .skip (.reg r80_3))) (.cond (.tmp 5) (.seq (.reg r80_4) .ret) (.seq (.seq (.reg r80_5) (.cond (.tmp 16) .skip (.reg r80_6))) (.cond (.tmp 16) (.seq (.reg r80_7) .ret) .skip)))))) (.seq (.reg r80_8) .ret)))
theorem comp80 : (Tryz.f80.body.map (comp E Tryz.f80.ntmps)) = some p80 := by kernel_rfl
theorem ev80 : EvC 80 30 p80 [.tmp 2] := fun hn h => ev_ends (fn := Tryz.f80) (by kernel_rfl) rfl comp80 (by kernel_rfl) (by kernel_rfl) hn h
def r81_0 : List POp := [
 ⟨some 1, .box 30 (.tmp 0), none⟩,
 ⟨some 2, .assign (.const (.bool false)), none⟩]
def r81_1 : List POp := [
 ⟨some 5, .fieldAddr 30 (.tmp 1) 2, none⟩,
 ⟨some 6, .load 9 (.tmp 5), none⟩,
 ⟨some 7, .binOp .eql 9 (.tmp 6) (.const (.string ⟨#[]⟩)) 9, none⟩,
 ⟨some 8, .fieldAddr 30 (.tmp 1) 3, none⟩,
 ⟨some 9, .load 9 (.tmp 8), none⟩,
 ⟨some 10, .binOp .eql 9 (.tmp 9) (.const (.string ⟨#[]⟩)) 9, none⟩,
 ⟨some 3, .assign (.tmp 7), none⟩,
 ⟨some 4, .assign (.tmp 10), none⟩]
def r81_2 : List POp := [
 ⟨some 11, .fieldAddr 30 (.tmp 1) 0, none⟩,
 ⟨some 12, .load 3 (.tmp 11), none⟩]
def r81_3 : List POp := [
 ⟨some 14, .binOp .eql 3 (.tmp 12) (.const (.int .i64 4)) 3, none⟩,
 ⟨some 13, .assign (.tmp 14), none⟩]
def r81_4 : List POp := [
 ⟨some 15, .binOp .eql 3 (.tmp 12) (.const (.int .i64 8)) 3, none⟩,
 ⟨some 13, .assign (.tmp 15), none⟩]
def r81_5 : List POp := [
 ⟨some 16, .binOp .eql 3 (.tmp 12) (.const (.int .i64 22)) 3, none⟩,
 ⟨some 13, .assign (.tmp 16), none⟩]
def r81_6 : List POp := [
 ⟨some 17, .fieldAddr 30 (.tmp 1) 2, none⟩,
 ⟨some 18, .load 9 (.tmp 17), none⟩,
 ⟨some 19, .call { callee := .value (.func 49), args := #[(.tmp 18)], argTypes := #[9] }, none⟩,
 ⟨some 3, .assign (.tmp 19), none⟩]
def r81_7 : List POp := [
 ⟨some 21, .binOp .eql 3 (.tmp 12) (.const (.int .i64 9)) 3, none⟩,
 ⟨some 20, .assign (.tmp 21), none⟩]
def r81_8 : List POp := [
 ⟨some 22, .fieldAddr 30 (.tmp 1) 2, none⟩,
 ⟨some 23, .load 9 (.tmp 22), none⟩,
 ⟨some 24, .call { callee := .value (.func 49), args := #[(.tmp 23)], argTypes := #[9] }, none⟩,
 ⟨some 25, .fieldAddr 30 (.tmp 1) 3, none⟩,
 ⟨some 26, .load 9 (.tmp 25), none⟩]
def r81_9 : List POp := [
 ⟨some 27, .call { callee := .value (.func 49), args := #[(.tmp 26)], argTypes := #[9] }, none⟩,
 ⟨some 3, .assign (.tmp 24), none⟩,
 ⟨some 4, .assign (.tmp 27), none⟩]
noncomputable def d81_0 : Array Oper := match Tryz.f81.body.map (comp E Tryz.f81.ntmps) with | some p => p.draws.getD 0 #[] | none => #[]
theorem draw81_0 : DrawC E 50 d81_0 8 5 r81_8 r81_9 [(.tmp 25)] := ⟨by kernel_rfl, by decide, by kernel_rfl, by kernel_rfl, by kernel_rfl, by kernel_rfl, by kernel_rfl⟩
def r81_10 : List POp := [
 ⟨some 29, .binOp .eql 3 (.tmp 12) (.const (.int .i64 6)) 3, none⟩,
 ⟨some 28, .assign (.tmp 29), none⟩]
def r81_11 : List POp := [
 ⟨some 30, .binOp .eql 3 (.tmp 12) (.const (.int .i64 20)) 3, none⟩,
 ⟨some 28, .assign (.tmp 30), none⟩]
def r81_12 : List POp := [
 ⟨some 31, .fieldAddr 30 (.tmp 1) 3, none⟩,
 ⟨some 32, .load 9 (.tmp 31), none⟩,
 ⟨some 33, .call { callee := .value (.func 49), args := #[(.tmp 32)], argTypes := #[9] }, none⟩,
 ⟨some 4, .assign (.tmp 33), none⟩]
def r81_13 : List POp := [
 ⟨some 35, .binOp .eql 3 (.tmp 12) (.const (.int .i64 5)) 3, none⟩,
 ⟨some 34, .assign (.tmp 35), none⟩]
def r81_14 : List POp := [
 ⟨some 36, .binOp .eql 3 (.tmp 12) (.const (.int .i64 26)) 3, none⟩,
 ⟨some 34, .assign (.tmp 36), none⟩]
def r81_15 : List POp := [
 ⟨some 37, .fieldAddr 30 (.tmp 1) 2, none⟩,
 ⟨some 38, .load 9 (.tmp 37), none⟩,
 ⟨some 39, .call { callee := .value (.func 51), args := #[(.tmp 38)], argTypes := #[9] }, none⟩,
 ⟨some 3, .assign (.tmp 39), none⟩]
def r81_16 : List POp := [
 ⟨some 41, .binOp .eql 3 (.tmp 12) (.const (.int .i64 14)) 3, none⟩,
 ⟨some 40, .assign (.tmp 41), none⟩]
def r81_17 : List POp := [
 ⟨some 42, .buildSlice 31 5 #[(0, (.const (.string ⟨#[43]⟩))), (1, (.const (.string ⟨#[45]⟩))), (2, (.const (.string ⟨#[42]⟩))), (3, (.const (.string ⟨#[60]⟩))), (4, (.const (.string ⟨#[61]⟩)))], none⟩,
 ⟨some 43, .fieldAddr 30 (.tmp 1) 2, none⟩,
 ⟨some 44, .load 9 (.tmp 43), none⟩,
 ⟨some 45, .call { callee := .value (.func 53), args := #[(.tmp 42), (.tmp 44)], argTypes := #[31, 9] }, none⟩,
 ⟨some 3, .assign (.tmp 45), none⟩]
def r81_18 : List POp := [
 ⟨some 46, .move (.tmp 3), none⟩,
 ⟨some 47, .move (.tmp 46), none⟩,
 ⟨some 48, .move (.tmp 4), some (47, true)⟩,
 ⟨some 49, .pick (.tmp 47) (.tmp 48) (.const (.bool false)), none⟩,
 ⟨some 2, .assign (.tmp 49), none⟩]
noncomputable def p81 : PC := (.seq (.reg r81_0) (.seq (.regD 8 r81_1) (.seq (.seq (.reg r81_2) (.block 0 (.seq (.seq (.reg r81_3) (.cond (.tmp 13) .skip (.seq (.reg r81_4) (.cond (.tmp 13) .skip (.reg r81_5))))) (.cond (.tmp 13) (.reg r81_6) (.seq (.reg r81_7) (.cond (.tmp 20) (.draw d81_0) (.seq (.seq (.reg r81_10) (.cond (.tmp 28) .skip (.reg r81_11))) (.cond (.tmp 28) (.reg r81_12) (.seq (.seq (.reg r81_13) (.cond (.tmp 34) .skip (.reg r81_14))) (.cond (.tmp 34) (.reg r81_15) (.seq (.reg r81_16) (.cond (.tmp 40) (.reg r81_17) .skip)))))))))))) (.seq (.reg r81_18) .ret))))
theorem comp81 : (Tryz.f81.body.map (comp E Tryz.f81.ntmps)) = some p81 := by kernel_rfl
theorem ev81 : EvC 81 50 p81 [.tmp 2] := fun hn h => ev_ends (fn := Tryz.f81) (by kernel_rfl) rfl comp81 (by kernel_rfl) (by kernel_rfl) hn h
def r82_0 : List POp := [
 ⟨some 2, .assign (.const (.int .i64 0)), none⟩,
 ⟨some 3, .assign (.const (.int .i64 0)), none⟩]
def r82_1 : List POp := [
 ⟨some 4, .move (.tmp 0), none⟩]
def r82_2 : List POp := [
 ⟨some 6, .binOp .eql 3 (.tmp 4) (.const (.int .i64 5)) 3, none⟩,
 ⟨some 5, .assign (.tmp 6), none⟩]
def r82_3 : List POp := [
 ⟨some 7, .binOp .eql 3 (.tmp 4) (.const (.int .i64 26)) 3, none⟩,
 ⟨some 5, .assign (.tmp 7), none⟩]
def r82_4 : List POp := [
 ⟨some 2, .assign (.const (.int .i64 0)), none⟩,
 ⟨some 3, .assign (.const (.int .i64 3)), none⟩]
def r82_5 : List POp := [
 ⟨some 9, .binOp .eql 3 (.tmp 4) (.const (.int .i64 11)) 3, none⟩,
 ⟨some 8, .assign (.tmp 9), none⟩]
def r82_6 : List POp := [
 ⟨some 2, .assign (.const (.int .i64 3)), none⟩,
 ⟨some 3, .assign (.const (.int .i64 1000)), none⟩]
def r82_7 : List POp := [
 ⟨some 11, .binOp .eql 3 (.tmp 4) (.const (.int .i64 6)) 3, none⟩,
 ⟨some 10, .assign (.tmp 11), none⟩]
def r82_8 : List POp := [
 ⟨some 12, .binOp .eql 3 (.tmp 4) (.const (.int .i64 15)) 3, none⟩,
 ⟨some 10, .assign (.tmp 12), none⟩]
def r82_9 : List POp := [
 ⟨some 13, .binOp .eql 3 (.tmp 4) (.const (.int .i64 16)) 3, none⟩,
 ⟨some 10, .assign (.tmp 13), none⟩]
def r82_10 : List POp := [
 ⟨some 14, .binOp .eql 3 (.tmp 4) (.const (.int .i64 17)) 3, none⟩,
 ⟨some 10, .assign (.tmp 14), none⟩]
def r82_11 : List POp := [
 ⟨some 15, .binOp .eql 3 (.tmp 4) (.const (.int .i64 19)) 3, none⟩,
 ⟨some 10, .assign (.tmp 15), none⟩]
def r82_12 : List POp := [
 ⟨some 2, .assign (.const (.int .i64 1)), none⟩,
 ⟨some 3, .assign (.const (.int .i64 1)), none⟩]
def r82_13 : List POp := [
 ⟨some 17, .binOp .eql 3 (.tmp 4) (.const (.int .i64 7)) 3, none⟩,
 ⟨some 16, .assign (.tmp 17), none⟩]
def r82_14 : List POp := [
 ⟨some 18, .binOp .eql 3 (.tmp 4) (.const (.int .i64 8)) 3, none⟩,
 ⟨some 16, .assign (.tmp 18), none⟩]
def r82_15 : List POp := [
 ⟨some 19, .binOp .eql 3 (.tmp 4) (.const (.int .i64 9)) 3, none⟩,
 ⟨some 16, .assign (.tmp 19), none⟩]
def r82_16 : List POp := [
 ⟨some 20, .binOp .eql 3 (.tmp 4) (.const (.int .i64 12)) 3, none⟩,
 ⟨some 16, .assign (.tmp 20), none⟩]
def r82_17 : List POp := [
 ⟨some 21, .binOp .eql 3 (.tmp 4) (.const (.int .i64 13)) 3, none⟩,
 ⟨some 16, .assign (.tmp 21), none⟩]
def r82_18 : List POp := [
 ⟨some 22, .binOp .eql 3 (.tmp 4) (.const (.int .i64 14)) 3, none⟩,
 ⟨some 16, .assign (.tmp 22), none⟩]
def r82_19 : List POp := [
 ⟨some 23, .binOp .eql 3 (.tmp 4) (.const (.int .i64 20)) 3, none⟩,
 ⟨some 16, .assign (.tmp 23), none⟩]
def r82_20 : List POp := [
 ⟨some 2, .assign (.const (.int .i64 2)), none⟩,
 ⟨some 3, .assign (.const (.int .i64 2)), none⟩]
def r82_21 : List POp := [
 ⟨some 25, .binOp .eql 3 (.tmp 4) (.const (.int .i64 10)) 3, none⟩,
 ⟨some 24, .assign (.tmp 25), none⟩]
def r82_22 : List POp := [
 ⟨some 2, .assign (.const (.int .i64 3)), none⟩,
 ⟨some 3, .assign (.const (.int .i64 3)), none⟩]
def r82_23 : List POp := [
 ⟨some 2, .assign (.const (.int .i64 0)), none⟩,
 ⟨some 3, .assign (.const (.int .i64 0)), none⟩]
noncomputable def p82 : PC := (.seq (.reg r82_0) (.seq (.seq (.reg r82_1) (.block 0 (.seq (.seq (.reg r82_2) (.cond (.tmp 5) .skip (.reg r82_3))) (.cond (.tmp 5) (.seq (.reg r82_4) .ret) (.seq (.reg r82_5) (.cond (.tmp 8) (.seq (.reg r82_6) .ret) (.seq (.seq (.reg r82_7) (.cond (.tmp 10) .skip (.seq (.reg r82_8) (.cond (.tmp 10) .skip (.seq (.reg r82_9) (.cond (.tmp 10) .skip (.seq (.reg r82_10) (.cond (.tmp 10) .skip (.reg r82_11))))))))) (.cond (.tmp 10) (.seq (.reg r82_12) .ret) (.seq (.seq (.reg r82_13) (.cond (.tmp 16) .skip (.seq (.reg r82_14) (.cond (.tmp 16) .skip (.seq (.reg r82_15) (.cond (.tmp 16) .skip (.seq (.reg r82_16) (.cond (.tmp 16) .skip (.seq (.reg r82_17) (.cond (.tmp 16) .skip (.seq (.reg r82_18) (.cond (.tmp 16) .skip (.reg r82_19))))))))))))) (.cond (.tmp 16) (.seq (.reg r82_20) .ret) (.seq (.reg r82_21) (.cond (.tmp 24) (.seq (.reg r82_22) .ret) .skip)))))))))))) (.seq (.reg r82_23) .ret)))
theorem comp82 : (Tryz.f82.body.map (comp E Tryz.f82.ntmps)) = some p82 := by kernel_rfl
theorem ev82 : EvC 82 26 p82 [.tmp 2, .tmp 3] := fun hn h => ev_ends (fn := Tryz.f82) (by kernel_rfl) rfl comp82 (by kernel_rfl) (by kernel_rfl) hn h
def r17_0 : List POp := [
 ⟨some 2, .box 25 (.tmp 0), none⟩,
 ⟨some 4, .assign (.const (.int .i64 0)), none⟩,
 ⟨some 5, .assign (.const (.int .i64 0)), none⟩,
 ⟨some 6, .assign (.const (.bool false)), none⟩]
def r17_1 : List POp := [
 ⟨some 11, .fieldAddr 25 (.tmp 2) 1, none⟩,
 ⟨some 12, .load 23 (.tmp 11), none⟩,
 ⟨some 13, .call { callee := .builtin .len, args := #[(.tmp 12)], argTypes := #[23] }, none⟩,
 ⟨some 14, .move (.const (.int .i64 0)), none⟩]
def r17_2 : List POp := [
 ⟨some 15, .binOp .lss 3 (.tmp 14) (.tmp 13) 3, none⟩]
def r17_3 : List POp := [
 ⟨some 16, .move (.tmp 14), none⟩,
 ⟨some 17, .indexAddr 23 (.tmp 12) (.tmp 14), none⟩,
 ⟨some 18, .load 56 (.tmp 17), none⟩,
 ⟨some 8, .alloc 56, none⟩,
 ⟨some 7, .assign (.tmp 16), none⟩,
 ⟨none, .store 56 (.tmp 8) (.tmp 18), none⟩]
def r17_4 : List POp := [
 ⟨some 19, .fieldAddr 56 (.tmp 8) 1, none⟩,
 ⟨some 20, .load 54 (.tmp 19), none⟩,
 ⟨some 21, .call { callee := .builtin .len, args := #[(.tmp 20)], argTypes := #[54] }, none⟩,
 ⟨some 22, .move (.const (.int .i64 0)), none⟩]
def r17_5 : List POp := [
 ⟨some 23, .binOp .lss 3 (.tmp 22) (.tmp 21) 3, none⟩]
def r17_6 : List POp := [
 ⟨some 24, .move (.tmp 22), none⟩,
 ⟨some 25, .indexAddr 54 (.tmp 20) (.tmp 22), none⟩,
 ⟨some 26, .load 58 (.tmp 25), none⟩,
 ⟨some 10, .alloc 58, none⟩,
 ⟨some 9, .assign (.tmp 24), none⟩,
 ⟨none, .store 58 (.tmp 10) (.tmp 26), none⟩]
def r17_7 : List POp := [
 ⟨some 27, .fieldAddr 58 (.tmp 10) 0, none⟩,
 ⟨some 28, .load 9 (.tmp 27), none⟩,
 ⟨some 29, .move (.tmp 1), none⟩,
 ⟨some 30, .binOp .eql 9 (.tmp 28) (.tmp 29) 9, none⟩]
def r17_8 : List POp := [
 ⟨some 31, .move (.tmp 7), none⟩,
 ⟨some 32, .move (.tmp 9), none⟩,
 ⟨some 4, .assign (.tmp 31), none⟩,
 ⟨some 5, .assign (.tmp 32), none⟩,
 ⟨some 6, .assign (.const (.bool true)), none⟩]
def r17_9 : List POp := [
 ⟨some 33, .binOp .add 3 (.tmp 22) (.const (.int .i64 1)) 3, none⟩,
 ⟨some 22, .move (.tmp 33), none⟩]
noncomputable def b17_10 : PC := (.seq (.reg r17_5) (.seq (.cond (.tmp 23) .skip (.exit 2)) (.seq (.block 3 (.seq (.reg r17_6) (.seq (.reg r17_7) (.cond (.tmp 30) (.seq (.reg r17_8) .ret) .skip)))) (.reg r17_9))))
def r17_11 : List POp := [
 ⟨some 34, .binOp .add 3 (.tmp 14) (.const (.int .i64 1)) 3, none⟩,
 ⟨some 14, .move (.tmp 34), none⟩]
noncomputable def b17_12 : PC := (.seq (.reg r17_2) (.seq (.cond (.tmp 15) .skip (.exit 0)) (.seq (.block 1 (.seq (.reg r17_3) (.seq (.reg r17_4) (.block 2 (.loop b17_10))))) (.reg r17_11))))
def r17_13 : List POp := [
 ⟨some 4, .assign (.const (.int .i64 0)), none⟩,
 ⟨some 5, .assign (.const (.int .i64 0)), none⟩,
 ⟨some 6, .assign (.const (.bool false)), none⟩]
noncomputable def p17 : PC := (.seq (.reg r17_0) (.seq (.seq (.reg r17_1) (.block 0 (.loop b17_12))) (.seq (.reg r17_13) .ret)))
theorem comp17 : (Tryz.f17.body.map (comp E Tryz.f17.ntmps)) = some p17 := by kernel_rfl
theorem ev17 : EvC 17 35 p17 [.tmp 4, .tmp 5, .tmp 6] := fun hn h => ev_ends (fn := Tryz.f17) (by kernel_rfl) rfl comp17 (by kernel_rfl) (by kernel_rfl) hn h
def r94_0 : List POp := [
 ⟨some 2, .alloc 133, none⟩]
def r94_1 : List POp := [
 ⟨some 9, .move (.tmp 0), none⟩,
 ⟨some 10, .call { callee := .value (.func 115), args := #[(.tmp 9)], argTypes := #[9] }, none⟩,
 ⟨some 8, .move (.tmp 10), none⟩,
 ⟨some 11, .extract (.tmp 8) 0, none⟩,
 ⟨some 12, .extract (.tmp 8) 1, none⟩,
 ⟨some 3, .assign (.tmp 11), none⟩,
 ⟨some 4, .assign (.tmp 12), none⟩]
def r94_2 : List POp := [
 ⟨some 13, .move (.tmp 3), none⟩,
 ⟨some 14, .call { callee := .value (.func 116), args := #[(.tmp 13)], argTypes := #[21] }, none⟩]
def r94_3 : List POp := [
 ⟨some 16, .binOp .eql 3 (.tmp 14) (.const (.int .i64 1)) 3, none⟩,
 ⟨some 15, .assign (.tmp 16), none⟩]
def r94_4 : List POp := [
 ⟨some 17, .move (.tmp 3), none⟩,
 ⟨some 18, .binOp .neq 21 (.tmp 17) (.const (.int .i32 39)) 21, none⟩]
def r94_5 : List POp := [
 ⟨some 19, .move (.tmp 0), none⟩,
 ⟨some 20, .call { callee := .value (.func 117), args := #[(.tmp 19)], argTypes := #[9] }, none⟩,
 ⟨none, .store 133 (.tmp 2) (.tmp 20), none⟩]
def r94_6 : List POp := [
 ⟨some 22, .binOp .eql 3 (.tmp 14) (.const (.int .i64 2)) 3, none⟩,
 ⟨some 21, .assign (.tmp 22), none⟩]
def r94_7 : List POp := [
 ⟨some 23, .move (.tmp 0), none⟩,
 ⟨some 24, .call { callee := .value (.func 118), args := #[(.tmp 23), (.func 119)], argTypes := #[9, 158] }, none⟩,
 ⟨some 5, .assign (.tmp 24), none⟩]
def r94_8 : List POp := [
 ⟨some 26, .move (.tmp 0), none⟩,
 ⟨some 27, .move (.tmp 5), none⟩,
 ⟨some 28, .slice 9 (.tmp 26) none (some (.tmp 27)) none, none⟩,
 ⟨some 29, .call { callee := .value (.func 120), args := #[(.tmp 28)], argTypes := #[9] }, none⟩,
 ⟨some 25, .move (.tmp 29), none⟩,
 ⟨some 30, .extract (.tmp 25) 0, none⟩,
 ⟨some 31, .extract (.tmp 25) 1, none⟩,
 ⟨some 6, .assign (.tmp 30), none⟩,
 ⟨some 7, .assign (.tmp 31), none⟩]
def r94_9 : List POp := [
 ⟨some 32, .move (.tmp 7), none⟩]
def r94_10 : List POp := [
 ⟨some 33, .move (.tmp 0), none⟩,
 ⟨some 34, .move (.tmp 5), none⟩,
 ⟨some 35, .slice 9 (.tmp 33) none (some (.tmp 34)) none, none⟩,
 ⟨some 36, .build 133 #[(0, (.const (.int .i64 1))), (1, (.tmp 35))], none⟩,
 ⟨none, .store 133 (.tmp 2) (.tmp 36), none⟩]
def r94_11 : List POp := [
 ⟨some 38, .binOp .eql 3 (.tmp 14) (.const (.int .i64 4)) 3, none⟩,
 ⟨some 37, .assign (.tmp 38), none⟩]
def r94_12 : List POp := [
 ⟨some 39, .move (.tmp 0), none⟩,
 ⟨some 40, .call { callee := .value (.func 121), args := #[(.tmp 39)], argTypes := #[9] }, none⟩,
 ⟨none, .store 133 (.tmp 2) (.tmp 40), none⟩]
def r94_13 : List POp := [
 ⟨some 41, .build 133 #[], none⟩,
 ⟨none, .store 133 (.tmp 2) (.tmp 41), none⟩]
noncomputable def p94 : PC := (.seq (.reg r94_0) (.seq (.reg r94_1) (.seq (.seq (.reg r94_2) (.block 0 (.seq (.reg r94_3) (.cond (.tmp 15) (.seq (.reg r94_4) (.cond (.tmp 18) (.seq (.reg r94_5) .ret) .skip)) (.seq (.reg r94_6) (.cond (.tmp 21) (.seq (.reg r94_7) (.seq (.reg r94_8) (.seq (.reg r94_9) (.cond (.tmp 32) (.seq (.reg r94_10) .ret) .skip)))) (.seq (.reg r94_11) (.cond (.tmp 37) (.seq (.reg r94_12) .ret) .skip)))))))) (.seq (.reg r94_13) .ret))))
theorem comp94 : (Tryz.f94.body.map (comp E Tryz.f94.ntmps)) = some p94 := by kernel_rfl
theorem ev94 : EvC 94 42 p94 [.cell 2 133] := fun hn h => ev_ends (fn := Tryz.f94) (by kernel_rfl) rfl comp94 (by kernel_rfl) (by kernel_rfl) hn h
def r116_0 : List POp := [
 ⟨some 2, .assign (.const (.int .i64 0)), none⟩]
def r116_1 : List POp := [
 ⟨some 4, .move (.tmp 0), none⟩,
 ⟨some 5, .binOp .eql 21 (.tmp 4) (.const (.int .i32 95)) 21, none⟩,
 ⟨some 6, .move (.tmp 5), none⟩,
 ⟨some 7, .move (.tmp 0), some (6, false)⟩,
 ⟨some 8, .binOp .eql 21 (.tmp 7) (.const (.int .i32 39)) 21, some (6, false)⟩,
 ⟨some 9, .pick (.tmp 6) (.const (.bool true)) (.tmp 8), none⟩,
 ⟨some 10, .move (.tmp 9), none⟩,
 ⟨some 11, .move (.tmp 0), some (10, false)⟩,
 ⟨some 12, .call { callee := .value (.func 133), args := #[(.tmp 11)], argTypes := #[21] }, some (10, false)⟩,
 ⟨some 13, .pick (.tmp 10) (.const (.bool true)) (.tmp 12), none⟩,
 ⟨some 3, .assign (.tmp 13), none⟩]
def r116_2 : List POp := [
 ⟨some 2, .assign (.const (.int .i64 1)), none⟩]
def r116_3 : List POp := [
 ⟨some 15, .move (.tmp 0), none⟩,
 ⟨some 16, .binOp .geq 21 (.tmp 15) (.const (.int .i32 48)) 21, none⟩,
 ⟨some 17, .move (.tmp 16), none⟩,
 ⟨some 18, .move (.tmp 0), some (17, true)⟩,
 ⟨some 19, .binOp .leq 21 (.tmp 18) (.const (.int .i32 57)) 21, some (17, true)⟩,
 ⟨some 20, .pick (.tmp 17) (.tmp 19) (.const (.bool false)), none⟩,
 ⟨some 14, .assign (.tmp 20), none⟩]
def r116_4 : List POp := [
 ⟨some 2, .assign (.const (.int .i64 2)), none⟩]
def r116_5 : List POp := [
 ⟨some 21, .move (.tmp 0), none⟩]
def r116_6 : List POp := [
 ⟨some 23, .binOp .eql 21 (.tmp 21) (.const (.int .i32 32)) 21, none⟩,
 ⟨some 22, .assign (.tmp 23), none⟩]
def r116_7 : List POp := [
 ⟨some 24, .binOp .eql 21 (.tmp 21) (.const (.int .i32 9)) 21, none⟩,
 ⟨some 22, .assign (.tmp 24), none⟩]
def r116_8 : List POp := [
 ⟨some 25, .binOp .eql 21 (.tmp 21) (.const (.int .i32 10)) 21, none⟩,
 ⟨some 22, .assign (.tmp 25), none⟩]
def r116_9 : List POp := [
 ⟨some 26, .binOp .eql 21 (.tmp 21) (.const (.int .i32 13)) 21, none⟩,
 ⟨some 22, .assign (.tmp 26), none⟩]
def r116_10 : List POp := [
 ⟨some 2, .assign (.const (.int .i64 3)), none⟩]
def r116_11 : List POp := [
 ⟨some 28, .binOp .eql 21 (.tmp 21) (.const (.int .i32 40)) 21, none⟩,
 ⟨some 27, .assign (.tmp 28), none⟩]
def r116_12 : List POp := [
 ⟨some 29, .binOp .eql 21 (.tmp 21) (.const (.int .i32 41)) 21, none⟩,
 ⟨some 27, .assign (.tmp 29), none⟩]
def r116_13 : List POp := [
 ⟨some 30, .binOp .eql 21 (.tmp 21) (.const (.int .i32 44)) 21, none⟩,
 ⟨some 27, .assign (.tmp 30), none⟩]
def r116_14 : List POp := [
 ⟨some 31, .binOp .eql 21 (.tmp 21) (.const (.int .i32 59)) 21, none⟩,
 ⟨some 27, .assign (.tmp 31), none⟩]
def r116_15 : List POp := [
 ⟨some 32, .binOp .eql 21 (.tmp 21) (.const (.int .i32 61)) 21, none⟩,
 ⟨some 27, .assign (.tmp 32), none⟩]
def r116_16 : List POp := [
 ⟨some 33, .binOp .eql 21 (.tmp 21) (.const (.int .i32 60)) 21, none⟩,
 ⟨some 27, .assign (.tmp 33), none⟩]
def r116_17 : List POp := [
 ⟨some 34, .binOp .eql 21 (.tmp 21) (.const (.int .i32 62)) 21, none⟩,
 ⟨some 27, .assign (.tmp 34), none⟩]
def r116_18 : List POp := [
 ⟨some 35, .binOp .eql 21 (.tmp 21) (.const (.int .i32 43)) 21, none⟩,
 ⟨some 27, .assign (.tmp 35), none⟩]
def r116_19 : List POp := [
 ⟨some 36, .binOp .eql 21 (.tmp 21) (.const (.int .i32 45)) 21, none⟩,
 ⟨some 27, .assign (.tmp 36), none⟩]
def r116_20 : List POp := [
 ⟨some 37, .binOp .eql 21 (.tmp 21) (.const (.int .i32 42)) 21, none⟩,
 ⟨some 27, .assign (.tmp 37), none⟩]
def r116_21 : List POp := [
 ⟨some 38, .binOp .eql 21 (.tmp 21) (.const (.int .i32 124)) 21, none⟩,
 ⟨some 27, .assign (.tmp 38), none⟩]
def r116_22 : List POp := [
 ⟨some 39, .binOp .eql 21 (.tmp 21) (.const (.int .i32 33)) 21, none⟩,
 ⟨some 27, .assign (.tmp 39), none⟩]
def r116_23 : List POp := [
 ⟨some 40, .binOp .eql 21 (.tmp 21) (.const (.int .i32 58)) 21, none⟩,
 ⟨some 27, .assign (.tmp 40), none⟩]
def r116_24 : List POp := [
 ⟨some 2, .assign (.const (.int .i64 4)), none⟩]
def r116_25 : List POp := [
 ⟨some 2, .assign (.const (.int .i64 0)), none⟩]
noncomputable def p116 : PC := (.seq (.reg r116_0) (.seq (.block 0 (.seq (.reg r116_1) (.cond (.tmp 3) (.seq (.reg r116_2) .ret) (.seq (.reg r116_3) (.cond (.tmp 14) (.seq (.reg r116_4) .ret) .skip))))) (.seq (.seq (.reg r116_5) (.block 1 (.seq (.seq (.reg r116_6) (.cond (.tmp 22) .skip (.seq (.reg r116_7) (.cond (.tmp 22) .skip (.seq (.reg r116_8) (.cond (.tmp 22) .skip (.reg r116_9))))))) (.cond (.tmp 22) (.seq (.reg r116_10) .ret) (.seq (.seq (.reg r116_11) (.cond (.tmp 27) .skip (.seq (.reg r116_12) (.cond (.tmp 27) .skip (.seq (.reg r116_13) (.cond (.tmp 27) .skip (.seq (.reg r116_14) (.cond (.tmp 27) .skip (.seq (.reg r116_15) (.cond (.tmp 27) .skip (.seq (.reg r116_16) (.cond (.tmp 27) .skip (.seq (.reg r116_17) (.cond (.tmp 27) .skip (.seq (.reg r116_18) (.cond (.tmp 27) .skip (.seq (.reg r116_19) (.cond (.tmp 27) .skip (.seq (.reg r116_20) (.cond (.tmp 27) .skip (.seq (.reg r116_21) (.cond (.tmp 27) .skip (.seq (.reg r116_22) (.cond (.tmp 27) .skip (.reg r116_23))))))))))))))))))))))))) (.cond (.tmp 27) (.seq (.reg r116_24) .ret) .skip)))))) (.seq (.reg r116_25) .ret))))
theorem comp116 : (Tryz.f116.body.map (comp E Tryz.f116.ntmps)) = some p116 := by kernel_rfl
theorem ev116 : EvC 116 41 p116 [.tmp 2] := fun hn h => ev_ends (fn := Tryz.f116) (by kernel_rfl) rfl comp116 (by kernel_rfl) (by kernel_rfl) hn h
def r117_0 : List POp := [
 ⟨some 2, .alloc 133, none⟩]
def r117_1 : List POp := [
 ⟨some 5, .move (.tmp 0), none⟩,
 ⟨some 6, .call { callee := .value (.func 118), args := #[(.tmp 5), (.func 138)], argTypes := #[9, 158] }, none⟩,
 ⟨some 3, .assign (.tmp 6), none⟩]
def r117_2 : List POp := [
 ⟨some 7, .move (.tmp 0), none⟩,
 ⟨some 8, .move (.tmp 3), none⟩,
 ⟨some 9, .slice 9 (.tmp 7) none (some (.tmp 8)) none, none⟩,
 ⟨some 10, .build 133 #[(0, (.const (.int .i64 2))), (1, (.tmp 9))], none⟩,
 ⟨some 4, .alloc 133, none⟩,
 ⟨none, .store 133 (.tmp 4) (.tmp 10), none⟩]
def r117_3 : List POp := [
 ⟨some 12, .move (.tmp 0), none⟩,
 ⟨some 13, .call { callee := .value (.func 139), args := #[(.tmp 12)], argTypes := #[9] }, none⟩,
 ⟨some 11, .assign (.tmp 13), none⟩]
def r117_4 : List POp := [
 ⟨some 14, .fieldAddr 133 (.tmp 4) 0, none⟩,
 ⟨none, .store 3 (.tmp 14) (.const (.int .i64 3)), none⟩]
def r117_5 : List POp := [
 ⟨some 16, .fieldAddr 133 (.tmp 4) 1, none⟩,
 ⟨some 17, .load 9 (.tmp 16), none⟩,
 ⟨some 18, .call { callee := .value (.func 140), args := #[(.tmp 17)], argTypes := #[9] }, none⟩,
 ⟨some 15, .assign (.tmp 18), none⟩]
def r117_6 : List POp := [
 ⟨some 19, .fieldAddr 133 (.tmp 4) 0, none⟩,
 ⟨none, .store 3 (.tmp 19) (.const (.int .i64 4)), none⟩]
def r117_7 : List POp := [
 ⟨some 20, .load 133 (.tmp 4), none⟩,
 ⟨none, .store 133 (.tmp 2) (.tmp 20), none⟩]
noncomputable def p117 : PC := (.seq (.reg r117_0) (.seq (.reg r117_1) (.seq (.reg r117_2) (.seq (.block 0 (.seq (.reg r117_3) (.cond (.tmp 11) (.reg r117_4) (.seq (.reg r117_5) (.cond (.tmp 15) (.reg r117_6) .skip))))) (.seq (.reg r117_7) .ret)))))
theorem comp117 : (Tryz.f117.body.map (comp E Tryz.f117.ntmps)) = some p117 := by kernel_rfl
theorem ev117 : EvC 117 21 p117 [.cell 2 133] := fun hn h => ev_ends (fn := Tryz.f117) (by kernel_rfl) rfl comp117 (by kernel_rfl) (by kernel_rfl) hn h
def r118_0 : List POp := [
 ⟨some 4, .assign (.const (.int .i64 0)), none⟩]
def r118_1 : List POp := [
 ⟨some 7, .move (.tmp 0), none⟩,
 ⟨some 8, .range 9 (.tmp 7), none⟩]
def r118_2 : List POp := [
 ⟨some 9, .next (.tmp 8) true, none⟩,
 ⟨some 10, .extract (.tmp 9) 0, none⟩]
def r118_3 : List POp := [
 ⟨some 11, .extract (.tmp 9) 1, none⟩,
 ⟨some 12, .extract (.tmp 9) 2, none⟩,
 ⟨some 5, .assign (.tmp 11), none⟩,
 ⟨some 6, .assign (.tmp 12), none⟩]
def r118_4 : List POp := [
 ⟨some 13, .move (.tmp 1), none⟩,
 ⟨some 14, .move (.tmp 6), none⟩,
 ⟨some 15, .call { callee := .value (.tmp 13), args := #[(.tmp 14)], argTypes := #[21] }, none⟩,
 ⟨some 16, .unOp .not 4 (.tmp 15), none⟩]
def r118_5 : List POp := [
 ⟨some 17, .move (.tmp 5), none⟩,
 ⟨some 4, .assign (.tmp 17), none⟩]
noncomputable def b118_6 : PC := (.seq (.reg r118_2) (.seq (.cond (.tmp 10) .skip (.exit 0)) (.block 1 (.seq (.reg r118_3) (.seq (.reg r118_4) (.cond (.tmp 16) (.seq (.reg r118_5) .ret) .skip))))))
def r118_7 : List POp := [
 ⟨some 18, .move (.tmp 0), none⟩,
 ⟨some 19, .call { callee := .builtin .len, args := #[(.tmp 18)], argTypes := #[9] }, none⟩,
 ⟨some 4, .assign (.tmp 19), none⟩]
noncomputable def p118 : PC := (.seq (.reg r118_0) (.seq (.seq (.reg r118_1) (.block 0 (.loop b118_6))) (.seq (.reg r118_7) .ret)))
theorem comp118 : (Tryz.f118.body.map (comp E Tryz.f118.ntmps)) = some p118 := by kernel_rfl
theorem ev118 : EvC 118 20 p118 [.tmp 4] := fun hn h => ev_ends (fn := Tryz.f118) (by kernel_rfl) rfl comp118 (by kernel_rfl) (by kernel_rfl) hn h
def r119_0 : List POp := [
 ⟨some 2, .assign (.const (.bool false)), none⟩]
def r119_1 : List POp := [
 ⟨some 3, .move (.tmp 0), none⟩,
 ⟨some 4, .call { callee := .value (.func 116), args := #[(.tmp 3)], argTypes := #[21] }, none⟩,
 ⟨some 5, .binOp .eql 3 (.tmp 4) (.const (.int .i64 2)) 3, none⟩,
 ⟨some 2, .assign (.tmp 5), none⟩]
noncomputable def p119 : PC := (.seq (.reg r119_0) (.seq (.reg r119_1) .ret))
theorem comp119 : (Tryz.f119.body.map (comp E Tryz.f119.ntmps)) = some p119 := by kernel_rfl
theorem ev119 : EvC 119 6 p119 [.tmp 2] := fun hn h => ev_ends (fn := Tryz.f119) (by kernel_rfl) rfl comp119 (by kernel_rfl) (by kernel_rfl) hn h
def r120_0 : List POp := [
 ⟨some 2, .assign (.const (.int .i64 0)), none⟩,
 ⟨some 3, .assign (.const (.bool false)), none⟩]
def r120_1 : List POp := [
 ⟨some 4, .assign (.const (.int .i64 0)), none⟩]
def r120_2 : List POp := [
 ⟨some 8, .move (.tmp 0), none⟩,
 ⟨some 9, .range 9 (.tmp 8), none⟩]
def r120_3 : List POp := [
 ⟨some 10, .next (.tmp 9) true, none⟩,
 ⟨some 11, .extract (.tmp 10) 0, none⟩]
def r120_4 : List POp := [
 ⟨some 12, .extract (.tmp 10) 2, none⟩,
 ⟨some 6, .assign (.tmp 12), none⟩]
def r120_5 : List POp := [
 ⟨some 13, .move (.tmp 6), none⟩,
 ⟨some 14, .binOp .sub 21 (.tmp 13) (.const (.int .i32 48)) 21, none⟩,
 ⟨some 15, .convert 21 2 (.tmp 14), none⟩,
 ⟨some 7, .assign (.tmp 15), none⟩]
def r120_6 : List POp := [
 ⟨some 16, .move (.tmp 4), none⟩,
 ⟨some 17, .move (.tmp 7), none⟩,
 ⟨some 18, .binOp .sub 2 (.const (.int .i64 4611686018427387903)) (.tmp 17) 2, none⟩,
 ⟨some 19, .binOp .quo 2 (.tmp 18) (.const (.int .i64 10)) 2, none⟩,
 ⟨some 20, .binOp .gtr 2 (.tmp 16) (.tmp 19) 2, none⟩]
def r120_7 : List POp := [
 ⟨some 2, .assign (.const (.int .i64 0)), none⟩,
 ⟨some 3, .assign (.const (.bool false)), none⟩]
def r120_8 : List POp := [
 ⟨some 21, .move (.tmp 4), none⟩,
 ⟨some 22, .binOp .mul 2 (.const (.int .i64 10)) (.tmp 21) 2, none⟩,
 ⟨some 23, .move (.tmp 7), none⟩,
 ⟨some 24, .binOp .add 2 (.tmp 22) (.tmp 23) 2, none⟩,
 ⟨some 4, .assign (.tmp 24), none⟩]
noncomputable def b120_9 : PC := (.seq (.reg r120_3) (.seq (.cond (.tmp 11) .skip (.exit 0)) (.block 1 (.seq (.reg r120_4) (.seq (.reg r120_5) (.seq (.seq (.reg r120_6) (.cond (.tmp 20) (.seq (.reg r120_7) .ret) .skip)) (.reg r120_8)))))))
def r120_10 : List POp := [
 ⟨some 25, .move (.tmp 4), none⟩,
 ⟨some 2, .assign (.tmp 25), none⟩,
 ⟨some 3, .assign (.const (.bool true)), none⟩]
noncomputable def p120 : PC := (.seq (.reg r120_0) (.seq (.reg r120_1) (.seq (.seq (.reg r120_2) (.block 0 (.loop b120_9))) (.seq (.reg r120_10) .ret))))
theorem comp120 : (Tryz.f120.body.map (comp E Tryz.f120.ntmps)) = some p120 := by kernel_rfl
theorem ev120 : EvC 120 26 p120 [.tmp 2, .tmp 3] := fun hn h => ev_ends (fn := Tryz.f120) (by kernel_rfl) rfl comp120 (by kernel_rfl) (by kernel_rfl) hn h
def r121_0 : List POp := [
 ⟨some 2, .alloc 133, none⟩]
def r121_1 : List POp := [
 ⟨some 5, .buildSlice 31 2 #[(0, (.const (.string ⟨#[58, 61]⟩))), (1, (.const (.string ⟨#[45, 62]⟩)))], none⟩,
 ⟨some 6, .call { callee := .builtin .len, args := #[(.tmp 5)], argTypes := #[31] }, none⟩,
 ⟨some 7, .move (.const (.int .i64 0)), none⟩]
def r121_2 : List POp := [
 ⟨some 8, .binOp .lss 3 (.tmp 7) (.tmp 6) 3, none⟩]
def r121_3 : List POp := [
 ⟨some 9, .indexAddr 31 (.tmp 5) (.tmp 7), none⟩,
 ⟨some 10, .load 9 (.tmp 9), none⟩,
 ⟨some 4, .assign (.tmp 10), none⟩]
def r121_4 : List POp := [
 ⟨some 11, .move (.tmp 0), none⟩,
 ⟨some 12, .move (.tmp 4), none⟩,
 ⟨some 13, .call { callee := .value (.func 141), args := #[(.tmp 11), (.tmp 12)], argTypes := #[9, 9] }, none⟩]
def r121_5 : List POp := [
 ⟨some 14, .move (.tmp 4), none⟩,
 ⟨some 15, .build 133 #[(0, (.const (.int .i64 5))), (1, (.tmp 14))], none⟩,
 ⟨none, .store 133 (.tmp 2) (.tmp 15), none⟩]
def r121_6 : List POp := [
 ⟨some 16, .binOp .add 3 (.tmp 7) (.const (.int .i64 1)) 3, none⟩,
 ⟨some 7, .move (.tmp 16), none⟩]
noncomputable def b121_7 : PC := (.seq (.reg r121_2) (.seq (.cond (.tmp 8) .skip (.exit 0)) (.seq (.block 1 (.seq (.reg r121_3) (.seq (.reg r121_4) (.cond (.tmp 13) (.seq (.reg r121_5) .ret) .skip)))) (.reg r121_6))))
def r121_8 : List POp := [
 ⟨some 17, .move (.tmp 0), none⟩,
 ⟨some 18, .index 9 (.tmp 17) (.const (.int .i64 0)), none⟩,
 ⟨some 19, .binOp .eql 5 (.tmp 18) (.const (.int .u8 62)) 5, none⟩,
 ⟨some 20, .move (.tmp 19), none⟩,
 ⟨some 21, .move (.tmp 0), some (20, false)⟩,
 ⟨some 22, .index 9 (.tmp 21) (.const (.int .i64 0)), some (20, false)⟩,
 ⟨some 23, .binOp .eql 5 (.tmp 22) (.const (.int .u8 58)) 5, some (20, false)⟩,
 ⟨some 24, .pick (.tmp 20) (.const (.bool true)) (.tmp 23), none⟩]
def r121_9 : List POp := [
 ⟨some 25, .build 133 #[], none⟩,
 ⟨none, .store 133 (.tmp 2) (.tmp 25), none⟩]
def r121_10 : List POp := [
 ⟨some 26, .move (.tmp 0), none⟩,
 ⟨some 27, .slice 9 (.tmp 26) none (some (.const (.int .i64 1))) none, none⟩,
 ⟨some 28, .build 133 #[(0, (.const (.int .i64 5))), (1, (.tmp 27))], none⟩,
 ⟨none, .store 133 (.tmp 2) (.tmp 28), none⟩]
noncomputable def p121 : PC := (.seq (.reg r121_0) (.seq (.seq (.reg r121_1) (.block 0 (.loop b121_7))) (.seq (.seq (.reg r121_8) (.cond (.tmp 24) (.seq (.reg r121_9) .ret) .skip)) (.seq (.reg r121_10) .ret))))
theorem comp121 : (Tryz.f121.body.map (comp E Tryz.f121.ntmps)) = some p121 := by kernel_rfl
theorem ev121 : EvC 121 29 p121 [.cell 2 133] := fun hn h => ev_ends (fn := Tryz.f121) (by kernel_rfl) rfl comp121 (by kernel_rfl) (by kernel_rfl) hn h
def r133_0 : List POp := [
 ⟨some 2, .assign (.const (.bool false)), none⟩]
def r133_1 : List POp := [
 ⟨some 3, .move (.tmp 0), none⟩,
 ⟨some 4, .convert 21 145 (.tmp 3), none⟩,
 ⟨some 5, .binOp .leq 145 (.tmp 4) (.const (.int .u32 255)) 145, none⟩]
def r133_2 : List POp := [
 ⟨some 6, .move (.tmp 0), none⟩,
 ⟨some 7, .convert 21 5 (.tmp 6), none⟩,
 ⟨some 8, .indexAddr 174 (.global 2) (.tmp 7), none⟩,
 ⟨some 9, .load 5 (.tmp 8), none⟩,
 ⟨some 10, .binOp .and 5 (.tmp 9) (.const (.int .u8 96)) 5, none⟩,
 ⟨some 11, .binOp .neq 5 (.tmp 10) (.const (.int .u8 0)) 5, none⟩,
 ⟨some 2, .assign (.tmp 11), none⟩]
def r133_3 : List POp := [
 ⟨some 12, .load 176 (.global 3), none⟩,
 ⟨some 13, .move (.tmp 0), none⟩,
 ⟨some 14, .call { callee := .value (.func 145), args := #[(.tmp 12), (.tmp 13)], argTypes := #[176, 21] }, none⟩,
 ⟨some 2, .assign (.tmp 14), none⟩]
noncomputable def p133 : PC := (.seq (.reg r133_0) (.seq (.seq (.reg r133_1) (.cond (.tmp 5) (.seq (.reg r133_2) .ret) .skip)) (.seq (.reg r133_3) .ret)))
theorem comp133 : (Tryz.f133.body.map (comp E Tryz.f133.ntmps)) = some p133 := by kernel_rfl
theorem ev133 : EvC 133 15 p133 [.tmp 2] := fun hn h => ev_ends (fn := Tryz.f133) (by kernel_rfl) rfl comp133 (by kernel_rfl) (by kernel_rfl) hn h
def r135_0 : List POp := [
 ⟨some 2, .assign (.const (.bool false)), none⟩]
def r135_1 : List POp := [
 ⟨some 3, .move (.tmp 0), none⟩,
 ⟨some 4, .convert 21 145 (.tmp 3), none⟩,
 ⟨some 5, .binOp .leq 145 (.tmp 4) (.const (.int .u32 255)) 145, none⟩]
def r135_2 : List POp := [
 ⟨some 6, .move (.tmp 0), none⟩,
 ⟨some 7, .convert 21 5 (.tmp 6), none⟩,
 ⟨some 8, .indexAddr 174 (.global 2) (.tmp 7), none⟩,
 ⟨some 9, .load 5 (.tmp 8), none⟩,
 ⟨some 10, .binOp .and 5 (.tmp 9) (.const (.int .u8 96)) 5, none⟩,
 ⟨some 11, .binOp .eql 5 (.tmp 10) (.const (.int .u8 32)) 5, none⟩,
 ⟨some 2, .assign (.tmp 11), none⟩]
def r135_3 : List POp := [
 ⟨some 12, .load 176 (.global 4), none⟩,
 ⟨some 13, .move (.tmp 0), none⟩,
 ⟨some 14, .call { callee := .value (.func 145), args := #[(.tmp 12), (.tmp 13)], argTypes := #[176, 21] }, none⟩,
 ⟨some 2, .assign (.tmp 14), none⟩]
noncomputable def p135 : PC := (.seq (.reg r135_0) (.seq (.seq (.reg r135_1) (.cond (.tmp 5) (.seq (.reg r135_2) .ret) .skip)) (.seq (.reg r135_3) .ret)))
theorem comp135 : (Tryz.f135.body.map (comp E Tryz.f135.ntmps)) = some p135 := by kernel_rfl
theorem ev135 : EvC 135 15 p135 [.tmp 2] := fun hn h => ev_ends (fn := Tryz.f135) (by kernel_rfl) rfl comp135 (by kernel_rfl) (by kernel_rfl) hn h
def r138_0 : List POp := [
 ⟨some 2, .assign (.const (.bool false)), none⟩]
def r138_1 : List POp := [
 ⟨some 4, .move (.tmp 0), none⟩,
 ⟨some 5, .call { callee := .value (.func 116), args := #[(.tmp 4)], argTypes := #[21] }, none⟩,
 ⟨some 3, .assign (.tmp 5), none⟩]
def r138_2 : List POp := [
 ⟨some 6, .move (.tmp 3), none⟩,
 ⟨some 7, .binOp .eql 3 (.tmp 6) (.const (.int .i64 1)) 3, none⟩,
 ⟨some 8, .move (.tmp 7), none⟩,
 ⟨some 9, .move (.tmp 3), some (8, false)⟩,
 ⟨some 10, .binOp .eql 3 (.tmp 9) (.const (.int .i64 2)) 3, some (8, false)⟩,
 ⟨some 11, .pick (.tmp 8) (.const (.bool true)) (.tmp 10), none⟩,
 ⟨some 2, .assign (.tmp 11), none⟩]
noncomputable def p138 : PC := (.seq (.reg r138_0) (.seq (.reg r138_1) (.seq (.reg r138_2) .ret)))
theorem comp138 : (Tryz.f138.body.map (comp E Tryz.f138.ntmps)) = some p138 := by kernel_rfl
theorem ev138 : EvC 138 12 p138 [.tmp 2] := fun hn h => ev_ends (fn := Tryz.f138) (by kernel_rfl) rfl comp138 (by kernel_rfl) (by kernel_rfl) hn h
def r139_0 : List POp := [
 ⟨some 2, .assign (.const (.bool false)), none⟩]
def r139_1 : List POp := [
 ⟨some 5, .move (.tmp 0), none⟩,
 ⟨some 6, .range 9 (.tmp 5), none⟩]
def r139_2 : List POp := [
 ⟨some 7, .next (.tmp 6) true, none⟩,
 ⟨some 8, .extract (.tmp 7) 0, none⟩]
def r139_3 : List POp := [
 ⟨some 9, .extract (.tmp 7) 2, none⟩,
 ⟨some 4, .assign (.tmp 9), none⟩]
def r139_4 : List POp := [
 ⟨some 10, .move (.tmp 4), none⟩,
 ⟨some 11, .call { callee := .value (.func 135), args := #[(.tmp 10)], argTypes := #[21] }, none⟩,
 ⟨some 2, .assign (.tmp 11), none⟩]
noncomputable def b139_5 : PC := (.seq (.reg r139_2) (.seq (.cond (.tmp 8) .skip (.exit 0)) (.block 1 (.seq (.reg r139_3) (.seq (.reg r139_4) .ret)))))
def r139_6 : List POp := [
 ⟨some 2, .assign (.const (.bool false)), none⟩]
noncomputable def p139 : PC := (.seq (.reg r139_0) (.seq (.seq (.reg r139_1) (.block 0 (.loop b139_5))) (.seq (.reg r139_6) .ret)))
theorem comp139 : (Tryz.f139.body.map (comp E Tryz.f139.ntmps)) = some p139 := by kernel_rfl
theorem ev139 : EvC 139 12 p139 [.tmp 2] := fun hn h => ev_ends (fn := Tryz.f139) (by kernel_rfl) rfl comp139 (by kernel_rfl) (by kernel_rfl) hn h
def r140_0 : List POp := [
 ⟨some 2, .assign (.const (.bool false)), none⟩]
def r140_1 : List POp := [
 ⟨some 3, .move (.tmp 0), none⟩]
def r140_2 : List POp := [
 ⟨some 5, .binOp .eql 9 (.tmp 3) (.const (.string ⟨#[116, 121, 112, 101]⟩)) 9, none⟩,
 ⟨some 4, .assign (.tmp 5), none⟩]
def r140_3 : List POp := [
 ⟨some 6, .binOp .eql 9 (.tmp 3) (.const (.string ⟨#[111, 102]⟩)) 9, none⟩,
 ⟨some 4, .assign (.tmp 6), none⟩]
def r140_4 : List POp := [
 ⟨some 7, .binOp .eql 9 (.tmp 3) (.const (.string ⟨#[108, 101, 116]⟩)) 9, none⟩,
 ⟨some 4, .assign (.tmp 7), none⟩]
def r140_5 : List POp := [
 ⟨some 8, .binOp .eql 9 (.tmp 3) (.const (.string ⟨#[114, 101, 99]⟩)) 9, none⟩,
 ⟨some 4, .assign (.tmp 8), none⟩]
def r140_6 : List POp := [
 ⟨some 9, .binOp .eql 9 (.tmp 3) (.const (.string ⟨#[105, 110]⟩)) 9, none⟩,
 ⟨some 4, .assign (.tmp 9), none⟩]
def r140_7 : List POp := [
 ⟨some 10, .binOp .eql 9 (.tmp 3) (.const (.string ⟨#[102, 117, 110]⟩)) 9, none⟩,
 ⟨some 4, .assign (.tmp 10), none⟩]
def r140_8 : List POp := [
 ⟨some 11, .binOp .eql 9 (.tmp 3) (.const (.string ⟨#[105, 102]⟩)) 9, none⟩,
 ⟨some 4, .assign (.tmp 11), none⟩]
def r140_9 : List POp := [
 ⟨some 12, .binOp .eql 9 (.tmp 3) (.const (.string ⟨#[116, 104, 101, 110]⟩)) 9, none⟩,
 ⟨some 4, .assign (.tmp 12), none⟩]
def r140_10 : List POp := [
 ⟨some 13, .binOp .eql 9 (.tmp 3) (.const (.string ⟨#[101, 108, 115, 101]⟩)) 9, none⟩,
 ⟨some 4, .assign (.tmp 13), none⟩]
def r140_11 : List POp := [
 ⟨some 14, .binOp .eql 9 (.tmp 3) (.const (.string ⟨#[109, 97, 116, 99, 104]⟩)) 9, none⟩,
 ⟨some 4, .assign (.tmp 14), none⟩]
def r140_12 : List POp := [
 ⟨some 15, .binOp .eql 9 (.tmp 3) (.const (.string ⟨#[119, 105, 116, 104]⟩)) 9, none⟩,
 ⟨some 4, .assign (.tmp 15), none⟩]
def r140_13 : List POp := [
 ⟨some 16, .binOp .eql 9 (.tmp 3) (.const (.string ⟨#[101, 110, 100]⟩)) 9, none⟩,
 ⟨some 4, .assign (.tmp 16), none⟩]
def r140_14 : List POp := [
 ⟨some 17, .binOp .eql 9 (.tmp 3) (.const (.string ⟨#[114, 101, 102]⟩)) 9, none⟩,
 ⟨some 4, .assign (.tmp 17), none⟩]
def r140_15 : List POp := [
 ⟨some 18, .binOp .eql 9 (.tmp 3) (.const (.string ⟨#[112, 114, 105, 110, 116]⟩)) 9, none⟩,
 ⟨some 4, .assign (.tmp 18), none⟩]
def r140_16 : List POp := [
 ⟨some 19, .binOp .eql 9 (.tmp 3) (.const (.string ⟨#[114, 101, 97, 100]⟩)) 9, none⟩,
 ⟨some 4, .assign (.tmp 19), none⟩]
def r140_17 : List POp := [
 ⟨some 20, .binOp .eql 9 (.tmp 3) (.const (.string ⟨#[114, 97, 105, 115, 101]⟩)) 9, none⟩,
 ⟨some 4, .assign (.tmp 20), none⟩]
def r140_18 : List POp := [
 ⟨some 21, .binOp .eql 9 (.tmp 3) (.const (.string ⟨#[116, 114, 121]⟩)) 9, none⟩,
 ⟨some 4, .assign (.tmp 21), none⟩]
def r140_19 : List POp := [
 ⟨some 22, .binOp .eql 9 (.tmp 3) (.const (.string ⟨#[116, 114, 117, 101]⟩)) 9, none⟩,
 ⟨some 4, .assign (.tmp 22), none⟩]
def r140_20 : List POp := [
 ⟨some 23, .binOp .eql 9 (.tmp 3) (.const (.string ⟨#[102, 97, 108, 115, 101]⟩)) 9, none⟩,
 ⟨some 4, .assign (.tmp 23), none⟩]
def r140_21 : List POp := [
 ⟨some 2, .assign (.const (.bool true)), none⟩]
def r140_22 : List POp := [
 ⟨some 2, .assign (.const (.bool false)), none⟩]
noncomputable def p140 : PC := (.seq (.reg r140_0) (.seq (.seq (.reg r140_1) (.block 0 (.seq (.seq (.reg r140_2) (.cond (.tmp 4) .skip (.seq (.reg r140_3) (.cond (.tmp 4) .skip (.seq (.reg r140_4) (.cond (.tmp 4) .skip (.seq (.reg r140_5) (.cond (.tmp 4) .skip (.seq (.reg r140_6) (.cond (.tmp 4) .skip (.seq (.reg r140_7) (.cond (.tmp 4) .skip (.seq (.reg r140_8) (.cond (.tmp 4) .skip (.seq (.reg r140_9) (.cond (.tmp 4) .skip (.seq (.reg r140_10) (.cond (.tmp 4) .skip (.seq (.reg r140_11) (.cond (.tmp 4) .skip (.seq (.reg r140_12) (.cond (.tmp 4) .skip (.seq (.reg r140_13) (.cond (.tmp 4) .skip (.seq (.reg r140_14) (.cond (.tmp 4) .skip (.seq (.reg r140_15) (.cond (.tmp 4) .skip (.seq (.reg r140_16) (.cond (.tmp 4) .skip (.seq (.reg r140_17) (.cond (.tmp 4) .skip (.seq (.reg r140_18) (.cond (.tmp 4) .skip (.seq (.reg r140_19) (.cond (.tmp 4) .skip (.reg r140_20))))))))))))))))))))))))))))))))))))) (.cond (.tmp 4) (.seq (.reg r140_21) .ret) .skip)))) (.seq (.reg r140_22) .ret)))
theorem comp140 : (Tryz.f140.body.map (comp E Tryz.f140.ntmps)) = some p140 := by kernel_rfl
theorem ev140 : EvC 140 24 p140 [.tmp 2] := fun hn h => ev_ends (fn := Tryz.f140) (by kernel_rfl) rfl comp140 (by kernel_rfl) (by kernel_rfl) hn h
def r141_0 : List POp := [
 ⟨some 4, .assign (.const (.bool false)), none⟩]
def r141_1 : List POp := [
 ⟨some 5, .move (.tmp 0), none⟩,
 ⟨some 6, .move (.tmp 1), none⟩,
 ⟨some 7, .call { callee := .value (.func 146), args := #[(.tmp 5), (.tmp 6)], argTypes := #[9, 9] }, none⟩,
 ⟨some 4, .assign (.tmp 7), none⟩]
noncomputable def p141 : PC := (.seq (.reg r141_0) (.seq (.reg r141_1) .ret))
theorem comp141 : (Tryz.f141.body.map (comp E Tryz.f141.ntmps)) = some p141 := by kernel_rfl
theorem ev141 : EvC 141 8 p141 [.tmp 4] := fun hn h => ev_ends (fn := Tryz.f141) (by kernel_rfl) rfl comp141 (by kernel_rfl) (by kernel_rfl) hn h
def r146_0 : List POp := [
 ⟨some 4, .assign (.const (.bool false)), none⟩]
def r146_1 : List POp := [
 ⟨some 5, .move (.tmp 0), none⟩,
 ⟨some 6, .call { callee := .builtin .len, args := #[(.tmp 5)], argTypes := #[9] }, none⟩,
 ⟨some 7, .move (.tmp 1), none⟩,
 ⟨some 8, .call { callee := .builtin .len, args := #[(.tmp 7)], argTypes := #[9] }, none⟩,
 ⟨some 9, .binOp .geq 3 (.tmp 6) (.tmp 8) 3, none⟩,
 ⟨some 10, .move (.tmp 9), none⟩,
 ⟨some 11, .move (.tmp 0), some (10, true)⟩,
 ⟨some 12, .move (.tmp 1), some (10, true)⟩,
 ⟨some 13, .call { callee := .builtin .len, args := #[(.tmp 12)], argTypes := #[9] }, some (10, true)⟩,
 ⟨some 14, .slice 9 (.tmp 11) none (some (.tmp 13)) none, some (10, true)⟩,
 ⟨some 15, .move (.tmp 1), some (10, true)⟩,
 ⟨some 16, .binOp .eql 9 (.tmp 14) (.tmp 15) 9, some (10, true)⟩,
 ⟨some 17, .pick (.tmp 10) (.tmp 16) (.const (.bool false)), none⟩,
 ⟨some 4, .assign (.tmp 17), none⟩]
noncomputable def p146 : PC := (.seq (.reg r146_0) (.seq (.reg r146_1) .ret))
theorem comp146 : (Tryz.f146.body.map (comp E Tryz.f146.ntmps)) = some p146 := by kernel_rfl
theorem ev146 : EvC 146 18 p146 [.tmp 4] := fun hn h => ev_ends (fn := Tryz.f146) (by kernel_rfl) rfl comp146 (by kernel_rfl) (by kernel_rfl) hn h
end Go.Proofs.YtmmnkemcplgebaaGreatDoor
end
end
