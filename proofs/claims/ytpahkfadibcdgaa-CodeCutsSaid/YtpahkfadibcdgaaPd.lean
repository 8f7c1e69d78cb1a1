/-
  The compiled code of functions of this seat's program: written by program (wip/GenPC.lean); the kernel checks each row.
-/
import Derived.Test.YtpahkfadibcdgaaPc
set_option linter.unusedSimpArgs false
set_option linter.unusedVariables false
namespace Go.Proofs.Ytpahkfadibcdgaa
open Go.Abs
/-! hindsight/hindsightlaw14.awake -/
def r17_0 : List POp := [
  ⟨some 0, .assign (.const (.bool false)), none⟩]
def r17_1 : List POp := [
  ⟨some 5, .build 31 #[(0, (.const (.int .i64 5))), (2, (.const (.int .i64 (-1))))], none⟩,
  ⟨some 6, .call { callee := .value (.func 21), args := #[(.const (.slice none 0 0)), (.tmp 5)], argTypes := #[22, 31] }, none⟩,
  ⟨some 1, .assign (.tmp 6), none⟩]
def r17_2 : List POp := [
  ⟨some 8, .move (.tmp 1), none⟩,
  ⟨some 9, .call { callee := .value (.func 18), args := #[(.tmp 8)], argTypes := #[22] }, none⟩,
  ⟨some 7, .move (.tmp 9), none⟩,
  ⟨some 10, .extract (.tmp 7) 0, none⟩,
  ⟨some 11, .extract (.tmp 7) 1, none⟩,
  ⟨some 12, .extract (.tmp 7) 2, none⟩,
  ⟨some 2, .alloc 31, none⟩,
  ⟨none, .store 31 (.tmp 2) (.tmp 10), none⟩,
  ⟨some 3, .assign (.tmp 11), none⟩,
  ⟨some 4, .assign (.tmp 12), none⟩]
def r17_3 : List POp := [
  ⟨some 13, .move (.tmp 1), none⟩,
  ⟨some 14, .convert 22 9 (.tmp 13), none⟩,
  ⟨some 15, .binOp .eql 9 (.tmp 14) (.const (.string ⟨#[133, 1]⟩)) 9, none⟩,
  ⟨some 16, .move (.tmp 15), none⟩,
  ⟨some 17, .move (.tmp 4), some (16, true)⟩,
  ⟨some 18, .binOp .eql 24 (.tmp 17) (.const (.int .i64 0)) 24, some (16, true)⟩,
  ⟨some 19, .pick (.tmp 16) (.tmp 18) (.const (.bool false)), none⟩,
  ⟨some 20, .move (.tmp 19), none⟩,
  ⟨some 21, .move (.tmp 3), some (20, true)⟩,
  ⟨some 22, .binOp .eql 3 (.tmp 21) (.const (.int .i64 2)) 3, some (20, true)⟩,
  ⟨some 23, .pick (.tmp 20) (.tmp 22) (.const (.bool false)), none⟩,
  ⟨some 24, .move (.tmp 23), none⟩,
  ⟨some 25, .load 31 (.tmp 2), some (24, true)⟩,
  ⟨some 26, .build 31 #[(0, (.const (.int .i64 5))), (2, (.const (.int .i64 (-1))))], some (24, true)⟩,
  ⟨some 27, .binOp .eql 31 (.tmp 25) (.tmp 26) 31, some (24, true)⟩,
  ⟨some 28, .pick (.tmp 24) (.tmp 27) (.const (.bool false)), none⟩,
  ⟨some 29, .move (.tmp 28), none⟩,
  ⟨some 30, .load 31 (.tmp 2), some (29, true)⟩,
  ⟨some 31, .call { callee := .value (.func 25), args := #[(.tmp 30)], argTypes := #[31] }, some (29, true)⟩,
  ⟨some 32, .binOp .eql 3 (.tmp 31) (.const (.int .i64 2)) 3, some (29, true)⟩,
  ⟨some 33, .pick (.tmp 29) (.tmp 32) (.const (.bool false)), none⟩,
  ⟨some 0, .assign (.tmp 33), none⟩]
def p17 : PC := (.seq (.reg r17_0) (.seq (.reg r17_1) (.seq (.reg r17_2) (.seq (.reg r17_3) .ret))))
theorem comp17 : (Try.f17.body.map (comp E Try.f17.ntmps)) = some p17 := by kernel_rfl
theorem ev17 {args : List AV} {S : St} {P : AV → St → Prop} (hn : Nat.ble args.length 34 = true) (h : EndsA E 34 [.c p17] .nrm (initTm 0 args .leaf) S (RetQ E [.tmp 0] P)) : ∃ r S', EvA E 17 args S r S' ∧ P r S' := ev_ends (fn := Try.f17) (by kernel_rfl) rfl comp17 (by kernel_rfl) (by kernel_rfl) hn h
/-! hindsight/code.Get -/
def r18_0 : List POp := [
  ⟨some 2, .alloc 31, none⟩,
  ⟨some 3, .assign (.const (.int .i64 0)), none⟩,
  ⟨some 4, .assign (.const (.int .i64 0)), none⟩]
def r18_1 : List POp := [
  ⟨some 9, .move (.tmp 0), none⟩,
  ⟨some 10, .call { callee := .builtin .len, args := #[(.tmp 9)], argTypes := #[22] }, none⟩,
  ⟨some 11, .binOp .eql 3 (.tmp 10) (.const (.int .i64 0)) 3, none⟩]
def r18_2 : List POp := [
  ⟨some 12, .build 31 #[], none⟩,
  ⟨none, .store 31 (.tmp 2) (.tmp 12), none⟩,
  ⟨some 3, .assign (.const (.int .i64 0)), none⟩,
  ⟨some 4, .assign (.const (.int .i64 3)), none⟩]
def r18_3 : List POp := [
  ⟨some 13, .move (.tmp 0), none⟩,
  ⟨some 14, .indexAddr 22 (.tmp 13) (.const (.int .i64 0)), none⟩,
  ⟨some 15, .load 5 (.tmp 14), none⟩,
  ⟨some 16, .binOp .and 5 (.tmp 15) (.const (.int .u8 63)) 5, none⟩,
  ⟨some 17, .convert 5 3 (.tmp 16), none⟩,
  ⟨some 18, .fieldAddr 31 (.tmp 2) 0, none⟩,
  ⟨none, .store 3 (.tmp 18) (.tmp 17), none⟩,
  ⟨some 3, .assign (.const (.int .i64 1)), none⟩]
def r18_4 : List POp := [
  ⟨some 19, .fieldAddr 31 (.tmp 2) 1, none⟩,
  ⟨some 20, .build 59 #[(0, (.const (.int .u8 64))), (1, (.tmp 19))], none⟩,
  ⟨some 21, .fieldAddr 31 (.tmp 2) 2, none⟩,
  ⟨some 22, .build 59 #[(0, (.const (.int .u8 128))), (1, (.tmp 21))], none⟩,
  ⟨some 23, .buildSlice 60 2 #[(0, (.tmp 20)), (1, (.tmp 22))], none⟩,
  ⟨some 24, .call { callee := .builtin .len, args := #[(.tmp 23)], argTypes := #[60] }, none⟩,
  ⟨some 25, .move (.const (.int .i64 0)), none⟩]
def r18_5 : List POp := [
  ⟨some 26, .binOp .lss 3 (.tmp 25) (.tmp 24) 3, none⟩]
def r18_6 : List POp := [
  ⟨some 27, .indexAddr 60 (.tmp 23) (.tmp 25), none⟩,
  ⟨some 28, .load 59 (.tmp 27), none⟩,
  ⟨some 6, .alloc 59, none⟩,
  ⟨none, .store 59 (.tmp 6) (.tmp 28), none⟩]
def r18_7 : List POp := [
  ⟨some 29, .move (.tmp 0), none⟩,
  ⟨some 30, .indexAddr 22 (.tmp 29) (.const (.int .i64 0)), none⟩,
  ⟨some 31, .load 5 (.tmp 30), none⟩,
  ⟨some 32, .fieldAddr 59 (.tmp 6) 0, none⟩,
  ⟨some 33, .load 5 (.tmp 32), none⟩,
  ⟨some 34, .binOp .and 5 (.tmp 31) (.tmp 33) 5, none⟩,
  ⟨some 35, .binOp .eql 5 (.tmp 34) (.const (.int .u8 0)) 5, none⟩]
def r18_8 : List POp := [
  ⟨some 37, .move (.tmp 0), none⟩,
  ⟨some 38, .move (.tmp 3), none⟩,
  ⟨some 39, .slice 22 (.tmp 37) (some (.tmp 38)) none none, none⟩,
  ⟨some 40, .call { callee := .value (.func 29), args := #[(.tmp 39)], argTypes := #[22] }, none⟩,
  ⟨some 36, .move (.tmp 40), none⟩,
  ⟨some 41, .extract (.tmp 36) 0, none⟩,
  ⟨some 42, .extract (.tmp 36) 1, none⟩,
  ⟨some 7, .assign (.tmp 41), none⟩,
  ⟨some 8, .assign (.tmp 42), none⟩]
def r18_9 : List POp := [
  ⟨some 43, .move (.tmp 8), none⟩,
  ⟨some 44, .binOp .eql 3 (.tmp 43) (.const (.int .i64 0)) 3, none⟩,
  ⟨some 45, .move (.tmp 44), none⟩,
  ⟨some 46, .move (.tmp 7), some (45, false)⟩,
  ⟨some 47, .binOp .eql 2 (.tmp 46) (.const (.int .i64 0)) 2, some (45, false)⟩,
  ⟨some 48, .pick (.tmp 45) (.const (.bool true)) (.tmp 47), none⟩]
def r18_10 : List POp := [
  ⟨some 49, .build 31 #[], none⟩,
  ⟨none, .store 31 (.tmp 2) (.tmp 49), none⟩,
  ⟨some 3, .assign (.const (.int .i64 0)), none⟩,
  ⟨some 4, .assign (.const (.int .i64 3)), none⟩]
def r18_11 : List POp := [
  ⟨some 50, .fieldAddr 59 (.tmp 6) 1, none⟩,
  ⟨some 51, .load 58 (.tmp 50), none⟩,
  ⟨some 52, .move (.tmp 7), none⟩,
  ⟨some 53, .nilCheck (.tmp 51), none⟩,
  ⟨none, .store 2 (.tmp 53) (.tmp 52), none⟩]
def r18_12 : List POp := [
  ⟨some 54, .move (.tmp 3), none⟩,
  ⟨some 55, .move (.tmp 8), none⟩,
  ⟨some 56, .binOp .add 3 (.tmp 54) (.tmp 55) 3, none⟩,
  ⟨some 3, .assign (.tmp 56), none⟩]
def r18_13 : List POp := [
  ⟨some 57, .binOp .add 3 (.tmp 25) (.const (.int .i64 1)) 3, none⟩,
  ⟨some 25, .move (.tmp 57), none⟩]
def b18_14 : PC := (.seq (.reg r18_5) (.seq (.cond (.tmp 26) .skip (.exit 0)) (.seq (.block 1 (.seq (.reg r18_6) (.seq (.seq (.regD 7 r18_7) (.cond (.tmp 35) (.exit 1) .skip)) (.seq (.reg r18_8) (.seq (.seq (.reg r18_9) (.cond (.tmp 48) (.seq (.reg r18_10) .ret) .skip)) (.seq (.reg r18_11) (.reg r18_12))))))) (.reg r18_13))))
def r18_15 : List POp := [
  ⟨some 58, .load 31 (.tmp 2), none⟩,
  ⟨some 59, .move (.tmp 3), none⟩,
  ⟨none, .store 31 (.tmp 2) (.tmp 58), none⟩,
  ⟨some 3, .assign (.tmp 59), none⟩,
  ⟨some 4, .assign (.const (.int .i64 0)), none⟩]
def p18 : PC := (.seq (.reg r18_0) (.seq (.seq (.reg r18_1) (.cond (.tmp 11) (.seq (.reg r18_2) .ret) .skip)) (.seq (.reg r18_3) (.seq (.seq (.reg r18_4) (.block 0 (.loop b18_14))) (.seq (.reg r18_15) .ret)))))
theorem comp18 : (Try.f18.body.map (comp E Try.f18.ntmps)) = some p18 := by kernel_rfl
theorem ev18 {args : List AV} {S : St} {P : AV → St → Prop} (hn : Nat.ble args.length 60 = true) (h : EndsA E 60 [.c p18] .nrm (initTm 0 args .leaf) S (RetQ E [.cell 2 31, .tmp 3, .tmp 4] P)) : ∃ r S', EvA E 18 args S r S' ∧ P r S' := ev_ends (fn := Try.f18) (by kernel_rfl) rfl comp18 (by kernel_rfl) (by kernel_rfl) hn h
/-! hindsight/code.All -/
def r19_0 : List POp := [
  ⟨some 2, .assign (.const (.slice none 0 0)), none⟩,
  ⟨some 3, .assign (.const (.int .i64 0)), none⟩]
def r19_1 : List POp := [
  ⟨some 4, .assign (.const (.slice none 0 0)), none⟩]
def r19_2 : List POp := [
  ⟨some 8, .move (.tmp 0), none⟩,
  ⟨some 9, .call { callee := .builtin .len, args := #[(.tmp 8)], argTypes := #[22] }, none⟩,
  ⟨some 10, .binOp .gtr 3 (.tmp 9) (.const (.int .i64 0)) 3, none⟩]
def r19_3 : List POp := [
  ⟨some 12, .move (.tmp 0), none⟩,
  ⟨some 13, .call { callee := .value (.func 18), args := #[(.tmp 12)], argTypes := #[22] }, none⟩,
  ⟨some 11, .move (.tmp 13), none⟩,
  ⟨some 14, .extract (.tmp 11) 0, none⟩,
  ⟨some 15, .extract (.tmp 11) 1, none⟩,
  ⟨some 16, .extract (.tmp 11) 2, none⟩,
  ⟨some 5, .alloc 31, none⟩,
  ⟨none, .store 31 (.tmp 5) (.tmp 14), none⟩,
  ⟨some 6, .assign (.tmp 15), none⟩,
  ⟨some 7, .assign (.tmp 16), none⟩]
def r19_4 : List POp := [
  ⟨some 17, .move (.tmp 7), none⟩,
  ⟨some 18, .binOp .neq 24 (.tmp 17) (.const (.int .i64 0)) 24, none⟩]
def r19_5 : List POp := [
  ⟨some 19, .move (.tmp 7), none⟩,
  ⟨some 2, .assign (.const (.slice none 0 0)), none⟩,
  ⟨some 3, .assign (.tmp 19), none⟩]
def r19_6 : List POp := [
  ⟨some 20, .move (.tmp 4), none⟩,
  ⟨some 21, .load 31 (.tmp 5), none⟩,
  ⟨some 22, .buildSlice 34 1 #[(0, (.tmp 21))], none⟩,
  ⟨some 23, .call { callee := .builtin .append, args := #[(.tmp 20), (.tmp 22)], argTypes := #[34, 34] }, none⟩,
  ⟨some 4, .assign (.tmp 23), none⟩]
def r19_7 : List POp := [
  ⟨some 24, .move (.tmp 0), none⟩,
  ⟨some 25, .move (.tmp 6), none⟩,
  ⟨some 26, .slice 22 (.tmp 24) (some (.tmp 25)) none none, none⟩,
  ⟨some 0, .assign (.tmp 26), none⟩]
def b19_8 : PC := (.seq (.seq (.reg r19_2) (.cond (.tmp 10) .skip (.exit 0))) (.block 1 (.seq (.reg r19_3) (.seq (.seq (.reg r19_4) (.cond (.tmp 18) (.seq (.reg r19_5) .ret) .skip)) (.seq (.reg r19_6) (.reg r19_7))))))
def r19_9 : List POp := [
  ⟨some 27, .move (.tmp 4), none⟩,
  ⟨some 28, .call { callee := .builtin .len, args := #[(.tmp 27)], argTypes := #[34] }, none⟩,
  ⟨some 29, .binOp .gtr 3 (.tmp 28) (.const (.int .i64 100000)) 3, none⟩]
def r19_10 : List POp := [
  ⟨some 2, .assign (.const (.slice none 0 0)), none⟩,
  ⟨some 3, .assign (.const (.int .i64 2)), none⟩]
def r19_11 : List POp := [
  ⟨some 30, .move (.tmp 4), none⟩,
  ⟨some 2, .assign (.tmp 30), none⟩,
  ⟨some 3, .assign (.const (.int .i64 0)), none⟩]
def p19 : PC := (.seq (.reg r19_0) (.seq (.reg r19_1) (.seq (.block 0 (.loop b19_8)) (.seq (.seq (.reg r19_9) (.cond (.tmp 29) (.seq (.reg r19_10) .ret) .skip)) (.seq (.reg r19_11) .ret)))))
theorem comp19 : (Try.f19.body.map (comp E Try.f19.ntmps)) = some p19 := by kernel_rfl
theorem ev19 {args : List AV} {S : St} {P : AV → St → Prop} (hn : Nat.ble args.length 31 = true) (h : EndsA E 31 [.c p19] .nrm (initTm 0 args .leaf) S (RetQ E [.tmp 2, .tmp 3] P)) : ∃ r S', EvA E 19 args S r S' ∧ P r S' := ev_ends (fn := Try.f19) (by kernel_rfl) rfl comp19 (by kernel_rfl) (by kernel_rfl) hn h
/-! hindsight/code.Good -/
def r20_0 : List POp := [
  ⟨some 1, .box 31 (.tmp 0), none⟩,
  ⟨some 2, .assign (.const (.bool false)), none⟩]
def r20_1 : List POp := [
  ⟨some 3, .fieldAddr 31 (.tmp 1) 0, none⟩,
  ⟨some 4, .load 3 (.tmp 3), none⟩,
  ⟨some 5, .binOp .geq 3 (.tmp 4) (.const (.int .i64 0)) 3, none⟩,
  ⟨some 6, .move (.tmp 5), none⟩,
  ⟨some 7, .fieldAddr 31 (.tmp 1) 0, some (6, true)⟩,
  ⟨some 8, .load 3 (.tmp 7), some (6, true)⟩,
  ⟨some 9, .binOp .leq 3 (.tmp 8) (.const (.int .i64 63)) 3, some (6, true)⟩,
  ⟨some 10, .pick (.tmp 6) (.tmp 9) (.const (.bool false)), none⟩,
  ⟨some 2, .assign (.tmp 10), none⟩]
def p20 : PC := (.seq (.reg r20_0) (.seq (.reg r20_1) .ret))
theorem comp20 : (Try.f20.body.map (comp E Try.f20.ntmps)) = some p20 := by kernel_rfl
theorem ev20 {args : List AV} {S : St} {P : AV → St → Prop} (hn : Nat.ble args.length 11 = true) (h : EndsA E 11 [.c p20] .nrm (initTm 0 args .leaf) S (RetQ E [.tmp 2] P)) : ∃ r S', EvA E 20 args S r S' ∧ P r S' := ev_ends (fn := Try.f20) (by kernel_rfl) rfl comp20 (by kernel_rfl) (by kernel_rfl) hn h
/-! hindsight/code.Put -/
def r21_0 : List POp := [
  ⟨some 3, .box 31 (.tmp 1), none⟩,
  ⟨some 4, .assign (.const (.slice none 0 0)), none⟩]
def r21_1 : List POp := [
  ⟨some 7, .move (.tmp 0), none⟩,
  ⟨some 8, .call { callee := .value (.func 30), args := #[(.tmp 7)], argTypes := #[22] }, none⟩,
  ⟨some 5, .assign (.tmp 8), none⟩]
def r21_2 : List POp := [
  ⟨some 9, .load 31 (.tmp 3), none⟩,
  ⟨some 10, .call { callee := .value (.func 20), args := #[(.tmp 9)], argTypes := #[31] }, none⟩,
  ⟨some 11, .unOp .not 4 (.tmp 10), none⟩]
def r21_3 : List POp := [
  ⟨some 12, .move (.tmp 5), none⟩,
  ⟨some 4, .assign (.tmp 12), none⟩]
def r21_4 : List POp := [
  ⟨some 13, .fieldAddr 31 (.tmp 3) 0, none⟩,
  ⟨some 14, .load 3 (.tmp 13), none⟩,
  ⟨some 15, .convert 3 5 (.tmp 14), none⟩,
  ⟨some 6, .assign (.tmp 15), none⟩]
def r21_5 : List POp := [
  ⟨some 16, .fieldAddr 31 (.tmp 3) 1, none⟩,
  ⟨some 17, .load 2 (.tmp 16), none⟩,
  ⟨some 18, .binOp .neq 2 (.tmp 17) (.const (.int .i64 0)) 2, none⟩]
def r21_6 : List POp := [
  ⟨some 19, .move (.tmp 6), none⟩,
  ⟨some 20, .binOp .or 5 (.tmp 19) (.const (.int .u8 64)) 5, none⟩,
  ⟨some 6, .assign (.tmp 20), none⟩]
def r21_7 : List POp := [
  ⟨some 21, .fieldAddr 31 (.tmp 3) 2, none⟩,
  ⟨some 22, .load 2 (.tmp 21), none⟩,
  ⟨some 23, .binOp .neq 2 (.tmp 22) (.const (.int .i64 0)) 2, none⟩]
def r21_8 : List POp := [
  ⟨some 24, .move (.tmp 6), none⟩,
  ⟨some 25, .binOp .or 5 (.tmp 24) (.const (.int .u8 128)) 5, none⟩,
  ⟨some 6, .assign (.tmp 25), none⟩]
def r21_9 : List POp := [
  ⟨some 26, .move (.tmp 5), none⟩,
  ⟨some 27, .move (.tmp 6), none⟩,
  ⟨some 28, .buildSlice 22 1 #[(0, (.tmp 27))], none⟩,
  ⟨some 29, .call { callee := .builtin .append, args := #[(.tmp 26), (.tmp 28)], argTypes := #[22, 22] }, none⟩,
  ⟨some 5, .assign (.tmp 29), none⟩]
def r21_10 : List POp := [
  ⟨some 30, .fieldAddr 31 (.tmp 3) 1, none⟩,
  ⟨some 31, .load 2 (.tmp 30), none⟩,
  ⟨some 32, .binOp .neq 2 (.tmp 31) (.const (.int .i64 0)) 2, none⟩]
def r21_11 : List POp := [
  ⟨some 33, .move (.tmp 5), none⟩,
  ⟨some 34, .fieldAddr 31 (.tmp 3) 1, none⟩,
  ⟨some 35, .load 2 (.tmp 34), none⟩,
  ⟨some 36, .call { callee := .value (.func 31), args := #[(.tmp 33), (.tmp 35)], argTypes := #[22, 2] }, none⟩,
  ⟨some 5, .assign (.tmp 36), none⟩]
def r21_12 : List POp := [
  ⟨some 37, .fieldAddr 31 (.tmp 3) 2, none⟩,
  ⟨some 38, .load 2 (.tmp 37), none⟩,
  ⟨some 39, .binOp .neq 2 (.tmp 38) (.const (.int .i64 0)) 2, none⟩]
def r21_13 : List POp := [
  ⟨some 40, .move (.tmp 5), none⟩,
  ⟨some 41, .fieldAddr 31 (.tmp 3) 2, none⟩,
  ⟨some 42, .load 2 (.tmp 41), none⟩,
  ⟨some 43, .call { callee := .value (.func 31), args := #[(.tmp 40), (.tmp 42)], argTypes := #[22, 2] }, none⟩,
  ⟨some 5, .assign (.tmp 43), none⟩]
def r21_14 : List POp := [
  ⟨some 44, .move (.tmp 5), none⟩,
  ⟨some 4, .assign (.tmp 44), none⟩]
def p21 : PC := (.seq (.reg r21_0) (.seq (.reg r21_1) (.seq (.seq (.reg r21_2) (.cond (.tmp 11) (.seq (.reg r21_3) .ret) .skip)) (.seq (.reg r21_4) (.seq (.seq (.reg r21_5) (.cond (.tmp 18) (.reg r21_6) .skip)) (.seq (.seq (.reg r21_7) (.cond (.tmp 23) (.reg r21_8) .skip)) (.seq (.reg r21_9) (.seq (.seq (.reg r21_10) (.cond (.tmp 32) (.reg r21_11) .skip)) (.seq (.seq (.reg r21_12) (.cond (.tmp 39) (.reg r21_13) .skip)) (.seq (.reg r21_14) .ret))))))))))
theorem comp21 : (Try.f21.body.map (comp E Try.f21.ntmps)) = some p21 := by kernel_rfl
theorem ev21 {args : List AV} {S : St} {P : AV → St → Prop} (hn : Nat.ble args.length 45 = true) (h : EndsA E 45 [.c p21] .nrm (initTm 0 args .leaf) S (RetQ E [.tmp 4] P)) : ∃ r S', EvA E 21 args S r S' ∧ P r S' := ev_ends (fn := Try.f21) (by kernel_rfl) rfl comp21 (by kernel_rfl) (by kernel_rfl) hn h
/-! hindsight/hindsightref11.PutInstr -/
def r22_0 : List POp := [
  ⟨some 3, .box 40 (.tmp 1), none⟩,
  ⟨some 4, .assign (.const (.slice none 0 0)), none⟩]
def r22_1 : List POp := [
  ⟨some 6, .buildSlice 22 0 #[], none⟩,
  ⟨some 7, .move (.tmp 0), none⟩,
  ⟨some 8, .call { callee := .builtin .append, args := #[(.tmp 6), (.tmp 7)], argTypes := #[22, 22] }, none⟩,
  ⟨some 0, .assign (.tmp 8), none⟩]
def r22_2 : List POp := [
  ⟨some 9, .fieldAddr 40 (.tmp 3) 0, none⟩,
  ⟨some 10, .load 3 (.tmp 9), none⟩,
  ⟨some 11, .binOp .lss 3 (.tmp 10) (.const (.int .i64 0)) 3, none⟩,
  ⟨some 12, .move (.tmp 11), none⟩,
  ⟨some 13, .fieldAddr 40 (.tmp 3) 0, some (12, false)⟩,
  ⟨some 14, .load 3 (.tmp 13), some (12, false)⟩,
  ⟨some 15, .binOp .gtr 3 (.tmp 14) (.const (.int .i64 63)) 3, some (12, false)⟩,
  ⟨some 16, .pick (.tmp 12) (.const (.bool true)) (.tmp 15), none⟩]
def r22_3 : List POp := [
  ⟨some 17, .move (.tmp 0), none⟩,
  ⟨some 4, .assign (.tmp 17), none⟩]
def r22_4 : List POp := [
  ⟨some 18, .fieldAddr 40 (.tmp 3) 0, none⟩,
  ⟨some 19, .load 3 (.tmp 18), none⟩,
  ⟨some 20, .convert 3 5 (.tmp 19), none⟩,
  ⟨some 5, .assign (.tmp 20), none⟩]
def r22_5 : List POp := [
  ⟨some 21, .fieldAddr 40 (.tmp 3) 1, none⟩,
  ⟨some 22, .load 2 (.tmp 21), none⟩,
  ⟨some 23, .binOp .neq 2 (.tmp 22) (.const (.int .i64 0)) 2, none⟩]
def r22_6 : List POp := [
  ⟨some 24, .move (.tmp 5), none⟩,
  ⟨some 25, .binOp .add 5 (.tmp 24) (.const (.int .u8 64)) 5, none⟩,
  ⟨some 5, .assign (.tmp 25), none⟩]
def r22_7 : List POp := [
  ⟨some 26, .fieldAddr 40 (.tmp 3) 2, none⟩,
  ⟨some 27, .load 2 (.tmp 26), none⟩,
  ⟨some 28, .binOp .neq 2 (.tmp 27) (.const (.int .i64 0)) 2, none⟩]
def r22_8 : List POp := [
  ⟨some 29, .move (.tmp 5), none⟩,
  ⟨some 30, .binOp .add 5 (.tmp 29) (.const (.int .u8 128)) 5, none⟩,
  ⟨some 5, .assign (.tmp 30), none⟩]
def r22_9 : List POp := [
  ⟨some 31, .move (.tmp 0), none⟩,
  ⟨some 32, .move (.tmp 5), none⟩,
  ⟨some 33, .buildSlice 22 1 #[(0, (.tmp 32))], none⟩,
  ⟨some 34, .call { callee := .builtin .append, args := #[(.tmp 31), (.tmp 33)], argTypes := #[22, 22] }, none⟩,
  ⟨some 0, .assign (.tmp 34), none⟩]
def r22_10 : List POp := [
  ⟨some 35, .fieldAddr 40 (.tmp 3) 1, none⟩,
  ⟨some 36, .load 2 (.tmp 35), none⟩,
  ⟨some 37, .binOp .neq 2 (.tmp 36) (.const (.int .i64 0)) 2, none⟩]
def r22_11 : List POp := [
  ⟨some 38, .move (.tmp 0), none⟩,
  ⟨some 39, .fieldAddr 40 (.tmp 3) 1, none⟩,
  ⟨some 40, .load 2 (.tmp 39), none⟩,
  ⟨some 41, .call { callee := .value (.func 33), args := #[(.tmp 40)], argTypes := #[2] }, none⟩,
  ⟨some 42, .call { callee := .value (.func 32), args := #[(.tmp 38), (.tmp 41)], argTypes := #[22, 27] }, none⟩,
  ⟨some 0, .assign (.tmp 42), none⟩]
def r22_12 : List POp := [
  ⟨some 43, .fieldAddr 40 (.tmp 3) 2, none⟩,
  ⟨some 44, .load 2 (.tmp 43), none⟩,
  ⟨some 45, .binOp .neq 2 (.tmp 44) (.const (.int .i64 0)) 2, none⟩]
def r22_13 : List POp := [
  ⟨some 46, .move (.tmp 0), none⟩,
  ⟨some 47, .fieldAddr 40 (.tmp 3) 2, none⟩,
  ⟨some 48, .load 2 (.tmp 47), none⟩,
  ⟨some 49, .call { callee := .value (.func 33), args := #[(.tmp 48)], argTypes := #[2] }, none⟩,
  ⟨some 50, .call { callee := .value (.func 32), args := #[(.tmp 46), (.tmp 49)], argTypes := #[22, 27] }, none⟩,
  ⟨some 0, .assign (.tmp 50), none⟩]
def r22_14 : List POp := [
  ⟨some 51, .move (.tmp 0), none⟩,
  ⟨some 4, .assign (.tmp 51), none⟩]
def p22 : PC := (.seq (.reg r22_0) (.seq (.reg r22_1) (.seq (.seq (.reg r22_2) (.cond (.tmp 16) (.seq (.reg r22_3) .ret) .skip)) (.seq (.reg r22_4) (.seq (.seq (.reg r22_5) (.cond (.tmp 23) (.reg r22_6) .skip)) (.seq (.seq (.reg r22_7) (.cond (.tmp 28) (.reg r22_8) .skip)) (.seq (.reg r22_9) (.seq (.seq (.reg r22_10) (.cond (.tmp 37) (.reg r22_11) .skip)) (.seq (.seq (.reg r22_12) (.cond (.tmp 45) (.reg r22_13) .skip)) (.seq (.reg r22_14) .ret))))))))))
theorem comp22 : (Try.f22.body.map (comp E Try.f22.ntmps)) = some p22 := by kernel_rfl
theorem ev22 {args : List AV} {S : St} {P : AV → St → Prop} (hn : Nat.ble args.length 52 = true) (h : EndsA E 52 [.c p22] .nrm (initTm 0 args .leaf) S (RetQ E [.tmp 4] P)) : ∃ r S', EvA E 22 args S r S' ∧ P r S' := ev_ends (fn := Try.f22) (by kernel_rfl) rfl comp22 (by kernel_rfl) (by kernel_rfl) hn h
/-! hindsight/hindsightref11.GetInstr -/
def r23_0 : List POp := [
  ⟨some 2, .alloc 40, none⟩,
  ⟨some 3, .assign (.const (.int .i64 0)), none⟩]
def r23_1 : List POp := [
  ⟨some 10, .move (.tmp 0), none⟩,
  ⟨some 11, .call { callee := .builtin .len, args := #[(.tmp 10)], argTypes := #[22] }, none⟩,
  ⟨some 12, .binOp .eql 3 (.tmp 11) (.const (.int .i64 0)) 3, none⟩]
def r23_2 : List POp := [
  ⟨some 13, .build 40 #[], none⟩,
  ⟨none, .store 40 (.tmp 2) (.tmp 13), none⟩,
  ⟨some 3, .assign (.const (.int .i64 0)), none⟩]
def r23_3 : List POp := [
  ⟨some 14, .move (.tmp 0), none⟩,
  ⟨some 15, .indexAddr 22 (.tmp 14) (.const (.int .i64 0)), none⟩,
  ⟨some 16, .load 5 (.tmp 15), none⟩,
  ⟨some 17, .binOp .and 5 (.tmp 16) (.const (.int .u8 63)) 5, none⟩,
  ⟨some 18, .convert 5 3 (.tmp 17), none⟩,
  ⟨some 19, .build 40 #[(0, (.tmp 18))], none⟩,
  ⟨some 4, .alloc 40, none⟩,
  ⟨none, .store 40 (.tmp 4) (.tmp 19), none⟩]
def r23_4 : List POp := [
  ⟨some 5, .assign (.const (.int .i64 1)), none⟩]
def r23_5 : List POp := [
  ⟨some 6, .assign (.const (.int .i64 0)), none⟩]
def r23_6 : List POp := [
  ⟨some 20, .move (.tmp 6), none⟩,
  ⟨some 21, .binOp .lss 3 (.tmp 20) (.const (.int .i64 2)) 3, none⟩]
def r23_7 : List POp := [
  ⟨some 24, .move (.tmp 0), none⟩,
  ⟨some 25, .indexAddr 22 (.tmp 24) (.const (.int .i64 0)), none⟩,
  ⟨some 26, .load 5 (.tmp 25), none⟩,
  ⟨some 27, .move (.tmp 6), none⟩,
  ⟨some 28, .convert 3 67 (.tmp 27), none⟩,
  ⟨some 29, .binOp .shl 5 (.const (.int .u8 64)) (.tmp 28) 67, none⟩,
  ⟨some 30, .binOp .and 5 (.tmp 26) (.tmp 29) 5, none⟩,
  ⟨some 31, .binOp .eql 5 (.tmp 30) (.const (.int .u8 0)) 5, none⟩]
def r23_8 : List POp := [
  ⟨some 33, .move (.tmp 0), none⟩,
  ⟨some 34, .move (.tmp 5), none⟩,
  ⟨some 35, .slice 22 (.tmp 33) (some (.tmp 34)) none none, none⟩,
  ⟨some 36, .call { callee := .value (.func 28), args := #[(.tmp 35)], argTypes := #[22] }, none⟩,
  ⟨some 32, .move (.tmp 36), none⟩,
  ⟨some 37, .extract (.tmp 32) 0, none⟩,
  ⟨some 38, .extract (.tmp 32) 1, none⟩,
  ⟨some 7, .assign (.tmp 37), none⟩,
  ⟨some 8, .assign (.tmp 38), none⟩]
def r23_9 : List POp := [
  ⟨some 39, .move (.tmp 8), none⟩,
  ⟨some 40, .binOp .eql 3 (.tmp 39) (.const (.int .i64 0)) 3, none⟩,
  ⟨some 41, .move (.tmp 40), none⟩,
  ⟨some 42, .move (.tmp 7), some (41, false)⟩,
  ⟨some 43, .binOp .eql 27 (.tmp 42) (.const (.int .u64 0)) 27, some (41, false)⟩,
  ⟨some 44, .pick (.tmp 41) (.const (.bool true)) (.tmp 43), none⟩]
def r23_10 : List POp := [
  ⟨some 45, .build 40 #[], none⟩,
  ⟨none, .store 40 (.tmp 2) (.tmp 45), none⟩,
  ⟨some 3, .assign (.const (.int .i64 0)), none⟩]
def r23_11 : List POp := [
  ⟨some 46, .move (.tmp 7), none⟩,
  ⟨some 47, .binOp .shr 27 (.tmp 46) (.const (.int .u64 1)) 67, none⟩,
  ⟨some 48, .convert 27 2 (.tmp 47), none⟩,
  ⟨some 9, .assign (.tmp 48), none⟩]
def r23_12 : List POp := [
  ⟨some 49, .move (.tmp 7), none⟩,
  ⟨some 50, .binOp .rem 27 (.tmp 49) (.const (.int .u64 2)) 27, none⟩,
  ⟨some 51, .binOp .eql 27 (.tmp 50) (.const (.int .u64 1)) 27, none⟩]
def r23_13 : List POp := [
  ⟨some 52, .move (.tmp 9), none⟩,
  ⟨some 53, .binOp .sub 2 (.const (.int .i64 (-1))) (.tmp 52) 2, none⟩,
  ⟨some 9, .assign (.tmp 53), none⟩]
def r23_14 : List POp := [
  ⟨some 54, .move (.tmp 6), none⟩,
  ⟨some 55, .binOp .eql 3 (.tmp 54) (.const (.int .i64 0)) 3, none⟩]
def r23_15 : List POp := [
  ⟨some 56, .move (.tmp 9), none⟩,
  ⟨some 57, .fieldAddr 40 (.tmp 4) 1, none⟩,
  ⟨none, .store 2 (.tmp 57) (.tmp 56), none⟩]
def r23_16 : List POp := [
  ⟨some 58, .move (.tmp 9), none⟩,
  ⟨some 59, .fieldAddr 40 (.tmp 4) 2, none⟩,
  ⟨none, .store 2 (.tmp 59) (.tmp 58), none⟩]
def r23_17 : List POp := [
  ⟨some 60, .move (.tmp 5), none⟩,
  ⟨some 61, .move (.tmp 8), none⟩,
  ⟨some 62, .binOp .add 3 (.tmp 60) (.tmp 61) 3, none⟩,
  ⟨some 5, .assign (.tmp 62), none⟩]
def r23_18 : List POp := [
  ⟨some 22, .move (.tmp 6), none⟩,
  ⟨some 23, .binOp .add 3 (.tmp 22) (.const (.int .i64 1)) 3, none⟩,
  ⟨some 6, .assign (.tmp 23), none⟩]
def b23_19 : PC := (.seq (.seq (.reg r23_6) (.cond (.tmp 21) .skip (.exit 0))) (.seq (.block 1 (.seq (.seq (.reg r23_7) (.cond (.tmp 31) (.exit 1) .skip)) (.seq (.reg r23_8) (.seq (.seq (.reg r23_9) (.cond (.tmp 44) (.seq (.reg r23_10) .ret) .skip)) (.seq (.reg r23_11) (.seq (.seq (.reg r23_12) (.cond (.tmp 51) (.reg r23_13) .skip)) (.seq (.seq (.reg r23_14) (.cond (.tmp 55) (.reg r23_15) (.reg r23_16))) (.reg r23_17)))))))) (.reg r23_18)))
def r23_20 : List POp := [
  ⟨some 63, .load 40 (.tmp 4), none⟩,
  ⟨some 64, .move (.tmp 5), none⟩,
  ⟨none, .store 40 (.tmp 2) (.tmp 63), none⟩,
  ⟨some 3, .assign (.tmp 64), none⟩]
def p23 : PC := (.seq (.reg r23_0) (.seq (.seq (.reg r23_1) (.cond (.tmp 12) (.seq (.reg r23_2) .ret) .skip)) (.seq (.reg r23_3) (.seq (.reg r23_4) (.seq (.seq (.reg r23_5) (.block 0 (.loop b23_19))) (.seq (.reg r23_20) .ret))))))
theorem comp23 : (Try.f23.body.map (comp E Try.f23.ntmps)) = some p23 := by kernel_rfl
theorem ev23 {args : List AV} {S : St} {P : AV → St → Prop} (hn : Nat.ble args.length 65 = true) (h : EndsA E 65 [.c p23] .nrm (initTm 0 args .leaf) S (RetQ E [.cell 2 40, .tmp 3] P)) : ∃ r S', EvA E 23 args S r S' ∧ P r S' := ev_ends (fn := Try.f23) (by kernel_rfl) rfl comp23 (by kernel_rfl) (by kernel_rfl) hn h
/-! hindsight/hindsightlaw14.whole -/
def r24_0 : List POp := [
  ⟨some 2, .assign (.const (.bool false)), none⟩]
def r24_1 : List POp := [
  ⟨some 5, .move (.tmp 0), none⟩,
  ⟨some 6, .call { callee := .builtin .len, args := #[(.tmp 5)], argTypes := #[22] }, none⟩,
  ⟨some 7, .binOp .gtr 3 (.tmp 6) (.const (.int .i64 0)) 3, none⟩]
def r24_2 : List POp := [
  ⟨some 9, .move (.tmp 0), none⟩,
  ⟨some 10, .call { callee := .value (.func 23), args := #[(.tmp 9)], argTypes := #[22] }, none⟩,
  ⟨some 8, .move (.tmp 10), none⟩,
  ⟨some 11, .extract (.tmp 8) 0, none⟩,
  ⟨some 12, .extract (.tmp 8) 1, none⟩,
  ⟨some 3, .alloc 40, none⟩,
  ⟨none, .store 40 (.tmp 3) (.tmp 11), none⟩,
  ⟨some 4, .assign (.tmp 12), none⟩]
def r24_3 : List POp := [
  ⟨some 13, .move (.tmp 4), none⟩,
  ⟨some 14, .binOp .eql 3 (.tmp 13) (.const (.int .i64 0)) 3, none⟩]
def r24_4 : List POp := [
  ⟨some 2, .assign (.const (.bool false)), none⟩]
def r24_5 : List POp := [
  ⟨some 15, .move (.tmp 0), none⟩,
  ⟨some 16, .move (.tmp 4), none⟩,
  ⟨some 17, .slice 22 (.tmp 15) (some (.tmp 16)) none none, none⟩,
  ⟨some 0, .assign (.tmp 17), none⟩]
def b24_6 : PC := (.seq (.seq (.reg r24_1) (.cond (.tmp 7) .skip (.exit 0))) (.block 1 (.seq (.reg r24_2) (.seq (.seq (.reg r24_3) (.cond (.tmp 14) (.seq (.reg r24_4) .ret) .skip)) (.reg r24_5)))))
def r24_7 : List POp := [
  ⟨some 2, .assign (.const (.bool true)), none⟩]
def p24 : PC := (.seq (.reg r24_0) (.seq (.block 0 (.loop b24_6)) (.seq (.reg r24_7) .ret)))
theorem comp24 : (Try.f24.body.map (comp E Try.f24.ntmps)) = some p24 := by kernel_rfl
theorem ev24 {args : List AV} {S : St} {P : AV → St → Prop} (hn : Nat.ble args.length 18 = true) (h : EndsA E 18 [.c p24] .nrm (initTm 0 args .leaf) S (RetQ E [.tmp 2] P)) : ∃ r S', EvA E 24 args S r S' ∧ P r S' := ev_ends (fn := Try.f24) (by kernel_rfl) rfl comp24 (by kernel_rfl) (by kernel_rfl) hn h
/-! hindsight/code.Size -/
def r25_0 : List POp := [
  ⟨some 1, .box 31 (.tmp 0), none⟩,
  ⟨some 2, .assign (.const (.int .i64 0)), none⟩]
def r25_1 : List POp := [
  ⟨some 3, .load 31 (.tmp 1), none⟩,
  ⟨some 4, .call { callee := .value (.func 21), args := #[(.const (.slice none 0 0)), (.tmp 3)], argTypes := #[22, 31] }, none⟩,
  ⟨some 5, .call { callee := .builtin .len, args := #[(.tmp 4)], argTypes := #[22] }, none⟩,
  ⟨some 2, .assign (.tmp 5), none⟩]
def p25 : PC := (.seq (.reg r25_0) (.seq (.reg r25_1) .ret))
theorem comp25 : (Try.f25.body.map (comp E Try.f25.ntmps)) = some p25 := by kernel_rfl
theorem ev25 {args : List AV} {S : St} {P : AV → St → Prop} (hn : Nat.ble args.length 6 = true) (h : EndsA E 6 [.c p25] .nrm (initTm 0 args .leaf) S (RetQ E [.tmp 2] P)) : ∃ r S', EvA E 25 args S r S' ∧ P r S' := ev_ends (fn := Try.f25) (by kernel_rfl) rfl comp25 (by kernel_rfl) (by kernel_rfl) hn h
/-! hindsight/code.read -/
def r29_0 : List POp := [
  ⟨some 2, .assign (.const (.int .i64 0)), none⟩,
  ⟨some 3, .assign (.const (.int .i64 0)), none⟩]
def r29_1 : List POp := [
  ⟨some 4, .assign (.const (.int .u64 0)), none⟩]
def r29_2 : List POp := [
  ⟨some 7, .move (.tmp 0), none⟩,
  ⟨some 8, .move (.tmp 0), none⟩,
  ⟨some 9, .call { callee := .builtin .len, args := #[(.tmp 8)], argTypes := #[22] }, none⟩,
  ⟨some 10, .call { callee := .builtin .min, args := #[(.tmp 9), (.const (.int .i64 10))], argTypes := #[3, 3] }, none⟩,
  ⟨some 11, .slice 22 (.tmp 7) none (some (.tmp 10)) none, none⟩,
  ⟨some 12, .call { callee := .builtin .len, args := #[(.tmp 11)], argTypes := #[22] }, none⟩,
  ⟨some 13, .move (.const (.int .i64 0)), none⟩]
def r29_3 : List POp := [
  ⟨some 14, .binOp .lss 3 (.tmp 13) (.tmp 12) 3, none⟩]
def r29_4 : List POp := [
  ⟨some 15, .move (.tmp 13), none⟩,
  ⟨some 16, .indexAddr 22 (.tmp 11) (.tmp 13), none⟩,
  ⟨some 17, .load 5 (.tmp 16), none⟩,
  ⟨some 5, .assign (.tmp 15), none⟩,
  ⟨some 6, .assign (.tmp 17), none⟩]
def r29_5 : List POp := [
  ⟨some 18, .move (.tmp 4), none⟩,
  ⟨some 19, .move (.tmp 6), none⟩,
  ⟨some 20, .binOp .andNot 5 (.tmp 19) (.const (.int .u8 128)) 5, none⟩,
  ⟨some 21, .convert 5 27 (.tmp 20), none⟩,
  ⟨some 22, .move (.tmp 5), none⟩,
  ⟨some 23, .binOp .mul 3 (.const (.int .i64 7)) (.tmp 22) 3, none⟩,
  ⟨some 24, .binOp .shl 27 (.tmp 21) (.tmp 23) 3, none⟩,
  ⟨some 25, .binOp .or 27 (.tmp 18) (.tmp 24) 27, none⟩,
  ⟨some 4, .assign (.tmp 25), none⟩]
def r29_6 : List POp := [
  ⟨some 26, .move (.tmp 6), none⟩,
  ⟨some 27, .binOp .and 5 (.tmp 26) (.const (.int .u8 128)) 5, none⟩,
  ⟨some 28, .binOp .neq 5 (.tmp 27) (.const (.int .u8 0)) 5, none⟩]
def r29_7 : List POp := [
  ⟨some 29, .move (.tmp 5), none⟩,
  ⟨some 30, .binOp .gtr 3 (.tmp 29) (.const (.int .i64 0)) 3, none⟩,
  ⟨some 31, .move (.tmp 30), none⟩,
  ⟨some 32, .move (.tmp 6), some (31, true)⟩,
  ⟨some 33, .binOp .eql 5 (.tmp 32) (.const (.int .u8 0)) 5, some (31, true)⟩,
  ⟨some 34, .pick (.tmp 31) (.tmp 33) (.const (.bool false)), none⟩,
  ⟨some 35, .move (.tmp 34), none⟩,
  ⟨some 36, .move (.tmp 5), some (35, false)⟩,
  ⟨some 37, .binOp .eql 3 (.tmp 36) (.const (.int .i64 9)) 3, some (35, false)⟩,
  ⟨some 38, .move (.tmp 37), some (35, false)⟩,
  ⟨some 39, .move (.tmp 6), some (38, true)⟩,
  ⟨some 40, .binOp .gtr 5 (.tmp 39) (.const (.int .u8 1)) 5, some (38, true)⟩,
  ⟨some 41, .pick (.tmp 38) (.tmp 40) (.const (.bool false)), some (35, false)⟩,
  ⟨some 42, .pick (.tmp 35) (.const (.bool true)) (.tmp 41), none⟩]
def r29_8 : List POp := [
  ⟨some 2, .assign (.const (.int .i64 0)), none⟩,
  ⟨some 3, .assign (.const (.int .i64 0)), none⟩]
def r29_9 : List POp := [
  ⟨some 43, .move (.tmp 4), none⟩,
  ⟨some 44, .binOp .shr 27 (.tmp 43) (.const (.int .u64 1)) 67, none⟩,
  ⟨some 45, .convert 27 2 (.tmp 44), none⟩,
  ⟨some 46, .move (.tmp 4), none⟩,
  ⟨some 47, .binOp .and 27 (.tmp 46) (.const (.int .u64 1)) 27, none⟩,
  ⟨some 48, .convert 27 2 (.tmp 47), none⟩,
  ⟨some 49, .unOp .neg 2 (.tmp 48), none⟩,
  ⟨some 50, .binOp .xor 2 (.tmp 45) (.tmp 49) 2, none⟩,
  ⟨some 51, .move (.tmp 5), none⟩,
  ⟨some 52, .binOp .add 3 (.tmp 51) (.const (.int .i64 1)) 3, none⟩,
  ⟨some 2, .assign (.tmp 50), none⟩,
  ⟨some 3, .assign (.tmp 52), none⟩]
def r29_10 : List POp := [
  ⟨some 53, .binOp .add 3 (.tmp 13) (.const (.int .i64 1)) 3, none⟩,
  ⟨some 13, .move (.tmp 53), none⟩]
def b29_11 : PC := (.seq (.reg r29_3) (.seq (.cond (.tmp 14) .skip (.exit 0)) (.seq (.block 1 (.seq (.reg r29_4) (.seq (.reg r29_5) (.seq (.seq (.reg r29_6) (.cond (.tmp 28) (.exit 1) .skip)) (.seq (.seq (.reg r29_7) (.cond (.tmp 42) (.seq (.reg r29_8) .ret) .skip)) (.seq (.reg r29_9) .ret)))))) (.reg r29_10))))
def r29_12 : List POp := [
  ⟨some 2, .assign (.const (.int .i64 0)), none⟩,
  ⟨some 3, .assign (.const (.int .i64 0)), none⟩]
def p29 : PC := (.seq (.reg r29_0) (.seq (.reg r29_1) (.seq (.seq (.reg r29_2) (.block 0 (.loop b29_11))) (.seq (.reg r29_12) .ret))))
theorem comp29 : (Try.f29.body.map (comp E Try.f29.ntmps)) = some p29 := by kernel_rfl
theorem ev29 {args : List AV} {S : St} {P : AV → St → Prop} (hn : Nat.ble args.length 54 = true) (h : EndsA E 54 [.c p29] .nrm (initTm 0 args .leaf) S (RetQ E [.tmp 2, .tmp 3] P)) : ∃ r S', EvA E 29 args S r S' ∧ P r S' := ev_ends (fn := Try.f29) (by kernel_rfl) rfl comp29 (by kernel_rfl) (by kernel_rfl) hn h
/-! bytes.Clone -/
def r30_0 : List POp := [
  ⟨some 2, .assign (.const (.slice none 0 0)), none⟩]
def r30_1 : List POp := [
  ⟨some 3, .move (.tmp 0), none⟩,
  ⟨some 4, .binOp .eql 22 (.tmp 3) (.const (.slice none 0 0)) 22, none⟩]
def r30_2 : List POp := [
  ⟨some 2, .assign (.const (.slice none 0 0)), none⟩]
def r30_3 : List POp := [
  ⟨some 5, .buildSlice 22 0 #[], none⟩,
  ⟨some 6, .move (.tmp 0), none⟩,
  ⟨some 7, .call { callee := .builtin .append, args := #[(.tmp 5), (.tmp 6)], argTypes := #[22, 22] }, none⟩,
  ⟨some 2, .assign (.tmp 7), none⟩]
def p30 : PC := (.seq (.reg r30_0) (.seq (.seq (.reg r30_1) (.cond (.tmp 4) (.seq (.reg r30_2) .ret) .skip)) (.seq (.reg r30_3) .ret)))
theorem comp30 : (Try.f30.body.map (comp E Try.f30.ntmps)) = some p30 := by kernel_rfl
theorem ev30 {args : List AV} {S : St} {P : AV → St → Prop} (hn : Nat.ble args.length 8 = true) (h : EndsA E 8 [.c p30] .nrm (initTm 0 args .leaf) S (RetQ E [.tmp 2] P)) : ∃ r S', EvA E 30 args S r S' ∧ P r S' := ev_ends (fn := Try.f30) (by kernel_rfl) rfl comp30 (by kernel_rfl) (by kernel_rfl) hn h
/-! hindsight/code.number -/
def r31_0 : List POp := [
  ⟨some 4, .assign (.const (.slice none 0 0)), none⟩]
def r31_1 : List POp := [
  ⟨some 6, .move (.tmp 1), none⟩,
  ⟨some 7, .convert 2 27 (.tmp 6), none⟩,
  ⟨some 8, .binOp .shl 27 (.tmp 7) (.const (.int .u64 1)) 67, none⟩,
  ⟨some 9, .move (.tmp 1), none⟩,
  ⟨some 10, .binOp .shr 2 (.tmp 9) (.const (.int .u64 63)) 67, none⟩,
  ⟨some 11, .convert 2 27 (.tmp 10), none⟩,
  ⟨some 12, .binOp .xor 27 (.tmp 8) (.tmp 11) 27, none⟩,
  ⟨some 5, .assign (.tmp 12), none⟩]
def r31_2 : List POp := [
  ⟨some 13, .move (.tmp 5), none⟩,
  ⟨some 14, .binOp .geq 27 (.tmp 13) (.const (.int .u64 128)) 27, none⟩]
def r31_3 : List POp := [
  ⟨some 17, .move (.tmp 0), none⟩,
  ⟨some 18, .move (.tmp 5), none⟩,
  ⟨some 19, .convert 27 5 (.tmp 18), none⟩,
  ⟨some 20, .binOp .or 5 (.tmp 19) (.const (.int .u8 128)) 5, none⟩,
  ⟨some 21, .buildSlice 22 1 #[(0, (.tmp 20))], none⟩,
  ⟨some 22, .call { callee := .builtin .append, args := #[(.tmp 17), (.tmp 21)], argTypes := #[22, 22] }, none⟩,
  ⟨some 0, .assign (.tmp 22), none⟩]
def r31_4 : List POp := [
  ⟨some 15, .move (.tmp 5), none⟩,
  ⟨some 16, .binOp .shr 27 (.tmp 15) (.const (.int .u64 7)) 67, none⟩,
  ⟨some 5, .assign (.tmp 16), none⟩]
def b31_5 : PC := (.seq (.seq (.reg r31_2) (.cond (.tmp 14) .skip (.exit 0))) (.seq (.block 1 (.reg r31_3)) (.reg r31_4)))
def r31_6 : List POp := [
  ⟨some 23, .move (.tmp 0), none⟩,
  ⟨some 24, .move (.tmp 5), none⟩,
  ⟨some 25, .convert 27 5 (.tmp 24), none⟩,
  ⟨some 26, .buildSlice 22 1 #[(0, (.tmp 25))], none⟩,
  ⟨some 27, .call { callee := .builtin .append, args := #[(.tmp 23), (.tmp 26)], argTypes := #[22, 22] }, none⟩,
  ⟨some 4, .assign (.tmp 27), none⟩]
def p31 : PC := (.seq (.reg r31_0) (.seq (.reg r31_1) (.seq (.block 0 (.loop b31_5)) (.seq (.reg r31_6) .ret))))
theorem comp31 : (Try.f31.body.map (comp E Try.f31.ntmps)) = some p31 := by kernel_rfl
theorem ev31 {args : List AV} {S : St} {P : AV → St → Prop} (hn : Nat.ble args.length 28 = true) (h : EndsA E 28 [.c p31] .nrm (initTm 0 args .leaf) S (RetQ E [.tmp 4] P)) : ∃ r S', EvA E 31 args S r S' ∧ P r S' := ev_ends (fn := Try.f31) (by kernel_rfl) rfl comp31 (by kernel_rfl) (by kernel_rfl) hn h
/-! hindsight/hindsightref11.group -/
def r32_0 : List POp := [
  ⟨some 4, .assign (.const (.slice none 0 0)), none⟩]
def r32_1 : List POp := [
  ⟨some 5, .move (.tmp 1), none⟩,
  ⟨some 6, .binOp .geq 27 (.tmp 5) (.const (.int .u64 128)) 27, none⟩]
def r32_2 : List POp := [
  ⟨some 7, .move (.tmp 0), none⟩,
  ⟨some 8, .move (.tmp 1), none⟩,
  ⟨some 9, .binOp .rem 27 (.tmp 8) (.const (.int .u64 128)) 27, none⟩,
  ⟨some 10, .convert 27 5 (.tmp 9), none⟩,
  ⟨some 11, .binOp .add 5 (.tmp 10) (.const (.int .u8 128)) 5, none⟩,
  ⟨some 12, .buildSlice 22 1 #[(0, (.tmp 11))], none⟩,
  ⟨some 13, .call { callee := .builtin .append, args := #[(.tmp 7), (.tmp 12)], argTypes := #[22, 22] }, none⟩,
  ⟨some 0, .assign (.tmp 13), none⟩]
def r32_3 : List POp := [
  ⟨some 14, .move (.tmp 1), none⟩,
  ⟨some 15, .binOp .quo 27 (.tmp 14) (.const (.int .u64 128)) 27, none⟩,
  ⟨some 1, .assign (.tmp 15), none⟩]
def b32_4 : PC := (.seq (.seq (.reg r32_1) (.cond (.tmp 6) .skip (.exit 0))) (.block 1 (.seq (.reg r32_2) (.reg r32_3))))
def r32_5 : List POp := [
  ⟨some 16, .move (.tmp 0), none⟩,
  ⟨some 17, .move (.tmp 1), none⟩,
  ⟨some 18, .convert 27 5 (.tmp 17), none⟩,
  ⟨some 19, .buildSlice 22 1 #[(0, (.tmp 18))], none⟩,
  ⟨some 20, .call { callee := .builtin .append, args := #[(.tmp 16), (.tmp 19)], argTypes := #[22, 22] }, none⟩,
  ⟨some 4, .assign (.tmp 20), none⟩]
def p32 : PC := (.seq (.reg r32_0) (.seq (.block 0 (.loop b32_4)) (.seq (.reg r32_5) .ret)))
theorem comp32 : (Try.f32.body.map (comp E Try.f32.ntmps)) = some p32 := by kernel_rfl
theorem ev32 {args : List AV} {S : St} {P : AV → St → Prop} (hn : Nat.ble args.length 21 = true) (h : EndsA E 21 [.c p32] .nrm (initTm 0 args .leaf) S (RetQ E [.tmp 4] P)) : ∃ r S', EvA E 32 args S r S' ∧ P r S' := ev_ends (fn := Try.f32) (by kernel_rfl) rfl comp32 (by kernel_rfl) (by kernel_rfl) hn h
/-! hindsight/hindsightref11.signed -/
def r33_0 : List POp := [
  ⟨some 2, .assign (.const (.int .u64 0)), none⟩]
def r33_1 : List POp := [
  ⟨some 4, .move (.tmp 0), none⟩,
  ⟨some 5, .convert 2 27 (.tmp 4), none⟩,
  ⟨some 6, .binOp .shl 27 (.tmp 5) (.const (.int .u64 1)) 67, none⟩,
  ⟨some 3, .assign (.tmp 6), none⟩]
def r33_2 : List POp := [
  ⟨some 7, .move (.tmp 0), none⟩,
  ⟨some 8, .binOp .lss 2 (.tmp 7) (.const (.int .i64 0)) 2, none⟩]
def r33_3 : List POp := [
  ⟨some 9, .move (.tmp 3), none⟩,
  ⟨some 10, .unOp .xor 27 (.tmp 9), none⟩,
  ⟨some 2, .assign (.tmp 10), none⟩]
def r33_4 : List POp := [
  ⟨some 11, .move (.tmp 3), none⟩,
  ⟨some 2, .assign (.tmp 11), none⟩]
def p33 : PC := (.seq (.reg r33_0) (.seq (.reg r33_1) (.seq (.seq (.reg r33_2) (.cond (.tmp 8) (.seq (.reg r33_3) .ret) .skip)) (.seq (.reg r33_4) .ret))))
theorem comp33 : (Try.f33.body.map (comp E Try.f33.ntmps)) = some p33 := by kernel_rfl
theorem ev33 {args : List AV} {S : St} {P : AV → St → Prop} (hn : Nat.ble args.length 12 = true) (h : EndsA E 12 [.c p33] .nrm (initTm 0 args .leaf) S (RetQ E [.tmp 2] P)) : ∃ r S', EvA E 33 args S r S' ∧ P r S' := ev_ends (fn := Try.f33) (by kernel_rfl) rfl comp33 (by kernel_rfl) (by kernel_rfl) hn h
/-! hindsight/hindsightlaw14.CodeSays -/
def r5_0 : List POp := [
  ⟨some 2, .box 31 (.tmp 0), none⟩,
  ⟨some 4, .assign (.const (.bool false)), none⟩]
def r5_1 : List POp := [
  ⟨some 18, .call { callee := .value (.func 17), args := #[], argTypes := #[] }, none⟩,
  ⟨some 19, .unOp .not 4 (.tmp 18), none⟩]
def r5_2 : List POp := [
  ⟨some 4, .assign (.const (.bool false)), none⟩]
def r5_3 : List POp := [
  ⟨some 20, .move (.tmp 1), none⟩,
  ⟨some 21, .call { callee := .builtin .len, args := #[(.tmp 20)], argTypes := #[22] }, none⟩,
  ⟨some 22, .binOp .gtr 3 (.tmp 21) (.const (.int .i64 200)) 3, none⟩]
def r5_4 : List POp := [
  ⟨some 4, .assign (.const (.bool true)), none⟩]
def r5_5 : List POp := [
  ⟨some 23, .move (.tmp 1), none⟩,
  ⟨some 24, .load 31 (.tmp 2), none⟩,
  ⟨some 25, .call { callee := .value (.func 21), args := #[(.tmp 23), (.tmp 24)], argTypes := #[22, 31] }, none⟩,
  ⟨some 5, .assign (.tmp 25), none⟩]
def r5_6 : List POp := [
  ⟨some 26, .move (.tmp 1), none⟩,
  ⟨some 27, .fieldAddr 31 (.tmp 2) 0, none⟩,
  ⟨some 28, .load 3 (.tmp 27), none⟩,
  ⟨some 29, .fieldAddr 31 (.tmp 2) 1, none⟩,
  ⟨some 30, .load 2 (.tmp 29), none⟩,
  ⟨some 31, .fieldAddr 31 (.tmp 2) 2, none⟩,
  ⟨some 32, .load 2 (.tmp 31), none⟩,
  ⟨some 33, .build 40 #[(0, (.tmp 28)), (1, (.tmp 30)), (2, (.tmp 32))], none⟩,
  ⟨some 34, .call { callee := .value (.func 22), args := #[(.tmp 26), (.tmp 33)], argTypes := #[22, 40] }, none⟩,
  ⟨some 6, .assign (.tmp 34), none⟩]
def r5_7 : List POp := [
  ⟨some 36, .move (.tmp 1), none⟩,
  ⟨some 37, .call { callee := .value (.func 18), args := #[(.tmp 36)], argTypes := #[22] }, none⟩,
  ⟨some 35, .move (.tmp 37), none⟩,
  ⟨some 38, .extract (.tmp 35) 0, none⟩,
  ⟨some 39, .extract (.tmp 35) 1, none⟩,
  ⟨some 40, .extract (.tmp 35) 2, none⟩,
  ⟨some 7, .alloc 31, none⟩,
  ⟨none, .store 31 (.tmp 7) (.tmp 38), none⟩,
  ⟨some 8, .assign (.tmp 39), none⟩,
  ⟨some 9, .assign (.tmp 40), none⟩]
def r5_8 : List POp := [
  ⟨some 42, .move (.tmp 1), none⟩,
  ⟨some 43, .call { callee := .value (.func 23), args := #[(.tmp 42)], argTypes := #[22] }, none⟩,
  ⟨some 41, .move (.tmp 43), none⟩,
  ⟨some 44, .extract (.tmp 41) 0, none⟩,
  ⟨some 45, .extract (.tmp 41) 1, none⟩,
  ⟨some 10, .alloc 40, none⟩,
  ⟨none, .store 40 (.tmp 10) (.tmp 44), none⟩,
  ⟨some 11, .assign (.tmp 45), none⟩]
def r5_9 : List POp := [
  ⟨some 46, .move (.tmp 5), none⟩,
  ⟨some 47, .convert 22 9 (.tmp 46), none⟩,
  ⟨some 48, .move (.tmp 6), none⟩,
  ⟨some 49, .convert 22 9 (.tmp 48), none⟩,
  ⟨some 50, .binOp .neq 9 (.tmp 47) (.tmp 49) 9, none⟩,
  ⟨some 51, .move (.tmp 50), none⟩,
  ⟨some 52, .move (.tmp 8), some (51, false)⟩,
  ⟨some 53, .move (.tmp 11), some (51, false)⟩,
  ⟨some 54, .binOp .neq 3 (.tmp 52) (.tmp 53) 3, some (51, false)⟩,
  ⟨some 55, .pick (.tmp 51) (.const (.bool true)) (.tmp 54), none⟩,
  ⟨some 56, .move (.tmp 55), none⟩,
  ⟨some 57, .move (.tmp 9), some (56, false)⟩,
  ⟨some 58, .binOp .eql 24 (.tmp 57) (.const (.int .i64 0)) 24, some (56, false)⟩,
  ⟨some 59, .move (.tmp 11), some (56, false)⟩,
  ⟨some 60, .binOp .gtr 3 (.tmp 59) (.const (.int .i64 0)) 3, some (56, false)⟩,
  ⟨some 61, .binOp .neq 4 (.tmp 58) (.tmp 60) 4, some (56, false)⟩,
  ⟨some 62, .pick (.tmp 56) (.const (.bool true)) (.tmp 61), none⟩,
  ⟨some 63, .move (.tmp 62), none⟩,
  ⟨some 64, .move (.tmp 9), some (63, false)⟩,
  ⟨some 65, .binOp .neq 24 (.tmp 64) (.const (.int .i64 0)) 24, some (63, false)⟩,
  ⟨some 66, .move (.tmp 65), some (63, false)⟩,
  ⟨some 67, .move (.tmp 9), some (66, true)⟩,
  ⟨some 68, .binOp .neq 24 (.tmp 67) (.const (.int .i64 3)) 24, some (66, true)⟩,
  ⟨some 69, .pick (.tmp 66) (.tmp 68) (.const (.bool false)), some (63, false)⟩,
  ⟨some 70, .pick (.tmp 63) (.const (.bool true)) (.tmp 69), none⟩,
  ⟨some 71, .move (.tmp 70), none⟩,
  ⟨some 72, .fieldAddr 31 (.tmp 7) 0, some (71, false)⟩,
  ⟨some 73, .load 3 (.tmp 72), some (71, false)⟩,
  ⟨some 74, .fieldAddr 40 (.tmp 10) 0, some (71, false)⟩,
  ⟨some 75, .load 3 (.tmp 74), some (71, false)⟩,
  ⟨some 76, .binOp .neq 3 (.tmp 73) (.tmp 75) 3, some (71, false)⟩,
  ⟨some 77, .pick (.tmp 71) (.const (.bool true)) (.tmp 76), none⟩,
  ⟨some 78, .move (.tmp 77), none⟩,
  ⟨some 79, .fieldAddr 31 (.tmp 7) 1, some (78, false)⟩,
  ⟨some 80, .load 2 (.tmp 79), some (78, false)⟩,
  ⟨some 81, .fieldAddr 40 (.tmp 10) 1, some (78, false)⟩,
  ⟨some 82, .load 2 (.tmp 81), some (78, false)⟩,
  ⟨some 83, .binOp .neq 2 (.tmp 80) (.tmp 82) 2, some (78, false)⟩,
  ⟨some 84, .pick (.tmp 78) (.const (.bool true)) (.tmp 83), none⟩,
  ⟨some 85, .move (.tmp 84), none⟩,
  ⟨some 86, .fieldAddr 31 (.tmp 7) 2, some (85, false)⟩,
  ⟨some 87, .load 2 (.tmp 86), some (85, false)⟩,
  ⟨some 88, .fieldAddr 40 (.tmp 10) 2, some (85, false)⟩,
  ⟨some 89, .load 2 (.tmp 88), some (85, false)⟩,
  ⟨some 90, .binOp .neq 2 (.tmp 87) (.tmp 89) 2, some (85, false)⟩,
  ⟨some 91, .pick (.tmp 85) (.const (.bool true)) (.tmp 90), none⟩]
def r5_10 : List POp := [
  ⟨some 4, .assign (.const (.bool false)), none⟩]
def r5_11 : List POp := [
  ⟨some 93, .move (.tmp 1), none⟩,
  ⟨some 94, .call { callee := .value (.func 19), args := #[(.tmp 93)], argTypes := #[22] }, none⟩,
  ⟨some 92, .move (.tmp 94), none⟩,
  ⟨some 95, .extract (.tmp 92) 0, none⟩,
  ⟨some 96, .extract (.tmp 92) 1, none⟩,
  ⟨some 12, .assign (.tmp 95), none⟩,
  ⟨some 13, .assign (.tmp 96), none⟩]
def r5_12 : List POp := [
  ⟨some 14, .assign (.const (.int .i64 0)), none⟩]
def r5_13 : List POp := [
  ⟨some 15, .assign (.const (.int .i64 0)), none⟩]
def r5_14 : List POp := [
  ⟨some 97, .move (.tmp 15), none⟩,
  ⟨some 98, .move (.tmp 12), none⟩,
  ⟨some 99, .call { callee := .builtin .len, args := #[(.tmp 98)], argTypes := #[34] }, none⟩,
  ⟨some 100, .binOp .lss 3 (.tmp 97) (.tmp 99) 3, none⟩]
def r5_15 : List POp := [
  ⟨some 104, .move (.tmp 1), none⟩,
  ⟨some 105, .move (.tmp 14), none⟩,
  ⟨some 106, .slice 22 (.tmp 104) (some (.tmp 105)) none none, none⟩,
  ⟨some 107, .call { callee := .value (.func 23), args := #[(.tmp 106)], argTypes := #[22] }, none⟩,
  ⟨some 103, .move (.tmp 107), none⟩,
  ⟨some 108, .extract (.tmp 103) 0, none⟩,
  ⟨some 109, .extract (.tmp 103) 1, none⟩,
  ⟨some 16, .alloc 40, none⟩,
  ⟨none, .store 40 (.tmp 16) (.tmp 108), none⟩,
  ⟨some 17, .assign (.tmp 109), none⟩]
def r5_16 : List POp := [
  ⟨some 110, .move (.tmp 17), none⟩,
  ⟨some 111, .binOp .eql 3 (.tmp 110) (.const (.int .i64 0)) 3, none⟩,
  ⟨some 112, .move (.tmp 111), none⟩,
  ⟨some 113, .move (.tmp 12), some (112, false)⟩,
  ⟨some 114, .move (.tmp 15), some (112, false)⟩,
  ⟨some 115, .indexAddr 34 (.tmp 113) (.tmp 114), some (112, false)⟩,
  ⟨some 116, .fieldAddr 31 (.tmp 115) 0, some (112, false)⟩,
  ⟨some 117, .load 3 (.tmp 116), some (112, false)⟩,
  ⟨some 118, .fieldAddr 40 (.tmp 16) 0, some (112, false)⟩,
  ⟨some 119, .load 3 (.tmp 118), some (112, false)⟩,
  ⟨some 120, .binOp .neq 3 (.tmp 117) (.tmp 119) 3, some (112, false)⟩,
  ⟨some 121, .pick (.tmp 112) (.const (.bool true)) (.tmp 120), none⟩,
  ⟨some 122, .move (.tmp 121), none⟩,
  ⟨some 123, .move (.tmp 12), some (122, false)⟩,
  ⟨some 124, .move (.tmp 15), some (122, false)⟩,
  ⟨some 125, .indexAddr 34 (.tmp 123) (.tmp 124), some (122, false)⟩,
  ⟨some 126, .fieldAddr 31 (.tmp 125) 1, some (122, false)⟩,
  ⟨some 127, .load 2 (.tmp 126), some (122, false)⟩,
  ⟨some 128, .fieldAddr 40 (.tmp 16) 1, some (122, false)⟩,
  ⟨some 129, .load 2 (.tmp 128), some (122, false)⟩,
  ⟨some 130, .binOp .neq 2 (.tmp 127) (.tmp 129) 2, some (122, false)⟩,
  ⟨some 131, .pick (.tmp 122) (.const (.bool true)) (.tmp 130), none⟩,
  ⟨some 132, .move (.tmp 131), none⟩,
  ⟨some 133, .move (.tmp 12), some (132, false)⟩,
  ⟨some 134, .move (.tmp 15), some (132, false)⟩,
  ⟨some 135, .indexAddr 34 (.tmp 133) (.tmp 134), some (132, false)⟩,
  ⟨some 136, .fieldAddr 31 (.tmp 135) 2, some (132, false)⟩,
  ⟨some 137, .load 2 (.tmp 136), some (132, false)⟩,
  ⟨some 138, .fieldAddr 40 (.tmp 16) 2, some (132, false)⟩,
  ⟨some 139, .load 2 (.tmp 138), some (132, false)⟩,
  ⟨some 140, .binOp .neq 2 (.tmp 137) (.tmp 139) 2, some (132, false)⟩,
  ⟨some 141, .pick (.tmp 132) (.const (.bool true)) (.tmp 140), none⟩]
def r5_17 : List POp := [
  ⟨some 4, .assign (.const (.bool false)), none⟩]
def r5_18 : List POp := [
  ⟨some 142, .move (.tmp 14), none⟩,
  ⟨some 143, .move (.tmp 17), none⟩,
  ⟨some 144, .binOp .add 3 (.tmp 142) (.tmp 143) 3, none⟩,
  ⟨some 14, .assign (.tmp 144), none⟩]
def r5_19 : List POp := [
  ⟨some 101, .move (.tmp 15), none⟩,
  ⟨some 102, .binOp .add 3 (.tmp 101) (.const (.int .i64 1)) 3, none⟩,
  ⟨some 15, .assign (.tmp 102), none⟩]
def b5_20 : PC := (.seq (.seq (.reg r5_14) (.cond (.tmp 100) .skip (.exit 0))) (.seq (.block 1 (.seq (.reg r5_15) (.seq (.seq (.regD 32 r5_16) (.cond (.tmp 141) (.seq (.reg r5_17) .ret) .skip)) (.reg r5_18)))) (.reg r5_19)))
def r5_21 : List POp := [
  ⟨some 145, .move (.tmp 13), none⟩,
  ⟨some 146, .binOp .neq 24 (.tmp 145) (.const (.int .i64 0)) 24, none⟩]
def r5_22 : List POp := [
  ⟨some 147, .move (.tmp 13), none⟩,
  ⟨some 148, .binOp .eql 24 (.tmp 147) (.const (.int .i64 3)) 24, none⟩,
  ⟨some 149, .move (.tmp 148), none⟩,
  ⟨some 150, .move (.tmp 12), some (149, true)⟩,
  ⟨some 151, .call { callee := .builtin .len, args := #[(.tmp 150)], argTypes := #[34] }, some (149, true)⟩,
  ⟨some 152, .binOp .eql 3 (.tmp 151) (.const (.int .i64 0)) 3, some (149, true)⟩,
  ⟨some 153, .pick (.tmp 149) (.tmp 152) (.const (.bool false)), none⟩,
  ⟨some 154, .move (.tmp 153), none⟩,
  ⟨some 155, .move (.tmp 1), some (154, true)⟩,
  ⟨some 156, .call { callee := .value (.func 24), args := #[(.tmp 155)], argTypes := #[22] }, some (154, true)⟩,
  ⟨some 157, .unOp .not 4 (.tmp 156), some (154, true)⟩,
  ⟨some 158, .pick (.tmp 154) (.tmp 157) (.const (.bool false)), none⟩,
  ⟨some 4, .assign (.tmp 158), none⟩]
def r5_23 : List POp := [
  ⟨some 159, .move (.tmp 14), none⟩,
  ⟨some 160, .move (.tmp 1), none⟩,
  ⟨some 161, .call { callee := .builtin .len, args := #[(.tmp 160)], argTypes := #[22] }, none⟩,
  ⟨some 162, .binOp .eql 3 (.tmp 159) (.tmp 161) 3, none⟩,
  ⟨some 4, .assign (.tmp 162), none⟩]
def p5 : PC := (.seq (.reg r5_0) (.seq (.seq (.reg r5_1) (.cond (.tmp 19) (.seq (.reg r5_2) .ret) .skip)) (.seq (.seq (.reg r5_3) (.cond (.tmp 22) (.seq (.reg r5_4) .ret) .skip)) (.seq (.reg r5_5) (.seq (.reg r5_6) (.seq (.reg r5_7) (.seq (.reg r5_8) (.seq (.seq (.reg r5_9) (.cond (.tmp 91) (.seq (.reg r5_10) .ret) .skip)) (.seq (.reg r5_11) (.seq (.reg r5_12) (.seq (.seq (.reg r5_13) (.block 0 (.loop b5_20))) (.seq (.seq (.reg r5_21) (.cond (.tmp 146) (.seq (.reg r5_22) .ret) .skip)) (.seq (.reg r5_23) .ret)))))))))))))
theorem comp5 : (Try.f5.body.map (comp E Try.f5.ntmps)) = some p5 := by kernel_rfl
theorem ev5 {args : List AV} {S : St} {P : AV → St → Prop} (hn : Nat.ble args.length 163 = true) (h : EndsA E 163 [.c p5] .nrm (initTm 0 args .leaf) S (RetQ E [.tmp 4] P)) : ∃ r S', EvA E 5 args S r S' ∧ P r S' := ev_ends (fn := Try.f5) (by kernel_rfl) rfl comp5 (by kernel_rfl) (by kernel_rfl) hn h
/-! hindsight/hindsightlaw14.CodeBack -/
def r6_0 : List POp := [
  ⟨some 2, .assign (.const (.bool false)), none⟩]
def r6_1 : List POp := [
  ⟨some 9, .call { callee := .value (.func 17), args := #[], argTypes := #[] }, none⟩,
  ⟨some 10, .unOp .not 4 (.tmp 9), none⟩]
def r6_2 : List POp := [
  ⟨some 2, .assign (.const (.bool false)), none⟩]
def r6_3 : List POp := [
  ⟨some 11, .move (.tmp 0), none⟩,
  ⟨some 12, .call { callee := .builtin .len, args := #[(.tmp 11)], argTypes := #[34] }, none⟩,
  ⟨some 13, .binOp .gtr 3 (.tmp 12) (.const (.int .i64 50)) 3, none⟩]
def r6_4 : List POp := [
  ⟨some 2, .assign (.const (.bool true)), none⟩]
def r6_5 : List POp := [
  ⟨some 3, .assign (.const (.slice none 0 0)), none⟩]
def r6_6 : List POp := [
  ⟨some 4, .assign (.const (.int .i64 0)), none⟩]
def r6_7 : List POp := [
  ⟨some 5, .assign (.const (.int .i64 0)), none⟩]
def r6_8 : List POp := [
  ⟨some 14, .move (.tmp 5), none⟩,
  ⟨some 15, .move (.tmp 0), none⟩,
  ⟨some 16, .call { callee := .builtin .len, args := #[(.tmp 15)], argTypes := #[34] }, none⟩,
  ⟨some 17, .binOp .lss 3 (.tmp 14) (.tmp 16) 3, none⟩]
def r6_9 : List POp := [
  ⟨some 20, .move (.tmp 0), none⟩,
  ⟨some 21, .move (.tmp 5), none⟩,
  ⟨some 22, .indexAddr 34 (.tmp 20) (.tmp 21), none⟩,
  ⟨some 23, .load 31 (.tmp 22), none⟩,
  ⟨some 24, .call { callee := .value (.func 20), args := #[(.tmp 23)], argTypes := #[31] }, none⟩,
  ⟨some 25, .unOp .not 4 (.tmp 24), none⟩]
def r6_10 : List POp := [
  ⟨some 2, .assign (.const (.bool true)), none⟩]
def r6_11 : List POp := [
  ⟨some 26, .move (.tmp 3), none⟩,
  ⟨some 27, .move (.tmp 0), none⟩,
  ⟨some 28, .move (.tmp 5), none⟩,
  ⟨some 29, .indexAddr 34 (.tmp 27) (.tmp 28), none⟩,
  ⟨some 30, .load 31 (.tmp 29), none⟩,
  ⟨some 31, .call { callee := .value (.func 21), args := #[(.tmp 26), (.tmp 30)], argTypes := #[22, 31] }, none⟩,
  ⟨some 3, .assign (.tmp 31), none⟩]
def r6_12 : List POp := [
  ⟨some 32, .move (.tmp 4), none⟩,
  ⟨some 33, .move (.tmp 0), none⟩,
  ⟨some 34, .move (.tmp 5), none⟩,
  ⟨some 35, .indexAddr 34 (.tmp 33) (.tmp 34), none⟩,
  ⟨some 36, .load 31 (.tmp 35), none⟩,
  ⟨some 37, .call { callee := .value (.func 25), args := #[(.tmp 36)], argTypes := #[31] }, none⟩,
  ⟨some 38, .binOp .add 3 (.tmp 32) (.tmp 37) 3, none⟩,
  ⟨some 4, .assign (.tmp 38), none⟩]
def r6_13 : List POp := [
  ⟨some 18, .move (.tmp 5), none⟩,
  ⟨some 19, .binOp .add 3 (.tmp 18) (.const (.int .i64 1)) 3, none⟩,
  ⟨some 5, .assign (.tmp 19), none⟩]
def b6_14 : PC := (.seq (.seq (.reg r6_8) (.cond (.tmp 17) .skip (.exit 0))) (.seq (.block 1 (.seq (.seq (.reg r6_9) (.cond (.tmp 25) (.seq (.reg r6_10) .ret) .skip)) (.seq (.reg r6_11) (.reg r6_12)))) (.reg r6_13)))
def r6_15 : List POp := [
  ⟨some 40, .move (.tmp 3), none⟩,
  ⟨some 41, .call { callee := .value (.func 19), args := #[(.tmp 40)], argTypes := #[22] }, none⟩,
  ⟨some 39, .move (.tmp 41), none⟩,
  ⟨some 42, .extract (.tmp 39) 0, none⟩,
  ⟨some 43, .extract (.tmp 39) 1, none⟩,
  ⟨some 6, .assign (.tmp 42), none⟩,
  ⟨some 7, .assign (.tmp 43), none⟩]
def r6_16 : List POp := [
  ⟨some 44, .move (.tmp 7), none⟩,
  ⟨some 45, .binOp .neq 24 (.tmp 44) (.const (.int .i64 0)) 24, none⟩,
  ⟨some 46, .move (.tmp 45), none⟩,
  ⟨some 47, .move (.tmp 6), some (46, false)⟩,
  ⟨some 48, .call { callee := .builtin .len, args := #[(.tmp 47)], argTypes := #[34] }, some (46, false)⟩,
  ⟨some 49, .move (.tmp 0), some (46, false)⟩,
  ⟨some 50, .call { callee := .builtin .len, args := #[(.tmp 49)], argTypes := #[34] }, some (46, false)⟩,
  ⟨some 51, .binOp .neq 3 (.tmp 48) (.tmp 50) 3, some (46, false)⟩,
  ⟨some 52, .pick (.tmp 46) (.const (.bool true)) (.tmp 51), none⟩,
  ⟨some 53, .move (.tmp 52), none⟩,
  ⟨some 54, .move (.tmp 4), some (53, false)⟩,
  ⟨some 55, .move (.tmp 3), some (53, false)⟩,
  ⟨some 56, .call { callee := .builtin .len, args := #[(.tmp 55)], argTypes := #[22] }, some (53, false)⟩,
  ⟨some 57, .binOp .neq 3 (.tmp 54) (.tmp 56) 3, some (53, false)⟩,
  ⟨some 58, .pick (.tmp 53) (.const (.bool true)) (.tmp 57), none⟩]
def r6_17 : List POp := [
  ⟨some 2, .assign (.const (.bool false)), none⟩]
def r6_18 : List POp := [
  ⟨some 8, .assign (.const (.int .i64 0)), none⟩]
def r6_19 : List POp := [
  ⟨some 59, .move (.tmp 8), none⟩,
  ⟨some 60, .move (.tmp 0), none⟩,
  ⟨some 61, .call { callee := .builtin .len, args := #[(.tmp 60)], argTypes := #[34] }, none⟩,
  ⟨some 62, .binOp .lss 3 (.tmp 59) (.tmp 61) 3, none⟩]
def r6_20 : List POp := [
  ⟨some 65, .move (.tmp 6), none⟩,
  ⟨some 66, .move (.tmp 8), none⟩,
  ⟨some 67, .indexAddr 34 (.tmp 65) (.tmp 66), none⟩,
  ⟨some 68, .load 31 (.tmp 67), none⟩,
  ⟨some 69, .move (.tmp 0), none⟩,
  ⟨some 70, .move (.tmp 8), none⟩,
  ⟨some 71, .indexAddr 34 (.tmp 69) (.tmp 70), none⟩,
  ⟨some 72, .load 31 (.tmp 71), none⟩,
  ⟨some 73, .binOp .neq 31 (.tmp 68) (.tmp 72) 31, none⟩]
def r6_21 : List POp := [
  ⟨some 2, .assign (.const (.bool false)), none⟩]
def r6_22 : List POp := [
  ⟨some 63, .move (.tmp 8), none⟩,
  ⟨some 64, .binOp .add 3 (.tmp 63) (.const (.int .i64 1)) 3, none⟩,
  ⟨some 8, .assign (.tmp 64), none⟩]
def b6_23 : PC := (.seq (.seq (.reg r6_19) (.cond (.tmp 62) .skip (.exit 2))) (.seq (.block 3 (.seq (.regD 9 r6_20) (.cond (.tmp 73) (.seq (.reg r6_21) .ret) .skip))) (.reg r6_22)))
def r6_24 : List POp := [
  ⟨some 2, .assign (.const (.bool true)), none⟩]
def p6 : PC := (.seq (.reg r6_0) (.seq (.seq (.reg r6_1) (.cond (.tmp 10) (.seq (.reg r6_2) .ret) .skip)) (.seq (.seq (.reg r6_3) (.cond (.tmp 13) (.seq (.reg r6_4) .ret) .skip)) (.seq (.reg r6_5) (.seq (.reg r6_6) (.seq (.seq (.reg r6_7) (.block 0 (.loop b6_14))) (.seq (.reg r6_15) (.seq (.seq (.reg r6_16) (.cond (.tmp 58) (.seq (.reg r6_17) .ret) .skip)) (.seq (.seq (.reg r6_18) (.block 2 (.loop b6_23))) (.seq (.reg r6_24) .ret))))))))))
theorem comp6 : (Try.f6.body.map (comp E Try.f6.ntmps)) = some p6 := by kernel_rfl
theorem ev6 {args : List AV} {S : St} {P : AV → St → Prop} (hn : Nat.ble args.length 74 = true) (h : EndsA E 74 [.c p6] .nrm (initTm 0 args .leaf) S (RetQ E [.tmp 2] P)) : ∃ r S', EvA E 6 args S r S' ∧ P r S' := ev_ends (fn := Try.f6) (by kernel_rfl) rfl comp6 (by kernel_rfl) (by kernel_rfl) hn h
end Go.Proofs.Ytpahkfadibcdgaa
