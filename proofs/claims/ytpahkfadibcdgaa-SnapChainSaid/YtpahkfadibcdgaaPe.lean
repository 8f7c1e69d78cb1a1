/-
  The compiled code of functions of this seat's program: written by program (wip/GenPC.lean); the kernel checks each row.
-/
import Derived.Test.YtpahkfadibcdgaaPc
set_option linter.unusedSimpArgs false
set_option linter.unusedVariables false
namespace Go.Proofs.Ytpahkfadibcdgaa
open Go.Abs
/-! hindsight/hindsightlaw14.CodeCuts -/
def r7_0 : List POp := [
  ⟨some 4, .assign (.const (.bool false)), none⟩]
def r7_1 : List POp := [
  ⟨some 12, .call { callee := .value (.func 17), args := #[], argTypes := #[] }, none⟩,
  ⟨some 13, .unOp .not 4 (.tmp 12), none⟩]
def r7_2 : List POp := [
  ⟨some 4, .assign (.const (.bool false)), none⟩]
def r7_3 : List POp := [
  ⟨some 14, .move (.tmp 0), none⟩,
  ⟨some 15, .call { callee := .builtin .len, args := #[(.tmp 14)], argTypes := #[34] }, none⟩,
  ⟨some 16, .binOp .gtr 3 (.tmp 15) (.const (.int .i64 20)) 3, none⟩]
def r7_4 : List POp := [
  ⟨some 4, .assign (.const (.bool true)), none⟩]
def r7_5 : List POp := [
  ⟨some 5, .assign (.const (.slice none 0 0)), none⟩]
def r7_6 : List POp := [
  ⟨some 17, .makeMap 47 none, none⟩,
  ⟨none, .insert 47 (.tmp 17) (.const (.int .i64 0)) (.const (.int .i64 0)), none⟩,
  ⟨some 18, .move (.tmp 17), none⟩,
  ⟨some 6, .assign (.tmp 18), none⟩]
def r7_7 : List POp := [
  ⟨some 7, .assign (.const (.int .i64 0)), none⟩]
def r7_8 : List POp := [
  ⟨some 19, .move (.tmp 7), none⟩,
  ⟨some 20, .move (.tmp 0), none⟩,
  ⟨some 21, .call { callee := .builtin .len, args := #[(.tmp 20)], argTypes := #[34] }, none⟩,
  ⟨some 22, .binOp .lss 3 (.tmp 19) (.tmp 21) 3, none⟩]
def r7_9 : List POp := [
  ⟨some 25, .move (.tmp 0), none⟩,
  ⟨some 26, .move (.tmp 7), none⟩,
  ⟨some 27, .indexAddr 34 (.tmp 25) (.tmp 26), none⟩,
  ⟨some 28, .load 31 (.tmp 27), none⟩,
  ⟨some 29, .call { callee := .value (.func 20), args := #[(.tmp 28)], argTypes := #[31] }, none⟩,
  ⟨some 30, .unOp .not 4 (.tmp 29), none⟩]
def r7_10 : List POp := [
  ⟨some 4, .assign (.const (.bool true)), none⟩]
def r7_11 : List POp := [
  ⟨some 31, .move (.tmp 5), none⟩,
  ⟨some 32, .move (.tmp 0), none⟩,
  ⟨some 33, .move (.tmp 7), none⟩,
  ⟨some 34, .indexAddr 34 (.tmp 32) (.tmp 33), none⟩,
  ⟨some 35, .load 31 (.tmp 34), none⟩,
  ⟨some 36, .call { callee := .value (.func 21), args := #[(.tmp 31), (.tmp 35)], argTypes := #[22, 31] }, none⟩,
  ⟨some 5, .assign (.tmp 36), none⟩]
def r7_12 : List POp := [
  ⟨some 37, .move (.tmp 6), none⟩,
  ⟨some 38, .move (.tmp 5), none⟩,
  ⟨some 39, .call { callee := .builtin .len, args := #[(.tmp 38)], argTypes := #[22] }, none⟩,
  ⟨some 40, .move (.tmp 7), none⟩,
  ⟨some 41, .binOp .add 3 (.tmp 40) (.const (.int .i64 1)) 3, none⟩,
  ⟨none, .mapUpdate 47 (.tmp 37) (.tmp 39) (.tmp 41), none⟩]
def r7_13 : List POp := [
  ⟨some 23, .move (.tmp 7), none⟩,
  ⟨some 24, .binOp .add 3 (.tmp 23) (.const (.int .i64 1)) 3, none⟩,
  ⟨some 7, .assign (.tmp 24), none⟩]
def b7_14 : PC := (.seq (.seq (.reg r7_8) (.cond (.tmp 22) .skip (.exit 0))) (.seq (.block 1 (.seq (.seq (.reg r7_9) (.cond (.tmp 30) (.seq (.reg r7_10) .ret) .skip)) (.seq (.reg r7_11) (.reg r7_12)))) (.reg r7_13)))
def r7_15 : List POp := [
  ⟨some 42, .move (.tmp 1), none⟩,
  ⟨some 43, .binOp .lss 3 (.tmp 42) (.const (.int .i64 0)) 3, none⟩,
  ⟨some 44, .move (.tmp 43), none⟩,
  ⟨some 45, .move (.tmp 1), some (44, false)⟩,
  ⟨some 46, .move (.tmp 5), some (44, false)⟩,
  ⟨some 47, .call { callee := .builtin .len, args := #[(.tmp 46)], argTypes := #[22] }, some (44, false)⟩,
  ⟨some 48, .binOp .gtr 3 (.tmp 45) (.tmp 47) 3, some (44, false)⟩,
  ⟨some 49, .pick (.tmp 44) (.const (.bool true)) (.tmp 48), none⟩]
def r7_16 : List POp := [
  ⟨some 4, .assign (.const (.bool true)), none⟩]
def r7_17 : List POp := [
  ⟨some 51, .move (.tmp 5), none⟩,
  ⟨some 52, .move (.tmp 1), none⟩,
  ⟨some 53, .slice 22 (.tmp 51) none (some (.tmp 52)) none, none⟩,
  ⟨some 54, .call { callee := .value (.func 19), args := #[(.tmp 53)], argTypes := #[22] }, none⟩,
  ⟨some 50, .move (.tmp 54), none⟩,
  ⟨some 55, .extract (.tmp 50) 0, none⟩,
  ⟨some 56, .extract (.tmp 50) 1, none⟩,
  ⟨some 8, .assign (.tmp 55), none⟩,
  ⟨some 9, .assign (.tmp 56), none⟩]
def r7_18 : List POp := [
  ⟨some 58, .move (.tmp 6), none⟩,
  ⟨some 59, .move (.tmp 1), none⟩,
  ⟨some 60, .lookup 47 (.tmp 58) (.tmp 59) true, none⟩,
  ⟨some 57, .move (.tmp 60), none⟩,
  ⟨some 61, .extract (.tmp 57) 0, none⟩,
  ⟨some 62, .extract (.tmp 57) 1, none⟩,
  ⟨some 10, .assign (.tmp 61), none⟩,
  ⟨some 11, .assign (.tmp 62), none⟩]
def r7_19 : List POp := [
  ⟨some 63, .move (.tmp 9), none⟩,
  ⟨some 64, .binOp .eql 24 (.tmp 63) (.const (.int .i64 0)) 24, none⟩,
  ⟨some 65, .move (.tmp 11), none⟩,
  ⟨some 66, .binOp .eql 4 (.tmp 64) (.tmp 65) 4, none⟩,
  ⟨some 67, .move (.tmp 66), none⟩,
  ⟨some 68, .move (.tmp 11), some (67, true)⟩,
  ⟨some 69, .unOp .not 4 (.tmp 68), some (67, true)⟩,
  ⟨some 70, .move (.tmp 69), some (67, true)⟩,
  ⟨some 71, .move (.tmp 8), some (70, false)⟩,
  ⟨some 72, .call { callee := .builtin .len, args := #[(.tmp 71)], argTypes := #[34] }, some (70, false)⟩,
  ⟨some 73, .move (.tmp 10), some (70, false)⟩,
  ⟨some 74, .binOp .eql 3 (.tmp 72) (.tmp 73) 3, some (70, false)⟩,
  ⟨some 75, .pick (.tmp 70) (.const (.bool true)) (.tmp 74), some (67, true)⟩,
  ⟨some 76, .pick (.tmp 67) (.tmp 75) (.const (.bool false)), none⟩,
  ⟨some 4, .assign (.tmp 76), none⟩]
def p7 : PC := (.seq (.reg r7_0) (.seq (.seq (.reg r7_1) (.cond (.tmp 13) (.seq (.reg r7_2) .ret) .skip)) (.seq (.seq (.reg r7_3) (.cond (.tmp 16) (.seq (.reg r7_4) .ret) .skip)) (.seq (.reg r7_5) (.seq (.reg r7_6) (.seq (.seq (.reg r7_7) (.block 0 (.loop b7_14))) (.seq (.seq (.reg r7_15) (.cond (.tmp 49) (.seq (.reg r7_16) .ret) .skip)) (.seq (.reg r7_17) (.seq (.reg r7_18) (.seq (.reg r7_19) .ret))))))))))
theorem comp7 : (Try.f7.body.map (comp E Try.f7.ntmps)) = some p7 := by kernel_rfl
theorem ev7 {args : List AV} {S : St} {P : AV → St → Prop} (hn : Nat.ble args.length 77 = true) (h : EndsA E 77 [.c p7] .nrm (initTm 0 args .leaf) S (RetQ E [.tmp 4] P)) : ∃ r S', EvA E 7 args S r S' ∧ P r S' := ev_ends (fn := Try.f7) (by kernel_rfl) rfl comp7 (by kernel_rfl) (by kernel_rfl) hn h
/-! hindsight/hindsightlaw21.SnapBack -/
def r8_0 : List POp := [
  ⟨some 4, .assign (.const (.bool false)), none⟩]
def r8_1 : List POp := [
  ⟨some 11, .call { callee := .value (.func 12), args := #[], argTypes := #[] }, none⟩,
  ⟨some 12, .unOp .not 4 (.tmp 11), none⟩]
def r8_2 : List POp := [
  ⟨some 4, .assign (.const (.bool false)), none⟩]
def r8_3 : List POp := [
  ⟨some 13, .move (.tmp 0), none⟩,
  ⟨some 14, .call { callee := .builtin .len, args := #[(.tmp 13)], argTypes := #[22] }, none⟩,
  ⟨some 15, .binOp .gtr 3 (.tmp 14) (.const (.int .i64 400)) 3, none⟩,
  ⟨some 16, .move (.tmp 15), none⟩,
  ⟨some 17, .move (.tmp 1), some (16, false)⟩,
  ⟨some 18, .call { callee := .builtin .len, args := #[(.tmp 17)], argTypes := #[22] }, some (16, false)⟩,
  ⟨some 19, .binOp .gtr 3 (.tmp 18) (.const (.int .i64 400)) 3, some (16, false)⟩,
  ⟨some 20, .pick (.tmp 16) (.const (.bool true)) (.tmp 19), none⟩]
def r8_4 : List POp := [
  ⟨some 4, .assign (.const (.bool true)), none⟩]
def r8_5 : List POp := [
  ⟨some 21, .move (.tmp 0), none⟩,
  ⟨some 22, .move (.tmp 1), none⟩,
  ⟨some 23, .call { callee := .value (.func 26), args := #[(.tmp 21), (.tmp 22)], argTypes := #[22, 22] }, none⟩,
  ⟨some 5, .assign (.tmp 23), none⟩]
def r8_6 : List POp := [
  ⟨some 25, .move (.tmp 0), none⟩,
  ⟨some 26, .move (.tmp 5), none⟩,
  ⟨some 27, .call { callee := .value (.func 13), args := #[(.tmp 25), (.tmp 26)], argTypes := #[22, 22] }, none⟩,
  ⟨some 24, .move (.tmp 27), none⟩,
  ⟨some 28, .extract (.tmp 24) 0, none⟩,
  ⟨some 29, .extract (.tmp 24) 1, none⟩,
  ⟨some 6, .assign (.tmp 28), none⟩,
  ⟨some 7, .assign (.tmp 29), none⟩]
def r8_7 : List POp := [
  ⟨some 31, .move (.tmp 0), none⟩,
  ⟨some 32, .move (.tmp 5), none⟩,
  ⟨some 33, .call { callee := .value (.func 14), args := #[(.tmp 31), (.tmp 32)], argTypes := #[22, 22] }, none⟩,
  ⟨some 30, .move (.tmp 33), none⟩,
  ⟨some 34, .extract (.tmp 30) 0, none⟩,
  ⟨some 35, .extract (.tmp 30) 1, none⟩,
  ⟨some 8, .assign (.tmp 34), none⟩,
  ⟨some 9, .assign (.tmp 35), none⟩]
def r8_8 : List POp := [
  ⟨some 36, .move (.tmp 0), none⟩,
  ⟨some 37, .move (.tmp 0), none⟩,
  ⟨some 38, .call { callee := .value (.func 26), args := #[(.tmp 36), (.tmp 37)], argTypes := #[22, 22] }, none⟩,
  ⟨some 10, .assign (.tmp 38), none⟩]
def r8_9 : List POp := [
  ⟨some 39, .move (.tmp 7), none⟩,
  ⟨some 40, .binOp .eql 24 (.tmp 39) (.const (.int .i64 0)) 24, none⟩,
  ⟨some 41, .move (.tmp 40), none⟩,
  ⟨some 42, .move (.tmp 9), some (41, true)⟩,
  ⟨some 43, .binOp .eql 24 (.tmp 42) (.const (.int .i64 0)) 24, some (41, true)⟩,
  ⟨some 44, .pick (.tmp 41) (.tmp 43) (.const (.bool false)), none⟩,
  ⟨some 45, .move (.tmp 44), none⟩,
  ⟨some 46, .move (.tmp 6), some (45, true)⟩,
  ⟨some 47, .convert 22 9 (.tmp 46), some (45, true)⟩,
  ⟨some 48, .move (.tmp 1), some (45, true)⟩,
  ⟨some 49, .convert 22 9 (.tmp 48), some (45, true)⟩,
  ⟨some 50, .binOp .eql 9 (.tmp 47) (.tmp 49) 9, some (45, true)⟩,
  ⟨some 51, .pick (.tmp 45) (.tmp 50) (.const (.bool false)), none⟩,
  ⟨some 52, .move (.tmp 51), none⟩,
  ⟨some 53, .move (.tmp 8), some (52, true)⟩,
  ⟨some 54, .convert 22 9 (.tmp 53), some (52, true)⟩,
  ⟨some 55, .move (.tmp 1), some (52, true)⟩,
  ⟨some 56, .convert 22 9 (.tmp 55), some (52, true)⟩,
  ⟨some 57, .binOp .eql 9 (.tmp 54) (.tmp 56) 9, some (52, true)⟩,
  ⟨some 58, .pick (.tmp 52) (.tmp 57) (.const (.bool false)), none⟩,
  ⟨some 59, .move (.tmp 58), none⟩,
  ⟨some 60, .move (.tmp 5), some (59, true)⟩,
  ⟨some 61, .call { callee := .builtin .len, args := #[(.tmp 60)], argTypes := #[22] }, some (59, true)⟩,
  ⟨some 62, .move (.tmp 1), some (59, true)⟩,
  ⟨some 63, .call { callee := .builtin .len, args := #[(.tmp 62)], argTypes := #[22] }, some (59, true)⟩,
  ⟨some 64, .binOp .add 3 (.tmp 63) (.const (.int .i64 8)) 3, some (59, true)⟩,
  ⟨some 65, .binOp .leq 3 (.tmp 61) (.tmp 64) 3, some (59, true)⟩,
  ⟨some 66, .pick (.tmp 59) (.tmp 65) (.const (.bool false)), none⟩,
  ⟨some 67, .move (.tmp 66), none⟩,
  ⟨some 68, .move (.tmp 10), some (67, true)⟩,
  ⟨some 69, .call { callee := .builtin .len, args := #[(.tmp 68)], argTypes := #[22] }, some (67, true)⟩,
  ⟨some 70, .binOp .leq 3 (.tmp 69) (.const (.int .i64 16)) 3, some (67, true)⟩,
  ⟨some 71, .pick (.tmp 67) (.tmp 70) (.const (.bool false)), none⟩,
  ⟨some 4, .assign (.tmp 71), none⟩]
def p8 : PC := (.seq (.reg r8_0) (.seq (.seq (.reg r8_1) (.cond (.tmp 12) (.seq (.reg r8_2) .ret) .skip)) (.seq (.seq (.reg r8_3) (.cond (.tmp 20) (.seq (.reg r8_4) .ret) .skip)) (.seq (.reg r8_5) (.seq (.reg r8_6) (.seq (.reg r8_7) (.seq (.reg r8_8) (.seq (.reg r8_9) .ret))))))))
theorem comp8 : (Try.f8.body.map (comp E Try.f8.ntmps)) = some p8 := by kernel_rfl
theorem ev8 {args : List AV} {S : St} {P : AV → St → Prop} (hn : Nat.ble args.length 72 = true) (h : EndsA E 72 [.c p8] .nrm (initTm 0 args .leaf) S (RetQ E [.tmp 4] P)) : ∃ r S', EvA E 8 args S r S' ∧ P r S' := ev_ends (fn := Try.f8) (by kernel_rfl) rfl comp8 (by kernel_rfl) (by kernel_rfl) hn h
/-! hindsight/hindsightlaw21.SnapLittle -/
def r10_0 : List POp := [
  ⟨some 6, .assign (.const (.bool false)), none⟩]
def r10_1 : List POp := [
  ⟨some 11, .call { callee := .value (.func 12), args := #[], argTypes := #[] }, none⟩,
  ⟨some 12, .unOp .not 4 (.tmp 11), none⟩]
def r10_2 : List POp := [
  ⟨some 6, .assign (.const (.bool false)), none⟩]
def r10_3 : List POp := [
  ⟨some 13, .move (.tmp 0), none⟩,
  ⟨some 14, .call { callee := .builtin .len, args := #[(.tmp 13)], argTypes := #[22] }, none⟩,
  ⟨some 15, .binOp .gtr 3 (.tmp 14) (.const (.int .i64 400)) 3, none⟩,
  ⟨some 16, .move (.tmp 15), none⟩,
  ⟨some 17, .move (.tmp 1), some (16, false)⟩,
  ⟨some 18, .binOp .lss 3 (.tmp 17) (.const (.int .i64 0)) 3, some (16, false)⟩,
  ⟨some 19, .pick (.tmp 16) (.const (.bool true)) (.tmp 18), none⟩,
  ⟨some 20, .move (.tmp 19), none⟩,
  ⟨some 21, .move (.tmp 1), some (20, false)⟩,
  ⟨some 22, .move (.tmp 0), some (20, false)⟩,
  ⟨some 23, .call { callee := .builtin .len, args := #[(.tmp 22)], argTypes := #[22] }, some (20, false)⟩,
  ⟨some 24, .binOp .geq 3 (.tmp 21) (.tmp 23) 3, some (20, false)⟩,
  ⟨some 25, .pick (.tmp 20) (.const (.bool true)) (.tmp 24), none⟩]
def r10_4 : List POp := [
  ⟨some 6, .assign (.const (.bool true)), none⟩]
def r10_5 : List POp := [
  ⟨some 26, .buildSlice 22 0 #[], none⟩,
  ⟨some 27, .move (.tmp 0), none⟩,
  ⟨some 28, .call { callee := .builtin .append, args := #[(.tmp 26), (.tmp 27)], argTypes := #[22, 22] }, none⟩,
  ⟨some 7, .assign (.tmp 28), none⟩]
def r10_6 : List POp := [
  ⟨some 29, .move (.tmp 7), none⟩,
  ⟨some 30, .move (.tmp 1), none⟩,
  ⟨some 31, .move (.tmp 7), none⟩,
  ⟨some 32, .move (.tmp 1), none⟩,
  ⟨some 33, .indexAddr 22 (.tmp 31) (.tmp 32), none⟩,
  ⟨some 34, .load 5 (.tmp 33), none⟩,
  ⟨some 35, .move (.tmp 2), none⟩,
  ⟨some 36, .binOp .add 5 (.tmp 34) (.tmp 35) 5, none⟩,
  ⟨some 37, .indexAddr 22 (.tmp 29) (.tmp 30), none⟩,
  ⟨none, .store 5 (.tmp 37) (.tmp 36), none⟩]
def r10_7 : List POp := [
  ⟨some 38, .move (.tmp 0), none⟩,
  ⟨some 39, .move (.tmp 7), none⟩,
  ⟨some 40, .call { callee := .value (.func 26), args := #[(.tmp 38), (.tmp 39)], argTypes := #[22, 22] }, none⟩,
  ⟨some 8, .assign (.tmp 40), none⟩]
def r10_8 : List POp := [
  ⟨some 42, .move (.tmp 0), none⟩,
  ⟨some 43, .move (.tmp 8), none⟩,
  ⟨some 44, .call { callee := .value (.func 13), args := #[(.tmp 42), (.tmp 43)], argTypes := #[22, 22] }, none⟩,
  ⟨some 41, .move (.tmp 44), none⟩,
  ⟨some 45, .extract (.tmp 41) 0, none⟩,
  ⟨some 46, .extract (.tmp 41) 1, none⟩,
  ⟨some 9, .assign (.tmp 45), none⟩,
  ⟨some 10, .assign (.tmp 46), none⟩]
def r10_9 : List POp := [
  ⟨some 47, .move (.tmp 10), none⟩,
  ⟨some 48, .binOp .eql 24 (.tmp 47) (.const (.int .i64 0)) 24, none⟩,
  ⟨some 49, .move (.tmp 48), none⟩,
  ⟨some 50, .move (.tmp 9), some (49, true)⟩,
  ⟨some 51, .convert 22 9 (.tmp 50), some (49, true)⟩,
  ⟨some 52, .move (.tmp 7), some (49, true)⟩,
  ⟨some 53, .convert 22 9 (.tmp 52), some (49, true)⟩,
  ⟨some 54, .binOp .eql 9 (.tmp 51) (.tmp 53) 9, some (49, true)⟩,
  ⟨some 55, .pick (.tmp 49) (.tmp 54) (.const (.bool false)), none⟩,
  ⟨some 56, .move (.tmp 55), none⟩,
  ⟨some 57, .move (.tmp 8), some (56, true)⟩,
  ⟨some 58, .call { callee := .builtin .len, args := #[(.tmp 57)], argTypes := #[22] }, some (56, true)⟩,
  ⟨some 59, .move (.tmp 0), some (56, true)⟩,
  ⟨some 60, .call { callee := .builtin .len, args := #[(.tmp 59)], argTypes := #[22] }, some (56, true)⟩,
  ⟨some 61, .binOp .add 3 (.tmp 60) (.const (.int .i64 8)) 3, some (56, true)⟩,
  ⟨some 62, .binOp .leq 3 (.tmp 58) (.tmp 61) 3, some (56, true)⟩,
  ⟨some 63, .pick (.tmp 56) (.tmp 62) (.const (.bool false)), none⟩,
  ⟨some 64, .move (.tmp 63), none⟩,
  ⟨some 65, .move (.tmp 7), some (64, true)⟩,
  ⟨some 66, .call { callee := .value (.func 15), args := #[(.tmp 65)], argTypes := #[22] }, some (64, true)⟩,
  ⟨some 67, .move (.tmp 0), some (64, true)⟩,
  ⟨some 68, .call { callee := .value (.func 15), args := #[(.tmp 67)], argTypes := #[22] }, some (64, true)⟩,
  ⟨some 69, .binOp .eql 27 (.tmp 66) (.tmp 68) 27, some (64, true)⟩,
  ⟨some 70, .move (.tmp 2), some (64, true)⟩,
  ⟨some 71, .binOp .eql 5 (.tmp 70) (.const (.int .u8 0)) 5, some (64, true)⟩,
  ⟨some 72, .binOp .eql 4 (.tmp 69) (.tmp 71) 4, some (64, true)⟩,
  ⟨some 73, .pick (.tmp 64) (.tmp 72) (.const (.bool false)), none⟩,
  ⟨some 6, .assign (.tmp 73), none⟩]
def p10 : PC := (.seq (.reg r10_0) (.seq (.seq (.reg r10_1) (.cond (.tmp 12) (.seq (.reg r10_2) .ret) .skip)) (.seq (.seq (.reg r10_3) (.cond (.tmp 25) (.seq (.reg r10_4) .ret) .skip)) (.seq (.reg r10_5) (.seq (.reg r10_6) (.seq (.reg r10_7) (.seq (.reg r10_8) (.seq (.reg r10_9) .ret))))))))
theorem comp10 : (Try.f10.body.map (comp E Try.f10.ntmps)) = some p10 := by kernel_rfl
theorem ev10 {args : List AV} {S : St} {P : AV → St → Prop} (hn : Nat.ble args.length 74 = true) (h : EndsA E 74 [.c p10] .nrm (initTm 0 args .leaf) S (RetQ E [.tmp 6] P)) : ∃ r S', EvA E 10 args S r S' ∧ P r S' := ev_ends (fn := Try.f10) (by kernel_rfl) rfl comp10 (by kernel_rfl) (by kernel_rfl) hn h
/-! hindsight/hindsightlaw21.SnapEnds -/
def r11_0 : List POp := [
  ⟨some 2, .assign (.const (.bool false)), none⟩]
def r11_1 : List POp := [
  ⟨some 9, .call { callee := .value (.func 12), args := #[], argTypes := #[] }, none⟩,
  ⟨some 10, .unOp .not 4 (.tmp 9), none⟩]
def r11_2 : List POp := [
  ⟨some 2, .assign (.const (.bool false)), none⟩]
def r11_3 : List POp := [
  ⟨some 11, .move (.tmp 0), none⟩,
  ⟨some 12, .call { callee := .builtin .len, args := #[(.tmp 11)], argTypes := #[22] }, none⟩,
  ⟨some 13, .binOp .gtr 3 (.tmp 12) (.const (.int .i64 400)) 3, none⟩]
def r11_4 : List POp := [
  ⟨some 2, .assign (.const (.bool true)), none⟩]
def r11_5 : List POp := [
  ⟨some 15, .move (.tmp 0), none⟩,
  ⟨some 16, .move (.tmp 0), none⟩,
  ⟨some 17, .call { callee := .value (.func 26), args := #[(.tmp 16), (.const (.slice none 0 0))], argTypes := #[22, 22] }, none⟩,
  ⟨some 18, .call { callee := .value (.func 13), args := #[(.tmp 15), (.tmp 17)], argTypes := #[22, 22] }, none⟩,
  ⟨some 14, .move (.tmp 18), none⟩,
  ⟨some 19, .extract (.tmp 14) 0, none⟩,
  ⟨some 20, .extract (.tmp 14) 1, none⟩,
  ⟨some 3, .assign (.tmp 19), none⟩,
  ⟨some 4, .assign (.tmp 20), none⟩]
def r11_6 : List POp := [
  ⟨some 22, .move (.tmp 0), none⟩,
  ⟨some 23, .call { callee := .value (.func 26), args := #[(.const (.slice none 0 0)), (.tmp 22)], argTypes := #[22, 22] }, none⟩,
  ⟨some 24, .call { callee := .value (.func 13), args := #[(.const (.slice none 0 0)), (.tmp 23)], argTypes := #[22, 22] }, none⟩,
  ⟨some 21, .move (.tmp 24), none⟩,
  ⟨some 25, .extract (.tmp 21) 0, none⟩,
  ⟨some 26, .extract (.tmp 21) 1, none⟩,
  ⟨some 5, .assign (.tmp 25), none⟩,
  ⟨some 6, .assign (.tmp 26), none⟩]
def r11_7 : List POp := [
  ⟨some 28, .move (.tmp 0), none⟩,
  ⟨some 29, .call { callee := .value (.func 13), args := #[(.tmp 28), (.const (.slice none 0 0))], argTypes := #[22, 22] }, none⟩,
  ⟨some 27, .move (.tmp 29), none⟩,
  ⟨some 30, .extract (.tmp 27) 0, none⟩,
  ⟨some 31, .extract (.tmp 27) 1, none⟩,
  ⟨some 7, .assign (.tmp 30), none⟩,
  ⟨some 8, .assign (.tmp 31), none⟩]
def r11_8 : List POp := [
  ⟨some 32, .move (.tmp 4), none⟩,
  ⟨some 33, .binOp .eql 24 (.tmp 32) (.const (.int .i64 0)) 24, none⟩,
  ⟨some 34, .move (.tmp 33), none⟩,
  ⟨some 35, .move (.tmp 3), some (34, true)⟩,
  ⟨some 36, .call { callee := .builtin .len, args := #[(.tmp 35)], argTypes := #[22] }, some (34, true)⟩,
  ⟨some 37, .binOp .eql 3 (.tmp 36) (.const (.int .i64 0)) 3, some (34, true)⟩,
  ⟨some 38, .pick (.tmp 34) (.tmp 37) (.const (.bool false)), none⟩,
  ⟨some 39, .move (.tmp 38), none⟩,
  ⟨some 40, .move (.tmp 6), some (39, true)⟩,
  ⟨some 41, .binOp .eql 24 (.tmp 40) (.const (.int .i64 0)) 24, some (39, true)⟩,
  ⟨some 42, .pick (.tmp 39) (.tmp 41) (.const (.bool false)), none⟩,
  ⟨some 43, .move (.tmp 42), none⟩,
  ⟨some 44, .move (.tmp 5), some (43, true)⟩,
  ⟨some 45, .convert 22 9 (.tmp 44), some (43, true)⟩,
  ⟨some 46, .move (.tmp 0), some (43, true)⟩,
  ⟨some 47, .convert 22 9 (.tmp 46), some (43, true)⟩,
  ⟨some 48, .binOp .eql 9 (.tmp 45) (.tmp 47) 9, some (43, true)⟩,
  ⟨some 49, .pick (.tmp 43) (.tmp 48) (.const (.bool false)), none⟩,
  ⟨some 50, .move (.tmp 49), none⟩,
  ⟨some 51, .move (.tmp 8), some (50, true)⟩,
  ⟨some 52, .binOp .eql 24 (.tmp 51) (.const (.int .i64 0)) 24, some (50, true)⟩,
  ⟨some 53, .pick (.tmp 50) (.tmp 52) (.const (.bool false)), none⟩,
  ⟨some 54, .move (.tmp 53), none⟩,
  ⟨some 55, .move (.tmp 7), some (54, true)⟩,
  ⟨some 56, .call { callee := .builtin .len, args := #[(.tmp 55)], argTypes := #[22] }, some (54, true)⟩,
  ⟨some 57, .binOp .eql 3 (.tmp 56) (.const (.int .i64 0)) 3, some (54, true)⟩,
  ⟨some 58, .pick (.tmp 54) (.tmp 57) (.const (.bool false)), none⟩,
  ⟨some 59, .move (.tmp 58), none⟩,
  ⟨some 60, .call { callee := .value (.func 26), args := #[(.const (.slice none 0 0)), (.const (.slice none 0 0))], argTypes := #[22, 22] }, some (59, true)⟩,
  ⟨some 61, .call { callee := .builtin .len, args := #[(.tmp 60)], argTypes := #[22] }, some (59, true)⟩,
  ⟨some 62, .binOp .leq 3 (.tmp 61) (.const (.int .i64 8)) 3, some (59, true)⟩,
  ⟨some 63, .pick (.tmp 59) (.tmp 62) (.const (.bool false)), none⟩,
  ⟨some 64, .move (.tmp 63), none⟩,
  ⟨some 65, .call { callee := .value (.func 15), args := #[(.const (.slice none 0 0))], argTypes := #[22] }, some (64, true)⟩,
  ⟨some 66, .binOp .eql 27 (.tmp 65) (.const (.int .u64 14695981039346656037)) 27, some (64, true)⟩,
  ⟨some 67, .pick (.tmp 64) (.tmp 66) (.const (.bool false)), none⟩,
  ⟨some 2, .assign (.tmp 67), none⟩]
def p11 : PC := (.seq (.reg r11_0) (.seq (.seq (.reg r11_1) (.cond (.tmp 10) (.seq (.reg r11_2) .ret) .skip)) (.seq (.seq (.reg r11_3) (.cond (.tmp 13) (.seq (.reg r11_4) .ret) .skip)) (.seq (.reg r11_5) (.seq (.reg r11_6) (.seq (.reg r11_7) (.seq (.reg r11_8) .ret)))))))
theorem comp11 : (Try.f11.body.map (comp E Try.f11.ntmps)) = some p11 := by kernel_rfl
theorem ev11 {args : List AV} {S : St} {P : AV → St → Prop} (hn : Nat.ble args.length 68 = true) (h : EndsA E 68 [.c p11] .nrm (initTm 0 args .leaf) S (RetQ E [.tmp 2] P)) : ∃ r S', EvA E 11 args S r S' ∧ P r S' := ev_ends (fn := Try.f11) (by kernel_rfl) rfl comp11 (by kernel_rfl) (by kernel_rfl) hn h
end Go.Proofs.Ytpahkfadibcdgaa
