/-
  The compiled code of functions of this seat's program: written by program (wip/GenPC.lean); the kernel checks each row.
-/
import Derived.Test.YtpahkfadibcdgaaPc
import Derived.Test.YtpahkfadibcdgaaAbs18
set_option linter.unusedSimpArgs false
set_option linter.unusedVariables false
namespace Go.Proofs.Ytpahkfadibcdgaa
open Go.Abs
/-! hindsight/hindsightlaw21.SnapLittle -/
def r10_0 : List POp := [
  ⟨some 6, .assign (.const (.bool false)), none⟩]
def r10_1 : List POp := [
  ⟨some 11, .call { callee := .value (.func 12), args := #[], argTypes := #[] }, none⟩,
  ⟨some 12, .unOp .not 4 (.tmp 11), none⟩]
def r10_2 : List POp := [
  ⟨some 6, .assign (.const (.bool false)), none⟩]
def r10_3 : List POp := [
  ⟨some 13, .move (.tmp 0), none⟩,
  ⟨some 14, .call { callee := .builtin .len, args := #[(.tmp 13)], argTypes := #[22] }, none⟩,
  ⟨some 15, .binOp .gtr 3 (.tmp 14) (.const (.int .i64 400)) 3, none⟩,
  ⟨some 16, .move (.tmp 15), none⟩,
  ⟨some 17, .move (.tmp 1), some (16, false)⟩,
  ⟨some 18, .binOp .lss 3 (.tmp 17) (.const (.int .i64 0)) 3, some (16, false)⟩,
  ⟨some 19, .pick (.tmp 16) (.const (.bool true)) (.tmp 18), none⟩,
  ⟨some 20, .move (.tmp 19), none⟩,
  ⟨some 21, .move (.tmp 1), some (20, false)⟩,
  ⟨some 22, .move (.tmp 0), some (20, false)⟩,
  ⟨some 23, .call { callee := .builtin .len, args := #[(.tmp 22)], argTypes := #[22] }, some (20, false)⟩,
  ⟨some 24, .binOp .geq 3 (.tmp 21) (.tmp 23) 3, some (20, false)⟩,
  ⟨some 25, .pick (.tmp 20) (.const (.bool true)) (.tmp 24), none⟩]
def r10_4 : List POp := [
  ⟨some 6, .assign (.const (.bool true)), none⟩]
def r10_5 : List POp := [
  ⟨some 26, .buildSlice 22 0 #[], none⟩,
  ⟨some 27, .move (.tmp 0), none⟩,
  ⟨some 28, .call { callee := .builtin .append, args := #[(.tmp 26), (.tmp 27)], argTypes := #[22, 22] }, none⟩,
  ⟨some 7, .assign (.tmp 28), none⟩]
def r10_6 : List POp := [
  ⟨some 29, .move (.tmp 7), none⟩,
  ⟨some 30, .move (.tmp 1), none⟩,
  ⟨some 31, .move (.tmp 7), none⟩,
  ⟨some 32, .move (.tmp 1), none⟩,
  ⟨some 33, .indexAddr 22 (.tmp 31) (.tmp 32), none⟩,
  ⟨some 34, .load 5 (.tmp 33), none⟩,
  ⟨some 35, .move (.tmp 2), none⟩,
  ⟨some 36, .binOp .add 5 (.tmp 34) (.tmp 35) 5, none⟩,
  ⟨some 37, .indexAddr 22 (.tmp 29) (.tmp 30), none⟩,
  ⟨none, .store 5 (.tmp 37) (.tmp 36), none⟩]
def r10_7 : List POp := [
  ⟨some 38, .move (.tmp 0), none⟩,
  ⟨some 39, .move (.tmp 7), none⟩,
  ⟨some 40, .call { callee := .value (.func 26), args := #[(.tmp 38), (.tmp 39)], argTypes := #[22, 22] }, none⟩,
  ⟨some 8, .assign (.tmp 40), none⟩]
def r10_8 : List POp := [
  ⟨some 42, .move (.tmp 0), none⟩,
  ⟨some 43, .move (.tmp 8), none⟩,
  ⟨some 44, .call { callee := .value (.func 13), args := #[(.tmp 42), (.tmp 43)], argTypes := #[22, 22] }, none⟩,
  ⟨some 41, .move (.tmp 44), none⟩,
  ⟨some 45, .extract (.tmp 41) 0, none⟩,
  ⟨some 46, .extract (.tmp 41) 1, none⟩,
  ⟨some 9, .assign (.tmp 45), none⟩,
  ⟨some 10, .assign (.tmp 46), none⟩]
def r10_9 : List POp := [
  ⟨some 47, .move (.tmp 10), none⟩,
  ⟨some 48, .binOp .eql 24 (.tmp 47) (.const (.int .i64 0)) 24, none⟩,
  ⟨some 49, .move (.tmp 48), none⟩,
  ⟨some 50, .move (.tmp 9), some (49, true)⟩,
  ⟨some 51, .convert 22 9 (.tmp 50), some (49, true)⟩,
  ⟨some 52, .move (.tmp 7), some (49, true)⟩,
  ⟨some 53, .convert 22 9 (.tmp 52), some (49, true)⟩,
  ⟨some 54, .binOp .eql 9 (.tmp 51) (.tmp 53) 9, some (49, true)⟩,
  ⟨some 55, .pick (.tmp 49) (.tmp 54) (.const (.bool false)), none⟩,
  ⟨some 56, .move (.tmp 55), none⟩,
  ⟨some 57, .move (.tmp 8), some (56, true)⟩,
  ⟨some 58, .call { callee := .builtin .len, args := #[(.tmp 57)], argTypes := #[22] }, some (56, true)⟩,
  ⟨some 59, .move (.tmp 0), some (56, true)⟩,
  ⟨some 60, .call { callee := .builtin .len, args := #[(.tmp 59)], argTypes := #[22] }, some (56, true)⟩,
  ⟨some 61, .binOp .add 3 (.tmp 60) (.const (.int .i64 8)) 3, some (56, true)⟩,
  ⟨some 62, .binOp .leq 3 (.tmp 58) (.tmp 61) 3, some (56, true)⟩,
  ⟨some 63, .pick (.tmp 56) (.tmp 62) (.const (.bool false)), none⟩,
  ⟨some 64, .move (.tmp 63), none⟩,
  ⟨some 65, .move (.tmp 7), some (64, true)⟩,
  ⟨some 66, .call { callee := .value (.func 15), args := #[(.tmp 65)], argTypes := #[22] }, some (64, true)⟩,
  ⟨some 67, .move (.tmp 0), some (64, true)⟩,
  ⟨some 68, .call { callee := .value (.func 15), args := #[(.tmp 67)], argTypes := #[22] }, some (64, true)⟩,
  ⟨some 69, .binOp .eql 27 (.tmp 66) (.tmp 68) 27, some (64, true)⟩,
  ⟨some 70, .move (.tmp 2), some (64, true)⟩,
  ⟨some 71, .binOp .eql 5 (.tmp 70) (.const (.int .u8 0)) 5, some (64, true)⟩,
  ⟨some 72, .binOp .eql 4 (.tmp 69) (.tmp 71) 4, some (64, true)⟩,
  ⟨some 73, .pick (.tmp 64) (.tmp 72) (.const (.bool false)), none⟩,
  ⟨some 6, .assign (.tmp 73), none⟩]
def p10 : PC := (.seq (.reg r10_0) (.seq (.seq (.reg r10_1) (.cond (.tmp 12) (.seq (.reg r10_2) .ret) .skip)) (.seq (.seq (.reg r10_3) (.cond (.tmp 25) (.seq (.reg r10_4) .ret) .skip)) (.seq (.reg r10_5) (.seq (.reg r10_6) (.seq (.reg r10_7) (.seq (.reg r10_8) (.seq (.reg r10_9) .ret))))))))
theorem comp10 : (Try.f10.body.map (comp E Try.f10.ntmps)) = some p10 := by kernel_rfl
theorem ev10 {args : List AV} {S : St} {P : AV → St → Prop} (hn : Nat.ble args.length 74 = true) (h : EndsA E 74 [.c p10] .nrm (initTm 0 args .leaf) S (RetQ E [.tmp 6] P)) : ∃ r S', EvA E 10 args S r S' ∧ P r S' := ev_ends (fn := Try.f10) (by kernel_rfl) rfl comp10 (by kernel_rfl) (by kernel_rfl) hn h
end Go.Proofs.Ytpahkfadibcdgaa
