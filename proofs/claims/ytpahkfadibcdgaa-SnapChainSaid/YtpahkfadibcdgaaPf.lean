/-
  The compiled code of functions of this seat's program: written by program (wip/GenPC.lean); the kernel checks each row.
-/
import Derived.Test.YtpahkfadibcdgaaPc
import Derived.Test.YtpahkfadibcdgaaAbs18
set_option linter.unusedSimpArgs false
set_option linter.unusedVariables false
namespace Go.Proofs.Ytpahkfadibcdgaa
open Go.Abs
/-! hindsight/hindsightlaw21.SnapChain -/
def r9_0 : List POp := [
  ⟨some 2, .assign (.const (.bool false)), none⟩]
def r9_1 : List POp := [
  ⟨some 13, .call { callee := .value (.func 12), args := #[], argTypes := #[] }, none⟩,
  ⟨some 14, .unOp .not 4 (.tmp 13), none⟩]
def r9_2 : List POp := [
  ⟨some 2, .assign (.const (.bool false)), none⟩]
def r9_3 : List POp := [
  ⟨some 15, .move (.tmp 0), none⟩,
  ⟨some 16, .call { callee := .builtin .len, args := #[(.tmp 15)], argTypes := #[51] }, none⟩,
  ⟨some 17, .binOp .gtr 3 (.tmp 16) (.const (.int .i64 10)) 3, none⟩]
def r9_4 : List POp := [
  ⟨some 2, .assign (.const (.bool true)), none⟩]
def r9_5 : List POp := [
  ⟨some 3, .assign (.const (.slice none 0 0)), none⟩]
def r9_6 : List POp := [
  ⟨some 4, .assign (.const (.slice none 0 0)), none⟩,
  ⟨some 5, .assign (.const (.slice none 0 0)), none⟩]
def r9_7 : List POp := [
  ⟨some 6, .assign (.const (.int .i64 0)), none⟩]
def r9_8 : List POp := [
  ⟨some 18, .move (.tmp 6), none⟩,
  ⟨some 19, .move (.tmp 0), none⟩,
  ⟨some 20, .call { callee := .builtin .len, args := #[(.tmp 19)], argTypes := #[51] }, none⟩,
  ⟨some 21, .binOp .lss 3 (.tmp 18) (.tmp 20) 3, none⟩]
def r9_9 : List POp := [
  ⟨some 24, .move (.tmp 0), none⟩,
  ⟨some 25, .move (.tmp 6), none⟩,
  ⟨some 26, .indexAddr 51 (.tmp 24) (.tmp 25), none⟩,
  ⟨some 27, .load 22 (.tmp 26), none⟩,
  ⟨some 28, .call { callee := .builtin .len, args := #[(.tmp 27)], argTypes := #[22] }, none⟩,
  ⟨some 29, .binOp .gtr 3 (.tmp 28) (.const (.int .i64 200)) 3, none⟩]
def r9_10 : List POp := [
  ⟨some 2, .assign (.const (.bool true)), none⟩]
def r9_11 : List POp := [
  ⟨some 30, .move (.tmp 4), none⟩,
  ⟨some 31, .move (.tmp 3), none⟩,
  ⟨some 32, .move (.tmp 0), none⟩,
  ⟨some 33, .move (.tmp 6), none⟩,
  ⟨some 34, .indexAddr 51 (.tmp 32) (.tmp 33), none⟩,
  ⟨some 35, .load 22 (.tmp 34), none⟩,
  ⟨some 36, .call { callee := .value (.func 26), args := #[(.tmp 31), (.tmp 35)], argTypes := #[22, 22] }, none⟩,
  ⟨some 37, .buildSlice 51 1 #[(0, (.tmp 36))], none⟩,
  ⟨some 38, .call { callee := .builtin .append, args := #[(.tmp 30), (.tmp 37)], argTypes := #[51, 51] }, none⟩,
  ⟨some 39, .move (.tmp 5), none⟩,
  ⟨some 40, .move (.tmp 0), none⟩,
  ⟨some 41, .move (.tmp 6), none⟩,
  ⟨some 42, .indexAddr 51 (.tmp 40) (.tmp 41), none⟩,
  ⟨some 43, .load 22 (.tmp 42), none⟩,
  ⟨some 44, .move (.tmp 3), none⟩,
  ⟨some 45, .call { callee := .value (.func 26), args := #[(.tmp 43), (.tmp 44)], argTypes := #[22, 22] }, none⟩,
  ⟨some 46, .buildSlice 51 1 #[(0, (.tmp 45))], none⟩,
  ⟨some 47, .call { callee := .builtin .append, args := #[(.tmp 39), (.tmp 46)], argTypes := #[51, 51] }, none⟩,
  ⟨some 4, .assign (.tmp 38), none⟩,
  ⟨some 5, .assign (.tmp 47), none⟩]
noncomputable def d9_0 : Array Oper := match Try.f9.body.map (comp E Try.f9.ntmps) with | some p => p.draws.getD 0 #[] | none => #[]
theorem draw9_0 : DrawIs E 123 d9_0 20 r9_11 [(.tmp 42)] := ⟨by kernel_rfl, by kernel_rfl, by kernel_rfl, by kernel_rfl, by kernel_rfl⟩
def r9_12 : List POp := [
  ⟨some 48, .move (.tmp 0), none⟩,
  ⟨some 49, .move (.tmp 6), none⟩,
  ⟨some 50, .indexAddr 51 (.tmp 48) (.tmp 49), none⟩,
  ⟨some 51, .load 22 (.tmp 50), none⟩,
  ⟨some 3, .assign (.tmp 51), none⟩]
def r9_13 : List POp := [
  ⟨some 22, .move (.tmp 6), none⟩,
  ⟨some 23, .binOp .add 3 (.tmp 22) (.const (.int .i64 1)) 3, none⟩,
  ⟨some 6, .assign (.tmp 23), none⟩]
noncomputable def b9_14 : PC := (.seq (.seq (.reg r9_8) (.cond (.tmp 21) .skip (.exit 0))) (.seq (.block 1 (.seq (.seq (.reg r9_9) (.cond (.tmp 29) (.seq (.reg r9_10) .ret) .skip)) (.seq (.draw d9_0) (.reg r9_12)))) (.reg r9_13)))
def r9_15 : List POp := [
  ⟨some 3, .assign (.const (.slice none 0 0)), none⟩]
def r9_16 : List POp := [
  ⟨some 7, .assign (.const (.int .i64 0)), none⟩]
def r9_17 : List POp := [
  ⟨some 52, .move (.tmp 7), none⟩,
  ⟨some 53, .move (.tmp 0), none⟩,
  ⟨some 54, .call { callee := .builtin .len, args := #[(.tmp 53)], argTypes := #[51] }, none⟩,
  ⟨some 55, .binOp .lss 3 (.tmp 52) (.tmp 54) 3, none⟩]
def r9_18 : List POp := [
  ⟨some 59, .move (.tmp 3), none⟩,
  ⟨some 60, .move (.tmp 4), none⟩,
  ⟨some 61, .move (.tmp 7), none⟩,
  ⟨some 62, .indexAddr 51 (.tmp 60) (.tmp 61), none⟩,
  ⟨some 63, .load 22 (.tmp 62), none⟩,
  ⟨some 64, .call { callee := .value (.func 13), args := #[(.tmp 59), (.tmp 63)], argTypes := #[22, 22] }, none⟩,
  ⟨some 58, .move (.tmp 64), none⟩,
  ⟨some 65, .extract (.tmp 58) 0, none⟩,
  ⟨some 66, .extract (.tmp 58) 1, none⟩,
  ⟨some 8, .assign (.tmp 65), none⟩,
  ⟨some 9, .assign (.tmp 66), none⟩]
def r9_19 : List POp := [
  ⟨some 67, .move (.tmp 9), none⟩,
  ⟨some 68, .binOp .neq 24 (.tmp 67) (.const (.int .i64 0)) 24, none⟩,
  ⟨some 69, .move (.tmp 68), none⟩,
  ⟨some 70, .move (.tmp 8), some (69, false)⟩,
  ⟨some 71, .convert 22 9 (.tmp 70), some (69, false)⟩,
  ⟨some 72, .move (.tmp 0), some (69, false)⟩,
  ⟨some 73, .move (.tmp 7), some (69, false)⟩,
  ⟨some 74, .indexAddr 51 (.tmp 72) (.tmp 73), some (69, false)⟩,
  ⟨some 75, .load 22 (.tmp 74), some (69, false)⟩,
  ⟨some 76, .convert 22 9 (.tmp 75), some (69, false)⟩,
  ⟨some 77, .binOp .neq 9 (.tmp 71) (.tmp 76) 9, some (69, false)⟩,
  ⟨some 78, .pick (.tmp 69) (.const (.bool true)) (.tmp 77), none⟩]
def r9_20 : List POp := [
  ⟨some 2, .assign (.const (.bool false)), none⟩]
def r9_21 : List POp := [
  ⟨some 79, .move (.tmp 8), none⟩,
  ⟨some 3, .assign (.tmp 79), none⟩]
def r9_22 : List POp := [
  ⟨some 56, .move (.tmp 7), none⟩,
  ⟨some 57, .binOp .add 3 (.tmp 56) (.const (.int .i64 1)) 3, none⟩,
  ⟨some 7, .assign (.tmp 57), none⟩]
noncomputable def b9_23 : PC := (.seq (.seq (.reg r9_17) (.cond (.tmp 55) .skip (.exit 2))) (.seq (.block 3 (.seq (.reg r9_18) (.seq (.seq (.regD 12 r9_19) (.cond (.tmp 78) (.seq (.reg r9_20) .ret) .skip)) (.reg r9_21)))) (.reg r9_22)))
def r9_24 : List POp := [
  ⟨some 80, .move (.tmp 0), none⟩,
  ⟨some 81, .call { callee := .builtin .len, args := #[(.tmp 80)], argTypes := #[51] }, none⟩,
  ⟨some 82, .binOp .sub 3 (.tmp 81) (.const (.int .i64 1)) 3, none⟩,
  ⟨some 10, .assign (.tmp 82), none⟩]
def r9_25 : List POp := [
  ⟨some 83, .move (.tmp 10), none⟩,
  ⟨some 84, .binOp .geq 3 (.tmp 83) (.const (.int .i64 0)) 3, none⟩]
def r9_26 : List POp := [
  ⟨some 88, .move (.tmp 3), none⟩,
  ⟨some 89, .move (.tmp 5), none⟩,
  ⟨some 90, .move (.tmp 10), none⟩,
  ⟨some 91, .indexAddr 51 (.tmp 89) (.tmp 90), none⟩,
  ⟨some 92, .load 22 (.tmp 91), none⟩,
  ⟨some 93, .call { callee := .value (.func 13), args := #[(.tmp 88), (.tmp 92)], argTypes := #[22, 22] }, none⟩,
  ⟨some 87, .move (.tmp 93), none⟩,
  ⟨some 94, .extract (.tmp 87) 0, none⟩,
  ⟨some 95, .extract (.tmp 87) 1, none⟩,
  ⟨some 11, .assign (.tmp 94), none⟩,
  ⟨some 12, .assign (.tmp 95), none⟩]
def r9_27 : List POp := [
  ⟨some 96, .move (.tmp 12), none⟩,
  ⟨some 97, .binOp .neq 24 (.tmp 96) (.const (.int .i64 0)) 24, none⟩,
  ⟨some 98, .move (.tmp 97), none⟩,
  ⟨some 99, .move (.tmp 10), some (98, false)⟩,
  ⟨some 100, .binOp .gtr 3 (.tmp 99) (.const (.int .i64 0)) 3, some (98, false)⟩,
  ⟨some 101, .move (.tmp 100), some (98, false)⟩,
  ⟨some 102, .move (.tmp 11), some (101, true)⟩,
  ⟨some 103, .convert 22 9 (.tmp 102), some (101, true)⟩,
  ⟨some 104, .move (.tmp 0), some (101, true)⟩,
  ⟨some 105, .move (.tmp 10), some (101, true)⟩,
  ⟨some 106, .binOp .sub 3 (.tmp 105) (.const (.int .i64 1)) 3, some (101, true)⟩,
  ⟨some 107, .indexAddr 51 (.tmp 104) (.tmp 106), some (101, true)⟩,
  ⟨some 108, .load 22 (.tmp 107), some (101, true)⟩,
  ⟨some 109, .convert 22 9 (.tmp 108), some (101, true)⟩,
  ⟨some 110, .binOp .neq 9 (.tmp 103) (.tmp 109) 9, some (101, true)⟩,
  ⟨some 111, .pick (.tmp 101) (.tmp 110) (.const (.bool false)), some (98, false)⟩,
  ⟨some 112, .pick (.tmp 98) (.const (.bool true)) (.tmp 111), none⟩,
  ⟨some 113, .move (.tmp 112), none⟩,
  ⟨some 114, .move (.tmp 10), some (113, false)⟩,
  ⟨some 115, .binOp .eql 3 (.tmp 114) (.const (.int .i64 0)) 3, some (113, false)⟩,
  ⟨some 116, .move (.tmp 115), some (113, false)⟩,
  ⟨some 117, .move (.tmp 11), some (116, true)⟩,
  ⟨some 118, .call { callee := .builtin .len, args := #[(.tmp 117)], argTypes := #[22] }, some (116, true)⟩,
  ⟨some 119, .binOp .neq 3 (.tmp 118) (.const (.int .i64 0)) 3, some (116, true)⟩,
  ⟨some 120, .pick (.tmp 116) (.tmp 119) (.const (.bool false)), some (113, false)⟩,
  ⟨some 121, .pick (.tmp 113) (.const (.bool true)) (.tmp 120), none⟩]
def r9_28 : List POp := [
  ⟨some 2, .assign (.const (.bool false)), none⟩]
def r9_29 : List POp := [
  ⟨some 122, .move (.tmp 11), none⟩,
  ⟨some 3, .assign (.tmp 122), none⟩]
def r9_30 : List POp := [
  ⟨some 85, .move (.tmp 10), none⟩,
  ⟨some 86, .binOp .sub 3 (.tmp 85) (.const (.int .i64 1)) 3, none⟩,
  ⟨some 10, .assign (.tmp 86), none⟩]
noncomputable def b9_31 : PC := (.seq (.seq (.reg r9_25) (.cond (.tmp 84) .skip (.exit 4))) (.seq (.block 5 (.seq (.reg r9_26) (.seq (.seq (.regD 26 r9_27) (.cond (.tmp 121) (.seq (.reg r9_28) .ret) .skip)) (.reg r9_29)))) (.reg r9_30)))
def r9_32 : List POp := [
  ⟨some 2, .assign (.const (.bool true)), none⟩]
noncomputable def p9 : PC := (.seq (.reg r9_0) (.seq (.seq (.reg r9_1) (.cond (.tmp 14) (.seq (.reg r9_2) .ret) .skip)) (.seq (.seq (.reg r9_3) (.cond (.tmp 17) (.seq (.reg r9_4) .ret) .skip)) (.seq (.reg r9_5) (.seq (.reg r9_6) (.seq (.seq (.reg r9_7) (.block 0 (.loop b9_14))) (.seq (.reg r9_15) (.seq (.seq (.reg r9_16) (.block 2 (.loop b9_23))) (.seq (.seq (.reg r9_24) (.block 4 (.loop b9_31))) (.seq (.reg r9_32) .ret))))))))))
theorem comp9 : (Try.f9.body.map (comp E Try.f9.ntmps)) = some p9 := by kernel_rfl
theorem ev9 {args : List AV} {S : St} {P : AV → St → Prop} (hn : Nat.ble args.length 123 = true) (h : EndsA E 123 [.c p9] .nrm (initTm 0 args .leaf) S (RetQ E [.tmp 2] P)) : ∃ r S', EvA E 9 args S r S' ∧ P r S' := ev_ends (fn := Try.f9) (by kernel_rfl) rfl comp9 (by kernel_rfl) (by kernel_rfl) hn h
end Go.Proofs.Ytpahkfadibcdgaa
