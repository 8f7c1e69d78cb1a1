/-
  The compiled code of functions of this seat's program: written by program (wip/GenPC.lean); the kernel checks each row.
-/
import Derived.Test.YtaacibffjmbfiaaDoorPc
import Derived.Test.YtaacibffjmbfiaaDoorAbs24
set_option linter.unusedSimpArgs false
set_option linter.unusedVariables false
set_option maxRecDepth 100000
namespace Go.Proofs.YtaacibffjmbfiaaDoor
open Go.Abs
/-! hindsight/scheme.Close -/
def r15_0 : List POp := [
  ⟨some 4, .box 24 (.tmp 1), none⟩,
  ⟨some 6, .alloc 34, none⟩]
def r15_1 : List POp := [
  ⟨some 15, .load 24 (.tmp 4), none⟩,
  ⟨some 16, .call { callee := .value (.func 10), args := #[(.tmp 15)], argTypes := #[24] }, none⟩,
  ⟨some 17, .unOp .not 4 (.tmp 16), none⟩,
  ⟨some 18, .move (.tmp 17), none⟩,
  ⟨some 19, .move (.tmp 2), some (18, false)⟩,
  ⟨some 20, .call { callee := .value (.func 37), args := #[(.tmp 19), (.func 38)], argTypes := #[25, 35] }, some (18, false)⟩,
  ⟨some 21, .pick (.tmp 18) (.const (.bool true)) (.tmp 20), none⟩]
def r15_2 : List POp := [
  ⟨some 22, .load 24 (.tmp 4), none⟩,
  ⟨some 23, .call { callee := .value (.func 18), args := #[(.tmp 22)], argTypes := #[24] }, none⟩,
  ⟨none, .store 34 (.tmp 6) (.tmp 23), none⟩]
def r15_3 : List POp := [
  ⟨some 24, .makeMap 76 none, none⟩,
  ⟨some 7, .assign (.tmp 24), none⟩]
def r15_4 : List POp := [
  ⟨some 25, .move (.tmp 2), none⟩,
  ⟨some 26, .call { callee := .builtin .len, args := #[(.tmp 25)], argTypes := #[25] }, none⟩,
  ⟨some 27, .move (.const (.int .i64 0)), none⟩]
def r15_5 : List POp := [
  ⟨some 28, .binOp .lss 3 (.tmp 27) (.tmp 26) 3, none⟩]
def r15_6 : List POp := [
  ⟨some 29, .indexAddr 25 (.tmp 25) (.tmp 27), none⟩,
  ⟨some 30, .load 34 (.tmp 29), none⟩,
  ⟨some 9, .alloc 34, none⟩,
  ⟨none, .store 34 (.tmp 9) (.tmp 30), none⟩]
def r15_7 : List POp := [
  ⟨some 31, .move (.tmp 0), none⟩,
  ⟨some 32, .load 34 (.tmp 9), none⟩,
  ⟨some 33, .call { callee := .value (.func 39), args := #[(.tmp 31), (.tmp 32)], argTypes := #[29, 34] }, none⟩,
  ⟨some 34, .call { callee := .builtin .len, args := #[(.tmp 33)], argTypes := #[32] }, none⟩,
  ⟨some 35, .move (.const (.int .i64 0)), none⟩]
def r15_8 : List POp := [
  ⟨some 36, .binOp .lss 3 (.tmp 35) (.tmp 34) 3, none⟩]
def r15_9 : List POp := [
  ⟨some 37, .indexAddr 32 (.tmp 33) (.tmp 35), none⟩,
  ⟨some 38, .load 3 (.tmp 37), none⟩,
  ⟨some 11, .assign (.tmp 38), none⟩]
def r15_10 : List POp := [
  ⟨some 39, .move (.tmp 7), none⟩,
  ⟨some 40, .move (.tmp 11), none⟩,
  ⟨none, .mapUpdate 76 (.tmp 39) (.tmp 40) (.const (.bool true)), none⟩]
def r15_11 : List POp := [
  ⟨some 41, .binOp .add 3 (.tmp 35) (.const (.int .i64 1)) 3, none⟩,
  ⟨some 35, .move (.tmp 41), none⟩]
def b15_12 : PC := (.seq (.reg r15_8) (.seq (.cond (.tmp 36) .skip (.exit 2)) (.seq (.block 3 (.seq (.reg r15_9) (.reg r15_10))) (.reg r15_11))))
def r15_13 : List POp := [
  ⟨some 42, .binOp .add 3 (.tmp 27) (.const (.int .i64 1)) 3, none⟩,
  ⟨some 27, .move (.tmp 42), none⟩]
def b15_14 : PC := (.seq (.reg r15_5) (.seq (.cond (.tmp 28) .skip (.exit 0)) (.seq (.block 1 (.seq (.reg r15_6) (.seq (.reg r15_7) (.block 2 (.loop b15_12))))) (.reg r15_13))))
def r15_15 : List POp := [
  ⟨some 43, .move (.tmp 0), none⟩,
  ⟨some 44, .load 24 (.tmp 4), none⟩,
  ⟨some 45, .call { callee := .value (.func 40), args := #[(.tmp 43), (.tmp 44)], argTypes := #[29, 24] }, none⟩,
  ⟨some 46, .build 34 #[(1, (.tmp 45))], none⟩,
  ⟨some 12, .alloc 34, none⟩,
  ⟨none, .store 34 (.tmp 12) (.tmp 46), none⟩]
def r15_16 : List POp := [
  ⟨some 47, .fieldAddr 34 (.tmp 12) 1, none⟩,
  ⟨some 48, .load 24 (.tmp 47), none⟩,
  ⟨some 49, .call { callee := .value (.func 14), args := #[(.tmp 48)], argTypes := #[24] }, none⟩,
  ⟨some 50, .call { callee := .builtin .len, args := #[(.tmp 49)], argTypes := #[32] }, none⟩,
  ⟨some 51, .move (.const (.int .i64 0)), none⟩]
def r15_17 : List POp := [
  ⟨some 52, .binOp .lss 3 (.tmp 51) (.tmp 50) 3, none⟩]
def r15_18 : List POp := [
  ⟨some 53, .indexAddr 32 (.tmp 49) (.tmp 51), none⟩,
  ⟨some 54, .load 3 (.tmp 53), none⟩,
  ⟨some 14, .assign (.tmp 54), none⟩]
def r15_19 : List POp := [
  ⟨some 55, .move (.tmp 7), none⟩,
  ⟨some 56, .move (.tmp 14), none⟩,
  ⟨some 57, .lookup 76 (.tmp 55) (.tmp 56) false, none⟩,
  ⟨some 58, .unOp .not 4 (.tmp 57), none⟩]
def r15_20 : List POp := [
  ⟨some 59, .fieldAddr 34 (.tmp 12) 0, none⟩,
  ⟨some 60, .load 32 (.tmp 59), none⟩,
  ⟨some 61, .move (.tmp 14), none⟩,
  ⟨some 62, .buildSlice 32 1 #[(0, (.tmp 61))], none⟩,
  ⟨some 63, .call { callee := .builtin .append, args := #[(.tmp 60), (.tmp 62)], argTypes := #[32, 32] }, none⟩,
  ⟨some 64, .fieldAddr 34 (.tmp 12) 0, none⟩,
  ⟨none, .store 32 (.tmp 64) (.tmp 63), none⟩]
def r15_21 : List POp := [
  ⟨some 65, .binOp .add 3 (.tmp 51) (.const (.int .i64 1)) 3, none⟩,
  ⟨some 51, .move (.tmp 65), none⟩]
def b15_22 : PC := (.seq (.reg r15_17) (.seq (.cond (.tmp 52) .skip (.exit 4)) (.seq (.block 5 (.seq (.reg r15_18) (.seq (.reg r15_19) (.cond (.tmp 58) (.reg r15_20) .skip)))) (.reg r15_21))))
def r15_23 : List POp := [
  ⟨some 66, .fieldAddr 34 (.tmp 12) 0, none⟩,
  ⟨some 67, .load 32 (.tmp 66), none⟩,
  ⟨some 68, .call { callee := .value (.func 41), args := #[(.tmp 67)], argTypes := #[32] }, none⟩]
def r15_24 : List POp := [
  ⟨some 69, .load 34 (.tmp 12), none⟩,
  ⟨none, .store 34 (.tmp 6) (.tmp 69), none⟩]
def p15 : PC := (.seq (.reg r15_0) (.seq (.seq (.reg r15_1) (.cond (.tmp 21) (.seq (.reg r15_2) .ret) .skip)) (.seq (.reg r15_3) (.seq (.seq (.reg r15_4) (.block 0 (.loop b15_14))) (.seq (.reg r15_15) (.seq (.seq (.reg r15_16) (.block 4 (.loop b15_22))) (.seq (.reg r15_23) (.seq (.reg r15_24) .ret))))))))
theorem comp15 : (Tryd.f15.body.map (comp E Tryd.f15.ntmps)) = some p15 := by kernel_rfl
theorem ev15 {args : List AV} {S : St} {P : AV → St → Prop} (hn : Nat.ble args.length 70 = true) (h : EndsA E 70 [.c p15] .nrm (initTm 0 args .leaf) S (RetQ E [.cell 6 34] P)) : ∃ r S', EvA E 15 args S r S' ∧ P r S' := ev_ends (fn := Tryd.f15) (by kernel_rfl) rfl comp15 (by kernel_rfl) (by kernel_rfl) hn h
/-! slices.ContainsFunc[[]hindsight/scheme.Scheme,hindsight/scheme.Scheme] -/
def r37_0 : List POp := [
  ⟨some 4, .assign (.const (.bool false)), none⟩]
def r37_1 : List POp := [
  ⟨some 5, .move (.tmp 0), none⟩,
  ⟨some 6, .move (.tmp 1), none⟩,
  ⟨some 7, .call { callee := .value (.func 59), args := #[(.tmp 5), (.tmp 6)], argTypes := #[25, 35] }, none⟩,
  ⟨some 8, .binOp .geq 3 (.tmp 7) (.const (.int .i64 0)) 3, none⟩,
  ⟨some 4, .assign (.tmp 8), none⟩]
def p37 : PC := (.seq (.reg r37_0) (.seq (.reg r37_1) .ret))
theorem comp37 : (Tryd.f37.body.map (comp E Tryd.f37.ntmps)) = some p37 := by kernel_rfl
theorem ev37 {args : List AV} {S : St} {P : AV → St → Prop} (hn : Nat.ble args.length 9 = true) (h : EndsA E 9 [.c p37] .nrm (initTm 0 args .leaf) S (RetQ E [.tmp 4] P)) : ∃ r S', EvA E 37 args S r S' ∧ P r S' := ev_ends (fn := Tryd.f37) (by kernel_rfl) rfl comp37 (by kernel_rfl) (by kernel_rfl) hn h
/-! hindsight/scheme.Close$1 -/
def r38_0 : List POp := [
  ⟨some 1, .box 34 (.tmp 0), none⟩,
  ⟨some 2, .assign (.const (.bool false)), none⟩]
def r38_1 : List POp := [
  ⟨some 3, .load 34 (.tmp 1), none⟩,
  ⟨some 4, .call { callee := .value (.func 13), args := #[(.tmp 3)], argTypes := #[34] }, none⟩,
  ⟨some 5, .unOp .not 4 (.tmp 4), none⟩,
  ⟨some 2, .assign (.tmp 5), none⟩]
def p38 : PC := (.seq (.reg r38_0) (.seq (.reg r38_1) .ret))
theorem comp38 : (Tryd.f38.body.map (comp E Tryd.f38.ntmps)) = some p38 := by kernel_rfl
theorem ev38 {args : List AV} {S : St} {P : AV → St → Prop} (hn : Nat.ble args.length 6 = true) (h : EndsA E 6 [.c p38] .nrm (initTm 0 args .leaf) S (RetQ E [.tmp 2] P)) : ∃ r S', EvA E 38 args S r S' ∧ P r S' := ev_ends (fn := Tryd.f38) (by kernel_rfl) rfl comp38 (by kernel_rfl) (by kernel_rfl) hn h
/-! hindsight/scheme.rest -/
def r39_0 : List POp := [
  ⟨some 3, .box 34 (.tmp 1), none⟩,
  ⟨some 4, .assign (.const (.slice none 0 0)), none⟩]
def r39_1 : List POp := [
  ⟨some 5, .assign (.const (.slice none 0 0)), none⟩]
def r39_2 : List POp := [
  ⟨some 10, .fieldAddr 34 (.tmp 3) 1, none⟩,
  ⟨some 11, .load 24 (.tmp 10), none⟩,
  ⟨some 12, .call { callee := .value (.func 14), args := #[(.tmp 11)], argTypes := #[24] }, none⟩,
  ⟨some 13, .call { callee := .builtin .len, args := #[(.tmp 12)], argTypes := #[32] }, none⟩,
  ⟨some 14, .move (.const (.int .i64 0)), none⟩]
def r39_3 : List POp := [
  ⟨some 15, .binOp .lss 3 (.tmp 14) (.tmp 13) 3, none⟩]
def r39_4 : List POp := [
  ⟨some 16, .indexAddr 32 (.tmp 12) (.tmp 14), none⟩,
  ⟨some 17, .load 3 (.tmp 16), none⟩,
  ⟨some 7, .assign (.tmp 17), none⟩]
def r39_5 : List POp := [
  ⟨some 18, .move (.tmp 7), none⟩,
  ⟨some 19, .build 24 #[(0, (.const (.int .i64 7))), (2, (.tmp 18))], none⟩,
  ⟨some 8, .alloc 24, none⟩,
  ⟨none, .store 24 (.tmp 8) (.tmp 19), none⟩]
def r39_6 : List POp := [
  ⟨some 20, .move (.tmp 0), none⟩,
  ⟨some 21, .load 24 (.tmp 8), none⟩,
  ⟨some 22, .call { callee := .value (.func 40), args := #[(.tmp 20), (.tmp 21)], argTypes := #[29, 24] }, none⟩,
  ⟨some 9, .alloc 24, none⟩,
  ⟨none, .store 24 (.tmp 9) (.tmp 22), none⟩]
def r39_7 : List POp := [
  ⟨some 23, .fieldAddr 34 (.tmp 3) 0, none⟩,
  ⟨some 24, .load 32 (.tmp 23), none⟩,
  ⟨some 25, .move (.tmp 7), none⟩,
  ⟨some 26, .call { callee := .value (.func 35), args := #[(.tmp 24), (.tmp 25)], argTypes := #[32, 3] }, none⟩,
  ⟨some 27, .unOp .not 4 (.tmp 26), none⟩,
  ⟨some 28, .move (.tmp 27), none⟩,
  ⟨some 29, .load 24 (.tmp 9), some (28, false)⟩,
  ⟨some 30, .load 24 (.tmp 8), some (28, false)⟩,
  ⟨some 31, .call { callee := .value (.func 19), args := #[(.tmp 29), (.tmp 30)], argTypes := #[24, 24] }, some (28, false)⟩,
  ⟨some 32, .unOp .not 4 (.tmp 31), some (28, false)⟩,
  ⟨some 33, .pick (.tmp 28) (.const (.bool true)) (.tmp 32), none⟩]
def r39_8 : List POp := [
  ⟨some 34, .move (.tmp 5), none⟩,
  ⟨some 35, .load 24 (.tmp 9), none⟩,
  ⟨some 36, .call { callee := .value (.func 14), args := #[(.tmp 35)], argTypes := #[24] }, none⟩,
  ⟨some 37, .call { callee := .builtin .append, args := #[(.tmp 34), (.tmp 36)], argTypes := #[32, 32] }, none⟩,
  ⟨some 5, .assign (.tmp 37), none⟩]
def r39_9 : List POp := [
  ⟨some 38, .binOp .add 3 (.tmp 14) (.const (.int .i64 1)) 3, none⟩,
  ⟨some 14, .move (.tmp 38), none⟩]
def b39_10 : PC := (.seq (.reg r39_3) (.seq (.cond (.tmp 15) .skip (.exit 0)) (.seq (.block 1 (.seq (.reg r39_4) (.seq (.reg r39_5) (.seq (.reg r39_6) (.seq (.reg r39_7) (.cond (.tmp 33) (.reg r39_8) .skip)))))) (.reg r39_9))))
def r39_11 : List POp := [
  ⟨some 39, .move (.tmp 5), none⟩,
  ⟨some 4, .assign (.tmp 39), none⟩]
def p39 : PC := (.seq (.reg r39_0) (.seq (.reg r39_1) (.seq (.seq (.reg r39_2) (.block 0 (.loop b39_10))) (.seq (.reg r39_11) .ret))))
theorem comp39 : (Tryd.f39.body.map (comp E Tryd.f39.ntmps)) = some p39 := by kernel_rfl
theorem ev39 {args : List AV} {S : St} {P : AV → St → Prop} (hn : Nat.ble args.length 40 = true) (h : EndsA E 40 [.c p39] .nrm (initTm 0 args .leaf) S (RetQ E [.tmp 4] P)) : ∃ r S', EvA E 39 args S r S' ∧ P r S' := ev_ends (fn := Tryd.f39) (by kernel_rfl) rfl comp39 (by kernel_rfl) (by kernel_rfl) hn h
/-! slices.IndexFunc[[]hindsight/scheme.Scheme,hindsight/scheme.Scheme] -/
def r59_0 : List POp := [
  ⟨some 4, .assign (.const (.int .i64 0)), none⟩]
def r59_1 : List POp := [
  ⟨some 6, .move (.tmp 0), none⟩,
  ⟨some 7, .call { callee := .builtin .len, args := #[(.tmp 6)], argTypes := #[25] }, none⟩,
  ⟨some 8, .move (.const (.int .i64 0)), none⟩]
def r59_2 : List POp := [
  ⟨some 9, .binOp .lss 3 (.tmp 8) (.tmp 7) 3, none⟩]
def r59_3 : List POp := [
  ⟨some 10, .move (.tmp 8), none⟩,
  ⟨some 5, .assign (.tmp 10), none⟩]
def r59_4 : List POp := [
  ⟨some 11, .move (.tmp 1), none⟩,
  ⟨some 12, .move (.tmp 0), none⟩,
  ⟨some 13, .move (.tmp 5), none⟩,
  ⟨some 14, .indexAddr 25 (.tmp 12) (.tmp 13), none⟩,
  ⟨some 15, .load 34 (.tmp 14), none⟩,
  ⟨some 16, .call { callee := .value (.tmp 11), args := #[(.tmp 15)], argTypes := #[34] }, none⟩]
def r59_5 : List POp := [
  ⟨some 17, .move (.tmp 5), none⟩,
  ⟨some 4, .assign (.tmp 17), none⟩]
def r59_6 : List POp := [
  ⟨some 18, .binOp .add 3 (.tmp 8) (.const (.int .i64 1)) 3, none⟩,
  ⟨some 8, .move (.tmp 18), none⟩]
def b59_7 : PC := (.seq (.reg r59_2) (.seq (.cond (.tmp 9) .skip (.exit 0)) (.seq (.block 1 (.seq (.reg r59_3) (.seq (.reg r59_4) (.cond (.tmp 16) (.seq (.reg r59_5) .ret) .skip)))) (.reg r59_6))))
def r59_8 : List POp := [
  ⟨some 4, .assign (.const (.int .i64 (-1))), none⟩]
def p59 : PC := (.seq (.reg r59_0) (.seq (.seq (.reg r59_1) (.block 0 (.loop b59_7))) (.seq (.reg r59_8) .ret)))
theorem comp59 : (Tryd.f59.body.map (comp E Tryd.f59.ntmps)) = some p59 := by kernel_rfl
theorem ev59 {args : List AV} {S : St} {P : AV → St → Prop} (hn : Nat.ble args.length 19 = true) (h : EndsA E 19 [.c p59] .nrm (initTm 0 args .leaf) S (RetQ E [.tmp 4] P)) : ∃ r S', EvA E 59 args S r S' ∧ P r S' := ev_ends (fn := Tryd.f59) (by kernel_rfl) rfl comp59 (by kernel_rfl) (by kernel_rfl) hn h
end Go.Proofs.YtaacibffjmbfiaaDoor
