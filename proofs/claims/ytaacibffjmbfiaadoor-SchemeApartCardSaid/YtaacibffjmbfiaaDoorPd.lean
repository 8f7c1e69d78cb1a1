/-
  The compiled code of functions of this seat's program: written by program (wip/GenPC.lean); the kernel checks each row.
-/
import Derived.Test.YtaacibffjmbfiaaDoorPc
import Derived.Test.YtaacibffjmbfiaaDoorAbs24
set_option linter.unusedSimpArgs false
set_option linter.unusedVariables false
set_option maxRecDepth 100000
namespace Go.Proofs.YtaacibffjmbfiaaDoor
open Go.Abs
/-! slices.Contains[[]int,int] -/
def r35_0 : List POp := [
  ⟨some 4, .assign (.const (.bool false)), none⟩]
def r35_1 : List POp := [
  ⟨some 5, .move (.tmp 0), none⟩,
  ⟨some 6, .move (.tmp 1), none⟩,
  ⟨some 7, .call { callee := .value (.func 58), args := #[(.tmp 5), (.tmp 6)], argTypes := #[32, 3] }, none⟩,
  ⟨some 8, .binOp .geq 3 (.tmp 7) (.const (.int .i64 0)) 3, none⟩,
  ⟨some 4, .assign (.tmp 8), none⟩]
noncomputable def p35 : PC := (.seq (.reg r35_0) (.seq (.reg r35_1) .ret))
theorem comp35 : (Tryd.f35.body.map (comp E Tryd.f35.ntmps)) = some p35 := by kernel_rfl
theorem ev35 {args : List AV} {S : St} {P : AV → St → Prop} (hn : Nat.ble args.length 9 = true) (h : EndsA E 9 [.c p35] .nrm (initTm 0 args .leaf) S (RetQ E [.tmp 4] P)) : ∃ r S', EvA E 35 args S r S' ∧ P r S' := ev_ends (fn := Tryd.f35) (by kernel_rfl) rfl comp35 (by kernel_rfl) (by kernel_rfl) hn h
/-! slices.Index[[]int,int] -/
def r58_0 : List POp := [
  ⟨some 4, .assign (.const (.int .i64 0)), none⟩]
def r58_1 : List POp := [
  ⟨some 6, .move (.tmp 0), none⟩,
  ⟨some 7, .call { callee := .builtin .len, args := #[(.tmp 6)], argTypes := #[32] }, none⟩,
  ⟨some 8, .move (.const (.int .i64 0)), none⟩]
def r58_2 : List POp := [
  ⟨some 9, .binOp .lss 3 (.tmp 8) (.tmp 7) 3, none⟩]
def r58_3 : List POp := [
  ⟨some 10, .move (.tmp 8), none⟩,
  ⟨some 5, .assign (.tmp 10), none⟩]
def r58_4 : List POp := [
  ⟨some 11, .move (.tmp 1), none⟩,
  ⟨some 12, .move (.tmp 0), none⟩,
  ⟨some 13, .move (.tmp 5), none⟩,
  ⟨some 14, .indexAddr 32 (.tmp 12) (.tmp 13), none⟩,
  ⟨some 15, .load 3 (.tmp 14), none⟩,
  ⟨some 16, .binOp .eql 3 (.tmp 11) (.tmp 15) 3, none⟩]
def r58_5 : List POp := [
  ⟨some 17, .move (.tmp 5), none⟩,
  ⟨some 4, .assign (.tmp 17), none⟩]
def r58_6 : List POp := [
  ⟨some 18, .binOp .add 3 (.tmp 8) (.const (.int .i64 1)) 3, none⟩,
  ⟨some 8, .move (.tmp 18), none⟩]
noncomputable def b58_7 : PC := (.seq (.reg r58_2) (.seq (.cond (.tmp 9) .skip (.exit 0)) (.seq (.block 1 (.seq (.reg r58_3) (.seq (.reg r58_4) (.cond (.tmp 16) (.seq (.reg r58_5) .ret) .skip)))) (.reg r58_6))))
def r58_8 : List POp := [
  ⟨some 4, .assign (.const (.int .i64 (-1))), none⟩]
noncomputable def p58 : PC := (.seq (.reg r58_0) (.seq (.seq (.reg r58_1) (.block 0 (.loop b58_7))) (.seq (.reg r58_8) .ret)))
theorem comp58 : (Tryd.f58.body.map (comp E Tryd.f58.ntmps)) = some p58 := by kernel_rfl
theorem ev58 {args : List AV} {S : St} {P : AV → St → Prop} (hn : Nat.ble args.length 19 = true) (h : EndsA E 19 [.c p58] .nrm (initTm 0 args .leaf) S (RetQ E [.tmp 4] P)) : ∃ r S', EvA E 58 args S r S' ∧ P r S' := ev_ends (fn := Tryd.f58) (by kernel_rfl) rfl comp58 (by kernel_rfl) (by kernel_rfl) hn h
/-! hindsight/hindsightlaw6.SchemeApart -/
def r3_0 : List POp := [
  ⟨some 2, .box 24 (.tmp 0), none⟩,
  ⟨some 4, .assign (.const (.bool false)), none⟩]
def r3_1 : List POp := [
  ⟨some 21, .call { callee := .value (.func 8), args := #[], argTypes := #[] }, none⟩,
  ⟨some 22, .unOp .not 4 (.tmp 21), none⟩]
def r3_2 : List POp := [
  ⟨some 4, .assign (.const (.bool false)), none⟩]
def r3_3 : List POp := [
  ⟨some 23, .load 24 (.tmp 2), none⟩,
  ⟨some 24, .call { callee := .value (.func 9), args := #[(.tmp 23), (.const (.int .i64 64))], argTypes := #[24, 3] }, none⟩,
  ⟨some 25, .unOp .not 4 (.tmp 24), none⟩,
  ⟨some 26, .move (.tmp 25), none⟩,
  ⟨some 27, .load 24 (.tmp 2), some (26, false)⟩,
  ⟨some 28, .call { callee := .value (.func 10), args := #[(.tmp 27)], argTypes := #[24] }, some (26, false)⟩,
  ⟨some 29, .unOp .not 4 (.tmp 28), some (26, false)⟩,
  ⟨some 30, .pick (.tmp 26) (.const (.bool true)) (.tmp 29), none⟩,
  ⟨some 31, .move (.tmp 30), none⟩,
  ⟨some 32, .move (.tmp 1), some (31, false)⟩,
  ⟨some 33, .call { callee := .builtin .len, args := #[(.tmp 32)], argTypes := #[25] }, some (31, false)⟩,
  ⟨some 34, .binOp .gtr 3 (.tmp 33) (.const (.int .i64 6)) 3, some (31, false)⟩,
  ⟨some 35, .pick (.tmp 31) (.const (.bool true)) (.tmp 34), none⟩]
def r3_4 : List POp := [
  ⟨some 4, .assign (.const (.bool true)), none⟩]
def r3_5 : List POp := [
  ⟨some 36, .call { callee := .value (.func 11), args := #[], argTypes := #[] }, none⟩,
  ⟨some 5, .assign (.tmp 36), none⟩]
def r3_6 : List POp := [
  ⟨some 6, .assign (.const (.int .i64 0)), none⟩]
def r3_7 : List POp := [
  ⟨some 37, .move (.tmp 6), none⟩,
  ⟨some 38, .binOp .lss 3 (.tmp 37) (.const (.int .i64 20)) 3, none⟩]
def r3_8 : List POp := [
  ⟨some 41, .move (.tmp 5), none⟩,
  ⟨some 42, .call { callee := .value (.func 12), args := #[(.tmp 41)], argTypes := #[29] }, none⟩]
def r3_9 : List POp := [
  ⟨some 39, .move (.tmp 6), none⟩,
  ⟨some 40, .binOp .add 3 (.tmp 39) (.const (.int .i64 1)) 3, none⟩,
  ⟨some 6, .assign (.tmp 40), none⟩]
noncomputable def b3_10 : PC := (.seq (.seq (.reg r3_7) (.cond (.tmp 38) .skip (.exit 0))) (.seq (.block 1 (.reg r3_8)) (.reg r3_9)))
def r3_11 : List POp := [
  ⟨some 7, .assign (.const (.int .i64 0)), none⟩]
def r3_12 : List POp := [
  ⟨some 43, .move (.tmp 7), none⟩,
  ⟨some 44, .move (.tmp 1), none⟩,
  ⟨some 45, .call { callee := .builtin .len, args := #[(.tmp 44)], argTypes := #[25] }, none⟩,
  ⟨some 46, .binOp .lss 3 (.tmp 43) (.tmp 45) 3, none⟩]
def r3_13 : List POp := [
  ⟨some 49, .move (.tmp 1), none⟩,
  ⟨some 50, .move (.tmp 7), none⟩,
  ⟨some 51, .indexAddr 25 (.tmp 49) (.tmp 50), none⟩,
  ⟨some 52, .fieldAddr 34 (.tmp 51) 1, none⟩,
  ⟨some 53, .load 24 (.tmp 52), none⟩,
  ⟨some 54, .call { callee := .value (.func 9), args := #[(.tmp 53), (.const (.int .i64 64))], argTypes := #[24, 3] }, none⟩,
  ⟨some 55, .unOp .not 4 (.tmp 54), none⟩,
  ⟨some 56, .move (.tmp 55), none⟩,
  ⟨some 57, .move (.tmp 1), some (56, false)⟩,
  ⟨some 58, .move (.tmp 7), some (56, false)⟩,
  ⟨some 59, .indexAddr 25 (.tmp 57) (.tmp 58), some (56, false)⟩,
  ⟨some 60, .load 34 (.tmp 59), some (56, false)⟩,
  ⟨some 61, .call { callee := .value (.func 13), args := #[(.tmp 60)], argTypes := #[34] }, some (56, false)⟩,
  ⟨some 62, .unOp .not 4 (.tmp 61), some (56, false)⟩,
  ⟨some 63, .pick (.tmp 56) (.const (.bool true)) (.tmp 62), none⟩,
  ⟨some 64, .move (.tmp 63), none⟩,
  ⟨some 65, .move (.tmp 1), some (64, false)⟩,
  ⟨some 66, .move (.tmp 7), some (64, false)⟩,
  ⟨some 67, .indexAddr 25 (.tmp 65) (.tmp 66), some (64, false)⟩,
  ⟨some 68, .fieldAddr 34 (.tmp 67) 0, some (64, false)⟩,
  ⟨some 69, .load 32 (.tmp 68), some (64, false)⟩,
  ⟨some 70, .call { callee := .builtin .len, args := #[(.tmp 69)], argTypes := #[32] }, some (64, false)⟩,
  ⟨some 71, .binOp .gtr 3 (.tmp 70) (.const (.int .i64 0)) 3, some (64, false)⟩,
  ⟨some 72, .pick (.tmp 64) (.const (.bool true)) (.tmp 71), none⟩]
def r3_14 : List POp := [
  ⟨some 4, .assign (.const (.bool true)), none⟩]
def r3_15 : List POp := [
  ⟨some 47, .move (.tmp 7), none⟩,
  ⟨some 48, .binOp .add 3 (.tmp 47) (.const (.int .i64 1)) 3, none⟩,
  ⟨some 7, .assign (.tmp 48), none⟩]
noncomputable def b3_16 : PC := (.seq (.seq (.reg r3_12) (.cond (.tmp 46) .skip (.exit 2))) (.seq (.block 3 (.seq (.reg r3_13) (.cond (.tmp 72) (.seq (.reg r3_14) .ret) .skip))) (.reg r3_15)))
def r3_17 : List POp := [
  ⟨some 73, .load 24 (.tmp 2), none⟩,
  ⟨some 74, .call { callee := .value (.func 14), args := #[(.tmp 73)], argTypes := #[24] }, none⟩,
  ⟨some 8, .assign (.tmp 74), none⟩]
def r3_18 : List POp := [
  ⟨some 9, .assign (.const (.int .i64 0)), none⟩]
def r3_19 : List POp := [
  ⟨some 75, .move (.tmp 9), none⟩,
  ⟨some 76, .move (.tmp 8), none⟩,
  ⟨some 77, .call { callee := .builtin .len, args := #[(.tmp 76)], argTypes := #[32] }, none⟩,
  ⟨some 78, .binOp .lss 3 (.tmp 75) (.tmp 77) 3, none⟩]
def r3_20 : List POp := [
  ⟨some 81, .move (.tmp 8), none⟩,
  ⟨some 82, .move (.tmp 9), none⟩,
  ⟨some 83, .indexAddr 32 (.tmp 81) (.tmp 82), none⟩,
  ⟨some 84, .load 3 (.tmp 83), none⟩,
  ⟨some 85, .binOp .gtr 3 (.tmp 84) (.const (.int .i64 19)) 3, none⟩]
def r3_21 : List POp := [
  ⟨some 4, .assign (.const (.bool true)), none⟩]
def r3_22 : List POp := [
  ⟨some 79, .move (.tmp 9), none⟩,
  ⟨some 80, .binOp .add 3 (.tmp 79) (.const (.int .i64 1)) 3, none⟩,
  ⟨some 9, .assign (.tmp 80), none⟩]
noncomputable def b3_23 : PC := (.seq (.seq (.reg r3_19) (.cond (.tmp 78) .skip (.exit 4))) (.seq (.block 5 (.seq (.reg r3_20) (.cond (.tmp 85) (.seq (.reg r3_21) .ret) .skip))) (.reg r3_22)))
def r3_24 : List POp := [
  ⟨some 86, .move (.tmp 5), none⟩,
  ⟨some 87, .load 24 (.tmp 2), none⟩,
  ⟨some 88, .move (.tmp 1), none⟩,
  ⟨some 89, .call { callee := .value (.func 15), args := #[(.tmp 86), (.tmp 87), (.tmp 88)], argTypes := #[29, 24, 25] }, none⟩,
  ⟨some 10, .alloc 34, none⟩,
  ⟨none, .store 34 (.tmp 10) (.tmp 89), none⟩]
def r3_25 : List POp := [
  ⟨some 90, .move (.tmp 5), none⟩,
  ⟨some 91, .load 34 (.tmp 10), none⟩,
  ⟨some 92, .call { callee := .value (.func 16), args := #[(.tmp 90), (.tmp 91)], argTypes := #[29, 34] }, none⟩,
  ⟨some 93, .move (.tmp 5), none⟩,
  ⟨some 94, .load 34 (.tmp 10), none⟩,
  ⟨some 95, .call { callee := .value (.func 16), args := #[(.tmp 93), (.tmp 94)], argTypes := #[29, 34] }, none⟩]
def r3_26 : List POp := [
  ]
def r3_27 : List POp := [
  ⟨none, .store 24 (.tmp 11) (.tmp 92), none⟩,
  ⟨none, .store 24 (.tmp 12) (.tmp 95), none⟩]
noncomputable def d3_0 : Array Oper := match Tryd.f3.body.map (comp E Tryd.f3.ntmps) with | some p => p.draws.getD 0 #[] | none => #[]
theorem draw3_0 : DrawMk2 E 171 d3_0 10 r3_25 6 (some 11) (.alloc 24) r3_26 7 (some 12) (.alloc 24) r3_27 [(.tmp 10), (.tmp 10)] := drawMk2_of (by kernel_rfl) (by kernel_rfl) (by kernel_rfl) (by kernel_rfl) (by kernel_rfl) (by kernel_rfl) (by kernel_rfl)
def r3_28 : List POp := [
  ⟨some 96, .load 24 (.tmp 11), none⟩,
  ⟨some 97, .call { callee := .value (.func 14), args := #[(.tmp 96)], argTypes := #[24] }, none⟩,
  ⟨some 98, .load 24 (.tmp 12), none⟩]
def r3_29 : List POp := [
  ⟨some 99, .call { callee := .value (.func 14), args := #[(.tmp 98)], argTypes := #[24] }, none⟩,
  ⟨some 13, .assign (.tmp 97), none⟩,
  ⟨some 14, .assign (.tmp 99), none⟩]
noncomputable def d3_1 : Array Oper := match Tryd.f3.body.map (comp E Tryd.f3.ntmps) with | some p => p.draws.getD 1 #[] | none => #[]
theorem draw3_1 : DrawC E 171 d3_1 6 3 r3_28 r3_29 [(.tmp 12)] := ⟨by kernel_rfl, by decide, by kernel_rfl, by kernel_rfl, by kernel_rfl, by kernel_rfl, by kernel_rfl⟩
def r3_30 : List POp := [
  ⟨some 15, .assign (.const (.int .i64 0)), none⟩]
def r3_31 : List POp := [
  ⟨some 100, .move (.tmp 15), none⟩,
  ⟨some 101, .move (.tmp 13), none⟩,
  ⟨some 102, .call { callee := .builtin .len, args := #[(.tmp 101)], argTypes := #[32] }, none⟩,
  ⟨some 103, .binOp .lss 3 (.tmp 100) (.tmp 102) 3, none⟩]
def r3_32 : List POp := [
  ⟨some 16, .assign (.const (.int .i64 0)), none⟩]
def r3_33 : List POp := [
  ⟨some 106, .move (.tmp 16), none⟩,
  ⟨some 107, .move (.tmp 14), none⟩,
  ⟨some 108, .call { callee := .builtin .len, args := #[(.tmp 107)], argTypes := #[32] }, none⟩,
  ⟨some 109, .binOp .lss 3 (.tmp 106) (.tmp 108) 3, none⟩]
def r3_34 : List POp := [
  ⟨some 17, .assign (.const (.bool false)), none⟩]
def r3_35 : List POp := [
  ⟨some 18, .assign (.const (.int .i64 0)), none⟩]
def r3_36 : List POp := [
  ⟨some 112, .move (.tmp 18), none⟩,
  ⟨some 113, .move (.tmp 1), none⟩,
  ⟨some 114, .call { callee := .builtin .len, args := #[(.tmp 113)], argTypes := #[25] }, none⟩,
  ⟨some 115, .binOp .lss 3 (.tmp 112) (.tmp 114) 3, none⟩]
def r3_37 : List POp := [
  ⟨some 118, .move (.tmp 1), none⟩,
  ⟨some 119, .move (.tmp 18), none⟩,
  ⟨some 120, .indexAddr 25 (.tmp 118) (.tmp 119), none⟩,
  ⟨some 121, .fieldAddr 34 (.tmp 120) 1, none⟩,
  ⟨some 122, .load 24 (.tmp 121), none⟩,
  ⟨some 123, .call { callee := .value (.func 14), args := #[(.tmp 122)], argTypes := #[24] }, none⟩,
  ⟨some 19, .assign (.tmp 123), none⟩]
def r3_38 : List POp := [
  ⟨some 20, .assign (.const (.int .i64 0)), none⟩]
def r3_39 : List POp := [
  ⟨some 124, .move (.tmp 20), none⟩,
  ⟨some 125, .move (.tmp 19), none⟩,
  ⟨some 126, .call { callee := .builtin .len, args := #[(.tmp 125)], argTypes := #[32] }, none⟩,
  ⟨some 127, .binOp .lss 3 (.tmp 124) (.tmp 126) 3, none⟩]
def r3_40 : List POp := [
  ⟨some 130, .move (.tmp 17), none⟩,
  ⟨some 131, .move (.tmp 130), none⟩,
  ⟨some 132, .move (.tmp 19), some (131, false)⟩,
  ⟨some 133, .move (.tmp 20), some (131, false)⟩,
  ⟨some 134, .indexAddr 32 (.tmp 132) (.tmp 133), some (131, false)⟩,
  ⟨some 135, .load 3 (.tmp 134), some (131, false)⟩,
  ⟨some 136, .move (.tmp 13), some (131, false)⟩,
  ⟨some 137, .move (.tmp 15), some (131, false)⟩,
  ⟨some 138, .indexAddr 32 (.tmp 136) (.tmp 137), some (131, false)⟩,
  ⟨some 139, .load 3 (.tmp 138), some (131, false)⟩,
  ⟨some 140, .binOp .eql 3 (.tmp 135) (.tmp 139) 3, some (131, false)⟩,
  ⟨some 141, .pick (.tmp 131) (.const (.bool true)) (.tmp 140), none⟩,
  ⟨some 17, .assign (.tmp 141), none⟩]
def r3_41 : List POp := [
  ⟨some 128, .move (.tmp 20), none⟩,
  ⟨some 129, .binOp .add 3 (.tmp 128) (.const (.int .i64 1)) 3, none⟩,
  ⟨some 20, .assign (.tmp 129), none⟩]
noncomputable def b3_42 : PC := (.seq (.seq (.reg r3_39) (.cond (.tmp 127) .skip (.exit 12))) (.seq (.block 13 (.regD 13 r3_40)) (.reg r3_41)))
def r3_43 : List POp := [
  ⟨some 116, .move (.tmp 18), none⟩,
  ⟨some 117, .binOp .add 3 (.tmp 116) (.const (.int .i64 1)) 3, none⟩,
  ⟨some 18, .assign (.tmp 117), none⟩]
noncomputable def b3_44 : PC := (.seq (.seq (.reg r3_36) (.cond (.tmp 115) .skip (.exit 10))) (.seq (.block 11 (.seq (.reg r3_37) (.seq (.reg r3_38) (.block 12 (.loop b3_42))))) (.reg r3_43)))
def r3_45 : List POp := [
  ⟨some 142, .move (.tmp 13), none⟩,
  ⟨some 143, .move (.tmp 15), none⟩,
  ⟨some 144, .indexAddr 32 (.tmp 142) (.tmp 143), none⟩,
  ⟨some 145, .load 3 (.tmp 144), none⟩,
  ⟨some 146, .move (.tmp 14), none⟩,
  ⟨some 147, .move (.tmp 16), none⟩,
  ⟨some 148, .indexAddr 32 (.tmp 146) (.tmp 147), none⟩,
  ⟨some 149, .load 3 (.tmp 148), none⟩,
  ⟨some 150, .binOp .eql 3 (.tmp 145) (.tmp 149) 3, none⟩,
  ⟨some 151, .move (.tmp 150), none⟩,
  ⟨some 152, .move (.tmp 17), some (151, true)⟩,
  ⟨some 153, .unOp .not 4 (.tmp 152), some (151, true)⟩,
  ⟨some 154, .pick (.tmp 151) (.tmp 153) (.const (.bool false)), none⟩]
def r3_46 : List POp := [
  ⟨some 4, .assign (.const (.bool false)), none⟩]
def r3_47 : List POp := [
  ⟨some 110, .move (.tmp 16), none⟩,
  ⟨some 111, .binOp .add 3 (.tmp 110) (.const (.int .i64 1)) 3, none⟩,
  ⟨some 16, .assign (.tmp 111), none⟩]
noncomputable def b3_48 : PC := (.seq (.seq (.reg r3_33) (.cond (.tmp 109) .skip (.exit 8))) (.seq (.block 9 (.seq (.reg r3_34) (.seq (.seq (.reg r3_35) (.block 10 (.loop b3_44))) (.seq (.regD 13 r3_45) (.cond (.tmp 154) (.seq (.reg r3_46) .ret) .skip))))) (.reg r3_47)))
def r3_49 : List POp := [
  ⟨some 104, .move (.tmp 15), none⟩,
  ⟨some 105, .binOp .add 3 (.tmp 104) (.const (.int .i64 1)) 3, none⟩,
  ⟨some 15, .assign (.tmp 105), none⟩]
noncomputable def b3_50 : PC := (.seq (.seq (.reg r3_31) (.cond (.tmp 103) .skip (.exit 6))) (.seq (.block 7 (.seq (.reg r3_32) (.block 8 (.loop b3_48)))) (.reg r3_49)))
def r3_51 : List POp := [
  ⟨some 155, .load 24 (.tmp 11), none⟩,
  ⟨some 156, .call { callee := .value (.func 17), args := #[(.tmp 155)], argTypes := #[24] }, none⟩,
  ⟨some 157, .load 24 (.tmp 2), none⟩,
  ⟨some 158, .call { callee := .value (.func 17), args := #[(.tmp 157)], argTypes := #[24] }, none⟩,
  ⟨some 159, .binOp .eql 9 (.tmp 156) (.tmp 158) 9, none⟩,
  ⟨some 160, .move (.tmp 159), none⟩,
  ⟨some 161, .load 24 (.tmp 12), some (160, true)⟩,
  ⟨some 162, .call { callee := .value (.func 17), args := #[(.tmp 161)], argTypes := #[24] }, some (160, true)⟩,
  ⟨some 163, .load 24 (.tmp 2), some (160, true)⟩]
def r3_52 : List POp := [
  ⟨some 164, .call { callee := .value (.func 17), args := #[(.tmp 163)], argTypes := #[24] }, some (160, true)⟩,
  ⟨some 165, .binOp .eql 9 (.tmp 162) (.tmp 164) 9, some (160, true)⟩,
  ⟨some 166, .pick (.tmp 160) (.tmp 165) (.const (.bool false)), none⟩,
  ⟨some 167, .move (.tmp 166), none⟩,
  ⟨some 168, .load 34 (.tmp 10), some (167, true)⟩,
  ⟨some 169, .call { callee := .value (.func 13), args := #[(.tmp 168)], argTypes := #[34] }, some (167, true)⟩,
  ⟨some 170, .pick (.tmp 167) (.tmp 169) (.const (.bool false)), none⟩,
  ⟨some 4, .assign (.tmp 170), none⟩]
noncomputable def d3_2 : Array Oper := match Tryd.f3.body.map (comp E Tryd.f3.ntmps) with | some p => p.draws.getD 2 #[] | none => #[]
theorem draw3_2 : DrawC E 171 d3_2 17 9 r3_51 r3_52 [(.tmp 2), (.tmp 2)] := ⟨by kernel_rfl, by decide, by kernel_rfl, by kernel_rfl, by kernel_rfl, by kernel_rfl, by kernel_rfl⟩
noncomputable def p3 : PC := (.seq (.reg r3_0) (.seq (.seq (.reg r3_1) (.cond (.tmp 22) (.seq (.reg r3_2) .ret) .skip)) (.seq (.seq (.reg r3_3) (.cond (.tmp 35) (.seq (.reg r3_4) .ret) .skip)) (.seq (.reg r3_5) (.seq (.seq (.reg r3_6) (.block 0 (.loop b3_10))) (.seq (.seq (.reg r3_11) (.block 2 (.loop b3_16))) (.seq (.reg r3_17) (.seq (.seq (.reg r3_18) (.block 4 (.loop b3_23))) (.seq (.reg r3_24) (.seq (.draw d3_0) (.seq (.draw d3_1) (.seq (.seq (.reg r3_30) (.block 6 (.loop b3_50))) (.seq (.draw d3_2) .ret)))))))))))))
theorem comp3 : (Tryd.f3.body.map (comp E Tryd.f3.ntmps)) = some p3 := by kernel_rfl
theorem ev3 {args : List AV} {S : St} {P : AV → St → Prop} (hn : Nat.ble args.length 171 = true) (h : EndsA E 171 [.c p3] .nrm (initTm 0 args .leaf) S (RetQ E [.tmp 4] P)) : ∃ r S', EvA E 3 args S r S' ∧ P r S' := ev_ends (fn := Tryd.f3) (by kernel_rfl) rfl comp3 (by kernel_rfl) (by kernel_rfl) hn h
end Go.Proofs.YtaacibffjmbfiaaDoor
