/-
  The compiled code of functions of this seat's program: written by program (wip/GenPC.lean); the kernel checks each row.
-/
import Derived.Test.YtaacibffjmbfiaaDoorPc
import Derived.Test.YtaacibffjmbfiaaDoorAbs24
set_option linter.unusedSimpArgs false
set_option linter.unusedVariables false
set_option maxRecDepth 100000
namespace Go.Proofs.YtaacibffjmbfiaaDoor
open Go.Abs
/-! hindsight/ty.letter -/
def r43_0 : List POp := [
  ⟨some 2, .assign (.const (.string ⟨#[]⟩)), none⟩]
def r43_1 : List POp := [
  ⟨some 3, .move (.tmp 0), none⟩,
  ⟨some 4, .binOp .lss 3 (.tmp 3) (.const (.int .i64 26)) 3, none⟩]
def r43_2 : List POp := [
  ⟨some 5, .move (.tmp 0), none⟩,
  ⟨some 6, .binOp .add 3 (.const (.int .i64 97)) (.tmp 5) 3, none⟩,
  ⟨some 7, .convert 3 21 (.tmp 6), none⟩,
  ⟨some 8, .convert 21 9 (.tmp 7), none⟩,
  ⟨some 9, .binOp .add 9 (.const (.string ⟨#[39]⟩)) (.tmp 8) 9, none⟩,
  ⟨some 2, .assign (.tmp 9), none⟩]
def r43_3 : List POp := [
  ⟨some 10, .move (.tmp 0), none⟩,
  ⟨some 11, .binOp .add 3 (.tmp 10) (.const (.int .i64 1)) 3, none⟩,
  ⟨some 12, .call { callee := .value (.func 63), args := #[(.tmp 11)], argTypes := #[3] }, none⟩,
  ⟨some 13, .binOp .add 9 (.const (.string ⟨#[39]⟩)) (.tmp 12) 9, none⟩,
  ⟨some 2, .assign (.tmp 13), none⟩]
noncomputable def p43 : PC := (.seq (.reg r43_0) (.seq (.seq (.reg r43_1) (.cond (.tmp 4) (.seq (.reg r43_2) .ret) .skip)) (.seq (.reg r43_3) .ret)))
theorem comp43 : (Tryd.f43.body.map (comp E Tryd.f43.ntmps)) = some p43 := by kernel_rfl
theorem ev43 {args : List AV} {S : St} {P : AV → St → Prop} (hn : Nat.ble args.length 14 = true) (h : EndsA E 14 [.c p43] .nrm (initTm 0 args .leaf) S (RetQ E [.tmp 2] P)) : ∃ r S', EvA E 43 args S r S' ∧ P r S' := ev_ends (fn := Tryd.f43) (by kernel_rfl) rfl comp43 (by kernel_rfl) (by kernel_rfl) hn h
/-! hindsight/ty.show -/
def r44_0 : List POp := [
  ⟨some 2, .box 24 (.tmp 0), none⟩,
  ⟨some 4, .assign (.const (.string ⟨#[]⟩)), none⟩]
def r44_1 : List POp := [
  ⟨some 6, .fieldAddr 24 (.tmp 2) 0, none⟩,
  ⟨some 7, .load 3 (.tmp 6), none⟩,
  ⟨some 8, .binOp .eql 3 (.tmp 7) (.const (.int .i64 7)) 3, none⟩,
  ⟨some 5, .assign (.tmp 8), none⟩]
def r44_2 : List POp := [
  ⟨some 9, .move (.tmp 1), none⟩,
  ⟨some 10, .fieldAddr 24 (.tmp 2) 2, none⟩,
  ⟨some 11, .load 3 (.tmp 10), none⟩,
  ⟨some 12, .lookup 81 (.tmp 9) (.tmp 11) false, none⟩,
  ⟨some 4, .assign (.tmp 12), none⟩]
def r44_3 : List POp := [
  ⟨some 14, .fieldAddr 24 (.tmp 2) 0, none⟩,
  ⟨some 15, .load 3 (.tmp 14), none⟩,
  ⟨some 16, .binOp .eql 3 (.tmp 15) (.const (.int .i64 5)) 3, none⟩,
  ⟨some 17, .move (.tmp 16), none⟩,
  ⟨some 18, .fieldAddr 24 (.tmp 2) 3, some (17, true)⟩,
  ⟨some 19, .load 22 (.tmp 18), some (17, true)⟩,
  ⟨some 20, .call { callee := .builtin .len, args := #[(.tmp 19)], argTypes := #[22] }, some (17, true)⟩,
  ⟨some 21, .binOp .eql 3 (.tmp 20) (.const (.int .i64 2)) 3, some (17, true)⟩,
  ⟨some 22, .pick (.tmp 17) (.tmp 21) (.const (.bool false)), none⟩,
  ⟨some 13, .assign (.tmp 22), none⟩]
def r44_4 : List POp := [
  ⟨some 23, .fieldAddr 24 (.tmp 2) 3, none⟩,
  ⟨some 24, .load 22 (.tmp 23), none⟩,
  ⟨some 25, .indexAddr 22 (.tmp 24) (.const (.int .i64 0)), none⟩,
  ⟨some 26, .load 24 (.tmp 25), none⟩,
  ⟨some 27, .move (.tmp 1), none⟩,
  ⟨some 28, .call { callee := .value (.func 44), args := #[(.tmp 26), (.tmp 27)], argTypes := #[24, 81] }, none⟩,
  ⟨some 29, .binOp .add 9 (.const (.string ⟨#[40]⟩)) (.tmp 28) 9, none⟩,
  ⟨some 30, .binOp .add 9 (.tmp 29) (.const (.string ⟨#[32, 45, 62, 32]⟩)) 9, none⟩,
  ⟨some 31, .fieldAddr 24 (.tmp 2) 3, none⟩,
  ⟨some 32, .load 22 (.tmp 31), none⟩,
  ⟨some 33, .indexAddr 22 (.tmp 32) (.const (.int .i64 1)), none⟩,
  ⟨some 34, .load 24 (.tmp 33), none⟩]
def r44_5 : List POp := [
  ⟨some 35, .move (.tmp 1), none⟩,
  ⟨some 36, .call { callee := .value (.func 44), args := #[(.tmp 34), (.tmp 35)], argTypes := #[24, 81] }, none⟩,
  ⟨some 37, .binOp .add 9 (.tmp 30) (.tmp 36) 9, none⟩,
  ⟨some 38, .binOp .add 9 (.tmp 37) (.const (.string ⟨#[41]⟩)) 9, none⟩,
  ⟨some 4, .assign (.tmp 38), none⟩]
noncomputable def d44_0 : Array Oper := match Tryd.f44.body.map (comp E Tryd.f44.ntmps) with | some p => p.draws.getD 0 #[] | none => #[]
theorem draw44_0 : DrawC E 75 d44_0 17 12 r44_4 r44_5 [(.tmp 31), (.tmp 33)] := ⟨by kernel_rfl, by decide, by kernel_rfl, by kernel_rfl, by kernel_rfl, by kernel_rfl, by kernel_rfl⟩
def r44_6 : List POp := [
  ⟨some 40, .fieldAddr 24 (.tmp 2) 0, none⟩,
  ⟨some 41, .load 3 (.tmp 40), none⟩,
  ⟨some 42, .binOp .eql 3 (.tmp 41) (.const (.int .i64 6)) 3, none⟩,
  ⟨some 43, .move (.tmp 42), none⟩,
  ⟨some 44, .fieldAddr 24 (.tmp 2) 3, some (43, true)⟩,
  ⟨some 45, .load 22 (.tmp 44), some (43, true)⟩,
  ⟨some 46, .call { callee := .builtin .len, args := #[(.tmp 45)], argTypes := #[22] }, some (43, true)⟩,
  ⟨some 47, .binOp .eql 3 (.tmp 46) (.const (.int .i64 1)) 3, some (43, true)⟩,
  ⟨some 48, .pick (.tmp 43) (.tmp 47) (.const (.bool false)), none⟩,
  ⟨some 39, .assign (.tmp 48), none⟩]
def r44_7 : List POp := [
  ⟨some 49, .fieldAddr 24 (.tmp 2) 3, none⟩,
  ⟨some 50, .load 22 (.tmp 49), none⟩,
  ⟨some 51, .indexAddr 22 (.tmp 50) (.const (.int .i64 0)), none⟩,
  ⟨some 52, .load 24 (.tmp 51), none⟩,
  ⟨some 53, .move (.tmp 1), none⟩,
  ⟨some 54, .call { callee := .value (.func 44), args := #[(.tmp 52), (.tmp 53)], argTypes := #[24, 81] }, none⟩,
  ⟨some 55, .binOp .add 9 (.const (.string ⟨#[40]⟩)) (.tmp 54) 9, none⟩,
  ⟨some 56, .binOp .add 9 (.tmp 55) (.const (.string ⟨#[32, 114, 101, 102, 41]⟩)) 9, none⟩,
  ⟨some 4, .assign (.tmp 56), none⟩]
def r44_8 : List POp := [
  ⟨some 58, .fieldAddr 24 (.tmp 2) 0, none⟩,
  ⟨some 59, .load 3 (.tmp 58), none⟩,
  ⟨some 60, .binOp .eql 3 (.tmp 59) (.const (.int .i64 1)) 3, none⟩,
  ⟨some 57, .assign (.tmp 60), none⟩]
def r44_9 : List POp := [
  ⟨some 4, .assign (.const (.string ⟨#[105, 110, 116]⟩)), none⟩]
def r44_10 : List POp := [
  ⟨some 62, .fieldAddr 24 (.tmp 2) 0, none⟩,
  ⟨some 63, .load 3 (.tmp 62), none⟩,
  ⟨some 64, .binOp .eql 3 (.tmp 63) (.const (.int .i64 2)) 3, none⟩,
  ⟨some 61, .assign (.tmp 64), none⟩]
def r44_11 : List POp := [
  ⟨some 4, .assign (.const (.string ⟨#[98, 111, 111, 108]⟩)), none⟩]
def r44_12 : List POp := [
  ⟨some 66, .fieldAddr 24 (.tmp 2) 0, none⟩,
  ⟨some 67, .load 3 (.tmp 66), none⟩,
  ⟨some 68, .binOp .eql 3 (.tmp 67) (.const (.int .i64 3)) 3, none⟩,
  ⟨some 65, .assign (.tmp 68), none⟩]
def r44_13 : List POp := [
  ⟨some 4, .assign (.const (.string ⟨#[117, 110, 105, 116]⟩)), none⟩]
def r44_14 : List POp := [
  ⟨some 70, .fieldAddr 24 (.tmp 2) 0, none⟩,
  ⟨some 71, .load 3 (.tmp 70), none⟩,
  ⟨some 72, .binOp .eql 3 (.tmp 71) (.const (.int .i64 4)) 3, none⟩,
  ⟨some 69, .assign (.tmp 72), none⟩]
def r44_15 : List POp := [
  ⟨some 73, .fieldAddr 24 (.tmp 2) 1, none⟩,
  ⟨some 74, .load 9 (.tmp 73), none⟩,
  ⟨some 4, .assign (.tmp 74), none⟩]
def r44_16 : List POp := [
  ⟨some 4, .assign (.const (.string ⟨#[]⟩)), none⟩]
noncomputable def p44 : PC := (.seq (.reg r44_0) (.seq (.block 0 (.seq (.reg r44_1) (.cond (.tmp 5) (.seq (.reg r44_2) .ret) (.seq (.reg r44_3) (.cond (.tmp 13) (.seq (.draw d44_0) .ret) (.seq (.reg r44_6) (.cond (.tmp 39) (.seq (.reg r44_7) .ret) (.seq (.reg r44_8) (.cond (.tmp 57) (.seq (.reg r44_9) .ret) (.seq (.reg r44_10) (.cond (.tmp 61) (.seq (.reg r44_11) .ret) (.seq (.reg r44_12) (.cond (.tmp 65) (.seq (.reg r44_13) .ret) (.seq (.reg r44_14) (.cond (.tmp 69) (.seq (.reg r44_15) .ret) .skip))))))))))))))) (.seq (.reg r44_16) .ret)))
theorem comp44 : (Tryd.f44.body.map (comp E Tryd.f44.ntmps)) = some p44 := by kernel_rfl
theorem ev44 {args : List AV} {S : St} {P : AV → St → Prop} (hn : Nat.ble args.length 75 = true) (h : EndsA E 75 [.c p44] .nrm (initTm 0 args .leaf) S (RetQ E [.tmp 4] P)) : ∃ r S', EvA E 44 args S r S' ∧ P r S' := ev_ends (fn := Tryd.f44) (by kernel_rfl) rfl comp44 (by kernel_rfl) (by kernel_rfl) hn h
/-! hindsight/ty.Show -/
def r17_0 : List POp := [
  ⟨some 1, .box 24 (.tmp 0), none⟩,
  ⟨some 2, .assign (.const (.string ⟨#[]⟩)), none⟩]
def r17_1 : List POp := [
  ⟨some 6, .makeMap 81 none, none⟩,
  ⟨some 3, .assign (.tmp 6), none⟩]
def r17_2 : List POp := [
  ⟨some 7, .load 24 (.tmp 1), none⟩,
  ⟨some 8, .call { callee := .value (.func 14), args := #[(.tmp 7)], argTypes := #[24] }, none⟩,
  ⟨some 9, .call { callee := .builtin .len, args := #[(.tmp 8)], argTypes := #[32] }, none⟩,
  ⟨some 10, .move (.const (.int .i64 0)), none⟩]
def r17_3 : List POp := [
  ⟨some 11, .binOp .lss 3 (.tmp 10) (.tmp 9) 3, none⟩]
def r17_4 : List POp := [
  ⟨some 12, .move (.tmp 10), none⟩,
  ⟨some 13, .indexAddr 32 (.tmp 8) (.tmp 10), none⟩,
  ⟨some 14, .load 3 (.tmp 13), none⟩,
  ⟨some 4, .assign (.tmp 12), none⟩,
  ⟨some 5, .assign (.tmp 14), none⟩]
def r17_5 : List POp := [
  ⟨some 15, .move (.tmp 3), none⟩,
  ⟨some 16, .move (.tmp 5), none⟩,
  ⟨some 17, .move (.tmp 4), none⟩,
  ⟨some 18, .call { callee := .value (.func 43), args := #[(.tmp 17)], argTypes := #[3] }, none⟩,
  ⟨none, .mapUpdate 81 (.tmp 15) (.tmp 16) (.tmp 18), none⟩]
def r17_6 : List POp := [
  ⟨some 19, .binOp .add 3 (.tmp 10) (.const (.int .i64 1)) 3, none⟩,
  ⟨some 10, .move (.tmp 19), none⟩]
noncomputable def b17_7 : PC := (.seq (.reg r17_3) (.seq (.cond (.tmp 11) .skip (.exit 0)) (.seq (.block 1 (.seq (.reg r17_4) (.reg r17_5))) (.reg r17_6))))
def r17_8 : List POp := [
  ⟨some 20, .load 24 (.tmp 1), none⟩,
  ⟨some 21, .move (.tmp 3), none⟩,
  ⟨some 22, .call { callee := .value (.func 44), args := #[(.tmp 20), (.tmp 21)], argTypes := #[24, 81] }, none⟩,
  ⟨some 2, .assign (.tmp 22), none⟩]
noncomputable def p17 : PC := (.seq (.reg r17_0) (.seq (.reg r17_1) (.seq (.seq (.reg r17_2) (.block 0 (.loop b17_7))) (.seq (.reg r17_8) .ret))))
theorem comp17 : (Tryd.f17.body.map (comp E Tryd.f17.ntmps)) = some p17 := by kernel_rfl
theorem ev17 {args : List AV} {S : St} {P : AV → St → Prop} (hn : Nat.ble args.length 23 = true) (h : EndsA E 23 [.c p17] .nrm (initTm 0 args .leaf) S (RetQ E [.tmp 2] P)) : ∃ r S', EvA E 17 args S r S' ∧ P r S' := ev_ends (fn := Tryd.f17) (by kernel_rfl) rfl comp17 (by kernel_rfl) (by kernel_rfl) hn h
/-! hindsight/scheme.Show -/
def r21_0 : List POp := [
  ⟨some 1, .box 34 (.tmp 0), none⟩,
  ⟨some 2, .assign (.const (.string ⟨#[]⟩)), none⟩]
def r21_1 : List POp := [
  ⟨some 3, .fieldAddr 34 (.tmp 1) 1, none⟩,
  ⟨some 4, .load 24 (.tmp 3), none⟩,
  ⟨some 5, .call { callee := .value (.func 17), args := #[(.tmp 4)], argTypes := #[24] }, none⟩,
  ⟨some 2, .assign (.tmp 5), none⟩]
noncomputable def p21 : PC := (.seq (.reg r21_0) (.seq (.reg r21_1) .ret))
theorem comp21 : (Tryd.f21.body.map (comp E Tryd.f21.ntmps)) = some p21 := by kernel_rfl
theorem ev21 {args : List AV} {S : St} {P : AV → St → Prop} (hn : Nat.ble args.length 6 = true) (h : EndsA E 6 [.c p21] .nrm (initTm 0 args .leaf) S (RetQ E [.tmp 2] P)) : ∃ r S', EvA E 21 args S r S' ∧ P r S' := ev_ends (fn := Tryd.f21) (by kernel_rfl) rfl comp21 (by kernel_rfl) (by kernel_rfl) hn h
end Go.Proofs.YtaacibffjmbfiaaDoor
