/-
  Two stops, two variables held against each other: written by program (wip/tools/gen-inf11.py).
-/
import Derived.Test.YtmmpcomfhcpicaaInf3
import Derived.Test.YtmmpcomfhcpicaaEql
set_option linter.unusedSimpArgs false
set_option linter.unusedVariables false
set_option maxRecDepth 100000
namespace Go.Proofs.Ytmmpcomfhcpicaa
open Go.Abs
noncomputable def fldT (t k : Nat) : Field := match Try.prog.underlying t with
  | some (.struct fs) => fs.getD k default
  | _ => default
def eqStopV (i j : StopV) : Bool := i.pc == j.pc && i.at_ == j.at_ && i.line == j.line && i.col == j.col
def eqVarV (i j : VarV) : Bool := i.frm == j.frm && i.to == j.to && i.name.toList == j.name.toList && i.kind == j.kind && i.n == j.n && i.typ.toList == j.typ.toList
theorem fields51 : (Try.prog.fieldsOf 51).toList = [fldT 51 0, fldT 51 1, fldT 51 2, fldT 51 3] := by kernel_rfl
theorem undT51 : Try.prog.underlying 51 = some (.struct (Try.prog.fieldsOf 51)) := by kernel_rfl
theorem stood51 : Try.prog.stoodInHeld 51 = false := by kernel_rfl
theorem guard51 : Try.prog.eqGuardType Try.prog.depth 51 = false := by kernel_rfl
theorem nmT51_0 : (fldT 51 0).name ≠ "_" := by decide +kernel
theorem partT51_0 (a b c d : Value) : peek Try.prog (part (fldT 51 0).type #[a, b, c, d] (fldT 51 0).offset) = some a := by kernel_rfl
theorem ftyT51_0 : Try.prog.underlying (fldT 51 0).type = some (.int .i64) := by kernel_rfl
theorem nmT51_1 : (fldT 51 1).name ≠ "_" := by decide +kernel
theorem partT51_1 (a b c d : Value) : peek Try.prog (part (fldT 51 1).type #[a, b, c, d] (fldT 51 1).offset) = some b := by kernel_rfl
theorem ftyT51_1 : Try.prog.underlying (fldT 51 1).type = some (.int .i64) := by kernel_rfl
theorem nmT51_2 : (fldT 51 2).name ≠ "_" := by decide +kernel
theorem partT51_2 (a b c d : Value) : peek Try.prog (part (fldT 51 2).type #[a, b, c, d] (fldT 51 2).offset) = some c := by kernel_rfl
theorem ftyT51_2 : Try.prog.underlying (fldT 51 2).type = some (.int .i64) := by kernel_rfl
theorem nmT51_3 : (fldT 51 3).name ≠ "_" := by decide +kernel
theorem partT51_3 (a b c d : Value) : peek Try.prog (part (fldT 51 3).type #[a, b, c, d] (fldT 51 3).offset) = some d := by kernel_rfl
theorem ftyT51_3 : Try.prog.underlying (fldT 51 3).type = some (.int .i64) := by kernel_rfl
theorem fields56 : (Try.prog.fieldsOf 56).toList = [fldT 56 0, fldT 56 1, fldT 56 2, fldT 56 3, fldT 56 4, fldT 56 5] := by kernel_rfl
theorem undT56 : Try.prog.underlying 56 = some (.struct (Try.prog.fieldsOf 56)) := by kernel_rfl
theorem stood56 : Try.prog.stoodInHeld 56 = false := by kernel_rfl
theorem guard56 : Try.prog.eqGuardType Try.prog.depth 56 = false := by kernel_rfl
theorem nmT56_0 : (fldT 56 0).name ≠ "_" := by decide +kernel
theorem partT56_0 (a b c d e f : Value) : peek Try.prog (part (fldT 56 0).type #[a, b, c, d, e, f] (fldT 56 0).offset) = some a := by kernel_rfl
theorem ftyT56_0 : Try.prog.underlying (fldT 56 0).type = some (.int .i64) := by kernel_rfl
theorem nmT56_1 : (fldT 56 1).name ≠ "_" := by decide +kernel
theorem partT56_1 (a b c d e f : Value) : peek Try.prog (part (fldT 56 1).type #[a, b, c, d, e, f] (fldT 56 1).offset) = some b := by kernel_rfl
theorem ftyT56_1 : Try.prog.underlying (fldT 56 1).type = some (.int .i64) := by kernel_rfl
theorem nmT56_2 : (fldT 56 2).name ≠ "_" := by decide +kernel
theorem partT56_2 (a b c d e f : Value) : peek Try.prog (part (fldT 56 2).type #[a, b, c, d, e, f] (fldT 56 2).offset) = some c := by kernel_rfl
theorem ftyT56_2 : Try.prog.underlying (fldT 56 2).type = some .string := by kernel_rfl
theorem nmT56_3 : (fldT 56 3).name ≠ "_" := by decide +kernel
theorem partT56_3 (a b c d e f : Value) : peek Try.prog (part (fldT 56 3).type #[a, b, c, d, e, f] (fldT 56 3).offset) = some d := by kernel_rfl
theorem ftyT56_3 : Try.prog.underlying (fldT 56 3).type = some (.int .i64) := by kernel_rfl
theorem nmT56_4 : (fldT 56 4).name ≠ "_" := by decide +kernel
theorem partT56_4 (a b c d e f : Value) : peek Try.prog (part (fldT 56 4).type #[a, b, c, d, e, f] (fldT 56 4).offset) = some e := by kernel_rfl
theorem ftyT56_4 : Try.prog.underlying (fldT 56 4).type = some (.int .i64) := by kernel_rfl
theorem nmT56_5 : (fldT 56 5).name ≠ "_" := by decide +kernel
theorem partT56_5 (a b c d e f : Value) : peek Try.prog (part (fldT 56 5).type #[a, b, c, d, e, f] (fldT 56 5).offset) = some f := by kernel_rfl
theorem ftyT56_5 : Try.prog.underlying (fldT 56 5).type = some .string := by kernel_rfl
theorem eqT51 (i j : StopV) : peek Try.prog (Op.equalIn 10000 51 (.agg #[.int .i64 i.pc, .int .i64 i.at_, .int .i64 i.line, .int .i64 i.col]) (.agg #[.int .i64 j.pc, .int .i64 j.at_, .int .i64 j.line, .int .i64 j.col])) = some (eqStopV i j) := by
  rw [peek_equalIn_struct 9999 51 _ _ undT51 stood51, fields51]
  rw [eqF_cons nmT51_0 (partT51_0 _ _ _ _) (partT51_0 _ _ _ _) (peek_equalIn_int 9998 _ .i64 .i64 _ _ ftyT51_0)]
  rw [eqF_cons nmT51_1 (partT51_1 _ _ _ _) (partT51_1 _ _ _ _) (peek_equalIn_int 9998 _ .i64 .i64 _ _ ftyT51_1)]
  rw [eqF_cons nmT51_2 (partT51_2 _ _ _ _) (partT51_2 _ _ _ _) (peek_equalIn_int 9998 _ .i64 .i64 _ _ ftyT51_2)]
  rw [eqF_cons nmT51_3 (partT51_3 _ _ _ _) (partT51_3 _ _ _ _) (peek_equalIn_int 9998 _ .i64 .i64 _ _ ftyT51_3)]
  rw [eqF_nil]
  simp only [eqStopV]
  cases (i.pc == j.pc) <;> cases (i.at_ == j.at_) <;> cases (i.line == j.line) <;> cases (i.col == j.col) <;> rfl
theorem b_ne51 (i j : StopV) (x y : Operand) (S : St) : binGen E .neq 51 x y (.agg [.sc (.int .i64 i.pc), .sc (.int .i64 i.at_), .sc (.int .i64 i.line), .sc (.int .i64 i.col)]) (.agg [.sc (.int .i64 j.pc), .sc (.int .i64 j.at_), .sc (.int .i64 j.line), .sc (.int .i64 j.col)]) S = some (.sc (.bool (!(eqStopV i j))), S) := b_neagg (E := E) (S := S) (t := 51) x y (X := .agg [.sc (.int .i64 i.pc), .sc (.int .i64 i.at_), .sc (.int .i64 i.line), .sc (.int .i64 i.col)]) (Y := .agg [.sc (.int .i64 j.pc), .sc (.int .i64 j.at_), .sc (.int .i64 j.line), .sc (.int .i64 j.col)]) rfl rfl guard51 (eqT51 i j)
theorem eqT56 (i j : VarV) : peek Try.prog (Op.equalIn 10000 56 (.agg #[.int .i64 i.frm, .int .i64 i.to, .string i.name, .int .i64 i.kind, .int .i64 i.n, .string i.typ]) (.agg #[.int .i64 j.frm, .int .i64 j.to, .string j.name, .int .i64 j.kind, .int .i64 j.n, .string j.typ])) = some (eqVarV i j) := by
  rw [peek_equalIn_struct 9999 56 _ _ undT56 stood56, fields56]
  rw [eqF_cons nmT56_0 (partT56_0 _ _ _ _ _ _) (partT56_0 _ _ _ _ _ _) (peek_equalIn_int 9998 _ .i64 .i64 _ _ ftyT56_0)]
  rw [eqF_cons nmT56_1 (partT56_1 _ _ _ _ _ _) (partT56_1 _ _ _ _ _ _) (peek_equalIn_int 9998 _ .i64 .i64 _ _ ftyT56_1)]
  rw [eqF_cons nmT56_2 (partT56_2 _ _ _ _ _ _) (partT56_2 _ _ _ _ _ _) (peek_equalIn_string 9998 _ _ _ ftyT56_2)]
  rw [eqF_cons nmT56_3 (partT56_3 _ _ _ _ _ _) (partT56_3 _ _ _ _ _ _) (peek_equalIn_int 9998 _ .i64 .i64 _ _ ftyT56_3)]
  rw [eqF_cons nmT56_4 (partT56_4 _ _ _ _ _ _) (partT56_4 _ _ _ _ _ _) (peek_equalIn_int 9998 _ .i64 .i64 _ _ ftyT56_4)]
  rw [eqF_cons nmT56_5 (partT56_5 _ _ _ _ _ _) (partT56_5 _ _ _ _ _ _) (peek_equalIn_string 9998 _ _ _ ftyT56_5)]
  rw [eqF_nil]
  simp only [eqVarV]
  cases (i.frm == j.frm) <;> cases (i.to == j.to) <;> cases (i.name.toList == j.name.toList) <;> cases (i.kind == j.kind) <;> cases (i.n == j.n) <;> cases (i.typ.toList == j.typ.toList) <;> rfl
theorem b_ne56 (i j : VarV) (x y : Operand) (S : St) : binGen E .neq 56 x y (.agg [.sc (.int .i64 i.frm), .sc (.int .i64 i.to), .sc (.string i.name), .sc (.int .i64 i.kind), .sc (.int .i64 i.n), .sc (.string i.typ)]) (.agg [.sc (.int .i64 j.frm), .sc (.int .i64 j.to), .sc (.string j.name), .sc (.int .i64 j.kind), .sc (.int .i64 j.n), .sc (.string j.typ)]) S = some (.sc (.bool (!(eqVarV i j))), S) := b_neagg (E := E) (S := S) (t := 56) x y (X := .agg [.sc (.int .i64 i.frm), .sc (.int .i64 i.to), .sc (.string i.name), .sc (.int .i64 i.kind), .sc (.int .i64 i.n), .sc (.string i.typ)]) (Y := .agg [.sc (.int .i64 j.frm), .sc (.int .i64 j.to), .sc (.string j.name), .sc (.int .i64 j.kind), .sc (.int .i64 j.n), .sc (.string j.typ)]) rfl rfl guard56 (eqT56 i j)
end Go.Proofs.Ytmmpcomfhcpicaa
