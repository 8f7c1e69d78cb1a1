/-
  Two stops, two variables held against each other: written by program (wip/tools/gen-inf11.py).
-/
import Derived.Test.YtmmpcomfhcpicaaInf10
import Derived.Test.YtmmpcomfhcpicaaEql
set_option linter.unusedSimpArgs false
set_option linter.unusedVariables false
set_option maxRecDepth 100000
namespace Go.Proofs.Ytmmpcomfhcpicaa
open Go.Abs
noncomputable def fldT (t k : Nat) : Field := match Try.prog.underlying t with
  | some (.struct fs) => fs.getD k default
  | _ => default
def eqStopV (i j : StopV) : Bool := i.pc == j.pc && i.at_ == j.at_ && i.line == j.line && i.col == j.col
def eqVarV (i j : VarV) : Bool := i.frm == j.frm && i.to == j.to && i.name.toList == j.name.toList && i.kind == j.kind && i.n == j.n && i.typ.toList == j.typ.toList
theorem fields41 : (Try.prog.fieldsOf 41).toList = [fldT 41 0, fldT 41 1, fldT 41 2, fldT 41 3] := by kernel_rfl
theorem undT41 : Try.prog.underlying 41 = some (.struct (Try.prog.fieldsOf 41)) := by kernel_rfl
theorem stood41 : Try.prog.stoodInHeld 41 = false := by kernel_rfl
theorem guard41 : Try.prog.eqGuardType Try.prog.depth 41 = false := by kernel_rfl
theorem nmT41_0 : (fldT 41 0).name ≠ "_" := by decide +kernel
theorem partT41_0 (a b c d : Value) : peek Try.prog (part (fldT 41 0).type #[a, b, c, d] (fldT 41 0).offset) = some a := by kernel_rfl
theorem ftyT41_0 : Try.prog.underlying (fldT 41 0).type = some (.int .i64) := by kernel_rfl
theorem nmT41_1 : (fldT 41 1).name ≠ "_" := by decide +kernel
theorem partT41_1 (a b c d : Value) : peek Try.prog (part (fldT 41 1).type #[a, b, c, d] (fldT 41 1).offset) = some b := by kernel_rfl
theorem ftyT41_1 : Try.prog.underlying (fldT 41 1).type = some (.int .i64) := by kernel_rfl
theorem nmT41_2 : (fldT 41 2).name ≠ "_" := by decide +kernel
theorem partT41_2 (a b c d : Value) : peek Try.prog (part (fldT 41 2).type #[a, b, c, d] (fldT 41 2).offset) = some c := by kernel_rfl
theorem ftyT41_2 : Try.prog.underlying (fldT 41 2).type = some (.int .i64) := by kernel_rfl
theorem nmT41_3 : (fldT 41 3).name ≠ "_" := by decide +kernel
theorem partT41_3 (a b c d : Value) : peek Try.prog (part (fldT 41 3).type #[a, b, c, d] (fldT 41 3).offset) = some d := by kernel_rfl
theorem ftyT41_3 : Try.prog.underlying (fldT 41 3).type = some (.int .i64) := by kernel_rfl
theorem fields51 : (Try.prog.fieldsOf 51).toList = [fldT 51 0, fldT 51 1, fldT 51 2, fldT 51 3] := by kernel_rfl
theorem undT51 : Try.prog.underlying 51 = some (.struct (Try.prog.fieldsOf 51)) := by kernel_rfl
theorem stood51 : Try.prog.stoodInHeld 51 = false := by kernel_rfl
theorem guard51 : Try.prog.eqGuardType Try.prog.depth 51 = false := by kernel_rfl
theorem nmT51_0 : (fldT 51 0).name ≠ "_" := by decide +kernel
theorem partT51_0 (a b c d : Value) : peek Try.prog (part (fldT 51 0).type #[a, b, c, d] (fldT 51 0).offset) = some a := by kernel_rfl
theorem ftyT51_0 : Try.prog.underlying (fldT 51 0).type = some (.int .i64) := by kernel_rfl
theorem nmT51_1 : (fldT 51 1).name ≠ "_" := by decide +kernel
theorem partT51_1 (a b c d : Value) : peek Try.prog (part (fldT 51 1).type #[a, b, c, d] (fldT 51 1).offset) = some b := by kernel_rfl
theorem ftyT51_1 : Try.prog.underlying (fldT 51 1).type = some (.int .i64) := by kernel_rfl
theorem nmT51_2 : (fldT 51 2).name ≠ "_" := by decide +kernel
theorem partT51_2 (a b c d : Value) : peek Try.prog (part (fldT 51 2).type #[a, b, c, d] (fldT 51 2).offset) = some c := by kernel_rfl
theorem ftyT51_2 : Try.prog.underlying (fldT 51 2).type = some (.int .i64) := by kernel_rfl
theorem nmT51_3 : (fldT 51 3).name ≠ "_" := by decide +kernel
theorem partT51_3 (a b c d : Value) : peek Try.prog (part (fldT 51 3).type #[a, b, c, d] (fldT 51 3).offset) = some d := by kernel_rfl
theorem ftyT51_3 : Try.prog.underlying (fldT 51 3).type = some (.int .i64) := by kernel_rfl
theorem fields43 : (Try.prog.fieldsOf 43).toList = [fldT 43 0, fldT 43 1, fldT 43 2, fldT 43 3, fldT 43 4, fldT 43 5] := by kernel_rfl
theorem undT43 : Try.prog.underlying 43 = some (.struct (Try.prog.fieldsOf 43)) := by kernel_rfl
theorem stood43 : Try.prog.stoodInHeld 43 = false := by kernel_rfl
theorem guard43 : Try.prog.eqGuardType Try.prog.depth 43 = false := by kernel_rfl
theorem nmT43_0 : (fldT 43 0).name ≠ "_" := by decide +kernel
theorem partT43_0 (a b c d e f : Value) : peek Try.prog (part (fldT 43 0).type #[a, b, c, d, e, f] (fldT 43 0).offset) = some a := by kernel_rfl
theorem ftyT43_0 : Try.prog.underlying (fldT 43 0).type = some (.int .i64) := by kernel_rfl
theorem nmT43_1 : (fldT 43 1).name ≠ "_" := by decide +kernel
theorem partT43_1 (a b c d e f : Value) : peek Try.prog (part (fldT 43 1).type #[a, b, c, d, e, f] (fldT 43 1).offset) = some b := by kernel_rfl
theorem ftyT43_1 : Try.prog.underlying (fldT 43 1).type = some (.int .i64) := by kernel_rfl
theorem nmT43_2 : (fldT 43 2).name ≠ "_" := by decide +kernel
theorem partT43_2 (a b c d e f : Value) : peek Try.prog (part (fldT 43 2).type #[a, b, c, d, e, f] (fldT 43 2).offset) = some c := by kernel_rfl
theorem ftyT43_2 : Try.prog.underlying (fldT 43 2).type = some .string := by kernel_rfl
theorem nmT43_3 : (fldT 43 3).name ≠ "_" := by decide +kernel
theorem partT43_3 (a b c d e f : Value) : peek Try.prog (part (fldT 43 3).type #[a, b, c, d, e, f] (fldT 43 3).offset) = some d := by kernel_rfl
theorem ftyT43_3 : Try.prog.underlying (fldT 43 3).type = some (.int .i64) := by kernel_rfl
theorem nmT43_4 : (fldT 43 4).name ≠ "_" := by decide +kernel
theorem partT43_4 (a b c d e f : Value) : peek Try.prog (part (fldT 43 4).type #[a, b, c, d, e, f] (fldT 43 4).offset) = some e := by kernel_rfl
theorem ftyT43_4 : Try.prog.underlying (fldT 43 4).type = some (.int .i64) := by kernel_rfl
theorem nmT43_5 : (fldT 43 5).name ≠ "_" := by decide +kernel
theorem partT43_5 (a b c d e f : Value) : peek Try.prog (part (fldT 43 5).type #[a, b, c, d, e, f] (fldT 43 5).offset) = some f := by kernel_rfl
theorem ftyT43_5 : Try.prog.underlying (fldT 43 5).type = some .string := by kernel_rfl
theorem fields56 : (Try.prog.fieldsOf 56).toList = [fldT 56 0, fldT 56 1, fldT 56 2, fldT 56 3, fldT 56 4, fldT 56 5] := by kernel_rfl
theorem undT56 : Try.prog.underlying 56 = some (.struct (Try.prog.fieldsOf 56)) := by kernel_rfl
theorem stood56 : Try.prog.stoodInHeld 56 = false := by kernel_rfl
theorem guard56 : Try.prog.eqGuardType Try.prog.depth 56 = false := by kernel_rfl
theorem nmT56_0 : (fldT 56 0).name ≠ "_" := by decide +kernel
theorem partT56_0 (a b c d e f : Value) : peek Try.prog (part (fldT 56 0).type #[a, b, c, d, e, f] (fldT 56 0).offset) = some a := by kernel_rfl
theorem ftyT56_0 : Try.prog.underlying (fldT 56 0).type = some (.int .i64) := by kernel_rfl
theorem nmT56_1 : (fldT 56 1).name ≠ "_" := by decide +kernel
theorem partT56_1 (a b c d e f : Value) : peek Try.prog (part (fldT 56 1).type #[a, b, c, d, e, f] (fldT 56 1).offset) = some b := by kernel_rfl
theorem ftyT56_1 : Try.prog.underlying (fldT 56 1).type = some (.int .i64) := by kernel_rfl
theorem nmT56_2 : (fldT 56 2).name ≠ "_" := by decide +kernel
theorem partT56_2 (a b c d e f : Value) : peek Try.prog (part (fldT 56 2).type #[a, b, c, d, e, f] (fldT 56 2).offset) = some c := by kernel_rfl
theorem ftyT56_2 : Try.prog.underlying (fldT 56 2).type = some .string := by kernel_rfl
theorem nmT56_3 : (fldT 56 3).name ≠ "_" := by decide +kernel
theorem partT56_3 (a b c d e f : Value) : peek Try.prog (part (fldT 56 3).type #[a, b, c, d, e, f] (fldT 56 3).offset) = some d := by kernel_rfl
theorem ftyT56_3 : Try.prog.underlying (fldT 56 3).type = some (.int .i64) := by kernel_rfl
theorem nmT56_4 : (fldT 56 4).name ≠ "_" := by decide +kernel
theorem partT56_4 (a b c d e f : Value) : peek Try.prog (part (fldT 56 4).type #[a, b, c, d, e, f] (fldT 56 4).offset) = some e := by kernel_rfl
theorem ftyT56_4 : Try.prog.underlying (fldT 56 4).type = some (.int .i64) := by kernel_rfl
theorem nmT56_5 : (fldT 56 5).name ≠ "_" := by decide +kernel
theorem partT56_5 (a b c d e f : Value) : peek Try.prog (part (fldT 56 5).type #[a, b, c, d, e, f] (fldT 56 5).offset) = some f := by kernel_rfl
theorem ftyT56_5 : Try.prog.underlying (fldT 56 5).type = some .string := by kernel_rfl
theorem eqT41 (i j : StopV) : peek Try.prog (Op.equalIn 10000 41 (.agg #[.int .i64 i.pc, .int .i64 i.at_, .int .i64 i.line, .int .i64 i.col]) (.agg #[.int .i64 j.pc, .int .i64 j.at_, .int .i64 j.line, .int .i64 j.col])) = some (eqStopV i j) := by
  rw [peek_equalIn_struct 9999 41 _ _ undT41 stood41, fields41]
  rw [eqF_cons nmT41_0 (partT41_0 _ _ _ _) (partT41_0 _ _ _ _) (peek_equalIn_int 9998 _ .i64 .i64 _ _ ftyT41_0)]
  rw [eqF_cons nmT41_1 (partT41_1 _ _ _ _) (partT41_1 _ _ _ _) (peek_equalIn_int 9998 _ .i64 .i64 _ _ ftyT41_1)]
  rw [eqF_cons nmT41_2 (partT41_2 _ _ _ _) (partT41_2 _ _ _ _) (peek_equalIn_int 9998 _ .i64 .i64 _ _ ftyT41_2)]
  rw [eqF_cons nmT41_3 (partT41_3 _ _ _ _) (partT41_3 _ _ _ _) (peek_equalIn_int 9998 _ .i64 .i64 _ _ ftyT41_3)]
  rw [eqF_nil]
  simp only [eqStopV]
  cases (i.pc == j.pc) <;> cases (i.at_ == j.at_) <;> cases (i.line == j.line) <;> cases (i.col == j.col) <;> rfl
theorem b_eq41 (i j : StopV) (x y : Operand) (S : St) : binGen E .eql 41 x y (.agg [.sc (.int .i64 i.pc), .sc (.int .i64 i.at_), .sc (.int .i64 i.line), .sc (.int .i64 i.col)]) (.agg [.sc (.int .i64 j.pc), .sc (.int .i64 j.at_), .sc (.int .i64 j.line), .sc (.int .i64 j.col)]) S = some (.sc (.bool (eqStopV i j)), S) := b_eqagg (E := E) (S := S) (t := 41) x y (X := .agg [.sc (.int .i64 i.pc), .sc (.int .i64 i.at_), .sc (.int .i64 i.line), .sc (.int .i64 i.col)]) (Y := .agg [.sc (.int .i64 j.pc), .sc (.int .i64 j.at_), .sc (.int .i64 j.line), .sc (.int .i64 j.col)]) rfl rfl guard41 (eqT41 i j)
theorem b_ne41 (i j : StopV) (x y : Operand) (S : St) : binGen E .neq 41 x y (.agg [.sc (.int .i64 i.pc), .sc (.int .i64 i.at_), .sc (.int .i64 i.line), .sc (.int .i64 i.col)]) (.agg [.sc (.int .i64 j.pc), .sc (.int .i64 j.at_), .sc (.int .i64 j.line), .sc (.int .i64 j.col)]) S = some (.sc (.bool (!(eqStopV i j))), S) := b_neagg (E := E) (S := S) (t := 41) x y (X := .agg [.sc (.int .i64 i.pc), .sc (.int .i64 i.at_), .sc (.int .i64 i.line), .sc (.int .i64 i.col)]) (Y := .agg [.sc (.int .i64 j.pc), .sc (.int .i64 j.at_), .sc (.int .i64 j.line), .sc (.int .i64 j.col)]) rfl rfl guard41 (eqT41 i j)
theorem eqT51 (i j : StopV) : peek Try.prog (Op.equalIn 10000 51 (.agg #[.int .i64 i.pc, .int .i64 i.at_, .int .i64 i.line, .int .i64 i.col]) (.agg #[.int .i64 j.pc, .int .i64 j.at_, .int .i64 j.line, .int .i64 j.col])) = some (eqStopV i j) := by
  rw [peek_equalIn_struct 9999 51 _ _ undT51 stood51, fields51]
  rw [eqF_cons nmT51_0 (partT51_0 _ _ _ _) (partT51_0 _ _ _ _) (peek_equalIn_int 9998 _ .i64 .i64 _ _ ftyT51_0)]
  rw [eqF_cons nmT51_1 (partT51_1 _ _ _ _) (partT51_1 _ _ _ _) (peek_equalIn_int 9998 _ .i64 .i64 _ _ ftyT51_1)]
  rw [eqF_cons nmT51_2 (partT51_2 _ _ _ _) (partT51_2 _ _ _ _) (peek_equalIn_int 9998 _ .i64 .i64 _ _ ftyT51_2)]
  rw [eqF_cons nmT51_3 (partT51_3 _ _ _ _) (partT51_3 _ _ _ _) (peek_equalIn_int 9998 _ .i64 .i64 _ _ ftyT51_3)]
  rw [eqF_nil]
  simp only [eqStopV]
  cases (i.pc == j.pc) <;> cases (i.at_ == j.at_) <;> cases (i.line == j.line) <;> cases (i.col == j.col) <;> rfl
theorem b_eq51 (i j : StopV) (x y : Operand) (S : St) : binGen E .eql 51 x y (.agg [.sc (.int .i64 i.pc), .sc (.int .i64 i.at_), .sc (.int .i64 i.line), .sc (.int .i64 i.col)]) (.agg [.sc (.int .i64 j.pc), .sc (.int .i64 j.at_), .sc (.int .i64 j.line), .sc (.int .i64 j.col)]) S = some (.sc (.bool (eqStopV i j)), S) := b_eqagg (E := E) (S := S) (t := 51) x y (X := .agg [.sc (.int .i64 i.pc), .sc (.int .i64 i.at_), .sc (.int .i64 i.line), .sc (.int .i64 i.col)]) (Y := .agg [.sc (.int .i64 j.pc), .sc (.int .i64 j.at_), .sc (.int .i64 j.line), .sc (.int .i64 j.col)]) rfl rfl guard51 (eqT51 i j)
theorem b_ne51 (i j : StopV) (x y : Operand) (S : St) : binGen E .neq 51 x y (.agg [.sc (.int .i64 i.pc), .sc (.int .i64 i.at_), .sc (.int .i64 i.line), .sc (.int .i64 i.col)]) (.agg [.sc (.int .i64 j.pc), .sc (.int .i64 j.at_), .sc (.int .i64 j.line), .sc (.int .i64 j.col)]) S = some (.sc (.bool (!(eqStopV i j))), S) := b_neagg (E := E) (S := S) (t := 51) x y (X := .agg [.sc (.int .i64 i.pc), .sc (.int .i64 i.at_), .sc (.int .i64 i.line), .sc (.int .i64 i.col)]) (Y := .agg [.sc (.int .i64 j.pc), .sc (.int .i64 j.at_), .sc (.int .i64 j.line), .sc (.int .i64 j.col)]) rfl rfl guard51 (eqT51 i j)
theorem eqT43 (i j : VarV) : peek Try.prog (Op.equalIn 10000 43 (.agg #[.int .i64 i.frm, .int .i64 i.to, .string i.name, .int .i64 i.kind, .int .i64 i.n, .string i.typ]) (.agg #[.int .i64 j.frm, .int .i64 j.to, .string j.name, .int .i64 j.kind, .int .i64 j.n, .string j.typ])) = some (eqVarV i j) := by
  rw [peek_equalIn_struct 9999 43 _ _ undT43 stood43, fields43]
  rw [eqF_cons nmT43_0 (partT43_0 _ _ _ _ _ _) (partT43_0 _ _ _ _ _ _) (peek_equalIn_int 9998 _ .i64 .i64 _ _ ftyT43_0)]
  rw [eqF_cons nmT43_1 (partT43_1 _ _ _ _ _ _) (partT43_1 _ _ _ _ _ _) (peek_equalIn_int 9998 _ .i64 .i64 _ _ ftyT43_1)]
  rw [eqF_cons nmT43_2 (partT43_2 _ _ _ _ _ _) (partT43_2 _ _ _ _ _ _) (peek_equalIn_string 9998 _ _ _ ftyT43_2)]
  rw [eqF_cons nmT43_3 (partT43_3 _ _ _ _ _ _) (partT43_3 _ _ _ _ _ _) (peek_equalIn_int 9998 _ .i64 .i64 _ _ ftyT43_3)]
  rw [eqF_cons nmT43_4 (partT43_4 _ _ _ _ _ _) (partT43_4 _ _ _ _ _ _) (peek_equalIn_int 9998 _ .i64 .i64 _ _ ftyT43_4)]
  rw [eqF_cons nmT43_5 (partT43_5 _ _ _ _ _ _) (partT43_5 _ _ _ _ _ _) (peek_equalIn_string 9998 _ _ _ ftyT43_5)]
  rw [eqF_nil]
  simp only [eqVarV]
  cases (i.frm == j.frm) <;> cases (i.to == j.to) <;> cases (i.name.toList == j.name.toList) <;> cases (i.kind == j.kind) <;> cases (i.n == j.n) <;> cases (i.typ.toList == j.typ.toList) <;> rfl
theorem b_eq43 (i j : VarV) (x y : Operand) (S : St) : binGen E .eql 43 x y (.agg [.sc (.int .i64 i.frm), .sc (.int .i64 i.to), .sc (.string i.name), .sc (.int .i64 i.kind), .sc (.int .i64 i.n), .sc (.string i.typ)]) (.agg [.sc (.int .i64 j.frm), .sc (.int .i64 j.to), .sc (.string j.name), .sc (.int .i64 j.kind), .sc (.int .i64 j.n), .sc (.string j.typ)]) S = some (.sc (.bool (eqVarV i j)), S) := b_eqagg (E := E) (S := S) (t := 43) x y (X := .agg [.sc (.int .i64 i.frm), .sc (.int .i64 i.to), .sc (.string i.name), .sc (.int .i64 i.kind), .sc (.int .i64 i.n), .sc (.string i.typ)]) (Y := .agg [.sc (.int .i64 j.frm), .sc (.int .i64 j.to), .sc (.string j.name), .sc (.int .i64 j.kind), .sc (.int .i64 j.n), .sc (.string j.typ)]) rfl rfl guard43 (eqT43 i j)
theorem b_ne43 (i j : VarV) (x y : Operand) (S : St) : binGen E .neq 43 x y (.agg [.sc (.int .i64 i.frm), .sc (.int .i64 i.to), .sc (.string i.name), .sc (.int .i64 i.kind), .sc (.int .i64 i.n), .sc (.string i.typ)]) (.agg [.sc (.int .i64 j.frm), .sc (.int .i64 j.to), .sc (.string j.name), .sc (.int .i64 j.kind), .sc (.int .i64 j.n), .sc (.string j.typ)]) S = some (.sc (.bool (!(eqVarV i j))), S) := b_neagg (E := E) (S := S) (t := 43) x y (X := .agg [.sc (.int .i64 i.frm), .sc (.int .i64 i.to), .sc (.string i.name), .sc (.int .i64 i.kind), .sc (.int .i64 i.n), .sc (.string i.typ)]) (Y := .agg [.sc (.int .i64 j.frm), .sc (.int .i64 j.to), .sc (.string j.name), .sc (.int .i64 j.kind), .sc (.int .i64 j.n), .sc (.string j.typ)]) rfl rfl guard43 (eqT43 i j)
theorem eqT56 (i j : VarV) : peek Try.prog (Op.equalIn 10000 56 (.agg #[.int .i64 i.frm, .int .i64 i.to, .string i.name, .int .i64 i.kind, .int .i64 i.n, .string i.typ]) (.agg #[.int .i64 j.frm, .int .i64 j.to, .string j.name, .int .i64 j.kind, .int .i64 j.n, .string j.typ])) = some (eqVarV i j) := by
  rw [peek_equalIn_struct 9999 56 _ _ undT56 stood56, fields56]
  rw [eqF_cons nmT56_0 (partT56_0 _ _ _ _ _ _) (partT56_0 _ _ _ _ _ _) (peek_equalIn_int 9998 _ .i64 .i64 _ _ ftyT56_0)]
  rw [eqF_cons nmT56_1 (partT56_1 _ _ _ _ _ _) (partT56_1 _ _ _ _ _ _) (peek_equalIn_int 9998 _ .i64 .i64 _ _ ftyT56_1)]
  rw [eqF_cons nmT56_2 (partT56_2 _ _ _ _ _ _) (partT56_2 _ _ _ _ _ _) (peek_equalIn_string 9998 _ _ _ ftyT56_2)]
  rw [eqF_cons nmT56_3 (partT56_3 _ _ _ _ _ _) (partT56_3 _ _ _ _ _ _) (peek_equalIn_int 9998 _ .i64 .i64 _ _ ftyT56_3)]
  rw [eqF_cons nmT56_4 (partT56_4 _ _ _ _ _ _) (partT56_4 _ _ _ _ _ _) (peek_equalIn_int 9998 _ .i64 .i64 _ _ ftyT56_4)]
  rw [eqF_cons nmT56_5 (partT56_5 _ _ _ _ _ _) (partT56_5 _ _ _ _ _ _) (peek_equalIn_string 9998 _ _ _ ftyT56_5)]
  rw [eqF_nil]
  simp only [eqVarV]
  cases (i.frm == j.frm) <;> cases (i.to == j.to) <;> cases (i.name.toList == j.name.toList) <;> cases (i.kind == j.kind) <;> cases (i.n == j.n) <;> cases (i.typ.toList == j.typ.toList) <;> rfl
theorem b_eq56 (i j : VarV) (x y : Operand) (S : St) : binGen E .eql 56 x y (.agg [.sc (.int .i64 i.frm), .sc (.int .i64 i.to), .sc (.string i.name), .sc (.int .i64 i.kind), .sc (.int .i64 i.n), .sc (.string i.typ)]) (.agg [.sc (.int .i64 j.frm), .sc (.int .i64 j.to), .sc (.string j.name), .sc (.int .i64 j.kind), .sc (.int .i64 j.n), .sc (.string j.typ)]) S = some (.sc (.bool (eqVarV i j)), S) := b_eqagg (E := E) (S := S) (t := 56) x y (X := .agg [.sc (.int .i64 i.frm), .sc (.int .i64 i.to), .sc (.string i.name), .sc (.int .i64 i.kind), .sc (.int .i64 i.n), .sc (.string i.typ)]) (Y := .agg [.sc (.int .i64 j.frm), .sc (.int .i64 j.to), .sc (.string j.name), .sc (.int .i64 j.kind), .sc (.int .i64 j.n), .sc (.string j.typ)]) rfl rfl guard56 (eqT56 i j)
theorem b_ne56 (i j : VarV) (x y : Operand) (S : St) : binGen E .neq 56 x y (.agg [.sc (.int .i64 i.frm), .sc (.int .i64 i.to), .sc (.string i.name), .sc (.int .i64 i.kind), .sc (.int .i64 i.n), .sc (.string i.typ)]) (.agg [.sc (.int .i64 j.frm), .sc (.int .i64 j.to), .sc (.string j.name), .sc (.int .i64 j.kind), .sc (.int .i64 j.n), .sc (.string j.typ)]) S = some (.sc (.bool (!(eqVarV i j))), S) := b_neagg (E := E) (S := S) (t := 56) x y (X := .agg [.sc (.int .i64 i.frm), .sc (.int .i64 i.to), .sc (.string i.name), .sc (.int .i64 i.kind), .sc (.int .i64 i.n), .sc (.string i.typ)]) (Y := .agg [.sc (.int .i64 j.frm), .sc (.int .i64 j.to), .sc (.string j.name), .sc (.int .i64 j.kind), .sc (.int .i64 j.n), .sc (.string j.typ)]) rfl rfl guard56 (eqT56 i j)
end Go.Proofs.Ytmmpcomfhcpicaa
