/-
  ShowInts: the walks (a heap that is copied, a word that is told).
-/
import Derived.Test.YtpcgbkjdobjdaaaGreatDoorIntO
set_option linter.unusedSimpArgs false
set_option linter.unusedVariables false
set_option maxRecDepth 100000
namespace Go.Proofs.YtpcgbkjdobjdaaaGreatDoor
open Go.Abs
theorem ev_nilp {tm : PM AV} : E.ev tm (.const (.pointer none)) = .sc (.pointer none) := rfl
theorem fmt_ans (n : Int) (h1 : -9223372036854775808 ≤ n) (h2 : n ≤ 9223372036854775807) : Ans E 35 [.sc (.int .i64 n), .sc (.int .i64 10)] (.sc (.string (digF n))) := fun S hS => ⟨S, ev_x (E := E) (f := 35) (fn := Tryz.f35) (g := pureX fmtF) (by kernel_rfl) rfl (by
  have e : decide ((10 : Int) = 10) = true := rfl
  simp only [pureX, fmtF, decide_eq_true h1, decide_eq_true h2, e, Bool.and_self, cond_true, Option.map_some]; rfl), Grow.refl hS _⟩
theorem fbool_ans (b : Bool) : Ans E 74 [.sc (.bool b)] (.sc (.string (bif b then (⟨#[116, 114, 117, 101]⟩ : ByteArray) else (⟨#[102, 97, 108, 115, 101]⟩ : ByteArray)))) := ans_of fun S hS => by
  refine ev74 rfl ?_
  simp only [SXa, reduceCtorEq, Nat.reduceEqDiff, Nat.reduceAdd, Nat.reduceSub, Nat.reduceMul, Nat.reduceBEq, Int.reduceLT, Int.reduceLE, Int.reduceToNat, Int.reduceBEq, Int.reduceBNe, reduceIte, r74_0, r74_1, r74_2, r74_3, p74]
  cases b
  · simp only [SXa, reduceCtorEq, Nat.reduceEqDiff, Nat.reduceAdd, Nat.reduceSub, Nat.reduceMul, Nat.reduceBEq, Int.reduceLT, Int.reduceLE, Int.reduceToNat, Int.reduceBEq, Int.reduceBNe, reduceIte, r74_0, r74_1, r74_2, r74_3, p74]
    exact Grow.refl hS _
  · simp only [SXa, reduceCtorEq, Nat.reduceEqDiff, Nat.reduceAdd, Nat.reduceSub, Nat.reduceMul, Nat.reduceBEq, Int.reduceLT, Int.reduceLE, Int.reduceToNat, Int.reduceBEq, Int.reduceBNe, reduceIte, r74_0, r74_1, r74_2, r74_3, p74]
    exact Grow.refl hS _
theorem bool_ans (b : Bool) : Ans E 36 [.sc (.bool b)] (.sc (.string (bif b then (⟨#[116, 114, 117, 101]⟩ : ByteArray) else (⟨#[102, 97, 108, 115, 101]⟩ : ByteArray)))) := ans_of fun S hS => by
  refine ev36 rfl ?_
  simp only [SXa, reduceCtorEq, Nat.reduceEqDiff, Nat.reduceAdd, Nat.reduceSub, Nat.reduceMul, Nat.reduceBEq, Int.reduceLT, Int.reduceLE, Int.reduceToNat, Int.reduceBEq, Int.reduceBNe, reduceIte, call74, r36_0, r36_1, p36]
  refine callK_ans (fbool_ans b) (Grow.refl hS _) (fun S2 g2 hG2 => ?_)
  simp only [SXa, reduceCtorEq, Nat.reduceEqDiff, Nat.reduceAdd, Nat.reduceSub, Nat.reduceMul, Nat.reduceBEq, Int.reduceLT, Int.reduceLE, Int.reduceToNat, Int.reduceBEq, Int.reduceBNe, reduceIte, call74, r36_0, r36_1, p36]
  exact hG2
theorem b_eqnw {S : St} (x y : Operand) : binGen E .eql 102 x y nilV nilV S = some (.sc (.bool true), S) := by kernel_rfl
theorem b_eqnb {S : St} (x y : Operand) : binGen E .eql 103 x y nilV nilV S = some (.sc (.bool true), S) := by kernel_rfl
theorem clonew_ans : Ans E 71 [nilV] nilV := ans_of fun S hS => by
  refine ev71 rfl ?_
  simp only [SXa, reduceCtorEq, Nat.reduceEqDiff, Nat.reduceAdd, Nat.reduceSub, Nat.reduceMul, Nat.reduceBEq, Int.reduceLT, Int.reduceLE, Int.reduceToNat, Int.reduceBEq, Int.reduceBNe, reduceIte, bs102, app102, r71_0, r71_1, r71_2, r71_3, p71, b_eqnw]
  exact Grow.refl hS _
theorem cloneb_ans : Ans E 72 [nilV] nilV := ans_of fun S hS => by
  refine ev72 rfl ?_
  simp only [SXa, reduceCtorEq, Nat.reduceEqDiff, Nat.reduceAdd, Nat.reduceSub, Nat.reduceMul, Nat.reduceBEq, Int.reduceLT, Int.reduceLE, Int.reduceToNat, Int.reduceBEq, Int.reduceBNe, reduceIte, bs103, app103, r72_0, r72_1, r72_2, r72_3, p72, b_eqnb]
  exact Grow.refl hS _
/-- An empty heap's cells. -/
def hC : List AV := [.sc (.int .i64 100), .sc (.int .i64 0), .sc (.slice none 0 0), .sc (.slice none 0 0)]
theorem fldH0 {tm : PM AV} {S : St} {d : Option Tmp} (x : Operand) : opV E tm d (.fieldAddr 105 x 0) S = fldV 0 (E.ev tm x) S := field_chk 105 0 0 (by kernel_rfl) x
theorem fldH1 {tm : PM AV} {S : St} {d : Option Tmp} (x : Operand) : opV E tm d (.fieldAddr 105 x 1) S = fldV 1 (E.ev tm x) S := field_chk 105 1 1 (by kernel_rfl) x
theorem fldH2 {tm : PM AV} {S : St} {d : Option Tmp} (x : Operand) : opV E tm d (.fieldAddr 105 x 2) S = fldV 2 (E.ev tm x) S := field_chk 105 2 2 (by kernel_rfl) x
theorem fldH3 {tm : PM AV} {S : St} {d : Option Tmp} (x : Operand) : opV E tm d (.fieldAddr 105 x 3) S = fldV 3 (E.ev tm x) S := field_chk 105 3 3 (by kernel_rfl) x
theorem fldM {tm : PM AV} {S : St} {d : Option Tmp} (x : Operand) : opV E tm d (.fieldAddr 80 x 13) S = fldV 28 (E.ev tm x) S := field_chk 80 13 28 (by kernel_rfl) x
theorem fldI1 {tm : PM AV} {S : St} {d : Option Tmp} (x : Operand) : opV E tm d (.fieldAddr 43 x 1) S = fldV 1 (E.ev tm x) S := field_chk 43 1 1 (by kernel_rfl) x
theorem fldTy0 {tm : PM AV} {S : St} {d : Option Tmp} (x : Operand) : opV E tm d (.fieldAddr 29 x 0) S = fldV 0 (E.ev tm x) S := field_chk 29 0 0 (by kernel_rfl) x
theorem fldTl0 {tm : PM AV} {S : St} {d : Option Tmp} (x : Operand) : opV E tm d (.fieldAddr 85 x 0) S = fldV 0 (E.ev tm x) S := field_chk 85 0 0 (by kernel_rfl) x
theorem bldH (S : St) : buildA E 105 [(0, .sc (.int .i64 100)), (1, .sc (.int .i64 0)), (2, .sc (.slice none 0 0)), (3, .sc (.slice none 0 0))] S = some (.agg hC, S) := by kernel_rfl
theorem mkBox {tm : PM AV} {d : Option Tmp} {e : TypeId} {x : Operand} {cs : List AV} (h : cellsOf (E.ev tm x) = some cs) : mkOp E tm (opOf d (.box e x)) = some ⟨.cells cs, some (e, cs.length), fun n => .ptr n 0⟩ := by
  show (match cellsOf (E.ev tm x) with | some cs => some (⟨.cells cs, some (e, cs.length), fun n => .ptr n 0⟩ : Mk) | none => none) = _
  rw [h]
set_option maxHeartbeats 8000000 in
theorem copy_ok (h : Nat) (S : St) (hS : S.Fresh) (ho : S.obj h = some hC) (hh : h < S.no) : ∃ r S', EvA E 33 [.ptr h 0] S r S' ∧ (∃ q, r = .ptr q 0 ∧ q < S'.no ∧ S'.obj q = some hC) ∧ Grow S S' nilV := by
  refine ev33 rfl ?_
  simp only [hC] at ho
  simp only [SXa, reduceCtorEq, Nat.reduceEqDiff, Nat.reduceAdd, Nat.reduceSub, Nat.reduceMul, Nat.reduceBEq, Int.reduceLT, Int.reduceLE, Int.reduceToNat, Int.reduceBEq, Int.reduceBNe, reduceIte, load3, load102, load103, call71, call72, r33_0, r33_1, r33_2, p33]
  refine e_drawMk noX draw33_0 ?_
  have hr : ∀ n, (S.raise n).obj h = _ := fun n => ho
  have gr := Grow.raise hS 21 nilV
  have hhr : h < (S.raise 21).no := Nat.lt_of_lt_of_le hh gr.no
  simp only [SXa, reduceCtorEq, Nat.reduceEqDiff, Nat.reduceAdd, Nat.reduceSub, Nat.reduceMul, Nat.reduceBEq, Int.reduceLT, Int.reduceLE, Int.reduceToNat, Int.reduceBEq, Int.reduceBNe, reduceIte, load3, load102, load103, call71, call72, r33_0, r33_1, r33_2, p33, op_nilCheck, chk_p, fldH0, fldH1, fldH2, fldH3, fld_p, load_pb, hr, ho, Option.bind_some, Nat.zero_add, Nat.add_zero]
  obtain ⟨S1, e1, g1⟩ := clonew_ans (S.raise 21) gr.fresh
  have h1 := g1.objs (hr 21) hhr
  refine callK_of e1 ?_
  simp only [SXa, reduceCtorEq, Nat.reduceEqDiff, Nat.reduceAdd, Nat.reduceSub, Nat.reduceMul, Nat.reduceBEq, Int.reduceLT, Int.reduceLE, Int.reduceToNat, Int.reduceBEq, Int.reduceBNe, reduceIte, load3, load102, load103, call71, call72, r33_0, r33_1, r33_2, p33, op_nilCheck, chk_p, fldH0, fldH1, fldH2, fldH3, fld_p, load_pb, h1, Option.bind_some, Nat.zero_add, Nat.add_zero]
  obtain ⟨S2, e2, g2⟩ := cloneb_ans S1 g1.fresh
  refine callK_of e2 ?_
  have g12 := g1.two g2
  have hG2 := gr.two g12
  have hno : S.no + 21 ≤ S2.no := g12.no
  simp only [SXa, reduceCtorEq, Nat.reduceEqDiff, Nat.reduceAdd, Nat.reduceSub, Nat.reduceMul, Nat.reduceBEq, Int.reduceLT, Int.reduceLE, Int.reduceToNat, Int.reduceBEq, Int.reduceBNe, reduceIte, load3, load102, load103, call71, call72, r33_0, r33_1, r33_2, p33, op_build, bldH]
  refine ⟨_, mkBox (cs := hC) (by simp [ev_tmp, getT_setD, cellsOf]), ?_⟩
  have gb : Grow S (S2.bear (S.no + 19) ⟨.cells hC, some (105, hC.length), fun n => .ptr n 0⟩) nilV := hG2.bear _ _ (by omega)
  simp only [SXa, reduceCtorEq, Nat.reduceEqDiff, Nat.reduceAdd, Nat.reduceSub, Nat.reduceMul, Nat.reduceBEq, Int.reduceLT, Int.reduceLE, Int.reduceToNat, Int.reduceBEq, Int.reduceBNe, reduceIte, load3, load102, load103, call71, call72, r33_0, r33_1, r33_2, p33, safe_cons, safe_nil, safe_grow hh gb, safe_sc, Bool.and_self]
  exact ⟨⟨_, rfl, by rw [bear_no]; omega, by rw [bear_obj, if_pos rfl]⟩, gb⟩
set_option maxHeartbeats 8000000 in
theorem heap_ok (l h : Nat) (mc : List AV) (S : St) (hS : S.Fresh) (hm : S.obj l = some mc) (hq : mc[28]? = some (.ptr h 0)) (ho : S.obj h = some hC) (hh : h < S.no) : ∃ r S', EvA E 21 [.ptr l 0] S r S' ∧ (∃ q, r = .ptr q 0 ∧ q < S'.no ∧ S'.obj q = some hC) ∧ Grow S S' nilV := by
  refine ev21 rfl ?_
  obtain ⟨r, S1, e1, h1, g1⟩ := copy_ok h S hS ho hh
  simp only [SXa, reduceCtorEq, Nat.reduceEqDiff, Nat.reduceAdd, Nat.reduceSub, Nat.reduceMul, Nat.reduceBEq, Int.reduceLT, Int.reduceLE, Int.reduceToNat, Int.reduceBEq, Int.reduceBNe, reduceIte, load64, call33, r21_0, r21_1, p21, op_nilCheck, chk_p, fldM, fld_p, load_pb, hm, Option.bind_some, Nat.zero_add, Nat.add_zero, hq]
  refine callK_of e1 ?_
  simp only [SXa, reduceCtorEq, Nat.reduceEqDiff, Nat.reduceAdd, Nat.reduceSub, Nat.reduceMul, Nat.reduceBEq, Int.reduceLT, Int.reduceLE, Int.reduceToNat, Int.reduceBEq, Int.reduceBNe, reduceIte, load64, call33, r21_0, r21_1, p21]
  exact ⟨h1, g1⟩
theorem place_ans (n : Int) (q : Nat) : Ans E 80 [.ptr q 0, .sc (.int .u64 ((wordN n : Nat) : Int))] (.tup [.sc (.int .i64 0), .sc (.bool false)]) := ans_of fun S hS => by
  refine ev80 rfl ?_
  simp only [SXa, reduceCtorEq, Nat.reduceEqDiff, Nat.reduceAdd, Nat.reduceSub, Nat.reduceMul, Nat.reduceBEq, Int.reduceLT, Int.reduceLE, Int.reduceToNat, Int.reduceBEq, Int.reduceBNe, reduceIte, load4, load103, index103, len103, call151, r80_0, r80_1, r80_2, p80]
  refine callK_ans (at_ans n) (Grow.refl hS _) (fun S1 g1 hG1 => ?_)
  simp only [SXa, reduceCtorEq, Nat.reduceEqDiff, Nat.reduceAdd, Nat.reduceSub, Nat.reduceMul, Nat.reduceBEq, Int.reduceLT, Int.reduceLE, Int.reduceToNat, Int.reduceBEq, Int.reduceBNe, reduceIte, load4, load103, index103, len103, call151, r80_0, r80_1, r80_2, p80]
  first
    | exact hG1
    | exact hG1.two (Grow.raise hG1.fresh _ _)
theorem head_ans (n : Int) (q : Nat) : Ans E 38 [.ptr q 0, .sc (.int .u64 ((wordN n : Nat) : Int))] (.tup [.sc (.int .i64 0), .sc (.int .i64 0), .sc (.int .i64 0), .sc (.int .i64 4)]) := ans_of fun S hS => by
  refine ev38 rfl ?_
  simp only [SXa, reduceCtorEq, Nat.reduceEqDiff, Nat.reduceAdd, Nat.reduceSub, Nat.reduceMul, Nat.reduceBEq, Int.reduceLT, Int.reduceLE, Int.reduceToNat, Int.reduceBEq, Int.reduceBNe, reduceIte, load51, load102, index102, call80, call81, r38_0, r38_1, r38_2, r38_3, r38_4, r38_5, p38]
  refine callK_ans (place_ans n q) (Grow.refl hS _) (fun S1 g1 hG1 => ?_)
  simp only [SXa, reduceCtorEq, Nat.reduceEqDiff, Nat.reduceAdd, Nat.reduceSub, Nat.reduceMul, Nat.reduceBEq, Int.reduceLT, Int.reduceLE, Int.reduceToNat, Int.reduceBEq, Int.reduceBNe, reduceIte, load51, load102, index102, call80, call81, r38_0, r38_1, r38_2, r38_3, r38_4, r38_5, p38]
  exact hG1
/-- A type's cells. -/
def tyC (k : Int) (a : AV) : List AV := [.sc (.int .i64 k), .sc (.string ⟨#[]⟩), .sc (.int .i64 0), a]
theorem tyLen (k : Int) (a : AV) : (tyC k a).length = 4 := rfl
theorem tyTake (k : Int) (a : AV) : (tyC k a).take 4 = tyC k a := rfl
/-- What is told of a number's word. -/
def telF (k n : Int) : ByteArray :=
  bif k == 7 then (⟨#[60, 112, 111, 108, 121, 62]⟩ : ByteArray) else bif k == 1 then digF n else bif k == 2 then (bif n == 0 || n == 1 then (bif n == 1 then (⟨#[116, 114, 117, 101]⟩ : ByteArray) else (⟨#[102, 97, 108, 115, 101]⟩ : ByteArray)) else (⟨#[63]⟩ : ByteArray)) else bif k == 3 then (bif n == 0 then (⟨#[40, 41]⟩ : ByteArray) else (⟨#[63]⟩ : ByteArray)) else (⟨#[63]⟩ : ByteArray)
set_option maxHeartbeats 32000000 in
theorem tell_ans (n k : Int) (hk : k = 1 ∨ k = 2 ∨ k = 3 ∨ k = 5 ∨ k = 7) (q : Nat) (nv tv a : AV) : Ans E 22 [.agg [.ptr q 0, nv, tv], .sc (.int .u64 ((wordN n : Nat) : Int)), .agg (tyC k a), .sc (.int .i64 0)] (.sc (.string (telF k (numN n)))) := ans_of fun S hS => by
  refine ev22 rfl ?_
  have hr := numN_in n
  have hG := ((Grow.refl hS nilV).born 85 [.ptr q 0, nv, tv]).born 29 (tyC k a)
  have hT : ((S.born 85 [.ptr q 0, nv, tv]).born 29 (tyC k a)).obj (S.no + 1) = some (tyC k a) := by simp [born_obj, born_no]
  have hL : ((S.born 85 [.ptr q 0, nv, tv]).born 29 (tyC k a)).obj S.no = some [.ptr q 0, nv, tv] := by simp [born_obj, born_no]
  have hn : S.no + 1 < ((S.born 85 [.ptr q 0, nv, tv]).born 29 (tyC k a)).no := by simp only [born_no]; omega
  simp only [SXa, reduceCtorEq, Nat.reduceEqDiff, Nat.reduceAdd, Nat.reduceSub, Nat.reduceMul, Nat.reduceBEq, Int.reduceLT, Int.reduceLE, Int.reduceToNat, Int.reduceBEq, Int.reduceBNe, reduceIte, load3, load29, load64, load85, call34, call35, call36, call37, call38, call39, r22_0, r22_1, r22_2, r22_3, r22_4, r22_5, r22_6, r22_7, r22_8, r22_9, r22_10, r22_11, r22_12, r22_13, r22_14, r22_15, r22_16, r22_17, r22_18, r22_19, r22_20, r22_21, r22_22, r22_23, r22_24, p22, op_box, cells_agg, born_no]
  generalize (S.born 85 [.ptr q 0, nv, tv]).born 29 (tyC k a) = S1 at hG hT hL hn
  simp only [tyC] at hT
  refine callK_ans (int_ans n) hG (fun S2 g2 hG2 => ?_)
  have hT2 := g2.objs hT hn
  have hL2 := g2.objs hL (by omega)
  rcases hk with rfl | rfl | rfl | rfl | rfl
  · simp only [SXa, reduceCtorEq, Nat.reduceEqDiff, Nat.reduceAdd, Nat.reduceSub, Nat.reduceMul, Nat.reduceBEq, Int.reduceLT, Int.reduceLE, Int.reduceToNat, Int.reduceBEq, Int.reduceBNe, reduceIte, load3, load29, load64, load85, call34, call35, call36, call37, call38, call39, r22_0, r22_1, r22_2, r22_3, r22_4, r22_5, r22_6, r22_7, r22_8, r22_9, r22_10, r22_11, r22_12, r22_13, r22_14, r22_15, r22_16, r22_17, r22_18, r22_19, r22_20, r22_21, r22_22, r22_23, r22_24, p22, load_pb, hT2, fldTy0, fld_p, Option.bind_some, Nat.zero_add, Nat.add_zero]
    refine callK_ans (fmt_ans (numN n) (by omega) (by omega)) hG2 (fun S3 g3 hG3 => ?_)
    simp only [SXa, reduceCtorEq, Nat.reduceEqDiff, Nat.reduceAdd, Nat.reduceSub, Nat.reduceMul, Nat.reduceBEq, Int.reduceLT, Int.reduceLE, Int.reduceToNat, Int.reduceBEq, Int.reduceBNe, reduceIte, load3, load29, load64, load85, call34, call35, call36, call37, call38, call39, r22_0, r22_1, r22_2, r22_3, r22_4, r22_5, r22_6, r22_7, r22_8, r22_9, r22_10, r22_11, r22_12, r22_13, r22_14, r22_15, r22_16, r22_17, r22_18, r22_19, r22_20, r22_21, r22_22, r22_23, r22_24, p22]
    exact ⟨by simp [telF], hG3⟩
  · cases c0 : (numN n == 0) <;> cases c1 : (numN n == 1)
    all_goals simp only [SXa, reduceCtorEq, Nat.reduceEqDiff, Nat.reduceAdd, Nat.reduceSub, Nat.reduceMul, Nat.reduceBEq, Int.reduceLT, Int.reduceLE, Int.reduceToNat, Int.reduceBEq, Int.reduceBNe, reduceIte, load3, load29, load64, load85, call34, call35, call36, call37, call38, call39, r22_0, r22_1, r22_2, r22_3, r22_4, r22_5, r22_6, r22_7, r22_8, r22_9, r22_10, r22_11, r22_12, r22_13, r22_14, r22_15, r22_16, r22_17, r22_18, r22_19, r22_20, r22_21, r22_22, r22_23, r22_24, p22, load_pb, hT2, fldTy0, fld_p, Option.bind_some, Nat.zero_add, Nat.add_zero, c0, c1]
    all_goals first
      | (refine callK_ans (bool_ans _) hG2 (fun S3 g3 hG3 => ?_)
         simp only [SXa, reduceCtorEq, Nat.reduceEqDiff, Nat.reduceAdd, Nat.reduceSub, Nat.reduceMul, Nat.reduceBEq, Int.reduceLT, Int.reduceLE, Int.reduceToNat, Int.reduceBEq, Int.reduceBNe, reduceIte, load3, load29, load64, load85, call34, call35, call36, call37, call38, call39, r22_0, r22_1, r22_2, r22_3, r22_4, r22_5, r22_6, r22_7, r22_8, r22_9, r22_10, r22_11, r22_12, r22_13, r22_14, r22_15, r22_16, r22_17, r22_18, r22_19, r22_20, r22_21, r22_22, r22_23, r22_24, p22]
         exact ⟨by simp only [telF, c0, c1, Int.reduceBEq, Bool.or_true, Bool.true_or, Bool.or_self, cond_true, cond_false], hG3⟩)
      | exact ⟨by simp only [telF, c0, c1, Int.reduceBEq, Bool.or_true, Bool.true_or, Bool.or_self, cond_true, cond_false], hG2⟩
  · cases c0 : (numN n == 0)
    all_goals simp only [SXa, reduceCtorEq, Nat.reduceEqDiff, Nat.reduceAdd, Nat.reduceSub, Nat.reduceMul, Nat.reduceBEq, Int.reduceLT, Int.reduceLE, Int.reduceToNat, Int.reduceBEq, Int.reduceBNe, reduceIte, load3, load29, load64, load85, call34, call35, call36, call37, call38, call39, r22_0, r22_1, r22_2, r22_3, r22_4, r22_5, r22_6, r22_7, r22_8, r22_9, r22_10, r22_11, r22_12, r22_13, r22_14, r22_15, r22_16, r22_17, r22_18, r22_19, r22_20, r22_21, r22_22, r22_23, r22_24, p22, load_pb, hT2, fldTy0, fld_p, Option.bind_some, Nat.zero_add, Nat.add_zero, c0]
    all_goals exact ⟨by simp only [telF, c0, Int.reduceBEq, cond_true, cond_false], hG2⟩
  · simp only [SXa, reduceCtorEq, Nat.reduceEqDiff, Nat.reduceAdd, Nat.reduceSub, Nat.reduceMul, Nat.reduceBEq, Int.reduceLT, Int.reduceLE, Int.reduceToNat, Int.reduceBEq, Int.reduceBNe, reduceIte, load3, load29, load64, load85, call34, call35, call36, call37, call38, call39, r22_0, r22_1, r22_2, r22_3, r22_4, r22_5, r22_6, r22_7, r22_8, r22_9, r22_10, r22_11, r22_12, r22_13, r22_14, r22_15, r22_16, r22_17, r22_18, r22_19, r22_20, r22_21, r22_22, r22_23, r22_24, p22, load_pb, hT2, hL2, fldTy0, fldTl0, fld_p, Option.bind_some, Nat.zero_add, Nat.add_zero]
    refine callK_ans (head_ans n q) hG2 (fun S3 g3 hG3 => ?_)
    simp only [SXa, reduceCtorEq, Nat.reduceEqDiff, Nat.reduceAdd, Nat.reduceSub, Nat.reduceMul, Nat.reduceBEq, Int.reduceLT, Int.reduceLE, Int.reduceToNat, Int.reduceBEq, Int.reduceBNe, reduceIte, load3, load29, load64, load85, call34, call35, call36, call37, call38, call39, r22_0, r22_1, r22_2, r22_3, r22_4, r22_5, r22_6, r22_7, r22_8, r22_9, r22_10, r22_11, r22_12, r22_13, r22_14, r22_15, r22_16, r22_17, r22_18, r22_19, r22_20, r22_21, r22_22, r22_23, r22_24, p22]
    exact ⟨by simp [telF], hG3⟩
  · simp only [SXa, reduceCtorEq, Nat.reduceEqDiff, Nat.reduceAdd, Nat.reduceSub, Nat.reduceMul, Nat.reduceBEq, Int.reduceLT, Int.reduceLE, Int.reduceToNat, Int.reduceBEq, Int.reduceBNe, reduceIte, load3, load29, load64, load85, call34, call35, call36, call37, call38, call39, r22_0, r22_1, r22_2, r22_3, r22_4, r22_5, r22_6, r22_7, r22_8, r22_9, r22_10, r22_11, r22_12, r22_13, r22_14, r22_15, r22_16, r22_17, r22_18, r22_19, r22_20, r22_21, r22_22, r22_23, r22_24, p22, load_pb, hT2, fldTy0, fld_p, Option.bind_some, Nat.zero_add, Nat.add_zero]
    exact ⟨by simp [telF], hG2⟩
/-- What stands when a machine has been made. -/
structure Made (l : Nat) (S : St) : Prop where
  lt : l < S.no
  at_ : ∃ mc h, S.obj l = some mc ∧ mc[28]? = some (.ptr h 0) ∧ S.obj h = some hC ∧ h < S.no
theorem Made.grow {l : Nat} {S S' : St} (h : Made l S) (g : Grow S S' nilV) : Made l S' := by
  obtain ⟨h1, mc, q, h2, h3, h4, h5⟩ := h
  exact ⟨Nat.lt_of_lt_of_le h1 g.no, mc, q, g.objs h2 h1, h3, g.objs h4 h5, Nat.lt_of_lt_of_le h5 g.no⟩
set_option maxHeartbeats 16000000 in
theorem word_ok (n k : Int) (hk : k = 1 ∨ k = 2 ∨ k = 3 ∨ k = 5 ∨ k = 7) (l : Nat) (a sv nv tv : AV) (ic : List AV) (hb : ∀ (q : Nat) (S : St), buildA E 85 [(0, .ptr q 0), (1, .agg [nv, tv])] S = some (.agg [.ptr q 0, nv, tv], S)) (S : St) (hS : S.Fresh) (hM : Made l S) :
    ∃ r S', EvA E 8 [.ptr l 0, .agg (sv :: nv :: tv :: ic), .sc (.int .u64 ((wordN n : Nat) : Int)), .agg (tyC k a)] S r S' ∧ r = .sc (.string (telF k (numN n))) ∧ Grow S S' nilV := by
  refine ev8 rfl ?_
  have hG := ((Grow.refl hS nilV).born 43 (sv :: nv :: tv :: ic)).born 29 (tyC k a)
  have hI : ((S.born 43 (sv :: nv :: tv :: ic)).born 29 (tyC k a)).obj S.no = some (sv :: nv :: tv :: ic) := by simp [born_obj, born_no]
  have hT : ((S.born 43 (sv :: nv :: tv :: ic)).born 29 (tyC k a)).obj (S.no + 1) = some (tyC k a) := by simp [born_obj, born_no]
  have hn : S.no + 1 < ((S.born 43 (sv :: nv :: tv :: ic)).born 29 (tyC k a)).no := by simp only [born_no]; omega
  simp only [SXa, reduceCtorEq, Nat.reduceEqDiff, Nat.reduceAdd, Nat.reduceSub, Nat.reduceMul, Nat.reduceBEq, Int.reduceLT, Int.reduceLE, Int.reduceToNat, Int.reduceBEq, Int.reduceBNe, reduceIte, load26, load29, call21, call22, r8_0, r8_1, r8_2, p8, op_box, cells_agg, born_no]
  generalize (S.born 43 (sv :: nv :: tv :: ic)).born 29 (tyC k a) = S1 at hG hI hT hn
  refine e_drawC noX draw8_0 ?_
  have gr := Grow.raise hG.fresh 9 nilV
  have hM1 := hM.grow (hG.two gr)
  obtain ⟨_, mc, h, m1, m2, m3, m4⟩ := hM1
  obtain ⟨r2, S2, e2, ⟨q, rfl, hq1, hq2⟩, g2⟩ := heap_ok l h mc (S1.raise 9) (hG.two gr).fresh m1 m2 m3 m4
  have g12 := gr.two g2
  have hI2 := g12.objs hI (by omega)
  have hT2 := g12.objs hT hn
  have l3 : 1 + 2 ≤ (sv :: nv :: tv :: ic).length := by simp only [List.length_cons]; omega
  have l3' : 1 + 2 ≤ ic.length + 1 + 1 + 1 := by omega
  have l3'' : 3 ≤ ic.length + 1 + 1 + 1 := by omega
  have sf0 := fun off => safe_grow (show S.no < S1.no by omega) g12 off
  have sf1 := fun off => safe_grow hn g12 off
  simp only [SXa, reduceCtorEq, Nat.reduceEqDiff, Nat.reduceAdd, Nat.reduceSub, Nat.reduceMul, Nat.reduceBEq, Int.reduceLT, Int.reduceLE, Int.reduceToNat, Int.reduceBEq, Int.reduceBNe, reduceIte, load26, load29, call21, call22, r8_0, r8_1, r8_2, p8]
  refine callK_of e2 ?_
  simp only [SXa, reduceCtorEq, Nat.reduceEqDiff, Nat.reduceAdd, Nat.reduceSub, Nat.reduceMul, Nat.reduceBEq, Int.reduceLT, Int.reduceLE, Int.reduceToNat, Int.reduceBEq, Int.reduceBNe, reduceIte, load26, load29, call21, call22, r8_0, r8_1, r8_2, p8, load_pb, hI2, hT2, fldI1, fld_p, Option.bind_some, Nat.zero_add, Nat.add_zero, op_build, hb, Nat.le_refl, l3, l3', l3'', tyLen, tyTake, safe_cons, safe_nil, sf0, sf1, Bool.and_self]
  refine callK_ans (tell_ans n k hk q nv tv a) ((hG.two g12)) (fun S3 g3 hG3 => ?_)
  simp only [SXa, reduceCtorEq, Nat.reduceEqDiff, Nat.reduceAdd, Nat.reduceSub, Nat.reduceMul, Nat.reduceBEq, Int.reduceLT, Int.reduceLE, Int.reduceToNat, Int.reduceBEq, Int.reduceBNe, reduceIte, load26, load29, call21, call22, r8_0, r8_1, r8_2, p8, safe_cons, safe_nil, sf0, sf1, Bool.and_self]
  exact hG3
end Go.Proofs.YtpcgbkjdobjdaaaGreatDoor
