/-
  The document's own table: which may be: the walk.
-/
import Derived.Test.YtmmpcomfhcpicaaRef1
set_option linter.unusedSimpArgs false
set_option linter.unusedVariables false
set_option maxRecDepth 100000
namespace Go.Proofs.Ytmmpcomfhcpicaa
open Go.Abs
theorem fld51_0 {tm : PM AV} {S : St} {d : Option Tmp} (x : Operand) : opV E tm d (.fieldAddr 51 x 0) S = fldV 0 (E.ev tm x) S := field_chk 51 0 0 (by kernel_rfl) x
theorem fld51_1 {tm : PM AV} {S : St} {d : Option Tmp} (x : Operand) : opV E tm d (.fieldAddr 51 x 1) S = fldV 1 (E.ev tm x) S := field_chk 51 1 1 (by kernel_rfl) x
theorem fld51_2 {tm : PM AV} {S : St} {d : Option Tmp} (x : Operand) : opV E tm d (.fieldAddr 51 x 2) S = fldV 2 (E.ev tm x) S := field_chk 51 2 2 (by kernel_rfl) x
theorem fld51_3 {tm : PM AV} {S : St} {d : Option Tmp} (x : Operand) : opV E tm d (.fieldAddr 51 x 3) S = fldV 3 (E.ev tm x) S := field_chk 51 3 3 (by kernel_rfl) x
theorem fld56_0 {tm : PM AV} {S : St} {d : Option Tmp} (x : Operand) : opV E tm d (.fieldAddr 56 x 0) S = fldV 0 (E.ev tm x) S := field_chk 56 0 0 (by kernel_rfl) x
theorem fld56_1 {tm : PM AV} {S : St} {d : Option Tmp} (x : Operand) : opV E tm d (.fieldAddr 56 x 1) S = fldV 1 (E.ev tm x) S := field_chk 56 1 1 (by kernel_rfl) x
theorem fld56_2 {tm : PM AV} {S : St} {d : Option Tmp} (x : Operand) : opV E tm d (.fieldAddr 56 x 2) S = fldV 2 (E.ev tm x) S := field_chk 56 2 2 (by kernel_rfl) x
theorem fld56_3 {tm : PM AV} {S : St} {d : Option Tmp} (x : Operand) : opV E tm d (.fieldAddr 56 x 3) S = fldV 3 (E.ev tm x) S := field_chk 56 3 3 (by kernel_rfl) x
theorem fld56_4 {tm : PM AV} {S : St} {d : Option Tmp} (x : Operand) : opV E tm d (.fieldAddr 56 x 4) S = fldV 4 (E.ev tm x) S := field_chk 56 4 4 (by kernel_rfl) x
theorem fld56_5 {tm : PM AV} {S : St} {d : Option Tmp} (x : Operand) : opV E tm d (.fieldAddr 56 x 5) S = fldV 5 (E.ev tm x) S := field_chk 56 5 5 (by kernel_rfl) x
theorem fld37_0 {tm : PM AV} {S : St} {d : Option Tmp} (x : Operand) : opV E tm d (.fieldAddr 37 x 0) S = fldV 0 (E.ev tm x) S := field_chk 37 0 0 (by kernel_rfl) x
theorem fld37_1 {tm : PM AV} {S : St} {d : Option Tmp} (x : Operand) : opV E tm d (.fieldAddr 37 x 1) S = fldV 1 (E.ev tm x) S := field_chk 37 1 1 (by kernel_rfl) x
theorem alloc51 {tm : PM AV} {S : St} {d : Option Tmp} : opV E tm d (.alloc 51) S = some (.ptr S.no 0, S.born 51 z41) := alloc_of (by kernel_rfl)
theorem alloc56 {tm : PM AV} {S : St} {d : Option Tmp} : opV E tm d (.alloc 56) S = some (.ptr S.no 0, S.born 56 z43) := alloc_of (by kernel_rfl)
theorem alloc37 {tm : PM AV} {S : St} {d : Option Tmp} : opV E tm d (.alloc 37) S = some (.ptr S.no 0, S.born 37 [nilV, nilV]) := alloc_of (by kernel_rfl)
/-- Two variables that may not be beside each other. -/
def clash (o v : VarV) : Prop := o.name.toList = v.name.toList ∧ o.frm < v.to ∧ v.frm < o.to
/-- Which tables the document lets be. -/
structure GoodQ (ss : List StopV) (vs : List VarV) : Prop where
  ls : ss.length ≤ 10000
  lv : vs.length ≤ 10000
  st : ∀ k (h : k < ss.length), stopB ss[k] = true ∧ (0 < k → ss[k - 1].pc < ss[k].pc)
  va : ∀ k (h : k < vs.length), varB vs[k] = true ∧ ∀ j (hj : j < k), ¬ clash vs[j] vs[k]
set_option maxHeartbeats 64000000 in
theorem goodq15_ok (ss : List StopV) (vs : List VarV) (x y : AV) (hx : IsV 4 x (stopsA ss)) (hy : IsV 6 y (varsA vs)) (hs : ss.length ≤ 2 ^ 62) (hv : vs.length ≤ 2 ^ 62) (S : St) (hS : S.Fresh) : ∃ r S', EvA E 15 [.agg [x, y]] S r S' ∧ (∃ b, r = .sc (.bool b) ∧ (b = true ↔ GoodQ ss vs)) ∧ Grow S S' nilV := by
  refine ev15 rfl ?_
  have g0 := (Grow.refl hS nilV).born 37 [x, y]
  have h0 : (S.born 37 [x, y]).obj S.no = some [x, y] := by simp [born_obj]
  have n0 : S.no < (S.born 37 [x, y]).no := Nat.lt_succ_self _
  simp only [SXa, Nat.reduceAdd, r15_0, r15_1, r15_2, r15_3, r15_10, r15_24, p15, op_box, cells_agg]
  generalize S.born 37 [x, y] = S0 at g0 h0 n0
  by_cases h1 : 10000 < ss.length
  · have c1 : decide ((10000 : Int) < ((ss.length : Nat) : Int)) = true := by simp only [decide_eq_true_eq]; omega
    simp only [SXa, reduceCtorEq, Nat.reduceEqDiff, load34, len34, load_pb, h0, fld37_0, fld_p, Option.bind_some, Nat.add_zero, lenS_ hx, c1]
    exact ⟨⟨false, rfl, by simp only [Bool.false_eq_true, false_iff]; exact fun h => by have := h.ls; omega⟩, g0⟩
  have c1 : decide ((10000 : Int) < ((ss.length : Nat) : Int)) = false := by simp only [decide_eq_false_iff_not]; omega
  by_cases h2 : 10000 < vs.length
  · have c2 : decide ((10000 : Int) < ((vs.length : Nat) : Int)) = true := by simp only [decide_eq_true_eq]; omega
    simp only [SXa, reduceCtorEq, Nat.reduceEqDiff, load34, len34, load35, len35, load_pb, h0, fld37_0, fld37_1, fld_p, Option.bind_some, Nat.add_zero, Nat.zero_add, lenS_ hx, lenV_ hy, c1, c2]
    exact ⟨⟨false, rfl, by simp only [Bool.false_eq_true, false_iff]; exact fun h => by have := h.lv; omega⟩, g0⟩
  have c2 : decide ((10000 : Int) < ((vs.length : Nat) : Int)) = false := by simp only [decide_eq_false_iff_not]; omega
  simp only [SXa, reduceCtorEq, Nat.reduceEqDiff, load34, len34, load35, len35, load_pb, h0, fld37_0, fld37_1, fld_p, Option.bind_some, Nat.add_zero, Nat.zero_add, lenS_ hx, lenV_ hy, c1, c2]
  refine e_loop (fun tm S' N => ∃ k : Nat, k ≤ ss.length ∧ N = ss.length - k ∧ (∀ j (h : j < ss.length), j < k → stopB ss[j] = true ∧ (0 < j → ss[j - 1].pc < ss[j].pc)) ∧ Grow S S' nilV ∧ S'.obj S.no = some [x, y] ∧ S.no < S'.no ∧ getT tm 1 = .ptr S.no 0 ∧ getT tm 3 = .sc (.int .i64 (k : Int))) ss.length
    ⟨0, by omega, by omega, fun j _ h => by omega, g0, h0, n0, by simp [getT_setD]⟩ ?_
  rintro tm S' N ⟨k, hk, rfl, hP, hG, o0, hn0, t1, t3⟩
  by_cases hlt : k < ss.length
  case pos =>
    have wk := wrapK hlt (by omega)
    have gb := (hG.born 51 z41).put S'.no (.cells (stopA ss[k])) hG.no
    have gq := ((Grow.refl hG.fresh nilV).born 51 z41).put S'.no (.cells (stopA ss[k])) (Nat.le_refl _)
    have hsv : ((S'.born 51 z41).put S'.no (.cells (stopA ss[k]))).obj S'.no = some (stopA ss[k]) := by simp [put_obj]
    have hn : S'.no < ((S'.born 51 z41).put S'.no (.cells (stopA ss[k]))).no := Nat.lt_succ_self _
    have gr := Grow.raise gb.fresh 38 nilV
    have ho := gr.objs hsv hn
    have g2 := gb.two gr
    have oo := (gq.two gr).objs o0 hn0
    have hn2 := Nat.lt_of_lt_of_le hn0 (gq.two gr).no
    have hbad : ∀ b, stopB ss[k] = b → b = false → ¬ GoodQ ss vs := fun b h1 h2 hg => by
      have := (hg.st k hlt).1
      rw [h1, h2] at this; cases this
    simp only [z41, stopA] at gb gq gr ho g2 oo hn2
    simp only [SXa, Nat.reduceEqDiff, Nat.reduceAdd, load34, index34, len34, load51, store51, b15_9, r15_4, r15_5, r15_6, r15_7, r15_8, t1, t3, load_pb, o0, fld37_0, fld_p, Option.bind_some, Nat.add_zero, lenS_ hx, dec_lt hlt, idxS_ hx hlt, alloc51, z41, stopA, st41, born_obj, Nat.le_refl, List.drop_nil, Nat.zero_add]
    generalize ((S'.born 51 [.sc (.int .i64 0), .sc (.int .i64 0), .sc (.int .i64 0), .sc (.int .i64 0)]).put S'.no (.cells [.sc (.int .i64 ss[k].pc), .sc (.int .i64 ss[k].at_), .sc (.int .i64 ss[k].line), .sc (.int .i64 ss[k].col)])).raise 38 = S1 at gr ho g2 oo hn2
    simp only [SXa, Nat.reduceEqDiff, load3, call38, load_pb, ho, fld51_0, fld_p, Option.bind_some, Nat.add_zero]
    refine callK_of (pcE _ _) ?_
    cases h1 : inB ss[k].pc 0 2147483647 with
    | false =>
      simp only [SXa, Nat.reduceEqDiff]
      exact ⟨⟨false, rfl, by simp only [Bool.false_eq_true, false_iff]; exact hbad _ rfl (by simp [stopB, h1])⟩, g2⟩
    | true =>
    simp only [SXa, Nat.reduceEqDiff, load3, call38, load_pb, ho, fld51_1, fld_p, Option.bind_some, Nat.zero_add]
    refine callK_of (pcE _ _) ?_
    cases h2 : inB ss[k].at_ 0 2147483647 with
    | false =>
      simp only [SXa, Nat.reduceEqDiff]
      exact ⟨⟨false, rfl, by simp only [Bool.false_eq_true, false_iff]; exact hbad _ rfl (by simp [stopB, h1, h2])⟩, g2⟩
    | true =>
    simp only [SXa, Nat.reduceEqDiff, load3, call39, load_pb, ho, fld51_2, fld_p, Option.bind_some, Nat.zero_add]
    refine callK_of (lineE _ _) ?_
    cases h3 : inB ss[k].line 1 2147483647 with
    | false =>
      simp only [SXa, Nat.reduceEqDiff]
      exact ⟨⟨false, rfl, by simp only [Bool.false_eq_true, false_iff]; exact hbad _ rfl (by simp [stopB, h1, h2, h3])⟩, g2⟩
    | true =>
    simp only [SXa, Nat.reduceEqDiff, load3, call39, load_pb, ho, fld51_3, fld_p, Option.bind_some, Nat.zero_add]
    refine callK_of (lineE _ _) ?_
    cases h4 : inB ss[k].col 1 2147483647 with
    | false =>
      simp only [SXa, Nat.reduceEqDiff]
      exact ⟨⟨false, rfl, by simp only [Bool.false_eq_true, false_iff]; exact hbad _ rfl (by simp [stopB, h1, h2, h3, h4])⟩, g2⟩
    | true =>
    have hsb : stopB ss[k] = true := by simp [stopB, h1, h2, h3, h4]
    by_cases hk0 : k = 0
    · have c2 : decide ((0 : Int) < (k : Int)) = false := by simp [hk0]
      simp only [SXa, Nat.reduceEqDiff, t1, t3, c2, wk]
      refine ⟨ss.length - (k + 1), by omega, k + 1, by omega, rfl, fun j hj hjk => ?_, g2, oo, hn2, by first | rfl | simp [t1]⟩
      have : j = k := by omega
      subst this
      exact ⟨hsb, fun h => by omega⟩
    · have c2 : decide ((0 : Int) < (k : Int)) = true := by simp; omega
      have wm : IntKind.i64.wrap ((k : Int) - 1) = ((k - 1 : Nat) : Int) := by rw [wrap_i64 (by omega) (by omega)]; omega
      have hix : ∀ S, idxV 4 x (some (((k - 1 : Nat)) : Int)) S = some (.eptr (stopA ss[k - 1]) 0, S) := fun S => idxS_ hx (by omega) S
      by_cases ha : ss[k - 1].pc < ss[k].pc
      · have c3 : decide (ss[k].pc ≤ ss[k - 1].pc) = false := by simpa using ha
        simp only [SXa, Nat.reduceEqDiff, load3, load34, index34, t1, t3, c2, wk, wm, hix, stopA, fld51_0, fld37_0, fld_e, fld_p, load_pb, ho, oo, Option.bind_some, Nat.add_zero, c3]
        refine ⟨ss.length - (k + 1), by omega, k + 1, by omega, rfl, fun j hj hjk => ?_, g2, hn2, by first | rfl | simp [t1]⟩
        by_cases hjk2 : j < k
        · exact hP j hj hjk2
        · have : j = k := by omega
          subst this
          exact ⟨hsb, fun _ => ha⟩
      · have c3 : decide (ss[k].pc ≤ ss[k - 1].pc) = true := by simpa using ha
        simp only [SXa, Nat.reduceEqDiff, load3, load34, index34, t1, t3, c2, wm, hix, stopA, fld51_0, fld37_0, fld_e, fld_p, load_pb, ho, oo, Option.bind_some, Nat.add_zero, c3]
        exact ⟨⟨false, rfl, by simp only [Bool.false_eq_true, false_iff]; exact fun h => ha ((h.st k hlt).2 (by omega))⟩, g2⟩
  case neg =>
  have hke : k = ss.length := by omega
  have hst : ∀ j (h : j < ss.length), stopB ss[j] = true ∧ (0 < j → ss[j - 1].pc < ss[j].pc) := fun j h => hP j h (by omega)
  clear hP
  simp only [SXa, Nat.reduceEqDiff, load34, len34, b15_9, r15_4, r15_5, r15_6, r15_7, r15_8, t1, t3, load_pb, o0, fld37_0, fld_p, Option.bind_some, Nat.add_zero, lenS_ hx, dec_nlt hlt]
  clear t3
  refine e_loop (fun tm S' N => ∃ k : Nat, k ≤ vs.length ∧ N = vs.length - k ∧ (∀ j (h : j < vs.length), j < k → varB vs[j] = true ∧ ∀ i (hi : i < j), ¬ clash vs[i] vs[j]) ∧ Grow S S' nilV ∧ S'.obj S.no = some [x, y] ∧ S.no < S'.no ∧ getT tm 1 = .ptr S.no 0 ∧ getT tm 5 = .sc (.int .i64 (k : Int))) vs.length
    ⟨0, by omega, by omega, fun j _ h => by omega, hG, o0, hn0, by simp [getT_setD, t1]⟩ ?_
  clear hG o0 hn0 t1
  rintro tm S' N ⟨k, hk, rfl, hP, hG, o0, hn0, t1, t5⟩
  by_cases hlt : k < vs.length
  case neg =>
    simp only [SXa, Nat.reduceEqDiff, load35, len35, b15_23, r15_11, r15_12, r15_13, r15_14, r15_15, r15_22, t1, t5, load_pb, o0, fld37_1, fld_p, Option.bind_some, Nat.zero_add, lenV_ hy, dec_nlt hlt]
    exact ⟨⟨true, rfl, by simp only [true_iff]; exact ⟨by omega, by omega, hst, fun j h => hP j h (by omega)⟩⟩, hG⟩
  have wk := wrapK hlt (by omega)
  have gb := (hG.born 56 z43).put S'.no (.cells (varA vs[k])) hG.no
  have gq := ((Grow.refl hG.fresh nilV).born 56 z43).put S'.no (.cells (varA vs[k])) (Nat.le_refl _)
  have ho : ((S'.born 56 z43).put S'.no (.cells (varA vs[k]))).obj S'.no = some (varA vs[k]) := by simp [put_obj]
  have hn : S'.no < ((S'.born 56 z43).put S'.no (.cells (varA vs[k]))).no := Nat.lt_succ_self _
  have oo := gq.objs o0 hn0
  have hn2 := Nat.lt_of_lt_of_le hn0 gq.no
  have hbad : ∀ b, varB vs[k] = b → b = false → ¬ GoodQ ss vs := fun b h1 h2 hg => by
    have := (hg.va k hlt).1
    rw [h1, h2] at this; cases this
  simp only [z43, varA] at gb gq ho oo hn hn2
  simp only [SXa, Nat.reduceEqDiff, Nat.reduceAdd, load35, index35, len35, load56, store56, b15_23, r15_11, r15_12, r15_13, r15_14, r15_15, r15_22, t1, t5, load_pb, o0, fld37_1, fld_p, Option.bind_some, Nat.zero_add, lenV_ hy, dec_lt hlt, idxV_ hy hlt, varA, alloc56, z43, st43, born_obj, Nat.le_refl, List.drop_nil]
  generalize ((S'.born 56 [.sc (.int .i64 0), .sc (.int .i64 0), .sc (.string ⟨#[]⟩), .sc (.int .i64 0), .sc (.int .i64 0), .sc (.string ⟨#[]⟩)]).put S'.no (.cells [.sc (.int .i64 vs[k].frm), .sc (.int .i64 vs[k].to), .sc (.string vs[k].name), .sc (.int .i64 vs[k].kind), .sc (.int .i64 vs[k].n), .sc (.string vs[k].typ)])) = S1 at gb ho oo hn hn2
  simp only [SXa, Nat.reduceEqDiff, load3, call38, load_pb, ho, fld56_0, fld_p, Option.bind_some, Nat.add_zero]
  refine callK_of (pcE _ _) ?_
  cases h3 : inB vs[k].frm 0 2147483647 with
  | false =>
    simp only [SXa, Nat.reduceEqDiff]
    exact ⟨⟨false, rfl, by simp only [Bool.false_eq_true, false_iff]; exact hbad _ rfl (by simp [varB, h3])⟩, gb⟩
  | true =>
  simp only [SXa, Nat.reduceEqDiff, load3, call38, load_pb, ho, fld56_1, fld_p, Option.bind_some, Nat.zero_add]
  refine callK_of (pcE _ _) ?_
  cases h4 : inB vs[k].to 0 2147483647 with
  | false =>
    simp only [SXa, Nat.reduceEqDiff]
    exact ⟨⟨false, rfl, by simp only [Bool.false_eq_true, false_iff]; exact hbad _ rfl (by simp [varB, h4])⟩, gb⟩
  | true =>
  by_cases h5 : vs[k].to ≤ vs[k].frm
  · have d5 : decide (vs[k].to ≤ vs[k].frm) = true := by simp only [decide_eq_true_eq]; omega
    simp only [SXa, Nat.reduceEqDiff, load3, load_pb, ho, fld56_0, fld56_1, fld_p, Option.bind_some, Nat.zero_add, Nat.add_zero, d5]
    exact ⟨⟨false, rfl, by simp only [Bool.false_eq_true, false_iff]; exact hbad _ rfl (by simp only [varB, inB, Bool.and_eq_false_iff, decide_eq_false_iff_not]; omega)⟩, gb⟩
  have d5 : decide (vs[k].to ≤ vs[k].frm) = false := by simp only [decide_eq_false_iff_not]; omega
  by_cases h6 : vs[k].name.size < 1
  · have d6 : decide (((vs[k].name.size : Nat) : Int) < 1) = true := by simp only [decide_eq_true_eq]; omega
    simp only [SXa, Nat.reduceEqDiff, load3, load9, load_pb, ho, fld56_0, fld56_1, fld56_2, fld_p, Option.bind_some, Nat.zero_add, Nat.add_zero, len9, len9s, d5, d6]
    exact ⟨⟨false, rfl, by simp only [Bool.false_eq_true, false_iff]; exact hbad _ rfl (by simp only [varB, inB, Bool.and_eq_false_iff, decide_eq_false_iff_not]; omega)⟩, gb⟩
  have d6 : decide (((vs[k].name.size : Nat) : Int) < 1) = false := by simp only [decide_eq_false_iff_not]; omega
  by_cases h7 : 4000 < vs[k].name.size
  · have d7 : decide ((4000 : Int) < ((vs[k].name.size : Nat) : Int)) = true := by simp only [decide_eq_true_eq]; omega
    simp only [SXa, Nat.reduceEqDiff, load3, load9, load_pb, ho, fld56_0, fld56_1, fld56_2, fld_p, Option.bind_some, Nat.zero_add, Nat.add_zero, len9, len9s, d5, d6, d7]
    exact ⟨⟨false, rfl, by simp only [Bool.false_eq_true, false_iff]; exact hbad _ rfl (by simp only [varB, inB, Bool.and_eq_false_iff, decide_eq_false_iff_not]; omega)⟩, gb⟩
  have d7 : decide ((4000 : Int) < ((vs[k].name.size : Nat) : Int)) = false := by simp only [decide_eq_false_iff_not]; omega
  by_cases h8 : vs[k].kind < 1
  · have d8 : decide (vs[k].kind < 1) = true := by simp only [decide_eq_true_eq]; omega
    simp only [SXa, Nat.reduceEqDiff, load3, load9, load_pb, ho, fld56_0, fld56_1, fld56_2, fld56_3, fld_p, Option.bind_some, Nat.zero_add, Nat.add_zero, len9, len9s, d5, d6, d7, d8]
    exact ⟨⟨false, rfl, by simp only [Bool.false_eq_true, false_iff]; exact hbad _ rfl (by simp only [varB, inB, Bool.and_eq_false_iff, decide_eq_false_iff_not]; omega)⟩, gb⟩
  have d8 : decide (vs[k].kind < 1) = false := by simp only [decide_eq_false_iff_not]; omega
  by_cases h9 : 3 < vs[k].kind
  · have d9 : decide ((3 : Int) < vs[k].kind) = true := by simp only [decide_eq_true_eq]; omega
    simp only [SXa, Nat.reduceEqDiff, load3, load9, load_pb, ho, fld56_0, fld56_1, fld56_2, fld56_3, fld_p, Option.bind_some, Nat.zero_add, Nat.add_zero, len9, len9s, d5, d6, d7, d8, d9]
    exact ⟨⟨false, rfl, by simp only [Bool.false_eq_true, false_iff]; exact hbad _ rfl (by simp only [varB, inB, Bool.and_eq_false_iff, decide_eq_false_iff_not]; omega)⟩, gb⟩
  have d9 : decide ((3 : Int) < vs[k].kind) = false := by simp only [decide_eq_false_iff_not]; omega
  by_cases h10 : vs[k].n < 0
  · have d10 : decide (vs[k].n < 0) = true := by simp only [decide_eq_true_eq]; omega
    simp only [SXa, Nat.reduceEqDiff, load3, load9, load_pb, ho, fld56_0, fld56_1, fld56_2, fld56_3, fld56_4, fld_p, Option.bind_some, Nat.zero_add, Nat.add_zero, len9, len9s, d5, d6, d7, d8, d9, d10]
    exact ⟨⟨false, rfl, by simp only [Bool.false_eq_true, false_iff]; exact hbad _ rfl (by simp only [varB, inB, Bool.and_eq_false_iff, decide_eq_false_iff_not]; omega)⟩, gb⟩
  have d10 : decide (vs[k].n < 0) = false := by simp only [decide_eq_false_iff_not]; omega
  by_cases h11 : 65535 < vs[k].n
  · have d11 : decide ((65535 : Int) < vs[k].n) = true := by simp only [decide_eq_true_eq]; omega
    simp only [SXa, Nat.reduceEqDiff, load3, load9, load_pb, ho, fld56_0, fld56_1, fld56_2, fld56_3, fld56_4, fld_p, Option.bind_some, Nat.zero_add, Nat.add_zero, len9, len9s, d5, d6, d7, d8, d9, d10, d11]
    exact ⟨⟨false, rfl, by simp only [Bool.false_eq_true, false_iff]; exact hbad _ rfl (by simp only [varB, inB, Bool.and_eq_false_iff, decide_eq_false_iff_not]; omega)⟩, gb⟩
  have d11 : decide ((65535 : Int) < vs[k].n) = false := by simp only [decide_eq_false_iff_not]; omega
  by_cases h12 : 4000000 < vs[k].typ.size
  · have d12 : decide ((4000000 : Int) < ((vs[k].typ.size : Nat) : Int)) = true := by simp only [decide_eq_true_eq]; omega
    simp only [SXa, Nat.reduceEqDiff, load3, load9, load_pb, ho, fld56_0, fld56_1, fld56_2, fld56_3, fld56_4, fld56_5, fld_p, Option.bind_some, Nat.zero_add, Nat.add_zero, len9, len9s, d5, d6, d7, d8, d9, d10, d11, d12]
    exact ⟨⟨false, rfl, by simp only [Bool.false_eq_true, false_iff]; exact hbad _ rfl (by simp only [varB, inB, Bool.and_eq_false_iff, decide_eq_false_iff_not]; omega)⟩, gb⟩
  have d12 : decide ((4000000 : Int) < ((vs[k].typ.size : Nat) : Int)) = false := by simp only [decide_eq_false_iff_not]; omega
  have hvb : varB vs[k] = true := by
    rw [varB, h3, h4]
    simp only [inB, Bool.true_and, Bool.and_eq_true, decide_eq_true_eq]
    omega
  simp only [SXa, Nat.reduceEqDiff, load3, load9, load_pb, ho, fld56_0, fld56_1, fld56_2, fld56_3, fld56_4, fld56_5, fld_p, Option.bind_some, Nat.zero_add, Nat.add_zero, len9, len9s, d5, d6, d7, d8, d9, d10, d11, d12]
  refine e_loop (fun tm S2 N => ∃ j : Nat, j ≤ k ∧ N = k - j ∧ (∀ i (hi : i < vs.length), i < j → ¬ clash vs[i] vs[k]) ∧ Grow S S2 nilV ∧ S2.obj S.no = some [x, y] ∧ S.no < S2.no ∧ S2.obj S'.no = some (varA vs[k]) ∧ S'.no < S2.no ∧ getT tm 1 = .ptr S.no 0 ∧ getT tm 5 = .sc (.int .i64 (k : Int)) ∧ getT tm 6 = .ptr S'.no 0 ∧ getT tm 7 = .sc (.int .i64 (j : Int))) k
    ⟨0, by omega, by omega, fun j _ h => by omega, gb, oo, hn2, ho, hn, by simp [getT_setD, t1, t5]⟩ ?_
  · clear t1 t5 gb ho oo hn hn2
    rintro tm S2 N ⟨j, hj, rfl, hQ, hG2, o2, hn2, ov, hnv, t1, t5, t6, t7⟩
    by_cases hjk : j < k
    case neg =>
      have hQ2 : ∀ i (hi : i < vs.length), i < k → ¬ clash vs[i] vs[k] := fun i hi h => hQ i hi (by omega)
      simp only [SXa, Nat.reduceEqDiff, b15_21, r15_16, r15_17, r15_18, r15_19, r15_20, t1, t5, t7, dec_nlt hjk, wk]
      refine ⟨vs.length - (k + 1), by omega, k + 1, by omega, rfl, fun j hj hjk => ?_, hG2, o2, hn2, by first | rfl | simp [t1]⟩
      by_cases hjk2 : j < k
      · exact hP j hj hjk2
      · have : j = k := by omega
        subst this
        exact ⟨hvb, fun i hi => hQ2 i (by omega) hi⟩
    case pos =>
      have hjv : j < vs.length := by omega
      have wj := wrapK hjv (by omega)
      have gb := (hG2.born 56 z43).put S2.no (.cells (varA vs[j])) hG2.no
      have gq := ((Grow.refl hG2.fresh nilV).born 56 z43).put S2.no (.cells (varA vs[j])) (Nat.le_refl _)
      have o8 : ((S2.born 56 z43).put S2.no (.cells (varA vs[j]))).obj S2.no = some (varA vs[j]) := by simp [put_obj]
      have o6 := gq.objs ov hnv
      have oo := gq.objs o2 hn2
      have hn3 := Nat.lt_of_lt_of_le hn2 gq.no
      have hnw := Nat.lt_of_lt_of_le hnv gq.no
      have o6' := o6
      simp only [z43, varA] at gb gq o8 o6 oo hn3 hnw
      simp only [z43] at o6'
      rw [show varA vs[j] = [.sc (.int .i64 vs[j].frm), .sc (.int .i64 vs[j].to), .sc (.string vs[j].name), .sc (.int .i64 vs[j].kind), .sc (.int .i64 vs[j].n), .sc (.string vs[j].typ)] from rfl] at o6'
      simp only [SXa, Nat.reduceEqDiff, Nat.reduceAdd, load35, index35, load56, store56, b15_21, r15_16, r15_17, r15_18, r15_19, r15_20, t1, t5, t7, dec_lt hjk, load_pb, o2, fld37_1, fld_p, Option.bind_some, Nat.zero_add, idxV_ hy hjv, varA, alloc56, z43, st43, born_obj, Nat.le_refl, List.drop_nil]
      generalize ((S2.born 56 [.sc (.int .i64 0), .sc (.int .i64 0), .sc (.string ⟨#[]⟩), .sc (.int .i64 0), .sc (.int .i64 0), .sc (.string ⟨#[]⟩)]).put S2.no (.cells [.sc (.int .i64 vs[j].frm), .sc (.int .i64 vs[j].to), .sc (.string vs[j].name), .sc (.int .i64 vs[j].kind), .sc (.int .i64 vs[j].n), .sc (.string vs[j].typ)])) = S3 at gb o8 o6 o6' oo hn3 hnw
      have next : ¬ clash vs[j] vs[k] → ∀ i (hi : i < vs.length), i < j + 1 → ¬ clash vs[i] vs[k] := fun h i hi hij => by
        by_cases h2 : i < j
        · exact hQ i hi h2
        · have : i = j := by omega
          subst this
          exact h
      by_cases e1 : vs[j].name.toList = vs[k].name.toList
      case neg =>
        have c1 : (vs[j].name.toList == vs[k].name.toList) = false := by simpa using e1
        simp only [SXa, Nat.reduceEqDiff, load9, t1, t5, t6, t7, load_pb, o8, o6, fld56_2, fld_p, Option.bind_some, Nat.zero_add, c1, wj]
        exact ⟨k - (j + 1), by omega, j + 1, by omega, rfl, next fun h => e1 h.1, gb, oo, hn3, hnw, by first | rfl | simp [t1, t5, t6]⟩
      have c1 : (vs[j].name.toList == vs[k].name.toList) = true := by simpa using e1
      by_cases e2 : vs[j].frm < vs[k].to
      case neg =>
        have c2 : decide (vs[j].frm < vs[k].to) = false := by simpa using e2
        simp only [SXa, Nat.reduceEqDiff, load3, load9, t1, t5, t6, t7, load_pb, o8, o6, fld56_0, fld56_1, fld56_2, fld_p, Option.bind_some, Nat.zero_add, Nat.add_zero, c1, c2, wj]
        exact ⟨k - (j + 1), by omega, j + 1, by omega, rfl, next fun h => e2 h.2.1, gb, oo, hn3, hnw, by first | rfl | simp [t1, t5, t6]⟩
      have c2 : decide (vs[j].frm < vs[k].to) = true := by simpa using e2
      by_cases e3 : vs[k].frm < vs[j].to
      case neg =>
        have c3 : decide (vs[k].frm < vs[j].to) = false := by simpa using e3
        simp only [SXa, Nat.reduceEqDiff, load3, load9, t1, t5, t6, t7, load_pb, o8, o6, fld56_0, fld56_1, fld56_2, fld_p, Option.bind_some, Nat.zero_add, Nat.add_zero, c1, c2, c3, wj]
        exact ⟨k - (j + 1), by omega, j + 1, by omega, rfl, next fun h => e3 h.2.2, gb, oo, hn3, hnw, by first | rfl | simp [t1, t5, t6]⟩
      have c3 : decide (vs[k].frm < vs[j].to) = true := by simpa using e3
      simp only [SXa, Nat.reduceEqDiff, load3, load9, t6, load_pb, o8, o6, fld56_0, fld56_1, fld56_2, fld_p, Option.bind_some, Nat.zero_add, Nat.add_zero, c1, c2, c3]
      exact ⟨⟨false, rfl, by simp only [Bool.false_eq_true, false_iff]; exact fun h => (h.va k hlt).2 j hjk ⟨e1, e2, e3⟩⟩, gb⟩
end Go.Proofs.Ytmmpcomfhcpicaa
