/-
  Chapter 14: numbers as bytes, the walks.
-/
import Derived.Test.YtpahkfadibcdgaaCode1
import Derived.Test.YtpahkfadibcdgaaObj
import Derived.Test.YtpahkfadibcdgaaPd
set_option linter.unusedSimpArgs false
set_option linter.unusedVariables false
namespace Go.Abs
theorem ofInt_neg1 : BitVec.ofInt 64 (-1) = BitVec.allOnes 64 := by decide
theorem wrapN {n : Int} (h0 : 0 ≤ n) (h1 : n < 18446744073709551616) : IntKind.u64.wrap n = n := wrap_u64 h0 (by omega)
theorem wrap_neg {n : Int} (h0 : -18446744073709551616 ≤ n) (h1 : n < 0) : IntKind.u64.wrap n = n + 18446744073709551616 := by
  simp [IntKind.wrap, IntKind.bits, IntKind.signed]; omega
theorem wrap_neg2 {n : Int} (h0 : -36893488147419103232 ≤ n) (h1 : n < -18446744073709551616) : IntKind.u64.wrap n = n + 36893488147419103232 := by
  simp [IntKind.wrap, IntKind.bits, IntKind.signed]; omega
theorem wrap_up {n : Int} (h0 : 18446744073709551616 ≤ n) (h1 : n < 36893488147419103232) : IntKind.u64.wrap n = n - 18446744073709551616 := by
  simp [IntKind.wrap, IntKind.bits, IntKind.signed]; omega
theorem wrapI {n : Int} (h0 : 9223372036854775808 ≤ n) (h1 : n < 18446744073709551616) : IntKind.i64.wrap n = n - 18446744073709551616 := by
  simp [IntKind.wrap, IntKind.bits, IntKind.signed]; omega
theorem xor_u64 (a b : Nat) (ha : a < 2 ^ 64) (hb : b < 2 ^ 64) : bitsV .xor .u64 (a : Int) (b : Int) = ((a ^^^ b : Nat) : Int) := by
  have h : a ^^^ b < 2 ^ 64 := Nat.xor_lt_two_pow ha hb
  have e : bitsV .xor .u64 (a : Int) (b : Int) = IntKind.u64.wrap (((BitVec.ofInt 64 (a : Int) ^^^ BitVec.ofInt 64 (b : Int)).toNat : Nat) : Int) := rfl
  rw [e, ofInt_nat, ofInt_nat, BitVec.toNat_xor, BitVec.toNat_ofNat, BitVec.toNat_ofNat, Nat.mod_eq_of_lt ha, Nat.mod_eq_of_lt hb]
  exact wrap_u64 (by omega) (by omega)
theorem xor_ones {a : Nat} (ha : a < 2 ^ 64) : a ^^^ 18446744073709551615 = 18446744073709551615 - a := by
  have h1 : (BitVec.ofNat 64 a ^^^ BitVec.allOnes 64).toNat = a ^^^ 18446744073709551615 := by
    rw [BitVec.toNat_xor, BitVec.toNat_ofNat, Nat.mod_eq_of_lt ha]; rfl
  have h2 : BitVec.ofNat 64 a ^^^ BitVec.allOnes 64 = ~~~ (BitVec.ofNat 64 a) := BitVec.xor_allOnes
  rw [← h1, h2, BitVec.toNat_not, BitVec.toNat_ofNat, Nat.mod_eq_of_lt ha]
theorem xor_i64 (a : Nat) (ha : a < 2 ^ 63) : bitsV .xor .i64 (a : Int) (-1) = -1 - (a : Int) := by
  have e : bitsV .xor .i64 (a : Int) (-1) = IntKind.i64.wrap (((BitVec.ofInt 64 (a : Int) ^^^ BitVec.ofInt 64 (-1)).toNat : Nat) : Int) := rfl
  rw [e, ofInt_nat, ofInt_neg1, BitVec.toNat_xor, BitVec.toNat_ofNat, Nat.mod_eq_of_lt (by omega)]
  have : a ^^^ (BitVec.allOnes 64).toNat = 18446744073709551615 - a := xor_ones (by omega)
  rw [this, wrapI (by omega) (by omega)]
  omega
theorem xor_i64z (a : Nat) (ha : a < 2 ^ 63) : bitsV .xor .i64 (a : Int) 0 = (a : Int) := by
  have e : bitsV .xor .i64 (a : Int) 0 = IntKind.i64.wrap (((BitVec.ofInt 64 (a : Int) ^^^ BitVec.ofInt 64 ((0 : Nat) : Int)).toNat : Nat) : Int) := rfl
  rw [e, ofInt_nat, ofInt_nat, BitVec.toNat_xor, BitVec.toNat_ofNat, BitVec.toNat_ofNat, Nat.mod_eq_of_lt (by omega), Nat.zero_mod, Nat.xor_zero]
  exact wrap_i64 (by omega) (by omega)
theorem and1_u64 (a : Nat) (ha : a < 2 ^ 64) : bitsV .and .u64 (a : Int) 1 = ((a % 2 : Nat) : Int) := by
  have e : bitsV .and .u64 (a : Int) 1 = IntKind.u64.wrap (((BitVec.ofInt 64 (a : Int) &&& BitVec.ofInt 64 ((1 : Nat) : Int)).toNat : Nat) : Int) := rfl
  rw [e, ofInt_nat, ofInt_nat, BitVec.toNat_and, BitVec.toNat_ofNat, BitVec.toNat_ofNat, Nat.mod_eq_of_lt ha]
  rw [show (1 : Nat) % 2 ^ 64 = 1 from rfl, Nat.and_one_is_mod]
  exact wrap_u64 (by omega) (by omega)
theorem b_quo {E : Env} {S : St} (t : TypeId) (x y : Operand) (k : IntKind) (a b : Int) (h : b ≠ 0) : binGen E .quo t x y (.sc (.int k a)) (.sc (.int k b)) S = some (.sc (.int k (k.wrap (a.tdiv b))), S) := by
  have h2 : (b == 0) = false := by simpa using h
  simp only [binGen, conc, binOp, Op.intDiv, h, h2, if_false, ne_eq, not_true_eq_false]
  first | rfl | (simp [h]; rfl)
theorem b_rem {E : Env} {S : St} (t : TypeId) (x y : Operand) (k : IntKind) (a b : Int) (h : b ≠ 0) : binGen E .rem t x y (.sc (.int k a)) (.sc (.int k b)) S = some (.sc (.int k (a.tmod b)), S) := by
  have h2 : (b == 0) = false := by simpa using h
  simp only [binGen, conc, binOp, Op.intDiv, h, h2, if_false, ne_eq, not_true_eq_false]
  first | rfl | (simp [h]; rfl)
end Go.Abs
namespace Go.Proofs.Ytpahkfadibcdgaa
open Go.Abs
theorem fld31_0 {tm : PM AV} {S : St} {d : Option Tmp} (x : Operand) : opV E tm d (.fieldAddr 31 x 0) S = fldV 0 (E.ev tm x) S := field_chk 31 0 0 (by kernel_rfl) x
theorem fld31_1 {tm : PM AV} {S : St} {d : Option Tmp} (x : Operand) : opV E tm d (.fieldAddr 31 x 1) S = fldV 1 (E.ev tm x) S := field_chk 31 1 1 (by kernel_rfl) x
theorem fld31_2 {tm : PM AV} {S : St} {d : Option Tmp} (x : Operand) : opV E tm d (.fieldAddr 31 x 2) S = fldV 2 (E.ev tm x) S := field_chk 31 2 2 (by kernel_rfl) x
theorem fld40_0 {tm : PM AV} {S : St} {d : Option Tmp} (x : Operand) : opV E tm d (.fieldAddr 40 x 0) S = fldV 0 (E.ev tm x) S := field_chk 40 0 0 (by kernel_rfl) x
theorem fld40_1 {tm : PM AV} {S : St} {d : Option Tmp} (x : Operand) : opV E tm d (.fieldAddr 40 x 1) S = fldV 1 (E.ev tm x) S := field_chk 40 1 1 (by kernel_rfl) x
theorem fld40_2 {tm : PM AV} {S : St} {d : Option Tmp} (x : Operand) : opV E tm d (.fieldAddr 40 x 2) S = fldV 2 (E.ev tm x) S := field_chk 40 2 2 (by kernel_rfl) x
theorem fld59_0 {tm : PM AV} {S : St} {d : Option Tmp} (x : Operand) : opV E tm d (.fieldAddr 59 x 0) S = fldV 0 (E.ev tm x) S := field_chk 59 0 0 (by kernel_rfl) x
theorem fld59_1 {tm : PM AV} {S : St} {d : Option Tmp} (x : Operand) : opV E tm d (.fieldAddr 59 x 1) S = fldV 1 (E.ev tm x) S := field_chk 59 1 1 (by kernel_rfl) x

def instrV (i : InstrV) : AV := .agg [.sc (.int .i64 i.op), .sc (.int .i64 i.a), .sc (.int .i64 i.b)]

theorem good_ok (i : InstrV) (S : St) (hS : S.Fresh) : ∃ r S', EvA E 20 [instrV i] S r S' ∧ r = .sc (.bool (decide i.good)) ∧ Grow S S' nilV := by
  refine ev20 rfl ?_
  by_cases h0 : 0 ≤ i.op
  · have c0 : decide ((0 : Int) ≤ i.op) = true := by simpa using h0
    simp only [e_nil, e_skip, e_exit, e_ret, e_c_exit, e_blk_nrm, e_blk_exit, e_pop_ret, e_seq, e_block, e_reg_nil, e_regD, e_cond, condK_true, condK_false, eo_move, eo_assign, eo_pick, eo_alloc, eo_box, eo_build, eo_buildSlice, eo_load, eo_store, eo_nilCheck, eo_bin, eo_un, eo_convert, eo_slice, eo_makeSlice, eo_lookup, eo_mapUpdate, eo_makeMap, eo_range, eo_next, eo_fieldAddr, eo_field, eo_indexAddr, eo_index, eo_extract, eo_makeFunc, eo_makeInterface, eo_builtin, opK_some, e_guard, guardK_same, guardK_tf, guardK_ft, guardK_passed, eq_self, true_and, and_true, op_bin, b_add, b_sub, b_mul, b_and, b_or, b_xor, b_andNot, b_eql, b_neq, b_lss, b_leq, b_gtr, b_geq, b_eqstr, b_shl', b_shr', List.map_cons, List.map_nil, op_move, op_assign, op_pick, pick_bool, op_extract, extract_tup, op_un, un_not, Bool.not_false, Bool.not_true, load_e, cut_f, cut_t, List.getElem?_cons_zero, List.getElem?_cons_succ, List.length_cons, List.length_nil, List.drop_zero, List.drop_succ_cons, List.take_succ_cons, List.take_zero, op_min, min_int, op_slice, op_convert, len_vec, len_nil, byteVals_length, ret_ret, ret_nrm, retV_some, pack1, pack2, res_nil, res_tmp, getT_setD, setD_none, getT_leaf, initTm_nil, initTm_cons, ev_tmp, ev_int, ev_bool, ev_str, ev_nilslice, int_int, Option.map_some, Option.map_none, cond_true, cond_false, if_true, if_false, reduceCtorEq, Nat.reduceEqDiff, Nat.reduceAdd, Nat.reduceSub, Nat.reduceMul, Int.reduceLT, Int.reduceLE, Int.reduceToNat, Int.reduceBEq, Int.reduceBNe, decide_true, decide_false, reduceIte, load2, store2, load3, store3, load4, store4, load5, store5, load6, store6, load7, store7, load8, store8, load9, store9, load10, store10, load11, store11, load12, store12, load13, store13, load14, store14, load15, store15, load16, store16, load17, store17, load18, store18, load19, store19, load21, store21, load22, store22, bs22, app22, index22, len22, load24, store24, load27, store27, load30, store30, load31, store31, load34, store34, bs34, app34, index34, len34, load40, store40, load47, store47, load51, store51, bs51, app51, index51, len51, load58, store58, load59, store59, load60, store60, bs60, app60, index60, len60, load67, store67, load69, store69, load70, store70, bs70, app70, index70, len70, load76, store76, load77, store77, load78, store78, load79, store79, load80, store80, load82, store82, load83, store83, load84, store84, load86, store86, load87, store87, load88, store88, load89, store89, load90, store90, conv2_27, conv3_5, conv3_27, conv3_67, conv5_3, conv5_27, conv27_2, conv27_3, conv27_5, call3, call4, call5, call6, call7, call8, call9, call10, call11, call12, call13, call14, call15, call16, call17, call18, call19, call20, call21, call22, call23, call24, call25, call26, call27, call28, call29, call30, call31, call32, call33, call34, call35, call36, call37, call38, call39, r20_0, r20_1, p20, op_box, instrV, cells_agg, fld31_0, fld_p, load_pb, born_obj, Option.bind_some, c0, Nat.zero_add, Nat.add_zero]
    refine ⟨?_, (Grow.refl hS _).born _ _⟩
    congr 2
    simp [InstrV.good, h0]
  · have c0 : decide ((0 : Int) ≤ i.op) = false := by simpa using h0
    simp only [e_nil, e_skip, e_exit, e_ret, e_c_exit, e_blk_nrm, e_blk_exit, e_pop_ret, e_seq, e_block, e_reg_nil, e_regD, e_cond, condK_true, condK_false, eo_move, eo_assign, eo_pick, eo_alloc, eo_box, eo_build, eo_buildSlice, eo_load, eo_store, eo_nilCheck, eo_bin, eo_un, eo_convert, eo_slice, eo_makeSlice, eo_lookup, eo_mapUpdate, eo_makeMap, eo_range, eo_next, eo_fieldAddr, eo_field, eo_indexAddr, eo_index, eo_extract, eo_makeFunc, eo_makeInterface, eo_builtin, opK_some, e_guard, guardK_same, guardK_tf, guardK_ft, guardK_passed, eq_self, true_and, and_true, op_bin, b_add, b_sub, b_mul, b_and, b_or, b_xor, b_andNot, b_eql, b_neq, b_lss, b_leq, b_gtr, b_geq, b_eqstr, b_shl', b_shr', List.map_cons, List.map_nil, op_move, op_assign, op_pick, pick_bool, op_extract, extract_tup, op_un, un_not, Bool.not_false, Bool.not_true, load_e, cut_f, cut_t, List.getElem?_cons_zero, List.getElem?_cons_succ, List.length_cons, List.length_nil, List.drop_zero, List.drop_succ_cons, List.take_succ_cons, List.take_zero, op_min, min_int, op_slice, op_convert, len_vec, len_nil, byteVals_length, ret_ret, ret_nrm, retV_some, pack1, pack2, res_nil, res_tmp, getT_setD, setD_none, getT_leaf, initTm_nil, initTm_cons, ev_tmp, ev_int, ev_bool, ev_str, ev_nilslice, int_int, Option.map_some, Option.map_none, cond_true, cond_false, if_true, if_false, reduceCtorEq, Nat.reduceEqDiff, Nat.reduceAdd, Nat.reduceSub, Nat.reduceMul, Int.reduceLT, Int.reduceLE, Int.reduceToNat, Int.reduceBEq, Int.reduceBNe, decide_true, decide_false, reduceIte, load2, store2, load3, store3, load4, store4, load5, store5, load6, store6, load7, store7, load8, store8, load9, store9, load10, store10, load11, store11, load12, store12, load13, store13, load14, store14, load15, store15, load16, store16, load17, store17, load18, store18, load19, store19, load21, store21, load22, store22, bs22, app22, index22, len22, load24, store24, load27, store27, load30, store30, load31, store31, load34, store34, bs34, app34, index34, len34, load40, store40, load47, store47, load51, store51, bs51, app51, index51, len51, load58, store58, load59, store59, load60, store60, bs60, app60, index60, len60, load67, store67, load69, store69, load70, store70, bs70, app70, index70, len70, load76, store76, load77, store77, load78, store78, load79, store79, load80, store80, load82, store82, load83, store83, load84, store84, load86, store86, load87, store87, load88, store88, load89, store89, load90, store90, conv2_27, conv3_5, conv3_27, conv3_67, conv5_3, conv5_27, conv27_2, conv27_3, conv27_5, call3, call4, call5, call6, call7, call8, call9, call10, call11, call12, call13, call14, call15, call16, call17, call18, call19, call20, call21, call22, call23, call24, call25, call26, call27, call28, call29, call30, call31, call32, call33, call34, call35, call36, call37, call38, call39, r20_0, r20_1, p20, op_box, instrV, cells_agg, fld31_0, fld_p, load_pb, born_obj, Option.bind_some, c0, Nat.zero_add, Nat.add_zero]
    refine ⟨?_, (Grow.refl hS _).born _ _⟩
    congr 2
    simp [InstrV.good, h0]

theorem signed_ok (v : Int) (h1 : -9223372036854775808 ≤ v) (h2 : v ≤ 9223372036854775807) (S : St) : ∃ r S', EvA E 33 [.sc (.int .i64 v)] S r S' ∧ r = .sc (.int .u64 (zzF v)) ∧ S' = S := by
  refine ev33 rfl ?_
  have e1 : min 1 IntKind.u64.bits = 1 := by decide
  by_cases h : v < 0
  · have c : decide (v < (0 : Int)) = true := by simpa using h
    have w1 : IntKind.u64.wrap v = v + 18446744073709551616 := wrap_neg (by omega) h
    have w2 : IntKind.u64.wrap ((v + 18446744073709551616) * 2 ^ 1) = ((2 * v + 18446744073709551616).toNat : Nat) := by rw [wrap_up (by omega) (by omega)]; omega
    have w3 : bitsV .xor .u64 18446744073709551615 (((2 * v + 18446744073709551616).toNat : Nat) : Int) = ((zzF v : Nat) : Int) := by
      have := xor_u64 18446744073709551615 (2 * v + 18446744073709551616).toNat (by omega) (by omega)
      rw [Nat.xor_comm, xor_ones (by omega)] at this
      rw [show ((18446744073709551615 : Nat) : Int) = 18446744073709551615 from rfl] at this
      rw [this]
      unfold zzF
      rw [if_neg (by omega)]
      omega
    have w4 : (if IntKind.u64.signed = true then (-1 : Int) else IntKind.u64.max) = 18446744073709551615 := rfl
    simp only [e_nil, e_skip, e_exit, e_ret, e_c_exit, e_blk_nrm, e_blk_exit, e_pop_ret, e_seq, e_block, e_reg_nil, e_regD, e_cond, condK_true, condK_false, eo_move, eo_assign, eo_pick, eo_alloc, eo_box, eo_build, eo_buildSlice, eo_load, eo_store, eo_nilCheck, eo_bin, eo_un, eo_convert, eo_slice, eo_makeSlice, eo_lookup, eo_mapUpdate, eo_makeMap, eo_range, eo_next, eo_fieldAddr, eo_field, eo_indexAddr, eo_index, eo_extract, eo_makeFunc, eo_makeInterface, eo_builtin, opK_some, e_guard, guardK_same, guardK_tf, guardK_ft, guardK_passed, eq_self, true_and, and_true, op_bin, b_add, b_sub, b_mul, b_and, b_or, b_xor, b_andNot, b_eql, b_neq, b_lss, b_leq, b_gtr, b_geq, b_eqstr, b_shl', b_shr', List.map_cons, List.map_nil, op_move, op_assign, op_pick, pick_bool, op_extract, extract_tup, op_un, un_not, Bool.not_false, Bool.not_true, load_e, cut_f, cut_t, List.getElem?_cons_zero, List.getElem?_cons_succ, List.length_cons, List.length_nil, List.drop_zero, List.drop_succ_cons, List.take_succ_cons, List.take_zero, op_min, min_int, op_slice, op_convert, len_vec, len_nil, byteVals_length, ret_ret, ret_nrm, retV_some, pack1, pack2, res_nil, res_tmp, getT_setD, setD_none, getT_leaf, initTm_nil, initTm_cons, ev_tmp, ev_int, ev_bool, ev_str, ev_nilslice, int_int, Option.map_some, Option.map_none, cond_true, cond_false, if_true, if_false, reduceCtorEq, Nat.reduceEqDiff, Nat.reduceAdd, Nat.reduceSub, Nat.reduceMul, Int.reduceLT, Int.reduceLE, Int.reduceToNat, Int.reduceBEq, Int.reduceBNe, decide_true, decide_false, reduceIte, load2, store2, load3, store3, load4, store4, load5, store5, load6, store6, load7, store7, load8, store8, load9, store9, load10, store10, load11, store11, load12, store12, load13, store13, load14, store14, load15, store15, load16, store16, load17, store17, load18, store18, load19, store19, load21, store21, load22, store22, bs22, app22, index22, len22, load24, store24, load27, store27, load30, store30, load31, store31, load34, store34, bs34, app34, index34, len34, load40, store40, load47, store47, load51, store51, bs51, app51, index51, len51, load58, store58, load59, store59, load60, store60, bs60, app60, index60, len60, load67, store67, load69, store69, load70, store70, bs70, app70, index70, len70, load76, store76, load77, store77, load78, store78, load79, store79, load80, store80, load82, store82, load83, store83, load84, store84, load86, store86, load87, store87, load88, store88, load89, store89, load90, store90, conv2_27, conv3_5, conv3_27, conv3_67, conv5_3, conv5_27, conv27_2, conv27_3, conv27_5, call3, call4, call5, call6, call7, call8, call9, call10, call11, call12, call13, call14, call15, call16, call17, call18, call19, call20, call21, call22, call23, call24, call25, call26, call27, call28, call29, call30, call31, call32, call33, call34, call35, call36, call37, call38, call39, r33_0, r33_1, r33_2, r33_3, r33_4, p33, c, w1, e1, w2, un_xor, w4, w3]
  · have c : decide (v < (0 : Int)) = false := by simpa using h
    have w1 : IntKind.u64.wrap v = v := wrapN (by omega) (by omega)
    have w2 : IntKind.u64.wrap (v * 2 ^ 1) = ((zzF v : Nat) : Int) := by
      rw [wrapN (by omega) (by omega)]
      unfold zzF
      rw [if_pos (by omega)]
      omega
    simp only [e_nil, e_skip, e_exit, e_ret, e_c_exit, e_blk_nrm, e_blk_exit, e_pop_ret, e_seq, e_block, e_reg_nil, e_regD, e_cond, condK_true, condK_false, eo_move, eo_assign, eo_pick, eo_alloc, eo_box, eo_build, eo_buildSlice, eo_load, eo_store, eo_nilCheck, eo_bin, eo_un, eo_convert, eo_slice, eo_makeSlice, eo_lookup, eo_mapUpdate, eo_makeMap, eo_range, eo_next, eo_fieldAddr, eo_field, eo_indexAddr, eo_index, eo_extract, eo_makeFunc, eo_makeInterface, eo_builtin, opK_some, e_guard, guardK_same, guardK_tf, guardK_ft, guardK_passed, eq_self, true_and, and_true, op_bin, b_add, b_sub, b_mul, b_and, b_or, b_xor, b_andNot, b_eql, b_neq, b_lss, b_leq, b_gtr, b_geq, b_eqstr, b_shl', b_shr', List.map_cons, List.map_nil, op_move, op_assign, op_pick, pick_bool, op_extract, extract_tup, op_un, un_not, Bool.not_false, Bool.not_true, load_e, cut_f, cut_t, List.getElem?_cons_zero, List.getElem?_cons_succ, List.length_cons, List.length_nil, List.drop_zero, List.drop_succ_cons, List.take_succ_cons, List.take_zero, op_min, min_int, op_slice, op_convert, len_vec, len_nil, byteVals_length, ret_ret, ret_nrm, retV_some, pack1, pack2, res_nil, res_tmp, getT_setD, setD_none, getT_leaf, initTm_nil, initTm_cons, ev_tmp, ev_int, ev_bool, ev_str, ev_nilslice, int_int, Option.map_some, Option.map_none, cond_true, cond_false, if_true, if_false, reduceCtorEq, Nat.reduceEqDiff, Nat.reduceAdd, Nat.reduceSub, Nat.reduceMul, Int.reduceLT, Int.reduceLE, Int.reduceToNat, Int.reduceBEq, Int.reduceBNe, decide_true, decide_false, reduceIte, load2, store2, load3, store3, load4, store4, load5, store5, load6, store6, load7, store7, load8, store8, load9, store9, load10, store10, load11, store11, load12, store12, load13, store13, load14, store14, load15, store15, load16, store16, load17, store17, load18, store18, load19, store19, load21, store21, load22, store22, bs22, app22, index22, len22, load24, store24, load27, store27, load30, store30, load31, store31, load34, store34, bs34, app34, index34, len34, load40, store40, load47, store47, load51, store51, bs51, app51, index51, len51, load58, store58, load59, store59, load60, store60, bs60, app60, index60, len60, load67, store67, load69, store69, load70, store70, bs70, app70, index70, len70, load76, store76, load77, store77, load78, store78, load79, store79, load80, store80, load82, store82, load83, store83, load84, store84, load86, store86, load87, store87, load88, store88, load89, store89, load90, store90, conv2_27, conv3_5, conv3_27, conv3_67, conv5_3, conv5_27, conv27_2, conv27_3, conv27_5, call3, call4, call5, call6, call7, call8, call9, call10, call11, call12, call13, call14, call15, call16, call17, call18, call19, call20, call21, call22, call23, call24, call25, call26, call27, call28, call29, call30, call31, call32, call33, call34, call35, call36, call37, call38, call39, r33_0, r33_1, r33_2, r33_3, r33_4, p33, c, w1, e1, w2]
end Go.Proofs.Ytpahkfadibcdgaa
