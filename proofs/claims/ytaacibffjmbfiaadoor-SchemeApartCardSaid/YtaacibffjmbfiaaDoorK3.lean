/-
  Types of the small ML: small, Same, Vars, and the little ones.
  Types of the small ML: their variables.
  Types of the small ML: Vars, Mono, New, Fresh, v, Contains.
-/
import Derived.Test.YtaacibffjmbfiaaDoorSch1
import Derived.Test.YtaacibffjmbfiaaDoorK2
import Derived.Test.YtaacibffjmbfiaaDoorK1
import Derived.Test.YtaacibffjmbfiaaDoorPd
set_option linter.unusedSimpArgs false
set_option linter.unusedVariables false
set_option maxRecDepth 100000
namespace Go.Proofs.YtaacibffjmbfiaaDoor
open Go.Abs
theorem len9 {tm : PM AV} {S : St} {d : Option Tmp} (x : Operand) : opV E tm d (.call (Call.mk (.builtin .len) #[x] #[9])) S = builtinA E (E.hp 9 d) .len [9] [E.ev tm x] S := rfl
theorem len9s (mu : Bool) (s : ByteArray) (S : St) : builtinA E mu .len [9] [.sc (.string s)] S = some (.sc (.int .i64 (s.size : Nat)), S) := by
  have h : E.und 9 = some .string := by kernel_rfl
  simp only [builtinA, h]
theorem b_quo2 {S : St} (t : TypeId) (x y : Operand) (a : Int) : binGen E .quo t x y (.sc (.int .i64 a)) (.sc (.int .i64 2)) S = some (.sc (.int .i64 (IntKind.i64.wrap (a.tdiv 2))), S) := by
  rfl
theorem smallF_eq (t : Ty) (m : Int) : smallF t m = (decide (0 < m) && decide (t.args.length ≤ 4) && decide (t.name.size ≤ 60) && smallL t.args (m.tdiv 2)) := by
  obtain ⟨k, n, v, l⟩ := t; rfl
theorem smallL_drop {l : List Ty} {m : Int} {k : Nat} (h : k < l.length) : smallL (l.drop k) m = (smallF l[k] m && smallL (l.drop (k + 1)) m) := by
  rw [List.drop_eq_getElem_cons h]; rfl
set_option maxHeartbeats 4000000 in
theorem small_ok : ∀ t : Ty, ∀ (x : AV) (m : Int) (S : St), TyX t x → 0 ≤ m → m ≤ 64 → S.Fresh → ∃ r S', EvA E 9 [.agg (tc t x), .sc (.int .i64 m)] S r S' ∧ r = .sc (.bool (smallF t m)) ∧ Grow S S' nilV := by
  refine ty_ind fun t ih x m S hx hm0 hm hS => ?_
  refine ev9 rfl ?_
  have lx : ∀ S, lenV x S = some (.sc (.int .i64 (t.args.length : Nat)), S) := fun S => hx.len S
  have g0 := (Grow.refl hS nilV).born 24 (tc t x)
  have h0 : (S.born 24 (tc t x)).obj S.no = some (tc t x) := by simp [born_obj]
  have n0 : S.no < (S.born 24 (tc t x)).no := Nat.lt_succ_self _
  simp only [tc] at g0 h0 n0
  simp only [e_nil, e_skip, e_exit, e_ret, e_c_exit, e_blk_nrm, e_blk_exit, e_pop_ret, e_seq, e_block, e_reg_nil, e_cond, condK_true, condK_false, eo_move, eo_assign, eo_pick, eo_box, eo_load, eo_bin, eo_un, eo_fieldAddr, eo_indexAddr, eo_builtin, opK_some, e_guard, guardK_same, guardK_tf, guardK_ft, guardK_passed, eq_self, true_and, and_true, op_bin, b_add, b_lss, b_leq, b_gtr, List.map_cons, List.map_nil, op_move, op_assign, op_pick, pick_bool, op_un, un_not, Bool.not_false, Bool.not_true, load_e, cut_f, cut_t, List.getElem?_cons_zero, List.getElem?_cons_succ, List.length_cons, List.length_nil, List.drop_zero, List.drop_succ_cons, List.take_succ_cons, List.take_zero, len_vec, len_nil, ret_ret, ret_nrm, retV_some, pack1, pack2, res_nil, res_tmp, getT_setD, setD_none, getT_leaf, initTm_nil, initTm_cons, ev_tmp, ev_int, ev_bool, ev_str, ev_nilslice, int_int, Option.map_some, Option.map_none, cond_true, cond_false, if_true, if_false, reduceCtorEq, Nat.reduceEqDiff, Nat.reduceAdd, Nat.reduceSub, Nat.reduceMul, Nat.reduceBEq, Int.reduceLT, Int.reduceLE, Int.reduceToNat, Int.reduceBEq, Int.reduceBNe, decide_true, decide_false, reduceIte, load9, load22, index22, len22, load24, call9, r9_0, r9_1, r9_2, r9_3, r9_4, r9_5, r9_6, r9_7, r9_9, p9, tc, op_box, cells_agg]
  generalize S.born 24 [.sc (.int .i64 t.kind), .sc (.string t.name), .sc (.int .i64 t.var), x] = S0 at g0 h0 n0
  by_cases b1 : m ≤ 0
  · have c1 : decide (m ≤ 0) = true := by simpa using b1
    simp only [e_nil, e_skip, e_exit, e_ret, e_c_exit, e_blk_nrm, e_blk_exit, e_pop_ret, e_seq, e_block, e_reg_nil, e_cond, condK_true, condK_false, eo_move, eo_assign, eo_pick, eo_box, eo_load, eo_bin, eo_un, eo_fieldAddr, eo_indexAddr, eo_builtin, opK_some, e_guard, guardK_same, guardK_tf, guardK_ft, guardK_passed, eq_self, true_and, and_true, op_bin, b_add, b_lss, b_leq, b_gtr, List.map_cons, List.map_nil, op_move, op_assign, op_pick, pick_bool, op_un, un_not, Bool.not_false, Bool.not_true, load_e, cut_f, cut_t, List.getElem?_cons_zero, List.getElem?_cons_succ, List.length_cons, List.length_nil, List.drop_zero, List.drop_succ_cons, List.take_succ_cons, List.take_zero, len_vec, len_nil, ret_ret, ret_nrm, retV_some, pack1, pack2, res_nil, res_tmp, getT_setD, setD_none, getT_leaf, initTm_nil, initTm_cons, ev_tmp, ev_int, ev_bool, ev_str, ev_nilslice, int_int, Option.map_some, Option.map_none, cond_true, cond_false, if_true, if_false, reduceCtorEq, Nat.reduceEqDiff, Nat.reduceAdd, Nat.reduceSub, Nat.reduceMul, Nat.reduceBEq, Int.reduceLT, Int.reduceLE, Int.reduceToNat, Int.reduceBEq, Int.reduceBNe, decide_true, decide_false, reduceIte, load9, load22, index22, len22, load24, call9, r9_0, r9_1, r9_2, r9_3, r9_4, r9_5, r9_6, r9_7, r9_9, p9, c1]
    exact ⟨by rw [smallF_eq]; have : ¬ 0 < m := by omega
              simp [this], g0⟩
  have c1 : decide (m ≤ 0) = false := by simp; omega
  have a1 : 0 < m := by omega
  by_cases b2 : 4 < t.args.length
  · have c2 : decide ((4 : Int) < ((t.args.length : Nat) : Int)) = true := by simp; omega
    simp only [e_nil, e_skip, e_exit, e_ret, e_c_exit, e_blk_nrm, e_blk_exit, e_pop_ret, e_seq, e_block, e_reg_nil, e_cond, condK_true, condK_false, eo_move, eo_assign, eo_pick, eo_box, eo_load, eo_bin, eo_un, eo_fieldAddr, eo_indexAddr, eo_builtin, opK_some, e_guard, guardK_same, guardK_tf, guardK_ft, guardK_passed, eq_self, true_and, and_true, op_bin, b_add, b_lss, b_leq, b_gtr, List.map_cons, List.map_nil, op_move, op_assign, op_pick, pick_bool, op_un, un_not, Bool.not_false, Bool.not_true, load_e, cut_f, cut_t, List.getElem?_cons_zero, List.getElem?_cons_succ, List.length_cons, List.length_nil, List.drop_zero, List.drop_succ_cons, List.take_succ_cons, List.take_zero, len_vec, len_nil, ret_ret, ret_nrm, retV_some, pack1, pack2, res_nil, res_tmp, getT_setD, setD_none, getT_leaf, initTm_nil, initTm_cons, ev_tmp, ev_int, ev_bool, ev_str, ev_nilslice, int_int, Option.map_some, Option.map_none, cond_true, cond_false, if_true, if_false, reduceCtorEq, Nat.reduceEqDiff, Nat.reduceAdd, Nat.reduceSub, Nat.reduceMul, Nat.reduceBEq, Int.reduceLT, Int.reduceLE, Int.reduceToNat, Int.reduceBEq, Int.reduceBNe, decide_true, decide_false, reduceIte, load9, load22, index22, len22, load24, call9, r9_0, r9_1, r9_2, r9_3, r9_4, r9_5, r9_6, r9_7, r9_9, p9, c1, load_pb, h0, fld24_0, fld24_1, fld24_2, fld24_3, fld_p, Option.bind_some, Nat.zero_add, Nat.add_zero, lx, c2]
    exact ⟨by rw [smallF_eq]; have : ¬ t.args.length ≤ 4 := by omega
              simp [this], g0⟩
  have c2 : decide ((4 : Int) < ((t.args.length : Nat) : Int)) = false := by simp; omega
  have a2 : t.args.length ≤ 4 := by omega
  by_cases b3 : 60 < t.name.size
  · have c3 : decide ((60 : Int) < ((t.name.size : Nat) : Int)) = true := by simp; omega
    simp only [e_nil, e_skip, e_exit, e_ret, e_c_exit, e_blk_nrm, e_blk_exit, e_pop_ret, e_seq, e_block, e_reg_nil, e_cond, condK_true, condK_false, eo_move, eo_assign, eo_pick, eo_box, eo_load, eo_bin, eo_un, eo_fieldAddr, eo_indexAddr, eo_builtin, opK_some, e_guard, guardK_same, guardK_tf, guardK_ft, guardK_passed, eq_self, true_and, and_true, op_bin, b_add, b_lss, b_leq, b_gtr, List.map_cons, List.map_nil, op_move, op_assign, op_pick, pick_bool, op_un, un_not, Bool.not_false, Bool.not_true, load_e, cut_f, cut_t, List.getElem?_cons_zero, List.getElem?_cons_succ, List.length_cons, List.length_nil, List.drop_zero, List.drop_succ_cons, List.take_succ_cons, List.take_zero, len_vec, len_nil, ret_ret, ret_nrm, retV_some, pack1, pack2, res_nil, res_tmp, getT_setD, setD_none, getT_leaf, initTm_nil, initTm_cons, ev_tmp, ev_int, ev_bool, ev_str, ev_nilslice, int_int, Option.map_some, Option.map_none, cond_true, cond_false, if_true, if_false, reduceCtorEq, Nat.reduceEqDiff, Nat.reduceAdd, Nat.reduceSub, Nat.reduceMul, Nat.reduceBEq, Int.reduceLT, Int.reduceLE, Int.reduceToNat, Int.reduceBEq, Int.reduceBNe, decide_true, decide_false, reduceIte, load9, load22, index22, len22, load24, call9, r9_0, r9_1, r9_2, r9_3, r9_4, r9_5, r9_6, r9_7, r9_9, p9, c1, load_pb, h0, fld24_0, fld24_1, fld24_2, fld24_3, fld_p, Option.bind_some, Nat.zero_add, Nat.add_zero, lx, c2, len9, len9s, c3]
    exact ⟨by rw [smallF_eq]; have : ¬ t.name.size ≤ 60 := by omega
              simp [this], g0⟩
  have c3 : decide ((60 : Int) < ((t.name.size : Nat) : Int)) = false := by simp; omega
  have a3 : t.name.size ≤ 60 := by omega
  have hal : smallF t m = smallL t.args (m.tdiv 2) := by rw [smallF_eq]; simp [a1, a2, a3]
  have hq : IntKind.i64.wrap (m.tdiv 2) = m.tdiv 2 := by
    have : m.tdiv 2 = m / 2 := Int.tdiv_eq_ediv_of_nonneg hm0
    rw [this]
    exact wrap_i64 (by omega) (by omega)
  have hq0 : 0 ≤ m.tdiv 2 ∧ m.tdiv 2 ≤ 64 := by
    have : m.tdiv 2 = m / 2 := Int.tdiv_eq_ediv_of_nonneg hm0
    omega
  simp only [e_nil, e_skip, e_exit, e_ret, e_c_exit, e_blk_nrm, e_blk_exit, e_pop_ret, e_seq, e_block, e_reg_nil, e_cond, condK_true, condK_false, eo_move, eo_assign, eo_pick, eo_box, eo_load, eo_bin, eo_un, eo_fieldAddr, eo_indexAddr, eo_builtin, opK_some, e_guard, guardK_same, guardK_tf, guardK_ft, guardK_passed, eq_self, true_and, and_true, op_bin, b_add, b_lss, b_leq, b_gtr, List.map_cons, List.map_nil, op_move, op_assign, op_pick, pick_bool, op_un, un_not, Bool.not_false, Bool.not_true, load_e, cut_f, cut_t, List.getElem?_cons_zero, List.getElem?_cons_succ, List.length_cons, List.length_nil, List.drop_zero, List.drop_succ_cons, List.take_succ_cons, List.take_zero, len_vec, len_nil, ret_ret, ret_nrm, retV_some, pack1, pack2, res_nil, res_tmp, getT_setD, setD_none, getT_leaf, initTm_nil, initTm_cons, ev_tmp, ev_int, ev_bool, ev_str, ev_nilslice, int_int, Option.map_some, Option.map_none, cond_true, cond_false, if_true, if_false, reduceCtorEq, Nat.reduceEqDiff, Nat.reduceAdd, Nat.reduceSub, Nat.reduceMul, Nat.reduceBEq, Int.reduceLT, Int.reduceLE, Int.reduceToNat, Int.reduceBEq, Int.reduceBNe, decide_true, decide_false, reduceIte, load9, load22, index22, len22, load24, call9, r9_0, r9_1, r9_2, r9_3, r9_4, r9_5, r9_6, r9_7, r9_9, p9, c1, load_pb, h0, fld24_0, fld24_1, fld24_2, fld24_3, fld_p, Option.bind_some, Nat.zero_add, Nat.add_zero, lx, c2, len9, len9s, c3]
  refine e_loop (fun tm S' N => ∃ k : Nat, k ≤ t.args.length ∧ N = t.args.length - k ∧ smallL (t.args.drop k) (m.tdiv 2) = smallL t.args (m.tdiv 2) ∧ Grow S S' nilV ∧ S'.obj S.no = some [.sc (.int .i64 t.kind), .sc (.string t.name), .sc (.int .i64 t.var), x] ∧ S.no < S'.no ∧ getT tm 1 = .sc (.int .i64 m) ∧ getT tm 2 = .ptr S.no 0 ∧ getT tm 5 = .sc (.int .i64 (k : Int))) t.args.length ⟨0, by omega, by omega, rfl, g0, h0, n0, by simp [getT_setD]⟩ ?_
  rintro tm S' N ⟨k, hk, rfl, he, hG, ho, hno, t1, t2, t5⟩
  by_cases hlt : k < t.args.length
  case neg =>
    have hke : k = t.args.length := by omega
    rw [hke, List.drop_length] at he
    simp only [e_nil, e_skip, e_exit, e_ret, e_c_exit, e_blk_nrm, e_blk_exit, e_pop_ret, e_seq, e_block, e_reg_nil, e_cond, condK_true, condK_false, eo_move, eo_assign, eo_pick, eo_box, eo_load, eo_bin, eo_un, eo_fieldAddr, eo_indexAddr, eo_builtin, opK_some, e_guard, guardK_same, guardK_tf, guardK_ft, guardK_passed, eq_self, true_and, and_true, op_bin, b_add, b_lss, b_leq, b_gtr, List.map_cons, List.map_nil, op_move, op_assign, op_pick, pick_bool, op_un, un_not, Bool.not_false, Bool.not_true, load_e, cut_f, cut_t, List.getElem?_cons_zero, List.getElem?_cons_succ, List.length_cons, List.length_nil, List.drop_zero, List.drop_succ_cons, List.take_succ_cons, List.take_zero, len_vec, len_nil, ret_ret, ret_nrm, retV_some, pack1, pack2, res_nil, res_tmp, getT_setD, setD_none, getT_leaf, initTm_nil, initTm_cons, ev_tmp, ev_int, ev_bool, ev_str, ev_nilslice, int_int, Option.map_some, Option.map_none, cond_true, cond_false, if_true, if_false, reduceCtorEq, Nat.reduceEqDiff, Nat.reduceAdd, Nat.reduceSub, Nat.reduceMul, Nat.reduceBEq, Int.reduceLT, Int.reduceLE, Int.reduceToNat, Int.reduceBEq, Int.reduceBNe, decide_true, decide_false, reduceIte, load9, load22, index22, len22, load24, call9, b9_8, r9_0, r9_1, r9_2, r9_3, r9_4, r9_5, r9_6, r9_7, r9_9, p9, t1, t2, t5, load_pb, ho, fld24_3, fld_p, Option.bind_some, Nat.zero_add, Nat.add_zero, lx, dec_nlt hlt]
    exact ⟨by rw [hal, ← he]; rfl, hG⟩
  case pos =>
    obtain ⟨xa, hxa, hix⟩ := hx.at hlt
    rw [smallL_drop hlt] at he
    obtain ⟨r2, S2, e2, rfl, k2⟩ := ih t.args[k] (List.getElem_mem hlt) xa (m.tdiv 2) S' hxa hq0.1 hq0.2 hG.fresh
    simp only [tc] at e2
    have wk : IntKind.i64.wrap ((k : Int) + 1) = ((k + 1 : Nat) : Int) := by
      rw [wrap_i64 (by omega) (by omega)]; omega
    simp only [e_nil, e_skip, e_exit, e_ret, e_c_exit, e_blk_nrm, e_blk_exit, e_pop_ret, e_seq, e_block, e_reg_nil, e_cond, condK_true, condK_false, eo_move, eo_assign, eo_pick, eo_box, eo_load, eo_bin, eo_un, eo_fieldAddr, eo_indexAddr, eo_builtin, opK_some, e_guard, guardK_same, guardK_tf, guardK_ft, guardK_passed, eq_self, true_and, and_true, op_bin, b_add, b_lss, b_leq, b_gtr, List.map_cons, List.map_nil, op_move, op_assign, op_pick, pick_bool, op_un, un_not, Bool.not_false, Bool.not_true, load_e, cut_f, cut_t, List.getElem?_cons_zero, List.getElem?_cons_succ, List.length_cons, List.length_nil, List.drop_zero, List.drop_succ_cons, List.take_succ_cons, List.take_zero, len_vec, len_nil, ret_ret, ret_nrm, retV_some, pack1, pack2, res_nil, res_tmp, getT_setD, setD_none, getT_leaf, initTm_nil, initTm_cons, ev_tmp, ev_int, ev_bool, ev_str, ev_nilslice, int_int, Option.map_some, Option.map_none, cond_true, cond_false, if_true, if_false, reduceCtorEq, Nat.reduceEqDiff, Nat.reduceAdd, Nat.reduceSub, Nat.reduceMul, Nat.reduceBEq, Int.reduceLT, Int.reduceLE, Int.reduceToNat, Int.reduceBEq, Int.reduceBNe, decide_true, decide_false, reduceIte, load9, load22, index22, len22, load24, call9, b9_8, r9_0, r9_1, r9_2, r9_3, r9_4, r9_5, r9_6, r9_7, r9_9, p9, t1, t2, t5, load_pb, ho, fld24_3, fld_p, Option.bind_some, Nat.zero_add, Nat.add_zero, lx, dec_lt hlt, hix, tc, Nat.le_refl, b_quo2, hq]
    refine callK_of e2 ?_
    cases ha : smallF t.args[k] (m.tdiv 2) with
    | false =>
      rw [ha] at he
      simp only [e_nil, e_skip, e_exit, e_ret, e_c_exit, e_blk_nrm, e_blk_exit, e_pop_ret, e_seq, e_block, e_reg_nil, e_cond, condK_true, condK_false, eo_move, eo_assign, eo_pick, eo_box, eo_load, eo_bin, eo_un, eo_fieldAddr, eo_indexAddr, eo_builtin, opK_some, e_guard, guardK_same, guardK_tf, guardK_ft, guardK_passed, eq_self, true_and, and_true, op_bin, b_add, b_lss, b_leq, b_gtr, List.map_cons, List.map_nil, op_move, op_assign, op_pick, pick_bool, op_un, un_not, Bool.not_false, Bool.not_true, load_e, cut_f, cut_t, List.getElem?_cons_zero, List.getElem?_cons_succ, List.length_cons, List.length_nil, List.drop_zero, List.drop_succ_cons, List.take_succ_cons, List.take_zero, len_vec, len_nil, ret_ret, ret_nrm, retV_some, pack1, pack2, res_nil, res_tmp, getT_setD, setD_none, getT_leaf, initTm_nil, initTm_cons, ev_tmp, ev_int, ev_bool, ev_str, ev_nilslice, int_int, Option.map_some, Option.map_none, cond_true, cond_false, if_true, if_false, reduceCtorEq, Nat.reduceEqDiff, Nat.reduceAdd, Nat.reduceSub, Nat.reduceMul, Nat.reduceBEq, Int.reduceLT, Int.reduceLE, Int.reduceToNat, Int.reduceBEq, Int.reduceBNe, decide_true, decide_false, reduceIte, load9, load22, index22, len22, load24, call9, r9_0, r9_1, r9_2, r9_3, r9_4, r9_5, r9_6, r9_7, r9_9, p9]
      exact ⟨by rw [hal, ← he]; rfl, hG.two k2⟩
    | true =>
      rw [ha] at he
      simp only [e_nil, e_skip, e_exit, e_ret, e_c_exit, e_blk_nrm, e_blk_exit, e_pop_ret, e_seq, e_block, e_reg_nil, e_cond, condK_true, condK_false, eo_move, eo_assign, eo_pick, eo_box, eo_load, eo_bin, eo_un, eo_fieldAddr, eo_indexAddr, eo_builtin, opK_some, e_guard, guardK_same, guardK_tf, guardK_ft, guardK_passed, eq_self, true_and, and_true, op_bin, b_add, b_lss, b_leq, b_gtr, List.map_cons, List.map_nil, op_move, op_assign, op_pick, pick_bool, op_un, un_not, Bool.not_false, Bool.not_true, load_e, cut_f, cut_t, List.getElem?_cons_zero, List.getElem?_cons_succ, List.length_cons, List.length_nil, List.drop_zero, List.drop_succ_cons, List.take_succ_cons, List.take_zero, len_vec, len_nil, ret_ret, ret_nrm, retV_some, pack1, pack2, res_nil, res_tmp, getT_setD, setD_none, getT_leaf, initTm_nil, initTm_cons, ev_tmp, ev_int, ev_bool, ev_str, ev_nilslice, int_int, Option.map_some, Option.map_none, cond_true, cond_false, if_true, if_false, reduceCtorEq, Nat.reduceEqDiff, Nat.reduceAdd, Nat.reduceSub, Nat.reduceMul, Nat.reduceBEq, Int.reduceLT, Int.reduceLE, Int.reduceToNat, Int.reduceBEq, Int.reduceBNe, decide_true, decide_false, reduceIte, load9, load22, index22, len22, load24, call9, r9_0, r9_1, r9_2, r9_3, r9_4, r9_5, r9_6, r9_7, r9_9, p9, t1, t2, t5, wk]
      exact ⟨t.args.length - (k + 1), by omega, k + 1, by omega, rfl, by simpa using he, hG.two k2, k2.objs ho hno, Nat.lt_of_lt_of_le hno k2.no, by simp⟩

set_option maxHeartbeats 4000000 in
theorem same_ok : ∀ t : Ty, ∀ (x y : AV) (S : St), TyX t x → TyX t y → S.Fresh → ∃ r S', EvA E 19 [.agg (tc t x), .agg (tc t y)] S r S' ∧ r = .sc (.bool true) ∧ Grow S S' nilV := by
  refine ty_ind fun t ih x y S hx hy hS => ?_
  refine ev19 rfl ?_
  have lx : ∀ S, lenV x S = some (.sc (.int .i64 (t.args.length : Nat)), S) := fun S => hx.len S
  have ly : ∀ S, lenV y S = some (.sc (.int .i64 (t.args.length : Nat)), S) := fun S => hy.len S
  have g0 := ((Grow.refl hS nilV).born 24 (tc t x)).born 24 (tc t y)
  have h0 : ((S.born 24 (tc t x)).born 24 (tc t y)).obj S.no = some (tc t x) := by simp [born_obj, born_no]
  have h1 : ((S.born 24 (tc t x)).born 24 (tc t y)).obj (S.no + 1) = some (tc t y) := by simp [born_obj, born_no]
  have n0 : S.no + 1 < ((S.born 24 (tc t x)).born 24 (tc t y)).no := Nat.lt_succ_self _
  simp only [tc] at g0 h0 h1 n0
  simp only [e_nil, e_skip, e_exit, e_ret, e_c_exit, e_blk_nrm, e_blk_exit, e_pop_ret, e_seq, e_block, e_reg_nil, e_regD, e_cond, condK_true, condK_false, eo_move, eo_assign, eo_pick, eo_box, eo_load, eo_bin, eo_un, eo_fieldAddr, eo_indexAddr, eo_builtin, opK_some, e_guard, guardK_same, guardK_tf, guardK_ft, guardK_passed, eq_self, true_and, and_true, op_bin, b_add, b_neq, b_lss, List.map_cons, List.map_nil, op_move, op_assign, op_pick, pick_bool, op_un, un_not, Bool.not_false, Bool.not_true, load_e, cut_f, cut_t, List.getElem?_cons_zero, List.getElem?_cons_succ, List.length_cons, List.length_nil, List.drop_zero, List.drop_succ_cons, List.take_succ_cons, List.take_zero, len_vec, len_nil, ret_ret, ret_nrm, retV_some, pack1, pack2, res_nil, res_tmp, getT_setD, setD_none, getT_leaf, initTm_nil, initTm_cons, ev_tmp, ev_int, ev_bool, ev_str, ev_nilslice, int_int, Option.map_some, Option.map_none, cond_true, cond_false, if_true, if_false, reduceCtorEq, Nat.reduceEqDiff, Nat.reduceAdd, Nat.reduceSub, Nat.reduceMul, Nat.reduceBEq, Int.reduceLT, Int.reduceLE, Int.reduceToNat, Int.reduceBEq, Int.reduceBNe, decide_true, decide_false, reduceIte, load3, load9, load22, index22, len22, load24, call19, r19_0, r19_1, r19_2, r19_3, r19_4, r19_5, r19_6, r19_7, r19_8, r19_10, p19, tc, op_box, cells_agg, born_no]
  generalize (S.born 24 [.sc (.int .i64 t.kind), .sc (.string t.name), .sc (.int .i64 t.var), x]).born 24 [.sc (.int .i64 t.kind), .sc (.string t.name), .sc (.int .i64 t.var), y] = S0 at g0 h0 h1 n0
  have q1 : ∀ z : Int, (z != z) = false := fun z => by simp
  have q2 : (!(t.name.toList == t.name.toList)) = false := by simp
  simp only [e_nil, e_skip, e_exit, e_ret, e_c_exit, e_blk_nrm, e_blk_exit, e_pop_ret, e_seq, e_block, e_reg_nil, e_regD, e_cond, condK_true, condK_false, eo_move, eo_assign, eo_pick, eo_box, eo_load, eo_bin, eo_un, eo_fieldAddr, eo_indexAddr, eo_builtin, opK_some, e_guard, guardK_same, guardK_tf, guardK_ft, guardK_passed, eq_self, true_and, and_true, op_bin, b_add, b_neq, b_lss, List.map_cons, List.map_nil, op_move, op_assign, op_pick, pick_bool, op_un, un_not, Bool.not_false, Bool.not_true, load_e, cut_f, cut_t, List.getElem?_cons_zero, List.getElem?_cons_succ, List.length_cons, List.length_nil, List.drop_zero, List.drop_succ_cons, List.take_succ_cons, List.take_zero, len_vec, len_nil, ret_ret, ret_nrm, retV_some, pack1, pack2, res_nil, res_tmp, getT_setD, setD_none, getT_leaf, initTm_nil, initTm_cons, ev_tmp, ev_int, ev_bool, ev_str, ev_nilslice, int_int, Option.map_some, Option.map_none, cond_true, cond_false, if_true, if_false, reduceCtorEq, Nat.reduceEqDiff, Nat.reduceAdd, Nat.reduceSub, Nat.reduceMul, Nat.reduceBEq, Int.reduceLT, Int.reduceLE, Int.reduceToNat, Int.reduceBEq, Int.reduceBNe, decide_true, decide_false, reduceIte, load3, load9, load22, index22, len22, load24, call19, r19_0, r19_1, r19_2, r19_3, r19_4, r19_5, r19_6, r19_7, r19_8, r19_10, p19, load_pb, h0, h1, fld24_0, fld24_1, fld24_2, fld24_3, fld_p, Option.bind_some, Nat.zero_add, Nat.add_zero, lx, ly, q1, q2, b_nestr]
  refine e_loop (fun tm S' N => ∃ k : Nat, k ≤ t.args.length ∧ N = t.args.length - k ∧ Grow S S' nilV ∧ S'.obj S.no = some [.sc (.int .i64 t.kind), .sc (.string t.name), .sc (.int .i64 t.var), x] ∧ S'.obj (S.no + 1) = some [.sc (.int .i64 t.kind), .sc (.string t.name), .sc (.int .i64 t.var), y] ∧ S.no + 1 < S'.no ∧ getT tm 2 = .ptr S.no 0 ∧ getT tm 3 = .ptr (S.no + 1) 0 ∧ getT tm 36 = .sc (.int .i64 (t.args.length : Nat)) ∧ getT tm 37 = .sc (.int .i64 (k : Int))) t.args.length ⟨0, by omega, by omega, g0, h0, h1, n0, by simp [getT_setD]⟩ ?_
  rintro tm S' N ⟨k, hk, rfl, hG, ho, ho1, hno, t2, t3, t36, t37⟩
  by_cases hlt : k < t.args.length
  case neg =>
    simp only [e_nil, e_skip, e_exit, e_ret, e_c_exit, e_blk_nrm, e_blk_exit, e_pop_ret, e_seq, e_block, e_reg_nil, e_regD, e_cond, condK_true, condK_false, eo_move, eo_assign, eo_pick, eo_box, eo_load, eo_bin, eo_un, eo_fieldAddr, eo_indexAddr, eo_builtin, opK_some, e_guard, guardK_same, guardK_tf, guardK_ft, guardK_passed, eq_self, true_and, and_true, op_bin, b_add, b_neq, b_lss, List.map_cons, List.map_nil, op_move, op_assign, op_pick, pick_bool, op_un, un_not, Bool.not_false, Bool.not_true, load_e, cut_f, cut_t, List.getElem?_cons_zero, List.getElem?_cons_succ, List.length_cons, List.length_nil, List.drop_zero, List.drop_succ_cons, List.take_succ_cons, List.take_zero, len_vec, len_nil, ret_ret, ret_nrm, retV_some, pack1, pack2, res_nil, res_tmp, getT_setD, setD_none, getT_leaf, initTm_nil, initTm_cons, ev_tmp, ev_int, ev_bool, ev_str, ev_nilslice, int_int, Option.map_some, Option.map_none, cond_true, cond_false, if_true, if_false, reduceCtorEq, Nat.reduceEqDiff, Nat.reduceAdd, Nat.reduceSub, Nat.reduceMul, Nat.reduceBEq, Int.reduceLT, Int.reduceLE, Int.reduceToNat, Int.reduceBEq, Int.reduceBNe, decide_true, decide_false, reduceIte, load3, load9, load22, index22, len22, load24, call19, b19_9, r19_0, r19_1, r19_2, r19_3, r19_4, r19_5, r19_6, r19_7, r19_8, r19_10, p19, t2, t3, t36, t37, dec_nlt hlt]
    exact hG
  case pos =>
    obtain ⟨xa, hxa, hix⟩ := hx.at hlt
    obtain ⟨ya, hya, hiy⟩ := hy.at hlt
    have gr := Grow.raise hG.fresh 12 nilV
    obtain ⟨r2, S2, e2, rfl, k2⟩ := ih t.args[k] (List.getElem_mem hlt) xa ya (S'.raise 12) hxa hya gr.fresh
    simp only [tc] at e2
    have hor := gr.objs ho (by omega)
    have hor1 := gr.objs ho1 hno
    have k3 := gr.two k2
    have wk : IntKind.i64.wrap ((k : Int) + 1) = ((k + 1 : Nat) : Int) := by
      have := hx.lt
      rw [wrap_i64 (by omega) (by omega)]; omega
    simp only [e_nil, e_skip, e_exit, e_ret, e_c_exit, e_blk_nrm, e_blk_exit, e_pop_ret, e_seq, e_block, e_reg_nil, e_regD, e_cond, condK_true, condK_false, eo_move, eo_assign, eo_pick, eo_box, eo_load, eo_bin, eo_un, eo_fieldAddr, eo_indexAddr, eo_builtin, opK_some, e_guard, guardK_same, guardK_tf, guardK_ft, guardK_passed, eq_self, true_and, and_true, op_bin, b_add, b_neq, b_lss, List.map_cons, List.map_nil, op_move, op_assign, op_pick, pick_bool, op_un, un_not, Bool.not_false, Bool.not_true, load_e, cut_f, cut_t, List.getElem?_cons_zero, List.getElem?_cons_succ, List.length_cons, List.length_nil, List.drop_zero, List.drop_succ_cons, List.take_succ_cons, List.take_zero, len_vec, len_nil, ret_ret, ret_nrm, retV_some, pack1, pack2, res_nil, res_tmp, getT_setD, setD_none, getT_leaf, initTm_nil, initTm_cons, ev_tmp, ev_int, ev_bool, ev_str, ev_nilslice, int_int, Option.map_some, Option.map_none, cond_true, cond_false, if_true, if_false, reduceCtorEq, Nat.reduceEqDiff, Nat.reduceAdd, Nat.reduceSub, Nat.reduceMul, Nat.reduceBEq, Int.reduceLT, Int.reduceLE, Int.reduceToNat, Int.reduceBEq, Int.reduceBNe, decide_true, decide_false, reduceIte, load3, load9, load22, index22, len22, load24, call19, b19_9, r19_0, r19_1, r19_2, r19_3, r19_4, r19_5, r19_6, r19_7, r19_8, r19_10, p19, t2, t3, t36, t37, load_pb, hor, hor1, fld24_3, fld_p, Option.bind_some, Nat.zero_add, Nat.add_zero, dec_lt hlt, hix, hiy, tc, Nat.le_refl]
    refine callK_of e2 ?_
    simp only [e_nil, e_skip, e_exit, e_ret, e_c_exit, e_blk_nrm, e_blk_exit, e_pop_ret, e_seq, e_block, e_reg_nil, e_regD, e_cond, condK_true, condK_false, eo_move, eo_assign, eo_pick, eo_box, eo_load, eo_bin, eo_un, eo_fieldAddr, eo_indexAddr, eo_builtin, opK_some, e_guard, guardK_same, guardK_tf, guardK_ft, guardK_passed, eq_self, true_and, and_true, op_bin, b_add, b_neq, b_lss, List.map_cons, List.map_nil, op_move, op_assign, op_pick, pick_bool, op_un, un_not, Bool.not_false, Bool.not_true, load_e, cut_f, cut_t, List.getElem?_cons_zero, List.getElem?_cons_succ, List.length_cons, List.length_nil, List.drop_zero, List.drop_succ_cons, List.take_succ_cons, List.take_zero, len_vec, len_nil, ret_ret, ret_nrm, retV_some, pack1, pack2, res_nil, res_tmp, getT_setD, setD_none, getT_leaf, initTm_nil, initTm_cons, ev_tmp, ev_int, ev_bool, ev_str, ev_nilslice, int_int, Option.map_some, Option.map_none, cond_true, cond_false, if_true, if_false, reduceCtorEq, Nat.reduceEqDiff, Nat.reduceAdd, Nat.reduceSub, Nat.reduceMul, Nat.reduceBEq, Int.reduceLT, Int.reduceLE, Int.reduceToNat, Int.reduceBEq, Int.reduceBNe, decide_true, decide_false, reduceIte, load3, load9, load22, index22, len22, load24, call19, r19_0, r19_1, r19_2, r19_3, r19_4, r19_5, r19_6, r19_7, r19_8, r19_10, p19, t2, t3, t36, t37, wk]
    exact ⟨t.args.length - (k + 1), by omega, k + 1, by omega, rfl, hG.two k3, k3.objs ho (by omega), k3.objs ho1 hno, Nat.lt_of_lt_of_le hno k3.no, by simp⟩
end Go.Proofs.YtaacibffjmbfiaaDoor

namespace Go.Proofs.YtaacibffjmbfiaaDoor
open Go.Abs
def ints (l : List Int) : List AV := l.map fun z => .sc (.int .i64 z)
theorem ints_len (l : List Int) : (ints l).length = l.length := by simp [ints]
theorem ints_app (a b : List Int) : ints a ++ ints b = ints (a ++ b) := by simp [ints]
theorem ints_at {l : List Int} {k : Nat} (h : k < l.length) : (ints l)[k]? = some (.sc (.int .i64 l[k])) := by simp [ints, h]
theorem allSz_ints : ∀ l : List Int, allSz 1 (ints l) = true
  | [] => rfl
  | c :: l => by simp only [ints, List.map_cons, allSz, Bool.and_eq_true]; exact ⟨rfl, allSz_ints l⟩
def NewB (S : St) (X r : AV) : Prop := r = X ∨ ∃ id xs, r = .vec id 1 xs ∧ S.nid ≤ id
theorem NewB.or {S : St} {X r : AV} (h : NewB S X r) : r = X ∨ r = nilV ∨ ∃ id sz xs, r = .vec id sz xs ∧ S.nid ≤ id := by
  rcases h with h | ⟨id, xs, h, k⟩
  · exact .inl h
  · exact .inr (.inr ⟨id, 1, xs, h, k⟩)
theorem NewB.two {S S1 : St} {X Y Z : AV} (h : NewB S X Y) (k : NewB S1 Y Z) (hn : S.nid ≤ S1.nid) : NewB S X Z := by
  rcases k with rfl | ⟨id, xs, rfl, hk⟩
  · exact h
  · exact .inr ⟨id, xs, rfl, Nat.le_trans hn hk⟩
theorem append_int {X : AV} {l : List Int} {S : St} (hS : S.Fresh) (hX : OwnV S 3 1 X (ints l)) (hl : l.length ≤ 2 ^ 41) (c : Int) :
    (builtinA E false .append [32, 32] [X, .vec 1 1 [.sc (.int .i64 c)]] S = some (.vec S.nid 1 (ints (l ++ [c])), appS 3 S X)) ∧ OwnV (appS 3 S X) 3 1 (.vec S.nid 1 (ints (l ++ [c]))) (ints (l ++ [c])) := by
  have hap := app_own (S := S) (Y := .vec 1 1 [.sc (.int .i64 c)]) el32 und32 hS hX (IsV.vec 1 1 _) (by simp) rfl (by rw [ints_len]; simp; omega)
  have h1 : [AV.sc (.int .i64 c)] = ints [c] := rfl
  rw [h1, ints_app] at hap
  exact ⟨hap, appS_own hS hX⟩
theorem bs32i (n : Int) (S : St) : buildSliceA E 32 1 [(0, .sc (.int .i64 n))] S = some (.vec 1 1 [.sc (.int .i64 n)], S) := bs_one el32 rfl (by decide) rfl rfl rfl rfl
theorem lenI {X : AV} {l : List Int} {S : St} (h : IsV 1 X (ints l)) (S1 : St) : lenV X S1 = some (.sc (.int .i64 (l.length : Nat)), S1) := by rw [h.len, ints_len]
theorem idxI {X : AV} {l : List Int} (h : IsV 1 X (ints l)) {k : Nat} (hk : k < l.length) (S : St) : idxV 1 X (some (k : Int)) S = some (.eptr [.sc (.int .i64 l[k])] 0, S) := h.idx (ints_at hk) rfl S
theorem wrapK {k n : Nat} (h : k < n) (hn : n ≤ 2 ^ 63 - 1) : IntKind.i64.wrap ((k : Int) + 1) = ((k + 1 : Nat) : Int) := by
  rw [wrap_i64 (by omega) (by omega)]; omega
set_option maxHeartbeats 8000000 in
theorem vars_ok : ∀ t : Ty, ∀ (x X : AV) (l : List Int) (S : St), TyX t x → OwnV S 3 1 X (ints l) → l.length + szT t ≤ 2 ^ 40 → S.Fresh →
    ∃ r S', EvA E 36 [.agg (tc t x), X] S r S' ∧ OwnV S' 3 1 r (ints (varsF t l)) ∧ Grow S S' X ∧ NewB S X r := by
  refine ty_ind fun t ih x X l S hx hX hlen hS => ?_
  refine ev36 rfl ?_
  have lx : ∀ S, lenV x S = some (.sc (.int .i64 (t.args.length : Nat)), S) := fun S => hx.len S
  have lX : ∀ S, lenV X S = some (.sc (.int .i64 (l.length : Nat)), S) := fun S => lenI (S := S) hX.is S
  have g0 := (Grow.refl hS X).born 24 (tc t x)
  have h0 : (S.born 24 (tc t x)).obj S.no = some (tc t x) := by simp [born_obj]
  have n0 : S.no < (S.born 24 (tc t x)).no := Nat.lt_succ_self _
  have hX0 : OwnV (S.born 24 (tc t x)) 3 1 X (ints l) := hX
  simp only [tc] at g0 h0 n0 hX0
  simp only [e_nil, e_skip, e_exit, e_ret, e_c_exit, e_blk_nrm, e_blk_exit, e_pop_ret, e_seq, e_block, e_reg_nil, e_cond, condK_true, condK_false, eo_move, eo_assign, eo_alloc, eo_box, eo_buildSlice, eo_load, eo_store, eo_bin, eo_fieldAddr, eo_indexAddr, eo_builtin, opK_some, eq_self, true_and, and_true, op_bin, b_add, b_eql, b_lss, b_eqstr, List.map_cons, List.map_nil, op_move, op_assign, Bool.not_false, Bool.not_true, load_e, cut_f, cut_t, List.getElem?_cons_zero, List.getElem?_cons_succ, List.length_cons, List.length_nil, List.drop_zero, List.drop_succ_cons, List.take_succ_cons, List.take_zero, len_vec, len_nil, ret_ret, ret_nrm, retV_some, pack1, pack2, res_nil, res_tmp, getT_setD, setD_none, getT_leaf, initTm_nil, initTm_cons, ev_tmp, ev_int, ev_bool, ev_str, ev_nilslice, int_int, Option.map_some, Option.map_none, cond_true, cond_false, if_true, if_false, reduceCtorEq, Nat.reduceEqDiff, Nat.reduceAdd, Nat.reduceSub, Nat.reduceMul, Nat.reduceBEq, Int.reduceLT, Int.reduceLE, Int.reduceToNat, Int.reduceBEq, Int.reduceBNe, decide_true, decide_false, reduceIte, load3, load22, index22, len22, load24, store24, bs32, app32, index32, len32, call36, r36_0, r36_1, r36_2, r36_3, r36_4, r36_5, r36_6, r36_7, r36_9, r36_10, r36_11, r36_12, r36_13, r36_14, r36_16, p36, tc, op_box, cells_agg]
  generalize S.born 24 [.sc (.int .i64 t.kind), .sc (.string t.name), .sc (.int .i64 t.var), x] = S0 at g0 h0 n0 hX0
  by_cases b1 : t.kind = 7
  · have c1 : (t.kind == 7) = true := by simp [b1]
    simp only [e_nil, e_skip, e_exit, e_ret, e_c_exit, e_blk_nrm, e_blk_exit, e_pop_ret, e_seq, e_block, e_reg_nil, e_cond, condK_true, condK_false, eo_move, eo_assign, eo_alloc, eo_box, eo_buildSlice, eo_load, eo_store, eo_bin, eo_fieldAddr, eo_indexAddr, eo_builtin, opK_some, eq_self, true_and, and_true, op_bin, b_add, b_eql, b_lss, b_eqstr, List.map_cons, List.map_nil, op_move, op_assign, Bool.not_false, Bool.not_true, load_e, cut_f, cut_t, List.getElem?_cons_zero, List.getElem?_cons_succ, List.length_cons, List.length_nil, List.drop_zero, List.drop_succ_cons, List.take_succ_cons, List.take_zero, len_vec, len_nil, ret_ret, ret_nrm, retV_some, pack1, pack2, res_nil, res_tmp, getT_setD, setD_none, getT_leaf, initTm_nil, initTm_cons, ev_tmp, ev_int, ev_bool, ev_str, ev_nilslice, int_int, Option.map_some, Option.map_none, cond_true, cond_false, if_true, if_false, reduceCtorEq, Nat.reduceEqDiff, Nat.reduceAdd, Nat.reduceSub, Nat.reduceMul, Nat.reduceBEq, Int.reduceLT, Int.reduceLE, Int.reduceToNat, Int.reduceBEq, Int.reduceBNe, decide_true, decide_false, reduceIte, load3, load22, index22, len22, load24, store24, bs32, app32, index32, len32, call36, r36_0, r36_1, r36_2, r36_3, r36_4, r36_5, r36_6, r36_7, r36_9, r36_10, r36_11, r36_12, r36_13, r36_14, r36_16, p36, load_pb, h0, fld24_0, fld24_1, fld24_2, fld24_3, fld_p, Option.bind_some, Nat.zero_add, Nat.add_zero, c1, lX]
    refine e_loop (fun tm S' N => ∃ k : Nat, k ≤ l.length ∧ N = l.length - k ∧ (∀ z ∈ l.take k, z ≠ t.var) ∧ S' = S0 ∧ getT tm 1 = X ∧ getT tm 2 = .ptr S.no 0 ∧ getT tm 12 = X ∧ getT tm 13 = .sc (.int .i64 (l.length : Nat)) ∧ getT tm 14 = .sc (.int .i64 (k : Int))) l.length ⟨0, by omega, by omega, by simp, rfl, by simp [getT_setD]⟩ ?_
    rintro tm S' N ⟨k, hk, rfl, hne, rfl, t1, t2, t12, t13, t14⟩
    by_cases hlt : k < l.length
    case neg =>
      have hke : k = l.length := by omega
      have hnm : t.var ∉ l := by
        intro hm
        rw [hke, List.take_length] at hne
        exact hne _ hm rfl
      obtain ⟨hap, hO⟩ := append_int g0.fresh hX0 (by omega) t.var
      simp only [e_nil, e_skip, e_exit, e_ret, e_c_exit, e_blk_nrm, e_blk_exit, e_pop_ret, e_seq, e_block, e_reg_nil, e_cond, condK_true, condK_false, eo_move, eo_assign, eo_alloc, eo_box, eo_buildSlice, eo_load, eo_store, eo_bin, eo_fieldAddr, eo_indexAddr, eo_builtin, opK_some, eq_self, true_and, and_true, op_bin, b_add, b_eql, b_lss, b_eqstr, List.map_cons, List.map_nil, op_move, op_assign, Bool.not_false, Bool.not_true, load_e, cut_f, cut_t, List.getElem?_cons_zero, List.getElem?_cons_succ, List.length_cons, List.length_nil, List.drop_zero, List.drop_succ_cons, List.take_succ_cons, List.take_zero, len_vec, len_nil, ret_ret, ret_nrm, retV_some, pack1, pack2, res_nil, res_tmp, getT_setD, setD_none, getT_leaf, initTm_nil, initTm_cons, ev_tmp, ev_int, ev_bool, ev_str, ev_nilslice, int_int, Option.map_some, Option.map_none, cond_true, cond_false, if_true, if_false, reduceCtorEq, Nat.reduceEqDiff, Nat.reduceAdd, Nat.reduceSub, Nat.reduceMul, Nat.reduceBEq, Int.reduceLT, Int.reduceLE, Int.reduceToNat, Int.reduceBEq, Int.reduceBNe, decide_true, decide_false, reduceIte, load3, load22, index22, len22, load24, store24, bs32, app32, index32, len32, call36, b36_8, r36_0, r36_1, r36_2, r36_3, r36_4, r36_5, r36_6, r36_7, r36_9, r36_10, r36_11, r36_12, r36_13, r36_14, r36_16, p36, t1, t2, t12, t13, t14, dec_nlt hlt, load_pb, h0, fld24_2, fld_p, Option.bind_some, Nat.zero_add, Nat.add_zero, bs32i, hap]
      refine ⟨?_, g0.trans (Grow.app g0.fresh hX0) (.inl rfl), .inr ⟨_, _, rfl, g0.nid⟩⟩
      rw [varsF_eq, if_pos b1, if_neg hnm]
      exact hO
    case pos =>
      by_cases he : l[k] = t.var
      · have c2 : (l[k] == t.var) = true := by simpa using he
        simp only [e_nil, e_skip, e_exit, e_ret, e_c_exit, e_blk_nrm, e_blk_exit, e_pop_ret, e_seq, e_block, e_reg_nil, e_cond, condK_true, condK_false, eo_move, eo_assign, eo_alloc, eo_box, eo_buildSlice, eo_load, eo_store, eo_bin, eo_fieldAddr, eo_indexAddr, eo_builtin, opK_some, eq_self, true_and, and_true, op_bin, b_add, b_eql, b_lss, b_eqstr, List.map_cons, List.map_nil, op_move, op_assign, Bool.not_false, Bool.not_true, load_e, cut_f, cut_t, List.getElem?_cons_zero, List.getElem?_cons_succ, List.length_cons, List.length_nil, List.drop_zero, List.drop_succ_cons, List.take_succ_cons, List.take_zero, len_vec, len_nil, ret_ret, ret_nrm, retV_some, pack1, pack2, res_nil, res_tmp, getT_setD, setD_none, getT_leaf, initTm_nil, initTm_cons, ev_tmp, ev_int, ev_bool, ev_str, ev_nilslice, int_int, Option.map_some, Option.map_none, cond_true, cond_false, if_true, if_false, reduceCtorEq, Nat.reduceEqDiff, Nat.reduceAdd, Nat.reduceSub, Nat.reduceMul, Nat.reduceBEq, Int.reduceLT, Int.reduceLE, Int.reduceToNat, Int.reduceBEq, Int.reduceBNe, decide_true, decide_false, reduceIte, load3, load22, index22, len22, load24, store24, bs32, app32, index32, len32, call36, b36_8, r36_0, r36_1, r36_2, r36_3, r36_4, r36_5, r36_6, r36_7, r36_9, r36_10, r36_11, r36_12, r36_13, r36_14, r36_16, p36, t1, t2, t12, t13, t14, dec_lt hlt, idxI hX.is hlt, load_pb, h0, fld24_2, fld_p, Option.bind_some, Nat.zero_add, Nat.add_zero, c2]
        refine ⟨?_, g0, .inl rfl⟩
        rw [varsF_eq, if_pos b1, if_pos (by rw [← he]; exact List.getElem_mem hlt)]
        exact hX0
      · have c2 : (l[k] == t.var) = false := by simpa using he
        have wk := wrapK hlt (by omega)
        simp only [e_nil, e_skip, e_exit, e_ret, e_c_exit, e_blk_nrm, e_blk_exit, e_pop_ret, e_seq, e_block, e_reg_nil, e_cond, condK_true, condK_false, eo_move, eo_assign, eo_alloc, eo_box, eo_buildSlice, eo_load, eo_store, eo_bin, eo_fieldAddr, eo_indexAddr, eo_builtin, opK_some, eq_self, true_and, and_true, op_bin, b_add, b_eql, b_lss, b_eqstr, List.map_cons, List.map_nil, op_move, op_assign, Bool.not_false, Bool.not_true, load_e, cut_f, cut_t, List.getElem?_cons_zero, List.getElem?_cons_succ, List.length_cons, List.length_nil, List.drop_zero, List.drop_succ_cons, List.take_succ_cons, List.take_zero, len_vec, len_nil, ret_ret, ret_nrm, retV_some, pack1, pack2, res_nil, res_tmp, getT_setD, setD_none, getT_leaf, initTm_nil, initTm_cons, ev_tmp, ev_int, ev_bool, ev_str, ev_nilslice, int_int, Option.map_some, Option.map_none, cond_true, cond_false, if_true, if_false, reduceCtorEq, Nat.reduceEqDiff, Nat.reduceAdd, Nat.reduceSub, Nat.reduceMul, Nat.reduceBEq, Int.reduceLT, Int.reduceLE, Int.reduceToNat, Int.reduceBEq, Int.reduceBNe, decide_true, decide_false, reduceIte, load3, load22, index22, len22, load24, store24, bs32, app32, index32, len32, call36, b36_8, r36_0, r36_1, r36_2, r36_3, r36_4, r36_5, r36_6, r36_7, r36_9, r36_10, r36_11, r36_12, r36_13, r36_14, r36_16, p36, t1, t2, t12, t13, t14, dec_lt hlt, idxI hX.is hlt, load_pb, h0, fld24_2, fld_p, Option.bind_some, Nat.zero_add, Nat.add_zero, c2, wk]
        refine ⟨l.length - (k + 1), by omega, k + 1, by omega, rfl, ?_, by simp [t1, t2, t12, t13]⟩
        intro z hz
        rw [List.take_add_one, List.getElem?_eq_getElem hlt] at hz
        rcases List.mem_append.1 hz with hz | hz
        · exact hne z hz
        · simp at hz; rw [hz]; exact he
  · have c1 : (t.kind == 7) = false := by simp [b1]
    have hvf : varsF t l = varsL t.args l := by rw [varsF_eq, if_neg b1]
    have hsz := szT_eq t
    simp only [e_nil, e_skip, e_exit, e_ret, e_c_exit, e_blk_nrm, e_blk_exit, e_pop_ret, e_seq, e_block, e_reg_nil, e_cond, condK_true, condK_false, eo_move, eo_assign, eo_alloc, eo_box, eo_buildSlice, eo_load, eo_store, eo_bin, eo_fieldAddr, eo_indexAddr, eo_builtin, opK_some, eq_self, true_and, and_true, op_bin, b_add, b_eql, b_lss, b_eqstr, List.map_cons, List.map_nil, op_move, op_assign, Bool.not_false, Bool.not_true, load_e, cut_f, cut_t, List.getElem?_cons_zero, List.getElem?_cons_succ, List.length_cons, List.length_nil, List.drop_zero, List.drop_succ_cons, List.take_succ_cons, List.take_zero, len_vec, len_nil, ret_ret, ret_nrm, retV_some, pack1, pack2, res_nil, res_tmp, getT_setD, setD_none, getT_leaf, initTm_nil, initTm_cons, ev_tmp, ev_int, ev_bool, ev_str, ev_nilslice, int_int, Option.map_some, Option.map_none, cond_true, cond_false, if_true, if_false, reduceCtorEq, Nat.reduceEqDiff, Nat.reduceAdd, Nat.reduceSub, Nat.reduceMul, Nat.reduceBEq, Int.reduceLT, Int.reduceLE, Int.reduceToNat, Int.reduceBEq, Int.reduceBNe, decide_true, decide_false, reduceIte, load3, load22, index22, len22, load24, store24, bs32, app32, index32, len32, call36, r36_0, r36_1, r36_2, r36_3, r36_4, r36_5, r36_6, r36_7, r36_9, r36_10, r36_11, r36_12, r36_13, r36_14, r36_16, p36, load_pb, h0, fld24_0, fld24_1, fld24_2, fld24_3, fld_p, Option.bind_some, Nat.zero_add, Nat.add_zero, c1, lx]
    refine e_loop (fun tm S' N => ∃ (k : Nat) (X1 : AV) (l1 : List Int), k ≤ t.args.length ∧ N = t.args.length - k ∧ varsL (t.args.drop k) l1 = varsL t.args l ∧ l1.length + szL (t.args.drop k) ≤ 2 ^ 40 ∧ OwnV S' 3 1 X1 (ints l1) ∧ Grow S S' X ∧ NewB S X X1 ∧
      getT tm 1 = X1 ∧ getT tm 30 = x ∧ getT tm 31 = .sc (.int .i64 (t.args.length : Nat)) ∧ getT tm 32 = .sc (.int .i64 (k : Int))) t.args.length ⟨0, X, l, by omega, by omega, rfl, by simp only [List.drop_zero]; omega, hX0, g0, .inl rfl, by simp [getT_setD]⟩ ?_
    rintro tm S' N ⟨k, X1, l1, hk, rfl, he, hl1, hO, hG, hN, t1, t30, t31, t32⟩
    by_cases hlt : k < t.args.length
    case neg =>
      have hke : k = t.args.length := by omega
      rw [hke, List.drop_length] at he
      simp only [varsL] at he
      simp only [e_nil, e_skip, e_exit, e_ret, e_c_exit, e_blk_nrm, e_blk_exit, e_pop_ret, e_seq, e_block, e_reg_nil, e_cond, condK_true, condK_false, eo_move, eo_assign, eo_alloc, eo_box, eo_buildSlice, eo_load, eo_store, eo_bin, eo_fieldAddr, eo_indexAddr, eo_builtin, opK_some, eq_self, true_and, and_true, op_bin, b_add, b_eql, b_lss, b_eqstr, List.map_cons, List.map_nil, op_move, op_assign, Bool.not_false, Bool.not_true, load_e, cut_f, cut_t, List.getElem?_cons_zero, List.getElem?_cons_succ, List.length_cons, List.length_nil, List.drop_zero, List.drop_succ_cons, List.take_succ_cons, List.take_zero, len_vec, len_nil, ret_ret, ret_nrm, retV_some, pack1, pack2, res_nil, res_tmp, getT_setD, setD_none, getT_leaf, initTm_nil, initTm_cons, ev_tmp, ev_int, ev_bool, ev_str, ev_nilslice, int_int, Option.map_some, Option.map_none, cond_true, cond_false, if_true, if_false, reduceCtorEq, Nat.reduceEqDiff, Nat.reduceAdd, Nat.reduceSub, Nat.reduceMul, Nat.reduceBEq, Int.reduceLT, Int.reduceLE, Int.reduceToNat, Int.reduceBEq, Int.reduceBNe, decide_true, decide_false, reduceIte, load3, load22, index22, len22, load24, store24, bs32, app32, index32, len32, call36, b36_15, r36_0, r36_1, r36_2, r36_3, r36_4, r36_5, r36_6, r36_7, r36_9, r36_10, r36_11, r36_12, r36_13, r36_14, r36_16, p36, t1, t30, t31, t32, dec_nlt hlt]
      exact ⟨by rw [hvf, ← he]; exact hO, hG, hN⟩
    case pos =>
      obtain ⟨xa, hxa, hix⟩ := hx.at hlt
      rw [varsL_drop hlt] at he
      rw [szL_drop hlt] at hl1
      have hoc := hxa.okc
      have gb := (hG.born 24 z24).put S'.no (.cells (tc t.args[k] xa)) hG.no
      have hO1 : OwnV ((S'.born 24 z24).put S'.no (.cells (tc t.args[k] xa))) 3 1 X1 (ints l1) := hO
      obtain ⟨r2, S2, e2, o2, k2, nb2⟩ := ih t.args[k] (List.getElem_mem hlt) xa X1 l1 _ hxa hO1 (by omega) gb.fresh
      simp only [z24, tc] at gb e2 hO1 k2 nb2
      have wk := wrapK hlt (by have := hx.lt; omega)
      have hvl := vars_len t.args[k] l1
      simp only [e_nil, e_skip, e_exit, e_ret, e_c_exit, e_blk_nrm, e_blk_exit, e_pop_ret, e_seq, e_block, e_reg_nil, e_cond, condK_true, condK_false, eo_move, eo_assign, eo_alloc, eo_box, eo_buildSlice, eo_load, eo_store, eo_bin, eo_fieldAddr, eo_indexAddr, eo_builtin, opK_some, eq_self, true_and, and_true, op_bin, b_add, b_eql, b_lss, b_eqstr, List.map_cons, List.map_nil, op_move, op_assign, Bool.not_false, Bool.not_true, load_e, cut_f, cut_t, List.getElem?_cons_zero, List.getElem?_cons_succ, List.length_cons, List.length_nil, List.drop_zero, List.drop_succ_cons, List.take_succ_cons, List.take_zero, len_vec, len_nil, ret_ret, ret_nrm, retV_some, pack1, pack2, res_nil, res_tmp, getT_setD, setD_none, getT_leaf, initTm_nil, initTm_cons, ev_tmp, ev_int, ev_bool, ev_str, ev_nilslice, int_int, Option.map_some, Option.map_none, cond_true, cond_false, if_true, if_false, reduceCtorEq, Nat.reduceEqDiff, Nat.reduceAdd, Nat.reduceSub, Nat.reduceMul, Nat.reduceBEq, Int.reduceLT, Int.reduceLE, Int.reduceToNat, Int.reduceBEq, Int.reduceBNe, decide_true, decide_false, reduceIte, load3, load22, index22, len22, load24, store24, bs32, app32, index32, len32, call36, b36_15, r36_0, r36_1, r36_2, r36_3, r36_4, r36_5, r36_6, r36_7, r36_9, r36_10, r36_11, r36_12, r36_13, r36_14, r36_16, p36, t1, t30, t31, t32, dec_lt hlt, hix, tc, alloc24, z24, st24 _ _ _ _ _ _ hoc, born_obj, put_obj, load_pb, Option.bind_some, Nat.le_refl, List.drop_nil, Nat.zero_add]
      refine callK_of e2 ?_
      simp only [e_nil, e_skip, e_exit, e_ret, e_c_exit, e_blk_nrm, e_blk_exit, e_pop_ret, e_seq, e_block, e_reg_nil, e_cond, condK_true, condK_false, eo_move, eo_assign, eo_alloc, eo_box, eo_buildSlice, eo_load, eo_store, eo_bin, eo_fieldAddr, eo_indexAddr, eo_builtin, opK_some, eq_self, true_and, and_true, op_bin, b_add, b_eql, b_lss, b_eqstr, List.map_cons, List.map_nil, op_move, op_assign, Bool.not_false, Bool.not_true, load_e, cut_f, cut_t, List.getElem?_cons_zero, List.getElem?_cons_succ, List.length_cons, List.length_nil, List.drop_zero, List.drop_succ_cons, List.take_succ_cons, List.take_zero, len_vec, len_nil, ret_ret, ret_nrm, retV_some, pack1, pack2, res_nil, res_tmp, getT_setD, setD_none, getT_leaf, initTm_nil, initTm_cons, ev_tmp, ev_int, ev_bool, ev_str, ev_nilslice, int_int, Option.map_some, Option.map_none, cond_true, cond_false, if_true, if_false, reduceCtorEq, Nat.reduceEqDiff, Nat.reduceAdd, Nat.reduceSub, Nat.reduceMul, Nat.reduceBEq, Int.reduceLT, Int.reduceLE, Int.reduceToNat, Int.reduceBEq, Int.reduceBNe, decide_true, decide_false, reduceIte, load3, load22, index22, len22, load24, store24, bs32, app32, index32, len32, call36, r36_0, r36_1, r36_2, r36_3, r36_4, r36_5, r36_6, r36_7, r36_9, r36_10, r36_11, r36_12, r36_13, r36_14, r36_16, p36, t1, t30, t31, t32, wk]
      exact ⟨t.args.length - (k + 1), by omega, k + 1, r2, varsF t.args[k] l1, by omega, rfl, he, by omega, o2, gb.trans k2 hN.or, hN.two nb2 gb.nid, by simp [t30, t31]⟩
end Go.Proofs.YtaacibffjmbfiaaDoor

namespace Go.Proofs.YtaacibffjmbfiaaDoor
open Go.Abs
theorem vars14_ok (t : Ty) (x : AV) (S : St) (hx : TyX t x) (hs : szT t ≤ 2 ^ 30) (hS : S.Fresh) : ∃ r S', EvA E 14 [.agg (tc t x)] S r S' ∧ OwnV S' 3 1 r (ints (varsF t [])) ∧ Grow S S' nilV ∧ NewB S nilV r := by
  refine ev14 rfl ?_
  have g0 := (Grow.refl hS nilV).born 24 (tc t x)
  obtain ⟨r1, S1, e1, o1, k1, nb⟩ := vars_ok t x nilV [] _ hx (.inl ⟨rfl, rfl⟩) (by simp; omega) g0.fresh
  simp only [tc] at e1 g0 o1 k1 nb
  simp only [e_nil, e_skip, e_exit, e_ret, e_c_exit, e_blk_nrm, e_blk_exit, e_pop_ret, e_seq, e_block, e_reg_nil, e_cond, condK_true, condK_false, eo_assign, eo_box, eo_load, opK_some, eq_self, true_and, and_true, List.map_cons, List.map_nil, op_assign, Bool.not_false, Bool.not_true, load_e, cut_f, cut_t, List.getElem?_cons_zero, List.getElem?_cons_succ, List.length_cons, List.length_nil, List.drop_zero, List.drop_succ_cons, List.take_succ_cons, List.take_zero, len_vec, len_nil, ret_ret, ret_nrm, retV_some, pack1, pack2, res_nil, res_tmp, getT_setD, setD_none, getT_leaf, initTm_nil, initTm_cons, ev_tmp, ev_int, ev_bool, ev_str, ev_nilslice, int_int, Option.map_some, Option.map_none, cond_true, cond_false, if_true, if_false, reduceCtorEq, Nat.reduceEqDiff, Nat.reduceAdd, Nat.reduceSub, Nat.reduceMul, Nat.reduceBEq, Int.reduceLT, Int.reduceLE, Int.reduceToNat, Int.reduceBEq, Int.reduceBNe, decide_true, decide_false, reduceIte, load24, call36, r14_0, r14_1, p14, tc, op_box, cells_agg, load_pb, born_obj, Option.bind_some, Nat.zero_add, Nat.le_refl]
  refine callK_of e1 ?_
  simp only [e_nil, e_skip, e_exit, e_ret, e_c_exit, e_blk_nrm, e_blk_exit, e_pop_ret, e_seq, e_block, e_reg_nil, e_cond, condK_true, condK_false, eo_assign, eo_box, eo_load, opK_some, eq_self, true_and, and_true, List.map_cons, List.map_nil, op_assign, Bool.not_false, Bool.not_true, load_e, cut_f, cut_t, List.getElem?_cons_zero, List.getElem?_cons_succ, List.length_cons, List.length_nil, List.drop_zero, List.drop_succ_cons, List.take_succ_cons, List.take_zero, len_vec, len_nil, ret_ret, ret_nrm, retV_some, pack1, pack2, res_nil, res_tmp, getT_setD, setD_none, getT_leaf, initTm_nil, initTm_cons, ev_tmp, ev_int, ev_bool, ev_str, ev_nilslice, int_int, Option.map_some, Option.map_none, cond_true, cond_false, if_true, if_false, reduceCtorEq, Nat.reduceEqDiff, Nat.reduceAdd, Nat.reduceSub, Nat.reduceMul, Nat.reduceBEq, Int.reduceLT, Int.reduceLE, Int.reduceToNat, Int.reduceBEq, Int.reduceBNe, decide_true, decide_false, reduceIte, load24, call36, r14_0, r14_1, p14]
  exact ⟨o1, g0.two k1, NewB.two (.inl rfl) nb (g0.nid)⟩
theorem okn : okCell (.sc (.slice none 0 0)) = true := rfl
def vT (n : Int) : List AV := [.sc (.int .i64 7), .sc (.string ⟨#[]⟩), .sc (.int .i64 n), .sc (.slice none 0 0)]
def vTy (n : Int) : Ty := .mk 7 ⟨#[]⟩ n []
theorem tyX_v (n : Int) : TyX (vTy n) nilV := ⟨[], .nil 4, rfl, by simp [vTy, Ty.args]⟩
theorem tc_v (n : Int) : tc (vTy n) nilV = vT n := rfl
theorem bld24_v (n : Int) (S : St) : buildA E 24 [(0, .sc (.int .i64 7)), (2, .sc (.int .i64 n))] S = some (.agg (vT n), S) := by kernel_rfl
theorem res24 {tm : PM AV} {S : St} (t : Nat) (l : List ResultVar) : resAll E tm S (.cell t 24 :: l) = (loadC true 4 (getT tm t) S).bind fun q => (resAll E tm S l).map (q.1 :: ·) := res_cell t 24 l (de := (E.und 24).getD .string) (i := (E.inf 24).getD default) (by kernel_rfl) (by kernel_rfl) (by kernel_rfl) (by kernel_rfl)
theorem res34 {tm : PM AV} {S : St} (t : Nat) (l : List ResultVar) : resAll E tm S (.cell t 34 :: l) = (loadC true 5 (getT tm t) S).bind fun q => (resAll E tm S l).map (q.1 :: ·) := res_cell t 34 l (de := (E.und 34).getD .string) (i := (E.inf 34).getD default) (by kernel_rfl) (by kernel_rfl) (by kernel_rfl) (by kernel_rfl)
theorem v_ok (n : Int) (S : St) (hS : S.Fresh) : ∃ r S', EvA E 20 [.sc (.int .i64 n)] S r S' ∧ r = .agg (vT n) ∧ Grow S S' nilV := by
  refine ev20 rfl ?_
  have g0 := ((Grow.refl hS nilV).born 24 z24).put S.no (.cells (vT n)) (Nat.le_refl _)
  simp only [z24, vT] at g0
  simp only [e_nil, e_skip, e_exit, e_ret, e_c_exit, e_blk_nrm, e_blk_exit, e_pop_ret, e_seq, e_block, e_reg_nil, e_cond, condK_true, condK_false, eo_move, eo_alloc, eo_build, eo_store, opK_some, eq_self, true_and, and_true, List.map_cons, List.map_nil, op_move, Bool.not_false, Bool.not_true, load_e, cut_f, cut_t, List.getElem?_cons_zero, List.getElem?_cons_succ, List.length_cons, List.length_nil, List.drop_zero, List.drop_succ_cons, List.take_succ_cons, List.take_zero, len_vec, len_nil, ret_ret, ret_nrm, retV_some, pack1, pack2, res_nil, res_tmp, getT_setD, setD_none, getT_leaf, initTm_nil, initTm_cons, ev_tmp, ev_int, ev_bool, ev_str, ev_nilslice, int_int, Option.map_some, Option.map_none, cond_true, cond_false, if_true, if_false, reduceCtorEq, Nat.reduceEqDiff, Nat.reduceAdd, Nat.reduceSub, Nat.reduceMul, Nat.reduceBEq, Int.reduceLT, Int.reduceLE, Int.reduceToNat, Int.reduceBEq, Int.reduceBNe, decide_true, decide_false, reduceIte, store24, r20_0, r20_1, p20, alloc24, z24, op_build, bld24_v, vT, st24 _ _ _ _ _ _ okn, born_obj, put_obj, load_pb, Option.bind_some, Nat.zero_add, Nat.le_refl, List.drop_nil, res24]
  exact g0

/-- Schemes. -/
def z34 : List AV := [.sc (.slice none 0 0), .sc (.int .i64 0), .sc (.string ⟨#[]⟩), .sc (.int .i64 0), .sc (.slice none 0 0)]
theorem alloc34 {tm : PM AV} {S : St} {d : Option Tmp} : opV E tm d (.alloc 34) S = some (.ptr S.no 0, S.born 34 z34) := alloc_of (by kernel_rfl)
def sc5 (X : AV) (t : Ty) (x : AV) : List AV := [X, .sc (.int .i64 t.kind), .sc (.string t.name), .sc (.int .i64 t.var), x]
theorem st34 (l : Nat) (a v : Int) (n : ByteArray) (X x : AV) (S : St) (hX : okCell X = true) (hx : okCell x = true) : storeC 5 (.ptr l 0) (.agg [X, .sc (.int .i64 a), .sc (.string n), .sc (.int .i64 v), x]) S = (S.obj l).bind fun cs => if 5 ≤ cs.length then some (passed, S.put l (.cells (X :: .sc (.int .i64 a) :: .sc (.string n) :: .sc (.int .i64 v) :: x :: cs.drop 5))) else none :=
  store_agg 5 l _ (by simp only [List.all_cons, List.all_nil, hx, hX]; rfl)
theorem bld34_1 (k v : Int) (n : ByteArray) (x : AV) (S : St) : buildA E 34 [(1, .agg [.sc (.int .i64 k), .sc (.string n), .sc (.int .i64 v), x])] S = some (.agg [nilV, .sc (.int .i64 k), .sc (.string n), .sc (.int .i64 v), x], S) := by kernel_rfl
theorem mono_ok (t : Ty) (x : AV) (S : St) (hx : TyX t x) (hS : S.Fresh) : ∃ r S', EvA E 18 [.agg (tc t x)] S r S' ∧ r = .agg (sc5 nilV t x) ∧ Grow S S' nilV := by
  refine ev18 rfl ?_
  have g0 := ((((Grow.refl hS nilV).born 24 (tc t x)).born 34 z34).put (S.no + 1) (.cells (sc5 nilV t x)) (Nat.le_succ _))
  have hoc := hx.okc
  simp only [z34, tc, sc5] at g0
  have n1 : (S.no = S.no + 1) = False := by simp
  simp only [e_nil, e_skip, e_exit, e_ret, e_c_exit, e_blk_nrm, e_blk_exit, e_pop_ret, e_seq, e_block, e_reg_nil, e_cond, condK_true, condK_false, eo_alloc, eo_box, eo_build, eo_load, eo_store, opK_some, eq_self, true_and, and_true, List.map_cons, List.map_nil, Bool.not_false, Bool.not_true, load_e, cut_f, cut_t, List.getElem?_cons_zero, List.getElem?_cons_succ, List.length_cons, List.length_nil, List.drop_zero, List.drop_succ_cons, List.take_succ_cons, List.take_zero, len_vec, len_nil, ret_ret, ret_nrm, retV_some, pack1, pack2, res_nil, res_tmp, getT_setD, setD_none, getT_leaf, initTm_nil, initTm_cons, ev_tmp, ev_int, ev_bool, ev_str, ev_nilslice, int_int, Option.map_some, Option.map_none, cond_true, cond_false, if_true, if_false, reduceCtorEq, Nat.reduceEqDiff, Nat.reduceAdd, Nat.reduceSub, Nat.reduceMul, Nat.reduceBEq, Int.reduceLT, Int.reduceLE, Int.reduceToNat, Int.reduceBEq, Int.reduceBNe, decide_true, decide_false, reduceIte, load24, store34, r18_0, r18_1, p18, tc, op_box, cells_agg, alloc34, z34, op_build, bld34_1, st34 _ _ _ _ _ _ _ okn hoc, born_obj, born_no, put_obj, load_pb, Option.bind_some, Nat.zero_add, Nat.le_refl, List.drop_nil, res34, n1, sc5]
  exact g0

/-- What a Sub is: nothing told, n handed out. -/
structure SubAt (S : St) (p m : Nat) (n : Int) : Prop where
  obj : S.obj p = some [.sc (.int .i64 n), .mp m]
  mp : S.IsMp m []
  lp : p < S.no
  lm : m < S.no
  ne : m ≠ p
theorem SubAt.grow {S S' : St} {p m : Nat} {n : Int} {x : AV} (h : SubAt S p m n) (g : Grow S S' x) : SubAt S' p m n := ⟨g.objs h.obj h.lp, g.isMp h.mp h.lm, Nat.lt_of_lt_of_le h.lp g.no, Nat.lt_of_lt_of_le h.lm g.no, h.ne⟩
theorem bld72_1 (m : Nat) (S : St) : buildA E 72 [(1, .mp m)] S = some (.agg [.sc (.int .i64 0), .mp m], S) := by kernel_rfl
theorem new_ok (S : St) (hS : S.Fresh) : ∃ r S', EvA E 11 [] S r S' ∧ (∃ p m, r = .ptr p 0 ∧ SubAt S' p m 0 ∧ S.no ≤ p) ∧ Grow S S' nilV := by
  refine ev11 rfl ?_
  have g0 := ((Grow.refl hS nilV).bornMap).born 72 [.sc (.int .i64 0), .mp S.no]
  simp only [e_nil, e_skip, e_exit, e_ret, e_c_exit, e_blk_nrm, e_blk_exit, e_pop_ret, e_seq, e_block, e_reg_nil, e_cond, condK_true, condK_false, eo_assign, eo_box, eo_build, eo_makeMap, opK_some, eq_self, true_and, and_true, List.map_cons, List.map_nil, op_assign, Bool.not_false, Bool.not_true, load_e, cut_f, cut_t, List.getElem?_cons_zero, List.getElem?_cons_succ, List.length_cons, List.length_nil, List.drop_zero, List.drop_succ_cons, List.take_succ_cons, List.take_zero, len_vec, len_nil, ret_ret, ret_nrm, retV_some, pack1, pack2, res_nil, res_tmp, getT_setD, setD_none, getT_leaf, initTm_nil, initTm_cons, ev_tmp, ev_int, ev_bool, ev_str, ev_nilslice, int_int, Option.map_some, Option.map_none, cond_true, cond_false, if_true, if_false, reduceCtorEq, Nat.reduceEqDiff, Nat.reduceAdd, Nat.reduceSub, Nat.reduceMul, Nat.reduceBEq, Int.reduceLT, Int.reduceLE, Int.reduceToNat, Int.reduceBEq, Int.reduceBNe, decide_true, decide_false, reduceIte, r11_0, r11_1, p11, op_makeMap, op_build, bld72_1, op_box, cells_agg, bornMap_no]
  refine ⟨⟨S.no + 1, S.no, rfl, ⟨?_, ?_, ?_, ?_, ?_⟩, by omega⟩, g0⟩
  · simp [born_obj, bornMap_no]
  · exact born_mp 72 _ _ _ bornMap_mp (by rw [bornMap_no]; omega)
  · simp [born_no, bornMap_no]
  · simp [born_no, bornMap_no]; omega
  · omega
def nextF (n : Int) : Int := if 1999 < n + 1 then 1999 else n + 1
theorem fld72_0 {tm : PM AV} {S : St} {d : Option Tmp} (x : Operand) : opV E tm d (.fieldAddr 72 x 0) S = fldV 0 (E.ev tm x) S := field_chk 72 0 0 (by kernel_rfl) x
theorem fld72_1 {tm : PM AV} {S : St} {d : Option Tmp} (x : Operand) : opV E tm d (.fieldAddr 72 x 1) S = fldV 1 (E.ev tm x) S := field_chk 72 1 1 (by kernel_rfl) x
set_option maxHeartbeats 4000000 in
theorem fresh_ok (p m : Nat) (n : Int) (S : St) (hs : SubAt S p m n) (hn : 0 ≤ n ∧ n ≤ 1999) (hS : S.Fresh) : ∃ r S', EvA E 12 [.ptr p 0] S r S' ∧ r = .agg (vT n) ∧ SubAt S' p m (nextF n) ∧ GrowB p S S' := by
  refine ev12 rfl ?_
  have wn : IntKind.i64.wrap (n + 1) = n + 1 := wrap_i64 (by omega) (by omega)
  have hp := hs.lp
  have n1 : (p = S.no) = False := by simp; omega
  have n2 : (p = S.no + 1) = False := by simp; omega
  have n3 : (S.no = S.no + 1) = False := by simp
  have n4 : (S.no + 1 = p) = False := by simp; omega
  have n5 : (S.no = p) = False := by simp; omega
  have n6 : (S.no + 1 = S.no) = False := by simp
  have g0 := ((((((Grow.refl hS nilV).born 24 z24).born 24 z24).put (S.no + 1) (.cells (vT n)) (Nat.le_succ _)).toB p).put (.cells [.sc (.int .i64 (nextF n)), .mp m])).two
    (((Grow.refl (x := nilV) (S := ((((S.born 24 z24).born 24 z24).put (S.no + 1) (.cells (vT n))).put p (.cells [.sc (.int .i64 (nextF n)), .mp m]))) hS).toB p))
  have g1 : GrowB p S (((((S.born 24 z24).born 24 z24).put (S.no + 1) (.cells (vT n))).put p (.cells [.sc (.int .i64 (nextF n)), .mp m])).put S.no (.cells (vT n))) :=
    ⟨g0.nid, g0.sp, g0.ity, g0.no, fun l hl hne => by
      have := g0.obj l hl hne
      simp only [St.put, PM.get_set] at this ⊢
      rw [if_neg (by omega)]
      exact this, g0.fresh, fun l hl hne => by
      have := g0.ver l hl hne
      simp only [St.ver, St.put, PM.get_set] at this ⊢
      rw [if_neg (by omega)]
      exact this⟩
  simp only [z24, vT] at g1
  simp only [e_nil, e_skip, e_exit, e_ret, e_c_exit, e_blk_nrm, e_blk_exit, e_pop_ret, e_seq, e_block, e_reg_nil, e_cond, condK_true, condK_false, eo_move, eo_alloc, eo_build, eo_load, eo_store, eo_nilCheck, eo_bin, eo_fieldAddr, eo_builtin, opK_some, eq_self, true_and, and_true, op_bin, b_add, List.map_cons, List.map_nil, op_move, Bool.not_false, Bool.not_true, load_e, cut_f, cut_t, List.getElem?_cons_zero, List.getElem?_cons_succ, List.length_cons, List.length_nil, List.drop_zero, List.drop_succ_cons, List.take_succ_cons, List.take_zero, op_min, min_int, len_vec, len_nil, ret_ret, ret_nrm, retV_some, pack1, pack2, res_nil, res_tmp, getT_setD, setD_none, getT_leaf, initTm_nil, initTm_cons, ev_tmp, ev_int, ev_bool, ev_str, ev_nilslice, int_int, Option.map_some, Option.map_none, cond_true, cond_false, if_true, if_false, reduceCtorEq, Nat.reduceEqDiff, Nat.reduceAdd, Nat.reduceSub, Nat.reduceMul, Nat.reduceBEq, Int.reduceLT, Int.reduceLE, Int.reduceToNat, Int.reduceBEq, Int.reduceBNe, decide_true, decide_false, reduceIte, load3, store3, load24, store24, r12_0, r12_1, r12_2, r12_3, p12, alloc24, z24, op_nilCheck, chk_p, load_pb, born_obj, born_no, put_obj, put_no, fld72_0, fld_p, hs.obj, op_build, bld24_v, vT, st24 _ _ _ _ _ _ okn, store_int, wn, Option.bind_some, Nat.zero_add, Nat.add_zero, Nat.le_refl, List.drop_nil, res24, n1, n2, n3, n4, n5, n6, List.set_cons_zero, Nat.reduceLT]
  refine ⟨⟨?_, ?_, ?_, ?_, hs.ne⟩, g1⟩
  · simp only [put_obj, n5, n1, if_false, if_true]; rfl
  · exact g1.isMp hs.mp hs.lm hs.ne
  · exact Nat.lt_of_lt_of_le hs.lp g1.no
  · exact Nat.lt_of_lt_of_le hs.lm g1.no
theorem index_ok (X : AV) (l : List Int) (z : Int) (S : St) (hX : IsV 1 X (ints l)) (hl : l.length ≤ 2 ^ 40) (hS : S.Fresh) : ∃ r S', EvA E 58 [X, .sc (.int .i64 z)] S r S' ∧ (∃ n : Int, r = .sc (.int .i64 n) ∧ (0 ≤ n ↔ z ∈ l)) ∧ Grow S S' nilV := by
  refine ev58 rfl ?_
  have lX : ∀ S, lenV X S = some (.sc (.int .i64 (l.length : Nat)), S) := fun S => lenI (S := S) hX S
  simp only [e_nil, e_skip, e_exit, e_ret, e_c_exit, e_blk_nrm, e_blk_exit, e_pop_ret, e_seq, e_block, e_reg_nil, e_cond, condK_true, condK_false, eo_move, eo_assign, eo_load, eo_bin, eo_indexAddr, eo_builtin, opK_some, eq_self, true_and, and_true, op_bin, b_add, b_eql, b_lss, b_eqstr, List.map_cons, List.map_nil, op_move, op_assign, Bool.not_false, Bool.not_true, load_e, cut_f, cut_t, List.getElem?_cons_zero, List.getElem?_cons_succ, List.length_cons, List.length_nil, List.drop_zero, List.drop_succ_cons, List.take_succ_cons, List.take_zero, len_vec, len_nil, ret_ret, ret_nrm, retV_some, pack1, pack2, res_nil, res_tmp, getT_setD, setD_none, getT_leaf, initTm_nil, initTm_cons, ev_tmp, ev_int, ev_bool, ev_str, ev_nilslice, int_int, Option.map_some, Option.map_none, cond_true, cond_false, if_true, if_false, reduceCtorEq, Nat.reduceEqDiff, Nat.reduceAdd, Nat.reduceSub, Nat.reduceMul, Nat.reduceBEq, Int.reduceLT, Int.reduceLE, Int.reduceToNat, Int.reduceBEq, Int.reduceBNe, decide_true, decide_false, reduceIte, load3, index32, len32, r58_0, r58_1, r58_2, r58_3, r58_4, r58_5, r58_6, r58_8, p58, lX]
  refine e_loop (fun tm S' N => ∃ k : Nat, k ≤ l.length ∧ N = l.length - k ∧ (∀ y ∈ l.take k, y ≠ z) ∧ Grow S S' nilV ∧ getT tm 0 = X ∧ getT tm 1 = .sc (.int .i64 z) ∧ getT tm 7 = .sc (.int .i64 (l.length : Nat)) ∧ getT tm 8 = .sc (.int .i64 (k : Int))) l.length ⟨0, by omega, by omega, by simp, Grow.refl hS _, by simp [getT_setD]⟩ ?_
  rintro tm S' N ⟨k, hk, rfl, hne, hG, t0, t1, t7, t8⟩
  by_cases hlt : k < l.length
  case neg =>
    have hke : k = l.length := by omega
    rw [hke, List.take_length] at hne
    simp only [e_nil, e_skip, e_exit, e_ret, e_c_exit, e_blk_nrm, e_blk_exit, e_pop_ret, e_seq, e_block, e_reg_nil, e_cond, condK_true, condK_false, eo_move, eo_assign, eo_load, eo_bin, eo_indexAddr, eo_builtin, opK_some, eq_self, true_and, and_true, op_bin, b_add, b_eql, b_lss, b_eqstr, List.map_cons, List.map_nil, op_move, op_assign, Bool.not_false, Bool.not_true, load_e, cut_f, cut_t, List.getElem?_cons_zero, List.getElem?_cons_succ, List.length_cons, List.length_nil, List.drop_zero, List.drop_succ_cons, List.take_succ_cons, List.take_zero, len_vec, len_nil, ret_ret, ret_nrm, retV_some, pack1, pack2, res_nil, res_tmp, getT_setD, setD_none, getT_leaf, initTm_nil, initTm_cons, ev_tmp, ev_int, ev_bool, ev_str, ev_nilslice, int_int, Option.map_some, Option.map_none, cond_true, cond_false, if_true, if_false, reduceCtorEq, Nat.reduceEqDiff, Nat.reduceAdd, Nat.reduceSub, Nat.reduceMul, Nat.reduceBEq, Int.reduceLT, Int.reduceLE, Int.reduceToNat, Int.reduceBEq, Int.reduceBNe, decide_true, decide_false, reduceIte, load3, index32, len32, b58_7, r58_0, r58_1, r58_2, r58_3, r58_4, r58_5, r58_6, r58_8, p58, t0, t1, t7, t8, dec_nlt hlt]
    exact ⟨⟨-1, rfl, fun h => by omega, fun h => absurd rfl (hne z h)⟩, hG⟩
  case pos =>
    by_cases he : l[k] = z
    · have c2 : (z == l[k]) = true := by simpa using he.symm
      simp only [e_nil, e_skip, e_exit, e_ret, e_c_exit, e_blk_nrm, e_blk_exit, e_pop_ret, e_seq, e_block, e_reg_nil, e_cond, condK_true, condK_false, eo_move, eo_assign, eo_load, eo_bin, eo_indexAddr, eo_builtin, opK_some, eq_self, true_and, and_true, op_bin, b_add, b_eql, b_lss, b_eqstr, List.map_cons, List.map_nil, op_move, op_assign, Bool.not_false, Bool.not_true, load_e, cut_f, cut_t, List.getElem?_cons_zero, List.getElem?_cons_succ, List.length_cons, List.length_nil, List.drop_zero, List.drop_succ_cons, List.take_succ_cons, List.take_zero, len_vec, len_nil, ret_ret, ret_nrm, retV_some, pack1, pack2, res_nil, res_tmp, getT_setD, setD_none, getT_leaf, initTm_nil, initTm_cons, ev_tmp, ev_int, ev_bool, ev_str, ev_nilslice, int_int, Option.map_some, Option.map_none, cond_true, cond_false, if_true, if_false, reduceCtorEq, Nat.reduceEqDiff, Nat.reduceAdd, Nat.reduceSub, Nat.reduceMul, Nat.reduceBEq, Int.reduceLT, Int.reduceLE, Int.reduceToNat, Int.reduceBEq, Int.reduceBNe, decide_true, decide_false, reduceIte, load3, index32, len32, b58_7, r58_0, r58_1, r58_2, r58_3, r58_4, r58_5, r58_6, r58_8, p58, t0, t1, t7, t8, dec_lt hlt, idxI hX hlt, c2]
      exact ⟨⟨(k : Int), rfl, fun _ => by rw [← he]; exact List.getElem_mem hlt, fun _ => by omega⟩, hG⟩
    · have c2 : (z == l[k]) = false := by simpa using fun e => he e.symm
      have wk := wrapK hlt (by omega)
      simp only [e_nil, e_skip, e_exit, e_ret, e_c_exit, e_blk_nrm, e_blk_exit, e_pop_ret, e_seq, e_block, e_reg_nil, e_cond, condK_true, condK_false, eo_move, eo_assign, eo_load, eo_bin, eo_indexAddr, eo_builtin, opK_some, eq_self, true_and, and_true, op_bin, b_add, b_eql, b_lss, b_eqstr, List.map_cons, List.map_nil, op_move, op_assign, Bool.not_false, Bool.not_true, load_e, cut_f, cut_t, List.getElem?_cons_zero, List.getElem?_cons_succ, List.length_cons, List.length_nil, List.drop_zero, List.drop_succ_cons, List.take_succ_cons, List.take_zero, len_vec, len_nil, ret_ret, ret_nrm, retV_some, pack1, pack2, res_nil, res_tmp, getT_setD, setD_none, getT_leaf, initTm_nil, initTm_cons, ev_tmp, ev_int, ev_bool, ev_str, ev_nilslice, int_int, Option.map_some, Option.map_none, cond_true, cond_false, if_true, if_false, reduceCtorEq, Nat.reduceEqDiff, Nat.reduceAdd, Nat.reduceSub, Nat.reduceMul, Nat.reduceBEq, Int.reduceLT, Int.reduceLE, Int.reduceToNat, Int.reduceBEq, Int.reduceBNe, decide_true, decide_false, reduceIte, load3, index32, len32, b58_7, r58_0, r58_1, r58_2, r58_3, r58_4, r58_5, r58_6, r58_8, p58, t0, t1, t7, t8, dec_lt hlt, idxI hX hlt, c2, wk]
      refine ⟨l.length - (k + 1), by omega, k + 1, by omega, rfl, ?_, hG, by simp [t0, t1, t7]⟩
      intro y hy
      rw [List.take_add_one, List.getElem?_eq_getElem hlt] at hy
      rcases List.mem_append.1 hy with hy | hy
      · exact hne y hy
      · simp at hy; rw [hy]; exact he
theorem contains_ok (X : AV) (l : List Int) (z : Int) (S : St) (hX : IsV 1 X (ints l)) (hl : l.length ≤ 2 ^ 40) (hS : S.Fresh) : ∃ r S', EvA E 35 [X, .sc (.int .i64 z)] S r S' ∧ r = .sc (.bool (decide (z ∈ l))) ∧ Grow S S' nilV := by
  refine ev35 rfl ?_
  obtain ⟨r1, S1, e1, ⟨n, rfl, hn⟩, k1⟩ := index_ok X l z S hX hl hS
  simp only [e_nil, e_skip, e_exit, e_ret, e_c_exit, e_blk_nrm, e_blk_exit, e_pop_ret, e_seq, e_block, e_reg_nil, e_cond, condK_true, condK_false, eo_move, eo_assign, eo_bin, opK_some, eq_self, true_and, and_true, op_bin, b_geq, List.map_cons, List.map_nil, op_move, op_assign, Bool.not_false, Bool.not_true, load_e, cut_f, cut_t, List.getElem?_cons_zero, List.getElem?_cons_succ, List.length_cons, List.length_nil, List.drop_zero, List.drop_succ_cons, List.take_succ_cons, List.take_zero, len_vec, len_nil, ret_ret, ret_nrm, retV_some, pack1, pack2, res_nil, res_tmp, getT_setD, setD_none, getT_leaf, initTm_nil, initTm_cons, ev_tmp, ev_int, ev_bool, ev_str, ev_nilslice, int_int, Option.map_some, Option.map_none, cond_true, cond_false, if_true, if_false, reduceCtorEq, Nat.reduceEqDiff, Nat.reduceAdd, Nat.reduceSub, Nat.reduceMul, Nat.reduceBEq, Int.reduceLT, Int.reduceLE, Int.reduceToNat, Int.reduceBEq, Int.reduceBNe, decide_true, decide_false, reduceIte, call58, r35_0, r35_1, p35]
  refine callK_of e1 ?_
  simp only [e_nil, e_skip, e_exit, e_ret, e_c_exit, e_blk_nrm, e_blk_exit, e_pop_ret, e_seq, e_block, e_reg_nil, e_cond, condK_true, condK_false, eo_move, eo_assign, eo_bin, opK_some, eq_self, true_and, and_true, op_bin, b_geq, List.map_cons, List.map_nil, op_move, op_assign, Bool.not_false, Bool.not_true, load_e, cut_f, cut_t, List.getElem?_cons_zero, List.getElem?_cons_succ, List.length_cons, List.length_nil, List.drop_zero, List.drop_succ_cons, List.take_succ_cons, List.take_zero, len_vec, len_nil, ret_ret, ret_nrm, retV_some, pack1, pack2, res_nil, res_tmp, getT_setD, setD_none, getT_leaf, initTm_nil, initTm_cons, ev_tmp, ev_int, ev_bool, ev_str, ev_nilslice, int_int, Option.map_some, Option.map_none, cond_true, cond_false, if_true, if_false, reduceCtorEq, Nat.reduceEqDiff, Nat.reduceAdd, Nat.reduceSub, Nat.reduceMul, Nat.reduceBEq, Int.reduceLT, Int.reduceLE, Int.reduceToNat, Int.reduceBEq, Int.reduceBNe, decide_true, decide_false, reduceIte, call58, r35_0, r35_1, p35]
  exact ⟨by simp only [hn], k1⟩
end Go.Proofs.YtaacibffjmbfiaaDoor
