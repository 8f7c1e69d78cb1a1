/-
  Schemes closed: is an env good; what a scheme holds.
-/
import Derived.Test.YtaacibffjmbfiaaDoorSch8
import Derived.Test.YtaacibffjmbfiaaDoorPf
set_option linter.unusedSimpArgs false
set_option linter.unusedVariables false
set_option maxRecDepth 100000
namespace Go.Proofs.YtaacibffjmbfiaaDoor
open Go.Abs
structure SchV where
  l : List Int
  X : AV
  t : Ty
  x : AV
def SchV.av (e : SchV) : AV := .agg (sc5 e.X e.t e.x)
structure SchV.ok (e : SchV) : Prop where
  X : IsV 1 e.X (ints e.l)
  x : TyX e.t e.x
  len : e.l.length ≤ 2 ^ 63 - 1
def EnvIs (X : AV) (es : List SchV) : Prop := IsV 5 X (es.map SchV.av) ∧ ∀ e ∈ es, e.ok
structure SchV.good (e : SchV) : Prop where
  len : e.l.length ≤ 2 ^ 40
  g : goodF e.t = true
  a : GoodAll (varsF e.t []) e.l
theorem EnvIs.len {X : AV} {es : List SchV} (h : EnvIs X es) (S : St) : lenV X S = some (.sc (.int .i64 (es.length : Nat)), S) := by
  rw [h.1.len, List.length_map]
theorem EnvIs.at {X : AV} {es : List SchV} (h : EnvIs X es) {k : Nat} (hk : k < es.length) (S : St) : idxV 5 X (some (k : Int)) S = some (.eptr (sc5 es[k].X es[k].t es[k].x) 0, S) :=
  h.1.idx (v := es[k].av) (by simp [hk]) rfl S
theorem close1_ok (e : SchV) (he : e.ok) (hg : e.good) (S : St) (hS : S.Fresh) : ∃ r S', EvA E 38 [.agg (sc5 e.X e.t e.x)] S r S' ∧ r = .sc (.bool false) ∧ Grow S S' nilV := by
  refine ev38 rfl ?_
  have g0 := (Grow.refl hS nilV).born 34 (sc5 e.X e.t e.x)
  obtain ⟨r1, S1, e1, ⟨b, rfl, hb⟩, k1⟩ := good13_ok e.l e.X e.t e.x _ (.inl he.X) he.len he.x g0.fresh
  obtain rfl : b = true := hb.2 ⟨hg.g, hg.a⟩
  simp only [sc5] at e1 g0
  simp only [e_nil, e_skip, e_exit, e_ret, e_c_exit, e_blk_nrm, e_blk_exit, e_pop_ret, e_seq, e_block, e_reg_nil, e_cond, condK_true, condK_false, eo_assign, eo_box, eo_load, eo_un, opK_some, eq_self, true_and, and_true, List.map_cons, List.map_nil, op_assign, op_un, un_not, Bool.not_false, Bool.not_true, load_e, cut_f, cut_t, List.getElem?_cons_zero, List.getElem?_cons_succ, List.length_cons, List.length_nil, List.drop_zero, List.drop_succ_cons, List.take_succ_cons, List.take_zero, len_vec, len_nil, ret_ret, ret_nrm, retV_some, pack1, pack2, res_nil, res_tmp, getT_setD, setD_none, getT_leaf, initTm_nil, initTm_cons, ev_tmp, ev_int, ev_bool, ev_str, ev_nilslice, int_int, Option.map_some, Option.map_none, cond_true, cond_false, if_true, if_false, reduceCtorEq, Nat.reduceEqDiff, Nat.reduceAdd, Nat.reduceSub, Nat.reduceMul, Nat.reduceBEq, Int.reduceLT, Int.reduceLE, Int.reduceToNat, Int.reduceBEq, Int.reduceBNe, decide_true, decide_false, reduceIte, load34, call13, r38_0, r38_1, p38, sc5, op_box, cells_agg, load_pb, born_obj, Option.bind_some, Nat.zero_add, Nat.le_refl]
  refine callK_of e1 ?_
  simp only [e_nil, e_skip, e_exit, e_ret, e_c_exit, e_blk_nrm, e_blk_exit, e_pop_ret, e_seq, e_block, e_reg_nil, e_cond, condK_true, condK_false, eo_assign, eo_box, eo_load, eo_un, opK_some, eq_self, true_and, and_true, List.map_cons, List.map_nil, op_assign, op_un, un_not, Bool.not_false, Bool.not_true, load_e, cut_f, cut_t, List.getElem?_cons_zero, List.getElem?_cons_succ, List.length_cons, List.length_nil, List.drop_zero, List.drop_succ_cons, List.take_succ_cons, List.take_zero, len_vec, len_nil, ret_ret, ret_nrm, retV_some, pack1, pack2, res_nil, res_tmp, getT_setD, setD_none, getT_leaf, initTm_nil, initTm_cons, ev_tmp, ev_int, ev_bool, ev_str, ev_nilslice, int_int, Option.map_some, Option.map_none, cond_true, cond_false, if_true, if_false, reduceCtorEq, Nat.reduceEqDiff, Nat.reduceAdd, Nat.reduceSub, Nat.reduceMul, Nat.reduceBEq, Int.reduceLT, Int.reduceLE, Int.reduceToNat, Int.reduceBEq, Int.reduceBNe, decide_true, decide_false, reduceIte, load34, call13, r38_0, r38_1, p38]
  exact g0.two k1
set_option maxHeartbeats 8000000 in
theorem indexf_ok (X : AV) (es : List SchV) (hX : EnvIs X es) (hl : es.length ≤ 2 ^ 40) (hg : ∀ e ∈ es, e.good) (S : St) (hS : S.Fresh) : ∃ r S', EvA E 59 [X, .sc (.func (.func 38) #[] #[])] S r S' ∧ r = .sc (.int .i64 (-1)) ∧ Grow S S' nilV := by
  refine ev59 rfl ?_
  have lX : ∀ S, lenV X S = some (.sc (.int .i64 (es.length : Nat)), S) := fun S => hX.len S
  simp only [e_nil, e_skip, e_exit, e_ret, e_c_exit, e_blk_nrm, e_blk_exit, e_pop_ret, e_seq, e_block, e_reg_nil, e_cond, condK_true, condK_false, eo_move, eo_assign, eo_load, eo_bin, eo_indexAddr, eo_builtin, opK_some, eq_self, true_and, and_true, op_bin, b_add, b_lss, List.map_cons, List.map_nil, op_move, op_assign, Bool.not_false, Bool.not_true, load_e, cut_f, cut_t, List.getElem?_cons_zero, List.getElem?_cons_succ, List.length_cons, List.length_nil, List.drop_zero, List.drop_succ_cons, List.take_succ_cons, List.take_zero, len_vec, len_nil, ret_ret, ret_nrm, retV_some, pack1, pack2, res_nil, res_tmp, getT_setD, setD_none, getT_leaf, initTm_nil, initTm_cons, ev_tmp, ev_int, ev_bool, ev_str, ev_nilslice, int_int, Option.map_some, Option.map_none, cond_true, cond_false, if_true, if_false, reduceCtorEq, Nat.reduceEqDiff, Nat.reduceAdd, Nat.reduceSub, Nat.reduceMul, Nat.reduceBEq, Int.reduceLT, Int.reduceLE, Int.reduceToNat, Int.reduceBEq, Int.reduceBNe, decide_true, decide_false, reduceIte, index25, len25, load34, r59_0, r59_1, r59_2, r59_3, r59_4, r59_5, r59_6, r59_8, p59, lX]
  refine e_loop (fun tm S' N => ∃ k : Nat, k ≤ es.length ∧ N = es.length - k ∧ Grow S S' nilV ∧ getT tm 0 = X ∧ getT tm 1 = .sc (.func (.func 38) #[] #[]) ∧ getT tm 7 = .sc (.int .i64 (es.length : Nat)) ∧ getT tm 8 = .sc (.int .i64 (k : Int))) es.length ⟨0, by omega, by omega, Grow.refl hS _, by simp [getT_setD]⟩ ?_
  rintro tm S' N ⟨k, hk, rfl, hG, t0, t1, t7, t8⟩
  by_cases hlt : k < es.length
  case neg =>
    simp only [e_nil, e_skip, e_exit, e_ret, e_c_exit, e_blk_nrm, e_blk_exit, e_pop_ret, e_seq, e_block, e_reg_nil, e_cond, condK_true, condK_false, eo_move, eo_assign, eo_load, eo_bin, eo_indexAddr, eo_builtin, opK_some, eq_self, true_and, and_true, op_bin, b_add, b_lss, List.map_cons, List.map_nil, op_move, op_assign, Bool.not_false, Bool.not_true, load_e, cut_f, cut_t, List.getElem?_cons_zero, List.getElem?_cons_succ, List.length_cons, List.length_nil, List.drop_zero, List.drop_succ_cons, List.take_succ_cons, List.take_zero, len_vec, len_nil, ret_ret, ret_nrm, retV_some, pack1, pack2, res_nil, res_tmp, getT_setD, setD_none, getT_leaf, initTm_nil, initTm_cons, ev_tmp, ev_int, ev_bool, ev_str, ev_nilslice, int_int, Option.map_some, Option.map_none, cond_true, cond_false, if_true, if_false, reduceCtorEq, Nat.reduceEqDiff, Nat.reduceAdd, Nat.reduceSub, Nat.reduceMul, Nat.reduceBEq, Int.reduceLT, Int.reduceLE, Int.reduceToNat, Int.reduceBEq, Int.reduceBNe, decide_true, decide_false, reduceIte, index25, len25, load34, b59_7, r59_0, r59_1, r59_2, r59_3, r59_4, r59_5, r59_6, r59_8, p59, t0, t1, t7, t8, dec_nlt hlt]
    exact hG
  case pos =>
    have hm := List.getElem_mem hlt
    obtain ⟨r1, S1, e1, rfl, k1⟩ := close1_ok es[k] (hX.2 _ hm) (hg _ hm) S' hG.fresh
    have wk := wrapK hlt (by omega)
    simp only [sc5] at e1
    simp only [e_nil, e_skip, e_exit, e_ret, e_c_exit, e_blk_nrm, e_blk_exit, e_pop_ret, e_seq, e_block, e_reg_nil, e_cond, condK_true, condK_false, eo_move, eo_assign, eo_load, eo_bin, eo_indexAddr, eo_builtin, opK_some, eq_self, true_and, and_true, op_bin, b_add, b_lss, List.map_cons, List.map_nil, op_move, op_assign, Bool.not_false, Bool.not_true, load_e, cut_f, cut_t, List.getElem?_cons_zero, List.getElem?_cons_succ, List.length_cons, List.length_nil, List.drop_zero, List.drop_succ_cons, List.take_succ_cons, List.take_zero, len_vec, len_nil, ret_ret, ret_nrm, retV_some, pack1, pack2, res_nil, res_tmp, getT_setD, setD_none, getT_leaf, initTm_nil, initTm_cons, ev_tmp, ev_int, ev_bool, ev_str, ev_nilslice, int_int, Option.map_some, Option.map_none, cond_true, cond_false, if_true, if_false, reduceCtorEq, Nat.reduceEqDiff, Nat.reduceAdd, Nat.reduceSub, Nat.reduceMul, Nat.reduceBEq, Int.reduceLT, Int.reduceLE, Int.reduceToNat, Int.reduceBEq, Int.reduceBNe, decide_true, decide_false, reduceIte, index25, len25, load34, b59_7, r59_0, r59_1, r59_2, r59_3, r59_4, r59_5, r59_6, r59_8, p59, t0, t1, t7, t8, dec_lt hlt, hX.at hlt, sc5, Nat.zero_add, Nat.le_refl]
    rw [e_callv _ _ _ _ _ (g := 38) (first := []) (cap := []) (by simp only [e_nil, e_skip, e_exit, e_ret, e_c_exit, e_blk_nrm, e_blk_exit, e_pop_ret, e_seq, e_block, e_reg_nil, e_regD, e_cond, condK_true, condK_false, eo_move, eo_assign, eo_pick, eo_alloc, eo_box, eo_build, eo_buildSlice, eo_load, eo_store, eo_nilCheck, eo_bin, eo_un, eo_convert, eo_slice, eo_makeSlice, eo_lookup, eo_mapUpdate, eo_makeMap, eo_range, eo_next, eo_fieldAddr, eo_field, eo_indexAddr, eo_index, eo_extract, eo_makeFunc, eo_makeInterface, eo_builtin, opK_some, e_guard, guardK_same, guardK_tf, guardK_ft, guardK_passed, eq_self, true_and, and_true, op_bin, b_add, b_sub, b_mul, b_and, b_or, b_xor, b_andNot, b_eql, b_neq, b_lss, b_leq, b_gtr, b_geq, b_eqstr, b_shl', b_shr', List.map_cons, List.map_nil, op_move, op_assign, op_pick, pick_bool, op_extract, extract_tup, op_un, un_not, Bool.not_false, Bool.not_true, load_e, cut_f, cut_t, List.getElem?_cons_zero, List.getElem?_cons_succ, List.length_cons, List.length_nil, List.drop_zero, List.drop_succ_cons, List.take_succ_cons, List.take_zero, op_min, min_int, op_slice, op_convert, len_vec, len_nil, byteVals_length, ret_ret, ret_nrm, retV_some, pack1, pack2, res_nil, res_tmp, getT_setD, setD_none, getT_leaf, initTm_nil, initTm_cons, ev_tmp, ev_int, ev_bool, ev_str, ev_nilslice, int_int, Option.map_some, Option.map_none, cond_true, cond_false, if_true, if_false, reduceCtorEq, Nat.reduceEqDiff, Nat.reduceAdd, Nat.reduceSub, Nat.reduceMul, Nat.reduceBEq, Int.reduceLT, Int.reduceLE, Int.reduceToNat, Int.reduceBEq, Int.reduceBNe, decide_true, decide_false, reduceIte, load3, store3, load9, load22, store22, bs22, app22, index22, len22, load24, store24, index25, len25, load32, store32, bs32, app32, index32, len32, load34, store34, load70, conv3_21, call8, call9, call10, call11, call12, call13, call14, call15, call16, call17, call18, call19, call20, call33, call34, call35, call36, call37, call39, call40, call41, call42, call43, call44, call56, call57, call58, call59, call60, call63, call64, t1]; rfl) rfl]
    simp only [e_nil, e_skip, e_exit, e_ret, e_c_exit, e_blk_nrm, e_blk_exit, e_pop_ret, e_seq, e_block, e_reg_nil, e_regD, e_cond, condK_true, condK_false, eo_move, eo_assign, eo_pick, eo_alloc, eo_box, eo_build, eo_buildSlice, eo_load, eo_store, eo_nilCheck, eo_bin, eo_un, eo_convert, eo_slice, eo_makeSlice, eo_lookup, eo_mapUpdate, eo_makeMap, eo_range, eo_next, eo_fieldAddr, eo_field, eo_indexAddr, eo_index, eo_extract, eo_makeFunc, eo_makeInterface, eo_builtin, opK_some, e_guard, guardK_same, guardK_tf, guardK_ft, guardK_passed, eq_self, true_and, and_true, op_bin, b_add, b_sub, b_mul, b_and, b_or, b_xor, b_andNot, b_eql, b_neq, b_lss, b_leq, b_gtr, b_geq, b_eqstr, b_shl', b_shr', List.map_cons, List.map_nil, op_move, op_assign, op_pick, pick_bool, op_extract, extract_tup, op_un, un_not, Bool.not_false, Bool.not_true, load_e, cut_f, cut_t, List.getElem?_cons_zero, List.getElem?_cons_succ, List.length_cons, List.length_nil, List.drop_zero, List.drop_succ_cons, List.take_succ_cons, List.take_zero, op_min, min_int, op_slice, op_convert, len_vec, len_nil, byteVals_length, ret_ret, ret_nrm, retV_some, pack1, pack2, res_nil, res_tmp, getT_setD, setD_none, getT_leaf, initTm_nil, initTm_cons, ev_tmp, ev_int, ev_bool, ev_str, ev_nilslice, int_int, Option.map_some, Option.map_none, cond_true, cond_false, if_true, if_false, reduceCtorEq, Nat.reduceEqDiff, Nat.reduceAdd, Nat.reduceSub, Nat.reduceMul, Nat.reduceBEq, Int.reduceLT, Int.reduceLE, Int.reduceToNat, Int.reduceBEq, Int.reduceBNe, decide_true, decide_false, reduceIte, load3, store3, load9, load22, store22, bs22, app22, index22, len22, load24, store24, index25, len25, load32, store32, bs32, app32, index32, len32, load34, store34, load70, conv3_21, call8, call9, call10, call11, call12, call13, call14, call15, call16, call17, call18, call19, call20, call33, call34, call35, call36, call37, call39, call40, call41, call42, call43, call44, call56, call57, call58, call59, call60, call63, call64, List.nil_append, List.append_nil]
    refine callK_of e1 ?_
    simp only [e_nil, e_skip, e_exit, e_ret, e_c_exit, e_blk_nrm, e_blk_exit, e_pop_ret, e_seq, e_block, e_reg_nil, e_cond, condK_true, condK_false, eo_move, eo_assign, eo_load, eo_bin, eo_indexAddr, eo_builtin, opK_some, eq_self, true_and, and_true, op_bin, b_add, b_lss, List.map_cons, List.map_nil, op_move, op_assign, Bool.not_false, Bool.not_true, load_e, cut_f, cut_t, List.getElem?_cons_zero, List.getElem?_cons_succ, List.length_cons, List.length_nil, List.drop_zero, List.drop_succ_cons, List.take_succ_cons, List.take_zero, len_vec, len_nil, ret_ret, ret_nrm, retV_some, pack1, pack2, res_nil, res_tmp, getT_setD, setD_none, getT_leaf, initTm_nil, initTm_cons, ev_tmp, ev_int, ev_bool, ev_str, ev_nilslice, int_int, Option.map_some, Option.map_none, cond_true, cond_false, if_true, if_false, reduceCtorEq, Nat.reduceEqDiff, Nat.reduceAdd, Nat.reduceSub, Nat.reduceMul, Nat.reduceBEq, Int.reduceLT, Int.reduceLE, Int.reduceToNat, Int.reduceBEq, Int.reduceBNe, decide_true, decide_false, reduceIte, index25, len25, load34, r59_0, r59_1, r59_2, r59_3, r59_4, r59_5, r59_6, r59_8, p59, t0, t1, t7, t8, wk]
    exact ⟨es.length - (k + 1), by omega, k + 1, by omega, rfl, hG.two k1, by simp [t0, t1, t7]⟩
theorem containsf_ok (X : AV) (es : List SchV) (hX : EnvIs X es) (hl : es.length ≤ 2 ^ 40) (hg : ∀ e ∈ es, e.good) (S : St) (hS : S.Fresh) : ∃ r S', EvA E 37 [X, .sc (.func (.func 38) #[] #[])] S r S' ∧ r = .sc (.bool false) ∧ Grow S S' nilV := by
  refine ev37 rfl ?_
  obtain ⟨r1, S1, e1, rfl, k1⟩ := indexf_ok X es hX hl hg S hS
  simp only [e_nil, e_skip, e_exit, e_ret, e_c_exit, e_blk_nrm, e_blk_exit, e_pop_ret, e_seq, e_block, e_reg_nil, e_cond, condK_true, condK_false, eo_move, eo_assign, eo_bin, opK_some, eq_self, true_and, and_true, op_bin, b_geq, List.map_cons, List.map_nil, op_move, op_assign, Bool.not_false, Bool.not_true, load_e, cut_f, cut_t, List.getElem?_cons_zero, List.getElem?_cons_succ, List.length_cons, List.length_nil, List.drop_zero, List.drop_succ_cons, List.take_succ_cons, List.take_zero, len_vec, len_nil, ret_ret, ret_nrm, retV_some, pack1, pack2, res_nil, res_tmp, getT_setD, setD_none, getT_leaf, initTm_nil, initTm_cons, ev_tmp, ev_int, ev_bool, ev_str, ev_nilslice, int_int, Option.map_some, Option.map_none, cond_true, cond_false, if_true, if_false, reduceCtorEq, Nat.reduceEqDiff, Nat.reduceAdd, Nat.reduceSub, Nat.reduceMul, Nat.reduceBEq, Int.reduceLT, Int.reduceLE, Int.reduceToNat, Int.reduceBEq, Int.reduceBNe, decide_true, decide_false, reduceIte, call59, r37_0, r37_1, p37]
  refine callK_of e1 ?_
  simp only [e_nil, e_skip, e_exit, e_ret, e_c_exit, e_blk_nrm, e_blk_exit, e_pop_ret, e_seq, e_block, e_reg_nil, e_cond, condK_true, condK_false, eo_move, eo_assign, eo_bin, opK_some, eq_self, true_and, and_true, op_bin, b_geq, List.map_cons, List.map_nil, op_move, op_assign, Bool.not_false, Bool.not_true, load_e, cut_f, cut_t, List.getElem?_cons_zero, List.getElem?_cons_succ, List.length_cons, List.length_nil, List.drop_zero, List.drop_succ_cons, List.take_succ_cons, List.take_zero, len_vec, len_nil, ret_ret, ret_nrm, retV_some, pack1, pack2, res_nil, res_tmp, getT_setD, setD_none, getT_leaf, initTm_nil, initTm_cons, ev_tmp, ev_int, ev_bool, ev_str, ev_nilslice, int_int, Option.map_some, Option.map_none, cond_true, cond_false, if_true, if_false, reduceCtorEq, Nat.reduceEqDiff, Nat.reduceAdd, Nat.reduceSub, Nat.reduceMul, Nat.reduceBEq, Int.reduceLT, Int.reduceLE, Int.reduceToNat, Int.reduceBEq, Int.reduceBNe, decide_true, decide_false, reduceIte, call59, r37_0, r37_1, p37]
  exact k1
def restF (l : List Int) (t : Ty) : List Int := (varsF t []).filter fun v => decide (v ∉ l)
theorem append_ints {X Y : AV} {l m : List Int} {S : St} (hS : S.Fresh) (hX : OwnV S 3 1 X (ints l)) (hY : IsV 1 Y (ints m)) (hm : m ≠ []) (hl : l.length + m.length ≤ 2 ^ 41) :
    (builtinA E false .append [32, 32] [X, Y] S = some (.vec S.nid 1 (ints (l ++ m)), appS 3 S X)) ∧ OwnV (appS 3 S X) 3 1 (.vec S.nid 1 (ints (l ++ m))) (ints (l ++ m)) := by
  have hap := app_own (S := S) (Y := Y) el32 und32 hS hX hY (by cases m with | nil => exact absurd rfl hm | cons a r => simp [ints]) (allSz_ints _) (by rw [ints_len, ints_len]; omega)
  rw [ints_app] at hap
  exact ⟨hap, appS_own hS hX⟩
theorem appS_obj (e : TypeId) (S : St) (X : AV) (l : Nat) : (appS e S X).obj l = S.obj l := by
  unfold appS
  split
  · cases (_ || _) <;> rfl
  · rfl
theorem appS_no (e : TypeId) (S : St) (X : AV) : (appS e S X).no = S.no := by
  unfold appS
  split
  · cases (_ || _) <;> rfl
  · rfl
set_option maxHeartbeats 16000000 in
theorem rest_ok (e : SchV) (he : e.ok) (hl : e.l.length ≤ 2 ^ 40) (hgd : goodF e.t = true) (p m : Nat) (n : Int) (S : St) (hs : SubAt S p m n) (hS : S.Fresh) : ∃ r S', EvA E 39 [.ptr p 0, .agg (sc5 e.X e.t e.x)] S r S' ∧ OwnV S' 3 1 r (ints (restF e.l e.t)) ∧ Grow S S' nilV := by
  refine ev39 rfl ?_
  have hsz := good_sz hgd
  have hvl := vars_len0 hgd
  have g0 := (Grow.refl hS nilV).born 34 (sc5 e.X e.t e.x)
  have h0 : (S.born 34 (sc5 e.X e.t e.x)).obj S.no = some (sc5 e.X e.t e.x) := by simp [born_obj]
  have n0 : S.no < (S.born 34 (sc5 e.X e.t e.x)).no := Nat.lt_succ_self _
  obtain ⟨r1, S1, e1, o1, k1, nb1⟩ := vars14_ok e.t e.x _ he.x (by omega) g0.fresh
  have g1 := g0.two k1
  have ho1 := k1.objs h0 n0
  have n1 := Nat.lt_of_lt_of_le n0 k1.no
  have lr : ∀ S, lenV r1 S = some (.sc (.int .i64 ((varsF e.t []).length : Nat)), S) := fun S => lenI (S := S) o1.is S
  have hri := o1.is
  simp only [sc5, tc] at g0 h0 n0 e1 ho1 n1 g1
  simp only [e_nil, e_skip, e_exit, e_ret, e_c_exit, e_blk_nrm, e_blk_exit, e_pop_ret, e_seq, e_block, e_reg_nil, e_cond, condK_true, condK_false, eo_move, eo_assign, eo_pick, eo_alloc, eo_box, eo_build, eo_load, eo_store, eo_bin, eo_un, eo_fieldAddr, eo_indexAddr, eo_builtin, opK_some, e_guard, guardK_same, guardK_tf, guardK_ft, guardK_passed, eq_self, true_and, and_true, op_bin, b_add, b_lss, List.map_cons, List.map_nil, op_move, op_assign, op_pick, pick_bool, op_un, un_not, Bool.not_false, Bool.not_true, load_e, cut_f, cut_t, List.getElem?_cons_zero, List.getElem?_cons_succ, List.length_cons, List.length_nil, List.drop_zero, List.drop_succ_cons, List.take_succ_cons, List.take_zero, len_vec, len_nil, ret_ret, ret_nrm, retV_some, pack1, pack2, res_nil, res_tmp, getT_setD, setD_none, getT_leaf, initTm_nil, initTm_cons, ev_tmp, ev_int, ev_bool, ev_str, ev_nilslice, int_int, Option.map_some, Option.map_none, cond_true, cond_false, if_true, if_false, reduceCtorEq, Nat.reduceEqDiff, Nat.reduceAdd, Nat.reduceSub, Nat.reduceMul, Nat.reduceBEq, Int.reduceLT, Int.reduceLE, Int.reduceToNat, Int.reduceBEq, Int.reduceBNe, decide_true, decide_false, reduceIte, load3, load24, store24, load32, app32, index32, len32, call14, call19, call35, call40, r39_0, r39_1, r39_2, r39_3, r39_4, r39_5, r39_6, r39_7, r39_8, r39_9, r39_11, p39, sc5, op_box, cells_agg, load_pb, h0, fld34_1, fld_p, Option.bind_some, Nat.zero_add, Nat.le_refl]
  refine callK_of e1 ?_
  simp only [e_nil, e_skip, e_exit, e_ret, e_c_exit, e_blk_nrm, e_blk_exit, e_pop_ret, e_seq, e_block, e_reg_nil, e_cond, condK_true, condK_false, eo_move, eo_assign, eo_pick, eo_alloc, eo_box, eo_build, eo_load, eo_store, eo_bin, eo_un, eo_fieldAddr, eo_indexAddr, eo_builtin, opK_some, e_guard, guardK_same, guardK_tf, guardK_ft, guardK_passed, eq_self, true_and, and_true, op_bin, b_add, b_lss, List.map_cons, List.map_nil, op_move, op_assign, op_pick, pick_bool, op_un, un_not, Bool.not_false, Bool.not_true, load_e, cut_f, cut_t, List.getElem?_cons_zero, List.getElem?_cons_succ, List.length_cons, List.length_nil, List.drop_zero, List.drop_succ_cons, List.take_succ_cons, List.take_zero, len_vec, len_nil, ret_ret, ret_nrm, retV_some, pack1, pack2, res_nil, res_tmp, getT_setD, setD_none, getT_leaf, initTm_nil, initTm_cons, ev_tmp, ev_int, ev_bool, ev_str, ev_nilslice, int_int, Option.map_some, Option.map_none, cond_true, cond_false, if_true, if_false, reduceCtorEq, Nat.reduceEqDiff, Nat.reduceAdd, Nat.reduceSub, Nat.reduceMul, Nat.reduceBEq, Int.reduceLT, Int.reduceLE, Int.reduceToNat, Int.reduceBEq, Int.reduceBNe, decide_true, decide_false, reduceIte, load3, load24, store24, load32, app32, index32, len32, call14, call19, call35, call40, r39_0, r39_1, r39_2, r39_3, r39_4, r39_5, r39_6, r39_7, r39_8, r39_9, r39_11, p39, lr]
  refine e_loop (fun tm S' N => ∃ (k : Nat) (X : AV) (out : List Int), k ≤ (varsF e.t []).length ∧ N = (varsF e.t []).length - k ∧ out = ((varsF e.t []).take k).filter (fun v => decide (v ∉ e.l)) ∧ OwnV S' 3 1 X (ints out) ∧ NewG S X ∧ Grow S S' nilV ∧ S.no < S'.no ∧
    S'.obj S.no = some [e.X, .sc (.int .i64 e.t.kind), .sc (.string e.t.name), .sc (.int .i64 e.t.var), e.x] ∧ getT tm 0 = .ptr p 0 ∧ getT tm 3 = .ptr S.no 0 ∧ getT tm 5 = X ∧ getT tm 12 = r1 ∧ getT tm 13 = .sc (.int .i64 ((varsF e.t []).length : Nat)) ∧ getT tm 14 = .sc (.int .i64 (k : Int))) (varsF e.t []).length
    ⟨0, nilV, [], by omega, by omega, by simp, .inl ⟨rfl, rfl⟩, .inl rfl, g1, n1, ho1, by simp [getT_setD]⟩ ?_
  rintro tm S' N ⟨k, X, out, hk, rfl, hout, hO, hN, hG, hno, ho, t0, t3, t5, t12, t13, t14⟩
  by_cases hlt : k < (varsF e.t []).length
  case neg =>
    have hke : k = (varsF e.t []).length := by omega
    rw [hke, List.take_length] at hout
    simp only [e_nil, e_skip, e_exit, e_ret, e_c_exit, e_blk_nrm, e_blk_exit, e_pop_ret, e_seq, e_block, e_reg_nil, e_cond, condK_true, condK_false, eo_move, eo_assign, eo_pick, eo_alloc, eo_box, eo_build, eo_load, eo_store, eo_bin, eo_un, eo_fieldAddr, eo_indexAddr, eo_builtin, opK_some, e_guard, guardK_same, guardK_tf, guardK_ft, guardK_passed, eq_self, true_and, and_true, op_bin, b_add, b_lss, List.map_cons, List.map_nil, op_move, op_assign, op_pick, pick_bool, op_un, un_not, Bool.not_false, Bool.not_true, load_e, cut_f, cut_t, List.getElem?_cons_zero, List.getElem?_cons_succ, List.length_cons, List.length_nil, List.drop_zero, List.drop_succ_cons, List.take_succ_cons, List.take_zero, len_vec, len_nil, ret_ret, ret_nrm, retV_some, pack1, pack2, res_nil, res_tmp, getT_setD, setD_none, getT_leaf, initTm_nil, initTm_cons, ev_tmp, ev_int, ev_bool, ev_str, ev_nilslice, int_int, Option.map_some, Option.map_none, cond_true, cond_false, if_true, if_false, reduceCtorEq, Nat.reduceEqDiff, Nat.reduceAdd, Nat.reduceSub, Nat.reduceMul, Nat.reduceBEq, Int.reduceLT, Int.reduceLE, Int.reduceToNat, Int.reduceBEq, Int.reduceBNe, decide_true, decide_false, reduceIte, load3, load24, store24, load32, app32, index32, len32, call14, call19, call35, call40, b39_10, r39_0, r39_1, r39_2, r39_3, r39_4, r39_5, r39_6, r39_7, r39_8, r39_9, r39_11, p39, t0, t3, t5, t12, t13, t14, dec_nlt hlt]
    exact ⟨by rw [hout] at hO; exact hO, hG⟩
  case pos =>
    generalize hv : (varsF e.t [])[k] = v
    have hol : out.length ≤ 500 := by
      rw [hout]
      have := List.length_filter_le (fun v => decide (v ∉ e.l)) ((varsF e.t []).take k)
      rw [List.length_take] at this
      omega
    have htake : ((varsF e.t []).take (k + 1)).filter (fun v => decide (v ∉ e.l)) = out ++ (if v ∉ e.l then [v] else []) := by
      rw [List.take_add_one, List.getElem?_eq_getElem hlt, hv, List.filter_append, ← hout]
      congr 1
      by_cases h : v ∈ e.l
      · simp [h]
      · simp [h]
    have wk := wrapK hlt (by omega)
    have gb := (hG.born 24 z24).put S'.no (.cells (vT v)) hG.no
    have gb1 := ((Grow.refl hG.fresh nilV).born 24 z24).put S'.no (.cells (vT v)) (Nat.le_refl _)
    obtain ⟨r2, S2, e2, ⟨y, hr2, hy⟩, k2⟩ := apply40_ok (vTy v) nilV p m n _ (tyX_v v) (by simp [vTy, szT, szL]) (hs.grow gb) gb.fresh
    subst hr2
    have hoy := hy.okc
    have hsv : ((S'.born 24 z24).put S'.no (.cells (vT v))).obj S'.no = some (vT v) := by simp [put_obj]
    have o2 := k2.objs hsv (Nat.lt_succ_self _)
    have g2 := gb.two k2
    have n2 : S'.no < S2.no := Nat.lt_of_lt_of_le (Nat.lt_succ_self _) k2.no
    have gc := (g2.born 24 z24).put S2.no (.cells (tc (vTy v) y)) g2.no
    have gc1 := ((Grow.refl k2.fresh nilV).born 24 z24).put S2.no (.cells (tc (vTy v) y)) (Nat.le_refl _)
    have q0 : S.no ≠ S2.no := by omega
    have q1 : S'.no ≠ S2.no := by omega
    have hO1 : OwnV ((S'.born 24 z24).put S'.no (.cells (vT v))) 3 1 X (ints out) := hO
    have hO1' : OwnV S2 3 1 X (ints out) := hO1.grow k2 (fun _ _ _ _ _ _ e => by cases e)
    have hO2 : OwnV ((S2.born 24 z24).put S2.no (.cells (tc (vTy v) y))) 3 1 X (ints out) := hO1'
    have o3 : ((S2.born 24 z24).put S2.no (.cells (tc (vTy v) y))).obj S'.no = some (vT v) := gc1.objs o2 n2
    have o4 : ((S2.born 24 z24).put S2.no (.cells (tc (vTy v) y))).obj S2.no = some (tc (vTy v) y) := by simp [put_obj]
    have o5 := gc1.objs (k2.objs (gb1.objs ho hno) (Nat.lt_of_lt_of_le hno gb1.no)) (Nat.lt_of_lt_of_le (Nat.lt_of_lt_of_le hno gb1.no) k2.no)
    have n3 : S2.no < ((S2.born 24 z24).put S2.no (.cells (tc (vTy v) y))).no := Nat.lt_succ_self _
    obtain ⟨r3, S3, e3, rfl, k3⟩ := contains_ok e.X e.l v _ he.X hl gc.fresh
    have o6 := k3.objs o4 n3
    have o7 := k3.objs o3 (by omega)
    have o8 := k3.objs o5 (by omega)
    have n4 := Nat.lt_of_lt_of_le n3 k3.no
    have hO3 := hO2.grow k3 (fun _ _ _ _ _ _ e => by cases e)
    have g3 := gc.two k3
    simp only [tc_v] at e2
    simp only [z24, vT, tc, vTy, Ty.kind, Ty.name, Ty.var] at gb gb1 e2 hsv o2 gc gc1 hO2 o3 o4 o5 e3 o6 o7 o8 n4 hO3 g3 k3
    simp only [e_nil, e_skip, e_exit, e_ret, e_c_exit, e_blk_nrm, e_blk_exit, e_pop_ret, e_seq, e_block, e_reg_nil, e_cond, condK_true, condK_false, eo_move, eo_assign, eo_pick, eo_alloc, eo_box, eo_build, eo_load, eo_store, eo_bin, eo_un, eo_fieldAddr, eo_indexAddr, eo_builtin, opK_some, e_guard, guardK_same, guardK_tf, guardK_ft, guardK_passed, eq_self, true_and, and_true, op_bin, b_add, b_lss, List.map_cons, List.map_nil, op_move, op_assign, op_pick, pick_bool, op_un, un_not, Bool.not_false, Bool.not_true, load_e, cut_f, cut_t, List.getElem?_cons_zero, List.getElem?_cons_succ, List.length_cons, List.length_nil, List.drop_zero, List.drop_succ_cons, List.take_succ_cons, List.take_zero, len_vec, len_nil, ret_ret, ret_nrm, retV_some, pack1, pack2, res_nil, res_tmp, getT_setD, setD_none, getT_leaf, initTm_nil, initTm_cons, ev_tmp, ev_int, ev_bool, ev_str, ev_nilslice, int_int, Option.map_some, Option.map_none, cond_true, cond_false, if_true, if_false, reduceCtorEq, Nat.reduceEqDiff, Nat.reduceAdd, Nat.reduceSub, Nat.reduceMul, Nat.reduceBEq, Int.reduceLT, Int.reduceLE, Int.reduceToNat, Int.reduceBEq, Int.reduceBNe, decide_true, decide_false, reduceIte, load3, load24, store24, load32, app32, index32, len32, call14, call19, call35, call40, b39_10, r39_0, r39_1, r39_2, r39_3, r39_4, r39_5, r39_6, r39_7, r39_8, r39_9, r39_11, p39, t0, t3, t5, t12, t13, t14, dec_lt hlt, idxI hri hlt, hv, op_build, bld24_v, vT, alloc24, z24, st24 _ _ _ _ _ _ okn, born_obj, put_obj, Option.bind_some, Nat.le_refl, List.drop_nil, load_pb, Nat.zero_add]
    refine callK_of e2 ?_
    simp only [e_nil, e_skip, e_exit, e_ret, e_c_exit, e_blk_nrm, e_blk_exit, e_pop_ret, e_seq, e_block, e_reg_nil, e_cond, condK_true, condK_false, eo_move, eo_assign, eo_pick, eo_alloc, eo_box, eo_build, eo_load, eo_store, eo_bin, eo_un, eo_fieldAddr, eo_indexAddr, eo_builtin, opK_some, e_guard, guardK_same, guardK_tf, guardK_ft, guardK_passed, eq_self, true_and, and_true, op_bin, b_add, b_lss, List.map_cons, List.map_nil, op_move, op_assign, op_pick, pick_bool, op_un, un_not, Bool.not_false, Bool.not_true, load_e, cut_f, cut_t, List.getElem?_cons_zero, List.getElem?_cons_succ, List.length_cons, List.length_nil, List.drop_zero, List.drop_succ_cons, List.take_succ_cons, List.take_zero, len_vec, len_nil, ret_ret, ret_nrm, retV_some, pack1, pack2, res_nil, res_tmp, getT_setD, setD_none, getT_leaf, initTm_nil, initTm_cons, ev_tmp, ev_int, ev_bool, ev_str, ev_nilslice, int_int, Option.map_some, Option.map_none, cond_true, cond_false, if_true, if_false, reduceCtorEq, Nat.reduceEqDiff, Nat.reduceAdd, Nat.reduceSub, Nat.reduceMul, Nat.reduceBEq, Int.reduceLT, Int.reduceLE, Int.reduceToNat, Int.reduceBEq, Int.reduceBNe, decide_true, decide_false, reduceIte, load3, load24, store24, load32, app32, index32, len32, call14, call19, call35, call40, r39_0, r39_1, r39_2, r39_3, r39_4, r39_5, r39_6, r39_7, r39_8, r39_9, r39_11, p39, t0, t3, t5, t12, t13, t14, alloc24, z24, st24 _ _ _ _ _ _ hoy, born_obj, Option.bind_some, Nat.le_refl, List.drop_nil, load_pb, o5, fld34_0, fld_p, Nat.zero_add, Nat.add_zero]
    refine callK_of e3 ?_
    by_cases hvm : v ∈ e.l
    · have c1 : decide (v ∈ e.l) = true := by simpa using hvm
      obtain ⟨r4, S4, e4, rfl, k4⟩ := same_ok (vTy v) y nilV S3 hy (tyX_v v) k3.fresh
      simp only [tc, vTy, Ty.kind, Ty.name, Ty.var] at e4
      simp only [e_nil, e_skip, e_exit, e_ret, e_c_exit, e_blk_nrm, e_blk_exit, e_pop_ret, e_seq, e_block, e_reg_nil, e_cond, condK_true, condK_false, eo_move, eo_assign, eo_pick, eo_alloc, eo_box, eo_build, eo_load, eo_store, eo_bin, eo_un, eo_fieldAddr, eo_indexAddr, eo_builtin, opK_some, e_guard, guardK_same, guardK_tf, guardK_ft, guardK_passed, eq_self, true_and, and_true, op_bin, b_add, b_lss, List.map_cons, List.map_nil, op_move, op_assign, op_pick, pick_bool, op_un, un_not, Bool.not_false, Bool.not_true, load_e, cut_f, cut_t, List.getElem?_cons_zero, List.getElem?_cons_succ, List.length_cons, List.length_nil, List.drop_zero, List.drop_succ_cons, List.take_succ_cons, List.take_zero, len_vec, len_nil, ret_ret, ret_nrm, retV_some, pack1, pack2, res_nil, res_tmp, getT_setD, setD_none, getT_leaf, initTm_nil, initTm_cons, ev_tmp, ev_int, ev_bool, ev_str, ev_nilslice, int_int, Option.map_some, Option.map_none, cond_true, cond_false, if_true, if_false, reduceCtorEq, Nat.reduceEqDiff, Nat.reduceAdd, Nat.reduceSub, Nat.reduceMul, Nat.reduceBEq, Int.reduceLT, Int.reduceLE, Int.reduceToNat, Int.reduceBEq, Int.reduceBNe, decide_true, decide_false, reduceIte, load3, load24, store24, load32, app32, index32, len32, call14, call19, call35, call40, r39_0, r39_1, r39_2, r39_3, r39_4, r39_5, r39_6, r39_7, r39_8, r39_9, r39_11, p39, t0, t3, t5, t12, t13, t14, c1, load_pb, o6, o7, Option.bind_some, Nat.le_refl, Nat.zero_add]
      refine callK_of e4 ?_
      simp only [e_nil, e_skip, e_exit, e_ret, e_c_exit, e_blk_nrm, e_blk_exit, e_pop_ret, e_seq, e_block, e_reg_nil, e_cond, condK_true, condK_false, eo_move, eo_assign, eo_pick, eo_alloc, eo_box, eo_build, eo_load, eo_store, eo_bin, eo_un, eo_fieldAddr, eo_indexAddr, eo_builtin, opK_some, e_guard, guardK_same, guardK_tf, guardK_ft, guardK_passed, eq_self, true_and, and_true, op_bin, b_add, b_lss, List.map_cons, List.map_nil, op_move, op_assign, op_pick, pick_bool, op_un, un_not, Bool.not_false, Bool.not_true, load_e, cut_f, cut_t, List.getElem?_cons_zero, List.getElem?_cons_succ, List.length_cons, List.length_nil, List.drop_zero, List.drop_succ_cons, List.take_succ_cons, List.take_zero, len_vec, len_nil, ret_ret, ret_nrm, retV_some, pack1, pack2, res_nil, res_tmp, getT_setD, setD_none, getT_leaf, initTm_nil, initTm_cons, ev_tmp, ev_int, ev_bool, ev_str, ev_nilslice, int_int, Option.map_some, Option.map_none, cond_true, cond_false, if_true, if_false, reduceCtorEq, Nat.reduceEqDiff, Nat.reduceAdd, Nat.reduceSub, Nat.reduceMul, Nat.reduceBEq, Int.reduceLT, Int.reduceLE, Int.reduceToNat, Int.reduceBEq, Int.reduceBNe, decide_true, decide_false, reduceIte, load3, load24, store24, load32, app32, index32, len32, call14, call19, call35, call40, r39_0, r39_1, r39_2, r39_3, r39_4, r39_5, r39_6, r39_7, r39_8, r39_9, r39_11, p39, t0, t3, t5, t12, t13, t14, wk]
      refine ⟨(varsF e.t []).length - (k + 1), by omega, k + 1, _, _, by omega, rfl, ?_, hO3.grow k4 (fun _ _ _ _ _ _ e => by cases e), hN, g3.two k4, by have := k4.no; omega, k4.objs o8 (by omega), by simp [t0, t3, t5, t12, t13]⟩
      rw [htake, if_neg (by simpa using hvm), List.append_nil]
    · have c1 : decide (v ∈ e.l) = false := by simpa using hvm
      obtain ⟨r4, S4, e4, o4', k4, nb4⟩ := vars14_ok (vTy v) y S3 hy (by simp [vTy, szT, szL]) k3.fresh
      have hvf : varsF (vTy v) [] = [v] := rfl
      rw [hvf] at o4'
      have hO4 := hO3.grow k4 (fun _ _ _ _ _ _ e => by cases e)
      have g4 := g3.two k4
      obtain ⟨hap, hO5⟩ := append_ints k4.fresh hO4 o4'.is (by simp) (by simp; omega)
      simp only [tc, vTy, Ty.kind, Ty.name, Ty.var] at e4
      simp only [e_nil, e_skip, e_exit, e_ret, e_c_exit, e_blk_nrm, e_blk_exit, e_pop_ret, e_seq, e_block, e_reg_nil, e_cond, condK_true, condK_false, eo_move, eo_assign, eo_pick, eo_alloc, eo_box, eo_build, eo_load, eo_store, eo_bin, eo_un, eo_fieldAddr, eo_indexAddr, eo_builtin, opK_some, e_guard, guardK_same, guardK_tf, guardK_ft, guardK_passed, eq_self, true_and, and_true, op_bin, b_add, b_lss, List.map_cons, List.map_nil, op_move, op_assign, op_pick, pick_bool, op_un, un_not, Bool.not_false, Bool.not_true, load_e, cut_f, cut_t, List.getElem?_cons_zero, List.getElem?_cons_succ, List.length_cons, List.length_nil, List.drop_zero, List.drop_succ_cons, List.take_succ_cons, List.take_zero, len_vec, len_nil, ret_ret, ret_nrm, retV_some, pack1, pack2, res_nil, res_tmp, getT_setD, setD_none, getT_leaf, initTm_nil, initTm_cons, ev_tmp, ev_int, ev_bool, ev_str, ev_nilslice, int_int, Option.map_some, Option.map_none, cond_true, cond_false, if_true, if_false, reduceCtorEq, Nat.reduceEqDiff, Nat.reduceAdd, Nat.reduceSub, Nat.reduceMul, Nat.reduceBEq, Int.reduceLT, Int.reduceLE, Int.reduceToNat, Int.reduceBEq, Int.reduceBNe, decide_true, decide_false, reduceIte, load3, load24, store24, load32, app32, index32, len32, call14, call19, call35, call40, r39_0, r39_1, r39_2, r39_3, r39_4, r39_5, r39_6, r39_7, r39_8, r39_9, r39_11, p39, t0, t3, t5, t12, t13, t14, c1, load_pb, o6, o7, Option.bind_some, Nat.le_refl, Nat.zero_add]
      refine callK_of e4 ?_
      simp only [e_nil, e_skip, e_exit, e_ret, e_c_exit, e_blk_nrm, e_blk_exit, e_pop_ret, e_seq, e_block, e_reg_nil, e_cond, condK_true, condK_false, eo_move, eo_assign, eo_pick, eo_alloc, eo_box, eo_build, eo_load, eo_store, eo_bin, eo_un, eo_fieldAddr, eo_indexAddr, eo_builtin, opK_some, e_guard, guardK_same, guardK_tf, guardK_ft, guardK_passed, eq_self, true_and, and_true, op_bin, b_add, b_lss, List.map_cons, List.map_nil, op_move, op_assign, op_pick, pick_bool, op_un, un_not, Bool.not_false, Bool.not_true, load_e, cut_f, cut_t, List.getElem?_cons_zero, List.getElem?_cons_succ, List.length_cons, List.length_nil, List.drop_zero, List.drop_succ_cons, List.take_succ_cons, List.take_zero, len_vec, len_nil, ret_ret, ret_nrm, retV_some, pack1, pack2, res_nil, res_tmp, getT_setD, setD_none, getT_leaf, initTm_nil, initTm_cons, ev_tmp, ev_int, ev_bool, ev_str, ev_nilslice, int_int, Option.map_some, Option.map_none, cond_true, cond_false, if_true, if_false, reduceCtorEq, Nat.reduceEqDiff, Nat.reduceAdd, Nat.reduceSub, Nat.reduceMul, Nat.reduceBEq, Int.reduceLT, Int.reduceLE, Int.reduceToNat, Int.reduceBEq, Int.reduceBNe, decide_true, decide_false, reduceIte, load3, load24, store24, load32, app32, index32, len32, call14, call19, call35, call40, r39_0, r39_1, r39_2, r39_3, r39_4, r39_5, r39_6, r39_7, r39_8, r39_9, r39_11, p39, t0, t3, t5, t12, t13, t14, wk, hap]
      refine ⟨(varsF e.t []).length - (k + 1), by omega, k + 1, _, _, by omega, rfl, ?_, hO5, .inr ⟨_, _, _, rfl, g4.nid⟩, grow_app g4 hO4 hN, ?_, ?_, by simp [t0, t3, t12, t13]⟩
      · rw [htake, if_pos (by simpa using hvm)]
      · rw [appS_no]; have := k4.no; omega
      · rw [appS_obj]; exact k4.objs o8 (by omega)
end Go.Proofs.YtaacibffjmbfiaaDoor
