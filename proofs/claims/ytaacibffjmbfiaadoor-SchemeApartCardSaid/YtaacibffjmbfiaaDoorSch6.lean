/-
  Types of the small ML: some variables as others; schemes that may be; schemes opened.
-/
import Derived.Test.YtaacibffjmbfiaaDoorSch5
set_option linter.unusedSimpArgs false
set_option linter.unusedVariables false
set_option maxRecDepth 100000
namespace Go.Proofs.YtaacibffjmbfiaaDoor
open Go.Abs
def kvA (kvs : List (Int × Int)) : List (Int × AV) := kvs.map fun e => (e.1, .agg (vT e.2))
theorem findM_kvA (k : Int) : ∀ kvs, findM k (kvA kvs) = (findI k kvs).map fun z => .agg (vT z)
  | [] => rfl
  | e :: es => by
    have ih := findM_kvA k es
    simp only [kvA, List.map_cons, findM, findI] at ih ⊢
    by_cases h : k = e.1
    · rw [if_pos h, if_pos h]; rfl
    · rw [if_neg h, if_neg h, ih]
theorem setM_kvA (k z : Int) : ∀ kvs, setM k (.agg (vT z)) (kvA kvs) = kvA (setI k z kvs)
  | [] => rfl
  | e :: es => by
    have ih := setM_kvA k z es
    simp only [kvA, List.map_cons, setM, setI] at ih ⊢
    by_cases h : k = e.1
    · rw [if_pos h, if_pos h]; rfl
    · rw [if_neg h, if_neg h, ih]; rfl
def ofK (kvs : List (Int × Int)) : Int → Option Ty := fun v => (findI v kvs).map vTy
set_option maxHeartbeats 16000000 in
theorem renewed_ok (kvs : List (Int × Int)) (m : Nat) : ∀ t : Ty, ∀ (x : AV) (S : St), TyX t x → szT t ≤ 2 ^ 30 → S.IsMp m (kvA kvs) → m < S.no → S.Fresh → ∃ r S', EvA E 42 [.agg (tc t x), .mp m] S r S' ∧ (∃ y, r = .agg (tc (renF (ofK kvs) t) y) ∧ TyX (renF (ofK kvs) t) y) ∧ Grow S S' nilV := by
  refine ty_ind fun t ih x S hx hz hm hml hS => ?_
  refine ev42 rfl ?_
  have hoc := hx.okc
  have lx : ∀ S, lenV x S = some (.sc (.int .i64 (t.args.length : Nat)), S) := fun S => hx.len S
  have g0 := ((Grow.refl hS nilV).born 24 (tc t x)).born 24 z24
  have h0 : ((S.born 24 (tc t x)).born 24 z24).obj S.no = some (tc t x) := by simp [born_obj, born_no]
  have h1 : ((S.born 24 (tc t x)).born 24 z24).obj (S.no + 1) = some z24 := by simp [born_obj, born_no]
  have n0 : S.no + 1 < ((S.born 24 (tc t x)).born 24 z24).no := Nat.lt_succ_self _
  have hm0 := g0.isMp hm hml
  simp only [tc, z24] at g0 h0 h1 n0 hm0
  simp only [e_nil, e_skip, e_exit, e_ret, e_c_exit, e_blk_nrm, e_blk_exit, e_pop_ret, e_seq, e_block, e_reg_nil, e_cond, condK_true, condK_false, eo_move, eo_assign, eo_alloc, eo_box, eo_buildSlice, eo_load, eo_store, eo_bin, eo_lookup, eo_fieldAddr, eo_indexAddr, eo_extract, eo_builtin, opK_some, eq_self, true_and, and_true, op_bin, b_add, b_eql, b_lss, b_eqstr, List.map_cons, List.map_nil, op_move, op_assign, op_extract, extract_tup, Bool.not_false, Bool.not_true, load_e, cut_f, cut_t, List.getElem?_cons_zero, List.getElem?_cons_succ, List.length_cons, List.length_nil, List.drop_zero, List.drop_succ_cons, List.take_succ_cons, List.take_zero, len_vec, len_nil, ret_ret, ret_nrm, retV_some, pack1, pack2, res_nil, res_tmp, getT_setD, setD_none, getT_leaf, initTm_nil, initTm_cons, ev_tmp, ev_int, ev_bool, ev_str, ev_nilslice, int_int, Option.map_some, Option.map_none, cond_true, cond_false, if_true, if_false, reduceCtorEq, Nat.reduceEqDiff, Nat.reduceAdd, Nat.reduceSub, Nat.reduceMul, Nat.reduceBEq, Int.reduceLT, Int.reduceLE, Int.reduceToNat, Int.reduceBEq, Int.reduceBNe, decide_true, decide_false, reduceIte, load3, load22, store22, bs22, app22, index22, len22, load24, store24, call42, r42_0, r42_1, r42_2, r42_3, r42_4, r42_5, r42_6, r42_7, r42_8, r42_9, r42_10, r42_11, r42_12, r42_13, r42_15, p42, tc, z24, op_box, cells_agg, alloc24, born_no]
  generalize (S.born 24 [.sc (.int .i64 t.kind), .sc (.string t.name), .sc (.int .i64 t.var), x]).born 24 [.sc (.int .i64 0), .sc (.string ⟨#[]⟩), .sc (.int .i64 0), .sc (.slice none 0 0)] = S0 at g0 h0 h1 n0 hm0
  have q1 : (S.no + 1 = S0.no) = False := by simp; omega
  have q2 : (S.no = S0.no) = False := by simp; omega
  have q3 : (S0.no = S.no + 1) = False := by simp; omega
  by_cases b1 : t.kind = 7
  · have c1 : (t.kind == 7) = true := by simp [b1]
    rw [renF_eq, if_pos b1]
    simp only [ofK]
    have hlk := look70 hm0 t.var
    rw [findM_kvA] at hlk
    cases hf : findI t.var kvs with
    | some z =>
      rw [hf] at hlk
      simp only [Option.map_some, vT] at hlk
      have gb := ((g0.born 24 z24).put S0.no (.cells (vT z)) g0.no).put (S.no + 1) (.cells (vT z)) (Nat.le_succ _)
      simp only [z24, vT] at gb
      simp only [e_nil, e_skip, e_exit, e_ret, e_c_exit, e_blk_nrm, e_blk_exit, e_pop_ret, e_seq, e_block, e_reg_nil, e_cond, condK_true, condK_false, eo_move, eo_assign, eo_alloc, eo_box, eo_buildSlice, eo_load, eo_store, eo_bin, eo_lookup, eo_fieldAddr, eo_indexAddr, eo_extract, eo_builtin, opK_some, eq_self, true_and, and_true, op_bin, b_add, b_eql, b_lss, b_eqstr, List.map_cons, List.map_nil, op_move, op_assign, op_extract, extract_tup, Bool.not_false, Bool.not_true, load_e, cut_f, cut_t, List.getElem?_cons_zero, List.getElem?_cons_succ, List.length_cons, List.length_nil, List.drop_zero, List.drop_succ_cons, List.take_succ_cons, List.take_zero, len_vec, len_nil, ret_ret, ret_nrm, retV_some, pack1, pack2, res_nil, res_tmp, getT_setD, setD_none, getT_leaf, initTm_nil, initTm_cons, ev_tmp, ev_int, ev_bool, ev_str, ev_nilslice, int_int, Option.map_some, Option.map_none, cond_true, cond_false, if_true, if_false, reduceCtorEq, Nat.reduceEqDiff, Nat.reduceAdd, Nat.reduceSub, Nat.reduceMul, Nat.reduceBEq, Int.reduceLT, Int.reduceLE, Int.reduceToNat, Int.reduceBEq, Int.reduceBNe, decide_true, decide_false, reduceIte, load3, load22, store22, bs22, app22, index22, len22, load24, store24, call42, r42_0, r42_1, r42_2, r42_3, r42_4, r42_5, r42_6, r42_7, r42_8, r42_9, r42_10, r42_11, r42_12, r42_13, r42_15, p42, load_pb, h0, h1, fld24_0, fld24_2, fld_p, c1, op_lookup, hlk, extract_tup, alloc24, z24, st24 _ _ _ _ _ _ okn, born_obj, put_obj, q1, q2, q3, Option.bind_some, Nat.zero_add, Nat.add_zero, Nat.le_refl, List.drop_nil, res24]
      exact ⟨⟨nilV, rfl, tyX_v z⟩, gb⟩
    | none =>
      rw [hf] at hlk
      simp only [Option.map_none] at hlk
      have gb := ((g0.born 24 z24).put S0.no (.cells z24) g0.no).put (S.no + 1) (.cells (tc t x)) (Nat.le_succ _)
      simp only [z24, tc] at gb
      simp only [e_nil, e_skip, e_exit, e_ret, e_c_exit, e_blk_nrm, e_blk_exit, e_pop_ret, e_seq, e_block, e_reg_nil, e_cond, condK_true, condK_false, eo_move, eo_assign, eo_alloc, eo_box, eo_buildSlice, eo_load, eo_store, eo_bin, eo_lookup, eo_fieldAddr, eo_indexAddr, eo_extract, eo_builtin, opK_some, eq_self, true_and, and_true, op_bin, b_add, b_eql, b_lss, b_eqstr, List.map_cons, List.map_nil, op_move, op_assign, op_extract, extract_tup, Bool.not_false, Bool.not_true, load_e, cut_f, cut_t, List.getElem?_cons_zero, List.getElem?_cons_succ, List.length_cons, List.length_nil, List.drop_zero, List.drop_succ_cons, List.take_succ_cons, List.take_zero, len_vec, len_nil, ret_ret, ret_nrm, retV_some, pack1, pack2, res_nil, res_tmp, getT_setD, setD_none, getT_leaf, initTm_nil, initTm_cons, ev_tmp, ev_int, ev_bool, ev_str, ev_nilslice, int_int, Option.map_some, Option.map_none, cond_true, cond_false, if_true, if_false, reduceCtorEq, Nat.reduceEqDiff, Nat.reduceAdd, Nat.reduceSub, Nat.reduceMul, Nat.reduceBEq, Int.reduceLT, Int.reduceLE, Int.reduceToNat, Int.reduceBEq, Int.reduceBNe, decide_true, decide_false, reduceIte, load3, load22, store22, bs22, app22, index22, len22, load24, store24, call42, r42_0, r42_1, r42_2, r42_3, r42_4, r42_5, r42_6, r42_7, r42_8, r42_9, r42_10, r42_11, r42_12, r42_13, r42_15, p42, load_pb, h0, h1, fld24_0, fld24_2, fld_p, c1, op_lookup, hlk, extract_tup, alloc24, z24, st24 _ _ _ _ _ _ okn, st24 _ _ _ _ _ _ hoc, born_obj, put_obj, q1, q2, q3, Option.bind_some, Nat.zero_add, Nat.add_zero, Nat.le_refl, List.drop_nil, res24]
      exact ⟨⟨x, rfl, hx⟩, gb⟩
  have c1 : (t.kind == 7) = false := by simp [b1]
  rw [renF_eq, if_neg b1]
  have g2 := ((g0.born 24 z24).put S0.no (.cells (tc t x)) g0.no).put S0.no (.cells (tc t nilV)) g0.no
  simp only [z24, tc] at g2
  simp only [e_nil, e_skip, e_exit, e_ret, e_c_exit, e_blk_nrm, e_blk_exit, e_pop_ret, e_seq, e_block, e_reg_nil, e_cond, condK_true, condK_false, eo_move, eo_assign, eo_alloc, eo_box, eo_buildSlice, eo_load, eo_store, eo_bin, eo_lookup, eo_fieldAddr, eo_indexAddr, eo_extract, eo_builtin, opK_some, eq_self, true_and, and_true, op_bin, b_add, b_eql, b_lss, b_eqstr, List.map_cons, List.map_nil, op_move, op_assign, op_extract, extract_tup, Bool.not_false, Bool.not_true, load_e, cut_f, cut_t, List.getElem?_cons_zero, List.getElem?_cons_succ, List.length_cons, List.length_nil, List.drop_zero, List.drop_succ_cons, List.take_succ_cons, List.take_zero, len_vec, len_nil, ret_ret, ret_nrm, retV_some, pack1, pack2, res_nil, res_tmp, getT_setD, setD_none, getT_leaf, initTm_nil, initTm_cons, ev_tmp, ev_int, ev_bool, ev_str, ev_nilslice, int_int, Option.map_some, Option.map_none, cond_true, cond_false, if_true, if_false, reduceCtorEq, Nat.reduceEqDiff, Nat.reduceAdd, Nat.reduceSub, Nat.reduceMul, Nat.reduceBEq, Int.reduceLT, Int.reduceLE, Int.reduceToNat, Int.reduceBEq, Int.reduceBNe, decide_true, decide_false, reduceIte, load3, load22, store22, bs22, app22, index22, len22, load24, store24, call42, r42_0, r42_1, r42_2, r42_3, r42_4, r42_5, r42_6, r42_7, r42_8, r42_9, r42_10, r42_11, r42_12, r42_13, r42_15, p42, load_pb, h0, h1, st24 _ _ _ _ _ _ hoc, put_obj, put_no, born_obj, q1, q2, q3, fld24_0, fld24_3, fld_p, alloc24, z24, st_nil, Option.bind_some, Nat.zero_add, Nat.add_zero, Nat.le_refl, List.drop_nil, lx, c1, List.set_cons_succ, List.set_cons_zero, Nat.reduceLT]
  refine e_loop (fun tm S' N => ∃ (k : Nat) (X : AV) (ys : List AV), k ≤ t.args.length ∧ N = t.args.length - k ∧ OwnV S' 24 4 X ys ∧ TysC ((renL (ofK kvs) t.args).take k) ys ∧ NewG S X ∧ Grow S S' nilV ∧ S0.no < S'.no ∧
    S'.obj S0.no = some [.sc (.int .i64 t.kind), .sc (.string t.name), .sc (.int .i64 t.var), X] ∧ S'.obj (S.no + 1) = some [.sc (.int .i64 0), .sc (.string ⟨#[]⟩), .sc (.int .i64 0), .sc (.slice none 0 0)] ∧
      getT tm 1 = .mp m ∧ getT tm 4 = .ptr (S.no + 1) 0 ∧ getT tm 7 = .ptr S0.no 0 ∧ getT tm 26 = x ∧ getT tm 27 = .sc (.int .i64 (t.args.length : Nat)) ∧ getT tm 28 = .sc (.int .i64 (k : Int))) t.args.length
    ⟨0, nilV, [], by omega, by omega, .inl ⟨rfl, rfl⟩, rfl, .inl rfl, g2, Nat.lt_succ_self _, by simp [put_obj], by simp [put_obj, born_obj, put_no, q1, h1], by simp [getT_setD]⟩ ?_
  rintro tm S' N ⟨k, X, ys, hk, rfl, hO, hT, hN, hG, hno, ho, ho1, t1, t4, t7, t26, t27, t28⟩
  by_cases hlt : k < t.args.length
  case neg =>
    have hke : k = (renL (ofK kvs) t.args).length := by rw [renL_len]; omega
    rw [hke, List.take_length] at hT
    have hox : okCell X = true := by rcases hO with ⟨rfl, _⟩ | ⟨id, rfl, _⟩ <;> rfl
    simp only [e_nil, e_skip, e_exit, e_ret, e_c_exit, e_blk_nrm, e_blk_exit, e_pop_ret, e_seq, e_block, e_reg_nil, e_cond, condK_true, condK_false, eo_move, eo_assign, eo_alloc, eo_box, eo_buildSlice, eo_load, eo_store, eo_bin, eo_lookup, eo_fieldAddr, eo_indexAddr, eo_extract, eo_builtin, opK_some, eq_self, true_and, and_true, op_bin, b_add, b_eql, b_lss, b_eqstr, List.map_cons, List.map_nil, op_move, op_assign, op_extract, extract_tup, Bool.not_false, Bool.not_true, load_e, cut_f, cut_t, List.getElem?_cons_zero, List.getElem?_cons_succ, List.length_cons, List.length_nil, List.drop_zero, List.drop_succ_cons, List.take_succ_cons, List.take_zero, len_vec, len_nil, ret_ret, ret_nrm, retV_some, pack1, pack2, res_nil, res_tmp, getT_setD, setD_none, getT_leaf, initTm_nil, initTm_cons, ev_tmp, ev_int, ev_bool, ev_str, ev_nilslice, int_int, Option.map_some, Option.map_none, cond_true, cond_false, if_true, if_false, reduceCtorEq, Nat.reduceEqDiff, Nat.reduceAdd, Nat.reduceSub, Nat.reduceMul, Nat.reduceBEq, Int.reduceLT, Int.reduceLE, Int.reduceToNat, Int.reduceBEq, Int.reduceBNe, decide_true, decide_false, reduceIte, load3, load22, store22, bs22, app22, index22, len22, load24, store24, call42, b42_14, r42_0, r42_1, r42_2, r42_3, r42_4, r42_5, r42_6, r42_7, r42_8, r42_9, r42_10, r42_11, r42_12, r42_13, r42_15, p42, t1, t4, t7, t26, t27, t28, dec_nlt hlt, load_pb, ho, ho1, Option.bind_some, Nat.zero_add, Nat.add_zero, Nat.le_refl, List.drop_nil, st24 _ _ _ _ _ _ hox, put_obj, res24]
    exact ⟨⟨X, rfl, ys, hO.is, hT, by simp only [Ty.args, renL_len]; exact hx.lt⟩, hG.put _ _ (Nat.le_succ _)⟩
  case pos =>
    obtain ⟨xa, hxa, hix⟩ := hx.at hlt
    have hoa := hxa.okc
    have gb := (hG.born 24 z24).put S'.no (.cells (tc t.args[k] xa)) hG.no
    have gb1 := ((Grow.refl hG.fresh nilV).born 24 z24).put S'.no (.cells (tc t.args[k] xa)) (Nat.le_refl _)
    simp only [z24, tc] at gb gb1
    simp only [e_nil, e_skip, e_exit, e_ret, e_c_exit, e_blk_nrm, e_blk_exit, e_pop_ret, e_seq, e_block, e_reg_nil, e_cond, condK_true, condK_false, eo_move, eo_assign, eo_alloc, eo_box, eo_buildSlice, eo_load, eo_store, eo_bin, eo_lookup, eo_fieldAddr, eo_indexAddr, eo_extract, eo_builtin, opK_some, eq_self, true_and, and_true, op_bin, b_add, b_eql, b_lss, b_eqstr, List.map_cons, List.map_nil, op_move, op_assign, op_extract, extract_tup, Bool.not_false, Bool.not_true, load_e, cut_f, cut_t, List.getElem?_cons_zero, List.getElem?_cons_succ, List.length_cons, List.length_nil, List.drop_zero, List.drop_succ_cons, List.take_succ_cons, List.take_zero, len_vec, len_nil, ret_ret, ret_nrm, retV_some, pack1, pack2, res_nil, res_tmp, getT_setD, setD_none, getT_leaf, initTm_nil, initTm_cons, ev_tmp, ev_int, ev_bool, ev_str, ev_nilslice, int_int, Option.map_some, Option.map_none, cond_true, cond_false, if_true, if_false, reduceCtorEq, Nat.reduceEqDiff, Nat.reduceAdd, Nat.reduceSub, Nat.reduceMul, Nat.reduceBEq, Int.reduceLT, Int.reduceLE, Int.reduceToNat, Int.reduceBEq, Int.reduceBNe, decide_true, decide_false, reduceIte, load3, load22, store22, bs22, app22, index22, len22, load24, store24, call42, b42_14, r42_0, r42_1, r42_2, r42_3, r42_4, r42_5, r42_6, r42_7, r42_8, r42_9, r42_10, r42_11, r42_12, r42_13, r42_15, p42, t1, t4, t7, t26, t27, t28, dec_lt hlt, hix, tc, alloc24, z24, st24 _ _ _ _ _ _ hoa, born_obj, put_obj, Option.bind_some, Nat.le_refl, List.drop_nil, Nat.zero_add]
    have ho' := gb1.objs ho hno
    have ho1' := gb1.objs ho1 (by omega)
    have hsx : ((S'.born 24 [.sc (.int .i64 0), .sc (.string ⟨#[]⟩), .sc (.int .i64 0), .sc (.slice none 0 0)]).put S'.no (.cells [.sc (.int .i64 t.args[k].kind), .sc (.string t.args[k].name), .sc (.int .i64 t.args[k].var), xa])).obj S'.no = some [.sc (.int .i64 t.args[k].kind), .sc (.string t.args[k].name), .sc (.int .i64 t.args[k].var), xa] := by simp [put_obj]
    have hnn : S'.no < ((S'.born 24 [.sc (.int .i64 0), .sc (.string ⟨#[]⟩), .sc (.int .i64 0), .sc (.slice none 0 0)]).put S'.no (.cells [.sc (.int .i64 t.args[k].kind), .sc (.string t.args[k].name), .sc (.int .i64 t.args[k].var), xa])).no := Nat.lt_succ_self _
    have hO' : OwnV ((S'.born 24 [.sc (.int .i64 0), .sc (.string ⟨#[]⟩), .sc (.int .i64 0), .sc (.slice none 0 0)]).put S'.no (.cells [.sc (.int .i64 t.args[k].kind), .sc (.string t.args[k].name), .sc (.int .i64 t.args[k].var), xa])) 24 4 X ys := hO
    generalize (S'.born 24 [.sc (.int .i64 0), .sc (.string ⟨#[]⟩), .sc (.int .i64 0), .sc (.slice none 0 0)]).put S'.no (.cells [.sc (.int .i64 t.args[k].kind), .sc (.string t.args[k].name), .sc (.int .i64 t.args[k].var), xa]) = S3 at gb gb1 ho' ho1' hsx hnn hO'
    have gr := Grow.raise gb.fresh 9 nilV
    have lk3 : S0.no < S3.no := Nat.lt_of_lt_of_le hno gb1.no
    have hg3 := gb.two gr
    obtain ⟨r2, S2, e2, ⟨y, rfl, hy⟩, k2⟩ := ih t.args[k] (List.getElem_mem hlt) xa (S3.raise 9) hxa (by have := sz_arg (List.getElem_mem hlt); omega) (hg3.isMp hm hml) (Nat.lt_of_lt_of_le hml hg3.no) gr.fresh
    have hlt2 : k < (renL (ofK kvs) t.args).length := by rw [renL_len]; exact hlt
    have hat := renL_at (ofK kvs) t.args k hlt
    rw [← hat] at hy e2
    generalize hu : (renL (ofK kvs) t.args)[k] = u at hy e2 hat
    have hT2 : TysC ((renL (ofK kvs) t.args).take (k + 1)) (ys ++ [.agg (tc u y)]) := by
      rw [← hu]; exact tysC_take hlt2 hT (by rw [hu]; exact hy)
    simp only [tc] at e2 hT2
    have gk := gr.two k2
    have hoy := hy.okc
    have ho2 := gk.objs ho' lk3
    have ho12 := gk.objs ho1' (by omega)
    have hO2 : OwnV S2 24 4 X ys := hO'.grow gk (fun _ _ _ _ _ _ e => by cases e)
    have hlen : ys.length ≤ 2 ^ 30 := by
      have h1 := hT.len
      have h2 := args_sz t
      rw [List.length_take] at h1
      omega
    obtain ⟨hap, hO3⟩ := append_ty gk.fresh hO2 hlen u.kind u.var u.name y hoy
    have wk := wrapK hlt (by have := hx.lt; omega)
    have hapo : ∀ l, (appS 24 S2 X).obj l = S2.obj l := fun l => by
      unfold appS
      split
      · cases (_ || _) <;> rfl
      · rfl
    have hapn : (appS 24 S2 X).no = S2.no := by
      unfold appS
      split
      · cases (_ || _) <;> rfl
      · rfl
    refine e_drawC noX draw42_0 ?_
    simp only [e_nil, e_skip, e_exit, e_ret, e_c_exit, e_blk_nrm, e_blk_exit, e_pop_ret, e_seq, e_block, e_reg_nil, e_cond, condK_true, condK_false, eo_move, eo_assign, eo_alloc, eo_box, eo_buildSlice, eo_load, eo_store, eo_bin, eo_lookup, eo_fieldAddr, eo_indexAddr, eo_extract, eo_builtin, opK_some, eq_self, true_and, and_true, op_bin, b_add, b_eql, b_lss, b_eqstr, List.map_cons, List.map_nil, op_move, op_assign, op_extract, extract_tup, Bool.not_false, Bool.not_true, load_e, cut_f, cut_t, List.getElem?_cons_zero, List.getElem?_cons_succ, List.length_cons, List.length_nil, List.drop_zero, List.drop_succ_cons, List.take_succ_cons, List.take_zero, len_vec, len_nil, ret_ret, ret_nrm, retV_some, pack1, pack2, res_nil, res_tmp, getT_setD, setD_none, getT_leaf, initTm_nil, initTm_cons, ev_tmp, ev_int, ev_bool, ev_str, ev_nilslice, int_int, Option.map_some, Option.map_none, cond_true, cond_false, if_true, if_false, reduceCtorEq, Nat.reduceEqDiff, Nat.reduceAdd, Nat.reduceSub, Nat.reduceMul, Nat.reduceBEq, Int.reduceLT, Int.reduceLE, Int.reduceToNat, Int.reduceBEq, Int.reduceBNe, decide_true, decide_false, reduceIte, load3, load22, store22, bs22, app22, index22, len22, load24, store24, call42, r42_0, r42_1, r42_2, r42_3, r42_4, r42_5, r42_6, r42_7, r42_8, r42_9, r42_10, r42_11, r42_12, r42_13, r42_15, p42, t1, t7, fld24_3, fld_p, load_pb, gr.objs ho' lk3, gr.objs hsx hnn, Option.bind_some, Nat.zero_add, Nat.add_zero, Nat.le_refl]
    refine callK_of e2 ?_
    simp only [e_nil, e_skip, e_exit, e_ret, e_c_exit, e_blk_nrm, e_blk_exit, e_pop_ret, e_seq, e_block, e_reg_nil, e_cond, condK_true, condK_false, eo_move, eo_assign, eo_alloc, eo_box, eo_buildSlice, eo_load, eo_store, eo_bin, eo_lookup, eo_fieldAddr, eo_indexAddr, eo_extract, eo_builtin, opK_some, eq_self, true_and, and_true, op_bin, b_add, b_eql, b_lss, b_eqstr, List.map_cons, List.map_nil, op_move, op_assign, op_extract, extract_tup, Bool.not_false, Bool.not_true, load_e, cut_f, cut_t, List.getElem?_cons_zero, List.getElem?_cons_succ, List.length_cons, List.length_nil, List.drop_zero, List.drop_succ_cons, List.take_succ_cons, List.take_zero, len_vec, len_nil, ret_ret, ret_nrm, retV_some, pack1, pack2, res_nil, res_tmp, getT_setD, setD_none, getT_leaf, initTm_nil, initTm_cons, ev_tmp, ev_int, ev_bool, ev_str, ev_nilslice, int_int, Option.map_some, Option.map_none, cond_true, cond_false, if_true, if_false, reduceCtorEq, Nat.reduceEqDiff, Nat.reduceAdd, Nat.reduceSub, Nat.reduceMul, Nat.reduceBEq, Int.reduceLT, Int.reduceLE, Int.reduceToNat, Int.reduceBEq, Int.reduceBNe, decide_true, decide_false, reduceIte, load3, load22, store22, bs22, app22, index22, len22, load24, store24, call42, r42_0, r42_1, r42_2, r42_3, r42_4, r42_5, r42_6, r42_7, r42_8, r42_9, r42_10, r42_11, r42_12, r42_13, r42_15, p42, t1, t4, t7, t26, t27, t28, safe_cons, safe_nil, safe_grow lk3 gk, Bool.and_self, bs22t _ _ _ _ hoy, hap, fld24_3, fld_p, st_vec, hapo, ho2, Option.bind_some, Nat.zero_add, Nat.add_zero, List.set_cons_succ, List.set_cons_zero, Nat.reduceLT, wk]
    refine ⟨t.args.length - (k + 1), by omega, k + 1, _, _, by omega, rfl, hO3, hT2, .inr ⟨_, _, _, rfl, Nat.le_trans gb.nid gk.nid⟩, ?_, ?_, ?_, ?_, by simp [t1, t4, t7, t26, t27]⟩
    · exact (grow_app (gb.two gk) hO2 hN).put _ _ g0.no
    · rw [put_no, hapn]; exact Nat.lt_of_lt_of_le lk3 gk.no
    · simp only [put_obj, if_true]
    · simp only [put_obj, q1, if_false, hapo]; exact ho12
end Go.Proofs.YtaacibffjmbfiaaDoor
