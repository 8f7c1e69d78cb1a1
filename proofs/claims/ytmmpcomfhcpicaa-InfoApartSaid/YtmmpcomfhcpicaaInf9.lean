/-
  The laws of chapter 16: awake, heavy, own.
-/
import Derived.Test.YtmmpcomfhcpicaaInf3
set_option linter.unusedSimpArgs false
set_option linter.unusedVariables false
set_option maxRecDepth 100000
namespace Go.Abs
def ranB2 (S' : St) : Bool := ranB S' && Nat.beq (S'.ver 1) 0
def ranTrue2 (r : Option (AV × St)) : Bool := match r with
  | some (.sc (.bool true), S') => ranB2 S'
  | _ => false
theorem of_ranTrue2 {E : Env} (hX : EvoX E) {lf n : Nat} {f : FuncId} {args : List AV} {S : St} (h1 : S.no ≤ 2) (h2 : S.nid = 3) (h3 : S.spent = .leaf) (h4 : S.ity = .leaf) (h5 : S.wr = .leaf) (h : ranTrue2 (evF E lf n f args S) = true) :
    ∃ S', EvA E f args S (.sc (.bool true)) S' ∧ Grow S S' nilV := by
  unfold ranTrue2 at h
  split at h
  · rename_i S' he
    have hev := evF_evo hX.evo lf n f args S _ S' he
    refine ⟨S', ev_run he, ?_⟩
    simp only [ranB2, ranB, Bool.and_eq_true] at h
    obtain ⟨⟨⟨⟨⟨⟨⟨⟨⟨k1, k2⟩, k3⟩, a0⟩, a1⟩, a2⟩, b0⟩, b1⟩, b2⟩, k4⟩ := h
    have k1 : 2 < S'.nid := Nat.le_of_ble_eq_true k1
    have k3 := Nat.eq_of_beq_eq_true k3
    have k4 := Nat.eq_of_beq_eq_true k4
    have v0 : ∀ l, S.ver l = 0 := fun l => by simp [St.ver, h5]
    have hver : ∀ l, l < S.no → S'.ver l = S.ver l := fun l hl => by
      match l, (by omega : l < 2) with
      | 0, _ => rw [k3, v0]
      | 1, _ => rw [k4, v0]
    refine ⟨by omega, fun id hid _ => ?_, fun id hid => ?_, hev.no, fun l hl => (hev.obj l hl (hver l hl).symm).1, ⟨k1, fun i hi => ?_⟩, hver⟩
    · rw [h3]
      match id, (by omega : id < 3) with
      | 0, _ => simpa using a0
      | 1, _ => simpa using a1
      | 2, _ => simpa using a2
    · rw [h4]
      match id, (by omega : id < 3) with
      | 0, _ => simpa using b0
      | 1, _ => simpa using b1
      | 2, _ => simpa using b2
    · cases hg : S'.spent.get i with
      | none => rfl
      | some u =>
        have := PM.allB_get _ _ _ _ k2 hg
        have : i < S'.nid := Nat.le_of_ble_eq_true this
        omega
  · cases h
end Go.Abs
namespace Go.Proofs.Ytmmpcomfhcpicaa
open Go.Abs
theorem awake1_ok (x y : AV) : ∃ S', EvA E 7 [] (Abs.S0.born 25 [x, y]) (.sc (.bool true)) S' ∧ Grow (Abs.S0.born 25 [x, y]) S' nilV :=
  of_ranTrue noX rfl rfl rfl rfl rfl (lf := 200) (n := 60) (by kernel_rfl)
theorem awake2_ok (x y z w : AV) : ∃ S', EvA E 7 [] ((Abs.S0.born 25 [x, y]).born 25 [z, w]) (.sc (.bool true)) S' ∧ Grow ((Abs.S0.born 25 [x, y]).born 25 [z, w]) S' nilV :=
  of_ranTrue2 noX (show (2 : Nat) ≤ 2 by decide) rfl rfl rfl rfl (lf := 200) (n := 60) (by kernel_rfl)
/-- More than is asked of? -/
def HeavyT (ss : List StopV) (vs : List VarV) : Prop := 40 < ss.length ∨ 40 < vs.length ∨ ∃ v ∈ vs, 250 < v.name.size ∨ 300 < v.typ.size
set_option maxHeartbeats 16000000 in
theorem heavy_ok (ss : List StopV) (vs : List VarV) (x y : AV) (hx : IsV 4 x (stopsA ss)) (hy : IsV 6 y (varsA vs)) (S : St) (hS : S.Fresh) : ∃ r S', EvA E 8 [.agg [x, y]] S r S' ∧ (∃ b, r = .sc (.bool b) ∧ (b = true ↔ HeavyT ss vs)) ∧ Grow S S' nilV := by
  refine ev8 rfl ?_
  have g0 := (Grow.refl hS nilV).born 25 [x, y]
  have h0 : (S.born 25 [x, y]).obj S.no = some [x, y] := by simp [born_obj]
  simp only [e_nil, e_skip, e_exit, e_ret, e_c_exit, e_blk_nrm, e_blk_exit, e_pop_ret, e_seq, e_block, e_reg_nil, e_cond, condK_true, condK_false, eo_move, eo_assign, eo_pick, eo_box, eo_load, eo_bin, eo_fieldAddr, eo_indexAddr, eo_builtin, opK_some, e_guard, guardK_same, guardK_tf, guardK_ft, guardK_passed, eq_self, true_and, and_true, op_bin, b_add, b_lss, b_gtr, List.map_cons, List.map_nil, op_move, op_assign, op_pick, pick_bool, Bool.not_false, Bool.not_true, load_e, cut_f, cut_t, List.getElem?_cons_zero, List.getElem?_cons_succ, List.length_cons, List.length_nil, List.drop_zero, List.drop_succ_cons, List.take_succ_cons, List.take_zero, len_vec, len_nil, ret_ret, ret_nrm, retV_some, pack1, pack2, res_nil, res_tmp, getT_setD, setD_none, getT_leaf, initTm_nil, initTm_cons, ev_tmp, ev_int, ev_bool, ev_str, ev_nilslice, int_int, Option.map_some, Option.map_none, cond_true, cond_false, if_true, if_false, reduceCtorEq, Nat.reduceEqDiff, Nat.reduceAdd, Nat.reduceSub, Nat.reduceMul, Nat.reduceBEq, Int.reduceLT, Int.reduceLE, Int.reduceToNat, Int.reduceBEq, Int.reduceBNe, decide_true, decide_false, reduceIte, load9, load22, len22, load23, index23, len23, r8_0, r8_1, r8_2, r8_3, r8_4, r8_5, r8_6, r8_7, r8_9, p8, op_box, cells_agg]
  generalize S.born 25 [x, y] = S0 at g0 h0
  by_cases h1 : 40 < ss.length
  · have c1 : decide ((40 : Int) < ((ss.length : Nat) : Int)) = true := by simp only [decide_eq_true_eq]; omega
    simp only [e_nil, e_skip, e_exit, e_ret, e_c_exit, e_blk_nrm, e_blk_exit, e_pop_ret, e_seq, e_block, e_reg_nil, e_cond, condK_true, condK_false, eo_move, eo_assign, eo_pick, eo_box, eo_load, eo_bin, eo_fieldAddr, eo_indexAddr, eo_builtin, opK_some, e_guard, guardK_same, guardK_tf, guardK_ft, guardK_passed, eq_self, true_and, and_true, op_bin, b_add, b_lss, b_gtr, List.map_cons, List.map_nil, op_move, op_assign, op_pick, pick_bool, Bool.not_false, Bool.not_true, load_e, cut_f, cut_t, List.getElem?_cons_zero, List.getElem?_cons_succ, List.length_cons, List.length_nil, List.drop_zero, List.drop_succ_cons, List.take_succ_cons, List.take_zero, len_vec, len_nil, ret_ret, ret_nrm, retV_some, pack1, pack2, res_nil, res_tmp, getT_setD, setD_none, getT_leaf, initTm_nil, initTm_cons, ev_tmp, ev_int, ev_bool, ev_str, ev_nilslice, int_int, Option.map_some, Option.map_none, cond_true, cond_false, if_true, if_false, reduceCtorEq, Nat.reduceEqDiff, Nat.reduceAdd, Nat.reduceSub, Nat.reduceMul, Nat.reduceBEq, Int.reduceLT, Int.reduceLE, Int.reduceToNat, Int.reduceBEq, Int.reduceBNe, decide_true, decide_false, reduceIte, load9, load22, len22, load23, index23, len23, r8_0, r8_1, r8_2, r8_3, r8_4, r8_5, r8_6, r8_7, r8_9, p8, load_pb, h0, fld25_0, fld_p, Option.bind_some, Nat.add_zero, lenS_ hx, c1]
    exact ⟨⟨true, rfl, by simp only [true_iff]; exact .inl h1⟩, g0⟩
  have c1 : decide ((40 : Int) < ((ss.length : Nat) : Int)) = false := by simp only [decide_eq_false_iff_not]; omega
  by_cases h2 : 40 < vs.length
  · have c2 : decide ((40 : Int) < ((vs.length : Nat) : Int)) = true := by simp only [decide_eq_true_eq]; omega
    simp only [e_nil, e_skip, e_exit, e_ret, e_c_exit, e_blk_nrm, e_blk_exit, e_pop_ret, e_seq, e_block, e_reg_nil, e_cond, condK_true, condK_false, eo_move, eo_assign, eo_pick, eo_box, eo_load, eo_bin, eo_fieldAddr, eo_indexAddr, eo_builtin, opK_some, e_guard, guardK_same, guardK_tf, guardK_ft, guardK_passed, eq_self, true_and, and_true, op_bin, b_add, b_lss, b_gtr, List.map_cons, List.map_nil, op_move, op_assign, op_pick, pick_bool, Bool.not_false, Bool.not_true, load_e, cut_f, cut_t, List.getElem?_cons_zero, List.getElem?_cons_succ, List.length_cons, List.length_nil, List.drop_zero, List.drop_succ_cons, List.take_succ_cons, List.take_zero, len_vec, len_nil, ret_ret, ret_nrm, retV_some, pack1, pack2, res_nil, res_tmp, getT_setD, setD_none, getT_leaf, initTm_nil, initTm_cons, ev_tmp, ev_int, ev_bool, ev_str, ev_nilslice, int_int, Option.map_some, Option.map_none, cond_true, cond_false, if_true, if_false, reduceCtorEq, Nat.reduceEqDiff, Nat.reduceAdd, Nat.reduceSub, Nat.reduceMul, Nat.reduceBEq, Int.reduceLT, Int.reduceLE, Int.reduceToNat, Int.reduceBEq, Int.reduceBNe, decide_true, decide_false, reduceIte, load9, load22, len22, load23, index23, len23, r8_0, r8_1, r8_2, r8_3, r8_4, r8_5, r8_6, r8_7, r8_9, p8, load_pb, h0, fld25_0, fld25_1, fld_p, Option.bind_some, Nat.add_zero, Nat.zero_add, lenS_ hx, lenV_ hy, c1, c2]
    exact ⟨⟨true, rfl, by simp only [true_iff]; exact .inr (.inl h2)⟩, g0⟩
  have c2 : decide ((40 : Int) < ((vs.length : Nat) : Int)) = false := by simp only [decide_eq_false_iff_not]; omega
  simp only [e_nil, e_skip, e_exit, e_ret, e_c_exit, e_blk_nrm, e_blk_exit, e_pop_ret, e_seq, e_block, e_reg_nil, e_cond, condK_true, condK_false, eo_move, eo_assign, eo_pick, eo_box, eo_load, eo_bin, eo_fieldAddr, eo_indexAddr, eo_builtin, opK_some, e_guard, guardK_same, guardK_tf, guardK_ft, guardK_passed, eq_self, true_and, and_true, op_bin, b_add, b_lss, b_gtr, List.map_cons, List.map_nil, op_move, op_assign, op_pick, pick_bool, Bool.not_false, Bool.not_true, load_e, cut_f, cut_t, List.getElem?_cons_zero, List.getElem?_cons_succ, List.length_cons, List.length_nil, List.drop_zero, List.drop_succ_cons, List.take_succ_cons, List.take_zero, len_vec, len_nil, ret_ret, ret_nrm, retV_some, pack1, pack2, res_nil, res_tmp, getT_setD, setD_none, getT_leaf, initTm_nil, initTm_cons, ev_tmp, ev_int, ev_bool, ev_str, ev_nilslice, int_int, Option.map_some, Option.map_none, cond_true, cond_false, if_true, if_false, reduceCtorEq, Nat.reduceEqDiff, Nat.reduceAdd, Nat.reduceSub, Nat.reduceMul, Nat.reduceBEq, Int.reduceLT, Int.reduceLE, Int.reduceToNat, Int.reduceBEq, Int.reduceBNe, decide_true, decide_false, reduceIte, load9, load22, len22, load23, index23, len23, r8_0, r8_1, r8_2, r8_3, r8_4, r8_5, r8_6, r8_7, r8_9, p8, load_pb, h0, fld25_0, fld25_1, fld_p, Option.bind_some, Nat.add_zero, Nat.zero_add, lenS_ hx, lenV_ hy, c1, c2]
  refine e_loop (fun tm S' N => ∃ k : Nat, k ≤ vs.length ∧ N = vs.length - k ∧ S' = S0 ∧ (∀ j (h : j < vs.length), j < k → ¬ (250 < vs[j].name.size ∨ 300 < vs[j].typ.size)) ∧ getT tm 1 = .ptr S.no 0 ∧ getT tm 3 = .sc (.int .i64 (k : Int))) vs.length
    ⟨0, by omega, by omega, rfl, fun j _ h => by omega, by simp [getT_setD]⟩ ?_
  rintro tm S' N ⟨k, hk, rfl, rfl, hP, t1, t3⟩
  by_cases hlt : k < vs.length
  case neg =>
    simp only [e_nil, e_skip, e_exit, e_ret, e_c_exit, e_blk_nrm, e_blk_exit, e_pop_ret, e_seq, e_block, e_reg_nil, e_cond, condK_true, condK_false, eo_move, eo_assign, eo_pick, eo_box, eo_load, eo_bin, eo_fieldAddr, eo_indexAddr, eo_builtin, opK_some, e_guard, guardK_same, guardK_tf, guardK_ft, guardK_passed, eq_self, true_and, and_true, op_bin, b_add, b_lss, b_gtr, List.map_cons, List.map_nil, op_move, op_assign, op_pick, pick_bool, Bool.not_false, Bool.not_true, load_e, cut_f, cut_t, List.getElem?_cons_zero, List.getElem?_cons_succ, List.length_cons, List.length_nil, List.drop_zero, List.drop_succ_cons, List.take_succ_cons, List.take_zero, len_vec, len_nil, ret_ret, ret_nrm, retV_some, pack1, pack2, res_nil, res_tmp, getT_setD, setD_none, getT_leaf, initTm_nil, initTm_cons, ev_tmp, ev_int, ev_bool, ev_str, ev_nilslice, int_int, Option.map_some, Option.map_none, cond_true, cond_false, if_true, if_false, reduceCtorEq, Nat.reduceEqDiff, Nat.reduceAdd, Nat.reduceSub, Nat.reduceMul, Nat.reduceBEq, Int.reduceLT, Int.reduceLE, Int.reduceToNat, Int.reduceBEq, Int.reduceBNe, decide_true, decide_false, reduceIte, load9, load22, len22, load23, index23, len23, b8_8, r8_0, r8_1, r8_2, r8_3, r8_4, r8_5, r8_6, r8_7, r8_9, p8, t1, t3, load_pb, h0, fld25_0, fld25_1, fld_p, Option.bind_some, Nat.add_zero, Nat.zero_add, lenV_ hy, dec_nlt hlt]
    refine ⟨⟨false, rfl, ?_⟩, g0⟩
    simp only [Bool.false_eq_true, false_iff]
    rintro (h | h | ⟨v, hv, h⟩)
    · exact h1 h
    · exact h2 h
    · obtain ⟨j, hj, rfl⟩ := List.getElem_of_mem hv
      exact hP j hj (by omega) h
  case pos =>
    have wk := wrapK hlt (by omega)
    by_cases h3 : 250 < vs[k].name.size
    · have c3 : decide ((250 : Int) < ((vs[k].name.size : Nat) : Int)) = true := by simp only [decide_eq_true_eq]; omega
      simp only [e_nil, e_skip, e_exit, e_ret, e_c_exit, e_blk_nrm, e_blk_exit, e_pop_ret, e_seq, e_block, e_reg_nil, e_cond, condK_true, condK_false, eo_move, eo_assign, eo_pick, eo_box, eo_load, eo_bin, eo_fieldAddr, eo_indexAddr, eo_builtin, opK_some, e_guard, guardK_same, guardK_tf, guardK_ft, guardK_passed, eq_self, true_and, and_true, op_bin, b_add, b_lss, b_gtr, List.map_cons, List.map_nil, op_move, op_assign, op_pick, pick_bool, Bool.not_false, Bool.not_true, load_e, cut_f, cut_t, List.getElem?_cons_zero, List.getElem?_cons_succ, List.length_cons, List.length_nil, List.drop_zero, List.drop_succ_cons, List.take_succ_cons, List.take_zero, len_vec, len_nil, ret_ret, ret_nrm, retV_some, pack1, pack2, res_nil, res_tmp, getT_setD, setD_none, getT_leaf, initTm_nil, initTm_cons, ev_tmp, ev_int, ev_bool, ev_str, ev_nilslice, int_int, Option.map_some, Option.map_none, cond_true, cond_false, if_true, if_false, reduceCtorEq, Nat.reduceEqDiff, Nat.reduceAdd, Nat.reduceSub, Nat.reduceMul, Nat.reduceBEq, Int.reduceLT, Int.reduceLE, Int.reduceToNat, Int.reduceBEq, Int.reduceBNe, decide_true, decide_false, reduceIte, load9, load22, len22, load23, index23, len23, b8_8, r8_0, r8_1, r8_2, r8_3, r8_4, r8_5, r8_6, r8_7, r8_9, p8, t1, t3, load_pb, h0, fld25_0, fld25_1, fld_p, Option.bind_some, Nat.add_zero, Nat.zero_add, lenV_ hy, dec_lt hlt, idxV_ hy hlt, varA, fld43_2, fld_e, len9, len9s, c3]
      exact ⟨⟨true, rfl, by simp only [true_iff]; exact .inr (.inr ⟨_, List.getElem_mem hlt, .inl h3⟩)⟩, g0⟩
    have c3 : decide ((250 : Int) < ((vs[k].name.size : Nat) : Int)) = false := by simp only [decide_eq_false_iff_not]; omega
    by_cases h4 : 300 < vs[k].typ.size
    · have c4 : decide ((300 : Int) < ((vs[k].typ.size : Nat) : Int)) = true := by simp only [decide_eq_true_eq]; omega
      simp only [e_nil, e_skip, e_exit, e_ret, e_c_exit, e_blk_nrm, e_blk_exit, e_pop_ret, e_seq, e_block, e_reg_nil, e_cond, condK_true, condK_false, eo_move, eo_assign, eo_pick, eo_box, eo_load, eo_bin, eo_fieldAddr, eo_indexAddr, eo_builtin, opK_some, e_guard, guardK_same, guardK_tf, guardK_ft, guardK_passed, eq_self, true_and, and_true, op_bin, b_add, b_lss, b_gtr, List.map_cons, List.map_nil, op_move, op_assign, op_pick, pick_bool, Bool.not_false, Bool.not_true, load_e, cut_f, cut_t, List.getElem?_cons_zero, List.getElem?_cons_succ, List.length_cons, List.length_nil, List.drop_zero, List.drop_succ_cons, List.take_succ_cons, List.take_zero, len_vec, len_nil, ret_ret, ret_nrm, retV_some, pack1, pack2, res_nil, res_tmp, getT_setD, setD_none, getT_leaf, initTm_nil, initTm_cons, ev_tmp, ev_int, ev_bool, ev_str, ev_nilslice, int_int, Option.map_some, Option.map_none, cond_true, cond_false, if_true, if_false, reduceCtorEq, Nat.reduceEqDiff, Nat.reduceAdd, Nat.reduceSub, Nat.reduceMul, Nat.reduceBEq, Int.reduceLT, Int.reduceLE, Int.reduceToNat, Int.reduceBEq, Int.reduceBNe, decide_true, decide_false, reduceIte, load9, load22, len22, load23, index23, len23, b8_8, r8_0, r8_1, r8_2, r8_3, r8_4, r8_5, r8_6, r8_7, r8_9, p8, t1, t3, load_pb, h0, fld25_0, fld25_1, fld_p, Option.bind_some, Nat.add_zero, Nat.zero_add, lenV_ hy, dec_lt hlt, idxV_ hy hlt, varA, fld43_2, fld43_5, fld_e, len9, len9s, c3, c4]
      exact ⟨⟨true, rfl, by simp only [true_iff]; exact .inr (.inr ⟨_, List.getElem_mem hlt, .inr h4⟩)⟩, g0⟩
    have c4 : decide ((300 : Int) < ((vs[k].typ.size : Nat) : Int)) = false := by simp only [decide_eq_false_iff_not]; omega
    simp only [e_nil, e_skip, e_exit, e_ret, e_c_exit, e_blk_nrm, e_blk_exit, e_pop_ret, e_seq, e_block, e_reg_nil, e_cond, condK_true, condK_false, eo_move, eo_assign, eo_pick, eo_box, eo_load, eo_bin, eo_fieldAddr, eo_indexAddr, eo_builtin, opK_some, e_guard, guardK_same, guardK_tf, guardK_ft, guardK_passed, eq_self, true_and, and_true, op_bin, b_add, b_lss, b_gtr, List.map_cons, List.map_nil, op_move, op_assign, op_pick, pick_bool, Bool.not_false, Bool.not_true, load_e, cut_f, cut_t, List.getElem?_cons_zero, List.getElem?_cons_succ, List.length_cons, List.length_nil, List.drop_zero, List.drop_succ_cons, List.take_succ_cons, List.take_zero, len_vec, len_nil, ret_ret, ret_nrm, retV_some, pack1, pack2, res_nil, res_tmp, getT_setD, setD_none, getT_leaf, initTm_nil, initTm_cons, ev_tmp, ev_int, ev_bool, ev_str, ev_nilslice, int_int, Option.map_some, Option.map_none, cond_true, cond_false, if_true, if_false, reduceCtorEq, Nat.reduceEqDiff, Nat.reduceAdd, Nat.reduceSub, Nat.reduceMul, Nat.reduceBEq, Int.reduceLT, Int.reduceLE, Int.reduceToNat, Int.reduceBEq, Int.reduceBNe, decide_true, decide_false, reduceIte, load9, load22, len22, load23, index23, len23, b8_8, r8_0, r8_1, r8_2, r8_3, r8_4, r8_5, r8_6, r8_7, r8_9, p8, t1, t3, load_pb, h0, fld25_0, fld25_1, fld_p, Option.bind_some, Nat.add_zero, Nat.zero_add, lenV_ hy, dec_lt hlt, idxV_ hy hlt, varA, fld43_2, fld43_5, fld_e, len9, len9s, c3, c4, wk]
    refine ⟨vs.length - (k + 1), by omega, k + 1, by omega, rfl, fun j hj hjk => ?_, rfl⟩
    by_cases hjk2 : j < k
    · exact hP j hj hjk2
    · have : j = k := by omega
      subst this
      exact fun h => h.elim h3 h4
end Go.Proofs.Ytmmpcomfhcpicaa
