/-
  Types of the small ML: what they stand for where nothing is told; some variables as others.
-/
import Derived.Test.YtaacibffjmbfiaaDoorK3
set_option linter.unusedSimpArgs false
set_option linter.unusedVariables false
set_option maxRecDepth 100000
namespace Go.Proofs.YtaacibffjmbfiaaDoor
open Go.Abs
theorem look70 {l : Nat} {kvs : List (Int × AV)} {S : St} (h : S.IsMp l kvs) (k : Int) : lookupA E 70 (.mp l) (.sc (.int .i64 k)) true S = some (match findM k kvs with | some v => .tup [v, .sc (.bool true)] | none => .tup [.agg z24, .sc (.bool false)], S) :=
  mapV_lookup (t := 70) (kt := 3) (et := 24) (by kernel_rfl) (by kernel_rfl) (by kernel_rfl) h k
theorem look70n {l : Nat} {S : St} (h : S.IsMp l []) (k : Int) : lookupA E 70 (.mp l) (.sc (.int .i64 k)) true S = some (.tup [.agg z24, .sc (.bool false)], S) := look70 h k
theorem mk24 {tm : PM AV} (d : Option Tmp) : mkOp E tm (opOf d (.alloc 24)) = some ⟨.cells z24, some (24, 4), fun n => .ptr n 0⟩ := by kernel_rfl
set_option maxHeartbeats 8000000 in
theorem head_ok (t : Ty) (x : AV) (p m : Nat) (n : Int) (S : St) (hx : TyX t x) (hs : SubAt S p m n) (hS : S.Fresh) : ∃ r S', EvA E 64 [.ptr p 0, .agg (tc t x)] S r S' ∧ r = .agg (tc t x) ∧ Grow S S' nilV := by
  refine ev64 rfl ?_
  have hoc := hx.okc
  have g0 := ((Grow.refl hS nilV).born 24 (tc t x)).born 24 z24
  have h0 : ((S.born 24 (tc t x)).born 24 z24).obj S.no = some (tc t x) := by simp [born_obj, born_no]
  have h1 : ((S.born 24 (tc t x)).born 24 z24).obj (S.no + 1) = some z24 := by simp [born_obj, born_no]
  have n0 : S.no + 1 < ((S.born 24 (tc t x)).born 24 z24).no := Nat.lt_succ_self _
  have hs0 := hs.grow g0
  simp only [tc, z24] at g0 h0 h1 n0 hs0
  simp only [e_nil, e_skip, e_exit, e_ret, e_c_exit, e_blk_nrm, e_blk_exit, e_pop_ret, e_seq, e_block, e_reg_nil, e_cond, condK_true, condK_false, eo_move, eo_assign, eo_alloc, eo_box, eo_load, eo_store, eo_nilCheck, eo_bin, eo_un, eo_lookup, eo_fieldAddr, eo_extract, opK_some, eq_self, true_and, and_true, op_bin, b_eql, b_eqstr, List.map_cons, List.map_nil, op_move, op_assign, op_extract, extract_tup, op_un, un_not, Bool.not_false, Bool.not_true, load_e, cut_f, cut_t, List.getElem?_cons_zero, List.getElem?_cons_succ, List.length_cons, List.length_nil, List.drop_zero, List.drop_succ_cons, List.take_succ_cons, List.take_zero, len_vec, len_nil, ret_ret, ret_nrm, retV_some, pack1, pack2, res_nil, res_tmp, getT_setD, setD_none, getT_leaf, initTm_nil, initTm_cons, ev_tmp, ev_int, ev_bool, ev_str, ev_nilslice, int_int, Option.map_some, Option.map_none, cond_true, cond_false, if_true, if_false, reduceCtorEq, Nat.reduceEqDiff, Nat.reduceAdd, Nat.reduceSub, Nat.reduceMul, Nat.reduceBEq, Int.reduceLT, Int.reduceLE, Int.reduceToNat, Int.reduceBEq, Int.reduceBNe, decide_true, decide_false, reduceIte, load3, load24, store24, load70, r64_0, r64_1, r64_2, r64_3, r64_4, r64_5, r64_7, p64, tc, z24, op_box, cells_agg, alloc24, born_no]
  generalize (S.born 24 [.sc (.int .i64 t.kind), .sc (.string t.name), .sc (.int .i64 t.var), x]).born 24 [.sc (.int .i64 0), .sc (.string ⟨#[]⟩), .sc (.int .i64 0), .sc (.slice none 0 0)] = S0 at g0 h0 h1 n0 hs0
  have hf0 : S0.Fresh := g0.fresh
  refine e_loop (fun tm S' N => N = 0 ∧ Grow S0 S' nilV ∧ getT tm 0 = .ptr p 0 ∧ getT tm 3 = .ptr S.no 0 ∧ getT tm 4 = .ptr (S.no + 1) 0) 0 ⟨rfl, Grow.refl hf0 _, by simp [getT_setD]⟩ ?_
  rintro tm S' N ⟨rfl, gS, t0, t3, t4⟩
  have k0 := gS.objs h0 (by omega)
  have k1 := gS.objs h1 n0
  by_cases b1 : t.kind = 7
  case neg =>
    have c1 : (t.kind == 7) = false := by simp [b1]
    simp only [e_nil, e_skip, e_exit, e_ret, e_c_exit, e_blk_nrm, e_blk_exit, e_pop_ret, e_seq, e_block, e_reg_nil, e_cond, condK_true, condK_false, eo_move, eo_assign, eo_alloc, eo_box, eo_load, eo_store, eo_nilCheck, eo_bin, eo_un, eo_lookup, eo_fieldAddr, eo_extract, opK_some, eq_self, true_and, and_true, op_bin, b_eql, b_eqstr, List.map_cons, List.map_nil, op_move, op_assign, op_extract, extract_tup, op_un, un_not, Bool.not_false, Bool.not_true, load_e, cut_f, cut_t, List.getElem?_cons_zero, List.getElem?_cons_succ, List.length_cons, List.length_nil, List.drop_zero, List.drop_succ_cons, List.take_succ_cons, List.take_zero, len_vec, len_nil, ret_ret, ret_nrm, retV_some, pack1, pack2, res_nil, res_tmp, getT_setD, setD_none, getT_leaf, initTm_nil, initTm_cons, ev_tmp, ev_int, ev_bool, ev_str, ev_nilslice, int_int, Option.map_some, Option.map_none, cond_true, cond_false, if_true, if_false, reduceCtorEq, Nat.reduceEqDiff, Nat.reduceAdd, Nat.reduceSub, Nat.reduceMul, Nat.reduceBEq, Int.reduceLT, Int.reduceLE, Int.reduceToNat, Int.reduceBEq, Int.reduceBNe, decide_true, decide_false, reduceIte, load3, load24, store24, load70, b64_6, r64_0, r64_1, r64_2, r64_3, r64_4, r64_5, r64_7, p64, t0, t3, t4, load_pb, k0, k1, fld24_0, fld_p, Option.bind_some, Nat.zero_add, Nat.add_zero, c1, Nat.le_refl, st24 _ _ _ _ _ _ hoc, List.drop_nil, res24, put_obj]
    exact (g0.two gS).put _ _ (Nat.le_succ _)
  case pos =>
    have c1 : (t.kind == 7) = true := by simp [b1]
    simp only [e_nil, e_skip, e_exit, e_ret, e_c_exit, e_blk_nrm, e_blk_exit, e_pop_ret, e_seq, e_block, e_reg_nil, e_cond, condK_true, condK_false, eo_move, eo_assign, eo_alloc, eo_box, eo_load, eo_store, eo_nilCheck, eo_bin, eo_un, eo_lookup, eo_fieldAddr, eo_extract, opK_some, eq_self, true_and, and_true, op_bin, b_eql, b_eqstr, List.map_cons, List.map_nil, op_move, op_assign, op_extract, extract_tup, op_un, un_not, Bool.not_false, Bool.not_true, load_e, cut_f, cut_t, List.getElem?_cons_zero, List.getElem?_cons_succ, List.length_cons, List.length_nil, List.drop_zero, List.drop_succ_cons, List.take_succ_cons, List.take_zero, len_vec, len_nil, ret_ret, ret_nrm, retV_some, pack1, pack2, res_nil, res_tmp, getT_setD, setD_none, getT_leaf, initTm_nil, initTm_cons, ev_tmp, ev_int, ev_bool, ev_str, ev_nilslice, int_int, Option.map_some, Option.map_none, cond_true, cond_false, if_true, if_false, reduceCtorEq, Nat.reduceEqDiff, Nat.reduceAdd, Nat.reduceSub, Nat.reduceMul, Nat.reduceBEq, Int.reduceLT, Int.reduceLE, Int.reduceToNat, Int.reduceBEq, Int.reduceBNe, decide_true, decide_false, reduceIte, load3, load24, store24, load70, b64_6, r64_0, r64_1, r64_2, r64_3, r64_4, r64_5, r64_7, p64, t0, t3, t4, load_pb, k0, fld24_0, fld_p, Option.bind_some, Nat.zero_add, Nat.add_zero, c1]
    have gr := Grow.raise gS.fresh 13 nilV
    have hsr := (hs0.grow gS).grow gr
    have kr := gr.objs k0 (Nat.lt_of_lt_of_le (by omega) gS.no)
    have kr1 := gr.objs k1 (Nat.lt_of_lt_of_le (by omega) gS.no)
    have l0 : p < S'.no := (hs0.grow gS).lp
    have l1 : m < S'.no := (hs0.grow gS).lm
    have l2 : S.no < S'.no := Nat.lt_of_lt_of_le (by omega) gS.no
    have l3 : S.no + 1 < S'.no := Nat.lt_of_lt_of_le (by omega) gS.no
    have gb : Grow S' (((S'.raise 13).bear (S'.no + 10) ⟨.cells z24, some (24, 4), fun n => .ptr n 0⟩).put (S'.no + 10) (.cells z24)) nilV := (gr.bear _ _ (by omega)).put _ _ (by omega)
    have q1 : (S.no = S'.no + 10) = False := by simp; omega
    have q2 : (S.no + 1 = S'.no + 10) = False := by simp; omega
    simp only [z24] at gb
    refine e_drawMk noX draw64_0 ?_
    simp only [e_nil, e_skip, e_exit, e_ret, e_c_exit, e_blk_nrm, e_blk_exit, e_pop_ret, e_seq, e_block, e_reg_nil, e_cond, condK_true, condK_false, eo_move, eo_assign, eo_alloc, eo_box, eo_load, eo_store, eo_nilCheck, eo_bin, eo_un, eo_lookup, eo_fieldAddr, eo_extract, opK_some, eq_self, true_and, and_true, op_bin, b_eql, b_eqstr, List.map_cons, List.map_nil, op_move, op_assign, op_extract, extract_tup, op_un, un_not, Bool.not_false, Bool.not_true, load_e, cut_f, cut_t, List.getElem?_cons_zero, List.getElem?_cons_succ, List.length_cons, List.length_nil, List.drop_zero, List.drop_succ_cons, List.take_succ_cons, List.take_zero, len_vec, len_nil, ret_ret, ret_nrm, retV_some, pack1, pack2, res_nil, res_tmp, getT_setD, setD_none, getT_leaf, initTm_nil, initTm_cons, ev_tmp, ev_int, ev_bool, ev_str, ev_nilslice, int_int, Option.map_some, Option.map_none, cond_true, cond_false, if_true, if_false, reduceCtorEq, Nat.reduceEqDiff, Nat.reduceAdd, Nat.reduceSub, Nat.reduceMul, Nat.reduceBEq, Int.reduceLT, Int.reduceLE, Int.reduceToNat, Int.reduceBEq, Int.reduceBNe, decide_true, decide_false, reduceIte, load3, load24, store24, load70, r64_0, r64_1, r64_2, r64_3, r64_4, r64_5, r64_7, p64, t0, t3, t4, op_nilCheck, chk_p, fld72_1, fld24_2, fld_p, load_pb, hsr.obj, kr, Option.bind_some, Nat.zero_add, Nat.add_zero, op_lookup, look70n hsr.mp, extract_tup]
    refine ⟨_, mk24 _, ?_⟩
    simp only [e_nil, e_skip, e_exit, e_ret, e_c_exit, e_blk_nrm, e_blk_exit, e_pop_ret, e_seq, e_block, e_reg_nil, e_cond, condK_true, condK_false, eo_move, eo_assign, eo_alloc, eo_box, eo_load, eo_store, eo_nilCheck, eo_bin, eo_un, eo_lookup, eo_fieldAddr, eo_extract, opK_some, eq_self, true_and, and_true, op_bin, b_eql, b_eqstr, List.map_cons, List.map_nil, op_move, op_assign, op_extract, extract_tup, op_un, un_not, Bool.not_false, Bool.not_true, load_e, cut_f, cut_t, List.getElem?_cons_zero, List.getElem?_cons_succ, List.length_cons, List.length_nil, List.drop_zero, List.drop_succ_cons, List.take_succ_cons, List.take_zero, len_vec, len_nil, ret_ret, ret_nrm, retV_some, pack1, pack2, res_nil, res_tmp, getT_setD, setD_none, getT_leaf, initTm_nil, initTm_cons, ev_tmp, ev_int, ev_bool, ev_str, ev_nilslice, int_int, Option.map_some, Option.map_none, cond_true, cond_false, if_true, if_false, reduceCtorEq, Nat.reduceEqDiff, Nat.reduceAdd, Nat.reduceSub, Nat.reduceMul, Nat.reduceBEq, Int.reduceLT, Int.reduceLE, Int.reduceToNat, Int.reduceBEq, Int.reduceBNe, decide_true, decide_false, reduceIte, load3, load24, store24, load70, r64_0, r64_1, r64_2, r64_3, r64_4, r64_5, r64_7, p64, t0, t3, t4, z24, bear_obj, put_obj, q1, q2, kr, kr1, load_pb, Option.bind_some, st24 _ _ _ _ _ _ okn, st24 _ _ _ _ _ _ hoc, Nat.le_refl, List.drop_nil, safe_cons, safe_nil, safe_grow l0 gb, safe_grow l2 gb, safe_map l1 gb, Bool.and_self, Nat.zero_add, Nat.add_zero, res24]
    exact (g0.two (gS.two gb)).put _ _ (Nat.le_succ _)
theorem len_sz : ∀ l : List Ty, l.length ≤ szL l
  | [] => by simp [szL]
  | a :: r => by
    have := len_sz r
    have h := szT_eq a
    simp only [szL, List.length_cons]
    omega
theorem args_sz (t : Ty) : t.args.length < szT t := by
  have := len_sz t.args
  rw [szT_eq]; omega
def NewG (S : St) (X : AV) : Prop := X = nilV ∨ ∃ id sz xs, X = .vec id sz xs ∧ S.nid ≤ id
theorem grow_app {S0 S : St} {e : TypeId} {sz : Nat} {X : AV} {xs : List AV} (g : Grow S0 S nilV) (hO : OwnV S e sz X xs) (hn : NewG S0 X) : Grow S0 (appS e S X) nilV := g.trans (Grow.app g.fresh hO) (.inr hn)
theorem append_ty {X : AV} {ys : List AV} {S : St} (hS : S.Fresh) (hX : OwnV S 24 4 X ys) (hl : ys.length ≤ 2 ^ 30) (a v : Int) (n : ByteArray) (y : AV) (hy : okCell y = true) :
    (builtinA E false .append [22, 22] [X, .vec 1 4 [.agg [.sc (.int .i64 a), .sc (.string n), .sc (.int .i64 v), y]]] S = some (.vec S.nid 4 (ys ++ [.agg [.sc (.int .i64 a), .sc (.string n), .sc (.int .i64 v), y]]), appS 24 S X)) ∧
      OwnV (appS 24 S X) 24 4 (.vec S.nid 4 (ys ++ [.agg [.sc (.int .i64 a), .sc (.string n), .sc (.int .i64 v), y]])) (ys ++ [.agg [.sc (.int .i64 a), .sc (.string n), .sc (.int .i64 v), y]]) :=
  ⟨app_own (S := S) (Y := .vec 1 4 [.agg [.sc (.int .i64 a), .sc (.string n), .sc (.int .i64 v), y]]) el22 und22 hS hX (IsV.vec 1 4 _) (by simp) (by simp only [allSz, cellsOf, List.length_cons, List.length_nil, List.all_cons, List.all_nil, hy]; rfl) (by simp; omega), appS_own hS hX⟩
theorem bs22t (a v : Int) (n : ByteArray) (y : AV) (hy : okCell y = true) (S : St) : buildSliceA E 22 1 [(0, .agg [.sc (.int .i64 a), .sc (.string n), .sc (.int .i64 v), y])] S = some (.vec 1 4 [.agg [.sc (.int .i64 a), .sc (.string n), .sc (.int .i64 v), y]], S) :=
  bs_one el22 rfl (by decide) rfl rfl (by simp only [List.all_cons, List.all_nil, hy]; rfl) rfl
theorem okv (id sz : Nat) (xs : List AV) : okCell (.vec id sz xs) = true := rfl
theorem st_nil (l off : Nat) (S : St) : storeC 1 (.ptr l off) (.sc (.slice none 0 0)) S = (S.obj l).bind fun cs => if off < cs.length then some (passed, S.put l (.cells (cs.set off (.sc (.slice none 0 0))))) else none := store_1 l off _ rfl rfl
theorem st_vec (l off id sz : Nat) (xs : List AV) (S : St) : storeC 1 (.ptr l off) (.vec id sz xs) S = (S.obj l).bind fun cs => if off < cs.length then some (passed, S.put l (.cells (cs.set off (.vec id sz xs)))) else none := store_1 l off _ rfl rfl
theorem tysC_take {ar : List Ty} {ys : List AV} {k : Nat} (hk : k < ar.length) {y : AV} (h : TysC (ar.take k) ys) (hy : TyX ar[k] y) : TysC (ar.take (k + 1)) (ys ++ [.agg (tc ar[k] y)]) := by
  rw [List.take_add_one, List.getElem?_eq_getElem hk]
  exact TysC.snoc h (tyC_iff.2 ⟨y, rfl, hy⟩)
set_option maxHeartbeats 16000000 in
theorem apply_ok : ∀ t : Ty, ∀ (x : AV) (p m : Nat) (n : Int) (S : St), TyX t x → szT t ≤ 2 ^ 30 → SubAt S p m n → S.Fresh → ∃ r S', EvA E 60 [.ptr p 0, .agg (tc t x)] S r S' ∧ (∃ y, r = .agg (tc t y) ∧ TyX t y) ∧ Grow S S' nilV := by
  refine ty_ind fun t ih x p m n S hx hz hs hS => ?_
  refine ev60 rfl ?_
  have hoc := hx.okc
  have lx : ∀ S, lenV x S = some (.sc (.int .i64 (t.args.length : Nat)), S) := fun S => hx.len S
  have g0 := ((Grow.refl hS nilV).born 24 (tc t x)).born 24 z24
  have h0 : ((S.born 24 (tc t x)).born 24 z24).obj S.no = some (tc t x) := by simp [born_obj, born_no]
  have h1 : ((S.born 24 (tc t x)).born 24 z24).obj (S.no + 1) = some z24 := by simp [born_obj, born_no]
  have n0 : S.no + 1 < ((S.born 24 (tc t x)).born 24 z24).no := Nat.lt_succ_self _
  have hs0 := hs.grow g0
  obtain ⟨r1, S1, e1, rfl, k1⟩ := head_ok t x p m n _ hx hs0 g0.fresh
  have hs1 := hs0.grow k1
  have g1 := (g0.two k1).put S.no (.cells (tc t x)) (Nat.le_refl _)
  have o0 := k1.objs h0 (by omega)
  have o1 := k1.objs h1 n0
  have n1 := Nat.lt_of_lt_of_le n0 k1.no
  simp only [tc, z24] at g0 h0 h1 n0 hs0 e1 k1 hs1 g1 o0 o1 n1
  simp only [e_nil, e_skip, e_exit, e_ret, e_c_exit, e_blk_nrm, e_blk_exit, e_pop_ret, e_seq, e_block, e_reg_nil, e_cond, condK_true, condK_false, eo_move, eo_alloc, eo_box, eo_buildSlice, eo_load, eo_store, eo_bin, eo_fieldAddr, eo_indexAddr, eo_builtin, opK_some, eq_self, true_and, and_true, op_bin, b_add, b_eql, b_lss, b_eqstr, List.map_cons, List.map_nil, op_move, Bool.not_false, Bool.not_true, load_e, cut_f, cut_t, List.getElem?_cons_zero, List.getElem?_cons_succ, List.length_cons, List.length_nil, List.drop_zero, List.drop_succ_cons, List.take_succ_cons, List.take_zero, len_vec, len_nil, ret_ret, ret_nrm, retV_some, pack1, pack2, res_nil, res_tmp, getT_setD, setD_none, getT_leaf, initTm_nil, initTm_cons, ev_tmp, ev_int, ev_bool, ev_str, ev_nilslice, int_int, Option.map_some, Option.map_none, cond_true, cond_false, if_true, if_false, reduceCtorEq, Nat.reduceEqDiff, Nat.reduceAdd, Nat.reduceSub, Nat.reduceMul, Nat.reduceBEq, Int.reduceLT, Int.reduceLE, Int.reduceToNat, Int.reduceBEq, Int.reduceBNe, decide_true, decide_false, reduceIte, load22, store22, bs22, app22, index22, len22, load24, store24, call60, call64, r60_0, r60_1, r60_2, r60_3, r60_4, r60_5, r60_6, r60_7, r60_8, r60_9, r60_10, r60_11, r60_13, p60, tc, z24, op_box, cells_agg, alloc24, born_no, load_pb, h0, Option.bind_some, Nat.zero_add, Nat.le_refl]
  refine callK_of e1 ?_
  generalize (S.born 24 [.sc (.int .i64 t.kind), .sc (.string t.name), .sc (.int .i64 t.var), x]).born 24 [.sc (.int .i64 0), .sc (.string ⟨#[]⟩), .sc (.int .i64 0), .sc (.slice none 0 0)] = S0 at g0 h0 h1 n0 hs0 k1
  have n2 : (S.no + 1 = S.no) = False := by simp
  have n3 : (S.no = S1.no) = False := by simp; omega
  have n4 : (S.no + 1 = S1.no) = False := by simp; omega
  by_cases b1 : t.args.length = 0
  · have c1 : (((t.args.length : Nat) : Int) == 0) = true := by simp [b1]
    simp only [e_nil, e_skip, e_exit, e_ret, e_c_exit, e_blk_nrm, e_blk_exit, e_pop_ret, e_seq, e_block, e_reg_nil, e_cond, condK_true, condK_false, eo_move, eo_alloc, eo_box, eo_buildSlice, eo_load, eo_store, eo_bin, eo_fieldAddr, eo_indexAddr, eo_builtin, opK_some, eq_self, true_and, and_true, op_bin, b_add, b_eql, b_lss, b_eqstr, List.map_cons, List.map_nil, op_move, Bool.not_false, Bool.not_true, load_e, cut_f, cut_t, List.getElem?_cons_zero, List.getElem?_cons_succ, List.length_cons, List.length_nil, List.drop_zero, List.drop_succ_cons, List.take_succ_cons, List.take_zero, len_vec, len_nil, ret_ret, ret_nrm, retV_some, pack1, pack2, res_nil, res_tmp, getT_setD, setD_none, getT_leaf, initTm_nil, initTm_cons, ev_tmp, ev_int, ev_bool, ev_str, ev_nilslice, int_int, Option.map_some, Option.map_none, cond_true, cond_false, if_true, if_false, reduceCtorEq, Nat.reduceEqDiff, Nat.reduceAdd, Nat.reduceSub, Nat.reduceMul, Nat.reduceBEq, Int.reduceLT, Int.reduceLE, Int.reduceToNat, Int.reduceBEq, Int.reduceBNe, decide_true, decide_false, reduceIte, load22, store22, bs22, app22, index22, len22, load24, store24, call60, call64, r60_0, r60_1, r60_2, r60_3, r60_4, r60_5, r60_6, r60_7, r60_8, r60_9, r60_10, r60_11, r60_13, p60, load_pb, o0, o1, st24 _ _ _ _ _ _ hoc, put_obj, n2, fld24_3, fld_p, Option.bind_some, Nat.zero_add, Nat.add_zero, Nat.le_refl, List.drop_nil, lx, c1, res24]
    exact ⟨⟨x, rfl, hx⟩, g1.put _ _ (Nat.le_succ _)⟩
  have c1 : (((t.args.length : Nat) : Int) == 0) = false := beq_false_of_ne (by omega)
  have g2 := ((g1.born 24 z24).put S1.no (.cells (tc t x)) g1.no).put S1.no (.cells (tc t nilV)) g1.no
  simp only [z24, tc] at g2
  have hs2 : SubAt ((((S1.put S.no (.cells [.sc (.int .i64 t.kind), .sc (.string t.name), .sc (.int .i64 t.var), x])).born 24 [.sc (.int .i64 0), .sc (.string ⟨#[]⟩), .sc (.int .i64 0), .sc (.slice none 0 0)]).put S1.no (.cells [.sc (.int .i64 t.kind), .sc (.string t.name), .sc (.int .i64 t.var), x])).put S1.no (.cells [.sc (.int .i64 t.kind), .sc (.string t.name), .sc (.int .i64 t.var), nilV])) p m n := hs.grow g2
  simp only [e_nil, e_skip, e_exit, e_ret, e_c_exit, e_blk_nrm, e_blk_exit, e_pop_ret, e_seq, e_block, e_reg_nil, e_cond, condK_true, condK_false, eo_move, eo_alloc, eo_box, eo_buildSlice, eo_load, eo_store, eo_bin, eo_fieldAddr, eo_indexAddr, eo_builtin, opK_some, eq_self, true_and, and_true, op_bin, b_add, b_eql, b_lss, b_eqstr, List.map_cons, List.map_nil, op_move, Bool.not_false, Bool.not_true, load_e, cut_f, cut_t, List.getElem?_cons_zero, List.getElem?_cons_succ, List.length_cons, List.length_nil, List.drop_zero, List.drop_succ_cons, List.take_succ_cons, List.take_zero, len_vec, len_nil, ret_ret, ret_nrm, retV_some, pack1, pack2, res_nil, res_tmp, getT_setD, setD_none, getT_leaf, initTm_nil, initTm_cons, ev_tmp, ev_int, ev_bool, ev_str, ev_nilslice, int_int, Option.map_some, Option.map_none, cond_true, cond_false, if_true, if_false, reduceCtorEq, Nat.reduceEqDiff, Nat.reduceAdd, Nat.reduceSub, Nat.reduceMul, Nat.reduceBEq, Int.reduceLT, Int.reduceLE, Int.reduceToNat, Int.reduceBEq, Int.reduceBNe, decide_true, decide_false, reduceIte, load22, store22, bs22, app22, index22, len22, load24, store24, call60, call64, r60_0, r60_1, r60_2, r60_3, r60_4, r60_5, r60_6, r60_7, r60_8, r60_9, r60_10, r60_11, r60_13, p60, load_pb, o0, o1, st24 _ _ _ _ _ _ hoc, put_obj, put_no, born_obj, n2, n3, n4, fld24_3, fld_p, alloc24, z24, st_nil, Option.bind_some, Nat.zero_add, Nat.add_zero, Nat.le_refl, List.drop_nil, lx, c1, List.set_cons_succ, List.set_cons_zero, Nat.reduceLT]
  refine e_loop (fun tm S' N => ∃ (k : Nat) (X : AV) (ys : List AV), k ≤ t.args.length ∧ N = t.args.length - k ∧ OwnV S' 24 4 X ys ∧ TysC (t.args.take k) ys ∧ NewG S X ∧ Grow S S' nilV ∧ S1.no < S'.no ∧
    S'.obj S1.no = some [.sc (.int .i64 t.kind), .sc (.string t.name), .sc (.int .i64 t.var), X] ∧ S'.obj (S.no + 1) = some [.sc (.int .i64 0), .sc (.string ⟨#[]⟩), .sc (.int .i64 0), .sc (.slice none 0 0)] ∧
      getT tm 0 = .ptr p 0 ∧ getT tm 4 = .ptr (S.no + 1) 0 ∧ getT tm 5 = .ptr S1.no 0 ∧ getT tm 19 = x ∧ getT tm 20 = .sc (.int .i64 (t.args.length : Nat)) ∧ getT tm 21 = .sc (.int .i64 (k : Int))) t.args.length
    ⟨0, nilV, [], by omega, by omega, .inl ⟨rfl, rfl⟩, rfl, .inl rfl, g2, Nat.lt_succ_self _, by simp [put_obj], by simp [put_obj, born_obj, put_no, n2, n4, o1], by simp [getT_setD]⟩ ?_
  rintro tm S' N ⟨k, X, ys, hk, rfl, hO, hT, hN, hG, hno, ho, ho1, t0, t4, t5, t19, t20, t21⟩
  by_cases hlt : k < t.args.length
  case neg =>
    have hke : k = t.args.length := by omega
    rw [hke, List.take_length] at hT
    have hox : okCell X = true := by rcases hO with ⟨rfl, _⟩ | ⟨id, rfl, _⟩ <;> rfl
    simp only [e_nil, e_skip, e_exit, e_ret, e_c_exit, e_blk_nrm, e_blk_exit, e_pop_ret, e_seq, e_block, e_reg_nil, e_cond, condK_true, condK_false, eo_move, eo_alloc, eo_box, eo_buildSlice, eo_load, eo_store, eo_bin, eo_fieldAddr, eo_indexAddr, eo_builtin, opK_some, eq_self, true_and, and_true, op_bin, b_add, b_eql, b_lss, b_eqstr, List.map_cons, List.map_nil, op_move, Bool.not_false, Bool.not_true, load_e, cut_f, cut_t, List.getElem?_cons_zero, List.getElem?_cons_succ, List.length_cons, List.length_nil, List.drop_zero, List.drop_succ_cons, List.take_succ_cons, List.take_zero, len_vec, len_nil, ret_ret, ret_nrm, retV_some, pack1, pack2, res_nil, res_tmp, getT_setD, setD_none, getT_leaf, initTm_nil, initTm_cons, ev_tmp, ev_int, ev_bool, ev_str, ev_nilslice, int_int, Option.map_some, Option.map_none, cond_true, cond_false, if_true, if_false, reduceCtorEq, Nat.reduceEqDiff, Nat.reduceAdd, Nat.reduceSub, Nat.reduceMul, Nat.reduceBEq, Int.reduceLT, Int.reduceLE, Int.reduceToNat, Int.reduceBEq, Int.reduceBNe, decide_true, decide_false, reduceIte, load22, store22, bs22, app22, index22, len22, load24, store24, call60, call64, b60_12, r60_0, r60_1, r60_2, r60_3, r60_4, r60_5, r60_6, r60_7, r60_8, r60_9, r60_10, r60_11, r60_13, p60, t0, t4, t5, t19, t20, t21, dec_nlt hlt, load_pb, ho, ho1, Option.bind_some, Nat.zero_add, Nat.add_zero, Nat.le_refl, List.drop_nil, st24 _ _ _ _ _ _ hox, put_obj, res24]
    exact ⟨⟨X, rfl, ys, hO.is, hT, hx.lt⟩, hG.put _ _ (Nat.le_succ _)⟩
  case pos =>
    obtain ⟨xa, hxa, hix⟩ := hx.at hlt
    have hoa := hxa.okc
    have gb := (hG.born 24 z24).put S'.no (.cells (tc t.args[k] xa)) hG.no
    have gb1 := ((Grow.refl hG.fresh nilV).born 24 z24).put S'.no (.cells (tc t.args[k] xa)) (Nat.le_refl _)
    simp only [z24, tc] at gb gb1
    have lk : S1.no < S'.no := hno
    simp only [e_nil, e_skip, e_exit, e_ret, e_c_exit, e_blk_nrm, e_blk_exit, e_pop_ret, e_seq, e_block, e_reg_nil, e_cond, condK_true, condK_false, eo_move, eo_alloc, eo_box, eo_buildSlice, eo_load, eo_store, eo_bin, eo_fieldAddr, eo_indexAddr, eo_builtin, opK_some, eq_self, true_and, and_true, op_bin, b_add, b_eql, b_lss, b_eqstr, List.map_cons, List.map_nil, op_move, Bool.not_false, Bool.not_true, load_e, cut_f, cut_t, List.getElem?_cons_zero, List.getElem?_cons_succ, List.length_cons, List.length_nil, List.drop_zero, List.drop_succ_cons, List.take_succ_cons, List.take_zero, len_vec, len_nil, ret_ret, ret_nrm, retV_some, pack1, pack2, res_nil, res_tmp, getT_setD, setD_none, getT_leaf, initTm_nil, initTm_cons, ev_tmp, ev_int, ev_bool, ev_str, ev_nilslice, int_int, Option.map_some, Option.map_none, cond_true, cond_false, if_true, if_false, reduceCtorEq, Nat.reduceEqDiff, Nat.reduceAdd, Nat.reduceSub, Nat.reduceMul, Nat.reduceBEq, Int.reduceLT, Int.reduceLE, Int.reduceToNat, Int.reduceBEq, Int.reduceBNe, decide_true, decide_false, reduceIte, load22, store22, bs22, app22, index22, len22, load24, store24, call60, call64, b60_12, r60_0, r60_1, r60_2, r60_3, r60_4, r60_5, r60_6, r60_7, r60_8, r60_9, r60_10, r60_11, r60_13, p60, t0, t4, t5, t19, t20, t21, dec_lt hlt, hix, tc, alloc24, z24, st24 _ _ _ _ _ _ hoa, born_obj, put_obj, Option.bind_some, Nat.le_refl, List.drop_nil, Nat.zero_add]
    have ho' := gb1.objs ho hno
    have ho1' := gb1.objs ho1 (by omega)
    have hsx : ((S'.born 24 [.sc (.int .i64 0), .sc (.string ⟨#[]⟩), .sc (.int .i64 0), .sc (.slice none 0 0)]).put S'.no (.cells [.sc (.int .i64 t.args[k].kind), .sc (.string t.args[k].name), .sc (.int .i64 t.args[k].var), xa])).obj S'.no = some [.sc (.int .i64 t.args[k].kind), .sc (.string t.args[k].name), .sc (.int .i64 t.args[k].var), xa] := by simp [put_obj]
    have hnn : S'.no < ((S'.born 24 [.sc (.int .i64 0), .sc (.string ⟨#[]⟩), .sc (.int .i64 0), .sc (.slice none 0 0)]).put S'.no (.cells [.sc (.int .i64 t.args[k].kind), .sc (.string t.args[k].name), .sc (.int .i64 t.args[k].var), xa])).no := Nat.lt_succ_self _
    have hO' : OwnV ((S'.born 24 [.sc (.int .i64 0), .sc (.string ⟨#[]⟩), .sc (.int .i64 0), .sc (.slice none 0 0)]).put S'.no (.cells [.sc (.int .i64 t.args[k].kind), .sc (.string t.args[k].name), .sc (.int .i64 t.args[k].var), xa])) 24 4 X ys := hO
    generalize (S'.born 24 [.sc (.int .i64 0), .sc (.string ⟨#[]⟩), .sc (.int .i64 0), .sc (.slice none 0 0)]).put S'.no (.cells [.sc (.int .i64 t.args[k].kind), .sc (.string t.args[k].name), .sc (.int .i64 t.args[k].var), xa]) = S3 at gb gb1 ho' ho1' hsx hnn hO'
    have gr := Grow.raise gb.fresh 9 nilV
    have lk3 : S1.no < S3.no := Nat.lt_of_lt_of_le hno gb1.no
    obtain ⟨r2, S2, e2, ⟨y, rfl, hy⟩, k2⟩ := ih t.args[k] (List.getElem_mem hlt) xa p m n (S3.raise 9) hxa (by have := sz_arg (List.getElem_mem hlt); omega) (hs.grow (gb.two gr)) gr.fresh
    simp only [tc] at e2
    have gk := gr.two k2
    have hoy := hy.okc
    have ho2 := gk.objs ho' lk3
    have ho12 := gk.objs ho1' (by omega)
    have hO2 : OwnV S2 24 4 X ys := hO'.grow gk (fun _ _ _ _ _ _ e => by cases e)
    have hlen : ys.length ≤ 2 ^ 30 := by
      have h1 := hT.len
      have h2 := args_sz t
      rw [List.length_take] at h1
      omega
    obtain ⟨hap, hO3⟩ := append_ty gk.fresh hO2 hlen t.args[k].kind t.args[k].var t.args[k].name y hoy
    have wk := wrapK hlt (by have := hx.lt; omega)
    have hapo : ∀ l, (appS 24 S2 X).obj l = S2.obj l := fun l => by
      unfold appS
      split
      · cases (_ || _) <;> rfl
      · rfl
    have hapn : (appS 24 S2 X).no = S2.no := by
      unfold appS
      split
      · cases (_ || _) <;> rfl
      · rfl
    have n5 : (S.no + 1 = S1.no) = False := n4
    refine e_drawC noX draw60_0 ?_
    simp only [e_nil, e_skip, e_exit, e_ret, e_c_exit, e_blk_nrm, e_blk_exit, e_pop_ret, e_seq, e_block, e_reg_nil, e_cond, condK_true, condK_false, eo_move, eo_alloc, eo_box, eo_buildSlice, eo_load, eo_store, eo_bin, eo_fieldAddr, eo_indexAddr, eo_builtin, opK_some, eq_self, true_and, and_true, op_bin, b_add, b_eql, b_lss, b_eqstr, List.map_cons, List.map_nil, op_move, Bool.not_false, Bool.not_true, load_e, cut_f, cut_t, List.getElem?_cons_zero, List.getElem?_cons_succ, List.length_cons, List.length_nil, List.drop_zero, List.drop_succ_cons, List.take_succ_cons, List.take_zero, len_vec, len_nil, ret_ret, ret_nrm, retV_some, pack1, pack2, res_nil, res_tmp, getT_setD, setD_none, getT_leaf, initTm_nil, initTm_cons, ev_tmp, ev_int, ev_bool, ev_str, ev_nilslice, int_int, Option.map_some, Option.map_none, cond_true, cond_false, if_true, if_false, reduceCtorEq, Nat.reduceEqDiff, Nat.reduceAdd, Nat.reduceSub, Nat.reduceMul, Nat.reduceBEq, Int.reduceLT, Int.reduceLE, Int.reduceToNat, Int.reduceBEq, Int.reduceBNe, decide_true, decide_false, reduceIte, load22, store22, bs22, app22, index22, len22, load24, store24, call60, call64, r60_0, r60_1, r60_2, r60_3, r60_4, r60_5, r60_6, r60_7, r60_8, r60_9, r60_10, r60_11, r60_13, p60, t0, t5, fld24_3, fld_p, load_pb, gr.objs ho' lk3, gr.objs hsx hnn, Option.bind_some, Nat.zero_add, Nat.add_zero, Nat.le_refl]
    refine callK_of e2 ?_
    simp only [e_nil, e_skip, e_exit, e_ret, e_c_exit, e_blk_nrm, e_blk_exit, e_pop_ret, e_seq, e_block, e_reg_nil, e_cond, condK_true, condK_false, eo_move, eo_alloc, eo_box, eo_buildSlice, eo_load, eo_store, eo_bin, eo_fieldAddr, eo_indexAddr, eo_builtin, opK_some, eq_self, true_and, and_true, op_bin, b_add, b_eql, b_lss, b_eqstr, List.map_cons, List.map_nil, op_move, Bool.not_false, Bool.not_true, load_e, cut_f, cut_t, List.getElem?_cons_zero, List.getElem?_cons_succ, List.length_cons, List.length_nil, List.drop_zero, List.drop_succ_cons, List.take_succ_cons, List.take_zero, len_vec, len_nil, ret_ret, ret_nrm, retV_some, pack1, pack2, res_nil, res_tmp, getT_setD, setD_none, getT_leaf, initTm_nil, initTm_cons, ev_tmp, ev_int, ev_bool, ev_str, ev_nilslice, int_int, Option.map_some, Option.map_none, cond_true, cond_false, if_true, if_false, reduceCtorEq, Nat.reduceEqDiff, Nat.reduceAdd, Nat.reduceSub, Nat.reduceMul, Nat.reduceBEq, Int.reduceLT, Int.reduceLE, Int.reduceToNat, Int.reduceBEq, Int.reduceBNe, decide_true, decide_false, reduceIte, load22, store22, bs22, app22, index22, len22, load24, store24, call60, call64, r60_0, r60_1, r60_2, r60_3, r60_4, r60_5, r60_6, r60_7, r60_8, r60_9, r60_10, r60_11, r60_13, p60, t0, t4, t5, t19, t20, t21, safe_cons, safe_nil, safe_grow lk3 gk, Bool.and_self, bs22t _ _ _ _ hoy, hap, fld24_3, fld_p, st_vec, hapo, ho2, Option.bind_some, Nat.zero_add, Nat.add_zero, List.set_cons_succ, List.set_cons_zero, Nat.reduceLT, wk]
    refine ⟨t.args.length - (k + 1), by omega, k + 1, _, _, by omega, rfl, hO3, tysC_take hlt hT hy, .inr ⟨_, _, _, rfl, Nat.le_trans gb.nid gk.nid⟩, ?_, ?_, ?_, ?_, by simp [t0, t4, t5, t19, t20]⟩
    · exact (grow_app (gb.two gk) hO2 hN).put _ _ (Nat.le_trans g1.no (Nat.le_refl _))
    · rw [put_no, hapn]; exact Nat.lt_of_lt_of_le lk3 gk.no
    · simp only [put_obj, if_true]
    · simp only [put_obj, n5, if_false, hapo]; exact ho12
theorem apply40_ok (t : Ty) (x : AV) (p m : Nat) (n : Int) (S : St) (hx : TyX t x) (hz : szT t ≤ 2 ^ 30) (hs : SubAt S p m n) (hS : S.Fresh) : ∃ r S', EvA E 40 [.ptr p 0, .agg (tc t x)] S r S' ∧ (∃ y, r = .agg (tc t y) ∧ TyX t y) ∧ Grow S S' nilV := by
  refine ev40 rfl ?_
  have hoc := hx.okc
  have g0 := ((Grow.refl hS nilV).born 24 (tc t x)).born 24 z24
  have h0 : ((S.born 24 (tc t x)).born 24 z24).obj S.no = some (tc t x) := by simp [born_obj, born_no]
  have h1 : ((S.born 24 (tc t x)).born 24 z24).obj (S.no + 1) = some z24 := by simp [born_obj, born_no]
  have n0 : S.no + 1 < ((S.born 24 (tc t x)).born 24 z24).no := Nat.lt_succ_self _
  have hs0 := hs.grow g0
  obtain ⟨r1, S1, e1, rfl, k1⟩ := good_ok t x _ hx g0.fresh
  have g1 := g0.two k1
  have o0 := k1.objs h0 (by omega)
  have o1 := k1.objs h1 n0
  obtain ⟨r2, S2, e2, ⟨y, rfl, hy⟩, k2⟩ := apply_ok t x p m n S1 hx hz (hs.grow g1) k1.fresh
  have hoy := hy.okc
  have n1 := Nat.lt_of_lt_of_le n0 k1.no
  have p1 := k2.objs o1 n1
  simp only [tc, z24] at g0 h0 h1 n0 hs0 e1 e2 k1 k2 g1 o0 o1 n1 p1
  simp only [e_nil, e_skip, e_exit, e_ret, e_c_exit, e_blk_nrm, e_blk_exit, e_pop_ret, e_seq, e_block, e_reg_nil, e_cond, condK_true, condK_false, eo_move, eo_alloc, eo_box, eo_load, eo_store, eo_un, opK_some, eq_self, true_and, and_true, List.map_cons, List.map_nil, op_move, op_un, un_not, Bool.not_false, Bool.not_true, load_e, cut_f, cut_t, List.getElem?_cons_zero, List.getElem?_cons_succ, List.length_cons, List.length_nil, List.drop_zero, List.drop_succ_cons, List.take_succ_cons, List.take_zero, len_vec, len_nil, ret_ret, ret_nrm, retV_some, pack1, pack2, res_nil, res_tmp, getT_setD, setD_none, getT_leaf, initTm_nil, initTm_cons, ev_tmp, ev_int, ev_bool, ev_str, ev_nilslice, int_int, Option.map_some, Option.map_none, cond_true, cond_false, if_true, if_false, reduceCtorEq, Nat.reduceEqDiff, Nat.reduceAdd, Nat.reduceSub, Nat.reduceMul, Nat.reduceBEq, Int.reduceLT, Int.reduceLE, Int.reduceToNat, Int.reduceBEq, Int.reduceBNe, decide_true, decide_false, reduceIte, load24, store24, call10, call60, r40_0, r40_1, r40_2, r40_3, p40, tc, z24, op_box, cells_agg, alloc24, born_no, load_pb, h0, Option.bind_some, Nat.zero_add, Nat.le_refl]
  refine callK_of e1 ?_
  cases hg : goodF t with
  | false =>
    simp only [e_nil, e_skip, e_exit, e_ret, e_c_exit, e_blk_nrm, e_blk_exit, e_pop_ret, e_seq, e_block, e_reg_nil, e_cond, condK_true, condK_false, eo_move, eo_alloc, eo_box, eo_load, eo_store, eo_un, opK_some, eq_self, true_and, and_true, List.map_cons, List.map_nil, op_move, op_un, un_not, Bool.not_false, Bool.not_true, load_e, cut_f, cut_t, List.getElem?_cons_zero, List.getElem?_cons_succ, List.length_cons, List.length_nil, List.drop_zero, List.drop_succ_cons, List.take_succ_cons, List.take_zero, len_vec, len_nil, ret_ret, ret_nrm, retV_some, pack1, pack2, res_nil, res_tmp, getT_setD, setD_none, getT_leaf, initTm_nil, initTm_cons, ev_tmp, ev_int, ev_bool, ev_str, ev_nilslice, int_int, Option.map_some, Option.map_none, cond_true, cond_false, if_true, if_false, reduceCtorEq, Nat.reduceEqDiff, Nat.reduceAdd, Nat.reduceSub, Nat.reduceMul, Nat.reduceBEq, Int.reduceLT, Int.reduceLE, Int.reduceToNat, Int.reduceBEq, Int.reduceBNe, decide_true, decide_false, reduceIte, load24, store24, call10, call60, r40_0, r40_1, r40_2, r40_3, p40, load_pb, o0, o1, st24 _ _ _ _ _ _ hoc, put_obj, Option.bind_some, Nat.zero_add, Nat.add_zero, Nat.le_refl, List.drop_nil, res24]
    exact ⟨⟨x, rfl, hx⟩, g1.put _ _ (Nat.le_succ _)⟩
  | true =>
    simp only [e_nil, e_skip, e_exit, e_ret, e_c_exit, e_blk_nrm, e_blk_exit, e_pop_ret, e_seq, e_block, e_reg_nil, e_cond, condK_true, condK_false, eo_move, eo_alloc, eo_box, eo_load, eo_store, eo_un, opK_some, eq_self, true_and, and_true, List.map_cons, List.map_nil, op_move, op_un, un_not, Bool.not_false, Bool.not_true, load_e, cut_f, cut_t, List.getElem?_cons_zero, List.getElem?_cons_succ, List.length_cons, List.length_nil, List.drop_zero, List.drop_succ_cons, List.take_succ_cons, List.take_zero, len_vec, len_nil, ret_ret, ret_nrm, retV_some, pack1, pack2, res_nil, res_tmp, getT_setD, setD_none, getT_leaf, initTm_nil, initTm_cons, ev_tmp, ev_int, ev_bool, ev_str, ev_nilslice, int_int, Option.map_some, Option.map_none, cond_true, cond_false, if_true, if_false, reduceCtorEq, Nat.reduceEqDiff, Nat.reduceAdd, Nat.reduceSub, Nat.reduceMul, Nat.reduceBEq, Int.reduceLT, Int.reduceLE, Int.reduceToNat, Int.reduceBEq, Int.reduceBNe, decide_true, decide_false, reduceIte, load24, store24, call10, call60, r40_0, r40_1, r40_2, r40_3, p40, load_pb, o0, o1, Option.bind_some, Nat.zero_add, Nat.add_zero, Nat.le_refl]
    refine callK_of e2 ?_
    simp only [e_nil, e_skip, e_exit, e_ret, e_c_exit, e_blk_nrm, e_blk_exit, e_pop_ret, e_seq, e_block, e_reg_nil, e_cond, condK_true, condK_false, eo_move, eo_alloc, eo_box, eo_load, eo_store, eo_un, opK_some, eq_self, true_and, and_true, List.map_cons, List.map_nil, op_move, op_un, un_not, Bool.not_false, Bool.not_true, load_e, cut_f, cut_t, List.getElem?_cons_zero, List.getElem?_cons_succ, List.length_cons, List.length_nil, List.drop_zero, List.drop_succ_cons, List.take_succ_cons, List.take_zero, len_vec, len_nil, ret_ret, ret_nrm, retV_some, pack1, pack2, res_nil, res_tmp, getT_setD, setD_none, getT_leaf, initTm_nil, initTm_cons, ev_tmp, ev_int, ev_bool, ev_str, ev_nilslice, int_int, Option.map_some, Option.map_none, cond_true, cond_false, if_true, if_false, reduceCtorEq, Nat.reduceEqDiff, Nat.reduceAdd, Nat.reduceSub, Nat.reduceMul, Nat.reduceBEq, Int.reduceLT, Int.reduceLE, Int.reduceToNat, Int.reduceBEq, Int.reduceBNe, decide_true, decide_false, reduceIte, load24, store24, call10, call60, r40_0, r40_1, r40_2, r40_3, p40, load_pb, p1, st24 _ _ _ _ _ _ hoy, put_obj, Option.bind_some, Nat.zero_add, Nat.add_zero, Nat.le_refl, List.drop_nil, res24]
    exact ⟨⟨y, rfl, hy⟩, (g1.two k2).put _ _ (Nat.le_succ _)⟩
end Go.Proofs.YtaacibffjmbfiaaDoor
