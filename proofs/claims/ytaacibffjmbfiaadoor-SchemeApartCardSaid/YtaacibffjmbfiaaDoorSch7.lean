/-
  Schemes: which may be; what they are opened to.
-/
import Derived.Test.YtaacibffjmbfiaaDoorSch6
set_option linter.unusedSimpArgs false
set_option linter.unusedVariables false
set_option maxRecDepth 100000
namespace Go.Proofs.YtaacibffjmbfiaaDoor
open Go.Abs
theorem renL_sz (f : Int → Option Ty) : ∀ l : List Ty, (∀ a ∈ l, szT (renF f a) ≤ szT a) → szL (renL f l) ≤ szL l
  | [], _ => by simp [renL, szL]
  | a :: r, h => by
    have h1 := h a (List.mem_cons_self ..)
    have h2 := renL_sz f r fun b hb => h b (List.mem_cons_of_mem _ hb)
    simp only [renL, szL]
    omega
theorem ren_sz (kvs : List (Int × Int)) : ∀ t : Ty, szT (renF (ofK kvs) t) ≤ szT t := by
  refine ty_ind fun t ih => ?_
  rw [renF_eq]
  by_cases b1 : t.kind = 7
  · rw [if_pos b1]
    simp only [ofK]
    cases findI t.var kvs with
    | none => exact Nat.le_refl _
    | some z => rw [szT_eq t]; simp [vTy, szT, szL]
  · rw [if_neg b1, szT_eq t]
    have := renL_sz (ofK kvs) t.args ih
    simp only [szT]
    omega
def GoodAll (l All : List Int) : Prop := ∀ k (h : k < All.length), All[k] ∈ l ∧ (0 < k → All[k - 1] < All[k])
theorem fld34_0 {tm : PM AV} {S : St} {d : Option Tmp} (x : Operand) : opV E tm d (.fieldAddr 34 x 0) S = fldV 0 (E.ev tm x) S := field_chk 34 0 0 (by kernel_rfl) x
theorem fld34_1 {tm : PM AV} {S : St} {d : Option Tmp} (x : Operand) : opV E tm d (.fieldAddr 34 x 1) S = fldV 1 (E.ev tm x) S := field_chk 34 1 1 (by kernel_rfl) x
theorem vars_len0 {t : Ty} (h : goodF t = true) : (varsF t []).length ≤ 500 := by
  have h1 := good_sz h
  have h2 := vars_len t []
  simp at h2
  omega
/-- The numbers of a slice, by value or in an object. -/
def RdI (S : St) (X : AV) (l : List Int) : Prop := IsV 1 X (ints l) ∨ ∃ o room, X = .osl o 1 0 l.length room ∧ o < S.no ∧ ∃ cs, S.obj o = some cs ∧ cs.take l.length = ints l
def NotO (p : Nat) (X : AV) : Prop := ∀ o sz off len room, X = .osl o sz off len room → o ≠ p
theorem RdI.okc {S : St} {X : AV} {l : List Int} (h : RdI S X l) : okCell X = true := by
  rcases h with (⟨rfl, _⟩ | ⟨id, rfl⟩) | ⟨o, room, rfl, _⟩ <;> rfl
theorem RdI.len {S : St} {X : AV} {l : List Int} (h : RdI S X l) (S1 : St) : lenV X S1 = some (.sc (.int .i64 (l.length : Nat)), S1) := by
  rcases h with h | ⟨o, room, rfl, _⟩
  · exact lenI (S := S) h S1
  · rfl
theorem RdI.idx {S : St} {X : AV} {l : List Int} (h : RdI S X l) {k : Nat} (hk : k < l.length) : ∃ P, idxV 1 X (some (k : Int)) S = some (P, S) ∧ loadC false 1 P S = some (.sc (.int .i64 l[k]), S) := by
  rcases h with h | ⟨o, room, rfl, ho, cs, h1, h2⟩
  · exact ⟨_, idxI h hk S, by simp [load_e, cut_f]⟩
  · refine ⟨.ptr o k, ?_, ?_⟩
    · have a1 : decide (0 ≤ (k : Int)) = true := by simp
      have a2 : decide ((k : Int) < ((l.length : Nat) : Int)) = true := by simp; omega
      simp [idxV, hk]
    · have : cs[k]? = some (.sc (.int .i64 l[k])) := by
        have e := congrArg (fun q => q[k]?) h2
        simp only [List.getElem?_take, if_pos hk, ints_at hk] at e
        exact e
      simp [load_pb, h1, cut_f, this]
theorem RdI.grow {S S' : St} {X x : AV} {l : List Int} (h : RdI S X l) (g : Grow S S' x) : RdI S' X l := by
  rcases h with h | ⟨o, room, rfl, ho, cs, h1, h2⟩
  · exact .inl h
  · exact .inr ⟨o, room, rfl, Nat.lt_of_lt_of_le ho g.no, cs, g.objs h1 ho, h2⟩
theorem RdI.growB {p : Nat} {S S' : St} {X : AV} {l : List Int} (h : RdI S X l) (g : GrowB p S S') (hn : NotO p X) : RdI S' X l := by
  rcases h with h | ⟨o, room, rfl, ho, cs, h1, h2⟩
  · exact .inl h
  · exact .inr ⟨o, room, rfl, Nat.lt_of_lt_of_le ho g.no, cs, g.objs h1 ho (hn _ _ _ _ _ rfl), h2⟩
theorem notO_v {p : Nat} {X : AV} {sz : Nat} {xs : List AV} (h : IsV sz X xs) : NotO p X := by
  rintro o sz' off len room rfl
  rcases h with ⟨h, _⟩ | ⟨id, h⟩ <;> cases h
set_option maxHeartbeats 16000000 in
theorem good13_ok (All : List Int) (X : AV) (t : Ty) (x : AV) (S : St) (hX : RdI S X All) (hA : All.length ≤ 2 ^ 63 - 1) (hx : TyX t x) (hS : S.Fresh) :
    ∃ r S', EvA E 13 [.agg (sc5 X t x)] S r S' ∧ (∃ b, r = .sc (.bool b) ∧ (b = true ↔ goodF t = true ∧ GoodAll (varsF t []) All)) ∧ Grow S S' nilV := by
  refine ev13 rfl ?_
  have hoc := hx.okc
  have lX : ∀ S, lenV X S = some (.sc (.int .i64 (All.length : Nat)), S) := fun S => hX.len S
  have g0 := (Grow.refl hS nilV).born 34 (sc5 X t x)
  have h0 : (S.born 34 (sc5 X t x)).obj S.no = some (sc5 X t x) := by simp [born_obj]
  have n0 : S.no < (S.born 34 (sc5 X t x)).no := Nat.lt_succ_self _
  obtain ⟨r1, S1, e1, rfl, k1⟩ := good_ok t x _ hx g0.fresh
  have o0 := k1.objs h0 n0
  have g1 := g0.two k1
  have n1 := Nat.lt_of_lt_of_le n0 k1.no
  simp only [sc5, tc] at g0 h0 n0 e1 o0 g1 n1
  simp only [e_nil, e_skip, e_exit, e_ret, e_c_exit, e_blk_nrm, e_blk_exit, e_pop_ret, e_seq, e_block, e_reg_nil, e_cond, condK_true, condK_false, eo_move, eo_assign, eo_pick, eo_box, eo_load, eo_bin, eo_un, eo_fieldAddr, eo_indexAddr, eo_builtin, opK_some, e_guard, guardK_same, guardK_tf, guardK_ft, guardK_passed, eq_self, true_and, and_true, op_bin, b_add, b_sub, b_lss, b_gtr, b_geq, List.map_cons, List.map_nil, op_move, op_assign, op_pick, pick_bool, op_un, un_not, Bool.not_false, Bool.not_true, load_e, cut_f, cut_t, List.getElem?_cons_zero, List.getElem?_cons_succ, List.length_cons, List.length_nil, List.drop_zero, List.drop_succ_cons, List.take_succ_cons, List.take_zero, len_vec, len_nil, ret_ret, ret_nrm, retV_some, pack1, pack2, res_nil, res_tmp, getT_setD, setD_none, getT_leaf, initTm_nil, initTm_cons, ev_tmp, ev_int, ev_bool, ev_str, ev_nilslice, int_int, Option.map_some, Option.map_none, cond_true, cond_false, if_true, if_false, reduceCtorEq, Nat.reduceEqDiff, Nat.reduceAdd, Nat.reduceSub, Nat.reduceMul, Nat.reduceBEq, Int.reduceLT, Int.reduceLE, Int.reduceToNat, Int.reduceBEq, Int.reduceBNe, decide_true, decide_false, reduceIte, load3, load24, load32, index32, len32, call10, call14, call35, r13_0, r13_1, r13_2, r13_3, r13_4, r13_5, r13_6, r13_7, r13_8, r13_9, r13_11, p13, sc5, op_box, cells_agg, load_pb, h0, fld34_1, fld_p, Option.bind_some, Nat.zero_add, Nat.le_refl]
  refine callK_of e1 ?_
  cases hg : goodF t with
  | false =>
    simp only [e_nil, e_skip, e_exit, e_ret, e_c_exit, e_blk_nrm, e_blk_exit, e_pop_ret, e_seq, e_block, e_reg_nil, e_cond, condK_true, condK_false, eo_move, eo_assign, eo_pick, eo_box, eo_load, eo_bin, eo_un, eo_fieldAddr, eo_indexAddr, eo_builtin, opK_some, e_guard, guardK_same, guardK_tf, guardK_ft, guardK_passed, eq_self, true_and, and_true, op_bin, b_add, b_sub, b_lss, b_gtr, b_geq, List.map_cons, List.map_nil, op_move, op_assign, op_pick, pick_bool, op_un, un_not, Bool.not_false, Bool.not_true, load_e, cut_f, cut_t, List.getElem?_cons_zero, List.getElem?_cons_succ, List.length_cons, List.length_nil, List.drop_zero, List.drop_succ_cons, List.take_succ_cons, List.take_zero, len_vec, len_nil, ret_ret, ret_nrm, retV_some, pack1, pack2, res_nil, res_tmp, getT_setD, setD_none, getT_leaf, initTm_nil, initTm_cons, ev_tmp, ev_int, ev_bool, ev_str, ev_nilslice, int_int, Option.map_some, Option.map_none, cond_true, cond_false, if_true, if_false, reduceCtorEq, Nat.reduceEqDiff, Nat.reduceAdd, Nat.reduceSub, Nat.reduceMul, Nat.reduceBEq, Int.reduceLT, Int.reduceLE, Int.reduceToNat, Int.reduceBEq, Int.reduceBNe, decide_true, decide_false, reduceIte, load3, load24, load32, index32, len32, call10, call14, call35, r13_0, r13_1, r13_2, r13_3, r13_4, r13_5, r13_6, r13_7, r13_8, r13_9, r13_11, p13]
    exact ⟨⟨false, rfl, by simp⟩, g1⟩
  | true =>
    have hsz := good_sz hg
    have hvl := vars_len0 hg
    obtain ⟨r2, S2, e2, oV, k2, nb2⟩ := vars14_ok t x S1 hx (by omega) k1.fresh
    have o2 := k2.objs o0 n1
    have g2 := g1.two k2
    have n2 := Nat.lt_of_lt_of_le n1 k2.no
    have hV := oV.is
    simp only [tc] at e2
    simp only [e_nil, e_skip, e_exit, e_ret, e_c_exit, e_blk_nrm, e_blk_exit, e_pop_ret, e_seq, e_block, e_reg_nil, e_cond, condK_true, condK_false, eo_move, eo_assign, eo_pick, eo_box, eo_load, eo_bin, eo_un, eo_fieldAddr, eo_indexAddr, eo_builtin, opK_some, e_guard, guardK_same, guardK_tf, guardK_ft, guardK_passed, eq_self, true_and, and_true, op_bin, b_add, b_sub, b_lss, b_gtr, b_geq, List.map_cons, List.map_nil, op_move, op_assign, op_pick, pick_bool, op_un, un_not, Bool.not_false, Bool.not_true, load_e, cut_f, cut_t, List.getElem?_cons_zero, List.getElem?_cons_succ, List.length_cons, List.length_nil, List.drop_zero, List.drop_succ_cons, List.take_succ_cons, List.take_zero, len_vec, len_nil, ret_ret, ret_nrm, retV_some, pack1, pack2, res_nil, res_tmp, getT_setD, setD_none, getT_leaf, initTm_nil, initTm_cons, ev_tmp, ev_int, ev_bool, ev_str, ev_nilslice, int_int, Option.map_some, Option.map_none, cond_true, cond_false, if_true, if_false, reduceCtorEq, Nat.reduceEqDiff, Nat.reduceAdd, Nat.reduceSub, Nat.reduceMul, Nat.reduceBEq, Int.reduceLT, Int.reduceLE, Int.reduceToNat, Int.reduceBEq, Int.reduceBNe, decide_true, decide_false, reduceIte, load3, load24, load32, index32, len32, call10, call14, call35, r13_0, r13_1, r13_2, r13_3, r13_4, r13_5, r13_6, r13_7, r13_8, r13_9, r13_11, p13, load_pb, o0, fld34_1, fld_p, Option.bind_some, Nat.zero_add, Nat.le_refl]
    refine callK_of e2 ?_
    simp only [e_nil, e_skip, e_exit, e_ret, e_c_exit, e_blk_nrm, e_blk_exit, e_pop_ret, e_seq, e_block, e_reg_nil, e_cond, condK_true, condK_false, eo_move, eo_assign, eo_pick, eo_box, eo_load, eo_bin, eo_un, eo_fieldAddr, eo_indexAddr, eo_builtin, opK_some, e_guard, guardK_same, guardK_tf, guardK_ft, guardK_passed, eq_self, true_and, and_true, op_bin, b_add, b_sub, b_lss, b_gtr, b_geq, List.map_cons, List.map_nil, op_move, op_assign, op_pick, pick_bool, op_un, un_not, Bool.not_false, Bool.not_true, load_e, cut_f, cut_t, List.getElem?_cons_zero, List.getElem?_cons_succ, List.length_cons, List.length_nil, List.drop_zero, List.drop_succ_cons, List.take_succ_cons, List.take_zero, len_vec, len_nil, ret_ret, ret_nrm, retV_some, pack1, pack2, res_nil, res_tmp, getT_setD, setD_none, getT_leaf, initTm_nil, initTm_cons, ev_tmp, ev_int, ev_bool, ev_str, ev_nilslice, int_int, Option.map_some, Option.map_none, cond_true, cond_false, if_true, if_false, reduceCtorEq, Nat.reduceEqDiff, Nat.reduceAdd, Nat.reduceSub, Nat.reduceMul, Nat.reduceBEq, Int.reduceLT, Int.reduceLE, Int.reduceToNat, Int.reduceBEq, Int.reduceBNe, decide_true, decide_false, reduceIte, load3, load24, load32, index32, len32, call10, call14, call35, r13_0, r13_1, r13_2, r13_3, r13_4, r13_5, r13_6, r13_7, r13_8, r13_9, r13_11, p13, load_pb, o2, fld34_0, fld_p, Option.bind_some, Nat.zero_add, Nat.add_zero, Nat.le_refl, lX]
    refine e_loop (fun tm S' N => ∃ k : Nat, k ≤ All.length ∧ N = All.length - k ∧ (∀ j (h : j < All.length), j < k → All[j] ∈ varsF t [] ∧ (0 < j → All[j - 1] < All[j])) ∧ Grow S S' nilV ∧ S.no < S'.no ∧ S'.obj S.no = some [X, .sc (.int .i64 t.kind), .sc (.string t.name), .sc (.int .i64 t.var), x] ∧
      getT tm 1 = .ptr S.no 0 ∧ getT tm 3 = r2 ∧ getT tm 14 = X ∧ getT tm 15 = .sc (.int .i64 (All.length : Nat)) ∧ getT tm 16 = .sc (.int .i64 (k : Int))) All.length ⟨0, by omega, by omega, fun j _ h => by omega, g2, n2, o2, by simp [getT_setD]⟩ ?_
    rintro tm S' N ⟨k, hk, rfl, hP, hG, hno, ho, t1, t3, t14, t15, t16⟩
    by_cases hlt : k < All.length
    case neg =>
      simp only [e_nil, e_skip, e_exit, e_ret, e_c_exit, e_blk_nrm, e_blk_exit, e_pop_ret, e_seq, e_block, e_reg_nil, e_cond, condK_true, condK_false, eo_move, eo_assign, eo_pick, eo_box, eo_load, eo_bin, eo_un, eo_fieldAddr, eo_indexAddr, eo_builtin, opK_some, e_guard, guardK_same, guardK_tf, guardK_ft, guardK_passed, eq_self, true_and, and_true, op_bin, b_add, b_sub, b_lss, b_gtr, b_geq, List.map_cons, List.map_nil, op_move, op_assign, op_pick, pick_bool, op_un, un_not, Bool.not_false, Bool.not_true, load_e, cut_f, cut_t, List.getElem?_cons_zero, List.getElem?_cons_succ, List.length_cons, List.length_nil, List.drop_zero, List.drop_succ_cons, List.take_succ_cons, List.take_zero, len_vec, len_nil, ret_ret, ret_nrm, retV_some, pack1, pack2, res_nil, res_tmp, getT_setD, setD_none, getT_leaf, initTm_nil, initTm_cons, ev_tmp, ev_int, ev_bool, ev_str, ev_nilslice, int_int, Option.map_some, Option.map_none, cond_true, cond_false, if_true, if_false, reduceCtorEq, Nat.reduceEqDiff, Nat.reduceAdd, Nat.reduceSub, Nat.reduceMul, Nat.reduceBEq, Int.reduceLT, Int.reduceLE, Int.reduceToNat, Int.reduceBEq, Int.reduceBNe, decide_true, decide_false, reduceIte, load3, load24, load32, index32, len32, call10, call14, call35, b13_10, r13_0, r13_1, r13_2, r13_3, r13_4, r13_5, r13_6, r13_7, r13_8, r13_9, r13_11, p13, t1, t3, t14, t15, t16, dec_nlt hlt]
      exact ⟨⟨true, rfl, by simp; exact fun j hj => hP j hj (by omega)⟩, hG⟩
    case pos =>
      obtain ⟨r3, S3, e3, rfl, k3⟩ := contains_ok r2 (varsF t []) All[k] S' hV (by omega) hG.fresh
      have o3 := k3.objs ho hno
      have wk := wrapK hlt (by omega)
      obtain ⟨P, hi, hld⟩ := (hX.grow hG).idx hlt
      simp only [e_nil, e_skip, e_exit, e_ret, e_c_exit, e_blk_nrm, e_blk_exit, e_pop_ret, e_seq, e_block, e_reg_nil, e_cond, condK_true, condK_false, eo_move, eo_assign, eo_pick, eo_box, eo_load, eo_bin, eo_un, eo_fieldAddr, eo_indexAddr, eo_builtin, opK_some, e_guard, guardK_same, guardK_tf, guardK_ft, guardK_passed, eq_self, true_and, and_true, op_bin, b_add, b_sub, b_lss, b_gtr, b_geq, List.map_cons, List.map_nil, op_move, op_assign, op_pick, pick_bool, op_un, un_not, Bool.not_false, Bool.not_true, load_e, cut_f, cut_t, List.getElem?_cons_zero, List.getElem?_cons_succ, List.length_cons, List.length_nil, List.drop_zero, List.drop_succ_cons, List.take_succ_cons, List.take_zero, len_vec, len_nil, ret_ret, ret_nrm, retV_some, pack1, pack2, res_nil, res_tmp, getT_setD, setD_none, getT_leaf, initTm_nil, initTm_cons, ev_tmp, ev_int, ev_bool, ev_str, ev_nilslice, int_int, Option.map_some, Option.map_none, cond_true, cond_false, if_true, if_false, reduceCtorEq, Nat.reduceEqDiff, Nat.reduceAdd, Nat.reduceSub, Nat.reduceMul, Nat.reduceBEq, Int.reduceLT, Int.reduceLE, Int.reduceToNat, Int.reduceBEq, Int.reduceBNe, decide_true, decide_false, reduceIte, load3, load24, load32, index32, len32, call10, call14, call35, b13_10, r13_0, r13_1, r13_2, r13_3, r13_4, r13_5, r13_6, r13_7, r13_8, r13_9, r13_11, p13, t1, t3, t14, t15, t16, dec_lt hlt, hi, hld]
      refine callK_of e3 ?_
      by_cases hm : All[k] ∈ varsF t []
      case neg =>
        have c1 : decide (All[k] ∈ varsF t []) = false := by simpa using hm
        simp only [e_nil, e_skip, e_exit, e_ret, e_c_exit, e_blk_nrm, e_blk_exit, e_pop_ret, e_seq, e_block, e_reg_nil, e_cond, condK_true, condK_false, eo_move, eo_assign, eo_pick, eo_box, eo_load, eo_bin, eo_un, eo_fieldAddr, eo_indexAddr, eo_builtin, opK_some, e_guard, guardK_same, guardK_tf, guardK_ft, guardK_passed, eq_self, true_and, and_true, op_bin, b_add, b_sub, b_lss, b_gtr, b_geq, List.map_cons, List.map_nil, op_move, op_assign, op_pick, pick_bool, op_un, un_not, Bool.not_false, Bool.not_true, load_e, cut_f, cut_t, List.getElem?_cons_zero, List.getElem?_cons_succ, List.length_cons, List.length_nil, List.drop_zero, List.drop_succ_cons, List.take_succ_cons, List.take_zero, len_vec, len_nil, ret_ret, ret_nrm, retV_some, pack1, pack2, res_nil, res_tmp, getT_setD, setD_none, getT_leaf, initTm_nil, initTm_cons, ev_tmp, ev_int, ev_bool, ev_str, ev_nilslice, int_int, Option.map_some, Option.map_none, cond_true, cond_false, if_true, if_false, reduceCtorEq, Nat.reduceEqDiff, Nat.reduceAdd, Nat.reduceSub, Nat.reduceMul, Nat.reduceBEq, Int.reduceLT, Int.reduceLE, Int.reduceToNat, Int.reduceBEq, Int.reduceBNe, decide_true, decide_false, reduceIte, load3, load24, load32, index32, len32, call10, call14, call35, r13_0, r13_1, r13_2, r13_3, r13_4, r13_5, r13_6, r13_7, r13_8, r13_9, r13_11, p13, c1]
        exact ⟨⟨false, rfl, by simp; exact fun h => hm (h k hlt).1⟩, hG.two k3⟩
      have c1 : decide (All[k] ∈ varsF t []) = true := by simpa using hm
      by_cases hk0 : k = 0
      · have c2 : decide ((0 : Int) < (k : Int)) = false := by simp [hk0]
        simp only [e_nil, e_skip, e_exit, e_ret, e_c_exit, e_blk_nrm, e_blk_exit, e_pop_ret, e_seq, e_block, e_reg_nil, e_cond, condK_true, condK_false, eo_move, eo_assign, eo_pick, eo_box, eo_load, eo_bin, eo_un, eo_fieldAddr, eo_indexAddr, eo_builtin, opK_some, e_guard, guardK_same, guardK_tf, guardK_ft, guardK_passed, eq_self, true_and, and_true, op_bin, b_add, b_sub, b_lss, b_gtr, b_geq, List.map_cons, List.map_nil, op_move, op_assign, op_pick, pick_bool, op_un, un_not, Bool.not_false, Bool.not_true, load_e, cut_f, cut_t, List.getElem?_cons_zero, List.getElem?_cons_succ, List.length_cons, List.length_nil, List.drop_zero, List.drop_succ_cons, List.take_succ_cons, List.take_zero, len_vec, len_nil, ret_ret, ret_nrm, retV_some, pack1, pack2, res_nil, res_tmp, getT_setD, setD_none, getT_leaf, initTm_nil, initTm_cons, ev_tmp, ev_int, ev_bool, ev_str, ev_nilslice, int_int, Option.map_some, Option.map_none, cond_true, cond_false, if_true, if_false, reduceCtorEq, Nat.reduceEqDiff, Nat.reduceAdd, Nat.reduceSub, Nat.reduceMul, Nat.reduceBEq, Int.reduceLT, Int.reduceLE, Int.reduceToNat, Int.reduceBEq, Int.reduceBNe, decide_true, decide_false, reduceIte, load3, load24, load32, index32, len32, call10, call14, call35, r13_0, r13_1, r13_2, r13_3, r13_4, r13_5, r13_6, r13_7, r13_8, r13_9, r13_11, p13, c1, c2, t1, t3, t14, t15, t16, wk]
        refine ⟨All.length - (k + 1), by omega, k + 1, by omega, rfl, fun j hj hjk => ?_, hG.two k3, Nat.lt_of_lt_of_le hno k3.no, o3, by simp [t1, t3, t14, t15]⟩
        have : j = k := by omega
        subst this
        exact ⟨hm, fun h => by omega⟩
      · have c2 : decide ((0 : Int) < (k : Int)) = true := by simp; omega
        have wm : IntKind.i64.wrap ((k : Int) - 1) = ((k - 1 : Nat) : Int) := by rw [wrap_i64 (by omega) (by omega)]; omega
        obtain ⟨P2, hix, hld2⟩ := ((hX.grow hG).grow k3).idx (k := k - 1) (by omega)
        by_cases ha : All[k - 1] < All[k]
        · have c3 : decide (All[k] ≤ All[k - 1]) = false := by simpa using ha
          simp only [e_nil, e_skip, e_exit, e_ret, e_c_exit, e_blk_nrm, e_blk_exit, e_pop_ret, e_seq, e_block, e_reg_nil, e_cond, condK_true, condK_false, eo_move, eo_assign, eo_pick, eo_box, eo_load, eo_bin, eo_un, eo_fieldAddr, eo_indexAddr, eo_builtin, opK_some, e_guard, guardK_same, guardK_tf, guardK_ft, guardK_passed, eq_self, true_and, and_true, op_bin, b_add, b_sub, b_lss, b_gtr, b_geq, List.map_cons, List.map_nil, op_move, op_assign, op_pick, pick_bool, op_un, un_not, Bool.not_false, Bool.not_true, load_e, cut_f, cut_t, List.getElem?_cons_zero, List.getElem?_cons_succ, List.length_cons, List.length_nil, List.drop_zero, List.drop_succ_cons, List.take_succ_cons, List.take_zero, len_vec, len_nil, ret_ret, ret_nrm, retV_some, pack1, pack2, res_nil, res_tmp, getT_setD, setD_none, getT_leaf, initTm_nil, initTm_cons, ev_tmp, ev_int, ev_bool, ev_str, ev_nilslice, int_int, Option.map_some, Option.map_none, cond_true, cond_false, if_true, if_false, reduceCtorEq, Nat.reduceEqDiff, Nat.reduceAdd, Nat.reduceSub, Nat.reduceMul, Nat.reduceBEq, Int.reduceLT, Int.reduceLE, Int.reduceToNat, Int.reduceBEq, Int.reduceBNe, decide_true, decide_false, reduceIte, load3, load24, load32, index32, len32, call10, call14, call35, r13_0, r13_1, r13_2, r13_3, r13_4, r13_5, r13_6, r13_7, r13_8, r13_9, r13_11, p13, c1, c2, c3, t1, t3, t14, t15, t16, wk, wm, load_pb, o3, fld34_0, fld_p, Option.bind_some, Nat.zero_add, Nat.add_zero, hix, hld2]
          refine ⟨All.length - (k + 1), by omega, k + 1, by omega, rfl, fun j hj hjk => ?_, hG.two k3, Nat.lt_of_lt_of_le hno k3.no, by simp [t1, t3, t14, t15]⟩
          by_cases hjk2 : j < k
          · exact hP j hj hjk2
          · have : j = k := by omega
            subst this
            exact ⟨hm, fun _ => ha⟩
        · have c3 : decide (All[k] ≤ All[k - 1]) = true := by simpa using ha
          simp only [e_nil, e_skip, e_exit, e_ret, e_c_exit, e_blk_nrm, e_blk_exit, e_pop_ret, e_seq, e_block, e_reg_nil, e_cond, condK_true, condK_false, eo_move, eo_assign, eo_pick, eo_box, eo_load, eo_bin, eo_un, eo_fieldAddr, eo_indexAddr, eo_builtin, opK_some, e_guard, guardK_same, guardK_tf, guardK_ft, guardK_passed, eq_self, true_and, and_true, op_bin, b_add, b_sub, b_lss, b_gtr, b_geq, List.map_cons, List.map_nil, op_move, op_assign, op_pick, pick_bool, op_un, un_not, Bool.not_false, Bool.not_true, load_e, cut_f, cut_t, List.getElem?_cons_zero, List.getElem?_cons_succ, List.length_cons, List.length_nil, List.drop_zero, List.drop_succ_cons, List.take_succ_cons, List.take_zero, len_vec, len_nil, ret_ret, ret_nrm, retV_some, pack1, pack2, res_nil, res_tmp, getT_setD, setD_none, getT_leaf, initTm_nil, initTm_cons, ev_tmp, ev_int, ev_bool, ev_str, ev_nilslice, int_int, Option.map_some, Option.map_none, cond_true, cond_false, if_true, if_false, reduceCtorEq, Nat.reduceEqDiff, Nat.reduceAdd, Nat.reduceSub, Nat.reduceMul, Nat.reduceBEq, Int.reduceLT, Int.reduceLE, Int.reduceToNat, Int.reduceBEq, Int.reduceBNe, decide_true, decide_false, reduceIte, load3, load24, load32, index32, len32, call10, call14, call35, r13_0, r13_1, r13_2, r13_3, r13_4, r13_5, r13_6, r13_7, r13_8, r13_9, r13_11, p13, c1, c2, c3, t1, t3, t14, t15, t16, wk, wm, load_pb, o3, fld34_0, fld_p, Option.bind_some, Nat.zero_add, Nat.add_zero, hix, hld2]
          exact ⟨⟨false, rfl, by simp; exact fun h => ha ((h k hlt).2 (by omega))⟩, hG.two k3⟩
def takeF : List Int → Int → List (Int × Int) → List (Int × Int) × Int
  | [], n, a => (a, n)
  | v :: r, n, a => takeF r (nextF n) (setI v n a)
theorem nextF_in {n : Int} (h : 0 ≤ n ∧ n ≤ 1999) : 0 ≤ nextF n ∧ nextF n ≤ 1999 := by
  unfold nextF
  split <;> omega
theorem takeF_in : ∀ (l : List Int) (n : Int) (a : List (Int × Int)), 0 ≤ n ∧ n ≤ 1999 → 0 ≤ (takeF l n a).2 ∧ (takeF l n a).2 ≤ 1999
  | [], n, a, h => h
  | v :: r, n, a, h => takeF_in r _ _ (nextF_in h)
theorem upd70 {l : Nat} {kvs : List (Int × Int)} {S : St} (h : S.IsMp l (kvA kvs)) (k n : Int) : mapUpdateA E 70 (.mp l) (.sc (.int .i64 k)) (.agg (vT n)) S = some (passed, S.put l (.mp (mapVs (kvA (setI k n kvs))))) := by
  rw [← setM_kvA]
  exact mapV_update (t := 70) (kt := 3) (et := 24) (by kernel_rfl) (by kernel_rfl) h k (.agg (vT n))
theorem put_mobj {S : St} (l k : Nat) (es : List (Value × AV)) (h : k ≠ l) : (S.put l (.mp es)).obj k = S.obj k := by
  simp only [St.put, St.obj, PM.get_set, h, if_false]
theorem sub_putm {S : St} {p m : Nat} {n : Int} (h : SubAt S p m n) (l : Nat) (o : AObj) (h1 : l ≠ p) (h2 : l ≠ m) : SubAt (S.put l o) p m n :=
  ⟨by have := h.obj; simp only [St.put, St.obj, PM.get_set] at this ⊢; rw [if_neg (fun e => h1 e.symm)]; exact this, put_mp_ne l m o _ h.mp (fun e => h2 e.symm), h.lp, h.lm, h.ne⟩
set_option maxHeartbeats 16000000 in
theorem open_ok (All : List Int) (X : AV) (t : Ty) (x : AV) (p m : Nat) (n : Int) (S : St) (hX : RdI S X All) (hXp : NotO p X) (hA : All.length ≤ 2 ^ 40) (hx : TyX t x) (hg : goodF t = true) (hG0 : GoodAll (varsF t []) All) (hs : SubAt S p m n) (hn : 0 ≤ n ∧ n ≤ 1999) (hS : S.Fresh) :
    ∃ r S', EvA E 16 [.ptr p 0, .agg (sc5 X t x)] S r S' ∧ (∃ y, r = .agg (tc (renF (ofK (takeF All n []).1) t) y) ∧ TyX (renF (ofK (takeF All n []).1) t) y) ∧ SubAt S' p m (takeF All n []).2 ∧ GrowB p S S' := by
  refine ev16 rfl ?_
  have hoc := hx.okc
  have lX : ∀ S, lenV X S = some (.sc (.int .i64 (All.length : Nat)), S) := fun S => hX.len S
  have g0 := ((Grow.refl hS nilV).born 34 (sc5 X t x)).born 24 z24
  have h0 : ((S.born 34 (sc5 X t x)).born 24 z24).obj S.no = some (sc5 X t x) := by simp [born_obj, born_no]
  have h1 : ((S.born 34 (sc5 X t x)).born 24 z24).obj (S.no + 1) = some z24 := by simp [born_obj, born_no]
  have n0 : S.no + 1 < ((S.born 34 (sc5 X t x)).born 24 z24).no := Nat.lt_succ_self _
  obtain ⟨r1, S1, e1, ⟨b, rfl, hb⟩, k1⟩ := good13_ok All X t x _ (hX.grow g0) (by omega) hx g0.fresh
  obtain rfl : b = true := hb.2 ⟨hg, hG0⟩
  have o0 := k1.objs h0 (by omega)
  have o1 := k1.objs h1 n0
  have g1 := g0.two k1
  have n1 := Nat.lt_of_lt_of_le n0 k1.no
  have hsz := good_sz hg
  have hsr := ren_sz (takeF All n []).1 t
  simp only [sc5, tc, z24] at g0 h0 h1 n0 e1 o0 o1 g1 n1
  simp only [e_nil, e_skip, e_exit, e_ret, e_c_exit, e_blk_nrm, e_blk_exit, e_pop_ret, e_seq, e_block, e_reg_nil, e_cond, condK_true, condK_false, eo_move, eo_assign, eo_alloc, eo_box, eo_load, eo_store, eo_bin, eo_un, eo_mapUpdate, eo_makeMap, eo_fieldAddr, eo_indexAddr, eo_builtin, opK_some, eq_self, true_and, and_true, op_bin, b_add, b_lss, List.map_cons, List.map_nil, op_move, op_assign, op_un, un_not, Bool.not_false, Bool.not_true, load_e, cut_f, cut_t, List.getElem?_cons_zero, List.getElem?_cons_succ, List.length_cons, List.length_nil, List.drop_zero, List.drop_succ_cons, List.take_succ_cons, List.take_zero, len_vec, len_nil, ret_ret, ret_nrm, retV_some, pack1, pack2, res_nil, res_tmp, getT_setD, setD_none, getT_leaf, initTm_nil, initTm_cons, ev_tmp, ev_int, ev_bool, ev_str, ev_nilslice, int_int, Option.map_some, Option.map_none, cond_true, cond_false, if_true, if_false, reduceCtorEq, Nat.reduceEqDiff, Nat.reduceAdd, Nat.reduceSub, Nat.reduceMul, Nat.reduceBEq, Int.reduceLT, Int.reduceLE, Int.reduceToNat, Int.reduceBEq, Int.reduceBNe, decide_true, decide_false, reduceIte, load3, load24, store24, load32, index32, len32, load34, call12, call13, call40, call42, r16_0, r16_1, r16_2, r16_3, r16_4, r16_5, r16_6, r16_7, r16_8, r16_10, p16, sc5, op_box, cells_agg, alloc24, z24, born_no, load_pb, h0, Option.bind_some, Nat.zero_add, Nat.le_refl]
  refine callK_of e1 ?_
  have gm := g1.bornMap
  have om0 : S1.bornMap.obj S.no = _ := (bornMap_obj S.no (by omega)).trans o0
  have om1 : S1.bornMap.obj (S.no + 1) = _ := (bornMap_obj (S.no + 1) n1).trans o1
  have hsm : SubAt S1.bornMap p m n := hs.grow gm
  have hlp : p < S.no := hs.lp
  have hlm : m < S.no := hs.lm
  simp only [e_nil, e_skip, e_exit, e_ret, e_c_exit, e_blk_nrm, e_blk_exit, e_pop_ret, e_seq, e_block, e_reg_nil, e_cond, condK_true, condK_false, eo_move, eo_assign, eo_alloc, eo_box, eo_load, eo_store, eo_bin, eo_un, eo_mapUpdate, eo_makeMap, eo_fieldAddr, eo_indexAddr, eo_builtin, opK_some, eq_self, true_and, and_true, op_bin, b_add, b_lss, List.map_cons, List.map_nil, op_move, op_assign, op_un, un_not, Bool.not_false, Bool.not_true, load_e, cut_f, cut_t, List.getElem?_cons_zero, List.getElem?_cons_succ, List.length_cons, List.length_nil, List.drop_zero, List.drop_succ_cons, List.take_succ_cons, List.take_zero, len_vec, len_nil, ret_ret, ret_nrm, retV_some, pack1, pack2, res_nil, res_tmp, getT_setD, setD_none, getT_leaf, initTm_nil, initTm_cons, ev_tmp, ev_int, ev_bool, ev_str, ev_nilslice, int_int, Option.map_some, Option.map_none, cond_true, cond_false, if_true, if_false, reduceCtorEq, Nat.reduceEqDiff, Nat.reduceAdd, Nat.reduceSub, Nat.reduceMul, Nat.reduceBEq, Int.reduceLT, Int.reduceLE, Int.reduceToNat, Int.reduceBEq, Int.reduceBNe, decide_true, decide_false, reduceIte, load3, load24, store24, load32, index32, len32, load34, call12, call13, call40, call42, r16_0, r16_1, r16_2, r16_3, r16_4, r16_5, r16_6, r16_7, r16_8, r16_10, p16, op_makeMap, load_pb, om0, fld34_0, fld_p, Option.bind_some, Nat.zero_add, Nat.add_zero, Nat.le_refl, lX]
  refine e_loop (fun tm S' N => ∃ (k : Nat) (nk : Int) (a : List (Int × Int)), k ≤ All.length ∧ N = All.length - k ∧ takeF (All.drop k) nk a = takeF All n [] ∧ (0 ≤ nk ∧ nk ≤ 1999) ∧ GrowB p S S' ∧ SubAt S' p m nk ∧ S'.IsMp S1.no (kvA a) ∧ S1.no < S'.no ∧
    S'.obj S.no = some [X, .sc (.int .i64 t.kind), .sc (.string t.name), .sc (.int .i64 t.var), x] ∧ S'.obj (S.no + 1) = some [.sc (.int .i64 0), .sc (.string ⟨#[]⟩), .sc (.int .i64 0), .sc (.slice none 0 0)] ∧
      getT tm 0 = .ptr p 0 ∧ getT tm 3 = .ptr S.no 0 ∧ getT tm 4 = .ptr (S.no + 1) 0 ∧ getT tm 5 = .mp S1.no ∧ getT tm 15 = X ∧ getT tm 16 = .sc (.int .i64 (All.length : Nat)) ∧ getT tm 17 = .sc (.int .i64 (k : Int))) All.length
    ⟨0, n, [], by omega, by omega, rfl, hn, gm.toB p, hsm, bornMap_mp, Nat.lt_succ_self _, om0, om1, by simp [getT_setD]⟩ ?_
  rintro tm S' N ⟨k, nk, a, hk, rfl, he, hnk, hG, hsk, hmp, hno, ho0, ho1, t0, t3, t4, t5, t15, t16, t17⟩
  by_cases hlt : k < All.length
  case neg =>
    have hke : k = All.length := by omega
    rw [hke, List.drop_length] at he
    simp only [takeF] at he
    rw [← he] at hsr ⊢
    obtain ⟨r2, S2, e2, ⟨y, rfl, hy⟩, k2⟩ := renewed_ok a S1.no t x S' hx (by omega) hmp hno hG.fresh
    obtain ⟨r3, S3, e3, ⟨z, rfl, hz⟩, k3⟩ := apply40_ok _ y p m nk S2 hy (by simp only at hsr; omega) (hsk.grow k2) k2.fresh
    have hoz := hz.okc
    have l1 : S.no + 1 < S'.no := by omega
    have p1 := k3.objs (k2.objs ho1 l1) (Nat.lt_of_lt_of_le l1 k2.no)
    simp only [tc] at e2 e3
    simp only [e_nil, e_skip, e_exit, e_ret, e_c_exit, e_blk_nrm, e_blk_exit, e_pop_ret, e_seq, e_block, e_reg_nil, e_cond, condK_true, condK_false, eo_move, eo_assign, eo_alloc, eo_box, eo_load, eo_store, eo_bin, eo_un, eo_mapUpdate, eo_makeMap, eo_fieldAddr, eo_indexAddr, eo_builtin, opK_some, eq_self, true_and, and_true, op_bin, b_add, b_lss, List.map_cons, List.map_nil, op_move, op_assign, op_un, un_not, Bool.not_false, Bool.not_true, load_e, cut_f, cut_t, List.getElem?_cons_zero, List.getElem?_cons_succ, List.length_cons, List.length_nil, List.drop_zero, List.drop_succ_cons, List.take_succ_cons, List.take_zero, len_vec, len_nil, ret_ret, ret_nrm, retV_some, pack1, pack2, res_nil, res_tmp, getT_setD, setD_none, getT_leaf, initTm_nil, initTm_cons, ev_tmp, ev_int, ev_bool, ev_str, ev_nilslice, int_int, Option.map_some, Option.map_none, cond_true, cond_false, if_true, if_false, reduceCtorEq, Nat.reduceEqDiff, Nat.reduceAdd, Nat.reduceSub, Nat.reduceMul, Nat.reduceBEq, Int.reduceLT, Int.reduceLE, Int.reduceToNat, Int.reduceBEq, Int.reduceBNe, decide_true, decide_false, reduceIte, load3, load24, store24, load32, index32, len32, load34, call12, call13, call40, call42, b16_9, r16_0, r16_1, r16_2, r16_3, r16_4, r16_5, r16_6, r16_7, r16_8, r16_10, p16, t0, t3, t4, t5, t15, t16, t17, dec_nlt hlt, load_pb, ho0, fld34_1, fld_p, Option.bind_some, Nat.zero_add, Nat.add_zero, Nat.le_refl]
    refine callK_of e2 ?_
    simp only [e_nil, e_skip, e_exit, e_ret, e_c_exit, e_blk_nrm, e_blk_exit, e_pop_ret, e_seq, e_block, e_reg_nil, e_cond, condK_true, condK_false, eo_move, eo_assign, eo_alloc, eo_box, eo_load, eo_store, eo_bin, eo_un, eo_mapUpdate, eo_makeMap, eo_fieldAddr, eo_indexAddr, eo_builtin, opK_some, eq_self, true_and, and_true, op_bin, b_add, b_lss, List.map_cons, List.map_nil, op_move, op_assign, op_un, un_not, Bool.not_false, Bool.not_true, load_e, cut_f, cut_t, List.getElem?_cons_zero, List.getElem?_cons_succ, List.length_cons, List.length_nil, List.drop_zero, List.drop_succ_cons, List.take_succ_cons, List.take_zero, len_vec, len_nil, ret_ret, ret_nrm, retV_some, pack1, pack2, res_nil, res_tmp, getT_setD, setD_none, getT_leaf, initTm_nil, initTm_cons, ev_tmp, ev_int, ev_bool, ev_str, ev_nilslice, int_int, Option.map_some, Option.map_none, cond_true, cond_false, if_true, if_false, reduceCtorEq, Nat.reduceEqDiff, Nat.reduceAdd, Nat.reduceSub, Nat.reduceMul, Nat.reduceBEq, Int.reduceLT, Int.reduceLE, Int.reduceToNat, Int.reduceBEq, Int.reduceBNe, decide_true, decide_false, reduceIte, load3, load24, store24, load32, index32, len32, load34, call12, call13, call40, call42, r16_0, r16_1, r16_2, r16_3, r16_4, r16_5, r16_6, r16_7, r16_8, r16_10, p16, t0]
    refine callK_of e3 ?_
    simp only [e_nil, e_skip, e_exit, e_ret, e_c_exit, e_blk_nrm, e_blk_exit, e_pop_ret, e_seq, e_block, e_reg_nil, e_cond, condK_true, condK_false, eo_move, eo_assign, eo_alloc, eo_box, eo_load, eo_store, eo_bin, eo_un, eo_mapUpdate, eo_makeMap, eo_fieldAddr, eo_indexAddr, eo_builtin, opK_some, eq_self, true_and, and_true, op_bin, b_add, b_lss, List.map_cons, List.map_nil, op_move, op_assign, op_un, un_not, Bool.not_false, Bool.not_true, load_e, cut_f, cut_t, List.getElem?_cons_zero, List.getElem?_cons_succ, List.length_cons, List.length_nil, List.drop_zero, List.drop_succ_cons, List.take_succ_cons, List.take_zero, len_vec, len_nil, ret_ret, ret_nrm, retV_some, pack1, pack2, res_nil, res_tmp, getT_setD, setD_none, getT_leaf, initTm_nil, initTm_cons, ev_tmp, ev_int, ev_bool, ev_str, ev_nilslice, int_int, Option.map_some, Option.map_none, cond_true, cond_false, if_true, if_false, reduceCtorEq, Nat.reduceEqDiff, Nat.reduceAdd, Nat.reduceSub, Nat.reduceMul, Nat.reduceBEq, Int.reduceLT, Int.reduceLE, Int.reduceToNat, Int.reduceBEq, Int.reduceBNe, decide_true, decide_false, reduceIte, load3, load24, store24, load32, index32, len32, load34, call12, call13, call40, call42, r16_0, r16_1, r16_2, r16_3, r16_4, r16_5, r16_6, r16_7, r16_8, r16_10, p16, t4, load_pb, p1, st24 _ _ _ _ _ _ hoz, put_obj, Option.bind_some, Nat.zero_add, Nat.add_zero, Nat.le_refl, List.drop_nil, res24, tc]
    exact ⟨⟨z, rfl, hz⟩, sub_putm ((hsk.grow k2).grow k3) _ _ (by omega) (by omega), (((hG.two (k2.toB p)).two (k3.toB p)).putN _ _ (Nat.le_succ _))⟩
  case pos =>
    obtain ⟨r2, S2, e2, rfl, hs2, k2⟩ := fresh_ok p m nk S' hsk hnk hG.fresh
    have hne : S1.no ≠ p := by omega
    have hnm : S1.no ≠ m := by omega
    have hmp2 := k2.isMp hmp hno hne
    have hno2 := Nat.lt_of_lt_of_le hno k2.no
    have wk := wrapK hlt (by omega)
    rw [List.drop_eq_getElem_cons hlt] at he
    simp only [takeF] at he
    obtain ⟨P, hi, hld⟩ := (hX.growB hG hXp).idx hlt
    simp only [e_nil, e_skip, e_exit, e_ret, e_c_exit, e_blk_nrm, e_blk_exit, e_pop_ret, e_seq, e_block, e_reg_nil, e_cond, condK_true, condK_false, eo_move, eo_assign, eo_alloc, eo_box, eo_load, eo_store, eo_bin, eo_un, eo_mapUpdate, eo_makeMap, eo_fieldAddr, eo_indexAddr, eo_builtin, opK_some, eq_self, true_and, and_true, op_bin, b_add, b_lss, List.map_cons, List.map_nil, op_move, op_assign, op_un, un_not, Bool.not_false, Bool.not_true, load_e, cut_f, cut_t, List.getElem?_cons_zero, List.getElem?_cons_succ, List.length_cons, List.length_nil, List.drop_zero, List.drop_succ_cons, List.take_succ_cons, List.take_zero, len_vec, len_nil, ret_ret, ret_nrm, retV_some, pack1, pack2, res_nil, res_tmp, getT_setD, setD_none, getT_leaf, initTm_nil, initTm_cons, ev_tmp, ev_int, ev_bool, ev_str, ev_nilslice, int_int, Option.map_some, Option.map_none, cond_true, cond_false, if_true, if_false, reduceCtorEq, Nat.reduceEqDiff, Nat.reduceAdd, Nat.reduceSub, Nat.reduceMul, Nat.reduceBEq, Int.reduceLT, Int.reduceLE, Int.reduceToNat, Int.reduceBEq, Int.reduceBNe, decide_true, decide_false, reduceIte, load3, load24, store24, load32, index32, len32, load34, call12, call13, call40, call42, b16_9, r16_0, r16_1, r16_2, r16_3, r16_4, r16_5, r16_6, r16_7, r16_8, r16_10, p16, t0, t3, t4, t5, t15, t16, t17, dec_lt hlt, hi, hld]
    refine callK_of e2 ?_
    simp only [e_nil, e_skip, e_exit, e_ret, e_c_exit, e_blk_nrm, e_blk_exit, e_pop_ret, e_seq, e_block, e_reg_nil, e_cond, condK_true, condK_false, eo_move, eo_assign, eo_alloc, eo_box, eo_load, eo_store, eo_bin, eo_un, eo_mapUpdate, eo_makeMap, eo_fieldAddr, eo_indexAddr, eo_builtin, opK_some, eq_self, true_and, and_true, op_bin, b_add, b_lss, List.map_cons, List.map_nil, op_move, op_assign, op_un, un_not, Bool.not_false, Bool.not_true, load_e, cut_f, cut_t, List.getElem?_cons_zero, List.getElem?_cons_succ, List.length_cons, List.length_nil, List.drop_zero, List.drop_succ_cons, List.take_succ_cons, List.take_zero, len_vec, len_nil, ret_ret, ret_nrm, retV_some, pack1, pack2, res_nil, res_tmp, getT_setD, setD_none, getT_leaf, initTm_nil, initTm_cons, ev_tmp, ev_int, ev_bool, ev_str, ev_nilslice, int_int, Option.map_some, Option.map_none, cond_true, cond_false, if_true, if_false, reduceCtorEq, Nat.reduceEqDiff, Nat.reduceAdd, Nat.reduceSub, Nat.reduceMul, Nat.reduceBEq, Int.reduceLT, Int.reduceLE, Int.reduceToNat, Int.reduceBEq, Int.reduceBNe, decide_true, decide_false, reduceIte, load3, load24, store24, load32, index32, len32, load34, call12, call13, call40, call42, r16_0, r16_1, r16_2, r16_3, r16_4, r16_5, r16_6, r16_7, r16_8, r16_10, p16, t0, t3, t4, t5, t15, t16, t17, op_mapUpdate, upd70 hmp2, wk]
    refine ⟨All.length - (k + 1), by omega, k + 1, _, _, by omega, rfl, he, nextF_in hnk, (hG.two k2).putN _ _ (by omega), sub_putm hs2 _ _ hne hnm, put_mp _ _, hno2, ?_, ?_, by simp [t0, t3, t4, t5, t15, t16]⟩
    · rw [put_mobj _ _ _ (by omega)]; exact k2.objs ho0 (by omega) (by omega)
    · rw [put_mobj _ _ _ (by omega)]; exact k2.objs ho1 (by omega) (by omega)
end Go.Proofs.YtaacibffjmbfiaaDoor
