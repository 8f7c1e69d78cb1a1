/-
  Types of the small ML, shown: Show; how many variables there may be.
-/
import Derived.Test.YtaacibffjmbfiaaDoorSho2
set_option linter.unusedSimpArgs false
set_option linter.unusedVariables false
set_option maxRecDepth 100000
namespace Go.Proofs.YtaacibffjmbfiaaDoor
open Go.Abs
theorem vars_nodup : ∀ t : Ty, ∀ l : List Int, l.Nodup → (varsF t l).Nodup := by
  refine ty_ind fun t ih l h => ?_
  rw [varsF_eq]
  by_cases hk : t.kind = 7
  · rw [if_pos hk]
    by_cases hv : t.var ∈ l
    · rw [if_pos hv]; exact h
    · rw [if_neg hv]
      rw [List.nodup_append]
      exact ⟨h, by simp, fun a ha b hb => by simp at hb; subst hb; exact fun e => hv (e ▸ ha)⟩
  · rw [if_neg hk]
    have key : ∀ (ar : List Ty), (∀ a ∈ ar, ∀ l : List Int, l.Nodup → (varsF a l).Nodup) → ∀ l : List Int, l.Nodup → (varsL ar l).Nodup := by
      intro ar
      induction ar with
      | nil => intro _ l h; exact h
      | cons a r ihr => intro hh l h; simp only [varsL]; exact ihr (fun b hb => hh b (List.mem_cons_of_mem _ hb)) _ (hh a (List.mem_cons_self ..) l h)
    exact key _ ih l h
theorem argsF_le (k : Int) : argsF k ≤ 2 := by
  unfold argsF
  split
  · omega
  · split <;> omega
theorem aloneL_mem : ∀ {l : List Ty} {a : Ty}, aloneL l = true → a ∈ l → aloneF a = true
  | b :: r, a, h, hm => by
    simp only [aloneL, Bool.and_eq_true] at h
    rcases List.mem_cons.1 hm with rfl | hm
    · exact h.1
    · exact aloneL_mem h.2 hm
theorem vars_few : ∀ t : Ty, ∀ (m : Int) (l : List Int), smallF t m = true → aloneF t = true → ((varsF t l).length : Int) ≤ l.length + m := by
  refine ty_ind fun t ih m l hs ha => ?_
  rw [smallF_eq] at hs
  rw [aloneF_eq] at ha
  simp only [Bool.and_eq_true, decide_eq_true_eq] at hs ha
  have hm : 0 < m := hs.1.1.1
  have hal : (t.args.length : Int) = argsF t.kind := ha.1.1.1.1.2
  have hle := argsF_le t.kind
  have hq : m.tdiv 2 = m / 2 := Int.tdiv_eq_ediv_of_nonneg (by omega)
  rw [varsF_eq]
  by_cases hk : t.kind = 7
  · rw [if_pos hk]
    by_cases hv : t.var ∈ l
    · rw [if_pos hv]; omega
    · rw [if_neg hv]; simp; omega
  · rw [if_neg hk]
    have key : ∀ (ar : List Ty) (q : Int), 0 ≤ q → (∀ a ∈ ar, ∀ l : List Int, ((varsF a l).length : Int) ≤ l.length + q) → ∀ l : List Int, ((varsL ar l).length : Int) ≤ l.length + ar.length * q := by
      intro ar q hq0
      induction ar with
      | nil => intro _ l; simp [varsL]
      | cons a r ihr =>
        intro hh l
        have h1 := hh a (List.mem_cons_self ..) l
        have h2 := ihr (fun b hb => hh b (List.mem_cons_of_mem _ hb)) (varsF a l)
        simp only [varsL, List.length_cons]
        have : ((r.length + 1 : Nat) : Int) * q = r.length * q + q := by
          rw [Int.natCast_add, Int.add_mul]; simp
        omega
    have h1 := key t.args (m.tdiv 2) (by omega) (fun a hm l => ih a hm (m.tdiv 2) l (smallL_mem hs.2 hm) (aloneL_mem ha.2 hm)) l
    have h2 : (t.args.length : Int) * m.tdiv 2 ≤ m := by
      rw [hq]
      have h3 : (t.args.length : Int) ≤ 2 := by omega
      have h4 : (0 : Int) ≤ m / 2 := by omega
      have h5 := Int.mul_le_mul_of_nonneg_right h3 h4
      omega
    omega
/-- The letters by the variables' places. -/
def nmF (l : List Int) (v : Int) : ByteArray := if v ∈ l then letF (l.idxOf v) else ⟨#[]⟩
theorem nmF_size (l : List Int) (v : Int) : (nmF l v).size ≤ 60 := by
  unfold nmF
  by_cases h : v ∈ l
  · rw [if_pos h]; have := letF_size (l.idxOf v); omega
  · rw [if_neg h]; decide
def shownF (t : Ty) : ByteArray := showF (nmF (varsF t [])) t
theorem idxOf_at {l : List Int} (h : l.Nodup) {k : Nat} (hk : k < l.length) : l.idxOf l[k] = k := by
  have h1 : l.idxOf l[k] < l.length := List.idxOf_lt_length_iff.2 (List.getElem_mem hk)
  have h2 := List.getElem_idxOf h1
  exact (List.getElem_inj h).1 h2
set_option maxHeartbeats 16000000 in
theorem show17_ok (t : Ty) (x : AV) (S : St) (hx : TyX t x) (hn : nmB t = true) (hz : szT t ≤ 2 ^ 20) (hl : (varsF t []).length ≤ 64) (hS : S.Fresh) : ∃ r S', EvA E 17 [.agg (tc t x)] S r S' ∧ r = .sc (.string (shownF t)) ∧ Grow S S' nilV := by
  refine ev17 rfl ?_
  have hnd := vars_nodup t [] List.nodup_nil
  have g0 := (Grow.refl hS nilV).born 24 (tc t x)
  have h0 : (S.born 24 (tc t x)).obj S.no = some (tc t x) := by simp [born_obj]
  have n0 : S.no < (S.born 24 (tc t x)).no := Nat.lt_succ_self _
  have gm := g0.bornMap
  have hm0 : (S.born 24 (tc t x)).bornMap.obj S.no = _ := (bornMap_obj S.no n0).trans h0
  obtain ⟨r1, S1, e1, o1, k1, nb1⟩ := vars14_ok t x _ hx (by omega) gm.fresh
  have g1 := gm.two k1
  have ho1 := k1.objs hm0 (Nat.lt_succ_of_lt n0)
  have hmp1 : S1.IsMp (S.no + 1) [] := k1.isMp (bornMap_mp (S := S.born 24 (tc t x))) (Nat.lt_succ_self _)
  have nn1 : S.no + 1 < S1.no := Nat.lt_of_lt_of_le (Nat.lt_succ_self _) k1.no
  have lr : ∀ S, lenV r1 S = some (.sc (.int .i64 ((varsF t []).length : Nat)), S) := fun S => lenI (S := S) o1.is S
  have hri := o1.is
  generalize hvl : varsF t [] = l at hl hnd o1 lr hri
  simp only [tc] at g0 h0 n0 gm hm0 e1 ho1 hmp1 nn1
  simp only [e_nil, e_skip, e_exit, e_ret, e_c_exit, e_blk_nrm, e_blk_exit, e_pop_ret, e_seq, e_block, e_reg_nil, e_cond, condK_true, condK_false, eo_move, eo_assign, eo_box, eo_load, eo_bin, eo_mapUpdate, eo_makeMap, eo_indexAddr, eo_builtin, opK_some, eq_self, true_and, and_true, op_bin, b_add, b_lss, List.map_cons, List.map_nil, op_move, op_assign, Bool.not_false, Bool.not_true, load_e, cut_f, cut_t, List.getElem?_cons_zero, List.getElem?_cons_succ, List.length_cons, List.length_nil, List.drop_zero, List.drop_succ_cons, List.take_succ_cons, List.take_zero, len_vec, len_nil, ret_ret, ret_nrm, retV_some, pack1, pack2, res_nil, res_tmp, getT_setD, setD_none, getT_leaf, initTm_nil, initTm_cons, ev_tmp, ev_int, ev_bool, ev_str, ev_nilslice, int_int, Option.map_some, Option.map_none, cond_true, cond_false, if_true, if_false, reduceCtorEq, Nat.reduceEqDiff, Nat.reduceAdd, Nat.reduceSub, Nat.reduceMul, Nat.reduceBEq, Int.reduceLT, Int.reduceLE, Int.reduceToNat, Int.reduceBEq, Int.reduceBNe, decide_true, decide_false, reduceIte, load3, load24, index32, len32, call14, call43, call44, r17_0, r17_1, r17_2, r17_3, r17_4, r17_5, r17_6, r17_8, p17, tc, op_box, cells_agg, op_makeMap, born_no, load_pb, hm0, Option.bind_some, Nat.zero_add, Nat.le_refl]
  refine callK_of e1 ?_
  simp only [e_nil, e_skip, e_exit, e_ret, e_c_exit, e_blk_nrm, e_blk_exit, e_pop_ret, e_seq, e_block, e_reg_nil, e_cond, condK_true, condK_false, eo_move, eo_assign, eo_box, eo_load, eo_bin, eo_mapUpdate, eo_makeMap, eo_indexAddr, eo_builtin, opK_some, eq_self, true_and, and_true, op_bin, b_add, b_lss, List.map_cons, List.map_nil, op_move, op_assign, Bool.not_false, Bool.not_true, load_e, cut_f, cut_t, List.getElem?_cons_zero, List.getElem?_cons_succ, List.length_cons, List.length_nil, List.drop_zero, List.drop_succ_cons, List.take_succ_cons, List.take_zero, len_vec, len_nil, ret_ret, ret_nrm, retV_some, pack1, pack2, res_nil, res_tmp, getT_setD, setD_none, getT_leaf, initTm_nil, initTm_cons, ev_tmp, ev_int, ev_bool, ev_str, ev_nilslice, int_int, Option.map_some, Option.map_none, cond_true, cond_false, if_true, if_false, reduceCtorEq, Nat.reduceEqDiff, Nat.reduceAdd, Nat.reduceSub, Nat.reduceMul, Nat.reduceBEq, Int.reduceLT, Int.reduceLE, Int.reduceToNat, Int.reduceBEq, Int.reduceBNe, decide_true, decide_false, reduceIte, load3, load24, index32, len32, call14, call43, call44, r17_0, r17_1, r17_2, r17_3, r17_4, r17_5, r17_6, r17_8, p17, lr]
  refine e_loop (fun tm S' N => ∃ (k : Nat) (kvs : List (Int × AV)), k ≤ l.length ∧ N = l.length - k ∧ (∀ v, findM v kvs = if v ∈ l.take k then some (.sc (.string (letF (l.idxOf v)))) else none) ∧ Grow S S' nilV ∧ S.no + 1 < S'.no ∧ S'.IsMp (S.no + 1) kvs ∧
    S'.obj S.no = some [.sc (.int .i64 t.kind), .sc (.string t.name), .sc (.int .i64 t.var), x] ∧ getT tm 1 = .ptr S.no 0 ∧ getT tm 3 = .mp (S.no + 1) ∧ getT tm 8 = r1 ∧ getT tm 9 = .sc (.int .i64 (l.length : Nat)) ∧ getT tm 10 = .sc (.int .i64 (k : Int))) l.length
    ⟨0, [], by omega, by omega, fun v => by simp [findM], g1, nn1, hmp1, ho1, by simp [getT_setD]⟩ ?_
  rintro tm S' N ⟨k, kvs, hk, rfl, hf, hG, hno, hmp, ho, t1, t3, t8, t9, t10⟩
  by_cases hlt : k < l.length
  case neg =>
    have hke : k = l.length := by omega
    rw [hke, List.take_length] at hf
    obtain ⟨r2, S2, e2, rfl, k2⟩ := show_ok (nmF l) (nmF_size l) (S.no + 1) kvs (fun v => by
      rw [hf]
      unfold nmF
      by_cases h : v ∈ l
      · rw [if_pos h, if_pos h]; rfl
      · rw [if_neg h, if_neg h]; rfl) t x S' hx hn hz hmp hno hG.fresh
    simp only [tc] at e2
    simp only [e_nil, e_skip, e_exit, e_ret, e_c_exit, e_blk_nrm, e_blk_exit, e_pop_ret, e_seq, e_block, e_reg_nil, e_cond, condK_true, condK_false, eo_move, eo_assign, eo_box, eo_load, eo_bin, eo_mapUpdate, eo_makeMap, eo_indexAddr, eo_builtin, opK_some, eq_self, true_and, and_true, op_bin, b_add, b_lss, List.map_cons, List.map_nil, op_move, op_assign, Bool.not_false, Bool.not_true, load_e, cut_f, cut_t, List.getElem?_cons_zero, List.getElem?_cons_succ, List.length_cons, List.length_nil, List.drop_zero, List.drop_succ_cons, List.take_succ_cons, List.take_zero, len_vec, len_nil, ret_ret, ret_nrm, retV_some, pack1, pack2, res_nil, res_tmp, getT_setD, setD_none, getT_leaf, initTm_nil, initTm_cons, ev_tmp, ev_int, ev_bool, ev_str, ev_nilslice, int_int, Option.map_some, Option.map_none, cond_true, cond_false, if_true, if_false, reduceCtorEq, Nat.reduceEqDiff, Nat.reduceAdd, Nat.reduceSub, Nat.reduceMul, Nat.reduceBEq, Int.reduceLT, Int.reduceLE, Int.reduceToNat, Int.reduceBEq, Int.reduceBNe, decide_true, decide_false, reduceIte, load3, load24, index32, len32, call14, call43, call44, b17_7, r17_0, r17_1, r17_2, r17_3, r17_4, r17_5, r17_6, r17_8, p17, t1, t3, t8, t9, t10, dec_nlt hlt, load_pb, ho, Option.bind_some, Nat.zero_add, Nat.le_refl]
    refine callK_of e2 ?_
    simp only [e_nil, e_skip, e_exit, e_ret, e_c_exit, e_blk_nrm, e_blk_exit, e_pop_ret, e_seq, e_block, e_reg_nil, e_cond, condK_true, condK_false, eo_move, eo_assign, eo_box, eo_load, eo_bin, eo_mapUpdate, eo_makeMap, eo_indexAddr, eo_builtin, opK_some, eq_self, true_and, and_true, op_bin, b_add, b_lss, List.map_cons, List.map_nil, op_move, op_assign, Bool.not_false, Bool.not_true, load_e, cut_f, cut_t, List.getElem?_cons_zero, List.getElem?_cons_succ, List.length_cons, List.length_nil, List.drop_zero, List.drop_succ_cons, List.take_succ_cons, List.take_zero, len_vec, len_nil, ret_ret, ret_nrm, retV_some, pack1, pack2, res_nil, res_tmp, getT_setD, setD_none, getT_leaf, initTm_nil, initTm_cons, ev_tmp, ev_int, ev_bool, ev_str, ev_nilslice, int_int, Option.map_some, Option.map_none, cond_true, cond_false, if_true, if_false, reduceCtorEq, Nat.reduceEqDiff, Nat.reduceAdd, Nat.reduceSub, Nat.reduceMul, Nat.reduceBEq, Int.reduceLT, Int.reduceLE, Int.reduceToNat, Int.reduceBEq, Int.reduceBNe, decide_true, decide_false, reduceIte, load3, load24, index32, len32, call14, call43, call44, r17_0, r17_1, r17_2, r17_3, r17_4, r17_5, r17_6, r17_8, p17]
    exact ⟨by rw [shownF, hvl], hG.two k2⟩
  case pos =>
    have wk := wrapK hlt (by omega)
    have e2 := letter_ok k (by omega) S'
    simp only [e_nil, e_skip, e_exit, e_ret, e_c_exit, e_blk_nrm, e_blk_exit, e_pop_ret, e_seq, e_block, e_reg_nil, e_cond, condK_true, condK_false, eo_move, eo_assign, eo_box, eo_load, eo_bin, eo_mapUpdate, eo_makeMap, eo_indexAddr, eo_builtin, opK_some, eq_self, true_and, and_true, op_bin, b_add, b_lss, List.map_cons, List.map_nil, op_move, op_assign, Bool.not_false, Bool.not_true, load_e, cut_f, cut_t, List.getElem?_cons_zero, List.getElem?_cons_succ, List.length_cons, List.length_nil, List.drop_zero, List.drop_succ_cons, List.take_succ_cons, List.take_zero, len_vec, len_nil, ret_ret, ret_nrm, retV_some, pack1, pack2, res_nil, res_tmp, getT_setD, setD_none, getT_leaf, initTm_nil, initTm_cons, ev_tmp, ev_int, ev_bool, ev_str, ev_nilslice, int_int, Option.map_some, Option.map_none, cond_true, cond_false, if_true, if_false, reduceCtorEq, Nat.reduceEqDiff, Nat.reduceAdd, Nat.reduceSub, Nat.reduceMul, Nat.reduceBEq, Int.reduceLT, Int.reduceLE, Int.reduceToNat, Int.reduceBEq, Int.reduceBNe, decide_true, decide_false, reduceIte, load3, load24, index32, len32, call14, call43, call44, b17_7, r17_0, r17_1, r17_2, r17_3, r17_4, r17_5, r17_6, r17_8, p17, t1, t3, t8, t9, t10, dec_lt hlt, idxI hri hlt]
    refine callK_of e2 ?_
    simp only [e_nil, e_skip, e_exit, e_ret, e_c_exit, e_blk_nrm, e_blk_exit, e_pop_ret, e_seq, e_block, e_reg_nil, e_cond, condK_true, condK_false, eo_move, eo_assign, eo_box, eo_load, eo_bin, eo_mapUpdate, eo_makeMap, eo_indexAddr, eo_builtin, opK_some, eq_self, true_and, and_true, op_bin, b_add, b_lss, List.map_cons, List.map_nil, op_move, op_assign, Bool.not_false, Bool.not_true, load_e, cut_f, cut_t, List.getElem?_cons_zero, List.getElem?_cons_succ, List.length_cons, List.length_nil, List.drop_zero, List.drop_succ_cons, List.take_succ_cons, List.take_zero, len_vec, len_nil, ret_ret, ret_nrm, retV_some, pack1, pack2, res_nil, res_tmp, getT_setD, setD_none, getT_leaf, initTm_nil, initTm_cons, ev_tmp, ev_int, ev_bool, ev_str, ev_nilslice, int_int, Option.map_some, Option.map_none, cond_true, cond_false, if_true, if_false, reduceCtorEq, Nat.reduceEqDiff, Nat.reduceAdd, Nat.reduceSub, Nat.reduceMul, Nat.reduceBEq, Int.reduceLT, Int.reduceLE, Int.reduceToNat, Int.reduceBEq, Int.reduceBNe, decide_true, decide_false, reduceIte, load3, load24, index32, len32, call14, call43, call44, r17_0, r17_1, r17_2, r17_3, r17_4, r17_5, r17_6, r17_8, p17, t1, t3, t8, t9, t10, op_mapUpdate, upd81 hmp, wk]
    refine ⟨l.length - (k + 1), by omega, k + 1, _, by omega, rfl, fun v => ?_, hG.put _ _ (Nat.le_succ _), hno, put_mp _ _, ?_, by simp [t1, t3, t8, t9]⟩
    · rw [findM_set, hf, List.take_add_one, List.getElem?_eq_getElem hlt]
      by_cases hv : v = l[k]
      · rw [if_pos hv, if_pos (by rw [hv]; exact List.mem_append_right _ (List.mem_cons_self ..)), hv, idxOf_at hnd hlt]
      · rw [if_neg hv]
        by_cases hv2 : v ∈ l.take k
        · rw [if_pos hv2, if_pos (List.mem_append_left _ hv2)]
        · rw [if_neg hv2, if_neg (by
            intro h
            rcases List.mem_append.1 h with h | h
            · exact hv2 h
            · simp at h; exact hv h)]
    · rw [put_mobj _ _ _ (by omega)]; exact ho
theorem show21_ok (X : AV) (t : Ty) (x : AV) (S : St) (hX : okCell X = true) (hx : TyX t x) (hn : nmB t = true) (hz : szT t ≤ 2 ^ 20) (hl : (varsF t []).length ≤ 64) (hS : S.Fresh) : ∃ r S', EvA E 21 [.agg (sc5 X t x)] S r S' ∧ r = .sc (.string (shownF t)) ∧ Grow S S' nilV := by
  refine ev21 rfl ?_
  have g0 := (Grow.refl hS nilV).born 34 (sc5 X t x)
  obtain ⟨r1, S1, e1, rfl, k1⟩ := show17_ok t x _ hx hn hz hl g0.fresh
  simp only [tc, sc5] at e1 g0
  simp only [e_nil, e_skip, e_exit, e_ret, e_c_exit, e_blk_nrm, e_blk_exit, e_pop_ret, e_seq, e_block, e_reg_nil, e_cond, condK_true, condK_false, eo_assign, eo_box, eo_load, eo_fieldAddr, opK_some, eq_self, true_and, and_true, List.map_cons, List.map_nil, op_assign, Bool.not_false, Bool.not_true, load_e, cut_f, cut_t, List.getElem?_cons_zero, List.getElem?_cons_succ, List.length_cons, List.length_nil, List.drop_zero, List.drop_succ_cons, List.take_succ_cons, List.take_zero, len_vec, len_nil, ret_ret, ret_nrm, retV_some, pack1, pack2, res_nil, res_tmp, getT_setD, setD_none, getT_leaf, initTm_nil, initTm_cons, ev_tmp, ev_int, ev_bool, ev_str, ev_nilslice, int_int, Option.map_some, Option.map_none, cond_true, cond_false, if_true, if_false, reduceCtorEq, Nat.reduceEqDiff, Nat.reduceAdd, Nat.reduceSub, Nat.reduceMul, Nat.reduceBEq, Int.reduceLT, Int.reduceLE, Int.reduceToNat, Int.reduceBEq, Int.reduceBNe, decide_true, decide_false, reduceIte, load24, call17, r21_0, r21_1, p21, sc5, op_box, cells_agg, load_pb, born_obj, fld34_1, fld_p, Option.bind_some, Nat.zero_add, Nat.le_refl]
  refine callK_of e1 ?_
  simp only [e_nil, e_skip, e_exit, e_ret, e_c_exit, e_blk_nrm, e_blk_exit, e_pop_ret, e_seq, e_block, e_reg_nil, e_cond, condK_true, condK_false, eo_assign, eo_box, eo_load, eo_fieldAddr, opK_some, eq_self, true_and, and_true, List.map_cons, List.map_nil, op_assign, Bool.not_false, Bool.not_true, load_e, cut_f, cut_t, List.getElem?_cons_zero, List.getElem?_cons_succ, List.length_cons, List.length_nil, List.drop_zero, List.drop_succ_cons, List.take_succ_cons, List.take_zero, len_vec, len_nil, ret_ret, ret_nrm, retV_some, pack1, pack2, res_nil, res_tmp, getT_setD, setD_none, getT_leaf, initTm_nil, initTm_cons, ev_tmp, ev_int, ev_bool, ev_str, ev_nilslice, int_int, Option.map_some, Option.map_none, cond_true, cond_false, if_true, if_false, reduceCtorEq, Nat.reduceEqDiff, Nat.reduceAdd, Nat.reduceSub, Nat.reduceMul, Nat.reduceBEq, Int.reduceLT, Int.reduceLE, Int.reduceToNat, Int.reduceBEq, Int.reduceBNe, decide_true, decide_false, reduceIte, load24, call17, r21_0, r21_1, p21]
  exact g0.two k1
end Go.Proofs.YtaacibffjmbfiaaDoor
