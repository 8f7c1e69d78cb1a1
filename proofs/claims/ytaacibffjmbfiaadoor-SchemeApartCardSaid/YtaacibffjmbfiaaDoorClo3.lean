/-
  Schemes closed: Close.
-/
import Derived.Test.YtaacibffjmbfiaaDoorClo2
set_option linter.unusedSimpArgs false
set_option linter.unusedVariables false
set_option maxRecDepth 100000
namespace Go.Proofs.YtaacibffjmbfiaaDoor
open Go.Abs
def heldF (es : List SchV) (v : Int) : Bool := es.any fun e => decide (v ∈ restF e.l e.t)
def closeF (es : List SchV) (t : Ty) : List Int := sortI ((varsF t []).filter fun v => !heldF es v)
theorem look76 {l : Nat} {kvs : List (Int × AV)} {S : St} (h : S.IsMp l kvs) (k : Int) : lookupA E 76 (.mp l) (.sc (.int .i64 k)) false S = some ((findM k kvs).getD (.sc (.bool false)), S) :=
  mapV_lookup1 (t := 76) (kt := 3) (et := 4) (by kernel_rfl) (by kernel_rfl) (by kernel_rfl) h k
theorem upd76 {l : Nat} {kvs : List (Int × AV)} {S : St} (h : S.IsMp l kvs) (k : Int) (x : AV) : mapUpdateA E 76 (.mp l) (.sc (.int .i64 k)) x S = some (passed, S.put l (.mp (mapVs (setM k x kvs)))) :=
  mapV_update (t := 76) (kt := 3) (et := 4) (by kernel_rfl) (by kernel_rfl) h k x
/-- The numbers that a map holds. -/
def HeldM (kvs : List (Int × AV)) (P : Int → Prop) : Prop := ∀ v, (P v → findM v kvs = some (.sc (.bool true))) ∧ (¬ P v → findM v kvs = none)
theorem HeldM.set {kvs : List (Int × AV)} {P : Int → Prop} (h : HeldM kvs P) (z : Int) : HeldM (setM z (.sc (.bool true)) kvs) fun v => P v ∨ v = z := by
  intro v
  rw [findM_set]
  by_cases hv : v = z
  · rw [if_pos hv]
    exact ⟨fun _ => rfl, fun hn => absurd (.inr hv) hn⟩
  · rw [if_neg hv]
    refine ⟨fun hp => ?_, fun hn => (h v).2 fun hp => hn (.inl hp)⟩
    rcases hp with hp | hp
    · exact (h v).1 hp
    · exact absurd hp hv
theorem HeldM.congr {kvs : List (Int × AV)} {P Q : Int → Prop} (h : HeldM kvs P) (e : ∀ v, P v ↔ Q v) : HeldM kvs Q := fun v => ⟨fun hq => (h v).1 ((e v).2 hq), fun hn => (h v).2 fun hp => hn ((e v).1 hp)⟩
set_option maxHeartbeats 32000000 in
theorem close_ok (X : AV) (es : List SchV) (t : Ty) (x : AV) (p m : Nat) (n : Int) (S : St) (hX : EnvIs X es) (hl : es.length ≤ 2 ^ 40) (hg : ∀ e ∈ es, e.good) (hx : TyX t x) (hgd : goodF t = true) (hs : SubAt S p m n) (hS : S.Fresh) :
    ∃ r S', EvA E 15 [.ptr p 0, .agg (tc t x), X] S r S' ∧ (∃ Y y, r = .agg (sc5 Y t y) ∧ TyX t y ∧ MutI S.no S' Y (closeF es t)) ∧ Grow S S' nilV := by
  refine ev15 rfl ?_
  have hsz := good_sz hgd
  have hvl := vars_len0 hgd
  have lX : ∀ S, lenV X S = some (.sc (.int .i64 (es.length : Nat)), S) := fun S => hX.len S
  have g0 := ((Grow.refl hS nilV).born 24 (tc t x)).born 34 z34
  have h0 : ((S.born 24 (tc t x)).born 34 z34).obj S.no = some (tc t x) := by simp [born_obj, born_no]
  have h1 : ((S.born 24 (tc t x)).born 34 z34).obj (S.no + 1) = some z34 := by simp [born_obj, born_no]
  have n0 : S.no + 1 < ((S.born 24 (tc t x)).born 34 z34).no := Nat.lt_succ_self _
  obtain ⟨r1, S1, e1, rfl, k1⟩ := good_ok t x _ hx g0.fresh
  have g1 := g0.two k1
  have a0 := k1.objs h0 (by omega)
  have a1 := k1.objs h1 n0
  have n1 := Nat.lt_of_lt_of_le n0 k1.no
  obtain ⟨r2, S2, e2, rfl, k2⟩ := containsf_ok X es hX hl hg S1 k1.fresh
  have g2 := g1.two k2
  have b0 := k2.objs a0 (by omega)
  have b1 := k2.objs a1 n1
  have n2 := Nat.lt_of_lt_of_le n1 k2.no
  simp only [tc, z34] at g0 h0 h1 n0 e1 a0 a1 n1 b0 b1 n2 g1 g2
  simp only [e_nil, e_skip, e_exit, e_ret, e_c_exit, e_blk_nrm, e_blk_exit, e_pop_ret, e_seq, e_block, e_reg_nil, e_cond, condK_true, condK_false, eo_move, eo_assign, eo_pick, eo_alloc, eo_box, eo_build, eo_buildSlice, eo_load, eo_store, eo_bin, eo_un, eo_lookup, eo_mapUpdate, eo_makeMap, eo_fieldAddr, eo_indexAddr, eo_builtin, opK_some, e_guard, guardK_same, guardK_tf, guardK_ft, guardK_passed, eq_self, true_and, and_true, op_bin, b_add, b_lss, List.map_cons, List.map_nil, op_move, op_assign, op_pick, pick_bool, op_un, un_not, Bool.not_false, Bool.not_true, load_e, cut_f, cut_t, List.getElem?_cons_zero, List.getElem?_cons_succ, List.length_cons, List.length_nil, List.drop_zero, List.drop_succ_cons, List.take_succ_cons, List.take_zero, len_vec, len_nil, ret_ret, ret_nrm, retV_some, pack1, pack2, res_nil, res_tmp, getT_setD, setD_none, getT_leaf, initTm_nil, initTm_cons, ev_tmp, ev_int, ev_bool, ev_str, ev_nilslice, int_int, Option.map_some, Option.map_none, cond_true, cond_false, if_true, if_false, reduceCtorEq, Nat.reduceEqDiff, Nat.reduceAdd, Nat.reduceSub, Nat.reduceMul, Nat.reduceBEq, Int.reduceLT, Int.reduceLE, Int.reduceToNat, Int.reduceBEq, Int.reduceBNe, decide_true, decide_false, reduceIte, load3, load24, index25, len25, load32, store32, bs32, app32, index32, len32, load34, store34, call10, call14, call18, call37, call39, call40, call41, r15_0, r15_1, r15_2, r15_3, r15_4, r15_5, r15_6, r15_7, r15_8, r15_9, r15_10, r15_11, r15_13, r15_15, r15_16, r15_17, r15_18, r15_19, r15_20, r15_21, r15_23, r15_24, p15, tc, z34, op_box, cells_agg, alloc34, born_no, load_pb, h0, Option.bind_some, Nat.zero_add, Nat.le_refl]
  refine callK_of e1 ?_
  simp only [hgd, e_nil, e_skip, e_exit, e_ret, e_c_exit, e_blk_nrm, e_blk_exit, e_pop_ret, e_seq, e_block, e_reg_nil, e_cond, condK_true, condK_false, eo_move, eo_assign, eo_pick, eo_alloc, eo_box, eo_build, eo_buildSlice, eo_load, eo_store, eo_bin, eo_un, eo_lookup, eo_mapUpdate, eo_makeMap, eo_fieldAddr, eo_indexAddr, eo_builtin, opK_some, e_guard, guardK_same, guardK_tf, guardK_ft, guardK_passed, eq_self, true_and, and_true, op_bin, b_add, b_lss, List.map_cons, List.map_nil, op_move, op_assign, op_pick, pick_bool, op_un, un_not, Bool.not_false, Bool.not_true, load_e, cut_f, cut_t, List.getElem?_cons_zero, List.getElem?_cons_succ, List.length_cons, List.length_nil, List.drop_zero, List.drop_succ_cons, List.take_succ_cons, List.take_zero, len_vec, len_nil, ret_ret, ret_nrm, retV_some, pack1, pack2, res_nil, res_tmp, getT_setD, setD_none, getT_leaf, initTm_nil, initTm_cons, ev_tmp, ev_int, ev_bool, ev_str, ev_nilslice, int_int, Option.map_some, Option.map_none, cond_true, cond_false, if_true, if_false, reduceCtorEq, Nat.reduceEqDiff, Nat.reduceAdd, Nat.reduceSub, Nat.reduceMul, Nat.reduceBEq, Int.reduceLT, Int.reduceLE, Int.reduceToNat, Int.reduceBEq, Int.reduceBNe, decide_true, decide_false, reduceIte, load3, load24, index25, len25, load32, store32, bs32, app32, index32, len32, load34, store34, call10, call14, call18, call37, call39, call40, call41, r15_0, r15_1, r15_2, r15_3, r15_4, r15_5, r15_6, r15_7, r15_8, r15_9, r15_10, r15_11, r15_13, r15_15, r15_16, r15_17, r15_18, r15_19, r15_20, r15_21, r15_23, r15_24, p15]
  refine callK_of e2 ?_
  have gm := g2.bornMap
  have c0 : S2.bornMap.obj S.no = _ := (bornMap_obj S.no (by omega)).trans b0
  have c1 : S2.bornMap.obj (S.no + 1) = _ := (bornMap_obj (S.no + 1) n2).trans b1
  simp only [e_nil, e_skip, e_exit, e_ret, e_c_exit, e_blk_nrm, e_blk_exit, e_pop_ret, e_seq, e_block, e_reg_nil, e_cond, condK_true, condK_false, eo_move, eo_assign, eo_pick, eo_alloc, eo_box, eo_build, eo_buildSlice, eo_load, eo_store, eo_bin, eo_un, eo_lookup, eo_mapUpdate, eo_makeMap, eo_fieldAddr, eo_indexAddr, eo_builtin, opK_some, e_guard, guardK_same, guardK_tf, guardK_ft, guardK_passed, eq_self, true_and, and_true, op_bin, b_add, b_lss, List.map_cons, List.map_nil, op_move, op_assign, op_pick, pick_bool, op_un, un_not, Bool.not_false, Bool.not_true, load_e, cut_f, cut_t, List.getElem?_cons_zero, List.getElem?_cons_succ, List.length_cons, List.length_nil, List.drop_zero, List.drop_succ_cons, List.take_succ_cons, List.take_zero, len_vec, len_nil, ret_ret, ret_nrm, retV_some, pack1, pack2, res_nil, res_tmp, getT_setD, setD_none, getT_leaf, initTm_nil, initTm_cons, ev_tmp, ev_int, ev_bool, ev_str, ev_nilslice, int_int, Option.map_some, Option.map_none, cond_true, cond_false, if_true, if_false, reduceCtorEq, Nat.reduceEqDiff, Nat.reduceAdd, Nat.reduceSub, Nat.reduceMul, Nat.reduceBEq, Int.reduceLT, Int.reduceLE, Int.reduceToNat, Int.reduceBEq, Int.reduceBNe, decide_true, decide_false, reduceIte, load3, load24, index25, len25, load32, store32, bs32, app32, index32, len32, load34, store34, call10, call14, call18, call37, call39, call40, call41, r15_0, r15_1, r15_2, r15_3, r15_4, r15_5, r15_6, r15_7, r15_8, r15_9, r15_10, r15_11, r15_13, r15_15, r15_16, r15_17, r15_18, r15_19, r15_20, r15_21, r15_23, r15_24, p15, op_makeMap, lX]
  refine e_loop (fun tm S' N => ∃ (k : Nat) (kvs : List (Int × AV)), k ≤ es.length ∧ N = es.length - k ∧ HeldM kvs (fun v => ∃ e ∈ es.take k, v ∈ restF e.l e.t) ∧ Grow S S' nilV ∧ S2.no < S'.no ∧ S'.IsMp S2.no kvs ∧
    S'.obj S.no = some [.sc (.int .i64 t.kind), .sc (.string t.name), .sc (.int .i64 t.var), x] ∧ S'.obj (S.no + 1) = some [.sc (.slice none 0 0), .sc (.int .i64 0), .sc (.string ⟨#[]⟩), .sc (.int .i64 0), .sc (.slice none 0 0)] ∧
      getT tm 0 = .ptr p 0 ∧ getT tm 4 = .ptr S.no 0 ∧ getT tm 6 = .ptr (S.no + 1) 0 ∧ getT tm 7 = .mp S2.no ∧ getT tm 25 = X ∧ getT tm 26 = .sc (.int .i64 (es.length : Nat)) ∧ getT tm 27 = .sc (.int .i64 (k : Int))) es.length
    ⟨0, [], by omega, by omega, fun v => ⟨fun ⟨e, he, _⟩ => by simp at he, fun _ => rfl⟩, gm, Nat.lt_succ_self _, bornMap_mp, c0, c1, by simp [getT_setD]⟩ ?_
  rintro tm S' N ⟨k, kvs, hk, rfl, hH, hG, hno, hmp, ho0, ho1, t0, t4, t6, t7, t25, t26, t27⟩
  by_cases hlt : k < es.length
  case pos =>
    have hm := List.getElem_mem hlt
    have hek := hX.2 _ hm
    have hgk := hg _ hm
    have hoX : okCell es[k].X = true := (RdI.okc (S := S') (.inl hek.X))
    have hox := hek.x.okc
    have gb := (hG.born 34 z34).put S'.no (.cells (sc5 es[k].X es[k].t es[k].x)) hG.no
    have gb1 := ((Grow.refl hG.fresh nilV).born 34 z34).put S'.no (.cells (sc5 es[k].X es[k].t es[k].x)) (Nat.le_refl _)
    obtain ⟨r3, S3, e3, o3, k3⟩ := rest_ok es[k] hek hgk.len hgk.g p m n _ (hs.grow gb) gb.fresh
    have g3 := gb.two k3
    have gk := gb1.two k3
    have lr : ∀ S, lenV r3 S = some (.sc (.int .i64 ((restF es[k].l es[k].t).length : Nat)), S) := fun S => lenI (S := S) o3.is S
    have hri := o3.is
    have hrl : (restF es[k].l es[k].t).length ≤ 500 := by
      have h1 := vars_len0 hgk.g
      have h2 := List.length_filter_le (fun v => decide (v ∉ es[k].l)) (varsF es[k].t [])
      unfold restF
      omega
    have wk := wrapK hlt (by omega)
    simp only [z34, sc5] at gb gb1 e3 gk g3
    simp only [e_nil, e_skip, e_exit, e_ret, e_c_exit, e_blk_nrm, e_blk_exit, e_pop_ret, e_seq, e_block, e_reg_nil, e_cond, condK_true, condK_false, eo_move, eo_assign, eo_pick, eo_alloc, eo_box, eo_build, eo_buildSlice, eo_load, eo_store, eo_bin, eo_un, eo_lookup, eo_mapUpdate, eo_makeMap, eo_fieldAddr, eo_indexAddr, eo_builtin, opK_some, e_guard, guardK_same, guardK_tf, guardK_ft, guardK_passed, eq_self, true_and, and_true, op_bin, b_add, b_lss, List.map_cons, List.map_nil, op_move, op_assign, op_pick, pick_bool, op_un, un_not, Bool.not_false, Bool.not_true, load_e, cut_f, cut_t, List.getElem?_cons_zero, List.getElem?_cons_succ, List.length_cons, List.length_nil, List.drop_zero, List.drop_succ_cons, List.take_succ_cons, List.take_zero, len_vec, len_nil, ret_ret, ret_nrm, retV_some, pack1, pack2, res_nil, res_tmp, getT_setD, setD_none, getT_leaf, initTm_nil, initTm_cons, ev_tmp, ev_int, ev_bool, ev_str, ev_nilslice, int_int, Option.map_some, Option.map_none, cond_true, cond_false, if_true, if_false, reduceCtorEq, Nat.reduceEqDiff, Nat.reduceAdd, Nat.reduceSub, Nat.reduceMul, Nat.reduceBEq, Int.reduceLT, Int.reduceLE, Int.reduceToNat, Int.reduceBEq, Int.reduceBNe, decide_true, decide_false, reduceIte, load3, load24, index25, len25, load32, store32, bs32, app32, index32, len32, load34, store34, call10, call14, call18, call37, call39, call40, call41, b15_14, r15_0, r15_1, r15_2, r15_3, r15_4, r15_5, r15_6, r15_7, r15_8, r15_9, r15_10, r15_11, r15_13, r15_15, r15_16, r15_17, r15_18, r15_19, r15_20, r15_21, r15_23, r15_24, p15, t0, t4, t6, t7, t25, t26, t27, dec_lt hlt, hX.at hlt, sc5, alloc34, z34, st34 _ _ _ _ _ _ _ hoX hox, born_obj, put_obj, load_pb, Option.bind_some, Nat.le_refl, List.drop_nil, Nat.zero_add]
    refine callK_of e3 ?_
    simp only [e_nil, e_skip, e_exit, e_ret, e_c_exit, e_blk_nrm, e_blk_exit, e_pop_ret, e_seq, e_block, e_reg_nil, e_cond, condK_true, condK_false, eo_move, eo_assign, eo_pick, eo_alloc, eo_box, eo_build, eo_buildSlice, eo_load, eo_store, eo_bin, eo_un, eo_lookup, eo_mapUpdate, eo_makeMap, eo_fieldAddr, eo_indexAddr, eo_builtin, opK_some, e_guard, guardK_same, guardK_tf, guardK_ft, guardK_passed, eq_self, true_and, and_true, op_bin, b_add, b_lss, List.map_cons, List.map_nil, op_move, op_assign, op_pick, pick_bool, op_un, un_not, Bool.not_false, Bool.not_true, load_e, cut_f, cut_t, List.getElem?_cons_zero, List.getElem?_cons_succ, List.length_cons, List.length_nil, List.drop_zero, List.drop_succ_cons, List.take_succ_cons, List.take_zero, len_vec, len_nil, ret_ret, ret_nrm, retV_some, pack1, pack2, res_nil, res_tmp, getT_setD, setD_none, getT_leaf, initTm_nil, initTm_cons, ev_tmp, ev_int, ev_bool, ev_str, ev_nilslice, int_int, Option.map_some, Option.map_none, cond_true, cond_false, if_true, if_false, reduceCtorEq, Nat.reduceEqDiff, Nat.reduceAdd, Nat.reduceSub, Nat.reduceMul, Nat.reduceBEq, Int.reduceLT, Int.reduceLE, Int.reduceToNat, Int.reduceBEq, Int.reduceBNe, decide_true, decide_false, reduceIte, load3, load24, index25, len25, load32, store32, bs32, app32, index32, len32, load34, store34, call10, call14, call18, call37, call39, call40, call41, r15_0, r15_1, r15_2, r15_3, r15_4, r15_5, r15_6, r15_7, r15_8, r15_9, r15_10, r15_11, r15_13, r15_15, r15_16, r15_17, r15_18, r15_19, r15_20, r15_21, r15_23, r15_24, p15, t0, t4, t6, t7, t25, t26, t27, lr]
    have q0 := gk.objs ho0 (by omega)
    have q1 := gk.objs ho1 (by omega)
    have q2 := gk.isMp hmp hno
    have q3 := Nat.lt_of_lt_of_le hno gk.no
    generalize hrleq : restF es[k].l es[k].t = rl at lr hri hrl o3
    refine e_loop (fun tm2 S'' N2 => ∃ (j : Nat) (kv : List (Int × AV)), j ≤ rl.length ∧ N2 = rl.length - j ∧ HeldM kv (fun v => (∃ e ∈ es.take k, v ∈ restF e.l e.t) ∨ v ∈ rl.take j) ∧ Grow S S'' nilV ∧ S2.no < S''.no ∧ S''.IsMp S2.no kv ∧
      S''.obj S.no = some [.sc (.int .i64 t.kind), .sc (.string t.name), .sc (.int .i64 t.var), x] ∧ S''.obj (S.no + 1) = some [.sc (.slice none 0 0), .sc (.int .i64 0), .sc (.string ⟨#[]⟩), .sc (.int .i64 0), .sc (.slice none 0 0)] ∧
        getT tm2 0 = .ptr p 0 ∧ getT tm2 4 = .ptr S.no 0 ∧ getT tm2 6 = .ptr (S.no + 1) 0 ∧ getT tm2 7 = .mp S2.no ∧ getT tm2 25 = X ∧ getT tm2 26 = .sc (.int .i64 (es.length : Nat)) ∧ getT tm2 27 = .sc (.int .i64 (k : Int)) ∧ getT tm2 33 = r3 ∧ getT tm2 34 = .sc (.int .i64 (rl.length : Nat)) ∧ getT tm2 35 = .sc (.int .i64 (j : Int))) rl.length
      ⟨0, kvs, by omega, by omega, hH.congr (fun v => by simp), g3, q3, q2, q0, q1, by simp [getT_setD, t0, t4, t6, t7, t25, t26, t27]⟩ ?_
    rintro tm2 S'' N2 ⟨j, kv, hj, rfl, hH2, hG2, hno2, hmp2, hp0, hp1, u0, u4, u6, u7, u25, u26, u27, u33, u34, u35⟩
    by_cases hjt : j < rl.length
    case pos =>
      have wj := wrapK hjt (by omega)
      simp only [e_nil, e_skip, e_exit, e_ret, e_c_exit, e_blk_nrm, e_blk_exit, e_pop_ret, e_seq, e_block, e_reg_nil, e_cond, condK_true, condK_false, eo_move, eo_assign, eo_pick, eo_alloc, eo_box, eo_build, eo_buildSlice, eo_load, eo_store, eo_bin, eo_un, eo_lookup, eo_mapUpdate, eo_makeMap, eo_fieldAddr, eo_indexAddr, eo_builtin, opK_some, e_guard, guardK_same, guardK_tf, guardK_ft, guardK_passed, eq_self, true_and, and_true, op_bin, b_add, b_lss, List.map_cons, List.map_nil, op_move, op_assign, op_pick, pick_bool, op_un, un_not, Bool.not_false, Bool.not_true, load_e, cut_f, cut_t, List.getElem?_cons_zero, List.getElem?_cons_succ, List.length_cons, List.length_nil, List.drop_zero, List.drop_succ_cons, List.take_succ_cons, List.take_zero, len_vec, len_nil, ret_ret, ret_nrm, retV_some, pack1, pack2, res_nil, res_tmp, getT_setD, setD_none, getT_leaf, initTm_nil, initTm_cons, ev_tmp, ev_int, ev_bool, ev_str, ev_nilslice, int_int, Option.map_some, Option.map_none, cond_true, cond_false, if_true, if_false, reduceCtorEq, Nat.reduceEqDiff, Nat.reduceAdd, Nat.reduceSub, Nat.reduceMul, Nat.reduceBEq, Int.reduceLT, Int.reduceLE, Int.reduceToNat, Int.reduceBEq, Int.reduceBNe, decide_true, decide_false, reduceIte, load3, load24, index25, len25, load32, store32, bs32, app32, index32, len32, load34, store34, call10, call14, call18, call37, call39, call40, call41, b15_12, r15_0, r15_1, r15_2, r15_3, r15_4, r15_5, r15_6, r15_7, r15_8, r15_9, r15_10, r15_11, r15_13, r15_15, r15_16, r15_17, r15_18, r15_19, r15_20, r15_21, r15_23, r15_24, p15, u0, u4, u6, u7, u25, u26, u27, u33, u34, u35, dec_lt hjt, idxI hri hjt, op_mapUpdate, upd76 hmp2, wj]
      refine ⟨rl.length - (j + 1), by omega, j + 1, _, by omega, rfl, (hH2.set rl[j]).congr (fun v => ?_), hG2.put _ _ (by have := g2.no; omega), hno2, put_mp _ _, ?_, ?_, by simp [u0, u4, u6, u7, u25, u26, u27, u33, u34]⟩
      · rw [List.take_add_one, List.getElem?_eq_getElem hjt]
        simp only [List.mem_append, Option.toList_some, List.mem_singleton]
        exact or_assoc
      · rw [put_mobj _ _ _ (by omega)]; exact hp0
      · rw [put_mobj _ _ _ (by omega)]; exact hp1
    case neg =>
      have hje : j = rl.length := by omega
      rw [hje, List.take_length] at hH2
      simp only [e_nil, e_skip, e_exit, e_ret, e_c_exit, e_blk_nrm, e_blk_exit, e_pop_ret, e_seq, e_block, e_reg_nil, e_cond, condK_true, condK_false, eo_move, eo_assign, eo_pick, eo_alloc, eo_box, eo_build, eo_buildSlice, eo_load, eo_store, eo_bin, eo_un, eo_lookup, eo_mapUpdate, eo_makeMap, eo_fieldAddr, eo_indexAddr, eo_builtin, opK_some, e_guard, guardK_same, guardK_tf, guardK_ft, guardK_passed, eq_self, true_and, and_true, op_bin, b_add, b_lss, List.map_cons, List.map_nil, op_move, op_assign, op_pick, pick_bool, op_un, un_not, Bool.not_false, Bool.not_true, load_e, cut_f, cut_t, List.getElem?_cons_zero, List.getElem?_cons_succ, List.length_cons, List.length_nil, List.drop_zero, List.drop_succ_cons, List.take_succ_cons, List.take_zero, len_vec, len_nil, ret_ret, ret_nrm, retV_some, pack1, pack2, res_nil, res_tmp, getT_setD, setD_none, getT_leaf, initTm_nil, initTm_cons, ev_tmp, ev_int, ev_bool, ev_str, ev_nilslice, int_int, Option.map_some, Option.map_none, cond_true, cond_false, if_true, if_false, reduceCtorEq, Nat.reduceEqDiff, Nat.reduceAdd, Nat.reduceSub, Nat.reduceMul, Nat.reduceBEq, Int.reduceLT, Int.reduceLE, Int.reduceToNat, Int.reduceBEq, Int.reduceBNe, decide_true, decide_false, reduceIte, load3, load24, index25, len25, load32, store32, bs32, app32, index32, len32, load34, store34, call10, call14, call18, call37, call39, call40, call41, b15_12, r15_0, r15_1, r15_2, r15_3, r15_4, r15_5, r15_6, r15_7, r15_8, r15_9, r15_10, r15_11, r15_13, r15_15, r15_16, r15_17, r15_18, r15_19, r15_20, r15_21, r15_23, r15_24, p15, u0, u4, u6, u7, u25, u26, u27, u33, u34, u35, dec_nlt hjt, wk]
      refine ⟨es.length - (k + 1), by omega, k + 1, _, by omega, rfl, hH2.congr (fun v => ?_), hG2, hno2, hmp2, hp0, hp1, by simp [u0, u4, u6, u7, u25, u26]⟩
      rw [List.take_add_one, List.getElem?_eq_getElem hlt]
      constructor
      · rintro (⟨e, he, hv⟩ | hv)
        · exact ⟨e, List.mem_append_left _ he, hv⟩
        · exact ⟨es[k], List.mem_append_right _ (List.mem_cons_self ..), by rw [hrleq]; exact hv⟩
      · rintro ⟨e, he, hv⟩
        rcases List.mem_append.1 he with he | he
        · exact .inl ⟨e, he, hv⟩
        · simp at he
          subst he
          exact .inr (by rw [← hrleq]; exact hv)
  case neg =>
    have hke : k = es.length := by omega
    rw [hke, List.take_length] at hH
    have hb : ∀ v, (findM v kvs).getD (.sc (.bool false)) = .sc (.bool (heldF es v)) := fun v => by
      by_cases hv : ∃ e ∈ es, v ∈ restF e.l e.t
      · rw [(hH v).1 hv]
        have : heldF es v = true := by
          unfold heldF
          rw [List.any_eq_true]
          obtain ⟨e, he, hv⟩ := hv
          exact ⟨e, he, by simpa using hv⟩
        rw [this]; rfl
      · rw [(hH v).2 hv]
        have : heldF es v = false := by
          rw [Bool.eq_false_iff]
          intro h
          unfold heldF at h
          rw [List.any_eq_true] at h
          obtain ⟨e, he, h⟩ := h
          exact hv ⟨e, he, by simpa using h⟩
        rw [this]; rfl
    have hsn : S.no + 1 < S'.no := by omega
    obtain ⟨r4, S4, e4, ⟨y, hr4, hy⟩, k4⟩ := apply40_ok t x p m n S' hx (by omega) (hs.grow hG) hG.fresh
    subst hr4
    have hoy := hy.okc
    have g4 := hG.two k4
    have gb := (g4.born 34 z34).put S4.no (.cells (sc5 nilV t y)) g4.no
    have gb1 := ((Grow.refl k4.fresh nilV).born 34 z34).put S4.no (.cells (sc5 nilV t y)) (Nat.le_refl _)
    have w1 := gb1.objs (k4.objs ho1 hsn) (Nat.lt_of_lt_of_le hsn k4.no)
    have w2 := gb1.isMp (k4.isMp hmp hno) (Nat.lt_of_lt_of_le hno k4.no)
    have w3 : ((S4.born 34 z34).put S4.no (.cells (sc5 nilV t y))).obj S4.no = some (sc5 nilV t y) := by simp [put_obj]
    have w4 : S4.no < ((S4.born 34 z34).put S4.no (.cells (sc5 nilV t y))).no := Nat.lt_succ_self _
    have hk4 := k4.no
    obtain ⟨r5, S5, e5, o5, k5, nb5⟩ := vars14_ok t y _ hy (by omega) gb.fresh
    have g5 := gb.two k5
    have x1 := k5.objs w1 (by omega)
    have x2 := k5.isMp w2 (by omega)
    have x3 := k5.objs w3 w4
    have x4 := Nat.lt_of_lt_of_le w4 k5.no
    have lr : ∀ S, lenV r5 S = some (.sc (.int .i64 ((varsF t []).length : Nat)), S) := fun S => lenI (S := S) o5.is S
    have hri := o5.is
    simp only [tc, sc5, z34] at e4 e5 x1 x2 x3 x4 gb gb1 w1 w2 w3 w4
    simp only [e_nil, e_skip, e_exit, e_ret, e_c_exit, e_blk_nrm, e_blk_exit, e_pop_ret, e_seq, e_block, e_reg_nil, e_cond, condK_true, condK_false, eo_move, eo_assign, eo_pick, eo_alloc, eo_box, eo_build, eo_buildSlice, eo_load, eo_store, eo_bin, eo_un, eo_lookup, eo_mapUpdate, eo_makeMap, eo_fieldAddr, eo_indexAddr, eo_builtin, opK_some, e_guard, guardK_same, guardK_tf, guardK_ft, guardK_passed, eq_self, true_and, and_true, op_bin, b_add, b_lss, List.map_cons, List.map_nil, op_move, op_assign, op_pick, pick_bool, op_un, un_not, Bool.not_false, Bool.not_true, load_e, cut_f, cut_t, List.getElem?_cons_zero, List.getElem?_cons_succ, List.length_cons, List.length_nil, List.drop_zero, List.drop_succ_cons, List.take_succ_cons, List.take_zero, len_vec, len_nil, ret_ret, ret_nrm, retV_some, pack1, pack2, res_nil, res_tmp, getT_setD, setD_none, getT_leaf, initTm_nil, initTm_cons, ev_tmp, ev_int, ev_bool, ev_str, ev_nilslice, int_int, Option.map_some, Option.map_none, cond_true, cond_false, if_true, if_false, reduceCtorEq, Nat.reduceEqDiff, Nat.reduceAdd, Nat.reduceSub, Nat.reduceMul, Nat.reduceBEq, Int.reduceLT, Int.reduceLE, Int.reduceToNat, Int.reduceBEq, Int.reduceBNe, decide_true, decide_false, reduceIte, load3, load24, index25, len25, load32, store32, bs32, app32, index32, len32, load34, store34, call10, call14, call18, call37, call39, call40, call41, b15_14, r15_0, r15_1, r15_2, r15_3, r15_4, r15_5, r15_6, r15_7, r15_8, r15_9, r15_10, r15_11, r15_13, r15_15, r15_16, r15_17, r15_18, r15_19, r15_20, r15_21, r15_23, r15_24, p15, t0, t4, t6, t7, t25, t26, t27, dec_nlt hlt, load_pb, ho0, Option.bind_some, Nat.zero_add, Nat.le_refl]
    refine callK_of e4 ?_
    simp only [e_nil, e_skip, e_exit, e_ret, e_c_exit, e_blk_nrm, e_blk_exit, e_pop_ret, e_seq, e_block, e_reg_nil, e_cond, condK_true, condK_false, eo_move, eo_assign, eo_pick, eo_alloc, eo_box, eo_build, eo_buildSlice, eo_load, eo_store, eo_bin, eo_un, eo_lookup, eo_mapUpdate, eo_makeMap, eo_fieldAddr, eo_indexAddr, eo_builtin, opK_some, e_guard, guardK_same, guardK_tf, guardK_ft, guardK_passed, eq_self, true_and, and_true, op_bin, b_add, b_lss, List.map_cons, List.map_nil, op_move, op_assign, op_pick, pick_bool, op_un, un_not, Bool.not_false, Bool.not_true, load_e, cut_f, cut_t, List.getElem?_cons_zero, List.getElem?_cons_succ, List.length_cons, List.length_nil, List.drop_zero, List.drop_succ_cons, List.take_succ_cons, List.take_zero, len_vec, len_nil, ret_ret, ret_nrm, retV_some, pack1, pack2, res_nil, res_tmp, getT_setD, setD_none, getT_leaf, initTm_nil, initTm_cons, ev_tmp, ev_int, ev_bool, ev_str, ev_nilslice, int_int, Option.map_some, Option.map_none, cond_true, cond_false, if_true, if_false, reduceCtorEq, Nat.reduceEqDiff, Nat.reduceAdd, Nat.reduceSub, Nat.reduceMul, Nat.reduceBEq, Int.reduceLT, Int.reduceLE, Int.reduceToNat, Int.reduceBEq, Int.reduceBNe, decide_true, decide_false, reduceIte, load3, load24, index25, len25, load32, store32, bs32, app32, index32, len32, load34, store34, call10, call14, call18, call37, call39, call40, call41, r15_0, r15_1, r15_2, r15_3, r15_4, r15_5, r15_6, r15_7, r15_8, r15_9, r15_10, r15_11, r15_13, r15_15, r15_16, r15_17, r15_18, r15_19, r15_20, r15_21, r15_23, r15_24, p15, t0, t4, t6, t7, op_build, bld34_1, alloc34, z34, st34 _ _ _ _ _ _ _ okn hoy, born_obj, put_obj, load_pb, fld34_1, fld_p, Option.bind_some, Nat.zero_add, Nat.add_zero, Nat.le_refl, List.drop_nil]
    refine callK_of e5 ?_
    simp only [e_nil, e_skip, e_exit, e_ret, e_c_exit, e_blk_nrm, e_blk_exit, e_pop_ret, e_seq, e_block, e_reg_nil, e_cond, condK_true, condK_false, eo_move, eo_assign, eo_pick, eo_alloc, eo_box, eo_build, eo_buildSlice, eo_load, eo_store, eo_bin, eo_un, eo_lookup, eo_mapUpdate, eo_makeMap, eo_fieldAddr, eo_indexAddr, eo_builtin, opK_some, e_guard, guardK_same, guardK_tf, guardK_ft, guardK_passed, eq_self, true_and, and_true, op_bin, b_add, b_lss, List.map_cons, List.map_nil, op_move, op_assign, op_pick, pick_bool, op_un, un_not, Bool.not_false, Bool.not_true, load_e, cut_f, cut_t, List.getElem?_cons_zero, List.getElem?_cons_succ, List.length_cons, List.length_nil, List.drop_zero, List.drop_succ_cons, List.take_succ_cons, List.take_zero, len_vec, len_nil, ret_ret, ret_nrm, retV_some, pack1, pack2, res_nil, res_tmp, getT_setD, setD_none, getT_leaf, initTm_nil, initTm_cons, ev_tmp, ev_int, ev_bool, ev_str, ev_nilslice, int_int, Option.map_some, Option.map_none, cond_true, cond_false, if_true, if_false, reduceCtorEq, Nat.reduceEqDiff, Nat.reduceAdd, Nat.reduceSub, Nat.reduceMul, Nat.reduceBEq, Int.reduceLT, Int.reduceLE, Int.reduceToNat, Int.reduceBEq, Int.reduceBNe, decide_true, decide_false, reduceIte, load3, load24, index25, len25, load32, store32, bs32, app32, index32, len32, load34, store34, call10, call14, call18, call37, call39, call40, call41, r15_0, r15_1, r15_2, r15_3, r15_4, r15_5, r15_6, r15_7, r15_8, r15_9, r15_10, r15_11, r15_13, r15_15, r15_16, r15_17, r15_18, r15_19, r15_20, r15_21, r15_23, r15_24, p15, t0, t4, t6, t7, lr]
    refine e_loop (fun tm2 S'' N2 => ∃ (j : Nat) (Y : AV) (out : List Int), j ≤ (varsF t []).length ∧ N2 = (varsF t []).length - j ∧ out = ((varsF t []).take j).filter (fun v => !heldF es v) ∧ MutI S5.no S'' Y out ∧ Grow S S'' nilV ∧ S5.no ≤ S''.no ∧ S''.IsMp S2.no kvs ∧
      S''.obj S4.no = some [Y, .sc (.int .i64 t.kind), .sc (.string t.name), .sc (.int .i64 t.var), y] ∧ S''.obj (S.no + 1) = some [.sc (.slice none 0 0), .sc (.int .i64 0), .sc (.string ⟨#[]⟩), .sc (.int .i64 0), .sc (.slice none 0 0)] ∧
        getT tm2 6 = .ptr (S.no + 1) 0 ∧ getT tm2 7 = .mp S2.no ∧ getT tm2 12 = .ptr S4.no 0 ∧ getT tm2 49 = r5 ∧ getT tm2 50 = .sc (.int .i64 ((varsF t []).length : Nat)) ∧ getT tm2 51 = .sc (.int .i64 (j : Int))) (varsF t []).length
      ⟨0, nilV, [], by omega, by omega, by simp, .inl ⟨rfl, rfl⟩, g5, Nat.le_refl _, x2, x3, x1, by simp [getT_setD, t6, t7]⟩ ?_
    rintro tm2 S'' N2 ⟨j, Y, out, hj, rfl, hout, hM, hG2, hno2, hmp2, hp0, hp1, u6, u7, u12, u49, u50, u51⟩
    have hol : out.length ≤ 500 := by
      rw [hout]
      have := List.length_filter_le (fun v => !heldF es v) ((varsF t []).take j)
      rw [List.length_take] at this
      omega
    have hoY := hM.okc
    by_cases hjt : j < (varsF t []).length
    case neg =>
      have hje : j = (varsF t []).length := by omega
      rw [hje, List.take_length] at hout
      obtain ⟨S6, e6, hM6, hn6, hg6, hk6⟩ := sort41_ok hM (by omega)
      have y1 : S6.obj S4.no = some [Y, .sc (.int .i64 t.kind), .sc (.string t.name), .sc (.int .i64 t.var), y] := by
        unfold St.obj at hp0 ⊢; rw [hk6 _ (by omega)]; exact hp0
      have y2 : S6.obj (S.no + 1) = some [.sc (.slice none 0 0), .sc (.int .i64 0), .sc (.string ⟨#[]⟩), .sc (.int .i64 0), .sc (.slice none 0 0)] := by
        unfold St.obj at hp1 ⊢; rw [hk6 _ (by omega)]; exact hp1
      simp only [e_nil, e_skip, e_exit, e_ret, e_c_exit, e_blk_nrm, e_blk_exit, e_pop_ret, e_seq, e_block, e_reg_nil, e_cond, condK_true, condK_false, eo_move, eo_assign, eo_pick, eo_alloc, eo_box, eo_build, eo_buildSlice, eo_load, eo_store, eo_bin, eo_un, eo_lookup, eo_mapUpdate, eo_makeMap, eo_fieldAddr, eo_indexAddr, eo_builtin, opK_some, e_guard, guardK_same, guardK_tf, guardK_ft, guardK_passed, eq_self, true_and, and_true, op_bin, b_add, b_lss, List.map_cons, List.map_nil, op_move, op_assign, op_pick, pick_bool, op_un, un_not, Bool.not_false, Bool.not_true, load_e, cut_f, cut_t, List.getElem?_cons_zero, List.getElem?_cons_succ, List.length_cons, List.length_nil, List.drop_zero, List.drop_succ_cons, List.take_succ_cons, List.take_zero, len_vec, len_nil, ret_ret, ret_nrm, retV_some, pack1, pack2, res_nil, res_tmp, getT_setD, setD_none, getT_leaf, initTm_nil, initTm_cons, ev_tmp, ev_int, ev_bool, ev_str, ev_nilslice, int_int, Option.map_some, Option.map_none, cond_true, cond_false, if_true, if_false, reduceCtorEq, Nat.reduceEqDiff, Nat.reduceAdd, Nat.reduceSub, Nat.reduceMul, Nat.reduceBEq, Int.reduceLT, Int.reduceLE, Int.reduceToNat, Int.reduceBEq, Int.reduceBNe, decide_true, decide_false, reduceIte, load3, load24, index25, len25, load32, store32, bs32, app32, index32, len32, load34, store34, call10, call14, call18, call37, call39, call40, call41, b15_22, r15_0, r15_1, r15_2, r15_3, r15_4, r15_5, r15_6, r15_7, r15_8, r15_9, r15_10, r15_11, r15_13, r15_15, r15_16, r15_17, r15_18, r15_19, r15_20, r15_21, r15_23, r15_24, p15, u6, u7, u12, u49, u50, u51, dec_nlt hjt, load_pb, hp0, fld34_0, fld_p, Option.bind_some, Nat.zero_add, Nat.add_zero]
      refine callK_of e6 ?_
      simp only [e_nil, e_skip, e_exit, e_ret, e_c_exit, e_blk_nrm, e_blk_exit, e_pop_ret, e_seq, e_block, e_reg_nil, e_cond, condK_true, condK_false, eo_move, eo_assign, eo_pick, eo_alloc, eo_box, eo_build, eo_buildSlice, eo_load, eo_store, eo_bin, eo_un, eo_lookup, eo_mapUpdate, eo_makeMap, eo_fieldAddr, eo_indexAddr, eo_builtin, opK_some, e_guard, guardK_same, guardK_tf, guardK_ft, guardK_passed, eq_self, true_and, and_true, op_bin, b_add, b_lss, List.map_cons, List.map_nil, op_move, op_assign, op_pick, pick_bool, op_un, un_not, Bool.not_false, Bool.not_true, load_e, cut_f, cut_t, List.getElem?_cons_zero, List.getElem?_cons_succ, List.length_cons, List.length_nil, List.drop_zero, List.drop_succ_cons, List.take_succ_cons, List.take_zero, len_vec, len_nil, ret_ret, ret_nrm, retV_some, pack1, pack2, res_nil, res_tmp, getT_setD, setD_none, getT_leaf, initTm_nil, initTm_cons, ev_tmp, ev_int, ev_bool, ev_str, ev_nilslice, int_int, Option.map_some, Option.map_none, cond_true, cond_false, if_true, if_false, reduceCtorEq, Nat.reduceEqDiff, Nat.reduceAdd, Nat.reduceSub, Nat.reduceMul, Nat.reduceBEq, Int.reduceLT, Int.reduceLE, Int.reduceToNat, Int.reduceBEq, Int.reduceBNe, decide_true, decide_false, reduceIte, load3, load24, index25, len25, load32, store32, bs32, app32, index32, len32, load34, store34, call10, call14, call18, call37, call39, call40, call41, r15_0, r15_1, r15_2, r15_3, r15_4, r15_5, r15_6, r15_7, r15_8, r15_9, r15_10, r15_11, r15_13, r15_15, r15_16, r15_17, r15_18, r15_19, r15_20, r15_21, r15_23, r15_24, p15, u6, u12, load_pb, y1, y2, st34 _ _ _ _ _ _ _ hoY hoy, put_obj, Option.bind_some, Nat.zero_add, Nat.add_zero, Nat.le_refl, List.drop_nil, res34]
      refine ⟨⟨Y, y, rfl, hy, ?_⟩, (hg6 S hG2 (by have := g5.no; omega)).put _ _ (Nat.le_succ _)⟩
      rw [hout] at hM6
      rcases hM6 with h | ⟨l, rfl, h1, h2, h3, h4⟩
      · exact .inl h
      · have := g5.no
        exact .inr ⟨l, rfl, by omega, h2, by rw [put_obj, if_neg (by omega)]; exact h3, h4⟩
    case pos =>
      generalize hv : (varsF t [])[j] = v
      have htake : ((varsF t []).take (j + 1)).filter (fun v => !heldF es v) = out ++ (if heldF es v = false then [v] else []) := by
        rw [List.take_add_one, List.getElem?_eq_getElem hjt, hv, List.filter_append, ← hout]
        congr 1
        cases h : heldF es v <;> simp [h]
      have wj := wrapK hjt (by omega)
      have hlk := look76 hmp2 v
      rw [hb] at hlk
      cases hh : heldF es v with
      | true =>
        rw [hh] at hlk
        simp only [e_nil, e_skip, e_exit, e_ret, e_c_exit, e_blk_nrm, e_blk_exit, e_pop_ret, e_seq, e_block, e_reg_nil, e_cond, condK_true, condK_false, eo_move, eo_assign, eo_pick, eo_alloc, eo_box, eo_build, eo_buildSlice, eo_load, eo_store, eo_bin, eo_un, eo_lookup, eo_mapUpdate, eo_makeMap, eo_fieldAddr, eo_indexAddr, eo_builtin, opK_some, e_guard, guardK_same, guardK_tf, guardK_ft, guardK_passed, eq_self, true_and, and_true, op_bin, b_add, b_lss, List.map_cons, List.map_nil, op_move, op_assign, op_pick, pick_bool, op_un, un_not, Bool.not_false, Bool.not_true, load_e, cut_f, cut_t, List.getElem?_cons_zero, List.getElem?_cons_succ, List.length_cons, List.length_nil, List.drop_zero, List.drop_succ_cons, List.take_succ_cons, List.take_zero, len_vec, len_nil, ret_ret, ret_nrm, retV_some, pack1, pack2, res_nil, res_tmp, getT_setD, setD_none, getT_leaf, initTm_nil, initTm_cons, ev_tmp, ev_int, ev_bool, ev_str, ev_nilslice, int_int, Option.map_some, Option.map_none, cond_true, cond_false, if_true, if_false, reduceCtorEq, Nat.reduceEqDiff, Nat.reduceAdd, Nat.reduceSub, Nat.reduceMul, Nat.reduceBEq, Int.reduceLT, Int.reduceLE, Int.reduceToNat, Int.reduceBEq, Int.reduceBNe, decide_true, decide_false, reduceIte, load3, load24, index25, len25, load32, store32, bs32, app32, index32, len32, load34, store34, call10, call14, call18, call37, call39, call40, call41, b15_22, r15_0, r15_1, r15_2, r15_3, r15_4, r15_5, r15_6, r15_7, r15_8, r15_9, r15_10, r15_11, r15_13, r15_15, r15_16, r15_17, r15_18, r15_19, r15_20, r15_21, r15_23, r15_24, p15, u6, u7, u12, u49, u50, u51, dec_lt hjt, idxI hri hjt, hv, op_lookup, hlk, wj]
        refine ⟨(varsF t []).length - (j + 1), by omega, j + 1, Y, out, by omega, rfl, ?_, hM, hG2, hno2, hmp2, hp0, hp1, by simp [u6, u7, u12, u49, u50]⟩
        rw [htake, hh]; simp
      | false =>
        rw [hh] at hlk
        obtain ⟨S6, hap, hM6, hn6, hg6, hk6⟩ := append_mut hM hno2 (by omega) v
        have y1 : S6.obj S4.no = some [Y, .sc (.int .i64 t.kind), .sc (.string t.name), .sc (.int .i64 t.var), y] := by
          unfold St.obj at hp0 ⊢; rw [hk6 _ (by omega)]; exact hp0
        have y2 : S6.obj (S.no + 1) = some [.sc (.slice none 0 0), .sc (.int .i64 0), .sc (.string ⟨#[]⟩), .sc (.int .i64 0), .sc (.slice none 0 0)] := by
          unfold St.obj at hp1 ⊢; rw [hk6 _ (by omega)]; exact hp1
        have y3 : S6.IsMp S2.no kvs := by
          unfold St.IsMp at hmp2 ⊢; rw [hk6 _ (by omega)]; exact hmp2
        have sto : ∀ (l off : Nat) (a b c d e : Nat) (S : St), storeC 1 (.ptr l off) (.osl a b c d e) S = (S.obj l).bind fun cs => if off < cs.length then some (passed, S.put l (.cells (cs.set off (.osl a b c d e)))) else none := fun l off a b c d e S => store_1 l off _ rfl rfl
        simp only [e_nil, e_skip, e_exit, e_ret, e_c_exit, e_blk_nrm, e_blk_exit, e_pop_ret, e_seq, e_block, e_reg_nil, e_cond, condK_true, condK_false, eo_move, eo_assign, eo_pick, eo_alloc, eo_box, eo_build, eo_buildSlice, eo_load, eo_store, eo_bin, eo_un, eo_lookup, eo_mapUpdate, eo_makeMap, eo_fieldAddr, eo_indexAddr, eo_builtin, opK_some, e_guard, guardK_same, guardK_tf, guardK_ft, guardK_passed, eq_self, true_and, and_true, op_bin, b_add, b_lss, List.map_cons, List.map_nil, op_move, op_assign, op_pick, pick_bool, op_un, un_not, Bool.not_false, Bool.not_true, load_e, cut_f, cut_t, List.getElem?_cons_zero, List.getElem?_cons_succ, List.length_cons, List.length_nil, List.drop_zero, List.drop_succ_cons, List.take_succ_cons, List.take_zero, len_vec, len_nil, ret_ret, ret_nrm, retV_some, pack1, pack2, res_nil, res_tmp, getT_setD, setD_none, getT_leaf, initTm_nil, initTm_cons, ev_tmp, ev_int, ev_bool, ev_str, ev_nilslice, int_int, Option.map_some, Option.map_none, cond_true, cond_false, if_true, if_false, reduceCtorEq, Nat.reduceEqDiff, Nat.reduceAdd, Nat.reduceSub, Nat.reduceMul, Nat.reduceBEq, Int.reduceLT, Int.reduceLE, Int.reduceToNat, Int.reduceBEq, Int.reduceBNe, decide_true, decide_false, reduceIte, load3, load24, index25, len25, load32, store32, bs32, app32, index32, len32, load34, store34, call10, call14, call18, call37, call39, call40, call41, b15_22, r15_0, r15_1, r15_2, r15_3, r15_4, r15_5, r15_6, r15_7, r15_8, r15_9, r15_10, r15_11, r15_13, r15_15, r15_16, r15_17, r15_18, r15_19, r15_20, r15_21, r15_23, r15_24, p15, u6, u7, u12, u49, u50, u51, dec_lt hjt, idxI hri hjt, hv, op_lookup, hlk, load_pb, hp0, fld34_0, fld_p, Option.bind_some, Nat.zero_add, Nat.add_zero, bs32i, app32m, hap, y1, sto, List.set_cons_zero, Nat.reduceLT, wj]
        refine ⟨(varsF t []).length - (j + 1), by omega, j + 1, .osl S''.no 1 0 (out.length + 1) (out.length + 1), out ++ [v], by omega, rfl, ?_, ?_, (hg6 S hG2 (by have := g5.no; omega)).put _ _ g4.no, by rw [put_no, hn6]; omega, put_mp_ne _ _ _ _ y3 (by omega), by simp only [put_obj, if_true], ?_, by simp [u6, u7, u12, u49, u50]⟩
        · rw [htake, hh]; simp
        · rcases hM6 with h | ⟨l, h0, h1, h2, h3, h4⟩
          · cases h.1
          · exact .inr ⟨l, h0, h1, h2, by rw [put_obj, if_neg (by omega)]; exact h3, h4⟩
        · rw [put_obj, if_neg (by omega)]; exact y2
end Go.Proofs.YtaacibffjmbfiaaDoor
