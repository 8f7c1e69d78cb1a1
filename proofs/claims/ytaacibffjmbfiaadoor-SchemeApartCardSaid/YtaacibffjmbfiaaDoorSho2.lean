/-
  Types of the small ML, shown: the letters; show.
-/
import Derived.Test.YtaacibffjmbfiaaDoorSho1
set_option linter.unusedSimpArgs false
set_option linter.unusedVariables false
set_option maxRecDepth 100000
namespace Go.Proofs.YtaacibffjmbfiaaDoor
open Go.Abs
def letF (n : Nat) : ByteArray := bif Nat.blt n 26 then ⟨#[39, (97 + n).toUInt8]⟩ else ⟨#[39, (48 + (n + 1) / 10).toUInt8, (48 + (n + 1) % 10).toUInt8]⟩
theorem letF_size (n : Nat) : (letF n).size ≤ 3 := by
  unfold letF
  cases Nat.blt n 26 <;> simp [ByteArray.size]
theorem lr0 (S : St) : evF E 30 20 43 [.sc (.int .i64 ((0 : Nat) : Int))] S = some (.sc (.string (letF 0)), S) := by kernel_rfl
theorem lr1 (S : St) : evF E 30 20 43 [.sc (.int .i64 ((1 : Nat) : Int))] S = some (.sc (.string (letF 1)), S) := by kernel_rfl
theorem lr2 (S : St) : evF E 30 20 43 [.sc (.int .i64 ((2 : Nat) : Int))] S = some (.sc (.string (letF 2)), S) := by kernel_rfl
theorem lr3 (S : St) : evF E 30 20 43 [.sc (.int .i64 ((3 : Nat) : Int))] S = some (.sc (.string (letF 3)), S) := by kernel_rfl
theorem lr4 (S : St) : evF E 30 20 43 [.sc (.int .i64 ((4 : Nat) : Int))] S = some (.sc (.string (letF 4)), S) := by kernel_rfl
theorem lr5 (S : St) : evF E 30 20 43 [.sc (.int .i64 ((5 : Nat) : Int))] S = some (.sc (.string (letF 5)), S) := by kernel_rfl
theorem lr6 (S : St) : evF E 30 20 43 [.sc (.int .i64 ((6 : Nat) : Int))] S = some (.sc (.string (letF 6)), S) := by kernel_rfl
theorem lr7 (S : St) : evF E 30 20 43 [.sc (.int .i64 ((7 : Nat) : Int))] S = some (.sc (.string (letF 7)), S) := by kernel_rfl
theorem lr8 (S : St) : evF E 30 20 43 [.sc (.int .i64 ((8 : Nat) : Int))] S = some (.sc (.string (letF 8)), S) := by kernel_rfl
theorem lr9 (S : St) : evF E 30 20 43 [.sc (.int .i64 ((9 : Nat) : Int))] S = some (.sc (.string (letF 9)), S) := by kernel_rfl
theorem lr10 (S : St) : evF E 30 20 43 [.sc (.int .i64 ((10 : Nat) : Int))] S = some (.sc (.string (letF 10)), S) := by kernel_rfl
theorem lr11 (S : St) : evF E 30 20 43 [.sc (.int .i64 ((11 : Nat) : Int))] S = some (.sc (.string (letF 11)), S) := by kernel_rfl
theorem lr12 (S : St) : evF E 30 20 43 [.sc (.int .i64 ((12 : Nat) : Int))] S = some (.sc (.string (letF 12)), S) := by kernel_rfl
theorem lr13 (S : St) : evF E 30 20 43 [.sc (.int .i64 ((13 : Nat) : Int))] S = some (.sc (.string (letF 13)), S) := by kernel_rfl
theorem lr14 (S : St) : evF E 30 20 43 [.sc (.int .i64 ((14 : Nat) : Int))] S = some (.sc (.string (letF 14)), S) := by kernel_rfl
theorem lr15 (S : St) : evF E 30 20 43 [.sc (.int .i64 ((15 : Nat) : Int))] S = some (.sc (.string (letF 15)), S) := by kernel_rfl
theorem lr16 (S : St) : evF E 30 20 43 [.sc (.int .i64 ((16 : Nat) : Int))] S = some (.sc (.string (letF 16)), S) := by kernel_rfl
theorem lr17 (S : St) : evF E 30 20 43 [.sc (.int .i64 ((17 : Nat) : Int))] S = some (.sc (.string (letF 17)), S) := by kernel_rfl
theorem lr18 (S : St) : evF E 30 20 43 [.sc (.int .i64 ((18 : Nat) : Int))] S = some (.sc (.string (letF 18)), S) := by kernel_rfl
theorem lr19 (S : St) : evF E 30 20 43 [.sc (.int .i64 ((19 : Nat) : Int))] S = some (.sc (.string (letF 19)), S) := by kernel_rfl
theorem lr20 (S : St) : evF E 30 20 43 [.sc (.int .i64 ((20 : Nat) : Int))] S = some (.sc (.string (letF 20)), S) := by kernel_rfl
theorem lr21 (S : St) : evF E 30 20 43 [.sc (.int .i64 ((21 : Nat) : Int))] S = some (.sc (.string (letF 21)), S) := by kernel_rfl
theorem lr22 (S : St) : evF E 30 20 43 [.sc (.int .i64 ((22 : Nat) : Int))] S = some (.sc (.string (letF 22)), S) := by kernel_rfl
theorem lr23 (S : St) : evF E 30 20 43 [.sc (.int .i64 ((23 : Nat) : Int))] S = some (.sc (.string (letF 23)), S) := by kernel_rfl
theorem lr24 (S : St) : evF E 30 20 43 [.sc (.int .i64 ((24 : Nat) : Int))] S = some (.sc (.string (letF 24)), S) := by kernel_rfl
theorem lr25 (S : St) : evF E 30 20 43 [.sc (.int .i64 ((25 : Nat) : Int))] S = some (.sc (.string (letF 25)), S) := by kernel_rfl
theorem lr26 (S : St) : evF E 30 20 43 [.sc (.int .i64 ((26 : Nat) : Int))] S = some (.sc (.string (letF 26)), S) := by kernel_rfl
theorem lr27 (S : St) : evF E 30 20 43 [.sc (.int .i64 ((27 : Nat) : Int))] S = some (.sc (.string (letF 27)), S) := by kernel_rfl
theorem lr28 (S : St) : evF E 30 20 43 [.sc (.int .i64 ((28 : Nat) : Int))] S = some (.sc (.string (letF 28)), S) := by kernel_rfl
theorem lr29 (S : St) : evF E 30 20 43 [.sc (.int .i64 ((29 : Nat) : Int))] S = some (.sc (.string (letF 29)), S) := by kernel_rfl
theorem lr30 (S : St) : evF E 30 20 43 [.sc (.int .i64 ((30 : Nat) : Int))] S = some (.sc (.string (letF 30)), S) := by kernel_rfl
theorem lr31 (S : St) : evF E 30 20 43 [.sc (.int .i64 ((31 : Nat) : Int))] S = some (.sc (.string (letF 31)), S) := by kernel_rfl
theorem lr32 (S : St) : evF E 30 20 43 [.sc (.int .i64 ((32 : Nat) : Int))] S = some (.sc (.string (letF 32)), S) := by kernel_rfl
theorem lr33 (S : St) : evF E 30 20 43 [.sc (.int .i64 ((33 : Nat) : Int))] S = some (.sc (.string (letF 33)), S) := by kernel_rfl
theorem lr34 (S : St) : evF E 30 20 43 [.sc (.int .i64 ((34 : Nat) : Int))] S = some (.sc (.string (letF 34)), S) := by kernel_rfl
theorem lr35 (S : St) : evF E 30 20 43 [.sc (.int .i64 ((35 : Nat) : Int))] S = some (.sc (.string (letF 35)), S) := by kernel_rfl
theorem lr36 (S : St) : evF E 30 20 43 [.sc (.int .i64 ((36 : Nat) : Int))] S = some (.sc (.string (letF 36)), S) := by kernel_rfl
theorem lr37 (S : St) : evF E 30 20 43 [.sc (.int .i64 ((37 : Nat) : Int))] S = some (.sc (.string (letF 37)), S) := by kernel_rfl
theorem lr38 (S : St) : evF E 30 20 43 [.sc (.int .i64 ((38 : Nat) : Int))] S = some (.sc (.string (letF 38)), S) := by kernel_rfl
theorem lr39 (S : St) : evF E 30 20 43 [.sc (.int .i64 ((39 : Nat) : Int))] S = some (.sc (.string (letF 39)), S) := by kernel_rfl
theorem lr40 (S : St) : evF E 30 20 43 [.sc (.int .i64 ((40 : Nat) : Int))] S = some (.sc (.string (letF 40)), S) := by kernel_rfl
theorem lr41 (S : St) : evF E 30 20 43 [.sc (.int .i64 ((41 : Nat) : Int))] S = some (.sc (.string (letF 41)), S) := by kernel_rfl
theorem lr42 (S : St) : evF E 30 20 43 [.sc (.int .i64 ((42 : Nat) : Int))] S = some (.sc (.string (letF 42)), S) := by kernel_rfl
theorem lr43 (S : St) : evF E 30 20 43 [.sc (.int .i64 ((43 : Nat) : Int))] S = some (.sc (.string (letF 43)), S) := by kernel_rfl
theorem lr44 (S : St) : evF E 30 20 43 [.sc (.int .i64 ((44 : Nat) : Int))] S = some (.sc (.string (letF 44)), S) := by kernel_rfl
theorem lr45 (S : St) : evF E 30 20 43 [.sc (.int .i64 ((45 : Nat) : Int))] S = some (.sc (.string (letF 45)), S) := by kernel_rfl
theorem lr46 (S : St) : evF E 30 20 43 [.sc (.int .i64 ((46 : Nat) : Int))] S = some (.sc (.string (letF 46)), S) := by kernel_rfl
theorem lr47 (S : St) : evF E 30 20 43 [.sc (.int .i64 ((47 : Nat) : Int))] S = some (.sc (.string (letF 47)), S) := by kernel_rfl
theorem lr48 (S : St) : evF E 30 20 43 [.sc (.int .i64 ((48 : Nat) : Int))] S = some (.sc (.string (letF 48)), S) := by kernel_rfl
theorem lr49 (S : St) : evF E 30 20 43 [.sc (.int .i64 ((49 : Nat) : Int))] S = some (.sc (.string (letF 49)), S) := by kernel_rfl
theorem lr50 (S : St) : evF E 30 20 43 [.sc (.int .i64 ((50 : Nat) : Int))] S = some (.sc (.string (letF 50)), S) := by kernel_rfl
theorem lr51 (S : St) : evF E 30 20 43 [.sc (.int .i64 ((51 : Nat) : Int))] S = some (.sc (.string (letF 51)), S) := by kernel_rfl
theorem lr52 (S : St) : evF E 30 20 43 [.sc (.int .i64 ((52 : Nat) : Int))] S = some (.sc (.string (letF 52)), S) := by kernel_rfl
theorem lr53 (S : St) : evF E 30 20 43 [.sc (.int .i64 ((53 : Nat) : Int))] S = some (.sc (.string (letF 53)), S) := by kernel_rfl
theorem lr54 (S : St) : evF E 30 20 43 [.sc (.int .i64 ((54 : Nat) : Int))] S = some (.sc (.string (letF 54)), S) := by kernel_rfl
theorem lr55 (S : St) : evF E 30 20 43 [.sc (.int .i64 ((55 : Nat) : Int))] S = some (.sc (.string (letF 55)), S) := by kernel_rfl
theorem lr56 (S : St) : evF E 30 20 43 [.sc (.int .i64 ((56 : Nat) : Int))] S = some (.sc (.string (letF 56)), S) := by kernel_rfl
theorem lr57 (S : St) : evF E 30 20 43 [.sc (.int .i64 ((57 : Nat) : Int))] S = some (.sc (.string (letF 57)), S) := by kernel_rfl
theorem lr58 (S : St) : evF E 30 20 43 [.sc (.int .i64 ((58 : Nat) : Int))] S = some (.sc (.string (letF 58)), S) := by kernel_rfl
theorem lr59 (S : St) : evF E 30 20 43 [.sc (.int .i64 ((59 : Nat) : Int))] S = some (.sc (.string (letF 59)), S) := by kernel_rfl
theorem lr60 (S : St) : evF E 30 20 43 [.sc (.int .i64 ((60 : Nat) : Int))] S = some (.sc (.string (letF 60)), S) := by kernel_rfl
theorem lr61 (S : St) : evF E 30 20 43 [.sc (.int .i64 ((61 : Nat) : Int))] S = some (.sc (.string (letF 61)), S) := by kernel_rfl
theorem lr62 (S : St) : evF E 30 20 43 [.sc (.int .i64 ((62 : Nat) : Int))] S = some (.sc (.string (letF 62)), S) := by kernel_rfl
theorem lr63 (S : St) : evF E 30 20 43 [.sc (.int .i64 ((63 : Nat) : Int))] S = some (.sc (.string (letF 63)), S) := by kernel_rfl
theorem letter_run : ∀ (n : Nat) (hn : n < 64) (S : St), evF E 30 20 43 [.sc (.int .i64 (n : Int))] S = some (.sc (.string (letF n)), S)
  | 0, _, S => lr0 S
  | 1, _, S => lr1 S
  | 2, _, S => lr2 S
  | 3, _, S => lr3 S
  | 4, _, S => lr4 S
  | 5, _, S => lr5 S
  | 6, _, S => lr6 S
  | 7, _, S => lr7 S
  | 8, _, S => lr8 S
  | 9, _, S => lr9 S
  | 10, _, S => lr10 S
  | 11, _, S => lr11 S
  | 12, _, S => lr12 S
  | 13, _, S => lr13 S
  | 14, _, S => lr14 S
  | 15, _, S => lr15 S
  | 16, _, S => lr16 S
  | 17, _, S => lr17 S
  | 18, _, S => lr18 S
  | 19, _, S => lr19 S
  | 20, _, S => lr20 S
  | 21, _, S => lr21 S
  | 22, _, S => lr22 S
  | 23, _, S => lr23 S
  | 24, _, S => lr24 S
  | 25, _, S => lr25 S
  | 26, _, S => lr26 S
  | 27, _, S => lr27 S
  | 28, _, S => lr28 S
  | 29, _, S => lr29 S
  | 30, _, S => lr30 S
  | 31, _, S => lr31 S
  | 32, _, S => lr32 S
  | 33, _, S => lr33 S
  | 34, _, S => lr34 S
  | 35, _, S => lr35 S
  | 36, _, S => lr36 S
  | 37, _, S => lr37 S
  | 38, _, S => lr38 S
  | 39, _, S => lr39 S
  | 40, _, S => lr40 S
  | 41, _, S => lr41 S
  | 42, _, S => lr42 S
  | 43, _, S => lr43 S
  | 44, _, S => lr44 S
  | 45, _, S => lr45 S
  | 46, _, S => lr46 S
  | 47, _, S => lr47 S
  | 48, _, S => lr48 S
  | 49, _, S => lr49 S
  | 50, _, S => lr50 S
  | 51, _, S => lr51 S
  | 52, _, S => lr52 S
  | 53, _, S => lr53 S
  | 54, _, S => lr54 S
  | 55, _, S => lr55 S
  | 56, _, S => lr56 S
  | 57, _, S => lr57 S
  | 58, _, S => lr58 S
  | 59, _, S => lr59 S
  | 60, _, S => lr60 S
  | 61, _, S => lr61 S
  | 62, _, S => lr62 S
  | 63, _, S => lr63 S
  | n + 64, h, S => absurd h (by omega)
theorem letter_ok (n : Nat) (hn : n < 64) (S : St) : EvA E 43 [.sc (.int .i64 (n : Int))] S (.sc (.string (letF n))) S := ev_run (letter_run n hn S)
theorem look81 {l : Nat} {kvs : List (Int × AV)} {S : St} (h : S.IsMp l kvs) (k : Int) : lookupA E 81 (.mp l) (.sc (.int .i64 k)) false S = some ((findM k kvs).getD (.sc (.string ⟨#[]⟩)), S) :=
  mapV_lookup1 (t := 81) (kt := 3) (et := 9) (by kernel_rfl) (by kernel_rfl) (by kernel_rfl) h k
theorem upd81 {l : Nat} {kvs : List (Int × AV)} {S : St} (h : S.IsMp l kvs) (k : Int) (x : AV) : mapUpdateA E 81 (.mp l) (.sc (.int .i64 k)) x S = some (passed, S.put l (.mp (mapVs (setM k x kvs)))) :=
  mapV_update (t := 81) (kt := 3) (et := 9) (by kernel_rfl) (by kernel_rfl) h k x
set_option maxHeartbeats 16000000 in
theorem show_ok (nm : Int → ByteArray) (hnm : ∀ v, (nm v).size ≤ 60) (m : Nat) (kvs : List (Int × AV)) (hk : ∀ v, (findM v kvs).getD (.sc (.string ⟨#[]⟩)) = .sc (.string (nm v))) : ∀ t : Ty, ∀ (x : AV) (S : St), TyX t x → nmB t = true → szT t ≤ 2 ^ 20 → S.IsMp m kvs → m < S.no → S.Fresh →
    ∃ r S', EvA E 44 [.agg (tc t x), .mp m] S r S' ∧ r = .sc (.string (showF nm t)) ∧ Grow S S' nilV := by
  refine ty_ind fun t ih x S hx hn hz hm hml hS => ?_
  refine ev44 rfl ?_
  have lx : ∀ S, lenV x S = some (.sc (.int .i64 (t.args.length : Nat)), S) := fun S => hx.len S
  have g0 := (Grow.refl hS nilV).born 24 (tc t x)
  have h0 : (S.born 24 (tc t x)).obj S.no = some (tc t x) := by simp [born_obj]
  have n0 : S.no < (S.born 24 (tc t x)).no := Nat.lt_succ_self _
  have hm0 := g0.isMp hm hml
  simp only [tc] at g0 h0 n0 hm0
  simp only [e_nil, e_skip, e_exit, e_ret, e_c_exit, e_blk_nrm, e_blk_exit, e_pop_ret, e_seq, e_block, e_reg_nil, e_cond, condK_true, condK_false, eo_move, eo_assign, eo_pick, eo_box, eo_load, eo_bin, eo_lookup, eo_fieldAddr, eo_indexAddr, eo_builtin, opK_some, e_guard, guardK_same, guardK_tf, guardK_ft, guardK_passed, eq_self, true_and, and_true, op_bin, b_add, b_eql, b_eqstr, List.map_cons, List.map_nil, op_move, op_assign, op_pick, pick_bool, Bool.not_false, Bool.not_true, load_e, cut_f, cut_t, List.getElem?_cons_zero, List.getElem?_cons_succ, List.length_cons, List.length_nil, List.drop_zero, List.drop_succ_cons, List.take_succ_cons, List.take_zero, len_vec, len_nil, ret_ret, ret_nrm, retV_some, pack1, pack2, res_nil, res_tmp, getT_setD, setD_none, getT_leaf, initTm_nil, initTm_cons, ev_tmp, ev_int, ev_bool, ev_str, ev_nilslice, int_int, Option.map_some, Option.map_none, cond_true, cond_false, if_true, if_false, reduceCtorEq, Nat.reduceEqDiff, Nat.reduceAdd, Nat.reduceSub, Nat.reduceMul, Nat.reduceBEq, Int.reduceLT, Int.reduceLE, Int.reduceToNat, Int.reduceBEq, Int.reduceBNe, decide_true, decide_false, reduceIte, load3, load9, load22, index22, len22, load24, call44, r44_0, r44_1, r44_2, r44_3, r44_4, r44_5, r44_6, r44_7, r44_8, r44_9, r44_10, r44_11, r44_12, r44_13, r44_14, r44_15, r44_16, p44, tc, op_box, cells_agg]
  generalize S.born 24 [.sc (.int .i64 t.kind), .sc (.string t.name), .sc (.int .i64 t.var), x] = S0 at g0 h0 n0 hm0
  have hml0 : m < S0.no := by omega
  have hn1 := hn
  rw [nmB_eq] at hn1
  simp only [Bool.and_eq_true, decide_eq_true_eq] at hn1
  have hz1 := szT_eq t
  by_cases b7 : t.kind = 7
  · have c7 : (t.kind == 7) = true := by simp [b7]
    simp only [e_nil, e_skip, e_exit, e_ret, e_c_exit, e_blk_nrm, e_blk_exit, e_pop_ret, e_seq, e_block, e_reg_nil, e_cond, condK_true, condK_false, eo_move, eo_assign, eo_pick, eo_box, eo_load, eo_bin, eo_lookup, eo_fieldAddr, eo_indexAddr, eo_builtin, opK_some, e_guard, guardK_same, guardK_tf, guardK_ft, guardK_passed, eq_self, true_and, and_true, op_bin, b_add, b_eql, b_eqstr, List.map_cons, List.map_nil, op_move, op_assign, op_pick, pick_bool, Bool.not_false, Bool.not_true, load_e, cut_f, cut_t, List.getElem?_cons_zero, List.getElem?_cons_succ, List.length_cons, List.length_nil, List.drop_zero, List.drop_succ_cons, List.take_succ_cons, List.take_zero, len_vec, len_nil, ret_ret, ret_nrm, retV_some, pack1, pack2, res_nil, res_tmp, getT_setD, setD_none, getT_leaf, initTm_nil, initTm_cons, ev_tmp, ev_int, ev_bool, ev_str, ev_nilslice, int_int, Option.map_some, Option.map_none, cond_true, cond_false, if_true, if_false, reduceCtorEq, Nat.reduceEqDiff, Nat.reduceAdd, Nat.reduceSub, Nat.reduceMul, Nat.reduceBEq, Int.reduceLT, Int.reduceLE, Int.reduceToNat, Int.reduceBEq, Int.reduceBNe, decide_true, decide_false, reduceIte, load3, load9, load22, index22, len22, load24, call44, r44_0, r44_1, r44_2, r44_3, r44_4, r44_5, r44_6, r44_7, r44_8, r44_9, r44_10, r44_11, r44_12, r44_13, r44_14, r44_15, r44_16, p44, load_pb, h0, fld24_0, fld24_2, fld_p, Option.bind_some, Nat.zero_add, Nat.add_zero, c7, op_lookup, look81 hm0, hk]
    exact ⟨by rw [showF_eq, if_pos b7], g0⟩
  have c7 : (t.kind == 7) = false := by simp [b7]
  have size0 : ∀ a ∈ t.args, (showF nm a).size ≤ 70 * szT a := fun a ha => show_size nm hnm a (nmL_mem hn1.2 ha)
  by_cases b5 : t.kind = 5 ∧ t.args.length = 2
  · have c5 : (t.kind == 5) = true := by simp [b5.1]
    have c52 : (((t.args.length : Nat) : Int) == 2) = true := by simp [b5.2]
    have l0 : 0 < t.args.length := by omega
    have l1 : 1 < t.args.length := by omega
    obtain ⟨xa, hxa, hia⟩ := hx.at l0
    obtain ⟨xb, hxb, hib⟩ := hx.at l1
    have hia' : ∀ S, idxV 4 x (some (0 : Int)) S = _ := fun S => hia S
    have hib' : ∀ S, idxV 4 x (some (1 : Int)) S = _ := fun S => hib S
    have ma := List.getElem_mem (l := t.args) (n := 0) l0
    have mb := List.getElem_mem (l := t.args) (n := 1) l1
    have za := sz_arg ma
    have zb := sz_arg mb
    have sa := size0 _ ma
    have sb := size0 _ mb
    have gr := Grow.raise g0.fresh 17 nilV
    have hmr := gr.isMp hm0 hml0
    obtain ⟨r1, S1, e1, rfl, k1⟩ := ih _ ma xa (S0.raise 17) hxa (nmL_mem hn1.2 ma) (by omega) hmr (Nat.lt_of_lt_of_le hml0 gr.no) gr.fresh
    have g1 := gr.two k1
    have o1 := g1.objs h0 n0
    obtain ⟨r2, S2, e2, rfl, k2⟩ := ih _ mb xb S1 hxb (nmL_mem hn1.2 mb) (by omega) (g1.isMp hm0 hml0) (Nat.lt_of_lt_of_le hml0 g1.no) k1.fresh
    have a1 : (⟨#[40]⟩ : ByteArray).size + (showF nm t.args[0]).size ≤ 2 ^ 62 := by
      have : (⟨#[40]⟩ : ByteArray).size = 1 := rfl
      omega
    have a2 : ((⟨#[40]⟩ : ByteArray) ++ showF nm t.args[0]).size + (⟨#[32, 45, 62, 32]⟩ : ByteArray).size ≤ 2 ^ 62 := by
      have e1 : (⟨#[40]⟩ : ByteArray).size = 1 := rfl
      have e2 : (⟨#[32, 45, 62, 32]⟩ : ByteArray).size = 4 := rfl
      rw [ByteArray.size_append]
      omega
    have a3 : (((⟨#[40]⟩ : ByteArray) ++ showF nm t.args[0]) ++ (⟨#[32, 45, 62, 32]⟩ : ByteArray)).size + (showF nm t.args[1]).size ≤ 2 ^ 62 := by
      have e1 : (⟨#[40]⟩ : ByteArray).size = 1 := rfl
      have e2 : (⟨#[32, 45, 62, 32]⟩ : ByteArray).size = 4 := rfl
      rw [ByteArray.size_append, ByteArray.size_append]
      omega
    have a4 : ((((⟨#[40]⟩ : ByteArray) ++ showF nm t.args[0]) ++ (⟨#[32, 45, 62, 32]⟩ : ByteArray)) ++ showF nm t.args[1]).size + (⟨#[41]⟩ : ByteArray).size ≤ 2 ^ 62 := by
      have e1 : (⟨#[40]⟩ : ByteArray).size = 1 := rfl
      have e2 : (⟨#[32, 45, 62, 32]⟩ : ByteArray).size = 4 := rfl
      have e3 : (⟨#[41]⟩ : ByteArray).size = 1 := rfl
      rw [ByteArray.size_append, ByteArray.size_append, ByteArray.size_append]
      omega
    simp only [tc] at e1 e2
    simp only [e_nil, e_skip, e_exit, e_ret, e_c_exit, e_blk_nrm, e_blk_exit, e_pop_ret, e_seq, e_block, e_reg_nil, e_cond, condK_true, condK_false, eo_move, eo_assign, eo_pick, eo_box, eo_load, eo_bin, eo_lookup, eo_fieldAddr, eo_indexAddr, eo_builtin, opK_some, e_guard, guardK_same, guardK_tf, guardK_ft, guardK_passed, eq_self, true_and, and_true, op_bin, b_add, b_eql, b_eqstr, List.map_cons, List.map_nil, op_move, op_assign, op_pick, pick_bool, Bool.not_false, Bool.not_true, load_e, cut_f, cut_t, List.getElem?_cons_zero, List.getElem?_cons_succ, List.length_cons, List.length_nil, List.drop_zero, List.drop_succ_cons, List.take_succ_cons, List.take_zero, len_vec, len_nil, ret_ret, ret_nrm, retV_some, pack1, pack2, res_nil, res_tmp, getT_setD, setD_none, getT_leaf, initTm_nil, initTm_cons, ev_tmp, ev_int, ev_bool, ev_str, ev_nilslice, int_int, Option.map_some, Option.map_none, cond_true, cond_false, if_true, if_false, reduceCtorEq, Nat.reduceEqDiff, Nat.reduceAdd, Nat.reduceSub, Nat.reduceMul, Nat.reduceBEq, Int.reduceLT, Int.reduceLE, Int.reduceToNat, Int.reduceBEq, Int.reduceBNe, decide_true, decide_false, reduceIte, load3, load9, load22, index22, len22, load24, call44, r44_0, r44_1, r44_2, r44_3, r44_4, r44_5, r44_6, r44_7, r44_8, r44_9, r44_10, r44_11, r44_12, r44_13, r44_14, r44_15, r44_16, p44, load_pb, h0, fld24_0, fld24_3, fld_p, Option.bind_some, Nat.zero_add, Nat.add_zero, c7, c5, c52, lx]
    refine e_drawC noX draw44_0 ?_
    simp only [e_nil, e_skip, e_exit, e_ret, e_c_exit, e_blk_nrm, e_blk_exit, e_pop_ret, e_seq, e_block, e_reg_nil, e_cond, condK_true, condK_false, eo_move, eo_assign, eo_pick, eo_box, eo_load, eo_bin, eo_lookup, eo_fieldAddr, eo_indexAddr, eo_builtin, opK_some, e_guard, guardK_same, guardK_tf, guardK_ft, guardK_passed, eq_self, true_and, and_true, op_bin, b_add, b_eql, b_eqstr, List.map_cons, List.map_nil, op_move, op_assign, op_pick, pick_bool, Bool.not_false, Bool.not_true, load_e, cut_f, cut_t, List.getElem?_cons_zero, List.getElem?_cons_succ, List.length_cons, List.length_nil, List.drop_zero, List.drop_succ_cons, List.take_succ_cons, List.take_zero, len_vec, len_nil, ret_ret, ret_nrm, retV_some, pack1, pack2, res_nil, res_tmp, getT_setD, setD_none, getT_leaf, initTm_nil, initTm_cons, ev_tmp, ev_int, ev_bool, ev_str, ev_nilslice, int_int, Option.map_some, Option.map_none, cond_true, cond_false, if_true, if_false, reduceCtorEq, Nat.reduceEqDiff, Nat.reduceAdd, Nat.reduceSub, Nat.reduceMul, Nat.reduceBEq, Int.reduceLT, Int.reduceLE, Int.reduceToNat, Int.reduceBEq, Int.reduceBNe, decide_true, decide_false, reduceIte, load3, load9, load22, index22, len22, load24, call44, r44_0, r44_1, r44_2, r44_3, r44_4, r44_5, r44_6, r44_7, r44_8, r44_9, r44_10, r44_11, r44_12, r44_13, r44_14, r44_15, r44_16, p44, load_pb, gr.objs h0 n0, fld24_3, fld_p, Option.bind_some, Nat.zero_add, Nat.add_zero, hia', tc, Nat.le_refl]
    refine callK_of e1 ?_
    simp only [e_nil, e_skip, e_exit, e_ret, e_c_exit, e_blk_nrm, e_blk_exit, e_pop_ret, e_seq, e_block, e_reg_nil, e_cond, condK_true, condK_false, eo_move, eo_assign, eo_pick, eo_box, eo_load, eo_bin, eo_lookup, eo_fieldAddr, eo_indexAddr, eo_builtin, opK_some, e_guard, guardK_same, guardK_tf, guardK_ft, guardK_passed, eq_self, true_and, and_true, op_bin, b_add, b_eql, b_eqstr, List.map_cons, List.map_nil, op_move, op_assign, op_pick, pick_bool, Bool.not_false, Bool.not_true, load_e, cut_f, cut_t, List.getElem?_cons_zero, List.getElem?_cons_succ, List.length_cons, List.length_nil, List.drop_zero, List.drop_succ_cons, List.take_succ_cons, List.take_zero, len_vec, len_nil, ret_ret, ret_nrm, retV_some, pack1, pack2, res_nil, res_tmp, getT_setD, setD_none, getT_leaf, initTm_nil, initTm_cons, ev_tmp, ev_int, ev_bool, ev_str, ev_nilslice, int_int, Option.map_some, Option.map_none, cond_true, cond_false, if_true, if_false, reduceCtorEq, Nat.reduceEqDiff, Nat.reduceAdd, Nat.reduceSub, Nat.reduceMul, Nat.reduceBEq, Int.reduceLT, Int.reduceLE, Int.reduceToNat, Int.reduceBEq, Int.reduceBNe, decide_true, decide_false, reduceIte, load3, load9, load22, index22, len22, load24, call44, r44_0, r44_1, r44_2, r44_3, r44_4, r44_5, r44_6, r44_7, r44_8, r44_9, r44_10, r44_11, r44_12, r44_13, r44_14, r44_15, r44_16, p44, load_pb, o1, fld24_3, fld_p, Option.bind_some, Nat.zero_add, Nat.add_zero, hib', tc, Nat.le_refl, b_addstr _ _ _ _ _ a1, b_addstr _ _ _ _ _ a2, safe_cons, safe_nil, safe_eptr, safe_grow n0 g1, Bool.and_self]
    refine callK_of e2 ?_
    simp only [e_nil, e_skip, e_exit, e_ret, e_c_exit, e_blk_nrm, e_blk_exit, e_pop_ret, e_seq, e_block, e_reg_nil, e_cond, condK_true, condK_false, eo_move, eo_assign, eo_pick, eo_box, eo_load, eo_bin, eo_lookup, eo_fieldAddr, eo_indexAddr, eo_builtin, opK_some, e_guard, guardK_same, guardK_tf, guardK_ft, guardK_passed, eq_self, true_and, and_true, op_bin, b_add, b_eql, b_eqstr, List.map_cons, List.map_nil, op_move, op_assign, op_pick, pick_bool, Bool.not_false, Bool.not_true, load_e, cut_f, cut_t, List.getElem?_cons_zero, List.getElem?_cons_succ, List.length_cons, List.length_nil, List.drop_zero, List.drop_succ_cons, List.take_succ_cons, List.take_zero, len_vec, len_nil, ret_ret, ret_nrm, retV_some, pack1, pack2, res_nil, res_tmp, getT_setD, setD_none, getT_leaf, initTm_nil, initTm_cons, ev_tmp, ev_int, ev_bool, ev_str, ev_nilslice, int_int, Option.map_some, Option.map_none, cond_true, cond_false, if_true, if_false, reduceCtorEq, Nat.reduceEqDiff, Nat.reduceAdd, Nat.reduceSub, Nat.reduceMul, Nat.reduceBEq, Int.reduceLT, Int.reduceLE, Int.reduceToNat, Int.reduceBEq, Int.reduceBNe, decide_true, decide_false, reduceIte, load3, load9, load22, index22, len22, load24, call44, r44_0, r44_1, r44_2, r44_3, r44_4, r44_5, r44_6, r44_7, r44_8, r44_9, r44_10, r44_11, r44_12, r44_13, r44_14, r44_15, r44_16, p44, b_addstr _ _ _ _ _ a3, b_addstr _ _ _ _ _ a4]
    exact ⟨by rw [showF_eq nm t, if_neg b7, if_pos b5, show1_at nm l0, show2_at nm l1], g0.two (g1.two k2)⟩
  by_cases b6 : t.kind = 6 ∧ t.args.length = 1
  · have c5 : (t.kind == 5) = false := by simp [b6.1]
    have c6 : (t.kind == 6) = true := by simp [b6.1]
    have c62 : (((t.args.length : Nat) : Int) == 1) = true := by simp [b6.2]
    have l0 : 0 < t.args.length := by omega
    obtain ⟨xa, hxa, hia⟩ := hx.at l0
    have hia' : ∀ S, idxV 4 x (some (0 : Int)) S = _ := fun S => hia S
    have ma := List.getElem_mem (l := t.args) (n := 0) l0
    have za := sz_arg ma
    have sa := size0 _ ma
    obtain ⟨r1, S1, e1, rfl, k1⟩ := ih _ ma xa S0 hxa (nmL_mem hn1.2 ma) (by omega) hm0 hml0 g0.fresh
    have a1 : (⟨#[40]⟩ : ByteArray).size + (showF nm t.args[0]).size ≤ 2 ^ 62 := by
      have : (⟨#[40]⟩ : ByteArray).size = 1 := rfl
      omega
    have a2 : ((⟨#[40]⟩ : ByteArray) ++ showF nm t.args[0]).size + (⟨#[32, 114, 101, 102, 41]⟩ : ByteArray).size ≤ 2 ^ 62 := by
      have e1 : (⟨#[40]⟩ : ByteArray).size = 1 := rfl
      have e2 : (⟨#[32, 114, 101, 102, 41]⟩ : ByteArray).size = 5 := rfl
      rw [ByteArray.size_append]
      omega
    simp only [tc] at e1
    simp only [e_nil, e_skip, e_exit, e_ret, e_c_exit, e_blk_nrm, e_blk_exit, e_pop_ret, e_seq, e_block, e_reg_nil, e_cond, condK_true, condK_false, eo_move, eo_assign, eo_pick, eo_box, eo_load, eo_bin, eo_lookup, eo_fieldAddr, eo_indexAddr, eo_builtin, opK_some, e_guard, guardK_same, guardK_tf, guardK_ft, guardK_passed, eq_self, true_and, and_true, op_bin, b_add, b_eql, b_eqstr, List.map_cons, List.map_nil, op_move, op_assign, op_pick, pick_bool, Bool.not_false, Bool.not_true, load_e, cut_f, cut_t, List.getElem?_cons_zero, List.getElem?_cons_succ, List.length_cons, List.length_nil, List.drop_zero, List.drop_succ_cons, List.take_succ_cons, List.take_zero, len_vec, len_nil, ret_ret, ret_nrm, retV_some, pack1, pack2, res_nil, res_tmp, getT_setD, setD_none, getT_leaf, initTm_nil, initTm_cons, ev_tmp, ev_int, ev_bool, ev_str, ev_nilslice, int_int, Option.map_some, Option.map_none, cond_true, cond_false, if_true, if_false, reduceCtorEq, Nat.reduceEqDiff, Nat.reduceAdd, Nat.reduceSub, Nat.reduceMul, Nat.reduceBEq, Int.reduceLT, Int.reduceLE, Int.reduceToNat, Int.reduceBEq, Int.reduceBNe, decide_true, decide_false, reduceIte, load3, load9, load22, index22, len22, load24, call44, r44_0, r44_1, r44_2, r44_3, r44_4, r44_5, r44_6, r44_7, r44_8, r44_9, r44_10, r44_11, r44_12, r44_13, r44_14, r44_15, r44_16, p44, load_pb, h0, fld24_0, fld24_3, fld_p, Option.bind_some, Nat.zero_add, Nat.add_zero, c7, c5, c6, c62, lx, hia', tc, Nat.le_refl]
    refine callK_of e1 ?_
    simp only [e_nil, e_skip, e_exit, e_ret, e_c_exit, e_blk_nrm, e_blk_exit, e_pop_ret, e_seq, e_block, e_reg_nil, e_cond, condK_true, condK_false, eo_move, eo_assign, eo_pick, eo_box, eo_load, eo_bin, eo_lookup, eo_fieldAddr, eo_indexAddr, eo_builtin, opK_some, e_guard, guardK_same, guardK_tf, guardK_ft, guardK_passed, eq_self, true_and, and_true, op_bin, b_add, b_eql, b_eqstr, List.map_cons, List.map_nil, op_move, op_assign, op_pick, pick_bool, Bool.not_false, Bool.not_true, load_e, cut_f, cut_t, List.getElem?_cons_zero, List.getElem?_cons_succ, List.length_cons, List.length_nil, List.drop_zero, List.drop_succ_cons, List.take_succ_cons, List.take_zero, len_vec, len_nil, ret_ret, ret_nrm, retV_some, pack1, pack2, res_nil, res_tmp, getT_setD, setD_none, getT_leaf, initTm_nil, initTm_cons, ev_tmp, ev_int, ev_bool, ev_str, ev_nilslice, int_int, Option.map_some, Option.map_none, cond_true, cond_false, if_true, if_false, reduceCtorEq, Nat.reduceEqDiff, Nat.reduceAdd, Nat.reduceSub, Nat.reduceMul, Nat.reduceBEq, Int.reduceLT, Int.reduceLE, Int.reduceToNat, Int.reduceBEq, Int.reduceBNe, decide_true, decide_false, reduceIte, load3, load9, load22, index22, len22, load24, call44, r44_0, r44_1, r44_2, r44_3, r44_4, r44_5, r44_6, r44_7, r44_8, r44_9, r44_10, r44_11, r44_12, r44_13, r44_14, r44_15, r44_16, p44, b_addstr _ _ _ _ _ a1, b_addstr _ _ _ _ _ a2]
    exact ⟨by rw [showF_eq nm t, if_neg b7, if_neg b5, if_pos b6, show1_at nm l0], g0.two k1⟩
  have rest : showF nm t = if t.kind = 1 then ⟨#[105, 110, 116]⟩ else if t.kind = 2 then ⟨#[98, 111, 111, 108]⟩ else if t.kind = 3 then ⟨#[117, 110, 105, 116]⟩ else if t.kind = 4 then t.name else ⟨#[]⟩ := by
    rw [showF_eq, if_neg b7, if_neg b5, if_neg b6]
  have tail : (t.kind == 5 && ((t.args.length : Nat) : Int) == 2) = false ∧ (t.kind == 6 && ((t.args.length : Nat) : Int) == 1) = false := by
    refine ⟨?_, ?_⟩
    · rw [Bool.and_eq_false_iff]
      by_cases h : t.kind = 5
      · exact .inr (beq_false_of_ne (fun e => b5 ⟨h, by omega⟩))
      · exact .inl (beq_false_of_ne h)
    · rw [Bool.and_eq_false_iff]
      by_cases h : t.kind = 6
      · exact .inr (beq_false_of_ne (fun e => b6 ⟨h, by omega⟩))
      · exact .inl (beq_false_of_ne h)
  by_cases k1 : t.kind = 1
  · simp only [e_nil, e_skip, e_exit, e_ret, e_c_exit, e_blk_nrm, e_blk_exit, e_pop_ret, e_seq, e_block, e_reg_nil, e_cond, condK_true, condK_false, eo_move, eo_assign, eo_pick, eo_box, eo_load, eo_bin, eo_lookup, eo_fieldAddr, eo_indexAddr, eo_builtin, opK_some, e_guard, guardK_same, guardK_tf, guardK_ft, guardK_passed, eq_self, true_and, and_true, op_bin, b_add, b_eql, b_eqstr, List.map_cons, List.map_nil, op_move, op_assign, op_pick, pick_bool, Bool.not_false, Bool.not_true, load_e, cut_f, cut_t, List.getElem?_cons_zero, List.getElem?_cons_succ, List.length_cons, List.length_nil, List.drop_zero, List.drop_succ_cons, List.take_succ_cons, List.take_zero, len_vec, len_nil, ret_ret, ret_nrm, retV_some, pack1, pack2, res_nil, res_tmp, getT_setD, setD_none, getT_leaf, initTm_nil, initTm_cons, ev_tmp, ev_int, ev_bool, ev_str, ev_nilslice, int_int, Option.map_some, Option.map_none, cond_true, cond_false, if_true, if_false, reduceCtorEq, Nat.reduceEqDiff, Nat.reduceAdd, Nat.reduceSub, Nat.reduceMul, Nat.reduceBEq, Int.reduceLT, Int.reduceLE, Int.reduceToNat, Int.reduceBEq, Int.reduceBNe, decide_true, decide_false, reduceIte, load3, load9, load22, index22, len22, load24, call44, r44_0, r44_1, r44_2, r44_3, r44_4, r44_5, r44_6, r44_7, r44_8, r44_9, r44_10, r44_11, r44_12, r44_13, r44_14, r44_15, r44_16, p44, load_pb, h0, fld24_0, fld24_1, fld24_3, fld_p, Option.bind_some, Nat.zero_add, Nat.add_zero, c7, k1, lx]
    exact ⟨by rw [rest, if_pos k1], g0⟩
  by_cases k2 : t.kind = 2
  · simp only [e_nil, e_skip, e_exit, e_ret, e_c_exit, e_blk_nrm, e_blk_exit, e_pop_ret, e_seq, e_block, e_reg_nil, e_cond, condK_true, condK_false, eo_move, eo_assign, eo_pick, eo_box, eo_load, eo_bin, eo_lookup, eo_fieldAddr, eo_indexAddr, eo_builtin, opK_some, e_guard, guardK_same, guardK_tf, guardK_ft, guardK_passed, eq_self, true_and, and_true, op_bin, b_add, b_eql, b_eqstr, List.map_cons, List.map_nil, op_move, op_assign, op_pick, pick_bool, Bool.not_false, Bool.not_true, load_e, cut_f, cut_t, List.getElem?_cons_zero, List.getElem?_cons_succ, List.length_cons, List.length_nil, List.drop_zero, List.drop_succ_cons, List.take_succ_cons, List.take_zero, len_vec, len_nil, ret_ret, ret_nrm, retV_some, pack1, pack2, res_nil, res_tmp, getT_setD, setD_none, getT_leaf, initTm_nil, initTm_cons, ev_tmp, ev_int, ev_bool, ev_str, ev_nilslice, int_int, Option.map_some, Option.map_none, cond_true, cond_false, if_true, if_false, reduceCtorEq, Nat.reduceEqDiff, Nat.reduceAdd, Nat.reduceSub, Nat.reduceMul, Nat.reduceBEq, Int.reduceLT, Int.reduceLE, Int.reduceToNat, Int.reduceBEq, Int.reduceBNe, decide_true, decide_false, reduceIte, load3, load9, load22, index22, len22, load24, call44, r44_0, r44_1, r44_2, r44_3, r44_4, r44_5, r44_6, r44_7, r44_8, r44_9, r44_10, r44_11, r44_12, r44_13, r44_14, r44_15, r44_16, p44, load_pb, h0, fld24_0, fld24_1, fld24_3, fld_p, Option.bind_some, Nat.zero_add, Nat.add_zero, c7, k2, lx]
    exact ⟨by rw [rest, if_neg k1, if_pos k2], g0⟩
  by_cases k3 : t.kind = 3
  · simp only [e_nil, e_skip, e_exit, e_ret, e_c_exit, e_blk_nrm, e_blk_exit, e_pop_ret, e_seq, e_block, e_reg_nil, e_cond, condK_true, condK_false, eo_move, eo_assign, eo_pick, eo_box, eo_load, eo_bin, eo_lookup, eo_fieldAddr, eo_indexAddr, eo_builtin, opK_some, e_guard, guardK_same, guardK_tf, guardK_ft, guardK_passed, eq_self, true_and, and_true, op_bin, b_add, b_eql, b_eqstr, List.map_cons, List.map_nil, op_move, op_assign, op_pick, pick_bool, Bool.not_false, Bool.not_true, load_e, cut_f, cut_t, List.getElem?_cons_zero, List.getElem?_cons_succ, List.length_cons, List.length_nil, List.drop_zero, List.drop_succ_cons, List.take_succ_cons, List.take_zero, len_vec, len_nil, ret_ret, ret_nrm, retV_some, pack1, pack2, res_nil, res_tmp, getT_setD, setD_none, getT_leaf, initTm_nil, initTm_cons, ev_tmp, ev_int, ev_bool, ev_str, ev_nilslice, int_int, Option.map_some, Option.map_none, cond_true, cond_false, if_true, if_false, reduceCtorEq, Nat.reduceEqDiff, Nat.reduceAdd, Nat.reduceSub, Nat.reduceMul, Nat.reduceBEq, Int.reduceLT, Int.reduceLE, Int.reduceToNat, Int.reduceBEq, Int.reduceBNe, decide_true, decide_false, reduceIte, load3, load9, load22, index22, len22, load24, call44, r44_0, r44_1, r44_2, r44_3, r44_4, r44_5, r44_6, r44_7, r44_8, r44_9, r44_10, r44_11, r44_12, r44_13, r44_14, r44_15, r44_16, p44, load_pb, h0, fld24_0, fld24_1, fld24_3, fld_p, Option.bind_some, Nat.zero_add, Nat.add_zero, c7, k3, lx]
    exact ⟨by rw [rest, if_neg k1, if_neg k2, if_pos k3], g0⟩
  by_cases k4 : t.kind = 4
  · simp only [e_nil, e_skip, e_exit, e_ret, e_c_exit, e_blk_nrm, e_blk_exit, e_pop_ret, e_seq, e_block, e_reg_nil, e_cond, condK_true, condK_false, eo_move, eo_assign, eo_pick, eo_box, eo_load, eo_bin, eo_lookup, eo_fieldAddr, eo_indexAddr, eo_builtin, opK_some, e_guard, guardK_same, guardK_tf, guardK_ft, guardK_passed, eq_self, true_and, and_true, op_bin, b_add, b_eql, b_eqstr, List.map_cons, List.map_nil, op_move, op_assign, op_pick, pick_bool, Bool.not_false, Bool.not_true, load_e, cut_f, cut_t, List.getElem?_cons_zero, List.getElem?_cons_succ, List.length_cons, List.length_nil, List.drop_zero, List.drop_succ_cons, List.take_succ_cons, List.take_zero, len_vec, len_nil, ret_ret, ret_nrm, retV_some, pack1, pack2, res_nil, res_tmp, getT_setD, setD_none, getT_leaf, initTm_nil, initTm_cons, ev_tmp, ev_int, ev_bool, ev_str, ev_nilslice, int_int, Option.map_some, Option.map_none, cond_true, cond_false, if_true, if_false, reduceCtorEq, Nat.reduceEqDiff, Nat.reduceAdd, Nat.reduceSub, Nat.reduceMul, Nat.reduceBEq, Int.reduceLT, Int.reduceLE, Int.reduceToNat, Int.reduceBEq, Int.reduceBNe, decide_true, decide_false, reduceIte, load3, load9, load22, index22, len22, load24, call44, r44_0, r44_1, r44_2, r44_3, r44_4, r44_5, r44_6, r44_7, r44_8, r44_9, r44_10, r44_11, r44_12, r44_13, r44_14, r44_15, r44_16, p44, load_pb, h0, fld24_0, fld24_1, fld24_3, fld_p, Option.bind_some, Nat.zero_add, Nat.add_zero, c7, k4, lx]
    exact ⟨by rw [rest, if_neg k1, if_neg k2, if_neg k3, if_pos k4], g0⟩
  have d1 : (t.kind == 1) = false := beq_false_of_ne k1
  have d2 : (t.kind == 2) = false := beq_false_of_ne k2
  have d3 : (t.kind == 3) = false := beq_false_of_ne k3
  have d4 : (t.kind == 4) = false := beq_false_of_ne k4
  have hr : showF nm t = ⟨#[]⟩ := by rw [rest, if_neg k1, if_neg k2, if_neg k3, if_neg k4]
  by_cases k5 : t.kind = 5
  · have e2 : (((t.args.length : Nat) : Int) == 2) = false := beq_false_of_ne (fun e => b5 ⟨k5, by omega⟩)
    have e5 : (t.kind == 5) = true := by simp [k5]
    have e6 : (t.kind == 6) = false := by simp [k5]
    simp only [e_nil, e_skip, e_exit, e_ret, e_c_exit, e_blk_nrm, e_blk_exit, e_pop_ret, e_seq, e_block, e_reg_nil, e_cond, condK_true, condK_false, eo_move, eo_assign, eo_pick, eo_box, eo_load, eo_bin, eo_lookup, eo_fieldAddr, eo_indexAddr, eo_builtin, opK_some, e_guard, guardK_same, guardK_tf, guardK_ft, guardK_passed, eq_self, true_and, and_true, op_bin, b_add, b_eql, b_eqstr, List.map_cons, List.map_nil, op_move, op_assign, op_pick, pick_bool, Bool.not_false, Bool.not_true, load_e, cut_f, cut_t, List.getElem?_cons_zero, List.getElem?_cons_succ, List.length_cons, List.length_nil, List.drop_zero, List.drop_succ_cons, List.take_succ_cons, List.take_zero, len_vec, len_nil, ret_ret, ret_nrm, retV_some, pack1, pack2, res_nil, res_tmp, getT_setD, setD_none, getT_leaf, initTm_nil, initTm_cons, ev_tmp, ev_int, ev_bool, ev_str, ev_nilslice, int_int, Option.map_some, Option.map_none, cond_true, cond_false, if_true, if_false, reduceCtorEq, Nat.reduceEqDiff, Nat.reduceAdd, Nat.reduceSub, Nat.reduceMul, Nat.reduceBEq, Int.reduceLT, Int.reduceLE, Int.reduceToNat, Int.reduceBEq, Int.reduceBNe, decide_true, decide_false, reduceIte, load3, load9, load22, index22, len22, load24, call44, r44_0, r44_1, r44_2, r44_3, r44_4, r44_5, r44_6, r44_7, r44_8, r44_9, r44_10, r44_11, r44_12, r44_13, r44_14, r44_15, r44_16, p44, load_pb, h0, fld24_0, fld24_1, fld24_3, fld_p, Option.bind_some, Nat.zero_add, Nat.add_zero, c7, e5, e6, e2, d1, d2, d3, d4, lx]
    exact ⟨by rw [hr], g0⟩
  have e5 : (t.kind == 5) = false := beq_false_of_ne k5
  by_cases k6 : t.kind = 6
  · have e2 : (((t.args.length : Nat) : Int) == 1) = false := beq_false_of_ne (fun e => b6 ⟨k6, by omega⟩)
    have e6 : (t.kind == 6) = true := by simp [k6]
    simp only [e_nil, e_skip, e_exit, e_ret, e_c_exit, e_blk_nrm, e_blk_exit, e_pop_ret, e_seq, e_block, e_reg_nil, e_cond, condK_true, condK_false, eo_move, eo_assign, eo_pick, eo_box, eo_load, eo_bin, eo_lookup, eo_fieldAddr, eo_indexAddr, eo_builtin, opK_some, e_guard, guardK_same, guardK_tf, guardK_ft, guardK_passed, eq_self, true_and, and_true, op_bin, b_add, b_eql, b_eqstr, List.map_cons, List.map_nil, op_move, op_assign, op_pick, pick_bool, Bool.not_false, Bool.not_true, load_e, cut_f, cut_t, List.getElem?_cons_zero, List.getElem?_cons_succ, List.length_cons, List.length_nil, List.drop_zero, List.drop_succ_cons, List.take_succ_cons, List.take_zero, len_vec, len_nil, ret_ret, ret_nrm, retV_some, pack1, pack2, res_nil, res_tmp, getT_setD, setD_none, getT_leaf, initTm_nil, initTm_cons, ev_tmp, ev_int, ev_bool, ev_str, ev_nilslice, int_int, Option.map_some, Option.map_none, cond_true, cond_false, if_true, if_false, reduceCtorEq, Nat.reduceEqDiff, Nat.reduceAdd, Nat.reduceSub, Nat.reduceMul, Nat.reduceBEq, Int.reduceLT, Int.reduceLE, Int.reduceToNat, Int.reduceBEq, Int.reduceBNe, decide_true, decide_false, reduceIte, load3, load9, load22, index22, len22, load24, call44, r44_0, r44_1, r44_2, r44_3, r44_4, r44_5, r44_6, r44_7, r44_8, r44_9, r44_10, r44_11, r44_12, r44_13, r44_14, r44_15, r44_16, p44, load_pb, h0, fld24_0, fld24_1, fld24_3, fld_p, Option.bind_some, Nat.zero_add, Nat.add_zero, c7, e5, e6, e2, d1, d2, d3, d4, lx]
    exact ⟨by rw [hr], g0⟩
  have e6 : (t.kind == 6) = false := beq_false_of_ne k6
  simp only [e_nil, e_skip, e_exit, e_ret, e_c_exit, e_blk_nrm, e_blk_exit, e_pop_ret, e_seq, e_block, e_reg_nil, e_cond, condK_true, condK_false, eo_move, eo_assign, eo_pick, eo_box, eo_load, eo_bin, eo_lookup, eo_fieldAddr, eo_indexAddr, eo_builtin, opK_some, e_guard, guardK_same, guardK_tf, guardK_ft, guardK_passed, eq_self, true_and, and_true, op_bin, b_add, b_eql, b_eqstr, List.map_cons, List.map_nil, op_move, op_assign, op_pick, pick_bool, Bool.not_false, Bool.not_true, load_e, cut_f, cut_t, List.getElem?_cons_zero, List.getElem?_cons_succ, List.length_cons, List.length_nil, List.drop_zero, List.drop_succ_cons, List.take_succ_cons, List.take_zero, len_vec, len_nil, ret_ret, ret_nrm, retV_some, pack1, pack2, res_nil, res_tmp, getT_setD, setD_none, getT_leaf, initTm_nil, initTm_cons, ev_tmp, ev_int, ev_bool, ev_str, ev_nilslice, int_int, Option.map_some, Option.map_none, cond_true, cond_false, if_true, if_false, reduceCtorEq, Nat.reduceEqDiff, Nat.reduceAdd, Nat.reduceSub, Nat.reduceMul, Nat.reduceBEq, Int.reduceLT, Int.reduceLE, Int.reduceToNat, Int.reduceBEq, Int.reduceBNe, decide_true, decide_false, reduceIte, load3, load9, load22, index22, len22, load24, call44, r44_0, r44_1, r44_2, r44_3, r44_4, r44_5, r44_6, r44_7, r44_8, r44_9, r44_10, r44_11, r44_12, r44_13, r44_14, r44_15, r44_16, p44, load_pb, h0, fld24_0, fld24_1, fld24_3, fld_p, Option.bind_some, Nat.zero_add, Nat.add_zero, c7, e5, e6, d1, d2, d3, d4, lx]
  exact ⟨by rw [hr], g0⟩
end Go.Proofs.YtaacibffjmbfiaaDoor
