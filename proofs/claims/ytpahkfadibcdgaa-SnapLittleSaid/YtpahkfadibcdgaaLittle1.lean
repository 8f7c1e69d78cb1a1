/-
  Bytes that are read: a slice by value, or a slice of an object.
-/
import Derived.Test.YtpahkfadibcdgaaSnap10
import Derived.Test.YtpahkfadibcdgaaBase
import Derived.Test.YtpahkfadibcdgaaObj2
set_option linter.unusedSimpArgs false
set_option linter.unusedVariables false
namespace Go.Proofs.Ytpahkfadibcdgaa
open Go.Abs
def Rd (S : St) (x : AV) (l : List UInt8) : Prop := IsV 1 x (byteVals l) ∨
  ∃ o off room cs, x = .osl o 1 off l.length room ∧ o < S.no ∧ l.length ≤ room ∧ S.obj o = some cs ∧ off + l.length ≤ cs.length ∧ (cs.drop off).take l.length = byteVals l
theorem Rd.of {S : St} {x : AV} {l : List UInt8} (h : IsV 1 x (byteVals l)) : Rd S x l := .inl h
theorem Rd.grow {S S' : St} {x y : AV} {l : List UInt8} (h : Rd S x l) (g : Grow S S' y) : Rd S' x l := by
  rcases h with h | ⟨o, off, room, cs, rfl, h1, h2, h3, h4, h5⟩
  · exact .inl h
  · exact .inr ⟨o, off, room, cs, rfl, Nat.lt_of_lt_of_le h1 g.no, h2, g.objs h3 h1, h4, h5⟩
theorem Rd.len {S : St} {x : AV} {l : List UInt8} (h : Rd S x l) (S' : St) : lenV x S' = some (.sc (.int .i64 (l.length : Nat)), S') := by
  rcases h with h | ⟨o, off, room, cs, rfl, _⟩
  · rw [h.len, byteVals_length]
  · rfl
theorem Rd.idx {S : St} {x : AV} {l : List UInt8} (h : Rd S x l) {k : Nat} (hk : k < l.length) : ∃ p, (∀ S', idxV 1 x (some (k : Int)) S' = some (p, S')) ∧ loadC false 1 p S = some (.sc (.int .u8 l[k].toNat), S) := by
  rcases h with h | ⟨o, off, room, cs, rfl, h1, h2, h3, h4, h5⟩
  · exact ⟨_, fun S' => h.idxB hk S', rfl⟩
  · refine ⟨.ptr o (off + k), fun S' => ?_, ?_⟩
    · have e1 : decide (0 ≤ (k : Int)) = true := by simp
      have e2 : decide ((k : Int) < (l.length : Int)) = true := by simp; omega
      simp only [idxV, e1, e2, Nat.beq_refl, Bool.and_self, cond_true, Int.toNat_natCast, Nat.mul_one]
    · have hg : cs[off + k]? = some (.sc (.int .u8 l[k].toNat)) := by
        have := congrArg (fun q => q[k]?) h5
        simp only [List.getElem?_take_of_lt hk, List.getElem?_drop] at this
        rw [this]
        simp [byteVals, hk]
      rw [load_pb, h3]
      simp only [Option.bind_some, cut_f, hg, Option.map_some]
theorem groups_one : ∀ xs : List AV, groups false 1 xs.length xs = xs
  | [] => rfl
  | x :: r => by
    have ih := groups_one r
    simp only [List.length_cons, groups, cond_false, List.headD_cons, List.drop_succ_cons, List.drop_zero, ih]
theorem okc_bytes : ∀ l : List UInt8, (byteVals l).all okCell = true
  | [] => rfl
  | c :: l => by simp only [byteVals, List.map_cons, List.all_cons, Bool.and_eq_true]; exact ⟨rfl, okc_bytes l⟩
theorem osl_elems {S : St} {o off : Nat} {cs : List AV} {l : List UInt8} (h3 : S.obj o = some cs) (h5 : (cs.drop off).take l.length = byteVals l) : S.oslElems false o 1 off l.length = some (byteVals l) := by
  simp only [St.oslElems, h3, Nat.mul_one, h5, byteVals_length, Nat.beq_refl, okc_bytes, Bool.and_self, cond_true]
  have := groups_one (byteVals l)
  rw [byteVals_length] at this
  rw [this]
theorem Rd.slice {S : St} {x : AV} {l : List UInt8} (h : Rd S x l) (a b : Nat) (ha : a ≤ b) (hb : b ≤ l.length) :
    ∃ y, (∀ S', sliceA E 22 x (some (.sc (.int .i64 (a : Int)))) (some (.sc (.int .i64 (b : Int)))) S' = some (y, S')) ∧ Rd S y ((l.drop a).take (b - a)) := by
  rcases h with h | ⟨o, off, room, cs, rfl, h1, h2, h3, h4, h5⟩
  · exact ⟨_, fun S' => h.slice sl22 (bounds_lohi (by rw [byteVals_length]; exact hb) ha) S', .inl (h.subB a b hb)⟩
  · refine ⟨.osl o 1 (off + a) (b - a) (room - a), fun S' => ?_, .inr ⟨o, off + a, room - a, cs, ?_, h1, ?_, h3, ?_, ?_⟩⟩
    · have hbd : bounds room (some (.sc (.int .i64 (a : Int)))) (some (.sc (.int .i64 (b : Int)))) = some (a, b) := bounds_lohi (by omega) ha
      have hi : ∃ i, E.inf 5 = some i ∧ i.size = 1 := by
        have := el22
        unfold elIs at this
        split at this
        · rename_i e' de i hd hde hi
          simp only [Bool.and_eq_true] at this
          have h6 : i.size = 1 := Nat.eq_of_beq_eq_true this.1.1.1.2
          exact ⟨i, hi, h6⟩
        · cases this
      obtain ⟨i, hi1, hi2⟩ := hi
      simp only [sliceA, und22, hbd, hi1, hi2, Nat.beq_refl, cond_true, Nat.mul_one]
    · simp; omega
    · simp; omega
    · simp; omega
    · have := congrArg (fun q => (q.drop a).take (b - a)) h5
      simp only [byteVals_sub] at this
      rw [← this]
      simp only [List.length_take, List.length_drop]
      rw [List.drop_take, List.drop_drop, List.take_take]
theorem Rd.tail {S : St} {x : AV} {l : List UInt8} (h : Rd S x l) (a : Nat) (ha : a ≤ l.length) : ∃ y, (∀ S', sliceA E 22 x (some (.sc (.int .i64 (a : Int)))) none S' = some (y, S')) ∧ Rd S y (l.drop a) := by
  rcases h with h | ⟨o, off, room, cs, rfl, h1, h2, h3, h4, h5⟩
  · exact ⟨_, (tailB h .i64 a ha).1, .inl (tailB h .i64 a ha).2⟩
  · have hr : Rd S (.osl o 1 off l.length room) l := .inr ⟨o, off, room, cs, rfl, h1, h2, h3, h4, h5⟩
    obtain ⟨y, hy1, hy2⟩ := hr.slice a l.length ha (Nat.le_refl _)
    refine ⟨y, fun S' => ?_, ?_⟩
    · exact hy1 S'
    · rwa [List.take_of_length_le (by simp)] at hy2
theorem append_rd {X Y : AV} {l x : List UInt8} {S : St} (hS : S.Fresh) (hX : OwnV S 5 1 X (byteVals l)) (hY : Rd S Y x) (hx : x ≠ []) (hl : l.length + x.length ≤ 2 ^ 41) :
    (builtinA E false .append [22, 22] [X, Y] S = some (.vec S.nid 1 (byteVals (l ++ x)), appS 5 S X)) ∧ OwnV (appS 5 S X) 5 1 (.vec S.nid 1 (byteVals (l ++ x))) (byteVals (l ++ x)) := by
  refine ⟨?_, appS_own hS hX⟩
  have hap := app_own (S := S) (Y := .vec 0 1 (byteVals x)) el22 und22 hS hX (IsV.vec 0 1 _) (by cases x with | nil => exact absurd rfl hx | cons c r => simp [byteVals]) (allSz_bytes _) (by rw [byteVals_length, byteVals_length]; omega)
  rw [byteVals_app] at hap
  rcases hY with h | ⟨o, off, room, cs, rfl, h1, h2, h3, h4, h5⟩
  · rcases h with ⟨rfl, e⟩ | ⟨id, rfl⟩
    · cases x with
      | nil => exact absurd rfl hx
      | cons c r => simp [byteVals] at e
    · exact hap
  · rw [← hap]
    have he := osl_elems (S := S) h3 h5
    have ha := el22
    unfold elIs at ha
    split at ha
    · rename_i e' de i hd hde hi
      simp only [Bool.and_eq_true, beq_iff_eq] at ha
      obtain ⟨⟨⟨⟨⟨k1, k2⟩, k3⟩, k4⟩, k5⟩, k6⟩ := ha
      have k1 := Nat.eq_of_beq_eq_true k1
      have k3 : i.size = 1 := Nat.eq_of_beq_eq_true k3
      subst k1
      simp only [builtinA, hd, hde, hi, appendA, elemsS, elemsOf, k3, k2, Nat.beq_refl, Bool.or_true, Bool.and_self, cond_true, he]
    · cases ha
theorem Rd.str {S : St} {y : AV} {l : List UInt8} (h : Rd S y l) (mu : Bool) : convertA E mu 22 9 y S = some (.sc (.string ⟨l.toArray⟩), S) := by
  rcases h with h | ⟨o, off, room, cs, rfl, h1, h2, h3, h4, h5⟩
  · exact strB h mu S
  · have e1 : isStrBytes E 22 9 = false := by kernel_rfl
    have e2 : E.und 9 = some .string := by kernel_rfl
    have e3 : isU8 (E.und 5) = true := by kernel_rfl
    have he := osl_elems (S := S) h3 h5
    simp only [convertA, e1, cond_false, und22, e2, e3, Bool.true_and, show Nat.beq 1 1 = true from rfl, cond_true, he, bytesOf_vals, Option.map_some]

theorem sumR_ok (l : List UInt8) (hl : l.length ≤ 2 ^ 60) (x : AV) (S : St) (hx : Rd S x l) : ∃ r S', EvA E 15 [x] S r S' ∧ r = .sc (.int .u64 (sumF l)) ∧ S' = S := by
  refine ev15 rfl ?_
  simp only [e_nil, e_skip, e_exit, e_ret, e_c_exit, e_blk_nrm, e_blk_exit, e_pop_ret, e_seq, e_block, e_reg_nil, e_regD, e_cond, condK_true, condK_false, eo_move, eo_assign, eo_pick, eo_alloc, eo_box, eo_build, eo_buildSlice, eo_load, eo_store, eo_nilCheck, eo_bin, eo_un, eo_convert, eo_slice, eo_makeSlice, eo_lookup, eo_mapUpdate, eo_makeMap, eo_range, eo_next, eo_fieldAddr, eo_field, eo_indexAddr, eo_index, eo_extract, eo_makeFunc, eo_makeInterface, eo_builtin, opK_some, e_guard, guardK_same, guardK_tf, guardK_ft, guardK_passed, eq_self, true_and, and_true, op_bin, b_add, b_sub, b_mul, b_and, b_or, b_xor, b_andNot, b_eql, b_neq, b_lss, b_leq, b_gtr, b_geq, b_eqstr, b_shl', b_shr', List.map_cons, List.map_nil, op_move, op_assign, op_pick, pick_bool, op_extract, extract_tup, op_un, un_not, Bool.not_false, Bool.not_true, load_e, cut_f, cut_t, List.getElem?_cons_zero, List.getElem?_cons_succ, List.length_cons, List.length_nil, List.drop_zero, List.drop_succ_cons, List.take_succ_cons, List.take_zero, op_min, min_int, op_slice, op_convert, len_vec, len_nil, byteVals_length, ret_ret, ret_nrm, retV_some, pack1, pack2, res_nil, res_tmp, getT_setD, setD_none, getT_leaf, initTm_nil, initTm_cons, ev_tmp, ev_int, ev_bool, ev_str, ev_nilslice, int_int, Option.map_some, Option.map_none, cond_true, cond_false, if_true, if_false, reduceCtorEq, Nat.reduceEqDiff, Nat.reduceAdd, Nat.reduceSub, Nat.reduceMul, Nat.reduceBEq, Int.reduceLT, Int.reduceLE, Int.reduceToNat, Int.reduceBEq, Int.reduceBNe, decide_true, decide_false, reduceIte, load2, store2, load3, store3, load4, store4, load5, store5, load6, store6, load7, store7, load8, store8, load9, store9, load10, store10, load11, store11, load12, store12, load13, store13, load14, store14, load15, store15, load16, store16, load17, store17, load18, store18, load19, store19, load21, store21, load22, store22, bs22, app22, index22, len22, load24, store24, load27, store27, load30, store30, load31, store31, load34, store34, bs34, app34, index34, len34, load40, store40, load47, store47, load51, store51, bs51, app51, index51, len51, load58, store58, load59, store59, load60, store60, bs60, app60, index60, len60, load67, store67, load69, store69, load70, store70, bs70, app70, index70, len70, load76, store76, load77, store77, load78, store78, load79, store79, load80, store80, load82, store82, load83, store83, load84, store84, load86, store86, load87, store87, load88, store88, load89, store89, load90, store90, conv2_27, conv3_5, conv3_27, conv3_67, conv5_3, conv5_27, conv27_2, conv27_3, conv27_5, call3, call4, call5, call6, call7, call8, call9, call10, call11, call12, call13, call14, call15, call16, call17, call18, call19, call20, call21, call22, call23, call24, call25, call26, call27, call28, call29, call30, call31, call32, call33, call34, call35, call36, call37, call38, call39, r15_0, r15_1, r15_2, r15_3, r15_4, r15_5, r15_6, r15_8, p15, hx.len]
  refine e_loop (fun tm S' n => ∃ k : Nat, k ≤ l.length ∧ n = l.length - k ∧ S' = S ∧ getT tm 6 = x ∧ getT tm 7 = .sc (.int .i64 l.length) ∧ getT tm 8 = .sc (.int .i64 k) ∧ getT tm 3 = .sc (.int .u64 (sumF (l.take k)))) l.length ⟨0, by simp [getT_setD, sumF]⟩ ?_
  rintro tm S' n ⟨k, hk, rfl, hT, h6, h7, h8, h3⟩
  subst hT
  by_cases hlt : k < l.length
  · obtain ⟨p, p1, p2⟩ := hx.idx hlt
    simp only [e_nil, e_skip, e_exit, e_ret, e_c_exit, e_blk_nrm, e_blk_exit, e_pop_ret, e_seq, e_block, e_reg_nil, e_regD, e_cond, condK_true, condK_false, eo_move, eo_assign, eo_pick, eo_alloc, eo_box, eo_build, eo_buildSlice, eo_load, eo_store, eo_nilCheck, eo_bin, eo_un, eo_convert, eo_slice, eo_makeSlice, eo_lookup, eo_mapUpdate, eo_makeMap, eo_range, eo_next, eo_fieldAddr, eo_field, eo_indexAddr, eo_index, eo_extract, eo_makeFunc, eo_makeInterface, eo_builtin, opK_some, e_guard, guardK_same, guardK_tf, guardK_ft, guardK_passed, eq_self, true_and, and_true, op_bin, b_add, b_sub, b_mul, b_and, b_or, b_xor, b_andNot, b_eql, b_neq, b_lss, b_leq, b_gtr, b_geq, b_eqstr, b_shl', b_shr', List.map_cons, List.map_nil, op_move, op_assign, op_pick, pick_bool, op_extract, extract_tup, op_un, un_not, Bool.not_false, Bool.not_true, load_e, cut_f, cut_t, List.getElem?_cons_zero, List.getElem?_cons_succ, List.length_cons, List.length_nil, List.drop_zero, List.drop_succ_cons, List.take_succ_cons, List.take_zero, op_min, min_int, op_slice, op_convert, len_vec, len_nil, byteVals_length, ret_ret, ret_nrm, retV_some, pack1, pack2, res_nil, res_tmp, getT_setD, setD_none, getT_leaf, initTm_nil, initTm_cons, ev_tmp, ev_int, ev_bool, ev_str, ev_nilslice, int_int, Option.map_some, Option.map_none, cond_true, cond_false, if_true, if_false, reduceCtorEq, Nat.reduceEqDiff, Nat.reduceAdd, Nat.reduceSub, Nat.reduceMul, Nat.reduceBEq, Int.reduceLT, Int.reduceLE, Int.reduceToNat, Int.reduceBEq, Int.reduceBNe, decide_true, decide_false, reduceIte, load2, store2, load3, store3, load4, store4, load5, store5, load6, store6, load7, store7, load8, store8, load9, store9, load10, store10, load11, store11, load12, store12, load13, store13, load14, store14, load15, store15, load16, store16, load17, store17, load18, store18, load19, store19, load21, store21, load22, store22, bs22, app22, index22, len22, load24, store24, load27, store27, load30, store30, load31, store31, load34, store34, bs34, app34, index34, len34, load40, store40, load47, store47, load51, store51, bs51, app51, index51, len51, load58, store58, load59, store59, load60, store60, bs60, app60, index60, len60, load67, store67, load69, store69, load70, store70, bs70, app70, index70, len70, load76, store76, load77, store77, load78, store78, load79, store79, load80, store80, load82, store82, load83, store83, load84, store84, load86, store86, load87, store87, load88, store88, load89, store89, load90, store90, conv2_27, conv3_5, conv3_27, conv3_67, conv5_3, conv5_27, conv27_2, conv27_3, conv27_5, call3, call4, call5, call6, call7, call8, call9, call10, call11, call12, call13, call14, call15, call16, call17, call18, call19, call20, call21, call22, call23, call24, call25, call26, call27, call28, call29, call30, call31, call32, call33, call34, call35, call36, call37, call38, call39, b15_7, r15_0, r15_1, r15_2, r15_3, r15_4, r15_5, r15_6, r15_8, p15, h6, h7, h8, h3, dec_lt hlt, p1, p2]
    refine ⟨l.length - (k + 1), by omega, k + 1, by omega, rfl, ?_, ?_⟩
    · rw [wrap_i64 (by omega) (by omega)]; rfl
    · rw [List.take_succ_eq_append_getElem hlt]
      simp only [sumF, List.foldl_append]; rfl
  · simp only [e_nil, e_skip, e_exit, e_ret, e_c_exit, e_blk_nrm, e_blk_exit, e_pop_ret, e_seq, e_block, e_reg_nil, e_regD, e_cond, condK_true, condK_false, eo_move, eo_assign, eo_pick, eo_alloc, eo_box, eo_build, eo_buildSlice, eo_load, eo_store, eo_nilCheck, eo_bin, eo_un, eo_convert, eo_slice, eo_makeSlice, eo_lookup, eo_mapUpdate, eo_makeMap, eo_range, eo_next, eo_fieldAddr, eo_field, eo_indexAddr, eo_index, eo_extract, eo_makeFunc, eo_makeInterface, eo_builtin, opK_some, e_guard, guardK_same, guardK_tf, guardK_ft, guardK_passed, eq_self, true_and, and_true, op_bin, b_add, b_sub, b_mul, b_and, b_or, b_xor, b_andNot, b_eql, b_neq, b_lss, b_leq, b_gtr, b_geq, b_eqstr, b_shl', b_shr', List.map_cons, List.map_nil, op_move, op_assign, op_pick, pick_bool, op_extract, extract_tup, op_un, un_not, Bool.not_false, Bool.not_true, load_e, cut_f, cut_t, List.getElem?_cons_zero, List.getElem?_cons_succ, List.length_cons, List.length_nil, List.drop_zero, List.drop_succ_cons, List.take_succ_cons, List.take_zero, op_min, min_int, op_slice, op_convert, len_vec, len_nil, byteVals_length, ret_ret, ret_nrm, retV_some, pack1, pack2, res_nil, res_tmp, getT_setD, setD_none, getT_leaf, initTm_nil, initTm_cons, ev_tmp, ev_int, ev_bool, ev_str, ev_nilslice, int_int, Option.map_some, Option.map_none, cond_true, cond_false, if_true, if_false, reduceCtorEq, Nat.reduceEqDiff, Nat.reduceAdd, Nat.reduceSub, Nat.reduceMul, Nat.reduceBEq, Int.reduceLT, Int.reduceLE, Int.reduceToNat, Int.reduceBEq, Int.reduceBNe, decide_true, decide_false, reduceIte, load2, store2, load3, store3, load4, store4, load5, store5, load6, store6, load7, store7, load8, store8, load9, store9, load10, store10, load11, store11, load12, store12, load13, store13, load14, store14, load15, store15, load16, store16, load17, store17, load18, store18, load19, store19, load21, store21, load22, store22, bs22, app22, index22, len22, load24, store24, load27, store27, load30, store30, load31, store31, load34, store34, bs34, app34, index34, len34, load40, store40, load47, store47, load51, store51, bs51, app51, index51, len51, load58, store58, load59, store59, load60, store60, bs60, app60, index60, len60, load67, store67, load69, store69, load70, store70, bs70, app70, index70, len70, load76, store76, load77, store77, load78, store78, load79, store79, load80, store80, load82, store82, load83, store83, load84, store84, load86, store86, load87, store87, load88, store88, load89, store89, load90, store90, conv2_27, conv3_5, conv3_27, conv3_67, conv5_3, conv5_27, conv27_2, conv27_3, conv27_5, call3, call4, call5, call6, call7, call8, call9, call10, call11, call12, call13, call14, call15, call16, call17, call18, call19, call20, call21, call22, call23, call24, call25, call26, call27, call28, call29, call30, call31, call32, call33, call34, call35, call36, call37, call38, call39, b15_7, r15_0, r15_1, r15_2, r15_3, r15_4, r15_5, r15_6, r15_8, p15, h6, h7, h8, h3, dec_nlt hlt]
    have : k = l.length := by omega
    simp [this]
end Go.Proofs.Ytpahkfadibcdgaa
