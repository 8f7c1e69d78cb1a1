/-
  Trees: the walks (where one can stop; the law TreeStops).
-/
import Derived.Test.YtmmnkemcplgebaaGreatDoorPY
import Derived.Test.YtmmnkemcplgebaaGreatDoorPZ
section
set_option linter.unusedSimpArgs false
set_option linter.unusedVariables false
set_option maxRecDepth 100000
namespace Go.Proofs.YtmmnkemcplgebaaGreatDoor
open Go.Abs
theorem allSz_ints : ∀ l : List Int, allSz 1 (intsA l) = true
  | [] => rfl
  | s :: l => by simp only [intsA, List.map_cons, allSz, Bool.and_eq_true]; exact ⟨rfl, allSz_ints l⟩
theorem intsA_app (a b : List Int) : intsA a ++ intsA b = intsA (a ++ b) := by simp [intsA]
theorem bsi1 (a : Int) (S : St) : buildSliceA E 28 1 [(0, .sc (.int .i64 a))] S = some (.vec 1 1 [.sc (.int .i64 a)], S) := by kernel_rfl
theorem app_ints {S S0 : St} {X Y : AV} {xs ys : List Int} (hX : OwnV S 3 1 X (intsA xs)) (hN : Newish S0 X) (G : Grow S0 S nilV) (hY : IsV 1 Y (intsA ys)) (hb : xs.length + ys.length ≤ 2 ^ 40) :
    ∃ Z S1, builtinA E false .append [28, 28] [X, Y] S = some (Z, S1) ∧ OwnV S1 3 1 Z (intsA (xs ++ ys)) ∧ Newish S0 Z ∧ Grow S0 S1 nilV ∧ S1.no = S.no ∧ (∀ l, S1.obj l = S.obj l) ∧ Grow S S1 X := by
  rw [← intsA_app]
  exact app_any el28 und28 hX hN G hY (allSz_ints _) (by rw [intsA_len, intsA_len]; omega)
theorem stopsF_drop {l : List NodeV} {k : Nat} (hk : k < l.length) : stopsF (l.drop k) k = bif stopF l[k].kind then ((k : Nat) : Int) :: stopsF (l.drop (k + 1)) (k + 1) else stopsF (l.drop (k + 1)) (k + 1) := by rw [List.drop_eq_getElem_cons hk, stopsF]
theorem stopsF_len : ∀ (l : List NodeV) (k : Nat), (stopsF l k).length ≤ l.length
  | [], k => Nat.le_refl _
  | x :: r, k => by
    have := stopsF_len r (k + 1)
    unfold stopsF
    cases stopF x.kind with
    | true => simp only [cond_true, List.length_cons]; omega
    | false => simp only [cond_false, List.length_cons]; omega
set_option maxHeartbeats 16000000 in
theorem stops_ok (t : TreeV) (nx tx : AV) (ht : TreeIs nx tx t) (S : St) (hS : S.Fresh) : ∃ r S', EvA E 12 [.agg [nx, tx]] S r S' ∧ IsV 1 r (intsA (bif goodF t then stopsF t.nodes 0 else [])) ∧ Grow S S' nilV := by
  refine ev12 rfl ?_
  have hG := (Grow.refl hS nilV).born 25 [nx, tx]
  have hT : (S.born 25 [nx, tx]).obj S.no = some [nx, tx] := by simp [born_obj]
  have hn : S.no < (S.born 25 [nx, tx]).no := Nat.lt_succ_self _
  simp only [SXa, reduceCtorEq, Nat.reduceEqDiff, Nat.reduceAdd, Nat.reduceSub, Nat.reduceMul, Nat.reduceBEq, Int.reduceLT, Int.reduceLE, Int.reduceToNat, Int.reduceBEq, Int.reduceBNe, reduceIte, load3, load22, index22, len22, load25, bs28, app28, load30, store30, call9, call37, r12_0, r12_1, r12_2, r12_3, r12_4, r12_5, r12_6, r12_7, r12_8, r12_9, r12_11, p12, op_box, cells_agg]
  generalize S.born 25 [nx, tx] = S0 at hG hT hn
  simp only [SXa, reduceCtorEq, Nat.reduceEqDiff, Nat.reduceAdd, Nat.reduceSub, Nat.reduceMul, Nat.reduceBEq, Int.reduceLT, Int.reduceLE, Int.reduceToNat, Int.reduceBEq, Int.reduceBNe, reduceIte, load3, load22, index22, len22, load25, bs28, app28, load30, store30, call9, call37, r12_0, r12_1, r12_2, r12_3, r12_4, r12_5, r12_6, r12_7, r12_8, r12_9, r12_11, p12, load_pb, hT, Option.bind_some, Nat.zero_add, Nat.le_refl]
  refine callK_ans (good_ans t nx tx ht) hG (fun S1 g1 hG1 => ?_)
  have hT1 := g1.objs hT hn
  have hn1 := Nat.lt_of_lt_of_le hn g1.no
  cases hg : goodF t with
  | false =>
    simp only [SXa, reduceCtorEq, Nat.reduceEqDiff, Nat.reduceAdd, Nat.reduceSub, Nat.reduceMul, Nat.reduceBEq, Int.reduceLT, Int.reduceLE, Int.reduceToNat, Int.reduceBEq, Int.reduceBNe, reduceIte, load3, load22, index22, len22, load25, bs28, app28, load30, store30, call9, call37, r12_0, r12_1, r12_2, r12_3, r12_4, r12_5, r12_6, r12_7, r12_8, r12_9, r12_11, p12]
    exact ⟨IsV.nil 1, hG1⟩
  | true =>
  simp only [SXa, reduceCtorEq, Nat.reduceEqDiff, Nat.reduceAdd, Nat.reduceSub, Nat.reduceMul, Nat.reduceBEq, Int.reduceLT, Int.reduceLE, Int.reduceToNat, Int.reduceBEq, Int.reduceBNe, reduceIte, load3, load22, index22, len22, load25, bs28, app28, load30, store30, call9, call37, r12_0, r12_1, r12_2, r12_3, r12_4, r12_5, r12_6, r12_7, r12_8, r12_9, r12_11, p12, load_pb, hT1, fldT0, fld_p, Option.bind_some, Nat.add_zero, Nat.zero_add, lenN ht.nodes]
  have hln := ht.ln
  refine e_loop (fun tm S' N => ∃ (k : Nat) (X : AV) (ws : List Int), k ≤ t.nodes.length ∧ N = t.nodes.length - k ∧ ws ++ stopsF (t.nodes.drop k) k = stopsF t.nodes 0 ∧ ws.length ≤ k ∧ OwnV S' 3 1 X (intsA ws) ∧ Newish S X ∧ Grow S S' nilV ∧ getT tm 3 = X ∧ getT tm 10 = nx ∧ getT tm 11 = .sc (.int .i64 (t.nodes.length : Nat)) ∧ getT tm 12 = .sc (.int .i64 (k : Int))) t.nodes.length
    ⟨0, nilV, [], by omega, by omega, by rw [List.drop_zero]; rfl, by simp, OwnV.nil' _ _ _, .inl rfl, hG1, by simp [getT_setD]⟩ ?_
  rintro tm S2 N ⟨k, X, ws, hk, rfl, hw, hl, hX, hN, hG2, t3, t10, t11, t12⟩
  by_cases hlt : k < t.nodes.length
  case neg =>
    have hke : k = t.nodes.length := by omega
    rw [hke, List.drop_length, stopsF, List.append_nil] at hw
    simp only [SXa, reduceCtorEq, Nat.reduceEqDiff, Nat.reduceAdd, Nat.reduceSub, Nat.reduceMul, Nat.reduceBEq, Int.reduceLT, Int.reduceLE, Int.reduceToNat, Int.reduceBEq, Int.reduceBNe, reduceIte, load3, load22, index22, len22, load25, bs28, app28, load30, store30, call9, call37, b12_10, r12_0, r12_1, r12_2, r12_3, r12_4, r12_5, r12_6, r12_7, r12_8, r12_9, r12_11, p12, t3, t10, t11, t12, dec_nlt hlt]
    rw [← hw]
    exact ⟨hX.is, hG2⟩
  case pos =>
  have wk := wrapK hlt (by omega)
  rw [stopsF_drop hlt] at hw
  have hG3 := (hG2.born 30 zN).put S2.no (.cells (nodeA t.nodes[k])) hG2.no
  have hN3 : ((S2.born 30 zN).put S2.no (.cells (nodeA t.nodes[k]))).obj S2.no = some (nodeA t.nodes[k]) := by simp [put_obj]
  have gr3 : Grow S2 ((S2.born 30 zN).put S2.no (.cells (nodeA t.nodes[k]))) nilV := ((Grow.refl hG2.fresh nilV).born _ _).put S2.no _ (Nat.le_refl _)
  simp only [SXa, reduceCtorEq, Nat.reduceEqDiff, Nat.reduceAdd, Nat.reduceSub, Nat.reduceMul, Nat.reduceBEq, Int.reduceLT, Int.reduceLE, Int.reduceToNat, Int.reduceBEq, Int.reduceBNe, reduceIte, load3, load22, index22, len22, load25, bs28, app28, load30, store30, call9, call37, b12_10, r12_0, r12_1, r12_2, r12_3, r12_4, r12_5, r12_6, r12_7, r12_8, r12_9, r12_11, p12, t3, t10, t11, t12, dec_lt hlt, idxN ht.nodes hlt, nodeA_len, nodeA_take, allocN, stN, born_obj, Option.bind_some, Nat.zero_add, zN_len, zN_drop, List.append_nil, Nat.le_refl]
  generalize (S2.born 30 zN).put S2.no (.cells (nodeA t.nodes[k])) = S3 at hG3 hN3 gr3
  simp only [nodeA] at hN3
  simp only [SXa, reduceCtorEq, Nat.reduceEqDiff, Nat.reduceAdd, Nat.reduceSub, Nat.reduceMul, Nat.reduceBEq, Int.reduceLT, Int.reduceLE, Int.reduceToNat, Int.reduceBEq, Int.reduceBNe, reduceIte, load3, load22, index22, len22, load25, bs28, app28, load30, store30, call9, call37, r12_0, r12_1, r12_2, r12_3, r12_4, r12_5, r12_6, r12_7, r12_8, r12_9, r12_11, p12, t3, t10, t11, t12, load_pb, hN3, fldN, fld_p, Option.bind_some, Nat.add_zero, Nat.zero_add]
  refine callK_ans (stop_ans _) hG3 (fun S4 g4 hG4 => ?_)
  have gr4 := gr3.two g4
  cases hs : stopF t.nodes[k].kind with
  | false =>
    rw [hs, cond_false] at hw
    simp only [SXa, reduceCtorEq, Nat.reduceEqDiff, Nat.reduceAdd, Nat.reduceSub, Nat.reduceMul, Nat.reduceBEq, Int.reduceLT, Int.reduceLE, Int.reduceToNat, Int.reduceBEq, Int.reduceBNe, reduceIte, load3, load22, index22, len22, load25, bs28, app28, load30, store30, call9, call37, r12_0, r12_1, r12_2, r12_3, r12_4, r12_5, r12_6, r12_7, r12_8, r12_9, r12_11, p12, t3, t10, t11, t12, wk]
    exact ⟨t.nodes.length - (k + 1), by omega, k + 1, X, ws, by omega, rfl, hw, by omega, hX.keep gr4, hN, hG4, by simp [t3, t10, t11]⟩
  | true =>
    rw [hs, cond_true] at hw
    obtain ⟨Z, S5, ap, hZ, hNZ, hG5, _, _, _⟩ := app_ints (Y := .vec 1 1 [.sc (.int .i64 ((k : Nat) : Int))]) (ys := [((k : Nat) : Int)]) (hX.keep gr4) hN hG4 (IsV.vec 1 1 _) (by simp only [List.length_cons, List.length_nil]; omega)
    simp only [SXa, reduceCtorEq, Nat.reduceEqDiff, Nat.reduceAdd, Nat.reduceSub, Nat.reduceMul, Nat.reduceBEq, Int.reduceLT, Int.reduceLE, Int.reduceToNat, Int.reduceBEq, Int.reduceBNe, reduceIte, load3, load22, index22, len22, load25, bs28, app28, load30, store30, call9, call37, r12_0, r12_1, r12_2, r12_3, r12_4, r12_5, r12_6, r12_7, r12_8, r12_9, r12_11, p12, t3, t10, t11, t12, bsi1, ap, wk]
    exact ⟨t.nodes.length - (k + 1), by omega, k + 1, Z, ws ++ [((k : Nat) : Int)], by omega, rfl, by rw [← hw]; simp, by simp only [List.length_append, List.length_cons, List.length_nil]; omega, hZ, hNZ, hG5, by simp [t10, t11]⟩
theorem awake_ans : Ans E 7 [] (.sc (.bool true)) := fun S hS => ⟨S, ev_x (E := E) (f := 7) (fn := Tryz.f7) (g := memoX (.bool true)) (by kernel_rfl) rfl rfl, Grow.refl hS _⟩
theorem stop_iff (n : Int) : stopF n = (decide (7 ≤ n) && decide (n ≤ 11) || n == 13 || decide (17 ≤ n) && decide (n ≤ 20)) := by
  rw [Bool.eq_iff_iff]
  simp only [stopF, Bool.or_eq_true, Bool.and_eq_true, beq_iff_eq, decide_eq_true_eq]
  omega
set_option maxHeartbeats 16000000 in
theorem law_ok (t : TreeV) (nx tx : AV) (ht : RawIs nx tx t) (S : St) (hS : S.Fresh) : ∃ r S', EvA E 4 [.agg [nx, tx]] S r S' ∧ r = .sc (.bool true) := by
  refine ev4 rfl ?_
  have hG := (Grow.refl hS nilV).born 25 [nx, tx]
  have hT : (S.born 25 [nx, tx]).obj S.no = some [nx, tx] := by simp [born_obj]
  have hn : S.no < (S.born 25 [nx, tx]).no := Nat.lt_succ_self _
  simp only [SXa, reduceCtorEq, Nat.reduceEqDiff, Nat.reduceAdd, Nat.reduceSub, Nat.reduceMul, Nat.reduceBEq, Int.reduceLT, Int.reduceLE, Int.reduceToNat, Int.reduceBEq, Int.reduceBNe, reduceIte, load3, load22, index22, len22, load25, index28, len28, call7, call8, call9, call12, r4_0, r4_1, r4_2, r4_3, r4_4, r4_5, r4_6, r4_7, r4_8, r4_9, r4_10, r4_11, r4_12, r4_13, r4_14, r4_15, r4_17, p4, op_box, cells_agg]
  generalize S.born 25 [nx, tx] = S0 at hG hT hn
  refine callK_ans awake_ans hG (fun S1 g1 hG1 => ?_)
  have hT1 := g1.objs hT hn
  have hn1 := Nat.lt_of_lt_of_le hn g1.no
  simp only [SXa, reduceCtorEq, Nat.reduceEqDiff, Nat.reduceAdd, Nat.reduceSub, Nat.reduceMul, Nat.reduceBEq, Int.reduceLT, Int.reduceLE, Int.reduceToNat, Int.reduceBEq, Int.reduceBNe, reduceIte, load3, load22, index22, len22, load25, index28, len28, call7, call8, call9, call12, r4_0, r4_1, r4_2, r4_3, r4_4, r4_5, r4_6, r4_7, r4_8, r4_9, r4_10, r4_11, r4_12, r4_13, r4_14, r4_15, r4_17, p4, load_pb, hT1, Option.bind_some, Nat.zero_add, Nat.le_refl]
  obtain ⟨r2, S2, e2, ⟨b, rfl, hb⟩, g2⟩ := heavy_ok t nx tx ht S1 hG1.fresh
  have hG2 := hG1.two g2
  have hT2 := g2.objs hT1 hn1
  have hn2 := Nat.lt_of_lt_of_le hn1 g2.no
  refine callK_of e2 ?_
  cases b with
  | true => simp only [SXa, reduceCtorEq, Nat.reduceEqDiff, Nat.reduceAdd, Nat.reduceSub, Nat.reduceMul, Nat.reduceBEq, Int.reduceLT, Int.reduceLE, Int.reduceToNat, Int.reduceBEq, Int.reduceBNe, reduceIte, load3, load22, index22, len22, load25, index28, len28, call7, call8, call9, call12, r4_0, r4_1, r4_2, r4_3, r4_4, r4_5, r4_6, r4_7, r4_8, r4_9, r4_10, r4_11, r4_12, r4_13, r4_14, r4_15, r4_17, p4]
  | false =>
  have hl := hb rfl
  have hti := ht.light hl
  simp only [SXa, reduceCtorEq, Nat.reduceEqDiff, Nat.reduceAdd, Nat.reduceSub, Nat.reduceMul, Nat.reduceBEq, Int.reduceLT, Int.reduceLE, Int.reduceToNat, Int.reduceBEq, Int.reduceBNe, reduceIte, load3, load22, index22, len22, load25, index28, len28, call7, call8, call9, call12, r4_0, r4_1, r4_2, r4_3, r4_4, r4_5, r4_6, r4_7, r4_8, r4_9, r4_10, r4_11, r4_12, r4_13, r4_14, r4_15, r4_17, p4, load_pb, hT2, Option.bind_some, Nat.zero_add, Nat.le_refl]
  refine callK_ans (good_ans t nx tx hti) hG2 (fun S3 g3 hG3 => ?_)
  have hT3 := g3.objs hT2 hn2
  have hn3 := Nat.lt_of_lt_of_le hn2 g3.no
  cases hg : goodF t with
  | false => simp only [SXa, reduceCtorEq, Nat.reduceEqDiff, Nat.reduceAdd, Nat.reduceSub, Nat.reduceMul, Nat.reduceBEq, Int.reduceLT, Int.reduceLE, Int.reduceToNat, Int.reduceBEq, Int.reduceBNe, reduceIte, load3, load22, index22, len22, load25, index28, len28, call7, call8, call9, call12, r4_0, r4_1, r4_2, r4_3, r4_4, r4_5, r4_6, r4_7, r4_8, r4_9, r4_10, r4_11, r4_12, r4_13, r4_14, r4_15, r4_17, p4]
  | true =>
  simp only [SXa, reduceCtorEq, Nat.reduceEqDiff, Nat.reduceAdd, Nat.reduceSub, Nat.reduceMul, Nat.reduceBEq, Int.reduceLT, Int.reduceLE, Int.reduceToNat, Int.reduceBEq, Int.reduceBNe, reduceIte, load3, load22, index22, len22, load25, index28, len28, call7, call8, call9, call12, r4_0, r4_1, r4_2, r4_3, r4_4, r4_5, r4_6, r4_7, r4_8, r4_9, r4_10, r4_11, r4_12, r4_13, r4_14, r4_15, r4_17, p4, load_pb, hT3, Option.bind_some, Nat.zero_add, Nat.le_refl]
  obtain ⟨L, S4, e4, hL, g4⟩ := stops_ok t nx tx hti S3 hG3.fresh
  rw [hg, cond_true] at hL
  have hT4 := g4.objs hT3 hn3
  refine callK_of e4 ?_
  simp only [SXa, reduceCtorEq, Nat.reduceEqDiff, Nat.reduceAdd, Nat.reduceSub, Nat.reduceMul, Nat.reduceBEq, Int.reduceLT, Int.reduceLE, Int.reduceToNat, Int.reduceBEq, Int.reduceBNe, reduceIte, load3, load22, index22, len22, load25, index28, len28, call7, call8, call9, call12, r4_0, r4_1, r4_2, r4_3, r4_4, r4_5, r4_6, r4_7, r4_8, r4_9, r4_10, r4_11, r4_12, r4_13, r4_14, r4_15, r4_17, p4]
  have hll := stopsF_len t.nodes 0
  have hln := hl.ln
  have lenL : ∀ S, lenV L S = some (.sc (.int .i64 ((stopsF t.nodes 0).length : Nat)), S) := fun S => by rw [hL.len]; simp [intsA]
  refine e_loop (fun tm S' N => ∃ (i : Nat) (ws : List Int), i ≤ t.nodes.length ∧ N = t.nodes.length - i ∧ ws ++ stopsF (t.nodes.drop i) i = stopsF t.nodes 0 ∧ S' = S4 ∧ getT tm 1 = .ptr S.no 0 ∧ getT tm 3 = L ∧ getT tm 4 = .sc (.int .i64 (ws.length : Nat)) ∧ getT tm 5 = .sc (.int .i64 (i : Int))) t.nodes.length
    ⟨0, [], by omega, by omega, by rw [List.drop_zero]; rfl, rfl, by simp [getT_setD]⟩ ?_
  rintro tm S5 N ⟨i, ws, hi, rfl, hw, rfl, t1, t3, t4, t5⟩
  by_cases hlt : i < t.nodes.length
  case neg =>
    have hie : i = t.nodes.length := by omega
    rw [hie, List.drop_length, stopsF, List.append_nil] at hw
    have e1 : (((ws.length : Nat) : Int) == ((stopsF t.nodes 0).length : Nat)) = true := by rw [hw]; simp
    simp only [SXa, reduceCtorEq, Nat.reduceEqDiff, Nat.reduceAdd, Nat.reduceSub, Nat.reduceMul, Nat.reduceBEq, Int.reduceLT, Int.reduceLE, Int.reduceToNat, Int.reduceBEq, Int.reduceBNe, reduceIte, load3, load22, index22, len22, load25, index28, len28, call7, call8, call9, call12, b4_16, r4_0, r4_1, r4_2, r4_3, r4_4, r4_5, r4_6, r4_7, r4_8, r4_9, r4_10, r4_11, r4_12, r4_13, r4_14, r4_15, r4_17, p4, t1, t3, t4, t5, load_pb, hT4, fldT0, fld_p, Option.bind_some, Nat.add_zero, Nat.zero_add, lenN ht.nodes, dec_nlt hlt, lenL, e1]
  case pos =>
  have wi := wrapK hlt (by omega)
  have hx : getT tm 5 = .sc (.int .i64 (i : Int)) := t5
  rw [stopsF_drop hlt] at hw
  simp only [SXa, reduceCtorEq, Nat.reduceEqDiff, Nat.reduceAdd, Nat.reduceSub, Nat.reduceMul, Nat.reduceBEq, Int.reduceLT, Int.reduceLE, Int.reduceToNat, Int.reduceBEq, Int.reduceBNe, reduceIte, load3, load22, index22, len22, load25, index28, len28, call7, call8, call9, call12, b4_16, r4_0, r4_1, r4_2, r4_3, r4_4, r4_5, r4_6, r4_7, r4_8, r4_9, r4_11, r4_12, r4_13, r4_14, r4_15, r4_17, p4, t1, t3, t4, t5, load_pb, hT4, fldT0, fldN, fld_p, fld_e, Option.bind_some, Nat.add_zero, Nat.zero_add, lenN ht.nodes, dec_lt hlt, idxN ht.nodes hlt, nodeA]
  refine ends_cut2 (fun tm' S' => S' = S5 ∧ getT tm' 1 = .ptr S.no 0 ∧ getT tm' 3 = L ∧ getT tm' 4 = .sc (.int .i64 (ws.length : Nat)) ∧ getT tm' 5 = .sc (.int .i64 (i : Int)) ∧ getT tm' 7 = .sc (.bool (stopF t.nodes[i].kind))) ?_ ?_
  · simp only [SXa, reduceCtorEq, Nat.reduceEqDiff, Nat.reduceAdd, Nat.reduceSub, Nat.reduceMul, Nat.reduceBEq, Int.reduceLT, Int.reduceLE, Int.reduceToNat, Int.reduceBEq, Int.reduceBNe, reduceIte, load3, load22, index22, len22, load25, index28, len28, call7, call8, call9, call12, r4_0, r4_1, r4_2, r4_3, r4_4, r4_5, r4_6, r4_7, r4_8, r4_9, r4_10, r4_11, r4_12, r4_13, r4_14, r4_15, r4_17, p4]
    repeat' (first
      | (refine condK_split (fun h => ?_) (fun h => ?_) <;> simp only [SXa, reduceCtorEq, Nat.reduceEqDiff, Nat.reduceAdd, Nat.reduceSub, Nat.reduceMul, Nat.reduceBEq, Int.reduceLT, Int.reduceLE, Int.reduceToNat, Int.reduceBEq, Int.reduceBNe, reduceIte, load3, load22, index22, len22, load25, index28, len28, call7, call8, call9, call12, r4_0, r4_1, r4_2, r4_3, r4_4, r4_5, r4_6, r4_7, r4_8, r4_9, r4_10, r4_11, r4_12, r4_13, r4_14, r4_15, r4_17, p4, h])
      | (refine guardK_split (fun h => ?_) (fun h => ?_) <;> simp only [SXa, reduceCtorEq, Nat.reduceEqDiff, Nat.reduceAdd, Nat.reduceSub, Nat.reduceMul, Nat.reduceBEq, Int.reduceLT, Int.reduceLE, Int.reduceToNat, Int.reduceBEq, Int.reduceBNe, reduceIte, load3, load22, index22, len22, load25, index28, len28, call7, call8, call9, call12, r4_0, r4_1, r4_2, r4_3, r4_4, r4_5, r4_6, r4_7, r4_8, r4_9, r4_10, r4_11, r4_12, r4_13, r4_14, r4_15, r4_17, p4, h]))
    all_goals exact ⟨t1, t3, t4, t5, by simp only [stop_iff, Bool.true_and, Bool.false_and, Bool.true_or, Bool.or_true, Bool.false_or, Bool.or_false, Nat.reduceEqDiff, reduceIte, *]⟩
  · clear t1 t3 t4 t5 hx
    rintro tm S6 ⟨rfl, t1, t3, t4, t5, t7⟩
    cases hs : stopF t.nodes[i].kind with
    | false =>
      rw [hs, cond_false] at hw
      rw [hs] at t7
      simp only [SXa, reduceCtorEq, Nat.reduceEqDiff, Nat.reduceAdd, Nat.reduceSub, Nat.reduceMul, Nat.reduceBEq, Int.reduceLT, Int.reduceLE, Int.reduceToNat, Int.reduceBEq, Int.reduceBNe, reduceIte, load3, load22, index22, len22, load25, index28, len28, call7, call8, call9, call12, r4_0, r4_1, r4_2, r4_3, r4_4, r4_5, r4_6, r4_7, r4_8, r4_9, r4_10, r4_11, r4_12, r4_13, r4_14, r4_15, r4_17, p4, t1, t3, t4, t5, t7, wi]
      exact ⟨t.nodes.length - (i + 1), by omega, i + 1, ws, by omega, rfl, hw, by simp [t1, t3, t4]⟩
    | true =>
      rw [hs, cond_true] at hw
      rw [hs] at t7
      have hlen : ws.length < (stopsF t.nodes 0).length := by rw [← hw]; simp
      have hat : (stopsF t.nodes 0)[ws.length]? = some ((i : Nat) : Int) := by rw [← hw]; simp
      have c1 : decide (((stopsF t.nodes 0).length : Int) ≤ ((ws.length : Nat) : Int)) = false := by simp only [decide_eq_false_iff_not]; omega
      have hix : ∀ S, idxV 1 L (some ((ws.length : Nat) : Int)) S = some (.eptr [.sc (.int .i64 ((i : Nat) : Int))] 0, S) := fun S => hL.idx (v := .sc (.int .i64 ((i : Nat) : Int))) (by simp [intsA, hat]) rfl S
      have wk : IntKind.i64.wrap (((ws.length : Nat) : Int) + 1) = ((ws.length + 1 : Nat) : Int) := wrapK hlen (by omega)
      have cne : ((i : Int) != (i : Int)) = false := by simp
      simp only [SXa, reduceCtorEq, Nat.reduceEqDiff, Nat.reduceAdd, Nat.reduceSub, Nat.reduceMul, Nat.reduceBEq, Int.reduceLT, Int.reduceLE, Int.reduceToNat, Int.reduceBEq, Int.reduceBNe, reduceIte, load3, load22, index22, len22, load25, index28, len28, call7, call8, call9, call12, r4_0, r4_1, r4_2, r4_3, r4_4, r4_5, r4_6, r4_7, r4_8, r4_9, r4_10, r4_11, r4_12, r4_13, r4_14, r4_15, r4_17, p4, t1, t3, t4, t5, t7, wi, lenL, c1, hix, cne, wk]
      exact ⟨t.nodes.length - (i + 1), by omega, i + 1, ws ++ [((i : Nat) : Int)], by omega, rfl, by rw [← hw]; simp, by simp [t1, t3]⟩
end Go.Proofs.YtmmnkemcplgebaaGreatDoor
end
