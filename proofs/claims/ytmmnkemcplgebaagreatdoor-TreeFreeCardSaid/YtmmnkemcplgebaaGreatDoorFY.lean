/-
  Trees: the walks (may a tree be?).
  Trees: the walks (is a tree more than is asked of here? where one can stop).
-/
import Derived.Test.YtmmnkemcplgebaaGreatDoorFX
section
set_option linter.unusedSimpArgs false
set_option linter.unusedVariables false
set_option maxRecDepth 100000
namespace Go.Proofs.YtmmnkemcplgebaaGreatDoor
open Go.Abs
theorem bldWk {nx tx : AV} {xs ys : List AV} (h1 : IsV 7 nx xs) (h2 : IsV 2 tx ys) (S : St) : buildA E 62 [(0, .agg [nx, tx])] S = some (.agg [nx, tx, .sc (.int .i64 0)], S) := by
  rcases h1 with ⟨rfl, _⟩ | ⟨i, rfl⟩ <;> rcases h2 with ⟨rfl, _⟩ | ⟨j, rfl⟩ <;> kernel_rfl
theorem kids_sub {ns : List NodeV} {ds : List DeclV} {d : Nat} (ih : ∀ p a z, walkF ns ds d p a = some z → ∀ i, a ≤ i → i < z → ∃ d' p' z', d' ≤ d ∧ walkF ns ds d' p' i = some z') (pat m : Bool) : ∀ (l : List Int) (j nx z : Nat), kidsW (walkF ns ds d) pat m l j nx = some z → ∀ i, nx ≤ i → i < z → ∃ d' p' z', d' ≤ d ∧ walkF ns ds d' p' i = some z'
  | [], j, nx, z, h, i, h1, h2 => by
    simp only [kidsW, Option.some.injEq] at h
    omega
  | k :: r, j, nx, z, h, i, h1, h2 => by
    unfold kidsW at h
    cases hb : (k == ((nx : Nat) : Int)) with
    | false => rw [hb] at h; cases h
    | true =>
      rw [hb, cond_true] at h
      cases hq : walkF ns ds d (pat || (m && armF ((j : Nat) : Int))) nx with
      | none => rw [hq] at h; cases h
      | some z1 =>
        rw [hq] at h
        by_cases hi : i < z1
        · exact ih _ _ _ hq i h1 hi
        · exact kids_sub ih pat m r (j + 1) z1 z h i (by omega) h2
theorem walk_sub (ns : List NodeV) (ds : List DeclV) : ∀ (d : Nat) (pat : Bool) (a z : Nat), walkF ns ds d pat a = some z → ∀ i, a ≤ i → i < z → ∃ d' p' z', d' ≤ d ∧ walkF ns ds d' p' i = some z'
  | 0, pat, a, z, h, i, h1, h2 => by cases h
  | d + 1, pat, a, z, h, i, h1, h2 => by
    by_cases hi : i = a
    · subst hi
      exact ⟨d + 1, pat, z, Nat.le_refl _, h⟩
    · unfold walkF at h
      cases hx : ns[a]? with
      | none => rw [hx] at h; cases h
      | some x =>
        rw [hx] at h
        simp only [cond_eq_ite] at h
        split at h
        · cases h
        · obtain ⟨d', p', z', k1, k2⟩ := kids_sub (walk_sub ns ds d) pat (x.kind == 11) x.kids 0 (a + 1) z h i (by omega) h2
          exact ⟨d', p', z', by omega, k2⟩
set_option maxHeartbeats 32000000 in
theorem good_ans (t : TreeV) (nx tx : AV) (ht : TreeIs nx tx t) : Ans E 9 [.agg [nx, tx]] (.sc (.bool (goodF t))) := ans_of fun S hS => by
  refine ev9 rfl ?_
  have hG := (Grow.refl hS nilV).born 25 [nx, tx]
  have hT : (S.born 25 [nx, tx]).obj S.no = some [nx, tx] := by simp [born_obj]
  have hn : S.no < (S.born 25 [nx, tx]).no := Nat.lt_succ_self _
  simp only [SXa, reduceCtorEq, Nat.reduceEqDiff, Nat.reduceAdd, Nat.reduceSub, Nat.reduceMul, Nat.reduceBEq, Int.reduceLT, Int.reduceLE, Int.reduceToNat, Int.reduceBEq, Int.reduceBNe, reduceIte, load3, load22, index22, len22, load23, load25, load30, store30, call27, call28, call29, call30, call31, r9_0, r9_1, r9_2, r9_3, r9_4, r9_5, r9_6, r9_7, r9_8, r9_9, r9_10, r9_11, r9_13, p9, op_box, cells_agg]
  generalize S.born 25 [nx, tx] = S0 at hG hT hn
  simp only [SXa, reduceCtorEq, Nat.reduceEqDiff, Nat.reduceAdd, Nat.reduceSub, Nat.reduceMul, Nat.reduceBEq, Int.reduceLT, Int.reduceLE, Int.reduceToNat, Int.reduceBEq, Int.reduceBNe, reduceIte, load3, load22, index22, len22, load23, load25, load30, store30, call27, call28, call29, call30, call31, r9_0, r9_1, r9_2, r9_3, r9_4, r9_5, r9_6, r9_7, r9_8, r9_9, r9_10, r9_11, r9_13, p9, load_pb, hT, fldT0, fld_p, Option.bind_some, Nat.add_zero, Nat.zero_add, lenN ht.nodes]
  cases c1 : decide ((t.nodes.length : Int) < 1) with
  | true =>
    have c1' : decide (1 ≤ t.nodes.length) = false := by simp only [decide_eq_true_eq, decide_eq_false_iff_not] at c1 ⊢; omega
    simp only [SXa, reduceCtorEq, Nat.reduceEqDiff, Nat.reduceAdd, Nat.reduceSub, Nat.reduceMul, Nat.reduceBEq, Int.reduceLT, Int.reduceLE, Int.reduceToNat, Int.reduceBEq, Int.reduceBNe, reduceIte, load3, load22, index22, len22, load23, load25, load30, store30, call27, call28, call29, call30, call31, r9_0, r9_1, r9_2, r9_3, r9_4, r9_5, r9_6, r9_7, r9_8, r9_9, r9_10, r9_11, r9_13, p9]
    exact ⟨by simp only [goodF, c1', Bool.false_and], hG⟩
  | false =>
  have c1' : decide (1 ≤ t.nodes.length) = true := by simp only [decide_eq_true_eq, decide_eq_false_iff_not] at c1 ⊢; omega
  simp only [SXa, reduceCtorEq, Nat.reduceEqDiff, Nat.reduceAdd, Nat.reduceSub, Nat.reduceMul, Nat.reduceBEq, Int.reduceLT, Int.reduceLE, Int.reduceToNat, Int.reduceBEq, Int.reduceBNe, reduceIte, load3, load22, index22, len22, load23, load25, load30, store30, call27, call28, call29, call30, call31, r9_0, r9_1, r9_2, r9_3, r9_4, r9_5, r9_6, r9_7, r9_8, r9_9, r9_10, r9_11, r9_13, p9, load_pb, hT, fldT0, fld_p, Option.bind_some, Nat.add_zero, Nat.zero_add, lenN ht.nodes]
  cases c2 : decide ((1000 : Int) < (t.nodes.length : Int)) with
  | true =>
    have c2' : decide (t.nodes.length ≤ 1000) = false := by simp only [decide_eq_true_eq, decide_eq_false_iff_not] at c2 ⊢; omega
    simp only [SXa, reduceCtorEq, Nat.reduceEqDiff, Nat.reduceAdd, Nat.reduceSub, Nat.reduceMul, Nat.reduceBEq, Int.reduceLT, Int.reduceLE, Int.reduceToNat, Int.reduceBEq, Int.reduceBNe, reduceIte, load3, load22, index22, len22, load23, load25, load30, store30, call27, call28, call29, call30, call31, r9_0, r9_1, r9_2, r9_3, r9_4, r9_5, r9_6, r9_7, r9_8, r9_9, r9_10, r9_11, r9_13, p9]
    exact ⟨by simp only [goodF, c2', Bool.and_false, Bool.false_and], hG⟩
  | false =>
  have c2n : t.nodes.length ≤ 1000 := by simp only [decide_eq_false_iff_not] at c2; omega
  have c2' : decide (t.nodes.length ≤ 1000) = true := decide_eq_true c2n
  simp only [SXa, reduceCtorEq, Nat.reduceEqDiff, Nat.reduceAdd, Nat.reduceSub, Nat.reduceMul, Nat.reduceBEq, Int.reduceLT, Int.reduceLE, Int.reduceToNat, Int.reduceBEq, Int.reduceBNe, reduceIte, load3, load22, index22, len22, load23, load25, load30, store30, call27, call28, call29, call30, call31, r9_0, r9_1, r9_2, r9_3, r9_4, r9_5, r9_6, r9_7, r9_8, r9_9, r9_10, r9_11, r9_13, p9, load_pb, hT, fldT1, fld_p, Option.bind_some, Nat.add_zero, Nat.zero_add]
  refine callK_ans (decls_ans t.types tx ht.types ht.lt ht.lc) hG (fun S1 g1 hG1 => ?_)
  have hT1 := g1.objs hT hn
  have hn1 := Nat.lt_of_lt_of_le hn g1.no
  cases c3 : declsF t.types with
  | false =>
    simp only [SXa, reduceCtorEq, Nat.reduceEqDiff, Nat.reduceAdd, Nat.reduceSub, Nat.reduceMul, Nat.reduceBEq, Int.reduceLT, Int.reduceLE, Int.reduceToNat, Int.reduceBEq, Int.reduceBNe, reduceIte, load3, load22, index22, len22, load23, load25, load30, store30, call27, call28, call29, call30, call31, r9_0, r9_1, r9_2, r9_3, r9_4, r9_5, r9_6, r9_7, r9_8, r9_9, r9_10, r9_11, r9_13, p9]
    exact ⟨by simp only [goodF, c3, Bool.and_false, Bool.false_and], hG1⟩
  | true =>
  have eg : goodF t = ((match walkF t.nodes t.types 60 false 0 with | some z => ((z : Int) == (t.nodes.length : Int)) | none => false) && patsOk t.nodes t.nodes.length 0) := by
    simp only [goodF, c1', c2', c3, Bool.true_and]
    rfl
  have hGw := hG1.born 62 [nx, tx, .sc (.int .i64 0)]
  have hW : (S1.born 62 [nx, tx, .sc (.int .i64 0)]).obj S1.no = some [nx, tx, .sc (.int .i64 ((0 : Nat) : Int))] := by simp [born_obj]
  have hTw : (S1.born 62 [nx, tx, .sc (.int .i64 0)]).obj S.no = some [nx, tx] := by
    have : S.no ≠ S1.no := by omega
    simp [born_obj, this, hT1]
  have nw : S1.no < (S1.born 62 [nx, tx, .sc (.int .i64 0)]).no := Nat.lt_succ_self _
  simp only [SXa, reduceCtorEq, Nat.reduceEqDiff, Nat.reduceAdd, Nat.reduceSub, Nat.reduceMul, Nat.reduceBEq, Int.reduceLT, Int.reduceLE, Int.reduceToNat, Int.reduceBEq, Int.reduceBNe, reduceIte, load3, load22, index22, len22, load23, load25, load30, store30, call27, call28, call29, call30, call31, r9_0, r9_1, r9_2, r9_3, r9_4, r9_5, r9_6, r9_7, r9_8, r9_9, r9_10, r9_11, r9_13, p9, load_pb, hT1, Option.bind_some, Nat.zero_add, Nat.le_refl, op_build, bldWk ht.nodes ht.types, op_box, cells_agg]
  generalize S1.born 62 [nx, tx, .sc (.int .i64 0)] = S2 at hGw hW hTw nw
  have gr := Grow.raise hGw.fresh 13 nilV
  have hG3 := hGw.two gr
  have hW3 := gr.objs hW nw
  have hT3 := gr.objs hTw (by omega)
  have n3 := Nat.lt_of_lt_of_le nw gr.no
  generalize S2.raise 13 = S3 at gr hG3 hW3 hT3 n3
  obtain ⟨r4, S4, e4, w4, g4⟩ := walk_ok t nx tx ht 60 (Nat.le_refl _) false 0 (by omega) S3 S1.no hG3.fresh n3 hW3
  have hG4 := hG3.but g4 (by have := hG1.no; omega)
  have hT4 := g4.objs hT3 (by omega) (by omega)
  have n4 : S.no < S4.no := by have := g4.no; omega
  have e4 : EvA E 28 [.ptr S1.no 0, .sc (.bool false), .sc (.int .i64 0)] S3 r4 S4 := e4
  refine callK_of e4 ?_
  rw [eg]
  cases hw : walkF t.nodes t.types 60 false 0 with
  | none =>
    rw [hw] at w4
    simp only [Walked] at w4
    subst w4
    simp only [SXa, reduceCtorEq, Nat.reduceEqDiff, Nat.reduceAdd, Nat.reduceSub, Nat.reduceMul, Nat.reduceBEq, Int.reduceLT, Int.reduceLE, Int.reduceToNat, Int.reduceBEq, Int.reduceBNe, reduceIte, load3, load22, index22, len22, load23, load25, load30, store30, call27, call28, call29, call30, call31, r9_0, r9_1, r9_2, r9_3, r9_4, r9_5, r9_6, r9_7, r9_8, r9_9, r9_10, r9_11, r9_13, p9]
    exact ⟨by first | rfl | simp, hG4⟩
  | some z =>
  rw [hw] at w4
  obtain ⟨rfl, hz4⟩ := w4
  simp only [SXa, reduceCtorEq, Nat.reduceEqDiff, Nat.reduceAdd, Nat.reduceSub, Nat.reduceMul, Nat.reduceBEq, Int.reduceLT, Int.reduceLE, Int.reduceToNat, Int.reduceBEq, Int.reduceBNe, reduceIte, load3, load22, index22, len22, load23, load25, load30, store30, call27, call28, call29, call30, call31, r9_0, r9_1, r9_2, r9_3, r9_4, r9_5, r9_6, r9_7, r9_8, r9_9, r9_10, r9_11, r9_13, p9, op_nilCheck, chk_p, fldW_1, fldT0, fld_p, load_pb, hz4, hT4, Option.bind_some, Nat.add_zero, Nat.zero_add, lenN ht.nodes]
  cases c5 : ((z : Int) == (t.nodes.length : Int)) with
  | false =>
    have c5' : ((z : Int) != (t.nodes.length : Int)) = true := by rw [bne, c5]; rfl
    simp only [SXa, reduceCtorEq, Nat.reduceEqDiff, Nat.reduceAdd, Nat.reduceSub, Nat.reduceMul, Nat.reduceBEq, Int.reduceLT, Int.reduceLE, Int.reduceToNat, Int.reduceBEq, Int.reduceBNe, reduceIte, load3, load22, index22, len22, load23, load25, load30, store30, call27, call28, call29, call30, call31, r9_0, r9_1, r9_2, r9_3, r9_4, r9_5, r9_6, r9_7, r9_8, r9_9, r9_10, r9_11, r9_13, p9, c5']
    exact ⟨by first | rfl | simp, hG4⟩
  | true =>
  have c5' : ((z : Int) != (t.nodes.length : Int)) = false := by rw [bne, c5]; rfl
  have hz : z = t.nodes.length := by have : (z : Int) = (t.nodes.length : Int) := by simpa using c5
                                     omega
  simp only [SXa, reduceCtorEq, Nat.reduceEqDiff, Nat.reduceAdd, Nat.reduceSub, Nat.reduceMul, Nat.reduceBEq, Int.reduceLT, Int.reduceLE, Int.reduceToNat, Int.reduceBEq, Int.reduceBNe, reduceIte, load3, load22, index22, len22, load23, load25, load30, store30, call27, call28, call29, call30, call31, r9_0, r9_1, r9_2, r9_3, r9_4, r9_5, r9_6, r9_7, r9_8, r9_9, r9_10, r9_11, r9_13, p9, c5', load_pb, hT4, fldT0, fld_p, Option.bind_some, Nat.add_zero, Nat.zero_add, lenN ht.nodes]
  rw [Bool.true_and]
  refine e_loop (fun tm S' N => ∃ k : Nat, k ≤ t.nodes.length ∧ N = t.nodes.length - k ∧ patsOk t.nodes (t.nodes.length - k) k = patsOk t.nodes t.nodes.length 0 ∧ S'.obj S.no = some [nx, tx] ∧ Grow S S' nilV ∧ S.no < S'.no ∧ getT tm 1 = .ptr S.no 0 ∧ getT tm 39 = nx ∧ getT tm 40 = .sc (.int .i64 (t.nodes.length : Nat)) ∧ getT tm 41 = .sc (.int .i64 (k : Int))) t.nodes.length
    ⟨0, by omega, by omega, rfl, hT4, hG4, n4, by simp [getT_setD]⟩ ?_
  rintro tm S5 N ⟨k, hk, rfl, hp, hT5, hG5, n5, t1, t39, t40, t41⟩
  by_cases hlt : k < t.nodes.length
  case neg =>
    have hke : k = t.nodes.length := by omega
    rw [hke, Nat.sub_self, patsOk] at hp
    simp only [SXa, reduceCtorEq, Nat.reduceEqDiff, Nat.reduceAdd, Nat.reduceSub, Nat.reduceMul, Nat.reduceBEq, Int.reduceLT, Int.reduceLE, Int.reduceToNat, Int.reduceBEq, Int.reduceBNe, reduceIte, load3, load22, index22, len22, load23, load25, load30, store30, call27, call28, call29, call30, call31, b9_12, r9_0, r9_1, r9_2, r9_3, r9_4, r9_5, r9_6, r9_7, r9_8, r9_9, r9_10, r9_11, r9_13, p9, t1, t39, t40, t41, dec_nlt hlt]
    exact ⟨by rw [← hp], hG5⟩
  case pos =>
  have wk := wrapK hlt (by omega)
  have hx : t.nodes[k]? = some t.nodes[k] := List.getElem?_eq_getElem hlt
  have hpk : patsOk t.nodes (t.nodes.length - k) k = bif patF t.nodes[k].kind && twiceF [] (bindsF t.nodes 60 k) then false else patsOk t.nodes (t.nodes.length - (k + 1)) (k + 1) := by
    have : t.nodes.length - k = (t.nodes.length - (k + 1)) + 1 := by omega
    rw [this, patsOk, badP, hx]
  rw [hpk] at hp
  have hG6 := (hG5.born 30 zN).put S5.no (.cells (nodeA t.nodes[k])) hG5.no
  have hN6 : ((S5.born 30 zN).put S5.no (.cells (nodeA t.nodes[k]))).obj S5.no = some (nodeA t.nodes[k]) := by simp [put_obj]
  have hT6 : ((S5.born 30 zN).put S5.no (.cells (nodeA t.nodes[k]))).obj S.no = some [nx, tx] := by
    have : S.no ≠ S5.no := by omega
    simp [put_obj, born_obj, this, hT5]
  have n6 : S.no < ((S5.born 30 zN).put S5.no (.cells (nodeA t.nodes[k]))).no := Nat.lt_succ_of_lt n5
  simp only [SXa, reduceCtorEq, Nat.reduceEqDiff, Nat.reduceAdd, Nat.reduceSub, Nat.reduceMul, Nat.reduceBEq, Int.reduceLT, Int.reduceLE, Int.reduceToNat, Int.reduceBEq, Int.reduceBNe, reduceIte, load3, load22, index22, len22, load23, load25, load30, store30, call27, call28, call29, call30, call31, b9_12, r9_0, r9_1, r9_2, r9_3, r9_4, r9_5, r9_6, r9_7, r9_8, r9_9, r9_10, r9_11, r9_13, p9, t1, t39, t40, t41, dec_lt hlt, idxN ht.nodes hlt, nodeA_len, nodeA_take, allocN, stN, born_obj, Option.bind_some, Nat.zero_add, zN_len, zN_drop, List.append_nil, Nat.le_refl]
  generalize (S5.born 30 zN).put S5.no (.cells (nodeA t.nodes[k])) = S6 at hG6 hN6 hT6 n6
  simp only [nodeA] at hN6
  simp only [SXa, reduceCtorEq, Nat.reduceEqDiff, Nat.reduceAdd, Nat.reduceSub, Nat.reduceMul, Nat.reduceBEq, Int.reduceLT, Int.reduceLE, Int.reduceToNat, Int.reduceBEq, Int.reduceBNe, reduceIte, load3, load22, index22, len22, load23, load25, load30, store30, call27, call28, call29, call30, call31, r9_0, r9_1, r9_2, r9_3, r9_4, r9_5, r9_6, r9_7, r9_8, r9_9, r9_10, r9_11, r9_13, p9, t1, t39, t40, t41, load_pb, hN6, fldN, fld_p, Option.bind_some, Nat.add_zero, Nat.zero_add]
  refine callK_ans (pat_ans _) hG6 (fun S7 g7 hG7 => ?_)
  have hT7 := g7.objs hT6 n6
  have n7 := Nat.lt_of_lt_of_le n6 g7.no
  cases c7 : patF t.nodes[k].kind with
  | false =>
    rw [c7, Bool.false_and, cond_false] at hp
    simp only [SXa, reduceCtorEq, Nat.reduceEqDiff, Nat.reduceAdd, Nat.reduceSub, Nat.reduceMul, Nat.reduceBEq, Int.reduceLT, Int.reduceLE, Int.reduceToNat, Int.reduceBEq, Int.reduceBNe, reduceIte, load3, load22, index22, len22, load23, load25, load30, store30, call27, call28, call29, call30, call31, r9_0, r9_1, r9_2, r9_3, r9_4, r9_5, r9_6, r9_7, r9_8, r9_9, r9_10, r9_11, r9_13, p9, t1, t39, t40, t41, wk]
    exact ⟨t.nodes.length - (k + 1), by omega, k + 1, by omega, rfl, hp, hT7, hG7, n7, by simp [t1, t39, t40]⟩
  | true =>
  rw [c7, Bool.true_and] at hp
  obtain ⟨d', p', z', hd', hw'⟩ := walk_sub _ _ _ _ _ _ hw k (by omega) (by omega)
  obtain ⟨r8, S8, e8, ⟨hX, _⟩, g8⟩ := binds_ok t nx tx ht d' 60 hd' p' k z' hw' S7 hG7.fresh
  have hlb := binds_len _ _ d' 60 hd' _ _ _ hw'
  have hzb := (walk_bd _ _ _ _ _ _ hw').2
  have hT8 := g8.objs hT7 n7
  have n8 := Nat.lt_of_lt_of_le n7 g8.no
  simp only [SXa, reduceCtorEq, Nat.reduceEqDiff, Nat.reduceAdd, Nat.reduceSub, Nat.reduceMul, Nat.reduceBEq, Int.reduceLT, Int.reduceLE, Int.reduceToNat, Int.reduceBEq, Int.reduceBNe, reduceIte, load3, load22, index22, len22, load23, load25, load30, store30, call27, call28, call29, call30, call31, r9_0, r9_1, r9_2, r9_3, r9_4, r9_5, r9_6, r9_7, r9_8, r9_9, r9_10, r9_11, r9_13, p9, t1, t39, t40, t41, load_pb, hT7, Option.bind_some, Nat.zero_add, Nat.le_refl]
  refine callK_of e8 ?_
  simp only [SXa, reduceCtorEq, Nat.reduceEqDiff, Nat.reduceAdd, Nat.reduceSub, Nat.reduceMul, Nat.reduceBEq, Int.reduceLT, Int.reduceLE, Int.reduceToNat, Int.reduceBEq, Int.reduceBNe, reduceIte, load3, load22, index22, len22, load23, load25, load30, store30, call27, call28, call29, call30, call31, r9_0, r9_1, r9_2, r9_3, r9_4, r9_5, r9_6, r9_7, r9_8, r9_9, r9_10, r9_11, r9_13, p9, t1, t39, t40, t41]
  refine callK_ans (twice_ans _ r8 hX.is (by omega)) (hG7.two g8) (fun S9 g9 hG9 => ?_)
  have hT9 := g9.objs hT8 n8
  have n9 := Nat.lt_of_lt_of_le n8 g9.no
  cases c8 : twiceF [] (bindsF t.nodes 60 k) with
  | true =>
    rw [c8, cond_true] at hp
    simp only [SXa, reduceCtorEq, Nat.reduceEqDiff, Nat.reduceAdd, Nat.reduceSub, Nat.reduceMul, Nat.reduceBEq, Int.reduceLT, Int.reduceLE, Int.reduceToNat, Int.reduceBEq, Int.reduceBNe, reduceIte, load3, load22, index22, len22, load23, load25, load30, store30, call27, call28, call29, call30, call31, r9_0, r9_1, r9_2, r9_3, r9_4, r9_5, r9_6, r9_7, r9_8, r9_9, r9_10, r9_11, r9_13, p9]
    exact ⟨by rw [← hp], hG9⟩
  | false =>
    rw [c8, cond_false] at hp
    simp only [SXa, reduceCtorEq, Nat.reduceEqDiff, Nat.reduceAdd, Nat.reduceSub, Nat.reduceMul, Nat.reduceBEq, Int.reduceLT, Int.reduceLE, Int.reduceToNat, Int.reduceBEq, Int.reduceBNe, reduceIte, load3, load22, index22, len22, load23, load25, load30, store30, call27, call28, call29, call30, call31, r9_0, r9_1, r9_2, r9_3, r9_4, r9_5, r9_6, r9_7, r9_8, r9_9, r9_10, r9_11, r9_13, p9, t1, t39, t40, t41, wk]
    exact ⟨t.nodes.length - (k + 1), by omega, k + 1, by omega, rfl, hp, hT9, hG9, n9, by simp [t1, t39, t40]⟩
end Go.Proofs.YtmmnkemcplgebaaGreatDoor
end

section
set_option linter.unusedSimpArgs false
set_option linter.unusedVariables false
set_option maxRecDepth 100000
namespace Go.Proofs.YtmmnkemcplgebaaGreatDoor
open Go.Abs
/-- A tree by value, of any size. -/
structure RawIs (nx tx : AV) (t : TreeV) : Prop where
  nodes : IsV 7 nx (nodesA t.nodes)
  types : IsV 2 tx (typesA t.types)
theorem RawIs.light {nx tx : AV} {t : TreeV} (h : RawIs nx tx t) (hl : Light t) : TreeIs nx tx t :=
  ⟨h.nodes, h.types, by have := hl.ln; omega, by have := hl.lt; omega, fun x hx => by have := (hl.ln2 x hx).2.2; omega, fun d hd => by have := (hl.lt2 d hd).1; omega⟩
theorem idxS1 {c : ConV} {k : Nat} (hk : k < c.args.length) (S : St) : idxV 1 (argsA c) (some (k : Int)) S = some (.eptr [.sc (.string c.args[k])] 0, S) := idxT (isAr c) hk S
set_option maxHeartbeats 64000000 in
theorem heavy_ok (t : TreeV) (nx tx : AV) (ht : RawIs nx tx t) (S : St) (hS : S.Fresh) : ∃ r S', EvA E 8 [.agg [nx, tx]] S r S' ∧ (∃ b, r = .sc (.bool b) ∧ (b = false → Light t)) ∧ Grow S S' nilV := by
  refine ev8 rfl ?_
  have hG := (Grow.refl hS nilV).born 25 [nx, tx]
  have hT : (S.born 25 [nx, tx]).obj S.no = some [nx, tx] := by simp [born_obj]
  have hn : S.no < (S.born 25 [nx, tx]).no := Nat.lt_succ_self _
  simp only [SXa, reduceCtorEq, Nat.reduceEqDiff, Nat.reduceAdd, Nat.reduceSub, Nat.reduceMul, Nat.reduceBEq, Int.reduceLT, Int.reduceLE, Int.reduceToNat, Int.reduceBEq, Int.reduceBNe, reduceIte, load9, load22, index22, len22, load23, index23, len23, load28, len28, load31, index31, len31, load54, index54, len54, load58, store58, r8_0, r8_1, r8_2, r8_3, r8_4, r8_5, r8_6, r8_7, r8_9, r8_10, r8_11, r8_12, r8_13, r8_14, r8_15, r8_16, r8_17, r8_18, r8_19, r8_20, r8_21, r8_22, r8_24, r8_26, r8_28, p8, op_box, cells_agg]
  generalize S.born 25 [nx, tx] = S0 at hG hT hn
  simp only [SXa, reduceCtorEq, Nat.reduceEqDiff, Nat.reduceAdd, Nat.reduceSub, Nat.reduceMul, Nat.reduceBEq, Int.reduceLT, Int.reduceLE, Int.reduceToNat, Int.reduceBEq, Int.reduceBNe, reduceIte, load9, load22, index22, len22, load23, index23, len23, load28, len28, load31, index31, len31, load54, index54, len54, load58, store58, r8_0, r8_1, r8_2, r8_3, r8_4, r8_5, r8_6, r8_7, r8_9, r8_10, r8_11, r8_12, r8_13, r8_14, r8_15, r8_16, r8_17, r8_18, r8_19, r8_20, r8_21, r8_22, r8_24, r8_26, r8_28, p8, load_pb, hT, fldT0, fld_p, Option.bind_some, Nat.add_zero, Nat.zero_add, lenN ht.nodes]
  cases c1 : decide ((60 : Int) < (t.nodes.length : Int)) with
  | true =>
    simp only [SXa, reduceCtorEq, Nat.reduceEqDiff, Nat.reduceAdd, Nat.reduceSub, Nat.reduceMul, Nat.reduceBEq, Int.reduceLT, Int.reduceLE, Int.reduceToNat, Int.reduceBEq, Int.reduceBNe, reduceIte, load9, load22, index22, len22, load23, index23, len23, load28, len28, load31, index31, len31, load54, index54, len54, load58, store58, r8_0, r8_1, r8_2, r8_3, r8_4, r8_5, r8_6, r8_7, r8_9, r8_10, r8_11, r8_12, r8_13, r8_14, r8_15, r8_16, r8_17, r8_18, r8_19, r8_20, r8_21, r8_22, r8_24, r8_26, r8_28, p8]
    exact ⟨⟨true, rfl, fun h => by cases h⟩, hG⟩
  | false =>
  have c1n : t.nodes.length ≤ 60 := by simp only [decide_eq_false_iff_not] at c1; omega
  simp only [SXa, reduceCtorEq, Nat.reduceEqDiff, Nat.reduceAdd, Nat.reduceSub, Nat.reduceMul, Nat.reduceBEq, Int.reduceLT, Int.reduceLE, Int.reduceToNat, Int.reduceBEq, Int.reduceBNe, reduceIte, load9, load22, index22, len22, load23, index23, len23, load28, len28, load31, index31, len31, load54, index54, len54, load58, store58, r8_0, r8_1, r8_2, r8_3, r8_4, r8_5, r8_6, r8_7, r8_9, r8_10, r8_11, r8_12, r8_13, r8_14, r8_15, r8_16, r8_17, r8_18, r8_19, r8_20, r8_21, r8_22, r8_24, r8_26, r8_28, p8, load_pb, hT, fldT1, fld_p, Option.bind_some, Nat.add_zero, Nat.zero_add, lenD ht.types]
  cases c2 : decide ((4 : Int) < (t.types.length : Int)) with
  | true =>
    simp only [SXa, reduceCtorEq, Nat.reduceEqDiff, Nat.reduceAdd, Nat.reduceSub, Nat.reduceMul, Nat.reduceBEq, Int.reduceLT, Int.reduceLE, Int.reduceToNat, Int.reduceBEq, Int.reduceBNe, reduceIte, load9, load22, index22, len22, load23, index23, len23, load28, len28, load31, index31, len31, load54, index54, len54, load58, store58, r8_0, r8_1, r8_2, r8_3, r8_4, r8_5, r8_6, r8_7, r8_9, r8_10, r8_11, r8_12, r8_13, r8_14, r8_15, r8_16, r8_17, r8_18, r8_19, r8_20, r8_21, r8_22, r8_24, r8_26, r8_28, p8]
    exact ⟨⟨true, rfl, fun h => by cases h⟩, hG⟩
  | false =>
  have c2n : t.types.length ≤ 4 := by simp only [decide_eq_false_iff_not] at c2; omega
  simp only [SXa, reduceCtorEq, Nat.reduceEqDiff, Nat.reduceAdd, Nat.reduceSub, Nat.reduceMul, Nat.reduceBEq, Int.reduceLT, Int.reduceLE, Int.reduceToNat, Int.reduceBEq, Int.reduceBNe, reduceIte, load9, load22, index22, len22, load23, index23, len23, load28, len28, load31, index31, len31, load54, index54, len54, load58, store58, r8_0, r8_1, r8_2, r8_3, r8_4, r8_5, r8_6, r8_7, r8_9, r8_10, r8_11, r8_12, r8_13, r8_14, r8_15, r8_16, r8_17, r8_18, r8_19, r8_20, r8_21, r8_22, r8_24, r8_26, r8_28, p8]
  refine e_loop (fun tm S' N => ∃ k : Nat, k ≤ t.nodes.length ∧ N = t.nodes.length - k ∧ (∀ j (h : j < t.nodes.length), j < k → t.nodes[j].name.size ≤ 60 ∧ t.nodes[j].param.size ≤ 60 ∧ t.nodes[j].kids.length ≤ 20) ∧ S' = S0 ∧ getT tm 1 = .ptr S.no 0 ∧ getT tm 3 = .sc (.int .i64 (k : Int))) t.nodes.length
    ⟨0, by omega, by omega, fun j _ h => by omega, rfl, by simp [getT_setD]⟩ ?_
  rintro tm S1 N ⟨k, hk, rfl, hP, rfl, t1, t3⟩
  by_cases hlt : k < t.nodes.length
  case pos =>
    have wk := wrapK hlt (by omega)
    simp only [SXa, reduceCtorEq, Nat.reduceEqDiff, Nat.reduceAdd, Nat.reduceSub, Nat.reduceMul, Nat.reduceBEq, Int.reduceLT, Int.reduceLE, Int.reduceToNat, Int.reduceBEq, Int.reduceBNe, reduceIte, load9, load22, index22, len22, load23, index23, len23, load28, len28, load31, index31, len31, load54, index54, len54, load58, store58, b8_8, r8_0, r8_1, r8_2, r8_3, r8_4, r8_5, r8_6, r8_7, r8_9, r8_10, r8_11, r8_12, r8_13, r8_14, r8_15, r8_16, r8_17, r8_18, r8_19, r8_20, r8_21, r8_22, r8_24, r8_26, r8_28, p8, t1, t3, load_pb, hT, fldT0, fldN, fld_p, fld_e, Option.bind_some, Nat.add_zero, Nat.zero_add, lenN ht.nodes, dec_lt hlt, idxN ht.nodes hlt, nodeA, opLen9, len9s]
    cases d1 : decide ((60 : Int) < (t.nodes[k].name.size : Int)) with
    | true =>
      simp only [SXa, reduceCtorEq, Nat.reduceEqDiff, Nat.reduceAdd, Nat.reduceSub, Nat.reduceMul, Nat.reduceBEq, Int.reduceLT, Int.reduceLE, Int.reduceToNat, Int.reduceBEq, Int.reduceBNe, reduceIte, load9, load22, index22, len22, load23, index23, len23, load28, len28, load31, index31, len31, load54, index54, len54, load58, store58, r8_0, r8_1, r8_2, r8_3, r8_4, r8_5, r8_6, r8_7, r8_9, r8_10, r8_11, r8_12, r8_13, r8_14, r8_15, r8_16, r8_17, r8_18, r8_19, r8_20, r8_21, r8_22, r8_24, r8_26, r8_28, p8]
      exact ⟨⟨true, rfl, fun h => by cases h⟩, hG⟩
    | false =>
    simp only [SXa, reduceCtorEq, Nat.reduceEqDiff, Nat.reduceAdd, Nat.reduceSub, Nat.reduceMul, Nat.reduceBEq, Int.reduceLT, Int.reduceLE, Int.reduceToNat, Int.reduceBEq, Int.reduceBNe, reduceIte, load9, load22, index22, len22, load23, index23, len23, load28, len28, load31, index31, len31, load54, index54, len54, load58, store58, r8_0, r8_1, r8_2, r8_3, r8_4, r8_5, r8_6, r8_7, r8_9, r8_10, r8_11, r8_12, r8_13, r8_14, r8_15, r8_16, r8_17, r8_18, r8_19, r8_20, r8_21, r8_22, r8_24, r8_26, r8_28, p8, t1, t3, load_pb, hT, fldT0, fldN, fld_p, fld_e, Option.bind_some, Nat.add_zero, Nat.zero_add, idxN ht.nodes hlt, nodeA, opLen9, len9s]
    cases d2 : decide ((60 : Int) < (t.nodes[k].param.size : Int)) with
    | true =>
      simp only [SXa, reduceCtorEq, Nat.reduceEqDiff, Nat.reduceAdd, Nat.reduceSub, Nat.reduceMul, Nat.reduceBEq, Int.reduceLT, Int.reduceLE, Int.reduceToNat, Int.reduceBEq, Int.reduceBNe, reduceIte, load9, load22, index22, len22, load23, index23, len23, load28, len28, load31, index31, len31, load54, index54, len54, load58, store58, r8_0, r8_1, r8_2, r8_3, r8_4, r8_5, r8_6, r8_7, r8_9, r8_10, r8_11, r8_12, r8_13, r8_14, r8_15, r8_16, r8_17, r8_18, r8_19, r8_20, r8_21, r8_22, r8_24, r8_26, r8_28, p8]
      exact ⟨⟨true, rfl, fun h => by cases h⟩, hG⟩
    | false =>
    simp only [SXa, reduceCtorEq, Nat.reduceEqDiff, Nat.reduceAdd, Nat.reduceSub, Nat.reduceMul, Nat.reduceBEq, Int.reduceLT, Int.reduceLE, Int.reduceToNat, Int.reduceBEq, Int.reduceBNe, reduceIte, load9, load22, index22, len22, load23, index23, len23, load28, len28, load31, index31, len31, load54, index54, len54, load58, store58, r8_0, r8_1, r8_2, r8_3, r8_4, r8_5, r8_6, r8_7, r8_9, r8_10, r8_11, r8_12, r8_13, r8_14, r8_15, r8_16, r8_17, r8_18, r8_19, r8_20, r8_21, r8_22, r8_24, r8_26, r8_28, p8, t1, t3, load_pb, hT, fldT0, fldN, fld_p, fld_e, Option.bind_some, Nat.add_zero, Nat.zero_add, idxN ht.nodes hlt, nodeA, lenK]
    cases d3 : decide ((20 : Int) < (t.nodes[k].kids.length : Int)) with
    | true =>
      simp only [SXa, reduceCtorEq, Nat.reduceEqDiff, Nat.reduceAdd, Nat.reduceSub, Nat.reduceMul, Nat.reduceBEq, Int.reduceLT, Int.reduceLE, Int.reduceToNat, Int.reduceBEq, Int.reduceBNe, reduceIte, load9, load22, index22, len22, load23, index23, len23, load28, len28, load31, index31, len31, load54, index54, len54, load58, store58, r8_0, r8_1, r8_2, r8_3, r8_4, r8_5, r8_6, r8_7, r8_9, r8_10, r8_11, r8_12, r8_13, r8_14, r8_15, r8_16, r8_17, r8_18, r8_19, r8_20, r8_21, r8_22, r8_24, r8_26, r8_28, p8]
      exact ⟨⟨true, rfl, fun h => by cases h⟩, hG⟩
    | false =>
    simp only [decide_eq_false_iff_not] at d1 d2 d3
    simp only [SXa, reduceCtorEq, Nat.reduceEqDiff, Nat.reduceAdd, Nat.reduceSub, Nat.reduceMul, Nat.reduceBEq, Int.reduceLT, Int.reduceLE, Int.reduceToNat, Int.reduceBEq, Int.reduceBNe, reduceIte, load9, load22, index22, len22, load23, index23, len23, load28, len28, load31, index31, len31, load54, index54, len54, load58, store58, r8_0, r8_1, r8_2, r8_3, r8_4, r8_5, r8_6, r8_7, r8_9, r8_10, r8_11, r8_12, r8_13, r8_14, r8_15, r8_16, r8_17, r8_18, r8_19, r8_20, r8_21, r8_22, r8_24, r8_26, r8_28, p8, t1, t3, wk]
    refine ⟨t.nodes.length - (k + 1), by omega, k + 1, by omega, rfl, fun j hj hjk => ?_, by simp [t1]⟩
    by_cases hje : j < k
    · exact hP j hj hje
    · have : j = k := by omega
      subst this
      exact ⟨by omega, by omega, by omega⟩
  case neg =>
  have hP2 : ∀ x ∈ t.nodes, x.name.size ≤ 60 ∧ x.param.size ≤ 60 ∧ x.kids.length ≤ 20 := fun x hx => by
    obtain ⟨j, hj, rfl⟩ := List.getElem_of_mem hx
    exact hP j hj (by omega)
  simp only [SXa, reduceCtorEq, Nat.reduceEqDiff, Nat.reduceAdd, Nat.reduceSub, Nat.reduceMul, Nat.reduceBEq, Int.reduceLT, Int.reduceLE, Int.reduceToNat, Int.reduceBEq, Int.reduceBNe, reduceIte, load9, load22, index22, len22, load23, index23, len23, load28, len28, load31, index31, len31, load54, index54, len54, load58, store58, b8_8, r8_0, r8_1, r8_2, r8_3, r8_4, r8_5, r8_6, r8_7, r8_9, r8_10, r8_11, r8_12, r8_13, r8_14, r8_15, r8_16, r8_17, r8_18, r8_19, r8_20, r8_21, r8_22, r8_24, r8_26, r8_28, p8, t1, t3, load_pb, hT, fldT0, fld_p, Option.bind_some, Nat.add_zero, Nat.zero_add, lenN ht.nodes, dec_nlt hlt]
  refine e_loop (fun tm S' N => ∃ k : Nat, k ≤ t.types.length ∧ N = t.types.length - k ∧ (∀ j (h : j < t.types.length), j < k → t.types[j].cons.length ≤ 6 ∧ t.types[j].name.size ≤ 60 ∧ ∀ c ∈ t.types[j].cons, c.name.size ≤ 60 ∧ c.args.length ≤ 4 ∧ ∀ s ∈ c.args, s.size ≤ 60) ∧ S'.obj S.no = some [nx, tx] ∧ Grow S S' nilV ∧ S.no < S'.no ∧ getT tm 1 = .ptr S.no 0 ∧ getT tm 4 = .sc (.int .i64 (k : Int))) t.types.length
    ⟨0, by omega, by omega, fun j _ h => by omega, hT, hG, hn, by simp [getT_setD, t1]⟩ ?_
  clear hlt hP t1 t3
  rintro tm S1 N ⟨k, hk, rfl, hP, hT, hG, hn, t1, t4⟩
  by_cases hlt : k < t.types.length
  case neg =>
    simp only [SXa, reduceCtorEq, Nat.reduceEqDiff, Nat.reduceAdd, Nat.reduceSub, Nat.reduceMul, Nat.reduceBEq, Int.reduceLT, Int.reduceLE, Int.reduceToNat, Int.reduceBEq, Int.reduceBNe, reduceIte, load9, load22, index22, len22, load23, index23, len23, load28, len28, load31, index31, len31, load54, index54, len54, load58, store58, b8_27, r8_0, r8_1, r8_2, r8_3, r8_4, r8_5, r8_6, r8_7, r8_9, r8_10, r8_11, r8_12, r8_13, r8_14, r8_15, r8_16, r8_17, r8_18, r8_19, r8_20, r8_21, r8_22, r8_24, r8_26, r8_28, p8, t1, t4, load_pb, hT, fldT1, fld_p, Option.bind_some, Nat.add_zero, Nat.zero_add, lenD ht.types, dec_nlt hlt]
    exact ⟨⟨false, rfl, fun _ => ⟨c1n, c2n, hP2, fun d hd => by
      obtain ⟨j, hj, rfl⟩ := List.getElem_of_mem hd
      exact hP j hj (by omega)⟩⟩, hG⟩
  case pos =>
  have wk := wrapK hlt (by omega)
  simp only [SXa, reduceCtorEq, Nat.reduceEqDiff, Nat.reduceAdd, Nat.reduceSub, Nat.reduceMul, Nat.reduceBEq, Int.reduceLT, Int.reduceLE, Int.reduceToNat, Int.reduceBEq, Int.reduceBNe, reduceIte, load9, load22, index22, len22, load23, index23, len23, load28, len28, load31, index31, len31, load54, index54, len54, load58, store58, b8_27, r8_0, r8_1, r8_2, r8_3, r8_4, r8_5, r8_6, r8_7, r8_9, r8_10, r8_11, r8_12, r8_13, r8_14, r8_15, r8_16, r8_17, r8_18, r8_19, r8_20, r8_21, r8_22, r8_24, r8_26, r8_28, p8, t1, t4, load_pb, hT, fldT1, fldD1, fld_p, fld_e, Option.bind_some, Nat.add_zero, Nat.zero_add, lenD ht.types, dec_lt hlt, idxD ht.types hlt, declA, lenCv]
  cases d1 : decide ((6 : Int) < (t.types[k].cons.length : Int)) with
  | true =>
    simp only [SXa, reduceCtorEq, Nat.reduceEqDiff, Nat.reduceAdd, Nat.reduceSub, Nat.reduceMul, Nat.reduceBEq, Int.reduceLT, Int.reduceLE, Int.reduceToNat, Int.reduceBEq, Int.reduceBNe, reduceIte, load9, load22, index22, len22, load23, index23, len23, load28, len28, load31, index31, len31, load54, index54, len54, load58, store58, r8_0, r8_1, r8_2, r8_3, r8_4, r8_5, r8_6, r8_7, r8_9, r8_10, r8_11, r8_12, r8_13, r8_14, r8_15, r8_16, r8_17, r8_18, r8_19, r8_20, r8_21, r8_22, r8_24, r8_26, r8_28, p8]
    exact ⟨⟨true, rfl, fun h => by cases h⟩, hG⟩
  | false =>
  have d1n : t.types[k].cons.length ≤ 6 := by simp only [decide_eq_false_iff_not] at d1; omega
  simp only [SXa, reduceCtorEq, Nat.reduceEqDiff, Nat.reduceAdd, Nat.reduceSub, Nat.reduceMul, Nat.reduceBEq, Int.reduceLT, Int.reduceLE, Int.reduceToNat, Int.reduceBEq, Int.reduceBNe, reduceIte, load9, load22, index22, len22, load23, index23, len23, load28, len28, load31, index31, len31, load54, index54, len54, load58, store58, r8_0, r8_1, r8_2, r8_3, r8_4, r8_5, r8_6, r8_7, r8_9, r8_10, r8_11, r8_12, r8_13, r8_14, r8_15, r8_16, r8_17, r8_18, r8_19, r8_20, r8_21, r8_22, r8_24, r8_26, r8_28, p8, t1, t4, load_pb, hT, fldT1, fldD0, fld_p, fld_e, Option.bind_some, Nat.add_zero, Nat.zero_add, idxD ht.types hlt, declA, opLen9, len9s]
  cases d2 : decide ((60 : Int) < (t.types[k].name.size : Int)) with
  | true =>
    simp only [SXa, reduceCtorEq, Nat.reduceEqDiff, Nat.reduceAdd, Nat.reduceSub, Nat.reduceMul, Nat.reduceBEq, Int.reduceLT, Int.reduceLE, Int.reduceToNat, Int.reduceBEq, Int.reduceBNe, reduceIte, load9, load22, index22, len22, load23, index23, len23, load28, len28, load31, index31, len31, load54, index54, len54, load58, store58, r8_0, r8_1, r8_2, r8_3, r8_4, r8_5, r8_6, r8_7, r8_9, r8_10, r8_11, r8_12, r8_13, r8_14, r8_15, r8_16, r8_17, r8_18, r8_19, r8_20, r8_21, r8_22, r8_24, r8_26, r8_28, p8]
    exact ⟨⟨true, rfl, fun h => by cases h⟩, hG⟩
  | false =>
  have d2n : t.types[k].name.size ≤ 60 := by simp only [decide_eq_false_iff_not] at d2; omega
  simp only [SXa, reduceCtorEq, Nat.reduceEqDiff, Nat.reduceAdd, Nat.reduceSub, Nat.reduceMul, Nat.reduceBEq, Int.reduceLT, Int.reduceLE, Int.reduceToNat, Int.reduceBEq, Int.reduceBNe, reduceIte, load9, load22, index22, len22, load23, index23, len23, load28, len28, load31, index31, len31, load54, index54, len54, load58, store58, r8_0, r8_1, r8_2, r8_3, r8_4, r8_5, r8_6, r8_7, r8_9, r8_10, r8_11, r8_12, r8_13, r8_14, r8_15, r8_16, r8_17, r8_18, r8_19, r8_20, r8_21, r8_22, r8_24, r8_26, r8_28, p8, t1, t4]
  refine e_loop (fun tm S' N => ∃ i : Nat, i ≤ t.types[k].cons.length ∧ N = t.types[k].cons.length - i ∧ (∀ j (h : j < t.types[k].cons.length), j < i → t.types[k].cons[j].name.size ≤ 60 ∧ t.types[k].cons[j].args.length ≤ 4 ∧ ∀ s ∈ t.types[k].cons[j].args, s.size ≤ 60) ∧ S'.obj S.no = some [nx, tx] ∧ Grow S S' nilV ∧ S.no < S'.no ∧ getT tm 1 = .ptr S.no 0 ∧ getT tm 4 = .sc (.int .i64 (k : Int)) ∧ getT tm 5 = .sc (.int .i64 (i : Int))) t.types[k].cons.length
    ⟨0, by omega, by omega, fun j _ h => by omega, hT, hG, hn, by simp [getT_setD, t1, t4]⟩ ?_
  clear t1 t4 hT hG hn
  rintro tm S2 N ⟨i, hi, rfl, hQ, hT, hG, hn, t1, t4, t5⟩
  by_cases hit : i < t.types[k].cons.length
  case neg =>
    simp only [SXa, reduceCtorEq, Nat.reduceEqDiff, Nat.reduceAdd, Nat.reduceSub, Nat.reduceMul, Nat.reduceBEq, Int.reduceLT, Int.reduceLE, Int.reduceToNat, Int.reduceBEq, Int.reduceBNe, reduceIte, load9, load22, index22, len22, load23, index23, len23, load28, len28, load31, index31, len31, load54, index54, len54, load58, store58, b8_25, r8_0, r8_1, r8_2, r8_3, r8_4, r8_5, r8_6, r8_7, r8_9, r8_10, r8_11, r8_12, r8_13, r8_14, r8_15, r8_16, r8_17, r8_18, r8_19, r8_20, r8_21, r8_22, r8_24, r8_26, r8_28, p8, t1, t4, t5, load_pb, hT, fldT1, fldD1, fld_p, fld_e, Option.bind_some, Nat.add_zero, Nat.zero_add, idxD ht.types hlt, declA, lenCv, dec_nlt hit, wk]
    refine ⟨t.types.length - (k + 1), by omega, k + 1, by omega, rfl, fun j hj hjk => ?_, hG, hn, by simp [t1]⟩
    by_cases hje : j < k
    · exact hP j hj hje
    · have : j = k := by omega
      subst this
      exact ⟨d1n, d2n, fun c hc => by
        obtain ⟨q, hq, rfl⟩ := List.getElem_of_mem hc
        exact hQ q hq (by omega)⟩
  case pos =>
  have wi := wrapK hit (by omega)
  have hG3 := (hG.born 58 [.sc (.string ⟨#[]⟩), .sc (.slice none 0 0)]).put S2.no (.cells (conA t.types[k].cons[i])) hG.no
  have h3 : ((S2.born 58 [.sc (.string ⟨#[]⟩), .sc (.slice none 0 0)]).put S2.no (.cells (conA t.types[k].cons[i]))).obj S2.no = some (conA t.types[k].cons[i]) := by simp [put_obj]
  have hT3 : ((S2.born 58 [.sc (.string ⟨#[]⟩), .sc (.slice none 0 0)]).put S2.no (.cells (conA t.types[k].cons[i]))).obj S.no = some [nx, tx] := by
    have : S.no ≠ S2.no := by omega
    simp [put_obj, born_obj, this, hT]
  have n3 : S2.no < ((S2.born 58 [.sc (.string ⟨#[]⟩), .sc (.slice none 0 0)]).put S2.no (.cells (conA t.types[k].cons[i]))).no := Nat.lt_succ_self _
  simp only [conA] at hG3 h3 hT3 n3
  simp only [SXa, reduceCtorEq, Nat.reduceEqDiff, Nat.reduceAdd, Nat.reduceSub, Nat.reduceMul, Nat.reduceBEq, Int.reduceLT, Int.reduceLE, Int.reduceToNat, Int.reduceBEq, Int.reduceBNe, reduceIte, load9, load22, index22, len22, load23, index23, len23, load28, len28, load31, index31, len31, load54, index54, len54, load58, store58, b8_25, r8_0, r8_1, r8_2, r8_3, r8_4, r8_5, r8_6, r8_7, r8_9, r8_10, r8_11, r8_12, r8_13, r8_14, r8_15, r8_16, r8_17, r8_18, r8_19, r8_20, r8_21, r8_22, r8_24, r8_26, r8_28, p8, t1, t4, t5, load_pb, hT, fldT1, fldD1, fld_p, fld_e, Option.bind_some, Nat.add_zero, Nat.zero_add, idxD ht.types hlt, declA, lenCv, dec_lt hit, idxC hit, conA, allocC, stD, stC, born_obj, Nat.le_refl, List.drop_nil]
  generalize ((S2.born 58 [.sc (.string ⟨#[]⟩), .sc (.slice none 0 0)]).put S2.no (.cells [.sc (.string t.types[k].cons[i].name), (argsA t.types[k].cons[i])])) = S3 at hG3 h3 hT3 n3
  simp only [SXa, reduceCtorEq, Nat.reduceEqDiff, Nat.reduceAdd, Nat.reduceSub, Nat.reduceMul, Nat.reduceBEq, Int.reduceLT, Int.reduceLE, Int.reduceToNat, Int.reduceBEq, Int.reduceBNe, reduceIte, load9, load22, index22, len22, load23, index23, len23, load28, len28, load31, index31, len31, load54, index54, len54, load58, store58, r8_0, r8_1, r8_2, r8_3, r8_4, r8_5, r8_6, r8_7, r8_9, r8_10, r8_11, r8_12, r8_13, r8_14, r8_15, r8_16, r8_17, r8_18, r8_19, r8_20, r8_21, r8_22, r8_24, r8_26, r8_28, p8, t1, t4, t5, load_pb, h3, fldC0, fld_p, Option.bind_some, Nat.add_zero, Nat.zero_add, opLen9, len9s]
  cases d3 : decide ((60 : Int) < (t.types[k].cons[i].name.size : Int)) with
  | true =>
    simp only [SXa, reduceCtorEq, Nat.reduceEqDiff, Nat.reduceAdd, Nat.reduceSub, Nat.reduceMul, Nat.reduceBEq, Int.reduceLT, Int.reduceLE, Int.reduceToNat, Int.reduceBEq, Int.reduceBNe, reduceIte, load9, load22, index22, len22, load23, index23, len23, load28, len28, load31, index31, len31, load54, index54, len54, load58, store58, r8_0, r8_1, r8_2, r8_3, r8_4, r8_5, r8_6, r8_7, r8_9, r8_10, r8_11, r8_12, r8_13, r8_14, r8_15, r8_16, r8_17, r8_18, r8_19, r8_20, r8_21, r8_22, r8_24, r8_26, r8_28, p8]
    exact ⟨⟨true, rfl, fun h => by cases h⟩, hG3⟩
  | false =>
  simp only [SXa, reduceCtorEq, Nat.reduceEqDiff, Nat.reduceAdd, Nat.reduceSub, Nat.reduceMul, Nat.reduceBEq, Int.reduceLT, Int.reduceLE, Int.reduceToNat, Int.reduceBEq, Int.reduceBNe, reduceIte, load9, load22, index22, len22, load23, index23, len23, load28, len28, load31, index31, len31, load54, index54, len54, load58, store58, r8_0, r8_1, r8_2, r8_3, r8_4, r8_5, r8_6, r8_7, r8_9, r8_10, r8_11, r8_12, r8_13, r8_14, r8_15, r8_16, r8_17, r8_18, r8_19, r8_20, r8_21, r8_22, r8_24, r8_26, r8_28, p8, t1, t4, t5, load_pb, h3, fldC1, fld_p, Option.bind_some, Nat.add_zero, Nat.zero_add, strsA_len, lenAr]
  cases d4 : decide ((4 : Int) < (t.types[k].cons[i].args.length : Int)) with
  | true =>
    simp only [SXa, reduceCtorEq, Nat.reduceEqDiff, Nat.reduceAdd, Nat.reduceSub, Nat.reduceMul, Nat.reduceBEq, Int.reduceLT, Int.reduceLE, Int.reduceToNat, Int.reduceBEq, Int.reduceBNe, reduceIte, load9, load22, index22, len22, load23, index23, len23, load28, len28, load31, index31, len31, load54, index54, len54, load58, store58, r8_0, r8_1, r8_2, r8_3, r8_4, r8_5, r8_6, r8_7, r8_9, r8_10, r8_11, r8_12, r8_13, r8_14, r8_15, r8_16, r8_17, r8_18, r8_19, r8_20, r8_21, r8_22, r8_24, r8_26, r8_28, p8]
    exact ⟨⟨true, rfl, fun h => by cases h⟩, hG3⟩
  | false =>
  simp only [decide_eq_false_iff_not] at d3 d4
  simp only [SXa, reduceCtorEq, Nat.reduceEqDiff, Nat.reduceAdd, Nat.reduceSub, Nat.reduceMul, Nat.reduceBEq, Int.reduceLT, Int.reduceLE, Int.reduceToNat, Int.reduceBEq, Int.reduceBNe, reduceIte, load9, load22, index22, len22, load23, index23, len23, load28, len28, load31, index31, len31, load54, index54, len54, load58, store58, r8_0, r8_1, r8_2, r8_3, r8_4, r8_5, r8_6, r8_7, r8_9, r8_10, r8_11, r8_12, r8_13, r8_14, r8_15, r8_16, r8_17, r8_18, r8_19, r8_20, r8_21, r8_22, r8_24, r8_26, r8_28, p8, t1, t4, t5]
  have n30 : S.no < S3.no := by omega
  refine e_loop (fun tm S' N => ∃ q : Nat, q ≤ t.types[k].cons[i].args.length ∧ N = t.types[k].cons[i].args.length - q ∧ (∀ j (h : j < t.types[k].cons[i].args.length), j < q → t.types[k].cons[i].args[j].size ≤ 60) ∧ S' = S3 ∧ getT tm 1 = .ptr S.no 0 ∧ getT tm 4 = .sc (.int .i64 (k : Int)) ∧ getT tm 5 = .sc (.int .i64 (i : Int)) ∧ getT tm 6 = .ptr S2.no 0 ∧ getT tm 7 = .sc (.int .i64 (q : Int))) t.types[k].cons[i].args.length
    ⟨0, by omega, by omega, fun j _ h => by omega, rfl, by simp [getT_setD, t1, t4, t5]⟩ ?_
  clear t1 t4 t5
  rintro tm S4 N ⟨q, hq, rfl, hR, rfl, t1, t4, t5, t6, t7⟩
  by_cases hqt : q < t.types[k].cons[i].args.length
  case neg =>
    simp only [SXa, reduceCtorEq, Nat.reduceEqDiff, Nat.reduceAdd, Nat.reduceSub, Nat.reduceMul, Nat.reduceBEq, Int.reduceLT, Int.reduceLE, Int.reduceToNat, Int.reduceBEq, Int.reduceBNe, reduceIte, load9, load22, index22, len22, load23, index23, len23, load28, len28, load31, index31, len31, load54, index54, len54, load58, store58, b8_23, r8_0, r8_1, r8_2, r8_3, r8_4, r8_5, r8_6, r8_7, r8_9, r8_10, r8_11, r8_12, r8_13, r8_14, r8_15, r8_16, r8_17, r8_18, r8_19, r8_20, r8_21, r8_22, r8_24, r8_26, r8_28, p8, t1, t4, t5, t6, t7, load_pb, h3, fldC1, fld_p, Option.bind_some, Nat.add_zero, Nat.zero_add, strsA_len, lenAr, dec_nlt hqt, wi]
    refine ⟨t.types[k].cons.length - (i + 1), by omega, i + 1, by omega, rfl, fun j hj hji => ?_, hT3, hG3, n30, by simp [t1, t4]⟩
    by_cases hje : j < i
    · exact hQ j hj hje
    · have : j = i := by omega
      subst this
      exact ⟨by omega, by omega, fun s hs => by
        obtain ⟨u, hu, rfl⟩ := List.getElem_of_mem hs
        exact hR u hu (by omega)⟩
  case pos =>
  have wq := wrapK hqt (by omega)
  simp only [SXa, reduceCtorEq, Nat.reduceEqDiff, Nat.reduceAdd, Nat.reduceSub, Nat.reduceMul, Nat.reduceBEq, Int.reduceLT, Int.reduceLE, Int.reduceToNat, Int.reduceBEq, Int.reduceBNe, reduceIte, load9, load22, index22, len22, load23, index23, len23, load28, len28, load31, index31, len31, load54, index54, len54, load58, store58, b8_23, r8_0, r8_1, r8_2, r8_3, r8_4, r8_5, r8_6, r8_7, r8_9, r8_10, r8_11, r8_12, r8_13, r8_14, r8_15, r8_16, r8_17, r8_18, r8_19, r8_20, r8_21, r8_22, r8_24, r8_26, r8_28, p8, t1, t4, t5, t6, t7, load_pb, h3, fldC1, fld_p, Option.bind_some, Nat.add_zero, Nat.zero_add, strsA_len, lenAr, dec_lt hqt, idxS1 hqt, opLen9, len9s]
  cases d5 : decide ((60 : Int) < (t.types[k].cons[i].args[q].size : Int)) with
  | true =>
    simp only [SXa, reduceCtorEq, Nat.reduceEqDiff, Nat.reduceAdd, Nat.reduceSub, Nat.reduceMul, Nat.reduceBEq, Int.reduceLT, Int.reduceLE, Int.reduceToNat, Int.reduceBEq, Int.reduceBNe, reduceIte, load9, load22, index22, len22, load23, index23, len23, load28, len28, load31, index31, len31, load54, index54, len54, load58, store58, r8_0, r8_1, r8_2, r8_3, r8_4, r8_5, r8_6, r8_7, r8_9, r8_10, r8_11, r8_12, r8_13, r8_14, r8_15, r8_16, r8_17, r8_18, r8_19, r8_20, r8_21, r8_22, r8_24, r8_26, r8_28, p8]
    exact ⟨⟨true, rfl, fun h => by cases h⟩, hG3⟩
  | false =>
  simp only [decide_eq_false_iff_not] at d5
  simp only [SXa, reduceCtorEq, Nat.reduceEqDiff, Nat.reduceAdd, Nat.reduceSub, Nat.reduceMul, Nat.reduceBEq, Int.reduceLT, Int.reduceLE, Int.reduceToNat, Int.reduceBEq, Int.reduceBNe, reduceIte, load9, load22, index22, len22, load23, index23, len23, load28, len28, load31, index31, len31, load54, index54, len54, load58, store58, r8_0, r8_1, r8_2, r8_3, r8_4, r8_5, r8_6, r8_7, r8_9, r8_10, r8_11, r8_12, r8_13, r8_14, r8_15, r8_16, r8_17, r8_18, r8_19, r8_20, r8_21, r8_22, r8_24, r8_26, r8_28, p8, t1, t4, t5, t6, t7, wq]
  refine ⟨t.types[k].cons[i].args.length - (q + 1), by omega, q + 1, by omega, rfl, fun j hj hjk => ?_, by simp [t1, t4, t5, t6]⟩
  by_cases hje : j < q
  · exact hR j hj hje
  · have : j = q := by omega
    subst this
    omega
end Go.Proofs.YtmmnkemcplgebaaGreatDoor
end
