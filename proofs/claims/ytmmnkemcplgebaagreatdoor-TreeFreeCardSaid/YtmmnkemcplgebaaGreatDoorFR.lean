/-
  Words of a text: the walks (one word; is it a name, a constructor?).
-/
import Derived.Test.YtmmnkemcplgebaaGreatDoorFQ
section
set_option linter.unusedSimpArgs false
set_option linter.unusedVariables false
set_option maxRecDepth 100000
namespace Go.Proofs.YtmmnkemcplgebaaGreatDoor
open Go.Abs
theorem first_rng (s : ByteArray) : -2147483648 ≤ firstF s ∧ firstF s ≤ 2147483647 := by
  have h2 := Lib.rune_le s 0
  unfold firstF Lib.decodeGo
  split
  · decide
  · constructor <;> omega
theorem class_empty : (classF 65533 == 4) = false := by kernel_rfl
theorem mark_pos (s : ByteArray) (h : (classF (firstF s) == 4) = true) : 0 < s.size := by
  rcases Nat.eq_zero_or_pos s.size with h0 | h0
  · have : firstF s = 65533 := by
      unfold firstF Lib.decodeGo
      rw [if_pos h0]; rfl
    rw [this, class_empty] at h
    cases h
  · exact h0
theorem stWa (l : Nat) (w : WordV) (S : St) : storeC 4 (.ptr l 0) (.agg (wordA w)) S = (S.obj l).bind fun cs => if 4 ≤ cs.length then some (passed, S.put l (.cells (wordA w ++ cs.drop 4))) else none :=
  store_agg 4 l _ rfl
theorem cutW (w : WordV) (cs : List AV) (S : St) (l : Nat) (h : S.obj l = some (wordA w ++ cs)) : loadC true 4 (.ptr l 0) S = some (.agg (wordA w), S) := by
  rw [load_pb, h]
  simp only [Option.bind_some, cut_t, wordA, List.cons_append, List.nil_append, List.length_cons, Nat.zero_add, List.drop_zero, List.take_succ_cons, List.take_zero]
  rw [if_pos (by omega)]
  rfl
set_option maxHeartbeats 8000000 in
theorem word_ans (s : ByteArray) : Ans E 94 [.sc (.string s)] (.agg (wordA (wordF s))) := ans_of fun S hS => by
  refine ev94 rfl ?_
  have hG := (Grow.refl hS nilV).born 133 zW
  have ho : (S.born 133 zW).obj S.no = some zW := by simp [born_obj]
  have hno : S.no < (S.born 133 zW).no := Nat.lt_succ_self _
  obtain ⟨f1, f2⟩ := first_rng s
  simp only [SXa, reduceCtorEq, Nat.reduceEqDiff, Nat.reduceAdd, Nat.reduceSub, Nat.reduceMul, Nat.reduceBEq, Int.reduceLT, Int.reduceLE, Int.reduceToNat, Int.reduceBEq, Int.reduceBNe, reduceIte, store133, call115, call116, call117, call118, call120, call121, r94_0, r94_1, r94_2, r94_3, r94_4, r94_5, r94_6, r94_7, r94_8, r94_9, r94_10, r94_11, r94_12, r94_13, p94, allocW]
  generalize S.born 133 zW = S1 at hG ho hno
  refine callK_ans (dec_ans s) hG (fun S2 g2 hG => ?_)
  have ho := g2.objs ho hno
  have hno := Nat.lt_of_lt_of_le hno g2.no
  simp only [SXa, reduceCtorEq, Nat.reduceEqDiff, Nat.reduceAdd, Nat.reduceSub, Nat.reduceMul, Nat.reduceBEq, Int.reduceLT, Int.reduceLE, Int.reduceToNat, Int.reduceBEq, Int.reduceBNe, reduceIte, store133, call115, call116, call117, call118, call120, call121, r94_0, r94_1, r94_2, r94_3, r94_4, r94_5, r94_6, r94_7, r94_8, r94_9, r94_10, r94_11, r94_12, r94_13, p94]
  refine callK_ans (class_ans _ f1 f2) hG (fun S3 g3 hG => ?_)
  have ho := g3.objs ho hno
  have hno := Nat.lt_of_lt_of_le hno g3.no
  simp only [zW] at ho
  cases c1 : (classF (firstF s) == 1) with
  | true =>
    cases c5 : (firstF s != 39) with
    | true =>
      simp only [SXa, reduceCtorEq, Nat.reduceEqDiff, Nat.reduceAdd, Nat.reduceSub, Nat.reduceMul, Nat.reduceBEq, Int.reduceLT, Int.reduceLE, Int.reduceToNat, Int.reduceBEq, Int.reduceBNe, reduceIte, store133, call115, call116, call117, call118, call120, call121, r94_0, r94_1, r94_2, r94_3, r94_4, r94_5, r94_6, r94_7, r94_8, r94_9, r94_10, r94_11, r94_12, r94_13, p94, c1, c5]
      refine callK_ans (named_ans s) hG (fun S4 g4 hG4 => ?_)
      have ho4 := g4.objs ho hno
      simp only [SXa, reduceCtorEq, Nat.reduceEqDiff, Nat.reduceAdd, Nat.reduceSub, Nat.reduceMul, Nat.reduceBEq, Int.reduceLT, Int.reduceLE, Int.reduceToNat, Int.reduceBEq, Int.reduceBNe, reduceIte, store133, call115, call116, call117, call118, call120, call121, r94_0, r94_1, r94_2, r94_3, r94_4, r94_5, r94_6, r94_7, r94_8, r94_9, r94_10, r94_11, r94_12, r94_13, p94, stWa, ho4, resW, Option.bind_some, Nat.le_refl, List.drop_nil, List.append_nil]
      rw [cutW (namedF s) [] _ _ (by simp [put_obj])]
      exact ⟨by simp only [wordF, c1, c5, cond_true, Option.bind_some, Option.map_some, pack1], hG4.put S.no _ (Nat.le_refl _)⟩
    | false =>
      simp only [SXa, reduceCtorEq, Nat.reduceEqDiff, Nat.reduceAdd, Nat.reduceSub, Nat.reduceMul, Nat.reduceBEq, Int.reduceLT, Int.reduceLE, Int.reduceToNat, Int.reduceBEq, Int.reduceBNe, reduceIte, store133, call115, call116, call117, call118, call120, call121, r94_0, r94_1, r94_2, r94_3, r94_4, r94_5, r94_6, r94_7, r94_8, r94_9, r94_10, r94_11, r94_12, r94_13, p94, c1, c5, op_build, bldW0, zW, stW, ho, resW, load_pb, put_obj, Option.bind_some, Nat.le_refl, List.drop_nil]
      exact ⟨by simp only [wordF, c1, c5, cond_true, cond_false, wordA, noWord], hG.put S.no _ (Nat.le_refl _)⟩
  | false =>
  cases c2 : (classF (firstF s) == 2) with
  | true =>
    have hle := runF_le mayDigit s s.size 0 (by omega)
    have hsl := fun S => sliceStr (E := E) isStr9 s (bounds_hi hle) S
    simp only [SXa, reduceCtorEq, Nat.reduceEqDiff, Nat.reduceAdd, Nat.reduceSub, Nat.reduceMul, Nat.reduceBEq, Int.reduceLT, Int.reduceLE, Int.reduceToNat, Int.reduceBEq, Int.reduceBNe, reduceIte, store133, call115, call116, call117, call118, call120, call121, r94_0, r94_1, r94_2, r94_3, r94_4, r94_5, r94_6, r94_7, r94_8, r94_9, r94_10, r94_11, r94_12, r94_13, p94, c1, c2]
    refine callK_ans (run_ans mayDigit 119 digit_ans rfl s) hG (fun S4 g4 hG4 => ?_)
    have ho4 := g4.objs ho hno
    have hno4 := Nat.lt_of_lt_of_le hno g4.no
    simp only [SXa, reduceCtorEq, Nat.reduceEqDiff, Nat.reduceAdd, Nat.reduceSub, Nat.reduceMul, Nat.reduceBEq, Int.reduceLT, Int.reduceLE, Int.reduceToNat, Int.reduceBEq, Int.reduceBNe, reduceIte, store133, call115, call116, call117, call118, call120, call121, r94_0, r94_1, r94_2, r94_3, r94_4, r94_5, r94_6, r94_7, r94_8, r94_9, r94_10, r94_11, r94_12, r94_13, p94, hsl]
    refine callK_ans (value_ans _) hG4 (fun S5 g5 hG5 => ?_)
    have ho5 := g5.objs ho4 hno4
    cases c6 : (valueF 0 (runes (s.extract 0 (runF mayDigit s (runes s 0))) 0)).isSome with
    | true =>
      simp only [SXa, reduceCtorEq, Nat.reduceEqDiff, Nat.reduceAdd, Nat.reduceSub, Nat.reduceMul, Nat.reduceBEq, Int.reduceLT, Int.reduceLE, Int.reduceToNat, Int.reduceBEq, Int.reduceBNe, reduceIte, store133, call115, call116, call117, call118, call120, call121, r94_0, r94_1, r94_2, r94_3, r94_4, r94_5, r94_6, r94_7, r94_8, r94_9, r94_10, r94_11, r94_12, r94_13, p94, c6, hsl, op_build, bldW2, stW, ho5, resW, load_pb, put_obj, Option.bind_some, Nat.le_refl, List.drop_nil]
      exact ⟨by simp only [wordF, c1, c2, c6, cutB, cond_true, cond_false, wordA], hG5.put S.no _ (Nat.le_refl _)⟩
    | false =>
      simp only [SXa, reduceCtorEq, Nat.reduceEqDiff, Nat.reduceAdd, Nat.reduceSub, Nat.reduceMul, Nat.reduceBEq, Int.reduceLT, Int.reduceLE, Int.reduceToNat, Int.reduceBEq, Int.reduceBNe, reduceIte, store133, call115, call116, call117, call118, call120, call121, r94_0, r94_1, r94_2, r94_3, r94_4, r94_5, r94_6, r94_7, r94_8, r94_9, r94_10, r94_11, r94_12, r94_13, p94, c6, op_build, bldW0, zW, stW, ho5, resW, load_pb, put_obj, Option.bind_some, Nat.le_refl, List.drop_nil]
      exact ⟨by simp only [wordF, c1, c2, c6, cutB, cond_true, cond_false, wordA, noWord], hG5.put S.no _ (Nat.le_refl _)⟩
  | false =>
  cases c4 : (classF (firstF s) == 4) with
  | true =>
    simp only [SXa, reduceCtorEq, Nat.reduceEqDiff, Nat.reduceAdd, Nat.reduceSub, Nat.reduceMul, Nat.reduceBEq, Int.reduceLT, Int.reduceLE, Int.reduceToNat, Int.reduceBEq, Int.reduceBNe, reduceIte, store133, call115, call116, call117, call118, call120, call121, r94_0, r94_1, r94_2, r94_3, r94_4, r94_5, r94_6, r94_7, r94_8, r94_9, r94_10, r94_11, r94_12, r94_13, p94, c1, c2, c4]
    refine callK_ans (marked_ans s (mark_pos s c4)) hG (fun S4 g4 hG4 => ?_)
    have ho4 := g4.objs ho hno
    simp only [SXa, reduceCtorEq, Nat.reduceEqDiff, Nat.reduceAdd, Nat.reduceSub, Nat.reduceMul, Nat.reduceBEq, Int.reduceLT, Int.reduceLE, Int.reduceToNat, Int.reduceBEq, Int.reduceBNe, reduceIte, store133, call115, call116, call117, call118, call120, call121, r94_0, r94_1, r94_2, r94_3, r94_4, r94_5, r94_6, r94_7, r94_8, r94_9, r94_10, r94_11, r94_12, r94_13, p94, stWa, ho4, resW, Option.bind_some, Nat.le_refl, List.drop_nil, List.append_nil]
    rw [cutW (markedF s) [] _ _ (by simp [put_obj])]
    exact ⟨by simp only [wordF, c1, c2, c4, cond_true, cond_false, Option.bind_some, Option.map_some, pack1], hG4.put S.no _ (Nat.le_refl _)⟩
  | false =>
    simp only [SXa, reduceCtorEq, Nat.reduceEqDiff, Nat.reduceAdd, Nat.reduceSub, Nat.reduceMul, Nat.reduceBEq, Int.reduceLT, Int.reduceLE, Int.reduceToNat, Int.reduceBEq, Int.reduceBNe, reduceIte, store133, call115, call116, call117, call118, call120, call121, r94_0, r94_1, r94_2, r94_3, r94_4, r94_5, r94_6, r94_7, r94_8, r94_9, r94_10, r94_11, r94_12, r94_13, p94, c1, c2, c4, op_build, bldW0, zW, stW, ho, resW, load_pb, put_obj, Option.bind_some, Nat.le_refl, List.drop_nil]
    exact ⟨by simp only [wordF, c1, c2, c4, cond_true, cond_false, wordA, noWord], hG.put S.no _ (Nat.le_refl _)⟩
set_option maxHeartbeats 8000000 in
theorem just_ans (s : ByteArray) (kind : Int) : Ans E 77 [.sc (.string s), .sc (.int .i64 kind)] (.sc (.bool (justF s kind))) := ans_of fun S hS => by
  refine ev77 rfl ?_
  have hG := Grow.refl hS nilV
  cases c1 : (s.toList == (⟨#[]⟩ : ByteArray).toList) with
  | true =>
    simp only [SXa, reduceCtorEq, Nat.reduceEqDiff, Nat.reduceAdd, Nat.reduceSub, Nat.reduceMul, Nat.reduceBEq, Int.reduceLT, Int.reduceLE, Int.reduceToNat, Int.reduceBEq, Int.reduceBNe, reduceIte, load3, load9, store133, call94, r77_0, r77_1, r77_2, r77_3, r77_4, p77, c1]
    exact ⟨by simp only [justF, c1, Bool.true_or, cond_true], hG⟩
  | false =>
  cases c2 : decide ((4000 : Int) < (s.size : Int)) with
  | true =>
    have c3 : decide (4000 < s.size) = true := by simp only [decide_eq_true_eq] at c2 ⊢; omega
    simp only [SXa, reduceCtorEq, Nat.reduceEqDiff, Nat.reduceAdd, Nat.reduceSub, Nat.reduceMul, Nat.reduceBEq, Int.reduceLT, Int.reduceLE, Int.reduceToNat, Int.reduceBEq, Int.reduceBNe, reduceIte, load3, load9, store133, call94, r77_0, r77_1, r77_2, r77_3, r77_4, p77, c1, c2, opLen9, len9s]
    exact ⟨by simp only [justF, c1, c3, Bool.or_true, cond_true], hG⟩
  | false =>
    have c3 : decide (4000 < s.size) = false := by simp only [decide_eq_false_iff_not] at c2 ⊢; omega
    simp only [SXa, reduceCtorEq, Nat.reduceEqDiff, Nat.reduceAdd, Nat.reduceSub, Nat.reduceMul, Nat.reduceBEq, Int.reduceLT, Int.reduceLE, Int.reduceToNat, Int.reduceBEq, Int.reduceBNe, reduceIte, load3, load9, store133, call94, r77_0, r77_1, r77_2, r77_3, r77_4, p77, c1, c2, opLen9, len9s]
    refine callK_ans (word_ans s) hG (fun S2 g2 hG => ?_)
    have hG3 := (hG.born 133 zW).put S2.no (.cells (wordA (wordF s))) g2.no
    have h3 : ((S2.born 133 zW).put S2.no (.cells (wordA (wordF s)))).obj S2.no = some (wordA (wordF s)) := by simp [put_obj]
    simp only [SXa, reduceCtorEq, Nat.reduceEqDiff, Nat.reduceAdd, Nat.reduceSub, Nat.reduceMul, Nat.reduceBEq, Int.reduceLT, Int.reduceLE, Int.reduceToNat, Int.reduceBEq, Int.reduceBNe, reduceIte, load3, load9, store133, call94, r77_0, r77_1, r77_2, r77_3, r77_4, p77, allocW, stWa, born_obj, Option.bind_some, zW, List.length_cons, List.length_nil, List.drop_nil, List.drop_succ_cons, List.append_nil, Nat.zero_add, Nat.le_refl]
    simp only [zW] at hG3 h3
    generalize ((S2.born 133 [.sc (.int .i64 0), .sc (.string ⟨#[]⟩), .sc (.int .i64 0), .sc (.int .i64 0)]).put S2.no (.cells (wordA (wordF s)))) = S3 at hG3 h3
    simp only [wordA] at h3
    simp only [SXa, reduceCtorEq, Nat.reduceEqDiff, Nat.reduceAdd, Nat.reduceSub, Nat.reduceMul, Nat.reduceBEq, Int.reduceLT, Int.reduceLE, Int.reduceToNat, Int.reduceBEq, Int.reduceBNe, reduceIte, load3, load9, store133, call94, r77_0, r77_1, r77_2, r77_3, r77_4, p77, fldW0, fld_p, load_pb, h3, Option.bind_some, Nat.add_zero]
    cases c4 : ((wordF s).kind == kind) with
    | true =>
      simp only [SXa, reduceCtorEq, Nat.reduceEqDiff, Nat.reduceAdd, Nat.reduceSub, Nat.reduceMul, Nat.reduceBEq, Int.reduceLT, Int.reduceLE, Int.reduceToNat, Int.reduceBEq, Int.reduceBNe, reduceIte, load3, load9, store133, call94, r77_0, r77_1, r77_2, r77_3, r77_4, p77, fldW1, fld_p, load_pb, h3, Option.bind_some, Nat.zero_add]
      exact ⟨by simp only [justF, c1, c3, c4, Bool.or_self, cond_false, Bool.true_and], hG3⟩
    | false =>
      simp only [SXa, reduceCtorEq, Nat.reduceEqDiff, Nat.reduceAdd, Nat.reduceSub, Nat.reduceMul, Nat.reduceBEq, Int.reduceLT, Int.reduceLE, Int.reduceToNat, Int.reduceBEq, Int.reduceBNe, reduceIte, load3, load9, store133, call94, r77_0, r77_1, r77_2, r77_3, r77_4, p77]
      exact ⟨by simp only [justF, c1, c3, c4, Bool.or_self, cond_false, Bool.false_and], hG3⟩
theorem isName_ans (s : ByteArray) : Ans E 49 [.sc (.string s)] (.sc (.bool (isNameF s))) := ans_of fun S hS => by
  refine ev49 rfl ?_
  cases c1 : (s.toList != (⟨#[95]⟩ : ByteArray).toList) with
  | true =>
    simp only [SXa, reduceCtorEq, Nat.reduceEqDiff, Nat.reduceAdd, Nat.reduceSub, Nat.reduceMul, Nat.reduceBEq, Int.reduceLT, Int.reduceLE, Int.reduceToNat, Int.reduceBEq, Int.reduceBNe, reduceIte, call77, r49_0, r49_1, p49, b_nestr, c1]
    refine callK_ans (just_ans s 2) (Grow.refl hS nilV) (fun S2 g2 hG => ?_)
    simp only [SXa, reduceCtorEq, Nat.reduceEqDiff, Nat.reduceAdd, Nat.reduceSub, Nat.reduceMul, Nat.reduceBEq, Int.reduceLT, Int.reduceLE, Int.reduceToNat, Int.reduceBEq, Int.reduceBNe, reduceIte, call77, r49_0, r49_1, p49]
    exact ⟨by simp only [isNameF, c1, cond_true], hG⟩
  | false =>
    simp only [SXa, reduceCtorEq, Nat.reduceEqDiff, Nat.reduceAdd, Nat.reduceSub, Nat.reduceMul, Nat.reduceBEq, Int.reduceLT, Int.reduceLE, Int.reduceToNat, Int.reduceBEq, Int.reduceBNe, reduceIte, call77, r49_0, r49_1, p49, b_nestr, c1]
    exact ⟨by simp only [isNameF, c1, cond_false], Grow.refl hS nilV⟩
theorem isCon_ans (s : ByteArray) : Ans E 51 [.sc (.string s)] (.sc (.bool (isConF s))) := ans_of fun S hS => by
  refine ev51 rfl ?_
  simp only [SXa, reduceCtorEq, Nat.reduceEqDiff, Nat.reduceAdd, Nat.reduceSub, Nat.reduceMul, Nat.reduceBEq, Int.reduceLT, Int.reduceLE, Int.reduceToNat, Int.reduceBEq, Int.reduceBNe, reduceIte, call77, r51_0, r51_1, p51]
  refine callK_ans (just_ans s 3) (Grow.refl hS nilV) (fun S2 g2 hG => ?_)
  simp only [SXa, reduceCtorEq, Nat.reduceEqDiff, Nat.reduceAdd, Nat.reduceSub, Nat.reduceMul, Nat.reduceBEq, Int.reduceLT, Int.reduceLE, Int.reduceToNat, Int.reduceBEq, Int.reduceBNe, reduceIte, call77, r51_0, r51_1, p51]
  exact ⟨rfl, hG⟩
end Go.Proofs.YtmmnkemcplgebaaGreatDoor
end
