/-
  Words of a text: the walks (one rune, one text).
-/
import Derived.Test.YtmmnkemcplgebaaGreatDoorFL
import Derived.Test.YtmmnkemcplgebaaGreatDoorFN
import Derived.Test.YtmmnkemcplgebaaGreatDoorFO
section
set_option linter.unusedSimpArgs false
set_option linter.unusedVariables false
set_option maxRecDepth 100000
namespace Go.Proofs.YtmmnkemcplgebaaGreatDoor
open Go.Abs
theorem isStr9 : isStrT E 9 = true := by kernel_rfl
theorem opLen9 {tm : PM AV} {S : St} {d : Option Tmp} (x : Operand) : opV E tm d (.call (Call.mk (.builtin .len) #[x] #[9])) S = builtinA E (E.hp 9 d) .len [9] [E.ev tm x] S := rfl
theorem len9s (mu : Bool) (s : ByteArray) (S : St) : builtinA E mu .len [9] [.sc (.string s)] S = some (.sc (.int .i64 (s.size : Nat)), S) := lenStr isStr9 mu s S
theorem range9 {tm : PM AV} {S : St} {d : Option Tmp} (x : Operand) : opV E tm d (.range 9 x) S = rangeS (E.ev tm x) S := op_rangeS 9 x isStr9
theorem arrP {tm : PM AV} {S : St} {d : Option Tmp} (x y : Operand) : opV E tm d (.indexAddr 174 x y) S = arrV 256 1 (E.ev tm x) (int? (E.ev tm y)) S := arr_chk _ _ _ (by kernel_rfl) x y
theorem evProps {tm : PM AV} : E.ev tm (.global 2) = .eptr (propsV.map .sc) 0 := rfl
theorem evLetter {tm : PM AV} : E.ev tm (.global 3) = .eptr [rtabA Lib.letterT] 0 := rfl
theorem evUpper {tm : PM AV} : E.ev tm (.global 4) = .eptr [rtabA Lib.upperT] 0 := rfl
theorem u8_rng (r : Int) : 0 ≤ IntKind.u8.wrap r ∧ IntKind.u8.wrap r < 256 := by
  simp [IntKind.wrap, IntKind.bits, IntKind.signed]
  omega
theorem prop_idx (r : Int) (S : St) : arrV 256 1 (.eptr (propsV.map AV.sc) 0) (some (IntKind.u8.wrap r)) S = some (.eptr (propsV.map AV.sc) (IntKind.u8.wrap r).toNat, S) := by
  obtain ⟨h1, h2⟩ := u8_rng r
  have h3 : decide (IntKind.u8.wrap r < ((256 : Nat) : Int)) = true := by simpa using h2
  simp only [arrV, decide_eq_true h1, h3, Bool.and_self, cond_true, Nat.zero_add, Nat.mul_one]
theorem prop_at (r : Int) : (propsV.map AV.sc)[(IntKind.u8.wrap r).toNat]? = some (.sc (.int .u8 (Lib.propertiesTab.getD (IntKind.u8.wrap r).toNat 0))) := by
  obtain ⟨h1, h2⟩ := u8_rng r
  have h3 : (IntKind.u8.wrap r).toNat < Lib.propertiesTab.length := by rw [Lib.propertiesTab_length]; omega
  simp [propsV, h3]
theorem load_tab (T : Lib.RTab) (S : St) : loadC false 1 (.eptr [rtabA T] 0) S = some (rtabA T, S) := rfl
theorem excl_ans_l (r : Int) (h1 : -2147483648 ≤ r) (h2 : r ≤ 2147483647) : Ans E 145 [rtabA Lib.letterT, .sc (.int .i32 r)] (.sc (.bool (Lib.exclGo Lib.letterT r))) := fun S hS => ⟨S, ev_x (E := E) (f := 145) (fn := Tryz.f145) (g := pureX exclF) (by kernel_rfl) rfl (by simp only [pureX, excl_l r h1 h2, Option.map_some]), Grow.refl hS _⟩
theorem excl_ans_u (r : Int) (h1 : -2147483648 ≤ r) (h2 : r ≤ 2147483647) : Ans E 145 [rtabA Lib.upperT, .sc (.int .i32 r)] (.sc (.bool (Lib.exclGo Lib.upperT r))) := fun S hS => ⟨S, ev_x (E := E) (f := 145) (fn := Tryz.f145) (g := pureX exclF) (by kernel_rfl) rfl (by simp only [pureX, excl_u r h1 h2, Option.map_some]), Grow.refl hS _⟩
set_option maxHeartbeats 4000000 in
theorem let_ans (r : Int) (h1 : -2147483648 ≤ r) (h2 : r ≤ 2147483647) : Ans E 133 [.sc (.int .i32 r)] (.sc (.bool (letterF r))) := ans_of fun S hS => by
  refine ev133 rfl ?_
  cases hw : decide (IntKind.u32.wrap r ≤ 255) with
  | true =>
    simp only [SXa, reduceCtorEq, Nat.reduceEqDiff, Nat.reduceAdd, Nat.reduceSub, Nat.reduceMul, Nat.reduceBEq, Int.reduceLT, Int.reduceLE, Int.reduceToNat, Int.reduceBEq, Int.reduceBNe, reduceIte, load5, load176, conv21_5, conv21_145, call145, r133_0, r133_1, r133_2, r133_3, p133, hw, evProps, arrP, prop_idx, prop_at]
    exact ⟨by simp only [letterF, propB, hw, cond_true], Grow.refl hS _⟩
  | false =>
    simp only [SXa, reduceCtorEq, Nat.reduceEqDiff, Nat.reduceAdd, Nat.reduceSub, Nat.reduceMul, Nat.reduceBEq, Int.reduceLT, Int.reduceLE, Int.reduceToNat, Int.reduceBEq, Int.reduceBNe, reduceIte, load5, load176, conv21_5, conv21_145, call145, r133_0, r133_1, r133_2, r133_3, p133, hw, evLetter, load_tab]
    refine callK_ans (excl_ans_l r h1 h2) (Grow.refl hS nilV) (fun S1 _ hG => ?_)
    simp only [SXa, reduceCtorEq, Nat.reduceEqDiff, Nat.reduceAdd, Nat.reduceSub, Nat.reduceMul, Nat.reduceBEq, Int.reduceLT, Int.reduceLE, Int.reduceToNat, Int.reduceBEq, Int.reduceBNe, reduceIte, load5, load176, conv21_5, conv21_145, call145, r133_0, r133_1, r133_2, r133_3, p133]
    exact ⟨by simp only [letterF, hw, cond_false], hG⟩
set_option maxHeartbeats 4000000 in
theorem upp_ans (r : Int) (h1 : -2147483648 ≤ r) (h2 : r ≤ 2147483647) : Ans E 135 [.sc (.int .i32 r)] (.sc (.bool (upperF r))) := ans_of fun S hS => by
  refine ev135 rfl ?_
  cases hw : decide (IntKind.u32.wrap r ≤ 255) with
  | true =>
    simp only [SXa, reduceCtorEq, Nat.reduceEqDiff, Nat.reduceAdd, Nat.reduceSub, Nat.reduceMul, Nat.reduceBEq, Int.reduceLT, Int.reduceLE, Int.reduceToNat, Int.reduceBEq, Int.reduceBNe, reduceIte, load5, load176, conv21_5, conv21_145, call145, r135_0, r135_1, r135_2, r135_3, p135, hw, evProps, arrP, prop_idx, prop_at]
    exact ⟨by simp only [upperF, propB, hw, cond_true], Grow.refl hS _⟩
  | false =>
    simp only [SXa, reduceCtorEq, Nat.reduceEqDiff, Nat.reduceAdd, Nat.reduceSub, Nat.reduceMul, Nat.reduceBEq, Int.reduceLT, Int.reduceLE, Int.reduceToNat, Int.reduceBEq, Int.reduceBNe, reduceIte, load5, load176, conv21_5, conv21_145, call145, r135_0, r135_1, r135_2, r135_3, p135, hw, evUpper, load_tab]
    refine callK_ans (excl_ans_u r h1 h2) (Grow.refl hS nilV) (fun S1 _ hG => ?_)
    simp only [SXa, reduceCtorEq, Nat.reduceEqDiff, Nat.reduceAdd, Nat.reduceSub, Nat.reduceMul, Nat.reduceBEq, Int.reduceLT, Int.reduceLE, Int.reduceToNat, Int.reduceBEq, Int.reduceBNe, reduceIte, load5, load176, conv21_5, conv21_145, call145, r135_0, r135_1, r135_2, r135_3, p135]
    exact ⟨by simp only [upperF, hw, cond_false], hG⟩
theorem dec_ans (s : ByteArray) : Ans E 115 [.sc (.string s)] (.tup [.sc (.int .i32 (firstF s)), .sc (.int .i64 ((Lib.decodeGo s).2 : Nat))]) := fun S hS => ⟨S, ev_x (E := E) (f := 115) (fn := Tryz.f115) (g := pureX decF) (by kernel_rfl) rfl rfl, Grow.refl hS _⟩
set_option maxHeartbeats 16000000 in
theorem class_ans (r : Int) (h1 : -2147483648 ≤ r) (h2 : r ≤ 2147483647) : Ans E 116 [.sc (.int .i32 r)] (.sc (.int .i64 (classF r))) := ans_of fun S hS => by
  refine ev116 rfl ?_
  have hG := Grow.refl hS nilV
  simp only [SXa, reduceCtorEq, Nat.reduceEqDiff, Nat.reduceAdd, Nat.reduceSub, Nat.reduceMul, Nat.reduceBEq, Int.reduceLT, Int.reduceLE, Int.reduceToNat, Int.reduceBEq, Int.reduceBNe, reduceIte, call133, r116_0, r116_1, r116_2, r116_3, r116_4, r116_5, r116_6, r116_7, r116_8, r116_9, r116_10, r116_11, r116_12, r116_13, r116_14, r116_15, r116_16, r116_17, r116_18, r116_19, r116_20, r116_21, r116_22, r116_23, r116_24, r116_25, p116]
  repeat' (first
    | (refine condK_split (fun h => ?_) (fun h => ?_) <;> simp only [SXa, reduceCtorEq, Nat.reduceEqDiff, Nat.reduceAdd, Nat.reduceSub, Nat.reduceMul, Nat.reduceBEq, Int.reduceLT, Int.reduceLE, Int.reduceToNat, Int.reduceBEq, Int.reduceBNe, reduceIte, call133, r116_0, r116_1, r116_2, r116_3, r116_4, r116_5, r116_6, r116_7, r116_8, r116_9, r116_10, r116_11, r116_12, r116_13, r116_14, r116_15, r116_16, r116_17, r116_18, r116_19, r116_20, r116_21, r116_22, r116_23, r116_24, r116_25, p116, h])
    | (refine guardK_split (fun h => ?_) (fun h => ?_) <;> simp only [SXa, reduceCtorEq, Nat.reduceEqDiff, Nat.reduceAdd, Nat.reduceSub, Nat.reduceMul, Nat.reduceBEq, Int.reduceLT, Int.reduceLE, Int.reduceToNat, Int.reduceBEq, Int.reduceBNe, reduceIte, call133, r116_0, r116_1, r116_2, r116_3, r116_4, r116_5, r116_6, r116_7, r116_8, r116_9, r116_10, r116_11, r116_12, r116_13, r116_14, r116_15, r116_16, r116_17, r116_18, r116_19, r116_20, r116_21, r116_22, r116_23, r116_24, r116_25, p116, h]))
  all_goals try (refine callK_ans (let_ans r h1 h2) hG (fun S1 g1 hG => ?_); simp only [SXa, reduceCtorEq, Nat.reduceEqDiff, Nat.reduceAdd, Nat.reduceSub, Nat.reduceMul, Nat.reduceBEq, Int.reduceLT, Int.reduceLE, Int.reduceToNat, Int.reduceBEq, Int.reduceBNe, reduceIte, call133, r116_0, r116_1, r116_2, r116_3, r116_4, r116_5, r116_6, r116_7, r116_8, r116_9, r116_10, r116_11, r116_12, r116_13, r116_14, r116_15, r116_16, r116_17, r116_18, r116_19, r116_20, r116_21, r116_22, r116_23, r116_24, r116_25, p116])
  repeat' (first
    | (refine condK_split (fun h => ?_) (fun h => ?_) <;> simp only [SXa, reduceCtorEq, Nat.reduceEqDiff, Nat.reduceAdd, Nat.reduceSub, Nat.reduceMul, Nat.reduceBEq, Int.reduceLT, Int.reduceLE, Int.reduceToNat, Int.reduceBEq, Int.reduceBNe, reduceIte, call133, r116_0, r116_1, r116_2, r116_3, r116_4, r116_5, r116_6, r116_7, r116_8, r116_9, r116_10, r116_11, r116_12, r116_13, r116_14, r116_15, r116_16, r116_17, r116_18, r116_19, r116_20, r116_21, r116_22, r116_23, r116_24, r116_25, p116, h])
    | (refine guardK_split (fun h => ?_) (fun h => ?_) <;> simp only [SXa, reduceCtorEq, Nat.reduceEqDiff, Nat.reduceAdd, Nat.reduceSub, Nat.reduceMul, Nat.reduceBEq, Int.reduceLT, Int.reduceLE, Int.reduceToNat, Int.reduceBEq, Int.reduceBNe, reduceIte, call133, r116_0, r116_1, r116_2, r116_3, r116_4, r116_5, r116_6, r116_7, r116_8, r116_9, r116_10, r116_11, r116_12, r116_13, r116_14, r116_15, r116_16, r116_17, r116_18, r116_19, r116_20, r116_21, r116_22, r116_23, r116_24, r116_25, p116, h]))
  all_goals exact ⟨by simp [classF, *], by assumption⟩
set_option maxHeartbeats 16000000 in
theorem isKey_ans (s : ByteArray) : Ans E 140 [.sc (.string s)] (.sc (.bool (isKeyF s))) := ans_of fun S hS => by
  refine ev140 rfl ?_
  have hG := Grow.refl hS nilV
  simp only [SXa, reduceCtorEq, Nat.reduceEqDiff, Nat.reduceAdd, Nat.reduceSub, Nat.reduceMul, Nat.reduceBEq, Int.reduceLT, Int.reduceLE, Int.reduceToNat, Int.reduceBEq, Int.reduceBNe, reduceIte, r140_0, r140_1, r140_2, r140_3, r140_4, r140_5, r140_6, r140_7, r140_8, r140_9, r140_10, r140_11, r140_12, r140_13, r140_14, r140_15, r140_16, r140_17, r140_18, r140_19, r140_20, r140_21, r140_22, p140]
  repeat' (first
    | (refine condK_split (fun h => ?_) (fun h => ?_) <;> simp only [SXa, reduceCtorEq, Nat.reduceEqDiff, Nat.reduceAdd, Nat.reduceSub, Nat.reduceMul, Nat.reduceBEq, Int.reduceLT, Int.reduceLE, Int.reduceToNat, Int.reduceBEq, Int.reduceBNe, reduceIte, r140_0, r140_1, r140_2, r140_3, r140_4, r140_5, r140_6, r140_7, r140_8, r140_9, r140_10, r140_11, r140_12, r140_13, r140_14, r140_15, r140_16, r140_17, r140_18, r140_19, r140_20, r140_21, r140_22, p140, h])
    | (refine guardK_split (fun h => ?_) (fun h => ?_) <;> simp only [SXa, reduceCtorEq, Nat.reduceEqDiff, Nat.reduceAdd, Nat.reduceSub, Nat.reduceMul, Nat.reduceBEq, Int.reduceLT, Int.reduceLE, Int.reduceToNat, Int.reduceBEq, Int.reduceBNe, reduceIte, r140_0, r140_1, r140_2, r140_3, r140_4, r140_5, r140_6, r140_7, r140_8, r140_9, r140_10, r140_11, r140_12, r140_13, r140_14, r140_15, r140_16, r140_17, r140_18, r140_19, r140_20, r140_21, r140_22, p140, h]))
  all_goals exact ⟨by simp only [isKeyF, keyL, List.any_cons, List.any_nil, Bool.or_true, Bool.true_or, Bool.or_false, Bool.false_or, *], hG⟩
set_option maxHeartbeats 4000000 in
theorem pref1_ans (s p : ByteArray) : Ans E 146 [.sc (.string s), .sc (.string p)] (.sc (.bool (prefF s p))) := ans_of fun S hS => by
  refine ev146 rfl ?_
  by_cases hle : p.size ≤ s.size
  · have c1 : decide ((p.size : Int) ≤ (s.size : Int)) = true := by simpa using hle
    have hs := fun S => sliceStr (E := E) isStr9 s (bounds_hi hle) S
    simp only [SXa, reduceCtorEq, Nat.reduceEqDiff, Nat.reduceAdd, Nat.reduceSub, Nat.reduceMul, Nat.reduceBEq, Int.reduceLT, Int.reduceLE, Int.reduceToNat, Int.reduceBEq, Int.reduceBNe, reduceIte, r146_0, r146_1, p146, opLen9, len9s, c1, hs]
    exact ⟨by simp [prefF, hle, cutB], Grow.refl hS _⟩
  · have c1 : decide ((p.size : Int) ≤ (s.size : Int)) = false := by simpa using hle
    simp only [SXa, reduceCtorEq, Nat.reduceEqDiff, Nat.reduceAdd, Nat.reduceSub, Nat.reduceMul, Nat.reduceBEq, Int.reduceLT, Int.reduceLE, Int.reduceToNat, Int.reduceBEq, Int.reduceBNe, reduceIte, r146_0, r146_1, p146, opLen9, len9s, c1]
    exact ⟨by simp [prefF, hle], Grow.refl hS _⟩
theorem pref_ans (s p : ByteArray) : Ans E 141 [.sc (.string s), .sc (.string p)] (.sc (.bool (prefF s p))) := ans_of fun S hS => by
  refine ev141 rfl ?_
  simp only [SXa, reduceCtorEq, Nat.reduceEqDiff, Nat.reduceAdd, Nat.reduceSub, Nat.reduceMul, Nat.reduceBEq, Int.reduceLT, Int.reduceLE, Int.reduceToNat, Int.reduceBEq, Int.reduceBNe, reduceIte, call146, r141_0, r141_1, p141]
  refine callK_ans (pref1_ans s p) (Grow.refl hS nilV) (fun S1 _ hG => ?_)
  simp only [SXa, reduceCtorEq, Nat.reduceEqDiff, Nat.reduceAdd, Nat.reduceSub, Nat.reduceMul, Nat.reduceBEq, Int.reduceLT, Int.reduceLE, Int.reduceToNat, Int.reduceBEq, Int.reduceBNe, reduceIte, call146, r141_0, r141_1, p141]
  exact hG
theorem rune_lo (s : ByteArray) (pos : Nat) : (-2147483648 : Int) ≤ ((Utf8.decode s pos).1 : Nat) ∧ (((Utf8.decode s pos).1 : Nat) : Int) ≤ 2147483647 := by
  have := Lib.rune_le s pos
  omega
set_option maxHeartbeats 4000000 in
theorem upperT_ans (s : ByteArray) : Ans E 139 [.sc (.string s)] (.sc (.bool (upperTF s))) := ans_of fun S hS => by
  refine ev139 rfl ?_
  simp only [SXa, reduceCtorEq, Nat.reduceEqDiff, Nat.reduceAdd, Nat.reduceSub, Nat.reduceMul, Nat.reduceBEq, Int.reduceLT, Int.reduceLE, Int.reduceToNat, Int.reduceBEq, Int.reduceBNe, reduceIte, call135, r139_0, r139_1, r139_2, r139_3, r139_4, r139_6, p139, range9, rangeS]
  have hI := bornIt_is (S := S) s
  have hG := (Grow.refl hS nilV).bornIt s
  generalize S.bornIt s = S1 at hI hG
  refine e_loop (fun tm S' N => S' = S1 ∧ getT tm 0 = .sc (.string s) ∧ getT tm 6 = .ptr S.no 0) 1 ⟨rfl, by simp [getT_setD]⟩ ?_
  rintro tm S' N ⟨rfl, t0, t6⟩
  have hn := next_it hI
  by_cases hp : 0 < s.size
  · simp only [hp, if_true] at hn
    obtain ⟨r1, r2⟩ := rune_lo s 0
    simp only [SXa, reduceCtorEq, Nat.reduceEqDiff, Nat.reduceAdd, Nat.reduceSub, Nat.reduceMul, Nat.reduceBEq, Int.reduceLT, Int.reduceLE, Int.reduceToNat, Int.reduceBEq, Int.reduceBNe, reduceIte, call135, b139_5, r139_0, r139_1, r139_2, r139_3, r139_4, r139_6, p139, op_next, t0, t6, hn]
    refine callK_ans (upp_ans _ r1 r2) (hG.put S.no _ (Nat.le_refl _)) (fun S2 _ hG => ?_)
    simp only [SXa, reduceCtorEq, Nat.reduceEqDiff, Nat.reduceAdd, Nat.reduceSub, Nat.reduceMul, Nat.reduceBEq, Int.reduceLT, Int.reduceLE, Int.reduceToNat, Int.reduceBEq, Int.reduceBNe, reduceIte, call135, r139_0, r139_1, r139_2, r139_3, r139_4, r139_6, p139]
    exact ⟨by simp [upperTF, runes_lt hp], hG⟩
  · simp only [hp, if_false] at hn
    simp only [SXa, reduceCtorEq, Nat.reduceEqDiff, Nat.reduceAdd, Nat.reduceSub, Nat.reduceMul, Nat.reduceBEq, Int.reduceLT, Int.reduceLE, Int.reduceToNat, Int.reduceBEq, Int.reduceBNe, reduceIte, call135, b139_5, r139_0, r139_1, r139_2, r139_3, r139_4, r139_6, p139, op_next, t0, t6, hn]
    exact ⟨by simp [upperTF, runes_ge hp], hG⟩
set_option maxHeartbeats 4000000 in
theorem run_ans (may : Int → Bool) (f : FuncId) (hm : ∀ r : Int, -2147483648 ≤ r → r ≤ 2147483647 → Ans E f [.sc (.int .i32 r)] (.sc (.bool (may r)))) (hx : E.ext f = none) (s : ByteArray) : Ans E 118 [.sc (.string s), .sc (.func (.func f) #[] #[])] (.sc (.int .i64 (runF may s (runes s 0) : Nat))) := ans_of fun S hS => by
  refine ev118 rfl ?_
  simp only [SXa, reduceCtorEq, Nat.reduceEqDiff, Nat.reduceAdd, Nat.reduceSub, Nat.reduceMul, Nat.reduceBEq, Int.reduceLT, Int.reduceLE, Int.reduceToNat, Int.reduceBEq, Int.reduceBNe, reduceIte, r118_0, r118_1, r118_2, r118_3, r118_4, r118_5, r118_7, p118, range9, rangeS]
  have hI := bornIt_is (S := S) s
  have hG := (Grow.refl hS nilV).bornIt s
  have hno : S.no < (S.bornIt s).no := Nat.lt_succ_self _
  refine e_loop (fun tm S' N => ∃ pos, N = s.size - pos ∧ runF may s (runes s pos) = runF may s (runes s 0) ∧ S'.IsIt S.no s pos ∧ Grow S S' nilV ∧ S.no < S'.no ∧ getT tm 0 = .sc (.string s) ∧ getT tm 1 = .sc (.func (.func f) #[] #[]) ∧ getT tm 8 = .ptr S.no 0) s.size ⟨0, by omega, rfl, hI, hG, hno, by simp [getT_setD]⟩ ?_
  rintro tm S' N ⟨pos, rfl, hr, hI, hG, hno, t0, t1, t8⟩
  have hn := next_it hI
  by_cases hp : pos < s.size
  · simp only [hp, if_true] at hn
    obtain ⟨r1, r2⟩ := rune_lo s pos
    rw [runes_lt hp] at hr
    have hw := Lib.width_pos s pos
    simp only [SXa, reduceCtorEq, Nat.reduceEqDiff, Nat.reduceAdd, Nat.reduceSub, Nat.reduceMul, Nat.reduceBEq, Int.reduceLT, Int.reduceLE, Int.reduceToNat, Int.reduceBEq, Int.reduceBNe, reduceIte, b118_6, r118_0, r118_1, r118_2, r118_3, r118_4, r118_5, r118_7, p118, op_next, t0, t1, t8, hn]
    rw [e_callv _ _ _ _ _ (g := f) (first := []) (cap := []) (by simp only [SXa, reduceCtorEq, Nat.reduceEqDiff, Nat.reduceAdd, Nat.reduceSub, Nat.reduceMul, Nat.reduceBEq, Int.reduceLT, Int.reduceLE, Int.reduceToNat, Int.reduceBEq, Int.reduceBNe, reduceIte, load2, load3, store3, load5, load9, load22, index22, len22, load23, index23, len23, load25, load28, bs28, app28, index28, len28, load30, store30, load31, store31, bs31, app31, index31, len31, load54, index54, len54, load56, store56, load58, store58, load133, store133, load176, conv21_2, conv21_5, conv21_145, call7, call8, call9, call10, call11, call12, call17, call27, call28, call29, call30, call31, call32, call33, call34, call35, call36, call37, call49, call50, call51, call53, call55, call56, call57, call61, call62, call77, call78, call79, call80, call81, call82, call94, call115, call116, call117, call118, call120, call121, call133, call135, call139, call140, call141, call145, call146, t1]; rfl) hx]
    simp only [SXa, reduceCtorEq, Nat.reduceEqDiff, Nat.reduceAdd, Nat.reduceSub, Nat.reduceMul, Nat.reduceBEq, Int.reduceLT, Int.reduceLE, Int.reduceToNat, Int.reduceBEq, Int.reduceBNe, reduceIte, load2, load3, store3, load5, load9, load22, index22, len22, load23, index23, len23, load25, load28, bs28, app28, index28, len28, load30, store30, load31, store31, bs31, app31, index31, len31, load54, index54, len54, load56, store56, load58, store58, load133, store133, load176, conv21_2, conv21_5, conv21_145, call7, call8, call9, call10, call11, call12, call17, call27, call28, call29, call30, call31, call32, call33, call34, call35, call36, call37, call49, call50, call51, call53, call55, call56, call57, call61, call62, call77, call78, call79, call80, call81, call82, call94, call115, call116, call117, call118, call120, call121, call133, call135, call139, call140, call141, call145, call146, List.nil_append, List.append_nil]
    refine callK_ans (hm _ r1 r2) (hG.put S.no (.siter s (pos + (Utf8.decode s pos).2)) (Nat.le_refl _)) (fun S2 g2 hG2 => ?_)
    have hI2 := g2.isIt (put_it (S := S') S.no s (pos + (Utf8.decode s pos).2)) hno
    have hno2 : S.no < S2.no := Nat.lt_of_lt_of_le hno g2.no
    cases hb : may ((Utf8.decode s pos).1 : Nat) with
    | true =>
      simp only [runF, hb, cond_true] at hr
      simp only [SXa, reduceCtorEq, Nat.reduceEqDiff, Nat.reduceAdd, Nat.reduceSub, Nat.reduceMul, Nat.reduceBEq, Int.reduceLT, Int.reduceLE, Int.reduceToNat, Int.reduceBEq, Int.reduceBNe, reduceIte, r118_0, r118_1, r118_2, r118_3, r118_4, r118_5, r118_7, p118, t0, t1, t8]
      exact ⟨_, by omega, pos + (Utf8.decode s pos).2, rfl, hr, hI2, hG2, hno2⟩
    | false =>
      simp only [runF, hb, cond_false] at hr
      simp only [SXa, reduceCtorEq, Nat.reduceEqDiff, Nat.reduceAdd, Nat.reduceSub, Nat.reduceMul, Nat.reduceBEq, Int.reduceLT, Int.reduceLE, Int.reduceToNat, Int.reduceBEq, Int.reduceBNe, reduceIte, r118_0, r118_1, r118_2, r118_3, r118_4, r118_5, r118_7, p118, t0, t1, t8]
      exact ⟨by rw [← hr], hG2⟩
  · simp only [hp, if_false] at hn
    rw [runes_ge hp] at hr
    simp only [SXa, reduceCtorEq, Nat.reduceEqDiff, Nat.reduceAdd, Nat.reduceSub, Nat.reduceMul, Nat.reduceBEq, Int.reduceLT, Int.reduceLE, Int.reduceToNat, Int.reduceBEq, Int.reduceBNe, reduceIte, b118_6, r118_0, r118_1, r118_2, r118_3, r118_4, r118_5, r118_7, p118, op_next, t0, t1, t8, hn, opLen9, len9s]
    exact ⟨by rw [← hr]; rfl, hG⟩
set_option maxHeartbeats 4000000 in
theorem digit_ans (r : Int) (h1 : -2147483648 ≤ r) (h2 : r ≤ 2147483647) : Ans E 119 [.sc (.int .i32 r)] (.sc (.bool (mayDigit r))) := ans_of fun S hS => by
  refine ev119 rfl ?_
  simp only [SXa, reduceCtorEq, Nat.reduceEqDiff, Nat.reduceAdd, Nat.reduceSub, Nat.reduceMul, Nat.reduceBEq, Int.reduceLT, Int.reduceLE, Int.reduceToNat, Int.reduceBEq, Int.reduceBNe, reduceIte, call116, r119_0, r119_1, p119]
  refine callK_ans (class_ans r h1 h2) (Grow.refl hS nilV) (fun S1 _ hG => ?_)
  simp only [SXa, reduceCtorEq, Nat.reduceEqDiff, Nat.reduceAdd, Nat.reduceSub, Nat.reduceMul, Nat.reduceBEq, Int.reduceLT, Int.reduceLE, Int.reduceToNat, Int.reduceBEq, Int.reduceBNe, reduceIte, call116, r119_0, r119_1, p119]
  exact ⟨rfl, hG⟩
set_option maxHeartbeats 4000000 in
theorem letter_ans (r : Int) (h1 : -2147483648 ≤ r) (h2 : r ≤ 2147483647) : Ans E 138 [.sc (.int .i32 r)] (.sc (.bool (mayNamed r))) := ans_of fun S hS => by
  refine ev138 rfl ?_
  simp only [SXa, reduceCtorEq, Nat.reduceEqDiff, Nat.reduceAdd, Nat.reduceSub, Nat.reduceMul, Nat.reduceBEq, Int.reduceLT, Int.reduceLE, Int.reduceToNat, Int.reduceBEq, Int.reduceBNe, reduceIte, call116, r138_0, r138_1, r138_2, p138]
  refine callK_ans (class_ans r h1 h2) (Grow.refl hS nilV) (fun S1 _ hG => ?_)
  simp only [SXa, reduceCtorEq, Nat.reduceEqDiff, Nat.reduceAdd, Nat.reduceSub, Nat.reduceMul, Nat.reduceBEq, Int.reduceLT, Int.reduceLE, Int.reduceToNat, Int.reduceBEq, Int.reduceBNe, reduceIte, call116, r138_0, r138_1, r138_2, p138]
  repeat' (first
    | (refine condK_split (fun h => ?_) (fun h => ?_) <;> simp only [SXa, reduceCtorEq, Nat.reduceEqDiff, Nat.reduceAdd, Nat.reduceSub, Nat.reduceMul, Nat.reduceBEq, Int.reduceLT, Int.reduceLE, Int.reduceToNat, Int.reduceBEq, Int.reduceBNe, reduceIte, call116, r138_0, r138_1, r138_2, p138, h])
    | (refine guardK_split (fun h => ?_) (fun h => ?_) <;> simp only [SXa, reduceCtorEq, Nat.reduceEqDiff, Nat.reduceAdd, Nat.reduceSub, Nat.reduceMul, Nat.reduceBEq, Int.reduceLT, Int.reduceLE, Int.reduceToNat, Int.reduceBEq, Int.reduceBNe, reduceIte, call116, r138_0, r138_1, r138_2, p138, h]))
  all_goals exact ⟨by simp [mayNamed, *], hG⟩
end Go.Proofs.YtmmnkemcplgebaaGreatDoor
end
