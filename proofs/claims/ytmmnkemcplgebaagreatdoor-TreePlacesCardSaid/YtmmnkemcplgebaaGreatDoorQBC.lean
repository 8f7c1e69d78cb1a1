/-
  More of the calculus: arrays.
  Words of a text: the walks (one rune, one text).
  Words of a text: the walks (words, names).
-/
import Derived.Test.YtmmnkemcplgebaaGreatDoorQAX
import Derived.Test.YtmmnkemcplgebaaGreatDoorQBA
import Derived.Test.YtmmnkemcplgebaaGreatDoorQBB
section
section
set_option linter.unusedSimpArgs false
set_option linter.unusedVariables false
set_option maxRecDepth 100000
namespace Go.Abs
section
variable {E : Env} {tm : PM AV} {S : St} {d : Option Tmp}
def arrIs (E : Env) (t : TypeId) (n sz : Nat) : Bool := match E.und t with
 | some (.array m e) => match E.inf e with
  | some ie => Nat.beq m n && Nat.beq ie.size sz
  | none => false
 | _ => false
def arrV (n sz : Nat) (x : AV) (i : Option Int) (S : St) : Option (AV × St) := match x, i with
 | .ptr l off, some i => bif decide (0 ≤ i) && decide (i < (n : Int)) then some (.ptr l (off + i.toNat * sz), S) else none
 | .eptr cs off, some i => bif decide (0 ≤ i) && decide (i < (n : Int)) then some (.eptr cs (off + i.toNat * sz), S) else none
 | _, _ => none
theorem arr_chk (t : TypeId) (n sz : Nat) (h : arrIs E t n sz = true) (x y : Operand) : opV E tm d (.indexAddr t x y) S = arrV n sz (E.ev tm x) (int? (E.ev tm y)) S := by
 unfold arrIs at h
 split at h
 · rename_i m e hd
   split at h
   · rename_i ie hi
     simp only [Bool.and_eq_true] at h
     have h1 := Nat.eq_of_beq_eq_true h.1
     have h2 := Nat.eq_of_beq_eq_true h.2
     subst h1; subst h2
     show evPlain E (fun _ _ _ => none) tm (opOf d (.indexAddr t x y)) S = _
     simp only [evPlain, opOf, hd]
     cases E.ev tm x <;> cases int? (E.ev tm y) <;> first | rfl | simp only [hi, arrV]
   · cases h
 · cases h
end
end Go.Abs
end
end

section
section
set_option linter.unusedSimpArgs false
set_option linter.unusedVariables false
set_option maxRecDepth 100000
namespace Go.Proofs.YtmmnkemcplgebaaGreatDoor
open Go.Abs
theorem isStr9 : isStrT E 9 = true := by kernel_rfl
theorem opLen9 {tm : PM AV} {S : St} {d : Option Tmp} (x : Operand) : opV E tm d (.call (Call.mk (.builtin .len) #[x] #[9])) S = builtinA E (E.hp 9 d) .len [9] [E.ev tm x] S := rfl
theorem len9s (mu : Bool) (s : ByteArray) (S : St) : builtinA E mu .len [9] [.sc (.string s)] S = some (.sc (.int .i64 (s.size : Nat)), S) := lenStr isStr9 mu s S
theorem range9 {tm : PM AV} {S : St} {d : Option Tmp} (x : Operand) : opV E tm d (.range 9 x) S = rangeS (E.ev tm x) S := op_rangeS 9 x isStr9
theorem arrP {tm : PM AV} {S : St} {d : Option Tmp} (x y : Operand) : opV E tm d (.indexAddr 174 x y) S = arrV 256 1 (E.ev tm x) (int? (E.ev tm y)) S := arr_chk _ _ _ (by kernel_rfl) x y
theorem evProps {tm : PM AV} : E.ev tm (.global 2) = .eptr (propsV.map .sc) 0 := rfl
theorem evLetter {tm : PM AV} : E.ev tm (.global 3) = .eptr [rtabA Lib.letterT] 0 := rfl
theorem evUpper {tm : PM AV} : E.ev tm (.global 4) = .eptr [rtabA Lib.upperT] 0 := rfl
theorem u8_rng (r : Int) : 0 ≤ IntKind.u8.wrap r ∧ IntKind.u8.wrap r < 256 := by
 simp [IntKind.wrap, IntKind.bits, IntKind.signed]
 omega
theorem prop_idx (r : Int) (S : St) : arrV 256 1 (.eptr (propsV.map AV.sc) 0) (some (IntKind.u8.wrap r)) S = some (.eptr (propsV.map AV.sc) (IntKind.u8.wrap r).toNat, S) := by
 obtain ⟨h1, h2⟩ := u8_rng r
 have h3 : decide (IntKind.u8.wrap r < ((256 : Nat) : Int)) = true := by simpa using h2
 simp only [arrV, decide_eq_true h1, h3, Bool.and_self, cond_true, Nat.zero_add, Nat.mul_one]
theorem prop_at (r : Int) : (propsV.map AV.sc)[(IntKind.u8.wrap r).toNat]? = some (.sc (.int .u8 (Lib.propertiesTab.getD (IntKind.u8.wrap r).toNat 0))) := by
 obtain ⟨h1, h2⟩ := u8_rng r
 have h3 : (IntKind.u8.wrap r).toNat < Lib.propertiesTab.length := by rw [Lib.propertiesTab_length]; omega
 simp [propsV, h3]
theorem load_tab (T : Lib.RTab) (S : St) : loadC false 1 (.eptr [rtabA T] 0) S = some (rtabA T, S) := rfl
theorem excl_ans_l (r : Int) (h1 : -2147483648 ≤ r) (h2 : r ≤ 2147483647) : Ans E 145 [rtabA Lib.letterT, .sc (.int .i32 r)] (.sc (.bool (Lib.exclGo Lib.letterT r))) := fun S hS => ⟨S, ev_x (E := E) (f := 145) (fn := Tryz.f145) (g := pureX exclF) (by kernel_rfl) rfl (by simp only [pureX, excl_l r h1 h2, Option.map_some]), Grow.refl hS _⟩
theorem excl_ans_u (r : Int) (h1 : -2147483648 ≤ r) (h2 : r ≤ 2147483647) : Ans E 145 [rtabA Lib.upperT, .sc (.int .i32 r)] (.sc (.bool (Lib.exclGo Lib.upperT r))) := fun S hS => ⟨S, ev_x (E := E) (f := 145) (fn := Tryz.f145) (g := pureX exclF) (by kernel_rfl) rfl (by simp only [pureX, excl_u r h1 h2, Option.map_some]), Grow.refl hS _⟩
set_option maxHeartbeats 4000000 in
theorem let_ans (r : Int) (h1 : -2147483648 ≤ r) (h2 : r ≤ 2147483647) : Ans E 133 [.sc (.int .i32 r)] (.sc (.bool (letterF r))) := ans_of fun S hS => by
 refine ev133 rfl ?_
 cases hw : decide (IntKind.u32.wrap r ≤ 255) with
 | true =>
  simp only [SXa, reduceCtorEq, Nat.reduceEqDiff, Nat.reduceAdd, load5, conv21_5, conv21_145, r133_0, r133_1, r133_2, r133_3, p133, hw, evProps, arrP, prop_idx, prop_at]
  exact ⟨by simp only [letterF, propB, hw, cond_true], Grow.refl hS _⟩
 | false =>
  simp only [SXa, reduceCtorEq, Nat.reduceEqDiff, Nat.reduceAdd, load176, conv21_145, call145, r133_0, r133_1, r133_2, r133_3, p133, hw, evLetter]
  refine callK_ans (excl_ans_l r h1 h2) (Grow.refl hS nilV) (fun S1 _ hG => ?_)
  simp only [SXa, reduceCtorEq, Nat.reduceEqDiff]
  exact ⟨by simp only [letterF, hw, cond_false], hG⟩
set_option maxHeartbeats 4000000 in
theorem upp_ans (r : Int) (h1 : -2147483648 ≤ r) (h2 : r ≤ 2147483647) : Ans E 135 [.sc (.int .i32 r)] (.sc (.bool (upperF r))) := ans_of fun S hS => by
 refine ev135 rfl ?_
 cases hw : decide (IntKind.u32.wrap r ≤ 255) with
 | true =>
  simp only [SXa, reduceCtorEq, Nat.reduceEqDiff, Nat.reduceAdd, load5, conv21_5, conv21_145, r135_0, r135_1, r135_2, r135_3, p135, hw, evProps, arrP, prop_idx, prop_at]
  exact ⟨by simp only [upperF, propB, hw, cond_true], Grow.refl hS _⟩
 | false =>
  simp only [SXa, reduceCtorEq, Nat.reduceEqDiff, Nat.reduceAdd, load176, conv21_145, call145, r135_0, r135_1, r135_2, r135_3, p135, hw, evUpper]
  refine callK_ans (excl_ans_u r h1 h2) (Grow.refl hS nilV) (fun S1 _ hG => ?_)
  simp only [SXa, reduceCtorEq, Nat.reduceEqDiff]
  exact ⟨by simp only [upperF, hw, cond_false], hG⟩
theorem dec_ans (s : ByteArray) : Ans E 115 [.sc (.string s)] (.tup [.sc (.int .i32 (firstF s)), .sc (.int .i64 ((Lib.decodeGo s).2 : Nat))]) := fun S hS => ⟨S, ev_x (E := E) (f := 115) (fn := Tryz.f115) (g := pureX decF) (by kernel_rfl) rfl rfl, Grow.refl hS _⟩
set_option maxHeartbeats 16000000 in
theorem class_ans (r : Int) (h1 : -2147483648 ≤ r) (h2 : r ≤ 2147483647) : Ans E 116 [.sc (.int .i32 r)] (.sc (.int .i64 (classF r))) := ans_of fun S hS => by
 refine ev116 rfl ?_
 have hG := Grow.refl hS nilV
 simp only [SXa, reduceCtorEq, Nat.reduceEqDiff, Nat.reduceAdd, r116_0, r116_1, r116_2, r116_3, r116_4, r116_5, r116_6, r116_7, r116_8, r116_9, r116_10, r116_11, r116_12, r116_13, r116_14, r116_15, r116_16, r116_17, r116_18, r116_19, r116_20, r116_21, r116_22, r116_23, r116_24, r116_25, p116]
 repeat' (first
  | (refine condK_split (fun h => ?_) (fun h => ?_) <;> simp only [SXa, reduceCtorEq, Nat.reduceEqDiff, Nat.reduceAdd, Nat.reduceSub, Nat.reduceMul, Nat.reduceBEq, Int.reduceLT, Int.reduceLE, Int.reduceToNat, Int.reduceBEq, Int.reduceBNe, reduceIte, call133, r116_0, r116_1, r116_2, r116_3, r116_4, r116_5, r116_6, r116_7, r116_8, r116_9, r116_10, r116_11, r116_12, r116_13, r116_14, r116_15, r116_16, r116_17, r116_18, r116_19, r116_20, r116_21, r116_22, r116_23, r116_24, r116_25, p116, h])
  | (refine guardK_split (fun h => ?_) (fun h => ?_) <;> simp only [SXa, reduceCtorEq, Nat.reduceEqDiff, call133, h]))
 all_goals try (refine callK_ans (let_ans r h1 h2) hG (fun S1 g1 hG => ?_); simp only [SXa, reduceCtorEq, Nat.reduceEqDiff])
 repeat' (first
  | (refine condK_split (fun h => ?_) (fun h => ?_) <;> simp only [SXa, reduceCtorEq, Nat.reduceEqDiff, h])
  | (refine guardK_split (fun h => ?_) (fun h => ?_) <;> simp only [SXa, reduceCtorEq, Nat.reduceEqDiff, h]))
 all_goals exact ⟨by simp [classF, *], by assumption⟩
set_option maxHeartbeats 16000000 in
theorem isKey_ans (s : ByteArray) : Ans E 140 [.sc (.string s)] (.sc (.bool (isKeyF s))) := ans_of fun S hS => by
 refine ev140 rfl ?_
 have hG := Grow.refl hS nilV
 simp only [SXa, reduceCtorEq, Nat.reduceEqDiff, Nat.reduceAdd, r140_0, r140_1, r140_2, r140_3, r140_4, r140_5, r140_6, r140_7, r140_8, r140_9, r140_10, r140_11, r140_12, r140_13, r140_14, r140_15, r140_16, r140_17, r140_18, r140_19, r140_20, r140_21, r140_22, p140]
 repeat' (first
  | (refine condK_split (fun h => ?_) (fun h => ?_) <;> simp only [SXa, reduceCtorEq, Nat.reduceEqDiff, h])
  | (refine guardK_split (fun h => ?_) (fun h => ?_) <;> simp only [SXa, reduceCtorEq, Nat.reduceEqDiff, Nat.reduceAdd, Nat.reduceSub, Nat.reduceMul, Nat.reduceBEq, Int.reduceLT, Int.reduceLE, Int.reduceToNat, Int.reduceBEq, Int.reduceBNe, reduceIte, r140_0, r140_1, r140_2, r140_3, r140_4, r140_5, r140_6, r140_7, r140_8, r140_9, r140_10, r140_11, r140_12, r140_13, r140_14, r140_15, r140_16, r140_17, r140_18, r140_19, r140_20, r140_21, r140_22, p140, h]))
 all_goals exact ⟨by simp only [isKeyF, keyL, List.any_cons, List.any_nil, Bool.or_true, Bool.true_or, Bool.or_false, *], hG⟩
set_option maxHeartbeats 4000000 in
theorem pref1_ans (s p : ByteArray) : Ans E 146 [.sc (.string s), .sc (.string p)] (.sc (.bool (prefF s p))) := ans_of fun S hS => by
 refine ev146 rfl ?_
 by_cases hle : p.size ≤ s.size
 · have c1 : decide ((p.size : Int) ≤ (s.size : Int)) = true := by simpa using hle
   have hs := fun S => sliceStr (E := E) isStr9 s (bounds_hi hle) S
   simp only [SXa, reduceCtorEq, Nat.reduceEqDiff, Nat.reduceAdd, r146_0, r146_1, p146, opLen9, len9s, c1, hs]
   exact ⟨by simp [prefF, hle, cutB], Grow.refl hS _⟩
 · have c1 : decide ((p.size : Int) ≤ (s.size : Int)) = false := by simpa using hle
   simp only [SXa, reduceCtorEq, Nat.reduceEqDiff, Nat.reduceAdd, r146_0, r146_1, p146, opLen9, len9s, c1]
   exact ⟨by simp [prefF, hle], Grow.refl hS _⟩
theorem pref_ans (s p : ByteArray) : Ans E 141 [.sc (.string s), .sc (.string p)] (.sc (.bool (prefF s p))) := ans_of fun S hS => by
 refine ev141 rfl ?_
 simp only [SXa, reduceCtorEq, Nat.reduceEqDiff, Nat.reduceAdd, call146, r141_0, r141_1, p141]
 refine callK_ans (pref1_ans s p) (Grow.refl hS nilV) (fun S1 _ hG => ?_)
 simp only [SXa, reduceCtorEq, Nat.reduceEqDiff]
 exact hG
theorem rune_lo (s : ByteArray) (pos : Nat) : (-2147483648 : Int) ≤ ((Utf8.decode s pos).1 : Nat) ∧ (((Utf8.decode s pos).1 : Nat) : Int) ≤ 2147483647 := by
 have := Lib.rune_le s pos
 omega
set_option maxHeartbeats 4000000 in
theorem upperT_ans (s : ByteArray) : Ans E 139 [.sc (.string s)] (.sc (.bool (upperTF s))) := ans_of fun S hS => by
 refine ev139 rfl ?_
 simp only [SXa, reduceCtorEq, Nat.reduceEqDiff, Nat.reduceAdd, r139_0, r139_1, r139_6, p139, range9, rangeS]
 have hI := bornIt_is (S := S) s
 have hG := (Grow.refl hS nilV).bornIt s
 generalize S.bornIt s = S1 at hI hG
 refine e_loop (fun tm S' N => S' = S1 ∧ getT tm 0 = .sc (.string s) ∧ getT tm 6 = .ptr S.no 0) 1 ⟨rfl, by simp [getT_setD]⟩ ?_
 rintro tm S' N ⟨rfl, t0, t6⟩
 have hn := next_it hI
 by_cases hp : 0 < s.size
 · simp only [hp, if_true] at hn
   obtain ⟨r1, r2⟩ := rune_lo s 0
   simp only [SXa, Nat.reduceEqDiff, call135, b139_5, r139_2, r139_3, r139_4, op_next, t6, hn]
   refine callK_ans (upp_ans _ r1 r2) (hG.put S.no _ (Nat.le_refl _)) (fun S2 _ hG => ?_)
   simp only [SXa, Nat.reduceEqDiff]
   exact ⟨by simp [upperTF, runes_lt hp], hG⟩
 · simp only [hp, if_false] at hn
   simp only [SXa, Nat.reduceEqDiff, b139_5, r139_2, r139_3, r139_4, op_next, t6, hn]
   exact ⟨by simp [upperTF, runes_ge hp], hG⟩
set_option maxHeartbeats 4000000 in
theorem run_ans (may : Int → Bool) (f : FuncId) (hm : ∀ r : Int, -2147483648 ≤ r → r ≤ 2147483647 → Ans E f [.sc (.int .i32 r)] (.sc (.bool (may r)))) (hx : E.ext f = none) (s : ByteArray) : Ans E 118 [.sc (.string s), .sc (.func (.func f) #[] #[])] (.sc (.int .i64 (runF may s (runes s 0) : Nat))) := ans_of fun S hS => by
 refine ev118 rfl ?_
 simp only [SXa, reduceCtorEq, Nat.reduceEqDiff, Nat.reduceAdd, r118_0, r118_1, r118_7, p118, range9, rangeS]
 have hI := bornIt_is (S := S) s
 have hG := (Grow.refl hS nilV).bornIt s
 have hno : S.no < (S.bornIt s).no := Nat.lt_succ_self _
 refine e_loop (fun tm S' N => ∃ pos, N = s.size - pos ∧ runF may s (runes s pos) = runF may s (runes s 0) ∧ S'.IsIt S.no s pos ∧ Grow S S' nilV ∧ S.no < S'.no ∧ getT tm 0 = .sc (.string s) ∧ getT tm 1 = .sc (.func (.func f) #[] #[]) ∧ getT tm 8 = .ptr S.no 0) s.size ⟨0, by omega, rfl, hI, hG, hno, by simp [getT_setD]⟩ ?_
 rintro tm S' N ⟨pos, rfl, hr, hI, hG, hno, t0, t1, t8⟩
 have hn := next_it hI
 by_cases hp : pos < s.size
 · simp only [hp, if_true] at hn
   obtain ⟨r1, r2⟩ := rune_lo s pos
   rw [runes_lt hp] at hr
   have hw := Lib.width_pos s pos
   simp only [SXa, Nat.reduceEqDiff, b118_6, r118_2, r118_3, r118_4, r118_5, op_next, t1, t8, hn]
   rw [e_callv _ _ _ _ _ (g := f) (first := []) (cap := []) (by simp only [SXa, Nat.reduceEqDiff]; rfl) hx]
   simp only [SXa, Nat.reduceEqDiff, List.nil_append, List.append_nil]
   refine callK_ans (hm _ r1 r2) (hG.put S.no (.siter s (pos + (Utf8.decode s pos).2)) (Nat.le_refl _)) (fun S2 g2 hG2 => ?_)
   have hI2 := g2.isIt (put_it (S := S') S.no s (pos + (Utf8.decode s pos).2)) hno
   have hno2 : S.no < S2.no := Nat.lt_of_lt_of_le hno g2.no
   cases hb : may ((Utf8.decode s pos).1 : Nat) with
   | true =>
    simp only [runF, hb, cond_true] at hr
    simp only [SXa, reduceCtorEq, Nat.reduceEqDiff, t0, t1, t8]
    exact ⟨_, by omega, pos + (Utf8.decode s pos).2, rfl, hr, hI2, hG2, hno2⟩
   | false =>
    simp only [runF, hb, cond_false] at hr
    simp only [SXa, Nat.reduceEqDiff]
    exact ⟨by rw [← hr], hG2⟩
 · simp only [hp, if_false] at hn
   rw [runes_ge hp] at hr
   simp only [SXa, reduceCtorEq, Nat.reduceEqDiff, b118_6, r118_2, r118_3, r118_4, r118_5, op_next, t0, t8, hn, opLen9, len9s]
   exact ⟨by rw [← hr]; rfl, hG⟩
set_option maxHeartbeats 4000000 in
theorem digit_ans (r : Int) (h1 : -2147483648 ≤ r) (h2 : r ≤ 2147483647) : Ans E 119 [.sc (.int .i32 r)] (.sc (.bool (mayDigit r))) := ans_of fun S hS => by
 refine ev119 rfl ?_
 simp only [SXa, reduceCtorEq, Nat.reduceEqDiff, Nat.reduceAdd, call116, r119_0, r119_1, p119]
 refine callK_ans (class_ans r h1 h2) (Grow.refl hS nilV) (fun S1 _ hG => ?_)
 simp only [SXa, reduceCtorEq, Nat.reduceEqDiff]
 exact ⟨rfl, hG⟩
set_option maxHeartbeats 4000000 in
theorem letter_ans (r : Int) (h1 : -2147483648 ≤ r) (h2 : r ≤ 2147483647) : Ans E 138 [.sc (.int .i32 r)] (.sc (.bool (mayNamed r))) := ans_of fun S hS => by
 refine ev138 rfl ?_
 simp only [SXa, reduceCtorEq, Nat.reduceEqDiff, Nat.reduceAdd, call116, r138_0, r138_1, r138_2, p138]
 refine callK_ans (class_ans r h1 h2) (Grow.refl hS nilV) (fun S1 _ hG => ?_)
 simp only [SXa, reduceCtorEq, Nat.reduceEqDiff]
 repeat' (first
  | (refine condK_split (fun h => ?_) (fun h => ?_) <;> simp only [SXa, reduceCtorEq, Nat.reduceEqDiff, Nat.reduceAdd, Nat.reduceSub, Nat.reduceMul, Nat.reduceBEq, Int.reduceLT, Int.reduceLE, Int.reduceToNat, Int.reduceBEq, Int.reduceBNe, reduceIte, call116, r138_0, r138_1, r138_2, p138, h])
  | (refine guardK_split (fun h => ?_) (fun h => ?_) <;> simp only [SXa, reduceCtorEq, Nat.reduceEqDiff, h]))
 all_goals exact ⟨by simp [mayNamed, *], hG⟩
end Go.Proofs.YtmmnkemcplgebaaGreatDoor
end
end

section
section
set_option linter.unusedSimpArgs false
set_option linter.unusedVariables false
set_option maxRecDepth 100000
namespace Go.Proofs.YtmmnkemcplgebaaGreatDoor
open Go.Abs
set_option maxHeartbeats 8000000 in
theorem value_ans (s : ByteArray) : Ans E 120 [.sc (.string s)] (.tup [.sc (.int .i64 ((valueF 0 (runes s 0)).getD 0)), .sc (.bool (valueF 0 (runes s 0)).isSome)]) := ans_of fun S hS => by
 refine ev120 rfl ?_
 simp only [SXa, reduceCtorEq, Nat.reduceEqDiff, Nat.reduceAdd, r120_0, r120_1, r120_2, r120_10, p120, range9, rangeS]
 have hI := bornIt_is (S := S) s
 have hG := (Grow.refl hS nilV).bornIt s
 have hno : S.no < (S.bornIt s).no := Nat.lt_succ_self _
 refine e_loop (fun tm S' N => ∃ pos n, N = s.size - pos ∧ valueF n (runes s pos) = valueF 0 (runes s 0) ∧ S'.IsIt S.no s pos ∧ Grow S S' nilV ∧ S.no < S'.no ∧ getT tm 4 = .sc (.int .i64 n) ∧ getT tm 9 = .ptr S.no 0) s.size ⟨0, 0, by omega, rfl, hI, hG, hno, by simp [getT_setD]⟩ ?_
 rintro tm S' N ⟨pos, n, rfl, hr, hI, hG, hno, t4, t9⟩
 have hn := next_it hI
 have hq : ∀ (a : Int) (t : TypeId) (x y : Operand) (S : St), binGen E .quo t x y (.sc (.int .i64 a)) (.sc (.int .i64 10)) S = some (.sc (.int .i64 (IntKind.i64.wrap (a.tdiv 10))), S) := fun a t x y S => b_quo t x y _ _ _ (by decide)
 by_cases hp : pos < s.size
 · simp only [hp, if_true] at hn
   rw [runes_lt hp] at hr
   have hw := Lib.width_pos s pos
   have hI2 := put_it (S := S') S.no s (pos + (Utf8.decode s pos).2)
   have hG2 := hG.put S.no (.siter s (pos + (Utf8.decode s pos).2)) (Nat.le_refl _)
   simp only [SXa, Nat.reduceEqDiff, conv21_2, b120_9, r120_3, r120_4, r120_5, r120_6, r120_7, r120_8, op_next, t4, t9, hn, hq]
   cases hb : decide (IntKind.i64.wrap ((IntKind.i64.wrap (4611686018427387903 - IntKind.i64.wrap (IntKind.i32.wrap (((Utf8.decode s pos).1 : Nat) - 48)))).tdiv 10) < n) with
   | true =>
    have hb2 : decide (n ≤ IntKind.i64.wrap ((IntKind.i64.wrap (4611686018427387903 - IntKind.i64.wrap (IntKind.i32.wrap (((Utf8.decode s pos).1 : Nat) - 48)))).tdiv 10)) = false := by
     simp only [decide_eq_true_eq, decide_eq_false_iff_not] at hb ⊢; omega
    simp only [valueF, hb2, cond_false] at hr
    simp only [SXa, Nat.reduceEqDiff]
    exact ⟨by rw [← hr]; rfl, hG2⟩
   | false =>
    have hb2 : decide (n ≤ IntKind.i64.wrap ((IntKind.i64.wrap (4611686018427387903 - IntKind.i64.wrap (IntKind.i32.wrap (((Utf8.decode s pos).1 : Nat) - 48)))).tdiv 10)) = true := by
     simp only [decide_eq_true_eq, decide_eq_false_iff_not] at hb ⊢; omega
    simp only [valueF, hb2, cond_true] at hr
    simp only [SXa, Nat.reduceEqDiff, t4, t9]
    exact ⟨_, by omega, pos + (Utf8.decode s pos).2, _, rfl, hr, hI2, hG2, hno, rfl⟩
 · simp only [hp, if_false] at hn
   rw [runes_ge hp] at hr
   simp only [SXa, Nat.reduceEqDiff, b120_9, r120_3, r120_4, r120_5, r120_6, r120_7, r120_8, op_next, t4, t9, hn]
   exact ⟨by rw [← hr]; rfl, hG⟩
def wordA (w : WordV) : List AV := [.sc (.int .i64 w.kind), .sc (.string w.text), .sc (.int .i64 0), .sc (.int .i64 0)]
def zW : List AV := [.sc (.int .i64 0), .sc (.string ⟨#[]⟩), .sc (.int .i64 0), .sc (.int .i64 0)]
theorem allocW {tm : PM AV} {S : St} {d : Option Tmp} : opV E tm d (.alloc 133) S = some (.ptr S.no 0, S.born 133 zW) := alloc_of (by kernel_rfl)
theorem bldW2 (a : Int) (t : ByteArray) (S : St) : buildA E 133 [(0, .sc (.int .i64 a)), (1, .sc (.string t))] S = some (.agg [.sc (.int .i64 a), .sc (.string t), .sc (.int .i64 0), .sc (.int .i64 0)], S) := by kernel_rfl
theorem bldW0 (S : St) : buildA E 133 [] S = some (.agg zW, S) := by kernel_rfl
theorem stW (l : Nat) (a : Int) (t : ByteArray) (b c : Int) (S : St) : storeC 4 (.ptr l 0) (.agg [.sc (.int .i64 a), .sc (.string t), .sc (.int .i64 b), .sc (.int .i64 c)]) S = (S.obj l).bind fun cs => if 4 ≤ cs.length then some (passed, S.put l (.cells (.sc (.int .i64 a) :: .sc (.string t) :: .sc (.int .i64 b) :: .sc (.int .i64 c) :: cs.drop 4))) else none :=
 store_agg 4 l _ rfl
theorem fldW0 {tm : PM AV} {S : St} {d : Option Tmp} (x : Operand) : opV E tm d (.fieldAddr 133 x 0) S = fldV 0 (E.ev tm x) S := field_chk 133 0 0 (by kernel_rfl) x
theorem fldW1 {tm : PM AV} {S : St} {d : Option Tmp} (x : Operand) : opV E tm d (.fieldAddr 133 x 1) S = fldV 1 (E.ev tm x) S := field_chk 133 1 1 (by kernel_rfl) x
theorem resW {tm : PM AV} {S : St} (t : Nat) (l : List ResultVar) : resAll E tm S (.cell t 133 :: l) = (loadC true 4 (getT tm t) S).bind fun q => (resAll E tm S l).map (q.1 :: ·) := res_cell t 133 l (de := (E.und 133).getD .string) (i := (E.inf 133).getD default) (by kernel_rfl) (by kernel_rfl) (by kernel_rfl) (by kernel_rfl)
theorem bsl2 (a b : ByteArray) (S : St) : buildSliceA E 31 2 [(0, .sc (.string a)), (1, .sc (.string b))] S = some (.vec 1 1 [.sc (.string a), .sc (.string b)], S) := by kernel_rfl
theorem idxs0 (x y : ByteArray) (l : List AV) (S : St) : idxV 1 (.vec 1 1 (.sc (.string x) :: l)) (some 0) S = some (.eptr [.sc (.string x)] 0, S) := rfl
theorem idxs1 (a : AV) (x : ByteArray) (l : List AV) (S : St) : idxV 1 (.vec 1 1 (a :: .sc (.string x) :: l)) (some 1) S = some (.eptr [.sc (.string x)] 0, S) := rfl
theorem byte0 {tm : PM AV} {S : St} {d : Option Tmp} (x y : Operand) (s : ByteArray) (hx : E.ev tm x = .sc (.string s)) (hy : E.ev tm y = .sc (.int .i64 0)) (hl : 0 < s.size) : opV E tm d (.index 9 x y) S = some (.sc (.int .u8 ((s.data.toList.getD 0 0).toNat : Nat)), S) :=
 indexStr isStr9 (by kernel_rfl) x y s 0 hx hy (by decide) hl
theorem beq_u8 (a b : UInt8) : (((a.toNat : Nat) : Int) == ((b.toNat : Nat) : Int)) = (a == b) := by
 rw [Bool.eq_iff_iff]
 simp only [beq_iff_eq]
 constructor
 · intro h
   exact UInt8.toNat_inj.1 (by omega)
 · intro h; rw [h]
set_option maxHeartbeats 8000000 in
theorem marked_ans (s : ByteArray) (hs : 0 < s.size) : Ans E 121 [.sc (.string s)] (.agg (wordA (markedF s))) := ans_of fun S hS => by
 refine ev121 rfl ?_
 have hG := (Grow.refl hS nilV).born 133 zW
 have ho : (S.born 133 zW).obj S.no = some zW := by simp [born_obj]
 have hno : S.no < (S.born 133 zW).no := Nat.lt_succ_self _
 simp only [SXa, reduceCtorEq, Nat.reduceEqDiff, Nat.reduceAdd, Nat.reduceBEq, bs31, len31, r121_0, r121_1, r121_8, r121_9, r121_10, p121, allocW, bsl2]
 generalize S.born 133 zW = S1 at hG ho hno
 refine e_loop (fun tm S' N => ∃ k : Nat, k ≤ 2 ∧ N = 2 - k ∧ (1 ≤ k → prefF s ⟨#[58, 61]⟩ = false) ∧ (2 ≤ k → prefF s ⟨#[45, 62]⟩ = false) ∧ S'.obj S.no = some zW ∧ Grow S S' nilV ∧ S.no < S'.no ∧ getT tm 0 = .sc (.string s) ∧ getT tm 2 = .ptr S.no 0 ∧ getT tm 5 = .vec 1 1 [.sc (.string ⟨#[58, 61]⟩), .sc (.string ⟨#[45, 62]⟩)] ∧ getT tm 6 = .sc (.int .i64 2) ∧ getT tm 7 = .sc (.int .i64 (k : Int))) 2 ⟨0, by omega, by omega, fun h => by omega, fun h => by omega, ho, hG, hno, by simp [getT_setD]⟩ ?_
 rintro tm S' N ⟨k, hk, rfl, p1, p2, ho, hG, hno, t0, t2, t5, t6, t7⟩
 have hz := ho
 simp only [zW] at hz
 match k, hk with
 | 0, _ =>
  have t7 : getT tm 7 = .sc (.int .i64 0) := t7
  simp only [SXa, reduceCtorEq, Nat.reduceEqDiff, Nat.reduceSub, Int.reduceLT, load9, index31, call141, b121_7, r121_2, r121_3, r121_4, r121_5, r121_6, t0, t5, t6, t7, idxs0]
  refine callK_ans (pref_ans s _) hG (fun S2 g2 hG2 => ?_)
  have hz2 := g2.objs hz hno
  have ho2 := g2.objs ho hno
  have hno2 : S.no < S2.no := Nat.lt_of_lt_of_le hno g2.no
  cases hb : prefF s ⟨#[58, 61]⟩ with
  | true =>
   simp only [SXa, reduceCtorEq, Nat.reduceEqDiff, Nat.reduceAdd, store133, t2, bldW2, stW, hz2, op_build, resW, load_pb, put_obj, Option.bind_some, Nat.le_refl, Nat.zero_add]
   exact ⟨by simp [markedF, hb, wordA], hG2.put S.no _ (Nat.le_refl _)⟩
  | false =>
   simp only [SXa, reduceCtorEq, Nat.reduceEqDiff, t0, t2, t5, t6, t7]
   exact ⟨1, by omega, 1, by omega, rfl, fun _ => by first | rfl | trivial | exact hb, fun h => by omega, ho2, hG2, hno2, by simp [wrap_i64]⟩
 | 1, _ =>
  have t7 : getT tm 7 = .sc (.int .i64 1) := t7
  have hb1 := p1 (Nat.le_refl _)
  simp only [SXa, reduceCtorEq, Nat.reduceEqDiff, Nat.reduceSub, Int.reduceLT, load9, index31, call141, b121_7, r121_2, r121_3, r121_4, r121_5, r121_6, t0, t5, t6, t7, idxs1]
  refine callK_ans (pref_ans s _) hG (fun S2 g2 hG2 => ?_)
  have hz2 := g2.objs hz hno
  have ho2 := g2.objs ho hno
  have hno2 : S.no < S2.no := Nat.lt_of_lt_of_le hno g2.no
  cases hb : prefF s ⟨#[45, 62]⟩ with
  | true =>
   simp only [SXa, reduceCtorEq, Nat.reduceEqDiff, Nat.reduceAdd, store133, t2, bldW2, stW, hz2, op_build, resW, load_pb, put_obj, Option.bind_some, Nat.le_refl, Nat.zero_add]
   exact ⟨by simp [markedF, hb, hb1, wordA], hG2.put S.no _ (Nat.le_refl _)⟩
  | false =>
   simp only [SXa, reduceCtorEq, Nat.reduceEqDiff, t0, t2, t5, t6, t7]
   exact ⟨0, by omega, 2, by omega, rfl, fun _ => hb1, fun _ => by first | rfl | trivial | exact hb, ho2, hG2, hno2, by simp [wrap_i64]⟩
 | 2, _ =>
  have t7 : getT tm 7 = .sc (.int .i64 2) := t7
  have hb1 := p1 (by omega)
  have hb2 := p2 (by omega)
  have hix : ∀ (tm : PM AV) (S : St) (d : Option Tmp), getT tm 17 = .sc (.string s) → opV E tm d (.index 9 (.tmp 17) (.const (.int .i64 0))) S = some (.sc (.int .u8 ((s.data.toList.getD 0 0).toNat : Nat)), S) := fun tm S d h => byte0 _ _ s h rfl hs
  have hix2 : ∀ (tm : PM AV) (S : St) (d : Option Tmp), getT tm 21 = .sc (.string s) → opV E tm d (.index 9 (.tmp 21) (.const (.int .i64 0))) S = some (.sc (.int .u8 ((s.data.toList.getD 0 0).toNat : Nat)), S) := fun tm S d h => byte0 _ _ s h rfl hs
  have e1 : ((((s.data.toList.getD 0 0).toNat : Nat) : Int) == 62) = (s.data.toList.getD 0 0 == 62) := beq_u8 _ 62
  have e2 : ((((s.data.toList.getD 0 0).toNat : Nat) : Int) == 58) = (s.data.toList.getD 0 0 == 58) := beq_u8 _ 58
  have hsl : ∀ S, sliceA E 9 (.sc (.string s)) none (some (.sc (.int .i64 1))) S = some (.sc (.string (s.extract 0 1)), S) := fun S => sliceStr (E := E) isStr9 s (bounds_hi (b := 1) hs) S
  simp only [SXa, reduceCtorEq, Nat.reduceEqDiff, Nat.reduceSub, Int.reduceLT, b121_7, r121_2, r121_3, r121_4, r121_5, r121_6, t0, t6, t7, hix, e1]
  cases c1 : (s.data.toList.getD 0 0 == 62) with
  | true =>
   simp only [SXa, Nat.reduceEqDiff, Nat.reduceAdd, store133, t2, bldW0, zW, stW, hz, op_build, resW, load_pb, put_obj, Option.bind_some, Nat.le_refl, Nat.zero_add]
   exact ⟨by simp only [markedF, hb1, hb2, wordA, noWord, bl, c1, cond_false, cond_true, Bool.true_or], hG.put S.no _ (Nat.le_refl _)⟩
  | false =>
  simp only [SXa, reduceCtorEq, Nat.reduceEqDiff, t0, hix2, e2]
  cases c2 : (s.data.toList.getD 0 0 == 58) with
  | true =>
   simp only [SXa, Nat.reduceEqDiff, Nat.reduceAdd, store133, t2, bldW0, zW, stW, hz, op_build, resW, load_pb, put_obj, Option.bind_some, Nat.le_refl, Nat.zero_add]
   exact ⟨by simp only [markedF, hb1, hb2, wordA, noWord, bl, c1, c2, cond_false, cond_true, Bool.false_or], hG.put S.no _ (Nat.le_refl _)⟩
  | false =>
   simp only [SXa, reduceCtorEq, Nat.reduceEqDiff, Nat.reduceAdd, store133, t0, t2, hsl, bldW2, stW, hz, op_build, resW, load_pb, put_obj, Option.bind_some, Nat.le_refl, Nat.zero_add]
   exact ⟨by simp only [markedF, hb1, hb2, wordA, noWord, bl, c1, c2, cond_false, Bool.false_or, cutB], hG.put S.no _ (Nat.le_refl _)⟩
theorem runF_le (may : Int → Bool) (s : ByteArray) : ∀ (n pos : Nat), s.size - pos ≤ n → runF may s (runes s pos) ≤ s.size
 | 0, pos, h => by
  rw [runes_ge (by omega)]; exact Nat.le_refl _
 | n + 1, pos, h => by
  by_cases hp : pos < s.size
  · have hw := Lib.width_pos s pos
    rw [runes_lt hp]
    unfold runF
    cases may ((Utf8.decode s pos).1 : Nat) with
    | true => exact runF_le may s n _ (by omega)
    | false => exact Nat.le_of_lt hp
  · rw [runes_ge hp]; exact Nat.le_refl _
set_option maxHeartbeats 8000000 in
theorem named_ans (s : ByteArray) : Ans E 117 [.sc (.string s)] (.agg (wordA (namedF s))) := ans_of fun S hS => by
 refine ev117 rfl ?_
 have hG := (Grow.refl hS nilV).born 133 zW
 have ho : (S.born 133 zW).obj S.no = some zW := by simp [born_obj]
 have hno : S.no < (S.born 133 zW).no := Nat.lt_succ_self _
 have hle := runF_le mayNamed s s.size 0 (by omega)
 have hsl := fun S => sliceStr (E := E) isStr9 s (bounds_hi hle) S
 simp only [SXa, reduceCtorEq, Nat.reduceEqDiff, Nat.reduceAdd, call118, r117_0, r117_1, r117_2, r117_3, r117_4, r117_5, r117_6, r117_7, p117, allocW]
 generalize S.born 133 zW = S1 at hG ho hno
 refine callK_ans (run_ans mayNamed 138 letter_ans rfl s) hG (fun S2 g2 hG => ?_)
 have ho := g2.objs ho hno
 have hno2 : S.no < S2.no := Nat.lt_of_lt_of_le hno g2.no
 have hne : S.no ≠ S2.no := by omega
 have hne' : (S.no = S2.no) = False := by simp [hne]
 have hG3 := (hG.born 133 zW).put S2.no (.cells [.sc (.int .i64 2), .sc (.string (s.extract 0 (runF mayNamed s (runes s 0)))), .sc (.int .i64 0), .sc (.int .i64 0)]) (Nat.le_of_lt hno2)
 have h3 : ((S2.born 133 zW).put S2.no (.cells [.sc (.int .i64 2), .sc (.string (s.extract 0 (runF mayNamed s (runes s 0)))), .sc (.int .i64 0), .sc (.int .i64 0)])).obj S2.no = some [.sc (.int .i64 2), .sc (.string (s.extract 0 (runF mayNamed s (runes s 0)))), .sc (.int .i64 0), .sc (.int .i64 0)] := by simp [put_obj]
 have ho3 : ((S2.born 133 zW).put S2.no (.cells [.sc (.int .i64 2), .sc (.string (s.extract 0 (runF mayNamed s (runes s 0)))), .sc (.int .i64 0), .sc (.int .i64 0)])).obj S.no = some zW := by simp [put_obj, born_obj, hne, ho]
 have hn3 : S2.no < ((S2.born 133 zW).put S2.no (.cells [.sc (.int .i64 2), .sc (.string (s.extract 0 (runF mayNamed s (runes s 0)))), .sc (.int .i64 0), .sc (.int .i64 0)])).no := Nat.lt_succ_self _
 simp only [zW] at hG3 h3 ho3 hn3
 simp only [SXa, reduceCtorEq, Nat.reduceEqDiff, Nat.reduceAdd, store133, call139, hsl, op_build, bldW2, allocW, stW, born_obj, Option.bind_some, zW, List.drop_nil, Nat.zero_add, Nat.le_refl]
 generalize ((S2.born 133 [.sc (.int .i64 0), .sc (.string ⟨#[]⟩), .sc (.int .i64 0), .sc (.int .i64 0)]).put S2.no (.cells [.sc (.int .i64 2), .sc (.string (s.extract 0 (runF mayNamed s (runes s 0)))), .sc (.int .i64 0), .sc (.int .i64 0)])) = S3 at hG3 h3 ho3 hn3
 refine callK_ans (upperT_ans s) hG3 (fun S4 g4 hG4 => ?_)
 have h4 := g4.objs h3 hn3
 have ho4 := g4.objs ho3 (by omega)
 have hn4 : S2.no < S4.no := Nat.lt_of_lt_of_le hn3 g4.no
 cases hu : upperTF s with
 | true =>
  simp only [SXa, reduceCtorEq, Nat.reduceEqDiff, Nat.reduceAdd, store3, load133, store133, fldW0, fld_p, store_int, h4, ho4, stW, resW, load_pb, put_obj, hne', Option.bind_some, Nat.add_zero, List.set_cons_zero, Nat.zero_lt_succ, Nat.le_refl, List.drop_nil, Nat.zero_add]
  exact ⟨by simp only [namedF, hu, cond_true, wordA, cutB], (hG4.put S2.no _ (Nat.le_of_lt hno2)).put S.no _ (Nat.le_refl _)⟩
 | false =>
  simp only [SXa, reduceCtorEq, Nat.reduceEqDiff, load9, call140, fldW1, fld_p, h4, load_pb, Option.bind_some, Nat.zero_add]
  refine callK_ans (isKey_ans _) hG4 (fun S5 g5 hG5 => ?_)
  have h5 := g5.objs h4 hn4
  have ho5 := g5.objs ho4 (by omega)
  cases hk : isKeyF (s.extract 0 (runF mayNamed s (runes s 0))) with
  | true =>
   simp only [SXa, reduceCtorEq, Nat.reduceEqDiff, Nat.reduceAdd, store3, load133, store133, fldW0, fld_p, store_int, h5, ho5, stW, resW, load_pb, put_obj, hne', Option.bind_some, Nat.add_zero, List.set_cons_zero, Nat.zero_lt_succ, Nat.le_refl, List.drop_nil, Nat.zero_add]
   exact ⟨by simp only [namedF, hu, hk, cond_true, cond_false, wordA, cutB], (hG5.put S2.no _ (Nat.le_of_lt hno2)).put S.no _ (Nat.le_refl _)⟩
  | false =>
   simp only [SXa, reduceCtorEq, Nat.reduceEqDiff, Nat.reduceAdd, load133, store133, h5, ho5, stW, resW, load_pb, put_obj, Option.bind_some, Nat.le_refl, List.drop_nil, Nat.zero_add]
   exact ⟨by simp only [namedF, hu, hk, cond_false, wordA, cutB], hG5.put S.no _ (Nat.le_refl _)⟩
end Go.Proofs.YtmmnkemcplgebaaGreatDoor
end
end
