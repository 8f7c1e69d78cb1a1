/-
  Words of a text: the walks (words, names).
-/
import Derived.Test.YtmmnkemcplgebaaGreatDoorFP
section
set_option linter.unusedSimpArgs false
set_option linter.unusedVariables false
set_option maxRecDepth 100000
namespace Go.Proofs.YtmmnkemcplgebaaGreatDoor
open Go.Abs
set_option maxHeartbeats 8000000 in
theorem value_ans (s : ByteArray) : Ans E 120 [.sc (.string s)] (.tup [.sc (.int .i64 ((valueF 0 (runes s 0)).getD 0)), .sc (.bool (valueF 0 (runes s 0)).isSome)]) := ans_of fun S hS => by
  refine ev120 rfl ?_
  simp only [SXa, reduceCtorEq, Nat.reduceEqDiff, Nat.reduceAdd, Nat.reduceSub, Nat.reduceMul, Nat.reduceBEq, Int.reduceLT, Int.reduceLE, Int.reduceToNat, Int.reduceBEq, Int.reduceBNe, reduceIte, conv21_2, r120_0, r120_1, r120_2, r120_3, r120_4, r120_5, r120_6, r120_7, r120_8, r120_10, p120, range9, rangeS]
  have hI := bornIt_is (S := S) s
  have hG := (Grow.refl hS nilV).bornIt s
  have hno : S.no < (S.bornIt s).no := Nat.lt_succ_self _
  refine e_loop (fun tm S' N => ∃ pos n, N = s.size - pos ∧ valueF n (runes s pos) = valueF 0 (runes s 0) ∧ S'.IsIt S.no s pos ∧ Grow S S' nilV ∧ S.no < S'.no ∧ getT tm 4 = .sc (.int .i64 n) ∧ getT tm 9 = .ptr S.no 0) s.size ⟨0, 0, by omega, rfl, hI, hG, hno, by simp [getT_setD]⟩ ?_
  rintro tm S' N ⟨pos, n, rfl, hr, hI, hG, hno, t4, t9⟩
  have hn := next_it hI
  have hq : ∀ (a : Int) (t : TypeId) (x y : Operand) (S : St), binGen E .quo t x y (.sc (.int .i64 a)) (.sc (.int .i64 10)) S = some (.sc (.int .i64 (IntKind.i64.wrap (a.tdiv 10))), S) := fun a t x y S => b_quo t x y _ _ _ (by decide)
  by_cases hp : pos < s.size
  · simp only [hp, if_true] at hn
    rw [runes_lt hp] at hr
    have hw := Lib.width_pos s pos
    have hI2 := put_it (S := S') S.no s (pos + (Utf8.decode s pos).2)
    have hG2 := hG.put S.no (.siter s (pos + (Utf8.decode s pos).2)) (Nat.le_refl _)
    simp only [SXa, reduceCtorEq, Nat.reduceEqDiff, Nat.reduceAdd, Nat.reduceSub, Nat.reduceMul, Nat.reduceBEq, Int.reduceLT, Int.reduceLE, Int.reduceToNat, Int.reduceBEq, Int.reduceBNe, reduceIte, conv21_2, b120_9, r120_0, r120_1, r120_2, r120_3, r120_4, r120_5, r120_6, r120_7, r120_8, r120_10, p120, op_next, t4, t9, hn, hq]
    cases hb : decide (IntKind.i64.wrap ((IntKind.i64.wrap (4611686018427387903 - IntKind.i64.wrap (IntKind.i32.wrap (((Utf8.decode s pos).1 : Nat) - 48)))).tdiv 10) < n) with
    | true =>
      have hb2 : decide (n ≤ IntKind.i64.wrap ((IntKind.i64.wrap (4611686018427387903 - IntKind.i64.wrap (IntKind.i32.wrap (((Utf8.decode s pos).1 : Nat) - 48)))).tdiv 10)) = false := by
        simp only [decide_eq_true_eq, decide_eq_false_iff_not] at hb ⊢; omega
      simp only [valueF, hb2, cond_false] at hr
      simp only [SXa, reduceCtorEq, Nat.reduceEqDiff, Nat.reduceAdd, Nat.reduceSub, Nat.reduceMul, Nat.reduceBEq, Int.reduceLT, Int.reduceLE, Int.reduceToNat, Int.reduceBEq, Int.reduceBNe, reduceIte, conv21_2, r120_0, r120_1, r120_2, r120_3, r120_4, r120_5, r120_6, r120_7, r120_8, r120_10, p120, t4, t9]
      exact ⟨by rw [← hr]; rfl, hG2⟩
    | false =>
      have hb2 : decide (n ≤ IntKind.i64.wrap ((IntKind.i64.wrap (4611686018427387903 - IntKind.i64.wrap (IntKind.i32.wrap (((Utf8.decode s pos).1 : Nat) - 48)))).tdiv 10)) = true := by
        simp only [decide_eq_true_eq, decide_eq_false_iff_not] at hb ⊢; omega
      simp only [valueF, hb2, cond_true] at hr
      simp only [SXa, reduceCtorEq, Nat.reduceEqDiff, Nat.reduceAdd, Nat.reduceSub, Nat.reduceMul, Nat.reduceBEq, Int.reduceLT, Int.reduceLE, Int.reduceToNat, Int.reduceBEq, Int.reduceBNe, reduceIte, conv21_2, r120_0, r120_1, r120_2, r120_3, r120_4, r120_5, r120_6, r120_7, r120_8, r120_10, p120, t4, t9]
      exact ⟨_, by omega, pos + (Utf8.decode s pos).2, _, rfl, hr, hI2, hG2, hno, rfl⟩
  · simp only [hp, if_false] at hn
    rw [runes_ge hp] at hr
    simp only [SXa, reduceCtorEq, Nat.reduceEqDiff, Nat.reduceAdd, Nat.reduceSub, Nat.reduceMul, Nat.reduceBEq, Int.reduceLT, Int.reduceLE, Int.reduceToNat, Int.reduceBEq, Int.reduceBNe, reduceIte, conv21_2, b120_9, r120_0, r120_1, r120_2, r120_3, r120_4, r120_5, r120_6, r120_7, r120_8, r120_10, p120, op_next, t4, t9, hn]
    exact ⟨by rw [← hr]; rfl, hG⟩
/-- A word's cells. -/
def wordA (w : WordV) : List AV := [.sc (.int .i64 w.kind), .sc (.string w.text), .sc (.int .i64 0), .sc (.int .i64 0)]
def zW : List AV := [.sc (.int .i64 0), .sc (.string ⟨#[]⟩), .sc (.int .i64 0), .sc (.int .i64 0)]
theorem allocW {tm : PM AV} {S : St} {d : Option Tmp} : opV E tm d (.alloc 133) S = some (.ptr S.no 0, S.born 133 zW) := alloc_of (by kernel_rfl)
theorem bldW2 (a : Int) (t : ByteArray) (S : St) : buildA E 133 [(0, .sc (.int .i64 a)), (1, .sc (.string t))] S = some (.agg [.sc (.int .i64 a), .sc (.string t), .sc (.int .i64 0), .sc (.int .i64 0)], S) := by kernel_rfl
theorem bldW0 (S : St) : buildA E 133 [] S = some (.agg zW, S) := by kernel_rfl
theorem stW (l : Nat) (a : Int) (t : ByteArray) (b c : Int) (S : St) : storeC 4 (.ptr l 0) (.agg [.sc (.int .i64 a), .sc (.string t), .sc (.int .i64 b), .sc (.int .i64 c)]) S = (S.obj l).bind fun cs => if 4 ≤ cs.length then some (passed, S.put l (.cells (.sc (.int .i64 a) :: .sc (.string t) :: .sc (.int .i64 b) :: .sc (.int .i64 c) :: cs.drop 4))) else none :=
  store_agg 4 l _ rfl
theorem fldW0 {tm : PM AV} {S : St} {d : Option Tmp} (x : Operand) : opV E tm d (.fieldAddr 133 x 0) S = fldV 0 (E.ev tm x) S := field_chk 133 0 0 (by kernel_rfl) x
theorem fldW1 {tm : PM AV} {S : St} {d : Option Tmp} (x : Operand) : opV E tm d (.fieldAddr 133 x 1) S = fldV 1 (E.ev tm x) S := field_chk 133 1 1 (by kernel_rfl) x
theorem resW {tm : PM AV} {S : St} (t : Nat) (l : List ResultVar) : resAll E tm S (.cell t 133 :: l) = (loadC true 4 (getT tm t) S).bind fun q => (resAll E tm S l).map (q.1 :: ·) := res_cell t 133 l (de := (E.und 133).getD .string) (i := (E.inf 133).getD default) (by kernel_rfl) (by kernel_rfl) (by kernel_rfl) (by kernel_rfl)
theorem bsl2 (a b : ByteArray) (S : St) : buildSliceA E 31 2 [(0, .sc (.string a)), (1, .sc (.string b))] S = some (.vec 1 1 [.sc (.string a), .sc (.string b)], S) := by kernel_rfl
theorem idxs0 (x y : ByteArray) (l : List AV) (S : St) : idxV 1 (.vec 1 1 (.sc (.string x) :: l)) (some 0) S = some (.eptr [.sc (.string x)] 0, S) := rfl
theorem idxs1 (a : AV) (x : ByteArray) (l : List AV) (S : St) : idxV 1 (.vec 1 1 (a :: .sc (.string x) :: l)) (some 1) S = some (.eptr [.sc (.string x)] 0, S) := rfl
theorem byte0 {tm : PM AV} {S : St} {d : Option Tmp} (x y : Operand) (s : ByteArray) (hx : E.ev tm x = .sc (.string s)) (hy : E.ev tm y = .sc (.int .i64 0)) (hl : 0 < s.size) : opV E tm d (.index 9 x y) S = some (.sc (.int .u8 ((s.data.toList.getD 0 0).toNat : Nat)), S) :=
  indexStr isStr9 (by kernel_rfl) x y s 0 hx hy (by decide) hl
theorem beq_u8 (a b : UInt8) : (((a.toNat : Nat) : Int) == ((b.toNat : Nat) : Int)) = (a == b) := by
  rw [Bool.eq_iff_iff]
  simp only [beq_iff_eq]
  constructor
  · intro h
    exact UInt8.toNat_inj.1 (by omega)
  · intro h; rw [h]
set_option maxHeartbeats 8000000 in
theorem marked_ans (s : ByteArray) (hs : 0 < s.size) : Ans E 121 [.sc (.string s)] (.agg (wordA (markedF s))) := ans_of fun S hS => by
  refine ev121 rfl ?_
  have hG := (Grow.refl hS nilV).born 133 zW
  have ho : (S.born 133 zW).obj S.no = some zW := by simp [born_obj]
  have hno : S.no < (S.born 133 zW).no := Nat.lt_succ_self _
  simp only [SXa, reduceCtorEq, Nat.reduceEqDiff, Nat.reduceAdd, Nat.reduceSub, Nat.reduceMul, Nat.reduceBEq, Int.reduceLT, Int.reduceLE, Int.reduceToNat, Int.reduceBEq, Int.reduceBNe, reduceIte, load9, bs31, index31, len31, store133, call141, r121_0, r121_1, r121_2, r121_3, r121_4, r121_5, r121_6, r121_8, r121_9, r121_10, p121, allocW, bsl2]
  generalize S.born 133 zW = S1 at hG ho hno
  refine e_loop (fun tm S' N => ∃ k : Nat, k ≤ 2 ∧ N = 2 - k ∧ (1 ≤ k → prefF s ⟨#[58, 61]⟩ = false) ∧ (2 ≤ k → prefF s ⟨#[45, 62]⟩ = false) ∧ S'.obj S.no = some zW ∧ Grow S S' nilV ∧ S.no < S'.no ∧ getT tm 0 = .sc (.string s) ∧ getT tm 2 = .ptr S.no 0 ∧ getT tm 5 = .vec 1 1 [.sc (.string ⟨#[58, 61]⟩), .sc (.string ⟨#[45, 62]⟩)] ∧ getT tm 6 = .sc (.int .i64 2) ∧ getT tm 7 = .sc (.int .i64 (k : Int))) 2 ⟨0, by omega, by omega, fun h => by omega, fun h => by omega, ho, hG, hno, by simp [getT_setD]⟩ ?_
  rintro tm S' N ⟨k, hk, rfl, p1, p2, ho, hG, hno, t0, t2, t5, t6, t7⟩
  have hz := ho
  simp only [zW] at hz
  match k, hk with
  | 0, _ =>
    have t7 : getT tm 7 = .sc (.int .i64 0) := t7
    simp only [SXa, reduceCtorEq, Nat.reduceEqDiff, Nat.reduceAdd, Nat.reduceSub, Nat.reduceMul, Nat.reduceBEq, Int.reduceLT, Int.reduceLE, Int.reduceToNat, Int.reduceBEq, Int.reduceBNe, reduceIte, load9, bs31, index31, len31, store133, call141, b121_7, r121_0, r121_1, r121_2, r121_3, r121_4, r121_5, r121_6, r121_8, r121_9, r121_10, p121, t0, t2, t5, t6, t7, idxs0]
    refine callK_ans (pref_ans s _) hG (fun S2 g2 hG2 => ?_)
    have hz2 := g2.objs hz hno
    have ho2 := g2.objs ho hno
    have hno2 : S.no < S2.no := Nat.lt_of_lt_of_le hno g2.no
    cases hb : prefF s ⟨#[58, 61]⟩ with
    | true =>
      simp only [SXa, reduceCtorEq, Nat.reduceEqDiff, Nat.reduceAdd, Nat.reduceSub, Nat.reduceMul, Nat.reduceBEq, Int.reduceLT, Int.reduceLE, Int.reduceToNat, Int.reduceBEq, Int.reduceBNe, reduceIte, load9, bs31, index31, len31, store133, call141, r121_0, r121_1, r121_2, r121_3, r121_4, r121_5, r121_6, r121_8, r121_9, r121_10, p121, t0, t2, t5, t6, t7, bldW2, stW, hz2, op_build, resW, load_pb, put_obj, Option.bind_some, Nat.le_refl, Nat.zero_add]
      exact ⟨by simp [markedF, hb, wordA], hG2.put S.no _ (Nat.le_refl _)⟩
    | false =>
      simp only [SXa, reduceCtorEq, Nat.reduceEqDiff, Nat.reduceAdd, Nat.reduceSub, Nat.reduceMul, Nat.reduceBEq, Int.reduceLT, Int.reduceLE, Int.reduceToNat, Int.reduceBEq, Int.reduceBNe, reduceIte, load9, bs31, index31, len31, store133, call141, r121_0, r121_1, r121_2, r121_3, r121_4, r121_5, r121_6, r121_8, r121_9, r121_10, p121, t0, t2, t5, t6, t7]
      exact ⟨1, by omega, 1, by omega, rfl, fun _ => by first | rfl | trivial | exact hb, fun h => by omega, ho2, hG2, hno2, by simp [t0, t2, t5, t6, wrap_i64]⟩
  | 1, _ =>
    have t7 : getT tm 7 = .sc (.int .i64 1) := t7
    have hb1 := p1 (Nat.le_refl _)
    simp only [SXa, reduceCtorEq, Nat.reduceEqDiff, Nat.reduceAdd, Nat.reduceSub, Nat.reduceMul, Nat.reduceBEq, Int.reduceLT, Int.reduceLE, Int.reduceToNat, Int.reduceBEq, Int.reduceBNe, reduceIte, load9, bs31, index31, len31, store133, call141, b121_7, r121_0, r121_1, r121_2, r121_3, r121_4, r121_5, r121_6, r121_8, r121_9, r121_10, p121, t0, t2, t5, t6, t7, idxs1]
    refine callK_ans (pref_ans s _) hG (fun S2 g2 hG2 => ?_)
    have hz2 := g2.objs hz hno
    have ho2 := g2.objs ho hno
    have hno2 : S.no < S2.no := Nat.lt_of_lt_of_le hno g2.no
    cases hb : prefF s ⟨#[45, 62]⟩ with
    | true =>
      simp only [SXa, reduceCtorEq, Nat.reduceEqDiff, Nat.reduceAdd, Nat.reduceSub, Nat.reduceMul, Nat.reduceBEq, Int.reduceLT, Int.reduceLE, Int.reduceToNat, Int.reduceBEq, Int.reduceBNe, reduceIte, load9, bs31, index31, len31, store133, call141, r121_0, r121_1, r121_2, r121_3, r121_4, r121_5, r121_6, r121_8, r121_9, r121_10, p121, t0, t2, t5, t6, t7, bldW2, stW, hz2, op_build, resW, load_pb, put_obj, Option.bind_some, Nat.le_refl, Nat.zero_add]
      exact ⟨by simp [markedF, hb, hb1, wordA], hG2.put S.no _ (Nat.le_refl _)⟩
    | false =>
      simp only [SXa, reduceCtorEq, Nat.reduceEqDiff, Nat.reduceAdd, Nat.reduceSub, Nat.reduceMul, Nat.reduceBEq, Int.reduceLT, Int.reduceLE, Int.reduceToNat, Int.reduceBEq, Int.reduceBNe, reduceIte, load9, bs31, index31, len31, store133, call141, r121_0, r121_1, r121_2, r121_3, r121_4, r121_5, r121_6, r121_8, r121_9, r121_10, p121, t0, t2, t5, t6, t7]
      exact ⟨0, by omega, 2, by omega, rfl, fun _ => hb1, fun _ => by first | rfl | trivial | exact hb, ho2, hG2, hno2, by simp [t0, t2, t5, t6, wrap_i64]⟩
  | 2, _ =>
    have t7 : getT tm 7 = .sc (.int .i64 2) := t7
    have hb1 := p1 (by omega)
    have hb2 := p2 (by omega)
    have hix : ∀ (tm : PM AV) (S : St) (d : Option Tmp), getT tm 17 = .sc (.string s) → opV E tm d (.index 9 (.tmp 17) (.const (.int .i64 0))) S = some (.sc (.int .u8 ((s.data.toList.getD 0 0).toNat : Nat)), S) := fun tm S d h => byte0 _ _ s h rfl hs
    have hix2 : ∀ (tm : PM AV) (S : St) (d : Option Tmp), getT tm 21 = .sc (.string s) → opV E tm d (.index 9 (.tmp 21) (.const (.int .i64 0))) S = some (.sc (.int .u8 ((s.data.toList.getD 0 0).toNat : Nat)), S) := fun tm S d h => byte0 _ _ s h rfl hs
    have e1 : ((((s.data.toList.getD 0 0).toNat : Nat) : Int) == 62) = (s.data.toList.getD 0 0 == 62) := beq_u8 _ 62
    have e2 : ((((s.data.toList.getD 0 0).toNat : Nat) : Int) == 58) = (s.data.toList.getD 0 0 == 58) := beq_u8 _ 58
    have hsl : ∀ S, sliceA E 9 (.sc (.string s)) none (some (.sc (.int .i64 1))) S = some (.sc (.string (s.extract 0 1)), S) := fun S => sliceStr (E := E) isStr9 s (bounds_hi (b := 1) hs) S
    simp only [SXa, reduceCtorEq, Nat.reduceEqDiff, Nat.reduceAdd, Nat.reduceSub, Nat.reduceMul, Nat.reduceBEq, Int.reduceLT, Int.reduceLE, Int.reduceToNat, Int.reduceBEq, Int.reduceBNe, reduceIte, load9, bs31, index31, len31, store133, call141, b121_7, r121_0, r121_1, r121_2, r121_3, r121_4, r121_5, r121_6, r121_8, r121_9, r121_10, p121, t0, t2, t5, t6, t7, hix, hix2, e1, e2]
    cases c1 : (s.data.toList.getD 0 0 == 62) with
    | true =>
      simp only [SXa, reduceCtorEq, Nat.reduceEqDiff, Nat.reduceAdd, Nat.reduceSub, Nat.reduceMul, Nat.reduceBEq, Int.reduceLT, Int.reduceLE, Int.reduceToNat, Int.reduceBEq, Int.reduceBNe, reduceIte, load9, bs31, index31, len31, store133, call141, r121_0, r121_1, r121_2, r121_3, r121_4, r121_5, r121_6, r121_8, r121_9, r121_10, p121, t0, t2, t5, t6, t7, bldW0, zW, stW, hz, op_build, resW, load_pb, put_obj, Option.bind_some, Nat.le_refl, Nat.zero_add]
      exact ⟨by simp only [markedF, hb1, hb2, wordA, noWord, bl, c1, cond_false, cond_true, Bool.true_or], hG.put S.no _ (Nat.le_refl _)⟩
    | false =>
    simp only [SXa, reduceCtorEq, Nat.reduceEqDiff, Nat.reduceAdd, Nat.reduceSub, Nat.reduceMul, Nat.reduceBEq, Int.reduceLT, Int.reduceLE, Int.reduceToNat, Int.reduceBEq, Int.reduceBNe, reduceIte, load9, bs31, index31, len31, store133, call141, r121_0, r121_1, r121_2, r121_3, r121_4, r121_5, r121_6, r121_8, r121_9, r121_10, p121, t0, t2, t5, t6, t7, hix, hix2, e1, e2]
    cases c2 : (s.data.toList.getD 0 0 == 58) with
    | true =>
      simp only [SXa, reduceCtorEq, Nat.reduceEqDiff, Nat.reduceAdd, Nat.reduceSub, Nat.reduceMul, Nat.reduceBEq, Int.reduceLT, Int.reduceLE, Int.reduceToNat, Int.reduceBEq, Int.reduceBNe, reduceIte, load9, bs31, index31, len31, store133, call141, r121_0, r121_1, r121_2, r121_3, r121_4, r121_5, r121_6, r121_8, r121_9, r121_10, p121, t0, t2, t5, t6, t7, bldW0, zW, stW, hz, op_build, resW, load_pb, put_obj, Option.bind_some, Nat.le_refl, Nat.zero_add]
      exact ⟨by simp only [markedF, hb1, hb2, wordA, noWord, bl, c1, c2, cond_false, cond_true, Bool.false_or], hG.put S.no _ (Nat.le_refl _)⟩
    | false =>
      simp only [SXa, reduceCtorEq, Nat.reduceEqDiff, Nat.reduceAdd, Nat.reduceSub, Nat.reduceMul, Nat.reduceBEq, Int.reduceLT, Int.reduceLE, Int.reduceToNat, Int.reduceBEq, Int.reduceBNe, reduceIte, load9, bs31, index31, len31, store133, call141, r121_0, r121_1, r121_2, r121_3, r121_4, r121_5, r121_6, r121_8, r121_9, r121_10, p121, t0, t2, t5, t6, t7, hsl, Int.ofNat_one, bldW2, stW, hz, op_build, resW, load_pb, put_obj, Option.bind_some, Nat.le_refl, Nat.zero_add]
      exact ⟨by simp only [markedF, hb1, hb2, wordA, noWord, bl, c1, c2, cond_false, Bool.false_or, cutB], hG.put S.no _ (Nat.le_refl _)⟩
theorem runF_le (may : Int → Bool) (s : ByteArray) : ∀ (n pos : Nat), s.size - pos ≤ n → runF may s (runes s pos) ≤ s.size
  | 0, pos, h => by
    rw [runes_ge (by omega)]; exact Nat.le_refl _
  | n + 1, pos, h => by
    by_cases hp : pos < s.size
    · have hw := Lib.width_pos s pos
      rw [runes_lt hp]
      unfold runF
      cases may ((Utf8.decode s pos).1 : Nat) with
      | true => exact runF_le may s n _ (by omega)
      | false => exact Nat.le_of_lt hp
    · rw [runes_ge hp]; exact Nat.le_refl _
set_option maxHeartbeats 8000000 in
theorem named_ans (s : ByteArray) : Ans E 117 [.sc (.string s)] (.agg (wordA (namedF s))) := ans_of fun S hS => by
  refine ev117 rfl ?_
  have hG := (Grow.refl hS nilV).born 133 zW
  have ho : (S.born 133 zW).obj S.no = some zW := by simp [born_obj]
  have hno : S.no < (S.born 133 zW).no := Nat.lt_succ_self _
  have hle := runF_le mayNamed s s.size 0 (by omega)
  have hsl := fun S => sliceStr (E := E) isStr9 s (bounds_hi hle) S
  simp only [SXa, reduceCtorEq, Nat.reduceEqDiff, Nat.reduceAdd, Nat.reduceSub, Nat.reduceMul, Nat.reduceBEq, Int.reduceLT, Int.reduceLE, Int.reduceToNat, Int.reduceBEq, Int.reduceBNe, reduceIte, store3, load9, load133, store133, call118, call139, call140, r117_0, r117_1, r117_2, r117_3, r117_4, r117_5, r117_6, r117_7, p117, allocW]
  generalize S.born 133 zW = S1 at hG ho hno
  refine callK_ans (run_ans mayNamed 138 letter_ans rfl s) hG (fun S2 g2 hG => ?_)
  have ho := g2.objs ho hno
  have hno2 : S.no < S2.no := Nat.lt_of_lt_of_le hno g2.no
  have hne : S.no ≠ S2.no := by omega
  have hne' : (S.no = S2.no) = False := by simp [hne]
  have hG3 := (hG.born 133 zW).put S2.no (.cells [.sc (.int .i64 2), .sc (.string (s.extract 0 (runF mayNamed s (runes s 0)))), .sc (.int .i64 0), .sc (.int .i64 0)]) (Nat.le_of_lt hno2)
  have h3 : ((S2.born 133 zW).put S2.no (.cells [.sc (.int .i64 2), .sc (.string (s.extract 0 (runF mayNamed s (runes s 0)))), .sc (.int .i64 0), .sc (.int .i64 0)])).obj S2.no = some [.sc (.int .i64 2), .sc (.string (s.extract 0 (runF mayNamed s (runes s 0)))), .sc (.int .i64 0), .sc (.int .i64 0)] := by simp [put_obj]
  have ho3 : ((S2.born 133 zW).put S2.no (.cells [.sc (.int .i64 2), .sc (.string (s.extract 0 (runF mayNamed s (runes s 0)))), .sc (.int .i64 0), .sc (.int .i64 0)])).obj S.no = some zW := by simp [put_obj, born_obj, hne, ho]
  have hn3 : S2.no < ((S2.born 133 zW).put S2.no (.cells [.sc (.int .i64 2), .sc (.string (s.extract 0 (runF mayNamed s (runes s 0)))), .sc (.int .i64 0), .sc (.int .i64 0)])).no := Nat.lt_succ_self _
  simp only [zW] at hG3 h3 ho3 hn3
  simp only [SXa, reduceCtorEq, Nat.reduceEqDiff, Nat.reduceAdd, Nat.reduceSub, Nat.reduceMul, Nat.reduceBEq, Int.reduceLT, Int.reduceLE, Int.reduceToNat, Int.reduceBEq, Int.reduceBNe, reduceIte, store3, load9, load133, store133, call118, call139, call140, r117_0, r117_1, r117_2, r117_3, r117_4, r117_5, r117_6, r117_7, p117, hsl, op_build, bldW2, allocW, stW, born_obj, Option.bind_some, zW, List.drop_nil, Nat.zero_add, Nat.le_refl]
  generalize ((S2.born 133 [.sc (.int .i64 0), .sc (.string ⟨#[]⟩), .sc (.int .i64 0), .sc (.int .i64 0)]).put S2.no (.cells [.sc (.int .i64 2), .sc (.string (s.extract 0 (runF mayNamed s (runes s 0)))), .sc (.int .i64 0), .sc (.int .i64 0)])) = S3 at hG3 h3 ho3 hn3
  refine callK_ans (upperT_ans s) hG3 (fun S4 g4 hG4 => ?_)
  have h4 := g4.objs h3 hn3
  have ho4 := g4.objs ho3 (by omega)
  have hn4 : S2.no < S4.no := Nat.lt_of_lt_of_le hn3 g4.no
  cases hu : upperTF s with
  | true =>
    simp only [SXa, reduceCtorEq, Nat.reduceEqDiff, Nat.reduceAdd, Nat.reduceSub, Nat.reduceMul, Nat.reduceBEq, Int.reduceLT, Int.reduceLE, Int.reduceToNat, Int.reduceBEq, Int.reduceBNe, reduceIte, store3, load9, load133, store133, call118, call139, call140, r117_0, r117_1, r117_2, r117_3, r117_4, r117_5, r117_6, r117_7, p117, fldW0, fld_p, store_int, h4, ho4, stW, resW, load_pb, put_obj, hne', Option.bind_some, Nat.add_zero, List.set_cons_zero, Nat.zero_lt_succ, Nat.le_refl, List.drop_nil, Nat.zero_add]
    exact ⟨by simp only [namedF, hu, cond_true, wordA, cutB], (hG4.put S2.no _ (Nat.le_of_lt hno2)).put S.no _ (Nat.le_refl _)⟩
  | false =>
    simp only [SXa, reduceCtorEq, Nat.reduceEqDiff, Nat.reduceAdd, Nat.reduceSub, Nat.reduceMul, Nat.reduceBEq, Int.reduceLT, Int.reduceLE, Int.reduceToNat, Int.reduceBEq, Int.reduceBNe, reduceIte, store3, load9, load133, store133, call118, call139, call140, r117_0, r117_1, r117_2, r117_3, r117_4, r117_5, r117_6, r117_7, p117, fldW1, fld_p, h4, load_pb, Option.bind_some, Nat.zero_add]
    refine callK_ans (isKey_ans _) hG4 (fun S5 g5 hG5 => ?_)
    have h5 := g5.objs h4 hn4
    have ho5 := g5.objs ho4 (by omega)
    cases hk : isKeyF (s.extract 0 (runF mayNamed s (runes s 0))) with
    | true =>
      simp only [SXa, reduceCtorEq, Nat.reduceEqDiff, Nat.reduceAdd, Nat.reduceSub, Nat.reduceMul, Nat.reduceBEq, Int.reduceLT, Int.reduceLE, Int.reduceToNat, Int.reduceBEq, Int.reduceBNe, reduceIte, store3, load9, load133, store133, call118, call139, call140, r117_0, r117_1, r117_2, r117_3, r117_4, r117_5, r117_6, r117_7, p117, fldW0, fld_p, store_int, h5, ho5, stW, resW, load_pb, put_obj, hne', Option.bind_some, Nat.add_zero, List.set_cons_zero, Nat.zero_lt_succ, Nat.le_refl, List.drop_nil, Nat.zero_add]
      exact ⟨by simp only [namedF, hu, hk, cond_true, cond_false, wordA, cutB], (hG5.put S2.no _ (Nat.le_of_lt hno2)).put S.no _ (Nat.le_refl _)⟩
    | false =>
      simp only [SXa, reduceCtorEq, Nat.reduceEqDiff, Nat.reduceAdd, Nat.reduceSub, Nat.reduceMul, Nat.reduceBEq, Int.reduceLT, Int.reduceLE, Int.reduceToNat, Int.reduceBEq, Int.reduceBNe, reduceIte, store3, load9, load133, store133, call118, call139, call140, r117_0, r117_1, r117_2, r117_3, r117_4, r117_5, r117_6, r117_7, p117, h5, ho5, stW, resW, load_pb, put_obj, hne', Option.bind_some, Nat.le_refl, List.drop_nil, Nat.zero_add]
      exact ⟨by simp only [namedF, hu, hk, cond_false, wordA, cutB], hG5.put S.no _ (Nat.le_refl _)⟩
end Go.Proofs.YtmmnkemcplgebaaGreatDoor
end
