/-
  Trees: the walks (one node, by itself).
  Trees: the walks (rows of texts).
  Trees: the walks (names of a node; where a constructor is declared; may a node be?).
-/
import Derived.Test.YtmmnkemcplgebaaGreatDoorFR
import Derived.Test.YtmmnkemcplgebaaGreatDoorFS
section
set_option linter.unusedSimpArgs false
set_option linter.unusedVariables false
set_option maxRecDepth 100000
namespace Go.Proofs.YtmmnkemcplgebaaGreatDoor
open Go.Abs
theorem fldN {tm : PM AV} {S : St} {d : Option Tmp} (x : Operand) : (opV E tm d (.fieldAddr 30 x 0) S = fldV 0 (E.ev tm x) S) ∧ (opV E tm d (.fieldAddr 30 x 1) S = fldV 1 (E.ev tm x) S) ∧ (opV E tm d (.fieldAddr 30 x 2) S = fldV 2 (E.ev tm x) S) ∧
    (opV E tm d (.fieldAddr 30 x 3) S = fldV 3 (E.ev tm x) S) ∧ (opV E tm d (.fieldAddr 30 x 4) S = fldV 4 (E.ev tm x) S) ∧ (opV E tm d (.fieldAddr 30 x 5) S = fldV 5 (E.ev tm x) S) ∧ (opV E tm d (.fieldAddr 30 x 6) S = fldV 6 (E.ev tm x) S) :=
  ⟨field_chk 30 0 0 (by kernel_rfl) x, field_chk 30 1 1 (by kernel_rfl) x, field_chk 30 2 2 (by kernel_rfl) x, field_chk 30 3 3 (by kernel_rfl) x, field_chk 30 4 4 (by kernel_rfl) x, field_chk 30 5 5 (by kernel_rfl) x, field_chk 30 6 6 (by kernel_rfl) x⟩
theorem pat_ans (k : Int) : Ans E 29 [.sc (.int .i64 k)] (.sc (.bool (patF k))) := ans_of fun S hS => by
  refine ev29 rfl ?_
  have hG := Grow.refl hS nilV
  simp only [SXa, reduceCtorEq, Nat.reduceEqDiff, Nat.reduceAdd, Nat.reduceSub, Nat.reduceMul, Nat.reduceBEq, Int.reduceLT, Int.reduceLE, Int.reduceToNat, Int.reduceBEq, Int.reduceBNe, reduceIte, r29_0, r29_1, p29]
  repeat' (first
    | (refine condK_split (fun h => ?_) (fun h => ?_) <;> simp only [SXa, reduceCtorEq, Nat.reduceEqDiff, Nat.reduceAdd, Nat.reduceSub, Nat.reduceMul, Nat.reduceBEq, Int.reduceLT, Int.reduceLE, Int.reduceToNat, Int.reduceBEq, Int.reduceBNe, reduceIte, r29_0, r29_1, p29, h])
    | (refine guardK_split (fun h => ?_) (fun h => ?_) <;> simp only [SXa, reduceCtorEq, Nat.reduceEqDiff, Nat.reduceAdd, Nat.reduceSub, Nat.reduceMul, Nat.reduceBEq, Int.reduceLT, Int.reduceLE, Int.reduceToNat, Int.reduceBEq, Int.reduceBNe, reduceIte, r29_0, r29_1, p29, h]))
  all_goals exact ⟨by simp only [patF, Bool.true_and, Bool.false_and, *], hG⟩
theorem b_rem {E : Env} {S : St} (t : TypeId) (x y : Operand) (k : IntKind) (a b : Int) (h : b ≠ 0) : binGen E .rem t x y (.sc (.int k a)) (.sc (.int k b)) S = some (.sc (.int k (a.tmod b)), S) := by
  have h2 : (b == 0) = false := by simpa using h
  simp only [binGen, conc, binOp, Op.intDiv, h, h2, if_false, ne_eq, not_true_eq_false]
  first | rfl | (simp [h]; rfl)
theorem arm_ans (k : Int) : Ans E 57 [.sc (.int .i64 k)] (.sc (.bool (armF k))) := ans_of fun S hS => by
  refine ev57 rfl ?_
  have hq : ∀ (a : Int) (t : TypeId) (x y : Operand) (S : St), binGen E .rem t x y (.sc (.int .i64 a)) (.sc (.int .i64 2)) S = some (.sc (.int .i64 (a.tmod 2)), S) := fun a t x y S => b_rem t x y _ _ _ (by decide)
  simp only [SXa, reduceCtorEq, Nat.reduceEqDiff, Nat.reduceAdd, Nat.reduceSub, Nat.reduceMul, Nat.reduceBEq, Int.reduceLT, Int.reduceLE, Int.reduceToNat, Int.reduceBEq, Int.reduceBNe, reduceIte, r57_0, r57_1, p57, hq]
  exact ⟨rfl, Grow.refl hS _⟩
set_option maxHeartbeats 8000000 in
theorem kids_ans (k : Int) : Ans E 82 [.sc (.int .i64 k)] (.tup [.sc (.int .i64 (kidsF k).1), .sc (.int .i64 (kidsF k).2)]) := ans_of fun S hS => by
  refine ev82 rfl ?_
  have hG := Grow.refl hS nilV
  simp only [SXa, reduceCtorEq, Nat.reduceEqDiff, Nat.reduceAdd, Nat.reduceSub, Nat.reduceMul, Nat.reduceBEq, Int.reduceLT, Int.reduceLE, Int.reduceToNat, Int.reduceBEq, Int.reduceBNe, reduceIte, r82_0, r82_1, r82_2, r82_3, r82_4, r82_5, r82_6, r82_7, r82_8, r82_9, r82_10, r82_11, r82_12, r82_13, r82_14, r82_15, r82_16, r82_17, r82_18, r82_19, r82_20, r82_21, r82_22, r82_23, p82]
  repeat' (first
    | (refine condK_split (fun h => ?_) (fun h => ?_) <;> simp only [SXa, reduceCtorEq, Nat.reduceEqDiff, Nat.reduceAdd, Nat.reduceSub, Nat.reduceMul, Nat.reduceBEq, Int.reduceLT, Int.reduceLE, Int.reduceToNat, Int.reduceBEq, Int.reduceBNe, reduceIte, r82_0, r82_1, r82_2, r82_3, r82_4, r82_5, r82_6, r82_7, r82_8, r82_9, r82_10, r82_11, r82_12, r82_13, r82_14, r82_15, r82_16, r82_17, r82_18, r82_19, r82_20, r82_21, r82_22, r82_23, p82, h])
    | (refine guardK_split (fun h => ?_) (fun h => ?_) <;> simp only [SXa, reduceCtorEq, Nat.reduceEqDiff, Nat.reduceAdd, Nat.reduceSub, Nat.reduceMul, Nat.reduceBEq, Int.reduceLT, Int.reduceLE, Int.reduceToNat, Int.reduceBEq, Int.reduceBNe, reduceIte, r82_0, r82_1, r82_2, r82_3, r82_4, r82_5, r82_6, r82_7, r82_8, r82_9, r82_10, r82_11, r82_12, r82_13, r82_14, r82_15, r82_16, r82_17, r82_18, r82_19, r82_20, r82_21, r82_22, r82_23, p82, h]))
  all_goals exact ⟨by simp only [kidsF, Bool.true_or, Bool.or_true, Bool.or_false, cond_true, cond_false, *], hG⟩
theorem basic_x (s : ByteArray) : ∃ b, Ans E 50 [.sc (.string s)] (.sc (.bool b)) ∧ b = (s.toList == (⟨#[105, 110, 116]⟩ : ByteArray).toList || s.toList == (⟨#[98, 111, 111, 108]⟩ : ByteArray).toList || s.toList == (⟨#[117, 110, 105, 116]⟩ : ByteArray).toList) := ⟨_, ans_of fun S hS => by
  refine ev50 rfl ?_
  have hG := Grow.refl hS nilV
  simp only [SXa, reduceCtorEq, Nat.reduceEqDiff, Nat.reduceAdd, Nat.reduceSub, Nat.reduceMul, Nat.reduceBEq, Int.reduceLT, Int.reduceLE, Int.reduceToNat, Int.reduceBEq, Int.reduceBNe, reduceIte, r50_0, r50_1, p50]
  repeat' (first
    | (refine condK_split (fun h => ?_) (fun h => ?_) <;> simp only [SXa, reduceCtorEq, Nat.reduceEqDiff, Nat.reduceAdd, Nat.reduceSub, Nat.reduceMul, Nat.reduceBEq, Int.reduceLT, Int.reduceLE, Int.reduceToNat, Int.reduceBEq, Int.reduceBNe, reduceIte, r50_0, r50_1, p50, h])
    | (refine guardK_split (fun h => ?_) (fun h => ?_) <;> simp only [SXa, reduceCtorEq, Nat.reduceEqDiff, Nat.reduceAdd, Nat.reduceSub, Nat.reduceMul, Nat.reduceBEq, Int.reduceLT, Int.reduceLE, Int.reduceToNat, Int.reduceBEq, Int.reduceBNe, reduceIte, r50_0, r50_1, p50, h]))
  all_goals exact ⟨by simp only [Bool.true_or, Bool.or_true, Bool.or_false, Bool.false_or, *], hG⟩, rfl⟩
set_option maxHeartbeats 8000000 in
theorem number_ans (x : NodeV) : Ans E 80 [.agg (nodeA x)] (.sc (.bool (numberF x))) := ans_of fun S hS => by
  refine ev80 rfl ?_
  have hG := (Grow.refl hS nilV).born 30 (nodeA x)
  have h0 : (S.born 30 (nodeA x)).obj S.no = some (nodeA x) := by simp [born_obj]
  simp only [SXa, reduceCtorEq, Nat.reduceEqDiff, Nat.reduceAdd, Nat.reduceSub, Nat.reduceMul, Nat.reduceBEq, Int.reduceLT, Int.reduceLE, Int.reduceToNat, Int.reduceBEq, Int.reduceBNe, reduceIte, load2, load3, r80_0, r80_1, r80_2, r80_3, r80_4, r80_5, r80_6, r80_7, r80_8, p80, op_box, cells_agg]
  generalize S.born 30 (nodeA x) = S0 at hG h0
  simp only [nodeA] at h0
  simp only [SXa, reduceCtorEq, Nat.reduceEqDiff, Nat.reduceAdd, Nat.reduceSub, Nat.reduceMul, Nat.reduceBEq, Int.reduceLT, Int.reduceLE, Int.reduceToNat, Int.reduceBEq, Int.reduceBNe, reduceIte, load2, load3, r80_0, r80_1, r80_2, r80_3, r80_4, r80_5, r80_6, r80_7, r80_8, p80, load_pb, h0, fldN, fld_p, Option.bind_some, Nat.add_zero, Nat.zero_add]
  repeat' (first
    | (refine condK_split (fun h => ?_) (fun h => ?_) <;> simp only [SXa, reduceCtorEq, Nat.reduceEqDiff, Nat.reduceAdd, Nat.reduceSub, Nat.reduceMul, Nat.reduceBEq, Int.reduceLT, Int.reduceLE, Int.reduceToNat, Int.reduceBEq, Int.reduceBNe, reduceIte, load2, load3, r80_0, r80_1, r80_2, r80_3, r80_4, r80_5, r80_6, r80_7, r80_8, p80, h, load_pb, h0, fldN, fld_p, Option.bind_some, Nat.add_zero, Nat.zero_add])
    | (refine guardK_split (fun h => ?_) (fun h => ?_) <;> simp only [SXa, reduceCtorEq, Nat.reduceEqDiff, Nat.reduceAdd, Nat.reduceSub, Nat.reduceMul, Nat.reduceBEq, Int.reduceLT, Int.reduceLE, Int.reduceToNat, Int.reduceBEq, Int.reduceBNe, reduceIte, load2, load3, r80_0, r80_1, r80_2, r80_3, r80_4, r80_5, r80_6, r80_7, r80_8, p80, h, load_pb, h0, fldN, fld_p, Option.bind_some, Nat.add_zero, Nat.zero_add]))
  all_goals exact ⟨by simp only [numberF, Bool.true_or, Bool.or_true, Bool.or_false, Bool.false_or, Bool.true_and, Bool.false_and, cond_true, cond_false, *], hG⟩
end Go.Proofs.YtmmnkemcplgebaaGreatDoor
end

section
set_option linter.unusedSimpArgs false
set_option linter.unusedVariables false
set_option maxRecDepth 100000
namespace Go.Proofs.YtmmnkemcplgebaaGreatDoor
open Go.Abs
theorem wrapK {k n : Nat} (h : k < n) (hn : n ≤ 2 ^ 63 - 1) : IntKind.i64.wrap ((k : Int) + 1) = ((k + 1 : Nat) : Int) := by
  rw [wrap_i64 (by omega) (by omega)]; omega
theorem lenT {x : AV} {l : List ByteArray} (h : IsV 1 x (strsA l)) (S : St) : lenV x S = some (.sc (.int .i64 (l.length : Nat)), S) := by rw [h.len]; simp [strsA]
theorem idxT {x : AV} {l : List ByteArray} (h : IsV 1 x (strsA l)) {k : Nat} (hk : k < l.length) (S : St) : idxV 1 x (some (k : Int)) S = some (.eptr [.sc (.string l[k])] 0, S) := h.idx (v := .sc (.string l[k])) (by simp [strsA, hk]) rfl S
set_option maxHeartbeats 4000000 in
theorem index_ans (l : List ByteArray) (x : AV) (hx : IsV 1 x (strsA l)) (hl : l.length ≤ 2 ^ 40) (v : ByteArray) : Ans E 78 [x, .sc (.string v)] (.sc (.int .i64 (idxF v l 0))) := ans_of fun S hS => by
  refine ev78 rfl ?_
  simp only [SXa, reduceCtorEq, Nat.reduceEqDiff, Nat.reduceAdd, Nat.reduceSub, Nat.reduceMul, Nat.reduceBEq, Int.reduceLT, Int.reduceLE, Int.reduceToNat, Int.reduceBEq, Int.reduceBNe, reduceIte, load9, index31, len31, r78_0, r78_1, r78_2, r78_3, r78_4, r78_5, r78_6, r78_8, p78, lenT hx]
  refine e_loop (fun tm S' N => ∃ k : Nat, k ≤ l.length ∧ N = l.length - k ∧ idxF v (l.drop k) k = idxF v l 0 ∧ Grow S S' nilV ∧ getT tm 0 = x ∧ getT tm 1 = .sc (.string v) ∧ getT tm 7 = .sc (.int .i64 (l.length : Nat)) ∧ getT tm 8 = .sc (.int .i64 (k : Int))) l.length ⟨0, by omega, by omega, by rw [List.drop_zero], Grow.refl hS _, by simp [getT_setD]⟩ ?_
  rintro tm S' N ⟨k, hk, rfl, hr, hG, t0, t1, t7, t8⟩
  by_cases hlt : k < l.length
  · have wk := wrapK hlt (by omega)
    rw [List.drop_eq_getElem_cons hlt, idxF] at hr
    simp only [SXa, reduceCtorEq, Nat.reduceEqDiff, Nat.reduceAdd, Nat.reduceSub, Nat.reduceMul, Nat.reduceBEq, Int.reduceLT, Int.reduceLE, Int.reduceToNat, Int.reduceBEq, Int.reduceBNe, reduceIte, load9, index31, len31, b78_7, r78_0, r78_1, r78_2, r78_3, r78_4, r78_5, r78_6, r78_8, p78, t0, t1, t7, t8, dec_lt hlt, idxT hx hlt]
    cases hb : (v.toList == l[k].toList) with
    | true =>
      rw [hb, cond_true] at hr
      simp only [SXa, reduceCtorEq, Nat.reduceEqDiff, Nat.reduceAdd, Nat.reduceSub, Nat.reduceMul, Nat.reduceBEq, Int.reduceLT, Int.reduceLE, Int.reduceToNat, Int.reduceBEq, Int.reduceBNe, reduceIte, load9, index31, len31, r78_0, r78_1, r78_2, r78_3, r78_4, r78_5, r78_6, r78_8, p78, t0, t1, t7, t8]
      exact ⟨by rw [← hr], hG⟩
    | false =>
      rw [hb, cond_false] at hr
      simp only [SXa, reduceCtorEq, Nat.reduceEqDiff, Nat.reduceAdd, Nat.reduceSub, Nat.reduceMul, Nat.reduceBEq, Int.reduceLT, Int.reduceLE, Int.reduceToNat, Int.reduceBEq, Int.reduceBNe, reduceIte, load9, index31, len31, r78_0, r78_1, r78_2, r78_3, r78_4, r78_5, r78_6, r78_8, p78, t0, t1, t7, t8, wk]
      exact ⟨l.length - (k + 1), by omega, k + 1, by omega, rfl, hr, hG, by simp [t0, t1, t7]⟩
  · have hke : k = l.length := by omega
    rw [hke, List.drop_length] at hr
    simp only [SXa, reduceCtorEq, Nat.reduceEqDiff, Nat.reduceAdd, Nat.reduceSub, Nat.reduceMul, Nat.reduceBEq, Int.reduceLT, Int.reduceLE, Int.reduceToNat, Int.reduceBEq, Int.reduceBNe, reduceIte, load9, index31, len31, b78_7, r78_0, r78_1, r78_2, r78_3, r78_4, r78_5, r78_6, r78_8, p78, t0, t1, t7, t8, dec_nlt hlt]
    exact ⟨by rw [← hr]; rfl, hG⟩
theorem contains_ans (l : List ByteArray) (x : AV) (hx : IsV 1 x (strsA l)) (hl : l.length ≤ 2 ^ 40) (v : ByteArray) : Ans E 53 [x, .sc (.string v)] (.sc (.bool (hasF l v))) := ans_of fun S hS => by
  refine ev53 rfl ?_
  simp only [SXa, reduceCtorEq, Nat.reduceEqDiff, Nat.reduceAdd, Nat.reduceSub, Nat.reduceMul, Nat.reduceBEq, Int.reduceLT, Int.reduceLE, Int.reduceToNat, Int.reduceBEq, Int.reduceBNe, reduceIte, call78, r53_0, r53_1, p53]
  refine callK_ans (index_ans l x hx hl v) (Grow.refl hS nilV) (fun S2 g2 hG => ?_)
  simp only [SXa, reduceCtorEq, Nat.reduceEqDiff, Nat.reduceAdd, Nat.reduceSub, Nat.reduceMul, Nat.reduceBEq, Int.reduceLT, Int.reduceLE, Int.reduceToNat, Int.reduceBEq, Int.reduceBNe, reduceIte, call78, r53_0, r53_1, p53, idx_has]
  exact hG
set_option maxHeartbeats 4000000 in
theorem indexf_ans (H : St → Prop) (hst : ∀ S S', H S → Grow S S' nilV → H S') (g : FuncId) (cap : List AV) (p : ByteArray → Bool) (hg : ∀ s, AnsIn E H g ([.sc (.string s)] ++ cap) (.sc (.bool (p s)))) (hx0 : E.ext g = none)
    (l : List ByteArray) (x : AV) (hx : IsV 1 x (strsA l)) (hl : l.length ≤ 2 ^ 40) : AnsIn E H 79 [x, .fn (.func g) [] cap] (.sc (.int .i64 (idxP p l 0))) := ansIn_of fun S hS hH => by
  refine ev79 rfl ?_
  simp only [SXa, reduceCtorEq, Nat.reduceEqDiff, Nat.reduceAdd, Nat.reduceSub, Nat.reduceMul, Nat.reduceBEq, Int.reduceLT, Int.reduceLE, Int.reduceToNat, Int.reduceBEq, Int.reduceBNe, reduceIte, load9, index31, len31, r79_0, r79_1, r79_2, r79_3, r79_4, r79_5, r79_6, r79_8, p79, lenT hx]
  refine e_loop (fun tm S' N => ∃ k : Nat, k ≤ l.length ∧ N = l.length - k ∧ idxP p (l.drop k) k = idxP p l 0 ∧ Grow S S' nilV ∧ getT tm 0 = x ∧ getT tm 1 = .fn (.func g) [] cap ∧ getT tm 7 = .sc (.int .i64 (l.length : Nat)) ∧ getT tm 8 = .sc (.int .i64 (k : Int))) l.length ⟨0, by omega, by omega, by rw [List.drop_zero], Grow.refl hS _, by simp [getT_setD]⟩ ?_
  rintro tm S' N ⟨k, hk, rfl, hr, hG, t0, t1, t7, t8⟩
  by_cases hlt : k < l.length
  · have wk := wrapK hlt (by omega)
    rw [List.drop_eq_getElem_cons hlt, idxP] at hr
    simp only [SXa, reduceCtorEq, Nat.reduceEqDiff, Nat.reduceAdd, Nat.reduceSub, Nat.reduceMul, Nat.reduceBEq, Int.reduceLT, Int.reduceLE, Int.reduceToNat, Int.reduceBEq, Int.reduceBNe, reduceIte, load9, index31, len31, b79_7, r79_0, r79_1, r79_2, r79_3, r79_4, r79_5, r79_6, r79_8, p79, t0, t1, t7, t8, dec_lt hlt, idxT hx hlt]
    rw [e_callv _ _ _ _ _ (g := g) (first := []) (cap := cap) (by simp only [SXa, reduceCtorEq, Nat.reduceEqDiff, Nat.reduceAdd, Nat.reduceSub, Nat.reduceMul, Nat.reduceBEq, Int.reduceLT, Int.reduceLE, Int.reduceToNat, Int.reduceBEq, Int.reduceBNe, reduceIte, load2, load3, store3, load5, load9, load22, index22, len22, load23, index23, len23, load25, load28, bs28, app28, index28, len28, load30, store30, load31, store31, bs31, app31, index31, len31, load54, index54, len54, load56, store56, load58, store58, load133, store133, load176, conv21_2, conv21_5, conv21_145, call7, call8, call9, call10, call11, call12, call17, call27, call28, call29, call30, call31, call32, call33, call34, call35, call36, call37, call49, call50, call51, call53, call55, call56, call57, call61, call62, call77, call78, call79, call80, call81, call82, call94, call115, call116, call117, call118, call120, call121, call133, call135, call139, call140, call141, call145, call146, t1]; rfl) hx0]
    simp only [SXa, reduceCtorEq, Nat.reduceEqDiff, Nat.reduceAdd, Nat.reduceSub, Nat.reduceMul, Nat.reduceBEq, Int.reduceLT, Int.reduceLE, Int.reduceToNat, Int.reduceBEq, Int.reduceBNe, reduceIte, load2, load3, store3, load5, load9, load22, index22, len22, load23, index23, len23, load25, load28, bs28, app28, index28, len28, load30, store30, load31, store31, bs31, app31, index31, len31, load54, index54, len54, load56, store56, load58, store58, load133, store133, load176, conv21_2, conv21_5, conv21_145, call7, call8, call9, call10, call11, call12, call17, call27, call28, call29, call30, call31, call32, call33, call34, call35, call36, call37, call49, call50, call51, call53, call55, call56, call57, call61, call62, call77, call78, call79, call80, call81, call82, call94, call115, call116, call117, call118, call120, call121, call133, call135, call139, call140, call141, call145, call146, List.nil_append]
    refine callK_in (hg l[k]) (hst _ _ hH hG) hG (fun S2 g2 hG2 => ?_)
    cases hb : p l[k] with
    | true =>
      rw [hb, cond_true] at hr
      simp only [SXa, reduceCtorEq, Nat.reduceEqDiff, Nat.reduceAdd, Nat.reduceSub, Nat.reduceMul, Nat.reduceBEq, Int.reduceLT, Int.reduceLE, Int.reduceToNat, Int.reduceBEq, Int.reduceBNe, reduceIte, load9, index31, len31, r79_0, r79_1, r79_2, r79_3, r79_4, r79_5, r79_6, r79_8, p79, t0, t1, t7, t8]
      exact ⟨by rw [← hr], hG2⟩
    | false =>
      rw [hb, cond_false] at hr
      simp only [SXa, reduceCtorEq, Nat.reduceEqDiff, Nat.reduceAdd, Nat.reduceSub, Nat.reduceMul, Nat.reduceBEq, Int.reduceLT, Int.reduceLE, Int.reduceToNat, Int.reduceBEq, Int.reduceBNe, reduceIte, load9, index31, len31, r79_0, r79_1, r79_2, r79_3, r79_4, r79_5, r79_6, r79_8, p79, t0, t1, t7, t8, wk]
      exact ⟨l.length - (k + 1), by omega, k + 1, by omega, rfl, hr, hG2, by simp [t0, t1, t7]⟩
  · have hke : k = l.length := by omega
    rw [hke, List.drop_length] at hr
    simp only [SXa, reduceCtorEq, Nat.reduceEqDiff, Nat.reduceAdd, Nat.reduceSub, Nat.reduceMul, Nat.reduceBEq, Int.reduceLT, Int.reduceLE, Int.reduceToNat, Int.reduceBEq, Int.reduceBNe, reduceIte, load9, index31, len31, b79_7, r79_0, r79_1, r79_2, r79_3, r79_4, r79_5, r79_6, r79_8, p79, t0, t1, t7, t8, dec_nlt hlt]
    exact ⟨by rw [← hr]; rfl, hG⟩
theorem containsf_ans (H : St → Prop) (hst : ∀ S S', H S → Grow S S' nilV → H S') (g : FuncId) (cap : List AV) (p : ByteArray → Bool) (hg : ∀ s, AnsIn E H g ([.sc (.string s)] ++ cap) (.sc (.bool (p s)))) (hx0 : E.ext g = none)
    (l : List ByteArray) (x : AV) (hx : IsV 1 x (strsA l)) (hl : l.length ≤ 2 ^ 40) : AnsIn E H 55 [x, .fn (.func g) [] cap] (.sc (.bool (l.any p))) := ansIn_of fun S hS hH => by
  refine ev55 rfl ?_
  simp only [SXa, reduceCtorEq, Nat.reduceEqDiff, Nat.reduceAdd, Nat.reduceSub, Nat.reduceMul, Nat.reduceBEq, Int.reduceLT, Int.reduceLE, Int.reduceToNat, Int.reduceBEq, Int.reduceBNe, reduceIte, call79, r55_0, r55_1, p55]
  refine callK_in (indexf_ans H hst g cap p hg hx0 l x hx hl) hH (Grow.refl hS nilV) (fun S2 g2 hG => ?_)
  simp only [SXa, reduceCtorEq, Nat.reduceEqDiff, Nat.reduceAdd, Nat.reduceSub, Nat.reduceMul, Nat.reduceBEq, Int.reduceLT, Int.reduceLE, Int.reduceToNat, Int.reduceBEq, Int.reduceBNe, reduceIte, call79, r55_0, r55_1, p55, idxP_any]
  exact hG
set_option maxHeartbeats 4000000 in
theorem twice_ans (l : List ByteArray) (x : AV) (hx : IsV 1 x (strsA l)) (hl : l.length ≤ 2 ^ 40) : Ans E 30 [x] (.sc (.bool (twiceF [] l))) := ans_of fun S hS => by
  refine ev30 rfl ?_
  have hM := bornMap_set (S := S)
  have hG := (Grow.refl hS nilV).bornMap
  have hno : S.no < S.bornMap.no := Nat.lt_succ_self _
  simp only [SXa, reduceCtorEq, Nat.reduceEqDiff, Nat.reduceAdd, Nat.reduceSub, Nat.reduceMul, Nat.reduceBEq, Int.reduceLT, Int.reduceLE, Int.reduceToNat, Int.reduceBEq, Int.reduceBNe, reduceIte, load9, index31, len31, r30_0, r30_1, r30_2, r30_3, r30_4, r30_5, r30_6, r30_7, r30_8, r30_10, p30, op_makeMap, lenT hx]
  generalize S.bornMap = S1 at hM hG hno
  have mt : E.und 71 = some (.map 9 4) := by kernel_rfl
  have kt : E.und 9 = some .string := by kernel_rfl
  have zt : zeroOf E 4 = some (.bool false) := by kernel_rfl
  refine e_loop (fun tm S' N => ∃ k had, k ≤ l.length ∧ N = l.length - k ∧ twiceF had (l.drop k) = twiceF [] l ∧ S'.IsSet S.no had ∧ Grow S S' nilV ∧ S.no < S'.no ∧ getT tm 3 = .mp S.no ∧ getT tm 7 = x ∧ getT tm 8 = .sc (.int .i64 (l.length : Nat)) ∧ getT tm 9 = .sc (.int .i64 (k : Int))) l.length ⟨0, [], by omega, by omega, by rw [List.drop_zero], hM, hG, hno, by simp [getT_setD]⟩ ?_
  rintro tm S' N ⟨k, had, hk, rfl, hr, hM, hG, hno, t3, t7, t8, t9⟩
  by_cases hlt : k < l.length
  · have wk := wrapK hlt (by omega)
    rw [List.drop_eq_getElem_cons hlt, twiceF] at hr
    simp only [SXa, reduceCtorEq, Nat.reduceEqDiff, Nat.reduceAdd, Nat.reduceSub, Nat.reduceMul, Nat.reduceBEq, Int.reduceLT, Int.reduceLE, Int.reduceToNat, Int.reduceBEq, Int.reduceBNe, reduceIte, load9, index31, len31, b30_9, r30_0, r30_1, r30_2, r30_3, r30_4, r30_5, r30_6, r30_7, r30_8, r30_10, p30, t3, t7, t8, t9, dec_lt hlt, idxT hx hlt, op_lookup, set_lookup mt kt zt hM]
    cases hb : inB l[k] had with
    | true =>
      rw [hb, cond_true] at hr
      simp only [SXa, reduceCtorEq, Nat.reduceEqDiff, Nat.reduceAdd, Nat.reduceSub, Nat.reduceMul, Nat.reduceBEq, Int.reduceLT, Int.reduceLE, Int.reduceToNat, Int.reduceBEq, Int.reduceBNe, reduceIte, load9, index31, len31, r30_0, r30_1, r30_2, r30_3, r30_4, r30_5, r30_6, r30_7, r30_8, r30_10, p30]
      exact ⟨by rw [← hr], hG⟩
    | false =>
      rw [hb, cond_false] at hr
      simp only [SXa, reduceCtorEq, Nat.reduceEqDiff, Nat.reduceAdd, Nat.reduceSub, Nat.reduceMul, Nat.reduceBEq, Int.reduceLT, Int.reduceLE, Int.reduceToNat, Int.reduceBEq, Int.reduceBNe, reduceIte, load9, index31, len31, r30_0, r30_1, r30_2, r30_3, r30_4, r30_5, r30_6, r30_7, r30_8, r30_10, p30, t3, t7, t8, t9, wk, op_mapUpdate, set_update mt kt hM _ hb]
      exact ⟨l.length - (k + 1), by omega, k + 1, had ++ [l[k]], by omega, rfl, hr, put_set _ _, hG.put S.no _ (Nat.le_refl _), hno, by simp [t3, t7, t8]⟩
  · have hke : k = l.length := by omega
    rw [hke, List.drop_length] at hr
    simp only [SXa, reduceCtorEq, Nat.reduceEqDiff, Nat.reduceAdd, Nat.reduceSub, Nat.reduceMul, Nat.reduceBEq, Int.reduceLT, Int.reduceLE, Int.reduceToNat, Int.reduceBEq, Int.reduceBNe, reduceIte, load9, index31, len31, b30_9, r30_0, r30_1, r30_2, r30_3, r30_4, r30_5, r30_6, r30_7, r30_8, r30_10, p30, t3, t7, t8, t9, dec_nlt hlt]
    exact ⟨by rw [← hr]; rfl, hG⟩
end Go.Proofs.YtmmnkemcplgebaaGreatDoor
end

section
set_option linter.unusedSimpArgs false
set_option linter.unusedVariables false
set_option maxRecDepth 100000
namespace Go.Proofs.YtmmnkemcplgebaaGreatDoor
open Go.Abs
theorem raise_obj (S : St) (n l : Nat) : (S.raise n).obj l = S.obj l := rfl
theorem raise_no (S : St) (n : Nat) : (S.raise n).no = S.no + n := rfl
theorem xcase {f : FuncId} {g : List AV → St → Option (AV × St)} (h : E.X f = some g) : (f = 145 ∧ g = pureX exclF) ∨ (f = 115 ∧ g = pureX decF) ∨ (f = 7 ∧ g = memoX (.bool true)) ∨ (f = 62 ∧ g = copyX) ∨ (f = 33 ∧ g = sortedV 60) := by
  change (bif Nat.beq f 145 then some (pureX exclF) else bif Nat.beq f 115 then some (pureX decF) else bif Nat.beq f 7 then some (memoX (.bool true)) else bif Nat.beq f 62 then some (copyX) else bif Nat.beq f 33 then some (sortedV 60) else none) = some g at h
  cases hb : Nat.beq f 145 with
  | true =>
    rw [hb] at h
    exact .inl ⟨Nat.eq_of_beq_eq_true hb, (Option.some.inj h).symm⟩
  | false =>
    rw [hb] at h
    clear hb
    cases hb : Nat.beq f 115 with
    | true =>
      rw [hb] at h
      exact .inr (.inl ⟨Nat.eq_of_beq_eq_true hb, (Option.some.inj h).symm⟩)
    | false =>
      rw [hb] at h
      clear hb
      cases hb : Nat.beq f 7 with
      | true =>
        rw [hb] at h
        exact .inr (.inr (.inl ⟨Nat.eq_of_beq_eq_true hb, (Option.some.inj h).symm⟩))
      | false =>
        rw [hb] at h
        clear hb
        cases hb : Nat.beq f 62 with
        | true =>
          rw [hb] at h
          exact .inr (.inr (.inr (.inl ⟨Nat.eq_of_beq_eq_true hb, (Option.some.inj h).symm⟩)))
        | false =>
          rw [hb] at h
          clear hb
          cases hb : Nat.beq f 33 with
          | true =>
            rw [hb] at h
            exact .inr (.inr (.inr (.inr (⟨Nat.eq_of_beq_eq_true hb, (Option.some.inj h).symm⟩))))
          | false =>
            rw [hb] at h
            clear hb
            cases h
theorem noX : EvoX E := ⟨fun f g h args S r S' hg => by
  rcases xcase h with ⟨_, rfl⟩ | ⟨_, rfl⟩ | ⟨_, rfl⟩ | ⟨_, rfl⟩ | ⟨_, rfl⟩
  · exact pureX_evo hg
  · exact pureX_evo hg
  · exact memoX_evo hg
  · exact copyX_evo hg
  · exact sortedV_evo hg⟩
theorem frmX : FrmX E := ⟨fun f g h D A X args r A' k hg => by
  rcases xcase h with ⟨_, rfl⟩ | ⟨_, rfl⟩ | ⟨_, rfl⟩ | ⟨_, rfl⟩ | ⟨_, rfl⟩
  · exact pureX_frm k hg
  · exact pureX_frm k hg
  · exact memoX_frm k hg
  · exact copyX_frm k hg
  · exact sortedV_frm k hg⟩
theorem bsl5 (a b c d e : ByteArray) (S : St) : buildSliceA E 31 5 [(0, .sc (.string a)), (1, .sc (.string b)), (2, .sc (.string c)), (3, .sc (.string d)), (4, .sc (.string e))] S = some (.vec 1 1 [.sc (.string a), .sc (.string b), .sc (.string c), .sc (.string d), .sc (.string e)], S) := by kernel_rfl
theorem opers_ans (s : ByteArray) : Ans E 53 [.vec 1 1 [.sc (.string ⟨#[43]⟩), .sc (.string ⟨#[45]⟩), .sc (.string ⟨#[42]⟩), .sc (.string ⟨#[60]⟩), .sc (.string ⟨#[61]⟩)], .sc (.string s)] (.sc (.bool (hasF opers s))) := contains_ans opers _ (IsV.vec 1 1 _) (by decide) s
set_option maxHeartbeats 16000000 in
theorem texts_ans (x : NodeV) : Ans E 81 [.agg (nodeA x)] (.sc (.bool (textsF x))) := ans_of fun S hS => by
  refine ev81 rfl ?_
  have hG := (Grow.refl hS nilV).born 30 (nodeA x)
  have h0 : (S.born 30 (nodeA x)).obj S.no = some (nodeA x) := by simp [born_obj]
  have hno : S.no < (S.born 30 (nodeA x)).no := Nat.lt_succ_self _
  simp only [SXa, reduceCtorEq, Nat.reduceEqDiff, Nat.reduceAdd, Nat.reduceSub, Nat.reduceMul, Nat.reduceBEq, Int.reduceLT, Int.reduceLE, Int.reduceToNat, Int.reduceBEq, Int.reduceBNe, reduceIte, load3, load9, bs31, call49, call51, call53, r81_0, r81_1, r81_2, r81_3, r81_4, r81_5, r81_6, r81_7, r81_8, r81_9, r81_10, r81_11, r81_12, r81_13, r81_14, r81_15, r81_16, r81_17, r81_18, p81, op_box, cells_agg]
  generalize S.born 30 (nodeA x) = S0 at hG h0 hno
  simp only [nodeA] at h0
  have hG1 := hG.two (Grow.raise hG.fresh 8 nilV)
  have h1 : (S0.raise 8).obj S.no = _ := h0
  have n1 : S.no < (S0.raise 8).no := by rw [raise_no]; omega
  simp only [SXa, reduceCtorEq, Nat.reduceEqDiff, Nat.reduceAdd, Nat.reduceSub, Nat.reduceMul, Nat.reduceBEq, Int.reduceLT, Int.reduceLE, Int.reduceToNat, Int.reduceBEq, Int.reduceBNe, reduceIte, load3, load9, bs31, call49, call51, call53, r81_0, r81_1, r81_2, r81_3, r81_4, r81_5, r81_6, r81_7, r81_8, r81_9, r81_10, r81_11, r81_12, r81_13, r81_14, r81_15, r81_16, r81_17, r81_18, p81, load_pb, h1, fldN, fld_p, Option.bind_some, Nat.add_zero, Nat.zero_add]
  generalize S0.raise 8 = S1 at hG1 h1 n1
  repeat' (first
    | (refine condK_split (fun h => ?_) (fun h => ?_) <;> simp only [SXa, reduceCtorEq, Nat.reduceEqDiff, Nat.reduceAdd, Nat.reduceSub, Nat.reduceMul, Nat.reduceBEq, Int.reduceLT, Int.reduceLE, Int.reduceToNat, Int.reduceBEq, Int.reduceBNe, reduceIte, load3, load9, bs31, call49, call51, call53, r81_0, r81_1, r81_2, r81_3, r81_4, r81_5, r81_6, r81_7, r81_8, r81_9, r81_10, r81_11, r81_12, r81_13, r81_14, r81_15, r81_16, r81_17, r81_18, p81, h, load_pb, h1, fldN, fld_p, Option.bind_some, Nat.add_zero, Nat.zero_add, bsl5])
    | (refine guardK_split (fun h => ?_) (fun h => ?_) <;> simp only [SXa, reduceCtorEq, Nat.reduceEqDiff, Nat.reduceAdd, Nat.reduceSub, Nat.reduceMul, Nat.reduceBEq, Int.reduceLT, Int.reduceLE, Int.reduceToNat, Int.reduceBEq, Int.reduceBNe, reduceIte, load3, load9, bs31, call49, call51, call53, r81_0, r81_1, r81_2, r81_3, r81_4, r81_5, r81_6, r81_7, r81_8, r81_9, r81_10, r81_11, r81_12, r81_13, r81_14, r81_15, r81_16, r81_17, r81_18, p81, h, load_pb, h1, fldN, fld_p, Option.bind_some, Nat.add_zero, Nat.zero_add, bsl5]))
  all_goals first
    | (refine callK_ans (isName_ans x.name) hG1 (fun S2 g2 hG2 => ?_); simp only [SXa, reduceCtorEq, Nat.reduceEqDiff, Nat.reduceAdd, Nat.reduceSub, Nat.reduceMul, Nat.reduceBEq, Int.reduceLT, Int.reduceLE, Int.reduceToNat, Int.reduceBEq, Int.reduceBNe, reduceIte, load3, load9, bs31, call49, call51, call53, r81_0, r81_1, r81_2, r81_3, r81_4, r81_5, r81_6, r81_7, r81_8, r81_9, r81_10, r81_11, r81_12, r81_13, r81_14, r81_15, r81_16, r81_17, r81_18, p81])
    | (refine callK_ans (isName_ans x.param) hG1 (fun S2 g2 hG2 => ?_); simp only [SXa, reduceCtorEq, Nat.reduceEqDiff, Nat.reduceAdd, Nat.reduceSub, Nat.reduceMul, Nat.reduceBEq, Int.reduceLT, Int.reduceLE, Int.reduceToNat, Int.reduceBEq, Int.reduceBNe, reduceIte, load3, load9, bs31, call49, call51, call53, r81_0, r81_1, r81_2, r81_3, r81_4, r81_5, r81_6, r81_7, r81_8, r81_9, r81_10, r81_11, r81_12, r81_13, r81_14, r81_15, r81_16, r81_17, r81_18, p81])
    | (refine callK_ans (isCon_ans x.name) hG1 (fun S2 g2 hG2 => ?_); simp only [SXa, reduceCtorEq, Nat.reduceEqDiff, Nat.reduceAdd, Nat.reduceSub, Nat.reduceMul, Nat.reduceBEq, Int.reduceLT, Int.reduceLE, Int.reduceToNat, Int.reduceBEq, Int.reduceBNe, reduceIte, load3, load9, bs31, call49, call51, call53, r81_0, r81_1, r81_2, r81_3, r81_4, r81_5, r81_6, r81_7, r81_8, r81_9, r81_10, r81_11, r81_12, r81_13, r81_14, r81_15, r81_16, r81_17, r81_18, p81])
    | (refine callK_ans (opers_ans x.name) hG1 (fun S2 g2 hG2 => ?_); simp only [SXa, reduceCtorEq, Nat.reduceEqDiff, Nat.reduceAdd, Nat.reduceSub, Nat.reduceMul, Nat.reduceBEq, Int.reduceLT, Int.reduceLE, Int.reduceToNat, Int.reduceBEq, Int.reduceBNe, reduceIte, load3, load9, bs31, call49, call51, call53, r81_0, r81_1, r81_2, r81_3, r81_4, r81_5, r81_6, r81_7, r81_8, r81_9, r81_10, r81_11, r81_12, r81_13, r81_14, r81_15, r81_16, r81_17, r81_18, p81])
    | (refine e_drawC noX draw81_0 ?_
       have g3 := Grow.raise hG1.fresh 8 nilV
       simp only [SXa, reduceCtorEq, Nat.reduceEqDiff, Nat.reduceAdd, Nat.reduceSub, Nat.reduceMul, Nat.reduceBEq, Int.reduceLT, Int.reduceLE, Int.reduceToNat, Int.reduceBEq, Int.reduceBNe, reduceIte, load3, load9, bs31, call49, call51, call53, r81_0, r81_1, r81_2, r81_3, r81_4, r81_5, r81_6, r81_7, r81_8, r81_9, r81_10, r81_11, r81_12, r81_13, r81_14, r81_15, r81_16, r81_17, r81_18, p81, raise_obj, load_pb, h1, fldN, fld_p, Option.bind_some, Nat.add_zero, Nat.zero_add, bsl5]
       refine callK_ans (isName_ans x.name) (hG1.two g3) (fun S2 g2 hG2 => ?_)
       simp only [SXa, reduceCtorEq, Nat.reduceEqDiff, Nat.reduceAdd, Nat.reduceSub, Nat.reduceMul, Nat.reduceBEq, Int.reduceLT, Int.reduceLE, Int.reduceToNat, Int.reduceBEq, Int.reduceBNe, reduceIte, load3, load9, bs31, call49, call51, call53, r81_0, r81_1, r81_2, r81_3, r81_4, r81_5, r81_6, r81_7, r81_8, r81_9, r81_10, r81_11, r81_12, r81_13, r81_14, r81_15, r81_16, r81_17, r81_18, p81, safe_cons, safe_nil, safe_grow n1 (g3.two g2), Bool.and_self, load_pb, (g3.two g2).objs h1 n1, fldN, fld_p, Option.bind_some, Nat.zero_add]
       refine callK_ans (isName_ans x.param) hG2 (fun S3 g3 hG3 => ?_)
       simp only [SXa, reduceCtorEq, Nat.reduceEqDiff, Nat.reduceAdd, Nat.reduceSub, Nat.reduceMul, Nat.reduceBEq, Int.reduceLT, Int.reduceLE, Int.reduceToNat, Int.reduceBEq, Int.reduceBNe, reduceIte, load3, load9, bs31, call49, call51, call53, r81_0, r81_1, r81_2, r81_3, r81_4, r81_5, r81_6, r81_7, r81_8, r81_9, r81_10, r81_11, r81_12, r81_13, r81_14, r81_15, r81_16, r81_17, r81_18, p81])
    | skip
  repeat' (first
    | (refine condK_split (fun h => ?_) (fun h => ?_) <;> simp only [SXa, reduceCtorEq, Nat.reduceEqDiff, Nat.reduceAdd, Nat.reduceSub, Nat.reduceMul, Nat.reduceBEq, Int.reduceLT, Int.reduceLE, Int.reduceToNat, Int.reduceBEq, Int.reduceBNe, reduceIte, load3, load9, bs31, call49, call51, call53, r81_0, r81_1, r81_2, r81_3, r81_4, r81_5, r81_6, r81_7, r81_8, r81_9, r81_10, r81_11, r81_12, r81_13, r81_14, r81_15, r81_16, r81_17, r81_18, p81, h])
    | (refine guardK_split (fun h => ?_) (fun h => ?_) <;> simp only [SXa, reduceCtorEq, Nat.reduceEqDiff, Nat.reduceAdd, Nat.reduceSub, Nat.reduceMul, Nat.reduceBEq, Int.reduceLT, Int.reduceLE, Int.reduceToNat, Int.reduceBEq, Int.reduceBNe, reduceIte, load3, load9, bs31, call49, call51, call53, r81_0, r81_1, r81_2, r81_3, r81_4, r81_5, r81_6, r81_7, r81_8, r81_9, r81_10, r81_11, r81_12, r81_13, r81_14, r81_15, r81_16, r81_17, r81_18, p81, h]))
  all_goals exact ⟨by simp only [textsF, isEmptyF, Bool.true_or, Bool.or_true, Bool.or_false, Bool.false_or, Bool.true_and, Bool.false_and, Bool.and_true, Bool.and_false, cond_true, cond_false, *], by assumption⟩
end Go.Proofs.YtmmnkemcplgebaaGreatDoor
end
