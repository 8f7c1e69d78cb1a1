/-
  Trees: the walks (is a tree more than is asked of here? where one can stop).
  More of the calculus: a loop with one exit, a part of the code.
  Trees: the walks (where one can stop; the law TreeStops).
  The library's contract of maps.Copy, laid at this program.
  The library's contract of strings.Join, laid at this program.
  The library's contract of strings.Join, at this program.
  The library's contract of slices.Sorted on what maps.Keys hands back, at this program: laid by program (the kit's table of numbers), the kernel compares each body.
  What every law of chapter 3 asks first ('awake'): by the kernel.
-/
import Derived.Test.YtmmnkemcplgebaaGreatDoorQBG
import Derived.Test.YtmmnkemcplgebaaGreatDoorQAV
import Derived.Test.YtmmnkemcplgebaaGreatDoorProg
import Derived.Shelf.SlMaps.Copy
import Derived.Shelf.Strings.OnBuilder
import Derived.Test.YtmmnkemcplgebaaGreatDoorQBA
import Derived.Test.YtmmnkemcplgebaaGreatDoorRows
import Derived.Test.YtmmnkemcplgebaaGreatDoorQAY
import Derived.Shelf.SlIter.Sorted
import Derived.Shelf.SortM.Plain
import Derived.Shelf.SortM.SortNone
section
section
set_option linter.unusedSimpArgs false
set_option linter.unusedVariables false
set_option maxRecDepth 100000
namespace Go.Proofs.YtmmnkemcplgebaaGreatDoor
open Go.Abs
structure RawIs (nx tx : AV) (t : TreeV) : Prop where
 nodes : IsV 7 nx (nodesA t.nodes)
 types : IsV 2 tx (typesA t.types)
theorem RawIs.light {nx tx : AV} {t : TreeV} (h : RawIs nx tx t) (hl : Light t) : TreeIs nx tx t :=
 ⟨h.nodes, h.types, by have := hl.ln; omega, by have := hl.lt; omega, fun x hx => by have := (hl.ln2 x hx).2.2; omega, fun d hd => by have := (hl.lt2 d hd).1; omega⟩
theorem idxS1 {c : ConV} {k : Nat} (hk : k < c.args.length) (S : St) : idxV 1 (argsA c) (some (k : Int)) S = some (.eptr [.sc (.string c.args[k])] 0, S) := idxT (isAr c) hk S
set_option maxHeartbeats 64000000 in
theorem heavy_ok (t : TreeV) (nx tx : AV) (ht : RawIs nx tx t) (S : St) (hS : S.Fresh) : ∃ r S', EvA E 8 [.agg [nx, tx]] S r S' ∧ (∃ b, r = .sc (.bool b) ∧ (b = false → Light t)) ∧ Grow S S' nilV := by
 refine ev8 rfl ?_
 have hG := (Grow.refl hS nilV).born 25 [nx, tx]
 have hT : (S.born 25 [nx, tx]).obj S.no = some [nx, tx] := by simp [born_obj]
 have hn : S.no < (S.born 25 [nx, tx]).no := Nat.lt_succ_self _
 simp only [SXa, Nat.reduceAdd, r8_0, r8_1, r8_2, r8_3, r8_9, r8_28, p8, op_box, cells_agg]
 generalize S.born 25 [nx, tx] = S0 at hG hT hn
 simp only [SXa, reduceCtorEq, Nat.reduceEqDiff, load22, len22, load_pb, hT, fldT0, fld_p, Option.bind_some, Nat.add_zero, lenN ht.nodes]
 cases c1 : decide ((60 : Int) < (t.nodes.length : Int)) with
 | true =>
  simp only [SXa, reduceCtorEq, Nat.reduceEqDiff]
  exact ⟨⟨true, rfl, fun h => by cases h⟩, hG⟩
 | false =>
 have c1n : t.nodes.length ≤ 60 := by simp only [decide_eq_false_iff_not] at c1; omega
 simp only [SXa, reduceCtorEq, Nat.reduceEqDiff, load23, len23, load_pb, hT, fldT1, fld_p, Option.bind_some, Nat.zero_add, lenD ht.types]
 cases c2 : decide ((4 : Int) < (t.types.length : Int)) with
 | true =>
  simp only [SXa, reduceCtorEq, Nat.reduceEqDiff]
  exact ⟨⟨true, rfl, fun h => by cases h⟩, hG⟩
 | false =>
 have c2n : t.types.length ≤ 4 := by simp only [decide_eq_false_iff_not] at c2; omega
 simp only [SXa]
 refine e_loop (fun tm S' N => ∃ k : Nat, k ≤ t.nodes.length ∧ N = t.nodes.length - k ∧ (∀ j (h : j < t.nodes.length), j < k → t.nodes[j].name.size ≤ 60 ∧ t.nodes[j].param.size ≤ 60 ∧ t.nodes[j].kids.length ≤ 20) ∧ S' = S0 ∧ getT tm 1 = .ptr S.no 0 ∧ getT tm 3 = .sc (.int .i64 (k : Int))) t.nodes.length
  ⟨0, by omega, by omega, fun j _ h => by omega, rfl, by simp [getT_setD]⟩ ?_
 rintro tm S1 N ⟨k, hk, rfl, hP, rfl, t1, t3⟩
 by_cases hlt : k < t.nodes.length
 case pos =>
  have wk := wrapK hlt (by omega)
  simp only [SXa, Nat.reduceEqDiff, load9, load22, index22, len22, b8_8, r8_4, r8_5, r8_6, r8_7, t1, t3, load_pb, hT, fldT0, fldN, fld_p, fld_e, Option.bind_some, Nat.add_zero, Nat.zero_add, lenN ht.nodes, dec_lt hlt, idxN ht.nodes hlt, nodeA, opLen9, len9s]
  cases d1 : decide ((60 : Int) < (t.nodes[k].name.size : Int)) with
  | true =>
   simp only [SXa, Nat.reduceEqDiff]
   exact ⟨⟨true, rfl, fun h => by cases h⟩, hG⟩
  | false =>
  simp only [SXa, Nat.reduceEqDiff, load9, load22, index22, t1, t3, load_pb, hT, fldT0, fldN, fld_p, fld_e, Option.bind_some, Nat.add_zero, Nat.zero_add, idxN ht.nodes hlt, nodeA, opLen9, len9s]
  cases d2 : decide ((60 : Int) < (t.nodes[k].param.size : Int)) with
  | true =>
   simp only [SXa, Nat.reduceEqDiff]
   exact ⟨⟨true, rfl, fun h => by cases h⟩, hG⟩
  | false =>
  simp only [SXa, Nat.reduceEqDiff, load22, index22, load28, len28, t1, t3, load_pb, hT, fldT0, fldN, fld_p, fld_e, Option.bind_some, Nat.add_zero, Nat.zero_add, idxN ht.nodes hlt, nodeA, lenK]
  cases d3 : decide ((20 : Int) < (t.nodes[k].kids.length : Int)) with
  | true =>
   simp only [SXa, Nat.reduceEqDiff]
   exact ⟨⟨true, rfl, fun h => by cases h⟩, hG⟩
  | false =>
  simp only [decide_eq_false_iff_not] at d1 d2 d3
  simp only [SXa, Nat.reduceEqDiff, t1, t3, wk]
  refine ⟨t.nodes.length - (k + 1), by omega, k + 1, by omega, rfl, fun j hj hjk => ?_, by simp []⟩
  by_cases hje : j < k
  · exact hP j hj hje
  · have : j = k := by omega
    subst this
    exact ⟨by omega, by omega, by omega⟩
 case neg =>
 have hP2 : ∀ x ∈ t.nodes, x.name.size ≤ 60 ∧ x.param.size ≤ 60 ∧ x.kids.length ≤ 20 := fun x hx => by
  obtain ⟨j, hj, rfl⟩ := List.getElem_of_mem hx
  exact hP j hj (by omega)
 simp only [SXa, Nat.reduceEqDiff, load22, len22, b8_8, r8_4, r8_5, r8_6, r8_7, t1, t3, load_pb, hT, fldT0, fld_p, Option.bind_some, Nat.add_zero, lenN ht.nodes, dec_nlt hlt]
 refine e_loop (fun tm S' N => ∃ k : Nat, k ≤ t.types.length ∧ N = t.types.length - k ∧ (∀ j (h : j < t.types.length), j < k → t.types[j].cons.length ≤ 6 ∧ t.types[j].name.size ≤ 60 ∧ ∀ c ∈ t.types[j].cons, c.name.size ≤ 60 ∧ c.args.length ≤ 4 ∧ ∀ s ∈ c.args, s.size ≤ 60) ∧ S'.obj S.no = some [nx, tx] ∧ Grow S S' nilV ∧ S.no < S'.no ∧ getT tm 1 = .ptr S.no 0 ∧ getT tm 4 = .sc (.int .i64 (k : Int))) t.types.length
  ⟨0, by omega, by omega, fun j _ h => by omega, hT, hG, hn, by simp [getT_setD, t1]⟩ ?_
 clear hlt hP t1 t3
 rintro tm S1 N ⟨k, hk, rfl, hP, hT, hG, hn, t1, t4⟩
 by_cases hlt : k < t.types.length
 case neg =>
  simp only [SXa, Nat.reduceEqDiff, load23, len23, b8_27, r8_10, r8_11, r8_12, r8_13, r8_26, t1, t4, load_pb, hT, fldT1, fld_p, Option.bind_some, Nat.zero_add, lenD ht.types, dec_nlt hlt]
  exact ⟨⟨false, rfl, fun _ => ⟨c1n, c2n, hP2, fun d hd => by
   obtain ⟨j, hj, rfl⟩ := List.getElem_of_mem hd
   exact hP j hj (by omega)⟩⟩, hG⟩
 case pos =>
 have wk := wrapK hlt (by omega)
 simp only [SXa, Nat.reduceEqDiff, load23, index23, len23, load54, len54, b8_27, r8_10, r8_11, r8_12, r8_13, r8_26, t1, t4, load_pb, hT, fldT1, fldD1, fld_p, fld_e, Option.bind_some, Nat.zero_add, lenD ht.types, dec_lt hlt, idxD ht.types hlt, declA, lenCv]
 cases d1 : decide ((6 : Int) < (t.types[k].cons.length : Int)) with
 | true =>
  simp only [SXa, Nat.reduceEqDiff]
  exact ⟨⟨true, rfl, fun h => by cases h⟩, hG⟩
 | false =>
 have d1n : t.types[k].cons.length ≤ 6 := by simp only [decide_eq_false_iff_not] at d1; omega
 simp only [SXa, Nat.reduceEqDiff, load9, load23, index23, t1, t4, load_pb, hT, fldT1, fldD0, fld_p, fld_e, Option.bind_some, Nat.add_zero, Nat.zero_add, idxD ht.types hlt, declA, opLen9, len9s]
 cases d2 : decide ((60 : Int) < (t.types[k].name.size : Int)) with
 | true =>
  simp only [SXa, Nat.reduceEqDiff]
  exact ⟨⟨true, rfl, fun h => by cases h⟩, hG⟩
 | false =>
 have d2n : t.types[k].name.size ≤ 60 := by simp only [decide_eq_false_iff_not] at d2; omega
 simp only [SXa]
 refine e_loop (fun tm S' N => ∃ i : Nat, i ≤ t.types[k].cons.length ∧ N = t.types[k].cons.length - i ∧ (∀ j (h : j < t.types[k].cons.length), j < i → t.types[k].cons[j].name.size ≤ 60 ∧ t.types[k].cons[j].args.length ≤ 4 ∧ ∀ s ∈ t.types[k].cons[j].args, s.size ≤ 60) ∧ S'.obj S.no = some [nx, tx] ∧ Grow S S' nilV ∧ S.no < S'.no ∧ getT tm 1 = .ptr S.no 0 ∧ getT tm 4 = .sc (.int .i64 (k : Int)) ∧ getT tm 5 = .sc (.int .i64 (i : Int))) t.types[k].cons.length
  ⟨0, by omega, by omega, fun j _ h => by omega, hT, hG, hn, by simp [getT_setD, t1, t4]⟩ ?_
 clear t1 t4 hT hG hn
 rintro tm S2 N ⟨i, hi, rfl, hQ, hT, hG, hn, t1, t4, t5⟩
 by_cases hit : i < t.types[k].cons.length
 case neg =>
  simp only [SXa, Nat.reduceEqDiff, load23, index23, load54, len54, b8_25, r8_14, r8_15, r8_16, r8_17, r8_18, r8_24, t1, t4, t5, load_pb, hT, fldT1, fldD1, fld_p, fld_e, Option.bind_some, Nat.zero_add, idxD ht.types hlt, declA, lenCv, dec_nlt hit, wk]
  refine ⟨t.types.length - (k + 1), by omega, k + 1, by omega, rfl, fun j hj hjk => ?_, hG, hn, by simp []⟩
  by_cases hje : j < k
  · exact hP j hj hje
  · have : j = k := by omega
    subst this
    exact ⟨d1n, d2n, fun c hc => by
     obtain ⟨q, hq, rfl⟩ := List.getElem_of_mem hc
     exact hQ q hq (by omega)⟩
 case pos =>
 have wi := wrapK hit (by omega)
 have hG3 := (hG.born 58 [.sc (.string ⟨#[]⟩), .sc (.slice none 0 0)]).put S2.no (.cells (conA t.types[k].cons[i])) hG.no
 have h3 : ((S2.born 58 [.sc (.string ⟨#[]⟩), .sc (.slice none 0 0)]).put S2.no (.cells (conA t.types[k].cons[i]))).obj S2.no = some (conA t.types[k].cons[i]) := by simp [put_obj]
 have hT3 : ((S2.born 58 [.sc (.string ⟨#[]⟩), .sc (.slice none 0 0)]).put S2.no (.cells (conA t.types[k].cons[i]))).obj S.no = some [nx, tx] := by
  have : S.no ≠ S2.no := by omega
  simp [put_obj, born_obj, this, hT]
 have n3 : S2.no < ((S2.born 58 [.sc (.string ⟨#[]⟩), .sc (.slice none 0 0)]).put S2.no (.cells (conA t.types[k].cons[i]))).no := Nat.lt_succ_self _
 simp only [conA] at hG3 h3 hT3 n3
 simp only [SXa, Nat.reduceEqDiff, Nat.reduceAdd, load23, index23, load54, index54, len54, load58, store58, b8_25, r8_14, r8_15, r8_16, r8_17, r8_18, r8_24, t1, t4, t5, load_pb, hT, fldT1, fldD1, fld_p, fld_e, Option.bind_some, Nat.zero_add, idxD ht.types hlt, declA, lenCv, dec_lt hit, idxC hit, conA, allocC, stC, born_obj, Nat.le_refl, List.drop_nil]
 generalize ((S2.born 58 [.sc (.string ⟨#[]⟩), .sc (.slice none 0 0)]).put S2.no (.cells [.sc (.string t.types[k].cons[i].name), (argsA t.types[k].cons[i])])) = S3 at hG3 h3 hT3 n3
 simp only [SXa, Nat.reduceEqDiff, load9, load_pb, h3, fldC0, fld_p, Option.bind_some, Nat.add_zero, opLen9, len9s]
 cases d3 : decide ((60 : Int) < (t.types[k].cons[i].name.size : Int)) with
 | true =>
  simp only [SXa, Nat.reduceEqDiff]
  exact ⟨⟨true, rfl, fun h => by cases h⟩, hG3⟩
 | false =>
 simp only [SXa, Nat.reduceEqDiff, load31, len31, load_pb, h3, fldC1, fld_p, Option.bind_some, Nat.zero_add, lenAr]
 cases d4 : decide ((4 : Int) < (t.types[k].cons[i].args.length : Int)) with
 | true =>
  simp only [SXa, Nat.reduceEqDiff]
  exact ⟨⟨true, rfl, fun h => by cases h⟩, hG3⟩
 | false =>
 simp only [decide_eq_false_iff_not] at d3 d4
 simp only [SXa]
 have n30 : S.no < S3.no := by omega
 refine e_loop (fun tm S' N => ∃ q : Nat, q ≤ t.types[k].cons[i].args.length ∧ N = t.types[k].cons[i].args.length - q ∧ (∀ j (h : j < t.types[k].cons[i].args.length), j < q → t.types[k].cons[i].args[j].size ≤ 60) ∧ S' = S3 ∧ getT tm 1 = .ptr S.no 0 ∧ getT tm 4 = .sc (.int .i64 (k : Int)) ∧ getT tm 5 = .sc (.int .i64 (i : Int)) ∧ getT tm 6 = .ptr S2.no 0 ∧ getT tm 7 = .sc (.int .i64 (q : Int))) t.types[k].cons[i].args.length
  ⟨0, by omega, by omega, fun j _ h => by omega, rfl, by simp [getT_setD, t1, t4, t5]⟩ ?_
 clear t1 t4 t5
 rintro tm S4 N ⟨q, hq, rfl, hR, rfl, t1, t4, t5, t6, t7⟩
 by_cases hqt : q < t.types[k].cons[i].args.length
 case neg =>
  simp only [SXa, Nat.reduceEqDiff, load31, len31, b8_23, r8_19, r8_20, r8_21, r8_22, t1, t4, t5, t6, t7, load_pb, h3, fldC1, fld_p, Option.bind_some, Nat.zero_add, lenAr, dec_nlt hqt, wi]
  refine ⟨t.types[k].cons.length - (i + 1), by omega, i + 1, by omega, rfl, fun j hj hji => ?_, hT3, hG3, n30, by simp []⟩
  by_cases hje : j < i
  · exact hQ j hj hje
  · have : j = i := by omega
    subst this
    exact ⟨by omega, by omega, fun s hs => by
     obtain ⟨u, hu, rfl⟩ := List.getElem_of_mem hs
     exact hR u hu (by omega)⟩
 case pos =>
 have wq := wrapK hqt (by omega)
 simp only [SXa, Nat.reduceEqDiff, load9, load31, index31, len31, b8_23, r8_19, r8_20, r8_21, r8_22, t6, t7, load_pb, h3, fldC1, fld_p, Option.bind_some, Nat.zero_add, lenAr, dec_lt hqt, idxS1 hqt, opLen9, len9s]
 cases d5 : decide ((60 : Int) < (t.types[k].cons[i].args[q].size : Int)) with
 | true =>
  simp only [SXa, Nat.reduceEqDiff]
  exact ⟨⟨true, rfl, fun h => by cases h⟩, hG3⟩
 | false =>
 simp only [decide_eq_false_iff_not] at d5
 simp only [SXa, Nat.reduceEqDiff, t1, t4, t5, t6, t7, wq]
 refine ⟨t.types[k].cons[i].args.length - (q + 1), by omega, q + 1, by omega, rfl, fun j hj hjk => ?_, by simp []⟩
 by_cases hje : j < q
 · exact hR j hj hje
 · have : j = q := by omega
   subst this
   omega
end Go.Proofs.YtmmnkemcplgebaaGreatDoor
end
end

section
section
set_option linter.unusedSimpArgs false
set_option linter.unusedVariables false
set_option maxRecDepth 100000
namespace Go.Abs
end Go.Abs
namespace Go.Abs
end Go.Abs
end
end

section
section
set_option linter.unusedSimpArgs false
set_option linter.unusedVariables false
set_option maxRecDepth 100000
namespace Go.Proofs.YtmmnkemcplgebaaGreatDoor
open Go.Abs
theorem allSz_ints : ∀ l : List Int, allSz 1 (intsA l) = true
 | [] => rfl
 | s :: l => by simp only [intsA, List.map_cons, allSz, Bool.and_eq_true]; exact ⟨rfl, allSz_ints l⟩
theorem intsA_app (a b : List Int) : intsA a ++ intsA b = intsA (a ++ b) := by simp [intsA]
theorem bsi1 (a : Int) (S : St) : buildSliceA E 28 1 [(0, .sc (.int .i64 a))] S = some (.vec 1 1 [.sc (.int .i64 a)], S) := by kernel_rfl
theorem app_ints {S S0 : St} {X Y : AV} {xs ys : List Int} (hX : OwnV S 3 1 X (intsA xs)) (hN : Newish S0 X) (G : Grow S0 S nilV) (hY : IsV 1 Y (intsA ys)) (hb : xs.length + ys.length ≤ 2 ^ 40) :
 ∃ Z S1, builtinA E false .append [28, 28] [X, Y] S = some (Z, S1) ∧ OwnV S1 3 1 Z (intsA (xs ++ ys)) ∧ Newish S0 Z ∧ Grow S0 S1 nilV ∧ S1.no = S.no ∧ (∀ l, S1.obj l = S.obj l) ∧ Grow S S1 X := by
 rw [← intsA_app]
 exact app_any el28 und28 hX hN G hY (allSz_ints _) (by rw [intsA_len, intsA_len]; omega)
theorem stopsF_drop {l : List NodeV} {k : Nat} (hk : k < l.length) : stopsF (l.drop k) k = bif stopF l[k].kind then ((k : Nat) : Int) :: stopsF (l.drop (k + 1)) (k + 1) else stopsF (l.drop (k + 1)) (k + 1) := by rw [List.drop_eq_getElem_cons hk, stopsF]
theorem stopsF_len : ∀ (l : List NodeV) (k : Nat), (stopsF l k).length ≤ l.length
 | [], k => Nat.le_refl _
 | x :: r, k => by
  have := stopsF_len r (k + 1)
  unfold stopsF
  cases stopF x.kind with
  | true => simp only [cond_true, List.length_cons]; omega
  | false => simp only [cond_false, List.length_cons]; omega
set_option maxHeartbeats 16000000 in
theorem stops_ok (t : TreeV) (nx tx : AV) (ht : TreeIs nx tx t) (S : St) (hS : S.Fresh) : ∃ r S', EvA E 12 [.agg [nx, tx]] S r S' ∧ IsV 1 r (intsA (bif goodF t then stopsF t.nodes 0 else [])) ∧ Grow S S' nilV := by
 refine ev12 rfl ?_
 have hG := (Grow.refl hS nilV).born 25 [nx, tx]
 have hT : (S.born 25 [nx, tx]).obj S.no = some [nx, tx] := by simp [born_obj]
 have hn : S.no < (S.born 25 [nx, tx]).no := Nat.lt_succ_self _
 simp only [SXa, reduceCtorEq, Nat.reduceEqDiff, Nat.reduceAdd, load25, r12_0, r12_1, r12_2, r12_3, r12_4, r12_11, p12, op_box, cells_agg]
 generalize S.born 25 [nx, tx] = S0 at hG hT hn
 simp only [SXa, reduceCtorEq, Nat.reduceEqDiff, Nat.reduceAdd, call9, load_pb, hT, Option.bind_some, Nat.zero_add, Nat.le_refl]
 refine callK_ans (good_ans t nx tx ht) hG (fun S1 g1 hG1 => ?_)
 have hT1 := g1.objs hT hn
 have hn1 := Nat.lt_of_lt_of_le hn g1.no
 cases hg : goodF t with
 | false =>
  simp only [SXa, reduceCtorEq, Nat.reduceEqDiff]
  exact ⟨IsV.nil 1, hG1⟩
 | true =>
 simp only [SXa, reduceCtorEq, Nat.reduceEqDiff, load22, len22, load_pb, hT1, fldT0, fld_p, Option.bind_some, Nat.add_zero, lenN ht.nodes]
 have hln := ht.ln
 refine e_loop (fun tm S' N => ∃ (k : Nat) (X : AV) (ws : List Int), k ≤ t.nodes.length ∧ N = t.nodes.length - k ∧ ws ++ stopsF (t.nodes.drop k) k = stopsF t.nodes 0 ∧ ws.length ≤ k ∧ OwnV S' 3 1 X (intsA ws) ∧ Newish S X ∧ Grow S S' nilV ∧ getT tm 3 = X ∧ getT tm 10 = nx ∧ getT tm 11 = .sc (.int .i64 (t.nodes.length : Nat)) ∧ getT tm 12 = .sc (.int .i64 (k : Int))) t.nodes.length
  ⟨0, nilV, [], by omega, by omega, by rw [List.drop_zero]; rfl, by simp, OwnV.nil' _ _ _, .inl rfl, hG1, by simp [getT_setD]⟩ ?_
 rintro tm S2 N ⟨k, X, ws, hk, rfl, hw, hl, hX, hN, hG2, t3, t10, t11, t12⟩
 by_cases hlt : k < t.nodes.length
 case neg =>
  have hke : k = t.nodes.length := by omega
  rw [hke, List.drop_length, stopsF, List.append_nil] at hw
  simp only [SXa, Nat.reduceEqDiff, b12_10, r12_5, r12_6, r12_7, r12_8, r12_9, t3, t11, t12, dec_nlt hlt]
  rw [← hw]
  exact ⟨hX.is, hG2⟩
 case pos =>
 have wk := wrapK hlt (by omega)
 rw [stopsF_drop hlt] at hw
 have hG3 := (hG2.born 30 zN).put S2.no (.cells (nodeA t.nodes[k])) hG2.no
 have hN3 : ((S2.born 30 zN).put S2.no (.cells (nodeA t.nodes[k]))).obj S2.no = some (nodeA t.nodes[k]) := by simp [put_obj]
 have gr3 : Grow S2 ((S2.born 30 zN).put S2.no (.cells (nodeA t.nodes[k]))) nilV := ((Grow.refl hG2.fresh nilV).born _ _).put S2.no _ (Nat.le_refl _)
 simp only [SXa, Nat.reduceEqDiff, index22, load30, store30, b12_10, r12_5, r12_6, r12_7, r12_8, r12_9, t10, t11, t12, dec_lt hlt, idxN ht.nodes hlt, nodeA_len, nodeA_take, allocN, stN, born_obj, Option.bind_some, Nat.zero_add, zN_len, zN_drop, List.append_nil, Nat.le_refl]
 generalize (S2.born 30 zN).put S2.no (.cells (nodeA t.nodes[k])) = S3 at hG3 hN3 gr3
 simp only [nodeA] at hN3
 simp only [SXa, Nat.reduceEqDiff, load3, call37, load_pb, hN3, fldN, fld_p, Option.bind_some, Nat.add_zero]
 refine callK_ans (stop_ans _) hG3 (fun S4 g4 hG4 => ?_)
 have gr4 := gr3.two g4
 cases hs : stopF t.nodes[k].kind with
 | false =>
  rw [hs, cond_false] at hw
  simp only [SXa, Nat.reduceEqDiff, t3, t10, t11, t12, wk]
  exact ⟨t.nodes.length - (k + 1), by omega, k + 1, X, ws, by omega, rfl, hw, by omega, hX.keep gr4, hN, hG4, by simp []⟩
 | true =>
  rw [hs, cond_true] at hw
  obtain ⟨Z, S5, ap, hZ, hNZ, hG5, _, _, _⟩ := app_ints (Y := .vec 1 1 [.sc (.int .i64 ((k : Nat) : Int))]) (ys := [((k : Nat) : Int)]) (hX.keep gr4) hN hG4 (IsV.vec 1 1 _) (by simp only [List.length_cons, List.length_nil]; omega)
  simp only [SXa, Nat.reduceEqDiff, bs28, app28, t3, t10, t11, t12, bsi1, ap, wk]
  exact ⟨t.nodes.length - (k + 1), by omega, k + 1, Z, ws ++ [((k : Nat) : Int)], by omega, rfl, by rw [← hw]; simp, by simp only [List.length_append, List.length_cons, List.length_nil]; omega, hZ, hNZ, hG5, by simp []⟩
theorem awake_ans : Ans E 7 [] (.sc (.bool true)) := fun S hS => ⟨S, ev_x (E := E) (f := 7) (fn := Tryz.f7) (g := memoX (.bool true)) (by kernel_rfl) rfl rfl, Grow.refl hS _⟩
end Go.Proofs.YtmmnkemcplgebaaGreatDoor
end
end

section
section
set_option linter.unusedSimpArgs false
set_option linter.unusedVariables false
namespace Go.Proofs.YtmmnkemcplgebaaGreatDoor
open Go.Shelf Go
def copyLays_ren : Go.Shelf.Ren := ⟨fun | 5 => 62 | n => n, fun | 23 => 71 | 24 => 71 | 26 => 9 | 27 => 4 | 0 => 0 | 4 => 4 | n => n, fun | n => n⟩
theorem copyLays : Go.Proofs.SlLaysX.n5 Tryz.prog copyLays_ren := {
 mixed := by kernel_rfl,
 f5 := ⟨ "maps.Copy[map[string]bool,map[string]bool,string,bool]", by decide, Tryz.func62.trans (congrArg some (by kernel_rfl))⟩,
 t0 := Tryz.underlying0,
 a0 := Tryz.isAgg0,
 z0 := Tryz.sizeOf0,
 v0 := Tryz.zeroValue0,
 t4 := Tryz.underlying4,
 a4 := Tryz.isAgg4,
 z4 := Tryz.sizeOf4,
 v4 := Tryz.zeroValue4,
 t23 := Tryz.underlying71,
 a23 := Tryz.isAgg71,
 z23 := Tryz.sizeOf71,
 v23 := Tryz.zeroValue71,
 t24 := Tryz.underlying71,
 a24 := Tryz.isAgg71,
 z24 := Tryz.sizeOf71,
 v24 := Tryz.zeroValue71,
 a26 := Tryz.isAgg9,
 z26 := Tryz.sizeOf9,
 a27 := Tryz.isAgg4,
 z27 := Tryz.sizeOf4 }
end Go.Proofs.YtmmnkemcplgebaaGreatDoor
end
end

section
section
set_option linter.unusedSimpArgs false
set_option linter.unusedVariables false
namespace Go.Proofs.YtmmnkemcplgebaaGreatDoor
open Go.Shelf Go
def joinLays_ren : Go.Shelf.Ren := ⟨fun | 156 => 64 | 165 => 87 | 166 => 38 | 169 => 41 | 240 => 63 | 241 => 106 | 276 => 86 | 277 => 128 | n => n, fun | 31 => 31 | 9 => 9 | 3 => 3 | 4 => 4 | 0 => 0 | 20 => 20 | 72 => 76 | 76 => 79 | 70 => 73 | 37 => 74 | 75 => 78 | 127 => 106 | 164 => 121 | 5 => 5 | 80 => 83 | n => n, fun | n => n⟩
theorem joinLays : Go.Proofs.Lays.n156 Tryz.prog joinLays_ren := {
 mixed := by kernel_rfl,
 f156 := Tryz.func64.trans (congrArg some (by kernel_rfl)),
 f165 := Tryz.func87.trans (congrArg some (by kernel_rfl)),
 f166 := Tryz.func38.trans (congrArg some (by kernel_rfl)),
 f169 := Tryz.func41.trans (congrArg some (by kernel_rfl)),
 f240 := Tryz.func63.trans (congrArg some (by kernel_rfl)),
 f241 := Tryz.func106.trans (congrArg some (by kernel_rfl)),
 f276 := Tryz.func86.trans (congrArg some (by kernel_rfl)),
 f277 := Tryz.func128.trans (congrArg some (by kernel_rfl)),
 t0 := Tryz.underlying0,
 a0 := Tryz.isAgg0,
 z0 := Tryz.sizeOf0,
 v0 := Tryz.zeroValue0,
 t3 := Tryz.underlying3,
 a3 := Tryz.isAgg3,
 z3 := Tryz.sizeOf3,
 v3 := Tryz.zeroValue3,
 t4 := Tryz.underlying4,
 a4 := Tryz.isAgg4,
 z4 := Tryz.sizeOf4,
 v4 := Tryz.zeroValue4,
 t9 := Tryz.underlying9,
 a9 := Tryz.isAgg9,
 z9 := Tryz.sizeOf9,
 v9 := Tryz.zeroValue9,
 t20 := Tryz.underlying20,
 a20 := Tryz.isAgg20,
 z20 := Tryz.sizeOf20,
 v20 := Tryz.zeroValue20,
 t31 := Tryz.underlying31,
 a31 := Tryz.isAgg31,
 z31 := Tryz.sizeOf31,
 v31 := Tryz.zeroValue31,
 t37 := Tryz.underlying74,
 a37 := Tryz.isAgg74,
 z37 := Tryz.sizeOf74,
 v37 := Tryz.zeroValue74,
 t70 := Tryz.underlying73,
 a70 := Tryz.isAgg73,
 z70 := Tryz.sizeOf73,
 v70 := Tryz.zeroValue73,
 t72 := Tryz.underlying76,
 a72 := Tryz.isAgg76,
 z72 := Tryz.sizeOf76,
 v72 := Tryz.zeroValue76,
 t75 := Tryz.underlying78,
 a75 := Tryz.isAgg78,
 z75 := Tryz.sizeOf78,
 v75 := Tryz.zeroValue78,
 t76 := Tryz.underlying79,
 a76 := Tryz.isAgg79,
 z76 := Tryz.sizeOf79,
 v76 := Tryz.zeroValue79,
 t127 := Tryz.underlying106,
 a127 := Tryz.isAgg106,
 z127 := Tryz.sizeOf106,
 v127 := Tryz.zeroValue106,
 t164 := Tryz.underlying121,
 a164 := Tryz.isAgg121,
 z164 := Tryz.sizeOf121,
 v164 := Tryz.zeroValue121 }
end Go.Proofs.YtmmnkemcplgebaaGreatDoor
end
end

section
section
set_option linter.unusedSimpArgs false
set_option linter.unusedVariables false
set_option maxRecDepth 100000
namespace Go.Proofs.YtmmnkemcplgebaaGreatDoor
open Go.Shelf Go
theorem joinEx : Go.Proofs.Builder.Extra Tryz.prog joinLays_ren := {
 sizeBuilder := by kernel_rfl,
 liesBuilder := by kernel_rfl,
 t5 := Tryz.underlying5,
 a5 := Tryz.isAgg5,
 z5 := Tryz.sizeOf5,
 v5 := Tryz.zeroValue5,
 infoByte := by kernel_rfl,
 cellsByte := by kernel_rfl,
 sizeByte := by kernel_rfl,
 neB5 := by decide }
theorem joinC : Abs.JoinC Tryz.prog 64 :=
 ⟨fun a c sep w => Go.Proofs.Any.strings_Join_none joinLays joinEx a c sep w, fun bk o c xs sep w h1 h2 h3 h4 h5 => Go.Proofs.Any.strings_Join joinLays joinEx bk o c xs sep w h1 h2 h3 h4 h5⟩
end Go.Proofs.YtmmnkemcplgebaaGreatDoor
end
end

section
section
set_option linter.unusedSimpArgs false
set_option linter.unusedVariables false
namespace Go.Proofs.YtmmnkemcplgebaaGreatDoor
open Go.RowKit Go.Maps Go.Sort Go.Shelf Go
def keysLays_ren : Go.Shelf.Ren := ⟨fun | 10 => 60 | n => n, fun | 33 => 95 | 23 => 71 | 0 => 0 | 4 => 4 | 26 => 9 | 3 => 4 | n => n, fun | n => n⟩
theorem keysLays : Go.Proofs.SlLaysZ.n10 Tryz.prog keysLays_ren := {
 mixed := by kernel_rfl,
 f10 := ⟨ "maps.Keys[map[string]bool,string,bool]$1", by decide, Tryz.func60.trans (congrArg some (by kernel_rfl))⟩,
 t0 := Tryz.underlying0,
 a0 := Tryz.isAgg0,
 z0 := Tryz.sizeOf0,
 v0 := Tryz.zeroValue0,
 t4 := Tryz.underlying4,
 a4 := Tryz.isAgg4,
 z4 := Tryz.sizeOf4,
 v4 := Tryz.zeroValue4,
 t23 := Tryz.underlying71,
 a23 := Tryz.isAgg71,
 z23 := Tryz.sizeOf71,
 v23 := Tryz.zeroValue71,
 t26 := Tryz.underlying9,
 a26 := Tryz.isAgg9,
 z26 := Tryz.sizeOf9,
 v26 := Tryz.zeroValue9,
 t33 := Tryz.underlying95,
 a33 := Tryz.isAgg95,
 z33 := Tryz.sizeOf95,
 v33 := Tryz.zeroValue95 }
def sortedLays_ren : Go.Shelf.Ren := ⟨fun | 6 => 33 | 8 => 58 | 9 => 59 | 11 => 83 | 13 => 85 | 12 => 84 | 23 => 104 | 24 => 105 | 14 => 95 | 15 => 96 | 16 => 97 | 17 => 98 | 18 => 99 | 19 => 100 | 20 => 101 | 21 => 102 | 22 => 103 | 25 => 122 | 26 => 123 | 27 => 124 | 28 => 125 | 29 => 126 | 30 => 127 | 31 => 142 | n => n, fun | 26 => 9 | 28 => 69 | 24 => 31 | 0 => 0 | 3 => 3 | 37 => 120 | 48 => 145 | 50 => 132 | 4 => 4 | 40 => 137 | 39 => 136 | 45 => 142 | 5 => 5 | 9 => 9 | 51 => 161 | 55 => 165 | 57 => 172 | 58 => 115 | 33 => 95 | n => n, fun | n => n⟩
theorem sortedLays : Go.Proofs.SlLaysZ.n6 Tryz.prog sortedLays_ren := {
 mixed := by kernel_rfl,
 f6 := ⟨ "slices.Sorted[string]", by decide, Tryz.func33.trans (congrArg some (by kernel_rfl))⟩,
 f8 := ⟨ "slices.Collect[string]", by decide, Tryz.func58.trans (congrArg some (by kernel_rfl))⟩,
 f11 := ⟨ "slices.AppendSeq[[]string,string]", by decide, Tryz.func83.trans (congrArg some (by kernel_rfl))⟩,
 t0 := Tryz.underlying0,
 a0 := Tryz.isAgg0,
 z0 := Tryz.sizeOf0,
 v0 := Tryz.zeroValue0,
 t24 := Tryz.underlying31,
 a24 := Tryz.isAgg31,
 z24 := Tryz.sizeOf31,
 v24 := Tryz.zeroValue31,
 t26 := Tryz.underlying9,
 a26 := Tryz.isAgg9,
 z26 := Tryz.sizeOf9,
 v26 := Tryz.zeroValue9,
 t28 := Tryz.underlying69,
 a28 := Tryz.isAgg69,
 z28 := Tryz.sizeOf69,
 v28 := Tryz.zeroValue69,
 i26 := by kernel_rfl }
def sortLays_ren : Go.Shelf.Ren := ⟨fun | 6 => 59 | 8 => 85 | 9 => 84 | 19 => 104 | 20 => 105 | 21 => 95 | 22 => 96 | 23 => 97 | 24 => 98 | 25 => 99 | 26 => 100 | 27 => 101 | 28 => 102 | 29 => 103 | 36 => 122 | 31 => 123 | 32 => 124 | 37 => 125 | 38 => 126 | 39 => 127 | 41 => 142 | n => n, fun | 27 => 31 | 29 => 9 | 3 => 3 | 32 => 120 | 26 => 31 | 0 => 0 | 44 => 145 | 46 => 132 | 4 => 4 | 36 => 137 | 35 => 136 | 41 => 142 | 5 => 5 | 9 => 9 | 53 => 161 | 57 => 165 | 63 => 172 | 64 => 115 | n => n, fun | n => n⟩
theorem sortLays : Go.Proofs.SlLaysM.n6 Tryz.prog sortLays_ren := {
 mixed := by kernel_rfl,
 f6 := ⟨ "slices.Sort[[]string,string]", by decide, Tryz.func59.trans (congrArg some (by kernel_rfl))⟩,
 f8 := Tryz.func85.trans (congrArg some (by kernel_rfl)),
 f9 := ⟨ "slices.pdqsortOrdered[string]", by decide, Tryz.func84.trans (congrArg some (by kernel_rfl))⟩,
 f19 := Tryz.func104.trans (congrArg some (by kernel_rfl)),
 f20 := Tryz.func105.trans (congrArg some (by kernel_rfl)),
 f21 := ⟨ "slices.insertionSortOrdered[string]", by decide, Tryz.func95.trans (congrArg some (by kernel_rfl))⟩,
 f22 := ⟨ "slices.heapSortOrdered[string]", by decide, Tryz.func96.trans (congrArg some (by kernel_rfl))⟩,
 f23 := ⟨ "slices.breakPatternsOrdered[string]", by decide, Tryz.func97.trans (congrArg some (by kernel_rfl))⟩,
 f24 := ⟨ "slices.choosePivotOrdered[string]", by decide, Tryz.func98.trans (congrArg some (by kernel_rfl))⟩,
 f25 := ⟨ "slices.reverseRangeOrdered[string]", by decide, Tryz.func99.trans (congrArg some (by kernel_rfl))⟩,
 f26 := ⟨ "slices.partialInsertionSortOrdered[string]", by decide, Tryz.func100.trans (congrArg some (by kernel_rfl))⟩,
 f27 := ⟨ "cmp.Less[string]", by decide, Tryz.func101.trans (congrArg some (by kernel_rfl))⟩,
 f28 := ⟨ "slices.partitionEqualOrdered[string]", by decide, Tryz.func102.trans (congrArg some (by kernel_rfl))⟩,
 f29 := ⟨ "slices.partitionOrdered[string]", by decide, Tryz.func103.trans (congrArg some (by kernel_rfl))⟩,
 f31 := Tryz.func123.trans (congrArg some (by kernel_rfl)),
 f32 := Tryz.func124.trans (congrArg some (by kernel_rfl)),
 f36 := ⟨ "slices.siftDownOrdered[string]", by decide, Tryz.func122.trans (congrArg some (by kernel_rfl))⟩,
 f37 := ⟨ "slices.medianAdjacentOrdered[string]", by decide, Tryz.func125.trans (congrArg some (by kernel_rfl))⟩,
 f38 := ⟨ "slices.medianOrdered[string]", by decide, Tryz.func126.trans (congrArg some (by kernel_rfl))⟩,
 f39 := ⟨ "cmp.isNaN[string]", by decide, Tryz.func127.trans (congrArg some (by kernel_rfl))⟩,
 f41 := ⟨ "slices.order2Ordered[string]", by decide, Tryz.func142.trans (congrArg some (by kernel_rfl))⟩,
 t0 := Tryz.underlying0,
 a0 := Tryz.isAgg0,
 z0 := Tryz.sizeOf0,
 v0 := Tryz.zeroValue0,
 t3 := Tryz.underlying3,
 a3 := Tryz.isAgg3,
 z3 := Tryz.sizeOf3,
 v3 := Tryz.zeroValue3,
 t4 := Tryz.underlying4,
 a4 := Tryz.isAgg4,
 z4 := Tryz.sizeOf4,
 v4 := Tryz.zeroValue4,
 t5 := Tryz.underlying5,
 a5 := Tryz.isAgg5,
 z5 := Tryz.sizeOf5,
 v5 := Tryz.zeroValue5,
 t9 := Tryz.underlying9,
 a9 := Tryz.isAgg9,
 z9 := Tryz.sizeOf9,
 v9 := Tryz.zeroValue9,
 t26 := Tryz.underlying31,
 a26 := Tryz.isAgg31,
 z26 := Tryz.sizeOf31,
 v26 := Tryz.zeroValue31,
 t27 := Tryz.underlying31,
 a27 := Tryz.isAgg31,
 z27 := Tryz.sizeOf31,
 v27 := Tryz.zeroValue31,
 t29 := Tryz.underlying9,
 a29 := Tryz.isAgg9,
 z29 := Tryz.sizeOf9,
 v29 := Tryz.zeroValue9,
 t32 := Tryz.underlying120,
 a32 := Tryz.isAgg120,
 z32 := Tryz.sizeOf120,
 v32 := Tryz.zeroValue120,
 t35 := Tryz.underlying136,
 a35 := Tryz.isAgg136,
 z35 := Tryz.sizeOf136,
 v35 := Tryz.zeroValue136,
 t36 := Tryz.underlying137,
 a36 := Tryz.isAgg137,
 z36 := Tryz.sizeOf137,
 v36 := Tryz.zeroValue137,
 t41 := Tryz.underlying142,
 a41 := Tryz.isAgg142,
 z41 := Tryz.sizeOf142,
 v41 := Tryz.zeroValue142,
 t44 := Tryz.underlying145,
 a44 := Tryz.isAgg145,
 z44 := Tryz.sizeOf145,
 v44 := Tryz.zeroValue145,
 t46 := Tryz.underlying132,
 a46 := Tryz.isAgg132,
 z46 := Tryz.sizeOf132,
 v46 := Tryz.zeroValue132,
 t53 := Tryz.underlying161,
 a53 := Tryz.isAgg161,
 z53 := Tryz.sizeOf161,
 v53 := Tryz.zeroValue161,
 t57 := Tryz.underlying165,
 a57 := Tryz.isAgg165,
 z57 := Tryz.sizeOf165,
 v57 := Tryz.zeroValue165,
 t63 := Tryz.underlying172,
 a63 := Tryz.isAgg172,
 z63 := Tryz.sizeOf172,
 v63 := Tryz.zeroValue172,
 t64 := Tryz.underlying115,
 a64 := Tryz.isAgg115,
 z64 := Tryz.sizeOf115,
 v64 := Tryz.zeroValue115 }
theorem sorts (m : Nat) : AnyZ.SortsIn Tryz.prog sortedLays_ren Fence.wide m :=
 ⟨fun blk off cap ss W hH hblk hsz => callsIn_wide.2 (AnyM.slices_Sort_string sortLays blk off cap ss W hH hblk hsz),
  fun p cap W => callsIn_wide.2 (AnyM.slices_Sort_string_none sortLays p cap W)⟩
set_option maxHeartbeats 1000000 in
theorem sortedC : Abs.SortedC Tryz.prog 33 60 9 := by
 intro bx b nn D0 R w hbx hcell hown hmax hbytes
 have hseq : SeqGives Fence.wide 2 Tryz.prog 60 #[.pointer (some ⟨bx, 0, none⟩)] encStr (fun ss => ss.Perm (strKeys D0)) (Maps.size D0) w :=
  AnyZ.keys_gives (ρ := keysLays_ren) keysLays Fence.wide _ trivial rfl (by omega) bx b nn D0 w hbx hcell hown
 exact callsIn_wide.1 (AnyZ.sorted_in sortedLays Fence.wide 5 trivial trivial trivial trivial rfl (by omega) (sorts _) (enters_of Tryz.func59 (by kernel_rfl) rfl) 60 #[.pointer (some ⟨bx, 0, none⟩)] trivial (enters_of Tryz.func60 (by kernel_rfl) rfl) _ _ hmax hbytes w hseq)
end Go.Proofs.YtmmnkemcplgebaaGreatDoor
end
end

section
section
set_option linter.unusedSimpArgs false
set_option linter.unusedVariables false
set_option maxRecDepth 100000
namespace Go.Proofs.YtmmnkemcplgebaaGreatDoor
open Go.Abs Go.RowKit
theorem names : Tryz.prog.funcs.toList.all (fun x => x.name != "runtime.NumGoroutine") = true := by kernel_rfl
theorem mixed : Tryz.prog.follows .mixedOrders = true := by kernel_rfl
theorem entNo (x : Value) (w : World) : (callFunc 86 #[x]).run Tryz.prog w = .ok (.value x) w := by kernel_rfl
theorem tyS : Tryz.prog.underlying 9 = some .string := by kernel_rfl
noncomputable def G0 (g : Nat) : Option (List AV) := bif Nat.beq g 2 then some (propsV.map .sc) else none
noncomputable def X0 (f : FuncId) : Option (List AV → St → Option (AV × St)) := bif Nat.beq f 33 then some (sortedX 60) else none
noncomputable def env0 : Env := { P := Tryz.prog, G := G0, fn := fun f => Tryz.prog.funcs[f]?, und := Tryz.prog.underlying, inf := Tryz.prog.info?, hp := fun _ _ => false, meth := fun _ _ => none, ext := extOf [] [86], X := X0 }
theorem run0 : saysTrue (evF env0 300 60 7 [] S0) = true := by kernel_rfl
theorem ok0 : env0.Ok := by
 have ok := plainEnv_ok (P := Tryz.prog) (hp := env0.hp) (meth := fun _ _ => none) (ext := extOf [] [86]) names mixed (fun _ _ _ h => nomatch h) (extOf_ok (fun g hg => nomatch hg) (fun g hg => by have := List.mem_singleton.1 hg; subst this; exact entNo))
 exact ⟨ok.fn, ok.und, ok.inf, ok.mixed, ok.meth, ok.ext⟩
theorem x0_case {f : FuncId} {g : List AV → St → Option (AV × St)} (h : env0.X f = some g) : f = 33 ∧ g = sortedX 60 := by
 have h : X0 f = some g := h
 unfold X0 at h
 cases hb : Nat.beq f 33 with
 | true =>
  rw [hb] at h
  exact ⟨Nat.eq_of_beq_eq_true hb, (Option.some.inj h).symm⟩
 | false => rw [hb] at h; cases h
theorem x0 : XOk env0 := ⟨fun f g fn h hfn => by
 obtain ⟨rfl, rfl⟩ := x0_case h
 have hfn : Tryz.prog.funcs[33]? = some fn := hfn
 obtain rfl : fn = Tryz.f33 := (Option.some.inj (Tryz.func33.symm.trans hfn)).symm
 exact ⟨by kernel_rfl, fun args S r S' hx C w vs hw hl => sortedX_ok (E := env0) tyS sortedC hx hw hl⟩⟩
theorem e0X : EvoX env0 := ⟨fun f g h args S r S' hx => by
 obtain ⟨rfl, rfl⟩ := x0_case h
 exact sortedX_evo hx⟩
theorem f0X : FrmX env0 := ⟨fun f g h D A X args r A' k hx => by
 obtain ⟨rfl, rfl⟩ := x0_case h
 exact sortedX_frm k hx⟩
theorem g0_sub : ∀ g cs, env0.G g = some cs → tabs g = some cs := by
 intro g cs h
 have h : G0 g = some cs := h
 unfold G0 at h
 unfold tabs
 cases hb : Nat.beq g 2 with
 | true => rw [hb] at h; exact h
 | false => rw [hb] at h; cases h
theorem g0_sc : ∀ g cs, env0.G g = some cs → ∀ x ∈ cs, ∃ v, x = .sc v := by
 intro g cs h x hx
 have h : G0 g = some cs := h
 unfold G0 at h
 cases hb : Nat.beq g 2 with
 | true =>
  rw [hb] at h
  have := (Option.some.inj h).symm
  subst this
  obtain ⟨z, _, rfl⟩ := List.mem_map.1 hx
  exact ⟨_, rfl⟩
 | false => rw [hb] at h; cases h
theorem awake_ok {E : Env} (hE : Here E) {args : List AV} {S : St} {r : AV} {S' : St} (hm : memoX (.bool true) args S = some (r, S')) {C : Ctx} {w : World} {vs : Array Value} (hw : WR E C S w) (hl : LR C w args vs.toList) :
 Calls E.P 7 vs w (fun e w' => ∃ u C', e = .returned u ∧ WR E C' S' w' ∧ Ext C w C' w' ∧ VR C' w' r u) := by
 obtain ⟨S1, h⟩ := saysTrue_eq run0
 exact memo_sub (E0 := env0) hE.P.symm (fun g cs h => by rw [hE.G]; exact g0_sub g cs h) g0_sc ok0 x0 e0X f0X h hm hw hl
end Go.Proofs.YtmmnkemcplgebaaGreatDoor
end
end
