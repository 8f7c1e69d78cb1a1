/-
  Trees: the walks (names of a node; where a constructor is declared; may a node be?).
  Trees: the walks (where a constructor is declared; may a node be?).
  Trees: the walks (may a node be, but for its kids' own?).
-/
import Derived.Test.YtmmnkemcplgebaaGreatDoorQBD
section
section
set_option linter.unusedSimpArgs false
set_option linter.unusedVariables false
set_option maxRecDepth 100000
namespace Go.Proofs.YtmmnkemcplgebaaGreatDoor
open Go.Abs
theorem raise_obj (S : St) (n l : Nat) : (S.raise n).obj l = S.obj l := rfl
theorem raise_no (S : St) (n : Nat) : (S.raise n).no = S.no + n := rfl
theorem xcase {f : FuncId} {g : List AV → St → Option (AV × St)} (h : E.X f = some g) : (f = 145 ∧ g = pureX exclF) ∨ (f = 115 ∧ g = pureX decF) ∨ (f = 7 ∧ g = memoX (.bool true)) ∨ (f = 62 ∧ g = copyX) ∨ (f = 65 ∧ g = pureX fmtF) ∨ (f = 64 ∧ g = joinX) ∨ (f = 33 ∧ g = sortedV 60) := by
 change (bif Nat.beq f 145 then some (pureX exclF) else bif Nat.beq f 115 then some (pureX decF) else bif Nat.beq f 7 then some (memoX (.bool true)) else bif Nat.beq f 62 then some (copyX) else bif Nat.beq f 65 then some (pureX fmtF) else bif Nat.beq f 64 then some (joinX) else bif Nat.beq f 33 then some (sortedV 60) else none) = some g at h
 cases hb : Nat.beq f 145 with
 | true =>
  rw [hb] at h
  exact (.inl (⟨Nat.eq_of_beq_eq_true hb, (Option.some.inj h).symm⟩))
 | false =>
  rw [hb] at h
  clear hb
  cases hb : Nat.beq f 115 with
  | true =>
   rw [hb] at h
   exact (.inr (.inl (⟨Nat.eq_of_beq_eq_true hb, (Option.some.inj h).symm⟩)))
  | false =>
   rw [hb] at h
   clear hb
   cases hb : Nat.beq f 7 with
   | true =>
    rw [hb] at h
    exact (.inr (.inr (.inl (⟨Nat.eq_of_beq_eq_true hb, (Option.some.inj h).symm⟩))))
   | false =>
    rw [hb] at h
    clear hb
    cases hb : Nat.beq f 62 with
    | true =>
     rw [hb] at h
     exact (.inr (.inr (.inr (.inl (⟨Nat.eq_of_beq_eq_true hb, (Option.some.inj h).symm⟩)))))
    | false =>
     rw [hb] at h
     clear hb
     cases hb : Nat.beq f 65 with
     | true =>
      rw [hb] at h
      exact (.inr (.inr (.inr (.inr (.inl (⟨Nat.eq_of_beq_eq_true hb, (Option.some.inj h).symm⟩))))))
     | false =>
      rw [hb] at h
      clear hb
      cases hb : Nat.beq f 64 with
      | true =>
       rw [hb] at h
       exact (.inr (.inr (.inr (.inr (.inr (.inl (⟨Nat.eq_of_beq_eq_true hb, (Option.some.inj h).symm⟩)))))))
      | false =>
       rw [hb] at h
       clear hb
       cases hb : Nat.beq f 33 with
       | true =>
        rw [hb] at h
        exact (.inr (.inr (.inr (.inr (.inr (.inr (⟨Nat.eq_of_beq_eq_true hb, (Option.some.inj h).symm⟩)))))))
       | false =>
        rw [hb] at h
        cases h
theorem noX : EvoX E := ⟨fun f g h args S r S' hg => by
 rcases xcase h with ⟨_, rfl⟩ | ⟨_, rfl⟩ | ⟨_, rfl⟩ | ⟨_, rfl⟩ | ⟨_, rfl⟩ | ⟨_, rfl⟩ | ⟨_, rfl⟩
 · exact pureX_evo hg
 · exact pureX_evo hg
 · exact memoX_evo hg
 · exact copyX_evo hg
 · exact pureX_evo hg
 · exact joinX_evo hg
 · exact sortedV_evo hg⟩
theorem frmX : FrmX E := ⟨fun f g h D A X args r A' k hg => by
 rcases xcase h with ⟨_, rfl⟩ | ⟨_, rfl⟩ | ⟨_, rfl⟩ | ⟨_, rfl⟩ | ⟨_, rfl⟩ | ⟨_, rfl⟩ | ⟨_, rfl⟩
 · exact pureX_frm k hg
 · exact pureX_frm k hg
 · exact memoX_frm k hg
 · exact copyX_frm k hg
 · exact pureX_frm k hg
 · exact joinX_frm k hg
 · exact sortedV_frm k hg⟩
theorem bsl5 (a b c d e : ByteArray) (S : St) : buildSliceA E 31 5 [(0, .sc (.string a)), (1, .sc (.string b)), (2, .sc (.string c)), (3, .sc (.string d)), (4, .sc (.string e))] S = some (.vec 1 1 [.sc (.string a), .sc (.string b), .sc (.string c), .sc (.string d), .sc (.string e)], S) := by kernel_rfl
theorem opers_ans (s : ByteArray) : Ans E 53 [.vec 1 1 [.sc (.string ⟨#[43]⟩), .sc (.string ⟨#[45]⟩), .sc (.string ⟨#[42]⟩), .sc (.string ⟨#[60]⟩), .sc (.string ⟨#[61]⟩)], .sc (.string s)] (.sc (.bool (hasF opers s))) := contains_ans opers _ (IsV.vec 1 1 _) (by decide) s
set_option maxHeartbeats 16000000 in
theorem texts_ans (x : NodeV) : Ans E 81 [.agg (nodeA x)] (.sc (.bool (textsF x))) := ans_of fun S hS => by
 refine ev81 rfl ?_
 have hG := (Grow.refl hS nilV).born 30 (nodeA x)
 have h0 : (S.born 30 (nodeA x)).obj S.no = some (nodeA x) := by simp [born_obj]
 have hno : S.no < (S.born 30 (nodeA x)).no := Nat.lt_succ_self _
 simp only [SXa, Nat.reduceAdd, r81_0, r81_1, r81_2, r81_3, r81_4, r81_5, r81_6, r81_7, r81_10, r81_11, r81_12, r81_13, r81_14, r81_15, r81_16, r81_17, r81_18, p81, op_box, cells_agg]
 generalize S.born 30 (nodeA x) = S0 at hG h0 hno
 simp only [nodeA] at h0
 have hG1 := hG.two (Grow.raise hG.fresh 8 nilV)
 have h1 : (S0.raise 8).obj S.no = _ := h0
 have n1 : S.no < (S0.raise 8).no := by rw [raise_no]; omega
 simp only [SXa, reduceCtorEq, Nat.reduceEqDiff, load3, load9, load_pb, h1, fldN, fld_p, Option.bind_some, Nat.add_zero, Nat.zero_add]
 generalize S0.raise 8 = S1 at hG1 h1 n1
 repeat' (first
  | (refine condK_split (fun h => ?_) (fun h => ?_) <;> simp only [SXa, reduceCtorEq, Nat.reduceEqDiff, Nat.reduceBEq, load9, bs31, call49, call51, call53, h, load_pb, h1, fldN, fld_p, Option.bind_some, Nat.zero_add, bsl5])
  | (refine guardK_split (fun h => ?_) (fun h => ?_) <;> simp only [SXa, reduceCtorEq, Nat.reduceEqDiff, h]))
 all_goals first
  | (refine callK_ans (isName_ans x.name) hG1 (fun S2 g2 hG2 => ?_); simp only [SXa, reduceCtorEq, Nat.reduceEqDiff])
  | (refine callK_ans (isName_ans x.param) hG1 (fun S2 g2 hG2 => ?_); simp only [SXa, reduceCtorEq, Nat.reduceEqDiff])
  | (refine callK_ans (isCon_ans x.name) hG1 (fun S2 g2 hG2 => ?_); simp only [SXa, reduceCtorEq, Nat.reduceEqDiff])
  | (refine callK_ans (opers_ans x.name) hG1 (fun S2 g2 hG2 => ?_); simp only [SXa, reduceCtorEq, Nat.reduceEqDiff])
  | (refine e_drawC noX draw81_0 ?_
     have g3 := Grow.raise hG1.fresh 8 nilV
     simp only [SXa, reduceCtorEq, Nat.reduceEqDiff, load9, call49, r81_8, r81_9, raise_obj, load_pb, h1, fldN, fld_p, Option.bind_some, Nat.zero_add]
     refine callK_ans (isName_ans x.name) (hG1.two g3) (fun S2 g2 hG2 => ?_)
     simp only [SXa, reduceCtorEq, Nat.reduceEqDiff, load9, safe_cons, safe_nil, safe_grow n1 (g3.two g2), Bool.and_self, load_pb, (g3.two g2).objs h1 n1, fldN, fld_p, Option.bind_some, Nat.zero_add]
     refine callK_ans (isName_ans x.param) hG2 (fun S3 g3 hG3 => ?_)
     simp only [SXa, reduceCtorEq, Nat.reduceEqDiff])
  | skip
 repeat' (first
  | (refine condK_split (fun h => ?_) (fun h => ?_) <;> simp only [SXa, reduceCtorEq, Nat.reduceEqDiff, Nat.reduceAdd, Nat.reduceSub, Nat.reduceMul, Nat.reduceBEq, Int.reduceLT, Int.reduceLE, Int.reduceToNat, Int.reduceBEq, Int.reduceBNe, reduceIte, load3, load9, bs31, call49, call51, call53, r81_0, r81_1, r81_2, r81_3, r81_4, r81_5, r81_6, r81_7, r81_8, r81_9, r81_10, r81_11, r81_12, r81_13, r81_14, r81_15, r81_16, r81_17, r81_18, p81, h])
  | (refine guardK_split (fun h => ?_) (fun h => ?_) <;> simp only [SXa, reduceCtorEq, Nat.reduceEqDiff, h]))
 all_goals exact ⟨by simp only [textsF, isEmptyF, Bool.true_or, Bool.or_true, Bool.or_false, Bool.true_and, Bool.false_and, cond_true, cond_false, *], by assumption⟩
end Go.Proofs.YtmmnkemcplgebaaGreatDoor
end
end

section
section
set_option linter.unusedSimpArgs false
set_option linter.unusedVariables false
set_option maxRecDepth 100000
namespace Go.Proofs.YtmmnkemcplgebaaGreatDoor
open Go.Abs
structure TreeIs (nx tx : AV) (t : TreeV) : Prop where
 nodes : IsV 7 nx (nodesA t.nodes)
 types : IsV 2 tx (typesA t.types)
 ln : t.nodes.length ≤ 2 ^ 40
 lt : t.types.length ≤ 1000
 lk : ∀ x ∈ t.nodes, x.kids.length ≤ 2 ^ 40
 lc : ∀ d ∈ t.types, d.cons.length ≤ 2 ^ 40
theorem allocD {tm : PM AV} {S : St} {d : Option Tmp} : opV E tm d (.alloc 56) S = some (.ptr S.no 0, S.born 56 [.sc (.string ⟨#[]⟩), .sc (.slice none 0 0)]) := alloc_of (by kernel_rfl)
theorem allocC {tm : PM AV} {S : St} {d : Option Tmp} : opV E tm d (.alloc 58) S = some (.ptr S.no 0, S.born 58 [.sc (.string ⟨#[]⟩), .sc (.slice none 0 0)]) := alloc_of (by kernel_rfl)
theorem stD (l : Nat) (d : DeclV) (S : St) : storeC 2 (.ptr l 0) (.agg [.sc (.string d.name), consV d]) S = (S.obj l).bind fun cs => if 2 ≤ cs.length then some (passed, S.put l (.cells (.sc (.string d.name) :: consV d :: cs.drop 2))) else none :=
 store_agg 2 l _ (by simp only [List.all_cons, List.all_nil, consV, rowV_ok]; rfl)
theorem stC (l : Nat) (c : ConV) (S : St) : storeC 2 (.ptr l 0) (.agg [.sc (.string c.name), argsA c]) S = (S.obj l).bind fun cs => if 2 ≤ cs.length then some (passed, S.put l (.cells (.sc (.string c.name) :: argsA c :: cs.drop 2))) else none :=
 store_agg 2 l _ (by simp only [List.all_cons, List.all_nil, argsA, rowV_ok]; rfl)
theorem fldD0 {tm : PM AV} {S : St} {d : Option Tmp} (x : Operand) : opV E tm d (.fieldAddr 56 x 0) S = fldV 0 (E.ev tm x) S := field_chk 56 0 0 (by kernel_rfl) x
theorem fldD1 {tm : PM AV} {S : St} {d : Option Tmp} (x : Operand) : opV E tm d (.fieldAddr 56 x 1) S = fldV 1 (E.ev tm x) S := field_chk 56 1 1 (by kernel_rfl) x
theorem fldC0 {tm : PM AV} {S : St} {d : Option Tmp} (x : Operand) : opV E tm d (.fieldAddr 58 x 0) S = fldV 0 (E.ev tm x) S := field_chk 58 0 0 (by kernel_rfl) x
theorem fldC1 {tm : PM AV} {S : St} {d : Option Tmp} (x : Operand) : opV E tm d (.fieldAddr 58 x 1) S = fldV 1 (E.ev tm x) S := field_chk 58 1 1 (by kernel_rfl) x
theorem fldT0 {tm : PM AV} {S : St} {d : Option Tmp} (x : Operand) : opV E tm d (.fieldAddr 25 x 0) S = fldV 0 (E.ev tm x) S := field_chk 25 0 0 (by kernel_rfl) x
theorem fldT1 {tm : PM AV} {S : St} {d : Option Tmp} (x : Operand) : opV E tm d (.fieldAddr 25 x 1) S = fldV 1 (E.ev tm x) S := field_chk 25 1 1 (by kernel_rfl) x
theorem lenD {x : AV} {l : List DeclV} (h : IsV 2 x (typesA l)) (S : St) : lenV x S = some (.sc (.int .i64 (l.length : Nat)), S) := by rw [h.len]; simp [typesA]
theorem idxD {x : AV} {l : List DeclV} (h : IsV 2 x (typesA l)) {k : Nat} (hk : k < l.length) (S : St) : idxV 2 x (some (k : Int)) S = some (.eptr (declA l[k]) 0, S) := h.idx (v := .agg (declA l[k])) (by simp [typesA, hk]) rfl S
theorem idxC {d : DeclV} {k : Nat} (hk : k < d.cons.length) (S : St) : idxV 2 (consV d) (some (k : Int)) S = some (.eptr (conA d.cons[k]) 0, S) := (isCv d).idx (v := .agg (conA d.cons[k])) (by simp [consA, hk]) rfl S
theorem conAt_drop (name : ByteArray) {l : List ConV} {k : Nat} (hk : k < l.length) : conAt name (l.drop k) k = bif l[k].name.toList == name.toList then some k else conAt name (l.drop (k + 1)) (k + 1) := by rw [List.drop_eq_getElem_cons hk, conAt]
theorem ofF_drop (name : ByteArray) {l : List DeclV} {k : Nat} (hk : k < l.length) : ofF name (l.drop k) k = match conAt name l[k].cons 0 with | some c => some (k, c) | none => ofF name (l.drop (k + 1)) (k + 1) := by rw [List.drop_eq_getElem_cons hk, ofF]; rfl
def ofA (r : Option (Nat × Nat)) : AV := match r with
 | some (d, c) => .tup [.sc (.int .i64 (d : Nat)), .sc (.int .i64 (c : Nat)), .sc (.bool true)]
 | none => .tup [.sc (.int .i64 0), .sc (.int .i64 0), .sc (.bool false)]
set_option maxHeartbeats 16000000 in
theorem of_ans (t : TreeV) (nx tx : AV) (ht : TreeIs nx tx t) (name : ByteArray) : Ans E 17 [.agg [nx, tx], .sc (.string name)] (ofA (ofF name t.types 0)) := ans_of fun S hS => by
 refine ev17 rfl ?_
 have hG := (Grow.refl hS nilV).born 25 [nx, tx]
 have h0 : (S.born 25 [nx, tx]).obj S.no = some [nx, tx] := by simp [born_obj]
 simp only [SXa, reduceCtorEq, Nat.reduceAdd, r17_0, r17_1, r17_13, p17, op_box, cells_agg]
 generalize S.born 25 [nx, tx] = S0 at hG h0
 simp only [SXa, reduceCtorEq, Nat.reduceEqDiff, load23, len23, load_pb, h0, fldT1, fld_p, Option.bind_some, Nat.zero_add, lenD ht.types]
 refine e_loop (fun tm S' N => ∃ k : Nat, k ≤ t.types.length ∧ N = t.types.length - k ∧ ofF name (t.types.drop k) k = ofF name t.types 0 ∧ Grow S S' nilV ∧ getT tm 1 = .sc (.string name) ∧ getT tm 12 = tx ∧ getT tm 13 = .sc (.int .i64 (t.types.length : Nat)) ∧ getT tm 14 = .sc (.int .i64 (k : Int))) t.types.length ⟨0, by omega, by omega, by rw [List.drop_zero], hG, by simp [getT_setD]⟩ ?_
 rintro tm S1 N ⟨k, hk, rfl, hr, hG1, t1, t12, t13, t14⟩
 have hlt' := ht.lt
 by_cases hlt : k < t.types.length
 · have wk := wrapK hlt (by omega)
   have hlc := ht.lc _ (List.getElem_mem hlt)
   rw [ofF_drop name hlt] at hr
   have hG2 := (hG1.born 56 [.sc (.string ⟨#[]⟩), .sc (.slice none 0 0)]).put S1.no (.cells (declA t.types[k])) hG1.no
   have h2 : ((S1.born 56 [.sc (.string ⟨#[]⟩), .sc (.slice none 0 0)]).put S1.no (.cells (declA t.types[k]))).obj S1.no = some (declA t.types[k]) := by simp [put_obj]
   simp only [declA] at hG2 h2
   simp only [SXa, Nat.reduceEqDiff, Nat.reduceAdd, index23, load56, store56, b17_12, r17_2, r17_3, r17_4, r17_11, t12, t13, t14, dec_lt hlt, idxD ht.types hlt, declA, allocD, stD, born_obj, Option.bind_some, Nat.zero_add, Nat.le_refl, List.drop_nil]
   generalize ((S1.born 56 [.sc (.string ⟨#[]⟩), .sc (.slice none 0 0)]).put S1.no (.cells [.sc (.string t.types[k].name), (consV t.types[k])])) = S2 at hG2 h2
   simp only [SXa, Nat.reduceEqDiff, load54, len54, load_pb, h2, fldD1, fld_p, Option.bind_some, Nat.zero_add, lenCv]
   refine e_loop (fun tm S' N => ∃ j : Nat, j ≤ t.types[k].cons.length ∧ N = t.types[k].cons.length - j ∧ conAt name (t.types[k].cons.drop j) j = conAt name t.types[k].cons 0 ∧ Grow S S' nilV ∧ getT tm 1 = .sc (.string name) ∧ getT tm 7 = .sc (.int .i64 (k : Int)) ∧ getT tm 12 = tx ∧ getT tm 13 = .sc (.int .i64 (t.types.length : Nat)) ∧ getT tm 14 = .sc (.int .i64 (k : Int)) ∧ getT tm 20 = (consV t.types[k]) ∧ getT tm 21 = .sc (.int .i64 (t.types[k].cons.length : Nat)) ∧ getT tm 22 = .sc (.int .i64 (j : Int))) t.types[k].cons.length ⟨0, by omega, by omega, by rw [List.drop_zero], hG2, by simp [getT_setD, t1, t12, t13, t14]⟩ ?_
   rintro tm S3 N ⟨j, hj, rfl, hq, hG3, t1, t7, t12, t13, t14, t20, t21, t22⟩
   by_cases hjt : j < t.types[k].cons.length
   · have wj := wrapK hjt (by omega)
     rw [conAt_drop name hjt] at hq
     have hG4 := (hG3.born 58 [.sc (.string ⟨#[]⟩), .sc (.slice none 0 0)]).put S3.no (.cells (conA t.types[k].cons[j])) hG3.no
     have h4 : ((S3.born 58 [.sc (.string ⟨#[]⟩), .sc (.slice none 0 0)]).put S3.no (.cells (conA t.types[k].cons[j]))).obj S3.no = some (conA t.types[k].cons[j]) := by simp [put_obj]
     simp only [conA] at hG4 h4
     simp only [SXa, Nat.reduceEqDiff, Nat.reduceAdd, index54, load58, store58, b17_10, r17_5, r17_6, r17_7, r17_8, r17_9, t20, t21, t22, dec_lt hjt, idxC hjt, conA, allocC, stC, born_obj, Option.bind_some, Nat.zero_add, Nat.le_refl, List.drop_nil]
     generalize ((S3.born 58 [.sc (.string ⟨#[]⟩), .sc (.slice none 0 0)]).put S3.no (.cells [.sc (.string t.types[k].cons[j].name), (argsA t.types[k].cons[j])])) = S4 at hG4 h4
     simp only [SXa, Nat.reduceEqDiff, load9, t1, load_pb, h4, fldC0, fld_p, Option.bind_some, Nat.add_zero]
     cases hb : (t.types[k].cons[j].name.toList == name.toList) with
     | true =>
      rw [hb, cond_true] at hq
      rw [← hq] at hr
      simp only [SXa, Nat.reduceEqDiff, t7]
      exact ⟨by rw [← hr]; rfl, hG4⟩
     | false =>
      rw [hb, cond_false] at hq
      simp only [SXa, Nat.reduceEqDiff, t1, t7, t12, t13, t14, t20, t21, t22, wj]
      exact ⟨t.types[k].cons.length - (j + 1), by omega, j + 1, by omega, rfl, hq, hG4, by simp []⟩
   · have hje : j = t.types[k].cons.length := by omega
     rw [hje, List.drop_length, conAt] at hq
     rw [← hq] at hr
     simp only [SXa, reduceCtorEq, Nat.reduceEqDiff, b17_10, r17_5, r17_6, r17_7, r17_8, r17_9, t1, t12, t13, t14, t21, t22, dec_nlt hjt, wk]
     exact ⟨t.types.length - (k + 1), by omega, k + 1, by omega, rfl, hr, hG3, by simp []⟩
 · have hke : k = t.types.length := by omega
   rw [hke, List.drop_length, ofF] at hr
   simp only [SXa, Nat.reduceEqDiff, b17_12, r17_2, r17_3, r17_4, r17_11, t13, t14, dec_nlt hlt]
   exact ⟨by rw [← hr]; rfl, hG1⟩
end Go.Proofs.YtmmnkemcplgebaaGreatDoor
end
end

section
section
set_option linter.unusedSimpArgs false
set_option linter.unusedVariables false
set_option maxRecDepth 100000
namespace Go.Proofs.YtmmnkemcplgebaaGreatDoor
open Go.Abs
theorem intsA_len (l : List Int) : (intsA l).length = l.length := by simp [intsA]
theorem strsA_len (l : List ByteArray) : (strsA l).length = l.length := by simp [strsA]
theorem conAt_lt (name : ByteArray) : ∀ (l : List ConV) (k c : Nat), conAt name l k = some c → k ≤ c ∧ c - k < l.length
 | [], k, c, h => by cases h
 | x :: r, k, c, h => by
  unfold conAt at h
  cases hb : (x.name.toList == name.toList) with
  | true =>
   rw [hb] at h
   have := Option.some.inj h
   simp only [List.length_cons]; omega
  | false =>
   rw [hb] at h
   have := conAt_lt name r (k + 1) c h
   simp only [List.length_cons]; omega
theorem ofF_lt (name : ByteArray) : ∀ (l : List DeclV) (k d c : Nat), ofF name l k = some (d, c) → k ≤ d ∧ ∃ h : d - k < l.length, c < l[d - k].cons.length
 | [], k, d, c, h => by cases h
 | x :: r, k, d, c, h => by
  unfold ofF at h
  cases hb : conAt name x.cons 0 with
  | some c' =>
   rw [hb] at h
   simp only [Option.some.injEq, Prod.mk.injEq] at h
   obtain ⟨rfl, rfl⟩ := h
   have := conAt_lt name x.cons 0 c' hb
   refine ⟨Nat.le_refl _, by simp, ?_⟩
   simp only [Nat.sub_self, List.getElem_cons_zero]; omega
  | none =>
   rw [hb] at h
   obtain ⟨h1, h2, h3⟩ := ofF_lt name r (k + 1) d c h
   have e : d - k = (d - (k + 1)) + 1 := by omega
   refine ⟨by omega, by simp only [List.length_cons]; omega, ?_⟩
   simp only [e, List.getElem_cons_succ]
   exact h3
set_option maxHeartbeats 16000000 in
theorem alone_ans (t : TreeV) (nx tx : AV) (ht : TreeIs nx tx t) (x : NodeV) (hx : x.kids.length ≤ 2 ^ 40) : Ans E 56 [.agg [nx, tx], .agg (nodeA x)] (.sc (.bool (aloneF t.types x))) := ans_of fun S hS => by
 refine ev56 rfl ?_
 have hG := ((Grow.refl hS nilV).born 25 [nx, tx]).born 30 (nodeA x)
 have hT : ((S.born 25 [nx, tx]).born 30 (nodeA x)).obj S.no = some [nx, tx] := by simp [born_obj, born_no]
 have hN : ((S.born 25 [nx, tx]).born 30 (nodeA x)).obj (S.no + 1) = some (nodeA x) := by simp [born_obj, born_no]
 have hn : S.no + 1 < ((S.born 25 [nx, tx]).born 30 (nodeA x)).no := Nat.lt_succ_self _
 simp only [SXa, reduceCtorEq, Nat.reduceEqDiff, Nat.reduceAdd, r56_0, r56_1, r56_2, r56_3, r56_4, r56_5, r56_6, r56_7, r56_8, r56_9, p56, op_box, cells_agg, born_no]
 generalize (S.born 25 [nx, tx]).born 30 (nodeA x) = S0 at hG hT hN hn
 simp only [nodeA] at hN
 simp only [SXa, reduceCtorEq, Nat.reduceEqDiff, load3, load_pb, hN, fldN, fld_p, Option.bind_some, Nat.add_zero]
 cases c1 : decide (x.kind < 1) with
 | true =>
  simp only [SXa, reduceCtorEq, Nat.reduceEqDiff]
  exact ⟨by simp only [aloneF, c1, Bool.true_or, cond_true], hG⟩
 | false =>
 cases c2 : decide (26 < x.kind) with
 | true =>
  simp only [SXa, reduceCtorEq, Nat.reduceEqDiff, load3, load_pb, hN, fldN, fld_p, Option.bind_some, Nat.add_zero, c2]
  exact ⟨by simp only [aloneF, c1, c2, Bool.true_or, Bool.or_true, cond_true], hG⟩
 | false =>
 simp only [SXa, reduceCtorEq, Nat.reduceEqDiff, Nat.reduceAdd, load3, load30, call80, load_pb, hN, fldN, fld_p, Option.bind_some, Nat.add_zero, Nat.zero_add, Nat.le_refl, c2]
 refine callK_ans (number_ans x) hG (fun S1 g1 hG1 => ?_)
 have hT1 := g1.objs hT (by omega)
 have hN1 := g1.objs hN hn
 have hn1 := Nat.lt_of_lt_of_le hn g1.no
 cases c3 : numberF x with
 | false =>
  simp only [SXa, reduceCtorEq, Nat.reduceEqDiff]
  exact ⟨by simp only [aloneF, c1, c2, c3, Bool.not_false, Bool.true_or, Bool.or_true, cond_true], hG1⟩
 | true =>
 simp only [SXa, reduceCtorEq, Nat.reduceEqDiff, Nat.reduceAdd, load30, call81, load_pb, hN1, Option.bind_some, Nat.zero_add, Nat.le_refl]
 refine callK_ans (texts_ans x) hG1 (fun S2 g2 hG2 => ?_)
 have hT2 := g2.objs hT1 (by omega)
 have hN2 := g2.objs hN1 hn1
 have hn2 := Nat.lt_of_lt_of_le hn1 g2.no
 cases c4 : textsF x with
 | false =>
  simp only [SXa, reduceCtorEq, Nat.reduceEqDiff]
  exact ⟨by simp only [aloneF, c1, c2, c3, c4, Bool.not_false, Bool.not_true, Bool.or_false, Bool.or_true, cond_true], hG2⟩
 | true =>
 simp only [SXa, reduceCtorEq, Nat.reduceEqDiff, load3, call82, load_pb, hN2, fldN, fld_p, Option.bind_some, Nat.add_zero]
 refine callK_ans (kids_ans x.kind) hG2 (fun S3 g3 hG3 => ?_)
 have hT3 := g3.objs hT2 (by omega)
 have hN3 := g3.objs hN2 hn2
 have hn3 := Nat.lt_of_lt_of_le hn2 g3.no
 have e0 : aloneF t.types x = bif decide ((x.kids.length : Int) < (kidsF x.kind).1) || decide ((kidsF x.kind).2 < (x.kids.length : Int)) || (x.kind == 11 && !armF (x.kids.length : Int)) then false else bif x.kind != 5 && x.kind != 26 then true else match ofF x.name t.types 0 with | some (d, c) => (((argsAt t.types d c : Nat) : Int) == (x.kids.length : Int)) | none => false := by
  simp only [aloneF, c1, c2, c3, c4, Bool.not_true, Bool.or_false, cond_false]
  rfl
 simp only [SXa, reduceCtorEq, Nat.reduceEqDiff, load28, len28, load_pb, hN3, fldN, fld_p, Option.bind_some, Nat.zero_add, lenK]
 rw [e0]
 cases c5 : decide ((x.kids.length : Int) < (kidsF x.kind).1) with
 | true =>
  simp only [SXa, reduceCtorEq, Nat.reduceEqDiff]
  exact ⟨by simp only [Bool.true_or, cond_true], hG3⟩
 | false =>
 cases c6 : decide ((kidsF x.kind).2 < (x.kids.length : Int)) with
 | true =>
  simp only [SXa, reduceCtorEq, Nat.reduceEqDiff, load28, len28, load_pb, hN3, fldN, fld_p, Option.bind_some, Nat.zero_add, lenK, c6]
  exact ⟨by simp only [Bool.or_true, Bool.true_or, cond_true], hG3⟩
 | false =>
 simp only [SXa, reduceCtorEq, Nat.reduceEqDiff, load3, load28, len28, load_pb, hN3, fldN, fld_p, Option.bind_some, Nat.add_zero, Nat.zero_add, lenK, c6]
 cases c7 : (x.kind == 11) with
 | true =>
  simp only [SXa, reduceCtorEq, Nat.reduceEqDiff, load28, len28, call57, load_pb, hN3, fldN, fld_p, Option.bind_some, Nat.zero_add, lenK]
  refine callK_ans (arm_ans _) hG3 (fun S4 g4 hG4 => ?_)
  have hT4 := g4.objs hT3 (by omega)
  have hN4 := g4.objs hN3 hn3
  have hn4 := Nat.lt_of_lt_of_le hn3 g4.no
  cases c8 : armF (x.kids.length : Int) with
  | false =>
   simp only [SXa, reduceCtorEq, Nat.reduceEqDiff]
   exact ⟨by first | rfl | simp, hG4⟩
  | true =>
   simp only [SXa, reduceCtorEq, Nat.reduceEqDiff, load3, load_pb, hN4, fldN, fld_p, Option.bind_some, Nat.add_zero]
   cases c9 : (x.kind != 5) with
   | true =>
    cases c10 : (x.kind != 26) with
    | true =>
     simp only [SXa, reduceCtorEq, Nat.reduceEqDiff, load3, load_pb, hN4, fldN, fld_p, Option.bind_some, Nat.add_zero, c10]
     exact ⟨by first | rfl | simp, hG4⟩
    | false =>
     simp only [SXa, reduceCtorEq, Nat.reduceEqDiff, Nat.reduceAdd, load3, load9, load25, call17, load_pb, hN4, hT4, fldN, fld_p, Option.bind_some, Nat.add_zero, Nat.zero_add, Nat.le_refl, c10]
     refine callK_ans (of_ans t nx tx ht x.name) hG4 (fun S6 g6 hG6 => ?_)
     have hT6 := g6.objs hT4 (by omega)
     have hN6 := g6.objs hN4 hn4
     cases ho : ofF x.name t.types 0 with
     | none =>
      simp only [SXa, reduceCtorEq, Nat.reduceEqDiff, ofA]
      exact ⟨by first | rfl | simp, hG6.two (Grow.raise hG6.fresh _ nilV)⟩
     | some dc =>
      obtain ⟨d, c⟩ := dc
      obtain ⟨_, hd, hc⟩ := ofF_lt x.name t.types 0 d c ho
      simp only [Nat.sub_zero] at hd hc
      have ea : argsAt t.types d c = t.types[d].cons[c].args.length := by simp [argsAt, hd, hc]
      simp only [SXa, reduceCtorEq, Nat.reduceEqDiff, load23, index23, load28, len28, load31, len31, load54, index54, ofA, raise_obj, load_pb, hT6, hN6, fldT1, fldN, fld_p, fld_e, Option.bind_some, Nat.zero_add, idxD ht.types hd, declA, fldD1, idxC hc, conA, fldC1, lenAr, lenK]
      exact ⟨by rw [ea]; rfl, hG6.two (Grow.raise hG6.fresh _ nilV)⟩
   | false =>
    simp only [SXa, reduceCtorEq, Nat.reduceEqDiff, Nat.reduceAdd, load9, load25, call17, load_pb, hN4, hT4, fldN, fld_p, Option.bind_some, Nat.zero_add, Nat.le_refl]
    refine callK_ans (of_ans t nx tx ht x.name) hG4 (fun S6 g6 hG6 => ?_)
    have hT6 := g6.objs hT4 (by omega)
    have hN6 := g6.objs hN4 hn4
    cases ho : ofF x.name t.types 0 with
    | none =>
     simp only [SXa, reduceCtorEq, Nat.reduceEqDiff, ofA]
     exact ⟨by first | rfl | simp, hG6.two (Grow.raise hG6.fresh _ nilV)⟩
    | some dc =>
     obtain ⟨d, c⟩ := dc
     obtain ⟨_, hd, hc⟩ := ofF_lt x.name t.types 0 d c ho
     simp only [Nat.sub_zero] at hd hc
     have ea : argsAt t.types d c = t.types[d].cons[c].args.length := by simp [argsAt, hd, hc]
     simp only [SXa, reduceCtorEq, Nat.reduceEqDiff, load23, index23, load28, len28, load31, len31, load54, index54, ofA, raise_obj, load_pb, hT6, hN6, fldT1, fldN, fld_p, fld_e, Option.bind_some, Nat.zero_add, idxD ht.types hd, declA, fldD1, idxC hc, conA, fldC1, lenAr, lenK]
     exact ⟨by rw [ea]; rfl, hG6.two (Grow.raise hG6.fresh _ nilV)⟩
 | false =>
  simp only [SXa, reduceCtorEq, Nat.reduceEqDiff, load3, load_pb, hN3, fldN, fld_p, Option.bind_some, Nat.add_zero]
  cases c9 : (x.kind != 5) with
  | true =>
   cases c10 : (x.kind != 26) with
   | true =>
    simp only [SXa, reduceCtorEq, Nat.reduceEqDiff, load3, load_pb, hN3, fldN, fld_p, Option.bind_some, Nat.add_zero, c10]
    exact ⟨by first | rfl | simp, hG3⟩
   | false =>
    simp only [SXa, reduceCtorEq, Nat.reduceEqDiff, Nat.reduceAdd, load3, load9, load25, call17, load_pb, hN3, hT3, fldN, fld_p, Option.bind_some, Nat.add_zero, Nat.zero_add, Nat.le_refl, c10]
    refine callK_ans (of_ans t nx tx ht x.name) hG3 (fun S6 g6 hG6 => ?_)
    have hT6 := g6.objs hT3 (by omega)
    have hN6 := g6.objs hN3 hn3
    cases ho : ofF x.name t.types 0 with
    | none =>
     simp only [SXa, reduceCtorEq, Nat.reduceEqDiff, ofA]
     exact ⟨by first | rfl | simp, hG6.two (Grow.raise hG6.fresh _ nilV)⟩
    | some dc =>
     obtain ⟨d, c⟩ := dc
     obtain ⟨_, hd, hc⟩ := ofF_lt x.name t.types 0 d c ho
     simp only [Nat.sub_zero] at hd hc
     have ea : argsAt t.types d c = t.types[d].cons[c].args.length := by simp [argsAt, hd, hc]
     simp only [SXa, reduceCtorEq, Nat.reduceEqDiff, load23, index23, load28, len28, load31, len31, load54, index54, ofA, raise_obj, load_pb, hT6, hN6, fldT1, fldN, fld_p, fld_e, Option.bind_some, Nat.zero_add, idxD ht.types hd, declA, fldD1, idxC hc, conA, fldC1, lenAr, lenK]
     exact ⟨by rw [ea]; rfl, hG6.two (Grow.raise hG6.fresh _ nilV)⟩
  | false =>
   simp only [SXa, reduceCtorEq, Nat.reduceEqDiff, Nat.reduceAdd, load9, load25, call17, load_pb, hN3, hT3, fldN, fld_p, Option.bind_some, Nat.zero_add, Nat.le_refl]
   refine callK_ans (of_ans t nx tx ht x.name) hG3 (fun S6 g6 hG6 => ?_)
   have hT6 := g6.objs hT3 (by omega)
   have hN6 := g6.objs hN3 hn3
   cases ho : ofF x.name t.types 0 with
   | none =>
    simp only [SXa, reduceCtorEq, Nat.reduceEqDiff, ofA]
    exact ⟨by first | rfl | simp, hG6.two (Grow.raise hG6.fresh _ nilV)⟩
   | some dc =>
    obtain ⟨d, c⟩ := dc
    obtain ⟨_, hd, hc⟩ := ofF_lt x.name t.types 0 d c ho
    simp only [Nat.sub_zero] at hd hc
    have ea : argsAt t.types d c = t.types[d].cons[c].args.length := by simp [argsAt, hd, hc]
    simp only [SXa, reduceCtorEq, Nat.reduceEqDiff, load23, index23, load28, len28, load31, len31, load54, index54, ofA, raise_obj, load_pb, hT6, hN6, fldT1, fldN, fld_p, fld_e, Option.bind_some, Nat.zero_add, idxD ht.types hd, declA, fldD1, idxC hc, conA, fldC1, lenAr, lenK]
    exact ⟨by rw [ea]; rfl, hG6.two (Grow.raise hG6.fresh _ nilV)⟩
end Go.Proofs.YtmmnkemcplgebaaGreatDoor
end
end
