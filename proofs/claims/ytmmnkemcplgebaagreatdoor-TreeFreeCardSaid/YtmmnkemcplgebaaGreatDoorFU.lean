/-
  Trees: the walks (where a constructor is declared; may a node be?).
  Trees: the walks (may a node be, but for its kids' own?).
  Trees: the walks (nodes in preorder).
-/
import Derived.Test.YtmmnkemcplgebaaGreatDoorFT
section
set_option linter.unusedSimpArgs false
set_option linter.unusedVariables false
set_option maxRecDepth 100000
namespace Go.Proofs.YtmmnkemcplgebaaGreatDoor
open Go.Abs
/-- A tree by value: its two slices. -/
structure TreeIs (nx tx : AV) (t : TreeV) : Prop where
  nodes : IsV 7 nx (nodesA t.nodes)
  types : IsV 2 tx (typesA t.types)
  ln : t.nodes.length ≤ 2 ^ 40
  lt : t.types.length ≤ 1000
  lk : ∀ x ∈ t.nodes, x.kids.length ≤ 2 ^ 40
  lc : ∀ d ∈ t.types, d.cons.length ≤ 2 ^ 40
theorem allocD {tm : PM AV} {S : St} {d : Option Tmp} : opV E tm d (.alloc 56) S = some (.ptr S.no 0, S.born 56 [.sc (.string ⟨#[]⟩), .sc (.slice none 0 0)]) := alloc_of (by kernel_rfl)
theorem allocC {tm : PM AV} {S : St} {d : Option Tmp} : opV E tm d (.alloc 58) S = some (.ptr S.no 0, S.born 58 [.sc (.string ⟨#[]⟩), .sc (.slice none 0 0)]) := alloc_of (by kernel_rfl)
theorem stD (l : Nat) (d : DeclV) (S : St) : storeC 2 (.ptr l 0) (.agg [.sc (.string d.name), consV d]) S = (S.obj l).bind fun cs => if 2 ≤ cs.length then some (passed, S.put l (.cells (.sc (.string d.name) :: consV d :: cs.drop 2))) else none :=
  store_agg 2 l _ (by simp only [List.all_cons, List.all_nil, consV, rowV_ok]; rfl)
theorem stC (l : Nat) (c : ConV) (S : St) : storeC 2 (.ptr l 0) (.agg [.sc (.string c.name), argsA c]) S = (S.obj l).bind fun cs => if 2 ≤ cs.length then some (passed, S.put l (.cells (.sc (.string c.name) :: argsA c :: cs.drop 2))) else none :=
  store_agg 2 l _ (by simp only [List.all_cons, List.all_nil, argsA, rowV_ok]; rfl)
theorem fldD0 {tm : PM AV} {S : St} {d : Option Tmp} (x : Operand) : opV E tm d (.fieldAddr 56 x 0) S = fldV 0 (E.ev tm x) S := field_chk 56 0 0 (by kernel_rfl) x
theorem fldD1 {tm : PM AV} {S : St} {d : Option Tmp} (x : Operand) : opV E tm d (.fieldAddr 56 x 1) S = fldV 1 (E.ev tm x) S := field_chk 56 1 1 (by kernel_rfl) x
theorem fldC0 {tm : PM AV} {S : St} {d : Option Tmp} (x : Operand) : opV E tm d (.fieldAddr 58 x 0) S = fldV 0 (E.ev tm x) S := field_chk 58 0 0 (by kernel_rfl) x
theorem fldC1 {tm : PM AV} {S : St} {d : Option Tmp} (x : Operand) : opV E tm d (.fieldAddr 58 x 1) S = fldV 1 (E.ev tm x) S := field_chk 58 1 1 (by kernel_rfl) x
theorem fldT0 {tm : PM AV} {S : St} {d : Option Tmp} (x : Operand) : opV E tm d (.fieldAddr 25 x 0) S = fldV 0 (E.ev tm x) S := field_chk 25 0 0 (by kernel_rfl) x
theorem fldT1 {tm : PM AV} {S : St} {d : Option Tmp} (x : Operand) : opV E tm d (.fieldAddr 25 x 1) S = fldV 1 (E.ev tm x) S := field_chk 25 1 1 (by kernel_rfl) x
theorem lenD {x : AV} {l : List DeclV} (h : IsV 2 x (typesA l)) (S : St) : lenV x S = some (.sc (.int .i64 (l.length : Nat)), S) := by rw [h.len]; simp [typesA]
theorem idxD {x : AV} {l : List DeclV} (h : IsV 2 x (typesA l)) {k : Nat} (hk : k < l.length) (S : St) : idxV 2 x (some (k : Int)) S = some (.eptr (declA l[k]) 0, S) := h.idx (v := .agg (declA l[k])) (by simp [typesA, hk]) rfl S
theorem idxC {d : DeclV} {k : Nat} (hk : k < d.cons.length) (S : St) : idxV 2 (consV d) (some (k : Int)) S = some (.eptr (conA d.cons[k]) 0, S) := (isCv d).idx (v := .agg (conA d.cons[k])) (by simp [consA, hk]) rfl S
theorem conAt_drop (name : ByteArray) {l : List ConV} {k : Nat} (hk : k < l.length) : conAt name (l.drop k) k = bif l[k].name.toList == name.toList then some k else conAt name (l.drop (k + 1)) (k + 1) := by rw [List.drop_eq_getElem_cons hk, conAt]
theorem ofF_drop (name : ByteArray) {l : List DeclV} {k : Nat} (hk : k < l.length) : ofF name (l.drop k) k = match conAt name l[k].cons 0 with | some c => some (k, c) | none => ofF name (l.drop (k + 1)) (k + 1) := by rw [List.drop_eq_getElem_cons hk, ofF]; rfl
/-- What 'Of' answers. -/
def ofA (r : Option (Nat × Nat)) : AV := match r with
  | some (d, c) => .tup [.sc (.int .i64 (d : Nat)), .sc (.int .i64 (c : Nat)), .sc (.bool true)]
  | none => .tup [.sc (.int .i64 0), .sc (.int .i64 0), .sc (.bool false)]
set_option maxHeartbeats 16000000 in
theorem of_ans (t : TreeV) (nx tx : AV) (ht : TreeIs nx tx t) (name : ByteArray) : Ans E 17 [.agg [nx, tx], .sc (.string name)] (ofA (ofF name t.types 0)) := ans_of fun S hS => by
  refine ev17 rfl ?_
  have hG := (Grow.refl hS nilV).born 25 [nx, tx]
  have h0 : (S.born 25 [nx, tx]).obj S.no = some [nx, tx] := by simp [born_obj]
  simp only [SXa, reduceCtorEq, Nat.reduceEqDiff, Nat.reduceAdd, Nat.reduceSub, Nat.reduceMul, Nat.reduceBEq, Int.reduceLT, Int.reduceLE, Int.reduceToNat, Int.reduceBEq, Int.reduceBNe, reduceIte, load9, load23, index23, len23, load54, index54, len54, load56, store56, load58, store58, r17_0, r17_1, r17_2, r17_3, r17_4, r17_5, r17_6, r17_7, r17_8, r17_9, r17_11, r17_13, p17, op_box, cells_agg]
  generalize S.born 25 [nx, tx] = S0 at hG h0
  simp only [SXa, reduceCtorEq, Nat.reduceEqDiff, Nat.reduceAdd, Nat.reduceSub, Nat.reduceMul, Nat.reduceBEq, Int.reduceLT, Int.reduceLE, Int.reduceToNat, Int.reduceBEq, Int.reduceBNe, reduceIte, load9, load23, index23, len23, load54, index54, len54, load56, store56, load58, store58, r17_0, r17_1, r17_2, r17_3, r17_4, r17_5, r17_6, r17_7, r17_8, r17_9, r17_11, r17_13, p17, load_pb, h0, fldT1, fld_p, Option.bind_some, Nat.zero_add, lenD ht.types]
  refine e_loop (fun tm S' N => ∃ k : Nat, k ≤ t.types.length ∧ N = t.types.length - k ∧ ofF name (t.types.drop k) k = ofF name t.types 0 ∧ Grow S S' nilV ∧ getT tm 1 = .sc (.string name) ∧ getT tm 12 = tx ∧ getT tm 13 = .sc (.int .i64 (t.types.length : Nat)) ∧ getT tm 14 = .sc (.int .i64 (k : Int))) t.types.length ⟨0, by omega, by omega, by rw [List.drop_zero], hG, by simp [getT_setD]⟩ ?_
  rintro tm S1 N ⟨k, hk, rfl, hr, hG1, t1, t12, t13, t14⟩
  have hlt' := ht.lt
  by_cases hlt : k < t.types.length
  · have wk := wrapK hlt (by omega)
    have hlc := ht.lc _ (List.getElem_mem hlt)
    rw [ofF_drop name hlt] at hr
    have hG2 := (hG1.born 56 [.sc (.string ⟨#[]⟩), .sc (.slice none 0 0)]).put S1.no (.cells (declA t.types[k])) hG1.no
    have h2 : ((S1.born 56 [.sc (.string ⟨#[]⟩), .sc (.slice none 0 0)]).put S1.no (.cells (declA t.types[k]))).obj S1.no = some (declA t.types[k]) := by simp [put_obj]
    simp only [declA] at hG2 h2
    simp only [SXa, reduceCtorEq, Nat.reduceEqDiff, Nat.reduceAdd, Nat.reduceSub, Nat.reduceMul, Nat.reduceBEq, Int.reduceLT, Int.reduceLE, Int.reduceToNat, Int.reduceBEq, Int.reduceBNe, reduceIte, load9, load23, index23, len23, load54, index54, len54, load56, store56, load58, store58, b17_12, r17_0, r17_1, r17_2, r17_3, r17_4, r17_5, r17_6, r17_7, r17_8, r17_9, r17_11, r17_13, p17, t1, t12, t13, t14, dec_lt hlt, idxD ht.types hlt, declA, allocD, stD, stC, born_obj, Option.bind_some, Nat.zero_add, Nat.le_refl, List.drop_nil]
    generalize ((S1.born 56 [.sc (.string ⟨#[]⟩), .sc (.slice none 0 0)]).put S1.no (.cells [.sc (.string t.types[k].name), (consV t.types[k])])) = S2 at hG2 h2
    simp only [SXa, reduceCtorEq, Nat.reduceEqDiff, Nat.reduceAdd, Nat.reduceSub, Nat.reduceMul, Nat.reduceBEq, Int.reduceLT, Int.reduceLE, Int.reduceToNat, Int.reduceBEq, Int.reduceBNe, reduceIte, load9, load23, index23, len23, load54, index54, len54, load56, store56, load58, store58, r17_0, r17_1, r17_2, r17_3, r17_4, r17_5, r17_6, r17_7, r17_8, r17_9, r17_11, r17_13, p17, load_pb, h2, fldD1, fld_p, Option.bind_some, Nat.zero_add, lenCv]
    refine e_loop (fun tm S' N => ∃ j : Nat, j ≤ t.types[k].cons.length ∧ N = t.types[k].cons.length - j ∧ conAt name (t.types[k].cons.drop j) j = conAt name t.types[k].cons 0 ∧ Grow S S' nilV ∧ getT tm 1 = .sc (.string name) ∧ getT tm 7 = .sc (.int .i64 (k : Int)) ∧ getT tm 12 = tx ∧ getT tm 13 = .sc (.int .i64 (t.types.length : Nat)) ∧ getT tm 14 = .sc (.int .i64 (k : Int)) ∧ getT tm 20 = (consV t.types[k]) ∧ getT tm 21 = .sc (.int .i64 (t.types[k].cons.length : Nat)) ∧ getT tm 22 = .sc (.int .i64 (j : Int))) t.types[k].cons.length ⟨0, by omega, by omega, by rw [List.drop_zero], hG2, by simp [getT_setD, t1, t12, t13, t14]⟩ ?_
    rintro tm S3 N ⟨j, hj, rfl, hq, hG3, t1, t7, t12, t13, t14, t20, t21, t22⟩
    by_cases hjt : j < t.types[k].cons.length
    · have wj := wrapK hjt (by omega)
      rw [conAt_drop name hjt] at hq
      have hG4 := (hG3.born 58 [.sc (.string ⟨#[]⟩), .sc (.slice none 0 0)]).put S3.no (.cells (conA t.types[k].cons[j])) hG3.no
      have h4 : ((S3.born 58 [.sc (.string ⟨#[]⟩), .sc (.slice none 0 0)]).put S3.no (.cells (conA t.types[k].cons[j]))).obj S3.no = some (conA t.types[k].cons[j]) := by simp [put_obj]
      simp only [conA] at hG4 h4
      simp only [SXa, reduceCtorEq, Nat.reduceEqDiff, Nat.reduceAdd, Nat.reduceSub, Nat.reduceMul, Nat.reduceBEq, Int.reduceLT, Int.reduceLE, Int.reduceToNat, Int.reduceBEq, Int.reduceBNe, reduceIte, load9, load23, index23, len23, load54, index54, len54, load56, store56, load58, store58, b17_10, r17_0, r17_1, r17_2, r17_3, r17_4, r17_5, r17_6, r17_7, r17_8, r17_9, r17_11, r17_13, p17, t1, t7, t12, t13, t14, t20, t21, t22, dec_lt hjt, idxC hjt, conA, allocC, stD, stC, born_obj, Option.bind_some, Nat.zero_add, Nat.le_refl, List.drop_nil]
      generalize ((S3.born 58 [.sc (.string ⟨#[]⟩), .sc (.slice none 0 0)]).put S3.no (.cells [.sc (.string t.types[k].cons[j].name), (argsA t.types[k].cons[j])])) = S4 at hG4 h4
      simp only [SXa, reduceCtorEq, Nat.reduceEqDiff, Nat.reduceAdd, Nat.reduceSub, Nat.reduceMul, Nat.reduceBEq, Int.reduceLT, Int.reduceLE, Int.reduceToNat, Int.reduceBEq, Int.reduceBNe, reduceIte, load9, load23, index23, len23, load54, index54, len54, load56, store56, load58, store58, r17_0, r17_1, r17_2, r17_3, r17_4, r17_5, r17_6, r17_7, r17_8, r17_9, r17_11, r17_13, p17, t1, load_pb, h4, fldC0, fld_p, Option.bind_some, Nat.add_zero, Nat.zero_add]
      cases hb : (t.types[k].cons[j].name.toList == name.toList) with
      | true =>
        rw [hb, cond_true] at hq
        rw [← hq] at hr
        simp only [SXa, reduceCtorEq, Nat.reduceEqDiff, Nat.reduceAdd, Nat.reduceSub, Nat.reduceMul, Nat.reduceBEq, Int.reduceLT, Int.reduceLE, Int.reduceToNat, Int.reduceBEq, Int.reduceBNe, reduceIte, load9, load23, index23, len23, load54, index54, len54, load56, store56, load58, store58, r17_0, r17_1, r17_2, r17_3, r17_4, r17_5, r17_6, r17_7, r17_8, r17_9, r17_11, r17_13, p17, t1, t7, t12, t13, t14, t20, t21, t22]
        exact ⟨by rw [← hr]; rfl, hG4⟩
      | false =>
        rw [hb, cond_false] at hq
        simp only [SXa, reduceCtorEq, Nat.reduceEqDiff, Nat.reduceAdd, Nat.reduceSub, Nat.reduceMul, Nat.reduceBEq, Int.reduceLT, Int.reduceLE, Int.reduceToNat, Int.reduceBEq, Int.reduceBNe, reduceIte, load9, load23, index23, len23, load54, index54, len54, load56, store56, load58, store58, r17_0, r17_1, r17_2, r17_3, r17_4, r17_5, r17_6, r17_7, r17_8, r17_9, r17_11, r17_13, p17, t1, t7, t12, t13, t14, t20, t21, t22, wj]
        exact ⟨t.types[k].cons.length - (j + 1), by omega, j + 1, by omega, rfl, hq, hG4, by simp [t1, t7, t12, t13, t14, t20, t21]⟩
    · have hje : j = t.types[k].cons.length := by omega
      rw [hje, List.drop_length, conAt] at hq
      rw [← hq] at hr
      simp only [SXa, reduceCtorEq, Nat.reduceEqDiff, Nat.reduceAdd, Nat.reduceSub, Nat.reduceMul, Nat.reduceBEq, Int.reduceLT, Int.reduceLE, Int.reduceToNat, Int.reduceBEq, Int.reduceBNe, reduceIte, load9, load23, index23, len23, load54, index54, len54, load56, store56, load58, store58, b17_10, r17_0, r17_1, r17_2, r17_3, r17_4, r17_5, r17_6, r17_7, r17_8, r17_9, r17_11, r17_13, p17, t1, t7, t12, t13, t14, t20, t21, t22, dec_nlt hjt, wk]
      exact ⟨t.types.length - (k + 1), by omega, k + 1, by omega, rfl, hr, hG3, by simp [t1, t12, t13]⟩
  · have hke : k = t.types.length := by omega
    rw [hke, List.drop_length, ofF] at hr
    simp only [SXa, reduceCtorEq, Nat.reduceEqDiff, Nat.reduceAdd, Nat.reduceSub, Nat.reduceMul, Nat.reduceBEq, Int.reduceLT, Int.reduceLE, Int.reduceToNat, Int.reduceBEq, Int.reduceBNe, reduceIte, load9, load23, index23, len23, load54, index54, len54, load56, store56, load58, store58, b17_12, r17_0, r17_1, r17_2, r17_3, r17_4, r17_5, r17_6, r17_7, r17_8, r17_9, r17_11, r17_13, p17, t1, t12, t13, t14, dec_nlt hlt]
    exact ⟨by rw [← hr]; rfl, hG1⟩
end Go.Proofs.YtmmnkemcplgebaaGreatDoor
end

section
set_option linter.unusedSimpArgs false
set_option linter.unusedVariables false
set_option maxRecDepth 100000
namespace Go.Proofs.YtmmnkemcplgebaaGreatDoor
open Go.Abs
theorem strsA_len (l : List ByteArray) : (strsA l).length = l.length := by simp [strsA]
theorem conAt_lt (name : ByteArray) : ∀ (l : List ConV) (k c : Nat), conAt name l k = some c → k ≤ c ∧ c - k < l.length
  | [], k, c, h => by cases h
  | x :: r, k, c, h => by
    unfold conAt at h
    cases hb : (x.name.toList == name.toList) with
    | true =>
      rw [hb] at h
      have := Option.some.inj h
      simp only [List.length_cons]; omega
    | false =>
      rw [hb] at h
      have := conAt_lt name r (k + 1) c h
      simp only [List.length_cons]; omega
theorem ofF_lt (name : ByteArray) : ∀ (l : List DeclV) (k d c : Nat), ofF name l k = some (d, c) → k ≤ d ∧ ∃ h : d - k < l.length, c < l[d - k].cons.length
  | [], k, d, c, h => by cases h
  | x :: r, k, d, c, h => by
    unfold ofF at h
    cases hb : conAt name x.cons 0 with
    | some c' =>
      rw [hb] at h
      simp only [Option.some.injEq, Prod.mk.injEq] at h
      obtain ⟨rfl, rfl⟩ := h
      have := conAt_lt name x.cons 0 c' hb
      refine ⟨Nat.le_refl _, by simp, ?_⟩
      simp only [Nat.sub_self, List.getElem_cons_zero]; omega
    | none =>
      rw [hb] at h
      obtain ⟨h1, h2, h3⟩ := ofF_lt name r (k + 1) d c h
      have e : d - k = (d - (k + 1)) + 1 := by omega
      refine ⟨by omega, by simp only [List.length_cons]; omega, ?_⟩
      simp only [e, List.getElem_cons_succ]
      exact h3
set_option maxHeartbeats 16000000 in
theorem alone_ans (t : TreeV) (nx tx : AV) (ht : TreeIs nx tx t) (x : NodeV) (hx : x.kids.length ≤ 2 ^ 40) : Ans E 56 [.agg [nx, tx], .agg (nodeA x)] (.sc (.bool (aloneF t.types x))) := ans_of fun S hS => by
  refine ev56 rfl ?_
  have hG := ((Grow.refl hS nilV).born 25 [nx, tx]).born 30 (nodeA x)
  have hT : ((S.born 25 [nx, tx]).born 30 (nodeA x)).obj S.no = some [nx, tx] := by simp [born_obj, born_no]
  have hN : ((S.born 25 [nx, tx]).born 30 (nodeA x)).obj (S.no + 1) = some (nodeA x) := by simp [born_obj, born_no]
  have hn : S.no + 1 < ((S.born 25 [nx, tx]).born 30 (nodeA x)).no := Nat.lt_succ_self _
  simp only [SXa, reduceCtorEq, Nat.reduceEqDiff, Nat.reduceAdd, Nat.reduceSub, Nat.reduceMul, Nat.reduceBEq, Int.reduceLT, Int.reduceLE, Int.reduceToNat, Int.reduceBEq, Int.reduceBNe, reduceIte, load3, load9, load23, index23, load25, load28, len28, load30, load31, len31, load54, index54, call17, call57, call80, call81, call82, r56_0, r56_1, r56_2, r56_3, r56_4, r56_5, r56_6, r56_7, r56_8, r56_9, p56, op_box, cells_agg, born_no]
  generalize (S.born 25 [nx, tx]).born 30 (nodeA x) = S0 at hG hT hN hn
  simp only [nodeA] at hN
  simp only [SXa, reduceCtorEq, Nat.reduceEqDiff, Nat.reduceAdd, Nat.reduceSub, Nat.reduceMul, Nat.reduceBEq, Int.reduceLT, Int.reduceLE, Int.reduceToNat, Int.reduceBEq, Int.reduceBNe, reduceIte, load3, load9, load23, index23, load25, load28, len28, load30, load31, len31, load54, index54, call17, call57, call80, call81, call82, r56_0, r56_1, r56_2, r56_3, r56_4, r56_5, r56_6, r56_7, r56_8, r56_9, p56, load_pb, hN, fldN, fld_p, Option.bind_some, Nat.add_zero, Nat.zero_add]
  cases c1 : decide (x.kind < 1) with
  | true =>
    simp only [SXa, reduceCtorEq, Nat.reduceEqDiff, Nat.reduceAdd, Nat.reduceSub, Nat.reduceMul, Nat.reduceBEq, Int.reduceLT, Int.reduceLE, Int.reduceToNat, Int.reduceBEq, Int.reduceBNe, reduceIte, load3, load9, load23, index23, load25, load28, len28, load30, load31, len31, load54, index54, call17, call57, call80, call81, call82, r56_0, r56_1, r56_2, r56_3, r56_4, r56_5, r56_6, r56_7, r56_8, r56_9, p56]
    exact ⟨by simp only [aloneF, c1, Bool.true_or, cond_true], hG⟩
  | false =>
  cases c2 : decide (26 < x.kind) with
  | true =>
    simp only [SXa, reduceCtorEq, Nat.reduceEqDiff, Nat.reduceAdd, Nat.reduceSub, Nat.reduceMul, Nat.reduceBEq, Int.reduceLT, Int.reduceLE, Int.reduceToNat, Int.reduceBEq, Int.reduceBNe, reduceIte, load3, load9, load23, index23, load25, load28, len28, load30, load31, len31, load54, index54, call17, call57, call80, call81, call82, r56_0, r56_1, r56_2, r56_3, r56_4, r56_5, r56_6, r56_7, r56_8, r56_9, p56, load_pb, hN, fldN, fld_p, Option.bind_some, Nat.add_zero, Nat.zero_add, Nat.le_refl, c2]
    exact ⟨by simp only [aloneF, c1, c2, Bool.true_or, Bool.or_true, cond_true], hG⟩
  | false =>
  simp only [SXa, reduceCtorEq, Nat.reduceEqDiff, Nat.reduceAdd, Nat.reduceSub, Nat.reduceMul, Nat.reduceBEq, Int.reduceLT, Int.reduceLE, Int.reduceToNat, Int.reduceBEq, Int.reduceBNe, reduceIte, load3, load9, load23, index23, load25, load28, len28, load30, load31, len31, load54, index54, call17, call57, call80, call81, call82, r56_0, r56_1, r56_2, r56_3, r56_4, r56_5, r56_6, r56_7, r56_8, r56_9, p56, load_pb, hN, fldN, fld_p, Option.bind_some, Nat.add_zero, Nat.zero_add, Nat.le_refl, c2]
  refine callK_ans (number_ans x) hG (fun S1 g1 hG1 => ?_)
  have hT1 := g1.objs hT (by omega)
  have hN1 := g1.objs hN hn
  have hn1 := Nat.lt_of_lt_of_le hn g1.no
  cases c3 : numberF x with
  | false =>
    simp only [SXa, reduceCtorEq, Nat.reduceEqDiff, Nat.reduceAdd, Nat.reduceSub, Nat.reduceMul, Nat.reduceBEq, Int.reduceLT, Int.reduceLE, Int.reduceToNat, Int.reduceBEq, Int.reduceBNe, reduceIte, load3, load9, load23, index23, load25, load28, len28, load30, load31, len31, load54, index54, call17, call57, call80, call81, call82, r56_0, r56_1, r56_2, r56_3, r56_4, r56_5, r56_6, r56_7, r56_8, r56_9, p56]
    exact ⟨by simp only [aloneF, c1, c2, c3, Bool.not_false, Bool.true_or, Bool.or_true, cond_true], hG1⟩
  | true =>
  simp only [SXa, reduceCtorEq, Nat.reduceEqDiff, Nat.reduceAdd, Nat.reduceSub, Nat.reduceMul, Nat.reduceBEq, Int.reduceLT, Int.reduceLE, Int.reduceToNat, Int.reduceBEq, Int.reduceBNe, reduceIte, load3, load9, load23, index23, load25, load28, len28, load30, load31, len31, load54, index54, call17, call57, call80, call81, call82, r56_0, r56_1, r56_2, r56_3, r56_4, r56_5, r56_6, r56_7, r56_8, r56_9, p56, load_pb, hN1, fldN, fld_p, Option.bind_some, Nat.add_zero, Nat.zero_add, Nat.le_refl]
  refine callK_ans (texts_ans x) hG1 (fun S2 g2 hG2 => ?_)
  have hT2 := g2.objs hT1 (by omega)
  have hN2 := g2.objs hN1 hn1
  have hn2 := Nat.lt_of_lt_of_le hn1 g2.no
  cases c4 : textsF x with
  | false =>
    simp only [SXa, reduceCtorEq, Nat.reduceEqDiff, Nat.reduceAdd, Nat.reduceSub, Nat.reduceMul, Nat.reduceBEq, Int.reduceLT, Int.reduceLE, Int.reduceToNat, Int.reduceBEq, Int.reduceBNe, reduceIte, load3, load9, load23, index23, load25, load28, len28, load30, load31, len31, load54, index54, call17, call57, call80, call81, call82, r56_0, r56_1, r56_2, r56_3, r56_4, r56_5, r56_6, r56_7, r56_8, r56_9, p56]
    exact ⟨by simp only [aloneF, c1, c2, c3, c4, Bool.not_false, Bool.not_true, Bool.or_false, Bool.or_true, cond_true], hG2⟩
  | true =>
  simp only [SXa, reduceCtorEq, Nat.reduceEqDiff, Nat.reduceAdd, Nat.reduceSub, Nat.reduceMul, Nat.reduceBEq, Int.reduceLT, Int.reduceLE, Int.reduceToNat, Int.reduceBEq, Int.reduceBNe, reduceIte, load3, load9, load23, index23, load25, load28, len28, load30, load31, len31, load54, index54, call17, call57, call80, call81, call82, r56_0, r56_1, r56_2, r56_3, r56_4, r56_5, r56_6, r56_7, r56_8, r56_9, p56, load_pb, hN2, fldN, fld_p, Option.bind_some, Nat.add_zero, Nat.zero_add]
  refine callK_ans (kids_ans x.kind) hG2 (fun S3 g3 hG3 => ?_)
  have hT3 := g3.objs hT2 (by omega)
  have hN3 := g3.objs hN2 hn2
  have hn3 := Nat.lt_of_lt_of_le hn2 g3.no
  have e0 : aloneF t.types x = bif decide ((x.kids.length : Int) < (kidsF x.kind).1) || decide ((kidsF x.kind).2 < (x.kids.length : Int)) || (x.kind == 11 && !armF (x.kids.length : Int)) then false else bif x.kind != 5 && x.kind != 26 then true else match ofF x.name t.types 0 with | some (d, c) => (((argsAt t.types d c : Nat) : Int) == (x.kids.length : Int)) | none => false := by
    simp only [aloneF, c1, c2, c3, c4, Bool.not_true, Bool.or_false, cond_false]
    rfl
  simp only [SXa, reduceCtorEq, Nat.reduceEqDiff, Nat.reduceAdd, Nat.reduceSub, Nat.reduceMul, Nat.reduceBEq, Int.reduceLT, Int.reduceLE, Int.reduceToNat, Int.reduceBEq, Int.reduceBNe, reduceIte, load3, load9, load23, index23, load25, load28, len28, load30, load31, len31, load54, index54, call17, call57, call80, call81, call82, r56_0, r56_1, r56_2, r56_3, r56_4, r56_5, r56_6, r56_7, r56_8, r56_9, p56, load_pb, hN3, fldN, fld_p, Option.bind_some, Nat.add_zero, Nat.zero_add, lenK]
  rw [e0]
  cases c5 : decide ((x.kids.length : Int) < (kidsF x.kind).1) with
  | true =>
    simp only [SXa, reduceCtorEq, Nat.reduceEqDiff, Nat.reduceAdd, Nat.reduceSub, Nat.reduceMul, Nat.reduceBEq, Int.reduceLT, Int.reduceLE, Int.reduceToNat, Int.reduceBEq, Int.reduceBNe, reduceIte, load3, load9, load23, index23, load25, load28, len28, load30, load31, len31, load54, index54, call17, call57, call80, call81, call82, r56_0, r56_1, r56_2, r56_3, r56_4, r56_5, r56_6, r56_7, r56_8, r56_9, p56]
    exact ⟨by simp only [Bool.true_or, cond_true], hG3⟩
  | false =>
  cases c6 : decide ((kidsF x.kind).2 < (x.kids.length : Int)) with
  | true =>
    simp only [SXa, reduceCtorEq, Nat.reduceEqDiff, Nat.reduceAdd, Nat.reduceSub, Nat.reduceMul, Nat.reduceBEq, Int.reduceLT, Int.reduceLE, Int.reduceToNat, Int.reduceBEq, Int.reduceBNe, reduceIte, load3, load9, load23, index23, load25, load28, len28, load30, load31, len31, load54, index54, call17, call57, call80, call81, call82, r56_0, r56_1, r56_2, r56_3, r56_4, r56_5, r56_6, r56_7, r56_8, r56_9, p56, load_pb, hN3, fldN, fld_p, Option.bind_some, Nat.add_zero, Nat.zero_add, lenK, c6]
    exact ⟨by simp only [Bool.or_true, Bool.true_or, cond_true], hG3⟩
  | false =>
  simp only [SXa, reduceCtorEq, Nat.reduceEqDiff, Nat.reduceAdd, Nat.reduceSub, Nat.reduceMul, Nat.reduceBEq, Int.reduceLT, Int.reduceLE, Int.reduceToNat, Int.reduceBEq, Int.reduceBNe, reduceIte, load3, load9, load23, index23, load25, load28, len28, load30, load31, len31, load54, index54, call17, call57, call80, call81, call82, r56_0, r56_1, r56_2, r56_3, r56_4, r56_5, r56_6, r56_7, r56_8, r56_9, p56, load_pb, hN3, fldN, fld_p, Option.bind_some, Nat.add_zero, Nat.zero_add, lenK, c6]
  cases c7 : (x.kind == 11) with
  | true =>
    simp only [SXa, reduceCtorEq, Nat.reduceEqDiff, Nat.reduceAdd, Nat.reduceSub, Nat.reduceMul, Nat.reduceBEq, Int.reduceLT, Int.reduceLE, Int.reduceToNat, Int.reduceBEq, Int.reduceBNe, reduceIte, load3, load9, load23, index23, load25, load28, len28, load30, load31, len31, load54, index54, call17, call57, call80, call81, call82, r56_0, r56_1, r56_2, r56_3, r56_4, r56_5, r56_6, r56_7, r56_8, r56_9, p56, load_pb, hN3, fldN, fld_p, Option.bind_some, Nat.add_zero, Nat.zero_add, lenK]
    refine callK_ans (arm_ans _) hG3 (fun S4 g4 hG4 => ?_)
    have hT4 := g4.objs hT3 (by omega)
    have hN4 := g4.objs hN3 hn3
    have hn4 := Nat.lt_of_lt_of_le hn3 g4.no
    cases c8 : armF (x.kids.length : Int) with
    | false =>
      simp only [SXa, reduceCtorEq, Nat.reduceEqDiff, Nat.reduceAdd, Nat.reduceSub, Nat.reduceMul, Nat.reduceBEq, Int.reduceLT, Int.reduceLE, Int.reduceToNat, Int.reduceBEq, Int.reduceBNe, reduceIte, load3, load9, load23, index23, load25, load28, len28, load30, load31, len31, load54, index54, call17, call57, call80, call81, call82, r56_0, r56_1, r56_2, r56_3, r56_4, r56_5, r56_6, r56_7, r56_8, r56_9, p56]
      exact ⟨by first | rfl | simp, hG4⟩
    | true =>
      simp only [SXa, reduceCtorEq, Nat.reduceEqDiff, Nat.reduceAdd, Nat.reduceSub, Nat.reduceMul, Nat.reduceBEq, Int.reduceLT, Int.reduceLE, Int.reduceToNat, Int.reduceBEq, Int.reduceBNe, reduceIte, load3, load9, load23, index23, load25, load28, len28, load30, load31, len31, load54, index54, call17, call57, call80, call81, call82, r56_0, r56_1, r56_2, r56_3, r56_4, r56_5, r56_6, r56_7, r56_8, r56_9, p56, load_pb, hN4, fldN, fld_p, Option.bind_some, Nat.add_zero, Nat.zero_add]
      cases c9 : (x.kind != 5) with
      | true =>
        cases c10 : (x.kind != 26) with
        | true =>
          simp only [SXa, reduceCtorEq, Nat.reduceEqDiff, Nat.reduceAdd, Nat.reduceSub, Nat.reduceMul, Nat.reduceBEq, Int.reduceLT, Int.reduceLE, Int.reduceToNat, Int.reduceBEq, Int.reduceBNe, reduceIte, load3, load9, load23, index23, load25, load28, len28, load30, load31, len31, load54, index54, call17, call57, call80, call81, call82, r56_0, r56_1, r56_2, r56_3, r56_4, r56_5, r56_6, r56_7, r56_8, r56_9, p56, load_pb, hN4, hT4, fldN, fld_p, Option.bind_some, Nat.add_zero, Nat.zero_add, Nat.le_refl, lenK, c9, c10]
          exact ⟨by first | rfl | simp, hG4⟩
        | false =>
          simp only [SXa, reduceCtorEq, Nat.reduceEqDiff, Nat.reduceAdd, Nat.reduceSub, Nat.reduceMul, Nat.reduceBEq, Int.reduceLT, Int.reduceLE, Int.reduceToNat, Int.reduceBEq, Int.reduceBNe, reduceIte, load3, load9, load23, index23, load25, load28, len28, load30, load31, len31, load54, index54, call17, call57, call80, call81, call82, r56_0, r56_1, r56_2, r56_3, r56_4, r56_5, r56_6, r56_7, r56_8, r56_9, p56, load_pb, hN4, hT4, fldN, fld_p, Option.bind_some, Nat.add_zero, Nat.zero_add, Nat.le_refl, lenK, c9, c10]
          refine callK_ans (of_ans t nx tx ht x.name) hG4 (fun S6 g6 hG6 => ?_)
          have hT6 := g6.objs hT4 (by omega)
          have hN6 := g6.objs hN4 hn4
          cases ho : ofF x.name t.types 0 with
          | none =>
            simp only [SXa, reduceCtorEq, Nat.reduceEqDiff, Nat.reduceAdd, Nat.reduceSub, Nat.reduceMul, Nat.reduceBEq, Int.reduceLT, Int.reduceLE, Int.reduceToNat, Int.reduceBEq, Int.reduceBNe, reduceIte, load3, load9, load23, index23, load25, load28, len28, load30, load31, len31, load54, index54, call17, call57, call80, call81, call82, r56_0, r56_1, r56_2, r56_3, r56_4, r56_5, r56_6, r56_7, r56_8, r56_9, p56, ofA]
            exact ⟨by first | rfl | simp, hG6.two (Grow.raise hG6.fresh _ nilV)⟩
          | some dc =>
            obtain ⟨d, c⟩ := dc
            obtain ⟨_, hd, hc⟩ := ofF_lt x.name t.types 0 d c ho
            simp only [Nat.sub_zero] at hd hc
            have ea : argsAt t.types d c = t.types[d].cons[c].args.length := by simp [argsAt, hd, hc]
            simp only [SXa, reduceCtorEq, Nat.reduceEqDiff, Nat.reduceAdd, Nat.reduceSub, Nat.reduceMul, Nat.reduceBEq, Int.reduceLT, Int.reduceLE, Int.reduceToNat, Int.reduceBEq, Int.reduceBNe, reduceIte, load3, load9, load23, index23, load25, load28, len28, load30, load31, len31, load54, index54, call17, call57, call80, call81, call82, r56_0, r56_1, r56_2, r56_3, r56_4, r56_5, r56_6, r56_7, r56_8, r56_9, p56, ofA, raise_obj, load_pb, hT6, hN6, fldT1, fldN, fld_p, fld_e, Option.bind_some, Nat.zero_add, idxD ht.types hd, declA, fldD1, idxC hc, conA, fldC1, strsA_len, lenAr, lenK]
            exact ⟨by rw [ea]; rfl, hG6.two (Grow.raise hG6.fresh _ nilV)⟩
      | false =>
        simp only [SXa, reduceCtorEq, Nat.reduceEqDiff, Nat.reduceAdd, Nat.reduceSub, Nat.reduceMul, Nat.reduceBEq, Int.reduceLT, Int.reduceLE, Int.reduceToNat, Int.reduceBEq, Int.reduceBNe, reduceIte, load3, load9, load23, index23, load25, load28, len28, load30, load31, len31, load54, index54, call17, call57, call80, call81, call82, r56_0, r56_1, r56_2, r56_3, r56_4, r56_5, r56_6, r56_7, r56_8, r56_9, p56, load_pb, hN4, hT4, fldN, fld_p, Option.bind_some, Nat.add_zero, Nat.zero_add, Nat.le_refl, lenK, c9]
        refine callK_ans (of_ans t nx tx ht x.name) hG4 (fun S6 g6 hG6 => ?_)
        have hT6 := g6.objs hT4 (by omega)
        have hN6 := g6.objs hN4 hn4
        cases ho : ofF x.name t.types 0 with
        | none =>
          simp only [SXa, reduceCtorEq, Nat.reduceEqDiff, Nat.reduceAdd, Nat.reduceSub, Nat.reduceMul, Nat.reduceBEq, Int.reduceLT, Int.reduceLE, Int.reduceToNat, Int.reduceBEq, Int.reduceBNe, reduceIte, load3, load9, load23, index23, load25, load28, len28, load30, load31, len31, load54, index54, call17, call57, call80, call81, call82, r56_0, r56_1, r56_2, r56_3, r56_4, r56_5, r56_6, r56_7, r56_8, r56_9, p56, ofA]
          exact ⟨by first | rfl | simp, hG6.two (Grow.raise hG6.fresh _ nilV)⟩
        | some dc =>
          obtain ⟨d, c⟩ := dc
          obtain ⟨_, hd, hc⟩ := ofF_lt x.name t.types 0 d c ho
          simp only [Nat.sub_zero] at hd hc
          have ea : argsAt t.types d c = t.types[d].cons[c].args.length := by simp [argsAt, hd, hc]
          simp only [SXa, reduceCtorEq, Nat.reduceEqDiff, Nat.reduceAdd, Nat.reduceSub, Nat.reduceMul, Nat.reduceBEq, Int.reduceLT, Int.reduceLE, Int.reduceToNat, Int.reduceBEq, Int.reduceBNe, reduceIte, load3, load9, load23, index23, load25, load28, len28, load30, load31, len31, load54, index54, call17, call57, call80, call81, call82, r56_0, r56_1, r56_2, r56_3, r56_4, r56_5, r56_6, r56_7, r56_8, r56_9, p56, ofA, raise_obj, load_pb, hT6, hN6, fldT1, fldN, fld_p, fld_e, Option.bind_some, Nat.zero_add, idxD ht.types hd, declA, fldD1, idxC hc, conA, fldC1, strsA_len, lenAr, lenK]
          exact ⟨by rw [ea]; rfl, hG6.two (Grow.raise hG6.fresh _ nilV)⟩
  | false =>
    simp only [SXa, reduceCtorEq, Nat.reduceEqDiff, Nat.reduceAdd, Nat.reduceSub, Nat.reduceMul, Nat.reduceBEq, Int.reduceLT, Int.reduceLE, Int.reduceToNat, Int.reduceBEq, Int.reduceBNe, reduceIte, load3, load9, load23, index23, load25, load28, len28, load30, load31, len31, load54, index54, call17, call57, call80, call81, call82, r56_0, r56_1, r56_2, r56_3, r56_4, r56_5, r56_6, r56_7, r56_8, r56_9, p56, load_pb, hN3, fldN, fld_p, Option.bind_some, Nat.add_zero, Nat.zero_add]
    cases c9 : (x.kind != 5) with
    | true =>
      cases c10 : (x.kind != 26) with
      | true =>
        simp only [SXa, reduceCtorEq, Nat.reduceEqDiff, Nat.reduceAdd, Nat.reduceSub, Nat.reduceMul, Nat.reduceBEq, Int.reduceLT, Int.reduceLE, Int.reduceToNat, Int.reduceBEq, Int.reduceBNe, reduceIte, load3, load9, load23, index23, load25, load28, len28, load30, load31, len31, load54, index54, call17, call57, call80, call81, call82, r56_0, r56_1, r56_2, r56_3, r56_4, r56_5, r56_6, r56_7, r56_8, r56_9, p56, load_pb, hN3, hT3, fldN, fld_p, Option.bind_some, Nat.add_zero, Nat.zero_add, Nat.le_refl, lenK, c9, c10]
        exact ⟨by first | rfl | simp, hG3⟩
      | false =>
        simp only [SXa, reduceCtorEq, Nat.reduceEqDiff, Nat.reduceAdd, Nat.reduceSub, Nat.reduceMul, Nat.reduceBEq, Int.reduceLT, Int.reduceLE, Int.reduceToNat, Int.reduceBEq, Int.reduceBNe, reduceIte, load3, load9, load23, index23, load25, load28, len28, load30, load31, len31, load54, index54, call17, call57, call80, call81, call82, r56_0, r56_1, r56_2, r56_3, r56_4, r56_5, r56_6, r56_7, r56_8, r56_9, p56, load_pb, hN3, hT3, fldN, fld_p, Option.bind_some, Nat.add_zero, Nat.zero_add, Nat.le_refl, lenK, c9, c10]
        refine callK_ans (of_ans t nx tx ht x.name) hG3 (fun S6 g6 hG6 => ?_)
        have hT6 := g6.objs hT3 (by omega)
        have hN6 := g6.objs hN3 hn3
        cases ho : ofF x.name t.types 0 with
        | none =>
          simp only [SXa, reduceCtorEq, Nat.reduceEqDiff, Nat.reduceAdd, Nat.reduceSub, Nat.reduceMul, Nat.reduceBEq, Int.reduceLT, Int.reduceLE, Int.reduceToNat, Int.reduceBEq, Int.reduceBNe, reduceIte, load3, load9, load23, index23, load25, load28, len28, load30, load31, len31, load54, index54, call17, call57, call80, call81, call82, r56_0, r56_1, r56_2, r56_3, r56_4, r56_5, r56_6, r56_7, r56_8, r56_9, p56, ofA]
          exact ⟨by first | rfl | simp, hG6.two (Grow.raise hG6.fresh _ nilV)⟩
        | some dc =>
          obtain ⟨d, c⟩ := dc
          obtain ⟨_, hd, hc⟩ := ofF_lt x.name t.types 0 d c ho
          simp only [Nat.sub_zero] at hd hc
          have ea : argsAt t.types d c = t.types[d].cons[c].args.length := by simp [argsAt, hd, hc]
          simp only [SXa, reduceCtorEq, Nat.reduceEqDiff, Nat.reduceAdd, Nat.reduceSub, Nat.reduceMul, Nat.reduceBEq, Int.reduceLT, Int.reduceLE, Int.reduceToNat, Int.reduceBEq, Int.reduceBNe, reduceIte, load3, load9, load23, index23, load25, load28, len28, load30, load31, len31, load54, index54, call17, call57, call80, call81, call82, r56_0, r56_1, r56_2, r56_3, r56_4, r56_5, r56_6, r56_7, r56_8, r56_9, p56, ofA, raise_obj, load_pb, hT6, hN6, fldT1, fldN, fld_p, fld_e, Option.bind_some, Nat.zero_add, idxD ht.types hd, declA, fldD1, idxC hc, conA, fldC1, strsA_len, lenAr, lenK]
          exact ⟨by rw [ea]; rfl, hG6.two (Grow.raise hG6.fresh _ nilV)⟩
    | false =>
      simp only [SXa, reduceCtorEq, Nat.reduceEqDiff, Nat.reduceAdd, Nat.reduceSub, Nat.reduceMul, Nat.reduceBEq, Int.reduceLT, Int.reduceLE, Int.reduceToNat, Int.reduceBEq, Int.reduceBNe, reduceIte, load3, load9, load23, index23, load25, load28, len28, load30, load31, len31, load54, index54, call17, call57, call80, call81, call82, r56_0, r56_1, r56_2, r56_3, r56_4, r56_5, r56_6, r56_7, r56_8, r56_9, p56, load_pb, hN3, hT3, fldN, fld_p, Option.bind_some, Nat.add_zero, Nat.zero_add, Nat.le_refl, lenK, c9]
      refine callK_ans (of_ans t nx tx ht x.name) hG3 (fun S6 g6 hG6 => ?_)
      have hT6 := g6.objs hT3 (by omega)
      have hN6 := g6.objs hN3 hn3
      cases ho : ofF x.name t.types 0 with
      | none =>
        simp only [SXa, reduceCtorEq, Nat.reduceEqDiff, Nat.reduceAdd, Nat.reduceSub, Nat.reduceMul, Nat.reduceBEq, Int.reduceLT, Int.reduceLE, Int.reduceToNat, Int.reduceBEq, Int.reduceBNe, reduceIte, load3, load9, load23, index23, load25, load28, len28, load30, load31, len31, load54, index54, call17, call57, call80, call81, call82, r56_0, r56_1, r56_2, r56_3, r56_4, r56_5, r56_6, r56_7, r56_8, r56_9, p56, ofA]
        exact ⟨by first | rfl | simp, hG6.two (Grow.raise hG6.fresh _ nilV)⟩
      | some dc =>
        obtain ⟨d, c⟩ := dc
        obtain ⟨_, hd, hc⟩ := ofF_lt x.name t.types 0 d c ho
        simp only [Nat.sub_zero] at hd hc
        have ea : argsAt t.types d c = t.types[d].cons[c].args.length := by simp [argsAt, hd, hc]
        simp only [SXa, reduceCtorEq, Nat.reduceEqDiff, Nat.reduceAdd, Nat.reduceSub, Nat.reduceMul, Nat.reduceBEq, Int.reduceLT, Int.reduceLE, Int.reduceToNat, Int.reduceBEq, Int.reduceBNe, reduceIte, load3, load9, load23, index23, load25, load28, len28, load30, load31, len31, load54, index54, call17, call57, call80, call81, call82, r56_0, r56_1, r56_2, r56_3, r56_4, r56_5, r56_6, r56_7, r56_8, r56_9, p56, ofA, raise_obj, load_pb, hT6, hN6, fldT1, fldN, fld_p, fld_e, Option.bind_some, Nat.zero_add, idxD ht.types hd, declA, fldD1, idxC hc, conA, fldC1, strsA_len, lenAr, lenK]
        exact ⟨by rw [ea]; rfl, hG6.two (Grow.raise hG6.fresh _ nilV)⟩
end Go.Proofs.YtmmnkemcplgebaaGreatDoor
end

section
set_option linter.unusedSimpArgs false
set_option linter.unusedVariables false
set_option maxRecDepth 100000
namespace Go.Proofs.YtmmnkemcplgebaaGreatDoor
open Go.Abs
def zN : List AV := [.sc (.int .i64 0), .sc (.int .i64 0), .sc (.string ⟨#[]⟩), .sc (.string ⟨#[]⟩), .sc (.slice none 0 0), .sc (.int .i64 0), .sc (.int .i64 0)]
theorem allocN {tm : PM AV} {S : St} {d : Option Tmp} : opV E tm d (.alloc 30) S = some (.ptr S.no 0, S.born 30 zN) := alloc_of (by kernel_rfl)
theorem nodeA_len (x : NodeV) : (nodeA x).length = 7 := rfl
theorem nodeA_take (x : NodeV) : (nodeA x).take 7 = nodeA x := rfl
theorem stN (l : Nat) (x : NodeV) (S : St) : storeC 7 (.ptr l 0) (.agg (nodeA x)) S = (S.obj l).bind fun cs => if 7 ≤ cs.length then some (passed, S.put l (.cells (nodeA x ++ cs.drop 7))) else none := store_agg 7 l _ (by simp only [nodeA, List.all_cons, List.all_nil, kidsA, rowV_ok]; rfl)
theorem zN_len : zN.length = 7 := rfl
theorem zN_drop : zN.drop 7 = [] := rfl
theorem lenN {x : AV} {l : List NodeV} (h : IsV 7 x (nodesA l)) (S : St) : lenV x S = some (.sc (.int .i64 (l.length : Nat)), S) := by rw [h.len]; simp [nodesA]
theorem idxN {x : AV} {l : List NodeV} (h : IsV 7 x (nodesA l)) {k : Nat} (hk : k < l.length) (S : St) : idxV 7 x (some (k : Int)) S = some (.eptr (nodeA l[k]) 0, S) := h.idx (v := .agg (nodeA l[k])) (by simp [nodesA, hk]) rfl S
theorem idxI {x : NodeV} {k : Nat} (hk : k < x.kids.length) (S : St) : idxV 1 (kidsA x) (some (k : Int)) S = some (.eptr [.sc (.int .i64 x.kids[k])] 0, S) := (isK x).idx (v := .sc (.int .i64 x.kids[k])) (by simp [intsA, hk]) rfl S
theorem fldW_0 {tm : PM AV} {S : St} {d : Option Tmp} (x : Operand) : opV E tm d (.fieldAddr 62 x 0) S = fldV 0 (E.ev tm x) S := field_chk 62 0 0 (by kernel_rfl) x
theorem fldW_1 {tm : PM AV} {S : St} {d : Option Tmp} (x : Operand) : opV E tm d (.fieldAddr 62 x 1) S = fldV 2 (E.ev tm x) S := field_chk 62 1 2 (by kernel_rfl) x
theorem kind4 : E.P.underlying 4 = some .bool := by kernel_rfl
theorem kidsW_drop (w : Bool → Nat → Option Nat) (pat m : Bool) {l : List Int} {i : Nat} (hi : i < l.length) (nx : Nat) : kidsW w pat m (l.drop i) i nx = bif l[i] == ((nx : Nat) : Int) then match w (pat || (m && armF ((i : Nat) : Int))) nx with | some z => kidsW w pat m (l.drop (i + 1)) (i + 1) z | none => none else none := by
  rw [List.drop_eq_getElem_cons hi, kidsW]
  rfl
theorem kidsW_bd {n : Nat} {w : Bool → Nat → Option Nat} (hw : ∀ p a z, w p a = some z → a < z ∧ z ≤ n) (pat m : Bool) : ∀ (l : List Int) (i nx z : Nat), nx ≤ n → kidsW w pat m l i nx = some z → nx ≤ z ∧ z ≤ n
  | [], i, nx, z, hn, h => by
    simp only [kidsW, Option.some.injEq] at h
    omega
  | k :: r, i, nx, z, hn, h => by
    unfold kidsW at h
    cases hb : (k == ((nx : Nat) : Int)) with
    | false => rw [hb] at h; cases h
    | true =>
      rw [hb, cond_true] at h
      cases hq : w (pat || (m && armF ((i : Nat) : Int))) nx with
      | none => rw [hq] at h; cases h
      | some z1 =>
        rw [hq] at h
        have h1 := hw _ _ _ hq
        have h2 := kidsW_bd hw pat m r (i + 1) z1 z h1.2 h
        omega
theorem walk_bd (ns : List NodeV) (ds : List DeclV) : ∀ (d : Nat) (pat : Bool) (a z : Nat), walkF ns ds d pat a = some z → a < z ∧ z ≤ ns.length
  | 0, pat, a, z, h => by cases h
  | d + 1, pat, a, z, h => by
    unfold walkF at h
    cases hx : ns[a]? with
    | none => rw [hx] at h; cases h
    | some x =>
      rw [hx] at h
      have ha := (List.getElem?_eq_some_iff.1 hx).1
      simp only [cond_eq_ite] at h
      split at h
      · cases h
      · have := kidsW_bd (walk_bd ns ds d) pat (x.kind == 11) x.kids 0 (a + 1) z ha h
        omega
theorem le23 : (2 ≤ 3) = True := eq_true (by decide)
/-- What a walk leaves. -/
def Walked (nx tx : AV) (l : Nat) (S' : St) (r : AV) : Option Nat → Prop
  | some z => r = .sc (.bool true) ∧ S'.obj l = some [nx, tx, .sc (.int .i64 (z : Nat))]
  | none => r = .sc (.bool false)
set_option maxHeartbeats 32000000 in
theorem walk_ok (t : TreeV) (nx tx : AV) (ht : TreeIs nx tx t) : ∀ (d : Nat), d ≤ 60 → ∀ (pat : Bool) (a : Nat), a ≤ 2 ^ 40 → ∀ (S : St) (l : Nat), S.Fresh → l < S.no → S.obj l = some [nx, tx, .sc (.int .i64 (a : Nat))] →
    ∃ r S', EvA E 28 [.ptr l 0, .sc (.bool pat), .sc (.int .i64 ((60 - d : Nat) : Int))] S r S' ∧ Walked nx tx l S' r (walkF t.nodes t.types d pat a) ∧ GrowB l S S' := by
  intro d
  induction d with
  | zero =>
    intro hd pat a ha S l hS hl ho
    refine ev28 rfl ?_
    have hG := (Grow.refl hS nilV).toB l
    cases c1 : decide ((t.nodes.length : Int) ≤ (a : Int)) with
    | true =>
      simp only [SXa, reduceCtorEq, Nat.reduceEqDiff, Nat.reduceAdd, Nat.reduceSub, Nat.reduceMul, Nat.reduceBEq, Int.reduceLT, Int.reduceLE, Int.reduceToNat, Int.reduceBEq, Int.reduceBNe, reduceIte, load3, store3, load22, index22, len22, load25, load28, index28, len28, load30, store30, call28, call29, call56, call57, r28_0, r28_1, r28_2, r28_3, r28_4, r28_5, r28_6, r28_7, r28_8, r28_9, r28_10, r28_11, r28_12, r28_13, r28_15, p28, op_nilCheck, chk_p, fldW_0, fldW_1, fldT0, fld_p, load_pb, ho, Option.bind_some, Nat.zero_add, Nat.add_zero, lenN ht.nodes, c1]
      exact ⟨rfl, hG⟩
    | false =>
      have c2 : decide ((60 : Int) ≤ ((60 - 0 : Nat) : Int)) = true := by decide
      simp only [SXa, reduceCtorEq, Nat.reduceEqDiff, Nat.reduceAdd, Nat.reduceSub, Nat.reduceMul, Nat.reduceBEq, Int.reduceLT, Int.reduceLE, Int.reduceToNat, Int.reduceBEq, Int.reduceBNe, reduceIte, load3, store3, load22, index22, len22, load25, load28, index28, len28, load30, store30, call28, call29, call56, call57, r28_0, r28_1, r28_2, r28_3, r28_4, r28_5, r28_6, r28_7, r28_8, r28_9, r28_10, r28_11, r28_12, r28_13, r28_15, p28, op_nilCheck, chk_p, fldW_0, fldW_1, fldT0, fld_p, load_pb, ho, Option.bind_some, Nat.zero_add, Nat.add_zero, lenN ht.nodes, c1, c2]
      exact ⟨rfl, hG⟩
  | succ d ih =>
    intro hd pat a ha S l hS hl ho
    refine ev28 rfl ?_
    have hG := (Grow.refl hS nilV).toB l
    by_cases hlt : a < t.nodes.length
    case neg =>
      have c1 : decide ((t.nodes.length : Int) ≤ (a : Int)) = true := by simp only [decide_eq_true_eq]; omega
      simp only [SXa, reduceCtorEq, Nat.reduceEqDiff, Nat.reduceAdd, Nat.reduceSub, Nat.reduceMul, Nat.reduceBEq, Int.reduceLT, Int.reduceLE, Int.reduceToNat, Int.reduceBEq, Int.reduceBNe, reduceIte, load3, store3, load22, index22, len22, load25, load28, index28, len28, load30, store30, call28, call29, call56, call57, r28_0, r28_1, r28_2, r28_3, r28_4, r28_5, r28_6, r28_7, r28_8, r28_9, r28_10, r28_11, r28_12, r28_13, r28_15, p28, op_nilCheck, chk_p, fldW_0, fldW_1, fldT0, fld_p, load_pb, ho, Option.bind_some, Nat.zero_add, Nat.add_zero, lenN ht.nodes, c1]
      have : t.nodes[a]? = none := List.getElem?_eq_none (by omega)
      exact ⟨by simp only [walkF, this, Walked], hG⟩
    case pos =>
    have c1 : decide ((t.nodes.length : Int) ≤ (a : Int)) = false := by simp only [decide_eq_false_iff_not]; omega
    have c2 : decide ((60 : Int) ≤ ((60 - (d + 1) : Nat) : Int)) = false := by simp only [decide_eq_false_iff_not]; omega
    have hx : t.nodes[a]? = some t.nodes[a] := List.getElem?_eq_getElem hlt
    have hkl := ht.lk _ (List.getElem_mem hlt)
    have hb := ((Grow.refl hS nilV).born 30 zN).put S.no (.cells (nodeA t.nodes[a])) (Nat.le_refl _)
    have hN : ((S.born 30 zN).put S.no (.cells (nodeA t.nodes[a]))).obj S.no = some (nodeA t.nodes[a]) := by simp [put_obj]
    have hO : ((S.born 30 zN).put S.no (.cells (nodeA t.nodes[a]))).obj l = some [nx, tx, .sc (.int .i64 (a : Nat))] := hb.objs ho hl
    have hn : S.no < ((S.born 30 zN).put S.no (.cells (nodeA t.nodes[a]))).no := Nat.lt_succ_self _
    simp only [SXa, reduceCtorEq, Nat.reduceEqDiff, Nat.reduceAdd, Nat.reduceSub, Nat.reduceMul, Nat.reduceBEq, Int.reduceLT, Int.reduceLE, Int.reduceToNat, Int.reduceBEq, Int.reduceBNe, reduceIte, load3, store3, load22, index22, len22, load25, load28, index28, len28, load30, store30, call28, call29, call56, call57, r28_0, r28_1, r28_2, r28_3, r28_4, r28_5, r28_6, r28_7, r28_8, r28_9, r28_10, r28_11, r28_12, r28_13, r28_15, p28, op_nilCheck, chk_p, fldW_0, fldW_1, fldT0, fld_p, load_pb, ho, Option.bind_some, Nat.zero_add, Nat.add_zero, lenN ht.nodes, c1, c2, idxN ht.nodes hlt, nodeA_len, nodeA_take, allocN, stN, born_obj, zN_len, zN_drop, List.append_nil, Nat.le_refl]
    generalize (S.born 30 zN).put S.no (.cells (nodeA t.nodes[a])) = S1 at hb hN hO hn
    have gr := Grow.raise hb.fresh 14 nilV
    have hb2 := hb.two gr
    have hN2 := gr.objs hN hn
    have hn2 := Nat.lt_of_lt_of_le hn gr.no
    have hO2 := hb2.objs ho hl
    simp only [nodeA] at hN2
    simp only [SXa, reduceCtorEq, Nat.reduceEqDiff, Nat.reduceAdd, Nat.reduceSub, Nat.reduceMul, Nat.reduceBEq, Int.reduceLT, Int.reduceLE, Int.reduceToNat, Int.reduceBEq, Int.reduceBNe, reduceIte, load3, store3, load22, index22, len22, load25, load28, index28, len28, load30, store30, call28, call29, call56, call57, r28_0, r28_1, r28_2, r28_3, r28_4, r28_5, r28_6, r28_7, r28_8, r28_9, r28_10, r28_11, r28_12, r28_13, r28_15, p28, load_pb, raise_obj, hN2, fldN, fld_p, Option.bind_some, Nat.add_zero, Nat.zero_add]
    generalize S1.raise 14 = S2 at hb2 hN2 hn2 hO2
    refine callK_ans (pat_ans _) hb2 (fun S3 g3 hb3 => ?_)
    have hN3 := g3.objs hN2 hn2
    have hn3 := Nat.lt_of_lt_of_le hn2 g3.no
    have hO3 := hb3.objs ho hl
    cases c3 : (patF t.nodes[a].kind != pat) with
    | true =>
      simp only [SXa, reduceCtorEq, Nat.reduceEqDiff, Nat.reduceAdd, Nat.reduceSub, Nat.reduceMul, Nat.reduceBEq, Int.reduceLT, Int.reduceLE, Int.reduceToNat, Int.reduceBEq, Int.reduceBNe, reduceIte, load3, store3, load22, index22, len22, load25, load28, index28, len28, load30, store30, call28, call29, call56, call57, r28_0, r28_1, r28_2, r28_3, r28_4, r28_5, r28_6, r28_7, r28_8, r28_9, r28_10, r28_11, r28_12, r28_13, r28_15, p28, b_nebool _ kind4, c3]
      exact ⟨by simp only [walkF, hx, c3, Bool.true_or, cond_true, Walked], hb3.toB l⟩
    | false =>
    simp only [SXa, reduceCtorEq, Nat.reduceEqDiff, Nat.reduceAdd, Nat.reduceSub, Nat.reduceMul, Nat.reduceBEq, Int.reduceLT, Int.reduceLE, Int.reduceToNat, Int.reduceBEq, Int.reduceBNe, reduceIte, load3, store3, load22, index22, len22, load25, load28, index28, len28, load30, store30, call28, call29, call56, call57, r28_0, r28_1, r28_2, r28_3, r28_4, r28_5, r28_6, r28_7, r28_8, r28_9, r28_10, r28_11, r28_12, r28_13, r28_15, p28, b_nebool _ kind4, c3, op_nilCheck, chk_p, fldW_0, fld_p, load_pb, hO3, hN3, Option.bind_some, Nat.zero_add, Nat.add_zero, Nat.le_refl, le23]
    refine callK_ans (alone_ans t nx tx ht t.nodes[a] hkl) hb3 (fun S4 g4 hb4 => ?_)
    have hN4 := g4.objs hN3 hn3
    have hn4 := Nat.lt_of_lt_of_le hn3 g4.no
    have hO4 := hb4.objs ho hl
    cases c4 : aloneF t.types t.nodes[a] with
    | false =>
      simp only [SXa, reduceCtorEq, Nat.reduceEqDiff, Nat.reduceAdd, Nat.reduceSub, Nat.reduceMul, Nat.reduceBEq, Int.reduceLT, Int.reduceLE, Int.reduceToNat, Int.reduceBEq, Int.reduceBNe, reduceIte, load3, store3, load22, index22, len22, load25, load28, index28, len28, load30, store30, call28, call29, call56, call57, r28_0, r28_1, r28_2, r28_3, r28_4, r28_5, r28_6, r28_7, r28_8, r28_9, r28_10, r28_11, r28_12, r28_13, r28_15, p28]
      exact ⟨by simp only [walkF, hx, c4, Bool.not_false, Bool.or_true, cond_true, Walked], hb4.toB l⟩
    | true =>
    have e0 : walkF t.nodes t.types (d + 1) pat a = kidsW (walkF t.nodes t.types d) pat (t.nodes[a].kind == 11) t.nodes[a].kids 0 (a + 1) := by
      simp only [walkF, hx, c3, c4, Bool.not_true, Bool.or_self, cond_false]
    have hne : S.no ≠ l := by omega
    have wa : IntKind.i64.wrap ((a : Int) + 1) = ((a + 1 : Nat) : Int) := wrapK hlt (by have := ht.ln; omega)
    have hB := (hb4.toB l).put (.cells [nx, tx, .sc (.int .i64 ((a + 1 : Nat) : Int))])
    have hO5 : (S4.put l (.cells [nx, tx, .sc (.int .i64 ((a + 1 : Nat) : Int))])).obj l = some [nx, tx, .sc (.int .i64 ((a + 1 : Nat) : Int))] := by simp [put_obj]
    have hN5 : (S4.put l (.cells [nx, tx, .sc (.int .i64 ((a + 1 : Nat) : Int))])).obj S.no = some [.sc (.int .i64 t.nodes[a].kind), .sc (.int .i64 t.nodes[a].n), .sc (.string t.nodes[a].name), .sc (.string t.nodes[a].param), (kidsA t.nodes[a]), .sc (.int .i64 t.nodes[a].frm), .sc (.int .i64 t.nodes[a].to)] := by simp [put_obj, hne, hN4]
    have hn5 : S.no < (S4.put l (.cells [nx, tx, .sc (.int .i64 ((a + 1 : Nat) : Int))])).no := hn4
    simp only [SXa, reduceCtorEq, Nat.reduceEqDiff, Nat.reduceAdd, Nat.reduceSub, Nat.reduceMul, Nat.reduceBEq, Int.reduceLT, Int.reduceLE, Int.reduceToNat, Int.reduceBEq, Int.reduceBNe, reduceIte, load3, store3, load22, index22, len22, load25, load28, index28, len28, load30, store30, call28, call29, call56, call57, r28_0, r28_1, r28_2, r28_3, r28_4, r28_5, r28_6, r28_7, r28_8, r28_9, r28_10, r28_11, r28_12, r28_13, r28_15, p28, op_nilCheck, chk_p, fldW_1, fld_p, load_pb, hO4, wa, store_int, Option.bind_some, Nat.zero_add, Nat.add_zero, Nat.le_refl, Nat.lt_succ_self, le23, List.set_cons_zero, List.set_cons_succ]
    generalize S4.put l (.cells [nx, tx, .sc (.int .i64 ((a + 1 : Nat) : Int))]) = S5 at hB hO5 hN5 hn5
    simp only [SXa, reduceCtorEq, Nat.reduceEqDiff, Nat.reduceAdd, Nat.reduceSub, Nat.reduceMul, Nat.reduceBEq, Int.reduceLT, Int.reduceLE, Int.reduceToNat, Int.reduceBEq, Int.reduceBNe, reduceIte, load3, store3, load22, index22, len22, load25, load28, index28, len28, load30, store30, call28, call29, call56, call57, r28_0, r28_1, r28_2, r28_3, r28_4, r28_5, r28_6, r28_7, r28_8, r28_9, r28_10, r28_11, r28_12, r28_13, r28_15, p28, load_pb, hN5, fldN, fld_p, Option.bind_some, Nat.add_zero, Nat.zero_add, lenK]
    have ww : IntKind.i64.wrap (((60 - (d + 1) : Nat) : Int) + 1) = ((60 - d : Nat) : Int) := by rw [wrap_i64 (by omega) (by omega)]; omega
    refine e_loop (fun tm S' N => ∃ i z : Nat, i ≤ t.nodes[a].kids.length ∧ N = t.nodes[a].kids.length - i ∧ z ≤ t.nodes.length ∧ kidsW (walkF t.nodes t.types d) pat (t.nodes[a].kind == 11) (t.nodes[a].kids.drop i) i z = walkF t.nodes t.types (d + 1) pat a ∧
      S'.obj l = some [nx, tx, .sc (.int .i64 (z : Nat))] ∧ S'.obj S.no = some [.sc (.int .i64 t.nodes[a].kind), .sc (.int .i64 t.nodes[a].n), .sc (.string t.nodes[a].name), .sc (.string t.nodes[a].param), (kidsA t.nodes[a]), .sc (.int .i64 t.nodes[a].frm), .sc (.int .i64 t.nodes[a].to)] ∧
      GrowB l S S' ∧ S.no < S'.no ∧ getT tm 0 = .ptr l 0 ∧ getT tm 1 = .sc (.bool pat) ∧ getT tm 2 = .sc (.int .i64 ((60 - (d + 1) : Nat) : Int)) ∧ getT tm 8 = .ptr S.no 0 ∧ getT tm 57 = (kidsA t.nodes[a]) ∧ getT tm 58 = .sc (.int .i64 (t.nodes[a].kids.length : Nat)) ∧ getT tm 59 = .sc (.int .i64 (i : Int))) t.nodes[a].kids.length
      ⟨0, a + 1, by omega, by omega, by omega, by rw [List.drop_zero, e0], hO5, hN5, hB, hn5, by simp [getT_setD]⟩ ?_
    rintro tm S6 N ⟨i, z, hi, rfl, hz, hq, ho6, hN6, hB6, hn6, t0, t1, t2, t8, t57, t58, t59⟩
    have hl6 : l < S6.no := Nat.lt_of_lt_of_le hl hB6.no
    have hln := ht.ln
    by_cases hit : i < t.nodes[a].kids.length
    case neg =>
      have hie : i = t.nodes[a].kids.length := by omega
      rw [hie, List.drop_length, kidsW] at hq
      simp only [SXa, reduceCtorEq, Nat.reduceEqDiff, Nat.reduceAdd, Nat.reduceSub, Nat.reduceMul, Nat.reduceBEq, Int.reduceLT, Int.reduceLE, Int.reduceToNat, Int.reduceBEq, Int.reduceBNe, reduceIte, load3, store3, load22, index22, len22, load25, load28, index28, len28, load30, store30, call28, call29, call56, call57, b28_14, r28_0, r28_1, r28_2, r28_3, r28_4, r28_5, r28_6, r28_7, r28_8, r28_9, r28_10, r28_11, r28_12, r28_13, r28_15, p28, t0, t1, t2, t8, t57, t58, t59, dec_nlt hit]
      exact ⟨by rw [← hq]; exact ⟨rfl, ho6⟩, hB6⟩
    case pos =>
    have wi := wrapK hit (by omega)
    rw [kidsW_drop _ _ _ hit] at hq
    simp only [SXa, reduceCtorEq, Nat.reduceEqDiff, Nat.reduceAdd, Nat.reduceSub, Nat.reduceMul, Nat.reduceBEq, Int.reduceLT, Int.reduceLE, Int.reduceToNat, Int.reduceBEq, Int.reduceBNe, reduceIte, load3, store3, load22, index22, len22, load25, load28, index28, len28, load30, store30, call28, call29, call56, call57, b28_14, r28_0, r28_1, r28_2, r28_3, r28_4, r28_5, r28_6, r28_7, r28_8, r28_9, r28_10, r28_11, r28_12, r28_13, r28_15, p28, t0, t1, t2, t8, t57, t58, t59, dec_lt hit, idxI hit, op_nilCheck, chk_p, fldW_1, fld_p, load_pb, ho6, Option.bind_some, Nat.zero_add, Nat.add_zero]
    cases c5 : (t.nodes[a].kids[i] != ((z : Nat) : Int)) with
    | true =>
      have c6 : (t.nodes[a].kids[i] == ((z : Nat) : Int)) = false := by simpa [bne] using c5
      rw [c6, cond_false] at hq
      simp only [SXa, reduceCtorEq, Nat.reduceEqDiff, Nat.reduceAdd, Nat.reduceSub, Nat.reduceMul, Nat.reduceBEq, Int.reduceLT, Int.reduceLE, Int.reduceToNat, Int.reduceBEq, Int.reduceBNe, reduceIte, load3, store3, load22, index22, len22, load25, load28, index28, len28, load30, store30, call28, call29, call56, call57, r28_0, r28_1, r28_2, r28_3, r28_4, r28_5, r28_6, r28_7, r28_8, r28_9, r28_10, r28_11, r28_12, r28_13, r28_15, p28]
      exact ⟨by rw [← hq]; rfl, hB6⟩
    | false =>
    have c6 : (t.nodes[a].kids[i] == ((z : Nat) : Int)) = true := by simpa [bne] using c5
    rw [c6, cond_true] at hq
    cases hp : pat with
    | true =>
      subst hp
      simp only [Bool.true_or] at hq
      simp only [SXa, reduceCtorEq, Nat.reduceEqDiff, Nat.reduceAdd, Nat.reduceSub, Nat.reduceMul, Nat.reduceBEq, Int.reduceLT, Int.reduceLE, Int.reduceToNat, Int.reduceBEq, Int.reduceBNe, reduceIte, load3, store3, load22, index22, len22, load25, load28, index28, len28, load30, store30, call28, call29, call56, call57, r28_0, r28_1, r28_2, r28_3, r28_4, r28_5, r28_6, r28_7, r28_8, r28_9, r28_10, r28_11, r28_12, r28_13, r28_15, p28, t0, t1, t2, t8, t57, t58, t59, ww]
      obtain ⟨r5, S5, e5, w5, g5⟩ := ih (by omega) true z (by omega) S6 l hB6.fresh hl6 ho6
      refine callK_of e5 ?_
      have hB5 := hB6.two g5
      have hN5 := g5.objs hN6 hn6 (by omega)
      have hn5 : S.no < S5.no := Nat.lt_of_lt_of_le hn6 g5.no
      cases hw : walkF t.nodes t.types d true z with
      | none =>
        rw [hw] at w5 hq
        simp only [Walked] at w5
        subst w5
        simp only [SXa, reduceCtorEq, Nat.reduceEqDiff, Nat.reduceAdd, Nat.reduceSub, Nat.reduceMul, Nat.reduceBEq, Int.reduceLT, Int.reduceLE, Int.reduceToNat, Int.reduceBEq, Int.reduceBNe, reduceIte, load3, store3, load22, index22, len22, load25, load28, index28, len28, load30, store30, call28, call29, call56, call57, r28_0, r28_1, r28_2, r28_3, r28_4, r28_5, r28_6, r28_7, r28_8, r28_9, r28_10, r28_11, r28_12, r28_13, r28_15, p28]
        exact ⟨by rw [← hq]; rfl, hB5⟩
      | some z1 =>
        rw [hw] at w5 hq
        obtain ⟨rfl, ho5⟩ := w5
        have hz1 := (walk_bd _ _ _ _ _ _ hw).2
        simp only [SXa, reduceCtorEq, Nat.reduceEqDiff, Nat.reduceAdd, Nat.reduceSub, Nat.reduceMul, Nat.reduceBEq, Int.reduceLT, Int.reduceLE, Int.reduceToNat, Int.reduceBEq, Int.reduceBNe, reduceIte, load3, store3, load22, index22, len22, load25, load28, index28, len28, load30, store30, call28, call29, call56, call57, r28_0, r28_1, r28_2, r28_3, r28_4, r28_5, r28_6, r28_7, r28_8, r28_9, r28_10, r28_11, r28_12, r28_13, r28_15, p28, t0, t1, t2, t8, t57, t58, t59, wi]
        exact ⟨t.nodes[a].kids.length - (i + 1), by omega, i + 1, z1, by omega, rfl, hz1, hq, ho5, hN5, hB5, hn5, by simp [t0, t1, t2, t8, t57, t58]⟩
    | false =>
      subst hp
      simp only [Bool.false_or] at hq
      cases c7 : (t.nodes[a].kind == 11) with
      | false =>
        rw [c7, Bool.false_and] at hq
        simp only [SXa, reduceCtorEq, Nat.reduceEqDiff, Nat.reduceAdd, Nat.reduceSub, Nat.reduceMul, Nat.reduceBEq, Int.reduceLT, Int.reduceLE, Int.reduceToNat, Int.reduceBEq, Int.reduceBNe, reduceIte, load3, store3, load22, index22, len22, load25, load28, index28, len28, load30, store30, call28, call29, call56, call57, r28_0, r28_1, r28_2, r28_3, r28_4, r28_5, r28_6, r28_7, r28_8, r28_9, r28_10, r28_11, r28_12, r28_13, r28_15, p28, t0, t1, t2, t8, t57, t58, t59, ww, load_pb, hN6, fldN, fld_p, Option.bind_some, Nat.zero_add, Nat.add_zero, c7]
        obtain ⟨r5, S5, e5, w5, g5⟩ := ih (by omega) false z (by omega) S6 l hB6.fresh hl6 ho6
        refine callK_of e5 ?_
        have hB5 := hB6.two g5
        have hN5 := g5.objs hN6 hn6 (by omega)
        have hn5 : S.no < S5.no := Nat.lt_of_lt_of_le hn6 g5.no
        cases hw : walkF t.nodes t.types d false z with
        | none =>
          rw [hw] at w5 hq
          simp only [Walked] at w5
          subst w5
          simp only [SXa, reduceCtorEq, Nat.reduceEqDiff, Nat.reduceAdd, Nat.reduceSub, Nat.reduceMul, Nat.reduceBEq, Int.reduceLT, Int.reduceLE, Int.reduceToNat, Int.reduceBEq, Int.reduceBNe, reduceIte, load3, store3, load22, index22, len22, load25, load28, index28, len28, load30, store30, call28, call29, call56, call57, r28_0, r28_1, r28_2, r28_3, r28_4, r28_5, r28_6, r28_7, r28_8, r28_9, r28_10, r28_11, r28_12, r28_13, r28_15, p28]
          exact ⟨by rw [← hq]; rfl, hB5⟩
        | some z1 =>
          rw [hw] at w5 hq
          obtain ⟨rfl, ho5⟩ := w5
          have hz1 := (walk_bd _ _ _ _ _ _ hw).2
          simp only [SXa, reduceCtorEq, Nat.reduceEqDiff, Nat.reduceAdd, Nat.reduceSub, Nat.reduceMul, Nat.reduceBEq, Int.reduceLT, Int.reduceLE, Int.reduceToNat, Int.reduceBEq, Int.reduceBNe, reduceIte, load3, store3, load22, index22, len22, load25, load28, index28, len28, load30, store30, call28, call29, call56, call57, r28_0, r28_1, r28_2, r28_3, r28_4, r28_5, r28_6, r28_7, r28_8, r28_9, r28_10, r28_11, r28_12, r28_13, r28_15, p28, t0, t1, t2, t8, t57, t58, t59, wi]
          exact ⟨t.nodes[a].kids.length - (i + 1), by omega, i + 1, z1, by omega, rfl, hz1, hq, ho5, hN5, hB5, hn5, by simp [t0, t1, t2, t8, t57, t58]⟩
      | true =>
        rw [c7, Bool.true_and] at hq
        simp only [SXa, reduceCtorEq, Nat.reduceEqDiff, Nat.reduceAdd, Nat.reduceSub, Nat.reduceMul, Nat.reduceBEq, Int.reduceLT, Int.reduceLE, Int.reduceToNat, Int.reduceBEq, Int.reduceBNe, reduceIte, load3, store3, load22, index22, len22, load25, load28, index28, len28, load30, store30, call28, call29, call56, call57, r28_0, r28_1, r28_2, r28_3, r28_4, r28_5, r28_6, r28_7, r28_8, r28_9, r28_10, r28_11, r28_12, r28_13, r28_15, p28, t0, t1, t2, t8, t57, t58, t59, ww, load_pb, hN6, fldN, fld_p, Option.bind_some, Nat.zero_add, Nat.add_zero, c7]
        obtain ⟨S7, e7, g7⟩ := arm_ans ((i : Nat) : Int) S6 hB6.fresh
        refine callK_of e7 ?_
        have ho7 := g7.objs ho6 hl6
        have hN7 := g7.objs hN6 hn6
        have hn7 := Nat.lt_of_lt_of_le hn6 g7.no
        have hl7 := Nat.lt_of_lt_of_le hl6 g7.no
        have hB7 := hB6.two (g7.toB l)
        simp only [SXa, reduceCtorEq, Nat.reduceEqDiff, Nat.reduceAdd, Nat.reduceSub, Nat.reduceMul, Nat.reduceBEq, Int.reduceLT, Int.reduceLE, Int.reduceToNat, Int.reduceBEq, Int.reduceBNe, reduceIte, load3, store3, load22, index22, len22, load25, load28, index28, len28, load30, store30, call28, call29, call56, call57, r28_0, r28_1, r28_2, r28_3, r28_4, r28_5, r28_6, r28_7, r28_8, r28_9, r28_10, r28_11, r28_12, r28_13, r28_15, p28, t0, t1, t2, t8, t57, t58, t59, ww]
        obtain ⟨r5, S5, e5, w5, g5⟩ := ih (by omega) (armF ((i : Nat) : Int)) z (by omega) S7 l hB7.fresh hl7 ho7
        refine callK_of e5 ?_
        have hB5 := hB7.two g5
        have hN5 := g5.objs hN7 hn7 (by omega)
        have hn5 : S.no < S5.no := Nat.lt_of_lt_of_le hn7 g5.no
        cases hw : walkF t.nodes t.types d (armF ((i : Nat) : Int)) z with
        | none =>
          rw [hw] at w5 hq
          simp only [Walked] at w5
          subst w5
          simp only [SXa, reduceCtorEq, Nat.reduceEqDiff, Nat.reduceAdd, Nat.reduceSub, Nat.reduceMul, Nat.reduceBEq, Int.reduceLT, Int.reduceLE, Int.reduceToNat, Int.reduceBEq, Int.reduceBNe, reduceIte, load3, store3, load22, index22, len22, load25, load28, index28, len28, load30, store30, call28, call29, call56, call57, r28_0, r28_1, r28_2, r28_3, r28_4, r28_5, r28_6, r28_7, r28_8, r28_9, r28_10, r28_11, r28_12, r28_13, r28_15, p28]
          exact ⟨by rw [← hq]; rfl, hB5⟩
        | some z1 =>
          rw [hw] at w5 hq
          obtain ⟨rfl, ho5⟩ := w5
          have hz1 := (walk_bd _ _ _ _ _ _ hw).2
          simp only [SXa, reduceCtorEq, Nat.reduceEqDiff, Nat.reduceAdd, Nat.reduceSub, Nat.reduceMul, Nat.reduceBEq, Int.reduceLT, Int.reduceLE, Int.reduceToNat, Int.reduceBEq, Int.reduceBNe, reduceIte, load3, store3, load22, index22, len22, load25, load28, index28, len28, load30, store30, call28, call29, call56, call57, r28_0, r28_1, r28_2, r28_3, r28_4, r28_5, r28_6, r28_7, r28_8, r28_9, r28_10, r28_11, r28_12, r28_13, r28_15, p28, t0, t1, t2, t8, t57, t58, t59, wi]
          exact ⟨t.nodes[a].kids.length - (i + 1), by omega, i + 1, z1, by omega, rfl, hz1, hq, ho5, hN5, hB5, hn5, by simp [t0, t1, t2, t8, t57, t58]⟩
end Go.Proofs.YtmmnkemcplgebaaGreatDoor
end
