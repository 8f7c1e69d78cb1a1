/-
  Trees: the walks (nodes in preorder).
  More of the calculus: whatever is appended.
  Trees: the walks (what a pattern binds).
-/
import Derived.Test.YtmmnkemcplgebaaGreatDoorQBE
import Derived.Test.YtmmnkemcplgebaaGreatDoorQBD
section
section
set_option linter.unusedSimpArgs false
set_option linter.unusedVariables false
set_option maxRecDepth 100000
namespace Go.Proofs.YtmmnkemcplgebaaGreatDoor
open Go.Abs
def zN : List AV := [.sc (.int .i64 0), .sc (.int .i64 0), .sc (.string ⟨#[]⟩), .sc (.string ⟨#[]⟩), .sc (.slice none 0 0), .sc (.int .i64 0), .sc (.int .i64 0)]
theorem allocN {tm : PM AV} {S : St} {d : Option Tmp} : opV E tm d (.alloc 30) S = some (.ptr S.no 0, S.born 30 zN) := alloc_of (by kernel_rfl)
theorem nodeA_len (x : NodeV) : (nodeA x).length = 7 := rfl
theorem nodeA_take (x : NodeV) : (nodeA x).take 7 = nodeA x := rfl
theorem stN (l : Nat) (x : NodeV) (S : St) : storeC 7 (.ptr l 0) (.agg (nodeA x)) S = (S.obj l).bind fun cs => if 7 ≤ cs.length then some (passed, S.put l (.cells (nodeA x ++ cs.drop 7))) else none := store_agg 7 l _ (by simp only [nodeA, List.all_cons, List.all_nil, kidsA, rowV_ok]; rfl)
theorem zN_len : zN.length = 7 := rfl
theorem zN_drop : zN.drop 7 = [] := rfl
theorem lenN {x : AV} {l : List NodeV} (h : IsV 7 x (nodesA l)) (S : St) : lenV x S = some (.sc (.int .i64 (l.length : Nat)), S) := by rw [h.len]; simp [nodesA]
theorem idxN {x : AV} {l : List NodeV} (h : IsV 7 x (nodesA l)) {k : Nat} (hk : k < l.length) (S : St) : idxV 7 x (some (k : Int)) S = some (.eptr (nodeA l[k]) 0, S) := h.idx (v := .agg (nodeA l[k])) (by simp [nodesA, hk]) rfl S
theorem idxI {x : NodeV} {k : Nat} (hk : k < x.kids.length) (S : St) : idxV 1 (kidsA x) (some (k : Int)) S = some (.eptr [.sc (.int .i64 x.kids[k])] 0, S) := (isK x).idx (v := .sc (.int .i64 x.kids[k])) (by simp [intsA, hk]) rfl S
theorem fldW_0 {tm : PM AV} {S : St} {d : Option Tmp} (x : Operand) : opV E tm d (.fieldAddr 62 x 0) S = fldV 0 (E.ev tm x) S := field_chk 62 0 0 (by kernel_rfl) x
theorem fldW_1 {tm : PM AV} {S : St} {d : Option Tmp} (x : Operand) : opV E tm d (.fieldAddr 62 x 1) S = fldV 2 (E.ev tm x) S := field_chk 62 1 2 (by kernel_rfl) x
theorem kind4 : E.P.underlying 4 = some .bool := by kernel_rfl
theorem kidsW_drop (w : Bool → Nat → Option Nat) (pat m : Bool) {l : List Int} {i : Nat} (hi : i < l.length) (nx : Nat) : kidsW w pat m (l.drop i) i nx = bif l[i] == ((nx : Nat) : Int) then match w (pat || (m && armF ((i : Nat) : Int))) nx with | some z => kidsW w pat m (l.drop (i + 1)) (i + 1) z | none => none else none := by
 rw [List.drop_eq_getElem_cons hi, kidsW]
 rfl
theorem kidsW_bd {n : Nat} {w : Bool → Nat → Option Nat} (hw : ∀ p a z, w p a = some z → a < z ∧ z ≤ n) (pat m : Bool) : ∀ (l : List Int) (i nx z : Nat), nx ≤ n → kidsW w pat m l i nx = some z → nx ≤ z ∧ z ≤ n
 | [], i, nx, z, hn, h => by
  simp only [kidsW, Option.some.injEq] at h
  omega
 | k :: r, i, nx, z, hn, h => by
  unfold kidsW at h
  cases hb : (k == ((nx : Nat) : Int)) with
  | false => rw [hb] at h; cases h
  | true =>
   rw [hb, cond_true] at h
   cases hq : w (pat || (m && armF ((i : Nat) : Int))) nx with
   | none => rw [hq] at h; cases h
   | some z1 =>
    rw [hq] at h
    have h1 := hw _ _ _ hq
    have h2 := kidsW_bd hw pat m r (i + 1) z1 z h1.2 h
    omega
theorem walk_bd (ns : List NodeV) (ds : List DeclV) : ∀ (d : Nat) (pat : Bool) (a z : Nat), walkF ns ds d pat a = some z → a < z ∧ z ≤ ns.length
 | 0, pat, a, z, h => by cases h
 | d + 1, pat, a, z, h => by
  unfold walkF at h
  cases hx : ns[a]? with
  | none => rw [hx] at h; cases h
  | some x =>
   rw [hx] at h
   have ha := (List.getElem?_eq_some_iff.1 hx).1
   simp only [cond_eq_ite] at h
   split at h
   · cases h
   · have := kidsW_bd (walk_bd ns ds d) pat (x.kind == 11) x.kids 0 (a + 1) z ha h
     omega
theorem le23 : (2 ≤ 3) = True := eq_true (by decide)
def Walked (nx tx : AV) (l : Nat) (S' : St) (r : AV) : Option Nat → Prop
 | some z => r = .sc (.bool true) ∧ S'.obj l = some [nx, tx, .sc (.int .i64 (z : Nat))]
 | none => r = .sc (.bool false)
set_option maxHeartbeats 32000000 in
theorem walk_ok (t : TreeV) (nx tx : AV) (ht : TreeIs nx tx t) : ∀ (d : Nat), d ≤ 60 → ∀ (pat : Bool) (a : Nat), a ≤ 2 ^ 40 → ∀ (S : St) (l : Nat), S.Fresh → l < S.no → S.obj l = some [nx, tx, .sc (.int .i64 (a : Nat))] →
 ∃ r S', EvA E 28 [.ptr l 0, .sc (.bool pat), .sc (.int .i64 ((60 - d : Nat) : Int))] S r S' ∧ Walked nx tx l S' r (walkF t.nodes t.types d pat a) ∧ GrowB l S S' := by
 intro d
 induction d with
 | zero =>
  intro hd pat a ha S l hS hl ho
  refine ev28 rfl ?_
  have hG := (Grow.refl hS nilV).toB l
  cases c1 : decide ((t.nodes.length : Int) ≤ (a : Int)) with
  | true =>
   simp only [SXa, reduceCtorEq, Nat.reduceEqDiff, Nat.reduceAdd, Nat.reduceSub, load3, load22, len22, r28_0, r28_1, r28_2, r28_3, r28_4, r28_5, r28_6, r28_7, r28_8, r28_15, p28, op_nilCheck, chk_p, fldW_0, fldW_1, fldT0, fld_p, load_pb, ho, Option.bind_some, Nat.zero_add, Nat.add_zero, lenN ht.nodes, c1]
   exact ⟨rfl, hG⟩
  | false =>
   have c2 : decide ((60 : Int) ≤ ((60 - 0 : Nat) : Int)) = true := by decide
   simp only [SXa, reduceCtorEq, Nat.reduceEqDiff, Nat.reduceAdd, Nat.reduceSub, load3, load22, len22, r28_0, r28_1, r28_2, r28_3, r28_4, r28_5, r28_6, r28_7, r28_8, r28_15, p28, op_nilCheck, chk_p, fldW_0, fldW_1, fldT0, fld_p, load_pb, ho, Option.bind_some, Nat.zero_add, Nat.add_zero, lenN ht.nodes, c1, c2]
   exact ⟨rfl, hG⟩
 | succ d ih =>
  intro hd pat a ha S l hS hl ho
  refine ev28 rfl ?_
  have hG := (Grow.refl hS nilV).toB l
  by_cases hlt : a < t.nodes.length
  case neg =>
   have c1 : decide ((t.nodes.length : Int) ≤ (a : Int)) = true := by simp only [decide_eq_true_eq]; omega
   simp only [SXa, reduceCtorEq, Nat.reduceEqDiff, Nat.reduceAdd, load3, load22, len22, r28_0, r28_1, r28_2, r28_3, r28_4, r28_5, r28_6, r28_7, r28_8, r28_15, p28, op_nilCheck, chk_p, fldW_0, fldW_1, fldT0, fld_p, load_pb, ho, Option.bind_some, Nat.zero_add, Nat.add_zero, lenN ht.nodes, c1]
   have : t.nodes[a]? = none := List.getElem?_eq_none (by omega)
   exact ⟨by simp only [walkF, this, Walked], hG⟩
  case pos =>
  have c1 : decide ((t.nodes.length : Int) ≤ (a : Int)) = false := by simp only [decide_eq_false_iff_not]; omega
  have c2 : decide ((60 : Int) ≤ ((60 - (d + 1) : Nat) : Int)) = false := by simp only [decide_eq_false_iff_not]; omega
  have hx : t.nodes[a]? = some t.nodes[a] := List.getElem?_eq_getElem hlt
  have hkl := ht.lk _ (List.getElem_mem hlt)
  have hb := ((Grow.refl hS nilV).born 30 zN).put S.no (.cells (nodeA t.nodes[a])) (Nat.le_refl _)
  have hN : ((S.born 30 zN).put S.no (.cells (nodeA t.nodes[a]))).obj S.no = some (nodeA t.nodes[a]) := by simp [put_obj]
  have hO : ((S.born 30 zN).put S.no (.cells (nodeA t.nodes[a]))).obj l = some [nx, tx, .sc (.int .i64 (a : Nat))] := hb.objs ho hl
  have hn : S.no < ((S.born 30 zN).put S.no (.cells (nodeA t.nodes[a]))).no := Nat.lt_succ_self _
  simp only [SXa, reduceCtorEq, Nat.reduceEqDiff, Nat.reduceAdd, load3, load22, index22, len22, load30, store30, r28_0, r28_1, r28_2, r28_3, r28_4, r28_5, r28_6, r28_7, r28_8, r28_15, p28, op_nilCheck, chk_p, fldW_0, fldW_1, fldT0, fld_p, load_pb, ho, Option.bind_some, Nat.zero_add, Nat.add_zero, lenN ht.nodes, c1, c2, idxN ht.nodes hlt, nodeA_len, nodeA_take, allocN, stN, born_obj, zN_len, zN_drop, List.append_nil, Nat.le_refl]
  generalize (S.born 30 zN).put S.no (.cells (nodeA t.nodes[a])) = S1 at hb hN hO hn
  have gr := Grow.raise hb.fresh 14 nilV
  have hb2 := hb.two gr
  have hN2 := gr.objs hN hn
  have hn2 := Nat.lt_of_lt_of_le hn gr.no
  have hO2 := hb2.objs ho hl
  simp only [nodeA] at hN2
  simp only [SXa, reduceCtorEq, Nat.reduceEqDiff, load3, call29, load_pb, hN2, fldN, fld_p, Option.bind_some, Nat.add_zero]
  generalize S1.raise 14 = S2 at hb2 hN2 hn2 hO2
  refine callK_ans (pat_ans _) hb2 (fun S3 g3 hb3 => ?_)
  have hN3 := g3.objs hN2 hn2
  have hn3 := Nat.lt_of_lt_of_le hn2 g3.no
  have hO3 := hb3.objs ho hl
  cases c3 : (patF t.nodes[a].kind != pat) with
  | true =>
   simp only [SXa, reduceCtorEq, Nat.reduceEqDiff, b_nebool _ kind4, c3]
   exact ⟨by simp only [walkF, hx, c3, Bool.true_or, cond_true, Walked], hb3.toB l⟩
  | false =>
  simp only [SXa, reduceCtorEq, Nat.reduceEqDiff, Nat.reduceAdd, load25, load30, call56, b_nebool _ kind4, c3, op_nilCheck, chk_p, fldW_0, fld_p, load_pb, hO3, hN3, Option.bind_some, Nat.zero_add, Nat.add_zero, Nat.le_refl, le23]
  refine callK_ans (alone_ans t nx tx ht t.nodes[a] hkl) hb3 (fun S4 g4 hb4 => ?_)
  have hN4 := g4.objs hN3 hn3
  have hn4 := Nat.lt_of_lt_of_le hn3 g4.no
  have hO4 := hb4.objs ho hl
  cases c4 : aloneF t.types t.nodes[a] with
  | false =>
   simp only [SXa, reduceCtorEq, Nat.reduceEqDiff]
   exact ⟨by simp only [walkF, hx, c4, Bool.not_false, Bool.or_true, cond_true, Walked], hb4.toB l⟩
  | true =>
  have e0 : walkF t.nodes t.types (d + 1) pat a = kidsW (walkF t.nodes t.types d) pat (t.nodes[a].kind == 11) t.nodes[a].kids 0 (a + 1) := by
   simp only [walkF, hx, c3, c4, Bool.not_true, Bool.or_self, cond_false]
  have hne : S.no ≠ l := by omega
  have wa : IntKind.i64.wrap ((a : Int) + 1) = ((a + 1 : Nat) : Int) := wrapK hlt (by have := ht.ln; omega)
  have hB := (hb4.toB l).put (.cells [nx, tx, .sc (.int .i64 ((a + 1 : Nat) : Int))])
  have hO5 : (S4.put l (.cells [nx, tx, .sc (.int .i64 ((a + 1 : Nat) : Int))])).obj l = some [nx, tx, .sc (.int .i64 ((a + 1 : Nat) : Int))] := by simp [put_obj]
  have hN5 : (S4.put l (.cells [nx, tx, .sc (.int .i64 ((a + 1 : Nat) : Int))])).obj S.no = some [.sc (.int .i64 t.nodes[a].kind), .sc (.int .i64 t.nodes[a].n), .sc (.string t.nodes[a].name), .sc (.string t.nodes[a].param), (kidsA t.nodes[a]), .sc (.int .i64 t.nodes[a].frm), .sc (.int .i64 t.nodes[a].to)] := by simp [put_obj, hne, hN4]
  have hn5 : S.no < (S4.put l (.cells [nx, tx, .sc (.int .i64 ((a + 1 : Nat) : Int))])).no := hn4
  simp only [SXa, reduceCtorEq, Nat.reduceEqDiff, Nat.reduceAdd, load3, store3, op_nilCheck, chk_p, fldW_1, fld_p, load_pb, hO4, wa, store_int, Option.bind_some, Nat.zero_add, Nat.lt_succ_self, List.set_cons_zero, List.set_cons_succ]
  generalize S4.put l (.cells [nx, tx, .sc (.int .i64 ((a + 1 : Nat) : Int))]) = S5 at hB hO5 hN5 hn5
  simp only [SXa, reduceCtorEq, Nat.reduceEqDiff, load28, len28, load_pb, hN5, fldN, fld_p, Option.bind_some, Nat.zero_add, lenK]
  have ww : IntKind.i64.wrap (((60 - (d + 1) : Nat) : Int) + 1) = ((60 - d : Nat) : Int) := by rw [wrap_i64 (by omega) (by omega)]; omega
  refine e_loop (fun tm S' N => ∃ i z : Nat, i ≤ t.nodes[a].kids.length ∧ N = t.nodes[a].kids.length - i ∧ z ≤ t.nodes.length ∧ kidsW (walkF t.nodes t.types d) pat (t.nodes[a].kind == 11) (t.nodes[a].kids.drop i) i z = walkF t.nodes t.types (d + 1) pat a ∧
   S'.obj l = some [nx, tx, .sc (.int .i64 (z : Nat))] ∧ S'.obj S.no = some [.sc (.int .i64 t.nodes[a].kind), .sc (.int .i64 t.nodes[a].n), .sc (.string t.nodes[a].name), .sc (.string t.nodes[a].param), (kidsA t.nodes[a]), .sc (.int .i64 t.nodes[a].frm), .sc (.int .i64 t.nodes[a].to)] ∧
   GrowB l S S' ∧ S.no < S'.no ∧ getT tm 0 = .ptr l 0 ∧ getT tm 1 = .sc (.bool pat) ∧ getT tm 2 = .sc (.int .i64 ((60 - (d + 1) : Nat) : Int)) ∧ getT tm 8 = .ptr S.no 0 ∧ getT tm 57 = (kidsA t.nodes[a]) ∧ getT tm 58 = .sc (.int .i64 (t.nodes[a].kids.length : Nat)) ∧ getT tm 59 = .sc (.int .i64 (i : Int))) t.nodes[a].kids.length
   ⟨0, a + 1, by omega, by omega, by omega, by rw [List.drop_zero, e0], hO5, hN5, hB, hn5, by simp [getT_setD]⟩ ?_
  rintro tm S6 N ⟨i, z, hi, rfl, hz, hq, ho6, hN6, hB6, hn6, t0, t1, t2, t8, t57, t58, t59⟩
  have hl6 : l < S6.no := Nat.lt_of_lt_of_le hl hB6.no
  have hln := ht.ln
  by_cases hit : i < t.nodes[a].kids.length
  case neg =>
   have hie : i = t.nodes[a].kids.length := by omega
   rw [hie, List.drop_length, kidsW] at hq
   simp only [SXa, Nat.reduceEqDiff, b28_14, r28_9, r28_10, r28_11, r28_12, r28_13, t58, t59, dec_nlt hit]
   exact ⟨by rw [← hq]; exact ⟨rfl, ho6⟩, hB6⟩
  case pos =>
  have wi := wrapK hit (by omega)
  rw [kidsW_drop _ _ _ hit] at hq
  simp only [SXa, reduceCtorEq, Nat.reduceEqDiff, load3, index28, b28_14, r28_9, r28_10, r28_11, r28_12, r28_13, t0, t57, t58, t59, dec_lt hit, idxI hit, op_nilCheck, chk_p, fldW_1, fld_p, load_pb, ho6, Option.bind_some, Nat.zero_add]
  cases c5 : (t.nodes[a].kids[i] != ((z : Nat) : Int)) with
  | true =>
   have c6 : (t.nodes[a].kids[i] == ((z : Nat) : Int)) = false := by simpa [bne] using c5
   rw [c6, cond_false] at hq
   simp only [SXa, Nat.reduceEqDiff]
   exact ⟨by rw [← hq]; rfl, hB6⟩
  | false =>
  have c6 : (t.nodes[a].kids[i] == ((z : Nat) : Int)) = true := by simpa [bne] using c5
  rw [c6, cond_true] at hq
  cases hp : pat with
  | true =>
   subst hp
   simp only [Bool.true_or] at hq
   simp only [SXa, reduceCtorEq, Nat.reduceEqDiff, call28, t0, t1, t2, ww]
   obtain ⟨r5, S5, e5, w5, g5⟩ := ih (by omega) true z (by omega) S6 l hB6.fresh hl6 ho6
   refine callK_of e5 ?_
   have hB5 := hB6.two g5
   have hN5 := g5.objs hN6 hn6 (by omega)
   have hn5 : S.no < S5.no := Nat.lt_of_lt_of_le hn6 g5.no
   cases hw : walkF t.nodes t.types d true z with
   | none =>
    rw [hw] at w5 hq
    simp only [Walked] at w5
    subst w5
    simp only [SXa, Nat.reduceEqDiff]
    exact ⟨by rw [← hq]; rfl, hB5⟩
   | some z1 =>
    rw [hw] at w5 hq
    obtain ⟨rfl, ho5⟩ := w5
    have hz1 := (walk_bd _ _ _ _ _ _ hw).2
    simp only [SXa, reduceCtorEq, Nat.reduceEqDiff, t0, t1, t2, t8, t57, t58, t59, wi]
    exact ⟨t.nodes[a].kids.length - (i + 1), by omega, i + 1, z1, by omega, rfl, hz1, hq, ho5, hN5, hB5, hn5, by simp []⟩
  | false =>
   subst hp
   simp only [Bool.false_or] at hq
   cases c7 : (t.nodes[a].kind == 11) with
   | false =>
    rw [c7, Bool.false_and] at hq
    simp only [SXa, reduceCtorEq, Nat.reduceEqDiff, load3, call28, t0, t1, t2, t8, ww, load_pb, hN6, fldN, fld_p, Option.bind_some, Nat.add_zero, c7]
    obtain ⟨r5, S5, e5, w5, g5⟩ := ih (by omega) false z (by omega) S6 l hB6.fresh hl6 ho6
    refine callK_of e5 ?_
    have hB5 := hB6.two g5
    have hN5 := g5.objs hN6 hn6 (by omega)
    have hn5 : S.no < S5.no := Nat.lt_of_lt_of_le hn6 g5.no
    cases hw : walkF t.nodes t.types d false z with
    | none =>
     rw [hw] at w5 hq
     simp only [Walked] at w5
     subst w5
     simp only [SXa, Nat.reduceEqDiff]
     exact ⟨by rw [← hq]; rfl, hB5⟩
    | some z1 =>
     rw [hw] at w5 hq
     obtain ⟨rfl, ho5⟩ := w5
     have hz1 := (walk_bd _ _ _ _ _ _ hw).2
     simp only [SXa, reduceCtorEq, Nat.reduceEqDiff, t0, t1, t2, t8, t57, t58, t59, wi]
     exact ⟨t.nodes[a].kids.length - (i + 1), by omega, i + 1, z1, by omega, rfl, hz1, hq, ho5, hN5, hB5, hn5, by simp []⟩
   | true =>
    rw [c7, Bool.true_and] at hq
    simp only [SXa, reduceCtorEq, Nat.reduceEqDiff, load3, call57, t0, t1, t8, load_pb, hN6, fldN, fld_p, Option.bind_some, Nat.add_zero, c7]
    obtain ⟨S7, e7, g7⟩ := arm_ans ((i : Nat) : Int) S6 hB6.fresh
    refine callK_of e7 ?_
    have ho7 := g7.objs ho6 hl6
    have hN7 := g7.objs hN6 hn6
    have hn7 := Nat.lt_of_lt_of_le hn6 g7.no
    have hl7 := Nat.lt_of_lt_of_le hl6 g7.no
    have hB7 := hB6.two (g7.toB l)
    simp only [SXa, Nat.reduceEqDiff, call28, t2, ww]
    obtain ⟨r5, S5, e5, w5, g5⟩ := ih (by omega) (armF ((i : Nat) : Int)) z (by omega) S7 l hB7.fresh hl7 ho7
    refine callK_of e5 ?_
    have hB5 := hB7.two g5
    have hN5 := g5.objs hN7 hn7 (by omega)
    have hn5 : S.no < S5.no := Nat.lt_of_lt_of_le hn7 g5.no
    cases hw : walkF t.nodes t.types d (armF ((i : Nat) : Int)) z with
    | none =>
     rw [hw] at w5 hq
     simp only [Walked] at w5
     subst w5
     simp only [SXa, Nat.reduceEqDiff]
     exact ⟨by rw [← hq]; rfl, hB5⟩
    | some z1 =>
     rw [hw] at w5 hq
     obtain ⟨rfl, ho5⟩ := w5
     have hz1 := (walk_bd _ _ _ _ _ _ hw).2
     simp only [SXa, reduceCtorEq, Nat.reduceEqDiff, t0, t1, t2, t8, t57, t58, t59, wi]
     exact ⟨t.nodes[a].kids.length - (i + 1), by omega, i + 1, z1, by omega, rfl, hz1, hq, ho5, hN5, hB5, hn5, by simp []⟩
end Go.Proofs.YtmmnkemcplgebaaGreatDoor
end
end

section
section
set_option linter.unusedSimpArgs false
set_option linter.unusedVariables false
set_option maxRecDepth 100000
namespace Go.Abs
section
variable {E : Env} {S : St}
theorem app_empty {t t1 e e1 : TypeId} {agg : Bool} {bytes sz : Nat} {X Y : AV} {xs : List AV} (ht : elIs E t e agg sz bytes = true) (ht1 : E.und t1 = some (.slice e1)) (hx : IsV sz X xs) (hy : IsV sz Y []) : builtinA E false .append [t, t1] [X, Y] S = some (X, S) := by
 unfold elIs at ht
 split at ht
 · rename_i e' de i hd hde hi
   simp only [Bool.and_eq_true, beq_iff_eq] at ht
   obtain ⟨⟨⟨⟨⟨k1, k2⟩, k3⟩, k4⟩, k5⟩, k6⟩ := ht
   have k1 := Nat.eq_of_beq_eq_true k1
   subst k1
   rcases hy with ⟨rfl, _⟩ | ⟨id, rfl⟩ <;> rcases hx with ⟨rfl, _⟩ | ⟨id2, rfl⟩ <;> simp only [builtinA, hd, ht1, hde, hi, appendA, elemsS, elemsOf, appendXs]
 · simp at ht
def Newish (S : St) (r : AV) : Prop := r = nilV ∨ (∃ sz xs, r = .vec 1 sz xs) ∨ ∃ id sz xs, r = .vec id sz xs ∧ S.nid ≤ id
theorem Grow.app2 {S0 : St} {e : TypeId} {sz : Nat} {r : AV} {xs : List AV} (g : Grow S0 S nilV) (hO : OwnV S e sz r xs) (hn : Newish S0 r) : Grow S0 (appS e S r) nilV := by
 have ga := Grow.app g.fresh hO
 refine ⟨Nat.le_trans g.nid ga.nid, fun id hlt _ => ?_, fun id hlt => (ga.ity id (Nat.lt_of_lt_of_le hlt g.nid)).trans (g.ity id hlt), Nat.le_trans g.no ga.no, fun l hl' => (ga.obj l (Nat.lt_of_lt_of_le hl' g.no)).trans (g.obj l hl'), ga.fresh, fun l hl' => (ga.ver l (Nat.lt_of_lt_of_le hl' g.no)).trans (g.ver l hl')⟩
 rcases hn with rfl | ⟨sz2, xs2, rfl⟩ | ⟨i2, sz2, xs2, rfl, h2⟩
 · exact (ga.sp id (Nat.lt_of_lt_of_le hlt g.nid) fun sz xs e => by cases e).trans (g.sp id hlt (fun _ _ e => by cases e))
 · exact g.sp id hlt (fun _ _ e => by cases e)
 · exact (ga.sp id (Nat.lt_of_lt_of_le hlt g.nid) fun sz xs e => by cases e; omega).trans (g.sp id hlt (fun _ _ e => by cases e))
end
theorem appS_objX (e : TypeId) (S : St) (X : AV) (l : Nat) : (appS e S X).obj l = S.obj l := by
 unfold appS
 split
 · cases (_ || _) <;> rfl
 · rfl
theorem appS_noX (e : TypeId) (S : St) (X : AV) : (appS e S X).no = S.no := by
 unfold appS
 split
 · cases (_ || _) <;> rfl
 · rfl
theorem app_any {E : Env} {S S0 : St} {t t1 e e1 : TypeId} {agg : Bool} {bytes sz : Nat} {X Y : AV} {xs ys : List AV} (ht : elIs E t e agg sz bytes = true) (ht1 : E.und t1 = some (.slice e1)) (hX : OwnV S e sz X xs) (hN : Newish S0 X) (G : Grow S0 S nilV) (hY : IsV sz Y ys) (hsz : allSz sz ys = true)
 (hb : (xs.length + ys.length) * (bytes + 1) ≤ 2 ^ 46) : ∃ Z S1, builtinA E false .append [t, t1] [X, Y] S = some (Z, S1) ∧ OwnV S1 e sz Z (xs ++ ys) ∧ Newish S0 Z ∧ Grow S0 S1 nilV ∧ S1.no = S.no ∧ (∀ l, S1.obj l = S.obj l) ∧ Grow S S1 X := by
 by_cases hne : ys = []
 · subst hne
   rw [List.append_nil]
   exact ⟨X, S, app_empty ht ht1 hX.is hY, hX, hN, G, rfl, fun _ => rfl, Grow.refl G.fresh _⟩
 · exact ⟨_, _, app_own ht ht1 G.fresh hX hY hne hsz hb, appS_own G.fresh hX, .inr (.inr ⟨_, _, _, rfl, G.nid⟩), G.app2 hX hN, appS_noX _ _ _, appS_objX _ _ _, Grow.app G.fresh hX⟩
theorem OwnV.keep {S S' : St} {e : TypeId} {sz : Nat} {x : AV} {xs : List AV} (h : OwnV S e sz x xs) (g : Grow S S' nilV) : OwnV S' e sz x xs := h.grow g (fun _ _ _ _ _ _ e => by cases e)
theorem OwnV.nil' (S : St) (e : TypeId) (sz : Nat) : OwnV S e sz nilV [] := .inl ⟨rfl, rfl⟩
end Go.Abs
end
end

section
section
set_option linter.unusedSimpArgs false
set_option linter.unusedVariables false
set_option maxRecDepth 100000
namespace Go.Proofs.YtmmnkemcplgebaaGreatDoor
open Go.Abs
theorem allSz_strs : ∀ l : List ByteArray, allSz 1 (strsA l) = true
 | [] => rfl
 | s :: l => by simp only [strsA, List.map_cons, allSz, Bool.and_eq_true]; exact ⟨rfl, allSz_strs l⟩
theorem strsA_app (a b : List ByteArray) : strsA a ++ strsA b = strsA (a ++ b) := by simp [strsA]
theorem bsl1 (a : ByteArray) (S : St) : buildSliceA E 31 1 [(0, .sc (.string a))] S = some (.vec 1 1 [.sc (.string a)], S) := by kernel_rfl
theorem app_strs {S S0 : St} {X Y : AV} {xs ys : List ByteArray} (hX : OwnV S 9 1 X (strsA xs)) (hN : Newish S0 X) (G : Grow S0 S nilV) (hY : IsV 1 Y (strsA ys)) (hb : xs.length + ys.length ≤ 2 ^ 40) :
 ∃ Z S1, builtinA E false .append [31, 31] [X, Y] S = some (Z, S1) ∧ OwnV S1 9 1 Z (strsA (xs ++ ys)) ∧ Newish S0 Z ∧ Grow S0 S1 nilV ∧ S1.no = S.no ∧ (∀ l, S1.obj l = S.obj l) ∧ Grow S S1 X := by
 rw [← strsA_app]
 exact app_any el31 und31 hX hN G hY (allSz_strs _) (by rw [strsA_len, strsA_len]; omega)
theorem kid_len {ns : List NodeV} {f : Nat} {d : Nat} {ds : List DeclV} (ih : ∀ p a z, walkF ns ds d p a = some z → (bindsF ns f a).length ≤ z - a) (pat m : Bool) : ∀ (l : List Int) (i nx z : Nat), kidsW (walkF ns ds d) pat m l i nx = some z → (l.flatMap fun k => bindsF ns f k.toNat).length ≤ z - nx
 | [], i, nx, z, h => by simp
 | k :: r, i, nx, z, h => by
  unfold kidsW at h
  cases hb : (k == ((nx : Nat) : Int)) with
  | false => rw [hb] at h; cases h
  | true =>
   rw [hb, cond_true] at h
   have hk : k = ((nx : Nat) : Int) := by simpa using hb
   cases hq : walkF ns ds d (pat || (m && armF ((i : Nat) : Int))) nx with
   | none => rw [hq] at h; cases h
   | some z1 =>
    rw [hq] at h
    have h1 := ih _ _ _ hq
    have h2 := kid_len ih pat m r (i + 1) z1 z h
    have h3 := walk_bd _ _ _ _ _ _ hq
    have h4 := (kidsW_bd (n := ns.length) (walk_bd ns ds d) pat m r (i + 1) z1 z h3.2 h).1
    rw [List.flatMap_cons, List.length_append, hk, Int.toNat_natCast]
    omega
theorem binds_len (ns : List NodeV) (ds : List DeclV) : ∀ (d f : Nat), d ≤ f → ∀ (pat : Bool) (a z : Nat), walkF ns ds d pat a = some z → (bindsF ns f a).length ≤ z - a
 | 0, f, hf, pat, a, z, h => by cases h
 | d + 1, 0, hf, pat, a, z, h => by omega
 | d + 1, f + 1, hf, pat, a, z, h => by
  have hbd := walk_bd _ _ _ _ _ _ h
  unfold walkF at h
  cases hx : ns[a]? with
  | none => rw [hx] at h; cases h
  | some x =>
   rw [hx] at h
   simp only [cond_eq_ite] at h
   split at h
   · cases h
   · unfold bindsF
     rw [hx]
     simp only [cond_eq_ite]
     split
     · simp only [List.length_cons, List.length_nil]; omega
     · split
       · have := kid_len (binds_len ns ds d f (by omega)) pat (x.kind == 11) x.kids 0 (a + 1) z h
         omega
       · simp
set_option maxHeartbeats 16000000 in
theorem binds_ok (t : TreeV) (nx tx : AV) (ht : TreeIs nx tx t) : ∀ (d f : Nat), d ≤ f → ∀ (pat : Bool) (a z : Nat), walkF t.nodes t.types d pat a = some z → ∀ (S : St), S.Fresh →
 ∃ r S', EvA E 31 [.agg [nx, tx], .sc (.int .i64 (a : Nat))] S r S' ∧ (OwnV S' 9 1 r (strsA (bindsF t.nodes f a)) ∧ Newish S r) ∧ Grow S S' nilV
 | 0, f, hf, pat, a, z, h, S, hS => by cases h
 | d + 1, 0, hf, pat, a, z, h, S, hS => by omega
 | d + 1, f + 1, hf, pat, a, z, h, S, hS => by
  have hbd := walk_bd _ _ _ _ _ _ h
  have hlt : a < t.nodes.length := by omega
  have hx : t.nodes[a]? = some t.nodes[a] := List.getElem?_eq_getElem hlt
  have hkl := ht.lk _ (List.getElem_mem hlt)
  have hw : kidsW (walkF t.nodes t.types d) pat (t.nodes[a].kind == 11) t.nodes[a].kids 0 (a + 1) = some z := by
   unfold walkF at h
   rw [hx] at h
   simp only [cond_eq_ite] at h
   split at h
   · cases h
   · exact h
  have eb : bindsF t.nodes (f + 1) a = bif t.nodes[a].kind == 22 then [t.nodes[a].name] else bif t.nodes[a].kind == 26 then t.nodes[a].kids.flatMap fun k => bindsF t.nodes f k.toNat else [] := by
   rw [bindsF, hx]
  rw [eb]
  refine ev31 rfl ?_
  have hb1 := (Grow.refl hS nilV).born 25 [nx, tx]
  have hT1 : (S.born 25 [nx, tx]).obj S.no = some [nx, tx] := by simp [born_obj]
  have hn1 : S.no < (S.born 25 [nx, tx]).no := Nat.lt_succ_self _
  simp only [SXa, reduceCtorEq, Nat.reduceAdd, r31_0, r31_1, r31_2, r31_3, r31_4, r31_5, r31_6, r31_12, p31, op_box, cells_agg]
  generalize S.born 25 [nx, tx] = S1 at hb1 hT1 hn1
  have hb2 := (hb1.born 30 zN).put S1.no (.cells (nodeA t.nodes[a])) hb1.no
  have hN2 : ((S1.born 30 zN).put S1.no (.cells (nodeA t.nodes[a]))).obj S1.no = some (nodeA t.nodes[a]) := by simp [put_obj]
  have hT2 : ((S1.born 30 zN).put S1.no (.cells (nodeA t.nodes[a]))).obj S.no = some [nx, tx] := by
   have : S.no ≠ S1.no := by omega
   simp [put_obj, born_obj, this, hT1]
  have hn2 : S1.no < ((S1.born 30 zN).put S1.no (.cells (nodeA t.nodes[a]))).no := Nat.lt_succ_self _
  simp only [SXa, reduceCtorEq, Nat.reduceEqDiff, load22, index22, load30, store30, fldT0, fld_p, load_pb, hT1, Option.bind_some, Nat.zero_add, Nat.add_zero, idxN ht.nodes hlt, nodeA_len, nodeA_take, allocN, stN, born_obj, zN_len, zN_drop, List.append_nil, Nat.le_refl]
  generalize (S1.born 30 zN).put S1.no (.cells (nodeA t.nodes[a])) = S2 at hb2 hN2 hT2 hn2
  simp only [nodeA] at hN2
  simp only [SXa, reduceCtorEq, Nat.reduceEqDiff, load3, load_pb, hN2, fldN, fld_p, Option.bind_some, Nat.add_zero]
  cases c1 : (t.nodes[a].kind == 22) with
  | true =>
   simp only [SXa, reduceCtorEq, Nat.reduceEqDiff, Nat.reduceBEq, load9, bs31, load_pb, hN2, fldN, fld_p, Option.bind_some, Nat.zero_add, bsl1]
   exact ⟨⟨.inr ⟨1, rfl, .inl rfl⟩, .inr (.inl ⟨_, _, rfl⟩)⟩, hb2⟩
  | false =>
  simp only [SXa, reduceCtorEq, Nat.reduceEqDiff, load3, load_pb, hN2, fldN, fld_p, Option.bind_some, Nat.add_zero]
  cases c2 : (t.nodes[a].kind == 26) with
  | false =>
   simp only [SXa, reduceCtorEq, Nat.reduceEqDiff]
   exact ⟨⟨OwnV.nil' _ _ _, .inl rfl⟩, hb2⟩
  | true =>
  simp only [SXa, reduceCtorEq, Nat.reduceEqDiff, load28, len28, load_pb, hN2, fldN, fld_p, Option.bind_some, Nat.zero_add, lenK]
  refine e_loop (fun tm S' N => ∃ (i q : Nat) (X : AV) (ws : List ByteArray), i ≤ t.nodes[a].kids.length ∧ N = t.nodes[a].kids.length - i ∧ kidsW (walkF t.nodes t.types d) pat (t.nodes[a].kind == 11) (t.nodes[a].kids.drop i) i q = some z ∧ q ≤ t.nodes.length ∧ ws.length ≤ q ∧
   ws ++ ((t.nodes[a].kids.drop i).flatMap fun k => bindsF t.nodes f k.toNat) = (t.nodes[a].kids.flatMap fun k => bindsF t.nodes f k.toNat) ∧ OwnV S' 9 1 X (strsA ws) ∧ Newish S X ∧
   S'.obj S.no = some [nx, tx] ∧ Grow S S' nilV ∧ S.no < S'.no ∧ getT tm 2 = .ptr S.no 0 ∧ getT tm 6 = X ∧ getT tm 24 = (kidsA t.nodes[a]) ∧ getT tm 25 = .sc (.int .i64 (t.nodes[a].kids.length : Nat)) ∧ getT tm 26 = .sc (.int .i64 (i : Int))) t.nodes[a].kids.length
   ⟨0, a + 1, nilV, [], by omega, by omega, by rw [List.drop_zero]; exact hw, by omega, by simp, by simp, OwnV.nil' _ _ _, .inl rfl, hT2, hb2, by omega, by simp [getT_setD]⟩ ?_
  rintro tm S3 N ⟨i, q, X, ws, hi, rfl, hq, hqn, hwl, hfl, hX, hNw, hT3, hb3, hn3, t2, t6, t24, t25, t26⟩
  have hln := ht.ln
  by_cases hit : i < t.nodes[a].kids.length
  case neg =>
   have hie : i = t.nodes[a].kids.length := by omega
   rw [hie, List.drop_length] at hfl
   simp only [List.flatMap_nil, List.append_nil] at hfl
   simp only [SXa, Nat.reduceEqDiff, b31_11, r31_7, r31_8, r31_9, r31_10, t6, t25, t26, dec_nlt hit]
   rw [← hfl]
   exact ⟨⟨hX, hNw⟩, hb3⟩
  case pos =>
  have wi := wrapK hit (by omega)
  rw [kidsW_drop _ _ _ hit] at hq
  cases c6 : (t.nodes[a].kids[i] == ((q : Nat) : Int)) with
  | false => rw [c6] at hq; cases hq
  | true =>
  rw [c6, cond_true] at hq
  have hk : t.nodes[a].kids[i] = ((q : Nat) : Int) := by simpa using c6
  cases hw2 : walkF t.nodes t.types d (pat || (t.nodes[a].kind == 11 && armF ((i : Nat) : Int))) q with
  | none => rw [hw2] at hq; cases hq
  | some q1 =>
  rw [hw2] at hq
  have hbq := walk_bd _ _ _ _ _ _ hw2
  have hlq := binds_len _ _ d f (by omega) _ _ _ hw2
  obtain ⟨r4, S4, e4, ⟨hY, _⟩, g4⟩ := binds_ok t nx tx ht d f (by omega) _ q q1 hw2 S3 hb3.fresh
  have hT4 := g4.objs hT3 hn3
  have hb4 := hb3.two g4
  have hn4 := Nat.lt_of_lt_of_le hn3 g4.no
  obtain ⟨Z, S5, ap, hZ, hNZ, hb5, no5, ob5, _⟩ := app_strs (hX.keep g4) hNw hb4 hY.is (by omega)
  rw [List.drop_eq_getElem_cons hit, List.flatMap_cons, hk, Int.toNat_natCast, ← List.append_assoc] at hfl
  simp only [SXa, Nat.reduceEqDiff, Nat.reduceAdd, load3, load25, index28, call31, b31_11, r31_7, r31_8, r31_9, r31_10, t2, t6, t24, t25, t26, dec_lt hit, idxI hit, hk, load_pb, hT3, Option.bind_some, Nat.zero_add, Nat.le_refl]
  refine callK_of e4 ?_
  simp only [SXa, Nat.reduceEqDiff, Nat.reduceBEq, app31, t2, t6, t24, t25, t26, wi, ap]
  exact ⟨t.nodes[a].kids.length - (i + 1), by omega, i + 1, q1, Z, ws ++ bindsF t.nodes f q, by omega, rfl, hq, hbq.2, by rw [List.length_append]; omega, hfl, hZ, hNZ, by rw [ob5]; exact hT4, hb5, by rw [no5]; exact hn4, by simp []⟩
end Go.Proofs.YtmmnkemcplgebaaGreatDoor
end
end
