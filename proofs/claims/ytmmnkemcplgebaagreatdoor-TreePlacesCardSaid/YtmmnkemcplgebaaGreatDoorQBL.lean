/-
  Trees: the walk of show (a node as a text).
  Trees: the walk of show, whole.
  A strings.Builder in the calculus: WriteString, String.
-/
import Derived.Test.YtmmnkemcplgebaaGreatDoorQBK
section
section
set_option linter.unusedSimpArgs false
set_option linter.unusedVariables false
set_option maxRecDepth 100000
namespace Go.Proofs.YtmmnkemcplgebaaGreatDoor
open Go.Abs
theorem fmt_ans (n : Int) (h1 : -9223372036854775808 ≤ n) (h2 : n ≤ 9223372036854775807) : Ans E 65 [.sc (.int .i64 n), .sc (.int .i64 10)] (.sc (.string (digitsF n))) := fun S hS => ⟨S, ev_x (E := E) (f := 65) (fn := Tryz.f65) (g := pureX fmtF) (by kernel_rfl) rfl (by
 have e : decide ((10 : Int) = 10) = true := rfl
 simp only [pureX, fmtF, decide_eq_true h1, decide_eq_true h2, Bool.and_self]; rfl), Grow.refl hS _⟩
theorem fbool_ans (b : Bool) : Ans E 89 [.sc (.bool b)] (.sc (.string (bif b then (⟨#[116, 114, 117, 101]⟩ : ByteArray) else (⟨#[102, 97, 108, 115, 101]⟩ : ByteArray)))) := ans_of fun S hS => by
 refine ev89 rfl ?_
 simp only [SXa, reduceCtorEq, Nat.reduceEqDiff, Nat.reduceAdd, r89_0, r89_1, r89_2, r89_3, p89]
 cases b
 · simp only [SXa, reduceCtorEq, Nat.reduceEqDiff]
   exact Grow.refl hS _
 · simp only [SXa, reduceCtorEq, Nat.reduceEqDiff]
   exact Grow.refl hS _
theorem bool_ans (b : Bool) : Ans E 66 [.sc (.bool b)] (.sc (.string (bif b then (⟨#[116, 114, 117, 101]⟩ : ByteArray) else (⟨#[102, 97, 108, 115, 101]⟩ : ByteArray)))) := ans_of fun S hS => by
 refine ev66 rfl ?_
 simp only [SXa, reduceCtorEq, Nat.reduceEqDiff, Nat.reduceAdd, call89, r66_0, r66_1, p66]
 refine callK_ans (fbool_ans b) (Grow.refl hS _) (fun S2 g2 hG2 => ?_)
 simp only [SXa, reduceCtorEq, Nat.reduceEqDiff]
 exact hG2
def leafF (x : NodeV) : Bool := x.kind == 1 || x.kind == 23 || x.kind == 2 || x.kind == 24 || x.kind == 3 || x.kind == 25 || x.kind == 4 || x.kind == 22 || x.kind == 21 || x.kind == 18 || x.kind == 5 || x.kind == 26
theorem fits_of {ds : List DeclV} {x : NodeV} (h : aloneF ds x = true) (hl : leafF x = false) : fitsF x x.kids.length := by
 unfold aloneF at h
 simp only [cond_eq_ite] at h
 split at h
 · cases h
 · rename_i h1
   split at h
   · cases h
   · rename_i h2
     simp only [Bool.or_eq_true, decide_eq_true_eq, not_or, Bool.not_eq_true'] at h1
     obtain ⟨⟨⟨h1, h3⟩, _⟩, _⟩ := h1
     have hk : x.kind = 1 ∨ x.kind = 2 ∨ x.kind = 3 ∨ x.kind = 4 ∨ x.kind = 5 ∨ x.kind = 6 ∨ x.kind = 7 ∨ x.kind = 8 ∨ x.kind = 9 ∨ x.kind = 10 ∨ x.kind = 11 ∨ x.kind = 12 ∨ x.kind = 13 ∨ x.kind = 14 ∨ x.kind = 15 ∨ x.kind = 16 ∨ x.kind = 17 ∨ x.kind = 18 ∨ x.kind = 19 ∨ x.kind = 20 ∨ x.kind = 21 ∨ x.kind = 22 ∨ x.kind = 23 ∨ x.kind = 24 ∨ x.kind = 25 ∨ x.kind = 26 := by omega
     clear h h1 h3
     have e : ((x.kids.length : Nat) : Int).tmod 2 = ((x.kids.length % 2 : Nat) : Int) := rfl
     rcases hk with hk | hk | hk | hk | hk | hk | hk | hk | hk | hk | hk | hk | hk | hk | hk | hk | hk | hk | hk | hk | hk | hk | hk | hk | hk | hk
     all_goals first
      | (simp only [leafF, hk, Int.reduceBEq, Bool.or_true, Bool.true_or, reduceCtorEq] at hl; done)
      | (simp only [kidsF, armF, hk, Int.reduceBEq, Bool.or_true, Bool.or_false, Bool.false_and, Bool.true_and, cond_true, cond_false, Bool.or_eq_true, decide_eq_true_eq, Bool.not_eq_true', beq_eq_false_iff_ne, e, not_or, ne_eq, Decidable.not_not] at h2
         unfold fitsF
         omega)
theorem showN_not {ns : List NodeV} {x : NodeV} {k : List ByteArray} (h : leafF x = false) : showN ns x k = ((⟨#[40]⟩ : ByteArray) ++ innerF x (brk ns x k)) ++ (⟨#[41]⟩ : ByteArray) := by
 unfold leafF at h
 simp only [Bool.or_eq_false_iff] at h
 unfold showN
 simp only [h, Bool.or_self, cond_false]
theorem bare_eq {ns : List NodeV} {x : NodeV} {q : Nat} (h0 : 0 < x.kids.length) (h : x.kids[0] = ((q : Nat) : Int)) (hq : q < ns.length) : bareF ns x = (x.kind == 7 && (ns[q].kind == 5 && ((ns[q].kids.length : Nat) : Int) == 0)) := by
 have e : x.kids.getD 0 0 = ((q : Nat) : Int) := by rw [← h]; simp [List.getD, h0]
 simp only [bareF, e, Int.toNat_natCast, List.getElem?_eq_getElem hq]
set_option maxHeartbeats 32000000 in
theorem show_rest (t : TreeV) (nx tx X : AV) (ht : TreeIs nx tx t) (x : NodeV) (ks : List ByteArray) (p m b : Nat) (S S5 : St) (tm : PM AV) (hleaf : leafF x = false) (hfit : fitsF x ks.length) (hkl : ks.length = x.kids.length) (hl : ks.length ≤ 1000)
 (hq : ∀ h : 0 < x.kids.length, ∃ q : Nat, x.kids[0] = ((q : Nat) : Int) ∧ q < t.nodes.length) (hn : x.name.size ≤ 1000) (hp : x.param.size ≤ 1000) (hs : sumF ks ≤ 90000) (hM : MutS b S5 X ks) (hT : S5.obj p = some [nx, tx]) (hN : S5.obj m = some (nodeA x)) (hpb : p < b) (hmb : m < b) (hbS : b ≤ S5.no) (hSb : S.no ≤ b) (hG : Grow S S5 nilV)
 (t2 : getT tm 2 = .ptr p 0) (t5 : getT tm 5 = .ptr m 0) (t6 : getT tm 6 = X) :
 EndsA E 102 [.c (.seq (.seq (.regD 28 r40_29) (.cond (.tmp 89) (.reg r40_30) .skip)) (.seq (.reg r40_31) .ret))] .nrm tm S5 (RetQ E [.tmp 4] fun r S' => r = .sc (.string (showN t.nodes x ks)) ∧ Grow S S' nilV) := by
 rw [showN_not hleaf]
 have gr := Grow.raise hG.fresh 28 nilV
 have hG6 := hG.two gr
 have hM6 := hM.grow gr
 have hN' := hN
 simp only [nodeA] at hN
 have hb1 := brk_le t.nodes x ks
 have hb2 := brk_len t.nodes x ks
 have h0 : 0 < ks.length := by
  rcases hfit with ⟨_, h⟩ | ⟨_, h⟩ | ⟨_, h⟩ | ⟨_, h, _⟩ <;> omega
 obtain ⟨q, hq1, hq2⟩ := hq (by omega)
 have hbare := bare_eq (by omega) hq1 hq2
 have il := inner_le x (brk t.nodes x ks)
 have a1 : ((⟨#[40]⟩ : ByteArray)).size + (innerF x (brk t.nodes x ks)).size ≤ 2 ^ 62 := by simp only [sz_lit, List.length_cons, List.length_nil]; omega
 have a2 : ((⟨#[40]⟩ : ByteArray) ++ innerF x (brk t.nodes x ks)).size + ((⟨#[41]⟩ : ByteArray)).size ≤ 2 ^ 62 := by simp only [ByteArray.size_append, sz_lit, List.length_cons, List.length_nil]; omega
 cases c7 : (x.kind == 7) with
 | false =>
  rw [c7, Bool.false_and] at hbare
  have hbk : brk t.nodes x ks = ks := by simp only [brk, hbare, cond_false]
  rw [hbk] at a1 a2 ⊢
  obtain ⟨r, S7, e7, rfl, g7⟩ := inner_ok x ks X (S5.raise 28) hG6.fresh hM6.rd hfit hl hn hp (by omega)
  simp only [SXa, Nat.reduceEqDiff, Nat.reduceAdd, load3, load30, call68, r40_29, r40_30, r40_31, t5, t6, load_pb, raise_obj, hN, fldN, fld_p, c7, Option.bind_some, Nat.add_zero, Nat.zero_add, Nat.le_refl]
  refine callK_of e7 ?_
  simp only [SXa, Nat.reduceEqDiff, b_addstr _ _ _ _ _ a1, b_addstr _ _ _ _ _ a2]
  exact hG6.two g7
 | true =>
 rw [c7, Bool.true_and] at hbare
 have i0 : ∀ S1, idxV 1 (kidsA x) (some 0) S1 = some (.eptr [.sc (.int .i64 ((q : Nat) : Int))] 0, S1) := fun S1 => by rw [← hq1]; exact idxI (k := 0) (by omega) S1
 cases c5 : (t.nodes[q].kind == 5) with
 | false =>
  rw [c5, Bool.false_and] at hbare
  have hbk : brk t.nodes x ks = ks := by simp only [brk, hbare, cond_false]
  rw [hbk] at a1 a2 ⊢
  obtain ⟨r, S7, e7, rfl, g7⟩ := inner_ok x ks X (S5.raise 28) hG6.fresh hM6.rd hfit hl hn hp (by omega)
  simp only [SXa, Nat.reduceEqDiff, Nat.reduceAdd, load3, load22, index22, load28, index28, load30, call68, r40_29, r40_30, r40_31, t2, t5, t6, load_pb, raise_obj, hN, hT, fldN, fldT0, fld_p, fld_e, c7, Option.bind_some, Nat.add_zero, Nat.zero_add, Nat.le_refl, i0, idxN ht.nodes hq2, nodeA, c5]
  refine callK_of e7 ?_
  simp only [SXa, Nat.reduceEqDiff, b_addstr _ _ _ _ _ a1, b_addstr _ _ _ _ _ a2]
  exact hG6.two g7
 | true =>
 rw [c5, Bool.true_and] at hbare
 cases cl : (((t.nodes[q].kids.length : Nat) : Int) == 0) with
 | false =>
  rw [cl] at hbare
  have hbk : brk t.nodes x ks = ks := by simp only [brk, hbare, cond_false]
  rw [hbk] at a1 a2 ⊢
  obtain ⟨r, S7, e7, rfl, g7⟩ := inner_ok x ks X (S5.raise 28) hG6.fresh hM6.rd hfit hl hn hp (by omega)
  simp only [SXa, Nat.reduceEqDiff, Nat.reduceAdd, load3, load22, index22, load28, index28, len28, load30, call68, r40_29, r40_30, r40_31, t2, t5, t6, load_pb, raise_obj, hN, hT, fldN, fldT0, fld_p, fld_e, c7, Option.bind_some, Nat.add_zero, Nat.zero_add, Nat.le_refl, i0, idxN ht.nodes hq2, nodeA, c5, lenK, cl]
  refine callK_of e7 ?_
  simp only [SXa, Nat.reduceEqDiff, b_addstr _ _ _ _ _ a1, b_addstr _ _ _ _ _ a2]
  exact hG6.two g7
 | true =>
  rw [cl] at hbare
  have hbk : brk t.nodes x ks = ks.set 0 (((⟨#[40]⟩ : ByteArray) ++ kd ks 0) ++ (⟨#[41]⟩ : ByteArray)) := by simp only [brk, hbare, cond_true]
  rw [hbk] at a1 a2 hb1 hb2 ⊢
  obtain ⟨P, p1, p2, _⟩ := hM6.rd.idx h0
  rw [← kd_get h0] at p2
  have m0 := p2 _ hM6.rd
  have p1 : ∀ S1, idxV 1 X (some 0) S1 = some (P, S1) := p1
  obtain ⟨Q, S8, q1, st, hM8, no8, gr8, ob8⟩ := hM6.set0 h0 (((⟨#[40]⟩ : ByteArray) ++ kd ks 0) ++ (⟨#[41]⟩ : ByteArray))
  obtain rfl : P = Q := by
   have := (p1 S5).symm.trans (q1 S5)
   simp only [Option.some.injEq, Prod.mk.injEq, and_true] at this
   exact this
  have hG8 := gr8 S hG6 hSb
  have hN8 : S8.obj m = some (nodeA x) := by rw [ob8 m hmb]; exact hN'
  have z0 : (kd ks 0).size + (kd ks 1).size + (kd ks 2).size ≤ 90000 := Nat.le_trans (kd_sum ks) hs
  have b1 : ((⟨#[40]⟩ : ByteArray)).size + (kd ks 0).size ≤ 2 ^ 62 := by simp only [sz_lit, List.length_cons, List.length_nil]; omega
  have b2 : ((⟨#[40]⟩ : ByteArray) ++ kd ks 0).size + ((⟨#[41]⟩ : ByteArray)).size ≤ 2 ^ 62 := by simp only [ByteArray.size_append, sz_lit, List.length_cons, List.length_nil]; omega
  obtain ⟨r, S7, e7, rfl, g7⟩ := inner_ok x _ X S8 hG8.fresh hM8.rd (by rw [List.length_set]; exact hfit) (by rw [List.length_set]; exact hl) hn hp (by omega)
  simp only [SXa, Nat.reduceEqDiff, load3, load9, store9, load22, index22, load28, index28, len28, load30, index31, r40_29, r40_30, r40_31, t2, t5, t6, load_pb, raise_obj, hN, hT, fldN, fldT0, fld_p, fld_e, c7, Option.bind_some, Nat.add_zero, Nat.zero_add, i0, idxN ht.nodes hq2, nodeA, c5, lenK, cl, p1, m0, b_addstr _ _ _ _ _ b1, b_addstr _ _ _ _ _ b2, st]
  simp only [SXa, Nat.reduceEqDiff, call68, t6, hN8, Option.bind_some, Nat.le_refl, nodeA_len, nodeA_take]
  refine callK_of e7 ?_
  simp only [SXa, Nat.reduceEqDiff, b_addstr _ _ _ _ _ a1, b_addstr _ _ _ _ _ a2]
  exact hG8.two g7
end Go.Proofs.YtmmnkemcplgebaaGreatDoor
end
end

section
section
set_option linter.unusedSimpArgs false
set_option linter.unusedVariables false
set_option maxRecDepth 100000
namespace Go.Proofs.YtmmnkemcplgebaaGreatDoor
open Go.Abs
structure ShowOk (t : TreeV) : Prop where
 nm : ∀ x ∈ t.nodes, x.name.size ≤ 60 ∧ x.param.size ≤ 60 ∧ -9223372036854775808 ≤ x.n ∧ x.n ≤ 9223372036854775807
 ln : t.nodes.length ≤ 100
 lk : ∀ x ∈ t.nodes, x.kids.length ≤ 100
theorem leaf_or (x : NodeV) : x.kind = 1 ∨ x.kind = 23 ∨ x.kind = 2 ∨ x.kind = 24 ∨ x.kind = 3 ∨ x.kind = 25 ∨ x.kind = 4 ∨ x.kind = 22 ∨ x.kind = 21 ∨ x.kind = 18 ∨ x.kind = 5 ∨ x.kind = 26 ∨ leafF x = false := by
 cases h : leafF x with
 | false => simp
 | true =>
  unfold leafF at h
  simp only [Bool.or_eq_true, beq_iff_eq] at h
  omega
theorem walk_alone {ns : List NodeV} {ds : List DeclV} {d : Nat} {pat : Bool} {a z : Nat} (h : walkF ns ds (d + 1) pat a = some z) (hlt : a < ns.length) : aloneF ds ns[a] = true := by
 have hx : ns[a]? = some ns[a] := List.getElem?_eq_getElem hlt
 unfold walkF at h
 rw [hx] at h
 simp only [cond_eq_ite] at h
 split at h
 · cases h
 · rename_i h2
   simp only [Bool.or_eq_true, Bool.not_eq_true', not_or, Bool.not_eq_false] at h2
   exact h2.2
set_option maxHeartbeats 64000000 in
theorem show_ans (t : TreeV) (nx tx : AV) (ht : TreeIs nx tx t) (ho : ShowOk t) : ∀ (d f : Nat), d ≤ f → d ≤ 100 → ∀ (pat : Bool) (a z : Nat), walkF t.nodes t.types d pat a = some z → Ans E 40 [.agg [nx, tx], .sc (.int .i64 (a : Nat))] (.sc (.string (showF t.nodes f a)))
 | 0, f, hf, hd, pat, a, z, h => by cases h
 | d + 1, 0, hf, hd, pat, a, z, h => by omega
 | d + 1, f + 1, hf, hd, pat, a, z, h => ans_of fun S hS => by
  have hbd := walk_bd _ _ _ _ _ _ h
  have hlt : a < t.nodes.length := by omega
  have hxm := List.getElem_mem hlt
  have hkl := ho.lk _ hxm
  obtain ⟨hnm, hpm, hn1, hn2⟩ := ho.nm _ hxm
  have hw := walk_kids h hlt
  have hal := walk_alone h hlt
  have hln := ho.ln
  have hsum := kids_show (f := f) (show_le t.nodes t.types ho.nm d f (by omega)) pat _ _ 0 (a + 1) z hw
  have eb : showF t.nodes (f + 1) a = showN t.nodes t.nodes[a] (t.nodes[a].kids.map fun k => showF t.nodes f k.toNat) := by
   rw [showF, List.getElem?_eq_getElem hlt]
  rw [eb]
  refine ev40 rfl ?_
  unfold p40
  generalize hTl : (PC.seq (.seq (.regD 28 r40_29) (.cond (.tmp 89) (.reg r40_30) .skip)) (.seq (.reg r40_31) .ret)) = Tl
  have hb1 := (Grow.refl hS nilV).born 25 [nx, tx]
  have hT1 : (S.born 25 [nx, tx]).obj S.no = some [nx, tx] := by simp [born_obj]
  have hno1 : S.no < (S.born 25 [nx, tx]).no := Nat.lt_succ_self _
  simp only [SXa, reduceCtorEq, Nat.reduceAdd, r40_0, r40_1, r40_2, r40_3, r40_9, r40_10, r40_11, r40_12, r40_13, r40_14, r40_15, r40_16, r40_17, r40_18, r40_19, r40_20, r40_21, r40_22, r40_23, r40_24, r40_25, r40_26, r40_27, r40_28, op_box, cells_agg]
  generalize S.born 25 [nx, tx] = S1 at hb1 hT1 hno1
  have hb2 := (hb1.born 30 zN).put S1.no (.cells (nodeA t.nodes[a])) hb1.no
  have hN2 : ((S1.born 30 zN).put S1.no (.cells (nodeA t.nodes[a]))).obj S1.no = some (nodeA t.nodes[a]) := by simp [put_obj]
  have hT2 : ((S1.born 30 zN).put S1.no (.cells (nodeA t.nodes[a]))).obj S.no = some [nx, tx] := by
   have : S.no ≠ S1.no := by omega
   simp [put_obj, born_obj, this, hT1]
  have hno2 : S1.no < ((S1.born 30 zN).put S1.no (.cells (nodeA t.nodes[a]))).no := Nat.lt_succ_self _
  simp only [SXa, reduceCtorEq, Nat.reduceEqDiff, load22, index22, load30, store30, fldT0, fld_p, load_pb, hT1, Option.bind_some, Nat.zero_add, Nat.add_zero, idxN ht.nodes hlt, nodeA_len, nodeA_take, allocN, stN, born_obj, zN_len, zN_drop, List.append_nil, Nat.le_refl]
  generalize (S1.born 30 zN).put S1.no (.cells (nodeA t.nodes[a])) = S2 at hb2 hN2 hT2 hno2
  have hN2' := hN2
  simp only [nodeA] at hN2
  simp only [SXa, reduceCtorEq, Nat.reduceEqDiff, load28, len28, load_pb, hN2, fldN, fld_p, Option.bind_some, Nat.zero_add, lenK]
  refine e_loop (fun tm S' N => ∃ (i q : Nat) (X : AV), i ≤ t.nodes[a].kids.length ∧ N = t.nodes[a].kids.length - i ∧ kidsW (walkF t.nodes t.types d) pat (t.nodes[a].kind == 11) (t.nodes[a].kids.drop i) i q = some z ∧
   MutS S2.no S' X ((t.nodes[a].kids.take i).map fun k => showF t.nodes f k.toNat) ∧ S'.obj S.no = some [nx, tx] ∧ S'.obj S1.no = some (nodeA t.nodes[a]) ∧ Grow S S' nilV ∧ S2.no ≤ S'.no ∧ getT tm 2 = .ptr S.no 0 ∧ getT tm 5 = .ptr S1.no 0 ∧ getT tm 6 = X ∧ getT tm 15 = (kidsA t.nodes[a]) ∧ getT tm 16 = .sc (.int .i64 (t.nodes[a].kids.length : Nat)) ∧ getT tm 17 = .sc (.int .i64 (i : Int))) t.nodes[a].kids.length
   ⟨0, a + 1, nilV, by omega, by omega, by rw [List.drop_zero]; exact hw, .inl ⟨rfl, rfl⟩, hT2, hN2', hb2, Nat.le_refl _, by simp [getT_setD]⟩ ?_
  rintro tm S3 N ⟨i, q, X, hi, rfl, hq, hM, hT3, hN3', hb3, hno3, t2, t5, t6, t15, t16, t17⟩
  have hN3 := hN3'
  simp only [nodeA] at hN3
  by_cases hit : i < t.nodes[a].kids.length
  case pos =>
   have wi := wrapK hit (by omega)
   rw [kidsW_drop _ _ _ hit] at hq
   cases c6 : (t.nodes[a].kids[i] == ((q : Nat) : Int)) with
   | false => rw [c6] at hq; cases hq
   | true =>
   rw [c6, cond_true] at hq
   have hk : t.nodes[a].kids[i] = ((q : Nat) : Int) := by simpa using c6
   cases hw2 : walkF t.nodes t.types d (pat || (t.nodes[a].kind == 11 && armF ((i : Nat) : Int))) q with
   | none => rw [hw2] at hq; cases hq
   | some q1 =>
   rw [hw2] at hq
   obtain ⟨S4, e4, g4⟩ := show_ans t nx tx ht ho d f (by omega) (by omega) _ q q1 hw2 S3 hb3.fresh
   have hM4 := hM.grow g4
   obtain ⟨Y, S5, ap, hM5, no5, gr5, ob5⟩ := hM4.app (Nat.le_trans hno3 g4.no) (by rw [List.length_map, List.length_take]; omega) (showF t.nodes f q)
   have hb5 := gr5 S (hb3.two g4) hb2.no
   have hT5 : S5.obj S.no = some [nx, tx] := by rw [ob5 _ (by omega)]; exact g4.objs hT3 (by omega)
   have hN5 : S5.obj S1.no = some (nodeA t.nodes[a]) := by rw [ob5 _ (by omega)]; exact g4.objs hN3' (by omega)
   have hno5 : S2.no ≤ S5.no := by rw [no5]; have := g4.no; omega
   have etk : (t.nodes[a].kids.take i).map (fun k => showF t.nodes f k.toNat) ++ [showF t.nodes f q] = (t.nodes[a].kids.take (i + 1)).map fun k => showF t.nodes f k.toNat := by
    rw [List.take_succ_eq_append_getElem hit, List.map_append, List.map_cons, List.map_nil, hk, Int.toNat_natCast]
   rw [etk] at hM5
   simp only [SXa, Nat.reduceEqDiff, Nat.reduceAdd, load3, load25, index28, call40, b40_8, r40_4, r40_5, r40_6, r40_7, t2, t6, t15, t16, t17, dec_lt hit, idxI hit, hk, load_pb, hT3, Option.bind_some, Nat.zero_add, Nat.le_refl]
   refine callK_of e4 ?_
   simp only [SXa, Nat.reduceEqDiff, Nat.reduceBEq, bs31, t2, t5, t6, t15, t16, t17, bsl1, app31m, ap, wi]
   exact ⟨t.nodes[a].kids.length - (i + 1), by omega, i + 1, q1, Y, by omega, rfl, hq, hM5, hT5, hN5, hb5, hno5, by simp []⟩
  case neg =>
  have hie : i = t.nodes[a].kids.length := by omega
  rw [hie, List.take_length] at hM
  generalize hks : (t.nodes[a].kids.map fun k => showF t.nodes f k.toNat) = ks at hM hsum ⊢
  have hkn : ks.length = t.nodes[a].kids.length := by rw [← hks, List.length_map]
  rcases leaf_or t.nodes[a] with hk | hk | hk | hk | hk | hk | hk | hk | hk | hk | hk | hk | hleaf
  case inl =>
   simp only [SXa, Nat.reduceEqDiff, Int.reduceBEq, load2, load3, call65, b40_8, r40_4, r40_5, r40_6, r40_7, t5, t16, t17, dec_nlt hit, load_pb, hN3, fldN, fld_p, Option.bind_some, Nat.add_zero, Nat.zero_add, hk]
   refine callK_ans (fmt_ans _ hn1 hn2) hb3 (fun S6 g6 hG6 => ?_)
   simp only [SXa, Nat.reduceEqDiff]
   exact ⟨by simp only [showN, hk, Int.reduceBEq, Bool.true_or, Bool.or_self, cond_true, cond_false], hG6⟩
  case inr.inl =>
   simp only [SXa, Nat.reduceEqDiff, Int.reduceBEq, load2, load3, call65, b40_8, r40_4, r40_5, r40_6, r40_7, t5, t16, t17, dec_nlt hit, load_pb, hN3, fldN, fld_p, Option.bind_some, Nat.add_zero, Nat.zero_add, hk]
   refine callK_ans (fmt_ans _ hn1 hn2) hb3 (fun S6 g6 hG6 => ?_)
   simp only [SXa, Nat.reduceEqDiff]
   exact ⟨by simp only [showN, hk, Int.reduceBEq, Bool.or_true, Bool.or_self, cond_true, cond_false], hG6⟩
  case inr.inr.inl =>
   simp only [SXa, Nat.reduceEqDiff, Int.reduceBEq, load2, load3, call66, b40_8, r40_4, r40_5, r40_6, r40_7, t5, t16, t17, dec_nlt hit, load_pb, hN3, fldN, fld_p, Option.bind_some, Nat.add_zero, Nat.zero_add, hk]
   refine callK_ans (bool_ans (t.nodes[a].n == 1)) hb3 (fun S6 g6 hG6 => ?_)
   simp only [SXa, Nat.reduceEqDiff]
   exact ⟨by simp only [showN, hk, Int.reduceBEq, Bool.true_or, Bool.or_self, cond_true, cond_false], hG6⟩
  case inr.inr.inr.inl =>
   simp only [SXa, Nat.reduceEqDiff, Int.reduceBEq, load2, load3, call66, b40_8, r40_4, r40_5, r40_6, r40_7, t5, t16, t17, dec_nlt hit, load_pb, hN3, fldN, fld_p, Option.bind_some, Nat.add_zero, Nat.zero_add, hk]
   refine callK_ans (bool_ans (t.nodes[a].n == 1)) hb3 (fun S6 g6 hG6 => ?_)
   simp only [SXa, Nat.reduceEqDiff]
   exact ⟨by simp only [showN, hk, Int.reduceBEq, Bool.or_true, Bool.or_self, cond_true, cond_false], hG6⟩
  case inr.inr.inr.inr.inr.inr.inr.inr.inr.inr.inr.inr =>
   have rest := fun tm => show_rest t nx tx X ht t.nodes[a] ks S.no S1.no S2.no S S3 tm hleaf (by rw [hkn]; exact fits_of hal hleaf) hkn (by omega) (fun h0 => by
    obtain ⟨p, q, q1, a1, a2, a3, a4⟩ := kids_get pat _ _ 0 (a + 1) z hw 0 h0
    exact ⟨q, a3, by have := walk_bd _ _ _ _ _ _ a4; omega⟩) (by omega) (by omega) (by omega) hM hT3 hN3' (by omega) (by omega) hno3 hb2.no hb3
   rw [hTl] at rest
   have hl2 := hleaf
   unfold leafF at hl2
   simp only [Bool.or_eq_false_iff] at hl2
   simp only [SXa, Nat.reduceEqDiff, load3, b40_8, r40_4, r40_5, r40_6, r40_7, t5, t16, t17, dec_nlt hit, load_pb, hN3, fldN, fld_p, Option.bind_some, Nat.add_zero, hl2]
   refine rest _ ?_ ?_ ?_
   all_goals simp [getT_setD, t2, t5, t6]
  case inr.inr.inr.inr.inr.inr.inr.inr.inr.inr.inl | inr.inr.inr.inr.inr.inr.inr.inr.inr.inr.inr.inl =>
   obtain ⟨r, S7, e7, rfl, g7⟩ := values_ok t.nodes[a].name ks X S3 hb3.fresh hM.rd (by omega) (by omega) (by omega)
   simp only [SXa, Nat.reduceEqDiff, Int.reduceBEq, load3, load9, call67, b40_8, r40_4, r40_5, r40_6, r40_7, t5, t6, t16, t17, dec_nlt hit, load_pb, hN3, fldN, fld_p, Option.bind_some, Nat.add_zero, Nat.zero_add, hk]
   refine callK_of e7 ?_
   simp only [SXa, Nat.reduceEqDiff]
   exact ⟨by simp only [showN, hk, Int.reduceBEq, Bool.or_true, Bool.true_or, Bool.or_self, cond_true, cond_false], hb3.two g7⟩
  all_goals
   simp only [SXa, Nat.reduceEqDiff, Int.reduceBEq, load3, load9, b40_8, r40_4, r40_5, r40_6, r40_7, t5, t16, t17, dec_nlt hit, load_pb, hN3, fldN, fld_p, Option.bind_some, Nat.add_zero, Nat.zero_add, hk]
   exact ⟨by simp only [showN, hk, Int.reduceBEq, Bool.or_true, Bool.true_or, Bool.or_self, cond_true, cond_false], hb3⟩
end Go.Proofs.YtmmnkemcplgebaaGreatDoor
end
end

section
section
set_option linter.unusedSimpArgs false
set_option linter.unusedVariables false
set_option maxRecDepth 100000
namespace Go.Proofs.YtmmnkemcplgebaaGreatDoor
open Go.Abs
theorem ev_shp {f : FuncId} {args : List AV} {S : St} {r : AV} {S' : St} {x : AV} (h : EvA E f args S r S') (g : Grow S S' x) {l : Nat} (hl : l < S.no) : S'.shp.get l = S.shp.get l := by
 obtain ⟨N, h⟩ := h
 have e := evF_evo noX.evo N N f args S r S' (h N N (Nat.le_refl _) (Nat.le_refl _))
 exact (e.obj l hl (g.ver l hl).symm).2
def BufIs (S : St) (B : AV) (bs : List UInt8) : Prop := (B = nilV ∧ bs = []) ∨ ∃ id, B = .vec id 1 (byteVals bs) ∧ bs ≠ [] ∧ S.live id = true ∧ S.ityIs id 5 = true
structure Bld (S0 S : St) (l : Nat) (bs : List UInt8) : Prop where
 lt : l < S.no
 shp : S.shp.get l = some (76, 2)
 at_ : ∃ A B, S.obj l = some [A, B] ∧ (A = .sc (.pointer none) ∨ A = .ptr l 0) ∧ BufIs S B bs ∧ Newish S0 B
theorem live_lt {S : St} {id : Nat} (h : S.live id = true) : 2 < id := by
 simp only [St.live, Bool.and_eq_true] at h
 exact Nat.le_of_ble_eq_true h.1.1
theorem BufIs.own {S : St} {B : AV} {bs : List UInt8} (h : BufIs S B bs) : OwnV S 5 1 B (byteVals bs) := by
 rcases h with ⟨rfl, rfl⟩ | ⟨id, rfl, _, h1, h2⟩
 · exact .inl ⟨rfl, rfl⟩
 · exact .inr ⟨id, rfl, .inr (.inr ⟨h1, h2⟩)⟩
theorem BufIs.keep {S S' : St} {B : AV} {bs : List UInt8} (h : BufIs S B bs) (g : Grow S S' nilV) : BufIs S' B bs := by
 have ho := h.own.keep g
 rcases h with h | ⟨id, rfl, h0, h1, h2⟩
 · exact .inl h
 · refine .inr ⟨id, rfl, h0, ?_⟩
   have hlt := live_lt h1
   rcases ho with ⟨h, _⟩ | ⟨i, h, h3⟩
   · cases h
   · simp only [AV.vec.injEq, and_true] at h
     obtain rfl := h
     rcases h3 with h3 | h3 | h3
     · omega
     · omega
     · exact h3
theorem Bld.keep {S0 S S' : St} {l : Nat} {bs : List UInt8} (h : Bld S0 S l bs) (g : Grow S S' nilV) (hs : S'.shp.get l = S.shp.get l) : Bld S0 S' l bs := by
 obtain ⟨h1, h2, A, B, h3, h4, h5, h6⟩ := h
 exact ⟨Nat.lt_of_lt_of_le h1 g.no, hs.trans h2, A, B, g.objs h3 h1, h4, h5.keep g, h6⟩
theorem Bld.after {S0 S S' : St} {l : Nat} {bs : List UInt8} (h : Bld S0 S l bs) {f : FuncId} {args : List AV} {r : AV} (he : EvA E f args S r S') (g : Grow S S' nilV) : Bld S0 S' l bs := h.keep g (ev_shp he g h.lt)
theorem allocB {tm : PM AV} {S : St} {d : Option Tmp} : opV E tm d (.alloc 76) S = some (.ptr S.no 0, S.born 76 [.sc (.pointer none), .sc (.slice none 0 0)]) := alloc_of (by kernel_rfl)
theorem fldB0 {tm : PM AV} {S : St} {d : Option Tmp} (x : Operand) : opV E tm d (.fieldAddr 76 x 0) S = fldV 0 (E.ev tm x) S := field_chk 76 0 0 (by kernel_rfl) x
theorem fldB1 {tm : PM AV} {S : St} {d : Option Tmp} (x : Operand) : opV E tm d (.fieldAddr 76 x 1) S = fldV 1 (E.ev tm x) S := field_chk 76 1 1 (by kernel_rfl) x
theorem ev_nilp {tm : PM AV} : E.ev tm (.const (.pointer none)) = .sc (.pointer none) := rfl
theorem undPB : E.und 73 = some (.pointer 76) := by kernel_rfl
theorem undUP : E.und 121 = some .unsafePointer := by kernel_rfl
theorem b_eqnn {S : St} (x y : Operand) : binGen E .eql 73 x y (.sc (.pointer none)) (.sc (.pointer none)) S = some (.sc (.bool true), S) := by kernel_rfl
theorem b_eqpn {S : St} (x y : Operand) (l o : Nat) : binGen E .eql 73 x y (.ptr l o) (.sc (.pointer none)) S = some (.sc (.bool false), S) := by
 have h : conc (.ptr l o) = none := rfl
 simp only [binGen, h, undPB, eqNil, cond_true]
theorem infB : (E.inf 76).isSome = true := by kernel_rfl
theorem b_nepp {S : St} (x y : Operand) (l : Nat) : binGen E .neq 73 x y (.ptr l 0) (.ptr l 0) S = some (.sc (.bool false), S) := by
 have h : conc (.ptr l 0) = none := rfl
 simp only [binGen, h, undPB, eqNil, Nat.beq_refl, infB, Bool.and_self, cond_true, Bool.not_true]
theorem cvU {S : St} (mu : Bool) (l : Nat) {A B : AV} (h : S.obj l = some [A, B]) : convertA E mu 73 121 (.ptr l 0) S = some (.ptr l 0, S) := by
 have h1 : isStrBytes E 73 121 = false := by kernel_rfl
 obtain ⟨i, hi, hs⟩ : ∃ i, E.inf 76 = some i ∧ Nat.blt 0 i.size = true := by
  have h2 : (match E.inf 76 with | some i => Nat.blt 0 i.size | none => false) = true := by kernel_rfl
  cases hq : E.inf 76 with
  | none => rw [hq] at h2; cases h2
  | some i => rw [hq] at h2; exact ⟨i, rfl, h2⟩
 have h3 : Nat.blt 0 2 = true := rfl
 simp only [convertA, h1, cond_false, undPB, undUP, h, hi, hs, List.length_cons, List.length_nil, Nat.zero_add, h3, Bool.and_self, cond_true]
theorem cvP {S : St} (mu : Bool) (l : Nat) {A B : AV} (h : S.obj l = some [A, B]) (hs : S.shp.get l = some (76, 2)) : convertA E mu 121 73 (.ptr l 0) S = some (.ptr l 0, S) := by
 have h1 : isStrBytes E 121 73 = false := by kernel_rfl
 have h3 : Nat.blt 0 2 = true := rfl
 have h4 : liesAt E.P E.P.depth 76 (2 / E.P.cellsOf 76) 0 76 1 = true := by kernel_rfl
 obtain ⟨i, hi⟩ : ∃ i, E.inf 76 = some i := Option.isSome_iff_exists.1 infB
 simp only [convertA, h1, cond_false, undPB, undUP, h, hi, hs, List.length_cons, List.length_nil, Nat.zero_add, h3, h4, Bool.and_self, cond_true]
theorem extN : E.ext 86 = some extSame := by kernel_rfl
theorem copyCheck_ok {S0 S : St} {l : Nat} {bs : List UInt8} (h : Bld S0 S l bs) (hG : Grow S0 S nilV) (hl : S0.no ≤ l) :
 ∃ r S', EvA E 63 [.ptr l 0] S r S' ∧ Bld S0 S' l bs ∧ Grow S0 S' nilV ∧ S'.no = S.no ∧ (∀ k, k ≠ l → S'.obj k = S.obj k) := by
 obtain ⟨h1, h2, A, B, h3, h4, h5, h6⟩ := h
 refine ev63 rfl ?_
 simp only [SXa, reduceCtorEq, Nat.reduceEqDiff, load73, r63_0, r63_1, r63_2, p63, op_nilCheck, chk_p, fldB0, fld_p, load_pb, h3, Option.bind_some, Nat.zero_add, Nat.add_zero]
 rcases h4 with rfl | rfl
 · simp only [SXa, reduceCtorEq, Nat.reduceEqDiff, ev_nilp, b_eqnn, cvU _ l h3]
   rw [e_ext (some 10) 86 _ _ _ extN (v := .ptr l 0) (by simp [extSame, ev_tmp, getT_setD])]
   simp only [SXa, reduceCtorEq, Nat.reduceEqDiff, Nat.reduceAdd, store73, cvP _ l h3 h2, op_nilCheck, chk_p, fldB0, fld_p, Nat.add_zero, store_1 _ _ _ (show cellsOf (.ptr l 0) = some [.ptr l 0] from rfl) (show okCell (.ptr l 0) = true from rfl), h3, Option.bind_some, List.set_cons_zero, Nat.zero_lt_succ]
   have g2 := (Grow.refl hG.fresh nilV)
   refine ⟨⟨h1, h2, .ptr l 0, B, by rw [put_obj, if_pos rfl], .inr rfl, ?_, h6⟩, hG.put l _ hl, rfl, fun k hk => by rw [put_obj, if_neg hk]⟩
   exact h5
 · simp only [SXa, reduceCtorEq, Nat.reduceEqDiff, load73, ev_nilp, b_eqpn, op_nilCheck, chk_p, fldB0, fld_p, load_pb, h3, Option.bind_some, Nat.add_zero, b_nepp]
   refine ⟨⟨h1, h2, .ptr l 0, B, h3, .inr rfl, h5, h6⟩, hG, ?_⟩
   simp
theorem elB : elIs E 74 5 false 1 1 = true := el74
theorem byteVals_app (a b : List UInt8) : byteVals a ++ byteVals b = byteVals (a ++ b) := by simp [byteVals]
theorem byteVals_len (a : List UInt8) : (byteVals a).length = a.length := by simp [byteVals]
theorem appS_live {e : TypeId} {S : St} {X : AV} {xs zs : List AV} {sz : Nat} (hS : S.Fresh) (h : OwnV S e sz X xs) : (appS e S X).live S.nid = true ∧ (appS e S X).ityIs S.nid e = true := by
 have hn := hS.1
 rcases appS_own (zs := zs) hS h with ⟨h, _⟩ | ⟨id, h, h2⟩
 · cases h
 · simp only [AV.vec.injEq, and_true] at h
   obtain rfl := h
   rcases h2 with h2 | h2 | h2
   · omega
   · omega
   · exact h2
theorem appS_shp (e : TypeId) (S : St) (X : AV) : (appS e S X).shp = S.shp := by
 unfold appS
 split
 · cases (_ || _) <;> rfl
 · rfl
theorem wstr_ok {S0 S : St} {l : Nat} {bs : List UInt8} (s : ByteArray) (h : Bld S0 S l bs) (hG : Grow S0 S nilV) (hl : S0.no ≤ l) (hsz : bs.length + s.size ≤ 2 ^ 40) :
 ∃ r S', EvA E 38 [.ptr l 0, .sc (.string s)] S r S' ∧ Bld S0 S' l (bs ++ s.data.toList) ∧ Grow S0 S' nilV ∧ S'.no = S.no ∧ (∀ k, k ≠ l → S'.obj k = S.obj k) := by
 obtain ⟨r1, S1, e1, hB1, hG1, no1, ob1⟩ := copyCheck_ok h hG hl
 obtain ⟨h1, h2, A, B, h3, h4, h5, h6⟩ := hB1
 refine ev38 rfl ?_
 simp only [SXa, reduceCtorEq, Nat.reduceEqDiff, Nat.reduceAdd, call63, r38_0, r38_1, r38_2, r38_3, p38]
 refine callK_of e1 ?_
 have hcase : ∃ Z S2, builtinA E false .append [74, 9] [B, .sc (.string s)] S1 = some (Z, S2) ∧ BufIs S2 Z (bs ++ s.data.toList) ∧ Newish S0 Z ∧ Grow S0 S2 nilV ∧ S2.no = S1.no ∧ (∀ k, S2.obj k = S1.obj k) ∧ S2.shp = S1.shp := by
  by_cases hne : s.data.toList = []
  · refine ⟨B, S1, ?_, by rw [hne, List.append_nil]; exact h5, h6, hG1, rfl, fun _ => rfl, rfl⟩
    have hs : s = ⟨#[]⟩ := by
     obtain ⟨d⟩ := s
     have : d = #[] := by
      apply Array.ext'
      exact hne
     rw [this]
    subst hs
    have ht := elB
    unfold elIs at ht
    split at ht
    · rename_i e' de i hd hde hi
      simp only [Bool.and_eq_true, beq_iff_eq] at ht
      obtain ⟨⟨⟨⟨⟨k1, k2⟩, k3⟩, k4⟩, k5⟩, k6⟩ := ht
      have k1 := Nat.eq_of_beq_eq_true k1
      subst k1
      have hst : E.und 9 = some .string := by kernel_rfl
      rcases h5 with ⟨rfl, _⟩ | ⟨id, rfl, _⟩
      · simp only [builtinA, hd, hst, hi, appendA, elemsS, elemsOf, appendXs]; rfl
      · simp only [builtinA, hd, hst, hi, appendA, elemsS, elemsOf, appendXs]; rfl
    · simp at ht
  · have ho := h5.own
    refine ⟨_, _, app_str elB (by kernel_rfl) hG1.fresh ho hne (by rw [byteVals_len]; have : s.data.toList.length = s.size := (by rw [Array.length_toList]; rfl); omega), ?_, .inr (.inr ⟨_, _, _, rfl, hG1.nid⟩), hG1.app2 ho h6, appS_noX _ _ _, appS_objX _ _ _, appS_shp _ _ _⟩
    rw [byteVals_app]
    exact .inr ⟨_, rfl, by simp [hne], appS_live (zs := []) hG1.fresh ho⟩
 obtain ⟨Z, S2, ap, hZ, hNZ, hG2, no2, ob2, shp2⟩ := hcase
 have h32 : S2.obj l = some [A, B] := by rw [ob2]; exact h3
 obtain ⟨hZc, hZo⟩ : cellsOf Z = some [Z] ∧ okCell Z = true := by
  rcases hZ with ⟨rfl, _⟩ | ⟨id, rfl, _⟩ <;> exact ⟨rfl, rfl⟩
 have hlt1 : 1 < [A, B].length := by simp
 simp only [SXa, reduceCtorEq, Nat.reduceEqDiff, Nat.reduceAdd, load74, store74, app74, op_nilCheck, chk_p, fldB1, fld_p, load_pb, h3, Option.bind_some, Nat.zero_add, ap, store_1 _ _ _ hZc hZo, h32, List.set_cons_succ, List.set_cons_zero, opLen9, len9s, Nat.lt_succ_self]
 refine ⟨⟨by show l < S2.no; rw [no2]; exact h1, by show S2.shp.get l = _; rw [shp2]; exact h2, A, Z, by rw [put_obj, if_pos rfl], h4, hZ, hNZ⟩, hG2.put l _ hl, by show S2.no = _; rw [no2, no1], fun k hk => by rw [put_obj, if_neg hk, ob2, ob1 k hk]⟩
theorem bytesOf_vals : ∀ l : List UInt8, bytesOf? (byteVals l) = some l
 | [] => rfl
 | b :: r => by
  have := bytesOf_vals r
  simp only [byteVals, List.map_cons] at this ⊢
  simp [bytesOf?, this]
theorem bytes_in : ∀ l : List UInt8, (byteVals l).all inByte = true
 | [] => rfl
 | b :: r => by
  have := bytes_in r
  simp only [byteVals, List.map_cons, List.all_cons] at this ⊢
  have h : inByte (.sc (.int .u8 (b.toNat : Int))) = true := by
   have := b.toNat_lt
   simp [inByte]
   omega
  rw [h, this]; rfl
theorem op_usd {tm : PM AV} {S : St} {d : Option Tmp} (x : Operand) (t : TypeId) : opV E tm d (.call (Call.mk (.builtin .unsafeSliceData) #[x] #[t])) S = builtinA E false .unsafeSliceData [t] [E.ev tm x] S := rfl
theorem op_ustr {tm : PM AV} {S : St} {d : Option Tmp} (x y : Operand) (t u : TypeId) : opV E tm d (.call (Call.mk (.builtin .unsafeString) #[x, y] #[t, u])) S = builtinA E false .unsafeString [t, u] [E.ev tm x, E.ev tm y] S := rfl
theorem string_ok {S0 S : St} {l : Nat} {bs : List UInt8} (h : Bld S0 S l bs) (hG : Grow S0 S nilV) (hsz : bs.length ≤ 2 ^ 40) :
 ∃ r S', EvA E 41 [.ptr l 0] S r S' ∧ r = .sc (.string ⟨bs.toArray⟩) ∧ Grow S0 S' nilV := by
 obtain ⟨h1, h2, A, B, h3, h4, h5, h6⟩ := h
 have gr : ∀ n, Grow S (S.raise n) nilV := fun n => Grow.raise hG.fresh n nilV
 refine ev41 rfl ?_
 simp only [SXa, Nat.reduceAdd, r41_0, p41]
 refine e_drawC noX draw41_0 ?_
 have h3' : ∀ n, (S.raise n).obj l = some [A, B] := fun n => h3
 rcases h5 with ⟨rfl, rfl⟩ | ⟨id, rfl, hne, hlv, hity⟩
 · have u1 : ∀ S1, builtinA E false .unsafeSliceData [74] [nilV] S1 = some (.sc (.pointer none), S1) := fun _ => rfl
   have u2 : ∀ S1, builtinA E false .unsafeString [106, 3] [.sc (.pointer none), .sc (.int .i64 ((0 : Nat) : Int))] S1 = some (.sc (.string .empty), S1) := fun _ => rfl
   simp only [SXa, reduceCtorEq, Nat.reduceEqDiff, load74, len74, r41_1, r41_2, op_nilCheck, chk_p, fldB1, fld_p, load_pb, h3', Option.bind_some, Nat.zero_add, op_usd, op_ustr, u1, u2, safe_cons, safe_nil, safe_grow h1 (gr 12), safe_sc, Bool.and_self]
   exact ⟨rfl, hG.two (gr _)⟩
 · have u1 : ∀ S1, builtinA E false .unsafeSliceData [74] [.vec id 1 (byteVals bs)] S1 = some (.udat id (byteVals bs), S1) := fun S1 => by
    have hb : Nat.blt 2 id = true := Nat.ble_eq_true_of_le (live_lt hlv)
    cases hq : byteVals bs with
    | nil => exact absurd hq (by simp [byteVals, hne])
    | cons y ys => simp only [builtinA, hb, Nat.beq_refl, Bool.and_self, cond_true]
   have hcell : Nat.beq (E.P.cellsOf 5) 1 = true := by kernel_rfl
   have hpu : E.und 106 = some (.pointer 5) := by kernel_rfl
   obtain ⟨T, hT, hTe⟩ : ∃ T, S.ity.get id = some T ∧ Nat.beq T 5 = true := by
    unfold St.ityIs at hity
    split at hity
    · rename_i T hT
      exact ⟨T, hT, hity⟩
    · cases hity
   have u2 : ∀ n, builtinA E false .unsafeString [106, 3] [.udat id (byteVals bs), .sc (.int .i64 (bs.length : Nat))] (S.raise n) = some (.sc (.string ⟨bs.toArray⟩), S.raise n) := fun n => by
    have hT' : (S.raise n).ity.get id = some T := hT
    have hd : decide (((bs.length : Nat) : Int) = (((byteVals bs).length : Nat) : Int)) = true := by rw [byteVals_len]; simp
    have hle : Nat.ble (byteVals bs).length (2 ^ 62) = true := Nat.ble_eq_true_of_le (by rw [byteVals_len]; omega)
    simp only [builtinA, hpu, hT', bytesOf_vals, hTe, hcell, hd, bytes_in, hle, Bool.and_self, cond_true]
   simp only [SXa, reduceCtorEq, Nat.reduceEqDiff, load74, len74, r41_1, r41_2, op_nilCheck, chk_p, fldB1, fld_p, load_pb, h3', Option.bind_some, Nat.zero_add, op_usd, op_ustr, u1, u2, safe_cons, safe_nil, safe_grow h1 (gr 12), safe_vec, Bool.and_self]
   exact hG.two (gr _)
end Go.Proofs.YtmmnkemcplgebaaGreatDoor
end
end
