/-
  Words of a text: the walks (one word; is it a name, a constructor?).
  More of the calculus: sets of texts (maps from texts to truths).
  Trees in plain terms, and what the program tells of them.
  Trees: the walks (one node, by itself).
  Trees: the walks (rows of texts).
-/
import Derived.Test.YtmmnkemcplgebaaGreatDoorQBC
import Derived.Test.YtmmnkemcplgebaaGreatDoorQAX
section
section
set_option linter.unusedSimpArgs false
set_option linter.unusedVariables false
set_option maxRecDepth 100000
namespace Go.Proofs.YtmmnkemcplgebaaGreatDoor
open Go.Abs
theorem first_rng (s : ByteArray) : -2147483648 ≤ firstF s ∧ firstF s ≤ 2147483647 := by
 have h2 := Lib.rune_le s 0
 unfold firstF Lib.decodeGo
 split
 · decide
 · constructor <;> omega
theorem class_empty : (classF 65533 == 4) = false := by kernel_rfl
theorem mark_pos (s : ByteArray) (h : (classF (firstF s) == 4) = true) : 0 < s.size := by
 rcases Nat.eq_zero_or_pos s.size with h0 | h0
 · have : firstF s = 65533 := by
    unfold firstF Lib.decodeGo
    rw [if_pos h0]; rfl
   rw [this, class_empty] at h
   cases h
 · exact h0
theorem stWa (l : Nat) (w : WordV) (S : St) : storeC 4 (.ptr l 0) (.agg (wordA w)) S = (S.obj l).bind fun cs => if 4 ≤ cs.length then some (passed, S.put l (.cells (wordA w ++ cs.drop 4))) else none :=
 store_agg 4 l _ rfl
theorem cutW (w : WordV) (cs : List AV) (S : St) (l : Nat) (h : S.obj l = some (wordA w ++ cs)) : loadC true 4 (.ptr l 0) S = some (.agg (wordA w), S) := by
 rw [load_pb, h]
 simp only [Option.bind_some, cut_t, wordA, List.cons_append, List.nil_append, List.length_cons, Nat.zero_add, List.drop_zero, List.take_succ_cons, List.take_zero]
 rw [if_pos (by omega)]
 rfl
set_option maxHeartbeats 8000000 in
theorem word_ans (s : ByteArray) : Ans E 94 [.sc (.string s)] (.agg (wordA (wordF s))) := ans_of fun S hS => by
 refine ev94 rfl ?_
 have hG := (Grow.refl hS nilV).born 133 zW
 have ho : (S.born 133 zW).obj S.no = some zW := by simp [born_obj]
 have hno : S.no < (S.born 133 zW).no := Nat.lt_succ_self _
 obtain ⟨f1, f2⟩ := first_rng s
 simp only [SXa, reduceCtorEq, Nat.reduceEqDiff, Nat.reduceAdd, call115, r94_0, r94_1, r94_2, r94_3, r94_4, r94_5, r94_6, r94_7, r94_8, r94_9, r94_10, r94_11, r94_12, r94_13, p94, allocW]
 generalize S.born 133 zW = S1 at hG ho hno
 refine callK_ans (dec_ans s) hG (fun S2 g2 hG => ?_)
 have ho := g2.objs ho hno
 have hno := Nat.lt_of_lt_of_le hno g2.no
 simp only [SXa, reduceCtorEq, Nat.reduceEqDiff, call116]
 refine callK_ans (class_ans _ f1 f2) hG (fun S3 g3 hG => ?_)
 have ho := g3.objs ho hno
 have hno := Nat.lt_of_lt_of_le hno g3.no
 simp only [zW] at ho
 cases c1 : (classF (firstF s) == 1) with
 | true =>
  cases c5 : (firstF s != 39) with
  | true =>
   simp only [SXa, reduceCtorEq, Nat.reduceEqDiff, call117, c1, c5]
   refine callK_ans (named_ans s) hG (fun S4 g4 hG4 => ?_)
   have ho4 := g4.objs ho hno
   simp only [SXa, reduceCtorEq, Nat.reduceEqDiff, Nat.reduceAdd, store133, stWa, ho4, resW, Option.bind_some, Nat.le_refl, List.drop_nil, List.append_nil]
   rw [cutW (namedF s) [] _ _ (by simp [put_obj])]
   exact ⟨by simp only [wordF, c1, c5, cond_true, pack1], hG4.put S.no _ (Nat.le_refl _)⟩
  | false =>
   simp only [SXa, reduceCtorEq, Nat.reduceEqDiff, Nat.reduceAdd, store133, c1, c5, op_build, bldW0, zW, stW, ho, resW, load_pb, put_obj, Option.bind_some, Nat.le_refl, List.drop_nil]
   exact ⟨by simp only [wordF, c1, c5, cond_true, cond_false, wordA, noWord], hG.put S.no _ (Nat.le_refl _)⟩
 | false =>
 cases c2 : (classF (firstF s) == 2) with
 | true =>
  have hle := runF_le mayDigit s s.size 0 (by omega)
  have hsl := fun S => sliceStr (E := E) isStr9 s (bounds_hi hle) S
  simp only [SXa, reduceCtorEq, Nat.reduceEqDiff, call118, c1, c2]
  refine callK_ans (run_ans mayDigit 119 digit_ans rfl s) hG (fun S4 g4 hG4 => ?_)
  have ho4 := g4.objs ho hno
  have hno4 := Nat.lt_of_lt_of_le hno g4.no
  simp only [SXa, reduceCtorEq, Nat.reduceEqDiff, call120, hsl]
  refine callK_ans (value_ans _) hG4 (fun S5 g5 hG5 => ?_)
  have ho5 := g5.objs ho4 hno4
  cases c6 : (valueF 0 (runes (s.extract 0 (runF mayDigit s (runes s 0))) 0)).isSome with
  | true =>
   simp only [SXa, reduceCtorEq, Nat.reduceEqDiff, Nat.reduceAdd, store133, hsl, op_build, bldW2, stW, ho5, resW, load_pb, put_obj, Option.bind_some, Nat.le_refl, List.drop_nil]
   exact ⟨by simp only [wordF, c1, c2, c6, cutB, cond_true, cond_false, wordA], hG5.put S.no _ (Nat.le_refl _)⟩
  | false =>
   simp only [SXa, reduceCtorEq, Nat.reduceEqDiff, Nat.reduceAdd, store133, op_build, bldW0, zW, stW, ho5, resW, load_pb, put_obj, Option.bind_some, Nat.le_refl, List.drop_nil]
   exact ⟨by simp only [wordF, c1, c2, c6, cutB, cond_true, cond_false, wordA, noWord], hG5.put S.no _ (Nat.le_refl _)⟩
 | false =>
 cases c4 : (classF (firstF s) == 4) with
 | true =>
  simp only [SXa, reduceCtorEq, Nat.reduceEqDiff, call121, c1, c2, c4]
  refine callK_ans (marked_ans s (mark_pos s c4)) hG (fun S4 g4 hG4 => ?_)
  have ho4 := g4.objs ho hno
  simp only [SXa, reduceCtorEq, Nat.reduceEqDiff, Nat.reduceAdd, store133, stWa, ho4, resW, Option.bind_some, Nat.le_refl, List.drop_nil, List.append_nil]
  rw [cutW (markedF s) [] _ _ (by simp [put_obj])]
  exact ⟨by simp only [wordF, c1, c2, c4, cond_true, cond_false, pack1], hG4.put S.no _ (Nat.le_refl _)⟩
 | false =>
  simp only [SXa, reduceCtorEq, Nat.reduceEqDiff, Nat.reduceAdd, store133, c1, c2, c4, op_build, bldW0, zW, stW, ho, resW, load_pb, put_obj, Option.bind_some, Nat.le_refl, List.drop_nil]
  exact ⟨by simp only [wordF, c1, c2, c4, cond_false, wordA, noWord], hG.put S.no _ (Nat.le_refl _)⟩
set_option maxHeartbeats 8000000 in
theorem just_ans (s : ByteArray) (kind : Int) : Ans E 77 [.sc (.string s), .sc (.int .i64 kind)] (.sc (.bool (justF s kind))) := ans_of fun S hS => by
 refine ev77 rfl ?_
 have hG := Grow.refl hS nilV
 cases c1 : (s.toList == (⟨#[]⟩ : ByteArray).toList) with
 | true =>
  simp only [SXa, reduceCtorEq, Nat.reduceEqDiff, Nat.reduceAdd, r77_0, r77_1, r77_2, r77_3, r77_4, p77, c1]
  exact ⟨by simp only [justF, c1, Bool.true_or, cond_true], hG⟩
 | false =>
 cases c2 : decide ((4000 : Int) < (s.size : Int)) with
 | true =>
  have c3 : decide (4000 < s.size) = true := by simp only [decide_eq_true_eq] at c2 ⊢; omega
  simp only [SXa, reduceCtorEq, Nat.reduceEqDiff, Nat.reduceAdd, r77_0, r77_1, r77_2, r77_3, r77_4, p77, c1, c2, opLen9, len9s]
  exact ⟨by simp only [justF, c1, c3, Bool.or_true, cond_true], hG⟩
 | false =>
  have c3 : decide (4000 < s.size) = false := by simp only [decide_eq_false_iff_not] at c2 ⊢; omega
  simp only [SXa, reduceCtorEq, Nat.reduceEqDiff, Nat.reduceAdd, call94, r77_0, r77_1, r77_2, r77_3, r77_4, p77, c1, c2, opLen9, len9s]
  refine callK_ans (word_ans s) hG (fun S2 g2 hG => ?_)
  have hG3 := (hG.born 133 zW).put S2.no (.cells (wordA (wordF s))) g2.no
  have h3 : ((S2.born 133 zW).put S2.no (.cells (wordA (wordF s)))).obj S2.no = some (wordA (wordF s)) := by simp [put_obj]
  simp only [SXa, reduceCtorEq, Nat.reduceEqDiff, Nat.reduceAdd, store133, allocW, stWa, born_obj, Option.bind_some, zW, List.drop_nil, List.append_nil, Nat.zero_add, Nat.le_refl]
  simp only [zW] at hG3 h3
  generalize ((S2.born 133 [.sc (.int .i64 0), .sc (.string ⟨#[]⟩), .sc (.int .i64 0), .sc (.int .i64 0)]).put S2.no (.cells (wordA (wordF s)))) = S3 at hG3 h3
  simp only [wordA] at h3
  simp only [SXa, reduceCtorEq, Nat.reduceEqDiff, load3, fldW0, fld_p, load_pb, h3, Option.bind_some, Nat.add_zero]
  cases c4 : ((wordF s).kind == kind) with
  | true =>
   simp only [SXa, reduceCtorEq, Nat.reduceEqDiff, load9, fldW1, fld_p, load_pb, h3, Option.bind_some, Nat.zero_add]
   exact ⟨by simp only [justF, c1, c3, c4, Bool.or_self, cond_false, Bool.true_and], hG3⟩
  | false =>
   simp only [SXa, reduceCtorEq, Nat.reduceEqDiff]
   exact ⟨by simp only [justF, c1, c3, c4, Bool.or_self, cond_false, Bool.false_and], hG3⟩
theorem isName_ans (s : ByteArray) : Ans E 49 [.sc (.string s)] (.sc (.bool (isNameF s))) := ans_of fun S hS => by
 refine ev49 rfl ?_
 cases c1 : (s.toList != (⟨#[95]⟩ : ByteArray).toList) with
 | true =>
  simp only [SXa, reduceCtorEq, Nat.reduceEqDiff, Nat.reduceAdd, call77, r49_0, r49_1, p49, b_nestr, c1]
  refine callK_ans (just_ans s 2) (Grow.refl hS nilV) (fun S2 g2 hG => ?_)
  simp only [SXa, reduceCtorEq, Nat.reduceEqDiff]
  exact ⟨by simp only [isNameF, c1, cond_true], hG⟩
 | false =>
  simp only [SXa, reduceCtorEq, Nat.reduceEqDiff, Nat.reduceAdd, r49_0, r49_1, p49, b_nestr, c1]
  exact ⟨by simp only [isNameF, c1, cond_false], Grow.refl hS nilV⟩
theorem isCon_ans (s : ByteArray) : Ans E 51 [.sc (.string s)] (.sc (.bool (isConF s))) := ans_of fun S hS => by
 refine ev51 rfl ?_
 simp only [SXa, reduceCtorEq, Nat.reduceEqDiff, Nat.reduceAdd, call77, r51_0, r51_1, p51]
 refine callK_ans (just_ans s 3) (Grow.refl hS nilV) (fun S2 g2 hG => ?_)
 simp only [SXa, reduceCtorEq, Nat.reduceEqDiff]
 exact ⟨rfl, hG⟩
end Go.Proofs.YtmmnkemcplgebaaGreatDoor
end
end

section
section
set_option linter.unusedSimpArgs false
set_option linter.unusedVariables false
set_option maxRecDepth 100000
namespace Go.Abs
def setA (ks : List ByteArray) : List (Value × AV) := ks.map fun k => (.string k, .sc (.bool true))
def inB (s : ByteArray) (ks : List ByteArray) : Bool := ks.any fun y => s == y
theorem isKey_setA (ks : List ByteArray) : (setA ks).all (fun e => isKey .string e.1) = true := by
 induction ks with
 | nil => rfl
 | cons k r ih => simp only [setA, List.map_cons, List.all_cons, Bool.and_eq_true] at ih ⊢; exact ⟨rfl, ih⟩
theorem findA_setA (s : ByteArray) : ∀ ks, findA .string (.string s) (setA ks) = some (bif inB s ks then some (.sc (.bool true)) else none)
 | [] => rfl
 | k :: r => by
  have ih := findA_setA s r
  simp only [setA, List.map_cons, findA, Instr.sameNow, inB, List.any_cons] at ih ⊢
  cases h : (s == k) with
  | true => rfl
  | false => rw [Bool.false_or]; exact ih
theorem setKey_setA (s : ByteArray) : ∀ ks, inB s ks = false → setKey .string (.string s) (.sc (.bool true)) (setA ks) = setA (ks ++ [s])
 | [], _ => rfl
 | k :: r, h => by
  simp only [inB, List.any_cons, Bool.or_eq_false_iff] at h
  have ih := setKey_setA s r h.2
  simp only [setA, List.map_cons, List.cons_append, setKey, Instr.sameNow, h.1] at ih ⊢
  rw [ih]
section
variable {E : Env} {tm : PM AV} {S : St} {d : Option Tmp}
noncomputable def St.IsSet (S : St) (l : Nat) (ks : List ByteArray) : Prop := S.objs.get l = some (.mp (setA ks))
theorem bornMap_set : S.bornMap.IsSet S.no [] := by
 simp [St.IsSet, St.bornMap, St.bearNext, St.bear, PM.get_set, setA]
theorem put_set (l : Nat) (ks : List ByteArray) : (S.put l (.mp (setA ks))).IsSet l ks := by
 simp [St.IsSet, St.put, PM.get_set]
theorem Grow.isSet {S2 : St} {x : AV} (g : Grow S S2 x) {l : Nat} {ks : List ByteArray} (h : S.IsSet l ks) (hl : l < S.no) : S2.IsSet l ks := by
 unfold St.IsSet at h ⊢
 rw [g.obj l hl]
 exact h
theorem set_update {t kt et : TypeId} (ht : E.und t = some (.map kt et)) (hk : E.und kt = some .string) {l : Nat} {ks : List ByteArray} (h : S.IsSet l ks) (s : ByteArray) (hn : inB s ks = false) :
 mapUpdateA E t (.mp l) (.sc (.string s)) (.sc (.bool true)) S = some (passed, S.put l (.mp (setA (ks ++ [s])))) := by
 have h1 : S.map l = some (setA ks) := by unfold St.IsSet at h; simp only [St.map, h]
 have h2 : isKey .string (.string s) = true := rfl
 simp only [mapUpdateA, ht, hk, keyOf, h1, h2, isKey_setA, Bool.and_self, cond_true, setKey_setA s ks hn]
theorem set_lookup {t kt et : TypeId} (ht : E.und t = some (.map kt et)) (hk : E.und kt = some .string) (hz : zeroOf E et = some (.bool false)) {l : Nat} {ks : List ByteArray} (h : S.IsSet l ks) (s : ByteArray) :
 lookupA E t (.mp l) (.sc (.string s)) false S = some (.sc (.bool (inB s ks)), S) := by
 have h1 : S.map l = some (setA ks) := by unfold St.IsSet at h; simp only [St.map, h]
 have h2 : isKey .string (.string s) = true := rfl
 simp only [lookupA, ht, hk, keyOf, h1, h2, isKey_setA, Bool.not_true, cond_false, cond_true, findA_setA]
 cases inB s ks with
 | true => rfl
 | false =>
  unfold zeroOf at hz
  split at hz
  · rename_i i hi
    simp only [hi, hz, cond_false]
    rfl
  · cases hz
end
def AnsIn (E : Env) (H : St → Prop) (f : FuncId) (args : List AV) (r : AV) : Prop := ∀ S : St, S.Fresh → H S → ∃ S', EvA E f args S r S' ∧ Grow S S' nilV
theorem ansIn_of {E : Env} {H : St → Prop} {f : FuncId} {args : List AV} {v : AV} (h : ∀ S : St, S.Fresh → H S → ∃ r S', EvA E f args S r S' ∧ r = v ∧ Grow S S' nilV) : AnsIn E H f args v := fun S hS hH => by
 obtain ⟨r, S', h1, rfl, g⟩ := h S hS hH
 exact ⟨S', h1, g⟩
section
variable {E : Env} {nt : Nat} {k : List KI} {tm : PM AV} {S S0 : St} {Q : PostA}
theorem callK_in {H : St → Prop} {f : FuncId} {args : List AV} {d : Option Tmp} {r : List POp} {v : AV} (h : AnsIn E H f args v) (hH : H S) (G : Grow S0 S nilV) (h2 : ∀ S1, Grow S S1 nilV → Grow S0 S1 nilV → EndsA E nt (.c (.reg r) :: k) .nrm (setD tm d v) S1 Q) : CallK E nt f args d r k tm S Q := by
 obtain ⟨S1, h1, g⟩ := h S G.fresh hH
 exact callK_of h1 (h2 S1 g (G.two g))
end
end Go.Abs
end
end

section
section
set_option linter.unusedSimpArgs false
set_option linter.unusedVariables false
set_option maxRecDepth 100000
namespace Go.Proofs.YtmmnkemcplgebaaGreatDoor
open Go.Abs
structure NodeV where
 kind : Int
 n : Int
 name : ByteArray
 param : ByteArray
 kidsO : Option (List Int)
 frm : Int
 to : Int
def NodeV.kids (x : NodeV) : List Int := x.kidsO.getD []
structure ConV where
 name : ByteArray
 argsO : Option (List ByteArray)
def ConV.args (c : ConV) : List ByteArray := c.argsO.getD []
structure DeclV where
 name : ByteArray
 consO : Option (List ConV)
def DeclV.cons (d : DeclV) : List ConV := d.consO.getD []
structure TreeV where
 nodes : List NodeV
 types : List DeclV
def intsA (l : List Int) : List AV := l.map fun z => .sc (.int .i64 z)
def strsA (l : List ByteArray) : List AV := l.map fun s => .sc (.string s)
def rowV (sz : Nat) (o : Option (List AV)) : AV := match o with
 | none => .sc (.slice none 0 0)
 | some l => .vec 0 sz l
theorem rowV_is {α : Type} (sz : Nat) (f : List α → List AV) (h : f [] = []) (o : Option (List α)) : IsV sz (rowV sz (o.map f)) (f (o.getD [])) := by
 cases o with
 | none => exact .inl ⟨rfl, h⟩
 | some l => exact .inr ⟨0, rfl⟩
theorem rowV_ok (sz : Nat) (o : Option (List AV)) : okCell (rowV sz o) = true := by cases o <;> rfl
def kidsA (x : NodeV) : AV := rowV 1 (x.kidsO.map intsA)
def argsA (c : ConV) : AV := rowV 1 (c.argsO.map strsA)
def nodeA (x : NodeV) : List AV := [.sc (.int .i64 x.kind), .sc (.int .i64 x.n), .sc (.string x.name), .sc (.string x.param), kidsA x, .sc (.int .i64 x.frm), .sc (.int .i64 x.to)]
def conA (c : ConV) : List AV := [.sc (.string c.name), argsA c]
def consA (l : List ConV) : List AV := l.map fun c => .agg (conA c)
def consV (d : DeclV) : AV := rowV 2 (d.consO.map consA)
def declA (d : DeclV) : List AV := [.sc (.string d.name), consV d]
def nodesA (l : List NodeV) : List AV := l.map fun x => .agg (nodeA x)
def typesA (l : List DeclV) : List AV := l.map fun d => .agg (declA d)
theorem isK (x : NodeV) : IsV 1 (kidsA x) (intsA x.kids) := rowV_is 1 intsA rfl x.kidsO
theorem isAr (c : ConV) : IsV 1 (argsA c) (strsA c.args) := rowV_is 1 strsA rfl c.argsO
theorem isCv (d : DeclV) : IsV 2 (consV d) (consA d.cons) := rowV_is 2 consA rfl d.consO
theorem lenK (x : NodeV) (S : St) : lenV (kidsA x) S = some (.sc (.int .i64 (x.kids.length : Nat)), S) := by rw [(isK x).len]; simp [intsA]
theorem lenAr (c : ConV) (S : St) : lenV (argsA c) S = some (.sc (.int .i64 (c.args.length : Nat)), S) := by rw [(isAr c).len]; simp [strsA]
theorem lenCv (d : DeclV) (S : St) : lenV (consV d) S = some (.sc (.int .i64 (d.cons.length : Nat)), S) := by rw [(isCv d).len]; simp [consA]
def isEmptyF (s : ByteArray) : Bool := s.toList == (⟨#[]⟩ : ByteArray).toList
def numberF (x : NodeV) : Bool :=
 bif x.kind == 1 || x.kind == 23 then decide (0 ≤ x.n) && decide (x.n ≤ 4611686018427387903)
 else bif x.kind == 2 || x.kind == 24 then x.n == 0 || x.n == 1 else x.n == 0
def hasF (l : List ByteArray) (s : ByteArray) : Bool := l.any fun y => s.toList == y.toList
def opers : List ByteArray := [⟨#[43]⟩, ⟨#[45]⟩, ⟨#[42]⟩, ⟨#[60]⟩, ⟨#[61]⟩]
noncomputable def textsF (x : NodeV) : Bool :=
 bif x.kind == 4 || x.kind == 8 || x.kind == 22 then isNameF x.name && isEmptyF x.param
 else bif x.kind == 9 then isNameF x.name && isNameF x.param
 else bif x.kind == 6 || x.kind == 20 then isEmptyF x.name && isNameF x.param
 else bif x.kind == 5 || x.kind == 26 then isConF x.name && isEmptyF x.param
 else bif x.kind == 14 then hasF opers x.name && isEmptyF x.param else isEmptyF x.name && isEmptyF x.param
def kidsF (k : Int) : Int × Int :=
 bif k == 5 || k == 26 then (0, 3) else bif k == 11 then (3, 1000) else bif k == 6 || k == 15 || k == 16 || k == 17 || k == 19 then (1, 1)
 else bif k == 7 || k == 8 || k == 9 || k == 12 || k == 13 || k == 14 || k == 20 then (2, 2) else bif k == 10 then (3, 3) else (0, 0)
def armF (k : Int) : Bool := k.tmod 2 == 1
def patF (k : Int) : Bool := decide (21 ≤ k) && decide (k ≤ 26)
def stopF (k : Int) : Bool := k == 7 || k == 8 || k == 9 || k == 10 || k == 11 || k == 13 || k == 17 || k == 18 || k == 19 || k == 20
def conAt (name : ByteArray) : List ConV → Nat → Option Nat
 | [], _ => none
 | c :: r, k => bif c.name.toList == name.toList then some k else conAt name r (k + 1)
def ofF (name : ByteArray) : List DeclV → Nat → Option (Nat × Nat)
 | [], _ => none
 | d :: r, k => match conAt name d.cons 0 with
  | some c => some (k, c)
  | none => ofF name r (k + 1)
def argsAt (ds : List DeclV) (d c : Nat) : Nat := (((ds[d]?).bind fun d => d.cons[c]?).map fun c => c.args.length).getD 0
noncomputable def aloneF (ds : List DeclV) (x : NodeV) : Bool :=
 bif decide (x.kind < 1) || decide (26 < x.kind) || !numberF x || !textsF x then false
 else bif decide ((x.kids.length : Int) < (kidsF x.kind).1) || decide ((kidsF x.kind).2 < (x.kids.length : Int)) || (x.kind == 11 && !armF (x.kids.length : Int)) then false
 else bif x.kind != 5 && x.kind != 26 then true
 else match ofF x.name ds 0 with
  | some (d, c) => (((argsAt ds d c : Nat) : Int) == (x.kids.length : Int))
  | none => false
def idxF (v : ByteArray) : List ByteArray → Nat → Int
 | [], _ => -1
 | y :: r, k => bif v.toList == y.toList then (k : Int) else idxF v r (k + 1)
theorem idx_has (v : ByteArray) : ∀ (l : List ByteArray) (k : Nat), decide (0 ≤ idxF v l k) = hasF l v
 | [], k => rfl
 | y :: r, k => by
  have ih := idx_has v r (k + 1)
  unfold hasF at ih ⊢
  rw [idxF, List.any_cons]
  by_cases h : (v.toList == y.toList) = true
  · rw [h]; simp
  · rw [Bool.not_eq_true] at h
    rw [h, Bool.false_or]; exact ih
def idxP (p : ByteArray → Bool) : List ByteArray → Nat → Int
 | [], _ => -1
 | y :: r, k => bif p y then (k : Int) else idxP p r (k + 1)
theorem idxP_any (p : ByteArray → Bool) : ∀ (l : List ByteArray) (k : Nat), decide (0 ≤ idxP p l k) = l.any p
 | [], k => rfl
 | y :: r, k => by
  have ih := idxP_any p r (k + 1)
  rw [idxP, List.any_cons]
  by_cases h : p y = true
  · rw [h]; simp
  · rw [Bool.not_eq_true] at h
    rw [h, Bool.false_or]; exact ih
def basicF (s : ByteArray) : Bool := s.toList == (⟨#[105, 110, 116]⟩ : ByteArray).toList || s.toList == (⟨#[98, 111, 111, 108]⟩ : ByteArray).toList || s.toList == (⟨#[117, 110, 105, 116]⟩ : ByteArray).toList
noncomputable def okC (c : ConV) : Bool := isConF c.name && decide (c.args.length ≤ 3)
noncomputable def okD (d : DeclV) : Bool := isNameF d.name && !basicF d.name && decide (1 ≤ d.cons.length) && decide (d.cons.length ≤ 20) && d.cons.all okC
def namesOf (ds : List DeclV) : List ByteArray := ds.map fun d => d.name
def consOf (ds : List DeclV) : List ByteArray := ds.flatMap fun d => d.cons.map fun c => c.name
def argsOf (ds : List DeclV) : List ByteArray := ds.flatMap fun d => d.cons.flatMap fun c => c.args
noncomputable def kidsW (w : Bool → Nat → Option Nat) (pat m : Bool) : List Int → Nat → Nat → Option Nat
 | [], _, nx => some nx
 | k :: r, i, nx => bif k == ((nx : Nat) : Int) then match w (pat || (m && armF ((i : Nat) : Int))) nx with
  | some z => kidsW w pat m r (i + 1) z
  | none => none
  else none
noncomputable def walkF (ns : List NodeV) (ds : List DeclV) : Nat → Bool → Nat → Option Nat
 | 0, _, _ => none
 | d + 1, pat, a => match ns[a]? with
  | some x => bif (patF x.kind != pat) || !aloneF ds x then none else kidsW (walkF ns ds d) pat (x.kind == 11) x.kids 0 (a + 1)
  | none => none
def bindsF (ns : List NodeV) : Nat → Nat → List ByteArray
 | 0, _ => []
 | f + 1, a => match ns[a]? with
  | some x => bif x.kind == 22 then [x.name] else bif x.kind == 26 then x.kids.flatMap fun k => bindsF ns f k.toNat else []
  | none => []
def twiceF (had : List ByteArray) : List ByteArray → Bool
 | [] => false
 | s :: r => bif inB s had then true else twiceF (had ++ [s]) r
def otherF (names : List ByteArray) (s : ByteArray) : Bool := !(basicF s || hasF names s)
noncomputable def declsF (ds : List DeclV) : Bool := ds.all okD && (decide (ds.length ≤ 20) && !twiceF [] (namesOf ds) && !twiceF [] (consOf ds) && !(argsOf ds).any (otherF (namesOf ds)))
noncomputable def badP (ns : List NodeV) (i : Nat) : Bool := match ns[i]? with
 | some x => patF x.kind && twiceF [] (bindsF ns 60 i)
 | none => false
noncomputable def patsOk (ns : List NodeV) : Nat → Nat → Bool
 | 0, _ => true
 | m + 1, k => bif badP ns k then false else patsOk ns m (k + 1)
noncomputable def goodF (t : TreeV) : Bool := decide (1 ≤ t.nodes.length) && decide (t.nodes.length ≤ 1000) && declsF t.types &&
 (match walkF t.nodes t.types 60 false 0 with | some z => ((z : Int) == (t.nodes.length : Int)) | none => false) && patsOk t.nodes t.nodes.length 0
structure Light (t : TreeV) : Prop where
 ln : t.nodes.length ≤ 60
 lt : t.types.length ≤ 4
 ln2 : ∀ x ∈ t.nodes, x.name.size ≤ 60 ∧ x.param.size ≤ 60 ∧ x.kids.length ≤ 20
 lt2 : ∀ d ∈ t.types, d.cons.length ≤ 6 ∧ d.name.size ≤ 60 ∧ ∀ c ∈ d.cons, c.name.size ≤ 60 ∧ c.args.length ≤ 4 ∧ ∀ s ∈ c.args, s.size ≤ 60
def stopsF : List NodeV → Nat → List Int
 | [], _ => []
 | x :: r, k => bif stopF x.kind then ((k : Nat) : Int) :: stopsF r (k + 1) else stopsF r (k + 1)
end Go.Proofs.YtmmnkemcplgebaaGreatDoor
end
end

section
section
set_option linter.unusedSimpArgs false
set_option linter.unusedVariables false
set_option maxRecDepth 100000
namespace Go.Proofs.YtmmnkemcplgebaaGreatDoor
open Go.Abs
theorem fldN {tm : PM AV} {S : St} {d : Option Tmp} (x : Operand) : (opV E tm d (.fieldAddr 30 x 0) S = fldV 0 (E.ev tm x) S) ∧ (opV E tm d (.fieldAddr 30 x 1) S = fldV 1 (E.ev tm x) S) ∧ (opV E tm d (.fieldAddr 30 x 2) S = fldV 2 (E.ev tm x) S) ∧
 (opV E tm d (.fieldAddr 30 x 3) S = fldV 3 (E.ev tm x) S) ∧ (opV E tm d (.fieldAddr 30 x 4) S = fldV 4 (E.ev tm x) S) ∧ (opV E tm d (.fieldAddr 30 x 5) S = fldV 5 (E.ev tm x) S) ∧ (opV E tm d (.fieldAddr 30 x 6) S = fldV 6 (E.ev tm x) S) :=
 ⟨field_chk 30 0 0 (by kernel_rfl) x, field_chk 30 1 1 (by kernel_rfl) x, field_chk 30 2 2 (by kernel_rfl) x, field_chk 30 3 3 (by kernel_rfl) x, field_chk 30 4 4 (by kernel_rfl) x, field_chk 30 5 5 (by kernel_rfl) x, field_chk 30 6 6 (by kernel_rfl) x⟩
theorem pat_ans (k : Int) : Ans E 29 [.sc (.int .i64 k)] (.sc (.bool (patF k))) := ans_of fun S hS => by
 refine ev29 rfl ?_
 have hG := Grow.refl hS nilV
 simp only [SXa, reduceCtorEq, Nat.reduceEqDiff, Nat.reduceAdd, r29_0, r29_1, p29]
 repeat' (first
  | (refine condK_split (fun h => ?_) (fun h => ?_) <;> simp only [SXa, reduceCtorEq, Nat.reduceEqDiff, Nat.reduceAdd, Nat.reduceSub, Nat.reduceMul, Nat.reduceBEq, Int.reduceLT, Int.reduceLE, Int.reduceToNat, Int.reduceBEq, Int.reduceBNe, reduceIte, r29_0, r29_1, p29, h])
  | (refine guardK_split (fun h => ?_) (fun h => ?_) <;> simp only [SXa, reduceCtorEq, Nat.reduceEqDiff, h]))
 all_goals exact ⟨by simp only [patF, Bool.true_and, Bool.false_and, *], hG⟩
set_option maxHeartbeats 4000000 in
theorem stop_ans (k : Int) : Ans E 37 [.sc (.int .i64 k)] (.sc (.bool (stopF k))) := ans_of fun S hS => by
 refine ev37 rfl ?_
 have hG := Grow.refl hS nilV
 simp only [SXa, reduceCtorEq, Nat.reduceEqDiff, Nat.reduceAdd, r37_0, r37_1, r37_2, r37_3, r37_4, r37_5, r37_6, r37_7, r37_8, r37_9, r37_10, r37_11, r37_12, r37_13, p37]
 repeat' (first
  | (refine condK_split (fun h => ?_) (fun h => ?_) <;> simp only [SXa, reduceCtorEq, Nat.reduceEqDiff, h])
  | (refine guardK_split (fun h => ?_) (fun h => ?_) <;> simp only [SXa, reduceCtorEq, Nat.reduceEqDiff, Nat.reduceAdd, Nat.reduceSub, Nat.reduceMul, Nat.reduceBEq, Int.reduceLT, Int.reduceLE, Int.reduceToNat, Int.reduceBEq, Int.reduceBNe, reduceIte, r37_0, r37_1, r37_2, r37_3, r37_4, r37_5, r37_6, r37_7, r37_8, r37_9, r37_10, r37_11, r37_12, r37_13, p37, h]))
 all_goals exact ⟨by simp only [stopF, Bool.true_or, Bool.or_true, Bool.or_false, *], hG⟩
theorem b_rem {E : Env} {S : St} (t : TypeId) (x y : Operand) (k : IntKind) (a b : Int) (h : b ≠ 0) : binGen E .rem t x y (.sc (.int k a)) (.sc (.int k b)) S = some (.sc (.int k (a.tmod b)), S) := by
 have h2 : (b == 0) = false := by simpa using h
 simp only [binGen, conc, binOp, Op.intDiv, h, if_false, ne_eq, not_true_eq_false]
 first | rfl | (simp [h]; rfl)
theorem arm_ans (k : Int) : Ans E 57 [.sc (.int .i64 k)] (.sc (.bool (armF k))) := ans_of fun S hS => by
 refine ev57 rfl ?_
 have hq : ∀ (a : Int) (t : TypeId) (x y : Operand) (S : St), binGen E .rem t x y (.sc (.int .i64 a)) (.sc (.int .i64 2)) S = some (.sc (.int .i64 (a.tmod 2)), S) := fun a t x y S => b_rem t x y _ _ _ (by decide)
 simp only [SXa, reduceCtorEq, Nat.reduceEqDiff, Nat.reduceAdd, r57_0, r57_1, p57, hq]
 exact ⟨rfl, Grow.refl hS _⟩
set_option maxHeartbeats 8000000 in
theorem kids_ans (k : Int) : Ans E 82 [.sc (.int .i64 k)] (.tup [.sc (.int .i64 (kidsF k).1), .sc (.int .i64 (kidsF k).2)]) := ans_of fun S hS => by
 refine ev82 rfl ?_
 have hG := Grow.refl hS nilV
 simp only [SXa, reduceCtorEq, Nat.reduceEqDiff, Nat.reduceAdd, r82_0, r82_1, r82_2, r82_3, r82_4, r82_5, r82_6, r82_7, r82_8, r82_9, r82_10, r82_11, r82_12, r82_13, r82_14, r82_15, r82_16, r82_17, r82_18, r82_19, r82_20, r82_21, r82_22, r82_23, p82]
 repeat' (first
  | (refine condK_split (fun h => ?_) (fun h => ?_) <;> simp only [SXa, reduceCtorEq, Nat.reduceEqDiff, h])
  | (refine guardK_split (fun h => ?_) (fun h => ?_) <;> simp only [SXa, reduceCtorEq, Nat.reduceEqDiff, Nat.reduceAdd, Nat.reduceSub, Nat.reduceMul, Nat.reduceBEq, Int.reduceLT, Int.reduceLE, Int.reduceToNat, Int.reduceBEq, Int.reduceBNe, reduceIte, r82_0, r82_1, r82_2, r82_3, r82_4, r82_5, r82_6, r82_7, r82_8, r82_9, r82_10, r82_11, r82_12, r82_13, r82_14, r82_15, r82_16, r82_17, r82_18, r82_19, r82_20, r82_21, r82_22, r82_23, p82, h]))
 all_goals exact ⟨by simp only [kidsF, Bool.true_or, Bool.or_true, Bool.or_false, cond_true, cond_false, *], hG⟩
theorem basic_x (s : ByteArray) : ∃ b, Ans E 50 [.sc (.string s)] (.sc (.bool b)) ∧ b = (s.toList == (⟨#[105, 110, 116]⟩ : ByteArray).toList || s.toList == (⟨#[98, 111, 111, 108]⟩ : ByteArray).toList || s.toList == (⟨#[117, 110, 105, 116]⟩ : ByteArray).toList) := ⟨_, ans_of fun S hS => by
 refine ev50 rfl ?_
 have hG := Grow.refl hS nilV
 simp only [SXa, reduceCtorEq, Nat.reduceEqDiff, Nat.reduceAdd, r50_0, r50_1, p50]
 repeat' (first
  | (refine condK_split (fun h => ?_) (fun h => ?_) <;> simp only [SXa, reduceCtorEq, Nat.reduceEqDiff, Nat.reduceAdd, Nat.reduceSub, Nat.reduceMul, Nat.reduceBEq, Int.reduceLT, Int.reduceLE, Int.reduceToNat, Int.reduceBEq, Int.reduceBNe, reduceIte, r50_0, r50_1, p50, h])
  | (refine guardK_split (fun h => ?_) (fun h => ?_) <;> simp only [SXa, reduceCtorEq, Nat.reduceEqDiff, h]))
 all_goals exact ⟨by simp only [Bool.true_or, Bool.or_true, Bool.or_false, Bool.false_or, *], hG⟩, rfl⟩
set_option maxHeartbeats 8000000 in
theorem number_ans (x : NodeV) : Ans E 80 [.agg (nodeA x)] (.sc (.bool (numberF x))) := ans_of fun S hS => by
 refine ev80 rfl ?_
 have hG := (Grow.refl hS nilV).born 30 (nodeA x)
 have h0 : (S.born 30 (nodeA x)).obj S.no = some (nodeA x) := by simp [born_obj]
 simp only [SXa, Nat.reduceAdd, r80_0, r80_1, r80_2, r80_3, r80_4, r80_5, r80_6, r80_7, r80_8, p80, op_box, cells_agg]
 generalize S.born 30 (nodeA x) = S0 at hG h0
 simp only [nodeA] at h0
 simp only [SXa, reduceCtorEq, Nat.reduceEqDiff, load3, load_pb, h0, fldN, fld_p, Option.bind_some, Nat.add_zero]
 repeat' (first
  | (refine condK_split (fun h => ?_) (fun h => ?_) <;> simp only [SXa, reduceCtorEq, Nat.reduceEqDiff, load2, h, load_pb, h0, fldN, fld_p, Option.bind_some, Nat.zero_add])
  | (refine guardK_split (fun h => ?_) (fun h => ?_) <;> simp only [SXa, reduceCtorEq, Nat.reduceEqDiff, load2, h, load_pb, h0, fldN, fld_p, Option.bind_some, Nat.zero_add]))
 all_goals exact ⟨by simp only [numberF, Bool.true_or, Bool.or_true, Bool.or_false, Bool.false_or, Bool.true_and, Bool.false_and, cond_true, cond_false, *], hG⟩
end Go.Proofs.YtmmnkemcplgebaaGreatDoor
end
end

section
section
set_option linter.unusedSimpArgs false
set_option linter.unusedVariables false
set_option maxRecDepth 100000
namespace Go.Proofs.YtmmnkemcplgebaaGreatDoor
open Go.Abs
theorem wrapK {k n : Nat} (h : k < n) (hn : n ≤ 2 ^ 63 - 1) : IntKind.i64.wrap ((k : Int) + 1) = ((k + 1 : Nat) : Int) := by
 rw [wrap_i64 (by omega) (by omega)]; omega
theorem lenT {x : AV} {l : List ByteArray} (h : IsV 1 x (strsA l)) (S : St) : lenV x S = some (.sc (.int .i64 (l.length : Nat)), S) := by rw [h.len]; simp [strsA]
theorem idxT {x : AV} {l : List ByteArray} (h : IsV 1 x (strsA l)) {k : Nat} (hk : k < l.length) (S : St) : idxV 1 x (some (k : Int)) S = some (.eptr [.sc (.string l[k])] 0, S) := h.idx (v := .sc (.string l[k])) (by simp [strsA, hk]) rfl S
set_option maxHeartbeats 4000000 in
theorem index_ans (l : List ByteArray) (x : AV) (hx : IsV 1 x (strsA l)) (hl : l.length ≤ 2 ^ 40) (v : ByteArray) : Ans E 78 [x, .sc (.string v)] (.sc (.int .i64 (idxF v l 0))) := ans_of fun S hS => by
 refine ev78 rfl ?_
 simp only [SXa, reduceCtorEq, Nat.reduceEqDiff, Nat.reduceAdd, len31, r78_0, r78_1, r78_8, p78, lenT hx]
 refine e_loop (fun tm S' N => ∃ k : Nat, k ≤ l.length ∧ N = l.length - k ∧ idxF v (l.drop k) k = idxF v l 0 ∧ Grow S S' nilV ∧ getT tm 0 = x ∧ getT tm 1 = .sc (.string v) ∧ getT tm 7 = .sc (.int .i64 (l.length : Nat)) ∧ getT tm 8 = .sc (.int .i64 (k : Int))) l.length ⟨0, by omega, by omega, by rw [List.drop_zero], Grow.refl hS _, by simp [getT_setD]⟩ ?_
 rintro tm S' N ⟨k, hk, rfl, hr, hG, t0, t1, t7, t8⟩
 by_cases hlt : k < l.length
 · have wk := wrapK hlt (by omega)
   rw [List.drop_eq_getElem_cons hlt, idxF] at hr
   simp only [SXa, reduceCtorEq, Nat.reduceEqDiff, load9, index31, b78_7, r78_2, r78_3, r78_4, r78_5, r78_6, t0, t1, t7, t8, dec_lt hlt, idxT hx hlt]
   cases hb : (v.toList == l[k].toList) with
   | true =>
    rw [hb, cond_true] at hr
    simp only [SXa, Nat.reduceEqDiff]
    exact ⟨by rw [← hr], hG⟩
   | false =>
    rw [hb, cond_false] at hr
    simp only [SXa, reduceCtorEq, Nat.reduceEqDiff, t0, t1, t7, t8, wk]
    exact ⟨l.length - (k + 1), by omega, k + 1, by omega, rfl, hr, hG, by simp []⟩
 · have hke : k = l.length := by omega
   rw [hke, List.drop_length] at hr
   simp only [SXa, Nat.reduceEqDiff, b78_7, r78_2, r78_3, r78_4, r78_5, r78_6, t7, t8, dec_nlt hlt]
   exact ⟨by rw [← hr]; rfl, hG⟩
theorem contains_ans (l : List ByteArray) (x : AV) (hx : IsV 1 x (strsA l)) (hl : l.length ≤ 2 ^ 40) (v : ByteArray) : Ans E 53 [x, .sc (.string v)] (.sc (.bool (hasF l v))) := ans_of fun S hS => by
 refine ev53 rfl ?_
 simp only [SXa, reduceCtorEq, Nat.reduceEqDiff, Nat.reduceAdd, call78, r53_0, r53_1, p53]
 refine callK_ans (index_ans l x hx hl v) (Grow.refl hS nilV) (fun S2 g2 hG => ?_)
 simp only [SXa, reduceCtorEq, Nat.reduceEqDiff, idx_has]
 exact hG
set_option maxHeartbeats 4000000 in
theorem indexf_ans (H : St → Prop) (hst : ∀ S S', H S → Grow S S' nilV → H S') (g : FuncId) (cap : List AV) (p : ByteArray → Bool) (hg : ∀ s, AnsIn E H g ([.sc (.string s)] ++ cap) (.sc (.bool (p s)))) (hx0 : E.ext g = none)
 (l : List ByteArray) (x : AV) (hx : IsV 1 x (strsA l)) (hl : l.length ≤ 2 ^ 40) : AnsIn E H 79 [x, .fn (.func g) [] cap] (.sc (.int .i64 (idxP p l 0))) := ansIn_of fun S hS hH => by
 refine ev79 rfl ?_
 simp only [SXa, reduceCtorEq, Nat.reduceEqDiff, Nat.reduceAdd, len31, r79_0, r79_1, r79_8, p79, lenT hx]
 refine e_loop (fun tm S' N => ∃ k : Nat, k ≤ l.length ∧ N = l.length - k ∧ idxP p (l.drop k) k = idxP p l 0 ∧ Grow S S' nilV ∧ getT tm 0 = x ∧ getT tm 1 = .fn (.func g) [] cap ∧ getT tm 7 = .sc (.int .i64 (l.length : Nat)) ∧ getT tm 8 = .sc (.int .i64 (k : Int))) l.length ⟨0, by omega, by omega, by rw [List.drop_zero], Grow.refl hS _, by simp [getT_setD]⟩ ?_
 rintro tm S' N ⟨k, hk, rfl, hr, hG, t0, t1, t7, t8⟩
 by_cases hlt : k < l.length
 · have wk := wrapK hlt (by omega)
   rw [List.drop_eq_getElem_cons hlt, idxP] at hr
   simp only [SXa, reduceCtorEq, Nat.reduceEqDiff, load9, index31, b79_7, r79_2, r79_3, r79_4, r79_5, r79_6, t0, t1, t7, t8, dec_lt hlt, idxT hx hlt]
   rw [e_callv _ _ _ _ _ (g := g) (first := []) (cap := cap) (by simp only [SXa, Nat.reduceEqDiff]; rfl) hx0]
   simp only [SXa, Nat.reduceEqDiff, List.nil_append]
   refine callK_in (hg l[k]) (hst _ _ hH hG) hG (fun S2 g2 hG2 => ?_)
   cases hb : p l[k] with
   | true =>
    rw [hb, cond_true] at hr
    simp only [SXa, Nat.reduceEqDiff]
    exact ⟨by rw [← hr], hG2⟩
   | false =>
    rw [hb, cond_false] at hr
    simp only [SXa, reduceCtorEq, Nat.reduceEqDiff, t0, t1, t7, t8, wk]
    exact ⟨l.length - (k + 1), by omega, k + 1, by omega, rfl, hr, hG2, by simp []⟩
 · have hke : k = l.length := by omega
   rw [hke, List.drop_length] at hr
   simp only [SXa, Nat.reduceEqDiff, b79_7, r79_2, r79_3, r79_4, r79_5, r79_6, t7, t8, dec_nlt hlt]
   exact ⟨by rw [← hr]; rfl, hG⟩
theorem containsf_ans (H : St → Prop) (hst : ∀ S S', H S → Grow S S' nilV → H S') (g : FuncId) (cap : List AV) (p : ByteArray → Bool) (hg : ∀ s, AnsIn E H g ([.sc (.string s)] ++ cap) (.sc (.bool (p s)))) (hx0 : E.ext g = none)
 (l : List ByteArray) (x : AV) (hx : IsV 1 x (strsA l)) (hl : l.length ≤ 2 ^ 40) : AnsIn E H 55 [x, .fn (.func g) [] cap] (.sc (.bool (l.any p))) := ansIn_of fun S hS hH => by
 refine ev55 rfl ?_
 simp only [SXa, reduceCtorEq, Nat.reduceEqDiff, Nat.reduceAdd, call79, r55_0, r55_1, p55]
 refine callK_in (indexf_ans H hst g cap p hg hx0 l x hx hl) hH (Grow.refl hS nilV) (fun S2 g2 hG => ?_)
 simp only [SXa, reduceCtorEq, Nat.reduceEqDiff, idxP_any]
 exact hG
set_option maxHeartbeats 4000000 in
theorem twice_ans (l : List ByteArray) (x : AV) (hx : IsV 1 x (strsA l)) (hl : l.length ≤ 2 ^ 40) : Ans E 30 [x] (.sc (.bool (twiceF [] l))) := ans_of fun S hS => by
 refine ev30 rfl ?_
 have hM := bornMap_set (S := S)
 have hG := (Grow.refl hS nilV).bornMap
 have hno : S.no < S.bornMap.no := Nat.lt_succ_self _
 simp only [SXa, reduceCtorEq, Nat.reduceEqDiff, Nat.reduceAdd, len31, r30_0, r30_1, r30_2, r30_10, p30, op_makeMap, lenT hx]
 generalize S.bornMap = S1 at hM hG hno
 have mt : E.und 71 = some (.map 9 4) := by kernel_rfl
 have kt : E.und 9 = some .string := by kernel_rfl
 have zt : zeroOf E 4 = some (.bool false) := by kernel_rfl
 refine e_loop (fun tm S' N => ∃ k had, k ≤ l.length ∧ N = l.length - k ∧ twiceF had (l.drop k) = twiceF [] l ∧ S'.IsSet S.no had ∧ Grow S S' nilV ∧ S.no < S'.no ∧ getT tm 3 = .mp S.no ∧ getT tm 7 = x ∧ getT tm 8 = .sc (.int .i64 (l.length : Nat)) ∧ getT tm 9 = .sc (.int .i64 (k : Int))) l.length ⟨0, [], by omega, by omega, by rw [List.drop_zero], hM, hG, hno, by simp [getT_setD]⟩ ?_
 rintro tm S' N ⟨k, had, hk, rfl, hr, hM, hG, hno, t3, t7, t8, t9⟩
 by_cases hlt : k < l.length
 · have wk := wrapK hlt (by omega)
   rw [List.drop_eq_getElem_cons hlt, twiceF] at hr
   simp only [SXa, Nat.reduceEqDiff, load9, index31, b30_9, r30_3, r30_4, r30_5, r30_6, r30_7, r30_8, t3, t7, t8, t9, dec_lt hlt, idxT hx hlt, op_lookup, set_lookup mt kt zt hM]
   cases hb : inB l[k] had with
   | true =>
    rw [hb, cond_true] at hr
    simp only [SXa, Nat.reduceEqDiff]
    exact ⟨by rw [← hr], hG⟩
   | false =>
    rw [hb, cond_false] at hr
    simp only [SXa, Nat.reduceEqDiff, t3, t7, t8, t9, wk, op_mapUpdate, set_update mt kt hM _ hb]
    exact ⟨l.length - (k + 1), by omega, k + 1, had ++ [l[k]], by omega, rfl, hr, put_set _ _, hG.put S.no _ (Nat.le_refl _), hno, by simp []⟩
 · have hke : k = l.length := by omega
   rw [hke, List.drop_length] at hr
   simp only [SXa, Nat.reduceEqDiff, b30_9, r30_3, r30_4, r30_5, r30_6, r30_7, r30_8, t8, t9, dec_nlt hlt]
   exact ⟨by rw [← hr]; rfl, hG⟩
end Go.Proofs.YtmmnkemcplgebaaGreatDoor
end
end
