/-
  Trees: the walks (may types be declared so?).
  Trees: the walks (may a tree be?).
-/
import Derived.Test.YtmmnkemcplgebaaGreatDoorQBF
section
section
set_option linter.unusedSimpArgs false
set_option linter.unusedVariables false
set_option maxRecDepth 100000
namespace Go.Proofs.YtmmnkemcplgebaaGreatDoor
open Go.Abs
theorem basic_ans (s : ByteArray) : Ans E 50 [.sc (.string s)] (.sc (.bool (basicF s))) := by
 obtain ⟨b, h, rfl⟩ := basic_x s
 exact h
theorem op_mf {tm : PM AV} {S : St} {d : Option Tmp} (f : Fn) (x y : Array Operand) : opV E tm d (.makeFunc f x y) S = some (.fn f (x.toList.map (E.ev tm)) (y.toList.map (E.ev tm)), S) := rfl
theorem IsV_cell {sz : Nat} {x : AV} {xs : List AV} (h : IsV sz x xs) : cellsOf x = some [x] ∧ okCell x = true := by
 rcases h with ⟨rfl, _⟩ | ⟨id, rfl⟩ <;> exact ⟨rfl, rfl⟩
theorem stS (l off : Nat) {sz : Nat} {x : AV} {xs : List AV} (h : IsV sz x xs) (S : St) : storeC 1 (.ptr l off) x S = (S.obj l).bind fun cs => if off < cs.length then some (passed, S.put l (.cells (cs.set off x))) else none := store_1 l off x (IsV_cell h).1 (IsV_cell h).2
theorem stF (l off : Nat) (g : FuncId) (cap : List AV) (S : St) : storeC 1 (.ptr l off) (.fn (.func g) [] cap) S = (S.obj l).bind fun cs => if off < cs.length then some (passed, S.put l (.cells (cs.set off (.fn (.func g) [] cap)))) else none := store_1 l off _ rfl rfl
theorem loadFn {tm : PM AV} {S : St} {d : Option Tmp} (x : Operand) : opV E tm d (.load 95 x) S = loadC false 1 (E.ev tm x) S := load_chk 95 false 1 (by kernel_rfl) x
theorem storeFn {tm : PM AV} {S : St} {d : Option Tmp} (x y : Operand) : opV E tm d (.store 95 x y) S = storeC 1 (E.ev tm x) (E.ev tm y) S := store_chk (b := false) 95 1 (by kernel_rfl) x y
theorem allocS {tm : PM AV} {S : St} {d : Option Tmp} : opV E tm d (.alloc 31) S = some (.ptr S.no 0, S.born 31 [nilV]) := alloc_of (by kernel_rfl)
theorem allocF {tm : PM AV} {S : St} {d : Option Tmp} : opV E tm d (.alloc 95) S = some (.ptr S.no 0, S.born 95 [.sc .nilFunc]) := alloc_of (by kernel_rfl)
structure Holds (l3 l10 : Nat) (X : AV) (S : St) : Prop where
 f : S.obj l10 = some [.fn (.func 52) [] [.ptr l3 0]]
 x : S.obj l3 = some [X]
 lf : l10 < S.no
 lx : l3 < S.no
theorem Holds.grow {l3 l10 : Nat} {X : AV} {S S' : St} (h : Holds l3 l10 X S) (g : Grow S S' nilV) : Holds l3 l10 X S' := ⟨g.objs h.f h.lf, g.objs h.x h.lx, Nat.lt_of_lt_of_le h.lf g.no, Nat.lt_of_lt_of_le h.lx g.no⟩
theorem load_slc (t : Nat) (X : AV) (S : St) (l : Nat) (h : S.obj l = some [X]) : loadC false 1 (.ptr l 0) S = some (X, S) := by
 rw [load_pb, h]; rfl
set_option maxHeartbeats 4000000 in
theorem known_ans (names : List ByteArray) (X : AV) (hX : IsV 1 X (strsA names)) (hl : names.length ≤ 2 ^ 40) (l3 l10 : Nat) (s : ByteArray) : AnsIn E (Holds l3 l10 X) 52 [.sc (.string s), .ptr l3 0] (.sc (.bool (basicF s || hasF names s))) := ansIn_of fun S hS hH => by
 refine ev52 rfl ?_
 simp only [SXa, reduceCtorEq, Nat.reduceEqDiff, Nat.reduceAdd, call50, r52_0, r52_1, p52]
 refine callK_ans (basic_ans s) (Grow.refl hS nilV) (fun S1 g1 hG => ?_)
 have hH1 := hH.grow g1
 cases c1 : basicF s with
 | true =>
  simp only [SXa, reduceCtorEq, Nat.reduceEqDiff]
  exact ⟨by first | rfl | simp, hG⟩
 | false =>
  simp only [SXa, reduceCtorEq, Nat.reduceEqDiff, load31, call53, load_slc 0 X _ _ hH1.x]
  refine callK_ans (contains_ans names X hX hl s) hG (fun S2 g2 hG2 => ?_)
  simp only [SXa, reduceCtorEq, Nat.reduceEqDiff]
  exact ⟨by first | rfl | simp, hG2⟩
set_option maxHeartbeats 4000000 in
theorem other_ans (names : List ByteArray) (X : AV) (hX : IsV 1 X (strsA names)) (hl : names.length ≤ 2 ^ 40) (l3 l10 : Nat) (s : ByteArray) : AnsIn E (Holds l3 l10 X) 54 [.sc (.string s), .ptr l10 0] (.sc (.bool (otherF names s))) := ansIn_of fun S hS hH => by
 refine ev54 rfl ?_
 simp only [SXa, reduceCtorEq, Nat.reduceEqDiff, Nat.reduceAdd, r54_0, r54_1, p54, loadFn, load_slc 0 _ _ _ hH.f]
 rw [e_callv _ _ _ _ _ (g := 52) (first := []) (cap := [.ptr l3 0]) (by simp only [SXa, reduceCtorEq, Nat.reduceEqDiff]; rfl) rfl]
 simp only [SXa, reduceCtorEq, Nat.reduceEqDiff, List.nil_append, List.cons_append]
 refine callK_in (known_ans names X hX hl l3 l10 s) hH (Grow.refl hS nilV) (fun S1 g1 hG => ?_)
 simp only [SXa, reduceCtorEq, Nat.reduceEqDiff]
 exact ⟨rfl, hG⟩
def Apart (x y : AV) : Prop := ∀ id sz1 xs1 sz2 xs2, x = .vec id sz1 xs1 → y = .vec id sz2 xs2 → id ≤ 2
theorem Apart.symm {x y : AV} (h : Apart x y) : Apart y x := fun id a b c d h1 h2 => h id c d a b h2 h1
theorem Apart.nil (y : AV) : Apart nilV y := fun _ _ _ _ _ h => by cases h
theorem own_lt {S : St} {e : TypeId} {sz : Nat} {x : AV} {xs : List AV} (h : OwnV S e sz x xs) {id a : Nat} {b : List AV} (hx : x = .vec id a b) : id ≤ 2 ∨ id < S.nid := by
 rcases h with ⟨rfl, _⟩ | ⟨i, rfl, hid⟩
 · cases hx
 · cases hx
   rcases hid with h | h | ⟨h, _⟩
   · exact .inl (by omega)
   · exact .inl (by omega)
   · simp only [St.live, Bool.and_eq_true] at h
     exact .inr (Nat.le_of_ble_eq_true h.1.2)
theorem app_two {S S0 : St} {X Y P Q : AV} {xs ys ps qs : List ByteArray} (hX : OwnV S 9 1 X (strsA xs)) (hN : Newish S0 X) (G : Grow S0 S nilV) (hY : IsV 1 Y (strsA ys)) (hb : xs.length + ys.length ≤ 2 ^ 40)
 (hP : OwnV S 9 1 P (strsA ps)) (hQ : OwnV S 9 1 Q (strsA qs)) (aP : Apart X P) (aQ : Apart X Q) :
 ∃ Z S1, builtinA E false .append [31, 31] [X, Y] S = some (Z, S1) ∧ OwnV S1 9 1 Z (strsA (xs ++ ys)) ∧ Newish S0 Z ∧ Grow S0 S1 nilV ∧ S1.no = S.no ∧ (∀ l, S1.obj l = S.obj l) ∧ OwnV S1 9 1 P (strsA ps) ∧ OwnV S1 9 1 Q (strsA qs) ∧ Apart Z P ∧ Apart Z Q := by
 have h2 := G.fresh.1
 by_cases hne : strsA ys = []
 · have : xs ++ ys = xs := by
    cases ys with
    | nil => simp
    | cons a r => simp [strsA] at hne
   rw [this]
   rw [hne] at hY
   exact ⟨X, S, app_empty el31 und31 hX.is hY, hX, hN, G, rfl, fun _ => rfl, hP, hQ, aP, aQ⟩
 · rw [← strsA_app]
   have ga := Grow.app G.fresh hX
   refine ⟨_, _, app_own el31 und31 G.fresh hX hY hne (allSz_strs _) (by rw [strsA_len, strsA_len]; omega), appS_own G.fresh hX, .inr (.inr ⟨_, _, _, rfl, G.nid⟩), G.app2 hX hN, appS_noX _ _ _, appS_objX _ _ _,
    hP.grow ga aP.symm, hQ.grow ga aQ.symm, fun id a b c d e1 e2 => ?_, fun id a b c d e1 e2 => ?_⟩
   · cases e1
     rcases own_lt hP e2 with h | h <;> omega
   · cases e1
     rcases own_lt hQ e2 with h | h <;> omega
theorem all_drop {α : Type} (p : α → Bool) {l : List α} {k : Nat} (hk : k < l.length) : (l.drop k).all p = (p l[k] && (l.drop (k + 1)).all p) := by
 rw [List.drop_eq_getElem_cons hk, List.all_cons]
theorem bsl1' (a : ByteArray) : IsV 1 (.vec 1 1 [.sc (.string a)]) (strsA [a]) := IsV.vec 1 1 _
set_option maxHeartbeats 64000000 in
theorem decls_ans (ds : List DeclV) (tx : AV) (ht : IsV 2 tx (typesA ds)) (hl : ds.length ≤ 1000) (hlc : ∀ d ∈ ds, d.cons.length ≤ 2 ^ 40) : Ans E 27 [tx] (.sc (.bool (declsF ds))) := ans_of fun S hS => by
 refine ev27 rfl ?_
 have hG := (Grow.refl hS nilV).born 31 [nilV]
 have h0 : (S.born 31 [nilV]).obj S.no = some [nilV] := by simp [born_obj]
 have hn : S.no < (S.born 31 [nilV]).no := Nat.lt_succ_self _
 simp only [SXa, reduceCtorEq, Nat.reduceEqDiff, Nat.reduceAdd, len23, r27_0, r27_1, r27_2, r27_19, r27_20, r27_21, p27, allocS, lenD ht]
 generalize S.born 31 [nilV] = S1 at hG h0 hn
 refine e_loop (fun tm S' N => ∃ (k : Nat) (X1 X2 X3 : AV) (w1 w2 w3 : List ByteArray), k ≤ ds.length ∧ N = ds.length - k ∧ (ds.drop k).all okD = ds.all okD ∧ w1 ++ namesOf (ds.drop k) = namesOf ds ∧ w2 ++ consOf (ds.drop k) = consOf ds ∧ w3 ++ argsOf (ds.drop k) = argsOf ds ∧ w1.length ≤ k ∧ w2.length ≤ 20 * k ∧ w3.length ≤ 60 * k ∧
  OwnV S' 9 1 X1 (strsA w1) ∧ OwnV S' 9 1 X2 (strsA w2) ∧ OwnV S' 9 1 X3 (strsA w3) ∧ Newish S X1 ∧ Newish S X2 ∧ Newish S X3 ∧ Apart X1 X2 ∧ Apart X1 X3 ∧ Apart X2 X3 ∧ S'.obj S.no = some [X1] ∧ Grow S S' nilV ∧ S.no < S'.no ∧
  getT tm 0 = tx ∧ getT tm 3 = .ptr S.no 0 ∧ getT tm 4 = X2 ∧ getT tm 5 = X3 ∧ getT tm 12 = tx ∧ getT tm 13 = .sc (.int .i64 (ds.length : Nat)) ∧ getT tm 14 = .sc (.int .i64 (k : Int))) ds.length
  ⟨0, nilV, nilV, nilV, [], [], [], by omega, by omega, by rw [List.drop_zero], rfl, rfl, rfl, by simp, by simp, by simp, OwnV.nil' _ _ _, OwnV.nil' _ _ _, OwnV.nil' _ _ _, .inl rfl, .inl rfl, .inl rfl, Apart.nil _, Apart.nil _, Apart.nil _, h0, hG, hn, by simp [getT_setD]⟩ ?_
 rintro tm S2 N ⟨k, X1, X2, X3, w1, w2, w3, hk, rfl, hall, hw1, hw2, hw3, hl1, hl2, hl3, hX1, hX2, hX3, hN1, hN2, hN3, a12, a13, a23, ho, hG2, hn2, t0, t3, t4, t5, t12, t13, t14⟩
 by_cases hlt : k < ds.length
 case neg =>
  have hke : k = ds.length := by omega
  subst hke
  rw [List.drop_length] at hall hw1 hw2 hw3
  simp only [namesOf, consOf, argsOf, List.map_nil, List.flatMap_nil, List.append_nil] at hw1 hw2 hw3
  have hw1 : w1 = namesOf ds := hw1
  have hw2 : w2 = consOf ds := hw2
  have hw3 : w3 = argsOf ds := hw3
  subst hw1; subst hw2; subst hw3
  have hd : declsF ds = (decide (ds.length ≤ 20) && !twiceF [] (namesOf ds) && !twiceF [] (consOf ds) && !(argsOf ds).any (otherF (namesOf ds))) := by
   unfold declsF; rw [← hall]; rfl
  rw [hd]
  have hne : S.no ≠ S2.no := by omega
  have hG3 := (hG2.born 95 [.sc .nilFunc]).put S2.no (.cells [.fn (.func 52) [] [.ptr S.no 0]]) hG2.no
  have hH3 : Holds S.no S2.no X1 ((S2.born 95 [.sc .nilFunc]).put S2.no (.cells [.fn (.func 52) [] [.ptr S.no 0]])) := ⟨by simp [put_obj], by simp [put_obj, born_obj, hne, ho], Nat.lt_succ_self _, Nat.lt_succ_of_lt hn2⟩
  simp only [SXa, reduceCtorEq, Nat.reduceEqDiff, len23, b27_18, r27_3, r27_4, r27_5, r27_6, r27_7, r27_8, r27_17, t0, t3, t13, t14, dec_nlt hlt, op_mf, allocF, storeFn, stF, born_obj, Option.bind_some, Nat.zero_add, Nat.lt_succ_self, List.set_cons_zero, lenD ht]
  generalize ((S2.born 95 [.sc .nilFunc]).put S2.no (.cells [.fn (.func 52) [] [.ptr S.no 0]])) = S3 at hG3 hH3
  cases c1 : decide ((ds.length : Int) ≤ 20) with
  | false =>
   have c2 : decide (ds.length ≤ 20) = false := by simp only [decide_eq_false_iff_not] at c1 ⊢; omega
   simp only [SXa, Nat.reduceEqDiff]
   exact ⟨by rw [c2]; first | rfl | simp, hG3⟩
  | true =>
  have c2 : decide (ds.length ≤ 20) = true := by simp only [decide_eq_true_eq] at c1 ⊢; omega
  rw [c2, Bool.true_and]
  simp only [SXa, Nat.reduceEqDiff, load31, call30, t3, load_slc 0 _ _ _ hH3.x]
  refine callK_ans (twice_ans (namesOf ds) X1 hX1.is (by omega)) hG3 (fun S4 g4 hG4 => ?_)
  have hH4 := hH3.grow g4
  cases c3 : twiceF [] (namesOf ds) with
  | true =>
   simp only [SXa, Nat.reduceEqDiff]
   exact ⟨by first | rfl | simp, hG4⟩
  | false =>
  simp only [SXa, Nat.reduceEqDiff, call30, t4]
  refine callK_ans (twice_ans (consOf ds) X2 hX2.is (by omega)) hG4 (fun S5 g5 hG5 => ?_)
  have hH5 := hH4.grow g5
  cases c4 : twiceF [] (consOf ds) with
  | true =>
   simp only [SXa, Nat.reduceEqDiff]
   exact ⟨by first | rfl | simp, hG5⟩
  | false =>
  simp only [SXa, Nat.reduceEqDiff, call55, t5]
  refine callK_in (containsf_ans (Holds S.no S2.no X1) (fun _ _ h g => h.grow g) 54 [.ptr S2.no 0] (otherF (namesOf ds)) (fun s => other_ans (namesOf ds) X1 hX1.is (by omega) S.no S2.no s) rfl (argsOf ds) X3 hX3.is (by omega)) hH5 hG5 (fun S6 g6 hG6 => ?_)
  simp only [SXa, Nat.reduceEqDiff]
  exact ⟨by first | rfl | simp, hG6⟩
 case pos =>
  have wk := wrapK hlt (by omega)
  have hmem := List.getElem_mem hlt
  have hcl := hlc _ hmem
  rw [all_drop _ hlt] at hall
  have hd0 : okD ds[k] = false → declsF ds = false := fun h => by
   unfold declsF; rw [← hall, h]; rfl
  have hG3 := (hG2.born 56 [.sc (.string ⟨#[]⟩), .sc (.slice none 0 0)]).put S2.no (.cells (declA ds[k])) hG2.no
  have h3 : ((S2.born 56 [.sc (.string ⟨#[]⟩), .sc (.slice none 0 0)]).put S2.no (.cells (declA ds[k]))).obj S2.no = some (declA ds[k]) := by simp [put_obj]
  have hgr : Grow S2 ((S2.born 56 [.sc (.string ⟨#[]⟩), .sc (.slice none 0 0)]).put S2.no (.cells (declA ds[k]))) nilV := ((Grow.refl hG2.fresh nilV).born _ _).put S2.no _ (Nat.le_refl _)
  have n3 : S2.no < ((S2.born 56 [.sc (.string ⟨#[]⟩), .sc (.slice none 0 0)]).put S2.no (.cells (declA ds[k]))).no := Nat.lt_succ_self _
  simp only [declA] at hG3 h3 hgr n3
  simp only [SXa, Nat.reduceEqDiff, Nat.reduceAdd, index23, load56, store56, b27_18, r27_3, r27_4, r27_5, r27_6, r27_7, r27_8, r27_17, t12, t13, t14, dec_lt hlt, idxD ht hlt, declA, allocD, stD, born_obj, Option.bind_some, Nat.zero_add, Nat.le_refl, List.drop_nil]
  generalize ((S2.born 56 [.sc (.string ⟨#[]⟩), .sc (.slice none 0 0)]).put S2.no (.cells [.sc (.string ds[k].name), (consV ds[k])])) = S3 at hG3 h3 hgr n3
  simp only [SXa, Nat.reduceEqDiff, load9, call49, load_pb, h3, fldD0, fld_p, Option.bind_some, Nat.add_zero]
  refine callK_ans (isName_ans _) hG3 (fun S4 g4 hG4 => ?_)
  have h4 := g4.objs h3 n3
  have n4 := Nat.lt_of_lt_of_le n3 g4.no
  have hgr4 := hgr.two g4
  cases c1 : isNameF ds[k].name with
  | false =>
   simp only [SXa, Nat.reduceEqDiff]
   exact ⟨by rw [hd0 (by simp only [okD, c1, Bool.false_and])], hG4⟩
  | true =>
  simp only [SXa, Nat.reduceEqDiff, load9, call50, load_pb, h4, fldD0, fld_p, Option.bind_some, Nat.add_zero]
  refine callK_ans (basic_ans _) hG4 (fun S5 g5 hG5 => ?_)
  have h5 := g5.objs h4 n4
  have n5 := Nat.lt_of_lt_of_le n4 g5.no
  have hgr5 := hgr4.two g5
  cases c2 : basicF ds[k].name with
  | true =>
   simp only [SXa, Nat.reduceEqDiff]
   exact ⟨by rw [hd0 (by simp only [okD, c1, c2, Bool.not_true, Bool.and_false, Bool.false_and])], hG5⟩
  | false =>
  simp only [SXa, Nat.reduceEqDiff, load54, len54, load_pb, h5, fldD1, fld_p, Option.bind_some, Nat.zero_add, lenCv]
  cases c3 : decide ((ds[k].cons.length : Int) < 1) with
  | true =>
   have c3' : decide (1 ≤ ds[k].cons.length) = false := by simp only [decide_eq_true_eq, decide_eq_false_iff_not] at c3 ⊢; omega
   simp only [SXa, Nat.reduceEqDiff]
   exact ⟨by rw [hd0 (by simp only [okD, c3', Bool.and_false, Bool.false_and])], hG5⟩
  | false =>
  simp only [SXa, Nat.reduceEqDiff, load54, len54, load_pb, h5, fldD1, fld_p, Option.bind_some, Nat.zero_add, lenCv]
  cases c4 : decide ((20 : Int) < (ds[k].cons.length : Int)) with
  | true =>
   have c4' : decide (ds[k].cons.length ≤ 20) = false := by simp only [decide_eq_true_eq, decide_eq_false_iff_not] at c4 ⊢; omega
   simp only [SXa, Nat.reduceEqDiff]
   exact ⟨by rw [hd0 (by simp only [okD, c4', Bool.and_false, Bool.false_and])], hG5⟩
  | false =>
  have c3' : decide (1 ≤ ds[k].cons.length) = true := by simp only [decide_eq_true_eq, decide_eq_false_iff_not] at c3 ⊢; omega
  have c4n : ds[k].cons.length ≤ 20 := by simp only [decide_eq_false_iff_not] at c4; omega
  have c4' : decide (ds[k].cons.length ≤ 20) = true := decide_eq_true c4n
  have hok : okD ds[k] = ds[k].cons.all okC := by simp only [okD, c1, c2, c3', c4', Bool.not_false, Bool.and_self, Bool.true_and]
  rw [hok] at hall
  have hd1 : ds[k].cons.all okC = false → declsF ds = false := fun h => hd0 (by rw [hok]; exact h)
  have ho5 : S5.obj S.no = some [X1] := hgr5.objs ho hn2
  have hn5 : S.no < S5.no := Nat.lt_of_lt_of_le hn2 hgr5.no
  obtain ⟨Z1, S6, ap6, hZ1, hNZ1, hG6, no6, ob6, hX2', hX3', aZ2, aZ3⟩ := app_two (hX1.keep hgr5) hN1 hG5 (bsl1' ds[k].name) (by simp only [List.length_cons, List.length_nil]; omega) (hX2.keep hgr5) (hX3.keep hgr5) a12 a13
  have ho6 : S6.obj S.no = some [X1] := by rw [ob6]; exact ho5
  have h6 := ob6 S2.no
  rw [h5] at h6
  have stZ := fun S' => stS S.no 0 hZ1.is S'
  simp only [SXa, Nat.reduceEqDiff, Nat.reduceBEq, load9, load31, store31, bs31, app31, t3, load_slc 0 _ _ _ ho5, load_pb, h5, fldD0, fld_p, Option.bind_some, Nat.add_zero, Nat.zero_add, bsl1, ap6, stZ, ho6, Nat.lt_succ_self, List.set_cons_zero]
  have hne : S2.no ≠ S.no := by omega
  have hG7 := hG6.put S.no (.cells [Z1]) (Nat.le_refl _)
  have ho7 : (S6.put S.no (.cells [Z1])).obj S.no = some [Z1] := by simp [put_obj]
  have h7 : (S6.put S.no (.cells [Z1])).obj S2.no = some [.sc (.string ds[k].name), (consV ds[k])] := by simp [put_obj, hne, h6]
  have n7 : S.no < (S6.put S.no (.cells [Z1])).no := by show S.no < S6.no; omega
  have hZ7 : OwnV (S6.put S.no (.cells [Z1])) 9 1 Z1 (strsA (w1 ++ [ds[k].name])) := hZ1
  have hX27 : OwnV (S6.put S.no (.cells [Z1])) 9 1 X2 (strsA w2) := hX2'
  have hX37 : OwnV (S6.put S.no (.cells [Z1])) 9 1 X3 (strsA w3) := hX3'
  generalize S6.put S.no (.cells [Z1]) = S7 at hG7 ho7 h7 n7 hZ7 hX27 hX37
  simp only [SXa, Nat.reduceEqDiff, load54, len54, load_pb, h7, fldD1, fld_p, Option.bind_some, Nat.zero_add, lenCv]
  have hc0 : consOf (ds.drop k) = ds[k].cons.map (fun c => c.name) ++ consOf (ds.drop (k + 1)) := by simp only [consOf]; rw [List.drop_eq_getElem_cons hlt, List.flatMap_cons]
  have ha0 : argsOf (ds.drop k) = ds[k].cons.flatMap (fun c => c.args) ++ argsOf (ds.drop (k + 1)) := by simp only [argsOf]; rw [List.drop_eq_getElem_cons hlt, List.flatMap_cons]
  have hm0 : namesOf (ds.drop k) = ds[k].name :: namesOf (ds.drop (k + 1)) := by simp only [namesOf]; rw [List.drop_eq_getElem_cons hlt, List.map_cons]
  rw [hc0, ← List.append_assoc] at hw2
  rw [ha0, ← List.append_assoc] at hw3
  have hw1' : (w1 ++ [ds[k].name]) ++ namesOf (ds.drop (k + 1)) = namesOf ds := by rw [← hw1, hm0]; simp
  refine e_loop (fun tm S' N => ∃ (j : Nat) (Y2 Y3 : AV) (v2 v3 : List ByteArray), j ≤ ds[k].cons.length ∧ N = ds[k].cons.length - j ∧ (ds[k].cons.drop j).all okC = ds[k].cons.all okC ∧ (v2 ++ (ds[k].cons.drop j).map (fun c => c.name)) ++ consOf (ds.drop (k + 1)) = consOf ds ∧ (v3 ++ (ds[k].cons.drop j).flatMap (fun c => c.args)) ++ argsOf (ds.drop (k + 1)) = argsOf ds ∧
   v2.length ≤ 20 * k + j ∧ v3.length ≤ 60 * k + 3 * j ∧ OwnV S' 9 1 Z1 (strsA (w1 ++ [ds[k].name])) ∧ OwnV S' 9 1 Y2 (strsA v2) ∧ OwnV S' 9 1 Y3 (strsA v3) ∧ Newish S Y2 ∧ Newish S Y3 ∧ Apart Z1 Y2 ∧ Apart Z1 Y3 ∧ Apart Y2 Y3 ∧ S'.obj S.no = some [Z1] ∧ Grow S S' nilV ∧ S.no < S'.no ∧
   getT tm 0 = tx ∧ getT tm 3 = .ptr S.no 0 ∧ getT tm 4 = Y2 ∧ getT tm 5 = Y3 ∧ getT tm 12 = tx ∧ getT tm 13 = .sc (.int .i64 (ds.length : Nat)) ∧ getT tm 14 = .sc (.int .i64 (k : Int)) ∧ getT tm 45 = (consV ds[k]) ∧ getT tm 46 = .sc (.int .i64 (ds[k].cons.length : Nat)) ∧ getT tm 47 = .sc (.int .i64 (j : Int))) ds[k].cons.length
   ⟨0, X2, X3, w2, w3, by omega, by omega, by rw [List.drop_zero], hw2, hw3, by omega, by omega, hZ7, hX27, hX37, hN2, hN3, aZ2, aZ3, a23, ho7, hG7, n7, by simp [getT_setD, t0, t3, t4, t5, t12, t13, t14]⟩ ?_
  rintro tm S8 N ⟨j, Y2, Y3, v2, v3, hj, rfl, hall2, hv2, hv3, hm2, hm3, hZ8, hY2, hY3, hN2, hN3, aZ2, aZ3, a23, ho8, hG8, n8, t0, t3, t4, t5, t12, t13, t14, t45, t46, t47⟩
  by_cases hjt : j < ds[k].cons.length
  case neg =>
   have hje : j = ds[k].cons.length := by omega
   rw [hje, List.drop_length] at hall2 hv2 hv3
   simp only [List.map_nil, List.flatMap_nil, List.append_nil] at hv2 hv3
   have hall3 : (ds.drop (k + 1)).all okD = ds.all okD := by rw [← hall, ← hall2]; rfl
   simp only [SXa, reduceCtorEq, Nat.reduceEqDiff, b27_16, r27_9, r27_10, r27_11, r27_12, r27_13, r27_14, r27_15, t0, t3, t4, t5, t12, t13, t14, t46, t47, dec_nlt hjt, wk]
   exact ⟨ds.length - (k + 1), by omega, k + 1, Z1, Y2, Y3, w1 ++ [ds[k].name], v2, v3, by omega, rfl, hall3, hw1', hv2, hv3, by simp only [List.length_append, List.length_cons, List.length_nil]; omega, by omega, by omega, hZ8, hY2, hY3, hNZ1, hN2, hN3, aZ2, aZ3, a23, ho8, hG8, n8, by simp []⟩
  case pos =>
  have wj := wrapK hjt (by omega)
  rw [all_drop _ hjt] at hall2
  have hd2 : okC ds[k].cons[j] = false → declsF ds = false := fun h => hd1 (by rw [← hall2, h]; rfl)
  have hG9 := (hG8.born 58 [.sc (.string ⟨#[]⟩), .sc (.slice none 0 0)]).put S8.no (.cells (conA ds[k].cons[j])) hG8.no
  have h9 : ((S8.born 58 [.sc (.string ⟨#[]⟩), .sc (.slice none 0 0)]).put S8.no (.cells (conA ds[k].cons[j]))).obj S8.no = some (conA ds[k].cons[j]) := by simp [put_obj]
  have hgr9 : Grow S8 ((S8.born 58 [.sc (.string ⟨#[]⟩), .sc (.slice none 0 0)]).put S8.no (.cells (conA ds[k].cons[j]))) nilV := ((Grow.refl hG8.fresh nilV).born _ _).put S8.no _ (Nat.le_refl _)
  have n9 : S8.no < ((S8.born 58 [.sc (.string ⟨#[]⟩), .sc (.slice none 0 0)]).put S8.no (.cells (conA ds[k].cons[j]))).no := Nat.lt_succ_self _
  simp only [conA] at hG9 h9 hgr9 n9
  simp only [SXa, Nat.reduceEqDiff, Nat.reduceAdd, index54, load58, store58, b27_16, r27_9, r27_10, r27_11, r27_12, r27_13, r27_14, r27_15, t45, t46, t47, dec_lt hjt, idxC hjt, conA, allocC, stC, born_obj, Option.bind_some, Nat.zero_add, Nat.le_refl, List.drop_nil]
  generalize ((S8.born 58 [.sc (.string ⟨#[]⟩), .sc (.slice none 0 0)]).put S8.no (.cells [.sc (.string ds[k].cons[j].name), (argsA ds[k].cons[j])])) = S9 at hG9 h9 hgr9 n9
  simp only [SXa, Nat.reduceEqDiff, load9, call51, load_pb, h9, fldC0, fld_p, Option.bind_some, Nat.add_zero]
  refine callK_ans (isCon_ans _) hG9 (fun Sa ga hGa => ?_)
  have ha := ga.objs h9 n9
  have hgra := hgr9.two ga
  cases c5 : isConF ds[k].cons[j].name with
  | false =>
   simp only [SXa, Nat.reduceEqDiff]
   exact ⟨by rw [hd2 (by simp only [okC, c5, Bool.false_and])], hGa⟩
  | true =>
  simp only [SXa, Nat.reduceEqDiff, load31, len31, load_pb, ha, fldC1, fld_p, Option.bind_some, Nat.zero_add, lenAr]
  cases c6 : decide ((3 : Int) < (ds[k].cons[j].args.length : Int)) with
  | true =>
   have c6' : decide (ds[k].cons[j].args.length ≤ 3) = false := by simp only [decide_eq_true_eq, decide_eq_false_iff_not] at c6 ⊢; omega
   simp only [SXa, Nat.reduceEqDiff]
   exact ⟨by rw [hd2 (by simp only [okC, c6', Bool.and_false])], hGa⟩
  | false =>
  have c6n : ds[k].cons[j].args.length ≤ 3 := by simp only [decide_eq_false_iff_not] at c6; omega
  have hok2 : okC ds[k].cons[j] = true := by simp only [okC, c5, decide_eq_true c6n, Bool.and_self]
  obtain ⟨Zb, Sb, apb, hZb, hNb, hGb, nob, obb, hZ1b, hY3b, aZb1, aZb3⟩ := app_two (hY2.keep hgra) hN2 hGa (bsl1' ds[k].cons[j].name) (by simp only [List.length_cons, List.length_nil]; omega) (hZ8.keep hgra) (hY3.keep hgra) aZ2.symm a23
  obtain ⟨Zc, Sc, apc, hZc, hNc, hGc, noc, obc, hZ1c, hZbc, aZc1, aZcb⟩ := app_two hY3b hN3 hGb (isAr ds[k].cons[j]) (by omega) hZ1b hZb aZ3.symm aZb3.symm
  have hb := obb S8.no
  rw [ha] at hb
  have hoc : Sc.obj S.no = some [Z1] := by rw [obc, obb]; exact hgra.objs ho8 n8
  have nc : S.no < Sc.no := by rw [noc, nob]; exact Nat.lt_of_lt_of_le n8 hgra.no
  simp only [SXa, reduceCtorEq, Nat.reduceEqDiff, Nat.reduceBEq, load9, load31, bs31, app31, t0, t3, t4, t5, t12, t13, t14, t45, t46, t47, load_pb, ha, hb, fldC0, fldC1, fld_p, Option.bind_some, Nat.add_zero, Nat.zero_add, bsl1, apb, apc, wj]
  rw [List.drop_eq_getElem_cons hjt, List.map_cons] at hv2
  rw [List.drop_eq_getElem_cons hjt, List.flatMap_cons] at hv3
  exact ⟨ds[k].cons.length - (j + 1), by omega, j + 1, Zb, Zc, v2 ++ [ds[k].cons[j].name], v3 ++ ds[k].cons[j].args, by omega, rfl, by rw [← hall2, hok2, Bool.true_and], by rw [← hv2]; simp, by rw [← hv3]; simp, by simp only [List.length_append, List.length_cons, List.length_nil]; omega, by simp only [List.length_append]; omega, hZ1c, hZbc, hZc, hNb, hNc, aZb1.symm, aZc1.symm, aZcb.symm, hoc, hGc, nc, by simp []⟩
end Go.Proofs.YtmmnkemcplgebaaGreatDoor
end
end

section
section
set_option linter.unusedSimpArgs false
set_option linter.unusedVariables false
set_option maxRecDepth 100000
namespace Go.Proofs.YtmmnkemcplgebaaGreatDoor
open Go.Abs
theorem bldWk {nx tx : AV} {xs ys : List AV} (h1 : IsV 7 nx xs) (h2 : IsV 2 tx ys) (S : St) : buildA E 62 [(0, .agg [nx, tx])] S = some (.agg [nx, tx, .sc (.int .i64 0)], S) := by
 rcases h1 with ⟨rfl, _⟩ | ⟨i, rfl⟩ <;> rcases h2 with ⟨rfl, _⟩ | ⟨j, rfl⟩ <;> kernel_rfl
theorem kids_sub {ns : List NodeV} {ds : List DeclV} {d : Nat} (ih : ∀ p a z, walkF ns ds d p a = some z → ∀ i, a ≤ i → i < z → ∃ d' p' z', d' ≤ d ∧ walkF ns ds d' p' i = some z') (pat m : Bool) : ∀ (l : List Int) (j nx z : Nat), kidsW (walkF ns ds d) pat m l j nx = some z → ∀ i, nx ≤ i → i < z → ∃ d' p' z', d' ≤ d ∧ walkF ns ds d' p' i = some z'
 | [], j, nx, z, h, i, h1, h2 => by
  simp only [kidsW, Option.some.injEq] at h
  omega
 | k :: r, j, nx, z, h, i, h1, h2 => by
  unfold kidsW at h
  cases hb : (k == ((nx : Nat) : Int)) with
  | false => rw [hb] at h; cases h
  | true =>
   rw [hb, cond_true] at h
   cases hq : walkF ns ds d (pat || (m && armF ((j : Nat) : Int))) nx with
   | none => rw [hq] at h; cases h
   | some z1 =>
    rw [hq] at h
    by_cases hi : i < z1
    · exact ih _ _ _ hq i h1 hi
    · exact kids_sub ih pat m r (j + 1) z1 z h i (by omega) h2
theorem walk_sub (ns : List NodeV) (ds : List DeclV) : ∀ (d : Nat) (pat : Bool) (a z : Nat), walkF ns ds d pat a = some z → ∀ i, a ≤ i → i < z → ∃ d' p' z', d' ≤ d ∧ walkF ns ds d' p' i = some z'
 | 0, pat, a, z, h, i, h1, h2 => by cases h
 | d + 1, pat, a, z, h, i, h1, h2 => by
  by_cases hi : i = a
  · subst hi
    exact ⟨d + 1, pat, z, Nat.le_refl _, h⟩
  · unfold walkF at h
    cases hx : ns[a]? with
    | none => rw [hx] at h; cases h
    | some x =>
     rw [hx] at h
     simp only [cond_eq_ite] at h
     split at h
     · cases h
     · obtain ⟨d', p', z', k1, k2⟩ := kids_sub (walk_sub ns ds d) pat (x.kind == 11) x.kids 0 (a + 1) z h i (by omega) h2
       exact ⟨d', p', z', by omega, k2⟩
set_option maxHeartbeats 32000000 in
theorem good_ans (t : TreeV) (nx tx : AV) (ht : TreeIs nx tx t) : Ans E 9 [.agg [nx, tx]] (.sc (.bool (goodF t))) := ans_of fun S hS => by
 refine ev9 rfl ?_
 have hG := (Grow.refl hS nilV).born 25 [nx, tx]
 have hT : (S.born 25 [nx, tx]).obj S.no = some [nx, tx] := by simp [born_obj]
 have hn : S.no < (S.born 25 [nx, tx]).no := Nat.lt_succ_self _
 simp only [SXa, Nat.reduceAdd, r9_0, r9_1, r9_2, r9_3, r9_4, r9_5, r9_6, r9_13, p9, op_box, cells_agg]
 generalize S.born 25 [nx, tx] = S0 at hG hT hn
 simp only [SXa, reduceCtorEq, Nat.reduceEqDiff, load22, len22, load_pb, hT, fldT0, fld_p, Option.bind_some, Nat.add_zero, lenN ht.nodes]
 cases c1 : decide ((t.nodes.length : Int) < 1) with
 | true =>
  have c1' : decide (1 ≤ t.nodes.length) = false := by simp only [decide_eq_true_eq, decide_eq_false_iff_not] at c1 ⊢; omega
  simp only [SXa, reduceCtorEq, Nat.reduceEqDiff]
  exact ⟨by simp only [goodF, c1', Bool.false_and], hG⟩
 | false =>
 have c1' : decide (1 ≤ t.nodes.length) = true := by simp only [decide_eq_true_eq, decide_eq_false_iff_not] at c1 ⊢; omega
 simp only [SXa, reduceCtorEq, Nat.reduceEqDiff, load22, len22, load_pb, hT, fldT0, fld_p, Option.bind_some, Nat.add_zero, lenN ht.nodes]
 cases c2 : decide ((1000 : Int) < (t.nodes.length : Int)) with
 | true =>
  have c2' : decide (t.nodes.length ≤ 1000) = false := by simp only [decide_eq_true_eq, decide_eq_false_iff_not] at c2 ⊢; omega
  simp only [SXa, reduceCtorEq, Nat.reduceEqDiff]
  exact ⟨by simp only [goodF, c2', Bool.and_false, Bool.false_and], hG⟩
 | false =>
 have c2n : t.nodes.length ≤ 1000 := by simp only [decide_eq_false_iff_not] at c2; omega
 have c2' : decide (t.nodes.length ≤ 1000) = true := decide_eq_true c2n
 simp only [SXa, reduceCtorEq, Nat.reduceEqDiff, load23, call27, load_pb, hT, fldT1, fld_p, Option.bind_some, Nat.zero_add]
 refine callK_ans (decls_ans t.types tx ht.types ht.lt ht.lc) hG (fun S1 g1 hG1 => ?_)
 have hT1 := g1.objs hT hn
 have hn1 := Nat.lt_of_lt_of_le hn g1.no
 cases c3 : declsF t.types with
 | false =>
  simp only [SXa, reduceCtorEq, Nat.reduceEqDiff]
  exact ⟨by simp only [goodF, c3, Bool.and_false, Bool.false_and], hG1⟩
 | true =>
 have eg : goodF t = ((match walkF t.nodes t.types 60 false 0 with | some z => ((z : Int) == (t.nodes.length : Int)) | none => false) && patsOk t.nodes t.nodes.length 0) := by
  simp only [goodF, c1', c2', c3, Bool.true_and]
  rfl
 have hGw := hG1.born 62 [nx, tx, .sc (.int .i64 0)]
 have hW : (S1.born 62 [nx, tx, .sc (.int .i64 0)]).obj S1.no = some [nx, tx, .sc (.int .i64 ((0 : Nat) : Int))] := by simp [born_obj]
 have hTw : (S1.born 62 [nx, tx, .sc (.int .i64 0)]).obj S.no = some [nx, tx] := by
  have : S.no ≠ S1.no := by omega
  simp [born_obj, this, hT1]
 have nw : S1.no < (S1.born 62 [nx, tx, .sc (.int .i64 0)]).no := Nat.lt_succ_self _
 simp only [SXa, reduceCtorEq, Nat.reduceEqDiff, Nat.reduceAdd, load25, call28, load_pb, hT1, Option.bind_some, Nat.zero_add, Nat.le_refl, op_build, bldWk ht.nodes ht.types, op_box, cells_agg]
 generalize S1.born 62 [nx, tx, .sc (.int .i64 0)] = S2 at hGw hW hTw nw
 have gr := Grow.raise hGw.fresh 13 nilV
 have hG3 := hGw.two gr
 have hW3 := gr.objs hW nw
 have hT3 := gr.objs hTw (by omega)
 have n3 := Nat.lt_of_lt_of_le nw gr.no
 generalize S2.raise 13 = S3 at gr hG3 hW3 hT3 n3
 obtain ⟨r4, S4, e4, w4, g4⟩ := walk_ok t nx tx ht 60 (Nat.le_refl _) false 0 (by omega) S3 S1.no hG3.fresh n3 hW3
 have hG4 := hG3.but g4 (by have := hG1.no; omega)
 have hT4 := g4.objs hT3 (by omega) (by omega)
 have n4 : S.no < S4.no := by have := g4.no; omega
 have e4 : EvA E 28 [.ptr S1.no 0, .sc (.bool false), .sc (.int .i64 0)] S3 r4 S4 := e4
 refine callK_of e4 ?_
 rw [eg]
 cases hw : walkF t.nodes t.types 60 false 0 with
 | none =>
  rw [hw] at w4
  simp only [Walked] at w4
  subst w4
  simp only [SXa, reduceCtorEq, Nat.reduceEqDiff]
  exact ⟨by first | rfl | simp, hG4⟩
 | some z =>
 rw [hw] at w4
 obtain ⟨rfl, hz4⟩ := w4
 simp only [SXa, reduceCtorEq, Nat.reduceEqDiff, load3, load22, len22, op_nilCheck, chk_p, fldW_1, fldT0, fld_p, load_pb, hz4, hT4, Option.bind_some, Nat.add_zero, Nat.zero_add, lenN ht.nodes]
 cases c5 : ((z : Int) == (t.nodes.length : Int)) with
 | false =>
  have c5' : ((z : Int) != (t.nodes.length : Int)) = true := by rw [bne, c5]; rfl
  simp only [SXa, reduceCtorEq, Nat.reduceEqDiff, c5']
  exact ⟨by first | rfl | simp, hG4⟩
 | true =>
 have c5' : ((z : Int) != (t.nodes.length : Int)) = false := by rw [bne, c5]; rfl
 have hz : z = t.nodes.length := by have : (z : Int) = (t.nodes.length : Int) := by simpa using c5
                                    omega
 simp only [SXa, reduceCtorEq, Nat.reduceEqDiff, load22, len22, c5', load_pb, hT4, fldT0, fld_p, Option.bind_some, Nat.add_zero, lenN ht.nodes]
 rw [Bool.true_and]
 refine e_loop (fun tm S' N => ∃ k : Nat, k ≤ t.nodes.length ∧ N = t.nodes.length - k ∧ patsOk t.nodes (t.nodes.length - k) k = patsOk t.nodes t.nodes.length 0 ∧ S'.obj S.no = some [nx, tx] ∧ Grow S S' nilV ∧ S.no < S'.no ∧ getT tm 1 = .ptr S.no 0 ∧ getT tm 39 = nx ∧ getT tm 40 = .sc (.int .i64 (t.nodes.length : Nat)) ∧ getT tm 41 = .sc (.int .i64 (k : Int))) t.nodes.length
  ⟨0, by omega, by omega, rfl, hT4, hG4, n4, by simp [getT_setD]⟩ ?_
 rintro tm S5 N ⟨k, hk, rfl, hp, hT5, hG5, n5, t1, t39, t40, t41⟩
 by_cases hlt : k < t.nodes.length
 case neg =>
  have hke : k = t.nodes.length := by omega
  rw [hke, Nat.sub_self, patsOk] at hp
  simp only [SXa, Nat.reduceEqDiff, b9_12, r9_7, r9_8, r9_9, r9_10, r9_11, t40, t41, dec_nlt hlt]
  exact ⟨by rw [← hp], hG5⟩
 case pos =>
 have wk := wrapK hlt (by omega)
 have hx : t.nodes[k]? = some t.nodes[k] := List.getElem?_eq_getElem hlt
 have hpk : patsOk t.nodes (t.nodes.length - k) k = bif patF t.nodes[k].kind && twiceF [] (bindsF t.nodes 60 k) then false else patsOk t.nodes (t.nodes.length - (k + 1)) (k + 1) := by
  have : t.nodes.length - k = (t.nodes.length - (k + 1)) + 1 := by omega
  rw [this, patsOk, badP, hx]
 rw [hpk] at hp
 have hG6 := (hG5.born 30 zN).put S5.no (.cells (nodeA t.nodes[k])) hG5.no
 have hN6 : ((S5.born 30 zN).put S5.no (.cells (nodeA t.nodes[k]))).obj S5.no = some (nodeA t.nodes[k]) := by simp [put_obj]
 have hT6 : ((S5.born 30 zN).put S5.no (.cells (nodeA t.nodes[k]))).obj S.no = some [nx, tx] := by
  have : S.no ≠ S5.no := by omega
  simp [put_obj, born_obj, this, hT5]
 have n6 : S.no < ((S5.born 30 zN).put S5.no (.cells (nodeA t.nodes[k]))).no := Nat.lt_succ_of_lt n5
 simp only [SXa, Nat.reduceEqDiff, index22, load30, store30, b9_12, r9_7, r9_8, r9_9, r9_10, r9_11, t39, t40, t41, dec_lt hlt, idxN ht.nodes hlt, nodeA_len, nodeA_take, allocN, stN, born_obj, Option.bind_some, Nat.zero_add, zN_len, zN_drop, List.append_nil, Nat.le_refl]
 generalize (S5.born 30 zN).put S5.no (.cells (nodeA t.nodes[k])) = S6 at hG6 hN6 hT6 n6
 simp only [nodeA] at hN6
 simp only [SXa, Nat.reduceEqDiff, load3, call29, load_pb, hN6, fldN, fld_p, Option.bind_some, Nat.add_zero]
 refine callK_ans (pat_ans _) hG6 (fun S7 g7 hG7 => ?_)
 have hT7 := g7.objs hT6 n6
 have n7 := Nat.lt_of_lt_of_le n6 g7.no
 cases c7 : patF t.nodes[k].kind with
 | false =>
  rw [c7, Bool.false_and, cond_false] at hp
  simp only [SXa, Nat.reduceEqDiff, t1, t39, t40, t41, wk]
  exact ⟨t.nodes.length - (k + 1), by omega, k + 1, by omega, rfl, hp, hT7, hG7, n7, by simp []⟩
 | true =>
 rw [c7, Bool.true_and] at hp
 obtain ⟨d', p', z', hd', hw'⟩ := walk_sub _ _ _ _ _ _ hw k (by omega) (by omega)
 obtain ⟨r8, S8, e8, ⟨hX, _⟩, g8⟩ := binds_ok t nx tx ht d' 60 hd' p' k z' hw' S7 hG7.fresh
 have hlb := binds_len _ _ d' 60 hd' _ _ _ hw'
 have hzb := (walk_bd _ _ _ _ _ _ hw').2
 have hT8 := g8.objs hT7 n7
 have n8 := Nat.lt_of_lt_of_le n7 g8.no
 simp only [SXa, Nat.reduceEqDiff, Nat.reduceAdd, load25, call31, t1, load_pb, hT7, Option.bind_some, Nat.zero_add, Nat.le_refl]
 refine callK_of e8 ?_
 simp only [SXa, Nat.reduceEqDiff, call30]
 refine callK_ans (twice_ans _ r8 hX.is (by omega)) (hG7.two g8) (fun S9 g9 hG9 => ?_)
 have hT9 := g9.objs hT8 n8
 have n9 := Nat.lt_of_lt_of_le n8 g9.no
 cases c8 : twiceF [] (bindsF t.nodes 60 k) with
 | true =>
  rw [c8, cond_true] at hp
  simp only [SXa, Nat.reduceEqDiff]
  exact ⟨by rw [← hp], hG9⟩
 | false =>
  rw [c8, cond_false] at hp
  simp only [SXa, Nat.reduceEqDiff, t1, t39, t40, t41, wk]
  exact ⟨t.nodes.length - (k + 1), by omega, k + 1, by omega, rfl, hp, hT9, hG9, n9, by simp []⟩
end Go.Proofs.YtmmnkemcplgebaaGreatDoor
end
end
