/-
  The document's own table: what bytes are read as: the walk.
-/
import Derived.Test.YtmmpcomfhcpicaaRef2
set_option linter.unusedSimpArgs false
set_option linter.unusedVariables false
set_option maxRecDepth 100000
namespace Go.Proofs.Ytmmpcomfhcpicaa
open Go.Abs
def stopQ (b : List UInt8) (bad : Bool) : StopV × List UInt8 × Bool :=
  let a := numQ b bad
  let c := numQ a.2.1 a.2.2
  let d := numQ c.2.1 c.2.2
  let e := numQ d.2.1 d.2.2
  (⟨a.1, c.1, d.1, e.1⟩, e.2.1, e.2.2)
def varQ (b : List UInt8) (bad : Bool) : VarV × List UInt8 × Bool :=
  let a := numQ b bad
  let c := numQ a.2.1 a.2.2
  let d := txtQ c.2.1 c.2.2
  let e := numQ d.2.1 d.2.2
  let f := numQ e.2.1 e.2.2
  let g := txtQ f.2.1 f.2.2
  (⟨a.1, c.1, d.1, e.1, f.1, g.1⟩, g.2.1, g.2.2)
def stopsQ : Nat → List UInt8 → Bool → List StopV → List StopV × List UInt8 × Bool
  | 0, b, bad, l => (l, b, bad)
  | n + 1, b, bad, l => bif bad then (l, b, bad) else stopsQ n (stopQ b bad).2.1 (stopQ b bad).2.2 (l ++ [(stopQ b bad).1])
def varsQ : Nat → List UInt8 → Bool → List VarV → List VarV × List UInt8 × Bool
  | 0, b, bad, l => (l, b, bad)
  | n + 1, b, bad, l => bif bad then (l, b, bad) else varsQ n (varQ b bad).2.1 (varQ b bad).2.2 (l ++ [(varQ b bad).1])
/-- What the document reads a table's bytes as; all of them. -/
def getQ (b : List UInt8) : List StopV × List VarV × List UInt8 × Bool :=
  let a := numQ b false
  let c := stopsQ a.1.toNat a.2.1 a.2.2 []
  let d := numQ c.2.1 c.2.2
  let e := varsQ d.1.toNat d.2.1 d.2.2 []
  (c.1, e.1, e.2.1, e.2.2)
section
variable {S S' S2 : St} {b b2 : List UInt8} {bad bad2 : Bool} {cs : List AV} {e : TypeId} {sz : Nat} {Y : AV} {ys : List AV}
theorem GI.numQ (h : GI S S' b bad cs e sz Y ys) : ∃ S2, EvA E 36 [.ptr (S.no + 1) 0] S' (.sc (.int .i64 (numQ b bad).1)) S2 ∧ GI S S2 (numQ b bad).2.1 (numQ b bad).2.2 cs e sz Y ys ∧ GrowB (S.no + 1) S' S2 := by
  obtain ⟨r, S2, e1, rfl, h1, g1⟩ := num36_ok b bad h.len (S.no + 1) S' h.grow.fresh h.rd
  exact ⟨S2, e1, h.rdB g1 h1 (numQ_len b bad), g1⟩
theorem GI.txtQ (h : GI S S' b bad cs e sz Y ys) : ∃ S2, EvA E 37 [.ptr (S.no + 1) 0] S' (.sc (.string (txtQ b bad).1)) S2 ∧ GI S S2 (txtQ b bad).2.1 (txtQ b bad).2.2 cs e sz Y ys ∧ GrowB (S.no + 1) S' S2 := by
  obtain ⟨r, S2, e1, rfl, h1, g1⟩ := txt37_ok b bad h.len (S.no + 1) S' h.grow.fresh h.rd
  exact ⟨S2, e1, h.rdB g1 h1 (txtQ_len b bad), g1⟩
end
theorem bld80 {x : AV} {xs : List AV} (h : IsV 1 x xs) (S : St) : buildA E 80 [(0, x)] S = some (.agg [x, .sc (.bool false)], S) := by
  rcases h with ⟨rfl, _⟩ | ⟨id, rfl⟩ <;> kernel_rfl
theorem bld37_0 (S : St) : buildA E 37 [] S = some (.agg [nilV, nilV], S) := by kernel_rfl
theorem bld51 (a : Int) (S : St) : buildA E 51 [(0, .sc (.int .i64 a))] S = some (.agg [.sc (.int .i64 a), .sc (.int .i64 0), .sc (.int .i64 0), .sc (.int .i64 0)], S) := by kernel_rfl
theorem bld56 (a : Int) (S : St) : buildA E 56 [(0, .sc (.int .i64 a))] S = some (.agg [.sc (.int .i64 a), .sc (.int .i64 0), .sc (.string ⟨#[]⟩), .sc (.int .i64 0), .sc (.int .i64 0), .sc (.string ⟨#[]⟩)], S) := by kernel_rfl
theorem bs34_1 (a b c d : Int) (S : St) : buildSliceA E 34 1 [(0, .agg [.sc (.int .i64 a), .sc (.int .i64 b), .sc (.int .i64 c), .sc (.int .i64 d)])] S = some (.vec 1 4 [.agg [.sc (.int .i64 a), .sc (.int .i64 b), .sc (.int .i64 c), .sc (.int .i64 d)]], S) := by kernel_rfl
theorem bs35_1 (v : VarV) (S : St) : buildSliceA E 35 1 [(0, .agg (varA v))] S = some (.vec 1 6 [.agg (varA v)], S) := by kernel_rfl
theorem res37 {tm : PM AV} {S : St} (t : Nat) (l : List ResultVar) : resAll E tm S (.cell t 37 :: l) = (loadC true 2 (getT tm t) S).bind fun q => (resAll E tm S l).map (q.1 :: ·) := res_cell t 37 l (de := (E.und 37).getD .string) (i := (E.inf 37).getD default) (by kernel_rfl) (by kernel_rfl) (by kernel_rfl) (by kernel_rfl)
set_option maxHeartbeats 64000000 in
theorem getq_ok (b : List UInt8) (hb : b.length ≤ 2 ^ 60) (x : AV) (hx : IsV 1 x (byteVals b)) (S : St) (hS : S.Fresh) :
    ∃ r S', EvA E 14 [x] S r S' ∧ (∃ X1 X2 ok, r = .tup [.agg [X1, X2], .sc (.bool ok)] ∧
      ((((getQ b).2.2.2 = false ∧ (getQ b).2.2.1 = [] ∧ GoodQ (getQ b).1 (getQ b).2.1) ∧ ok = true ∧ IsV 4 X1 (stopsA (getQ b).1) ∧ IsV 6 X2 (varsA (getQ b).2.1)) ∨
       (¬ ((getQ b).2.2.2 = false ∧ (getQ b).2.2.1 = [] ∧ GoodQ (getQ b).1 (getQ b).2.1) ∧ ok = false ∧ X1 = nilV ∧ X2 = nilV))) ∧ Grow S S' nilV := by
  refine ev14 rfl ?_
  have hG : GI S (((S.born 37 [nilV, nilV]).born 80 [x, .sc (.bool false)]).born 37 [nilV, nilV]) b false [nilV, nilV] 51 4 nilV [] :=
    ⟨(((Grow.refl hS nilV).born _ _).born _ _).born _ _, Nat.le_refl _, by simp [born_obj, born_no], ⟨x, by simp [born_obj, born_no], hx⟩, hb, by simp [born_obj, born_no], Wn.start _ _ _ _⟩
  have hput : ((((S.born 37 [nilV, nilV]).born 80 [x, .sc (.bool false)]).born 37 [nilV, nilV]).put (S.no + 2) (.cells [nilV, nilV])).obj (S.no + 2) = some [nilV, nilV] := by simp [put_obj]
  have hG : GI S ((((S.born 37 [nilV, nilV]).born 80 [x, .sc (.bool false)]).born 37 [nilV, nilV]).put (S.no + 2) (.cells [nilV, nilV])) b false [nilV, nilV] 51 4 nilV [] := by
    have hne : ∀ m, m ≠ S.no + 2 → ((((S.born 37 [nilV, nilV]).born 80 [x, .sc (.bool false)]).born 37 [nilV, nilV]).put (S.no + 2) (.cells [nilV, nilV])).obj m = (((S.born 37 [nilV, nilV]).born 80 [x, .sc (.bool false)]).born 37 [nilV, nilV]).obj m := fun m hm => by simp only [St.put, St.obj, PM.get_set, hm, if_false]
    refine ⟨hG.grow.put _ _ (by omega), hG.no, by rw [hne _ (by omega)]; exact hG.res, ?_, hb, hput, Wn.start _ _ _ _⟩
    obtain ⟨X, h1, h2⟩ := hG.rd
    exact ⟨X, by rw [hne _ (by omega)]; exact h1, h2⟩
  simp only [SXa, reduceCtorEq, Nat.reduceEqDiff, Nat.reduceAdd, store37, call36, r14_0, r14_1, r14_2, r14_3, r14_4, r14_13, r14_14, r14_25, r14_26, r14_27, p14, alloc37, op_build, bld80 hx, bld37_0, op_box, cells_agg, born_no, st25 (show okCell nilV = true from rfl) (show okCell nilV = true from rfl), born_obj, Option.bind_some, Nat.le_refl, List.drop_nil]
  generalize (((S.born 37 [nilV, nilV]).born 80 [x, .sc (.bool false)]).born 37 [nilV, nilV]).put (S.no + 2) (.cells [nilV, nilV]) = S0 at hG
  obtain ⟨S1, e1, G1, _⟩ := hG.numQ
  refine callK_of e1 ?_
  rcases hq1 : numQ b false with ⟨n1, b1, bad1⟩
  have hn1 : 0 ≤ n1 := by have := numQ_nn b false; rw [hq1] at this; exact this
  have hm1 : n1 ≤ 2147483647 := by have := numQ_most b false; rw [hq1] at this; exact this
  rw [hq1] at G1
  simp only at G1
  obtain ⟨n, rfl⟩ : ∃ n : Nat, n1 = n := ⟨n1.toNat, by omega⟩
  simp only [SXa, reduceCtorEq, Nat.reduceEqDiff]
  refine e_loop2 (fun tm S' N => ∃ (l : List StopV) (X : AV) (b' : List UInt8) (bad' : Bool) (i : Nat), GI S S' b' bad' [X, nilV] 51 4 X (stopsA l) ∧ stopsQ N b' bad' l = stopsQ n b1 bad1 [] ∧ i + N = n ∧ l.length + N ≤ 2147483647 ∧ getT tm 2 = .ptr S.no 0 ∧ getT tm 4 = .ptr (S.no + 1) 0 ∧ getT tm 5 = .ptr (S.no + 2) 0 ∧ getT tm 6 = .sc (.int .i64 (n : Int)) ∧ getT tm 7 = .sc (.int .i64 (i : Int)))
    (fun tm S' => ∃ (l : List StopV) (X : AV) (b' : List UInt8) (bad' : Bool), GI S S' b' bad' [X, nilV] 51 4 X (stopsA l) ∧ (l, b', bad') = stopsQ n b1 bad1 [] ∧ l.length ≤ 2147483647 ∧ getT tm 2 = .ptr S.no 0 ∧ getT tm 4 = .ptr (S.no + 1) 0 ∧ getT tm 5 = .ptr (S.no + 2) 0) 0 n
    ⟨[], nilV, b1, bad1, 0, G1, rfl, by simp, by simp; omega, by simp [getT_setD]⟩ ?_ ?_
  · rintro tm S' N ⟨l, X, b', bad', i, G, hs, hi, hl, t2, t4, t5, t6, t7⟩
    obtain ⟨x', hr1, hr2⟩ := G.rd
    cases N with
    | zero =>
      have c1 : decide ((i : Int) < (n : Int)) = false := by simp only [decide_eq_false_iff_not]; omega
      simp only [SXa, Nat.reduceEqDiff, b14_12, r14_5, r14_6, r14_7, r14_8, r14_9, r14_10, r14_11, t2, t4, t5, t6, t7, c1]
      exact ⟨l, X, b', bad', G, hs, by omega⟩
    | succ N =>
      have c1 : decide ((i : Int) < (n : Int)) = true := by simp only [decide_eq_true_eq]; omega
      cases bad' with
      | true =>
        simp only [SXa, Nat.reduceEqDiff, load4, b14_12, r14_5, r14_6, r14_7, r14_8, r14_9, r14_10, r14_11, t2, t4, t5, t6, t7, c1, op_nilCheck, chk_p, fld80_1, fld_p, load_pb, hr1, Option.bind_some, Nat.zero_add]
        exact ⟨l, X, b', true, G, hs, by omega⟩
      | false =>
        have wN : IntKind.i64.wrap ((i : Int) + 1) = ((i + 1 : Nat) : Int) := by rw [wrap_i64 (by omega) (by omega)]; omega
        have hno := G.no
        obtain ⟨S3, e3, G3, g3⟩ := G.numQ
        rcases hq2 : numQ b' false with ⟨n2, b2, bad2⟩
        rw [hq2] at e3 G3
        simp only at e3 G3
        simp only [SXa, Nat.reduceEqDiff, load4, call36, b14_12, r14_5, r14_6, r14_7, r14_8, r14_9, r14_10, r14_11, t4, t6, t7, c1, op_nilCheck, chk_p, fld80_1, fld_p, load_pb, hr1, Option.bind_some, Nat.zero_add]
        refine callK_of e3 ?_
        have hno3 := G3.no
        have G4 := (G3.on ((Grow.refl G3.grow.fresh nilV).born 51 z41)).putN S3.no (.cells [.sc (.int .i64 n2), .sc (.int .i64 0), .sc (.int .i64 0), .sc (.int .i64 0)]) (by omega)
        have o4 : ((S3.born 51 z41).put S3.no (.cells [.sc (.int .i64 n2), .sc (.int .i64 0), .sc (.int .i64 0), .sc (.int .i64 0)])).obj S3.no = some [.sc (.int .i64 n2), .sc (.int .i64 0), .sc (.int .i64 0), .sc (.int .i64 0)] := by simp [put_obj]
        have l4 : S3.no < ((S3.born 51 z41).put S3.no (.cells [.sc (.int .i64 n2), .sc (.int .i64 0), .sc (.int .i64 0), .sc (.int .i64 0)])).no := Nat.lt_succ_self _
        simp only [z41] at G4 o4 l4
        simp only [SXa, Nat.reduceEqDiff, Nat.reduceAdd, store51, call36, t4, op_build, bld51, alloc51, z41, st41, born_obj, Option.bind_some, Nat.le_refl, List.drop_nil]
        generalize hqq : S3.no = q at *
        generalize ((S3.born 51 [.sc (.int .i64 0), .sc (.int .i64 0), .sc (.int .i64 0), .sc (.int .i64 0)]).put q (.cells [.sc (.int .i64 n2), .sc (.int .i64 0), .sc (.int .i64 0), .sc (.int .i64 0)])) = S4 at G4 o4 l4
        obtain ⟨T5, e5, H5, g5⟩ := G4.numQ
        rcases hq5 : numQ b2 bad2 with ⟨n5, b5, bad5⟩
        rw [hq5] at e5 H5
        simp only at e5 H5
        have p5 := g5.objs o4 l4 (by omega)
        have l5 := Nat.lt_of_lt_of_le l4 g5.no
        have G5 := H5.putN q (.cells [.sc (.int .i64 n2), .sc (.int .i64 n5), .sc (.int .i64 0), .sc (.int .i64 0)]) (by omega)
        have o5 : (T5.put q (.cells [.sc (.int .i64 n2), .sc (.int .i64 n5), .sc (.int .i64 0), .sc (.int .i64 0)])).obj q = some [.sc (.int .i64 n2), .sc (.int .i64 n5), .sc (.int .i64 0), .sc (.int .i64 0)] := by rw [put_obj, if_pos rfl]
        have l5 : q < (T5.put q (.cells [.sc (.int .i64 n2), .sc (.int .i64 n5), .sc (.int .i64 0), .sc (.int .i64 0)])).no := l5
        refine callK_of e5 ?_
        refine ends_base (fun tm => getT tm 2 = .ptr S.no 0 ∧ getT tm 4 = .ptr (S.no + 1) 0 ∧ getT tm 5 = .ptr (S.no + 2) 0 ∧ getT tm 6 = .sc (.int .i64 (n : Int)) ∧ getT tm 7 = .sc (.int .i64 (i : Int)) ∧ getT tm 8 = .ptr q 0 ∧ getT tm 33 = .sc (.int .i64 n5)) (by simp [getT_setD, t2, t4, t5, t6, t7]) ?_
        clear t2 t4 t5 t6 t7
        rintro tm ⟨t2, t4, t5, t6, t7, t8, tn⟩
        simp only [SXa, Nat.reduceEqDiff, Nat.reduceAdd, store3, call36, t4, t8, tn, fld51_1, fld_p, store_int, p5, List.set_cons_zero, List.set_cons_succ, Nat.reduceLT, Option.bind_some, Nat.zero_add]
        generalize T5.put q (.cells [.sc (.int .i64 n2), .sc (.int .i64 n5), .sc (.int .i64 0), .sc (.int .i64 0)]) = S5 at G5 o5 l5
        obtain ⟨T6, e6, H6, g6⟩ := G5.numQ
        rcases hq6 : numQ b5 bad5 with ⟨n6, b6, bad6⟩
        rw [hq6] at e6 H6
        simp only at e6 H6
        have p6 := g6.objs o5 l5 (by omega)
        have l6 := Nat.lt_of_lt_of_le l5 g6.no
        have G6 := H6.putN q (.cells [.sc (.int .i64 n2), .sc (.int .i64 n5), .sc (.int .i64 n6), .sc (.int .i64 0)]) (by omega)
        have o6 : (T6.put q (.cells [.sc (.int .i64 n2), .sc (.int .i64 n5), .sc (.int .i64 n6), .sc (.int .i64 0)])).obj q = some [.sc (.int .i64 n2), .sc (.int .i64 n5), .sc (.int .i64 n6), .sc (.int .i64 0)] := by rw [put_obj, if_pos rfl]
        have l6 : q < (T6.put q (.cells [.sc (.int .i64 n2), .sc (.int .i64 n5), .sc (.int .i64 n6), .sc (.int .i64 0)])).no := l6
        refine callK_of e6 ?_
        refine ends_base (fun tm => getT tm 2 = .ptr S.no 0 ∧ getT tm 4 = .ptr (S.no + 1) 0 ∧ getT tm 5 = .ptr (S.no + 2) 0 ∧ getT tm 6 = .sc (.int .i64 (n : Int)) ∧ getT tm 7 = .sc (.int .i64 (i : Int)) ∧ getT tm 8 = .ptr q 0 ∧ getT tm 36 = .sc (.int .i64 n6)) (by simp [getT_setD, t2, t4, t5, t6, t7, t8]) ?_
        clear t2 t4 t5 t6 t7 t8
        rintro tm ⟨t2, t4, t5, t6, t7, t8, tn⟩
        simp only [SXa, Nat.reduceEqDiff, Nat.reduceAdd, store3, call36, t4, t8, tn, fld51_2, fld_p, store_int, p6, List.set_cons_zero, List.set_cons_succ, Nat.reduceLT, Option.bind_some, Nat.zero_add]
        generalize T6.put q (.cells [.sc (.int .i64 n2), .sc (.int .i64 n5), .sc (.int .i64 n6), .sc (.int .i64 0)]) = S6 at G6 o6 l6
        obtain ⟨T7, e7, H7, g7⟩ := G6.numQ
        rcases hq7 : numQ b6 bad6 with ⟨n7, b7, bad7⟩
        rw [hq7] at e7 H7
        simp only at e7 H7
        have p7 := g7.objs o6 l6 (by omega)
        have l7 := Nat.lt_of_lt_of_le l6 g7.no
        have G7 := H7.putN q (.cells [.sc (.int .i64 n2), .sc (.int .i64 n5), .sc (.int .i64 n6), .sc (.int .i64 n7)]) (by omega)
        have o7 : (T7.put q (.cells [.sc (.int .i64 n2), .sc (.int .i64 n5), .sc (.int .i64 n6), .sc (.int .i64 n7)])).obj q = some [.sc (.int .i64 n2), .sc (.int .i64 n5), .sc (.int .i64 n6), .sc (.int .i64 n7)] := by rw [put_obj, if_pos rfl]
        have l7 : q < (T7.put q (.cells [.sc (.int .i64 n2), .sc (.int .i64 n5), .sc (.int .i64 n6), .sc (.int .i64 n7)])).no := l7
        refine callK_of e7 ?_
        refine ends_base (fun tm => getT tm 2 = .ptr S.no 0 ∧ getT tm 4 = .ptr (S.no + 1) 0 ∧ getT tm 5 = .ptr (S.no + 2) 0 ∧ getT tm 6 = .sc (.int .i64 (n : Int)) ∧ getT tm 7 = .sc (.int .i64 (i : Int)) ∧ getT tm 8 = .ptr q 0 ∧ getT tm 39 = .sc (.int .i64 n7)) (by simp [getT_setD, t2, t4, t5, t6, t7, t8]) ?_
        clear t2 t4 t5 t6 t7 t8
        rintro tm ⟨t2, t4, t5, t6, t7, t8, tn⟩
        simp only [SXa, Nat.reduceEqDiff, Nat.reduceAdd, store3, t8, tn, fld51_3, fld_p, store_int, p7, List.set_cons_zero, List.set_cons_succ, Nat.reduceLT, Option.bind_some, Nat.zero_add]
        generalize T7.put q (.cells [.sc (.int .i64 n2), .sc (.int .i64 n5), .sc (.int .i64 n6), .sc (.int .i64 n7)]) = S7 at G7 o7 l7
        have hsr : stopQ b' false = (⟨n2, n5, n6, n7⟩, b7, bad7) := by simp only [stopQ, hq2, hq5, hq6, hq7]
        obtain ⟨a1, a2, a3⟩ := G7.app (t := 34) (t1 := 34) el34 und34 (v := .agg [.sc (.int .i64 n2), .sc (.int .i64 n5), .sc (.int .i64 n6), .sc (.int .i64 n7)]) rfl (by simp only [stopsA, List.length_map]; omega)
        have hap := stopsA_app l ⟨n2, n5, n6, n7⟩
        simp only [stopA] at hap
        rw [hap] at a1 a3
        simp only [SXa, Nat.reduceEqDiff, Nat.reduceAdd, load34, store34, bs34, app34, load51, t2, t4, t5, t6, t7, t8, load_pb, G7.tab, o7, bs34_1, a1, a2, fld37_0, fld_p, st_v (IsV.vec S7.nid 4 (stopsA (l ++ [⟨n2, n5, n6, n7⟩]))), Option.bind_some, Nat.add_zero, Nat.zero_add, Nat.le_refl, Nat.zero_lt_succ, List.set_cons_zero, wN]
        refine ⟨N, Nat.lt_succ_self _, _, _, b7, bad7, i + 1, a3 _, ?_, by omega, by simp; omega, by first | rfl | simp⟩
        rw [← hs, stopsQ, cond_false, hsr]
  · rintro tm S' ⟨l, X, b', bad', G, hs, hl, t2, t4, t5⟩
    have hX : IsV 4 X (stopsA l) := G.w.own.is
    have G2 : GI S S' b' bad' [X, nilV] 56 6 nilV [] := ⟨G.grow, G.no, G.res, G.rd, G.len, G.tab, Wn.start _ _ _ _⟩
    obtain ⟨S2, e2, G3, _⟩ := G2.numQ
    simp only [SXa, call36, t4]
    refine callK_of e2 ?_
    rcases hq6 : numQ b' bad' with ⟨m1, b6, bad6⟩
    have hn6 : 0 ≤ m1 := by have := numQ_nn b' bad'; rw [hq6] at this; exact this
    have hm6 : m1 ≤ 2147483647 := by have := numQ_most b' bad'; rw [hq6] at this; exact this
    rw [hq6] at G3
    simp only at G3
    obtain ⟨m, rfl⟩ : ∃ m : Nat, m1 = m := ⟨m1.toNat, by omega⟩
    simp only [SXa, Nat.reduceEqDiff]
    refine e_loop2 (fun tm S' N => ∃ (vs : List VarV) (Y : AV) (b' : List UInt8) (bad' : Bool) (i : Nat), GI S S' b' bad' [X, Y] 56 6 Y (varsA vs) ∧ varsQ N b' bad' vs = varsQ m b6 bad6 [] ∧ i + N = m ∧ vs.length + N ≤ 2147483647 ∧ getT tm 2 = .ptr S.no 0 ∧ getT tm 4 = .ptr (S.no + 1) 0 ∧ getT tm 5 = .ptr (S.no + 2) 0 ∧ getT tm 6 = .sc (.int .i64 (m : Int)) ∧ getT tm 9 = .sc (.int .i64 (i : Int)))
      (fun tm S' => ∃ (vs : List VarV) (Y : AV) (b' : List UInt8) (bad' : Bool), GI S S' b' bad' [X, Y] 56 6 Y (varsA vs) ∧ (vs, b', bad') = varsQ m b6 bad6 [] ∧ vs.length ≤ 2147483647 ∧ getT tm 2 = .ptr S.no 0 ∧ getT tm 4 = .ptr (S.no + 1) 0 ∧ getT tm 5 = .ptr (S.no + 2) 0) 2 m
      ⟨[], nilV, b6, bad6, 0, G3, rfl, by simp, by simp; omega, by simp [getT_setD, t2, t4, t5]⟩ ?_ ?_
    · clear t2 t4 t5
      rintro tm S' N ⟨vs, Y, b', bad', i, G, hs, hi, hl, t2, t4, t5, t6, t9⟩
      obtain ⟨x', hr1, hr2⟩ := G.rd
      cases N with
      | zero =>
        have c1 : decide ((i : Int) < (m : Int)) = false := by simp only [decide_eq_false_iff_not]; omega
        simp only [SXa, Nat.reduceEqDiff, b14_24, r14_15, r14_16, r14_17, r14_18, r14_19, r14_20, r14_21, r14_22, r14_23, t2, t4, t5, t6, t9, c1]
        exact ⟨vs, Y, b', bad', G, hs, by omega⟩
      | succ N =>
        have c1 : decide ((i : Int) < (m : Int)) = true := by simp only [decide_eq_true_eq]; omega
        cases bad' with
        | true =>
          simp only [SXa, Nat.reduceEqDiff, load4, b14_24, r14_15, r14_16, r14_17, r14_18, r14_19, r14_20, r14_21, r14_22, r14_23, t2, t4, t5, t6, t9, c1, op_nilCheck, chk_p, fld80_1, fld_p, load_pb, hr1, Option.bind_some, Nat.zero_add]
          exact ⟨vs, Y, b', true, G, hs, by omega⟩
        | false =>
          have wN : IntKind.i64.wrap ((i : Int) + 1) = ((i + 1 : Nat) : Int) := by rw [wrap_i64 (by omega) (by omega)]; omega
          have hno := G.no
          obtain ⟨S3, e3, G3, g3⟩ := G.numQ
          rcases hq2 : numQ b' false with ⟨n2, b2, bad2⟩
          rw [hq2] at e3 G3
          simp only at e3 G3
          simp only [SXa, Nat.reduceEqDiff, load4, call36, b14_24, r14_15, r14_16, r14_17, r14_18, r14_19, r14_20, r14_21, r14_22, r14_23, t4, t6, t9, c1, op_nilCheck, chk_p, fld80_1, fld_p, load_pb, hr1, Option.bind_some, Nat.zero_add]
          refine callK_of e3 ?_
          have hno3 := G3.no
          have G4 := (G3.on ((Grow.refl G3.grow.fresh nilV).born 56 z43)).putN S3.no (.cells [.sc (.int .i64 n2), .sc (.int .i64 0), .sc (.string ⟨#[]⟩), .sc (.int .i64 0), .sc (.int .i64 0), .sc (.string ⟨#[]⟩)]) (by omega)
          have o4 : ((S3.born 56 z43).put S3.no (.cells [.sc (.int .i64 n2), .sc (.int .i64 0), .sc (.string ⟨#[]⟩), .sc (.int .i64 0), .sc (.int .i64 0), .sc (.string ⟨#[]⟩)])).obj S3.no = some [.sc (.int .i64 n2), .sc (.int .i64 0), .sc (.string ⟨#[]⟩), .sc (.int .i64 0), .sc (.int .i64 0), .sc (.string ⟨#[]⟩)] := by simp [put_obj]
          have l4 : S3.no < ((S3.born 56 z43).put S3.no (.cells [.sc (.int .i64 n2), .sc (.int .i64 0), .sc (.string ⟨#[]⟩), .sc (.int .i64 0), .sc (.int .i64 0), .sc (.string ⟨#[]⟩)])).no := Nat.lt_succ_self _
          simp only [z43] at G4 o4 l4
          simp only [SXa, Nat.reduceEqDiff, Nat.reduceAdd, store56, call36, t4, op_build, bld56, alloc56, z43, st43, born_obj, Option.bind_some, Nat.le_refl, List.drop_nil]
          generalize hqq : S3.no = q at *
          generalize ((S3.born 56 [.sc (.int .i64 0), .sc (.int .i64 0), .sc (.string ⟨#[]⟩), .sc (.int .i64 0), .sc (.int .i64 0), .sc (.string ⟨#[]⟩)]).put q (.cells [.sc (.int .i64 n2), .sc (.int .i64 0), .sc (.string ⟨#[]⟩), .sc (.int .i64 0), .sc (.int .i64 0), .sc (.string ⟨#[]⟩)])) = S4 at G4 o4 l4
          obtain ⟨T7, e7, H7, g7⟩ := G4.numQ
          rcases hq7 : numQ b2 bad2 with ⟨n7, b7, bad7⟩
          rw [hq7] at e7 H7
          simp only at e7 H7
          have p7 := g7.objs o4 l4 (by omega)
          have l7 := Nat.lt_of_lt_of_le l4 g7.no
          have G7 := H7.putN q (.cells [.sc (.int .i64 n2), .sc (.int .i64 n7), .sc (.string ⟨#[]⟩), .sc (.int .i64 0), .sc (.int .i64 0), .sc (.string ⟨#[]⟩)]) (by omega)
          have o7 : (T7.put q (.cells [.sc (.int .i64 n2), .sc (.int .i64 n7), .sc (.string ⟨#[]⟩), .sc (.int .i64 0), .sc (.int .i64 0), .sc (.string ⟨#[]⟩)])).obj q = some [.sc (.int .i64 n2), .sc (.int .i64 n7), .sc (.string ⟨#[]⟩), .sc (.int .i64 0), .sc (.int .i64 0), .sc (.string ⟨#[]⟩)] := by rw [put_obj, if_pos rfl]
          have l7 : q < (T7.put q (.cells [.sc (.int .i64 n2), .sc (.int .i64 n7), .sc (.string ⟨#[]⟩), .sc (.int .i64 0), .sc (.int .i64 0), .sc (.string ⟨#[]⟩)])).no := l7
          refine callK_of e7 ?_
          refine ends_base (fun tm => getT tm 2 = .ptr S.no 0 ∧ getT tm 4 = .ptr (S.no + 1) 0 ∧ getT tm 5 = .ptr (S.no + 2) 0 ∧ getT tm 6 = .sc (.int .i64 (m : Int)) ∧ getT tm 9 = .sc (.int .i64 (i : Int)) ∧ getT tm 10 = .ptr q 0 ∧ getT tm 65 = .sc (.int .i64 n7)) (by simp [getT_setD, t2, t4, t5, t6, t9]) ?_
          clear t2 t4 t5 t6 t9
          rintro tm ⟨t2, t4, t5, t6, t9, t10, tn⟩
          simp only [SXa, Nat.reduceEqDiff, Nat.reduceAdd, store3, call37, t4, t10, tn, fld56_1, fld_p, store_int, p7, List.set_cons_zero, List.set_cons_succ, Nat.reduceLT, Option.bind_some, Nat.zero_add]
          generalize T7.put q (.cells [.sc (.int .i64 n2), .sc (.int .i64 n7), .sc (.string ⟨#[]⟩), .sc (.int .i64 0), .sc (.int .i64 0), .sc (.string ⟨#[]⟩)]) = S7 at G7 o7 l7
          obtain ⟨T8, e8, H8, g8⟩ := G7.txtQ
          rcases hq8 : txtQ b7 bad7 with ⟨n8, b8, bad8⟩
          rw [hq8] at e8 H8
          simp only at e8 H8
          have p8 := g8.objs o7 l7 (by omega)
          have l8 := Nat.lt_of_lt_of_le l7 g8.no
          have G8 := H8.putN q (.cells [.sc (.int .i64 n2), .sc (.int .i64 n7), .sc (.string n8), .sc (.int .i64 0), .sc (.int .i64 0), .sc (.string ⟨#[]⟩)]) (by omega)
          have o8 : (T8.put q (.cells [.sc (.int .i64 n2), .sc (.int .i64 n7), .sc (.string n8), .sc (.int .i64 0), .sc (.int .i64 0), .sc (.string ⟨#[]⟩)])).obj q = some [.sc (.int .i64 n2), .sc (.int .i64 n7), .sc (.string n8), .sc (.int .i64 0), .sc (.int .i64 0), .sc (.string ⟨#[]⟩)] := by rw [put_obj, if_pos rfl]
          have l8 : q < (T8.put q (.cells [.sc (.int .i64 n2), .sc (.int .i64 n7), .sc (.string n8), .sc (.int .i64 0), .sc (.int .i64 0), .sc (.string ⟨#[]⟩)])).no := l8
          refine callK_of e8 ?_
          refine ends_base (fun tm => getT tm 2 = .ptr S.no 0 ∧ getT tm 4 = .ptr (S.no + 1) 0 ∧ getT tm 5 = .ptr (S.no + 2) 0 ∧ getT tm 6 = .sc (.int .i64 (m : Int)) ∧ getT tm 9 = .sc (.int .i64 (i : Int)) ∧ getT tm 10 = .ptr q 0 ∧ getT tm 68 = .sc (.string n8)) (by simp [getT_setD, t2, t4, t5, t6, t9, t10]) ?_
          clear t2 t4 t5 t6 t9 t10
          rintro tm ⟨t2, t4, t5, t6, t9, t10, tn⟩
          simp only [SXa, Nat.reduceEqDiff, Nat.reduceAdd, store9, call36, t4, t10, tn, fld56_2, fld_p, store_1 q 2 (.sc (.string n8)) rfl rfl, p8, List.set_cons_zero, List.set_cons_succ, Nat.reduceLT, Option.bind_some, Nat.zero_add]
          generalize T8.put q (.cells [.sc (.int .i64 n2), .sc (.int .i64 n7), .sc (.string n8), .sc (.int .i64 0), .sc (.int .i64 0), .sc (.string ⟨#[]⟩)]) = S8 at G8 o8 l8
          obtain ⟨T9, e9, H9, g9⟩ := G8.numQ
          rcases hq9 : numQ b8 bad8 with ⟨n9, b9, bad9⟩
          rw [hq9] at e9 H9
          simp only at e9 H9
          have p9 := g9.objs o8 l8 (by omega)
          have l9 := Nat.lt_of_lt_of_le l8 g9.no
          have G9 := H9.putN q (.cells [.sc (.int .i64 n2), .sc (.int .i64 n7), .sc (.string n8), .sc (.int .i64 n9), .sc (.int .i64 0), .sc (.string ⟨#[]⟩)]) (by omega)
          have o9 : (T9.put q (.cells [.sc (.int .i64 n2), .sc (.int .i64 n7), .sc (.string n8), .sc (.int .i64 n9), .sc (.int .i64 0), .sc (.string ⟨#[]⟩)])).obj q = some [.sc (.int .i64 n2), .sc (.int .i64 n7), .sc (.string n8), .sc (.int .i64 n9), .sc (.int .i64 0), .sc (.string ⟨#[]⟩)] := by rw [put_obj, if_pos rfl]
          have l9 : q < (T9.put q (.cells [.sc (.int .i64 n2), .sc (.int .i64 n7), .sc (.string n8), .sc (.int .i64 n9), .sc (.int .i64 0), .sc (.string ⟨#[]⟩)])).no := l9
          refine callK_of e9 ?_
          refine ends_base (fun tm => getT tm 2 = .ptr S.no 0 ∧ getT tm 4 = .ptr (S.no + 1) 0 ∧ getT tm 5 = .ptr (S.no + 2) 0 ∧ getT tm 6 = .sc (.int .i64 (m : Int)) ∧ getT tm 9 = .sc (.int .i64 (i : Int)) ∧ getT tm 10 = .ptr q 0 ∧ getT tm 71 = .sc (.int .i64 n9)) (by simp [getT_setD, t2, t4, t5, t6, t9, t10]) ?_
          clear t2 t4 t5 t6 t9 t10
          rintro tm ⟨t2, t4, t5, t6, t9, t10, tn⟩
          simp only [SXa, Nat.reduceEqDiff, Nat.reduceAdd, store3, call36, t4, t10, tn, fld56_3, fld_p, store_int, p9, List.set_cons_zero, List.set_cons_succ, Nat.reduceLT, Option.bind_some, Nat.zero_add]
          generalize T9.put q (.cells [.sc (.int .i64 n2), .sc (.int .i64 n7), .sc (.string n8), .sc (.int .i64 n9), .sc (.int .i64 0), .sc (.string ⟨#[]⟩)]) = S9 at G9 o9 l9
          obtain ⟨T10, e10, H10, g10⟩ := G9.numQ
          rcases hq10 : numQ b9 bad9 with ⟨n10, b10, bad10⟩
          rw [hq10] at e10 H10
          simp only at e10 H10
          have p10 := g10.objs o9 l9 (by omega)
          have l10 := Nat.lt_of_lt_of_le l9 g10.no
          have G10 := H10.putN q (.cells [.sc (.int .i64 n2), .sc (.int .i64 n7), .sc (.string n8), .sc (.int .i64 n9), .sc (.int .i64 n10), .sc (.string ⟨#[]⟩)]) (by omega)
          have o10 : (T10.put q (.cells [.sc (.int .i64 n2), .sc (.int .i64 n7), .sc (.string n8), .sc (.int .i64 n9), .sc (.int .i64 n10), .sc (.string ⟨#[]⟩)])).obj q = some [.sc (.int .i64 n2), .sc (.int .i64 n7), .sc (.string n8), .sc (.int .i64 n9), .sc (.int .i64 n10), .sc (.string ⟨#[]⟩)] := by rw [put_obj, if_pos rfl]
          have l10 : q < (T10.put q (.cells [.sc (.int .i64 n2), .sc (.int .i64 n7), .sc (.string n8), .sc (.int .i64 n9), .sc (.int .i64 n10), .sc (.string ⟨#[]⟩)])).no := l10
          refine callK_of e10 ?_
          refine ends_base (fun tm => getT tm 2 = .ptr S.no 0 ∧ getT tm 4 = .ptr (S.no + 1) 0 ∧ getT tm 5 = .ptr (S.no + 2) 0 ∧ getT tm 6 = .sc (.int .i64 (m : Int)) ∧ getT tm 9 = .sc (.int .i64 (i : Int)) ∧ getT tm 10 = .ptr q 0 ∧ getT tm 74 = .sc (.int .i64 n10)) (by simp [getT_setD, t2, t4, t5, t6, t9, t10]) ?_
          clear t2 t4 t5 t6 t9 t10
          rintro tm ⟨t2, t4, t5, t6, t9, t10, tn⟩
          simp only [SXa, Nat.reduceEqDiff, Nat.reduceAdd, store3, call37, t4, t10, tn, fld56_4, fld_p, store_int, p10, List.set_cons_zero, List.set_cons_succ, Nat.reduceLT, Option.bind_some, Nat.zero_add]
          generalize T10.put q (.cells [.sc (.int .i64 n2), .sc (.int .i64 n7), .sc (.string n8), .sc (.int .i64 n9), .sc (.int .i64 n10), .sc (.string ⟨#[]⟩)]) = S10 at G10 o10 l10
          obtain ⟨T11, e11, H11, g11⟩ := G10.txtQ
          rcases hq11 : txtQ b10 bad10 with ⟨n11, b11, bad11⟩
          rw [hq11] at e11 H11
          simp only at e11 H11
          have p11 := g11.objs o10 l10 (by omega)
          have l11 := Nat.lt_of_lt_of_le l10 g11.no
          have G11 := H11.putN q (.cells [.sc (.int .i64 n2), .sc (.int .i64 n7), .sc (.string n8), .sc (.int .i64 n9), .sc (.int .i64 n10), .sc (.string n11)]) (by omega)
          have o11 : (T11.put q (.cells [.sc (.int .i64 n2), .sc (.int .i64 n7), .sc (.string n8), .sc (.int .i64 n9), .sc (.int .i64 n10), .sc (.string n11)])).obj q = some [.sc (.int .i64 n2), .sc (.int .i64 n7), .sc (.string n8), .sc (.int .i64 n9), .sc (.int .i64 n10), .sc (.string n11)] := by rw [put_obj, if_pos rfl]
          have l11 : q < (T11.put q (.cells [.sc (.int .i64 n2), .sc (.int .i64 n7), .sc (.string n8), .sc (.int .i64 n9), .sc (.int .i64 n10), .sc (.string n11)])).no := l11
          refine callK_of e11 ?_
          refine ends_base (fun tm => getT tm 2 = .ptr S.no 0 ∧ getT tm 4 = .ptr (S.no + 1) 0 ∧ getT tm 5 = .ptr (S.no + 2) 0 ∧ getT tm 6 = .sc (.int .i64 (m : Int)) ∧ getT tm 9 = .sc (.int .i64 (i : Int)) ∧ getT tm 10 = .ptr q 0 ∧ getT tm 77 = .sc (.string n11)) (by simp [getT_setD, t2, t4, t5, t6, t9, t10]) ?_
          clear t2 t4 t5 t6 t9 t10
          rintro tm ⟨t2, t4, t5, t6, t9, t10, tn⟩
          simp only [SXa, Nat.reduceEqDiff, Nat.reduceAdd, store9, t10, tn, fld56_5, fld_p, store_1 q 5 (.sc (.string n11)) rfl rfl, p11, List.set_cons_zero, List.set_cons_succ, Nat.reduceLT, Option.bind_some, Nat.zero_add]
          generalize T11.put q (.cells [.sc (.int .i64 n2), .sc (.int .i64 n7), .sc (.string n8), .sc (.int .i64 n9), .sc (.int .i64 n10), .sc (.string n11)]) = S11 at G11 o11 l11
          have hvr : varQ b' false = (⟨n2, n7, n8, n9, n10, n11⟩, b11, bad11) := by simp only [varQ, hq2, hq7, hq8, hq9, hq10, hq11]
          have hbs := bs35_1 ⟨n2, n7, n8, n9, n10, n11⟩
          have hap := varsA_app vs ⟨n2, n7, n8, n9, n10, n11⟩
          simp only [varA] at hbs hap
          obtain ⟨a1, a2, a3⟩ := G11.app (t := 35) (t1 := 35) el35 und35 (v := .agg [.sc (.int .i64 n2), .sc (.int .i64 n7), .sc (.string n8), .sc (.int .i64 n9), .sc (.int .i64 n10), .sc (.string n11)]) rfl (by simp only [varsA, List.length_map]; omega)
          rw [hap] at a1 a3
          simp only [SXa, Nat.reduceEqDiff, Nat.reduceAdd, load35, store35, bs35, app35, load56, t2, t4, t5, t6, t9, t10, load_pb, G11.tab, o11, hbs, a1, a2, fld37_1, fld_p, st_v (IsV.vec S11.nid 6 (varsA (vs ++ [⟨n2, n7, n8, n9, n10, n11⟩]))), Option.bind_some, Nat.zero_add, Nat.le_refl, Nat.lt_add_one, List.set_cons_succ, List.set_cons_zero, wN]
          refine ⟨N, Nat.lt_succ_self _, _, _, b11, bad11, i + 1, a3 _, ?_, by omega, by simp; omega, by first | rfl | simp⟩
          rw [← hs, varsQ, cond_false, hvr]
    · clear t2 t4 t5
      rintro tm S' ⟨vs, Y, b', bad', G, hs2, hl2, t2, t4, t5⟩
      have hgr : getQ b = (l, vs, b', bad') := by
        have h1 := hs2.symm
        have h2 := hs.symm
        simp only [getQ, hq1, Int.toNat_natCast, h2, hq6, h1]
      rw [hgr]
      have hY : IsV 6 Y (varsA vs) := G.w.own.is
      have hno := G.no
      obtain ⟨x', hr1, hr2⟩ := G.rd
      cases bad' with
      | true =>
        simp only [SXa, reduceCtorEq, Nat.reduceEqDiff, Nat.reduceAdd, load4, store37, t2, t4, op_nilCheck, chk_p, fld80_1, fld_p, load_pb, hr1, Option.bind_some, Nat.zero_add, op_build, bld37_0, st25 (show okCell nilV = true from rfl) (show okCell nilV = true from rfl), G.res, res37, put_obj, Nat.le_refl, List.drop_nil]
        refine ⟨⟨nilV, nilV, false, rfl, .inr ⟨by simp, rfl, rfl, rfl⟩⟩, G.grow.put _ _ (Nat.le_refl _)⟩
      | false =>
        by_cases hb0 : b' = []
        case neg =>
          have c1 : decide ((0 : Int) < ((b'.length : Nat) : Int)) = true := by
            have := List.length_pos_iff.2 hb0
            simp only [decide_eq_true_eq]; omega
          simp only [SXa, Nat.reduceEqDiff, Nat.reduceAdd, load4, load28, len28, store37, t2, t4, op_nilCheck, chk_p, fld80_0, fld80_1, fld_p, load_pb, hr1, hr2.len, c1, Option.bind_some, Nat.zero_add, Nat.add_zero, op_build, bld37_0, st25 (show okCell nilV = true from rfl) (show okCell nilV = true from rfl), G.res, res37, put_obj, Nat.le_refl, List.drop_nil]
          refine ⟨⟨nilV, nilV, false, rfl, .inr ⟨fun h => hb0 h.1, rfl, rfl, rfl⟩⟩, G.grow.put _ _ (Nat.le_refl _)⟩
        have c1 : decide ((0 : Int) < ((b'.length : Nat) : Int)) = false := by rw [hb0]; rfl
        obtain ⟨r, S2, e9, ⟨g, rfl, hg⟩, g9⟩ := goodq15_ok l vs X Y hX hY (by omega) (by omega) S' G.grow.fresh
        have G9 := G.on g9
        simp only [SXa, Nat.reduceEqDiff, Nat.reduceAdd, load4, load28, len28, load37, call15, t4, t5, op_nilCheck, chk_p, fld80_0, fld80_1, fld_p, load_pb, hr1, hr2.len, c1, G.tab, Option.bind_some, Nat.zero_add, Nat.add_zero, Nat.le_refl]
        refine callK_of e9 ?_
        cases g with
        | true =>
          simp only [SXa, Nat.reduceEqDiff, Nat.reduceAdd, load37, store37, t2, t5, load_pb, G9.tab, G9.res, st25 (okV hX) (okV hY), res37, put_obj, Option.bind_some, Nat.zero_add, Nat.le_refl, List.drop_nil]
          refine ⟨⟨X, Y, true, rfl, .inl ⟨⟨hb0, hg.1 rfl⟩, rfl, hX, hY⟩⟩, G9.grow.put _ _ (Nat.le_refl _)⟩
        | false =>
          simp only [SXa, Nat.reduceEqDiff, Nat.reduceAdd, store37, t2, load_pb, G9.res, op_build, bld37_0, st25 (show okCell nilV = true from rfl) (show okCell nilV = true from rfl), res37, put_obj, Option.bind_some, Nat.zero_add, Nat.le_refl, List.drop_nil]
          refine ⟨⟨nilV, nilV, false, rfl, .inr ⟨(fun h => by have := hg.2 h.2; cases this), rfl, rfl, rfl⟩⟩, G9.grow.put _ _ (Nat.le_refl _)⟩
end Go.Proofs.Ytmmpcomfhcpicaa
