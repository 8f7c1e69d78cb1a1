/-
  Package info: Get: the walk.
-/
import Derived.Test.YtmmpcomfhcpicaaInf7
set_option linter.unusedSimpArgs false
set_option linter.unusedVariables false
set_option maxRecDepth 100000
namespace Go.Proofs.Ytmmpcomfhcpicaa
open Go.Abs
def stopR (b : List UInt8) (bad : Bool) : StopV × List UInt8 × Bool :=
  let a := numR 2147483647 b bad
  let c := numR 2147483647 a.2.1 a.2.2
  let d := numR 2147483647 c.2.1 c.2.2
  let e := numR 2147483647 d.2.1 d.2.2
  (⟨a.1, c.1, d.1, e.1⟩, e.2.1, e.2.2)
def varR (b : List UInt8) (bad : Bool) : VarV × List UInt8 × Bool :=
  let a := numR 2147483647 b bad
  let c := numR 2147483647 a.2.1 a.2.2
  let d := txtR 4000 c.2.1 c.2.2
  let e := numR 3 d.2.1 d.2.2
  let f := numR 65535 e.2.1 e.2.2
  let g := txtR 4000000 f.2.1 f.2.2
  (⟨a.1, c.1, d.1, e.1, f.1, g.1⟩, g.2.1, g.2.2)
def stopsR : Nat → List UInt8 → Bool → List StopV → List StopV × List UInt8 × Bool
  | 0, b, bad, l => (l, b, bad)
  | n + 1, b, bad, l => bif bad then (l, b, bad) else stopsR n (stopR b bad).2.1 (stopR b bad).2.2 (l ++ [(stopR b bad).1])
def varsR : Nat → List UInt8 → Bool → List VarV → List VarV × List UInt8 × Bool
  | 0, b, bad, l => (l, b, bad)
  | n + 1, b, bad, l => bif bad then (l, b, bad) else varsR n (varR b bad).2.1 (varR b bad).2.2 (l ++ [(varR b bad).1])
/-- What a table's bytes are read as; all of them. -/
def getR (b : List UInt8) : List StopV × List VarV × List UInt8 × Bool :=
  let a := numR 10000 b false
  let c := stopsR a.1.toNat a.2.1 a.2.2 []
  let d := numR 10000 c.2.1 c.2.2
  let e := varsR d.1.toNat d.2.1 d.2.2 []
  (c.1, e.1, e.2.1, e.2.2)
/-- Get's state. -/
structure GI (S S' : St) (b : List UInt8) (bad : Bool) (cs : List AV) (e : TypeId) (sz : Nat) (Y : AV) (ys : List AV) : Prop where
  grow : Grow S S' nilV
  no : S.no + 3 ≤ S'.no
  res : S'.obj S.no = some [nilV, nilV]
  rd : IsRd S' (S.no + 1) b bad
  len : b.length ≤ 2 ^ 60
  tab : S'.obj (S.no + 2) = some cs
  w : Wn e sz S S' Y ys
section
variable {S S' S2 : St} {b b2 : List UInt8} {bad bad2 : Bool} {cs : List AV} {e : TypeId} {sz : Nat} {Y : AV} {ys : List AV}
theorem GI.on (h : GI S S' b bad cs e sz Y ys) (g : Grow S' S2 nilV) : GI S S2 b bad cs e sz Y ys :=
  have hn := h.no
  ⟨h.grow.two g, Nat.le_trans h.no g.no, g.objs h.res (by omega), by
    obtain ⟨X, h1, h2⟩ := h.rd
    exact ⟨X, g.objs h1 (by omega), h2⟩, h.len, g.objs h.tab (by omega), h.w.on g⟩
theorem GI.rdB (h : GI S S' b bad cs e sz Y ys) (g : GrowB (S.no + 1) S' S2) (hr : IsRd S2 (S.no + 1) b2 bad2) (hl : b2.length ≤ b.length) : GI S S2 b2 bad2 cs e sz Y ys :=
  have hn := h.no
  ⟨h.grow.but g (Nat.le_succ _), Nat.le_trans h.no g.no, g.objs h.res (by omega) (by omega), hr, Nat.le_trans hl h.len, g.objs h.tab (by omega) (by omega), h.w.growB g⟩
theorem GI.putN (h : GI S S' b bad cs e sz Y ys) (l : Nat) (o : AObj) (hl : S.no + 3 ≤ l) : GI S (S'.put l o) b bad cs e sz Y ys := by
  have hne : ∀ m, m ≠ l → (S'.put l o).obj m = S'.obj m := fun m hm => by simp only [St.put, St.obj, PM.get_set, hm, if_false]
  refine ⟨h.grow.put _ _ (by omega), h.no, by rw [hne _ (by omega)]; exact h.res, ?_, h.len, by rw [hne _ (by omega)]; exact h.tab, ⟨h.w.own, h.w.id⟩⟩
  obtain ⟨X, h1, h2⟩ := h.rd
  exact ⟨X, by rw [hne _ (by omega)]; exact h1, h2⟩
theorem GI.app (h : GI S S' b bad cs e sz Y ys) {t t1 e1 : TypeId} {agg : Bool} {bytes : Nat} {v : AV} (ht : elIs E t e agg sz bytes = true) (ht1 : E.und t1 = some (.slice e1)) (hv : allSz sz [v] = true) (hb : (ys.length + 1) * (bytes + 1) ≤ 2 ^ 46) :
    builtinA E false .append [t, t1] [Y, .vec 1 sz [v]] S' = some (.vec S'.nid sz (ys ++ [v]), appS e S' Y) ∧ (appS e S' Y).obj (S.no + 2) = some cs ∧
    ∀ cs', GI S ((appS e S' Y).put (S.no + 2) (.cells cs')) b bad cs' e sz (.vec S'.nid sz (ys ++ [v])) (ys ++ [v]) := by
  obtain ⟨a1, a2, a3⟩ := h.w.app h.grow ht ht1 hv hb
  have hn := h.no
  have ga := Grow.app h.grow.fresh h.w.own
  refine ⟨a1, ga.objs h.tab (by omega), fun cs' => ?_⟩
  have hne : ∀ m, m ≠ S.no + 2 → ((appS e S' Y).put (S.no + 2) (.cells cs')).obj m = (appS e S' Y).obj m := fun m hm => by simp only [St.put, St.obj, PM.get_set, hm, if_false]
  refine ⟨a3.put _ _ (by omega), Nat.le_trans h.no ga.no, by rw [hne _ (by omega)]; exact ga.objs h.res (by omega), ?_, h.len, by rw [put_obj, if_pos rfl], ⟨a2.own, a2.id⟩⟩
  obtain ⟨X, h1, h2⟩ := h.rd
  exact ⟨X, by rw [hne _ (by omega)]; exact ga.objs h1 (by omega), h2⟩
theorem GI.num (h : GI S S' b bad cs e sz Y ys) (most : Int) : ∃ S2, EvA E 34 [.ptr (S.no + 1) 0, .sc (.int .i64 most)] S' (.sc (.int .i64 (numR most b bad).1)) S2 ∧ GI S S2 (numR most b bad).2.1 (numR most b bad).2.2 cs e sz Y ys ∧ GrowB (S.no + 1) S' S2 := by
  obtain ⟨r, S2, e1, rfl, h1, g1⟩ := number34_ok most b bad h.len (S.no + 1) S' h.grow.fresh h.rd
  exact ⟨S2, e1, h.rdB g1 h1 (numR_len most b bad), g1⟩
theorem GI.txt (h : GI S S' b bad cs e sz Y ys) (most : Int) : ∃ S2, EvA E 35 [.ptr (S.no + 1) 0, .sc (.int .i64 most)] S' (.sc (.string (txtR most b bad).1)) S2 ∧ GI S S2 (txtR most b bad).2.1 (txtR most b bad).2.2 cs e sz Y ys ∧ GrowB (S.no + 1) S' S2 := by
  obtain ⟨r, S2, e1, rfl, h1, g1⟩ := text35_ok most b bad h.len (S.no + 1) S' h.grow.fresh h.rd
  exact ⟨S2, e1, h.rdB g1 h1 (txtR_len most b bad), g1⟩
end
theorem stopsA_app (l : List StopV) (s : StopV) : stopsA l ++ [.agg (stopA s)] = stopsA (l ++ [s]) := by simp [stopsA]
theorem varsA_app (l : List VarV) (v : VarV) : varsA l ++ [.agg (varA v)] = varsA (l ++ [v]) := by simp [varsA]
set_option maxHeartbeats 32000000 in
theorem get_ok (b : List UInt8) (hb : b.length ≤ 2 ^ 60) (x : AV) (hx : IsV 1 x (byteVals b)) (S : St) (hS : S.Fresh) :
    ∃ r S', EvA E 11 [x] S r S' ∧ (∃ X1 X2 err, r = .tup [.agg [X1, X2], .sc (.int .i64 err)] ∧
      ((((getR b).2.2.2 = false ∧ (getR b).2.2.1 = [] ∧ GoodT (getR b).1 (getR b).2.1) ∧ err = 0 ∧ IsV 4 X1 (stopsA (getR b).1) ∧ IsV 6 X2 (varsA (getR b).2.1)) ∨
       (¬ ((getR b).2.2.2 = false ∧ (getR b).2.2.1 = [] ∧ GoodT (getR b).1 (getR b).2.1) ∧ err = 3 ∧ X1 = nilV ∧ X2 = nilV))) ∧ Grow S S' nilV := by
  refine ev11 rfl ?_
  have hG : GI S (((S.born 25 [nilV, nilV]).born 75 [x, .sc (.bool false)]).born 25 [nilV, nilV]) b false [nilV, nilV] 41 4 nilV [] :=
    ⟨(((Grow.refl hS nilV).born _ _).born _ _).born _ _, Nat.le_refl _, by simp [born_obj, born_no], ⟨x, by simp [born_obj, born_no], hx⟩, hb, by simp [born_obj, born_no], Wn.start _ _ _ _⟩
  simp only [SXa, reduceCtorEq, Nat.reduceEqDiff, Nat.reduceAdd, call34, r11_0, r11_1, r11_2, r11_3, r11_9, r11_16, r11_17, r11_18, p11, alloc25, op_build, bld75 hx, op_box, cells_agg, born_no]
  generalize ((S.born 25 [nilV, nilV]).born 75 [x, .sc (.bool false)]).born 25 [nilV, nilV] = S0 at hG
  obtain ⟨S1, e1, G1, _⟩ := hG.num 10000
  refine callK_of e1 ?_
  have hgr : ∀ q, q = getR b → q = getR b := fun _ h => h
  rcases hq1 : numR 10000 b false with ⟨n1, b1, bad1⟩
  have hn1 : 0 ≤ n1 := by have := numR_nn 10000 b false; rw [hq1] at this; exact this
  have hm1 : n1 ≤ 10000 := by have := numR_most 10000 (by decide) b false; rw [hq1] at this; exact this
  rw [hq1] at G1
  simp only at G1
  obtain ⟨n, rfl⟩ : ∃ n : Nat, n1 = n := ⟨n1.toNat, by omega⟩
  simp only [SXa, reduceCtorEq, Nat.reduceEqDiff]
  refine e_loop2 (fun tm S' N => ∃ (l : List StopV) (X : AV) (b' : List UInt8) (bad' : Bool), GI S S' b' bad' [X, nilV] 41 4 X (stopsA l) ∧ stopsR N b' bad' l = stopsR n b1 bad1 [] ∧ l.length + N ≤ 10000 ∧ getT tm 2 = .ptr S.no 0 ∧ getT tm 4 = .ptr (S.no + 1) 0 ∧ getT tm 5 = .ptr (S.no + 2) 0 ∧ getT tm 6 = .sc (.int .i64 (N : Int)))
    (fun tm S' => ∃ (l : List StopV) (X : AV) (b' : List UInt8) (bad' : Bool), GI S S' b' bad' [X, nilV] 41 4 X (stopsA l) ∧ (l, b', bad') = stopsR n b1 bad1 [] ∧ l.length ≤ 10000 ∧ getT tm 2 = .ptr S.no 0 ∧ getT tm 4 = .ptr (S.no + 1) 0 ∧ getT tm 5 = .ptr (S.no + 2) 0) 0 n
    ⟨[], nilV, b1, bad1, G1, rfl, by simp; omega, by simp [getT_setD]⟩ ?_ ?_
  · rintro tm S' N ⟨l, X, b', bad', G, hs, hl, t2, t4, t5, t6⟩
    obtain ⟨x', hr1, hr2⟩ := G.rd
    cases N with
    | zero =>
      simp only [SXa, Nat.reduceEqDiff, b11_8, r11_4, r11_7, t2, t4, t5, t6, Int.natCast_zero, Int.lt_irrefl]
      exact ⟨l, X, b', bad', G, hs, by omega⟩
    | succ N =>
      have c1 : decide ((0 : Int) < ((N + 1 : Nat) : Int)) = true := by simp only [decide_eq_true_eq]; omega
      cases bad' with
      | true =>
        simp only [SXa, Nat.reduceEqDiff, load4, b11_8, r11_4, r11_7, t2, t4, t5, t6, c1, op_nilCheck, chk_p, fld75_1, fld_p, load_pb, hr1, Option.bind_some, Nat.zero_add]
        exact ⟨l, X, b', true, G, hs, by omega⟩
      | false =>
        have wN : IntKind.i64.wrap (((N + 1 : Nat) : Int) - 1) = (N : Int) := by rw [wrap_i64 (by omega) (by omega)]; omega
        simp only [SXa, Nat.reduceEqDiff, load4, b11_8, r11_4, r11_7, t4, t6, c1, op_nilCheck, chk_p, fld75_1, fld_p, load_pb, hr1, Option.bind_some, Nat.zero_add]
        refine e_drawC noX draw11_0 ?_
        have hno := G.no
        have gr := Grow.raise G.grow.fresh 15 nilV
        have Ga := G.on gr
        have grB := gr.toB (S.no + 1)
        generalize S'.raise 15 = S2 at Ga grB ⊢
        obtain ⟨S3, e3, G3, g3⟩ := Ga.num 2147483647
        rcases hq2 : numR 2147483647 b' false with ⟨n2, b2, bad2⟩
        rw [hq2] at e3 G3
        simp only at e3 G3
        obtain ⟨S4, e4, G4, g4⟩ := G3.num 2147483647
        rcases hq3 : numR 2147483647 b2 bad2 with ⟨n3, b3, bad3⟩
        rw [hq3] at e4 G4
        simp only at e4 G4
        obtain ⟨S5, e5, G5, g5⟩ := G4.num 2147483647
        rcases hq4 : numR 2147483647 b3 bad3 with ⟨n4, b4, bad4⟩
        rw [hq4] at e5 G5
        simp only at e5 G5
        obtain ⟨S6, e6, G6, g6⟩ := G5.num 2147483647
        rcases hq5 : numR 2147483647 b4 bad4 with ⟨n5, b5, bad5⟩
        rw [hq5] at e6 G6
        simp only at e6 G6
        have hsr : stopR b' false = (⟨n2, n3, n4, n5⟩, b5, bad5) := by simp only [stopR, hq2, hq3, hq4, hq5]
        have gs := (((grB.two g3).two g4).two g5).two g6
        obtain ⟨a1, a2, a3⟩ := G6.app (t := 22) (t1 := 22) el22 und22 (v := .agg [.sc (.int .i64 n2), .sc (.int .i64 n3), .sc (.int .i64 n4), .sc (.int .i64 n5)]) rfl (by simp only [stopsA, List.length_map]; omega)
        have hap := stopsA_app l ⟨n2, n3, n4, n5⟩
        simp only [stopA] at hap
        rw [hap] at a1 a3
        simp only [SXa, Nat.reduceEqDiff, load22, call34, r11_5, r11_6, t4, t5, load_pb, Ga.tab, fld25_0, fld_p, Option.bind_some, Nat.add_zero]
        refine callK_of e3 ?_
        simp only [SXa, Nat.reduceEqDiff, call34, t4]
        refine callK_of e4 ?_
        simp only [SXa, Nat.reduceEqDiff, call34, t4]
        refine callK_of e5 ?_
        simp only [SXa, Nat.reduceEqDiff, call34, t4, safe_cons, safe_nil]
        refine callK_of e6 ?_
        simp only [SXa, Nat.reduceEqDiff, Nat.reduceAdd, store22, bs22, app22, t2, t4, t5, t6, safe_growB (show S.no + 2 < S'.no by omega) (show S.no + 2 ≠ S.no + 1 by omega) gs, Bool.and_self, op_build, bld41, bs22_1, a1, a2, fld25_0, fld_p, st_v (IsV.vec S6.nid 4 (stopsA (l ++ [⟨n2, n3, n4, n5⟩]))), Option.bind_some, Nat.add_zero, Nat.zero_add, Nat.zero_lt_succ, List.set_cons_zero, wN]
        refine ⟨N, Nat.lt_succ_self _, _, _, b5, bad5, a3 _, ?_, by simp; omega, by first | rfl | simp⟩
        rw [← hs, stopsR, cond_false, hsr]
  · rintro tm S' ⟨l, X, b', bad', G, hs, hl, t2, t4, t5⟩
    have hX : IsV 4 X (stopsA l) := G.w.own.is
    have G2 : GI S S' b' bad' [X, nilV] 43 6 nilV [] := ⟨G.grow, G.no, G.res, G.rd, G.len, G.tab, Wn.start _ _ _ _⟩
    obtain ⟨S2, e2, G3, _⟩ := G2.num 10000
    simp only [SXa, call34, t4]
    refine callK_of e2 ?_
    rcases hq6 : numR 10000 b' bad' with ⟨m1, b6, bad6⟩
    have hn6 : 0 ≤ m1 := by have := numR_nn 10000 b' bad'; rw [hq6] at this; exact this
    have hm6 : m1 ≤ 10000 := by have := numR_most 10000 (by decide) b' bad'; rw [hq6] at this; exact this
    rw [hq6] at G3
    simp only at G3
    obtain ⟨m, rfl⟩ : ∃ m : Nat, m1 = m := ⟨m1.toNat, by omega⟩
    simp only [SXa, Nat.reduceEqDiff]
    refine e_loop2 (fun tm S' N => ∃ (vs : List VarV) (Y : AV) (b' : List UInt8) (bad' : Bool), GI S S' b' bad' [X, Y] 43 6 Y (varsA vs) ∧ varsR N b' bad' vs = varsR m b6 bad6 [] ∧ vs.length + N ≤ 10000 ∧ getT tm 2 = .ptr S.no 0 ∧ getT tm 4 = .ptr (S.no + 1) 0 ∧ getT tm 5 = .ptr (S.no + 2) 0 ∧ getT tm 7 = .sc (.int .i64 (N : Int)))
      (fun tm S' => ∃ (vs : List VarV) (Y : AV) (b' : List UInt8) (bad' : Bool), GI S S' b' bad' [X, Y] 43 6 Y (varsA vs) ∧ (vs, b', bad') = varsR m b6 bad6 [] ∧ vs.length ≤ 10000 ∧ getT tm 2 = .ptr S.no 0 ∧ getT tm 4 = .ptr (S.no + 1) 0 ∧ getT tm 5 = .ptr (S.no + 2) 0) 2 m
      ⟨[], nilV, b6, bad6, G3, rfl, by simp; omega, by simp [getT_setD, t2, t4, t5]⟩ ?_ ?_
    · clear t2 t4 t5
      rintro tm S' N ⟨vs, Y, b', bad', G, hs, hl, t2, t4, t5, t7⟩
      obtain ⟨x', hr1, hr2⟩ := G.rd
      cases N with
      | zero =>
        simp only [SXa, Nat.reduceEqDiff, b11_15, r11_10, r11_11, r11_12, r11_13, r11_14, t2, t4, t5, t7, Int.natCast_zero, Int.lt_irrefl]
        exact ⟨vs, Y, b', bad', G, hs, by omega⟩
      | succ N =>
        have c1 : decide ((0 : Int) < ((N + 1 : Nat) : Int)) = true := by simp only [decide_eq_true_eq]; omega
        cases bad' with
        | true =>
          simp only [SXa, Nat.reduceEqDiff, load4, b11_15, r11_10, r11_11, r11_12, r11_13, r11_14, t2, t4, t5, t7, c1, op_nilCheck, chk_p, fld75_1, fld_p, load_pb, hr1, Option.bind_some, Nat.zero_add]
          exact ⟨vs, Y, b', true, G, hs, by omega⟩
        | false =>
          have wN : IntKind.i64.wrap (((N + 1 : Nat) : Int) - 1) = (N : Int) := by rw [wrap_i64 (by omega) (by omega)]; omega
          have hno := G.no
          obtain ⟨S3, e3, G3, g3⟩ := G.num 2147483647
          rcases hq2 : numR 2147483647 b' false with ⟨n2, b2, bad2⟩
          rw [hq2] at e3 G3
          simp only at e3 G3
          obtain ⟨S4, e4, G4, g4⟩ := G3.num 2147483647
          rcases hq3 : numR 2147483647 b2 bad2 with ⟨n3, b3, bad3⟩
          rw [hq3] at e4 G4
          simp only at e4 G4
          obtain ⟨S5, e5, G5, g5⟩ := G4.txt 4000
          rcases hq4 : txtR 4000 b3 bad3 with ⟨n4, b4, bad4⟩
          rw [hq4] at e5 G5
          simp only at e5 G5
          have hno5 := G5.no
          have G6 := (G5.on ((Grow.refl G5.grow.fresh nilV).born 43 z43)).putN S5.no (.cells [.sc (.int .i64 n2), .sc (.int .i64 n3), .sc (.string n4), .sc (.int .i64 0), .sc (.int .i64 0), .sc (.string ⟨#[]⟩)]) (by omega)
          have o6 : ((S5.born 43 z43).put S5.no (.cells [.sc (.int .i64 n2), .sc (.int .i64 n3), .sc (.string n4), .sc (.int .i64 0), .sc (.int .i64 0), .sc (.string ⟨#[]⟩)])).obj S5.no = some [.sc (.int .i64 n2), .sc (.int .i64 n3), .sc (.string n4), .sc (.int .i64 0), .sc (.int .i64 0), .sc (.string ⟨#[]⟩)] := by simp [put_obj]
          have l6 : S5.no < ((S5.born 43 z43).put S5.no (.cells [.sc (.int .i64 n2), .sc (.int .i64 n3), .sc (.string n4), .sc (.int .i64 0), .sc (.int .i64 0), .sc (.string ⟨#[]⟩)])).no := Nat.lt_succ_self _
          simp only [z43] at G6 o6 l6
          simp only [SXa, Nat.reduceEqDiff, load4, call34, b11_15, r11_10, r11_11, r11_12, r11_13, r11_14, t4, t7, c1, op_nilCheck, chk_p, fld75_1, fld_p, load_pb, hr1, Option.bind_some, Nat.zero_add]
          refine callK_of e3 ?_
          simp only [SXa, Nat.reduceEqDiff, call34, t4]
          refine callK_of e4 ?_
          simp only [SXa, Nat.reduceEqDiff, call35, t4]
          refine callK_of e5 ?_
          simp only [SXa, Nat.reduceEqDiff, Nat.reduceAdd, store43, call34, t4, op_build, bld43, alloc43, z43, st43, born_obj, Option.bind_some, Nat.le_refl, List.drop_nil]
          generalize ((S5.born 43 [.sc (.int .i64 0), .sc (.int .i64 0), .sc (.string ⟨#[]⟩), .sc (.int .i64 0), .sc (.int .i64 0), .sc (.string ⟨#[]⟩)]).put S5.no (.cells [.sc (.int .i64 n2), .sc (.int .i64 n3), .sc (.string n4), .sc (.int .i64 0), .sc (.int .i64 0), .sc (.string ⟨#[]⟩)])) = S6 at G6 o6 l6
          obtain ⟨S7, e7, G7, g7⟩ := G6.num 3
          rcases hq5 : numR 3 b4 bad4 with ⟨n5, b5, bad5⟩
          rw [hq5] at e7 G7
          simp only at e7 G7
          obtain ⟨S8, e8, G8, g8⟩ := G7.num 65535
          rcases hq8 : numR 65535 b5 bad5 with ⟨n8, b8, bad8⟩
          rw [hq8] at e8 G8
          simp only at e8 G8
          obtain ⟨S9, e9, G9, g9⟩ := G8.txt 4000000
          rcases hq9 : txtR 4000000 b8 bad8 with ⟨n9, b9, bad9⟩
          rw [hq9] at e9 G9
          simp only at e9 G9
          have o9 := ((g7.two g8).two g9).objs o6 l6 (by omega)
          have hvr : varR b' false = (⟨n2, n3, n4, n5, n8, n9⟩, b9, bad9) := by simp only [varR, hq2, hq3, hq4, hq5, hq8, hq9]
          have G10 := ((G9.putN S5.no (.cells [.sc (.int .i64 n2), .sc (.int .i64 n3), .sc (.string n4), .sc (.int .i64 n5), .sc (.int .i64 0), .sc (.string ⟨#[]⟩)]) (by omega)).putN S5.no (.cells [.sc (.int .i64 n2), .sc (.int .i64 n3), .sc (.string n4), .sc (.int .i64 n5), .sc (.int .i64 n8), .sc (.string ⟨#[]⟩)]) (by omega)).putN S5.no (.cells [.sc (.int .i64 n2), .sc (.int .i64 n3), .sc (.string n4), .sc (.int .i64 n5), .sc (.int .i64 n8), .sc (.string n9)]) (by omega)
          have hbs := bs23_1 ⟨n2, n3, n4, n5, n8, n9⟩
          have hap := varsA_app vs ⟨n2, n3, n4, n5, n8, n9⟩
          simp only [varA] at hbs hap
          obtain ⟨a1, a2, a3⟩ := G10.app (t := 23) (t1 := 23) el23 und23 (v := .agg [.sc (.int .i64 n2), .sc (.int .i64 n3), .sc (.string n4), .sc (.int .i64 n5), .sc (.int .i64 n8), .sc (.string n9)]) rfl (by simp only [varsA, List.length_map]; omega)
          rw [hap] at a1 a3
          have tab := G10.tab
          refine callK_of e7 ?_
          refine ends_base (fun tm => getT tm 2 = .ptr S.no 0 ∧ getT tm 4 = .ptr (S.no + 1) 0 ∧ getT tm 5 = .ptr (S.no + 2) 0 ∧ getT tm 7 = .sc (.int .i64 ((N + 1 : Nat) : Int)) ∧ getT tm 8 = .ptr S5.no 0 ∧ getT tm 60 = .sc (.int .i64 n5)) (by simp [getT_setD, t2, t4, t5, t7]) ?_
          clear t2 t4 t5 t7
          rintro tm ⟨t2, t4, t5, t7, t8, t60⟩
          simp only [SXa, call34, t4]
          refine callK_of e8 ?_
          simp only [SXa, Nat.reduceEqDiff, call35, t4]
          refine callK_of e9 ?_
          simp only [SXa, Nat.reduceEqDiff, Nat.reduceAdd, store3, store9, load23, t5, t8, t60, fld43_3, fld43_4, fld43_5, fld25_1, fld_p, store_int, store_1 S5.no 5 (.sc (.string n9)) rfl rfl, o9, put_obj, List.set_cons_zero, List.set_cons_succ, Nat.reduceLT, Option.bind_some, Nat.zero_add]
          have o10 : (((S9.put S5.no (.cells [.sc (.int .i64 n2), .sc (.int .i64 n3), .sc (.string n4), .sc (.int .i64 n5), .sc (.int .i64 0), .sc (.string ⟨#[]⟩)])).put S5.no (.cells [.sc (.int .i64 n2), .sc (.int .i64 n3), .sc (.string n4), .sc (.int .i64 n5), .sc (.int .i64 n8), .sc (.string ⟨#[]⟩)])).put S5.no (.cells [.sc (.int .i64 n2), .sc (.int .i64 n3), .sc (.string n4), .sc (.int .i64 n5), .sc (.int .i64 n8), .sc (.string n9)])).obj S5.no = some [.sc (.int .i64 n2), .sc (.int .i64 n3), .sc (.string n4), .sc (.int .i64 n5), .sc (.int .i64 n8), .sc (.string n9)] := by rw [put_obj, if_pos rfl]
          generalize (((S9.put S5.no (.cells [.sc (.int .i64 n2), .sc (.int .i64 n3), .sc (.string n4), .sc (.int .i64 n5), .sc (.int .i64 0), .sc (.string ⟨#[]⟩)])).put S5.no (.cells [.sc (.int .i64 n2), .sc (.int .i64 n3), .sc (.string n4), .sc (.int .i64 n5), .sc (.int .i64 n8), .sc (.string ⟨#[]⟩)])).put S5.no (.cells [.sc (.int .i64 n2), .sc (.int .i64 n3), .sc (.string n4), .sc (.int .i64 n5), .sc (.int .i64 n8), .sc (.string n9)])) = S10 at G10 o10 a1 a2 a3 tab ⊢
          simp only [SXa, Nat.reduceEqDiff, Nat.reduceAdd, Nat.reduceBEq, store23, bs23, app23, load43, t2, t4, t5, t7, t8, load_pb, tab, o10, hbs, a1, a2, fld25_1, fld_p, st_v (IsV.vec S10.nid 6 (varsA (vs ++ [⟨n2, n3, n4, n5, n8, n9⟩]))), Option.bind_some, Nat.le_refl, Nat.zero_add, Nat.lt_add_one, List.set_cons_succ, List.set_cons_zero, wN]
          refine ⟨N, Nat.lt_succ_self _, _, _, b9, bad9, a3 _, ?_, by simp; omega, by first | rfl | simp⟩
          rw [← hs, varsR, cond_false, hvr]
    · clear t2 t4 t5
      rintro tm S' ⟨vs, Y, b', bad', G, hs2, hl2, t2, t4, t5⟩
      have hgr : getR b = (l, vs, b', bad') := by
        have h1 := hs2.symm
        have h2 := hs.symm
        simp only [getR, hq1, Int.toNat_natCast, h2, hq6, h1]
      rw [hgr]
      have hY : IsV 6 Y (varsA vs) := G.w.own.is
      have hno := G.no
      obtain ⟨x', hr1, hr2⟩ := G.rd
      cases bad' with
      | true =>
        simp only [SXa, reduceCtorEq, Nat.reduceEqDiff, Nat.reduceAdd, load4, store25, t2, t4, op_nilCheck, chk_p, fld75_1, fld_p, load_pb, hr1, Option.bind_some, Nat.zero_add, op_build, bld25_0, st25 (show okCell nilV = true from rfl) (show okCell nilV = true from rfl), G.res, res25, put_obj, Nat.le_refl, List.drop_nil]
        refine ⟨⟨nilV, nilV, 3, rfl, .inr ⟨by simp, rfl, rfl, rfl⟩⟩, G.grow.put _ _ (Nat.le_refl _)⟩
      | false =>
        by_cases hb0 : b' = []
        case neg =>
          have c1 : decide ((0 : Int) < ((b'.length : Nat) : Int)) = true := by
            have := List.length_pos_iff.2 hb0
            simp only [decide_eq_true_eq]; omega
          simp only [SXa, Nat.reduceEqDiff, Nat.reduceAdd, load4, store25, load28, len28, t2, t4, op_nilCheck, chk_p, fld75_0, fld75_1, fld_p, load_pb, hr1, hr2.len, c1, Option.bind_some, Nat.zero_add, Nat.add_zero, op_build, bld25_0, st25 (show okCell nilV = true from rfl) (show okCell nilV = true from rfl), G.res, res25, put_obj, Nat.le_refl, List.drop_nil]
          refine ⟨⟨nilV, nilV, 3, rfl, .inr ⟨fun h => hb0 h.1, rfl, rfl, rfl⟩⟩, G.grow.put _ _ (Nat.le_refl _)⟩
        have c1 : decide ((0 : Int) < ((b'.length : Nat) : Int)) = false := by rw [hb0]; rfl
        obtain ⟨r, S2, e9, ⟨g, rfl, hg⟩, g9⟩ := good9_ok l vs X Y hX hY (by omega) (by omega) S' G.grow.fresh
        have G9 := G.on g9
        simp only [SXa, Nat.reduceEqDiff, Nat.reduceAdd, load4, load25, load28, len28, call9, t4, t5, op_nilCheck, chk_p, fld75_0, fld75_1, fld_p, load_pb, hr1, hr2.len, c1, G.tab, Option.bind_some, Nat.zero_add, Nat.add_zero, Nat.le_refl]
        refine callK_of e9 ?_
        cases g with
        | true =>
          simp only [SXa, Nat.reduceEqDiff, Nat.reduceAdd, load25, store25, t2, t5, load_pb, G9.tab, G9.res, st25 (okV hX) (okV hY), res25, put_obj, Option.bind_some, Nat.zero_add, Nat.le_refl, List.drop_nil]
          refine ⟨⟨X, Y, 0, rfl, .inl ⟨⟨hb0, hg.1 rfl⟩, rfl, hX, hY⟩⟩, G9.grow.put _ _ (Nat.le_refl _)⟩
        | false =>
          simp only [SXa, Nat.reduceEqDiff, Nat.reduceAdd, store25, t2, load_pb, G9.res, op_build, bld25_0, st25 (show okCell nilV = true from rfl) (show okCell nilV = true from rfl), res25, put_obj, Option.bind_some, Nat.zero_add, Nat.le_refl, List.drop_nil]
          refine ⟨⟨nilV, nilV, 3, rfl, .inr ⟨(fun h => by have := hg.2 h.2; cases this), rfl, rfl, rfl⟩⟩, G9.grow.put _ _ (Nat.le_refl _)⟩
end Go.Proofs.Ytmmpcomfhcpicaa
