/-
  slices.SortStableFunc at a table's variables: how they are held against each other; the rows; insertion sort.
-/
import Derived.Test.YtmmpcomfhcpicaaInf3
set_option linter.unusedSimpArgs false
set_option linter.unusedVariables false
set_option maxRecDepth 100000
namespace Go.Proofs.Ytmmpcomfhcpicaa
open Go.Abs
theorem cmps47_ok (a b : ByteArray) (S : St) : ∃ r S', EvA E 47 [.sc (.string a), .sc (.string b)] S r S' ∧ r = .sc (.int .i64 (cmpN a b)) ∧ S' = S := by
  refine ev47 rfl ?_
  simp only [SXa, reduceCtorEq, Nat.reduceEqDiff, Nat.reduceAdd, r47_0, r47_1, p47]
  rw [e_ext (h := extCmp) (v := .sc (.int .i64 (cmpN a b))) _ _ _ _ _ (by rfl) (by simp only [SXa, reduceCtorEq, Nat.reduceEqDiff]; rfl)]
  simp only [SXa, reduceCtorEq, Nat.reduceEqDiff]
theorem cmps_ok (a b : ByteArray) (S : St) : ∃ r S', EvA E 29 [.sc (.string a), .sc (.string b)] S r S' ∧ r = .sc (.int .i64 (cmpN a b)) ∧ S' = S := by
  refine ev29 rfl ?_
  obtain ⟨r1, S1, e1, h1, h2⟩ := cmps47_ok a b S
  subst h1; subst h2
  simp only [SXa, reduceCtorEq, Nat.reduceEqDiff, Nat.reduceAdd, call47, r29_0, r29_1, p29]
  refine callK_of e1 ?_
  simp only [SXa, reduceCtorEq, Nat.reduceEqDiff]
theorem cmp42_ok (x y : VarV) (S : St) (hS : S.Fresh) : ∃ S', EvA E 42 [.agg (varA x), .agg (varA y)] S (.sc (.int .i64 (cmpN x.name y.name))) S' ∧ Grow S S' nilV := by
  have key : ∃ r S', EvA E 42 [.agg (varA x), .agg (varA y)] S r S' ∧ r = .sc (.int .i64 (cmpN x.name y.name)) ∧ Grow S S' nilV := by
    refine ev42 rfl ?_
    have g0 := ((Grow.refl hS nilV).born 43 (varA x)).born 43 (varA y)
    have h0 : ((S.born 43 (varA x)).born 43 (varA y)).obj S.no = some (varA x) := by simp [born_obj, born_no]
    have h1 : ((S.born 43 (varA x)).born 43 (varA y)).obj (S.no + 1) = some (varA y) := by simp [born_obj, born_no]
    simp only [varA] at g0 h0 h1
    obtain ⟨r1, S1, e1, k1, k2⟩ := cmps_ok x.name y.name ((S.born 43 [.sc (.int .i64 x.frm), .sc (.int .i64 x.to), .sc (.string x.name), .sc (.int .i64 x.kind), .sc (.int .i64 x.n), .sc (.string x.typ)]).born 43 [.sc (.int .i64 y.frm), .sc (.int .i64 y.to), .sc (.string y.name), .sc (.int .i64 y.kind), .sc (.int .i64 y.n), .sc (.string y.typ)])
    subst k1; subst k2
    simp only [SXa, reduceCtorEq, Nat.reduceEqDiff, Nat.reduceAdd, load9, call29, r42_0, r42_1, p42, varA, op_box, cells_agg, born_no, load_pb, h0, h1, fld43_2, fld_p, Option.bind_some, Nat.zero_add]
    refine callK_of e1 ?_
    simp only [SXa, reduceCtorEq, Nat.reduceEqDiff]
    exact g0
  obtain ⟨r, S', e, rfl, g⟩ := key
  exact ⟨S', e, g⟩
/-! The order of names. -/
def ltN (x y : VarV) : Prop := x.name.data.toList < y.name.data.toList
theorem cmp_lt (x y : VarV) : decide (cmpN x.name y.name < 0) = true ↔ ltN x y := by
  rw [decide_eq_true_eq, cmpN_lt]
  unfold ltN
  by_cases h1 : x.name.data.toList < y.name.data.toList
  · simp [h1]
  · by_cases h2 : y.name.data.toList < x.name.data.toList <;> simp [h1, h2]
theorem le_trans {x y z : VarV} (h1 : ¬ ltN y x) (h2 : ¬ ltN z y) : ¬ ltN z x := by
  unfold ltN at *
  intro h
  rcases tri y.name.data.toList z.name.data.toList with a | a | a
  · exact h1 (List.lt_trans a h)
  · exact h1 (a ▸ h)
  · exact h2 a
theorem lt_le {x y : VarV} (h : ltN x y) : ¬ ltN y x := fun k => List.lt_irrefl _ (List.lt_trans h k)
/-- Sorted by name. -/
def SortedV (l : List VarV) : Prop := l.Pairwise fun a b => ¬ ltN b a
theorem sorted_app {a b : List VarV} : SortedV (a ++ b) ↔ SortedV a ∧ SortedV b ∧ ∀ x ∈ a, ∀ y ∈ b, ¬ ltN y x := List.pairwise_append
theorem sorted_cons {x : VarV} {b : List VarV} : SortedV (x :: b) ↔ (∀ y ∈ b, ¬ ltN y x) ∧ SortedV b := List.pairwise_cons
theorem sorted_nil : SortedV [] := List.Pairwise.nil
theorem sorted_one (x : VarV) : SortedV [x] := List.pairwise_singleton _ _
/-! Rows. -/
structure Row (o : Nat) (S : St) (l : List VarV) : Prop where
  lt : o < S.no
  obj : S.obj o = some (cellsV l)
  fresh : S.Fresh
theorem Row.grow {o : Nat} {S S' : St} {l : List VarV} (h : Row o S l) (g : Grow S S' nilV) : Row o S' l := ⟨Nat.lt_of_lt_of_le h.lt g.no, g.objs h.obj h.lt, g.fresh⟩
theorem at_mid {P R : List VarV} {x : VarV} {k : Nat} (hk : k = P.length) : ∃ h : k < (P ++ x :: R).length, (P ++ x :: R)[k] = x := by
  subst hk
  exact ⟨by simp, by simp⟩
theorem Row.load {o : Nat} {S : St} {P R : List VarV} {x : VarV} (h : Row o S (P ++ x :: R)) {k : Nat} (hk : k = P.length) : loadC true 6 (.ptr o (k * 6)) S = some (.agg (varA x), S) := by
  obtain ⟨h1, h2⟩ := at_mid (R := R) (x := x) hk
  rw [load_var h.obj h1, h2]
theorem Row.store {o : Nat} {S : St} {P R : List VarV} {x : VarV} (h : Row o S (P ++ x :: R)) (y : VarV) {k : Nat} (hk : k = P.length) : storeC 6 (.ptr o (k * 6)) (.agg (varA y)) S = some (passed, S.put o (.cells (cellsV (P ++ y :: R)))) ∧ Row o (S.put o (.cells (cellsV (P ++ y :: R)))) (P ++ y :: R) ∧ GrowB o S (S.put o (.cells (cellsV (P ++ y :: R)))) := by
  subst hk
  refine ⟨?_, ⟨h.lt, by rw [put_obj, if_pos rfl], h.fresh⟩, ((Grow.refl h.fresh nilV).toB o).put _⟩
  have hl := cellsV_len (P ++ x :: R)
  have hP := cellsV_len P
  have a1 : Nat.beq (varA y).length 6 = true := rfl
  have a2 : Nat.ble (P.length * 6 + (varA y).length) (cellsV (P ++ x :: R)).length = true := by
    rw [hl]
    refine Nat.ble_eq_true_of_le ?_
    simp [varA]
    omega
  have a3 : (varA y).all okCell = true := rfl
  have a4 : splice (cellsV (P ++ x :: R)) (P.length * 6) (varA y) = cellsV (P ++ y :: R) := by
    have e1 : cellsV (P ++ x :: R) = cellsV P ++ (varA x ++ cellsV R) := by simp [cellsV]
    have e2 : cellsV (P ++ y :: R) = cellsV P ++ (varA y ++ cellsV R) := by simp [cellsV]
    rw [e1, e2, splice, ← hP, List.take_left, List.append_assoc]
    congr 2
    have : (cellsV P).length + (varA y).length = (cellsV P).length + (varA x).length := rfl
    rw [this, List.drop_append]
    have e3 : (cellsV P).length + (varA x).length - (cellsV P).length = (varA x).length := by omega
    rw [e3, List.drop_left, List.drop_eq_nil_of_le (by omega), List.nil_append]
  simp only [storeC, cellsOf, h.obj, a1, a2, a3, a4, Bool.and_self, cond_true]
theorem idxO {o n room k : Nat} (h : k < n) (S : St) : idxV 6 (.osl o 6 0 n room) (some (k : Int)) S = some (.ptr o (k * 6), S) := by simp [idxV, h]
/-- Two neighbours change places. -/
theorem Row.swap {o : Nat} {S : St} {P R : List VarV} {x y : VarV} (h : Row o S (P ++ x :: y :: R)) {k : Nat} (hk : k = P.length) : ∃ S1, storeC 6 (.ptr o ((k + 1) * 6)) (.agg (varA x)) S = some (passed, S1) ∧ ∃ S2, storeC 6 (.ptr o (k * 6)) (.agg (varA y)) S1 = some (passed, S2) ∧ Row o S2 (P ++ y :: x :: R) ∧ GrowB o S S2 := by
  have h' : Row o S ((P ++ [x]) ++ y :: R) := by simpa using h
  obtain ⟨a1, a2, a3⟩ := h'.store x (k := k + 1) (by simp [hk])
  refine ⟨_, a1, ?_⟩
  generalize S.put o (.cells (cellsV ((P ++ [x]) ++ x :: R))) = S1 at a2 a3
  have a2' : Row o S1 (P ++ x :: (x :: R)) := by simpa using a2
  obtain ⟨b1, b2, b3⟩ := a2'.store y hk
  exact ⟨_, b1, b2, a3.two b3⟩
def f42 : AV := .sc (.func (.func 42) #[] #[])
set_option maxHeartbeats 32000000 in
theorem ins52_ok (P A Q : List VarV) (o n room a b : Nat) (S : St) (hn : n = P.length + A.length + Q.length) (hn2 : n ≤ 2 ^ 40) (ha : a = P.length) (hb : b = P.length + A.length) (hR : Row o S (P ++ A ++ Q)) :
    ∃ r S', EvA E 52 [.osl o 6 0 n room, .sc (.int .i64 (a : Int)), .sc (.int .i64 (b : Int)), f42] S r S' ∧ r = .sc (.tuple #[]) ∧ ∃ A', A'.Perm A ∧ SortedV A' ∧ Row o S' (P ++ A' ++ Q) ∧ GrowB o S S' := by
  refine ev52 rfl ?_
  have w1 : IntKind.i64.wrap ((a : Int) + 1) = ((a + 1 : Nat) : Int) := by rw [wrap_i64 (by omega) (by omega)]; omega
  simp only [SXa, reduceCtorEq, Nat.reduceEqDiff, Nat.reduceAdd, r52_0, p52, w1]
  have g0 := (Grow.refl hR.fresh nilV).toB o
  cases A with
  | nil =>
    refine e_loop (fun tm S' N => S' = S ∧ getT tm 2 = .sc (.int .i64 (b : Int)) ∧ getT tm 8 = .sc (.int .i64 ((a + 1 : Nat) : Int))) 0 ⟨rfl, by simp [getT_setD]⟩ ?_
    rintro tm S' N ⟨rfl, t2, t8⟩
    have c1 : decide (((a + 1 : Nat) : Int) < (b : Int)) = false := by simp only [decide_eq_false_iff_not, List.length_nil] at *; omega
    simp only [SXa, Nat.reduceEqDiff, b52_8, r52_1, r52_2, r52_7, t2, t8, c1]
    exact ⟨rfl, [], List.Perm.refl _, sorted_nil, by simpa using hR, g0⟩
  | cons x0 A0 =>
  refine e_loop (fun tm S' N => ∃ (T R : List VarV) (i : Nat), i = a + T.length ∧ (T ++ R).Perm (x0 :: A0) ∧ SortedV T ∧ Row o S' (P ++ T ++ R ++ Q) ∧ GrowB o S S' ∧ N = R.length ∧ getT tm 0 = .osl o 6 0 n room ∧ getT tm 1 = .sc (.int .i64 (a : Int)) ∧ getT tm 2 = .sc (.int .i64 (b : Int)) ∧ getT tm 3 = f42 ∧ getT tm 8 = .sc (.int .i64 (i : Int))) A0.length
    ⟨[x0], A0, a + 1, rfl, by simp, sorted_one _, by simpa using hR, g0, rfl, by simp [getT_setD]⟩ ?_
  rintro tm S' N ⟨T, R, i, hi, hp, hs, hR, hG, rfl, t0, t1, t2, t3, t8⟩
  have hpl : T.length + R.length = (x0 :: A0).length := by have := hp.length_eq; simpa using this
  cases R with
  | nil =>
    simp only [List.length_nil, Nat.add_zero] at hpl
    have c1 : decide ((i : Int) < (b : Int)) = false := by simp only [decide_eq_false_iff_not]; omega
    simp only [SXa, Nat.reduceEqDiff, b52_8, r52_1, r52_2, r52_7, t2, t8, c1]
    exact ⟨rfl, T, by simpa using hp, hs, by simpa using hR, hG⟩
  | cons x R =>
  have hpl2 : T.length + (R.length + 1) = (x0 :: A0).length := hpl
  have c1 : decide ((i : Int) < (b : Int)) = true := by simp only [decide_eq_true_eq]; omega
  simp only [SXa, Nat.reduceEqDiff, b52_8, r52_1, r52_2, r52_7, t2, t8, c1]
  refine e_loop2 (fun tm S' N => ∃ (T1 T2 : List VarV) (j : Nat), j = a + T1.length ∧ T = T1 ++ T2 ∧ (∀ y ∈ T2, ltN x y) ∧ Row o S' (P ++ T1 ++ x :: (T2 ++ R ++ Q)) ∧ GrowB o S S' ∧ N = T1.length ∧ getT tm 0 = .osl o 6 0 n room ∧ getT tm 1 = .sc (.int .i64 (a : Int)) ∧ getT tm 2 = .sc (.int .i64 (b : Int)) ∧ getT tm 3 = f42 ∧ getT tm 8 = .sc (.int .i64 (i : Int)) ∧ getT tm 9 = .sc (.int .i64 (j : Int)))
    (fun tm S' => ∃ T' : List VarV, T'.Perm (x :: T) ∧ SortedV T' ∧ Row o S' (P ++ T' ++ (R ++ Q)) ∧ GrowB o S S' ∧ getT tm 0 = .osl o 6 0 n room ∧ getT tm 1 = .sc (.int .i64 (a : Int)) ∧ getT tm 2 = .sc (.int .i64 (b : Int)) ∧ getT tm 3 = f42 ∧ getT tm 8 = .sc (.int .i64 (i : Int))) 2 T.length
    ⟨T, [], i, hi, by simp, by simp, by simpa using hR, hG, rfl, by simp [getT_setD, t0, t1, t2, t3, t8]⟩ ?_ ?_
  · clear t0 t1 t2 t3 t8 hR hG
    rintro tm S' N ⟨T1, T2, j, hj, rfl, hlt, hR, hG, rfl, t0, t1, t2, t3, t8, t9⟩
    have hsT := sorted_app.1 hs
    have fin : (∀ z ∈ T1, ¬ ltN x z) → (T1 ++ x :: T2).Perm (x :: (T1 ++ T2)) ∧ SortedV (T1 ++ x :: T2) := fun h => by
      refine ⟨List.perm_middle, sorted_app.2 ⟨hsT.1, sorted_cons.2 ⟨fun y hy => lt_le (hlt y hy), hsT.2.1⟩, fun a ha b hb => ?_⟩⟩
      rcases List.mem_cons.1 hb with rfl | hb
      · exact h a ha
      · exact hsT.2.2 a ha b hb
    have gr := Grow.raise hR.fresh 17 nilV
    rcases List.eq_nil_or_concat T1 with rfl | ⟨T1', y, rfl⟩
    · have c2 : decide ((a : Int) < (j : Int)) = false := by simp only [decide_eq_false_iff_not, List.length_nil] at *; omega
      simp only [SXa, reduceCtorEq, Nat.reduceEqDiff, b52_6, r52_3, r52_4, r52_5, t0, t1, t2, t3, t8, t9, c2]
      obtain ⟨f1, f2⟩ := fin (by simp)
      exact ⟨_, f1, f2, by simpa using hR.grow gr, hG.two (gr.toB o)⟩
    · rw [List.concat_eq_append] at *
      have hjl : j = a + T1'.length + 1 := by rw [hj]; simp; omega
      have hpl3 : T1'.length + 1 + T2.length + (R.length + 1) = (x0 :: A0).length := by simp at hpl2 ⊢; omega
      have c2 : decide ((a : Int) < (j : Int)) = true := by simp only [decide_eq_true_eq]; omega
      have w2 : IntKind.i64.wrap ((j : Int) - 1) = ((a + T1'.length : Nat) : Int) := by
        rw [wrap_i64 (by omega) (by omega)]; omega
      have hR1 : Row o (S'.raise 17) ((P ++ T1') ++ y :: (x :: (T2 ++ R ++ Q))) := by simpa using hR.grow gr
      have hR2 : Row o (S'.raise 17) ((P ++ T1' ++ [y]) ++ x :: (T2 ++ R ++ Q)) := by simpa using hR1
      have i1 : ∀ S, idxV 6 (.osl o 6 0 n room) (some (j : Int)) S = some (.ptr o (j * 6), S) := fun S => idxO (by omega) S
      have i2 : ∀ S, idxV 6 (.osl o 6 0 n room) (some ((a + T1'.length : Nat) : Int)) S = some (.ptr o ((a + T1'.length) * 6), S) := fun S => idxO (by omega) S
      have l1 := hR2.load (k := j) (by simp; omega)
      have l2 := hR1.load (k := a + T1'.length) (by simp; omega)
      simp only [SXa, reduceCtorEq, Nat.reduceEqDiff, index23, load43, b52_6, r52_3, r52_4, r52_5, t0, t1, t3, t9, c2, w2, i1, i2, l1, l2]
      rw [e_callv (g := 42) (first := []) (cap := []) _ _ _ _ _ (by simp only [SXa, Nat.reduceEqDiff]; rfl) rfl]
      obtain ⟨S2, e2, g2⟩ := cmp42_ok x y (S'.raise 17) gr.fresh
      simp only [SXa, Nat.reduceEqDiff, List.nil_append, List.append_nil]
      refine callK_of e2 ?_
      have hG2 := (hG.two (gr.toB o)).two (g2.toB o)
      have hR3 := hR1.grow g2
      by_cases hxy : ltN x y
      · have c3 := (cmp_lt x y).2 hxy
        have gr4 := Grow.raise g2.fresh 18 nilV
        have hR4 := hR3.grow gr4
        have hR5 : Row o (S2.raise 18) ((P ++ T1' ++ [y]) ++ x :: (T2 ++ R ++ Q)) := by simpa using hR4
        have l3 := hR5.load (k := j) (by simp; omega)
        have l4 := hR4.load (k := a + T1'.length) (by simp; omega)
        obtain ⟨S6, s1, S7, s2, hR7, hG7⟩ := hR4.swap (k := a + T1'.length) (by simp; omega)
        rw [← hjl] at s1
        simp only [SXa, reduceCtorEq, Nat.reduceEqDiff, index23, load43, store43, t0, t1, t2, t3, t8, t9, c3, w2, i1, i2, l3, l4, s1, s2]
        refine ⟨T1'.length, by simp, T1', y :: T2, a + T1'.length, rfl, by simp, fun z hz => ?_, by simpa using hR7, (hG2.two (gr4.toB o)).two hG7, rfl, by first | rfl | simp⟩
        rcases List.mem_cons.1 hz with rfl | hz
        · exact hxy
        · exact hlt z hz
      · have c3 : decide (cmpN x.name y.name < 0) = false := by
          cases h : decide (cmpN x.name y.name < 0) with
          | false => rfl
          | true => exact absurd ((cmp_lt x y).1 h) hxy
        simp only [SXa, reduceCtorEq, Nat.reduceEqDiff, t0, t1, t2, t3, t8, c3]
        obtain ⟨f1, f2⟩ := fin (fun z hz => by
          rcases List.mem_append.1 hz with hz | hz
          · exact le_trans ((sorted_app.1 hsT.1).2.2 z hz y (by simp)) hxy
          · rw [List.mem_singleton.1 hz]; exact hxy)
        exact ⟨_, f1, f2, by simpa using hR3, hG2⟩
  · clear t0 t1 t2 t3 t8 hR hG
    rintro tm S' ⟨T', f1, f2, hR, hG, t0, t1, t2, t3, t8⟩
    have hl' : T'.length = T.length + 1 := by have := f1.length_eq; simpa using this
    have w3 : IntKind.i64.wrap ((i : Int) + 1) = ((i + 1 : Nat) : Int) := by
      rw [wrap_i64 (by omega) (by omega)]; omega
    simp only [SXa, reduceCtorEq, Nat.reduceEqDiff, t0, t1, t2, t3, t8, w3]
    refine ⟨R.length, by simp, T', R, i + 1, by omega, ?_, f2, by simpa using hR, hG, rfl, by first | rfl | simp⟩
    refine List.Perm.trans ?_ hp
    refine (f1.append_right R).trans ?_
    simpa using (List.perm_middle (a := x) (l₁ := T) (l₂ := R)).symm
end Go.Proofs.Ytmmpcomfhcpicaa
