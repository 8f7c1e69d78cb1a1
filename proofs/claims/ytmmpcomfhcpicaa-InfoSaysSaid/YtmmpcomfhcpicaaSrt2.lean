/-
  slices.SortStableFunc at a table's variables: parts of the row change places.
-/
import Derived.Test.YtmmpcomfhcpicaaSrt1
set_option linter.unusedSimpArgs false
set_option linter.unusedVariables false
set_option maxRecDepth 100000
namespace Go.Proofs.Ytmmpcomfhcpicaa
open Go.Abs
/-- Two elements change places. -/
theorem Row.swap2 {o : Nat} {S : St} {P M R : List VarV} {x y : VarV} (h : Row o S (P ++ x :: (M ++ y :: R))) {k1 k2 : Nat} (h1 : k1 = P.length) (h2 : k2 = P.length + 1 + M.length) :
    ∃ S1, storeC 6 (.ptr o (k1 * 6)) (.agg (varA y)) S = some (passed, S1) ∧ ∃ S2, storeC 6 (.ptr o (k2 * 6)) (.agg (varA x)) S1 = some (passed, S2) ∧ Row o S2 (P ++ y :: (M ++ x :: R)) ∧ GrowB o S S2 := by
  obtain ⟨a1, a2, a3⟩ := h.store y h1
  refine ⟨_, a1, ?_⟩
  generalize S.put o (.cells (cellsV (P ++ y :: (M ++ y :: R)))) = S1 at a2 a3
  have a2' : Row o S1 ((P ++ y :: M) ++ y :: R) := by simpa using a2
  obtain ⟨b1, b2, b3⟩ := a2'.store x (k := k2) (by simp; omega)
  exact ⟨_, b1, by simpa using b2, a3.two b3⟩
set_option maxHeartbeats 32000000 in
theorem swp83_ok (P X M Y Q : List VarV) (o n room a b m : Nat) (f : AV) (S : St) (hn : n = P.length + X.length + M.length + Y.length + Q.length) (hn2 : n ≤ 2 ^ 40) (ha : a = P.length) (hb : b = P.length + X.length + M.length) (hx : X.length = m) (hy : Y.length = m) (hR : Row o S (P ++ X ++ M ++ Y ++ Q)) :
    ∃ r S', EvA E 83 [.osl o 6 0 n room, .sc (.int .i64 (a : Int)), .sc (.int .i64 (b : Int)), .sc (.int .i64 (m : Int)), f] S r S' ∧ r = .sc (.tuple #[]) ∧ Row o S' (P ++ Y ++ M ++ X ++ Q) ∧ GrowB o S S' := by
  refine ev83 rfl ?_
  simp only [SXa, Nat.reduceAdd, r83_0, p83]
  refine e_loop (fun tm S' N => ∃ (X1 X2 Y1 Y2 : List VarV) (i : Nat), X = X1 ++ X2 ∧ Y = Y1 ++ Y2 ∧ X1.length = i ∧ Y1.length = i ∧ Row o S' (P ++ Y1 ++ X2 ++ M ++ X1 ++ Y2 ++ Q) ∧ GrowB o S S' ∧ N = X2.length ∧ getT tm 0 = .osl o 6 0 n room ∧ getT tm 1 = .sc (.int .i64 (a : Int)) ∧ getT tm 2 = .sc (.int .i64 (b : Int)) ∧ getT tm 3 = .sc (.int .i64 (m : Int)) ∧ getT tm 10 = .sc (.int .i64 (i : Int))) m
    ⟨[], X, [], Y, 0, rfl, rfl, rfl, rfl, by simpa using hR, (Grow.refl hR.fresh nilV).toB o, hx.symm, by simp [getT_setD]⟩ ?_
  rintro tm S' N ⟨X1, X2, Y1, Y2, i, rfl, rfl, hx1, hy1, hR, hG, rfl, t0, t1, t2, t3, t10⟩
  simp only [List.length_append] at hx hy hn hb
  rcases X2 with _ | ⟨x, X2⟩
  · have c1 : decide ((i : Int) < (m : Int)) = false := by simp only [decide_eq_false_iff_not, List.length_nil] at *; omega
    have hy2 : Y2 = [] := by
      have : Y2.length = 0 := by simp only [List.length_nil] at hx; omega
      exact List.length_eq_zero_iff.1 this
    subst hy2
    simp only [SXa, Nat.reduceEqDiff, b83_4, r83_1, r83_2, r83_3, t3, t10, c1]
    exact ⟨rfl, by simpa using hR, hG⟩
  · rcases Y2 with _ | ⟨y, Y2⟩
    · simp only [List.length_nil, List.length_cons] at hx hy; omega
    simp only [List.length_cons] at hx hy hn hb
    have c1 : decide ((i : Int) < (m : Int)) = true := by simp only [decide_eq_true_eq]; omega
    have w1 : IntKind.i64.wrap ((a : Int) + (i : Int)) = ((a + i : Nat) : Int) := by rw [wrap_i64 (by omega) (by omega)]; omega
    have w2 : IntKind.i64.wrap ((b : Int) + (i : Int)) = ((b + i : Nat) : Int) := by rw [wrap_i64 (by omega) (by omega)]; omega
    have w3 : IntKind.i64.wrap ((i : Int) + 1) = ((i + 1 : Nat) : Int) := by rw [wrap_i64 (by omega) (by omega)]; omega
    have gr := Grow.raise hR.fresh 24 nilV
    have hR1 : Row o (S'.raise 24) ((P ++ Y1) ++ x :: ((X2 ++ M ++ X1) ++ y :: (Y2 ++ Q))) := by simpa using hR.grow gr
    have hR2 : Row o (S'.raise 24) ((P ++ Y1 ++ x :: (X2 ++ M ++ X1)) ++ y :: (Y2 ++ Q)) := by simpa using hR1
    have i1 : ∀ S, idxV 6 (.osl o 6 0 n room) (some ((a + i : Nat) : Int)) S = some (.ptr o ((a + i) * 6), S) := fun S => idxO (by omega) S
    have i2 : ∀ S, idxV 6 (.osl o 6 0 n room) (some ((b + i : Nat) : Int)) S = some (.ptr o ((b + i) * 6), S) := fun S => idxO (by omega) S
    have l1 := hR1.load (k := a + i) (by simp; omega)
    have l2 := hR2.load (k := b + i) (by simp; omega)
    obtain ⟨S6, s1, S7, s2, hR7, hG7⟩ := hR1.swap2 (k1 := a + i) (k2 := b + i) (by simp; omega) (by simp; omega)
    simp only [SXa, reduceCtorEq, Nat.reduceEqDiff, index23, load43, store43, b83_4, r83_1, r83_2, r83_3, t0, t1, t2, t3, t10, c1, w1, w2, w3, i1, i2, l1, l2, s1, s2]
    exact ⟨X2.length, by simp, X1 ++ [x], X2, Y1 ++ [y], Y2, i + 1, by simp, by simp, by simp; omega, by simp; omega, by simpa using hR7, (hG.two (gr.toB o)).two hG7, rfl, by first | rfl | simp⟩
set_option maxHeartbeats 32000000 in
theorem rot78_ok (P X Y Q : List VarV) (o n room a m b : Nat) (f : AV) (S : St) (hn : n = P.length + X.length + Y.length + Q.length) (hn2 : n ≤ 2 ^ 40) (ha : a = P.length) (hm : m = P.length + X.length) (hb : b = P.length + X.length + Y.length) (hx0 : X ≠ []) (hy0 : Y ≠ []) (hR : Row o S (P ++ X ++ Y ++ Q)) :
    ∃ r S', EvA E 78 [.osl o 6 0 n room, .sc (.int .i64 (a : Int)), .sc (.int .i64 (m : Int)), .sc (.int .i64 (b : Int)), f] S r S' ∧ r = .sc (.tuple #[]) ∧ Row o S' (P ++ Y ++ X ++ Q) ∧ GrowB o S S' := by
  refine ev78 rfl ?_
  have hxl := List.length_pos_iff.2 hx0
  have hyl := List.length_pos_iff.2 hy0
  have w1 : IntKind.i64.wrap ((m : Int) - (a : Int)) = ((X.length : Nat) : Int) := by rw [wrap_i64 (by omega) (by omega)]; omega
  have w2 : IntKind.i64.wrap ((b : Int) - (m : Int)) = ((Y.length : Nat) : Int) := by rw [wrap_i64 (by omega) (by omega)]; omega
  simp only [SXa, reduceCtorEq, Nat.reduceEqDiff, Nat.reduceAdd, r78_0, r78_1, r78_9, p78, w1, w2]
  refine e_loop2 (fun tm S' N => ∃ (P' X' Y' Q' : List VarV) (i j : Nat), P' ++ Y' ++ X' ++ Q' = P ++ Y ++ X ++ Q ∧ P'.length + X'.length = m ∧ X'.length = i ∧ Y'.length = j ∧ 0 < i ∧ 0 < j ∧ Row o S' (P' ++ X' ++ Y' ++ Q') ∧ GrowB o S S' ∧ N = i + j ∧ getT tm 0 = .osl o 6 0 n room ∧ getT tm 2 = .sc (.int .i64 (m : Int)) ∧ getT tm 4 = f ∧ getT tm 10 = .sc (.int .i64 (i : Int)) ∧ getT tm 11 = .sc (.int .i64 (j : Int)))
    (fun tm S' => ∃ (P' X' Y' Q' : List VarV) (i : Nat), P' ++ Y' ++ X' ++ Q' = P ++ Y ++ X ++ Q ∧ P'.length + X'.length = m ∧ X'.length = i ∧ Y'.length = i ∧ Row o S' (P' ++ X' ++ Y' ++ Q') ∧ GrowB o S S' ∧ getT tm 0 = .osl o 6 0 n room ∧ getT tm 2 = .sc (.int .i64 (m : Int)) ∧ getT tm 4 = f ∧ getT tm 10 = .sc (.int .i64 (i : Int))) 0 (X.length + Y.length)
    ⟨P, X, Y, Q, X.length, Y.length, rfl, hm.symm, rfl, rfl, hxl, hyl, hR, (Grow.refl hR.fresh nilV).toB o, rfl, by simp [getT_setD]⟩ ?_ ?_
  · rintro tm S' N ⟨P', X', Y', Q', i, j, he, hpm, hi, hj, hi0, hj0, hR, hG, rfl, t0, t2, t4, t10, t11⟩
    have hlen := congrArg List.length he
    simp only [List.length_append] at hlen
    by_cases hij : i = j
    · subst hij
      have c1 : (((i : Nat) : Int) != ((i : Nat) : Int)) = false := by simp
      simp only [SXa, reduceCtorEq, Nat.reduceEqDiff, b78_8, r78_2, r78_3, r78_4, r78_5, r78_6, r78_7, t0, t2, t4, t10, t11, c1]
      exact ⟨P', X', Y', Q', i, he, hpm, hi, hj, hR, hG, by first | rfl | simp⟩
    have c1 : (((i : Nat) : Int) != ((j : Nat) : Int)) = true := by rw [bne_iff_ne]; omega
    have w3 : IntKind.i64.wrap ((m : Int) - (i : Int)) = ((m - i : Nat) : Int) := by rw [wrap_i64 (by omega) (by omega)]; omega
    by_cases hgt : j < i
    · have c2 : decide ((j : Int) < (i : Int)) = true := by simp only [decide_eq_true_eq]; omega
      have w4 : IntKind.i64.wrap ((i : Int) - (j : Int)) = ((i - j : Nat) : Int) := by rw [wrap_i64 (by omega) (by omega)]; omega
      have hX : X' = X'.take j ++ X'.drop j := (List.take_append_drop j X').symm
      have l1 : (X'.take j).length = j := by simp; omega
      have l2 : (X'.drop j).length = i - j := by simp; omega
      generalize X'.take j = X1 at hX l1
      generalize X'.drop j = X2 at hX l2
      subst hX
      simp only [List.length_append] at hpm
      obtain ⟨r, S2, e2, rfl, hR2, hG2⟩ := swp83_ok P' X1 X2 Y' Q' o n room (m - i) m j f S' (by omega) hn2 (by omega) (by omega) l1 hj (by simpa using hR)
      simp only [SXa, reduceCtorEq, Nat.reduceEqDiff, call83, b78_8, r78_2, r78_3, r78_4, r78_5, r78_6, r78_7, t0, t2, t4, t10, t11, c1, c2, w3]
      refine callK_of e2 ?_
      simp only [SXa, reduceCtorEq, Nat.reduceEqDiff, t0, t2, t4, t10, t11, w4]
      exact ⟨i - j + j, by omega, P' ++ Y', X2, X1, Q', i - j, j, by rw [← he]; simp, by simp; omega, l2, l1, by omega, hj0, by simpa using hR2, hG.two hG2, rfl, by first | rfl | simp⟩
    · have c2 : decide ((j : Int) < (i : Int)) = false := by simp only [decide_eq_false_iff_not]; omega
      have w4 : IntKind.i64.wrap ((j : Int) - (i : Int)) = ((j - i : Nat) : Int) := by rw [wrap_i64 (by omega) (by omega)]; omega
      have w5 : IntKind.i64.wrap ((m : Int) + (j : Int)) = ((m + j : Nat) : Int) := by rw [wrap_i64 (by omega) (by omega)]; omega
      have w6 : IntKind.i64.wrap (((m + j : Nat) : Int) - (i : Int)) = ((m + j - i : Nat) : Int) := by rw [wrap_i64 (by omega) (by omega)]; omega
      have hY : Y' = Y'.take (j - i) ++ Y'.drop (j - i) := (List.take_append_drop (j - i) Y').symm
      have l1 : (Y'.take (j - i)).length = j - i := by simp; omega
      have l2 : (Y'.drop (j - i)).length = i := by simp; omega
      generalize Y'.take (j - i) = Y1 at hY l1
      generalize Y'.drop (j - i) = Y2 at hY l2
      subst hY
      obtain ⟨r, S2, e2, rfl, hR2, hG2⟩ := swp83_ok P' X' Y1 Y2 Q' o n room (m - i) (m + j - i) i f S' (by omega) hn2 (by omega) (by omega) hi l2 (by simpa using hR)
      simp only [SXa, reduceCtorEq, Nat.reduceEqDiff, call83, b78_8, r78_2, r78_3, r78_4, r78_5, r78_6, r78_7, t0, t2, t4, t10, t11, c1, c2, w3, w5, w6]
      refine callK_of e2 ?_
      simp only [SXa, reduceCtorEq, Nat.reduceEqDiff, t0, t2, t4, t10, t11, w4]
      exact ⟨i + (j - i), by omega, P', Y2, Y1, X' ++ Q', i, j - i, by rw [← he]; simp, by omega, l2, l1, hi0, by omega, by simpa using hR2, hG.two hG2, rfl, by first | rfl | simp⟩
  · rintro tm S' ⟨P', X', Y', Q', i, he, hpm, hi, hj, hR, hG, t0, t2, t4, t10⟩
    have hlen := congrArg List.length he
    simp only [List.length_append] at hlen
    have w3 : IntKind.i64.wrap ((m : Int) - (i : Int)) = ((m - i : Nat) : Int) := by rw [wrap_i64 (by omega) (by omega)]; omega
    obtain ⟨r, S2, e2, rfl, hR2, hG2⟩ := swp83_ok P' X' [] Y' Q' o n room (m - i) m i f S' (by simp; omega) hn2 (by omega) (by simp; omega) hi hj (by simpa using hR)
    simp only [SXa, Nat.reduceEqDiff, call83, t0, t2, t4, t10, w3]
    refine callK_of e2 ?_
    simp only [SXa]
    exact ⟨rfl, by rw [← he]; simpa using hR2, hG.two hG2⟩
end Go.Proofs.Ytmmpcomfhcpicaa
