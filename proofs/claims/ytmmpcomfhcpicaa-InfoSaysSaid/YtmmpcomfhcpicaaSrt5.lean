/-
  slices.SortStableFunc at a table's variables: whole, at forty elements at most.
-/
import Derived.Test.YtmmpcomfhcpicaaSrt4
set_option linter.unusedSimpArgs false
set_option linter.unusedVariables false
set_option maxRecDepth 100000
namespace Go.Proofs.Ytmmpcomfhcpicaa
open Go.Abs
theorem ins52_nil (S : St) : ∃ r S', EvA E 52 [nilV, .sc (.int .i64 0), .sc (.int .i64 0), f42] S r S' ∧ r = .sc (.tuple #[]) ∧ S' = S := by
  refine ev52 rfl ?_
  have w1 : IntKind.i64.wrap ((0 : Int) + 1) = 1 := by rw [wrap_i64 (by omega) (by omega)]; rfl
  simp only [SXa, reduceCtorEq, Nat.reduceEqDiff, Nat.reduceAdd, r52_0, p52, w1]
  refine e_loop (fun tm S' N => S' = S ∧ getT tm 2 = .sc (.int .i64 0) ∧ getT tm 8 = .sc (.int .i64 1)) 0 ⟨rfl, by simp [getT_setD]⟩ ?_
  rintro tm S' N ⟨rfl, t2, t8⟩
  simp only [SXa, Nat.reduceEqDiff, Int.reduceLT, b52_8, r52_1, r52_2, r52_7, t2, t8]
  rfl
theorem st50_nil (S : St) : ∃ r S', EvA E 50 [nilV, .sc (.int .i64 0), f42] S r S' ∧ r = .sc (.tuple #[]) ∧ S' = S := by
  refine ev50 rfl ?_
  simp only [SXa, reduceCtorEq, Nat.reduceEqDiff, Nat.reduceAdd, r50_0, r50_1, r50_7, p50]
  refine e_loop2 (fun tm S' N => S' = S ∧ getT tm 0 = nilV ∧ getT tm 1 = .sc (.int .i64 0) ∧ getT tm 2 = f42 ∧ getT tm 6 = .sc (.int .i64 20) ∧ getT tm 7 = .sc (.int .i64 0) ∧ getT tm 8 = .sc (.int .i64 20))
    (fun tm S' => S' = S ∧ getT tm 0 = nilV ∧ getT tm 1 = .sc (.int .i64 0) ∧ getT tm 2 = f42 ∧ getT tm 6 = .sc (.int .i64 20) ∧ getT tm 7 = .sc (.int .i64 0)) 0 0 ⟨rfl, by simp [getT_setD]⟩ ?_ ?_
  · rintro tm S' N ⟨rfl, t0, t1, t2, t6, t7, t8⟩
    simp only [SXa, reduceCtorEq, Nat.reduceEqDiff, Int.reduceLE, b50_6, r50_2, r50_3, r50_4, r50_5, t0, t1, t2, t6, t7, t8]
  · rintro tm S' ⟨rfl, t0, t1, t2, t6, t7⟩
    obtain ⟨r, S2, e2, rfl, rfl⟩ := ins52_nil S'
    simp only [SXa, Nat.reduceEqDiff, call52, t0, t1, t2, t7]
    refine callK_of e2 ?_
    simp only [SXa]
    refine e_loop (fun tm S' N => S' = S2 ∧ getT tm 1 = .sc (.int .i64 0) ∧ getT tm 6 = .sc (.int .i64 20)) 0 ⟨rfl, by simp [getT_setD, t1, t6]⟩ ?_
    rintro tm S' N ⟨rfl, t1, t6⟩
    simp only [SXa, Nat.reduceEqDiff, Int.reduceLT, b50_19, r50_8, r50_9, r50_15, r50_16, r50_17, r50_18, t1, t6]
    rfl
/-- What the blocks leave. -/
structure Blocks (L C1 C2 : List VarV) : Prop where
  perm : (C1 ++ C2).Perm L
  s1 : SortedV C1
  s2 : SortedV C2
  le1 : C1.length ≤ 20
  le2 : C2.length ≤ 20
  full : C1.length = 20 ∨ C2 = []
set_option maxHeartbeats 64000000 in
theorem st50_ok (L : List VarV) (o n room : Nat) (S : St) (hn : n = L.length) (hn2 : n ≤ 40) (hR : Row o S L) :
    ∃ r S', EvA E 50 [.osl o 6 0 n room, .sc (.int .i64 (n : Int)), f42] S r S' ∧ r = .sc (.tuple #[]) ∧ ∃ C, C.Perm L ∧ SortedV C ∧ Row o S' C ∧ GrowB o S S' := by
  refine ev50 rfl ?_
  simp only [SXa, reduceCtorEq, Nat.reduceEqDiff, Nat.reduceAdd, r50_0, r50_1, p50]
  refine e_loop2 (fun tm S' N => ∃ (T R : List VarV) (a : Nat), (T ++ R).Perm L ∧ T.length = a ∧ (a = 0 ∨ (a = 20 ∧ SortedV T) ∨ (a = 40 ∧ ∃ C1 C2, T = C1 ++ C2 ∧ C1.length = 20 ∧ SortedV C1 ∧ SortedV C2)) ∧ Row o S' (T ++ R) ∧ GrowB o S S' ∧ N = R.length ∧ getT tm 0 = .osl o 6 0 n room ∧ getT tm 1 = .sc (.int .i64 (n : Int)) ∧ getT tm 2 = f42 ∧ getT tm 6 = .sc (.int .i64 20) ∧ getT tm 7 = .sc (.int .i64 (a : Int)) ∧ getT tm 8 = .sc (.int .i64 ((a + 20 : Nat) : Int)))
    (fun tm S' => ∃ (T R : List VarV) (a : Nat), (T ++ R).Perm L ∧ T.length = a ∧ R.length < 20 ∧ (a = 0 ∨ (a = 20 ∧ SortedV T) ∨ (a = 40 ∧ ∃ C1 C2, T = C1 ++ C2 ∧ C1.length = 20 ∧ SortedV C1 ∧ SortedV C2)) ∧ Row o S' (T ++ R) ∧ GrowB o S S' ∧ getT tm 0 = .osl o 6 0 n room ∧ getT tm 1 = .sc (.int .i64 (n : Int)) ∧ getT tm 2 = f42 ∧ getT tm 6 = .sc (.int .i64 20) ∧ getT tm 7 = .sc (.int .i64 (a : Int))) 0 L.length
    ⟨[], L, 0, List.Perm.refl _, rfl, Or.inl rfl, hR, (Grow.refl hR.fresh nilV).toB o, rfl, by simp [getT_setD]⟩ ?_ ?_
  · clear hR
    rintro tm S' N ⟨T, R, a, hp, hT, hs, hR, hG, rfl, t0, t1, t2, t6, t7, t8⟩
    have hpl : a + R.length = n := by have := hp.length_eq; simp at this; omega
    by_cases hle : a + 20 ≤ n
    · have c1 : decide (((a + 20 : Nat) : Int) ≤ (n : Int)) = true := by simp only [decide_eq_true_eq]; omega
      have w1 : IntKind.i64.wrap (((a + 20 : Nat) : Int) + 20) = ((a + 20 + 20 : Nat) : Int) := by rw [wrap_i64 (by omega) (by omega)]; omega
      obtain ⟨R1, R2, rfl, hR1⟩ := cut_at (l := R) (k := 20) (by omega)
      simp only [List.length_append] at hpl
      obtain ⟨r, S2, e2, rfl, C, p2, q2, hR2, hG2⟩ := ins52_ok T R1 R2 o n room a (a + 20) S' (by omega) (by omega) hT.symm (by omega) (by simpa using hR)
      simp only [SXa, reduceCtorEq, Nat.reduceEqDiff, call52, b50_6, r50_2, r50_3, r50_4, r50_5, t0, t1, t2, t7, t8, c1]
      refine callK_of e2 ?_
      simp only [SXa, reduceCtorEq, Nat.reduceEqDiff, t0, t1, t2, t6, t7, t8, w1]
      have hC : C.length = 20 := by rw [p2.length_eq]; exact hR1
      refine ⟨R2.length, by simp; omega, T ++ C, R2, a + 20, ?_, by simp; omega, ?_, by simpa using hR2, hG.two hG2, rfl, by first | rfl | simp⟩
      · refine List.Perm.trans ?_ hp
        rw [← List.append_assoc]
        exact (List.Perm.append_left T p2).append_right R2
      · rcases hs with h | ⟨h, hs⟩ | ⟨h, _⟩
        · have : T = [] := List.length_eq_zero_iff.1 (by omega)
          subst this
          exact Or.inr (Or.inl ⟨by omega, by simpa using q2⟩)
        · exact Or.inr (Or.inr ⟨by omega, T, C, rfl, by omega, hs, q2⟩)
        · omega
    · have c1 : decide (((a + 20 : Nat) : Int) ≤ (n : Int)) = false := by simp only [decide_eq_false_iff_not]; omega
      simp only [SXa, reduceCtorEq, Nat.reduceEqDiff, b50_6, r50_2, r50_3, r50_4, r50_5, t0, t1, t2, t6, t7, t8, c1]
      exact ⟨T, R, a, hp, hT, by omega, hs, hR, hG, by first | rfl | simp⟩
  clear hR
  rintro tm S' ⟨T, R, a, hp, hT, hRl, hs, hR, hG, t0, t1, t2, t6, t7⟩
  have hpl : a + R.length = n := by have := hp.length_eq; simp at this; omega
  obtain ⟨r, S2, e2, rfl, C, p2, q2, hR2, hG2⟩ := ins52_ok T R [] o n room a n S' (by simp; omega) (by omega) hT.symm (by omega) (by simpa using hR)
  have hG := hG.two hG2
  obtain ⟨C1, C2, hB, hR⟩ : ∃ C1 C2, Blocks L C1 C2 ∧ Row o S2 (C1 ++ C2) := by
    have hpC : (T ++ C).Perm L := (List.Perm.append_left T p2).trans hp
    have hC : C.length = R.length := p2.length_eq
    rcases hs with h | ⟨h, hs⟩ | ⟨h, C1, C2, rfl, h1, h2, h3⟩
    · have : T = [] := List.length_eq_zero_iff.1 (by omega)
      subst this
      exact ⟨C, [], ⟨by simpa using hpC, q2, sorted_nil, by omega, by simp, Or.inr rfl⟩, by simpa using hR2⟩
    · exact ⟨T, C, ⟨hpC, hs, q2, by omega, by omega, Or.inl (by omega)⟩, by simpa using hR2⟩
    · have : C = [] := List.length_eq_zero_iff.1 (by omega)
      subst this
      simp only [List.length_append] at hT
      exact ⟨C1, C2, ⟨by simpa using hpC, h2, h3, by omega, by omega, Or.inl h1⟩, by simpa using hR2⟩
  simp only [SXa, Nat.reduceEqDiff, call52, r50_7, t0, t1, t2, t7]
  refine callK_of e2 ?_
  simp only [SXa]
  clear hp hT hRl hs e2 p2 q2 hR2 hG2 t7
  have hl := hB.perm.length_eq
  simp only [List.length_append] at hl
  have b1 := hB.le1
  have b2 := hB.le2
  refine e_loop (fun tm S' N => getT tm 0 = .osl o 6 0 n room ∧ getT tm 1 = .sc (.int .i64 (n : Int)) ∧ getT tm 2 = f42 ∧ GrowB o S S' ∧ ((N = 1 ∧ getT tm 6 = .sc (.int .i64 20) ∧ Row o S' (C1 ++ C2)) ∨ (N = 0 ∧ getT tm 6 = .sc (.int .i64 40) ∧ ∃ D, D.Perm L ∧ SortedV D ∧ Row o S' D))) 1
    ⟨by simp [getT_setD, t0], by simp [getT_setD, t1], by simp [getT_setD, t2], hG, Or.inl ⟨rfl, by simp [getT_setD, t6], hR⟩⟩ ?_
  clear hR hG t0 t1 t2 t6
  rintro tm S1 N ⟨t0, t1, t2, hG, ⟨rfl, t6, hR⟩ | ⟨rfl, t6, D, d1, d2, hR⟩⟩
  · by_cases hlt : 20 < n
    · have c1 : decide ((20 : Int) < (n : Int)) = true := by simp only [decide_eq_true_eq]; omega
      have w1 : IntKind.i64.wrap ((2 : Int) * 20) = 40 := by rw [wrap_i64 (by omega) (by omega)]; rfl
      have w1' : IntKind.i64.wrap ((20 : Int) * 2) = 40 := by rw [wrap_i64 (by omega) (by omega)]; rfl
      have w2 : IntKind.i64.wrap ((0 : Int) + 20) = 20 := by rw [wrap_i64 (by omega) (by omega)]; rfl
      have w3 : IntKind.i64.wrap ((40 : Int) + 40) = 80 := by rw [wrap_i64 (by omega) (by omega)]; rfl
      have w4 : IntKind.i64.wrap ((40 : Int) + 20) = 60 := by rw [wrap_i64 (by omega) (by omega)]; rfl
      have hf : C1.length = 20 := by
        rcases hB.full with h | h
        · exact h
        · rw [h] at hl; simp at hl; omega
      have h1 : C1 ≠ [] := by rintro rfl; simp at hf
      have h2 : C2 ≠ [] := by rintro rfl; simp at hl; omega
      obtain ⟨r, S3, e3, rfl, D, d1, d2, hR3, hG3⟩ := mer63_ok (C1.length + C2.length) [] C1 C2 [] o n room 0 20 n S1 (Nat.le_refl _) h1 h2 (by simp; omega) (by omega) rfl (by omega) (by omega) hB.s1 hB.s2 (by simpa using hR)
      have hd := d1.trans hB.perm
      have e3 : EvA E 63 [.osl o 6 0 n room, .sc (.int .i64 0), .sc (.int .i64 20), .sc (.int .i64 (n : Int)), f42] S1 (.sc (.tuple #[])) S3 := e3
      simp only [SXa, Nat.reduceEqDiff, b50_19, r50_8, r50_9, r50_15, r50_16, r50_17, r50_18, t1, t6, c1, w1]
      by_cases h40 : n = 40
      · have e4 : EvA E 63 [.osl o 6 0 n room, .sc (.int .i64 0), .sc (.int .i64 20), .sc (.int .i64 40), f42] S1 (.sc (.tuple #[])) S3 := by
          have : ((n : Nat) : Int) = 40 := by omega
          rw [this] at e3; exact e3
        have c2 : decide ((40 : Int) ≤ (n : Int)) = true := by simp only [decide_eq_true_eq]; omega
        have c3 : decide ((80 : Int) ≤ (n : Int)) = false := by simp only [decide_eq_false_iff_not]; omega
        have c4 : decide ((60 : Int) < (n : Int)) = false := by simp only [decide_eq_false_iff_not]; omega
        refine e_loop2 (fun tm S' N => getT tm 0 = .osl o 6 0 n room ∧ getT tm 1 = .sc (.int .i64 (n : Int)) ∧ getT tm 2 = f42 ∧ getT tm 6 = .sc (.int .i64 20) ∧ ((N = 1 ∧ S' = S1 ∧ getT tm 7 = .sc (.int .i64 0) ∧ getT tm 8 = .sc (.int .i64 40)) ∨ (N = 0 ∧ S' = S3 ∧ getT tm 7 = .sc (.int .i64 40) ∧ getT tm 8 = .sc (.int .i64 80))))
          (fun tm S' => getT tm 0 = .osl o 6 0 n room ∧ getT tm 1 = .sc (.int .i64 (n : Int)) ∧ getT tm 2 = f42 ∧ getT tm 6 = .sc (.int .i64 20) ∧ S' = S3 ∧ getT tm 7 = .sc (.int .i64 40)) 4 1
          ⟨by simp [getT_setD, t0], by simp [getT_setD, t1], by simp [getT_setD, t2], by simp [getT_setD, t6], Or.inl ⟨rfl, rfl, by simp [getT_setD], by simp [getT_setD]⟩⟩ ?_ ?_
        · clear t0 t1 t2 t6
          rintro tm S' N ⟨t0, t1, t2, t6, ⟨rfl, rfl, t7, t8⟩ | ⟨rfl, rfl, t7, t8⟩⟩
          · simp only [SXa, reduceCtorEq, Nat.reduceEqDiff, call63, b50_14, r50_10, r50_11, r50_12, r50_13, t0, t1, t2, t6, t7, t8, c2, w2]
            refine callK_of e4 ?_
            simp only [SXa, reduceCtorEq, Nat.reduceEqDiff, t0, t1, t2, t6, t7, t8, w1, w3]
            exact ⟨0, by omega, by first | exact Or.inr rfl | simp⟩
          · simp only [SXa, reduceCtorEq, Nat.reduceEqDiff, b50_14, r50_10, r50_11, r50_12, r50_13, t0, t1, t2, t6, t7, t8, c3]
        · clear t0 t1 t2 t6
          rintro tm S' ⟨t0, t1, t2, t6, rfl, t7⟩
          simp only [SXa, reduceCtorEq, Nat.reduceEqDiff, t0, t1, t2, t6, t7, w4, c4, w1']
          exact ⟨0, by omega, hG.two hG3, Or.inr ⟨rfl, D, hd, d2, by simpa using hR3⟩⟩
      · have c2 : decide ((40 : Int) ≤ (n : Int)) = false := by simp only [decide_eq_false_iff_not]; omega
        refine e_loop2 (fun tm S' N => getT tm 0 = .osl o 6 0 n room ∧ getT tm 1 = .sc (.int .i64 (n : Int)) ∧ getT tm 2 = f42 ∧ getT tm 6 = .sc (.int .i64 20) ∧ S' = S1 ∧ getT tm 7 = .sc (.int .i64 0) ∧ getT tm 8 = .sc (.int .i64 40))
          (fun tm S' => getT tm 0 = .osl o 6 0 n room ∧ getT tm 1 = .sc (.int .i64 (n : Int)) ∧ getT tm 2 = f42 ∧ getT tm 6 = .sc (.int .i64 20) ∧ S' = S1 ∧ getT tm 7 = .sc (.int .i64 0)) 4 1
          ⟨by simp [getT_setD, t0], by simp [getT_setD, t1], by simp [getT_setD, t2], by simp [getT_setD, t6], rfl, by simp [getT_setD], by simp [getT_setD]⟩ ?_ ?_
        · clear t0 t1 t2 t6
          rintro tm S' N ⟨t0, t1, t2, t6, rfl, t7, t8⟩
          simp only [SXa, reduceCtorEq, Nat.reduceEqDiff, b50_14, r50_10, r50_11, r50_12, r50_13, t0, t1, t2, t6, t7, t8, c2]
        · clear t0 t1 t2 t6
          rintro tm S' ⟨t0, t1, t2, t6, rfl, t7⟩
          simp only [SXa, reduceCtorEq, Nat.reduceEqDiff, call63, t0, t1, t2, t6, t7, w2, c1]
          refine callK_of e3 ?_
          simp only [SXa, reduceCtorEq, Nat.reduceEqDiff, t0, t1, t2, t6, w1']
          exact ⟨0, by omega, hG.two hG3, Or.inr ⟨rfl, D, hd, d2, by simpa using hR3⟩⟩
    · have c1 : decide ((20 : Int) < (n : Int)) = false := by simp only [decide_eq_false_iff_not]; omega
      have hC2 : C2 = [] := by
        rcases hB.full with h | h
        · exact List.length_eq_zero_iff.1 (by omega)
        · exact h
      subst hC2
      simp only [SXa, Nat.reduceEqDiff, b50_19, r50_8, r50_9, r50_15, r50_16, r50_17, r50_18, t1, t6, c1]
      exact ⟨rfl, C1, by simpa using hB.perm, hB.s1, by simpa using hR, hG⟩
  · have c1 : decide ((40 : Int) < (n : Int)) = false := by simp only [decide_eq_false_iff_not]; omega
    simp only [SXa, Nat.reduceEqDiff, b50_19, r50_8, r50_9, r50_15, r50_16, r50_17, r50_18, t1, t6, c1]
    exact ⟨rfl, D, d1, d2, hR, hG⟩
/-- The whole function, at a slice of an object of its own. -/
theorem len_osl (o sz off n room : Nat) (S : St) : lenV (.osl o sz off n room) S = some (.sc (.int .i64 (n : Nat)), S) := rfl
theorem sta41_ok (L : List VarV) (o n room : Nat) (S : St) (hn : n = L.length) (hn2 : n ≤ 40) (hR : Row o S L) :
    ∃ r S', EvA E 41 [.osl o 6 0 n room, f42] S r S' ∧ r = .sc (.tuple #[]) ∧ ∃ C, C.Perm L ∧ SortedV C ∧ Row o S' C ∧ GrowB o S S' := by
  refine ev41 rfl ?_
  obtain ⟨r, S2, e2, rfl, h⟩ := st50_ok L o n room S hn hn2 hR
  simp only [SXa, reduceCtorEq, Nat.reduceEqDiff, Nat.reduceAdd, len23, call50, r41_0, p41, len_osl]
  refine callK_of e2 ?_
  simp only [SXa]
  exact ⟨rfl, h⟩
theorem sta41_nil (S : St) : ∃ r S', EvA E 41 [nilV, f42] S r S' ∧ r = .sc (.tuple #[]) ∧ S' = S := by
  refine ev41 rfl ?_
  obtain ⟨r, S2, e2, rfl, rfl⟩ := st50_nil S
  simp only [SXa, reduceCtorEq, Nat.reduceEqDiff, Nat.reduceAdd, len23, call50, r41_0, p41, nilV]
  refine callK_of e2 ?_
  simp only [SXa]
  rfl
end Go.Proofs.Ytmmpcomfhcpicaa
