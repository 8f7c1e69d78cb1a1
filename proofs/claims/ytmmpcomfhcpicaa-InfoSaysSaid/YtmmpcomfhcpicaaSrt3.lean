/-
  slices.SortStableFunc at a table's variables: two sorted parts are merged (symMerge).
-/
import Derived.Test.YtmmpcomfhcpicaaSrt2
set_option linter.unusedSimpArgs false
set_option linter.unusedVariables false
set_option maxRecDepth 100000
namespace Go.Proofs.Ytmmpcomfhcpicaa
open Go.Abs
theorem last_of {U V : List VarV} {k : Nat} {y : VarV} (hk : k + 1 = U.length) (h : (U ++ V)[k]? = some y) : ∃ U', U = U' ++ [y] := by
  rcases List.eq_nil_or_concat U with rfl | ⟨U', z, rfl⟩
  · simp at hk
  · simp only [List.concat_eq_append, List.length_append, List.length_cons, List.length_nil] at *
    have : k = U'.length := by omega
    subst this
    simp at h
    exact ⟨U', by rw [h]⟩
theorem first_of {U V : List VarV} {k : Nat} {y : VarV} (hk : k = U.length) (h : (U ++ V)[k]? = some y) : ∃ V', V = y :: V' := by
  subst hk
  cases V with
  | nil => simp at h
  | cons z V => simp at h; exact ⟨V, by rw [h]⟩
theorem cut_at {l : List VarV} {k : Nat} (h : k ≤ l.length) : ∃ l1 l2, l = l1 ++ l2 ∧ l1.length = k := ⟨l.take k, l.drop k, (List.take_append_drop k l).symm, by simp; omega⟩
theorem le_last {A : List VarV} {y : VarV} (h : SortedV (A ++ [y])) : ∀ z ∈ A ++ [y], ¬ ltN y z := by
  intro z hz
  rcases List.mem_append.1 hz with hz | hz
  · exact (sorted_app.1 h).2.2 z hz y (by simp)
  · rw [List.mem_singleton.1 hz]; exact List.lt_irrefl _
theorem first_le {A : List VarV} {y : VarV} (h : SortedV (y :: A)) : ∀ z ∈ y :: A, ¬ ltN z y := by
  intro z hz
  rcases List.mem_cons.1 hz with rfl | hz
  · exact List.lt_irrefl _
  · exact (sorted_cons.1 h).1 z hz
theorem lt_of_le_lt {x y z : VarV} (h1 : ¬ ltN y x) (h2 : ltN y z) : ltN x z := by
  unfold ltN at *
  rcases tri x.name.data.toList y.name.data.toList with a | a | a
  · exact List.lt_trans a h2
  · exact a ▸ h2
  · exact absurd a h1
theorem lt_of_lt_le {x y z : VarV} (h1 : ltN x y) (h2 : ¬ ltN z y) : ltN x z := by
  unfold ltN at *
  rcases tri y.name.data.toList z.name.data.toList with a | a | a
  · exact List.lt_trans h1 a
  · exact a ▸ h1
  · exact absurd a h2
theorem ins_sorted {x : VarV} {B1 B2 : List VarV} (hs : SortedV (B1 ++ B2)) (h1 : ∀ y ∈ B1, ¬ ltN x y) (h2 : ∀ y ∈ B2, ¬ ltN y x) : SortedV (B1 ++ x :: B2) := by
  have h := sorted_app.1 hs
  refine sorted_app.2 ⟨h.1, sorted_cons.2 ⟨h2, h.2.1⟩, fun a ha b hb => ?_⟩
  rcases List.mem_cons.1 hb with rfl | hb
  · exact h1 a ha
  · exact h.2.2 a ha b hb
theorem fdiv2 (n : Nat) : Int.fdiv (n : Int) (2 ^ min 1 IntKind.u64.bits) = ((n / 2 : Nat) : Int) := by
  show Int.fdiv (n : Int) 2 = _
  rw [Int.fdiv_eq_ediv_of_nonneg _ (by decide)]
  omega
theorem not_cmp {x y : VarV} (h : ¬ ltN x y) : decide (cmpN x.name y.name < 0) = false := by
  cases e : decide (cmpN x.name y.name < 0) with
  | false => rfl
  | true => exact absurd ((cmp_lt x y).1 e) h
set_option maxHeartbeats 32000000 in
theorem one63_ok (P : List VarV) (x : VarV) (B Q : List VarV) (o n room a m b : Nat) (S : St) (hn : n = P.length + 1 + B.length + Q.length) (hn2 : n ≤ 2 ^ 40) (ha : a = P.length) (hm : m = a + 1) (hb : b = m + B.length) (hB : SortedV B) (hR : Row o S (P ++ x :: (B ++ Q))) :
    ∃ r S', EvA E 63 [.osl o 6 0 n room, .sc (.int .i64 (a : Int)), .sc (.int .i64 (m : Int)), .sc (.int .i64 (b : Int)), f42] S r S' ∧ r = .sc (.tuple #[]) ∧ ∃ C, C.Perm (x :: B) ∧ SortedV C ∧ Row o S' (P ++ C ++ Q) ∧ GrowB o S S' := by
  refine ev63 rfl ?_
  have w1 : IntKind.i64.wrap ((m : Int) - (a : Int)) = 1 := by rw [wrap_i64 (by omega) (by omega)]; omega
  simp only [SXa, reduceCtorEq, Nat.reduceEqDiff, Nat.reduceAdd, Int.reduceBEq, r63_0, r63_1, r63_2, r63_9, r63_14, r63_15, r63_16, r63_23, r63_28, r63_29, r63_30, r63_31, r63_32, r63_33, r63_34, r63_35, r63_36, r63_43, r63_44, r63_45, r63_46, r63_47, r63_48, r63_49, p63, w1]
  have hlen : (P ++ x :: (B ++ Q)).length = n := by simp; omega
  refine e_loop2 (fun tm S' N => ∃ i j : Nat, m ≤ i ∧ i ≤ j ∧ j ≤ b ∧ (i = m ∨ ∃ y, (P ++ x :: (B ++ Q))[i - 1]? = some y ∧ ltN y x) ∧ (j = b ∨ ∃ y, (P ++ x :: (B ++ Q))[j]? = some y ∧ ¬ ltN y x) ∧ Row o S' (P ++ x :: (B ++ Q)) ∧ GrowB o S S' ∧ N = j - i ∧ getT tm 0 = .osl o 6 0 n room ∧ getT tm 1 = .sc (.int .i64 (a : Int)) ∧ getT tm 4 = f42 ∧ getT tm 10 = .sc (.int .i64 (i : Int)) ∧ getT tm 11 = .sc (.int .i64 (j : Int)))
    (fun tm S' => ∃ i : Nat, m ≤ i ∧ i ≤ b ∧ (i = m ∨ ∃ y, (P ++ x :: (B ++ Q))[i - 1]? = some y ∧ ltN y x) ∧ (i = b ∨ ∃ y, (P ++ x :: (B ++ Q))[i]? = some y ∧ ¬ ltN y x) ∧ Row o S' (P ++ x :: (B ++ Q)) ∧ GrowB o S S' ∧ getT tm 0 = .osl o 6 0 n room ∧ getT tm 1 = .sc (.int .i64 (a : Int)) ∧ getT tm 10 = .sc (.int .i64 (i : Int))) 0 (b - m)
    ⟨m, b, Nat.le_refl _, by omega, Nat.le_refl _, Or.inl rfl, Or.inl rfl, hR, (Grow.refl hR.fresh nilV).toB o, rfl, by simp [getT_setD]⟩ ?_ ?_
  · clear hR
    rintro tm S' N ⟨i, j, hi, hij, hj, hlo, hhi, hR, hG, rfl, t0, t1, t4, t10, t11⟩
    by_cases hlt : i < j
    · have c1 : decide ((i : Int) < (j : Int)) = true := by simp only [decide_eq_true_eq]; omega
      have w2 : IntKind.i64.wrap ((i : Int) + (j : Int)) = ((i + j : Nat) : Int) := by rw [wrap_i64 (by omega) (by omega)]; omega
      have w3 : IntKind.u64.wrap ((i + j : Nat) : Int) = ((i + j : Nat) : Int) := by rw [wrap_u64 (by omega) (by omega)]
      have w4 : IntKind.i64.wrap (((i + j) / 2 : Nat) : Int) = (((i + j) / 2 : Nat) : Int) := by rw [wrap_i64 (by omega) (by omega)]
      obtain ⟨h, hh⟩ : ∃ h, h = (i + j) / 2 := ⟨_, rfl⟩
      have w5 : IntKind.i64.wrap ((h : Int) + 1) = ((h + 1 : Nat) : Int) := by rw [wrap_i64 (by omega) (by omega)]; omega
      have hk : h < (P ++ x :: (B ++ Q)).length := by omega
      have gr := Grow.raise hR.fresh 11 nilV
      have hR1 := hR.grow gr
      have i1 : ∀ S, idxV 6 (.osl o 6 0 n room) (some (h : Int)) S = some (.ptr o (h * 6), S) := fun S => idxO (by omega) S
      have i2 : ∀ S, idxV 6 (.osl o 6 0 n room) (some (a : Int)) S = some (.ptr o (a * 6), S) := fun S => idxO (by omega) S
      have l1 := load_var hR1.obj hk
      have l2 := hR1.load (k := a) ha
      have hy : (P ++ x :: (B ++ Q))[h]? = some (P ++ x :: (B ++ Q))[h] := List.getElem?_eq_getElem hk
      generalize (P ++ x :: (B ++ Q))[h] = y at l1 hy
      rw [← hh] at w4
      simp only [SXa, reduceCtorEq, Nat.reduceEqDiff, Int.reduceLT, Int.reduceToNat, index23, load43, conv3_90, conv90_3, b63_8, r63_3, r63_4, r63_5, r63_6, r63_7, t0, t1, t4, t10, t11, c1, w2, w3, fdiv2, ← hh, w4, i1, i2, l1, l2]
      rw [e_callv (g := 42) (first := []) (cap := []) _ _ _ _ _ (by simp only [SXa, Nat.reduceEqDiff]; rfl) rfl]
      obtain ⟨S2, e2, g2⟩ := cmp42_ok y x (S'.raise 11) gr.fresh
      simp only [SXa, Nat.reduceEqDiff, List.nil_append, List.append_nil]
      refine callK_of e2 ?_
      have hG2 := (hG.two (gr.toB o)).two (g2.toB o)
      have hR2 := hR1.grow g2
      by_cases hxy : ltN y x
      · have c3 := (cmp_lt y x).2 hxy
        simp only [SXa, reduceCtorEq, Nat.reduceEqDiff, t0, t1, t4, t10, t11, c3, w5]
        exact ⟨j - (h + 1), by omega, h + 1, j, by omega, by omega, hj, Or.inr ⟨y, by simpa using hy, hxy⟩, hhi, hR2, hG2, rfl, by first | rfl | simp⟩
      · have c3 := not_cmp hxy
        simp only [SXa, reduceCtorEq, Nat.reduceEqDiff, t0, t1, t4, t10, t11, c3]
        exact ⟨h - i, by omega, i, h, by omega, by omega, by omega, hlo, Or.inr ⟨y, hy, hxy⟩, hR2, hG2, rfl, by first | rfl | simp⟩
    · have hji : j = i := by omega
      subst hji
      have c1 : decide ((j : Int) < (j : Int)) = false := by simp
      simp only [SXa, reduceCtorEq, Nat.reduceEqDiff, b63_8, r63_3, r63_4, r63_5, r63_6, r63_7, t0, t1, t10, t11, c1]
      exact ⟨j, hi, hj, hlo, hhi, hR, hG, by first | rfl | simp⟩
  · clear hR
    rintro tm S' ⟨i, hi, hij, hlo, hhi, hR, hG, t0, t1, t10⟩
    obtain ⟨B1, B2, rfl, hl⟩ := cut_at (l := B) (k := i - m) (by omega)
    simp only [List.length_append] at hn hb
    have hsB := sorted_app.1 hB
    have f1 : ∀ y ∈ B1, ¬ ltN x y := by
      rcases hlo with h | ⟨y, h, hy⟩
      · have : B1 = [] := List.length_eq_zero_iff.1 (by omega)
        subst this; simp
      · intro z hz
        have hp := List.length_pos_iff.2 (List.ne_nil_of_mem hz)
        obtain ⟨U, hU⟩ := last_of (U := P ++ x :: B1) (V := B2 ++ Q) (k := i - 1) (by simp; omega) (by simpa using h)
        rcases List.eq_nil_or_concat B1 with rfl | ⟨B1', w, rfl⟩
        · simp at hp
        · rw [List.concat_eq_append] at *
          have hw : w = y := by
            have h1 : P ++ x :: (B1' ++ [w]) = (P ++ x :: B1') ++ [w] := by simp
            rw [h1] at hU
            have := List.append_inj_right' hU rfl
            simpa using this
          subst hw
          exact lt_le (lt_of_le_lt (le_last hsB.1 z hz) hy)
    have f2 : ∀ y ∈ B2, ¬ ltN y x := by
      rcases hhi with h | ⟨y, h, hy⟩
      · have : B2 = [] := List.length_eq_zero_iff.1 (by omega)
        subst this; simp
      · intro z hz
        obtain ⟨V, hV⟩ := first_of (U := P ++ x :: B1) (V := B2 ++ Q) (k := i) (by simp; omega) (by simpa using h)
        cases B2 with
        | nil => simp at hz
        | cons w B2 =>
          simp only [List.cons_append, List.cons.injEq] at hV
          obtain ⟨rfl, -⟩ := hV
          exact le_trans hy (first_le hsB.2.1 z hz)
    have fin := ins_sorted hB f1 f2
    simp only [SXa, t1]
    refine e_loop2 (fun tm S' N => ∃ (C1 C2 : List VarV) (k : Nat), B1 = C1 ++ C2 ∧ k = a + C1.length ∧ Row o S' (P ++ C1 ++ x :: (C2 ++ (B2 ++ Q))) ∧ GrowB o S S' ∧ N = C2.length ∧ getT tm 0 = .osl o 6 0 n room ∧ getT tm 10 = .sc (.int .i64 (i : Int)) ∧ getT tm 13 = .sc (.int .i64 (k : Int)))
      (fun tm S' => Row o S' (P ++ (B1 ++ x :: B2) ++ Q) ∧ GrowB o S S') 2 B1.length
      ⟨[], B1, a, rfl, rfl, by simpa using hR, hG, rfl, by simp [getT_setD, t0, t10]⟩ ?_ ?_
    · clear hR hG t0 t1 t10
      rintro tm S' N ⟨C1, C2, k, rfl, hk, hR, hG, rfl, t0, t10, t13⟩
      simp only [List.length_append] at hn hb hl
      have w2 : IntKind.i64.wrap ((i : Int) - 1) = ((i - 1 : Nat) : Int) := by rw [wrap_i64 (by omega) (by omega)]; omega
      cases C2 with
      | nil =>
        simp only [List.length_nil] at hl hn hb
        have c1 : decide ((k : Int) < ((i - 1 : Nat) : Int)) = false := by simp only [decide_eq_false_iff_not]; omega
        simp only [SXa, Nat.reduceEqDiff, b63_13, r63_10, r63_11, r63_12, t10, t13, w2, c1]
        exact ⟨by simpa using hR, hG⟩
      | cons y C2 =>
        simp only [List.length_cons] at hl hn hb
        have c1 : decide ((k : Int) < ((i - 1 : Nat) : Int)) = true := by simp only [decide_eq_true_eq]; omega
        have w5 : IntKind.i64.wrap ((k : Int) + 1) = ((k + 1 : Nat) : Int) := by rw [wrap_i64 (by omega) (by omega)]; omega
        have gr := Grow.raise hR.fresh 18 nilV
        have hR1 : Row o (S'.raise 18) ((P ++ C1) ++ x :: y :: (C2 ++ (B2 ++ Q))) := by simpa using hR.grow gr
        have hR2 : Row o (S'.raise 18) ((P ++ C1 ++ [x]) ++ y :: (C2 ++ (B2 ++ Q))) := by simpa using hR1
        have i1 : ∀ S, idxV 6 (.osl o 6 0 n room) (some (k : Int)) S = some (.ptr o (k * 6), S) := fun S => idxO (by omega) S
        have i2 : ∀ S, idxV 6 (.osl o 6 0 n room) (some ((k + 1 : Nat) : Int)) S = some (.ptr o ((k + 1) * 6), S) := fun S => idxO (by omega) S
        have l1 := hR1.load (k := k) (by simp; omega)
        have l2 := hR2.load (k := k + 1) (by simp; omega)
        obtain ⟨S6, s1, S7, s2, hR7, hG7⟩ := hR1.swap2 (M := []) (k1 := k) (k2 := k + 1) (by simp; omega) (by simp; omega)
        simp only [SXa, reduceCtorEq, Nat.reduceEqDiff, index23, load43, store43, b63_13, r63_10, r63_11, r63_12, t0, t10, t13, w2, w5, c1, i1, i2, l1, l2, s1, s2]
        exact ⟨C2.length, by simp, C1 ++ [y], C2, k + 1, by simp, by simp; omega, by simpa using hR7, (hG.two (gr.toB o)).two hG7, rfl, by first | rfl | simp⟩
    · rintro tm S' ⟨hR, hG⟩
      simp only [SXa]
      exact ⟨by first | rfl | trivial, B1 ++ x :: B2, by simp, fin, hR, hG⟩
set_option maxHeartbeats 32000000 in
theorem one63b_ok (P A : List VarV) (x : VarV) (Q : List VarV) (o n room a m b : Nat) (S : St) (hn : n = P.length + A.length + 1 + Q.length) (hn2 : n ≤ 2 ^ 40) (ha : a = P.length) (hm : m = a + A.length) (hb : b = m + 1) (hA1 : A.length ≠ 1) (hA : SortedV A) (hR : Row o S (P ++ A ++ x :: Q)) :
    ∃ r S', EvA E 63 [.osl o 6 0 n room, .sc (.int .i64 (a : Int)), .sc (.int .i64 (m : Int)), .sc (.int .i64 (b : Int)), f42] S r S' ∧ r = .sc (.tuple #[]) ∧ ∃ C, C.Perm (A ++ [x]) ∧ SortedV C ∧ Row o S' (P ++ C ++ Q) ∧ GrowB o S S' := by
  refine ev63 rfl ?_
  have w0 : IntKind.i64.wrap ((m : Int) - (a : Int)) = ((A.length : Nat) : Int) := by rw [wrap_i64 (by omega) (by omega)]; omega
  have c0 : (((A.length : Nat) : Int) == 1) = false := by simp; omega
  have w1 : IntKind.i64.wrap ((b : Int) - (m : Int)) = 1 := by rw [wrap_i64 (by omega) (by omega)]; omega
  simp only [SXa, reduceCtorEq, Nat.reduceEqDiff, Nat.reduceAdd, Int.reduceBEq, r63_0, r63_1, r63_2, r63_9, r63_14, r63_15, r63_16, r63_23, r63_28, r63_29, r63_30, r63_31, r63_32, r63_33, r63_34, r63_35, r63_36, r63_43, r63_44, r63_45, r63_46, r63_47, r63_48, r63_49, p63, w0, c0, w1]
  have hlen : (P ++ A ++ x :: Q).length = n := by simp; omega
  refine e_loop2 (fun tm S' N => ∃ i j : Nat, a ≤ i ∧ i ≤ j ∧ j ≤ m ∧ (i = a ∨ ∃ y, (P ++ A ++ x :: Q)[i - 1]? = some y ∧ ¬ ltN x y) ∧ (j = m ∨ ∃ y, (P ++ A ++ x :: Q)[j]? = some y ∧ ltN x y) ∧ Row o S' (P ++ A ++ x :: Q) ∧ GrowB o S S' ∧ N = j - i ∧ getT tm 0 = .osl o 6 0 n room ∧ getT tm 2 = .sc (.int .i64 (m : Int)) ∧ getT tm 4 = f42 ∧ getT tm 14 = .sc (.int .i64 (i : Int)) ∧ getT tm 15 = .sc (.int .i64 (j : Int)))
    (fun tm S' => ∃ i : Nat, a ≤ i ∧ i ≤ m ∧ (i = a ∨ ∃ y, (P ++ A ++ x :: Q)[i - 1]? = some y ∧ ¬ ltN x y) ∧ (i = m ∨ ∃ y, (P ++ A ++ x :: Q)[i]? = some y ∧ ltN x y) ∧ Row o S' (P ++ A ++ x :: Q) ∧ GrowB o S S' ∧ getT tm 0 = .osl o 6 0 n room ∧ getT tm 2 = .sc (.int .i64 (m : Int)) ∧ getT tm 14 = .sc (.int .i64 (i : Int))) 4 (m - a)
    ⟨a, m, Nat.le_refl _, by omega, Nat.le_refl _, Or.inl rfl, Or.inl rfl, hR, (Grow.refl hR.fresh nilV).toB o, rfl, by simp [getT_setD]⟩ ?_ ?_
  · clear hR
    rintro tm S' N ⟨i, j, hi, hij, hj, hlo, hhi, hR, hG, rfl, t0, t2, t4, t14, t15⟩
    by_cases hlt : i < j
    · have c1 : decide ((i : Int) < (j : Int)) = true := by simp only [decide_eq_true_eq]; omega
      have w2 : IntKind.i64.wrap ((i : Int) + (j : Int)) = ((i + j : Nat) : Int) := by rw [wrap_i64 (by omega) (by omega)]; omega
      have w3 : IntKind.u64.wrap ((i + j : Nat) : Int) = ((i + j : Nat) : Int) := by rw [wrap_u64 (by omega) (by omega)]
      have w4 : IntKind.i64.wrap (((i + j) / 2 : Nat) : Int) = (((i + j) / 2 : Nat) : Int) := by rw [wrap_i64 (by omega) (by omega)]
      obtain ⟨h, hh⟩ : ∃ h, h = (i + j) / 2 := ⟨_, rfl⟩
      have w5 : IntKind.i64.wrap ((h : Int) + 1) = ((h + 1 : Nat) : Int) := by rw [wrap_i64 (by omega) (by omega)]; omega
      have hk : h < (P ++ A ++ x :: Q).length := by omega
      have gr := Grow.raise hR.fresh 12 nilV
      have hR1 := hR.grow gr
      have i1 : ∀ S, idxV 6 (.osl o 6 0 n room) (some (h : Int)) S = some (.ptr o (h * 6), S) := fun S => idxO (by omega) S
      have i2 : ∀ S, idxV 6 (.osl o 6 0 n room) (some (m : Int)) S = some (.ptr o (m * 6), S) := fun S => idxO (by omega) S
      have l1 := load_var hR1.obj hk
      have l2 := hR1.load (k := m) (by simp; omega)
      have hy : (P ++ A ++ x :: Q)[h]? = some (P ++ A ++ x :: Q)[h] := List.getElem?_eq_getElem hk
      generalize (P ++ A ++ x :: Q)[h] = y at l1 hy
      rw [← hh] at w4
      simp only [SXa, reduceCtorEq, Nat.reduceEqDiff, Int.reduceLT, Int.reduceToNat, index23, load43, conv3_90, conv90_3, b63_22, r63_17, r63_18, r63_19, r63_20, r63_21, t0, t2, t4, t14, t15, c1, w2, w3, fdiv2, ← hh, w4, i1, i2, l1, l2]
      rw [e_callv (g := 42) (first := []) (cap := []) _ _ _ _ _ (by simp only [SXa, Nat.reduceEqDiff]; rfl) rfl]
      obtain ⟨S2, e2, g2⟩ := cmp42_ok x y (S'.raise 12) gr.fresh
      simp only [SXa, Nat.reduceEqDiff, List.nil_append, List.append_nil]
      refine callK_of e2 ?_
      have hG2 := (hG.two (gr.toB o)).two (g2.toB o)
      have hR2 := hR1.grow g2
      by_cases hxy : ltN x y
      · have c3 := (cmp_lt x y).2 hxy
        simp only [SXa, reduceCtorEq, Nat.reduceEqDiff, t0, t2, t4, t14, t15, c3]
        exact ⟨h - i, by omega, i, h, by omega, by omega, by omega, hlo, Or.inr ⟨y, hy, hxy⟩, hR2, hG2, rfl, by first | rfl | simp⟩
      · have c3 := not_cmp hxy
        simp only [SXa, reduceCtorEq, Nat.reduceEqDiff, t0, t2, t4, t14, t15, c3, w5]
        exact ⟨j - (h + 1), by omega, h + 1, j, by omega, by omega, hj, Or.inr ⟨y, by simpa using hy, hxy⟩, hhi, hR2, hG2, rfl, by first | rfl | simp⟩
    · have hji : j = i := by omega
      subst hji
      have c1 : decide ((j : Int) < (j : Int)) = false := by simp
      simp only [SXa, reduceCtorEq, Nat.reduceEqDiff, b63_22, r63_17, r63_18, r63_19, r63_20, r63_21, t0, t2, t14, t15, c1]
      exact ⟨j, hi, hj, hlo, hhi, hR, hG, by first | rfl | simp⟩
  · clear hR
    rintro tm S' ⟨i, hi, hij, hlo, hhi, hR, hG, t0, t2, t14⟩
    obtain ⟨A1, A2, rfl, hl⟩ := cut_at (l := A) (k := i - a) (by omega)
    simp only [List.length_append] at hn hm
    have hsA := sorted_app.1 hA
    have f1 : ∀ y ∈ A1, ¬ ltN x y := by
      rcases hlo with h | ⟨y, h, hy⟩
      · have : A1 = [] := List.length_eq_zero_iff.1 (by omega)
        subst this; simp
      · intro z hz
        have hp := List.length_pos_iff.2 (List.ne_nil_of_mem hz)
        obtain ⟨U, hU⟩ := last_of (U := P ++ A1) (V := A2 ++ x :: Q) (k := i - 1) (by simp; omega) (by simpa using h)
        rcases List.eq_nil_or_concat A1 with rfl | ⟨A1', w, rfl⟩
        · simp at hp
        · rw [List.concat_eq_append] at *
          have hw : w = y := by
            rw [← List.append_assoc] at hU
            have := List.append_inj_right' hU rfl
            simpa using this
          subst hw
          exact le_trans (le_last hsA.1 z hz) hy
    have f2 : ∀ y ∈ A2, ltN x y := by
      rcases hhi with h | ⟨y, h, hy⟩
      · have : A2 = [] := List.length_eq_zero_iff.1 (by omega)
        subst this; simp
      · intro z hz
        obtain ⟨V, hV⟩ := first_of (U := P ++ A1) (V := A2 ++ x :: Q) (k := i) (by simp; omega) (by simpa using h)
        cases A2 with
        | nil => simp at hz
        | cons w A2 =>
          simp only [List.cons_append, List.cons.injEq] at hV
          obtain ⟨rfl, -⟩ := hV
          exact lt_of_lt_le hy (first_le hsA.2.1 z hz)
    have fin := ins_sorted hA f1 (fun y hy => lt_le (f2 y hy))
    simp only [SXa, t2]
    refine e_loop2 (fun tm S' N => ∃ (C1 C2 : List VarV) (k : Nat), A2 = C1 ++ C2 ∧ k = i + C1.length ∧ Row o S' (P ++ A1 ++ C1 ++ x :: (C2 ++ Q)) ∧ GrowB o S S' ∧ N = C1.length ∧ getT tm 0 = .osl o 6 0 n room ∧ getT tm 14 = .sc (.int .i64 (i : Int)) ∧ getT tm 17 = .sc (.int .i64 (k : Int)))
      (fun tm S' => Row o S' (P ++ (A1 ++ x :: A2) ++ Q) ∧ GrowB o S S') 6 A2.length
      ⟨A2, [], m, by simp, by omega, by simpa using hR, hG, rfl, by simp [getT_setD, t0, t14]⟩ ?_ ?_
    · clear hR hG t0 t2 t14
      rintro tm S' N ⟨C1, C2, k, rfl, hk, hR, hG, rfl, t0, t14, t17⟩
      simp only [List.length_append] at hn hm hl
      rcases List.eq_nil_or_concat C1 with rfl | ⟨C1', y, rfl⟩
      · simp only [List.length_nil] at hl hn hm hk
        have c1 : decide ((i : Int) < (k : Int)) = false := by simp only [decide_eq_false_iff_not]; omega
        simp only [SXa, Nat.reduceEqDiff, b63_27, r63_24, r63_25, r63_26, t14, t17, c1]
        exact ⟨by simpa using hR, hG⟩
      · rw [List.concat_eq_append] at *
        simp only [List.length_append, List.length_cons, List.length_nil] at hl hn hm hk
        have c1 : decide ((i : Int) < (k : Int)) = true := by simp only [decide_eq_true_eq]; omega
        have w5 : IntKind.i64.wrap ((k : Int) - 1) = ((k - 1 : Nat) : Int) := by rw [wrap_i64 (by omega) (by omega)]; omega
        have gr := Grow.raise hR.fresh 18 nilV
        have hR1 : Row o (S'.raise 18) ((P ++ A1 ++ C1') ++ y :: x :: (C2 ++ Q)) := by simpa using hR.grow gr
        have hR2 : Row o (S'.raise 18) ((P ++ A1 ++ C1' ++ [y]) ++ x :: (C2 ++ Q)) := by simpa using hR1
        have i1 : ∀ S, idxV 6 (.osl o 6 0 n room) (some (k : Int)) S = some (.ptr o (k * 6), S) := fun S => idxO (by omega) S
        have i2 : ∀ S, idxV 6 (.osl o 6 0 n room) (some ((k - 1 : Nat) : Int)) S = some (.ptr o ((k - 1) * 6), S) := fun S => idxO (by omega) S
        have l1 := hR1.load (k := k - 1) (by simp; omega)
        have l2 := hR2.load (k := k) (by simp; omega)
        obtain ⟨S6, s1, S7, s2, hR7, hG7⟩ := hR1.swap (k := k - 1) (by simp; omega)
        rw [show k - 1 + 1 = k by omega] at s1
        simp only [SXa, reduceCtorEq, Nat.reduceEqDiff, index23, load43, store43, b63_27, r63_24, r63_25, r63_26, t0, t14, t17, w5, c1, i1, i2, l1, l2, s1, s2]
        exact ⟨C1'.length, by simp, C1', y :: C2, k - 1, by simp, by omega, by simpa using hR7, (hG.two (gr.toB o)).two hG7, rfl, by first | rfl | simp⟩
    · rintro tm S' ⟨hR, hG⟩
      simp only [SXa]
      refine ⟨by first | rfl | trivial, A1 ++ x :: A2, ?_, fin, hR, hG⟩
      rw [List.append_assoc]
      exact List.Perm.append_left A1 (List.perm_append_comm (l₁ := [x]) (l₂ := A2))
end Go.Proofs.Ytmmpcomfhcpicaa
