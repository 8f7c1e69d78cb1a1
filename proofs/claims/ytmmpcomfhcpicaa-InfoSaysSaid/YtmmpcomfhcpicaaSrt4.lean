/-
  slices.SortStableFunc at a table's variables: two sorted parts are merged (symMerge), whole.
-/
import Derived.Test.YtmmpcomfhcpicaaSrt3
set_option linter.unusedSimpArgs false
set_option linter.unusedVariables false
set_option maxRecDepth 100000
namespace Go.Proofs.Ytmmpcomfhcpicaa
open Go.Abs
theorem ends_cut3 {E : Env} {nt : Nat} {k : List KI} {Q : PostA} {tm : PM AV} {S : St} {c c' : PC} (P : PM AV → St → Prop)
    (h1 : EndsA E nt [.c c, .c c'] .nrm tm S fun o tm' S' => match o with | .nrm => P tm' S' | _ => False) (h2 : ∀ tm' S', P tm' S' → EndsA E nt k .nrm tm' S' Q) : EndsA E nt (.c c :: .c c' :: k) .nrm tm S Q := by
  rw [← e_seq]
  refine ends_cut2 P ?_ h2
  rw [e_seq]
  exact h1
/-- Four parts, cut where the merge cuts them. -/
theorem four_sorted {A1 A2 B1 B2 C1 C2 : List VarV} (hA : SortedV (A1 ++ A2)) (hB : SortedV (B1 ++ B2)) (h1 : ∀ x ∈ A1, ∀ y ∈ B2, ¬ ltN y x) (h2 : ∀ y ∈ B1, ∀ x ∈ A2, ¬ ltN x y)
    (p1 : C1.Perm (A1 ++ B1)) (p2 : C2.Perm (A2 ++ B2)) (s1 : SortedV C1) (s2 : SortedV C2) : SortedV (C1 ++ C2) := by
  refine sorted_app.2 ⟨s1, s2, fun a ha b hb => ?_⟩
  have ha' := List.mem_append.1 (p1.mem_iff.1 ha)
  have hb' := List.mem_append.1 (p2.mem_iff.1 hb)
  rcases ha' with ha' | ha' <;> rcases hb' with hb' | hb'
  · exact (sorted_app.1 hA).2.2 a ha' b hb'
  · exact h1 a ha' b hb'
  · exact h2 a ha' b hb'
  · exact (sorted_app.1 hB).2.2 a ha' b hb'
theorem four_perm {A1 A2 B1 B2 C1 C2 : List VarV} (p1 : C1.Perm (A1 ++ B1)) (p2 : C2.Perm (A2 ++ B2)) : (C1 ++ C2).Perm ((A1 ++ A2) ++ (B1 ++ B2)) := by
  refine (p1.append p2).trans ?_
  rw [List.append_assoc, List.append_assoc]
  refine List.Perm.append_left A1 ?_
  rw [← List.append_assoc, ← List.append_assoc]
  exact List.Perm.append_right B2 List.perm_append_comm
theorem sorted_nilr {A B : List VarV} (hA : SortedV A) (hB : SortedV B) (h : A = [] ∨ B = []) : SortedV (A ++ B) := by
  rcases h with rfl | rfl
  · simpa using hB
  · simpa using hA
def MergeAt (N : Nat) : Prop := ∀ (P A B Q : List VarV) (o n room a m b : Nat) (S : St), A.length + B.length ≤ N → A ≠ [] → B ≠ [] → n = P.length + A.length + B.length + Q.length → n ≤ 2 ^ 40 → a = P.length → m = a + A.length → b = m + B.length → SortedV A → SortedV B → Row o S (P ++ A ++ B ++ Q) →
    ∃ r S', EvA E 63 [.osl o 6 0 n room, .sc (.int .i64 (a : Int)), .sc (.int .i64 (m : Int)), .sc (.int .i64 (b : Int)), f42] S r S' ∧ r = .sc (.tuple #[]) ∧ ∃ C, C.Perm (A ++ B) ∧ SortedV C ∧ Row o S' (P ++ C ++ Q) ∧ GrowB o S S'
set_option maxHeartbeats 64000000 in
theorem mer63_step (N0 : Nat) (ih : MergeAt N0) (P A B Q : List VarV) (o n room a m b : Nat) (S : St) (hN : A.length + B.length ≤ N0 + 1) (hA1 : 1 < A.length) (hB1 : 1 < B.length) (hn : n = P.length + A.length + B.length + Q.length) (hn2 : n ≤ 2 ^ 40) (ha : a = P.length) (hm : m = a + A.length) (hb : b = m + B.length) (hA : SortedV A) (hB : SortedV B) (hR : Row o S (P ++ A ++ B ++ Q)) :
    ∃ r S', EvA E 63 [.osl o 6 0 n room, .sc (.int .i64 (a : Int)), .sc (.int .i64 (m : Int)), .sc (.int .i64 (b : Int)), f42] S r S' ∧ r = .sc (.tuple #[]) ∧ ∃ C, C.Perm (A ++ B) ∧ SortedV C ∧ Row o S' (P ++ C ++ Q) ∧ GrowB o S S' := by
  refine ev63 rfl ?_
  have w0 : IntKind.i64.wrap ((m : Int) - (a : Int)) = ((A.length : Nat) : Int) := by rw [wrap_i64 (by omega) (by omega)]; omega
  have c0 : (((A.length : Nat) : Int) == 1) = false := by simp; omega
  have w1 : IntKind.i64.wrap ((b : Int) - (m : Int)) = ((B.length : Nat) : Int) := by rw [wrap_i64 (by omega) (by omega)]; omega
  have c1 : (((B.length : Nat) : Int) == 1) = false := by simp; omega
  have w2 : IntKind.i64.wrap ((a : Int) + (b : Int)) = ((a + b : Nat) : Int) := by rw [wrap_i64 (by omega) (by omega)]; omega
  have w3 : IntKind.u64.wrap ((a + b : Nat) : Int) = ((a + b : Nat) : Int) := by rw [wrap_u64 (by omega) (by omega)]
  have w4 : IntKind.i64.wrap (((a + b) / 2 : Nat) : Int) = (((a + b) / 2 : Nat) : Int) := by rw [wrap_i64 (by omega) (by omega)]
  obtain ⟨mid, hmid⟩ : ∃ mid, mid = (a + b) / 2 := ⟨_, rfl⟩
  rw [← hmid] at w4
  have w5 : IntKind.i64.wrap ((mid : Int) + (m : Int)) = ((mid + m : Nat) : Int) := by rw [wrap_i64 (by omega) (by omega)]; omega
  have w7 : IntKind.i64.wrap (((mid + m : Nat) : Int) - 1) = ((mid + m - 1 : Nat) : Int) := by rw [wrap_i64 (by omega) (by omega)]; omega
  have hlen : (P ++ A ++ B ++ Q).length = n := by simp; omega
  simp only [SXa, reduceCtorEq, Nat.reduceEqDiff, Nat.reduceAdd, Int.reduceLT, Int.reduceToNat, conv3_90, conv90_3, r63_0, r63_1, r63_2, r63_9, r63_14, r63_15, r63_16, r63_23, r63_28, r63_29, r63_30, r63_32, r63_33, r63_34, r63_35, r63_36, r63_43, r63_45, r63_47, r63_49, p63, w0, c0, w1, c1, w2, w3, fdiv2, ← hmid, w4, w5]
  refine ends_cut3 (fun tm S' => S' = S ∧ ∃ s0 r0 : Nat, (s0 ≤ r0 ∧ a ≤ s0 ∧ mid + m - b ≤ s0 ∧ r0 ≤ m ∧ r0 ≤ mid ∧ (s0 = a ∨ s0 + b = mid + m) ∧ (r0 = m ∨ r0 = mid)) ∧ getT tm 0 = .osl o 6 0 n room ∧ getT tm 1 = .sc (.int .i64 (a : Int)) ∧ getT tm 2 = .sc (.int .i64 (m : Int)) ∧ getT tm 3 = .sc (.int .i64 (b : Int)) ∧ getT tm 4 = f42 ∧ getT tm 18 = .sc (.int .i64 (mid : Int)) ∧ getT tm 19 = .sc (.int .i64 ((mid + m : Nat) : Int)) ∧ getT tm 20 = .sc (.int .i64 (s0 : Int)) ∧ getT tm 21 = .sc (.int .i64 (r0 : Int))) ?_ ?_
  · by_cases h : mid < m
    · have c2 : decide ((mid : Int) < (m : Int)) = true := by simp only [decide_eq_true_eq]; omega
      have w6 : IntKind.i64.wrap (((mid + m : Nat) : Int) - (b : Int)) = ((mid + m - b : Nat) : Int) := by rw [wrap_i64 (by omega) (by omega)]; omega
      simp only [SXa, reduceCtorEq, Nat.reduceEqDiff, r63_31, c2, w6]
      exact ⟨mid + m - b, mid, by omega, by first | rfl | simp⟩
    · have c2 : decide ((mid : Int) < (m : Int)) = false := by simp only [decide_eq_false_iff_not]; omega
      simp only [SXa, reduceCtorEq, Nat.reduceEqDiff, r63_31, c2]
      exact ⟨a, m, by omega, by first | rfl | simp⟩
  rintro tm S' ⟨rfl, s0, r0, ⟨hs0, has0, hbs0, hr0, hr0', hsd, hrd⟩, t0, t1, t2, t3, t4, t18, t19, t20, t21⟩
  simp only [SXa, Nat.reduceEqDiff, t19, w7]
  refine e_loop2 (fun tm S1 N => ∃ s r : Nat, s0 ≤ s ∧ s ≤ r ∧ r ≤ r0 ∧ (s = s0 ∨ ∃ x y, (P ++ A ++ B ++ Q)[mid + m - s]? = some y ∧ (P ++ A ++ B ++ Q)[s - 1]? = some x ∧ ¬ ltN y x) ∧ (r = r0 ∨ ∃ x y, (P ++ A ++ B ++ Q)[mid + m - 1 - r]? = some y ∧ (P ++ A ++ B ++ Q)[r]? = some x ∧ ltN y x) ∧ Row o S1 (P ++ A ++ B ++ Q) ∧ GrowB o S' S1 ∧ N = r - s ∧ getT tm 0 = .osl o 6 0 n room ∧ getT tm 1 = .sc (.int .i64 (a : Int)) ∧ getT tm 2 = .sc (.int .i64 (m : Int)) ∧ getT tm 3 = .sc (.int .i64 (b : Int)) ∧ getT tm 4 = f42 ∧ getT tm 18 = .sc (.int .i64 (mid : Int)) ∧ getT tm 19 = .sc (.int .i64 ((mid + m : Nat) : Int)) ∧ getT tm 20 = .sc (.int .i64 (s : Int)) ∧ getT tm 21 = .sc (.int .i64 (r : Int)) ∧ getT tm 22 = .sc (.int .i64 ((mid + m - 1 : Nat) : Int)))
    (fun tm S1 => ∃ s : Nat, s0 ≤ s ∧ s ≤ r0 ∧ (s = s0 ∨ ∃ x y, (P ++ A ++ B ++ Q)[mid + m - s]? = some y ∧ (P ++ A ++ B ++ Q)[s - 1]? = some x ∧ ¬ ltN y x) ∧ (s = r0 ∨ ∃ x y, (P ++ A ++ B ++ Q)[mid + m - 1 - s]? = some y ∧ (P ++ A ++ B ++ Q)[s]? = some x ∧ ltN y x) ∧ Row o S1 (P ++ A ++ B ++ Q) ∧ GrowB o S' S1 ∧ getT tm 0 = .osl o 6 0 n room ∧ getT tm 1 = .sc (.int .i64 (a : Int)) ∧ getT tm 2 = .sc (.int .i64 (m : Int)) ∧ getT tm 3 = .sc (.int .i64 (b : Int)) ∧ getT tm 4 = f42 ∧ getT tm 18 = .sc (.int .i64 (mid : Int)) ∧ getT tm 19 = .sc (.int .i64 ((mid + m : Nat) : Int)) ∧ getT tm 20 = .sc (.int .i64 (s : Int))) 8 (r0 - s0)
    ⟨s0, r0, Nat.le_refl _, hs0, Nat.le_refl _, Or.inl rfl, Or.inl rfl, hR, (Grow.refl hR.fresh nilV).toB o, rfl, by simp [getT_setD, t0, t1, t2, t3, t4, t18, t19, t20, t21]⟩ ?_ ?_
  · clear hR t0 t1 t2 t3 t4 t18 t19 t20 t21
    rintro tm S1 N ⟨i, j, hi, hij, hj, hlo, hhi, hR, hG, rfl, t0, t1, t2, t3, t4, t18, t19, t20, t21, t22⟩
    by_cases hlt : i < j
    · have c1 : decide ((i : Int) < (j : Int)) = true := by simp only [decide_eq_true_eq]; omega
      have w2 : IntKind.i64.wrap ((i : Int) + (j : Int)) = ((i + j : Nat) : Int) := by rw [wrap_i64 (by omega) (by omega)]; omega
      have w3 : IntKind.u64.wrap ((i + j : Nat) : Int) = ((i + j : Nat) : Int) := by rw [wrap_u64 (by omega) (by omega)]
      have w4 : IntKind.i64.wrap (((i + j) / 2 : Nat) : Int) = (((i + j) / 2 : Nat) : Int) := by rw [wrap_i64 (by omega) (by omega)]
      obtain ⟨h, hh⟩ : ∃ h, h = (i + j) / 2 := ⟨_, rfl⟩
      have w5 : IntKind.i64.wrap ((h : Int) + 1) = ((h + 1 : Nat) : Int) := by rw [wrap_i64 (by omega) (by omega)]; omega
      have w6 : IntKind.i64.wrap (((mid + m - 1 : Nat) : Int) - (h : Int)) = ((mid + m - 1 - h : Nat) : Int) := by rw [wrap_i64 (by omega) (by omega)]; omega
      have hk : h < (P ++ A ++ B ++ Q).length := by omega
      have hk2 : mid + m - 1 - h < (P ++ A ++ B ++ Q).length := by omega
      have gr := Grow.raise hR.fresh 14 nilV
      have hR1 := hR.grow gr
      have i1 : ∀ S, idxV 6 (.osl o 6 0 n room) (some (h : Int)) S = some (.ptr o (h * 6), S) := fun S => idxO (by omega) S
      have i2 : ∀ S, idxV 6 (.osl o 6 0 n room) (some ((mid + m - 1 - h : Nat) : Int)) S = some (.ptr o ((mid + m - 1 - h) * 6), S) := fun S => idxO (by omega) S
      have l1 := load_var hR1.obj hk
      have l2 := load_var hR1.obj hk2
      have hy : (P ++ A ++ B ++ Q)[h]? = some (P ++ A ++ B ++ Q)[h] := List.getElem?_eq_getElem hk
      have hz : (P ++ A ++ B ++ Q)[mid + m - 1 - h]? = some (P ++ A ++ B ++ Q)[mid + m - 1 - h] := List.getElem?_eq_getElem hk2
      generalize (P ++ A ++ B ++ Q)[h] = x at l1 hy
      generalize (P ++ A ++ B ++ Q)[mid + m - 1 - h] = y at l2 hz
      rw [← hh] at w4
      simp only [SXa, reduceCtorEq, Nat.reduceEqDiff, Int.reduceLT, Int.reduceToNat, index23, load43, conv3_90, conv90_3, b63_42, r63_37, r63_38, r63_39, r63_40, r63_41, t0, t4, t20, t21, t22, c1, w2, w3, fdiv2, ← hh, w4, w6, i1, i2, l1, l2]
      rw [e_callv (g := 42) (first := []) (cap := []) _ _ _ _ _ (by simp only [SXa, Nat.reduceEqDiff]; rfl) rfl]
      obtain ⟨S2, e2, g2⟩ := cmp42_ok y x (S1.raise 14) gr.fresh
      simp only [SXa, Nat.reduceEqDiff, List.nil_append, List.append_nil]
      refine callK_of e2 ?_
      have hG2 := (hG.two (gr.toB o)).two (g2.toB o)
      have hR2 := hR1.grow g2
      by_cases hxy : ltN y x
      · have c3 := (cmp_lt y x).2 hxy
        simp only [SXa, reduceCtorEq, Nat.reduceEqDiff, t0, t1, t2, t3, t4, t18, t19, t20, t21, t22, c3]
        exact ⟨h - i, by omega, i, h, by omega, by omega, by omega, hlo, Or.inr ⟨x, y, hz, hy, hxy⟩, hR2, hG2, rfl, by first | rfl | simp⟩
      · have c3 := not_cmp hxy
        simp only [SXa, reduceCtorEq, Nat.reduceEqDiff, t0, t1, t2, t3, t4, t18, t19, t20, t21, t22, c3, w5]
        refine ⟨j - (h + 1), by omega, h + 1, j, by omega, by omega, hj, Or.inr ⟨x, y, ?_, by simpa using hy, hxy⟩, hhi, hR2, hG2, rfl, by first | rfl | simp⟩
        rw [← hz]; congr 1; omega
    · have hji : j = i := by omega
      subst hji
      have c1 : decide ((j : Int) < (j : Int)) = false := by simp
      simp only [SXa, reduceCtorEq, Nat.reduceEqDiff, b63_42, r63_37, r63_38, r63_39, r63_40, r63_41, t0, t1, t2, t3, t4, t18, t19, t20, t21, c1]
      exact ⟨j, hi, hj, hlo, hhi, hR, hG, by first | rfl | simp⟩
  clear hR t0 t1 t2 t3 t4 t18 t19 t20 t21
  rintro tm S1 ⟨s, hs, hsr, hlo, hhi, hR, hG, t0, t1, t2, t3, t4, t18, t19, t20⟩
  obtain ⟨e, he⟩ : ∃ e, e = mid + m - s := ⟨_, rfl⟩
  have w6 : IntKind.i64.wrap (((mid + m : Nat) : Int) - (s : Int)) = ((e : Nat) : Int) := by rw [wrap_i64 (by omega) (by omega)]; omega
  simp only [SXa, Nat.reduceEqDiff, t19, t20, w6]
  obtain ⟨A1, A2, rfl, hlA⟩ := cut_at (l := A) (k := s - a) (by omega)
  obtain ⟨B1, B2, rfl, hlB⟩ := cut_at (l := B) (k := e - m) (by omega)
  simp only [List.length_append] at hn hm hb hN
  have hsA := sorted_app.1 hA
  have hsB := sorted_app.1 hB
  have x1 : ∀ x ∈ A1, ∀ y ∈ B2, ¬ ltN y x := by
    rcases hlo with h | ⟨x, y, h1, h2, hxy⟩
    · rcases hsd with h' | h'
      · have : A1 = [] := List.length_eq_zero_iff.1 (by omega)
        subst this; simp
      · have : B2 = [] := List.length_eq_zero_iff.1 (by omega)
        subst this; simp
    · intro u hu v hv
      have hp := List.length_pos_iff.2 (List.ne_nil_of_mem hu)
      obtain ⟨U, hU⟩ := last_of (U := P ++ A1) (V := A2 ++ (B1 ++ (B2 ++ Q))) (k := s - 1) (by simp; omega) (by simpa using h2)
      obtain ⟨V, hV⟩ := first_of (U := P ++ A1 ++ A2 ++ B1) (V := B2 ++ Q) (k := mid + m - s) (by simp; omega) (by simpa using h1)
      rcases List.eq_nil_or_concat A1 with rfl | ⟨A1', w, rfl⟩
      · simp at hp
      rw [List.concat_eq_append] at *
      have hw : w = x := by
        rw [← List.append_assoc] at hU
        have := List.append_inj_right' hU rfl
        simpa using this
      subst hw
      cases B2 with
      | nil => simp at hv
      | cons w2 B2 =>
        simp only [List.cons_append, List.cons.injEq] at hV
        obtain ⟨rfl, -⟩ := hV
        exact le_trans (le_last hsA.1 u hu) (le_trans hxy (first_le hsB.2.1 v hv))
  have x2 : ∀ y ∈ B1, ∀ x ∈ A2, ¬ ltN x y := by
    rcases hhi with h | ⟨x, y, h1, h2, hxy⟩
    · rcases hrd with h' | h'
      · have : A2 = [] := List.length_eq_zero_iff.1 (by omega)
        subst this; simp
      · have : B1 = [] := List.length_eq_zero_iff.1 (by omega)
        subst this; simp
    · intro v hv u hu
      have hp := List.length_pos_iff.2 (List.ne_nil_of_mem hv)
      obtain ⟨U, hU⟩ := last_of (U := P ++ A1 ++ A2 ++ B1) (V := B2 ++ Q) (k := mid + m - 1 - s) (by simp; omega) (by simpa using h1)
      obtain ⟨V, hV⟩ := first_of (U := P ++ A1) (V := A2 ++ (B1 ++ (B2 ++ Q))) (k := s) (by simp; omega) (by simpa using h2)
      rcases List.eq_nil_or_concat B1 with rfl | ⟨B1', w, rfl⟩
      · simp at hp
      rw [List.concat_eq_append] at *
      have hw : w = y := by
        rw [← List.append_assoc] at hU
        have := List.append_inj_right' hU rfl
        simpa using this
      subst hw
      cases A2 with
      | nil => simp at hu
      | cons w2 A2 =>
        simp only [List.cons_append, List.cons.injEq] at hV
        obtain ⟨rfl, -⟩ := hV
        exact lt_le (lt_of_le_lt (le_last hsB.1 v hv) (lt_of_lt_le hxy (first_le hsA.2.1 u hu)))
  clear hlo hhi
  refine ends_cut3 (fun tm S2 => Row o S2 (P ++ (A1 ++ B1) ++ (A2 ++ B2) ++ Q) ∧ GrowB o S' S2 ∧ getT tm 0 = .osl o 6 0 n room ∧ getT tm 1 = .sc (.int .i64 (a : Int)) ∧ getT tm 3 = .sc (.int .i64 (b : Int)) ∧ getT tm 4 = f42 ∧ getT tm 18 = .sc (.int .i64 (mid : Int)) ∧ getT tm 20 = .sc (.int .i64 (s : Int)) ∧ getT tm 24 = .sc (.int .i64 (e : Int))) ?_ ?_
  · by_cases h1 : s < m
    · have c2 : decide ((s : Int) < (m : Int)) = true := by simp only [decide_eq_true_eq]; omega
      by_cases h2 : m < e
      · have c3 : decide ((m : Int) < (e : Int)) = true := by simp only [decide_eq_true_eq]; omega
        obtain ⟨r, S2, e2, rfl, hR2, hG2⟩ := rot78_ok (P ++ A1) A2 B1 (B2 ++ Q) o n room s m e f42 S1 (by simp; omega) hn2 (by simp; omega) (by simp; omega) (by simp; omega) (by rintro rfl; simp at *; omega) (by rintro rfl; simp at *; omega) (by simpa using hR)
        simp only [SXa, reduceCtorEq, Nat.reduceEqDiff, call78, r63_44, t0, t2, t4, t20, c2, c3]
        refine callK_of e2 ?_
        simp only [SXa, reduceCtorEq, Nat.reduceEqDiff, t0, t1, t3, t4, t18, t20]
        exact ⟨by simpa using hR2, hG.two hG2⟩
      · have c3 : decide ((m : Int) < (e : Int)) = false := by simp only [decide_eq_false_iff_not]; omega
        have hnil : B1 = [] := List.length_eq_zero_iff.1 (by omega)
        subst hnil
        simp only [SXa, reduceCtorEq, Nat.reduceEqDiff, r63_44, t0, t1, t2, t3, t4, t18, t20, c2, c3]
        exact ⟨by simpa using hR, hG⟩
    · have c2 : decide ((s : Int) < (m : Int)) = false := by simp only [decide_eq_false_iff_not]; omega
      have hnil : A2 = [] := List.length_eq_zero_iff.1 (by omega)
      subst hnil
      simp only [SXa, reduceCtorEq, Nat.reduceEqDiff, r63_44, t0, t1, t2, t3, t4, t18, t20, c2]
      exact ⟨by simpa using hR, hG⟩
  clear hR hG t0 t1 t2 t3 t4 t18 t19 t20
  rintro tm S2 ⟨hR, hG, t0, t1, t3, t4, t18, t20, t24⟩
  simp only [SXa]
  refine ends_cut3 (fun tm S3 => ∃ C1, C1.Perm (A1 ++ B1) ∧ SortedV C1 ∧ Row o S3 (P ++ C1 ++ (A2 ++ B2) ++ Q) ∧ GrowB o S' S3 ∧ getT tm 0 = .osl o 6 0 n room ∧ getT tm 3 = .sc (.int .i64 (b : Int)) ∧ getT tm 4 = f42 ∧ getT tm 18 = .sc (.int .i64 (mid : Int)) ∧ getT tm 24 = .sc (.int .i64 (e : Int))) ?_ ?_
  · by_cases h1 : a < s
    · have c2 : decide ((a : Int) < (s : Int)) = true := by simp only [decide_eq_true_eq]; omega
      by_cases h2 : s < mid
      · have c3 : decide ((s : Int) < (mid : Int)) = true := by simp only [decide_eq_true_eq]; omega
        obtain ⟨r, S3, e2, rfl, C1, p1, q1, hR2, hG2⟩ := ih P A1 B1 (A2 ++ B2 ++ Q) o n room a s mid S2 (by omega) (by rintro rfl; simp at *; omega) (by rintro rfl; simp at *; omega) (by simp; omega) hn2 ha (by omega) (by omega) hsA.1 hsB.1 (by simpa using hR)
        simp only [SXa, reduceCtorEq, Nat.reduceEqDiff, call63, r63_46, t0, t1, t4, t18, t20, c2, c3]
        refine callK_of e2 ?_
        simp only [SXa, reduceCtorEq, Nat.reduceEqDiff, t0, t3, t4, t18, t24]
        exact ⟨C1, p1, q1, by simpa using hR2, hG.two hG2⟩
      · have c3 : decide ((s : Int) < (mid : Int)) = false := by simp only [decide_eq_false_iff_not]; omega
        have hnil : B1 = [] := List.length_eq_zero_iff.1 (by omega)
        subst hnil
        simp only [SXa, reduceCtorEq, Nat.reduceEqDiff, r63_46, t0, t1, t3, t4, t18, t20, t24, c2, c3]
        exact ⟨_, List.Perm.refl _, sorted_nilr hsA.1 hsB.1 (Or.inr rfl), hR, hG⟩
    · have c2 : decide ((a : Int) < (s : Int)) = false := by simp only [decide_eq_false_iff_not]; omega
      have hnil : A1 = [] := List.length_eq_zero_iff.1 (by omega)
      subst hnil
      simp only [SXa, reduceCtorEq, Nat.reduceEqDiff, r63_46, t0, t1, t3, t4, t18, t20, t24, c2]
      exact ⟨_, List.Perm.refl _, sorted_nilr hsA.1 hsB.1 (Or.inl rfl), hR, hG⟩
  clear hR hG t0 t1 t3 t4 t18 t20 t24
  rintro tm S3 ⟨C1, p1, q1, hR, hG, t0, t3, t4, t18, t24⟩
  have hlC : C1.length = A1.length + B1.length := by have := p1.length_eq; simpa using this
  by_cases h1 : mid < e
  · have c2 : decide ((mid : Int) < (e : Int)) = true := by simp only [decide_eq_true_eq]; omega
    by_cases h2 : e < b
    · have c3 : decide ((e : Int) < (b : Int)) = true := by simp only [decide_eq_true_eq]; omega
      obtain ⟨r, S4, e2, rfl, C2, p2, q2, hR2, hG2⟩ := ih (P ++ C1) A2 B2 Q o n room mid e b S3 (by omega) (by rintro rfl; simp at *; omega) (by rintro rfl; simp at *; omega) (by simp; omega) hn2 (by simp; omega) (by omega) (by omega) hsA.2.1 hsB.2.1 (by simpa using hR)
      simp only [SXa, reduceCtorEq, Nat.reduceEqDiff, call63, r63_48, t0, t3, t4, t18, t24, c2, c3]
      refine callK_of e2 ?_
      simp only [SXa]
      exact ⟨rfl, C1 ++ C2, four_perm p1 p2, four_sorted hA hB x1 x2 p1 p2 q1 q2, by simpa using hR2, hG.two hG2⟩
    · have c3 : decide ((e : Int) < (b : Int)) = false := by simp only [decide_eq_false_iff_not]; omega
      have hnil : B2 = [] := List.length_eq_zero_iff.1 (by omega)
      subst hnil
      simp only [SXa, Nat.reduceEqDiff, r63_48, t3, t18, t24, c2, c3]
      exact ⟨rfl, C1 ++ (A2 ++ []), four_perm p1 (List.Perm.refl _), four_sorted hA hB x1 x2 p1 (List.Perm.refl _) q1 (sorted_nilr hsA.2.1 hsB.2.1 (Or.inr rfl)), by simpa using hR, hG⟩
  · have c2 : decide ((mid : Int) < (e : Int)) = false := by simp only [decide_eq_false_iff_not]; omega
    have hnil : A2 = [] := List.length_eq_zero_iff.1 (by omega)
    subst hnil
    simp only [SXa, Nat.reduceEqDiff, r63_48, t18, t24, c2]
    exact ⟨rfl, C1 ++ ([] ++ B2), four_perm p1 (List.Perm.refl _), four_sorted hA hB x1 x2 p1 (List.Perm.refl _) q1 (sorted_nilr hsA.2.1 hsB.2.1 (Or.inl rfl)), by simpa using hR, hG⟩
theorem mer63_ok (N : Nat) : MergeAt N := by
  induction N with
  | zero =>
    intro P A B Q o n room a m b S h hA
    exact absurd (List.length_eq_zero_iff.1 (by omega)) hA
  | succ N ih =>
    intro P A B Q o n room a m b S h hA hB hn hn2 ha hm hb sA sB hR
    have pA := List.length_pos_iff.2 hA
    have pB := List.length_pos_iff.2 hB
    by_cases h1 : A.length = 1
    · obtain ⟨x, rfl⟩ := List.length_eq_one_iff.1 h1
      obtain ⟨r, S', e, hr, C, p, q, hR', hG⟩ := one63_ok P x B Q o n room a m b S (by simp at hn; omega) hn2 ha (by simp at hm; omega) hb sB (by simpa using hR)
      exact ⟨r, S', e, hr, C, p, q, hR', hG⟩
    by_cases h2 : B.length = 1
    · obtain ⟨x, rfl⟩ := List.length_eq_one_iff.1 h2
      obtain ⟨r, S', e, hr, C, p, q, hR', hG⟩ := one63b_ok P A x Q o n room a m b S (by simp at hn; omega) hn2 ha hm (by simp at hb; omega) h1 sA (by simpa using hR)
      exact ⟨r, S', e, hr, C, p, q, hR', hG⟩
    exact mer63_step N ih P A B Q o n room a m b S h (by omega) (by omega) hn hn2 ha hm hb sA sB hR
end Go.Proofs.Ytmmpcomfhcpicaa
