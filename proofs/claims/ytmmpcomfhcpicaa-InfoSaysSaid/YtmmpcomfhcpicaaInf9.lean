/-
  The laws of chapter 16: awake, heavy, own.
-/
import Derived.Test.YtmmpcomfhcpicaaInf3
set_option linter.unusedSimpArgs false
set_option linter.unusedVariables false
set_option maxRecDepth 100000
namespace Go.Abs
end Go.Abs
namespace Go.Proofs.Ytmmpcomfhcpicaa
open Go.Abs
theorem awake1_ok (x y : AV) : ∃ S', EvA E 7 [] (Abs.S0.born 25 [x, y]) (.sc (.bool true)) S' ∧ Grow (Abs.S0.born 25 [x, y]) S' nilV :=
  of_ranTrue noX rfl rfl rfl rfl rfl (lf := 200) (n := 60) (by kernel_rfl)
/-- More than is asked of? -/
def HeavyT (ss : List StopV) (vs : List VarV) : Prop := 40 < ss.length ∨ 40 < vs.length ∨ ∃ v ∈ vs, 250 < v.name.size ∨ 300 < v.typ.size
set_option maxHeartbeats 16000000 in
theorem heavy_ok (ss : List StopV) (vs : List VarV) (x y : AV) (hx : IsV 4 x (stopsA ss)) (hy : IsV 6 y (varsA vs)) (S : St) (hS : S.Fresh) : ∃ r S', EvA E 8 [.agg [x, y]] S r S' ∧ (∃ b, r = .sc (.bool b) ∧ (b = true ↔ HeavyT ss vs)) ∧ Grow S S' nilV := by
  refine ev8 rfl ?_
  have g0 := (Grow.refl hS nilV).born 25 [x, y]
  have h0 : (S.born 25 [x, y]).obj S.no = some [x, y] := by simp [born_obj]
  simp only [SXa, Nat.reduceAdd, r8_0, r8_1, r8_2, r8_3, r8_9, p8, op_box, cells_agg]
  generalize S.born 25 [x, y] = S0 at g0 h0
  by_cases h1 : 40 < ss.length
  · have c1 : decide ((40 : Int) < ((ss.length : Nat) : Int)) = true := by simp only [decide_eq_true_eq]; omega
    simp only [SXa, reduceCtorEq, Nat.reduceEqDiff, load22, len22, load_pb, h0, fld25_0, fld_p, Option.bind_some, Nat.add_zero, lenS_ hx, c1]
    exact ⟨⟨true, rfl, by simp only [true_iff]; exact .inl h1⟩, g0⟩
  have c1 : decide ((40 : Int) < ((ss.length : Nat) : Int)) = false := by simp only [decide_eq_false_iff_not]; omega
  by_cases h2 : 40 < vs.length
  · have c2 : decide ((40 : Int) < ((vs.length : Nat) : Int)) = true := by simp only [decide_eq_true_eq]; omega
    simp only [SXa, reduceCtorEq, Nat.reduceEqDiff, load22, len22, load23, len23, load_pb, h0, fld25_0, fld25_1, fld_p, Option.bind_some, Nat.add_zero, Nat.zero_add, lenS_ hx, lenV_ hy, c1, c2]
    exact ⟨⟨true, rfl, by simp only [true_iff]; exact .inr (.inl h2)⟩, g0⟩
  have c2 : decide ((40 : Int) < ((vs.length : Nat) : Int)) = false := by simp only [decide_eq_false_iff_not]; omega
  simp only [SXa, reduceCtorEq, Nat.reduceEqDiff, load22, len22, load23, len23, load_pb, h0, fld25_0, fld25_1, fld_p, Option.bind_some, Nat.add_zero, Nat.zero_add, lenS_ hx, lenV_ hy, c1, c2]
  refine e_loop (fun tm S' N => ∃ k : Nat, k ≤ vs.length ∧ N = vs.length - k ∧ S' = S0 ∧ (∀ j (h : j < vs.length), j < k → ¬ (250 < vs[j].name.size ∨ 300 < vs[j].typ.size)) ∧ getT tm 1 = .ptr S.no 0 ∧ getT tm 3 = .sc (.int .i64 (k : Int))) vs.length
    ⟨0, by omega, by omega, rfl, fun j _ h => by omega, by simp [getT_setD]⟩ ?_
  rintro tm S' N ⟨k, hk, rfl, rfl, hP, t1, t3⟩
  by_cases hlt : k < vs.length
  case neg =>
    simp only [SXa, Nat.reduceEqDiff, load23, len23, b8_8, r8_4, r8_5, r8_6, r8_7, t1, t3, load_pb, h0, fld25_1, fld_p, Option.bind_some, Nat.zero_add, lenV_ hy, dec_nlt hlt]
    refine ⟨⟨false, rfl, ?_⟩, g0⟩
    simp only [Bool.false_eq_true, false_iff]
    rintro (h | h | ⟨v, hv, h⟩)
    · exact h1 h
    · exact h2 h
    · obtain ⟨j, hj, rfl⟩ := List.getElem_of_mem hv
      exact hP j hj (by omega) h
  case pos =>
    have wk := wrapK hlt (by omega)
    by_cases h3 : 250 < vs[k].name.size
    · have c3 : decide ((250 : Int) < ((vs[k].name.size : Nat) : Int)) = true := by simp only [decide_eq_true_eq]; omega
      simp only [SXa, Nat.reduceEqDiff, load9, load23, index23, len23, b8_8, r8_4, r8_5, r8_6, r8_7, t1, t3, load_pb, h0, fld25_1, fld_p, Option.bind_some, Nat.zero_add, lenV_ hy, dec_lt hlt, idxV_ hy hlt, varA, fld43_2, fld_e, len9, len9s, c3]
      exact ⟨⟨true, rfl, by simp only [true_iff]; exact .inr (.inr ⟨_, List.getElem_mem hlt, .inl h3⟩)⟩, g0⟩
    have c3 : decide ((250 : Int) < ((vs[k].name.size : Nat) : Int)) = false := by simp only [decide_eq_false_iff_not]; omega
    by_cases h4 : 300 < vs[k].typ.size
    · have c4 : decide ((300 : Int) < ((vs[k].typ.size : Nat) : Int)) = true := by simp only [decide_eq_true_eq]; omega
      simp only [SXa, Nat.reduceEqDiff, load9, load23, index23, len23, b8_8, r8_4, r8_5, r8_6, r8_7, t1, t3, load_pb, h0, fld25_1, fld_p, Option.bind_some, Nat.zero_add, lenV_ hy, dec_lt hlt, idxV_ hy hlt, varA, fld43_2, fld43_5, fld_e, len9, len9s, c3, c4]
      exact ⟨⟨true, rfl, by simp only [true_iff]; exact .inr (.inr ⟨_, List.getElem_mem hlt, .inr h4⟩)⟩, g0⟩
    have c4 : decide ((300 : Int) < ((vs[k].typ.size : Nat) : Int)) = false := by simp only [decide_eq_false_iff_not]; omega
    simp only [SXa, Nat.reduceEqDiff, load9, load23, index23, len23, b8_8, r8_4, r8_5, r8_6, r8_7, t1, t3, load_pb, h0, fld25_1, fld_p, Option.bind_some, Nat.zero_add, lenV_ hy, dec_lt hlt, idxV_ hy hlt, varA, fld43_2, fld43_5, fld_e, len9, len9s, c3, c4, wk]
    refine ⟨vs.length - (k + 1), by omega, k + 1, by omega, rfl, fun j hj hjk => ?_, rfl⟩
    by_cases hjk2 : j < k
    · exact hP j hj hjk2
    · have : j = k := by omega
      subst this
      exact fun h => h.elim h3 h4
end Go.Proofs.Ytmmpcomfhcpicaa
