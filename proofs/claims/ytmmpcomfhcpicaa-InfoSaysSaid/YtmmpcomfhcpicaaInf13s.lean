/-
  Chapter 16's laws: SameTable: the walk.
-/
import Derived.Test.YtmmpcomfhcpicaaInf10
import Derived.Test.YtmmpcomfhcpicaaInf11
import Derived.Test.YtmmpcomfhcpicaaInf12
set_option linter.unusedSimpArgs false
set_option linter.unusedVariables false
set_option maxRecDepth 100000
namespace Go.Proofs.Ytmmpcomfhcpicaa
open Go.Abs
theorem eqStop_iff (i j : StopV) : eqStopV i j = true ↔ i = j := by
  cases i; cases j
  simp [eqStopV, and_assoc]
theorem bytes_inj {a b : ByteArray} (h : a.toList = b.toList) : a = b := by
  rw [ByteArray.toList_eq, ByteArray.toList_eq] at h
  cases a; cases b
  simp only [ByteArray.mk.injEq]
  exact Array.toList_inj.1 h
theorem eqVar_iff (i j : VarV) : eqVarV i j = true ↔ i = j := by
  constructor
  · intro h
    simp only [eqVarV, Bool.and_eq_true, beq_iff_eq] at h
    obtain ⟨⟨⟨⟨⟨h1, h2⟩, h3⟩, h4⟩, h5⟩, h6⟩ := h
    cases i; cases j
    simp only at h1 h2 h3 h4 h5 h6
    simp only [VarV.mk.injEq]
    exact ⟨h1, h2, bytes_inj h3, h4, h5, bytes_inj h6⟩
  · rintro rfl
    simp [eqVarV]
theorem eqStop_self (i : StopV) : eqStopV i i = true := (eqStop_iff i i).2 rfl
theorem eqVar_self (i : VarV) : eqVarV i i = true := (eqVar_iff i i).2 rfl
set_option maxHeartbeats 32000000 in
theorem same_ok (ss : List StopV) (vs : List VarV) (x y z w : AV) (hx : IsV 4 x (stopsA ss)) (hy : IsV 6 y (varsA vs)) (hz : IsV 4 z (stopsA ss)) (hw : IsV 6 w (varsA vs)) (hs : ss.length ≤ 2 ^ 63 - 1) (hv : vs.length ≤ 2 ^ 63 - 1) (S : St) (hS : S.Fresh) :
    ∃ r S', EvA E 12 [.agg [x, y], .agg [z, w]] S r S' ∧ r = .sc (.bool true) ∧ Grow S S' nilV := by
  refine ev12 rfl ?_
  have g0 := ((Grow.refl hS nilV).born 37 [x, y]).born 37 [z, w]
  have h0 : ((S.born 37 [x, y]).born 37 [z, w]).obj S.no = some [x, y] := by simp [born_obj, born_no]
  have h1 : ((S.born 37 [x, y]).born 37 [z, w]).obj (S.no + 1) = some [z, w] := by simp [born_obj, born_no]
  have hn : S.no + 1 < ((S.born 37 [x, y]).born 37 [z, w]).no := Nat.lt_succ_self _
  have c1 : (((ss.length : Nat) : Int) != ((ss.length : Nat) : Int)) = false := by simp
  have c2 : (((vs.length : Nat) : Int) != ((vs.length : Nat) : Int)) = false := by simp
  simp only [SXa, reduceCtorEq, Nat.reduceEqDiff, Nat.reduceAdd, r12_0, r12_1, r12_2, r12_3, r12_9, r12_15, p12, op_box, cells_agg, born_no]
  generalize (S.born 37 [x, y]).born 37 [z, w] = S0 at g0 h0 h1 hn
  simp only [SXa, reduceCtorEq, Nat.reduceEqDiff, load34, len34, load35, len35, load_pb, h0, h1, fld37_0o, fld37_1o, fld_p, Option.bind_some, Nat.add_zero, Nat.zero_add, lenS_ hx, lenS_ hz, lenV_ hy, lenV_ hw, c1, c2]
  refine e_loop2 (fun tm S' N => ∃ k : Nat, k ≤ ss.length ∧ N = ss.length - k ∧ Grow S0 S' nilV ∧ getT tm 2 = .ptr S.no 0 ∧ getT tm 3 = .ptr (S.no + 1) 0 ∧ getT tm 5 = .sc (.int .i64 (k : Int)))
    (fun tm S' => Grow S0 S' nilV ∧ getT tm 2 = .ptr S.no 0 ∧ getT tm 3 = .ptr (S.no + 1) 0) 0 ss.length
    ⟨0, by omega, by omega, Grow.refl g0.fresh _, by simp [getT_setD]⟩ ?_ ?_
  · rintro tm S' N ⟨k, hk, rfl, G, t2, t3, t5⟩
    have o0 := G.objs h0 (by omega)
    have o1 := G.objs h1 hn
    by_cases hlt : k < ss.length
    case neg =>
      simp only [SXa, Nat.reduceEqDiff, load34, len34, b12_8, r12_4, r12_5, r12_6, r12_7, t2, t3, t5, load_pb, o0, fld37_0o, fld_p, Option.bind_some, Nat.add_zero, lenS_ hx, dec_nlt hlt]
      exact G
    case pos =>
      have wk := wrapK hlt hs
      have gr := Grow.raise G.fresh 11 nilV
      have p0 := gr.objs o0 (by have := G.no; omega)
      have p1 := gr.objs o1 (by have := G.no; omega)
      simp only [SXa, Nat.reduceEqDiff, Nat.reduceAdd, load34, index34, len34, load51, b12_8, r12_4, r12_5, r12_6, r12_7, t2, t3, t5, load_pb, o0, p0, p1, fld37_0o, fld_p, Option.bind_some, Nat.add_zero, Nat.zero_add, lenS_ hx, dec_lt hlt, idxS_ hx hlt, idxS_ hz hlt, stopA, Nat.le_refl, b_ne51, eqStop_self, wk]
      exact ⟨ss.length - (k + 1), by omega, k + 1, by omega, rfl, G.two gr, by first | rfl | simp⟩
  · rintro tm S' ⟨G, t2, t3⟩
    simp only [SXa]
    refine e_loop2 (fun tm S' N => ∃ k : Nat, k ≤ vs.length ∧ N = vs.length - k ∧ Grow S0 S' nilV ∧ getT tm 2 = .ptr S.no 0 ∧ getT tm 3 = .ptr (S.no + 1) 0 ∧ getT tm 6 = .sc (.int .i64 (k : Int)))
      (fun tm S' => Grow S0 S' nilV) 2 vs.length
      ⟨0, by omega, by omega, G, by simp [getT_setD, t2, t3]⟩ ?_ ?_
    · clear t2 t3 G
      rintro tm S' N ⟨k, hk, rfl, G, t2, t3, t6⟩
      have o0 := G.objs h0 (by omega)
      have o1 := G.objs h1 hn
      by_cases hlt : k < vs.length
      case neg =>
        simp only [SXa, Nat.reduceEqDiff, load35, len35, b12_14, r12_10, r12_11, r12_12, r12_13, t2, t6, load_pb, o0, fld37_1o, fld_p, Option.bind_some, Nat.zero_add, lenV_ hy, dec_nlt hlt]
        exact G
      case pos =>
        have wk := wrapK hlt hv
        have gr := Grow.raise G.fresh 11 nilV
        have p0 := gr.objs o0 (by have := G.no; omega)
        have p1 := gr.objs o1 (by have := G.no; omega)
        simp only [SXa, Nat.reduceEqDiff, Nat.reduceAdd, load35, index35, len35, load56, b12_14, r12_10, r12_11, r12_12, r12_13, t2, t3, t6, load_pb, o0, p0, p1, fld37_1o, fld_p, Option.bind_some, Nat.zero_add, lenV_ hy, dec_lt hlt, idxV_ hy hlt, idxV_ hw hlt, varA, Nat.le_refl, b_ne56, eqVar_self, wk]
        exact ⟨vs.length - (k + 1), by omega, k + 1, by omega, rfl, G.two gr, by first | rfl | simp⟩
    · rintro tm S' G
      simp only [SXa]
      exact g0.two G
end Go.Proofs.Ytmmpcomfhcpicaa
