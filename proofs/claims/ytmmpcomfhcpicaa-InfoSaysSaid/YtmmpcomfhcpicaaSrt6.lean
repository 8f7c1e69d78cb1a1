/-
  Package info: Names: the walk.
-/
import Derived.Test.YtmmpcomfhcpicaaSrt5
set_option linter.unusedSimpArgs false
set_option linter.unusedVariables false
set_option maxRecDepth 100000
namespace Go.Proofs.Ytmmpcomfhcpicaa
open Go.Abs
/-- A slice of variables that grows in objects of its own, from number b on. -/
def MutV (b : Nat) (S : St) (X : AV) (out : List VarV) : Prop := (X = nilV ∧ out = []) ∨ ∃ l, X = .osl l 6 0 out.length out.length ∧ b ≤ l ∧ l < S.no ∧ S.obj l = some (cellsV out) ∧ out ≠ []
theorem MutV.len {b : Nat} {S : St} {X : AV} {out : List VarV} (h : MutV b S X out) (S1 : St) : lenV X S1 = some (.sc (.int .i64 (out.length : Nat)), S1) := by
  rcases h with ⟨rfl, rfl⟩ | ⟨l, rfl, _⟩ <;> rfl
theorem MutV.grow {b : Nat} {S S' : St} {X x : AV} {out : List VarV} (h : MutV b S X out) (g : Grow S S' x) : MutV b S' X out := by
  rcases h with h | ⟨l, rfl, hb, h1, h2, h3⟩
  · exact .inl h
  · exact .inr ⟨l, rfl, hb, Nat.lt_of_lt_of_le h1 g.no, g.objs h2 h1, h3⟩
theorem MutV.at {b : Nat} {S : St} {Y : AV} {l : List VarV} (h : MutV b S Y l) {k : Nat} (hk : k < l.length) : ∃ o, (∀ S1, idxV 6 Y (some (k : Int)) S1 = some (.ptr o (k * 6), S1)) ∧ o < S.no ∧ S.obj o = some (cellsV l) := by
  rcases h with ⟨_, rfl⟩ | ⟨o, rfl, _, h3, h4, _⟩
  · simp at hk
  · refine ⟨o, fun S1 => ?_, h3, h4⟩
    simp [idxV, hk]
theorem put_no (S : St) (l : Nat) (o : AObj) : (S.put l o).no = S.no := rfl
theorem app_mutV {b : Nat} {S : St} {X : AV} {out : List VarV} (h : MutV b S X out) (hb : b ≤ S.no) (hl : out.length ≤ 2 ^ 35) (c : VarV) :
    ∃ S2, builtinA E true .append [23, 23] [X, .vec 1 6 [.agg (varA c)]] S = some (.osl S.no 6 0 (out.length + 1) (out.length + 1), S2) ∧ MutV b S2 (.osl S.no 6 0 (out.length + 1) (out.length + 1)) (out ++ [c]) ∧ S2.no = S.no + 1 ∧
      (∀ S0, Grow S0 S nilV → S0.no ≤ b → Grow S0 S2 nilV) := by
  have hlen : (out ++ [c]).length = out.length + 1 := by simp
  have ht := el23
  unfold elIs at ht
  split at ht
  · rename_i e' de i hd hde hi
    simp only [Bool.and_eq_true, beq_iff_eq] at ht
    obtain ⟨⟨⟨⟨⟨k1, k2⟩, k3⟩, k4⟩, k5⟩, k6⟩ := ht
    have k1 := Nat.eq_of_beq_eq_true k1
    have k3 := Nat.eq_of_beq_eq_true k3
    have k4 := Nat.eq_of_beq_eq_true k4
    subst k1
    have hsz : allSz 6 [AV.agg (varA c)] = true := rfl
    have hfl : flat? 6 [AV.agg (varA c)] = some (varA c) := rfl
    have k6' : Nat.blt 0 6 = true := by decide
    rcases h with ⟨rfl, rfl⟩ | ⟨l, rfl, hbl, h1, h2, h3⟩
    · refine ⟨S.newObj (varA c), ?_, .inr ⟨S.no, rfl, hb, Nat.lt_succ_self _, by rw [newObj_obj]; simp [cellsV], by simp⟩, rfl, fun S0 g _ => grow_newObj g _⟩
      have hbb : Nat.ble (1 * (i.bytes + 1)) (2 ^ 46) = true := by rw [k4]; decide
      simp only [builtinA, hd, hde, hi, appendA, elemsS, elemsOf, k3, appendXs, hsz, k5, k6', Bool.and_self, cond_true, List.length_cons, List.length_nil, Nat.zero_add, hbb, newSlice, hfl]
    · have hbl1 : Nat.ble ((out.length + 1) * (i.bytes + 1)) (2 ^ 46) = true := Nat.ble_eq_true_of_le (by rw [k4]; omega)
      have hr : Nat.ble (out.length + 1) out.length = false := by
        cases e : Nat.ble (out.length + 1) out.length
        · rfl
        · have := Nat.le_of_ble_eq_true e; omega
      have hq' : Nat.beq (out.length * 6) (cellsV out).length = true := by rw [cellsV_len]; exact Nat.beq_refl _
      refine ⟨(S.put l .dead).newObj (cellsV (out ++ [c])), ?_, .inr ⟨S.no, by rw [hlen], hb, Nat.lt_succ_self _, by rw [newObj_obj, put_no, if_pos rfl], by simp⟩, rfl, fun S0 g hb0 => grow_newObj (g.put l .dead (by omega)) _⟩
      simp only [builtinA, hd, hde, hi, appendA, elemsS, elemsOf, k3, appendXs, hsz, k5, k6', Bool.and_self, cond_true, List.length_cons, List.length_nil, Nat.zero_add, hbl1, Nat.beq_refl, appendOsl, h2, hfl, hr, Bool.false_and, cond_false]
      simp only [hq', cond_true, List.drop_zero]
      have : cellsV out ++ varA c = cellsV (out ++ [c]) := by simp [cellsV]
      rw [this]
  · simp at ht
theorem bs23s (c : VarV) (S : St) : buildSliceA E 23 1 [(0, .agg (varA c))] S = some (.vec 1 6 [.agg (varA c)], S) := by
  obtain ⟨a, b, n, d, e, t⟩ := c
  kernel_rfl
/-- Is a variable there? -/
def inS (pc : Int) (v : VarV) : Bool := decide (v.frm ≤ pc) && decide (pc < v.to)
set_option maxHeartbeats 16000000 in
theorem names19_ok (vs : List VarV) (x y : AV) (hy : IsV 6 y (varsA vs)) (hv : vs.length ≤ 40) (pc : Int) (S : St) (hS : S.Fresh) :
    ∃ r S', EvA E 19 [.agg [x, y], .sc (.int .i64 pc)] S r S' ∧ (∃ C, MutV S.no S' r C ∧ C.Perm (vs.filter (inS pc)) ∧ SortedV C) ∧ Grow S S' nilV := by
  refine ev19 rfl ?_
  have g0 := (Grow.refl hS nilV).born 25 [x, y]
  have h0 : (S.born 25 [x, y]).obj S.no = some [x, y] := by simp [born_obj]
  have hb0 : S.no ≤ (S.born 25 [x, y]).no := g0.no
  simp only [SXa, reduceCtorEq, Nat.reduceAdd, r19_0, r19_1, r19_2, r19_9, r19_10, p19, op_box, cells_agg]
  generalize S.born 25 [x, y] = S0 at g0 h0 hb0
  simp only [SXa, reduceCtorEq, Nat.reduceEqDiff, load23, len23, load_pb, h0, fld25_1, fld_p, Option.bind_some, Nat.zero_add, lenV_ hy]
  refine e_loop2 (fun tm S' N => ∃ (k : Nat) (X : AV), k ≤ vs.length ∧ N = vs.length - k ∧ MutV S.no S' X ((vs.take k).filter (inS pc)) ∧ Grow S S' nilV ∧ getT tm 1 = .sc (.int .i64 pc) ∧ getT tm 5 = X ∧ getT tm 9 = y ∧ getT tm 10 = .sc (.int .i64 (vs.length : Nat)) ∧ getT tm 11 = .sc (.int .i64 (k : Int)))
    (fun tm S' => ∃ X, MutV S.no S' X (vs.filter (inS pc)) ∧ Grow S S' nilV ∧ getT tm 5 = X) 0 vs.length
    ⟨0, nilV, by omega, by omega, by rw [List.take_zero]; exact .inl ⟨rfl, rfl⟩, g0, by simp [getT_setD, nilV]⟩ ?_ ?_
  · rintro tm S' N ⟨k, X, hk, rfl, hX, hG, t1, t5, t9, t10, t11⟩
    by_cases hlt : k < vs.length
    case neg =>
      have hke : k = vs.length := by omega
      rw [hke, List.take_length] at hX
      simp only [SXa, Nat.reduceEqDiff, b19_8, r19_3, r19_4, r19_5, r19_6, r19_7, t5, t10, t11, dec_nlt hlt]
      exact ⟨X, hX, hG, rfl⟩
    case pos =>
      have wk := wrapK hlt (by omega)
      have gb := (hG.born 43 z43).put S'.no (.cells (varA vs[k])) hG.no
      have gq := ((Grow.refl hG.fresh nilV).born 43 z43).put S'.no (.cells (varA vs[k])) (Nat.le_refl _)
      have hsv : ((S'.born 43 z43).put S'.no (.cells (varA vs[k]))).obj S'.no = some (varA vs[k]) := by simp [put_obj]
      have hn : S.no ≤ ((S'.born 43 z43).put S'.no (.cells (varA vs[k]))).no := gb.no
      have hX1 := hX.grow gq
      have htk : vs.take (k + 1) = vs.take k ++ [vs[k]] := by rw [List.take_add_one, List.getElem?_eq_getElem hlt]; rfl
      have hvk : varA vs[k] = [.sc (.int .i64 vs[k].frm), .sc (.int .i64 vs[k].to), .sc (.string vs[k].name), .sc (.int .i64 vs[k].kind), .sc (.int .i64 vs[k].n), .sc (.string vs[k].typ)] := rfl
      have hll : ((vs.take k).filter (inS pc)).length ≤ 2 ^ 35 := by
        have := List.length_filter_le (inS pc) (vs.take k)
        simp at this
        omega
      have hno : S.no ≤ ((S'.born 43 z43).put S'.no (.cells (varA vs[k]))).no := gb.no
      obtain ⟨S2, e2, hX2, hn2, hg2⟩ := app_mutV hX1 hno hll vs[k]
      have hbs := bs23s vs[k]
      simp only [z43, hvk] at gb gq hsv hX1 hno e2 hX2 hg2 hn2 hbs
      simp only [SXa, Nat.reduceEqDiff, Nat.reduceAdd, index23, load43, store43, b19_8, r19_3, r19_4, r19_5, r19_6, r19_7, t1, t9, t10, t11, dec_lt hlt, idxV_ hy hlt, hvk, alloc43, z43, st43, born_obj, Option.bind_some, Nat.le_refl, List.drop_nil, Nat.zero_add]
      generalize ((S'.born 43 [.sc (.int .i64 0), .sc (.int .i64 0), .sc (.string ⟨#[]⟩), .sc (.int .i64 0), .sc (.int .i64 0), .sc (.string ⟨#[]⟩)]).put S'.no (.cells [.sc (.int .i64 vs[k].frm), .sc (.int .i64 vs[k].to), .sc (.string vs[k].name), .sc (.int .i64 vs[k].kind), .sc (.int .i64 vs[k].n), .sc (.string vs[k].typ)])) = S5 at gb hsv hX1 hno e2 hX2 hg2 hn2
      by_cases h1 : vs[k].frm ≤ pc
      case neg =>
        have c1 : decide (vs[k].frm ≤ pc) = false := by simpa using h1
        simp only [SXa, Nat.reduceEqDiff, load3, load_pb, hsv, fld43_0, fld_p, Option.bind_some, Nat.add_zero, c1, t1, t5, t9, t10, t11, wk]
        refine ⟨vs.length - (k + 1), by omega, k + 1, X, by omega, rfl, ?_, gb, by simp []⟩
        rw [htk, List.filter_append]
        simpa [inS, h1] using hX1
      have c1 : decide (vs[k].frm ≤ pc) = true := by simpa using h1
      by_cases h2 : pc < vs[k].to
      case neg =>
        have c2 : decide (pc < vs[k].to) = false := by simpa using h2
        simp only [SXa, Nat.reduceEqDiff, load3, load_pb, hsv, fld43_0, fld43_1, fld_p, Option.bind_some, Nat.add_zero, Nat.zero_add, c1, c2, t1, t5, t9, t10, t11, wk]
        refine ⟨vs.length - (k + 1), by omega, k + 1, X, by omega, rfl, ?_, gb, by simp []⟩
        rw [htk, List.filter_append]
        simpa [inS, h2] using hX1
      have c2 : decide (pc < vs[k].to) = true := by simpa using h2
      simp only [SXa, Nat.reduceEqDiff, Nat.reduceAdd, Nat.reduceBEq, load3, bs23, load43, load_pb, hsv, fld43_0, fld43_1, fld_p, Option.bind_some, Nat.add_zero, Nat.zero_add, c1, c2, t1, t5, t9, t10, t11, wk, Nat.le_refl, hbs, app23m2, e2]
      refine ⟨vs.length - (k + 1), by omega, k + 1, _, by omega, rfl, ?_, hg2 S gb (Nat.le_refl _), rfl, rfl⟩
      rw [htk, List.filter_append]
      simpa [inS, h1, h2] using hX2
  · rintro tm S' ⟨X, hX, hG, t5⟩
    simp only [SXa, call41, t5, ev_f]
    rcases hX with ⟨rfl, hf⟩ | ⟨o, rfl, hb, ho, hob, hne⟩
    · obtain ⟨r, S2, e2, rfl, rfl⟩ := sta41_nil S'
      refine callK_of e2 ?_
      simp only [SXa, Nat.reduceEqDiff, t5]
      exact ⟨⟨[], .inl ⟨rfl, rfl⟩, by rw [hf], sorted_nil⟩, hG⟩
    · have hll : (vs.filter (inS pc)).length ≤ 40 := by
        have := List.length_filter_le (inS pc) vs
        omega
      obtain ⟨r, S2, e2, rfl, C, p2, q2, hR2, hG2⟩ := sta41_ok (vs.filter (inS pc)) o _ (vs.filter (inS pc)).length S' rfl hll ⟨ho, hob, hG.fresh⟩
      refine callK_of e2 ?_
      simp only [SXa, Nat.reduceEqDiff, t5]
      exact ⟨⟨C, .inr ⟨o, by rw [p2.length_eq], hb, hR2.lt, hR2.obj, by rintro rfl; exact hne (p2.symm.eq_nil)⟩, p2, q2⟩, hG.but hG2 hb⟩
end Go.Proofs.Ytmmpcomfhcpicaa
