/-
  Package info: OnLine: the walk.
-/
import Derived.Test.YtmmpcomfhcpicaaSrt6
set_option linter.unusedSimpArgs false
set_option linter.unusedVariables false
set_option maxRecDepth 100000
namespace Go.Proofs.Ytmmpcomfhcpicaa
open Go.Abs
def ints (l : List Int) : List AV := l.map fun z => .sc (.int .i64 z)
theorem ints_len (l : List Int) : (ints l).length = l.length := by simp [ints]
/-- A slice of numbers in an object of its own, from number b on. -/
def MutI (b : Nat) (S : St) (X : AV) (out : List Int) : Prop := (X = nilV ∧ out = []) ∨ ∃ l, X = .osl l 1 0 out.length out.length ∧ b ≤ l ∧ l < S.no ∧ S.obj l = some (ints out) ∧ out ≠ []
theorem MutI.len {b : Nat} {S : St} {X : AV} {out : List Int} (h : MutI b S X out) (S1 : St) : lenV X S1 = some (.sc (.int .i64 (out.length : Nat)), S1) := by
  rcases h with ⟨rfl, rfl⟩ | ⟨l, rfl, _⟩ <;> rfl
theorem MutI.grow {b : Nat} {S S' : St} {X x : AV} {out : List Int} (h : MutI b S X out) (g : Grow S S' x) : MutI b S' X out := by
  rcases h with h | ⟨l, rfl, hb, h1, h2, h3⟩
  · exact .inl h
  · exact .inr ⟨l, rfl, hb, Nat.lt_of_lt_of_le h1 g.no, g.objs h2 h1, h3⟩
theorem append_mut {b : Nat} {S : St} {X : AV} {out : List Int} (h : MutI b S X out) (hb : b ≤ S.no) (hl : out.length ≤ 2 ^ 40) (c : Int) :
    ∃ S2, builtinA E true .append [57, 57] [X, .vec 1 1 [.sc (.int .i64 c)]] S = some (.osl S.no 1 0 (out.length + 1) (out.length + 1), S2) ∧ MutI b S2 (.osl S.no 1 0 (out.length + 1) (out.length + 1)) (out ++ [c]) ∧ S2.no = S.no + 1 ∧
      (∀ S0, Grow S0 S nilV → S0.no ≤ b → Grow S0 S2 nilV) := by
  have hlen : (out ++ [c]).length = out.length + 1 := by simp
  have ht := el57
  unfold elIs at ht
  split at ht
  · rename_i e' de i hd hde hi
    simp only [Bool.and_eq_true, beq_iff_eq] at ht
    obtain ⟨⟨⟨⟨⟨k1, k2⟩, k3⟩, k4⟩, k5⟩, k6⟩ := ht
    have k1 := Nat.eq_of_beq_eq_true k1
    have k3 := Nat.eq_of_beq_eq_true k3
    have k4 := Nat.eq_of_beq_eq_true k4
    subst k1
    have hsz : allSz 1 [AV.sc (.int .i64 c)] = true := rfl
    have hfl : flat? 1 [AV.sc (.int .i64 c)] = some [AV.sc (.int .i64 c)] := rfl
    have k6' : Nat.blt 0 1 = true := by decide
    rcases h with ⟨rfl, rfl⟩ | ⟨l, rfl, hbl, h1, h2, h3⟩
    · refine ⟨S.newObj [.sc (.int .i64 c)], ?_, .inr ⟨S.no, rfl, hb, Nat.lt_succ_self _, by rw [newObj_obj]; simp [ints], by simp⟩, rfl, fun S0 g _ => grow_newObj g _⟩
      have hbb : Nat.ble (1 * (8 + 1)) (2 ^ 46) = true := by decide
      simp only [builtinA, hd, hde, hi, appendA, elemsS, elemsOf, k3, appendXs, hsz, k5, k6', Bool.and_self, cond_true, k4, List.length_cons, List.length_nil, Nat.zero_add, hbb, newSlice, hfl]
    · have hbl1 : Nat.ble ((out.length + 1) * (8 + 1)) (2 ^ 46) = true := Nat.ble_eq_true_of_le (by omega)
      have hr : Nat.ble (out.length + 1) out.length = false := by
        cases e : Nat.ble (out.length + 1) out.length
        · rfl
        · have := Nat.le_of_ble_eq_true e; omega
      refine ⟨(S.put l .dead).newObj (ints (out ++ [c])), ?_, .inr ⟨S.no, by rw [hlen], hb, Nat.lt_succ_self _, by rw [newObj_obj, put_no, if_pos rfl], by simp⟩, rfl, fun S0 g hb0 => grow_newObj (g.put l .dead (by omega)) _⟩
      have hq' : Nat.beq (out.length * 1) (ints out).length = true := by rw [ints_len, Nat.mul_one]; exact Nat.beq_refl _
      simp only [builtinA, hd, hde, hi, appendA, elemsS, elemsOf, k3, appendXs, hsz, k5, k6', Bool.and_self, cond_true, k4, List.length_cons, List.length_nil, Nat.zero_add, hbl1, Nat.beq_refl, appendOsl, h2, hfl, hr, Bool.false_and, cond_false]
      simp only [hq', cond_true, List.drop_zero]
      have : ints out ++ [AV.sc (.int .i64 c)] = ints (out ++ [c]) := by simp [ints]
      rw [this]
  · simp at ht
theorem intsOf_ints : ∀ l : List Int, intsOf (ints l) = some l
  | [] => rfl
  | z :: r => by
    have := intsOf_ints r
    simp only [ints, List.map_cons] at this ⊢
    simp [intsOf, this]
theorem evX43 {args : List AV} {S : St} {r : AV} {S' : St} (h : sortX args S = some (r, S')) : EvA E 43 args S r S' := by
  refine ⟨1, fun lf n _ hn => ?_⟩
  obtain ⟨k, rfl⟩ : ∃ q, n = q + 1 := ⟨n - 1, by omega⟩
  have h1 : E.fn 43 = some Try.f43 := by kernel_rfl
  have h2 : E.X 43 = some sortX := rfl
  simp only [evF, h1, h2]
  exact h
theorem sort43_ok {b : Nat} {S : St} {X : AV} {out : List Int} (h : MutI b S X out) (hl : out.length ≤ 2 ^ 40) : ∃ S2, EvA E 43 [X] S (.sc (.tuple #[])) S2 ∧ MutI b S2 X (sortI out) ∧ (∀ S0, Grow S0 S nilV → S0.no ≤ b → Grow S0 S2 nilV) := by
  have hlen := sortI_len out
  rcases h with ⟨rfl, rfl⟩ | ⟨l, rfl, hbl, h1, h2, h3⟩
  · exact ⟨S, evX43 rfl, .inl ⟨rfl, rfl⟩, fun _ g _ => g⟩
  · have h0 : 0 < out.length := by
      cases out with
      | nil => exact absurd rfl h3
      | cons => simp
    refine ⟨S.put l (.cells (ints (sortI out))), evX43 ?_, .inr ⟨l, by rw [hlen], hbl, h1, by rw [put_obj, if_pos rfl], by intro e; rw [e] at hlen; simp at hlen; omega⟩, fun S0 g hb0 => g.put _ _ (by omega)⟩
    have a1 : Nat.blt 0 out.length = true := Nat.ble_eq_true_of_le h0
    have a2 : Nat.ble (0 + out.length) (ints out).length = true := by rw [ints_len, Nat.zero_add]; exact Nat.ble_eq_true_of_le (Nat.le_refl _)
    have a3 : Nat.ble out.length (2 ^ 60) = true := Nat.ble_eq_true_of_le (by omega)
    have a4 : intsOf (((ints out).drop 0).take out.length) = some out := by
      rw [List.drop_zero, List.take_of_length_le (by rw [ints_len]; exact Nat.le_refl _)]
      exact intsOf_ints out
    have a5 : splice (ints out) 0 ((sortI out).map fun z => .sc (.int .i64 z)) = ints (sortI out) := splice_all (vs := ints (sortI out)) (by rw [ints_len, ints_len, hlen])
    simp only [sortX, h2, a1, a2, a3, a4, a5, Bool.and_self, cond_true]
theorem bs57_1 (c : Int) (S : St) : buildSliceA E 57 1 [(0, .sc (.int .i64 c))] S = some (.vec 1 1 [.sc (.int .i64 c)], S) := by kernel_rfl
/-- Where a line's stops are. -/
def onL (n : Int) (ss : List StopV) : List Int := (ss.filter fun s => s.line == n).map (·.pc)
set_option maxHeartbeats 16000000 in
theorem online21_ok (ss : List StopV) (x y : AV) (hx : IsV 4 x (stopsA ss)) (hv : ss.length ≤ 40) (ln : Int) (S : St) (hS : S.Fresh) :
    ∃ r S', EvA E 21 [.agg [x, y], .sc (.int .i64 ln)] S r S' ∧ MutI S.no S' r (sortI (onL ln ss)) ∧ Grow S S' nilV := by
  refine ev21 rfl ?_
  have g0 := (Grow.refl hS nilV).born 25 [x, y]
  have h0 : (S.born 25 [x, y]).obj S.no = some [x, y] := by simp [born_obj]
  have hb0 : S.no ≤ (S.born 25 [x, y]).no := g0.no
  simp only [SXa, reduceCtorEq, Nat.reduceAdd, r21_0, r21_1, r21_2, r21_9, r21_10, p21, op_box, cells_agg]
  generalize S.born 25 [x, y] = S0 at g0 h0 hb0
  simp only [SXa, reduceCtorEq, Nat.reduceEqDiff, load22, len22, load_pb, h0, fld25_0, fld_p, Option.bind_some, Nat.add_zero, lenS_ hx]
  refine e_loop2 (fun tm S' N => ∃ (k : Nat) (X : AV), k ≤ ss.length ∧ N = ss.length - k ∧ MutI S.no S' X (onL ln (ss.take k)) ∧ Grow S S' nilV ∧ getT tm 1 = .sc (.int .i64 ln) ∧ getT tm 5 = X ∧ getT tm 9 = x ∧ getT tm 10 = .sc (.int .i64 (ss.length : Nat)) ∧ getT tm 11 = .sc (.int .i64 (k : Int)))
    (fun tm S' => ∃ X, MutI S.no S' X (onL ln ss) ∧ Grow S S' nilV ∧ getT tm 5 = X) 0 ss.length
    ⟨0, nilV, by omega, by omega, by rw [List.take_zero]; exact .inl ⟨rfl, rfl⟩, g0, by simp [getT_setD, nilV]⟩ ?_ ?_
  · rintro tm S' N ⟨k, X, hk, rfl, hX, hG, t1, t5, t9, t10, t11⟩
    by_cases hlt : k < ss.length
    case neg =>
      have hke : k = ss.length := by omega
      rw [hke, List.take_length] at hX
      simp only [SXa, Nat.reduceEqDiff, b21_8, r21_3, r21_4, r21_5, r21_6, r21_7, t5, t10, t11, dec_nlt hlt]
      exact ⟨X, hX, hG, rfl⟩
    case pos =>
      have wk := wrapK hlt (by omega)
      have gb := (hG.born 41 z41).put S'.no (.cells (stopA ss[k])) hG.no
      have gq := ((Grow.refl hG.fresh nilV).born 41 z41).put S'.no (.cells (stopA ss[k])) (Nat.le_refl _)
      have hsv : ((S'.born 41 z41).put S'.no (.cells (stopA ss[k]))).obj S'.no = some (stopA ss[k]) := by simp [put_obj]
      have hX1 := hX.grow gq
      have htk : ss.take (k + 1) = ss.take k ++ [ss[k]] := by rw [List.take_add_one, List.getElem?_eq_getElem hlt]; rfl
      have hll : (onL ln (ss.take k)).length ≤ 2 ^ 40 := by
        have := List.length_filter_le (fun s => s.line == ln) (ss.take k)
        simp [onL] at this ⊢
        omega
      have hno : S.no ≤ ((S'.born 41 z41).put S'.no (.cells (stopA ss[k]))).no := gb.no
      obtain ⟨S2, e2, hX2, hn2, hg2⟩ := append_mut hX1 hno hll ss[k].pc
      simp only [z41, stopA] at gb gq hsv hX1 hno e2 hX2 hg2 hn2
      simp only [SXa, Nat.reduceEqDiff, Nat.reduceAdd, index22, load41, store41, b21_8, r21_3, r21_4, r21_5, r21_6, r21_7, t9, t10, t11, dec_lt hlt, idxS_ hx hlt, stopA, alloc41, z41, st41, born_obj, Option.bind_some, Nat.le_refl, List.drop_nil, Nat.zero_add]
      generalize ((S'.born 41 [.sc (.int .i64 0), .sc (.int .i64 0), .sc (.int .i64 0), .sc (.int .i64 0)]).put S'.no (.cells [.sc (.int .i64 ss[k].pc), .sc (.int .i64 ss[k].at_), .sc (.int .i64 ss[k].line), .sc (.int .i64 ss[k].col)])) = S5 at gb hsv hX1 hno e2 hX2 hg2 hn2
      by_cases h1 : ss[k].line = ln
      case neg =>
        have c1 : (ss[k].line == ln) = false := by simpa using h1
        simp only [SXa, Nat.reduceEqDiff, load3, load_pb, hsv, fld41_2, fld_p, Option.bind_some, Nat.zero_add, c1, t1, t5, t9, t10, t11, wk]
        refine ⟨ss.length - (k + 1), by omega, k + 1, X, by omega, rfl, ?_, gb, by simp []⟩
        have : onL ln (ss.take (k + 1)) = onL ln (ss.take k) := by rw [htk, onL, onL, List.filter_append]; simp [h1]
        rw [this]
        exact hX1
      have c1 : (ss[k].line == ln) = true := by simpa using h1
      simp only [SXa, Nat.reduceEqDiff, Nat.reduceBEq, load3, bs57, load_pb, hsv, fld41_0, fld41_2, fld_p, Option.bind_some, Nat.add_zero, Nat.zero_add, c1, t1, t5, t9, t10, t11, wk, bs57_1, app57m, e2]
      refine ⟨ss.length - (k + 1), by omega, k + 1, _, by omega, rfl, ?_, hg2 S gb (Nat.le_refl _), rfl, rfl⟩
      have : onL ln (ss.take (k + 1)) = onL ln (ss.take k) ++ [ss[k].pc] := by rw [htk, onL, onL, List.filter_append]; simp [h1]
      rw [this]
      exact hX2
  · rintro tm S' ⟨X, hX, hG, t5⟩
    have hll : (onL ln ss).length ≤ 2 ^ 40 := by
      have := List.length_filter_le (fun s => s.line == ln) ss
      simp [onL] at this ⊢
      omega
    obtain ⟨S2, e2, hX2, hg2⟩ := sort43_ok hX hll
    simp only [SXa, call43, t5]
    refine callK_of e2 ?_
    simp only [SXa, Nat.reduceEqDiff, t5]
    exact ⟨hX2, hg2 S hG (Nat.le_refl _)⟩
end Go.Proofs.Ytmmpcomfhcpicaa
