/-
  Package info: Good: the walk, whole.
-/
import Derived.Test.YtmmpcomfhcpicaaInf2
set_option linter.unusedSimpArgs false
set_option linter.unusedVariables false
set_option maxRecDepth 100000
namespace Go.Proofs.Ytmmpcomfhcpicaa
open Go.Abs
theorem evX {args : List AV} {S : St} {r : AV} {S' : St} (h : sortFX 27 6 parseV encV srtV args S = some (r, S')) : EvA E 26 args S r S' := by
  refine ⟨1, fun lf n _ hn => ?_⟩
  obtain ⟨k, rfl⟩ : ∃ q, n = q + 1 := ⟨n - 1, by omega⟩
  have h1 : E.fn 26 = some Try.f26 := by kernel_rfl
  have h2 : E.X 26 = some (sortFX 27 6 parseV encV srtV) := rfl
  simp only [evF, h1, h2]
  exact h
theorem sort26_ok {b : Nat} {S : St} {Y : AV} {l : List VarV} (h : OwnO b S Y l) (hl : l.length ≤ 10000) : ∃ S2, EvA E 26 [Y, .sc (.func (.func 27) #[] #[])] S (.sc (.tuple #[])) S2 ∧ OwnO b S2 Y (srtV l) ∧ (∀ S0, Grow S0 S nilV → S0.no ≤ b → Grow S0 S2 nilV) := by
  have hlen := srtV_len l
  rcases h with ⟨rfl, rfl⟩ | ⟨rfl, rfl⟩ | ⟨o, rfl, h1, h2, h3, h4⟩
  · exact ⟨S, evX rfl, .inl ⟨rfl, rfl⟩, fun _ g _ => g⟩
  · exact ⟨S, evX rfl, .inr (.inl ⟨rfl, rfl⟩), fun _ g _ => g⟩
  · have h0 : 0 < l.length := by
      cases l with
      | nil => exact absurd rfl h4
      | cons => simp
    refine ⟨S.put o (.cells (cellsV (srtV l))), evX ?_, .inr (.inr ⟨o, by rw [hlen], h1, h2, by rw [put_obj, if_pos rfl], by intro e; rw [e] at hlen; simp at hlen; omega⟩), fun S0 g hb0 => g.put _ _ (by omega)⟩
    have a1 : Nat.blt 0 l.length = true := Nat.ble_eq_true_of_le h0
    have a2 : Nat.ble (0 + l.length * 6) (cellsV l).length = true := by
      rw [cellsV_len]
      exact Nat.ble_eq_true_of_le (by omega)
    have a3 : Nat.ble l.length (2 ^ 50) = true := Nat.ble_eq_true_of_le (by omega)
    have a4 : recsOf parseV 6 l.length ((cellsV l).drop 0) = some l := recs_cells l
    have a5 : splice (cellsV l) 0 (((srtV l).flatMap encV).map .sc) = cellsV (srtV l) := by
      rw [cells_enc]
      exact splice_all (by rw [cellsV_len, cellsV_len, hlen])
    have a6 : Nat.beq 27 27 = true := rfl
    have a7 : Nat.beq 6 6 = true := rfl
    simp only [sortFX, h3, a1, a2, a3, a4, a5, a6, a7, Array.isEmpty_empty, Bool.and_self, cond_true]
theorem lenV_ {x : AV} {l : List VarV} (h : IsV 6 x (varsA l)) (S : St) : lenV x S = some (.sc (.int .i64 (l.length : Nat)), S) := by rw [h.len]; simp [varsA]
theorem idxV_ {x : AV} {l : List VarV} (h : IsV 6 x (varsA l)) {k : Nat} (hk : k < l.length) (S : St) : idxV 6 x (some (k : Int)) S = some (.eptr (varA l[k]) 0, S) := h.idx (v := .agg (varA l[k])) (by simp [varsA, hk]) rfl S
theorem ev_f (E : Env) (tm : PM AV) (f : FuncId) : E.ev tm (.func f) = .sc (.func (.func f) #[] #[]) := rfl
def GoodT (ss : List StopV) (vs : List VarV) : Prop := GoodStops ss ∧ vs.length ≤ 10000 ∧ GoodSorted (srtV vs)
set_option maxHeartbeats 16000000 in
theorem good9_ok (ss : List StopV) (vs : List VarV) (x y : AV) (hx : IsV 4 x (stopsA ss)) (hy : IsV 6 y (varsA vs)) (hs : ss.length ≤ 2 ^ 63 - 1) (hv : vs.length ≤ 2 ^ 63 - 1) (S : St) (hS : S.Fresh) : ∃ r S', EvA E 9 [.agg [x, y]] S r S' ∧ (∃ b, r = .sc (.bool b) ∧ (b = true ↔ GoodT ss vs)) ∧ Grow S S' nilV := by
  refine ev9 rfl ?_
  have g0 := (Grow.refl hS nilV).born 25 [x, y]
  have h0 : (S.born 25 [x, y]).obj S.no = some [x, y] := by simp [born_obj]
  have hn0 : S.no < (S.born 25 [x, y]).no := Nat.lt_succ_self _
  simp only [SXa, Nat.reduceAdd, r9_0, r9_1, r9_2, r9_3, r9_4, r9_5, r9_12, p9, op_box, cells_agg]
  generalize S.born 25 [x, y] = S0 at g0 h0 hn0
  simp only [SXa, reduceCtorEq, Nat.reduceEqDiff, load22, call24, load_pb, h0, fld25_0, fld_p, Option.bind_some, Nat.add_zero]
  obtain ⟨r, S1, e1, ⟨b, rfl, hb⟩, q1⟩ := stops_ok ss x hx hs S0 g0.fresh
  refine callK_of e1 ?_
  have g1 := g0.two q1
  have h1 := q1.objs h0 hn0
  have hn1 : S.no < S1.no := Nat.lt_of_lt_of_le hn0 q1.no
  cases b with
  | false =>
    simp only [SXa, reduceCtorEq, Nat.reduceEqDiff]
    exact ⟨⟨false, rfl, by simp only [Bool.false_eq_true, false_iff] at hb ⊢; exact fun h => hb h.1⟩, g1⟩
  | true =>
  have hst : GoodStops ss := hb.1 rfl
  by_cases hlen : vs.length ≤ 10000
  case neg =>
    have c1 : decide ((10000 : Int) < ((vs.length : Nat) : Int)) = true := by simp only [decide_eq_true_eq]; omega
    simp only [SXa, reduceCtorEq, Nat.reduceEqDiff, load23, len23, load_pb, h1, fld25_1, fld_p, Option.bind_some, Nat.zero_add, lenV_ hy, c1]
    exact ⟨⟨false, rfl, by simp only [Bool.false_eq_true, false_iff]; exact fun h => hlen h.2.1⟩, g1⟩
  have c1 : decide ((10000 : Int) < ((vs.length : Nat) : Int)) = false := by simp only [decide_eq_false_iff_not]; omega
  simp only [SXa, reduceCtorEq, Nat.reduceEqDiff, load23, len23, call25, load_pb, h1, fld25_1, fld_p, Option.bind_some, Nat.zero_add, lenV_ hy, c1]
  obtain ⟨Y, S2, e2, hY, q2⟩ := clone_ok vs y hy hlen S1 g1.fresh
  refine callK_of e2 ?_
  have g2 := g1.two q2
  simp only [SXa, reduceCtorEq, Nat.reduceEqDiff, call26, ev_f]
  obtain ⟨S3, e3, hY3, q3⟩ := sort26_ok hY hlen
  refine callK_of e3 ?_
  have g3 : Grow S S3 nilV := q3 S g2 g1.no
  have hl3 := srtV_len vs
  simp only [GoodT]
  generalize srtV vs = l at hY3 hl3 ⊢
  have hll : l.length ≤ 10000 := by omega
  refine ends_base (fun tm => getT tm 3 = Y) (by simp only [SXa, reduceCtorEq, Nat.reduceEqDiff]) ?_
  intro tm t3
  simp only [SXa, len23, t3, hY3.len]
  refine e_loop (fun tm S' N => ∃ k : Nat, k ≤ l.length ∧ N = l.length - k ∧ (∀ j (h : j < l.length), j < k → varB l[j] = true ∧ (0 < j → ¬ (l[j - 1].name.toList = l[j].name.toList ∧ l[j].frm < l[j - 1].to))) ∧ OwnO S1.no S' Y l ∧ Grow S S' nilV ∧ getT tm 3 = Y ∧ getT tm 21 = Y ∧ getT tm 22 = .sc (.int .i64 (l.length : Nat)) ∧ getT tm 23 = .sc (.int .i64 (k : Int))) l.length
    ⟨0, by omega, by omega, fun j _ h => by omega, hY3, g3, by simp [getT_setD, t3]⟩ ?_
  rintro tm S' N ⟨k, hk, rfl, hP, hO, hG, t3, t21, t22, t23⟩
  by_cases hlt : k < l.length
  case neg =>
    simp only [SXa, Nat.reduceEqDiff, b9_11, r9_6, r9_7, r9_8, r9_9, r9_10, t22, t23, dec_nlt hlt]
    exact ⟨⟨true, rfl, by simp only [true_iff]; exact ⟨hst, hlen, fun j hj => hP j hj (by omega)⟩⟩, hG⟩
  case pos =>
    have wk := wrapK hlt (by omega : l.length ≤ 2 ^ 63 - 1)
    have gb := (hG.born 43 z43).put S'.no (.cells (varA l[k])) hG.no
    have gq := ((Grow.refl hG.fresh nilV).born 43 z43).put S'.no (.cells (varA l[k])) (Nat.le_refl _)
    have hsv : ((S'.born 43 z43).put S'.no (.cells (varA l[k]))).obj S'.no = some (varA l[k]) := by simp [put_obj]
    have hn : S'.no < ((S'.born 43 z43).put S'.no (.cells (varA l[k]))).no := Nat.lt_succ_self _
    have gr := Grow.raise gb.fresh 29 nilV
    have ho := gr.objs hsv hn
    have g5 := gb.two gr
    have g6 := gq.two gr
    have hn5 := Nat.lt_of_lt_of_le hn gr.no
    obtain ⟨o, hix, ho1, ho2⟩ := hO.at hlt
    have hlv : loadC true 6 (.ptr o (k * 6)) S' = _ := load_var ho2 hlt
    simp only [z43, varA] at gb gq gr ho g5 g6 hn5 hlv
    simp only [SXa, Nat.reduceEqDiff, Nat.reduceAdd, index23, load43, store43, b9_11, r9_6, r9_7, r9_8, r9_9, r9_10, t21, t22, t23, dec_lt hlt, hix, hlv, alloc43, z43, st43, born_obj, Option.bind_some, Nat.le_refl, List.drop_nil, Nat.zero_add]
    generalize ((S'.born 43 [.sc (.int .i64 0), .sc (.int .i64 0), .sc (.string ⟨#[]⟩), .sc (.int .i64 0), .sc (.int .i64 0), .sc (.string ⟨#[]⟩)]).put S'.no (.cells [.sc (.int .i64 l[k].frm), .sc (.int .i64 l[k].to), .sc (.string l[k].name), .sc (.int .i64 l[k].kind), .sc (.int .i64 l[k].n), .sc (.string l[k].typ)])).raise 29 = S5 at gr ho g5 g6 hn5
    simp only [SXa, Nat.reduceEqDiff, Nat.reduceAdd, call31, load_pb, ho, Option.bind_some, Nat.zero_add, Nat.le_refl]
    obtain ⟨r, S6, e6, rfl, q6⟩ := variable_ok l[k] S5 g5.fresh
    refine callK_of e6 ?_
    have g7 := g5.two q6
    have ho6 := q6.objs ho hn5
    have hO6 := hO.grow (g6.two q6)
    have hbad : ∀ b, varB l[k] = b → b = false → ¬ GoodSorted l := fun b h1 h2 hg => by
      have := (hg k hlt).1
      rw [h1, h2] at this; cases this
    cases hv1 : varB l[k] with
    | false =>
      simp only [SXa, Nat.reduceEqDiff]
      exact ⟨⟨false, rfl, by simp only [Bool.false_eq_true, false_iff]; exact fun h => hbad _ hv1 rfl h.2.2⟩, g7⟩
    | true =>
    by_cases hk0 : k = 0
    · have c2 : decide ((0 : Int) < (k : Int)) = false := by simp [hk0]
      simp only [SXa, Nat.reduceEqDiff, t3, t21, t22, t23, c2, wk]
      refine ⟨l.length - (k + 1), by omega, k + 1, by omega, rfl, fun j hj hjk => ?_, hO6, g7, by simp []⟩
      have : j = k := by omega
      subst this
      exact ⟨hv1, fun h => by omega⟩
    · have c2 : decide ((0 : Int) < (k : Int)) = true := by simp; omega
      have wm : IntKind.i64.wrap ((k : Int) - 1) = ((k - 1 : Nat) : Int) := by rw [wrap_i64 (by omega) (by omega)]; omega
      obtain ⟨o2, hix2, ho3, ho4⟩ := hO6.at (show k - 1 < l.length by omega)
      have hld : ∀ r v, r < 6 → (varA l[k - 1])[r]? = some v → loadC false 1 (.ptr o2 ((k - 1) * 6 + r)) S6 = some (v, S6) := fun r v hr h => load_fld ho4 (by omega) hr h
      have ld1 := hld 1 _ (by decide) rfl
      have ld2 := hld 2 _ (by decide) rfl
      have lk0 : ∀ b, loadC b 1 (.ptr S'.no 0) S6 = _ := fun b => load_pb b 1 S'.no 0
      by_cases ha : l[k - 1].name.toList = l[k].name.toList
      · have c3 : (l[k - 1].name.toList == l[k].name.toList) = true := by simpa using ha
        by_cases hb2 : l[k].frm < l[k - 1].to
        · have c4 : decide (l[k].frm < l[k - 1].to) = true := by simpa using hb2
          simp only [SXa, Nat.reduceEqDiff, load3, load9, index23, t3, c2, wm, hix2, fld43_0, fld43_1, fld43_2, fld_p, ld1, ld2, load_pb _ _ S'.no, ho6, Option.bind_some, Nat.zero_add, Nat.add_zero, c3, c4]
          exact ⟨⟨false, rfl, by simp only [Bool.false_eq_true, false_iff]; exact fun h => (h.2.2 k hlt).2 (by omega) ⟨ha, hb2⟩⟩, g7⟩
        · have c4 : decide (l[k].frm < l[k - 1].to) = false := by simpa using hb2
          simp only [SXa, Nat.reduceEqDiff, load3, load9, index23, t3, t21, t22, t23, c2, wk, wm, hix2, fld43_0, fld43_1, fld43_2, fld_p, ld1, ld2, load_pb _ _ S'.no, ho6, Option.bind_some, Nat.zero_add, Nat.add_zero, c3, c4]
          refine ⟨l.length - (k + 1), by omega, k + 1, by omega, rfl, fun j hj hjk => ?_, hO6, g7, by simp []⟩
          by_cases hjk2 : j < k
          · exact hP j hj hjk2
          · have : j = k := by omega
            subst this
            exact ⟨hv1, fun _ h => hb2 h.2⟩
      · have c3 : (l[k - 1].name.toList == l[k].name.toList) = false := by simpa using ha
        simp only [SXa, Nat.reduceEqDiff, load9, index23, t3, t21, t22, t23, c2, wk, wm, hix2, fld43_2, fld_p, ld2, load_pb _ _ S'.no, ho6, Option.bind_some, Nat.zero_add, c3]
        refine ⟨l.length - (k + 1), by omega, k + 1, by omega, rfl, fun j hj hjk => ?_, hO6, g7, by simp []⟩
        by_cases hjk2 : j < k
        · exact hP j hj hjk2
        · have : j = k := by omega
          subst this
          exact ⟨hv1, fun _ h => ha h.1⟩
end Go.Proofs.Ytmmpcomfhcpicaa
