/-
  The document's own table: OnLine, NamesAt: the walks.
-/
import Derived.Test.YtmmpcomfhcpicaaRef5
import Derived.Test.YtmmpcomfhcpicaaSrt7
set_option linter.unusedSimpArgs false
set_option linter.unusedVariables false
set_option maxRecDepth 100000
namespace Go.Proofs.Ytmmpcomfhcpicaa
open Go.Abs
theorem ints_app (l : List Int) (n : Int) : ints l ++ [.sc (.int .i64 n)] = ints (l ++ [n]) := by simp [ints]
set_option maxHeartbeats 16000000 in
theorem online22_ok (ss : List StopV) (x y : AV) (hx : IsV 4 x (stopsA ss)) (hs : ss.length ≤ 10000) (ln : Int) (S : St) (hS : S.Fresh) : ∃ r S', EvA E 22 [.agg [x, y], .sc (.int .i64 ln)] S r S' ∧ IsV 1 r (ints (onL ln ss)) ∧ Grow S S' nilV := by
  refine ev22 rfl ?_
  have g0 := (Grow.refl hS nilV).born 37 [x, y]
  have h0 : (S.born 37 [x, y]).obj S.no = some [x, y] := by simp [born_obj]
  have n0 : S.no < (S.born 37 [x, y]).no := Nat.lt_succ_self _
  simp only [SXa, reduceCtorEq, Nat.reduceAdd, r22_0, r22_1, r22_2, r22_8, p22, op_box, cells_agg]
  generalize S.born 37 [x, y] = S0 at g0 h0 n0
  refine e_loop (fun tm S' N => ∃ (k : Nat) (X : AV), k ≤ ss.length ∧ N = ss.length - k ∧ Wn 3 1 S0 S' X (ints (onL ln (ss.take k))) ∧ Grow S0 S' nilV ∧ getT tm 1 = .sc (.int .i64 ln) ∧ getT tm 2 = .ptr S.no 0 ∧ getT tm 5 = X ∧ getT tm 6 = .sc (.int .i64 (k : Int))) ss.length
    ⟨0, nilV, by omega, by omega, by rw [List.take_zero]; exact Wn.start _ _ _ _, Grow.refl g0.fresh _, by simp [getT_setD, nilV]⟩ ?_
  rintro tm S' N ⟨k, X, hk, rfl, hW, hG, t1, t2, t5, t6⟩
  have o1 := hG.objs h0 n0
  by_cases hlt : k < ss.length
  case neg =>
    have hke : k = ss.length := by omega
    rw [hke, List.take_length] at hW
    simp only [SXa, Nat.reduceEqDiff, load34, len34, b22_7, r22_3, r22_4, r22_5, r22_6, t2, t5, t6, load_pb, o1, fld37_0, fld_p, Option.bind_some, Nat.add_zero, lenS_ hx, dec_nlt hlt]
    exact ⟨hW.own.is, g0.two hG⟩
  case pos =>
    have wk := wrapK hlt (by omega)
    have htk : ss.take (k + 1) = ss.take k ++ [ss[k]] := by rw [List.take_add_one, List.getElem?_eq_getElem hlt]; rfl
    have hll : (ints (onL ln (ss.take k))).length ≤ 10000 := by
      have := List.length_filter_le (fun s => s.line == ln) (ss.take k)
      rw [ints_len]
      simp [onL] at this ⊢
      omega
    by_cases h1 : ss[k].line = ln
    case neg =>
      have c1 : (ss[k].line == ln) = false := by simpa using h1
      have e : onL ln (ss.take (k + 1)) = onL ln (ss.take k) := by rw [htk, onL, onL, List.filter_append]; simp [h1]
      simp only [SXa, Nat.reduceEqDiff, load3, load34, index34, len34, b22_7, r22_3, r22_4, r22_5, r22_6, t1, t2, t5, t6, load_pb, o1, fld37_0, fld_p, Option.bind_some, Nat.add_zero, lenS_ hx, dec_lt hlt, idxS_ hx hlt, stopA, fld51_2, fld_e, Nat.zero_add, c1, wk]
      exact ⟨ss.length - (k + 1), by omega, k + 1, X, by omega, rfl, by rw [e]; exact hW, hG, by first | rfl | simp []⟩
    case pos =>
      have c1 : (ss[k].line == ln) = true := by simpa using h1
      have e : onL ln (ss.take (k + 1)) = onL ln (ss.take k) ++ [ss[k].pc] := by rw [htk, onL, onL, List.filter_append]; simp [h1]
      obtain ⟨a1, a2, a3⟩ := hW.app (t := 57) (t1 := 57) hG el57 und57 (v := .sc (.int .i64 ss[k].pc)) rfl (by omega)
      simp only [SXa, Nat.reduceEqDiff, Nat.reduceBEq, load3, load34, index34, len34, bs57, app57, b22_7, r22_3, r22_4, r22_5, r22_6, t1, t2, t5, t6, load_pb, o1, fld37_0, fld_p, Option.bind_some, Nat.add_zero, lenS_ hx, dec_lt hlt, idxS_ hx hlt, stopA, fld51_0, fld51_2, fld_e, Nat.zero_add, c1, wk, bs57_1, a1]
      exact ⟨ss.length - (k + 1), by omega, k + 1, _, by omega, rfl, by rw [e, ← ints_app]; exact a2, a3, by first | rfl | simp []⟩
/-! Names, put in one by one. -/
def ltB (w v : VarV) : Bool := Go.Op.bytesLess w.name.toList v.name.toList
def insV (v : VarV) (l : List VarV) : List VarV := l.takeWhile (ltB · v) ++ v :: l.dropWhile (ltB · v)
def namesQ (pc : Int) (vs : List VarV) : List VarV := (vs.filter (inS pc)).foldl (fun l v => insV v l) []
theorem tw_at {p : VarV → Bool} : ∀ (l : List VarV) (j : Nat), j ≤ l.length → (∀ i (h : i < l.length), i < j → p l[i] = true) → (j = l.length ∨ ∃ h : j < l.length, p l[j] = false) → l.takeWhile p = l.take j ∧ l.dropWhile p = l.drop j
  | [], j, hj, _, _ => by
    have : j = 0 := by simpa using hj
    subst this
    simp
  | a :: r, 0, _, _, h2 => by
    rcases h2 with h2 | ⟨_, h2⟩
    · simp at h2
    · simp only [List.getElem_cons_zero] at h2
      rw [List.takeWhile_cons, List.dropWhile_cons, h2]
      simp
  | a :: r, j + 1, hj, h1, h2 => by
    have ha : p a = true := h1 0 (by simp) (by omega)
    have ih := tw_at r j (by simpa using hj) (fun i h hij => by have := h1 (i + 1) (by simpa using h) (by omega); simpa using this) (by
      rcases h2 with h2 | ⟨h, h2⟩
      · left; simpa using h2
      · right; exact ⟨by simpa using h, by simpa using h2⟩)
    rw [List.takeWhile_cons, List.dropWhile_cons, ha]
    simp [ih.1, ih.2]
theorem namesQ_len (pc : Int) (vs : List VarV) : (namesQ pc vs).length = (vs.filter (inS pc)).length := by
  have key : ∀ (l acc : List VarV), (l.foldl (fun l v => insV v l) acc).length = acc.length + l.length := by
    intro l
    induction l with
    | nil => intro acc; simp
    | cons v r ih =>
      intro acc
      rw [List.foldl_cons, ih]
      have h : (acc.takeWhile (ltB · v)).length + (acc.dropWhile (ltB · v)).length = acc.length := by rw [← List.length_append, List.takeWhile_append_dropWhile]
      simp only [insV, List.length_append, List.length_cons]
      omega
  rw [namesQ, key]
  simp
theorem lss_str (t : TypeId) (x y : Operand) (a b : ByteArray) (S : St) : binGen E .lss t x y (.sc (.string a)) (.sc (.string b)) S = some (.sc (.bool (Go.Op.bytesLess a.toList b.toList)), S) := rfl
theorem bs35_0 (S : St) : buildSliceA E 35 0 [] S = some (.vec 1 6 [], S) := by kernel_rfl
theorem appX {S0 S : St} {X Y : AV} {xs ys : List AV} (g : Grow S0 S nilV) (hO : OwnV S 56 6 X xs) (hn : Newish S0 X) (hy : IsV 6 Y ys) (hz : allSz 6 ys = true) (hl : (xs.length + ys.length) * 65 ≤ 2 ^ 46) :
    ∃ r S', builtinA E false .append [35, 35] [X, Y] S = some (r, S') ∧ OwnV S' 56 6 r (xs ++ ys) ∧ Newish S0 r ∧ Grow S0 S' nilV ∧ Grow S S' X := by
  cases ys with
  | nil =>
    refine ⟨X, S, app_empty el35 und35 hO.is hy, ?_, hn, g, Grow.refl g.fresh _⟩
    rw [List.append_nil]
    exact hO
  | cons a r =>
    exact ⟨_, _, app_own el35 und35 g.fresh hO hy (by simp) hz (by simpa using hl), appS_own g.fresh hO, .inr (.inr ⟨_, _, _, rfl, g.nid⟩), g.app2 hO hn, Grow.app g.fresh hO⟩
theorem varsA_cat (a b : List VarV) : varsA (a ++ b) = varsA a ++ varsA b := by simp [varsA]
theorem varsA_len (a : List VarV) : (varsA a).length = a.length := by simp [varsA]
theorem varsA_take (a : List VarV) (k : Nat) : (varsA a).take k = varsA (a.take k) := by simp [varsA]
theorem varsA_drop (a : List VarV) (k : Nat) : (varsA a).drop k = varsA (a.drop k) := by simp [varsA]
set_option maxHeartbeats 32000000 in
theorem namesat20_ok (vs : List VarV) (x y : AV) (hy : IsV 6 y (varsA vs)) (hv : vs.length ≤ 10000) (pc : Int) (S : St) (hS : S.Fresh) : ∃ r S', EvA E 20 [.agg [x, y], .sc (.int .i64 pc)] S r S' ∧ IsV 6 r (varsA (namesQ pc vs)) ∧ Grow S S' nilV := by
  refine ev20 rfl ?_
  have g0 := (Grow.refl hS nilV).born 37 [x, y]
  have h0 : (S.born 37 [x, y]).obj S.no = some [x, y] := by simp [born_obj]
  have n0 : S.no < (S.born 37 [x, y]).no := Nat.lt_succ_self _
  simp only [SXa, reduceCtorEq, Nat.reduceAdd, r20_0, r20_1, r20_2, r20_14, p20, op_box, cells_agg]
  generalize S.born 37 [x, y] = S0 at g0 h0 n0
  refine e_loop (fun tm S' N => ∃ (k : Nat) (X : AV), k ≤ vs.length ∧ N = vs.length - k ∧ IsV 6 X (varsA (namesQ pc (vs.take k))) ∧ Grow S0 S' nilV ∧ getT tm 1 = .sc (.int .i64 pc) ∧ getT tm 2 = .ptr S.no 0 ∧ getT tm 5 = X ∧ getT tm 6 = .sc (.int .i64 (k : Int))) vs.length
    ⟨0, nilV, by omega, by omega, .inl ⟨rfl, by simp [namesQ, varsA]⟩, Grow.refl g0.fresh _, by simp [getT_setD, nilV]⟩ ?_
  rintro tm S' N ⟨k, X, hk, rfl, hX, hG, t1, t2, t5, t6⟩
  have o1 := hG.objs h0 n0
  have n1 := Nat.lt_of_lt_of_le n0 hG.no
  by_cases hlt : k < vs.length
  case neg =>
    have hke : k = vs.length := by omega
    rw [hke, List.take_length] at hX
    simp only [SXa, Nat.reduceEqDiff, load35, len35, b20_13, r20_3, r20_4, r20_5, r20_6, r20_12, t2, t5, t6, load_pb, o1, fld37_1, fld_p, Option.bind_some, Nat.zero_add, lenV_ hy, dec_nlt hlt]
    exact ⟨hX, g0.two hG⟩
  case pos =>
    have wk := wrapK hlt (by omega)
    have htk : vs.take (k + 1) = vs.take k ++ [vs[k]] := by rw [List.take_add_one, List.getElem?_eq_getElem hlt]; rfl
    have hll : (namesQ pc (vs.take k)).length ≤ 10000 := by
      have := List.length_filter_le (inS pc) (vs.take k)
      rw [namesQ_len]
      simp at this
      omega
    have hno : inS pc vs[k] = false → namesQ pc (vs.take (k + 1)) = namesQ pc (vs.take k) := fun h => by rw [htk, namesQ, namesQ, List.filter_append]; simp [h]
    have hyes : inS pc vs[k] = true → namesQ pc (vs.take (k + 1)) = insV vs[k] (namesQ pc (vs.take k)) := fun h => by rw [htk, namesQ, namesQ, List.filter_append, List.foldl_append]; simp [h]
    generalize namesQ pc (vs.take k) = l at hX hll hno hyes
    have gq := ((Grow.refl hG.fresh nilV).born 56 z43).put S'.no (.cells (varA vs[k])) (Nat.le_refl _)
    have hsv : ((S'.born 56 z43).put S'.no (.cells (varA vs[k]))).obj S'.no = some (varA vs[k]) := by simp [put_obj]
    have hn : S'.no < ((S'.born 56 z43).put S'.no (.cells (varA vs[k]))).no := Nat.lt_succ_self _
    have hbs := bs35_1 vs[k]
    have hvk : varA vs[k] = [.sc (.int .i64 vs[k].frm), .sc (.int .i64 vs[k].to), .sc (.string vs[k].name), .sc (.int .i64 vs[k].kind), .sc (.int .i64 vs[k].n), .sc (.string vs[k].typ)] := rfl
    simp only [z43, hvk] at gq hsv hn hbs
    simp only [SXa, Nat.reduceEqDiff, Nat.reduceAdd, load35, index35, len35, load56, store56, b20_13, r20_3, r20_4, r20_5, r20_6, r20_12, t1, t2, t6, load_pb, o1, fld37_1, fld_p, Option.bind_some, lenV_ hy, dec_lt hlt, idxV_ hy hlt, alloc56, z43, hvk, st43, born_obj, Nat.le_refl, List.drop_nil, Nat.zero_add]
    generalize ((S'.born 56 [.sc (.int .i64 0), .sc (.int .i64 0), .sc (.string ⟨#[]⟩), .sc (.int .i64 0), .sc (.int .i64 0), .sc (.string ⟨#[]⟩)]).put S'.no (.cells [.sc (.int .i64 vs[k].frm), .sc (.int .i64 vs[k].to), .sc (.string vs[k].name), .sc (.int .i64 vs[k].kind), .sc (.int .i64 vs[k].n), .sc (.string vs[k].typ)])) = S5 at gq hsv hn
    have G5 := hG.two gq
    by_cases h1 : pc < vs[k].frm
    · have c1 : decide (pc < vs[k].frm) = true := by simpa using h1
      have hi : inS pc vs[k] = false := by simp [inS]; omega
      simp only [SXa, reduceCtorEq, Nat.reduceEqDiff, load3, load_pb, hsv, fld56_0, fld_p, Option.bind_some, Nat.add_zero, c1, t1, t2, t5, t6, wk]
      exact ⟨vs.length - (k + 1), by omega, k + 1, X, by omega, rfl, by rw [hno hi]; exact hX, G5, by first | rfl | simp []⟩
    have c1 : decide (pc < vs[k].frm) = false := by simpa using h1
    by_cases h2 : vs[k].to ≤ pc
    · have c2 : decide (vs[k].to ≤ pc) = true := by simpa using h2
      have hi : inS pc vs[k] = false := by simp [inS]; omega
      simp only [SXa, reduceCtorEq, Nat.reduceEqDiff, load3, load_pb, hsv, fld56_0, fld56_1, fld_p, Option.bind_some, Nat.add_zero, Nat.zero_add, c1, c2, t1, t2, t5, t6, wk]
      exact ⟨vs.length - (k + 1), by omega, k + 1, X, by omega, rfl, by rw [hno hi]; exact hX, G5, by first | rfl | simp []⟩
    have c2 : decide (vs[k].to ≤ pc) = false := by simpa using h2
    have hi : inS pc vs[k] = true := by simp [inS]; omega
    have hne := hyes hi
    simp only [SXa, Nat.reduceEqDiff, load3, load_pb, hsv, fld56_0, fld56_1, fld_p, Option.bind_some, Nat.add_zero, Nat.zero_add, c1, c2, t1]
    refine e_loop2 (fun tm S2 N => ∃ j : Nat, j ≤ l.length ∧ N = l.length - j ∧ (∀ i (h : i < l.length), i < j → ltB l[i] vs[k] = true) ∧ Grow S5 S2 nilV ∧ getT tm 1 = .sc (.int .i64 pc) ∧ getT tm 2 = .ptr S.no 0 ∧ getT tm 5 = X ∧ getT tm 6 = .sc (.int .i64 (k : Int)) ∧ getT tm 7 = .ptr S'.no 0 ∧ getT tm 8 = .sc (.int .i64 (j : Int)))
      (fun tm S2 => ∃ j : Nat, j ≤ l.length ∧ (∀ i (h : i < l.length), i < j → ltB l[i] vs[k] = true) ∧ (j = l.length ∨ ∃ h : j < l.length, ltB l[j] vs[k] = false) ∧ Grow S5 S2 nilV ∧ getT tm 1 = .sc (.int .i64 pc) ∧ getT tm 2 = .ptr S.no 0 ∧ getT tm 5 = X ∧ getT tm 6 = .sc (.int .i64 (k : Int)) ∧ getT tm 7 = .ptr S'.no 0 ∧ getT tm 8 = .sc (.int .i64 (j : Int))) 2 l.length
      ⟨0, by omega, by omega, fun j _ h => by omega, Grow.refl G5.fresh _, by simp [getT_setD, t1, t2, t5, t6]⟩ ?_ ?_
    · clear t1 t2 t5 t6
      rintro tm S2 N ⟨j, hj, rfl, hP, g2, t1, t2, t5, t6, t7, t8⟩
      have gr := Grow.raise g2.fresh 14 nilV
      have g3 := g2.two gr
      have o3 := g3.objs hsv hn
      by_cases hjl : j < l.length
      case neg =>
        simp only [SXa, Nat.reduceEqDiff, len35, b20_9, r20_7, r20_8, t1, t2, t5, t6, t7, t8, lenV_ hX, dec_nlt hjl]
        exact ⟨j, hj, hP, .inl (by omega), g3, by first | rfl | simp⟩
      have wj := wrapK hjl (by omega)
      cases hlb : ltB l[j] vs[k] with
      | true =>
        have hlb' : Go.Op.bytesLess l[j].name.toList vs[k].name.toList = true := hlb
        simp only [SXa, Nat.reduceEqDiff, load9, index35, len35, b20_9, r20_7, r20_8, t1, t2, t5, t6, t7, t8, lenV_ hX, dec_lt hjl, idxV_ hX hjl, varA, fld56_2, fld_e, fld_p, load_pb, o3, Option.bind_some, Nat.zero_add, lss_str, hlb', wj]
        refine ⟨l.length - (j + 1), by omega, j + 1, by omega, rfl, fun i h hij => ?_, g3, by first | rfl | simp⟩
        by_cases h3 : i < j
        · exact hP i h h3
        · have : i = j := by omega
          subst this
          exact hlb
      | false =>
        have hlb' : Go.Op.bytesLess l[j].name.toList vs[k].name.toList = false := hlb
        simp only [SXa, Nat.reduceEqDiff, load9, index35, len35, b20_9, r20_7, r20_8, t1, t2, t5, t6, t7, t8, lenV_ hX, dec_lt hjl, idxV_ hX hjl, varA, fld56_2, fld_e, fld_p, load_pb, o3, Option.bind_some, Nat.zero_add, lss_str, hlb']
        exact ⟨j, hj, hP, .inr ⟨hjl, hlb⟩, g3, by first | rfl | simp⟩
    · clear t1 t2 t5 t6
      rintro tm S2 ⟨j, hj, hP, hE, g2, t1, t2, t5, t6, t7, t8⟩
      obtain ⟨w1, w2⟩ := tw_at (p := (ltB · vs[k])) l j hj hP hE
      simp only [SXa, reduceCtorEq, Nat.reduceEqDiff, t1, t2, t5, t6]
      refine e_drawC noX draw20_0 ?_
      have gr := Grow.raise g2.fresh 13 nilV
      have g3 := g2.two gr
      have hs1 : ∀ S, sliceA E 35 X none (some (.sc (.int .i64 (j : Int)))) S = some (subV X 0 j, S) := fun S => hX.slice sl35 (bounds_hi (by rw [varsA_len]; exact hj)) S
      have hs2 : ∀ S, sliceA E 35 X (some (.sc (.int .i64 (j : Int)))) none S = some (subV X j l.length, S) := fun S => hX.slice sl35 (by rw [bounds_lo (by rw [varsA_len]; exact hj), varsA_len]) S
      have v1 : IsV 6 (subV X 0 j) (varsA (l.take j)) := by
        have := hX.sub 0 j (by rw [varsA_len]; exact hj)
        rwa [List.drop_zero, Nat.sub_zero, varsA_take] at this
      have v2 : IsV 6 (subV X j l.length) (varsA (l.drop j)) := by
        have := hX.sub j l.length (by rw [varsA_len]; exact Nat.le_refl _)
        rwa [varsA_drop, List.take_of_length_le (by rw [varsA_len, List.length_drop]; exact Nat.le_refl _)] at this
      generalize subV X 0 j = Y1 at hs1 v1
      generalize subV X j l.length = Y2 at hs2 v2
      obtain ⟨a1, T1, b1, ow1, nw1, k1, _⟩ := appX (S0 := S2.raise 13) (S := S2.raise 13) (X := .vec 1 6 []) (xs := []) (Grow.refl gr.fresh _) (.inr ⟨1, rfl, .inl rfl⟩) (.inr (.inl ⟨6, [], rfl⟩)) v1 (allSz_vars _) (by simp only [varsA_len, List.length_nil, List.length_take]; omega)
      have o1 := (g3.two k1).objs hsv hn
      obtain ⟨a2, T2, b2, ow2, nw2, k2, _⟩ := appX k1 ow1 nw1 (IsV.vec 1 6 [.agg (varA vs[k])]) rfl (by simp only [varsA_len, List.length_append, List.length_take, List.length_nil, List.length_cons]; omega)
      obtain ⟨a3, T3, b3, ow3, nw3, k3, _⟩ := appX k2 ow2 nw2 v2 (allSz_vars _) (by simp only [varsA_len, List.length_append, List.length_take, List.length_nil, List.length_cons, List.length_drop]; omega)
      simp only [hvk] at b2
      have gs : Grow S2 T2 nilV := gr.two k2
      have hn2 : S'.no < S2.no := Nat.lt_of_lt_of_le hn g2.no
      simp only [SXa, Nat.reduceEqDiff, Nat.reduceAdd, bs35, app35, load56, r20_10, r20_11, t1, t2, t5, t6, t7, t8, bs35_0, hs1, b1, load_pb, o1, Option.bind_some, Nat.zero_add, Nat.le_refl, hbs, b2, hs2, safe_cons, safe_nil, safe_of hX, safe_grow hn2 gs, Bool.and_self, b3, wk]
      refine ⟨vs.length - (k + 1), by omega, k + 1, a3, by omega, rfl, ?_, (G5.two g3).two k3, by first | rfl | simp []⟩
      have := ow3.is
      rw [hne, insV, w1, w2]
      simp only [varsA_cat, List.nil_append] at this ⊢
      simpa [varsA] using this
end Go.Proofs.Ytmmpcomfhcpicaa
