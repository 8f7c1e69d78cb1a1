/-
  The laws of chapter 16: a table as the document's own; two of those held against each other.
-/
import Derived.Test.YtmmpcomfhcpicaaInf9
import Derived.Test.YtmmpcomfhcpicaaInf8
set_option linter.unusedSimpArgs false
set_option linter.unusedVariables false
set_option maxRecDepth 100000
namespace Go.Proofs.Ytmmpcomfhcpicaa
open Go.Abs
/-- The state while a table is copied. -/
structure OI (S S' : St) (x y : AV) (cs : List AV) (e : TypeId) (sz : Nat) (Y : AV) (ys : List AV) : Prop where
  grow : Grow S S' nilV
  no : S.no + 3 ≤ S'.no
  box : S'.obj S.no = some [x, y]
  res : S'.obj (S.no + 1) = some [nilV, nilV]
  tab : S'.obj (S.no + 2) = some cs
  w : Wn e sz S S' Y ys
section
variable {S S' S2 : St} {x y : AV} {cs : List AV} {e : TypeId} {sz : Nat} {Y : AV} {ys : List AV}
theorem OI.on (h : OI S S' x y cs e sz Y ys) (g : Grow S' S2 nilV) : OI S S2 x y cs e sz Y ys :=
  have hn := h.no
  ⟨h.grow.two g, Nat.le_trans h.no g.no, g.objs h.box (by omega), g.objs h.res (by omega), g.objs h.tab (by omega), h.w.on g⟩
theorem OI.putN (h : OI S S' x y cs e sz Y ys) (l : Nat) (o : AObj) (hl : S.no + 3 ≤ l) : OI S (S'.put l o) x y cs e sz Y ys := by
  have hne : ∀ m, m ≠ l → (S'.put l o).obj m = S'.obj m := fun m hm => by simp only [St.put, St.obj, PM.get_set, hm, if_false]
  exact ⟨h.grow.put _ _ (by omega), h.no, by rw [hne _ (by omega)]; exact h.box, by rw [hne _ (by omega)]; exact h.res, by rw [hne _ (by omega)]; exact h.tab, ⟨h.w.own, h.w.id⟩⟩
theorem OI.app (h : OI S S' x y cs e sz Y ys) {t t1 e1 : TypeId} {agg : Bool} {bytes : Nat} {v : AV} (ht : elIs E t e agg sz bytes = true) (ht1 : E.und t1 = some (.slice e1)) (hv : allSz sz [v] = true) (hb : (ys.length + 1) * (bytes + 1) ≤ 2 ^ 46) :
    builtinA E false .append [t, t1] [Y, .vec 1 sz [v]] S' = some (.vec S'.nid sz (ys ++ [v]), appS e S' Y) ∧ (appS e S' Y).obj (S.no + 2) = some cs ∧
    ∀ cs', OI S ((appS e S' Y).put (S.no + 2) (.cells cs')) x y cs' e sz (.vec S'.nid sz (ys ++ [v])) (ys ++ [v]) := by
  obtain ⟨a1, a2, a3⟩ := h.w.app h.grow ht ht1 hv hb
  have hn := h.no
  have ga := Grow.app h.grow.fresh h.w.own
  refine ⟨a1, ga.objs h.tab (by omega), fun cs' => ?_⟩
  have hne : ∀ m, m ≠ S.no + 2 → ((appS e S' Y).put (S.no + 2) (.cells cs')).obj m = (appS e S' Y).obj m := fun m hm => by simp only [St.put, St.obj, PM.get_set, hm, if_false]
  exact ⟨a3.put _ _ (by omega), Nat.le_trans h.no ga.no, by rw [hne _ (by omega)]; exact ga.objs h.box (by omega), by rw [hne _ (by omega)]; exact ga.objs h.res (by omega), by rw [put_obj, if_pos rfl], ⟨a2.own, a2.id⟩⟩
end
theorem alloc37o {tm : PM AV} {S : St} {d : Option Tmp} : opV E tm d (.alloc 37) S = some (.ptr S.no 0, S.born 37 [nilV, nilV]) := alloc_of (by kernel_rfl)
theorem bld37_0o (S : St) : buildA E 37 [] S = some (.agg [nilV, nilV], S) := by kernel_rfl
theorem fld37_0o {tm : PM AV} {S : St} {d : Option Tmp} (x : Operand) : opV E tm d (.fieldAddr 37 x 0) S = fldV 0 (E.ev tm x) S := field_chk 37 0 0 (by kernel_rfl) x
theorem fld37_1o {tm : PM AV} {S : St} {d : Option Tmp} (x : Operand) : opV E tm d (.fieldAddr 37 x 1) S = fldV 1 (E.ev tm x) S := field_chk 37 1 1 (by kernel_rfl) x
theorem bld51o (a b c d : Int) (S : St) : buildA E 51 [(0, .sc (.int .i64 a)), (1, .sc (.int .i64 b)), (2, .sc (.int .i64 c)), (3, .sc (.int .i64 d))] S = some (.agg [.sc (.int .i64 a), .sc (.int .i64 b), .sc (.int .i64 c), .sc (.int .i64 d)], S) := by kernel_rfl
theorem bs34_1o (a b c d : Int) (S : St) : buildSliceA E 34 1 [(0, .agg [.sc (.int .i64 a), .sc (.int .i64 b), .sc (.int .i64 c), .sc (.int .i64 d)])] S = some (.vec 1 4 [.agg [.sc (.int .i64 a), .sc (.int .i64 b), .sc (.int .i64 c), .sc (.int .i64 d)]], S) := by kernel_rfl
theorem bld56o (a b : Int) (c : ByteArray) (d e : Int) (f : ByteArray) (S : St) : buildA E 56 [(0, .sc (.int .i64 a)), (1, .sc (.int .i64 b)), (2, .sc (.string c)), (3, .sc (.int .i64 d)), (4, .sc (.int .i64 e)), (5, .sc (.string f))] S = some (.agg [.sc (.int .i64 a), .sc (.int .i64 b), .sc (.string c), .sc (.int .i64 d), .sc (.int .i64 e), .sc (.string f)], S) := by kernel_rfl
theorem bs35_1o (a b : Int) (c : ByteArray) (d e : Int) (f : ByteArray) (S : St) : buildSliceA E 35 1 [(0, .agg [.sc (.int .i64 a), .sc (.int .i64 b), .sc (.string c), .sc (.int .i64 d), .sc (.int .i64 e), .sc (.string f)])] S = some (.vec 1 6 [.agg [.sc (.int .i64 a), .sc (.int .i64 b), .sc (.string c), .sc (.int .i64 d), .sc (.int .i64 e), .sc (.string f)]], S) := by kernel_rfl
theorem res37o {tm : PM AV} {S : St} (t : Nat) (l : List ResultVar) : resAll E tm S (.cell t 37 :: l) = (loadC true 2 (getT tm t) S).bind fun q => (resAll E tm S l).map (q.1 :: ·) := res_cell t 37 l (de := (E.und 37).getD .string) (i := (E.inf 37).getD default) (by kernel_rfl) (by kernel_rfl) (by kernel_rfl) (by kernel_rfl)
set_option maxHeartbeats 32000000 in
theorem own_ok (ss : List StopV) (vs : List VarV) (x y : AV) (hx : IsV 4 x (stopsA ss)) (hy : IsV 6 y (varsA vs)) (hs : ss.length ≤ 100000) (hv : vs.length ≤ 100000) (S : St) (hS : S.Fresh) :
    ∃ r S', EvA E 13 [.agg [x, y]] S r S' ∧ (∃ Z1 Z2, r = .agg [Z1, Z2] ∧ IsV 4 Z1 (stopsA ss) ∧ IsV 6 Z2 (varsA vs)) ∧ Grow S S' nilV := by
  refine ev13 rfl ?_
  have hG : OI S ((((S.born 25 [x, y]).born 37 [nilV, nilV]).born 37 [nilV, nilV]).put (S.no + 1 + 1) (.cells [nilV, nilV])) x y [nilV, nilV] 51 4 nilV [] :=
    ⟨((((Grow.refl hS nilV).born _ _).born _ _).born _ _).put _ _ (by omega), Nat.le_refl _, by simp [born_obj, born_no, put_obj, show ¬ S.no = S.no + 1 + 1 by omega], by simp [born_obj, born_no, put_obj], by simp [put_obj], Wn.start _ _ _ _⟩
  simp only [SXa, reduceCtorEq, Nat.reduceEqDiff, Nat.reduceAdd, store37, r13_0, r13_1, r13_2, r13_8, r13_14, p13, op_box, cells_agg, alloc37o, op_build, bld37_0o, st25 (show okCell nilV = true from rfl) (show okCell nilV = true from rfl), born_obj, born_no, Option.bind_some, Nat.le_refl, List.drop_nil]
  generalize (((S.born 25 [x, y]).born 37 [nilV, nilV]).born 37 [nilV, nilV]).put (S.no + 1 + 1) (.cells [nilV, nilV]) = S0 at hG
  refine e_loop2 (fun tm S' N => ∃ (k : Nat) (Y : AV), k ≤ ss.length ∧ N = ss.length - k ∧ OI S S' x y [Y, nilV] 51 4 Y (stopsA (ss.take k)) ∧ getT tm 1 = .ptr S.no 0 ∧ getT tm 2 = .ptr (S.no + 1) 0 ∧ getT tm 3 = .ptr (S.no + 2) 0 ∧ getT tm 4 = .sc (.int .i64 (k : Int)))
    (fun tm S' => ∃ (Y : AV), OI S S' x y [Y, nilV] 51 4 Y (stopsA ss) ∧ getT tm 1 = .ptr S.no 0 ∧ getT tm 2 = .ptr (S.no + 1) 0 ∧ getT tm 3 = .ptr (S.no + 2) 0) 0 ss.length
    ⟨0, nilV, by omega, by omega, hG, by simp [getT_setD, Nat.add_assoc]⟩ ?_ ?_
  · rintro tm S' N ⟨k, Y, hk, rfl, G, t1, t2, t3, t4⟩
    by_cases hlt : k < ss.length
    case neg =>
      have hke : k = ss.length := by omega
      simp only [SXa, Nat.reduceEqDiff, load22, len22, b13_7, r13_3, r13_4, r13_5, r13_6, t1, t2, t3, t4, load_pb, G.box, fld25_0, fld_p, Option.bind_some, Nat.add_zero, lenS_ hx, dec_nlt hlt]
      rw [hke, List.take_length] at G
      exact ⟨Y, G⟩
    case pos =>
      have wk := wrapK hlt (by omega : ss.length ≤ 2 ^ 63 - 1)
      have hno := G.no
      have G1 := (G.on ((Grow.refl G.grow.fresh nilV).born 41 z41)).putN S'.no (.cells (stopA ss[k])) (by omega)
      have o1 : ((S'.born 41 z41).put S'.no (.cells (stopA ss[k]))).obj S'.no = some (stopA ss[k]) := by simp [put_obj]
      obtain ⟨a1, a2, a3⟩ := G1.app (t := 34) (t1 := 34) el34 und34 (v := .agg (stopA ss[k])) rfl (by simp only [stopsA, List.length_map, List.length_take]; omega)
      have hap : stopsA (ss.take k) ++ [.agg (stopA ss[k])] = stopsA (ss.take (k + 1)) := by rw [stopsA_app, List.take_succ_eq_append_getElem hlt]
      rw [hap] at a1 a3
      have tab := G1.tab
      simp only [z41, stopA] at o1 a1 a2 a3 tab
      simp only [SXa, Nat.reduceEqDiff, Nat.reduceAdd, load22, index22, len22, load41, store41, b13_7, r13_3, r13_4, r13_5, r13_6, t1, t4, load_pb, G.box, fld25_0, fld_p, Option.bind_some, Nat.add_zero, Nat.zero_add, lenS_ hx, dec_lt hlt, idxS_ hx hlt, alloc41, z41, stopA, st41, born_obj, Nat.le_refl, List.drop_nil]
      generalize ((S'.born 41 [.sc (.int .i64 0), .sc (.int .i64 0), .sc (.int .i64 0), .sc (.int .i64 0)]).put S'.no (.cells [.sc (.int .i64 ss[k].pc), .sc (.int .i64 ss[k].at_), .sc (.int .i64 ss[k].line), .sc (.int .i64 ss[k].col)])) = S1 at o1 a1 a2 a3 tab
      simp only [SXa, Nat.reduceEqDiff, Nat.reduceAdd, load3, load34, store34, bs34, app34, t1, t2, t3, t4, load_pb, o1, tab, fld37_0o, fld41_0, fld41_1, fld41_2, fld41_3, fld_p, Option.bind_some, Nat.add_zero, Nat.zero_add, op_build, bld51o, bs34_1o, a1, a2, st_v (IsV.vec S1.nid 4 (stopsA (ss.take (k + 1)))), Nat.zero_lt_succ, List.set_cons_zero, wk]
      exact ⟨ss.length - (k + 1), by omega, k + 1, _, by omega, rfl, a3 _, by first | rfl | simp⟩
  · rintro tm S' ⟨Z1, G0, t1, t2, t3⟩
    have hZ1 : IsV 4 Z1 (stopsA ss) := G0.w.own.is
    have G : OI S S' x y [Z1, nilV] 56 6 nilV [] := ⟨G0.grow, G0.no, G0.box, G0.res, G0.tab, Wn.start _ _ _ _⟩
    simp only [SXa]
    refine e_loop2 (fun tm S' N => ∃ (k : Nat) (Y : AV), k ≤ vs.length ∧ N = vs.length - k ∧ OI S S' x y [Z1, Y] 56 6 Y (varsA (vs.take k)) ∧ getT tm 1 = .ptr S.no 0 ∧ getT tm 2 = .ptr (S.no + 1) 0 ∧ getT tm 3 = .ptr (S.no + 2) 0 ∧ getT tm 6 = .sc (.int .i64 (k : Int)))
      (fun tm S' => ∃ (Y : AV), OI S S' x y [Z1, Y] 56 6 Y (varsA vs) ∧ getT tm 1 = .ptr S.no 0 ∧ getT tm 2 = .ptr (S.no + 1) 0 ∧ getT tm 3 = .ptr (S.no + 2) 0) 2 vs.length
      ⟨0, nilV, by omega, by omega, G, by simp [getT_setD, t1, t2, t3]⟩ ?_ ?_
    · clear t1 t2 t3
      rintro tm S' N ⟨k, Y, hk, rfl, G, t1, t2, t3, t6⟩
      by_cases hlt : k < vs.length
      case neg =>
        have hke : k = vs.length := by omega
        simp only [SXa, Nat.reduceEqDiff, load23, len23, b13_13, r13_9, r13_10, r13_11, r13_12, t1, t2, t3, t6, load_pb, G.box, fld25_1, fld_p, Option.bind_some, Nat.zero_add, lenV_ hy, dec_nlt hlt]
        rw [hke, List.take_length] at G
        exact ⟨Y, G⟩
      case pos =>
        have wk := wrapK hlt (by omega : vs.length ≤ 2 ^ 63 - 1)
        have hno := G.no
        have G1 := (G.on ((Grow.refl G.grow.fresh nilV).born 43 z43)).putN S'.no (.cells (varA vs[k])) (by omega)
        have o1 : ((S'.born 43 z43).put S'.no (.cells (varA vs[k]))).obj S'.no = some (varA vs[k]) := by simp [put_obj]
        obtain ⟨a1, a2, a3⟩ := G1.app (t := 35) (t1 := 35) el35 und35 (v := .agg (varA vs[k])) rfl (by simp only [varsA, List.length_map, List.length_take]; omega)
        have hap : varsA (vs.take k) ++ [.agg (varA vs[k])] = varsA (vs.take (k + 1)) := by rw [varsA_app, List.take_succ_eq_append_getElem hlt]
        rw [hap] at a1 a3
        have tab := G1.tab
        simp only [z43, varA] at o1 a1 a2 a3 tab
        simp only [SXa, Nat.reduceEqDiff, Nat.reduceAdd, load23, index23, len23, load43, store43, b13_13, r13_9, r13_10, r13_11, r13_12, t1, t6, load_pb, G.box, fld25_1, fld_p, Option.bind_some, Nat.zero_add, lenV_ hy, dec_lt hlt, idxV_ hy hlt, alloc43, z43, varA, st43, born_obj, Nat.le_refl, List.drop_nil]
        generalize ((S'.born 43 [.sc (.int .i64 0), .sc (.int .i64 0), .sc (.string ⟨#[]⟩), .sc (.int .i64 0), .sc (.int .i64 0), .sc (.string ⟨#[]⟩)]).put S'.no (.cells [.sc (.int .i64 vs[k].frm), .sc (.int .i64 vs[k].to), .sc (.string vs[k].name), .sc (.int .i64 vs[k].kind), .sc (.int .i64 vs[k].n), .sc (.string vs[k].typ)])) = S1 at o1 a1 a2 a3 tab
        simp only [SXa, Nat.reduceEqDiff, Nat.reduceAdd, load3, load9, load35, store35, bs35, app35, t1, t2, t3, t6, load_pb, o1, tab, fld37_1o, fld43_0, fld43_1, fld43_2, fld43_3, fld43_4, fld43_5, fld_p, Option.bind_some, Nat.add_zero, Nat.zero_add, op_build, bld56o, bs35_1o, a1, a2, st_v (IsV.vec S1.nid 6 (varsA (vs.take (k + 1)))), Nat.lt_add_one, List.set_cons_succ, List.set_cons_zero, wk]
        exact ⟨vs.length - (k + 1), by omega, k + 1, _, by omega, rfl, a3 _, by first | rfl | simp⟩
    · clear t1 t2 t3
      rintro tm S' ⟨Z2, G, t1, t2, t3⟩
      have hZ2 : IsV 6 Z2 (varsA vs) := G.w.own.is
      simp only [SXa, Nat.reduceEqDiff, Nat.reduceAdd, load37, store37, t2, t3, load_pb, G.tab, G.res, st25 (okV hZ1) (okV hZ2), res37o, put_obj, Option.bind_some, Nat.zero_add, Nat.le_refl, List.drop_nil]
      exact ⟨⟨Z1, Z2, rfl, hZ1, hZ2⟩, G.grow.put _ _ (Nat.le_succ _)⟩
end Go.Proofs.Ytmmpcomfhcpicaa
