/-
  Package info and the document's own table: what is asked of a table: the walks.
-/
import Derived.Test.YtmmpcomfhcpicaaRef4
set_option linter.unusedSimpArgs false
set_option linter.unusedVariables false
set_option maxRecDepth 100000
namespace Go.Abs
section
variable {E : Env} {S : St}
theorem app_empty {t t1 e e1 : TypeId} {agg : Bool} {bytes sz : Nat} {X Y : AV} {xs : List AV} (ht : elIs E t e agg sz bytes = true) (ht1 : E.und t1 = some (.slice e1)) (hx : IsV sz X xs) (hy : IsV sz Y []) : builtinA E false .append [t, t1] [X, Y] S = some (X, S) := by
  unfold elIs at ht
  split at ht
  · rename_i e' de i hd hde hi
    simp only [Bool.and_eq_true, beq_iff_eq] at ht
    obtain ⟨⟨⟨⟨⟨k1, k2⟩, k3⟩, k4⟩, k5⟩, k6⟩ := ht
    have k1 := Nat.eq_of_beq_eq_true k1
    subst k1
    rcases hy with ⟨rfl, _⟩ | ⟨id, rfl⟩ <;> rcases hx with ⟨rfl, _⟩ | ⟨id2, rfl⟩ <;> simp only [builtinA, hd, ht1, hde, hi, appendA, elemsS, elemsOf, appendXs]
  · simp at ht
/-- What an append to it turns for nobody else. -/
def Newish (S : St) (r : AV) : Prop := r = nilV ∨ (∃ sz xs, r = .vec 1 sz xs) ∨ ∃ id sz xs, r = .vec id sz xs ∧ S.nid ≤ id
theorem Grow.app2 {S0 : St} {e : TypeId} {sz : Nat} {r : AV} {xs : List AV} (g : Grow S0 S nilV) (hO : OwnV S e sz r xs) (hn : Newish S0 r) : Grow S0 (appS e S r) nilV := by
  have ga := Grow.app g.fresh hO
  refine ⟨Nat.le_trans g.nid ga.nid, fun id hlt _ => ?_, fun id hlt => (ga.ity id (Nat.lt_of_lt_of_le hlt g.nid)).trans (g.ity id hlt), Nat.le_trans g.no ga.no, fun l hl' => (ga.obj l (Nat.lt_of_lt_of_le hl' g.no)).trans (g.obj l hl'), ga.fresh, fun l hl' => (ga.ver l (Nat.lt_of_lt_of_le hl' g.no)).trans (g.ver l hl')⟩
  rcases hn with rfl | ⟨sz2, xs2, rfl⟩ | ⟨i2, sz2, xs2, rfl, h2⟩
  · exact (ga.sp id (Nat.lt_of_lt_of_le hlt g.nid) fun sz xs e => by cases e).trans (g.sp id hlt (fun _ _ e => by cases e))
  · exact g.sp id hlt (fun _ _ e => by cases e)
  · exact (ga.sp id (Nat.lt_of_lt_of_le hlt g.nid) fun sz xs e => by cases e; omega).trans (g.sp id hlt (fun _ _ e => by cases e))
end
end Go.Abs
namespace Go.Proofs.Ytmmpcomfhcpicaa
open Go.Abs
theorem res41 {tm : PM AV} {S : St} (t : Nat) (l : List ResultVar) : resAll E tm S (.cell t 41 :: l) = (loadC true 4 (getT tm t) S).bind fun q => (resAll E tm S l).map (q.1 :: ·) := res_cell t 41 l (de := (E.und 41).getD .string) (i := (E.inf 41).getD default) (by kernel_rfl) (by kernel_rfl) (by kernel_rfl) (by kernel_rfl)
theorem res51 {tm : PM AV} {S : St} (t : Nat) (l : List ResultVar) : resAll E tm S (.cell t 51 :: l) = (loadC true 4 (getT tm t) S).bind fun q => (resAll E tm S l).map (q.1 :: ·) := res_cell t 51 l (de := (E.und 51).getD .string) (i := (E.inf 51).getD default) (by kernel_rfl) (by kernel_rfl) (by kernel_rfl) (by kernel_rfl)
theorem bld41_0 (S : St) : buildA E 41 [] S = some (.agg z41, S) := by kernel_rfl
theorem bld51_0 (S : St) : buildA E 51 [] S = some (.agg z41, S) := by kernel_rfl
/-- The stop at a place. -/
def stopF (ss : List StopV) (pc : Int) : Option StopV := ss.find? fun s => s.pc == pc
def stopAV (o : Option StopV) : AV := match o with
  | some s => .tup [.agg (stopA s), .sc (.bool true)]
  | none => .tup [.agg z41, .sc (.bool false)]
theorem stopF_some {ss : List StopV} {pc : Int} {k : Nat} (hk : k < ss.length) (h : ∀ j (hj : j < ss.length), j < k → ss[j].pc ≠ pc) (he : ss[k].pc = pc) : stopF ss pc = some ss[k] := by
  unfold stopF
  rw [List.find?_eq_some_iff_getElem]
  refine ⟨by simp [he], k, hk, rfl, fun j hj => ?_⟩
  simpa using h j (by omega) hj
theorem stopF_none {ss : List StopV} {pc : Int} (h : ∀ j (hj : j < ss.length), ss[j].pc ≠ pc) : stopF ss pc = none := by
  unfold stopF
  rw [List.find?_eq_none]
  intro s hs
  obtain ⟨j, hj, rfl⟩ := List.getElem_of_mem hs
  simpa using h j hj
set_option maxHeartbeats 16000000 in
theorem at17_ok (ss : List StopV) (x y : AV) (hx : IsV 4 x (stopsA ss)) (hs : ss.length ≤ 2 ^ 62) (pc : Int) (S : St) (hS : S.Fresh) : ∃ r S', EvA E 17 [.agg [x, y], .sc (.int .i64 pc)] S r S' ∧ r = stopAV (stopF ss pc) ∧ Grow S S' nilV := by
  refine ev17 rfl ?_
  have g0 := ((Grow.refl hS nilV).born 25 [x, y]).born 41 z41
  have h0 : ((S.born 25 [x, y]).born 41 z41).obj S.no = some [x, y] := by simp [born_obj, born_no]
  have h1 : ((S.born 25 [x, y]).born 41 z41).obj (S.no + 1) = some z41 := by simp [born_obj, born_no]
  have n1 : S.no + 1 < ((S.born 25 [x, y]).born 41 z41).no := Nat.lt_succ_self _
  simp only [z41] at g0 h0 h1 n1
  simp only [SXa, reduceCtorEq, Nat.reduceEqDiff, Nat.reduceAdd, load22, len22, r17_0, r17_1, r17_8, p17, op_box, cells_agg, alloc41, z41, born_no, load_pb, h0, fld25_0, fld_p, Option.bind_some, Nat.add_zero, lenS_ hx]
  generalize (S.born 25 [x, y]).born 41 [.sc (.int .i64 0), .sc (.int .i64 0), .sc (.int .i64 0), .sc (.int .i64 0)] = S0 at g0 h0 h1 n1
  refine e_loop (fun tm S' N => ∃ k : Nat, k ≤ ss.length ∧ N = ss.length - k ∧ (∀ j (hj : j < ss.length), j < k → ss[j].pc ≠ pc) ∧ Grow S S' nilV ∧ S'.obj (S.no + 1) = some [.sc (.int .i64 0), .sc (.int .i64 0), .sc (.int .i64 0), .sc (.int .i64 0)] ∧ S.no + 1 < S'.no ∧ getT tm 1 = .sc (.int .i64 pc) ∧ getT tm 4 = .ptr (S.no + 1) 0 ∧ getT tm 9 = x ∧ getT tm 10 = .sc (.int .i64 (ss.length : Nat)) ∧ getT tm 11 = .sc (.int .i64 (k : Int))) ss.length
    ⟨0, by omega, by omega, fun j _ h => by omega, g0, h1, n1, by simp [getT_setD]⟩ ?_
  rintro tm S' N ⟨k, hk, rfl, hP, hG, o1, n1', t1, t4, t9, t10, t11⟩
  by_cases hlt : k < ss.length
  case neg =>
    rw [stopF_none fun j hj => hP j hj (by omega)]
    simp only [SXa, Nat.reduceEqDiff, Nat.reduceAdd, store41, b17_7, r17_2, r17_3, r17_4, r17_5, r17_6, t4, t10, t11, dec_nlt hlt, op_build, bld41_0, z41, st41, o1, Option.bind_some, Nat.le_refl, List.drop_nil, res41, load_pb, put_obj, Nat.zero_add]
    exact ⟨rfl, hG.put _ _ (by omega)⟩
  case pos =>
    have wk := wrapK hlt (by omega)
    have gb := (hG.born 41 z41).put S'.no (.cells (stopA ss[k])) hG.no
    have gq := ((Grow.refl hG.fresh nilV).born 41 z41).put S'.no (.cells (stopA ss[k])) (Nat.le_refl _)
    have hsv : ((S'.born 41 z41).put S'.no (.cells (stopA ss[k]))).obj S'.no = some (stopA ss[k]) := by simp [put_obj]
    have o2 := gq.objs o1 n1'
    have n2 := Nat.lt_of_lt_of_le n1' gq.no
    simp only [z41, stopA] at gb hsv o2 n2
    simp only [SXa, Nat.reduceEqDiff, Nat.reduceAdd, index22, load41, store41, b17_7, r17_2, r17_3, r17_4, r17_5, r17_6, t9, t10, t11, dec_lt hlt, idxS_ hx hlt, stopA, alloc41, z41, st41, born_obj, Option.bind_some, Nat.le_refl, List.drop_nil, Nat.zero_add]
    generalize ((S'.born 41 [.sc (.int .i64 0), .sc (.int .i64 0), .sc (.int .i64 0), .sc (.int .i64 0)]).put S'.no (.cells [.sc (.int .i64 ss[k].pc), .sc (.int .i64 ss[k].at_), .sc (.int .i64 ss[k].line), .sc (.int .i64 ss[k].col)])) = S5 at gb hsv o2 n2
    by_cases he : ss[k].pc = pc
    · have c1 : (ss[k].pc == pc) = true := by simpa using he
      rw [stopF_some hlt hP he]
      simp only [SXa, Nat.reduceEqDiff, Nat.reduceAdd, load3, load41, store41, load_pb, hsv, fld41_0, fld_p, Option.bind_some, Nat.add_zero, Nat.zero_add, c1, t1, t4, Nat.le_refl, st41, o2, List.drop_nil, res41, put_obj]
      exact ⟨rfl, gb.put _ _ (by omega)⟩
    · have c1 : (ss[k].pc == pc) = false := by simpa using he
      simp only [SXa, Nat.reduceEqDiff, load3, load_pb, hsv, fld41_0, fld_p, Option.bind_some, Nat.add_zero, c1, t1, t4, t9, t10, t11, wk]
      refine ⟨ss.length - (k + 1), by omega, k + 1, by omega, rfl, fun j hj hjk => ?_, gb, o2, n2, by first | rfl | simp [t1, t4, t9, t10]⟩
      by_cases hjk2 : j < k
      · exact hP j hj hjk2
      · have : j = k := by omega
        subst this
        exact he
set_option maxHeartbeats 16000000 in
theorem stopat18_ok (ss : List StopV) (x y : AV) (hx : IsV 4 x (stopsA ss)) (hs : ss.length ≤ 2 ^ 62) (pc : Int) (S : St) (hS : S.Fresh) : ∃ r S', EvA E 18 [.agg [x, y], .sc (.int .i64 pc)] S r S' ∧ r = stopAV (stopF ss pc) ∧ Grow S S' nilV := by
  refine ev18 rfl ?_
  have g0 := ((Grow.refl hS nilV).born 37 [x, y]).born 51 z41
  have h0 : ((S.born 37 [x, y]).born 51 z41).obj S.no = some [x, y] := by simp [born_obj, born_no]
  have h1 : ((S.born 37 [x, y]).born 51 z41).obj (S.no + 1) = some z41 := by simp [born_obj, born_no]
  simp only [z41] at g0 h0 h1
  simp only [SXa, reduceCtorEq, Nat.reduceAdd, r18_0, r18_1, r18_7, p18, op_box, cells_agg, alloc51, z41, born_no]
  generalize (S.born 37 [x, y]).born 51 [.sc (.int .i64 0), .sc (.int .i64 0), .sc (.int .i64 0), .sc (.int .i64 0)] = S0 at g0 h0 h1
  refine e_loop (fun tm S' N => ∃ k : Nat, k ≤ ss.length ∧ N = ss.length - k ∧ (∀ j (hj : j < ss.length), j < k → ss[j].pc ≠ pc) ∧ S' = S0 ∧ getT tm 1 = .sc (.int .i64 pc) ∧ getT tm 2 = .ptr S.no 0 ∧ getT tm 4 = .ptr (S.no + 1) 0 ∧ getT tm 6 = .sc (.int .i64 (k : Int))) ss.length
    ⟨0, by omega, by omega, fun j _ h => by omega, rfl, by simp [getT_setD]⟩ ?_
  rintro tm S' N ⟨k, hk, rfl, hP, rfl, t1, t2, t4, t6⟩
  by_cases hlt : k < ss.length
  case neg =>
    rw [stopF_none fun j hj => hP j hj (by omega)]
    simp only [SXa, Nat.reduceEqDiff, Nat.reduceAdd, load34, len34, store51, b18_6, r18_2, r18_3, r18_4, r18_5, t2, t4, t6, load_pb, h0, h1, fld37_0, fld_p, Option.bind_some, Nat.add_zero, lenS_ hx, dec_nlt hlt, op_build, bld51_0, z41, st41, Nat.le_refl, List.drop_nil, res51, put_obj, Nat.zero_add]
    exact ⟨rfl, g0.put _ _ (by omega)⟩
  case pos =>
    have wk := wrapK hlt (by omega)
    by_cases he : ss[k].pc = pc
    · have c1 : (ss[k].pc == pc) = true := by simpa using he
      rw [stopF_some hlt hP he]
      simp only [SXa, Nat.reduceEqDiff, Nat.reduceAdd, load3, load34, index34, len34, load51, store51, b18_6, r18_2, r18_3, r18_4, r18_5, t1, t2, t4, t6, load_pb, h0, h1, fld37_0, fld_p, Option.bind_some, Nat.add_zero, Nat.zero_add, lenS_ hx, dec_lt hlt, idxS_ hx hlt, stopA, fld51_0, fld_e, c1, Nat.le_refl, st41, List.drop_nil, res51, put_obj]
      exact ⟨rfl, g0.put _ _ (by omega)⟩
    · have c1 : (ss[k].pc == pc) = false := by simpa using he
      simp only [SXa, Nat.reduceEqDiff, load3, load34, index34, len34, b18_6, r18_2, r18_3, r18_4, r18_5, t1, t2, t4, t6, load_pb, h0, fld37_0, fld_p, Option.bind_some, Nat.add_zero, lenS_ hx, dec_lt hlt, idxS_ hx hlt, stopA, fld51_0, fld_e, c1, wk]
      refine ⟨ss.length - (k + 1), by omega, k + 1, by omega, rfl, fun j hj hjk => ?_, rfl⟩
      by_cases hjk2 : j < k
      · exact hP j hj hjk2
      · have : j = k := by omega
        subst this
        exact he
end Go.Proofs.Ytmmpcomfhcpicaa
