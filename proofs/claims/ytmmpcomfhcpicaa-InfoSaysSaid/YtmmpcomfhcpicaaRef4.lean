/-
  The document's own table: what is written: the walk.
-/
import Derived.Test.YtmmpcomfhcpicaaRef3
set_option linter.unusedSimpArgs false
set_option linter.unusedVariables false
set_option maxRecDepth 100000
namespace Go.Proofs.Ytmmpcomfhcpicaa
open Go.Abs
theorem grpI_ok {S0 S : St} {X : AV} {l : List UInt8} (h : Wrt S0 S X l) (z : Int) (h0 : 0 ≤ z) (h1 : z < 2 ^ 63) (hl : l.length ≤ 2 ^ 41) : ∃ r S', EvA E 40 [X, .sc (.int .u64 z)] S r S' ∧ Wr S S' X r (l ++ numI z) := by
  obtain ⟨r, S', e, w⟩ := grp40_ok z.toNat (by omega) X l S h.grow.fresh h.own hl
  rw [Int.toNat_of_nonneg h0] at e
  exact ⟨r, S', e, w⟩
theorem strapp {S0 S : St} {X : AV} {l : List UInt8} (h : Wrt S0 S X l) (hid : ∃ id xs, X = .vec id 1 xs ∧ S0.nid ≤ id) (b : ByteArray) (hb : b.size ≤ 4000000) (hl : l.length ≤ 2 ^ 41) : ∃ r S', builtinA E false .append [28, 9] [X, .sc (.string b)] S = some (r, S') ∧ Wrt S0 S' r (l ++ b.data.toList) ∧ Grow S S' X := by
  obtain ⟨id, xs, er, hid⟩ := hid
  by_cases hb0 : b.data.toList = []
  · refine ⟨X, S, app_str0 X id xs b S er hb0, ?_, Grow.refl h.grow.fresh _⟩
    rw [hb0, List.append_nil]
    exact h
  · have hsz : b.data.toList.length = b.size := rfl
    have ha := app_str (S := S) (b := b) el28 und9 h.grow.fresh h.own hb0 (by rw [byteVals_length, hsz]; omega)
    have hO := appS_own (zs := byteVals (l ++ b.data.toList)) h.grow.fresh h.own
    have e10 : byteVals l ++ byteVals b.data.toList = byteVals (l ++ b.data.toList) := by rw [byteVals_app]
    rw [e10] at ha
    exact ⟨_, _, ha, ⟨hO, h.grow.trans (Grow.app h.grow.fresh h.own) (.inr (.inr ⟨id, 1, xs, er, hid⟩)), .inr ⟨_, _, rfl, h.grow.nid⟩⟩, Grow.app h.grow.fresh h.own⟩
theorem Wr.id0 {S0 S S' : St} {X r : AV} {l : List UInt8} (g : Grow S0 S nilV) (h : Wr S S' X r l) : ∃ id xs, r = .vec id 1 xs ∧ S0.nid ≤ id := by
  obtain ⟨id, xs, e, h2⟩ := h.id
  exact ⟨id, xs, e, Nat.le_trans g.nid h2⟩
theorem GoodQ.stop {ss : List StopV} {vs : List VarV} (h : GoodQ ss vs) {s : StopV} (hs : s ∈ ss) : stopB s = true := by
  obtain ⟨k, hk, rfl⟩ := List.getElem_of_mem hs
  exact (h.st k hk).1
theorem GoodQ.var {ss : List StopV} {vs : List VarV} (h : GoodQ ss vs) {v : VarV} (hv : v ∈ vs) : varB v = true := by
  obtain ⟨k, hk, rfl⟩ := List.getElem_of_mem hv
  exact (h.va k hk).1
set_option maxHeartbeats 64000000 in
theorem putq_ok (ss : List StopV) (vs : List VarV) (x y : AV) (hx : IsV 4 x (stopsA ss)) (hy : IsV 6 y (varsA vs)) (hs : ss.length ≤ 2 ^ 62) (hv : vs.length ≤ 2 ^ 62) (S : St) (hS : S.Fresh) :
    ∃ r S', EvA E 16 [.agg [x, y]] S r S' ∧ ((GoodQ ss vs ∧ IsV 1 r (byteVals (putF ss vs))) ∨ (¬ GoodQ ss vs ∧ r = nilV)) ∧ Grow S S' nilV := by
  refine ev16 rfl ?_
  have g0 := (Grow.refl hS nilV).born 37 [x, y]
  have h0 : (S.born 37 [x, y]).obj S.no = some [x, y] := by simp [born_obj]
  have hn0 : S.no < (S.born 37 [x, y]).no := Nat.lt_succ_self _
  simp only [SXa, reduceCtorEq, Nat.reduceEqDiff, Nat.reduceAdd, load37, r16_0, r16_1, r16_2, r16_3, r16_4, r16_11, r16_12, r16_21, p16, op_box, cells_agg]
  generalize S.born 37 [x, y] = S0 at g0 h0 hn0
  simp only [SXa, reduceCtorEq, Nat.reduceEqDiff, Nat.reduceAdd, call15, load_pb, h0, Option.bind_some, Nat.zero_add, Nat.le_refl]
  obtain ⟨r, S1, e1, ⟨b, rfl, hb⟩, q1⟩ := goodq15_ok ss vs x y hx hy hs hv S0 g0.fresh
  refine callK_of e1 ?_
  have g1 := g0.two q1
  have h1 := q1.objs h0 hn0
  have hn1 : S.no < S1.no := Nat.lt_of_lt_of_le hn0 q1.no
  cases b with
  | false =>
    simp only [SXa, reduceCtorEq, Nat.reduceEqDiff]
    exact ⟨.inr (fun h => by have := hb.2 h; cases this), g1⟩
  | true =>
  have hg : GoodQ ss vs := hb.1 rfl
  have hsl : ss.length ≤ 10000 := hg.ls
  have hvl : vs.length ≤ 10000 := hg.lv
  have bl1 := flat_le (f := encS) (c := 36) ss (fun s h => encS_len (hg.stop h))
  have hn9 := numI_len (z := ((ss.length : Nat) : Int)) (by omega)
  have hn9' := numI_len (z := ((vs.length : Nat) : Int)) (by omega)
  have eI : ∀ n : Nat, numI (n : Int) = numS n := fun n => by simp [numI]
  have wl1 : IntKind.u64.wrap ((ss.length : Nat) : Int) = ((ss.length : Nat) : Int) := wrapN (by omega) (by omega)
  have wl2 : IntKind.u64.wrap ((vs.length : Nat) : Int) = ((vs.length : Nat) : Int) := wrapN (by omega) (by omega)
  simp only [SXa, reduceCtorEq, Nat.reduceEqDiff, load34, len34, conv3_85, call40, load_pb, h1, fld37_0, fld_p, Option.bind_some, Nat.add_zero, lenS_ hx, wl1]
  obtain ⟨r2, S2, e2, w2⟩ := grpI_ok (Wrt.start (Grow.refl q1.fresh nilV)) ((ss.length : Nat) : Int) (by omega) (by omega) (by simp)
  refine callK_of e2 ?_
  have W2 := (Wrt.start (Grow.refl q1.fresh nilV)).then w2
  simp only [SXa, reduceCtorEq, Nat.reduceEqDiff]
  refine e_loop (fun tm S' N => ∃ (k : Nat) (X : AV), k ≤ ss.length ∧ N = ss.length - k ∧ Wrt S1 S' X (numI ((ss.length : Nat) : Int) ++ (ss.take k).flatMap encS) ∧ getT tm 1 = .ptr S.no 0 ∧ getT tm 3 = X ∧ getT tm 4 = .sc (.int .i64 (k : Int))) ss.length
    ⟨0, r2, by omega, by omega, by simpa using W2, by simp [getT_setD]⟩ ?_
  rintro tm S' N ⟨k, X, hk, rfl, hW, t1, t3, t4⟩
  have hX := hW.grow.objs h1 hn1
  by_cases hlt : k < ss.length
  case pos =>
    have wk := wrapK hlt (by omega)
    have hgk : stopB ss[k] = true := hg.stop (List.getElem_mem hlt)
    have hz := stop_bd hgk
    have z1 := hz ss[k].pc (by simp [stopI])
    have z2 := hz ss[k].at_ (by simp [stopI])
    have z3 := hz ss[k].line (by simp [stopI])
    have z4 := hz ss[k].col (by simp [stopI])
    have wz : ∀ z : Int, 0 ≤ z ∧ z ≤ 2147483647 → IntKind.u64.wrap z = z := fun z h => wrapN h.1 (by omega)
    have n1 := numI_len (z := ss[k].pc) (by omega)
    have n2 := numI_len (z := ss[k].at_) (by omega)
    have n3 := numI_len (z := ss[k].line) (by omega)
    have n4 := numI_len (z := ss[k].col) (by omega)
    have blk := flat_le (f := encS) (c := 36) (ss.take k) (fun s h => encS_len (hg.stop (List.mem_of_mem_take h)))
    have hkl : (ss.take k).length ≤ 10000 := by simp; omega
    have hG := hW.grow
    have gq := ((Grow.refl hG.fresh nilV).born 51 z41).put S'.no (.cells (stopA ss[k])) (Nat.le_refl _)
    have hsv : ((S'.born 51 z41).put S'.no (.cells (stopA ss[k]))).obj S'.no = some (stopA ss[k]) := by simp [put_obj]
    have hn : S'.no < ((S'.born 51 z41).put S'.no (.cells (stopA ss[k]))).no := Nat.lt_succ_self _
    simp only [z41, stopA] at gq hsv hn
    simp only [SXa, Nat.reduceEqDiff, Nat.reduceAdd, load34, index34, len34, load51, store51, b16_10, r16_5, r16_6, r16_9, t1, t4, load_pb, hX, fld37_0, fld_p, Option.bind_some, Nat.add_zero, lenS_ hx, dec_lt hlt, idxS_ hx hlt, alloc51, z41, stopA, st41, born_obj, Nat.le_refl, List.drop_nil, Nat.zero_add]
    generalize ((S'.born 51 [.sc (.int .i64 0), .sc (.int .i64 0), .sc (.int .i64 0), .sc (.int .i64 0)]).put S'.no (.cells [.sc (.int .i64 ss[k].pc), .sc (.int .i64 ss[k].at_), .sc (.int .i64 ss[k].line), .sc (.int .i64 ss[k].col)])) = S3 at gq hsv hn
    have hW3 := hW.on gq
    have hl3 : (numI ((ss.length : Nat) : Int) ++ (ss.take k).flatMap encS).length ≤ 2 ^ 41 - 1000 := by
      simp only [List.length_append]
      omega
    generalize hM : numI ((ss.length : Nat) : Int) ++ (ss.take k).flatMap encS = M at hW3 hl3
    refine ends_base (fun tm => getT tm 1 = .ptr S.no 0 ∧ getT tm 3 = X ∧ getT tm 4 = .sc (.int .i64 (k : Int)) ∧ getT tm 5 = .ptr S'.no 0) (by simp [getT_setD, t1, t3, t4]) ?_
    clear t1 t3 t4
    rintro tm ⟨t1, t3, t4, t5⟩
    refine e_drawC noX draw16_0 ?_
    have gr8 := Grow.raise hW3.grow.fresh 18 X
    have W8 := hW3.on (Grow.raise hW3.grow.fresh 18 nilV)
    have o8 := gr8.objs hsv hn
    generalize S3.raise 18 = S8 at gr8 W8 o8 ⊢
    have hn8 := Nat.lt_of_lt_of_le hn gr8.no
    obtain ⟨r9, S9, e9, w9⟩ := grpI_ok W8 ss[k].pc z1.1 (by omega) (by omega)
    simp only [SXa, Nat.reduceEqDiff, load3, conv3_85, call40, r16_7, r16_8, t3, t5, load_pb, o8, fld51_0, fld_p, Option.bind_some, Nat.add_zero, wz _ z1]
    refine callK_of e9 ?_
    have W9 := W8.then w9
    have o9 := w9.grow.objs o8 hn8
    have hn9 := Nat.lt_of_lt_of_le hn8 w9.grow.no
    obtain ⟨r10, S10, e10, w10⟩ := grpI_ok W9 ss[k].at_ z2.1 (by omega) (by simp only [List.length_append]; omega)
    simp only [SXa, Nat.reduceEqDiff, load3, conv3_85, call40, t5, load_pb, o9, fld51_1, fld_p, Option.bind_some, Nat.zero_add, wz _ z2]
    refine callK_of e10 ?_
    have W10 := W9.then w10
    have o10 := w10.grow.objs o9 hn9
    have hn10 := Nat.lt_of_lt_of_le hn9 w10.grow.no
    obtain ⟨r11, S11, e11, w11⟩ := grpI_ok W10 ss[k].line z3.1 (by omega) (by simp only [List.length_append]; omega)
    simp only [SXa, Nat.reduceEqDiff, load3, conv3_85, call40, t5, load_pb, o10, fld51_2, fld_p, Option.bind_some, Nat.zero_add, wz _ z3]
    refine callK_of e11 ?_
    have W11 := W10.then w11
    have o11 := w11.grow.objs o10 hn10
    have hn11 := Nat.lt_of_lt_of_le hn10 w11.grow.no
    have gs := gr8.trans ((w9.two w10).two w11).grow (.inl rfl)
    obtain ⟨r12, S12, e12, w12⟩ := grpI_ok W11 ss[k].col z4.1 (by omega) (by simp only [List.length_append]; omega)
    simp only [SXa, Nat.reduceEqDiff, load3, conv3_85, t5, load_pb, o11, fld51_3, fld_p, Option.bind_some, Nat.zero_add, wz _ z4, safe_cons, safe_nil, safe_sc, safe_grow hn gs, Bool.and_self]
    refine callK_of e12 ?_
    have W12 := W11.then w12
    simp only [SXa, Nat.reduceEqDiff, t1, t3, t4, wk]
    refine ⟨ss.length - (k + 1), by omega, k + 1, r12, by omega, rfl, ?_, by first | rfl | simp⟩
    rw [List.take_succ_eq_append_getElem hlt, List.flatMap_append]
    have e : (numI ((ss.length : Nat) : Int) ++ ((ss.take k).flatMap encS ++ [ss[k]].flatMap encS)) = (numI ((ss.length : Nat) : Int) ++ (ss.take k).flatMap encS) ++ encS ss[k] := by simp
    rw [e, hM]
    simpa [encS, stopI] using W12
  have hke : k = ss.length := by omega
  have hW' : Wrt S1 S' X (numI ((ss.length : Nat) : Int) ++ ss.flatMap encS) := by
    rw [hke, List.take_length] at hW
    exact hW
  simp only [SXa, Nat.reduceEqDiff, load34, len34, load35, len35, conv3_85, call40, b16_10, r16_5, r16_6, r16_9, t1, t3, t4, dec_nlt hlt, load_pb, hX, fld37_0, fld37_1, fld_p, Option.bind_some, Nat.add_zero, Nat.zero_add, lenS_ hx, lenV_ hy, wl2]
  obtain ⟨r6, S6, e6, w6⟩ := grpI_ok hW' ((vs.length : Nat) : Int) (by omega) (by omega) (by simp only [List.length_append]; omega)
  refine callK_of e6 ?_
  have W6 := hW'.then w6
  generalize hL : numI ((ss.length : Nat) : Int) ++ ss.flatMap encS ++ numI ((vs.length : Nat) : Int) = L at W6
  have hLl : L.length ≤ 400000 := by rw [← hL]; simp only [List.length_append]; omega
  simp only [SXa, Nat.reduceEqDiff]
  refine e_loop (fun tm S' N => ∃ (k : Nat) (X : AV), k ≤ vs.length ∧ N = vs.length - k ∧ Wrt S1 S' X (L ++ (vs.take k).flatMap encW) ∧ getT tm 1 = .ptr S.no 0 ∧ getT tm 3 = X ∧ getT tm 6 = .sc (.int .i64 (k : Int))) vs.length
    ⟨0, r6, by omega, by omega, by simpa using W6, by simp [getT_setD, t1]⟩ ?_
  clear hlt hX hW hW' t1 t3 t4 hke hk w6 W6 e6
  rintro tm S' N ⟨k, X, hk, rfl, hW, t1, t3, t6⟩
  have hX := hW.grow.objs h1 hn1
  by_cases hlt : k < vs.length
  case neg =>
    have hke : k = vs.length := by omega
    have hWe : Wrt S1 S' X (putF ss vs) := by
      rw [hke, List.take_length, ← hL, eI, eI] at hW
      exact hW
    simp only [SXa, Nat.reduceEqDiff, load35, len35, b16_20, r16_13, r16_14, r16_19, t1, t3, t6, load_pb, hX, fld37_1, fld_p, Option.bind_some, Nat.zero_add, lenV_ hy, dec_nlt hlt]
    exact ⟨.inl ⟨hg, hWe.own.is⟩, g1.two hWe.grow⟩
  case pos =>
    have wk := wrapK hlt (by omega)
    have hb := var_bd (hg.var (List.getElem_mem hlt))
    have blk := flat_le (f := encW) (c := 4004100) (vs.take k) (fun s h => encW_len (var_bd (hg.var (List.mem_of_mem_take h))))
    have hG := hW.grow
    have gq := ((Grow.refl hG.fresh nilV).born 56 z43).put S'.no (.cells (varA vs[k])) (Nat.le_refl _)
    have hsv : ((S'.born 56 z43).put S'.no (.cells (varA vs[k]))).obj S'.no = some (varA vs[k]) := by simp [put_obj]
    have hn : S'.no < ((S'.born 56 z43).put S'.no (.cells (varA vs[k]))).no := Nat.lt_succ_self _
    simp only [z43, varA] at gq hsv hn
    simp only [SXa, Nat.reduceEqDiff, Nat.reduceAdd, load35, index35, len35, load56, store56, b16_20, r16_13, r16_14, r16_19, t1, t6, load_pb, hX, fld37_1, fld_p, Option.bind_some, lenV_ hy, dec_lt hlt, idxV_ hy hlt, alloc56, z43, varA, st43, born_obj, Nat.le_refl, List.drop_nil, Nat.zero_add]
    generalize ((S'.born 56 [.sc (.int .i64 0), .sc (.int .i64 0), .sc (.string ⟨#[]⟩), .sc (.int .i64 0), .sc (.int .i64 0), .sc (.string ⟨#[]⟩)]).put S'.no (.cells [.sc (.int .i64 vs[k].frm), .sc (.int .i64 vs[k].to), .sc (.string vs[k].name), .sc (.int .i64 vs[k].kind), .sc (.int .i64 vs[k].n), .sc (.string vs[k].typ)])) = S7 at gq hsv hn
    have hW7 := hW.on gq
    have hkl : (vs.take k).length ≤ 10000 := by simp; omega
    have hl7 : (L ++ (vs.take k).flatMap encW).length ≤ 2 ^ 41 - 10000000 := by
      simp only [List.length_append]
      omega
    generalize hM : L ++ (vs.take k).flatMap encW = M at hW7 hl7
    have n8 := numI_len (z := vs[k].frm) (by have := hb.frm; omega)
    have n9 := numI_len (z := vs[k].to) (by have := hb.to; omega)
    have n10 := numI_len (z := ((vs[k].name.size : Nat) : Int)) (by have := hb.name; omega)
    have n10b : vs[k].name.data.toList.length ≤ 4000 := by have := hb.name; have h7 : vs[k].name.data.toList.length = vs[k].name.size := rfl; omega
    have n11 := numI_len (z := vs[k].kind) (by have := hb.kind; omega)
    have n12 := numI_len (z := vs[k].n) (by have := hb.n; omega)
    have n13 := numI_len (z := ((vs[k].typ.size : Nat) : Int)) (by have := hb.typ; omega)
    have wz : ∀ z : Int, 0 ≤ z ∧ z ≤ 2147483647 → IntKind.u64.wrap z = z := fun z h => wrapN h.1 (by omega)
    have wf := wz vs[k].frm (by have := hb.frm; omega)
    have wt := wz vs[k].to (by have := hb.to; omega)
    have wn := wz ((vs[k].name.size : Nat) : Int) (by have := hb.name; omega)
    have wkd := wz vs[k].kind (by have := hb.kind; omega)
    have wn2 := wz vs[k].n (by have := hb.n; omega)
    have wty := wz ((vs[k].typ.size : Nat) : Int) (by have := hb.typ; omega)
    refine ends_base (fun tm => getT tm 1 = .ptr S.no 0 ∧ getT tm 3 = X ∧ getT tm 6 = .sc (.int .i64 (k : Int)) ∧ getT tm 7 = .ptr S'.no 0) (by simp [getT_setD, t1, t3, t6]) ?_
    clear t1 t3 t6
    rintro tm ⟨t1, t3, t6, t7⟩
    refine e_drawC noX draw16_1 ?_
    have gr8 := Grow.raise hW7.grow.fresh 18 X
    have W8 := hW7.on (Grow.raise hW7.grow.fresh 18 nilV)
    have o8 := gr8.objs hsv hn
    generalize S7.raise 18 = S8 at gr8 W8 o8 ⊢
    have hn8 := Nat.lt_of_lt_of_le hn gr8.no
    obtain ⟨r9, S9, e9, w9⟩ := grpI_ok W8 vs[k].frm (by have := hb.frm; omega) (by have := hb.frm; omega) (by first | omega | (simp only [List.length_append]; omega))
    simp only [SXa, Nat.reduceEqDiff, load3, app28, conv3_85, call40, r16_15, r16_16, t3, t7, load_pb, o8, fld56_0, fld_p, Option.bind_some, Nat.add_zero, wf]
    refine callK_of e9 ?_
    have W9 := W8.then w9
    have o9 := w9.grow.objs o8 hn8
    have hn9 := Nat.lt_of_lt_of_le hn8 w9.grow.no
    obtain ⟨r10, S10, e10, w10⟩ := grpI_ok W9 vs[k].to (by have := hb.to; omega) (by have := hb.to; omega) (by first | omega | (simp only [List.length_append]; omega))
    simp only [SXa, Nat.reduceEqDiff, load3, conv3_85, call40, t7, load_pb, o9, fld56_1, fld_p, Option.bind_some, Nat.zero_add, wt]
    refine callK_of e10 ?_
    have W10 := W9.then w10
    have o10 := w10.grow.objs o9 hn9
    have hn10 := Nat.lt_of_lt_of_le hn9 w10.grow.no
    obtain ⟨r11, S11, e11, w11⟩ := grpI_ok W10 ((vs[k].name.size : Nat) : Int) (by omega) (by have := hb.name; omega) (by first | omega | (simp only [List.length_append]; omega))
    simp only [SXa, Nat.reduceEqDiff, load9, conv3_85, call40, t7, load_pb, o10, fld56_2, fld_p, Option.bind_some, Nat.zero_add, len9, len9s, wn]
    refine callK_of e11 ?_
    have W11 := W10.then w11
    have o11 := w11.grow.objs o10 hn10
    have hn11 := Nat.lt_of_lt_of_le hn10 w11.grow.no
    have gs := gr8.trans ((w9.two w10).two w11).grow (.inl rfl)
    obtain ⟨r12, S12, e12, W12, k12⟩ := strapp W11 (w11.id0 W10.grow) vs[k].name (by have := hb.name; omega) (by simp only [List.length_append]; omega)
    have o12 := k12.objs o11 hn11
    have hn12 := Nat.lt_of_lt_of_le hn11 k12.no
    simp only [SXa, Nat.reduceEqDiff, load9, t7, load_pb, o11, fld56_2, fld_p, Option.bind_some, Nat.zero_add, safe_cons, safe_nil, safe_sc, safe_grow hn gs, Bool.and_self, e12]
    refine ends_base (fun tm => getT tm 1 = .ptr S.no 0 ∧ getT tm 3 = r12 ∧ getT tm 6 = .sc (.int .i64 (k : Int)) ∧ getT tm 7 = .ptr S'.no 0) (by simp [getT_setD, t1, t6, t7]) ?_
    clear t1 t3 t6 t7
    rintro tm ⟨t1, t3, t6, t7⟩
    refine e_drawC noX draw16_2 ?_
    have gr13 := Grow.raise W12.grow.fresh 18 r12
    have W13 := W12.on (Grow.raise W12.grow.fresh 18 nilV)
    have o13 := gr13.objs o12 hn12
    generalize S12.raise 18 = S13 at gr13 W13 o13 ⊢
    have hn13 := Nat.lt_of_lt_of_le hn12 gr13.no
    obtain ⟨r14, S14, e14, w14⟩ := grpI_ok W13 vs[k].kind (by have := hb.kind; omega) (by have := hb.kind; omega) (by first | omega | (simp only [List.length_append]; omega))
    simp only [SXa, Nat.reduceEqDiff, load3, app28, conv3_85, call40, r16_17, r16_18, t3, t7, load_pb, o13, fld56_3, fld_p, Option.bind_some, Nat.zero_add, wkd]
    refine callK_of e14 ?_
    have W14 := W13.then w14
    have o14 := w14.grow.objs o13 hn13
    have hn14 := Nat.lt_of_lt_of_le hn13 w14.grow.no
    obtain ⟨r15, S15, e15, w15⟩ := grpI_ok W14 vs[k].n (by have := hb.n; omega) (by have := hb.n; omega) (by first | omega | (simp only [List.length_append]; omega))
    simp only [SXa, Nat.reduceEqDiff, load3, conv3_85, call40, t7, load_pb, o14, fld56_4, fld_p, Option.bind_some, Nat.zero_add, wn2]
    refine callK_of e15 ?_
    have W15 := W14.then w15
    have o15 := w15.grow.objs o14 hn14
    have hn15 := Nat.lt_of_lt_of_le hn14 w15.grow.no
    obtain ⟨r16, S16, e16, w16⟩ := grpI_ok W15 ((vs[k].typ.size : Nat) : Int) (by omega) (by have := hb.typ; omega) (by first | omega | (simp only [List.length_append]; omega))
    simp only [SXa, Nat.reduceEqDiff, load9, conv3_85, call40, t7, load_pb, o15, fld56_5, fld_p, Option.bind_some, Nat.zero_add, len9, len9s, wty]
    refine callK_of e16 ?_
    have W16 := W15.then w16
    have o16 := w16.grow.objs o15 hn15
    have hn16 := Nat.lt_of_lt_of_le hn15 w16.grow.no
    have gs2 := gr13.trans ((w14.two w15).two w16).grow (.inl rfl)
    obtain ⟨r17, S17, e17, W17, k17⟩ := strapp W16 (w16.id0 W15.grow) vs[k].typ hb.typ (by simp only [List.length_append]; omega)
    simp only [SXa, Nat.reduceEqDiff, load9, t1, t3, t6, t7, load_pb, o16, fld56_5, fld_p, Option.bind_some, Nat.zero_add, safe_cons, safe_nil, safe_sc, safe_grow hn12 gs2, Bool.and_self, e17, wk]
    refine ⟨vs.length - (k + 1), by omega, k + 1, r17, by omega, rfl, ?_, by first | rfl | simp []⟩
    rw [List.take_succ_eq_append_getElem hlt, List.flatMap_append]
    have e : (L ++ ((vs.take k).flatMap encW ++ [vs[k]].flatMap encW)) = (L ++ (vs.take k).flatMap encW) ++ encW vs[k] := by simp
    rw [e, hM]
    simpa [encW, txtF, eI] using W17
end Go.Proofs.Ytmmpcomfhcpicaa
