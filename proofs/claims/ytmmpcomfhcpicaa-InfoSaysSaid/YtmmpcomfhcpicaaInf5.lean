/-
  Package info: Put: the walk.
-/
import Derived.Test.YtmmpcomfhcpicaaInf4
set_option linter.unusedSimpArgs false
set_option linter.unusedVariables false
set_option maxRecDepth 100000
namespace Go.Proofs.Ytmmpcomfhcpicaa
open Go.Abs
def stopI (s : StopV) : List Int := [s.pc, s.at_, s.line, s.col]
def encS (s : StopV) : List UInt8 := (stopI s).flatMap numI
def encW (v : VarV) : List UInt8 := numI v.frm ++ numI v.to ++ txtF v.name ++ numI v.kind ++ numI v.n ++ txtF v.typ
def putF (ss : List StopV) (vs : List VarV) : List UInt8 := numS ss.length ++ ss.flatMap encS ++ numS vs.length ++ vs.flatMap encW
theorem pw9 : (128 : Nat) ^ (8 + 1) = 2 ^ 63 := by decide
theorem numI_len {z : Int} (h : z < 2 ^ 63) : (numI z).length ≤ 9 := numS_len 8 _ (by rw [pw9]; omega)
theorem flat_le {α β : Type} {f : α → List β} {c : Nat} : ∀ (l : List α), (∀ x ∈ l, (f x).length ≤ c) → (l.flatMap f).length ≤ l.length * c
  | [], _ => by simp
  | x :: r, h => by
    have h1 := flat_le r (fun y hy => h y (List.mem_cons_of_mem _ hy))
    have h2 := h x (List.mem_cons_self ..)
    rw [List.flatMap_cons, List.length_append, List.length_cons, Nat.succ_mul]
    omega
theorem inB_of {n a b : Int} (h : inB n a b = true) : a ≤ n ∧ n ≤ b := by simpa [inB] using h
theorem stop_bd {s : StopV} (h : stopB s = true) : ∀ z ∈ stopI s, 0 ≤ z ∧ z ≤ 2147483647 := by
  simp only [stopB, Bool.and_eq_true] at h
  obtain ⟨⟨⟨h1, h2⟩, h3⟩, h4⟩ := h
  have := inB_of h1
  have := inB_of h2
  have := inB_of h3
  have := inB_of h4
  intro z hz
  simp only [stopI, List.mem_cons, List.not_mem_nil, or_false] at hz
  rcases hz with rfl | rfl | rfl | rfl <;> omega
structure VarBd (v : VarV) : Prop where
  frm : 0 ≤ v.frm ∧ v.frm ≤ 2147483647
  to : 0 ≤ v.to ∧ v.to ≤ 2147483647
  name : v.name.size ≤ 4000
  kind : 1 ≤ v.kind ∧ v.kind ≤ 3
  n : 0 ≤ v.n ∧ v.n ≤ 65535
  typ : v.typ.size ≤ 4000000
theorem var_bd {v : VarV} (h : varB v = true) : VarBd v := by
  simp only [varB, Bool.and_eq_true, decide_eq_true_eq] at h
  obtain ⟨⟨⟨⟨⟨⟨h1, h2⟩, h3⟩, h4⟩, h5⟩, h6⟩, h7⟩ := h
  have := inB_of h4
  exact ⟨inB_of h1, inB_of h2, by omega, inB_of h5, inB_of h6, h7⟩
theorem encS_len {s : StopV} (h : stopB s = true) : (encS s).length ≤ 4 * 9 := flat_le (stopI s) fun z hz => numI_len (by have := stop_bd h z hz; omega)
theorem encW_len {v : VarV} (h : VarBd v) : (encW v).length ≤ 4004100 := by
  have h1 := numI_len (z := v.frm) (by have := h.frm; omega)
  have h2 := numI_len (z := v.to) (by have := h.to; omega)
  have h3 := numI_len (z := v.kind) (by have := h.kind; omega)
  have h4 := numI_len (z := v.n) (by have := h.n; omega)
  have h5 := numS_len 8 v.name.size (by rw [pw9]; have := h.name; omega)
  have h6 := numS_len 8 v.typ.size (by rw [pw9]; have := h.typ; omega)
  have h7 : v.name.data.toList.length = v.name.size := rfl
  have h8 : v.typ.data.toList.length = v.typ.size := rfl
  have := h.name
  have := h.typ
  simp only [encW, txtF, List.length_append, h7, h8]
  omega
theorem GoodT.stop {ss : List StopV} {vs : List VarV} (h : GoodT ss vs) {s : StopV} (hs : s ∈ ss) : stopB s = true := by
  obtain ⟨k, hk, rfl⟩ := List.getElem_of_mem hs
  exact (h.1.1 k hk).1
theorem GoodT.var {ss : List StopV} {vs : List VarV} (h : GoodT ss vs) {v : VarV} (hv : v ∈ vs) : varB v = true := by
  obtain ⟨k, hk, rfl⟩ := List.getElem_of_mem ((srtV_perm vs).mem_iff.2 hv)
  exact (h.2.2 k hk).1
theorem bs57q (a b c d : Int) (S : St) : buildSliceA E 57 4 [(0, .sc (.int .i64 a)), (1, .sc (.int .i64 b)), (2, .sc (.int .i64 c)), (3, .sc (.int .i64 d))] S = some (.vec 1 1 [.sc (.int .i64 a), .sc (.int .i64 b), .sc (.int .i64 c), .sc (.int .i64 d)], S) := by kernel_rfl
theorem idx_ints (q : List Int) {j : Nat} (hj : j < q.length) (S : St) : idxV 1 (.vec 1 1 (q.map fun z => .sc (.int .i64 z))) (some (j : Int)) S = some (.eptr [.sc (.int .i64 q[j])] 0, S) := (IsV.vec 1 1 _).idx (v := .sc (.int .i64 q[j])) (by simp [hj]) rfl S
set_option maxHeartbeats 16000000 in
theorem put_ok (ss : List StopV) (vs : List VarV) (x y : AV) (hx : IsV 4 x (stopsA ss)) (hy : IsV 6 y (varsA vs)) (hs : ss.length ≤ 2 ^ 63 - 1) (hv : vs.length ≤ 2 ^ 63 - 1) (S : St) (hS : S.Fresh) :
    ∃ r S', EvA E 10 [.agg [x, y]] S r S' ∧ ((GoodT ss vs ∧ IsV 1 r (byteVals (putF ss vs))) ∨ (¬ GoodT ss vs ∧ r = nilV)) ∧ Grow S S' nilV := by
  refine ev10 rfl ?_
  have g0 := (Grow.refl hS nilV).born 25 [x, y]
  have h0 : (S.born 25 [x, y]).obj S.no = some [x, y] := by simp [born_obj]
  have hn0 : S.no < (S.born 25 [x, y]).no := Nat.lt_succ_self _
  simp only [SXa, reduceCtorEq, Nat.reduceEqDiff, Nat.reduceAdd, load25, r10_0, r10_1, r10_2, r10_3, r10_4, r10_15, r10_16, r10_25, p10, op_box, cells_agg]
  generalize S.born 25 [x, y] = S0 at g0 h0 hn0
  simp only [SXa, reduceCtorEq, Nat.reduceEqDiff, Nat.reduceAdd, call9, load_pb, h0, Option.bind_some, Nat.zero_add, Nat.le_refl]
  obtain ⟨r, S1, e1, ⟨b, rfl, hb⟩, q1⟩ := good9_ok ss vs x y hx hy hs hv S0 g0.fresh
  refine callK_of e1 ?_
  have g1 := g0.two q1
  have h1 := q1.objs h0 hn0
  have hn1 : S.no < S1.no := Nat.lt_of_lt_of_le hn0 q1.no
  cases b with
  | false =>
    simp only [SXa, reduceCtorEq, Nat.reduceEqDiff]
    exact ⟨.inr (fun h => by have := hb.2 h; cases this), g1⟩
  | true =>
  have hg : GoodT ss vs := hb.1 rfl
  have hsl : ss.length ≤ 10000 := hg.1.2
  have hvl : vs.length ≤ 10000 := hg.2.1
  have bl1 := flat_le (f := encS) (c := 36) ss (fun s h => encS_len (hg.stop h))
  have hn9 := numI_len (z := ((ss.length : Nat) : Int)) (by omega)
  have hn9' := numI_len (z := ((vs.length : Nat) : Int)) (by omega)
  have eI : ∀ n : Nat, numI (n : Int) = numS n := fun n => by simp [numI]
  simp only [SXa, reduceCtorEq, Nat.reduceEqDiff, load22, len22, call32, load_pb, h1, fld25_0, fld_p, Option.bind_some, Nat.add_zero, lenS_ hx]
  obtain ⟨r2, S2, e2, w2⟩ := numI_ok (Wrt.start (Grow.refl q1.fresh nilV)) ((ss.length : Nat) : Int) (by omega) (by omega) (by simp)
  refine callK_of e2 ?_
  have W2 := (Wrt.start (Grow.refl q1.fresh nilV)).then w2
  have h2 := W2.grow.objs h1 hn1
  simp only [SXa, reduceCtorEq, Nat.reduceEqDiff, load22, len22, load_pb, h2, fld25_0, fld_p, Option.bind_some, Nat.add_zero, lenS_ hx]
  refine e_loop (fun tm S' N => ∃ (k : Nat) (X : AV), k ≤ ss.length ∧ N = ss.length - k ∧ Wrt S1 S' X (numI ((ss.length : Nat) : Int) ++ (ss.take k).flatMap encS) ∧ getT tm 1 = .ptr S.no 0 ∧ getT tm 3 = X ∧ getT tm 18 = x ∧ getT tm 19 = .sc (.int .i64 (ss.length : Nat)) ∧ getT tm 20 = .sc (.int .i64 (k : Int))) ss.length
    ⟨0, r2, by omega, by omega, by simpa using W2, by simp [getT_setD]⟩ ?_
  rintro tm S' N ⟨k, X, hk, rfl, hW, t1, t3, t18, t19, t20⟩
  by_cases hlt : k < ss.length
  case pos =>
    have wk := wrapK hlt hs
    have hgk : stopB ss[k] = true := hg.stop (List.getElem_mem hlt)
    have hz := stop_bd hgk
    have blk := flat_le (f := encS) (c := 36) (ss.take k) (fun s h => encS_len (hg.stop (List.mem_of_mem_take h)))
    have hG := hW.grow
    have gq := ((Grow.refl hG.fresh nilV).born 41 z41).put S'.no (.cells (stopA ss[k])) (Nat.le_refl _)
    have hsv : ((S'.born 41 z41).put S'.no (.cells (stopA ss[k]))).obj S'.no = some (stopA ss[k]) := by simp [put_obj]
    simp only [z41, stopA] at gq hsv
    simp only [SXa, Nat.reduceEqDiff, Nat.reduceAdd, index22, load41, store41, b10_14, r10_5, r10_6, r10_7, r10_13, t18, t19, t20, dec_lt hlt, idxS_ hx hlt, alloc41, z41, stopA, st41, born_obj, Option.bind_some, Nat.le_refl, List.drop_nil, Nat.zero_add]
    generalize ((S'.born 41 [.sc (.int .i64 0), .sc (.int .i64 0), .sc (.int .i64 0), .sc (.int .i64 0)]).put S'.no (.cells [.sc (.int .i64 ss[k].pc), .sc (.int .i64 ss[k].at_), .sc (.int .i64 ss[k].line), .sc (.int .i64 ss[k].col)])) = S3 at gq hsv
    have hW3 := hW.on gq
    have hl3 : ∀ q : List Int, (∀ z ∈ q, 0 ≤ z ∧ z ≤ 2147483647) → q.length ≤ 4 → (numI ((ss.length : Nat) : Int) ++ (ss.take k).flatMap encS ++ q.flatMap numI).length ≤ 2 ^ 41 := fun q hq hq4 => by
      have b1 := flat_le (f := numI) (c := 9) q (fun z h => numI_len (by have := hq z h; omega))
      have : (ss.take k).length ≤ 10000 := by simp; omega
      simp only [List.length_append]
      omega
    simp only [SXa, Nat.reduceEqDiff, Nat.reduceAdd, Nat.reduceBEq, load3, bs57, len57, load_pb, hsv, fld41_0, fld41_1, fld41_2, fld41_3, fld_p, Option.bind_some, Nat.add_zero, Nat.zero_add, bs57q]
    have hq4 : (stopI ss[k]).length = 4 := rfl
    have hqe : encS ss[k] = (stopI ss[k]).flatMap numI := rfl
    have hqv : AV.vec 1 1 [.sc (.int .i64 ss[k].pc), .sc (.int .i64 ss[k].at_), .sc (.int .i64 ss[k].line), .sc (.int .i64 ss[k].col)] = .vec 1 1 ((stopI ss[k]).map fun z => .sc (.int .i64 z)) := rfl
    rw [hqv]
    generalize hq : stopI ss[k] = q at hz hq4 hqe
    refine ends_base (fun tm => getT tm 1 = .ptr S.no 0 ∧ getT tm 3 = X ∧ getT tm 18 = x ∧ getT tm 19 = .sc (.int .i64 (ss.length : Nat)) ∧ getT tm 20 = .sc (.int .i64 (k : Int)) ∧ getT tm 32 = .vec 1 1 (q.map fun z => .sc (.int .i64 z)) ∧ getT tm 33 = .sc (.int .i64 4) ∧ getT tm 34 = .sc (.int .i64 0)) (by simp [getT_setD, t1, t3, t18, t19, t20]) ?_
    rintro tm ⟨t1, t3, t18, t19, t20, t32, t33, t34⟩
    refine e_loop (fun tm S' N => ∃ (j : Nat) (X : AV), j ≤ 4 ∧ N = 4 - j ∧ Wrt S1 S' X (numI ((ss.length : Nat) : Int) ++ (ss.take k).flatMap encS ++ (q.take j).flatMap numI) ∧ getT tm 1 = .ptr S.no 0 ∧ getT tm 3 = X ∧ getT tm 18 = x ∧ getT tm 19 = .sc (.int .i64 (ss.length : Nat)) ∧ getT tm 20 = .sc (.int .i64 (k : Int)) ∧ getT tm 32 = .vec 1 1 (q.map fun z => .sc (.int .i64 z)) ∧ getT tm 33 = .sc (.int .i64 4) ∧ getT tm 34 = .sc (.int .i64 (j : Int))) 4
      ⟨0, X, by omega, by omega, by simpa using hW3, t1, t3, t18, t19, t20, t32, t33, t34⟩ ?_
    rintro tm S4 N ⟨j, X4, hj, rfl, hW4, t1, t3, t18, t19, t20, t32, t33, t34⟩
    by_cases hj4 : j < 4
    · have c1 : decide ((j : Int) < 4) = true := by simp; omega
      have hjq : j < q.length := by omega
      have wj : IntKind.i64.wrap ((j : Int) + 1) = ((j + 1 : Nat) : Int) := by rw [wrap_i64 (by omega) (by omega)]; omega
      simp only [SXa, Nat.reduceEqDiff, load3, index57, call32, b10_12, r10_8, r10_9, r10_10, r10_11, t3, t32, t33, t34, c1, idx_ints q hjq]
      obtain ⟨r5, S5, e5, w5⟩ := numI_ok hW4 q[j] (hz _ (List.getElem_mem hjq)).1 (by have := (hz _ (List.getElem_mem hjq)).2; omega) (hl3 _ (fun z h => hz z (List.mem_of_mem_take h)) (by simp; omega))
      refine callK_of e5 ?_
      simp only [SXa, Nat.reduceEqDiff, t1, t3, t18, t19, t20, t32, t33, t34, wj]
      refine ⟨4 - (j + 1), by omega, j + 1, r5, by omega, rfl, ?_, by first | rfl | simp⟩
      have := hW4.then w5
      rw [List.append_assoc] at this
      rw [List.take_succ_eq_append_getElem hjq, List.flatMap_append]
      simpa using this
    · have c1 : decide ((j : Int) < 4) = false := by simp; omega
      simp only [SXa, reduceCtorEq, Nat.reduceEqDiff, b10_12, r10_8, r10_9, r10_10, r10_11, t1, t3, t18, t19, t20, t33, t34, c1, wk]
      refine ⟨ss.length - (k + 1), by omega, k + 1, X4, by omega, rfl, ?_, by first | rfl | simp⟩
      have hj' : j = 4 := by omega
      have : q.take j = q := by rw [hj']; exact List.take_of_length_le (by omega)
      rw [this, ← hqe] at hW4
      rw [List.take_succ_eq_append_getElem hlt, List.flatMap_append]
      simpa using hW4
  have hke : k = ss.length := by omega
  have hW' : Wrt S1 S' X (numI ((ss.length : Nat) : Int) ++ ss.flatMap encS) := by
    rw [hke, List.take_length] at hW
    exact hW
  have h3 := hW'.grow.objs h1 hn1
  simp only [SXa, Nat.reduceEqDiff, load23, len23, call32, b10_14, r10_5, r10_6, r10_7, r10_13, t1, t3, t19, t20, dec_nlt hlt, load_pb, h3, fld25_1, fld_p, Option.bind_some, Nat.zero_add, lenV_ hy]
  obtain ⟨r6, S6, e6, w6⟩ := numI_ok hW' ((vs.length : Nat) : Int) (by omega) (by omega) (by simp only [List.length_append]; omega)
  refine callK_of e6 ?_
  have W6 := hW'.then w6
  have h6 := W6.grow.objs h1 hn1
  generalize hL : numI ((ss.length : Nat) : Int) ++ ss.flatMap encS ++ numI ((vs.length : Nat) : Int) = L at W6
  have hLl : L.length ≤ 400000 := by rw [← hL]; simp only [List.length_append]; omega
  simp only [SXa, Nat.reduceEqDiff, load23, len23, t1, load_pb, h6, fld25_1, fld_p, Option.bind_some, Nat.zero_add, lenV_ hy]
  refine e_loop (fun tm S' N => ∃ (k : Nat) (X : AV), k ≤ vs.length ∧ N = vs.length - k ∧ Wrt S1 S' X (L ++ (vs.take k).flatMap encW) ∧ getT tm 3 = X ∧ getT tm 49 = y ∧ getT tm 50 = .sc (.int .i64 (vs.length : Nat)) ∧ getT tm 51 = .sc (.int .i64 (k : Int))) vs.length
    ⟨0, r6, by omega, by omega, by simpa using W6, by simp [getT_setD]⟩ ?_
  rintro tm S' N ⟨k, X, hk, rfl, hW, t3, t49, t50, t51⟩
  by_cases hlt : k < vs.length
  case neg =>
    have hke : k = vs.length := by omega
    have hWe : Wrt S1 S' X (putF ss vs) := by
      rw [hke, List.take_length, ← hL, eI, eI] at hW
      exact hW
    simp only [SXa, Nat.reduceEqDiff, b10_24, r10_17, r10_18, r10_23, t3, t50, t51, dec_nlt hlt]
    exact ⟨.inl ⟨hg, hWe.own.is⟩, g1.two hWe.grow⟩
  case pos =>
    have wk := wrapK hlt hv
    have hb := var_bd (hg.var (List.getElem_mem hlt))
    have blk := flat_le (f := encW) (c := 4004100) (vs.take k) (fun s h => encW_len (var_bd (hg.var (List.mem_of_mem_take h))))
    have hG := hW.grow
    have gq := ((Grow.refl hG.fresh nilV).born 43 z43).put S'.no (.cells (varA vs[k])) (Nat.le_refl _)
    have hsv : ((S'.born 43 z43).put S'.no (.cells (varA vs[k]))).obj S'.no = some (varA vs[k]) := by simp [put_obj]
    have hn : S'.no < ((S'.born 43 z43).put S'.no (.cells (varA vs[k]))).no := Nat.lt_succ_self _
    simp only [z43, varA] at gq hsv hn
    simp only [SXa, Nat.reduceEqDiff, Nat.reduceAdd, index23, load43, store43, b10_24, r10_17, r10_18, r10_23, t49, t50, t51, dec_lt hlt, idxV_ hy hlt, alloc43, z43, varA, st43, born_obj, Option.bind_some, Nat.le_refl, List.drop_nil, Nat.zero_add]
    generalize ((S'.born 43 [.sc (.int .i64 0), .sc (.int .i64 0), .sc (.string ⟨#[]⟩), .sc (.int .i64 0), .sc (.int .i64 0), .sc (.string ⟨#[]⟩)]).put S'.no (.cells [.sc (.int .i64 vs[k].frm), .sc (.int .i64 vs[k].to), .sc (.string vs[k].name), .sc (.int .i64 vs[k].kind), .sc (.int .i64 vs[k].n), .sc (.string vs[k].typ)])) = S7 at gq hsv hn
    have hW7 := hW.on gq
    have hkl : (vs.take k).length ≤ 10000 := by simp; omega
    have hl7 : (L ++ (vs.take k).flatMap encW).length ≤ 2 ^ 41 - 10000000 := by
      simp only [List.length_append]
      omega
    generalize hM : L ++ (vs.take k).flatMap encW = M at hW7 hl7
    have n8 := numI_len (z := vs[k].frm) (by have := hb.frm; omega)
    have n9 := numI_len (z := vs[k].to) (by have := hb.to; omega)
    have n10 : (txtF vs[k].name).length ≤ 4009 := by
      have := numS_len 8 vs[k].name.size (by rw [pw9]; have := hb.name; omega)
      have h7 : vs[k].name.data.toList.length = vs[k].name.size := rfl
      have := hb.name
      simp only [txtF, List.length_append, h7]
      omega
    have n11 := numI_len (z := vs[k].kind) (by have := hb.kind; omega)
    have n12 := numI_len (z := vs[k].n) (by have := hb.n; omega)
    refine ends_base (fun tm => getT tm 3 = X ∧ getT tm 9 = .ptr S'.no 0 ∧ getT tm 49 = y ∧ getT tm 50 = .sc (.int .i64 (vs.length : Nat)) ∧ getT tm 51 = .sc (.int .i64 (k : Int))) (by simp [getT_setD, t3, t49, t50, t51]) ?_
    rintro tm ⟨t3, t9, t49, t50, t51⟩
    refine e_drawC noX draw10_0 ?_
    have gr8 := Grow.raise hW7.grow.fresh 11 X
    have W8 := hW7.on (Grow.raise hW7.grow.fresh 11 nilV)
    have o8 := gr8.objs hsv hn
    generalize S7.raise 11 = S8 at gr8 W8 o8 ⊢
    have hn8 := Nat.lt_of_lt_of_le hn gr8.no
    obtain ⟨r9, S9, e9, w9⟩ := numI_ok W8 vs[k].frm hb.frm.1 (by have := hb.frm; omega) (by omega)
    simp only [SXa, Nat.reduceEqDiff, load3, call32, call33, r10_19, r10_20, t3, t9, load_pb, o8, fld43_0, fld_p, Option.bind_some, Nat.add_zero]
    refine callK_of e9 ?_
    have W9 := W8.then w9
    have o9 := w9.grow.objs o8 hn8
    have hn9 := Nat.lt_of_lt_of_le hn8 w9.grow.no
    obtain ⟨r10, S10, e10, w10⟩ := numI_ok W9 vs[k].to hb.to.1 (by have := hb.to; omega) (by simp only [List.length_append]; omega)
    simp only [SXa, Nat.reduceEqDiff, load3, call32, t9, load_pb, o9, fld43_1, fld_p, Option.bind_some, Nat.zero_add]
    refine callK_of e10 ?_
    have W10 := W9.then w10
    have o10 := w10.grow.objs o9 hn9
    have gs := gr8.trans (w9.two w10).grow (.inl rfl)
    simp only [SXa, Nat.reduceEqDiff, load9, t9, load_pb, o10, fld43_2, fld_p, Option.bind_some, Nat.zero_add, safe_cons, safe_nil, safe_grow hn gs, Bool.and_self]
    obtain ⟨r11, S11, e11, w11⟩ := text_ok W10 vs[k].name (by have := hb.name; omega) (by simp only [List.length_append]; omega)
    refine callK_of e11 ?_
    have W11 := W10.then w11
    have o11 := w11.grow.objs o10 (Nat.lt_of_lt_of_le hn9 w10.grow.no)
    have hn11 := Nat.lt_of_lt_of_le (Nat.lt_of_lt_of_le hn9 w10.grow.no) w11.grow.no
    simp only [SXa, Nat.reduceEqDiff]
    refine ends_base (fun tm => getT tm 3 = r11 ∧ getT tm 9 = .ptr S'.no 0 ∧ getT tm 49 = y ∧ getT tm 50 = .sc (.int .i64 (vs.length : Nat)) ∧ getT tm 51 = .sc (.int .i64 (k : Int))) (by simp [getT_setD, t9, t49, t50, t51]) ?_
    clear t3 t9 t49 t50 t51
    rintro tm ⟨t3, t9, t49, t50, t51⟩
    refine e_drawC noX draw10_1 ?_
    have gr12 := Grow.raise W11.grow.fresh 11 r11
    have W12 := W11.on (Grow.raise W11.grow.fresh 11 nilV)
    have o12 := gr12.objs o11 hn11
    generalize S11.raise 11 = S12 at gr12 W12 o12 ⊢
    have hn12 := Nat.lt_of_lt_of_le hn11 gr12.no
    obtain ⟨r13, S13, e13, w13⟩ := numI_ok W12 vs[k].kind (by have := hb.kind; omega) (by have := hb.kind; omega) (by simp only [List.length_append]; omega)
    simp only [SXa, Nat.reduceEqDiff, load3, call32, call33, r10_21, r10_22, t3, t9, load_pb, o12, fld43_3, fld_p, Option.bind_some, Nat.zero_add]
    refine callK_of e13 ?_
    have W13 := W12.then w13
    have o13 := w13.grow.objs o12 hn12
    have hn13 := Nat.lt_of_lt_of_le hn12 w13.grow.no
    obtain ⟨r14, S14, e14, w14⟩ := numI_ok W13 vs[k].n hb.n.1 (by have := hb.n; omega) (by simp only [List.length_append]; omega)
    simp only [SXa, Nat.reduceEqDiff, load3, call32, t9, load_pb, o13, fld43_4, fld_p, Option.bind_some, Nat.zero_add]
    refine callK_of e14 ?_
    have W14 := W13.then w14
    have o14 := w14.grow.objs o13 hn13
    have gs2 := gr12.trans (w13.two w14).grow (.inl rfl)
    simp only [SXa, Nat.reduceEqDiff, load9, t9, load_pb, o14, fld43_5, fld_p, Option.bind_some, Nat.zero_add, safe_cons, safe_nil, safe_grow hn11 gs2, Bool.and_self]
    obtain ⟨r15, S15, e15, w15⟩ := text_ok W14 vs[k].typ hb.typ (by simp only [List.length_append]; omega)
    refine callK_of e15 ?_
    have W15 := W14.then w15
    simp only [SXa, Nat.reduceEqDiff, t3, t49, t50, t51, wk]
    refine ⟨vs.length - (k + 1), by omega, k + 1, r15, by omega, rfl, ?_, by first | rfl | simp⟩
    rw [List.take_succ_eq_append_getElem hlt, List.flatMap_append]
    have e : (L ++ ((vs.take k).flatMap encW ++ [vs[k]].flatMap encW)) = (L ++ (vs.take k).flatMap encW) ++ encW vs[k] := by simp
    rw [e, hM]
    simpa [encW] using W15
end Go.Proofs.Ytmmpcomfhcpicaa
