/-
  Chapter 16's law InfoSays: the walk.
-/
import Derived.Test.YtmmpcomfhcpicaaRef9
set_option linter.unusedSimpArgs false
set_option linter.unusedVariables false
set_option maxRecDepth 100000
namespace Go.Proofs.Ytmmpcomfhcpicaa
open Go.Abs
set_option maxHeartbeats 64000000 in
theorem infosays_ok (ss : List StopV) (vs : List VarV) (x y : AV) (hx : IsV 4 x (stopsA ss)) (hy : IsV 6 y (varsA vs)) (b : List UInt8) (bx : AV) (hb : IsV 1 bx (byteVals b)) (pc ln : Int) : ∃ r S', EvA E 5 [.agg [x, y], bx, .sc (.int .i64 pc), .sc (.int .i64 ln)] Abs.S0 r S' ∧ r = .sc (.bool true) := by
  refine ev5 rfl ?_
  obtain ⟨Sa, ea, ka⟩ := awake1_ok x y
  have oa : Sa.obj 0 = some [x, y] := ka.objs (l := 0) (cs := [x, y]) (by simp [born_obj, Abs.S0]) (by simp [born_no])
  have na : 0 < Sa.no := ka.no
  have z : Abs.S0.no = 0 := rfl
  simp only [SXa, reduceCtorEq, Nat.reduceAdd, call7, r5_0, r5_1, r5_2, r5_3, r5_4, p5, op_box, cells_agg, z]
  refine callK_of ea ?_
  refine ends_base (fun tm => getT tm 1 = bx ∧ getT tm 2 = .sc (.int .i64 pc) ∧ getT tm 3 = .sc (.int .i64 ln) ∧ getT tm 4 = .ptr 0 0 ∧ getT tm 24 = .sc (.bool true)) (by simp [getT_setD]) ?_
  rintro tm ⟨t1, t2, t3, t4, t24⟩
  obtain ⟨rh, Sh, eh, ⟨bh, rfl, hh⟩, kh⟩ := heavy_ok ss vs x y hx hy Sa ka.fresh
  have oh := kh.objs oa na
  have nh := Nat.lt_of_lt_of_le na kh.no
  simp only [SXa, Nat.reduceEqDiff, Nat.reduceAdd, load25, call8, t4, t24, load_pb, oa, Option.bind_some, Nat.zero_add, Nat.le_refl]
  refine callK_of eh ?_
  refine ends_base (fun tm => getT tm 1 = bx ∧ getT tm 2 = .sc (.int .i64 pc) ∧ getT tm 3 = .sc (.int .i64 ln) ∧ getT tm 4 = .ptr 0 0 ∧ getT tm 27 = .sc (.bool bh)) (by simp [getT_setD, t1, t2, t3, t4]) ?_
  clear t1 t2 t3 t4 t24 tm
  rintro tm ⟨t1, t2, t3, t4, t27⟩
  cases bh with
  | true =>
    simp only [SXa, Nat.reduceEqDiff, t27]
  | false =>
  have hnh : ¬ HeavyT ss vs := fun h => by have := hh.2 h; cases this
  have hsl : ss.length ≤ 40 := by
    have : ¬ 40 < ss.length := fun h => hnh (.inl h)
    omega
  have hvl : vs.length ≤ 40 := by
    have : ¬ 40 < vs.length := fun h => hnh (.inr (.inl h))
    omega
  by_cases hbl : 600 < b.length
  · have c1 : decide ((600 : Int) < ((b.length : Nat) : Int)) = true := by simp only [decide_eq_true_eq]; omega
    simp only [SXa, Nat.reduceEqDiff, len28, t1, t27, hb.len, c1]
  have c1 : decide ((600 : Int) < ((b.length : Nat) : Int)) = false := by simp only [decide_eq_false_iff_not]; omega
  -- the table as the document's own
  obtain ⟨ru, Su, eu, ⟨U1, U2, rfl, hU1, hU2⟩, ku⟩ := own_ok ss vs x y hx hy (by omega) (by omega) Sh kh.fresh
  simp only [SXa, Nat.reduceEqDiff, Nat.reduceAdd, load25, len28, call13, r5_5, r5_6, t1, t4, t27, hb.len, c1, load_pb, oh, Option.bind_some, Nat.zero_add, Nat.le_refl]
  refine callK_of eu ?_
  refine ends_base (fun tm => getT tm 1 = bx ∧ getT tm 2 = .sc (.int .i64 pc) ∧ getT tm 3 = .sc (.int .i64 ln) ∧ getT tm 4 = .ptr 0 0 ∧ getT tm 34 = .agg [U1, U2]) (by simp [getT_setD, t1, t2, t3, t4]) ?_
  clear t1 t2 t3 t4 t27 tm
  rintro tm ⟨t1, t2, t3, t4, t34⟩
  have ou := ku.objs oh nh
  have nu := Nat.lt_of_lt_of_le nh ku.no
  have gv : Grow Su ((Su.born 37 [nilV, nilV]).put Su.no (.cells [U1, U2])) nilV := ((Grow.refl ku.fresh nilV).born _ _).put _ _ (Nat.le_refl _)
  have wv : ((Su.born 37 [nilV, nilV]).put Su.no (.cells [U1, U2])).obj Su.no = some [U1, U2] := by simp [put_obj]
  have nv : Su.no < ((Su.born 37 [nilV, nilV]).put Su.no (.cells [U1, U2])).no := Nat.lt_succ_self _
  simp only [SXa, Nat.reduceEqDiff, Nat.reduceAdd, store37, call11, t1, t34, alloc37, st25 (okV hU1) (okV hU2), born_obj, Option.bind_some, Nat.le_refl, List.drop_nil]
  generalize (Su.born 37 [nilV, nilV]).put Su.no (.cells [U1, U2]) = Sv at gv wv nv
  have ov := gv.objs ou nu
  have nv0 := Nat.lt_of_lt_of_le nu gv.no
  -- what the bytes are read as
  obtain ⟨rg, Sg, eg, ⟨X1, X2, err, rfl, hR⟩, kg⟩ := get_ok b (by omega) bx hb Sv gv.fresh
  refine callK_of eg ?_
  refine ends_base (fun tm => getT tm 1 = bx ∧ getT tm 2 = .sc (.int .i64 pc) ∧ getT tm 3 = .sc (.int .i64 ln) ∧ getT tm 4 = .ptr 0 0 ∧ getT tm 9 = .ptr Su.no 0 ∧ getT tm 37 = .tup [.agg [X1, X2], .sc (.int .i64 err)]) (by simp [getT_setD, t1, t2, t3, t4]) ?_
  clear t1 t2 t3 t4 t34 tm
  rintro tm ⟨t1, t2, t3, t4, t9, t37⟩
  have og := kg.objs ov nv0
  have ng := Nat.lt_of_lt_of_le nv0 kg.no
  have wg := kg.objs wv nv
  have nwg := Nat.lt_of_lt_of_le nv kg.no
  have okX1 : okCell X1 = true := by rcases hR with ⟨_, _, h, _⟩ | ⟨_, _, rfl, _⟩ <;> first | exact okV h | rfl
  have okX2 : okCell X2 = true := by rcases hR with ⟨_, _, _, h⟩ | ⟨_, _, _, rfl⟩ <;> first | exact okV h | rfl
  have gh : Grow Sg ((Sg.born 25 [nilV, nilV]).put Sg.no (.cells [X1, X2])) nilV := ((Grow.refl kg.fresh nilV).born _ _).put _ _ (Nat.le_refl _)
  have vh : ((Sg.born 25 [nilV, nilV]).put Sg.no (.cells [X1, X2])).obj Sg.no = some [X1, X2] := by simp [put_obj]
  have nvh : Sg.no < ((Sg.born 25 [nilV, nilV]).put Sg.no (.cells [X1, X2])).no := Nat.lt_succ_self _
  simp only [SXa, Nat.reduceEqDiff, Nat.reduceAdd, store25, call14, r5_7, t1, t37, alloc25, st25 okX1 okX2, born_obj, Option.bind_some, Nat.le_refl, List.drop_nil]
  generalize (Sg.born 25 [nilV, nilV]).put Sg.no (.cells [X1, X2]) = Sh2 at gh vh nvh
  have oh2 := gh.objs og ng
  have nh2 := Nat.lt_of_lt_of_le ng gh.no
  have wh2 := gh.objs wg nwg
  have nwh2 := Nat.lt_of_lt_of_le nwg gh.no
  obtain ⟨rq, Sq, eq, ⟨Y1, Y2, ok, rfl, hQ⟩, kq⟩ := getq_ok b (by omega) bx hb Sh2 gh.fresh
  refine callK_of eq ?_
  refine ends_base (fun tm => getT tm 2 = .sc (.int .i64 pc) ∧ getT tm 3 = .sc (.int .i64 ln) ∧ getT tm 4 = .ptr 0 0 ∧ getT tm 9 = .ptr Su.no 0 ∧ getT tm 10 = .ptr Sg.no 0 ∧ getT tm 11 = .sc (.int .i64 err) ∧ getT tm 42 = .tup [.agg [Y1, Y2], .sc (.bool ok)]) (by simp [getT_setD, t2, t3, t4, t9]) ?_
  clear t1 t2 t3 t4 t9 t37 tm
  rintro tm ⟨t2, t3, t4, t9, t10, t11, t42⟩
  obtain ⟨sx, vx, hX1, hX2, hY1, hY2, lsx, lvx, herr⟩ := read_same hR hQ
  have oq := kq.objs oh2 nh2
  have nq := Nat.lt_of_lt_of_le nh2 kq.no
  have wq := kq.objs wh2 nwh2
  have nwq := Nat.lt_of_lt_of_le nwh2 kq.no
  have vq := kq.objs vh nvh
  have nvq := Nat.lt_of_lt_of_le nvh kq.no
  have gi : Grow Sq ((Sq.born 37 [nilV, nilV]).put Sq.no (.cells [Y1, Y2])) nilV := ((Grow.refl kq.fresh nilV).born _ _).put _ _ (Nat.le_refl _)
  have yi : ((Sq.born 37 [nilV, nilV]).put Sq.no (.cells [Y1, Y2])).obj Sq.no = some [Y1, Y2] := by simp [put_obj]
  have nyi : Sq.no < ((Sq.born 37 [nilV, nilV]).put Sq.no (.cells [Y1, Y2])).no := Nat.lt_succ_self _
  simp only [SXa, Nat.reduceEqDiff, Nat.reduceAdd, store37, t42, alloc37, st25 (okV hY1) (okV hY2), born_obj, Option.bind_some, Nat.le_refl, List.drop_nil]
  generalize (Sq.born 37 [nilV, nilV]).put Sq.no (.cells [Y1, Y2]) = Si at gi yi nyi
  have oi := gi.objs oq nq
  have ni := Nat.lt_of_lt_of_le nq gi.no
  have wi := gi.objs wq nwq
  have nwi := Nat.lt_of_lt_of_le nwq gi.no
  have vi := gi.objs vq nvq
  have nvi := Nat.lt_of_lt_of_le nvq gi.no
  refine ends_base (fun tm => getT tm 2 = .sc (.int .i64 pc) ∧ getT tm 3 = .sc (.int .i64 ln) ∧ getT tm 4 = .ptr 0 0 ∧ getT tm 9 = .ptr Su.no 0 ∧ getT tm 10 = .ptr Sg.no 0 ∧ getT tm 11 = .sc (.int .i64 err) ∧ getT tm 12 = .ptr Sq.no 0 ∧ getT tm 13 = .sc (.bool ok)) (by simp [getT_setD, t2, t3, t4, t9, t10, t11]) ?_
  clear t2 t3 t4 t9 t10 t11 t42 tm
  rintro tm ⟨t2, t3, t4, t9, t10, t11, t12, t13⟩
  refine ends_cut2 (fun tm S' => Grow Si S' nilV ∧ getT tm 2 = .sc (.int .i64 pc) ∧ getT tm 3 = .sc (.int .i64 ln) ∧ getT tm 4 = .ptr 0 0 ∧ getT tm 9 = .ptr Su.no 0 ∧ getT tm 79 = .sc (.bool false)) ?_ ?_
  · refine e_drawC noX draw5_0 ?_
    have gr := Grow.raise gi.fresh 35 nilV
    have o1 := gr.objs oi ni
    have n1 := Nat.lt_of_lt_of_le ni gr.no
    obtain ⟨ra, S2, e2, ⟨bg, rfl, hbg⟩, k2⟩ := good9_ok ss vs x y hx hy (by omega) (by omega) (Si.raise 35) gr.fresh
    simp only [SXa, Nat.reduceAdd, load25, call9, r5_8, r5_9, t4, load_pb, o1, Option.bind_some, Nat.zero_add, Nat.le_refl]
    refine callK_of e2 ?_
    refine ends_base (fun tm => getT tm 2 = .sc (.int .i64 pc) ∧ getT tm 3 = .sc (.int .i64 ln) ∧ getT tm 4 = .ptr 0 0 ∧ getT tm 9 = .ptr Su.no 0 ∧ getT tm 10 = .ptr Sg.no 0 ∧ getT tm 11 = .sc (.int .i64 err) ∧ getT tm 12 = .ptr Sq.no 0 ∧ getT tm 13 = .sc (.bool ok) ∧ getT tm 46 = .sc (.bool bg)) (by simp [getT_setD, t2, t3, t4, t9, t10, t11, t12, t13]) ?_
    clear t2 t3 t4 t9 t10 t11 t12 t13 tm
    rintro tm ⟨t2, t3, t4, t9, t10, t11, t12, t13, t46⟩
    have g2 := gr.two k2
    have w2 := g2.objs wi nwi
    obtain ⟨rb, S3, e3, ⟨bq, rfl, hbq⟩, k3⟩ := goodq15_ok ss vs U1 U2 hU1 hU2 (by omega) (by omega) S2 k2.fresh
    have ebq : bq = bg := by rw [Bool.eq_iff_iff, hbq, hbg, goodTQ]
    subst ebq
    simp only [SXa, Nat.reduceAdd, load37, call15, t9, load_pb, w2, Option.bind_some, Nat.zero_add, Nat.le_refl]
    refine callK_of e3 ?_
    refine ends_base (fun tm => getT tm 2 = .sc (.int .i64 pc) ∧ getT tm 3 = .sc (.int .i64 ln) ∧ getT tm 4 = .ptr 0 0 ∧ getT tm 9 = .ptr Su.no 0 ∧ getT tm 10 = .ptr Sg.no 0 ∧ getT tm 11 = .sc (.int .i64 err) ∧ getT tm 12 = .ptr Sq.no 0 ∧ getT tm 13 = .sc (.bool ok) ∧ getT tm 46 = .sc (.bool bq) ∧ getT tm 48 = .sc (.bool bq)) (by simp [getT_setD, t2, t3, t4, t9, t10, t11, t12, t13, t46]) ?_
    clear t2 t3 t4 t9 t10 t11 t12 t13 t46 tm
    rintro tm ⟨t2, t3, t4, t9, t10, t11, t12, t13, t46, t48⟩
    have g3 := g2.two k3
    have o3 := g3.objs oi ni
    obtain ⟨r5, S4, e4, h5, k4⟩ := put_ok ss vs x y hx hy (by omega) (by omega) S3 k3.fresh
    simp only [SXa, Nat.reduceEqDiff, Nat.reduceAdd, load25, call10, t4, t46, t48, ne_bool, bne_self_eq_false, load_pb, o3, Option.bind_some, Nat.zero_add, Nat.le_refl]
    refine callK_of e4 ?_
    refine ends_base (fun tm => getT tm 2 = .sc (.int .i64 pc) ∧ getT tm 3 = .sc (.int .i64 ln) ∧ getT tm 4 = .ptr 0 0 ∧ getT tm 9 = .ptr Su.no 0 ∧ getT tm 10 = .ptr Sg.no 0 ∧ getT tm 11 = .sc (.int .i64 err) ∧ getT tm 12 = .ptr Sq.no 0 ∧ getT tm 13 = .sc (.bool ok) ∧ getT tm 50 = .sc (.bool false) ∧ getT tm 52 = r5) (by simp [getT_setD, t2, t3, t4, t9, t10, t11, t12, t13]) ?_
    clear t2 t3 t4 t9 t10 t11 t12 t13 t46 t48 tm
    rintro tm ⟨t2, t3, t4, t9, t10, t11, t12, t13, t50, t52⟩
    have g4 := g3.two k4
    have w4 := g4.objs wi nwi
    obtain ⟨r6, S5, e5, h6, k5⟩ := putq_ok ss vs U1 U2 hU1 hU2 (by omega) (by omega) S4 k4.fresh
    obtain ⟨w, h5, h6⟩ := put_same h5 h6
    simp only [SXa, Nat.reduceEqDiff, Nat.reduceAdd, load37, call16, t9, t50, t52, strB h5, load_pb, w4, Option.bind_some, Nat.zero_add, Nat.le_refl]
    refine callK_of e5 ?_
    refine ends_base (fun tm => getT tm 2 = .sc (.int .i64 pc) ∧ getT tm 3 = .sc (.int .i64 ln) ∧ getT tm 4 = .ptr 0 0 ∧ getT tm 9 = .ptr Su.no 0 ∧ getT tm 10 = .ptr Sg.no 0 ∧ getT tm 11 = .sc (.int .i64 err) ∧ getT tm 12 = .ptr Sq.no 0 ∧ getT tm 13 = .sc (.bool ok) ∧ getT tm 50 = .sc (.bool false) ∧ getT tm 52 = r5 ∧ getT tm 53 = .sc (.string ⟨w.toArray⟩) ∧ getT tm 55 = r6) (by simp [getT_setD, t2, t3, t4, t9, t10, t11, t12, t13, t50, t52]) ?_
    clear t2 t3 t4 t9 t10 t11 t12 t13 t50 t52 tm
    rintro tm ⟨t2, t3, t4, t9, t10, t11, t12, t13, t50, t52, t53, t55⟩
    have g5 := g4.two k5
    have v5 := g5.objs vi nvi
    obtain ⟨r7, S6, e6, ⟨V1, V2, rfl, hV1, hV2⟩, k6⟩ := own_ok sx vx X1 X2 hX1 hX2 (by omega) (by omega) S5 k5.fresh
    have gs := g5.two k6
    have y6 := gs.objs yi nyi
    obtain ⟨r8, S7, e7, rfl, k7⟩ := same_ok sx vx V1 V2 Y1 Y2 hV1 hV2 hY1 hY2 (by omega) (by omega) S6 k6.fresh
    have sb : ∀ a : List UInt8, (a == a) = true := fun a => by simp
    rcases herr with ⟨rfl, rfl⟩ | ⟨rfl, rfl⟩
    all_goals
      simp only [SXa, Nat.reduceEqDiff, Nat.reduceAdd, Int.reduceBEq, load25, call13, t10, t11, t13, t50, t53, t55, strB h6, ne_str 9, sb, ne_bool, bne_self_eq_false, load_pb, v5, Option.bind_some, Nat.zero_add, Nat.le_refl]
      refine callK_of e6 ?_
      simp only [SXa, Nat.reduceEqDiff, Nat.reduceAdd, load37, call12, t9, t12, t52, load_pb, y6, Option.bind_some, Nat.zero_add, Nat.le_refl, safe_cons, safe_nil, safe_of h5, safe_grow nwi gs, safe_grow nyi gs, Bool.and_self]
      refine callK_of e7 ?_
      simp only [SXa, Nat.reduceEqDiff, t2, t3, t4, t9]
      exact gs.two k7
  clear t2 t3 t4 t9 t10 t11 t12 t13 tm
  rintro tm Sj ⟨gj, t2, t3, t4, t9, t79⟩
  have oj := gj.objs oi ni
  have nj := Nat.lt_of_lt_of_le ni gj.no
  have wj := gj.objs wi nwi
  have nwj := Nat.lt_of_lt_of_le nwi gj.no
  obtain ⟨rk, Sk, ek, ⟨bk, rfl, hbk⟩, kk⟩ := good9_ok ss vs x y hx hy (by omega) (by omega) Sj gj.fresh
  simp only [SXa, Nat.reduceAdd, load25, call9, r5_10, r5_11, r5_12, t4, t79, load_pb, oj, Option.bind_some, Nat.zero_add, Nat.le_refl]
  refine callK_of ek ?_
  refine ends_base (fun tm => getT tm 2 = .sc (.int .i64 pc) ∧ getT tm 3 = .sc (.int .i64 ln) ∧ getT tm 4 = .ptr 0 0 ∧ getT tm 9 = .ptr Su.no 0 ∧ getT tm 81 = .sc (.bool bk)) (by simp [getT_setD, t2, t3, t4, t9]) ?_
  clear t2 t3 t4 t9 t79 tm
  rintro tm ⟨t2, t3, t4, t9, t81⟩
  cases bk with
  | false =>
    simp only [SXa, Nat.reduceEqDiff, t81]
  | true =>
  have hgt : GoodT ss vs := hbk.1 rfl
  have ok_ := kk.objs oj nj
  have nk := Nat.lt_of_lt_of_le nj kk.no
  have wk_ := kk.objs wj nwj
  have nwk := Nat.lt_of_lt_of_le nwj kk.no
  -- the stop at the place
  obtain ⟨s4, p4, es4⟩ := stopAV_is (stopF ss pc)
  obtain ⟨rl, Sl, el, hrl, kl⟩ := at17_ok ss x y hx (by omega) pc Sk kk.fresh
  rw [es4] at hrl
  subst hrl
  have ol := kl.objs ok_ nk
  have nl := Nat.lt_of_lt_of_le nk kl.no
  have wl := kl.objs wk_ nwk
  have nwl := Nat.lt_of_lt_of_le nwk kl.no
  simp only [SXa, Nat.reduceEqDiff, Nat.reduceAdd, load25, call17, r5_13, t2, t4, t81, load_pb, ok_, Option.bind_some, Nat.zero_add, Nat.le_refl]
  refine callK_of el ?_
  refine ends_base (fun tm => getT tm 2 = .sc (.int .i64 pc) ∧ getT tm 3 = .sc (.int .i64 ln) ∧ getT tm 4 = .ptr 0 0 ∧ getT tm 9 = .ptr Su.no 0 ∧ getT tm 86 = .tup [.agg [.sc (.int .i64 s4.pc), .sc (.int .i64 s4.at_), .sc (.int .i64 s4.line), .sc (.int .i64 s4.col)], .sc (.bool p4)]) (by simp [getT_setD, t2, t3, t4, t9]) ?_
  clear t2 t3 t4 t9 t81 tm
  rintro tm ⟨t2, t3, t4, t9, t86⟩
  have gm : Grow Sl ((Sl.born 41 z41).put Sl.no (.cells [.sc (.int .i64 s4.pc), .sc (.int .i64 s4.at_), .sc (.int .i64 s4.line), .sc (.int .i64 s4.col)])) nilV := ((Grow.refl kl.fresh nilV).born _ _).put _ _ (Nat.le_refl _)
  have mm : ((Sl.born 41 z41).put Sl.no (.cells [.sc (.int .i64 s4.pc), .sc (.int .i64 s4.at_), .sc (.int .i64 s4.line), .sc (.int .i64 s4.col)])).obj Sl.no = some [.sc (.int .i64 s4.pc), .sc (.int .i64 s4.at_), .sc (.int .i64 s4.line), .sc (.int .i64 s4.col)] := by simp [put_obj]
  have nmm : Sl.no < ((Sl.born 41 z41).put Sl.no (.cells [.sc (.int .i64 s4.pc), .sc (.int .i64 s4.at_), .sc (.int .i64 s4.line), .sc (.int .i64 s4.col)])).no := Nat.lt_succ_self _
  have om := gm.objs ol nl
  have nm := Nat.lt_of_lt_of_le nl gm.no
  have wm := gm.objs wl nwl
  have nwm := Nat.lt_of_lt_of_le nwl gm.no
  simp only [z41] at gm mm nmm om nm wm nwm
  simp only [SXa, Nat.reduceEqDiff, Nat.reduceAdd, load37, store41, call18, r5_14, t2, t9, t86, alloc41, z41, st41, born_obj, Option.bind_some, Nat.le_refl, List.drop_nil, load_pb, wm, Nat.zero_add]
  generalize (Sl.born 41 [.sc (.int .i64 0), .sc (.int .i64 0), .sc (.int .i64 0), .sc (.int .i64 0)]).put Sl.no (.cells [.sc (.int .i64 s4.pc), .sc (.int .i64 s4.at_), .sc (.int .i64 s4.line), .sc (.int .i64 s4.col)]) = Sm at gm mm nmm om nm wm nwm
  obtain ⟨rn, Sn, en, hrn, kn⟩ := stopat18_ok ss U1 U2 hU1 (by omega) pc Sm gm.fresh
  rw [es4] at hrn
  subst hrn
  have on := kn.objs om nm
  have nn := Nat.lt_of_lt_of_le nm kn.no
  have wn := kn.objs wm nwm
  have nwn := Nat.lt_of_lt_of_le nwm kn.no
  have mn := kn.objs mm nmm
  have nmn := Nat.lt_of_lt_of_le nmm kn.no
  refine callK_of en ?_
  refine ends_base (fun tm => getT tm 2 = .sc (.int .i64 pc) ∧ getT tm 3 = .sc (.int .i64 ln) ∧ getT tm 4 = .ptr 0 0 ∧ getT tm 9 = .ptr Su.no 0 ∧ getT tm 14 = .ptr Sl.no 0 ∧ getT tm 15 = .sc (.bool p4) ∧ getT tm 92 = .tup [.agg [.sc (.int .i64 s4.pc), .sc (.int .i64 s4.at_), .sc (.int .i64 s4.line), .sc (.int .i64 s4.col)], .sc (.bool p4)]) (by simp [getT_setD, t2, t3, t4, t9]) ?_
  clear t2 t3 t4 t9 t86 tm
  rintro tm ⟨t2, t3, t4, t9, t14, t15, t92⟩
  have gp : Grow Sn ((Sn.born 51 z41).put Sn.no (.cells [.sc (.int .i64 s4.pc), .sc (.int .i64 s4.at_), .sc (.int .i64 s4.line), .sc (.int .i64 s4.col)])) nilV := ((Grow.refl kn.fresh nilV).born _ _).put _ _ (Nat.le_refl _)
  have pp : ((Sn.born 51 z41).put Sn.no (.cells [.sc (.int .i64 s4.pc), .sc (.int .i64 s4.at_), .sc (.int .i64 s4.line), .sc (.int .i64 s4.col)])).obj Sn.no = some [.sc (.int .i64 s4.pc), .sc (.int .i64 s4.at_), .sc (.int .i64 s4.line), .sc (.int .i64 s4.col)] := by simp [put_obj]
  have op := gp.objs on nn
  have np := Nat.lt_of_lt_of_le nn gp.no
  have wp := gp.objs wn nwn
  have nwp := Nat.lt_of_lt_of_le nwn gp.no
  have mp := gp.objs mn nmn
  simp only [z41] at gp pp op np wp nwp mp
  simp only [SXa, Nat.reduceEqDiff, Nat.reduceAdd, store51, t92, alloc51, z41, st41, born_obj, Option.bind_some, Nat.le_refl, List.drop_nil, Nat.zero_add]
  generalize (Sn.born 51 [.sc (.int .i64 0), .sc (.int .i64 0), .sc (.int .i64 0), .sc (.int .i64 0)]).put Sn.no (.cells [.sc (.int .i64 s4.pc), .sc (.int .i64 s4.at_), .sc (.int .i64 s4.line), .sc (.int .i64 s4.col)]) = Sp at gp pp op np wp nwp mp
  refine ends_base (fun tm => getT tm 2 = .sc (.int .i64 pc) ∧ getT tm 3 = .sc (.int .i64 ln) ∧ getT tm 4 = .ptr 0 0 ∧ getT tm 9 = .ptr Su.no 0 ∧ getT tm 14 = .ptr Sl.no 0 ∧ getT tm 15 = .sc (.bool p4) ∧ getT tm 16 = .ptr Sn.no 0 ∧ getT tm 17 = .sc (.bool p4)) (by simp [getT_setD, t2, t3, t4, t9, t14, t15]) ?_
  clear t2 t3 t4 t9 t14 t15 t92 tm
  rintro tm ⟨t2, t3, t4, t9, t14, t15, t16, t17⟩
  simp only [SXa, Nat.reduceEqDiff, load3, r5_15, r5_16, t14, t15, t16, t17, load_pb, mp, pp, fld41_0, fld41_1, fld41_2, fld41_3, fld51_0, fld51_1, fld51_2, fld51_3, fld_p, ne_bool, bne_self_eq_false, Option.bind_some, Nat.zero_add, Nat.add_zero]
  refine ends_base (fun tm => getT tm 2 = .sc (.int .i64 pc) ∧ getT tm 3 = .sc (.int .i64 ln) ∧ getT tm 4 = .ptr 0 0 ∧ getT tm 9 = .ptr Su.no 0) (by simp [getT_setD, t2, t3, t4, t9]) ?_
  clear t2 t3 t4 t9 t14 t15 t16 t17 tm
  rintro tm ⟨t2, t3, t4, t9⟩
  -- the names at the place
  refine e_drawC noX draw5_1 ?_
  have gr := Grow.raise gp.fresh 8 nilV
  have or_ := gr.objs op np
  have nr := Nat.lt_of_lt_of_le np gr.no
  obtain ⟨X, Sc, ec, ⟨C, hC, hCp, hCs⟩, kc⟩ := names19_ok vs x y hy hvl pc (Sp.raise 8) gr.fresh
  have gc := gr.two kc
  have wc := gc.objs wp nwp
  have nwc := Nat.lt_of_lt_of_le nwp gc.no
  have oc := gc.objs op np
  have nc := Nat.lt_of_lt_of_le np gc.no
  have hCl : C.length ≤ 40 := by
    have h1 := hCp.length_eq
    have h2 := List.length_filter_le (inS pc) vs
    omega
  simp only [SXa, Nat.reduceEqDiff, Nat.reduceAdd, load25, call19, call20, r5_17, r5_18, t2, t4, load_pb, or_, Option.bind_some, Nat.zero_add, Nat.le_refl]
  refine callK_of ec ?_
  simp only [SXa, Nat.reduceEqDiff, Nat.reduceAdd, load37, t2, t9, load_pb, wc, Option.bind_some, Nat.zero_add, Nat.le_refl, safe_cons, safe_nil, safe_grow nwp gc, Bool.and_self]
  obtain ⟨Z, Sd, ed, hZ, kd⟩ := namesat20_ok vs U1 U2 hU2 (by omega) pc Sc kc.fresh
  rw [namesQ_eq hgt.2.2 hCp hCs] at hZ
  have hD := hC.grow kd
  have od := kd.objs oc nc
  have nd := Nat.lt_of_lt_of_le nc kd.no
  have wd := kd.objs wc nwc
  have nwd := Nat.lt_of_lt_of_le nwc kd.no
  refine callK_of ed ?_
  refine ends_base (fun tm => getT tm 3 = .sc (.int .i64 ln) ∧ getT tm 4 = .ptr 0 0 ∧ getT tm 9 = .ptr Su.no 0 ∧ getT tm 128 = X ∧ getT tm 131 = Z) (by simp [getT_setD, t3, t4, t9]) ?_
  clear t2 t3 t4 t9 tm
  rintro tm ⟨t3, t4, t9, t128, t131⟩
  simp only [SXa, Nat.reduceEqDiff, len23, len35, r5_19, r5_20, r5_21, t128, t131, hD.len, lenV_ hZ, bne_self_eq_false]
  refine e_loop2 (fun tm S1 N => ∃ k : Nat, k ≤ C.length ∧ N = C.length - k ∧ Grow Sd S1 nilV ∧ getT tm 3 = .sc (.int .i64 ln) ∧ getT tm 4 = .ptr 0 0 ∧ getT tm 9 = .ptr Su.no 0 ∧ getT tm 18 = X ∧ getT tm 19 = Z ∧ getT tm 20 = .sc (.int .i64 (k : Int)))
    (fun tm S1 => Grow Sd S1 nilV ∧ getT tm 3 = .sc (.int .i64 ln) ∧ getT tm 4 = .ptr 0 0 ∧ getT tm 9 = .ptr Su.no 0) 0 C.length
    ⟨0, by omega, by omega, Grow.refl kd.fresh _, by simp [getT_setD, t3, t4, t9]⟩ ?_ ?_
  · clear t3 t4 t9 t128 t131 tm
    rintro tm S1 N ⟨k, hk, rfl, hG, t3, t4, t9, t18, t19, t20⟩
    by_cases hlt : k < C.length
    case neg =>
      simp only [SXa, Nat.reduceEqDiff, len23, b5_26, r5_22, r5_23, r5_24, r5_25, t3, t4, t9, t18, t20, hD.len, dec_nlt hlt]
      exact hG
    case pos =>
      have wk := wrapK hlt (by omega)
      have gr := Grow.raise hG.fresh 76 nilV
      have hG2 := hG.two gr
      have hC2 := hD.grow hG2
      obtain ⟨o, hix, ho1, ho2⟩ := hC2.at hlt
      have hld : ∀ r v, r < 6 → (varA C[k])[r]? = some v → loadC false 1 (.ptr o (k * 6 + r)) (S1.raise 76) = some (v, S1.raise 76) := fun r v hr h => load_fld ho2 hlt hr h
      have ld0 : loadC false 1 (.ptr o (k * 6)) (S1.raise 76) = some (.sc (.int .i64 C[k].frm), S1.raise 76) := hld 0 _ (by decide) rfl
      have ld1 := hld 1 _ (by decide) rfl
      have ld2 := hld 2 _ (by decide) rfl
      have ld3 := hld 3 _ (by decide) rfl
      have ld4 := hld 4 _ (by decide) rfl
      have ld5 := hld 5 _ (by decide) rfl
      have sb : ∀ a : List UInt8, (a == a) = true := fun a => by simp
      simp only [SXa, Nat.reduceEqDiff, load3, load9, index23, len23, index35, b5_26, r5_22, r5_23, r5_24, r5_25, t3, t4, t9, t18, t19, t20, hD.len, dec_lt hlt, hix, idxV_ hZ hlt, varA, fld43_0, fld43_1, fld43_2, fld43_3, fld43_4, fld43_5, fld56_0, fld56_1, fld56_2, fld56_3, fld56_4, fld56_5, fld_p, fld_e, Nat.add_zero, Nat.zero_add, ld0, ld1, ld2, ld3, ld4, ld5, ne_str 9, sb, bne_self_eq_false, wk]
      exact ⟨C.length - (k + 1), by omega, k + 1, by omega, rfl, hG2, rfl⟩
  clear t3 t4 t9 t128 t131 tm
  rintro tm Se ⟨ge, t3, t4, t9⟩
  have oe := ge.objs od nd
  have ne := Nat.lt_of_lt_of_le nd ge.no
  have we := ge.objs wd nwd
  have nwe := Nat.lt_of_lt_of_le nwd ge.no
  simp only [SXa]
  -- the stops on the line
  refine e_drawC noX draw5_2 ?_
  have gq2 := Grow.raise ge.fresh 8 nilV
  have of_ := gq2.objs oe ne
  have nf := Nat.lt_of_lt_of_le ne gq2.no
  obtain ⟨Y, Sf, ef, hI, kf⟩ := online21_ok ss x y hx hsl ln (Se.raise 8) gq2.fresh
  rw [onL_sorted hgt.1] at hI
  have gf := gq2.two kf
  have wf := gf.objs we nwe
  have hLl : (onL ln ss).length ≤ 40 := by
    have := List.length_filter_le (fun s => s.line == ln) ss
    simp [onL] at this ⊢
    omega
  simp only [SXa, Nat.reduceEqDiff, Nat.reduceAdd, load25, call21, call22, r5_27, r5_28, t3, t4, load_pb, of_, Option.bind_some, Nat.zero_add, Nat.le_refl]
  refine callK_of ef ?_
  simp only [SXa, Nat.reduceEqDiff, Nat.reduceAdd, load37, t3, t9, load_pb, wf, Option.bind_some, Nat.zero_add, Nat.le_refl, safe_cons, safe_nil, safe_grow nwe gf, Bool.and_self]
  obtain ⟨W, Sw, ew, hW, kw⟩ := online22_ok ss U1 U2 hU1 (by omega) ln Sf kf.fresh
  have hJ := hI.grow kw
  refine callK_of ew ?_
  refine ends_base (fun tm => getT tm 221 = Y ∧ getT tm 224 = W) (by simp [getT_setD]) ?_
  clear t3 t4 t9 tm
  rintro tm ⟨t221, t224⟩
  generalize onL ln ss = L at hLl hI hJ hW
  have hWl : ∀ S, lenV W S = some (.sc (.int .i64 ((L.length : Nat) : Int)), S) := fun S => by rw [hW.len, ints_len]
  simp only [SXa, Nat.reduceEqDiff, len57, r5_29, r5_30, r5_31, t221, t224, hJ.len, hWl, bne_self_eq_false]
  refine e_loop2 (fun tm S1 N => ∃ k : Nat, k ≤ L.length ∧ N = L.length - k ∧ Grow Sw S1 nilV ∧ getT tm 21 = Y ∧ getT tm 22 = W ∧ getT tm 23 = .sc (.int .i64 (k : Int)))
    (fun tm S1 => True) 2 L.length
    ⟨0, by omega, by omega, Grow.refl kw.fresh _, by simp [getT_setD]⟩ ?_ ?_
  · clear t221 t224 tm
    rintro tm S1 N ⟨k, hk, rfl, hG, t21, t22, t23⟩
    by_cases hlt : k < L.length
    case neg =>
      simp only [SXa, Nat.reduceEqDiff, len57, b5_36, r5_32, r5_33, r5_34, r5_35, t21, t23, hJ.len, dec_nlt hlt]
    case pos =>
      have wk := wrapK hlt (by omega)
      have gr := Grow.raise hG.fresh 9 nilV
      have hG2 := hG.two gr
      have hJ2 := hJ.grow hG2
      obtain ⟨o, hix, ho⟩ : ∃ o, (∀ S1, idxV 1 Y (some (k : Int)) S1 = some (.ptr o k, S1)) ∧ loadC false 1 (.ptr o k) (S1.raise 9) = some (.sc (.int .i64 L[k]), S1.raise 9) := by
        rcases hJ2 with ⟨_, rfl⟩ | ⟨o, rfl, _, h1, h2, _⟩
        · simp at hlt
        · refine ⟨o, fun S1 => by simp [idxV, hlt], ?_⟩
          rw [load_pb, h2]
          simp [ints, hlt, cut_f]
      have hiw : ∀ S1, idxV 1 W (some (k : Int)) S1 = some (.eptr [.sc (.int .i64 L[k])] 0, S1) := fun S1 => hW.idx (v := .sc (.int .i64 L[k])) (by simp [ints, hlt]) rfl S1
      simp only [SXa, Nat.reduceEqDiff, load3, index57, len57, b5_36, r5_32, r5_33, r5_34, r5_35, t21, t22, t23, hJ.len, dec_lt hlt, hix, ho, hiw, bne_self_eq_false, wk]
      exact ⟨L.length - (k + 1), by omega, k + 1, by omega, rfl, hG2, rfl⟩
  clear t221 t224 tm
  rintro tm S1 _
  simp only [SXa, r5_37]
end Go.Proofs.Ytmmpcomfhcpicaa
