/-
  ShowInts: the law's own walk.
-/
import Derived.Test.YtpcgbkjdobjdaaaGreatDoorIntW
set_option linter.unusedSimpArgs false
set_option linter.unusedVariables false
set_option maxRecDepth 100000
namespace Go.Proofs.YtpcgbkjdobjdaaaGreatDoor
open Go.Abs
noncomputable def argsBU : List AV := [.sc (.string (⟨#[49]⟩ : ByteArray)), .sc (.int .i64 9)]
noncomputable def rb : Option (AV × St) := evFK envB 3000 60 5 argsBU S0
/-- The image's cells. -/
noncomputable def ic : List AV := match rb with | some (.tup [.agg c, _], _) => c | _ => []
/-- The state behind. -/
noncomputable def Sb : St := match rb with | some (_, S) => S | _ => S0
noncomputable def sv : AV := ic.getD 0 .undef
noncomputable def nv : AV := ic.getD 1 .undef
noncomputable def tv : AV := ic.getD 2 .undef
noncomputable def rv : List AV := ic.drop 3
theorem rb_eq : rb = some (.tup [.agg ic, .sc (.bool true)], Sb) := by kernel_rfl
theorem ic_eq : ic = sv :: nv :: tv :: rv := by kernel_rfl
noncomputable def zI : List AV := match E.inf 43 with
  | some i => (match i.zero with | some z => z.cells.toList.map .sc | none => [])
  | none => []
theorem allocI {tm : PM AV} {S : St} {d : Option Tmp} : opV E tm d (.alloc 43) S = some (.ptr S.no 0, S.born 43 zI) := alloc_of (by kernel_rfl)
theorem icLen : ic.length = 16 := by kernel_rfl
theorem zLen : zI.length = 16 := by kernel_rfl
theorem ic_ok : (Nat.beq ic.length 16 && ic.all okCell) = true := by kernel_rfl
theorem stI (l : Nat) (S : St) : storeC 16 (.ptr l 0) (.agg ic) S = (S.obj l).bind fun cs => if 16 ≤ cs.length then some (passed, S.put l (.cells (ic ++ cs.drop 16))) else none := store_agg 16 l ic ic_ok
noncomputable def S1 : St := (Sb.born 43 zI).put Sb.no (.cells (ic ++ zI.drop 16))
theorem S1_obj : S1.obj Sb.no = some ic := by
  have : zI.drop 16 = [] := List.drop_eq_nil_of_le (by rw [zLen]; exact Nat.le_refl _)
  unfold S1
  rw [this, List.append_nil, put_obj, if_pos rfl]
theorem bldTl (q : Nat) (S : St) : buildA E 85 [(0, .ptr q 0), (1, .agg [nv, tv])] S = some (.agg [.ptr q 0, nv, tv], S) := by kernel_rfl
noncomputable def argsN : List AV := [.agg ic, .sc (.slice none 0 0), .sc (.int .i64 100), .sc (.int .i64 100)]
noncomputable def chkNew (r : Option (AV × St)) : Bool := match r with
  | some (.tup [.ptr l o, e], S) => Nat.beq o 0 && eqA 40 e (.sc (.int .i64 0)) && Nat.blt l S.no && freshB S && Nat.beq (S.ver Sb.no) (S1.ver Sb.no) && (match S.obj l with
    | some cs => (match (cs[28]? : Option AV) with
      | some (AV.ptr h o2) => Nat.beq o2 0 && Nat.blt h S.no && (match S.obj h with
        | some hc => eqA 40 (.agg hc) (.agg hC)
        | none => false)
      | _ => false)
    | none => false)
  | _ => false
theorem ran : chkNew (evFK env0 3000 60 6 argsN S1) = true := by kernel_rfl
theorem new_ok : ∃ l S', EvA E 6 argsN S1 (.tup [.ptr l 0, .sc (.int .i64 0)]) S' ∧ S'.Fresh ∧ Made l S' ∧ S'.obj Sb.no = some ic ∧ Sb.no < S'.no := by
  have h := ran
  rw [evFK_eq] at h
  unfold chkNew at h
  split at h
  · rename_i l o e S hr
    simp only [Bool.and_eq_true] at h
    obtain ⟨⟨⟨⟨⟨h1, h2⟩, h3⟩, h4⟩, h5⟩, h6⟩ := h
    have o0 := Nat.eq_of_beq_eq_true h1
    subst o0
    have e0 := eqA_eq 40 _ _ h2
    subst e0
    have hl : l < S.no := Nat.le_of_ble_eq_true h3
    have hf := freshB_ok h4
    have hv := Nat.eq_of_beq_eq_true h5
    have hev : Evo S1 S := evF_evo fine0.e.evo 3000 60 6 argsN S1 _ S hr
    have hS1 : S1.no = Sb.no + 1 := rfl
    have hno := hev.no
    have h0 : S.obj Sb.no = some ic := by
      have := (hev.obj Sb.no (by rw [hS1]; exact Nat.lt_succ_self _) hv.symm).1
      have e : S.obj Sb.no = S1.obj Sb.no := by unfold St.obj; rw [this]
      rw [e, S1_obj]
    split at h6
    · rename_i cs hcs
      split at h6
      · rename_i q o2 hq
        simp only [Bool.and_eq_true] at h6
        obtain ⟨⟨k1, k2⟩, k3⟩ := h6
        have o2e := Nat.eq_of_beq_eq_true k1
        subst o2e
        split at k3
        · rename_i hc hhc
          have e1 := eqA_eq 40 _ _ k3
          simp only [AV.agg.injEq] at e1
          subst e1
          refine ⟨l, S, ev_x (E := E) (f := 6) (fn := Tryz.f6) (g := newX) (by kernel_rfl) rfl hr, hf, ⟨hl, cs, q, hcs, hq, hhc, Nat.le_of_ble_eq_true k2⟩, h0, by omega⟩
        · cases k3
      · cases h6
    · cases h6
  · cases h
theorem aw_ev : EvA E 4 [] S0 (.sc (.bool true)) S0 := ev_x (E := E) (f := 4) (fn := Tryz.f4) (g := awX) (by kernel_rfl) rfl (by kernel_rfl)
theorem bu_ev : EvA E 5 [.sc (.string (⟨#[49]⟩ : ByteArray)), .sc (.int .i64 9)] S0 (.tup [.agg ic, .sc (.bool true)]) Sb := by
  have h := rb_eq
  unfold rb at h
  rw [evFK_eq] at h
  exact ev_x (E := E) (f := 5) (fn := Tryz.f5) (g := buX) (by kernel_rfl) rfl h
theorem undPM : E.und 46 = some (.pointer 80) := by kernel_rfl
theorem b_eqpm {S : St} (x y : Operand) (l o : Nat) : binGen E .eql 46 x y (.ptr l o) (.sc (.pointer none)) S = some (.sc (.bool false), S) := by
  have h : conc (.ptr l o) = none := rfl
  simp only [binGen, h, undPM, eqNil, cond_true]
theorem bldT (k : Int) (hk : k = 1 ∨ k = 2 ∨ k = 3 ∨ k = 7) (S : St) : buildA E 29 [(0, .sc (.int .i64 k))] S = some (.agg (tyC k (.sc (.slice none 0 0))), S) := by
  rcases hk with rfl | rfl | rfl | rfl <;> kernel_rfl
noncomputable def funA : AV := .vec 1 4 [.agg (tyC 1 (.sc (.slice none 0 0))), .agg (tyC 1 (.sc (.slice none 0 0)))]
theorem bsT (S : St) : buildSliceA E 27 2 [(0, .agg (tyC 1 (.sc (.slice none 0 0)))), (1, .agg (tyC 1 (.sc (.slice none 0 0))))] S = some (funA, S) := by kernel_rfl
theorem bldF (S : St) : buildA E 29 [(0, .sc (.int .i64 5)), (3, funA)] S = some (.agg (tyC 5 funA), S) := by kernel_rfl
theorem tsame (s : ByteArray) : (s.toList == s.toList) = true := by simp
set_option maxHeartbeats 64000000 in
theorem law_ints (n : Int) : ∃ r S', EvA E 3 [.sc (.int .i64 n)] S0 r S' ∧ r = .sc (.bool true) := by
  refine ev3 rfl ?_
  unfold p3
  generalize hTl : (PC.seq (.reg r3_16) .ret) = Tl
  simp only [SXa, reduceCtorEq, Nat.reduceEqDiff, Nat.reduceAdd, Nat.reduceSub, Nat.reduceMul, Nat.reduceBEq, Int.reduceLT, Int.reduceLE, Int.reduceToNat, Int.reduceBEq, Int.reduceBNe, reduceIte, bs27, load43, store43, call4, call5, call6, call7, call8, call9, r3_0, r3_1, r3_2, r3_3, r3_4, r3_5, r3_6, r3_7, r3_8, r3_9, r3_10, r3_11, r3_12, r3_13, r3_14, r3_15, r3_16, p3]
  refine callK_of aw_ev ?_
  simp only [SXa, reduceCtorEq, Nat.reduceEqDiff, Nat.reduceAdd, Nat.reduceSub, Nat.reduceMul, Nat.reduceBEq, Int.reduceLT, Int.reduceLE, Int.reduceToNat, Int.reduceBEq, Int.reduceBNe, reduceIte, bs27, load43, store43, call4, call5, call6, call7, call8, call9, r3_0, r3_1, r3_2, r3_3, r3_4, r3_5, r3_6, r3_7, r3_8, r3_9, r3_10, r3_11, r3_12, r3_13, r3_14, r3_15, r3_16, p3]
  refine callK_of bu_ev ?_
  have b0 : (Sb.born 43 zI).obj Sb.no = some zI := by simp [born_obj]
  have z16 : 16 ≤ zI.length := by rw [zLen]; exact Nat.le_refl _
  have i16 : ic.take 16 = ic := List.take_of_length_le (by rw [icLen]; exact Nat.le_refl _)
  have j16 : 16 ≤ ic.length := by rw [icLen]; exact Nat.le_refl _
  have hS1 : (Sb.born 43 zI).put Sb.no (.cells (ic ++ zI.drop 16)) = S1 := rfl
  obtain ⟨l, S2, e2, hf2, hM2, hI2, hn2⟩ := new_ok
  unfold argsN at e2
  simp only [SXa, reduceCtorEq, Nat.reduceEqDiff, Nat.reduceAdd, Nat.reduceSub, Nat.reduceMul, Nat.reduceBEq, Int.reduceLT, Int.reduceLE, Int.reduceToNat, Int.reduceBEq, Int.reduceBNe, reduceIte, bs27, load43, store43, call4, call5, call6, call7, call8, call9, r3_0, r3_1, r3_2, r3_3, r3_4, r3_5, r3_6, r3_7, r3_8, r3_9, r3_10, r3_11, r3_12, r3_13, r3_14, r3_15, r3_16, p3, allocI, stI, b0, Option.bind_some, z16, hS1, load_pb, S1_obj, icLen, i16, Nat.le_refl, Nat.zero_add]
  refine callK_of e2 ?_
  have hG := Grow.refl hf2 nilV
  simp only [SXa, reduceCtorEq, Nat.reduceEqDiff, Nat.reduceAdd, Nat.reduceSub, Nat.reduceMul, Nat.reduceBEq, Int.reduceLT, Int.reduceLE, Int.reduceToNat, Int.reduceBEq, Int.reduceBNe, reduceIte, bs27, load43, store43, call4, call5, call6, call7, call8, call9, r3_0, r3_1, r3_2, r3_3, r3_4, r3_5, r3_6, r3_7, r3_8, r3_9, r3_10, r3_11, r3_12, r3_13, r3_14, r3_15, r3_16, p3, ev_nilp, b_eqpm]
  refine callK_ans (num_ans n) hG (fun S3 g3 hG3 => ?_)
  have e1 : min 1 IntKind.i64.bits = 1 := by decide
  have en : (IntKind.i64.wrap (n * 2 ^ 1)).fdiv (2 ^ 1) = numN n := rfl
  have hr := numN_in n
  have hI3 := g3.objs hI2 hn2
  have hM3 := hM2.grow g3
  have hn3 := Nat.lt_of_lt_of_le hn2 g3.no
  have key : ∀ (tm : PM AV) (bb uu : ByteArray), bb = telF 2 (numN n) → uu = telF 3 (numN n) → getT tm 0 = .sc (.int .i64 (numN n)) → getT tm 3 = .ptr Sb.no 0 → getT tm 5 = .ptr l 0 → getT tm 7 = .sc (.int .u64 ((wordN n : Nat) : Int)) → getT tm 8 = .sc (.string bb) → getT tm 9 = .sc (.string uu) →
      EndsA E 83 [.c Tl] .nrm tm S3 (RetQ E [.tmp 2] fun r S' => r = .sc (.bool true)) := by
    intro tm bb uu hbb huu t0 t3 t5 t7 t8 t9
    rw [← hTl]
    have tl1 : telF 1 (numN n) = digF (numN n) := by simp [telF]
    have tl5 : telF 5 (numN n) = (⟨#[63]⟩ : ByteArray) := by simp [telF]
    have tl7 : telF 7 (numN n) = (⟨#[60, 112, 111, 108, 121, 62]⟩ : ByteArray) := by simp [telF]
    obtain ⟨r4, S4, e4, rfl, g4⟩ := word_ok n 1 (by simp) l (.sc (.slice none 0 0)) sv nv tv rv bldTl S3 hG3.fresh hM3
    rw [← ic_eq] at e4
    simp only [SXa, reduceCtorEq, Nat.reduceEqDiff, Nat.reduceAdd, Nat.reduceSub, Nat.reduceMul, Nat.reduceBEq, Int.reduceLT, Int.reduceLE, Int.reduceToNat, Int.reduceBEq, Int.reduceBNe, reduceIte, bs27, load43, store43, call4, call5, call6, call7, call8, call9, r3_0, r3_1, r3_2, r3_3, r3_4, r3_5, r3_6, r3_7, r3_8, r3_9, r3_10, r3_11, r3_12, r3_13, r3_14, r3_15, r3_16, p3, t0, t3, t5, t7, t8, t9, load_pb, hI3, Option.bind_some, icLen, i16, Nat.le_refl, Nat.zero_add, op_build, bldT 1 (by simp)]
    refine callK_of e4 ?_
    simp only [SXa, reduceCtorEq, Nat.reduceEqDiff, Nat.reduceAdd, Nat.reduceSub, Nat.reduceMul, Nat.reduceBEq, Int.reduceLT, Int.reduceLE, Int.reduceToNat, Int.reduceBEq, Int.reduceBNe, reduceIte, bs27, load43, store43, call4, call5, call6, call7, call8, call9, r3_0, r3_1, r3_2, r3_3, r3_4, r3_5, r3_6, r3_7, r3_8, r3_9, r3_10, r3_11, r3_12, r3_13, r3_14, r3_15, r3_16, p3, t0, t3, t5, t7, t8, t9]
    refine callK_ans (dig_ans (numN n) hr) g4 (fun S5 g5 hG5 => ?_)
    have hI5 := hG5.objs hI3 hn3
    have hM5 := hM3.grow hG5
    obtain ⟨r6, S6, e6, rfl, g6⟩ := word_ok n 2 (by simp) l (.sc (.slice none 0 0)) sv nv tv rv bldTl S5 hG5.fresh hM5
    rw [← ic_eq] at e6
    simp only [SXa, reduceCtorEq, Nat.reduceEqDiff, Nat.reduceAdd, Nat.reduceSub, Nat.reduceMul, Nat.reduceBEq, Int.reduceLT, Int.reduceLE, Int.reduceToNat, Int.reduceBEq, Int.reduceBNe, reduceIte, bs27, load43, store43, call4, call5, call6, call7, call8, call9, r3_0, r3_1, r3_2, r3_3, r3_4, r3_5, r3_6, r3_7, r3_8, r3_9, r3_10, r3_11, r3_12, r3_13, r3_14, r3_15, r3_16, p3, t0, t3, t5, t7, t8, t9, tl1, tsame, load_pb, hI5, Option.bind_some, icLen, i16, Nat.le_refl, Nat.zero_add, op_build, bldT 2 (by simp)]
    refine callK_of e6 ?_
    have hG6 := hG5.two g6
    have hI6 := hG6.objs hI3 hn3
    have hM6 := hM3.grow hG6
    obtain ⟨r7, S7, e7, rfl, g7⟩ := word_ok n 3 (by simp) l (.sc (.slice none 0 0)) sv nv tv rv bldTl S6 hG6.fresh hM6
    rw [← ic_eq] at e7
    simp only [SXa, reduceCtorEq, Nat.reduceEqDiff, Nat.reduceAdd, Nat.reduceSub, Nat.reduceMul, Nat.reduceBEq, Int.reduceLT, Int.reduceLE, Int.reduceToNat, Int.reduceBEq, Int.reduceBNe, reduceIte, bs27, load43, store43, call4, call5, call6, call7, call8, call9, r3_0, r3_1, r3_2, r3_3, r3_4, r3_5, r3_6, r3_7, r3_8, r3_9, r3_10, r3_11, r3_12, r3_13, r3_14, r3_15, r3_16, p3, t0, t3, t5, t7, t8, t9, hbb, tsame, load_pb, hI6, Option.bind_some, icLen, i16, Nat.le_refl, Nat.zero_add, op_build, bldT 3 (by simp)]
    refine callK_of e7 ?_
    have hG7 := hG6.two g7
    have hI7 := hG7.objs hI3 hn3
    have hM7 := hM3.grow hG7
    obtain ⟨r8, S8, e8, rfl, g8⟩ := word_ok n 5 (by simp) l funA sv nv tv rv bldTl S7 hG7.fresh hM7
    rw [← ic_eq] at e8
    simp only [SXa, reduceCtorEq, Nat.reduceEqDiff, Nat.reduceAdd, Nat.reduceSub, Nat.reduceMul, Nat.reduceBEq, Int.reduceLT, Int.reduceLE, Int.reduceToNat, Int.reduceBEq, Int.reduceBNe, reduceIte, bs27, load43, store43, call4, call5, call6, call7, call8, call9, r3_0, r3_1, r3_2, r3_3, r3_4, r3_5, r3_6, r3_7, r3_8, r3_9, r3_10, r3_11, r3_12, r3_13, r3_14, r3_15, r3_16, p3, t0, t3, t5, t7, t8, t9, huu, tsame, load_pb, hI7, Option.bind_some, icLen, i16, Nat.le_refl, Nat.zero_add, op_build, bldT 1 (by simp), bsT, bldF]
    refine callK_of e8 ?_
    have hG8 := hG7.two g8
    have hI8 := hG8.objs hI3 hn3
    have hM8 := hM3.grow hG8
    obtain ⟨r9, S9, e9, rfl, g9⟩ := word_ok n 7 (by simp) l (.sc (.slice none 0 0)) sv nv tv rv bldTl S8 hG8.fresh hM8
    rw [← ic_eq] at e9
    simp only [SXa, reduceCtorEq, Nat.reduceEqDiff, Nat.reduceAdd, Nat.reduceSub, Nat.reduceMul, Nat.reduceBEq, Int.reduceLT, Int.reduceLE, Int.reduceToNat, Int.reduceBEq, Int.reduceBNe, reduceIte, bs27, load43, store43, call4, call5, call6, call7, call8, call9, r3_0, r3_1, r3_2, r3_3, r3_4, r3_5, r3_6, r3_7, r3_8, r3_9, r3_10, r3_11, r3_12, r3_13, r3_14, r3_15, r3_16, p3, t0, t3, t5, t7, t8, t9, tl5, tsame, load_pb, hI8, Option.bind_some, icLen, i16, Nat.le_refl, Nat.zero_add, op_build, bldT 7 (by simp)]
    refine callK_of e9 ?_
    simp only [SXa, reduceCtorEq, Nat.reduceEqDiff, Nat.reduceAdd, Nat.reduceSub, Nat.reduceMul, Nat.reduceBEq, Int.reduceLT, Int.reduceLE, Int.reduceToNat, Int.reduceBEq, Int.reduceBNe, reduceIte, bs27, load43, store43, call4, call5, call6, call7, call8, call9, r3_0, r3_1, r3_2, r3_3, r3_4, r3_5, r3_6, r3_7, r3_8, r3_9, r3_10, r3_11, r3_12, r3_13, r3_14, r3_15, r3_16, p3, tl7, tsame]
  have sh : min 1 IntKind.i64.bits = 1 := by decide
  have cc : ((numN n == 1) = true ∧ (numN n == 0) = false) ∨ ((numN n == 1) = false ∧ (numN n == 0) = true) ∨ ((numN n == 1) = false ∧ (numN n == 0) = false) := by
    cases c1 : (numN n == 1) <;> cases c0 : (numN n == 0)
    all_goals first
      | (simp; done)
      | (exfalso; simp only [beq_iff_eq] at c1 c0; omega)
  rcases cc with ⟨c1, c0⟩ | ⟨c1, c0⟩ | ⟨c1, c0⟩
  all_goals
    simp only [SXa, reduceCtorEq, Nat.reduceEqDiff, Nat.reduceAdd, Nat.reduceSub, Nat.reduceMul, Nat.reduceBEq, Int.reduceLT, Int.reduceLE, Int.reduceToNat, Int.reduceBEq, Int.reduceBNe, reduceIte, bs27, load43, store43, call4, call5, call6, call7, call8, call9, r3_0, r3_1, r3_2, r3_3, r3_4, r3_5, r3_6, r3_7, r3_8, r3_9, r3_10, r3_11, r3_12, r3_13, r3_14, r3_15, r3_16, p3, Int.reduceToNat, sh, en, c0, c1]
    refine key _ _ _ ?_ ?_ ?_ ?_ ?_ ?_ rfl rfl
  all_goals first
    | (simp only [telF, c0, c1, Int.reduceBEq, Bool.or_true, Bool.true_or, Bool.or_self, cond_true, cond_false]; done)
    | simp [getT_setD]
end Go.Proofs.YtpcgbkjdobjdaaaGreatDoor
