/-
  The function that a table's variables are sorted by: the walk.
-/
import Derived.Test.YtmmpcomfhcpicaaPc0
import Derived.Test.YtmmpcomfhcpicaaK1
import Derived.Test.YtmmpcomfhcpicaaInfV
import Derived.Shelf.Sort.Plain
set_option linter.unusedSimpArgs false
set_option linter.unusedVariables false
set_option maxRecDepth 100000
namespace Go.Proofs.Ytmmpcomfhcpicaa.Cmp0
open Go.Abs
theorem noX : EvoX E := ⟨fun f g h => by cases h⟩
theorem frmX : FrmX E := ⟨fun f g h => by cases h⟩
theorem okX : XOk E := ⟨fun f g fn h => by cases h⟩
theorem ent62 (a b : ByteArray) (w : World) : (callFunc 62 #[.string a, .string b]).run Try.prog w = .ok (.value (.int .i64 (Extern.BytealgCompare.cmp a b))) w := by kernel_rfl
theorem fld43_0 {tm : PM AV} {S : St} {d : Option Tmp} (x : Operand) : opV E tm d (.fieldAddr 43 x 0) S = fldV 0 (E.ev tm x) S := field_chk 43 0 0 (by kernel_rfl) x
theorem fld43_2 {tm : PM AV} {S : St} {d : Option Tmp} (x : Operand) : opV E tm d (.fieldAddr 43 x 2) S = fldV 2 (E.ev tm x) S := field_chk 43 2 2 (by kernel_rfl) x
theorem nan_ok (x : Int) (S : St) : ∃ r S', EvA E 48 [.sc (.int .i64 x)] S r S' ∧ r = .sc (.bool false) ∧ S' = S := by
  refine ev48 rfl ?_
  have c : (x != x) = false := by simp
  simp only [SXa, reduceCtorEq, Nat.reduceEqDiff, Nat.reduceAdd, r48_0, r48_1, p48, c]
theorem cmpi_ok (x y : Int) (S : St) : ∃ r S', EvA E 30 [.sc (.int .i64 x), .sc (.int .i64 y)] S r S' ∧ r = .sc (.int .i64 (cmpI x y)) ∧ S' = S := by
  refine ev30 rfl ?_
  obtain ⟨r1, S1, e1, h1, h2⟩ := nan_ok x S
  subst h1; subst h2
  obtain ⟨r2, S2, e2, h1, h2⟩ := nan_ok y S1
  subst h1; subst h2
  simp only [SXa, reduceCtorEq, Nat.reduceEqDiff, Nat.reduceAdd, call48, r30_0, r30_1, r30_2, r30_3, r30_4, r30_5, r30_6, r30_7, r30_8, r30_9, r30_10, r30_11, r30_12, r30_13, p30]
  refine callK_of e1 ?_
  simp only [SXa, reduceCtorEq, Nat.reduceEqDiff, call48]
  refine callK_of e2 ?_
  by_cases b1 : x < y
  · have c1 : decide (x < y) = true := by simpa using b1
    simp only [SXa, reduceCtorEq, Nat.reduceEqDiff, c1]
    exact by rw [cmpI, if_pos b1]
  have c1 : decide (x < y) = false := by simpa using b1
  by_cases b2 : y < x
  · have c2 : decide (y < x) = true := by simpa using b2
    simp only [SXa, reduceCtorEq, Nat.reduceEqDiff, c1, c2]
    exact by rw [cmpI, if_neg b1, if_pos b2]
  have c2 : decide (y < x) = false := by simpa using b2
  simp only [SXa, reduceCtorEq, Nat.reduceEqDiff, c1, c2]
  exact by rw [cmpI, if_neg b1, if_neg b2]
theorem cmps47_ok (a b : ByteArray) (S : St) : ∃ r S', EvA E 47 [.sc (.string a), .sc (.string b)] S r S' ∧ r = .sc (.int .i64 (cmpN a b)) ∧ S' = S := by
  refine ev47 rfl ?_
  simp only [SXa, reduceCtorEq, Nat.reduceEqDiff, Nat.reduceAdd, r47_0, r47_1, p47]
  rw [e_ext (h := extCmp) (v := .sc (.int .i64 (cmpN a b))) _ _ _ _ _ (by rfl) (by simp only [SXa, reduceCtorEq, Nat.reduceEqDiff]; rfl)]
  simp only [SXa, reduceCtorEq, Nat.reduceEqDiff]
theorem cmps_ok (a b : ByteArray) (S : St) : ∃ r S', EvA E 29 [.sc (.string a), .sc (.string b)] S r S' ∧ r = .sc (.int .i64 (cmpN a b)) ∧ S' = S := by
  refine ev29 rfl ?_
  obtain ⟨r1, S1, e1, h1, h2⟩ := cmps47_ok a b S
  subst h1; subst h2
  simp only [SXa, reduceCtorEq, Nat.reduceEqDiff, Nat.reduceAdd, call47, r29_0, r29_1, p29]
  refine callK_of e1 ?_
  simp only [SXa, reduceCtorEq, Nat.reduceEqDiff]
theorem or_ok (a b : Int) (id : Nat) (S : St) : ∃ r S', EvA E 28 [.vec id 1 [.sc (.int .i64 a), .sc (.int .i64 b)]] S r S' ∧ r = .sc (.int .i64 (if a = 0 then b else a)) ∧ S' = S := by
  refine ev28 rfl ?_
  have i0 : ∀ S, idxV 1 (.vec id 1 [.sc (.int .i64 a), .sc (.int .i64 b)]) (some (0 : Int)) S = some (.eptr [.sc (.int .i64 a)] 0, S) := fun S => rfl
  have i1 : ∀ S, idxV 1 (.vec id 1 [.sc (.int .i64 a), .sc (.int .i64 b)]) (some (1 : Int)) S = some (.eptr [.sc (.int .i64 b)] 0, S) := fun S => rfl
  simp only [SXa, reduceCtorEq, Nat.reduceEqDiff, Nat.reduceAdd, len57, r28_0, r28_1, r28_2, r28_9, p28]
  refine e_loop (fun tm S' N => S' = S ∧ getT tm 3 = .sc (.int .i64 0) ∧ getT tm 6 = .vec id 1 [.sc (.int .i64 a), .sc (.int .i64 b)] ∧ getT tm 7 = .sc (.int .i64 2) ∧ ((N = 2 ∧ getT tm 8 = .sc (.int .i64 0)) ∨ (N = 1 ∧ a = 0 ∧ getT tm 8 = .sc (.int .i64 1)) ∨ (N = 0 ∧ a = 0 ∧ b = 0 ∧ getT tm 8 = .sc (.int .i64 2)))) 2 ⟨rfl, by simp [getT_setD]⟩ ?_
  rintro tm S' N ⟨rfl, t3, t6, t7, ⟨rfl, t8⟩ | ⟨rfl, ha, t8⟩ | ⟨rfl, ha, hb, t8⟩⟩
  · have c1 : decide ((0 : Int) < 2) = true := rfl
    by_cases h : a = 0
    · have c2 : (a != 0) = false := by simp [h]
      have w1 : IntKind.i64.wrap ((0 : Int) + 1) = 1 := rfl
      simp only [SXa, Nat.reduceEqDiff, Int.reduceLT, load3, index57, b28_8, r28_3, r28_4, r28_5, r28_6, r28_7, t3, t6, t7, t8, i0, c2, w1]
      exact ⟨1, by omega, by simp [h]⟩
    · have c2 : (a != 0) = true := by simpa using h
      simp only [SXa, Nat.reduceEqDiff, Int.reduceLT, load3, index57, b28_8, r28_3, r28_4, r28_5, r28_6, r28_7, t3, t6, t7, t8, i0, c2]
      exact by rw [if_neg h]
  · have c1 : decide ((1 : Int) < 2) = true := rfl
    by_cases h : b = 0
    · have c2 : (b != 0) = false := by simp [h]
      have w1 : IntKind.i64.wrap ((1 : Int) + 1) = 2 := rfl
      simp only [SXa, Nat.reduceEqDiff, Int.reduceLT, load3, index57, b28_8, r28_3, r28_4, r28_5, r28_6, r28_7, t3, t6, t7, t8, i1, c2, w1]
      exact ⟨0, by omega, by simp [ha, h]⟩
    · have c2 : (b != 0) = true := by simpa using h
      simp only [SXa, Nat.reduceEqDiff, Int.reduceLT, load3, index57, b28_8, r28_3, r28_4, r28_5, r28_6, r28_7, t3, t6, t7, t8, i1, c2]
      exact by rw [if_pos ha]
  · have c1 : decide ((2 : Int) < 2) = false := rfl
    simp only [SXa, Nat.reduceEqDiff, Int.reduceLT, b28_8, r28_3, r28_4, r28_5, r28_6, r28_7, t3, t7, t8]
    exact by rw [if_pos ha, hb]
theorem bs57v (a b : Int) (S : St) : buildSliceA E 57 2 [(0, .sc (.int .i64 a)), (1, .sc (.int .i64 b))] S = some (.vec 1 1 [.sc (.int .i64 a), .sc (.int .i64 b)], S) := by kernel_rfl
theorem cmp27_ok (x y : VarV) (S : St) (hS : S.Fresh) : ∃ r S', EvA E 27 [.agg (varA x), .agg (varA y)] S r S' ∧ r = .sc (.int .i64 (cmpV x y)) := by
  refine ev27 rfl ?_
  have g0 := ((Grow.refl hS nilV).born 43 (varA x)).born 43 (varA y)
  have h0 : ((S.born 43 (varA x)).born 43 (varA y)).obj S.no = some (varA x) := by simp [born_obj, born_no]
  have h1 : ((S.born 43 (varA x)).born 43 (varA y)).obj (S.no + 1) = some (varA y) := by simp [born_obj, born_no]
  have n1 : S.no + 1 < ((S.born 43 (varA x)).born 43 (varA y)).no := Nat.lt_succ_self _
  simp only [varA] at g0 h0 h1 n1
  simp only [SXa, reduceCtorEq, Nat.reduceEqDiff, Nat.reduceAdd, r27_0, p27, varA, op_box, cells_agg, born_no]
  generalize (S.born 43 [.sc (.int .i64 x.frm), .sc (.int .i64 x.to), .sc (.string x.name), .sc (.int .i64 x.kind), .sc (.int .i64 x.n), .sc (.string x.typ)]).born 43 [.sc (.int .i64 y.frm), .sc (.int .i64 y.to), .sc (.string y.name), .sc (.int .i64 y.kind), .sc (.int .i64 y.n), .sc (.string y.typ)] = S0 at g0 h0 h1 n1
  have n0 : S.no < S0.no := by omega
  have gr := Grow.raise g0.fresh 13 nilV
  obtain ⟨r1, S1, e1, q1, q2⟩ := cmps_ok x.name y.name (S0.raise 13)
  subst q1; subst q2
  obtain ⟨r2, S2, e2, q1, q2⟩ := cmpi_ok x.frm y.frm (S0.raise 13)
  subst q1; subst q2
  obtain ⟨r3, S3, e3, q1, q2⟩ := or_ok (cmpN x.name y.name) (cmpI x.frm y.frm) 1 (S0.raise 13)
  subst q1; subst q2
  refine e_drawC noX draw27_0 ?_
  simp only [SXa, reduceCtorEq, Nat.reduceEqDiff, load9, call29, call30, r27_1, r27_2, load_pb, gr.objs h0 n0, gr.objs h1 n1, fld43_2, fld_p, Option.bind_some, Nat.zero_add]
  refine callK_of e1 ?_
  simp only [SXa, reduceCtorEq, Nat.reduceEqDiff, load3, load_pb, gr.objs h0 n0, gr.objs h1 n1, fld43_0, fld_p, Option.bind_some, Nat.add_zero, safe_cons, safe_nil, safe_grow n0 gr, safe_grow n1 gr, Bool.and_self]
  refine callK_of e2 ?_
  simp only [SXa, reduceCtorEq, Nat.reduceEqDiff, bs57, call28, bs57v]
  refine callK_of e3 ?_
  simp only [SXa, reduceCtorEq, Nat.reduceEqDiff]
  rfl
theorem bel_grow {w w' : World} (h : Bel w.heap.size w w') : ∃ q os', w' = Sort.grow (w.drewN q) os' := by
  obtain ⟨⟨h1, h2, h3, h4, h5⟩, h6⟩ := h
  refine ⟨w'.drawn - w.drawn, w'.heap.extract w.heap.size w'.heap.size, ?_⟩
  have e : w.heap ++ w'.heap.extract w.heap.size w'.heap.size = w'.heap := by
    apply Array.ext_getElem?
    intro k
    rw [Array.getElem?_append]
    by_cases hk : k < w.heap.size
    · rw [if_pos hk, h5 k hk]
    · rw [if_neg hk, Array.getElem?_extract]
      by_cases hk2 : k < w'.heap.size
      · rw [if_pos (by omega)]
        congr 1
        omega
      · rw [if_neg (by omega), Array.getElem?_eq_none (by omega)]
  obtain ⟨heap, tape, drawn, os, output⟩ := w
  obtain ⟨heap', tape', drawn', os', output'⟩ := w'
  simp only at h1 h2 h3 e h6
  subst h1; subst h2; subst h3
  simp only [Sort.grow, World.drewN, World.mk.injEq, true_and, and_true]
  exact ⟨e.symm, by omega⟩
theorem names : Try.prog.funcs.toList.all (fun x => x.name != "runtime.NumGoroutine") = true := by kernel_rfl
theorem mixed : Try.prog.follows .mixedOrders = true := by kernel_rfl
theorem closure27 (x y : VarV) (W : World) : Calls Try.prog 27 #[.agg (encV x).toArray, .agg (encV y).toArray] W fun e w' => e = .returned (.int .i64 (cmpV x y)) ∧ ∃ q os', w' = Sort.grow (W.drewN q) os' := by
  obtain ⟨r, S', ⟨N, h⟩, hr⟩ := cmp27_ok x y Abs.S0 ⟨by decide, fun _ _ => rfl⟩
  subst hr
  have hv : ∀ v : VarV, VR (C0 W) W (.agg (varA v)) (.agg (encV v).toArray) := fun v => LR.agg (by rw [varA_eq]; exact LR.scs _)
  have key := Abs.run_law2 (E := E) (Abs.plainEnv_ok names mixed (fun _ _ _ h => by cases h) (Abs.extOf_ok (fun g hg => by have := List.mem_singleton.1 hg; subst this; exact ent62) (fun g hg => by simp at hg))) okX noX frmX (fun g cs h => by cases h) (vs := #[.agg (encV x).toArray, .agg (encV y).toArray]) (w := W) (.cons (hv x) (.cons (hv y) (.nil _ _))) (h N N (Nat.le_refl _) (Nat.le_refl _))
  exact key.mono fun e w' ⟨he, hb⟩ => ⟨he, bel_grow hb⟩
end Go.Proofs.Ytmmpcomfhcpicaa.Cmp0
