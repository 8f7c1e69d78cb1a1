/-
  What every law of chapter 16 wants of the row: the way from the evaluator to the model; an argument that is a table.
-/
import Derived.Test.YtmmpcomfhcpicaaInf11
import Derived.Test.YtmmpcomfhcpicaaArgV
import Derived.ProofKit
import Derived.OpenShut
import Derived.ChangeOld
import Derived.Deep.Strs
set_option linter.unusedSimpArgs false
set_option linter.unusedVariables false
set_option maxRecDepth 100000
namespace Go.Proofs.Ytmmpcomfhcpicaa
open Go.ChangeShapes Go.WideShapes Go.ChangeAt Go.RowKit
theorem own : ownKnob Try.prog.godebug = none := by kernel_rfl
theorem names : Try.prog.funcs.toList.all (fun x => x.name != "runtime.NumGoroutine") = true := by kernel_rfl
theorem mixed : Try.prog.follows .mixedOrders = true := by kernel_rfl
theorem laidOut : laidOutB Try.prog = true := by kernel_rfl
theorem ty4 : Try.prog.underlying 4 = some .bool := by kernel_rfl
theorem ty3 : Try.prog.underlying 3 = some (.int .i64) := by kernel_rfl
theorem ty5 : Try.prog.underlying 5 = some (.int .u8) := by kernel_rfl
theorem ty28 : Try.prog.underlying 28 = some (.slice 5) := by kernel_rfl
theorem cells5 : Try.prog.cellsOf 5 = 1 := by kernel_rfl
theorem ty9 : Try.prog.underlying 9 = some .string := by kernel_rfl
theorem ty22 : Try.prog.underlying 22 = some (.slice 41) := by kernel_rfl
theorem ty23 : Try.prog.underlying 23 = some (.slice 43) := by kernel_rfl
theorem ty25 : Try.prog.underlying 25 = some (.struct #[fldT 25 0, fldT 25 1]) := by kernel_rfl
theorem ty41 : Try.prog.underlying 41 = some (.struct #[fldT 41 0, fldT 41 1, fldT 41 2, fldT 41 3]) := by kernel_rfl
theorem ty43 : Try.prog.underlying 43 = some (.struct #[fldT 43 0, fldT 43 1, fldT 43 2, fldT 43 3, fldT 43 4, fldT 43 5]) := by kernel_rfl
theorem off25 : (fldT 25 0).offset = 0 ∧ (fldT 25 1).offset = 1 := ⟨by kernel_rfl, by kernel_rfl⟩
theorem fty25 : (fldT 25 0).type = 22 ∧ (fldT 25 1).type = 23 := ⟨by kernel_rfl, by kernel_rfl⟩
theorem off41 : (fldT 41 0).offset = 0 ∧ (fldT 41 1).offset = 1 ∧ (fldT 41 2).offset = 2 ∧ (fldT 41 3).offset = 3 := ⟨by kernel_rfl, by kernel_rfl, by kernel_rfl, by kernel_rfl⟩
theorem fty41 : (fldT 41 0).type = 3 ∧ (fldT 41 1).type = 3 ∧ (fldT 41 2).type = 3 ∧ (fldT 41 3).type = 3 := ⟨by kernel_rfl, by kernel_rfl, by kernel_rfl, by kernel_rfl⟩
theorem off43 : (fldT 43 0).offset = 0 ∧ (fldT 43 1).offset = 1 ∧ (fldT 43 2).offset = 2 ∧ (fldT 43 3).offset = 3 ∧ (fldT 43 4).offset = 4 ∧ (fldT 43 5).offset = 5 := ⟨by kernel_rfl, by kernel_rfl, by kernel_rfl, by kernel_rfl, by kernel_rfl, by kernel_rfl⟩
theorem fty43 : (fldT 43 0).type = 3 ∧ (fldT 43 1).type = 3 ∧ (fldT 43 2).type = 9 ∧ (fldT 43 3).type = 3 ∧ (fldT 43 4).type = 3 ∧ (fldT 43 5).type = 9 := ⟨by kernel_rfl, by kernel_rfl, by kernel_rfl, by kernel_rfl, by kernel_rfl, by kernel_rfl⟩
theorem cells3 : Try.prog.cellsOf 3 = 1 := by kernel_rfl
theorem cells9 : Try.prog.cellsOf 9 = 1 := by kernel_rfl
theorem cells22 : Try.prog.cellsOf 22 = 1 := by kernel_rfl
theorem cells23 : Try.prog.cellsOf 23 = 1 := by kernel_rfl
theorem cells25 : Try.prog.cellsOf 25 = 2 := by kernel_rfl
theorem cells41 : Try.prog.cellsOf 41 = 4 := by kernel_rfl
theorem cells43 : Try.prog.cellsOf 43 = 6 := by kernel_rfl
theorem run_ev {f : FuncId} {args : List Abs.AV} {vs : Array Value} {w : World} {r : Abs.AV} {S' : Abs.St} {u : Value} (hl : Abs.LR (Abs.C0 w) w args vs.toList) (h : Abs.EvA E f args Abs.S0 r S') (hr : r = .sc u) : Calls Try.prog f vs w fun e w' => e = .returned u ∧ Below w.heap.size w w' := by
  obtain ⟨N, h⟩ := h
  subst hr
  have ok := Abs.plainEnv_ok (P := Try.prog) (hp := E.hp) (meth := fun _ _ => none) (ext := Abs.extOf [62] []) names mixed (fun _ _ _ h => by cases h) (Abs.extOf_ok (fun g hg => by have := List.mem_singleton.1 hg; subst this; exact Cmp0.ent62) (fun g hg => by simp at hg))
  exact Abs.run_law (E := E) ⟨ok.fn, ok.und, ok.inf, ok.mixed, ok.meth, ok.ext⟩ okX noX frmX (fun g cs h => by cases h) hl (h N N (Nat.le_refl _) (Nat.le_refl _))
def stopC (s : StopV) : List Value := [.int .i64 s.pc, .int .i64 s.at_, .int .i64 s.line, .int .i64 s.col]
theorem stop_trod {H : Type} {enc : TypeId × Value → H} {W : World} {spare : Nat → Bool} {held : Bool} {fuel : Nat} {cs : List Value} {x : DataW H × List MemPlace} (h : DataW.trod enc Try.prog W 0 spare held fuel 41 cs = some x) : ∃ s : StopV, cs = stopC s := by
  obtain ⟨xs, n, rfl, rfl, hl, hlen, hf⟩ := DataW.trod_struct ty41 h
  rw [cells41] at hl
  have k0 := hf 0 (fldT 41 0) rfl
  have k1 := hf 1 (fldT 41 1) rfl
  have k2 := hf 2 (fldT 41 2) rfl
  have k3 := hf 3 (fldT 41 3) rfl
  rw [off41.1, fty41.1, cells3] at k0
  rw [off41.2.1, fty41.2.1, cells3] at k1
  rw [off41.2.2.1, fty41.2.2.1, cells3] at k2
  rw [off41.2.2.2, fty41.2.2.2, cells3] at k3
  simp only [List.size_toArray, List.length_cons, List.length_nil] at hlen
  match xs, hlen with
  | [x0, x1, x2, x3], _ =>
  match cs, hl with
  | [c0, c1, c2, c3], _ =>
  simp at k0 k1 k2 k3
  obtain ⟨a0, e0, _, _⟩ := DataW.trod_int ty3 k0
  obtain ⟨a1, e1, _, _⟩ := DataW.trod_int ty3 k1
  obtain ⟨a2, e2, _, _⟩ := DataW.trod_int ty3 k2
  obtain ⟨a3, e3, _, _⟩ := DataW.trod_int ty3 k3
  simp at e0 e1 e2 e3
  subst e0; subst e1; subst e2; subst e3
  exact ⟨⟨a0, a1, a2, a3⟩, rfl⟩
theorem var_trod {H : Type} {enc : TypeId × Value → H} {W : World} {spare : Nat → Bool} {held : Bool} {fuel : Nat} {cs : List Value} {x : DataW H × List MemPlace} (h : DataW.trod enc Try.prog W 0 spare held fuel 43 cs = some x) : ∃ v : VarV, cs = encV v := by
  obtain ⟨xs, n, rfl, rfl, hl, hlen, hf⟩ := DataW.trod_struct ty43 h
  rw [cells43] at hl
  have k0 := hf 0 (fldT 43 0) rfl
  have k1 := hf 1 (fldT 43 1) rfl
  have k2 := hf 2 (fldT 43 2) rfl
  have k3 := hf 3 (fldT 43 3) rfl
  have k4 := hf 4 (fldT 43 4) rfl
  have k5 := hf 5 (fldT 43 5) rfl
  rw [off43.1, fty43.1, cells3] at k0
  rw [off43.2.1, fty43.2.1, cells3] at k1
  rw [off43.2.2.1, fty43.2.2.1, cells9] at k2
  rw [off43.2.2.2.1, fty43.2.2.2.1, cells3] at k3
  rw [off43.2.2.2.2.1, fty43.2.2.2.2.1, cells3] at k4
  rw [off43.2.2.2.2.2, fty43.2.2.2.2.2, cells9] at k5
  simp only [List.size_toArray, List.length_cons, List.length_nil] at hlen
  match xs, hlen with
  | [x0, x1, x2, x3, x4, x5], _ =>
  match cs, hl with
  | [c0, c1, c2, c3, c4, c5], _ =>
  simp at k0 k1 k2 k3 k4 k5
  obtain ⟨a0, e0, _, _⟩ := DataW.trod_int ty3 k0
  obtain ⟨a1, e1, _, _⟩ := DataW.trod_int ty3 k1
  obtain ⟨a2, e2, _⟩ := DataW.trod_string ty9 k2
  obtain ⟨a3, e3, _, _⟩ := DataW.trod_int ty3 k3
  obtain ⟨a4, e4, _, _⟩ := DataW.trod_int ty3 k4
  obtain ⟨a5, e5, _⟩ := DataW.trod_string ty9 k5
  simp at e0 e1 e2 e3 e4 e5
  subst e0; subst e1; subst e2; subst e3; subst e4; subst e5
  exact ⟨⟨a0, a1, a2, a3, a4, a5⟩, rfl⟩
theorem stops_trod {H : Type} {enc : TypeId × Value → H} {W : World} {spare : Nat → Bool} {held : Bool} {fuel : Nat} {c : Value} {x : DataW H × List MemPlace} (h : DataW.trod enc Try.prog W 0 spare held fuel 22 [c] = some x) :
    ∃ (l : List StopV) (X : Abs.AV), Abs.IsV 4 X (stopsA l) ∧ Abs.VR (Abs.C0 W) W X c := by
  rcases DataW.trod_slice ty22 h with ⟨hcs, _⟩ | ⟨a, len, cap, elems, rest, n', rfl, hcs, _, _, hlc, hcm, hel, hev, _, _⟩
  · simp at hcs
    subst hcs
    exact ⟨[], _, .nil 4, .sc _⟩
  · simp at hcs
    subst hcs
    obtain ⟨I, hI⟩ := Go.Deep.choose_lt (α := StopV) (n := len) (p := fun i s => W.cells? 0 (a.add (i * 4)) 4 = some (stopC s)) (fun i hi => by
      have h1 := hev i hi
      rw [cells41, List.getElem?_eq_getElem (by omega)] at h1
      obtain ⟨cs, hc, h2⟩ := Option.bind_eq_some_iff.1 h1
      obtain ⟨s, rfl⟩ := stop_trod h2
      exact ⟨s, hc⟩)
    have hvr := Abs.vr_vec (W := W) (a := a) (sz := 4) (by decide) hlc (fun i => stopA (I i)) (fun i => stopC (I i)) (fun i hi => ⟨rfl, rfl, .cons (.sc _) (.cons (.sc _) (.cons (.sc _) (.cons (.sc _) (.nil _ _))))⟩) (fun i hi => hI i hi)
    refine ⟨(List.range len).map I, _, ?_, hvr⟩
    have : stopsA ((List.range len).map I) = (List.range len).map fun i => .agg (stopA (I i)) := by simp [stopsA, List.map_map, Function.comp_def]
    rw [this]
    exact .vec 0 4 _
theorem vars_trod {H : Type} {enc : TypeId × Value → H} {W : World} {spare : Nat → Bool} {held : Bool} {fuel : Nat} {c : Value} {x : DataW H × List MemPlace} (h : DataW.trod enc Try.prog W 0 spare held fuel 23 [c] = some x) :
    ∃ (l : List VarV) (X : Abs.AV), Abs.IsV 6 X (varsA l) ∧ Abs.VR (Abs.C0 W) W X c := by
  rcases DataW.trod_slice ty23 h with ⟨hcs, _⟩ | ⟨a, len, cap, elems, rest, n', rfl, hcs, _, _, hlc, hcm, hel, hev, _, _⟩
  · simp at hcs
    subst hcs
    exact ⟨[], _, .nil 6, .sc _⟩
  · simp at hcs
    subst hcs
    obtain ⟨I, hI⟩ := Go.Deep.choose_lt (α := VarV) (n := len) (p := fun i s => W.cells? 0 (a.add (i * 6)) 6 = some (encV s)) (fun i hi => by
      have h1 := hev i hi
      rw [cells43, List.getElem?_eq_getElem (by omega)] at h1
      obtain ⟨cs, hc, h2⟩ := Option.bind_eq_some_iff.1 h1
      obtain ⟨s, rfl⟩ := var_trod h2
      exact ⟨s, hc⟩)
    have hvr := Abs.vr_vec (W := W) (a := a) (sz := 6) (by decide) hlc (fun i => varA (I i)) (fun i => encV (I i)) (fun i hi => ⟨rfl, rfl, .cons (.sc _) (.cons (.sc _) (.cons (.sc _) (.cons (.sc _) (.cons (.sc _) (.cons (.sc _) (.nil _ _))))))⟩) (fun i hi => hI i hi)
    refine ⟨(List.range len).map I, _, ?_, hvr⟩
    have : varsA ((List.range len).map I) = (List.range len).map fun i => .agg (varA (I i)) := by simp [varsA, List.map_map, Function.comp_def]
    rw [this]
    exact .vec 0 6 _
theorem table_arg {H : Type} {enc : TypeId × Value → H} {W : World} {v : Value} {d : DataW H} {p : List MemPlace} (hv : Value.okWide Try.prog W .any 0 25 v) (h : DataW.Trod enc Try.prog W 0 (fun _ => true) true 25 v d p) :
    ∃ (ss : List StopV) (vs : List VarV) (X Y : Abs.AV), Abs.IsV 4 X (stopsA ss) ∧ Abs.IsV 6 Y (varsA vs) ∧ Abs.VR (Abs.C0 W) W (.agg [X, Y]) v := by
  obtain ⟨cs, rfl, hsz⟩ := okWide_struct ty25 hv
  obtain ⟨fuel, hf⟩ := h
  obtain ⟨xs, n, hx, hfu, hl, hlen, hf⟩ := DataW.trod_struct ty25 hf
  rw [cells25] at hl
  have k0 := hf 0 (fldT 25 0) rfl
  have k1 := hf 1 (fldT 25 1) rfl
  rw [off25.1, fty25.1, cells22] at k0
  rw [off25.2, fty25.2, cells23] at k1
  simp only [List.size_toArray, List.length_cons, List.length_nil] at hlen
  match xs, hlen with
  | [x0, x1], _ =>
  obtain ⟨cs⟩ := cs
  simp only [Value.cells] at hl k0 k1
  match cs, hl with
  | [c0, c1], _ =>
  simp at k0 k1
  obtain ⟨ss, X, h1, h2⟩ := stops_trod k0
  obtain ⟨vs, Y, h3, h4⟩ := vars_trod k1
  exact ⟨ss, vs, X, Y, h1, h3, Abs.LR.agg (.cons h2 (.cons h4 (.nil _ _)))⟩
theorem read25 {H : Type} {enc : TypeId × Value → H} {W W' : World} {v : Value} {d : DataW H} {p : List MemPlace} (h : DataW.Trod enc Try.prog W 0 (fun _ => true) true 25 v d p) (hb : Below W.heap.size W W') (hlt : ∀ x ∈ p, x.block < W.heap.size) :
    DataW.Trod enc Try.prog W' 0 (fun b => decide (b < W.heap.size)) true 25 v d p := Below.trod laidOut (by kernel_rfl) (of_decide_eq_true (by kernel_rfl)) h hb hlt
theorem read3 {H : Type} {enc : TypeId × Value → H} {W W' : World} {v : Value} {d : DataW H} {p : List MemPlace} (h : DataW.Trod enc Try.prog W 0 (fun _ => true) true 3 v d p) (hb : Below W.heap.size W W') (hlt : ∀ x ∈ p, x.block < W.heap.size) :
    DataW.Trod enc Try.prog W' 0 (fun b => decide (b < W.heap.size)) true 3 v d p := Below.trod laidOut (by kernel_rfl) (of_decide_eq_true (by kernel_rfl)) h hb hlt
theorem read28 {H : Type} {enc : TypeId × Value → H} {W W' : World} {v : Value} {d : DataW H} {p : List MemPlace} (h : DataW.Trod enc Try.prog W 0 (fun _ => true) true 28 v d p) (hb : Below W.heap.size W W') (hlt : ∀ x ∈ p, x.block < W.heap.size) :
    DataW.Trod enc Try.prog W' 0 (fun b => decide (b < W.heap.size)) true 28 v d p := Below.trod laidOut (by kernel_rfl) (of_decide_eq_true (by kernel_rfl)) h hb hlt
end Go.Proofs.Ytmmpcomfhcpicaa
