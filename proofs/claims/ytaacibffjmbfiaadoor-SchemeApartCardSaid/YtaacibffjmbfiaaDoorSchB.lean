/-
  What every Scheme law wants of the row: the way from the evaluator to the model; arguments that are types, numbers, schemes, envs.
-/
import Derived.Test.YtaacibffjmbfiaaDoorSch7
import Derived.Test.YtaacibffjmbfiaaDoorTie
import Derived.Test.YtaacibffjmbfiaaDoorCards
import Derived.Test.YtaacibffjmbfiaaDoorK2
import Derived.ProofKit
import Derived.OpenShut
import Derived.ChangeOld
import Derived.LaidMore
import Derived.Stop.Joined
import Derived.Deep.Strs
set_option linter.unusedSimpArgs false
set_option linter.unusedVariables false
set_option maxRecDepth 100000
namespace Go.Proofs.YtaacibffjmbfiaaDoor
open Go.ChangeShapes Go.WideShapes Go.ChangeAt Go.RowKit
theorem own : ownKnob Tryd.prog.godebug = none := by kernel_rfl
theorem names : Tryd.prog.funcs.toList.all (fun x => x.name != "runtime.NumGoroutine") = true := by kernel_rfl
theorem mixed : Tryd.prog.follows .mixedOrders = true := by kernel_rfl
theorem laidOut : laidOutB Tryd.prog = true := by kernel_rfl
theorem ty4 : Tryd.prog.underlying 4 = some .bool := by kernel_rfl
theorem ty3 : Tryd.prog.underlying 3 = some (.int .i64) := by kernel_rfl
theorem ty9 : Tryd.prog.underlying 9 = some .string := by kernel_rfl
theorem ty22 : Tryd.prog.underlying 22 = some (.slice 24) := by kernel_rfl
theorem ty32 : Tryd.prog.underlying 32 = some (.slice 3) := by kernel_rfl
theorem ty25 : Tryd.prog.underlying 25 = some (.slice 34) := by kernel_rfl
noncomputable def fld24 (k : Nat) : Field := match Tryd.prog.underlying 24 with
  | some (.struct fs) => fs.getD k default
  | _ => default
noncomputable def fld34 (k : Nat) : Field := match Tryd.prog.underlying 34 with
  | some (.struct fs) => fs.getD k default
  | _ => default
theorem ty24 : Tryd.prog.underlying 24 = some (.struct #[fld24 0, fld24 1, fld24 2, fld24 3]) := by kernel_rfl
theorem ty34 : Tryd.prog.underlying 34 = some (.struct #[fld34 0, fld34 1]) := by kernel_rfl
theorem off24 : (fld24 0).offset = 0 ∧ (fld24 1).offset = 1 ∧ (fld24 2).offset = 2 ∧ (fld24 3).offset = 3 := ⟨by kernel_rfl, by kernel_rfl, by kernel_rfl, by kernel_rfl⟩
theorem fty24 : (fld24 0).type = 3 ∧ (fld24 1).type = 9 ∧ (fld24 2).type = 3 ∧ (fld24 3).type = 22 := ⟨by kernel_rfl, by kernel_rfl, by kernel_rfl, by kernel_rfl⟩
theorem off34 : (fld34 0).offset = 0 ∧ (fld34 1).offset = 1 := ⟨by kernel_rfl, by kernel_rfl⟩
theorem fty34 : (fld34 0).type = 32 ∧ (fld34 1).type = 24 := ⟨by kernel_rfl, by kernel_rfl⟩
theorem cells3 : Tryd.prog.cellsOf 3 = 1 := by kernel_rfl
theorem cells9 : Tryd.prog.cellsOf 9 = 1 := by kernel_rfl
theorem cells22 : Tryd.prog.cellsOf 22 = 1 := by kernel_rfl
theorem cells32 : Tryd.prog.cellsOf 32 = 1 := by kernel_rfl
theorem cells24 : Tryd.prog.cellsOf 24 = 4 := by kernel_rfl
theorem cells34 : Tryd.prog.cellsOf 34 = 5 := by kernel_rfl
theorem run_ev {f : FuncId} {args : List Abs.AV} {vs : Array Value} {w : World} {r : Abs.AV} {S' : Abs.St} {u : Value} (hl : Abs.LR (Abs.C0 w) w args vs.toList) (h : Abs.EvA E f args Abs.S0 r S') (hr : r = .sc u) : Calls Tryd.prog f vs w fun e w' => e = .returned u ∧ Below w.heap.size w w' := by
  obtain ⟨N, h⟩ := h
  subst hr
  have ok := Abs.plainEnv_ok (P := Tryd.prog) (hp := E.hp) (meth := fun _ _ => none) (ext := fun _ => none) names mixed (fun _ _ _ h => by cases h) ⟨fun g h args r hg => by cases hg⟩
  exact Abs.run_law (E := E) ⟨ok.fn, ok.und, ok.inf, ok.mixed, ok.meth, ok.ext⟩ okX noX frmX (fun g cs h => by cases h) hl (h N N (Nat.le_refl _) (Nat.le_refl _))
/-- A type, read. -/
theorem type_trod {H : Type} {enc : TypeId × Value → H} {W : World} {spare : Nat → Bool} {held : Bool} : ∀ (fuel : Nat) (cs : List Value) (x : DataW H × List MemPlace), DataW.trod enc Tryd.prog W 0 spare held fuel 24 cs = some x →
    ∃ (t : Ty) (y : Abs.AV), TyX t y ∧ Abs.LR (Abs.C0 W) W (tc t y) cs := by
  intro fuel
  induction fuel using Nat.strongRecOn with
  | _ fuel ih =>
    intro cs x h
    obtain ⟨xs, n, rfl, rfl, hl, hlen, hf⟩ := DataW.trod_struct ty24 h
    rw [cells24] at hl
    have k0 := hf 0 (fld24 0) rfl
    have k1 := hf 1 (fld24 1) rfl
    have k2 := hf 2 (fld24 2) rfl
    have k3 := hf 3 (fld24 3) rfl
    rw [off24.1, fty24.1, cells3] at k0
    rw [off24.2.1, fty24.2.1, cells9] at k1
    rw [off24.2.2.1, fty24.2.2.1, cells3] at k2
    rw [off24.2.2.2, fty24.2.2.2, cells22] at k3
    simp only [List.size_toArray, List.length_cons, List.length_nil] at hlen
    match xs, hlen with
    | [x0, x1, x2, x3], _ =>
    match cs, hl with
    | [c0, c1, c2, c3], _ =>
    simp at k0 k1 k2 k3
    obtain ⟨a0, e0, _, _⟩ := DataW.trod_int ty3 k0
    obtain ⟨a2, e2, _, _⟩ := DataW.trod_int ty3 k2
    obtain ⟨a1, e1, _⟩ := DataW.trod_string ty9 k1
    simp at e0 e1 e2
    subst e0; subst e1; subst e2
    have hmx : (maxLen : Nat) ≤ 2 ^ 63 - 1 := by decide
    rcases DataW.trod_slice ty22 k3 with ⟨hcs, _⟩ | ⟨a, len, cap, elems, rest, n', rfl, hcs, _, _, hlc, hcm, hel, hev, _, _⟩
    · simp at hcs
      subst hcs
      exact ⟨.mk a0 a1 a2 [], .sc (.slice none 0 0), ⟨[], .nil 4, rfl, by simp [Ty.args]⟩, .cons (.sc _) (.cons (.sc _) (.cons (.sc _) (.cons (.sc _) (.nil _ _))))⟩
    · simp at hcs
      subst hcs
      haveI : Inhabited (Ty × Abs.AV × List Value) := ⟨(.mk 0 ⟨#[]⟩ 0 [], .undef, [])⟩
      obtain ⟨I, hI⟩ := Go.Deep.choose_lt (α := Ty × Abs.AV × List Value) (n := len) (p := fun i q => TyX q.1 q.2.1 ∧ Abs.LR (Abs.C0 W) W (tc q.1 q.2.1) q.2.2 ∧ W.cells? 0 (a.add (i * 4)) 4 = some q.2.2) (fun i hi => by
        have h1 := hev i hi
        rw [cells24, List.getElem?_eq_getElem (by omega)] at h1
        obtain ⟨cs, hc, h2⟩ := Option.bind_eq_some_iff.1 h1
        obtain ⟨t, y, h3, h4⟩ := ih n' (by omega) cs _ h2
        exact ⟨(t, y, cs), h3, h4, hc⟩)
      have hvr := Abs.vr_vec (W := W) (a := a) (sz := 4) (by decide) hlc (fun i => tc (I i).1 (I i).2.1) (fun i => (I i).2.2) (fun i hi => ⟨rfl, by
        have := (hI i hi).1.okc
        simp only [tc, List.all_cons, List.all_nil, this]; rfl, (hI i hi).2.1⟩) (fun i hi => (hI i hi).2.2)
      refine ⟨.mk a0 a1 a2 ((List.range len).map fun i => (I i).1), _, ⟨_, .vec 0 4 _, ?_, ?_⟩, .cons (.sc _) (.cons (.sc _) (.cons (.sc _) (.cons hvr (.nil _ _))))⟩
      · have := TysC.of (ar := (List.range len).map fun i => (I i).1) (f := fun i => tc (I i).1 (I i).2.1) (fun i hi => by
          have hi' : i < len := by simpa using hi
          simp only [List.getElem_map, List.getElem_range]
          exact tyC_iff.2 ⟨_, rfl, (hI i hi').1⟩)
        simpa [Ty.args] using this
      · simp only [Ty.args, List.length_map, List.length_range]
        omega
theorem type_arg {H : Type} {enc : TypeId × Value → H} {W : World} {v : Value} {d : DataW H} {p : List MemPlace} (hv : Value.okWide Tryd.prog W .any 0 24 v) (h : DataW.Trod enc Tryd.prog W 0 (fun _ => true) true 24 v d p) :
    ∃ (t : Ty) (y : Abs.AV), TyX t y ∧ Abs.VR (Abs.C0 W) W (.agg (tc t y)) v := by
  obtain ⟨cs, rfl, hsz⟩ := okWide_struct ty24 hv
  obtain ⟨fuel, hf⟩ := h
  obtain ⟨t, y, h1, h2⟩ := type_trod fuel _ _ hf
  exact ⟨t, y, h1, h2.agg⟩
theorem read24 {H : Type} {enc : TypeId × Value → H} {W W' : World} {v : Value} {d : DataW H} {p : List MemPlace} (h : DataW.Trod enc Tryd.prog W 0 (fun _ => true) true 24 v d p) (hb : Below W.heap.size W W') (hlt : ∀ x ∈ p, x.block < W.heap.size) :
    DataW.Trod enc Tryd.prog W' 0 (fun b => decide (b < W.heap.size)) true 24 v d p := Below.trod laidOut (by kernel_rfl) (of_decide_eq_true (by kernel_rfl)) h hb hlt
/-- A row of numbers, read. -/
theorem flat_ints : ∀ l : List Int, Abs.flat? 1 (ints l) = some (ints l)
  | [] => rfl
  | z :: r => by
    have ih := flat_ints r
    simp only [ints, List.map_cons] at ih ⊢
    simp [Abs.flat?, ih, Abs.cellsOf, Abs.okCell]
theorem vr_ints {W : World} {a : Addr} {len cap : Nat} (hlc : len ≤ cap) (Z : Nat → Int) (hW : ∀ i, i < len → W.cell? (a.add i) = some (.int .i64 (Z i))) :
    Abs.VR (Abs.C0 W) W (.vec 0 1 (ints ((List.range len).map Z))) (.slice (some a) len cap) := by
  by_cases h0 : len = 0
  · subst h0
    exact .vec0 1 a cap
  · obtain ⟨b, off, spot⟩ := a
    have hc0 := hW 0 (by omega)
    have hspot : spot = none := by simpa [Addr.add] using World.cell?_spot hc0
    subst hspot
    have hb : b < W.heap.size := by simpa [Addr.add] using Abs.cell_block_lt hc0
    have hcl : ∀ i, i < len → W.cell? ⟨b, off + i, none⟩ = some (.int .i64 (Z i)) := fun i hi => by
      have := hW i hi
      rwa [add_plain] at this
    have key := Abs.VR.vec (C := Abs.C0 W) (w := W) 0 1 (ints ((List.range len).map Z)) (ints ((List.range len).map Z)) b off cap (fun i => .int .i64 (Z i)) (by decide) (by simp [ints]; omega) (flat_ints _) hb (Abs.C0.free W b)
      (by
        have := hcl (len - 1) (by omega)
        simp only [Abs.C0, ints, List.length_map, List.length_range]
        unfold World.cell? at this
        split at this
        · rename_i c _ _ hh
          simp only at hh
          rw [hh]
          simp only
          have := (Array.getElem?_eq_some_iff.1 this).1
          simp only at this
          omega
        · cases this)
      (fun i hi => hcl i (by simpa [ints] using hi))
      (fun i x hix => by
        have hi : i < len := by
          have := (List.getElem?_eq_some_iff.1 hix).1
          simpa [ints] using this
        simp [ints, hi] at hix
        rw [← hix]
        exact .sc _)
      (fun h => by omega) (fun h => by omega) (fun h => by omega)
    simpa [ints] using key
theorem ints_trod {H : Type} {enc : TypeId × Value → H} {W : World} {spare : Nat → Bool} {held : Bool} {fuel : Nat} {c : Value} {x : DataW H × List MemPlace} (h : DataW.trod enc Tryd.prog W 0 spare held fuel 32 [c] = some x) :
    ∃ (l : List Int) (X : Abs.AV), Abs.IsV 1 X (ints l) ∧ l.length ≤ 2 ^ 63 - 1 ∧ Abs.VR (Abs.C0 W) W X c := by
  rcases DataW.trod_slice ty32 h with ⟨hcs, _⟩ | ⟨a, len, cap, elems, rest, n', rfl, hcs, _, _, hlc, hcm, hel, hev, _, _⟩
  · simp at hcs
    subst hcs
    exact ⟨[], _, .nil 1, by simp, .sc _⟩
  · simp at hcs
    subst hcs
    obtain ⟨I, hI⟩ := Go.Deep.choose_lt (α := Int) (n := len) (p := fun i z => W.cell? (a.add i) = some (.int .i64 z)) (fun i hi => by
      have h1 := hev i hi
      rw [cells3, List.getElem?_eq_getElem (by omega), Nat.mul_one] at h1
      obtain ⟨cs, hc, h2⟩ := Option.bind_eq_some_iff.1 h1
      obtain ⟨z, rfl, _, _⟩ := DataW.trod_int ty3 h2
      have := (World.cells?_some hc).2.2 0 (by omega)
      rw [Go.Deep.add_add] at this
      exact ⟨z, by simpa using this⟩)
    have hmx : (maxLen : Nat) ≤ 2 ^ 63 - 1 := by decide
    exact ⟨(List.range len).map I, _, .vec 0 1 _, by simp; omega, vr_ints hlc I hI⟩
theorem scheme_trod {H : Type} {enc : TypeId × Value → H} {W : World} {spare : Nat → Bool} {held : Bool} {fuel : Nat} {cs : List Value} {x : DataW H × List MemPlace} (h : DataW.trod enc Tryd.prog W 0 spare held fuel 34 cs = some x) :
    ∃ (l : List Int) (X : Abs.AV) (t : Ty) (y : Abs.AV), Abs.IsV 1 X (ints l) ∧ l.length ≤ 2 ^ 63 - 1 ∧ TyX t y ∧ Abs.LR (Abs.C0 W) W (sc5 X t y) cs := by
  obtain ⟨xs, n, rfl, rfl, hl, hlen, hf⟩ := DataW.trod_struct ty34 h
  rw [cells34] at hl
  have k0 := hf 0 (fld34 0) rfl
  have k1 := hf 1 (fld34 1) rfl
  rw [off34.1, fty34.1, cells32] at k0
  rw [off34.2, fty34.2, cells24] at k1
  simp only [List.size_toArray, List.length_cons, List.length_nil] at hlen
  match xs, hlen with
  | [x0, x1], _ =>
  match cs, hl with
  | [c0, c1, c2, c3, c4], _ =>
  simp at k0 k1
  obtain ⟨l, X, h1, hl0, h2⟩ := ints_trod k0
  obtain ⟨t, y, h3, h4⟩ := type_trod _ _ _ k1
  exact ⟨l, X, t, y, h1, hl0, h3, .cons h2 h4⟩
theorem scheme_arg {H : Type} {enc : TypeId × Value → H} {W : World} {v : Value} {d : DataW H} {p : List MemPlace} (hv : Value.okWide Tryd.prog W .any 0 34 v) (h : DataW.Trod enc Tryd.prog W 0 (fun _ => true) true 34 v d p) :
    ∃ (l : List Int) (X : Abs.AV) (t : Ty) (y : Abs.AV), Abs.IsV 1 X (ints l) ∧ TyX t y ∧ Abs.VR (Abs.C0 W) W (.agg (sc5 X t y)) v := by
  obtain ⟨cs, rfl, hsz⟩ := okWide_struct ty34 hv
  obtain ⟨fuel, hf⟩ := h
  obtain ⟨l, X, t, y, h1, _, h2, h3⟩ := scheme_trod hf
  exact ⟨l, X, t, y, h1, h2, h3.agg⟩
theorem read34 {H : Type} {enc : TypeId × Value → H} {W W' : World} {v : Value} {d : DataW H} {p : List MemPlace} (h : DataW.Trod enc Tryd.prog W 0 (fun _ => true) true 34 v d p) (hb : Below W.heap.size W W') (hlt : ∀ x ∈ p, x.block < W.heap.size) :
    DataW.Trod enc Tryd.prog W' 0 (fun b => decide (b < W.heap.size)) true 34 v d p := Below.trod laidOut (by kernel_rfl) (of_decide_eq_true (by kernel_rfl)) h hb hlt
theorem read3 {H : Type} {enc : TypeId × Value → H} {W W' : World} {v : Value} {d : DataW H} {p : List MemPlace} (h : DataW.Trod enc Tryd.prog W 0 (fun _ => true) true 3 v d p) (hb : Below W.heap.size W W') (hlt : ∀ x ∈ p, x.block < W.heap.size) :
    DataW.Trod enc Tryd.prog W' 0 (fun b => decide (b < W.heap.size)) true 3 v d p := Below.trod laidOut (by kernel_rfl) (of_decide_eq_true (by kernel_rfl)) h hb hlt
/-- The door's own heap meets the condition. -/
abbrev laid3 := Rows.schemeMonoRow.laid
theorem door_met (os : Os) (args : Array Value) : laidMetH Tryd.prog laid3 ((World.doorLaid Tryd.prog 400 os).forCall (fun _ _ => 0) ⟨#[], args, []⟩).memory :=
  laidMetH_of_parts3 (fuel := 8) (laidMet_of_run' 8 (by kernel_rfl) (by kernel_rfl)) (by kernel_rfl) (by kernel_rfl)
end Go.Proofs.YtaacibffjmbfiaaDoor
