/-
  An env: an argument that is a row of schemes.
-/
import Derived.Test.YtaacibffjmbfiaaDoorSchB
import Derived.Test.YtaacibffjmbfiaaDoorClo1
set_option linter.unusedSimpArgs false
set_option linter.unusedVariables false
set_option maxRecDepth 100000
namespace Go.Proofs.YtaacibffjmbfiaaDoor
open Go.ChangeShapes Go.WideShapes Go.ChangeAt Go.RowKit
theorem envs_arg {H : Type} {enc : TypeId × Value → H} {W : World} {v : Value} {d : DataW H} {p : List MemPlace} (hv : Value.okWide Tryd.prog W .any 0 25 v) (h : DataW.Trod enc Tryd.prog W 0 (fun _ => true) true 25 v d p) :
    ∃ (es : List SchV) (X : Abs.AV), EnvIs X es ∧ es.length ≤ 2 ^ 63 - 1 ∧ Abs.VR (Abs.C0 W) W X v := by
  obtain ⟨a0, len0, cap0, rfl⟩ := okWide_slice ty25 hv
  obtain ⟨fuel, hf⟩ := h
  have hf' : DataW.trod enc Tryd.prog W 0 (fun _ => true) true fuel 25 [.slice a0 len0 cap0] = some (d, p) := hf
  rcases DataW.trod_slice ty25 hf' with ⟨hcs, _⟩ | ⟨a, len, cap, elems, rest, n', rfl, hcs, _, _, hlc, hcm, hel, hev, _, _⟩
  · simp only [List.cons.injEq, and_true] at hcs
    rw [hcs]
    exact ⟨[], _, ⟨.nil 5, fun e he => by simp at he⟩, by simp, .sc _⟩
  · simp only [List.cons.injEq, and_true] at hcs
    rw [hcs]
    have hmx : (maxLen : Nat) ≤ 2 ^ 63 - 1 := by decide
    haveI : Inhabited (SchV × List Value) := ⟨(⟨[], .undef, .mk 0 ⟨#[]⟩ 0 [], .undef⟩, [])⟩
    obtain ⟨I, hI⟩ := Go.Deep.choose_lt (α := SchV × List Value) (n := len) (p := fun i q => q.1.ok ∧ Abs.LR (Abs.C0 W) W (sc5 q.1.X q.1.t q.1.x) q.2 ∧ W.cells? 0 (a.add (i * 5)) 5 = some q.2) (fun i hi => by
      have h1 := hev i hi
      rw [cells34, List.getElem?_eq_getElem (by omega)] at h1
      obtain ⟨cs, hc, h2⟩ := Option.bind_eq_some_iff.1 h1
      obtain ⟨l, X, t, y, h3, h4, h5, h6⟩ := scheme_trod h2
      exact ⟨(⟨l, X, t, y⟩, cs), ⟨h3, h5, h4⟩, h6, hc⟩)
    have hvr := Abs.vr_vec (W := W) (a := a) (sz := 5) (by decide) hlc (fun i => sc5 (I i).1.X (I i).1.t (I i).1.x) (fun i => (I i).2) (fun i hi => ⟨rfl, by
      have h1 := (hI i hi).1.x.okc
      have h2 : Abs.okCell (I i).1.X = true := by rcases (hI i hi).1.X with ⟨h, _⟩ | ⟨id, h⟩ <;> rw [h] <;> rfl
      simp only [sc5, List.all_cons, List.all_nil, h1, h2]; rfl, (hI i hi).2.1⟩) (fun i hi => (hI i hi).2.2)
    refine ⟨(List.range len).map fun i => (I i).1, _, ⟨?_, ?_⟩, by simp; omega, hvr⟩
    · rw [List.map_map]
      exact .vec 0 5 _
    · intro e he
      simp only [List.mem_map, List.mem_range] at he
      obtain ⟨i, hi, rfl⟩ := he
      exact (hI i hi).1
theorem read25 {H : Type} {enc : TypeId × Value → H} {W W' : World} {v : Value} {d : DataW H} {p : List MemPlace} (h : DataW.Trod enc Tryd.prog W 0 (fun _ => true) true 25 v d p) (hb : Below W.heap.size W W') (hlt : ∀ x ∈ p, x.block < W.heap.size) :
    DataW.Trod enc Tryd.prog W' 0 (fun b => decide (b < W.heap.size)) true 25 v d p := Below.trod laidOut (by kernel_rfl) (of_decide_eq_true (by kernel_rfl)) h hb hlt
end Go.Proofs.YtaacibffjmbfiaaDoor
