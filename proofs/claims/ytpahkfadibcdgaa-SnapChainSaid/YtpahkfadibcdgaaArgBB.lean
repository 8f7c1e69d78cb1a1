/-
  Slices of slices of bytes as arguments.
-/
import Derived.Test.YtpahkfadibcdgaaArgB
import Derived.Deep.Slices
set_option linter.unusedSimpArgs false
set_option linter.unusedVariables false
namespace Go.Abs
open Go.ChangeShapes Go.WideShapes
theorem bytes_cell {H : Type} {enc : TypeId × Value → H} {P : Program} {W : World} {t e : TypeId} {v : Value} {fuel : Nat} {y : DataW H × List MemPlace} (ht : P.underlying t = some (.slice e)) (he : P.underlying e = some (.int .u8)) (hc : P.cellsOf e = 1)
    (hf : DataW.trod enc P W 0 (fun _ => true) true fuel t [v] = some y) :
    ∃ (x : AV) (l : List UInt8), IsV 1 x (byteVals l) ∧ VR (C0 W) W x v := by
  rcases open_ints ht he hc hf with ⟨hcs, hx⟩ | ⟨a, len, cap, zs, hcs, _, hl, hm, hz, hx, hcell, hwz⟩
  · simp only [List.cons.injEq, and_true] at hcs
    subst hcs
    exact ⟨.sc (.slice none 0 0), [], .nil 1, .sc _⟩
  · simp only [List.cons.injEq, and_true] at hcs
    subst hcs
    simp only [if_true] at hz
    obtain ⟨l, h1, h2⟩ := bytes_of_ints (zs.take len) (fun n hn => hwz n (List.mem_of_mem_take hn))
    have hlt : (zs.take len).length = len := by simp; omega
    refine ⟨.vec 0 1 (byteVals l), l, .vec 0 1 _, ?_⟩
    have hbl : (byteVals l).length = len := by rw [byteVals_length]; omega
    by_cases h0 : len = 0
    · subst h0
      have : byteVals l = [] := List.eq_nil_of_length_eq_zero hbl
      rw [this]
      exact .vec0 1 a cap
    · have hc0 := hcell 0 (by omega)
      obtain ⟨b, off, spot⟩ := a
      have hspot : spot = none := by simpa [Addr.add] using World.cell?_spot hc0
      subst hspot
      have hb : b < W.heap.size := by simpa [Addr.add] using cell_block_lt hc0
      have hcl : ∀ i, i < len → W.cell? ⟨b, off + i, none⟩ = some (.int .u8 (zs.getD i 0)) := fun i hi => by
        have := hcell i (by omega)
        rwa [add_plain] at this
      have key := VR.vec (C := C0 W) (w := W) 0 1 (byteVals l) (byteVals l) b off cap (fun i => .int .u8 (zs.getD i 0)) (by decide) (by omega) (byteVals_flat l) hb (C0.free W b)
        (by
          have := hcl (len - 1) (by omega)
          rw [hbl]
          simp only [C0]
          unfold World.cell? at this
          split at this
          · rename_i c _ _ hh
            simp only at hh
            rw [hh]
            simp only
            have := (Array.getElem?_eq_some_iff.1 this).1
            simp only at this
            omega
          · cases this)
        (fun i hi => hcl i (by omega))
        (fun i x hix => by
          rw [h2, List.getElem?_map] at hix
          have hi : i < len := by
            have := (List.getElem?_eq_some_iff.1 (by rw [h2, List.getElem?_map]; exact hix : (byteVals l)[i]? = some x)).1
            omega
          rw [List.getElem?_take_of_lt hi] at hix
          rw [List.getD_eq_getElem?_getD]
          cases hzi : zs[i]? with
          | none => rw [hzi] at hix; cases hix
          | some n => rw [hzi] at hix; simp at hix; subst hix; exact .sc _)
        (fun h => by omega) (fun h => by omega) (fun h => by omega)
      rw [hbl] at key
      exact key

/-- Values, each a slice of bytes. -/
def IsVs (xs : List AV) (ll : List (List UInt8)) : Prop := xs.length = ll.length ∧ ∀ (i : Nat) (h : i < ll.length), ∃ x, xs[i]? = some x ∧ IsV 1 x (byteVals ll[i])
theorem flat_ones : ∀ (xs : List AV), (∀ x ∈ xs, ∃ l, IsV 1 x (byteVals l)) → flat? 1 xs = some xs
  | [], _ => rfl
  | x :: r, h => by
    have ih := flat_ones r (fun y hy => h y (List.mem_cons_of_mem _ hy))
    obtain ⟨l, hl⟩ := h x (List.mem_cons_self ..)
    rcases hl with ⟨rfl, _⟩ | ⟨id, rfl⟩ <;> simp [flat?, ih, cellsOf, okCell]
theorem bytess_arg {H : Type} {enc : TypeId × Value → H} {P : Program} {W : World} {t e u : TypeId} {v : Value} {d : DataW H} {p : List MemPlace} (ht : P.underlying t = some (.slice e)) (he : P.underlying e = some (.slice u)) (hu : P.underlying u = some (.int .u8)) (hce : P.cellsOf e = 1) (hcu : P.cellsOf u = 1)
    (hv : Value.okWide P W .any 0 t v) (h : DataW.Trod enc P W 0 (fun _ => true) true t v d p) :
    ∃ (x : AV) (xs : List AV) (ll : List (List UInt8)), IsV 1 x xs ∧ IsVs xs ll ∧ VR (C0 W) W x v := by
  obtain ⟨a0, len, cap, rfl⟩ := okWide_slice ht hv
  obtain ⟨fuel, hf⟩ := h
  rcases Go.Deep.open_slice1 ht hce hf with ⟨hcs, hx⟩ | ⟨a, len', cap', m, n, V, D, Pl, hcs, _, hl, hm, hmm, hx, hel⟩
  · simp [Value.cells] at hcs
    obtain ⟨rfl, rfl, rfl⟩ := hcs
    exact ⟨.sc (.slice none 0 0), [], [], .nil 1, ⟨rfl, by simp⟩, .sc _⟩
  · simp [Value.cells] at hcs
    obtain ⟨rfl, rfl, rfl⟩ := hcs
    simp only [if_true] at hmm
    subst hmm
    haveI : Inhabited (AV × List UInt8) := ⟨(.undef, [])⟩
    obtain ⟨I, hI⟩ := Go.Deep.choose_lt (α := AV × List UInt8) (p := fun i q => IsV 1 q.1 (byteVals q.2) ∧ VR (C0 W) W q.1 (V i)) (fun i hi => by
      obtain ⟨x, l, h1, h2⟩ := bytes_cell he hu hcu (hel i hi).2
      exact ⟨(x, l), h1, h2⟩)
    have hfl : flat? 1 ((List.range len).map fun i => (I i).1) = some ((List.range len).map fun i => (I i).1) := flat_ones _ fun x hx => by
      simp only [List.mem_map, List.mem_range] at hx
      obtain ⟨i, hi, rfl⟩ := hx
      exact ⟨_, (hI i (by omega)).1⟩
    refine ⟨.vec 0 1 ((List.range len).map fun i => (I i).1), (List.range len).map fun i => (I i).1, (List.range len).map fun i => (I i).2, .vec 0 1 _, ⟨by simp, fun i hi => ?_⟩, ?_⟩
    · have hi' : i < len := by simpa using hi
      refine ⟨(I i).1, by simp [hi'], ?_⟩
      simpa using (hI i (by omega)).1
    · by_cases h0 : len = 0
      · subst h0
        exact .vec0 1 a m
      · have hcell : ∀ i, i < len → W.cell? (a.add i) = some (V i) := fun i hi => (hel i (by omega)).1
        obtain ⟨b, off, spot⟩ := a
        have hc0 := hcell 0 (by omega)
        have hspot : spot = none := by simpa [Addr.add] using World.cell?_spot hc0
        subst hspot
        have hb : b < W.heap.size := by simpa [Addr.add] using cell_block_lt hc0
        have hcl : ∀ i, i < len → W.cell? ⟨b, off + i, none⟩ = some (V i) := fun i hi => by
          have := hcell i hi
          rwa [add_plain] at this
        have key := VR.vec (C := C0 W) (w := W) 0 1 ((List.range len).map fun i => (I i).1) ((List.range len).map fun i => (I i).1) b off m V (by decide) (by simp; omega) hfl hb (C0.free W b)
          (by
            have := hcl (len - 1) (by omega)
            simp only [C0, List.length_map, List.length_range]
            unfold World.cell? at this
            split at this
            · rename_i c _ _ hh
              simp only at hh
              rw [hh]
              simp only
              have := (Array.getElem?_eq_some_iff.1 this).1
              simp only at this
              omega
            · cases this)
          (fun i hi => hcl i (by simpa using hi))
          (fun i x hix => by
            rw [List.getElem?_map] at hix
            have hi : i < len := by
              have := (List.getElem?_eq_some_iff.1 (by rw [List.getElem?_map]; exact hix : ((List.range len).map fun i => (I i).1)[i]? = some x)).1
              simpa using this
            simp [hi] at hix
            rw [← hix]
            exact (hI i (by omega)).2)
          (fun h => by omega) (fun h => by omega) (fun h => by omega)
        simpa using key
end Go.Abs
