/-
  An argument that is a slice of bytes, as the evaluator's value.
-/
import Derived.Test.YtmmpcomfhcpicaaAbsD
import Derived.Test.YtmmpcomfhcpicaaAbsC
import Derived.ChangeSlices
import Derived.ChangeSame
import Derived.Carry
set_option linter.unusedSimpArgs false
set_option linter.unusedVariables false
set_option maxRecDepth 100000
namespace Go.Abs
open Go.ChangeShapes Go.WideShapes

theorem cell_block_lt {w : World} {a : Addr} {v : Value} (h : w.cell? a = some v) : a.block < w.heap.size := by
  unfold World.cell? at h
  split at h
  · rename_i hb; exact (Array.getElem?_eq_some_iff.1 hb).1
  · cases h

theorem bytes_of_ints : ∀ (zs : List Int), (∀ n ∈ zs, (Lit.int .u8 n).wf = true) → ∃ l : List UInt8, l.length = zs.length ∧ byteVals l = zs.map (fun n => AV.sc (.int .u8 n))
  | [], _ => ⟨[], rfl, rfl⟩
  | n :: r, h => by
    obtain ⟨l, h1, h2⟩ := bytes_of_ints r (fun m hm => h m (List.mem_cons_of_mem _ hm))
    have hn := h n (List.mem_cons_self ..)
    have a1 : IntKind.u8.min = 0 := rfl
    have a2 : IntKind.u8.max = 255 := rfl
    simp only [Lit.wf, Bool.and_eq_true, decide_eq_true_eq] at hn
    refine ⟨UInt8.ofNat n.toNat :: l, by simp [h1], ?_⟩
    simp only [byteVals, List.map_cons] at h2 ⊢
    rw [h2]
    congr 3
    have : (UInt8.ofNat n.toNat).toNat = n.toNat := by simp; omega
    rw [this]; omega

theorem bytes_arg {H : Type} {enc : TypeId × Value → H} {P : Program} {W : World} {t e : TypeId} {v : Value} {d : DataW H} {p : List MemPlace} (ht : P.underlying t = some (.slice e)) (he : P.underlying e = some (.int .u8)) (hc : P.cellsOf e = 1)
    (hv : Value.okWide P W .any 0 t v) (h : DataW.Trod enc P W 0 (fun _ => true) true t v d p) :
    ∃ (x : AV) (l : List UInt8), IsV 1 x (byteVals l) ∧ VR (C0 W) W x v ∧ ((d = .nil ∧ l = []) ∨ ∃ zs rest, d = .slice (lits .u8 zs) rest ∧ byteVals l = zs.map (fun n => AV.sc (.int .u8 n))) := by
  obtain ⟨a0, len, cap, rfl⟩ := okWide_slice ht hv
  obtain ⟨fuel, hf⟩ := h
  rcases open_ints ht he hc hf with ⟨hcs, hx⟩ | ⟨a, len', cap', zs, hcs, _, hl, hm, hz, hx, hcell, hwz⟩
  · simp [Value.cells] at hcs
    obtain ⟨rfl, rfl, rfl⟩ := hcs
    simp only [Prod.mk.injEq] at hx
    exact ⟨.sc (.slice none 0 0), [], .nil 1, .sc _, .inl ⟨hx.1, rfl⟩⟩
  · simp [Value.cells] at hcs
    obtain ⟨rfl, rfl, rfl⟩ := hcs
    simp only [Prod.mk.injEq] at hx
    obtain ⟨rfl, rfl⟩ := hx
    simp only [if_true] at hz
    obtain ⟨l, h1, h2⟩ := bytes_of_ints (zs.take len) (fun n hn => hwz n (List.mem_of_mem_take hn))
    have hlt : (zs.take len).length = len := by simp; omega
    refine ⟨.vec 0 1 (byteVals l), l, .vec 0 1 _, ?_, .inr ⟨_, _, rfl, h2⟩⟩
    have hbl : (byteVals l).length = len := by rw [byteVals_length]; omega
    by_cases h0 : len = 0
    · subst h0
      have : byteVals l = [] := List.eq_nil_of_length_eq_zero hbl
      rw [this]
      exact .vec0 1 a cap
    · have hc0 := hcell 0 (by omega)
      obtain ⟨b, off, spot⟩ := a
      have hspot : spot = none := by simpa [Addr.add] using World.cell?_spot hc0
      subst hspot
      have hb : b < W.heap.size := by simpa [Addr.add] using cell_block_lt hc0
      have hcl : ∀ i, i < len → W.cell? ⟨b, off + i, none⟩ = some (.int .u8 (zs.getD i 0)) := fun i hi => by
        have := hcell i (by omega)
        rwa [add_plain] at this
      have key := VR.vec (C := C0 W) (w := W) 0 1 (byteVals l) (byteVals l) b off cap (fun i => .int .u8 (zs.getD i 0)) (by decide) (by omega) (byteVals_flat l) hb (C0.free W b)
        (by
          have := hcl (len - 1) (by omega)
          rw [hbl]
          simp only [C0]
          unfold World.cell? at this
          split at this
          · rename_i c _ _ hh
            simp only at hh
            rw [hh]
            simp only
            have := (Array.getElem?_eq_some_iff.1 this).1
            simp only at this
            omega
          · cases this)
        (fun i hi => hcl i (by omega))
        (fun i x hix => by
          rw [h2, List.getElem?_map] at hix
          have hi : i < len := by
            have := (List.getElem?_eq_some_iff.1 (by rw [h2, List.getElem?_map]; exact hix : (byteVals l)[i]? = some x)).1
            omega
          rw [List.getElem?_take_of_lt hi] at hix
          rw [List.getD_eq_getElem?_getD]
          cases hzi : zs[i]? with
          | none => rw [hzi] at hix; cases hix
          | some n => rw [hzi] at hix; simp at hix; subst hix; exact .sc _)
        (fun h => by omega) (fun h => by omega) (fun h => by omega)
      rw [hbl] at key
      exact key
end Go.Abs
