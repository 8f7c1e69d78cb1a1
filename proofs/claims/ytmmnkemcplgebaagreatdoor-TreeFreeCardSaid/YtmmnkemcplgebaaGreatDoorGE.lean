/-
  Arguments: a slice of structs, by value.
-/
import Derived.Test.YtmmnkemcplgebaaGreatDoorFG
import Derived.Deep.Slices
section
set_option linter.unusedSimpArgs false
set_option linter.unusedVariables false
set_option maxRecDepth 100000
namespace Go.Abs
open Go.ChangeShapes Go.WideShapes
theorem cell_block_lt {w : World} {a : Addr} {v : Value} (h : w.cell? a = some v) : a.block < w.heap.size := by
  unfold World.cell? at h
  split at h
  · rename_i hb; exact (Array.getElem?_eq_some_iff.1 hb).1
  · cases h
theorem flat_aggs {sz : Nat} (Cs : Nat → List AV) : ∀ n, (∀ i, i < n → (Cs i).length = sz ∧ (Cs i).all okCell = true) → flat? sz ((List.range n).map fun i => .agg (Cs i)) = some ((List.range n).flatMap Cs) := by
  suffices h : ∀ l : List Nat, (∀ i ∈ l, (Cs i).length = sz ∧ (Cs i).all okCell = true) → flat? sz (l.map fun i => .agg (Cs i)) = some (l.flatMap Cs) from
    fun n hn => h _ fun i hi => hn i (by simpa using hi)
  intro l
  induction l with
  | nil => intro _; rfl
  | cons a r ih =>
    intro h
    have ha := h a (List.mem_cons_self ..)
    have := ih fun i hi => h i (List.mem_cons_of_mem _ hi)
    simp only [List.map_cons, flat?, this, cellsOf, ha.1, ha.2, and_self, if_true, List.flatMap_cons]
theorem flatMap_len {sz : Nat} (Cs : Nat → List AV) : ∀ n, (∀ i, i < n → (Cs i).length = sz) → ((List.range n).flatMap Cs).length = n * sz
  | 0, _ => by simp
  | n + 1, h => by
    have ih := flatMap_len Cs n fun i hi => h i (by omega)
    simp only [List.range_succ, List.flatMap_append, List.length_append, ih, List.flatMap_cons, List.flatMap_nil, List.append_nil, h n (by omega)]
    rw [Nat.succ_mul]
theorem flatMap_at {sz : Nat} (Cs : Nat → List AV) : ∀ n, (∀ i, i < n → (Cs i).length = sz) → ∀ k x, ((List.range n).flatMap Cs)[k]? = some x → ∃ i r, i < n ∧ r < sz ∧ k = i * sz + r ∧ (Cs i)[r]? = some x
  | 0, _, k, x, h => by simp at h
  | n + 1, hl, k, x, h => by
    have hlen := flatMap_len Cs n fun i hi => hl i (by omega)
    simp only [List.range_succ, List.flatMap_append, List.flatMap_cons, List.flatMap_nil, List.append_nil] at h
    by_cases hk : k < n * sz
    · rw [List.getElem?_append_left (by omega)] at h
      obtain ⟨i, r, h1, h2, h3, h4⟩ := flatMap_at Cs n (fun i hi => hl i (by omega)) k x h
      exact ⟨i, r, by omega, h2, h3, h4⟩
    · rw [List.getElem?_append_right (by omega), hlen] at h
      have hr : k - n * sz < sz := by
        have := (List.getElem?_eq_some_iff.1 h).1
        rwa [hl n (by omega)] at this
      exact ⟨n, k - n * sz, by omega, hr, by omega, h⟩
theorem vr_vec {W : World} {a : Addr} {len cap sz : Nat} (hsz : 0 < sz) (hlc : len ≤ cap) (Cs : Nat → List AV) (Vs : Nat → List Value) (hC : ∀ i, i < len → (Cs i).length = sz ∧ (Cs i).all okCell = true ∧ LR (C0 W) W (Cs i) (Vs i))
    (hW : ∀ i, i < len → W.cells? 0 (a.add (i * sz)) sz = some (Vs i)) : VR (C0 W) W (.vec 0 sz ((List.range len).map fun i => .agg (Cs i))) (.slice (some a) len cap) := by
  by_cases h0 : len = 0
  · subst h0
    exact .vec0 sz a cap
  · have hcell : ∀ i, i < len → ∀ r, r < sz → W.cell? (a.add (i * sz + r)) = (Vs i)[r]? := fun i hi r hr => by
      have := (World.cells?_some (hW i hi)).2.2 r hr
      rwa [Go.Deep.add_add] at this
    have hVl : ∀ i, i < len → (Vs i).length = sz := fun i hi => (World.cells?_some (hW i hi)).2.1
    obtain ⟨b, off, spot⟩ := a
    have hc0 := hcell 0 (by omega) 0 hsz
    rw [List.getElem?_eq_getElem (by rw [hVl 0 (by omega)]; exact hsz)] at hc0
    have hspot : spot = none := by simpa [Addr.add] using World.cell?_spot hc0
    subst hspot
    have hb : b < W.heap.size := by simpa [Addr.add] using cell_block_lt hc0
    have hcl : ∀ i, i < len → ∀ r, r < sz → W.cell? ⟨b, off + (i * sz + r), none⟩ = (Vs i)[r]? := fun i hi r hr => by
      have := hcell i hi r hr
      rwa [add_plain] at this
    have hfl := flat_aggs (sz := sz) Cs len fun i hi => ⟨(hC i hi).1, (hC i hi).2.1⟩
    have hfn := flatMap_len (sz := sz) Cs len fun i hi => (hC i hi).1
    have hat := flatMap_at (sz := sz) Cs len fun i hi => (hC i hi).1
    have hex : ∀ k, k < ((List.range len).flatMap Cs).length → ∃ v, W.cell? ⟨b, off + k, none⟩ = some v := fun k hk => by
      obtain ⟨i, r, h1, h2, rfl, h4⟩ := hat k _ (List.getElem?_eq_getElem hk)
      have := hcl i h1 r h2
      rw [List.getElem?_eq_getElem (by rw [hVl i h1]; exact h2)] at this
      exact ⟨_, this⟩
    have hlast : off + len * sz ≤ (C0 W).top b := by
      have h1 : (len - 1) * sz + (sz - 1) = len * sz - 1 := by
        have : len * sz = (len - 1) * sz + sz := by
          have := Nat.succ_mul (len - 1) sz
          rwa [show (len - 1).succ = len by omega] at this
        omega
      have hpos : 0 < len * sz := Nat.mul_pos (by omega) hsz
      have := hcl (len - 1) (by omega) (sz - 1) (by omega)
      rw [List.getElem?_eq_getElem (by rw [hVl _ (by omega)]; omega)] at this
      simp only [C0]
      unfold World.cell? at this
      split at this
      · rename_i c _ _ hh
        simp only at hh
        rw [hh]
        simp only
        have := (Array.getElem?_eq_some_iff.1 this).1
        simp only at this
        omega
      · cases this
    have key := VR.vec (C := C0 W) (w := W) 0 sz ((List.range len).map fun i => .agg (Cs i)) ((List.range len).flatMap Cs) b off cap (fun k => (W.cell? ⟨b, off + k, none⟩).getD undef) hsz (by simpa using hlc) hfl hb (C0.free W b)
      (by rw [hfn]; exact hlast)
      (fun k hk => by
        obtain ⟨v, hv⟩ := hex k hk
        rw [hv]; rfl)
      (fun k x hk => by
        obtain ⟨i, r, h1, h2, rfl, h4⟩ := hat k x hk
        have h5 := hcl i h1 r h2
        obtain ⟨v, h6, h7⟩ := (hC i h1).2.2.get h4
        rw [h5, h6]
        exact h7)
      (fun h => by omega) (fun h => by omega) (fun h => by omega)
    simpa using key
end Go.Abs
end
