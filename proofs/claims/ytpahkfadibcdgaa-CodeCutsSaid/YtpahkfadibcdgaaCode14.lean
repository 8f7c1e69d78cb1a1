/-
  Chapter 14, plain: bytes cut short.
-/
import Derived.Test.YtpahkfadibcdgaaCode12
import Derived.Test.YtpahkfadibcdgaaMaps
set_option linter.unusedSimpArgs false
set_option linter.unusedVariables false
namespace Go.Proofs.Ytpahkfadibcdgaa
open Go.Abs
theorem grpG_ext : ∀ (l : List UInt8) (k v u m : Nat) (q : List UInt8), grpG k v l = some (u, m) → grpG k v (l ++ q) = some (u, m)
  | [], k, v, u, m, q, h => by simp [grpG] at h
  | c :: r, k, v, u, m, q, h => by
    simp only [List.cons_append, grpG] at h ⊢
    split at h
    · cases h
    · rename_i h1
      rw [if_neg h1]
      split at h
      · cases h
      · rename_i h2
        rw [if_neg h2]
        split at h
        · rename_i h3
          rw [if_pos h3]
          exact h
        · rename_i h3
          rw [if_neg h3]
          exact grpG_ext r _ _ u m q h
theorem get1_ext {f : Bool} {l q : List UInt8} {a : Int} {m : Nat} (h : get1 f l = some (a, m)) : get1 f (l ++ q) = some (a, m) := by
  unfold get1 at h ⊢
  cases f with
  | false => exact h
  | true =>
    simp only [if_true] at h ⊢
    cases hg : grpG 0 0 l with
    | none => rw [hg] at h; cases h
    | some p =>
      obtain ⟨u, n⟩ := p
      rw [hg] at h
      rw [grpG_ext _ _ _ _ _ q hg]
      exact h
theorem getF_ext {l q : List UInt8} {i : InstrV} {m : Nat} (h : getF l = some (i, m)) : getF (l ++ q) = some (i, m) := by
  cases l with
  | nil => cases h
  | cons c r =>
    simp only [List.cons_append, getF] at h ⊢
    split at h
    · cases h
    · rename_i a m1 h1
      rw [get1_ext h1]
      simp only
      split at h
      · cases h
      · rename_i b m2 h2
        have : (r ++ q).drop m1 = r.drop m1 ++ q := by rw [List.drop_append_of_le_length (get1_le h1)]
        rw [this, get1_ext h2]
        exact h
theorem putS_pos {i : InstrV} (hg : i.good) : 0 < (putS i).length := by simp [putS, hg]
theorem getF_cut {i : InstrV} (h : i.wf) (hg : i.good) {n : Nat} (hn : n < (putS i).length) : getF ((putS i).take n) = none := by
  cases hf : getF ((putS i).take n) with
  | none => rfl
  | some q =>
    obtain ⟨j, m⟩ := q
    have h1 := getF_ext (q := (putS i).drop n) hf
    rw [List.take_append_drop] at h1
    have h2 := get_put h hg []
    rw [List.append_nil, h1] at h2
    simp only [Option.some.injEq, Prod.mk.injEq] at h2
    have h3 := getF_pos hf
    simp at h3
    omega
theorem all_cut_none : ∀ {is : List InstrV} (n : Nat), (∀ i ∈ is, i.wf ∧ i.good) → n ≤ (putAll is).length → (∀ j, j ≤ is.length → n ≠ (putAll (is.take j)).length) → allF ((putAll is).take n) = none
  | [], n, _, hn, hj => by
    have := hj 0 (by simp)
    simp [putAll] at hn this
    omega
  | i :: r, n, hw, hn, hj => by
    have hi := hw i (List.mem_cons_self ..)
    have h0 := hj 0 (by simp)
    simp [putAll] at h0
    simp only [putAll] at hn ⊢
    by_cases hlt : n < (putS i).length
    · rw [List.take_append_of_le_length (by omega)]
      refine allF_none (getF_cut hi.1 hi.2 hlt) fun e => ?_
      have := congrArg List.length e
      rw [List.length_take, List.length_nil] at this
      omega
    · have hsp : (putS i ++ putAll r).take n = putS i ++ (putAll r).take (n - (putS i).length) := by
        rw [List.take_append, List.take_of_length_le (by omega)]
      rw [hsp, allF_some (get_put hi.1 hi.2 _), List.drop_left, all_cut_none (n - (putS i).length) (fun j hj => hw j (List.mem_cons_of_mem _ hj)) (by simp at hn; omega) (fun j hjl => by
        have := hj (j + 1) (by simp; omega)
        simp [putAll] at this
        omega)]
      rfl
def endF (is : List InstrV) : Nat → Int → Option Int
  | 0, c => if c = 0 then some 0 else none
  | k + 1, c => if c = (((putAll (is.take (k + 1))).length : Nat) : Int) then some ((k + 1 : Nat) : Int) else endF is k c
theorem endF_some {is : List InstrV} : ∀ (k : Nat) {c v : Int}, endF is k c = some v → ∃ j : Nat, j ≤ k ∧ v = (j : Int) ∧ c = (((putAll (is.take j)).length : Nat) : Int)
  | 0, c, v, h => by
    simp only [endF] at h
    split at h
    · rename_i h1; cases h; exact ⟨0, by omega, rfl, by simpa [putAll] using h1⟩
    · cases h
  | k + 1, c, v, h => by
    simp only [endF] at h
    split at h
    · rename_i h1; cases h; exact ⟨k + 1, by omega, rfl, h1⟩
    · obtain ⟨j, h1, h2⟩ := endF_some k h; exact ⟨j, by omega, h2⟩
theorem endF_none {is : List InstrV} : ∀ (k : Nat) {c : Int}, endF is k c = none → ∀ j : Nat, j ≤ k → c ≠ (((putAll (is.take j)).length : Nat) : Int)
  | 0, c, h, j, hj => by
    have : j = 0 := by omega
    subst this
    simp only [endF] at h
    split at h
    · cases h
    · rename_i h1; simpa [putAll] using h1
  | k + 1, c, h, j, hj => by
    simp only [endF] at h
    split at h
    · cases h
    · rename_i h1
      by_cases e : j = k + 1
      · subst e; exact h1
      · exact endF_none k h j (by omega)
theorem putAll_split (is : List InstrV) (j : Nat) : putAll is = putAll (is.take j) ++ putAll (is.drop j) := by rw [← putAll_app, List.take_append_drop]
/-- What a cut answers. -/
theorem cut_law {is : List InstrV} (hw : ∀ i ∈ is, i.wf ∧ i.good) (n : Nat) (hn : n ≤ (putAll is).length) :
    match endF is is.length (n : Int) with
    | some v => ∃ x, allF ((putAll is).take n) = some x ∧ ((x.length : Nat) : Int) = v
    | none => allF ((putAll is).take n) = none := by
  cases he : endF is is.length (n : Int) with
  | some v =>
    obtain ⟨j, h1, rfl, h2⟩ := endF_some _ he
    have h3 : n = (putAll (is.take j)).length := by omega
    refine ⟨is.take j, ?_, by simp; omega⟩
    rw [putAll_split is j, h3, List.take_left]
    exact all_puts fun i hi => hw i (List.mem_of_mem_take hi)
  | none =>
    refine all_cut_none n hw hn fun j hj e => ?_
    exact endF_none _ he j hj (by rw [e])
end Go.Proofs.Ytpahkfadibcdgaa
