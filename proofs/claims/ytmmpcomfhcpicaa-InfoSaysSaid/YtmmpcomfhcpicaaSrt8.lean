/-
  Chapter 16's law InfoApart: what holds of names and lines, plain.
-/
import Derived.Test.YtmmpcomfhcpicaaSrt7
set_option linter.unusedSimpArgs false
set_option linter.unusedVariables false
set_option maxRecDepth 100000
namespace Go.Proofs.Ytmmpcomfhcpicaa
open Go.Abs
open Go.Shelf Go Go.Sort Go.RowKit
theorem srtV_sorted (xs : List VarV) (i j : Nat) (hi : i < (srtV xs).length) (hj : j < (srtV xs).length) (hij : i < j) : ltOf cmpV (srtV xs)[j] (srtV xs)[i] = false := by
  have h := (pdq_sorts (ltOf cmpV) swoV xs.toArray 0 xs.toArray.size (Lib.bitLen xs.toArray.size) true true (Nat.zero_le _) (Nat.le_refl _) (Or.inl rfl)).2
  rw [← srtV_eq] at h
  have hl := srtV_len xs
  have h2 := h i j (Nat.zero_le _) hij (by simp; omega)
  rw [getElem!_pos _ _ (by simpa using hj), getElem!_pos _ _ (by simpa using hi)] at h2
  simpa using h2
theorem names_ne {pc : Int} {l : List VarV} (hs : ∀ i j (hi : i < l.length) (hj : j < l.length), i < j → ltOf cmpV l[j] l[i] = false) (hg : GoodSorted l) (i j : Nat) (hi : i < l.length) (hj : j < l.length) (hij : i < j) (h1 : inS pc l[i] = true) (h2 : inS pc l[j] = true) : l[i].name.data.toList ≠ l[j].name.data.toList := by
  intro e
  have hi1 : i + 1 < l.length := by omega
  simp only [inS, Bool.and_eq_true, decide_eq_true_eq] at h1 h2
  have g := (hg (i + 1) hi1).2 (by omega)
  simp only [Nat.add_sub_cancel] at g
  have nlt : ∀ a b (ha : a < l.length) (hb : b < l.length), a < b → ¬ (l[b].name.data.toList < l[a].name.data.toList) ∧ ¬ (l[b].name.data.toList = l[a].name.data.toList ∧ l[b].frm < l[a].frm) := fun a b ha hb hab => by
    have h := hs a b ha hb hab
    rw [← Bool.not_eq_true, ltV_iff] at h
    exact ⟨fun q => h (.inl q), fun q => h (.inr q)⟩
  have q1 := (nlt i (i + 1) hi hi1 (by omega)).1
  have en : l[i].name.data.toList = l[i + 1].name.data.toList := by
    by_cases hj1 : i + 1 = j
    · subst hj1; exact e
    · have q2 := (nlt (i + 1) j hi1 hj (by omega)).1
      rcases tri l[i].name.data.toList l[i + 1].name.data.toList with a | a | a
      · rw [e] at a; exact absurd a q2
      · exact a
      · exact absurd a q1
  have en2 : l[i].name.toList = l[i + 1].name.toList := by rw [ByteArray.toList_eq, ByteArray.toList_eq]; exact en
  have g1 : ¬ l[i + 1].frm < l[i].to := fun q => g ⟨en2, q⟩
  by_cases hj1 : i + 1 = j
  · subst hj1; omega
  · have q3 := (nlt (i + 1) j hi1 hj (by omega)).2
    have : ¬ l[j].frm < l[i + 1].frm := fun q => q3 ⟨by rw [← e, en], q⟩
    omega
/-- The names at a place, in order: each once. -/
theorem names_strict {pc : Int} {vs C : List VarV} (hg : GoodSorted (srtV vs)) (hp : C.Perm (vs.filter (inS pc))) (hs : SortedV C) : C.Pairwise ltN := by
  have h1 : (srtV vs).Pairwise fun a b => inS pc a = true → inS pc b = true → a.name.data.toList ≠ b.name.data.toList := by
    rw [List.pairwise_iff_getElem]
    intro i j hi hj hij a b
    exact names_ne (srtV_sorted vs) hg i j hi hj hij a b
  have h2 : ((srtV vs).filter (inS pc)).Pairwise fun a b => a.name.data.toList ≠ b.name.data.toList := List.pairwise_filter.2 h1
  have h3 : C.Pairwise fun a b => a.name.data.toList ≠ b.name.data.toList :=
    (List.Perm.pairwise_iff (fun {a b} h e => h e.symm) (hp.trans ((srtV_perm vs).filter _).symm)).2 h2
  refine (hs.and h3).imp fun {a b} ⟨q1, q2⟩ => ?_
  unfold ltN at *
  rcases tri a.name.data.toList b.name.data.toList with h | h | h
  · exact h
  · exact absurd h q2
  · exact absurd h q1
/-! Lines. -/
/-! Strings held against each other. -/
theorem bytesLess_lt : ∀ a b : List UInt8, Go.Op.bytesLess a b = decide (a < b)
  | [], [] => by simp [Go.Op.bytesLess]
  | [], _ :: _ => by simp [Go.Op.bytesLess]
  | _ :: _, [] => by simp [Go.Op.bytesLess]
  | x :: a, y :: b => by
    rw [Go.Op.bytesLess, bytesLess_lt a b, Bool.eq_iff_iff]
    simp [List.cons_lt_cons_iff]
/-! The lines that a map holds. -/
end Go.Proofs.Ytmmpcomfhcpicaa
