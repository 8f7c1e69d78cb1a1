/-
  Numbers and pieces as the reference reads them: the same pieces.
-/
import Derived.Test.YtpahkfadibcdgaaSnap4
import Derived.Test.YtpahkfadibcdgaaGrp
set_option linter.unusedSimpArgs false
set_option linter.unusedVariables false
namespace Go.Proofs.Ytpahkfadibcdgaa
open Go.Abs

/-- The two readings. -/
theorem grp_rd : ∀ (l : List UInt8) (k v : Nat), k ≤ 9 →
    (∀ a m, rdG k v l = some (a, m, true) → grpG k v l = some (a, m)) ∧ (∀ a m, grpG k v l = some (a, m) → rdG k v l = some (a, m, true) ∨ 2 ^ 63 ≤ a)
  | [], k, v, _ => by simp [rdG, grpG]
  | c :: r, k, v, hk => by
    by_cases h9 : k = 9
    · subst h9
      refine ⟨fun a m h => by simp [rdG] at h, fun a m h => .inr ?_⟩
      rw [grpG, if_neg (by omega)] at h
      split at h
      · simp at h
      · rename_i h1
        split at h
        · split at h
          · simp at h
          · rename_i h2
            simp only [Option.some.injEq, Prod.mk.injEq] at h
            have hc : c.toNat = 1 := by omega
            rw [hc] at h
            have : (128 : Nat) ^ 9 = 2 ^ 63 := by decide
            omega
        · rename_i h2; omega
    · have hk9 : k < 9 := by omega
      rw [rdG, if_neg (show ¬ 9 ≤ k by omega), grpG, if_neg (show ¬ 10 ≤ k by omega), if_neg (show ¬ (k = 9 ∧ 1 < c.toNat) by omega)]
      by_cases hc : c.toNat < 128
      · rw [if_pos hc, if_pos hc]
        by_cases hz : c.toNat = 0 ∧ 0 < k
        · rw [if_pos hz]
          refine ⟨fun a m h => ?_, fun a m h => by simp at h⟩
          simp at h
          omega
        · rw [if_neg hz]
          refine ⟨fun a m h => ?_, fun a m h => .inl ?_⟩
          · simp at h ⊢; exact ⟨h.1, h.2.1⟩
          · simp at h ⊢
            exact ⟨h.1, h.2, by omega⟩
      · rw [if_neg hc, if_neg hc]
        exact grp_rd r (k + 1) _ (by omega)

/-- A piece, as the reference reads it. -/
def pieceG (old : List UInt8) : List UInt8 → Option (List UInt8 × List UInt8)
  | [] => none
  | kind :: rest =>
    if kind.toNat = 1 then
      match grpG 0 0 rest with
      | some (v, m) =>
        match grpG 0 0 (rest.drop m) with
        | some (v2, m2) => if v2 = 0 ∨ old.length < v ∨ old.length - v < v2 then none else some ((old.drop v).take v2, (rest.drop m).drop m2)
        | none => none
      | none => none
    else if kind.toNat = 2 then
      match grpG 0 0 rest with
      | some (v2, m2) => if v2 = 0 ∨ (rest.drop m2).length < v2 then none else some ((rest.drop m2).take v2, (rest.drop m2).drop v2)
      | none => none
    else none

theorem rd_cases (l : List UInt8) : (∃ a m, rdG 0 0 l = some (a, m, true) ∧ grpG 0 0 l = some (a, m)) ∨ ((∀ a m, rdG 0 0 l ≠ some (a, m, true)) ∧ (grpG 0 0 l = none ∨ ∃ a m, grpG 0 0 l = some (a, m) ∧ 2 ^ 63 ≤ a)) := by
  obtain ⟨h1, h2⟩ := grp_rd l 0 0 (by decide)
  by_cases h : ∃ a m, rdG 0 0 l = some (a, m, true)
  · obtain ⟨a, m, h⟩ := h
    exact .inl ⟨a, m, h, h1 a m h⟩
  · refine .inr ⟨fun a m e => h ⟨a, m, e⟩, ?_⟩
    cases hg : grpG 0 0 l with
    | none => exact .inl rfl
    | some q =>
      obtain ⟨a, m⟩ := q
      rcases h2 a m hg with e | e
      · exact absurd ⟨a, m, e⟩ h
      · exact .inr ⟨a, m, rfl, e⟩

theorem piece_same (old p : List UInt8) (ho : old.length < 2 ^ 63) (hp : p.length < 2 ^ 63) : pieceG old p = pieceF old p := by
  cases p with
  | nil => rfl
  | cons kind rest =>
    simp at hp
    simp only [pieceG, pieceF]
    by_cases h1 : kind.toNat = 1
    · rw [if_pos h1, if_pos h1]
      rcases rd_cases rest with ⟨a, m, e1, e2⟩ | ⟨hn, hg⟩
      · rw [e1, e2]
        simp only
        rcases rd_cases (rest.drop m) with ⟨a2, m2, e3, e4⟩ | ⟨hn, hg⟩
        · rw [e3, e4]
        · have hr : ∀ (f : Nat → Nat → Option (List UInt8 × List UInt8)), none = (match rdG 0 0 (rest.drop m) with | some (v2, m2, true) => f v2 m2 | _ => none) := fun f => by
            split
            · rename_i e; exact absurd e (hn _ _)
            · rfl
          rcases hg with hg | ⟨a2, m2, hg, h63⟩
          · rw [hg]; exact hr fun v2 m2 => if v2 = 0 ∨ old.length < a ∨ old.length - a < v2 then none else some ((old.drop a).take v2, (rest.drop m).drop m2)
          · rw [hg]; simp only; rw [if_pos (by omega)]
      · have hR : ∀ (f : Nat → Nat → Option (List UInt8 × List UInt8)), none = (match rdG 0 0 rest with | some (v, m, true) => f v m | _ => none) := fun f => by
          split
          · rename_i e; exact absurd e (hn _ _)
          · rfl
        refine Eq.trans (b := none) ?_ (hR fun v m => match rdG 0 0 (rest.drop m) with
          | some (v2, m2, true) => if v2 = 0 ∨ old.length < v ∨ old.length - v < v2 then none else some ((old.drop v).take v2, (rest.drop m).drop m2)
          | _ => none)
        rcases hg with hg | ⟨a, m', hg, h63⟩
        · rw [hg]
        · rw [hg]
          simp only
          split
          · rw [if_pos (by omega)]
          · rfl
    · rw [if_neg h1, if_neg h1]
      by_cases h2 : kind.toNat = 2
      · rw [if_pos h2]
        rcases rd_cases rest with ⟨a, m, e1, e2⟩ | ⟨hn, hg⟩
        · rw [e1, e2]; simp only [h2, ne_eq, not_true_eq_false, false_or]
        · have hR : ∀ (f : Nat → Nat → Option (List UInt8 × List UInt8)), none = (match rdG 0 0 rest with | some (v, m, true) => f v m | _ => none) := fun f => by
            split
            · rename_i e; exact absurd e (hn _ _)
            · rfl
          refine Eq.trans (b := none) ?_ (hR fun v2 m2 => if v2 = 0 ∨ kind.toNat ≠ 2 ∨ (rest.drop m2).length < v2 then none else some ((rest.drop m2).take v2, (rest.drop m2).drop v2))
          rcases hg with hg | ⟨a, m', hg, h63⟩
          · rw [hg]
          · rw [hg]
            simp only
            rw [if_pos (by simp; omega)]
      · rw [if_neg h2]
        split
        · rw [if_pos (by omega)]
        · rfl
end Go.Proofs.Ytpahkfadibcdgaa
