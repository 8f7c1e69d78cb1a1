/-
  Groups of seven bits, read: plain.
-/
import Derived.Test.YtpahkfadibcdgaaSnap1
import Derived.Test.YtpahkfadibcdgaaBits2
set_option linter.unusedSimpArgs false
set_option linter.unusedVariables false
namespace Go.Proofs.Ytpahkfadibcdgaa
open Go.Abs
def grpG (k v : Nat) : List UInt8 → Option (Nat × Nat)
  | [] => none
  | c :: r => if 10 ≤ k then none else if k = 9 ∧ 1 < c.toNat then none else if c.toNat < 128 then (if c.toNat = 0 ∧ 0 < k then none else some (v + c.toNat % 128 * 128 ^ k, k + 1)) else grpG (k + 1) (v + c.toNat % 128 * 128 ^ k) r

theorem grpG_pos : ∀ (l : List UInt8) (k v : Nat) {a m : Nat}, grpG k v l = some (a, m) → k < m ∧ m ≤ k + l.length
  | [], _, _, _, _, h => by simp [grpG] at h
  | c :: r, k, v, a, m, h => by
    rw [grpG] at h
    split at h
    · simp at h
    · split at h
      · simp at h
      · split at h
        · split at h
          · simp at h
          · simp only [Option.some.injEq, Prod.mk.injEq] at h
            simp; omega
        · have := grpG_pos r _ _ h
          simp; omega
end Go.Proofs.Ytpahkfadibcdgaa
