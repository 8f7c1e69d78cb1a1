/-
  More of the calculus.
-/
import Derived.Test.YtaacibffjmbfiaaDoorBits
set_option linter.unusedSimpArgs false
set_option linter.unusedVariables false
set_option maxRecDepth 100000
namespace Go.Abs
/-- What is known of the temporaries here is enough. -/
theorem ends_base {E : Env} {nt : Nat} {k : List KI} {o : Out} {tm : PM AV} {S : St} {Q : PostA} (F : PM AV → Prop) (h : F tm) (h2 : ∀ tm, F tm → EndsA E nt k o tm S Q) : EndsA E nt k o tm S Q := h2 tm h
end Go.Abs
namespace Go.Abs
theorem group_step' {v m k : Nat} (hv : v < 128 ^ k) (hk : k ≤ 9) (hm : m * 128 ^ k < 2 ^ 64) : bitsV .or .u64 (v : Int) (IntKind.u64.wrap ((m : Int) * 2 ^ min (7 * (k : Int)).toNat IntKind.u64.bits)) = ((v + m * 128 ^ k : Nat) : Int) := by
  have e1 : min (7 * (k : Int)).toNat IntKind.u64.bits = 7 * k := by simp [IntKind.bits]; omega
  have h1 : 128 ^ k ≤ 128 ^ 9 := Nat.pow_le_pow_right (by decide) hk
  have h3 : (128 : Nat) ^ 9 = 9223372036854775808 := by decide
  rw [e1]
  have e2 : (m : Int) * 2 ^ (7 * k) = ((m * 128 ^ k : Nat) : Int) := by rw [pow128]; simp
  rw [e2, wrap_u64 (by omega) (by omega), or_u64 _ _ (by omega) hm, pow128]
  rw [pow128] at hv
  rw [or_disj hv]
end Go.Abs
