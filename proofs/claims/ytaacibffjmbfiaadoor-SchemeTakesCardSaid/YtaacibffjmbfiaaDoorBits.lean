/-
  Bits of numbers, as plain arithmetic.
-/
import Derived.Test.YtaacibffjmbfiaaDoorAbs17
set_option linter.unusedSimpArgs false
set_option linter.unusedVariables false
set_option maxRecDepth 100000
namespace Go.Abs

theorem low7 : ∀ m : Fin 256, bitsV .andNot .u8 (m.val : Int) 128 = ((m.val % 128 : Nat) : Int) := by decide +kernel
theorem low7' : ∀ m : Fin 256, bitsV .and .u8 (m.val : Int) 127 = ((m.val % 128 : Nat) : Int) := by decide +kernel
theorem top1 : ∀ m : Fin 256, (bitsV .and .u8 (m.val : Int) 128 == 0) = decide (m.val < 128) := by decide +kernel
theorem or128 : ∀ m : Fin 256, bitsV .or .u8 (m.val : Int) 128 = ((UInt8.ofNat (m.val % 128 + 128)).toNat : Int) := by decide +kernel
theorem low7_u8 (c : UInt8) : bitsV .andNot .u8 (c.toNat : Int) 128 = ((c.toNat % 128 : Nat) : Int) := low7 ⟨c.toNat, c.toNat_lt⟩
theorem and127_u8 (c : UInt8) : bitsV .and .u8 (c.toNat : Int) 127 = ((c.toNat % 128 : Nat) : Int) := low7' ⟨c.toNat, c.toNat_lt⟩
theorem top1_u8 (c : UInt8) : (bitsV .and .u8 (c.toNat : Int) 128 == 0) = decide (c.toNat < 128) := top1 ⟨c.toNat, c.toNat_lt⟩
theorem wrap_u8' (n : Nat) : IntKind.u8.wrap (n : Int) = ((n % 256 : Nat) : Int) := by simp [IntKind.wrap, IntKind.bits, IntKind.signed]
theorem orMore (n : Nat) : bitsV .or .u8 (IntKind.u8.wrap (n : Int)) 128 = ((UInt8.ofNat (n % 128 + 128)).toNat : Int) := by
  have := or128 ⟨n % 256, Nat.mod_lt _ (by decide)⟩
  rw [wrap_u8', this]
  simp only
  rw [show n % 256 % 128 = n % 128 by omega]
theorem lowByte {n : Nat} (h : n < 256) : IntKind.u8.wrap (n : Int) = ((UInt8.ofNat n).toNat : Int) := by
  rw [wrap_u8']; simp
theorem ofInt_nat (a : Nat) : BitVec.ofInt 64 (a : Int) = BitVec.ofNat 64 a := by
  apply BitVec.eq_of_toNat_eq
  simp [BitVec.toNat_ofInt]
theorem or_u64 (a b : Nat) (ha : a < 2 ^ 64) (hb : b < 2 ^ 64) : bitsV .or .u64 (a : Int) (b : Int) = ((a ||| b : Nat) : Int) := by
  have h : a ||| b < 2 ^ 64 := Nat.or_lt_two_pow ha hb
  have e : bitsV .or .u64 (a : Int) (b : Int) = IntKind.u64.wrap (((BitVec.ofInt 64 (a : Int) ||| BitVec.ofInt 64 (b : Int)).toNat : Nat) : Int) := rfl
  rw [e, ofInt_nat, ofInt_nat, BitVec.toNat_or, BitVec.toNat_ofNat, BitVec.toNat_ofNat, Nat.mod_eq_of_lt ha, Nat.mod_eq_of_lt hb]
  exact wrap_u64 (by omega) (by omega)
theorem or_disj {v m k : Nat} (h : v < 2 ^ k) : v ||| m * 2 ^ k = v + m * 2 ^ k := by
  have := Nat.two_pow_add_eq_or_of_lt h m
  rw [Nat.or_comm, Nat.mul_comm, ← this, Nat.add_comm, Nat.mul_comm]
theorem pow128 (k : Nat) : 128 ^ k = 2 ^ (7 * k) := by
  rw [Nat.pow_mul]
/-- One group more of a number. -/
theorem group_step {v m k : Nat} (hv : v < 128 ^ k) (hm : m < 128) (hk : k < 9) : bitsV .or .u64 (v : Int) (IntKind.u64.wrap ((m : Int) * 2 ^ min (7 * (k : Int)).toNat IntKind.u64.bits)) = ((v + m * 128 ^ k : Nat) : Int) := by
  have e1 : min (7 * (k : Int)).toNat IntKind.u64.bits = 7 * k := by simp [IntKind.bits]; omega
  have h1 : 128 ^ k ≤ 128 ^ 8 := Nat.pow_le_pow_right (by decide) (by omega)
  have h2 : m * 128 ^ k ≤ 127 * 128 ^ 8 := Nat.mul_le_mul (by omega) h1
  have h3 : (128 : Nat) ^ 8 = 72057594037927936 := by decide
  rw [e1]
  have e2 : (m : Int) * 2 ^ (7 * k) = ((m * 128 ^ k : Nat) : Int) := by rw [pow128]; simp
  rw [e2, wrap_u64 (by omega) (by omega), or_u64 _ _ (by omega) (by omega), pow128]
  rw [pow128] at hv
  rw [or_disj hv]
theorem group_lt {v m k : Nat} (hv : v < 128 ^ k) (hm : m < 128) : v + m * 128 ^ k < 128 ^ (k + 1) := by
  rw [Nat.pow_succ]
  have : m * 128 ^ k ≤ 127 * 128 ^ k := Nat.mul_le_mul_right _ (by omega)
  omega
end Go.Abs
