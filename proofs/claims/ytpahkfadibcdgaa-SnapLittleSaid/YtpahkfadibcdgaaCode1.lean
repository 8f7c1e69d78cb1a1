/-
  Chapter 14, plain.
-/
import Derived.Test.YtpahkfadibcdgaaGrp
set_option linter.unusedSimpArgs false
set_option linter.unusedVariables false
namespace Go.Proofs.Ytpahkfadibcdgaa
open Go.Abs

/-! ### Chapter 14: instructions as bytes, plain -/
theorem ofNat_toNat {n : Nat} (h : n < 256) : (UInt8.ofNat n).toNat = n := by simp; omega
theorem numS_ne (n : Nat) : numS n ≠ [] := by
  by_cases h : n < 128
  · rw [numS_lt h]; simp
  · rw [numS_ge h]; simp
theorem grp_num (n : Nat) : ∀ (k v : Nat) (rest : List UInt8), n * 128 ^ k < 2 ^ 64 → k < 10 → (k = 0 ∨ 0 < n) → grpG k v (numS n ++ rest) = some (v + n * 128 ^ k, k + (numS n).length) := by
  induction n using Nat.strongRecOn with
  | _ n ih =>
    intro k v rest hn hk h0
    have h9 : k = 9 → n ≤ 1 := fun e => by
      subst e
      have : (128 : Nat) ^ 9 = 9223372036854775808 := by decide
      rw [this] at hn
      omega
    by_cases h : n < 128
    · rw [numS_lt h]
      have hc := ofNat_toNat (n := n) (by omega)
      simp only [List.cons_append, List.nil_append, grpG, hc]
      rw [if_neg (by omega), if_neg (by omega), if_pos h, if_neg (by omega), Nat.mod_eq_of_lt h]
      simp
    · rw [numS_ge h]
      have hc := ofNat_toNat (n := n % 128 + 128) (by omega)
      simp only [List.cons_append, grpG, hc]
      have hk9 : k ≠ 9 := fun e => by have := h9 e; omega
      have hp : n / 128 * 128 ^ (k + 1) + n % 128 * 128 ^ k = n * 128 ^ k := by
        rw [Nat.pow_succ]
        have : n = n / 128 * 128 + n % 128 := by omega
        calc n / 128 * (128 ^ k * 128) + n % 128 * 128 ^ k = (n / 128 * 128 + n % 128) * 128 ^ k := by rw [Nat.add_mul, Nat.mul_comm (128 ^ k) 128, Nat.mul_assoc]
          _ = n * 128 ^ k := by rw [← this]
      rw [if_neg (by omega), if_neg (by omega), if_neg (by omega), ih (n / 128) (by omega) (k + 1) _ rest (by omega) (by omega) (by omega)]
      have e1 : (n % 128 + 128) % 128 = n % 128 := by omega
      rw [e1]
      simp only [Option.some.injEq, Prod.mk.injEq, List.length_cons]
      omega

/-- The number that stands for a signed one. -/
def zzF (v : Int) : Nat := if 0 ≤ v then (2 * v).toNat else (-2 * v - 1).toNat
def unzz (u : Nat) : Int := if u % 2 = 0 then ((u / 2 : Nat) : Int) else -1 - ((u / 2 : Nat) : Int)
theorem unzz_zzF (v : Int) : unzz (zzF v) = v := by
  unfold unzz zzF
  split <;> split <;> omega
theorem unzz_zero {u : Nat} : unzz u = 0 ↔ u = 0 := by
  unfold unzz
  split <;> omega
theorem zzF_lt {v : Int} (h1 : -9223372036854775808 ≤ v) (h2 : v ≤ 9223372036854775807) : zzF v < 2 ^ 64 := by
  unfold zzF
  split <;> omega
theorem zzF_zero {v : Int} : zzF v = 0 ↔ v = 0 := by
  unfold zzF
  split <;> omega

structure InstrV where
  op : Int
  a : Int
  b : Int
deriving DecidableEq
def InstrV.good (i : InstrV) : Prop := 0 ≤ i.op ∧ i.op ≤ 63
def InstrV.wf (i : InstrV) : Prop := (-9223372036854775808 ≤ i.op ∧ i.op ≤ 9223372036854775807) ∧ (-9223372036854775808 ≤ i.a ∧ i.a ≤ 9223372036854775807) ∧ (-9223372036854775808 ≤ i.b ∧ i.b ≤ 9223372036854775807)
def put1 (v : Int) : List UInt8 := if v = 0 then [] else numS (zzF v)
def headF (i : InstrV) : Nat := i.op.toNat + (if i.a = 0 then 0 else 64) + (if i.b = 0 then 0 else 128)
instance (i : InstrV) : Decidable i.good := by unfold InstrV.good; infer_instance
def putS (i : InstrV) : List UInt8 := if i.good then UInt8.ofNat (headF i) :: (put1 i.a ++ put1 i.b) else []

def get1 (flag : Bool) (l : List UInt8) : Option (Int × Nat) := if flag then (match grpG 0 0 l with | some (u, m) => if u = 0 then none else some (unzz u, m) | none => none) else some (0, 0)
def getF : List UInt8 → Option (InstrV × Nat)
  | [] => none
  | c :: r => match get1 (decide (64 ≤ c.toNat % 128)) r with
    | none => none
    | some (a, m) => match get1 (decide (128 ≤ c.toNat)) (r.drop m) with
      | none => none
      | some (b, m2) => some (⟨((c.toNat % 64 : Nat) : Int), a, b⟩, 1 + m + m2)
theorem get1_put {v : Int} (h1 : -9223372036854775808 ≤ v) (h2 : v ≤ 9223372036854775807) (rest : List UInt8) (flag : Bool) (hf : flag = decide (v ≠ 0)) : get1 flag (put1 v ++ rest) = some (v, (put1 v).length) := by
  subst hf
  by_cases h : v = 0
  · simp [get1, put1, h]
  · have hz : zzF v ≠ 0 := fun e => h (zzF_zero.1 e)
    have := grp_num (zzF v) 0 0 rest (by simpa using zzF_lt h1 h2) (by omega) (.inl rfl)
    simp only [get1, put1, h, if_false, ne_eq, not_false_eq_true, decide_true, if_true, this]
    rw [if_neg (by simpa using hz)]
    simp [unzz_zzF]
theorem get_put {i : InstrV} (h : i.wf) (hg : i.good) (rest : List UInt8) : getF (putS i ++ rest) = some (i, (putS i).length) := by
  obtain ⟨op, a, b⟩ := i
  obtain ⟨_, ⟨a1, a2⟩, b1, b2⟩ := h
  obtain ⟨o1, o2⟩ := id hg
  simp only at a1 a2 b1 b2 o1 o2
  have hh : headF ⟨op, a, b⟩ < 256 := by simp only [headF]; split <;> split <;> omega
  simp only [putS, hg, if_true, List.cons_append, List.append_assoc, getF, ofNat_toNat hh]
  rw [get1_put a1 a2 _ _ (by rw [decide_eq_decide]; simp only [headF]; split <;> split <;> omega)]
  simp only [List.drop_left]
  rw [get1_put b1 b2 _ _ (by rw [decide_eq_decide]; simp only [headF]; split <;> split <;> omega)]
  simp only [Option.some.injEq, Prod.mk.injEq, InstrV.mk.injEq, and_true, true_and, List.length_cons, List.length_append]
  refine ⟨?_, by omega⟩
  simp only [headF]
  split <;> split <;> omega

theorem get1_le {f : Bool} {l : List UInt8} {a : Int} {m : Nat} (h : get1 f l = some (a, m)) : m ≤ l.length := by
  unfold get1 at h
  split at h
  · split at h
    · rename_i u m' hg
      split at h
      · cases h
      · simp only [Option.some.injEq, Prod.mk.injEq] at h
        have := grpG_pos _ _ _ hg
        omega
    · cases h
  · simp only [Option.some.injEq, Prod.mk.injEq] at h
    omega
theorem getF_pos {l : List UInt8} {i : InstrV} {m : Nat} (h : getF l = some (i, m)) : 0 < m ∧ m ≤ l.length := by
  cases l with
  | nil => cases h
  | cons c r =>
    simp only [getF] at h
    split at h
    · cases h
    · rename_i a m1 h1
      split at h
      · cases h
      · rename_i b m2 h2
        simp only [Option.some.injEq, Prod.mk.injEq] at h
        have k1 := get1_le h1
        have k2 := get1_le h2
        simp at k2 ⊢
        omega
def allF (l : List UInt8) : Option (List InstrV) :=
  match h : getF l with
  | none => if l.isEmpty then some [] else none
  | some (i, m) => (allF (l.drop m)).map (i :: ·)
termination_by l.length
decreasing_by
  have := getF_pos h
  simp; omega
theorem allF_nil : allF [] = some [] := by rw [allF]; rfl
theorem allF_none {l : List UInt8} (h : getF l = none) (hl : l ≠ []) : allF l = none := by
  rw [allF]
  split
  · cases l with
    | nil => exact absurd rfl hl
    | cons => rfl
  · rename_i h2; rw [h] at h2; cases h2
theorem allF_some {l : List UInt8} {i : InstrV} {m : Nat} (h : getF l = some (i, m)) : allF l = (allF (l.drop m)).map (i :: ·) := by
  rw [allF]
  split
  · rename_i h2; rw [h] at h2; cases h2
  · rename_i i' m' h2
    rw [h] at h2
    simp only [Option.some.injEq, Prod.mk.injEq] at h2
    obtain ⟨rfl, rfl⟩ := h2
    rfl
def putAll : List InstrV → List UInt8
  | [] => []
  | i :: r => putS i ++ putAll r
theorem all_puts : ∀ {l : List InstrV}, (∀ i ∈ l, i.wf ∧ i.good) → allF (putAll l) = some l
  | [], _ => allF_nil
  | i :: r, h => by
    have hi := h i (List.mem_cons_self ..)
    simp only [putAll]
    rw [allF_some (get_put hi.1 hi.2 _), List.drop_left, all_puts (fun j hj => h j (List.mem_cons_of_mem _ hj))]
    rfl
theorem allF_len : ∀ (n : Nat) {l : List UInt8} {is : List InstrV}, l.length ≤ n → allF l = some is → is.length ≤ l.length
  | 0, l, is, hn, h => by
    have : l = [] := List.eq_nil_of_length_eq_zero (by omega)
    subst this
    rw [allF_nil] at h
    cases h; simp
  | n + 1, l, is, hn, h => by
    cases hg : getF l with
    | none =>
      cases l with
      | nil => rw [allF_nil] at h; cases h; simp
      | cons c r => rw [allF_none hg (by simp)] at h; cases h
    | some q =>
      obtain ⟨i, m⟩ := q
      have hm := getF_pos hg
      rw [allF_some hg] at h
      cases hr : allF (l.drop m) with
      | none => rw [hr] at h; cases h
      | some is' =>
        rw [hr] at h
        simp only [Option.map_some, Option.some.injEq] at h
        subst h
        have := allF_len n (by simp; omega) hr
        simp at this ⊢
        omega
end Go.Proofs.Ytpahkfadibcdgaa
