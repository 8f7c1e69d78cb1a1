/-
  Words of numbers, and how these are written: plain, and the walks.
-/
import Derived.Test.YtpcgbkjdobjdaaaGreatDoorPc
import Derived.Test.YtpcgbkjdobjdaaaGreatDoorK1
import Derived.Test.YtpcgbkjdobjdaaaGreatDoorIter
import Derived.Test.YtpcgbkjdobjdaaaGreatDoorIntX
import Derived.Lib.ItoaLen
set_option linter.unusedSimpArgs false
set_option linter.unusedVariables false
set_option maxRecDepth 100000
namespace Go.Proofs.YtpcgbkjdobjdaaaGreatDoor
open Go.Abs
theorem b_rem {E : Env} {S : St} (t : TypeId) (x y : Operand) (k : IntKind) (a b : Int) (h : b ≠ 0) : binGen E .rem t x y (.sc (.int k a)) (.sc (.int k b)) S = some (.sc (.int k (a.tmod b)), S) := by
  have h2 : (b == 0) = false := by simpa using h
  simp only [binGen, conc, binOp, Op.intDiv, h, h2, if_false, ne_eq, not_true_eq_false]
  first | rfl | (simp [h]; rfl)
theorem and_u64 (a b : Nat) (ha : a < 2 ^ 64) (hb : b < 2 ^ 64) : bitsV .and .u64 (a : Int) (b : Int) = ((a &&& b : Nat) : Int) := by
  have h : a &&& b < 2 ^ 64 := Nat.and_lt_two_pow _ hb
  have e : bitsV .and .u64 (a : Int) (b : Int) = IntKind.u64.wrap (((BitVec.ofInt 64 (a : Int) &&& BitVec.ofInt 64 (b : Int)).toNat : Nat) : Int) := rfl
  rw [e, ofInt_nat, ofInt_nat, BitVec.toNat_and, BitVec.toNat_ofNat, BitVec.toNat_ofNat, Nat.mod_eq_of_lt ha, Nat.mod_eq_of_lt hb]
  exact wrap_u64 (by omega) (by omega)
/-- The number that a word of a number says. -/
def numN (n : Int) : Int := (IntKind.i64.wrap (n * 2 ^ 1)).fdiv (2 ^ 1)
/-- A number's word. -/
def wordN (n : Int) : Nat := ((n * 2) % 18446744073709551616).toNat + 1
theorem wU (x : Int) : IntKind.u64.wrap x = x % 18446744073709551616 := by
  have : IntKind.u64.wrap x = (let m := x % (2 ^ IntKind.u64.bits : Int); if IntKind.u64.signed && m ≥ (2 ^ (IntKind.u64.bits - 1) : Int) then m - (2 ^ IntKind.u64.bits : Int) else m) := rfl
  rw [this]
  simp [IntKind.signed, IntKind.bits]
theorem wI (x : Int) : IntKind.i64.wrap x = if x % 18446744073709551616 ≥ 9223372036854775808 then x % 18446744073709551616 - 18446744073709551616 else x % 18446744073709551616 := by
  have : IntKind.i64.wrap x = (let m := x % (2 ^ IntKind.i64.bits : Int); if IntKind.i64.signed && m ≥ (2 ^ (IntKind.i64.bits - 1) : Int) then m - (2 ^ IntKind.i64.bits : Int) else m) := rfl
  rw [this]
  simp [IntKind.signed, IntKind.bits]
theorem wordN_lt (n : Int) : wordN n < 2 ^ 64 := by unfold wordN; omega
theorem word_eq (n : Int) : bitsV .or .u64 (IntKind.u64.wrap (IntKind.u64.wrap n * 2 ^ 1)) 1 = ((wordN n : Nat) : Int) := by
  have e : IntKind.u64.wrap (IntKind.u64.wrap n * 2 ^ 1) = ((((n * 2) % 18446744073709551616).toNat : Nat) : Int) := by
    rw [wU, wU]; omega
  rw [e, show (1 : Int) = ((1 : Nat) : Int) from rfl, or_u64 _ _ (by omega) (by omega)]
  have h2 : ((n * 2) % 18446744073709551616).toNat = (((n * 2) % 18446744073709551616).toNat / 2) * 2 ^ 1 := by omega
  have h3 := or_disj (v := 1) (m := ((n * 2) % 18446744073709551616).toNat / 2) (k := 1) (by decide)
  rw [← h2] at h3
  rw [Nat.or_comm, h3]
  unfold wordN
  omega
theorem word_and (n : Int) : bitsV .and .u64 ((wordN n : Nat) : Int) 1 = 1 := by
  rw [show (1 : Int) = ((1 : Nat) : Int) from rfl, and_u64 _ _ (wordN_lt n) (by decide), Nat.and_one_is_mod]
  unfold wordN
  omega
theorem word_num (n : Int) : (IntKind.i64.wrap ((wordN n : Nat) : Int)).fdiv (2 ^ 1) = numN n := by
  unfold numN
  rw [Int.fdiv_eq_ediv_of_nonneg _ (by decide), Int.fdiv_eq_ediv_of_nonneg _ (by decide), wI, wI]
  unfold wordN
  split <;> split <;> omega
theorem numN_in (n : Int) : -4611686018427387904 ≤ numN n ∧ numN n ≤ 4611686018427387903 := by
  unfold numN
  rw [Int.fdiv_eq_ediv_of_nonneg _ (by decide), wI]
  split <;> omega
/-! ### Digits. -/
def digF (n : Int) : ByteArray := ⟨(Lib.itoa n).toArray⟩
theorem sz_l (l : List UInt8) : (⟨l.toArray⟩ : ByteArray).size = l.length := List.size_toArray
theorem digF_le (n : Int) (h : -9223372036854775808 ≤ n ∧ n ≤ 9223372036854775807) : (digF n).size ≤ 21 := by
  unfold digF
  rw [sz_l]
  exact Lib.itoa_length_le n h.1 h.2
theorem ba_app (a b : List UInt8) : (⟨a.toArray⟩ : ByteArray) ++ ⟨b.toArray⟩ = ⟨(a ++ b).toArray⟩ := by
  apply ByteArray.ext
  show ((⟨a.toArray⟩ : ByteArray) ++ ⟨b.toArray⟩).data = _
  rw [ByteArray.data_append]
  simp
theorem dec_small {u : Nat} (h : u < 10) : Lib.decDigits u = [UInt8.ofNat (48 + u)] := by rw [Lib.decDigits, dif_pos h]
theorem dec_big {u : Nat} (h : ¬ u < 10) : Lib.decDigits u = Lib.decDigits (u / 10) ++ Lib.decDigits (u % 10) := by
  rw [Lib.decDigits, dif_neg h, dec_small (u := u % 10) (by omega)]
theorem itoa_nat (u : Nat) : Lib.itoa ((u : Nat) : Int) = Lib.decDigits u := by
  unfold Lib.itoa
  rw [if_neg (by omega), Int.toNat_natCast]
theorem itoa_neg' (u : Nat) (h : 0 < u) : Lib.itoa (-((u : Nat) : Int)) = 45 :: Lib.decDigits u := by
  unfold Lib.itoa
  rw [if_pos (by omega)]
  simp
theorem digF_small {u : Nat} (h : u < 10) : digF ((u : Nat) : Int) = ⟨#[UInt8.ofNat (48 + u)]⟩ := by unfold digF; rw [itoa_nat, dec_small h]
theorem digF_big {u : Nat} (h : ¬ u < 10) : digF ((u : Nat) : Int) = digF ((u / 10 : Nat) : Int) ++ digF ((u % 10 : Nat) : Int) := by
  unfold digF; rw [itoa_nat, itoa_nat, itoa_nat, dec_big h, ba_app]
theorem digF_neg {u : Nat} (h0 : 0 < u) : digF (-((u : Nat) : Int)) = (⟨#[45]⟩ : ByteArray) ++ digF ((u : Nat) : Int) := by
  unfold digF; rw [itoa_neg' u h0, itoa_nat]
  exact (ba_app [45] _).symm
theorem digF_negbig {u : Nat} (h : ¬ u < 10) : digF (-((u : Nat) : Int)) = ((⟨#[45]⟩ : ByteArray) ++ digF ((u / 10 : Nat) : Int)) ++ digF ((u % 10 : Nat) : Int) := by
  unfold digF; rw [itoa_neg' u (by omega), itoa_nat, itoa_nat, dec_big h]
  rw [show ((⟨#[45]⟩ : ByteArray) : ByteArray) = ⟨[45].toArray⟩ from rfl, ba_app, ba_app]
  rfl
theorem b_addstr {S : St} (t : TypeId) (x y : Operand) (a b : ByteArray) (h : a.size + b.size ≤ 2 ^ 62) : binGen E .add t x y (.sc (.string a)) (.sc (.string b)) S = some (.sc (.string (a ++ b)), S) := by
  have h2 : ¬ ((a.size + b.size : Nat) : Int) > IntKind.i64.max := by
    have : IntKind.i64.max = 9223372036854775807 := rfl
    rw [this]; omega
  simp only [binGen, conc, binOp, Op.stringOp, if_neg h2]
  rfl
theorem bs1 (v : Int) (S : St) : buildSliceA E 32 1 [(0, .sc (.int .u8 v))] S = some (.vec 1 1 [.sc (.int .u8 v)], S) := by kernel_rfl
theorem str1 (mu : Bool) (u : UInt8) (S : St) : convertA E mu 32 9 (.vec 1 1 [.sc (.int .u8 (u.toNat : Int))]) S = some (.sc (.string ⟨#[u]⟩), S) := by
  have h1 : isStrBytes E 32 9 = false := by kernel_rfl
  have h2 : E.und 9 = some .string := by kernel_rfl
  have h3 : isU8 (E.und 5) = true := by kernel_rfl
  have h4 : bytesOf? [.sc (.int .u8 (u.toNat : Int))] = some [u] := by simp [bytesOf?]
  simp only [convertA, h1, cond_false, und32, h2, h3, Bool.true_and, show Nat.beq 1 1 = true from rfl, cond_true, h4, Option.map_some]
set_option maxHeartbeats 16000000 in
/-- The document's digits of a number that is not below nothing. -/
theorem dig_nat : ∀ (k u : Nat), u < k → u ≤ 9223372036854775807 → Ans E 9 [.sc (.int .i64 ((u : Nat) : Int))] (.sc (.string (digF ((u : Nat) : Int))))
  | 0, u, h, _ => absurd h (Nat.not_lt_zero _)
  | k + 1, u, h, hu => ans_of fun S hS => by
    have c0 : decide (((u : Nat) : Int) < 0) = false := by simp
    refine ev9 rfl ?_
    by_cases hs : u < 10
    · have c1 : decide (((u : Nat) : Int) < 10) = true := by simp; omega
      have w1 : IntKind.i64.wrap (48 + ((u : Nat) : Int)) = ((48 + u : Nat) : Int) := by rw [wrap_i64 (by omega) (by omega)]; omega
      have w2 : IntKind.u8.wrap ((48 + u : Nat) : Int) = ((UInt8.ofNat (48 + u)).toNat : Int) := lowByte (by omega)
      simp only [SXa, reduceCtorEq, Nat.reduceEqDiff, Nat.reduceAdd, Nat.reduceSub, Nat.reduceMul, Nat.reduceBEq, Int.reduceLT, Int.reduceLE, Int.reduceToNat, Int.reduceBEq, Int.reduceBNe, reduceIte, bs32, conv2_5, conv2_50, conv50_2, call9, r9_0, r9_1, r9_2, r9_3, r9_4, r9_5, r9_6, r9_7, r9_8, p9, c0, c1, w1, w2, bs1, str1]
      exact ⟨by rw [digF_small hs], Grow.refl hS _⟩
    · have c1 : decide (((u : Nat) : Int) < 10) = false := by simp; omega
      have w1 : IntKind.i64.wrap (((u : Nat) : Int).tdiv 10) = ((u / 10 : Nat) : Int) := by
        rw [Int.tdiv_eq_ediv_of_nonneg (by omega), wrap_i64 (by omega) (by omega)]; omega
      have w2 : ((u : Nat) : Int).tmod 10 = ((u % 10 : Nat) : Int) := rfl
      have q1 : ∀ (t : TypeId) (x y : Operand) (S : St), binGen E .quo t x y (.sc (.int .i64 ((u : Nat) : Int))) (.sc (.int .i64 10)) S = some (.sc (.int .i64 ((u / 10 : Nat) : Int)), S) := fun t x y S => by rw [b_quo t x y _ _ _ (by decide), w1]
      have q2 : ∀ (t : TypeId) (x y : Operand) (S : St), binGen E .rem t x y (.sc (.int .i64 ((u : Nat) : Int))) (.sc (.int .i64 10)) S = some (.sc (.int .i64 ((u % 10 : Nat) : Int)), S) := fun t x y S => by rw [b_rem t x y _ _ _ (by decide), w2]
      have z1 := digF_le ((u / 10 : Nat) : Int) (by omega)
      have z2 := digF_le ((u % 10 : Nat) : Int) (by omega)
      simp only [SXa, reduceCtorEq, Nat.reduceEqDiff, Nat.reduceAdd, Nat.reduceSub, Nat.reduceMul, Nat.reduceBEq, Int.reduceLT, Int.reduceLE, Int.reduceToNat, Int.reduceBEq, Int.reduceBNe, reduceIte, bs32, conv2_5, conv2_50, conv50_2, call9, r9_0, r9_1, r9_2, r9_3, r9_4, r9_5, r9_6, r9_7, r9_8, p9, c0, c1, q1]
      refine callK_ans (dig_nat k (u / 10) (by omega) (by omega)) (Grow.refl hS _) (fun S1 g1 hG1 => ?_)
      simp only [SXa, reduceCtorEq, Nat.reduceEqDiff, Nat.reduceAdd, Nat.reduceSub, Nat.reduceMul, Nat.reduceBEq, Int.reduceLT, Int.reduceLE, Int.reduceToNat, Int.reduceBEq, Int.reduceBNe, reduceIte, bs32, conv2_5, conv2_50, conv50_2, call9, r9_0, r9_1, r9_2, r9_3, r9_4, r9_5, r9_6, r9_7, r9_8, p9, q2]
      refine callK_ans (dig_nat k (u % 10) (by omega) (by omega)) hG1 (fun S2 g2 hG2 => ?_)
      simp only [SXa, reduceCtorEq, Nat.reduceEqDiff, Nat.reduceAdd, Nat.reduceSub, Nat.reduceMul, Nat.reduceBEq, Int.reduceLT, Int.reduceLE, Int.reduceToNat, Int.reduceBEq, Int.reduceBNe, reduceIte, bs32, conv2_5, conv2_50, conv50_2, call9, r9_0, r9_1, r9_2, r9_3, r9_4, r9_5, r9_6, r9_7, r9_8, p9, b_addstr _ _ _ _ _ (show (digF ((u / 10 : Nat) : Int)).size + (digF ((u % 10 : Nat) : Int)).size ≤ 2 ^ 62 by omega)]
      exact ⟨by rw [digF_big hs], hG2⟩
set_option maxHeartbeats 16000000 in
theorem dig_ans (n : Int) (h : -4611686018427387904 ≤ n ∧ n ≤ 4611686018427387903) : Ans E 9 [.sc (.int .i64 n)] (.sc (.string (digF n))) := by
  by_cases hn : 0 ≤ n
  · have e : n = ((n.toNat : Nat) : Int) := by omega
    rw [e]
    exact dig_nat (n.toNat + 1) n.toNat (Nat.lt_succ_self _) (by omega)
  · refine ans_of fun S hS => ?_
    obtain ⟨u, hu, rfl⟩ : ∃ u : Nat, 0 < u ∧ n = -((u : Nat) : Int) := ⟨n.natAbs, by omega, by omega⟩
    have c0 : decide (-((u : Nat) : Int) < 0) = true := by simp; omega
    have w0 : IntKind.i64.wrap (0 - -((u : Nat) : Int)) = ((u : Nat) : Int) := by rw [wrap_i64 (by omega) (by omega)]; omega
    have w1 : IntKind.u64.wrap ((u : Nat) : Int) = ((u : Nat) : Int) := wrap_u64 (by omega) (by omega)
    refine ev9 rfl ?_
    by_cases hs : u < 10
    · have c1 : decide (10 ≤ ((u : Nat) : Int)) = false := by simp; omega
      have w2 : IntKind.i64.wrap ((u : Nat) : Int) = ((u : Nat) : Int) := wrap_i64 (by omega) (by omega)
      have z1 := digF_le ((u : Nat) : Int) (by omega)
      simp only [SXa, reduceCtorEq, Nat.reduceEqDiff, Nat.reduceAdd, Nat.reduceSub, Nat.reduceMul, Nat.reduceBEq, Int.reduceLT, Int.reduceLE, Int.reduceToNat, Int.reduceBEq, Int.reduceBNe, reduceIte, bs32, conv2_5, conv2_50, conv50_2, call9, r9_0, r9_1, r9_2, r9_3, r9_4, r9_5, r9_6, r9_7, r9_8, p9, c0, un_neg, w0, w1, c1, w2]
      refine callK_ans (dig_nat (u + 1) u (Nat.lt_succ_self _) (by omega)) (Grow.refl hS _) (fun S1 g1 hG1 => ?_)
      simp only [SXa, reduceCtorEq, Nat.reduceEqDiff, Nat.reduceAdd, Nat.reduceSub, Nat.reduceMul, Nat.reduceBEq, Int.reduceLT, Int.reduceLE, Int.reduceToNat, Int.reduceBEq, Int.reduceBNe, reduceIte, bs32, conv2_5, conv2_50, conv50_2, call9, r9_0, r9_1, r9_2, r9_3, r9_4, r9_5, r9_6, r9_7, r9_8, p9, b_addstr _ _ _ _ _ (show ((⟨#[45]⟩ : ByteArray)).size + (digF ((u : Nat) : Int)).size ≤ 2 ^ 62 by simp only [sz_l, List.length_cons, List.length_nil]; omega)]
      exact ⟨by rw [digF_neg hu], hG1⟩
    · have c1 : decide (10 ≤ ((u : Nat) : Int)) = true := by simp; omega
      have w2 : IntKind.u64.wrap (((u : Nat) : Int).tdiv 10) = ((u / 10 : Nat) : Int) := by
        rw [Int.tdiv_eq_ediv_of_nonneg (by omega), wrap_u64 (by omega) (by omega)]; omega
      have w3 : ((u : Nat) : Int).tmod 10 = ((u % 10 : Nat) : Int) := rfl
      have w4 : IntKind.i64.wrap ((u / 10 : Nat) : Int) = ((u / 10 : Nat) : Int) := wrap_i64 (by omega) (by omega)
      have w5 : IntKind.i64.wrap ((u % 10 : Nat) : Int) = ((u % 10 : Nat) : Int) := wrap_i64 (by omega) (by omega)
      have q1 : ∀ (t : TypeId) (x y : Operand) (S : St), binGen E .quo t x y (.sc (.int .u64 ((u : Nat) : Int))) (.sc (.int .u64 10)) S = some (.sc (.int .u64 ((u / 10 : Nat) : Int)), S) := fun t x y S => by rw [b_quo t x y _ _ _ (by decide), w2]
      have q2 : ∀ (t : TypeId) (x y : Operand) (S : St), binGen E .rem t x y (.sc (.int .u64 ((u : Nat) : Int))) (.sc (.int .u64 10)) S = some (.sc (.int .u64 ((u % 10 : Nat) : Int)), S) := fun t x y S => by rw [b_rem t x y _ _ _ (by decide), w3]
      have z1 := digF_le ((u / 10 : Nat) : Int) (by omega)
      have z2 := digF_le ((u % 10 : Nat) : Int) (by omega)
      simp only [SXa, reduceCtorEq, Nat.reduceEqDiff, Nat.reduceAdd, Nat.reduceSub, Nat.reduceMul, Nat.reduceBEq, Int.reduceLT, Int.reduceLE, Int.reduceToNat, Int.reduceBEq, Int.reduceBNe, reduceIte, bs32, conv2_5, conv2_50, conv50_2, call9, r9_0, r9_1, r9_2, r9_3, r9_4, r9_5, r9_6, r9_7, r9_8, p9, c0, un_neg, w0, w1, c1, q1, w4]
      refine callK_ans (dig_nat (u / 10 + 1) (u / 10) (Nat.lt_succ_self _) (by omega)) (Grow.refl hS _) (fun S1 g1 hG1 => ?_)
      simp only [SXa, reduceCtorEq, Nat.reduceEqDiff, Nat.reduceAdd, Nat.reduceSub, Nat.reduceMul, Nat.reduceBEq, Int.reduceLT, Int.reduceLE, Int.reduceToNat, Int.reduceBEq, Int.reduceBNe, reduceIte, bs32, conv2_5, conv2_50, conv50_2, call9, r9_0, r9_1, r9_2, r9_3, r9_4, r9_5, r9_6, r9_7, r9_8, p9, b_addstr _ _ _ _ _ (show ((⟨#[45]⟩ : ByteArray)).size + (digF ((u / 10 : Nat) : Int)).size ≤ 2 ^ 62 by simp only [sz_l, List.length_cons, List.length_nil]; omega), q2, w5]
      refine callK_ans (dig_nat (u % 10 + 1) (u % 10) (Nat.lt_succ_self _) (by omega)) hG1 (fun S2 g2 hG2 => ?_)
      simp only [SXa, reduceCtorEq, Nat.reduceEqDiff, Nat.reduceAdd, Nat.reduceSub, Nat.reduceMul, Nat.reduceBEq, Int.reduceLT, Int.reduceLE, Int.reduceToNat, Int.reduceBEq, Int.reduceBNe, reduceIte, bs32, conv2_5, conv2_50, conv50_2, call9, r9_0, r9_1, r9_2, r9_3, r9_4, r9_5, r9_6, r9_7, r9_8, p9, b_addstr _ _ _ _ _ (show ((⟨#[45]⟩ : ByteArray) ++ digF ((u / 10 : Nat) : Int)).size + (digF ((u % 10 : Nat) : Int)).size ≤ 2 ^ 62 by simp only [ByteArray.size_append, sz_l, List.length_cons, List.length_nil]; omega)]
      exact ⟨by rw [digF_negbig hs], hG2⟩
/-! ### Words. -/
theorem num_ans (n : Int) : Ans E 7 [.sc (.int .i64 n)] (.sc (.int .u64 ((wordN n : Nat) : Int))) := ans_of fun S hS => by
  refine ev7 rfl ?_
  have e1 : min 1 IntKind.u64.bits = 1 := by decide
  simp only [SXa, reduceCtorEq, Nat.reduceEqDiff, Nat.reduceAdd, Nat.reduceSub, Nat.reduceMul, Nat.reduceBEq, Int.reduceLT, Int.reduceLE, Int.reduceToNat, Int.reduceBEq, Int.reduceBNe, reduceIte, conv2_51, r7_0, r7_1, p7, Int.reduceToNat, e1, word_eq]
  exact Grow.refl hS _
theorem int_ans (n : Int) : Ans E 34 [.sc (.int .u64 ((wordN n : Nat) : Int))] (.tup [.sc (.int .i64 (numN n)), .sc (.bool true)]) := ans_of fun S hS => by
  refine ev34 rfl ?_
  have e1 : min 1 IntKind.i64.bits = 1 := by decide
  simp only [SXa, reduceCtorEq, Nat.reduceEqDiff, Nat.reduceAdd, Nat.reduceSub, Nat.reduceMul, Nat.reduceBEq, Int.reduceLT, Int.reduceLE, Int.reduceToNat, Int.reduceBEq, Int.reduceBNe, reduceIte, conv51_2, r34_0, r34_1, r34_2, r34_3, p34, word_and, Int.reduceToNat, e1, word_num]
  exact Grow.refl hS _
theorem at_ans (n : Int) : Ans E 151 [.sc (.int .u64 ((wordN n : Nat) : Int))] (.tup [.sc (.int .i64 0), .sc (.bool false)]) := ans_of fun S hS => by
  refine ev151 rfl ?_
  simp only [SXa, reduceCtorEq, Nat.reduceEqDiff, Nat.reduceAdd, Nat.reduceSub, Nat.reduceMul, Nat.reduceBEq, Int.reduceLT, Int.reduceLE, Int.reduceToNat, Int.reduceBEq, Int.reduceBNe, reduceIte, conv51_3, r151_0, r151_1, r151_2, r151_3, p151, word_and]
  exact Grow.refl hS _
end Go.Proofs.YtpcgbkjdobjdaaaGreatDoor
