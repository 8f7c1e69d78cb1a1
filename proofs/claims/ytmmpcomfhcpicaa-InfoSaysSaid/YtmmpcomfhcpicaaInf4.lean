/-
  Package info: numbers and texts, written.
-/
import Derived.Test.YtmmpcomfhcpicaaInf3
set_option linter.unusedSimpArgs false
set_option linter.unusedVariables false
set_option maxRecDepth 100000
namespace Go.Proofs.Ytmmpcomfhcpicaa
open Go.Abs
def numS (n : Nat) : List UInt8 := if h : n < 128 then [UInt8.ofNat n] else UInt8.ofNat (n % 128 + 128) :: numS (n / 128)
termination_by n
decreasing_by omega
theorem numS_lt {n : Nat} (h : n < 128) : numS n = [UInt8.ofNat n] := by rw [numS, dif_pos h]
theorem numS_ge {n : Nat} (h : ¬ n < 128) : numS n = UInt8.ofNat (n % 128 + 128) :: numS (n / 128) := by rw [numS, dif_neg h]
theorem byteVals_one (c : UInt8) : [AV.sc (.int .u8 c.toNat)] = byteVals [c] := rfl
theorem numS_len : ∀ (k n : Nat), n < 128 ^ (k + 1) → (numS n).length ≤ k + 1
  | 0, n, h => by rw [numS_lt (by simpa using h)]; simp
  | k + 1, n, h => by
    by_cases h1 : n < 128
    · rw [numS_lt h1]; simp
    · rw [numS_ge h1]
      have := numS_len k (n / 128) (by rw [Nat.pow_succ] at h; omega)
      simp; omega
theorem number_ok (n : Nat) (hn : n < 2 ^ 63) (X : AV) (l : List UInt8) (S : St) (hS : S.Fresh) (hX : OwnV S 5 1 X (byteVals l)) (hl : l.length ≤ 2 ^ 41) :
    ∃ r S', EvA E 32 [X, .sc (.int .i64 n)] S r S' ∧ OwnV S' 5 1 r (byteVals (l ++ numS n)) ∧ Grow S S' X ∧ ∃ id xs, r = .vec id 1 xs ∧ S.nid ≤ id := by
  have hlen := numS_len 8 n (by have : (128 : Nat) ^ 9 = 2 ^ 63 := by decide
                                omega)
  refine ev32 rfl ?_
  simp only [SXa, Nat.reduceAdd, r32_0, r32_5, p32]
  refine e_loop (fun tm S' m => ∃ (X' : AV) (l' : List UInt8), getT tm 0 = X' ∧ getT tm 1 = .sc (.int .i64 m) ∧ m ≤ n ∧ l' ++ numS m = l ++ numS n ∧ OwnV S' 5 1 X' (byteVals l') ∧ Grow S S' X ∧ (X' = X ∨ ∃ id xs, X' = .vec id 1 xs ∧ S.nid ≤ id)) n ⟨X, l, rfl, rfl, Nat.le_refl _, rfl, hX, Grow.refl hS _, .inl rfl⟩ ?_
  rintro tm S' m ⟨X', l', h0, h1, hm, he, hO, hG, hid⟩
  have hle : l'.length ≤ 2 ^ 41 + 9 := by
    have := congrArg List.length he
    simp at this; omega
  have hG2 : Grow S (appS 5 S' X') X := hG.trans (Grow.app hG.fresh hO) (by
    rcases hid with h | ⟨id, xs, h, h2⟩
    · exact .inl h
    · exact .inr (.inr ⟨id, 1, xs, h, h2⟩))
  by_cases hlt : m < 128
  · have c1 : decide ((128 : Int) ≤ (m : Int)) = false := by simp; omega
    have hb := bs_byte (S := S') el28 (IntKind.u8.wrap m)
    have hap := app_own (S := S') (Y := .vec 1 1 [.sc (.int .u8 (IntKind.u8.wrap m))]) el28 und28 hG.fresh hO (IsV.vec 1 1 _) (by simp) rfl (by rw [byteVals_length]; simp; omega)
    simp only [SXa, reduceCtorEq, Nat.reduceEqDiff, bs28, app28, conv3_5, b32_4, r32_1, r32_2, r32_3, h0, h1, c1, hb, hap]
    refine ⟨?_, hG2, _, _, rfl, hG.nid⟩
    have := appS_own (zs := byteVals (l ++ numS n)) hG.fresh hO
    rw [← he, numS_lt hlt, ← byteVals_app] at this
    rw [lowByte (by omega)]
    rw [← he, numS_lt hlt, ← byteVals_app]
    exact this
  · have c1 : decide ((128 : Int) ≤ (m : Int)) = true := by simp; omega
    have hb := bs_byte (S := S') el28 (bitsV .or .u8 (IntKind.u8.wrap m) 128)
    have hap := app_own (S := S') (Y := .vec 1 1 [.sc (.int .u8 (bitsV .or .u8 (IntKind.u8.wrap m) 128))]) el28 und28 hG.fresh hO (IsV.vec 1 1 _) (by simp) rfl (by rw [byteVals_length]; simp; omega)
    simp only [SXa, reduceCtorEq, Nat.reduceEqDiff, Int.reduceLT, Int.reduceToNat, bs28, app28, conv3_5, b32_4, r32_1, r32_2, r32_3, h0, h1, c1, hb, hap]
    refine ⟨m / 128, by omega, _, l' ++ [UInt8.ofNat (m % 128 + 128)], rfl, ?_, by omega, ?_, ?_, hG2, .inr ⟨_, _, rfl, hG.nid⟩⟩
    · simp [IntKind.bits, Int.fdiv_eq_ediv_of_nonneg]
    · rw [← he, numS_ge hlt]; simp
    · rw [orMore, byteVals_one, byteVals_app]
      exact appS_own hG.fresh hO
/-- A number of a table, as it is written. -/
def numI (z : Int) : List UInt8 := numS z.toNat
def txtF (b : ByteArray) : List UInt8 := numS b.size ++ b.data.toList
/-- What is written on behind a slice of bytes. -/
structure Wr (S S' : St) (X r : AV) (l : List UInt8) : Prop where
  own : OwnV S' 5 1 r (byteVals l)
  grow : Grow S S' X
  id : ∃ id xs, r = .vec id 1 xs ∧ S.nid ≤ id
theorem Wr.two {S S1 S2 : St} {X r1 r2 : AV} {l1 l2 : List UInt8} (h : Wr S S1 X r1 l1) (k : Wr S1 S2 r1 r2 l2) : Wr S S2 X r2 l2 := by
  obtain ⟨id, xs, e, hid⟩ := h.id
  obtain ⟨id2, xs2, e2, hid2⟩ := k.id
  exact ⟨k.own, h.grow.trans k.grow (.inr (.inr ⟨id, 1, xs, e, hid⟩)), id2, xs2, e2, Nat.le_trans h.grow.nid hid2⟩
/-- What has been written so far, from nothing. -/
structure Wrt (S0 S : St) (X : AV) (l : List UInt8) : Prop where
  own : OwnV S 5 1 X (byteVals l)
  grow : Grow S0 S nilV
  id : X = nilV ∨ ∃ id xs, X = .vec id 1 xs ∧ S0.nid ≤ id
theorem Wrt.then {S0 S S' : St} {X r : AV} {l l' : List UInt8} (h : Wrt S0 S X l) (k : Wr S S' X r l') : Wrt S0 S' r l' := by
  obtain ⟨id2, xs2, e2, hid2⟩ := k.id
  refine ⟨k.own, h.grow.trans k.grow ?_, .inr ⟨id2, xs2, e2, Nat.le_trans h.grow.nid hid2⟩⟩
  rcases h.id with h | ⟨id, xs, e, hid⟩
  · exact .inl h
  · exact .inr (.inr ⟨id, 1, xs, e, hid⟩)
theorem Wrt.on {S0 S S' : St} {X : AV} {l : List UInt8} (h : Wrt S0 S X l) (g : Grow S S' nilV) : Wrt S0 S' X l := ⟨h.own.grow g (fun _ _ _ _ _ _ e => by cases e), h.grow.two g, h.id⟩
theorem Wrt.start {S0 S : St} (g : Grow S0 S nilV) : Wrt S0 S nilV [] := ⟨.inl ⟨rfl, rfl⟩, g, .inl rfl⟩
theorem numI_ok {S0 S : St} {X : AV} {l : List UInt8} (h : Wrt S0 S X l) (z : Int) (h0 : 0 ≤ z) (h1 : z < 2 ^ 63) (hl : l.length ≤ 2 ^ 41) : ∃ r S', EvA E 32 [X, .sc (.int .i64 z)] S r S' ∧ Wr S S' X r (l ++ numI z) := by
  obtain ⟨r, S', e, o, g, i⟩ := number_ok z.toNat (by omega) X l S h.grow.fresh h.own hl
  rw [Int.toNat_of_nonneg h0] at e
  exact ⟨r, S', e, o, g, i⟩
theorem app_str0 (X : AV) (id : Nat) (xs : List AV) (b : ByteArray) (S : St) (hX : X = .vec id 1 xs) (hb : b.data.toList = []) : builtinA E false .append [28, 9] [X, .sc (.string b)] S = some (X, S) := by
  subst hX
  have ht := el28
  unfold elIs at ht
  split at ht
  · rename_i e' de i hd hde hi
    simp only [Bool.and_eq_true, beq_iff_eq] at ht
    obtain ⟨⟨⟨⟨⟨k1, k2⟩, k3⟩, k4⟩, k5⟩, k6⟩ := ht
    have k1 := Nat.eq_of_beq_eq_true k1
    subst k1
    have ht1 : E.und 9 = some .string := by kernel_rfl
    have hz : byteVals b.data.toList = [] := by rw [hb]; rfl
    simp only [builtinA, hd, ht1, hi, appendA, elemsS, elemsOf, hz, appendXs]
  · simp at ht
theorem und9 : E.und 9 = some .string := by kernel_rfl
theorem text_ok {S0 S : St} {X : AV} {l : List UInt8} (h : Wrt S0 S X l) (b : ByteArray) (hb : b.size ≤ 4000000) (hl : l.length ≤ 2 ^ 41) : ∃ r S', EvA E 33 [X, .sc (.string b)] S r S' ∧ Wr S S' X r (l ++ txtF b) := by
  refine ev33 rfl ?_
  obtain ⟨r1, S1, e1, w1⟩ := numI_ok h ((b.size : Nat) : Int) (by omega) (by omega) hl
  simp only [SXa, reduceCtorEq, Nat.reduceEqDiff, Nat.reduceAdd, call32, r33_0, r33_1, p33, len9, len9s]
  refine callK_of e1 ?_
  have hn := numS_len 8 b.size (by have : (128 : Nat) ^ 9 = 2 ^ 63 := by decide
                                   omega)
  have e9 : numI ((b.size : Nat) : Int) = numS b.size := by simp [numI]
  rw [e9] at w1
  obtain ⟨id, xs, er, hid⟩ := w1.id
  by_cases hb0 : b.data.toList = []
  · have ha := app_str0 r1 id xs b S1 er hb0
    simp only [SXa, reduceCtorEq, Nat.reduceEqDiff, app28, ha]
    rw [txtF, hb0, List.append_nil]
    exact w1
  · have hsz : b.data.toList.length = b.size := rfl
    have ha := app_str (S := S1) (b := b) el28 und9 w1.grow.fresh w1.own hb0 (by rw [byteVals_length, List.length_append, hsz]; omega)
    simp only [SXa, reduceCtorEq, Nat.reduceEqDiff, app28, ha]
    have hO := appS_own (zs := byteVals (l ++ txtF b)) w1.grow.fresh w1.own
    have e10 : byteVals (l ++ numS b.size) ++ byteVals b.data.toList = byteVals (l ++ txtF b) := by rw [byteVals_app, txtF, List.append_assoc]
    rw [e10]
    refine ⟨hO, w1.grow.trans (Grow.app w1.grow.fresh w1.own) (.inr (.inr ⟨id, 1, xs, er, hid⟩)), _, _, rfl, w1.grow.nid⟩
end Go.Proofs.Ytmmpcomfhcpicaa
