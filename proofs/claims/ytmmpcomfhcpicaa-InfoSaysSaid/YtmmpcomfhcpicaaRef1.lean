/-
  The document's own table: numbers, groups, texts: the walks.
-/
import Derived.Test.YtmmpcomfhcpicaaInf8
set_option linter.unusedSimpArgs false
set_option linter.unusedVariables false
set_option maxRecDepth 100000
namespace Go.Abs
theorem b_quo {E : Env} {S : St} (t : TypeId) (x y : Operand) (k : IntKind) (a b : Int) (h : b ≠ 0) : binGen E .quo t x y (.sc (.int k a)) (.sc (.int k b)) S = some (.sc (.int k (k.wrap (a.tdiv b))), S) := by
  have h2 : (b == 0) = false := by simpa using h
  simp only [binGen, conc, binOp, Op.intDiv, h, if_false, ne_eq, not_true_eq_false]
  first | rfl | (simp [h]; rfl)
theorem b_rem {E : Env} {S : St} (t : TypeId) (x y : Operand) (k : IntKind) (a b : Int) (h : b ≠ 0) : binGen E .rem t x y (.sc (.int k a)) (.sc (.int k b)) S = some (.sc (.int k (a.tmod b)), S) := by
  have h2 : (b == 0) = false := by simpa using h
  simp only [binGen, conc, binOp, Op.intDiv, h, if_false, ne_eq, not_true_eq_false]
  first | rfl | (simp [h]; rfl)
end Go.Abs
namespace Go.Proofs.Ytmmpcomfhcpicaa
open Go.Abs
theorem wrapN {n : Int} (h0 : 0 ≤ n) (h1 : n < 18446744073709551616) : IntKind.u64.wrap n = n := wrap_u64 h0 (by omega)
theorem num64_len {n : Nat} (hn : n < 2 ^ 64) : (numS n).length ≤ 10 := by
  have h : (128 : Nat) ^ (9 + 1) = 2 ^ 70 := by decide
  exact numS_len 9 n (by rw [h]; omega)
def grpG (k v : Nat) : List UInt8 → Option (Nat × Nat)
  | [] => none
  | c :: r => if 10 ≤ k then none else if k = 9 ∧ 1 < c.toNat then none else if c.toNat < 128 then (if c.toNat = 0 ∧ 0 < k then none else some (v + c.toNat % 128 * 128 ^ k, k + 1)) else grpG (k + 1) (v + c.toNat % 128 * 128 ^ k) r

theorem grpG_pos : ∀ (l : List UInt8) (k v : Nat) {a m : Nat}, grpG k v l = some (a, m) → k < m ∧ m ≤ k + l.length
  | [], _, _, _, _, h => by simp [grpG] at h
  | c :: r, k, v, a, m, h => by
    rw [grpG] at h
    split at h
    · simp at h
    · split at h
      · simp at h
      · split at h
        · split at h
          · simp at h
          · simp only [Option.some.injEq, Prod.mk.injEq] at h
            simp; omega
        · have := grpG_pos r _ _ h
          simp; omega
def GrpR (l : List UInt8) (r : AV) : Prop := match grpG 0 0 l with
  | none => r = .tup [.sc (.int .u64 0), .sc (.int .i64 0)]
  | some (v, m) => v < 2 ^ 64 ∧ r = .tup [.sc (.int .u64 v), .sc (.int .i64 m)]

set_option maxHeartbeats 4000000 in
theorem groups_ok (l : List UInt8) (hl : l.length ≤ 2 ^ 60) (x : AV) (hx : IsV 1 x (byteVals l)) (S : St) : ∃ r S', EvA E 49 [x] S r S' ∧ GrpR l r ∧ S' = S := by
  refine ev49 rfl ?_
  have hxl : ∀ S, lenV x S = some (.sc (.int .i64 (l.length : Nat)), S) := fun S => by rw [hx.len, byteVals_length]
  simp only [SXa, Nat.reduceAdd, r49_0, r49_1, r49_2, r49_13, p49]
  refine e_loop (fun tm S' n => ∃ k v : Nat, k ≤ l.length ∧ k ≤ 10 ∧ n = 10 - k ∧ S' = S ∧ v < 128 ^ k ∧ grpG k v (l.drop k) = grpG 0 0 l ∧ getT tm 0 = x ∧ getT tm 5 = .sc (.int .i64 k) ∧ getT tm 4 = .sc (.int .u64 v)) 10 ⟨0, 0, by simp [getT_setD]⟩ ?_
  rintro tm S' n ⟨k, v, hk, hk10, rfl, rfl, hv, hr, h0, h5, h4⟩
  by_cases hlt : k < l.length
  · have d0 := dec_lt hlt
    have hd : l.drop k = l[k] :: l.drop (k + 1) := (List.drop_eq_getElem_cons hlt)
    rw [hd, grpG] at hr
    by_cases h10 : k < 10
    · have d1 : decide ((k : Int) < 10) = true := by simp; omega
      have hidx : ∀ S, idxV 1 x (some (k : Int)) S = some (.eptr [.sc (.int .u8 l[k].toNat)] 0, S) := fun S => hx.idxB hlt S
      have hc := l[k].toNat_lt
      rw [if_neg (by omega)] at hr
      generalize hcc : l[k] = c at *
      by_cases h91 : k = 9 ∧ 1 < c.toNat
      · have d2 : ((k : Int) == 9) = true := by simp; omega
        have d3 : decide ((1 : Int) < (c.toNat : Int)) = true := by simp; omega
        rw [if_pos h91] at hr
        simp only [SXa, reduceCtorEq, Nat.reduceEqDiff, load5, index28, len28, b49_12, r49_3, r49_4, r49_5, r49_6, r49_7, r49_8, r49_9, r49_10, r49_11, h0, h5, hxl, d0, d1, d2, d3, hidx]
        simp [GrpR, ← hr]
      · rw [if_neg h91] at hr
        have w7 : IntKind.i64.wrap (7 * (k : Int)) = 7 * (k : Int) := wrap_i64 (by omega) (by omega)
        have w7' : IntKind.u64.wrap (7 * (k : Int)) = 7 * (k : Int) := wrap_u64 (by omega) (by omega)
        have wk : IntKind.i64.wrap ((k : Int) + 1) = ((k + 1 : Nat) : Int) := by rw [wrap_i64 (by omega) (by omega)]; omega
        have wm : IntKind.u64.wrap ((c.toNat % 128 : Nat) : Int) = ((c.toNat % 128 : Nat) : Int) := wrap_u64 (by omega) (by omega)
        have hn7 : ((7 : Int) * (k : Int) < 0) = False := by simp; omega
        have h99 : (128 : Nat) ^ 9 = 9223372036854775808 := by decide
        have h88 : (128 : Nat) ^ 8 = 72057594037927936 := by decide
        have hm64 : c.toNat % 128 * 128 ^ k < 2 ^ 64 := by
          by_cases h9 : k = 9
          · subst h9
            have : c.toNat % 128 ≤ 1 := by omega
            rw [h99]; omega
          · have h1 : 128 ^ k ≤ 128 ^ 8 := Nat.pow_le_pow_right (by decide) (by omega)
            have h2 : c.toNat % 128 * 128 ^ k ≤ 127 * 128 ^ 8 := Nat.mul_le_mul (by omega) h1
            omega
        have hst := group_step' hv (by omega) hm64
        have hlt2 := group_lt hv (m := c.toNat % 128) (Nat.mod_lt _ (by decide))
        have h64 : v + c.toNat % 128 * 128 ^ k < 2 ^ 64 := by
          by_cases h9 : k = 9
          · subst h9
            have : c.toNat % 128 ≤ 1 := by omega
            rw [h99] at hv ⊢; omega
          · have h1 : 128 ^ (k + 1) ≤ 128 ^ 9 := Nat.pow_le_pow_right (by decide) (by omega)
            omega
        generalize hv' : v + c.toNat % 128 * 128 ^ k = v' at *
        -- the test on the ninth
        have fin : ∀ (b9 : Bool) (b1 : Bool), ((k : Int) == 9) = b9 → decide ((1 : Int) < (c.toNat : Int)) = b1 → (b9 && b1) = false → EndsA E 54 [.c b49_12] .nrm tm S' (fun o tm' S'_1 => match o with
            | .nrm => ∃ m, m < 10 - k ∧ ∃ k v : Nat, k ≤ l.length ∧ k ≤ 10 ∧ m = 10 - k ∧ S'_1 = S' ∧ v < 128 ^ k ∧ grpG k v (l.drop k) = grpG 0 0 l ∧ getT tm' 0 = x ∧ getT tm' 5 = .sc (.int .i64 k) ∧ getT tm' 4 = .sc (.int .u64 v)
            | o => EndsA E 54 [.blk 0, .c (.seq (.reg r49_13) .ret)] o tm' S'_1 (RetQ E [.tmp 2, .tmp 3] fun r S'_2 => GrpR l r ∧ S'_2 = S')) := by
          intro b9 b1 e9 e1 eb
          by_cases hc128 : c.toNat < 128
          · have t1 : decide ((c.toNat : Int) < 128) = true := by simp; omega
            rw [if_pos hc128] at hr
            by_cases hc0 : c.toNat = 0
            · have t2 : ((c.toNat : Int) == 0) = true := by simp [hc0]
              by_cases hk0 : 0 < k
              · have t3 : decide ((0 : Int) < (k : Int)) = true := by simp; omega
                rw [if_pos ⟨hc0, hk0⟩] at hr
                cases b9 <;> cases b1 <;> first | (simp at eb; done) | (simp only [SXa, reduceCtorEq, Nat.reduceEqDiff, load5, index28, len28, conv3_90, conv5_85, b49_12, r49_3, r49_4, r49_5, r49_6, r49_7, r49_8, r49_9, r49_10, r49_11, r49_13, h0, h5, h4, hxl, d0, d1, e9, e1, hidx, and127_u8, wm, w7, w7', hn7, hst, t1, t2, t3]; simp [GrpR, ← hr])
              · have t3 : decide ((0 : Int) < (k : Int)) = false := by simp; omega
                rw [if_neg (by omega)] at hr
                cases b9 <;> cases b1 <;> first | (simp at eb; done) | (simp only [SXa, reduceCtorEq, Nat.reduceEqDiff, load5, index28, len28, conv3_90, conv5_85, b49_12, r49_3, r49_4, r49_5, r49_6, r49_7, r49_8, r49_9, r49_10, r49_11, r49_13, h0, h5, h4, hxl, d0, d1, e9, e1, hidx, and127_u8, wm, w7, w7', wk, hn7, hst, t1, t2, t3]; unfold GrpR; rw [← hr]; exact ⟨h64, rfl⟩)
            · have t2 : ((c.toNat : Int) == 0) = false := by simp [hc0]
              rw [if_neg (by omega)] at hr
              cases b9 <;> cases b1 <;> first | (simp at eb; done) | (simp only [SXa, reduceCtorEq, Nat.reduceEqDiff, load5, index28, len28, conv3_90, conv5_85, b49_12, r49_3, r49_4, r49_5, r49_6, r49_7, r49_8, r49_9, r49_10, r49_11, r49_13, h0, h5, h4, hxl, d0, d1, e9, e1, hidx, and127_u8, wm, w7, w7', wk, hn7, hst, t1, t2]; unfold GrpR; rw [← hr]; exact ⟨h64, rfl⟩)
          · have t1 : decide ((c.toNat : Int) < 128) = false := by simp; omega
            rw [if_neg hc128] at hr
            cases b9 <;> cases b1 <;> first | (simp at eb; done) | (simp only [SXa, reduceCtorEq, Nat.reduceEqDiff, load5, index28, len28, conv3_90, conv5_85, b49_12, r49_3, r49_4, r49_5, r49_6, r49_7, r49_8, r49_9, r49_10, r49_11, r49_13, h0, h5, h4, hxl, d0, d1, e9, e1, hidx, and127_u8, wm, w7, w7', wk, hn7, hst, t1]; exact ⟨10 - (k + 1), by omega, k + 1, v', by omega, by omega, rfl, hlt2, hr, rfl, rfl⟩)
        refine fin _ _ rfl rfl ?_
        cases h1 : ((k : Int) == 9) with
        | false => rfl
        | true =>
          simp at h1
          simp; omega
    · have d1 : decide ((k : Int) < 10) = false := by simp; omega
      rw [if_pos (by omega)] at hr
      simp only [SXa, reduceCtorEq, Nat.reduceEqDiff, len28, b49_12, r49_3, r49_4, r49_5, r49_6, r49_7, r49_8, r49_9, r49_10, r49_11, h0, h5, hxl, d0, d1]
      simp [GrpR, ← hr]
  · have d0 := dec_nlt hlt
    rw [List.drop_eq_nil_of_le (by omega)] at hr
    simp only [SXa, reduceCtorEq, Nat.reduceEqDiff, len28, b49_12, r49_3, r49_4, r49_5, r49_6, r49_7, r49_8, r49_9, r49_10, r49_11, h0, h5, hxl, d0]
    simp [GrpR, ← hr, grpG]
theorem addMore {m : Nat} : IntKind.u8.wrap (IntKind.u8.wrap ((m : Int).tmod 128) + 128) = ((UInt8.ofNat (m % 128 + 128)).toNat : Int) := by
  have e : (m : Int).tmod 128 = ((m % 128 : Nat) : Int) := by rw [Int.tmod_eq_emod_of_nonneg (by omega)]; omega
  have e2 : IntKind.u8.wrap ((m % 128 : Nat) : Int) = ((m % 128 : Nat) : Int) := wrap_u8 (by omega) (by omega)
  rw [e, e2, wrap_u8 (by omega) (by omega)]
  simp; omega
theorem grp40_ok (n : Nat) (hn : n < 2 ^ 64) (X : AV) (l : List UInt8) (S : St) (hS : S.Fresh) (hX : OwnV S 5 1 X (byteVals l)) (hl : l.length ≤ 2 ^ 41) :
    ∃ r S', EvA E 40 [X, .sc (.int .u64 n)] S r S' ∧ Wr S S' X r (l ++ numS n) := by
  have hlen := num64_len hn
  refine ev40 rfl ?_
  simp only [SXa, Nat.reduceAdd, r40_0, r40_5, p40]
  refine e_loop (fun tm S' m => ∃ (X' : AV) (l' : List UInt8), getT tm 0 = X' ∧ getT tm 1 = .sc (.int .u64 m) ∧ m ≤ n ∧ l' ++ numS m = l ++ numS n ∧ OwnV S' 5 1 X' (byteVals l') ∧ Grow S S' X ∧ (X' = X ∨ ∃ id xs, X' = .vec id 1 xs ∧ S.nid ≤ id)) n ⟨X, l, by simp [getT_setD], by simp [getT_setD], Nat.le_refl _, rfl, hX, Grow.refl hS _, .inl rfl⟩ ?_
  rintro tm S' m ⟨X', l', h0, h1, hm, he, hO, hG, hid⟩
  have hle : l'.length ≤ 2 ^ 41 + 10 := by
    have := congrArg List.length he
    simp at this; omega
  have hG2 : Grow S (appS 5 S' X') X := hG.trans (Grow.app hG.fresh hO) (by
    rcases hid with h | ⟨id, xs, h, h2⟩
    · exact .inl h
    · exact .inr (.inr ⟨id, 1, xs, h, h2⟩))
  by_cases hlt : m < 128
  · have c1 : decide ((128 : Int) ≤ (m : Int)) = false := by simp; omega
    have hb := bs_byte (S := S') el28 (IntKind.u8.wrap m)
    have hap := app_own (S := S') (Y := .vec 1 1 [.sc (.int .u8 (IntKind.u8.wrap m))]) el28 und28 hG.fresh hO (IsV.vec 1 1 _) (by simp) rfl (by rw [byteVals_length]; simp; omega)
    simp only [SXa, reduceCtorEq, Nat.reduceEqDiff, bs28, app28, conv85_5, b40_4, r40_1, r40_2, r40_3, h0, h1, c1, hb, hap]
    refine ⟨?_, hG2, ⟨_, _, rfl, hG.nid⟩⟩
    have := appS_own (zs := byteVals (l ++ numS n)) hG.fresh hO
    rw [← he, numS_lt hlt, ← byteVals_app] at this
    rw [lowByte (by omega)]
    rw [← he, numS_lt hlt, ← byteVals_app]
    exact this
  · have c1 : decide ((128 : Int) ≤ (m : Int)) = true := by simp; omega
    have q1 : ∀ (t : TypeId) (x y : Operand) (S : St), binGen E .rem t x y (.sc (.int .u64 m)) (.sc (.int .u64 128)) S = some (.sc (.int .u64 ((m : Int).tmod 128)), S) := fun t x y S => b_rem t x y _ _ _ (by decide)
    have q2 : ∀ (t : TypeId) (x y : Operand) (S : St), binGen E .quo t x y (.sc (.int .u64 m)) (.sc (.int .u64 128)) S = some (.sc (.int .u64 ((m / 128 : Nat) : Int)), S) := fun t x y S => by
      rw [b_quo t x y _ _ _ (by decide), Int.tdiv_eq_ediv_of_nonneg (by omega), wrapN (by omega) (by omega)]
      rfl
    have hb := bs_byte (S := S') el28 ((UInt8.ofNat (m % 128 + 128)).toNat : Int)
    have hap := app_own (S := S') (Y := .vec 1 1 [.sc (.int .u8 ((UInt8.ofNat (m % 128 + 128)).toNat : Int))]) el28 und28 hG.fresh hO (IsV.vec 1 1 _) (by simp) rfl (by rw [byteVals_length]; simp; omega)
    simp only [SXa, reduceCtorEq, Nat.reduceEqDiff, bs28, app28, conv85_5, b40_4, r40_1, r40_2, r40_3, h0, h1, c1, q1, q2, addMore, hb, hap]
    refine ⟨m / 128, by omega, _, l' ++ [UInt8.ofNat (m % 128 + 128)], rfl, rfl, by omega, ?_, ?_, hG2, .inr ⟨_, _, rfl, hG.nid⟩⟩
    · rw [← he, numS_ge hlt]; simp
    · rw [byteVals_one, byteVals_app]
      exact appS_own hG.fresh hO

theorem pc38_ok (n : Int) (S : St) : ∃ r S', EvA E 38 [.sc (.int .i64 n)] S r S' ∧ r = .sc (.bool (inB n 0 2147483647)) ∧ S' = S := by
  refine ev38 rfl ?_
  by_cases h1 : 0 ≤ n
  · have c1 : decide (0 ≤ n) = true := by simpa using h1
    simp only [SXa, reduceCtorEq, Nat.reduceEqDiff, Nat.reduceAdd, r38_0, r38_1, p38, c1]
    simp [inB, h1]
  · have c1 : decide (0 ≤ n) = false := by simpa using h1
    simp only [SXa, reduceCtorEq, Nat.reduceEqDiff, Nat.reduceAdd, r38_0, r38_1, p38, c1]
    simp [inB, h1]
theorem pcE (n : Int) (S : St) : EvA E 38 [.sc (.int .i64 n)] S (.sc (.bool (inB n 0 2147483647))) S := by
  obtain ⟨r, S', h, h1, h2⟩ := pc38_ok n S
  subst h1; subst h2
  exact h
theorem line39_ok (n : Int) (S : St) : ∃ r S', EvA E 39 [.sc (.int .i64 n)] S r S' ∧ r = .sc (.bool (inB n 1 2147483647)) ∧ S' = S := by
  refine ev39 rfl ?_
  by_cases h1 : 1 ≤ n
  · have c1 : decide (1 ≤ n) = true := by simpa using h1
    simp only [SXa, reduceCtorEq, Nat.reduceEqDiff, Nat.reduceAdd, r39_0, r39_1, p39, c1]
    simp [inB, h1]
  · have c1 : decide (1 ≤ n) = false := by simpa using h1
    simp only [SXa, reduceCtorEq, Nat.reduceEqDiff, Nat.reduceAdd, r39_0, r39_1, p39, c1]
    simp [inB, h1]
theorem lineE (n : Int) (S : St) : EvA E 39 [.sc (.int .i64 n)] S (.sc (.bool (inB n 1 2147483647))) S := by
  obtain ⟨r, S', h, h1, h2⟩ := line39_ok n S
  subst h1; subst h2
  exact h

theorem fld80_0 {tm : PM AV} {S : St} {d : Option Tmp} (x : Operand) : opV E tm d (.fieldAddr 80 x 0) S = fldV 0 (E.ev tm x) S := field_chk 80 0 0 (by kernel_rfl) x
theorem fld80_1 {tm : PM AV} {S : St} {d : Option Tmp} (x : Operand) : opV E tm d (.fieldAddr 80 x 1) S = fldV 1 (E.ev tm x) S := field_chk 80 1 1 (by kernel_rfl) x
def numQ (b : List UInt8) (bad : Bool) : Int × List UInt8 × Bool := match grpG 0 0 b with
  | some (v, m) => if bad = true ∨ 2147483647 < v then (0, b, true) else ((v : Int), b.drop m, false)
  | none => (0, b, true)
def txtQ (b : List UInt8) (bad : Bool) : ByteArray × List UInt8 × Bool :=
  if (numQ b bad).2.2 = true ∨ ((numQ b bad).2.1.length : Int) < (numQ b bad).1 then (⟨#[]⟩, (numQ b bad).2.1, true)
  else (⟨((numQ b bad).2.1.take (numQ b bad).1.toNat).toArray⟩, (numQ b bad).2.1.drop (numQ b bad).1.toNat, false)
theorem numQ_nn (b : List UInt8) (bad : Bool) : 0 ≤ (numQ b bad).1 := by
  unfold numQ
  split
  · split
    · exact Int.le_refl _
    · omega
  · exact Int.le_refl _
theorem numQ_most (b : List UInt8) (bad : Bool) : (numQ b bad).1 ≤ 2147483647 := by
  unfold numQ
  split
  · split
    · show (0 : Int) ≤ _; omega
    · show ((_ : Nat) : Int) ≤ _; omega
  · show (0 : Int) ≤ _; omega
theorem numQ_len (b : List UInt8) (bad : Bool) : (numQ b bad).2.1.length ≤ b.length := by
  unfold numQ
  split
  · split
    · exact Nat.le_refl _
    · simp
  · exact Nat.le_refl _
theorem txtQ_len (b : List UInt8) (bad : Bool) : (txtQ b bad).2.1.length ≤ b.length := by
  have := numQ_len b bad
  unfold txtQ
  split
  · exact this
  · simp only [List.length_drop]; omega
set_option maxHeartbeats 16000000 in
theorem num36_ok (b : List UInt8) (bad : Bool) (hb : b.length ≤ 2 ^ 60) (p : Nat) (S : St) (hS : S.Fresh) (h : IsRd S p b bad) :
    ∃ r S', EvA E 36 [.ptr p 0] S r S' ∧ r = .sc (.int .i64 (numQ b bad).1) ∧ IsRd S' p (numQ b bad).2.1 (numQ b bad).2.2 ∧ GrowB p S S' := by
  obtain ⟨x, ho, hx⟩ := h
  refine ev36 rfl ?_
  have g0 := (Grow.refl hS nilV).toB p
  obtain ⟨r1, S1, e1, h1, rfl⟩ := groups_ok b hb x hx S
  simp only [SXa, reduceCtorEq, Nat.reduceEqDiff, Nat.reduceAdd, load28, call49, r36_0, r36_1, r36_2, r36_3, r36_4, r36_5, r36_6, p36, op_nilCheck, chk_p, fld80_0, fld_p, load_pb, ho, Option.bind_some, Nat.add_zero]
  refine callK_of e1 ?_
  unfold GrpR at h1
  have bd : IsRd (S1.put p (.cells [x, .sc (.bool true)])) p b true := ⟨x, by rw [put_obj, if_pos rfl], hx⟩
  cases hg : grpG 0 0 b with
  | none =>
    have hq : numQ b bad = (0, b, true) := by simp [numQ, hg]
    rw [hq]
    rw [hg] at h1
    subst h1
    have c0 : ((0 : Int) == 0) = true := rfl
    cases bad <;> simp only [SXa, reduceCtorEq, Nat.reduceEqDiff, Nat.reduceAdd, load4, store4, op_nilCheck, chk_p, fld80_1, fld_p, load_pb, ho, Option.bind_some, Nat.zero_add, c0, st4, Nat.lt_add_one, List.set_cons_succ, List.set_cons_zero] <;> exact ⟨bd, g0.put _⟩
  | some q =>
    obtain ⟨v, m⟩ := q
    rw [hg] at h1
    obtain ⟨hv, rfl⟩ := h1
    have hm := grpG_pos b 0 0 hg
    have c0 : ((m : Int) == 0) = false := by simp; omega
    cases bad with
    | true =>
      have hq : numQ b true = (0, b, true) := by simp [numQ, hg]
      rw [hq]
      simp only [SXa, reduceCtorEq, Nat.reduceEqDiff, Nat.reduceAdd, load4, store4, op_nilCheck, chk_p, fld80_1, fld_p, load_pb, ho, Option.bind_some, Nat.zero_add, st4, Nat.lt_add_one, List.set_cons_succ, List.set_cons_zero]
      exact ⟨bd, g0.put _⟩
    | false =>
      by_cases hv2 : 2147483647 < v
      · have c1 : decide ((2147483647 : Int) < (v : Int)) = true := by simp only [decide_eq_true_eq]; omega
        have hq : numQ b false = (0, b, true) := by simp [numQ, hg, hv2]
        rw [hq]
        simp only [SXa, reduceCtorEq, Nat.reduceEqDiff, Nat.reduceAdd, load4, store4, op_nilCheck, chk_p, fld80_1, fld_p, load_pb, ho, Option.bind_some, Nat.zero_add, c0, c1, st4, Nat.lt_add_one, List.set_cons_succ, List.set_cons_zero]
        exact ⟨bd, g0.put _⟩
      · have c1 : decide ((2147483647 : Int) < (v : Int)) = false := by simp only [decide_eq_false_iff_not]; omega
        have wv : IntKind.i64.wrap ((v : Nat) : Int) = (v : Int) := wrap_i64 (by omega) (by omega)
        have hq : numQ b false = ((v : Int), b.drop m, false) := by simp [numQ, hg, hv2]
        rw [hq]
        obtain ⟨s2, v2⟩ := tailB hx .i64 m (by omega)
        have hsts := st28 v2 p
        generalize subV x m b.length = z2 at s2 v2 hsts
        simp only [SXa, reduceCtorEq, Nat.reduceEqDiff, Nat.reduceAdd, load4, load28, store28, conv85_3, op_nilCheck, chk_p, fld80_0, fld80_1, fld_p, load_pb, ho, Option.bind_some, Nat.add_zero, Nat.zero_add, c0, c1, s2, hsts, Nat.zero_lt_succ, List.set_cons_zero, wv]
        exact ⟨⟨z2, by rw [put_obj, if_pos rfl], v2⟩, g0.put _⟩
set_option maxHeartbeats 16000000 in
theorem txt37_ok (b : List UInt8) (bad : Bool) (hb : b.length ≤ 2 ^ 60) (p : Nat) (S : St) (hS : S.Fresh) (h : IsRd S p b bad) :
    ∃ r S', EvA E 37 [.ptr p 0] S r S' ∧ r = .sc (.string (txtQ b bad).1) ∧ IsRd S' p (txtQ b bad).2.1 (txtQ b bad).2.2 ∧ GrowB p S S' := by
  obtain ⟨r, S1, e1, rfl, h1, g1⟩ := num36_ok b bad hb p S hS h
  refine ev37 rfl ?_
  simp only [SXa, reduceCtorEq, Nat.reduceEqDiff, Nat.reduceAdd, call36, r37_0, r37_1, r37_2, r37_3, r37_4, r37_5, r37_6, r37_7, p37]
  refine callK_of e1 ?_
  have hnn := numQ_nn b bad
  have hnl := numQ_len b bad
  unfold txtQ
  generalize numQ b bad = q at h1 hnn hnl ⊢
  obtain ⟨n, b1, bad1⟩ := q
  simp only at h1 hnn hnl ⊢
  obtain ⟨x, ho, hx⟩ := h1
  obtain ⟨m, rfl⟩ : ∃ m : Nat, n = m := ⟨n.toNat, by omega⟩
  rw [Int.toNat_natCast]
  have bd : IsRd (S1.put p (.cells [x, .sc (.bool true)])) p b1 true := ⟨x, by rw [put_obj, if_pos rfl], hx⟩
  cases bad1 with
  | true =>
    rw [if_pos (.inl rfl)]
    simp only [SXa, reduceCtorEq, Nat.reduceEqDiff, Nat.reduceAdd, load4, store4, op_nilCheck, chk_p, fld80_1, fld_p, load_pb, ho, Option.bind_some, Nat.zero_add, st4, Nat.lt_add_one, List.set_cons_succ, List.set_cons_zero]
    exact ⟨bd, g1.put _⟩
  | false =>
    by_cases hm : b1.length < m
    · have c1 : decide (((b1.length : Nat) : Int) < (m : Int)) = true := by simp; omega
      rw [if_pos (.inr (by omega))]
      simp only [SXa, reduceCtorEq, Nat.reduceEqDiff, Nat.reduceAdd, load4, store4, load28, len28, op_nilCheck, chk_p, fld80_0, fld80_1, fld_p, load_pb, ho, Option.bind_some, Nat.add_zero, Nat.zero_add, hx.len, c1, st4, Nat.lt_add_one, List.set_cons_succ, List.set_cons_zero]
      exact ⟨bd, g1.put _⟩
    · have c1 : decide (((b1.length : Nat) : Int) < (m : Int)) = false := by simp; omega
      rw [if_neg (by simp; omega)]
      obtain ⟨s1, v1⟩ := headB hx .i64 m (by omega)
      obtain ⟨s2, v2⟩ := tailB hx .i64 m (by omega)
      have hs := fun mu S => strB v1 mu S
      have hsts := st28 v2 p
      generalize subV x 0 m = z1 at s1 v1 hs
      generalize subV x m b1.length = z2 at s2 v2 hsts
      simp only [SXa, reduceCtorEq, Nat.reduceEqDiff, Nat.reduceAdd, load4, load28, store28, len28, op_nilCheck, chk_p, fld80_0, fld80_1, fld_p, load_pb, ho, Option.bind_some, Nat.add_zero, Nat.zero_add, hx.len, c1, s1, s2, hs, hsts, Nat.zero_lt_succ, List.set_cons_zero]
      exact ⟨⟨z2, by rw [put_obj, if_pos rfl], v2⟩, g1.put _⟩
end Go.Proofs.Ytmmpcomfhcpicaa
