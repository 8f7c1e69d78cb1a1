/-
  Package info: numbers and texts, read.
-/
import Derived.Test.YtmmpcomfhcpicaaInf5
set_option linter.unusedSimpArgs false
set_option linter.unusedVariables false
set_option maxRecDepth 100000
namespace Go.Proofs.Ytmmpcomfhcpicaa
open Go.Abs
theorem or_i64 (a b : Nat) (ha : a < 2 ^ 63) (hb : b < 2 ^ 63) : bitsV .or .i64 (a : Int) (b : Int) = ((a ||| b : Nat) : Int) := by
  have h : a ||| b < 2 ^ 63 := Nat.or_lt_two_pow ha hb
  have e : bitsV .or .i64 (a : Int) (b : Int) = IntKind.i64.wrap (((BitVec.ofInt 64 (a : Int) ||| BitVec.ofInt 64 (b : Int)).toNat : Nat) : Int) := rfl
  rw [e, ofInt_nat, ofInt_nat, BitVec.toNat_or, BitVec.toNat_ofNat, BitVec.toNat_ofNat, Nat.mod_eq_of_lt (by omega), Nat.mod_eq_of_lt (by omega)]
  exact wrap_i64 (by omega) (by omega)
theorem group5 {v m k : Nat} (hv : v < 128 ^ k) (hm : m < 128) (hk : k < 5) : bitsV .or .i64 (v : Int) (IntKind.i64.wrap ((m : Int) * 2 ^ min (7 * (k : Int)).toNat IntKind.i64.bits)) = ((v + m * 128 ^ k : Nat) : Int) := by
  have e1 : min (7 * (k : Int)).toNat IntKind.i64.bits = 7 * k := by simp [IntKind.bits]; omega
  have h1 : 128 ^ k ≤ 128 ^ 4 := Nat.pow_le_pow_right (by decide) (by omega)
  have h2 : m * 128 ^ k ≤ 127 * 128 ^ 4 := Nat.mul_le_mul (by omega) h1
  have h3 : (128 : Nat) ^ 4 = 268435456 := by decide
  rw [e1]
  have e2 : (m : Int) * 2 ^ (7 * k) = ((m * 128 ^ k : Nat) : Int) := by rw [pow128]; simp
  rw [e2, wrap_i64 (by omega) (by omega), or_i64 _ _ (by omega) (by omega), pow128]
  rw [pow128] at hv
  rw [or_disj hv]
/-- A number of at most five bytes: its value and what lies behind it. -/
def rdK (most : Int) : Nat → Nat → List UInt8 → Option (Nat × List UInt8)
  | _, _, [] => none
  | k, v, c :: r => if 5 ≤ k then none else if c.toNat < 128 then (if (0 < k ∧ c.toNat = 0) ∨ most < ((v + c.toNat % 128 * 128 ^ k : Nat) : Int) then none else some (v + c.toNat % 128 * 128 ^ k, r)) else rdK most (k + 1) (v + c.toNat % 128 * 128 ^ k) r
def numR (most : Int) (b : List UInt8) (bad : Bool) : Int × List UInt8 × Bool := match rdK most 0 0 b with
  | some (v, r) => ((v : Int), r, bad)
  | none => (0, [], true)
def IsRd (S : St) (p : Nat) (b : List UInt8) (bad : Bool) : Prop := ∃ X, S.obj p = some [X, .sc (.bool bad)] ∧ IsV 1 X (byteVals b)
theorem fld75_0 {tm : PM AV} {S : St} {d : Option Tmp} (x : Operand) : opV E tm d (.fieldAddr 75 x 0) S = fldV 0 (E.ev tm x) S := field_chk 75 0 0 (by kernel_rfl) x
theorem fld75_1 {tm : PM AV} {S : St} {d : Option Tmp} (x : Operand) : opV E tm d (.fieldAddr 75 x 1) S = fldV 1 (E.ev tm x) S := field_chk 75 1 1 (by kernel_rfl) x
theorem st28 {x : AV} {xs : List AV} (h : IsV 1 x xs) (l off : Nat) (S : St) : storeC 1 (.ptr l off) x S = (S.obj l).bind fun cs => if off < cs.length then some (passed, S.put l (.cells (cs.set off x))) else none := by
  rcases h with ⟨rfl, _⟩ | ⟨id, rfl⟩
  · exact store_1 l off _ rfl rfl
  · exact store_1 l off _ rfl rfl
theorem st4 (b : Bool) (l off : Nat) (S : St) : storeC 1 (.ptr l off) (.sc (.bool b)) S = (S.obj l).bind fun cs => if off < cs.length then some (passed, S.put l (.cells (cs.set off (.sc (.bool b))))) else none := store_1 l off _ rfl rfl
theorem ev_nil (tm : PM AV) : E.ev tm (.const (.slice none 0 0)) = nilV := rfl
set_option maxHeartbeats 16000000 in
theorem number34_ok (most : Int) (b : List UInt8) (bad : Bool) (hb : b.length ≤ 2 ^ 60) (p : Nat) (S : St) (hS : S.Fresh) (h : IsRd S p b bad) :
    ∃ r S', EvA E 34 [.ptr p 0, .sc (.int .i64 most)] S r S' ∧ r = .sc (.int .i64 (numR most b bad).1) ∧ IsRd S' p (numR most b bad).2.1 (numR most b bad).2.2 ∧ GrowB p S S' := by
  obtain ⟨x, ho, hx⟩ := h
  refine ev34 rfl ?_
  have gr := (Grow.raise hS 13 nilV).toB p
  have ho1 : (S.raise 13).obj p = some [x, .sc (.bool bad)] := ho
  have hmin : (if (5 : Int) < (b.length : Int) then (5 : Int) else (b.length : Int)) = ((min b.length 5 : Nat) : Int) := by split <;> omega
  have hsl : ∀ S, sliceA E 28 x none (some (.sc (.int .i64 ((min b.length 5 : Nat) : Int)))) S = some (subV x 0 (min b.length 5), S) := fun S => hx.slice sl28 (bounds_hi (by rw [byteVals_length]; omega)) S
  have hy : IsV 1 (subV x 0 (min b.length 5)) (byteVals (b.take (min b.length 5))) := by simpa using hx.subB 0 (min b.length 5) (by omega)
  generalize subV x 0 (min b.length 5) = y at hsl hy
  simp only [SXa, reduceCtorEq, Nat.reduceEqDiff, Nat.reduceAdd, load28, len28, r34_0, r34_1, r34_2, r34_12, r34_13, p34, op_nilCheck, chk_p, fld75_0, fld_p, load_pb, ho1, Option.bind_some, Nat.add_zero, hx.len, hmin, hsl, hy.len]
  have hq : (b.take (min b.length 5)).length = min b.length 5 := by simp
  rw [hq]
  generalize hqq : min b.length 5 = q at *
  generalize S.raise 13 = S1 at gr ho1
  refine e_loop (fun tm S' n => ∃ k v : Nat, k ≤ q ∧ n = q - k ∧ S' = S1 ∧ v < 128 ^ k ∧ rdK most k v (b.drop k) = rdK most 0 0 b ∧ getT tm 0 = .ptr p 0 ∧ getT tm 1 = .sc (.int .i64 most) ∧ getT tm 18 = y ∧ getT tm 19 = .sc (.int .i64 q) ∧ getT tm 20 = .sc (.int .i64 k) ∧ getT tm 5 = .sc (.int .i64 v)) q ⟨0, 0, by simp [getT_setD]⟩ ?_
  rintro tm S' n ⟨k, v, hk, rfl, rfl, hv, hr, t0, t1, t18, t19, t20, t5⟩
  have fin : ∀ S2, rdK most 0 0 b = none → S2 = (S'.put p (.cells [nilV, .sc (.bool bad)])).put p (.cells [nilV, .sc (.bool true)]) → IsRd S2 p (numR most b bad).2.1 (numR most b bad).2.2 ∧ GrowB p S S2 := fun S2 h1 h2 => by
    subst h2
    simp only [numR, h1]
    exact ⟨⟨nilV, by rw [put_obj, if_pos rfl], .inl ⟨rfl, rfl⟩⟩, (gr.put _).put _⟩
  have fz : rdK most 0 0 b = none → (numR most b bad).1 = 0 := fun h1 => by simp only [numR, h1]
  by_cases hlt : k < q
  · have hkl : k < b.length := by omega
    have hidx : ∀ S, idxV 1 y (some (k : Int)) S = some (.eptr [.sc (.int .u8 b[k].toNat)] 0, S) := fun S => by
      have := hy.idxB (k := k) (by omega) S
      simpa using this
    have hd : b.drop k = b[k] :: b.drop (k + 1) := (List.drop_eq_getElem_cons hkl)
    have hc := b[k].toNat_lt
    have w7 : IntKind.i64.wrap (7 * (k : Int)) = 7 * (k : Int) := wrap_i64 (by omega) (by omega)
    have wk : IntKind.i64.wrap ((k : Int) + 1) = ((k + 1 : Nat) : Int) := by rw [wrap_i64 (by omega) (by omega)]; omega
    have wm : IntKind.i64.wrap ((b[k].toNat % 128 : Nat) : Int) = ((b[k].toNat % 128 : Nat) : Int) := wrap_i64 (by omega) (by omega)
    have hn7 : ((7 : Int) * (k : Int) < 0) = False := by simp; omega
    have hst := group5 hv (m := b[k].toNat % 128) (Nat.mod_lt _ (by decide)) (by omega)
    have hlt2 := group_lt hv (m := b[k].toNat % 128) (Nat.mod_lt _ (by decide))
    rw [hd, rdK, if_neg (by omega)] at hr
    generalize hv' : v + b[k].toNat % 128 * 128 ^ k = v' at *
    generalize hcc : b[k] = c at *
    by_cases hc128 : c.toNat < 128
    · rw [if_pos hc128] at hr
      have u1 : (bitsV .and .u8 (c.toNat : Int) 128 != 0) = false := by
        have : (bitsV .and .u8 (c.toNat : Int) 128 == 0) = true := by rw [top1_u8]; simpa using hc128
        simp only [bne, this, Bool.not_true]
      have hs2 : ∀ S, sliceA E 28 x (some (.sc (.int .i64 ((k + 1 : Nat) : Int)))) none S = some (subV x (k + 1) b.length, S) := fun S => by
        have := hx.slice (E := E) sl28 (lo := some (.sc (.int .i64 ((k + 1 : Nat) : Int)))) (hi := none) (a := k + 1) (b := b.length) (by rw [bounds_lo (by rw [byteVals_length]; omega), byteVals_length]) S
        exact this
      have hrest : IsV 1 (subV x (k + 1) b.length) (byteVals (b.drop (k + 1))) := by
        have := hx.subB (k + 1) b.length (Nat.le_refl _)
        rwa [List.take_of_length_le (by simp)] at this
      have good : rdK most 0 0 b = some (v', b.drop (k + 1)) → (numR most b bad).1 = (v' : Int) ∧ IsRd (S'.put p (.cells [subV x (k + 1) b.length, .sc (.bool bad)])) p (numR most b bad).2.1 (numR most b bad).2.2 := fun h1 => by
        simp only [numR, h1]
        exact ⟨trivial, _, by rw [put_obj, if_pos rfl], hrest⟩
      have hsts := st28 hrest p
      generalize subV x (k + 1) b.length = z at hs2 hrest good hsts
      by_cases hk0 : k = 0
      · have c1 : decide ((0 : Int) < (k : Int)) = false := by simp [hk0]
        by_cases hm : most < (v' : Int)
        · have c2 : decide (most < (v' : Int)) = true := by simpa using hm
          rw [if_pos (.inr hm)] at hr
          simp only [SXa, reduceCtorEq, Nat.reduceEqDiff, Nat.reduceAdd, store4, load5, store28, index28, conv5_3, b34_11, r34_3, r34_4, r34_5, r34_6, r34_7, r34_8, r34_9, r34_10, op_nilCheck, chk_p, fld75_0, fld75_1, fld_p, ho1, Option.bind_some, Nat.add_zero, Nat.zero_add, t0, t1, t18, t19, t20, t5, dec_lt hlt, hidx, low7_u8, wm, w7, wk, hn7, hst, u1, c1, c2, st28 (.inl ⟨rfl, rfl⟩ : IsV 1 nilV []), st4, put_obj, Nat.zero_lt_succ, List.set_cons_zero, List.set_cons_succ, Nat.lt_add_one]
          exact ⟨by rw [fz hr.symm], fin _ hr.symm rfl⟩
        · have c2 : decide (most < (v' : Int)) = false := by simpa using hm
          rw [if_neg (by omega)] at hr
          simp only [SXa, reduceCtorEq, Nat.reduceEqDiff, Nat.reduceAdd, load5, load28, store28, index28, conv5_3, b34_11, r34_3, r34_4, r34_5, r34_6, r34_7, r34_8, r34_9, r34_10, op_nilCheck, chk_p, fld75_0, fld_p, load_pb, ho1, Option.bind_some, Nat.add_zero, Nat.zero_add, t0, t1, t18, t19, t20, t5, dec_lt hlt, hidx, low7_u8, wm, w7, wk, hn7, hst, u1, hs2, c1, c2, hsts, Nat.zero_lt_succ, List.set_cons_zero]
          exact ⟨by rw [(good hr.symm).1], (good hr.symm).2, gr.put _⟩
      · have c1 : decide ((0 : Int) < (k : Int)) = true := by simp; omega
        by_cases hc0 : c.toNat = 0
        · have c3 : ((c.toNat : Int) == 0) = true := by simp [hc0]
          rw [if_pos (.inl ⟨by omega, hc0⟩)] at hr
          simp only [SXa, reduceCtorEq, Nat.reduceEqDiff, Nat.reduceAdd, store4, load5, store28, index28, conv5_3, b34_11, r34_3, r34_4, r34_5, r34_6, r34_7, r34_8, r34_9, r34_10, op_nilCheck, chk_p, fld75_0, fld75_1, fld_p, ho1, Option.bind_some, Nat.add_zero, Nat.zero_add, t0, t1, t18, t19, t20, t5, dec_lt hlt, hidx, low7_u8, wm, w7, wk, hn7, hst, u1, c1, c3, st28 (.inl ⟨rfl, rfl⟩ : IsV 1 nilV []), st4, put_obj, Nat.zero_lt_succ, List.set_cons_zero, List.set_cons_succ, Nat.lt_add_one]
          exact ⟨by rw [fz hr.symm], fin _ hr.symm rfl⟩
        · have c3 : ((c.toNat : Int) == 0) = false := by simp; omega
          by_cases hm : most < (v' : Int)
          · have c2 : decide (most < (v' : Int)) = true := by simpa using hm
            rw [if_pos (.inr hm)] at hr
            simp only [SXa, reduceCtorEq, Nat.reduceEqDiff, Nat.reduceAdd, store4, load5, store28, index28, conv5_3, b34_11, r34_3, r34_4, r34_5, r34_6, r34_7, r34_8, r34_9, r34_10, op_nilCheck, chk_p, fld75_0, fld75_1, fld_p, ho1, Option.bind_some, Nat.add_zero, Nat.zero_add, t0, t1, t18, t19, t20, t5, dec_lt hlt, hidx, low7_u8, wm, w7, wk, hn7, hst, u1, c1, c2, c3, st28 (.inl ⟨rfl, rfl⟩ : IsV 1 nilV []), st4, put_obj, Nat.zero_lt_succ, List.set_cons_zero, List.set_cons_succ, Nat.lt_add_one]
            exact ⟨by rw [fz hr.symm], fin _ hr.symm rfl⟩
          · have c2 : decide (most < (v' : Int)) = false := by simpa using hm
            rw [if_neg (by omega)] at hr
            simp only [SXa, reduceCtorEq, Nat.reduceEqDiff, Nat.reduceAdd, load5, load28, store28, index28, conv5_3, b34_11, r34_3, r34_4, r34_5, r34_6, r34_7, r34_8, r34_9, r34_10, op_nilCheck, chk_p, fld75_0, fld_p, load_pb, ho1, Option.bind_some, Nat.add_zero, Nat.zero_add, t0, t1, t18, t19, t20, t5, dec_lt hlt, hidx, low7_u8, wm, w7, wk, hn7, hst, u1, hs2, c1, c2, c3, hsts, Nat.zero_lt_succ, List.set_cons_zero]
            exact ⟨by rw [(good hr.symm).1], (good hr.symm).2, gr.put _⟩
    · rw [if_neg hc128] at hr
      have u1 : (bitsV .and .u8 (c.toNat : Int) 128 != 0) = true := by
        have : (bitsV .and .u8 (c.toNat : Int) 128 == 0) = false := by rw [top1_u8]; simpa using hc128
        simp only [bne, this, Bool.not_false]
      simp only [SXa, reduceCtorEq, Nat.reduceEqDiff, load5, store28, index28, conv5_3, b34_11, r34_3, r34_4, r34_5, r34_6, r34_7, r34_8, r34_9, r34_10, op_nilCheck, chk_p, fld75_0, fld_p, Nat.add_zero, t0, t1, t18, t19, t20, t5, dec_lt hlt, hidx, low7_u8, wm, w7, wk, hn7, hst, u1]
      exact ⟨q - (k + 1), by omega, k + 1, v', by omega, rfl, hlt2, hr, rfl, rfl⟩
  · have hr0 : rdK most 0 0 b = none := by
      rw [← hr]
      by_cases h9 : 5 ≤ k
      · cases hd : b.drop k with
        | nil => rfl
        | cons c r => rw [rdK, if_pos h9]
      · rw [List.drop_eq_nil_of_le (by omega)]; rfl
    simp only [SXa, reduceCtorEq, Nat.reduceEqDiff, Nat.reduceAdd, store4, store28, b34_11, r34_3, r34_4, r34_5, r34_6, r34_7, r34_8, r34_9, r34_10, op_nilCheck, chk_p, fld75_0, fld75_1, fld_p, ho1, Option.bind_some, Nat.add_zero, Nat.zero_add, t0, t19, t20, dec_nlt hlt, st28 (.inl ⟨rfl, rfl⟩ : IsV 1 nilV []), st4, put_obj, Nat.zero_lt_succ, List.set_cons_zero, List.set_cons_succ, Nat.lt_add_one]
    exact ⟨by rw [fz hr0], fin _ hr0 rfl⟩
end Go.Proofs.Ytmmpcomfhcpicaa
