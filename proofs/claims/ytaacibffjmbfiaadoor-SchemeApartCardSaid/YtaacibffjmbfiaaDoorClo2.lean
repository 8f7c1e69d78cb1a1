/-
  Schemes closed: a slice that grows in objects of its own; its numbers sorted.
-/
import Derived.Test.YtaacibffjmbfiaaDoorClo1
set_option linter.unusedSimpArgs false
set_option linter.unusedVariables false
set_option maxRecDepth 100000
namespace Go.Proofs.YtaacibffjmbfiaaDoor
open Go.Abs
theorem newObj_obj (S : St) (cs : List AV) (k : Nat) : (S.newObj cs).obj k = if k = S.no then some cs else S.obj k := by
  simp only [St.newObj, St.newRaw, St.obj, PM.get_set]
  by_cases h : k = S.no
  · simp [h]
  · simp [h]
theorem newObj_get (S : St) (cs : List AV) (k : Nat) (h : k ≠ S.no) : (S.newObj cs).objs.get k = S.objs.get k := by
  simp only [St.newObj, St.newRaw, PM.get_set, h, if_false]
theorem newObj_no (S : St) (cs : List AV) : (S.newObj cs).no = S.no + 1 := rfl
theorem grow_newObj {S0 S : St} {x : AV} (g : Grow S0 S x) (cs : List AV) : Grow S0 (S.newObj cs) x :=
  ⟨g.nid, g.sp, g.ity, Nat.le_succ_of_le g.no, fun l hl => by
    rw [newObj_get _ _ _ (by have := g.no; omega)]
    exact g.obj l hl, g.fresh, g.ver⟩
/-- A slice of numbers in an object of its own, from number b on. -/
def MutI (b : Nat) (S : St) (X : AV) (out : List Int) : Prop := (X = nilV ∧ out = []) ∨ ∃ l, X = .osl l 1 0 out.length out.length ∧ b ≤ l ∧ l < S.no ∧ S.obj l = some (ints out) ∧ out ≠ []
theorem MutI.okc {b : Nat} {S : St} {X : AV} {out : List Int} (h : MutI b S X out) : okCell X = true := by
  rcases h with ⟨rfl, _⟩ | ⟨l, rfl, _⟩ <;> rfl
theorem MutI.rd {b : Nat} {S : St} {X : AV} {out : List Int} (h : MutI b S X out) : RdI S X out := by
  rcases h with ⟨rfl, rfl⟩ | ⟨l, rfl, _, h1, h2, _⟩
  · exact .inl (.nil 1)
  · exact .inr ⟨l, _, rfl, h1, _, h2, by rw [List.take_of_length_le (by rw [ints_len]; exact Nat.le_refl _)]⟩
theorem MutI.notO {b p : Nat} {S : St} {X : AV} {out : List Int} (h : MutI b S X out) (hp : p < b) : NotO p X := by
  rintro o sz off len room rfl
  rcases h with ⟨h, _⟩ | ⟨l, h, hb, _⟩
  · cases h
  · cases h; omega
theorem MutI.grow {b : Nat} {S S' : St} {X x : AV} {out : List Int} (h : MutI b S X out) (g : Grow S S' x) : MutI b S' X out := by
  rcases h with h | ⟨l, rfl, hb, h1, h2, h3⟩
  · exact .inl h
  · exact .inr ⟨l, rfl, hb, Nat.lt_of_lt_of_le h1 g.no, g.objs h2 h1, h3⟩
theorem append_mut {b : Nat} {S : St} {X : AV} {out : List Int} (h : MutI b S X out) (hb : b ≤ S.no) (hl : out.length ≤ 2 ^ 40) (c : Int) :
    ∃ S2, builtinA E true .append [32, 32] [X, .vec 1 1 [.sc (.int .i64 c)]] S = some (.osl S.no 1 0 (out.length + 1) (out.length + 1), S2) ∧ MutI b S2 (.osl S.no 1 0 (out.length + 1) (out.length + 1)) (out ++ [c]) ∧ S2.no = S.no + 1 ∧
      (∀ S0, Grow S0 S nilV → S0.no ≤ b → Grow S0 S2 nilV) ∧ (∀ k, k < b → S2.objs.get k = S.objs.get k) := by
  have hlen : (out ++ [c]).length = out.length + 1 := by simp
  have ht := el32
  unfold elIs at ht
  split at ht
  · rename_i e' de i hd hde hi
    simp only [Bool.and_eq_true, beq_iff_eq] at ht
    obtain ⟨⟨⟨⟨⟨k1, k2⟩, k3⟩, k4⟩, k5⟩, k6⟩ := ht
    have k1 := Nat.eq_of_beq_eq_true k1
    have k3 := Nat.eq_of_beq_eq_true k3
    have k4 := Nat.eq_of_beq_eq_true k4
    subst k1
    have hsz : allSz 1 [AV.sc (.int .i64 c)] = true := rfl
    have hfl : flat? 1 [AV.sc (.int .i64 c)] = some [AV.sc (.int .i64 c)] := rfl
    rcases h with ⟨rfl, rfl⟩ | ⟨l, rfl, hbl, h1, h2, h3⟩
    · refine ⟨S.newObj [.sc (.int .i64 c)], ?_, .inr ⟨S.no, rfl, hb, Nat.lt_succ_self _, by rw [newObj_obj]; simp [ints], by simp⟩, rfl, fun S0 g _ => grow_newObj g _, fun k hk => newObj_get _ _ _ (by omega)⟩
      have hbb : Nat.ble (1 * (8 + 1)) (2 ^ 46) = true := by decide
      simp only [builtinA, hd, hde, hi, appendA, elemsS, elemsOf, k3, appendXs, hsz, k5, k6, Bool.and_self, cond_true, k4, List.length_cons, List.length_nil, Nat.zero_add, hbb, newSlice, hfl, Nat.beq_refl]
      have k6' : Nat.blt 0 1 = true := by decide
      simp only [k6', Bool.and_self, cond_true]
    · have hbl1 : Nat.ble ((out.length + 1) * (8 + 1)) (2 ^ 46) = true := Nat.ble_eq_true_of_le (by omega)
      have hr : Nat.ble (out.length + 1) out.length = false := by
        cases e : Nat.ble (out.length + 1) out.length
        · rfl
        · have := Nat.le_of_ble_eq_true e; omega
      have hq : Nat.beq (0 + out.length * 1) (ints out).length = true := by
        rw [ints_len, Nat.zero_add, Nat.mul_one]; exact Nat.beq_refl _
      refine ⟨(S.put l .dead).newObj (ints (out ++ [c])), ?_, .inr ⟨S.no, by rw [hlen], hb, Nat.lt_succ_self _, by rw [newObj_obj, put_no, if_pos rfl], by simp⟩, rfl, fun S0 g hb0 => grow_newObj (g.put l .dead (by omega)) _, fun k hk => ?_⟩
      · have k6' : Nat.blt 0 1 = true := by decide
        simp only [builtinA, hd, hde, hi, appendA, elemsS, elemsOf, k3, appendXs, hsz, k5, k6', Bool.and_self, cond_true, k4, List.length_cons, List.length_nil, Nat.zero_add, hbl1, Nat.beq_refl, appendOsl, h2, hfl, hr, Bool.false_and, cond_false]
        have hq' : Nat.beq (out.length * 1) (ints out).length = true := by rw [ints_len, Nat.mul_one]; exact Nat.beq_refl _
        simp only [hq', cond_true, List.drop_zero]
        have : ints out ++ [AV.sc (.int .i64 c)] = ints (out ++ [c]) := by simp [ints]
        rw [this]
      · rw [newObj_get _ _ _ (by rw [put_no]; omega)]
        have : k ≠ l := by omega
        simp only [St.put, PM.get_set, this, if_false]
  · simp at ht
theorem intsOf_ints : ∀ l : List Int, intsOf (ints l) = some l
  | [] => rfl
  | z :: r => by
    have := intsOf_ints r
    simp only [ints, List.map_cons] at this ⊢
    simp [intsOf, this]
theorem evX {args : List AV} {S : St} {r : AV} {S' : St} (h : sortX args S = some (r, S')) : EvA E 41 args S r S' := by
  refine ⟨1, fun lf n _ hn => ?_⟩
  obtain ⟨k, rfl⟩ : ∃ q, n = q + 1 := ⟨n - 1, by omega⟩
  have h1 : E.fn 41 = some Tryd.f41 := by kernel_rfl
  have h2 : E.X 41 = some sortX := rfl
  simp only [evF, h1, h2]
  exact h
theorem sort41_ok {b : Nat} {S : St} {X : AV} {out : List Int} (h : MutI b S X out) (hl : out.length ≤ 2 ^ 40) : ∃ S2, EvA E 41 [X] S (.sc (.tuple #[])) S2 ∧ MutI b S2 X (sortI out) ∧ S2.no = S.no ∧ (∀ S0, Grow S0 S nilV → S0.no ≤ b → Grow S0 S2 nilV) ∧ (∀ k, k < b → S2.objs.get k = S.objs.get k) := by
  have hlen := sortI_len out
  rcases h with ⟨rfl, rfl⟩ | ⟨l, rfl, hbl, h1, h2, h3⟩
  · exact ⟨S, evX rfl, .inl ⟨rfl, rfl⟩, rfl, fun _ g _ => g, fun _ _ => rfl⟩
  · have h0 : 0 < out.length := by
      cases out with
      | nil => exact absurd rfl h3
      | cons => simp
    refine ⟨S.put l (.cells (ints (sortI out))), evX ?_, .inr ⟨l, by rw [hlen], hbl, h1, by rw [put_obj, if_pos rfl], by intro e; rw [e] at hlen; simp at hlen; omega⟩, rfl, fun S0 g hb0 => g.put _ _ (by omega), fun k hk => ?_⟩
    · have a1 : Nat.blt 0 out.length = true := Nat.ble_eq_true_of_le h0
      have a2 : Nat.ble (0 + out.length) (ints out).length = true := by rw [ints_len, Nat.zero_add]; exact Nat.ble_eq_true_of_le (Nat.le_refl _)
      have a3 : Nat.ble out.length (2 ^ 60) = true := Nat.ble_eq_true_of_le (by omega)
      have a4 : intsOf (((ints out).drop 0).take out.length) = some out := by
        rw [List.drop_zero, List.take_of_length_le (by rw [ints_len]; exact Nat.le_refl _)]
        exact intsOf_ints out
      have a5 : splice (ints out) 0 ((sortI out).map fun z => .sc (.int .i64 z)) = ints (sortI out) := splice_all (vs := ints (sortI out)) (by rw [ints_len, ints_len, hlen])
      simp only [sortX, h2, a1, a2, a3, a4, a5, Bool.and_self, cond_true]
    · have : k ≠ l := by omega
      simp only [St.put, PM.get_set, this, if_false]
end Go.Proofs.YtaacibffjmbfiaaDoor
