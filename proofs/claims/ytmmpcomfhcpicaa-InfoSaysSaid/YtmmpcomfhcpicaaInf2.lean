/-
  Package info: Good: the walk.
-/
import Derived.Test.YtmmpcomfhcpicaaInf1
set_option linter.unusedSimpArgs false
set_option linter.unusedVariables false
set_option maxRecDepth 100000
namespace Go.Proofs.Ytmmpcomfhcpicaa
open Go.Abs
theorem len9 {tm : PM AV} {S : St} {d : Option Tmp} (x : Operand) : opV E tm d (.call (Call.mk (.builtin .len) #[x] #[9])) S = builtinA E (E.hp 9 d) .len [9] [E.ev tm x] S := rfl
theorem len9s (mu : Bool) (s : ByteArray) (S : St) : builtinA E mu .len [9] [.sc (.string s)] S = some (.sc (.int .i64 (s.size : Nat)), S) := by
  have h : E.und 9 = some .string := by kernel_rfl
  simp only [builtinA, h]
set_option maxHeartbeats 16000000 in
theorem variable_ok (v : VarV) (S : St) (hS : S.Fresh) : ∃ r S', EvA E 31 [.agg (varA v)] S r S' ∧ r = .sc (.bool (varB v)) ∧ Grow S S' nilV := by
  refine ev31 rfl ?_
  have g0 := (Grow.refl hS nilV).born 43 (varA v)
  have h0 : (S.born 43 (varA v)).obj S.no = some (varA v) := by simp [born_obj]
  simp only [varA] at g0 h0
  simp only [SXa, Nat.reduceAdd, r31_0, r31_1, p31, varA, op_box, cells_agg]
  generalize S.born 43 [.sc (.int .i64 v.frm), .sc (.int .i64 v.to), .sc (.string v.name), .sc (.int .i64 v.kind), .sc (.int .i64 v.n), .sc (.string v.typ)] = S0 at g0 h0
  simp only [SXa, reduceCtorEq, Nat.reduceEqDiff, load3, call44, load_pb, h0, fld43_0, fld_p, Option.bind_some, Nat.add_zero]
  refine callK_of (inE _ _ _ _) ?_
  cases h1 : inB v.frm 0 2147483647 with
  | false =>
    simp only [SXa, reduceCtorEq, Nat.reduceEqDiff]
    exact ⟨by simp [varB, h1], g0⟩
  | true =>
  simp only [SXa, reduceCtorEq, Nat.reduceEqDiff, load3, call44, load_pb, h0, fld43_1, fld_p, Option.bind_some, Nat.zero_add]
  refine callK_of (inE _ _ _ _) ?_
  cases h2 : inB v.to 0 2147483647 with
  | false =>
    simp only [SXa, reduceCtorEq, Nat.reduceEqDiff]
    exact ⟨by simp [varB, h2], g0⟩
  | true =>
  by_cases h3 : v.frm < v.to
  case neg =>
    have c3 : decide (v.frm < v.to) = false := by simpa using h3
    simp only [SXa, reduceCtorEq, Nat.reduceEqDiff, load3, load_pb, h0, fld43_0, fld43_1, fld_p, Option.bind_some, Nat.zero_add, Nat.add_zero, c3]
    exact ⟨by simp [varB, h3], g0⟩
  have c3 : decide (v.frm < v.to) = true := by simpa using h3
  simp only [SXa, reduceCtorEq, Nat.reduceEqDiff, load3, load9, call44, load_pb, h0, fld43_0, fld43_1, fld43_2, fld_p, Option.bind_some, Nat.zero_add, Nat.add_zero, c3, len9, len9s]
  refine callK_of (inE _ _ _ _) ?_
  cases h4 : inB v.name.size 1 4000 with
  | false =>
    simp only [SXa, reduceCtorEq, Nat.reduceEqDiff]
    exact ⟨by simp [varB, h4], g0⟩
  | true =>
  simp only [SXa, reduceCtorEq, Nat.reduceEqDiff, load3, call44, load_pb, h0, fld43_3, fld_p, Option.bind_some, Nat.zero_add]
  refine callK_of (inE _ _ _ _) ?_
  cases h5 : inB v.kind 1 3 with
  | false =>
    simp only [SXa, reduceCtorEq, Nat.reduceEqDiff]
    exact ⟨by simp [varB, h5], g0⟩
  | true =>
  simp only [SXa, reduceCtorEq, Nat.reduceEqDiff, load3, call44, load_pb, h0, fld43_4, fld_p, Option.bind_some, Nat.zero_add]
  refine callK_of (inE _ _ _ _) ?_
  cases h6 : inB v.n 0 65535 with
  | false =>
    simp only [SXa, reduceCtorEq, Nat.reduceEqDiff]
    exact ⟨by simp [varB, h6], g0⟩
  | true =>
  simp only [SXa, reduceCtorEq, Nat.reduceEqDiff, load9, load_pb, h0, fld43_5, fld_p, Option.bind_some, Nat.zero_add, len9, len9s]
  refine ⟨?_, g0⟩
  have e : decide (((v.typ.size : Nat) : Int) ≤ 4000000) = decide (v.typ.size ≤ 4000000) := by
    rw [Bool.eq_iff_iff]; simp only [decide_eq_true_eq]; omega
  rw [e]
  simp [varB, h1, h2, h3, h4, h5, h6]

/-! Records in a row of cells. -/
def varsA (l : List VarV) : List AV := l.map fun v => .agg (varA v)
def cellsV (l : List VarV) : List AV := l.flatMap varA
theorem cellsV_len (l : List VarV) : (cellsV l).length = l.length * 6 := by
  induction l with
  | nil => rfl
  | cons v r ih => simp only [cellsV, List.flatMap_cons, List.length_append, List.length_cons] at ih ⊢; rw [ih]; simp [varA]; omega
theorem cellsV_drop : ∀ (l : List VarV) (k : Nat) (h : k < l.length), ((cellsV l).drop (k * 6)).take 6 = varA l[k]
  | v :: r, 0, _ => by simp [cellsV, varA]
  | v :: r, k + 1, h => by
    have ih := cellsV_drop r k (by simpa using h)
    have e : (cellsV (v :: r)).drop ((k + 1) * 6) = (cellsV r).drop (k * 6) := by
      have : (k + 1) * 6 = (varA v).length + k * 6 := by simp [varA]; omega
      rw [this, cellsV, List.flatMap_cons, List.drop_append]
      simp [cellsV]
    rw [e, ih]
    simp
theorem cellsV_at (l : List VarV) (k : Nat) (h : k < l.length) (r : Nat) (hr : r < 6) : (cellsV l)[k * 6 + r]? = (varA l[k])[r]? := by
  have := congrArg (fun q => q[r]?) (cellsV_drop l k h)
  simp only [List.getElem?_take, if_pos hr, List.getElem?_drop] at this
  exact this
theorem recs_cells : ∀ l : List VarV, recsOf parseV 6 l.length (cellsV l) = some l
  | [] => rfl
  | v :: r => by
    have e1 : (cellsV (v :: r)).take 6 = varA v := by simp [cellsV, varA]
    have e2 : (cellsV (v :: r)).drop 6 = cellsV r := by simp [cellsV, varA]
    rw [List.length_cons, recsOf, e1, e2, parseV_varA, recs_cells r]
theorem cells_enc (l : List VarV) : (l.flatMap encV).map AV.sc = cellsV l := by
  rw [List.map_flatMap]; rfl
theorem flat_vars : ∀ l : List VarV, flat? 6 (varsA l) = some (cellsV l)
  | [] => rfl
  | v :: r => by
    have ih := flat_vars r
    simp only [varsA] at ih
    simp only [varsA, List.map_cons, flat?, ih]
    simp [cellsOf, okCell, varA, cellsV]
theorem allSz_vars : ∀ l : List VarV, allSz 6 (varsA l) = true
  | [] => rfl
  | v :: r => by simp only [varsA, List.map_cons, allSz, Bool.and_eq_true]; exact ⟨rfl, allSz_vars r⟩
/-- A row of variables of its own, that may be sorted in place. -/
def OwnO (b : Nat) (S : St) (Y : AV) (l : List VarV) : Prop := (Y = nilV ∧ l = []) ∨ (Y = .vec 1 6 [] ∧ l = []) ∨ ∃ o, Y = .osl o 6 0 l.length l.length ∧ b ≤ o ∧ o < S.no ∧ S.obj o = some (cellsV l) ∧ l ≠ []
theorem OwnO.len {b : Nat} {S : St} {Y : AV} {l : List VarV} (h : OwnO b S Y l) (S1 : St) : lenV Y S1 = some (.sc (.int .i64 (l.length : Nat)), S1) := by
  rcases h with ⟨rfl, rfl⟩ | ⟨rfl, rfl⟩ | ⟨o, rfl, _⟩ <;> rfl
theorem OwnO.grow {b : Nat} {S S' : St} {Y x : AV} {l : List VarV} (h : OwnO b S Y l) (g : Grow S S' x) : OwnO b S' Y l := by
  rcases h with h | h | ⟨o, h1, h2, h3, h4, h5⟩
  · exact .inl h
  · exact .inr (.inl h)
  · exact .inr (.inr ⟨o, h1, h2, Nat.lt_of_lt_of_le h3 g.no, g.objs h4 h3, h5⟩)
theorem OwnO.at {b : Nat} {S : St} {Y : AV} {l : List VarV} (h : OwnO b S Y l) {k : Nat} (hk : k < l.length) : ∃ o, (∀ S1, idxV 6 Y (some (k : Int)) S1 = some (.ptr o (k * 6), S1)) ∧ o < S.no ∧ S.obj o = some (cellsV l) := by
  rcases h with ⟨_, rfl⟩ | ⟨_, rfl⟩ | ⟨o, rfl, _, h3, h4, _⟩
  · simp at hk
  · simp at hk
  · refine ⟨o, fun S1 => ?_, h3, h4⟩
    have a2 : ((k : Int) < ((l.length : Nat) : Int)) := by omega
    simp [idxV, hk]
theorem load_var {S : St} {o : Nat} {l : List VarV} (h : S.obj o = some (cellsV l)) {k : Nat} (hk : k < l.length) : loadC true 6 (.ptr o (k * 6)) S = some (.agg (varA l[k]), S) := by
  have hl := cellsV_len l
  rw [load_pb, h, Option.bind_some, cut_t, if_pos (by rw [hl]; omega), cellsV_drop l k hk]
  rfl
theorem load_fld {S : St} {o : Nat} {l : List VarV} (h : S.obj o = some (cellsV l)) {k : Nat} (hk : k < l.length) {r : Nat} (hr : r < 6) {v : AV} (hv : (varA l[k])[r]? = some v) : loadC false 1 (.ptr o (k * 6 + r)) S = some (v, S) := by
  rw [load_pb, h, Option.bind_some, cut_f, cellsV_at l k hk r hr, hv]
  rfl
theorem eq_nn (S : St) (x y : Operand) : binGen E .eql 23 x y (.sc (.slice none 0 0)) (.sc (.slice none 0 0)) S = some (.sc (.bool true), S) := by kernel_rfl
theorem bs23_0 (S : St) : buildSliceA E 23 0 [] S = some (.vec 1 6 [], S) := by kernel_rfl
theorem app23_mut (id : Nat) (l : List VarV) (hl : l.length ≤ 10000) (S : St) : builtinA E true .append [23, 23] [.vec 1 6 [], .vec id 6 (varsA l)] S = some (if l = [] then (.vec 1 6 [], S) else (.osl S.no 6 0 l.length l.length, S.newObj (cellsV l))) := by
  have ht := el23
  unfold elIs at ht
  split at ht
  · rename_i e' de i hd hde hi
    simp only [Bool.and_eq_true, beq_iff_eq] at ht
    obtain ⟨⟨⟨⟨⟨k1, k2⟩, k3⟩, k4⟩, k5⟩, k6⟩ := ht
    have k1 := Nat.eq_of_beq_eq_true k1
    have k3 := Nat.eq_of_beq_eq_true k3
    have k4 := Nat.eq_of_beq_eq_true k4
    subst k1
    simp only [builtinA, hd, hde, hi, appendA, elemsS, elemsOf]
    cases l with
    | nil => simp [varsA, appendXs]
    | cons v r =>
      have h1 := allSz_vars (v :: r)
      have h2 := flat_vars (v :: r)
      have h3 : Nat.ble ((0 + (varsA (v :: r)).length) * (i.bytes + 1)) (2 ^ 46) = true := by
        refine Nat.ble_eq_true_of_le ?_
        rw [k4]
        have : (varsA (v :: r)).length = (v :: r).length := by simp [varsA]
        rw [this]
        omega
      have h4 : (varsA (v :: r)).length = (v :: r).length := by simp [varsA]
      have h5 : Nat.blt 0 6 = true := by decide
      generalize hxs : varsA (v :: r) = xs at h1 h2 h3 h4
      cases xs with
      | nil => simp at h4
      | cons y ys =>
        have h3' : Nat.ble ((r.length + 1) * (i.bytes + 1)) 70368744177664 = true := by
          rw [h4] at h3
          simpa using h3
        simp only [appendXs, h1, k3, k5, h5, Bool.and_self, cond_true, Nat.beq_refl, List.length_nil, List.nil_append, Bool.true_or, newSlice, h2, h4]
        simp [h3']
  · simp at ht
theorem newObj_obj (S : St) (cs : List AV) (k : Nat) : (S.newObj cs).obj k = if k = S.no then some cs else S.obj k := by
  simp only [St.newObj, St.newRaw, St.obj, PM.get_set]
  by_cases h : k = S.no
  · simp [h]
  · simp [h]
theorem grow_newObj {S0 S : St} {x : AV} (g : Grow S0 S x) (cs : List AV) : Grow S0 (S.newObj cs) x :=
  ⟨g.nid, g.sp, g.ity, Nat.le_succ_of_le g.no, fun l hl => by
    have : l ≠ S.no := by have := g.no; omega
    simp only [St.newObj, St.newRaw, PM.get_set, this, if_false]
    exact g.obj l hl, g.fresh, g.ver⟩
theorem clone_ok (l : List VarV) (x : AV) (hx : IsV 6 x (varsA l)) (hl : l.length ≤ 10000) (S : St) (hS : S.Fresh) : ∃ r S', EvA E 25 [x] S r S' ∧ OwnO S.no S' r l ∧ Grow S S' nilV := by
  refine ev25 rfl ?_
  rcases hx with ⟨rfl, h⟩ | ⟨id, rfl⟩
  · have hl0 : l = [] := by cases l with | nil => rfl | cons => simp [varsA] at h
    simp only [SXa, reduceCtorEq, Nat.reduceEqDiff, Nat.reduceAdd, r25_0, r25_1, r25_2, r25_3, p25, eq_nn]
    exact ⟨.inl ⟨rfl, hl0⟩, Grow.refl hS _⟩
  · have c1 : ∀ (S : St) (a b : Operand), binGen E .eql 23 a b (.vec id 6 (varsA l)) (.sc (.slice none 0 0)) S = some (.sc (.bool false), S) := fun S a b => eq_vecnil und23 a b id 6 _
    by_cases h0 : l = []
    · simp only [SXa, reduceCtorEq, Nat.reduceEqDiff, Nat.reduceAdd, Nat.reduceBEq, bs23, r25_0, r25_1, r25_2, r25_3, p25, c1, bs23_0, app23m, app23_mut id l hl, if_pos h0]
      exact ⟨.inr (.inl ⟨rfl, h0⟩), Grow.refl hS _⟩
    · simp only [SXa, reduceCtorEq, Nat.reduceEqDiff, Nat.reduceAdd, Nat.reduceBEq, bs23, r25_0, r25_1, r25_2, r25_3, p25, c1, bs23_0, app23m, app23_mut id l hl, if_neg h0]
      exact ⟨.inr (.inr ⟨S.no, rfl, Nat.le_refl _, Nat.lt_succ_self _, by rw [newObj_obj, if_pos rfl], h0⟩), grow_newObj (Grow.refl hS _) _⟩
end Go.Proofs.Ytmmpcomfhcpicaa
