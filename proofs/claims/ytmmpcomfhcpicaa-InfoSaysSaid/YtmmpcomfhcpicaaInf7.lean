/-
  Package info: texts read; slices of structs that grow.
-/
import Derived.Test.YtmmpcomfhcpicaaInf6
set_option linter.unusedSimpArgs false
set_option linter.unusedVariables false
set_option maxRecDepth 100000
namespace Go.Proofs.Ytmmpcomfhcpicaa
open Go.Abs
theorem bounds_loK {n a : Nat} (k : IntKind) (h : a ≤ n) : bounds n (some (.sc (.int k (a : Int)))) none = some (a, n) := by simp [bounds, int?, h]
theorem bounds_hiK {n b : Nat} (k : IntKind) (h : b ≤ n) : bounds n none (some (.sc (.int k (b : Int)))) = some (0, b) := by simp [bounds, int?, h]
theorem tailB {x : AV} {l : List UInt8} (h : IsV 1 x (byteVals l)) (k : IntKind) (a : Nat) (ha : a ≤ l.length) : (∀ S, sliceA E 28 x (some (.sc (.int k (a : Int)))) none S = some (subV x a l.length, S)) ∧ IsV 1 (subV x a l.length) (byteVals (l.drop a)) := by
  refine ⟨fun S => h.slice sl28 (by rw [bounds_loK k (by rw [byteVals_length]; exact ha), byteVals_length]) S, ?_⟩
  have := h.subB a l.length (Nat.le_refl _)
  rwa [List.take_of_length_le (by simp)] at this
theorem headB {x : AV} {l : List UInt8} (h : IsV 1 x (byteVals l)) (k : IntKind) (a : Nat) (ha : a ≤ l.length) : (∀ S, sliceA E 28 x none (some (.sc (.int k (a : Int)))) S = some (subV x 0 a, S)) ∧ IsV 1 (subV x 0 a) (byteVals (l.take a)) := by
  refine ⟨fun S => h.slice sl28 (bounds_hiK k (by rw [byteVals_length]; exact ha)) S, ?_⟩
  have := h.subB 0 a ha
  simpa using this
theorem bytesOf_vals : ∀ l : List UInt8, bytesOf? (byteVals l) = some l
  | [] => rfl
  | c :: r => by
    have := bytesOf_vals r
    simp only [byteVals, List.map_cons] at this ⊢
    simp [bytesOf?, this]
theorem nilStr (mu : Bool) (S : St) : convertA E mu 28 9 (.sc (.slice none 0 0)) S = some (.sc (.string ⟨#[]⟩), S) := by kernel_rfl
theorem strB {y : AV} {l : List UInt8} (h : IsV 1 y (byteVals l)) (mu : Bool) (S : St) : convertA E mu 28 9 y S = some (.sc (.string ⟨l.toArray⟩), S) := by
  rcases h with ⟨rfl, e⟩ | ⟨id, rfl⟩
  · cases l with
    | nil => exact nilStr mu S
    | cons c r => simp [byteVals] at e
  · have h1 : isStrBytes E 28 9 = false := by kernel_rfl
    have h2 : E.und 9 = some .string := by kernel_rfl
    have h3 : isU8 (E.und 5) = true := by kernel_rfl
    simp only [convertA, h1, cond_false, und28, h2, h3, Bool.true_and, show Nat.beq 1 1 = true from rfl, cond_true, bytesOf_vals, Option.map_some]
theorem numR_nn (most : Int) (b : List UInt8) (bad : Bool) : 0 ≤ (numR most b bad).1 := by
  unfold numR
  split
  · exact Int.natCast_nonneg _
  · exact Int.le_refl _
theorem rdK_len (most : Int) : ∀ (b : List UInt8) (k v n : Nat) (r : List UInt8), rdK most k v b = some (n, r) → r.length ≤ b.length
  | [], k, v, n, r, h => by simp [rdK] at h
  | c :: b, k, v, n, r, h => by
    rw [rdK] at h
    split at h
    · cases h
    · split at h
      · split at h
        · cases h
        · simp only [Option.some.injEq, Prod.mk.injEq] at h
          rw [← h.2]
          exact Nat.le_succ _
      · exact Nat.le_succ_of_le (rdK_len most b _ _ _ _ h)
theorem numR_len (most : Int) (b : List UInt8) (bad : Bool) : (numR most b bad).2.1.length ≤ b.length := by
  unfold numR
  split
  · rename_i v r h
    exact rdK_len most b _ _ _ _ h
  · exact Nat.zero_le _
theorem rdK_most (most : Int) : ∀ (b : List UInt8) (k v n : Nat) (r : List UInt8), rdK most k v b = some (n, r) → (n : Int) ≤ most
  | [], k, v, n, r, h => by simp [rdK] at h
  | c :: b, k, v, n, r, h => by
    rw [rdK] at h
    split at h
    · cases h
    · split at h
      · split at h
        · cases h
        · rename_i hc
          simp only [Option.some.injEq, Prod.mk.injEq] at h
          rw [← h.1]
          omega
      · exact rdK_most most b _ _ _ _ h
theorem numR_most (most : Int) (hm : 0 ≤ most) (b : List UInt8) (bad : Bool) : (numR most b bad).1 ≤ most := by
  unfold numR
  split
  · rename_i v r h
    exact rdK_most most b _ _ _ _ h
  · exact hm
def txtR (most : Int) (b : List UInt8) (bad : Bool) : ByteArray × List UInt8 × Bool :=
  if ((numR most b bad).2.1.length : Int) < (numR most b bad).1 then (⟨#[]⟩, [], true)
  else (⟨((numR most b bad).2.1.take (numR most b bad).1.toNat).toArray⟩, (numR most b bad).2.1.drop (numR most b bad).1.toNat, (numR most b bad).2.2)
theorem txtR_len (most : Int) (b : List UInt8) (bad : Bool) : (txtR most b bad).2.1.length ≤ b.length := by
  have := numR_len most b bad
  unfold txtR
  split
  · exact Nat.zero_le _
  · simp only [List.length_drop]; omega
set_option maxHeartbeats 16000000 in
theorem text35_ok (most : Int) (b : List UInt8) (bad : Bool) (hb : b.length ≤ 2 ^ 60) (p : Nat) (S : St) (hS : S.Fresh) (h : IsRd S p b bad) :
    ∃ r S', EvA E 35 [.ptr p 0, .sc (.int .i64 most)] S r S' ∧ r = .sc (.string (txtR most b bad).1) ∧ IsRd S' p (txtR most b bad).2.1 (txtR most b bad).2.2 ∧ GrowB p S S' := by
  obtain ⟨r, S1, e1, rfl, h1, g1⟩ := number34_ok most b bad hb p S hS h
  refine ev35 rfl ?_
  simp only [SXa, reduceCtorEq, Nat.reduceEqDiff, Nat.reduceAdd, call34, r35_0, r35_1, r35_2, r35_3, r35_4, r35_5, r35_6, r35_7, p35]
  refine callK_of e1 ?_
  have hnn := numR_nn most b bad
  have hnl := numR_len most b bad
  have ht : ∀ x y z, txtR most b bad = (x, y, z) → (txtR most b bad).1 = x ∧ (txtR most b bad).2.1 = y ∧ (txtR most b bad).2.2 = z := fun x y z e => by rw [e]; exact ⟨rfl, rfl, rfl⟩
  unfold txtR at ht ⊢
  generalize numR most b bad = q at h1 hnn hnl ht ⊢
  obtain ⟨n, b1, bad1⟩ := q
  simp only at h1 hnn hnl ht ⊢
  obtain ⟨x, ho, hx⟩ := h1
  obtain ⟨m, rfl⟩ : ∃ m : Nat, n = m := ⟨n.toNat, by omega⟩
  rw [Int.toNat_natCast] at ht ⊢
  by_cases hm : b1.length < m
  · have c1 : decide (((b1.length : Nat) : Int) < (m : Int)) = true := by simp; omega
    rw [if_pos (by omega)]
    simp only [SXa, reduceCtorEq, Nat.reduceEqDiff, Nat.reduceAdd, store4, load28, store28, len28, op_nilCheck, chk_p, fld75_0, fld75_1, fld_p, load_pb, ho, Option.bind_some, Nat.add_zero, Nat.zero_add, hx.len, c1, st28 (.inl ⟨rfl, rfl⟩ : IsV 1 nilV []), st4, put_obj, Nat.zero_lt_succ, List.set_cons_zero, List.set_cons_succ, Nat.lt_add_one]
    exact ⟨⟨nilV, by rw [put_obj, if_pos rfl], .inl ⟨rfl, rfl⟩⟩, (g1.put _).put _⟩
  · have c1 : decide (((b1.length : Nat) : Int) < (m : Int)) = false := by simp; omega
    rw [if_neg (by omega)]
    obtain ⟨s1, v1⟩ := headB hx .i64 m (by omega)
    obtain ⟨s2, v2⟩ := tailB hx .i64 m (by omega)
    have hs := fun mu S => strB v1 mu S
    have hsts := st28 v2 p
    generalize subV x 0 m = z1 at s1 v1 hs
    generalize subV x m b1.length = z2 at s2 v2 hsts
    simp only [SXa, reduceCtorEq, Nat.reduceEqDiff, Nat.reduceAdd, load28, store28, len28, op_nilCheck, chk_p, fld75_0, fld_p, load_pb, ho, Option.bind_some, Nat.add_zero, Nat.zero_add, hx.len, c1, s1, s2, hs, hsts, Nat.zero_lt_succ, List.set_cons_zero]
    exact ⟨⟨z2, by rw [put_obj, if_pos rfl], v2⟩, g1.put _⟩
/-- A slice of structs of this function's own, that grows. -/
structure Wn (e : TypeId) (sz : Nat) (S0 S : St) (X : AV) (xs : List AV) : Prop where
  own : OwnV S e sz X xs
  id : X = nilV ∨ ∃ id ys, X = .vec id sz ys ∧ S0.nid ≤ id
theorem Wn.start (e : TypeId) (sz : Nat) (S0 S : St) : Wn e sz S0 S nilV [] := ⟨.inl ⟨rfl, rfl⟩, .inl rfl⟩
theorem Wn.growB {e : TypeId} {sz p : Nat} {S0 S S' : St} {X : AV} {xs : List AV} (h : Wn e sz S0 S X xs) (g : GrowB p S S') : Wn e sz S0 S' X xs := ⟨h.own.growB g, h.id⟩
theorem Wn.on {e : TypeId} {sz : Nat} {S0 S S' : St} {X : AV} {xs : List AV} (h : Wn e sz S0 S X xs) (g : Grow S S' nilV) : Wn e sz S0 S' X xs := ⟨h.own.grow g (fun _ _ _ _ _ _ e => by cases e), h.id⟩
theorem Wn.app {t t1 e e1 : TypeId} {agg : Bool} {sz bytes : Nat} {S0 S : St} {X v : AV} {xs : List AV} (h : Wn e sz S0 S X xs) (hG : Grow S0 S nilV) (ht : elIs E t e agg sz bytes = true) (ht1 : E.und t1 = some (.slice e1)) (hv : allSz sz [v] = true) (hb : (xs.length + 1) * (bytes + 1) ≤ 2 ^ 46) :
    builtinA E false .append [t, t1] [X, .vec 1 sz [v]] S = some (.vec S.nid sz (xs ++ [v]), appS e S X) ∧ Wn e sz S0 (appS e S X) (.vec S.nid sz (xs ++ [v])) (xs ++ [v]) ∧ Grow S0 (appS e S X) nilV := by
  refine ⟨app_own ht ht1 hG.fresh h.own (IsV.vec 1 sz [v]) (by simp) hv (by simpa using hb), ⟨appS_own hG.fresh h.own, .inr ⟨_, _, rfl, hG.nid⟩⟩, hG.trans (Grow.app hG.fresh h.own) ?_⟩
  rcases h.id with h | ⟨id, ys, h, h2⟩
  · exact .inl h
  · exact .inr (.inr ⟨id, sz, ys, h, h2⟩)
theorem okV {sz : Nat} {x : AV} {xs : List AV} (h : IsV sz x xs) : okCell x = true := by
  rcases h with ⟨rfl, _⟩ | ⟨id, rfl⟩ <;> rfl
theorem st_v {sz : Nat} {x : AV} {xs : List AV} (h : IsV sz x xs) (l off : Nat) (S : St) : storeC 1 (.ptr l off) x S = (S.obj l).bind fun cs => if off < cs.length then some (passed, S.put l (.cells (cs.set off x))) else none := by
  rcases h with ⟨rfl, _⟩ | ⟨id, rfl⟩
  · exact store_1 l off _ rfl rfl
  · exact store_1 l off _ rfl rfl
theorem st25 {x y : AV} (hx : okCell x = true) (hy : okCell y = true) (l : Nat) (S : St) : storeC 2 (.ptr l 0) (.agg [x, y]) S = (S.obj l).bind fun cs => if 2 ≤ cs.length then some (passed, S.put l (.cells (x :: y :: cs.drop 2))) else none :=
  store_agg 2 l _ (by simp [hx, hy])
theorem alloc25 {tm : PM AV} {S : St} {d : Option Tmp} : opV E tm d (.alloc 25) S = some (.ptr S.no 0, S.born 25 [nilV, nilV]) := alloc_of (by kernel_rfl)
theorem bld75 {x : AV} {xs : List AV} (h : IsV 1 x xs) (S : St) : buildA E 75 [(0, x)] S = some (.agg [x, .sc (.bool false)], S) := by
  rcases h with ⟨rfl, _⟩ | ⟨id, rfl⟩ <;> kernel_rfl
theorem bld25_0 (S : St) : buildA E 25 [] S = some (.agg [nilV, nilV], S) := by kernel_rfl
theorem bld41 (a b c d : Int) (S : St) : buildA E 41 [(0, .sc (.int .i64 a)), (1, .sc (.int .i64 b)), (2, .sc (.int .i64 c)), (3, .sc (.int .i64 d))] S = some (.agg [.sc (.int .i64 a), .sc (.int .i64 b), .sc (.int .i64 c), .sc (.int .i64 d)], S) := by kernel_rfl
theorem bs22_1 (a b c d : Int) (S : St) : buildSliceA E 22 1 [(0, .agg [.sc (.int .i64 a), .sc (.int .i64 b), .sc (.int .i64 c), .sc (.int .i64 d)])] S = some (.vec 1 4 [.agg [.sc (.int .i64 a), .sc (.int .i64 b), .sc (.int .i64 c), .sc (.int .i64 d)]], S) := by kernel_rfl
theorem bld43 (a b : Int) (c : ByteArray) (S : St) : buildA E 43 [(0, .sc (.int .i64 a)), (1, .sc (.int .i64 b)), (2, .sc (.string c))] S = some (.agg [.sc (.int .i64 a), .sc (.int .i64 b), .sc (.string c), .sc (.int .i64 0), .sc (.int .i64 0), .sc (.string ⟨#[]⟩)], S) := by kernel_rfl
theorem bs23_1 (v : VarV) (S : St) : buildSliceA E 23 1 [(0, .agg (varA v))] S = some (.vec 1 6 [.agg (varA v)], S) := by kernel_rfl
theorem res25 {tm : PM AV} {S : St} (t : Nat) (l : List ResultVar) : resAll E tm S (.cell t 25 :: l) = (loadC true 2 (getT tm t) S).bind fun q => (resAll E tm S l).map (q.1 :: ·) := res_cell t 25 l (de := (E.und 25).getD .string) (i := (E.inf 25).getD default) (by kernel_rfl) (by kernel_rfl) (by kernel_rfl) (by kernel_rfl)
end Go.Proofs.Ytmmpcomfhcpicaa
