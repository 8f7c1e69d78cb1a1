/-
  Regions whose order is open: what comes ahead of what; what an operation hangs on.
-/
import Derived.Test.YtmmnkemcplgebaaGreatDoorQAJ
section
section
set_option linter.unusedSimpArgs false
set_option linter.unusedVariables false
namespace Go.Abs
open Go.RowKit
inductive Bef (ops : Array Oper) : Nat → Nat → Prop
 | base {i : Nat} {o : Oper} {e : Edge} (ho : ops[i]? = some o) (he : e ∈ o.after.toList) (hb : Region.binds .any e = true) : Bef ops i e.on
 | step {i d : Nat} {o : Oper} {e : Edge} (ho : ops[i]? = some o) (he : e ∈ o.after.toList) (hb : Region.binds .any e = true) (h : Bef ops e.on d) : Bef ops i d
theorem Bef.closed {ops : Array Oper} {D : Nat → Prop} (hD : ∀ i o e, ops[i]? = some o → D i → e ∈ o.after.toList → Region.binds .any e = true → D e.on) {i d : Nat} (h : Bef ops i d) : D i → D d := by
 induction h with
 | base ho he hb => exact fun hi => hD _ _ _ ho hi he hb
 | step ho he hb _ ih => exact fun hi => ih (hD _ _ _ ho hi he hb)
theorem maskOf_bit (acc : PM Nat) (d : Nat) : ∀ (es : List Edge), (maskOf acc es).testBit d = true → ∃ e ∈ es, Region.binds .any e = true ∧ (e.on = d ∨ bit acc e.on d = true)
 | [], h => by simp [maskOf] at h
 | e :: r, h => by
  simp only [maskOf] at h
  cases hb : Region.binds .any e with
  | false =>
   rw [hb] at h
   obtain ⟨e', h1, h2⟩ := maskOf_bit acc d r h
   exact ⟨e', by simp [h1], h2⟩
  | true =>
   rw [hb] at h
   simp only [cond_true, Nat.testBit_or, Bool.or_eq_true, Nat.testBit_two_pow, decide_eq_true_eq] at h
   rcases h with (h | h) | h
   · exact ⟨e, by simp, hb, .inl h⟩
   · exact ⟨e, by simp, hb, .inr h⟩
   · obtain ⟨e', h1, h2⟩ := maskOf_bit acc d r h
     exact ⟨e', by simp [h1], h2⟩
theorem masks_bef {ops : Array Oper} : ∀ (rest : List Oper) (i : Nat) (acc : PM Nat), ops.toList.drop i = rest → (∀ k d, bit acc k d = true → Bef ops k d) → ∀ k d, bit (masks i rest acc) k d = true → Bef ops k d
 | [], i, acc, _, h => h
 | o :: r, i, acc, hd, h => by
  have hko : ops[i]? = some o := by
   have h0 : (ops.toList.drop i)[0]? = some o := by rw [hd]; rfl
   rw [List.getElem?_drop] at h0
   simpa using h0
  have hrest : ops.toList.drop (i + 1) = r := by rw [← List.drop_drop, hd]; rfl
  refine masks_bef r (i + 1) _ hrest (fun k d hk => ?_)
  unfold bit at hk
  rw [PM.get_set] at hk
  by_cases hki : k = i
  · subst hki
    simp only [if_true, Option.getD_some] at hk
    obtain ⟨e, h1, h2, h3⟩ := maskOf_bit acc d _ hk
    rcases h3 with rfl | h3
    · exact .base hko h1 h2
    · exact .step hko h1 h2 (h _ _ h3)
  · rw [if_neg hki] at hk
    exact h k d hk
structure Pairs (E : Env) (ops : Array Oper) : Prop where
 edge : ∀ (i : Nat) (o : Oper) (e : Edge), ops[i]? = some o → e ∈ o.after.toList → Region.binds .any e = true → e.on < i
 dst : ∀ (i j : Nat) (x y : Oper) (d : Tmp), i < j → ops[i]? = some x → ops[j]? = some y → x.dst = some d → y.dst ≠ some d
 names1 : ∀ (i j : Nat) (x y : Oper) (d : Tmp), i < j → ops[i]? = some x → ops[j]? = some y → x.dst = some d → d ∈ namesOf ops y → Bef ops j i
 names2 : ∀ (i j : Nat) (x y : Oper) (d : Tmp), i < j → ops[i]? = some x → ops[j]? = some y → y.dst = some d → d ∈ namesOf ops x → Bef ops j i
 loud : ∀ (i j : Nat) (x y : Oper), i < j → ops[i]? = some x → ops[j]? = some y → Abs.loud E x = true → Abs.loud E y = true → Bef ops j i
theorem pairs_of {E : Env} {ops : Array Oper} {m : PM Nat} (hm : ∀ k d, bit m k d = true → Bef ops k d) : ∀ (rest : List Oper) (i : Nat), ops.toList.drop i = rest → allPairs E ops m i rest = true →
 (∀ k o e, i ≤ k → ops[k]? = some o → e ∈ o.after.toList → Region.binds .any e = true → e.on < k) ∧ (∀ k j x y, i ≤ k → k < j → ops[k]? = some x → ops[j]? = some y → pairOk E ops m k x j y = true)
 | [], i, hd, _ => by
  have : ops.size ≤ i := by have := congrArg List.length hd; simp at this; omega
  refine ⟨fun k o e hk ho => ?_, fun k j x y hk _ ho => ?_⟩ <;> (rw [Array.getElem?_eq_none (by omega)] at ho; simp at ho)
 | x :: r, i, hd, h => by
  have hko : ops[i]? = some x := by
   have h0 : (ops.toList.drop i)[0]? = some x := by rw [hd]; rfl
   rw [List.getElem?_drop] at h0
   simpa using h0
  have hrest : ops.toList.drop (i + 1) = r := by rw [← List.drop_drop, hd]; rfl
  simp only [allPairs, Bool.and_eq_true] at h
  obtain ⟨⟨h1, h2⟩, h3⟩ := h
  obtain ⟨k1, k2⟩ := pairs_of hm r (i + 1) hrest h3
  have row : ∀ (l : List Oper) (j0 : Nat), ops.toList.drop j0 = l → pairsOk E ops m i x j0 l = true → ∀ j y, j0 ≤ j → ops[j]? = some y → pairOk E ops m i x j y = true := by
   intro l
   induction l with
   | nil =>
    intro j0 hd0 _ j y hj ho
    have : ops.size ≤ j0 := by have := congrArg List.length hd0; simp at this; omega
    rw [Array.getElem?_eq_none (by omega)] at ho; simp at ho
   | cons z l ih =>
    intro j0 hd0 hp j y hj ho
    simp only [pairsOk, Bool.and_eq_true] at hp
    have hz : ops[j0]? = some z := by
     have h0 : (ops.toList.drop j0)[0]? = some z := by rw [hd0]; rfl
     rw [List.getElem?_drop] at h0
     simpa using h0
    by_cases hjj : j = j0
    · subst hjj
      rw [hz] at ho; simp at ho; subst ho
      exact hp.1
    · exact ih (j0 + 1) (by rw [← List.drop_drop, hd0]; rfl) hp.2 j y (by omega) ho
  refine ⟨fun k o e hk ho he hb => ?_, fun k j x' y hk hkj hx hy => ?_⟩
  · by_cases hki : k = i
    · subst hki
      rw [hko] at ho; simp at ho; subst ho
      have := List.all_eq_true.1 h1 e he
      rw [hb] at this
      simp only [Bool.not_true, Bool.false_or] at this
      exact Nat.le_of_ble_eq_true this
    · exact k1 k o e (by omega) ho he hb
  · by_cases hki : k = i
    · subst hki
      rw [hko] at hx; simp at hx; subst hx
      exact row r (k + 1) hrest h2 j y (by omega) hy
    · exact k2 k j x' y (by omega) hkj hx hy
theorem Pairs.of {E : Env} {ops : Array Oper} (h : allPairs E ops (masks 0 ops.toList .leaf) 0 ops.toList = true) : Pairs E ops ∧ (∀ k d, bit (masks 0 ops.toList .leaf) k d = true → Bef ops k d) := by
 have hm : ∀ k d, bit (masks 0 ops.toList .leaf) k d = true → Bef ops k d := masks_bef (ops := ops) ops.toList 0 .leaf rfl (fun k d hk => by simp [bit] at hk)
 obtain ⟨h1, h2⟩ := pairs_of hm ops.toList 0 rfl h
 refine ⟨⟨fun i o e ho he hb => h1 i o e (Nat.zero_le _) ho he hb, fun i j x y d hij hx hy hd => ?_, fun i j x y d hij hx hy hd hn => ?_, fun i j x y d hij hx hy hd hn => ?_, fun i j x y hij hx hy l1 l2 => ?_⟩, hm⟩
 all_goals
  have hp := h2 i j x y (Nat.zero_le _) hij hx hy
  simp only [pairOk, Bool.and_eq_true] at hp
  obtain ⟨⟨p1, p2⟩, p3⟩ := hp
 · rw [hd] at p1
   simp only [Bool.and_eq_true] at p1
   intro he
   rw [he] at p1
   simp at p1
 · rw [hd] at p1
   simp only [Bool.and_eq_true, Bool.or_eq_true] at p1
   rcases p1.1 with hb | hb
   · exact hm _ _ hb
   · have hc : (namesOf ops y).contains d = true := by simpa using hn
     rw [hc] at hb; simp at hb
 · rw [hd] at p2
   simp only [Bool.or_eq_true] at p2
   rcases p2 with hb | hb
   · exact hm _ _ hb
   · have hc : (namesOf ops x).contains d = true := by simpa using hn
     rw [hc] at hb; simp at hb
 · simp only [Bool.or_eq_true] at p3
   rcases p3 with hb | hb
   · exact hm _ _ hb
   · rw [l1, l2] at hb; simp at hb
section
variable {E : Env} {S S' S2 : St} {v : AV} {tm tm2 : PM AV} {call : CallFn}
structure Idl (S S' : St) : Prop where
 nid : S.nid ≤ S'.nid
 idk : S'.nid = S.nid → S'.spent = S.spent ∧ S'.ity = S.ity
theorem Idl.refl (S : St) : Idl S S := ⟨Nat.le_refl _, fun _ => ⟨rfl, rfl⟩⟩
theorem Idl.trans {A B D : St} (h : Idl A B) (k : Idl B D) : Idl A D :=
 ⟨Nat.le_trans h.nid k.nid, fun e => by
  have h1 := h.nid
  have h2 := k.nid
  obtain ⟨a1, a2⟩ := h.idk (by omega)
  obtain ⟨b1, b2⟩ := k.idk (by omega)
  exact ⟨b1.trans a1, b2.trans a2⟩⟩
theorem Idl.up {S S' : St} (h : S.nid < S'.nid) : Idl S S' := ⟨Nat.le_of_lt h, fun e => by omega⟩
structure Evo (S S' : St) : Prop where
 no : S.no ≤ S'.no
 ver : ∀ l, l < S.no → S.ver l ≤ S'.ver l
 obj : ∀ l, l < S.no → S.ver l = S'.ver l → S'.objs.get l = S.objs.get l ∧ S'.shp.get l = S.shp.get l
 idl : Idl S S'
theorem Evo.refl (S : St) : Evo S S := ⟨Nat.le_refl _, fun _ _ => Nat.le_refl _, fun _ _ _ => ⟨rfl, rfl⟩, Idl.refl _⟩
theorem Evo.trans {A B D : St} (h : Evo A B) (k : Evo B D) : Evo A D :=
 ⟨Nat.le_trans h.no k.no, fun l hl => Nat.le_trans (h.ver l hl) (k.ver l (Nat.lt_of_lt_of_le hl h.no)), fun l hl he => by
  have h1 := h.ver l hl
  have h2 := k.ver l (Nat.lt_of_lt_of_le hl h.no)
  obtain ⟨a1, a2⟩ := k.obj l (Nat.lt_of_lt_of_le hl h.no) (by omega)
  obtain ⟨b1, b2⟩ := h.obj l hl (by omega)
  exact ⟨a1.trans b1, a2.trans b2⟩, h.idl.trans k.idl⟩
theorem Evo.newRaw (S : St) (o : AObj) : Evo S (S.newRaw o) :=
 ⟨Nat.le_succ _, fun _ _ => Nat.le_refl _, fun l hl _ => ⟨by simp only [St.newRaw, PM.get_set]; rw [if_neg (by omega)], rfl⟩, ⟨Nat.le_refl _, fun _ => ⟨rfl, rfl⟩⟩⟩
theorem Evo.newObj (S : St) (cs : List AV) : Evo S (S.newObj cs) := Evo.newRaw S _
theorem Evo.newId (S : St) (T : TypeId) : Evo S (S.newId T) := ⟨Nat.le_refl _, fun _ _ => Nat.le_refl _, fun _ _ _ => ⟨rfl, rfl⟩, Idl.up (Nat.lt_succ_self _)⟩
theorem Evo.newIdX (S : St) : Evo S S.newIdX := ⟨Nat.le_refl _, fun _ _ => Nat.le_refl _, fun _ _ _ => ⟨rfl, rfl⟩, Idl.up (Nat.lt_succ_self _)⟩
theorem Evo.spend (S : St) (T : TypeId) (k : Nat) : Evo S { S.newId T with spent := S.spent.set k () } := ⟨Nat.le_refl _, fun _ _ => Nat.le_refl _, fun _ _ _ => ⟨rfl, rfl⟩, Idl.up (Nat.lt_succ_self _)⟩
theorem Evo.put (S : St) (l : Nat) (o : AObj) : Evo S (S.put l o) := by
 refine ⟨Nat.le_refl _, fun k _ => ?_, fun k _ he => ⟨?_, rfl⟩, ⟨Nat.le_refl _, fun _ => ⟨rfl, rfl⟩⟩⟩
 · simp only [St.ver, St.put, PM.get_set]
   split
   · rename_i e; subst e; simp
   · exact Nat.le_refl _
 · simp only [St.ver, St.put, PM.get_set] at he
   split at he
   · rename_i e; subst e; simp at he
   · rename_i e
     simp only [St.put, PM.get_set]; rw [if_neg e]
theorem Evo.bearNext (S : St) (m : Mk) : Evo S (S.bearNext m) := by
 refine ⟨Nat.le_succ _, fun _ _ => Nat.le_refl _, fun l hl _ => ⟨?_, ?_⟩, ⟨Nat.le_refl _, fun _ => ⟨rfl, rfl⟩⟩⟩
 · simp only [St.bearNext, St.bear, PM.get_set]; rw [if_neg (by omega)]
 · simp only [St.bearNext, St.bear]
   split
   · rw [PM.get_set, if_neg (by omega)]
   · rfl
noncomputable def CallEvo (call : CallFn) : Prop := ∀ g args S r S', call g args S = some (r, S') → Evo S S'
noncomputable def Same (S S2 : St) (l : Nat) : Prop := S2.objs.get l = S.objs.get l ∧ S2.shp.get l = S.shp.get l
theorem Same.obj {l : Nat} (h : Same S S2 l) : S2.obj l = S.obj l := by unfold St.obj; rw [h.1]
theorem Same.map {l : Nat} (h : Same S S2 l) : S2.map l = S.map l := by unfold St.map; rw [h.1]
noncomputable def Like (E : Env) (q : Option (TypeId × Nat)) (S S2 : St) (l : Nat) : Prop :=
 Same S S2 l ∨ ∃ t off c1 c2 v, q = some (t, off) ∧ S.obj l = some c1 ∧ S2.obj l = some c2 ∧ E.cutAt t c1 off = some v ∧ E.cutAt t c2 off = some v
theorem Like.refl {q : Option (TypeId × Nat)} (S : St) (l : Nat) : Like E q S S l := .inl ⟨rfl, rfl⟩
theorem Like.symm {q : Option (TypeId × Nat)} {S S2 : St} {l : Nat} (h : Like E q S S2 l) : Like E q S2 S l := by
 rcases h with h | ⟨t, off, c1, c2, v, h1, h2, h3, h4, h5⟩
 · exact .inl ⟨h.1.symm, h.2.symm⟩
 · exact .inr ⟨t, off, c2, c1, v, h1, h3, h2, h5, h4⟩
theorem Like.trans {q : Option (TypeId × Nat)} {S1 S2 S3 : St} {l : Nat} (h : Like E q S1 S2 l) (k : Like E q S2 S3 l) : Like E q S1 S3 l := by
 rcases h with h | ⟨t, off, c1, c2, v, h1, h2, h3, h4, h5⟩
 · rcases k with k | ⟨t', off', c1', c2', v', k1, k2, k3, k4, k5⟩
   · exact .inl ⟨k.1.trans h.1, k.2.trans h.2⟩
   · exact .inr ⟨t', off', c1', c2', v', k1, by rw [← h.obj]; exact k2, k3, k4, k5⟩
 · rcases k with k | ⟨t', off', c1', c2', v', k1, k2, k3, k4, k5⟩
   · exact .inr ⟨t, off, c1, c2, v, h1, h2, by rw [k.obj]; exact h3, h4, h5⟩
   · rw [h1] at k1
     simp only [Option.some.injEq, Prod.mk.injEq] at k1
     obtain ⟨rfl, rfl⟩ := k1
     rw [h3, Option.some.injEq] at k2
     subst k2
     rw [h5, Option.some.injEq] at k4
     subst k4
     exact .inr ⟨t, off, c1, c2', v, h1, h2, k3, h4, k5⟩
theorem Like.of {S S2 : St} {l : Nat} (h : Like E none S S2 l) : Same S S2 l := by
 rcases h with h | ⟨t, off, c1, c2, v, h1, _⟩
 · exact h
 · cases h1
theorem Like.at {q : Option (TypeId × Nat)} {S S2 : St} {l : Nat} (h : sameAt E q l S S2 = true) : Like E q S S2 l := by
 unfold sameAt at h
 split at h
 · rename_i t off
   split at h
   · rename_i c1 c2 h1 h2
     split at h
     · rename_i a b h3 h4
       have := eqA_eq 20 a b h
       subst this
       exact .inr ⟨t, off, c1, c2, a, rfl, h1, h2, h3, h4⟩
     · cases h
   · cases h
 · cases h
theorem loadA_like {t : TypeId} {l off : Nat} (h : loadA E t (.ptr l off) S = some (v, S')) (hs : Like E (some (t, off)) S S2 l) : loadA E t (.ptr l off) S2 = some (v, S2) := by
 unfold loadA at *
 simp only at h ⊢
 cases ho : S.obj l with
 | none => simp [ho] at h
 | some cs =>
  simp only [ho, Option.map_eq_some_iff, Prod.mk.injEq] at h
  obtain ⟨r, h1, rfl, rfl⟩ := h
  rcases hs with hs | ⟨t', off', c1, c2, v, k1, k2, k3, k4, k5⟩
  · have : S2.obj l = some cs := by rw [hs.obj]; exact ho
    simp [this, h1]
  · simp only [Option.some.injEq, Prod.mk.injEq] at k1
    obtain ⟨rfl, rfl⟩ := k1
    rw [ho, Option.some.injEq] at k2
    subst k2
    rw [h1, Option.some.injEq] at k4
    subst k4
    simp [k3, k5]
theorem loadA_any {t : TypeId} {x : AV} (h : loadA E t x S = some (v, S')) : S' = S ∧ ((∀ l off, x = .ptr l off → Same S S2 l) → loadA E t x S2 = some (v, S2)) := by
 unfold loadA at *
 cases x with
 | ptr l off =>
  simp only at h ⊢
  cases ho : S.obj l with
  | none => simp [ho] at h
  | some cs =>
   simp only [ho, Option.map_eq_some_iff, Prod.mk.injEq] at h
   obtain ⟨r, h1, rfl, rfl⟩ := h
   refine ⟨rfl, fun hs => ?_⟩
   have : S2.obj l = some cs := by rw [(hs l off rfl).obj]; exact ho
   simp [this, h1]
 | eptr cs off =>
  simp only [Option.map_eq_some_iff, Prod.mk.injEq] at h ⊢
  obtain ⟨r, h1, rfl, rfl⟩ := h
  exact ⟨rfl, fun _ => ⟨r, h1, rfl, trivial⟩⟩
 | _ => simp at h
noncomputable def Any (S S2 S' : St) (v : AV) (Y : Option (AV × St)) : Prop := S' = S ∧ Y = some (v, S2)
theorem map_any {α : Type} {X : Option α} {f : α → AV} (h : X.map (fun a => (f a, S)) = some (v, S')) : Any S S2 S' v (X.map (fun a => (f a, S2))) := by
 simp only [Option.map_eq_some_iff, Prod.mk.injEq] at h
 obtain ⟨a, h1, rfl, rfl⟩ := h
 exact ⟨rfl, by rw [h1]; rfl⟩
theorem some_any {x : AV} (h : some (x, S) = some (v, S')) : Any S S2 S' v (some (x, S2)) := by
 simp only [Option.some.injEq, Prod.mk.injEq] at h
 obtain ⟨rfl, rfl⟩ := h
 exact ⟨rfl, rfl⟩
theorem none_any {Y : Option (AV × St)} (h : (none : Option (AV × St)) = some (v, S')) : Any S S2 S' v Y := by simp at h
theorem ite_any {c : Bool} {X Y X2 Y2 : Option (AV × St)} (hx : X = some (v, S') → Any S S2 S' v X2) (hy : Y = some (v, S') → Any S S2 S' v Y2) (h : (bif c then X else Y) = some (v, S')) : Any S S2 S' v (bif c then X2 else Y2) := by
 cases c
 · exact hy h
 · exact hx h
theorem sliceA_any {t : TypeId} {x : AV} {lo hi : Option AV} (hs : ∀ l off, x = .ptr l off → Same S S2 l) (h : sliceA E t x lo hi S = some (v, S')) : Any S S2 S' v (sliceA E t x lo hi S2) := by
 cases x with
 | ptr l off =>
  have ho := (hs l off rfl).obj
  simp only [sliceA] at h ⊢
  rw [ho]
  revert h
  repeat' (first | exact some_any | exact none_any | exact map_any | refine ite_any ?_ ?_ | contradiction | split)
 | _ =>
  simp only [sliceA] at h ⊢
  revert h
  repeat' (first | exact some_any | exact none_any | exact map_any | refine ite_any ?_ ?_ | contradiction | split)
theorem slice3A_any {t : TypeId} {x : AV} {lo : Option AV} {hi mx : AV} (h : slice3A E t x lo hi mx S = some (v, S')) : Any S S2 S' v (slice3A E t x lo hi mx S2) := by
 simp only [slice3A] at h ⊢
 revert h
 repeat' (first | exact some_any | exact none_any | exact map_any | refine ite_any ?_ ?_ | contradiction | split)
theorem oslElems_any {agg : Bool} {l sz off len : Nat} (hs : Same S S2 l) : S2.oslElems agg l sz off len = S.oslElems agg l sz off len := by
 unfold St.oslElems; rw [hs.obj]
theorem convertA_any {mu : Bool} {t u : TypeId} {x : AV} (hq : isStrBytes E t u = false) (hs : ∀ l off, x = .ptr l off → Same S S2 l) (hs2 : ∀ l sz off len room, x = .osl l sz off len room → Same S S2 l) (h : convertA E mu t u x S = some (v, S')) : Any S S2 S' v (convertA E mu t u x S2) := by
 simp only [convertA, hq, cond_false] at h ⊢
 cases x with
 | ptr l off =>
  have ho := (hs l off rfl).obj
  have hp := (hs l off rfl).2
  simp only at h ⊢
  rw [ho]
  simp only [hp]
  revert h
  repeat' (first | exact some_any | exact none_any | exact map_any | refine ite_any ?_ ?_ | contradiction | split)
 | osl l sz off len room =>
  simp only at h ⊢
  simp only [oslElems_any (hs2 l sz off len room rfl)]
  revert h
  repeat' (first | exact some_any | exact none_any | exact map_any | refine ite_any ?_ ?_ | contradiction | split)
 | _ =>
  simp only at h ⊢
  revert h
  repeat' (first | exact some_any | exact none_any | exact map_any | refine ite_any ?_ ?_ | contradiction | split)
theorem buildA_any {t : TypeId} {ps : List (Nat × AV)} (h : buildA E t ps S = some (v, S')) : Any S S2 S' v (buildA E t ps S2) := by
 simp only [buildA] at h ⊢
 revert h
 repeat' (first | exact some_any | exact none_any | exact map_any | refine ite_any ?_ ?_ | contradiction | split)
theorem buildSliceA_any {t : TypeId} {len : Nat} {ps : List (Nat × AV)} (h : buildSliceA E t len ps S = some (v, S')) : Any S S2 S' v (buildSliceA E t len ps S2) := by
 simp only [buildSliceA] at h ⊢
 revert h
 repeat' (first | exact some_any | exact none_any | exact map_any | refine ite_any ?_ ?_ | contradiction | split)
theorem lookupA_any {t : TypeId} {x ix : AV} {b : Bool} (hs : ∀ l, x = .mp l → Same S S2 l) (h : lookupA E t x ix b S = some (v, S')) : Any S S2 S' v (lookupA E t x ix b S2) := by
 cases x with
 | mp l =>
  have hm := (hs l rfl).map
  simp only [lookupA] at h ⊢
  simp only [hm]
  revert h
  repeat' (first | exact some_any | exact none_any | exact map_any | refine ite_any ?_ ?_ | contradiction | split)
 | sc u =>
  clear hs
  cases u with
  | map r =>
   cases r with
   | none =>
    simp only [lookupA] at h ⊢
    revert h
    repeat' (first | exact some_any | exact none_any | exact map_any | refine ite_any ?_ ?_ | contradiction | split)
   | some r =>
    simp only [lookupA] at h ⊢
    revert h
    repeat' (first | exact some_any | exact none_any | exact map_any | refine ite_any ?_ ?_ | contradiction | split)
  | _ =>
   simp only [lookupA] at h ⊢
   revert h
   repeat' (first | exact some_any | exact none_any | exact map_any | refine ite_any ?_ ?_ | contradiction | split)
 | _ =>
  simp only [lookupA] at h ⊢
  revert h
  repeat' (first | exact some_any | exact none_any | exact map_any | refine ite_any ?_ ?_ | contradiction | split)
theorem len_any {ats : List TypeId} {xs : List AV} {mu : Bool} (hs : ∀ l, xs = [.mp l] → Same S S2 l) (h : builtinA E mu .len ats xs S = some (v, S')) : Any S S2 S' v (builtinA E mu .len ats xs S2) := by
 match ats, xs, h with
 | [t], [x], h =>
  simp only [builtinA] at h ⊢
  cases x with
  | mp l =>
   have := (hs l rfl).map
   simp only at h ⊢
   simp only [this]
   revert h
   repeat' (first | exact some_any | exact none_any | exact map_any (f := fun n : Nat => AV.sc (.int .i64 n)) | exact map_any (f := fun es : List (Value × AV) => AV.sc (.int .i64 (es.length : Nat))) | exact map_any | refine ite_any ?_ ?_ | contradiction | split)
  | _ =>
   revert h
   repeat' (first | exact some_any | exact none_any | exact map_any (f := fun n : Nat => AV.sc (.int .i64 n)) | exact map_any | refine ite_any ?_ ?_ | contradiction | split)
 | [], _, h => simp [builtinA] at h
 | [_], [], h => simp [builtinA] at h
 | [_], _ :: _ :: _, h => simp [builtinA] at h
 | _ :: _ :: _, _, h => simp [builtinA] at h
theorem minmax_any {b : Builtin} (hb : b = .min ∨ b = .max) {ats : List TypeId} {xs : List AV} {mu : Bool} (h : builtinA E mu b ats xs S = some (v, S')) : Any S S2 S' v (builtinA E mu b ats xs S2) := by
 rcases hb with rfl | rfl
 all_goals
  simp only [builtinA] at h ⊢
  revert h
  repeat' (first | exact some_any | exact none_any | exact map_any (f := fun x => ofV x) | refine ite_any ?_ ?_ | contradiction | split)
noncomputable def blindOp : Op → Prop
 | .move _ | .assign _ | .pick .. | .nilCheck _ | .binOp .. | .unOp .. | .fieldAddr .. | .field .. | .indexAddr .. | .index .. | .extract .. | .makeFunc .. | .makeInterface .. => True
 | _ => False
theorem plain_any (o : Oper) (hl : blindOp o.op) (h : evPlain E call tm o S = some (v, S')) : Any S S2 S' v (evPlain E call tm o S2) := by
 obtain ⟨dst, op, ty, pos, after, guard⟩ := o
 cases op
 all_goals first
  | exact hl.elim
  | (revert h
     simp only [evPlain]
     repeat' (first | exact some_any | exact none_any | exact map_any | refine ite_any ?_ ?_ | contradiction | split))
theorem quiet_any (o : Oper) (hm : isMk E o = false) (hq : loudOp E o.op = false) (h : evPlain E call tm o S = some (v, S')) :
 S' = S ∧ ((∀ l, loadsFrom E tm o = some l → Same S S2 l) → evPlain E call tm o S2 = some (v, S2)) := by
 obtain ⟨dst, op, ty, pos, after, guard⟩ := o
 cases op with
 | load t x =>
  simp only [evPlain] at h ⊢
  obtain ⟨h1, h2⟩ := loadA_any (S2 := S2) h
  exact ⟨h1, fun hl => h2 fun l off hx => hl l (by simp [loadsFrom, hx])⟩
 | slice t x lo hi mx =>
  cases mx with
  | some m =>
   cases hi with
   | none => simp [evPlain] at h
   | some hi => simp only [evPlain] at h ⊢; exact ⟨(slice3A_any (S2 := S) h).1, fun _ => (slice3A_any h).2⟩
  | none =>
   simp only [evPlain] at h ⊢
   refine ⟨(sliceA_any (S2 := S) (fun _ _ _ => ⟨rfl, rfl⟩) h).1, fun hl => (sliceA_any (fun l off hx => hl l ?_) h).2⟩
   simp [loadsFrom, hx]
 | convert t u x =>
  simp only [evPlain] at h ⊢
  refine ⟨(convertA_any (S2 := S) hq (fun _ _ _ => ⟨rfl, rfl⟩) (fun _ _ _ _ _ _ => ⟨rfl, rfl⟩) h).1, fun hl => (convertA_any hq (fun l off hx => hl l ?_) (fun l sz off len room hx => hl l ?_) h).2⟩ <;> simp [loadsFrom, hx]
 | build t ps => simp only [evPlain] at h ⊢; exact ⟨(buildA_any (S2 := S) h).1, fun _ => (buildA_any h).2⟩
 | buildSlice t n ps => simp only [evPlain] at h ⊢; exact ⟨(buildSliceA_any (S2 := S) h).1, fun _ => (buildSliceA_any h).2⟩
 | lookup t x ix b =>
  simp only [evPlain] at h ⊢
  refine ⟨(lookupA_any (S2 := S) (fun _ _ => ⟨rfl, rfl⟩) h).1, fun hl => (lookupA_any (fun l hx => hl l ?_) h).2⟩
  simp [loadsFrom, hx]
 | store t x y => simp [loudOp] at hq
 | makeSlice t x y => simp [loudOp] at hq
 | mapUpdate t x y z => simp [loudOp] at hq
 | insert t x y z => simp [loudOp] at hq
 | next x b => simp [loudOp] at hq
 | call c =>
  obtain ⟨callee, args, ats⟩ := c
  cases callee with
  | value f => simp [loudOp] at hq
  | invoke r m => simp [loudOp] at hq
  | builtin b =>
   have hb : b = .len ∨ b = .min ∨ b = .max := by cases b <;> simp_all [loudOp]
   simp only [evPlain, callA] at h ⊢
   rcases hb with rfl | hb
   · refine ⟨(len_any (S2 := S) (fun _ _ => ⟨rfl, rfl⟩) h).1, fun hl => (len_any (fun l hx => hl l ?_) h).2⟩
     simp [loadsFrom, hx]
   · exact ⟨(minmax_any (S2 := S) hb h).1, fun _ => (minmax_any hb h).2⟩
 | _ => first
  | (simp [evPlain] at h; done)
  | exact ⟨(plain_any (S2 := S) _ (by trivial) h).1, fun _ => (plain_any _ (by trivial) h).2⟩
theorem quiet_like (o : Oper) (hm : isMk E o = false) (hq : loudOp E o.op = false) (h : evPlain E call tm o S = some (v, S')) :
 S' = S ∧ ((∀ l, loadsFrom E tm o = some l → Like E (loadsAt E tm o) S S2 l) → evPlain E call tm o S2 = some (v, S2)) := by
 refine ⟨(quiet_any (S2 := S2) o hm hq h).1, fun hl => ?_⟩
 by_cases hat : loadsAt E tm o = none
 · exact (quiet_any o hm hq h).2 fun l hx => by
    have := hl l hx
    rw [hat] at this
    exact this.of
 · obtain ⟨dst, op, ty, pos, after, guard⟩ := o
   cases op with
   | load t x =>
    simp only [evPlain] at h ⊢
    cases hx : E.ev tm x with
    | ptr l off =>
     rw [hx] at h
     have := hl l (by simp [loadsFrom, hx])
     simp only [loadsAt, hx] at this
     exact loadA_like h this
    | _ => exact absurd (by simp [loadsAt, hx]) hat
   | _ => exact absurd rfl hat
theorem newSlice_evo {mu : Bool} {e : TypeId} {sz : Nat} {xs : List AV} (h : newSlice mu e sz xs S = some (v, S')) : Evo S S' := by
 simp only [newSlice, cond_eq_ite] at h
 (repeat' split at h) <;> first
  | (simp at h; done)
  | (simp only [Option.some.injEq, Prod.mk.injEq] at h; obtain ⟨_, rfl⟩ := h; first | exact Evo.newId _ _ | exact Evo.newObj _ _)
theorem appendOsl_evo {sz l off len room : Nat} {ys : List AV} (h : appendOsl sz l off len room ys S = some (v, S')) : Evo S S' := by
 simp only [appendOsl, cond_eq_ite] at h
 (repeat' split at h) <;> first
  | (simp at h; done)
  | (simp only [Option.some.injEq, Prod.mk.injEq] at h; obtain ⟨_, rfl⟩ := h; first | exact Evo.put _ _ _ | exact (Evo.put _ _ _).trans (Evo.newObj _ _))
theorem appendXs_evo {mu : Bool} {e : TypeId} {ti : TypeInfo} {s : AV} {ys : List AV} (h : appendXs mu e ti s ys S = some (v, S')) : Evo S S' := by
 simp only [appendXs, cond_eq_ite] at h
 (repeat' split at h) <;> first
  | (simp at h; done)
  | exact newSlice_evo h
  | exact appendOsl_evo h
  | (simp only [Option.some.injEq, Prod.mk.injEq] at h; obtain ⟨_, rfl⟩ := h; first | exact Evo.refl _ | exact Evo.spend _ _ _)
theorem appendA_evo {mu agg : Bool} {e : TypeId} {ti : TypeInfo} {s x : AV} (h : appendA mu agg e ti s x S = some (v, S')) : Evo S S' := by
 simp only [appendA] at h
 split at h
 · simp at h
 · exact appendXs_evo h
theorem plain_evo (hc : CallEvo call) (o : Oper) (hm : isMk E o = false) (h : evPlain E call tm o S = some (v, S')) : Evo S S' := by
 by_cases hq : loudOp E o.op = false
 · rw [(quiet_any (S2 := S) o hm hq h).1]; exact Evo.refl _
 · obtain ⟨dst, op, ty, pos, after, guard⟩ := o
   cases op with
   | store t x y =>
    simp only [evPlain, storeA, cond_eq_ite] at h
    (repeat' split at h) <;> first
     | (simp at h; done)
     | (simp only [Option.some.injEq, Prod.mk.injEq] at h; obtain ⟨_, rfl⟩ := h; exact Evo.put _ _ _)
   | makeSlice t x y =>
    simp only [evPlain, makeSliceA] at h
    (repeat' split at h) <;> first
     | (simp at h; done)
     | (simp only [Option.some.injEq, Prod.mk.injEq] at h; obtain ⟨_, rfl⟩ := h; exact Evo.newId _ _)
   | mapUpdate t x y z =>
    simp only [evPlain, mapUpdateA, cond_eq_ite] at h
    (repeat' split at h) <;> first
     | (simp at h; done)
     | (simp only [Option.some.injEq, Prod.mk.injEq] at h; obtain ⟨_, rfl⟩ := h; exact Evo.put _ _ _)
   | insert t x y z =>
    simp only [evPlain, mapUpdateA, cond_eq_ite] at h
    (repeat' split at h) <;> first
     | (simp at h; done)
     | (simp only [Option.some.injEq, Prod.mk.injEq] at h; obtain ⟨_, rfl⟩ := h; exact Evo.put _ _ _)
   | next x b =>
    simp only [evPlain, nextA, cond_eq_ite] at h
    (repeat' split at h) <;> first
     | (simp at h; done)
     | (simp only [Option.some.injEq, Prod.mk.injEq] at h; obtain ⟨_, rfl⟩ := h; first | exact Evo.put _ _ _ | exact Evo.refl _)
   | convert t u x =>
    have hsb : isStrBytes E t u = true := by simpa [loudOp] using hq
    simp only [evPlain, convertA, hsb, cond_true] at h
    simp only [cond_eq_ite] at h
    (repeat' split at h) <;> first
     | (simp at h; done)
     | (simp only [Option.some.injEq, Prod.mk.injEq] at h; obtain ⟨_, rfl⟩ := h; exact Evo.newIdX _)
   | call c =>
    obtain ⟨callee, args, ats⟩ := c
    simp only [evPlain, callA] at h
    cases callee with
    | value f =>
     simp only at h
     split at h
     · split at h
       · simp only [Option.map_eq_some_iff, Prod.mk.injEq] at h
         obtain ⟨_, _, _, rfl⟩ := h
         exact Evo.refl _
       · exact hc _ _ _ _ _ h
     · simp at h
    | invoke r m =>
     simp only at h
     (repeat' split at h) <;> first
      | (simp at h; done)
      | exact hc _ _ _ _ _ h
    | builtin b =>
     cases b with
     | append =>
      simp only [builtinA, cond_eq_ite] at h
      (repeat' split at h) <;> first | (simp at h; done) | exact appendA_evo h | exact appendXs_evo h
     | copy =>
      simp only [builtinA, copyA, cond_eq_ite] at h
      (repeat' split at h) <;> first
       | (simp at h; done)
       | (simp only [Option.some.injEq, Prod.mk.injEq] at h; obtain ⟨_, rfl⟩ := h; exact Evo.put _ _ _)
     | clear =>
      simp only [builtinA, clearA, cond_eq_ite] at h
      (repeat' split at h) <;> first
       | (simp at h; done)
       | (simp only [Option.some.injEq, Prod.mk.injEq] at h; obtain ⟨_, rfl⟩ := h; exact Evo.put _ _ _)
     | delete =>
      simp only [builtinA, deleteA, cond_eq_ite] at h
      (repeat' split at h) <;> first
       | (simp at h; done)
       | (simp only [Option.some.injEq, Prod.mk.injEq] at h; obtain ⟨_, rfl⟩ := h; exact Evo.put _ _ _)
     | unsafeSliceData =>
      simp only [builtinA, cond_eq_ite] at h
      (repeat' split at h) <;> first
       | (simp at h; done)
       | (simp only [Option.some.injEq, Prod.mk.injEq] at h; obtain ⟨_, rfl⟩ := h; exact Evo.refl _)
     | unsafeString =>
      simp only [builtinA, cond_eq_ite] at h
      (repeat' split at h) <;> first
       | (simp at h; done)
       | (simp only [Option.some.injEq, Prod.mk.injEq] at h; obtain ⟨_, rfl⟩ := h; exact Evo.refl _)
     | cap =>
      simp only [builtinA] at h
      (repeat' split at h) <;> first
       | (simp at h; done)
       | (simp only [Option.some.injEq, Prod.mk.injEq] at h; obtain ⟨_, rfl⟩ := h; exact Evo.refl _)
     | len => exact absurd rfl hq
     | min => exact absurd rfl hq
     | max => exact absurd rfl hq
     | _ => simp [builtinA] at h
   | _ => exact absurd rfl hq
theorem op_evo (hc : CallEvo call) (o : Oper) (h : evOp E call tm o S = some (v, S')) : Evo S S' := by
 simp only [evOp] at h
 cases hm : isMk E o with
 | true =>
  rw [hm] at h
  simp only [cond_true, Option.map_eq_some_iff, Prod.mk.injEq] at h
  obtain ⟨m, _, _, rfl⟩ := h
  exact Evo.bearNext _ _
 | false =>
  rw [hm] at h
  exact plain_evo hc o hm h
theorem seq_evo (hc : CallEvo call) {nt : Nat} {ops : Array Oper} : ∀ (rest : List Oper) (tm tm' : PM AV) (S S' : St), evSeq E call nt ops rest tm S = some (tm', S') → Evo S S'
 | [], tm, tm', S, S', h => by simp [evSeq] at h; rw [h.2]; exact Evo.refl _
 | o :: r, tm, tm', S, S', h => by
  simp only [evSeq] at h
  split at h
  · simp at h
  · split at h
    · exact seq_evo hc r _ _ _ _ h
    · simp at h
  · split at h
    · simp at h
    · rename_i v S1 hev
      split at h
      · exact (op_evo hc o hev).trans (seq_evo hc r _ _ _ _ h)
      · simp at h
noncomputable def outOf (mk : Nat → Bool) (m : PM Nat) (b0 j : Nat) (S : St) (l : Nat) : Prop := ∃ k, k < j ∧ l = b0 + k ∧ hid mk m j k = true ∧ S.objs.get l ≠ none
theorem maskF_get (mk : Nat → Bool) (m : PM Nat) (b0 j : Nat) (S0 : St) : ∀ (n l : Nat), (maskF mk m b0 j S0 n).get l = if (∃ k, k < n ∧ l = b0 + k ∧ hid mk m j k = true ∧ S0.objs.get l ≠ none) then some .dead else S0.objs.get l
 | 0, l => by simp [maskF]
 | n + 1, l => by
  have ih := maskF_get mk m b0 j S0 n l
  simp only [maskF, cond_eq_ite]
  split
  · rename_i hb
    rw [ih]
    have : (∃ k, k < n + 1 ∧ l = b0 + k ∧ hid mk m j k = true ∧ S0.objs.get l ≠ none) ↔ (∃ k, k < n ∧ l = b0 + k ∧ hid mk m j k = true ∧ S0.objs.get l ≠ none) := by
     constructor
     · rintro ⟨k, h1, h2, h3, h4⟩
       refine ⟨k, ?_, h2, h3, h4⟩
       by_cases hk : k = n
       · subst hk
         rw [h3, ← h2] at hb
         simp at hb
         exact absurd hb h4
       · omega
     · rintro ⟨k, h1, h2⟩
       exact ⟨k, by omega, h2⟩
    simp only [this]
  · rename_i hb
    simp only [Bool.or_eq_true, not_or, Bool.not_eq_true, Bool.not_eq_true', Bool.not_eq_false, Option.isNone_eq_false_iff] at hb
    rw [PM.get_set]
    by_cases hl : l = b0 + n
    · rw [if_pos hl, if_pos]
      refine ⟨n, by omega, hl, hb.1, fun e => ?_⟩
      rw [hl] at e
      have := hb.2
      rw [e] at this; simp at this
    · rw [if_neg hl, ih]
      have : (∃ k, k < n + 1 ∧ l = b0 + k ∧ hid mk m j k = true ∧ S0.objs.get l ≠ none) ↔ (∃ k, k < n ∧ l = b0 + k ∧ hid mk m j k = true ∧ S0.objs.get l ≠ none) := by
       constructor
       · rintro ⟨k, h1, h2, h3⟩
         exact ⟨k, by rcases Nat.lt_or_ge k n with h' | h'; exact h'; exact absurd (show l = b0 + n by omega) hl, h2, h3⟩
       · rintro ⟨k, h1, h2⟩
         exact ⟨k, by omega, h2⟩
      simp only [this]
theorem unmaskF_get (mk : Nat → Bool) (m : PM Nat) (b0 j : Nat) (S0 : St) (os : PM AObj) : ∀ (n l : Nat), (unmaskF mk m b0 j S0 os n).get l = if (∃ k, k < n ∧ l = b0 + k ∧ hid mk m j k = true ∧ S0.objs.get l ≠ none) then S0.objs.get l else os.get l
 | 0, l => by simp [unmaskF]
 | n + 1, l => by
  have ih := unmaskF_get mk m b0 j S0 os n l
  have other : ¬ l = b0 + n → ((∃ k, k < n + 1 ∧ l = b0 + k ∧ hid mk m j k = true ∧ S0.objs.get l ≠ none) ↔ (∃ k, k < n ∧ l = b0 + k ∧ hid mk m j k = true ∧ S0.objs.get l ≠ none)) := fun hl => by
   constructor
   · rintro ⟨k, h1, h2, h3⟩
     exact ⟨k, by rcases Nat.lt_or_ge k n with h' | h'; exact h'; exact absurd (show l = b0 + n by omega) hl, h2, h3⟩
   · rintro ⟨k, h1, h2⟩
     exact ⟨k, by omega, h2⟩
  simp only [unmaskF]
  cases hb : hid mk m j n with
  | false =>
   simp only [Bool.not_false, cond_true]
   rw [ih]
   by_cases hl : l = b0 + n
   · have : ¬ (∃ k, k < n ∧ l = b0 + k ∧ hid mk m j k = true ∧ S0.objs.get l ≠ none) := by rintro ⟨k, h1, h2, _⟩; omega
     have h2 : ¬ (∃ k, k < n + 1 ∧ l = b0 + k ∧ hid mk m j k = true ∧ S0.objs.get l ≠ none) := by
      rintro ⟨k, h1, h2, h3, _⟩
      have : k = n := by omega
      subst this; rw [hb] at h3; cases h3
     rw [if_neg this, if_neg h2]
   · simp only [other hl]
  | true =>
   simp only [Bool.not_true, cond_false]
   cases ho : S0.objs.get (b0 + n) with
   | none =>
    simp only
    rw [ih]
    by_cases hl : l = b0 + n
    · have : ¬ (∃ k, k < n ∧ l = b0 + k ∧ hid mk m j k = true ∧ S0.objs.get l ≠ none) := by rintro ⟨k, h1, h2, _⟩; omega
      have h2 : ¬ (∃ k, k < n + 1 ∧ l = b0 + k ∧ hid mk m j k = true ∧ S0.objs.get l ≠ none) := by
       rintro ⟨k, h1, h2, h3, h4⟩
       rw [hl] at h4
       exact h4 ho
      rw [if_neg this, if_neg h2]
    · simp only [other hl]
   | some o =>
    simp only
    rw [PM.get_set]
    by_cases hl : l = b0 + n
    · rw [if_pos hl, if_pos ⟨n, by omega, hl, hb, by rw [hl, ho]; simp⟩, hl, ho]
    · rw [if_neg hl, ih]
      simp only [other hl]
theorem masked_out {mk : Nat → Bool} {m : PM Nat} {b0 j l : Nat} (h : outOf mk m b0 j S l) : (S.masked mk m b0 j).objs.get l = some .dead := by
 show (maskF mk m b0 j S j).get l = _
 rw [maskF_get]; exact if_pos h
theorem masked_in {mk : Nat → Bool} {m : PM Nat} {b0 j l : Nat} (h : ¬ outOf mk m b0 j S l) : (S.masked mk m b0 j).objs.get l = S.objs.get l := by
 show (maskF mk m b0 j S j).get l = _
 rw [maskF_get]; exact if_neg h
theorem unmasked_out {mk : Nat → Bool} {m : PM Nat} {b0 j l : Nat} (h : outOf mk m b0 j S l) : (S'.unmasked S mk m b0 j).objs.get l = S.objs.get l := by
 show (unmaskF mk m b0 j S S'.objs j).get l = _
 rw [unmaskF_get]; exact if_pos h
theorem unmasked_in {mk : Nat → Bool} {m : PM Nat} {b0 j l : Nat} (h : ¬ outOf mk m b0 j S l) : (S'.unmasked S mk m b0 j).objs.get l = S'.objs.get l := by
 show (unmaskF mk m b0 j S S'.objs j).get l = _
 rw [unmaskF_get]; exact if_neg h
theorem masked_evo {mk : Nat → Bool} {m : PM Nat} {b0 j : Nat} (h : Evo (S.masked mk m b0 j) S') : Evo S (S'.unmasked S mk m b0 j) := by
 refine ⟨h.no, h.ver, fun l hl he => ?_, ⟨h.idl.nid, h.idl.idk⟩⟩
 obtain ⟨h1, h2⟩ := h.obj l hl he
 refine ⟨?_, h2⟩
 by_cases ho : outOf mk m b0 j S l
 · rw [unmasked_out ho]
 · rw [unmasked_in ho, h1, masked_in ho]
structure EvoTo (b0 : Nat) (S S' : St) : Prop where
 no : S.no ≤ S'.no
 ver : ∀ l, l < b0 → S.ver l ≤ S'.ver l
 obj : ∀ l, l < b0 → S.ver l = S'.ver l → S'.objs.get l = S.objs.get l ∧ S'.shp.get l = S.shp.get l
 idl : Idl S S'
theorem EvoTo.refl (b0 : Nat) (S : St) : EvoTo b0 S S := ⟨Nat.le_refl _, fun _ _ => Nat.le_refl _, fun _ _ _ => ⟨rfl, rfl⟩, Idl.refl _⟩
theorem EvoTo.trans {b0 : Nat} {A B D : St} (h : EvoTo b0 A B) (k : EvoTo b0 B D) : EvoTo b0 A D :=
 ⟨Nat.le_trans h.no k.no, fun l hl => Nat.le_trans (h.ver l hl) (k.ver l hl), fun l hl he => by
  have h1 := h.ver l hl
  have h2 := k.ver l hl
  obtain ⟨a1, a2⟩ := k.obj l hl (by omega)
  obtain ⟨b1, b2⟩ := h.obj l hl (by omega)
  exact ⟨a1.trans b1, a2.trans b2⟩, h.idl.trans k.idl⟩
theorem Evo.to {b0 : Nat} (h : Evo S S') (hb : b0 ≤ S.no) : EvoTo b0 S S' := ⟨h.no, fun l hl => h.ver l (by omega), fun l hl => h.obj l (by omega), h.idl⟩
theorem EvoTo.bear (b0 n : Nat) (hn : b0 ≤ n) (S : St) (m : Mk) : EvoTo b0 S (S.bear n m) := by
 refine ⟨Nat.le_refl _, fun _ _ => Nat.le_refl _, fun l hl _ => ⟨?_, ?_⟩, ⟨Nat.le_refl _, fun _ => ⟨rfl, rfl⟩⟩⟩
 · simp only [St.bear, PM.get_set]; rw [if_neg (by omega)]
 · simp only [St.bear]
   split
   · rw [PM.get_set, if_neg (by omega)]
   · rfl
theorem drawGo_evo (hc : CallEvo call) {nt : Nat} {ops : Array Oper} {m : PM Nat} {b0 : Nat} : ∀ (rest : List Oper) (i : Nat) (tm tm' : PM AV) (S S' : St) (hi : List (Nat × St × St)) (ls : List (Nat × Nat × Option (TypeId × Nat))), b0 ≤ S.no →
 evDrawGo E call nt ops m b0 i rest tm S = some (tm', S', hi, ls) → EvoTo b0 S S'
 | [], i, tm, tm', S, S', hi, ls, hb, h => by simp [evDrawGo] at h; rw [h.2.1]; exact EvoTo.refl _ _
 | o :: r, i, tm, tm', S, S', hi, ls, hb, h => by
  simp only [evDrawGo] at h
  split at h
  · simp at h
  · split at h
    · exact drawGo_evo hc r _ _ _ _ _ _ _ hb h
    · simp at h
  · cases hm : isMk E o with
    | true =>
     simp only [hm, cond_true] at h
     split at h
     · simp at h
     · split at h
       · exact (EvoTo.bear b0 (b0 + i) (by omega) _ _).trans (drawGo_evo hc r _ _ _ _ _ _ _ hb h)
       · simp at h
    | false =>
     simp only [hm, cond_false] at h
     cases hq : loudOp E o.op with
     | true =>
      simp only [hq, cond_true] at h
      split at h
      · simp at h
      · rename_i v S1 hev
        split at h
        · split at h
          · rename_i hgo
            simp only [Option.some.injEq, Prod.mk.injEq] at h
            obtain ⟨_, rfl, _⟩ := h
            have he := masked_evo (plain_evo hc o hm hev)
            exact (he.to hb).trans (drawGo_evo hc r _ _ _ _ _ _ _ (Nat.le_trans hb he.no) hgo)
          · simp at h
        · simp at h
     | false =>
      simp only [hq, cond_false] at h
      split at h
      · simp at h
      · rename_i v S1 hev
        split at h
        · split at h
          · rename_i hgo
            simp only [Option.some.injEq, Prod.mk.injEq] at h
            obtain ⟨_, rfl, _⟩ := h
            have he := plain_evo hc o hm hev
            exact (he.to hb).trans (drawGo_evo hc r _ _ _ _ _ _ _ (Nat.le_trans hb he.no) hgo)
          · simp at h
        · simp at h
theorem draw_evo (hc : CallEvo call) {nt : Nat} {ops : Array Oper} {tm tm' : PM AV} (h : evDraw E call nt ops tm S = some (tm', S')) : Evo S S' := by
 simp only [evDraw, cond_eq_ite] at h
 split at h
 · split at h
   · rename_i hgo
     split at h
     · simp only [Option.some.injEq, Prod.mk.injEq] at h
       obtain ⟨_, rfl⟩ := h
       have := drawGo_evo hc _ _ _ _ _ _ _ _ (Nat.le_add_right _ _) hgo
       exact ⟨Nat.le_trans (Nat.le_add_right _ _) this.no, this.ver, this.obj, ⟨this.idl.nid, this.idl.idk⟩⟩
     · simp at h
   · simp at h
 · simp at h
noncomputable def MEvo (M : Code → Option Run) : Prop := ∀ c r, M c = some r → ∀ tm tm' S S' o, r tm S = some (o, tm', S') → Evo S S'
theorem code_evo {M : Code → Option Run} (hc : CallEvo call) (hM : MEvo M) {lf nt : Nat} : ∀ (c : Code) (tm tm' : PM AV) (S S' : St) (o : Out), evC M E call lf nt c tm S = some (o, tm', S') → Evo S S' := by
 intro c
 induction c with
 | region id ops draw =>
  intro tm tm' S S' o h
  cases draw with
  | false =>
   simp only [evC] at h
   split at h
   · rename_i h1
     simp only [Option.some.injEq, Prod.mk.injEq] at h
     obtain ⟨_, _, rfl⟩ := h
     exact seq_evo hc _ _ _ _ _ h1
   · simp at h
  | true =>
   simp only [evC] at h
   split at h
   · rename_i h1
     simp only [Option.some.injEq, Prod.mk.injEq] at h
     obtain ⟨_, _, rfl⟩ := h
     exact draw_evo hc h1
   · simp at h
 | seq x y ihx ihy =>
  intro tm tm' S S' o h
  simp only [evC] at h
  split at h
  · rename_i r hr
    exact hM _ _ hr _ _ _ _ _ h
  split at h
  · rename_i h1
    exact (ihx _ _ _ _ _ h1).trans (ihy _ _ _ _ _ h)
  · exact ihx _ _ _ _ _ h
 | cond c x y ihx ihy =>
  intro tm tm' S S' o h
  simp only [evC] at h
  split at h
  · exact ihx _ _ _ _ _ h
  · exact ihy _ _ _ _ _ h
  · simp at h
 | block id c ih =>
  intro tm tm' S S' o h
  simp only [evC, cond_eq_ite] at h
  split at h
  · rename_i h1
    have := ih _ _ _ _ _ h1
    split at h <;> (simp only [Option.some.injEq, Prod.mk.injEq] at h; obtain ⟨_, _, rfl⟩ := h; exact this)
  · exact ih _ _ _ _ _ h
 | loop c ih =>
  intro tm tm' S S' o h
  simp only [evC] at h
  generalize lf = k at h ih
  have key : ∀ (n : Nat) (tm tm' : PM AV) (S S' : St) (o : Out), iter (evC M E call k nt c) n tm S = some (o, tm', S') → Evo S S' := by
   intro n
   induction n with
   | zero => intro tm tm' S S' o h; simp [iter] at h
   | succ n ihn =>
    intro tm tm' S S' o h
    simp only [iter] at h
    split at h
    · simp at h
    · rename_i h1
      exact (ih _ _ _ _ _ h1).trans (ihn _ _ _ _ _ h)
    · rename_i h1
      simp only [Option.some.injEq, Prod.mk.injEq] at h
      obtain ⟨_, _, rfl⟩ := h
      exact ih _ _ _ _ _ h1
    · rename_i h1
      simp only [Option.some.injEq, Prod.mk.injEq] at h
      obtain ⟨_, _, rfl⟩ := h
      exact ih _ _ _ _ _ h1
  exact key _ _ _ _ _ _ h
 | scope c ih => intro tm tm' S S' o h; simp only [evC] at h; exact ih _ _ _ _ _ h
 | _ => intro tm tm' S S' o h; simp [evC] at h; try (rw [h.2.2]; exact Evo.refl _)
theorem last_evo (hc : CallEvo call) {nt : Nat} {m : MapLoop} {tm tm' : PM AV} {S S' : St} {o : Out} (h : lastA E call nt m tm S = some (o, tm', S')) : Evo S S' := by
 unfold lastA at h
 split at h
 · cases h
 · split at h
   · cases h
   · rename_i h1
     split at h
     · simp only [Option.some.injEq, Prod.mk.injEq] at h
       obtain ⟨_, _, rfl⟩ := h
       exact seq_evo hc _ _ _ _ _ h1
     · cases h
theorem mac_evo (hc : CallEvo call) {nt : Nat} {m : MapLoop} {run : Run} {tm tm' : PM AV} {S S' : St} {o : Out} (h : macA E call nt m run tm S = some (o, tm', S')) : Evo S S' := by
 unfold macA at h
 split at h
 · cases h
 · rename_i tm1 S1 h1
   have e1 := seq_evo hc _ _ _ _ _ h1
   split at h
   · split at h
     · simp only [cond_eq_ite] at h
       split at h
       · cases h
       · split at h
         · split at h
           · exact (e1.trans (Evo.newRaw _ _)).trans (last_evo hc h)
           · cases h
         · split at h
           · exact (e1.trans (Evo.newRaw _ _)).trans (last_evo hc h)
           · split at h
             · split at h
               · split at h
                 · split at h
                   · cases h
                   · split at h
                     · exact ((e1.trans (Evo.newRaw _ _)).trans (Evo.put _ _ _)).trans (last_evo hc h)
                     · cases h
                 · cases h
               · cases h
             · cases h
     · cases h
   · cases h
theorem mac0_evo : MEvo mac0 := fun c r h => by simp [mac0] at h
theorem mac1_evo (hc : CallEvo call) (lf nt : Nat) : MEvo (mac1 E call lf nt) := by
 intro c r h
 unfold mac1 at h
 split at h
 · simp only [Option.some.injEq] at h
   subst h
   exact fun _ _ _ _ _ h => mac_evo hc h
 · cases h
theorem evF_evo (hx : ∀ f g, E.X f = some g → ∀ args S r S', g args S = some (r, S') → Evo S S') (lf : Nat) : ∀ n, CallEvo (evF E lf n) := by
 intro n
 induction n with
 | zero => intro g args S r S' h; simp [evF] at h
 | succ n ih =>
  intro g args S r S' h
  simp only [evF, cond_eq_ite] at h
  split at h
  · simp at h
  · split at h
    · rename_i g' hg
      exact hx _ _ hg _ _ _ _ h
    · split at h
      · simp at h
      · split at h
        · split at h
          · simp at h
          · rename_i h1
            simp only [Option.map_eq_some_iff, Prod.mk.injEq] at h
            obtain ⟨_, _, _, rfl⟩ := h
            exact code_evo ih (mac1_evo ih _ _) _ _ _ _ _ _ h1
          · simp at h
        · simp at h
end
end Go.Abs
end
end
