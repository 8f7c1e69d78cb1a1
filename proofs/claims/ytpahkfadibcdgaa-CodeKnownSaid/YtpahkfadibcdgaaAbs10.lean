/-
  Regions whose order is open: what comes ahead of what; what an operation hangs on.
-/
import Derived.Test.YtpahkfadibcdgaaAbs9
namespace Go.Abs
open Go.RowKit

/-- Operation i waits for operation d, at whatever remove. -/
inductive Bef (ops : Array Oper) : Nat → Nat → Prop
  | base {i : Nat} {o : Oper} {e : Edge} (ho : ops[i]? = some o) (he : e ∈ o.after.toList) (hb : Region.binds .any e = true) : Bef ops i e.on
  | step {i d : Nat} {o : Oper} {e : Edge} (ho : ops[i]? = some o) (he : e ∈ o.after.toList) (hb : Region.binds .any e = true) (h : Bef ops e.on d) : Bef ops i d

theorem Bef.closed {ops : Array Oper} {D : Nat → Prop} (hD : ∀ i o e, ops[i]? = some o → D i → e ∈ o.after.toList → Region.binds .any e = true → D e.on) {i d : Nat} (h : Bef ops i d) : D i → D d := by
  induction h with
  | base ho he hb => exact fun hi => hD _ _ _ ho hi he hb
  | step ho he hb _ ih => exact fun hi => ih (hD _ _ _ ho hi he hb)

theorem maskOf_bit (acc : PM Nat) (d : Nat) : ∀ (es : List Edge), (maskOf acc es).testBit d = true → ∃ e ∈ es, Region.binds .any e = true ∧ (e.on = d ∨ bit acc e.on d = true)
  | [], h => by simp [maskOf] at h
  | e :: r, h => by
    simp only [maskOf] at h
    cases hb : Region.binds .any e with
    | false =>
      rw [hb] at h
      obtain ⟨e', h1, h2⟩ := maskOf_bit acc d r h
      exact ⟨e', by simp [h1], h2⟩
    | true =>
      rw [hb] at h
      simp only [cond_true, Nat.testBit_or, Bool.or_eq_true, Nat.testBit_two_pow, decide_eq_true_eq] at h
      rcases h with (h | h) | h
      · exact ⟨e, by simp, hb, .inl h⟩
      · exact ⟨e, by simp, hb, .inr h⟩
      · obtain ⟨e', h1, h2⟩ := maskOf_bit acc d r h
        exact ⟨e', by simp [h1], h2⟩

theorem masks_bef {ops : Array Oper} : ∀ (rest : List Oper) (i : Nat) (acc : PM Nat), ops.toList.drop i = rest → (∀ k d, bit acc k d = true → Bef ops k d) → ∀ k d, bit (masks i rest acc) k d = true → Bef ops k d
  | [], i, acc, _, h => h
  | o :: r, i, acc, hd, h => by
    have hko : ops[i]? = some o := by
      have h0 : (ops.toList.drop i)[0]? = some o := by rw [hd]; rfl
      rw [List.getElem?_drop] at h0
      simpa using h0
    have hrest : ops.toList.drop (i + 1) = r := by rw [← List.drop_drop, hd]; rfl
    refine masks_bef r (i + 1) _ hrest (fun k d hk => ?_)
    unfold bit at hk
    rw [PM.get_set] at hk
    by_cases hki : k = i
    · subst hki
      simp only [if_true, Option.getD_some] at hk
      obtain ⟨e, h1, h2, h3⟩ := maskOf_bit acc d _ hk
      rcases h3 with rfl | h3
      · exact .base hko h1 h2
      · exact .step hko h1 h2 (h _ _ h3)
    · rw [if_neg hki] at hk
      exact h k d hk

structure Pairs (ops : Array Oper) : Prop where
  edge : ∀ (i : Nat) (o : Oper) (e : Edge), ops[i]? = some o → e ∈ o.after.toList → Region.binds .any e = true → e.on < i
  dst : ∀ (i j : Nat) (x y : Oper) (d : Tmp), i < j → ops[i]? = some x → ops[j]? = some y → x.dst = some d → y.dst ≠ some d
  names1 : ∀ (i j : Nat) (x y : Oper) (d : Tmp), i < j → ops[i]? = some x → ops[j]? = some y → x.dst = some d → d ∈ namesOf ops y → Bef ops j i
  names2 : ∀ (i j : Nat) (x y : Oper) (d : Tmp), i < j → ops[i]? = some x → ops[j]? = some y → y.dst = some d → d ∈ namesOf ops x → Bef ops j i
  loud : ∀ (i j : Nat) (x y : Oper), i < j → ops[i]? = some x → ops[j]? = some y → Abs.loud x.op = true → Abs.loud y.op = true → Bef ops j i

theorem pairs_of {ops : Array Oper} {m : PM Nat} (hm : ∀ k d, bit m k d = true → Bef ops k d) : ∀ (rest : List Oper) (i : Nat), ops.toList.drop i = rest → allPairs ops m i rest = true →
    (∀ k o e, i ≤ k → ops[k]? = some o → e ∈ o.after.toList → Region.binds .any e = true → e.on < k) ∧ (∀ k j x y, i ≤ k → k < j → ops[k]? = some x → ops[j]? = some y → pairOk ops m k x j y = true)
  | [], i, hd, _ => by
    have : ops.size ≤ i := by have := congrArg List.length hd; simp at this; omega
    refine ⟨fun k o e hk ho => ?_, fun k j x y hk _ ho => ?_⟩ <;> (rw [Array.getElem?_eq_none (by omega)] at ho; simp at ho)
  | x :: r, i, hd, h => by
    have hko : ops[i]? = some x := by
      have h0 : (ops.toList.drop i)[0]? = some x := by rw [hd]; rfl
      rw [List.getElem?_drop] at h0
      simpa using h0
    have hrest : ops.toList.drop (i + 1) = r := by rw [← List.drop_drop, hd]; rfl
    simp only [allPairs, Bool.and_eq_true] at h
    obtain ⟨⟨h1, h2⟩, h3⟩ := h
    obtain ⟨k1, k2⟩ := pairs_of hm r (i + 1) hrest h3
    have row : ∀ (l : List Oper) (j0 : Nat), ops.toList.drop j0 = l → pairsOk ops m i x j0 l = true → ∀ j y, j0 ≤ j → ops[j]? = some y → pairOk ops m i x j y = true := by
      intro l
      induction l with
      | nil =>
        intro j0 hd0 _ j y hj ho
        have : ops.size ≤ j0 := by have := congrArg List.length hd0; simp at this; omega
        rw [Array.getElem?_eq_none (by omega)] at ho; simp at ho
      | cons z l ih =>
        intro j0 hd0 hp j y hj ho
        simp only [pairsOk, Bool.and_eq_true] at hp
        have hz : ops[j0]? = some z := by
          have h0 : (ops.toList.drop j0)[0]? = some z := by rw [hd0]; rfl
          rw [List.getElem?_drop] at h0
          simpa using h0
        by_cases hjj : j = j0
        · subst hjj
          rw [hz] at ho; simp at ho; subst ho
          exact hp.1
        · exact ih (j0 + 1) (by rw [← List.drop_drop, hd0]; rfl) hp.2 j y (by omega) ho
    refine ⟨fun k o e hk ho he hb => ?_, fun k j x' y hk hkj hx hy => ?_⟩
    · by_cases hki : k = i
      · subst hki
        rw [hko] at ho; simp at ho; subst ho
        have := List.all_eq_true.1 h1 e he
        rw [hb] at this
        simp only [Bool.not_true, Bool.false_or] at this
        exact Nat.le_of_ble_eq_true this
      · exact k1 k o e (by omega) ho he hb
    · by_cases hki : k = i
      · subst hki
        rw [hko] at hx; simp at hx; subst hx
        exact row r (k + 1) hrest h2 j y (by omega) hy
      · exact k2 k j x' y (by omega) hkj hx hy

theorem Pairs.of {ops : Array Oper} (h : allPairs ops (masks 0 ops.toList .leaf) 0 ops.toList = true) : Pairs ops ∧ (∀ k d, bit (masks 0 ops.toList .leaf) k d = true → Bef ops k d) := by
  have hm : ∀ k d, bit (masks 0 ops.toList .leaf) k d = true → Bef ops k d := masks_bef (ops := ops) ops.toList 0 .leaf rfl (fun k d hk => by simp [bit] at hk)
  obtain ⟨h1, h2⟩ := pairs_of hm ops.toList 0 rfl h
  refine ⟨⟨fun i o e ho he hb => h1 i o e (Nat.zero_le _) ho he hb, fun i j x y d hij hx hy hd => ?_, fun i j x y d hij hx hy hd hn => ?_, fun i j x y d hij hx hy hd hn => ?_, fun i j x y hij hx hy l1 l2 => ?_⟩, hm⟩
  all_goals
    have hp := h2 i j x y (Nat.zero_le _) hij hx hy
    simp only [pairOk, Bool.and_eq_true] at hp
    obtain ⟨⟨p1, p2⟩, p3⟩ := hp
  · rw [hd] at p1
    simp only [Bool.and_eq_true] at p1
    intro he
    rw [he] at p1
    simp at p1
  · rw [hd] at p1
    simp only [Bool.and_eq_true, Bool.or_eq_true] at p1
    rcases p1.1 with hb | hb
    · exact hm _ _ hb
    · have hc : (namesOf ops y).contains d = true := by simpa using hn
      rw [hc] at hb; simp at hb
  · rw [hd] at p2
    simp only [Bool.or_eq_true] at p2
    rcases p2 with hb | hb
    · exact hm _ _ hb
    · have hc : (namesOf ops x).contains d = true := by simpa using hn
      rw [hc] at hb; simp at hb
  · simp only [Bool.or_eq_true] at p3
    rcases p3 with hb | hb
    · exact hm _ _ hb
    · rw [l1, l2] at hb; simp at hb

section
variable {E : Env} {S S' S2 : St} {v : AV} {tm tm2 : PM AV} {call : CallFn}

/-- What is the same of two states where no object was written. -/
structure Evo (S S' : St) : Prop where
  no : S.no ≤ S'.no
  ver : ∀ l, l < S.no → S.ver l ≤ S'.ver l
  obj : ∀ l, l < S.no → S.ver l = S'.ver l → S'.objs.get l = S.objs.get l
theorem Evo.refl (S : St) : Evo S S := ⟨Nat.le_refl _, fun _ _ => Nat.le_refl _, fun _ _ _ => rfl⟩
theorem Evo.trans {A B D : St} (h : Evo A B) (k : Evo B D) : Evo A D :=
  ⟨Nat.le_trans h.no k.no, fun l hl => Nat.le_trans (h.ver l hl) (k.ver l (Nat.lt_of_lt_of_le hl h.no)), fun l hl he => by
    have h1 := h.ver l hl
    have h2 := k.ver l (Nat.lt_of_lt_of_le hl h.no)
    rw [k.obj l (Nat.lt_of_lt_of_le hl h.no) (by omega), h.obj l hl (by omega)]⟩
theorem Evo.newObj (S : St) (cs : List AV) : Evo S (S.newObj cs) :=
  ⟨Nat.le_succ _, fun _ _ => Nat.le_refl _, fun l hl _ => by simp only [St.newObj, PM.get_set]; rw [if_neg (by omega)]⟩
theorem Evo.ids (S : St) (n : Nat) (sp : PM Unit) : Evo S { S with nid := n, spent := sp } := ⟨Nat.le_refl _, fun _ _ => Nat.le_refl _, fun _ _ _ => rfl⟩

/-- The callee leaves what it does not write. -/
def CallEvo (call : CallFn) : Prop := ∀ g args S r S', call g args S = some (r, S') → Evo S S'

theorem loadA_any {t : TypeId} {x : AV} (h : loadA E t x S = some (v, S')) : S' = S ∧ ((∀ l off, x = .ptr l off → S2.objs.get l = S.objs.get l) → loadA E t x S2 = some (v, S2)) := by
  unfold loadA at *
  cases x with
  | ptr l off =>
    simp only at h ⊢
    cases ho : S.obj l with
    | none => simp [ho] at h
    | some cs =>
      simp only [ho, Option.map_eq_some_iff, Prod.mk.injEq] at h
      obtain ⟨r, h1, rfl, rfl⟩ := h
      refine ⟨rfl, fun hs => ?_⟩
      have : S2.obj l = some cs := by
        unfold St.obj at ho ⊢
        rw [hs l off rfl]; exact ho
      simp [this, h1]
  | eptr cs off =>
    simp only [Option.map_eq_some_iff, Prod.mk.injEq] at h ⊢
    obtain ⟨r, h1, rfl, rfl⟩ := h
    exact ⟨rfl, fun _ => ⟨r, h1, rfl, trivial⟩⟩
  | _ => simp at h

theorem sliceA_any {t : TypeId} {x : AV} {lo hi : Option AV} (h : sliceA E t x lo hi S = some (v, S')) : S' = S ∧ sliceA E t x lo hi S2 = some (v, S2) := by
  simp only [sliceA, cond_eq_ite] at h ⊢
  (repeat' split at h) <;> simp_all
theorem convertA_any {t u : TypeId} {x : AV} (h : convertA E t u x S = some (v, S')) : S' = S ∧ convertA E t u x S2 = some (v, S2) := by
  simp only [convertA, cond_eq_ite] at h ⊢
  (repeat' split at h) <;> first | (simp_all; done) | (simp_all; obtain ⟨a, h1, h2, h3⟩ := h; exact ⟨h3.symm, a, h1, h2⟩)
theorem buildA_any {t : TypeId} {ps : List (Nat × AV)} (h : buildA E t ps S = some (v, S')) : S' = S ∧ buildA E t ps S2 = some (v, S2) := by
  simp only [buildA] at h ⊢
  (repeat' split at h) <;> first | (simp_all; done) | (simp_all; obtain ⟨a, h1, h2, h3⟩ := h; exact ⟨h3.symm, a, h1, h2⟩)
theorem map_any {α : Type} {X : Option α} {f : α → AV} (h : X.map (fun a => (f a, S)) = some (v, S')) : S' = S ∧ X.map (fun a => (f a, S2)) = some (v, S2) := by
  simp only [Option.map_eq_some_iff, Prod.mk.injEq] at h
  obtain ⟨a, h1, rfl, rfl⟩ := h
  exact ⟨rfl, by rw [h1]; rfl⟩
theorem len_any {ats : List TypeId} {xs : List AV} (h : builtinA E .len ats xs S = some (v, S')) : S' = S ∧ builtinA E .len ats xs S2 = some (v, S2) := by
  match ats, xs, h with
  | [t], [x], h =>
    simp only [builtinA] at h ⊢
    cases hd : E.und t with
    | none => simp [hd] at h
    | some d =>
      cases d <;> simp only [hd] at h ⊢ <;> first
        | exact map_any (f := fun n : Nat => AV.sc (.int .i64 n)) h
        | (simp at h; done)
        | (split at h <;> simp_all; done)
        | (simp_all; done)
  | [], _, h => simp [builtinA] at h
  | [_], [], h => simp [builtinA] at h
  | [_], _ :: _ :: _, h => simp [builtinA] at h
  | _ :: _ :: _, _, h => simp [builtinA] at h
theorem builtinA_any {b : Builtin} (hb : b = .len ∨ b = .min ∨ b = .max) {ats : List TypeId} {xs : List AV} (h : builtinA E b ats xs S = some (v, S')) : S' = S ∧ builtinA E b ats xs S2 = some (v, S2) := by
  rcases hb with rfl | rfl | rfl
  · exact len_any h
  · simp only [builtinA] at h ⊢
    split at h
    · simp only [Option.some.injEq, Prod.mk.injEq] at h ⊢
      exact ⟨h.2.symm, h.1, trivial⟩
    · simp at h
  · simp only [builtinA] at h ⊢
    (repeat' split at h) <;> first | (simp at h; done) | exact map_any (f := fun x => ofV x) h

theorem quiet_any (o : Oper) (hq : loud o.op = false) (h : evOp E call tm o S = some (v, S')) :
    S' = S ∧ ((∀ l, loadsFrom E tm o = some l → S2.objs.get l = S.objs.get l) → evOp E call tm o S2 = some (v, S2)) := by
  obtain ⟨dst, op, ty, pos, after, guard⟩ := o
  cases op with
  | load t x =>
    simp only [evOp] at h ⊢
    obtain ⟨h1, h2⟩ := loadA_any (S2 := S2) h
    exact ⟨h1, fun hl => h2 fun l off hx => hl l (by simp [loadsFrom, hx])⟩
  | slice t x lo hi mx =>
    cases mx with
    | some m => simp [evOp] at h
    | none => simp only [evOp] at h ⊢; exact (sliceA_any h).imp id fun k _ => k
  | convert t u x => simp only [evOp] at h ⊢; exact (convertA_any h).imp id fun k _ => k
  | build t ps => simp only [evOp] at h ⊢; exact (buildA_any h).imp id fun k _ => k
  | alloc t => simp [loud] at hq
  | box t x => simp [loud] at hq
  | buildSlice t n ps => simp [loud] at hq
  | store t x y => simp [loud] at hq
  | call c =>
    obtain ⟨callee, args, ats⟩ := c
    cases callee with
    | value f => simp [loud] at hq
    | invoke r m => simp [loud] at hq
    | builtin b =>
      have hb : b = .len ∨ b = .min ∨ b = .max := by cases b <;> simp_all [loud]
      simp only [evOp, callA] at h ⊢
      exact (builtinA_any hb h).imp id fun k _ => k
  | pick c x y => simp only [evOp, cond_eq_ite] at h ⊢; (repeat' split at h) <;> simp_all
  | nilCheck x => simp only [evOp] at h ⊢; (repeat' split at h) <;> simp_all
  | binOp b t x y t' => simp only [evOp] at h ⊢; (repeat' split at h) <;> first | (simp_all; done) | (have hm := map_any (S2 := S2) h; simp_all; done) | (simp_all; obtain ⟨a, h1, h2, h3⟩ := h; exact ⟨h3.symm, fun _ => ⟨a, h1, h2⟩⟩)
  | unOp b t x => simp only [evOp] at h ⊢; (repeat' split at h) <;> first | (simp_all; done) | (have hm := map_any (S2 := S2) h; simp_all; done) | (simp_all; obtain ⟨a, h1, h2, h3⟩ := h; exact ⟨h3.symm, fun _ => ⟨a, h1, h2⟩⟩)
  | fieldAddr t x f => simp only [evOp, cond_eq_ite] at h ⊢; (repeat' split at h) <;> simp_all
  | field t x f => simp only [evOp] at h ⊢; (repeat' split at h) <;> first | (simp_all; done) | (have hm := map_any (S2 := S2) h; simp_all; done) | (simp_all; obtain ⟨a, h1, h2, h3⟩ := h; exact ⟨h3.symm, fun _ => ⟨a, h1, h2⟩⟩)
  | indexAddr t x i => simp only [evOp, cond_eq_ite] at h ⊢; (repeat' split at h) <;> first | (simp_all; done) | (have hm := map_any (S2 := S2) h; simp_all; done) | (simp_all; obtain ⟨a, h1, h2, h3⟩ := h; exact ⟨h3.symm, fun _ => ⟨a, h1, h2⟩⟩)
  | index t x i => simp only [evOp, cond_eq_ite] at h ⊢; (repeat' split at h) <;> first | (simp_all; done) | (have hm := map_any (S2 := S2) h; simp_all; done) | (simp_all; obtain ⟨a, h1, h2, h3⟩ := h; exact ⟨h3.symm, fun _ => ⟨a, h1, h2⟩⟩)
  | extract x i => simp only [evOp] at h ⊢; (repeat' split at h) <;> first | (simp_all; done) | (have hm := map_any (S2 := S2) h; simp_all; done) | (simp_all; obtain ⟨a, h1, h2, h3⟩ := h; exact ⟨h3.symm, fun _ => ⟨a, h1, h2⟩⟩)
  | move x => simp only [evOp] at h ⊢; simp_all
  | assign x => simp only [evOp] at h ⊢; simp_all
  | makeFunc f x y => simp only [evOp] at h ⊢; simp_all
  | makeInterface t x => simp only [evOp] at h ⊢; (repeat' split at h) <;> simp_all
  | _ => simp [evOp] at h

theorem appendA_evo {ti : TypeInfo} {s x : AV} (h : appendA ti s x S = some (v, S')) : Evo S S' := by
  simp only [appendA, cond_eq_ite] at h
  (repeat' split at h) <;> first | (simp at h; done) | (simp only [Option.some.injEq, Prod.mk.injEq] at h; obtain ⟨_, rfl⟩ := h; first | exact Evo.refl _ | exact Evo.ids S _ _)

theorem op_evo (hc : CallEvo call) (o : Oper) (h : evOp E call tm o S = some (v, S')) : Evo S S' := by
  by_cases hq : loud o.op = false
  · rw [(quiet_any (S2 := S) o hq h).1]; exact Evo.refl _
  · obtain ⟨dst, op, ty, pos, after, guard⟩ := o
    cases op with
    | alloc t =>
      simp only [evOp] at h
      (repeat' split at h) <;> first | (simp at h; done) | (simp only [Option.some.injEq, Prod.mk.injEq] at h; obtain ⟨_, rfl⟩ := h; exact Evo.newObj _ _)
    | box t x =>
      simp only [evOp] at h
      (repeat' split at h) <;> first | (simp at h; done) | (simp only [Option.some.injEq, Prod.mk.injEq] at h; obtain ⟨_, rfl⟩ := h; exact Evo.newObj _ _)
    | buildSlice t n ps =>
      simp only [evOp, buildSliceA, cond_eq_ite] at h
      (repeat' split at h) <;> first | (simp at h; done) | (simp only [Option.some.injEq, Prod.mk.injEq] at h; obtain ⟨_, rfl⟩ := h; exact Evo.ids S _ _)
    | store t x y =>
      simp only [evOp, storeA, cond_eq_ite] at h
      (repeat' split at h) <;> first
        | (simp at h; done)
        | (simp only [Option.some.injEq, Prod.mk.injEq] at h
           obtain ⟨_, rfl⟩ := h
           refine ⟨Nat.le_refl _, fun l hl => ?_, fun l hl he => ?_⟩
           · simp only [St.ver, PM.get_set]
             split
             · rename_i e; subst e; simp
             · exact Nat.le_refl _
           · simp only [St.ver, PM.get_set] at he
             split at he
             · rename_i e; subst e; simp at he
             · rename_i e
               simp only [PM.get_set]; rw [if_neg e])
    | call c =>
      obtain ⟨callee, args, ats⟩ := c
      simp only [evOp, callA] at h
      cases callee with
      | value f =>
        simp only at h
        split at h
        · exact hc _ _ _ _ _ h
        · simp at h
      | invoke r m => simp at h
      | builtin b =>
        cases b <;> first
          | (simp [builtinA] at h; done)
          | exact absurd rfl hq
          | (simp only [builtinA] at h
             (repeat' split at h) <;> first | (simp at h; done) | exact appendA_evo h)
    | _ => exact absurd rfl hq

theorem seq_evo (hc : CallEvo call) {nt : Nat} {ops : Array Oper} : ∀ (rest : List Oper) (tm tm' : PM AV) (S S' : St), evSeq E call nt ops rest tm S = some (tm', S') → Evo S S'
  | [], tm, tm', S, S', h => by simp [evSeq] at h; rw [h.2]; exact Evo.refl _
  | o :: r, tm, tm', S, S', h => by
    simp only [evSeq] at h
    split at h
    · simp at h
    · split at h
      · exact seq_evo hc r _ _ _ _ h
      · simp at h
    · split at h
      · simp at h
      · rename_i v S1 hev
        split at h
        · exact (op_evo hc o hev).trans (seq_evo hc r _ _ _ _ h)
        · simp at h
theorem drawGo_evo (hc : CallEvo call) {nt : Nat} {ops : Array Oper} : ∀ (rest : List Oper) (i : Nat) (tm tm' : PM AV) (S S' : St) (hi : List (Nat × St × St)) (ls : List (Nat × Nat)), evDrawGo E call nt ops i rest tm S = some (tm', S', hi, ls) → Evo S S'
  | [], i, tm, tm', S, S', hi, ls, h => by simp [evDrawGo] at h; rw [h.2.1]; exact Evo.refl _
  | o :: r, i, tm, tm', S, S', hi, ls, h => by
    simp only [evDrawGo] at h
    split at h
    · simp at h
    · split at h
      · exact drawGo_evo hc r _ _ _ _ _ _ _ h
      · simp at h
    · split at h
      · simp at h
      · rename_i v S1 hev
        split at h
        · split at h
          · rename_i tm2 S2 hist ls2 hgo
            simp only [Option.some.injEq, Prod.mk.injEq] at h
            obtain ⟨_, rfl, _⟩ := h
            exact (op_evo hc o hev).trans (drawGo_evo hc r _ _ _ _ _ _ _ hgo)
          · simp at h
        · simp at h
theorem code_evo (hc : CallEvo call) {lf nt : Nat} : ∀ (c : Code) (tm tm' : PM AV) (S S' : St) (o : Out), evC E call lf nt c tm S = some (o, tm', S') → Evo S S' := by
  intro c
  induction c with
  | region id ops draw =>
    intro tm tm' S S' o h
    cases draw with
    | false =>
      simp only [evC] at h
      split at h
      · rename_i h1
        simp only [Option.some.injEq, Prod.mk.injEq] at h
        obtain ⟨_, _, rfl⟩ := h
        exact seq_evo hc _ _ _ _ _ h1
      · simp at h
    | true =>
      simp only [evC] at h
      split at h
      · rename_i h1
        simp only [Option.some.injEq, Prod.mk.injEq] at h
        obtain ⟨_, _, rfl⟩ := h
        simp only [evDraw, cond_eq_ite] at h1
        split at h1
        · split at h1
          · rename_i hgo
            split at h1
            · simp only [Option.some.injEq, Prod.mk.injEq] at h1
              obtain ⟨_, rfl⟩ := h1
              exact drawGo_evo hc _ _ _ _ _ _ _ _ hgo
            · simp at h1
          · simp at h1
        · simp at h1
      · simp at h
  | seq x y ihx ihy =>
    intro tm tm' S S' o h
    simp only [evC] at h
    split at h
    · rename_i h1
      exact (ihx _ _ _ _ _ h1).trans (ihy _ _ _ _ _ h)
    · exact ihx _ _ _ _ _ h
  | cond c x y ihx ihy =>
    intro tm tm' S S' o h
    simp only [evC] at h
    split at h
    · exact ihx _ _ _ _ _ h
    · exact ihy _ _ _ _ _ h
    · simp at h
  | block id c ih =>
    intro tm tm' S S' o h
    simp only [evC, cond_eq_ite] at h
    split at h
    · rename_i h1
      have := ih _ _ _ _ _ h1
      split at h <;> (simp only [Option.some.injEq, Prod.mk.injEq] at h; obtain ⟨_, _, rfl⟩ := h; exact this)
    · exact ih _ _ _ _ _ h
  | loop c ih =>
    intro tm tm' S S' o h
    simp only [evC] at h
    generalize lf = k at h ih
    have key : ∀ (n : Nat) (tm tm' : PM AV) (S S' : St) (o : Out), iter (evC E call k nt c) n tm S = some (o, tm', S') → Evo S S' := by
      intro n
      induction n with
      | zero => intro tm tm' S S' o h; simp [iter] at h
      | succ n ihn =>
        intro tm tm' S S' o h
        simp only [iter] at h
        split at h
        · simp at h
        · rename_i h1
          exact (ih _ _ _ _ _ h1).trans (ihn _ _ _ _ _ h)
        · rename_i h1
          simp only [Option.some.injEq, Prod.mk.injEq] at h
          obtain ⟨_, _, rfl⟩ := h
          exact ih _ _ _ _ _ h1
        · rename_i h1
          simp only [Option.some.injEq, Prod.mk.injEq] at h
          obtain ⟨_, _, rfl⟩ := h
          exact ih _ _ _ _ _ h1
    exact key _ _ _ _ _ _ h
  | scope c ih => intro tm tm' S S' o h; simp only [evC] at h; exact ih _ _ _ _ _ h
  | _ => intro tm tm' S S' o h; simp [evC] at h; try (rw [h.2.2]; exact Evo.refl _)

theorem evF_evo (hx : ∀ f g, E.X f = some g → ∀ args S r S', g args S = some (r, S') → Evo S S') (lf : Nat) : ∀ n, CallEvo (evF E lf n) := by
  intro n
  induction n with
  | zero => intro g args S r S' h; simp [evF] at h
  | succ n ih =>
    intro g args S r S' h
    simp only [evF, cond_eq_ite] at h
    split at h
    · simp at h
    · split at h
      · rename_i g' hg
        exact hx _ _ hg _ _ _ _ h
      · split at h
        · simp at h
        · split at h
          · split at h
            · simp at h
            · rename_i h1
              simp only [Option.map_eq_some_iff, Prod.mk.injEq] at h
              obtain ⟨_, _, _, rfl⟩ := h
              exact code_evo ih _ _ _ _ _ _ h1
            · simp at h
          · simp at h

end
end Go.Abs
