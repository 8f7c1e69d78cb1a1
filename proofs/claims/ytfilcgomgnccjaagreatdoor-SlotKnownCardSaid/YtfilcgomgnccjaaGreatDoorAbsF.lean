/-
  What runs where objects are out of sight runs the same where they are there.
  Regions whose order is open: whatever order is picked, what the lexical walk gives.
  The evaluator is sound: a call that it carries out, the model carries out, whatever the tape says.
-/
import Derived.Test.YtfilcgomgnccjaaGreatDoorAbsD
section
set_option linter.unusedSimpArgs false
set_option linter.unusedVariables false
namespace Go.Abs

/-- State A, in which the objects of D are out of sight, and state X, in which anything may stand there. -/
structure Frm (D : Nat → Prop) (A X : St) : Prop where
  no : X.no = A.no
  nid : X.nid = A.nid
  sp : ∀ i, X.spent.get i = A.spent.get i
  ity : ∀ i, X.ity.get i = A.ity.get i
  wr : X.wr = A.wr
  obj : ∀ l, ¬ D l → X.objs.get l = A.objs.get l
  shp : ∀ l, ¬ D l → X.shp.get l = A.shp.get l
  dead : ∀ l, D l → inacc (A.objs.get l)
  lt : ∀ l, D l → l < A.no

theorem Frm.ver {D : Nat → Prop} {A X : St} (h : Frm D A X) (l : Nat) : X.ver l = A.ver l := by simp only [St.ver, h.wr]

/-- What stands at D stays. -/
noncomputable def Kept (D : Nat → Prop) (X X' : St) : Prop := ∀ l, D l → X'.objs.get l = X.objs.get l ∧ X'.shp.get l = X.shp.get l

/-- Y does in X what has led from A to A'. -/
structure Stp (D : Nat → Prop) (A X A' X' : St) : Prop where
  frm : Frm D A' X'
  kx : Kept D X X'
  ka : Kept D A A'

noncomputable def Does (D : Nat → Prop) (A X : St) (v : AV) (A' : St) (Y : Option (AV × St)) : Prop := ∃ X', Y = some (v, X') ∧ Stp D A X A' X'

section
variable {D : Nat → Prop} {A X A' X' : St} {E : Env} {v : AV} {tm : PM AV} {call : CallFn}

theorem Stp.refl (h : Frm D A X) : Stp D A X A X := ⟨h, fun _ _ => ⟨rfl, rfl⟩, fun _ _ => ⟨rfl, rfl⟩⟩
theorem Stp.trans {A2 X2 : St} (h : Stp D A X A' X') (k : Stp D A' X' A2 X2) : Stp D A X A2 X2 :=
  ⟨k.frm, fun l hl => ⟨(k.kx l hl).1.trans (h.kx l hl).1, (k.kx l hl).2.trans (h.kx l hl).2⟩, fun l hl => ⟨(k.ka l hl).1.trans (h.ka l hl).1, (k.ka l hl).2.trans (h.ka l hl).2⟩⟩

theorem Frm.acc (h : Frm D A X) {l : Nat} (ha : ¬ inacc (A.objs.get l)) : ¬ D l := fun hd => ha (h.dead l hd)
theorem Frm.get (h : Frm D A X) {l : Nat} {o : AObj} (ho : A.objs.get l = some o) (hn : o ≠ .dead) : ¬ D l ∧ X.objs.get l = some o := by
  have : ¬ D l := h.acc (by rw [ho]; rintro (h | h) <;> cases h; exact hn rfl)
  exact ⟨this, (h.obj l this).trans ho⟩
theorem Frm.objc (h : Frm D A X) {l : Nat} {cs : List AV} (ho : A.obj l = some cs) : ¬ D l ∧ X.obj l = some cs := by
  have h1 := obj_inv ho
  obtain ⟨k1, k2⟩ := h.get h1 (by simp)
  exact ⟨k1, by simp [St.obj, k2]⟩
theorem Frm.mapc (h : Frm D A X) {l : Nat} {es : List (Value × AV)} (ho : A.map l = some es) : ¬ D l ∧ X.map l = some es := by
  rcases map_live ho with h1 | h1
  all_goals
    obtain ⟨k1, k2⟩ := h.get h1 (by simp)
    exact ⟨k1, by simp [St.map, k2]⟩
theorem mpOf_eq {S : St} {l : Nat} {es : List (Value × AV)} (h : mpOf S l = some es) : S.objs.get l = some (.mp es) := by
  unfold mpOf at h
  split at h
  · rename_i h1; simp only [Option.some.injEq] at h; rw [h1, h]
  · cases h
theorem Frm.mpOf (h : Frm D A X) {l : Nat} {es : List (Value × AV)} (ho : Go.Abs.mpOf A l = some es) : ¬ D l ∧ Go.Abs.mpOf X l = some es := by
  obtain ⟨k1, k2⟩ := h.get (mpOf_eq ho) (by simp)
  exact ⟨k1, by simp [Go.Abs.mpOf, k2]⟩
theorem Frm.live (h : Frm D A X) (id : Nat) : X.live id = A.live id := by simp only [St.live, h.nid, h.sp]
theorem Frm.ityIs (h : Frm D A X) (id : Nat) (e : TypeId) : X.ityIs id e = A.ityIs id e := by simp only [St.ityIs, h.ity]

theorem Stp.put (h : Frm D A X) {l : Nat} (hl : ¬ D l) (o : AObj) : Stp D A X (A.put l o) (X.put l o) := by
  refine ⟨⟨h.no, h.nid, h.sp, h.ity, by simp only [St.put, h.wr, h.ver], fun k hk => ?_, h.shp, fun k hk => ?_, h.lt⟩, fun k hk => ⟨?_, rfl⟩, fun k hk => ⟨?_, rfl⟩⟩
  · simp only [St.put, PM.get_set]
    split
    · rfl
    · exact h.obj k hk
  · have : k ≠ l := fun e => hl (e ▸ hk)
    simp only [St.put, PM.get_set, if_neg this]
    exact h.dead k hk
  all_goals
    have : k ≠ l := fun e => hl (e ▸ hk)
    simp only [St.put, PM.get_set, if_neg this]
theorem Stp.newRaw (h : Frm D A X) (o : AObj) : Stp D A X (A.newRaw o) (X.newRaw o) := by
  refine ⟨⟨by simp [St.newRaw, h.no], h.nid, h.sp, h.ity, h.wr, fun k hk => ?_, h.shp, fun k hk => ?_, fun k hk => by have := h.lt k hk; simp [St.newRaw]; omega⟩, fun k hk => ⟨?_, rfl⟩, fun k hk => ⟨?_, rfl⟩⟩
  · simp only [St.newRaw, PM.get_set, h.no]
    split
    · rfl
    · exact h.obj k hk
  all_goals
    have h1 := h.lt k hk
    have h2 := h.no
    simp only [St.newRaw, PM.get_set]
    rw [if_neg (by omega)]
  exact h.dead k hk
theorem Stp.bear (h : Frm D A X) {n : Nat} (hn : ¬ D n) (m : Mk) : Stp D A X (A.bear n m) (X.bear n m) := by
  have shp : ∀ (S : St) k, (S.bear n m).shp.get k = if k = n ∧ m.sh.isSome then m.sh else S.shp.get k := fun S k => by
    simp only [St.bear]
    cases m.sh with
    | none => simp
    | some p => simp only [PM.get_set]; by_cases hk : k = n <;> simp [hk]
  refine ⟨⟨h.no, h.nid, h.sp, h.ity, h.wr, fun k hk => ?_, fun k hk => ?_, fun k hk => ?_, h.lt⟩, fun k hk => ⟨?_, ?_⟩, fun k hk => ⟨?_, ?_⟩⟩
  · simp only [St.bear, PM.get_set]
    split
    · rfl
    · exact h.obj k hk
  · rw [shp, shp]
    split
    · rfl
    · exact h.shp k hk
  all_goals
    have : k ≠ n := fun e => hn (e ▸ hk)
    first
      | (rw [shp, if_neg (fun h => this h.1)]; done)
      | (simp only [St.bear, PM.get_set, if_neg this]; done)
      | (simp only [St.bear, PM.get_set, if_neg this]; exact h.dead k hk)
theorem Stp.raise (h : Frm D A X) {n : Nat} (hn : A.no ≤ n) : Stp D A X { A with no := n } { X with no := n } :=
  ⟨⟨rfl, h.nid, h.sp, h.ity, h.wr, h.obj, h.shp, h.dead, fun k hk => by have := h.lt k hk; show k < n; omega⟩, fun _ _ => ⟨rfl, rfl⟩, fun _ _ => ⟨rfl, rfl⟩⟩
theorem Stp.bearNext (h : Frm D A X) (m : Mk) : Stp D A X (A.bearNext m) (X.bearNext m) := by
  have hn : ¬ D A.no := fun hd => by have := h.lt _ hd; omega
  have h1 := Stp.bear h hn m
  have h2 := Stp.raise h1.frm (n := A.no + 1) (Nat.le_succ _)
  simp only [St.bearNext, h.no]
  exact h1.trans h2
theorem Stp.newId (h : Frm D A X) (T : TypeId) : Stp D A X (A.newId T) (X.newId T) :=
  ⟨⟨h.no, by simp [St.newId, h.nid], h.sp, fun i => by simp only [St.newId, PM.get_set, h.nid, h.ity], h.wr, h.obj, h.shp, h.dead, h.lt⟩, fun _ _ => ⟨rfl, rfl⟩, fun _ _ => ⟨rfl, rfl⟩⟩
theorem Stp.newIdX (h : Frm D A X) : Stp D A X A.newIdX X.newIdX :=
  ⟨⟨h.no, by simp [St.newIdX, h.nid], h.sp, h.ity, h.wr, h.obj, h.shp, h.dead, h.lt⟩, fun _ _ => ⟨rfl, rfl⟩, fun _ _ => ⟨rfl, rfl⟩⟩
theorem Stp.spend (h : Frm D A X) (k : Nat) : Stp D A X { A with spent := A.spent.set k () } { X with spent := X.spent.set k () } :=
  ⟨⟨h.no, h.nid, fun i => by simp only [PM.get_set, h.sp], h.ity, h.wr, h.obj, h.shp, h.dead, h.lt⟩, fun _ _ => ⟨rfl, rfl⟩, fun _ _ => ⟨rfl, rfl⟩⟩

/-- Callees do the same. -/
noncomputable def CallFrm (call : CallFn) : Prop := ∀ (D : Nat → Prop) A X g args r A', Frm D A X → call g args A = some (r, A') → Does D A X r A' (call g args X)

theorem Does.val (h : Frm D A X) (e : some (v, A) = some (v, A')) : Does D A X v A' (some (v, X)) := by
  simp at e; subst e; exact ⟨X, rfl, Stp.refl h⟩
theorem some_does {x : AV} {A1 X1 : St} (k : Stp D A X A1 X1) (h : some (x, A1) = some (v, A')) : Does D A X v A' (some (x, X1)) := by
  simp only [Option.some.injEq, Prod.mk.injEq] at h
  obtain ⟨rfl, rfl⟩ := h
  exact ⟨X1, rfl, k⟩
theorem none_does {Y : Option (AV × St)} (h : (none : Option (AV × St)) = some (v, A')) : Does D A X v A' Y := by simp at h
theorem map_does {α : Type} {M : Option α} {f : α → AV} (k : Frm D A X) (h : M.map (fun a => (f a, A)) = some (v, A')) : Does D A X v A' (M.map fun a => (f a, X)) := by
  simp only [Option.map_eq_some_iff, Prod.mk.injEq] at h
  obtain ⟨a, h1, rfl, rfl⟩ := h
  exact ⟨X, by rw [h1]; rfl, Stp.refl k⟩
theorem ite_does {c : Bool} {Y Z Y2 Z2 : Option (AV × St)} (hx : Y = some (v, A') → Does D A X v A' Y2) (hy : Z = some (v, A') → Does D A X v A' Z2) (h : (bif c then Y else Z) = some (v, A')) : Does D A X v A' (bif c then Y2 else Z2) := by
  cases c
  · exact hy h
  · exact hx h
/-- What is read of an object. -/
theorem obj_does {l : Nat} {f f2 : List AV → Option (AV × St)} (k : Frm D A X) (hf : ∀ cs, ¬ D l → A.obj l = some cs → f cs = some (v, A') → Does D A X v A' (f2 cs))
    (h : (match A.obj l with | some cs => f cs | none => none) = some (v, A')) : Does D A X v A' (match X.obj l with | some cs => f2 cs | none => none) := by
  cases ho : A.obj l with
  | none => simp [ho] at h
  | some cs =>
    obtain ⟨h1, h2⟩ := k.objc ho
    rw [h2]
    rw [ho] at h
    exact hf cs h1 ho h

theorem loadA_does {t : TypeId} {x : AV} (k : Frm D A X) (h : loadA E t x A = some (v, A')) : Does D A X v A' (loadA E t x X) := by
  unfold loadA at *
  cases x with
  | ptr l off => exact obj_does k (fun cs _ _ h => map_does (f := id) k h) h
  | eptr cs off => exact map_does (f := id) k h
  | _ => simp at h
theorem storeA_does {t : TypeId} {x y : AV} (k : Frm D A X) (h : storeA E t x y A = some (v, A')) : Does D A X v A' (storeA E t x y X) := by
  unfold storeA at *
  cases x with
  | ptr l off =>
    cases hy : cellsOf y with
    | none => simp [hy] at h
    | some vs =>
      cases hi : E.inf t with
      | none => simp [hy, hi] at h
      | some i =>
        simp only [hy, hi] at h ⊢
        exact obj_does k (fun cs hd _ h => ite_does (some_does (Stp.put k hd _)) none_does h) h
  | _ => simp at h

theorem sliceA_does {t : TypeId} {x : AV} {lo hi : Option AV} (k : Frm D A X) (h : sliceA E t x lo hi A = some (v, A')) : Does D A X v A' (sliceA E t x lo hi X) := by
  cases x with
  | ptr l off =>
    simp only [sliceA] at h ⊢
    cases ho : A.obj l with
    | none =>
      rw [ho] at h
      revert h
      repeat' (first | exact none_does | exact some_does (Stp.refl k) | exact map_does k | exact map_does (f := id) k | refine ite_does ?_ ?_ | contradiction | split)
    | some cs =>
      obtain ⟨_, h2⟩ := k.objc ho
      rw [ho] at h
      rw [h2]
      revert h
      repeat' (first | exact none_does | exact some_does (Stp.refl k) | exact map_does k | exact map_does (f := id) k | refine ite_does ?_ ?_ | contradiction | split)
  | _ =>
    simp only [sliceA] at h ⊢
    revert h
    repeat' (first | exact none_does | exact some_does (Stp.refl k) | exact map_does k | exact map_does (f := id) k | refine ite_does ?_ ?_ | contradiction | split)
theorem slice3A_does {t : TypeId} {x : AV} {lo : Option AV} {hi mx : AV} (k : Frm D A X) (h : slice3A E t x lo hi mx A = some (v, A')) : Does D A X v A' (slice3A E t x lo hi mx X) := by
  simp only [slice3A] at h ⊢
  revert h
  repeat' (first | exact none_does | exact some_does (Stp.refl k) | exact map_does k | exact map_does (f := id) k | refine ite_does ?_ ?_ | contradiction | split)
theorem osl_frm {agg : Bool} {l sz off len : Nat} {xs : List AV} (k : Frm D A X) (h : A.oslElems agg l sz off len = some xs) : X.oslElems agg l sz off len = some xs := by
  unfold St.oslElems at *
  cases ho : A.obj l with
  | none => simp [ho] at h
  | some cs =>
    rw [(k.objc ho).2]
    rw [ho] at h
    exact h
theorem convertA_does {mu : Bool} {t u : TypeId} {x : AV} (k : Frm D A X) (h : convertA E mu t u x A = some (v, A')) : Does D A X v A' (convertA E mu t u x X) := by
  unfold convertA at h ⊢
  refine ite_does (fun h => ?_) (fun h => ?_) h
  · simp only [k.nid]
    revert h
    repeat' (first | exact some_does (Stp.newIdX k) | exact none_does | exact some_does (Stp.refl k) | exact map_does k | exact map_does (f := id) k | refine ite_does ?_ ?_ | contradiction | split)
  · cases x with
    | ptr l off =>
      simp only at h ⊢
      cases ho : A.obj l with
      | none =>
        simp only [ho] at h
        revert h
        repeat' (first | exact none_does | exact some_does (Stp.refl k) | exact map_does k | exact map_does (f := id) k | refine ite_does ?_ ?_ | contradiction | split)
      | some cs =>
        obtain ⟨h1, h2⟩ := k.objc ho
        simp only [ho] at h
        simp only [h2, k.shp l h1]
        revert h
        repeat' (first | exact none_does | exact some_does (Stp.refl k) | exact map_does k | exact map_does (f := id) k | refine ite_does ?_ ?_ | contradiction | split)
    | osl l sz off len room =>
      simp only at h ⊢
      cases ho : A.oslElems false l sz off len with
      | none =>
        simp only [ho] at h
        revert h
        repeat' (first | exact none_does | exact some_does (Stp.refl k) | exact map_does k | exact map_does (f := id) k | refine ite_does ?_ ?_ | contradiction | split)
      | some xs =>
        simp only [ho] at h
        simp only [osl_frm k ho]
        revert h
        repeat' (first | exact none_does | exact some_does (Stp.refl k) | exact map_does k | exact map_does (f := id) k | refine ite_does ?_ ?_ | contradiction | split)
    | _ =>
      simp only at h ⊢
      revert h
      repeat' (first | exact none_does | exact some_does (Stp.refl k) | exact map_does k | exact map_does (f := id) k | refine ite_does ?_ ?_ | contradiction | split)
theorem buildA_does {t : TypeId} {ps : List (Nat × AV)} (k : Frm D A X) (h : buildA E t ps A = some (v, A')) : Does D A X v A' (buildA E t ps X) := by
  simp only [buildA] at h ⊢
  revert h
  repeat' (first | exact none_does | exact some_does (Stp.refl k) | exact map_does k | exact map_does (f := id) k | refine ite_does ?_ ?_ | contradiction | split)
theorem buildSliceA_does {t : TypeId} {len : Nat} {ps : List (Nat × AV)} (k : Frm D A X) (h : buildSliceA E t len ps A = some (v, A')) : Does D A X v A' (buildSliceA E t len ps X) := by
  simp only [buildSliceA] at h ⊢
  revert h
  repeat' (first | exact none_does | exact some_does (Stp.refl k) | exact map_does k | exact map_does (f := id) k | refine ite_does ?_ ?_ | contradiction | split)
theorem makeSliceA_does {t : TypeId} {x y : AV} (k : Frm D A X) (h : makeSliceA E t x y A = some (v, A')) : Does D A X v A' (makeSliceA E t x y X) := by
  simp only [makeSliceA, k.nid] at h ⊢
  revert h
  repeat' (first | exact some_does (Stp.newId k _) | exact none_does | exact some_does (Stp.refl k) | exact map_does k | exact map_does (f := id) k | refine ite_does ?_ ?_ | contradiction | split)
theorem nextA_does {x : AV} {b : Bool} (k : Frm D A X) (h : nextA x b A = some (v, A')) : Does D A X v A' (nextA x b X) := by
  unfold nextA at *
  split at h
  · rename_i l
    split at h
    · rename_i s pos ho
      obtain ⟨h1, h2⟩ := k.get ho (by simp)
      simp only [h2]
      exact ite_does (some_does (Stp.put k h1 _)) (some_does (Stp.refl k)) h
    · simp at h
  · simp at h
theorem lookupA_does {t : TypeId} {x ix : AV} {b : Bool} (k : Frm D A X) (h : lookupA E t x ix b A = some (v, A')) : Does D A X v A' (lookupA E t x ix b X) := by
  cases x with
  | mp l =>
    simp only [lookupA] at h ⊢
    cases ho : A.map l with
    | none =>
      simp only [ho] at h
      revert h
      repeat' (first | exact none_does | exact some_does (Stp.refl k) | exact map_does k | exact map_does (f := id) k | refine ite_does ?_ ?_ | contradiction | split)
    | some es =>
      obtain ⟨_, h2⟩ := k.mapc ho
      simp only [ho] at h
      simp only [h2]
      revert h
      repeat' (first | exact none_does | exact some_does (Stp.refl k) | exact map_does k | exact map_does (f := id) k | refine ite_does ?_ ?_ | contradiction | split)
  | sc u =>
    cases u with
    | map r =>
      cases r with
      | none =>
        simp only [lookupA] at h ⊢
        revert h
        repeat' (first | exact none_does | exact some_does (Stp.refl k) | exact map_does k | exact map_does (f := id) k | refine ite_does ?_ ?_ | contradiction | split)
      | some r =>
        simp only [lookupA] at h ⊢
        revert h
        repeat' (first | exact none_does | exact some_does (Stp.refl k) | exact map_does k | exact map_does (f := id) k | refine ite_does ?_ ?_ | contradiction | split)
    | _ =>
      simp only [lookupA] at h ⊢
      revert h
      repeat' (first | exact none_does | exact some_does (Stp.refl k) | exact map_does k | exact map_does (f := id) k | refine ite_does ?_ ?_ | contradiction | split)
  | _ =>
    simp only [lookupA] at h ⊢
    revert h
    repeat' (first | exact none_does | exact some_does (Stp.refl k) | exact map_does k | exact map_does (f := id) k | refine ite_does ?_ ?_ | contradiction | split)
theorem mapUpdateA_does {t : TypeId} {m i x : AV} (k : Frm D A X) (h : mapUpdateA E t m i x A = some (v, A')) : Does D A X v A' (mapUpdateA E t m i x X) := by
  unfold mapUpdateA at *
  split at h
  · rename_i h1 h2
    split at h
    · rename_i h3 ho
      obtain ⟨g1, g2⟩ := k.mapc ho
      simp only [h1, h2, h3, g2]
      exact ite_does (some_does (Stp.put k g1 _)) none_does h
    · simp at h
  · simp at h
theorem deleteA_does {ats : List TypeId} {xs : List AV} (k : Frm D A X) (h : deleteA E ats xs A = some (v, A')) : Does D A X v A' (deleteA E ats xs X) := by
  unfold deleteA at *
  split at h
  · split at h
    · rename_i h1 h2
      split at h
      · rename_i h3 ho
        obtain ⟨g1, g2⟩ := k.mapc ho
        simp only [h1, h2, h3, g2]
        exact ite_does (some_does (Stp.put k g1 _)) none_does h
      · simp at h
    · simp at h
  · simp at h
theorem srcCells_frm {sz n : Nat} {x : AV} {vs : List AV} (k : Frm D A X) (h : srcCells A sz n x = some vs) : srcCells X sz n x = some vs := by
  unfold srcCells at *
  split at h
  · exact h
  · rename_i l sz' off len room
    cases ho : A.obj l with
    | none => simp [ho] at h
    | some cs =>
      simp only [(k.objc ho).2]
      rw [ho] at h
      exact h
  · exact h
  · simp at h
theorem copyA_does {ats : List TypeId} {xs : List AV} (k : Frm D A X) (h : copyA E ats xs A = some (v, A')) : Does D A X v A' (copyA E ats xs X) := by
  unfold copyA at *
  split at h
  · split at h
    · split at h
      · rename_i h1 h2 h3 _ _ _ _ _ _ hi hs ho
        obtain ⟨g1, g2⟩ := k.objc ho
        simp only [h1, h2, h3, hi, srcCells_frm k hs, g2]
        exact ite_does (some_does (Stp.put k g1 _)) none_does h
      · simp at h
    · simp at h
  · simp at h
theorem clearA_does {ats : List TypeId} {xs : List AV} (k : Frm D A X) (h : clearA E ats xs A = some (v, A')) : Does D A X v A' (clearA E ats xs X) := by
  unfold clearA at *
  split at h
  · rename_i t l sz off len room
    cases ho : A.obj l with
    | none =>
      simp only [ho] at h
      revert h
      repeat' (first | exact none_does | exact some_does (Stp.refl k) | exact map_does k | exact map_does (f := id) k | refine ite_does ?_ ?_ | contradiction | split)
    | some cs =>
      obtain ⟨h1, h2⟩ := k.objc ho
      simp only [ho] at h
      simp only [h2]
      revert h
      repeat' (first | exact some_does (Stp.put k h1 _) | exact none_does | exact some_does (Stp.refl k) | exact map_does k | exact map_does (f := id) k | refine ite_does ?_ ?_ | contradiction | split)
  · simp at h
theorem newSlice_does {mu : Bool} {e : TypeId} {sz : Nat} {xs : List AV} (k : Frm D A X) (h : newSlice mu e sz xs A = some (v, A')) : Does D A X v A' (newSlice mu e sz xs X) := by
  simp only [newSlice, k.nid, k.no] at h ⊢
  revert h
  repeat' (first | exact some_does (Stp.newId k _) | exact some_does (Stp.newRaw k _) | exact none_does | exact some_does (Stp.refl k) | exact map_does k | exact map_does (f := id) k | refine ite_does ?_ ?_ | contradiction | split)
theorem appendOsl_does {sz l off len room : Nat} {ys : List AV} (k : Frm D A X) (h : appendOsl sz l off len room ys A = some (v, A')) : Does D A X v A' (appendOsl sz l off len room ys X) := by
  unfold appendOsl at *
  cases ho : A.obj l with
  | none =>
    simp only [ho] at h
    revert h
    repeat' (first | exact none_does | exact some_does (Stp.refl k) | exact map_does k | exact map_does (f := id) k | refine ite_does ?_ ?_ | contradiction | split)
  | some cs =>
    obtain ⟨h1, h2⟩ := k.objc ho
    simp only [ho] at h
    simp only [h2, k.no]
    revert h
    repeat' (first | exact some_does (Stp.put k h1 _) | exact some_does ((Stp.put k h1 _).trans (Stp.newRaw (Stp.put k h1 _).frm _)) | exact none_does | exact some_does (Stp.refl k) | exact map_does k | exact map_does (f := id) k | refine ite_does ?_ ?_ | contradiction | split)
theorem appendXs_does {mu : Bool} {e : TypeId} {ti : TypeInfo} {s : AV} {ys : List AV} (k : Frm D A X) (h : appendXs mu e ti s ys A = some (v, A')) : Does D A X v A' (appendXs mu e ti s ys X) := by
  simp only [appendXs, k.live, k.ityIs, k.nid] at h ⊢
  revert h
  repeat' (first | exact newSlice_does k | exact appendOsl_does k | exact some_does ((Stp.newId k _).trans (Stp.spend (Stp.newId k _).frm _)) | exact none_does | exact some_does (Stp.refl k) | exact map_does k | exact map_does (f := id) k | refine ite_does ?_ ?_ | contradiction | split)
theorem elemsS_frm {agg : Bool} {n : Nat} {x : AV} {xs : List AV} (k : Frm D A X) (h : elemsS A agg n x = some xs) : elemsS X agg n x = some xs := by
  unfold elemsS at *
  split at h
  · simp only [cond_eq_ite] at h ⊢
    split at h
    · rename_i hb
      rw [if_pos hb]
      exact osl_frm k h
    · simp at h
  · exact h
theorem appendA_does {mu agg : Bool} {e : TypeId} {ti : TypeInfo} {s x : AV} (k : Frm D A X) (h : appendA mu agg e ti s x A = some (v, A')) : Does D A X v A' (appendA mu agg e ti s x X) := by
  unfold appendA at *
  split at h
  · simp at h
  · rename_i ys hy
    rw [elemsS_frm k hy]
    exact appendXs_does k h
theorem builtinA_does {mu : Bool} {b : Builtin} {ats : List TypeId} {xs : List AV} (k : Frm D A X) (h : builtinA E mu b ats xs A = some (v, A')) : Does D A X v A' (builtinA E mu b ats xs X) := by
  cases b with
  | copy => exact copyA_does k h
  | clear => exact clearA_does k h
  | delete => exact deleteA_does k h
  | append =>
    simp only [builtinA] at h ⊢
    revert h
    repeat' (first | exact appendA_does k | exact appendXs_does k | exact none_does | exact some_does (Stp.refl k) | exact map_does k | exact map_does (f := id) k | refine ite_does ?_ ?_ | contradiction | split)
  | unsafeString =>
    simp only [builtinA, k.ity] at h ⊢
    revert h
    repeat' (first | exact none_does | exact some_does (Stp.refl k) | exact map_does k | exact map_does (f := id) k | refine ite_does ?_ ?_ | contradiction | split)
  | len =>
    match ats, xs, h with
    | [t], [x], h =>
      cases x with
      | mp l =>
        simp only [builtinA] at h ⊢
        cases ho : A.map l with
        | none =>
          simp only [ho, Option.map_none] at h
          revert h
          repeat' (first | exact map_does (f := fun n : Nat => AV.sc (.int .i64 n)) k | exact none_does | exact some_does (Stp.refl k) | exact map_does k | exact map_does (f := id) k | refine ite_does ?_ ?_ | contradiction | split)
        | some es =>
          obtain ⟨h1, h2⟩ := k.mapc ho
          simp only [ho, Option.map_some] at h
          simp only [h2, Option.map_some]
          revert h
          repeat' (first | exact map_does (f := fun n : Nat => AV.sc (.int .i64 n)) k | exact none_does | exact some_does (Stp.refl k) | exact map_does k | exact map_does (f := id) k | refine ite_does ?_ ?_ | contradiction | split)
      | _ =>
        simp only [builtinA] at h ⊢
        revert h
        repeat' (first | exact map_does (f := fun n : Nat => AV.sc (.int .i64 n)) k | exact none_does | exact some_does (Stp.refl k) | exact map_does k | exact map_does (f := id) k | refine ite_does ?_ ?_ | contradiction | split)
    | [], _, h => simp [builtinA] at h
    | [_], [], h => simp [builtinA] at h
    | [_], _ :: _ :: _, h => simp [builtinA] at h
    | _ :: _ :: _, _, h => simp [builtinA] at h
  | _ =>
    simp only [builtinA] at h ⊢
    revert h
    repeat' (first | exact map_does (f := fun x => ofV x) k | exact none_does | exact some_does (Stp.refl k) | exact map_does k | exact map_does (f := id) k | refine ite_does ?_ ?_ | contradiction | split)

theorem callA_does {mu : Bool} {c : Call} (hc : CallFrm call) (k : Frm D A X) (h : callA E mu call tm c A = some (v, A')) : Does D A X v A' (callA E mu call tm c X) := by
  obtain ⟨callee, args, ats⟩ := c
  simp only [callA] at h ⊢
  cases callee with
  | value f =>
    simp only at h ⊢
    split at h
    · split at h
      · exact map_does (f := id) k h
      · exact hc D A X _ _ _ _ k h
    · simp at h
  | invoke r m =>
    simp only at h ⊢
    split at h
    · split at h
      · split at h
        · simp at h
        · exact hc D A X _ _ _ _ k h
      · simp at h
    · simp at h
  | builtin b => exact builtinA_does k h

theorem plain_does (hc : CallFrm call) (o : Oper) (k : Frm D A X) (h : evPlain E call tm o A = some (v, A')) : Does D A X v A' (evPlain E call tm o X) := by
  obtain ⟨dst, op, ty, pos, after, guard⟩ := o
  cases op with
  | load t x => exact loadA_does k h
  | store t x y => exact storeA_does k h
  | slice t x lo hi mx =>
    cases mx with
    | some m =>
      cases hi with
      | none => simp [evPlain] at h
      | some hi => exact slice3A_does k h
    | none => exact sliceA_does k h
  | convert t u x => exact convertA_does k h
  | build t ps => exact buildA_does k h
  | buildSlice t n ps => exact buildSliceA_does k h
  | makeSlice t x y => exact makeSliceA_does k h
  | lookup t x ix b => exact lookupA_does k h
  | mapUpdate t x y z => exact mapUpdateA_does k h
  | insert t x y z => exact mapUpdateA_does k h
  | next x b => exact nextA_does k h
  | call c => exact callA_does hc k h
  | _ => first
    | (simp [evPlain] at h; done)
    | exact ⟨X, (plain_any (S2 := X) _ (by trivial) h).2, by rw [(plain_any (S2 := X) _ (by trivial) h).1]; exact Stp.refl k⟩

theorem op_does (hc : CallFrm call) (o : Oper) (k : Frm D A X) (h : evOp E call tm o A = some (v, A')) : Does D A X v A' (evOp E call tm o X) := by
  unfold evOp at *
  refine ite_does (fun h => ?_) (fun h => plain_does hc o k h) h
  simp only [Option.map_eq_some_iff, Prod.mk.injEq] at h
  obtain ⟨m, h1, rfl, rfl⟩ := h
  exact ⟨_, by rw [h1, Option.map_some, k.no], Stp.bearNext k m⟩

theorem seq_does (hc : CallFrm call) {nt : Nat} {ops : Array Oper} : ∀ (rest : List Oper) (tm tm' : PM AV) (A A' X : St), Frm D A X → evSeq E call nt ops rest tm A = some (tm', A') → ∃ X', evSeq E call nt ops rest tm X = some (tm', X') ∧ Stp D A X A' X'
  | [], tm, tm', A, A', X, k, h => by
    simp only [evSeq, Option.some.injEq, Prod.mk.injEq] at h
    obtain ⟨rfl, rfl⟩ := h
    exact ⟨X, rfl, Stp.refl k⟩
  | o :: r, tm, tm', A, A', X, k, h => by
    simp only [evSeq] at h ⊢
    split at h
    · simp at h
    · rename_i hw
      split at h
      · rename_i tm1 hp
        try simp only [hw, hp]
        exact seq_does hc r _ _ _ _ _ k h
      · simp at h
    · rename_i hw
      split at h
      · simp at h
      · rename_i v S1 hev
        obtain ⟨X1, h1, k1⟩ := op_does hc o k hev
        split at h
        · rename_i tm1 hp
          obtain ⟨X2, h2, k2⟩ := seq_does hc r _ _ _ _ _ k1.frm h
          try simp only [hw, h1, hp, h2]
          exact ⟨X2, rfl, k1.trans k2⟩
        · simp at h

theorem Frm.outOf (k : Frm D A X) {mk : Nat → Bool} {m : PM Nat} {b0 j l : Nat} (hD : ∀ l, D l → l < b0) : Abs.outOf mk m b0 j A l ↔ Abs.outOf mk m b0 j X l := by
  unfold Abs.outOf
  by_cases hd : D l
  · have := hD l hd
    constructor <;> (rintro ⟨i, h1, h2, _⟩; omega)
  · rw [k.obj l hd]
theorem Frm.masked (k : Frm D A X) {mk : Nat → Bool} {m : PM Nat} {b0 j : Nat} (hD : ∀ l, D l → l < b0) : Frm D (A.masked mk m b0 j) (X.masked mk m b0 j) := by
  refine ⟨k.no, k.nid, k.sp, k.ity, k.wr, fun l hl => ?_, k.shp, fun l hl => ?_, k.lt⟩
  · by_cases ho : Abs.outOf mk m b0 j A l
    · rw [masked_out ho, masked_out ((k.outOf hD).1 ho)]
    · rw [masked_in ho, masked_in (fun h => ho ((k.outOf hD).2 h))]
      exact k.obj l hl
  · have : ¬ Abs.outOf mk m b0 j A l := by rintro ⟨i, h1, h2, _⟩; have := hD l hl; omega
    rw [masked_in this]
    exact k.dead l hl
theorem Stp.unmasked (k : Frm D A X) {mk : Nat → Bool} {m : PM Nat} {b0 j : Nat} (hD : ∀ l, D l → l < b0) (h : Stp D (A.masked mk m b0 j) (X.masked mk m b0 j) A' X') : Stp D A X (A'.unmasked A mk m b0 j) (X'.unmasked X mk m b0 j) := by
  have na : ∀ l, D l → ¬ Abs.outOf mk m b0 j A l := fun l hl => by rintro ⟨i, h1, h2, _⟩; have := hD l hl; omega
  have nx : ∀ l, D l → ¬ Abs.outOf mk m b0 j X l := fun l hl => by rintro ⟨i, h1, h2, _⟩; have := hD l hl; omega
  refine ⟨⟨h.frm.no, h.frm.nid, h.frm.sp, h.frm.ity, h.frm.wr, fun l hl => ?_, h.frm.shp, fun l hl => ?_, h.frm.lt⟩, fun l hl => ⟨?_, (h.kx l hl).2⟩, fun l hl => ⟨?_, (h.ka l hl).2⟩⟩
  · by_cases ho : Abs.outOf mk m b0 j A l
    · rw [unmasked_out ho, unmasked_out ((k.outOf hD).1 ho)]
      exact k.obj l hl
    · rw [unmasked_in ho, unmasked_in (fun h => ho ((k.outOf hD).2 h))]
      exact h.frm.obj l hl
  · rw [unmasked_in (na l hl)]; exact h.frm.dead l hl
  · rw [unmasked_in (nx l hl), (h.kx l hl).1, masked_in (nx l hl)]
  · rw [unmasked_in (na l hl), (h.ka l hl).1, masked_in (na l hl)]

theorem sameAt_frm {D : Nat → Prop} {A X A' X' : St} (k : Frm D A X) (k' : Frm D A' X') {q : Option (TypeId × Nat)} {l : Nat} (h : sameAt E q l A A' = true) : sameAt E q l X X' = true := by
  unfold sameAt at h ⊢
  split at h
  · split at h
    · rename_i h1 h2
      rw [(k.objc h1).2, (k'.objc h2).2]
      exact h
    · cases h
  · cases h
theorem drawGo_does (hc : CallFrm call) {nt : Nat} {ops : Array Oper} {m : PM Nat} {b0 : Nat} (hD : ∀ l, D l → l < b0) : ∀ (rest : List Oper) (i : Nat) (tm tm' : PM AV) (A A' X : St) (hi : List (Nat × St × St)) (ls : List (Nat × Nat × Option (TypeId × Nat))), Frm D A X →
    evDrawGo E call nt ops m b0 i rest tm A = some (tm', A', hi, ls) → ∃ X' hi', evDrawGo E call nt ops m b0 i rest tm X = some (tm', X', hi', ls) ∧ Stp D A X A' X' ∧ ∀ n p, loadOk E ops m b0 n hi p = true → loadOk E ops m b0 n hi' p = true
  | [], i, tm, tm', A, A', X, hi, ls, k, h => by
    simp only [evDrawGo, Option.some.injEq, Prod.mk.injEq] at h
    obtain ⟨rfl, rfl, rfl, rfl⟩ := h
    exact ⟨X, [], rfl, Stp.refl k, fun _ _ h => h⟩
  | o :: r, i, tm, tm', A, A', X, hi, ls, k, h => by
    simp only [evDrawGo] at h ⊢
    split at h
    · simp at h
    · rename_i hw
      split at h
      · rename_i tm1 hp
        try simp only [hw, hp]
        exact drawGo_does hc hD r _ _ _ _ _ _ _ _ k h
      · simp at h
    · rename_i hw
      try simp only [hw]
      cases hm : isMk E o with
      | true =>
        simp only [hm, cond_true] at h ⊢
        split at h
        · simp at h
        · rename_i mk hmk
          split at h
          · rename_i tm1 hp
            have k1 := Stp.bear k (n := b0 + i) (fun hd => by have := hD _ hd; omega) mk
            obtain ⟨X2, hi', h2, k2, k3⟩ := drawGo_does hc hD r _ _ _ _ _ _ _ _ k1.frm h
            try simp only [hmk, hp, h2]
            exact ⟨X2, hi', rfl, k1.trans k2, k3⟩
          · simp at h
      | false =>
        simp only [hm, cond_false] at h ⊢
        cases hq : loudOp E o.op with
        | true =>
          simp only [hq, cond_true] at h ⊢
          split at h
          · simp at h
          · rename_i v S1 hev
            obtain ⟨X1, h1, k1⟩ := plain_does hc o (k.masked hD) hev
            split at h
            · rename_i tm1 hp
              split at h
              · rename_i tm2 S2 hist ls2 hgo
                have k2 := Stp.unmasked k hD k1
                obtain ⟨X2, hi', h2, k3, k4⟩ := drawGo_does hc hD r _ _ _ _ _ _ _ _ k2.frm hgo
                simp only [Option.some.injEq, Prod.mk.injEq] at h
                obtain ⟨rfl, rfl, rfl, rfl⟩ := h
                try simp only [h1, hp, h2]
                refine ⟨X2, _, rfl, k2.trans k3, fun n p hp2 => ?_⟩
                have k5 := k4 n p
                simp only [loadOk, List.all_cons, Bool.and_eq_true] at hp2 k5 ⊢
                have e1 : X.no = A.no := k.no
                have e2 : X.ver p.2.1 = A.ver p.2.1 := k.ver p.2.1
                have e3 : (X1.unmasked X (mkAt E ops) m b0 i).ver p.2.1 = (S1.unmasked A (mkAt E ops) m b0 i).ver p.2.1 := k2.frm.ver p.2.1
                obtain ⟨⟨h1, h2⟩, h3⟩ := hp2
                obtain ⟨k6, k7⟩ := k5 ⟨h2, h3⟩
                refine ⟨⟨?_, k6⟩, k7⟩
                rw [e1, e2, e3]
                simp only [Bool.or_eq_true] at h1 ⊢
                rcases h1 with h1 | h1
                · exact .inl h1
                · exact .inr (sameAt_frm k k2.frm h1)
              · simp at h
            · simp at h
        | false =>
          simp only [hq, cond_false] at h ⊢
          split at h
          · simp at h
          · rename_i v S1 hev
            obtain ⟨X1, h1, k1⟩ := plain_does hc o k hev
            split at h
            · rename_i tm1 hp
              split at h
              · rename_i tm2 S2 hist ls2 hgo
                obtain ⟨X2, hi', h2, k3, k4⟩ := drawGo_does hc hD r _ _ _ _ _ _ _ _ k1.frm hgo
                simp only [Option.some.injEq, Prod.mk.injEq] at h
                obtain ⟨rfl, rfl, rfl, rfl⟩ := h
                try simp only [h1, hp, h2]
                exact ⟨X2, hi', rfl, k1.trans k3, k4⟩
              · simp at h
            · simp at h

theorem draw_does (hc : CallFrm call) {nt : Nat} {ops : Array Oper} {tm' : PM AV} (k : Frm D A X) (h : evDraw E call nt ops tm A = some (tm', A')) : ∃ X', evDraw E call nt ops tm X = some (tm', X') ∧ Stp D A X A' X' := by
  simp only [evDraw, cond_eq_ite] at h ⊢
  split at h
  · rename_i hp
    split at h
    · rename_i hgo
      split at h
      · rename_i hl
        simp only [Option.some.injEq, Prod.mk.injEq] at h
        obtain ⟨rfl, rfl⟩ := h
        have k0 := Stp.raise k (n := A.no + ops.size) (Nat.le_add_right _ _)
        obtain ⟨X', hi', h1, k1, k2⟩ := drawGo_does hc (fun l hl => k.lt l hl) _ _ _ _ _ _ _ _ _ k0.frm hgo
        rw [if_pos hp, k.no]
        try simp only [h1]
        refine ⟨X', ?_, k0.trans k1⟩
        rw [if_pos]
        exact List.all_eq_true.2 fun p hp => k2 _ p (List.all_eq_true.1 hl p hp)
      · simp at h
    · simp at h
  · simp at h

noncomputable def MFrm (M : Code → Option Run) : Prop := ∀ c r, M c = some r → ∀ (D : Nat → Prop) tm tm' A A' X o, Frm D A X → r tm A = some (o, tm', A') → ∃ X', r tm X = some (o, tm', X') ∧ Stp D A X A' X'
set_option maxHeartbeats 2000000 in
theorem code_does {M : Code → Option Run} (hc : CallFrm call) (hM : MFrm M) {lf nt : Nat} : ∀ (c : Code) (tm tm' : PM AV) (A A' X : St) (o : Out), Frm D A X → evC M E call lf nt c tm A = some (o, tm', A') → ∃ X', evC M E call lf nt c tm X = some (o, tm', X') ∧ Stp D A X A' X' := by
  intro c
  induction c with
  | region id ops draw =>
    intro tm tm' A A' X o k h
    cases draw with
    | false =>
      simp only [evC] at h ⊢
      split at h
      · rename_i h1
        simp only [Option.some.injEq, Prod.mk.injEq] at h
        obtain ⟨rfl, rfl, rfl⟩ := h
        obtain ⟨X', g1, g2⟩ := seq_does hc _ _ _ _ _ _ k h1
        rw [g1]
        exact ⟨X', rfl, g2⟩
      · simp at h
    | true =>
      simp only [evC] at h ⊢
      split at h
      · rename_i h1
        simp only [Option.some.injEq, Prod.mk.injEq] at h
        obtain ⟨rfl, rfl, rfl⟩ := h
        obtain ⟨X', g1, g2⟩ := draw_does hc k h1
        rw [g1]
        exact ⟨X', rfl, g2⟩
      · simp at h
  | seq x y ihx ihy =>
    intro tm tm' A A' X o k h
    simp only [evC] at h ⊢
    split at h
    · rename_i r hr
      exact hM _ _ hr _ _ _ _ _ _ _ k h
    rename_i hMn
    split at h
    · rename_i h1
      obtain ⟨X1, g1, g2⟩ := ihx _ _ _ _ _ _ k h1
      obtain ⟨X2, g3, g4⟩ := ihy _ _ _ _ _ _ g2.frm h
      rw [g1]
      exact ⟨X2, g3, g2.trans g4⟩
    · rename_i hne
      obtain ⟨X1, g1, g2⟩ := ihx _ _ _ _ _ _ k h
      rw [g1]
      refine ⟨X1, ?_, g2⟩
      cases o with
      | nrm => exact absurd h (hne _ _)
      | exit id => rfl
      | ret => rfl
  | cond c x y ihx ihy =>
    intro tm tm' A A' X o k h
    simp only [evC] at h ⊢
    split at h
    · exact ihx _ _ _ _ _ _ k h
    · exact ihy _ _ _ _ _ _ k h
    · simp at h
  | block id c ih =>
    intro tm tm' A A' X o k h
    simp only [evC] at h ⊢
    split at h
    · rename_i h1
      obtain ⟨X1, g1, g2⟩ := ih _ _ _ _ _ _ k h1
      rw [g1]
      simp only [cond_eq_ite] at h ⊢
      split at h
      · rename_i hb
        simp only [Option.some.injEq, Prod.mk.injEq] at h
        obtain ⟨rfl, rfl, rfl⟩ := h
        exact ⟨X1, by simp [hb], g2⟩
      · rename_i hb
        simp only [Option.some.injEq, Prod.mk.injEq] at h
        obtain ⟨rfl, rfl, rfl⟩ := h
        exact ⟨X1, by simp [hb], g2⟩
    · rename_i hne
      obtain ⟨X1, g1, g2⟩ := ih _ _ _ _ _ _ k h
      rw [g1]
      refine ⟨X1, ?_, g2⟩
      cases o with
      | nrm => rfl
      | exit id => exact absurd h (hne _ _ _)
      | ret => rfl
  | loop c ih =>
    intro tm tm' A A' X o k h
    simp only [evC] at h ⊢
    generalize lf = lf' at h ih ⊢
    have key : ∀ (n : Nat) (tm tm' : PM AV) (A A' X : St) (o : Out), Frm D A X → iter (evC M E call lf' nt c) n tm A = some (o, tm', A') → ∃ X', iter (evC M E call lf' nt c) n tm X = some (o, tm', X') ∧ Stp D A X A' X' := by
      intro n
      induction n with
      | zero => intro tm tm' A A' X o k h; simp [iter] at h
      | succ n ihn =>
        intro tm tm' A A' X o k h
        simp only [iter] at h ⊢
        split at h
        · simp at h
        · rename_i h1
          obtain ⟨X1, g1, g2⟩ := ih _ _ _ _ _ _ k h1
          obtain ⟨X2, g3, g4⟩ := ihn _ _ _ _ _ _ g2.frm h
          rw [g1]
          exact ⟨X2, g3, g2.trans g4⟩
        · rename_i h1
          obtain ⟨X1, g1, g2⟩ := ih _ _ _ _ _ _ k h1
          simp only [Option.some.injEq, Prod.mk.injEq] at h
          obtain ⟨rfl, rfl, rfl⟩ := h
          rw [g1]
          exact ⟨X1, rfl, g2⟩
        · rename_i h1
          obtain ⟨X1, g1, g2⟩ := ih _ _ _ _ _ _ k h1
          simp only [Option.some.injEq, Prod.mk.injEq] at h
          obtain ⟨rfl, rfl, rfl⟩ := h
          rw [g1]
          exact ⟨X1, rfl, g2⟩
    exact key _ _ _ _ _ _ _ k h
  | scope c ih => intro tm tm' A A' X o k h; simp only [evC] at h ⊢; exact ih _ _ _ _ _ _ k h
  | skip | label _ | exit _ | ret =>
    intro tm tm' A A' X o k h
    simp only [evC, Option.some.injEq, Prod.mk.injEq] at h ⊢
    obtain ⟨rfl, rfl, rfl⟩ := h
    exact ⟨X, ⟨rfl, rfl, rfl⟩, Stp.refl k⟩
  | _ => intro tm tm' A A' X o k h; simp [evC] at h

theorem round_does (hc : CallFrm call) {nt : Nat} {m : MapLoop} {run : Run} (hr : ∀ tm tm' A A' X o, Frm D A X → run tm A = some (o, tm', A') → ∃ X', run tm X = some (o, tm', X') ∧ Stp D A X A' X')
    {kk : Value} {x : AV} {tm tm' : PM AV} {o : Out} (k : Frm D A X) (h : roundA E call nt m run kk x tm A = some (o, tm', A')) : ∃ X', roundA E call nt m run kk x tm X = some (o, tm', X') ∧ Stp D A X A' X' := by
  unfold roundA at h ⊢
  split at h
  · cases h
  · rename_i tm1 e1
    split at h
    · cases h
    · rename_i tm2 S2 h1
      obtain ⟨X2, g1, k1⟩ := seq_does hc _ _ _ _ _ _ k h1
      split at h
      · rename_i e2
        split at h
        · cases h
        · rename_i tm3 e3
          split at h
          · cases h
          · rename_i tm4 S4 h2
            obtain ⟨X4, g2, k2⟩ := seq_does hc _ _ _ _ _ _ k1.frm h2
            obtain ⟨X5, g3, k3⟩ := hr _ _ _ _ _ _ k2.frm h
            simp only [g1, e2, e3, g2]
            exact ⟨X5, g3, (k1.trans k2).trans k3⟩
      · cases h
theorem last_does (hc : CallFrm call) {nt : Nat} {m : MapLoop} {tm tm' : PM AV} {o : Out} (k : Frm D A X) (h : lastA E call nt m tm A = some (o, tm', A')) : ∃ X', lastA E call nt m tm X = some (o, tm', X') ∧ Stp D A X A' X' := by
  unfold lastA at h ⊢
  split at h
  · cases h
  · rename_i tm1 e1
    split at h
    · cases h
    · rename_i tm2 S2 h1
      obtain ⟨X2, g1, k1⟩ := seq_does hc _ _ _ _ _ _ k h1
      split at h
      · rename_i e2
        simp only [Option.some.injEq, Prod.mk.injEq] at h
        obtain ⟨rfl, rfl, rfl⟩ := h
        simp only [g1, e2]
        exact ⟨X2, rfl, k1⟩
      · cases h
theorem Frm.clean (k : Frm D A X) : Frm D A.clean X.clean := ⟨k.no, k.nid, k.sp, k.ity, rfl, k.obj, k.shp, k.dead, k.lt⟩
theorem Frm.there (k : Frm D A X) {l : Nat} (h : there A l = true) : there X l = true := by
  unfold Go.Abs.there at h ⊢
  split at h
  · cases h
  · cases h
  · rename_i o hn ho
    rw [(k.get ho hn).2]
    cases o <;> first | rfl | exact absurd rfl hn
mutual
theorem Frm.oldA (k : Frm D A X) : ∀ x, oldA A x = true → oldA X x = true
  | .ptr l _, h => by simp only [Go.Abs.oldA] at h ⊢; exact k.there h
  | .osl l _ _ _ _, h => by simp only [Go.Abs.oldA] at h ⊢; exact k.there h
  | .mp l, h => by simp only [Go.Abs.oldA] at h ⊢; exact k.there h
  | .eptr cs _, h => by simp only [Go.Abs.oldA] at h ⊢; exact Frm.oldL k cs h
  | .vec _ _ xs, h => by simp only [Go.Abs.oldA] at h ⊢; exact Frm.oldL k xs h
  | .udat _ xs, h => by simp only [Go.Abs.oldA] at h ⊢; exact Frm.oldL k xs h
  | .agg cs, h => by simp only [Go.Abs.oldA] at h ⊢; exact Frm.oldL k cs h
  | .tup vs, h => by simp only [Go.Abs.oldA] at h ⊢; exact Frm.oldL k vs h
  | .fn _ a b, h => by
    simp only [Go.Abs.oldA, Bool.and_eq_true] at h ⊢
    exact ⟨Frm.oldL k a h.1, Frm.oldL k b h.2⟩
  | .ifc _ v, h => by simp only [Go.Abs.oldA] at h ⊢; exact Frm.oldA k v h
  | .undef, _ => rfl
  | .sc _, _ => rfl
theorem Frm.oldL (k : Frm D A X) : ∀ l, oldL A l = true → oldL X l = true
  | [], _ => rfl
  | x :: l, h => by
    simp only [Go.Abs.oldL, Bool.and_eq_true] at h ⊢
    exact ⟨Frm.oldA k x h.1, Frm.oldL k l h.2⟩
end
theorem still_does (k : Frm D A X) (k' : Frm D A' X') : still X X' = still A A' := by simp only [still, k'.wr, k'.nid, k.nid, k.no]
theorem one_does (hc : CallFrm call) {nt : Nat} {m : MapLoop} {ops : Array Oper} {mo ko vo : Operand} {e : Value × AV} {tm : PM AV} {l : Nat} {kk : Value} {x : AV} (k : Frm D A X)
    (h : copyOne E call nt m ops mo ko vo e tm A = some (l, kk, x, A')) : ∃ X', copyOne E call nt m ops mo ko vo e tm X = some (l, kk, x, X') ∧ Stp D A X A' X' := by
  unfold copyOne at h ⊢
  split at h
  · rename_i tm' S' hr
    obtain ⟨X', g1, k1⟩ := round_does hc (fun tm tm' A A' X o k h => by
      unfold copyRun at h ⊢
      split at h
      · rename_i h1
        simp only [Option.some.injEq, Prod.mk.injEq] at h
        obtain ⟨rfl, rfl, rfl⟩ := h
        obtain ⟨X2, g2, k2⟩ := seq_does hc _ _ _ _ _ _ k h1
        rw [g2]
        exact ⟨X2, rfl, k2⟩
      · cases h) k hr
    rw [g1]
    split at h
    · rename_i e1 e2
      simp only [Option.some.injEq, Prod.mk.injEq] at h
      obtain ⟨rfl, rfl, rfl, rfl⟩ := h
      simp only [e1, e2]
      exact ⟨X', rfl, k1⟩
    · cases h
  · cases h
theorem all_does (hc : CallFrm call) {nt : Nat} {m : MapLoop} {ops : Array Oper} {mo ko vo : Operand} {d : TypeDesc} {ld : Nat} {tm : PM AV} (k : Frm D A X) : ∀ (es acc : List (Value × AV)) {r : List (Value × AV)},
    copyAll E call nt m ops mo ko vo d ld tm A es acc = some r → copyAll E call nt m ops mo ko vo d ld tm X es acc = some r
  | [], acc, r, h => h
  | e :: es, acc, r, h => by
    simp only [copyAll] at h ⊢
    split at h
    · rename_i l kk x S' h1
      obtain ⟨X', g1, k1⟩ := one_does hc k h1
      rw [g1]
      simp only
      split at h
      · rename_i hs
        simp only [hs, cond_eq_ite] at h ⊢
        split at h
        · rename_i hb
          simp only [Bool.and_eq_true] at hb
          rw [if_pos (by simp only [Bool.and_eq_true]; exact ⟨⟨⟨hb.1.1.1, by rw [still_does k k1.frm]; exact hb.1.1.2⟩, k.oldA x hb.1.2⟩, hb.2⟩)]
          exact all_does hc k es _ h
        · cases h
      · cases h
    · cases h
theorem scan_does (hc : CallFrm call) {nt : Nat} {m : MapLoop} {run : Run} (hr : ∀ tm tm' A A' X o, Frm D A X → run tm A = some (o, tm', A') → ∃ X', run tm X = some (o, tm', X') ∧ Stp D A X A' X') {tm : PM AV} {es : List (Value × AV)} (k : Frm D A X)
    (h : scanA E call nt m run es tm A = true) : scanA E call nt m run es tm X = true := by
  unfold scanA at h ⊢
  rw [List.all_eq_true] at h ⊢
  intro e he
  have := h e he
  split at this
  · rename_i o tm' S' h1
    obtain ⟨X', g1, k1⟩ := round_does hc hr k h1
    rw [g1]
    simp only [still_does k k1.frm]
    exact this
  · cases this
set_option maxHeartbeats 2000000 in
theorem mac_does (hc : CallFrm call) {nt : Nat} {m : MapLoop} {run : Run} (hr : ∀ (D : Nat → Prop) tm tm' A A' X o, Frm D A X → run tm A = some (o, tm', A') → ∃ X', run tm X = some (o, tm', X') ∧ Stp D A X A' X') {tm tm' : PM AV} {o : Out} (k : Frm D A X)
    (h : macA E call nt m run tm A = some (o, tm', A')) : ∃ X', macA E call nt m run tm X = some (o, tm', X') ∧ Stp D A X A' X' := by
  unfold macA at h ⊢
  split at h
  · cases h
  · rename_i tm1 S1 h1
    obtain ⟨X1, g1, k1⟩ := seq_does hc _ _ _ _ _ _ k h1
    rw [g1]
    have k2 := Stp.newRaw k1.frm .dead
    have kf : ∀ l es, ¬ D l → Frm D (S1.fixed l es) (X1.fixed l es) := fun l es hl => (Stp.put (Stp.newRaw k1.frm .raw).frm hl (.mpx es)).frm.clean
    split at h
    · rename_i kt et l hu hl
      simp only [hu, hl]
      split at h
      · rename_i es tm2 hes hp
        obtain ⟨hd, hx⟩ := k1.frm.mpOf hes
        simp only [hx, k1.frm.no, hp]
        simp only [cond_eq_ite] at h ⊢
        split at h
        · cases h
        · rename_i hw
          rw [if_neg hw]
          split at h
          · rename_i hcb
            split at h
            · rename_i hs
              rw [if_pos (scan_does hc (hr D) (kf _ _ hd) hs)]
              obtain ⟨X', g3, k3⟩ := last_does hc k2.frm h
              exact ⟨X', g3, (k1.trans k2).trans k3⟩
            · cases h
          · rename_i ops T mo ko vo hcb
            split at h
            · obtain ⟨X', g3, k3⟩ := last_does hc k2.frm h
              exact ⟨X', g3, (k1.trans k2).trans k3⟩
            · rename_i e es'
              split at h
              · rename_i ld kk x S4 h4
                obtain ⟨X4, g4, k4⟩ := one_does hc (kf _ _ hd) h4
                simp only [g4]
                split at h
                · rename_i kt' et' esd hT hld
                  obtain ⟨hd2, hx2⟩ := k1.frm.mpOf hld
                  simp only [hT, hx2]
                  split at h
                  · rename_i d' hd'
                    split at h
                    · cases h
                    · rename_i hg
                      try simp only [hd']
                      rw [if_neg hg]
                      split at h
                      · rename_i es2 h5
                        rw [all_does hc (Stp.put (kf _ _ hd) hd2 .dead).frm.clean _ _ h5]
                        simp only
                        have k5 := Stp.put k2.frm hd2 (.mp es2)
                        obtain ⟨X', g3, k3⟩ := last_does hc k5.frm h
                        exact ⟨X', g3, ((k1.trans k2).trans k5).trans k3⟩
                      · cases h
                  · cases h
                · cases h
              · cases h
      · cases h
    · cases h
theorem mac0_does : MFrm mac0 := fun c r h => by simp [mac0] at h
theorem mac1_does (hc : CallFrm call) (lf nt : Nat) : MFrm (mac1 E call lf nt) := by
  intro c r h
  unfold mac1 at h
  split at h
  · rename_i m hm
    simp only [Option.some.injEq] at h
    subst h
    intro D tm tm' A A' X o k h
    refine mac_does (run := evC mac0 E call lf nt m.body) hc (fun D2 tm2 tm2' A2 A2' X2 o2 k2 h2 => ?_) k h
    exact code_does hc mac0_does m.body tm2 tm2' A2 A2' X2 o2 k2 h2
  · cases h

theorem resA_does (k : Frm D A X) {r : ResultVar} {v : AV} (h : resA E tm A r = some v) : resA E tm X r = some v := by
  cases r with
  | tmp t => exact h
  | cell x t =>
    simp only [resA] at h ⊢
    split at h
    · rename_i l off
      split at h
      · rename_i cs ho
        rw [(k.objc ho).2]
        exact h
      · simp at h
    · exact h
    · simp at h
theorem resAll_does (k : Frm D A X) : ∀ {l : List ResultVar} {vs : List AV}, resAll E tm A l = some vs → resAll E tm X l = some vs
  | [], _, h => h
  | r :: l, vs, h => by
    simp only [resAll] at h ⊢
    split at h
    · rename_i h1 h2
      rw [resA_does k h1, resAll_does k h2]
      exact h
    · simp at h

/-- What is asked of a contract that stands for a function. -/
structure FrmX (E : Env) : Prop where
  frm : ∀ f g, E.X f = some g → ∀ (D : Nat → Prop) A X args r A', Frm D A X → g args A = some (r, A') → Does D A X r A' (g args X)

theorem evF_does (hx : FrmX E) (lf : Nat) : ∀ n, CallFrm (evF E lf n) := by
  intro n
  induction n with
  | zero => intro D A X g args r A' k h; simp [evF] at h
  | succ n ih =>
    intro D A X g args r A' k h
    simp only [evF, cond_eq_ite] at h ⊢
    split at h
    · simp at h
    · split at h
      · rename_i g' hg
        exact hx.frm _ _ hg _ _ _ _ _ _ k h
      · split at h
        · simp at h
        · split at h
          · rename_i hn
            split at h
            · simp at h
            · rename_i o tm S1 hne h1
              obtain ⟨X1, g1, g2⟩ := code_does ih (mac1_does ih _ _) _ _ _ _ _ _ _ k h1
              simp only [Option.map_eq_some_iff, Prod.mk.injEq] at h
              obtain ⟨vs, h2, rfl, rfl⟩ := h
              rw [if_pos hn, g1]
              refine ⟨X1, ?_, g2⟩
              cases o with
              | exit id => exact absurd rfl (hne id)
              | nrm => simp only [resAll_does g2.frm h2]; rfl
              | ret => simp only [resAll_does g2.frm h2]; rfl
            · simp at h
          · simp at h

end
end Go.Abs
end

section
set_option linter.unusedSimpArgs false
set_option linter.unusedVariables false
namespace Go.Abs
open Go.RowKit

section
variable {E : Env} {S S' S2 : St} {v : AV} {tm tm2 : PM AV} {call : CallFn}

theorem plain_congr (o : Oper) (h : ∀ x ∈ o.op.operands, E.ev tm x = E.ev tm2 x) : evPlain E call tm o S = evPlain E call tm2 o S := by
  obtain ⟨dst, op, type, pos, after, guard⟩ := o
  have pairs : ∀ ps : Array (Nat × Operand), (∀ x ∈ ps.map (·.2), E.ev tm x = E.ev tm2 x) →
      (ps.toList.map fun p => (p.1, E.ev tm p.2)) = (ps.toList.map fun p => (p.1, E.ev tm2 p.2)) := fun ps hp =>
    List.map_congr_left fun p hm => by
      rw [hp p.2 (Array.mem_map.2 ⟨p, by simpa using hm, rfl⟩)]
  have args : ∀ xs : Array Operand, (∀ x ∈ xs, E.ev tm x = E.ev tm2 x) → xs.toList.map (E.ev tm) = xs.toList.map (E.ev tm2) := fun xs hx =>
    List.map_congr_left fun x hm => hx x (by simpa using hm)
  cases op with
  | build t ps => simp only [Op.operands] at h; simp only [evPlain]; rw [pairs ps fun x hx => h x (by simpa using hx)]
  | buildSlice t n ps => simp only [Op.operands] at h; simp only [evPlain]; rw [pairs ps fun x hx => h x (by simpa using hx)]
  | makeFunc f x y =>
    simp only [Op.operands] at h
    simp only [evPlain]
    rw [args x fun z hz => h z (by simp [hz]), args y fun z hz => h z (by simp [hz])]
  | call c =>
    obtain ⟨callee, xs, ats⟩ := c
    simp only [Op.operands, Call.operands] at h
    simp only [evPlain, callA]
    rw [args xs fun z hz => h z (by simp [hz])]
    cases callee with
    | value f => simp only; rw [h f (by simp)]
    | invoke r m => simp only; rw [h r (by simp)]
    | builtin b => rfl
  | slice t x lo hi mx =>
    simp only [Op.operands] at h
    have h1 := h x (by simp)
    cases mx with
    | some m =>
      have h2 := h m (by simp)
      cases hi with
      | none => simp [evPlain]
      | some hi =>
        have h3 := h hi (by simp)
        cases lo with
        | none => simp only [evPlain]; rw [h1, h2, h3]; rfl
        | some lo =>
          have h4 := h lo (by simp)
          simp only [evPlain, Option.map_some]; rw [h1, h2, h3, h4]
    | none =>
      simp only [evPlain]
      cases lo <;> cases hi <;> simp_all
  | move x => simp only [Op.operands] at h; simp only [evPlain]; rw [h x (by simp)]
  | assign x => simp only [Op.operands] at h; simp only [evPlain]; rw [h x (by simp)]
  | pick c x y => simp only [Op.operands] at h; simp only [evPlain]; rw [h c (by simp), h x (by simp), h y (by simp)]
  | load t x => simp only [Op.operands] at h; simp only [evPlain]; rw [h x (by simp)]
  | store t x y => simp only [Op.operands] at h; simp only [evPlain]; rw [h x (by simp), h y (by simp)]
  | nilCheck x => simp only [Op.operands] at h; simp only [evPlain]; rw [h x (by simp)]
  | binOp b t x y t' => simp only [Op.operands] at h; simp only [evPlain]; rw [h x (by simp), h y (by simp)]
  | unOp b t x => simp only [Op.operands] at h; simp only [evPlain]; rw [h x (by simp)]
  | convert t u x => simp only [Op.operands] at h; simp only [evPlain]; rw [h x (by simp)]
  | fieldAddr t x f => simp only [Op.operands] at h; simp only [evPlain]; rw [h x (by simp)]
  | field t x f => simp only [Op.operands] at h; simp only [evPlain]; rw [h x (by simp)]
  | indexAddr t x y => simp only [Op.operands] at h; simp only [evPlain]; rw [h x (by simp), h y (by simp)]
  | index t x y => simp only [Op.operands] at h; simp only [evPlain]; rw [h x (by simp), h y (by simp)]
  | extract x i => simp only [Op.operands] at h; simp only [evPlain]; rw [h x (by simp)]
  | makeInterface t x => simp only [Op.operands] at h; simp only [evPlain]; rw [h x (by simp)]
  | makeSlice t x y => simp only [Op.operands] at h; simp only [evPlain]; rw [h x (by simp), h y (by simp)]
  | lookup t x y b => simp only [Op.operands] at h; simp only [evPlain]; rw [h x (by simp), h y (by simp)]
  | mapUpdate t x y z => simp only [Op.operands] at h; simp only [evPlain]; rw [h x (by simp), h y (by simp), h z (by simp)]
  | insert t x y z => simp only [Op.operands] at h; simp only [evPlain]; rw [h x (by simp), h y (by simp), h z (by simp)]
  | next x b => simp only [Op.operands] at h; simp only [evPlain]; rw [h x (by simp)]
  | _ => simp [evPlain]

theorem mk_congr (o : Oper) (h : ∀ x ∈ o.op.operands, E.ev tm x = E.ev tm2 x) : mkOp E tm o = mkOp E tm2 o := by
  obtain ⟨dst, op, type, pos, after, guard⟩ := o
  cases op with
  | buildSlice t n ps =>
    simp only [Op.operands] at h
    simp only [mkOp]
    have : (ps.toList.map fun p => (p.1, E.ev tm p.2)) = (ps.toList.map fun p => (p.1, E.ev tm2 p.2)) := List.map_congr_left fun p hm => by
      have hx : p.2 ∈ ps.map (·.2) := Array.mem_map.2 ⟨p, by simpa using hm, rfl⟩
      rw [h p.2 (by simpa using hx)]
    rw [this]
  | box t x => simp only [Op.operands] at h; simp only [mkOp]; rw [h x (by simp)]
  | range t x => simp only [Op.operands] at h; simp only [mkOp]; rw [h x (by simp)]
  | makeSlice t x y => simp only [Op.operands] at h; simp only [mkOp]; rw [h x (by simp), h y (by simp)]
  | makeMap t r =>
    simp only [Op.operands] at h
    cases r with
    | none => rfl
    | some r => simp only [mkOp]; rw [h r (by simp)]
  | _ => simp [mkOp]

theorem ev_congr {ops : Array Oper} {o : Oper} (h : ∀ t ∈ namesOf ops o, getT tm t = getT tm2 t) : ∀ x ∈ o.op.operands, E.ev tm x = E.ev tm2 x := by
  intro x hx
  cases x with
  | tmp t => exact h t (List.mem_append_left _ (List.mem_filterMap.2 ⟨.tmp t, by simpa using hx, rfl⟩))
  | _ => rfl
theorem wanted_congr {ops : Array Oper} {o : Oper} (h : ∀ t ∈ namesOf ops o, getT tm t = getT tm2 t) : wantedA ops tm o = wantedA ops tm2 o := by
  unfold wantedA
  cases hg : o.guard with
  | none => rfl
  | some p =>
    obtain ⟨j, want⟩ := p
    simp only
    cases hd : (ops[j]?).bind (·.dst) with
    | none => rfl
    | some t =>
      simp only
      rw [h t (List.mem_append_right _ (by simp [hg, hd]))]
theorem loadsAt_congr {ops : Array Oper} {o : Oper} (h : ∀ t ∈ namesOf ops o, getT tm t = getT tm2 t) : loadsAt E tm o = loadsAt E tm2 o := by
  have he := ev_congr (E := E) h
  obtain ⟨dst, op, type, pos, after, guard⟩ := o
  cases op with
  | load t x => simp only [loadsAt]; rw [he x (by simp [Op.operands])]
  | _ => rfl
theorem loadsFrom_congr {ops : Array Oper} {o : Oper} (h : ∀ t ∈ namesOf ops o, getT tm t = getT tm2 t) : loadsFrom E tm o = loadsFrom E tm2 o := by
  have he := ev_congr (E := E) h
  obtain ⟨dst, op, type, pos, after, guard⟩ := o
  cases op with
  | load t x => simp only [loadsFrom]; rw [he x (by simp [Op.operands])]
  | convert t u x => simp only [loadsFrom]; rw [he x (by simp [Op.operands])]
  | slice t x lo hi mx =>
    cases mx with
    | none => simp only [loadsFrom]; rw [he x (by simp [Op.operands])]
    | some m => rfl
  | lookup t x y b => simp only [loadsFrom]; rw [he x (by simp [Op.operands])]
  | call c =>
    obtain ⟨callee, xs, ats⟩ := c
    cases callee with
    | builtin b =>
      cases b with
      | len =>
        simp only [loadsFrom]
        rw [List.map_congr_left fun x hm => he x (by simp only [Op.operands, Call.operands]; simpa using hm)]
      | _ => rfl
    | _ => rfl
  | _ => rfl

/-- What the lexical walk does at one operation. -/
noncomputable def StepOk (E : Env) (call : CallFn) (ops : Array Oper) (m : PM Nat) (b0 : Nat) (hist : List (Nat × St × St)) (ls : List (Nat × Nat × Option (TypeId × Nat))) (i : Nat) (o : Oper) (tm : PM AV) (v : AV) (S S' : St) : Prop :=
  (wantedA ops tm o = some false ∧ v = passed ∧ S' = S) ∨
  (wantedA ops tm o = some true ∧ isMk E o = true ∧ ∃ k, mkOp E tm o = some k ∧ v = k.val (b0 + i) ∧ S' = S.bear (b0 + i) k) ∨
  (wantedA ops tm o = some true ∧ isMk E o = false ∧ loudOp E o.op = true ∧ ∃ S1, evPlain E call tm o (S.masked (mkAt E ops) m b0 i) = some (v, S1) ∧ S' = S1.unmasked S (mkAt E ops) m b0 i ∧ (i, S, S') ∈ hist) ∨
  (wantedA ops tm o = some true ∧ isMk E o = false ∧ loudOp E o.op = false ∧ evPlain E call tm o S = some (v, S') ∧ ∀ l, loadsFrom E tm o = some l → (i, l, loadsAt E tm o) ∈ ls)

/-- The lexical walk, moment by moment. -/
structure Trace (E : Env) (call : CallFn) (nt : Nat) (ops : Array Oper) (m : PM Nat) (b0 : Nat) (i0 : Nat) (T : Nat → PM AV) (U : Nat → St) (V : Nat → AV) (hist : List (Nat × St × St)) (ls : List (Nat × Nat × Option (TypeId × Nat))) : Prop where
  hl : ∀ h ∈ hist, ∀ o, ops[h.1]? = some o → loud E o = true
  put : ∀ i o, i0 ≤ i → ops[i]? = some o → putA nt o.dst (V i) (T i) = some (T (i + 1))
  step : ∀ i o, i0 ≤ i → ops[i]? = some o → StepOk E call ops m b0 hist ls i o (T i) (V i) (U i) (U (i + 1))

theorem StepOk.mono {ops : Array Oper} {m : PM Nat} {b0 : Nat} {hist hist2 : List (Nat × St × St)} {ls ls2 : List (Nat × Nat × Option (TypeId × Nat))} {i : Nat} {o : Oper} (h : StepOk E call ops m b0 hist ls i o tm v S S') (h1 : ∀ x, x ∈ hist → x ∈ hist2) (h2 : ∀ x, x ∈ ls → x ∈ ls2) :
    StepOk E call ops m b0 hist2 ls2 i o tm v S S' := by
  rcases h with h | h | ⟨k1, k2, k3, S1, k4, k5, k6⟩ | ⟨k1, k2, k3, k4, k5⟩
  · exact .inl h
  · exact .inr (.inl h)
  · exact .inr (.inr (.inl ⟨k1, k2, k3, S1, k4, k5, h1 _ k6⟩))
  · exact .inr (.inr (.inr ⟨k1, k2, k3, k4, fun l hl => h2 _ (k5 l hl)⟩))

theorem trace_of {nt : Nat} {ops : Array Oper} {m : PM Nat} {b0 : Nat} : ∀ (rest : List Oper) (i : Nat) (tm tm' : PM AV) (S S' : St) (hist : List (Nat × St × St)) (ls : List (Nat × Nat × Option (TypeId × Nat))), ops.toList.drop i = rest →
    evDrawGo E call nt ops m b0 i rest tm S = some (tm', S', hist, ls) → ∃ T U V, Trace E call nt ops m b0 i T U V hist ls ∧ T i = tm ∧ U i = S ∧ (i ≤ ops.size → T ops.size = tm' ∧ U ops.size = S')
  | [], i, tm, tm', S, S', hist, ls, hd, h => by
    have hle : ops.size ≤ i := by have := congrArg List.length hd; simp at this; omega
    simp only [evDrawGo, Option.some.injEq, Prod.mk.injEq] at h
    obtain ⟨rfl, rfl, rfl, rfl⟩ := h
    refine ⟨fun _ => tm, fun _ => S, fun _ => passed, ⟨fun h hm => by simp at hm, fun j o hj ho => ?_, fun j o hj ho => ?_⟩, rfl, rfl, fun _ => ⟨rfl, rfl⟩⟩ <;>
      (rw [Array.getElem?_eq_none (by omega)] at ho; simp at ho)
  | o :: r, i, tm, tm', S, S', hist, ls, hd, h => by
    have hlt : i < ops.size := by
      rcases Nat.lt_or_ge i ops.size with h' | h'
      · exact h'
      · rw [List.drop_eq_nil_of_le (by simpa using h')] at hd; simp at hd
    have hko : ops[i]? = some o := by
      have h0 : (ops.toList.drop i)[0]? = some o := by rw [hd]; rfl
      rw [List.getElem?_drop] at h0
      simpa using h0
    have hrest : ops.toList.drop (i + 1) = r := by rw [← List.drop_drop, hd]; rfl
    have build : ∀ (v : AV) (tm1 : PM AV) (S1 : St) (hist1 : List (Nat × St × St)) (ls1 : List (Nat × Nat × Option (TypeId × Nat))), putA nt o.dst v tm = some tm1 → evDrawGo E call nt ops m b0 (i + 1) r tm1 S1 = some (tm', S', hist1, ls1) →
        (∀ x, x ∈ hist1 → x ∈ hist) → (∀ x, x ∈ ls1 → x ∈ ls) → (∀ x ∈ hist, x ∈ hist1 ∨ x.1 = i ∧ loud E o = true) →
        StepOk E call ops m b0 hist ls i o tm v S S1 →
        ∃ T U V, Trace E call nt ops m b0 i T U V hist ls ∧ T i = tm ∧ U i = S ∧ (i ≤ ops.size → T ops.size = tm' ∧ U ops.size = S') := by
      intro v tm1 S1 hist1 ls1 hp hgo hh hl hhl hs
      obtain ⟨T, U, V, ht, h1, h2, h3⟩ := trace_of r (i + 1) tm1 tm' S1 S' hist1 ls1 hrest hgo
      obtain ⟨h4, h5⟩ := h3 hlt
      refine ⟨fun j => if j ≤ i then tm else T j, fun j => if j ≤ i then S else U j, fun j => if j = i then v else V j, ⟨fun x hx o' ho' => ?_, fun j o' hj ho => ?_, fun j o' hj ho => ?_⟩, by simp, by simp, fun _ => ⟨?_, ?_⟩⟩
      · rcases hhl x hx with h' | ⟨h', h''⟩
        · exact ht.hl x h' o' ho'
        · rw [h', hko] at ho'; simp at ho'; subst ho'; exact h''
      · by_cases hji : j = i
        · subst hji
          rw [hko] at ho; simp at ho; subst ho
          have e1 : ¬ j + 1 ≤ j := by omega
          simp only [Nat.le_refl, if_true, e1, if_false, h1, hp]
        · have e1 : ¬ j ≤ i := by omega
          have e2 : ¬ j + 1 ≤ i := by omega
          simp only [e1, e2, if_false, hji]
          exact ht.put j o' (by omega) ho
      · by_cases hji : j = i
        · subst hji
          rw [hko] at ho; simp at ho; subst ho
          have e1 : ¬ j + 1 ≤ j := by omega
          simp only [Nat.le_refl, if_true, e1, if_false, h2]
          exact hs
        · have e1 : ¬ j ≤ i := by omega
          have e2 : ¬ j + 1 ≤ i := by omega
          simp only [e1, e2, if_false, hji]
          exact (ht.step j o' (by omega) ho).mono hh hl
      · have : ¬ ops.size ≤ i := by omega
        simp only [this, if_false, h4]
      · have : ¬ ops.size ≤ i := by omega
        simp only [this, if_false, h5]
    simp only [evDrawGo] at h
    split at h
    · simp at h
    · rename_i hw
      split at h
      · rename_i tm1 hp
        exact build passed tm1 S hist ls hp h (fun _ => id) (fun _ => id) (fun _ => .inl) (.inl ⟨hw, rfl, rfl⟩)
      · simp at h
    · rename_i hw
      cases hm : isMk E o with
      | true =>
        simp only [hm, cond_true] at h
        split at h
        · simp at h
        · rename_i k hk
          split at h
          · rename_i tm1 hp
            exact build _ tm1 _ hist ls hp h (fun _ => id) (fun _ => id) (fun _ => .inl) (.inr (.inl ⟨hw, hm, k, hk, rfl, rfl⟩))
          · simp at h
      | false =>
        simp only [hm, cond_false] at h
        cases hq : loudOp E o.op with
        | true =>
          simp only [hq, cond_true] at h
          split at h
          · simp at h
          · rename_i v S1 hev
            split at h
            · rename_i tm1 hp
              split at h
              · rename_i tm2 S2 hist1 ls1 hgo
                simp only [Option.some.injEq, Prod.mk.injEq] at h
                obtain ⟨rfl, rfl, rfl, rfl⟩ := h
                refine build v tm1 _ hist1 ls1 hp hgo (fun x hx => by simp [hx]) (fun x hx => hx) (fun x hx => ?_) (.inr (.inr (.inl ⟨hw, hm, hq, S1, hev, rfl, by simp⟩)))
                simp only [List.mem_cons] at hx
                rcases hx with rfl | hx
                · exact .inr ⟨rfl, by simp [loud, hm, hq]⟩
                · exact .inl hx
              · simp at h
            · simp at h
        | false =>
          simp only [hq, cond_false] at h
          split at h
          · simp at h
          · rename_i v S1 hev
            split at h
            · rename_i tm1 hp
              split at h
              · rename_i tm2 S2 hist1 ls1 hgo
                simp only [Option.some.injEq, Prod.mk.injEq] at h
                obtain ⟨rfl, rfl, rfl, rfl⟩ := h
                refine build v tm1 S1 hist1 ls1 hp hgo (fun x hx => hx) (fun x hx => ?_) (fun x hx => .inl hx) (.inr (.inr (.inr ⟨hw, hm, hq, hev, fun l hx => ?_⟩)))
                · split <;> simp [hx]
                · simp [hx]
              · simp at h
            · simp at h

/-- The temporaries once the operations of D have been carried out. -/
structure Val (ops : Array Oper) (V : Nat → AV) (tm0 : PM AV) (D : Nat → Prop) (tm : PM AV) : Prop where
  done : ∀ d o t, ops[d]? = some o → o.dst = some t → D d → getT tm t = V d
  old : ∀ t, (∀ d o, ops[d]? = some o → o.dst = some t → ¬ D d) → getT tm t = getT tm0 t

theorem getT_put {nt : Nat} {dst : Option Tmp} {x : AV} {tm' : PM AV} (h : putA nt dst x tm = some tm') (t : Nat) : getT tm' t = if dst = some t then x else getT tm t := by
  cases dst with
  | none => simp [putA] at h; subst h; simp
  | some d =>
    simp only [putA] at h
    cases hb : Nat.blt d nt with
    | false => rw [hb] at h; simp at h
    | true =>
      rw [hb] at h
      simp only [cond_true, Option.some.injEq] at h
      subst h
      unfold getT
      rw [PM.get_set]
      by_cases ht : t = d
      · subst ht; simp
      · have : ¬ d = t := fun e => ht e.symm
        simp [ht, this]

theorem Val.step {ops : Array Oper} (hp : Pairs E ops) {V : Nat → AV} {tm0 tm' : PM AV} {D D' : Nat → Prop} {nt i : Nat} {o : Oper} (h : Val ops V tm0 D tm) (ho : ops[i]? = some o) (hi : ¬ D i)
    (hput : putA nt o.dst (V i) tm = some tm') (hD : ∀ d, D' d ↔ D d ∨ d = i) : Val ops V tm0 D' tm' := by
  have uniq : ∀ d o' t, ops[d]? = some o' → o'.dst = some t → o.dst = some t → d = i := by
    intro d o' t hd ht ht'
    rcases Nat.lt_trichotomy d i with hlt | he | hlt
    · exact absurd ht' (hp.dst d i o' o t hlt hd ho ht)
    · exact he
    · exact absurd ht (hp.dst i d o o' t hlt ho hd ht')
  refine ⟨fun d o' t hd ht hdd => ?_, fun t hn => ?_⟩
  · rw [getT_put hput]
    by_cases hot : o.dst = some t
    · rw [if_pos hot, uniq d o' t hd ht hot]
    · rw [if_neg hot]
      rcases (hD d).1 hdd with h1 | h1
      · exact h.done d o' t hd ht h1
      · subst h1
        rw [ho] at hd; simp at hd; subst hd
        exact absurd ht hot
  · rw [getT_put hput]
    by_cases hot : o.dst = some t
    · exact absurd ((hD i).2 (.inr rfl)) (hn i o ho hot)
    · rw [if_neg hot]
      exact h.old t fun d o' hd ht hdd => hn d o' hd ht ((hD d).2 (.inl hdd))

theorem Bef.lt {ops : Array Oper} (hp : Pairs E ops) {i d : Nat} (h : Bef ops i d) : d < i := by
  induction h with
  | base ho he hb => exact hp.edge _ _ _ ho he hb
  | step ho he hb _ ih => have := hp.edge _ _ _ ho he hb; omega

theorem Val.agree {ops : Array Oper} (hp : Pairs E ops) {V : Nat → AV} {tm0 tmi : PM AV} {D : Nat → Prop} {i : Nat} {o : Oper} (h : Val ops V tm0 D tm) (hi : Val ops V tm0 (· < i) tmi) (ho : ops[i]? = some o)
    (hni : ¬ D i) (hb1 : ∀ d, Bef ops i d → D d) (hb2 : ∀ d, Bef ops d i → ¬ D d) : ∀ t ∈ namesOf ops o, getT tm t = getT tmi t := by
  intro t ht
  by_cases hw : ∃ (d : Nat) (o' : Oper), ops[d]? = some o' ∧ o'.dst = some t
  · obtain ⟨d, o', hd, hdt⟩ := hw
    have uniq : ∀ e o2, ops[e]? = some o2 → o2.dst = some t → e = d := by
      intro e o2 he het
      rcases Nat.lt_trichotomy e d with hlt | h' | hlt
      · exact absurd hdt (hp.dst e d o2 o' t hlt he hd het)
      · exact h'
      · exact absurd het (hp.dst d e o' o2 t hlt hd he hdt)
    rcases Nat.lt_trichotomy d i with hlt | he | hlt
    · have hbef := hp.names1 d i o' o t hlt hd ho hdt ht
      rw [h.done d o' t hd hdt (hb1 d hbef), hi.done d o' t hd hdt hlt]
    · subst he
      rw [h.old t fun e o2 h1 h2 => by rw [uniq e o2 h1 h2]; exact hni, hi.old t fun e o2 h1 h2 => by rw [uniq e o2 h1 h2]; omega]
    · have hbef := hp.names2 i d o o' t hlt ho hd hdt ht
      rw [h.old t fun e o2 h1 h2 => by rw [uniq e o2 h1 h2]; exact hb2 d hbef, hi.old t fun e o2 h1 h2 => by rw [uniq e o2 h1 h2]; omega]
  · have hn : ∀ (d : Nat) (o' : Oper), ops[d]? = some o' → o'.dst = some t → False := fun d o' h1 h2 => hw ⟨d, o', h1, h2⟩
    rw [h.old t fun d o' h1 h2 _ => hn d o' h1 h2, hi.old t fun d o' h1 h2 _ => hn d o' h1 h2]

section
variable {nt : Nat} {ops : Array Oper} {m : PM Nat} {b0 : Nat} {T : Nat → PM AV} {U : Nat → St} {V : Nat → AV} {hist : List (Nat × St × St)} {ls : List (Nat × Nat × Option (TypeId × Nat))}

theorem Trace.val (hp : Pairs E ops) (ht : Trace E call nt ops m b0 0 T U V hist ls) : ∀ (i : Nat), i ≤ ops.size → Val ops V (T 0) (· < i) (T i)
  | 0, _ => ⟨fun d o t _ _ h => by omega, fun t _ => rfl⟩
  | i + 1, hle => by
    have ho : ops[i]? = some ops[i] := by simp [show i < ops.size by omega]
    exact (ht.val hp i (by omega)).step hp ho (by omega) (ht.put i _ (Nat.zero_le _) ho) (fun d => by omega)

theorem Same.refl (S : St) (l : Nat) : Same S S l := ⟨rfl, rfl⟩
theorem Same.trans {S1 S2 S3 : St} {l : Nat} (h : Same S1 S2 l) (k : Same S2 S3 l) : Same S1 S3 l := ⟨k.1.trans h.1, k.2.trans h.2⟩
theorem Same.symm {S1 S2 : St} {l : Nat} (h : Same S1 S2 l) : Same S2 S1 l := ⟨h.1.symm, h.2.symm⟩

/-- The counters and marks of two states are the same. -/
structure Marks (S S2 : St) : Prop where
  no : S2.no = S.no
  nid : S2.nid = S.nid
  sp : ∀ i, S2.spent.get i = S.spent.get i
  ity : ∀ i, S2.ity.get i = S.ity.get i
  wr : S2.wr = S.wr
theorem Marks.refl (S : St) : Marks S S := ⟨rfl, rfl, fun _ => rfl, fun _ => rfl, rfl⟩
theorem Marks.trans {S1 S2 S3 : St} (h : Marks S1 S2) (k : Marks S2 S3) : Marks S1 S3 :=
  ⟨k.no.trans h.no, k.nid.trans h.nid, fun i => (k.sp i).trans (h.sp i), fun i => (k.ity i).trans (h.ity i), k.wr.trans h.wr⟩
theorem Marks.symm {S1 S2 : St} (h : Marks S1 S2) : Marks S2 S1 := ⟨h.no.symm, h.nid.symm, fun i => (h.sp i).symm, fun i => (h.ity i).symm, h.wr.symm⟩
theorem Marks.bear (S : St) (n : Nat) (k : Mk) : Marks S (S.bear n k) := ⟨rfl, rfl, fun _ => rfl, fun _ => rfl, rfl⟩
theorem Same.bear {S : St} {n l : Nat} (h : l ≠ n) (k : Mk) : Same S (S.bear n k) l := by
  refine ⟨?_, ?_⟩
  · simp only [St.bear, PM.get_set, if_neg h]
  · simp only [St.bear]
    split
    · simp only [PM.get_set, if_neg h]
    · rfl

/-- No loud operation from a on, b not included: nothing but what is made turns. -/
theorem Trace.still (ht : Trace E call nt ops m b0 0 T U V hist ls) {a : Nat} : ∀ (n : Nat), a + n ≤ ops.size → (∀ x o, a ≤ x → x < a + n → ops[x]? = some o → loud E o = false) →
    Marks (U a) (U (a + n)) ∧ ∀ l, (∀ x, a ≤ x → x < a + n → l ≠ b0 + x) → Same (U a) (U (a + n)) l
  | 0, _, _ => ⟨Marks.refl _, fun _ _ => Same.refl _ _⟩
  | n + 1, hle, h => by
    have ho : ops[a + n]? = some ops[a + n] := by simp [show a + n < ops.size by omega]
    obtain ⟨k1, k2⟩ := ht.still n (by omega) fun x o h1 h2 => h x o h1 (by omega)
    have hq := h (a + n) _ (by omega) (by omega) ho
    have step : Marks (U (a + n)) (U (a + n + 1)) ∧ ∀ l, l ≠ b0 + (a + n) → Same (U (a + n)) (U (a + n + 1)) l := by
      rcases ht.step (a + n) _ (Nat.zero_le _) ho with ⟨_, _, e⟩ | ⟨_, _, k, _, _, e⟩ | ⟨_, g1, g2, _⟩ | ⟨_, g1, g2, g3, _⟩
      · rw [e]; exact ⟨Marks.refl _, fun _ _ => Same.refl _ _⟩
      · rw [e]; exact ⟨Marks.bear _ _ _, fun l hl => Same.bear hl _⟩
      · simp [loud, g1, g2] at hq
      · rw [(quiet_any (S2 := U (a + n)) _ g1 g2 g3).1]; exact ⟨Marks.refl _, fun _ _ => Same.refl _ _⟩
    exact ⟨k1.trans step.1, fun l hl => (k2 l fun x h1 h2 => hl x h1 (by omega)).trans (step.2 l (hl _ (by omega) (by omega)))⟩

/-- What stands under no number of the region's that is made from a on, and is not written: stays. -/
theorem Trace.kept (hc : CallEvo call) (ht : Trace E call nt ops m b0 0 T U V hist ls) {a l : Nat} {q : Option (TypeId × Nat)} : ∀ (n : Nat), a + n ≤ ops.size → (∀ x, a ≤ x → x < a + n → l ≠ b0 + x) →
    (∀ x o, a ≤ x → x < a + n → ops[x]? = some o → (x, U x, U (x + 1)) ∈ hist → (l < (U x).no ∧ (U x).ver l = (U (x + 1)).ver l) ∨ sameAt E q l (U x) (U (x + 1)) = true) → Like E q (U a) (U (a + n)) l
  | 0, _, _, _ => Like.refl _ _
  | n + 1, hle, hr, h => by
    have ho : ops[a + n]? = some ops[a + n] := by simp [show a + n < ops.size by omega]
    refine (ht.kept hc n (by omega) (fun x h1 h2 => hr x h1 (by omega)) fun x o h1 h2 => h x o h1 (by omega)).trans ?_
    show Like _ _ _ (U (a + n + 1)) l
    rcases ht.step (a + n) _ (Nat.zero_le _) ho with ⟨_, _, e⟩ | ⟨_, _, k, _, _, e⟩ | ⟨_, g1, g2, S1, g3, g4, g5⟩ | ⟨_, g1, g2, g3, _⟩
    · rw [e]; exact Like.refl _ _
    · rw [e]; exact .inl (Same.bear (hr _ (by omega) (by omega)) _)
    · rcases h (a + n) _ (by omega) (by omega) ho g5 with ⟨k1, k2⟩ | hk
      · have he := masked_evo (plain_evo hc _ g1 g3)
        rw [g4] at k2 ⊢
        exact .inl (he.obj l k1 k2)
      · exact Like.at hk
    · rw [(quiet_any (S2 := U (a + n)) _ g1 g2 g3).1]; exact Like.refl _ _

/-- The region's own numbers: there, and free. -/
structure Room (ops : Array Oper) (b0 : Nat) (U : Nat → St) : Prop where
  no : b0 + ops.size ≤ (U 0).no
  free : ∀ j, j < ops.size → inacc ((U 0).objs.get (b0 + j))

theorem Trace.no (hc : CallEvo call) (ht : Trace E call nt ops m b0 0 T U V hist ls) (hr : Room ops b0 U) : ∀ i, i ≤ ops.size → b0 + ops.size ≤ (U i).no
  | 0, _ => hr.no
  | i + 1, hi => by
    have ih := ht.no hc hr i (by omega)
    have ho : ops[i]? = some ops[i] := by simp [show i < ops.size by omega]
    rcases ht.step i _ (Nat.zero_le _) ho with ⟨_, _, e⟩ | ⟨_, _, k, _, _, e⟩ | ⟨_, g1, g2, S1, g3, g4, g5⟩ | ⟨_, g1, g2, g3, _⟩
    · rw [e]; exact ih
    · rw [e]; exact ih
    · rw [g4]
      exact Nat.le_trans ih (masked_evo (plain_evo hc _ g1 g3)).no
    · rw [(quiet_any (S2 := U i) _ g1 g2 g3).1]; exact ih

/-- What is out of reach of a loud operation is as it was, behind it. -/
theorem Trace.shut {mk : Nat → Bool} (hf : CallFrm call) {o : Oper} {i l : Nat} {S S1 S' : St} {v : AV} {tm : PM AV} (h : evPlain E call tm o (S.masked mk m b0 i) = some (v, S1)) (hS : S' = S1.unmasked S mk m b0 i) (hl : l < S.no) (hd : inacc ((S.masked mk m b0 i).objs.get l)) : Same S S' l := by
  have k : Frm (fun x => x = l) (S.masked mk m b0 i) (S.masked mk m b0 i) := ⟨rfl, rfl, fun _ => rfl, fun _ => rfl, rfl, fun _ _ => rfl, fun _ _ => rfl, fun x hx => by rw [hx]; exact hd, fun x hx => by rw [hx]; exact hl⟩
  obtain ⟨X', h1, h2⟩ := plain_does hf o k h
  obtain ⟨k1, k2⟩ := h2.ka l rfl
  rw [hS]
  refine ⟨?_, k2⟩
  by_cases ho : outOf mk m b0 i S l
  · exact unmasked_out ho
  · rw [unmasked_in ho, k1, masked_in ho]

/-- Does the operation make an object in the walk? -/
noncomputable def Births (E : Env) (ops : Array Oper) (T : Nat → PM AV) (j : Nat) : Prop := ∃ o, ops[j]? = some o ∧ wantedA ops (T j) o = some true ∧ isMk E o = true

theorem Trace.none (hc : CallEvo call) (hf : CallFrm call) (ht : Trace E call nt ops m b0 0 T U V hist ls) (hr : Room ops b0 U) {j : Nat} (hj : j < ops.size) : ∀ i, i ≤ ops.size → (i ≤ j ∨ ¬ Births E ops T j) → Same (U 0) (U i) (b0 + j)
  | 0, _, _ => Same.refl _ _
  | i + 1, hi, hb => by
    have ih := ht.none hc hf hr hj i (by omega) (by rcases hb with h | h; left; omega; right; exact h)
    have hno := ht.no hc hr i (by omega)
    refine ih.trans ?_
    have ho : ops[i]? = some ops[i] := by simp [show i < ops.size by omega]
    rcases ht.step i _ (Nat.zero_le _) ho with ⟨_, _, e⟩ | ⟨g1, g2, k, _, _, e⟩ | ⟨_, g1, g2, S1, g3, g4, g5⟩ | ⟨_, g1, g2, g3, _⟩
    · rw [e]; exact Same.refl _ _
    · rw [e]
      refine Same.bear (fun he => ?_) _
      have : i = j := by omega
      rcases hb with h | h
      · omega
      · exact h ⟨_, this ▸ ho, this ▸ g1, g2⟩
    · refine Trace.shut hf g3 g4 (by omega) ?_
      by_cases hout : outOf (mkAt E ops) m b0 i (U i) (b0 + j)
      · rw [masked_out hout]; exact .inr rfl
      · rw [masked_in hout, ih.1]; exact hr.free j hj
    · rw [(quiet_any (S2 := U i) _ g1 g2 g3).1]; exact Same.refl _ _

/-- What floats stays as it was made until an operation comes that waits for it. -/
theorem Trace.float {j : Nat} (hmk : mkAt E ops j = true) (hc : CallEvo call) (hf : CallFrm call) (ht : Trace E call nt ops m b0 0 T U V hist ls) (hr : Room ops b0 U) (hj : j < ops.size) : ∀ n, j + 1 + n ≤ ops.size →
    (∀ x o, j < x → x < j + 1 + n → ops[x]? = some o → loud E o = true → bit m x j = false) → Same (U (j + 1)) (U (j + 1 + n)) (b0 + j)
  | 0, _, _ => Same.refl _ _
  | n + 1, hn, hb => by
    refine (ht.float hmk hc hf hr hj n (by omega) fun x o h1 h2 => hb x o h1 (by omega)).trans ?_
    show Same _ (U (j + 1 + n + 1)) _
    have hno := ht.no hc hr (j + 1 + n) (by omega)
    have ho : ops[j + 1 + n]? = some ops[j + 1 + n] := by simp [show j + 1 + n < ops.size by omega]
    rcases ht.step (j + 1 + n) _ (Nat.zero_le _) ho with ⟨_, _, e⟩ | ⟨g1, g2, k, _, _, e⟩ | ⟨_, g1, g2, S1, g3, g4, g5⟩ | ⟨_, g1, g2, g3, _⟩
    · rw [e]; exact Same.refl _ _
    · rw [e]; exact Same.bear (by omega) _
    · refine Trace.shut hf g3 g4 (by omega) ?_
      have hbit := hb (j + 1 + n) _ (by omega) (by omega) ho (by simp [loud, g1, g2])
      by_cases hN : (U (j + 1 + n)).objs.get (b0 + j) = Option.none
      · by_cases hout : outOf (mkAt E ops) m b0 (j + 1 + n) (U (j + 1 + n)) (b0 + j)
        · rw [masked_out hout]; exact .inr rfl
        · rw [masked_in hout, hN]; exact .inl rfl
      · rw [masked_out ⟨j, by omega, rfl, by simp [hid, hmk, hbit], hN⟩]; exact .inr rfl
    · rw [(quiet_any (S2 := U (j + 1 + n)) _ g1 g2 g3).1]; exact Same.refl _ _
end

end
end Go.Abs
end

section
set_option linter.unusedSimpArgs false
set_option linter.unusedVariables false
namespace Go.Abs
open Go.RowKit

section
variable {E : Env} {call : CallFn} {nt : Nat} {ops : Array Oper} {m : PM Nat} {b0 : Nat} {T : Nat → PM AV} {U : Nat → St} {V : Nat → AV} {hist : List (Nat × St × St)} {ls : List (Nat × Nat × Option (TypeId × Nat))}

/-- The state in the middle of a region, where the loud operations below k have been carried out and what is of D. -/
structure Agr (ops : Array Oper) (b0 : Nat) (U : Nat → St) (k : Nat) (D : Nat → Prop) (X : St) : Prop where
  mrk : Marks (U k) X
  out : ∀ l, (∀ x, x < ops.size → l ≠ b0 + x) → Same (U k) X l
  reg : ∀ j, j < ops.size → D j → Same (U (max k (j + 1))) X (b0 + j)
  unb : ∀ j, j < ops.size → ¬ D j → Same (U 0) X (b0 + j)

/-- What is known in the middle of a region. -/
structure Mid (E : Env) (C0 : Ctx) (w0 : World) (nt : Nat) (ops : Array Oper) (b0 : Nat) (T : Nat → PM AV) (U : Nat → St) (V : Nat → AV) (listed : Array Bool) (a : Act) (w : World) : Prop where
  size : listed.size = ops.size
  closed : ∀ (i : Nat) (o : Oper) (e : Edge), ops[i]? = some o → listed.getD i false = true → e ∈ o.after.toList → Region.binds .any e = true → listed.getD e.on false = true
  at_ : ∃ C k tm X, FR E C X nt tm a w ∧ ExtW C0 w0 C w ∧ C0.no ≤ C.no ∧ (∀ l, ¬ C0.born l → C.born l → C0.no ≤ l) ∧ (∀ j, j < ops.size → ¬ listed.getD j false = true → ¬ C.born (b0 + j)) ∧
    k ≤ ops.size ∧ (∀ x o, ops[x]? = some o → loud E o = true → (listed.getD x false = true ↔ x < k)) ∧
    Val ops V (T 0) (fun d => listed.getD d false = true) tm ∧ Agr ops b0 U k (fun d => listed.getD d false = true) X

theorem ready_iff {listed : Array Bool} {i : Nat} : i ∈ Region.ready .any ops listed ↔ ∃ o, ops[i]? = some o ∧ listed.getD i true = false ∧ ∀ e ∈ o.after.toList, Region.binds .any e = true → listed.getD e.on false = true := by
  unfold Region.ready
  rw [List.mem_filter, List.mem_range]
  constructor
  · rintro ⟨hi, h⟩
    simp only [Bool.and_eq_true, Bool.not_eq_true'] at h
    refine ⟨ops[i], by simp [hi], h.1, fun e he hb => ?_⟩
    have h2 := h.2
    simp only [Array.getElem?_eq_getElem hi, Option.map_some, Option.getD_some, Array.all_eq_true_iff_forall_mem] at h2
    have := h2 e (by simpa using he)
    rw [hb] at this
    simpa using this
  · rintro ⟨o, ho, h1, h2⟩
    have hi : i < ops.size := by
      rcases Nat.lt_or_ge i ops.size with h' | h'
      · exact h'
      · rw [Array.getElem?_eq_none (by omega)] at ho; simp at ho
    refine ⟨hi, ?_⟩
    simp only [Bool.and_eq_true, Bool.not_eq_true', ho, Option.map_some, Option.getD_some, Array.all_eq_true_iff_forall_mem]
    refine ⟨h1, fun e he => ?_⟩
    cases hb : Region.binds .any e with
    | false => rfl
    | true => simpa using h2 e (by simpa using he) hb

theorem getD_set {listed : Array Bool} {i : Nat} (hi : i < listed.size) (d : Nat) : (listed.setIfInBounds i true).getD d false = true ↔ listed.getD d false = true ∨ d = i := by
  by_cases hd : d = i
  · subst hd; simp [hi]
  · have : ¬ i = d := fun e => hd e.symm
    simp [this, hd]


/-- A step that turns nothing but what is listed. -/
theorem Agr.idle (hc : CallEvo call) (hf : CallFrm call) (ht : Trace E call nt ops m b0 0 T U V hist ls) (hr : Room ops b0 U) {k i : Nat} {D D' : Nat → Prop} {X : St} (h : Agr ops b0 U k D X) (hk : k ≤ ops.size) (hi : i < ops.size) (hni : ¬ D i)
    (hnb : ¬ Births E ops T i) (hD : ∀ d, D' d ↔ D d ∨ d = i) : Agr ops b0 U k D' X := by
  refine ⟨h.mrk, h.out, fun j hj hd => ?_, fun j hj hd => ?_⟩
  · by_cases hji : j = i
    · subst hji
      have h1 := h.unb j hj hni
      have h2 := ht.none hc hf hr hj (max k (j + 1)) (by omega) (.inr hnb)
      exact h2.symm.trans h1
    · exact h.reg j hj (((hD j).1 hd).resolve_right hji)
  · exact h.unb j hj fun h' => hd ((hD j).2 (.inl h'))

/-- The count of loud operations may be moved over what is not loud. -/
theorem Agr.move (hc : CallEvo call) (hf : CallFrm call) (ht : Trace E call nt ops m b0 0 T U V hist ls) (hr : Room ops b0 U) {k k' : Nat} {D : Nat → Prop} {X : St} (h : Agr ops b0 U k D X) (hk : k ≤ k') (hk' : k' ≤ ops.size)
    (hq : ∀ x o, k ≤ x → x < k' → ops[x]? = some o → wantedA ops (T x) o = some true → loud E o = false) : Agr ops b0 U k' D X := by
  have step : ∀ n, k + n ≤ ops.size → (∀ x o, k ≤ x → x < k + n → ops[x]? = some o → wantedA ops (T x) o = some true → loud E o = false) →
      Marks (U k) (U (k + n)) ∧ ∀ a l, k ≤ a → a ≤ k + n → (∀ x, a ≤ x → x < k + n → l ≠ b0 + x) → Same (U a) (U (k + n)) l := by
    intro n
    induction n with
    | zero => intro _ _; exact ⟨Marks.refl _, fun a l h1 h2 _ => by rw [show a = k by omega]; exact Same.refl _ _⟩
    | succ n ih =>
      intro hle hh
      have ho : ops[k + n]? = some ops[k + n] := by simp [show k + n < ops.size by omega]
      obtain ⟨k1, k2⟩ := ih (by omega) fun x o h1 h2 => hh x o h1 (by omega)
      have st : Marks (U (k + n)) (U (k + n + 1)) ∧ ∀ l, l ≠ b0 + (k + n) → Same (U (k + n)) (U (k + n + 1)) l := by
        rcases ht.step (k + n) _ (Nat.zero_le _) ho with ⟨_, _, e⟩ | ⟨_, _, kk, _, _, e⟩ | ⟨gw, g1, g2, _⟩ | ⟨_, g1, g2, g3, _⟩
        · rw [e]; exact ⟨Marks.refl _, fun _ _ => Same.refl _ _⟩
        · rw [e]; exact ⟨Marks.bear _ _ _, fun l hl => Same.bear hl _⟩
        · have := hh (k + n) _ (by omega) (by omega) ho gw
          simp [loud, g1, g2] at this
        · rw [(quiet_any (S2 := U (k + n)) _ g1 g2 g3).1]; exact ⟨Marks.refl _, fun _ _ => Same.refl _ _⟩
      refine ⟨k1.trans st.1, fun a l h1 h2 hl => ?_⟩
      by_cases ha : a = k + (n + 1)
      · rw [ha]; exact Same.refl _ _
      · exact (k2 a l h1 (by omega) fun x g1 g2 => hl x g1 (by omega)).trans (st.2 l (hl _ (by omega) (by omega)))
  obtain ⟨s1, s2⟩ := step (k' - k) (by omega) (fun x o h1 h2 => hq x o h1 (by omega))
  rw [show k + (k' - k) = k' by omega] at s1 s2
  refine ⟨s1.symm.trans h.mrk, fun l hl => ((s2 k l (Nat.le_refl _) hk fun x _ h2 => hl x (by omega)).symm).trans (h.out l hl), fun j hj hd => ?_, h.unb⟩
  by_cases hjk : k' ≤ j + 1
  · rw [show max k' (j + 1) = max k (j + 1) by omega]; exact h.reg j hj hd
  · rw [show max k' (j + 1) = k' by omega]
    exact (s2 (max k (j + 1)) (b0 + j) (by omega) (by omega) fun x g1 g2 => by omega).symm.trans (h.reg j hj hd)

theorem mid_step (ok : E.Ok) (hcall : CallOk E call) (hevo : CallEvo call) (hfrm : CallFrm call) {C0 : Ctx} {w0 : World} (hp : Pairs E ops) (hm : ∀ k d, bit m k d = true → Bef ops k d) (ht : Trace E call nt ops m b0 0 T U V hist ls) (hr : Room ops b0 U)
    (hb0 : C0.no ≤ b0) (hls : ls.all (loadOk E ops m b0 ops.size hist) = true) {Q : Exit → Act → World → Prop} {listed : Array Bool} {a : Act} {w : World} {K : Act → World → Prop} (h : Mid E C0 w0 nt ops b0 T U V listed a w) {i : Nat} (hi : i ∈ Region.ready .any ops listed)
    (hK : ∀ a w, Mid E C0 w0 nt ops b0 T U V (listed.setIfInBounds i true) a w → K a w) : wpOp E.P ops Q i K a w := by
  obtain ⟨o, ho, hun, hpre⟩ := ready_iff.1 hi
  have hin : i < ops.size := by
    rcases Nat.lt_or_ge i ops.size with h' | h'
    · exact h'
    · rw [Array.getElem?_eq_none (by omega)] at ho; simp at ho
  have hil : i < listed.size := by rw [h.size]; exact hin
  have hni : ¬ listed.getD i false = true := by
    simp [hil] at hun ⊢; exact hun
  obtain ⟨C, k, tm, X, hf, he, hno, hnew, hunb, hk, hl, hv, hA⟩ := h.at_
  have bef1 : ∀ d, Bef ops i d → listed.getD d false = true := by
    intro d hb
    cases hb with
    | base ho' he' hb' =>
      rw [ho] at ho'; simp at ho'; subst ho'
      exact hpre _ he' hb'
    | step ho' he' hb' hb2 =>
      rw [ho] at ho'; simp at ho'; subst ho'
      exact hb2.closed (D := fun x => listed.getD x false = true) (fun x o e h1 h2 h3 h4 => h.closed x o e h1 h2 h3 h4) (hpre _ he' hb')
  have bef2 : ∀ d, Bef ops d i → ¬ listed.getD d false = true := fun d hb hd =>
    hni (hb.closed (D := fun x => listed.getD x false = true) (fun x o e h1 h2 h3 h4 => h.closed x o e h1 h2 h3 h4) hd)
  have hag := hv.agree hp (ht.val hp i (by omega)) ho hni bef1 bef2
  have hlsz : (listed.setIfInBounds i true).size = ops.size := by simp [h.size]
  have hset := getD_set hil
  have hclosed' : ∀ (j : Nat) (o : Oper) (e : Edge), ops[j]? = some o → (listed.setIfInBounds i true).getD j false = true → e ∈ o.after.toList → Region.binds .any e = true → (listed.setIfInBounds i true).getD e.on false = true := by
    intro j o' e hj hd he' hb
    rw [hset] at hd ⊢
    rcases hd with hd | rfl
    · exact .inl (h.closed j o' e hj hd he' hb)
    · rw [ho] at hj; simp at hj; subst hj
      exact .inl (hpre e he' hb)
  have hput := ht.put i o (Nat.zero_le _) ho
  have loudlt : ∀ x o', ops[x]? = some o' → loud E o' = true → loud E o = true → (x < k ↔ x < i) := by
    intro x o' hx hx1 ho1
    rw [← hl x o' hx hx1]
    constructor
    · intro hd
      rcases Nat.lt_trichotomy x i with h1 | h1 | h1
      · exact h1
      · subst h1; exact absurd hd hni
      · exact absurd hd (bef2 x (hp.loud i x o o' h1 ho hx ho1 hx1))
    · intro h1
      exact bef1 x (hp.loud x i o' o h1 hx ho hx1 ho1)
  have hki : loud E o = true → k ≤ i := fun ho1 => by
    rcases Nat.lt_or_ge i k with h' | h'
    · exact absurd ((hl i o ho ho1).2 h') hni
    · exact h'
  have quietTo : loud E o = true → ∀ x o', k ≤ x → x < i → ops[x]? = some o' → loud E o' = false := by
    intro ho1 x o' h1 h2 hx
    cases hq : loud E o' with
    | false => rfl
    | true => have := (loudlt x o' hx hq ho1).2 h2; omega
  have listed' : ∀ k', (∀ x o', ops[x]? = some o' → loud E o' = true → (x < k' ↔ x < k ∨ x = i)) → (∀ x o', ops[x]? = some o' → loud E o' = true → ((listed.setIfInBounds i true).getD x false = true ↔ x < k')) := by
    intro k' hk' x o' hx hx1
    rw [hset, hk' x o' hx hx1, hl x o' hx hx1]
  have hi1 : loud E o = true → ∀ x o', ops[x]? = some o' → loud E o' = true → (x < i + 1 ↔ x < k ∨ x = i) := fun hq x o' hx hx1 => by
    have := loudlt x o' hx hx1 hq
    omega
  have hk1 : loud E o = false → ∀ x o', ops[x]? = some o' → loud E o' = true → (x < k ↔ x < k ∨ x = i) := fun hq x o' hx hx1 => by
    constructor
    · exact fun h1 => .inl h1
    · rintro (h1 | rfl)
      · exact h1
      · rw [ho] at hx; simp at hx; subst hx
        rw [hq] at hx1; cases hx1
  have finish : ∀ (C' : Ctx) (u : Value) (w' : World) (X' : St) (k' : Nat), WR E C' X' w' → ExtW C w C' w' → C.no ≤ C'.no → (∀ l, ¬ C.born l → C'.born l → C.no ≤ l ∨ l = b0 + i) → VR C' w' (V i) u →
      k' ≤ ops.size → (∀ x o', ops[x]? = some o' → loud E o' = true → (x < k' ↔ x < k ∨ x = i)) → Agr ops b0 U k' (fun d => (listed.setIfInBounds i true).getD d false = true) X' → K (a.put o.dst u) w' := by
    intro C' u w' X' k' k1 k2 k2a k2b k3 k4 k5 k6
    obtain ⟨tm', hp'⟩ : ∃ tm', putA nt o.dst (V i) tm = some tm' := by
      cases hd : o.dst with
      | none => exact ⟨tm, rfl⟩
      | some d =>
        rw [hd] at hput
        simp only [putA] at hput ⊢
        cases hb : Nat.blt d nt with
        | false => rw [hb] at hput; simp at hput
        | true => exact ⟨_, rfl⟩
    obtain ⟨q1, q2⟩ := (show TR C' w' tm a.tmps from fun i x hx => (hf.tr i x hx).ext k2).put hf.size k3 hp'
    have hf' : FR E C' X' nt tm' (a.put o.dst u) w' := ⟨k1, q1, q2, by rw [Act.put_defers']; exact hf.defers⟩
    have hval' : Val ops V (T 0) (fun d => (listed.setIfInBounds i true).getD d false = true) tm' := hv.step hp ho hni hp' hset
    have hCno : C.no = X.no := hf.wr.no
    have hXno : b0 + ops.size ≤ C.no := by rw [hCno, hA.mrk.no]; exact ht.no hevo hr k hk
    refine hK _ _ ⟨hlsz, hclosed', C', k', tm', X', hf', he.trans k2, Nat.le_trans hno k2a, fun l h1 h2 => ?_, fun j hj hnj hbj => ?_, k4, listed' _ k5, hval', k6⟩
    · by_cases hlb : C.born l
      · exact hnew l h1 hlb
      · rcases k2b l hlb h2 with h3 | h3 <;> omega
    · have hnj' : ¬ listed.getD j false = true ∧ j ≠ i := by
        constructor
        · exact fun h' => hnj ((hset j).2 (.inl h'))
        · exact fun h' => hnj ((hset j).2 (.inr h'))
      rcases k2b _ (hunb j hj hnj'.1) hbj with h3 | h3 <;> omega
  unfold wpOp
  simp only [ho]
  rcases ht.step i o (Nat.zero_le _) ho with ⟨h1, h2, h3⟩ | ⟨h1, g1, mk, g2, g3, g4⟩ | ⟨h1, g1, g2, S1, g3, g4, g5⟩ | ⟨h1, g1, g2, g3, g4⟩
  · -- passed by
    have hnb : ¬ Births E ops T i := by
      rintro ⟨o', q1, q2, _⟩
      rw [ho] at q1; simp at q1; subst q1
      rw [h1] at q2; simp at q2
    have hwT := h1
    rw [← wanted_congr hag] at h1
    have hwant := wanted_rel hf.tr h1
    simp only [hwant, Bool.false_eq_true, if_false]
    have hA1 := hA.idle hevo hfrm ht hr hk hin hni hnb hset
    cases hq : loud E o with
    | false => exact finish C Go.undef w X k hf.wr (ExtW.refl _ _) (Nat.le_refl _) (fun l h1 h2 => absurd h2 h1) (by rw [h2]; exact .sc _) hk (hk1 hq) hA1
    | true =>
      refine finish C Go.undef w X (i + 1) hf.wr (ExtW.refl _ _) (Nat.le_refl _) (fun l h1 h2 => absurd h2 h1) (by rw [h2]; exact .sc _) (by omega) (hi1 hq) (hA1.move hevo hfrm ht hr (by have := hki hq; omega) (by omega) fun x o' q1 q2 hx hw => ?_)
      by_cases hxi : x = i
      · rw [hxi, ho] at hx; simp at hx; subst hx
        rw [hxi, hwT] at hw; simp at hw
      · exact quietTo hq x o' q1 (by omega) hx
  · -- something is made
    have hq : loud E o = false := by simp [loud, g1]
    have hmk : mkOp E tm o = some mk := by rw [mk_congr o (ev_congr hag)]; exact g2
    have hwant := wanted_rel hf.tr (by rw [wanted_congr hag]; exact h1)
    simp only [hwant, if_true]
    refine .inl ?_
    obtain ⟨u, C', w', q1, q2, q3, q4, q5, q6⟩ := good_mk ok o hf.wr hf.tr hmk (b0 + i) X.no (hunb i hin hni) (Nat.le_refl _) (by rw [hA.mrk.no]; have := ht.no hevo hr k hk; omega)
    have hgood : Good E C w (execOp a.eval o) (V i) { X.bear (b0 + i) mk with no := X.no } ∨ True := .inr trivial
    unfold Oper.wp
    rw [q1]
    refine finish C' u w' _ k q2 q3 (by rw [q5, hf.wr.no]; exact Nat.le_refl _) (fun l r1 r2 => .inr ((q6 l r2).resolve_left r1)) (by rw [g3]; exact q4) hk (hk1 hq) ?_
    have hX : ({ X.bear (b0 + i) mk with no := X.no } : St) = X.bear (b0 + i) mk := rfl
    rw [hX]
    refine ⟨hA.mrk.trans (Marks.bear _ _ _), fun l hl' => (hA.out l hl').trans (Same.bear (hl' i hin) _), fun j hj hd => ?_, fun j hj hd => ?_⟩
    · by_cases hji : j = i
      · subst hji
        have h0 := hA.unb j hj hni
        have hfl : Same (U (j + 1)) (U (max k (j + 1))) (b0 + j) := by
          have := ht.float (by simp [mkAt, ho, g1]) hevo hfrm hr hj (max k (j + 1) - (j + 1)) (by omega) (fun x o' r1 r2 hx hx1 => by
            cases hb : bit m x j with
            | false => rfl
            | true => exact absurd ((hl x o' hx hx1).2 (by omega)) (bef2 x (hm _ _ hb)))
          rw [show j + 1 + (max k (j + 1) - (j + 1)) = max k (j + 1) by omega] at this
          exact this
        refine hfl.symm.trans ?_
        rw [g4]
        have hj0 := ht.none hevo hfrm hr hj j (by omega) (.inl (Nat.le_refl _))
        refine ⟨by simp [St.bear, PM.get_set], ?_⟩
        simp only [St.bear]
        cases mk.sh with
        | some p => simp [PM.get_set]
        | none => simp only; rw [h0.2, hj0.2]
      · exact (hA.reg j hj (((hset j).1 hd).resolve_right hji)).trans (Same.bear (by omega) _)
    · have hji : j ≠ i := fun e => hd ((hset j).2 (.inr e))
      exact (hA.unb j hj fun h' => hd ((hset j).2 (.inl h'))).trans (Same.bear (by omega) _)
  · -- a loud one
    have hq : loud E o = true := by simp [loud, g1, g2]
    have hki' := hki hq
    have hwant := wanted_rel hf.tr (by rw [wanted_congr hag]; exact h1)
    simp only [hwant, if_true]
    refine .inl ?_
    rw [← plain_congr o (ev_congr hag)] at g3
    have hnoU := ht.no hevo hr i (by omega)
    obtain ⟨s1, s2⟩ : Marks (U k) (U i) ∧ ∀ l, (∀ x, k ≤ x → x < i → l ≠ b0 + x) → Same (U k) (U i) l := by
      have := ht.still (a := k) (i - k) (by omega) fun x o' r1 r2 hx => quietTo hq x o' r1 (by omega) hx
      rw [show k + (i - k) = i by omega] at this
      exact this
    have regi : ∀ j, j < i → Same (U (max k (j + 1))) (U i) (b0 + j) := fun j hj => by
      have := (ht.still (a := max k (j + 1)) (i - max k (j + 1)) (by omega) fun x o' r1 r2 hx => quietTo hq x o' (by omega) (by omega) hx).2 (b0 + j) (fun x r1 r2 => by omega)
      rw [show max k (j + 1) + (i - max k (j + 1)) = i by omega] at this
      exact this
    have early : ∀ j, i ≤ j → j < ops.size → Same (U 0) (U i) (b0 + j) := fun j hij hj => ht.none hevo hfrm hr hj i (by omega) (.inl hij)
    have outN : ∀ j, i ≤ j → ¬ outOf (mkAt E ops) m b0 i (U i) (b0 + j) := fun j hij => by rintro ⟨x, r1, r2, _⟩; omega
    have outO : ∀ l, (∀ x, x < ops.size → l ≠ b0 + x) → ¬ outOf (mkAt E ops) m b0 i (U i) l := fun l hl' => by rintro ⟨x, r1, r2, _⟩; exact hl' x (by omega) r2
    let Dd : Nat → Prop := fun l => (∃ j, j < ops.size ∧ l = b0 + j) ∧ inacc (((U i).masked (mkAt E ops) m b0 i).objs.get l)
    have seen : ∀ j, j < ops.size → ¬ Dd (b0 + j) → j < i ∧ bit m i j = true ∧ ¬ outOf (mkAt E ops) m b0 i (U i) (b0 + j) := fun j hj hd => by
      have hacc : ¬ inacc (((U i).masked (mkAt E ops) m b0 i).objs.get (b0 + j)) := fun h' => hd ⟨⟨j, hj, rfl⟩, h'⟩
      have hji : j < i := by
        rcases Nat.lt_or_ge j i with h' | h'
        · exact h'
        · exfalso
          apply hacc
          rw [masked_in (outN j h'), (early j h' hj).1]
          exact hr.free j hj
      have hno' : ¬ outOf (mkAt E ops) m b0 i (U i) (b0 + j) := fun h' => hacc (by rw [masked_out h']; exact .inr rfl)
      refine ⟨hji, ?_, hno'⟩
      cases hb : bit m i j with
      | true => rfl
      | false =>
        exfalso
        rw [masked_in hno'] at hacc
        cases hmk : mkAt E ops j with
        | true => exact hno' ⟨j, hji, rfl, by simp [hid, hmk, hb], fun e => hacc (.inl e)⟩
        | false =>
          have hnb : ¬ Births E ops T j := by
            rintro ⟨o', q1, _, q3⟩
            simp [mkAt, q1, q3] at hmk
          rw [(ht.none hevo hfrm hr hj i (by omega) (.inr hnb)).1] at hacc
          exact hacc (hr.free j hj)
    have hfr : Frm Dd ((U i).masked (mkAt E ops) m b0 i) X := by
      have hmk := s1.symm.trans hA.mrk
      have both : ∀ l, ¬ Dd l → Same ((U i).masked (mkAt E ops) m b0 i) X l := fun l hd => by
        by_cases hreg : ∃ j, j < ops.size ∧ l = b0 + j
        · obtain ⟨j, hj, rfl⟩ := hreg
          obtain ⟨r1, r2, r3⟩ := seen j hj hd
          have h1 := (regi j r1).symm.trans (hA.reg j hj (bef1 j (hm _ _ r2)))
          exact ⟨by rw [masked_in r3]; exact h1.1, h1.2⟩
        · have hl' : ∀ x, x < ops.size → l ≠ b0 + x := fun x hx e => hreg ⟨x, hx, e⟩
          have h1 := (s2 l fun x _ hx => hl' x (by omega)).symm.trans (hA.out l hl')
          exact ⟨by rw [masked_in (outO l hl')]; exact h1.1, h1.2⟩
      exact ⟨hmk.no, hmk.nid, hmk.sp, hmk.ity, hmk.wr, fun l hd => (both l hd).1, fun l hd => (both l hd).2, fun l hd => hd.2, fun l hd => by
        obtain ⟨⟨j, hj, rfl⟩, _⟩ := hd
        show b0 + j < (U i).no
        omega⟩
    obtain ⟨X', p1, p2⟩ := plain_does hfrm o hfr g3
    refine (good_plain ok hcall o hf.wr hf.tr p1).wp fun u C' w' k1 k2 k3 => finish C' u w' X' (i + 1) k1 k2.toExtW k2.no (fun l r1 r2 => .inl (k2.newer l r1 r2)) k3 (by omega) (hi1 hq) ?_
    -- behind it
    have shutU : ∀ l, Dd l → Same (U i) (U (i + 1)) l := fun l hd => by
      obtain ⟨⟨j, hj, rfl⟩, hin'⟩ := hd
      exact Trace.shut hfrm g3 g4 (by omega) hin'
    have openU : ∀ l, ¬ Dd l → Same (U (i + 1)) X' l := fun l hd => by
      have hno' : ¬ outOf (mkAt E ops) m b0 i (U i) l := fun h' => hd ⟨by obtain ⟨x, r1, r2, _⟩ := h'; exact ⟨x, by omega, r2⟩, by rw [masked_out h']; exact .inr rfl⟩
      rw [g4]
      exact ⟨by rw [unmasked_in hno']; exact p2.frm.obj l hd, p2.frm.shp l hd⟩
    have shutX : ∀ l, Dd l → Same X X' l := fun l hd => p2.kx l hd
    refine ⟨?_, fun l hl' => openU l (fun hd => by obtain ⟨⟨j, hj, e⟩, _⟩ := hd; exact hl' j hj e), fun j hj hd => ?_, fun j hj hd => ?_⟩
    · rw [g4]
      exact ⟨p2.frm.no, p2.frm.nid, p2.frm.sp, p2.frm.ity, p2.frm.wr⟩
    · by_cases hji : j = i
      · subst hji
        have hDd : Dd (b0 + j) := ⟨⟨j, hj, rfl⟩, by rw [masked_in (outN j (Nat.le_refl _)), (early j (Nat.le_refl _) hj).1]; exact hr.free j hj⟩
        rw [show max (j + 1) (j + 1) = j + 1 by omega]
        exact (shutU _ hDd).symm.trans ((early j (Nat.le_refl _) hj).symm.trans ((hA.unb j hj hni).trans (shutX _ hDd)))
      · have hd' := ((hset j).1 hd).resolve_right hji
        rcases Nat.lt_or_ge j i with hlt | hge
        · rw [show max (i + 1) (j + 1) = i + 1 by omega]
          by_cases hDd : Dd (b0 + j)
          · exact (shutU _ hDd).symm.trans ((regi j hlt).symm.trans ((hA.reg j hj hd').trans (shutX _ hDd)))
          · exact openU _ hDd
        · have hDd : Dd (b0 + j) := ⟨⟨j, hj, rfl⟩, by rw [masked_in (outN j hge), (early j hge hj).1]; exact hr.free j hj⟩
          have h1 := hA.reg j hj hd'
          rw [show max k (j + 1) = j + 1 by omega] at h1
          rw [show max (i + 1) (j + 1) = j + 1 by omega]
          exact h1.trans (shutX _ hDd)
    · have hji : j ≠ i := fun e => hd ((hset j).2 (.inr e))
      have hd' : ¬ listed.getD j false = true := fun h' => hd ((hset j).2 (.inl h'))
      have hDd : Dd (b0 + j) := Classical.byContradiction fun hD => by
        obtain ⟨r1, r2, r3⟩ := seen j hj hD
        exact hd' (bef1 j (hm _ _ r2))
      exact (hA.unb j hj hd').trans (shutX _ hDd)
  · -- a quiet one
    have hq : loud E o = false := by simp [loud, g1, g2]
    have hnb : ¬ Births E ops T i := by
      rintro ⟨o', q1, q2, q3⟩
      rw [ho] at q1; simp at q1; subst q1
      rw [g1] at q3; cases q3
    have hwant := wanted_rel hf.tr (by rw [wanted_congr hag]; exact h1)
    simp only [hwant, if_true]
    refine .inl ?_
    rw [← plain_congr o (ev_congr hag)] at g3
    obtain ⟨q1, q2⟩ := quiet_like (S2 := X) o g1 g2 g3
    have hobj : ∀ l, loadsFrom E tm o = some l → Like E (loadsAt E tm o) (U i) X l := by
      intro l hll
      rw [loadsFrom_congr hag] at hll
      rw [loadsAt_congr hag]
      have hin2 := g4 l hll
      have hchk := List.all_eq_true.1 hls _ hin2
      simp only [loadOk, Bool.and_eq_true] at hchk
      obtain ⟨hc1, hc2⟩ := hchk
      have key : ∀ x o', ops[x]? = some o' → (k ≤ x ∧ x < i ∨ i ≤ x ∧ x < k) → (x, U x, U (x + 1)) ∈ hist → (l < (U x).no ∧ (U x).ver l = (U (x + 1)).ver l) ∨ sameAt E (loadsAt E (T i) o) l (U x) (U (x + 1)) = true := by
        intro x o' hx hxx hmem
        have hc := List.all_eq_true.1 hc1 _ hmem
        simp only [Bool.or_eq_true, Bool.and_eq_true] at hc
        rcases hc with ((hb | hb) | hb) | hb
        · have hB := hm _ _ hb
          have hlt := hB.lt hp
          have hD := bef1 x hB
          have hx1 : loud E o' = true := ht.hl _ hmem o' hx
          have := (hl x o' hx hx1).1 hD
          omega
        · have hB := hm _ _ hb
          have hlt := hB.lt hp
          have hD := bef2 x hB
          have hx1 : loud E o' = true := ht.hl _ hmem o' hx
          have : ¬ x < k := fun h' => hD ((hl x o' hx hx1).2 h')
          omega
        · exact .inl ⟨Nat.le_of_ble_eq_true hb.1, Nat.eq_of_beq_eq_true hb.2⟩
        · exact .inr hb
      have span : ∀ a b, a ≤ b → b ≤ ops.size → (∀ x, a ≤ x → x < b → l ≠ b0 + x) → (∀ x, a ≤ x → x < b → (k ≤ x ∧ x < i ∨ i ≤ x ∧ x < k)) → Like E (loadsAt E (T i) o) (U a) (U b) l := fun a b hab hb hr' hx => by
        have := ht.kept hevo (a := a) (l := l) (b - a) (by omega) (fun x r1 r2 => hr' x r1 (by omega)) fun x o' r1 r2 hxo hmem => key x o' hxo (hx x r1 (by omega)) hmem
        rw [show a + (b - a) = b by omega] at this
        exact this
      by_cases hreg : ∃ j, j < ops.size ∧ l = b0 + j
      · obtain ⟨j, hj, rfl⟩ := hreg
        simp only [Bool.or_eq_true] at hc2
        have hcase : mkAt E ops j = false ∨ bit m i j = true := by
          rcases hc2 with ((hb | hb) | hb) | hb
          · have : b0 + j < b0 := Nat.le_of_ble_eq_true hb
            omega
          · have : b0 + ops.size ≤ b0 + j := Nat.le_of_ble_eq_true hb
            omega
          · rw [show b0 + j - b0 = j by omega] at hb
            exact .inl (by simpa using hb)
          · exact .inr (by rwa [show b0 + j - b0 = j by omega] at hb)
        rcases hcase with hmk | hbit
        · have hnb' : ¬ Births E ops T j := by
            rintro ⟨o', q1, _, q3⟩
            simp [mkAt, q1, q3] at hmk
          have e1 := ht.none hevo hfrm hr hj i (by omega) (.inr hnb')
          by_cases hd : listed.getD j false = true
          · exact .inl ((e1.symm.trans (ht.none hevo hfrm hr hj (max k (j + 1)) (by omega) (.inr hnb'))).trans (hA.reg j hj hd))
          · exact .inl (e1.symm.trans (hA.unb j hj hd))
        have hB := hm _ _ hbit
        have hji := hB.lt hp
        have h1 := hA.reg j hj (bef1 j hB)
        rcases Nat.le_total (max k (j + 1)) i with hle | hle
        · exact (span (max k (j + 1)) i hle (by omega) (fun x r1 r2 => by omega) (fun x r1 r2 => .inl ⟨by omega, r2⟩)).symm.trans (.inl h1)
        · exact (span i (max k (j + 1)) hle (by omega) (fun x r1 r2 => by omega) (fun x r1 r2 => .inr ⟨r1, by omega⟩)).trans (.inl h1)
      · have hl' : ∀ x, x < ops.size → l ≠ b0 + x := fun x hx e => hreg ⟨x, hx, e⟩
        have h1 := hA.out l hl'
        rcases Nat.le_total k i with hle | hle
        · exact (span k i hle (by omega) (fun x r1 r2 => hl' x (by omega)) (fun x r1 r2 => .inl ⟨r1, r2⟩)).symm.trans (.inl h1)
        · exact (span i k hle hk (fun x r1 r2 => hl' x (by omega)) (fun x r1 r2 => .inr ⟨r1, r2⟩)).trans (.inl h1)
    exact (good_plain ok hcall o hf.wr hf.tr (q2 hobj)).wp fun u C' w' k1 k2 k3 => finish C' u w' X k k1 k2.toExtW k2.no (fun l r1 r2 => .inl (k2.newer l r1 r2)) k3 hk (hk1 hq) (hA.idle hevo hfrm ht hr hk hin hni hnb hset)

theorem count_set {l : List Bool} : ∀ {i : Nat}, l[i]? = some false → (l.set i true).count false + 1 = l.count false := by
  induction l with
  | nil => intro i h; simp at h
  | cons b l ih =>
    intro i h
    cases i with
    | zero => simp at h; subst h; simp
    | succ i =>
      simp at h
      have := ih h
      simp [List.count_cons]
      omega

/-- Two states that read alike. -/
theorem WR.congr {S S2 : St} {C : Ctx} {w : World} (h : WR E C S w) (k : Marks S S2) (k2 : ∀ l, Same S S2 l) : WR E C S2 w := by
  have sp : ∀ i, S2.isSpent i = S.isSpent i := fun i => by simp only [St.isSpent, k.sp]
  refine ⟨by rw [k.no]; exact h.no, fun l hl => h.unb l (by rw [k.no] at hl; exact hl), by rw [k.nid]; exact h.nid, by rw [k.nid]; exact h.nid1, h.bs, fun l l' hl hl' ha ha' => ?_, h.mub, fun l hl => ?_, fun l hl => ?_, fun i h0 hi => ?_, fun i j h0 hi h0' hj hsi hsj => ?_, h.glob,
    fun i hi => ?_, fun l x hl hx => ?_, fun l hl => ?_, fun i T h0 hi hT => ?_⟩
  · rw [(k2 l).1] at ha
    rw [(k2 l').1] at ha'
    exact h.inj l l' hl hl' ha ha'
  · rw [(k2 l).1]; exact h.objs l hl
  · rw [(k2 l).1]; exact h.unob l hl
  · rw [sp]; exact h.ids i h0 hi
  · rw [sp] at hsi hsj
    exact h.idi i j h0 hi h0' hj hsi hsj
  · rw [k.nid] at hi
    rw [sp, k.ity]
    exact h.fresh i hi
  · rw [(k2 l).2] at hx; exact h.shp l x hl hx
  · rw [(k2 l).2]; exact h.shu l hl
  · rw [k.ity] at hT; exact h.ity i T h0 hi hT

/-- More numbers are set aside. -/
theorem ExtW.raise (C : Ctx) (n : Nat) (w : World) : ExtW C w { C with no := n } w :=
  ⟨fun _ h => ⟨h, rfl, rfl, rfl, rfl⟩, Nat.le_refl _, fun _ _ => rfl, fun i h1 h2 => absurd h2 (by show ¬ i < C.nid; omega), fun l h1 h2 => absurd h2 h1, Nat.le_refl _, fun _ _ => Nat.le_refl _, fun _ _ _ _ _ => rfl, rfl, Bel.refl _ _, fun _ _ h => h, rfl⟩
theorem WR.raise {S : St} {C : Ctx} {w : World} (h : WR E C S w) {n : Nat} (hn : S.no ≤ n) : WR E { C with no := n } { S with no := n } w := by
  have e := ExtW.raise C n w
  refine ⟨rfl, fun l hl => h.unb l (Nat.le_trans hn hl), h.nid, h.nid1, h.bs, h.inj, h.mub, fun l hl => (h.objs l hl).ext e hl, h.unob, fun i h0 hi => ?_, h.idi, fun g cs hg => (h.glob g cs hg).ext e, h.fresh, h.shp, h.shu, h.ity⟩
  obtain ⟨k1, k2, k3, k4, k5, k6, k7, k8⟩ := h.ids i h0 hi
  exact ⟨k1, k2, k3, k4, k5, k6, k7, k8⟩

theorem mid_any (ok : E.Ok) (hcall : CallOk E call) (hevo : CallEvo call) (hfrm : CallFrm call) {C0 : Ctx} {w0 : World} (hp : Pairs E ops) (hm : ∀ k d, bit m k d = true → Bef ops k d) (ht : Trace E call nt ops m b0 0 T U V hist ls) (hr : Room ops b0 U)
    (hb0 : C0.no ≤ b0) (hls : ls.all (loadOk E ops m b0 ops.size hist) = true) {Q : Exit → Act → World → Prop} (hq : ∀ C' a' w', FR E C' (U ops.size) nt (T ops.size) a' w' → Ext C0 w0 C' w' → Q .normal a' w') :
    ∀ (fuel : Nat) (listed : Array Bool) (a : Act) (w : World), listed.toList.count false = fuel → Mid E C0 w0 nt ops b0 T U V listed a w → wpAny E.P .any ops Q fuel listed a w := by
  have all_of_ready : ∀ (listed : Array Bool) (a : Act) (w : World), Mid E C0 w0 nt ops b0 T U V listed a w → Region.ready .any ops listed = [] → ∀ i, i < ops.size → listed.getD i false = true := by
    intro listed a w h hr i
    induction i using Nat.strongRecOn with
    | _ i ih =>
      intro hi
      have hil : i < listed.size := by rw [h.size]; exact hi
      cases hc : listed.getD i false with
      | true => rfl
      | false =>
        exfalso
        have : i ∈ Region.ready .any ops listed := ready_iff.2 ⟨ops[i], by simp [hi], by simp [hil] at hc ⊢; exact hc, fun e he hb => by
          have hlt := hp.edge i ops[i] e (by simp [hi]) he hb
          exact ih e.on hlt (by omega)⟩
        rw [hr] at this; simp at this
  have done : ∀ (listed : Array Bool) (a : Act) (w : World), Mid E C0 w0 nt ops b0 T U V listed a w → (∀ i, i < ops.size → listed.getD i false = true) → Q .normal a w := by
    intro listed a w h hall
    obtain ⟨C, k, tm, X, hf, he, hno, hnew, hunb, hk, hl, hv, hA⟩ := h.at_
    have hA2 : Agr ops b0 U ops.size (fun d => listed.getD d false = true) X := hA.move hevo hfrm ht hr hk (Nat.le_refl _) fun x o h1 h2 hx _ => by
      cases hqq : loud E o with
      | false => rfl
      | true => have := (hl x o hx hqq).1 (hall x h2); omega
    have hsame : ∀ l, Same (U ops.size) X l := fun l => by
      by_cases hreg : ∃ j, j < ops.size ∧ l = b0 + j
      · obtain ⟨j, hj, rfl⟩ := hreg
        have := hA2.reg j hj (hall j hj)
        rwa [show max ops.size (j + 1) = ops.size by omega] at this
      · exact hA2.out l fun x hx e => hreg ⟨x, hx, e⟩
    have hwr : WR E C (U ops.size) w := hf.wr.congr hA2.mrk.symm fun l => (hsame l).symm
    have hvE := ht.val hp ops.size (Nat.le_refl _)
    have hget : ∀ t, getT tm t = getT (T ops.size) t := by
      intro t
      by_cases hw : ∃ (d : Nat) (o : Oper), ops[d]? = some o ∧ o.dst = some t
      · obtain ⟨d, o, hd, hdt⟩ := hw
        have hdl : d < ops.size := by
          rcases Nat.lt_or_ge d ops.size with h' | h'
          · exact h'
          · rw [Array.getElem?_eq_none (by omega)] at hd; simp at hd
        rw [hv.done d o t hd hdt (hall d hdl), hvE.done d o t hd hdt hdl]
      · have hn : ∀ (d : Nat) (o : Oper), ops[d]? = some o → o.dst = some t → False := fun d o h1 h2 => hw ⟨d, o, h1, h2⟩
        rw [hv.old t fun d o h1 h2 _ => hn d o h1 h2, hvE.old t fun d o h1 h2 _ => hn d o h1 h2]
    refine hq C a w ⟨hwr, fun i x hx => ?_, hf.size, hf.defers⟩ ⟨he, hno, hnew⟩
    have h1 := hf.tr.getT i
    rw [hget i] at h1
    unfold getT at h1
    rw [hx] at h1
    exact h1
  intro fuel
  induction fuel with
  | zero =>
    intro listed a w hc h
    have hall : ∀ i, i < ops.size → listed.getD i false = true := by
      intro i hi
      have hil : i < listed.size := by rw [h.size]; exact hi
      rw [List.count_eq_zero] at hc
      cases hcc : listed.getD i false with
      | true => rfl
      | false =>
        exfalso
        apply hc
        have : listed[i] = false := by simpa [hil] using hcc
        rw [← this]
        simp
    refine ⟨?_, done listed a w h hall⟩
    rw [List.eq_nil_iff_forall_not_mem]
    intro i hi
    obtain ⟨o, ho, hun, _⟩ := ready_iff.1 hi
    have hin : i < ops.size := by
      rcases Nat.lt_or_ge i ops.size with h' | h'
      · exact h'
      · rw [Array.getElem?_eq_none (by omega)] at ho; simp at ho
    have h1 := hall i hin
    have hil : i < listed.size := by rw [h.size]; exact hin
    simp [hil] at h1 hun
    rw [h1] at hun; simp at hun
  | succ fuel ih =>
    intro listed a w hc h
    refine ⟨fun hr => done listed a w h (all_of_ready listed a w h hr), fun i hi => ?_⟩
    refine mid_step ok hcall hevo hfrm hp hm ht hr hb0 hls h hi fun a' w' h' => ih _ a' w' ?_ h'
    obtain ⟨o, ho, hun, _⟩ := ready_iff.1 hi
    have hin : i < ops.size := by
      rcases Nat.lt_or_ge i ops.size with h' | h'
      · exact h'
      · rw [Array.getElem?_eq_none (by omega)] at ho; simp at ho
    have hil : i < listed.size := by rw [h.size]; exact hin
    have hf : listed.toList[i]? = some false := by
      simp [hil] at hun ⊢; exact hun
    have := count_set hf
    simp only [Array.toList_setIfInBounds]
    omega

end

structure EvoX (E : Env) : Prop where
  evo : ∀ f g, E.X f = some g → ∀ args S r S', g args S = some (r, S') → Evo S S'

theorem rep_false (n i : Nat) : (Array.replicate n false).getD i false = false := by
  simp only [Array.getD_eq_getD_getElem?, Array.getElem?_replicate]
  split <;> rfl

theorem draw_ok {E : Env} (ok : E.Ok) {call : CallFn} (hcall : CallOk E call) (hevo : CallEvo call) (hfrm : CallFrm call) (nt id : Nat) (ops : Array Oper) (Q : Exit → Act → World → Prop) (tm tm' : PM AV) (S S' : St) (C : Ctx) (a : Act) (w : World)
    (h : evDraw E call nt ops tm S = some (tm', S')) (hf : FR E C S nt tm a w) (hq : ∀ C' a' w', FR E C' S' nt tm' a' w' → Ext C w C' w' → Q .normal a' w') : (Code.region id ops true).wp E.P Q a w := by
  simp only [evDraw, cond_eq_ite] at h
  split at h
  · rename_i hall
    obtain ⟨hp, hm⟩ := Pairs.of hall
    split at h
    · rename_i tm1 S1 hist ls hgo
      split at h
      · rename_i hls
        simp only [Option.some.injEq, Prod.mk.injEq] at h
        obtain ⟨rfl, rfl⟩ := h
        obtain ⟨T, U, V, ht, h1, h2, h3⟩ := trace_of ops.toList 0 tm tm1 _ S1 hist ls rfl hgo
        obtain ⟨h4, h5⟩ := h3 (Nat.zero_le _)
        have hr : Room ops S.no U := ⟨by rw [h2]; exact Nat.le_refl _, fun j hj => by rw [h2]; exact hf.wr.unob _ (hf.wr.unb _ (Nat.le_add_right _ _))⟩
        refine wp_region_any ok.mixed ?_
        refine mid_any (C0 := C) (w0 := w) ok hcall hevo hfrm hp hm ht hr (by rw [hf.wr.no]; exact Nat.le_refl _) hls (fun C' a' w' f e => hq C' a' w' (by rw [h4, h5] at f; exact f) e) ops.size _ _ _ (by simp) ⟨by simp, ?_, ?_⟩
        · intro i o e _ hd
          rw [rep_false] at hd; simp at hd
        · have hwr := hf.wr.drew.raise (n := S.no + ops.size) (Nat.le_add_right _ _)
          have hex : ExtW C w { C with no := S.no + ops.size } w.drew := (Ext.drew C w).toExtW.trans (ExtW.raise C _ _)
          refine ⟨{ C with no := S.no + ops.size }, 0, tm, { S with no := S.no + ops.size }, ⟨hwr, fun i x hx => (hf.tr i x hx).ext hex, hf.size, hf.defers⟩, hex, by rw [hf.wr.no]; exact Nat.le_add_right _ _, fun l h1 h2 => absurd h2 h1, fun j _ _ => hf.wr.unb _ (Nat.le_add_right _ _), Nat.zero_le _, fun x o _ _ => by rw [rep_false]; simp, ?_, ?_⟩
          · rw [h1]
            exact ⟨fun d o t _ _ hd => by rw [rep_false] at hd; simp at hd, fun t _ => rfl⟩
          · rw [← h2]
            exact ⟨Marks.refl _, fun _ _ => Same.refl _ _, fun j _ hd => by rw [rep_false] at hd; simp at hd, fun _ _ _ => Same.refl _ _⟩
      · simp at h
    · simp at h
  · simp at h

end Go.Abs
end
