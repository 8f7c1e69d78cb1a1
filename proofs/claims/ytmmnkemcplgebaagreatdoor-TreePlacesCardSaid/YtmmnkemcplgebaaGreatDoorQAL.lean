/-
  What runs where objects are out of sight runs the same where they are there.
-/
import Derived.Test.YtmmnkemcplgebaaGreatDoorQAK
section
section
set_option linter.unusedSimpArgs false
set_option linter.unusedVariables false
namespace Go.Abs
structure Frm (D : Nat → Prop) (A X : St) : Prop where
 no : X.no = A.no
 nid : X.nid = A.nid
 sp : ∀ i, X.spent.get i = A.spent.get i
 ity : ∀ i, X.ity.get i = A.ity.get i
 wr : X.wr = A.wr
 obj : ∀ l, ¬ D l → X.objs.get l = A.objs.get l
 shp : ∀ l, ¬ D l → X.shp.get l = A.shp.get l
 dead : ∀ l, D l → inacc (A.objs.get l)
 lt : ∀ l, D l → l < A.no
theorem Frm.ver {D : Nat → Prop} {A X : St} (h : Frm D A X) (l : Nat) : X.ver l = A.ver l := by simp only [St.ver, h.wr]
noncomputable def Kept (D : Nat → Prop) (X X' : St) : Prop := ∀ l, D l → X'.objs.get l = X.objs.get l ∧ X'.shp.get l = X.shp.get l
structure Stp (D : Nat → Prop) (A X A' X' : St) : Prop where
 frm : Frm D A' X'
 kx : Kept D X X'
 ka : Kept D A A'
noncomputable def Does (D : Nat → Prop) (A X : St) (v : AV) (A' : St) (Y : Option (AV × St)) : Prop := ∃ X', Y = some (v, X') ∧ Stp D A X A' X'
section
variable {D : Nat → Prop} {A X A' X' : St} {E : Env} {v : AV} {tm : PM AV} {call : CallFn}
theorem Stp.refl (h : Frm D A X) : Stp D A X A X := ⟨h, fun _ _ => ⟨rfl, rfl⟩, fun _ _ => ⟨rfl, rfl⟩⟩
theorem Stp.trans {A2 X2 : St} (h : Stp D A X A' X') (k : Stp D A' X' A2 X2) : Stp D A X A2 X2 :=
 ⟨k.frm, fun l hl => ⟨(k.kx l hl).1.trans (h.kx l hl).1, (k.kx l hl).2.trans (h.kx l hl).2⟩, fun l hl => ⟨(k.ka l hl).1.trans (h.ka l hl).1, (k.ka l hl).2.trans (h.ka l hl).2⟩⟩
theorem Frm.acc (h : Frm D A X) {l : Nat} (ha : ¬ inacc (A.objs.get l)) : ¬ D l := fun hd => ha (h.dead l hd)
theorem Frm.get (h : Frm D A X) {l : Nat} {o : AObj} (ho : A.objs.get l = some o) (hn : o ≠ .dead) : ¬ D l ∧ X.objs.get l = some o := by
 have : ¬ D l := h.acc (by rw [ho]; rintro (h | h) <;> cases h; exact hn rfl)
 exact ⟨this, (h.obj l this).trans ho⟩
theorem Frm.objc (h : Frm D A X) {l : Nat} {cs : List AV} (ho : A.obj l = some cs) : ¬ D l ∧ X.obj l = some cs := by
 have h1 := obj_inv ho
 obtain ⟨k1, k2⟩ := h.get h1 (by simp)
 exact ⟨k1, by simp [St.obj, k2]⟩
theorem Frm.mapc (h : Frm D A X) {l : Nat} {es : List (Value × AV)} (ho : A.map l = some es) : ¬ D l ∧ X.map l = some es := by
 rcases map_live ho with h1 | h1
 all_goals
  obtain ⟨k1, k2⟩ := h.get h1 (by simp)
  exact ⟨k1, by simp [St.map, k2]⟩
theorem mpOf_eq {S : St} {l : Nat} {es : List (Value × AV)} (h : mpOf S l = some es) : S.objs.get l = some (.mp es) := by
 unfold mpOf at h
 split at h
 · rename_i h1; simp only [Option.some.injEq] at h; rw [h1, h]
 · cases h
theorem Frm.mpOf (h : Frm D A X) {l : Nat} {es : List (Value × AV)} (ho : Go.Abs.mpOf A l = some es) : ¬ D l ∧ Go.Abs.mpOf X l = some es := by
 obtain ⟨k1, k2⟩ := h.get (mpOf_eq ho) (by simp)
 exact ⟨k1, by simp [Go.Abs.mpOf, k2]⟩
theorem Frm.live (h : Frm D A X) (id : Nat) : X.live id = A.live id := by simp only [St.live, h.nid, h.sp]
theorem Frm.ityIs (h : Frm D A X) (id : Nat) (e : TypeId) : X.ityIs id e = A.ityIs id e := by simp only [St.ityIs, h.ity]
theorem Stp.put (h : Frm D A X) {l : Nat} (hl : ¬ D l) (o : AObj) : Stp D A X (A.put l o) (X.put l o) := by
 refine ⟨⟨h.no, h.nid, h.sp, h.ity, by simp only [St.put, h.wr, h.ver], fun k hk => ?_, h.shp, fun k hk => ?_, h.lt⟩, fun k hk => ⟨?_, rfl⟩, fun k hk => ⟨?_, rfl⟩⟩
 · simp only [St.put, PM.get_set]
   split
   · rfl
   · exact h.obj k hk
 · have : k ≠ l := fun e => hl (e ▸ hk)
   simp only [St.put, PM.get_set, if_neg this]
   exact h.dead k hk
 all_goals
  have : k ≠ l := fun e => hl (e ▸ hk)
  simp only [St.put, PM.get_set, if_neg this]
theorem Stp.newRaw (h : Frm D A X) (o : AObj) : Stp D A X (A.newRaw o) (X.newRaw o) := by
 refine ⟨⟨by simp [St.newRaw, h.no], h.nid, h.sp, h.ity, h.wr, fun k hk => ?_, h.shp, fun k hk => ?_, fun k hk => by have := h.lt k hk; simp [St.newRaw]; omega⟩, fun k hk => ⟨?_, rfl⟩, fun k hk => ⟨?_, rfl⟩⟩
 · simp only [St.newRaw, PM.get_set, h.no]
   split
   · rfl
   · exact h.obj k hk
 all_goals
  have h1 := h.lt k hk
  have h2 := h.no
  simp only [St.newRaw, PM.get_set]
  rw [if_neg (by omega)]
 exact h.dead k hk
theorem Stp.bear (h : Frm D A X) {n : Nat} (hn : ¬ D n) (m : Mk) : Stp D A X (A.bear n m) (X.bear n m) := by
 have shp : ∀ (S : St) k, (S.bear n m).shp.get k = if k = n ∧ m.sh.isSome then m.sh else S.shp.get k := fun S k => by
  simp only [St.bear]
  cases m.sh with
  | none => simp
  | some p => simp only [PM.get_set]; by_cases hk : k = n <;> simp [hk]
 refine ⟨⟨h.no, h.nid, h.sp, h.ity, h.wr, fun k hk => ?_, fun k hk => ?_, fun k hk => ?_, h.lt⟩, fun k hk => ⟨?_, ?_⟩, fun k hk => ⟨?_, ?_⟩⟩
 · simp only [St.bear, PM.get_set]
   split
   · rfl
   · exact h.obj k hk
 · rw [shp, shp]
   split
   · rfl
   · exact h.shp k hk
 all_goals
  have : k ≠ n := fun e => hn (e ▸ hk)
  first
   | (rw [shp, if_neg (fun h => this h.1)]; done)
   | (simp only [St.bear, PM.get_set, if_neg this]; done)
   | (simp only [St.bear, PM.get_set, if_neg this]; exact h.dead k hk)
theorem Stp.raise (h : Frm D A X) {n : Nat} (hn : A.no ≤ n) : Stp D A X { A with no := n } { X with no := n } :=
 ⟨⟨rfl, h.nid, h.sp, h.ity, h.wr, h.obj, h.shp, h.dead, fun k hk => by have := h.lt k hk; show k < n; omega⟩, fun _ _ => ⟨rfl, rfl⟩, fun _ _ => ⟨rfl, rfl⟩⟩
theorem Stp.bearNext (h : Frm D A X) (m : Mk) : Stp D A X (A.bearNext m) (X.bearNext m) := by
 have hn : ¬ D A.no := fun hd => by have := h.lt _ hd; omega
 have h1 := Stp.bear h hn m
 have h2 := Stp.raise h1.frm (n := A.no + 1) (Nat.le_succ _)
 simp only [St.bearNext, h.no]
 exact h1.trans h2
theorem Stp.newId (h : Frm D A X) (T : TypeId) : Stp D A X (A.newId T) (X.newId T) :=
 ⟨⟨h.no, by simp [St.newId, h.nid], h.sp, fun i => by simp only [St.newId, PM.get_set, h.nid, h.ity], h.wr, h.obj, h.shp, h.dead, h.lt⟩, fun _ _ => ⟨rfl, rfl⟩, fun _ _ => ⟨rfl, rfl⟩⟩
theorem Stp.newIdX (h : Frm D A X) : Stp D A X A.newIdX X.newIdX :=
 ⟨⟨h.no, by simp [St.newIdX, h.nid], h.sp, h.ity, h.wr, h.obj, h.shp, h.dead, h.lt⟩, fun _ _ => ⟨rfl, rfl⟩, fun _ _ => ⟨rfl, rfl⟩⟩
theorem Stp.spend (h : Frm D A X) (k : Nat) : Stp D A X { A with spent := A.spent.set k () } { X with spent := X.spent.set k () } :=
 ⟨⟨h.no, h.nid, fun i => by simp only [PM.get_set, h.sp], h.ity, h.wr, h.obj, h.shp, h.dead, h.lt⟩, fun _ _ => ⟨rfl, rfl⟩, fun _ _ => ⟨rfl, rfl⟩⟩
noncomputable def CallFrm (call : CallFn) : Prop := ∀ (D : Nat → Prop) A X g args r A', Frm D A X → call g args A = some (r, A') → Does D A X r A' (call g args X)
theorem some_does {x : AV} {A1 X1 : St} (k : Stp D A X A1 X1) (h : some (x, A1) = some (v, A')) : Does D A X v A' (some (x, X1)) := by
 simp only [Option.some.injEq, Prod.mk.injEq] at h
 obtain ⟨rfl, rfl⟩ := h
 exact ⟨X1, rfl, k⟩
theorem none_does {Y : Option (AV × St)} (h : (none : Option (AV × St)) = some (v, A')) : Does D A X v A' Y := by simp at h
theorem map_does {α : Type} {M : Option α} {f : α → AV} (k : Frm D A X) (h : M.map (fun a => (f a, A)) = some (v, A')) : Does D A X v A' (M.map fun a => (f a, X)) := by
 simp only [Option.map_eq_some_iff, Prod.mk.injEq] at h
 obtain ⟨a, h1, rfl, rfl⟩ := h
 exact ⟨X, by rw [h1]; rfl, Stp.refl k⟩
theorem ite_does {c : Bool} {Y Z Y2 Z2 : Option (AV × St)} (hx : Y = some (v, A') → Does D A X v A' Y2) (hy : Z = some (v, A') → Does D A X v A' Z2) (h : (bif c then Y else Z) = some (v, A')) : Does D A X v A' (bif c then Y2 else Z2) := by
 cases c
 · exact hy h
 · exact hx h
theorem obj_does {l : Nat} {f f2 : List AV → Option (AV × St)} (k : Frm D A X) (hf : ∀ cs, ¬ D l → A.obj l = some cs → f cs = some (v, A') → Does D A X v A' (f2 cs))
 (h : (match A.obj l with | some cs => f cs | none => none) = some (v, A')) : Does D A X v A' (match X.obj l with | some cs => f2 cs | none => none) := by
 cases ho : A.obj l with
 | none => simp [ho] at h
 | some cs =>
  obtain ⟨h1, h2⟩ := k.objc ho
  rw [h2]
  rw [ho] at h
  exact hf cs h1 ho h
theorem loadA_does {t : TypeId} {x : AV} (k : Frm D A X) (h : loadA E t x A = some (v, A')) : Does D A X v A' (loadA E t x X) := by
 unfold loadA at *
 cases x with
 | ptr l off => exact obj_does k (fun cs _ _ h => map_does (f := id) k h) h
 | eptr cs off => exact map_does (f := id) k h
 | _ => simp at h
theorem storeA_does {t : TypeId} {x y : AV} (k : Frm D A X) (h : storeA E t x y A = some (v, A')) : Does D A X v A' (storeA E t x y X) := by
 unfold storeA at *
 cases x with
 | ptr l off =>
  cases hy : cellsOf y with
  | none => simp [hy] at h
  | some vs =>
   cases hi : E.inf t with
   | none => simp [hy, hi] at h
   | some i =>
    simp only [hy, hi] at h ⊢
    exact obj_does k (fun cs hd _ h => ite_does (some_does (Stp.put k hd _)) none_does h) h
 | _ => simp at h
theorem sliceA_does {t : TypeId} {x : AV} {lo hi : Option AV} (k : Frm D A X) (h : sliceA E t x lo hi A = some (v, A')) : Does D A X v A' (sliceA E t x lo hi X) := by
 cases x with
 | ptr l off =>
  simp only [sliceA] at h ⊢
  cases ho : A.obj l with
  | none =>
   rw [ho] at h
   revert h
   repeat' (first | exact none_does | exact some_does (Stp.refl k) | exact map_does k | exact map_does (f := id) k | refine ite_does ?_ ?_ | contradiction | split)
  | some cs =>
   obtain ⟨_, h2⟩ := k.objc ho
   rw [ho] at h
   rw [h2]
   revert h
   repeat' (first | exact none_does | exact some_does (Stp.refl k) | exact map_does k | exact map_does (f := id) k | refine ite_does ?_ ?_ | contradiction | split)
 | _ =>
  simp only [sliceA] at h ⊢
  revert h
  repeat' (first | exact none_does | exact some_does (Stp.refl k) | exact map_does k | exact map_does (f := id) k | refine ite_does ?_ ?_ | contradiction | split)
theorem slice3A_does {t : TypeId} {x : AV} {lo : Option AV} {hi mx : AV} (k : Frm D A X) (h : slice3A E t x lo hi mx A = some (v, A')) : Does D A X v A' (slice3A E t x lo hi mx X) := by
 simp only [slice3A] at h ⊢
 revert h
 repeat' (first | exact none_does | exact some_does (Stp.refl k) | exact map_does k | exact map_does (f := id) k | refine ite_does ?_ ?_ | contradiction | split)
theorem osl_frm {agg : Bool} {l sz off len : Nat} {xs : List AV} (k : Frm D A X) (h : A.oslElems agg l sz off len = some xs) : X.oslElems agg l sz off len = some xs := by
 unfold St.oslElems at *
 cases ho : A.obj l with
 | none => simp [ho] at h
 | some cs =>
  rw [(k.objc ho).2]
  rw [ho] at h
  exact h
theorem convertA_does {mu : Bool} {t u : TypeId} {x : AV} (k : Frm D A X) (h : convertA E mu t u x A = some (v, A')) : Does D A X v A' (convertA E mu t u x X) := by
 unfold convertA at h ⊢
 refine ite_does (fun h => ?_) (fun h => ?_) h
 · simp only [k.nid]
   revert h
   repeat' (first | exact some_does (Stp.newIdX k) | exact none_does | exact some_does (Stp.refl k) | exact map_does k | exact map_does (f := id) k | refine ite_does ?_ ?_ | contradiction | split)
 · cases x with
   | ptr l off =>
    simp only at h ⊢
    cases ho : A.obj l with
    | none =>
     simp only [ho] at h
     revert h
     repeat' (first | exact none_does | exact some_does (Stp.refl k) | exact map_does k | exact map_does (f := id) k | refine ite_does ?_ ?_ | contradiction | split)
    | some cs =>
     obtain ⟨h1, h2⟩ := k.objc ho
     simp only [ho] at h
     simp only [h2, k.shp l h1]
     revert h
     repeat' (first | exact none_does | exact some_does (Stp.refl k) | exact map_does k | exact map_does (f := id) k | refine ite_does ?_ ?_ | contradiction | split)
   | osl l sz off len room =>
    simp only at h ⊢
    cases ho : A.oslElems false l sz off len with
    | none =>
     simp only [ho] at h
     revert h
     repeat' (first | exact none_does | exact some_does (Stp.refl k) | exact map_does k | exact map_does (f := id) k | refine ite_does ?_ ?_ | contradiction | split)
    | some xs =>
     simp only [ho] at h
     simp only [osl_frm k ho]
     revert h
     repeat' (first | exact none_does | exact some_does (Stp.refl k) | exact map_does k | exact map_does (f := id) k | refine ite_does ?_ ?_ | contradiction | split)
   | _ =>
    simp only at h ⊢
    revert h
    repeat' (first | exact none_does | exact some_does (Stp.refl k) | exact map_does k | exact map_does (f := id) k | refine ite_does ?_ ?_ | contradiction | split)
theorem buildA_does {t : TypeId} {ps : List (Nat × AV)} (k : Frm D A X) (h : buildA E t ps A = some (v, A')) : Does D A X v A' (buildA E t ps X) := by
 simp only [buildA] at h ⊢
 revert h
 repeat' (first | exact none_does | exact some_does (Stp.refl k) | exact map_does k | exact map_does (f := id) k | refine ite_does ?_ ?_ | contradiction | split)
theorem buildSliceA_does {t : TypeId} {len : Nat} {ps : List (Nat × AV)} (k : Frm D A X) (h : buildSliceA E t len ps A = some (v, A')) : Does D A X v A' (buildSliceA E t len ps X) := by
 simp only [buildSliceA] at h ⊢
 revert h
 repeat' (first | exact none_does | exact some_does (Stp.refl k) | exact map_does k | exact map_does (f := id) k | refine ite_does ?_ ?_ | contradiction | split)
theorem makeSliceA_does {t : TypeId} {x y : AV} (k : Frm D A X) (h : makeSliceA E t x y A = some (v, A')) : Does D A X v A' (makeSliceA E t x y X) := by
 simp only [makeSliceA, k.nid] at h ⊢
 revert h
 repeat' (first | exact some_does (Stp.newId k _) | exact none_does | exact some_does (Stp.refl k) | exact map_does k | exact map_does (f := id) k | refine ite_does ?_ ?_ | contradiction | split)
theorem nextA_does {x : AV} {b : Bool} (k : Frm D A X) (h : nextA x b A = some (v, A')) : Does D A X v A' (nextA x b X) := by
 unfold nextA at *
 split at h
 · rename_i l
   split at h
   · rename_i s pos ho
     obtain ⟨h1, h2⟩ := k.get ho (by simp)
     simp only [h2]
     exact ite_does (some_does (Stp.put k h1 _)) (some_does (Stp.refl k)) h
   · simp at h
 · simp at h
theorem lookupA_does {t : TypeId} {x ix : AV} {b : Bool} (k : Frm D A X) (h : lookupA E t x ix b A = some (v, A')) : Does D A X v A' (lookupA E t x ix b X) := by
 cases x with
 | mp l =>
  simp only [lookupA] at h ⊢
  cases ho : A.map l with
  | none =>
   simp only [ho] at h
   revert h
   repeat' (first | exact none_does | exact some_does (Stp.refl k) | exact map_does k | exact map_does (f := id) k | refine ite_does ?_ ?_ | contradiction | split)
  | some es =>
   obtain ⟨_, h2⟩ := k.mapc ho
   simp only [ho] at h
   simp only [h2]
   revert h
   repeat' (first | exact none_does | exact some_does (Stp.refl k) | exact map_does k | exact map_does (f := id) k | refine ite_does ?_ ?_ | contradiction | split)
 | sc u =>
  cases u with
  | map r =>
   cases r with
   | none =>
    simp only [lookupA] at h ⊢
    revert h
    repeat' (first | exact none_does | exact some_does (Stp.refl k) | exact map_does k | exact map_does (f := id) k | refine ite_does ?_ ?_ | contradiction | split)
   | some r =>
    simp only [lookupA] at h ⊢
    revert h
    repeat' (first | exact none_does | exact some_does (Stp.refl k) | exact map_does k | exact map_does (f := id) k | refine ite_does ?_ ?_ | contradiction | split)
  | _ =>
   simp only [lookupA] at h ⊢
   revert h
   repeat' (first | exact none_does | exact some_does (Stp.refl k) | exact map_does k | exact map_does (f := id) k | refine ite_does ?_ ?_ | contradiction | split)
 | _ =>
  simp only [lookupA] at h ⊢
  revert h
  repeat' (first | exact none_does | exact some_does (Stp.refl k) | exact map_does k | exact map_does (f := id) k | refine ite_does ?_ ?_ | contradiction | split)
theorem mapUpdateA_does {t : TypeId} {m i x : AV} (k : Frm D A X) (h : mapUpdateA E t m i x A = some (v, A')) : Does D A X v A' (mapUpdateA E t m i x X) := by
 unfold mapUpdateA at *
 split at h
 · rename_i h1 h2
   split at h
   · rename_i h3 ho
     obtain ⟨g1, g2⟩ := k.mapc ho
     simp only [h3, g2]
     exact ite_does (some_does (Stp.put k g1 _)) none_does h
   · simp at h
 · simp at h
theorem deleteA_does {ats : List TypeId} {xs : List AV} (k : Frm D A X) (h : deleteA E ats xs A = some (v, A')) : Does D A X v A' (deleteA E ats xs X) := by
 unfold deleteA at *
 split at h
 · split at h
   · rename_i h1 h2
     split at h
     · rename_i h3 ho
       obtain ⟨g1, g2⟩ := k.mapc ho
       simp only [h3, g2]
       exact ite_does (some_does (Stp.put k g1 _)) none_does h
     · simp at h
   · simp at h
 · simp at h
theorem srcCells_frm {sz n : Nat} {x : AV} {vs : List AV} (k : Frm D A X) (h : srcCells A sz n x = some vs) : srcCells X sz n x = some vs := by
 unfold srcCells at *
 split at h
 · exact h
 · rename_i l sz' off len room
   cases ho : A.obj l with
   | none => simp [ho] at h
   | some cs =>
    simp only [(k.objc ho).2]
    rw [ho] at h
    exact h
 · exact h
 · simp at h
theorem copyA_does {ats : List TypeId} {xs : List AV} (k : Frm D A X) (h : copyA E ats xs A = some (v, A')) : Does D A X v A' (copyA E ats xs X) := by
 unfold copyA at *
 split at h
 · split at h
   · split at h
     · rename_i h1 h2 h3 _ _ _ _ _ _ hi hs ho
       obtain ⟨g1, g2⟩ := k.objc ho
       simp only [hi, srcCells_frm k hs, g2]
       exact ite_does (some_does (Stp.put k g1 _)) none_does h
     · simp at h
   · simp at h
 · simp at h
theorem clearA_does {ats : List TypeId} {xs : List AV} (k : Frm D A X) (h : clearA E ats xs A = some (v, A')) : Does D A X v A' (clearA E ats xs X) := by
 unfold clearA at *
 split at h
 · rename_i t l sz off len room
   cases ho : A.obj l with
   | none =>
    simp only [ho] at h
    revert h
    repeat' (first | exact none_does | exact some_does (Stp.refl k) | exact map_does k | exact map_does (f := id) k | refine ite_does ?_ ?_ | contradiction | split)
   | some cs =>
    obtain ⟨h1, h2⟩ := k.objc ho
    simp only [ho] at h
    simp only [h2]
    revert h
    repeat' (first | exact some_does (Stp.put k h1 _) | exact none_does | exact some_does (Stp.refl k) | exact map_does k | exact map_does (f := id) k | refine ite_does ?_ ?_ | contradiction | split)
 · simp at h
theorem newSlice_does {mu : Bool} {e : TypeId} {sz : Nat} {xs : List AV} (k : Frm D A X) (h : newSlice mu e sz xs A = some (v, A')) : Does D A X v A' (newSlice mu e sz xs X) := by
 simp only [newSlice, k.nid, k.no] at h ⊢
 revert h
 repeat' (first | exact some_does (Stp.newId k _) | exact some_does (Stp.newRaw k _) | exact none_does | exact some_does (Stp.refl k) | exact map_does k | exact map_does (f := id) k | refine ite_does ?_ ?_ | contradiction | split)
theorem appendOsl_does {sz l off len room : Nat} {ys : List AV} (k : Frm D A X) (h : appendOsl sz l off len room ys A = some (v, A')) : Does D A X v A' (appendOsl sz l off len room ys X) := by
 unfold appendOsl at *
 cases ho : A.obj l with
 | none =>
  simp only [ho] at h
  revert h
  repeat' (first | exact none_does | exact some_does (Stp.refl k) | exact map_does k | exact map_does (f := id) k | refine ite_does ?_ ?_ | contradiction | split)
 | some cs =>
  obtain ⟨h1, h2⟩ := k.objc ho
  simp only [ho] at h
  simp only [h2, k.no]
  revert h
  repeat' (first | exact some_does (Stp.put k h1 _) | exact some_does ((Stp.put k h1 _).trans (Stp.newRaw (Stp.put k h1 _).frm _)) | exact none_does | exact some_does (Stp.refl k) | exact map_does k | exact map_does (f := id) k | refine ite_does ?_ ?_ | contradiction | split)
theorem appendXs_does {mu : Bool} {e : TypeId} {ti : TypeInfo} {s : AV} {ys : List AV} (k : Frm D A X) (h : appendXs mu e ti s ys A = some (v, A')) : Does D A X v A' (appendXs mu e ti s ys X) := by
 simp only [appendXs, k.live, k.ityIs, k.nid] at h ⊢
 revert h
 repeat' (first | exact newSlice_does k | exact appendOsl_does k | exact some_does ((Stp.newId k _).trans (Stp.spend (Stp.newId k _).frm _)) | exact none_does | exact some_does (Stp.refl k) | exact map_does k | exact map_does (f := id) k | refine ite_does ?_ ?_ | contradiction | split)
theorem elemsS_frm {agg : Bool} {n : Nat} {x : AV} {xs : List AV} (k : Frm D A X) (h : elemsS A agg n x = some xs) : elemsS X agg n x = some xs := by
 unfold elemsS at *
 split at h
 · simp only [cond_eq_ite] at h ⊢
   split at h
   · rename_i hb
     rw [if_pos hb]
     exact osl_frm k h
   · simp at h
 · exact h
theorem appendA_does {mu agg : Bool} {e : TypeId} {ti : TypeInfo} {s x : AV} (k : Frm D A X) (h : appendA mu agg e ti s x A = some (v, A')) : Does D A X v A' (appendA mu agg e ti s x X) := by
 unfold appendA at *
 split at h
 · simp at h
 · rename_i ys hy
   rw [elemsS_frm k hy]
   exact appendXs_does k h
theorem builtinA_does {mu : Bool} {b : Builtin} {ats : List TypeId} {xs : List AV} (k : Frm D A X) (h : builtinA E mu b ats xs A = some (v, A')) : Does D A X v A' (builtinA E mu b ats xs X) := by
 cases b with
 | copy => exact copyA_does k h
 | clear => exact clearA_does k h
 | delete => exact deleteA_does k h
 | append =>
  simp only [builtinA] at h ⊢
  revert h
  repeat' (first | exact appendA_does k | exact appendXs_does k | exact none_does | exact some_does (Stp.refl k) | exact map_does k | exact map_does (f := id) k | refine ite_does ?_ ?_ | contradiction | split)
 | unsafeString =>
  simp only [builtinA, k.ity] at h ⊢
  revert h
  repeat' (first | exact none_does | exact some_does (Stp.refl k) | exact map_does k | exact map_does (f := id) k | refine ite_does ?_ ?_ | contradiction | split)
 | len =>
  match ats, xs, h with
  | [t], [x], h =>
   cases x with
   | mp l =>
    simp only [builtinA] at h ⊢
    cases ho : A.map l with
    | none =>
     simp only [ho, Option.map_none] at h
     revert h
     repeat' (first | exact map_does (f := fun n : Nat => AV.sc (.int .i64 n)) k | exact none_does | exact some_does (Stp.refl k) | exact map_does k | exact map_does (f := id) k | refine ite_does ?_ ?_ | contradiction | split)
    | some es =>
     obtain ⟨h1, h2⟩ := k.mapc ho
     simp only [ho, Option.map_some] at h
     simp only [h2, Option.map_some]
     revert h
     repeat' (first | exact map_does (f := fun n : Nat => AV.sc (.int .i64 n)) k | exact none_does | exact some_does (Stp.refl k) | exact map_does k | exact map_does (f := id) k | refine ite_does ?_ ?_ | contradiction | split)
   | _ =>
    simp only [builtinA] at h ⊢
    revert h
    repeat' (first | exact map_does (f := fun n : Nat => AV.sc (.int .i64 n)) k | exact none_does | exact some_does (Stp.refl k) | exact map_does k | exact map_does (f := id) k | refine ite_does ?_ ?_ | contradiction | split)
  | [], _, h => simp [builtinA] at h
  | [_], [], h => simp [builtinA] at h
  | [_], _ :: _ :: _, h => simp [builtinA] at h
  | _ :: _ :: _, _, h => simp [builtinA] at h
 | _ =>
  simp only [builtinA] at h ⊢
  revert h
  repeat' (first | exact map_does (f := fun x => ofV x) k | exact none_does | exact some_does (Stp.refl k) | exact map_does k | exact map_does (f := id) k | refine ite_does ?_ ?_ | contradiction | split)
theorem callA_does {mu : Bool} {c : Call} (hc : CallFrm call) (k : Frm D A X) (h : callA E mu call tm c A = some (v, A')) : Does D A X v A' (callA E mu call tm c X) := by
 obtain ⟨callee, args, ats⟩ := c
 simp only [callA] at h ⊢
 cases callee with
 | value f =>
  simp only at h ⊢
  split at h
  · split at h
    · exact map_does (f := id) k h
    · exact hc D A X _ _ _ _ k h
  · simp at h
 | invoke r m =>
  simp only at h ⊢
  split at h
  · split at h
    · split at h
      · simp at h
      · exact hc D A X _ _ _ _ k h
    · simp at h
  · simp at h
 | builtin b => exact builtinA_does k h
theorem plain_does (hc : CallFrm call) (o : Oper) (k : Frm D A X) (h : evPlain E call tm o A = some (v, A')) : Does D A X v A' (evPlain E call tm o X) := by
 obtain ⟨dst, op, ty, pos, after, guard⟩ := o
 cases op with
 | load t x => exact loadA_does k h
 | store t x y => exact storeA_does k h
 | slice t x lo hi mx =>
  cases mx with
  | some m =>
   cases hi with
   | none => simp [evPlain] at h
   | some hi => exact slice3A_does k h
  | none => exact sliceA_does k h
 | convert t u x => exact convertA_does k h
 | build t ps => exact buildA_does k h
 | buildSlice t n ps => exact buildSliceA_does k h
 | makeSlice t x y => exact makeSliceA_does k h
 | lookup t x ix b => exact lookupA_does k h
 | mapUpdate t x y z => exact mapUpdateA_does k h
 | insert t x y z => exact mapUpdateA_does k h
 | next x b => exact nextA_does k h
 | call c => exact callA_does hc k h
 | _ => first
  | (simp [evPlain] at h; done)
  | exact ⟨X, (plain_any (S2 := X) _ (by trivial) h).2, by rw [(plain_any (S2 := X) _ (by trivial) h).1]; exact Stp.refl k⟩
theorem op_does (hc : CallFrm call) (o : Oper) (k : Frm D A X) (h : evOp E call tm o A = some (v, A')) : Does D A X v A' (evOp E call tm o X) := by
 unfold evOp at *
 refine ite_does (fun h => ?_) (fun h => plain_does hc o k h) h
 simp only [Option.map_eq_some_iff, Prod.mk.injEq] at h
 obtain ⟨m, h1, rfl, rfl⟩ := h
 exact ⟨_, by rw [h1, Option.map_some, k.no], Stp.bearNext k m⟩
theorem seq_does (hc : CallFrm call) {nt : Nat} {ops : Array Oper} : ∀ (rest : List Oper) (tm tm' : PM AV) (A A' X : St), Frm D A X → evSeq E call nt ops rest tm A = some (tm', A') → ∃ X', evSeq E call nt ops rest tm X = some (tm', X') ∧ Stp D A X A' X'
 | [], tm, tm', A, A', X, k, h => by
  simp only [evSeq, Option.some.injEq, Prod.mk.injEq] at h
  obtain ⟨rfl, rfl⟩ := h
  exact ⟨X, rfl, Stp.refl k⟩
 | o :: r, tm, tm', A, A', X, k, h => by
  simp only [evSeq] at h ⊢
  split at h
  · simp at h
  · rename_i hw
    split at h
    · rename_i tm1 hp
      try simp only [hw, hp]
      exact seq_does hc r _ _ _ _ _ k h
    · simp at h
  · rename_i hw
    split at h
    · simp at h
    · rename_i v S1 hev
      obtain ⟨X1, h1, k1⟩ := op_does hc o k hev
      split at h
      · rename_i tm1 hp
        obtain ⟨X2, h2, k2⟩ := seq_does hc r _ _ _ _ _ k1.frm h
        try simp only [h1, hp, h2]
        exact ⟨X2, rfl, k1.trans k2⟩
      · simp at h
theorem Frm.outOf (k : Frm D A X) {mk : Nat → Bool} {m : PM Nat} {b0 j l : Nat} (hD : ∀ l, D l → l < b0) : Abs.outOf mk m b0 j A l ↔ Abs.outOf mk m b0 j X l := by
 unfold Abs.outOf
 by_cases hd : D l
 · have := hD l hd
   constructor <;> (rintro ⟨i, h1, h2, _⟩; omega)
 · rw [k.obj l hd]
theorem Frm.masked (k : Frm D A X) {mk : Nat → Bool} {m : PM Nat} {b0 j : Nat} (hD : ∀ l, D l → l < b0) : Frm D (A.masked mk m b0 j) (X.masked mk m b0 j) := by
 refine ⟨k.no, k.nid, k.sp, k.ity, k.wr, fun l hl => ?_, k.shp, fun l hl => ?_, k.lt⟩
 · by_cases ho : Abs.outOf mk m b0 j A l
   · rw [masked_out ho, masked_out ((k.outOf hD).1 ho)]
   · rw [masked_in ho, masked_in (fun h => ho ((k.outOf hD).2 h))]
     exact k.obj l hl
 · have : ¬ Abs.outOf mk m b0 j A l := by rintro ⟨i, h1, h2, _⟩; have := hD l hl; omega
   rw [masked_in this]
   exact k.dead l hl
theorem Stp.unmasked (k : Frm D A X) {mk : Nat → Bool} {m : PM Nat} {b0 j : Nat} (hD : ∀ l, D l → l < b0) (h : Stp D (A.masked mk m b0 j) (X.masked mk m b0 j) A' X') : Stp D A X (A'.unmasked A mk m b0 j) (X'.unmasked X mk m b0 j) := by
 have na : ∀ l, D l → ¬ Abs.outOf mk m b0 j A l := fun l hl => by rintro ⟨i, h1, h2, _⟩; have := hD l hl; omega
 have nx : ∀ l, D l → ¬ Abs.outOf mk m b0 j X l := fun l hl => by rintro ⟨i, h1, h2, _⟩; have := hD l hl; omega
 refine ⟨⟨h.frm.no, h.frm.nid, h.frm.sp, h.frm.ity, h.frm.wr, fun l hl => ?_, h.frm.shp, fun l hl => ?_, h.frm.lt⟩, fun l hl => ⟨?_, (h.kx l hl).2⟩, fun l hl => ⟨?_, (h.ka l hl).2⟩⟩
 · by_cases ho : Abs.outOf mk m b0 j A l
   · rw [unmasked_out ho, unmasked_out ((k.outOf hD).1 ho)]
     exact k.obj l hl
   · rw [unmasked_in ho, unmasked_in (fun h => ho ((k.outOf hD).2 h))]
     exact h.frm.obj l hl
 · rw [unmasked_in (na l hl)]; exact h.frm.dead l hl
 · rw [unmasked_in (nx l hl), (h.kx l hl).1, masked_in (nx l hl)]
 · rw [unmasked_in (na l hl), (h.ka l hl).1, masked_in (na l hl)]
theorem sameAt_frm {D : Nat → Prop} {A X A' X' : St} (k : Frm D A X) (k' : Frm D A' X') {q : Option (TypeId × Nat)} {l : Nat} (h : sameAt E q l A A' = true) : sameAt E q l X X' = true := by
 unfold sameAt at h ⊢
 split at h
 · split at h
   · rename_i h1 h2
     rw [(k.objc h1).2, (k'.objc h2).2]
     exact h
   · cases h
 · cases h
theorem drawGo_does (hc : CallFrm call) {nt : Nat} {ops : Array Oper} {m : PM Nat} {b0 : Nat} (hD : ∀ l, D l → l < b0) : ∀ (rest : List Oper) (i : Nat) (tm tm' : PM AV) (A A' X : St) (hi : List (Nat × St × St)) (ls : List (Nat × Nat × Option (TypeId × Nat))), Frm D A X →
 evDrawGo E call nt ops m b0 i rest tm A = some (tm', A', hi, ls) → ∃ X' hi', evDrawGo E call nt ops m b0 i rest tm X = some (tm', X', hi', ls) ∧ Stp D A X A' X' ∧ ∀ n p, loadOk E ops m b0 n hi p = true → loadOk E ops m b0 n hi' p = true
 | [], i, tm, tm', A, A', X, hi, ls, k, h => by
  simp only [evDrawGo, Option.some.injEq, Prod.mk.injEq] at h
  obtain ⟨rfl, rfl, rfl, rfl⟩ := h
  exact ⟨X, [], rfl, Stp.refl k, fun _ _ h => h⟩
 | o :: r, i, tm, tm', A, A', X, hi, ls, k, h => by
  simp only [evDrawGo] at h ⊢
  split at h
  · simp at h
  · rename_i hw
    split at h
    · rename_i tm1 hp
      try simp only [hw, hp]
      exact drawGo_does hc hD r _ _ _ _ _ _ _ _ k h
    · simp at h
  · rename_i hw
    try simp only [hw]
    cases hm : isMk E o with
    | true =>
     simp only [hm, cond_true] at h ⊢
     split at h
     · simp at h
     · rename_i mk hmk
       split at h
       · rename_i tm1 hp
         have k1 := Stp.bear k (n := b0 + i) (fun hd => by have := hD _ hd; omega) mk
         obtain ⟨X2, hi', h2, k2, k3⟩ := drawGo_does hc hD r _ _ _ _ _ _ _ _ k1.frm h
         try simp only [h2]
         exact ⟨X2, hi', rfl, k1.trans k2, k3⟩
       · simp at h
    | false =>
     simp only [hm, cond_false] at h ⊢
     cases hq : loudOp E o.op with
     | true =>
      simp only [hq, cond_true] at h ⊢
      split at h
      · simp at h
      · rename_i v S1 hev
        obtain ⟨X1, h1, k1⟩ := plain_does hc o (k.masked hD) hev
        split at h
        · rename_i tm1 hp
          split at h
          · rename_i tm2 S2 hist ls2 hgo
            have k2 := Stp.unmasked k hD k1
            obtain ⟨X2, hi', h2, k3, k4⟩ := drawGo_does hc hD r _ _ _ _ _ _ _ _ k2.frm hgo
            simp only [Option.some.injEq, Prod.mk.injEq] at h
            obtain ⟨rfl, rfl, rfl, rfl⟩ := h
            try simp only [h1, hp, h2]
            refine ⟨X2, _, rfl, k2.trans k3, fun n p hp2 => ?_⟩
            have k5 := k4 n p
            simp only [loadOk, List.all_cons, Bool.and_eq_true] at hp2 k5 ⊢
            have e1 : X.no = A.no := k.no
            have e2 : X.ver p.2.1 = A.ver p.2.1 := k.ver p.2.1
            have e3 : (X1.unmasked X (mkAt E ops) m b0 i).ver p.2.1 = (S1.unmasked A (mkAt E ops) m b0 i).ver p.2.1 := k2.frm.ver p.2.1
            obtain ⟨⟨h1, h2⟩, h3⟩ := hp2
            obtain ⟨k6, k7⟩ := k5 ⟨h2, h3⟩
            refine ⟨⟨?_, k6⟩, k7⟩
            rw [e1, e2, e3]
            simp only [Bool.or_eq_true] at h1 ⊢
            rcases h1 with h1 | h1
            · exact .inl h1
            · exact .inr (sameAt_frm k k2.frm h1)
          · simp at h
        · simp at h
     | false =>
      simp only [hq, cond_false] at h ⊢
      split at h
      · simp at h
      · rename_i v S1 hev
        obtain ⟨X1, h1, k1⟩ := plain_does hc o k hev
        split at h
        · rename_i tm1 hp
          split at h
          · rename_i tm2 S2 hist ls2 hgo
            obtain ⟨X2, hi', h2, k3, k4⟩ := drawGo_does hc hD r _ _ _ _ _ _ _ _ k1.frm hgo
            simp only [Option.some.injEq, Prod.mk.injEq] at h
            obtain ⟨rfl, rfl, rfl, rfl⟩ := h
            try simp only [h1, hp, h2]
            exact ⟨X2, hi', rfl, k1.trans k3, k4⟩
          · simp at h
        · simp at h
theorem draw_does (hc : CallFrm call) {nt : Nat} {ops : Array Oper} {tm' : PM AV} (k : Frm D A X) (h : evDraw E call nt ops tm A = some (tm', A')) : ∃ X', evDraw E call nt ops tm X = some (tm', X') ∧ Stp D A X A' X' := by
 simp only [evDraw, cond_eq_ite] at h ⊢
 split at h
 · rename_i hp
   split at h
   · rename_i hgo
     split at h
     · rename_i hl
       simp only [Option.some.injEq, Prod.mk.injEq] at h
       obtain ⟨rfl, rfl⟩ := h
       have k0 := Stp.raise k (n := A.no + ops.size) (Nat.le_add_right _ _)
       obtain ⟨X', hi', h1, k1, k2⟩ := drawGo_does hc (fun l hl => k.lt l hl) _ _ _ _ _ _ _ _ _ k0.frm hgo
       rw [if_pos hp, k.no]
       try simp only [h1]
       refine ⟨X', ?_, k0.trans k1⟩
       rw [if_pos]
       exact List.all_eq_true.2 fun p hp => k2 _ p (List.all_eq_true.1 hl p hp)
     · simp at h
   · simp at h
 · simp at h
noncomputable def MFrm (M : Code → Option Run) : Prop := ∀ c r, M c = some r → ∀ (D : Nat → Prop) tm tm' A A' X o, Frm D A X → r tm A = some (o, tm', A') → ∃ X', r tm X = some (o, tm', X') ∧ Stp D A X A' X'
set_option maxHeartbeats 2000000 in
theorem code_does {M : Code → Option Run} (hc : CallFrm call) (hM : MFrm M) {lf nt : Nat} : ∀ (c : Code) (tm tm' : PM AV) (A A' X : St) (o : Out), Frm D A X → evC M E call lf nt c tm A = some (o, tm', A') → ∃ X', evC M E call lf nt c tm X = some (o, tm', X') ∧ Stp D A X A' X' := by
 intro c
 induction c with
 | region id ops draw =>
  intro tm tm' A A' X o k h
  cases draw with
  | false =>
   simp only [evC] at h ⊢
   split at h
   · rename_i h1
     simp only [Option.some.injEq, Prod.mk.injEq] at h
     obtain ⟨rfl, rfl, rfl⟩ := h
     obtain ⟨X', g1, g2⟩ := seq_does hc _ _ _ _ _ _ k h1
     rw [g1]
     exact ⟨X', rfl, g2⟩
   · simp at h
  | true =>
   simp only [evC] at h ⊢
   split at h
   · rename_i h1
     simp only [Option.some.injEq, Prod.mk.injEq] at h
     obtain ⟨rfl, rfl, rfl⟩ := h
     obtain ⟨X', g1, g2⟩ := draw_does hc k h1
     rw [g1]
     exact ⟨X', rfl, g2⟩
   · simp at h
 | seq x y ihx ihy =>
  intro tm tm' A A' X o k h
  simp only [evC] at h ⊢
  split at h
  · rename_i r hr
    exact hM _ _ hr _ _ _ _ _ _ _ k h
  rename_i hMn
  split at h
  · rename_i h1
    obtain ⟨X1, g1, g2⟩ := ihx _ _ _ _ _ _ k h1
    obtain ⟨X2, g3, g4⟩ := ihy _ _ _ _ _ _ g2.frm h
    rw [g1]
    exact ⟨X2, g3, g2.trans g4⟩
  · rename_i hne
    obtain ⟨X1, g1, g2⟩ := ihx _ _ _ _ _ _ k h
    rw [g1]
    refine ⟨X1, ?_, g2⟩
    cases o with
    | nrm => exact absurd h (hne _ _)
    | exit id => rfl
    | ret => rfl
 | cond c x y ihx ihy =>
  intro tm tm' A A' X o k h
  simp only [evC] at h ⊢
  split at h
  · exact ihx _ _ _ _ _ _ k h
  · exact ihy _ _ _ _ _ _ k h
  · simp at h
 | block id c ih =>
  intro tm tm' A A' X o k h
  simp only [evC] at h ⊢
  split at h
  · rename_i h1
    obtain ⟨X1, g1, g2⟩ := ih _ _ _ _ _ _ k h1
    rw [g1]
    simp only [cond_eq_ite] at h ⊢
    split at h
    · rename_i hb
      simp only [Option.some.injEq, Prod.mk.injEq] at h
      obtain ⟨rfl, rfl, rfl⟩ := h
      exact ⟨X1, by simp [hb], g2⟩
    · rename_i hb
      simp only [Option.some.injEq, Prod.mk.injEq] at h
      obtain ⟨rfl, rfl, rfl⟩ := h
      exact ⟨X1, by simp [hb], g2⟩
  · rename_i hne
    obtain ⟨X1, g1, g2⟩ := ih _ _ _ _ _ _ k h
    rw [g1]
    refine ⟨X1, ?_, g2⟩
    cases o with
    | nrm => rfl
    | exit id => exact absurd h (hne _ _ _)
    | ret => rfl
 | loop c ih =>
  intro tm tm' A A' X o k h
  simp only [evC] at h ⊢
  generalize lf = lf' at h ih ⊢
  have key : ∀ (n : Nat) (tm tm' : PM AV) (A A' X : St) (o : Out), Frm D A X → iter (evC M E call lf' nt c) n tm A = some (o, tm', A') → ∃ X', iter (evC M E call lf' nt c) n tm X = some (o, tm', X') ∧ Stp D A X A' X' := by
   intro n
   induction n with
   | zero => intro tm tm' A A' X o k h; simp [iter] at h
   | succ n ihn =>
    intro tm tm' A A' X o k h
    simp only [iter] at h ⊢
    split at h
    · simp at h
    · rename_i h1
      obtain ⟨X1, g1, g2⟩ := ih _ _ _ _ _ _ k h1
      obtain ⟨X2, g3, g4⟩ := ihn _ _ _ _ _ _ g2.frm h
      rw [g1]
      exact ⟨X2, g3, g2.trans g4⟩
    · rename_i h1
      obtain ⟨X1, g1, g2⟩ := ih _ _ _ _ _ _ k h1
      simp only [Option.some.injEq, Prod.mk.injEq] at h
      obtain ⟨rfl, rfl, rfl⟩ := h
      rw [g1]
      exact ⟨X1, rfl, g2⟩
    · rename_i h1
      obtain ⟨X1, g1, g2⟩ := ih _ _ _ _ _ _ k h1
      simp only [Option.some.injEq, Prod.mk.injEq] at h
      obtain ⟨rfl, rfl, rfl⟩ := h
      rw [g1]
      exact ⟨X1, rfl, g2⟩
  exact key _ _ _ _ _ _ _ k h
 | scope c ih => intro tm tm' A A' X o k h; simp only [evC] at h ⊢; exact ih _ _ _ _ _ _ k h
 | skip | label _ | exit _ | ret =>
  intro tm tm' A A' X o k h
  simp only [evC, Option.some.injEq, Prod.mk.injEq] at h ⊢
  obtain ⟨rfl, rfl, rfl⟩ := h
  exact ⟨X, ⟨rfl, rfl, rfl⟩, Stp.refl k⟩
 | _ => intro tm tm' A A' X o k h; simp [evC] at h
theorem round_does (hc : CallFrm call) {nt : Nat} {m : MapLoop} {run : Run} (hr : ∀ tm tm' A A' X o, Frm D A X → run tm A = some (o, tm', A') → ∃ X', run tm X = some (o, tm', X') ∧ Stp D A X A' X')
 {kk : Value} {x : AV} {tm tm' : PM AV} {o : Out} (k : Frm D A X) (h : roundA E call nt m run kk x tm A = some (o, tm', A')) : ∃ X', roundA E call nt m run kk x tm X = some (o, tm', X') ∧ Stp D A X A' X' := by
 unfold roundA at h ⊢
 split at h
 · cases h
 · rename_i tm1 e1
   split at h
   · cases h
   · rename_i tm2 S2 h1
     obtain ⟨X2, g1, k1⟩ := seq_does hc _ _ _ _ _ _ k h1
     split at h
     · rename_i e2
       split at h
       · cases h
       · rename_i tm3 e3
         split at h
         · cases h
         · rename_i tm4 S4 h2
           obtain ⟨X4, g2, k2⟩ := seq_does hc _ _ _ _ _ _ k1.frm h2
           obtain ⟨X5, g3, k3⟩ := hr _ _ _ _ _ _ k2.frm h
           simp only [g1, e2, e3, g2]
           exact ⟨X5, g3, (k1.trans k2).trans k3⟩
     · cases h
theorem last_does (hc : CallFrm call) {nt : Nat} {m : MapLoop} {tm tm' : PM AV} {o : Out} (k : Frm D A X) (h : lastA E call nt m tm A = some (o, tm', A')) : ∃ X', lastA E call nt m tm X = some (o, tm', X') ∧ Stp D A X A' X' := by
 unfold lastA at h ⊢
 split at h
 · cases h
 · rename_i tm1 e1
   split at h
   · cases h
   · rename_i tm2 S2 h1
     obtain ⟨X2, g1, k1⟩ := seq_does hc _ _ _ _ _ _ k h1
     split at h
     · rename_i e2
       simp only [Option.some.injEq, Prod.mk.injEq] at h
       obtain ⟨rfl, rfl, rfl⟩ := h
       simp only [g1, e2]
       exact ⟨X2, rfl, k1⟩
     · cases h
theorem Frm.clean (k : Frm D A X) : Frm D A.clean X.clean := ⟨k.no, k.nid, k.sp, k.ity, rfl, k.obj, k.shp, k.dead, k.lt⟩
theorem Frm.there (k : Frm D A X) {l : Nat} (h : there A l = true) : there X l = true := by
 unfold Go.Abs.there at h ⊢
 split at h
 · cases h
 · cases h
 · rename_i o hn ho
   rw [(k.get ho hn).2]
   cases o <;> first | rfl | exact absurd rfl hn
mutual
theorem Frm.oldA (k : Frm D A X) : ∀ x, oldA A x = true → oldA X x = true
 | .ptr l _, h => by simp only [Go.Abs.oldA] at h ⊢; exact k.there h
 | .osl l _ _ _ _, h => by simp only [Go.Abs.oldA] at h ⊢; exact k.there h
 | .mp l, h => by simp only [Go.Abs.oldA] at h ⊢; exact k.there h
 | .eptr cs _, h => by simp only [Go.Abs.oldA] at h ⊢; exact Frm.oldL k cs h
 | .vec _ _ xs, h => by simp only [Go.Abs.oldA] at h ⊢; exact Frm.oldL k xs h
 | .udat _ xs, h => by simp only [Go.Abs.oldA] at h ⊢; exact Frm.oldL k xs h
 | .agg cs, h => by simp only [Go.Abs.oldA] at h ⊢; exact Frm.oldL k cs h
 | .tup vs, h => by simp only [Go.Abs.oldA] at h ⊢; exact Frm.oldL k vs h
 | .fn _ a b, h => by
  simp only [Go.Abs.oldA, Bool.and_eq_true] at h ⊢
  exact ⟨Frm.oldL k a h.1, Frm.oldL k b h.2⟩
 | .ifc _ v, h => by simp only [Go.Abs.oldA] at h ⊢; exact Frm.oldA k v h
 | .undef, _ => rfl
 | .sc _, _ => rfl
theorem Frm.oldL (k : Frm D A X) : ∀ l, oldL A l = true → oldL X l = true
 | [], _ => rfl
 | x :: l, h => by
  simp only [Go.Abs.oldL, Bool.and_eq_true] at h ⊢
  exact ⟨Frm.oldA k x h.1, Frm.oldL k l h.2⟩
end
theorem still_does (k : Frm D A X) (k' : Frm D A' X') : still X X' = still A A' := by simp only [still, k'.wr, k'.nid, k.nid, k.no]
theorem one_does (hc : CallFrm call) {nt : Nat} {m : MapLoop} {ops : Array Oper} {mo ko vo : Operand} {e : Value × AV} {tm : PM AV} {l : Nat} {kk : Value} {x : AV} (k : Frm D A X)
 (h : copyOne E call nt m ops mo ko vo e tm A = some (l, kk, x, A')) : ∃ X', copyOne E call nt m ops mo ko vo e tm X = some (l, kk, x, X') ∧ Stp D A X A' X' := by
 unfold copyOne at h ⊢
 split at h
 · rename_i tm' S' hr
   obtain ⟨X', g1, k1⟩ := round_does hc (fun tm tm' A A' X o k h => by
    unfold copyRun at h ⊢
    split at h
    · rename_i h1
      simp only [Option.some.injEq, Prod.mk.injEq] at h
      obtain ⟨rfl, rfl, rfl⟩ := h
      obtain ⟨X2, g2, k2⟩ := seq_does hc _ _ _ _ _ _ k h1
      rw [g2]
      exact ⟨X2, rfl, k2⟩
    · cases h) k hr
   rw [g1]
   split at h
   · rename_i e1 e2
     simp only [Option.some.injEq, Prod.mk.injEq] at h
     obtain ⟨rfl, rfl, rfl, rfl⟩ := h
     simp only [e1, e2]
     exact ⟨X', rfl, k1⟩
   · cases h
 · cases h
theorem all_does (hc : CallFrm call) {nt : Nat} {m : MapLoop} {ops : Array Oper} {mo ko vo : Operand} {d : TypeDesc} {ld : Nat} {tm : PM AV} (k : Frm D A X) : ∀ (es acc : List (Value × AV)) {r : List (Value × AV)},
 copyAll E call nt m ops mo ko vo d ld tm A es acc = some r → copyAll E call nt m ops mo ko vo d ld tm X es acc = some r
 | [], acc, r, h => h
 | e :: es, acc, r, h => by
  simp only [copyAll] at h ⊢
  split at h
  · rename_i l kk x S' h1
    obtain ⟨X', g1, k1⟩ := one_does hc k h1
    rw [g1]
    simp only
    split at h
    · rename_i hs
      simp only [cond_eq_ite] at h ⊢
      split at h
      · rename_i hb
        simp only [Bool.and_eq_true] at hb
        rw [if_pos (by simp only [Bool.and_eq_true]; exact ⟨⟨⟨hb.1.1.1, by rw [still_does k k1.frm]; exact hb.1.1.2⟩, k.oldA x hb.1.2⟩, hb.2⟩)]
        exact all_does hc k es _ h
      · cases h
    · cases h
  · cases h
theorem scan_does (hc : CallFrm call) {nt : Nat} {m : MapLoop} {run : Run} (hr : ∀ tm tm' A A' X o, Frm D A X → run tm A = some (o, tm', A') → ∃ X', run tm X = some (o, tm', X') ∧ Stp D A X A' X') {tm : PM AV} {es : List (Value × AV)} (k : Frm D A X)
 (h : scanA E call nt m run es tm A = true) : scanA E call nt m run es tm X = true := by
 unfold scanA at h ⊢
 rw [List.all_eq_true] at h ⊢
 intro e he
 have := h e he
 split at this
 · rename_i o tm' S' h1
   obtain ⟨X', g1, k1⟩ := round_does hc hr k h1
   rw [g1]
   simp only [still_does k k1.frm]
   exact this
 · cases this
set_option maxHeartbeats 2000000 in
theorem mac_does (hc : CallFrm call) {nt : Nat} {m : MapLoop} {run : Run} (hr : ∀ (D : Nat → Prop) tm tm' A A' X o, Frm D A X → run tm A = some (o, tm', A') → ∃ X', run tm X = some (o, tm', X') ∧ Stp D A X A' X') {tm tm' : PM AV} {o : Out} (k : Frm D A X)
 (h : macA E call nt m run tm A = some (o, tm', A')) : ∃ X', macA E call nt m run tm X = some (o, tm', X') ∧ Stp D A X A' X' := by
 unfold macA at h ⊢
 split at h
 · cases h
 · rename_i tm1 S1 h1
   obtain ⟨X1, g1, k1⟩ := seq_does hc _ _ _ _ _ _ k h1
   rw [g1]
   have k2 := Stp.newRaw k1.frm .dead
   have kf : ∀ l es, ¬ D l → Frm D (S1.fixed l es) (X1.fixed l es) := fun l es hl => (Stp.put (Stp.newRaw k1.frm .raw).frm hl (.mpx es)).frm.clean
   split at h
   · rename_i kt et l hu hl
     simp only [hu, hl]
     split at h
     · rename_i es tm2 hes hp
       obtain ⟨hd, hx⟩ := k1.frm.mpOf hes
       simp only [hx, k1.frm.no, hp]
       simp only [cond_eq_ite] at h ⊢
       split at h
       · cases h
       · rename_i hw
         rw [if_neg hw]
         split at h
         · rename_i hcb
           split at h
           · rename_i hs
             rw [if_pos (scan_does hc (hr D) (kf _ _ hd) hs)]
             obtain ⟨X', g3, k3⟩ := last_does hc k2.frm h
             exact ⟨X', g3, (k1.trans k2).trans k3⟩
           · cases h
         · rename_i ops T mo ko vo hcb
           split at h
           · obtain ⟨X', g3, k3⟩ := last_does hc k2.frm h
             exact ⟨X', g3, (k1.trans k2).trans k3⟩
           · rename_i e es'
             split at h
             · rename_i ld kk x S4 h4
               obtain ⟨X4, g4, k4⟩ := one_does hc (kf _ _ hd) h4
               simp only [g4]
               split at h
               · rename_i kt' et' esd hT hld
                 obtain ⟨hd2, hx2⟩ := k1.frm.mpOf hld
                 simp only [hT, hx2]
                 split at h
                 · rename_i d' hd'
                   split at h
                   · cases h
                   · rename_i hg
                     try simp only [hd']
                     rw [if_neg hg]
                     split at h
                     · rename_i es2 h5
                       rw [all_does hc (Stp.put (kf _ _ hd) hd2 .dead).frm.clean _ _ h5]
                       simp only
                       have k5 := Stp.put k2.frm hd2 (.mp es2)
                       obtain ⟨X', g3, k3⟩ := last_does hc k5.frm h
                       exact ⟨X', g3, ((k1.trans k2).trans k5).trans k3⟩
                     · cases h
                 · cases h
               · cases h
             · cases h
     · cases h
   · cases h
theorem mac0_does : MFrm mac0 := fun c r h => by simp [mac0] at h
theorem mac1_does (hc : CallFrm call) (lf nt : Nat) : MFrm (mac1 E call lf nt) := by
 intro c r h
 unfold mac1 at h
 split at h
 · rename_i m hm
   simp only [Option.some.injEq] at h
   subst h
   intro D tm tm' A A' X o k h
   refine mac_does (run := evC mac0 E call lf nt m.body) hc (fun D2 tm2 tm2' A2 A2' X2 o2 k2 h2 => ?_) k h
   exact code_does hc mac0_does m.body tm2 tm2' A2 A2' X2 o2 k2 h2
 · cases h
theorem resA_does (k : Frm D A X) {r : ResultVar} {v : AV} (h : resA E tm A r = some v) : resA E tm X r = some v := by
 cases r with
 | tmp t => exact h
 | cell x t =>
  simp only [resA] at h ⊢
  split at h
  · rename_i l off
    split at h
    · rename_i cs ho
      rw [(k.objc ho).2]
      exact h
    · simp at h
  · exact h
  · simp at h
theorem resAll_does (k : Frm D A X) : ∀ {l : List ResultVar} {vs : List AV}, resAll E tm A l = some vs → resAll E tm X l = some vs
 | [], _, h => h
 | r :: l, vs, h => by
  simp only [resAll] at h ⊢
  split at h
  · rename_i h1 h2
    rw [resA_does k h1, resAll_does k h2]
    exact h
  · simp at h
structure FrmX (E : Env) : Prop where
 frm : ∀ f g, E.X f = some g → ∀ (D : Nat → Prop) A X args r A', Frm D A X → g args A = some (r, A') → Does D A X r A' (g args X)
theorem evF_does (hx : FrmX E) (lf : Nat) : ∀ n, CallFrm (evF E lf n) := by
 intro n
 induction n with
 | zero => intro D A X g args r A' k h; simp [evF] at h
 | succ n ih =>
  intro D A X g args r A' k h
  simp only [evF, cond_eq_ite] at h ⊢
  split at h
  · simp at h
  · split at h
    · rename_i g' hg
      exact hx.frm _ _ hg _ _ _ _ _ _ k h
    · split at h
      · simp at h
      · split at h
        · rename_i hn
          split at h
          · simp at h
          · rename_i o tm S1 hne h1
            obtain ⟨X1, g1, g2⟩ := code_does ih (mac1_does ih _ _) _ _ _ _ _ _ _ k h1
            simp only [Option.map_eq_some_iff, Prod.mk.injEq] at h
            obtain ⟨vs, h2, rfl, rfl⟩ := h
            rw [if_pos hn, g1]
            refine ⟨X1, ?_, g2⟩
            cases o with
            | exit id => exact absurd rfl (hne id)
            | nrm => simp only [resAll_does g2.frm h2]; rfl
            | ret => simp only [resAll_does g2.frm h2]; rfl
          · simp at h
        · simp at h
end
end Go.Abs
end
end
