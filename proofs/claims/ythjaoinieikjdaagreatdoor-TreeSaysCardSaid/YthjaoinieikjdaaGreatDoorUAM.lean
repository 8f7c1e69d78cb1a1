/-
  What runs where objects are out of sight runs the same where they are there.
-/
import Derived.Test.YthjaoinieikjdaaGreatDoorUAL
set_option linter.unusedSimpArgs false
set_option linter.unusedVariables false
namespace Go.Abs
structure Frm (D : Nat → Prop) (A X : St) : Prop where
 no : X.no = A.no
 nid : X.nid = A.nid
 sp : ∀ i, X.spent.get i = A.spent.get i
 ity : ∀ i, X.ity.get i = A.ity.get i
 wr : X.wr = A.wr
 obj : ∀ l, ¬ D l → X.objs.get l = A.objs.get l
 shp : ∀ l, ¬ D l → X.shp.get l = A.shp.get l
 dead : ∀ l, D l → iA (A.objs.get l)
 lt : ∀ l, D l → l < A.no
theorem Frm.ver {D : Nat → Prop} {A X : St} (h : Frm D A X) (l : Nat) : X.ver l = A.ver l := by simp only [St.ver, h.wr]
noncomputable def Kept (D : Nat → Prop) (X X' : St) : Prop := ∀ l, D l → X'.objs.get l = X.objs.get l ∧ X'.shp.get l = X.shp.get l
structure Stp (D : Nat → Prop) (A X A' X' : St) : Prop where
 frm : Frm D A' X'
 kx : Kept D X X'
 ka : Kept D A A'
noncomputable def dX (D : Nat → Prop) (A X : St) (v : AV) (A' : St) (Y : Option (AV × St)) : Prop := ∃ X', Y = some (v, X') ∧ Stp D A X A' X'
section
variable {D : Nat → Prop} {A X A' X' : St} {E : Env} {v : AV} {tm : PM AV} {call : eS}
theorem Stp.refl (h : Frm D A X) : Stp D A X A X := ⟨h, fun _ _ => ⟨rfl, rfl⟩, fun _ _ => ⟨rfl, rfl⟩⟩
theorem Stp.trans {A2 X2 : St} (h : Stp D A X A' X') (k : Stp D A' X' A2 X2) : Stp D A X A2 X2 :=
 ⟨k.frm, fun l hl => ⟨(k.kx l hl).1.trans (h.kx l hl).1, (k.kx l hl).2.trans (h.kx l hl).2⟩, fun l hl => ⟨(k.ka l hl).1.trans (h.ka l hl).1, (k.ka l hl).2.trans (h.ka l hl).2⟩⟩
theorem Frm.acc (h : Frm D A X) {l : Nat} (ha : ¬ iA (A.objs.get l)) : ¬ D l := fun hd => ha (h.dead l hd)
theorem Frm.get (h : Frm D A X) {l : Nat} {o : AObj} (ho : A.objs.get l = some o) (hn : o ≠ .dead) : ¬ D l ∧ X.objs.get l = some o := by
 have : ¬ D l := h.acc (by rw [ho]; rintro (h | h) <;> cases h; exact hn rfl)
 exact ⟨this, (h.obj l this).trans ho⟩
theorem Frm.objc (h : Frm D A X) {l : Nat} {cs : List AV} (ho : A.obj l = some cs) : ¬ D l ∧ X.obj l = some cs := by
 have h1 := sB ho
 obtain ⟨k1, k2⟩ := h.get h1 (by simp)
 exact ⟨k1, by simp [St.obj, k2]⟩
theorem Frm.mapc (h : Frm D A X) {l : Nat} {es : List (Value × AV)} (ho : A.map l = some es) : ¬ D l ∧ X.map l = some es := by
 rcases wt3 ho with h1 | h1
 all_goals
  obtain ⟨k1, k2⟩ := h.get h1 (by simp)
  exact ⟨k1, by simp [St.map, k2]⟩
theorem Frm.live (h : Frm D A X) (id : Nat) : X.live id = A.live id := by simp only [St.live, h.nid, h.sp]
theorem Frm.ityIs (h : Frm D A X) (id : Nat) (e : TypeId) : X.ityIs id e = A.ityIs id e := by simp only [St.ityIs, h.ity]
theorem Stp.put (h : Frm D A X) {l : Nat} (hl : ¬ D l) (o : AObj) : Stp D A X (A.put l o) (X.put l o) := by
 refine ⟨⟨h.no, h.nid, h.sp, h.ity, by simp only [St.put, h.wr, h.ver], fun k hk => ?_, h.shp, fun k hk => ?_, h.lt⟩, fun k hk => ⟨?_, rfl⟩, fun k hk => ⟨?_, rfl⟩⟩
 · simp only [St.put, PM.get_set]
   split
   · rfl
   · exact h.obj k hk
 · have : k ≠ l := fun e => hl (e ▸ hk)
   simp only [St.put, PM.get_set, aR this]
   exact h.dead k hk
 all_goals
  have : k ≠ l := fun e => hl (e ▸ hk)
  simp only [St.put, PM.get_set, aR this]
theorem Stp.newRaw (h : Frm D A X) (o : AObj) : Stp D A X (A.newRaw o) (X.newRaw o) := by
 refine ⟨⟨by simp [St.newRaw, h.no], h.nid, h.sp, h.ity, h.wr, fun k hk => ?_, h.shp, fun k hk => ?_, fun k hk => by have := h.lt k hk; simp [St.newRaw]; omega⟩, fun k hk => ⟨?_, rfl⟩, fun k hk => ⟨?_, rfl⟩⟩
 · simp only [St.newRaw, PM.get_set, h.no]
   split
   · rfl
   · exact h.obj k hk
 all_goals
  have h1 := h.lt k hk
  have h2 := h.no
  simp only [St.newRaw, PM.get_set]
  rw [aR (by omega)]
 exact h.dead k hk
theorem Stp.bear (h : Frm D A X) {n : Nat} (hn : ¬ D n) (m : Mk) : Stp D A X (A.bear n m) (X.bear n m) := by
 have shp : ∀ (S : St) k, (S.bear n m).shp.get k = if k = n ∧ m.sh.isSome then m.sh else S.shp.get k := fun S k => by
  simp only [St.bear]
  cases m.sh with
  | none => simp
  | some p => simp only [PM.get_set]; by_cases hk : k = n <;> simp [hk]
 refine ⟨⟨h.no, h.nid, h.sp, h.ity, h.wr, fun k hk => ?_, fun k hk => ?_, fun k hk => ?_, h.lt⟩, fun k hk => ⟨?_, ?_⟩, fun k hk => ⟨?_, ?_⟩⟩
 · simp only [St.bear, PM.get_set]
   split
   · rfl
   · exact h.obj k hk
 · rw [shp, shp]
   split
   · rfl
   · exact h.shp k hk
 all_goals
  have : k ≠ n := fun e => hn (e ▸ hk)
  first
   | (rw [shp, aR (fun h => this h.1)]; done)
   | (simp only [St.bear, PM.get_set, aR this]; done)
   | (simp only [St.bear, PM.get_set, aR this]; exact h.dead k hk)
theorem Stp.raise (h : Frm D A X) {n : Nat} (hn : A.no ≤ n) : Stp D A X { A with no := n } { X with no := n } :=
 ⟨⟨rfl, h.nid, h.sp, h.ity, h.wr, h.obj, h.shp, h.dead, fun k hk => by have := h.lt k hk; show k < n; omega⟩, fun _ _ => ⟨rfl, rfl⟩, fun _ _ => ⟨rfl, rfl⟩⟩
theorem Stp.bearNext (h : Frm D A X) (m : Mk) : Stp D A X (A.bearNext m) (X.bearNext m) := by
 have hn : ¬ D A.no := fun hd => by have := h.lt _ hd; omega
 have h1 := Stp.bear h hn m
 have h2 := Stp.raise h1.frm (n := A.no + 1) (nV _)
 simp only [St.bearNext, h.no]
 exact h1.trans h2
theorem Stp.newId (h : Frm D A X) (T : TypeId) : Stp D A X (A.newId T) (X.newId T) :=
 ⟨⟨h.no, by simp [St.newId, h.nid], h.sp, fun i => by simp only [St.newId, PM.get_set, h.nid, h.ity], h.wr, h.obj, h.shp, h.dead, h.lt⟩, fun _ _ => ⟨rfl, rfl⟩, fun _ _ => ⟨rfl, rfl⟩⟩
theorem Stp.newIdX (h : Frm D A X) : Stp D A X A.newIdX X.newIdX :=
 ⟨⟨h.no, by simp [St.newIdX, h.nid], h.sp, h.ity, h.wr, h.obj, h.shp, h.dead, h.lt⟩, fun _ _ => ⟨rfl, rfl⟩, fun _ _ => ⟨rfl, rfl⟩⟩
theorem Stp.spend (h : Frm D A X) (k : Nat) : Stp D A X { A with spent := A.spent.set k () } { X with spent := X.spent.set k () } :=
 ⟨⟨h.no, h.nid, fun i => by simp only [PM.get_set, h.sp], h.ity, h.wr, h.obj, h.shp, h.dead, h.lt⟩, fun _ _ => ⟨rfl, rfl⟩, fun _ _ => ⟨rfl, rfl⟩⟩
noncomputable def kE (call : eS) : Prop := ∀ (D : Nat → Prop) A X g args r A', Frm D A X → call g args A = some (r, A') → dX D A X r A' (call g args X)
theorem cW {x : AV} {A1 X1 : St} (k : Stp D A X A1 X1) (h : some (x, A1) = some (v, A')) : dX D A X v A' (some (x, X1)) := by
 simp only [aI, aJ] at h
 obtain ⟨rfl, rfl⟩ := h
 exact ⟨X1, rfl, k⟩
theorem eI {Y : Option (AV × St)} (h : (none : Option (AV × St)) = some (v, A')) : dX D A X v A' Y := by simp at h
theorem bM {α : Type} {M : Option α} {f : α → AV} (k : Frm D A X) (h : M.map (fun a => (f a, A)) = some (v, A')) : dX D A X v A' (M.map fun a => (f a, X)) := by
 simp only [dR, aJ] at h
 obtain ⟨a, h1, rfl, rfl⟩ := h
 exact ⟨X, by rw [h1]; rfl, Stp.refl k⟩
theorem dS {c : Bool} {Y Z Y2 Z2 : Option (AV × St)} (hx : Y = some (v, A') → dX D A X v A' Y2) (hy : Z = some (v, A') → dX D A X v A' Z2) (h : (bif c then Y else Z) = some (v, A')) : dX D A X v A' (bif c then Y2 else Z2) := by
 cases c
 · exact hy h
 · exact hx h
theorem wt0 {l : Nat} {f f2 : List AV → Option (AV × St)} (k : Frm D A X) (hf : ∀ cs, ¬ D l → A.obj l = some cs → f cs = some (v, A') → dX D A X v A' (f2 cs))
 (h : (match A.obj l with | some cs => f cs | none => none) = some (v, A')) : dX D A X v A' (match X.obj l with | some cs => f2 cs | none => none) := by
 cases ho : A.obj l with
 | none => simp [ho] at h
 | some cs =>
  obtain ⟨h1, h2⟩ := k.objc ho
  rw [h2]
  rw [ho] at h
  exact hf cs h1 ho h
theorem kb5 {t : TypeId} {x : AV} (k : Frm D A X) (h : mX E t x A = some (v, A')) : dX D A X v A' (mX E t x X) := by
 unfold mX at *
 cases x with
 | ptr l off => exact wt0 k (fun cs _ _ h => bM (f := id) k h) h
 | eptr cs off => exact bM (f := id) k h
 | _ => simp at h
theorem wl2 {t : TypeId} {x y : AV} (k : Frm D A X) (h : rF E t x y A = some (v, A')) : dX D A X v A' (rF E t x y X) := by
 unfold rF at *
 cases x with
 | ptr l off =>
  cases hy : cellsOf y with
  | none => simp [hy] at h
  | some vs =>
   cases hi : E.inf t with
   | none => simp [hy, hi] at h
   | some i =>
    simp only [hy, hi] at h ⊢
    exact wt0 k (fun cs hd _ h => dS (cW (Stp.put k hd _)) eI h) h
 | _ => simp at h
theorem wl7 {t : TypeId} {x : AV} {lo hi : Option AV} (k : Frm D A X) (h : fN E t x lo hi A = some (v, A')) : dX D A X v A' (fN E t x lo hi X) := by
 cases x with
 | ptr l off =>
  simp only [fN] at h ⊢
  cases ho : A.obj l with
  | none =>
   rw [ho] at h
   revert h
   repeat' (first | exact eI | exact cW (Stp.refl k) | exact bM k | exact bM (f := id) k | refine dS ?_ ?_ | contradiction | split)
  | some cs =>
   obtain ⟨_, h2⟩ := k.objc ho
   rw [ho] at h
   rw [h2]
   revert h
   repeat' (first | exact eI | exact cW (Stp.refl k) | exact bM k | exact bM (f := id) k | refine dS ?_ ?_ | contradiction | split)
 | _ =>
  simp only [fN] at h ⊢
  revert h
  repeat' (first | exact eI | exact cW (Stp.refl k) | exact bM k | exact bM (f := id) k | refine dS ?_ ?_ | contradiction | split)
theorem wd1 {t : TypeId} {x : AV} {lo : Option AV} {hi mx : AV} (k : Frm D A X) (h : rB E t x lo hi mx A = some (v, A')) : dX D A X v A' (rB E t x lo hi mx X) := by
 simp only [rB] at h ⊢
 revert h
 repeat' (first | exact eI | exact cW (Stp.refl k) | exact bM k | exact bM (f := id) k | refine dS ?_ ?_ | contradiction | split)
theorem wm4 {agg : Bool} {l sz off len : Nat} {xs : List AV} (k : Frm D A X) (h : A.oslElems agg l sz off len = some xs) : X.oslElems agg l sz off len = some xs := by
 unfold St.oslElems at *
 cases ho : A.obj l with
 | none => simp [ho] at h
 | some cs =>
  rw [(k.objc ho).2]
  rw [ho] at h
  exact h
theorem wa4 {mu : Bool} {t u : TypeId} {x : AV} (k : Frm D A X) (h : gH E mu t u x A = some (v, A')) : dX D A X v A' (gH E mu t u x X) := by
 unfold gH at h ⊢
 refine dS (fun h => ?_) (fun h => ?_) h
 · simp only [k.nid]
   revert h
   repeat' (first | exact cW (Stp.newIdX k) | exact eI | exact cW (Stp.refl k) | exact bM k | exact bM (f := id) k | refine dS ?_ ?_ | contradiction | split)
 · cases x with
   | ptr l off =>
    simp only at h ⊢
    cases ho : A.obj l with
    | none =>
     simp only [ho] at h
     revert h
     repeat' (first | exact eI | exact cW (Stp.refl k) | exact bM k | exact bM (f := id) k | refine dS ?_ ?_ | contradiction | split)
    | some cs =>
     obtain ⟨h1, h2⟩ := k.objc ho
     simp only [ho] at h
     simp only [h2, k.shp l h1]
     revert h
     repeat' (first | exact eI | exact cW (Stp.refl k) | exact bM k | exact bM (f := id) k | refine dS ?_ ?_ | contradiction | split)
   | osl l sz off len room =>
    simp only at h ⊢
    cases ho : A.oslElems false l sz off len with
    | none =>
     simp only [ho] at h
     revert h
     repeat' (first | exact eI | exact cW (Stp.refl k) | exact bM k | exact bM (f := id) k | refine dS ?_ ?_ | contradiction | split)
    | some xs =>
     simp only [ho] at h
     simp only [wm4 k ho]
     revert h
     repeat' (first | exact eI | exact cW (Stp.refl k) | exact bM k | exact bM (f := id) k | refine dS ?_ ?_ | contradiction | split)
   | _ =>
    simp only at h ⊢
    revert h
    repeat' (first | exact eI | exact cW (Stp.refl k) | exact bM k | exact bM (f := id) k | refine dS ?_ ?_ | contradiction | split)
theorem wp7 {t : TypeId} {ps : List (Nat × AV)} (k : Frm D A X) (h : jG E t ps A = some (v, A')) : dX D A X v A' (jG E t ps X) := by
 simp only [jG] at h ⊢
 revert h
 repeat' (first | exact eI | exact cW (Stp.refl k) | exact bM k | exact bM (f := id) k | refine dS ?_ ?_ | contradiction | split)
theorem xf5 {t : TypeId} {len : Nat} {ps : List (Nat × AV)} (k : Frm D A X) (h : gE E t len ps A = some (v, A')) : dX D A X v A' (gE E t len ps X) := by
 simp only [gE] at h ⊢
 revert h
 repeat' (first | exact eI | exact cW (Stp.refl k) | exact bM k | exact bM (f := id) k | refine dS ?_ ?_ | contradiction | split)
theorem xl8 {t : TypeId} {x y : AV} (k : Frm D A X) (h : tD E t x y A = some (v, A')) : dX D A X v A' (tD E t x y X) := by
 simp only [tD, k.nid] at h ⊢
 revert h
 repeat' (first | exact cW (Stp.newId k _) | exact eI | exact cW (Stp.refl k) | exact bM k | exact bM (f := id) k | refine dS ?_ ?_ | contradiction | split)
theorem ka8 {x : AV} {b : Bool} (k : Frm D A X) (h : qI x b A = some (v, A')) : dX D A X v A' (qI x b X) := by
 unfold qI at *
 split at h
 · rename_i l
   split at h
   · rename_i s pos ho
     obtain ⟨h1, h2⟩ := k.get ho (by simp)
     simp only [h2]
     exact dS (cW (Stp.put k h1 _)) (cW (Stp.refl k)) h
   · simp at h
 · simp at h
theorem wf3 {t : TypeId} {x ix : AV} {b : Bool} (k : Frm D A X) (h : iT E t x ix b A = some (v, A')) : dX D A X v A' (iT E t x ix b X) := by
 cases x with
 | mp l =>
  simp only [iT] at h ⊢
  cases ho : A.map l with
  | none =>
   simp only [ho] at h
   revert h
   repeat' (first | exact eI | exact cW (Stp.refl k) | exact bM k | exact bM (f := id) k | refine dS ?_ ?_ | contradiction | split)
  | some es =>
   obtain ⟨_, h2⟩ := k.mapc ho
   simp only [ho] at h
   simp only [h2]
   revert h
   repeat' (first | exact eI | exact cW (Stp.refl k) | exact bM k | exact bM (f := id) k | refine dS ?_ ?_ | contradiction | split)
 | sc u =>
  cases u with
  | map r =>
   cases r with
   | none =>
    simp only [iT] at h ⊢
    revert h
    repeat' (first | exact eI | exact cW (Stp.refl k) | exact bM k | exact bM (f := id) k | refine dS ?_ ?_ | contradiction | split)
   | some r =>
    simp only [iT] at h ⊢
    revert h
    repeat' (first | exact eI | exact cW (Stp.refl k) | exact bM k | exact bM (f := id) k | refine dS ?_ ?_ | contradiction | split)
  | _ =>
   simp only [iT] at h ⊢
   revert h
   repeat' (first | exact eI | exact cW (Stp.refl k) | exact bM k | exact bM (f := id) k | refine dS ?_ ?_ | contradiction | split)
 | _ =>
  simp only [iT] at h ⊢
  revert h
  repeat' (first | exact eI | exact cW (Stp.refl k) | exact bM k | exact bM (f := id) k | refine dS ?_ ?_ | contradiction | split)
theorem yo1 {t : TypeId} {m i x : AV} (k : Frm D A X) (h : oY E t m i x A = some (v, A')) : dX D A X v A' (oY E t m i x X) := by
 unfold oY at *
 split at h
 · rename_i h1 h2
   split at h
   · rename_i h3 ho
     obtain ⟨g1, g2⟩ := k.mapc ho
     simp only [h3, g2]
     exact dS (cW (Stp.put k g1 _)) eI h
   · simp at h
 · simp at h
theorem wi3 {ats : List TypeId} {xs : List AV} (k : Frm D A X) (h : sD E ats xs A = some (v, A')) : dX D A X v A' (sD E ats xs X) := by
 unfold sD at *
 split at h
 · split at h
   · rename_i h1 h2
     split at h
     · rename_i h3 ho
       obtain ⟨g1, g2⟩ := k.mapc ho
       simp only [h3, g2]
       exact dS (cW (Stp.put k g1 _)) eI h
     · simp at h
   · simp at h
 · simp at h
theorem wc8 {sz n : Nat} {x : AV} {vs : List AV} (k : Frm D A X) (h : uH A sz n x = some vs) : uH X sz n x = some vs := by
 unfold uH at *
 split at h
 · exact h
 · rename_i l sz' off len room
   cases ho : A.obj l with
   | none => simp [ho] at h
   | some cs =>
    simp only [(k.objc ho).2]
    rw [ho] at h
    exact h
 · exact h
 · simp at h
theorem ke8 {ats : List TypeId} {xs : List AV} (k : Frm D A X) (h : tZ E ats xs A = some (v, A')) : dX D A X v A' (tZ E ats xs X) := by
 unfold tZ at *
 split at h
 · split at h
   · split at h
     · rename_i h1 h2 h3 _ _ _ _ _ _ hi hs ho
       obtain ⟨g1, g2⟩ := k.objc ho
       simp only [hi, wc8 k hs, g2]
       exact dS (cW (Stp.put k g1 _)) eI h
     · simp at h
   · simp at h
 · simp at h
theorem wp4 {ats : List TypeId} {xs : List AV} (k : Frm D A X) (h : tU E ats xs A = some (v, A')) : dX D A X v A' (tU E ats xs X) := by
 unfold tU at *
 split at h
 · rename_i t l sz off len room
   cases ho : A.obj l with
   | none =>
    simp only [ho] at h
    revert h
    repeat' (first | exact eI | exact cW (Stp.refl k) | exact bM k | exact bM (f := id) k | refine dS ?_ ?_ | contradiction | split)
   | some cs =>
    obtain ⟨h1, h2⟩ := k.objc ho
    simp only [ho] at h
    simp only [h2]
    revert h
    repeat' (first | exact cW (Stp.put k h1 _) | exact eI | exact cW (Stp.refl k) | exact bM k | exact bM (f := id) k | refine dS ?_ ?_ | contradiction | split)
 · simp at h
theorem xy3 {mu : Bool} {e : TypeId} {sz : Nat} {xs : List AV} (k : Frm D A X) (h : nG mu e sz xs A = some (v, A')) : dX D A X v A' (nG mu e sz xs X) := by
 simp only [nG, k.nid, k.no] at h ⊢
 revert h
 repeat' (first | exact cW (Stp.newId k _) | exact cW (Stp.newRaw k _) | exact eI | exact cW (Stp.refl k) | exact bM k | exact bM (f := id) k | refine dS ?_ ?_ | contradiction | split)
theorem xs0 {sz l off len room : Nat} {ys : List AV} (k : Frm D A X) (h : rV sz l off len room ys A = some (v, A')) : dX D A X v A' (rV sz l off len room ys X) := by
 unfold rV at *
 cases ho : A.obj l with
 | none =>
  simp only [ho] at h
  revert h
  repeat' (first | exact eI | exact cW (Stp.refl k) | exact bM k | exact bM (f := id) k | refine dS ?_ ?_ | contradiction | split)
 | some cs =>
  obtain ⟨h1, h2⟩ := k.objc ho
  simp only [ho] at h
  simp only [h2, k.no]
  revert h
  repeat' (first | exact cW (Stp.put k h1 _) | exact cW ((Stp.put k h1 _).trans (Stp.newRaw (Stp.put k h1 _).frm _)) | exact eI | exact cW (Stp.refl k) | exact bM k | exact bM (f := id) k | refine dS ?_ ?_ | contradiction | split)
theorem yy7 {mu : Bool} {e : TypeId} {ti : TypeInfo} {s : AV} {ys : List AV} (k : Frm D A X) (h : kH mu e ti s ys A = some (v, A')) : dX D A X v A' (kH mu e ti s ys X) := by
 simp only [kH, k.live, k.ityIs, k.nid] at h ⊢
 revert h
 repeat' (first | exact xy3 k | exact xs0 k | exact cW ((Stp.newId k _).trans (Stp.spend (Stp.newId k _).frm _)) | exact eI | exact cW (Stp.refl k) | exact bM k | exact bM (f := id) k | refine dS ?_ ?_ | contradiction | split)
theorem ke3 {agg : Bool} {n : Nat} {x : AV} {xs : List AV} (k : Frm D A X) (h : fG A agg n x = some xs) : fG X agg n x = some xs := by
 unfold fG at *
 split at h
 · simp only [bB] at h ⊢
   split at h
   · rename_i hb
     rw [bN hb]
     exact wm4 k h
   · simp at h
 · exact h
theorem wk0 {mu agg : Bool} {e : TypeId} {ti : TypeInfo} {s x : AV} (k : Frm D A X) (h : lH mu agg e ti s x A = some (v, A')) : dX D A X v A' (lH mu agg e ti s x X) := by
 unfold lH at *
 split at h
 · simp at h
 · rename_i ys hy
   rw [ke3 k hy]
   exact yy7 k h
theorem wa9 {mu : Bool} {b : Builtin} {ats : List TypeId} {xs : List AV} (k : Frm D A X) (h : bD E mu b ats xs A = some (v, A')) : dX D A X v A' (bD E mu b ats xs X) := by
 cases b with
 | copy => exact ke8 k h
 | clear => exact wp4 k h
 | delete => exact wi3 k h
 | append =>
  simp only [bD] at h ⊢
  revert h
  repeat' (first | exact wk0 k | exact yy7 k | exact eI | exact cW (Stp.refl k) | exact bM k | exact bM (f := id) k | refine dS ?_ ?_ | contradiction | split)
 | unsafeString =>
  simp only [bD, k.ity] at h ⊢
  revert h
  repeat' (first | exact eI | exact cW (Stp.refl k) | exact bM k | exact bM (f := id) k | refine dS ?_ ?_ | contradiction | split)
 | len =>
  match ats, xs, h with
  | [t], [x], h =>
   cases x with
   | mp l =>
    simp only [bD] at h ⊢
    cases ho : A.map l with
    | none =>
     simp only [ho, Option.map_none] at h
     revert h
     repeat' (first | exact bM (f := fun n : Nat => AV.sc (.int .i64 n)) k | exact eI | exact cW (Stp.refl k) | exact bM k | exact bM (f := id) k | refine dS ?_ ?_ | contradiction | split)
    | some es =>
     obtain ⟨h1, h2⟩ := k.mapc ho
     simp only [ho, iH] at h
     simp only [h2, iH]
     revert h
     repeat' (first | exact bM (f := fun n : Nat => AV.sc (.int .i64 n)) k | exact eI | exact cW (Stp.refl k) | exact bM k | exact bM (f := id) k | refine dS ?_ ?_ | contradiction | split)
   | _ =>
    simp only [bD] at h ⊢
    revert h
    repeat' (first | exact bM (f := fun n : Nat => AV.sc (.int .i64 n)) k | exact eI | exact cW (Stp.refl k) | exact bM k | exact bM (f := id) k | refine dS ?_ ?_ | contradiction | split)
  | [], _, h => simp [bD] at h
  | [_], [], h => simp [bD] at h
  | [_], _ :: _ :: _, h => simp [bD] at h
  | _ :: _ :: _, _, h => simp [bD] at h
 | _ =>
  simp only [bD] at h ⊢
  revert h
  repeat' (first | exact bM (f := fun x => ofV x) k | exact eI | exact cW (Stp.refl k) | exact bM k | exact bM (f := id) k | refine dS ?_ ?_ | contradiction | split)
theorem kf1 {mu : Bool} {c : Call} (hc : kE call) (k : Frm D A X) (h : mZ E mu call tm c A = some (v, A')) : dX D A X v A' (mZ E mu call tm c X) := by
 obtain ⟨callee, args, ats⟩ := c
 simp only [mZ] at h ⊢
 cases callee with
 | value f =>
  simp only at h ⊢
  split at h
  · split at h
    · exact bM (f := id) k h
    · exact hc D A X _ _ _ _ k h
  · simp at h
 | invoke r m =>
  simp only at h ⊢
  split at h
  · split at h
    · split at h
      · simp at h
      · exact hc D A X _ _ _ _ k h
    · simp at h
  · simp at h
 | builtin b => exact wa9 k h
theorem vE (hc : kE call) (o : Oper) (k : Frm D A X) (h : aW E call tm o A = some (v, A')) : dX D A X v A' (aW E call tm o X) := by
 obtain ⟨dst, op, ty, pos, after, guard⟩ := o
 cases op with
 | load t x => exact kb5 k h
 | store t x y => exact wl2 k h
 | slice t x lo hi mx =>
  cases mx with
  | some m =>
   cases hi with
   | none => simp [aW] at h
   | some hi => exact wd1 k h
  | none => exact wl7 k h
 | convert t u x => exact wa4 k h
 | build t ps => exact wp7 k h
 | buildSlice t n ps => exact xf5 k h
 | makeSlice t x y => exact xl8 k h
 | lookup t x ix b => exact wf3 k h
 | mapUpdate t x y z => exact yo1 k h
 | insert t x y z => exact yo1 k h
 | next x b => exact ka8 k h
 | call c => exact kf1 hc k h
 | _ => first
  | (simp [aW] at h; done)
  | exact ⟨X, (xX (S2 := X) _ (by trivial) h).2, by rw [(xX (S2 := X) _ (by trivial) h).1]; exact Stp.refl k⟩
theorem op_does (hc : kE call) (o : Oper) (k : Frm D A X) (h : eV E call tm o A = some (v, A')) : dX D A X v A' (eV E call tm o X) := by
 unfold eV at *
 refine dS (fun h => ?_) (fun h => vE hc o k h) h
 simp only [dR, aJ] at h
 obtain ⟨m, h1, rfl, rfl⟩ := h
 exact ⟨_, by rw [h1, iH, k.no], Stp.bearNext k m⟩
theorem yh2 (hc : kE call) {nt : Nat} {ops : Array Oper} : ∀ (rest : List Oper) (tm tm' : PM AV) (A A' X : St), Frm D A X → eP E call nt ops rest tm A = some (tm', A') → ∃ X', eP E call nt ops rest tm X = some (tm', X') ∧ Stp D A X A' X'
 | [], tm, tm', A, A', X, k, h => by
  simp only [eP, aI, aJ] at h
  obtain ⟨rfl, rfl⟩ := h
  exact ⟨X, rfl, Stp.refl k⟩
 | o :: r, tm, tm', A, A', X, k, h => by
  simp only [eP] at h ⊢
  split at h
  · simp at h
  · rename_i hw
    split at h
    · rename_i tm1 hp
      try simp only [hw, hp]
      exact yh2 hc r _ _ _ _ _ k h
    · simp at h
  · rename_i hw
    split at h
    · simp at h
    · rename_i v S1 hev
      obtain ⟨X1, h1, k1⟩ := op_does hc o k hev
      split at h
      · rename_i tm1 hp
        obtain ⟨X2, h2, k2⟩ := yh2 hc r _ _ _ _ _ k1.frm h
        try simp only [h1, hp, h2]
        exact ⟨X2, rfl, k1.trans k2⟩
      · simp at h
theorem Frm.outOf (k : Frm D A X) {mk : Nat → Bool} {m : PM Nat} {b0 j l : Nat} (hD : ∀ l, D l → l < b0) : Abs.outOf mk m b0 j A l ↔ Abs.outOf mk m b0 j X l := by
 unfold Abs.outOf
 by_cases hd : D l
 · have := hD l hd
   constructor <;> (rintro ⟨i, h1, h2, _⟩; omega)
 · rw [k.obj l hd]
theorem Frm.masked (k : Frm D A X) {mk : Nat → Bool} {m : PM Nat} {b0 j : Nat} (hD : ∀ l, D l → l < b0) : Frm D (A.masked mk m b0 j) (X.masked mk m b0 j) := by
 refine ⟨k.no, k.nid, k.sp, k.ity, k.wr, fun l hl => ?_, k.shp, fun l hl => ?_, k.lt⟩
 · by_cases ho : Abs.outOf mk m b0 j A l
   · rw [tC ho, tC ((k.outOf hD).1 ho)]
   · rw [lV ho, lV (fun h => ho ((k.outOf hD).2 h))]
     exact k.obj l hl
 · have : ¬ Abs.outOf mk m b0 j A l := by rintro ⟨i, h1, h2, _⟩; have := hD l hl; omega
   rw [lV this]
   exact k.dead l hl
theorem Stp.unmasked (k : Frm D A X) {mk : Nat → Bool} {m : PM Nat} {b0 j : Nat} (hD : ∀ l, D l → l < b0) (h : Stp D (A.masked mk m b0 j) (X.masked mk m b0 j) A' X') : Stp D A X (A'.unmasked A mk m b0 j) (X'.unmasked X mk m b0 j) := by
 have na : ∀ l, D l → ¬ Abs.outOf mk m b0 j A l := fun l hl => by rintro ⟨i, h1, h2, _⟩; have := hD l hl; omega
 have nx : ∀ l, D l → ¬ Abs.outOf mk m b0 j X l := fun l hl => by rintro ⟨i, h1, h2, _⟩; have := hD l hl; omega
 refine ⟨⟨h.frm.no, h.frm.nid, h.frm.sp, h.frm.ity, h.frm.wr, fun l hl => ?_, h.frm.shp, fun l hl => ?_, h.frm.lt⟩, fun l hl => ⟨?_, (h.kx l hl).2⟩, fun l hl => ⟨?_, (h.ka l hl).2⟩⟩
 · by_cases ho : Abs.outOf mk m b0 j A l
   · rw [xD ho, xD ((k.outOf hD).1 ho)]
     exact k.obj l hl
   · rw [rS ho, rS (fun h => ho ((k.outOf hD).2 h))]
     exact h.frm.obj l hl
 · rw [rS (na l hl)]; exact h.frm.dead l hl
 · rw [rS (nx l hl), (h.kx l hl).1, lV (nx l hl)]
 · rw [rS (na l hl), (h.ka l hl).1, lV (na l hl)]
theorem wz1 {D : Nat → Prop} {A X A' X' : St} (k : Frm D A X) (k' : Frm D A' X') {q : Option (TypeId × Nat)} {l : Nat} (h : sI E q l A A' = true) : sI E q l X X' = true := by
 unfold sI at h ⊢
 split at h
 · split at h
   · rename_i h1 h2
     rw [(k.objc h1).2, (k'.objc h2).2]
     exact h
   · cases h
 · cases h
theorem vC (hc : kE call) {nt : Nat} {ops : Array Oper} {m : PM Nat} {b0 : Nat} (hD : ∀ l, D l → l < b0) : ∀ (rest : List Oper) (i : Nat) (tm tm' : PM AV) (A A' X : St) (hi : List (Nat × St × St)) (ls : List (Nat × Nat × Option (TypeId × Nat))), Frm D A X →
 eX E call nt ops m b0 i rest tm A = some (tm', A', hi, ls) → ∃ X' hi', eX E call nt ops m b0 i rest tm X = some (tm', X', hi', ls) ∧ Stp D A X A' X' ∧ ∀ n p, kN E ops m b0 n hi p = true → kN E ops m b0 n hi' p = true
 | [], i, tm, tm', A, A', X, hi, ls, k, h => by
  simp only [eX, aI, aJ] at h
  obtain ⟨rfl, rfl, rfl, rfl⟩ := h
  exact ⟨X, [], rfl, Stp.refl k, fun _ _ h => h⟩
 | o :: r, i, tm, tm', A, A', X, hi, ls, k, h => by
  simp only [eX] at h ⊢
  split at h
  · simp at h
  · rename_i hw
    split at h
    · rename_i tm1 hp
      try simp only [hw, hp]
      exact vC hc hD r _ _ _ _ _ _ _ _ k h
    · simp at h
  · rename_i hw
    try simp only [hw]
    cases hm : cD E o with
    | true =>
     simp only [hm, aH] at h ⊢
     split at h
     · simp at h
     · rename_i mk hmk
       split at h
       · rename_i tm1 hp
         have k1 := Stp.bear k (n := b0 + i) (fun hd => by have := hD _ hd; omega) mk
         obtain ⟨X2, hi', h2, k2, k3⟩ := vC hc hD r _ _ _ _ _ _ _ _ k1.frm h
         try simp only [h2]
         exact ⟨X2, hi', rfl, k1.trans k2, k3⟩
       · simp at h
    | false =>
     simp only [hm, aK] at h ⊢
     cases hq : eK E o.op with
     | true =>
      simp only [hq, aH] at h ⊢
      split at h
      · simp at h
      · rename_i v S1 hev
        obtain ⟨X1, h1, k1⟩ := vE hc o (k.masked hD) hev
        split at h
        · rename_i tm1 hp
          split at h
          · rename_i tm2 S2 hist ls2 hgo
            have k2 := Stp.unmasked k hD k1
            obtain ⟨X2, hi', h2, k3, k4⟩ := vC hc hD r _ _ _ _ _ _ _ _ k2.frm hgo
            simp only [aI, aJ] at h
            obtain ⟨rfl, rfl, rfl, rfl⟩ := h
            try simp only [h1, hp, h2]
            refine ⟨X2, _, rfl, k2.trans k3, fun n p hp2 => ?_⟩
            have k5 := k4 n p
            simp only [kN, lA, aS] at hp2 k5 ⊢
            have e1 : X.no = A.no := k.no
            have e2 : X.ver p.2.1 = A.ver p.2.1 := k.ver p.2.1
            have e3 : (X1.unmasked X (dF E ops) m b0 i).ver p.2.1 = (S1.unmasked A (dF E ops) m b0 i).ver p.2.1 := k2.frm.ver p.2.1
            obtain ⟨⟨h1, h2⟩, h3⟩ := hp2
            obtain ⟨k6, k7⟩ := k5 ⟨h2, h3⟩
            refine ⟨⟨?_, k6⟩, k7⟩
            rw [e1, e2, e3]
            simp only [eF] at h1 ⊢
            rcases h1 with h1 | h1
            · exact .inl h1
            · exact .inr (wz1 k k2.frm h1)
          · simp at h
        · simp at h
     | false =>
      simp only [hq, aK] at h ⊢
      split at h
      · simp at h
      · rename_i v S1 hev
        obtain ⟨X1, h1, k1⟩ := vE hc o k hev
        split at h
        · rename_i tm1 hp
          split at h
          · rename_i tm2 S2 hist ls2 hgo
            obtain ⟨X2, hi', h2, k3, k4⟩ := vC hc hD r _ _ _ _ _ _ _ _ k1.frm hgo
            simp only [aI, aJ] at h
            obtain ⟨rfl, rfl, rfl, rfl⟩ := h
            try simp only [h1, hp, h2]
            exact ⟨X2, hi', rfl, k1.trans k3, k4⟩
          · simp at h
        · simp at h
theorem ks6 (hc : kE call) {nt : Nat} {ops : Array Oper} {tm' : PM AV} (k : Frm D A X) (h : lK E call nt ops tm A = some (tm', A')) : ∃ X', lK E call nt ops tm X = some (tm', X') ∧ Stp D A X A' X' := by
 simp only [lK, bB] at h ⊢
 split at h
 · rename_i hp
   split at h
   · rename_i hgo
     split at h
     · rename_i hl
       simp only [aI, aJ] at h
       obtain ⟨rfl, rfl⟩ := h
       have k0 := Stp.raise k (n := A.no + ops.size) (oS _ _)
       obtain ⟨X', hi', h1, k1, k2⟩ := vC hc (fun l hl => k.lt l hl) _ _ _ _ _ _ _ _ _ k0.frm hgo
       rw [bN hp, k.no]
       try simp only [h1]
       refine ⟨X', ?_, k0.trans k1⟩
       rw [bN]
       exact List.all_eq_true.2 fun p hp => k2 _ p (List.all_eq_true.1 hl p hp)
     · simp at h
   · simp at h
 · simp at h
noncomputable def MFrm (M : Code → Option Run) : Prop := ∀ c r, M c = some r → ∀ (D : Nat → Prop) tm tm' A A' X o, Frm D A X → r tm A = some (o, tm', A') → ∃ X', r tm X = some (o, tm', X') ∧ Stp D A X A' X'
set_option maxHeartbeats 2000000 in
theorem ku1 {M : Code → Option Run} (hc : kE call) (hM : MFrm M) {lf nt : Nat} : ∀ (c : Code) (tm tm' : PM AV) (A A' X : St) (o : Out), Frm D A X → evC M E call lf nt c tm A = some (o, tm', A') → ∃ X', evC M E call lf nt c tm X = some (o, tm', X') ∧ Stp D A X A' X' := by
 intro c
 induction c with
 | region id ops draw =>
  intro tm tm' A A' X o k h
  cases draw with
  | false =>
   simp only [evC] at h ⊢
   split at h
   · rename_i h1
     simp only [aI, aJ] at h
     obtain ⟨rfl, rfl, rfl⟩ := h
     obtain ⟨X', g1, g2⟩ := yh2 hc _ _ _ _ _ _ k h1
     rw [g1]
     exact ⟨X', rfl, g2⟩
   · simp at h
  | true =>
   simp only [evC] at h ⊢
   split at h
   · rename_i h1
     simp only [aI, aJ] at h
     obtain ⟨rfl, rfl, rfl⟩ := h
     obtain ⟨X', g1, g2⟩ := ks6 hc k h1
     rw [g1]
     exact ⟨X', rfl, g2⟩
   · simp at h
 | seq x y ihx ihy =>
  intro tm tm' A A' X o k h
  simp only [evC] at h ⊢
  split at h
  · rename_i r hr
    exact hM _ _ hr _ _ _ _ _ _ _ k h
  rename_i hMn
  split at h
  · rename_i h1
    obtain ⟨X1, g1, g2⟩ := ihx _ _ _ _ _ _ k h1
    obtain ⟨X2, g3, g4⟩ := ihy _ _ _ _ _ _ g2.frm h
    rw [g1]
    exact ⟨X2, g3, g2.trans g4⟩
  · rename_i hne
    obtain ⟨X1, g1, g2⟩ := ihx _ _ _ _ _ _ k h
    rw [g1]
    refine ⟨X1, ?_, g2⟩
    cases o with
    | nrm => exact absurd h (hne _ _)
    | exit id => rfl
    | ret => rfl
 | cond c x y ihx ihy =>
  intro tm tm' A A' X o k h
  simp only [evC] at h ⊢
  split at h
  · exact ihx _ _ _ _ _ _ k h
  · exact ihy _ _ _ _ _ _ k h
  · simp at h
 | block id c ih =>
  intro tm tm' A A' X o k h
  simp only [evC] at h ⊢
  split at h
  · rename_i h1
    obtain ⟨X1, g1, g2⟩ := ih _ _ _ _ _ _ k h1
    rw [g1]
    simp only [bB] at h ⊢
    split at h
    · rename_i hb
      simp only [aI, aJ] at h
      obtain ⟨rfl, rfl, rfl⟩ := h
      exact ⟨X1, by simp [hb], g2⟩
    · rename_i hb
      simp only [aI, aJ] at h
      obtain ⟨rfl, rfl, rfl⟩ := h
      exact ⟨X1, by simp [hb], g2⟩
  · rename_i hne
    obtain ⟨X1, g1, g2⟩ := ih _ _ _ _ _ _ k h
    rw [g1]
    refine ⟨X1, ?_, g2⟩
    cases o with
    | nrm => rfl
    | exit id => exact absurd h (hne _ _ _)
    | ret => rfl
 | loop c ih =>
  intro tm tm' A A' X o k h
  simp only [evC] at h ⊢
  generalize lf = lf' at h ih ⊢
  have key : ∀ (n : Nat) (tm tm' : PM AV) (A A' X : St) (o : Out), Frm D A X → iP (evC M E call lf' nt c) n tm A = some (o, tm', A') → ∃ X', iP (evC M E call lf' nt c) n tm X = some (o, tm', X') ∧ Stp D A X A' X' := by
   intro n
   induction n with
   | zero => intro tm tm' A A' X o k h; simp [iP] at h
   | succ n ihn =>
    intro tm tm' A A' X o k h
    simp only [iP] at h ⊢
    split at h
    · simp at h
    · rename_i h1
      obtain ⟨X1, g1, g2⟩ := ih _ _ _ _ _ _ k h1
      obtain ⟨X2, g3, g4⟩ := ihn _ _ _ _ _ _ g2.frm h
      rw [g1]
      exact ⟨X2, g3, g2.trans g4⟩
    · rename_i h1
      obtain ⟨X1, g1, g2⟩ := ih _ _ _ _ _ _ k h1
      simp only [aI, aJ] at h
      obtain ⟨rfl, rfl, rfl⟩ := h
      rw [g1]
      exact ⟨X1, rfl, g2⟩
    · rename_i h1
      obtain ⟨X1, g1, g2⟩ := ih _ _ _ _ _ _ k h1
      simp only [aI, aJ] at h
      obtain ⟨rfl, rfl, rfl⟩ := h
      rw [g1]
      exact ⟨X1, rfl, g2⟩
  exact key _ _ _ _ _ _ _ k h
 | scope c ih => intro tm tm' A A' X o k h; simp only [evC] at h ⊢; exact ih _ _ _ _ _ _ k h
 | skip | label _ | exit _ | ret =>
  intro tm tm' A A' X o k h
  simp only [evC, aI, aJ] at h ⊢
  obtain ⟨rfl, rfl, rfl⟩ := h
  exact ⟨X, ⟨rfl, rfl, rfl⟩, Stp.refl k⟩
 | _ => intro tm tm' A A' X o k h; simp [evC] at h
theorem km8 (hc : kE call) (lf nt : Nat) : MFrm (pQ E call lf nt) := fun c r h => by simp [pQ] at h
theorem kj6 (k : Frm D A X) {r : ResultVar} {v : AV} (h : qP E tm A r = some v) : qP E tm X r = some v := by
 cases r with
 | tmp t => exact h
 | cell x t =>
  simp only [qP] at h ⊢
  split at h
  · rename_i l off
    split at h
    · rename_i cs ho
      rw [(k.objc ho).2]
      exact h
    · simp at h
  · exact h
  · simp at h
theorem yt6 (k : Frm D A X) : ∀ {l : List ResultVar} {vs : List AV}, fB E tm A l = some vs → fB E tm X l = some vs
 | [], _, h => h
 | r :: l, vs, h => by
  simp only [fB] at h ⊢
  split at h
  · rename_i h1 h2
    rw [kj6 k h1, yt6 k h2]
    exact h
  · simp at h
structure FrmX (E : Env) : Prop where
 frm : ∀ f g, E.X f = some g → ∀ (D : Nat → Prop) A X args r A', Frm D A X → g args A = some (r, A') → dX D A X r A' (g args X)
theorem jd8 (hx : FrmX E) (lf : Nat) : ∀ n, kE (evF E lf n) := by
 intro n
 induction n with
 | zero => intro D A X g args r A' k h; simp [evF] at h
 | succ n ih =>
  intro D A X g args r A' k h
  simp only [evF, bB] at h ⊢
  split at h
  · simp at h
  · split at h
    · rename_i g' hg
      exact hx.frm _ _ hg _ _ _ _ _ _ k h
    · split at h
      · simp at h
      · split at h
        · rename_i hn
          split at h
          · simp at h
          · rename_i o tm S1 hne h1
            obtain ⟨X1, g1, g2⟩ := ku1 ih (km8 ih _ _) _ _ _ _ _ _ _ k h1
            simp only [dR, aJ] at h
            obtain ⟨vs, h2, rfl, rfl⟩ := h
            rw [bN hn, g1]
            refine ⟨X1, ?_, g2⟩
            cases o with
            | exit id => exact absurd rfl (hne id)
            | nrm => simp only [yt6 g2.frm h2]; rfl
            | ret => simp only [yt6 g2.frm h2]; rfl
          · simp at h
        · simp at h
end
end Go.Abs
