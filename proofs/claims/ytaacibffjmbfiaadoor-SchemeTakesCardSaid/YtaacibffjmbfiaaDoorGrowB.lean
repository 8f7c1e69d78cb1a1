/-
  What goes on from a state while one older object is written.
-/
import Derived.Test.YtaacibffjmbfiaaDoorMapV
import Derived.Test.YtaacibffjmbfiaaDoorAbs22
set_option linter.unusedSimpArgs false
set_option linter.unusedVariables false
set_option maxRecDepth 100000
namespace Go.Abs
/-- What has gone on from a state, but for one object. -/
structure GrowB (p : Nat) (S S' : St) : Prop where
  nid : S.nid ≤ S'.nid
  sp : ∀ id, id < S.nid → S'.spent.get id = S.spent.get id
  ity : ∀ id, id < S.nid → S'.ity.get id = S.ity.get id
  no : S.no ≤ S'.no
  obj : ∀ l, l < S.no → l ≠ p → S'.objs.get l = S.objs.get l
  fresh : S'.Fresh
  ver : ∀ l, l < S.no → l ≠ p → S'.ver l = S.ver l
theorem Grow.toB {S S' : St} (g : Grow S S' nilV) (p : Nat) : GrowB p S S' := ⟨g.nid, fun id h => g.sp id h (fun _ _ e => by cases e), g.ity, g.no, fun l h _ => g.obj l h, g.fresh, fun l h _ => g.ver l h⟩
theorem GrowB.two {p : Nat} {S S1 S2 : St} (h : GrowB p S S1) (k : GrowB p S1 S2) : GrowB p S S2 :=
  ⟨Nat.le_trans h.nid k.nid, fun id hid => (k.sp id (Nat.lt_of_lt_of_le hid h.nid)).trans (h.sp id hid), fun id hid => (k.ity id (Nat.lt_of_lt_of_le hid h.nid)).trans (h.ity id hid), Nat.le_trans h.no k.no,
    fun l hl hp => (k.obj l (Nat.lt_of_lt_of_le hl h.no) hp).trans (h.obj l hl hp), k.fresh, fun l hl hp => (k.ver l (Nat.lt_of_lt_of_le hl h.no) hp).trans (h.ver l hl hp)⟩
theorem GrowB.put {p : Nat} {S S1 : St} (h : GrowB p S S1) (o : AObj) : GrowB p S (S1.put p o) :=
  ⟨h.nid, h.sp, h.ity, h.no, fun l hl hp => by
    simp only [St.put, PM.get_set, hp, if_false]
    exact h.obj l hl hp, h.fresh, fun l hl hp => by
    have := h.ver l hl hp
    simp only [St.ver, St.put, PM.get_set] at this ⊢
    rw [if_neg hp]
    exact this⟩
theorem Grow.but {p : Nat} {S0 S S' : St} {x : AV} (g : Grow S0 S x) (h : GrowB p S S') (hp : S0.no ≤ p) : Grow S0 S' x :=
  ⟨Nat.le_trans g.nid h.nid, fun id hid hne => (h.sp id (Nat.lt_of_lt_of_le hid g.nid)).trans (g.sp id hid hne), fun id hid => (h.ity id (Nat.lt_of_lt_of_le hid g.nid)).trans (g.ity id hid), Nat.le_trans g.no h.no,
    fun l hl => (h.obj l (Nat.lt_of_lt_of_le hl g.no) (by omega)).trans (g.obj l hl), h.fresh, fun l hl => (h.ver l (Nat.lt_of_lt_of_le hl g.no) (by omega)).trans (g.ver l hl)⟩
theorem GrowB.objs {p : Nat} {S S2 : St} (g : GrowB p S S2) {l : Nat} {cs : List AV} (h : S.obj l = some cs) (hl : l < S.no) (hp : l ≠ p) : S2.obj l = some cs := by
  unfold St.obj at h ⊢
  rw [g.obj l hl hp]
  exact h
theorem GrowB.isMp {p : Nat} {S S2 : St} (g : GrowB p S S2) {l : Nat} {kvs : List (Int × AV)} (h : S.IsMp l kvs) (hl : l < S.no) (hp : l ≠ p) : S2.IsMp l kvs := by
  unfold St.IsMp at h ⊢
  rw [g.obj l hl hp]
  exact h
theorem OwnV.growB {p : Nat} {S S' : St} {e : TypeId} {sz : Nat} {x : AV} {xs : List AV} (h : OwnV S e sz x xs) (g : GrowB p S S') : OwnV S' e sz x xs := by
  rcases h with h | ⟨id, rfl, hid⟩
  · exact .inl h
  · refine .inr ⟨id, rfl, ?_⟩
    rcases hid with h | h | ⟨h1, h2⟩
    · exact .inl h
    · exact .inr (.inl h)
    · have hlt : 2 < id ∧ id < S.nid ∧ S.spent.get id = none := by
        simp only [St.live, Bool.and_eq_true] at h1
        exact ⟨Nat.le_of_ble_eq_true h1.1.1, Nat.le_of_ble_eq_true h1.1.2, by simpa using h1.2⟩
      refine .inr (.inr ⟨?_, ?_⟩)
      · simp only [St.live, Bool.and_eq_true]
        refine ⟨⟨Nat.ble_eq_true_of_le hlt.1, Nat.ble_eq_true_of_le (Nat.lt_of_lt_of_le hlt.2.1 g.nid)⟩, ?_⟩
        rw [g.sp id hlt.2.1, hlt.2.2]
        rfl
      · have := g.ity id hlt.2.1
        simp only [St.ityIs, this] at h2 ⊢
        exact h2

theorem GrowB.putN {p : Nat} {S S1 : St} (h : GrowB p S S1) (l : Nat) (o : AObj) (hl : S.no ≤ l) : GrowB p S (S1.put l o) :=
  ⟨h.nid, h.sp, h.ity, h.no, fun k hk hp => by
    have : k ≠ l := by omega
    simp only [St.put, PM.get_set, this, if_false]
    exact h.obj k hk hp, h.fresh, fun k hk hp => by
    have := h.ver k hk hp
    simp only [St.ver, St.put, PM.get_set] at this ⊢
    rw [if_neg (by omega)]
    exact this⟩
theorem safe_growB {p : Nat} {S S' : St} {l : Nat} (hl : l < S.no) (hp : l ≠ p) (g : GrowB p S S') (off : Nat) : safeA S S' (.ptr l off) = true := by
  have h1 : Nat.blt l S.no = true := Nat.ble_eq_true_of_le hl
  simp only [safeA, objId, h1, g.ver l hl hp, Nat.beq_refl, Bool.and_self]
theorem bear_obj {S : St} (l k : Nat) (cs : List AV) (sh : Option (TypeId × Nat)) (f : Nat → AV) : (S.bear l ⟨.cells cs, sh, f⟩).obj k = if k = l then some cs else S.obj k := by
  simp only [St.bear, St.obj, PM.get_set]
  by_cases h : k = l
  · simp [h]
  · simp [h]
theorem bear_no {S : St} (l : Nat) (m : Mk) : (S.bear l m).no = S.no := rfl
theorem Grow.bear {S0 S : St} {x : AV} (g : Grow S0 S x) (l : Nat) (m : Mk) (h : S0.no ≤ l) : Grow S0 (S.bear l m) x :=
  ⟨g.nid, g.sp, g.ity, g.no, fun k hk => by
    have : k ≠ l := by omega
    simp only [St.bear, PM.get_set, this, if_false]
    exact g.obj k hk, g.fresh, g.ver⟩
end Go.Abs
