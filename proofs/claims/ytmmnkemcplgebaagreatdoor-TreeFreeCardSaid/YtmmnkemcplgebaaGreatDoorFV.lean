/-
  More of the calculus: whatever is appended.
-/
import Derived.Test.YtmmnkemcplgebaaGreatDoorFS
section
set_option linter.unusedSimpArgs false
set_option linter.unusedVariables false
set_option maxRecDepth 100000
namespace Go.Abs
section
variable {E : Env} {S : St}
theorem app_empty {t t1 e e1 : TypeId} {agg : Bool} {bytes sz : Nat} {X Y : AV} {xs : List AV} (ht : elIs E t e agg sz bytes = true) (ht1 : E.und t1 = some (.slice e1)) (hx : IsV sz X xs) (hy : IsV sz Y []) : builtinA E false .append [t, t1] [X, Y] S = some (X, S) := by
  unfold elIs at ht
  split at ht
  · rename_i e' de i hd hde hi
    simp only [Bool.and_eq_true, beq_iff_eq] at ht
    obtain ⟨⟨⟨⟨⟨k1, k2⟩, k3⟩, k4⟩, k5⟩, k6⟩ := ht
    have k1 := Nat.eq_of_beq_eq_true k1
    subst k1
    rcases hy with ⟨rfl, _⟩ | ⟨id, rfl⟩ <;> rcases hx with ⟨rfl, _⟩ | ⟨id2, rfl⟩ <;> simp only [builtinA, hd, ht1, hde, hi, appendA, elemsS, elemsOf, appendXs]
  · simp at ht
/-- What an append to it turns for nobody else. -/
def Newish (S : St) (r : AV) : Prop := r = nilV ∨ (∃ sz xs, r = .vec 1 sz xs) ∨ ∃ id sz xs, r = .vec id sz xs ∧ S.nid ≤ id
theorem Grow.app2 {S0 : St} {e : TypeId} {sz : Nat} {r : AV} {xs : List AV} (g : Grow S0 S nilV) (hO : OwnV S e sz r xs) (hn : Newish S0 r) : Grow S0 (appS e S r) nilV := by
  have ga := Grow.app g.fresh hO
  refine ⟨Nat.le_trans g.nid ga.nid, fun id hlt _ => ?_, fun id hlt => (ga.ity id (Nat.lt_of_lt_of_le hlt g.nid)).trans (g.ity id hlt), Nat.le_trans g.no ga.no, fun l hl' => (ga.obj l (Nat.lt_of_lt_of_le hl' g.no)).trans (g.obj l hl'), ga.fresh, fun l hl' => (ga.ver l (Nat.lt_of_lt_of_le hl' g.no)).trans (g.ver l hl')⟩
  rcases hn with rfl | ⟨sz2, xs2, rfl⟩ | ⟨i2, sz2, xs2, rfl, h2⟩
  · exact (ga.sp id (Nat.lt_of_lt_of_le hlt g.nid) fun sz xs e => by cases e).trans (g.sp id hlt (fun _ _ e => by cases e))
  · exact g.sp id hlt (fun _ _ e => by cases e)
  · exact (ga.sp id (Nat.lt_of_lt_of_le hlt g.nid) fun sz xs e => by cases e; omega).trans (g.sp id hlt (fun _ _ e => by cases e))
end
theorem appS_objX (e : TypeId) (S : St) (X : AV) (l : Nat) : (appS e S X).obj l = S.obj l := by
  unfold appS
  split
  · cases (_ || _) <;> rfl
  · rfl
theorem appS_noX (e : TypeId) (S : St) (X : AV) : (appS e S X).no = S.no := by
  unfold appS
  split
  · cases (_ || _) <;> rfl
  · rfl
/-- Whatever is appended to a slice of one's own. -/
theorem app_any {E : Env} {S S0 : St} {t t1 e e1 : TypeId} {agg : Bool} {bytes sz : Nat} {X Y : AV} {xs ys : List AV} (ht : elIs E t e agg sz bytes = true) (ht1 : E.und t1 = some (.slice e1)) (hX : OwnV S e sz X xs) (hN : Newish S0 X) (G : Grow S0 S nilV) (hY : IsV sz Y ys) (hsz : allSz sz ys = true)
    (hb : (xs.length + ys.length) * (bytes + 1) ≤ 2 ^ 46) : ∃ Z S1, builtinA E false .append [t, t1] [X, Y] S = some (Z, S1) ∧ OwnV S1 e sz Z (xs ++ ys) ∧ Newish S0 Z ∧ Grow S0 S1 nilV ∧ S1.no = S.no ∧ (∀ l, S1.obj l = S.obj l) ∧ Grow S S1 X := by
  by_cases hne : ys = []
  · subst hne
    rw [List.append_nil]
    exact ⟨X, S, app_empty ht ht1 hX.is hY, hX, hN, G, rfl, fun _ => rfl, Grow.refl G.fresh _⟩
  · exact ⟨_, _, app_own ht ht1 G.fresh hX hY hne hsz hb, appS_own G.fresh hX, .inr (.inr ⟨_, _, _, rfl, G.nid⟩), G.app2 hX hN, appS_noX _ _ _, appS_objX _ _ _, Grow.app G.fresh hX⟩
/-- What is one's own stays so. -/
theorem OwnV.keep {S S' : St} {e : TypeId} {sz : Nat} {x : AV} {xs : List AV} (h : OwnV S e sz x xs) (g : Grow S S' nilV) : OwnV S' e sz x xs := h.grow g (fun _ _ _ _ _ _ e => by cases e)
theorem OwnV.nil' (S : St) (e : TypeId) (sz : Nat) : OwnV S e sz nilV [] := .inl ⟨rfl, rfl⟩
end Go.Abs
end
