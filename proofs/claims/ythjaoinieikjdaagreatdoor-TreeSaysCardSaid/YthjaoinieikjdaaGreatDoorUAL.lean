/-
  Regions whose order is open: what comes ahead of what; what an operation hangs on.
-/
import Derived.Test.YthjaoinieikjdaaGreatDoorUAK
set_option linter.unusedSimpArgs false
set_option linter.unusedVariables false
namespace Go.Abs
open Go.RowKit
inductive Bef (ops : Array Oper) : Nat → Nat → Prop
 | base {i : Nat} {o : Oper} {e : Edge} (ho : ops[i]? = some o) (he : e ∈ o.after.toList) (hb : Region.binds .any e = true) : Bef ops i e.on
 | step {i d : Nat} {o : Oper} {e : Edge} (ho : ops[i]? = some o) (he : e ∈ o.after.toList) (hb : Region.binds .any e = true) (h : Bef ops e.on d) : Bef ops i d
theorem Bef.closed {ops : Array Oper} {D : Nat → Prop} (hD : ∀ i o e, ops[i]? = some o → D i → e ∈ o.after.toList → Region.binds .any e = true → D e.on) {i d : Nat} (h : Bef ops i d) : D i → D d := by
 induction h with
 | base ho he hb => exact fun hi => hD _ _ _ ho hi he hb
 | step ho he hb _ ih => exact fun hi => ih (hD _ _ _ ho hi he hb)
theorem xa4 (acc : PM Nat) (d : Nat) : ∀ (es : List Edge), (uT acc es).testBit d = true → ∃ e ∈ es, Region.binds .any e = true ∧ (e.on = d ∨ bit acc e.on d = true)
 | [], h => by simp [uT] at h
 | e :: r, h => by
  simp only [uT] at h
  cases hb : Region.binds .any e with
  | false =>
   rw [hb] at h
   obtain ⟨e', h1, h2⟩ := xa4 acc d r h
   exact ⟨e', by simp [h1], h2⟩
  | true =>
   rw [hb] at h
   simp only [aH, Nat.testBit_or, eF, Nat.testBit_two_pow, bZ] at h
   rcases h with (h | h) | h
   · exact ⟨e, by simp, hb, .inl h⟩
   · exact ⟨e, by simp, hb, .inr h⟩
   · obtain ⟨e', h1, h2⟩ := xa4 acc d r h
     exact ⟨e', by simp [h1], h2⟩
theorem wf0 {ops : Array Oper} : ∀ (rest : List Oper) (i : Nat) (acc : PM Nat), ops.toList.drop i = rest → (∀ k d, bit acc k d = true → Bef ops k d) → ∀ k d, bit (eN i rest acc) k d = true → Bef ops k d
 | [], i, acc, _, h => h
 | o :: r, i, acc, hd, h => by
  have hko : ops[i]? = some o := by
   have h0 : (ops.toList.drop i)[0]? = some o := by rw [hd]; rfl
   rw [jM] at h0
   simpa using h0
  have hrest : ops.toList.drop (i + 1) = r := by rw [← nT, hd]; rfl
  refine wf0 r (i + 1) _ hrest (fun k d hk => ?_)
  unfold bit at hk
  rw [PM.get_set] at hk
  by_cases hki : k = i
  · subst hki
    simp only [fM, Option.getD_some] at hk
    obtain ⟨e, h1, h2, h3⟩ := xa4 acc d _ hk
    rcases h3 with rfl | h3
    · exact .base hko h1 h2
    · exact .step hko h1 h2 (h _ _ h3)
  · rw [aR hki] at hk
    exact h k d hk
structure Pairs (E : Env) (ops : Array Oper) : Prop where
 edge : ∀ (i : Nat) (o : Oper) (e : Edge), ops[i]? = some o → e ∈ o.after.toList → Region.binds .any e = true → e.on < i
 dst : ∀ (i j : Nat) (x y : Oper) (d : Tmp), i < j → ops[i]? = some x → ops[j]? = some y → x.dst = some d → y.dst ≠ some d
 names1 : ∀ (i j : Nat) (x y : Oper) (d : Tmp), i < j → ops[i]? = some x → ops[j]? = some y → x.dst = some d → d ∈ cL ops y → Bef ops j i
 names2 : ∀ (i j : Nat) (x y : Oper) (d : Tmp), i < j → ops[i]? = some x → ops[j]? = some y → y.dst = some d → d ∈ cL ops x → Bef ops j i
 loud : ∀ (i j : Nat) (x y : Oper), i < j → ops[i]? = some x → ops[j]? = some y → Abs.loud E x = true → Abs.loud E y = true → Bef ops j i
theorem ws6 {E : Env} {ops : Array Oper} {m : PM Nat} (hm : ∀ k d, bit m k d = true → Bef ops k d) : ∀ (rest : List Oper) (i : Nat), ops.toList.drop i = rest → mP E ops m i rest = true →
 (∀ k o e, i ≤ k → ops[k]? = some o → e ∈ o.after.toList → Region.binds .any e = true → e.on < k) ∧ (∀ k j x y, i ≤ k → k < j → ops[k]? = some x → ops[j]? = some y → zU E ops m k x j y = true)
 | [], i, hd, _ => by
  have : ops.size ≤ i := by have := congrArg List.length hd; simp at this; omega
  refine ⟨fun k o e hk ho => ?_, fun k j x y hk _ ho => ?_⟩ <;> (rw [pS (by omega)] at ho; simp at ho)
 | x :: r, i, hd, h => by
  have hko : ops[i]? = some x := by
   have h0 : (ops.toList.drop i)[0]? = some x := by rw [hd]; rfl
   rw [jM] at h0
   simpa using h0
  have hrest : ops.toList.drop (i + 1) = r := by rw [← nT, hd]; rfl
  simp only [mP, aS] at h
  obtain ⟨⟨h1, h2⟩, h3⟩ := h
  obtain ⟨k1, k2⟩ := ws6 hm r (i + 1) hrest h3
  have row : ∀ (l : List Oper) (j0 : Nat), ops.toList.drop j0 = l → zK E ops m i x j0 l = true → ∀ j y, j0 ≤ j → ops[j]? = some y → zU E ops m i x j y = true := by
   intro l
   induction l with
   | nil =>
    intro j0 hd0 _ j y hj ho
    have : ops.size ≤ j0 := by have := congrArg List.length hd0; simp at this; omega
    rw [pS (by omega)] at ho; simp at ho
   | cons z l ih =>
    intro j0 hd0 hp j y hj ho
    simp only [zK, aS] at hp
    have hz : ops[j0]? = some z := by
     have h0 : (ops.toList.drop j0)[0]? = some z := by rw [hd0]; rfl
     rw [jM] at h0
     simpa using h0
    by_cases hjj : j = j0
    · subst hjj
      rw [hz] at ho; simp at ho; subst ho
      exact hp.1
    · exact ih (j0 + 1) (by rw [← nT, hd0]; rfl) hp.2 j y (by omega) ho
  refine ⟨fun k o e hk ho he hb => ?_, fun k j x' y hk hkj hx hy => ?_⟩
  · by_cases hki : k = i
    · subst hki
      rw [hko] at ho; simp at ho; subst ho
      have := List.all_eq_true.1 h1 e he
      rw [hb] at this
      simp only [iC, gU] at this
      exact bW this
    · exact k1 k o e (by omega) ho he hb
  · by_cases hki : k = i
    · subst hki
      rw [hko] at hx; simp at hx; subst hx
      exact row r (k + 1) hrest h2 j y (by omega) hy
    · exact k2 k j x' y (by omega) hkj hx hy
theorem Pairs.of {E : Env} {ops : Array Oper} (h : mP E ops (eN 0 ops.toList .leaf) 0 ops.toList = true) : Pairs E ops ∧ (∀ k d, bit (eN 0 ops.toList .leaf) k d = true → Bef ops k d) := by
 have hm : ∀ k d, bit (eN 0 ops.toList .leaf) k d = true → Bef ops k d := wf0 (ops := ops) ops.toList 0 .leaf rfl (fun k d hk => by simp [bit] at hk)
 obtain ⟨h1, h2⟩ := ws6 hm ops.toList 0 rfl h
 refine ⟨⟨fun i o e ho he hb => h1 i o e (jR _) ho he hb, fun i j x y d hij hx hy hd => ?_, fun i j x y d hij hx hy hd hn => ?_, fun i j x y d hij hx hy hd hn => ?_, fun i j x y hij hx hy l1 l2 => ?_⟩, hm⟩
 all_goals
  have hp := h2 i j x y (jR _) hij hx hy
  simp only [zU, aS] at hp
  obtain ⟨⟨p1, p2⟩, p3⟩ := hp
 · rw [hd] at p1
   simp only [aS] at p1
   intro he
   rw [he] at p1
   simp at p1
 · rw [hd] at p1
   simp only [aS, eF] at p1
   rcases p1.1 with hb | hb
   · exact hm _ _ hb
   · have hc : (cL ops y).contains d = true := by simpa using hn
     rw [hc] at hb; simp at hb
 · rw [hd] at p2
   simp only [eF] at p2
   rcases p2 with hb | hb
   · exact hm _ _ hb
   · have hc : (cL ops x).contains d = true := by simpa using hn
     rw [hc] at hb; simp at hb
 · simp only [eF] at p3
   rcases p3 with hb | hb
   · exact hm _ _ hb
   · rw [l1, l2] at hb; simp at hb
section
variable {E : Env} {S S' S2 : St} {v : AV} {tm tm2 : PM AV} {call : eS}
structure Idl (S S' : St) : Prop where
 nid : S.nid ≤ S'.nid
 idk : S'.nid = S.nid → S'.spent = S.spent ∧ S'.ity = S.ity
theorem Idl.refl (S : St) : Idl S S := ⟨aB _, fun _ => ⟨rfl, rfl⟩⟩
theorem Idl.trans {A B D : St} (h : Idl A B) (k : Idl B D) : Idl A D :=
 ⟨cK h.nid k.nid, fun e => by
  have h1 := h.nid
  have h2 := k.nid
  obtain ⟨a1, a2⟩ := h.idk (by omega)
  obtain ⟨b1, b2⟩ := k.idk (by omega)
  exact ⟨b1.trans a1, b2.trans a2⟩⟩
theorem Idl.up {S S' : St} (h : S.nid < S'.nid) : Idl S S' := ⟨oV h, fun e => by omega⟩
structure Evo (S S' : St) : Prop where
 no : S.no ≤ S'.no
 ver : ∀ l, l < S.no → S.ver l ≤ S'.ver l
 obj : ∀ l, l < S.no → S.ver l = S'.ver l → S'.objs.get l = S.objs.get l ∧ S'.shp.get l = S.shp.get l
 idl : Idl S S'
theorem Evo.refl (S : St) : Evo S S := ⟨aB _, fun _ _ => aB _, fun _ _ _ => ⟨rfl, rfl⟩, Idl.refl _⟩
theorem Evo.trans {A B D : St} (h : Evo A B) (k : Evo B D) : Evo A D :=
 ⟨cK h.no k.no, fun l hl => cK (h.ver l hl) (k.ver l (aU hl h.no)), fun l hl he => by
  have h1 := h.ver l hl
  have h2 := k.ver l (aU hl h.no)
  obtain ⟨a1, a2⟩ := k.obj l (aU hl h.no) (by omega)
  obtain ⟨b1, b2⟩ := h.obj l hl (by omega)
  exact ⟨a1.trans b1, a2.trans b2⟩, h.idl.trans k.idl⟩
theorem Evo.newRaw (S : St) (o : AObj) : Evo S (S.newRaw o) :=
 ⟨nV _, fun _ _ => aB _, fun l hl _ => ⟨by simp only [St.newRaw, PM.get_set]; rw [aR (by omega)], rfl⟩, ⟨aB _, fun _ => ⟨rfl, rfl⟩⟩⟩
theorem Evo.newObj (S : St) (cs : List AV) : Evo S (S.newObj cs) := Evo.newRaw S _
theorem Evo.newId (S : St) (T : TypeId) : Evo S (S.newId T) := ⟨aB _, fun _ _ => aB _, fun _ _ _ => ⟨rfl, rfl⟩, Idl.up (bJ _)⟩
theorem Evo.newIdX (S : St) : Evo S S.newIdX := ⟨aB _, fun _ _ => aB _, fun _ _ _ => ⟨rfl, rfl⟩, Idl.up (bJ _)⟩
theorem Evo.spend (S : St) (T : TypeId) (k : Nat) : Evo S { S.newId T with spent := S.spent.set k () } := ⟨aB _, fun _ _ => aB _, fun _ _ _ => ⟨rfl, rfl⟩, Idl.up (bJ _)⟩
theorem Evo.put (S : St) (l : Nat) (o : AObj) : Evo S (S.put l o) := by
 refine ⟨aB _, fun k _ => ?_, fun k _ he => ⟨?_, rfl⟩, ⟨aB _, fun _ => ⟨rfl, rfl⟩⟩⟩
 · simp only [St.ver, St.put, PM.get_set]
   split
   · rename_i e; subst e; simp
   · exact aB _
 · simp only [St.ver, St.put, PM.get_set] at he
   split at he
   · rename_i e; subst e; simp at he
   · rename_i e
     simp only [St.put, PM.get_set]; rw [aR e]
theorem Evo.bearNext (S : St) (m : Mk) : Evo S (S.bearNext m) := by
 refine ⟨nV _, fun _ _ => aB _, fun l hl _ => ⟨?_, ?_⟩, ⟨aB _, fun _ => ⟨rfl, rfl⟩⟩⟩
 · simp only [St.bearNext, St.bear, PM.get_set]; rw [aR (by omega)]
 · simp only [St.bearNext, St.bear]
   split
   · rw [PM.get_set, aR (by omega)]
   · rfl
noncomputable def gV (call : eS) : Prop := ∀ g args S r S', call g args S = some (r, S') → Evo S S'
noncomputable def Same (S S2 : St) (l : Nat) : Prop := S2.objs.get l = S.objs.get l ∧ S2.shp.get l = S.shp.get l
theorem Same.obj {l : Nat} (h : Same S S2 l) : S2.obj l = S.obj l := by unfold St.obj; rw [h.1]
theorem Same.map {l : Nat} (h : Same S S2 l) : S2.map l = S.map l := by unfold St.map; rw [h.1]
noncomputable def Like (E : Env) (q : Option (TypeId × Nat)) (S S2 : St) (l : Nat) : Prop :=
 Same S S2 l ∨ ∃ t off c1 c2 v, q = some (t, off) ∧ S.obj l = some c1 ∧ S2.obj l = some c2 ∧ E.cutAt t c1 off = some v ∧ E.cutAt t c2 off = some v
theorem Like.refl {q : Option (TypeId × Nat)} (S : St) (l : Nat) : Like E q S S l := .inl ⟨rfl, rfl⟩
theorem Like.symm {q : Option (TypeId × Nat)} {S S2 : St} {l : Nat} (h : Like E q S S2 l) : Like E q S2 S l := by
 rcases h with h | ⟨t, off, c1, c2, v, h1, h2, h3, h4, h5⟩
 · exact .inl ⟨h.1.symm, h.2.symm⟩
 · exact .inr ⟨t, off, c2, c1, v, h1, h3, h2, h5, h4⟩
theorem Like.trans {q : Option (TypeId × Nat)} {S1 S2 S3 : St} {l : Nat} (h : Like E q S1 S2 l) (k : Like E q S2 S3 l) : Like E q S1 S3 l := by
 rcases h with h | ⟨t, off, c1, c2, v, h1, h2, h3, h4, h5⟩
 · rcases k with k | ⟨t', off', c1', c2', v', k1, k2, k3, k4, k5⟩
   · exact .inl ⟨k.1.trans h.1, k.2.trans h.2⟩
   · exact .inr ⟨t', off', c1', c2', v', k1, by rw [← h.obj]; exact k2, k3, k4, k5⟩
 · rcases k with k | ⟨t', off', c1', c2', v', k1, k2, k3, k4, k5⟩
   · exact .inr ⟨t, off, c1, c2, v, h1, h2, by rw [k.obj]; exact h3, h4, h5⟩
   · rw [h1] at k1
     simp only [aI, aJ] at k1
     obtain ⟨rfl, rfl⟩ := k1
     rw [h3, aI] at k2
     subst k2
     rw [h5, aI] at k4
     subst k4
     exact .inr ⟨t, off, c1, c2', v, h1, h2, k3, h4, k5⟩
theorem Like.of {S S2 : St} {l : Nat} (h : Like E none S S2 l) : Same S S2 l := by
 rcases h with h | ⟨t, off, c1, c2, v, h1, _⟩
 · exact h
 · cases h1
theorem Like.at {q : Option (TypeId × Nat)} {S S2 : St} {l : Nat} (h : sI E q l S S2 = true) : Like E q S S2 l := by
 unfold sI at h
 split at h
 · rename_i t off
   split at h
   · rename_i c1 c2 h1 h2
     split at h
     · rename_i a b h3 h4
       have := wP 20 a b h
       subst this
       exact .inr ⟨t, off, c1, c2, a, rfl, h1, h2, h3, h4⟩
     · cases h
   · cases h
 · cases h
theorem kb4 {t : TypeId} {l off : Nat} (h : mX E t (.ptr l off) S = some (v, S')) (hs : Like E (some (t, off)) S S2 l) : mX E t (.ptr l off) S2 = some (v, S2) := by
 unfold mX at *
 simp only at h ⊢
 cases ho : S.obj l with
 | none => simp [ho] at h
 | some cs =>
  simp only [ho, dR, aJ] at h
  obtain ⟨r, h1, rfl, rfl⟩ := h
  rcases hs with hs | ⟨t', off', c1, c2, v, k1, k2, k3, k4, k5⟩
  · have : S2.obj l = some cs := by rw [hs.obj]; exact ho
    simp [this, h1]
  · simp only [aI, aJ] at k1
    obtain ⟨rfl, rfl⟩ := k1
    rw [ho, aI] at k2
    subst k2
    rw [h1, aI] at k4
    subst k4
    simp [k3, k5]
theorem kn0 {t : TypeId} {x : AV} (h : mX E t x S = some (v, S')) : S' = S ∧ ((∀ l off, x = .ptr l off → Same S S2 l) → mX E t x S2 = some (v, S2)) := by
 unfold mX at *
 cases x with
 | ptr l off =>
  simp only at h ⊢
  cases ho : S.obj l with
  | none => simp [ho] at h
  | some cs =>
   simp only [ho, dR, aJ] at h
   obtain ⟨r, h1, rfl, rfl⟩ := h
   refine ⟨rfl, fun hs => ?_⟩
   have : S2.obj l = some cs := by rw [(hs l off rfl).obj]; exact ho
   simp [this, h1]
 | eptr cs off =>
  simp only [dR, aJ] at h ⊢
  obtain ⟨r, h1, rfl, rfl⟩ := h
  exact ⟨rfl, fun _ => ⟨r, h1, rfl, trivial⟩⟩
 | _ => simp at h
noncomputable def Any (S S2 S' : St) (v : AV) (Y : Option (AV × St)) : Prop := S' = S ∧ Y = some (v, S2)
theorem iS {α : Type} {X : Option α} {f : α → AV} (h : X.map (fun a => (f a, S)) = some (v, S')) : Any S S2 S' v (X.map (fun a => (f a, S2))) := by
 simp only [dR, aJ] at h
 obtain ⟨a, h1, rfl, rfl⟩ := h
 exact ⟨rfl, by rw [h1]; rfl⟩
theorem kF {x : AV} (h : some (x, S) = some (v, S')) : Any S S2 S' v (some (x, S2)) := by
 simp only [aI, aJ] at h
 obtain ⟨rfl, rfl⟩ := h
 exact ⟨rfl, rfl⟩
theorem kG {Y : Option (AV × St)} (h : (none : Option (AV × St)) = some (v, S')) : Any S S2 S' v Y := by simp at h
theorem kJ {c : Bool} {X Y X2 Y2 : Option (AV × St)} (hx : X = some (v, S') → Any S S2 S' v X2) (hy : Y = some (v, S') → Any S S2 S' v Y2) (h : (bif c then X else Y) = some (v, S')) : Any S S2 S' v (bif c then X2 else Y2) := by
 cases c
 · exact hy h
 · exact hx h
theorem xs9 {t : TypeId} {x : AV} {lo hi : Option AV} (hs : ∀ l off, x = .ptr l off → Same S S2 l) (h : fN E t x lo hi S = some (v, S')) : Any S S2 S' v (fN E t x lo hi S2) := by
 cases x with
 | ptr l off =>
  have ho := (hs l off rfl).obj
  simp only [fN] at h ⊢
  rw [ho]
  revert h
  repeat' (first | exact kF | exact kG | exact iS | refine kJ ?_ ?_ | contradiction | split)
 | _ =>
  simp only [fN] at h ⊢
  revert h
  repeat' (first | exact kF | exact kG | exact iS | refine kJ ?_ ?_ | contradiction | split)
theorem xj3 {t : TypeId} {x : AV} {lo : Option AV} {hi mx : AV} (h : rB E t x lo hi mx S = some (v, S')) : Any S S2 S' v (rB E t x lo hi mx S2) := by
 simp only [rB] at h ⊢
 revert h
 repeat' (first | exact kF | exact kG | exact iS | refine kJ ?_ ?_ | contradiction | split)
theorem we4 {agg : Bool} {l sz off len : Nat} (hs : Same S S2 l) : S2.oslElems agg l sz off len = S.oslElems agg l sz off len := by
 unfold St.oslElems; rw [hs.obj]
theorem xd8 {mu : Bool} {t u : TypeId} {x : AV} (hq : pZ E t u = false) (hs : ∀ l off, x = .ptr l off → Same S S2 l) (hs2 : ∀ l sz off len room, x = .osl l sz off len room → Same S S2 l) (h : gH E mu t u x S = some (v, S')) : Any S S2 S' v (gH E mu t u x S2) := by
 simp only [gH, hq, aK] at h ⊢
 cases x with
 | ptr l off =>
  have ho := (hs l off rfl).obj
  have hp := (hs l off rfl).2
  simp only at h ⊢
  rw [ho]
  simp only [hp]
  revert h
  repeat' (first | exact kF | exact kG | exact iS | refine kJ ?_ ?_ | contradiction | split)
 | osl l sz off len room =>
  simp only at h ⊢
  simp only [we4 (hs2 l sz off len room rfl)]
  revert h
  repeat' (first | exact kF | exact kG | exact iS | refine kJ ?_ ?_ | contradiction | split)
 | _ =>
  simp only at h ⊢
  revert h
  repeat' (first | exact kF | exact kG | exact iS | refine kJ ?_ ?_ | contradiction | split)
theorem xw1 {t : TypeId} {ps : List (Nat × AV)} (h : jG E t ps S = some (v, S')) : Any S S2 S' v (jG E t ps S2) := by
 simp only [jG] at h ⊢
 revert h
 repeat' (first | exact kF | exact kG | exact iS | refine kJ ?_ ?_ | contradiction | split)
theorem yp1 {t : TypeId} {len : Nat} {ps : List (Nat × AV)} (h : gE E t len ps S = some (v, S')) : Any S S2 S' v (gE E t len ps S2) := by
 simp only [gE] at h ⊢
 revert h
 repeat' (first | exact kF | exact kG | exact iS | refine kJ ?_ ?_ | contradiction | split)
theorem xl9 {t : TypeId} {x ix : AV} {b : Bool} (hs : ∀ l, x = .mp l → Same S S2 l) (h : iT E t x ix b S = some (v, S')) : Any S S2 S' v (iT E t x ix b S2) := by
 cases x with
 | mp l =>
  have hm := (hs l rfl).map
  simp only [iT] at h ⊢
  simp only [hm]
  revert h
  repeat' (first | exact kF | exact kG | exact iS | refine kJ ?_ ?_ | contradiction | split)
 | sc u =>
  clear hs
  cases u with
  | map r =>
   cases r with
   | none =>
    simp only [iT] at h ⊢
    revert h
    repeat' (first | exact kF | exact kG | exact iS | refine kJ ?_ ?_ | contradiction | split)
   | some r =>
    simp only [iT] at h ⊢
    revert h
    repeat' (first | exact kF | exact kG | exact iS | refine kJ ?_ ?_ | contradiction | split)
  | _ =>
   simp only [iT] at h ⊢
   revert h
   repeat' (first | exact kF | exact kG | exact iS | refine kJ ?_ ?_ | contradiction | split)
 | _ =>
  simp only [iT] at h ⊢
  revert h
  repeat' (first | exact kF | exact kG | exact iS | refine kJ ?_ ?_ | contradiction | split)
theorem kn5 {ats : List TypeId} {xs : List AV} {mu : Bool} (hs : ∀ l, xs = [.mp l] → Same S S2 l) (h : bD E mu .len ats xs S = some (v, S')) : Any S S2 S' v (bD E mu .len ats xs S2) := by
 match ats, xs, h with
 | [t], [x], h =>
  simp only [bD] at h ⊢
  cases x with
  | mp l =>
   have := (hs l rfl).map
   simp only at h ⊢
   simp only [this]
   revert h
   repeat' (first | exact kF | exact kG | exact iS (f := fun n : Nat => AV.sc (.int .i64 n)) | exact iS (f := fun es : List (Value × AV) => AV.sc (.int .i64 (es.length : Nat))) | exact iS | refine kJ ?_ ?_ | contradiction | split)
  | _ =>
   revert h
   repeat' (first | exact kF | exact kG | exact iS (f := fun n : Nat => AV.sc (.int .i64 n)) | exact iS | refine kJ ?_ ?_ | contradiction | split)
 | [], _, h => simp [bD] at h
 | [_], [], h => simp [bD] at h
 | [_], _ :: _ :: _, h => simp [bD] at h
 | _ :: _ :: _, _, h => simp [bD] at h
theorem xu2 {b : Builtin} (hb : b = .min ∨ b = .max) {ats : List TypeId} {xs : List AV} {mu : Bool} (h : bD E mu b ats xs S = some (v, S')) : Any S S2 S' v (bD E mu b ats xs S2) := by
 rcases hb with rfl | rfl
 all_goals
  simp only [bD] at h ⊢
  revert h
  repeat' (first | exact kF | exact kG | exact iS (f := fun x => ofV x) | refine kJ ?_ ?_ | contradiction | split)
noncomputable def blindOp : Op → Prop
 | .move _ | .assign _ | .pick .. | .nilCheck _ | .binOp .. | .unOp .. | .fieldAddr .. | .field .. | .indexAddr .. | .index .. | .extract .. | .makeFunc .. | .makeInterface .. => True
 | _ => False
theorem xX (o : Oper) (hl : blindOp o.op) (h : aW E call tm o S = some (v, S')) : Any S S2 S' v (aW E call tm o S2) := by
 obtain ⟨dst, op, ty, pos, after, guard⟩ := o
 cases op
 all_goals first
  | exact hl.elim
  | (revert h
     simp only [aW]
     repeat' (first | exact kF | exact kG | exact iS | refine kJ ?_ ?_ | contradiction | split))
theorem qW (o : Oper) (hm : cD E o = false) (hq : eK E o.op = false) (h : aW E call tm o S = some (v, S')) :
 S' = S ∧ ((∀ l, eQ E tm o = some l → Same S S2 l) → aW E call tm o S2 = some (v, S2)) := by
 obtain ⟨dst, op, ty, pos, after, guard⟩ := o
 cases op with
 | load t x =>
  simp only [aW] at h ⊢
  obtain ⟨h1, h2⟩ := kn0 (S2 := S2) h
  exact ⟨h1, fun hl => h2 fun l off hx => hl l (by simp [eQ, hx])⟩
 | slice t x lo hi mx =>
  cases mx with
  | some m =>
   cases hi with
   | none => simp [aW] at h
   | some hi => simp only [aW] at h ⊢; exact ⟨(xj3 (S2 := S) h).1, fun _ => (xj3 h).2⟩
  | none =>
   simp only [aW] at h ⊢
   refine ⟨(xs9 (S2 := S) (fun _ _ _ => ⟨rfl, rfl⟩) h).1, fun hl => (xs9 (fun l off hx => hl l ?_) h).2⟩
   simp [eQ, hx]
 | convert t u x =>
  simp only [aW] at h ⊢
  refine ⟨(xd8 (S2 := S) hq (fun _ _ _ => ⟨rfl, rfl⟩) (fun _ _ _ _ _ _ => ⟨rfl, rfl⟩) h).1, fun hl => (xd8 hq (fun l off hx => hl l ?_) (fun l sz off len room hx => hl l ?_) h).2⟩ <;> simp [eQ, hx]
 | build t ps => simp only [aW] at h ⊢; exact ⟨(xw1 (S2 := S) h).1, fun _ => (xw1 h).2⟩
 | buildSlice t n ps => simp only [aW] at h ⊢; exact ⟨(yp1 (S2 := S) h).1, fun _ => (yp1 h).2⟩
 | lookup t x ix b =>
  simp only [aW] at h ⊢
  refine ⟨(xl9 (S2 := S) (fun _ _ => ⟨rfl, rfl⟩) h).1, fun hl => (xl9 (fun l hx => hl l ?_) h).2⟩
  simp [eQ, hx]
 | store t x y => simp [eK] at hq
 | makeSlice t x y => simp [eK] at hq
 | mapUpdate t x y z => simp [eK] at hq
 | insert t x y z => simp [eK] at hq
 | next x b => simp [eK] at hq
 | call c =>
  obtain ⟨callee, args, ats⟩ := c
  cases callee with
  | value f => simp [eK] at hq
  | invoke r m => simp [eK] at hq
  | builtin b =>
   have hb : b = .len ∨ b = .min ∨ b = .max := by cases b <;> simp_all [eK]
   simp only [aW, mZ] at h ⊢
   rcases hb with rfl | hb
   · refine ⟨(kn5 (S2 := S) (fun _ _ => ⟨rfl, rfl⟩) h).1, fun hl => (kn5 (fun l hx => hl l ?_) h).2⟩
     simp [eQ, hx]
   · exact ⟨(xu2 (S2 := S) hb h).1, fun _ => (xu2 hb h).2⟩
 | _ => first
  | (simp [aW] at h; done)
  | exact ⟨(xX (S2 := S) _ (by trivial) h).1, fun _ => (xX _ (by trivial) h).2⟩
theorem ka1 (o : Oper) (hm : cD E o = false) (hq : eK E o.op = false) (h : aW E call tm o S = some (v, S')) :
 S' = S ∧ ((∀ l, eQ E tm o = some l → Like E (oC E tm o) S S2 l) → aW E call tm o S2 = some (v, S2)) := by
 refine ⟨(qW (S2 := S2) o hm hq h).1, fun hl => ?_⟩
 by_cases hat : oC E tm o = none
 · exact (qW o hm hq h).2 fun l hx => by
    have := hl l hx
    rw [hat] at this
    exact this.of
 · obtain ⟨dst, op, ty, pos, after, guard⟩ := o
   cases op with
   | load t x =>
    simp only [aW] at h ⊢
    cases hx : E.ev tm x with
    | ptr l off =>
     rw [hx] at h
     have := hl l (by simp [eQ, hx])
     simp only [oC, hx] at this
     exact kb4 h this
    | _ => exact absurd (by simp [oC, hx]) hat
   | _ => exact absurd rfl hat
theorem we8 {mu : Bool} {e : TypeId} {sz : Nat} {xs : List AV} (h : nG mu e sz xs S = some (v, S')) : Evo S S' := by
 simp only [nG, bB] at h
 (repeat' split at h) <;> first
  | (simp at h; done)
  | (simp only [aI, aJ] at h; obtain ⟨_, rfl⟩ := h; first | exact Evo.newId _ _ | exact Evo.newObj _ _)
theorem wb3 {sz l off len room : Nat} {ys : List AV} (h : rV sz l off len room ys S = some (v, S')) : Evo S S' := by
 simp only [rV, bB] at h
 (repeat' split at h) <;> first
  | (simp at h; done)
  | (simp only [aI, aJ] at h; obtain ⟨_, rfl⟩ := h; first | exact Evo.put _ _ _ | exact (Evo.put _ _ _).trans (Evo.newObj _ _))
theorem xe4 {mu : Bool} {e : TypeId} {ti : TypeInfo} {s : AV} {ys : List AV} (h : kH mu e ti s ys S = some (v, S')) : Evo S S' := by
 simp only [kH, bB] at h
 (repeat' split at h) <;> first
  | (simp at h; done)
  | exact we8 h
  | exact wb3 h
  | (simp only [aI, aJ] at h; obtain ⟨_, rfl⟩ := h; first | exact Evo.refl _ | exact Evo.spend _ _ _)
theorem wq0 {mu agg : Bool} {e : TypeId} {ti : TypeInfo} {s x : AV} (h : lH mu agg e ti s x S = some (v, S')) : Evo S S' := by
 simp only [lH] at h
 split at h
 · simp at h
 · exact xe4 h
theorem qX (hc : gV call) (o : Oper) (hm : cD E o = false) (h : aW E call tm o S = some (v, S')) : Evo S S' := by
 by_cases hq : eK E o.op = false
 · rw [(qW (S2 := S) o hm hq h).1]; exact Evo.refl _
 · obtain ⟨dst, op, ty, pos, after, guard⟩ := o
   cases op with
   | store t x y =>
    simp only [aW, rF, bB] at h
    (repeat' split at h) <;> first
     | (simp at h; done)
     | (simp only [aI, aJ] at h; obtain ⟨_, rfl⟩ := h; exact Evo.put _ _ _)
   | makeSlice t x y =>
    simp only [aW, tD] at h
    (repeat' split at h) <;> first
     | (simp at h; done)
     | (simp only [aI, aJ] at h; obtain ⟨_, rfl⟩ := h; exact Evo.newId _ _)
   | mapUpdate t x y z =>
    simp only [aW, oY, bB] at h
    (repeat' split at h) <;> first
     | (simp at h; done)
     | (simp only [aI, aJ] at h; obtain ⟨_, rfl⟩ := h; exact Evo.put _ _ _)
   | insert t x y z =>
    simp only [aW, oY, bB] at h
    (repeat' split at h) <;> first
     | (simp at h; done)
     | (simp only [aI, aJ] at h; obtain ⟨_, rfl⟩ := h; exact Evo.put _ _ _)
   | next x b =>
    simp only [aW, qI, bB] at h
    (repeat' split at h) <;> first
     | (simp at h; done)
     | (simp only [aI, aJ] at h; obtain ⟨_, rfl⟩ := h; first | exact Evo.put _ _ _ | exact Evo.refl _)
   | convert t u x =>
    have hsb : pZ E t u = true := by simpa [eK] using hq
    simp only [aW, gH, hsb, aH] at h
    simp only [bB] at h
    (repeat' split at h) <;> first
     | (simp at h; done)
     | (simp only [aI, aJ] at h; obtain ⟨_, rfl⟩ := h; exact Evo.newIdX _)
   | call c =>
    obtain ⟨callee, args, ats⟩ := c
    simp only [aW, mZ] at h
    cases callee with
    | value f =>
     simp only at h
     split at h
     · split at h
       · simp only [dR, aJ] at h
         obtain ⟨_, _, _, rfl⟩ := h
         exact Evo.refl _
       · exact hc _ _ _ _ _ h
     · simp at h
    | invoke r m =>
     simp only at h
     (repeat' split at h) <;> first
      | (simp at h; done)
      | exact hc _ _ _ _ _ h
    | builtin b =>
     cases b with
     | append =>
      simp only [bD, bB] at h
      (repeat' split at h) <;> first | (simp at h; done) | exact wq0 h | exact xe4 h
     | copy =>
      simp only [bD, tZ, bB] at h
      (repeat' split at h) <;> first
       | (simp at h; done)
       | (simp only [aI, aJ] at h; obtain ⟨_, rfl⟩ := h; exact Evo.put _ _ _)
     | clear =>
      simp only [bD, tU, bB] at h
      (repeat' split at h) <;> first
       | (simp at h; done)
       | (simp only [aI, aJ] at h; obtain ⟨_, rfl⟩ := h; exact Evo.put _ _ _)
     | delete =>
      simp only [bD, sD, bB] at h
      (repeat' split at h) <;> first
       | (simp at h; done)
       | (simp only [aI, aJ] at h; obtain ⟨_, rfl⟩ := h; exact Evo.put _ _ _)
     | unsafeSliceData =>
      simp only [bD, bB] at h
      (repeat' split at h) <;> first
       | (simp at h; done)
       | (simp only [aI, aJ] at h; obtain ⟨_, rfl⟩ := h; exact Evo.refl _)
     | unsafeString =>
      simp only [bD, bB] at h
      (repeat' split at h) <;> first
       | (simp at h; done)
       | (simp only [aI, aJ] at h; obtain ⟨_, rfl⟩ := h; exact Evo.refl _)
     | cap =>
      simp only [bD] at h
      (repeat' split at h) <;> first
       | (simp at h; done)
       | (simp only [aI, aJ] at h; obtain ⟨_, rfl⟩ := h; exact Evo.refl _)
     | len => exact absurd rfl hq
     | min => exact absurd rfl hq
     | max => exact absurd rfl hq
     | _ => simp [bD] at h
   | _ => exact absurd rfl hq
theorem op_evo (hc : gV call) (o : Oper) (h : eV E call tm o S = some (v, S')) : Evo S S' := by
 simp only [eV] at h
 cases hm : cD E o with
 | true =>
  rw [hm] at h
  simp only [aH, dR, aJ] at h
  obtain ⟨m, _, _, rfl⟩ := h
  exact Evo.bearNext _ _
 | false =>
  rw [hm] at h
  exact qX hc o hm h
theorem vN (hc : gV call) {nt : Nat} {ops : Array Oper} : ∀ (rest : List Oper) (tm tm' : PM AV) (S S' : St), eP E call nt ops rest tm S = some (tm', S') → Evo S S'
 | [], tm, tm', S, S', h => by simp [eP] at h; rw [h.2]; exact Evo.refl _
 | o :: r, tm, tm', S, S', h => by
  simp only [eP] at h
  split at h
  · simp at h
  · split at h
    · exact vN hc r _ _ _ _ h
    · simp at h
  · split at h
    · simp at h
    · rename_i v S1 hev
      split at h
      · exact (op_evo hc o hev).trans (vN hc r _ _ _ _ h)
      · simp at h
noncomputable def outOf (mk : Nat → Bool) (m : PM Nat) (b0 j : Nat) (S : St) (l : Nat) : Prop := ∃ k, k < j ∧ l = b0 + k ∧ hid mk m j k = true ∧ S.objs.get l ≠ none
theorem xl7 (mk : Nat → Bool) (m : PM Nat) (b0 j : Nat) (S0 : St) : ∀ (n l : Nat), (oK mk m b0 j S0 n).get l = if (∃ k, k < n ∧ l = b0 + k ∧ hid mk m j k = true ∧ S0.objs.get l ≠ none) then some .dead else S0.objs.get l
 | 0, l => by simp [oK]
 | n + 1, l => by
  have ih := xl7 mk m b0 j S0 n l
  simp only [oK, bB]
  split
  · rename_i hb
    rw [ih]
    have : (∃ k, k < n + 1 ∧ l = b0 + k ∧ hid mk m j k = true ∧ S0.objs.get l ≠ none) ↔ (∃ k, k < n ∧ l = b0 + k ∧ hid mk m j k = true ∧ S0.objs.get l ≠ none) := by
     constructor
     · rintro ⟨k, h1, h2, h3, h4⟩
       refine ⟨k, ?_, h2, h3, h4⟩
       by_cases hk : k = n
       · subst hk
         rw [h3, ← h2] at hb
         simp at hb
         exact absurd hb h4
       · omega
     · rintro ⟨k, h1, h2⟩
       exact ⟨k, by omega, h2⟩
    simp only [this]
  · rename_i hb
    simp only [eF, not_or, sX, jB, Bool.not_eq_false, Option.isNone_eq_false_iff] at hb
    rw [PM.get_set]
    by_cases hl : l = b0 + n
    · rw [bN hl, bN]
      refine ⟨n, by omega, hl, hb.1, fun e => ?_⟩
      rw [hl] at e
      have := hb.2
      rw [e] at this; simp at this
    · rw [aR hl, ih]
      have : (∃ k, k < n + 1 ∧ l = b0 + k ∧ hid mk m j k = true ∧ S0.objs.get l ≠ none) ↔ (∃ k, k < n ∧ l = b0 + k ∧ hid mk m j k = true ∧ S0.objs.get l ≠ none) := by
       constructor
       · rintro ⟨k, h1, h2, h3⟩
         exact ⟨k, by rcases fV k n with h' | h'; exact h'; exact absurd (show l = b0 + n by omega) hl, h2, h3⟩
       · rintro ⟨k, h1, h2⟩
         exact ⟨k, by omega, h2⟩
      simp only [this]
theorem ys7 (mk : Nat → Bool) (m : PM Nat) (b0 j : Nat) (S0 : St) (os : PM AObj) : ∀ (n l : Nat), (nH mk m b0 j S0 os n).get l = if (∃ k, k < n ∧ l = b0 + k ∧ hid mk m j k = true ∧ S0.objs.get l ≠ none) then S0.objs.get l else os.get l
 | 0, l => by simp [nH]
 | n + 1, l => by
  have ih := ys7 mk m b0 j S0 os n l
  have other : ¬ l = b0 + n → ((∃ k, k < n + 1 ∧ l = b0 + k ∧ hid mk m j k = true ∧ S0.objs.get l ≠ none) ↔ (∃ k, k < n ∧ l = b0 + k ∧ hid mk m j k = true ∧ S0.objs.get l ≠ none)) := fun hl => by
   constructor
   · rintro ⟨k, h1, h2, h3⟩
     exact ⟨k, by rcases fV k n with h' | h'; exact h'; exact absurd (show l = b0 + n by omega) hl, h2, h3⟩
   · rintro ⟨k, h1, h2⟩
     exact ⟨k, by omega, h2⟩
  simp only [nH]
  cases hb : hid mk m j n with
  | false =>
   simp only [kC, aH]
   rw [ih]
   by_cases hl : l = b0 + n
   · have : ¬ (∃ k, k < n ∧ l = b0 + k ∧ hid mk m j k = true ∧ S0.objs.get l ≠ none) := by rintro ⟨k, h1, h2, _⟩; omega
     have h2 : ¬ (∃ k, k < n + 1 ∧ l = b0 + k ∧ hid mk m j k = true ∧ S0.objs.get l ≠ none) := by
      rintro ⟨k, h1, h2, h3, _⟩
      have : k = n := by omega
      subst this; rw [hb] at h3; cases h3
     rw [aR this, aR h2]
   · simp only [other hl]
  | true =>
   simp only [iC, aK]
   cases ho : S0.objs.get (b0 + n) with
   | none =>
    simp only
    rw [ih]
    by_cases hl : l = b0 + n
    · have : ¬ (∃ k, k < n ∧ l = b0 + k ∧ hid mk m j k = true ∧ S0.objs.get l ≠ none) := by rintro ⟨k, h1, h2, _⟩; omega
      have h2 : ¬ (∃ k, k < n + 1 ∧ l = b0 + k ∧ hid mk m j k = true ∧ S0.objs.get l ≠ none) := by
       rintro ⟨k, h1, h2, h3, h4⟩
       rw [hl] at h4
       exact h4 ho
      rw [aR this, aR h2]
    · simp only [other hl]
   | some o =>
    simp only
    rw [PM.get_set]
    by_cases hl : l = b0 + n
    · rw [bN hl, bN ⟨n, by omega, hl, hb, by rw [hl, ho]; simp⟩, hl, ho]
    · rw [aR hl, ih]
      simp only [other hl]
theorem tC {mk : Nat → Bool} {m : PM Nat} {b0 j l : Nat} (h : outOf mk m b0 j S l) : (S.masked mk m b0 j).objs.get l = some .dead := by
 show (oK mk m b0 j S j).get l = _
 rw [xl7]; exact bN h
theorem lV {mk : Nat → Bool} {m : PM Nat} {b0 j l : Nat} (h : ¬ outOf mk m b0 j S l) : (S.masked mk m b0 j).objs.get l = S.objs.get l := by
 show (oK mk m b0 j S j).get l = _
 rw [xl7]; exact aR h
theorem xD {mk : Nat → Bool} {m : PM Nat} {b0 j l : Nat} (h : outOf mk m b0 j S l) : (S'.unmasked S mk m b0 j).objs.get l = S.objs.get l := by
 show (nH mk m b0 j S S'.objs j).get l = _
 rw [ys7]; exact bN h
theorem rS {mk : Nat → Bool} {m : PM Nat} {b0 j l : Nat} (h : ¬ outOf mk m b0 j S l) : (S'.unmasked S mk m b0 j).objs.get l = S'.objs.get l := by
 show (nH mk m b0 j S S'.objs j).get l = _
 rw [ys7]; exact aR h
theorem xa3 {mk : Nat → Bool} {m : PM Nat} {b0 j : Nat} (h : Evo (S.masked mk m b0 j) S') : Evo S (S'.unmasked S mk m b0 j) := by
 refine ⟨h.no, h.ver, fun l hl he => ?_, ⟨h.idl.nid, h.idl.idk⟩⟩
 obtain ⟨h1, h2⟩ := h.obj l hl he
 refine ⟨?_, h2⟩
 by_cases ho : outOf mk m b0 j S l
 · rw [xD ho]
 · rw [rS ho, h1, lV ho]
structure EvoTo (b0 : Nat) (S S' : St) : Prop where
 no : S.no ≤ S'.no
 ver : ∀ l, l < b0 → S.ver l ≤ S'.ver l
 obj : ∀ l, l < b0 → S.ver l = S'.ver l → S'.objs.get l = S.objs.get l ∧ S'.shp.get l = S.shp.get l
 idl : Idl S S'
theorem EvoTo.refl (b0 : Nat) (S : St) : EvoTo b0 S S := ⟨aB _, fun _ _ => aB _, fun _ _ _ => ⟨rfl, rfl⟩, Idl.refl _⟩
theorem EvoTo.trans {b0 : Nat} {A B D : St} (h : EvoTo b0 A B) (k : EvoTo b0 B D) : EvoTo b0 A D :=
 ⟨cK h.no k.no, fun l hl => cK (h.ver l hl) (k.ver l hl), fun l hl he => by
  have h1 := h.ver l hl
  have h2 := k.ver l hl
  obtain ⟨a1, a2⟩ := k.obj l hl (by omega)
  obtain ⟨b1, b2⟩ := h.obj l hl (by omega)
  exact ⟨a1.trans b1, a2.trans b2⟩, h.idl.trans k.idl⟩
theorem Evo.to {b0 : Nat} (h : Evo S S') (hb : b0 ≤ S.no) : EvoTo b0 S S' := ⟨h.no, fun l hl => h.ver l (by omega), fun l hl => h.obj l (by omega), h.idl⟩
theorem EvoTo.bear (b0 n : Nat) (hn : b0 ≤ n) (S : St) (m : Mk) : EvoTo b0 S (S.bear n m) := by
 refine ⟨aB _, fun _ _ => aB _, fun l hl _ => ⟨?_, ?_⟩, ⟨aB _, fun _ => ⟨rfl, rfl⟩⟩⟩
 · simp only [St.bear, PM.get_set]; rw [aR (by omega)]
 · simp only [St.bear]
   split
   · rw [PM.get_set, aR (by omega)]
   · rfl
theorem vG (hc : gV call) {nt : Nat} {ops : Array Oper} {m : PM Nat} {b0 : Nat} : ∀ (rest : List Oper) (i : Nat) (tm tm' : PM AV) (S S' : St) (hi : List (Nat × St × St)) (ls : List (Nat × Nat × Option (TypeId × Nat))), b0 ≤ S.no →
 eX E call nt ops m b0 i rest tm S = some (tm', S', hi, ls) → EvoTo b0 S S'
 | [], i, tm, tm', S, S', hi, ls, hb, h => by simp [eX] at h; rw [h.2.1]; exact EvoTo.refl _ _
 | o :: r, i, tm, tm', S, S', hi, ls, hb, h => by
  simp only [eX] at h
  split at h
  · simp at h
  · split at h
    · exact vG hc r _ _ _ _ _ _ _ hb h
    · simp at h
  · cases hm : cD E o with
    | true =>
     simp only [hm, aH] at h
     split at h
     · simp at h
     · split at h
       · exact (EvoTo.bear b0 (b0 + i) (by omega) _ _).trans (vG hc r _ _ _ _ _ _ _ hb h)
       · simp at h
    | false =>
     simp only [hm, aK] at h
     cases hq : eK E o.op with
     | true =>
      simp only [hq, aH] at h
      split at h
      · simp at h
      · rename_i v S1 hev
        split at h
        · split at h
          · rename_i hgo
            simp only [aI, aJ] at h
            obtain ⟨_, rfl, _⟩ := h
            have he := xa3 (qX hc o hm hev)
            exact (he.to hb).trans (vG hc r _ _ _ _ _ _ _ (cK hb he.no) hgo)
          · simp at h
        · simp at h
     | false =>
      simp only [hq, aK] at h
      split at h
      · simp at h
      · rename_i v S1 hev
        split at h
        · split at h
          · rename_i hgo
            simp only [aI, aJ] at h
            obtain ⟨_, rfl, _⟩ := h
            have he := qX hc o hm hev
            exact (he.to hb).trans (vG hc r _ _ _ _ _ _ _ (cK hb he.no) hgo)
          · simp at h
        · simp at h
theorem je9 (hc : gV call) {nt : Nat} {ops : Array Oper} {tm tm' : PM AV} (h : lK E call nt ops tm S = some (tm', S')) : Evo S S' := by
 simp only [lK, bB] at h
 split at h
 · split at h
   · rename_i hgo
     split at h
     · simp only [aI, aJ] at h
       obtain ⟨_, rfl⟩ := h
       have := vG hc _ _ _ _ _ _ _ _ (oS _ _) hgo
       exact ⟨cK (oS _ _) this.no, this.ver, this.obj, ⟨this.idl.nid, this.idl.idk⟩⟩
     · simp at h
   · simp at h
 · simp at h
noncomputable def MEvo (M : Code → Option Run) : Prop := ∀ c r, M c = some r → ∀ tm tm' S S' o, r tm S = some (o, tm', S') → Evo S S'
theorem jg4 {M : Code → Option Run} (hc : gV call) (hM : MEvo M) {lf nt : Nat} : ∀ (c : Code) (tm tm' : PM AV) (S S' : St) (o : Out), evC M E call lf nt c tm S = some (o, tm', S') → Evo S S' := by
 intro c
 induction c with
 | region id ops draw =>
  intro tm tm' S S' o h
  cases draw with
  | false =>
   simp only [evC] at h
   split at h
   · rename_i h1
     simp only [aI, aJ] at h
     obtain ⟨_, _, rfl⟩ := h
     exact vN hc _ _ _ _ _ h1
   · simp at h
  | true =>
   simp only [evC] at h
   split at h
   · rename_i h1
     simp only [aI, aJ] at h
     obtain ⟨_, _, rfl⟩ := h
     exact je9 hc h1
   · simp at h
 | seq x y ihx ihy =>
  intro tm tm' S S' o h
  simp only [evC] at h
  split at h
  · rename_i r hr
    exact hM _ _ hr _ _ _ _ _ h
  split at h
  · rename_i h1
    exact (ihx _ _ _ _ _ h1).trans (ihy _ _ _ _ _ h)
  · exact ihx _ _ _ _ _ h
 | cond c x y ihx ihy =>
  intro tm tm' S S' o h
  simp only [evC] at h
  split at h
  · exact ihx _ _ _ _ _ h
  · exact ihy _ _ _ _ _ h
  · simp at h
 | block id c ih =>
  intro tm tm' S S' o h
  simp only [evC, bB] at h
  split at h
  · rename_i h1
    have := ih _ _ _ _ _ h1
    split at h <;> (simp only [aI, aJ] at h; obtain ⟨_, _, rfl⟩ := h; exact this)
  · exact ih _ _ _ _ _ h
 | loop c ih =>
  intro tm tm' S S' o h
  simp only [evC] at h
  generalize lf = k at h ih
  have key : ∀ (n : Nat) (tm tm' : PM AV) (S S' : St) (o : Out), iP (evC M E call k nt c) n tm S = some (o, tm', S') → Evo S S' := by
   intro n
   induction n with
   | zero => intro tm tm' S S' o h; simp [iP] at h
   | succ n ihn =>
    intro tm tm' S S' o h
    simp only [iP] at h
    split at h
    · simp at h
    · rename_i h1
      exact (ih _ _ _ _ _ h1).trans (ihn _ _ _ _ _ h)
    · rename_i h1
      simp only [aI, aJ] at h
      obtain ⟨_, _, rfl⟩ := h
      exact ih _ _ _ _ _ h1
    · rename_i h1
      simp only [aI, aJ] at h
      obtain ⟨_, _, rfl⟩ := h
      exact ih _ _ _ _ _ h1
  exact key _ _ _ _ _ _ h
 | scope c ih => intro tm tm' S S' o h; simp only [evC] at h; exact ih _ _ _ _ _ h
 | _ => intro tm tm' S S' o h; simp [evC] at h; try (rw [h.2.2]; exact Evo.refl _)
theorem ja5 (hc : gV call) (lf nt : Nat) : MEvo (pQ E call lf nt) := fun c r h => by simp [pQ] at h
theorem zO (hx : ∀ f g, E.X f = some g → ∀ args S r S', g args S = some (r, S') → Evo S S') (lf : Nat) : ∀ n, gV (evF E lf n) := by
 intro n
 induction n with
 | zero => intro g args S r S' h; simp [evF] at h
 | succ n ih =>
  intro g args S r S' h
  simp only [evF, bB] at h
  split at h
  · simp at h
  · split at h
    · rename_i g' hg
      exact hx _ _ hg _ _ _ _ h
    · split at h
      · simp at h
      · split at h
        · split at h
          · simp at h
          · rename_i h1
            simp only [dR, aJ] at h
            obtain ⟨_, _, _, rfl⟩ := h
            exact jg4 ih (ja5 ih _ _) _ _ _ _ _ _ h1
          · simp at h
        · simp at h
end
end Go.Abs
