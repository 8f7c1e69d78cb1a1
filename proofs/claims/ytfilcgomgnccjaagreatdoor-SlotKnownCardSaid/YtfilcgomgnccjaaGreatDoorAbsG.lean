/-
  A loop over a map, carried out as a whole: sound for every order of the rounds.
  A loop over a map: the rounds in the model.
  A loop over a map whose rounds write one entry each of another map.
  Loops over maps that write another map; loops over maps as a whole: sound.
  The evaluator is sound; where a law begins.
  Later worlds, in which nothing that was there has turned.
-/
import Derived.Test.YtfilcgomgnccjaaGreatDoorAbsF
import Derived.Maps.RangeRun
section
set_option linter.unusedSimpArgs false
set_option linter.unusedVariables false
namespace Go.Abs
open Go.RowKit Go.MapKept
open Go.ChangeMaps (setBlock)

/-- What was known of a value, and stands to it now: it leads to nothing new. -/
noncomputable def Ctx.cut (C C' : Ctx) : Ctx := { C' with born := C.born, no := C.no }
theorem VR.back {C C' : Ctx} {w w' : World} (hb : ∀ l, C.born l → C'.born l) {x : AV} {u0 : Value} (h : VR C w x u0) : ∀ {v : Value}, VR C' w' x v → VR (C.cut C') w' x v := by
  have hfr : ∀ b, C'.free b → (C.cut C').free b := fun b hf l hl => hf l (hb l hl)
  induction h with
  | undef u => intro v k; exact .undef v
  | sc u => intro v k; rw [k.sc_inv]; exact .sc _
  | ptr l off h => intro v k; cases k; exact .ptr l off h
  | osl l sz off len room a cap h hs hlr hrc hro hcl ha =>
    intro v k
    cases k with
    | osl _ _ _ _ _ a' cap' h' hs' hlr' hrc' hro' hcl' ha' => exact .osl l sz off len room a' cap' h hs hlr' hrc' hro' hcl' ha'
  | mp l h => intro v k; cases k; exact .mp l h
  | eptr cs off b o u hb hf ht hc hr ih =>
    intro v k
    cases k with
    | eptr _ _ b' o' u' hb' hf' ht' hc' hr' => exact .eptr cs off b' o' u' hb' (hfr _ hf') ht' hc' (fun i x hx => ih i x hx (hr' i x hx))
  | vec0 sz a cap =>
    intro v k
    cases k with
    | vec0 _ a' cap' => exact .vec0 sz a' cap'
    | vec _ _ _ fl b o cap' u hs hlc hfl hb hf ht hc hr hid hx1 hx2 =>
      refine .vec 0 sz [] fl b o cap' u hs hlc hfl hb (hfr _ hf) ht hc (fun i x hx => ?_) hid hx1 hx2
      simp [flat?] at hfl
      subst hfl
      simp at hx
  | vec id sz xs fl b o cap u hs hlc hfl hb hf ht hc hr hid hx1 hx2 ih =>
    intro v k
    cases k with
    | vec0 _ a' cap' => exact .vec0 sz a' cap'
    | vec _ _ _ fl' b' o' cap' u' hs' hlc' hfl' hb' hf' ht' hc' hr' hid' hx1' hx2' =>
      have : fl' = fl := by rw [hfl] at hfl'; exact (Option.some.inj hfl').symm
      subst this
      exact .vec id sz xs fl' b' o' cap' u' hs' hlc' hfl' hb' (hfr _ hf') ht' hc' (fun i x hx => ih i x hx (hr' i x hx)) hid' hx1' hx2'
  | udat id xs fl b o cap u hfl hb hf ht hc hr hid ih =>
    intro v k
    cases k with
    | udat _ _ fl' b' o' cap' u' hfl' hb' hf' ht' hc' hr' hid' =>
      have : fl' = fl := by rw [hfl] at hfl'; exact (Option.some.inj hfl').symm
      subst this
      exact .udat id xs fl' b' o' cap' u' hfl' hb' (hfr _ hf') ht' hc' (fun i x hx => ih i x hx (hr' i x hx)) hid'
  | agg cs vs hl hr ih =>
    intro v k
    cases k with
    | agg _ vs' hl' hr' => exact .agg cs vs' hl' (fun i x hx => ih i x hx (hr' i x hx))
  | tup cs vs hl hr ih =>
    intro v k
    cases k with
    | tup _ vs' hl' hr' => exact .tup cs vs' hl' (fun i x hx => ih i x hx (hr' i x hx))
  | fn f c1 c2 v1 v2 hl1 hr1 hl2 hr2 ih1 ih2 =>
    intro v k
    cases k with
    | fn _ _ _ v1' v2' hl1' hr1' hl2' hr2' => exact .fn f c1 c2 v1' v2' hl1' (fun i x hx => ih1 i x hx (hr1' i x hx)) hl2' (fun i x hx => ih2 i x hx (hr2' i x hx))
  | ifc t a v h ih =>
    intro v k
    cases k with
    | ifc _ _ v' h' => exact .ifc t a v' (ih h')

theorem there_born {E : Env} {C : Ctx} {S : St} {w : World} (hw : WR E C S w) {l : Nat} (h : there S l = true) : C.born l := by
  refine Classical.byContradiction fun hn => ?_
  unfold there at h
  rcases hw.unob l hn with h1 | h1 <;> simp [h1] at h

theorem oldL_get {S : St} : ∀ {l : List AV}, oldL S l = true → ∀ (i : Nat) x, l[i]? = some x → oldA S x = true
  | [], _, i, x, h => by simp at h
  | y :: l, h, i, x, hx => by
    simp only [oldL, Bool.and_eq_true] at h
    cases i with
    | zero => simp at hx; subst hx; exact h.1
    | succ i => exact oldL_get h.2 i x (by simpa using hx)
theorem oldL_flat {S : St} {sz : Nat} : ∀ {xs fl : List AV}, flat? sz xs = some fl → oldL S xs = true → ∀ (i : Nat) x, fl[i]? = some x → oldA S x = true
  | [], fl, h, _, i, x, hx => by simp [flat?] at h; subst h; simp at hx
  | y :: l, fl, h, ho, i, x, hx => by
    simp only [oldL, Bool.and_eq_true] at ho
    unfold flat? at h
    split at h
    · rename_i cs r hc hr
      split at h
      · simp only [Option.some.injEq] at h
        subst h
        rcases Nat.lt_or_ge i cs.length with hi | hi
        · rw [List.getElem?_append_left hi] at hx
          have : oldL S cs = true := by
            cases y with
            | sc v =>
              unfold cellsOf at hc
              split at hc <;> first | (cases hc; done) | (simp only [Option.some.injEq] at hc; subst hc; simp_all [oldL, oldA])
            | _ => simp [cellsOf] at hc <;> subst hc <;> simp_all [oldL, oldA]
          exact oldL_get this i x hx
        · rw [List.getElem?_append_right hi] at hx
          exact oldL_flat hr ho.2 _ x hx
      · cases h
    · cases h

/-- A value that leads to nothing but what was there. -/
theorem VR.old {E : Env} {C0 C' : Ctx} {S0 : St} {w0 w' : World} (h0 : WR E C0 S0 w0) (hb : ∀ l, C0.born l → C'.born l) {x : AV} {v : Value} (h : VR C' w' x v) : oldA S0 x = true → VR (C0.cut C') w' x v := by
  have hfr : ∀ b, C'.free b → (C0.cut C').free b := fun b hf l hl => hf l (hb l hl)
  induction h with
  | undef u => intro _; exact .undef _
  | sc u => intro _; exact .sc _
  | ptr l off h => intro k; simp only [oldA] at k; exact .ptr l off (there_born h0 k)
  | osl l sz off len room a cap h hs hlr hrc hro hcl ha => intro k; simp only [oldA] at k; exact .osl l sz off len room a cap (there_born h0 k) hs hlr hrc hro hcl ha
  | mp l h => intro k; simp only [oldA] at k; exact .mp l (there_born h0 k)
  | eptr cs off b o u hb hf ht hc hr ih => intro k; simp only [oldA] at k; exact .eptr cs off b o u hb (hfr _ hf) ht hc (fun i x hx => ih i x hx (oldL_get k i x hx))
  | vec0 sz a cap => intro k; exact .vec0 sz a cap
  | vec id sz xs fl b o cap u hs hlc hfl hb hf ht hc hr hid hx1 hx2 ih => intro k; simp only [oldA] at k; exact .vec id sz xs fl b o cap u hs hlc hfl hb (hfr _ hf) ht hc (fun i x hx => ih i x hx (oldL_flat hfl k i x hx)) hid hx1 hx2
  | udat id xs fl b o cap u hfl hb hf ht hc hr hid ih => intro k; simp only [oldA] at k; exact .udat id xs fl b o cap u hfl hb (hfr _ hf) ht hc (fun i x hx => ih i x hx (oldL_flat hfl k i x hx)) hid
  | agg cs vs hl hr ih => intro k; simp only [oldA] at k; exact .agg cs vs hl (fun i x hx => ih i x hx (oldL_get k i x hx))
  | tup cs vs hl hr ih => intro k; simp only [oldA] at k; exact .tup cs vs hl (fun i x hx => ih i x hx (oldL_get k i x hx))
  | fn f c1 c2 v1 v2 hl1 hr1 hl2 hr2 ih1 ih2 =>
    intro k
    simp only [oldA, Bool.and_eq_true] at k
    exact .fn f c1 c2 v1 v2 hl1 (fun i x hx => ih1 i x hx (oldL_get k.1 i x hx)) hl2 (fun i x hx => ih2 i x hx (oldL_get k.2 i x hx))
  | ifc t a v h ih => intro k; simp only [oldA] at k; exact .ifc t a v (ih k)

theorem LR.back {C C' : Ctx} {w w' : World} (hb : ∀ l, C.born l → C'.born l) {cs : List AV} {us vs : List Value} (h : LR C w cs us) (k : LR C' w' cs vs) : LR (C.cut C') w' cs vs :=
  ⟨k.1, fun i x hx => (h.2 i x hx).back hb (k.2 i x hx)⟩
theorem MapR.back {C C' : Ctx} {w w' : World} (hb : ∀ l, C.born l → C'.born l) {es : List (Value × AV)} {us vs : List MapEntry} (h : MapR C w es us) (k : MapR C' w' es vs) : MapR (C.cut C') w' es vs :=
  ⟨k.len, k.nd, k.nd', k.key, fun q x hx => by
    obtain ⟨e, h1, h2, h3⟩ := h.val q x hx
    obtain ⟨e', k1, k2, k3⟩ := k.val q x hx
    exact ⟨e', k1, k2, h3.back hb k3⟩⟩
theorem ObjR.back {C C' : Ctx} {w w' : World} (hb : ∀ l, C.born l → C'.born l) {l : Nat} {a : Option AObj} {o o' : Option Obj} (h : ObjR C w l a o) (k : ObjR C' w' l a o') : ObjR (C.cut C') w' l a o' := by
  match a, h, k with
  | some (.cells cs), ⟨c, T, fz, h1, h2, h3, h4, h5, h6⟩, ⟨c', T', fz', k1, k2, k3, k4, k5, k6⟩ => exact ⟨c', T', fz', k1, h2.back hb k2, k3, k4, k5, k6⟩
  | some (.siter s p), _, k => exact k
  | some (.mp es), ⟨_, _, _, h2, _⟩, ⟨ents', clock', k1, k2, k3⟩ => exact ⟨ents', clock', k1, h2.back hb k2, k3⟩
  | some (.mpx es), ⟨_, _, _, _, h2, _⟩, ⟨k0, ents', clock', k1, k2, k3⟩ => exact ⟨k0, ents', clock', k1, h2.back hb k2, k3⟩
  | some .raw, _, k => exact k
  | some .dead, _, _ => trivial

section
variable {E : Env} {C C' : Ctx} {S S' : St} {w w' : World}

theorem Ext.cut (e : Ext C w C' w') : Ext C w (C.cut C') w' :=
  ⟨⟨fun l h => ⟨h, (e.born l h).2⟩, e.nid, e.io, e.ion, fun l h1 h2 => absurd h2 h1, e.size, e.top, e.cell, e.base, e.below, e.shape, e.mx⟩, Nat.le_refl _, fun l h1 h2 => absurd h2 h1⟩

/-- What was made meanwhile is forgotten. -/
theorem forget (hw : WR E C S w) (hw' : WR E C' S' w') (e : Ext C w C' w') (hobj : ∀ l, C.born l → S'.objs.get l = S.objs.get l) (hshp : ∀ l, C.born l → S'.shp.get l = S.shp.get l)
    (hnid : S'.nid = S.nid) (hsp : S'.spent = S.spent) (hity : S'.ity = S.ity) : WR E (C.cut C') S w' := by
  have hb : ∀ l, C.born l → C'.born l := fun l hl => (e.born l hl).1
  refine ⟨hw.no, hw.unb, (hw'.nid.trans hnid : C'.nid = S.nid), hw.nid1, hw'.bs, fun l l' hl hl' ha ha' hm => ?_, fun l hl => hw'.mub l (hb l hl), fun l hl => ?_, hw.unob, fun i h0 hi => ?_, fun i j h0 hi h0' hj hs hs' he => ?_, fun g cs hg => (hw.glob g cs hg).ext e.cut, hw.fresh, fun l x hl hx => ?_, hw.shu, fun i T h0 hi hT => ?_⟩
  · exact hw'.inj l l' (hb l hl) (hb l' hl') (by rw [hobj l hl]; exact ha) (by rw [hobj l' hl']; exact ha') hm
  · have h1 := hw'.objs l (hb l hl)
    rw [hobj l hl] at h1
    exact (hw.objs l hl).back hb h1
  · obtain ⟨k1, k2, k3, k4, k5, k6, k7, k8⟩ := hw'.ids i h0 hi
    exact ⟨k1, k2, fun l hl => k3 l (hb l hl), k4, k5, k6, k7, fun hs => k8 (by show S'.isSpent i = false; simp only [St.isSpent, hsp]; exact hs)⟩
  · exact hw'.idi i j h0 hi h0' hj (by simp only [St.isSpent, hsp]; exact hs) (by simp only [St.isSpent, hsp]; exact hs') he
  · exact hw'.shp l x (hb l hl) (by rw [hshp l hl]; exact hx)
  · exact hw'.ity i T h0 hi (by rw [hity]; exact hT)

/-- The ghost of what is held exactly may be chosen anew. -/
noncomputable def Ctx.exact (C : Ctx) (g : Nat → Obj) : Ctx := { C with mx := g }
theorem VR.exact (g : Nat → Obj) {x : AV} {v : Value} (h : VR C w x v) : VR (C.exact g) w x v := by
  induction h with
  | undef v => exact .undef v
  | sc v => exact .sc v
  | ptr l off h => exact .ptr l off h
  | osl l sz off len room a cap h hs hlr hrc hro hcl ha => exact .osl l sz off len room a cap h hs hlr hrc hro hcl ha
  | mp l h => exact .mp l h
  | eptr cs off b o u hb hf ht hc _ ih => exact .eptr cs off b o u hb hf ht hc ih
  | vec0 sz a cap => exact .vec0 sz a cap
  | vec id sz xs fl b o cap u hs hlc hfl hb hf ht hc _ hid hx1 hx2 ih => exact .vec id sz xs fl b o cap u hs hlc hfl hb hf ht hc ih hid hx1 hx2
  | udat id xs fl b o cap u hfl hb hf ht hc _ hid ih => exact .udat id xs fl b o cap u hfl hb hf ht hc ih hid
  | agg cs vs hl _ ih => exact .agg cs vs hl ih
  | tup cs vs hl _ ih => exact .tup cs vs hl ih
  | fn f c1 c2 v1 v2 hl1 _ hl2 _ ih1 ih2 => exact .fn f c1 c2 v1 v2 hl1 ih1 hl2 ih2
  | ifc t a v _ ih => exact .ifc t a v ih
theorem LR.exact (g : Nat → Obj) {cs : List AV} {vs : List Value} (h : LR C w cs vs) : LR (C.exact g) w cs vs := ⟨h.1, fun i x hx => (h.2 i x hx).exact g⟩
theorem MapR.exact (g : Nat → Obj) {es : List (Value × AV)} {vs : List MapEntry} (h : MapR C w es vs) : MapR (C.exact g) w es vs :=
  ⟨h.len, h.nd, h.nd', h.key, fun q x hx => let ⟨e, h1, h2, h3⟩ := h.val q x hx; ⟨e, h1, h2, h3.exact g⟩⟩
noncomputable def held : Option AObj → Bool
  | some (.mpx _) | some .raw => true
  | _ => false
theorem ObjR.exact (g : Nat → Obj) {l : Nat} {a : Option AObj} {o : Option Obj} (hg : held a = true → g l = C.mx l) (h : ObjR C w l a o) : ObjR (C.exact g) w l a o := by
  match a, h with
  | some (.cells cs), ⟨c, T, fz, h1, h2, h3, h4, h5, h6⟩ => exact ⟨c, T, fz, h1, h2.exact g, h3, h4, h5, h6⟩
  | some (.siter s p), k => exact k
  | some (.mp es), ⟨ents, clock, k1, k2, k3⟩ => exact ⟨ents, clock, k1, k2.exact g, k3⟩
  | some (.mpx es), ⟨k0, ents, clock, k1, k2, k3⟩ => exact ⟨k0.trans (by rw [← hg rfl]; rfl), ents, clock, (hg rfl).trans k1, k2.exact g, k3⟩
  | some .raw, k => exact ⟨k.1.trans (by rw [← hg rfl]; rfl), k.2⟩
  | some .dead, _ => trivial
theorem WR.exact (g : Nat → Obj) (hw : WR E C S w) (hg : ∀ l, C.born l → held (S.objs.get l) = true → g l = C.mx l) : WR E (C.exact g) S w :=
  ⟨hw.no, hw.unb, hw.nid, hw.nid1, hw.bs, hw.inj, hw.mub, fun l hl => (hw.objs l hl).exact g (hg l hl), hw.unob, fun i h0 hi => let ⟨k1, k2, k3, k4, k5, k6, k7, k8⟩ := hw.ids i h0 hi; ⟨k1, k2, k3, k4, k5, k6, k7, k8⟩, hw.idi,
    fun G cs hG => let ⟨a, b, c⟩ := hw.glob G cs hG; ⟨a.exact g, b, c⟩, hw.fresh, hw.shp, hw.shu, hw.ity⟩
theorem TR.exact (g : Nat → Obj) {tm : PM AV} {ts : Array Value} (h : TR C w tm ts) : TR (C.exact g) w tm ts := fun i x hx => (h i x hx).exact g
theorem Ext.exact (g : Nat → Obj) (e : Ext C w C' w') : Ext (C.exact g) w (C'.exact g) w' :=
  ⟨⟨e.born, e.nid, e.io, e.ion, e.fresh, e.size, e.top, e.cell, e.base, e.below, e.shape, rfl⟩, e.no, e.newer⟩
theorem exact_self (C : Ctx) : C.exact C.mx = C := rfl
theorem exact_exact (C : Ctx) (g g' : Nat → Obj) : (C.exact g).exact g' = C.exact g' := rfl

/-- One object is taken for something else. -/
theorem WR.as (hw : WR E C S w) {l : Nat} {a : AObj} (hl : C.born l) (hap : ∀ k, C.born k → k ≠ l → ¬ inacc (S.objs.get k) → C.mu k ≠ C.mu l) (hr : ObjR C w l (some a) (w.heap[C.mu l]?)) : WR E C { S with objs := S.objs.set l a } w := by
  have hget : ∀ k, (S.objs.set l a).get k = if k = l then some a else S.objs.get k := fun k => by rw [PM.get_set]
  refine ⟨hw.no, hw.unb, hw.nid, hw.nid1, hw.bs, fun k k' hk hk' ha ha' heq => ?_, hw.mub, fun k hk => ?_, fun k hk => ?_, hw.ids, hw.idi, hw.glob, hw.fresh, hw.shp, hw.shu, hw.ity⟩
  · have ha : ¬ inacc ((S.objs.set l a).get k) := ha
    have ha' : ¬ inacc ((S.objs.set l a).get k') := ha'
    rw [hget] at ha ha'
    by_cases h1 : k = l
    · by_cases h2 : k' = l
      · rw [h1, h2]
      · rw [if_neg h2] at ha'
        exact absurd (by rw [← heq, h1]) (hap k' hk' h2 ha')
    · rw [if_neg h1] at ha
      by_cases h2 : k' = l
      · exact absurd (by rw [heq, h2]) (hap k hk h1 ha)
      · rw [if_neg h2] at ha'
        exact hw.inj k k' hk hk' ha ha' heq
  · show ObjR C w k ((S.objs.set l a).get k) _
    rw [hget]
    by_cases h1 : k = l
    · rw [if_pos h1, h1]; exact hr
    · rw [if_neg h1]; exact hw.objs k hk
  · show inacc ((S.objs.set l a).get k)
    rw [hget, if_neg (fun e => hk (by rw [e]; exact hl))]
    exact hw.unob k hk
theorem WR.apart (hw : WR E C S w) {l : Nat} (hl : C.born l) (ha : ¬ inacc (S.objs.get l)) : ∀ k, C.born k → k ≠ l → ¬ inacc (S.objs.get k) → C.mu k ≠ C.mu l :=
  fun k hk hne hak e => hne (hw.inj k l hk hl hak ha e)
/-- The counts of writes and which objects there are: nothing else of the state is asked for. -/
theorem WR.same (hw : WR E C S w) (h1 : ∀ l, S'.objs.get l = S.objs.get l) (h2 : S'.no = S.no) (h3 : S'.nid = S.nid) (h4 : S'.spent = S.spent) (h5 : S'.shp = S.shp) (h6 : S'.ity = S.ity) : WR E C S' w :=
  ⟨by rw [h2]; exact hw.no, by rw [h2]; exact hw.unb, by rw [h3]; exact hw.nid, by rw [h3]; exact hw.nid1, hw.bs, fun l l' hl hl' ha ha' => hw.inj l l' hl hl' (by rw [← h1]; exact ha) (by rw [← h1]; exact ha'), hw.mub, fun l hl => by rw [h1]; exact hw.objs l hl, fun l hl => by rw [h1]; exact hw.unob l hl,
    fun i h0 hi => by simp only [St.isSpent, h4]; exact hw.ids i h0 hi, fun i j h0 hi h0' hj => by simp only [St.isSpent, h4]; exact hw.idi i j h0 hi h0' hj, hw.glob, fun i hi => by simp only [St.isSpent, h4, h6]; exact hw.fresh i (by rw [← h3]; exact hi), fun l x hl hx => hw.shp l x hl (by rw [← h5]; exact hx), fun l hl => by rw [h5]; exact hw.shu l hl, fun i T h0 hi hT => hw.ity i T h0 hi (by rw [← h6]; exact hT)⟩
end

/-- Part of a region's operations, in the text's order. -/
theorem seq_part {E : Env} {call : CallFn} {nt : Nat} (ok : E.Ok) (hcall : CallOk E call) {ops : Array Oper} {Q : Exit → Act → World → Prop} {tl : List Nat} : ∀ (rest : List Oper) (k : Nat) (C : Ctx) (tm tm' : PM AV) (S S' : St) (a : Act) (w : World), (ops.toList.drop k).take rest.length = rest →
    evSeq E call nt ops rest tm S = some (tm', S') → FR E C S nt tm a w →
    (∀ C' a' w', FR E C' S' nt tm' a' w' → Ext C w C' w' → wpOps E.P ops Q tl a' w') → wpOps E.P ops Q (List.range' k rest.length ++ tl) a w := by
  intro rest
  induction rest with
  | nil =>
    intro k C tm tm' S S' a w hk h hf hq
    simp only [evSeq, Option.some.injEq, Prod.mk.injEq] at h
    obtain ⟨rfl, rfl⟩ := h
    exact hq C a w hf (Ext.refl _ _)
  | cons o rest ih =>
    intro k C tm tm' S S' a w hk h hf hq
    have hko : ops[k]? = some o := by
      have h0 : ((ops.toList.drop k).take (o :: rest).length)[0]? = some o := by rw [hk]; rfl
      rw [List.getElem?_take_of_lt (by simp), List.getElem?_drop] at h0
      simpa using h0
    have hrest : (ops.toList.drop (k + 1)).take rest.length = rest := by
      cases hd : ops.toList.drop k with
      | nil => rw [hd] at hk; simp at hk
      | cons x t =>
        rw [hd] at hk
        simp only [List.length_cons, List.take_succ_cons, List.cons.injEq] at hk
        rw [← List.drop_drop, hd]
        exact hk.2
    rw [List.length_cons, List.range'_succ, List.cons_append]
    rw [wpOps]
    simp only [hko]
    simp only [evSeq] at h
    split at h
    · simp at h
    · rename_i hwa
      split at h
      · rename_i tm1 hp
        have hwant := wanted_rel hf.tr hwa
        simp only [hwant, Bool.false_eq_true, if_false]
        exact ih (k + 1) C tm1 tm' S S' _ w hrest h (hf.put hf.wr (Ext.refl _ _) (v := passed) (.sc _) hp) hq
      · simp at h
    · rename_i hwa
      have hwant := wanted_rel hf.tr hwa
      simp only [hwant, if_true]
      split at h
      · simp at h
      · rename_i v S1 hev
        split at h
        · rename_i tm1 hp
          refine .inl ((good_op ok hcall o hf.wr hf.tr hev).wp fun u C' w' k1 k2 k3 => ?_)
          exact ih (k + 1) C' tm1 tm' S1 S' _ w' hrest h (hf.put k1 k2 k3 hp) (fun C2 a2 w2 f2 e2 => hq C2 a2 w2 f2 (k2.trans e2))
        · simp at h
end Go.Abs
end

section
set_option linter.unusedSimpArgs false
set_option linter.unusedVariables false
namespace Go.Abs
open Go.RowKit Go.MapKept
open Go.ChangeMaps (setBlock)

section
variable {E : Env} {call : CallFn} {nt : Nat}

theorem putA_keeps {dst : Option Tmp} {v : AV} {tm tm' : PM AV} {t : Nat} (h : putA nt dst v tm = some tm') (ht : dst ≠ some t) : tm'.get t = tm.get t := by
  unfold putA at h
  split at h
  · simp only [Option.some.injEq] at h; rw [h]
  · rename_i d
    simp only [cond_eq_ite] at h
    split at h
    · simp only [Option.some.injEq] at h
      subst h
      rw [PM.get_set, if_neg (fun e => ht (by rw [e]))]
    · cases h
theorem putA_get {d : Tmp} {v : AV} {tm tm' : PM AV} (h : putA nt (some d) v tm = some tm') : tm'.get d = some v ∧ d < nt := by
  simp only [putA, cond_eq_ite] at h
  split at h
  · rename_i hb
    simp only [Option.some.injEq] at h
    subst h
    exact ⟨by rw [PM.get_set, if_pos rfl], Nat.le_of_ble_eq_true hb⟩
  · cases h
theorem not_dst {o : Oper} {rest : List Oper} {t : Nat} (h : t ∉ dsts (o :: rest)) : o.dst ≠ some t ∧ t ∉ dsts rest := by
  refine ⟨fun e => h ?_, fun hr => h ?_⟩
  · simp [dsts, e]
  · simp only [dsts, List.mem_filterMap] at hr ⊢
    obtain ⟨a, h1, h2⟩ := hr
    exact ⟨a, List.mem_cons_of_mem _ h1, h2⟩
theorem seq_keeps {ops : Array Oper} {t : Nat} : ∀ (rest : List Oper) (tm tm' : PM AV) (S S' : St), evSeq E call nt ops rest tm S = some (tm', S') → t ∉ dsts rest → tm'.get t = tm.get t
  | [], tm, tm', S, S', h, _ => by simp [evSeq] at h; rw [h.1]
  | o :: r, tm, tm', S, S', h, ht => by
    obtain ⟨h1, h2⟩ := not_dst ht
    simp only [evSeq] at h
    split at h
    · cases h
    · split at h
      · rename_i hp
        exact (seq_keeps r _ _ _ _ h h2).trans (putA_keeps hp h1)
      · cases h
    · split at h
      · cases h
      · split at h
        · rename_i hp
          exact (seq_keeps r _ _ _ _ h h2).trans (putA_keeps hp h1)
        · cases h
theorem drawGo_keeps {ops : Array Oper} {m : PM Nat} {b0 t : Nat} : ∀ (rest : List Oper) (i : Nat) (tm tm' : PM AV) (S S' : St) (hi : List (Nat × St × St)) (ls : List (Nat × Nat × Option (TypeId × Nat))),
    evDrawGo E call nt ops m b0 i rest tm S = some (tm', S', hi, ls) → t ∉ dsts rest → tm'.get t = tm.get t
  | [], i, tm, tm', S, S', hi, ls, h, _ => by simp [evDrawGo] at h; rw [h.1]
  | o :: r, i, tm, tm', S, S', hi, ls, h, ht => by
    obtain ⟨h1, h2⟩ := not_dst ht
    simp only [evDrawGo] at h
    split at h
    · cases h
    · split at h
      · rename_i hp
        exact (drawGo_keeps r _ _ _ _ _ _ _ h h2).trans (putA_keeps hp h1)
      · cases h
    · cases hm : isMk E o with
      | true =>
        simp only [hm, cond_true] at h
        split at h
        · cases h
        · split at h
          · rename_i hp
            exact (drawGo_keeps r _ _ _ _ _ _ _ h h2).trans (putA_keeps hp h1)
          · cases h
      | false =>
        simp only [hm, cond_false] at h
        cases hq : loudOp E o.op with
        | true =>
          simp only [hq, cond_true] at h
          split at h
          · cases h
          · split at h
            · rename_i hp
              split at h
              · rename_i hgo
                simp only [Option.some.injEq, Prod.mk.injEq] at h
                obtain ⟨rfl, _⟩ := h
                exact (drawGo_keeps r _ _ _ _ _ _ _ hgo h2).trans (putA_keeps hp h1)
              · cases h
            · cases h
        | false =>
          simp only [hq, cond_false] at h
          split at h
          · cases h
          · split at h
            · rename_i hp
              split at h
              · rename_i hgo
                simp only [Option.some.injEq, Prod.mk.injEq] at h
                obtain ⟨rfl, _⟩ := h
                exact (drawGo_keeps r _ _ _ _ _ _ _ hgo h2).trans (putA_keeps hp h1)
              · cases h
            · cases h
theorem draw_keeps {ops : Array Oper} {tm tm' : PM AV} {S S' : St} {t : Nat} (h : evDraw E call nt ops tm S = some (tm', S')) (ht : t ∉ dsts ops.toList) : tm'.get t = tm.get t := by
  simp only [evDraw, cond_eq_ite] at h
  split at h
  · split at h
    · rename_i hgo
      split at h
      · simp only [Option.some.injEq, Prod.mk.injEq] at h
        obtain ⟨rfl, _⟩ := h
        exact drawGo_keeps _ _ _ _ _ _ _ _ hgo ht
      · cases h
    · cases h
  · cases h
theorem code_keeps {lf t : Nat} : ∀ (c : Code) (tm tm' : PM AV) (S S' : St) (o : Out), evC mac0 E call lf nt c tm S = some (o, tm', S') → t ∉ wrs c → tm'.get t = tm.get t := by
  intro c
  induction c with
  | region id ops draw =>
    intro tm tm' S S' o h ht
    simp only [wrs] at ht
    cases draw with
    | false =>
      simp only [evC] at h
      split at h
      · rename_i h1
        simp only [Option.some.injEq, Prod.mk.injEq] at h
        obtain ⟨_, rfl, _⟩ := h
        exact seq_keeps _ _ _ _ _ h1 ht
      · cases h
    | true =>
      simp only [evC] at h
      split at h
      · rename_i h1
        simp only [Option.some.injEq, Prod.mk.injEq] at h
        obtain ⟨_, rfl, _⟩ := h
        exact draw_keeps h1 ht
      · cases h
  | seq x y ihx ihy =>
    intro tm tm' S S' o h ht
    simp only [wrs, List.mem_append, not_or] at ht
    simp only [evC, mac0] at h
    split at h
    · rename_i h1
      exact (ihy _ _ _ _ _ h ht.2).trans (ihx _ _ _ _ _ h1 ht.1)
    · exact ihx _ _ _ _ _ h ht.1
  | cond c x y ihx ihy =>
    intro tm tm' S S' o h ht
    simp only [wrs, List.mem_append, not_or] at ht
    simp only [evC] at h
    split at h
    · exact ihx _ _ _ _ _ h ht.1
    · exact ihy _ _ _ _ _ h ht.2
    · cases h
  | block id c ih =>
    intro tm tm' S S' o h ht
    simp only [wrs] at ht
    simp only [evC, cond_eq_ite] at h
    split at h
    · rename_i h1
      have := ih _ _ _ _ _ h1 ht
      split at h <;> (simp only [Option.some.injEq, Prod.mk.injEq] at h; obtain ⟨_, rfl, _⟩ := h; exact this)
    · exact ih _ _ _ _ _ h ht
  | loop c ih =>
    intro tm tm' S S' o h ht
    simp only [wrs] at ht
    simp only [evC] at h
    generalize lf = k at h ih
    have key : ∀ (n : Nat) (tm tm' : PM AV) (S S' : St) (o : Out), iter (evC mac0 E call k nt c) n tm S = some (o, tm', S') → tm'.get t = tm.get t := by
      intro n
      induction n with
      | zero => intro tm tm' S S' o h; simp [iter] at h
      | succ n ihn =>
        intro tm tm' S S' o h
        simp only [iter] at h
        split at h
        · cases h
        · rename_i h1
          exact (ihn _ _ _ _ _ h).trans (ih _ _ _ _ _ h1 ht)
        · rename_i h1
          simp only [Option.some.injEq, Prod.mk.injEq] at h
          obtain ⟨_, rfl, _⟩ := h
          exact ih _ _ _ _ _ h1 ht
        · rename_i h1
          simp only [Option.some.injEq, Prod.mk.injEq] at h
          obtain ⟨_, rfl, _⟩ := h
          exact ih _ _ _ _ _ h1 ht
    exact key _ _ _ _ _ _ h
  | scope c ih => intro tm tm' S S' o h ht; simp only [wrs] at ht; simp only [evC] at h; exact ih _ _ _ _ _ h ht
  | _ => intro tm tm' S S' o h ht; simp [evC] at h; try (rw [h.2.1])

theorem eraseT_get : ∀ (ws : List Tmp) (tm : PM AV) (t : Nat), (eraseT ws tm).get t = if t ∈ ws then some .undef else tm.get t
  | [], tm, t => by simp [eraseT]
  | a :: l, tm, t => by
    rw [eraseT, eraseT_get l]
    by_cases h1 : t ∈ l
    · rw [if_pos h1, if_pos (List.mem_cons_of_mem _ h1)]
    · rw [if_neg h1, PM.get_set]
      by_cases h2 : t = a
      · rw [if_pos h2, if_pos (by simp [h2])]
      · rw [if_neg h2, if_neg (by simp [h1, h2])]

/-- A loop's rounds, where the loop stands at its head. -/
noncomputable def LoopW (P : Program) (Q : Exit → Act → World → Prop) (c : Code) (a : Act) (w : World) : Prop :=
  ∀ b k cs, ∃ e a' w', Q e a' w' ∧ Arrives P (lone (b.at a (.code c :: .inLoop c :: k)) cs w) b k cs e a' w'
theorem loopW_wp {P : Program} {Q : Exit → Act → World → Prop} {c : Code} {a : Act} {w : World} (h : LoopW P Q c a w) : (Code.loop c).wp P Q a w :=
  fun b k cs => let ⟨e, a', w', q, r⟩ := h b k cs; ⟨e, a', w', q, .of_steps (.one step_loop) r⟩
theorem loopW_round {P : Program} {Q : Exit → Act → World → Prop} {c : Code} {a : Act} {w : World} (h : c.wp P (fun e a' w' => (e = .normal ∧ LoopW P Q c a' w') ∨ (e ≠ .normal ∧ Q e a' w')) a w) : LoopW P Q c a w := by
  intro b k cs
  obtain ⟨e, a1, w1, hq, harr⟩ := h b (.inLoop c :: k) cs
  rcases hq with ⟨rfl, hl⟩ | ⟨hne, hq⟩
  · obtain ⟨e, a', w', q, harr2⟩ := hl b k cs
    exact ⟨e, a', w', q, .of_steps (Steps.trans harr (.one step_inLoop)) harr2⟩
  · exact ⟨e, a1, w1, hq, Arrives.pass (x := .inLoop c) rfl (fun _ _ => .inl hne) harr⟩

/-- Ahead and behind, but for the ghost. -/
noncomputable def ExtX (C : Ctx) (w : World) (C' : Ctx) (w' : World) : Prop := Ext (C.exact C'.mx) w C' w'
theorem Ext.x {C C' : Ctx} {w w' : World} (e : Ext C w C' w') : ExtX C w C' w' := by
  unfold ExtX
  rw [e.mx]
  exact e
theorem ExtX.trans {C C1 C2 : Ctx} {w w1 w2 : World} (h : ExtX C w C1 w1) (k : ExtX C1 w1 C2 w2) : ExtX C w C2 w2 := by
  unfold ExtX at h k ⊢
  have := Ext.exact C2.mx h
  exact Ext.trans this k
theorem ExtX.back {C C' : Ctx} {w w' : World} (h : ExtX C w C' w') : Ext C w (C'.exact C.mx) w' := by
  unfold ExtX at h
  have := Ext.exact C.mx h
  exact this
theorem ExtX.ghost {C : Ctx} {w : World} (g : Nat → Obj) : ExtX C w (C.exact g) w := Ext.refl _ _

theorem setBlock_at {w : World} {b : Nat} {o : Obj} (h : b < w.heap.size) : (setBlock w b o).heap[b]? = some o := by simp [setBlock, h]
theorem setBlock_ne {w : World} {b b' : Nat} {o : Obj} (h : b' ≠ b) : (setBlock w b o).heap[b']? = w.heap[b']? := by
  have : b ≠ b' := fun e => h e.symm
  simp [setBlock, Array.getElem?_setIfInBounds, this]

/-- The iterator goes one step. -/
theorem iter_step {C : Ctx} {S : St} {w w1 : World} (hw : WR E C S w) {n : Nat} (hn : C.born n) (hr : S.objs.get n = some .raw) (o' : Obj) (hw1 : w1 = w ∨ w1 = w.drew) (hmap : ∃ m s q c, C.mx n = .mapIter m s q c) :
    WR E (C.exact fun k => if k = n then o' else C.mx k) S (setBlock w1 (C.mu n) o') ∧ ExtX C w (C.exact fun k => if k = n then o' else C.mx k) (setBlock w1 (C.mu n) o') := by
  have hwd : WR E C S w1 ∧ Ext C w C w1 := by
    rcases hw1 with rfl | rfl
    · exact ⟨hw, Ext.refl _ _⟩
    · exact ⟨hw.drew, Ext.drew C w⟩
  have hal : ¬ inacc (S.objs.get n) := by rw [hr]; rintro (h | h) <;> cases h
  have hob := hwd.1.objs n hn
  rw [hr] at hob
  obtain ⟨m, s, q, c, hm⟩ := hmap
  have hlt := hwd.1.mub n hn
  obtain ⟨k1, k2⟩ := hwd.1.put (w' := setBlock w1 (C.mu n) o') hn hal (a := .dead) (o := o') (setBlock_at hlt.2) (fun b hb => setBlock_ne hb) (by simp [setBlock])
    ⟨⟨rfl, rfl, rfl, by simp [setBlock], fun k hk => setBlock_ne (by omega)⟩, trivial⟩ (fun x hx => by
      simp only [World.shape?, hob.1, hm] at hx
      cases hx) trivial
  have hget : ∀ k, (S.put n .dead).objs.get k = if k = n then some .dead else S.objs.get k := fun k => by
    show (S.objs.set n .dead).get k = _
    rw [PM.get_set]
  have k3 := k1.exact (fun k => if k = n then o' else C.mx k) (fun l hl hh => by
    rw [hget] at hh
    by_cases e : l = n
    · rw [if_pos e] at hh; cases hh
    · rw [if_neg e])
  have k4 := k3.as (l := n) (a := .raw) hn (fun k hk hne ha => by
    rw [hget, if_neg hne] at ha
    exact hwd.1.apart hn hal k hk hne ha) ⟨by
      show (setBlock w1 (C.mu n) o').heap[C.mu n]? = some (if n = n then o' else C.mx n)
      rw [setBlock_at hlt.2, if_pos rfl], hob.2⟩
  refine ⟨k4.same (fun l => ?_) rfl rfl rfl rfl rfl, Ext.exact _ (hwd.2.trans k2)⟩
  show S.objs.get l = ((S.objs.set n .dead).set n .raw).get l
  rw [PM.get_set, PM.get_set]
  by_cases e : l = n
  · rw [if_pos e, e, hr]
  · rw [if_neg e, if_neg e]

theorem nextOp_spec {l : List Oper} {it nd : Tmp} (h : nextOp l.head? = some (it, nd)) : ∃ o r, l = o :: r ∧ o.op = .next (.tmp it) false ∧ o.dst = some nd ∧ o.guard = none := by
  cases l with
  | nil => simp [nextOp] at h
  | cons o r =>
    simp only [List.head?_cons] at h
    unfold nextOp at h
    split at h
    · rename_i h1
      simp only [Option.some.injEq, Prod.mk.injEq] at h h1
      obtain ⟨rfl, rfl⟩ := h
      exact ⟨o, r, rfl, by rw [h1], by rw [h1], by rw [h1]⟩
    · cases h
theorem entryOp_spec {l : List Oper} {it ed : Tmp} (h : entryOp l.head? = some (it, ed)) : ∃ o r, l = o :: r ∧ o.op = .entry (.tmp it) ∧ o.dst = some ed ∧ o.guard = none := by
  cases l with
  | nil => simp [entryOp] at h
  | cons o r =>
    simp only [List.head?_cons] at h
    unfold entryOp at h
    split at h
    · rename_i h1
      simp only [Option.some.injEq, Prod.mk.injEq] at h h1
      obtain ⟨rfl, rfl⟩ := h
      exact ⟨o, r, rfl, by rw [h1], by rw [h1], by rw [h1]⟩
    · cases h
theorem rangeOp_spec {l : List Oper} {T : TypeId} {x : Operand} {it : Tmp} (h : rangeOp l.getLast? = some (T, x, it)) : ∃ o, l = l.dropLast ++ [o] ∧ o.op = .range T x ∧ o.dst = some it ∧ o.guard = none := by
  cases hl : l.getLast? with
  | none => rw [hl] at h; simp [rangeOp] at h
  | some o =>
    rw [hl] at h
    have hne : l ≠ [] := fun e => by rw [e] at hl; simp at hl
    have hlast : l.getLast hne = o := by rw [List.getLast?_eq_some_getLast hne] at hl; simpa using hl
    have h0 : l = l.dropLast ++ [o] := by rw [← hlast]; exact (List.dropLast_concat_getLast hne).symm
    unfold rangeOp at h
    split at h
    · rename_i h1
      simp only [Option.some.injEq, Prod.mk.injEq] at h h1
      obtain ⟨rfl, rfl, rfl⟩ := h
      exact ⟨o, h0, by rw [h1], by rw [h1], by rw [h1]⟩
    · cases h

/-- What a round comes to ahead of its body. -/
structure Pre (E : Env) (call : CallFn) (nt : Nat) (m : MapLoop) (k : Value) (x : AV) (tm : PM AV) (S : St) (tm4 : PM AV) (S4 : St) : Prop where
  ex : ∃ tm1 tm2 S2 tm3, putA nt (some m.nd) (.tup [.sc (.bool true), ofV k, x]) tm = some tm1 ∧ evSeq E call nt m.nops m.nops.toList.tail tm1 S = some (tm2, S2) ∧ getT tm2 m.c = .sc (.bool true) ∧
    putA nt (some m.ed) (.tup [ofV k, x]) tm2 = some tm3 ∧ evSeq E call nt m.eops m.eops.toList.tail tm3 S2 = some (tm4, S4)
theorem round_take {m : MapLoop} {run : Run} {k : Value} {x : AV} {tm : PM AV} {S : St} {r : Out × PM AV × St} (h : roundA E call nt m run k x tm S = some r) : ∃ tm4 S4, Pre E call nt m k x tm S tm4 S4 ∧ run tm4 S4 = some r := by
  unfold roundA at h
  split at h
  · cases h
  · rename_i tm1 h1
    split at h
    · cases h
    · rename_i tm2 S2 h2
      split at h
      · rename_i h3
        split at h
        · cases h
        · rename_i tm3 h4
          split at h
          · cases h
          · rename_i tm4 S4 h5
            exact ⟨tm4, S4, ⟨tm1, tm2, S2, tm3, h1, h2, h3, h4, h5⟩, h⟩
      · cases h

theorem ver_leaf {S : St} (h : S.wr = .leaf) (l : Nat) : S.ver l = 0 := by simp [St.ver, h]
theorem Evo.still {S S' : St} (e : Evo S S') (h0 : S.wr = .leaf) (h : ∀ l, l < S.no → S'.ver l = 0) : ∀ l, l < S.no → S'.objs.get l = S.objs.get l ∧ S'.shp.get l = S.shp.get l := fun l hl => e.obj l hl (by rw [ver_leaf h0, h l hl])
theorem Evo.leaf {S S' : St} (e : Evo S S') {n : Nat} (hn : n ≤ S.no) (h : ∀ l, l < n → S'.ver l = 0) : ∀ l, l < n → S.ver l = 0 := fun l hl => by
  have h1 := e.ver l (by omega)
  rw [h l hl] at h1
  omega
theorem born_lt {C : Ctx} {S : St} {w : World} (hw : WR E C S w) {l : Nat} (h : C.born l) : l < S.no := by
  rcases Nat.lt_or_ge l S.no with h1 | h1
  · exact h1
  · exact absurd h (hw.unb l h1)

theorem ws_it {m : MapLoop} (h : m.it ∉ m.ws) : m.nd ≠ m.it ∧ m.it ∉ dsts m.nops.toList ∧ m.ed ≠ m.it ∧ m.it ∉ dsts m.eops.toList ∧ m.it ∉ wrs m.body := by
  simp only [MapLoop.ws, List.mem_cons, List.mem_append, not_or] at h
  exact ⟨fun e => h.1 e.symm, h.2.1, fun e => h.2.2.1 e.symm, h.2.2.2.1, h.2.2.2.2⟩
theorem dsts_tail {l : List Oper} {t : Nat} (h : t ∉ dsts l) : t ∉ dsts l.tail := by
  cases l with
  | nil => exact h
  | cons o r => exact (not_dst h).2

/-- One round of the loop, up to its body; or the loop's end. -/
theorem round_pre (ok : E.Ok) (hcall : CallOk E call) (hevo : CallEvo call) {m : MapLoop} {i1 i2 : Nat} {Q : Exit → Act → World → Prop} (hno : nextOp m.nops.toList.head? = some (m.it, m.nd)) (heo : entryOp m.eops.toList.head? = some (m.it, m.ed)) (hws : m.it ∉ m.ws)
    {C : Ctx} {X : St} {tm : PM AV} {a : Act} {w : World} {n l since c0 clock : Nat} {seen : Array Nat} {ents : Array MapEntry} {es : List (Value × AV)} (hf : FR E C X nt tm a w) (hit : tm.get m.it = some (.ptr n 0)) (hn : C.born n) (hl : C.born l)
    (hXn : X.objs.get n = some .raw) (hXl : X.objs.get l = some (.mpx es)) (hnl : n ≠ l) (hmn : C.mx n = .mapIter (some (C.mu l)) since seen c0) (hml : C.mx l = .map ents clock) (hsc : since ≤ c0) (hold : ∀ x ∈ ents.toList, x.born < since)
    {R : Value → AV → PM AV → St → Prop} (hr : ∀ k x, (k, x) ∈ es → ∃ tm4 S4, Pre E call nt m k x tm X tm4 S4 ∧ (∀ l, l < X.no → S4.ver l = 0) ∧ R k x tm4 S4)
    (hover : (leftOf ents seen).size = 0 → wpOps E.P m.nops (Exit.then ((Code.seq (.cond (.tmp m.c) .skip (.exit m.b)) (.block m.b2 (.seq (.region i2 m.eops false) m.body))).wp E.P Q) Q) (List.range' 1 (m.nops.size - 1)) (a.put (some m.nd) (.tuple #[.bool false])) w)
    (hbody : ∀ e x tm4 S4 C' a' w2 w', e ∈ (leftOf ents seen).toList → (e.key, x) ∈ es → R e.key x tm4 S4 → Evo X S4 →
      WR E (C.exact fun k => if k = n then .mapIter (some (C.mu l)) since (seen.push e.born) clock else C.mx k) X w2 → ExtX C w (C.exact fun k => if k = n then .mapIter (some (C.mu l)) since (seen.push e.born) clock else C.mx k) w2 →
      FR E C' S4 nt tm4 a' w' → Ext (C.exact fun k => if k = n then .mapIter (some (C.mu l)) since (seen.push e.born) clock else C.mx k) w2 C' w' → m.body.wp E.P (Exit.inBlock m.b2 Q) a' w') :
    (Code.seq (.region i1 m.nops false) (.seq (.cond (.tmp m.c) .skip (.exit m.b)) (.block m.b2 (.seq (.region i2 m.eops false) m.body)))).wp E.P Q a w := by
  obtain ⟨w1i, w2i, w3i, w4i, w5i⟩ := ws_it hws
  obtain ⟨o0, r0, hl0, hop, hdst, hg⟩ := nextOp_spec hno
  obtain ⟨o1, r1, hl1, hop1, hdst1, hg1⟩ := entryOp_spec heo
  have hsz0 : m.nops.size = r0.length + 1 := by rw [← Array.length_toList, hl0]; rfl
  have hsz1 : m.eops.size = r1.length + 1 := by rw [← Array.length_toList, hl1]; rfl
  have hget0 : m.nops[0]? = some o0 := by rw [← Array.getElem?_toList, hl0]; rfl
  have hget1 : m.eops[0]? = some o1 := by rw [← Array.getElem?_toList, hl1]; rfl
  have htl0 : m.nops.toList.tail = r0 := by rw [hl0]; rfl
  have htl1 : m.eops.toList.tail = r1 := by rw [hl1]; rfl
  refine wp_seq (wp_region ?_)
  rw [List.range_eq_range', hsz0, List.range'_succ, wpOps]
  simp only [hget0]
  rw [if_pos (wanted_rel hf.tr (by simp [wantedA, hg]))]
  refine .inl ?_
  have hobn := hf.wr.objs n hn
  rw [hXn] at hobn
  have hobl := hf.wr.objs l hl
  rw [hXl] at hobl
  obtain ⟨hhl, ents0, clock0, hml0, hmap, hborn⟩ := hobl
  obtain ⟨rfl, rfl⟩ : ents0 = ents ∧ clock0 = clock := by rw [hml] at hml0; injection hml0 with h1 h2; exact ⟨h1.symm, h2.symm⟩
  have hptr : a.eval (.tmp m.it) = .pointer (some ⟨C.mu n, 0, none⟩) := by
    have h1 := ev_rel hf.wr hf.tr (.tmp m.it)
    have h2 : E.ev tm (.tmp m.it) = .ptr n 0 := by simp [Env.ev, getT, hit]
    rw [h2] at h1
    generalize a.eval (.tmp m.it) = V at h1 ⊢
    cases h1 with
    | ptr _ _ _ => rw [hobn.2]
  have hev : execOp a.eval o0 = (do pure (.value (← Instr.next (a.eval (.tmp m.it)) false o0.type))) := by simp [execOp, hop]
  unfold Oper.wp
  rw [hev, hptr]
  rcases run_next_at (P := E.P) w o0.type (C.mu n) (C.mu l) since c0 seen ents0 clock0 (by rw [hobn.1, hmn]) (by rw [hhl, hml]) hold hsc with ⟨hs0, hrun⟩ | ⟨e, he, w1, hw1, hrun⟩
  · rw [run_v hrun]
    have := hover hs0
    rw [hsz0] at this
    show wpOps E.P m.nops _ _ (a.put o0.dst _) w
    rw [hdst]
    exact this
  · rw [run_v hrun]
    obtain ⟨heE, _⟩ := mem_left he
    obtain ⟨x, hx⟩ := hmap.key e heE
    have hvx : VR C w x e.val := by
      obtain ⟨e', k1, k2, k3⟩ := hmap.val _ _ hx
      have := nodup_key hmap.nd' k1 heE k2
      rw [← this]; exact k3
    obtain ⟨kw, ke⟩ := iter_step hf.wr hn hXn (.mapIter (some (C.mu l)) since (seen.push e.born) clock0) hw1 ⟨_, _, _, _, hmn⟩
    generalize hg2 : (fun k => if k = n then (Obj.mapIter (some (C.mu l)) since (seen.push e.born) clock0) else C.mx k) = g2 at kw ke
    generalize hW : setBlock w1 (C.mu n) (.mapIter (some (C.mu l)) since (seen.push e.born) clock0) = W at kw ke
    obtain ⟨tm4, S4, ⟨tm1, tm2, S2, tm3, p1, p2, p3, p4, p5⟩, hleaf, hR⟩ := hr _ _ hx
    have hvx2 : VR (C.exact g2) W x e.val := (hvx.exact g2).ext ke.toExtW
    have hvt : VR (C.exact g2) W (.tup [.sc (.bool true), ofV e.key, x]) (.tuple #[.bool true, e.key, e.val]) := LR.tup (LR.cons (.sc _) (LR.cons (vr_ofV _ _ _) (LR.cons hvx2 (LR.nil _ _))))
    obtain ⟨q1, q2⟩ := ((hf.tr.exact g2).ext ke).put hf.size hvt p1
    have hf1 : FR E (C.exact g2) X nt tm1 (a.put o0.dst (.tuple #[.bool true, e.key, e.val])) W := ⟨kw, by rw [hdst]; exact q1, by rw [hdst]; exact q2, by rw [Act.put_defers']; exact hf.defers⟩
    have hpart := seq_part (Q := Exit.then ((Code.seq (.cond (.tmp m.c) .skip (.exit m.b)) (.block m.b2 (.seq (.region i2 m.eops false) m.body))).wp E.P Q) Q) (tl := []) ok hcall r0 1 (C.exact g2) tm1 tm2 X S2 (a.put o0.dst (.tuple #[.bool true, e.key, e.val])) W (by rw [hl0]; simp) (by rw [← htl0]; exact p2) hf1 (fun C1 a1 w1' f1 e1 => ?_)
    · rw [List.append_nil] at hpart
      exact hpart
    · show (Code.seq (.cond (.tmp m.c) .skip (.exit m.b)) (.block m.b2 (.seq (.region i2 m.eops false) m.body))).wp E.P Q a1 w1'
      have hcond : a1.eval (.tmp m.c) = .bool true := by
        have h1 := ev_rel f1.wr f1.tr (.tmp m.c)
        have h2 : E.ev tm2 (.tmp m.c) = .sc (.bool true) := p3
        rw [h2] at h1
        exact h1.sc_inv
      refine wp_seq (wp_cond_true hcond (wp_skip ?_))
      show (Code.block m.b2 (.seq (.region i2 m.eops false) m.body)).wp E.P Q a1 w1'
      refine wp_block (wp_seq (wp_region ?_))
      rw [List.range_eq_range', hsz1, List.range'_succ, wpOps]
      simp only [hget1]
      rw [if_pos (wanted_rel f1.tr (by simp [wantedA, hg1]))]
      refine .inl ?_
      have ev1 : Evo X S2 := seq_evo hevo _ _ _ _ _ p2
      have ev2 : Evo S2 S4 := seq_evo hevo _ _ _ _ _ p5
      have same2 : ∀ k, k < X.no → S2.objs.get k = X.objs.get k := fun k hk => by
        have h1 := ev1.ver k hk
        have h2 : S2.ver k = 0 := by
          have q1 := ev2.ver k (Nat.lt_of_lt_of_le hk ev1.no)
          have q2 := hleaf k hk
          omega
        exact (ev1.obj k hk (by omega)).1
      obtain ⟨bn1, bn2, bn3, _, _⟩ := e1.born n hn
      obtain ⟨bl1, bl2, _, _, _⟩ := e1.born l hl
      have ob1 := f1.wr.objs n bn1
      rw [same2 n (born_lt hf.wr hn), hXn] at ob1
      have ob2 := f1.wr.objs l bl1
      rw [same2 l (born_lt hf.wr hl), hXl] at ob2
      have hit2 : tm2.get m.it = some (.ptr n 0) := by
        rw [seq_keeps _ _ _ _ _ p2 (dsts_tail w2i), putA_keeps p1 (fun e => w1i (Option.some.inj e)), hit]
      have hptr1 : a1.eval (.tmp m.it) = .pointer (some ⟨C1.mu n, 0, none⟩) := by
        have h1 := ev_rel f1.wr f1.tr (.tmp m.it)
        have h2 : E.ev tm2 (.tmp m.it) = .ptr n 0 := by simp [Env.ev, getT, hit2]
        rw [h2] at h1
        generalize a1.eval (.tmp m.it) = V at h1 ⊢
        cases h1 with
        | ptr _ _ _ => rw [ob1.2]
      have hmxn : C1.mx n = .mapIter (some (C.mu l)) since (seen.push e.born) clock0 := by
        rw [e1.mx, ← hg2]
        show (if n = n then _ else _) = _
        rw [if_pos rfl]
      have hmxl : C1.mx l = .map ents0 clock0 := by
        rw [e1.mx, ← hg2]
        show (if l = n then _ else _) = _
        rw [if_neg (fun e => hnl e.symm), hml]
      have hev1 : execOp a1.eval o1 = (do pure (.value (← Instr.entry (a1.eval (.tmp m.it))))) := by simp [execOp, hop1]
      have hb2 : w1'.heap[C.mu l]? = some (.map ents0 clock0) := by
        have := ob2.1
        rw [bl2, hmxl] at this
        exact this
      unfold Oper.wp
      rw [hev1, hptr1, run_v (run_entry_at (P := E.P) w1' (C1.mu n) (C.mu l) since seen ents0 clock0 e (by rw [ob1.1, hmxn]) hb2 heE hborn.2)]
      have hvt2 : VR C1 w1' (.tup [ofV e.key, x]) (.tuple #[e.key, e.val]) := LR.tup (LR.cons (vr_ofV _ _ _) (LR.cons (hvx2.ext e1.toExtW) (LR.nil _ _)))
      have hf2 : FR E C1 S2 nt tm3 (a1.put o1.dst (.tuple #[e.key, e.val])) w1' := by
        rw [hdst1]
        exact f1.put f1.wr (Ext.refl _ _) hvt2 p4
      have hpart2 := seq_part (Q := Exit.then (m.body.wp E.P (Exit.inBlock m.b2 Q)) (Exit.inBlock m.b2 Q)) (tl := []) ok hcall r1 1 C1 tm3 tm4 S2 S4 (a1.put o1.dst (.tuple #[e.key, e.val])) w1' (by rw [hl1]; simp) (by rw [← htl1]; exact p5) hf2 (fun C3 a3 w3 f3 e3 => ?_)
      · rw [List.append_nil] at hpart2
        exact hpart2
      · show m.body.wp E.P (Exit.inBlock m.b2 Q) a3 w3
        rw [← hg2] at kw ke e1
        exact hbody e x tm4 S4 C3 a3 W w3 he hx hR (ev1.trans ev2) kw ke f3 (e1.trans e3)

theorem pre_keeps {m : MapLoop} {k : Value} {x : AV} {tm tm4 : PM AV} {S S4 : St} (h : Pre E call nt m k x tm S tm4 S4) {t : Nat} (ht : t ∉ m.ws) : tm4.get t = tm.get t := by
  simp only [MapLoop.ws, List.mem_cons, List.mem_append, not_or] at ht
  obtain ⟨tm1, tm2, S2, tm3, p1, p2, p3, p4, p5⟩ := h.ex
  rw [seq_keeps _ _ _ _ _ p5 (dsts_tail ht.2.2.2.1), putA_keeps p4 (fun e => ht.2.2.1 (Option.some.inj e).symm), seq_keeps _ _ _ _ _ p2 (dsts_tail ht.2.1), putA_keeps p1 (fun e => ht.1 (Option.some.inj e).symm)]

theorem pre_evo (hevo : CallEvo call) {m : MapLoop} {k : Value} {x : AV} {tm tm4 : PM AV} {S S4 : St} (h : Pre E call nt m k x tm S tm4 S4) : Evo S S4 := by
  obtain ⟨tm1, tm2, S2, tm3, p1, p2, p3, p4, p5⟩ := h.ex
  exact (seq_evo hevo _ _ _ _ _ p2).trans (seq_evo hevo _ _ _ _ _ p5)

/-- The loop's end. -/
theorem last_ok (ok : E.Ok) (hcall : CallOk E call) {m : MapLoop} {i2 : Nat} {Q : Exit → Act → World → Prop} (hno : nextOp m.nops.toList.head? = some (m.it, m.nd)) {C : Ctx} {S S' : St} {tm tm' : PM AV} {o : Out} {a : Act} {w : World}
    (h : lastA E call nt m tm S = some (o, tm', S')) (hf : FR E C S nt tm a w) (hq : o = .nrm → ∀ C' a' w', FR E C' S' nt tm' a' w' → Ext C w C' w' → Q (.exit m.b) a' w') :
    wpOps E.P m.nops (Exit.then ((Code.seq (.cond (.tmp m.c) .skip (.exit m.b)) (.block m.b2 (.seq (.region i2 m.eops false) m.body))).wp E.P Q) Q) (List.range' 1 (m.nops.size - 1)) (a.put (some m.nd) (.tuple #[.bool false])) w := by
  obtain ⟨o0, r0, hl0, hop, hdst, hg⟩ := nextOp_spec hno
  have hsz0 : m.nops.size = r0.length + 1 := by rw [← Array.length_toList, hl0]; rfl
  have htl0 : m.nops.toList.tail = r0 := by rw [hl0]; rfl
  unfold lastA at h
  split at h
  · cases h
  · rename_i tm1 p1
    split at h
    · cases h
    · rename_i tm2 S2 p2
      split at h
      · rename_i p3
        simp only [Option.some.injEq, Prod.mk.injEq] at h
        obtain ⟨rfl, rfl, rfl⟩ := h
        have hvt : VR C w (.tup [.sc (.bool false)]) (.tuple #[.bool false]) := LR.tup (LR.cons (.sc _) (LR.nil _ _))
        have hf1 : FR E C S nt tm1 (a.put (some m.nd) (.tuple #[.bool false])) w := hf.put hf.wr (Ext.refl _ _) hvt p1
        have hpart := seq_part (Q := Exit.then ((Code.seq (.cond (.tmp m.c) .skip (.exit m.b)) (.block m.b2 (.seq (.region i2 m.eops false) m.body))).wp E.P Q) Q) (tl := []) ok hcall r0 1 C tm1 tm2 S S2 _ w (by rw [hl0]; simp) (by rw [← htl0]; exact p2) hf1 (fun C1 a1 w1 f1 e1 => ?_)
        · rw [List.append_nil] at hpart
          rw [hsz0]
          exact hpart
        · show (Code.seq (.cond (.tmp m.c) .skip (.exit m.b)) (.block m.b2 (.seq (.region i2 m.eops false) m.body))).wp E.P Q a1 w1
          have hcond : a1.eval (.tmp m.c) = .bool false := by
            have h1 := ev_rel f1.wr f1.tr (.tmp m.c)
            have h2 : E.ev tm2 (.tmp m.c) = .sc (.bool false) := p3
            rw [h2] at h1
            exact h1.sc_inv
          exact wp_seq (wp_cond_false hcond (wp_exit (hq rfl C1 a1 w1 f1 e1)))
      · cases h

theorem still_spec {S S' : St} (h : still S S' = true) : (∀ l, l < S.no → S'.ver l = 0) ∧ S'.nid = S.nid := by
  simp only [still, Bool.and_eq_true] at h
  refine ⟨fun l hl => ?_, Nat.eq_of_beq_eq_true h.2⟩
  unfold St.ver
  cases hg : S'.wr.get l with
  | none => rfl
  | some v =>
    have := Nat.le_of_ble_eq_true (PM.allKeys_get _ _ h.1 l v hg)
    omega

/-- Back at the loop's head: what the round has made is forgotten. -/
theorem round_back {C C2 C5 : Ctx} {X S5 : St} {tm3 tm5 : PM AV} {a a5 : Act} {w w2 w5 : World} {ws : List Tmp} {g : Nat → Obj} (hf : FR E C X nt (eraseT ws tm3) a w) (hC2 : C2 = C.exact g) (kw : WR E C2 X w2) (ke : ExtX C w C2 w2) (f5 : FR E C5 S5 nt tm5 a5 w5) (e5 : Ext C2 w2 C5 w5)
    (ev : Evo X S5) (hX : X.wr = .leaf) (hs : still X S5 = true) (hk : ∀ t, t ∉ ws → tm5.get t = (eraseT ws tm3).get t) : FR E (C2.cut C5) X nt (eraseT ws tm3) a5 w5 := by
  obtain ⟨hleaf, hnid⟩ := still_spec hs
  have hb : ∀ l, C2.born l → C5.born l := fun l hl => (e5.born l hl).1
  refine ⟨forget kw f5.wr e5 (fun l hl => (ev.still hX hleaf l (born_lt kw hl)).1) (fun l hl => (ev.still hX hleaf l (born_lt kw hl)).2) hnid (ev.idl.idk hnid).1 (ev.idl.idk hnid).2, fun t y hy => ?_, f5.size, f5.defers⟩
  by_cases ht : t ∈ ws
  · rw [eraseT_get, if_pos ht] at hy
    simp only [Option.some.injEq] at hy
    subst hy
    exact .undef _
  · have h1 := f5.tr t y ((hk t ht).trans hy)
    have h2 := hf.tr t y hy
    have h3 : VR C2 w2 y (a.tmps.getD t Go.undef) := by
      subst hC2
      exact (h2.exact g).ext (Ext.toExtW ke)
    exact h3.back hb h1

/-- A loop whose rounds leave all as it is. -/
theorem scan_loop (ok : E.Ok) (hcall : CallOk E call) (hevo : CallEvo call) {m : MapLoop} {run : Run} {i1 i2 : Nat} {Qf : Exit → Act → World → Prop} (hno : nextOp m.nops.toList.head? = some (m.it, m.nd)) (heo : entryOp m.eops.toList.head? = some (m.it, m.ed)) (hws : m.it ∉ m.ws)
    (hrun : StmtOk E nt m.body run) (hrevo : ∀ tm tm' S S' o, run tm S = some (o, tm', S') → Evo S S') (hrk : ∀ tm tm' S S' o t, run tm S = some (o, tm', S') → t ∉ wrs m.body → tm'.get t = tm.get t)
    {C0 : Ctx} {w0 : World} {X : St} {tm : PM AV} {n l since clock : Nat} {ents : Array MapEntry} {es : List (Value × AV)} (hit : (eraseT m.ws tm).get m.it = some (.ptr n 0)) (hXw : X.wr = .leaf) (hXn : X.objs.get n = some .raw) (hXl : X.objs.get l = some (.mpx es)) (hnl : n ≠ l)
    (hsk : since ≤ clock) (hold : ∀ x ∈ ents.toList, x.born < since) (hscan : scanA E call nt m run es (eraseT m.ws tm) X = true)
    (hlast : ∀ C a w, FR E C X nt (eraseT m.ws tm) a w → C.born n → C.born l → (∀ k, k ≠ n → k ≠ l → C.mx k = C0.mx k) → ExtX C0 w0 C w → ∀ Q : Exit → Act → World → Prop, (∀ a' w', Qf (.exit m.b) a' w' → Q (.exit m.b) a' w') →
      wpOps E.P m.nops (Exit.then ((Code.seq (.cond (.tmp m.c) .skip (.exit m.b)) (.block m.b2 (.seq (.region i2 m.eops false) m.body))).wp E.P Q) Q) (List.range' 1 (m.nops.size - 1)) (a.put (some m.nd) (.tuple #[.bool false])) w) :
    ∀ (N : Nat) (C : Ctx) (seen : Array Nat) (c0 : Nat) (a : Act) (w : World), (leftOf ents seen).size < N → FR E C X nt (eraseT m.ws tm) a w → C.born n → C.born l → C.mx n = .mapIter (some (C.mu l)) since seen c0 → C.mx l = .map ents clock → since ≤ c0 →
      (∀ k, k ≠ n → k ≠ l → C.mx k = C0.mx k) → ExtX C0 w0 C w →
      LoopW E.P Qf (Code.seq (.region i1 m.nops false) (.seq (.cond (.tmp m.c) .skip (.exit m.b)) (.block m.b2 (.seq (.region i2 m.eops false) m.body)))) a w := by
  intro N
  induction N with
  | zero => intro C seen c0 a w h; omega
  | succ N ih =>
    intro C seen c0 a w hN hf hn hl hmn hml hsc hmx hex
    refine loopW_round (round_pre ok hcall hevo hno heo hws hf hit hn hl hXn hXl hnl hmn hml hsc hold (R := fun k x tm4 S4 => ∃ o tm5 S5, run tm4 S4 = some (o, tm5, S5) ∧ goesOn m.b2 o = true ∧ still X S5 = true ∧ Pre E call nt m k x (eraseT m.ws tm) X tm4 S4) (fun k x hx => ?_) (fun hs0 => ?_) ?_)
    · have := List.all_eq_true.1 hscan _ hx
      split at this
      · rename_i o tm5 S5 h1
        simp only [Bool.and_eq_true] at this
        obtain ⟨tm4, S4, p1, p2⟩ := round_take h1
        obtain ⟨hleaf, _⟩ := still_spec this.2
        exact ⟨tm4, S4, p1, (hrevo _ _ _ _ _ p2).leaf (pre_evo hevo p1).no hleaf, o, tm5, S5, p2, this.1, this.2, p1⟩
      · cases this
    · exact hlast C a w hf hn hl hmx hex _ (fun a' w' h => .inr ⟨by simp, h⟩)
    · intro e x tm4 S4 C' a' w2 w' he hx hR ev4 kw ke f4 e4
      obtain ⟨o, tm5, S5, p2, hgo, hst, hpre⟩ := hR
      refine hrun tm4 tm5 S4 S5 o C' a' w' _ p2 f4 (fun C5 a5 w5 f5 e5 => ?_)
      have hback := round_back (C2 := C.exact fun k => if k = n then .mapIter (some (C.mu l)) since (seen.push e.born) clock else C.mx k) hf rfl kw ke f5 (e4.trans e5) (ev4.trans (hrevo _ _ _ _ _ p2)) hXw hst (fun t ht => by
        rw [hrk _ _ _ _ _ t p2 (by simp only [MapLoop.ws, List.mem_cons, List.mem_append, not_or] at ht; exact ht.2.2.2.2), pre_keeps hpre ht])
      have e45 := e4.trans e5
      have key : LoopW E.P Qf (Code.seq (.region i1 m.nops false) (.seq (.cond (.tmp m.c) .skip (.exit m.b)) (.block m.b2 (.seq (.region i2 m.eops false) m.body)))) a5 w5 := by
        refine ih _ (seen.push e.born) clock a5 w5 (by have := left_shrinks ents seen e he; omega) hback hn hl ?_ ?_ hsk (fun k h1 h2 => ?_) (hex.trans (ke.trans e45.cut.x))
        · show C5.mx n = .mapIter (some (C5.mu l)) since (seen.push e.born) clock
          rw [e45.mx, (e45.born l hl).2.1]
          show (if n = n then _ else _) = _
          rw [if_pos rfl]
          rfl
        · show C5.mx l = _
          rw [e45.mx]
          show (if l = n then _ else _) = _
          rw [if_neg (fun e => hnl e.symm), hml]
        · show C5.mx k = _
          rw [e45.mx]
          show (if k = n then _ else _) = _
          rw [if_neg h1, hmx k h1 h2]
      cases o with
      | nrm => exact .inl ⟨rfl, key⟩
      | exit j =>
        have hj : j = m.b2 := Nat.eq_of_beq_eq_true hgo
        subst hj
        show (if m.b2 = m.b2 then _ else _)
        rw [if_pos rfl]
        exact .inl ⟨rfl, key⟩
      | ret => cases hgo
end
end Go.Abs
end

section
set_option linter.unusedSimpArgs false
set_option linter.unusedVariables false
namespace Go.Abs
open Go.RowKit Go.MapKept
open Go.ChangeMaps (setBlock)

section
variable {d : TypeDesc} {k : Value} {y : AV}
theorem setKey_mem (hk : isKey d k = true) : ∀ {es : List (Value × AV)}, es.all (fun e => isKey d e.1) = true → (es.map (·.1)).Nodup → ∀ k' y', (k', y') ∈ setKey d k y es ↔ (k' = k ∧ y' = y) ∨ (k' ≠ k ∧ (k', y') ∈ es)
  | [], _, _, k', y' => by simp [setKey]
  | e :: es, h, hn, k', y' => by
    simp only [List.all_cons, Bool.and_eq_true] at h
    simp only [List.map_cons, List.nodup_cons] at hn
    rcases same_keys hk h.1 with ⟨h1, h2⟩ | ⟨h1, h2⟩
    · simp only [setKey, h1, List.mem_cons]
      constructor
      · rintro (h3 | h3)
        · injection h3 with q1 q2; exact .inl ⟨q1, q2⟩
        · refine .inr ⟨fun e' => hn.1 (List.mem_map.2 ⟨(k', y'), h3, ?_⟩), .inr h3⟩
          show k' = e.1
          rw [e', h2]
      · rintro (⟨rfl, rfl⟩ | ⟨h3, h4 | h4⟩)
        · exact .inl rfl
        · exact absurd (by have := congrArg Prod.fst h4; simpa [h2] using this) h3
        · exact .inr h4
    · simp only [setKey, h1, List.mem_cons, setKey_mem hk h.2 hn.2 k' y']
      constructor
      · rintro (h3 | h3 | ⟨h3, h4⟩)
        · refine .inr ⟨fun e' => h2 ?_, .inl h3⟩
          have := congrArg Prod.fst h3
          rw [← e']; exact this
        · exact .inl h3
        · exact .inr ⟨h3, .inr h4⟩
      · rintro (h3 | ⟨h3, h4 | h4⟩)
        · exact .inr (.inl h3)
        · exact .inl h4
        · exact .inr (.inr ⟨h3, h4⟩)
theorem setKey_keys (hk : isKey d k = true) : ∀ {es : List (Value × AV)}, es.all (fun e => isKey d e.1) = true → (setKey d k y es).all (fun e => isKey d e.1) = true
  | [], _ => by simp [setKey, hk]
  | e :: es, h => by
    simp only [List.all_cons, Bool.and_eq_true] at h
    rcases same_keys hk h.1 with ⟨h1, h2⟩ | ⟨h1, h2⟩
    · simp only [setKey, h1, List.all_cons, Bool.and_eq_true]; exact ⟨hk, h.2⟩
    · simp only [setKey, h1, List.all_cons, Bool.and_eq_true]; exact ⟨h.1, setKey_keys hk h.2⟩
theorem setKey_nodup (hk : isKey d k = true) : ∀ {es : List (Value × AV)}, es.all (fun e => isKey d e.1) = true → (es.map (·.1)).Nodup → ((setKey d k y es).map (·.1)).Nodup
  | [], _, _ => by simp [setKey]
  | e :: es, h, hn => by
    have hn0 := hn
    have h0 := h
    simp only [List.all_cons, Bool.and_eq_true] at h
    simp only [List.map_cons, List.nodup_cons] at hn
    rcases same_keys hk h.1 with ⟨h1, h2⟩ | ⟨h1, h2⟩
    · simp only [setKey, h1, List.map_cons, List.nodup_cons]
      rw [h2]; exact hn
    · simp only [setKey, h1, List.map_cons, List.nodup_cons]
      refine ⟨fun hm => ?_, setKey_nodup hk h.2 hn.2⟩
      obtain ⟨⟨k', y'⟩, q1, q2⟩ := List.mem_map.1 hm
      rcases (setKey_mem hk h.2 hn.2 k' y').1 q1 with ⟨rfl, rfl⟩ | ⟨_, q3⟩
      · exact h2 q2
      · exact hn.1 (List.mem_map.2 ⟨_, q3, q2⟩)
end

theorem pairs_nodup {es : List (Value × AV)} (h : (es.map (·.1)).Nodup) : es.Nodup := by
  unfold List.Nodup at h ⊢
  rw [List.pairwise_map] at h
  exact h.imp (fun h e => h (by rw [e]))
theorem MapR.congr {C : Ctx} {w : World} {es es' : List (Value × AV)} {ents : List MapEntry} (h : MapR C w es ents) (hn : (es'.map (·.1)).Nodup) (hm : ∀ k y, (k, y) ∈ es' ↔ (k, y) ∈ es) : MapR C w es' ents := by
  have hp : es'.Perm es := (List.perm_ext_iff_of_nodup (pairs_nodup hn) (pairs_nodup h.nd)).2 (fun ⟨k, y⟩ => hm k y)
  exact ⟨hp.length_eq.trans h.len, hn, h.nd', fun e he => let ⟨x, hx⟩ := h.key e he; ⟨x, (hm _ _).2 hx⟩, fun k x hx => h.val k x ((hm _ _).1 hx)⟩
theorem MapR.imp {C C' : Ctx} {w w' : World} {es : List (Value × AV)} {ents : List MapEntry} (h : MapR C w es ents) (f : ∀ k x v, (k, x) ∈ es → VR C w x v → VR C' w' x v) : MapR C' w' es ents :=
  ⟨h.len, h.nd, h.nd', h.key, fun k x hx => let ⟨e, h1, h2, h3⟩ := h.val k x hx; ⟨e, h1, h2, f k x _ hx h3⟩⟩

section
variable {E : Env} {call : CallFn} {nt : Nat}

theorem updOp_spec {l : List Oper} {T : TypeId} {mo ko vo : Operand} (h : updOp l.getLast? = some (T, mo, ko, vo)) : ∃ o, l = l.dropLast ++ [o] ∧ o.op = .mapUpdate T mo ko vo ∧ o.dst = none ∧ o.guard = none := by
  cases hl : l.getLast? with
  | none => rw [hl] at h; simp [updOp] at h
  | some o =>
    rw [hl] at h
    have hne : l ≠ [] := fun e => by rw [e] at hl; simp at hl
    have hlast : l.getLast hne = o := by rw [List.getLast?_eq_some_getLast hne] at hl; simpa using hl
    have h0 : l = l.dropLast ++ [o] := by rw [← hlast]; exact (List.dropLast_concat_getLast hne).symm
    unfold updOp at h
    split at h
    · rename_i h1
      simp only [Option.some.injEq, Prod.mk.injEq] at h h1
      obtain ⟨rfl, rfl, rfl, rfl⟩ := h
      exact ⟨o, h0, by rw [h1], by rw [h1], by rw [h1]⟩
    · cases h
theorem copyBody_spec {c : Code} {ops : Array Oper} {T : TypeId} {mo ko vo : Operand} (h : copyBody c = some (ops, T, mo, ko, vo)) : ∃ i o, c = .region i ops false ∧ ops.toList = ops.toList.dropLast ++ [o] ∧ o.op = .mapUpdate T mo ko vo ∧ o.dst = none ∧ o.guard = none := by
  unfold copyBody at h
  split at h
  · rename_i i ops'
    split at h
    · rename_i h1
      simp only [Option.some.injEq, Prod.mk.injEq] at h
      obtain ⟨rfl, rfl, rfl, rfl, rfl⟩ := h
      obtain ⟨o, q1, q2, q3, q4⟩ := updOp_spec h1
      exact ⟨i, o, rfl, q1, q2, q3, q4⟩
    · cases h
  · cases h

/-- What one round of such a loop does. -/
structure One (E : Env) (call : CallFn) (nt : Nat) (m : MapLoop) (ops : Array Oper) (mo ko vo : Operand) (d : TypeDesc) (ld : Nat) (tm : PM AV) (A X : St) (k : Value) (x y : AV) (tm4 : PM AV) (S4 : St) : Prop where
  pre : Pre E call nt m k x tm X tm4 S4
  key : isKey d k = true
  old : oldA A y = true
  ex : ∃ tm5 S5, evSeq E call nt ops ops.toList.dropLast tm4 S4 = some (tm5, S5) ∧ E.ev tm5 mo = .mp ld ∧ keyOf (E.ev tm5 ko) = some k ∧ E.ev tm5 vo = y ∧ still X S5 = true

theorem one_take {m : MapLoop} {ops : Array Oper} {mo ko vo : Operand} {d : TypeDesc} {ld l : Nat} {tm : PM AV} {A S' : St} {e : Value × AV} {k : Value} {y : AV} (h : copyOne E call nt m ops mo ko vo e tm A = some (l, k, y, S')) (hk : k = e.1) (hl : l = ld) (hs : still A S' = true) (ho : oldA A y = true) (hkey : isKey d k = true) :
    ∃ tm4 S4, One E call nt m ops mo ko vo d ld tm A A e.1 e.2 y tm4 S4 := by
  unfold copyOne at h
  split at h
  · rename_i tm' S1 hr
    obtain ⟨tm4, S4, p1, p2⟩ := round_take hr
    split at h
    · rename_i e1 e2
      simp only [Option.some.injEq, Prod.mk.injEq] at h
      obtain ⟨rfl, rfl, rfl, rfl⟩ := h
      unfold copyRun at p2
      split at p2
      · rename_i tm5 S5 p3
        simp only [Option.some.injEq, Prod.mk.injEq] at p2
        obtain ⟨_, rfl, rfl⟩ := p2
        exact ⟨tm4, S4, p1, by rw [← hk]; exact hkey, ho, tm5, S5, p3, by rw [e1, hl], by rw [e2, hk], rfl, hs⟩
      · cases p2
    · cases h
  · cases h

theorem copyAll_spec {m : MapLoop} {ops : Array Oper} {mo ko vo : Operand} {d : TypeDesc} {ld : Nat} {tm : PM AV} {A : St} : ∀ (es acc : List (Value × AV)) {r : List (Value × AV)}, copyAll E call nt m ops mo ko vo d ld tm A es acc = some r →
    es.all (fun e => isKey d e.1) = true → (es.map (·.1)).Nodup → acc.all (fun e => isKey d e.1) = true → (acc.map (·.1)).Nodup →
    ∃ ys : List (Value × AV), (∀ k x, (k, x) ∈ es → ∃ y tm4 S4, (k, y) ∈ ys ∧ One E call nt m ops mo ko vo d ld tm A A k x y tm4 S4) ∧ (∀ k y y', (k, y) ∈ ys → (k, y') ∈ ys → y = y') ∧ (∀ k y, (k, y) ∈ ys → ∃ x, (k, x) ∈ es) ∧ (r.map (·.1)).Nodup ∧
      ∀ k y, (k, y) ∈ r ↔ ((∃ x, (k, x) ∈ es) ∧ (k, y) ∈ ys) ∨ ((¬ ∃ x, (k, x) ∈ es) ∧ (k, y) ∈ acc)
  | [], acc, r, h, _, _, _, hn => by
    simp only [copyAll, Option.some.injEq] at h
    subst h
    exact ⟨[], fun k x h => by simp at h, fun k y y' h => by simp at h, fun k y h => by simp at h, hn, fun k y => by simp⟩
  | e :: es, acc, r, h, hes, hne, hacc, hna => by
    simp only [copyAll] at h
    split at h
    · rename_i l k y S' h1
      split at h
      · rename_i hsame
        simp only [cond_eq_ite] at h
        split at h
        · rename_i hb
          simp only [Bool.and_eq_true] at hb
          obtain ⟨⟨⟨b1, b2⟩, b3⟩, b4⟩ := hb
          have hes0 := hes
          simp only [List.all_cons, Bool.and_eq_true] at hes
          have hne0 := hne
          simp only [List.map_cons, List.nodup_cons] at hne
          have hke : k = e.1 := by
            rcases same_keys b4 hes.1 with ⟨q1, q2⟩ | ⟨q1, q2⟩
            · exact q2
            · rw [q1] at hsame; cases hsame
          obtain ⟨tm4, S4, hone⟩ := one_take h1 hke (Nat.eq_of_beq_eq_true b1) b2 b3 b4
          obtain ⟨ys, y1, y2, y3, y4, y5⟩ := copyAll_spec es _ h hes.2 hne.2 (setKey_keys b4 hacc) (setKey_nodup b4 hacc hna)
          have hnot : ¬ ∃ x, (k, x) ∈ es := by
            rintro ⟨x, hx⟩
            exact hne.1 (List.mem_map.2 ⟨_, hx, hke⟩)
          refine ⟨(k, y) :: ys, fun k' x' hx => ?_, fun k' a b ha hb => ?_, fun k' a ha => ?_, y4, fun k' y' => ?_⟩
          · rcases List.mem_cons.1 hx with rfl | hx
            · exact ⟨y, tm4, S4, by rw [hke]; exact List.mem_cons_self, hone⟩
            · obtain ⟨y', tm4', S4', q1, q2⟩ := y1 _ _ hx
              exact ⟨y', tm4', S4', List.mem_cons_of_mem _ q1, q2⟩
          · rcases List.mem_cons.1 ha with ha | ha
            · injection ha with q1 q2
              rcases List.mem_cons.1 hb with hb | hb
              · injection hb with q3 q4; rw [q2, q4]
              · exact absurd (by rw [← q1]; exact y3 _ _ hb) hnot
            · rcases List.mem_cons.1 hb with hb | hb
              · injection hb with q3 q4; exact absurd (by rw [← q3]; exact y3 _ _ ha) hnot
              · exact y2 _ _ _ ha hb
          · rcases List.mem_cons.1 ha with ha | ha
            · injection ha with q1 q2
              exact ⟨e.2, by rw [q1, hke]; exact List.mem_cons_self⟩
            · obtain ⟨x, hx⟩ := y3 _ _ ha
              exact ⟨x, List.mem_cons_of_mem _ hx⟩
          · rw [y5, setKey_mem b4 hacc hna]
            have hex : (∃ x, (k', x) ∈ e :: es) ↔ k' = k ∨ ∃ x, (k', x) ∈ es := by
              constructor
              · rintro ⟨x, hx⟩
                rcases List.mem_cons.1 hx with hx | hx
                · exact .inl (by rw [hke]; exact congrArg Prod.fst hx)
                · exact .inr ⟨x, hx⟩
              · rintro (rfl | ⟨x, hx⟩)
                · exact ⟨e.2, by rw [hke]; exact List.mem_cons_self⟩
                · exact ⟨x, List.mem_cons_of_mem _ hx⟩
            rw [hex]
            constructor
            · rintro (⟨q1, q2⟩ | ⟨q1, ⟨rfl, rfl⟩ | ⟨q2, q3⟩⟩)
              · exact .inl ⟨.inr q1, List.mem_cons_of_mem _ q2⟩
              · exact .inl ⟨.inl rfl, List.mem_cons_self⟩
              · exact .inr ⟨by rintro (q | q); exact q2 q; exact q1 q, q3⟩
            · rintro (⟨q1, q2⟩ | ⟨q1, q2⟩)
              · rcases List.mem_cons.1 q2 with q2 | q2
                · injection q2 with q3 q4
                  subst q3; subst q4
                  exact .inr ⟨hnot, .inl ⟨rfl, rfl⟩⟩
                · exact .inl ⟨y3 _ _ q2, q2⟩
              · exact .inr ⟨fun q => q1 (.inr q), .inr ⟨fun q => q1 (.inl q), q2⟩⟩
        · cases h
      · cases h
    · cases h
end
end Go.Abs
end

section
set_option linter.unusedSimpArgs false
set_option linter.unusedVariables false
namespace Go.Abs
open Go.RowKit Go.MapKept
open Go.ChangeMaps (setBlock)

section
variable {E : Env} {call : CallFn} {nt : Nat}

theorem pre_does {D : Nat → Prop} (hc : CallFrm call) {m : MapLoop} {kk : Value} {x : AV} {tm tm4 : PM AV} {A X S4 : St} (k : Frm D A X) (h : Pre E call nt m kk x tm A tm4 S4) : ∃ X4, Pre E call nt m kk x tm X tm4 X4 ∧ Stp D A X S4 X4 := by
  obtain ⟨tm1, tm2, S2, tm3, p1, p2, p3, p4, p5⟩ := h.ex
  obtain ⟨X2, g2, k2⟩ := seq_does hc _ _ _ _ _ _ k p2
  obtain ⟨X4, g4, k4⟩ := seq_does hc _ _ _ _ _ _ k2.frm p5
  exact ⟨X4, ⟨tm1, tm2, X2, tm3, p1, g2, p3, p4, g4⟩, k2.trans k4⟩
theorem one_does2 {D : Nat → Prop} (hc : CallFrm call) {m : MapLoop} {ops : Array Oper} {mo ko vo : Operand} {d : TypeDesc} {ld : Nat} {kk : Value} {x y : AV} {tm tm4 : PM AV} {A X S4 : St} (k : Frm D A X) (h : One E call nt m ops mo ko vo d ld tm A A kk x y tm4 S4) :
    ∃ X4, One E call nt m ops mo ko vo d ld tm A X kk x y tm4 X4 := by
  obtain ⟨X4, g1, k1⟩ := pre_does hc k h.pre
  obtain ⟨tm5, S5, p1, p2, p3, p4, p5⟩ := h.ex
  obtain ⟨X5, g5, k5⟩ := seq_does hc _ _ _ _ _ _ k1.frm p1
  exact ⟨X4, g1, h.key, h.old, tm5, X5, g5, p2, p3, p4, by rw [still_does k k5.frm]; exact p5⟩

/-- The state in the midst of such a loop. -/
noncomputable def St.midst (X0 : St) (ld : Nat) (acc : List (Value × AV)) : St := (X0.put ld (.mp acc)).clean
noncomputable def St.shut (X0 : St) (ld : Nat) : St := (X0.put ld .dead).clean
theorem midst_get (X0 : St) (ld : Nat) (acc : List (Value × AV)) (k : Nat) : (X0.midst ld acc).objs.get k = if k = ld then some (.mp acc) else X0.objs.get k := by
  show (X0.objs.set ld _).get k = _
  rw [PM.get_set]
theorem shut_get (X0 : St) (ld : Nat) (k : Nat) : (X0.shut ld).objs.get k = if k = ld then some .dead else X0.objs.get k := by
  show (X0.objs.set ld _).get k = _
  rw [PM.get_set]
theorem midst_frm (X0 : St) {ld : Nat} (hl : ld < X0.no) (acc : List (Value × AV)) : Frm (fun k => k = ld) (X0.shut ld) (X0.midst ld acc) :=
  ⟨rfl, rfl, fun _ => rfl, fun _ => rfl, rfl, fun k hk => by rw [midst_get, shut_get, if_neg hk, if_neg hk], fun _ _ => rfl, fun k hk => by rw [shut_get, if_pos hk]; exact .inr rfl, fun k hk => by rw [hk]; exact hl⟩

theorem tr_back {C C2 C5 : Ctx} {tm3 tm5 : PM AV} {ts ts5 : Array Value} {w w2 w5 : World} {ws : List Tmp} {g : Nat → Obj} (hf : TR C w (eraseT ws tm3) ts) (hC2 : C2 = C.exact g) (ke : ExtX C w C2 w2) (f5 : TR C5 w5 tm5 ts5) (e5 : Ext C2 w2 C5 w5)
    (hk : ∀ t, t ∉ ws → tm5.get t = (eraseT ws tm3).get t) : TR (C2.cut C5) w5 (eraseT ws tm3) ts5 := by
  have hb : ∀ l, C2.born l → C5.born l := fun l hl => (e5.born l hl).1
  intro t y hy
  by_cases ht : t ∈ ws
  · rw [eraseT_get, if_pos ht] at hy
    simp only [Option.some.injEq] at hy
    subst hy
    exact .undef _
  · have h1 := f5 t y ((hk t ht).trans hy)
    have h2 := hf t y hy
    have h3 : VR C2 w2 y (ts.getD t Go.undef) := by
      subst hC2
      exact (h2.exact g).ext (Ext.toExtW ke)
    exact h3.back hb h1

/-- Which keys have been seen. -/
noncomputable def seenKey (ents : Array MapEntry) (seen : Array Nat) (k : Value) : Prop := ∃ e ∈ ents.toList, e.key = k ∧ seen.contains e.born = true
theorem seenKey_push {ents : Array MapEntry} {seen : Array Nat} {e : MapEntry} (he : e ∈ ents.toList) (hb : (ents.toList.map (·.born)).Nodup) (k : Value) : seenKey ents (seen.push e.born) k ↔ seenKey ents seen k ∨ k = e.key := by
  have huniq : ∀ e' ∈ ents.toList, e'.born = e.born → e' = e := by
    have : ∀ (l : List MapEntry), (l.map (·.born)).Nodup → ∀ a ∈ l, ∀ b ∈ l, a.born = b.born → a = b := by
      intro l
      induction l with
      | nil => intro _ a ha; simp at ha
      | cons x l ih =>
        intro hn a ha b hb h
        simp only [List.map_cons, List.nodup_cons] at hn
        rcases List.mem_cons.1 ha with ha' | ha'
        · rcases List.mem_cons.1 hb with hb' | hb'
          · rw [ha', hb']
          · exact absurd (List.mem_map.2 ⟨b, hb', by rw [← h, ha']⟩) hn.1
        · rcases List.mem_cons.1 hb with hb' | hb'
          · exact absurd (List.mem_map.2 ⟨a, ha', by rw [h, hb']⟩) hn.1
          · exact ih hn.2 a ha' b hb' h
    exact fun e' h1 h2 => this _ hb e' h1 e he h2
  constructor
  · rintro ⟨e', h1, h2, h3⟩
    rw [Array.contains_push] at h3
    simp only [Bool.or_eq_true] at h3
    rcases h3 with h3 | h3
    · exact .inl ⟨e', h1, h2, h3⟩
    · have h3' : e'.born = e.born := by simpa using h3
      exact .inr (by rw [← h2, huniq e' h1 h3'])
  · rintro (⟨e', h1, h2, h3⟩ | h)
    · exact ⟨e', h1, h2, by rw [Array.contains_push, h3]; simp⟩
    · exact ⟨e, he, h.symm, by rw [Array.contains_push]; simp⟩

/-- A loop whose rounds write one entry each. -/
theorem copy_loop (ok : E.Ok) (hcall : CallOk E call) (hevo : CallEvo call) (hfrm : CallFrm call) {m : MapLoop} {i1 i2 i3 : Nat} {Qf : Exit → Act → World → Prop} {ops : Array Oper} {o : Oper} {T kt et : TypeId} {d : TypeDesc} {mo ko vo : Operand} {ld : Nat} (hno : nextOp m.nops.toList.head? = some (m.it, m.nd)) (heo : entryOp m.eops.toList.head? = some (m.it, m.ed)) (hws : m.it ∉ m.ws)
    (hbd : m.body = .region i3 ops false) (hops : ops.toList = ops.toList.dropLast ++ [o]) (hop : o.op = .mapUpdate T mo ko vo) (hdst : o.dst = none) (hgd : o.guard = none) (hT : E.und T = some (.map kt et)) (hkt : E.und kt = some d)
    {C0 : Ctx} {w0 : World} {X0 : St} {tm : PM AV} {n l since clock : Nat} {ents : Array MapEntry} {es esd ys : List (Value × AV)} (hit : (eraseT m.ws tm).get m.it = some (.ptr n 0)) (hXn : X0.objs.get n = some .raw) (hXl : X0.objs.get l = some (.mpx es)) (hnl : n ≠ l) (hdn : ld ≠ n) (hdl : ld ≠ l) (hdlt : ld < X0.no)
    (hsk : since ≤ clock) (hold : ∀ x ∈ ents.toList, x.born < since) (hbo : (ents.toList.map (·.born)).Nodup)
    (hy1 : ∀ k x, (k, x) ∈ es → ∃ y tm4 S4, (k, y) ∈ ys ∧ One E call nt m ops mo ko vo d ld (eraseT m.ws tm) (X0.shut ld) (X0.shut ld) k x y tm4 S4) (hy2 : ∀ k y y', (k, y) ∈ ys → (k, y') ∈ ys → y = y')
    (hlast : ∀ C a w acc, FR E C (X0.midst ld acc) nt (eraseT m.ws tm) a w → C.born n → C.born l → C.born ld → C.mx l = .map ents clock → (∀ k, k ≠ n → k ≠ l → C.mx k = C0.mx k) → ExtX C0 w0 C w →
      (∀ k y, (k, y) ∈ acc ↔ ((∃ e ∈ ents.toList, e.key = k) ∧ (k, y) ∈ ys) ∨ ((¬ ∃ e ∈ ents.toList, e.key = k) ∧ (k, y) ∈ esd)) → ∀ Q : Exit → Act → World → Prop, (∀ a' w', Qf (.exit m.b) a' w' → Q (.exit m.b) a' w') →
      wpOps E.P m.nops (Exit.then ((Code.seq (.cond (.tmp m.c) .skip (.exit m.b)) (.block m.b2 (.seq (.region i2 m.eops false) m.body))).wp E.P Q) Q) (List.range' 1 (m.nops.size - 1)) (a.put (some m.nd) (.tuple #[.bool false])) w) :
    ∀ (N : Nat) (C : Ctx) (seen : Array Nat) (c0 : Nat) (acc : List (Value × AV)) (a : Act) (w : World), (leftOf ents seen).size < N → FR E C (X0.midst ld acc) nt (eraseT m.ws tm) a w → C.born n → C.born l → C.born ld → C.mx n = .mapIter (some (C.mu l)) since seen c0 → C.mx l = .map ents clock → since ≤ c0 →
      (∀ k, k ≠ n → k ≠ l → C.mx k = C0.mx k) → ExtX C0 w0 C w → acc.all (fun e => isKey d e.1) = true →
      (∀ k y, (k, y) ∈ acc ↔ (seenKey ents seen k ∧ (k, y) ∈ ys) ∨ (¬ seenKey ents seen k ∧ (k, y) ∈ esd)) →
      LoopW E.P Qf (Code.seq (.region i1 m.nops false) (.seq (.cond (.tmp m.c) .skip (.exit m.b)) (.block m.b2 (.seq (.region i2 m.eops false) m.body)))) a w := by
  intro N
  induction N with
  | zero => intro C seen c0 acc a w h; omega
  | succ N ih =>
    intro C seen c0 acc a w hN hf hn hl hd hmn hml hsc hmx hex hak hacc
    have hgn : (X0.midst ld acc).objs.get n = some .raw := by rw [midst_get, if_neg (fun e => hdn e.symm)]; exact hXn
    have hgl : (X0.midst ld acc).objs.get l = some (.mpx es) := by rw [midst_get, if_neg (fun e => hdl e.symm)]; exact hXl
    have hgd' : (X0.midst ld acc).objs.get ld = some (.mp acc) := by rw [midst_get, if_pos rfl]
    refine loopW_round (round_pre ok hcall hevo hno heo hws hf hit hn hl hgn hgl hnl hmn hml hsc hold (R := fun k x tm4 S4 => ∃ y, (k, y) ∈ ys ∧ One E call nt m ops mo ko vo d ld (eraseT m.ws tm) (X0.shut ld) (X0.midst ld acc) k x y tm4 S4) (fun k x hx => ?_) (fun hs0 => ?_) ?_)
    · obtain ⟨y, tm4, S4, q1, q2⟩ := hy1 k x hx
      obtain ⟨X4, q3⟩ := one_does2 hfrm (midst_frm X0 hdlt acc) q2
      obtain ⟨tm5, S5, p1, _, _, _, p5⟩ := q3.ex
      obtain ⟨hleaf, _⟩ := still_spec p5
      exact ⟨tm4, X4, q3.pre, (seq_evo hevo _ _ _ _ _ p1).leaf (pre_evo hevo q3.pre).no hleaf, y, q1, q3⟩
    · refine hlast C a w acc hf hn hl hd hml hmx hex (fun k y => ?_) _ (fun a' w' h => .inr ⟨by simp, h⟩)
      rw [hacc k y]
      have : seenKey ents seen k ↔ ∃ e ∈ ents.toList, e.key = k := ⟨fun ⟨e, h1, h2, _⟩ => ⟨e, h1, h2⟩, fun ⟨e, h1, h2⟩ => ⟨e, h1, h2, all_seen ents seen hs0 e h1⟩⟩
      rw [this]
    · intro e x tm4 S4 C' a' w2 w' he hx hR ev4 kw ke f4 e4
      obtain ⟨y, hy, hone⟩ := hR
      obtain ⟨tm5, S5, p1, p2, p3, p4, p5⟩ := hone.ex
      obtain ⟨hleaf, hnid⟩ := still_spec p5
      have ev45 := seq_evo hevo _ _ _ _ _ p1
      have ev := ev4.trans ev45
      obtain ⟨heE, _⟩ := mem_left he
      have hsz : ops.size = ops.toList.dropLast.length + 1 := by
        have := congrArg List.length hops
        rw [List.length_append] at this
        simpa using this
      have hgo : ops[ops.toList.dropLast.length]? = some o := by
        rw [← Array.getElem?_toList, hops, List.getElem?_append_right (by rw [← hops]; exact Nat.le_refl _)]
        rw [← hops]; simp
      have hwp : ∀ Q a w, (Code.region i3 ops false).wp E.P Q a w → m.body.wp E.P Q a w := fun Q a w h => by rw [hbd]; exact h
      refine hwp _ _ _ (wp_region ?_)
      rw [List.range_eq_range', hsz, List.range'_append_1.symm]
      refine seq_part (tl := List.range' (0 + ops.toList.dropLast.length) 1) ok hcall ops.toList.dropLast 0 C' tm4 tm5 S4 S5 a' w' (by rw [List.drop_zero]; generalize ops.toList.dropLast = L at hops ⊢; rw [hops, List.take_left]) p1 f4 (fun C5 a5 w5 f5 e5 => ?_)
      rw [Nat.zero_add, List.range'_one, wpOps]
      simp only [hgo]
      rw [if_pos (wanted_rel f5.tr (by simp [wantedA, hgd]))]
      refine .inl ?_
      have hld5 : S5.objs.get ld = some (.mp acc) := by rw [(ev.still rfl hleaf ld (born_lt hf.wr hd)).1, hgd']
      have hmap5 : S5.map ld = some acc := by simp [St.map, hld5]
      have hev : execOp a5.eval o = (do Instr.mapUpdate T (a5.eval mo) (a5.eval ko) (a5.eval vo); pure .skip) := by simp [execOp, hop]
      have hgood := good_mapUpdate (S' := S5.put ld (.mp (setKey d e.key y acc))) (v := passed) (t := T) (m := E.ev tm5 mo) (k := E.ev tm5 ko) (x := E.ev tm5 vo) ok f5.wr (ev_rel f5.wr f5.tr mo) (ev_rel f5.wr f5.tr ko) (ev_rel f5.wr f5.tr vo) (by
        unfold mapUpdateA
        rw [hT, p2, p3, p4]
        simp only [hkt, hmap5, hone.key, hak, Bool.and_self, cond_true])
      rw [← hev] at hgood
      refine hgood.wp (fun u C6 w6 k6 e6 _ => ?_)
      rw [hdst]
      show wpOps E.P ops (Exit.inBlock m.b2 _) [] a5 w6
      show Exit.inBlock m.b2 _ .normal a5 w6
      have e26 := (e4.trans e5).trans e6
      generalize hC2 : (C.exact fun k => if k = n then Obj.mapIter (some (C.mu l)) since (seen.push e.born) clock else C.mx k) = C2 at kw ke e4 e26
      have hd6 := (e26.born ld (by rw [← hC2]; exact hd)).1
      have hb26 : ∀ l, C2.born l → C6.born l := fun l hl => (e26.born l hl).1
      have hborn2 : ∀ k, C2.born k ↔ C.born k := fun k => by rw [← hC2]; rfl
      -- without the map that is written
      have kwA : WR E C2 (X0.shut ld) w2 := by
        refine (kw.as (l := ld) (a := .dead) ((hborn2 ld).2 hd) (kw.apart ((hborn2 ld).2 hd) (by rw [hgd']; rintro (h | h) <;> cases h)) trivial).same (fun k => ?_) rfl rfl rfl rfl rfl
        show (X0.shut ld).objs.get k = ((X0.midst ld acc).objs.set ld .dead).get k
        rw [shut_get, PM.get_set, midst_get]
        by_cases h : k = ld
        · rw [if_pos h, if_pos h]
        · rw [if_neg h, if_neg h, if_neg h]
      have hlive6 : (S5.put ld (.mp (setKey d e.key y acc))).objs.get ld = some (.mp (setKey d e.key y acc)) := by
        show (S5.objs.set ld _).get ld = _
        rw [PM.get_set, if_pos rfl]
      have hap6 := k6.apart hd6 (by rw [hlive6]; rintro (h | h) <;> cases h)
      have k6d := k6.as (l := ld) (a := .dead) hd6 hap6 trivial
      have hobj6 : ∀ k, C2.born k → ({ S5.put ld (.mp (setKey d e.key y acc)) with objs := (S5.put ld (.mp (setKey d e.key y acc))).objs.set ld .dead } : St).objs.get k = (X0.shut ld).objs.get k := fun k hk => by
        show ((S5.objs.set ld _).set ld .dead).get k = _
        rw [PM.get_set, PM.get_set, shut_get]
        by_cases h : k = ld
        · rw [if_pos h, if_pos h]
        · rw [if_neg h, if_neg h, if_neg h, (ev.still rfl hleaf k (born_lt hf.wr ((hborn2 k).1 hk))).1, midst_get, if_neg h]
      have kf := forget kwA k6d e26 hobj6 (fun k hk => (ev.still rfl hleaf k (born_lt hf.wr ((hborn2 k).1 hk))).2) hnid (ev.idl.idk hnid).1 (ev.idl.idk hnid).2
      -- and with it
      have ob6 := k6.objs ld hd6
      rw [hlive6] at ob6
      obtain ⟨ents6, clock6, q1, q2, q3⟩ := ob6
      have ob2 := kw.objs ld ((hborn2 ld).2 hd)
      rw [hgd'] at ob2
      obtain ⟨_, _, _, q5, _⟩ := ob2
      have hak' := setKey_keys (y := y) hone.key hak
      have hmem := setKey_mem (y := y) hone.key hak q5.nd
      have obc : ObjR (C2.cut C6) w6 ld (some (.mp (setKey d e.key y acc))) (w6.heap[(C2.cut C6).mu ld]?) := by
        refine ⟨ents6, clock6, q1, q2.imp (fun k' x' v hm hv => ?_), q3⟩
        rcases (hmem k' x').1 hm with ⟨_, rfl⟩ | ⟨_, hm'⟩
        · exact hv.old kwA hb26 hone.old
        · obtain ⟨e', _, _, hv'⟩ := q5.val k' x' hm'
          exact hv'.back hb26 hv
      have kg := (kf.as (l := ld) (a := .mp (setKey d e.key y acc)) ((hborn2 ld).2 hd) (fun k hk hne ha => by
        refine hap6 k (hb26 k hk) hne (fun hc => ha ?_)
        rw [shut_get, if_neg hne]
        have : (S5.put ld (.mp (setKey d e.key y acc))).objs.get k = X0.objs.get k := by
          show (S5.objs.set ld _).get k = _
          rw [PM.get_set, if_neg hne, (ev.still rfl hleaf k (born_lt hf.wr ((hborn2 k).1 hk))).1, midst_get, if_neg hne]
        rw [← this]; exact hc) obc).same (S' := X0.midst ld (setKey d e.key y acc)) (fun k => by
          show _ = ((X0.shut ld).objs.set ld _).get k
          rw [midst_get, PM.get_set, shut_get]
          by_cases h : k = ld
          · rw [if_pos h, if_pos h]
          · rw [if_neg h, if_neg h, if_neg h]) rfl rfl rfl rfl rfl
      have hkeep : ∀ t, t ∉ m.ws → tm5.get t = (eraseT m.ws tm).get t := fun t ht => by
        have h1 : t ∉ dsts ops.toList := by
          simp only [MapLoop.ws, List.mem_cons, List.mem_append, not_or, hbd, wrs] at ht
          exact ht.2.2.2.2
        have h2 : t ∉ dsts ops.toList.dropLast := fun hm => h1 (by
          simp only [dsts, List.mem_filterMap] at hm ⊢
          obtain ⟨o', h3, h4⟩ := hm
          exact ⟨o', List.dropLast_subset _ h3, h4⟩)
        rw [seq_keeps _ _ _ _ _ p1 h2, pre_keeps hone.pre ht]
      have htr : TR (C2.cut C6) w6 (eraseT m.ws tm) a5.tmps := tr_back hf.tr hC2.symm ke (f5.tr.ext e6) e26 hkeep
      refine .inl ⟨rfl, ih (C2.cut C6) (seen.push e.born) clock _ a5 w6 (by have := left_shrinks ents seen e he; omega) ⟨kg, htr, f5.size, f5.defers⟩ ((hborn2 n).2 hn) ((hborn2 l).2 hl) ((hborn2 ld).2 hd) ?_ ?_ hsk (fun k h1 h2 => ?_) (hex.trans (ke.trans e26.cut.x)) hak' (fun k' y' => ?_)⟩
      · show C6.mx n = .mapIter (some (C6.mu l)) since (seen.push e.born) clock
        rw [e26.mx, (e26.born l ((hborn2 l).2 hl)).2.1, ← hC2]
        show (if n = n then _ else _) = _
        rw [if_pos rfl]
        rfl
      · show C6.mx l = _
        rw [e26.mx, ← hC2]
        show (if l = n then _ else _) = _
        rw [if_neg (fun e => hnl e.symm), hml]
      · show C6.mx k = _
        rw [e26.mx, ← hC2]
        show (if k = n then _ else _) = _
        rw [if_neg h1, hmx k h1 h2]
      · rw [hmem k' y', seenKey_push heE hbo]
        by_cases hk : k' = e.key
        · subst hk
          constructor
          · rintro (⟨_, rfl⟩ | ⟨h1, _⟩)
            · exact .inl ⟨.inr rfl, hy⟩
            · exact absurd rfl h1
          · rintro (⟨_, h1⟩ | ⟨h1, _⟩)
            · exact .inl ⟨rfl, hy2 _ _ _ h1 hy⟩
            · exact absurd (.inr rfl) h1
        · constructor
          · rintro (⟨h1, _⟩ | ⟨_, h1⟩)
            · exact absurd h1 hk
            · rcases (hacc k' y').1 h1 with ⟨h2, h3⟩ | ⟨h2, h3⟩
              · exact .inl ⟨.inl h2, h3⟩
              · exact .inr ⟨by rintro (h | h); exact h2 h; exact hk h, h3⟩
          · rintro (⟨h1, h2⟩ | ⟨h1, h2⟩)
            · exact .inr ⟨hk, (hacc k' y').2 (.inl ⟨h1.resolve_right hk, h2⟩)⟩
            · exact .inr ⟨hk, (hacc k' y').2 (.inr ⟨fun h => h1 (.inl h), h2⟩)⟩

theorem mapStmt_spec {s : Code} {m : MapLoop} (h : mapStmt s = some m) : ∃ i0 i1 i2, s = .seq (.region i0 m.ops false) (.block m.b (.loop (.seq (.region i1 m.nops false) (.seq (.cond (.tmp m.c) .skip (.exit m.b)) (.block m.b2 (.seq (.region i2 m.eops false) m.body)))))) ∧
    rangeOp m.ops.toList.getLast? = some (m.T, m.x, m.it) ∧ nextOp m.nops.toList.head? = some (m.it, m.nd) ∧ entryOp m.eops.toList.head? = some (m.it, m.ed) ∧ m.b ≠ m.b2 := by
  unfold mapStmt at h
  split at h
  · rename_i i0 ops b i1 nops c b' b2 i2 eops body
    split at h
    · rename_i T x it it' nd it'' ed h1 h2 h3
      simp only [cond_eq_ite] at h
      split at h
      · rename_i hb
        simp only [Bool.and_eq_true, Bool.not_eq_true'] at hb
        obtain ⟨⟨⟨b1, b2'⟩, b3⟩, b4⟩ := hb
        simp only [Option.some.injEq] at h
        subst h
        have e1 := Nat.eq_of_beq_eq_true b1
        have e3 := Nat.eq_of_beq_eq_true b3
        have e4 := Nat.eq_of_beq_eq_true b4
        subst e1; subst e3; subst e4
        exact ⟨i0, i1, i2, rfl, h1, h2, h3, fun e => by
          have e : b = b2 := e
          rw [e, Nat.beq_refl] at b2'
          cases b2'⟩
      · cases h
    · cases h
  · cases h

theorem TR.erase {C : Ctx} {w : World} {tm : PM AV} {ts : Array Value} (h : TR C w tm ts) (ws : List Tmp) : TR C w (eraseT ws tm) ts := by
  intro t y hy
  rw [eraseT_get] at hy
  split at hy
  · simp only [Option.some.injEq] at hy; subst hy; exact .undef _
  · exact h t y hy

/-- The map is an object like any other again, the iterator is forgotten. -/
theorem unfix {C : Ctx} {X : St} {w : World} {n l : Nat} {es : List (Value × AV)} {g : Nat → Obj} (hw : WR E C X w) (hn : C.born n) (hl : C.born l) (hXn : X.objs.get n = some .raw) (hXl : X.objs.get l = some (.mpx es)) (hnl : n ≠ l) (hmx : ∀ k, k ≠ n → k ≠ l → C.mx k = g k) :
    WR E (C.exact g) { X with objs := (X.objs.set n .dead).set l (.mp es) } w := by
  have h1 := hw.as (l := n) (a := .dead) hn (hw.apart hn (by rw [hXn]; rintro (h | h) <;> cases h)) trivial
  have hob := hw.objs l hl
  rw [hXl] at hob
  obtain ⟨k0, ents, clock, k1, k2, k3⟩ := hob
  have h2 := h1.as (l := l) (a := .mp es) hl (fun k hk hne ha => by
    have ha : ¬ inacc ((X.objs.set n .dead).get k) := ha
    rw [PM.get_set] at ha
    by_cases e : k = n
    · rw [if_pos e] at ha; exact absurd (.inr rfl) ha
    · rw [if_neg e] at ha
      exact hw.apart hl (by rw [hXl]; rintro (h | h) <;> cases h) k hk hne ha) ⟨ents, clock, k0.trans (by rw [k1]), k2, k3⟩
  refine h2.exact g (fun k hk hh => ?_)
  have hh : held (((X.objs.set n .dead).set l (.mp es)).get k) = true := hh
  rw [PM.get_set, PM.get_set] at hh
  by_cases e : k = l
  · rw [if_pos e] at hh; cases hh
  · rw [if_neg e] at hh
    by_cases e' : k = n
    · rw [if_pos e'] at hh; cases hh
    · exact (hmx k e' e).symm

theorem fixed_get (S : St) (l : Nat) (es : List (Value × AV)) (k : Nat) : (S.fixed l es).objs.get k = if k = l then some (.mpx es) else if k = S.no then some .raw else S.objs.get k := by
  show ((S.objs.set S.no .raw).set l (.mpx es)).get k = _
  rw [PM.get_set, PM.get_set]

set_option maxHeartbeats 4000000 in
/-- A loop over a map. -/
theorem mac_ok (ok : E.Ok) (hcall : CallOk E call) (hevo : CallEvo call) (hfrm : CallFrm call) {s : Code} {m : MapLoop} {run : Run} (hm : mapStmt s = some m)
    (hrun : StmtOk E nt m.body run) (hrevo : ∀ tm tm' S S' o, run tm S = some (o, tm', S') → Evo S S') (hrk : ∀ tm tm' S S' o t, run tm S = some (o, tm', S') → t ∉ wrs m.body → tm'.get t = tm.get t) : StmtOk E nt s (macA E call nt m run) := by
  intro tm tm' S S' o C a w Q h hf hq
  obtain ⟨i0, i1, i2, rfl, hro, hno, heo, hbb⟩ := mapStmt_spec hm
  obtain ⟨ro, hops, hop, hdst, hgd⟩ := rangeOp_spec hro
  unfold macA at h
  split at h
  · cases h
  · rename_i tm1 S1 p1
    split at h
    · rename_i kt et l hT hx
      split at h
      · rename_i es tm2 hes p2
        simp only [cond_eq_ite] at h
        split at h
        · cases h
        · rename_i hws0
          have hws : m.it ∉ m.ws := by simpa using hws0
          have hSl := mpOf_eq hes
          have hsz : m.ops.size = m.ops.toList.dropLast.length + 1 := by
            have := congrArg List.length hops
            rw [List.length_append] at this
            simpa using this
          have hgo : m.ops[m.ops.toList.dropLast.length]? = some ro := by
            rw [← Array.getElem?_toList, hops, List.getElem?_append_right (by rw [← hops]; exact Nat.le_refl _)]
            rw [← hops]; simp
          refine wp_seq (wp_region ?_)
          rw [List.range_eq_range', hsz, List.range'_append_1.symm]
          refine seq_part (tl := List.range' (0 + m.ops.toList.dropLast.length) 1) ok hcall m.ops.toList.dropLast 0 C tm tm1 S S1 a w (by rw [List.drop_zero]; generalize m.ops.toList.dropLast = L at hops ⊢; rw [hops, List.take_left]) p1 hf (fun C1 a1 w1 f1 e1 => ?_)
          rw [Nat.zero_add, List.range'_one, wpOps]
          simp only [hgo]
          rw [if_pos (wanted_rel f1.tr (by simp [wantedA, hgd]))]
          refine .inl ?_
          have hvx := ev_rel f1.wr f1.tr m.x
          rw [hx] at hvx
          generalize hV : a1.eval m.x = V at hvx
          cases hvx with
          | mp _ hl =>
          have hob := f1.wr.objs l hl
          rw [hSl] at hob
          obtain ⟨ents, clock, k1, k2, k3⟩ := hob
          have hev : execOp a1.eval ro = (do pure (.value (← Instr.range m.T (a1.eval m.x)))) := by simp [execOp, hop]
          unfold Oper.wp
          rw [hev, hV, run_v (run_range_map (P := E.P) w1 m.T kt et (C1.mu l) ents clock (ok.und _ _ hT) k1)]
          rw [Oper.upon_value, hdst]
          show (Code.block m.b (.loop (.seq (.region i1 m.nops false) (.seq (.cond (.tmp m.c) .skip (.exit m.b)) (.block m.b2 (.seq (.region i2 m.eops false) m.body)))))).wp E.P Q (a1.put (some m.it) (.pointer (some ⟨w1.heap.size, 0, none⟩))) (w1.alloc (.mapIter (some (C1.mu l)) clock #[] clock))
          -- the iterator is born, the map is held exactly
          generalize hiter : Obj.mapIter (some (C1.mu l)) clock #[] clock = iter
          have hn : ¬ C1.born S1.no := f1.wr.unb _ (Nat.le_refl _)
          have hln : S1.no ≠ l := fun e => hn (e ▸ hl)
          generalize hg : (fun k => if k = S1.no then iter else if k = l then Obj.map ents clock else C1.mx k) = g
          have gn : g S1.no = iter := by rw [← hg]; exact if_pos rfl
          have gl : g l = .map ents clock := by rw [← hg]; show (if l = S1.no then _ else if l = l then _ else _) = _; rw [if_neg (fun e => hln e.symm), if_pos rfl]
          have gk : ∀ k, k ≠ S1.no → k ≠ l → g k = C1.mx k := fun k h1 h2 => by rw [← hg]; show (if k = S1.no then _ else if k = l then _ else _) = _; rw [if_neg h1, if_neg h2]
          have kw1 := f1.wr.exact g (fun k hk hh => by
            by_cases e : k = l
            · rw [e, hSl] at hh; cases hh
            · exact gk k (fun e' => hn (e' ▸ hk)) e)
          have hn' : ¬ (C1.exact g).born S1.no := hn
          have kw2 := kw1.bear (no' := S1.no + 1) hn' (Nat.le_succ _) (Nat.lt_succ_self _) ⟨.raw, none, fun n => .ptr n 0⟩ (ob := iter) (len := 0) (lim := 0) ⟨congrArg some gn.symm, Ctx.bear_at.2.1⟩ (fun x hx => by cases hx)
          have ew : ExtW (C1.exact g) w1 ((C1.exact g).bear S1.no w1.heap.size 0 0 0 (S1.no + 1)) (w1.alloc iter) := ExtW.bear kw1 hn' iter 0 0 (S1.no + 1)
          have ex : Ext (C1.exact g) w1 ((C1.exact g).bear S1.no w1.heap.size 0 0 0 (S1.no + 1)) (w1.alloc iter) := ⟨ew, by show C1.no ≤ S1.no + 1; rw [f1.wr.no]; exact Nat.le_succ _, fun k h1 h2 => by
            have : k = S1.no := h2.resolve_left h1
            show C1.no ≤ k
            rw [this, f1.wr.no]; exact Nat.le_refl _⟩
          have hbl : ((C1.exact g).bear S1.no w1.heap.size 0 0 0 (S1.no + 1)).born l := .inl hl
          have hml : ((C1.exact g).bear S1.no w1.heap.size 0 0 0 (S1.no + 1)).mu l = C1.mu l := (Ctx.bear_ne (fun e => hln e.symm)).1
          have hmn : ((C1.exact g).bear S1.no w1.heap.size 0 0 0 (S1.no + 1)).mu S1.no = w1.heap.size := Ctx.bear_at.1
          have hbn : ((C1.exact g).bear S1.no w1.heap.size 0 0 0 (S1.no + 1)).bs S1.no = 0 := Ctx.bear_at.2.1
          have hmx2 : ((C1.exact g).bear S1.no w1.heap.size 0 0 0 (S1.no + 1)).mx = g := rfl
          have hborn2 : ((C1.exact g).bear S1.no w1.heap.size 0 0 0 (S1.no + 1)).born S1.no := .inr rfl
          generalize hC2 : (C1.exact g).bear S1.no w1.heap.size 0 0 0 (S1.no + 1) = C2 at kw2 ew ex hbl hml hmn hbn hmx2 hborn2
          have kl2 : (w1.alloc iter).heap[C2.mu l]? = some (.map ents clock) := by rw [hml, heap_alloc_lt _ _ (f1.wr.mub l hl).2]; exact k1
          have hlive : ¬ inacc (({ S1.bear S1.no ⟨.raw, none, fun n => .ptr n 0⟩ with no := S1.no + 1 } : St).objs.get l) := by
            show ¬ inacc ((S1.objs.set S1.no .raw).get l)
            rw [PM.get_set, if_neg (fun e => hln e.symm), hSl]
            rintro (h | h) <;> cases h
          have kw3 : WR E C2 (S1.fixed l es) (w1.alloc iter) := (kw2.as (l := l) (a := .mpx es) hbl (kw2.apart hbl hlive) ⟨by rw [kl2, hmx2, gl], ents, clock, by rw [hmx2, gl], (k2.exact g).ext ew, k3⟩).same (fun _ => rfl) rfl rfl rfl rfl rfl
          have hvp : VR C2 (w1.alloc iter) (.ptr S1.no 0) (.pointer (some ⟨w1.heap.size, 0, none⟩)) := by
            have := VR.ptr (C := C2) (w := w1.alloc iter) S1.no 0 hborn2
            rwa [hmn, hbn] at this
          obtain ⟨t1, t2⟩ := ((f1.tr.exact g).ext ex).put f1.size hvp p2
          have hit : (eraseT m.ws tm2).get m.it = some (.ptr S1.no 0) := by rw [eraseT_get, if_neg hws]; exact (putA_get p2).1
          have hfr : FR E C2 (S1.fixed l es) nt (eraseT m.ws tm2) (a1.put (some m.it) (.pointer (some ⟨w1.heap.size, 0, none⟩))) (w1.alloc iter) := ⟨kw3, t1.erase _, t2, by rw [Act.put_defers']; exact f1.defers⟩
          have hx0 : ExtX C1 w1 C2 (w1.alloc iter) := by unfold ExtX; rw [hmx2]; exact ex
          have hXn : (S1.fixed l es).objs.get S1.no = some .raw := by rw [fixed_get, if_neg hln, if_pos rfl]
          have hXl : (S1.fixed l es).objs.get l = some (.mpx es) := by rw [fixed_get, if_pos rfl]
          have hfin : ∀ (C : Ctx) (a' : Act) (w' : World) {C' : Ctx} {a2 : Act} {w2 : World}, ExtX C1 w1 C w' → o = .nrm → FR E C' S' nt tm' a2 w2 → Ext (C.exact C1.mx) w' C' w2 → Exit.inBlock m.b Q (.exit m.b) a2 w2 := fun C a' w' C' a2 w2 hex ho f2 e2 => by
            show (if m.b = m.b then _ else _)
            rw [if_pos rfl]
            have := hq C' a2 w2 f2 ((e1.trans hex.back).trans e2)
            rw [ho] at this
            exact this
          refine wp_block (loopW_wp ?_)
          split at h
          · split at h
            · rename_i hscan
              refine scan_loop (since := clock) (clock := clock) (ents := ents) (es := es) (n := S1.no) (l := l) (X := S1.fixed l es) (C0 := C1) (w0 := w1) ok hcall hevo hno heo hws hrun hrevo hrk hit rfl hXn hXl hln (Nat.le_refl _) k3.1 hscan (fun C a' w' f' b1 b2 hmx hex Q' hQ => ?_) _ C2 #[] clock _ _ (Nat.lt_succ_self _) hfr hborn2 hbl (by rw [hmx2, gn, ← hiter, hml]) (by rw [hmx2, gl]) (Nat.le_refl _) (fun k h1 h2 => by rw [hmx2]; exact gk k h1 h2) hx0
              have fd : FR E (C.exact C1.mx) (S1.newRaw .dead) nt (eraseT m.ws tm2) a' w' := ⟨(unfix f'.wr b1 b2 hXn hXl hln hmx).same (fun k => by
                show (S1.objs.set S1.no .dead).get k = (((S1.fixed l es).objs.set S1.no .dead).set l (.mp es)).get k
                rw [PM.get_set, PM.get_set, PM.get_set, fixed_get]
                by_cases q1 : k = l
                · rw [if_pos q1, q1, if_neg (fun e => hln e.symm), hSl]
                · rw [if_neg q1]
                  by_cases q2 : k = S1.no
                  · rw [if_pos q2, if_pos q2]
                  · rw [if_neg q2, if_neg q2, if_neg q1, if_neg q2]) rfl rfl rfl rfl rfl, f'.tr.exact _, f'.size, f'.defers⟩
              exact last_ok ok hcall hno h fd (fun ho C' a2 w2 f2 e2 => hQ _ _ (hfin C a' w' hex ho f2 e2))
            · cases h
          · rename_i cops T' mo ko vo hcb
            obtain ⟨i3, co, hbd, hcops, hcop, hcdst, hcgd⟩ := copyBody_spec hcb
            split at h
            · -- nothing is ranged over
              have hents : ents.toList = [] := List.eq_nil_of_length_eq_zero k2.len.symm
              refine scan_loop (run := fun _ _ => none) (since := clock) (clock := clock) (ents := ents) (es := []) (n := S1.no) (l := l) (X := S1.fixed l []) (C0 := C1) (w0 := w1) ok hcall hevo hno heo hws (fun _ _ _ _ _ _ _ _ _ h => by cases h) (fun _ _ _ _ _ h => by cases h) (fun _ _ _ _ _ _ h => by cases h) hit rfl hXn hXl hln (Nat.le_refl _) k3.1 rfl (fun C a' w' f' b1 b2 hmx hex Q' hQ => ?_) _ C2 #[] clock _ _ (Nat.lt_succ_self _) hfr hborn2 hbl (by rw [hmx2, gn, ← hiter, hml]) (by rw [hmx2, gl]) (Nat.le_refl _) (fun k h1 h2 => by rw [hmx2]; exact gk k h1 h2) hx0
              have fd : FR E (C.exact C1.mx) (S1.newRaw .dead) nt (eraseT m.ws tm2) a' w' := ⟨(unfix f'.wr b1 b2 hXn hXl hln hmx).same (fun k => by
                show (S1.objs.set S1.no .dead).get k = (((S1.fixed l []).objs.set S1.no .dead).set l (.mp [])).get k
                rw [PM.get_set, PM.get_set, PM.get_set, fixed_get]
                by_cases q1 : k = l
                · rw [if_pos q1, q1, if_neg (fun e => hln e.symm), hSl]
                · rw [if_neg q1]
                  by_cases q2 : k = S1.no
                  · rw [if_pos q2, if_pos q2]
                  · rw [if_neg q2, if_neg q2, if_neg q1, if_neg q2]) rfl rfl rfl rfl rfl, f'.tr.exact _, f'.size, f'.defers⟩
              exact last_ok ok hcall hno h fd (fun ho C' a2 w2 f2 e2 => hQ _ _ (hfin C a' w' hex ho f2 e2))
            · rename_i e0 es0
              split at h
              · rename_i ld _ _ _ hone
                split at h
                · rename_i kt' et' esd hT' hesd
                  split at h
                  · rename_i d' hd'
                    split at h
                    · cases h
                    · rename_i hgs
                      simp only [Bool.or_eq_true, not_or, Bool.not_eq_true', Bool.not_eq_false] at hgs
                      obtain ⟨⟨g1, g2⟩, g3⟩ := hgs
                      have hdl : ld ≠ l := fun e => by rw [e, Nat.beq_refl] at g1; simp at g1
                      split at h
                      · rename_i es' hall
                        have hSd := mpOf_eq hesd
                        have hdb : C1.born ld := Classical.byContradiction fun hc => by
                          rcases f1.wr.unob ld hc with h | h <;> rw [hSd] at h <;> cases h
                        have hdn : ld ≠ S1.no := fun e => hn (e ▸ hdb)
                        have hob2 := f1.wr.objs ld hdb
                        rw [hSd] at hob2
                        obtain ⟨ents2, clock2, q1, q2, q3⟩ := hob2
                        have hkeys : (∀ k, (∃ e ∈ ents.toList, e.key = k) ↔ ∃ x, (k, x) ∈ e0 :: es0) := fun k => ⟨fun ⟨e, h1, h2⟩ => by
                          obtain ⟨x, hx⟩ := k2.key e h1
                          exact ⟨x, by rw [← h2]; exact hx⟩, fun ⟨x, hx⟩ => by
                          obtain ⟨e, h1, h2, _⟩ := k2.val k x hx
                          exact ⟨e, h1, h2⟩⟩
                        obtain ⟨ys, y1, y2, y3, y4, y5⟩ := copyAll_spec _ _ hall g3 k2.nd g2 q2.nd
                        have hget : (S1.fixed l (e0 :: es0)).objs.get ld = some (.mp esd) := by rw [fixed_get, if_neg hdl, if_neg hdn, hSd]
                        have hmid : FR E C2 ((S1.fixed l (e0 :: es0)).midst ld esd) nt (eraseT m.ws tm2) (a1.put (some m.it) (.pointer (some ⟨w1.heap.size, 0, none⟩))) (w1.alloc iter) := ⟨hfr.wr.same (fun k => by
                          rw [midst_get]
                          by_cases q : k = ld
                          · rw [if_pos q, q, hget]
                          · rw [if_neg q]) rfl rfl rfl rfl rfl, hfr.tr, hfr.size, hfr.defers⟩
                        have hd2 : C2.born ld := (ex.born ld hdb).1
                        refine copy_loop (since := clock) (clock := clock) (ents := ents) (es := e0 :: es0) (esd := esd) (ys := ys) (n := S1.no) (l := l) (ld := ld) (X0 := S1.fixed l (e0 :: es0)) (C0 := C1) (w0 := w1) (T := T') (kt := kt') (et := et') (d := d') (mo := mo) (ko := ko) (vo := vo) (ops := cops) (o := co) (i3 := i3) ok hcall hevo hfrm hno heo hws hbd hcops hcop hcdst hcgd hT' hd' hit hXn hXl hln hdn hdl (by have := born_lt f1.wr hdb; show ld < S1.no + 1; omega) (Nat.le_refl _) k3.1 k3.2 y1 y2 (fun C a' w' acc f' b1 b2 b3 hml' hmx hex hacc Q' hQ => ?_) _ C2 #[] clock esd _ _ (Nat.lt_succ_self _) hmid hborn2 hbl hd2 (by rw [hmx2, gn, ← hiter, hml]) (by rw [hmx2, gl]) (Nat.le_refl _) (fun k h1 h2 => by rw [hmx2]; exact gk k h1 h2) hx0 g2 (fun k y => ?_)
                        · have hgn : ((S1.fixed l (e0 :: es0)).midst ld acc).objs.get S1.no = some .raw := by rw [midst_get, if_neg (fun e => hdn e.symm)]; exact hXn
                          have hgl : ((S1.fixed l (e0 :: es0)).midst ld acc).objs.get l = some (.mpx (e0 :: es0)) := by rw [midst_get, if_neg (fun e => hdl e.symm)]; exact hXl
                          have hu := unfix f'.wr b1 b2 hgn hgl hln hmx
                          have hlv : (({ (S1.fixed l (e0 :: es0)).midst ld acc with objs := (((S1.fixed l (e0 :: es0)).midst ld acc).objs.set S1.no .dead).set l (.mp (e0 :: es0)) } : St).objs.get ld) = some (.mp acc) := by
                            show ((((S1.fixed l (e0 :: es0)).midst ld acc).objs.set S1.no .dead).set l (.mp (e0 :: es0))).get ld = _
                            rw [PM.get_set, if_neg hdl, PM.get_set, if_neg hdn, midst_get, if_pos rfl]
                          have hob3 := hu.objs ld b3
                          rw [hlv] at hob3
                          obtain ⟨ents3, clock3, r1, r2, r3⟩ := hob3
                          have hmm : ∀ k y, (k, y) ∈ es' ↔ (k, y) ∈ acc := fun k y => by rw [y5, hacc, hkeys]
                          have fd : FR E (C.exact C1.mx) ((S1.newRaw .dead).put ld (.mp es')) nt (eraseT m.ws tm2) a' w' := ⟨(hu.as (l := ld) (a := .mp es') b3 (hu.apart b3 (by rw [hlv]; rintro (h | h) <;> cases h)) ⟨ents3, clock3, r1, r2.congr y4 hmm, r3⟩).same (fun k => by
                            show ((S1.objs.set S1.no .dead).set ld (.mp es')).get k = (((((S1.fixed l (e0 :: es0)).midst ld acc).objs.set S1.no .dead).set l (.mp (e0 :: es0))).set ld (.mp es')).get k
                            rw [PM.get_set, PM.get_set, PM.get_set, PM.get_set, PM.get_set, midst_get, fixed_get]
                            by_cases q0 : k = ld
                            · rw [if_pos q0, if_pos q0]
                            · rw [if_neg q0, if_neg q0]
                              by_cases q1 : k = l
                              · rw [if_pos q1, q1, if_neg (fun e => hln e.symm), hSl]
                              · rw [if_neg q1]
                                by_cases q2 : k = S1.no
                                · rw [if_pos q2, if_pos q2]
                                · rw [if_neg q2, if_neg q2, if_neg q0, if_neg q1, if_neg q2]) rfl rfl rfl rfl rfl, f'.tr.exact _, f'.size, f'.defers⟩
                          exact last_ok ok hcall hno h fd (fun ho C' a2 w2 f2 e2 => hQ _ _ (hfin C a' w' hex ho f2 e2))
                        · have : ¬ seenKey ents #[] k := by rintro ⟨e, _, _, h⟩; simp at h
                          constructor
                          · exact fun h => .inr ⟨this, h⟩
                          · rintro (⟨h, _⟩ | ⟨_, h⟩)
                            · exact absurd h this
                            · exact h
                      · cases h
                  · cases h
                · cases h
              · cases h
      · cases h
    · cases h

theorem mac0_ok : MOk E nt mac0 := fun c r h => by simp [mac0] at h
theorem mac1_ok (ok : E.Ok) (hcall : CallOk E call) (hevo : CallEvo call) (hfrm : CallFrm call) (hd : DrawOk E call) (lf : Nat) : MOk E nt (mac1 E call lf nt) := by
  intro c r h
  unfold mac1 at h
  split at h
  · rename_i m hm
    simp only [Option.some.injEq] at h
    subst h
    exact mac_ok ok hcall hevo hfrm hm (fun tm tm' S S' o C a w Q h hf hq => code_ok ok hd hcall lf mac0_ok m.body tm tm' S S' o C a w Q h hf hq) (fun tm tm' S S' o h => code_evo hevo mac0_evo _ _ _ _ _ _ h) (fun tm tm' S S' o t h ht => code_keeps _ _ _ _ _ _ h ht)
  · cases h
end
end Go.Abs
end

section
set_option linter.unusedSimpArgs false
set_option linter.unusedVariables false
namespace Go.Abs
open Go.RowKit

theorem draw_all {E : Env} (ok : E.Ok) (he : EvoX E) (hf : FrmX E) (lf n : Nat) (hc : CallOk E (evF E lf n)) : DrawOk E (evF E lf n) :=
  fun nt id ops Q tm tm' S S' C a w h hfr hq => draw_ok ok hc (evF_evo he.evo lf n) (evF_does hf lf n) nt id ops Q tm tm' S S' C a w h hfr hq
theorem sound {E : Env} (ok : E.Ok) (hx : XOk E) (he : EvoX E) (hf : FrmX E) (lf n : Nat) : CallOk E (evF E lf n) :=
  evF_ok ok hx lf (fun n hc => draw_all ok he hf lf n hc) (fun n nt hc => mac1_ok ok hc (evF_evo he.evo lf n) (evF_does hf lf n) (draw_all ok he hf lf n hc) lf) n

noncomputable def S0 : St := { objs := .leaf, no := 0, nid := 3, spent := .leaf, wr := .leaf, shp := .leaf, ity := .leaf }

/-- Nothing is the evaluator's own yet. -/
noncomputable def C0 (w : World) : Ctx := { no := 0, born := fun _ => False, nid := 3, mu := fun _ => 0, bs := fun _ => 0, ol := fun _ => 0, lim := fun _ => 0, io := fun _ => ⟨0, 0, 0, 0, 0⟩, top := fun b => match w.heap[b]? with | some (.cells c _ _) => c.size | _ => 0, base := w.heap.size, mx := fun _ => .map #[] 0 }

theorem C0.free (w : World) (b : Nat) : (C0 w).free b := fun l hl => hl.elim

theorem wr0 {E : Env} (w : World) (hg : ∀ g cs, E.G g = some cs → GlobR (C0 w) w g cs) : WR E (C0 w) S0 w where
  no := rfl
  unb := fun _ _ h => h
  nid := rfl
  nid1 := by decide
  bs := Nat.le_refl _
  inj := fun l l' hl => hl.elim
  mub := fun l hl => hl.elim
  objs := fun l hl => hl.elim
  unob := fun l _ => .inl (PM.get_leaf l)
  ids := fun i h0 hi => by simp [C0] at hi; omega
  idi := fun i j h0 hi => by simp [C0] at hi; omega
  glob := hg
  fresh := fun i _ => ⟨by show (PM.get PM.leaf i).isSome = false; rw [PM.get_leaf]; rfl, PM.get_leaf i⟩
  shp := fun l x hl => hl.elim
  shu := fun l _ => PM.get_leaf l
  ity := fun i T h0 hi => by simp [C0] at hi; omega

/-- A call of plain values: what the evaluator says, the call answers; nothing that was there has turned. -/
theorem run_law {E : Env} (ok : E.Ok) (hx : XOk E) (he : EvoX E) (hf : FrmX E) {lf n : Nat} {f : FuncId} {args : List AV} {vs : Array Value} {w : World} {u : Value} {S' : St}
    (hg : ∀ g cs, E.G g = some cs → GlobR (C0 w) w g cs) (hl : LR (C0 w) w args vs.toList)
    (h : evF E lf n f args S0 = some (.sc u, S')) : Calls E.P f vs w fun e w' => e = .returned u ∧ Below w.heap.size w w' :=
  ((sound ok hx he hf lf n f args S0 (.sc u) S' h).2 (C0 w) w vs (wr0 w hg) hl).mono fun e w' ⟨u', C', h1, _, h3, h4⟩ => ⟨by rw [h1, h4.sc_inv], h3.toExtW.below.b⟩

/-- The same, and no draw has been taken back. -/
theorem run_law2 {E : Env} (ok : E.Ok) (hx : XOk E) (he : EvoX E) (hf : FrmX E) {lf n : Nat} {f : FuncId} {args : List AV} {vs : Array Value} {w : World} {u : Value} {S' : St}
    (hg : ∀ g cs, E.G g = some cs → GlobR (C0 w) w g cs) (hl : LR (C0 w) w args vs.toList)
    (h : evF E lf n f args S0 = some (.sc u, S')) : Calls E.P f vs w fun e w' => e = .returned u ∧ Bel w.heap.size w w' :=
  ((sound ok hx he hf lf n f args S0 (.sc u) S' h).2 (C0 w) w vs (wr0 w hg) hl).mono fun e w' ⟨u', C', h1, _, h3, h4⟩ => ⟨by rw [h1, h4.sc_inv], h3.toExtW.below⟩

/-- Whether the evaluator answers true. -/
noncomputable def saysTrue (x : Option (AV × St)) : Bool :=
  match x with
  | some (.sc (.bool true), _) => true
  | _ => false
theorem saysTrue_eq {x : Option (AV × St)} (h : saysTrue x = true) : ∃ S', x = some (.sc (.bool true), S') := by
  unfold saysTrue at h
  split at h
  · exact ⟨_, rfl⟩
  · simp at h

/-- Two strings held against each other, as the library's entry does it. -/
noncomputable def extCmp : List AV → Option AV
  | [.sc (.string a), .sc (.string b)] => some (.sc (.int .i64 (Extern.BytealgCompare.cmp a b)))
  | _ => none
noncomputable def extSame : List AV → Option AV
  | [x] => some x
  | _ => none

/-- What is asked of the entries that stand for a list of functions: their runs. -/
structure ExtOk (P : Program) (ext : FuncId → Option (List AV → Option AV)) : Prop where
  ok : ∀ g h args r, ext g = some h → h args = some r → ∀ C w (vs : Array Value), LR C w args vs.toList → ∃ u, (callFunc g vs).run P w = .ok (.value u) w ∧ VR C w r u

theorem extCmp_ok {P : Program} {g : FuncId} (h : ∀ (a b : ByteArray) (w : World), (callFunc g #[.string a, .string b]).run P w = .ok (.value (.int .i64 (Extern.BytealgCompare.cmp a b))) w) {args : List AV} {r : AV} (hr : extCmp args = some r)
    {C : Ctx} {w : World} {vs : Array Value} (hl : LR C w args vs.toList) : ∃ u, (callFunc g vs).run P w = .ok (.value u) w ∧ VR C w r u := by
  unfold extCmp at hr
  split at hr
  · rename_i a b
    obtain ⟨u1, u2, rfl, h1, h2⟩ := lr2 hl
    have := h1.sc_inv; subst this
    have := h2.sc_inv; subst this
    simp only [Option.some.injEq] at hr
    subst hr
    exact ⟨_, h a b w, .sc _⟩
  · simp at hr
theorem extSame_ok {P : Program} {g : FuncId} (h : ∀ (x : Value) (w : World), (callFunc g #[x]).run P w = .ok (.value x) w) {args : List AV} {r : AV} (hr : extSame args = some r)
    {C : Ctx} {w : World} {vs : Array Value} (hl : LR C w args vs.toList) : ∃ u, (callFunc g vs).run P w = .ok (.value u) w ∧ VR C w r u := by
  unfold extSame at hr
  split at hr
  · obtain ⟨u, rfl, h1⟩ := lr1 hl
    simp only [Option.some.injEq] at hr
    subst hr
    exact ⟨u, h u w, h1⟩
  · simp at hr

/-- Which entries a program has. -/
noncomputable def extOf (gc gs : List FuncId) (g : FuncId) : Option (List AV → Option AV) := bif gc.contains g then some extCmp else bif gs.contains g then some extSame else none
theorem extOf_ok {P : Program} {gc gs : List FuncId} (hc : ∀ g ∈ gc, ∀ (a b : ByteArray) (w : World), (callFunc g #[.string a, .string b]).run P w = .ok (.value (.int .i64 (Extern.BytealgCompare.cmp a b))) w)
    (hs : ∀ g ∈ gs, ∀ (x : Value) (w : World), (callFunc g #[x]).run P w = .ok (.value x) w) : ExtOk P (extOf gc gs) := by
  refine ⟨fun g h args r hg hr C w vs hl => ?_⟩
  unfold extOf at hg
  cases h1 : gc.contains g with
  | true =>
    rw [h1] at hg
    simp only [cond_true, Option.some.injEq] at hg
    subst hg
    exact extCmp_ok (hc g (by simpa using h1)) hr hl
  | false =>
    rw [h1] at hg
    cases h2 : gs.contains g with
    | true =>
      rw [h2] at hg
      simp only [cond_true, cond_false, Option.some.injEq] at hg
      subst hg
      exact extSame_ok (hs g (by simpa using h2)) hr hl
    | false => rw [h2] at hg; simp at hg

/-- The environment of a program as it stands: no contracts, no globals; 'hp': which slices are objects; 'ext': library entries. -/
noncomputable def plainEnv (P : Program) (hp : TypeId → Option Tmp → Bool) (meth : TypeId → String → Option FuncId) (ext : FuncId → Option (List AV → Option AV)) : Env := { P := P, G := fun _ => none, fn := fun f => P.funcs[f]?, und := P.underlying, inf := P.info?, hp := hp, meth := meth, ext := ext, X := fun _ => none }
theorem plainEnv_ok {P : Program} {hp : TypeId → Option Tmp → Bool} {meth : TypeId → String → Option FuncId} {ext : FuncId → Option (List AV → Option AV)} (h1 : P.funcs.toList.all (fun x => x.name != "runtime.NumGoroutine") = true) (h2 : P.follows .mixedOrders = true)
    (hm : ∀ t name f, meth t name = some f → ∀ v w, (method (P.types.size + Made.depth) t v name).run P w = .ok (f, v) w) (he : ExtOk P ext) : (plainEnv P hp meth ext).Ok where
  fn := fun f x hx => ⟨hx, by
    have hm : x ∈ P.funcs.toList := by
      have := Array.mem_of_getElem? hx
      simpa using this
    have := List.all_eq_true.1 h1 x hm
    simpa using this⟩
  und := fun t x hx => hx
  inf := fun t x hx => hx
  mixed := h2
  meth := hm
  ext := he.ok
theorem plainEnv_x (P : Program) (hp : TypeId → Option Tmp → Bool) (meth : TypeId → String → Option FuncId) (ext : FuncId → Option (List AV → Option AV)) : XOk (plainEnv P hp meth ext) := ⟨fun f g fn h => by simp [plainEnv] at h⟩
theorem plainEnv_e (P : Program) (hp : TypeId → Option Tmp → Bool) (meth : TypeId → String → Option FuncId) (ext : FuncId → Option (List AV → Option AV)) : EvoX (plainEnv P hp meth ext) := ⟨fun f g h => by simp [plainEnv] at h⟩
theorem plainEnv_f (P : Program) (hp : TypeId → Option Tmp → Bool) (meth : TypeId → String → Option FuncId) (ext : FuncId → Option (List AV → Option AV)) : FrmX (plainEnv P hp meth ext) := ⟨fun f g h => by simp [plainEnv] at h⟩

end Go.Abs
end

section
set_option linter.unusedSimpArgs false
set_option linter.unusedVariables false
namespace Go.Abs
open Go.RowKit Go.MapKept

section
variable {E : Env} {C : Ctx} {S : St} {w w' : World}
theorem shape_same {b : Nat} (h : w'.heap[b]? = w.heap[b]?) : w'.shape? b = w.shape? b := by simp only [World.shape?, h]
theorem shape_lt {b : Nat} {x : TypeId × Nat} (h : w.shape? b = some x) : b < w.heap.size := by
  rcases Nat.lt_or_ge b w.heap.size with h' | h'
  · exact h'
  · simp [World.shape?, Array.getElem?_eq_none h'] at h
/-- Later, nothing that was there having turned. -/
theorem Ext.later (hw : WR E C S w) (hb : Below w.heap.size w w') : Ext C w C w' :=
  ⟨⟨fun _ h => ⟨h, rfl, rfl, rfl, rfl⟩, Nat.le_refl _, fun _ _ => rfl, fun i h1 h2 => absurd h2 (by omega), fun l h1 h2 => absurd h2 h1, hb.size, fun _ _ => Nat.le_refl _,
    fun b o h _ _ => by simp only [World.cell?, hb.block b h], rfl, ⟨hb.mono hw.bs, trivial⟩, fun b x hx => by rw [shape_same (hb.block b (shape_lt hx))]; exact hx, rfl⟩, Nat.le_refl _, fun l h1 h2 => absurd h2 h1⟩
theorem WR.later (hw : WR E C S w) (hb : Below w.heap.size w w') : WR E C S w' := by
  have e := Ext.later hw hb
  refine ⟨hw.no, hw.unb, hw.nid, hw.nid1, by have := hw.bs; have := hb.size; omega, hw.inj, fun l hl => ⟨(hw.mub l hl).1, by have := (hw.mub l hl).2; have := hb.size; omega⟩, fun l hl => ?_, hw.unob, fun i h0 hi => ?_, hw.idi, fun g cs hg => (hw.glob g cs hg).ext e, hw.fresh, fun l x hl hx => ?_, hw.shu, fun i T h0 hi hT => ?_⟩
  · rw [hb.block _ (hw.mub l hl).2]
    exact (hw.objs l hl).ext e.toExtW hl
  · have k := hw.ids i h0 hi
    exact k.same hb.size (hb.block _ k.lt)
  · obtain ⟨k1, k2⟩ := hw.shp l x hl hx
    exact ⟨k1, by rw [shape_same (hb.block _ (hw.mub l hl).2)]; exact k2⟩
  · obtain ⟨c, fz, k1, k2⟩ := hw.ity i T h0 hi hT
    exact ⟨c, fz, by rw [hb.block _ (hw.ids i h0 hi).lt]; exact k1, k2⟩

/-- A new object in a block that has come meanwhile. -/
theorem WR.laterBear (hw : WR E C S w) (hb : Below w.heap.size w w') {gb : Nat} (h1 : w.heap.size ≤ gb) (h2 : gb < w'.heap.size) {cs : List AV} {c : Array Value} {T : TypeId} {lim : Nat} (hg : w'.heap[gb]? = some (.cells c T (0, 0)))
    (hl : ∀ C', LR C' w' cs (c.toList.take cs.length)) (hlim : cs.length ≤ lim) (hsz : lim ≤ c.size) :
    WR E (C.bear S.no gb 0 cs.length lim (S.no + 1)) (S.newObj cs) w' ∧ Ext C w (C.bear S.no gb 0 cs.length lim (S.no + 1)) w' := by
  have hn : ¬ C.born S.no := hw.unb _ (Nat.le_refl _)
  have e : Ext C w (C.bear S.no gb 0 cs.length lim (S.no + 1)) w' := by
    refine ⟨⟨fun l hl' => ?_, Nat.le_refl _, fun _ _ => rfl, fun i h1 h2 => absurd h2 (by show ¬ i < C.nid; omega), fun l h1' h2' => ?_, hb.size, fun _ _ => Nat.le_refl _, fun b o h _ _ => by simp only [World.cell?, hb.block b h], rfl, ⟨hb.mono hw.bs, trivial⟩, fun b x hx => by rw [shape_same (hb.block b (shape_lt hx))]; exact hx, rfl⟩, by show C.no ≤ S.no + 1; rw [hw.no]; exact Nat.le_succ _, fun l h1' h2' => ?_⟩
    · have hne : l ≠ S.no := fun e => hn (e ▸ hl')
      obtain ⟨a1, a2, a3, a4⟩ := C.bear_ne (b := gb) (o := 0) (len := cs.length) (lim := lim) (no' := S.no + 1) hne
      exact ⟨.inl hl', a1, a2, a3, a4⟩
    · have : l = S.no := h2'.resolve_left h1'
      rw [this, Ctx.bear_at.1]; exact .inl h1
    · have : l = S.no := h2'.resolve_left h1'
      rw [this, hw.no]; exact Nat.le_refl _
  have hget : ∀ l, (S.newObj cs).objs.get l = if l = S.no then some (.cells cs) else S.objs.get l := fun l => by
    show (S.objs.set S.no _).get l = _
    rw [PM.get_set]
  refine ⟨⟨rfl, fun l hl' hb' => ?_, hw.nid, hw.nid1, by have := hw.bs; have := hb.size; simp [Ctx.bear]; omega, fun l l' hl' hl'' ha ha' heq => ?_, fun l hl' => ?_, fun l hl' => ?_, fun l hl' => ?_, fun i h0 hi => ?_, hw.idi, fun g cs hG => (hw.glob g cs hG).ext e, hw.fresh, fun l x hl' hx => ?_, fun l hl' => ?_, fun i T' h0 hi hT => ?_⟩, e⟩
  · have hl' : S.no + 1 ≤ l := hl'
    rcases hb' with hb' | hb'
    · exact hw.unb l (by omega) hb'
    · omega
  · by_cases q1 : l = S.no
    · by_cases q2 : l' = S.no
      · rw [q1, q2]
      · have b2 := hl''.resolve_right q2
        rw [q1, Ctx.bear_at.1, (Ctx.bear_ne q2).1] at heq
        have := (hw.mub l' b2).2; omega
    · have b1 := hl'.resolve_right q1
      by_cases q2 : l' = S.no
      · rw [q2, Ctx.bear_at.1, (Ctx.bear_ne q1).1] at heq
        have := (hw.mub l b1).2; omega
      · have b2 := hl''.resolve_right q2
        rw [(Ctx.bear_ne q1).1, (Ctx.bear_ne q2).1] at heq
        rw [hget, if_neg q1] at ha
        rw [hget, if_neg q2] at ha'
        exact hw.inj l l' b1 b2 ha ha' heq
  · by_cases q : l = S.no
    · rw [q, Ctx.bear_at.1]; have := hw.bs; exact ⟨by show C.base ≤ gb; omega, h2⟩
    · rw [(Ctx.bear_ne q).1]
      have h3 := hw.mub l (hl'.resolve_right q)
      have h4 := hb.size
      exact ⟨h3.1, by omega⟩
  · rw [hget]
    by_cases q : l = S.no
    · rw [if_pos q, q, Ctx.bear_at.1, hg]
      refine ⟨c, T, (0, 0), rfl, ?_, ?_, ?_, ?_, .inl rfl⟩
      · rw [Ctx.bear_at.2.1, List.drop_zero]; exact hl _
      · rw [Ctx.bear_at.2.2.1]
      · rw [Ctx.bear_at.2.2.1, Ctx.bear_at.2.2.2]; exact hlim
      · rw [Ctx.bear_at.2.1, Ctx.bear_at.2.2.2]; omega
    · rw [if_neg q, (Ctx.bear_ne q).1, hb.block _ (hw.mub l (hl'.resolve_right q)).2]
      exact (hw.objs l (hl'.resolve_right q)).ext e.toExtW (hl'.resolve_right q)
  · have hne : l ≠ S.no := fun e => hl' (.inr e)
    rw [hget, if_neg hne]
    exact hw.unob l (fun h => hl' (.inl h))
  · obtain ⟨k1, k2, k3, k4, k5, ⟨c', T', fz, r1, r2, r3⟩, k7, k8⟩ := hw.ids i h0 hi
    refine ⟨k1, by show (C.io i).b < _; have := hb.size; omega, fun l hl' => ?_, k4, k5, ⟨c', T', fz, by show w'.heap[(C.io i).b]? = _; rw [hb.block _ k2]; exact r1, r2, r3⟩, k7, k8⟩
    by_cases q : l = S.no
    · rw [q, Ctx.bear_at.1]; show gb ≠ (C.io i).b; omega
    · rw [(Ctx.bear_ne q).1]; exact k3 l (hl'.resolve_right q)
  · have hx : S.shp.get l = some x := hx
    by_cases q : l = S.no
    · rw [q, hw.shu _ hn] at hx; cases hx
    · obtain ⟨k1, k2⟩ := hw.shp l x (hl'.resolve_right q) hx
      rw [(Ctx.bear_ne q).1, (Ctx.bear_ne q).2.1]
      exact ⟨k1, e.shape _ _ k2⟩
  · exact hw.shu l (fun h => hl' (.inl h))
  · obtain ⟨c', fz, k1, k2⟩ := hw.ity i T' h0 hi hT
    exact ⟨c', fz, by show w'.heap[(C.io i).b]? = _; rw [hb.block _ (hw.ids i h0 hi).lt]; exact k1, k2⟩
end
end Go.Abs
end
