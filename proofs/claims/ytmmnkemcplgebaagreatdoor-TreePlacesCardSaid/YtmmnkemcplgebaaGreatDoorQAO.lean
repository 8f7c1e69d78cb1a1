/-
  A loop over a map, carried out as a whole: sound for every order of the rounds.
-/
import Derived.Test.YtmmnkemcplgebaaGreatDoorQAN
import Derived.Maps.RangeRun
section
section
set_option linter.unusedSimpArgs false
set_option linter.unusedVariables false
namespace Go.Abs
open Go.RowKit Go.MapKept
open Go.ChangeMaps (setBlock)
noncomputable def Ctx.cut (C C' : Ctx) : Ctx := { C' with born := C.born, no := C.no }
theorem VR.back {C C' : Ctx} {w w' : World} (hb : ∀ l, C.born l → C'.born l) {x : AV} {u0 : Value} (h : VR C w x u0) : ∀ {v : Value}, VR C' w' x v → VR (C.cut C') w' x v := by
 have hfr : ∀ b, C'.free b → (C.cut C').free b := fun b hf l hl => hf l (hb l hl)
 induction h with
 | undef u => intro v k; exact .undef v
 | sc u => intro v k; rw [k.sc_inv]; exact .sc _
 | ptr l off h => intro v k; cases k; exact .ptr l off h
 | osl l sz off len room a cap h hs hlr hrc hro hcl ha =>
  intro v k
  cases k with
  | osl _ _ _ _ _ a' cap' h' hs' hlr' hrc' hro' hcl' ha' => exact .osl l sz off len room a' cap' h hs hlr' hrc' hro' hcl' ha'
 | mp l h => intro v k; cases k; exact .mp l h
 | eptr cs off b o u hb hf ht hc hr ih =>
  intro v k
  cases k with
  | eptr _ _ b' o' u' hb' hf' ht' hc' hr' => exact .eptr cs off b' o' u' hb' (hfr _ hf') ht' hc' (fun i x hx => ih i x hx (hr' i x hx))
 | vec0 sz a cap =>
  intro v k
  cases k with
  | vec0 _ a' cap' => exact .vec0 sz a' cap'
  | vec _ _ _ fl b o cap' u hs hlc hfl hb hf ht hc hr hid hx1 hx2 =>
   refine .vec 0 sz [] fl b o cap' u hs hlc hfl hb (hfr _ hf) ht hc (fun i x hx => ?_) hid hx1 hx2
   simp [flat?] at hfl
   subst hfl
   simp at hx
 | vec id sz xs fl b o cap u hs hlc hfl hb hf ht hc hr hid hx1 hx2 ih =>
  intro v k
  cases k with
  | vec0 _ a' cap' => exact .vec0 sz a' cap'
  | vec _ _ _ fl' b' o' cap' u' hs' hlc' hfl' hb' hf' ht' hc' hr' hid' hx1' hx2' =>
   have : fl' = fl := by rw [hfl] at hfl'; exact (Option.some.inj hfl').symm
   subst this
   exact .vec id sz xs fl' b' o' cap' u' hs' hlc' hfl' hb' (hfr _ hf') ht' hc' (fun i x hx => ih i x hx (hr' i x hx)) hid' hx1' hx2'
 | udat id xs fl b o cap u hfl hb hf ht hc hr hid ih =>
  intro v k
  cases k with
  | udat _ _ fl' b' o' cap' u' hfl' hb' hf' ht' hc' hr' hid' =>
   have : fl' = fl := by rw [hfl] at hfl'; exact (Option.some.inj hfl').symm
   subst this
   exact .udat id xs fl' b' o' cap' u' hfl' hb' (hfr _ hf') ht' hc' (fun i x hx => ih i x hx (hr' i x hx)) hid'
 | agg cs vs hl hr ih =>
  intro v k
  cases k with
  | agg _ vs' hl' hr' => exact .agg cs vs' hl' (fun i x hx => ih i x hx (hr' i x hx))
 | tup cs vs hl hr ih =>
  intro v k
  cases k with
  | tup _ vs' hl' hr' => exact .tup cs vs' hl' (fun i x hx => ih i x hx (hr' i x hx))
 | fn f c1 c2 v1 v2 hl1 hr1 hl2 hr2 ih1 ih2 =>
  intro v k
  cases k with
  | fn _ _ _ v1' v2' hl1' hr1' hl2' hr2' => exact .fn f c1 c2 v1' v2' hl1' (fun i x hx => ih1 i x hx (hr1' i x hx)) hl2' (fun i x hx => ih2 i x hx (hr2' i x hx))
 | ifc t a v h ih =>
  intro v k
  cases k with
  | ifc _ _ v' h' => exact .ifc t a v' (ih h')
theorem there_born {E : Env} {C : Ctx} {S : St} {w : World} (hw : WR E C S w) {l : Nat} (h : there S l = true) : C.born l := by
 refine Classical.byContradiction fun hn => ?_
 unfold there at h
 rcases hw.unob l hn with h1 | h1 <;> simp [h1] at h
theorem oldL_get {S : St} : ∀ {l : List AV}, oldL S l = true → ∀ (i : Nat) x, l[i]? = some x → oldA S x = true
 | [], _, i, x, h => by simp at h
 | y :: l, h, i, x, hx => by
  simp only [oldL, Bool.and_eq_true] at h
  cases i with
  | zero => simp at hx; subst hx; exact h.1
  | succ i => exact oldL_get h.2 i x (by simpa using hx)
theorem oldL_flat {S : St} {sz : Nat} : ∀ {xs fl : List AV}, flat? sz xs = some fl → oldL S xs = true → ∀ (i : Nat) x, fl[i]? = some x → oldA S x = true
 | [], fl, h, _, i, x, hx => by simp [flat?] at h; subst h; simp at hx
 | y :: l, fl, h, ho, i, x, hx => by
  simp only [oldL, Bool.and_eq_true] at ho
  unfold flat? at h
  split at h
  · rename_i cs r hc hr
    split at h
    · simp only [Option.some.injEq] at h
      subst h
      rcases Nat.lt_or_ge i cs.length with hi | hi
      · rw [List.getElem?_append_left hi] at hx
        have : oldL S cs = true := by
         cases y with
         | sc v =>
          unfold cellsOf at hc
          split at hc <;> first | (cases hc; done) | (simp only [Option.some.injEq] at hc; subst hc; simp_all [oldL, oldA])
         | _ => simp [cellsOf] at hc <;> subst hc <;> simp_all [oldL, oldA]
        exact oldL_get this i x hx
      · rw [List.getElem?_append_right hi] at hx
        exact oldL_flat hr ho.2 _ x hx
    · cases h
  · cases h
theorem VR.old {E : Env} {C0 C' : Ctx} {S0 : St} {w0 w' : World} (h0 : WR E C0 S0 w0) (hb : ∀ l, C0.born l → C'.born l) {x : AV} {v : Value} (h : VR C' w' x v) : oldA S0 x = true → VR (C0.cut C') w' x v := by
 have hfr : ∀ b, C'.free b → (C0.cut C').free b := fun b hf l hl => hf l (hb l hl)
 induction h with
 | undef u => intro _; exact .undef _
 | sc u => intro _; exact .sc _
 | ptr l off h => intro k; simp only [oldA] at k; exact .ptr l off (there_born h0 k)
 | osl l sz off len room a cap h hs hlr hrc hro hcl ha => intro k; simp only [oldA] at k; exact .osl l sz off len room a cap (there_born h0 k) hs hlr hrc hro hcl ha
 | mp l h => intro k; simp only [oldA] at k; exact .mp l (there_born h0 k)
 | eptr cs off b o u hb hf ht hc hr ih => intro k; simp only [oldA] at k; exact .eptr cs off b o u hb (hfr _ hf) ht hc (fun i x hx => ih i x hx (oldL_get k i x hx))
 | vec0 sz a cap => intro k; exact .vec0 sz a cap
 | vec id sz xs fl b o cap u hs hlc hfl hb hf ht hc hr hid hx1 hx2 ih => intro k; simp only [oldA] at k; exact .vec id sz xs fl b o cap u hs hlc hfl hb (hfr _ hf) ht hc (fun i x hx => ih i x hx (oldL_flat hfl k i x hx)) hid hx1 hx2
 | udat id xs fl b o cap u hfl hb hf ht hc hr hid ih => intro k; simp only [oldA] at k; exact .udat id xs fl b o cap u hfl hb (hfr _ hf) ht hc (fun i x hx => ih i x hx (oldL_flat hfl k i x hx)) hid
 | agg cs vs hl hr ih => intro k; simp only [oldA] at k; exact .agg cs vs hl (fun i x hx => ih i x hx (oldL_get k i x hx))
 | tup cs vs hl hr ih => intro k; simp only [oldA] at k; exact .tup cs vs hl (fun i x hx => ih i x hx (oldL_get k i x hx))
 | fn f c1 c2 v1 v2 hl1 hr1 hl2 hr2 ih1 ih2 =>
  intro k
  simp only [oldA, Bool.and_eq_true] at k
  exact .fn f c1 c2 v1 v2 hl1 (fun i x hx => ih1 i x hx (oldL_get k.1 i x hx)) hl2 (fun i x hx => ih2 i x hx (oldL_get k.2 i x hx))
 | ifc t a v h ih => intro k; simp only [oldA] at k; exact .ifc t a v (ih k)
theorem LR.back {C C' : Ctx} {w w' : World} (hb : ∀ l, C.born l → C'.born l) {cs : List AV} {us vs : List Value} (h : LR C w cs us) (k : LR C' w' cs vs) : LR (C.cut C') w' cs vs :=
 ⟨k.1, fun i x hx => (h.2 i x hx).back hb (k.2 i x hx)⟩
theorem MapR.back {C C' : Ctx} {w w' : World} (hb : ∀ l, C.born l → C'.born l) {es : List (Value × AV)} {us vs : List MapEntry} (h : MapR C w es us) (k : MapR C' w' es vs) : MapR (C.cut C') w' es vs :=
 ⟨k.len, k.nd, k.nd', k.key, fun q x hx => by
  obtain ⟨e, h1, h2, h3⟩ := h.val q x hx
  obtain ⟨e', k1, k2, k3⟩ := k.val q x hx
  exact ⟨e', k1, k2, h3.back hb k3⟩⟩
theorem ObjR.back {C C' : Ctx} {w w' : World} (hb : ∀ l, C.born l → C'.born l) {l : Nat} {a : Option AObj} {o o' : Option Obj} (h : ObjR C w l a o) (k : ObjR C' w' l a o') : ObjR (C.cut C') w' l a o' := by
 match a, h, k with
 | some (.cells cs), ⟨c, T, fz, h1, h2, h3, h4, h5, h6⟩, ⟨c', T', fz', k1, k2, k3, k4, k5, k6⟩ => exact ⟨c', T', fz', k1, h2.back hb k2, k3, k4, k5, k6⟩
 | some (.siter s p), _, k => exact k
 | some (.mp es), ⟨_, _, _, h2, _⟩, ⟨ents', clock', k1, k2, k3⟩ => exact ⟨ents', clock', k1, h2.back hb k2, k3⟩
 | some (.mpx es), ⟨_, _, _, _, h2, _⟩, ⟨k0, ents', clock', k1, k2, k3⟩ => exact ⟨k0, ents', clock', k1, h2.back hb k2, k3⟩
 | some .raw, _, k => exact k
 | some .dead, _, _ => trivial
section
variable {E : Env} {C C' : Ctx} {S S' : St} {w w' : World}
theorem Ext.cut (e : Ext C w C' w') : Ext C w (C.cut C') w' :=
 ⟨⟨fun l h => ⟨h, (e.born l h).2⟩, e.nid, e.io, e.ion, fun l h1 h2 => absurd h2 h1, e.size, e.top, e.cell, e.base, e.below, e.shape, e.mx⟩, Nat.le_refl _, fun l h1 h2 => absurd h2 h1⟩
theorem forget (hw : WR E C S w) (hw' : WR E C' S' w') (e : Ext C w C' w') (hobj : ∀ l, C.born l → S'.objs.get l = S.objs.get l) (hshp : ∀ l, C.born l → S'.shp.get l = S.shp.get l)
 (hnid : S'.nid = S.nid) (hsp : S'.spent = S.spent) (hity : S'.ity = S.ity) : WR E (C.cut C') S w' := by
 have hb : ∀ l, C.born l → C'.born l := fun l hl => (e.born l hl).1
 refine ⟨hw.no, hw.unb, (hw'.nid.trans hnid : C'.nid = S.nid), hw.nid1, hw'.bs, fun l l' hl hl' ha ha' hm => ?_, fun l hl => hw'.mub l (hb l hl), fun l hl => ?_, hw.unob, fun i h0 hi => ?_, fun i j h0 hi h0' hj hs hs' he => ?_, fun g cs hg => (hw.glob g cs hg).ext e.cut, hw.fresh, fun l x hl hx => ?_, hw.shu, fun i T h0 hi hT => ?_⟩
 · exact hw'.inj l l' (hb l hl) (hb l' hl') (by rw [hobj l hl]; exact ha) (by rw [hobj l' hl']; exact ha') hm
 · have h1 := hw'.objs l (hb l hl)
   rw [hobj l hl] at h1
   exact (hw.objs l hl).back hb h1
 · obtain ⟨k1, k2, k3, k4, k5, k6, k7, k8⟩ := hw'.ids i h0 hi
   exact ⟨k1, k2, fun l hl => k3 l (hb l hl), k4, k5, k6, k7, fun hs => k8 (by show S'.isSpent i = false; simp only [St.isSpent, hsp]; exact hs)⟩
 · exact hw'.idi i j h0 hi h0' hj (by simp only [St.isSpent, hsp]; exact hs) (by simp only [St.isSpent, hsp]; exact hs') he
 · exact hw'.shp l x (hb l hl) (by rw [hshp l hl]; exact hx)
 · exact hw'.ity i T h0 hi (by rw [hity]; exact hT)
noncomputable def Ctx.exact (C : Ctx) (g : Nat → Obj) : Ctx := { C with mx := g }
theorem VR.exact (g : Nat → Obj) {x : AV} {v : Value} (h : VR C w x v) : VR (C.exact g) w x v := by
 induction h with
 | undef v => exact .undef v
 | sc v => exact .sc v
 | ptr l off h => exact .ptr l off h
 | osl l sz off len room a cap h hs hlr hrc hro hcl ha => exact .osl l sz off len room a cap h hs hlr hrc hro hcl ha
 | mp l h => exact .mp l h
 | eptr cs off b o u hb hf ht hc _ ih => exact .eptr cs off b o u hb hf ht hc ih
 | vec0 sz a cap => exact .vec0 sz a cap
 | vec id sz xs fl b o cap u hs hlc hfl hb hf ht hc _ hid hx1 hx2 ih => exact .vec id sz xs fl b o cap u hs hlc hfl hb hf ht hc ih hid hx1 hx2
 | udat id xs fl b o cap u hfl hb hf ht hc _ hid ih => exact .udat id xs fl b o cap u hfl hb hf ht hc ih hid
 | agg cs vs hl _ ih => exact .agg cs vs hl ih
 | tup cs vs hl _ ih => exact .tup cs vs hl ih
 | fn f c1 c2 v1 v2 hl1 _ hl2 _ ih1 ih2 => exact .fn f c1 c2 v1 v2 hl1 ih1 hl2 ih2
 | ifc t a v _ ih => exact .ifc t a v ih
theorem LR.exact (g : Nat → Obj) {cs : List AV} {vs : List Value} (h : LR C w cs vs) : LR (C.exact g) w cs vs := ⟨h.1, fun i x hx => (h.2 i x hx).exact g⟩
theorem MapR.exact (g : Nat → Obj) {es : List (Value × AV)} {vs : List MapEntry} (h : MapR C w es vs) : MapR (C.exact g) w es vs :=
 ⟨h.len, h.nd, h.nd', h.key, fun q x hx => let ⟨e, h1, h2, h3⟩ := h.val q x hx; ⟨e, h1, h2, h3.exact g⟩⟩
noncomputable def held : Option AObj → Bool
 | some (.mpx _) | some .raw => true
 | _ => false
theorem ObjR.exact (g : Nat → Obj) {l : Nat} {a : Option AObj} {o : Option Obj} (hg : held a = true → g l = C.mx l) (h : ObjR C w l a o) : ObjR (C.exact g) w l a o := by
 match a, h with
 | some (.cells cs), ⟨c, T, fz, h1, h2, h3, h4, h5, h6⟩ => exact ⟨c, T, fz, h1, h2.exact g, h3, h4, h5, h6⟩
 | some (.siter s p), k => exact k
 | some (.mp es), ⟨ents, clock, k1, k2, k3⟩ => exact ⟨ents, clock, k1, k2.exact g, k3⟩
 | some (.mpx es), ⟨k0, ents, clock, k1, k2, k3⟩ => exact ⟨k0.trans (by rw [← hg rfl]; rfl), ents, clock, (hg rfl).trans k1, k2.exact g, k3⟩
 | some .raw, k => exact ⟨k.1.trans (by rw [← hg rfl]; rfl), k.2⟩
 | some .dead, _ => trivial
theorem WR.exact (g : Nat → Obj) (hw : WR E C S w) (hg : ∀ l, C.born l → held (S.objs.get l) = true → g l = C.mx l) : WR E (C.exact g) S w :=
 ⟨hw.no, hw.unb, hw.nid, hw.nid1, hw.bs, hw.inj, hw.mub, fun l hl => (hw.objs l hl).exact g (hg l hl), hw.unob, fun i h0 hi => let ⟨k1, k2, k3, k4, k5, k6, k7, k8⟩ := hw.ids i h0 hi; ⟨k1, k2, k3, k4, k5, k6, k7, k8⟩, hw.idi,
  fun G cs hG => let ⟨a, b, c⟩ := hw.glob G cs hG; ⟨a.exact g, b, c⟩, hw.fresh, hw.shp, hw.shu, hw.ity⟩
theorem TR.exact (g : Nat → Obj) {tm : PM AV} {ts : Array Value} (h : TR C w tm ts) : TR (C.exact g) w tm ts := fun i x hx => (h i x hx).exact g
theorem Ext.exact (g : Nat → Obj) (e : Ext C w C' w') : Ext (C.exact g) w (C'.exact g) w' :=
 ⟨⟨e.born, e.nid, e.io, e.ion, e.fresh, e.size, e.top, e.cell, e.base, e.below, e.shape, rfl⟩, e.no, e.newer⟩
theorem WR.as (hw : WR E C S w) {l : Nat} {a : AObj} (hl : C.born l) (hap : ∀ k, C.born k → k ≠ l → ¬ inacc (S.objs.get k) → C.mu k ≠ C.mu l) (hr : ObjR C w l (some a) (w.heap[C.mu l]?)) : WR E C { S with objs := S.objs.set l a } w := by
 have hget : ∀ k, (S.objs.set l a).get k = if k = l then some a else S.objs.get k := fun k => by rw [PM.get_set]
 refine ⟨hw.no, hw.unb, hw.nid, hw.nid1, hw.bs, fun k k' hk hk' ha ha' heq => ?_, hw.mub, fun k hk => ?_, fun k hk => ?_, hw.ids, hw.idi, hw.glob, hw.fresh, hw.shp, hw.shu, hw.ity⟩
 · have ha : ¬ inacc ((S.objs.set l a).get k) := ha
   have ha' : ¬ inacc ((S.objs.set l a).get k') := ha'
   rw [hget] at ha ha'
   by_cases h1 : k = l
   · by_cases h2 : k' = l
     · rw [h1, h2]
     · rw [if_neg h2] at ha'
       exact absurd (by rw [← heq, h1]) (hap k' hk' h2 ha')
   · rw [if_neg h1] at ha
     by_cases h2 : k' = l
     · exact absurd (by rw [heq, h2]) (hap k hk h1 ha)
     · rw [if_neg h2] at ha'
       exact hw.inj k k' hk hk' ha ha' heq
 · show ObjR C w k ((S.objs.set l a).get k) _
   rw [hget]
   by_cases h1 : k = l
   · rw [if_pos h1, h1]; exact hr
   · rw [if_neg h1]; exact hw.objs k hk
 · show inacc ((S.objs.set l a).get k)
   rw [hget, if_neg (fun e => hk (by rw [e]; exact hl))]
   exact hw.unob k hk
theorem WR.apart (hw : WR E C S w) {l : Nat} (hl : C.born l) (ha : ¬ inacc (S.objs.get l)) : ∀ k, C.born k → k ≠ l → ¬ inacc (S.objs.get k) → C.mu k ≠ C.mu l :=
 fun k hk hne hak e => hne (hw.inj k l hk hl hak ha e)
theorem WR.same (hw : WR E C S w) (h1 : ∀ l, S'.objs.get l = S.objs.get l) (h2 : S'.no = S.no) (h3 : S'.nid = S.nid) (h4 : S'.spent = S.spent) (h5 : S'.shp = S.shp) (h6 : S'.ity = S.ity) : WR E C S' w :=
 ⟨by rw [h2]; exact hw.no, by rw [h2]; exact hw.unb, by rw [h3]; exact hw.nid, by rw [h3]; exact hw.nid1, hw.bs, fun l l' hl hl' ha ha' => hw.inj l l' hl hl' (by rw [← h1]; exact ha) (by rw [← h1]; exact ha'), hw.mub, fun l hl => by rw [h1]; exact hw.objs l hl, fun l hl => by rw [h1]; exact hw.unob l hl,
  fun i h0 hi => by simp only [St.isSpent, h4]; exact hw.ids i h0 hi, fun i j h0 hi h0' hj => by simp only [St.isSpent, h4]; exact hw.idi i j h0 hi h0' hj, hw.glob, fun i hi => by simp only [St.isSpent, h4, h6]; exact hw.fresh i (by rw [← h3]; exact hi), fun l x hl hx => hw.shp l x hl (by rw [← h5]; exact hx), fun l hl => by rw [h5]; exact hw.shu l hl, fun i T h0 hi hT => hw.ity i T h0 hi (by rw [← h6]; exact hT)⟩
end
theorem seq_part {E : Env} {call : CallFn} {nt : Nat} (ok : E.Ok) (hcall : CallOk E call) {ops : Array Oper} {Q : Exit → Act → World → Prop} {tl : List Nat} : ∀ (rest : List Oper) (k : Nat) (C : Ctx) (tm tm' : PM AV) (S S' : St) (a : Act) (w : World), (ops.toList.drop k).take rest.length = rest →
 evSeq E call nt ops rest tm S = some (tm', S') → FR E C S nt tm a w →
 (∀ C' a' w', FR E C' S' nt tm' a' w' → Ext C w C' w' → wpOps E.P ops Q tl a' w') → wpOps E.P ops Q (List.range' k rest.length ++ tl) a w := by
 intro rest
 induction rest with
 | nil =>
  intro k C tm tm' S S' a w hk h hf hq
  simp only [evSeq, Option.some.injEq, Prod.mk.injEq] at h
  obtain ⟨rfl, rfl⟩ := h
  exact hq C a w hf (Ext.refl _ _)
 | cons o rest ih =>
  intro k C tm tm' S S' a w hk h hf hq
  have hko : ops[k]? = some o := by
   have h0 : ((ops.toList.drop k).take (o :: rest).length)[0]? = some o := by rw [hk]; rfl
   rw [List.getElem?_take_of_lt (by simp), List.getElem?_drop] at h0
   simpa using h0
  have hrest : (ops.toList.drop (k + 1)).take rest.length = rest := by
   cases hd : ops.toList.drop k with
   | nil => rw [hd] at hk; simp at hk
   | cons x t =>
    rw [hd] at hk
    simp only [List.length_cons, List.take_succ_cons, List.cons.injEq] at hk
    rw [← List.drop_drop, hd]
    exact hk.2
  rw [List.length_cons, List.range'_succ, List.cons_append]
  rw [wpOps]
  simp only [hko]
  simp only [evSeq] at h
  split at h
  · simp at h
  · rename_i hwa
    split at h
    · rename_i tm1 hp
      have hwant := wanted_rel hf.tr hwa
      simp only [hwant, Bool.false_eq_true, if_false]
      exact ih (k + 1) C tm1 tm' S S' _ w hrest h (hf.put hf.wr (Ext.refl _ _) (v := passed) (.sc _) hp) hq
    · simp at h
  · rename_i hwa
    have hwant := wanted_rel hf.tr hwa
    simp only [hwant, if_true]
    split at h
    · simp at h
    · rename_i v S1 hev
      split at h
      · rename_i tm1 hp
        refine .inl ((good_op ok hcall o hf.wr hf.tr hev).wp fun u C' w' k1 k2 k3 => ?_)
        exact ih (k + 1) C' tm1 tm' S1 S' _ w' hrest h (hf.put k1 k2 k3 hp) (fun C2 a2 w2 f2 e2 => hq C2 a2 w2 f2 (k2.trans e2))
      · simp at h
end Go.Abs
end
end
