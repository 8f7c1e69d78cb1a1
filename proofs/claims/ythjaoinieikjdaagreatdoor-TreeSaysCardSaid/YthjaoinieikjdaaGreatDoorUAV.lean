/-
  Contract: maps.Copy of sets of texts.
-/
import Derived.Test.YthjaoinieikjdaaGreatDoorUAU
import Derived.Lib.SlMapMerge
set_option linter.unusedSimpArgs false
set_option linter.unusedVariables false
namespace Go.Abs
open Go.RowKit Go.MapKept
open Go.Proofs (encStr)
open Go.WideShapes (sorted_perm)
noncomputable def rW : List (Value × AV) → Option (List (List UInt8))
 | [] => some []
 | (.string s, .sc (.bool true)) :: r => bif Nat.ble s.size 1000000 then (rW r).map (s.data.toList :: ·) else none
 | _ => none
noncomputable def mI (ks : List (List UInt8)) : List (Value × AV) := ks.map fun s => (encStr s, .sc (.bool true))
theorem ys8 : ∀ {es : List (Value × AV)} {ks : List (List UInt8)}, rW es = some ks → es = mI ks ∧ ∀ k ∈ ks, k.length ≤ 1000000
 | [], ks, h => by simp [rW] at h; subst h; exact ⟨rfl, fun k hk => by simp at hk⟩
 | e :: r, ks, h => by
  unfold rW at h
  split at h
  · rename_i e'; cases e'
  · rename_i s r' e'
    injection e' with e1 e2
    subst e1; subst e2
    simp only [bB] at h
    split at h
    · rename_i hs
      simp only [dR] at h
      obtain ⟨ks', h1, rfl⟩ := h
      obtain ⟨k1, k2⟩ := ys8 h1
      have hs' := bW hs
      refine ⟨by rw [k1]; rfl, fun k hk => ?_⟩
      rcases List.mem_cons.1 hk with rfl | hk
      · rw [jA]; exact hs'
      · exact k2 k hk
    · cases h
  · cases h
noncomputable def sG (ks js : List (List UInt8)) : List (List UInt8) := ks ++ js.filter fun s => !ks.any fun t => t == s
theorem kb0 {ks js : List (List UInt8)} {s : List UInt8} : s ∈ sG ks js ↔ s ∈ ks ∨ s ∈ js := by
 simp only [sG, nF, List.mem_filter, jB, List.any_eq_false, gD]
 constructor
 · rintro (h | ⟨h, _⟩)
   · exact .inl h
   · exact .inr h
 · rintro (h | h)
   · exact .inl h
   · by_cases hk : s ∈ ks
     · exact .inl hk
     · exact .inr ⟨h, fun t ht e => hk (e ▸ ht)⟩
theorem we6 {ks js : List (List UInt8)} (h1 : ks.Nodup) (h2 : js.Nodup) : (sG ks js).Nodup := by
 refine List.nodup_append.2 ⟨h1, h2.filter _, fun a ha b hb e => ?_⟩
 subst e
 simp only [List.mem_filter, jB, List.any_eq_false, gD] at hb
 exact hb.2 a ha rfl
noncomputable def mF (args : List AV) (S : St) : Option (AV × St) := match args with
 | [.mp l, .mp m] => bif Nat.beq l m then none else match S.map l, S.map m with
  | some es, some fs => match rW es, rW fs with
   | some ks, some js => bif Nat.ble ks.length 1000000 && Nat.ble js.length 1000000 then some (.tup [], S.put l (.mp (mI (sG ks js)))) else none
   | _, _ => none
  | _, _ => none
 | _ => none
def CopyC (P : Program) (f : FuncId) (kt : TypeId) : Prop := ∀ (R : Value → Option (DataW Unit × List MemPlace)) (bd bs nd ns : Nat) (Dd Ds : DataW Unit) (w : World), w.ownsMap P kt R bd nd Dd → w.ownsMap P kt R bs ns Ds → bd ≠ bs → nd + Maps.size Ds ≤ maxLen →
 Calls P f #[.map (some bd), .map (some bs)] w fun e w' => e = .returned (.tuple #[]) ∧ w'.ownsMap P kt R bd (nd + Maps.size Ds) (Lib.mergeD Dd Ds) ∧ w.grownBy w' (some bd)
def jJ : Value → Option (DataW Unit × List MemPlace)
 | .bool true => some (.lit (.bool true), [])
 | _ => none
theorem kv8 {v : Value} {z : DataW Unit × List MemPlace} (h : jJ v = some z) : v = .bool true := by
 unfold jJ at h
 split at h
 · rfl
 · cases h
structure SetAt (P : Program) (kt : TypeId) (ents : Array MapEntry) (has : List UInt8 → Prop) : Prop where
 rd : ∀ x ∈ ents.toList, ∃ s : List UInt8, x.key = encStr s ∧ x.val = .bool true ∧ WideElems.rd (H := Unit) P kt jJ x = some (.string s, .lit (.bool true))
 has : ∀ s, has s ↔ ∃ x ∈ ents.toList, x.key = encStr s
theorem xb4 {s t : List UInt8} (h : encStr s = encStr t) : s = t := by
 simp only [encStr, Value.string.injEq, ByteArray.mk.injEq] at h
 simpa using congrArg Array.toList h
theorem kp3 {P : Program} {kt : TypeId} {ents : Array MapEntry} {D : DataW Unit} (hrd : ∀ x ∈ ents.toList, ∃ s : List UInt8, x.key = encStr s ∧ x.val = .bool true ∧ WideElems.rd (H := Unit) P kt jJ x = some (.string s, .lit (.bool true)))
 (hD : D = .map ((ents.toList.map (WideElems.rg P kt jJ)).foldr DataW.insert [])) (t : List UInt8) : Maps.has D (.string t) = true ↔ ∃ x ∈ ents.toList, x.key = encStr t := by
 subst hD
 rw [Maps.has_eq, List.any_eq_true]
 constructor
 · rintro ⟨p, hp, he⟩
   rw [(sorted_perm _).mem_iff] at hp
   obtain ⟨x, hx, rfl⟩ := List.mem_map.1 hp
   obtain ⟨s, h1, _, h2⟩ := hrd x hx
   rw [WideElems.rg_of h2] at he
   have : s = t := by simpa [Lit.sameKey] using he
   exact ⟨x, hx, by rw [h1, this]⟩
 · rintro ⟨x, hx, he⟩
   obtain ⟨s, h1, _, h2⟩ := hrd x hx
   have : s = t := xb4 (h1.symm.trans he)
   subst this
   exact ⟨_, (sorted_perm _).mem_iff.2 (List.mem_map.2 ⟨x, hx, rfl⟩), by rw [WideElems.rg_of h2]; simp [Lit.sameKey]⟩
theorem kj8 {P : Program} {kt : TypeId} (hkt : P.underlying kt = some .string) {x : MapEntry} {s : List UInt8} (hs : s.length ≤ maxLen) (h1 : x.key = encStr s) (h2 : x.val = .bool true) : WideElems.rd (H := Unit) P kt jJ x = some (.string s, .lit (.bool true)) := by
 have hs' : (ByteArray.mk s.toArray).size ≤ maxLen := hs
 unfold WideElems.rd
 rw [h1, h2]
 simp [Go.keyOf, hkt, mapKey, encStr, hs', jJ]
theorem rd_inv {P : Program} {kt : TypeId} (hkt : P.underlying kt = some .string) {x : MapEntry} {y : Lit × DataW Unit} (h : WideElems.rd (H := Unit) P kt jJ x = some y) : ∃ s : List UInt8, x.key = encStr s ∧ x.val = .bool true ∧ WideElems.rd (H := Unit) P kt jJ x = some (.string s, .lit (.bool true)) := by
 obtain ⟨z, hz, _⟩ := WideElems.rd_val h
 have hv := kv8 hz
 have hk := WideElems.rd_key h
 simp only [Go.keyOf, hkt] at hk
 unfold mapKey at hk
 rw [hkt] at hk
 split at hk
 · rename_i e1 e2; cases e1
 · rename_i e1 e2; cases e1
 · rename_i s e1 e2
   split at hk
   · rename_i hs
     have hkk : x.key = encStr s.data.toList := by rw [e2]
     exact ⟨s.data.toList, hkk, hv, kj8 hkt (by rw [jA]; exact hs) hkk hv⟩
   · cases hk
 · cases hk
theorem wd2 {P : Program} {kt : TypeId} (hkt : P.underlying kt = some .string) {C : Ctx} {w : World} {ks : List (List UInt8)} (hks : ∀ k ∈ ks, k.length ≤ 1000000) {ents : Array MapEntry} (hR : MapR C w (mI ks) ents.toList) :
 (∀ x ∈ ents.toList, ∃ s : List UInt8, x.key = encStr s ∧ x.val = .bool true ∧ WideElems.rd (H := Unit) P kt jJ x = some (.string s, .lit (.bool true))) ∧ (∀ s, s ∈ ks ↔ ∃ x ∈ ents.toList, x.key = encStr s) ∧ ks.Nodup := by
 have hmax : (1000000 : Nat) ≤ maxLen := by decide
 have inv : ∀ x ∈ ents.toList, ∃ s ∈ ks, x.key = encStr s ∧ x.val = .bool true := fun x hx => by
  obtain ⟨y, hy⟩ := hR.key x hx
  obtain ⟨s, hs, e⟩ := List.mem_map.1 hy
  simp only [aJ] at e
  obtain ⟨e', h1, h2, h3⟩ := hR.val _ _ hy
  have : e' = x := xl4 hR.nd' h1 hx h2
  subst this
  rw [← e.2] at h3
  exact ⟨s, hs, e.1.symm, h3.sc_inv⟩
 refine ⟨fun x hx => ?_, fun s => ⟨fun hs => ?_, ?_⟩, ?_⟩
 · obtain ⟨s, hs, h1, h2⟩ := inv x hx
   exact ⟨s, h1, h2, kj8 hkt (cK (hks s hs) hmax) h1 h2⟩
 · obtain ⟨e, h1, h2, _⟩ := hR.val (encStr s) _ (List.mem_map.2 ⟨s, hs, rfl⟩)
   exact ⟨e, h1, h2⟩
 · rintro ⟨x, hx, he⟩
   obtain ⟨t, ht, h1, _⟩ := inv x hx
   rw [xb4 (he.symm.trans h1)]
   exact ht
 · have := hR.nd
   simp only [mI, iJ] at this
   unfold List.Nodup at this ⊢
   rw [List.pairwise_map] at this
   exact this.imp (fun h e => h (by rw [e]))
theorem ky0 {C : Ctx} {w : World} {ks : List (List UInt8)} (hn : ks.Nodup) {ents : Array MapEntry} (hnd : (ents.toList.map (·.key)).Nodup)
 (h1 : ∀ x ∈ ents.toList, ∃ s : List UInt8, x.key = encStr s ∧ x.val = .bool true) (h2 : ∀ s, s ∈ ks ↔ ∃ x ∈ ents.toList, x.key = encStr s) : MapR C w (mI ks) ents.toList := by
 have hn2 : ((mI ks).map (·.1)).Nodup := by
  simp only [mI, iJ]
  unfold List.Nodup at hn ⊢
  rw [List.pairwise_map]
  exact hn.imp (fun h e => h (xb4 e))
 have hmem : ∀ v, v ∈ (mI ks).map (·.1) ↔ v ∈ ents.toList.map (·.key) := fun v => by
  constructor
  · intro hv
    simp only [mI, iJ, List.mem_map, Function.comp_apply] at hv
    obtain ⟨s, hs, rfl⟩ := hv
    obtain ⟨x, hx, he⟩ := (h2 s).1 hs
    exact List.mem_map.2 ⟨x, hx, he⟩
  · intro hv
    obtain ⟨x, hx, rfl⟩ := List.mem_map.1 hv
    obtain ⟨s, e, _⟩ := h1 x hx
    simp only [mI, iJ, List.mem_map, Function.comp_apply]
    exact ⟨s, (h2 s).2 ⟨x, hx, e⟩, e.symm⟩
 have hp := (List.perm_ext_iff_of_nodup hn2 hnd).2 hmem
 refine ⟨by have := hp.length_eq; simpa using this, hn2, hnd, fun x hx => ?_, fun k y hy => ?_⟩
 · obtain ⟨s, e, _⟩ := h1 x hx
   exact ⟨_, List.mem_map.2 ⟨s, (h2 s).2 ⟨x, hx, e⟩, by rw [e]⟩⟩
 · obtain ⟨s, hs, e⟩ := List.mem_map.1 hy
   simp only [aJ] at e
   obtain ⟨rfl, rfl⟩ := e
   obtain ⟨x, hx, he⟩ := (h2 s).1 hs
   obtain ⟨_, _, hv⟩ := h1 x hx
   exact ⟨x, hx, he, by rw [hv]; exact .sc _⟩
theorem isKeyS {P : Program} {kt : TypeId} {ents : Array MapEntry} (hrd : ∀ x ∈ ents.toList, ∃ s : List UInt8, x.key = encStr s ∧ x.val = .bool true ∧ WideElems.rd (H := Unit) P kt jJ x = some (.string s, .lit (.bool true))) :
 ∀ p ∈ (ents.toList.map (WideElems.rg P kt jJ)).foldr DataW.insert [], WideAt.IsKeyLit p.1 := fun p hp => by
 rw [(sorted_perm _).mem_iff] at hp
 obtain ⟨x, hx, rfl⟩ := List.mem_map.1 hp
 obtain ⟨s, _, _, h2⟩ := hrd x hx
 rw [WideElems.rg_of h2]
 trivial
theorem wv9 {E : Env} {f : FuncId} {kt : TypeId} (hkt : E.P.underlying kt = some .string) (hc : CopyC E.P f kt) {args : List AV} {S : St} {r : AV} {S' : St} (h : mF args S = some (r, S')) {C : Ctx} {w : World} {vs : Array Value} (hw : WR E C S w) (hl : LR C w args vs.toList) :
 Calls E.P f vs w (fun e w' => ∃ u C', e = .returned u ∧ WR E C' S' w' ∧ Ext C w C' w' ∧ VR C' w' r u) := by
 obtain ⟨vs⟩ := vs
 unfold mF at h
 split at h
 · rename_i l m
   simp only [bB] at h
   split at h
   · cases h
   · rename_i hlm
     split at h
     · rename_i es fs hes hfs
       split at h
       · rename_i ks js hks hjs
         split at h
         · rename_i hb
           simp only [aS] at hb
           have b1 := bW hb.1
           have b2 := bW hb.2
           simp only [aI, aJ] at h
           obtain ⟨rfl, rfl⟩ := h
           obtain ⟨rfl, hk2⟩ := ys8 hks
           obtain ⟨rfl, hj2⟩ := ys8 hjs
           match vs, hl with
           | [v1, v2], hl =>
           have hv1 := hl.head
           have hv2 := hl.tail.head
           cases hv1 with
           | mp _ hbl =>
           cases hv2 with
           | mp _ hbm =>
           obtain ⟨ha1, ents1, c1, hh1, hR1, hB1⟩ := sC hw hbl hes
           obtain ⟨ha2, ents2, c2, hh2, hR2, hB2⟩ := sC hw hbm hfs
           have hne : C.mu l ≠ C.mu m := fun e => hlm (by rw [hw.inj l m hbl hbm ha1 ha2 e]; exact lB _)
           obtain ⟨r1, m1, n1⟩ := wd2 (P := E.P) hkt hk2 hR1
           obtain ⟨r2, m2, n2⟩ := wd2 (P := E.P) hkt hj2 hR2
           have hmax : (2000000 : Nat) ≤ maxLen := by decide
           have l1 : ents1.size ≤ 1000000 := by
            have h1 := hR1.len
            simp only [mI, eE, jA] at h1
            omega
           have l2 : ents2.size ≤ 1000000 := by
            have h1 := hR2.len
            simp only [mI, eE, jA] at h1
            omega
           have own1 : w.ownsMap E.P kt jJ (C.mu l) ents1.size (.map ((ents1.toList.map (WideElems.rg (H := Unit) E.P kt jJ)).foldr DataW.insert [])) :=
            ⟨ents1, c1, hh1, ⟨by omega, ⟨hB1.1, hB1.2, hR1.nd'⟩, fun x hx => let ⟨_, _, _, h⟩ := r1 x hx; ⟨_, h⟩⟩, aB _, rfl⟩
           have own2 : w.ownsMap E.P kt jJ (C.mu m) ents2.size (.map ((ents2.toList.map (WideElems.rg (H := Unit) E.P kt jJ)).foldr DataW.insert [])) :=
            ⟨ents2, c2, hh2, ⟨by omega, ⟨hB2.1, hB2.2, hR2.nd'⟩, fun x hx => let ⟨_, _, _, h⟩ := r2 x hx; ⟨_, h⟩⟩, aB _, rfl⟩
           have hsz : Maps.size (.map ((ents2.toList.map (WideElems.rg (H := Unit) E.P kt jJ)).foldr DataW.insert [])) = ents2.size := by
            show List.length _ = _
            rw [(sorted_perm _).length_eq, eE, jA]
           have key := hc jJ (C.mu l) (C.mu m) _ _ _ _ w own1 own2 hne (by rw [hsz]; omega)
           refine key.mono ?_
           rintro e w' ⟨rfl, ⟨ents', c', hh', fit', _, hD'⟩, hg⟩
           have r' : ∀ x ∈ ents'.toList, ∃ s : List UInt8, x.key = encStr s ∧ x.val = .bool true ∧ WideElems.rd (H := Unit) E.P kt jJ x = some (.string s, .lit (.bool true)) := fun x hx => by
            obtain ⟨y, hy⟩ := fit'.reads x hx
            exact rd_inv hkt hy
           have hmem : ∀ s, s ∈ sG ks js ↔ ∃ x ∈ ents'.toList, x.key = encStr s := fun s => by
            rw [kb0, m1, m2, ← kp3 r1 rfl, ← kp3 r2 rfl, ← kp3 r' hD']
            unfold Lib.mergeD
            rw [Maps.has_foldPut _ _ _ ⟨_, rfl⟩ (isKeyS r2), eF]
            exact Iff.rfl
           have hR' : MapR C w (mI (sG ks js)) ents'.toList := ky0 (we6 n1 n2) fit'.stamped.2.2 (fun x hx => let ⟨s, h1, h2, _⟩ := r' x hx; ⟨s, h1, h2⟩) hmem
           obtain ⟨kw, ke⟩ := vX hw hbl ha1 hh1 hR' ⟨fit'.stamped.1, fit'.stamped.2.1⟩
           have hlt : C.mu l < w.heap.size := (hw.mub l hbl).2
           have hbel : Below ({ w with heap := w.heap.setIfInBounds (C.mu l) (.map ents' c') } : World).heap.size { w with heap := w.heap.setIfInBounds (C.mu l) (.map ents' c') } w' := by
            refine ⟨hg.os, hg.tape, hg.output, by simpa using hg.size, fun k hk => ?_⟩
            have hk' : k < w.heap.size := by simpa using hk
            show w'.heap[k]? = (w.heap.setIfInBounds (C.mu l) (.map ents' c'))[k]?
            by_cases he : k = C.mu l
            · subst he
              rw [hh', Array.getElem?_setIfInBounds]
              simp [hlt]
            · rw [hg.block k hk' (fun e => he (cZ e)), Array.getElem?_setIfInBounds, aR (Ne.symm he)]
           exact ⟨_, C, rfl, kw.later hbel, ke.trans (Ext.later kw hbel), .tup _ _ rfl fun i x hx => by simp at hx⟩
         · cases h
       · cases h
     · cases h
 · cases h
theorem wi8 {args : List AV} {S : St} {r : AV} {S' : St} (h : mF args S = some (r, S')) : Evo S S' := by
 unfold mF at h
 simp only [bB] at h
 split at h
 · split at h
   · cases h
   · split at h
     · split at h
       · split at h
         · simp only [aI, aJ] at h
           obtain ⟨_, rfl⟩ := h
           exact Evo.put _ _ _
         · cases h
       · cases h
     · cases h
 · cases h
theorem wi7 {D : Nat → Prop} {A X : St} {args : List AV} {r : AV} {A' : St} (k : Frm D A X) (h : mF args A = some (r, A')) : dX D A X r A' (mF args X) := by
 unfold mF at h ⊢
 simp only [bB] at h ⊢
 split at h
 · rename_i l m
   split at h
   · cases h
   · rename_i hlm
     rw [aR hlm]
     split at h
     · rename_i es fs hes hfs
       obtain ⟨hd1, hx1⟩ := k.mapc hes
       obtain ⟨hd2, hx2⟩ := k.mapc hfs
       simp only [hx1, hx2]
       split at h
       · rename_i ks js hks hjs
         split at h
         · rename_i hb
           simp only [aI, aJ] at h
           obtain ⟨rfl, rfl⟩ := h
           refine ⟨_, ?_, Stp.put k hd1 _⟩
           first | rw [bN hb] | simp only [hks, hjs, bN hb]
         · cases h
       · cases h
     · cases h
 · cases h
theorem WR.laterRow {E : Env} {C : Ctx} {S : St} {w w' : World} (hw : WR E C S w) (hb : Below w.heap.size w w') {gb tp : Nat} (h1 : w.heap.size ≤ gb) : WR E (C.row gb tp) S w' ∧ Ext C w (C.row gb tp) w' := by
 have e : Ext C w (C.row gb tp) w' :=
  ⟨⟨fun _ h => ⟨h, rfl, rfl, rfl, rfl⟩, aB _, fun _ _ => rfl, fun i h1 h2 => absurd h2 (by show ¬ i < C.nid; omega), fun l h1 h2 => absurd h2 h1, hb.size, fun b hb => by simp only [Ctx.row]; rw [aR (by omega)]; exact aB _,
   fun b o h _ _ => by simp only [World.cell?, hb.block b h], rfl, ⟨hb.mono hw.bs, trivial⟩, fun b x hx => by rw [xJ (hb.block b (xx1 hx))]; exact hx, rfl⟩, aB _, fun l h1 h2 => absurd h2 h1⟩
 refine ⟨⟨hw.no, hw.unb, hw.nid, hw.nid1, by have := hw.bs; have := hb.size; show C.base ≤ _; omega, hw.inj, fun l hl => ⟨(hw.mub l hl).1, by have := (hw.mub l hl).2; have := hb.size; show C.mu l < _; omega⟩, fun l hl => ?_, hw.unob, fun i h0 hi => ?_, hw.idi, fun g cs hg => (hw.glob g cs hg).ext e, hw.fresh, fun l x hl hx => ?_, hw.shu, fun i T h0 hi hT => ?_⟩, e⟩
 · show ObjR _ _ l (S.objs.get l) (w'.heap[C.mu l]?)
   rw [hb.block _ (hw.mub l hl).2]
   exact (hw.objs l hl).ext e.toExtW hl
 · have k := hw.ids i h0 hi
   have klt := k.lt
   obtain ⟨k1, k2, k3, k4, k5, ⟨c', T', fz', r1, r2, r3⟩, k7, k8⟩ := k.same hb.size (hb.block _ k.lt)
   have ht : (C.row gb tp).top (C.io i).b = C.top (C.io i).b := by simp only [Ctx.row]; rw [aR (by omega)]
   exact ⟨k1, k2, k3, k4, k5, ⟨c', T', fz', r1, by show ∀ i', Ctx.top _ (C.io i).b ≤ i' → _; rw [ht]; exact r2, r3⟩, by show _ ≤ Ctx.top _ (C.io i).b; rw [ht]; exact k7, fun hsp => by show Ctx.top _ (C.io i).b = _; rw [ht]; exact k8 hsp⟩
 · obtain ⟨k1, k2⟩ := hw.shp l x hl hx
   exact ⟨k1, e.shape _ _ k2⟩
 · obtain ⟨c', fz', k1, k2⟩ := hw.ity i T h0 hi hT
   exact ⟨c', fz', by show w'.heap[(C.io i).b]? = _; rw [hb.block _ (hw.ids i h0 hi).lt]; exact k1, by
    have ht : (C.row gb tp).top (C.io i).b = C.top (C.io i).b := by simp only [Ctx.row]; rw [aR (by have := (hw.ids i h0 hi).lt; omega)]
    show _ ∨ (_ ∧ _ ≤ Ctx.top _ (C.io i).b); rw [ht]; exact k2⟩
theorem wg9 : ∀ l : List (List UInt8), bR 1 ((l.map encStr).map AV.sc) = some ((l.map encStr).map AV.sc)
 | [] => rfl
 | z :: r => by
  have ih := wg9 r
  simp only [cF] at ih ⊢
  simp only [bR, ih]
  rfl
theorem kf9 {E : Env} {C : Ctx} {S : St} {w w' : World} (hw : WR E C S w) {gb : Nat} (h1 : w.heap.size ≤ gb) {cur : Array Value} {T : TypeId} {fz : Nat × Nat} {cap : Nat} {ks : List (List UInt8)} {xs : List Value} (hx : xs = ks.map encStr) (hg : w'.heap[gb]? = some (.cells cur T fz))
 (hc : cur.toList.take xs.length = xs) (hcap : xs.length ≤ cap) : VR (C.row gb xs.length) w' (.vec 0 1 (xs.map AV.sc)) (.slice (some ⟨gb, 0, none⟩) xs.length cap) := by
 have key := VR.vec (C := C.row gb xs.length) (w := w') 0 1 (xs.map AV.sc) (xs.map AV.sc) gb 0 cap (fun i => cur.getD i Go.undef) (by decide) (by simpa using hcap) (by rw [hx]; exact wg9 ks) (Array.getElem?_eq_some_iff.1 hg).1
  (fun l hl e => by have := (hw.mub l hl).2; have e : C.mu l = gb := e; omega)
  (by simp [Ctx.row])
  (fun i hi => by
   have hi : i < xs.length := by simpa using hi
   have hl : min xs.length cur.toList.length = xs.length := by rw [← eW, hc]
   have h5 : cur.toList.length = cur.size := jA
   rw [lD hg, aF]
   have : i < cur.size := by omega
   simp [this])
  (fun i x hix => by
   obtain ⟨v, hv, rfl⟩ := Option.map_eq_some_iff.1 (by rw [List.getElem?_map] at hix; exact hix)
   have hi := (List.getElem?_eq_some_iff.1 hv).1
   rw [← hc, List.getElem?_take_of_lt hi, Array.getElem?_toList] at hv
   have : cur.getD i Go.undef = v := by simp [Array.getD_eq_getD_getElem?, hv]
   simp only [this]
   exact .sc _)
  (fun h => by omega) (fun h => by omega) (fun h => by omega)
 simpa using key
noncomputable def nI (g : FuncId) (args : List AV) (S : St) : Option (AV × St) := match args with
 | [.fn (.func g') [] [.ptr bx 0]] => match S.shp.get bx, S.obj bx with
  | some _, some [.mp l] => match S.map l with
   | some es => bif Nat.beq g g' && Nat.ble es.length 1000000 then
    match sK es with
    | some ks => match pG ks with
     | [] => some (.sc (.slice none 0 0), S)
     | k :: r => some (.vec 0 1 ((k :: r).map fun s => .sc (encStr s)), S)
    | none => none
    else none
   | none => none
  | _, _ => none
 | _ => none
theorem wy5 {E : Env} {f g : FuncId} {kt : TypeId} (hkt : E.P.underlying kt = some .string) (hc : SortedC E.P f g kt) {args : List AV} {S : St} {r : AV} {S' : St} (h : nI g args S = some (r, S')) {C : Ctx} {w : World} {vs : Array Value} (hw : WR E C S w) (hl : LR C w args vs.toList) :
 Calls E.P f vs w (fun e w' => ∃ u C', e = .returned u ∧ WR E C' S' w' ∧ Ext C w C' w' ∧ VR C' w' r u) := by
 obtain ⟨vs⟩ := vs
 unfold nI at h
 split at h
 · rename_i g' bx
   split at h
   · rename_i sh l hsh hob
     split at h
     · rename_i es hes
       simp only [bB] at h
       split at h
       · rename_i hb
         simp only [aS] at hb
         have hg : g = g' := bA hb.1
         subst hg
         have hlen := bW hb.2
         split at h
         · rename_i ks hks
           match vs, hl with
           | [v], hl =>
           have hv := hl.head
           cases hv with
           | fn _ _ _ v1 v2 hl1 hr1 hl2 hr2 =>
           obtain rfl : v1 = #[] := Array.eq_empty_of_size_eq_zero hl1.symm
           match v2, hl2, hr2 with
           | ⟨[p]⟩, hl2, hr2 =>
           have hp : VR C w (.ptr bx 0) p := by simpa using hr2 0 (.ptr bx 0) rfl
           cases hp with
           | ptr _ _ hbx =>
           obtain ⟨hbs, _⟩ := hw.shp bx _ hbx hsh
           have hobx := hw.objs bx hbx
           rw [sB hob] at hobx
           obtain ⟨c, T, fz, hh, hlr, k3, k4, k5, _⟩ := hobx
           rw [hbs, cJ] at hlr
           obtain ⟨u0, hu0, hvu⟩ := hlr.get (i := 0) (x := .mp l) rfl
           have hcell : w.cell? ⟨C.mu bx, 0, none⟩ = some u0 := by
            rw [lD hh]
            rw [List.getElem?_take_of_lt (by simp)] at hu0
            simpa using hu0
           cases hvu with
           | mp _ hbl =>
           obtain ⟨_, ents, clock, hm, hR, hB⟩ := sC hw hbl hes
           obtain ⟨hk1, hk2⟩ := xm4 hks
           have hkeyAt : ∀ x ∈ ents.toList, ∃ s : List UInt8, x.key = encStr s ∧ s ∈ ks := fun x hx => by
            obtain ⟨y, hy⟩ := hR.key x hx
            have : x.key ∈ es.map (·.1) := List.mem_map.2 ⟨_, hy, rfl⟩
            rw [hk1] at this
            obtain ⟨s, h1, h2⟩ := List.mem_map.1 this
            exact ⟨s, h2.symm, h1⟩
           have hmax : (1000000 : Nat) ≤ maxLen := by decide
           have hrd : ∀ x ∈ ents.toList, ∃ s : List UInt8, x.key = encStr s ∧ s ∈ ks ∧ WideElems.rd (H := Unit) E.P kt (fun _ => some (.nil, [])) x = some (.string s, .nil) := fun x hx => by
            obtain ⟨s, h1, h2⟩ := hkeyAt x hx
            refine ⟨s, h1, h2, ?_⟩
            have hs : s.length ≤ maxLen := cK (hk2 s h2) hmax
            unfold WideElems.rd
            rw [h1]
            have hs' : (ByteArray.mk s.toArray).size ≤ maxLen := hs
            simp [Go.keyOf, hkt, mapKey, encStr, hs']
           have hel : ents.size ≤ 1000000 := by
            have h1 := hR.len
            have h2 : ents.toList.length = ents.size := jA
            omega
           have hfit : WideElems.Fit (H := Unit) E.P kt (fun _ => some (.nil, [])) ents clock := ⟨cK hel hmax, ⟨hB.1, hB.2, hR.nd'⟩, fun x hx => let ⟨_, _, _, h⟩ := hrd x hx; ⟨_, h⟩⟩
           have hown : w.ownsMap E.P kt (fun _ => some (.nil, [])) (C.mu l) ents.size (.map ((ents.toList.map (WideElems.rg (H := Unit) E.P kt (fun _ => some (.nil, [])))).foldr DataW.insert [])) := ⟨ents, clock, hm, hfit, aB _, rfl⟩
           have hperm : (Go.strKeys (.map ((ents.toList.map (WideElems.rg (H := Unit) E.P kt (fun _ => some (.nil, [])))).foldr DataW.insert []))).Perm ks := by
            have h1 : (Go.strKeys (.map ((ents.toList.map (WideElems.rg (H := Unit) E.P kt (fun _ => some (.nil, [])))).foldr DataW.insert []))).Perm ((ents.toList.map (WideElems.rg (H := Unit) E.P kt (fun _ => some (.nil, [])))).map fun p => Go.strOf p.1) := (sorted_perm _).map _
            refine h1.trans ?_
            rw [iJ]
            have h2 : (ents.toList.map (·.key)).Perm (ks.map encStr) := by
             rw [← hk1]
             refine (List.perm_ext_iff_of_nodup hR.nd' hR.nd).2 fun a => ?_
             constructor
             · intro ha
               obtain ⟨e, h3, rfl⟩ := List.mem_map.1 ha
               obtain ⟨y, hy⟩ := hR.key e h3
               exact List.mem_map.2 ⟨_, hy, rfl⟩
             · intro ha
               obtain ⟨⟨k, x⟩, h3, rfl⟩ := List.mem_map.1 ha
               obtain ⟨e, h4, h5, _⟩ := hR.val k x h3
               exact List.mem_map.2 ⟨e, h4, h5⟩
            have h3 := h2.map (fun v => match v with | .string s => s.data.toList | _ => [])
            rw [iJ, iJ] at h3
            have e1 : ents.toList.map ((fun p : Lit × DataW Unit => Go.strOf p.1) ∘ WideElems.rg (H := Unit) E.P kt (fun _ => some (.nil, []))) = ents.toList.map ((fun v => match v with | .string s => s.data.toList | _ => []) ∘ fun x : MapEntry => x.key) := rR (fun x hx => by
             obtain ⟨s, h4, _, h5⟩ := hrd x hx
             simp only [Function.comp_apply, WideElems.rg_of h5, h4]
             simp [Go.strOf])
            have e2 : ks.map ((fun v => match v with | .string s => s.data.toList | _ => []) ∘ encStr) = ks := by
             refine (rR (g := id) (fun x _ => ?_)).trans (List.map_id _)
             simp []
            rw [e1]
            rw [e2] at h3
            exact h3
           have hsz : Maps.size (.map ((ents.toList.map (WideElems.rg (H := Unit) E.P kt (fun _ => some (.nil, [])))).foldr DataW.insert [])) = ents.size := by
            show List.length _ = _
            rw [(sorted_perm _).length_eq, eE, jA]
           have key := hc (C.mu bx) (C.mu l) ents.size _ (fun _ => some (.nil, [])) w (hw.mub bx hbx).2 hcell hown (by rw [hsz]; omega) (by rw [hsz]; omega)
           rw [hbs] at *
           refine key.mono ?_
           rintro e w' ⟨v, ss, rfl, hp1, hrow, hnil, hbel⟩
           rw [xj0 (hp1.trans hperm)] at hrow
           have hlen2 : ss.length = (pG ks).length := by rw [(hp1.trans hperm).length_eq, (vD ks).length_eq]
           split at h
           · rename_i hs
             simp only [aI, aJ] at h
             obtain ⟨rfl, rfl⟩ := h
             have : ss = [] := oO (by rw [hlen2, hs]; rfl)
             rw [hnil.2 this]
             exact ⟨_, C, rfl, hw.later hbel, Ext.later hw hbel, .sc _⟩
           · rename_i k r' hs
             simp only [aI, aJ] at h
             obtain ⟨rfl, rfl⟩ := h
             obtain ⟨_, hrow2⟩ := hrow
             rcases hrow2 with ⟨hv0, hz⟩ | ⟨gb, cap, cur, rfl, hbase, hgb, r1, r2, r3, r4⟩
             · have := hnil.1 hv0
               rw [this, hs] at hlen2
               simp at hlen2
             · rw [hs] at r4 hlen2
               obtain ⟨kw, ke⟩ := hw.laterRow hbel (gb := gb) (tp := (k :: r').length) hbase
               have key := kf9 (ks := k :: r') (xs := (k :: r').map encStr) (cap := cap) (C := C) hw hbase rfl hgb (by rw [eE, ← hlen2]; rw [Nat.mul_one] at r4; exact r4) (by rw [eE, ← hlen2]; exact r1)
               rw [eE, iJ] at key
               refine ⟨_, _, rfl, kw, ke, ?_⟩
               rw [hlen2]
               exact key
         · cases h
       · cases h
     · cases h
   · cases h
 · cases h
theorem wl6 {g : FuncId} {args : List AV} {S : St} {r : AV} {S' : St} (h : nI g args S = some (r, S')) : Evo S S' := by
 unfold nI at h
 split at h
 · split at h
   · split at h
     · simp only [bB] at h
       split at h
       · split at h
         · split at h
           · simp only [aI, aJ] at h
             obtain ⟨_, rfl⟩ := h
             exact Evo.refl _
           · simp only [aI, aJ] at h
             obtain ⟨_, rfl⟩ := h
             exact Evo.refl _
         · cases h
       · cases h
     · cases h
   · cases h
 · cases h
theorem wl5 {g : FuncId} {D : Nat → Prop} {A X : St} {args : List AV} {r : AV} {A' : St} (k : Frm D A X) (h : nI g args A = some (r, A')) : dX D A X r A' (nI g args X) := by
 unfold nI at h ⊢
 split at h
 · rename_i g' bx
   split at h
   · rename_i sh l hsh hob
     obtain ⟨hd, hx⟩ := k.objc hob
     have hsx : X.shp.get bx = some sh := by rw [k.shp bx hd]; exact hsh
     simp only [hsx, hx]
     split at h
     · rename_i es hes
       obtain ⟨hd2, hx2⟩ := k.mapc hes
       simp only [hx2]
       simp only [bB] at h ⊢
       split at h
       · rename_i hb
         rw [bN hb]
         split at h
         · rename_i ks hks
           split at h
           · rename_i hs
             simp only [aI, aJ] at h
             obtain ⟨rfl, rfl⟩ := h
             exact ⟨X, by simp only [], Stp.refl k⟩
           · rename_i k' r' hs
             simp only [aI, aJ] at h
             obtain ⟨rfl, rfl⟩ := h
             exact ⟨X, by simp only [], Stp.refl k⟩
         · cases h
       · cases h
     · cases h
   · cases h
 · cases h
noncomputable def tF (S : St) : AV → Option (List AV)
 | .sc (.slice none 0 0) => some []
 | .vec _ _ xs => some xs
 | .osl l sz off len _ => bif Nat.beq sz 1 then S.oslElems false l 1 off len else none
 | _ => none
noncomputable def rE : List AV → Option (List ByteArray)
 | [] => some []
 | .sc (.string s) :: r => (rE r).map (s :: ·)
 | _ => none
theorem wc4 : ∀ {l : List AV} {ss : List ByteArray}, rE l = some ss → l = ss.map fun s => .sc (.string s)
 | [], ss, h => by simp [rE] at h; subst h; rfl
 | x :: r, ss, h => by
  unfold rE at h
  split at h
  · rename_i e; cases e
  · rename_i s r' e
    simp only [List.cons.injEq] at e
    obtain ⟨rfl, rfl⟩ := e
    simp only [dR] at h
    obtain ⟨ss', h1, rfl⟩ := h
    simp [wc4 h1]
  · cases h
noncomputable def oL (args : List AV) (S : St) : Option (AV × St) := match args with
 | [x, .sc (.string sep)] => match (tF S x).bind rE with
  | some ss => bif Nat.ble ss.length 1000000 && Nat.ble (Lib.join (ss.map (·.data.toList)) sep.data.toList).length 1000000 then
   some (.sc (.string ⟨(Lib.join (ss.map (·.data.toList)) sep.data.toList).toArray⟩), S)
   else none
  | none => none
 | _ => none
noncomputable def JoinC (P : Program) (f : FuncId) : Prop :=
 (∀ (a : Option Addr) (c : Nat) (sep : ByteArray) (w : World), Calls P f #[.slice a 0 c, .string sep] w fun e w' => e = .returned (.string ⟨#[]⟩) ∧ w' = w) ∧
 ∀ (bk o c : Nat) (xs : List ByteArray) (sep : ByteArray) (w : World), (∀ (j : Nat) x, xs[j]? = some x → w.cell? ⟨bk, o + j, none⟩ = some (.string x)) → bk < w.heap.size → xs.length ≤ 140737488355328 → xs.length ≤ c →
  (Lib.join (xs.map (·.data.toList)) sep.data.toList).length ≤ 140737488355328 →
  Calls P f #[.slice (some ⟨bk, o, none⟩) xs.length c, .string sep] w fun e w' => e = .returned (.string ⟨(Lib.join (xs.map (·.data.toList)) sep.data.toList).toArray⟩) ∧ Below w.heap.size w w'
theorem xb3 : ∀ ss : List ByteArray, bR 1 (ss.map fun s => AV.sc (.string s)) = some (ss.map fun s => .sc (.string s))
 | [] => rfl
 | s :: r => by
  have ih := xb3 r
  simp only [cF]
  simp [bR, ih, cellsOf, cB]
theorem flatJ {sz : Nat} {ss : List ByteArray} {fl : List AV} (h : bR sz (ss.map fun s => AV.sc (.string s)) = some fl) (hne : ss ≠ []) : sz = 1 ∧ fl = ss.map fun s => .sc (.string s) := by
 have h1 : sz = 1 := by
  cases ss with
  | nil => exact absurd rfl hne
  | cons s r =>
   simp only [cF] at h
   unfold bR at h
   split at h
   · rename_i cs r' hc hr
     split at h
     · rename_i hb
       have : cs = [.sc (.string s)] := by
        have : cellsOf (.sc (.string s)) = some [.sc (.string s)] := rfl
        rw [this] at hc
        exact (cZ hc).symm
       rw [this] at hb
       exact hb.1.symm
     · cases h
   · cases h
 subst h1
 rw [xb3] at h
 exact ⟨rfl, (cZ h).symm⟩
theorem ko1 (sep : ByteArray) : Lib.join (([] : List ByteArray).map (·.data.toList)) sep.data.toList = [] := Lib.join_nil _
theorem jb7 {E : Env} {f : FuncId} (hc : JoinC E.P f) {args : List AV} {S : St} {r : AV} {S' : St} (h : oL args S = some (r, S')) {C : Ctx} {w : World} {vs : Array Value} (hw : WR E C S w) (hl : LR C w args vs.toList) :
 Calls E.P f vs w (fun e w' => ∃ u C', e = .returned u ∧ WR E C' S' w' ∧ Ext C w C' w' ∧ VR C' w' r u) := by
 obtain ⟨vs⟩ := vs
 unfold oL at h
 split at h
 · rename_i x sep
   split at h
   · rename_i ss hss
     simp only [bB] at h
     split at h
     · rename_i hb
       simp only [aS] at hb
       have b1 := bW hb.1
       have b2 := bW hb.2
       simp only [aI, aJ] at h
       obtain ⟨rfl, rfl⟩ := h
       match vs, hl with
       | [v, v2], hl =>
       have h2 := hl.tail.head.sc_inv
       subst h2
       have hv := hl.head
       obtain ⟨xs, hxs, hst⟩ := Option.bind_eq_some_iff.1 hss
       have hxe := wc4 hst
       have fin0 : ∀ (a : Option Addr) (c : Nat), ss = [] → Calls E.P f #[.slice a 0 c, .string sep] w (fun e w' => ∃ u C', e = .returned u ∧ WR E C' S w' ∧ Ext C w C' w' ∧ VR C' w' (.sc (.string ⟨(Lib.join (ss.map (·.data.toList)) sep.data.toList).toArray⟩)) u) := fun a c e0 => by
        refine (hc.1 a c sep w).mono ?_
        rintro e w' ⟨rfl, rfl⟩
        refine ⟨_, C, rfl, hw, Ext.refl _ _, ?_⟩
        rw [e0, ko1]
        exact .sc _
       have fin1 : ∀ (bk o c : Nat), (∀ (j : Nat) x, ss[j]? = some x → w.cell? ⟨bk, o + j, none⟩ = some (.string x)) → bk < w.heap.size → ss.length ≤ c → Calls E.P f #[.slice (some ⟨bk, o, none⟩) ss.length c, .string sep] w (fun e w' => ∃ u C', e = .returned u ∧ WR E C' S w' ∧ Ext C w C' w' ∧ VR C' w' (.sc (.string ⟨(Lib.join (ss.map (·.data.toList)) sep.data.toList).toArray⟩)) u) := fun bk o c h1 h2 h3 => by
        refine (hc.2 bk o c ss sep w h1 h2 (by omega) h3 (by omega)).mono ?_
        rintro e w' ⟨rfl, hbel⟩
        exact ⟨_, C, rfl, hw.later hbel, Ext.later hw hbel, .sc _⟩
       unfold tF at hxs
       split at hxs
       · simp only [aI] at hxs
         subst hxs
         have : ss = [] := by cases ss with | nil => rfl | cons a b => simp at hxe
         rw [hv.sc_inv]
         exact fin0 none 0 this
       · rename_i id sz ys _
         simp only [aI] at hxs
         subst hxs
         cases hv with
         | vec0 _ a c =>
          have : ss = [] := by cases ss with | nil => rfl | cons a b => simp at hxe
          exact fin0 _ _ this
         | vec _ _ _ fl b o cap u hs hlc hfl hbh hf ht hcell hr hid hx1 hx2 =>
          by_cases hne : ss = []
          · have h0 : ys = [] := by rw [hxe, hne]; rfl
            subst h0
            exact fin0 _ _ hne
          · rw [hxe] at hfl
            obtain ⟨rfl, rfl⟩ := flatJ hfl hne
            have hlen : ys.length = ss.length := by rw [hxe, eE]
            rw [hlen] at hlc ⊢
            refine fin1 b o cap (fun j x hx => ?_) hbh hlc
            have hj : j < ss.length := (List.getElem?_eq_some_iff.1 hx).1
            rw [hcell j (by simpa using hj)]
            have := (hr j (.sc (.string x)) (by rw [List.getElem?_map, hx]; rfl)).sc_inv
            rw [this]
       · rename_i l sz off len room _
         simp only [bB] at hxs
         split at hxs
         · rename_i hsz
           have hsz := bA hsz
           subst hsz
           obtain ⟨cs, k1, k2, k3, k4⟩ := xl3 hxs
           rw [Nat.mul_one] at k2 k3 k4
           obtain ⟨g1, g2⟩ := uB false 1 (.inr rfl) len _ (by rw [k2, Nat.mul_one]) k3
           rw [← k4] at g1 g2
           have hlen : ss.length = len := by rw [← g2, hxe, eE]
           rw [hxe, xb3] at g1
           have g1 := cZ g1
           cases hv with
           | osl _ _ _ _ _ a cap hbn hs' hlr hrc hro hcl ha =>
            by_cases hne : ss = []
            · have h0 : len = 0 := by rw [← hlen, hne]; rfl
              subst h0
              exact fin0 _ _ hne
            · have hpos : 0 < len := by rw [← hlen]; exact List.length_pos_iff.2 hne
              obtain rfl := ha (by omega)
              obtain ⟨us, q1, q2⟩ := uF (uO hw hbn k1) off len
              rw [← hlen]
              refine fin1 _ _ _ (fun j x hx => ?_) (hw.mub l hbn).2 (by omega)
              have hx' : ((cs.drop off).take len)[j]? = some (.sc (.string x)) := by rw [← g1, List.getElem?_map, hx]; rfl
              obtain ⟨v, h3, h4⟩ := q1.get hx'
              have := q2 j v h3
              rw [h4.sc_inv] at this
              exact this
         · cases hxs
       · cases hxs
     · cases h
   · cases h
 · cases h
theorem ko3 {args : List AV} {S : St} {r : AV} {S' : St} (h : oL args S = some (r, S')) : Evo S S' := by
 unfold oL at h
 split at h
 · split at h
   · simp only [bB] at h
     split at h
     · simp only [aI, aJ] at h
       obtain ⟨_, rfl⟩ := h
       exact Evo.refl _
     · cases h
   · cases h
 · cases h
theorem ko2 {D : Nat → Prop} {A X : St} {args : List AV} {r : AV} {A' : St} (k : Frm D A X) (h : oL args A = some (r, A')) : dX D A X r A' (oL args X) := by
 unfold oL at h ⊢
 split at h
 · rename_i x sep
   split at h
   · rename_i ss hss
     obtain ⟨xs, hxs, hst⟩ := Option.bind_eq_some_iff.1 hss
     have hX : tF X x = some xs := by
      unfold tF at hxs ⊢
      split at hxs
      · exact hxs
      · exact hxs
      · simp only [bB] at hxs ⊢
        split at hxs
        · rename_i hb
          rw [bN hb]
          exact wm4 k hxs
        · cases hxs
      · cases hxs
     have hss' : (tF X x).bind rE = some ss := by rw [hX]; exact hst
     simp only [hss']
     simp only [bB] at h ⊢
     split at h
     · rename_i hb
       rw [bN hb]
       simp only [aI, aJ] at h
       obtain ⟨rfl, rfl⟩ := h
       exact ⟨X, rfl, Stp.refl k⟩
     · cases h
   · cases h
 · cases h
end Go.Abs
