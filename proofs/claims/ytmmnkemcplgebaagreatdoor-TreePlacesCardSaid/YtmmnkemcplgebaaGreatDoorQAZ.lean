/-
  Contract: maps.Copy of sets of texts.
-/
import Derived.Test.YtmmnkemcplgebaaGreatDoorQAY
import Derived.Lib.SlMapMerge
section
section
set_option linter.unusedSimpArgs false
set_option linter.unusedVariables false
namespace Go.Abs
open Go.RowKit Go.MapKept
open Go.Proofs (encStr)
open Go.WideShapes (sorted_perm)
noncomputable def trueKeys : List (Value × AV) → Option (List (List UInt8))
 | [] => some []
 | (.string s, .sc (.bool true)) :: r => bif Nat.ble s.size 1000000 then (trueKeys r).map (s.data.toList :: ·) else none
 | _ => none
noncomputable def setL (ks : List (List UInt8)) : List (Value × AV) := ks.map fun s => (encStr s, .sc (.bool true))
theorem trueKeys_eq : ∀ {es : List (Value × AV)} {ks : List (List UInt8)}, trueKeys es = some ks → es = setL ks ∧ ∀ k ∈ ks, k.length ≤ 1000000
 | [], ks, h => by simp [trueKeys] at h; subst h; exact ⟨rfl, fun k hk => by simp at hk⟩
 | e :: r, ks, h => by
  unfold trueKeys at h
  split at h
  · rename_i e'; cases e'
  · rename_i s r' e'
    injection e' with e1 e2
    subst e1; subst e2
    simp only [cond_eq_ite] at h
    split at h
    · rename_i hs
      simp only [Option.map_eq_some_iff] at h
      obtain ⟨ks', h1, rfl⟩ := h
      obtain ⟨k1, k2⟩ := trueKeys_eq h1
      have hs' := Nat.le_of_ble_eq_true hs
      refine ⟨by rw [k1]; rfl, fun k hk => ?_⟩
      rcases List.mem_cons.1 hk with rfl | hk
      · rw [Array.length_toList]; exact hs'
      · exact k2 k hk
    · cases h
  · cases h
noncomputable def unionS (ks js : List (List UInt8)) : List (List UInt8) := ks ++ js.filter fun s => !ks.any fun t => t == s
theorem mem_unionS {ks js : List (List UInt8)} {s : List UInt8} : s ∈ unionS ks js ↔ s ∈ ks ∨ s ∈ js := by
 simp only [unionS, List.mem_append, List.mem_filter, Bool.not_eq_true', List.any_eq_false, beq_iff_eq]
 constructor
 · rintro (h | ⟨h, _⟩)
   · exact .inl h
   · exact .inr h
 · rintro (h | h)
   · exact .inl h
   · by_cases hk : s ∈ ks
     · exact .inl hk
     · exact .inr ⟨h, fun t ht e => hk (e ▸ ht)⟩
theorem nodup_unionS {ks js : List (List UInt8)} (h1 : ks.Nodup) (h2 : js.Nodup) : (unionS ks js).Nodup := by
 refine List.nodup_append.2 ⟨h1, h2.filter _, fun a ha b hb e => ?_⟩
 subst e
 simp only [List.mem_filter, Bool.not_eq_true', List.any_eq_false, beq_iff_eq] at hb
 exact hb.2 a ha rfl
noncomputable def copyX (args : List AV) (S : St) : Option (AV × St) := match args with
 | [.mp l, .mp m] => bif Nat.beq l m then none else match S.map l, S.map m with
  | some es, some fs => match trueKeys es, trueKeys fs with
   | some ks, some js => bif Nat.ble ks.length 1000000 && Nat.ble js.length 1000000 then some (.tup [], S.put l (.mp (setL (unionS ks js)))) else none
   | _, _ => none
  | _, _ => none
 | _ => none
def CopyC (P : Program) (f : FuncId) (kt : TypeId) : Prop := ∀ (R : Value → Option (DataW Unit × List MemPlace)) (bd bs nd ns : Nat) (Dd Ds : DataW Unit) (w : World), w.ownsMap P kt R bd nd Dd → w.ownsMap P kt R bs ns Ds → bd ≠ bs → nd + Maps.size Ds ≤ maxLen →
 Calls P f #[.map (some bd), .map (some bs)] w fun e w' => e = .returned (.tuple #[]) ∧ w'.ownsMap P kt R bd (nd + Maps.size Ds) (Lib.mergeD Dd Ds) ∧ w.grownBy w' (some bd)
def RTrue : Value → Option (DataW Unit × List MemPlace)
 | .bool true => some (.lit (.bool true), [])
 | _ => none
theorem RTrue_inv {v : Value} {z : DataW Unit × List MemPlace} (h : RTrue v = some z) : v = .bool true := by
 unfold RTrue at h
 split at h
 · rfl
 · cases h
structure SetAt (P : Program) (kt : TypeId) (ents : Array MapEntry) (has : List UInt8 → Prop) : Prop where
 rd : ∀ x ∈ ents.toList, ∃ s : List UInt8, x.key = encStr s ∧ x.val = .bool true ∧ WideElems.rd (H := Unit) P kt RTrue x = some (.string s, .lit (.bool true))
 has : ∀ s, has s ↔ ∃ x ∈ ents.toList, x.key = encStr s
theorem encStr_inj {s t : List UInt8} (h : encStr s = encStr t) : s = t := by
 simp only [encStr, Value.string.injEq, ByteArray.mk.injEq] at h
 simpa using congrArg Array.toList h
theorem has_of {P : Program} {kt : TypeId} {ents : Array MapEntry} {D : DataW Unit} (hrd : ∀ x ∈ ents.toList, ∃ s : List UInt8, x.key = encStr s ∧ x.val = .bool true ∧ WideElems.rd (H := Unit) P kt RTrue x = some (.string s, .lit (.bool true)))
 (hD : D = .map ((ents.toList.map (WideElems.rg P kt RTrue)).foldr DataW.insert [])) (t : List UInt8) : Maps.has D (.string t) = true ↔ ∃ x ∈ ents.toList, x.key = encStr t := by
 subst hD
 rw [Maps.has_eq, List.any_eq_true]
 constructor
 · rintro ⟨p, hp, he⟩
   rw [(sorted_perm _).mem_iff] at hp
   obtain ⟨x, hx, rfl⟩ := List.mem_map.1 hp
   obtain ⟨s, h1, _, h2⟩ := hrd x hx
   rw [WideElems.rg_of h2] at he
   have : s = t := by simpa [Lit.sameKey] using he
   exact ⟨x, hx, by rw [h1, this]⟩
 · rintro ⟨x, hx, he⟩
   obtain ⟨s, h1, _, h2⟩ := hrd x hx
   have : s = t := encStr_inj (h1.symm.trans he)
   subst this
   exact ⟨_, (sorted_perm _).mem_iff.2 (List.mem_map.2 ⟨x, hx, rfl⟩), by rw [WideElems.rg_of h2]; simp [Lit.sameKey]⟩
theorem rd_true {P : Program} {kt : TypeId} (hkt : P.underlying kt = some .string) {x : MapEntry} {s : List UInt8} (hs : s.length ≤ maxLen) (h1 : x.key = encStr s) (h2 : x.val = .bool true) : WideElems.rd (H := Unit) P kt RTrue x = some (.string s, .lit (.bool true)) := by
 have hs' : (ByteArray.mk s.toArray).size ≤ maxLen := hs
 unfold WideElems.rd
 rw [h1, h2]
 simp [Go.keyOf, hkt, mapKey, encStr, hs', RTrue]
theorem rd_inv {P : Program} {kt : TypeId} (hkt : P.underlying kt = some .string) {x : MapEntry} {y : Lit × DataW Unit} (h : WideElems.rd (H := Unit) P kt RTrue x = some y) : ∃ s : List UInt8, x.key = encStr s ∧ x.val = .bool true ∧ WideElems.rd (H := Unit) P kt RTrue x = some (.string s, .lit (.bool true)) := by
 obtain ⟨z, hz, _⟩ := WideElems.rd_val h
 have hv := RTrue_inv hz
 have hk := WideElems.rd_key h
 simp only [Go.keyOf, hkt] at hk
 unfold mapKey at hk
 rw [hkt] at hk
 split at hk
 · rename_i e1 e2; cases e1
 · rename_i e1 e2; cases e1
 · rename_i s e1 e2
   split at hk
   · rename_i hs
     have hkk : x.key = encStr s.data.toList := by rw [e2]
     exact ⟨s.data.toList, hkk, hv, rd_true hkt (by rw [Array.length_toList]; exact hs) hkk hv⟩
   · cases hk
 · cases hk
theorem set_reads {P : Program} {kt : TypeId} (hkt : P.underlying kt = some .string) {C : Ctx} {w : World} {ks : List (List UInt8)} (hks : ∀ k ∈ ks, k.length ≤ 1000000) {ents : Array MapEntry} (hR : MapR C w (setL ks) ents.toList) :
 (∀ x ∈ ents.toList, ∃ s : List UInt8, x.key = encStr s ∧ x.val = .bool true ∧ WideElems.rd (H := Unit) P kt RTrue x = some (.string s, .lit (.bool true))) ∧ (∀ s, s ∈ ks ↔ ∃ x ∈ ents.toList, x.key = encStr s) ∧ ks.Nodup := by
 have hmax : (1000000 : Nat) ≤ maxLen := by decide
 have inv : ∀ x ∈ ents.toList, ∃ s ∈ ks, x.key = encStr s ∧ x.val = .bool true := fun x hx => by
  obtain ⟨y, hy⟩ := hR.key x hx
  obtain ⟨s, hs, e⟩ := List.mem_map.1 hy
  simp only [Prod.mk.injEq] at e
  obtain ⟨e', h1, h2, h3⟩ := hR.val _ _ hy
  have : e' = x := nodup_key hR.nd' h1 hx h2
  subst this
  rw [← e.2] at h3
  exact ⟨s, hs, e.1.symm, h3.sc_inv⟩
 refine ⟨fun x hx => ?_, fun s => ⟨fun hs => ?_, ?_⟩, ?_⟩
 · obtain ⟨s, hs, h1, h2⟩ := inv x hx
   exact ⟨s, h1, h2, rd_true hkt (Nat.le_trans (hks s hs) hmax) h1 h2⟩
 · obtain ⟨e, h1, h2, _⟩ := hR.val (encStr s) _ (List.mem_map.2 ⟨s, hs, rfl⟩)
   exact ⟨e, h1, h2⟩
 · rintro ⟨x, hx, he⟩
   obtain ⟨t, ht, h1, _⟩ := inv x hx
   rw [encStr_inj (he.symm.trans h1)]
   exact ht
 · have := hR.nd
   simp only [setL, List.map_map] at this
   unfold List.Nodup at this ⊢
   rw [List.pairwise_map] at this
   exact this.imp (fun h e => h (by rw [e]))
theorem set_mapR {C : Ctx} {w : World} {ks : List (List UInt8)} (hn : ks.Nodup) {ents : Array MapEntry} (hnd : (ents.toList.map (·.key)).Nodup)
 (h1 : ∀ x ∈ ents.toList, ∃ s : List UInt8, x.key = encStr s ∧ x.val = .bool true) (h2 : ∀ s, s ∈ ks ↔ ∃ x ∈ ents.toList, x.key = encStr s) : MapR C w (setL ks) ents.toList := by
 have hn2 : ((setL ks).map (·.1)).Nodup := by
  simp only [setL, List.map_map]
  unfold List.Nodup at hn ⊢
  rw [List.pairwise_map]
  exact hn.imp (fun h e => h (encStr_inj e))
 have hmem : ∀ v, v ∈ (setL ks).map (·.1) ↔ v ∈ ents.toList.map (·.key) := fun v => by
  constructor
  · intro hv
    simp only [setL, List.map_map, List.mem_map, Function.comp_apply] at hv
    obtain ⟨s, hs, rfl⟩ := hv
    obtain ⟨x, hx, he⟩ := (h2 s).1 hs
    exact List.mem_map.2 ⟨x, hx, he⟩
  · intro hv
    obtain ⟨x, hx, rfl⟩ := List.mem_map.1 hv
    obtain ⟨s, e, _⟩ := h1 x hx
    simp only [setL, List.map_map, List.mem_map, Function.comp_apply]
    exact ⟨s, (h2 s).2 ⟨x, hx, e⟩, e.symm⟩
 have hp := (List.perm_ext_iff_of_nodup hn2 hnd).2 hmem
 refine ⟨by have := hp.length_eq; simpa using this, hn2, hnd, fun x hx => ?_, fun k y hy => ?_⟩
 · obtain ⟨s, e, _⟩ := h1 x hx
   exact ⟨_, List.mem_map.2 ⟨s, (h2 s).2 ⟨x, hx, e⟩, by rw [e]⟩⟩
 · obtain ⟨s, hs, e⟩ := List.mem_map.1 hy
   simp only [Prod.mk.injEq] at e
   obtain ⟨rfl, rfl⟩ := e
   obtain ⟨x, hx, he⟩ := (h2 s).1 hs
   obtain ⟨_, _, hv⟩ := h1 x hx
   exact ⟨x, hx, he, by rw [hv]; exact .sc _⟩
theorem isKeyS {P : Program} {kt : TypeId} {ents : Array MapEntry} (hrd : ∀ x ∈ ents.toList, ∃ s : List UInt8, x.key = encStr s ∧ x.val = .bool true ∧ WideElems.rd (H := Unit) P kt RTrue x = some (.string s, .lit (.bool true))) :
 ∀ p ∈ (ents.toList.map (WideElems.rg P kt RTrue)).foldr DataW.insert [], WideAt.IsKeyLit p.1 := fun p hp => by
 rw [(sorted_perm _).mem_iff] at hp
 obtain ⟨x, hx, rfl⟩ := List.mem_map.1 hp
 obtain ⟨s, _, _, h2⟩ := hrd x hx
 rw [WideElems.rg_of h2]
 trivial
theorem copyX_ok {E : Env} {f : FuncId} {kt : TypeId} (hkt : E.P.underlying kt = some .string) (hc : CopyC E.P f kt) {args : List AV} {S : St} {r : AV} {S' : St} (h : copyX args S = some (r, S')) {C : Ctx} {w : World} {vs : Array Value} (hw : WR E C S w) (hl : LR C w args vs.toList) :
 Calls E.P f vs w (fun e w' => ∃ u C', e = .returned u ∧ WR E C' S' w' ∧ Ext C w C' w' ∧ VR C' w' r u) := by
 obtain ⟨vs⟩ := vs
 unfold copyX at h
 split at h
 · rename_i l m
   simp only [cond_eq_ite] at h
   split at h
   · cases h
   · rename_i hlm
     split at h
     · rename_i es fs hes hfs
       split at h
       · rename_i ks js hks hjs
         split at h
         · rename_i hb
           simp only [Bool.and_eq_true] at hb
           have b1 := Nat.le_of_ble_eq_true hb.1
           have b2 := Nat.le_of_ble_eq_true hb.2
           simp only [Option.some.injEq, Prod.mk.injEq] at h
           obtain ⟨rfl, rfl⟩ := h
           obtain ⟨rfl, hk2⟩ := trueKeys_eq hks
           obtain ⟨rfl, hj2⟩ := trueKeys_eq hjs
           match vs, hl with
           | [v1, v2], hl =>
           have hv1 := hl.head
           have hv2 := hl.tail.head
           cases hv1 with
           | mp _ hbl =>
           cases hv2 with
           | mp _ hbm =>
           obtain ⟨ha1, ents1, c1, hh1, hR1, hB1⟩ := map_obj hw hbl hes
           obtain ⟨ha2, ents2, c2, hh2, hR2, hB2⟩ := map_obj hw hbm hfs
           have hne : C.mu l ≠ C.mu m := fun e => hlm (by rw [hw.inj l m hbl hbm ha1 ha2 e]; exact Nat.beq_refl _)
           obtain ⟨r1, m1, n1⟩ := set_reads (P := E.P) hkt hk2 hR1
           obtain ⟨r2, m2, n2⟩ := set_reads (P := E.P) hkt hj2 hR2
           have hmax : (2000000 : Nat) ≤ maxLen := by decide
           have l1 : ents1.size ≤ 1000000 := by
            have h1 := hR1.len
            simp only [setL, List.length_map, Array.length_toList] at h1
            omega
           have l2 : ents2.size ≤ 1000000 := by
            have h1 := hR2.len
            simp only [setL, List.length_map, Array.length_toList] at h1
            omega
           have own1 : w.ownsMap E.P kt RTrue (C.mu l) ents1.size (.map ((ents1.toList.map (WideElems.rg (H := Unit) E.P kt RTrue)).foldr DataW.insert [])) :=
            ⟨ents1, c1, hh1, ⟨by omega, ⟨hB1.1, hB1.2, hR1.nd'⟩, fun x hx => let ⟨_, _, _, h⟩ := r1 x hx; ⟨_, h⟩⟩, Nat.le_refl _, rfl⟩
           have own2 : w.ownsMap E.P kt RTrue (C.mu m) ents2.size (.map ((ents2.toList.map (WideElems.rg (H := Unit) E.P kt RTrue)).foldr DataW.insert [])) :=
            ⟨ents2, c2, hh2, ⟨by omega, ⟨hB2.1, hB2.2, hR2.nd'⟩, fun x hx => let ⟨_, _, _, h⟩ := r2 x hx; ⟨_, h⟩⟩, Nat.le_refl _, rfl⟩
           have hsz : Maps.size (.map ((ents2.toList.map (WideElems.rg (H := Unit) E.P kt RTrue)).foldr DataW.insert [])) = ents2.size := by
            show List.length _ = _
            rw [(sorted_perm _).length_eq, List.length_map, Array.length_toList]
           have key := hc RTrue (C.mu l) (C.mu m) _ _ _ _ w own1 own2 hne (by rw [hsz]; omega)
           refine key.mono ?_
           rintro e w' ⟨rfl, ⟨ents', c', hh', fit', _, hD'⟩, hg⟩
           have r' : ∀ x ∈ ents'.toList, ∃ s : List UInt8, x.key = encStr s ∧ x.val = .bool true ∧ WideElems.rd (H := Unit) E.P kt RTrue x = some (.string s, .lit (.bool true)) := fun x hx => by
            obtain ⟨y, hy⟩ := fit'.reads x hx
            exact rd_inv hkt hy
           have hmem : ∀ s, s ∈ unionS ks js ↔ ∃ x ∈ ents'.toList, x.key = encStr s := fun s => by
            rw [mem_unionS, m1, m2, ← has_of r1 rfl, ← has_of r2 rfl, ← has_of r' hD']
            unfold Lib.mergeD
            rw [Maps.has_foldPut _ _ _ ⟨_, rfl⟩ (isKeyS r2), Bool.or_eq_true]
            exact Iff.rfl
           have hR' : MapR C w (setL (unionS ks js)) ents'.toList := set_mapR (nodup_unionS n1 n2) fit'.stamped.2.2 (fun x hx => let ⟨s, h1, h2, _⟩ := r' x hx; ⟨s, h1, h2⟩) hmem
           obtain ⟨kw, ke⟩ := put_map hw hbl ha1 hh1 hR' ⟨fit'.stamped.1, fit'.stamped.2.1⟩
           have hlt : C.mu l < w.heap.size := (hw.mub l hbl).2
           have hbel : Below ({ w with heap := w.heap.setIfInBounds (C.mu l) (.map ents' c') } : World).heap.size { w with heap := w.heap.setIfInBounds (C.mu l) (.map ents' c') } w' := by
            refine ⟨hg.os, hg.tape, hg.output, by simpa using hg.size, fun k hk => ?_⟩
            have hk' : k < w.heap.size := by simpa using hk
            show w'.heap[k]? = (w.heap.setIfInBounds (C.mu l) (.map ents' c'))[k]?
            by_cases he : k = C.mu l
            · subst he
              rw [hh', Array.getElem?_setIfInBounds]
              simp [hlt]
            · rw [hg.block k hk' (fun e => he (Option.some.inj e)), Array.getElem?_setIfInBounds, if_neg (Ne.symm he)]
           exact ⟨_, C, rfl, kw.later hbel, ke.trans (Ext.later kw hbel), .tup _ _ rfl fun i x hx => by simp at hx⟩
         · cases h
       · cases h
     · cases h
 · cases h
theorem copyX_evo {args : List AV} {S : St} {r : AV} {S' : St} (h : copyX args S = some (r, S')) : Evo S S' := by
 unfold copyX at h
 simp only [cond_eq_ite] at h
 split at h
 · split at h
   · cases h
   · split at h
     · split at h
       · split at h
         · simp only [Option.some.injEq, Prod.mk.injEq] at h
           obtain ⟨_, rfl⟩ := h
           exact Evo.put _ _ _
         · cases h
       · cases h
     · cases h
 · cases h
theorem copyX_frm {D : Nat → Prop} {A X : St} {args : List AV} {r : AV} {A' : St} (k : Frm D A X) (h : copyX args A = some (r, A')) : Does D A X r A' (copyX args X) := by
 unfold copyX at h ⊢
 simp only [cond_eq_ite] at h ⊢
 split at h
 · rename_i l m
   split at h
   · cases h
   · rename_i hlm
     rw [if_neg hlm]
     split at h
     · rename_i es fs hes hfs
       obtain ⟨hd1, hx1⟩ := k.mapc hes
       obtain ⟨hd2, hx2⟩ := k.mapc hfs
       simp only [hx1, hx2]
       split at h
       · rename_i ks js hks hjs
         split at h
         · rename_i hb
           simp only [Option.some.injEq, Prod.mk.injEq] at h
           obtain ⟨rfl, rfl⟩ := h
           refine ⟨_, ?_, Stp.put k hd1 _⟩
           first | rw [if_pos hb] | simp only [hks, hjs, if_pos hb]
         · cases h
       · cases h
     · cases h
 · cases h
theorem WR.laterRow {E : Env} {C : Ctx} {S : St} {w w' : World} (hw : WR E C S w) (hb : Below w.heap.size w w') {gb tp : Nat} (h1 : w.heap.size ≤ gb) : WR E (C.row gb tp) S w' ∧ Ext C w (C.row gb tp) w' := by
 have e : Ext C w (C.row gb tp) w' :=
  ⟨⟨fun _ h => ⟨h, rfl, rfl, rfl, rfl⟩, Nat.le_refl _, fun _ _ => rfl, fun i h1 h2 => absurd h2 (by show ¬ i < C.nid; omega), fun l h1 h2 => absurd h2 h1, hb.size, fun b hb => by simp only [Ctx.row]; rw [if_neg (by omega)]; exact Nat.le_refl _,
   fun b o h _ _ => by simp only [World.cell?, hb.block b h], rfl, ⟨hb.mono hw.bs, trivial⟩, fun b x hx => by rw [shape_same (hb.block b (shape_lt hx))]; exact hx, rfl⟩, Nat.le_refl _, fun l h1 h2 => absurd h2 h1⟩
 refine ⟨⟨hw.no, hw.unb, hw.nid, hw.nid1, by have := hw.bs; have := hb.size; show C.base ≤ _; omega, hw.inj, fun l hl => ⟨(hw.mub l hl).1, by have := (hw.mub l hl).2; have := hb.size; show C.mu l < _; omega⟩, fun l hl => ?_, hw.unob, fun i h0 hi => ?_, hw.idi, fun g cs hg => (hw.glob g cs hg).ext e, hw.fresh, fun l x hl hx => ?_, hw.shu, fun i T h0 hi hT => ?_⟩, e⟩
 · show ObjR _ _ l (S.objs.get l) (w'.heap[C.mu l]?)
   rw [hb.block _ (hw.mub l hl).2]
   exact (hw.objs l hl).ext e.toExtW hl
 · have k := hw.ids i h0 hi
   have klt := k.lt
   obtain ⟨k1, k2, k3, k4, k5, ⟨c', T', fz', r1, r2, r3⟩, k7, k8⟩ := k.same hb.size (hb.block _ k.lt)
   have ht : (C.row gb tp).top (C.io i).b = C.top (C.io i).b := by simp only [Ctx.row]; rw [if_neg (by omega)]
   exact ⟨k1, k2, k3, k4, k5, ⟨c', T', fz', r1, by show ∀ i', Ctx.top _ (C.io i).b ≤ i' → _; rw [ht]; exact r2, r3⟩, by show _ ≤ Ctx.top _ (C.io i).b; rw [ht]; exact k7, fun hsp => by show Ctx.top _ (C.io i).b = _; rw [ht]; exact k8 hsp⟩
 · obtain ⟨k1, k2⟩ := hw.shp l x hl hx
   exact ⟨k1, e.shape _ _ k2⟩
 · obtain ⟨c', fz', k1, k2⟩ := hw.ity i T h0 hi hT
   exact ⟨c', fz', by show w'.heap[(C.io i).b]? = _; rw [hb.block _ (hw.ids i h0 hi).lt]; exact k1, by
    have ht : (C.row gb tp).top (C.io i).b = C.top (C.io i).b := by simp only [Ctx.row]; rw [if_neg (by have := (hw.ids i h0 hi).lt; omega)]
    show _ ∨ (_ ∧ _ ≤ Ctx.top _ (C.io i).b); rw [ht]; exact k2⟩
theorem flat_strs : ∀ l : List (List UInt8), flat? 1 ((l.map encStr).map AV.sc) = some ((l.map encStr).map AV.sc)
 | [] => rfl
 | z :: r => by
  have ih := flat_strs r
  simp only [List.map_cons] at ih ⊢
  simp only [flat?, ih]
  rfl
theorem vec_later {E : Env} {C : Ctx} {S : St} {w w' : World} (hw : WR E C S w) {gb : Nat} (h1 : w.heap.size ≤ gb) {cur : Array Value} {T : TypeId} {fz : Nat × Nat} {cap : Nat} {ks : List (List UInt8)} {xs : List Value} (hx : xs = ks.map encStr) (hg : w'.heap[gb]? = some (.cells cur T fz))
 (hc : cur.toList.take xs.length = xs) (hcap : xs.length ≤ cap) : VR (C.row gb xs.length) w' (.vec 0 1 (xs.map AV.sc)) (.slice (some ⟨gb, 0, none⟩) xs.length cap) := by
 have key := VR.vec (C := C.row gb xs.length) (w := w') 0 1 (xs.map AV.sc) (xs.map AV.sc) gb 0 cap (fun i => cur.getD i Go.undef) (by decide) (by simpa using hcap) (by rw [hx]; exact flat_strs ks) (Array.getElem?_eq_some_iff.1 hg).1
  (fun l hl e => by have := (hw.mub l hl).2; have e : C.mu l = gb := e; omega)
  (by simp [Ctx.row])
  (fun i hi => by
   have hi : i < xs.length := by simpa using hi
   have hl : min xs.length cur.toList.length = xs.length := by rw [← List.length_take, hc]
   have h5 : cur.toList.length = cur.size := Array.length_toList
   rw [cell_block hg, Nat.zero_add]
   have : i < cur.size := by omega
   simp [this])
  (fun i x hix => by
   obtain ⟨v, hv, rfl⟩ := Option.map_eq_some_iff.1 (by rw [List.getElem?_map] at hix; exact hix)
   have hi := (List.getElem?_eq_some_iff.1 hv).1
   rw [← hc, List.getElem?_take_of_lt hi, Array.getElem?_toList] at hv
   have : cur.getD i Go.undef = v := by simp [Array.getD_eq_getD_getElem?, hv]
   simp only [this]
   exact .sc _)
  (fun h => by omega) (fun h => by omega) (fun h => by omega)
 simpa using key
noncomputable def sortedV (g : FuncId) (args : List AV) (S : St) : Option (AV × St) := match args with
 | [.fn (.func g') [] [.ptr bx 0]] => match S.shp.get bx, S.obj bx with
  | some _, some [.mp l] => match S.map l with
   | some es => bif Nat.beq g g' && Nat.ble es.length 1000000 then
    match keysOf es with
    | some ks => match sortS ks with
     | [] => some (.sc (.slice none 0 0), S)
     | k :: r => some (.vec 0 1 ((k :: r).map fun s => .sc (encStr s)), S)
    | none => none
    else none
   | none => none
  | _, _ => none
 | _ => none
theorem sortedV_ok {E : Env} {f g : FuncId} {kt : TypeId} (hkt : E.P.underlying kt = some .string) (hc : SortedC E.P f g kt) {args : List AV} {S : St} {r : AV} {S' : St} (h : sortedV g args S = some (r, S')) {C : Ctx} {w : World} {vs : Array Value} (hw : WR E C S w) (hl : LR C w args vs.toList) :
 Calls E.P f vs w (fun e w' => ∃ u C', e = .returned u ∧ WR E C' S' w' ∧ Ext C w C' w' ∧ VR C' w' r u) := by
 obtain ⟨vs⟩ := vs
 unfold sortedV at h
 split at h
 · rename_i g' bx
   split at h
   · rename_i sh l hsh hob
     split at h
     · rename_i es hes
       simp only [cond_eq_ite] at h
       split at h
       · rename_i hb
         simp only [Bool.and_eq_true] at hb
         have hg : g = g' := Nat.eq_of_beq_eq_true hb.1
         subst hg
         have hlen := Nat.le_of_ble_eq_true hb.2
         split at h
         · rename_i ks hks
           match vs, hl with
           | [v], hl =>
           have hv := hl.head
           cases hv with
           | fn _ _ _ v1 v2 hl1 hr1 hl2 hr2 =>
           obtain rfl : v1 = #[] := Array.eq_empty_of_size_eq_zero hl1.symm
           match v2, hl2, hr2 with
           | ⟨[p]⟩, hl2, hr2 =>
           have hp : VR C w (.ptr bx 0) p := by simpa using hr2 0 (.ptr bx 0) rfl
           cases hp with
           | ptr _ _ hbx =>
           obtain ⟨hbs, _⟩ := hw.shp bx _ hbx hsh
           have hobx := hw.objs bx hbx
           rw [obj_inv hob] at hobx
           obtain ⟨c, T, fz, hh, hlr, k3, k4, k5, _⟩ := hobx
           rw [hbs, List.drop_zero] at hlr
           obtain ⟨u0, hu0, hvu⟩ := hlr.get (i := 0) (x := .mp l) rfl
           have hcell : w.cell? ⟨C.mu bx, 0, none⟩ = some u0 := by
            rw [cell_block hh]
            rw [List.getElem?_take_of_lt (by simp)] at hu0
            simpa using hu0
           cases hvu with
           | mp _ hbl =>
           obtain ⟨_, ents, clock, hm, hR, hB⟩ := map_obj hw hbl hes
           obtain ⟨hk1, hk2⟩ := keysOf_eq hks
           have hkeyAt : ∀ x ∈ ents.toList, ∃ s : List UInt8, x.key = encStr s ∧ s ∈ ks := fun x hx => by
            obtain ⟨y, hy⟩ := hR.key x hx
            have : x.key ∈ es.map (·.1) := List.mem_map.2 ⟨_, hy, rfl⟩
            rw [hk1] at this
            obtain ⟨s, h1, h2⟩ := List.mem_map.1 this
            exact ⟨s, h2.symm, h1⟩
           have hmax : (1000000 : Nat) ≤ maxLen := by decide
           have hrd : ∀ x ∈ ents.toList, ∃ s : List UInt8, x.key = encStr s ∧ s ∈ ks ∧ WideElems.rd (H := Unit) E.P kt (fun _ => some (.nil, [])) x = some (.string s, .nil) := fun x hx => by
            obtain ⟨s, h1, h2⟩ := hkeyAt x hx
            refine ⟨s, h1, h2, ?_⟩
            have hs : s.length ≤ maxLen := Nat.le_trans (hk2 s h2) hmax
            unfold WideElems.rd
            rw [h1]
            have hs' : (ByteArray.mk s.toArray).size ≤ maxLen := hs
            simp [Go.keyOf, hkt, mapKey, encStr, hs']
           have hel : ents.size ≤ 1000000 := by
            have h1 := hR.len
            have h2 : ents.toList.length = ents.size := Array.length_toList
            omega
           have hfit : WideElems.Fit (H := Unit) E.P kt (fun _ => some (.nil, [])) ents clock := ⟨Nat.le_trans hel hmax, ⟨hB.1, hB.2, hR.nd'⟩, fun x hx => let ⟨_, _, _, h⟩ := hrd x hx; ⟨_, h⟩⟩
           have hown : w.ownsMap E.P kt (fun _ => some (.nil, [])) (C.mu l) ents.size (.map ((ents.toList.map (WideElems.rg (H := Unit) E.P kt (fun _ => some (.nil, [])))).foldr DataW.insert [])) := ⟨ents, clock, hm, hfit, Nat.le_refl _, rfl⟩
           have hperm : (Go.strKeys (.map ((ents.toList.map (WideElems.rg (H := Unit) E.P kt (fun _ => some (.nil, [])))).foldr DataW.insert []))).Perm ks := by
            have h1 : (Go.strKeys (.map ((ents.toList.map (WideElems.rg (H := Unit) E.P kt (fun _ => some (.nil, [])))).foldr DataW.insert []))).Perm ((ents.toList.map (WideElems.rg (H := Unit) E.P kt (fun _ => some (.nil, [])))).map fun p => Go.strOf p.1) := (sorted_perm _).map _
            refine h1.trans ?_
            rw [List.map_map]
            have h2 : (ents.toList.map (·.key)).Perm (ks.map encStr) := by
             rw [← hk1]
             refine (List.perm_ext_iff_of_nodup hR.nd' hR.nd).2 fun a => ?_
             constructor
             · intro ha
               obtain ⟨e, h3, rfl⟩ := List.mem_map.1 ha
               obtain ⟨y, hy⟩ := hR.key e h3
               exact List.mem_map.2 ⟨_, hy, rfl⟩
             · intro ha
               obtain ⟨⟨k, x⟩, h3, rfl⟩ := List.mem_map.1 ha
               obtain ⟨e, h4, h5, _⟩ := hR.val k x h3
               exact List.mem_map.2 ⟨e, h4, h5⟩
            have h3 := h2.map (fun v => match v with | .string s => s.data.toList | _ => [])
            rw [List.map_map, List.map_map] at h3
            have e1 : ents.toList.map ((fun p : Lit × DataW Unit => Go.strOf p.1) ∘ WideElems.rg (H := Unit) E.P kt (fun _ => some (.nil, []))) = ents.toList.map ((fun v => match v with | .string s => s.data.toList | _ => []) ∘ fun x : MapEntry => x.key) := List.map_congr_left (fun x hx => by
             obtain ⟨s, h4, _, h5⟩ := hrd x hx
             simp only [Function.comp_apply, WideElems.rg_of h5, h4]
             simp [Go.strOf])
            have e2 : ks.map ((fun v => match v with | .string s => s.data.toList | _ => []) ∘ encStr) = ks := by
             refine (List.map_congr_left (g := id) (fun x _ => ?_)).trans (List.map_id _)
             simp []
            rw [e1]
            rw [e2] at h3
            exact h3
           have hsz : Maps.size (.map ((ents.toList.map (WideElems.rg (H := Unit) E.P kt (fun _ => some (.nil, [])))).foldr DataW.insert [])) = ents.size := by
            show List.length _ = _
            rw [(sorted_perm _).length_eq, List.length_map, Array.length_toList]
           have key := hc (C.mu bx) (C.mu l) ents.size _ (fun _ => some (.nil, [])) w (hw.mub bx hbx).2 hcell hown (by rw [hsz]; omega) (by rw [hsz]; omega)
           rw [hbs] at *
           refine key.mono ?_
           rintro e w' ⟨v, ss, rfl, hp1, hrow, hnil, hbel⟩
           rw [sortS_merge (hp1.trans hperm)] at hrow
           have hlen2 : ss.length = (sortS ks).length := by rw [(hp1.trans hperm).length_eq, (sortS_perm ks).length_eq]
           split at h
           · rename_i hs
             simp only [Option.some.injEq, Prod.mk.injEq] at h
             obtain ⟨rfl, rfl⟩ := h
             have : ss = [] := List.eq_nil_of_length_eq_zero (by rw [hlen2, hs]; rfl)
             rw [hnil.2 this]
             exact ⟨_, C, rfl, hw.later hbel, Ext.later hw hbel, .sc _⟩
           · rename_i k r' hs
             simp only [Option.some.injEq, Prod.mk.injEq] at h
             obtain ⟨rfl, rfl⟩ := h
             obtain ⟨_, hrow2⟩ := hrow
             rcases hrow2 with ⟨hv0, hz⟩ | ⟨gb, cap, cur, rfl, hbase, hgb, r1, r2, r3, r4⟩
             · have := hnil.1 hv0
               rw [this, hs] at hlen2
               simp at hlen2
             · rw [hs] at r4 hlen2
               obtain ⟨kw, ke⟩ := hw.laterRow hbel (gb := gb) (tp := (k :: r').length) hbase
               have key := vec_later (ks := k :: r') (xs := (k :: r').map encStr) (cap := cap) (C := C) hw hbase rfl hgb (by rw [List.length_map, ← hlen2]; rw [Nat.mul_one] at r4; exact r4) (by rw [List.length_map, ← hlen2]; exact r1)
               rw [List.length_map, List.map_map] at key
               refine ⟨_, _, rfl, kw, ke, ?_⟩
               rw [hlen2]
               exact key
         · cases h
       · cases h
     · cases h
   · cases h
 · cases h
theorem sortedV_evo {g : FuncId} {args : List AV} {S : St} {r : AV} {S' : St} (h : sortedV g args S = some (r, S')) : Evo S S' := by
 unfold sortedV at h
 split at h
 · split at h
   · split at h
     · simp only [cond_eq_ite] at h
       split at h
       · split at h
         · split at h
           · simp only [Option.some.injEq, Prod.mk.injEq] at h
             obtain ⟨_, rfl⟩ := h
             exact Evo.refl _
           · simp only [Option.some.injEq, Prod.mk.injEq] at h
             obtain ⟨_, rfl⟩ := h
             exact Evo.refl _
         · cases h
       · cases h
     · cases h
   · cases h
 · cases h
theorem sortedV_frm {g : FuncId} {D : Nat → Prop} {A X : St} {args : List AV} {r : AV} {A' : St} (k : Frm D A X) (h : sortedV g args A = some (r, A')) : Does D A X r A' (sortedV g args X) := by
 unfold sortedV at h ⊢
 split at h
 · rename_i g' bx
   split at h
   · rename_i sh l hsh hob
     obtain ⟨hd, hx⟩ := k.objc hob
     have hsx : X.shp.get bx = some sh := by rw [k.shp bx hd]; exact hsh
     simp only [hsx, hx]
     split at h
     · rename_i es hes
       obtain ⟨hd2, hx2⟩ := k.mapc hes
       simp only [hx2]
       simp only [cond_eq_ite] at h ⊢
       split at h
       · rename_i hb
         rw [if_pos hb]
         split at h
         · rename_i ks hks
           split at h
           · rename_i hs
             simp only [Option.some.injEq, Prod.mk.injEq] at h
             obtain ⟨rfl, rfl⟩ := h
             exact ⟨X, by simp only [], Stp.refl k⟩
           · rename_i k' r' hs
             simp only [Option.some.injEq, Prod.mk.injEq] at h
             obtain ⟨rfl, rfl⟩ := h
             exact ⟨X, by simp only [], Stp.refl k⟩
         · cases h
       · cases h
     · cases h
   · cases h
 · cases h
end Go.Abs
end
end
