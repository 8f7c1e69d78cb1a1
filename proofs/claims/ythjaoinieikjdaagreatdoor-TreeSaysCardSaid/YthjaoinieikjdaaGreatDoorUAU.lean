/-
  Contracts: slices.Sorted of a map's keys (texts), strings.Join. What the model does beside turns nothing that was there.
-/
import Derived.Test.YthjaoinieikjdaaGreatDoorUAP
import Derived.Sort.KeysCollected
import Derived.Sort.EncStr
import Derived.Lib.Join
set_option linter.unusedSimpArgs false
set_option linter.unusedVariables false
namespace Go.Abs
open Go.RowKit Go.MapKept
open Go.Proofs (encStr)
open Go.WideShapes (sorted_perm)
noncomputable def insS (z : List UInt8) : List (List UInt8) → List (List UInt8)
 | [] => [z]
 | y :: r => bif decide (z ≤ y) then z :: y :: r else y :: insS z r
noncomputable def pG : List (List UInt8) → List (List UInt8)
 | [] => []
 | z :: r => insS z (pG r)
theorem xm8 (z : List UInt8) : ∀ l, (insS z l).Perm (z :: l)
 | [] => List.Perm.refl _
 | y :: r => by
  unfold insS
  cases decide (z ≤ y) with
  | true => exact List.Perm.refl _
  | false => exact ((xm8 z r).cons y).trans (List.Perm.swap z y r)
theorem vD : ∀ l, (pG l).Perm l
 | [] => List.Perm.refl _
 | z :: r => (xm8 z (pG r)).trans ((vD r).cons z)
theorem xm7 (z : List UInt8) : ∀ l : List (List UInt8), l.Pairwise (· ≤ ·) → (insS z l).Pairwise (· ≤ ·)
 | [], _ => by simp [insS]
 | y :: r, h => by
  unfold insS
  rw [List.pairwise_cons] at h
  by_cases hd : z ≤ y
  · rw [iI hd, aH, List.pairwise_cons]
    refine ⟨fun a ha => ?_, List.pairwise_cons.2 h⟩
    rcases List.mem_cons.1 ha with rfl | ha
    · exact hd
    · exact List.le_trans hd (h.1 a ha)
  · rw [jO hd, aK, List.pairwise_cons]
    refine ⟨fun a ha => ?_, xm7 z r h.2⟩
    rcases List.mem_cons.1 ((xm8 z r).mem_iff.1 ha) with rfl | ha
    · exact (List.le_total a y).resolve_left hd
    · exact h.1 a ha
theorem yn6 : ∀ l, (pG l).Pairwise (· ≤ ·)
 | [] => List.Pairwise.nil
 | z :: r => xm7 z _ (yn6 r)
theorem xj0 {l l' : List (List UInt8)} (h : l.Perm l') : l.mergeSort (fun x y => decide (x ≤ y)) = pG l' := by
 refine List.Perm.eq_of_pairwise (le := fun a b : List UInt8 => a ≤ b) (fun a b _ _ h1 h2 => List.le_antisymm h1 h2) ?_ (yn6 l') (((List.mergeSort_perm l _).trans h).trans (vD l').symm)
 have := List.pairwise_mergeSort (le := fun x y : List UInt8 => decide (x ≤ y)) (fun a b c h1 h2 => by simp only [bZ] at *; exact List.le_trans h1 h2) (fun a b => by simp only [eF, bZ]; exact List.le_total a b) l
 exact this.imp (fun h => by simpa using h)
noncomputable def sK : List (Value × AV) → Option (List (List UInt8))
 | [] => some []
 | (.string s, _) :: r => bif Nat.ble s.size 1000000 then (sK r).map (s.data.toList :: ·) else none
 | _ => none
theorem xm4 : ∀ {es : List (Value × AV)} {ks : List (List UInt8)}, sK es = some ks → es.map (·.1) = ks.map encStr ∧ ∀ k ∈ ks, k.length ≤ 1000000
 | [], ks, h => by simp [sK] at h; subst h; exact ⟨rfl, fun k hk => by simp at hk⟩
 | e :: r, ks, h => by
  unfold sK at h
  split at h
  · rename_i e'; cases e'
  · rename_i s v r' e'
    injection e' with e1 e2
    subst e1; subst e2
    simp only [bB] at h
    split at h
    · rename_i hs
      simp only [dR] at h
      obtain ⟨ks', h1, rfl⟩ := h
      obtain ⟨k1, k2⟩ := xm4 h1
      have hs' := bW hs
      refine ⟨by simp [k1, encStr], fun k hk => ?_⟩
      rcases List.mem_cons.1 hk with rfl | hk
      · rw [jA]; exact hs'
      · exact k2 k hk
    · cases h
  · cases h
noncomputable def rA (g : FuncId) (args : List AV) (S : St) : Option (AV × St) := match args with
 | [.fn (.func g') [] [.ptr bx 0]] => match S.shp.get bx, S.obj bx with
  | some _, some [.mp l] => match S.map l with
   | some es => bif Nat.beq g g' && Nat.ble es.length 1000000 then
    match sK es with
    | some ks => match pG ks with
     | [] => some (.sc (.slice none 0 0), S)
     | k :: r => some (.osl S.no 1 0 (k :: r).length (k :: r).length, S.newObj ((k :: r).map fun s => .sc (encStr s)))
    | none => none
    else none
   | none => none
  | _, _ => none
 | _ => none
noncomputable def SortedC (P : Program) (f g : FuncId) (kt : TypeId) : Prop := ∀ (bx b nn : Nat) (D0 : DataW Unit) (R : Value → Option (DataW Unit × List MemPlace)) (w : World), bx < w.heap.size → w.cell? ⟨bx, 0, none⟩ = some (.map (some b)) → w.ownsMap P kt R b nn D0 → Maps.size D0 ≤ maxLen → Maps.size D0 * 16 ≤ 140737488355328 →
 Calls P f #[.func (.func g) #[] #[.pointer (some ⟨bx, 0, none⟩)]] w fun e w' => ∃ (v : Value) (ss : List (List UInt8)), e = .returned v ∧ ss.Perm (Go.strKeys D0) ∧
  w'.ownsRow w.heap.size kt 1 v ss.length ((ss.mergeSort (fun x y => decide (x ≤ y))).map encStr) ∧ (v = .slice none 0 0 ↔ ss = []) ∧ Below w.heap.size w w'
theorem wy4 {E : Env} {f g : FuncId} {kt : TypeId} (hkt : E.P.underlying kt = some .string) (hc : SortedC E.P f g kt) {args : List AV} {S : St} {r : AV} {S' : St} (h : rA g args S = some (r, S')) {C : Ctx} {w : World} {vs : Array Value} (hw : WR E C S w) (hl : LR C w args vs.toList) :
 Calls E.P f vs w (fun e w' => ∃ u C', e = .returned u ∧ WR E C' S' w' ∧ Ext C w C' w' ∧ VR C' w' r u) := by
 obtain ⟨vs⟩ := vs
 unfold rA at h
 split at h
 · rename_i g' bx
   split at h
   · rename_i sh l hsh hob
     split at h
     · rename_i es hes
       simp only [bB] at h
       split at h
       · rename_i hb
         simp only [aS] at hb
         have hg : g = g' := bA hb.1
         subst hg
         have hlen := bW hb.2
         split at h
         · rename_i ks hks
           match vs, hl with
           | [v], hl =>
           have hv := hl.head
           cases hv with
           | fn _ _ _ v1 v2 hl1 hr1 hl2 hr2 =>
           obtain rfl : v1 = #[] := Array.eq_empty_of_size_eq_zero hl1.symm
           match v2, hl2, hr2 with
           | ⟨[p]⟩, hl2, hr2 =>
           have hp : VR C w (.ptr bx 0) p := by simpa using hr2 0 (.ptr bx 0) rfl
           cases hp with
           | ptr _ _ hbx =>
           obtain ⟨hbs, _⟩ := hw.shp bx _ hbx hsh
           have hobx := hw.objs bx hbx
           rw [sB hob] at hobx
           obtain ⟨c, T, fz, hh, hlr, k3, k4, k5, _⟩ := hobx
           rw [hbs, cJ] at hlr
           obtain ⟨u0, hu0, hvu⟩ := hlr.get (i := 0) (x := .mp l) rfl
           have hcell : w.cell? ⟨C.mu bx, 0, none⟩ = some u0 := by
            rw [lD hh]
            rw [List.getElem?_take_of_lt (by simp)] at hu0
            simpa using hu0
           cases hvu with
           | mp _ hbl =>
           obtain ⟨_, ents, clock, hm, hR, hB⟩ := sC hw hbl hes
           obtain ⟨hk1, hk2⟩ := xm4 hks
           have hkeyAt : ∀ x ∈ ents.toList, ∃ s : List UInt8, x.key = encStr s ∧ s ∈ ks := fun x hx => by
            obtain ⟨y, hy⟩ := hR.key x hx
            have : x.key ∈ es.map (·.1) := List.mem_map.2 ⟨_, hy, rfl⟩
            rw [hk1] at this
            obtain ⟨s, h1, h2⟩ := List.mem_map.1 this
            exact ⟨s, h2.symm, h1⟩
           have hmax : (1000000 : Nat) ≤ maxLen := by decide
           have hrd : ∀ x ∈ ents.toList, ∃ s : List UInt8, x.key = encStr s ∧ s ∈ ks ∧ WideElems.rd (H := Unit) E.P kt (fun _ => some (.nil, [])) x = some (.string s, .nil) := fun x hx => by
            obtain ⟨s, h1, h2⟩ := hkeyAt x hx
            refine ⟨s, h1, h2, ?_⟩
            have hs : s.length ≤ maxLen := cK (hk2 s h2) hmax
            unfold WideElems.rd
            rw [h1]
            have hs' : (ByteArray.mk s.toArray).size ≤ maxLen := hs
            simp [Go.keyOf, hkt, mapKey, encStr, hs']
           have hel : ents.size ≤ 1000000 := by
            have h1 := hR.len
            have h2 : ents.toList.length = ents.size := jA
            omega
           have hfit : WideElems.Fit (H := Unit) E.P kt (fun _ => some (.nil, [])) ents clock := ⟨cK hel hmax, ⟨hB.1, hB.2, hR.nd'⟩, fun x hx => let ⟨_, _, _, h⟩ := hrd x hx; ⟨_, h⟩⟩
           have hown : w.ownsMap E.P kt (fun _ => some (.nil, [])) (C.mu l) ents.size (.map ((ents.toList.map (WideElems.rg (H := Unit) E.P kt (fun _ => some (.nil, [])))).foldr DataW.insert [])) := ⟨ents, clock, hm, hfit, aB _, rfl⟩
           have hperm : (Go.strKeys (.map ((ents.toList.map (WideElems.rg (H := Unit) E.P kt (fun _ => some (.nil, [])))).foldr DataW.insert []))).Perm ks := by
            have h1 : (Go.strKeys (.map ((ents.toList.map (WideElems.rg (H := Unit) E.P kt (fun _ => some (.nil, [])))).foldr DataW.insert []))).Perm ((ents.toList.map (WideElems.rg (H := Unit) E.P kt (fun _ => some (.nil, [])))).map fun p => Go.strOf p.1) := (sorted_perm _).map _
            refine h1.trans ?_
            rw [iJ]
            have h2 : (ents.toList.map (·.key)).Perm (ks.map encStr) := by
             rw [← hk1]
             refine (List.perm_ext_iff_of_nodup hR.nd' hR.nd).2 fun a => ?_
             constructor
             · intro ha
               obtain ⟨e, h3, rfl⟩ := List.mem_map.1 ha
               obtain ⟨y, hy⟩ := hR.key e h3
               exact List.mem_map.2 ⟨_, hy, rfl⟩
             · intro ha
               obtain ⟨⟨k, x⟩, h3, rfl⟩ := List.mem_map.1 ha
               obtain ⟨e, h4, h5, _⟩ := hR.val k x h3
               exact List.mem_map.2 ⟨e, h4, h5⟩
            have h3 := h2.map (fun v => match v with | .string s => s.data.toList | _ => [])
            rw [iJ, iJ] at h3
            have e1 : ents.toList.map ((fun p : Lit × DataW Unit => Go.strOf p.1) ∘ WideElems.rg (H := Unit) E.P kt (fun _ => some (.nil, []))) = ents.toList.map ((fun v => match v with | .string s => s.data.toList | _ => []) ∘ fun x : MapEntry => x.key) := rR (fun x hx => by
             obtain ⟨s, h4, _, h5⟩ := hrd x hx
             simp only [Function.comp_apply, WideElems.rg_of h5, h4]
             simp [Go.strOf])
            have e2 : ks.map ((fun v => match v with | .string s => s.data.toList | _ => []) ∘ encStr) = ks := by
             refine (rR (g := id) (fun x _ => ?_)).trans (List.map_id _)
             simp []
            rw [e1]
            rw [e2] at h3
            exact h3
           have hsz : Maps.size (.map ((ents.toList.map (WideElems.rg (H := Unit) E.P kt (fun _ => some (.nil, [])))).foldr DataW.insert [])) = ents.size := by
            show List.length _ = _
            rw [(sorted_perm _).length_eq, eE, jA]
           have key := hc (C.mu bx) (C.mu l) ents.size _ (fun _ => some (.nil, [])) w (hw.mub bx hbx).2 hcell hown (by rw [hsz]; omega) (by rw [hsz]; omega)
           rw [hbs] at *
           refine key.mono ?_
           rintro e w' ⟨v, ss, rfl, hp1, hrow, hnil, hbel⟩
           rw [xj0 (hp1.trans hperm)] at hrow
           have hlen2 : ss.length = (pG ks).length := by rw [(hp1.trans hperm).length_eq, (vD ks).length_eq]
           split at h
           · rename_i hs
             simp only [aI, aJ] at h
             obtain ⟨rfl, rfl⟩ := h
             have : ss = [] := oO (by rw [hlen2, hs]; rfl)
             rw [hnil.2 this]
             exact ⟨_, C, rfl, hw.later hbel, Ext.later hw hbel, .sc _⟩
           · rename_i k r' hs
             simp only [aI, aJ] at h
             obtain ⟨rfl, rfl⟩ := h
             obtain ⟨_, hrow2⟩ := hrow
             rcases hrow2 with ⟨hv0, hz⟩ | ⟨gb, cap, cur, rfl, hbase, hgb, r1, r2, r3, r4⟩
             · have := hnil.1 hv0
               rw [this, hs] at hlen2
               simp at hlen2
             · rw [hs] at r4 hlen2
               have hcl : ((k :: r').map fun s => AV.sc (encStr s)).length = ss.length := by rw [eE, hlen2]
               obtain ⟨kw, ke⟩ := hw.laterBear hbel hbase (Array.getElem?_eq_some_iff.1 hgb).1 (cs := (k :: r').map fun s => AV.sc (encStr s)) (lim := cap) hgb (fun C' => by
                rw [hcl]
                rw [Nat.mul_one] at r4
                rw [r4]
                have := LR.scs (C := C') (w := w') ((k :: r').map encStr)
                rw [iJ] at this
                exact this) (by rw [hcl]; exact r1) (by rw [r3, Nat.mul_one]; exact aB _)
               refine ⟨_, _, rfl, kw, ke, ?_⟩
               rw [hlen2]
               refine .osl S.no 1 0 _ _ _ cap (.inr rfl) (by decide) (aB _) (by rw [← hlen2]; exact r1) ?_ ?_ (fun _ => ?_)
               · rw [Ctx.bear_at.2.2.1, eE]; simp
               · rw [Ctx.bear_at.2.2.2]; simp
               · rw [Ctx.bear_at.1, Ctx.bear_at.2.1]
         · cases h
       · cases h
     · cases h
   · cases h
 · cases h
theorem wl4 {g : FuncId} {args : List AV} {S : St} {r : AV} {S' : St} (h : rA g args S = some (r, S')) : Evo S S' := by
 unfold rA at h
 split at h
 · split at h
   · split at h
     · simp only [bB] at h
       split at h
       · split at h
         · split at h
           · simp only [aI, aJ] at h
             obtain ⟨_, rfl⟩ := h
             exact Evo.refl _
           · simp only [aI, aJ] at h
             obtain ⟨_, rfl⟩ := h
             exact Evo.newObj _ _
         · cases h
       · cases h
     · cases h
   · cases h
 · cases h
theorem wl3 {g : FuncId} {D : Nat → Prop} {A X : St} {args : List AV} {r : AV} {A' : St} (k : Frm D A X) (h : rA g args A = some (r, A')) : dX D A X r A' (rA g args X) := by
 unfold rA at h ⊢
 split at h
 · rename_i g' bx
   split at h
   · rename_i sh l hsh hob
     obtain ⟨hd, hx⟩ := k.objc hob
     have hsx : X.shp.get bx = some sh := by rw [k.shp bx hd]; exact hsh
     simp only [hsx, hx]
     split at h
     · rename_i es hes
       obtain ⟨hd2, hx2⟩ := k.mapc hes
       simp only [hx2]
       simp only [bB] at h ⊢
       split at h
       · rename_i hb
         rw [bN hb]
         split at h
         · rename_i ks hks
           split at h
           · rename_i hs
             simp only [aI, aJ] at h
             obtain ⟨rfl, rfl⟩ := h
             exact ⟨X, by simp only [], Stp.refl k⟩
           · rename_i k' r' hs
             simp only [aI, aJ] at h
             obtain ⟨rfl, rfl⟩ := h
             exact ⟨_, by simp only [k.no], Stp.newRaw k _⟩
         · cases h
       · cases h
     · cases h
   · cases h
 · cases h
end Go.Abs
