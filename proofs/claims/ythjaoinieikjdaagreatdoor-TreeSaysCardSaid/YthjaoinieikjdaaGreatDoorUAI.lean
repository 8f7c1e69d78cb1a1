/-
  Conversions and calls.
-/
import Derived.Test.YthjaoinieikjdaaGreatDoorUAH
import Derived.Lib.UnsafeStr
import Derived.Lib.ConvBytes
import Derived.Lib.Builder
import Derived.MapKept
set_option linter.unusedSimpArgs false
set_option linter.unusedVariables false
namespace Go.Abs
open Go.RowKit Go.MapKept
noncomputable def mA (E : Env) (call : eS) : Prop := ∀ g args S r S', call g args S = some (r, S') →
 (∃ fn, E.P.funcs[g]? = some fn ∧ fn.body.isNone = false ∧ fn.name ≠ "runtime.NumGoroutine") ∧
 ∀ C w (vs : Array Value), WR E C S w → LR C w args vs.toList → Calls E.P g vs w (fun e w' => ∃ u C', e = .returned u ∧ WR E C' S' w' ∧ Ext C w C' w' ∧ VR C' w' r u)
theorem xv1 : ∀ (bs : List UInt8) (acc : Array UInt8), bs.foldl (fun r b => ByteArray.push r b) ⟨acc⟩ = ⟨acc ++ bs.toArray⟩
 | [], acc => by simp
 | b :: r, acc => by
  rw [List.foldl_cons]
  have := xv1 r (acc.push b)
  rw [show (ByteArray.mk acc).push b = ⟨acc.push b⟩ from rfl, this]
  simp
theorem xw0 {C : Ctx} {w : World} : ∀ {xs fl : List AV} {bs : List UInt8} {vs : List Value}, jT xs = some bs → bR 1 xs = some fl → LR C w fl vs →
 ∃ ns : List Int, vs = ns.map (Value.int .u8) ∧ bs = ns.map fun n => UInt8.ofNat n.toNat
 | [], fl, bs, vs, hb, hf, hl => by
  simp [jT] at hb; simp [bR] at hf; subst hb; subst hf
  have : vs = [] := oO hl.1.symm
  exact ⟨[], by simp [this], rfl⟩
 | x :: l, fl, bs, vs, hb, hf, hl => by
  unfold jT at hb
  split at hb
  · rename_i heq; simp at heq
  · rename_i n l' heq
    simp only [List.cons.injEq] at heq
    obtain ⟨rfl, rfl⟩ := heq
    simp only [dR] at hb
    obtain ⟨bs', h1, rfl⟩ := hb
    obtain ⟨cs, r, h2, h3, h4, h5, rfl⟩ := nY hf
    simp [cellsOf] at h2; subst h2
    match vs, hl with
    | [], hl => exact absurd hl.1 (by simp)
    | u :: us, hl =>
     have hu : u = .int .u8 n := (LR.head hl).sc_inv
     obtain ⟨ns, k1, k2⟩ := xw0 h1 h3 (LR.tail hl)
     exact ⟨n :: ns, by simp [hu, k1], by simp [k2]⟩
  · simp at hb
section
variable {E : Env} {C : Ctx} {S S' : St} {w : World} {v : AV} {tm : PM AV} {a : Act} {call : eS} {mu : Bool}
theorem yS {d : Option TypeDesc} (h : rN d = true) : d = some (.int .u8) := by
 unfold rN at h
 split at h
 · rfl
 · simp at h
theorem WR.freeze (hw : WR E C S w) {b o n : Nat} (hb : C.base ≤ b) (hf : C.free b) {c : Array Value} {T : TypeId} {lo hi : Nat} (hh : w.heap[b]? = some (.cells c T (lo, hi)))
 (hid : ∀ i, 2 < i → i < C.nid → (C.io i).b = b → (∀ fz', (fz' = (if lo = hi then (o, o + n) else (min lo o, max hi (o + n)))) → (∀ j, C.top b ≤ j → j < c.size → ¬ (fz'.1 ≤ j ∧ j < fz'.2)) ∧ (∀ T', S.ity.get i = some T' → fz'.1 = fz'.2 ∨ (fz'.1 ≤ fz'.2 ∧ fz'.2 ≤ C.top b)))) :
 WR E C S (w.freeze ⟨b, o, none⟩ n) ∧ Ext C w C (w.freeze ⟨b, o, none⟩ n) := by
 by_cases hn : n = 0
 · have : w.freeze ⟨b, o, none⟩ n = w := by simp [World.freeze, hn]
   rw [this]; exact ⟨hw, Ext.refl _ _⟩
 have hsz : (w.freeze ⟨b, o, none⟩ n).heap.size = w.heap.size := by simp [World.freeze, hn]
 have hne : ∀ k, k ≠ b → (w.freeze ⟨b, o, none⟩ n).heap[k]? = w.heap[k]? := fun k hk => by
  simp only [World.freeze, hn, dG, Array.getElem?_modify]
  rw [aR (fun e => hk e.symm)]
 have hat : (w.freeze ⟨b, o, none⟩ n).heap[b]? = some (.cells c T (if lo = hi then (o, o + n) else (min lo o, max hi (o + n)))) := by
  by_cases he : lo = hi
  · simp [World.freeze, hn, Array.getElem?_modify, hh, he]
  · simp [World.freeze, hn, Array.getElem?_modify, hh, he]
 have hcell : ∀ k p, (w.freeze ⟨b, o, none⟩ n).cell? ⟨k, p, none⟩ = w.cell? ⟨k, p, none⟩ := fun k p => by
  by_cases hk : k = b
  · subst hk; rw [lD hat, lD hh]
  · simp only [World.cell?, hne k hk]
 have e : Ext C w C (w.freeze ⟨b, o, none⟩ n) := ⟨⟨fun _ h => ⟨h, rfl, rfl, rfl, rfl⟩, aB _, fun _ _ => rfl, fun i h1 h2 => absurd h2 (by omega), fun l h1 h2 => absurd h2 h1, by omega, fun _ _ => aB _, fun k o _ _ _ => hcell k o, rfl,
  ⟨⟨by simp [World.freeze, hn], by simp [World.freeze, hn], by simp [World.freeze, hn], by omega, fun k hk => hne k (by omega)⟩, trivial⟩, fun k x hx => by
   by_cases hk : k = b
   · subst hk; rw [oX hh] at hx; rw [oX hat]; exact hx
   · simp only [World.shape?, hne k hk] at hx ⊢; exact hx, rfl⟩, aB _, fun _ h1 h2 => absurd h2 h1⟩
 refine ⟨⟨hw.no, hw.unb, hw.nid, hw.nid1, by rw [hsz]; exact hw.bs, hw.inj, fun l hl => by rw [hsz]; exact hw.mub l hl, fun l hl => ?_, hw.unob, fun i h0 hi' => ?_, hw.idi, fun g cs hg => (hw.glob g cs hg).ext e, hw.fresh, fun l x hl hx => ?_, hw.shu, fun i T' h0 hi' hT => ?_⟩, e⟩
 · rw [hne _ (hf l hl)]; exact (hw.objs l hl).ext e.toExtW hl
 · obtain ⟨h1, h2, h3, h4, h5, ⟨c', T', fz'', r1, r2, r3⟩, h7, h8⟩ := hw.ids i h0 hi'
   refine ⟨h1, by rw [hsz]; exact h2, h3, h4, h5, ?_, h7, h8⟩
   by_cases hk : (C.io i).b = b
   · have hI := (hid i h0 hi' hk _ rfl).1
     rw [hk] at r1
     rw [hh] at r1
     simp only [aI, Obj.cells.injEq] at r1
     obtain ⟨rfl, rfl, rfl⟩ := r1
     exact ⟨c, T, _, by rw [hk]; exact hat, by rw [hk]; exact hI, r3⟩
   · exact ⟨c', T', fz'', by rw [hne _ hk]; exact r1, r2, r3⟩
 · obtain ⟨k1, k2⟩ := hw.shp l x hl hx
   exact ⟨k1, e.shape _ _ k2⟩
 · obtain ⟨c', fz', k1, k2⟩ := hw.ity i T' h0 hi' hT
   by_cases hk : (C.io i).b = b
   · have hI := (hid i h0 hi' hk _ rfl).2 T' hT
     rw [hk] at k1 ⊢
     rw [hh] at k1
     simp only [aI, Obj.cells.injEq] at k1
     obtain ⟨rfl, rfl, rfl⟩ := k1
     exact ⟨c, _, hat, hI⟩
   · exact ⟨c', fz', by rw [hne _ hk]; exact k1, k2⟩
theorem wj4 {xs fl : List AV} {bs : List UInt8} {b o : Nat} (hb : jT xs = some bs) (hfl : bR 1 xs = some fl) (hs : Seg C w b o fl) :
 ∃ ns : List Int, (∀ j u, (ns.map (Value.int .u8))[j]? = some u → w.cell? ((⟨b, o, none⟩ : Addr).add j) = some u) ∧ ns.length = xs.length ∧ bs = ns.map fun n => UInt8.ofNat n.toNat := by
 obtain ⟨vs, k1, k2⟩ := tQ hs
 obtain ⟨ns, n1, n2⟩ := xw0 hb hfl k1
 have h1 := nX hfl
 have h2 := k1.1
 refine ⟨ns, fun j u hu => k2 j u (by rw [n1]; exact hu), ?_, n2⟩
 rw [n1, eE] at h2
 omega
theorem ye0 (ok : E.Ok) (hw : WR E C S w) {src dst e : TypeId} (hs : E.und src = some (.slice e)) (hu8 : E.und e = some (.int .u8)) (hd : E.und dst = some .string) {xs fl : List AV} {bs : List UInt8}
 (h1 : jT xs = some bs) (hfl : bR 1 xs = some fl) {p : Addr} {cap b o : Nat} (hp : xs ≠ [] → p = ⟨b, o, none⟩) (hseg : Seg C w b o fl) :
 Good E C w (do pure (.value (← convert src dst (.slice (some p) xs.length cap)))) (.sc (.string ⟨bs.toArray⟩)) S := by
 obtain ⟨ns, n1, n2, n3⟩ := wj4 h1 hfl hseg
 refine Good.val hw (bQ ?_) (.sc _)
 rw [run_convert_bytes_string w src dst e _ xs.length cap (ok.und _ _ hs) (ok.und _ _ hu8) (ok.und _ _ hd)]
 have hl : (loadCells p xs.length).run E.P w = .ok (ns.map (Value.int .u8)).toArray w := by
  have := run_loadCells_list (P := E.P) w p (ns.map (Value.int .u8)) (fun j u hu => by
   have hne : xs ≠ [] := fun e => by
    rw [e] at n2
    have : ns = [] := oO n2
    rw [this] at hu; simp at hu
   rw [hp hne]; exact n1 j u hu)
  rw [eE, n2] at this
  exact this
 rw [run_bytesToString w _ _ cap ns hl, n3]
 congr 2
 have := xv1 (ns.map fun n => UInt8.ofNat n.toNat) #[]
 rw [List.foldl_map] at this
 have e0 : ByteArray.empty = ⟨#[]⟩ := rfl
 rw [e0, this]
 simp
theorem xv0 : ∀ (n : Nat) (cs : List AV), cs.length = n → kO false 1 n cs = cs
 | 0, [], _ => rfl
 | n + 1, x :: l, h => by
  simp only [kO, aK, List.headD_cons, rQ, cJ]
  rw [xv0 n l (by simpa using h)]
theorem xl3 {agg : Bool} {l sz off len : Nat} {xs : List AV} (h : S.oslElems agg l sz off len = some xs) : ∃ cs, S.obj l = some cs ∧ ((cs.drop off).take (len * sz)).length = len * sz ∧ ((cs.drop off).take (len * sz)).all cB = true ∧ xs = kO agg sz len ((cs.drop off).take (len * sz)) := by
 unfold St.oslElems at h
 split at h
 · rename_i cs ho
   simp only [bB] at h
   split at h
   · rename_i hb
     simp only [aS] at hb
     simp only [aI] at h
     exact ⟨cs, ho, bA hb.1, hb.2, h.symm⟩
   · simp at h
 · simp at h
theorem ww2 : ∀ {xs : List AV} {bs : List UInt8}, jT xs = some bs → bR 1 xs = some xs
 | [], _, _ => rfl
 | x :: l, bs, h => by
  unfold jT at h
  split at h
  · rename_i heq; simp at heq
  · rename_i n l' heq
    simp only [List.cons.injEq] at heq
    obtain ⟨rfl, rfl⟩ := heq
    simp only [dR] at h
    obtain ⟨bs', h1, rfl⟩ := h
    exact uP (cs := [.sc (.int .u8 n)]) rfl (ww2 h1) rfl rfl
  · simp at h
theorem WR.dropIty (h : WR E C S w) (m : PM TypeId) (hm : ∀ i T, 2 < i → i < C.nid → m.get i = some T → S.ity.get i = some T) (hm2 : ∀ i, S.nid ≤ i → m.get i = none) : WR E C { S with ity := m } w :=
 ⟨h.no, h.unb, h.nid, h.nid1, h.bs, h.inj, h.mub, h.objs, h.unob, h.ids, h.idi, h.glob, fun i hi => ⟨(h.fresh i hi).1, hm2 i hi⟩, h.shp, h.shu, fun i T h0 hi hT => h.ity i T h0 hi (hm i T h0 hi hT)⟩
theorem xf2 (ok : E.Ok) (hw : WR E C S w) {src dst e : TypeId} {s : ByteArray} (hs : E.und src = some .string) (hd : E.und dst = some (.slice e)) (hu8 : E.und e = some (.int .u8)) :
 Good E C w (do pure (.value (← convert src dst (.string s)))) (.vec S.nid 1 (cO s.data.toList)) S.newIdX := by
 have hrun := Go.Lib.run_convert_string_bytes (P := E.P) w src dst e s (ok.und _ _ hs) (ok.und _ _ hd) (ok.und _ _ hu8)
 have hwd := hw.drew
 have hcapge : s.size ≤ grownCap w s.size 0 e := grownCap_ge _ _ _ _
 have hsize : (Go.Lib.bytesCells w e s).size = grownCap w s.size 0 e := by
  have h1 : s.data.size = s.size := rfl
  simp only [Go.Lib.bytesCells, Array.size_append, Array.size_map, Array.size_replicate, h1]; omega
 have hxl : (cO s.data.toList).length = s.size := by simp [cO]
 have h1 := hwd.newRow (c := Go.Lib.bytesCells w e s) e (0, 0) s.size (grownCap w s.size 0 e) 1 (by decide) hcapge (by omega) (.inl rfl) (.inl rfl)
 have e1 := Ext.newRow hwd (.cells (Go.Lib.bytesCells w e s) e) s.size (grownCap w s.size 0 e) 1 (s.size * 1)
 have h2 := h1.dropIty S.ity (fun i T h0 hi hT => by
  show (S.ity.set S.nid e).get i = some T
  rw [PM.get_set]
  by_cases hi2 : i = S.nid
  · rw [hi2, (hw.fresh _ (aB _)).2] at hT; cases hT
  · rw [aR hi2]; exact hT) (fun i hi => (hw.fresh i (by have : S.nid + 1 ≤ i := hi; omega)).2)
 have hat : (w.drew.alloc (.cells (Go.Lib.bytesCells w e s) e)).heap[w.heap.size]? = some (.cells (Go.Lib.bytesCells w e s) e (0, 0)) := sZ w.drew _
 have hfree : (C.newId ⟨w.drew.heap.size, 0, s.size, grownCap w s.size 0 e, 1⟩ (s.size * 1)).free w.heap.size := fun l hl => by
  have := (hw.mub l hl).2
  show C.mu l ≠ _; omega
 obtain ⟨k1, k2⟩ := h2.freeze (o := (Go.Lib.bytesCells w e s).size) (n := 1) (b := w.heap.size) hw.bs hfree hat (fun i h0 hi hb fz' hfz' => by
  have hi' : i < C.nid + 1 := hi
  by_cases hi2 : i = S.nid
  · refine ⟨fun j _ hj => ?_, fun T' hT => ?_⟩
    · subst hfz'; simp; omega
    · have hT' : S.ity.get i = some T' := hT
      rw [hi2, (hw.fresh _ (aB _)).2] at hT'; cases hT'
  · exfalso
    have hlt : i < C.nid := by have := hw.nid; omega
    have hio : (C.newId ⟨w.drew.heap.size, 0, s.size, grownCap w s.size 0 e, 1⟩ (s.size * 1)).io i = C.io i := by simp only [Ctx.newId]; rw [aR (by omega)]
    rw [hio] at hb
    have := (hw.ids i h0 hlt).lt
    omega)
 refine .inl ⟨_, _, _, bQ hrun, k1, ((Ext.drew C w).trans e1).trans k2, ?_⟩
 have hv : VecAt (C.newId ⟨w.drew.heap.size, 0, s.size, grownCap w s.size 0 e, 1⟩ (s.size * 1)) (w.drew.alloc (.cells (Go.Lib.bytesCells w e s) e)) S.nid 1 (cO s.data.toList) (cO s.data.toList) w.heap.size 0 (grownCap w s.size 0 e) := by
  have hn := hw.nid1
  refine ⟨by decide, by rw [hxl]; exact hcapge, ym7 _, by simp, hfree, ?_, ⟨_, xe2 _ _ s.data.toList, fun j u hu => ?_⟩, fun _ => ⟨?_, ?_⟩, fun h => by omega, fun h => by omega⟩
  · rw [hxl]; simp [Ctx.newId]
  · rw [aF, lD hat]
    have hj : j < s.data.size := by
     rcases fV j s.data.size with h' | h'
     · exact h'
     · rw [mJ (by simpa using h')] at hu; cases hu
    simp only [Go.Lib.bytesCells]
    rw [Array.getElem?_append_left (by simpa using hj)]
    simpa using hu
  · simp [Ctx.newId, hw.nid]
  · rw [hxl]; simp [Ctx.newId, hw.nid]
 have := hv.mk'.ext k2.toExtW
 rwa [hxl] at this
theorem wg2 (ok : E.Ok) (hw : WR E C S w) {mu : Bool} {src dst : TypeId} {x : AV} {ux : Value} (hx : VR C w x ux) (h : gH E mu src dst x S = some (v, S')) :
 Good E C w (do pure (.value (← convert src dst ux))) v S' := by
 unfold gH at h
 cases hsb : pZ E src dst with
 | true =>
  rw [hsb] at h
  simp only [aH] at h
  split at h
  · rename_i e s hd
    have := hx.sc_inv; subst this
    simp only [bB] at h
    split at h
    · rename_i hb
      simp only [aS] at hb
      have hs : E.und src = some .string := by
       unfold pZ at hsb
       split at hsb
       · rename_i h1 h2; exact h1
       · simp at hsb
      simp only [aI, aJ] at h
      obtain ⟨rfl, rfl⟩ := h
      exact xf2 ok hw hs hd (yS hb.1.1)
    · simp at h
  · simp at h
 | false =>
 rw [hsb] at h
 simp only [aK] at h
 cases x with
 | sc u =>
  have := hx.sc_inv; subst this
  simp only [dR, aJ] at h
  obtain ⟨r, h1, rfl, rfl⟩ := h
  exact Good.val hw (bQ (vQ _ h1 w)) (sF _ _ _)
 | vec id sz xs =>
  simp only at h
  split at h
  · rename_i e hs hd
    cases hb : (rN (E.und e) && Nat.beq sz 1) with
    | false => rw [hb] at h; simp at h
    | true =>
     rw [hb] at h
     simp only [aH, dR, aJ] at h
     obtain ⟨bs, h1, rfl, rfl⟩ := h
     simp only [aS] at hb
     have hu8 := yS hb.1
     have hsz := bA hb.2
     subst hsz
     rcases hx.vec_inv with ⟨_, rfl, p, cap, rfl⟩ | ⟨fl, b, o, cap, rfl, hv⟩
     · exact ye0 (b := 0) (o := 0) ok hw hs hu8 hd h1 rfl (fun h => absurd rfl h) ⟨[], LR.nil _ _, fun j u hu => by simp at hu⟩
     · exact ye0 ok hw hs hu8 hd h1 hv.flat (fun _ => rfl) hv.seg
  · rename_i e1 e hs hd
    cases hb : (Nat.beq src dst && rN (E.und e) && Nat.beq id 1) with
    | false => rw [hb] at h; simp at h
    | true =>
     rw [hb] at h
     simp only [aH, aI, aJ] at h
     obtain ⟨rfl, rfl⟩ := h
     simp only [aS] at hb
     have hsd := bA hb.1.1
     subst hsd
     have hu8 := yS hb.1.2
     have hid := bA hb.2
     rcases hx.vec_inv with ⟨h0, _⟩ | ⟨fl, b, o, cap, hU, hv⟩
     · omega
     · obtain ⟨x1, x2⟩ := hv.x2 hid
       have hs1 := cU ok hs
       have he1 := cU ok hu8
       rw [hs] at hd
       simp only [aI, TypeDesc.slice.injEq] at hd
       subst hd
       cases hblk : w.heap[b]? with
       | none => have := hv.lt; rw [Array.getElem?_eq_none_iff] at hblk; omega
       | some ob =>
        by_cases hc : ∃ c T fz, ob = .cells c T fz
        · obtain ⟨c, T, ⟨lo, hi⟩, rfl⟩ := hc
          obtain ⟨k1, k2⟩ := hw.freeze (o := c.size) (n := 1) x1 hv.free hblk (fun i h0 hi' hb' => absurd hb' (x2 i h0 hi'))
          refine .inl ⟨ux, C, _, bQ (w' := w.freeze ⟨b, c.size, none⟩ 1) ?_, k1, k2, hx.ext k2⟩
          have hm : (markStringish ⟨b, o, none⟩).run E.P w = .ok () (w.freeze ⟨b, c.size, none⟩ 1) := by
           simp [markStringish, shape, Sem.run, World.shape?, hblk, Go.freeze]
          simp [convert, hs1, he1, hU, hm]
        · refine Good.val hw (bQ (u := ux) ?_) hx
          have hsh : w.shape? b = none := by
           simp only [World.shape?, hblk]
           cases ob <;> first | rfl | exact absurd ⟨_, _, _, rfl⟩ hc
          have hm : (markStringish ⟨b, o, none⟩).run E.P w = .ok () w := by
           simp [markStringish, shape, Sem.run, hsh]
          simp [convert, hs1, he1, hU, hm]
  · simp at h
 | osl l sz off len room =>
  simp only at h
  split at h
  · rename_i e hs hd
    simp only [bB] at h
    split at h
    · rename_i hb
      simp only [aS] at hb
      have hu8 := yS hb.1
      have hsz := bA hb.2
      subst hsz
      split at h
      · rename_i xs hxs
        simp only [dR, aJ] at h
        obtain ⟨bs, h1, rfl, rfl⟩ := h
        obtain ⟨cs, ho, g1, g2, g3⟩ := xl3 hxs
        rw [xv0 _ _ (by rw [g1]; omega)] at g3
        cases hx with
        | osl _ _ _ _ _ a cap hbn hs' hlr hrc hro hcl ha =>
         have hl : len = xs.length := by rw [g3, g1]; omega
         have hseg := uF (uO hw hbn ho) off (len * 1)
         rw [← g3] at hseg
         have := ye0 (p := a) (cap := cap) ok hw hs hu8 hd h1 (ww2 h1) (fun hne => ha (by have := List.length_pos_iff.2 hne; omega)) hseg
         rw [← hl] at this
         exact this
      · simp at h
    · simp at h
  · simp at h
 | ptr l off =>
  simp only at h
  split at h
  · rename_i t cs hs hd ho
    split at h
    · rename_i i hi
      simp only [bB] at h
      split at h
      · rename_i hb
        simp only [aS] at hb
        have b1 : 0 < i.size := bW hb.1
        have b2 : off < cs.length := bW hb.2
        simp only [aI, aJ] at h
        obtain ⟨rfl, rfl⟩ := h
        cases hx with
        | ptr _ _ hbn =>
         have hob := hw.objs l hbn
         rw [sB ho] at hob
         obtain ⟨c, T, fz, k1, k2, k3, k4, k5, k6⟩ := hob
         refine Good.val hw (bQ (Go.Lib.run_to_unsafe w ⟨C.mu l, C.bs l + off, none⟩ (ok.und _ _ hs) (ok.und _ _ hd) (ok.inf _ _ hi) (by omega) (oX k1) ?_)) (.ptr _ _ hbn)
         show C.bs l + off < c.size
         omega
      · simp at h
    · simp at h
  · rename_i u cs hs hd ho
    split at h
    · rename_i i T n hi hsp
      simp only [bB] at h
      split at h
      · rename_i hb
        simp only [aS] at hb
        simp only [aI, aJ] at h
        obtain ⟨rfl, rfl⟩ := h
        cases hx with
        | ptr _ _ hbn =>
         obtain ⟨k1, k2⟩ := hw.shp l _ hbn hsp
         refine Good.val hw (bQ (Go.Lib.run_from_unsafe w ⟨C.mu l, C.bs l + off, none⟩ (ok.und _ _ hs) (ok.und _ _ hd) (ok.inf _ _ hi) k2 ?_)) (.ptr _ _ hbn)
         rw [k1, aF]
         exact hb.2
      · simp at h
    · simp at h
  · simp at h
 | _ => simp at h
theorem wj3 {g : FuncId} {fn : Func} (h1 : E.P.funcs[g]? = some fn) (h2 : fn.body.isNone = false) (h3 : fn.name ≠ "runtime.NumGoroutine") (args : Array Value) (w : World) :
 (callFunc g args).run E.P w = .ok (.enter g args) w := by
 have h2' : fn.body ≠ none := fun e => by simp [e] at h2
 simp [callFunc, program, Sem.run, h1, h2', h3]
theorem xb1 (hcall : mA E call) (hw : WR E C S w) {g : FuncId} {args : List AV} {vs : Array Value} (hl : LR C w args vs.toList) (h : call g args S = some (v, S')) {r : Sem Next}
 (hr : r.run E.P w = (callFunc g vs).run E.P w) : Good E C w r v S' := by
 obtain ⟨⟨fn, h1, h2, h3⟩, h4⟩ := hcall g args S v S' h
 exact .inr (.inr ⟨g, vs, by rw [hr, wj3 h1 h2 h3], h4 C w vs hw hl⟩)
theorem wu8 (ok : E.Ok) (hw : WR E C S w) {g : FuncId} {hh : List AV → Option AV} {args : List AV} {vs : Array Value} (hl : LR C w args vs.toList) (he : E.ext g = some hh) (h : (hh args).map (fun v => (v, S)) = some (v, S')) {r : Sem Next}
 (hr : r.run E.P w = (callFunc g vs).run E.P w) : Good E C w r v S' := by
 simp only [dR, aJ] at h
 obtain ⟨x, h1, rfl, rfl⟩ := h
 obtain ⟨u, k1, k2⟩ := ok.ext g hh args x he h1 C w vs hl
 exact Good.val hw (hr.trans k1) k2
theorem wt4 {cs : List AV} {vs : Array Value} (hl : cs.length = vs.size) (hr : ∀ i x, cs[i]? = some x → VR C w x (vs.getD i Go.undef)) : LR C w cs vs.toList :=
 ⟨by simpa using hl, fun i x hx => by simpa using hr i x hx⟩
theorem jc3 (ok : E.Ok) (hw : WR E C S w) {t ty : TypeId} {x : AV} {ux : Value} {cs : Array Bool} (hx : VR C w x ux) (h : bD E mu .len [t] [x] S = some (v, S')) :
 Good E C w (invoke (.builtin .len #[t] ty cs) #[ux]) v S' := by
 simp only [bD] at h
 split at h
 · rename_i e hd
   simp only [dR, aJ] at h
   obtain ⟨n, h1, rfl, rfl⟩ := h
   refine Good.val hw (u := .int .i64 n) ?_ (.sc _)
   unfold nP at h1
   split at h1
   · have := hx.sc_inv; subst this
     simp at h1; subst h1
     simp [invoke, builtin, Builtin.len_, cU ok hd, goInt]
   · obtain ⟨p, cap, rfl⟩ := hx.vec_slice
     simp at h1; subst h1
     simp [invoke, builtin, Builtin.len_, cU ok hd, goInt]
   · cases hx
     simp at h1; subst h1
     simp [invoke, builtin, Builtin.len_, cU ok hd, goInt]
   · simp at h1
 · rename_i hd
   split at h
   · have := hx.sc_inv; subst this
     simp only [aI, aJ] at h
     obtain ⟨rfl, rfl⟩ := h
     refine Good.val hw ?_ (.sc _)
     simp [invoke, builtin, Builtin.len_, cU ok hd, goInt]
   · simp at h
 · rename_i n e hd
   simp only [aI, aJ] at h
   obtain ⟨rfl, rfl⟩ := h
   refine Good.val hw (u := .int .i64 n) ?_ (.sc _)
   simp [invoke, builtin, Builtin.len_, cU ok hd, goInt]
 · rename_i kt et hd
   split at h
   · rename_i l
     simp only [dR, aJ] at h
     obtain ⟨es, h1, rfl, rfl⟩ := h
     cases hx with
     | mp _ hb =>
      obtain ⟨_, ents, clock, k1, k2⟩ := sC hw hb h1
      refine Good.val hw (u := .int .i64 es.length) ?_ (.sc _)
      have hlen : ents.size = es.length := by rw [k2.1.len]; simp
      simp [invoke, builtin, Builtin.len_, cU ok hd, getObj, Sem.run, k1, goInt, hlen]
   · have := hx.sc_inv; subst this
     simp only [aI, aJ] at h
     obtain ⟨rfl, rfl⟩ := h
     refine Good.val hw ?_ (.sc _)
     simp [invoke, builtin, Builtin.len_, cU ok hd, goInt]
   · simp at h
 · simp at h
theorem xH (ok : E.Ok) (hw : WR E C S w) {agg : Bool} {t t1 e ty : TypeId} {ti : TypeInfo} {s x : AV} {us ux : Value} (ht : E.und t = some (.slice e)) (hi : E.inf e = some ti)
 (hk : (∃ e', E.P.underlying t1 = some (.slice e')) ∨ E.P.underlying t1 = some .string)
 (hk2 : ∀ str, x = .sc (.string str) → E.P.underlying t1 = some .string) (hk3 : (∀ str, x ≠ .sc (.string str)) → ∃ e', E.P.underlying t1 = some (.slice e'))
 (hs : VR C w s us) (hx : VR C w x ux) (h : lH mu agg e ti s x S = some (v, S')) : Good E C w (do pure (.value (← Builtin.append_ #[t, t1] ty #[us, ux]))) v S' := by
 unfold lH at h
 split at h
 · simp at h
 · rename_i ys hel
   refine yx7 ok hw hs ?_ h
   have hu := ok.und t _ ht
   have hin := ok.inf e ti hi
   cases ys with
   | nil =>
    refine ⟨[], [], rfl, LR.nil _ _, fun h => absurd rfl h, AppOk.ofSrc hu hin ?_⟩
    have hlen : ∀ w' : World, (Builtin.lenOf ux).run E.P w' = .ok 0 w' ∧ (Builtin.firstCells ti.size 0 ux).run E.P w' = .ok #[] w' := by
     intro w'
     cases x with
     | osl l sz off len room =>
      simp only [fG, bB] at hel
      split at hel
      · obtain ⟨cs, ho, g1, g2, g3⟩ := xl3 hel
        have h0 : len = 0 := by
         have := congrArg List.length g3
         cases len with
         | zero => rfl
         | succ n => simp [kO] at this
        cases hx
        subst h0
        exact ⟨rfl, by simp [Builtin.firstCells, loadCells, loadCellsFrom]⟩
      · simp at hel
     | vec id sz xs =>
      simp [fG, gY] at hel; subst hel
      obtain ⟨a, cap, rfl⟩ := hx.vec_slice
      exact ⟨rfl, by simp [Builtin.firstCells, loadCells, loadCellsFrom]⟩
     | sc u =>
      have := hx.sc_inv; subst this
      cases ux with
      | string str =>
       simp [fG, gY, cO] at hel
       have h0 : str.size = 0 := by
        have : str.data = #[] := by simpa using hel
        simp [ByteArray.size, this]
       exact ⟨by simp [Builtin.lenOf, h0], by simp [Builtin.firstCells]⟩
      | slice a n c =>
       cases a with
       | none =>
        match n, c with
        | 0, 0 => exact ⟨rfl, rfl⟩
        | 0, _ + 1 => simp [fG, gY] at hel
        | _ + 1, _ => simp [fG, gY] at hel
       | some _ => simp [fG, gY] at hel
      | _ => simp [fG, gY] at hel
     | _ => simp [fG, gY] at hel
    exact ⟨hk, fun w' => (hlen w').1, (hlen w).2, (hlen w.drew).2, by simp, fun u hu => by simp at hu⟩
   | cons y ys =>
    have hfit : iO ti.size (y :: ys) = true ∧ 0 < ti.size := by
     unfold kH at h
     simp only [bB] at h
     split at h
     · rename_i hb
       simp only [aS] at hb
       exact ⟨hb.1.1, bW hb.1.2⟩
     · simp at h
    have hkk : (∃ e', E.P.underlying t1 = some (.slice e')) ∧ (∀ s, x ≠ .sc (.string s)) ∨ E.P.underlying t1 = some .string ∧ (∃ s, x = .sc (.string s)) ∨ (y :: ys) = [] := by
     by_cases hstr : ∃ str, x = .sc (.string str)
     · obtain ⟨str, rfl⟩ := hstr
       exact .inr (.inl ⟨hk2 str rfl, str, rfl⟩)
     · have hn : ∀ str, x ≠ .sc (.string str) := fun str e => hstr ⟨str, e⟩
       exact .inl ⟨hk3 hn, hn⟩
    obtain ⟨fy, news, f1, f2, f3⟩ := src_rel hw hx hel hfit.2 hfit.1 hkk (by simp)
    exact ⟨fy, news, f1, f2, fun _ => f3.one, AppOk.ofSrc hu hin f3⟩
theorem wg4 (ok : E.Ok) (hw : WR E C S w) {t t1 ty : TypeId} {s x : AV} {us ux : Value} {cs : Array Bool} (hs : VR C w s us) (hx : VR C w x ux) (h : bD E mu .append [t, t1] [s, x] S = some (v, S')) :
 Good E C w (invoke (.builtin .append #[t, t1] ty cs) #[us, ux]) v S' := by
 simp only [bD] at h
 split at h
 · rename_i e e' hd hd1
   split at h
   · rename_i d i id sz xs hde hi
     exact xH ok hw (e := e) hd hi (.inl ⟨_, ok.und _ _ hd1⟩) (fun _ e => by simp at e) (fun _ => ⟨_, ok.und _ _ hd1⟩) hs hx h
   · rename_i d i a n c hde hi
     exact xH ok hw (e := e) hd hi (.inl ⟨_, ok.und _ _ hd1⟩) (fun _ e => by simp at e) (fun _ => ⟨_, ok.und _ _ hd1⟩) hs hx h
   · rename_i d i l sz off len room hde hi
     exact xH ok hw (e := e) hd hi (.inl ⟨_, ok.und _ _ hd1⟩) (fun _ e => by simp at e) (fun _ => ⟨_, ok.und _ _ hd1⟩) hs hx h
   · simp at h
 · rename_i e hd hd1
   split at h
   · rename_i i str hi
     exact xH ok hw (e := e) hd hi (.inr (ok.und _ _ hd1)) (fun _ _ => ok.und _ _ hd1) (fun hn => absurd rfl (hn str)) hs hx h
   · simp at h
 · rename_i e k1 hd hd1
   split at h
   · rename_i d i k n hde hi
     split at h
     · rename_i z hz
       simp only [bB] at h
       split at h
       · rename_i hb
         simp only [aS, eF, bZ] at hb
         obtain ⟨⟨⟨⟨⟨b1, b2⟩, b3⟩, b4⟩, b5⟩, b6⟩ := hb
         have b4 := bA b4
         have b5 := bW b5
         have hxv := hx.sc_inv
         subst hxv
         refine yx7 ok hw hs ?_ h
         have hlen : (mS z n.toNat).length = n.toNat * i.size := by rw [yk6, b4]
         obtain ⟨g1, g2⟩ := uB (iV d) i.size (b3.imp id bA) n.toNat _ hlen b6
         have hz' := xi2 C w z n.toNat
         have hzc : (Builtin.zeroCells z.cells n.toNat).toList = (List.range (n.toNat * z.cells.size)).map fun j => z.cells.getD (j % z.cells.size) default := by
          simp [Builtin.zeroCells, Array.getElem!_eq_getD]
         rw [← hzc] at hz'
         have hone := tA hz' b6
         rw [g2]
         exact ⟨_, _, g1, hz', fun _ => hone, AppOk.ofZeros (ok.und _ _ hd) (ok.und _ _ hd1) (ok.inf _ _ hi) hz b4 b1 b2 (.inl b5) hone⟩
       · simp at h
     · simp at h
   · simp at h
 · simp at h
theorem arr1 {α : Type} {xs : Array α} {x : α} (h : xs.toList = [x]) : xs = #[x] := by rw [← Array.toArray_toList (xs := xs), h]
theorem arr2 {α : Type} {xs : Array α} {x y : α} (h : xs.toList = [x, y]) : xs = #[x, y] := by rw [← Array.toArray_toList (xs := xs), h]
theorem lr1 {x : AV} {vs : Array Value} (h : LR C w [x] vs.toList) : ∃ u, vs = #[u] ∧ VR C w x u := by
 match hv : vs.toList, h with
 | [], h => exact absurd h.1 (by simp)
 | [u], h => exact ⟨u, arr1 hv, h.head⟩
 | _ :: _ :: _, h => exact absurd h.1 (by simp)
theorem lr2 {x y : AV} {vs : Array Value} (h : LR C w [x, y] vs.toList) : ∃ u u', vs = #[u, u'] ∧ VR C w x u ∧ VR C w y u' := by
 match hv : vs.toList, h with
 | [], h => exact absurd h.1 (by simp)
 | [u], h => exact absurd h.1 (by simp)
 | [u, u'], h => exact ⟨u, u', arr2 hv, h.head, h.tail.head⟩
 | _ :: _ :: _ :: _, h => exact absurd h.1 (by simp)
theorem ke7 (hw : WR E C S w) {sz n : Nat} {x : AV} {ux : Value} {vs : List AV} (hx : VR C w x ux) (h : uH S sz n x = some vs) (hl : vs.length = n * sz) (hn : ∀ m, nP x = some m → n ≤ m) :
 ∃ us, LR C w vs us ∧ (∀ u ∈ us, u.oneCell' = true) ∧ (Builtin.firstCells sz n ux).run E.P w = .ok us.toArray w := by
 have empty : n * sz = 0 → ∀ (base : Option Addr) (k c : Nat), (Builtin.firstCells sz n (.slice base k c)).run E.P w = .ok #[] w := fun h0 base k c => by
  cases base <;> simp [Builtin.firstCells, h0, loadCells, loadCellsFrom]
 have nil : vs = [] → n * sz = 0 := fun e => by rw [e] at hl; simpa using hl.symm
 unfold uH at h
 cases x with
 | vec id sz' xs =>
  simp only at h
  rcases hx.vec_inv with ⟨_, rfl, p, cap, rfl⟩ | ⟨fl, b, o, cap, rfl, hv⟩
  · simp [bR] at h
    have hv : vs = [] := by first | exact h | exact h.symm
    exact ⟨[], by rw [hv]; exact LR.nil _ _, fun u hu => by simp at hu, empty (nil hv) _ _ _⟩
  · by_cases h0 : n * sz = 0
    · have : vs = [] := oO (by omega)
      exact ⟨[], by rw [this]; exact LR.nil _ _, fun u hu => by simp at hu, empty h0 _ _ _⟩
    · have hnn : n ≤ xs.length := hn _ rfl
      have hsz : sz' = sz := by
       have h1 := vK n hv.flat
       match hxs : xs.take n, h, h1 with
       | [], h, _ =>
        simp [bR] at h
        have hv : vs = [] := by first | exact h | exact h.symm
        rw [hv] at hl; simp at hl; omega
       | y :: l, h, h1 =>
        obtain ⟨cs, _, a1, _, a3, _, _⟩ := nY h1
        obtain ⟨cs2, _, a4, _, a5, _, _⟩ := nY h
        rw [a1] at a4; simp at a4; subst a4; omega
      subst hsz
      have h1 := vK n hv.flat
      rw [h] at h1
      simp only [aI] at h1
      have hseg := uF hv.seg 0 (n * sz')
      simp only [cJ, aM, ← h1] at hseg
      obtain ⟨us, k1, k2⟩ := tQ hseg
      exact ⟨us, k1, tA k1 (xz6 h), run_firstCells_some w sz' n _ _ cap us (by rw [← k1.1, hl]) k2⟩
 | osl l sz' off len room =>
  simp only at h
  split at h
  · rename_i cs ho
    simp only [bB] at h
    split at h
    · rename_i hb
      simp only [aS] at hb
      obtain ⟨⟨b1, b2⟩, b3⟩ := hb
      have b1 := bA b1
      subst b1
      simp only [aI] at h
      cases hx with
      | osl _ _ _ _ _ a cap hbn hs' hlr hrc hro hcl ha =>
       by_cases h0 : n * sz' = 0
       · have : vs = [] := oO (by omega)
         exact ⟨[], by rw [this]; exact LR.nil _ _, fun u hu => by simp at hu, empty h0 _ _ _⟩
       · have hnn : n ≤ len := hn _ rfl
         have hn0 : 0 < n := Nat.pos_of_ne_zero fun e => h0 (by rw [e]; simp)
         have ha' := ha (by omega)
         subst ha'
         have hseg := uF (uO hw hbn ho) off (n * sz')
         rw [h] at hseg b3
         obtain ⟨us, k1, k2⟩ := tQ hseg
         exact ⟨us, k1, tA k1 b3, run_firstCells_some w sz' n _ _ cap us (by rw [← k1.1, hl]) k2⟩
    · simp at h
  · simp at h
 | sc u =>
  have := hx.sc_inv; subst this
  cases ux with
  | slice a k c =>
   cases a with
   | none =>
    match k, c with
    | 0, 0 =>
     simp only [bB] at h
     split at h
     · rename_i h0
       simp only [aI] at h
       exact ⟨[], by rw [← h]; exact LR.nil _ _, fun u hu => by simp at hu, empty (nil h.symm) _ _ _⟩
     · simp at h
    | 0, _ + 1 => simp at h
    | _ + 1, _ => simp at h
   | some _ => simp at h
  | _ => simp at h
 | _ => simp at h
theorem ja8 {x : AV} {ux : Value} {m : Nat} (hx : VR C w x ux) (h : nP x = some m) : ∃ base c, ux = .slice base m c := by
 unfold nP at h
 split at h
 · rename_i c
   have := hx.sc_inv; subst this
   simp at h; subst h
   exact ⟨_, _, rfl⟩
 · obtain ⟨p, cap, rfl⟩ := hx.vec_slice
   simp at h; subst h
   exact ⟨_, _, rfl⟩
 · cases hx
   simp at h; subst h
   exact ⟨_, _, rfl⟩
 · simp at h
theorem wc6 (hw : WR E C S w) {l sz off len room : Nat} {ux : Value} (hx : VR C w (.osl l sz off len room) ux) {cs vs : List AV} {us : List Value} (ho : S.obj l = some cs) (hv : LR C w vs us) (hb : off + vs.length ≤ cs.length)
 (hlen : vs.length ≤ len * sz) (hone : ∀ u ∈ us, u.oneCell' = true) : ∃ a cap w', ux = .slice (some a) len cap ∧ (storeCells a us).run E.P w = .ok () w' ∧ WR E C (S.put l (.cells (jV cs off vs))) w' ∧ Ext C w C w' := by
 cases hx with
 | osl _ _ _ _ _ a cap hbn hs hlr hrc hro hcl ha =>
  obtain ⟨w1, w2, w3, w4⟩ := ys4 hw hbn ho hv hb
  by_cases h0 : us = []
  · subst h0
    exact ⟨a, cap, _, rfl, by simp [storeCells, World.setCells], w3, w4⟩
  · have hul : 0 < us.length := List.length_pos_iff.2 h0
    have hl0 : 0 < len := Nat.pos_of_ne_zero fun e => by have := hv.1; rw [e, Nat.zero_mul] at hlen; omega
    have ha' := ha (by omega)
    subst ha'
    have := run_storeCells_cells (P := E.P) (C.mu l) (C.bs l + off) us 0 w (by simpa using w1) (by simpa using w2) hone
    simp only [aM] at this
    exact ⟨_, cap, _, rfl, this, w3, w4⟩
theorem kq0 (ok : E.Ok) (hw : WR E C S w) {ats : List TypeId} {ty : TypeId} {xs : List AV} {vs : Array Value} (hl : LR C w xs vs.toList) (h : tZ E ats xs S = some (v, S')) :
 Good E C w (do pure (.value (← Builtin.copy_ ats.toArray ty vs))) v S' := by
 unfold tZ at h
 split at h
 · rename_i t t1 l sz off len room x
   obtain ⟨ud, ux, rfl, hd, hx⟩ := lr2 hl
   split at h
   · rename_i e e' m ht ht1 hm
     split at h
     · rename_i i vs cs hi hsrc ho
       simp only [bB] at h
       split at h
       · rename_i hb
         simp only [aI, aJ] at h
         obtain ⟨rfl, rfl⟩ := h
         simp only [aS] at hb
         obtain ⟨⟨b1, b2⟩, b3⟩ := hb
         have b1 := bA b1
         have b2 := bW b2
         have b3 := bA b3
         obtain ⟨us, k1, k2, k3⟩ := ke7 hw hx hsrc b3 (fun m' hm' => by rw [hm] at hm'; simp at hm'; subst hm'; exact Nat.min_le_left _ _)
         obtain ⟨base, c, rfl⟩ := ja8 hx hm
         obtain ⟨a, cap, w', rfl, q1, q2, q3⟩ := wc6 hw hd ho k1 b2 (by rw [b3]; exact nR _ (Nat.min_le_right _ _)) k2
         refine .inl ⟨_, C, w', bQ (u := .int .i64 (Nat.min m len : Nat)) ?_, q2, q3, .sc _⟩
         simp [Builtin.copy_, cU ok ht, Builtin.lenOf, jE ok hi, b1, k3, q1, goInt]
       · simp at h
     · simp at h
   · simp at h
 · simp at h
theorem kc7 (ok : E.Ok) (hw : WR E C S w) {ats : List TypeId} {ty : TypeId} {xs : List AV} {vs : Array Value} (hl : LR C w xs vs.toList) (h : tU E ats xs S = some (v, S')) :
 Good E C w (do pure (.value (← Builtin.clear_ ats.toArray ty vs))) v S' := by
 unfold tU at h
 split at h
 · rename_i t l sz off len room
   obtain ⟨ud, rfl, hd⟩ := lr1 hl
   split at h
   · rename_i e ht
     split at h
     · rename_i i cs hi ho
       split at h
       · rename_i z hz
         simp only [bB] at h
         split at h
         · rename_i hb
           simp only [aI, aJ] at h
           obtain ⟨rfl, rfl⟩ := h
           simp only [aS] at hb
           obtain ⟨⟨⟨b1, b2⟩, b3⟩, b4⟩ := hb
           have b1 := bA b1
           have b2 := bA b2
           have b3 := bW b3
           have hzl : (mS z len).length = len * sz := by rw [yk6, b2]
           have hzr := xi2 C w z len
           have hzc : (Builtin.zeroCells z.cells len).toList = (List.range (len * z.cells.size)).map fun j => z.cells.getD (j % z.cells.size) default := by
            simp [Builtin.zeroCells, Array.getElem!_eq_getD]
           rw [← hzc] at hzr
           obtain ⟨a, cap, w', rfl, q1, q2, q3⟩ := wc6 hw hd ho hzr (by rw [hzl]; exact b3) (by rw [hzl]; exact aB _) (tA hzr b4)
           refine .inl ⟨_, C, w', bQ (u := .tuple #[]) ?_, q2, q3, .sc _⟩
           cases len with
           | zero =>
            have hn : (Builtin.zeroCells z.cells 0).toList = [] := by simp [Builtin.zeroCells]
            rw [hn] at q1
            simp [storeCells] at q1
            subst q1
            simp [Builtin.clear_, cU ok ht]
           | succ n => simp [Builtin.clear_, cU ok ht, tH ok hi hz, q1]
         · simp at h
       · simp at h
     · simp at h
   · simp at h
 · simp at h
theorem VR.udat_of {id : Nat} {xs fl : List AV} {b o cap : Nat} (hid : 2 < id) (hv : VecAt C w id 1 xs fl b o cap) : VR C w (.udat id xs) (.pointer (some ⟨b, o, none⟩)) := by
 obtain ⟨u, h1, h2⟩ := hv.seg.fun
 obtain ⟨k1, k2⟩ := hv.hd hid
 exact .udat id xs fl b o cap u hv.flat hv.lt hv.free hv.top h1 h2 ⟨hid, k1, k2⟩
theorem xr7 (ok : E.Ok) (hw : WR E C S w) {ats : Array TypeId} {ty : TypeId} {xs : List AV} {vs : Array Value} {cs : Array Bool} (hl : LR C w xs vs.toList)
 (h : bD E mu .unsafeSliceData ats.toList xs S = some (v, S')) : Good E C w (invoke (.builtin .unsafeSliceData ats ty cs) vs) v S' := by
 simp only [bD] at h
 split at h
 · simp only [aI, aJ] at h
   obtain ⟨rfl, rfl⟩ := h
   obtain ⟨u, rfl, hx⟩ := lr1 hl
   have := hx.sc_inv; subst this
   exact Good.val hw (u := .pointer none) (bQ (Go.Lib.run_unsafeSliceData_nil w ats ty 0 0)) (.sc _)
 · rename_i id sz y ys
   obtain ⟨u, rfl, hx⟩ := lr1 hl
   simp only [bB] at h
   split at h
   · rename_i hb
     simp only [aI, aJ] at h
     obtain ⟨rfl, rfl⟩ := h
     simp only [aS] at hb
     have b1 : 2 < id := bW hb.1
     have b2 := bA hb.2
     subst b2
     rcases hx.vec_inv with ⟨h0, _⟩ | ⟨fl, b, o, cap, rfl, hv⟩
     · omega
     · have hc : cap ≠ 0 := by have := hv.lc; simp at this; omega
       exact Good.val hw (u := .pointer (some ⟨b, o, none⟩)) (bQ (Go.Lib.run_unsafeSliceData_row w ats ty _ _ cap hc)) (VR.udat_of b1 hv)
   · simp at h
 · simp at h
theorem kp1 : ∀ {xs : List AV} {bs : List UInt8}, jT xs = some bs → xs.all uU = true → xs = cO bs
 | [], bs, h, _ => by simp [jT] at h; subst h; rfl
 | x :: l, bs, h, hb => by
  unfold jT at h
  split at h
  · rename_i heq; simp at heq
  · rename_i n l' heq
    simp only [List.cons.injEq] at heq
    obtain ⟨rfl, rfl⟩ := heq
    simp only [dR] at h
    obtain ⟨bs', h1, rfl⟩ := h
    simp only [lA, aS] at hb
    have h3 := kp1 h1 hb.2
    simp only [uU, aS, bZ] at hb
    have h4 : ((UInt8.ofNat n.toNat).toNat : Int) = n := by
     have : n.toNat < 256 := by omega
     simp [Nat.mod_eq_of_lt this]; omega
    simp only [cO, cF]
    rw [h4, h3]; rfl
  · simp at h
theorem xa9 (ok : E.Ok) (hw : WR E C S w) {ats : Array TypeId} {ty : TypeId} {xs : List AV} {vs : Array Value} {cs : Array Bool} (hl : LR C w xs vs.toList)
 (h : bD E mu .unsafeString ats.toList xs S = some (v, S')) : Good E C w (invoke (.builtin .unsafeString ats ty cs) vs) v S' := by
 simp only [bD] at h
 split at h
 · rename_i pt it id ys n ha
   obtain ⟨up, un, rfl, hp, hn⟩ := lr2 hl
   have := hn.sc_inv; subst this
   rw [arr2 ha]
   split at h
   · rename_i u T bs hpt hT hbs
     simp only [bB] at h
     split at h
     · rename_i hb
       simp only [aS, bZ] at hb
       obtain ⟨⟨⟨⟨b1, b2⟩, b3⟩, b4⟩, b5⟩ := hb
       have b1 := bA b1
       have b2 := bA b2
       have b5 := bW b5
       subst b1; subst b3
       simp only [aI, aJ] at h
       obtain ⟨rfl, rfl⟩ := h
       have hyb := kp1 hbs b4
       cases hp with
       | udat _ _ fl b o cap uu hfl hlt hf ht hc hr hid =>
        obtain ⟨h1, h2, h3⟩ := hid
        have hI := hw.ids id h1 h2
        have hP := hw.ity id T h1 h2 hT
        rw [h3] at hI hP
        obtain ⟨⟨i1, i1'⟩, i2, i3, i4, i5, _, i7, i8⟩ := hI
        simp only at i1 i1'
        subst i1'
        obtain ⟨c, ⟨lo, hi⟩, q1, q2⟩ := hP
        simp only at q1 q2
        have hlen : bs.length = ys.length := by rw [hyb]; simp [cO]
        have hflv : fl = cO bs := by
         rw [hyb, ym7] at hfl; simpa using hfl.symm
        cases hbs0 : bs with
        | nil =>
         have hy0 : ys.length = 0 := by rw [← hlen, hbs0]; rfl
         rw [hy0]
         exact Good.val hw (u := .string .empty) (bQ (Go.Lib.run_unsafeString_none w pt it ty _)) (.sc _)
        | cons b0 bs0 =>
         rw [← hbs0]
         have hne : bs ≠ [] := by rw [hbs0]; simp
         have hcell : ∀ j x, bs[j]? = some x → w.cell? ((⟨b, 0, none⟩ : Addr).add j) = some (.int .u8 x.toNat) := by
          intro j x hx
          have hj : j < bs.length := by
           rcases fV j bs.length with h' | h'
           · exact h'
           · simp [mJ h'] at hx
          have hfj : fl[j]? = some (.sc (.int .u8 x.toNat)) := by rw [hflv]; simp [cO, hx]
          have e1 := hc j (by rw [hflv]; simpa [cO] using hj)
          have e2 := (hr j _ hfj).sc_inv
          rw [Addr.add_mid, e1, e2]
         have hle : bs.length ≤ c.size := by
          have e1 := hcell (bs.length - 1) (bs[bs.length - 1]'(by have := List.length_pos_iff.2 hne; omega)) (by have := List.length_pos_iff.2 hne; simp)
          rw [Addr.add_mid, lD q1] at e1
          have := (Array.getElem?_eq_some_iff.1 e1).1
          omega
         have hrun := Go.Lib.run_unsafeString_row (P := E.P) w pt it ty T (ok.und _ _ hpt) b2 b c.size (oX q1) bs hne hle (by
          have : (2 : Nat) ^ 62 ≤ 9223372036854775807 := by decide
          omega) hcell
         rw [hlen] at hrun
         have htop : ys.length ≤ C.top b := by rw [← hlen]; have := ht; rw [hflv] at this; simpa [cO] using this
         obtain ⟨k1, k2⟩ := hw.freeze (o := 0) (n := ys.length) i1 hf q1 (fun i h0 hi' hb' => by
          intro fz' hfz'
          have hfp : fz'.1 = fz'.2 ∨ (fz'.1 ≤ fz'.2 ∧ fz'.2 ≤ C.top b) := by
           subst hfz'
           by_cases he : lo = hi
           · simp [he]; omega
           · simp only [he, dG]
             rcases q2 with q2 | ⟨q2, q3⟩
             · exact absurd q2 he
             · right; omega
          exact ⟨fun j hj1 hj2 => by omega, fun _ _ => hfp⟩)
         exact .inl ⟨_, C, _, bQ hrun, k1, k2, .sc _⟩
     · simp at h
   · simp at h
 · rename_i ha
   obtain ⟨up, un, rfl, hp, hn⟩ := lr2 hl
   have := hn.sc_inv; subst this
   have := hp.sc_inv; subst this
   simp only [aI, aJ] at h
   obtain ⟨rfl, rfl⟩ := h
   rw [arr2 ha]
   exact Good.val hw (u := .string .empty) (bQ (Go.Lib.run_unsafeString_none w _ _ ty _)) (.sc _)
 · simp at h
theorem wg3 (ok : E.Ok) (hw : WR E C S w) {b : Builtin} {ats : Array TypeId} {ty : TypeId} {xs : List AV} {vs : Array Value} {cs : Array Bool} (hl : LR C w xs vs.toList)
 (h : bD E mu b ats.toList xs S = some (v, S')) : Good E C w (invoke (.builtin b ats ty cs) vs) v S' := by
 cases b with
 | len =>
  match ha : ats.toList, xs, h, hl with
  | [t], [x], h, hl =>
   obtain ⟨u, rfl, hx⟩ := lr1 hl
   rw [arr1 ha]
   exact jc3 ok hw hx h
  | [], _, h, _ => simp [bD] at h
  | [_], [], h, _ => simp [bD] at h
  | [_], _ :: _ :: _, h, _ => simp [bD] at h
  | _ :: _ :: _, _, h, _ => simp [bD] at h
 | append =>
  match ha : ats.toList, xs, h, hl with
  | [t, t1], [s, x], h, hl =>
   obtain ⟨us, ux, rfl, hs, hx⟩ := lr2 hl
   rw [arr2 ha]
   exact wg4 ok hw hs hx h
  | [], _, h, _ => simp [bD] at h
  | [_], _, h, _ => simp [bD] at h
  | [_, _], [], h, _ => simp [bD] at h
  | [_, _], [_], h, _ => simp [bD] at h
  | [_, _], _ :: _ :: _ :: _, h, _ => simp [bD] at h
  | _ :: _ :: _ :: _, _, h, _ => simp [bD] at h
 | cap =>
  simp only [bD] at h
  split at h
  · rename_i t ha
    split at h
    · rename_i e hd
      simp only [aI, aJ] at h
      obtain ⟨rfl, rfl⟩ := h
      obtain ⟨u, rfl, hx⟩ := lr1 hl
      have := hx.sc_inv; subst this
      rw [arr1 ha]
      refine Good.val hw (u := .int .i64 0) ?_ (.sc _)
      simp [invoke, builtin, Builtin.cap_, cU ok hd, goInt]
    · simp at h
  · simp at h
 | copy =>
  have := kq0 (ty := ty) ok hw hl h
  rw [Array.toArray_toList] at this
  exact this
 | clear =>
  have := kc7 (ty := ty) ok hw hl h
  rw [Array.toArray_toList] at this
  exact this
 | delete =>
  have := wn9 (ty := ty) ok hw hl h
  rw [Array.toArray_toList] at this
  exact this
 | unsafeSliceData => exact xr7 ok hw hl h
 | unsafeString => exact xa9 ok hw hl h
 | min =>
  simp only [bD] at h
  split at h
  · obtain ⟨us, ux, rfl, hs, hx⟩ := lr2 hl
    simp only [aI, aJ] at h
    obtain ⟨rfl, rfl⟩ := h
    have e1 := hs.sc_inv
    have e2 := hx.sc_inv
    subst e1; subst e2
    refine Good.val hw ?_ (.sc _)
    simp [invoke, builtin, Builtin.min_, Builtin.min2]
  · simp at h
 | max =>
  simp only [bD] at h
  split at h
  · obtain ⟨us, ux, rfl, hs, hx⟩ := lr2 hl
    simp only [dR, aJ] at h
    obtain ⟨r, h1, rfl, rfl⟩ := h
    have e1 := hs.sc_inv
    have e2 := hx.sc_inv
    subst e1; subst e2
    refine Good.val hw (u := r) ?_ (sF _ _ _)
    have hr := vQ _ h1 w
    simp [invoke, builtin, Builtin.max_, hr]
  · simp at h
 | _ => simp [bD] at h
theorem kq1 (ok : E.Ok) (hcall : mA E call) (hw : WR E C S w) (ht : TR C w tm a.tmps) {c : Call} {ty : TypeId} (h : mZ E mu call tm c S = some (v, S')) :
 Good E C w (do let d ← resolve a.eval c ty; invoke d.target d.args) v S' := by
 have hargs := wo3 (E := E) (a := a) hw ht c.args.toList
 obtain ⟨callee, args, argTypes⟩ := c
 unfold mZ at h
 simp only at h hargs
 cases callee with
 | value f =>
  simp only at h
  have hf := tT (E := E) (a := a) hw ht f
  generalize E.ev tm f = F at h hf
  generalize hU : a.eval f = U at hf
  split at h
  · rename_i g first cap hF
    unfold fnOf at hF
    split at hF
    · rename_i g' f' c'
      cases hb : (f'.isEmpty && c'.isEmpty) with
      | false => rw [hb] at hF; simp at hF
      | true =>
       rw [hb] at hF
       simp only [aH, aI, aJ] at hF
       obtain ⟨rfl, rfl, rfl⟩ := hF
       have := hf.sc_inv
       subst this
       simp only [aS, Array.isEmpty_iff] at hb
       obtain ⟨rfl, rfl⟩ := hb
       split at h
       · rename_i hh he
         refine wu8 ok hw (vs := args.map a.eval) (by simpa using hargs) he h ?_
         simp [resolve, hU, Deferred.ofValue, invoke]
       · refine xb1 hcall hw (vs := args.map a.eval) (by simpa using hargs) h ?_
         simp [resolve, hU, Deferred.ofValue, invoke]
    · simp only [aI, aJ] at hF
      obtain ⟨rfl, rfl, rfl⟩ := hF
      cases hf with
      | fn _ _ _ v1 v2 hl1 hr1 hl2 hr2 =>
       have L := ((wt4 hl1 hr1).append hargs).append (wt4 hl2 hr2)
       split at h
       · rename_i hh he
         refine wu8 ok hw (vs := v1 ++ args.map a.eval ++ v2) (by simpa using L) he h ?_
         simp [resolve, hU, Deferred.ofValue, invoke]
       · refine xb1 hcall hw (vs := v1 ++ args.map a.eval ++ v2) (by simpa using L) h ?_
         simp [resolve, hU, Deferred.ofValue, invoke]
    · simp at hF
  · simp at h
 | invoke r m =>
  simp only at h
  have hr := tT (E := E) (a := a) hw ht r
  generalize E.ev tm r = X at h hr
  generalize hU : a.eval r = U at hr
  split at h
  · rename_i t x
    split at h
    · rename_i g hg
      split at h
      · simp at h
      · cases hr with
        | ifc _ _ v0 hv =>
         have L : LR C w (x :: args.toList.map (E.ev tm)) (#[v0] ++ args.map a.eval).toList := by
          simpa using LR.cons hv hargs
         refine xb1 hcall hw L h ?_
         have hm := ok.meth t m g hg v0 w
         have e0 : (#[Value.iface t v0] ++ Array.map a.eval args)[0]? = some (.iface t v0) := by rw [Array.getElem?_append_left (by simp)]; rfl
         have e1 : (Array.map a.eval args).extract 0 args.size = Array.map a.eval args := by
          rw [show args.size = (Array.map a.eval args).size by simp]; exact Array.extract_size
         simp [resolve, hU, invoke, e0, callMethod, hm, program, Sem.run, e1]
    · simp at h
  · simp at h
 | builtin b =>
  simp only at h
  show Good E C w (invoke (.builtin b argTypes ty _) (args.map a.eval)) v S'
  exact wg3 (vs := args.map a.eval) ok hw (by simpa using hargs) h
end
end Go.Abs
