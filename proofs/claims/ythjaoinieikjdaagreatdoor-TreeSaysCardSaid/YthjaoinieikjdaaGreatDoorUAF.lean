/-
  append: in place or anew.
-/
import Derived.Test.YthjaoinieikjdaaGreatDoorUAE
set_option linter.unusedSimpArgs false
set_option linter.unusedVariables false
namespace Go.Abs
open Go.RowKit
theorem nY {sz : Nat} {x : AV} {l fl : List AV} (h : bR sz (x :: l) = some fl) : ∃ cs r, cellsOf x = some cs ∧ bR sz l = some r ∧ cs.length = sz ∧ cs.all cB = true ∧ fl = cs ++ r := by
 simp only [bR] at h
 split at h
 · rename_i cs r h1 h2
   split at h
   · rename_i h3
     simp only [aI] at h
     exact ⟨cs, r, h1, h2, h3.1, h3.2, h.symm⟩
   · simp at h
 · simp at h
theorem uP {sz : Nat} {x : AV} {l cs r : List AV} (h1 : cellsOf x = some cs) (h2 : bR sz l = some r) (h3 : cs.length = sz) (h4 : cs.all cB = true) : bR sz (x :: l) = some (cs ++ r) := by
 simp only [bR, h1, h2]
 rw [bN ⟨h3, h4⟩]
theorem nX {sz : Nat} : ∀ {l fl : List AV}, bR sz l = some fl → fl.length = l.length * sz
 | [], fl, h => by simp [bR] at h; subst h; simp
 | x :: l, fl, h => by
  obtain ⟨cs, r, _, h2, h3, _, rfl⟩ := nY h
  rw [dL, h3, nX h2, aY, Nat.succ_mul]; omega
theorem xz6 {sz : Nat} : ∀ {l fl : List AV}, bR sz l = some fl → fl.all cB = true
 | [], fl, h => by simp [bR] at h; subst h; rfl
 | x :: l, fl, h => by
  obtain ⟨cs, r, _, h2, _, h4, rfl⟩ := nY h
  rw [List.all_append, h4, xz6 h2]; rfl
theorem yu2 {sz : Nat} : ∀ {a b fa fb : List AV}, bR sz a = some fa → bR sz b = some fb → bR sz (a ++ b) = some (fa ++ fb)
 | [], b, fa, fb, ha, hb => by simp [bR] at ha; subst ha; exact hb
 | x :: l, b, fa, fb, ha, hb => by
  obtain ⟨cs, r, h1, h2, h3, h4, rfl⟩ := nY ha
  rw [pT]
  exact uP h1 (yu2 h2 hb) h3 h4
theorem xn8 {sz : Nat} : ∀ (n : Nat) {a fa : List AV}, bR sz a = some fa → bR sz (a.drop n) = some (fa.drop (n * sz))
 | 0, _, _, h => by simpa using h
 | n + 1, [], fa, h => by simp [bR] at h; subst h; simp [bR]
 | n + 1, x :: l, fa, h => by
  obtain ⟨cs, r, h1, h2, h3, h4, rfl⟩ := nY h
  rw [rQ, Nat.succ_mul, Nat.add_comm, ← nT, ← h3, List.drop_left, h3]
  exact xn8 n h2
theorem vK {sz : Nat} : ∀ (n : Nat) {a fa : List AV}, bR sz a = some fa → bR sz (a.take n) = some (fa.take (n * sz))
 | 0, _, _, h => by simp [bR]
 | n + 1, [], fa, h => by simp [bR] at h; subst h; simp [bR]
 | n + 1, x :: l, fa, h => by
  obtain ⟨cs, r, h1, h2, h3, h4, rfl⟩ := nY h
  rw [List.take_succ_cons, Nat.succ_mul]
  have : (cs ++ r).take (n * sz + sz) = cs ++ r.take (n * sz) := by
   rw [← h3, List.take_append, qT (by omega)]
   congr 2; omega
  rw [this]
  exact uP h1 (vK n h2) h3 h4
theorem jc7 {sz : Nat} {a fa : List AV} (h : bR sz a = some fa) {i : Nat} {x : AV} (hx : a[i]? = some x) : ∃ cs, cellsOf x = some cs ∧ cs.length = sz ∧ cs.all cB = true ∧ (fa.drop (i * sz)).take sz = cs := by
 have h1 := xn8 i h
 have hi : i < a.length := by
  rcases fV i a.length with h' | h'
  · exact h'
  · simp [mJ h'] at hx
 have hx' : a[i] = x := by simpa [hi] using hx
 rw [dJ hi, hx'] at h1
 obtain ⟨cs, r, k1, k2, k3, k4, k5⟩ := nY h1
 refine ⟨cs, k1, k3, k4, ?_⟩
 rw [k5, ← k3, List.take_left]
theorem xv2 {sz : Nat} : ∀ {l : List AV}, iO sz l = true → ∃ fl, bR sz l = some fl
 | [], _ => ⟨[], rfl⟩
 | x :: l, h => by
  simp only [iO, aS] at h
  obtain ⟨h1, h2⟩ := h
  cases hc : cellsOf x with
  | none => simp [hc] at h1
  | some cs =>
   simp only [hc, aS] at h1
   obtain ⟨r, hr⟩ := xv2 h2
   exact ⟨cs ++ r, uP hc hr (bA h1.1) h1.2⟩
theorem ym7 (l : List UInt8) : bR 1 (cO l) = some (cO l) := by
 induction l with
 | nil => rfl
 | cons b l ih => exact uP (cs := [.sc (.int .u8 b.toNat)]) rfl ih rfl rfl
theorem xe2 (C : Ctx) (w : World) (l : List UInt8) : LR C w (cO l) (l.map fun b => Value.int .u8 b.toNat) := by
 induction l with
 | nil => exact LR.nil _ _
 | cons b l ih => exact LR.cons (.sc _) ih
section
variable {E : Env} {C : Ctx} {S S' : St} {w : World} {v : AV}
theorem uF {b o : Nat} {cs : List AV} (h : Seg C w b o cs) (k n : Nat) : Seg C w b (o + k) ((cs.drop k).take n) := by
 obtain ⟨vs, k1, k2⟩ := h
 refine ⟨(vs.drop k).take n, (k1.drop _).take _, fun j u hu => ?_⟩
 rw [oR] at hu
 split at hu
 · rw [jM] at hu
   have := k2 _ _ hu
   rwa [← kD] at this
 · cases hu
theorem tQ {b o : Nat} {cs : List AV} (h : Seg C w b o cs) : ∃ vs, LR C w cs vs ∧ ∀ j u, vs[j]? = some u → w.cell? ((⟨b, o, none⟩ : Addr).add j) = some u := by
 obtain ⟨vs, h1, h2⟩ := h
 exact ⟨vs, h1, fun j u hu => by rw [Addr.add_mid]; exact h2 j u hu⟩
theorem src_rel {x : AV} {ux : Value} {ys : List AV} {sz : Nat} {t1 : TypeId} {agg : Bool} (hw : WR E C S w) (hx : VR C w x ux) (hy : fG S agg sz x = some ys) (hz : 0 < sz) (hs : iO sz ys = true)
 (hk : (∃ e', E.P.underlying t1 = some (.slice e')) ∧ (∀ s, x ≠ .sc (.string s)) ∨ E.P.underlying t1 = some .string ∧ (∃ s, x = .sc (.string s)) ∨ ys = []) (hne : ys ≠ []) :
 ∃ fl news, bR sz ys = some fl ∧ LR C w fl news ∧ Src E.P sz t1 ux ys.length news w := by
 obtain ⟨fl, hfl⟩ := xv2 hs
 cases x with
 | osl l sz' off len room =>
  simp only [fG, bB] at hy
  split at hy
  · rename_i hb
    simp only [aS, eF] at hb
    have hsz := bA hb.1
    subst hsz
    unfold St.oslElems at hy
    split at hy
    · rename_i cs ho
      simp only [bB] at hy
      split at hy
      · rename_i hb2
        simp only [aS] at hb2
        have hlen := bA hb2.1
        simp only [aI] at hy
        obtain ⟨g1, g2⟩ := uB agg sz' (hb.2.imp id bA) len _ hlen hb2.2
        rw [hy] at g1 g2
        rw [g1] at hfl; simp at hfl; subst hfl
        rcases hk with ⟨⟨e', hk⟩, _⟩ | ⟨_, s, h⟩ | h
        · cases hx with
          | osl _ _ _ _ _ a cap hbn hs' hlr hrc hro hcl ha =>
           have hseg := uF (uO hw hbn ho) off (len * sz')
           obtain ⟨vs, k1, k2⟩ := tQ hseg
           have hpos : 0 < cap := by
            have : 0 < ys.length := List.length_pos_iff.2 hne
            omega
           have ha' := ha hpos
           subst ha'
           refine ⟨_, vs, g1, k1, ?_⟩
           rw [g2]
           exact Src.ofSlice w hk _ _ _ vs (by rw [← k1.1, hlen]) k2 (tA k1 hb2.2)
        · simp at h
        · exact absurd h hne
      · simp at hy
    · simp at hy
  · simp at hy
 | vec id sz' xs =>
  simp only [fG, gY, aI] at hy
  subst hy
  rcases hk with ⟨⟨e', hk⟩, _⟩ | ⟨_, s, h⟩ | h
  · rcases hx.vec_inv with ⟨_, rfl, _⟩ | ⟨fl', b, o, cap, rfl, hv⟩
    · exact absurd rfl hne
    · have heq : sz' = sz := by
       match xs, hne with
       | y :: l, _ =>
        obtain ⟨cs, _, h1, _, h3, _, _⟩ := nY hv.flat
        obtain ⟨cs2, _, h4, _, h5, _, _⟩ := nY hfl
        rw [h1] at h4; simp at h4; subst h4; omega
      subst heq
      rw [hv.flat] at hfl; simp at hfl; subst hfl
      obtain ⟨vs, k1, k2⟩ := tQ hv.seg
      refine ⟨fl', vs, hv.flat, k1, Src.ofSlice w hk _ _ _ vs ?_ k2 (tA k1 (xz6 hv.flat))⟩
      rw [← k1.1, nX hv.flat]
  · simp at h
  · exact absurd h hne
 | sc u =>
  have hu := hx.sc_inv
  subst hu
  cases ux with
  | string s =>
   simp only [fG, gY, aI] at hy
   subst hy
   rcases hk with ⟨_, h⟩ | ⟨hk, _⟩ | h
   · exact absurd rfl (h s)
   · have h1 : sz = 1 := by
      match hl : cO s.data.toList, hne with
      | y :: l, _ =>
       rw [hl] at hfl
       obtain ⟨cs2, _, h4, _, h5, _, _⟩ := nY hfl
       have : y ∈ cO s.data.toList := by rw [hl]; simp
       simp only [cO, List.mem_map] at this
       obtain ⟨b, _, rfl⟩ := this
       simp [cellsOf] at h4; subst h4; simpa using h5.symm
     subst h1
     refine ⟨_, byteCells s, ym7 _, ?_, ?_⟩
     · exact xe2 C w s.data.toList
     · have := Src.ofString (P := E.P) w hk s
       have hlen : (cO s.data.toList).length = s.size := by simp [cO]
       rw [hlen]; exact this
   · exact absurd h hne
  | slice a n c =>
   cases a with
   | none =>
    match n, c with
    | 0, 0 => simp [fG, gY] at hy; exact absurd hy.symm (by simpa using hne)
    | 0, _ + 1 => simp [fG, gY] at hy
    | _ + 1, _ => simp [fG, gY] at hy
   | some _ => simp [fG, gY] at hy
  | _ => simp [fG, gY] at hy
 | _ => simp [fG, gY] at hy
theorem yt8 {S : St} {id i : Nat} (sp : PM Unit) : ({ S with spent := sp.set id () } : St).isSpent i = (decide (i = id) || (sp.get i).isSome) := by
 simp only [St.isSpent, PM.get_set]
 by_cases h : i = id <;> simp [h]
theorem WR.spend (h : WR E C S w) {id : Nat} (hid : id < S.nid) : WR E C { S with spent := S.spent.set id () } w := by
 have hs : ∀ i, ({ S with spent := S.spent.set id () } : St).isSpent i = false → i ≠ id ∧ S.isSpent i = false := fun i hi => by
  rw [yt8] at hi
  simp only [oQ, dP] at hi
  exact ⟨hi.1, hi.2⟩
 refine ⟨h.no, h.unb, h.nid, h.nid1, h.bs, h.inj, h.mub, h.objs, h.unob, fun i h0 hi => ?_, fun i j h0 hi h0' hj hsi hsj heq => h.idi i j h0 hi h0' hj (hs i hsi).2 (hs j hsj).2 heq, h.glob, fun i hi => ?_, h.shp, h.shu, h.ity⟩
 · obtain ⟨k1, k2, k3, k4, k5, k6, k7, k8⟩ := h.ids i h0 hi
   exact ⟨k1, k2, k3, k4, k5, k6, k7, fun hsp => k8 (hs i hsp).2⟩
 · rw [yt8]
   refine ⟨?_, (h.fresh i hi).2⟩
   have h1 := (h.fresh i hi).1
   simp only [St.isSpent] at h1
   simp only [h1, fU, dP]
   intro e
   have : S.nid ≤ i := hi
   omega
theorem Good.upd {r : Sem Next} {S1 S2 : St} (h : ∃ u C' w', r.run E.P w = .ok (.value u) w' ∧ WR E C' S1 w' ∧ Ext C w C' w' ∧ VR C' w' v u) (hs : ∀ C w, WR E C S1 w → WR E C S2 w) : Good E C w r v S2 := by
 obtain ⟨u, C', w', h1, h2, h3, h4⟩ := h
 exact .inl ⟨u, C', w', h1, hs _ _ h2, h3, h4⟩
theorem kp6 (hw : WR E C S w) {e : TypeId} {id sz : Nat} {xs ys fl fy : List AV} {news : List Value} {b o cap : Nat} (hid : 2 < id) (hlive : S.isSpent id = false) (hv : VecAt C w id sz xs fl b o cap)
 (hfy : bR sz ys = some fy) (hl : LR C w fy news) (hroom : xs.length + ys.length ≤ cap) (hne : ys ≠ []) (hit : yM w (C.top b) e b) {r : Sem Next}
 (hr : (∀ j, j < news.length → (w.cell? ⟨b, o + xs.length * sz + j, none⟩).isSome = true) → (∀ j, j < news.length → w.frozen? ⟨b, o + xs.length * sz + j, none⟩ = false) →
  r.run E.P w = .ok (.value (.slice (some ⟨b, o, none⟩) (xs.length + ys.length) cap)) (w.setCells b (o + xs.length * sz) news)) :
 Good E C w r (.vec S.nid sz (xs ++ ys)) { S.newId e with spent := S.spent.set id () } := by
 obtain ⟨hlt, hio⟩ := hv.hd hid
 have hI := hw.ids id hid hlt
 rw [hio] at hI
 obtain ⟨i1, i2, i3, i4, i5, ⟨c, T, fz, r1, r2, r3⟩, i7, i8⟩ := hI
 simp only at i1 i2 i3 i4 i5 r1 r2 r3 i7 i8
 have htop := i8 hlive
 have hfl := nX hv.flat
 have hfyl := nX hfy
 have hnl : news.length = ys.length * sz := by rw [← hl.1, hfyl]
 have hcapsz : (xs.length + ys.length) * sz ≤ cap * sz := nR _ hroom
 rw [lC] at hcapsz
 have hrun := hr (fun j hj => by
  rw [lD r1]
  have : o + xs.length * sz + j < c.size := by omega
  simp [this])
  (fun j hj => by
   have hj' : o + xs.length * sz + j < c.size := by omega
   have hnf := r2 (o + xs.length * sz + j) (by omega) hj'
   simp [World.frozen?, r1]
   intro h1
   by_cases h2 : o + xs.length * sz + j < fz.2
   · exact absurd ⟨h1, h2⟩ hnf
   · omega)
 have hheap := vB news w c (o + xs.length * sz) r1
 have hne' : ∀ k, k ≠ b → (w.setCells b (o + xs.length * sz) news).heap[k]? = w.heap[k]? := fun k hk => wX news w _ k hk
 have hsz := wZ (b := b) news w (o + xs.length * sz)
 let hd : Hdr := ⟨b, o, xs.length + ys.length, cap, sz⟩
 have e0 : Ext C w (C.newId hd (o + (xs.length + ys.length) * sz)) (w.setCells b (o + xs.length * sz) news) := by
  refine ⟨⟨fun _ h => ⟨h, rfl, rfl, rfl, rfl⟩, nV _, fun i hi => by simp only [Ctx.newId]; rw [aR (by omega)], fun i h1 h2 => .inr ⟨id, hid, hlt, by
   have : i = C.nid := by simp only [Ctx.newId] at h2; omega
   simp only [Ctx.newId]; rw [bN this, hio]⟩, fun l h1 h2 => absurd h2 h1, by omega, fun b' hb' => ?_, fun b' o' hb' hf' ho' => ?_, rfl, wY i1.1 _ _ _, fun b' x hx => ?_, rfl⟩, aB _, fun _ h1 h2 => absurd h2 h1⟩
  · simp only [Ctx.newId]
    by_cases hbb : b' = hd.b
    · rw [bN hbb]
      have : b' = b := hbb
      subst this
      rw [htop, lC]; omega
    · rw [aR hbb]; exact aB _
  · by_cases hbb : b' = b
    · subst hbb
      refine World.cell?_setCells_out b' news _ w _ (fun _ _ => .inl ?_)
      show o' < _
      omega
    · simp only [World.cell?, hne' b' hbb]
  · by_cases hbb : b' = b
    · subst hbb
      rw [oX r1] at hx
      rw [oX hheap, nW]; exact hx
    · simp only [World.shape?, hne' b' hbb] at hx ⊢; exact hx
 have hnid : C.nid = S.nid := hw.nid
 have hnewio : (C.newId hd (o + (xs.length + ys.length) * sz)).io S.nid = hd := by simp [Ctx.newId, hnid]
 have hnewtop : (C.newId hd (o + (xs.length + ys.length) * sz)).top b = o + (xs.length + ys.length) * sz := by simp [Ctx.newId, hd]
 have hfresh : S.isSpent S.nid = false := (hw.fresh _ (aB _)).1
 have hs : ∀ i, ({ S.newId e with spent := S.spent.set id () } : St).isSpent i = (decide (i = id) || S.isSpent i) := fun i => yt8 (S := S.newId e) S.spent
 have hn1 := hw.nid1
 have hsn : ({ S.newId e with spent := S.spent.set id () } : St).isSpent S.nid = false := by
  rw [hs, hfresh]
  simp; omega
 refine .inl ⟨_, C.newId hd (o + (xs.length + ys.length) * sz), _, hrun, ⟨hw.no, hw.unb, by simp [Ctx.newId, St.newId, hw.nid], by simp [St.newId]; omega, by rw [hsz]; exact hw.bs, hw.inj, fun l hl => by rw [hsz]; exact hw.mub l hl, fun l hl => ?_, hw.unob, fun i h0 hi => ?_, fun i j h0 hi h0' hj hsi hsj heq => ?_,
  fun g cs hg => (hw.glob g cs hg).ext e0, fun i hi => ?_, fun l x hl hx => ?_, hw.shu, fun i T' h0 hi hT => ?_⟩, e0, ?_⟩
 · show ObjR _ _ l (S.objs.get l) ((w.setCells b _ news).heap[C.mu l]?)
   rw [hne' _ (hv.free l hl)]
   exact (hw.objs l hl).ext e0.toExtW hl
 · simp only [Ctx.newId] at hi
   by_cases h1 : i = S.nid
   · subst h1
     rw [hnewio]
     exact ⟨i1, by rw [hsz]; exact i2, e0.free i2 i3, i4, hroom, ⟨_, T, fz, hheap, by
      show ∀ i, Ctx.top _ b ≤ i → _
      rw [nW, hnewtop, lC]
      intro i hi1 hi2
      exact r2 i (by omega) hi2, by rw [nW]; exact r3⟩, by show o + _ ≤ Ctx.top _ b; rw [hnewtop]; exact aB _, fun _ => by show Ctx.top _ b = _; rw [hnewtop]⟩
   · have hi' : i < C.nid := by omega
     have hio' : (C.newId hd (o + (xs.length + ys.length) * sz)).io i = C.io i := by simp only [Ctx.newId]; rw [aR (by omega)]
     rw [hio']
     obtain ⟨k1, k2, k3, k4, k5, ⟨c', T', fz', q1, q2, q3⟩, k7, k8⟩ := hw.ids i h0 hi'
     by_cases hbb : (C.io i).b = b
     · rw [hbb] at q1
       rw [r1] at q1
       simp only [aI, Obj.cells.injEq] at q1
       obtain ⟨rfl, rfl, rfl⟩ := q1
       refine ⟨k1, by rw [hsz]; exact k2, e0.free k2 k3, k4, k5, ⟨_, T, fz, by rw [hbb]; exact hheap, ?_, by rw [nW]; exact q3⟩, ?_, fun hsp => ?_⟩
       · rw [hbb, hnewtop, nW, lC]
         intro i hi1 hi2
         exact r2 i (by omega) hi2
       · rw [hbb] at k7 ⊢
         rw [hnewtop, lC]
         omega
       · rw [hs] at hsp
         simp only [oQ, dP] at hsp
         exact absurd (hw.idi i id h0 hi' hid hlt hsp.2 hlive (by rw [hbb, hio])) hsp.1
     · have ht' : (C.newId hd (o + (xs.length + ys.length) * sz)).top (C.io i).b = C.top (C.io i).b := by simp only [Ctx.newId]; rw [aR hbb]
       refine ⟨k1, by rw [hsz]; exact k2, e0.free k2 k3, k4, k5, ⟨c', T', fz', by rw [hne' _ hbb]; exact q1, by rw [ht']; exact q2, q3⟩, by rw [ht']; exact k7, fun hsp => ?_⟩
       rw [hs] at hsp
       simp only [oQ] at hsp
       rw [ht']; exact k8 hsp.2
 · simp only [Ctx.newId] at hi hj
   rw [hs] at hsi hsj
   simp only [oQ, dP] at hsi hsj
   have old : ∀ k, k ≠ S.nid → (C.newId hd (o + (xs.length + ys.length) * sz)).io k = C.io k := fun k hk => by simp only [Ctx.newId]; rw [aR (by omega)]
   by_cases h1 : i = S.nid
   · by_cases h2 : j = S.nid
     · omega
     · rw [h1, hnewio, old j h2] at heq
       exact absurd (hw.idi j id h0' (by omega) hid hlt hsj.2 hlive (by rw [← heq, hio])) hsj.1
   · by_cases h2 : j = S.nid
     · rw [h2, hnewio, old i h1] at heq
       exact absurd (hw.idi i id h0 (by omega) hid hlt hsi.2 hlive (by rw [heq, hio])) hsi.1
     · rw [old i h1, old j h2] at heq
       exact hw.idi i j h0 (by omega) h0' (by omega) hsi.2 hsj.2 heq
 · rw [hs]
   have h1 : S.nid + 1 ≤ i := hi
   refine ⟨?_, ?_⟩
   · rw [(hw.fresh i (by omega)).1]
     simp; omega
   · show (S.ity.set S.nid e).get i = none
     rw [PM.get_set, aR (by omega)]
     exact (hw.fresh i (by omega)).2
 · obtain ⟨k1, k2⟩ := hw.shp l x hl hx
   exact ⟨k1, e0.shape _ _ k2⟩
 · have hT' : (S.ity.set S.nid e).get i = some T' := hT
   rw [PM.get_set] at hT'
   have hi' : i < C.nid + 1 := hi
   have conv : ∀ T1 tp, (∃ c' fz', w.heap[b]? = some (.cells c' T1 fz') ∧ (fz'.1 = fz'.2 ∨ (fz'.1 ≤ fz'.2 ∧ fz'.2 ≤ C.top b))) → C.top b ≤ tp → yM (w.setCells b (o + xs.length * sz) news) tp T1 b := by
    intro T1 tp ⟨c', fz', k1, k2⟩ hle
    exact ⟨_, fz', vB news w c' _ k1, k2.imp (fun h => h) fun ⟨a, b⟩ => ⟨a, by omega⟩⟩
   have htp : C.top b ≤ o + (xs.length + ys.length) * sz := by rw [htop, lC]; omega
   by_cases h1 : i = S.nid
   · rw [bN h1] at hT'
     simp only [aI] at hT'
     rw [h1, hnewio, ← hT']
     show yM _ (Ctx.top _ b) e b
     rw [hnewtop]
     exact conv e _ hit htp
   · rw [aR h1] at hT'
     have h2 : i < C.nid := by omega
     have hio' : (C.newId hd (o + (xs.length + ys.length) * sz)).io i = C.io i := by simp only [Ctx.newId]; rw [aR (by omega)]
     have hk := hw.ity i T' h0 h2 hT'
     rw [hio']
     by_cases hbb : (C.io i).b = b
     · rw [hbb] at hk ⊢
       rw [hnewtop]
       exact conv T' _ hk htp
     · have ht' : (C.newId hd (o + (xs.length + ys.length) * sz)).top (C.io i).b = C.top (C.io i).b := by simp only [Ctx.newId]; rw [aR hbb]
       obtain ⟨c', fz', k1, k2⟩ := hk
       exact ⟨c', fz', by rw [hne' _ hbb]; exact k1, by rw [ht']; exact k2⟩
 · suffices hV : VecAt (C.newId hd (o + (xs.length + ys.length) * sz)) (w.setCells b (o + xs.length * sz) news) S.nid sz (xs ++ ys) (fl ++ fy) b o cap by
    have := hV.mk'
    rwa [dL] at this
   refine ⟨hv.szpos, by simpa using hroom, yu2 hv.flat hfy, by rw [hsz]; exact i2, e0.free i2 i3, by show _ ≤ Ctx.top _ b; rw [hnewtop, dL, hfl, hfyl, lC]; omega, ?_, fun _ => ⟨by simp [Ctx.newId, hnid], by simp [hnewio, hd]⟩, fun h => by omega, fun h => by omega⟩
   obtain ⟨vs, k1, k2⟩ := hv.seg
   refine ⟨vs ++ news, (k1.ext e0).append (hl.ext e0), fun j u hu => ?_⟩
   have hvl : vs.length = xs.length * sz := by rw [← k1.1, hfl]
   rw [List.getElem?_append] at hu
   split at hu
   · rename_i hj
     rw [← k2 j u hu]
     refine World.cell?_setCells_out b news _ w _ (fun _ _ => .inl ?_)
     show o + j < _
     omega
   · rename_i hj
     have hj2 : j - vs.length < news.length := by
      rcases fV (j - vs.length) news.length with h' | h'
      · exact h'
      · simp [mJ h'] at hu
     have := World.cell?_setCells_in b news (o + xs.length * sz) w (fun j' hj' => by
      rw [lD r1]
      have : o + xs.length * sz + j' < c.size := by omega
      simp [this]) (j - vs.length) hj2
     rw [show o + j = o + xs.length * sz + (j - vs.length) by omega, this]
     simpa [hj2] using hu
end
end Go.Abs
