/-
  append: in place or anew.
-/
import Derived.Test.YtmmnkemcplgebaaGreatDoorQAD
section
section
set_option linter.unusedSimpArgs false
set_option linter.unusedVariables false
namespace Go.Abs
open Go.RowKit
theorem flat_cons {sz : Nat} {x : AV} {l fl : List AV} (h : flat? sz (x :: l) = some fl) : ∃ cs r, cellsOf x = some cs ∧ flat? sz l = some r ∧ cs.length = sz ∧ cs.all okCell = true ∧ fl = cs ++ r := by
 simp only [flat?] at h
 split at h
 · rename_i cs r h1 h2
   split at h
   · rename_i h3
     simp only [Option.some.injEq] at h
     exact ⟨cs, r, h1, h2, h3.1, h3.2, h.symm⟩
   · simp at h
 · simp at h
theorem flat_mk {sz : Nat} {x : AV} {l cs r : List AV} (h1 : cellsOf x = some cs) (h2 : flat? sz l = some r) (h3 : cs.length = sz) (h4 : cs.all okCell = true) : flat? sz (x :: l) = some (cs ++ r) := by
 simp only [flat?, h1, h2]
 rw [if_pos ⟨h3, h4⟩]
theorem flat_length {sz : Nat} : ∀ {l fl : List AV}, flat? sz l = some fl → fl.length = l.length * sz
 | [], fl, h => by simp [flat?] at h; subst h; simp
 | x :: l, fl, h => by
  obtain ⟨cs, r, _, h2, h3, _, rfl⟩ := flat_cons h
  rw [List.length_append, h3, flat_length h2, List.length_cons, Nat.succ_mul]; omega
theorem flat_all {sz : Nat} : ∀ {l fl : List AV}, flat? sz l = some fl → fl.all okCell = true
 | [], fl, h => by simp [flat?] at h; subst h; rfl
 | x :: l, fl, h => by
  obtain ⟨cs, r, _, h2, _, h4, rfl⟩ := flat_cons h
  rw [List.all_append, h4, flat_all h2]; rfl
theorem flat_append {sz : Nat} : ∀ {a b fa fb : List AV}, flat? sz a = some fa → flat? sz b = some fb → flat? sz (a ++ b) = some (fa ++ fb)
 | [], b, fa, fb, ha, hb => by simp [flat?] at ha; subst ha; exact hb
 | x :: l, b, fa, fb, ha, hb => by
  obtain ⟨cs, r, h1, h2, h3, h4, rfl⟩ := flat_cons ha
  rw [List.append_assoc]
  exact flat_mk h1 (flat_append h2 hb) h3 h4
theorem flat_drop {sz : Nat} : ∀ (n : Nat) {a fa : List AV}, flat? sz a = some fa → flat? sz (a.drop n) = some (fa.drop (n * sz))
 | 0, _, _, h => by simpa using h
 | n + 1, [], fa, h => by simp [flat?] at h; subst h; simp [flat?]
 | n + 1, x :: l, fa, h => by
  obtain ⟨cs, r, h1, h2, h3, h4, rfl⟩ := flat_cons h
  rw [List.drop_succ_cons, Nat.succ_mul, Nat.add_comm, ← List.drop_drop, ← h3, List.drop_left, h3]
  exact flat_drop n h2
theorem flat_take {sz : Nat} : ∀ (n : Nat) {a fa : List AV}, flat? sz a = some fa → flat? sz (a.take n) = some (fa.take (n * sz))
 | 0, _, _, h => by simp [flat?]
 | n + 1, [], fa, h => by simp [flat?] at h; subst h; simp [flat?]
 | n + 1, x :: l, fa, h => by
  obtain ⟨cs, r, h1, h2, h3, h4, rfl⟩ := flat_cons h
  rw [List.take_succ_cons, Nat.succ_mul]
  have : (cs ++ r).take (n * sz + sz) = cs ++ r.take (n * sz) := by
   rw [← h3, List.take_append, List.take_of_length_le (by omega)]
   congr 2; omega
  rw [this]
  exact flat_mk h1 (flat_take n h2) h3 h4
theorem flat_get {sz : Nat} {a fa : List AV} (h : flat? sz a = some fa) {i : Nat} {x : AV} (hx : a[i]? = some x) : ∃ cs, cellsOf x = some cs ∧ cs.length = sz ∧ cs.all okCell = true ∧ (fa.drop (i * sz)).take sz = cs := by
 have h1 := flat_drop i h
 have hi : i < a.length := by
  rcases Nat.lt_or_ge i a.length with h' | h'
  · exact h'
  · simp [List.getElem?_eq_none h'] at hx
 have hx' : a[i] = x := by simpa [hi] using hx
 rw [List.drop_eq_getElem_cons hi, hx'] at h1
 obtain ⟨cs, r, k1, k2, k3, k4, k5⟩ := flat_cons h1
 refine ⟨cs, k1, k3, k4, ?_⟩
 rw [k5, ← k3, List.take_left]
theorem flat_allSz {sz : Nat} : ∀ {l : List AV}, allSz sz l = true → ∃ fl, flat? sz l = some fl
 | [], _ => ⟨[], rfl⟩
 | x :: l, h => by
  simp only [allSz, Bool.and_eq_true] at h
  obtain ⟨h1, h2⟩ := h
  cases hc : cellsOf x with
  | none => simp [hc] at h1
  | some cs =>
   simp only [hc, Bool.and_eq_true] at h1
   obtain ⟨r, hr⟩ := flat_allSz h2
   exact ⟨cs ++ r, flat_mk hc hr (Nat.eq_of_beq_eq_true h1.1) h1.2⟩
theorem byteVals_flat (l : List UInt8) : flat? 1 (byteVals l) = some (byteVals l) := by
 induction l with
 | nil => rfl
 | cons b l ih => exact flat_mk (cs := [.sc (.int .u8 b.toNat)]) rfl ih rfl rfl
theorem byteVals_rel (C : Ctx) (w : World) (l : List UInt8) : LR C w (byteVals l) (l.map fun b => Value.int .u8 b.toNat) := by
 induction l with
 | nil => exact LR.nil _ _
 | cons b l ih => exact LR.cons (.sc _) ih
section
variable {E : Env} {C : Ctx} {S S' : St} {w : World} {v : AV}
theorem seg_shift {b o : Nat} {cs : List AV} (h : Seg C w b o cs) (k n : Nat) : Seg C w b (o + k) ((cs.drop k).take n) := by
 obtain ⟨vs, k1, k2⟩ := h
 refine ⟨(vs.drop k).take n, (k1.drop _).take _, fun j u hu => ?_⟩
 rw [List.getElem?_take] at hu
 split at hu
 · rw [List.getElem?_drop] at hu
   have := k2 _ _ hu
   rwa [← Nat.add_assoc] at this
 · cases hu
theorem seg_at {b o : Nat} {cs : List AV} (h : Seg C w b o cs) : ∃ vs, LR C w cs vs ∧ ∀ j u, vs[j]? = some u → w.cell? ((⟨b, o, none⟩ : Addr).add j) = some u := by
 obtain ⟨vs, h1, h2⟩ := h
 exact ⟨vs, h1, fun j u hu => by rw [Addr.add_mid]; exact h2 j u hu⟩
theorem src_rel {x : AV} {ux : Value} {ys : List AV} {sz : Nat} {t1 : TypeId} {agg : Bool} (hw : WR E C S w) (hx : VR C w x ux) (hy : elemsS S agg sz x = some ys) (hz : 0 < sz) (hs : allSz sz ys = true)
 (hk : (∃ e', E.P.underlying t1 = some (.slice e')) ∧ (∀ s, x ≠ .sc (.string s)) ∨ E.P.underlying t1 = some .string ∧ (∃ s, x = .sc (.string s)) ∨ ys = []) (hne : ys ≠ []) :
 ∃ fl news, flat? sz ys = some fl ∧ LR C w fl news ∧ Src E.P sz t1 ux ys.length news w := by
 obtain ⟨fl, hfl⟩ := flat_allSz hs
 cases x with
 | osl l sz' off len room =>
  simp only [elemsS, cond_eq_ite] at hy
  split at hy
  · rename_i hb
    simp only [Bool.and_eq_true, Bool.or_eq_true] at hb
    have hsz := Nat.eq_of_beq_eq_true hb.1
    subst hsz
    unfold St.oslElems at hy
    split at hy
    · rename_i cs ho
      simp only [cond_eq_ite] at hy
      split at hy
      · rename_i hb2
        simp only [Bool.and_eq_true] at hb2
        have hlen := Nat.eq_of_beq_eq_true hb2.1
        simp only [Option.some.injEq] at hy
        obtain ⟨g1, g2⟩ := flat_groups agg sz' (hb.2.imp id Nat.eq_of_beq_eq_true) len _ hlen hb2.2
        rw [hy] at g1 g2
        rw [g1] at hfl; simp at hfl; subst hfl
        rcases hk with ⟨⟨e', hk⟩, _⟩ | ⟨_, s, h⟩ | h
        · cases hx with
          | osl _ _ _ _ _ a cap hbn hs' hlr hrc hro hcl ha =>
           have hseg := seg_shift (obj_seg hw hbn ho) off (len * sz')
           obtain ⟨vs, k1, k2⟩ := seg_at hseg
           have hpos : 0 < cap := by
            have : 0 < ys.length := List.length_pos_iff.2 hne
            omega
           have ha' := ha hpos
           subst ha'
           refine ⟨_, vs, g1, k1, ?_⟩
           rw [g2]
           exact Src.ofSlice w hk _ _ _ vs (by rw [← k1.1, hlen]) k2 (okCells_one k1 hb2.2)
        · simp at h
        · exact absurd h hne
      · simp at hy
    · simp at hy
  · simp at hy
 | vec id sz' xs =>
  simp only [elemsS, elemsOf, Option.some.injEq] at hy
  subst hy
  rcases hk with ⟨⟨e', hk⟩, _⟩ | ⟨_, s, h⟩ | h
  · rcases hx.vec_inv with ⟨_, rfl, _⟩ | ⟨fl', b, o, cap, rfl, hv⟩
    · exact absurd rfl hne
    · have heq : sz' = sz := by
       match xs, hne with
       | y :: l, _ =>
        obtain ⟨cs, _, h1, _, h3, _, _⟩ := flat_cons hv.flat
        obtain ⟨cs2, _, h4, _, h5, _, _⟩ := flat_cons hfl
        rw [h1] at h4; simp at h4; subst h4; omega
      subst heq
      rw [hv.flat] at hfl; simp at hfl; subst hfl
      obtain ⟨vs, k1, k2⟩ := seg_at hv.seg
      refine ⟨fl', vs, hv.flat, k1, Src.ofSlice w hk _ _ _ vs ?_ k2 (okCells_one k1 (flat_all hv.flat))⟩
      rw [← k1.1, flat_length hv.flat]
  · simp at h
  · exact absurd h hne
 | sc u =>
  have hu := hx.sc_inv
  subst hu
  cases ux with
  | string s =>
   simp only [elemsS, elemsOf, Option.some.injEq] at hy
   subst hy
   rcases hk with ⟨_, h⟩ | ⟨hk, _⟩ | h
   · exact absurd rfl (h s)
   · have h1 : sz = 1 := by
      match hl : byteVals s.data.toList, hne with
      | y :: l, _ =>
       rw [hl] at hfl
       obtain ⟨cs2, _, h4, _, h5, _, _⟩ := flat_cons hfl
       have : y ∈ byteVals s.data.toList := by rw [hl]; simp
       simp only [byteVals, List.mem_map] at this
       obtain ⟨b, _, rfl⟩ := this
       simp [cellsOf] at h4; subst h4; simpa using h5.symm
     subst h1
     refine ⟨_, byteCells s, byteVals_flat _, ?_, ?_⟩
     · exact byteVals_rel C w s.data.toList
     · have := Src.ofString (P := E.P) w hk s
       have hlen : (byteVals s.data.toList).length = s.size := by simp [byteVals]
       rw [hlen]; exact this
   · exact absurd h hne
  | slice a n c =>
   cases a with
   | none =>
    match n, c with
    | 0, 0 => simp [elemsS, elemsOf] at hy; exact absurd hy.symm (by simpa using hne)
    | 0, _ + 1 => simp [elemsS, elemsOf] at hy
    | _ + 1, _ => simp [elemsS, elemsOf] at hy
   | some _ => simp [elemsS, elemsOf] at hy
  | _ => simp [elemsS, elemsOf] at hy
 | _ => simp [elemsS, elemsOf] at hy
theorem isSpent_set {S : St} {id i : Nat} (sp : PM Unit) : ({ S with spent := sp.set id () } : St).isSpent i = (decide (i = id) || (sp.get i).isSome) := by
 simp only [St.isSpent, PM.get_set]
 by_cases h : i = id <;> simp [h]
theorem WR.spend (h : WR E C S w) {id : Nat} (hid : id < S.nid) : WR E C { S with spent := S.spent.set id () } w := by
 have hs : ∀ i, ({ S with spent := S.spent.set id () } : St).isSpent i = false → i ≠ id ∧ S.isSpent i = false := fun i hi => by
  rw [isSpent_set] at hi
  simp only [Bool.or_eq_false_iff, decide_eq_false_iff_not] at hi
  exact ⟨hi.1, hi.2⟩
 refine ⟨h.no, h.unb, h.nid, h.nid1, h.bs, h.inj, h.mub, h.objs, h.unob, fun i h0 hi => ?_, fun i j h0 hi h0' hj hsi hsj heq => h.idi i j h0 hi h0' hj (hs i hsi).2 (hs j hsj).2 heq, h.glob, fun i hi => ?_, h.shp, h.shu, h.ity⟩
 · obtain ⟨k1, k2, k3, k4, k5, k6, k7, k8⟩ := h.ids i h0 hi
   exact ⟨k1, k2, k3, k4, k5, k6, k7, fun hsp => k8 (hs i hsp).2⟩
 · rw [isSpent_set]
   refine ⟨?_, (h.fresh i hi).2⟩
   have h1 := (h.fresh i hi).1
   simp only [St.isSpent] at h1
   simp only [h1, Bool.or_false, decide_eq_false_iff_not]
   intro e
   have : S.nid ≤ i := hi
   omega
theorem Good.upd {r : Sem Next} {S1 S2 : St} (h : ∃ u C' w', r.run E.P w = .ok (.value u) w' ∧ WR E C' S1 w' ∧ Ext C w C' w' ∧ VR C' w' v u) (hs : ∀ C w, WR E C S1 w → WR E C S2 w) : Good E C w r v S2 := by
 obtain ⟨u, C', w', h1, h2, h3, h4⟩ := h
 exact .inl ⟨u, C', w', h1, hs _ _ h2, h3, h4⟩
theorem good_room (hw : WR E C S w) {e : TypeId} {id sz : Nat} {xs ys fl fy : List AV} {news : List Value} {b o cap : Nat} (hid : 2 < id) (hlive : S.isSpent id = false) (hv : VecAt C w id sz xs fl b o cap)
 (hfy : flat? sz ys = some fy) (hl : LR C w fy news) (hroom : xs.length + ys.length ≤ cap) (hne : ys ≠ []) (hit : plainRow w (C.top b) e b) {r : Sem Next}
 (hr : (∀ j, j < news.length → (w.cell? ⟨b, o + xs.length * sz + j, none⟩).isSome = true) → (∀ j, j < news.length → w.frozen? ⟨b, o + xs.length * sz + j, none⟩ = false) →
  r.run E.P w = .ok (.value (.slice (some ⟨b, o, none⟩) (xs.length + ys.length) cap)) (w.setCells b (o + xs.length * sz) news)) :
 Good E C w r (.vec S.nid sz (xs ++ ys)) { S.newId e with spent := S.spent.set id () } := by
 obtain ⟨hlt, hio⟩ := hv.hd hid
 have hI := hw.ids id hid hlt
 rw [hio] at hI
 obtain ⟨i1, i2, i3, i4, i5, ⟨c, T, fz, r1, r2, r3⟩, i7, i8⟩ := hI
 simp only at i1 i2 i3 i4 i5 r1 r2 r3 i7 i8
 have htop := i8 hlive
 have hfl := flat_length hv.flat
 have hfyl := flat_length hfy
 have hnl : news.length = ys.length * sz := by rw [← hl.1, hfyl]
 have hcapsz : (xs.length + ys.length) * sz ≤ cap * sz := Nat.mul_le_mul_right _ hroom
 rw [Nat.add_mul] at hcapsz
 have hrun := hr (fun j hj => by
  rw [cell_block r1]
  have : o + xs.length * sz + j < c.size := by omega
  simp [this])
  (fun j hj => by
   have hj' : o + xs.length * sz + j < c.size := by omega
   have hnf := r2 (o + xs.length * sz + j) (by omega) hj'
   simp [World.frozen?, r1]
   intro h1
   by_cases h2 : o + xs.length * sz + j < fz.2
   · exact absurd ⟨h1, h2⟩ hnf
   · omega)
 have hheap := heap_setCells news w c (o + xs.length * sz) r1
 have hne' : ∀ k, k ≠ b → (w.setCells b (o + xs.length * sz) news).heap[k]? = w.heap[k]? := fun k hk => heap_setCells_ne news w _ k hk
 have hsz := size_setCells (b := b) news w (o + xs.length * sz)
 let hd : Hdr := ⟨b, o, xs.length + ys.length, cap, sz⟩
 have e0 : Ext C w (C.newId hd (o + (xs.length + ys.length) * sz)) (w.setCells b (o + xs.length * sz) news) := by
  refine ⟨⟨fun _ h => ⟨h, rfl, rfl, rfl, rfl⟩, Nat.le_succ _, fun i hi => by simp only [Ctx.newId]; rw [if_neg (by omega)], fun i h1 h2 => .inr ⟨id, hid, hlt, by
   have : i = C.nid := by simp only [Ctx.newId] at h2; omega
   simp only [Ctx.newId]; rw [if_pos this, hio]⟩, fun l h1 h2 => absurd h2 h1, by omega, fun b' hb' => ?_, fun b' o' hb' hf' ho' => ?_, rfl, below_setCells i1.1 _ _ _, fun b' x hx => ?_, rfl⟩, Nat.le_refl _, fun _ h1 h2 => absurd h2 h1⟩
  · simp only [Ctx.newId]
    by_cases hbb : b' = hd.b
    · rw [if_pos hbb]
      have : b' = b := hbb
      subst this
      rw [htop, Nat.add_mul]; omega
    · rw [if_neg hbb]; exact Nat.le_refl _
  · by_cases hbb : b' = b
    · subst hbb
      refine World.cell?_setCells_out b' news _ w _ (fun _ _ => .inl ?_)
      show o' < _
      omega
    · simp only [World.cell?, hne' b' hbb]
  · by_cases hbb : b' = b
    · subst hbb
      rw [shape_block r1] at hx
      rw [shape_block hheap, setAll_size]; exact hx
    · simp only [World.shape?, hne' b' hbb] at hx ⊢; exact hx
 have hnid : C.nid = S.nid := hw.nid
 have hnewio : (C.newId hd (o + (xs.length + ys.length) * sz)).io S.nid = hd := by simp [Ctx.newId, hnid]
 have hnewtop : (C.newId hd (o + (xs.length + ys.length) * sz)).top b = o + (xs.length + ys.length) * sz := by simp [Ctx.newId, hd]
 have hfresh : S.isSpent S.nid = false := (hw.fresh _ (Nat.le_refl _)).1
 have hs : ∀ i, ({ S.newId e with spent := S.spent.set id () } : St).isSpent i = (decide (i = id) || S.isSpent i) := fun i => isSpent_set (S := S.newId e) S.spent
 have hn1 := hw.nid1
 have hsn : ({ S.newId e with spent := S.spent.set id () } : St).isSpent S.nid = false := by
  rw [hs, hfresh]
  simp; omega
 refine .inl ⟨_, C.newId hd (o + (xs.length + ys.length) * sz), _, hrun, ⟨hw.no, hw.unb, by simp [Ctx.newId, St.newId, hw.nid], by simp [St.newId]; omega, by rw [hsz]; exact hw.bs, hw.inj, fun l hl => by rw [hsz]; exact hw.mub l hl, fun l hl => ?_, hw.unob, fun i h0 hi => ?_, fun i j h0 hi h0' hj hsi hsj heq => ?_,
  fun g cs hg => (hw.glob g cs hg).ext e0, fun i hi => ?_, fun l x hl hx => ?_, hw.shu, fun i T' h0 hi hT => ?_⟩, e0, ?_⟩
 · show ObjR _ _ l (S.objs.get l) ((w.setCells b _ news).heap[C.mu l]?)
   rw [hne' _ (hv.free l hl)]
   exact (hw.objs l hl).ext e0.toExtW hl
 · simp only [Ctx.newId] at hi
   by_cases h1 : i = S.nid
   · subst h1
     rw [hnewio]
     exact ⟨i1, by rw [hsz]; exact i2, e0.free i2 i3, i4, hroom, ⟨_, T, fz, hheap, by
      show ∀ i, Ctx.top _ b ≤ i → _
      rw [setAll_size, hnewtop, Nat.add_mul]
      intro i hi1 hi2
      exact r2 i (by omega) hi2, by rw [setAll_size]; exact r3⟩, by show o + _ ≤ Ctx.top _ b; rw [hnewtop]; exact Nat.le_refl _, fun _ => by show Ctx.top _ b = _; rw [hnewtop]⟩
   · have hi' : i < C.nid := by omega
     have hio' : (C.newId hd (o + (xs.length + ys.length) * sz)).io i = C.io i := by simp only [Ctx.newId]; rw [if_neg (by omega)]
     rw [hio']
     obtain ⟨k1, k2, k3, k4, k5, ⟨c', T', fz', q1, q2, q3⟩, k7, k8⟩ := hw.ids i h0 hi'
     by_cases hbb : (C.io i).b = b
     · rw [hbb] at q1
       rw [r1] at q1
       simp only [Option.some.injEq, Obj.cells.injEq] at q1
       obtain ⟨rfl, rfl, rfl⟩ := q1
       refine ⟨k1, by rw [hsz]; exact k2, e0.free k2 k3, k4, k5, ⟨_, T, fz, by rw [hbb]; exact hheap, ?_, by rw [setAll_size]; exact q3⟩, ?_, fun hsp => ?_⟩
       · rw [hbb, hnewtop, setAll_size, Nat.add_mul]
         intro i hi1 hi2
         exact r2 i (by omega) hi2
       · rw [hbb] at k7 ⊢
         rw [hnewtop, Nat.add_mul]
         omega
       · rw [hs] at hsp
         simp only [Bool.or_eq_false_iff, decide_eq_false_iff_not] at hsp
         exact absurd (hw.idi i id h0 hi' hid hlt hsp.2 hlive (by rw [hbb, hio])) hsp.1
     · have ht' : (C.newId hd (o + (xs.length + ys.length) * sz)).top (C.io i).b = C.top (C.io i).b := by simp only [Ctx.newId]; rw [if_neg hbb]
       refine ⟨k1, by rw [hsz]; exact k2, e0.free k2 k3, k4, k5, ⟨c', T', fz', by rw [hne' _ hbb]; exact q1, by rw [ht']; exact q2, q3⟩, by rw [ht']; exact k7, fun hsp => ?_⟩
       rw [hs] at hsp
       simp only [Bool.or_eq_false_iff] at hsp
       rw [ht']; exact k8 hsp.2
 · simp only [Ctx.newId] at hi hj
   rw [hs] at hsi hsj
   simp only [Bool.or_eq_false_iff, decide_eq_false_iff_not] at hsi hsj
   have old : ∀ k, k ≠ S.nid → (C.newId hd (o + (xs.length + ys.length) * sz)).io k = C.io k := fun k hk => by simp only [Ctx.newId]; rw [if_neg (by omega)]
   by_cases h1 : i = S.nid
   · by_cases h2 : j = S.nid
     · omega
     · rw [h1, hnewio, old j h2] at heq
       exact absurd (hw.idi j id h0' (by omega) hid hlt hsj.2 hlive (by rw [← heq, hio])) hsj.1
   · by_cases h2 : j = S.nid
     · rw [h2, hnewio, old i h1] at heq
       exact absurd (hw.idi i id h0 (by omega) hid hlt hsi.2 hlive (by rw [heq, hio])) hsi.1
     · rw [old i h1, old j h2] at heq
       exact hw.idi i j h0 (by omega) h0' (by omega) hsi.2 hsj.2 heq
 · rw [hs]
   have h1 : S.nid + 1 ≤ i := hi
   refine ⟨?_, ?_⟩
   · rw [(hw.fresh i (by omega)).1]
     simp; omega
   · show (S.ity.set S.nid e).get i = none
     rw [PM.get_set, if_neg (by omega)]
     exact (hw.fresh i (by omega)).2
 · obtain ⟨k1, k2⟩ := hw.shp l x hl hx
   exact ⟨k1, e0.shape _ _ k2⟩
 · have hT' : (S.ity.set S.nid e).get i = some T' := hT
   rw [PM.get_set] at hT'
   have hi' : i < C.nid + 1 := hi
   have conv : ∀ T1 tp, (∃ c' fz', w.heap[b]? = some (.cells c' T1 fz') ∧ (fz'.1 = fz'.2 ∨ (fz'.1 ≤ fz'.2 ∧ fz'.2 ≤ C.top b))) → C.top b ≤ tp → plainRow (w.setCells b (o + xs.length * sz) news) tp T1 b := by
    intro T1 tp ⟨c', fz', k1, k2⟩ hle
    exact ⟨_, fz', heap_setCells news w c' _ k1, k2.imp (fun h => h) fun ⟨a, b⟩ => ⟨a, by omega⟩⟩
   have htp : C.top b ≤ o + (xs.length + ys.length) * sz := by rw [htop, Nat.add_mul]; omega
   by_cases h1 : i = S.nid
   · rw [if_pos h1] at hT'
     simp only [Option.some.injEq] at hT'
     rw [h1, hnewio, ← hT']
     show plainRow _ (Ctx.top _ b) e b
     rw [hnewtop]
     exact conv e _ hit htp
   · rw [if_neg h1] at hT'
     have h2 : i < C.nid := by omega
     have hio' : (C.newId hd (o + (xs.length + ys.length) * sz)).io i = C.io i := by simp only [Ctx.newId]; rw [if_neg (by omega)]
     have hk := hw.ity i T' h0 h2 hT'
     rw [hio']
     by_cases hbb : (C.io i).b = b
     · rw [hbb] at hk ⊢
       rw [hnewtop]
       exact conv T' _ hk htp
     · have ht' : (C.newId hd (o + (xs.length + ys.length) * sz)).top (C.io i).b = C.top (C.io i).b := by simp only [Ctx.newId]; rw [if_neg hbb]
       obtain ⟨c', fz', k1, k2⟩ := hk
       exact ⟨c', fz', by rw [hne' _ hbb]; exact k1, by rw [ht']; exact k2⟩
 · suffices hV : VecAt (C.newId hd (o + (xs.length + ys.length) * sz)) (w.setCells b (o + xs.length * sz) news) S.nid sz (xs ++ ys) (fl ++ fy) b o cap by
    have := hV.mk'
    rwa [List.length_append] at this
   refine ⟨hv.szpos, by simpa using hroom, flat_append hv.flat hfy, by rw [hsz]; exact i2, e0.free i2 i3, by show _ ≤ Ctx.top _ b; rw [hnewtop, List.length_append, hfl, hfyl, Nat.add_mul]; omega, ?_, fun _ => ⟨by simp [Ctx.newId, hnid], by simp [hnewio, hd]⟩, fun h => by omega, fun h => by omega⟩
   obtain ⟨vs, k1, k2⟩ := hv.seg
   refine ⟨vs ++ news, (k1.ext e0).append (hl.ext e0), fun j u hu => ?_⟩
   have hvl : vs.length = xs.length * sz := by rw [← k1.1, hfl]
   rw [List.getElem?_append] at hu
   split at hu
   · rename_i hj
     rw [← k2 j u hu]
     refine World.cell?_setCells_out b news _ w _ (fun _ _ => .inl ?_)
     show o + j < _
     omega
   · rename_i hj
     have hj2 : j - vs.length < news.length := by
      rcases Nat.lt_or_ge (j - vs.length) news.length with h' | h'
      · exact h'
      · simp [List.getElem?_eq_none h'] at hu
     have := World.cell?_setCells_in b news (o + xs.length * sz) w (fun j' hj' => by
      rw [cell_block r1]
      have : o + xs.length * sz + j' < c.size := by omega
      simp [this]) (j - vs.length) hj2
     rw [show o + j = o + xs.length * sz + (j - vs.length) by omega, this]
     simpa [hj2] using hu
end
end Go.Abs
end
end
