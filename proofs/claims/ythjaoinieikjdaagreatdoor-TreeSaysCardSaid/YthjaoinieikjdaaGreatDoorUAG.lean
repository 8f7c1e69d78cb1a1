/-
  append, slice expressions, addresses, parts, conversions: the evaluator's stand to the model's.
-/
import Derived.Test.YthjaoinieikjdaaGreatDoorUAF
set_option linter.unusedSimpArgs false
set_option linter.unusedVariables false
namespace Go.Abs
open Go.RowKit
section
variable {E : Env} {C : Ctx} {S S' : St} {w : World} {v : AV}
structure AppOk (E : Env) (w : World) (t t1 ty e : TypeId) (ti : TypeInfo) (ux : Value) (n : Nat) (news : List Value) : Prop where
 len : news.length = n * ti.size
 nil0 : n = 0 → ∀ base sLen sCap, sLen ≤ sCap → (Builtin.append_ #[t, t1] ty #[.slice base sLen sCap, ux]).run E.P w = .ok (.slice base sLen sCap) w
 room : ∀ b off sLen sCap, sLen + n ≤ sCap → (∀ j, j < news.length → (w.cell? ⟨b, off + sLen * ti.size + j, none⟩).isSome = true) → (∀ j, j < news.length → w.frozen? ⟨b, off + sLen * ti.size + j, none⟩ = false) →
  (Builtin.append_ #[t, t1] ty #[.slice (some ⟨b, off, none⟩) sLen sCap, ux]).run E.P w = .ok (.slice (some ⟨b, off, none⟩) (sLen + n) sCap) (w.setCells b (off + sLen * ti.size) news)
 grow : ∀ z base sLen sCap olds, ti.zero = some z → (Builtin.firstCells ti.size sLen (.slice base sLen sCap)).run E.P w.drew = .ok olds.toArray w.drew → sCap < sLen + n → (sLen + n) * (ti.bytes + 1) ≤ 2 ^ 46 →
  (Builtin.append_ #[t, t1] ty #[.slice base sLen sCap, ux]).run E.P w = .ok (.slice (some ⟨w.heap.size, 0, none⟩) (sLen + n) (grownCap w (sLen + n) sCap e))
   (w.drew.alloc (.cells ((olds ++ news).toArray ++ Builtin.zeroCells z.cells (grownCap w (sLen + n) sCap e - (sLen + n))) e))
theorem yt9 {n b : Nat} (h : n * (b + 1) ≤ 2 ^ 46) : n ≤ 2 ^ 46 ∧ n * b ≤ 140737488355328 :=
 ⟨cK (Nat.le_mul_of_pos_right _ (Nat.succ_pos _)) h, cK (Nat.mul_le_mul_left _ (nV b)) (cK h (by decide))⟩
theorem AppOk.ofSrc {t t1 ty e : TypeId} {ti : TypeInfo} {ux : Value} {n : Nat} {news : List Value} (ht : E.P.underlying t = some (.slice e)) (hi : E.P.info? e = some ti) (h : Src E.P ti.size t1 ux n news w) :
 AppOk E w t t1 ty e ti ux n news where
 len := h.newsLen
 nil0 := fun h0 base sLen sCap hle => by
  subst h0
  have hnil : news = [] := oO (by rw [h.newsLen]; simp)
  have hc := h.cells
  have hl := h.len w
  rw [hnil] at hc
  rcases h.kind with ⟨e', h1⟩ | h1 <;> cases base <;> simp [Builtin.append_, run_underlying ht, run_underlying h1, sizeOf, typeInfo, hi, hl, hc, hle, storeCells]
 room := fun b off sLen sCap h1 h2 h3 => run_append_room_src w t t1 ty e ti ht hi b off sLen sCap ux n news h h1 h2 h3
 grow := fun z base sLen sCap olds hz hold hlt hbd => by
  obtain ⟨g1, g2⟩ := yt9 hbd
  exact run_append_grow_src w t t1 ty e ti z ht hi hz base sLen sCap olds hold ux n news h hlt (by
   have : (2 : Nat) ^ 46 ≤ 9223372036854775807 := by decide
   omega) (growslice_fits hlt g2)
theorem xe6 (z : Array Value) (n : Nat) : (Builtin.zeroCells z n).toList.length = n * z.size := by simp [Builtin.zeroCells]
theorem AppOk.ofZeros {t t1 ty e : TypeId} {ti : TypeInfo} {z : Value} {k k1 : IntKind} {n : Int} (ht : E.P.underlying t = some (.slice e)) (h1 : E.P.underlying t1 = some (.int k1)) (hi : E.P.info? e = some ti) (hz : ti.zero = some z)
 (hzs : z.cells.size = ti.size) (h0 : 0 ≤ n) (hn : n < 2 ^ 46) (hb : n.toNat * (ti.bytes + 1) ≤ 2 ^ 46 ∨ n = 0) (hone : ∀ u ∈ (Builtin.zeroCells z.cells n.toNat).toList, u.oneCell' = true) :
 AppOk E w t t1 ty e ti (.int k n) n.toNat (Builtin.zeroCells z.cells n.toNat).toList := by
 have wn : IntKind.i64.wrap n = n := by rw [IntKind.wrap_i64]; omega
 have n0 : ¬ n < 0 := by omega
 have hnn : (n.toNat : Int) = n := sW h0
 have hlen : (Builtin.zeroCells z.cells n.toNat).toList.length = n.toNat * ti.size := by rw [xe6, hzs]
 have n2 : ¬ (281474976710656 < n * (ti.bytes : Int)) := by
  rcases hb with hb | hb
  · have := (yt9 hb).2
    have h2 : ((n.toNat * ti.bytes : Nat) : Int) ≤ 140737488355328 := Int.ofNat_le.2 this
    rw [Int.natCast_mul, hnn] at h2
    omega
  · subst hb; simp
 refine ⟨hlen, fun hn0 base sLen sCap hle => ?_, fun b off sLen sCap hr hc hf => ?_, fun z' base sLen sCap olds hz' hold hlt hbd => ?_⟩
 · cases base <;> simp [Builtin.append_, run_underlying ht, run_underlying h1, sizeOf, typeInfo, hi, asInt, asIntOf, wn, n0, n2, hn0, hle, storeCells]
 · have hst := run_storeCells_cells (P := E.P) b (off + sLen * ti.size) (Builtin.zeroCells z.cells n.toNat).toList 0 w (by simpa using hc) (by simpa using hf) hone
   simp only [aM] at hst
   by_cases hzr : n.toNat * ti.size = 0
   · have hnil : (Builtin.zeroCells z.cells n.toNat).toList = [] := oO (by rw [hlen]; exact hzr)
     rw [hnil]
     simp [Builtin.append_, run_underlying ht, run_underlying h1, sizeOf, typeInfo, hi, asInt, asIntOf, wn, n0, n2, hr, hzr, storeCells, World.setCells]
   · simp [Builtin.append_, run_underlying ht, run_underlying h1, sizeOf, typeInfo, zeroValue, hz, hi, asInt, asIntOf, wn, n0, n2, hr, hzr, Addr.add_lit, hst]
 · obtain rfl : z' = z := by rw [hz] at hz'; simpa using hz'.symm
   obtain ⟨g1, g2⟩ := yt9 hbd
   have hfit := growslice_fits hlt g2
   have hn : ¬ (sLen + n.toNat ≤ sCap) := by omega
   have hmax : max n 0 = n := by omega
   have h63' : ¬ (9223372036854775807 < ((sLen : Int) + n)) := by
    have : (2 : Nat) ^ 46 ≤ 9223372036854775807 := by decide
    omega
   have h48' : ¬ (281474976710656 < Builtin.nextslicecap (sLen + n.toNat) sCap * ti.bytes) := by omega
   by_cases hzr : n.toNat * ti.size = 0
   · have hnil : (Builtin.zeroCells z'.cells n.toNat).toList = [] := oO (by rw [hlen]; exact hzr)
     rw [hnil]
     simp [Builtin.append_, run_underlying ht, run_underlying h1, sizeOf, typeInfo, zeroValue, hz, hi, asInt, asIntOf, wn, n0, n2, hn, hmax, h63', h48', Question.forced, hold, hzr, newRow, grownCap]
     try (congr 2; apply Array.ext'; simp)
   · simp [Builtin.append_, run_underlying ht, run_underlying h1, sizeOf, typeInfo, zeroValue, hz, hi, asInt, asIntOf, wn, n0, n2, hn, hmax, h63', h48', Question.forced, hold, hzr, newRow, grownCap]
     congr 2
     apply Array.ext'
     simp []
theorem kc6 (hw : WR E C S w) {mu : Bool} {e : TypeId} {sz : Nat} {xs fl : List AV} {olds : List Value} {z : Array Value} {cap : Nat} (hs : 0 < sz) (hfl : bR sz xs = some fl) (hzs : z.size = sz)
 (hl : LR C w fl olds) (hcap : xs.length ≤ cap) {r : Sem Next} (h : nG mu e sz xs S = some (v, S'))
 (hr : r.run E.P w = .ok (.value (.slice (some ⟨w.heap.size, 0, none⟩) xs.length cap)) (w.drew.alloc (.cells (olds.toArray ++ Builtin.zeroCells z (cap - xs.length)) e))) : Good E C w r v S' := by
 have hxl := nX hfl
 have hol : olds.length = xs.length * sz := by rw [← hl.1, hxl]
 have hsize : (olds.toArray ++ Builtin.zeroCells z (cap - xs.length)).size = cap * sz := by
  rw [Array.size_append, size_zeroCells, pU, hol, hzs, ← lC]; congr 1; omega
 cases mu with
 | false =>
  simp only [nG, aK, aI, aJ] at h
  obtain ⟨rfl, rfl⟩ := h
  refine xn2 hw hs hfl hxl ⟨olds, hl, fun j u hu => ?_⟩ hcap (by omega) (.inr rfl) hr
  have hj : j < olds.length := by
   rcases fV j olds.length with h' | h'
   · exact h'
   · simp [mJ h'] at hu
  rw [Array.getElem?_append_left (by simpa using hj)]
  simpa using hu
 | true =>
  simp only [nG, aH, hfl, aI, aJ] at h
  obtain ⟨rfl, rfl⟩ := h
  have hwd := hw.drew
  have hn : ¬ C.born S.no := hw.unb _ (aB _)
  have hc : LR C w.drew fl ((olds.toArray ++ Builtin.zeroCells z (cap - xs.length)).toList.take fl.length) := by
   rw [Array.toList_append, List.take_append_of_le_length (by simp; rw [hl.1]; exact aB _), qT (by simp; rw [hl.1]; exact aB _)]
   exact hl.ext (Ext.drew C w)
  have hlim : fl.length ≤ cap * sz := by rw [hxl]; exact nR _ hcap
  have k := hwd.bearRow (n := S.no) (no' := S.no + 1) hn (nV _) (bJ _) ⟨.cells fl, none, fun _ => .undef⟩ rfl (T := e) hc hlim (by omega) (fun x hx => by simp at hx)
  have ex := ExtW.bear hwd hn (.cells (olds.toArray ++ Builtin.zeroCells z (cap - xs.length)) e) fl.length (cap * sz) (S.no + 1)
  refine .inl ⟨_, _, _, hr, k, (Ext.drew C w).trans ⟨ex, by show C.no ≤ S.no + 1; rw [hw.no]; omega, fun l h1 h2 => by
   have : l = S.no := h2.resolve_left h1
   rw [this, hw.no]; exact aB _⟩, ?_⟩
  have := xR (C := C) (n := S.no) (b := w.heap.size) (sz := sz) (len := xs.length) (cap := cap) (lim := cap * sz) (no' := S.no + 1) (w := w.drew.alloc (.cells (olds.toArray ++ Builtin.zeroCells z (cap - xs.length)) e)) hs hcap (aB _)
  rw [← hxl] at this
  exact this
theorem WR.rebear (h : WR E C S w) {l : Nat} (hl : C.born l) (hd : ∀ k, C.born k → C.mu k = C.mu l → iA (S.objs.get k)) {w' : World} {o len lim : Nat} {cs : List AV} {c : Array Value} {T : TypeId} {fz : Nat × Nat}
 (hb : w'.heap[C.mu l]? = some (.cells c T fz)) (ho : ∀ b, b ≠ C.mu l → w'.heap[b]? = w.heap[b]?) (hsz : w'.heap.size = w.heap.size) (hbel : Bel C.base w w') (hsh : ∀ x, w.shape? (C.mu l) = some x → w'.shape? (C.mu l) = some x)
 (hr : LR C w cs ((c.toList.drop o).take cs.length)) (h3 : cs.length = len) (h4 : len ≤ lim) (h5 : o + lim ≤ c.size) (hfz : unfrozen c fz) :
 WR E (C.bear S.no (C.mu l) o len lim (S.no + 1)) (S.newObj cs) w' ∧ Ext C w (C.bear S.no (C.mu l) o len lim (S.no + 1)) w' := by
 have hn : ¬ C.born S.no := h.unb _ (aB _)
 have e : Ext C w (C.bear S.no (C.mu l) o len lim (S.no + 1)) w' := by
  refine ⟨⟨fun k hk => ?_, aB _, fun _ _ => rfl, fun i h1 h2 => absurd h2 (by show ¬ i < C.nid; omega), fun k h1 h2 => ?_, by omega, fun _ _ => aB _,
   fun b o hb hf _ => by simp only [World.cell?, ho b (fun e => hf l hl e.symm)], rfl, hbel, fun b x hx => ?_, rfl⟩, by show C.no ≤ S.no + 1; rw [h.no]; omega, fun k h1 h2 => ?_⟩
  · have hne : k ≠ S.no := fun e => hn (e ▸ hk)
    obtain ⟨a1, a2, a3, a4⟩ := C.bear_ne (b := C.mu l) (o := o) (len := len) (lim := lim) (no' := S.no + 1) hne
    exact ⟨.inl hk, a1, a2, a3, a4⟩
  · have : k = S.no := h2.resolve_left h1
    rw [this, Ctx.bear_at.1]; exact .inr ⟨l, hl, rfl⟩
  · by_cases hbb : b = C.mu l
    · rw [hbb] at hx ⊢; exact hsh x hx
    · simp only [World.shape?, ho b hbb] at hx ⊢; exact hx
  · have : k = S.no := h2.resolve_left h1
    rw [this, h.no]; exact aB _
 have hget : ∀ k, k ≠ S.no → (S.newObj cs).objs.get k = S.objs.get k := fun k hk => by
  show (S.objs.set S.no (.cells cs)).get k = _
  rw [PM.get_set, aR hk]
 have hat : (S.newObj cs).objs.get S.no = some (.cells cs) := by
  show (S.objs.set S.no (.cells cs)).get S.no = _
  rw [PM.get_set, bN rfl]
 refine ⟨⟨rfl, fun k hk hb => ?_, h.nid, h.nid1, by have := h.bs; show C.base ≤ _; omega, ?_, ?_, ?_, fun k hk => ?_, fun i h0 hi => ?_, h.idi, fun g cs hg => (h.glob g cs hg).ext e, h.fresh, fun k x hk hx => ?_, fun k hk => ?_, fun i T h0 hi hT => ?_⟩, e⟩
 · have hk' : S.no + 1 ≤ k := hk
   rcases hb with hb | hb
   · exact h.unb k (by omega) hb
   · omega
 · intro k k' hk hk' ha ha' heq
   have cross : ∀ k, C.born k → ¬ iA (S.objs.get k) → C.mu k = C.mu l → False := fun k hb ha he => ha (hd k hb he)
   by_cases e1 : k = S.no
   · by_cases e2 : k' = S.no
     · omega
     · rw [hget k' e2] at ha'
       rw [e1, Ctx.bear_at.1, (Ctx.bear_ne e2).1] at heq
       exact (cross k' (hk'.resolve_right e2) ha' heq.symm).elim
   · rw [hget k e1] at ha
     by_cases e2 : k' = S.no
     · rw [e2, Ctx.bear_at.1, (Ctx.bear_ne e1).1] at heq
       exact (cross k (hk.resolve_right e1) ha heq).elim
     · rw [hget k' e2] at ha'
       rw [(Ctx.bear_ne e1).1, (Ctx.bear_ne e2).1] at heq
       exact h.inj k k' (hk.resolve_right e1) (hk'.resolve_right e2) ha ha' heq
 · intro k hk
   rw [hsz]
   by_cases e1 : k = S.no
   · rw [e1, Ctx.bear_at.1]; exact h.mub l hl
   · rw [(Ctx.bear_ne e1).1]; exact h.mub k (hk.resolve_right e1)
 · intro k hk
   by_cases e1 : k = S.no
   · rw [e1, hat, Ctx.bear_at.1, hb]
     exact ⟨c, T, fz, rfl, by rw [Ctx.bear_at.2.1]; exact hr.ext e, by rw [Ctx.bear_at.2.2.1]; exact h3, by rw [Ctx.bear_at.2.2.1, Ctx.bear_at.2.2.2]; exact h4, by rw [Ctx.bear_at.2.1, Ctx.bear_at.2.2.2]; exact h5, hfz⟩
   · have hkb := hk.resolve_right e1
     rw [hget k e1, (Ctx.bear_ne e1).1]
     have hk0 := h.objs k hkb
     by_cases h2 : C.mu k = C.mu l
     · rcases hd k hkb h2 with hd' | hd'
       · rw [hd'] at hk0; exact hk0.elim
       · rw [hd']; trivial
     · rw [ho _ h2]; exact hk0.ext e.toExtW hkb
 · have hne : k ≠ S.no := fun e => hk (.inr e)
   rw [hget k hne]
   exact h.unob k (fun hb => hk (.inl hb))
 · have k := h.ids i h0 hi
   obtain ⟨k1, k2, k3, k4, k5, ⟨c', T', fz', q1, q2, q3⟩, k7, k8⟩ := k
   have hne : (C.io i).b ≠ C.mu l := fun e => k3 l hl e.symm
   exact ⟨k1, by rw [hsz]; exact k2, e.free k2 k3, k4, k5, ⟨c', T', fz', by rw [show ((C.bear S.no (C.mu l) o len lim (S.no + 1)).io i) = C.io i from rfl, ho _ hne]; exact q1, q2, q3⟩, k7, k8⟩
 · have e1 : k ≠ S.no := fun e1 => by
    have hx' : S.shp.get k = some x := hx
    rw [e1, h.shu _ hn] at hx'; cases hx'
   have hkb := hk.resolve_right e1
   rw [(Ctx.bear_ne e1).1, (Ctx.bear_ne e1).2.1]
   obtain ⟨k1, k2⟩ := h.shp k x hkb hx
   exact ⟨k1, e.shape _ _ k2⟩
 · exact h.shu k (fun hb => hk (.inl hb))
 · obtain ⟨c', fz', k1, k2⟩ := h.ity i T h0 hi hT
   have hne : (C.io i).b ≠ C.mu l := fun e => (h.ids i h0 hi).free l hl e.symm
   exact ⟨c', fz', by rw [show ((C.bear S.no (C.mu l) o len lim (S.no + 1)).io i) = C.io i from rfl, ho _ hne]; exact k1, k2⟩
theorem kb9 (hw : WR E C S w) {l : Nat} (hl : C.born l) (hal : ¬ iA (S.objs.get l)) : ∀ k, C.born k → C.mu k = C.mu l → iA ((S.put l .dead).objs.get k) := by
 intro k hk he
 show iA ((S.objs.set l .dead).get k)
 rw [PM.get_set]
 by_cases h1 : k = l
 · rw [bN h1]; exact .inr rfl
 · rw [aR h1]
   exact Classical.byContradiction fun hc => h1 (hw.inj k l hk hl hc hal he)
theorem yx7 (ok : E.Ok) (hw : WR E C S w) {mu : Bool} {t t1 e ty : TypeId} {ti : TypeInfo} {s : AV} {us ux : Value} {ys : List AV} (hs : VR C w s us)
 (happ : (∃ fl news, bR ti.size ys = some fl ∧ LR C w fl news ∧ (ys ≠ [] → ∀ u ∈ news, u.oneCell' = true) ∧ AppOk E w t t1 ty e ti ux ys.length news))
 (h : kH mu e ti s ys S = some (v, S')) : Good E C w (do pure (.value (← Builtin.append_ #[t, t1] ty #[us, ux]))) v S' := by
 obtain ⟨fy, news, f1, f2, f3, app⟩ := happ
 have fyl := nX f1
 unfold kH at h
 split at h
 · -- nothing is appended
   have hst : ∃ base n c, us = .slice base n c ∧ n ≤ c ∧ v = s ∧ S' = S := by
    cases s with
    | sc u =>
     have := hs.sc_inv; subst this
     cases us with
     | slice a n c =>
      cases a with
      | none =>
       match n, c with
       | 0, 0 => simp at h; exact ⟨none, 0, 0, rfl, aB _, h.1.symm, h.2.symm⟩
       | 0, _ + 1 => simp at h
       | _ + 1, _ => simp at h
      | some _ => simp at h
     | _ => simp at h
    | vec id sz xs =>
     simp only [aI, aJ] at h
     rcases hs.vec_inv with ⟨rfl, rfl, a, cap, rfl⟩ | ⟨fl, b, o, cap, rfl, hv⟩
     · exact ⟨some a, 0, cap, rfl, jR _, h.1.symm, h.2.symm⟩
     · exact ⟨some ⟨b, o, none⟩, xs.length, cap, rfl, hv.lc, h.1.symm, h.2.symm⟩
    | osl l sz off len room =>
     simp only [aI, aJ] at h
     cases hs with
     | osl _ _ _ _ _ a cap hb hsz hlr hrc hro hcl ha => exact ⟨some a, len, cap, rfl, by omega, h.1.symm, h.2.symm⟩
    | _ => simp at h
   obtain ⟨base, n, c, rfl, hnc, rfl, rfl⟩ := hst
   exact Good.val hw (u := .slice base n c) (bQ (app.nil0 rfl base n c hnc)) hs
 · -- something
   rename_i y ys
   cases hb : (iO ti.size (y :: ys) && Nat.blt 0 ti.size && wH ti) with
   | false => rw [hb] at h; simp at h
   | true =>
    rw [hb] at h
    simp only [aH] at h
    simp only [aS] at hb
    obtain ⟨⟨b1, b2⟩, b3⟩ := hb
    have hpos : 0 < ti.size := bW b2
    unfold wH at b3
    cases hz : ti.zero with
    | none => simp [hz] at b3
    | some z =>
     rw [hz] at b3
     have hzs : z.cells.size = ti.size := bA b3
     have hne : (y :: ys) ≠ [] := by simp
     generalize hY : (y :: ys) = Y at *
     have anew : ∀ (base : Option Addr) (xs fl : List AV) (cap : Nat) (olds : List Value), bR ti.size xs = some fl → LR C w fl olds → (Builtin.firstCells ti.size xs.length (.slice base xs.length cap)).run E.P w.drew = .ok olds.toArray w.drew →
      cap < xs.length + Y.length → (xs.length + Y.length) * (ti.bytes + 1) ≤ 2 ^ 46 → ∀ (mu : Bool) (v : AV) (S' : St), nG mu e ti.size (xs ++ Y) S = some (v, S') →
      Good E C w (do pure (.value (← Builtin.append_ #[t, t1] ty #[.slice base xs.length cap, ux]))) v S' := by
      intro base xs fl cap olds hfl hlr hold hlt hbd mu v S' hns
      have hrun := app.grow z base xs.length cap olds hz hold hlt hbd
      have hcap : xs.length + Y.length ≤ grownCap w (xs.length + Y.length) cap e := grownCap_ge _ _ _ _
      refine kc6 hw hpos (yu2 hfl f1) hzs (hlr.append f2) (by rw [dL]; exact hcap) hns (bQ ?_)
      rw [dL]; exact hrun
     cases s with
     | sc u =>
      have := hs.sc_inv; subst this
      cases us with
      | slice a n c =>
       cases a with
       | none =>
        match n, c with
        | 0, 0 =>
         simp only at h
         cases hc : Nat.ble (Y.length * (ti.bytes + 1)) (2 ^ 46) with
         | false => rw [hc] at h; simp at h
         | true =>
          rw [hc] at h
          simp only [aH] at h
          have hYl : 0 < Y.length := List.length_pos_iff.2 hne
          exact anew none [] [] 0 [] rfl (LR.nil _ _) (by simp [Builtin.firstCells]) (by simpa using hYl) (by simpa using bW hc) mu v S' (by simpa using h)
        | 0, _ + 1 => simp at h
        | _ + 1, _ => simp at h
       | some _ => simp at h
      | _ => simp at h
     | vec id sz xs =>
      simp only at h
      cases hc : (Nat.beq ti.size sz && Nat.ble ((xs.length + Y.length) * (ti.bytes + 1)) (2 ^ 46)) with
      | false => rw [hc] at h; simp at h
      | true =>
       rw [hc] at h
       simp only [aH] at h
       simp only [aS] at hc
       have hsz := bA hc.1
       subst hsz
       have hbd := bW hc.2
       have hYl : 0 < Y.length := List.length_pos_iff.2 hne
       cases h1 : (Nat.beq id 1 || Nat.beq id 2) with
       | true =>
        rw [h1] at h
        simp only [aH] at h
        simp only [eF] at h1
        have hid := h1.imp bA bA
        rcases hs.vec_inv with ⟨h0, _⟩ | ⟨fl, b, o, cap, rfl, hv⟩
        · omega
        · have hcap := hv.x1 hid
          obtain ⟨vs, k1, k2⟩ := tQ hv.seg
          have hxl := nX hv.flat
          exact anew (some ⟨b, o, none⟩) xs fl cap vs hv.flat k1
           (run_firstCells_some w.drew ti.size xs.length _ _ cap vs (by rw [← k1.1, hxl]) (by simpa using k2)) (by omega) hbd mu v S' h
       | false =>
        rw [h1] at h
        simp only [aK] at h
        cases h2 : (S.live id && S.ityIs id e) with
        | false => rw [h2] at h; simp at h
        | true =>
         rw [h2] at h
         simp only [aH, aI, aJ] at h
         obtain ⟨rfl, rfl⟩ := h
         simp only [aS, St.live] at h2
         obtain ⟨⟨⟨c1, c1'⟩, c2⟩, c3⟩ := h2
         have hid : 2 < id := bW c1
         have hlive : S.isSpent id = false := by
          simp only [St.isSpent]
          cases hg : S.spent.get id with
          | none => rfl
          | some _ => simp [hg] at c2
         have hity : S.ity.get id = some e := by
          unfold St.ityIs at c3
          cases hg : S.ity.get id with
          | none => simp [hg] at c3
          | some T => simp only [hg] at c3; rw [bA c3]
         rcases hs.vec_inv with ⟨h0, _⟩ | ⟨fl, b, o, cap, rfl, hv⟩
         · omega
         · obtain ⟨hlt, hio⟩ := hv.hd hid
           have hit := hw.ity id e hid hlt hity
           rw [hio] at hit
           by_cases hroom : xs.length + Y.length ≤ cap
           · exact kp6 hw hid hlive hv f1 f2 hroom hne hit (fun k1 k2 => bQ (app.room b o xs.length cap hroom k1 k2))
           · obtain ⟨vs, k1, k2⟩ := tQ hv.seg
             have hxl := nX hv.flat
             have := anew (some ⟨b, o, none⟩) xs fl cap vs hv.flat k1
              (run_firstCells_some w.drew ti.size xs.length _ _ cap vs (by rw [← k1.1, hxl]) (by simpa using k2)) (by omega) hbd false _ _ rfl
             rcases this with hG | ⟨_, _, _, hp, _⟩ | ⟨f, args, hr, _⟩
             · refine Good.upd hG (fun C w hW => hW.spend (S := S.newId e) ?_)
               rw [hw.nid] at hlt
               show id < S.nid + 1
               omega
             · simp [dB] at hp
             · rw [bQ (app.grow z (some ⟨b, o, none⟩) xs.length cap vs hz (run_firstCells_some w.drew ti.size xs.length _ _ cap vs (by rw [← k1.1, hxl]) (by simpa using k2)) (by omega) hbd)] at hr
               simp at hr
     | osl l sz off len room =>
      simp only at h
      cases hc : (Nat.beq ti.size sz && Nat.ble ((len + Y.length) * (ti.bytes + 1)) (2 ^ 46)) with
      | false => rw [hc] at h; simp at h
      | true =>
       rw [hc] at h
       simp only [aH] at h
       simp only [aS] at hc
       have hsz := bA hc.1
       subst hsz
       have hbd := bW hc.2
       have hYl : 0 < Y.length := List.length_pos_iff.2 hne
       cases hs with
       | osl _ _ _ _ _ a cap hb hsz hlr hrc hro hcl ha =>
        unfold rV at h
        split at h
        · rename_i cs fl ho hfl'
          rw [f1] at hfl'; simp at hfl'; subst hfl'
          have hg := sB ho
          have hobj := hw.objs l hb
          rw [hg] at hobj
          obtain ⟨c, T, fz, hh, hlrr, h3, h4, h5, hfz⟩ := hobj
          simp only [bB] at h
          have hmul : (len + Y.length) * ti.size = len * ti.size + Y.length * ti.size := lC _ _ _
          split at h
          · -- in place, over what is there
            rename_i hin
            simp only [aI, aJ] at h
            obtain ⟨rfl, rfl⟩ := h
            simp only [aS] at hin
            have i1 := bW hin.1
            have i2 := bW hin.2
            have ha' := ha (by omega)
            subst ha'
            obtain ⟨w1, w2, w3, w4⟩ := ys4 hw hb ho f2 (off := off + len * ti.size) (by rw [fyl]; omega)
            rw [← kD] at w1 w2 w3 w4
            refine .inl ⟨_, C, _, bQ (app.room (C.mu l) (C.bs l + off) len cap (by omega) w1 w2), w3, w4, ?_⟩
            exact .osl l ti.size off _ room _ cap hb hsz i1 hrc hro hcl (fun _ => rfl)
          · split at h
            · rename_i hnin htip
              simp only [aI, aJ] at h
              obtain ⟨rfl, rfl⟩ := h
              have htip := bA htip
              have hwk := hw.kill hb
              have hold : LR C w (cs.drop off) ((c.toList.drop (C.bs l + off)).take (len * ti.size)) := by
               have := hlrr.drop off
               rw [List.drop_take, nT] at this
               rw [show len * ti.size = cs.length - off by omega]
               exact this
              have hdl : (cs.drop off).length = len * ti.size := by rw [mK]; omega
              by_cases hroom : len + Y.length ≤ cap
              · -- in place, at the end
                have ha' := ha (by omega)
                subst ha'
                have hcm : (len + Y.length) * ti.size ≤ cap * ti.size := nR _ hroom
                have hat := vB news w c (C.bs l + off + len * ti.size) hh
                have hbel : Bel C.base w (w.setCells (C.mu l) (C.bs l + off + len * ti.size) news) := wY (hw.mub l hb).1 _ _ _
                have hnl : news.length = Y.length * ti.size := by rw [← f2.1, fyl]
                obtain ⟨r1, r2⟩ := hwk.rebear hb (kb9 hw hb (wk5 hg)) (w' := w.setCells (C.mu l) (C.bs l + off + len * ti.size) news) (o := C.bs l + off) (len := (cs.drop off ++ fy).length) (lim := cap * ti.size) (cs := cs.drop off ++ fy) hat
                 (fun b hb => wX _ w _ b hb) (wZ _ _ _) hbel (fun x hx => by rw [oX hh] at hx; rw [oX hat, nW]; exact hx) (by
                  rw [xA _ _ _ (by omega), dL, hdl, fyl]
                  have := hold.append f2
                  have he : List.take (len * ti.size + Y.length * ti.size) (List.drop (C.bs l + off) (List.take (C.bs l + off + len * ti.size) c.toList ++ news ++ List.drop (C.bs l + off + len * ti.size + news.length) c.toList)) =
                   List.take (len * ti.size) (List.drop (C.bs l + off) c.toList) ++ news := by
                   have h6 := xt1 c.toList news (C.bs l + off) (len * ti.size) (len * ti.size + Y.length * ti.size) (by omega) (by simp; omega)
                   have h7 : List.drop (len * ti.size + news.length) (List.take (len * ti.size + Y.length * ti.size) (List.drop (C.bs l + off) c.toList)) = [] :=
                    rP (by rw [eW]; omega)
                   have h8 : min (len * ti.size) (len * ti.size + Y.length * ti.size) = len * ti.size := by omega
                   rw [h6, h7, List.take_take, dK, h8]
                  rw [he]; exact this) rfl (by rw [dL, hdl, fyl]; omega) (by rw [nW]; omega) (by unfold unfrozen at *; rw [nW]; exact hfz)
                refine .inl ⟨_, _, _, bQ (app.room (C.mu l) (C.bs l + off) len cap hroom (fun j hj => ?_) (fun j hj => ?_)), r1, r2, ?_⟩
                · rw [lD hh]
                  have : C.bs l + off + len * ti.size + j < c.size := by omega
                  simp [this]
                · have hj' : C.bs l + off + len * ti.size + j < c.size := by omega
                  have hnf := hfz.at _ hj'
                  simp [World.frozen?, hh]
                  intro h1
                  by_cases h2 : C.bs l + off + len * ti.size + j < fz.2
                  · exact absurd ⟨h1, h2⟩ hnf
                  · omega
                · refine .osl _ ti.size 0 _ _ _ cap (.inr rfl) hsz (aB _) hroom ?_ ?_ (fun _ => ?_)
                  · show _ ≤ Ctx.ol _ (S.put l .dead).no
                    rw [Ctx.bear_at.2.2.1, dL, hdl, fyl]; omega
                  · show _ ≤ Ctx.lim _ (S.put l .dead).no
                    rw [Ctx.bear_at.2.2.2]; omega
                  · show _ = Addr.mk (Ctx.mu _ (S.put l .dead).no) (Ctx.bs _ (S.put l .dead).no + 0) _
                    rw [Ctx.bear_at.1, Ctx.bear_at.2.1]; rfl
              · -- anew
                have hbase : (Builtin.firstCells ti.size len (.slice (some a) len cap)).run E.P w.drew = .ok ((c.toList.drop (C.bs l + off)).take (len * ti.size)).toArray w.drew := by
                 have hvl : ((c.toList.drop (C.bs l + off)).take (len * ti.size)).length = len * ti.size := by rw [← hold.1, hdl]
                 refine run_firstCells_some w.drew ti.size len _ _ cap _ hvl ?_
                 intro j u hu
                 have hj : j < len * ti.size := by
                  rcases fV j (len * ti.size) with h' | h'
                  · exact h'
                  · rw [mJ (by omega)] at hu; cases hu
                 have hlen : 0 < len := by
                  rcases Nat.eq_zero_or_pos len with h0 | h0
                  · subst h0; simp at hj
                  · exact h0
                 have ha' := ha (by omega)
                 subst ha'
                 rw [Addr.add_mid]
                 show w.cell? _ = _
                 rw [lD hh]
                 rw [oR, bN hj, jM] at hu
                 simpa using hu
                have hrun := app.grow z (some a) len cap _ hz hbase (by omega) hbd
                have hcap : len + Y.length ≤ grownCap w (len + Y.length) cap e := grownCap_ge _ _ _ _
                have hxl : (kO false 0 0 []).length = 0 := rfl
                have hwd := hwk.drew
                have hn : ¬ C.born (S.put l .dead).no := hw.unb _ (aB _)
                have hnl : news.length = Y.length * ti.size := by rw [← f2.1, fyl]
                have hL := hold.append f2
                have hcl2 : (cs.drop off ++ fy).length = (len + Y.length) * ti.size := by rw [dL, hdl, fyl]; omega
                have hsize : ((List.take (len * ti.size) (List.drop (C.bs l + off) c.toList) ++ news).toArray ++ Builtin.zeroCells z.cells (grownCap w (len + Y.length) cap e - (len + Y.length))).size = grownCap w (len + Y.length) cap e * ti.size := by
                 rw [Array.size_append, size_zeroCells, pU, ← hL.1, hcl2, hzs, ← lC]; congr 1; omega
                have hcm : (len + Y.length) * ti.size ≤ grownCap w (len + Y.length) cap e * ti.size := nR _ hcap
                have hc : LR C w.drew (cs.drop off ++ fy) (((List.take (len * ti.size) (List.drop (C.bs l + off) c.toList) ++ news).toArray ++ Builtin.zeroCells z.cells (grownCap w (len + Y.length) cap e - (len + Y.length))).toList.take (cs.drop off ++ fy).length) := by
                 rw [Array.toList_append, List.take_append_of_le_length (by simp only []; rw [hL.1]; exact aB _), qT (by simp only []; rw [hL.1]; exact aB _)]
                 exact hL.ext (Ext.drew C w)
                have k := hwd.bearRow (n := (S.put l .dead).no) (no' := S.no + 1) hn (nV _) (bJ _) ⟨.cells (cs.drop off ++ fy), none, fun _ => .undef⟩ rfl (T := e) hc (lim := grownCap w (len + Y.length) cap e * ti.size) (by omega) (by omega) (fun x hx => by simp at hx)
                have ex := ExtW.bear hwd hn (.cells ((List.take (len * ti.size) (List.drop (C.bs l + off) c.toList) ++ news).toArray ++ Builtin.zeroCells z.cells (grownCap w (len + Y.length) cap e - (len + Y.length))) e) (cs.drop off ++ fy).length (grownCap w (len + Y.length) cap e * ti.size) (S.no + 1)
                refine .inl ⟨_, _, _, bQ hrun, k, (Ext.drew C w).trans ⟨ex, by show C.no ≤ S.no + 1; rw [hw.no]; omega, fun k h1 h2 => by
                 have : k = (S.put l .dead).no := h2.resolve_left h1
                 rw [this]; show C.no ≤ S.no; rw [hw.no]; exact aB _⟩, ?_⟩
                have := xR (C := C) (n := S.no) (b := w.heap.size) (sz := ti.size) (len := len + Y.length) (cap := grownCap w (len + Y.length) cap e) (lim := grownCap w (len + Y.length) cap e * ti.size) (no' := S.no + 1)
                 (w := w.drew.alloc (.cells ((List.take (len * ti.size) (List.drop (C.bs l + off) c.toList) ++ news).toArray ++ Builtin.zeroCells z.cells (grownCap w (len + Y.length) cap e - (len + Y.length))) e)) hpos hcap (aB _)
                rw [← hcl2] at this
                exact this
            · simp at h
        · simp at h
     | _ => simp at h
theorem xb6 {n : Nat} {lo hi : Option AV} {ulo uhi : Option Value} {l h : Nat} (hlo : ∀ x, lo = some x → ∃ u, ulo = some u ∧ VR C w x u) (hlo' : lo = none → ulo = none)
 (hhi : ∀ x, hi = some x → ∃ u, uhi = some u ∧ VR C w x u) (hhi' : hi = none → uhi = none) (hb : gJ n lo hi = some (l, h)) (isSl : Bool) {cap : Nat} (hc : n ≤ cap) :
 (Instr.sliceBounds isSl n cap ulo uhi none).run E.P w = .ok (l, h, cap) w ∧ l ≤ h ∧ h ≤ n := by
 have rD : ∀ {x : AV} {u : Value} {k : Int}, eU x = some k → VR C w x u → ∃ kk, u = .int kk k := by
  intro x u k hx hv
  unfold eU at hx
  split at hx
  · rename_i kk m
    simp at hx; subst hx
    exact ⟨kk, hv.sc_inv⟩
  · simp at hx
 unfold gJ at hb
 split at hb
 · rename_i hh ll h1 h2
   cases hd : (decide (0 ≤ ll) && decide (ll ≤ hh) && decide (hh ≤ (n : Int))) with
   | false => rw [hd] at hb; simp at hb
   | true =>
    rw [hd] at hb
    simp only [aH, aI, aJ] at hb
    obtain ⟨rfl, rfl⟩ := hb
    simp only [aS, bZ] at hd
    obtain ⟨⟨d1, d2⟩, d3⟩ := hd
    have e1 : (hh.toNat : Int) = hh := sW (by omega)
    refine ⟨?_, by omega, by omega⟩
    cases hi with
    | none =>
     have := hhi' rfl; subst this
     simp at h1; subst h1
     cases lo with
     | none =>
      have := hlo' rfl; subst this
      simp at h2; subst h2
      simp [Instr.sliceBounds]
     | some x =>
      obtain ⟨u, rfl, hv⟩ := hlo x rfl
      obtain ⟨kk, rfl⟩ := rD h2 hv
      simp [Instr.sliceBounds, Instr.sliceBound, asIntOf, d1, d2]
    | some y =>
     obtain ⟨u2, rfl, hv2⟩ := hhi y rfl
     obtain ⟨kk2, rfl⟩ := rD h1 hv2
     have d4 : hh ≤ (cap : Int) := by omega
     have d5 : 0 ≤ hh := by omega
     cases lo with
     | none =>
      have := hlo' rfl; subst this
      simp at h2; subst h2
      simp [Instr.sliceBounds, Instr.sliceBound, asIntOf, d4, d5]
     | some x =>
      obtain ⟨u, rfl, hv⟩ := hlo x rfl
      obtain ⟨kk, rfl⟩ := rD h2 hv
      simp [Instr.sliceBounds, Instr.sliceBound, asIntOf, d1, d2, d4, d5, e1]
 · simp at hb
theorem uD {n : Nat} {lo hi : Option AV} {l h : Nat} (hb : gJ n lo hi = some (l, h)) :
 l ≤ h ∧ h ≤ n ∧ (hi = none → h = n) ∧ (∀ x, hi = some x → eU x = some (h : Int)) ∧ (lo = none → l = 0) ∧ (∀ x, lo = some x → eU x = some (l : Int)) := by
 unfold gJ at hb
 split at hb
 · rename_i hh ll h1 h2
   simp only [bB] at hb
   split at hb
   · rename_i hd
     simp only [aI, aJ] at hb
     obtain ⟨rfl, rfl⟩ := hb
     simp only [aS, bZ] at hd
     obtain ⟨⟨d1, d2⟩, d3⟩ := hd
     have e1 : (hh.toNat : Int) = hh := sW (by omega)
     have e2 : (ll.toNat : Int) = ll := sW d1
     refine ⟨by omega, by omega, fun hn => ?_, fun x hx => ?_, fun hn => ?_, fun x hx => ?_⟩
     · subst hn; simp at h1; omega
     · subst hx; simp only at h1; rw [h1, e1]
     · subst hn; simp at h2; omega
     · subst hx; simp only at h2; rw [h2, e2]
   · simp at hb
 · simp at hb
theorem yr6 {P : Program} {isSl : Bool} {len cap l h : Nat} {ulo uhi : Option Value}
 (hh : (uhi = none ∧ h = len) ∨ ∃ k, uhi = some (.int k (h : Int)) ∧ h ≤ cap) (hl : (ulo = none ∧ l = 0) ∨ ∃ k, ulo = some (.int k (l : Int)) ∧ l ≤ h) :
 (Instr.sliceBounds isSl len cap ulo uhi none).run P w = .ok (l, h, cap) w := by
 rcases hh with ⟨rfl, rfl⟩ | ⟨k, rfl, h1⟩
 · rcases hl with ⟨rfl, rfl⟩ | ⟨k2, rfl, h2⟩
   · simp [Instr.sliceBounds]
   · simp [Instr.sliceBounds, Instr.sliceBound, asIntOf, h2]
 · rcases hl with ⟨rfl, rfl⟩ | ⟨k2, rfl, h2⟩
   · simp [Instr.sliceBounds, Instr.sliceBound, asIntOf, h1]
   · simp [Instr.sliceBounds, Instr.sliceBound, asIntOf, h1, h2]
theorem yf7 {P : Program} {isSl : Bool} {len cap l h m : Nat} {ulo : Option Value} {k k2 : IntKind}
 (h1 : h ≤ m) (h2 : m ≤ cap) (hl : (ulo = none ∧ l = 0) ∨ ∃ k, ulo = some (.int k (l : Int)) ∧ l ≤ h) :
 (Instr.sliceBounds isSl len cap ulo (some (.int k (h : Int))) (some (.int k2 (m : Int)))).run P w = .ok (l, h, m) w := by
 rcases hl with ⟨rfl, rfl⟩ | ⟨k2, rfl, h3⟩
 · simp [Instr.sliceBounds, Instr.sliceBound, asIntOf, h1, h2]
 · simp [Instr.sliceBounds, Instr.sliceBound, asIntOf, h1, h2, h3]
theorem wM {lo : Option AV} {ulo : Option Value} {n l h : Nat} {hi : Option AV} (hlo : ∀ x, lo = some x → ∃ u, ulo = some u ∧ VR C w x u) (hlo' : lo = none → ulo = none) (hb : gJ n lo hi = some (l, h)) :
 (ulo = none ∧ l = 0) ∨ ∃ k, ulo = some (.int k (l : Int)) ∧ l ≤ h := by
 obtain ⟨q1, q2, q3, q4, q5, q6⟩ := uD hb
 cases lo with
 | none => exact .inl ⟨hlo' rfl, q5 rfl⟩
 | some x =>
  obtain ⟨u, rfl, hv⟩ := hlo x rfl
  obtain ⟨kk, rfl⟩ := pA (q6 x rfl) hv
  exact .inr ⟨kk, rfl, q1⟩
theorem kc4 (ok : E.Ok) (hw : WR E C S w) {t : TypeId} {x : AV} {ux : Value} {lo hi : Option AV} {ulo uhi : Option Value} (hx : VR C w x ux)
 (hlo : ∀ x, lo = some x → ∃ u, ulo = some u ∧ VR C w x u) (hlo' : lo = none → ulo = none)
 (hhi : ∀ x, hi = some x → ∃ u, uhi = some u ∧ VR C w x u) (hhi' : hi = none → uhi = none)
 (h : fN E t x lo hi S = some (v, S')) : Good E C w (do pure (.value (← Instr.sliceAt t ux ulo uhi none))) v S' := by
 unfold fN at h
 cases x with
 | vec id sz xs =>
  simp only at h
  split at h
  · rename_i e l hh hd hb
    split at h
    · rename_i i hi2
      cases hs : Nat.beq i.size sz with
      | false => rw [hs] at h; simp at h
      | true =>
       rw [hs] at h
       simp only [aH] at h
       have hsz := bA hs
       obtain ⟨a, cap, hux, hle⟩ : ∃ a cap, ux = .slice (some a) xs.length cap ∧ xs.length ≤ cap := by
        rcases hx.vec_inv with ⟨_, rfl, a, cap, rfl⟩ | ⟨fl, b, o, cap, rfl, hv⟩
        · exact ⟨a, cap, rfl, jR _⟩
        · exact ⟨_, cap, rfl, hv.lc⟩
       obtain ⟨hr, h1, h2⟩ := xb6 (E := E) hlo hlo' hhi hhi' hb true hle
       have hrun : (Instr.sliceAt t ux ulo uhi none).run E.P w = .ok (.slice (if cap = l then some a else (some a).map (·.add (l * i.size))) (hh - l) (cap - l)) w := by
        subst hux
        simp [Instr.sliceAt, Instr.slice, cU ok hd, hr, jE ok hi2]
       cases hfull : (Nat.beq l 0 && Nat.beq hh xs.length) with
       | true =>
        rw [hfull] at h
        simp only [aH, aI, aJ] at h
        obtain ⟨rfl, rfl⟩ := h
        simp only [aS] at hfull
        have e1 := bA hfull.1
        have e2 := bA hfull.2
        subst e1; subst e2
        refine Good.val hw (u := ux) (bQ ?_) hx
        rw [hrun, hux]
        simp [Addr.add]
       | false =>
        rw [hfull] at h
        simp only [aK, aI, aJ] at h
        obtain ⟨rfl, rfl⟩ := h
        refine Good.val hw (bQ hrun) ?_
        have hlen : ((xs.drop l).take (hh - l)).length = hh - l := by rw [eW, mK]; omega
        by_cases hemp : hh = l
        · have hnil : (xs.drop l).take (hh - l) = [] := oO (by omega)
          rw [hnil, hemp, Nat.sub_self]
          by_cases hcl : cap = l
          · rw [bN hcl]; exact .vec0 _ _ _
          · rw [aR hcl]; exact .vec0 _ _ _
        · rcases hx.vec_inv with ⟨_, rfl, a', cap', h'⟩ | ⟨fl, b, o, cap', h', hv⟩
          · simp at h2; omega
          · rw [hux] at h'
            simp only [Value.slice.injEq, aI, true_and] at h'
            obtain ⟨rfl, rfl⟩ := h'
            have hcl : ¬ cap = l := by omega
            rw [aR hcl]
            have hfl := nX hv.flat
            have hmul : l * sz + (hh - l) * sz = hh * sz := by rw [← lC]; congr 1; omega
            have hmul2 : hh * sz ≤ xs.length * sz := nR _ h2
            have hV : VecAt C w 0 sz ((xs.drop l).take (hh - l)) ((fl.drop (l * sz)).take ((hh - l) * sz)) b (o + l * sz) (cap - l) := by
             refine ⟨hv.szpos, by rw [hlen]; omega, vK _ (xn8 _ hv.flat), hv.lt, hv.free, ?_, ?_, fun h => absurd h (by omega), fun h => absurd h (by omega), fun h => absurd h (by omega)⟩
             · have := hv.top
               rw [eW, mK]; omega
             · obtain ⟨vs, k1, k2⟩ := hv.seg
               refine ⟨(vs.drop (l * sz)).take ((hh - l) * sz), (k1.drop _).take _, fun j u hu => ?_⟩
               rw [oR] at hu
               split at hu
               · rw [jM] at hu
                 have := k2 _ _ hu
                 rwa [← kD] at this
               · cases hu
            have := hV.mk'
            rw [hlen] at this
            simpa [Addr.add_mid, hsz] using this
    · simp at h
  · simp at h
 | osl l sz off len room =>
  simp only at h
  split at h
  · rename_i e b hh hd hb
    split at h
    · rename_i i hi2
      cases hs : Nat.beq i.size sz with
      | false => rw [hs] at h; simp at h
      | true =>
       rw [hs] at h
       simp only [aH, aI, aJ] at h
       obtain ⟨rfl, rfl⟩ := h
       have hsz := bA hs
       cases hx with
       | osl _ _ _ _ _ a cap hbn hs' hlr hrc hro hcl ha =>
        obtain ⟨q1, q2, q3, q4, q5, q6⟩ := uD hb
        have hbr : (Instr.sliceBounds true len cap ulo uhi none).run E.P w = .ok (b, hh, cap) w := by
         refine yr6 ?_ (wM hlo hlo' hb)
         cases hi with
         | some h =>
          obtain ⟨u, rfl, hv⟩ := hhi h rfl
          obtain ⟨kk, rfl⟩ := pA (q4 h rfl) hv
          exact .inr ⟨kk, rfl, by omega⟩
         | none =>
          have := q4 _ rfl
          simp [eU] at this
          exact .inl ⟨hhi' rfl, by omega⟩
        have hmul : (b + (room - b)) * sz = b * sz + (room - b) * sz := lC _ _ _
        have hmul2 : (b + (cap - b)) * sz = b * sz + (cap - b) * sz := lC _ _ _
        rw [show b + (room - b) = room by omega] at hmul
        rw [show b + (cap - b) = cap by omega] at hmul2
        refine Good.val hw (u := .slice (some (if cap = b then a else a.add (b * sz))) (hh - b) (cap - b)) (bQ ?_) (.osl _ sz _ _ _ _ _ hbn hs' (by omega) (by omega) (by omega) (by omega) (fun hp => ?_))
        · have : (Instr.slice t (.slice (some a) len cap) ulo uhi none).run E.P w = .ok (.slice (if cap = b then some a else some (a.add (b * sz))) (hh - b) (cap - b)) w := by
           simp [Instr.slice, cU ok hd, hbr, jE ok hi2, hsz]
          simp only [Instr.sliceAt, Sem.run_bind, cU ok hd, Result.andThen_ok]
          rw [this]
          by_cases hcb : cap = b <;> simp [hcb]
        · have hcb : ¬ cap = b := by omega
          rw [aR hcb, ha (by omega), Addr.add_mid, kD]
    · simp at h
  · simp at h
 | ptr l off =>
  simp only at h
  split at h
  · rename_i n e cs hda ho
    split at h
    · rename_i i b hh hi2 hb
      simp only [bB] at h
      split at h
      · rename_i hc
        simp only [aI, aJ] at h
        obtain ⟨rfl, rfl⟩ := h
        simp only [aS] at hc
        have c1 : 0 < i.size := bW hc.1
        have c2 := bW hc.2
        cases hx with
        | ptr _ _ hbn =>
         have hobj := hw.objs l hbn
         rw [sB ho] at hobj
         obtain ⟨c, T, fz, hh1, hlr, h3, h4, h5, hfz⟩ := hobj
         obtain ⟨q1, q2, q3, q4, q5, q6⟩ := uD hb
         have hbr : (Instr.sliceBounds false n n ulo uhi none).run E.P w = .ok (b, hh, n) w := by
          refine yr6 ?_ (wM hlo hlo' hb)
          cases hi with
          | some h =>
           obtain ⟨u, rfl, hv⟩ := hhi h rfl
           obtain ⟨kk, rfl⟩ := pA (q4 h rfl) hv
           exact .inr ⟨kk, rfl, by omega⟩
          | none => exact .inl ⟨hhi' rfl, q3 rfl⟩
         have hmul : (b + (n - b)) * i.size = b * i.size + (n - b) * i.size := lC _ _ _
         rw [show b + (n - b) = n by omega] at hmul
         refine Good.val hw (u := .slice (some (if n = b then ⟨C.mu l, C.bs l + off, none⟩ else (⟨C.mu l, C.bs l + off, none⟩ : Addr).add (b * i.size))) (hh - b) (n - b)) (bQ ?_) (.osl _ _ _ _ _ _ _ hbn c1 (by omega) (aB _) (by omega) (by omega) (fun hp => ?_))
         · unfold arrOf at hda
           split at hda
           · rename_i arr hd
             split at hda
             · rename_i n' e' hd2
               simp only [aI, aJ] at hda
               obtain ⟨rfl, rfl⟩ := hda
               simp [Instr.sliceAt, Instr.sureAddr, Instr.slice, cU ok hd, cU ok hd2, asAddr, hbr, jE ok hi2]
             · cases hda
           · rename_i n' e' hd
             simp only [aI, aJ] at hda
             obtain ⟨rfl, rfl⟩ := hda
             simp [Instr.sliceAt, Instr.sureAddr, cU ok hd, hbr, jE ok hi2]
           · cases hda
         · have hcb : ¬ n = b := by omega
           rw [aR hcb, Addr.add_mid, kD]
      · simp at h
    · simp at h
  · simp at h
 | sc u =>
  have := hx.sc_inv; subst this
  cases ux with
  | slice a n c =>
   cases a with
   | none =>
    match n, c with
    | 0, 0 =>
     simp only at h
     split at h
     · rename_i e p hd hb
       split at h
       · rename_i i hi2
         simp only [aI, aJ] at h
         obtain ⟨rfl, rfl⟩ := h
         obtain ⟨l, hh⟩ := p
         obtain ⟨hr, h1, h2⟩ := xb6 (E := E) hlo hlo' hhi hhi' hb true (aB 0)
         have e1 : hh = 0 := by omega
         have e2 : l = 0 := by omega
         subst e1; subst e2
         refine Good.val hw (bQ (u := .slice none 0 0) ?_) (.sc _)
         simp [Instr.sliceAt, Instr.slice, cU ok hd, hr, jE ok hi2]
       · simp at h
     · simp at h
    | 0, _ + 1 => simp at h
    | _ + 1, _ => simp at h
   | some _ => simp at h
  | string s =>
   simp only at h
   split at h
   · rename_i l hh hd hb
     simp only [aI, aJ] at h
     obtain ⟨rfl, rfl⟩ := h
     obtain ⟨hr, h1, h2⟩ := xb6 (E := E) hlo hlo' hhi hhi' hb false (aB _)
     refine Good.val hw (bQ (u := .string (s.extract l hh)) ?_) (.sc _)
     simp [Instr.sliceAt, Instr.slice, cU ok hd, hr]
   · simp at h
  | _ => simp at h
 | _ => simp at h
theorem wn7 (ok : E.Ok) (hw : WR E C S w) {t : TypeId} {x hi mx : AV} {ux uhi umx : Value} {lo : Option AV} {ulo : Option Value} (hx : VR C w x ux)
 (hlo : ∀ x, lo = some x → ∃ u, ulo = some u ∧ VR C w x u) (hlo' : lo = none → ulo = none) (hhi : VR C w hi uhi) (hmx : VR C w mx umx)
 (h : rB E t x lo hi mx S = some (v, S')) : Good E C w (do pure (.value (← Instr.sliceAt t ux ulo (some uhi) (some umx)))) v S' := by
 unfold rB at h
 cases x with
 | vec id sz xs =>
  simp only at h
  split at h
  · rename_i e l hh m hhi' hd hb hm hhh
    split at h
    · rename_i i hi2
      simp only [bB] at h
      split at h
      · rename_i hc
        simp only [aI, aJ] at h
        obtain ⟨rfl, rfl⟩ := h
        simp only [aS, bZ] at hc
        obtain ⟨⟨⟨c1, c2⟩, c3⟩, c4⟩ := hc
        have c1 := bA c1
        have c3 := bA c3
        have c4 : 0 < hh := bW c4
        obtain ⟨q1, q2, q3, q4, q5, q6⟩ := uD hb
        have hh1 := q4 _ rfl
        rw [hhh] at hh1
        simp at hh1
        subst hh1; subst c2
        obtain ⟨k1, rfl⟩ := pA hhh hhi
        obtain ⟨k2, rfl⟩ := pA hm hmx
        rcases hx.vec_inv with ⟨_, rfl, a', cap', rfl⟩ | ⟨fl, b, o, cap', rfl, hv⟩
        · simp at q2; omega
        · have hlc := hv.lc
          have hbr := yf7 (P := E.P) (w := w) (isSl := true) (len := xs.length) (cap := cap') (l := l) (h := hh) (m := hh) (k := k1) (k2 := k2) (aB _) (by omega) (wM hlo hlo' hb)
          subst c3
          have hlen : (xs.take hh).length = hh := by rw [eW]; omega
          have hmul2 : hh * sz ≤ xs.length * sz := nR _ q2
          have hfl := nX hv.flat
          refine Good.val hw (u := .slice (some ⟨b, o, none⟩) hh hh) (bQ ?_) ?_
          · have hne : ¬ hh = 0 := by omega
            simp [Instr.sliceAt, Instr.slice, cU ok hd, hbr, jE ok hi2, hne, Addr.add]
          · have hV : VecAt C w 2 sz (xs.take hh) (fl.take (hh * sz)) b o hh := by
             refine ⟨hv.szpos, by rw [hlen]; exact aB _, vK _ hv.flat, hv.lt, hv.free, ?_, ?_, fun h => absurd h (by omega), fun _ => hlen.symm, fun h => absurd h (by omega)⟩
             · have := hv.top
               rw [eW]; omega
             · obtain ⟨vs, k1, k2⟩ := hv.seg
               refine ⟨vs.take (hh * sz), k1.take _, fun j u hu => ?_⟩
               rw [oR] at hu
               split at hu
               · exact k2 _ _ hu
               · cases hu
            have := hV.mk'
            rwa [hlen] at this
      · simp at h
    · simp at h
  · simp at h
 | osl l sz off len room =>
  simp only at h
  split at h
  · rename_i e m hd hm
    split at h
    · rename_i b hh i hb hi2
      simp only [bB] at h
      split at h
      · rename_i hc
        simp only [aI, aJ] at h
        obtain ⟨rfl, rfl⟩ := h
        simp only [aS, bZ] at hc
        obtain ⟨⟨c1, c2⟩, c3⟩ := hc
        have c2 := bW c2
        have c3 := bA c3
        have em : (m.toNat : Int) = m := sW c1
        obtain ⟨q1, q2, q3, q4, q5, q6⟩ := uD hb
        obtain ⟨k1, rfl⟩ := pA (q4 _ rfl) hhi
        obtain ⟨k2, rfl⟩ := pA hm hmx
        cases hx with
        | osl _ _ _ _ _ a cap hbn hs' hlr hrc hro hcl ha =>
         have hbr := yf7 (P := E.P) (w := w) (isSl := true) (len := len) (cap := cap) (l := b) (h := hh) (m := m.toNat) (k := k1) (k2 := k2) q2 (by omega) (wM hlo hlo' hb)
         rw [em] at hbr
         have hmul : (b + (m.toNat - b)) * sz = b * sz + (m.toNat - b) * sz := lC _ _ _
         rw [show b + (m.toNat - b) = m.toNat by omega] at hmul
         have hm2 : m.toNat * sz ≤ room * sz := nR _ c2
         have hm3 : room * sz ≤ cap * sz := nR _ hrc
         refine Good.val hw (u := .slice (some (if m.toNat = b then a else a.add (b * sz))) (hh - b) (m.toNat - b)) (bQ ?_) (.osl _ sz _ _ _ _ _ hbn hs' (by omega) (aB _) (by omega) (by omega) (fun hp => ?_))
         · have : (Instr.slice t (.slice (some a) len cap) ulo (some (.int k1 hh)) (some (.int k2 m))).run E.P w = .ok (.slice (if m.toNat = b then some a else some (a.add (b * sz))) (hh - b) (m.toNat - b)) w := by
            simp [Instr.slice, cU ok hd, hbr, jE ok hi2, c3]
           simp only [Instr.sliceAt, Sem.run_bind, cU ok hd, Result.andThen_ok]
           rw [this]
           by_cases hcb : m.toNat = b <;> simp [hcb]
         · have hcb : ¬ m.toNat = b := by omega
           rw [aR hcb, ha (by omega), Addr.add_mid, kD]
      · simp at h
    · simp at h
  · simp at h
 | sc u =>
  have := hx.sc_inv; subst this
  cases ux with
  | slice a n c =>
   cases a with
   | none =>
    match n, c with
    | 0, 0 =>
     simp only at h
     split at h
     · rename_i e p hd hb hm
       split at h
       · rename_i i hi2
         simp only [aI, aJ] at h
         obtain ⟨rfl, rfl⟩ := h
         obtain ⟨l, hh⟩ := p
         obtain ⟨q1, q2, q3, q4, q5, q6⟩ := uD hb
         have e1 : hh = 0 := by omega
         have e2 : l = 0 := by omega
         subst e1; subst e2
         obtain ⟨k1, rfl⟩ := pA (q4 _ rfl) hhi
         obtain ⟨k2, rfl⟩ := pA hm hmx
         have hbr := yf7 (P := E.P) (w := w) (isSl := true) (len := 0) (cap := 0) (l := 0) (h := 0) (m := 0) (k := k1) (k2 := k2) (aB _) (aB _) (wM hlo hlo' hb)
         refine Good.val hw (bQ (u := .slice none 0 0) ?_) (.sc _)
         simp only [Int.natCast_zero] at hbr
         simp [Instr.sliceAt, Instr.slice, cU ok hd, hbr, jE ok hi2]
       · simp at h
     · simp at h
    | 0, _ + 1 => simp at h
    | _ + 1, _ => simp at h
   | some _ => simp at h
  | _ => simp at h
 | _ => simp at h
end
end Go.Abs
