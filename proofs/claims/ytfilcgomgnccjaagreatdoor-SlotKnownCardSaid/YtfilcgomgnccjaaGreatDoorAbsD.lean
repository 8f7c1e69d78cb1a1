/-
  Conversions and calls.
  Every operation of the evaluator stands to the model's.
  Regions in the text's order.
  Regions whose order is open: what comes ahead of what; what an operation hangs on.
-/
import Derived.Test.YtfilcgomgnccjaaGreatDoorAbsB
import Derived.Lib.UnsafeStr
import Derived.Lib.ConvBytes
import Derived.Lib.Builder
import Derived.MapKept
import Derived.Lib.OthersKept
section
set_option linter.unusedSimpArgs false
set_option linter.unusedVariables false
namespace Go.Abs
open Go.RowKit Go.MapKept

/-- What a call that the evaluator carries out comes to. -/
noncomputable def CallOk (E : Env) (call : CallFn) : Prop := ∀ g args S r S', call g args S = some (r, S') →
  (∃ fn, E.P.funcs[g]? = some fn ∧ fn.body.isNone = false ∧ fn.name ≠ "runtime.NumGoroutine") ∧
  ∀ C w (vs : Array Value), WR E C S w → LR C w args vs.toList → Calls E.P g vs w (fun e w' => ∃ u C', e = .returned u ∧ WR E C' S' w' ∧ Ext C w C' w' ∧ VR C' w' r u)


theorem foldl_push : ∀ (bs : List UInt8) (acc : Array UInt8), bs.foldl (fun r b => ByteArray.push r b) ⟨acc⟩ = ⟨acc ++ bs.toArray⟩
  | [], acc => by simp
  | b :: r, acc => by
    rw [List.foldl_cons]
    have := foldl_push r (acc.push b)
    rw [show (ByteArray.mk acc).push b = ⟨acc.push b⟩ from rfl, this]
    simp

theorem bytes_vals {C : Ctx} {w : World} : ∀ {xs fl : List AV} {bs : List UInt8} {vs : List Value}, bytesOf? xs = some bs → flat? 1 xs = some fl → LR C w fl vs →
    ∃ ns : List Int, vs = ns.map (Value.int .u8) ∧ bs = ns.map fun n => UInt8.ofNat n.toNat
  | [], fl, bs, vs, hb, hf, hl => by
    simp [bytesOf?] at hb; simp [flat?] at hf; subst hb; subst hf
    have : vs = [] := List.eq_nil_of_length_eq_zero hl.1.symm
    exact ⟨[], by simp [this], rfl⟩
  | x :: l, fl, bs, vs, hb, hf, hl => by
    unfold bytesOf? at hb
    split at hb
    · rename_i heq; simp at heq
    · rename_i n l' heq
      simp only [List.cons.injEq] at heq
      obtain ⟨rfl, rfl⟩ := heq
      simp only [Option.map_eq_some_iff] at hb
      obtain ⟨bs', h1, rfl⟩ := hb
      obtain ⟨cs, r, h2, h3, h4, h5, rfl⟩ := flat_cons hf
      simp [cellsOf] at h2; subst h2
      match vs, hl with
      | [], hl => exact absurd hl.1 (by simp)
      | u :: us, hl =>
        have hu : u = .int .u8 n := (LR.head hl).sc_inv
        obtain ⟨ns, k1, k2⟩ := bytes_vals h1 h3 (LR.tail hl)
        exact ⟨n :: ns, by simp [hu, k1], by simp [k2]⟩
    · simp at hb

section
variable {E : Env} {C : Ctx} {S S' : St} {w : World} {v : AV} {tm : PM AV} {a : Act} {call : CallFn} {mu : Bool}

theorem isU8_inv {d : Option TypeDesc} (h : isU8 d = true) : d = some (.int .u8) := by
  unfold isU8 at h
  split at h
  · rfl
  · simp at h

theorem WR.freeze (hw : WR E C S w) {b o n : Nat} (hb : C.base ≤ b) (hf : C.free b) {c : Array Value} {T : TypeId} {lo hi : Nat} (hh : w.heap[b]? = some (.cells c T (lo, hi)))
    (hid : ∀ i, 2 < i → i < C.nid → (C.io i).b = b → (∀ fz', (fz' = (if lo = hi then (o, o + n) else (min lo o, max hi (o + n)))) → (∀ j, C.top b ≤ j → j < c.size → ¬ (fz'.1 ≤ j ∧ j < fz'.2)) ∧ (∀ T', S.ity.get i = some T' → fz'.1 = fz'.2 ∨ (fz'.1 ≤ fz'.2 ∧ fz'.2 ≤ C.top b)))) :
    WR E C S (w.freeze ⟨b, o, none⟩ n) ∧ Ext C w C (w.freeze ⟨b, o, none⟩ n) := by
  by_cases hn : n = 0
  · have : w.freeze ⟨b, o, none⟩ n = w := by simp [World.freeze, hn]
    rw [this]; exact ⟨hw, Ext.refl _ _⟩
  have hsz : (w.freeze ⟨b, o, none⟩ n).heap.size = w.heap.size := by simp [World.freeze, hn]
  have hne : ∀ k, k ≠ b → (w.freeze ⟨b, o, none⟩ n).heap[k]? = w.heap[k]? := fun k hk => by
    simp only [World.freeze, hn, if_false, Array.getElem?_modify]
    rw [if_neg (fun e => hk e.symm)]
  have hat : (w.freeze ⟨b, o, none⟩ n).heap[b]? = some (.cells c T (if lo = hi then (o, o + n) else (min lo o, max hi (o + n)))) := by
    by_cases he : lo = hi
    · simp [World.freeze, hn, Array.getElem?_modify, hh, he]
    · simp [World.freeze, hn, Array.getElem?_modify, hh, he]
  have hcell : ∀ k p, (w.freeze ⟨b, o, none⟩ n).cell? ⟨k, p, none⟩ = w.cell? ⟨k, p, none⟩ := fun k p => by
    by_cases hk : k = b
    · subst hk; rw [cell_block hat, cell_block hh]
    · simp only [World.cell?, hne k hk]
  have e : Ext C w C (w.freeze ⟨b, o, none⟩ n) := ⟨⟨fun _ h => ⟨h, rfl, rfl, rfl, rfl⟩, Nat.le_refl _, fun _ _ => rfl, fun i h1 h2 => absurd h2 (by omega), fun l h1 h2 => absurd h2 h1, by omega, fun _ _ => Nat.le_refl _, fun k o _ _ _ => hcell k o, rfl,
    ⟨⟨by simp [World.freeze, hn], by simp [World.freeze, hn], by simp [World.freeze, hn], by omega, fun k hk => hne k (by omega)⟩, trivial⟩, fun k x hx => by
      by_cases hk : k = b
      · subst hk; rw [shape_block hh] at hx; rw [shape_block hat]; exact hx
      · simp only [World.shape?, hne k hk] at hx ⊢; exact hx, rfl⟩, Nat.le_refl _, fun _ h1 h2 => absurd h2 h1⟩
  refine ⟨⟨hw.no, hw.unb, hw.nid, hw.nid1, by rw [hsz]; exact hw.bs, hw.inj, fun l hl => by rw [hsz]; exact hw.mub l hl, fun l hl => ?_, hw.unob, fun i h0 hi' => ?_, hw.idi, fun g cs hg => (hw.glob g cs hg).ext e, hw.fresh, fun l x hl hx => ?_, hw.shu, fun i T' h0 hi' hT => ?_⟩, e⟩
  · rw [hne _ (hf l hl)]; exact (hw.objs l hl).ext e.toExtW hl
  · obtain ⟨h1, h2, h3, h4, h5, ⟨c', T', fz'', r1, r2, r3⟩, h7, h8⟩ := hw.ids i h0 hi'
    refine ⟨h1, by rw [hsz]; exact h2, h3, h4, h5, ?_, h7, h8⟩
    by_cases hk : (C.io i).b = b
    · have hI := (hid i h0 hi' hk _ rfl).1
      rw [hk] at r1
      rw [hh] at r1
      simp only [Option.some.injEq, Obj.cells.injEq] at r1
      obtain ⟨rfl, rfl, rfl⟩ := r1
      exact ⟨c, T, _, by rw [hk]; exact hat, by rw [hk]; exact hI, r3⟩
    · exact ⟨c', T', fz'', by rw [hne _ hk]; exact r1, r2, r3⟩
  · obtain ⟨k1, k2⟩ := hw.shp l x hl hx
    exact ⟨k1, e.shape _ _ k2⟩
  · obtain ⟨c', fz', k1, k2⟩ := hw.ity i T' h0 hi' hT
    by_cases hk : (C.io i).b = b
    · have hI := (hid i h0 hi' hk _ rfl).2 T' hT
      rw [hk] at k1 ⊢
      rw [hh] at k1
      simp only [Option.some.injEq, Obj.cells.injEq] at k1
      obtain ⟨rfl, rfl, rfl⟩ := k1
      exact ⟨c, _, hat, hI⟩
    · exact ⟨c', fz', by rw [hne _ hk]; exact k1, k2⟩

theorem bytes_of_seg {xs fl : List AV} {bs : List UInt8} {b o : Nat} (hb : bytesOf? xs = some bs) (hfl : flat? 1 xs = some fl) (hs : Seg C w b o fl) :
    ∃ ns : List Int, (∀ j u, (ns.map (Value.int .u8))[j]? = some u → w.cell? ((⟨b, o, none⟩ : Addr).add j) = some u) ∧ ns.length = xs.length ∧ bs = ns.map fun n => UInt8.ofNat n.toNat := by
  obtain ⟨vs, k1, k2⟩ := seg_at hs
  obtain ⟨ns, n1, n2⟩ := bytes_vals hb hfl k1
  have h1 := flat_length hfl
  have h2 := k1.1
  refine ⟨ns, fun j u hu => k2 j u (by rw [n1]; exact hu), ?_, n2⟩
  rw [n1, List.length_map] at h2
  omega

theorem good_bytesString (ok : E.Ok) (hw : WR E C S w) {src dst e : TypeId} (hs : E.und src = some (.slice e)) (hu8 : E.und e = some (.int .u8)) (hd : E.und dst = some .string) {xs fl : List AV} {bs : List UInt8}
    (h1 : bytesOf? xs = some bs) (hfl : flat? 1 xs = some fl) {p : Addr} {cap b o : Nat} (hp : xs ≠ [] → p = ⟨b, o, none⟩) (hseg : Seg C w b o fl) :
    Good E C w (do pure (.value (← convert src dst (.slice (some p) xs.length cap)))) (.sc (.string ⟨bs.toArray⟩)) S := by
  obtain ⟨ns, n1, n2, n3⟩ := bytes_of_seg h1 hfl hseg
  refine Good.val hw (run_v ?_) (.sc _)
  rw [run_convert_bytes_string w src dst e _ xs.length cap (ok.und _ _ hs) (ok.und _ _ hu8) (ok.und _ _ hd)]
  have hl : (loadCells p xs.length).run E.P w = .ok (ns.map (Value.int .u8)).toArray w := by
    have := run_loadCells_list (P := E.P) w p (ns.map (Value.int .u8)) (fun j u hu => by
      have hne : xs ≠ [] := fun e => by
        rw [e] at n2
        have : ns = [] := List.eq_nil_of_length_eq_zero n2
        rw [this] at hu; simp at hu
      rw [hp hne]; exact n1 j u hu)
    rw [List.length_map, n2] at this
    exact this
  rw [run_bytesToString w _ _ cap ns hl, n3]
  congr 2
  have := foldl_push (ns.map fun n => UInt8.ofNat n.toNat) #[]
  rw [List.foldl_map] at this
  have e0 : ByteArray.empty = ⟨#[]⟩ := rfl
  rw [e0, this]
  simp

theorem groups_one : ∀ (n : Nat) (cs : List AV), cs.length = n → groups false 1 n cs = cs
  | 0, [], _ => rfl
  | n + 1, x :: l, h => by
    simp only [groups, cond_false, List.headD_cons, List.drop_succ_cons, List.drop_zero]
    rw [groups_one n l (by simpa using h)]

theorem osl_elems {agg : Bool} {l sz off len : Nat} {xs : List AV} (h : S.oslElems agg l sz off len = some xs) : ∃ cs, S.obj l = some cs ∧ ((cs.drop off).take (len * sz)).length = len * sz ∧ ((cs.drop off).take (len * sz)).all okCell = true ∧ xs = groups agg sz len ((cs.drop off).take (len * sz)) := by
  unfold St.oslElems at h
  split at h
  · rename_i cs ho
    simp only [cond_eq_ite] at h
    split at h
    · rename_i hb
      simp only [Bool.and_eq_true] at hb
      simp only [Option.some.injEq] at h
      exact ⟨cs, ho, Nat.eq_of_beq_eq_true hb.1, hb.2, h.symm⟩
    · simp at h
  · simp at h

theorem bytes_ok : ∀ {xs : List AV} {bs : List UInt8}, bytesOf? xs = some bs → flat? 1 xs = some xs
  | [], _, _ => rfl
  | x :: l, bs, h => by
    unfold bytesOf? at h
    split at h
    · rename_i heq; simp at heq
    · rename_i n l' heq
      simp only [List.cons.injEq] at heq
      obtain ⟨rfl, rfl⟩ := heq
      simp only [Option.map_eq_some_iff] at h
      obtain ⟨bs', h1, rfl⟩ := h
      exact flat_mk (cs := [.sc (.int .u8 n)]) rfl (bytes_ok h1) rfl rfl
    · simp at h

theorem WR.dropIty (h : WR E C S w) (m : PM TypeId) (hm : ∀ i T, 2 < i → i < C.nid → m.get i = some T → S.ity.get i = some T) (hm2 : ∀ i, S.nid ≤ i → m.get i = none) : WR E C { S with ity := m } w :=
  ⟨h.no, h.unb, h.nid, h.nid1, h.bs, h.inj, h.mub, h.objs, h.unob, h.ids, h.idi, h.glob, fun i hi => ⟨(h.fresh i hi).1, hm2 i hi⟩, h.shp, h.shu, fun i T h0 hi hT => h.ity i T h0 hi (hm i T h0 hi hT)⟩

theorem good_stringBytes (ok : E.Ok) (hw : WR E C S w) {src dst e : TypeId} {s : ByteArray} (hs : E.und src = some .string) (hd : E.und dst = some (.slice e)) (hu8 : E.und e = some (.int .u8)) :
    Good E C w (do pure (.value (← convert src dst (.string s)))) (.vec S.nid 1 (byteVals s.data.toList)) S.newIdX := by
  have hrun := Go.Lib.run_convert_string_bytes (P := E.P) w src dst e s (ok.und _ _ hs) (ok.und _ _ hd) (ok.und _ _ hu8)
  have hwd := hw.drew
  have hcapge : s.size ≤ grownCap w s.size 0 e := grownCap_ge _ _ _ _
  have hsize : (Go.Lib.bytesCells w e s).size = grownCap w s.size 0 e := by
    have h1 : s.data.size = s.size := rfl
    simp only [Go.Lib.bytesCells, Array.size_append, Array.size_map, Array.size_replicate, h1]; omega
  have hxl : (byteVals s.data.toList).length = s.size := by simp [byteVals]
  have h1 := hwd.newRow (c := Go.Lib.bytesCells w e s) e (0, 0) s.size (grownCap w s.size 0 e) 1 (by decide) hcapge (by omega) (.inl rfl) (.inl rfl)
  have e1 := Ext.newRow hwd (.cells (Go.Lib.bytesCells w e s) e) s.size (grownCap w s.size 0 e) 1 (s.size * 1)
  have h2 := h1.dropIty S.ity (fun i T h0 hi hT => by
    show (S.ity.set S.nid e).get i = some T
    rw [PM.get_set]
    by_cases hi2 : i = S.nid
    · rw [hi2, (hw.fresh _ (Nat.le_refl _)).2] at hT; cases hT
    · rw [if_neg hi2]; exact hT) (fun i hi => (hw.fresh i (by have : S.nid + 1 ≤ i := hi; omega)).2)
  have hat : (w.drew.alloc (.cells (Go.Lib.bytesCells w e s) e)).heap[w.heap.size]? = some (.cells (Go.Lib.bytesCells w e s) e (0, 0)) := heap_alloc_at w.drew _
  have hfree : (C.newId ⟨w.drew.heap.size, 0, s.size, grownCap w s.size 0 e, 1⟩ (s.size * 1)).free w.heap.size := fun l hl => by
    have := (hw.mub l hl).2
    show C.mu l ≠ _; omega
  obtain ⟨k1, k2⟩ := h2.freeze (o := (Go.Lib.bytesCells w e s).size) (n := 1) (b := w.heap.size) hw.bs hfree hat (fun i h0 hi hb fz' hfz' => by
    have hi' : i < C.nid + 1 := hi
    by_cases hi2 : i = S.nid
    · refine ⟨fun j _ hj => ?_, fun T' hT => ?_⟩
      · subst hfz'; simp; omega
      · have hT' : S.ity.get i = some T' := hT
        rw [hi2, (hw.fresh _ (Nat.le_refl _)).2] at hT'; cases hT'
    · exfalso
      have hlt : i < C.nid := by have := hw.nid; omega
      have hio : (C.newId ⟨w.drew.heap.size, 0, s.size, grownCap w s.size 0 e, 1⟩ (s.size * 1)).io i = C.io i := by simp only [Ctx.newId]; rw [if_neg (by omega)]
      rw [hio] at hb
      have := (hw.ids i h0 hlt).lt
      omega)
  refine .inl ⟨_, _, _, run_v hrun, k1, ((Ext.drew C w).trans e1).trans k2, ?_⟩
  have hv : VecAt (C.newId ⟨w.drew.heap.size, 0, s.size, grownCap w s.size 0 e, 1⟩ (s.size * 1)) (w.drew.alloc (.cells (Go.Lib.bytesCells w e s) e)) S.nid 1 (byteVals s.data.toList) (byteVals s.data.toList) w.heap.size 0 (grownCap w s.size 0 e) := by
    have hn := hw.nid1
    refine ⟨by decide, by rw [hxl]; exact hcapge, byteVals_flat _, by simp, hfree, ?_, ⟨_, byteVals_rel _ _ s.data.toList, fun j u hu => ?_⟩, fun _ => ⟨?_, ?_⟩, fun h => by omega, fun h => by omega⟩
    · rw [hxl]; simp [Ctx.newId]
    · rw [Nat.zero_add, cell_block hat]
      have hj : j < s.data.size := by
        rcases Nat.lt_or_ge j s.data.size with h' | h'
        · exact h'
        · rw [List.getElem?_eq_none (by simpa using h')] at hu; cases hu
      simp only [Go.Lib.bytesCells]
      rw [Array.getElem?_append_left (by simpa using hj)]
      simpa using hu
    · simp [Ctx.newId, hw.nid]
    · rw [hxl]; simp [Ctx.newId, hw.nid]
  have := hv.mk'.ext k2.toExtW
  rwa [hxl] at this

theorem good_convert (ok : E.Ok) (hw : WR E C S w) {mu : Bool} {src dst : TypeId} {x : AV} {ux : Value} (hx : VR C w x ux) (h : convertA E mu src dst x S = some (v, S')) :
    Good E C w (do pure (.value (← convert src dst ux))) v S' := by
  unfold convertA at h
  cases hsb : isStrBytes E src dst with
  | true =>
    rw [hsb] at h
    simp only [cond_true] at h
    split at h
    · rename_i e s hd
      have := hx.sc_inv; subst this
      simp only [cond_eq_ite] at h
      split at h
      · rename_i hb
        simp only [Bool.and_eq_true] at hb
        have hs : E.und src = some .string := by
          unfold isStrBytes at hsb
          split at hsb
          · rename_i h1 h2; exact h1
          · simp at hsb
        simp only [Option.some.injEq, Prod.mk.injEq] at h
        obtain ⟨rfl, rfl⟩ := h
        exact good_stringBytes ok hw hs hd (isU8_inv hb.1.1)
      · simp at h
    · simp at h
  | false =>
  rw [hsb] at h
  simp only [cond_false] at h
  cases x with
  | sc u =>
    have := hx.sc_inv; subst this
    simp only [Option.map_eq_some_iff, Prod.mk.injEq] at h
    obtain ⟨r, h1, rfl, rfl⟩ := h
    exact Good.val hw (run_v (peek_run _ h1 w)) (vr_ofV _ _ _)
  | vec id sz xs =>
    simp only at h
    split at h
    · rename_i e hs hd
      cases hb : (isU8 (E.und e) && Nat.beq sz 1) with
      | false => rw [hb] at h; simp at h
      | true =>
        rw [hb] at h
        simp only [cond_true, Option.map_eq_some_iff, Prod.mk.injEq] at h
        obtain ⟨bs, h1, rfl, rfl⟩ := h
        simp only [Bool.and_eq_true] at hb
        have hu8 := isU8_inv hb.1
        have hsz := Nat.eq_of_beq_eq_true hb.2
        subst hsz
        rcases hx.vec_inv with ⟨_, rfl, p, cap, rfl⟩ | ⟨fl, b, o, cap, rfl, hv⟩
        · exact good_bytesString (b := 0) (o := 0) ok hw hs hu8 hd h1 rfl (fun h => absurd rfl h) ⟨[], LR.nil _ _, fun j u hu => by simp at hu⟩
        · exact good_bytesString ok hw hs hu8 hd h1 hv.flat (fun _ => rfl) hv.seg
    · rename_i e1 e hs hd
      cases hb : (Nat.beq src dst && isU8 (E.und e) && Nat.beq id 1) with
      | false => rw [hb] at h; simp at h
      | true =>
        rw [hb] at h
        simp only [cond_true, Option.some.injEq, Prod.mk.injEq] at h
        obtain ⟨rfl, rfl⟩ := h
        simp only [Bool.and_eq_true] at hb
        have hsd := Nat.eq_of_beq_eq_true hb.1.1
        subst hsd
        have hu8 := isU8_inv hb.1.2
        have hid := Nat.eq_of_beq_eq_true hb.2
        rcases hx.vec_inv with ⟨h0, _⟩ | ⟨fl, b, o, cap, hU, hv⟩
        · omega
        · obtain ⟨x1, x2⟩ := hv.x2 hid
          have hs1 := run_und ok hs
          have he1 := run_und ok hu8
          rw [hs] at hd
          simp only [Option.some.injEq, TypeDesc.slice.injEq] at hd
          subst hd
          cases hblk : w.heap[b]? with
          | none => have := hv.lt; rw [Array.getElem?_eq_none_iff] at hblk; omega
          | some ob =>
            by_cases hc : ∃ c T fz, ob = .cells c T fz
            · obtain ⟨c, T, ⟨lo, hi⟩, rfl⟩ := hc
              obtain ⟨k1, k2⟩ := hw.freeze (o := c.size) (n := 1) x1 hv.free hblk (fun i h0 hi' hb' => absurd hb' (x2 i h0 hi'))
              refine .inl ⟨ux, C, _, run_v (w' := w.freeze ⟨b, c.size, none⟩ 1) ?_, k1, k2, hx.ext k2⟩
              have hm : (markStringish ⟨b, o, none⟩).run E.P w = .ok () (w.freeze ⟨b, c.size, none⟩ 1) := by
                simp [markStringish, shape, Sem.run, World.shape?, hblk, Go.freeze]
              simp [convert, hs1, he1, hU, hm]
            · refine Good.val hw (run_v (u := ux) ?_) hx
              have hsh : w.shape? b = none := by
                simp only [World.shape?, hblk]
                cases ob <;> first | rfl | exact absurd ⟨_, _, _, rfl⟩ hc
              have hm : (markStringish ⟨b, o, none⟩).run E.P w = .ok () w := by
                simp [markStringish, shape, Sem.run, hsh]
              simp [convert, hs1, he1, hU, hm]
    · simp at h
  | osl l sz off len room =>
    simp only at h
    split at h
    · rename_i e hs hd
      simp only [cond_eq_ite] at h
      split at h
      · rename_i hb
        simp only [Bool.and_eq_true] at hb
        have hu8 := isU8_inv hb.1
        have hsz := Nat.eq_of_beq_eq_true hb.2
        subst hsz
        split at h
        · rename_i xs hxs
          simp only [Option.map_eq_some_iff, Prod.mk.injEq] at h
          obtain ⟨bs, h1, rfl, rfl⟩ := h
          obtain ⟨cs, ho, g1, g2, g3⟩ := osl_elems hxs
          rw [groups_one _ _ (by rw [g1]; omega)] at g3
          cases hx with
          | osl _ _ _ _ _ a cap hbn hs' hlr hrc hro hcl ha =>
            have hl : len = xs.length := by rw [g3, g1]; omega
            have hseg := seg_shift (obj_seg hw hbn ho) off (len * 1)
            rw [← g3] at hseg
            have := good_bytesString (p := a) (cap := cap) ok hw hs hu8 hd h1 (bytes_ok h1) (fun hne => ha (by have := List.length_pos_iff.2 hne; omega)) hseg
            rw [← hl] at this
            exact this
        · simp at h
      · simp at h
    · simp at h
  | ptr l off =>
    simp only at h
    split at h
    · rename_i t cs hs hd ho
      split at h
      · rename_i i hi
        simp only [cond_eq_ite] at h
        split at h
        · rename_i hb
          simp only [Bool.and_eq_true] at hb
          have b1 : 0 < i.size := Nat.le_of_ble_eq_true hb.1
          have b2 : off < cs.length := Nat.le_of_ble_eq_true hb.2
          simp only [Option.some.injEq, Prod.mk.injEq] at h
          obtain ⟨rfl, rfl⟩ := h
          cases hx with
          | ptr _ _ hbn =>
            have hob := hw.objs l hbn
            rw [obj_inv ho] at hob
            obtain ⟨c, T, fz, k1, k2, k3, k4, k5, k6⟩ := hob
            refine Good.val hw (run_v (Go.Lib.run_to_unsafe w ⟨C.mu l, C.bs l + off, none⟩ (ok.und _ _ hs) (ok.und _ _ hd) (ok.inf _ _ hi) (by omega) (shape_block k1) ?_)) (.ptr _ _ hbn)
            show C.bs l + off < c.size
            omega
        · simp at h
      · simp at h
    · rename_i u cs hs hd ho
      split at h
      · rename_i i T n hi hsp
        simp only [cond_eq_ite] at h
        split at h
        · rename_i hb
          simp only [Bool.and_eq_true] at hb
          simp only [Option.some.injEq, Prod.mk.injEq] at h
          obtain ⟨rfl, rfl⟩ := h
          cases hx with
          | ptr _ _ hbn =>
            obtain ⟨k1, k2⟩ := hw.shp l _ hbn hsp
            refine Good.val hw (run_v (Go.Lib.run_from_unsafe w ⟨C.mu l, C.bs l + off, none⟩ (ok.und _ _ hs) (ok.und _ _ hd) (ok.inf _ _ hi) k2 ?_)) (.ptr _ _ hbn)
            rw [k1, Nat.zero_add]
            exact hb.2
        · simp at h
      · simp at h
    · simp at h
  | _ => simp at h

theorem callFunc_run {g : FuncId} {fn : Func} (h1 : E.P.funcs[g]? = some fn) (h2 : fn.body.isNone = false) (h3 : fn.name ≠ "runtime.NumGoroutine") (args : Array Value) (w : World) :
    (callFunc g args).run E.P w = .ok (.enter g args) w := by
  have h2' : fn.body ≠ none := fun e => by simp [e] at h2
  simp [callFunc, program, Sem.run, h1, h2', h3]

theorem good_enter (hcall : CallOk E call) (hw : WR E C S w) {g : FuncId} {args : List AV} {vs : Array Value} (hl : LR C w args vs.toList) (h : call g args S = some (v, S')) {r : Sem Next}
    (hr : r.run E.P w = (callFunc g vs).run E.P w) : Good E C w r v S' := by
  obtain ⟨⟨fn, h1, h2, h3⟩, h4⟩ := hcall g args S v S' h
  exact .inr (.inr ⟨g, vs, by rw [hr, callFunc_run h1 h2 h3], h4 C w vs hw hl⟩)

theorem good_ext (ok : E.Ok) (hw : WR E C S w) {g : FuncId} {hh : List AV → Option AV} {args : List AV} {vs : Array Value} (hl : LR C w args vs.toList) (he : E.ext g = some hh) (h : (hh args).map (fun v => (v, S)) = some (v, S')) {r : Sem Next}
    (hr : r.run E.P w = (callFunc g vs).run E.P w) : Good E C w r v S' := by
  simp only [Option.map_eq_some_iff, Prod.mk.injEq] at h
  obtain ⟨x, h1, rfl, rfl⟩ := h
  obtain ⟨u, k1, k2⟩ := ok.ext g hh args x he h1 C w vs hl
  exact Good.val hw (hr.trans k1) k2

theorem lr_of_fn {cs : List AV} {vs : Array Value} (hl : cs.length = vs.size) (hr : ∀ i x, cs[i]? = some x → VR C w x (vs.getD i Go.undef)) : LR C w cs vs.toList :=
  ⟨by simpa using hl, fun i x hx => by simpa using hr i x hx⟩

theorem good_len (ok : E.Ok) (hw : WR E C S w) {t ty : TypeId} {x : AV} {ux : Value} {cs : Array Bool} (hx : VR C w x ux) (h : builtinA E mu .len [t] [x] S = some (v, S')) :
    Good E C w (invoke (.builtin .len #[t] ty cs) #[ux]) v S' := by
  simp only [builtinA] at h
  split at h
  · rename_i e hd
    simp only [Option.map_eq_some_iff, Prod.mk.injEq] at h
    obtain ⟨n, h1, rfl, rfl⟩ := h
    refine Good.val hw (u := .int .i64 n) ?_ (.sc _)
    unfold lenS at h1
    split at h1
    · have := hx.sc_inv; subst this
      simp at h1; subst h1
      simp [invoke, builtin, Builtin.len_, run_und ok hd, goInt]
    · obtain ⟨p, cap, rfl⟩ := hx.vec_slice
      simp at h1; subst h1
      simp [invoke, builtin, Builtin.len_, run_und ok hd, goInt]
    · cases hx
      simp at h1; subst h1
      simp [invoke, builtin, Builtin.len_, run_und ok hd, goInt]
    · simp at h1
  · rename_i hd
    split at h
    · have := hx.sc_inv; subst this
      simp only [Option.some.injEq, Prod.mk.injEq] at h
      obtain ⟨rfl, rfl⟩ := h
      refine Good.val hw ?_ (.sc _)
      simp [invoke, builtin, Builtin.len_, run_und ok hd, goInt]
    · simp at h
  · rename_i n e hd
    simp only [Option.some.injEq, Prod.mk.injEq] at h
    obtain ⟨rfl, rfl⟩ := h
    refine Good.val hw (u := .int .i64 n) ?_ (.sc _)
    simp [invoke, builtin, Builtin.len_, run_und ok hd, goInt]
  · rename_i kt et hd
    split at h
    · rename_i l
      simp only [Option.map_eq_some_iff, Prod.mk.injEq] at h
      obtain ⟨es, h1, rfl, rfl⟩ := h
      cases hx with
      | mp _ hb =>
        obtain ⟨_, ents, clock, k1, k2⟩ := map_obj hw hb h1
        refine Good.val hw (u := .int .i64 es.length) ?_ (.sc _)
        have hlen : ents.size = es.length := by rw [k2.1.len]; simp
        simp [invoke, builtin, Builtin.len_, run_und ok hd, getObj, Sem.run, k1, goInt, hlen]
    · have := hx.sc_inv; subst this
      simp only [Option.some.injEq, Prod.mk.injEq] at h
      obtain ⟨rfl, rfl⟩ := h
      refine Good.val hw ?_ (.sc _)
      simp [invoke, builtin, Builtin.len_, run_und ok hd, goInt]
    · simp at h
  · simp at h

theorem good_append (ok : E.Ok) (hw : WR E C S w) {agg : Bool} {t t1 e ty : TypeId} {ti : TypeInfo} {s x : AV} {us ux : Value} (ht : E.und t = some (.slice e)) (hi : E.inf e = some ti)
    (hk : (∃ e', E.P.underlying t1 = some (.slice e')) ∨ E.P.underlying t1 = some .string)
    (hk2 : ∀ str, x = .sc (.string str) → E.P.underlying t1 = some .string) (hk3 : (∀ str, x ≠ .sc (.string str)) → ∃ e', E.P.underlying t1 = some (.slice e'))
    (hs : VR C w s us) (hx : VR C w x ux) (h : appendA mu agg e ti s x S = some (v, S')) : Good E C w (do pure (.value (← Builtin.append_ #[t, t1] ty #[us, ux]))) v S' := by
  unfold appendA at h
  split at h
  · simp at h
  · rename_i ys hel
    refine good_appendXs ok hw hs ?_ h
    have hu := ok.und t _ ht
    have hin := ok.inf e ti hi
    cases ys with
    | nil =>
      refine ⟨[], [], rfl, LR.nil _ _, fun h => absurd rfl h, AppOk.ofSrc hu hin ?_⟩
      have hlen : ∀ w' : World, (Builtin.lenOf ux).run E.P w' = .ok 0 w' ∧ (Builtin.firstCells ti.size 0 ux).run E.P w' = .ok #[] w' := by
        intro w'
        cases x with
        | osl l sz off len room =>
          simp only [elemsS, cond_eq_ite] at hel
          split at hel
          · obtain ⟨cs, ho, g1, g2, g3⟩ := osl_elems hel
            have h0 : len = 0 := by
              have := congrArg List.length g3
              cases len with
              | zero => rfl
              | succ n => simp [groups] at this
            cases hx
            subst h0
            exact ⟨rfl, by simp [Builtin.firstCells, loadCells, loadCellsFrom]⟩
          · simp at hel
        | vec id sz xs =>
          simp [elemsS, elemsOf] at hel; subst hel
          obtain ⟨a, cap, rfl⟩ := hx.vec_slice
          exact ⟨rfl, by simp [Builtin.firstCells, loadCells, loadCellsFrom]⟩
        | sc u =>
          have := hx.sc_inv; subst this
          cases ux with
          | string str =>
            simp [elemsS, elemsOf, byteVals] at hel
            have h0 : str.size = 0 := by
              have : str.data = #[] := by simpa using hel
              simp [ByteArray.size, this]
            exact ⟨by simp [Builtin.lenOf, h0], by simp [Builtin.firstCells]⟩
          | slice a n c =>
            cases a with
            | none =>
              match n, c with
              | 0, 0 => exact ⟨rfl, rfl⟩
              | 0, _ + 1 => simp [elemsS, elemsOf] at hel
              | _ + 1, _ => simp [elemsS, elemsOf] at hel
            | some _ => simp [elemsS, elemsOf] at hel
          | _ => simp [elemsS, elemsOf] at hel
        | _ => simp [elemsS, elemsOf] at hel
      exact ⟨hk, fun w' => (hlen w').1, (hlen w).2, (hlen w.drew).2, by simp, fun u hu => by simp at hu⟩
    | cons y ys =>
      -- the elements fit
      have hfit : allSz ti.size (y :: ys) = true ∧ 0 < ti.size := by
        unfold appendXs at h
        simp only [cond_eq_ite] at h
        split at h
        · rename_i hb
          simp only [Bool.and_eq_true] at hb
          exact ⟨hb.1.1, Nat.le_of_ble_eq_true hb.1.2⟩
        · simp at h
      have hkk : (∃ e', E.P.underlying t1 = some (.slice e')) ∧ (∀ s, x ≠ .sc (.string s)) ∨ E.P.underlying t1 = some .string ∧ (∃ s, x = .sc (.string s)) ∨ (y :: ys) = [] := by
        by_cases hstr : ∃ str, x = .sc (.string str)
        · obtain ⟨str, rfl⟩ := hstr
          exact .inr (.inl ⟨hk2 str rfl, str, rfl⟩)
        · have hn : ∀ str, x ≠ .sc (.string str) := fun str e => hstr ⟨str, e⟩
          exact .inl ⟨hk3 hn, hn⟩
      obtain ⟨fy, news, f1, f2, f3⟩ := src_rel hw hx hel hfit.2 hfit.1 hkk (by simp)
      exact ⟨fy, news, f1, f2, fun _ => f3.one, AppOk.ofSrc hu hin f3⟩

theorem good_appendB (ok : E.Ok) (hw : WR E C S w) {t t1 ty : TypeId} {s x : AV} {us ux : Value} {cs : Array Bool} (hs : VR C w s us) (hx : VR C w x ux) (h : builtinA E mu .append [t, t1] [s, x] S = some (v, S')) :
    Good E C w (invoke (.builtin .append #[t, t1] ty cs) #[us, ux]) v S' := by
  simp only [builtinA] at h
  split at h
  · rename_i e e' hd hd1
    split at h
    · rename_i d i id sz xs hde hi
      exact good_append ok hw (e := e) hd hi (.inl ⟨_, ok.und _ _ hd1⟩) (fun _ e => by simp at e) (fun _ => ⟨_, ok.und _ _ hd1⟩) hs hx h
    · rename_i d i a n c hde hi
      exact good_append ok hw (e := e) hd hi (.inl ⟨_, ok.und _ _ hd1⟩) (fun _ e => by simp at e) (fun _ => ⟨_, ok.und _ _ hd1⟩) hs hx h
    · rename_i d i l sz off len room hde hi
      exact good_append ok hw (e := e) hd hi (.inl ⟨_, ok.und _ _ hd1⟩) (fun _ e => by simp at e) (fun _ => ⟨_, ok.und _ _ hd1⟩) hs hx h
    · simp at h
  · rename_i e hd hd1
    split at h
    · rename_i i str hi
      exact good_append ok hw (e := e) hd hi (.inr (ok.und _ _ hd1)) (fun _ _ => ok.und _ _ hd1) (fun hn => absurd rfl (hn str)) hs hx h
    · simp at h
  · rename_i e k1 hd hd1
    split at h
    · rename_i d i k n hde hi
      split at h
      · rename_i z hz
        simp only [cond_eq_ite] at h
        split at h
        · rename_i hb
          simp only [Bool.and_eq_true, Bool.or_eq_true, decide_eq_true_eq] at hb
          obtain ⟨⟨⟨⟨⟨b1, b2⟩, b3⟩, b4⟩, b5⟩, b6⟩ := hb
          have b4 := Nat.eq_of_beq_eq_true b4
          have b5 := Nat.le_of_ble_eq_true b5
          have hxv := hx.sc_inv
          subst hxv
          refine good_appendXs ok hw hs ?_ h
          have hlen : (zerosA z n.toNat).length = n.toNat * i.size := by rw [zerosA_length, b4]
          obtain ⟨g1, g2⟩ := flat_groups (isAggD d) i.size (b3.imp id Nat.eq_of_beq_eq_true) n.toNat _ hlen b6
          have hz' := zeros_rel C w z n.toNat
          have hzc : (Builtin.zeroCells z.cells n.toNat).toList = (List.range (n.toNat * z.cells.size)).map fun j => z.cells.getD (j % z.cells.size) default := by
            simp [Builtin.zeroCells, Array.getElem!_eq_getD]
          rw [← hzc] at hz'
          have hone := okCells_one hz' b6
          rw [g2]
          exact ⟨_, _, g1, hz', fun _ => hone, AppOk.ofZeros (ok.und _ _ hd) (ok.und _ _ hd1) (ok.inf _ _ hi) hz b4 b1 b2 (.inl b5) hone⟩
        · simp at h
      · simp at h
    · simp at h
  · simp at h

theorem arr1 {α : Type} {xs : Array α} {x : α} (h : xs.toList = [x]) : xs = #[x] := by rw [← Array.toArray_toList (xs := xs), h]
theorem arr2 {α : Type} {xs : Array α} {x y : α} (h : xs.toList = [x, y]) : xs = #[x, y] := by rw [← Array.toArray_toList (xs := xs), h]
theorem lr1 {x : AV} {vs : Array Value} (h : LR C w [x] vs.toList) : ∃ u, vs = #[u] ∧ VR C w x u := by
  match hv : vs.toList, h with
  | [], h => exact absurd h.1 (by simp)
  | [u], h => exact ⟨u, arr1 hv, h.head⟩
  | _ :: _ :: _, h => exact absurd h.1 (by simp)
theorem lr2 {x y : AV} {vs : Array Value} (h : LR C w [x, y] vs.toList) : ∃ u u', vs = #[u, u'] ∧ VR C w x u ∧ VR C w y u' := by
  match hv : vs.toList, h with
  | [], h => exact absurd h.1 (by simp)
  | [u], h => exact absurd h.1 (by simp)
  | [u, u'], h => exact ⟨u, u', arr2 hv, h.head, h.tail.head⟩
  | _ :: _ :: _ :: _, h => exact absurd h.1 (by simp)

theorem copy_cells (hw : WR E C S w) {sz n : Nat} {x : AV} {ux : Value} {vs : List AV} (hx : VR C w x ux) (h : srcCells S sz n x = some vs) (hl : vs.length = n * sz) (hn : ∀ m, lenS x = some m → n ≤ m) :
    ∃ us, LR C w vs us ∧ (∀ u ∈ us, u.oneCell' = true) ∧ (Builtin.firstCells sz n ux).run E.P w = .ok us.toArray w := by
  have empty : n * sz = 0 → ∀ (base : Option Addr) (k c : Nat), (Builtin.firstCells sz n (.slice base k c)).run E.P w = .ok #[] w := fun h0 base k c => by
    cases base <;> simp [Builtin.firstCells, h0, loadCells, loadCellsFrom]
  have nil : vs = [] → n * sz = 0 := fun e => by rw [e] at hl; simpa using hl.symm
  unfold srcCells at h
  cases x with
  | vec id sz' xs =>
    simp only at h
    rcases hx.vec_inv with ⟨_, rfl, p, cap, rfl⟩ | ⟨fl, b, o, cap, rfl, hv⟩
    · simp [flat?] at h
      have hv : vs = [] := by first | exact h | exact h.symm
      exact ⟨[], by rw [hv]; exact LR.nil _ _, fun u hu => by simp at hu, empty (nil hv) _ _ _⟩
    · by_cases h0 : n * sz = 0
      · have : vs = [] := List.eq_nil_of_length_eq_zero (by omega)
        exact ⟨[], by rw [this]; exact LR.nil _ _, fun u hu => by simp at hu, empty h0 _ _ _⟩
      · have hnn : n ≤ xs.length := hn _ rfl
        have hsz : sz' = sz := by
          have h1 := flat_take n hv.flat
          match hxs : xs.take n, h, h1 with
          | [], h, _ =>
            simp [flat?] at h
            have hv : vs = [] := by first | exact h | exact h.symm
            rw [hv] at hl; simp at hl; omega
          | y :: l, h, h1 =>
            obtain ⟨cs, _, a1, _, a3, _, _⟩ := flat_cons h1
            obtain ⟨cs2, _, a4, _, a5, _, _⟩ := flat_cons h
            rw [a1] at a4; simp at a4; subst a4; omega
        subst hsz
        have h1 := flat_take n hv.flat
        rw [h] at h1
        simp only [Option.some.injEq] at h1
        have hseg := seg_shift hv.seg 0 (n * sz')
        simp only [List.drop_zero, Nat.add_zero, ← h1] at hseg
        obtain ⟨us, k1, k2⟩ := seg_at hseg
        exact ⟨us, k1, okCells_one k1 (flat_all h), run_firstCells_some w sz' n _ _ cap us (by rw [← k1.1, hl]) k2⟩
  | osl l sz' off len room =>
    simp only at h
    split at h
    · rename_i cs ho
      simp only [cond_eq_ite] at h
      split at h
      · rename_i hb
        simp only [Bool.and_eq_true] at hb
        obtain ⟨⟨b1, b2⟩, b3⟩ := hb
        have b1 := Nat.eq_of_beq_eq_true b1
        subst b1
        simp only [Option.some.injEq] at h
        cases hx with
        | osl _ _ _ _ _ a cap hbn hs' hlr hrc hro hcl ha =>
          by_cases h0 : n * sz' = 0
          · have : vs = [] := List.eq_nil_of_length_eq_zero (by omega)
            exact ⟨[], by rw [this]; exact LR.nil _ _, fun u hu => by simp at hu, empty h0 _ _ _⟩
          · have hnn : n ≤ len := hn _ rfl
            have hn0 : 0 < n := Nat.pos_of_ne_zero fun e => h0 (by rw [e]; simp)
            have ha' := ha (by omega)
            subst ha'
            have hseg := seg_shift (obj_seg hw hbn ho) off (n * sz')
            rw [h] at hseg b3
            obtain ⟨us, k1, k2⟩ := seg_at hseg
            exact ⟨us, k1, okCells_one k1 b3, run_firstCells_some w sz' n _ _ cap us (by rw [← k1.1, hl]) k2⟩
      · simp at h
    · simp at h
  | sc u =>
    have := hx.sc_inv; subst this
    cases ux with
    | slice a k c =>
      cases a with
      | none =>
        match k, c with
        | 0, 0 =>
          simp only [cond_eq_ite] at h
          split at h
          · rename_i h0
            simp only [Option.some.injEq] at h
            exact ⟨[], by rw [← h]; exact LR.nil _ _, fun u hu => by simp at hu, empty (nil h.symm) _ _ _⟩
          · simp at h
        | 0, _ + 1 => simp at h
        | _ + 1, _ => simp at h
      | some _ => simp at h
    | _ => simp at h
  | _ => simp at h

theorem lenS_run {x : AV} {ux : Value} {m : Nat} (hx : VR C w x ux) (h : lenS x = some m) : ∃ base c, ux = .slice base m c := by
  unfold lenS at h
  split at h
  · rename_i c
    have := hx.sc_inv; subst this
    simp at h; subst h
    exact ⟨_, _, rfl⟩
  · obtain ⟨p, cap, rfl⟩ := hx.vec_slice
    simp at h; subst h
    exact ⟨_, _, rfl⟩
  · cases hx
    simp at h; subst h
    exact ⟨_, _, rfl⟩
  · simp at h

theorem store_seg (hw : WR E C S w) {l sz off len room : Nat} {ux : Value} (hx : VR C w (.osl l sz off len room) ux) {cs vs : List AV} {us : List Value} (ho : S.obj l = some cs) (hv : LR C w vs us) (hb : off + vs.length ≤ cs.length)
    (hlen : vs.length ≤ len * sz) (hone : ∀ u ∈ us, u.oneCell' = true) : ∃ a cap w', ux = .slice (some a) len cap ∧ (storeCells a us).run E.P w = .ok () w' ∧ WR E C (S.put l (.cells (splice cs off vs))) w' ∧ Ext C w C w' := by
  cases hx with
  | osl _ _ _ _ _ a cap hbn hs hlr hrc hro hcl ha =>
    obtain ⟨w1, w2, w3, w4⟩ := write_cells hw hbn ho hv hb
    by_cases h0 : us = []
    · subst h0
      exact ⟨a, cap, _, rfl, by simp [storeCells, World.setCells], w3, w4⟩
    · have hul : 0 < us.length := List.length_pos_iff.2 h0
      have hl0 : 0 < len := Nat.pos_of_ne_zero fun e => by have := hv.1; rw [e, Nat.zero_mul] at hlen; omega
      have ha' := ha (by omega)
      subst ha'
      have := run_storeCells_cells (P := E.P) (C.mu l) (C.bs l + off) us 0 w (by simpa using w1) (by simpa using w2) hone
      simp only [Nat.add_zero] at this
      exact ⟨_, cap, _, rfl, this, w3, w4⟩

theorem good_copy (ok : E.Ok) (hw : WR E C S w) {ats : List TypeId} {ty : TypeId} {xs : List AV} {vs : Array Value} (hl : LR C w xs vs.toList) (h : copyA E ats xs S = some (v, S')) :
    Good E C w (do pure (.value (← Builtin.copy_ ats.toArray ty vs))) v S' := by
  unfold copyA at h
  split at h
  · rename_i t t1 l sz off len room x
    obtain ⟨ud, ux, rfl, hd, hx⟩ := lr2 hl
    split at h
    · rename_i e e' m ht ht1 hm
      split at h
      · rename_i i vs cs hi hsrc ho
        simp only [cond_eq_ite] at h
        split at h
        · rename_i hb
          simp only [Option.some.injEq, Prod.mk.injEq] at h
          obtain ⟨rfl, rfl⟩ := h
          simp only [Bool.and_eq_true] at hb
          obtain ⟨⟨b1, b2⟩, b3⟩ := hb
          have b1 := Nat.eq_of_beq_eq_true b1
          have b2 := Nat.le_of_ble_eq_true b2
          have b3 := Nat.eq_of_beq_eq_true b3
          obtain ⟨us, k1, k2, k3⟩ := copy_cells hw hx hsrc b3 (fun m' hm' => by rw [hm] at hm'; simp at hm'; subst hm'; exact Nat.min_le_left _ _)
          obtain ⟨base, c, rfl⟩ := lenS_run hx hm
          obtain ⟨a, cap, w', rfl, q1, q2, q3⟩ := store_seg hw hd ho k1 b2 (by rw [b3]; exact Nat.mul_le_mul_right _ (Nat.min_le_right _ _)) k2
          refine .inl ⟨_, C, w', run_v (u := .int .i64 (Nat.min m len : Nat)) ?_, q2, q3, .sc _⟩
          simp [Builtin.copy_, run_und ok ht, Builtin.lenOf, run_size ok hi, b1, k3, q1, goInt]
        · simp at h
      · simp at h
    · simp at h
  · simp at h

theorem good_clear (ok : E.Ok) (hw : WR E C S w) {ats : List TypeId} {ty : TypeId} {xs : List AV} {vs : Array Value} (hl : LR C w xs vs.toList) (h : clearA E ats xs S = some (v, S')) :
    Good E C w (do pure (.value (← Builtin.clear_ ats.toArray ty vs))) v S' := by
  unfold clearA at h
  split at h
  · rename_i t l sz off len room
    obtain ⟨ud, rfl, hd⟩ := lr1 hl
    split at h
    · rename_i e ht
      split at h
      · rename_i i cs hi ho
        split at h
        · rename_i z hz
          simp only [cond_eq_ite] at h
          split at h
          · rename_i hb
            simp only [Option.some.injEq, Prod.mk.injEq] at h
            obtain ⟨rfl, rfl⟩ := h
            simp only [Bool.and_eq_true] at hb
            obtain ⟨⟨⟨b1, b2⟩, b3⟩, b4⟩ := hb
            have b1 := Nat.eq_of_beq_eq_true b1
            have b2 := Nat.eq_of_beq_eq_true b2
            have b3 := Nat.le_of_ble_eq_true b3
            have hzl : (zerosA z len).length = len * sz := by rw [zerosA_length, b2]
            have hzr := zeros_rel C w z len
            have hzc : (Builtin.zeroCells z.cells len).toList = (List.range (len * z.cells.size)).map fun j => z.cells.getD (j % z.cells.size) default := by
              simp [Builtin.zeroCells, Array.getElem!_eq_getD]
            rw [← hzc] at hzr
            obtain ⟨a, cap, w', rfl, q1, q2, q3⟩ := store_seg hw hd ho hzr (by rw [hzl]; exact b3) (by rw [hzl]; exact Nat.le_refl _) (okCells_one hzr b4)
            refine .inl ⟨_, C, w', run_v (u := .tuple #[]) ?_, q2, q3, .sc _⟩
            cases len with
            | zero =>
              have hn : (Builtin.zeroCells z.cells 0).toList = [] := by simp [Builtin.zeroCells]
              rw [hn] at q1
              simp [storeCells] at q1
              subst q1
              simp [Builtin.clear_, run_und ok ht]
            | succ n => simp [Builtin.clear_, run_und ok ht, run_zero ok hi hz, q1]
          · simp at h
        · simp at h
      · simp at h
    · simp at h
  · simp at h

theorem VR.udat_of {id : Nat} {xs fl : List AV} {b o cap : Nat} (hid : 2 < id) (hv : VecAt C w id 1 xs fl b o cap) : VR C w (.udat id xs) (.pointer (some ⟨b, o, none⟩)) := by
  obtain ⟨u, h1, h2⟩ := hv.seg.fun
  obtain ⟨k1, k2⟩ := hv.hd hid
  exact .udat id xs fl b o cap u hv.flat hv.lt hv.free hv.top h1 h2 ⟨hid, k1, k2⟩

theorem good_sliceData (ok : E.Ok) (hw : WR E C S w) {ats : Array TypeId} {ty : TypeId} {xs : List AV} {vs : Array Value} {cs : Array Bool} (hl : LR C w xs vs.toList)
    (h : builtinA E mu .unsafeSliceData ats.toList xs S = some (v, S')) : Good E C w (invoke (.builtin .unsafeSliceData ats ty cs) vs) v S' := by
  simp only [builtinA] at h
  split at h
  · simp only [Option.some.injEq, Prod.mk.injEq] at h
    obtain ⟨rfl, rfl⟩ := h
    obtain ⟨u, rfl, hx⟩ := lr1 hl
    have := hx.sc_inv; subst this
    exact Good.val hw (u := .pointer none) (run_v (Go.Lib.run_unsafeSliceData_nil w ats ty 0 0)) (.sc _)
  · rename_i id sz y ys
    obtain ⟨u, rfl, hx⟩ := lr1 hl
    simp only [cond_eq_ite] at h
    split at h
    · rename_i hb
      simp only [Option.some.injEq, Prod.mk.injEq] at h
      obtain ⟨rfl, rfl⟩ := h
      simp only [Bool.and_eq_true] at hb
      have b1 : 2 < id := Nat.le_of_ble_eq_true hb.1
      have b2 := Nat.eq_of_beq_eq_true hb.2
      subst b2
      rcases hx.vec_inv with ⟨h0, _⟩ | ⟨fl, b, o, cap, rfl, hv⟩
      · omega
      · have hc : cap ≠ 0 := by have := hv.lc; simp at this; omega
        exact Good.val hw (u := .pointer (some ⟨b, o, none⟩)) (run_v (Go.Lib.run_unsafeSliceData_row w ats ty _ _ cap hc)) (VR.udat_of b1 hv)
    · simp at h
  · simp at h

theorem inBytes : ∀ {xs : List AV} {bs : List UInt8}, bytesOf? xs = some bs → xs.all inByte = true → xs = byteVals bs
  | [], bs, h, _ => by simp [bytesOf?] at h; subst h; rfl
  | x :: l, bs, h, hb => by
    unfold bytesOf? at h
    split at h
    · rename_i heq; simp at heq
    · rename_i n l' heq
      simp only [List.cons.injEq] at heq
      obtain ⟨rfl, rfl⟩ := heq
      simp only [Option.map_eq_some_iff] at h
      obtain ⟨bs', h1, rfl⟩ := h
      simp only [List.all_cons, Bool.and_eq_true] at hb
      have h3 := inBytes h1 hb.2
      simp only [inByte, Bool.and_eq_true, decide_eq_true_eq] at hb
      have h4 : ((UInt8.ofNat n.toNat).toNat : Int) = n := by
        have : n.toNat < 256 := by omega
        simp [UInt8.toNat_ofNat, Nat.mod_eq_of_lt this]; omega
      simp only [byteVals, List.map_cons]
      rw [h4, h3]; rfl
    · simp at h

theorem good_unsafeString (ok : E.Ok) (hw : WR E C S w) {ats : Array TypeId} {ty : TypeId} {xs : List AV} {vs : Array Value} {cs : Array Bool} (hl : LR C w xs vs.toList)
    (h : builtinA E mu .unsafeString ats.toList xs S = some (v, S')) : Good E C w (invoke (.builtin .unsafeString ats ty cs) vs) v S' := by
  simp only [builtinA] at h
  split at h
  · rename_i pt it id ys n ha
    obtain ⟨up, un, rfl, hp, hn⟩ := lr2 hl
    have := hn.sc_inv; subst this
    rw [arr2 ha]
    split at h
    · rename_i u T bs hpt hT hbs
      simp only [cond_eq_ite] at h
      split at h
      · rename_i hb
        simp only [Bool.and_eq_true, decide_eq_true_eq] at hb
        obtain ⟨⟨⟨⟨b1, b2⟩, b3⟩, b4⟩, b5⟩ := hb
        have b1 := Nat.eq_of_beq_eq_true b1
        have b2 := Nat.eq_of_beq_eq_true b2
        have b5 := Nat.le_of_ble_eq_true b5
        subst b1; subst b3
        simp only [Option.some.injEq, Prod.mk.injEq] at h
        obtain ⟨rfl, rfl⟩ := h
        have hyb := inBytes hbs b4
        cases hp with
        | udat _ _ fl b o cap uu hfl hlt hf ht hc hr hid =>
          obtain ⟨h1, h2, h3⟩ := hid
          have hI := hw.ids id h1 h2
          have hP := hw.ity id T h1 h2 hT
          rw [h3] at hI hP
          obtain ⟨⟨i1, i1'⟩, i2, i3, i4, i5, _, i7, i8⟩ := hI
          simp only at i1 i1'
          subst i1'
          obtain ⟨c, ⟨lo, hi⟩, q1, q2⟩ := hP
          simp only at q1 q2
          have hlen : bs.length = ys.length := by rw [hyb]; simp [byteVals]
          have hflv : fl = byteVals bs := by
            rw [hyb, byteVals_flat] at hfl; simpa using hfl.symm
          cases hbs0 : bs with
          | nil =>
            have hy0 : ys.length = 0 := by rw [← hlen, hbs0]; rfl
            rw [hy0]
            exact Good.val hw (u := .string .empty) (run_v (Go.Lib.run_unsafeString_none w pt it ty _)) (.sc _)
          | cons b0 bs0 =>
            rw [← hbs0]
            have hne : bs ≠ [] := by rw [hbs0]; simp
            have hcell : ∀ j x, bs[j]? = some x → w.cell? ((⟨b, 0, none⟩ : Addr).add j) = some (.int .u8 x.toNat) := by
              intro j x hx
              have hj : j < bs.length := by
                rcases Nat.lt_or_ge j bs.length with h' | h'
                · exact h'
                · simp [List.getElem?_eq_none h'] at hx
              have hfj : fl[j]? = some (.sc (.int .u8 x.toNat)) := by rw [hflv]; simp [byteVals, hx]
              have e1 := hc j (by rw [hflv]; simpa [byteVals] using hj)
              have e2 := (hr j _ hfj).sc_inv
              rw [Addr.add_mid, e1, e2]
            have hle : bs.length ≤ c.size := by
              have e1 := hcell (bs.length - 1) (bs[bs.length - 1]'(by have := List.length_pos_iff.2 hne; omega)) (by have := List.length_pos_iff.2 hne; simp)
              rw [Addr.add_mid, cell_block q1] at e1
              have := (Array.getElem?_eq_some_iff.1 e1).1
              omega
            have hrun := Go.Lib.run_unsafeString_row (P := E.P) w pt it ty T (ok.und _ _ hpt) b2 b c.size (shape_block q1) bs hne hle (by
              have : (2 : Nat) ^ 62 ≤ 9223372036854775807 := by decide
              omega) hcell
            rw [hlen] at hrun
            have htop : ys.length ≤ C.top b := by rw [← hlen]; have := ht; rw [hflv] at this; simpa [byteVals] using this
            obtain ⟨k1, k2⟩ := hw.freeze (o := 0) (n := ys.length) i1 hf q1 (fun i h0 hi' hb' => by
              intro fz' hfz'
              have hfp : fz'.1 = fz'.2 ∨ (fz'.1 ≤ fz'.2 ∧ fz'.2 ≤ C.top b) := by
                subst hfz'
                by_cases he : lo = hi
                · simp [he]; omega
                · simp only [he, if_false]
                  rcases q2 with q2 | ⟨q2, q3⟩
                  · exact absurd q2 he
                  · right; omega
              exact ⟨fun j hj1 hj2 => by omega, fun _ _ => hfp⟩)
            exact .inl ⟨_, C, _, run_v hrun, k1, k2, .sc _⟩
      · simp at h
    · simp at h
  · rename_i ha
    obtain ⟨up, un, rfl, hp, hn⟩ := lr2 hl
    have := hn.sc_inv; subst this
    have := hp.sc_inv; subst this
    simp only [Option.some.injEq, Prod.mk.injEq] at h
    obtain ⟨rfl, rfl⟩ := h
    rw [arr2 ha]
    exact Good.val hw (u := .string .empty) (run_v (Go.Lib.run_unsafeString_none w _ _ ty _)) (.sc _)
  · simp at h

theorem good_builtin (ok : E.Ok) (hw : WR E C S w) {b : Builtin} {ats : Array TypeId} {ty : TypeId} {xs : List AV} {vs : Array Value} {cs : Array Bool} (hl : LR C w xs vs.toList)
    (h : builtinA E mu b ats.toList xs S = some (v, S')) : Good E C w (invoke (.builtin b ats ty cs) vs) v S' := by
  cases b with
  | len =>
    match ha : ats.toList, xs, h, hl with
    | [t], [x], h, hl =>
      obtain ⟨u, rfl, hx⟩ := lr1 hl
      rw [arr1 ha]
      exact good_len ok hw hx h
    | [], _, h, _ => simp [builtinA] at h
    | [_], [], h, _ => simp [builtinA] at h
    | [_], _ :: _ :: _, h, _ => simp [builtinA] at h
    | _ :: _ :: _, _, h, _ => simp [builtinA] at h
  | append =>
    match ha : ats.toList, xs, h, hl with
    | [t, t1], [s, x], h, hl =>
      obtain ⟨us, ux, rfl, hs, hx⟩ := lr2 hl
      rw [arr2 ha]
      exact good_appendB ok hw hs hx h
    | [], _, h, _ => simp [builtinA] at h
    | [_], _, h, _ => simp [builtinA] at h
    | [_, _], [], h, _ => simp [builtinA] at h
    | [_, _], [_], h, _ => simp [builtinA] at h
    | [_, _], _ :: _ :: _ :: _, h, _ => simp [builtinA] at h
    | _ :: _ :: _ :: _, _, h, _ => simp [builtinA] at h
  | cap =>
    simp only [builtinA] at h
    split at h
    · rename_i t ha
      split at h
      · rename_i e hd
        simp only [Option.some.injEq, Prod.mk.injEq] at h
        obtain ⟨rfl, rfl⟩ := h
        obtain ⟨u, rfl, hx⟩ := lr1 hl
        have := hx.sc_inv; subst this
        rw [arr1 ha]
        refine Good.val hw (u := .int .i64 0) ?_ (.sc _)
        simp [invoke, builtin, Builtin.cap_, run_und ok hd, goInt]
      · simp at h
    · simp at h
  | copy =>
    have := good_copy (ty := ty) ok hw hl h
    rw [Array.toArray_toList] at this
    exact this
  | clear =>
    have := good_clear (ty := ty) ok hw hl h
    rw [Array.toArray_toList] at this
    exact this
  | delete =>
    have := good_delete (ty := ty) ok hw hl h
    rw [Array.toArray_toList] at this
    exact this
  | unsafeSliceData => exact good_sliceData ok hw hl h
  | unsafeString => exact good_unsafeString ok hw hl h
  | min =>
    simp only [builtinA] at h
    split at h
    · obtain ⟨us, ux, rfl, hs, hx⟩ := lr2 hl
      simp only [Option.some.injEq, Prod.mk.injEq] at h
      obtain ⟨rfl, rfl⟩ := h
      have e1 := hs.sc_inv
      have e2 := hx.sc_inv
      subst e1; subst e2
      refine Good.val hw ?_ (.sc _)
      simp [invoke, builtin, Builtin.min_, Builtin.min2]
    · simp at h
  | max =>
    simp only [builtinA] at h
    split at h
    · obtain ⟨us, ux, rfl, hs, hx⟩ := lr2 hl
      simp only [Option.map_eq_some_iff, Prod.mk.injEq] at h
      obtain ⟨r, h1, rfl, rfl⟩ := h
      have e1 := hs.sc_inv
      have e2 := hx.sc_inv
      subst e1; subst e2
      refine Good.val hw (u := r) ?_ (vr_ofV _ _ _)
      have hr := peek_run _ h1 w
      simp [invoke, builtin, Builtin.max_, hr]
    · simp at h
  | _ => simp [builtinA] at h

theorem good_call (ok : E.Ok) (hcall : CallOk E call) (hw : WR E C S w) (ht : TR C w tm a.tmps) {c : Call} {ty : TypeId} (h : callA E mu call tm c S = some (v, S')) :
    Good E C w (do let d ← resolve a.eval c ty; invoke d.target d.args) v S' := by
  have hargs := evs_rel (E := E) (a := a) hw ht c.args.toList
  obtain ⟨callee, args, argTypes⟩ := c
  unfold callA at h
  simp only at h hargs
  cases callee with
  | value f =>
    simp only at h
    have hf := ev_rel (E := E) (a := a) hw ht f
    generalize E.ev tm f = F at h hf
    generalize hU : a.eval f = U at hf
    split at h
    · rename_i g first cap hF
      unfold fnOf at hF
      split at hF
      · rename_i g' f' c'
        cases hb : (f'.isEmpty && c'.isEmpty) with
        | false => rw [hb] at hF; simp at hF
        | true =>
          rw [hb] at hF
          simp only [cond_true, Option.some.injEq, Prod.mk.injEq] at hF
          obtain ⟨rfl, rfl, rfl⟩ := hF
          have := hf.sc_inv
          subst this
          simp only [Bool.and_eq_true, Array.isEmpty_iff] at hb
          obtain ⟨rfl, rfl⟩ := hb
          split at h
          · rename_i hh he
            refine good_ext ok hw (vs := args.map a.eval) (by simpa using hargs) he h ?_
            simp [resolve, hU, Deferred.ofValue, invoke]
          · refine good_enter hcall hw (vs := args.map a.eval) (by simpa using hargs) h ?_
            simp [resolve, hU, Deferred.ofValue, invoke]
      · simp only [Option.some.injEq, Prod.mk.injEq] at hF
        obtain ⟨rfl, rfl, rfl⟩ := hF
        cases hf with
        | fn _ _ _ v1 v2 hl1 hr1 hl2 hr2 =>
          have L := ((lr_of_fn hl1 hr1).append hargs).append (lr_of_fn hl2 hr2)
          split at h
          · rename_i hh he
            refine good_ext ok hw (vs := v1 ++ args.map a.eval ++ v2) (by simpa using L) he h ?_
            simp [resolve, hU, Deferred.ofValue, invoke]
          · refine good_enter hcall hw (vs := v1 ++ args.map a.eval ++ v2) (by simpa using L) h ?_
            simp [resolve, hU, Deferred.ofValue, invoke]
      · simp at hF
    · simp at h
  | invoke r m =>
    simp only at h
    have hr := ev_rel (E := E) (a := a) hw ht r
    generalize E.ev tm r = X at h hr
    generalize hU : a.eval r = U at hr
    split at h
    · rename_i t x
      split at h
      · rename_i g hg
        split at h
        · simp at h
        · cases hr with
          | ifc _ _ v0 hv =>
            have L : LR C w (x :: args.toList.map (E.ev tm)) (#[v0] ++ args.map a.eval).toList := by
              simpa using LR.cons hv hargs
            refine good_enter hcall hw L h ?_
            have hm := ok.meth t m g hg v0 w
            have e0 : (#[Value.iface t v0] ++ Array.map a.eval args)[0]? = some (.iface t v0) := by rw [Array.getElem?_append_left (by simp)]; rfl
            have e1 : (Array.map a.eval args).extract 0 args.size = Array.map a.eval args := by
              rw [show args.size = (Array.map a.eval args).size by simp]; exact Array.extract_size
            simp [resolve, hU, invoke, e0, callMethod, hm, program, Sem.run, e1]
      · simp at h
    · simp at h
  | builtin b =>
    simp only at h
    show Good E C w (invoke (.builtin b argTypes ty _) (args.map a.eval)) v S'
    exact good_builtin (vs := args.map a.eval) ok hw (by simpa using hargs) h

end
end Go.Abs
end

section
set_option linter.unusedSimpArgs false
set_option linter.unusedVariables false
namespace Go.Abs
open Go.RowKit Go.MapKept

theorem int_inv {C : Ctx} {w : World} {x : AV} {u : Value} {k : Int} (hx : int? x = some k) (hv : VR C w x u) : ∃ kk, u = .int kk k := by
  unfold int? at hx
  split at hx
  · rename_i kk m
    simp at hx; subst hx
    exact ⟨kk, hv.sc_inv⟩
  · simp at hx

section
variable {a : Act} (dst : Option Tmp) (ty : TypeId) (pos : String) (after : Array Edge) (guard : Option (Nat × Bool))
theorem ex_buildSlice (t : TypeId) (len : Nat) (parts : Array (Nat × Operand)) : execOp a.eval ⟨dst, .buildSlice t len parts, ty, pos, after, guard⟩ = (do pure (.value (← Instr.buildSlice t len (parts.map fun p => (p.1, a.eval p.2))))) := rfl
theorem ex_build (t : TypeId) (parts : Array (Nat × Operand)) : execOp a.eval ⟨dst, .build t parts, ty, pos, after, guard⟩ = (do pure (.value (← Instr.build t (parts.map fun p => (p.1, a.eval p.2))))) := rfl
theorem ex_slice (t : TypeId) (x : Operand) (lo hi : Option Operand) : execOp a.eval ⟨dst, .slice t x lo hi none, ty, pos, after, guard⟩ = (do pure (.value (← Instr.sliceAt t (a.eval x) (lo.map a.eval) (hi.map a.eval) none))) := rfl
theorem ex_store (t : TypeId) (x y : Operand) : execOp a.eval ⟨dst, .store t x y, ty, pos, after, guard⟩ = (do Instr.storeAt t (a.eval x) (a.eval y); pure .skip) := rfl
theorem ex_load (t : TypeId) (x : Operand) : execOp a.eval ⟨dst, .load t x, ty, pos, after, guard⟩ = (do pure (.value (← Instr.loadAt t (a.eval x)))) := rfl
theorem ex_alloc (t : TypeId) : execOp a.eval ⟨dst, .alloc t, ty, pos, after, guard⟩ = (do pure (.value (← Instr.alloc t true (.tuple #[])))) := rfl
theorem ex_box (t : TypeId) (x : Operand) : execOp a.eval ⟨dst, .box t x, ty, pos, after, guard⟩ = (do pure (.value (← Instr.box t (a.eval x)))) := rfl
theorem ex_binOp (t : TypeId) (x : Operand) (b : BinOp) (y : Operand) (t' : TypeId) : execOp a.eval ⟨dst, .binOp b t x y t', ty, pos, after, guard⟩ = (do pure (.value (← (do eqGuard b t x y (a.eval x) (a.eval y); binOp b t (a.eval x) (a.eval y))))) := rfl
theorem ex_unOp (o : UnOp) (t : TypeId) (x : Operand) : execOp a.eval ⟨dst, .unOp o t x, ty, pos, after, guard⟩ = (do pure (.value (← Op.unary o (a.eval x)))) := rfl
theorem ex_convert (t u : TypeId) (x : Operand) : execOp a.eval ⟨dst, .convert t u x, ty, pos, after, guard⟩ = (do pure (.value (← convert t u (a.eval x)))) := rfl
theorem ex_index (t : TypeId) (x y : Operand) : execOp a.eval ⟨dst, .index t x y, ty, pos, after, guard⟩ = (do pure (.value (← Instr.index t (a.eval x) (a.eval y)))) := rfl
theorem ex_indexAddr (t : TypeId) (x y : Operand) : execOp a.eval ⟨dst, .indexAddr t x y, ty, pos, after, guard⟩ = (do pure (.value (← Instr.indexAt t (a.eval x) (a.eval y)))) := rfl
theorem ex_fieldAddr (t : TypeId) (x : Operand) (f : Nat) : execOp a.eval ⟨dst, .fieldAddr t x f, ty, pos, after, guard⟩ = (do pure (.value (← Instr.fieldAt t (a.eval x) f))) := rfl
theorem ex_field (t : TypeId) (x : Operand) (f : Nat) : execOp a.eval ⟨dst, .field t x f, ty, pos, after, guard⟩ = (do pure (.value (← Instr.field t (a.eval x) f))) := rfl
theorem ex_extract (x : Operand) (f : Nat) : execOp a.eval ⟨dst, .extract x f, ty, pos, after, guard⟩ = (do pure (.value (← Instr.extract (a.eval x) f))) := rfl
theorem ex_makeFunc (f : Fn) (x y : Array Operand) : execOp a.eval ⟨dst, .makeFunc f x y, ty, pos, after, guard⟩ = (do pure (.value (← Instr.makeFunc f (x.map a.eval) (y.map a.eval)))) := rfl
theorem ex_makeInterface (t : TypeId) (x : Operand) : execOp a.eval ⟨dst, .makeInterface t x, ty, pos, after, guard⟩ = (do pure (.value (← Instr.makeInterface t (a.eval x)))) := rfl
theorem ex_makeMap (t : TypeId) (r : Option Operand) : execOp a.eval ⟨dst, .makeMap t r, ty, pos, after, guard⟩ = (do pure (.value (← Instr.makeMap t (r.map a.eval)))) := rfl
theorem ex_makeSlice (t : TypeId) (x y : Operand) : execOp a.eval ⟨dst, .makeSlice t x y, ty, pos, after, guard⟩ = (do pure (.value (← Instr.makeSlice t (a.eval x) (a.eval y)))) := rfl
theorem ex_range (t : TypeId) (x : Operand) : execOp a.eval ⟨dst, .range t x, ty, pos, after, guard⟩ = (do pure (.value (← Instr.range t (a.eval x)))) := rfl
theorem ex_next (x : Operand) (b : Bool) : execOp a.eval ⟨dst, .next x b, ty, pos, after, guard⟩ = (do pure (.value (← Instr.next (a.eval x) b ty))) := rfl
theorem ex_lookup (t : TypeId) (x y : Operand) (b : Bool) : execOp a.eval ⟨dst, .lookup t x y b, ty, pos, after, guard⟩ = (do pure (.value (← Instr.lookup t (a.eval x) (a.eval y) b))) := rfl
theorem ex_mapUpdate (t : TypeId) (x y z : Operand) : execOp a.eval ⟨dst, .mapUpdate t x y z, ty, pos, after, guard⟩ = (do Instr.mapUpdate t (a.eval x) (a.eval y) (a.eval z); pure .skip) := rfl
theorem ex_insert (t : TypeId) (x y z : Operand) : execOp a.eval ⟨dst, .insert t x y z, ty, pos, after, guard⟩ = (do Instr.mapUpdate t (a.eval x) (a.eval y) (a.eval z); pure .skip) := rfl
theorem ex_slice3 (t : TypeId) (x : Operand) (lo : Option Operand) (hi mx : Operand) : execOp a.eval ⟨dst, .slice t x lo (some hi) (some mx), ty, pos, after, guard⟩ = (do pure (.value (← Instr.sliceAt t (a.eval x) (lo.map a.eval) (some (a.eval hi)) (some (a.eval mx))))) := rfl
theorem ex_call (c : Call) : execOp a.eval ⟨dst, .call c, ty, pos, after, guard⟩ = (do let d ← resolve a.eval c ty; invoke d.target d.args) := rfl
end

section
variable {E : Env} {C : Ctx} {S S' : St} {w : World} {v : AV} {tm : PM AV} {a : Act} {call : CallFn}

theorem fieldPlace_run (ok : E.Ok) {g : Field} {i : TypeInfo} (hi : E.inf g.type = some i) (hz : i.size ≠ 0) (b o : Nat) : (fieldPlace ⟨b, o, none⟩ g).run E.P w = .ok ⟨b, o + g.offset, none⟩ w := by
  simp [fieldPlace, run_size ok hi, hz, Addr.add_mid]

theorem good_op_buildSlice (ok : E.Ok) (hw : WR E C S w) (ht : TR C w tm a.tmps) (t : TypeId) (len : Nat) (parts : Array (Nat × Operand)) (h : buildSliceA E t len (parts.toList.map fun p => (p.1, E.ev tm p.2)) S = some (v, S')) :
    Good E C w (do pure (.value (← Instr.buildSlice t len (parts.map fun p => (p.1, a.eval p.2))))) v S' := by
  have hp : PR C w (parts.toList.map fun p => (p.1, E.ev tm p.2)) (parts.map fun p => (p.1, a.eval p.2)).toList := by
    have := parts_rel (E := E) (a := a) hw ht parts.toList
    rw [Array.toList_map]; exact this
  exact good_buildSlice ok hw hp h
theorem good_op_build (ok : E.Ok) (hw : WR E C S w) (ht : TR C w tm a.tmps) (t : TypeId) (parts : Array (Nat × Operand)) (h : buildA E t (parts.toList.map fun p => (p.1, E.ev tm p.2)) S = some (v, S')) :
    Good E C w (do pure (.value (← Instr.build t (parts.map fun p => (p.1, a.eval p.2))))) v S' := by
  have hp : PR C w (parts.toList.map fun p => (p.1, E.ev tm p.2)) (parts.map fun p => (p.1, a.eval p.2)).toList := by
    have := parts_rel (E := E) (a := a) hw ht parts.toList
    rw [Array.toList_map]; exact this
  exact good_build ok hw hp h

theorem run_eq_slice {P : Program} {t e : TypeId} (hud : P.underlying t = some (.slice e)) (w : World) (p : Addr) (n c m k : Nat) : (Op.equal t (.slice (some p) n c) (.slice none m k)).run P w = .ok false w := by
  have h : ∀ d, (Op.equalIn (d + 1) t (.slice (some p) n c) (.slice none m k)).run P w = .ok false w := fun d => by
    simp [Op.equalIn, run_underlying hud]
  exact h 9999
theorem run_eq_ptr {P : Program} {t e : TypeId} (hud : P.underlying t = some (.pointer e)) (w : World) (p : Addr) : (Op.equal t (.pointer (some p)) (.pointer none)).run P w = .ok false w := by
  have h : ∀ d, (Op.equalIn (d + 1) t (.pointer (some p)) (.pointer none)).run P w = .ok false w := fun d => by
    simp [Op.equalIn, run_underlying hud]
  exact h 9999

theorem run_eq_ptr_same {P : Program} {t e : TypeId} {j : TypeInfo} (hud : P.underlying t = some (.pointer e)) (hj : P.info? e = some j) (w : World) (p : Addr) : (Op.equal t (.pointer (some p)) (.pointer (some p))).run P w = .ok true w := by
  have h : ∀ d, (Op.equalIn (d + 1) t (.pointer (some p)) (.pointer (some p))).run P w = .ok true w := fun d => by
    simp [Op.equalIn, run_underlying hud, sizeOf, typeInfo, hj, sameAddr]
  exact h 9999
theorem run_eq_iface {P : Program} {t : TypeId} {ms : Array (String × TypeId)} (hud : P.underlying t = some (.interface ms)) (w : World) (T : TypeId) (v : Value) : (Op.equal t (.iface T v) .nilIface).run P w = .ok false w := by
  have h : ∀ d, (Op.equalIn (d + 1) t (.iface T v) .nilIface).run P w = .ok false w := fun d => by
    simp [Op.equalIn, run_underlying hud]
  exact h 9999

theorem good_next (hw : WR E C S w) {x : AV} {u : Value} {b : Bool} {ty : TypeId} (hx : VR C w x u) (h : nextA x b S = some (v, S')) : Good E C w (do pure (.value (← Instr.next u b ty))) v S' := by
  unfold nextA at h
  split at h
  · rename_i l
    split at h
    · rename_i s pos ho
      cases hx with
      | ptr _ _ hb =>
        have hob := hw.objs l hb
        rw [ho] at hob
        obtain ⟨k1, k2⟩ := hob
        rw [k2]
        simp only [cond_eq_ite] at h
        split at h
        · rename_i hlt
          have hlt : pos < s.size := Nat.le_of_ble_eq_true hlt
          simp only [Option.some.injEq, Prod.mk.injEq] at h
          obtain ⟨rfl, rfl⟩ := h
          obtain ⟨q1, q2⟩ := heap_set (o' := .stringIter s (pos + (Utf8.decode s pos).2)) k1
          obtain ⟨p1, p2⟩ := hw.put (w' := w.iterAt (C.mu l) s (pos + (Utf8.decode s pos).2)) hb (by rw [ho]; rintro (h | h) <;> cases h) q1 q2 (by simp [World.iterAt]) ⟨⟨rfl, rfl, rfl, by simp [World.iterAt], fun k hk => q2 k (by have := (hw.mub l hb).1; omega)⟩, trivial⟩ (fun x hx => by simp [World.shape?, k1] at hx) (a := .siter s (pos + (Utf8.decode s pos).2)) ⟨rfl, k2⟩
          exact .inl ⟨_, C, _, run_v (Go.Lib.run_next_any_at w _ s pos ty k1 hlt), p1, p2, LR.tup (by simpa using LR.cons (.sc _) (LR.cons (.sc _) (LR.cons (.sc _) (LR.nil _ _))))⟩
        · rename_i hlt
          have hlt : ¬ pos < s.size := fun h' => hlt (Nat.ble_eq_true_of_le h')
          simp only [Option.some.injEq, Prod.mk.injEq] at h
          obtain ⟨rfl, rfl⟩ := h
          exact Good.val hw (run_v (Go.Lib.run_next_end_at w _ s pos ty k1 hlt)) (LR.tup (by simpa using LR.cons (.sc _) (LR.nil _ _)))
    · simp at h
  · simp at h

theorem good_mk (ok : E.Ok) (o : Oper) (hw : WR E C S w) (ht : TR C w tm a.tmps) {m : Mk} (h : mkOp E tm o = some m) : GoodMk E C S w (execOp a.eval o) m := by
  obtain ⟨dst, op, ty, pos, after, guard⟩ := o
  have R : ∀ x, VR C w (E.ev tm x) (a.eval x) := fun x => ev_rel hw ht x
  cases op with
  | alloc e =>
    rw [ex_alloc]
    simp only [mkOp] at h
    split at h
    · rename_i i hi
      split at h
      · rename_i z hz
        simp only [Option.some.injEq] at h
        subst h
        exact good_alloc ok hw hi hz
      · simp at h
    · simp at h
  | box e x =>
    rw [ex_box]
    simp only [mkOp] at h
    split at h
    · rename_i cs hc
      simp only [Option.some.injEq] at h
      subst h
      exact good_box hw (R x) hc
    · simp at h
  | makeMap t r =>
    rw [ex_makeMap]
    cases r with
    | none =>
      simp only [mkOp, Option.some.injEq] at h
      subst h
      exact good_makeMap hw (run_v (by simp [Instr.makeMap, newObj, Sem.run]))
    | some r =>
      simp only [mkOp] at h
      split at h
      · rename_i kt et n hd hn
        simp only [Option.some.injEq] at h
        subst h
        obtain ⟨kk, hr⟩ := int_inv hn (R r)
        exact good_makeMap hw (run_v (by simp [Instr.makeMap, newObj, Sem.run, run_und ok hd, hr, asInt, asIntOf]))
      · simp at h
  | range t x =>
    rw [ex_range]
    simp only [mkOp] at h
    have hx := R x
    generalize E.ev tm x = X at h hx
    split at h
    · rename_i s hd
      simp only [Option.some.injEq] at h
      subst h
      have := hx.sc_inv
      rw [this]
      exact good_range ok hw hd
    · simp at h
  | makeSlice t l c =>
    rw [ex_makeSlice]
    simp only [mkOp] at h
    split at h
    · rename_i e agg sz n k cs hc
      simp only [Option.some.injEq] at h
      subst h
      exact good_makeOsl ok hw (R l) (R c) hc
    · simp at h
  | buildSlice t len parts =>
    rw [ex_buildSlice]
    simp only [mkOp] at h
    split at h
    · rename_i agg sz cs hc
      simp only [Option.some.injEq] at h
      subst h
      have hp : PR C w (parts.toList.map fun p => (p.1, E.ev tm p.2)) (parts.map fun p => (p.1, a.eval p.2)).toList := by
        have := parts_rel (E := E) (a := a) hw ht parts.toList
        rw [Array.toList_map]; exact this
      exact good_buildOsl ok hw hp hc
    · simp at h
  | _ => simp [mkOp] at h

set_option maxHeartbeats 4000000 in
theorem good_plain (ok : E.Ok) (hcall : CallOk E call) (o : Oper) (hw : WR E C S w) (ht : TR C w tm a.tmps) (h : evPlain E call tm o S = some (v, S')) : Good E C w (execOp a.eval o) v S' := by
  obtain ⟨dst, op, ty, pos, after, guard⟩ := o
  have R : ∀ x, VR C w (E.ev tm x) (a.eval x) := fun x => ev_rel hw ht x
  cases op with
  | move x =>
    simp only [evPlain, Option.some.injEq, Prod.mk.injEq] at h
    obtain ⟨rfl, rfl⟩ := h
    exact Good.val hw rfl (R x)
  | assign x =>
    simp only [evPlain, Option.some.injEq, Prod.mk.injEq] at h
    obtain ⟨rfl, rfl⟩ := h
    exact Good.val hw rfl (R x)
  | pick c x y =>
    simp only [evPlain] at h
    split at h
    · rename_i t hc
      simp only [Option.some.injEq, Prod.mk.injEq] at h
      obtain ⟨rfl, rfl⟩ := h
      have hcv := R c
      rw [hc] at hcv
      have hc' := hcv.sc_inv
      cases t
      · exact Good.val hw (u := a.eval y) (by simp [execOp, hc', asBool]) (R y)
      · exact Good.val hw (u := a.eval x) (by simp [execOp, hc', asBool]) (R x)
    · simp at h
  | build t parts => exact good_op_build ok hw ht t parts h
  | buildSlice t len parts => exact good_op_buildSlice ok hw ht t len parts h
  | load t x =>
    rw [ex_load]
    simp only [evPlain] at h
    exact good_load ok hw (R x) h
  | store t x y =>
    rw [ex_store]
    simp only [evPlain] at h
    exact good_store ok hw (R x) (R y) h
  | makeSlice t l c =>
    rw [ex_makeSlice]
    simp only [evPlain] at h
    exact good_makeSlice ok hw (R l) (R c) h
  | lookup t x ix b =>
    rw [ex_lookup]
    simp only [evPlain] at h
    exact good_lookup ok hw (R x) (R ix) h
  | mapUpdate t m k x =>
    rw [ex_mapUpdate]
    simp only [evPlain] at h
    exact good_mapUpdate ok hw (R m) (R k) (R x) h
  | insert t m k x =>
    rw [ex_insert]
    simp only [evPlain] at h
    exact good_mapUpdate ok hw (R m) (R k) (R x) h
  | next x b =>
    rw [ex_next]
    simp only [evPlain] at h
    exact good_next hw (R x) h
  | nilCheck x =>
    simp only [evPlain] at h
    have hx := R x
    generalize E.ev tm x = X at h hx
    generalize hU : a.eval x = U at hx
    split at h
    · simp only [Option.some.injEq, Prod.mk.injEq] at h
      obtain ⟨rfl, rfl⟩ := h
      refine Good.val hw (u := U) ?_ hx
      cases hx; simp [execOp, hU]
    · simp only [Option.some.injEq, Prod.mk.injEq] at h
      obtain ⟨rfl, rfl⟩ := h
      refine Good.val hw (u := U) ?_ hx
      cases hx; simp [execOp, hU]
    · simp only [Option.some.injEq, Prod.mk.injEq] at h
      obtain ⟨rfl, rfl⟩ := h
      refine Good.val hw (u := U) ?_ hx
      cases hx; simp [execOp, hU]
    · simp only [Option.some.injEq, Prod.mk.injEq] at h
      obtain ⟨rfl, rfl⟩ := h
      refine Good.val hw (u := U) ?_ hx
      cases hx; simp [execOp, hU]
    · simp only [Option.some.injEq, Prod.mk.injEq] at h
      obtain ⟨rfl, rfl⟩ := h
      have hx' := hx.sc_inv
      refine Good.val hw (u := U) ?_ hx
      subst hx'; simp [execOp, hU]
    · simp at h
  | binOp op t x y t' =>
    rw [ex_binOp]
    simp only [evPlain] at h
    split at h
    · rename_i ux uy hcx hcy
      simp only [Option.map_eq_some_iff, Prod.mk.injEq] at h
      obtain ⟨r, h1, rfl, rfl⟩ := h
      have hr := peek_run _ h1 w
      rw [conc_eq (R x) hcx, conc_eq (R y) hcy] at hr
      exact Good.val hw (run_v hr) (vr_ofV _ _ _)
    · have hx := R x
      have hy := R y
      split at h
      · rename_i d hd
        have hud := ok.und t d hd
        have key : ∀ r, eqNil E d (E.ev tm x) (E.ev tm y) = some r → ∀ neg : Bool, (do eqGuard (if neg then .neq else .eql) t x y (a.eval x) (a.eval y); binOp (if neg then .neq else .eql) t (a.eval x) (a.eval y) : Sem Value).run E.P w = .ok (.bool (neg != r)) w := by
          intro r hr
          generalize E.ev tm x = X at hr hx
          generalize E.ev tm y = Y at hr hy
          generalize a.eval x = U at hx
          generalize a.eval y = V at hy
          unfold eqNil at hr
          simp only [cond_eq_ite] at hr
          split at hr
          · obtain ⟨p, cap, rfl⟩ := hx.vec_slice
            have := hy.sc_inv
            subst this
            cases d <;> simp at hr
            subst hr
            intro neg
            cases neg <;> simp [eqGuard, binOp, run_eq_slice hud]
          · have := hy.sc_inv
            subst this
            cases hx
            cases d <;> simp at hr
            subst hr
            intro neg
            cases neg <;> simp [eqGuard, binOp, run_eq_slice hud]
          · rename_i l o l' o'
            cases d with
            | pointer e =>
              simp only at hr
              split at hr
              · rename_i hb
                simp only [Bool.and_eq_true] at hb
                have b1 := Nat.eq_of_beq_eq_true hb.1.1
                have b2 := Nat.eq_of_beq_eq_true hb.1.2
                subst b1; subst b2
                obtain ⟨j, hj⟩ := Option.isSome_iff_exists.1 hb.2
                simp only [Option.some.injEq] at hr
                subst hr
                cases hx
                cases hy
                intro neg
                cases neg <;> simp [eqGuard, binOp, run_eq_ptr_same hud (ok.inf _ _ hj)]
              · simp at hr
            | _ => simp at hr
          · have := hy.sc_inv
            subst this
            cases hx
            cases d <;> simp at hr
            subst hr
            intro neg
            cases neg <;> simp [eqGuard, binOp, run_eq_iface hud]
          · have := hy.sc_inv
            subst this
            cases hx
            cases d <;> simp at hr
            subst hr
            intro neg
            cases neg <;> simp [eqGuard, binOp, run_eq_ptr hud]
          · simp at hr
        split at h
        · rename_i r hr
          simp only [Option.some.injEq, Prod.mk.injEq] at h
          obtain ⟨rfl, rfl⟩ := h
          exact Good.val hw (run_v (by simpa using key r hr false)) (.sc _)
        · rename_i r hr
          simp only [Option.some.injEq, Prod.mk.injEq] at h
          obtain ⟨rfl, rfl⟩ := h
          exact Good.val hw (run_v (by simpa using key r hr true)) (.sc _)
        · simp at h
      · simp at h
  | unOp op t x =>
    rw [ex_unOp]
    simp only [evPlain] at h
    split at h
    · rename_i u hu
      simp only [Option.map_eq_some_iff, Prod.mk.injEq] at h
      obtain ⟨r, h1, rfl, rfl⟩ := h
      have hx := R x
      rw [hu] at hx
      have hr := peek_run _ h1 w
      rw [← hx.sc_inv] at hr
      exact Good.val hw (run_v hr) (vr_ofV _ _ _)
    · simp at h
  | slice t x lo hi mx =>
    cases mx with
    | some m =>
      cases hi with
      | none => simp [evPlain] at h
      | some hi =>
        rw [ex_slice3]
        simp only [evPlain] at h
        refine good_slice3 ok hw (R x) (ulo := lo.map a.eval) (fun y hy => ?_) (fun hn => ?_) (R hi) (R m) h
        · cases lo with
          | none => simp at hy
          | some l => simp at hy; subst hy; exact ⟨_, rfl, R l⟩
        · cases lo with
          | none => rfl
          | some l => simp at hn
    | none =>
      rw [ex_slice]
      simp only [evPlain] at h
      refine good_slice ok hw (R x) (ulo := lo.map a.eval) (uhi := hi.map a.eval) (fun y hy => ?_) (fun hn => ?_) (fun y hy => ?_) (fun hn => ?_) h
      · cases lo with
        | none => simp at hy
        | some l => simp at hy; subst hy; exact ⟨_, rfl, R l⟩
      · cases lo with
        | none => rfl
        | some l => simp at hn
      · cases hi with
        | none => simp at hy
        | some l => simp at hy; subst hy; exact ⟨_, rfl, R l⟩
      · cases hi with
        | none => rfl
        | some l => simp at hn
  | fieldAddr t x f =>
    rw [ex_fieldAddr]
    simp only [evPlain] at h
    have hx := R x
    generalize E.ev tm x = X at h hx
    split at h
    · rename_i fs l off hd
      split at h
      · rename_i g hg
        split at h
        · rename_i i hi
          cases hz : Nat.beq i.size 0 with
          | true => rw [hz] at h; simp at h
          | false =>
            rw [hz] at h
            simp only [cond_false, Option.some.injEq, Prod.mk.injEq] at h
            obtain ⟨rfl, rfl⟩ := h
            have hz' : i.size ≠ 0 := fun e => by rw [e] at hz; simp at hz
            generalize hU : a.eval x = U at hx
            cases hx with
            | ptr _ _ hl =>
              refine Good.val hw (run_v (u := .pointer (some ⟨C.mu l, C.bs l + (off + g.offset), none⟩)) ?_) (.ptr _ _ hl)
              simp [← Nat.add_assoc, Instr.fieldAt, run_und ok hd, hg, Instr.sureAddr, fieldPlace_run ok hi hz']
        · simp at h
      · simp at h
    · rename_i fs cs off hd
      split at h
      · rename_i g hg
        split at h
        · rename_i i hi
          cases hz : Nat.beq i.size 0 with
          | true => rw [hz] at h; simp at h
          | false =>
            rw [hz] at h
            simp only [cond_false, Option.some.injEq, Prod.mk.injEq] at h
            obtain ⟨rfl, rfl⟩ := h
            have hz' : i.size ≠ 0 := fun e => by rw [e] at hz; simp at hz
            obtain ⟨b, o, hU, hb, hf, htop, hs⟩ := hx.eptr_inv
            refine Good.val hw (run_v (u := .pointer (some ⟨b, o + (off + g.offset), none⟩)) ?_) (VR.eptr_mk _ hb hf htop hs)
            simp [Instr.fieldAt, run_und ok hd, hg, hU, Instr.sureAddr, fieldPlace_run ok hi hz', Nat.add_assoc]
        · simp at h
      · simp at h
    · simp at h
  | field t x f =>
    rw [ex_field]
    simp only [evPlain] at h
    have hx := R x
    generalize E.ev tm x = X at h hx
    split at h
    · rename_i fs cs hd
      split at h
      · rename_i g hg
        simp only [Option.map_eq_some_iff, Prod.mk.injEq] at h
        obtain ⟨r, h1, rfl, rfl⟩ := h
        obtain ⟨vs, hU, hl⟩ := hx.agg_inv
        obtain ⟨u, k1, k2⟩ := part_cells ok h1 hl
        refine Good.val hw (run_v (u := u) ?_) k2
        simp [Instr.field, run_und ok hd, hg, hU, asAgg, k1]
      · simp at h
    · simp at h
  | indexAddr t x ix =>
    rw [ex_indexAddr]
    simp only [evPlain] at h
    have hx := R x
    have hix := R ix
    generalize E.ev tm x = X at h hx
    generalize E.ev tm ix = I at h hix
    split at h
    · rename_i e id sz xs i hd hi
      obtain ⟨kk, hI⟩ := int_inv hi hix
      split at h
      · rename_i ie hie
        cases hb : (decide (0 ≤ i) && Nat.beq ie.size sz) with
        | false => rw [hb] at h; simp at h
        | true =>
          rw [hb] at h
          simp only [cond_true] at h
          simp only [Bool.and_eq_true, decide_eq_true_eq] at hb
          have hsz := Nat.eq_of_beq_eq_true hb.2
          split at h
          · rename_i y hy
            simp only [Option.map_eq_some_iff, Prod.mk.injEq] at h
            obtain ⟨cs, h1, rfl, rfl⟩ := h
            have hlt : i.toNat < xs.length := by
              rcases Nat.lt_or_ge i.toNat xs.length with h' | h'
              · exact h'
              · simp [List.getElem?_eq_none h'] at hy
            rcases hx.vec_inv with ⟨_, rfl, _⟩ | ⟨fl, b, o, cap, hU, hv⟩
            · simp at hlt
            · obtain ⟨cs', k1, k2, k3, k4⟩ := flat_get hv.flat hy
              rw [h1] at k1; simp at k1; subst k1
              have hseg := seg_shift hv.seg (i.toNat * sz) sz
              rw [k4] at hseg
              have hfl := flat_length hv.flat
              have hm : i.toNat * sz + sz ≤ xs.length * sz := by rw [← Nat.succ_mul]; exact Nat.mul_le_mul_right _ hlt
              refine Good.val hw (run_v (u := .pointer (some ⟨b, o + i.toNat * sz + 0, none⟩)) ?_) (VR.eptr_mk 0 hv.lt hv.free (by have := hv.top; omega) hseg)
              have hlt' : i < (xs.length : Int) := by omega
              simp [Instr.indexAt, run_und ok hd, hU, hI, asIntOf, hb.1, hlt', run_size ok hie, hsz, Addr.add_mid]
          · simp at h
      · simp at h
    · rename_i e l sz off len room i hd hi
      obtain ⟨kk, hI⟩ := int_inv hi hix
      split at h
      · rename_i ie hie
        cases hb : (decide (0 ≤ i) && decide (i < (len : Int)) && Nat.beq ie.size sz) with
        | false => rw [hb] at h; simp at h
        | true =>
          rw [hb] at h
          simp only [cond_true, Option.some.injEq, Prod.mk.injEq] at h
          obtain ⟨rfl, rfl⟩ := h
          simp only [Bool.and_eq_true, decide_eq_true_eq] at hb
          have hsz := Nat.eq_of_beq_eq_true hb.2
          generalize hU : a.eval x = U at hx
          cases hx with
          | osl _ _ _ _ _ p cap hl hs' hlr hrc hro hcl ha =>
            have hp := ha (by omega)
            subst hp
            refine Good.val hw (run_v (u := .pointer (some ⟨C.mu l, C.bs l + (off + i.toNat * sz), none⟩)) ?_) (.ptr _ _ hl)
            simp [← Nat.add_assoc, Instr.indexAt, run_und ok hd, hI, asIntOf, hb.1.1, hb.1.2, run_size ok hie, hsz, Addr.add_mid]
      · simp at h
    · rename_i n e l off i hd hi
      obtain ⟨kk, hI⟩ := int_inv hi hix
      split at h
      · rename_i ie hie
        cases hb : (decide (0 ≤ i) && decide (i < (n : Int))) with
        | false => rw [hb] at h; simp at h
        | true =>
          rw [hb] at h
          simp only [cond_true, Option.some.injEq, Prod.mk.injEq] at h
          obtain ⟨rfl, rfl⟩ := h
          simp only [Bool.and_eq_true, decide_eq_true_eq] at hb
          generalize hU : a.eval x = U at hx
          cases hx with
          | ptr _ _ hl =>
            refine Good.val hw (run_v (u := .pointer (some ⟨C.mu l, C.bs l + (off + i.toNat * ie.size), none⟩)) ?_) (.ptr _ _ hl)
            simp [← Nat.add_assoc, Instr.indexAt, run_und ok hd, hI, asIntOf, hb.1, hb.2, run_size ok hie, Addr.add_mid, Instr.sureAddr]
      · simp at h
    · rename_i n e cs off i hd hi
      obtain ⟨kk, hI⟩ := int_inv hi hix
      split at h
      · rename_i ie hie
        cases hb : (decide (0 ≤ i) && decide (i < (n : Int))) with
        | false => rw [hb] at h; simp at h
        | true =>
          rw [hb] at h
          simp only [cond_true, Option.some.injEq, Prod.mk.injEq] at h
          obtain ⟨rfl, rfl⟩ := h
          simp only [Bool.and_eq_true, decide_eq_true_eq] at hb
          obtain ⟨b, o, hU, hbb, hf, htop, hs⟩ := hx.eptr_inv
          refine Good.val hw (run_v (u := .pointer (some ⟨b, o + (off + i.toNat * ie.size), none⟩)) ?_) (VR.eptr_mk _ hbb hf htop hs)
          simp [Instr.indexAt, run_und ok hd, hU, hI, asIntOf, hb.1, hb.2, run_size ok hie, Addr.add_mid, Instr.sureAddr, Nat.add_assoc]
      · simp at h
    · simp at h
  | index t x ix =>
    rw [ex_index]
    simp only [evPlain] at h
    have hx := R x
    have hix := R ix
    generalize E.ev tm x = X at h hx
    generalize E.ev tm ix = I at h hix
    split at h
    · simp only [Option.map_eq_some_iff, Prod.mk.injEq] at h
      obtain ⟨r, h1, rfl, rfl⟩ := h
      have hr := peek_run _ h1 w
      rw [← hx.sc_inv, ← hix.sc_inv] at hr
      exact Good.val hw (run_v hr) (vr_ofV _ _ _)
    · rename_i cs kk i
      obtain ⟨vs, hU, hl⟩ := hx.agg_inv
      have hI := hix.sc_inv
      split at h
      · rename_i n e hd
        split at h
        · rename_i ie hie
          cases hb : (decide (0 ≤ i) && decide (i < (n : Int))) with
          | false => rw [hb] at h; simp at h
          | true =>
            rw [hb] at h
            simp only [cond_true, Option.map_eq_some_iff, Prod.mk.injEq] at h
            obtain ⟨r, h1, rfl, rfl⟩ := h
            simp only [Bool.and_eq_true, decide_eq_true_eq] at hb
            obtain ⟨u, k1, k2⟩ := part_cells ok h1 hl
            refine Good.val hw (run_v (u := u) ?_) k2
            simp [Instr.index, run_und ok hd, hU, hI, asIntOf, hb.1, hb.2, run_size ok hie, k1]
        · simp at h
      · simp at h
    · simp at h
  | extract x ix =>
    rw [ex_extract]
    simp only [evPlain] at h
    have hx := R x
    generalize E.ev tm x = X at h hx
    split at h
    · rename_i vs
      simp only [Option.map_eq_some_iff, Prod.mk.injEq] at h
      obtain ⟨r, h1, rfl, rfl⟩ := h
      obtain ⟨us, hU, hl⟩ := hx.tup_inv
      obtain ⟨u, k1, k2⟩ := hl.get h1
      refine Good.val hw (run_v (u := u) ?_) k2
      have k1' : us[ix]? = some u := by simpa using k1
      simp [Instr.extract, hU, k1']
    · simp at h
  | makeFunc f first cap =>
    rw [ex_makeFunc]
    simp only [evPlain, Option.some.injEq, Prod.mk.injEq] at h
    obtain ⟨rfl, rfl⟩ := h
    have h1 := evs_rel (E := E) (a := a) hw ht first.toList
    have h2 := evs_rel (E := E) (a := a) hw ht cap.toList
    refine Good.val hw (run_v (u := .func f (first.map a.eval) (cap.map a.eval)) rfl) (.fn f _ _ _ _ (by simp) (fun i x hx => ?_) (by simp) (fun i x hx => ?_))
    · have := h1.2 i x hx; simpa using this
    · have := h2.2 i x hx; simpa using this
  | makeInterface t x =>
    rw [ex_makeInterface]
    simp only [evPlain] at h
    split at h
    · simp at h
    · rename_i d hn hd
      simp only [Option.some.injEq, Prod.mk.injEq] at h
      obtain ⟨rfl, rfl⟩ := h
      refine Good.val hw (run_v (u := .iface t (a.eval x)) ?_) (.ifc _ _ _ (R x))
      rw [Instr.makeInterface, Sem.run_bind, run_und ok hd]
      cases d <;> first | rfl | exact absurd rfl (hn _)
    · simp at h
  | convert src dst x =>
    rw [ex_convert]
    simp only [evPlain] at h
    exact good_convert ok hw (R x) h
  | call c =>
    rw [ex_call]
    simp only [evPlain] at h
    exact good_call ok hcall hw ht h
  | _ => simp [evPlain] at h

/-- What makes an object, where it takes the next number. -/
theorem GoodMk.next {r : Sem Next} {m : Mk} (hw : WR E C S w) (h : GoodMk E C S w r m) : Good E C w r (m.val S.no) (S.bearNext m) := by
  obtain ⟨u, C', w', h1, h2, h3, h4, h5, h6⟩ := h S.no (S.no + 1) (hw.unb _ (Nat.le_refl _)) (Nat.le_succ _) (Nat.lt_succ_self _)
  exact .inl ⟨u, C', w', h1, h2, ⟨h3, by rw [h5, hw.no]; exact Nat.le_succ _, fun l k1 k2 => by
    rcases h6 l k2 with k | k
    · exact absurd k k1
    · rw [k, hw.no]; exact Nat.le_refl _⟩, h4⟩

theorem good_op (ok : E.Ok) (hcall : CallOk E call) (o : Oper) (hw : WR E C S w) (ht : TR C w tm a.tmps) (h : evOp E call tm o S = some (v, S')) : Good E C w (execOp a.eval o) v S' := by
  simp only [evOp, cond_eq_ite] at h
  split at h
  · simp only [Option.map_eq_some_iff, Prod.mk.injEq] at h
    obtain ⟨m, h1, rfl, rfl⟩ := h
    exact (good_mk ok o hw ht h1).next hw
  · exact good_plain ok hcall o hw ht h
end
end Go.Abs
end

section
set_option linter.unusedSimpArgs false
set_option linter.unusedVariables false
namespace Go.Abs
open Go.RowKit

section
variable {E : Env} {C : Ctx} {S S' : St} {w : World} {v : AV} {tm : PM AV} {a : Act} {call : CallFn} {nt : Nat}

/-- The frame and the world stand to the evaluator's temporaries and state. -/
structure FR (E : Env) (C : Ctx) (S : St) (nt : Nat) (tm : PM AV) (a : Act) (w : World) : Prop where
  wr : WR E C S w
  tr : TR C w tm a.tmps
  size : a.tmps.size = nt
  defers : a.defers = []

theorem wanted_rel {ops : Array Oper} {o : Oper} {b : Bool} (ht : TR C w tm a.tmps) (h : wantedA ops tm o = some b) : Region.wanted o (yielded ops a.tmps) = b := by
  unfold wantedA at h
  unfold Region.wanted
  cases hg : o.guard with
  | none => simp [hg] at h; simp [h]
  | some p =>
    obtain ⟨j, want⟩ := p
    simp only [hg] at h
    cases hd : (ops[j]?).bind (·.dst) with
    | none => simp [hd] at h
    | some t =>
      simp only [hd] at h
      have hv := ht.getT t
      have hy : yielded ops a.tmps j = match a.tmps[t]? with | some (.bool b) => some b | _ => none := by
        unfold yielded
        rw [hd]
        rfl
      split at h
      · rename_i b' hb'
        rw [hb'] at hv
        have hx := hv.sc_inv
        simp at h; subst h
        have hsome : a.tmps[t]? = some (.bool b') := by
          cases hc : a.tmps[t]? with
          | none => simp [hc, Go.undef] at hx
          | some u => simp [hc] at hx; rw [hx]
        simp only [hy, hsome]
        cases b' <;> cases want <;> rfl
      · rename_i vs hb'
        rw [hb'] at hv
        have hx := hv.sc_inv
        simp at h; subst h
        have : yielded ops a.tmps j = none := by
          rw [hy]
          cases hc : a.tmps[t]? with
          | none => rfl
          | some u => simp [hc] at hx; rw [hx]
        simp only [this]
        cases want <;> rfl
      · simp at h

theorem Act.put_defers' (a : Act) (d : Option Tmp) (v : Value) : (a.put d v).defers = a.defers := by cases d <;> rfl

theorem FR.put {C' : Ctx} {w' : World} {tm' : PM AV} {dst : Option Tmp} {u : Value} (h : FR E C S nt tm a w) (hw : WR E C' S' w') (e : Ext C w C' w') (hv : VR C' w' v u) (hp : putA nt dst v tm = some tm') :
    FR E C' S' nt tm' (a.put dst u) w' := by
  obtain ⟨k1, k2⟩ := (h.tr.ext e).put h.size hv hp
  exact ⟨hw, k1, k2, by rw [Act.put_defers']; exact h.defers⟩

theorem seq_ok (ok : E.Ok) (hcall : CallOk E call) {ops : Array Oper} {Q : Exit → Act → World → Prop} : ∀ (rest : List Oper) (k : Nat) (C : Ctx) (tm tm' : PM AV) (S S' : St) (a : Act) (w : World), ops.toList.drop k = rest →
    evSeq E call nt ops rest tm S = some (tm', S') → FR E C S nt tm a w →
    (∀ C' a' w', FR E C' S' nt tm' a' w' → Ext C w C' w' → Q .normal a' w') → wpOps E.P ops Q (List.range' k (ops.size - k)) a w := by
  intro rest
  induction rest with
  | nil =>
    intro k C tm tm' S S' a w hk h hf hq
    have : ops.size ≤ k := by
      have := congrArg List.length hk
      simp at this; omega
    rw [show ops.size - k = 0 by omega]
    simp only [evSeq, Option.some.injEq, Prod.mk.injEq] at h
    obtain ⟨rfl, rfl⟩ := h
    simp only [List.range'_zero, wpOps]
    exact hq C a w hf (Ext.refl _ _)
  | cons o rest ih =>
    intro k C tm tm' S S' a w hk h hf hq
    have hlt : k < ops.size := by
      rcases Nat.lt_or_ge k ops.size with h' | h'
      · exact h'
      · rw [List.drop_eq_nil_of_le (by simpa using h')] at hk; simp at hk
    have hko : ops[k]? = some o := by
      have h0 : (ops.toList.drop k)[0]? = some o := by rw [hk]; rfl
      rw [List.getElem?_drop] at h0
      simpa using h0
    have hrest : ops.toList.drop (k + 1) = rest := by
      rw [← List.drop_drop, hk]; rfl
    have hsz : ops.size - k = (ops.size - (k + 1)) + 1 := by omega
    rw [hsz, List.range'_succ]
    rw [wpOps]
    simp only [hko]
    simp only [evSeq] at h
    split at h
    · simp at h
    · rename_i hwa
      split at h
      · rename_i tm1 hp
        have hwant := wanted_rel hf.tr hwa
        simp only [hwant, Bool.false_eq_true, if_false]
        exact ih (k + 1) C tm1 tm' S S' _ w hrest h (hf.put hf.wr (Ext.refl _ _) (v := passed) (.sc _) hp) hq
      · simp at h
    · rename_i hwa
      have hwant := wanted_rel hf.tr hwa
      simp only [hwant, if_true]
      split at h
      · simp at h
      · rename_i v S1 hev
        split at h
        · rename_i tm1 hp
          refine .inl ((good_op ok hcall o hf.wr hf.tr hev).wp fun u C' w' k1 k2 k3 => ?_)
          exact ih (k + 1) C' tm1 tm' S1 S' _ w' hrest h (hf.put k1 k2 k3 hp) (fun C2 a2 w2 f2 e2 => hq C2 a2 w2 f2 (k2.trans e2))
        · simp at h

theorem region_ok (ok : E.Ok) (hcall : CallOk E call) {id : Nat} {ops : Array Oper} {Q : Exit → Act → World → Prop} {tm' : PM AV}
    (h : evSeq E call nt ops ops.toList tm S = some (tm', S')) (hf : FR E C S nt tm a w) (hq : ∀ C' a' w', FR E C' S' nt tm' a' w' → Ext C w C' w' → Q .normal a' w') :
    (Code.region id ops false).wp E.P Q a w := by
  refine wp_region ?_
  rw [List.range_eq_range']
  exact seq_ok ok hcall ops.toList 0 C tm tm' S S' a w rfl h hf hq

noncomputable def Out.exit' : Out → Exit
  | .nrm => .normal
  | .exit id => .exit id
  | .ret => .ret

/-- What is proved of regions whose order is open. -/
noncomputable def DrawOk (E : Env) (call : CallFn) : Prop := ∀ (nt id : Nat) (ops : Array Oper) (Q : Exit → Act → World → Prop) (tm tm' : PM AV) (S S' : St) (C : Ctx) (a : Act) (w : World),
    evDraw E call nt ops tm S = some (tm', S') → FR E C S nt tm a w → (∀ C' a' w', FR E C' S' nt tm' a' w' → Ext C w C' w' → Q .normal a' w') → (Code.region id ops true).wp E.P Q a w

theorem iter_ok {M : Code → Option Run} {lf : Nat} {c : Code} (hc : ∀ (tm tm' : PM AV) (S S' : St) (o : Out) (C : Ctx) (a : Act) (w : World) (Q : Exit → Act → World → Prop), evC M E call lf nt c tm S = some (o, tm', S') → FR E C S nt tm a w →
      (∀ C' a' w', FR E C' S' nt tm' a' w' → Ext C w C' w' → Q o.exit' a' w') → c.wp E.P Q a w) :
    ∀ (k : Nat) (tm tm' : PM AV) (S S' : St) (o : Out) (C : Ctx) (a : Act) (w : World) (Q : Exit → Act → World → Prop), iter (evC M E call lf nt c) k tm S = some (o, tm', S') → FR E C S nt tm a w →
      (∀ C' a' w', FR E C' S' nt tm' a' w' → Ext C w C' w' → Q o.exit' a' w') →
      ∃ n, ∀ b k' cs, ∃ e a' w', Q e a' w' ∧ Arrives E.P (lone (b.at a (.code c :: .inLoop c :: k')) cs w) b k' cs e a' w' ∧ n = 0 := by
  intro k
  induction k with
  | zero => intro tm tm' S S' o C a w Q h; simp [iter] at h
  | succ k ih =>
    intro tm tm' S S' o C a w Q h hf hq
    simp only [iter] at h
    refine ⟨0, fun b k' cs => ?_⟩
    split at h
    · simp at h
    · rename_i tm1 S1 hb
      have := hc tm tm1 S S1 .nrm C a w (fun e a' w' => e = .normal ∧ ∃ C', FR E C' S1 nt tm1 a' w' ∧ Ext C w C' w') hb hf (fun C' a' w' f e => ⟨rfl, C', f, e⟩)
      obtain ⟨e, a1, w1, ⟨rfl, C1, f1, e1⟩, harr⟩ := this b (.inLoop c :: k') cs
      obtain ⟨n, hn⟩ := ih tm1 tm' S1 S' o C1 a1 w1 Q h f1 (fun C2 a2 w2 f2 e2 => hq C2 a2 w2 f2 (e1.trans e2))
      obtain ⟨e, a', w', q, harr2, _⟩ := hn b k' cs
      exact ⟨e, a', w', q, .of_steps (Steps.trans harr (.one step_inLoop)) harr2, rfl⟩
    · rename_i id tm1 S1 hb
      simp only [Option.some.injEq, Prod.mk.injEq] at h
      obtain ⟨rfl, rfl, rfl⟩ := h
      obtain ⟨e, a1, w1, ⟨rfl, C1, f1, e1⟩, harr⟩ := hc tm tm1 S S1 (.exit id) C a w (fun e a' w' => e = .exit id ∧ ∃ C', FR E C' S1 nt tm1 a' w' ∧ Ext C w C' w') hb hf (fun C' a' w' f e => ⟨rfl, C', f, e⟩) b (.inLoop c :: k') cs
      exact ⟨.exit id, a1, w1, hq C1 a1 w1 f1 e1, Arrives.pass (x := .inLoop c) rfl (fun _ _ => .inl (by simp)) harr, rfl⟩
    · rename_i tm1 S1 hb
      simp only [Option.some.injEq, Prod.mk.injEq] at h
      obtain ⟨rfl, rfl, rfl⟩ := h
      obtain ⟨e, a1, w1, ⟨rfl, C1, f1, e1⟩, harr⟩ := hc tm tm1 S S1 .ret C a w (fun e a' w' => e = .ret ∧ ∃ C', FR E C' S1 nt tm1 a' w' ∧ Ext C w C' w') hb hf (fun C' a' w' f e => ⟨rfl, C', f, e⟩) b (.inLoop c :: k') cs
      exact ⟨.ret, a1, w1, hq C1 a1 w1 f1 e1, Arrives.pass (x := .inLoop c) rfl (fun _ _ => .inl (by simp)) harr, rfl⟩

/-- What is proved of a statement that is carried out as a whole. -/
noncomputable def StmtOk (E : Env) (nt : Nat) (c : Code) (r : Run) : Prop := ∀ (tm tm' : PM AV) (S S' : St) (o : Out) (C : Ctx) (a : Act) (w : World) (Q : Exit → Act → World → Prop),
    r tm S = some (o, tm', S') → FR E C S nt tm a w → (∀ C' a' w', FR E C' S' nt tm' a' w' → Ext C w C' w' → Q o.exit' a' w') → c.wp E.P Q a w
noncomputable def MOk (E : Env) (nt : Nat) (M : Code → Option Run) : Prop := ∀ c r, M c = some r → StmtOk E nt c r

theorem code_ok {M : Code → Option Run} (ok : E.Ok) (hd : DrawOk E call) (hcall : CallOk E call) (lf : Nat) (hM : MOk E nt M) : ∀ (c : Code) (tm tm' : PM AV) (S S' : St) (o : Out) (C : Ctx) (a : Act) (w : World) (Q : Exit → Act → World → Prop),
    evC M E call lf nt c tm S = some (o, tm', S') → FR E C S nt tm a w → (∀ C' a' w', FR E C' S' nt tm' a' w' → Ext C w C' w' → Q o.exit' a' w') → c.wp E.P Q a w := by
  intro c
  induction c with
  | skip =>
    intro tm tm' S S' o C a w Q h hf hq
    simp only [evC, Option.some.injEq, Prod.mk.injEq] at h
    obtain ⟨rfl, rfl, rfl⟩ := h
    exact wp_skip (hq C a w hf (Ext.refl _ _))
  | label l =>
    intro tm tm' S S' o C a w Q h hf hq
    simp only [evC, Option.some.injEq, Prod.mk.injEq] at h
    obtain ⟨rfl, rfl, rfl⟩ := h
    exact wp_label (hq C a w hf (Ext.refl _ _))
  | region id ops draw =>
    intro tm tm' S S' o C a w Q h hf hq
    cases draw with
    | false =>
      simp only [evC] at h
      split at h
      · rename_i tm1 S1 hs
        simp only [Option.some.injEq, Prod.mk.injEq] at h
        obtain ⟨rfl, rfl, rfl⟩ := h
        exact region_ok ok hcall hs hf hq
      · simp at h
    | true =>
      simp only [evC] at h
      split at h
      · rename_i tm1 S1 hs
        simp only [Option.some.injEq, Prod.mk.injEq] at h
        obtain ⟨rfl, rfl, rfl⟩ := h
        exact hd nt id ops Q tm tm1 S S1 C a w hs hf hq
      · simp at h
  | seq x y ihx ihy =>
    intro tm tm' S S' o C a w Q h hf hq
    simp only [evC] at h
    split at h
    · rename_i r hr
      exact hM _ _ hr tm tm' S S' o C a w Q h hf hq
    split at h
    · rename_i tm1 S1 hx
      exact wp_seq (ihx tm tm1 S S1 .nrm C a w _ hx hf fun C' a' w' f e => ihy tm1 tm' S1 S' o C' a' w' Q h f fun C2 a2 w2 f2 e2 => hq C2 a2 w2 f2 (e.trans e2))
    · rename_i hne
      refine wp_seq (ihx tm tm' S S' o C a w _ h hf fun C' a' w' f e => ?_)
      cases o with
      | nrm => exact absurd h (hne tm' S')
      | exit id => exact hq C' a' w' f e
      | ret => exact hq C' a' w' f e
  | cond c x y ihx ihy =>
    intro tm tm' S S' o C a w Q h hf hq
    simp only [evC] at h
    have hc := ev_rel hf.wr hf.tr c
    split at h
    · rename_i hev
      rw [hev] at hc
      exact wp_cond_true hc.sc_inv (ihx tm tm' S S' o C a w Q h hf hq)
    · rename_i hev
      rw [hev] at hc
      exact wp_cond_false hc.sc_inv (ihy tm tm' S S' o C a w Q h hf hq)
    · simp at h
  | block id c ih =>
    intro tm tm' S S' o C a w Q h hf hq
    simp only [evC] at h
    split at h
    · rename_i j tm1 S1 hx
      refine wp_block (ih tm tm1 S S1 (.exit j) C a w _ hx hf fun C' a' w' f e => ?_)
      cases hb : Nat.beq j id with
      | true =>
        rw [hb] at h
        simp only [cond_true, Option.some.injEq, Prod.mk.injEq] at h
        obtain ⟨rfl, rfl, rfl⟩ := h
        have := Nat.eq_of_beq_eq_true hb
        show Exit.inBlock id Q (.exit j) a' w'
        simp only [Exit.inBlock, this, if_true]
        exact hq C' a' w' f e
      | false =>
        rw [hb] at h
        simp only [cond_false, Option.some.injEq, Prod.mk.injEq] at h
        obtain ⟨rfl, rfl, rfl⟩ := h
        have hne : ¬ j = id := fun e => by rw [e, Nat.beq_refl] at hb; simp at hb
        show Exit.inBlock id Q (.exit j) a' w'
        simp only [Exit.inBlock, hne, if_false]
        exact hq C' a' w' f e
    · rename_i hne
      refine wp_block (ih tm tm' S S' o C a w _ h hf fun C' a' w' f e => ?_)
      cases o with
      | nrm => exact hq C' a' w' f e
      | exit j => exact absurd h (hne j tm' S')
      | ret => exact hq C' a' w' f e
  | loop c ih =>
    intro tm tm' S S' o C a w Q h hf hq
    simp only [evC] at h
    obtain ⟨n, hn⟩ := iter_ok ih lf tm tm' S S' o C a w Q h hf hq
    intro b k cs
    obtain ⟨e, a', w', q, harr, _⟩ := hn b k cs
    exact ⟨e, a', w', q, .of_steps (.one step_loop) harr⟩
  | scope c ih =>
    intro tm tm' S S' o C a w Q h hf hq
    simp only [evC] at h
    refine wp_scope_straight (ih tm tm' S S' o C a w _ h hf fun C' a' w' f e => ?_)
    cases o <;> exact hq C' a' w' f e
  | exit id =>
    intro tm tm' S S' o C a w Q h hf hq
    simp only [evC, Option.some.injEq, Prod.mk.injEq] at h
    obtain ⟨rfl, rfl, rfl⟩ := h
    exact wp_exit (hq C a w hf (Ext.refl _ _))
  | ret =>
    intro tm tm' S S' o C a w Q h hf hq
    simp only [evC, Option.some.injEq, Prod.mk.injEq] at h
    obtain ⟨rfl, rfl, rfl⟩ := h
    exact wp_ret (hq C a w hf (Ext.refl _ _))
  | rangeFunc f ps x y => intro tm tm' S S' o C a w Q h; simp [evC] at h
  | goto l => intro tm tm' S S' o C a w Q h; simp [evC] at h
  | refuse s => intro tm tm' S S' o C a w Q h; simp [evC] at h

/-- Results. -/
noncomputable def resRun (ts : Array Value) : ResultVar → Sem Value
  | .tmp t => pure (ts.getD t Go.undef)
  | .cell x t => do loadVar t (← asAddr (ts.getD x Go.undef))

theorem res_ok (ok : E.Ok) (hf : FR E C S nt tm a w) {r : ResultVar} {v : AV} (h : resA E tm S r = some v) :
    ∃ u, (resRun a.tmps r).run E.P w = .ok u w ∧ VR C w v u := by
  cases r with
  | tmp t =>
    simp only [resA, Option.some.injEq] at h
    subst h
    exact ⟨_, rfl, hf.tr.getT t⟩
  | cell x t =>
    simp only [resA] at h
    have hx := hf.tr.getT x
    generalize getT tm x = X at h hx
    split at h
    · rename_i l off
      split at h
      · rename_i cs ho
        generalize hU : a.tmps.getD x Go.undef = U at hx
        cases hx with
        | ptr _ _ hl =>
          obtain ⟨u, k1, k2⟩ := load_cells ok h (obj_seg hf.wr hl ho)
          refine ⟨u, ?_, k2⟩
          rw [resRun, hU, Sem.run_bind]
          exact k1
      · simp at h
    · rename_i cs off
      obtain ⟨b, o, hU, hb, hfr, ht, hs⟩ := hx.eptr_inv
      obtain ⟨u, k1, k2⟩ := load_cells ok h hs
      refine ⟨u, ?_, k2⟩
      rw [resRun, hU, Sem.run_bind]
      exact k1
    · simp at h

theorem ress_ok (ok : E.Ok) (hf : FR E C S nt tm a w) : ∀ {l : List ResultVar} {vs : List AV}, resAll E tm S l = some vs →
    ∃ us, (l.mapM (resRun a.tmps)).run E.P w = .ok us w ∧ LR C w vs us
  | [], vs, h => by simp [resAll] at h; subst h; exact ⟨[], rfl, LR.nil _ _⟩
  | r :: l, vs, h => by
    simp only [resAll] at h
    split at h
    · rename_i v vs' h1 h2
      simp only [Option.some.injEq] at h
      subst h
      obtain ⟨u, k1, k2⟩ := res_ok ok hf h1
      obtain ⟨us, k3, k4⟩ := ress_ok ok hf h2
      refine ⟨u :: us, ?_, LR.cons k2 k4⟩
      rw [List.mapM_cons]
      simp only [Sem.run_bind, k1, Result.andThen_ok, k3, Sem.run_pure]
    · simp at h

theorem results_ok (ok : E.Ok) (hf : FR E C S nt tm a w) {fn : Func} {vs : List AV} (h : resAll E tm S fn.results.toList = some vs) : ∃ u, (results fn a.tmps).run E.P w = .ok u w ∧ VR C w (packA vs) u := by
  obtain ⟨us, k1, k2⟩ := ress_ok ok hf h
  have hm : (fn.results.mapM (resRun a.tmps)).run E.P w = .ok us.toArray w := by
    rw [Array.mapM_eq_mapM_toList, Sem.run_map, k1]; rfl
  have e : results fn a.tmps = (do let vs ← fn.results.mapM (resRun a.tmps); pure (if h : vs.size = 1 then vs[0] else .tuple vs)) := rfl
  refine ⟨_, by rw [e, Sem.run_bind, hm]; rfl, ?_⟩
  match vs, us, k2 with
  | [], [], _ => exact .sc _
  | [v], [u], k2 => exact k2.head
  | v :: v' :: r, u :: u' :: r', k2 =>
    have : ¬ (u :: u' :: r').toArray.size = 1 := by simp
    simp only [this, dif_neg, not_false_eq_true, packA]
    exact LR.tup (by simpa using k2)
  | [], _ :: _, k2 => exact absurd k2.1 (by simp)
  | [_], [], k2 => exact absurd k2.1 (by simp)
  | [_], _ :: _ :: _, k2 => exact absurd k2.1 (by simp)
  | _ :: _ :: _, [], k2 => exact absurd k2.1 (by simp)
  | _ :: _ :: _, [_], k2 => exact absurd k2.1 (by simp)

theorem init_get : ∀ (l : List AV) (i : Nat) (tm : PM AV) (j : Nat) (x : AV), (initTm i l tm).get j = some x → (i ≤ j ∧ l[j - i]? = some x) ∨ tm.get j = some x
  | [], i, tm, j, x, h => .inr h
  | a :: l, i, tm, j, x, h => by
    simp only [initTm] at h
    rcases init_get l (i + 1) _ j x h with ⟨h1, h2⟩ | h1
    · left
      refine ⟨by omega, ?_⟩
      rw [show j - i = (j - (i + 1)) + 1 by omega]
      simpa using h2
    · rw [PM.get_set] at h1
      by_cases hj : j = i
      · rw [if_pos hj] at h1
        left; subst hj
        simpa using h1
      · rw [if_neg hj] at h1; exact .inr h1

structure XOk (E : Env) : Prop where
  ok : ∀ f g fn, E.X f = some g → E.fn f = some fn → fn.body.isNone = false ∧ ∀ args S r S', g args S = some (r, S') → ∀ C w (vs : Array Value), WR E C S w → LR C w args vs.toList →
    Calls E.P f vs w (fun e w' => ∃ u C', e = .returned u ∧ WR E C' S' w' ∧ Ext C w C' w' ∧ VR C' w' r u)

theorem evF_ok (ok : E.Ok) (hx : XOk E) (lf : Nat) (hd : ∀ n, CallOk E (evF E lf n) → DrawOk E (evF E lf n)) (hm : ∀ n nt, CallOk E (evF E lf n) → MOk E nt (mac1 E (evF E lf n) lf nt)) : ∀ n, CallOk E (evF E lf n) := by
  intro n
  induction n with
  | zero => intro g args S r S' h; simp [evF] at h
  | succ n ih =>
    intro g args S r S' h
    simp only [evF] at h
    cases hfn : E.fn g with
    | none => simp [hfn] at h
    | some fn =>
      obtain ⟨hf1, hf2⟩ := ok.fn g fn hfn
      simp only [hfn] at h
      cases hX : E.X g with
      | some g' =>
        simp only [hX] at h
        obtain ⟨k1, k2⟩ := hx.ok g g' fn hX hfn
        exact ⟨⟨fn, hf1, k1, hf2⟩, k2 args S r S' h⟩
      | none =>
        simp only [hX] at h
        cases hb : fn.body with
        | none => simp [hb] at h
        | some c =>
          simp only [hb] at h
          refine ⟨⟨fn, hf1, by simp [hb], hf2⟩, fun C w vs hw hl => ?_⟩
          cases hn : Nat.ble args.length fn.ntmps with
          | false => rw [hn] at h; simp at h
          | true =>
            rw [hn] at h
            simp only [cond_true] at h
            have hle := Nat.le_of_ble_eq_true hn
            have hvl : vs.size = args.length := by simpa using hl.1.symm
            have hFR : FR E C S fn.ntmps (initTm 0 args .leaf) { tmps := vs ++ Array.replicate (fn.ntmps - vs.size) Go.undef, defers := [] } w := by
              refine ⟨hw, fun i x hx => ?_, by simp; omega, rfl⟩
              rcases init_get args 0 .leaf i x hx with ⟨_, h1⟩ | h1
              · obtain ⟨u, k1, k2⟩ := hl.get (by simpa using h1)
                have hi : i < vs.size := by
                  rcases Nat.lt_or_ge i vs.size with h' | h'
                  · exact h'
                  · have : vs.toList.length ≤ i := by simpa using h'
                    simp [List.getElem?_eq_none this] at k1
                have k1' : vs[i] = u := by simpa [hi] using k1
                simpa [Array.getElem?_append, hi, k1'] using k2
              · simp at h1
            refine calls_of_wp hf1 hb ?_
            have fin : ∀ (o : Out) (tm : PM AV) (S1 : St), (∀ id, o ≠ .exit id) → evC (mac1 E (evF E lf n) lf fn.ntmps) E (evF E lf n) lf fn.ntmps c (initTm 0 args .leaf) S = some (o, tm, S1) →
                (resAll E tm S1 fn.results.toList).map (fun vs => (packA vs, S1)) = some (r, S') →
                c.wp E.P (bodyPost E.P fn fun e w' => ∃ u C', e = .returned u ∧ WR E C' S' w' ∧ Ext C w C' w' ∧ VR C' w' r u) { tmps := vs ++ Array.replicate (fn.ntmps - vs.size) Go.undef, defers := [] } w := by
              intro o tm S1 ho hc hr
              simp only [Option.map_eq_some_iff, Prod.mk.injEq] at hr
              obtain ⟨rs, h1, rfl, rfl⟩ := hr
              refine code_ok ok (hd n ih) ih lf (hm n _ ih) c _ tm S S1 o C _ w _ hc hFR fun C' a' w' f e => ?_
              obtain ⟨u, k1, k2⟩ := results_ok ok f h1
              cases o with
              | nrm => exact ⟨f.defers, u, k1, u, C', rfl, f.wr, e, k2⟩
              | ret => exact ⟨f.defers, u, k1, u, C', rfl, f.wr, e, k2⟩
              | exit id => exact absurd rfl (ho id)
            split at h
            · simp at h
            · rename_i o tm S1 hne hc
              exact fin o tm S1 (fun id he => hne id (by rw [he])) hc h
            · simp at h

end
end Go.Abs
end

section
set_option linter.unusedSimpArgs false
set_option linter.unusedVariables false
namespace Go.Abs
open Go.RowKit

/-- Operation i waits for operation d, at whatever remove. -/
inductive Bef (ops : Array Oper) : Nat → Nat → Prop
  | base {i : Nat} {o : Oper} {e : Edge} (ho : ops[i]? = some o) (he : e ∈ o.after.toList) (hb : Region.binds .any e = true) : Bef ops i e.on
  | step {i d : Nat} {o : Oper} {e : Edge} (ho : ops[i]? = some o) (he : e ∈ o.after.toList) (hb : Region.binds .any e = true) (h : Bef ops e.on d) : Bef ops i d

theorem Bef.closed {ops : Array Oper} {D : Nat → Prop} (hD : ∀ i o e, ops[i]? = some o → D i → e ∈ o.after.toList → Region.binds .any e = true → D e.on) {i d : Nat} (h : Bef ops i d) : D i → D d := by
  induction h with
  | base ho he hb => exact fun hi => hD _ _ _ ho hi he hb
  | step ho he hb _ ih => exact fun hi => ih (hD _ _ _ ho hi he hb)

theorem maskOf_bit (acc : PM Nat) (d : Nat) : ∀ (es : List Edge), (maskOf acc es).testBit d = true → ∃ e ∈ es, Region.binds .any e = true ∧ (e.on = d ∨ bit acc e.on d = true)
  | [], h => by simp [maskOf] at h
  | e :: r, h => by
    simp only [maskOf] at h
    cases hb : Region.binds .any e with
    | false =>
      rw [hb] at h
      obtain ⟨e', h1, h2⟩ := maskOf_bit acc d r h
      exact ⟨e', by simp [h1], h2⟩
    | true =>
      rw [hb] at h
      simp only [cond_true, Nat.testBit_or, Bool.or_eq_true, Nat.testBit_two_pow, decide_eq_true_eq] at h
      rcases h with (h | h) | h
      · exact ⟨e, by simp, hb, .inl h⟩
      · exact ⟨e, by simp, hb, .inr h⟩
      · obtain ⟨e', h1, h2⟩ := maskOf_bit acc d r h
        exact ⟨e', by simp [h1], h2⟩

theorem masks_bef {ops : Array Oper} : ∀ (rest : List Oper) (i : Nat) (acc : PM Nat), ops.toList.drop i = rest → (∀ k d, bit acc k d = true → Bef ops k d) → ∀ k d, bit (masks i rest acc) k d = true → Bef ops k d
  | [], i, acc, _, h => h
  | o :: r, i, acc, hd, h => by
    have hko : ops[i]? = some o := by
      have h0 : (ops.toList.drop i)[0]? = some o := by rw [hd]; rfl
      rw [List.getElem?_drop] at h0
      simpa using h0
    have hrest : ops.toList.drop (i + 1) = r := by rw [← List.drop_drop, hd]; rfl
    refine masks_bef r (i + 1) _ hrest (fun k d hk => ?_)
    unfold bit at hk
    rw [PM.get_set] at hk
    by_cases hki : k = i
    · subst hki
      simp only [if_true, Option.getD_some] at hk
      obtain ⟨e, h1, h2, h3⟩ := maskOf_bit acc d _ hk
      rcases h3 with rfl | h3
      · exact .base hko h1 h2
      · exact .step hko h1 h2 (h _ _ h3)
    · rw [if_neg hki] at hk
      exact h k d hk

structure Pairs (E : Env) (ops : Array Oper) : Prop where
  edge : ∀ (i : Nat) (o : Oper) (e : Edge), ops[i]? = some o → e ∈ o.after.toList → Region.binds .any e = true → e.on < i
  dst : ∀ (i j : Nat) (x y : Oper) (d : Tmp), i < j → ops[i]? = some x → ops[j]? = some y → x.dst = some d → y.dst ≠ some d
  names1 : ∀ (i j : Nat) (x y : Oper) (d : Tmp), i < j → ops[i]? = some x → ops[j]? = some y → x.dst = some d → d ∈ namesOf ops y → Bef ops j i
  names2 : ∀ (i j : Nat) (x y : Oper) (d : Tmp), i < j → ops[i]? = some x → ops[j]? = some y → y.dst = some d → d ∈ namesOf ops x → Bef ops j i
  loud : ∀ (i j : Nat) (x y : Oper), i < j → ops[i]? = some x → ops[j]? = some y → Abs.loud E x = true → Abs.loud E y = true → Bef ops j i

theorem pairs_of {E : Env} {ops : Array Oper} {m : PM Nat} (hm : ∀ k d, bit m k d = true → Bef ops k d) : ∀ (rest : List Oper) (i : Nat), ops.toList.drop i = rest → allPairs E ops m i rest = true →
    (∀ k o e, i ≤ k → ops[k]? = some o → e ∈ o.after.toList → Region.binds .any e = true → e.on < k) ∧ (∀ k j x y, i ≤ k → k < j → ops[k]? = some x → ops[j]? = some y → pairOk E ops m k x j y = true)
  | [], i, hd, _ => by
    have : ops.size ≤ i := by have := congrArg List.length hd; simp at this; omega
    refine ⟨fun k o e hk ho => ?_, fun k j x y hk _ ho => ?_⟩ <;> (rw [Array.getElem?_eq_none (by omega)] at ho; simp at ho)
  | x :: r, i, hd, h => by
    have hko : ops[i]? = some x := by
      have h0 : (ops.toList.drop i)[0]? = some x := by rw [hd]; rfl
      rw [List.getElem?_drop] at h0
      simpa using h0
    have hrest : ops.toList.drop (i + 1) = r := by rw [← List.drop_drop, hd]; rfl
    simp only [allPairs, Bool.and_eq_true] at h
    obtain ⟨⟨h1, h2⟩, h3⟩ := h
    obtain ⟨k1, k2⟩ := pairs_of hm r (i + 1) hrest h3
    have row : ∀ (l : List Oper) (j0 : Nat), ops.toList.drop j0 = l → pairsOk E ops m i x j0 l = true → ∀ j y, j0 ≤ j → ops[j]? = some y → pairOk E ops m i x j y = true := by
      intro l
      induction l with
      | nil =>
        intro j0 hd0 _ j y hj ho
        have : ops.size ≤ j0 := by have := congrArg List.length hd0; simp at this; omega
        rw [Array.getElem?_eq_none (by omega)] at ho; simp at ho
      | cons z l ih =>
        intro j0 hd0 hp j y hj ho
        simp only [pairsOk, Bool.and_eq_true] at hp
        have hz : ops[j0]? = some z := by
          have h0 : (ops.toList.drop j0)[0]? = some z := by rw [hd0]; rfl
          rw [List.getElem?_drop] at h0
          simpa using h0
        by_cases hjj : j = j0
        · subst hjj
          rw [hz] at ho; simp at ho; subst ho
          exact hp.1
        · exact ih (j0 + 1) (by rw [← List.drop_drop, hd0]; rfl) hp.2 j y (by omega) ho
    refine ⟨fun k o e hk ho he hb => ?_, fun k j x' y hk hkj hx hy => ?_⟩
    · by_cases hki : k = i
      · subst hki
        rw [hko] at ho; simp at ho; subst ho
        have := List.all_eq_true.1 h1 e he
        rw [hb] at this
        simp only [Bool.not_true, Bool.false_or] at this
        exact Nat.le_of_ble_eq_true this
      · exact k1 k o e (by omega) ho he hb
    · by_cases hki : k = i
      · subst hki
        rw [hko] at hx; simp at hx; subst hx
        exact row r (k + 1) hrest h2 j y (by omega) hy
      · exact k2 k j x' y (by omega) hkj hx hy

theorem Pairs.of {E : Env} {ops : Array Oper} (h : allPairs E ops (masks 0 ops.toList .leaf) 0 ops.toList = true) : Pairs E ops ∧ (∀ k d, bit (masks 0 ops.toList .leaf) k d = true → Bef ops k d) := by
  have hm : ∀ k d, bit (masks 0 ops.toList .leaf) k d = true → Bef ops k d := masks_bef (ops := ops) ops.toList 0 .leaf rfl (fun k d hk => by simp [bit] at hk)
  obtain ⟨h1, h2⟩ := pairs_of hm ops.toList 0 rfl h
  refine ⟨⟨fun i o e ho he hb => h1 i o e (Nat.zero_le _) ho he hb, fun i j x y d hij hx hy hd => ?_, fun i j x y d hij hx hy hd hn => ?_, fun i j x y d hij hx hy hd hn => ?_, fun i j x y hij hx hy l1 l2 => ?_⟩, hm⟩
  all_goals
    have hp := h2 i j x y (Nat.zero_le _) hij hx hy
    simp only [pairOk, Bool.and_eq_true] at hp
    obtain ⟨⟨p1, p2⟩, p3⟩ := hp
  · rw [hd] at p1
    simp only [Bool.and_eq_true] at p1
    intro he
    rw [he] at p1
    simp at p1
  · rw [hd] at p1
    simp only [Bool.and_eq_true, Bool.or_eq_true] at p1
    rcases p1.1 with hb | hb
    · exact hm _ _ hb
    · have hc : (namesOf ops y).contains d = true := by simpa using hn
      rw [hc] at hb; simp at hb
  · rw [hd] at p2
    simp only [Bool.or_eq_true] at p2
    rcases p2 with hb | hb
    · exact hm _ _ hb
    · have hc : (namesOf ops x).contains d = true := by simpa using hn
      rw [hc] at hb; simp at hb
  · simp only [Bool.or_eq_true] at p3
    rcases p3 with hb | hb
    · exact hm _ _ hb
    · rw [l1, l2] at hb; simp at hb

section
variable {E : Env} {S S' S2 : St} {v : AV} {tm tm2 : PM AV} {call : CallFn}

/-- No number has been given: then none has been spent. -/
structure Idl (S S' : St) : Prop where
  nid : S.nid ≤ S'.nid
  idk : S'.nid = S.nid → S'.spent = S.spent ∧ S'.ity = S.ity
theorem Idl.refl (S : St) : Idl S S := ⟨Nat.le_refl _, fun _ => ⟨rfl, rfl⟩⟩
theorem Idl.trans {A B D : St} (h : Idl A B) (k : Idl B D) : Idl A D :=
  ⟨Nat.le_trans h.nid k.nid, fun e => by
    have h1 := h.nid
    have h2 := k.nid
    obtain ⟨a1, a2⟩ := h.idk (by omega)
    obtain ⟨b1, b2⟩ := k.idk (by omega)
    exact ⟨b1.trans a1, b2.trans a2⟩⟩
theorem Idl.up {S S' : St} (h : S.nid < S'.nid) : Idl S S' := ⟨Nat.le_of_lt h, fun e => by omega⟩

structure Evo (S S' : St) : Prop where
  no : S.no ≤ S'.no
  ver : ∀ l, l < S.no → S.ver l ≤ S'.ver l
  obj : ∀ l, l < S.no → S.ver l = S'.ver l → S'.objs.get l = S.objs.get l ∧ S'.shp.get l = S.shp.get l
  idl : Idl S S'
theorem Evo.refl (S : St) : Evo S S := ⟨Nat.le_refl _, fun _ _ => Nat.le_refl _, fun _ _ _ => ⟨rfl, rfl⟩, Idl.refl _⟩
theorem Evo.trans {A B D : St} (h : Evo A B) (k : Evo B D) : Evo A D :=
  ⟨Nat.le_trans h.no k.no, fun l hl => Nat.le_trans (h.ver l hl) (k.ver l (Nat.lt_of_lt_of_le hl h.no)), fun l hl he => by
    have h1 := h.ver l hl
    have h2 := k.ver l (Nat.lt_of_lt_of_le hl h.no)
    obtain ⟨a1, a2⟩ := k.obj l (Nat.lt_of_lt_of_le hl h.no) (by omega)
    obtain ⟨b1, b2⟩ := h.obj l hl (by omega)
    exact ⟨a1.trans b1, a2.trans b2⟩, h.idl.trans k.idl⟩
theorem Evo.newRaw (S : St) (o : AObj) : Evo S (S.newRaw o) :=
  ⟨Nat.le_succ _, fun _ _ => Nat.le_refl _, fun l hl _ => ⟨by simp only [St.newRaw, PM.get_set]; rw [if_neg (by omega)], rfl⟩, ⟨Nat.le_refl _, fun _ => ⟨rfl, rfl⟩⟩⟩
theorem Evo.newObj (S : St) (cs : List AV) : Evo S (S.newObj cs) := Evo.newRaw S _
theorem Evo.newId (S : St) (T : TypeId) : Evo S (S.newId T) := ⟨Nat.le_refl _, fun _ _ => Nat.le_refl _, fun _ _ _ => ⟨rfl, rfl⟩, Idl.up (Nat.lt_succ_self _)⟩
theorem Evo.newIdX (S : St) : Evo S S.newIdX := ⟨Nat.le_refl _, fun _ _ => Nat.le_refl _, fun _ _ _ => ⟨rfl, rfl⟩, Idl.up (Nat.lt_succ_self _)⟩
theorem Evo.spend (S : St) (T : TypeId) (k : Nat) : Evo S { S.newId T with spent := S.spent.set k () } := ⟨Nat.le_refl _, fun _ _ => Nat.le_refl _, fun _ _ _ => ⟨rfl, rfl⟩, Idl.up (Nat.lt_succ_self _)⟩
theorem Evo.put (S : St) (l : Nat) (o : AObj) : Evo S (S.put l o) := by
  refine ⟨Nat.le_refl _, fun k _ => ?_, fun k _ he => ⟨?_, rfl⟩, ⟨Nat.le_refl _, fun _ => ⟨rfl, rfl⟩⟩⟩
  · simp only [St.ver, St.put, PM.get_set]
    split
    · rename_i e; subst e; simp
    · exact Nat.le_refl _
  · simp only [St.ver, St.put, PM.get_set] at he
    split at he
    · rename_i e; subst e; simp at he
    · rename_i e
      simp only [St.put, PM.get_set]; rw [if_neg e]
theorem Evo.bearNext (S : St) (m : Mk) : Evo S (S.bearNext m) := by
  refine ⟨Nat.le_succ _, fun _ _ => Nat.le_refl _, fun l hl _ => ⟨?_, ?_⟩, ⟨Nat.le_refl _, fun _ => ⟨rfl, rfl⟩⟩⟩
  · simp only [St.bearNext, St.bear, PM.get_set]; rw [if_neg (by omega)]
  · simp only [St.bearNext, St.bear]
    split
    · rw [PM.get_set, if_neg (by omega)]
    · rfl

/-- The callee leaves what it does not write. -/
noncomputable def CallEvo (call : CallFn) : Prop := ∀ g args S r S', call g args S = some (r, S') → Evo S S'

/-- The same stands there. -/
noncomputable def Same (S S2 : St) (l : Nat) : Prop := S2.objs.get l = S.objs.get l ∧ S2.shp.get l = S.shp.get l
theorem Same.obj {l : Nat} (h : Same S S2 l) : S2.obj l = S.obj l := by unfold St.obj; rw [h.1]
theorem Same.map {l : Nat} (h : Same S S2 l) : S2.map l = S.map l := by unfold St.map; rw [h.1]

/-- The same stands there, or at least at the place that is told. -/
noncomputable def Like (E : Env) (q : Option (TypeId × Nat)) (S S2 : St) (l : Nat) : Prop :=
  Same S S2 l ∨ ∃ t off c1 c2 v, q = some (t, off) ∧ S.obj l = some c1 ∧ S2.obj l = some c2 ∧ E.cutAt t c1 off = some v ∧ E.cutAt t c2 off = some v
theorem Like.refl {q : Option (TypeId × Nat)} (S : St) (l : Nat) : Like E q S S l := .inl ⟨rfl, rfl⟩
theorem Like.symm {q : Option (TypeId × Nat)} {S S2 : St} {l : Nat} (h : Like E q S S2 l) : Like E q S2 S l := by
  rcases h with h | ⟨t, off, c1, c2, v, h1, h2, h3, h4, h5⟩
  · exact .inl ⟨h.1.symm, h.2.symm⟩
  · exact .inr ⟨t, off, c2, c1, v, h1, h3, h2, h5, h4⟩
theorem Like.trans {q : Option (TypeId × Nat)} {S1 S2 S3 : St} {l : Nat} (h : Like E q S1 S2 l) (k : Like E q S2 S3 l) : Like E q S1 S3 l := by
  rcases h with h | ⟨t, off, c1, c2, v, h1, h2, h3, h4, h5⟩
  · rcases k with k | ⟨t', off', c1', c2', v', k1, k2, k3, k4, k5⟩
    · exact .inl ⟨k.1.trans h.1, k.2.trans h.2⟩
    · exact .inr ⟨t', off', c1', c2', v', k1, by rw [← h.obj]; exact k2, k3, k4, k5⟩
  · rcases k with k | ⟨t', off', c1', c2', v', k1, k2, k3, k4, k5⟩
    · exact .inr ⟨t, off, c1, c2, v, h1, h2, by rw [k.obj]; exact h3, h4, h5⟩
    · rw [h1] at k1
      simp only [Option.some.injEq, Prod.mk.injEq] at k1
      obtain ⟨rfl, rfl⟩ := k1
      rw [h3, Option.some.injEq] at k2
      subst k2
      rw [h5, Option.some.injEq] at k4
      subst k4
      exact .inr ⟨t, off, c1, c2', v, h1, h2, k3, h4, k5⟩
theorem Like.of {S S2 : St} {l : Nat} (h : Like E none S S2 l) : Same S S2 l := by
  rcases h with h | ⟨t, off, c1, c2, v, h1, _⟩
  · exact h
  · cases h1
theorem Like.at {q : Option (TypeId × Nat)} {S S2 : St} {l : Nat} (h : sameAt E q l S S2 = true) : Like E q S S2 l := by
  unfold sameAt at h
  split at h
  · rename_i t off
    split at h
    · rename_i c1 c2 h1 h2
      split at h
      · rename_i a b h3 h4
        have := eqA_eq 20 a b h
        subst this
        exact .inr ⟨t, off, c1, c2, a, rfl, h1, h2, h3, h4⟩
      · cases h
    · cases h
  · cases h
theorem loadA_like {t : TypeId} {l off : Nat} (h : loadA E t (.ptr l off) S = some (v, S')) (hs : Like E (some (t, off)) S S2 l) : loadA E t (.ptr l off) S2 = some (v, S2) := by
  unfold loadA at *
  simp only at h ⊢
  cases ho : S.obj l with
  | none => simp [ho] at h
  | some cs =>
    simp only [ho, Option.map_eq_some_iff, Prod.mk.injEq] at h
    obtain ⟨r, h1, rfl, rfl⟩ := h
    rcases hs with hs | ⟨t', off', c1, c2, v, k1, k2, k3, k4, k5⟩
    · have : S2.obj l = some cs := by rw [hs.obj]; exact ho
      simp [this, h1]
    · simp only [Option.some.injEq, Prod.mk.injEq] at k1
      obtain ⟨rfl, rfl⟩ := k1
      rw [ho, Option.some.injEq] at k2
      subst k2
      rw [h1, Option.some.injEq] at k4
      subst k4
      simp [k3, k5]
theorem loadA_any {t : TypeId} {x : AV} (h : loadA E t x S = some (v, S')) : S' = S ∧ ((∀ l off, x = .ptr l off → Same S S2 l) → loadA E t x S2 = some (v, S2)) := by
  unfold loadA at *
  cases x with
  | ptr l off =>
    simp only at h ⊢
    cases ho : S.obj l with
    | none => simp [ho] at h
    | some cs =>
      simp only [ho, Option.map_eq_some_iff, Prod.mk.injEq] at h
      obtain ⟨r, h1, rfl, rfl⟩ := h
      refine ⟨rfl, fun hs => ?_⟩
      have : S2.obj l = some cs := by rw [(hs l off rfl).obj]; exact ho
      simp [this, h1]
  | eptr cs off =>
    simp only [Option.map_eq_some_iff, Prod.mk.injEq] at h ⊢
    obtain ⟨r, h1, rfl, rfl⟩ := h
    exact ⟨rfl, fun _ => ⟨r, h1, rfl, trivial⟩⟩
  | _ => simp at h

/-- What leaves the state alone, in two states. -/
noncomputable def Any (S S2 S' : St) (v : AV) (Y : Option (AV × St)) : Prop := S' = S ∧ Y = some (v, S2)

theorem map_any {α : Type} {X : Option α} {f : α → AV} (h : X.map (fun a => (f a, S)) = some (v, S')) : Any S S2 S' v (X.map (fun a => (f a, S2))) := by
  simp only [Option.map_eq_some_iff, Prod.mk.injEq] at h
  obtain ⟨a, h1, rfl, rfl⟩ := h
  exact ⟨rfl, by rw [h1]; rfl⟩
theorem some_any {x : AV} (h : some (x, S) = some (v, S')) : Any S S2 S' v (some (x, S2)) := by
  simp only [Option.some.injEq, Prod.mk.injEq] at h
  obtain ⟨rfl, rfl⟩ := h
  exact ⟨rfl, rfl⟩
theorem none_any {Y : Option (AV × St)} (h : (none : Option (AV × St)) = some (v, S')) : Any S S2 S' v Y := by simp at h
theorem ite_any {c : Bool} {X Y X2 Y2 : Option (AV × St)} (hx : X = some (v, S') → Any S S2 S' v X2) (hy : Y = some (v, S') → Any S S2 S' v Y2) (h : (bif c then X else Y) = some (v, S')) : Any S S2 S' v (bif c then X2 else Y2) := by
  cases c
  · exact hy h
  · exact hx h

theorem sliceA_any {t : TypeId} {x : AV} {lo hi : Option AV} (hs : ∀ l off, x = .ptr l off → Same S S2 l) (h : sliceA E t x lo hi S = some (v, S')) : Any S S2 S' v (sliceA E t x lo hi S2) := by
  cases x with
  | ptr l off =>
    have ho := (hs l off rfl).obj
    simp only [sliceA] at h ⊢
    rw [ho]
    revert h
    repeat' (first | exact some_any | exact none_any | exact map_any | refine ite_any ?_ ?_ | contradiction | split)
  | _ =>
    simp only [sliceA] at h ⊢
    revert h
    repeat' (first | exact some_any | exact none_any | exact map_any | refine ite_any ?_ ?_ | contradiction | split)
theorem slice3A_any {t : TypeId} {x : AV} {lo : Option AV} {hi mx : AV} (h : slice3A E t x lo hi mx S = some (v, S')) : Any S S2 S' v (slice3A E t x lo hi mx S2) := by
  simp only [slice3A] at h ⊢
  revert h
  repeat' (first | exact some_any | exact none_any | exact map_any | refine ite_any ?_ ?_ | contradiction | split)
theorem oslElems_any {agg : Bool} {l sz off len : Nat} (hs : Same S S2 l) : S2.oslElems agg l sz off len = S.oslElems agg l sz off len := by
  unfold St.oslElems; rw [hs.obj]
theorem convertA_any {mu : Bool} {t u : TypeId} {x : AV} (hq : isStrBytes E t u = false) (hs : ∀ l off, x = .ptr l off → Same S S2 l) (hs2 : ∀ l sz off len room, x = .osl l sz off len room → Same S S2 l) (h : convertA E mu t u x S = some (v, S')) : Any S S2 S' v (convertA E mu t u x S2) := by
  simp only [convertA, hq, cond_false] at h ⊢
  cases x with
  | ptr l off =>
    have ho := (hs l off rfl).obj
    have hp := (hs l off rfl).2
    simp only at h ⊢
    rw [ho]
    simp only [hp]
    revert h
    repeat' (first | exact some_any | exact none_any | exact map_any | refine ite_any ?_ ?_ | contradiction | split)
  | osl l sz off len room =>
    simp only at h ⊢
    simp only [oslElems_any (hs2 l sz off len room rfl)]
    revert h
    repeat' (first | exact some_any | exact none_any | exact map_any | refine ite_any ?_ ?_ | contradiction | split)
  | _ =>
    simp only at h ⊢
    revert h
    repeat' (first | exact some_any | exact none_any | exact map_any | refine ite_any ?_ ?_ | contradiction | split)
theorem buildA_any {t : TypeId} {ps : List (Nat × AV)} (h : buildA E t ps S = some (v, S')) : Any S S2 S' v (buildA E t ps S2) := by
  simp only [buildA] at h ⊢
  revert h
  repeat' (first | exact some_any | exact none_any | exact map_any | refine ite_any ?_ ?_ | contradiction | split)
theorem buildSliceA_any {t : TypeId} {len : Nat} {ps : List (Nat × AV)} (h : buildSliceA E t len ps S = some (v, S')) : Any S S2 S' v (buildSliceA E t len ps S2) := by
  simp only [buildSliceA] at h ⊢
  revert h
  repeat' (first | exact some_any | exact none_any | exact map_any | refine ite_any ?_ ?_ | contradiction | split)
theorem lookupA_any {t : TypeId} {x ix : AV} {b : Bool} (hs : ∀ l, x = .mp l → Same S S2 l) (h : lookupA E t x ix b S = some (v, S')) : Any S S2 S' v (lookupA E t x ix b S2) := by
  cases x with
  | mp l =>
    have hm := (hs l rfl).map
    simp only [lookupA] at h ⊢
    simp only [hm]
    revert h
    repeat' (first | exact some_any | exact none_any | exact map_any | refine ite_any ?_ ?_ | contradiction | split)
  | sc u =>
    clear hs
    cases u with
    | map r =>
      cases r with
      | none =>
        simp only [lookupA] at h ⊢
        revert h
        repeat' (first | exact some_any | exact none_any | exact map_any | refine ite_any ?_ ?_ | contradiction | split)
      | some r =>
        simp only [lookupA] at h ⊢
        revert h
        repeat' (first | exact some_any | exact none_any | exact map_any | refine ite_any ?_ ?_ | contradiction | split)
    | _ =>
      simp only [lookupA] at h ⊢
      revert h
      repeat' (first | exact some_any | exact none_any | exact map_any | refine ite_any ?_ ?_ | contradiction | split)
  | _ =>
    simp only [lookupA] at h ⊢
    revert h
    repeat' (first | exact some_any | exact none_any | exact map_any | refine ite_any ?_ ?_ | contradiction | split)
theorem len_any {ats : List TypeId} {xs : List AV} {mu : Bool} (hs : ∀ l, xs = [.mp l] → Same S S2 l) (h : builtinA E mu .len ats xs S = some (v, S')) : Any S S2 S' v (builtinA E mu .len ats xs S2) := by
  match ats, xs, h with
  | [t], [x], h =>
    simp only [builtinA] at h ⊢
    cases x with
    | mp l =>
      have := (hs l rfl).map
      simp only at h ⊢
      simp only [this]
      revert h
      repeat' (first | exact some_any | exact none_any | exact map_any (f := fun n : Nat => AV.sc (.int .i64 n)) | exact map_any (f := fun es : List (Value × AV) => AV.sc (.int .i64 (es.length : Nat))) | exact map_any | refine ite_any ?_ ?_ | contradiction | split)
    | _ =>
      revert h
      repeat' (first | exact some_any | exact none_any | exact map_any (f := fun n : Nat => AV.sc (.int .i64 n)) | exact map_any | refine ite_any ?_ ?_ | contradiction | split)
  | [], _, h => simp [builtinA] at h
  | [_], [], h => simp [builtinA] at h
  | [_], _ :: _ :: _, h => simp [builtinA] at h
  | _ :: _ :: _, _, h => simp [builtinA] at h
theorem minmax_any {b : Builtin} (hb : b = .min ∨ b = .max) {ats : List TypeId} {xs : List AV} {mu : Bool} (h : builtinA E mu b ats xs S = some (v, S')) : Any S S2 S' v (builtinA E mu b ats xs S2) := by
  rcases hb with rfl | rfl
  all_goals
    simp only [builtinA] at h ⊢
    revert h
    repeat' (first | exact some_any | exact none_any | exact map_any (f := fun x => ofV x) | refine ite_any ?_ ?_ | contradiction | split)

/-- Operations that look at no state at all. -/
noncomputable def blindOp : Op → Prop
  | .move _ | .assign _ | .pick .. | .nilCheck _ | .binOp .. | .unOp .. | .fieldAddr .. | .field .. | .indexAddr .. | .index .. | .extract .. | .makeFunc .. | .makeInterface .. => True
  | _ => False
theorem plain_any (o : Oper) (hl : blindOp o.op) (h : evPlain E call tm o S = some (v, S')) : Any S S2 S' v (evPlain E call tm o S2) := by
  obtain ⟨dst, op, ty, pos, after, guard⟩ := o
  cases op
  all_goals first
    | exact hl.elim
    | (revert h
       simp only [evPlain]
       repeat' (first | exact some_any | exact none_any | exact map_any | refine ite_any ?_ ?_ | contradiction | split))

theorem quiet_any (o : Oper) (hm : isMk E o = false) (hq : loudOp E o.op = false) (h : evPlain E call tm o S = some (v, S')) :
    S' = S ∧ ((∀ l, loadsFrom E tm o = some l → Same S S2 l) → evPlain E call tm o S2 = some (v, S2)) := by
  obtain ⟨dst, op, ty, pos, after, guard⟩ := o
  cases op with
  | load t x =>
    simp only [evPlain] at h ⊢
    obtain ⟨h1, h2⟩ := loadA_any (S2 := S2) h
    exact ⟨h1, fun hl => h2 fun l off hx => hl l (by simp [loadsFrom, hx])⟩
  | slice t x lo hi mx =>
    cases mx with
    | some m =>
      cases hi with
      | none => simp [evPlain] at h
      | some hi => simp only [evPlain] at h ⊢; exact ⟨(slice3A_any (S2 := S) h).1, fun _ => (slice3A_any h).2⟩
    | none =>
      simp only [evPlain] at h ⊢
      refine ⟨(sliceA_any (S2 := S) (fun _ _ _ => ⟨rfl, rfl⟩) h).1, fun hl => (sliceA_any (fun l off hx => hl l ?_) h).2⟩
      simp [loadsFrom, hx]
  | convert t u x =>
    simp only [evPlain] at h ⊢
    refine ⟨(convertA_any (S2 := S) hq (fun _ _ _ => ⟨rfl, rfl⟩) (fun _ _ _ _ _ _ => ⟨rfl, rfl⟩) h).1, fun hl => (convertA_any hq (fun l off hx => hl l ?_) (fun l sz off len room hx => hl l ?_) h).2⟩ <;> simp [loadsFrom, hx]
  | build t ps => simp only [evPlain] at h ⊢; exact ⟨(buildA_any (S2 := S) h).1, fun _ => (buildA_any h).2⟩
  | buildSlice t n ps => simp only [evPlain] at h ⊢; exact ⟨(buildSliceA_any (S2 := S) h).1, fun _ => (buildSliceA_any h).2⟩
  | lookup t x ix b =>
    simp only [evPlain] at h ⊢
    refine ⟨(lookupA_any (S2 := S) (fun _ _ => ⟨rfl, rfl⟩) h).1, fun hl => (lookupA_any (fun l hx => hl l ?_) h).2⟩
    simp [loadsFrom, hx]
  | store t x y => simp [loudOp] at hq
  | makeSlice t x y => simp [loudOp] at hq
  | mapUpdate t x y z => simp [loudOp] at hq
  | insert t x y z => simp [loudOp] at hq
  | next x b => simp [loudOp] at hq
  | call c =>
    obtain ⟨callee, args, ats⟩ := c
    cases callee with
    | value f => simp [loudOp] at hq
    | invoke r m => simp [loudOp] at hq
    | builtin b =>
      have hb : b = .len ∨ b = .min ∨ b = .max := by cases b <;> simp_all [loudOp]
      simp only [evPlain, callA] at h ⊢
      rcases hb with rfl | hb
      · refine ⟨(len_any (S2 := S) (fun _ _ => ⟨rfl, rfl⟩) h).1, fun hl => (len_any (fun l hx => hl l ?_) h).2⟩
        simp [loadsFrom, hx]
      · exact ⟨(minmax_any (S2 := S) hb h).1, fun _ => (minmax_any hb h).2⟩
  | _ => first
    | (simp [evPlain] at h; done)
    | exact ⟨(plain_any (S2 := S) _ (by trivial) h).1, fun _ => (plain_any _ (by trivial) h).2⟩

theorem quiet_like (o : Oper) (hm : isMk E o = false) (hq : loudOp E o.op = false) (h : evPlain E call tm o S = some (v, S')) :
    S' = S ∧ ((∀ l, loadsFrom E tm o = some l → Like E (loadsAt E tm o) S S2 l) → evPlain E call tm o S2 = some (v, S2)) := by
  refine ⟨(quiet_any (S2 := S2) o hm hq h).1, fun hl => ?_⟩
  by_cases hat : loadsAt E tm o = none
  · exact (quiet_any o hm hq h).2 fun l hx => by
      have := hl l hx
      rw [hat] at this
      exact this.of
  · obtain ⟨dst, op, ty, pos, after, guard⟩ := o
    cases op with
    | load t x =>
      simp only [evPlain] at h ⊢
      cases hx : E.ev tm x with
      | ptr l off =>
        rw [hx] at h
        have := hl l (by simp [loadsFrom, hx])
        simp only [loadsAt, hx] at this
        exact loadA_like h this
      | _ => exact absurd (by simp [loadsAt, hx]) hat
    | _ => exact absurd rfl hat

theorem newSlice_evo {mu : Bool} {e : TypeId} {sz : Nat} {xs : List AV} (h : newSlice mu e sz xs S = some (v, S')) : Evo S S' := by
  simp only [newSlice, cond_eq_ite] at h
  (repeat' split at h) <;> first
    | (simp at h; done)
    | (simp only [Option.some.injEq, Prod.mk.injEq] at h; obtain ⟨_, rfl⟩ := h; first | exact Evo.newId _ _ | exact Evo.newObj _ _)
theorem appendOsl_evo {sz l off len room : Nat} {ys : List AV} (h : appendOsl sz l off len room ys S = some (v, S')) : Evo S S' := by
  simp only [appendOsl, cond_eq_ite] at h
  (repeat' split at h) <;> first
    | (simp at h; done)
    | (simp only [Option.some.injEq, Prod.mk.injEq] at h; obtain ⟨_, rfl⟩ := h; first | exact Evo.put _ _ _ | exact (Evo.put _ _ _).trans (Evo.newObj _ _))
theorem appendXs_evo {mu : Bool} {e : TypeId} {ti : TypeInfo} {s : AV} {ys : List AV} (h : appendXs mu e ti s ys S = some (v, S')) : Evo S S' := by
  simp only [appendXs, cond_eq_ite] at h
  (repeat' split at h) <;> first
    | (simp at h; done)
    | exact newSlice_evo h
    | exact appendOsl_evo h
    | (simp only [Option.some.injEq, Prod.mk.injEq] at h; obtain ⟨_, rfl⟩ := h; first | exact Evo.refl _ | exact Evo.spend _ _ _)
theorem appendA_evo {mu agg : Bool} {e : TypeId} {ti : TypeInfo} {s x : AV} (h : appendA mu agg e ti s x S = some (v, S')) : Evo S S' := by
  simp only [appendA] at h
  split at h
  · simp at h
  · exact appendXs_evo h

theorem plain_evo (hc : CallEvo call) (o : Oper) (hm : isMk E o = false) (h : evPlain E call tm o S = some (v, S')) : Evo S S' := by
  by_cases hq : loudOp E o.op = false
  · rw [(quiet_any (S2 := S) o hm hq h).1]; exact Evo.refl _
  · obtain ⟨dst, op, ty, pos, after, guard⟩ := o
    cases op with
    | store t x y =>
      simp only [evPlain, storeA, cond_eq_ite] at h
      (repeat' split at h) <;> first
        | (simp at h; done)
        | (simp only [Option.some.injEq, Prod.mk.injEq] at h; obtain ⟨_, rfl⟩ := h; exact Evo.put _ _ _)
    | makeSlice t x y =>
      simp only [evPlain, makeSliceA] at h
      (repeat' split at h) <;> first
        | (simp at h; done)
        | (simp only [Option.some.injEq, Prod.mk.injEq] at h; obtain ⟨_, rfl⟩ := h; exact Evo.newId _ _)
    | mapUpdate t x y z =>
      simp only [evPlain, mapUpdateA, cond_eq_ite] at h
      (repeat' split at h) <;> first
        | (simp at h; done)
        | (simp only [Option.some.injEq, Prod.mk.injEq] at h; obtain ⟨_, rfl⟩ := h; exact Evo.put _ _ _)
    | insert t x y z =>
      simp only [evPlain, mapUpdateA, cond_eq_ite] at h
      (repeat' split at h) <;> first
        | (simp at h; done)
        | (simp only [Option.some.injEq, Prod.mk.injEq] at h; obtain ⟨_, rfl⟩ := h; exact Evo.put _ _ _)
    | next x b =>
      simp only [evPlain, nextA, cond_eq_ite] at h
      (repeat' split at h) <;> first
        | (simp at h; done)
        | (simp only [Option.some.injEq, Prod.mk.injEq] at h; obtain ⟨_, rfl⟩ := h; first | exact Evo.put _ _ _ | exact Evo.refl _)
    | convert t u x =>
      have hsb : isStrBytes E t u = true := by simpa [loudOp] using hq
      simp only [evPlain, convertA, hsb, cond_true] at h
      simp only [cond_eq_ite] at h
      (repeat' split at h) <;> first
        | (simp at h; done)
        | (simp only [Option.some.injEq, Prod.mk.injEq] at h; obtain ⟨_, rfl⟩ := h; exact Evo.newIdX _)
    | call c =>
      obtain ⟨callee, args, ats⟩ := c
      simp only [evPlain, callA] at h
      cases callee with
      | value f =>
        simp only at h
        split at h
        · split at h
          · simp only [Option.map_eq_some_iff, Prod.mk.injEq] at h
            obtain ⟨_, _, _, rfl⟩ := h
            exact Evo.refl _
          · exact hc _ _ _ _ _ h
        · simp at h
      | invoke r m =>
        simp only at h
        (repeat' split at h) <;> first
          | (simp at h; done)
          | exact hc _ _ _ _ _ h
      | builtin b =>
        cases b with
        | append =>
          simp only [builtinA, cond_eq_ite] at h
          (repeat' split at h) <;> first | (simp at h; done) | exact appendA_evo h | exact appendXs_evo h
        | copy =>
          simp only [builtinA, copyA, cond_eq_ite] at h
          (repeat' split at h) <;> first
            | (simp at h; done)
            | (simp only [Option.some.injEq, Prod.mk.injEq] at h; obtain ⟨_, rfl⟩ := h; exact Evo.put _ _ _)
        | clear =>
          simp only [builtinA, clearA, cond_eq_ite] at h
          (repeat' split at h) <;> first
            | (simp at h; done)
            | (simp only [Option.some.injEq, Prod.mk.injEq] at h; obtain ⟨_, rfl⟩ := h; exact Evo.put _ _ _)
        | delete =>
          simp only [builtinA, deleteA, cond_eq_ite] at h
          (repeat' split at h) <;> first
            | (simp at h; done)
            | (simp only [Option.some.injEq, Prod.mk.injEq] at h; obtain ⟨_, rfl⟩ := h; exact Evo.put _ _ _)
        | unsafeSliceData =>
          simp only [builtinA, cond_eq_ite] at h
          (repeat' split at h) <;> first
            | (simp at h; done)
            | (simp only [Option.some.injEq, Prod.mk.injEq] at h; obtain ⟨_, rfl⟩ := h; exact Evo.refl _)
        | unsafeString =>
          simp only [builtinA, cond_eq_ite] at h
          (repeat' split at h) <;> first
            | (simp at h; done)
            | (simp only [Option.some.injEq, Prod.mk.injEq] at h; obtain ⟨_, rfl⟩ := h; exact Evo.refl _)
        | cap =>
          simp only [builtinA, cond_eq_ite] at h
          (repeat' split at h) <;> first
            | (simp at h; done)
            | (simp only [Option.some.injEq, Prod.mk.injEq] at h; obtain ⟨_, rfl⟩ := h; exact Evo.refl _)
        | len => exact absurd rfl hq
        | min => exact absurd rfl hq
        | max => exact absurd rfl hq
        | _ => simp [builtinA] at h
    | _ => exact absurd rfl hq

theorem op_evo (hc : CallEvo call) (o : Oper) (h : evOp E call tm o S = some (v, S')) : Evo S S' := by
  simp only [evOp] at h
  cases hm : isMk E o with
  | true =>
    rw [hm] at h
    simp only [cond_true, Option.map_eq_some_iff, Prod.mk.injEq] at h
    obtain ⟨m, _, _, rfl⟩ := h
    exact Evo.bearNext _ _
  | false =>
    rw [hm] at h
    exact plain_evo hc o hm h

theorem seq_evo (hc : CallEvo call) {nt : Nat} {ops : Array Oper} : ∀ (rest : List Oper) (tm tm' : PM AV) (S S' : St), evSeq E call nt ops rest tm S = some (tm', S') → Evo S S'
  | [], tm, tm', S, S', h => by simp [evSeq] at h; rw [h.2]; exact Evo.refl _
  | o :: r, tm, tm', S, S', h => by
    simp only [evSeq] at h
    split at h
    · simp at h
    · split at h
      · exact seq_evo hc r _ _ _ _ h
      · simp at h
    · split at h
      · simp at h
      · rename_i v S1 hev
        split at h
        · exact (op_evo hc o hev).trans (seq_evo hc r _ _ _ _ h)
        · simp at h

/-- What is out of sight. -/
noncomputable def outOf (mk : Nat → Bool) (m : PM Nat) (b0 j : Nat) (S : St) (l : Nat) : Prop := ∃ k, k < j ∧ l = b0 + k ∧ hid mk m j k = true ∧ S.objs.get l ≠ none
theorem maskF_get (mk : Nat → Bool) (m : PM Nat) (b0 j : Nat) (S0 : St) : ∀ (n l : Nat), (maskF mk m b0 j S0 n).get l = if (∃ k, k < n ∧ l = b0 + k ∧ hid mk m j k = true ∧ S0.objs.get l ≠ none) then some .dead else S0.objs.get l
  | 0, l => by simp [maskF]
  | n + 1, l => by
    have ih := maskF_get mk m b0 j S0 n l
    simp only [maskF, cond_eq_ite]
    split
    · rename_i hb
      rw [ih]
      have : (∃ k, k < n + 1 ∧ l = b0 + k ∧ hid mk m j k = true ∧ S0.objs.get l ≠ none) ↔ (∃ k, k < n ∧ l = b0 + k ∧ hid mk m j k = true ∧ S0.objs.get l ≠ none) := by
        constructor
        · rintro ⟨k, h1, h2, h3, h4⟩
          refine ⟨k, ?_, h2, h3, h4⟩
          by_cases hk : k = n
          · subst hk
            rw [h3, ← h2] at hb
            simp at hb
            exact absurd hb h4
          · omega
        · rintro ⟨k, h1, h2⟩
          exact ⟨k, by omega, h2⟩
      simp only [this]
    · rename_i hb
      simp only [Bool.or_eq_true, not_or, Bool.not_eq_true, Bool.not_eq_true', Bool.not_eq_false, Option.isNone_eq_false_iff] at hb
      rw [PM.get_set]
      by_cases hl : l = b0 + n
      · rw [if_pos hl, if_pos]
        refine ⟨n, by omega, hl, hb.1, fun e => ?_⟩
        rw [hl] at e
        have := hb.2
        rw [e] at this; simp at this
      · rw [if_neg hl, ih]
        have : (∃ k, k < n + 1 ∧ l = b0 + k ∧ hid mk m j k = true ∧ S0.objs.get l ≠ none) ↔ (∃ k, k < n ∧ l = b0 + k ∧ hid mk m j k = true ∧ S0.objs.get l ≠ none) := by
          constructor
          · rintro ⟨k, h1, h2, h3⟩
            exact ⟨k, by rcases Nat.lt_or_ge k n with h' | h'; exact h'; exact absurd (show l = b0 + n by omega) hl, h2, h3⟩
          · rintro ⟨k, h1, h2⟩
            exact ⟨k, by omega, h2⟩
        simp only [this]
theorem unmaskF_get (mk : Nat → Bool) (m : PM Nat) (b0 j : Nat) (S0 : St) (os : PM AObj) : ∀ (n l : Nat), (unmaskF mk m b0 j S0 os n).get l = if (∃ k, k < n ∧ l = b0 + k ∧ hid mk m j k = true ∧ S0.objs.get l ≠ none) then S0.objs.get l else os.get l
  | 0, l => by simp [unmaskF]
  | n + 1, l => by
    have ih := unmaskF_get mk m b0 j S0 os n l
    have other : ¬ l = b0 + n → ((∃ k, k < n + 1 ∧ l = b0 + k ∧ hid mk m j k = true ∧ S0.objs.get l ≠ none) ↔ (∃ k, k < n ∧ l = b0 + k ∧ hid mk m j k = true ∧ S0.objs.get l ≠ none)) := fun hl => by
      constructor
      · rintro ⟨k, h1, h2, h3⟩
        exact ⟨k, by rcases Nat.lt_or_ge k n with h' | h'; exact h'; exact absurd (show l = b0 + n by omega) hl, h2, h3⟩
      · rintro ⟨k, h1, h2⟩
        exact ⟨k, by omega, h2⟩
    simp only [unmaskF]
    cases hb : hid mk m j n with
    | false =>
      simp only [Bool.not_false, cond_true]
      rw [ih]
      by_cases hl : l = b0 + n
      · have : ¬ (∃ k, k < n ∧ l = b0 + k ∧ hid mk m j k = true ∧ S0.objs.get l ≠ none) := by rintro ⟨k, h1, h2, _⟩; omega
        have h2 : ¬ (∃ k, k < n + 1 ∧ l = b0 + k ∧ hid mk m j k = true ∧ S0.objs.get l ≠ none) := by
          rintro ⟨k, h1, h2, h3, _⟩
          have : k = n := by omega
          subst this; rw [hb] at h3; cases h3
        rw [if_neg this, if_neg h2]
      · simp only [other hl]
    | true =>
      simp only [Bool.not_true, cond_false]
      cases ho : S0.objs.get (b0 + n) with
      | none =>
        simp only
        rw [ih]
        by_cases hl : l = b0 + n
        · have : ¬ (∃ k, k < n ∧ l = b0 + k ∧ hid mk m j k = true ∧ S0.objs.get l ≠ none) := by rintro ⟨k, h1, h2, _⟩; omega
          have h2 : ¬ (∃ k, k < n + 1 ∧ l = b0 + k ∧ hid mk m j k = true ∧ S0.objs.get l ≠ none) := by
            rintro ⟨k, h1, h2, h3, h4⟩
            rw [hl] at h4
            exact h4 ho
          rw [if_neg this, if_neg h2]
        · simp only [other hl]
      | some o =>
        simp only
        rw [PM.get_set]
        by_cases hl : l = b0 + n
        · rw [if_pos hl, if_pos ⟨n, by omega, hl, hb, by rw [hl, ho]; simp⟩, hl, ho]
        · rw [if_neg hl, ih]
          simp only [other hl]
theorem masked_out {mk : Nat → Bool} {m : PM Nat} {b0 j l : Nat} (h : outOf mk m b0 j S l) : (S.masked mk m b0 j).objs.get l = some .dead := by
  show (maskF mk m b0 j S j).get l = _
  rw [maskF_get]; exact if_pos h
theorem masked_in {mk : Nat → Bool} {m : PM Nat} {b0 j l : Nat} (h : ¬ outOf mk m b0 j S l) : (S.masked mk m b0 j).objs.get l = S.objs.get l := by
  show (maskF mk m b0 j S j).get l = _
  rw [maskF_get]; exact if_neg h
theorem unmasked_out {mk : Nat → Bool} {m : PM Nat} {b0 j l : Nat} (h : outOf mk m b0 j S l) : (S'.unmasked S mk m b0 j).objs.get l = S.objs.get l := by
  show (unmaskF mk m b0 j S S'.objs j).get l = _
  rw [unmaskF_get]; exact if_pos h
theorem unmasked_in {mk : Nat → Bool} {m : PM Nat} {b0 j l : Nat} (h : ¬ outOf mk m b0 j S l) : (S'.unmasked S mk m b0 j).objs.get l = S'.objs.get l := by
  show (unmaskF mk m b0 j S S'.objs j).get l = _
  rw [unmaskF_get]; exact if_neg h

theorem masked_evo {mk : Nat → Bool} {m : PM Nat} {b0 j : Nat} (h : Evo (S.masked mk m b0 j) S') : Evo S (S'.unmasked S mk m b0 j) := by
  refine ⟨h.no, h.ver, fun l hl he => ?_, ⟨h.idl.nid, h.idl.idk⟩⟩
  obtain ⟨h1, h2⟩ := h.obj l hl he
  refine ⟨?_, h2⟩
  by_cases ho : outOf mk m b0 j S l
  · rw [unmasked_out ho]
  · rw [unmasked_in ho, h1, masked_in ho]

/-- The same but of what is numbered from b0 on. -/
structure EvoTo (b0 : Nat) (S S' : St) : Prop where
  no : S.no ≤ S'.no
  ver : ∀ l, l < b0 → S.ver l ≤ S'.ver l
  obj : ∀ l, l < b0 → S.ver l = S'.ver l → S'.objs.get l = S.objs.get l ∧ S'.shp.get l = S.shp.get l
  idl : Idl S S'
theorem EvoTo.refl (b0 : Nat) (S : St) : EvoTo b0 S S := ⟨Nat.le_refl _, fun _ _ => Nat.le_refl _, fun _ _ _ => ⟨rfl, rfl⟩, Idl.refl _⟩
theorem EvoTo.trans {b0 : Nat} {A B D : St} (h : EvoTo b0 A B) (k : EvoTo b0 B D) : EvoTo b0 A D :=
  ⟨Nat.le_trans h.no k.no, fun l hl => Nat.le_trans (h.ver l hl) (k.ver l hl), fun l hl he => by
    have h1 := h.ver l hl
    have h2 := k.ver l hl
    obtain ⟨a1, a2⟩ := k.obj l hl (by omega)
    obtain ⟨b1, b2⟩ := h.obj l hl (by omega)
    exact ⟨a1.trans b1, a2.trans b2⟩, h.idl.trans k.idl⟩
theorem Evo.to {b0 : Nat} (h : Evo S S') (hb : b0 ≤ S.no) : EvoTo b0 S S' := ⟨h.no, fun l hl => h.ver l (by omega), fun l hl => h.obj l (by omega), h.idl⟩
theorem EvoTo.bear (b0 n : Nat) (hn : b0 ≤ n) (S : St) (m : Mk) : EvoTo b0 S (S.bear n m) := by
  refine ⟨Nat.le_refl _, fun _ _ => Nat.le_refl _, fun l hl _ => ⟨?_, ?_⟩, ⟨Nat.le_refl _, fun _ => ⟨rfl, rfl⟩⟩⟩
  · simp only [St.bear, PM.get_set]; rw [if_neg (by omega)]
  · simp only [St.bear]
    split
    · rw [PM.get_set, if_neg (by omega)]
    · rfl

theorem masked_evo' {mk : Nat → Bool} {m : PM Nat} {b0 j : Nat} (h : Evo (S.masked mk m b0 j) S') : Evo S (S'.unmasked S mk m b0 j) := masked_evo h
theorem drawGo_evo (hc : CallEvo call) {nt : Nat} {ops : Array Oper} {m : PM Nat} {b0 : Nat} : ∀ (rest : List Oper) (i : Nat) (tm tm' : PM AV) (S S' : St) (hi : List (Nat × St × St)) (ls : List (Nat × Nat × Option (TypeId × Nat))), b0 ≤ S.no →
    evDrawGo E call nt ops m b0 i rest tm S = some (tm', S', hi, ls) → EvoTo b0 S S'
  | [], i, tm, tm', S, S', hi, ls, hb, h => by simp [evDrawGo] at h; rw [h.2.1]; exact EvoTo.refl _ _
  | o :: r, i, tm, tm', S, S', hi, ls, hb, h => by
    simp only [evDrawGo] at h
    split at h
    · simp at h
    · split at h
      · exact drawGo_evo hc r _ _ _ _ _ _ _ hb h
      · simp at h
    · cases hm : isMk E o with
      | true =>
        simp only [hm, cond_true] at h
        split at h
        · simp at h
        · split at h
          · exact (EvoTo.bear b0 (b0 + i) (by omega) _ _).trans (drawGo_evo hc r _ _ _ _ _ _ _ hb h)
          · simp at h
      | false =>
        simp only [hm, cond_false] at h
        cases hq : loudOp E o.op with
        | true =>
          simp only [hq, cond_true] at h
          split at h
          · simp at h
          · rename_i v S1 hev
            split at h
            · split at h
              · rename_i hgo
                simp only [Option.some.injEq, Prod.mk.injEq] at h
                obtain ⟨_, rfl, _⟩ := h
                have he := masked_evo (plain_evo hc o hm hev)
                exact (he.to hb).trans (drawGo_evo hc r _ _ _ _ _ _ _ (Nat.le_trans hb he.no) hgo)
              · simp at h
            · simp at h
        | false =>
          simp only [hq, cond_false] at h
          split at h
          · simp at h
          · rename_i v S1 hev
            split at h
            · split at h
              · rename_i hgo
                simp only [Option.some.injEq, Prod.mk.injEq] at h
                obtain ⟨_, rfl, _⟩ := h
                have he := plain_evo hc o hm hev
                exact (he.to hb).trans (drawGo_evo hc r _ _ _ _ _ _ _ (Nat.le_trans hb he.no) hgo)
              · simp at h
            · simp at h

theorem draw_evo (hc : CallEvo call) {nt : Nat} {ops : Array Oper} {tm tm' : PM AV} (h : evDraw E call nt ops tm S = some (tm', S')) : Evo S S' := by
  simp only [evDraw, cond_eq_ite] at h
  split at h
  · split at h
    · rename_i hgo
      split at h
      · simp only [Option.some.injEq, Prod.mk.injEq] at h
        obtain ⟨_, rfl⟩ := h
        have := drawGo_evo hc _ _ _ _ _ _ _ _ (Nat.le_add_right _ _) hgo
        exact ⟨Nat.le_trans (Nat.le_add_right _ _) this.no, this.ver, this.obj, ⟨this.idl.nid, this.idl.idk⟩⟩
      · simp at h
    · simp at h
  · simp at h

noncomputable def MEvo (M : Code → Option Run) : Prop := ∀ c r, M c = some r → ∀ tm tm' S S' o, r tm S = some (o, tm', S') → Evo S S'
theorem code_evo {M : Code → Option Run} (hc : CallEvo call) (hM : MEvo M) {lf nt : Nat} : ∀ (c : Code) (tm tm' : PM AV) (S S' : St) (o : Out), evC M E call lf nt c tm S = some (o, tm', S') → Evo S S' := by
  intro c
  induction c with
  | region id ops draw =>
    intro tm tm' S S' o h
    cases draw with
    | false =>
      simp only [evC] at h
      split at h
      · rename_i h1
        simp only [Option.some.injEq, Prod.mk.injEq] at h
        obtain ⟨_, _, rfl⟩ := h
        exact seq_evo hc _ _ _ _ _ h1
      · simp at h
    | true =>
      simp only [evC] at h
      split at h
      · rename_i h1
        simp only [Option.some.injEq, Prod.mk.injEq] at h
        obtain ⟨_, _, rfl⟩ := h
        exact draw_evo hc h1
      · simp at h
  | seq x y ihx ihy =>
    intro tm tm' S S' o h
    simp only [evC] at h
    split at h
    · rename_i r hr
      exact hM _ _ hr _ _ _ _ _ h
    split at h
    · rename_i h1
      exact (ihx _ _ _ _ _ h1).trans (ihy _ _ _ _ _ h)
    · exact ihx _ _ _ _ _ h
  | cond c x y ihx ihy =>
    intro tm tm' S S' o h
    simp only [evC] at h
    split at h
    · exact ihx _ _ _ _ _ h
    · exact ihy _ _ _ _ _ h
    · simp at h
  | block id c ih =>
    intro tm tm' S S' o h
    simp only [evC, cond_eq_ite] at h
    split at h
    · rename_i h1
      have := ih _ _ _ _ _ h1
      split at h <;> (simp only [Option.some.injEq, Prod.mk.injEq] at h; obtain ⟨_, _, rfl⟩ := h; exact this)
    · exact ih _ _ _ _ _ h
  | loop c ih =>
    intro tm tm' S S' o h
    simp only [evC] at h
    generalize lf = k at h ih
    have key : ∀ (n : Nat) (tm tm' : PM AV) (S S' : St) (o : Out), iter (evC M E call k nt c) n tm S = some (o, tm', S') → Evo S S' := by
      intro n
      induction n with
      | zero => intro tm tm' S S' o h; simp [iter] at h
      | succ n ihn =>
        intro tm tm' S S' o h
        simp only [iter] at h
        split at h
        · simp at h
        · rename_i h1
          exact (ih _ _ _ _ _ h1).trans (ihn _ _ _ _ _ h)
        · rename_i h1
          simp only [Option.some.injEq, Prod.mk.injEq] at h
          obtain ⟨_, _, rfl⟩ := h
          exact ih _ _ _ _ _ h1
        · rename_i h1
          simp only [Option.some.injEq, Prod.mk.injEq] at h
          obtain ⟨_, _, rfl⟩ := h
          exact ih _ _ _ _ _ h1
    exact key _ _ _ _ _ _ h
  | scope c ih => intro tm tm' S S' o h; simp only [evC] at h; exact ih _ _ _ _ _ h
  | _ => intro tm tm' S S' o h; simp [evC] at h; try (rw [h.2.2]; exact Evo.refl _)

theorem round_evo (hc : CallEvo call) {nt : Nat} {m : MapLoop} {run : Run} (hr : ∀ tm tm' S S' o, run tm S = some (o, tm', S') → Evo S S') {k : Value} {x : AV} {tm tm' : PM AV} {S S' : St} {o : Out}
    (h : roundA E call nt m run k x tm S = some (o, tm', S')) : Evo S S' := by
  unfold roundA at h
  split at h
  · cases h
  · split at h
    · cases h
    · rename_i h1
      split at h
      · split at h
        · cases h
        · split at h
          · cases h
          · rename_i h2
            exact ((seq_evo hc _ _ _ _ _ h1).trans (seq_evo hc _ _ _ _ _ h2)).trans (hr _ _ _ _ _ h)
      · cases h
theorem last_evo (hc : CallEvo call) {nt : Nat} {m : MapLoop} {tm tm' : PM AV} {S S' : St} {o : Out} (h : lastA E call nt m tm S = some (o, tm', S')) : Evo S S' := by
  unfold lastA at h
  split at h
  · cases h
  · split at h
    · cases h
    · rename_i h1
      split at h
      · simp only [Option.some.injEq, Prod.mk.injEq] at h
        obtain ⟨_, _, rfl⟩ := h
        exact seq_evo hc _ _ _ _ _ h1
      · cases h
theorem mac_evo (hc : CallEvo call) {nt : Nat} {m : MapLoop} {run : Run} {tm tm' : PM AV} {S S' : St} {o : Out} (h : macA E call nt m run tm S = some (o, tm', S')) : Evo S S' := by
  unfold macA at h
  split at h
  · cases h
  · rename_i tm1 S1 h1
    have e1 := seq_evo hc _ _ _ _ _ h1
    split at h
    · split at h
      · simp only [cond_eq_ite] at h
        split at h
        · cases h
        · split at h
          · split at h
            · exact (e1.trans (Evo.newRaw _ _)).trans (last_evo hc h)
            · cases h
          · split at h
            · exact (e1.trans (Evo.newRaw _ _)).trans (last_evo hc h)
            · split at h
              · split at h
                · split at h
                  · split at h
                    · cases h
                    · split at h
                      · exact ((e1.trans (Evo.newRaw _ _)).trans (Evo.put _ _ _)).trans (last_evo hc h)
                      · cases h
                  · cases h
                · cases h
              · cases h
      · cases h
    · cases h
theorem mac0_evo : MEvo mac0 := fun c r h => by simp [mac0] at h
theorem mac1_evo (hc : CallEvo call) (lf nt : Nat) : MEvo (mac1 E call lf nt) := by
  intro c r h
  unfold mac1 at h
  split at h
  · simp only [Option.some.injEq] at h
    subst h
    exact fun _ _ _ _ _ h => mac_evo hc h
  · cases h

theorem evF_evo (hx : ∀ f g, E.X f = some g → ∀ args S r S', g args S = some (r, S') → Evo S S') (lf : Nat) : ∀ n, CallEvo (evF E lf n) := by
  intro n
  induction n with
  | zero => intro g args S r S' h; simp [evF] at h
  | succ n ih =>
    intro g args S r S' h
    simp only [evF, cond_eq_ite] at h
    split at h
    · simp at h
    · split at h
      · rename_i g' hg
        exact hx _ _ hg _ _ _ _ h
      · split at h
        · simp at h
        · split at h
          · split at h
            · simp at h
            · rename_i h1
              simp only [Option.map_eq_some_iff, Prod.mk.injEq] at h
              obtain ⟨_, _, _, rfl⟩ := h
              exact code_evo ih (mac1_evo ih _ _) _ _ _ _ _ _ h1
            · simp at h
          · simp at h

end
end Go.Abs
end
