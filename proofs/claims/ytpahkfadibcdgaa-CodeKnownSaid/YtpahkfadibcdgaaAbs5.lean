/-
  The evaluator's operations stand to the model's: each kind of operation.
-/
import Derived.Test.YtpahkfadibcdgaaAbs4
import Derived.Laws.BytesArg
namespace Go.Abs
open Go.RowKit

theorem run_und {E : Env} (ok : E.Ok) {t : TypeId} {d : TypeDesc} (h : E.und t = some d) (w : World) : (underlying t).run E.P w = .ok d w := run_underlying (ok.und t d h) w
theorem run_size {E : Env} (ok : E.Ok) {t : TypeId} {i : TypeInfo} (h : E.inf t = some i) (w : World) : (sizeOf t).run E.P w = .ok i.size w := by
  simp [sizeOf, typeInfo, ok.inf t i h]
theorem run_zero {E : Env} (ok : E.Ok) {t : TypeId} {i : TypeInfo} {z : Value} (h : E.inf t = some i) (hz : i.zero = some z) (w : World) : (zeroValue t).run E.P w = .ok z w := by
  simp [zeroValue, typeInfo, ok.inf t i h, hz]

section
variable {E : Env} {C : Ctx} {S S' : St} {w : World} {tm : PM AV} {a : Act} {v : AV}

theorem good_newObj (hw : WR E C S w) {cs : List AV} {c : Array Value} {T : TypeId} (hl : LR C w cs c.toList) {r : Sem Next}
    (hr : r.run E.P w = .ok (.value (.pointer (some ⟨w.heap.size, 0, none⟩))) (w.alloc (.cells c T))) : Good E C w r (.ptr S.no 0) (S.newObj cs) := by
  refine .inl ⟨_, C.newObj w, _, hr, hw.newObj T hl, Ext.newObj hw _, ?_⟩
  have h1 : (C.newObj w).mu S.no = w.heap.size := by simp [Ctx.newObj, hw.no]
  rw [← h1]
  exact .ptr _ _ (by simp [Ctx.newObj, hw.no])

theorem good_alloc (ok : E.Ok) (hw : WR E C S w) {e : TypeId} {i : TypeInfo} {z : Value} (hi : E.inf e = some i) (hz : i.zero = some z) :
    Good E C w (do pure (.value (← Instr.alloc e true (.tuple #[])))) (.ptr S.no 0) (S.newObj (z.cells.toList.map .sc)) := by
  refine good_newObj hw (LR.scs _) (T := e) (run_v ?_)
  simp [Instr.alloc, run_zero ok hi hz, newVar, newRow]

theorem good_box (hw : WR E C S w) {e : TypeId} {x : AV} {u : Value} {cs : List AV} (hx : VR C w x u) (hc : cellsOf x = some cs) :
    Good E C w (do pure (.value (← Instr.box e u))) (.ptr S.no 0) (S.newObj cs) := by
  refine good_newObj hw (cellsOf_rel hx hc) (T := e) (run_v ?_)
  simp [Instr.box, newVar, newRow]

theorem obj_inv {l : Nat} {cs : List AV} (h : S.obj l = some cs) : S.objs.get l = some (.cells cs) := by
  unfold St.obj at h
  split at h
  · rename_i x hx; simp at h; subst h; exact hx
  · simp at h
theorem obj_seg (hw : WR E C S w) {l : Nat} {cs : List AV} (hl : l < C.no) (h : S.obj l = some cs) : Seg C w (C.mu l) 0 cs := by
  have hobj := hw.objs l hl
  rw [obj_inv h] at hobj
  obtain ⟨c, T, fz, hh, hlr, hfz⟩ := hobj
  exact ⟨c.toList, hlr, fun j x hx => by rw [Nat.zero_add, cell_block hh]; simpa using hx⟩

theorem good_load (ok : E.Ok) (hw : WR E C S w) {t : TypeId} {x : AV} {u : Value} (hx : VR C w x u)
    (h : loadA E t x S = some (v, S')) : Good E C w (do pure (.value (← Instr.loadAt t u))) v S' := by
  unfold loadA at h
  cases x with
  | ptr l off =>
    cases hx with
    | ptr _ _ hl =>
      cases ho : S.obj l with
      | none => simp [ho] at h
      | some cs =>
        simp only [ho, Option.map_eq_some_iff, Prod.mk.injEq] at h
        obtain ⟨v', h1, rfl, rfl⟩ := h
        obtain ⟨y, k1, k2⟩ := load_cells ok h1 (obj_seg hw hl ho)
        rw [Nat.zero_add] at k1
        exact Good.val hw (run_v (by simpa [Instr.loadAt, Instr.sureAddr] using k1)) k2
  | eptr cs off =>
    obtain ⟨b, o, rfl, hb, hf, ht, hs⟩ := hx.eptr_inv
    simp only [Option.map_eq_some_iff, Prod.mk.injEq] at h
    obtain ⟨v', h1, rfl, rfl⟩ := h
    obtain ⟨y, k1, k2⟩ := load_cells ok h1 hs
    exact Good.val hw (run_v (by simpa [Instr.loadAt, Instr.sureAddr] using k1)) k2
  | _ => simp at h

theorem good_store (ok : E.Ok) (hw : WR E C S w) {t : TypeId} {x y : AV} {ux uy : Value} (hx : VR C w x ux) (hy : VR C w y uy)
    (h : storeA E t x y S = some (v, S')) : Good E C w (do Instr.storeAt t ux uy; pure .skip) v S' := by
  unfold storeA at h
  cases x with
  | ptr l off =>
    cases hx with
    | ptr _ _ hl =>
      cases hc : cellsOf y with
      | none => simp [hc] at h
      | some vs => cases hi : E.inf t with
        | none => simp [hc, hi] at h
        | some i => cases ho : S.obj l with
          | none => simp [hc, hi, ho] at h
          | some cs =>
            simp only [hc, hi, ho] at h
            cases hb : (Nat.beq vs.length i.size && Nat.ble (off + vs.length) cs.length && vs.all okCell) with
            | false => rw [hb] at h; simp at h
            | true =>
              rw [hb] at h
              simp only [cond_true, Option.some.injEq, Prod.mk.injEq] at h
              obtain ⟨rfl, rfl⟩ := h
              simp only [Bool.and_eq_true] at hb
              obtain ⟨⟨h1, h2⟩, h3⟩ := hb
              obtain ⟨w', k1, k2, k3⟩ := store_cells ok hw hi hl ho hy hc (Nat.eq_of_beq_eq_true h1) (Nat.le_of_ble_eq_true h2) h3 (S.wr.set l (S.ver l + 1))
              exact .inr (.inl ⟨C, w', by rw [Sem.run_bind, k1]; rfl, rfl, k2, k3⟩)
  | _ => simp at h

theorem places_run (ok : E.Ok) : ∀ (fs : List Field) (pl : List (Nat × Nat)), placesA E fs = some pl →
    (fs.mapM (fun f => do pure (f.offset, ← sizeOf f.type) : Field → Sem (Nat × Nat))).run E.P w = .ok pl w
  | [], pl, h => by simp [placesA] at h; subst h; rfl
  | f :: r, pl, h => by
    simp only [placesA] at h
    split at h
    · rename_i i l hi hl
      simp at h; subst h
      rw [List.mapM_cons]
      simp only [Sem.run_bind, run_size ok hi, Result.andThen_ok, Sem.run_pure, places_run ok r l hl]
    · simp at h

theorem good_build (ok : E.Ok) (hw : WR E C S w) {t : TypeId} {ps : List (Nat × AV)} {us : Array (Nat × Value)} (hp : PR C w ps us.toList)
    (h : buildA E t ps S = some (v, S')) : Good E C w (do pure (.value (← Instr.build t us))) v S' := by
  unfold buildA at h
  split at h
  · rename_i fs i hd hi
    split at h
    · rename_i z pl hz hpl
      simp only [Option.map_eq_some_iff, Prod.mk.injEq] at h
      obtain ⟨cs, h1, rfl, rfl⟩ := h
      obtain ⟨r, k1, k2⟩ := fill_rel hp (LR.scs z.cells.toList) h1
      refine Good.val hw (u := .agg r) (run_v ?_) (LR.agg k2)
      have hm := places_run ok (w := w) fs.toList pl hpl
      have hm2 : (fs.mapM (fun f => do pure (f.offset, ← sizeOf f.type) : Field → Sem (Nat × Nat))).run E.P w = .ok pl.toArray w := by
        rw [Array.mapM_eq_mapM_toList, Sem.run_map, hm]; rfl
      simp only [Instr.build, Sem.run_bind, run_zero ok hi hz, Result.andThen_ok, run_und ok hd, hm2]
      simp [k1]
    · simp at h
  · rename_i n e i hd hi
    split at h
    · rename_i z ie hz hie
      simp only [Option.map_eq_some_iff, Prod.mk.injEq] at h
      obtain ⟨cs, h1, rfl, rfl⟩ := h
      obtain ⟨r, k1, k2⟩ := fill_rel hp (LR.scs z.cells.toList) h1
      refine Good.val hw (u := .agg r) (run_v ?_) (LR.agg k2)
      simp [Instr.build, run_zero ok hi hz, run_und ok hd, run_size ok hie, k1]
    · simp at h
  · simp at h

theorem fillA_length {place : Nat → Option (Nat × Nat)} : ∀ {l : List (Nat × AV)} {cs out : List AV}, fillA place cs l = some out → out.length = cs.length
  | [], cs, out, h => by simp [fillA] at h; subst h; rfl
  | (i, x) :: l, cs, out, h => by
    simp only [fillA] at h
    split at h
    · rename_i off size vs hp hc
      cases hb : (Nat.beq vs.length size && Nat.ble (off + vs.length) cs.length) with
      | false => rw [hb] at h; simp at h
      | true =>
        rw [hb] at h
        simp only [cond_true] at h
        simp only [Bool.and_eq_true] at hb
        rw [fillA_length h, splice_length (Nat.le_of_ble_eq_true hb.2)]
    · simp at h

theorem okCell_cellsOf {x : AV} (h : okCell x = true) : cellsOf x = some [x] := by
  cases x with
  | sc v => cases v <;> simp_all [okCell, cellsOf]
  | _ => simp_all [okCell, cellsOf]

theorem flat_groups (agg : Bool) (sz : Nat) (h1 : agg = true ∨ sz = 1) : ∀ (n : Nat) (cs : List AV), cs.length = n * sz → cs.all okCell = true → flat? sz (groups agg sz n cs) = some cs ∧ (groups agg sz n cs).length = n
  | 0, cs, hl, _ => by
    have : cs = [] := List.eq_nil_of_length_eq_zero (by simpa using hl)
    subst this; simp [groups, flat?]
  | n + 1, cs, hl, hok => by
    have hl' : cs.length = n * sz + sz := by rw [hl, Nat.succ_mul]
    have hd : (cs.drop sz).length = n * sz := by rw [List.length_drop]; omega
    have hall : (cs.drop sz).all okCell = true := List.all_eq_true.2 fun x hx => List.all_eq_true.1 hok x (List.mem_of_mem_drop hx)
    have htk : (cs.take sz).all okCell = true := List.all_eq_true.2 fun x hx => List.all_eq_true.1 hok x (List.mem_of_mem_take hx)
    obtain ⟨ih1, ih2⟩ := flat_groups agg sz h1 n (cs.drop sz) hd hall
    refine ⟨?_, by simp [groups, ih2]⟩
    simp only [groups, flat?, ih1]
    cases agg with
    | true =>
      simp only [cond_true, cellsOf]
      rw [if_pos ⟨by rw [List.length_take]; omega, htk⟩, List.take_append_drop]
    | false =>
      have hs : sz = 1 := by simpa using h1
      subst hs
      match cs, hl' with
      | c :: r, _ =>
        have hc : okCell c = true := List.all_eq_true.1 hok c (by simp)
        simp only [cond_false, List.headD_cons, okCell_cellsOf hc, List.drop_succ_cons, List.drop_zero]
        rw [if_pos ⟨rfl, by simp [hc]⟩]
        rfl

theorem good_newRow (hw : WR E C S w) {sz : Nat} {xs fl : List AV} {c : Array Value} {T : TypeId} {cap : Nat} (hs : 0 < sz) (hfl : flat? sz xs = some fl) (hxl : fl.length = xs.length * sz)
    (hseg : ∃ vs : List Value, LR C w fl vs ∧ ∀ (j : Nat) (u : Value), vs[j]? = some u → c[j]? = some u) (hcap : xs.length ≤ cap) (hsz : cap * sz ≤ c.size) {w1 : World} (hw1 : w1 = w ∨ w1 = w.drew) {r : Sem Next}
    (hr : r.run E.P w = .ok (.value (.slice (some ⟨w.heap.size, 0, none⟩) xs.length cap)) (w1.alloc (.cells c T))) : Good E C w r (.vec S.nid sz xs) S.newId := by
  have base : ∀ w1 : World, WR E C S w1 → w1.heap.size = w.heap.size → (∃ vs : List Value, LR C w1 fl vs ∧ ∀ (j : Nat) (u : Value), vs[j]? = some u → c[j]? = some u) →
      WR E (C.newId ⟨w1.heap.size, 0, xs.length, cap, sz⟩ (xs.length * sz)) S.newId (w1.alloc (.cells c T)) ∧ Ext C w1 (C.newId ⟨w1.heap.size, 0, xs.length, cap, sz⟩ (xs.length * sz)) (w1.alloc (.cells c T)) ∧
      VR (C.newId ⟨w1.heap.size, 0, xs.length, cap, sz⟩ (xs.length * sz)) (w1.alloc (.cells c T)) (.vec S.nid sz xs) (.slice (some ⟨w1.heap.size, 0, none⟩) xs.length cap) := by
    intro w1 hw h1 ⟨vs, hl, hc⟩
    have e := Ext.newRow hw (.cells c T) xs.length cap sz (xs.length * sz)
    refine ⟨hw.newRow T (0, 0) xs.length cap sz hs hcap hsz (.inl rfl), e, VecAt.mk' (fl := fl) ⟨hs, hcap, hfl, by simp, fun l hl => ?_, ?_, ⟨vs, hl.ext e, fun j u hu => ?_⟩, fun _ => ⟨?_, ?_⟩⟩⟩
    · have := (hw.mub l hl).2
      show C.mu l ≠ _; omega
    · simp [Ctx.newId, hxl]
    · rw [Nat.zero_add, cell_block (heap_alloc_at w1 _)]; exact hc j u hu
    · simp [Ctx.newId, hw.nid]
    · simp [Ctx.newId, hw.nid]
  obtain ⟨vs, hl, hc⟩ := hseg
  rcases hw1 with rfl | rfl
  · obtain ⟨k1, k2, k3⟩ := base w1 hw rfl ⟨vs, hl, hc⟩
    exact .inl ⟨_, _, _, hr, k1, k2, k3⟩
  · obtain ⟨k1, k2, k3⟩ := base w.drew hw.drew rfl ⟨vs, hl.ext (Ext.drew C w), hc⟩
    exact .inl ⟨_, _, _, hr, k1, (Ext.drew C w).trans k2, k3⟩

theorem good_buildSlice (ok : E.Ok) (hw : WR E C S w) {t : TypeId} {len : Nat} {ps : List (Nat × AV)} {us : Array (Nat × Value)} (hp : PR C w ps us.toList)
    (h : buildSliceA E t len ps S = some (v, S')) : Good E C w (do pure (.value (← Instr.buildSlice t len us))) v S' := by
  unfold buildSliceA at h
  split at h
  · rename_i e hd
    split at h
    · rename_i d i hde hi
      split at h
      · rename_i z hz
        cases hb : (Nat.blt 0 i.size && Nat.beq z.cells.size i.size && Nat.ble (len * i.size) (2 ^ 24) && (isAggD d || Nat.beq i.size 1)) with
        | false => rw [hb] at h; simp at h
        | true =>
          rw [hb] at h
          simp only [cond_true] at h
          simp only [Bool.and_eq_true, Bool.or_eq_true] at hb
          obtain ⟨⟨⟨h1, h2⟩, h3⟩, h4⟩ := hb
          have h1 : 0 < i.size := Nat.le_of_ble_eq_true h1
          have h2 := Nat.eq_of_beq_eq_true h2
          have h3 := Nat.le_of_ble_eq_true h3
          split at h
          · rename_i cs hf
            cases hok : cs.all okCell with
            | false => rw [hok] at h; simp at h
            | true =>
              rw [hok] at h
              simp only [cond_true, Option.some.injEq, Prod.mk.injEq] at h
              obtain ⟨rfl, rfl⟩ := h
              have hinit : LR C w ((List.range (len * i.size)).map fun j => .sc (z.cells.getD (j % i.size) default)) (((Array.range (len * i.size)).map fun j => z.cells.getD (j % i.size) default).toList) := by
                have := LR.scs (C := C) (w := w) ((List.range (len * i.size)).map fun j => z.cells.getD (j % i.size) default)
                simpa [Function.comp_def] using this
              obtain ⟨r, k1, k2⟩ := fill_rel hp hinit hf
              have hcl : cs.length = len * i.size := by rw [fillA_length hf]; simp
              have hrs : r.size = len * i.size := by have := k2.1; simp at this; omega
              obtain ⟨g1, g2⟩ := flat_groups (isAggD d) i.size (h4.imp id Nat.eq_of_beq_eq_true) len cs hcl hok
              refine good_newRow hw h1 g1 (by rw [g2]; exact hcl) ⟨r.toList, k2, fun j u hu => by simpa using hu⟩ (T := e) (cap := len) (by rw [g2]; exact Nat.le_refl _) (by omega) (.inl rfl) (run_v ?_)
              rw [g2]
              have hnb : ¬ (2 ^ 24 < len * i.size) := by omega
              by_cases h0 : len * i.size = 0
              · have k1' : Instr.fill (fun j => some (j * i.size, i.size)) #[] us.toList = some r := by
                  rw [← k1]; congr 1; simp [h0]
                have hr0 : Array.range 0 = #[] := rfl
                simp [Instr.buildSlice, run_und ok hd, run_size ok hi, h0, newRow, hr0, k1']
              · have k1' : Instr.fill (fun j => some (j * i.size, i.size)) (Array.map (fun x => z.cells[x % z.cells.size]!) (Array.range (len * i.size))) us.toList = some r := by
                  rw [← k1]; congr 1
                  apply Array.map_congr_left
                  intro j _
                  rw [h2, Array.getElem!_eq_getD]
                simp [Instr.buildSlice, run_und ok hd, run_size ok hi, hnb, h0, run_zero ok hi hz, newRow, k1']
          · simp at h
      · simp at h
    · simp at h
  · simp at h

end
end Go.Abs
