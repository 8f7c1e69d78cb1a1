/-
  The evaluator's operations stand to the model's: each kind of operation.
-/
import Derived.Test.YtmmnkemcplgebaaGreatDoorQAC
import Derived.Laws.BytesArg
import Derived.Laws.MakeOwn
section
section
set_option linter.unusedSimpArgs false
set_option linter.unusedVariables false
namespace Go.Abs
open Go.RowKit
theorem run_und {E : Env} (ok : E.Ok) {t : TypeId} {d : TypeDesc} (h : E.und t = some d) (w : World) : (underlying t).run E.P w = .ok d w := run_underlying (ok.und t d h) w
theorem run_size {E : Env} (ok : E.Ok) {t : TypeId} {i : TypeInfo} (h : E.inf t = some i) (w : World) : (sizeOf t).run E.P w = .ok i.size w := by
 simp [sizeOf, typeInfo, ok.inf t i h]
theorem run_zero {E : Env} (ok : E.Ok) {t : TypeId} {i : TypeInfo} {z : Value} (h : E.inf t = some i) (hz : i.zero = some z) (w : World) : (zeroValue t).run E.P w = .ok z w := by
 simp [zeroValue, typeInfo, ok.inf t i h, hz]
section
variable {E : Env} {C : Ctx} {S S' : St} {w : World} {tm : PM AV} {a : Act} {v : AV}
noncomputable def GoodMk (E : Env) (C : Ctx) (S : St) (w : World) (r : Sem Next) (m : Mk) : Prop :=
 ∀ n no', ¬ C.born n → S.no ≤ no' → n < no' → ∃ u C' w', r.run E.P w = .ok (.value u) w' ∧ WR E C' { S.bear n m with no := no' } w' ∧ ExtW C w C' w' ∧ VR C' w' (m.val n) u ∧ C'.no = no' ∧ (∀ l, C'.born l → C.born l ∨ l = n)
theorem GoodMk.row (hw : WR E C S w) {m : Mk} {cs : List AV} (hm : m.obj = .cells cs) {c : Array Value} {T : TypeId} {lim : Nat}
 (hl : LR C w cs (c.toList.take cs.length)) (hlim : cs.length ≤ lim) (hsz : lim ≤ c.size) (hsh : ∀ x, m.sh = some x → x = (T, c.size)) {r : Sem Next} {u : Value}
 (hr : r.run E.P w = .ok (.value u) (w.alloc (.cells c T))) (hv : ∀ n no', VR (C.bear n w.heap.size 0 cs.length lim no') (w.alloc (.cells c T)) (m.val n) u) : GoodMk E C S w r m :=
 fun n no' hn h1 h2 => ⟨u, _, _, hr, hw.bearRow hn h1 h2 m hm hl hlim hsz hsh, ExtW.bear hw hn _ _ _ _, hv n no', rfl, fun _ h => h⟩
theorem vr_newPtr {C : Ctx} {n b len lim no' : Nat} {w : World} : VR (C.bear n b 0 len lim no') w (.ptr n 0) (.pointer (some ⟨b, 0, none⟩)) := by
 have := VR.ptr (C := C.bear n b 0 len lim no') (w := w) n 0 (.inr rfl)
 rwa [Ctx.bear_at.1, Ctx.bear_at.2.1, Nat.add_zero] at this
theorem vr_newOsl {C : Ctx} {n b sz len cap lim no' : Nat} {w : World} (hs : 0 < sz) (hlc : len ≤ cap) (hcl : cap * sz ≤ lim) : VR (C.bear n b 0 (len * sz) lim no') w (.osl n sz 0 len len) (.slice (some ⟨b, 0, none⟩) len cap) := by
 refine .osl n sz 0 len len _ cap (.inr rfl) hs (Nat.le_refl _) hlc ?_ ?_ (fun _ => ?_)
 · rw [Ctx.bear_at.2.2.1]; omega
 · rw [Ctx.bear_at.2.2.2]; omega
 · rw [Ctx.bear_at.1, Ctx.bear_at.2.1]
theorem good_alloc (ok : E.Ok) (hw : WR E C S w) {e : TypeId} {i : TypeInfo} {z : Value} (hi : E.inf e = some i) (hz : i.zero = some z) :
 GoodMk E C S w (do pure (.value (← Instr.alloc e true (.tuple #[])))) ⟨.cells (z.cells.toList.map .sc), some (e, z.cells.size), fun n => .ptr n 0⟩ := by
 refine GoodMk.row hw rfl (c := z.cells) (T := e) (lim := z.cells.size) ?_ (by simp) (Nat.le_refl _) (fun x hx => by simpa using hx.symm) (run_v (u := .pointer (some ⟨w.heap.size, 0, none⟩)) ?_) (fun n no' => vr_newPtr)
 · rw [List.take_of_length_le (by simp)]; exact LR.scs _
 · simp [Instr.alloc, run_zero ok hi hz, newVar, newRow]
theorem good_box (hw : WR E C S w) {e : TypeId} {x : AV} {u : Value} {cs : List AV} (hx : VR C w x u) (hc : cellsOf x = some cs) :
 GoodMk E C S w (do pure (.value (← Instr.box e u))) ⟨.cells cs, some (e, cs.length), fun n => .ptr n 0⟩ := by
 have hcl := cellsOf_rel hx hc
 have hlen : cs.length = u.cells.size := by simpa using hcl.1
 refine GoodMk.row hw rfl (c := u.cells) (T := e) (lim := u.cells.size) ?_ (by omega) (Nat.le_refl _) (fun x hx => by simp only [Option.some.injEq] at hx; rw [← hx, hlen]) (run_v (u := .pointer (some ⟨w.heap.size, 0, none⟩)) ?_) (fun n no' => vr_newPtr)
 · rw [List.take_of_length_le (by simp; omega)]; exact hcl
 · simp [Instr.box, newVar, newRow]
theorem good_makeMap (hw : WR E C S w) {r : Sem Next} (hr : r.run E.P w = .ok (.value (.map (some w.heap.size))) (w.alloc (.map #[] 0))) :
 GoodMk E C S w r ⟨.mp [], none, .mp⟩ := by
 intro n no' hn h1 h2
 refine ⟨_, _, _, hr, hw.bear hn h1 h2 _ (len := 0) (lim := 0) ⟨#[], 0, rfl, ⟨rfl, by simp, by simp, fun e h => by simp at h, fun k x h => by simp at h⟩, ⟨fun e h => by simp at h, by simp⟩⟩ (fun x hx => by simp at hx), ExtW.bear hw hn _ _ _ _, ?_, rfl, fun _ h => h⟩
 have := VR.mp (C := C.bear n w.heap.size 0 0 0 no') (w := w.alloc (.map #[] 0)) n (.inr rfl)
 rwa [Ctx.bear_at.1] at this
theorem good_range (ok : E.Ok) (hw : WR E C S w) {t : TypeId} {s : ByteArray} (hd : E.und t = some .string) :
 GoodMk E C S w (do pure (.value (← Instr.range t (.string s)))) ⟨.siter s 0, none, fun n => .ptr n 0⟩ := by
 intro n no' hn h1 h2
 refine ⟨.pointer (some ⟨w.heap.size, 0, none⟩), _, _, run_v (w' := w.alloc (.stringIter s 0)) ?_, hw.bear hn h1 h2 _ (len := 0) (lim := 0) ⟨rfl, ?_⟩ (fun x hx => by simp at hx), ExtW.bear hw hn _ _ _ _, vr_newPtr, rfl, fun _ h => h⟩
 · simp [Instr.range, run_und ok hd, newObj, Sem.run]
 · exact Ctx.bear_at.2.1
theorem obj_seg (hw : WR E C S w) {l : Nat} {cs : List AV} (hl : C.born l) (h : S.obj l = some cs) : Seg C w (C.mu l) (C.bs l) cs := by
 have hobj := hw.objs l hl
 rw [obj_inv h] at hobj
 obtain ⟨c, T, fz, hh, hlr, _, _, _, hfz⟩ := hobj
 refine ⟨_, hlr, fun j x hx => ?_⟩
 rw [cell_block hh]
 rw [List.getElem?_take] at hx
 split at hx
 · rw [List.getElem?_drop] at hx
   simpa using hx
 · cases hx
theorem good_load (ok : E.Ok) (hw : WR E C S w) {t : TypeId} {x : AV} {u : Value} (hx : VR C w x u)
 (h : loadA E t x S = some (v, S')) : Good E C w (do pure (.value (← Instr.loadAt t u))) v S' := by
 unfold loadA at h
 cases x with
 | ptr l off =>
  cases hx with
  | ptr _ _ hl =>
   cases ho : S.obj l with
   | none => simp [ho] at h
   | some cs =>
    simp only [ho, Option.map_eq_some_iff, Prod.mk.injEq] at h
    obtain ⟨v', h1, rfl, rfl⟩ := h
    obtain ⟨y, k1, k2⟩ := load_cells ok h1 (obj_seg hw hl ho)
    exact Good.val hw (run_v (by simpa [Instr.loadAt, Instr.sureAddr] using k1)) k2
 | eptr cs off =>
  obtain ⟨b, o, rfl, hb, hf, ht, hs⟩ := hx.eptr_inv
  simp only [Option.map_eq_some_iff, Prod.mk.injEq] at h
  obtain ⟨v', h1, rfl, rfl⟩ := h
  obtain ⟨y, k1, k2⟩ := load_cells ok h1 hs
  exact Good.val hw (run_v (by simpa [Instr.loadAt, Instr.sureAddr] using k1)) k2
 | _ => simp at h
theorem good_store (ok : E.Ok) (hw : WR E C S w) {t : TypeId} {x y : AV} {ux uy : Value} (hx : VR C w x ux) (hy : VR C w y uy)
 (h : storeA E t x y S = some (v, S')) : Good E C w (do Instr.storeAt t ux uy; pure .skip) v S' := by
 unfold storeA at h
 cases x with
 | ptr l off =>
  cases hx with
  | ptr _ _ hl =>
   cases hc : cellsOf y with
   | none => simp [hc] at h
   | some vs => cases hi : E.inf t with
    | none => simp [hc, hi] at h
    | some i => cases ho : S.obj l with
     | none => simp [hc, hi, ho] at h
     | some cs =>
      simp only [hc, hi, ho] at h
      cases hb : (Nat.beq vs.length i.size && Nat.ble (off + vs.length) cs.length && vs.all okCell) with
      | false => rw [hb] at h; simp at h
      | true =>
       rw [hb] at h
       simp only [cond_true, Option.some.injEq, Prod.mk.injEq] at h
       obtain ⟨rfl, rfl⟩ := h
       simp only [Bool.and_eq_true] at hb
       obtain ⟨⟨h1, h2⟩, h3⟩ := hb
       obtain ⟨w', k1, k2, k3⟩ := store_cells ok hw hi hl ho hy hc (Nat.eq_of_beq_eq_true h1) (Nat.le_of_ble_eq_true h2) h3
       exact .inr (.inl ⟨C, w', by rw [Sem.run_bind, k1]; rfl, rfl, k2, k3⟩)
 | _ => simp at h
theorem places_run (ok : E.Ok) : ∀ (fs : List Field) (pl : List (Nat × Nat)), placesA E fs = some pl →
 (fs.mapM (fun f => do pure (f.offset, ← sizeOf f.type) : Field → Sem (Nat × Nat))).run E.P w = .ok pl w
 | [], pl, h => by simp [placesA] at h; subst h; rfl
 | f :: r, pl, h => by
  simp only [placesA] at h
  split at h
  · rename_i i l hi hl
    simp at h; subst h
    rw [List.mapM_cons]
    simp only [Sem.run_bind, run_size ok hi, Result.andThen_ok, Sem.run_pure, places_run ok r l hl]
  · simp at h
theorem good_build (ok : E.Ok) (hw : WR E C S w) {t : TypeId} {ps : List (Nat × AV)} {us : Array (Nat × Value)} (hp : PR C w ps us.toList)
 (h : buildA E t ps S = some (v, S')) : Good E C w (do pure (.value (← Instr.build t us))) v S' := by
 unfold buildA at h
 split at h
 · rename_i fs i hd hi
   split at h
   · rename_i z pl hz hpl
     simp only [Option.map_eq_some_iff, Prod.mk.injEq] at h
     obtain ⟨cs, h1, rfl, rfl⟩ := h
     obtain ⟨r, k1, k2⟩ := fill_rel hp (LR.scs z.cells.toList) h1
     refine Good.val hw (u := .agg r) (run_v ?_) (LR.agg k2)
     have hm := places_run ok (w := w) fs.toList pl hpl
     have hm2 : (fs.mapM (fun f => do pure (f.offset, ← sizeOf f.type) : Field → Sem (Nat × Nat))).run E.P w = .ok pl.toArray w := by
      rw [Array.mapM_eq_mapM_toList, Sem.run_map, hm]; rfl
     simp only [Instr.build, Sem.run_bind, run_zero ok hi hz, Result.andThen_ok, run_und ok hd, hm2]
     simp [k1]
   · simp at h
 · rename_i n e i hd hi
   split at h
   · rename_i z ie hz hie
     simp only [Option.map_eq_some_iff, Prod.mk.injEq] at h
     obtain ⟨cs, h1, rfl, rfl⟩ := h
     obtain ⟨r, k1, k2⟩ := fill_rel hp (LR.scs z.cells.toList) h1
     refine Good.val hw (u := .agg r) (run_v ?_) (LR.agg k2)
     simp [Instr.build, run_zero ok hi hz, run_und ok hd, run_size ok hie, k1]
   · simp at h
 · simp at h
theorem fillA_length {place : Nat → Option (Nat × Nat)} : ∀ {l : List (Nat × AV)} {cs out : List AV}, fillA place cs l = some out → out.length = cs.length
 | [], cs, out, h => by simp [fillA] at h; subst h; rfl
 | (i, x) :: l, cs, out, h => by
  simp only [fillA] at h
  split at h
  · rename_i off size vs hp hc
    cases hb : (Nat.beq vs.length size && Nat.ble (off + vs.length) cs.length) with
    | false => rw [hb] at h; simp at h
    | true =>
     rw [hb] at h
     simp only [cond_true] at h
     simp only [Bool.and_eq_true] at hb
     rw [fillA_length h, splice_length (Nat.le_of_ble_eq_true hb.2)]
  · simp at h
theorem okCell_cellsOf {x : AV} (h : okCell x = true) : cellsOf x = some [x] := by
 cases x with
 | sc v => cases v <;> simp_all [okCell, cellsOf]
 | _ => simp_all [okCell, cellsOf]
theorem flat_groups (agg : Bool) (sz : Nat) (h1 : agg = true ∨ sz = 1) : ∀ (n : Nat) (cs : List AV), cs.length = n * sz → cs.all okCell = true → flat? sz (groups agg sz n cs) = some cs ∧ (groups agg sz n cs).length = n
 | 0, cs, hl, _ => by
  have : cs = [] := List.eq_nil_of_length_eq_zero (by simpa using hl)
  subst this; simp [groups, flat?]
 | n + 1, cs, hl, hok => by
  have hl' : cs.length = n * sz + sz := by rw [hl, Nat.succ_mul]
  have hd : (cs.drop sz).length = n * sz := by rw [List.length_drop]; omega
  have hall : (cs.drop sz).all okCell = true := List.all_eq_true.2 fun x hx => List.all_eq_true.1 hok x (List.mem_of_mem_drop hx)
  have htk : (cs.take sz).all okCell = true := List.all_eq_true.2 fun x hx => List.all_eq_true.1 hok x (List.mem_of_mem_take hx)
  obtain ⟨ih1, ih2⟩ := flat_groups agg sz h1 n (cs.drop sz) hd hall
  refine ⟨?_, by simp [groups, ih2]⟩
  simp only [groups, flat?, ih1]
  cases agg with
  | true =>
   simp only [cond_true, cellsOf]
   rw [if_pos ⟨by rw [List.length_take]; omega, htk⟩, List.take_append_drop]
  | false =>
   have hs : sz = 1 := by simpa using h1
   subst hs
   match cs, hl' with
   | c :: r, _ =>
    have hc : okCell c = true := List.all_eq_true.1 hok c (by simp)
    simp only [cond_false, List.headD_cons, okCell_cellsOf hc, List.drop_succ_cons, List.drop_zero]
    rw [if_pos ⟨rfl, by simp [hc]⟩]
    rfl
theorem good_newRow (hw : WR E C S w) {sz : Nat} {xs fl : List AV} {c : Array Value} {T : TypeId} {cap : Nat} (hs : 0 < sz) (hfl : flat? sz xs = some fl) (hxl : fl.length = xs.length * sz)
 (hseg : ∃ vs : List Value, LR C w fl vs ∧ ∀ (j : Nat) (u : Value), vs[j]? = some u → c[j]? = some u) (hcap : xs.length ≤ cap) (hsz : cap * sz ≤ c.size) {w1 : World} (hw1 : w1 = w ∨ w1 = w.drew) {r : Sem Next}
 (hr : r.run E.P w = .ok (.value (.slice (some ⟨w.heap.size, 0, none⟩) xs.length cap)) (w1.alloc (.cells c T))) : Good E C w r (.vec S.nid sz xs) (S.newId T) := by
 have base : ∀ w1 : World, WR E C S w1 → w1.heap.size = w.heap.size → (∃ vs : List Value, LR C w1 fl vs ∧ ∀ (j : Nat) (u : Value), vs[j]? = some u → c[j]? = some u) →
  WR E (C.newId ⟨w1.heap.size, 0, xs.length, cap, sz⟩ (xs.length * sz)) (S.newId T) (w1.alloc (.cells c T)) ∧ Ext C w1 (C.newId ⟨w1.heap.size, 0, xs.length, cap, sz⟩ (xs.length * sz)) (w1.alloc (.cells c T)) ∧
  VR (C.newId ⟨w1.heap.size, 0, xs.length, cap, sz⟩ (xs.length * sz)) (w1.alloc (.cells c T)) (.vec S.nid sz xs) (.slice (some ⟨w1.heap.size, 0, none⟩) xs.length cap) := by
  intro w1 hw h1 ⟨vs, hl, hc⟩
  have e := Ext.newRow hw (.cells c T) xs.length cap sz (xs.length * sz)
  have h3 := hw.nid1
  refine ⟨hw.newRow T (0, 0) xs.length cap sz hs hcap hsz (.inl rfl) (.inl rfl), e, VecAt.mk' (fl := fl) ⟨hs, hcap, hfl, by simp, fun l hl => ?_, ?_, ⟨vs, hl.ext e, fun j u hu => ?_⟩, fun _ => ⟨?_, ?_⟩, fun h => by omega, fun h => by omega⟩⟩
  · have := (hw.mub l hl).2
    show C.mu l ≠ _; omega
  · simp [Ctx.newId, hxl]
  · rw [Nat.zero_add, cell_block (heap_alloc_at w1 _)]; exact hc j u hu
  · simp [Ctx.newId, hw.nid]
  · simp [Ctx.newId, hw.nid]
 obtain ⟨vs, hl, hc⟩ := hseg
 rcases hw1 with rfl | rfl
 · obtain ⟨k1, k2, k3⟩ := base w1 hw rfl ⟨vs, hl, hc⟩
   exact .inl ⟨_, _, _, hr, k1, k2, k3⟩
 · obtain ⟨k1, k2, k3⟩ := base w.drew hw.drew rfl ⟨vs, hl.ext (Ext.drew C w), hc⟩
   exact .inl ⟨_, _, _, hr, k1, (Ext.drew C w).trans k2, k3⟩
theorem good_exactRow (hw : WR E C S w) {sz : Nat} {xs fl : List AV} {c : Array Value} {T : TypeId} {fz : Nat × Nat} (hs : 0 < sz) (hfl : flat? sz xs = some fl) (hxl : fl.length = xs.length * sz)
 (hseg : ∃ vs : List Value, LR C w fl vs ∧ ∀ (j : Nat) (u : Value), vs[j]? = some u → c[j]? = some u) {r : Sem Next}
 (hr : r.run E.P w = .ok (.value (.slice (some ⟨w.heap.size, 0, none⟩) xs.length xs.length)) (w.alloc (.cells c T fz))) : Good E C w r (.vec 1 sz xs) S := by
 have e := Ext.row hw (.cells c T fz) (xs.length * sz)
 obtain ⟨vs, hl, hc⟩ := hseg
 refine .inl ⟨_, _, _, hr, hw.row _ (xs.length * sz), e, VecAt.mk' (fl := fl) ⟨hs, Nat.le_refl _, hfl, by simp, fun l hl => ?_, ?_, ⟨vs, hl.ext e, fun j u hu => ?_⟩, fun h => by omega, fun _ => rfl, fun _ => ⟨hw.bs, fun i h0 hi => ?_⟩⟩⟩
 · have := (hw.mub l hl).2
   show C.mu l ≠ _; omega
 · simp [Ctx.row, hxl]
 · rw [Nat.zero_add, cell_block (heap_alloc_at w _)]; exact hc j u hu
 · have := (hw.ids i h0 hi).lt
   show (C.io i).b ≠ _; omega
theorem build_cells (ok : E.Ok) {t : TypeId} {len : Nat} {ps : List (Nat × AV)} {us : Array (Nat × Value)} (hp : PR C w ps us.toList) {agg : Bool} {sz : Nat} {cs : List AV}
 (h : buildCells E t len ps = some (agg, sz, cs)) : ∃ (r : Array Value) (e : TypeId), LR C w cs r.toList ∧ cs.length = len * sz ∧ 0 < sz ∧ cs.all okCell = true ∧ (agg = true ∨ sz = 1) ∧
  (Instr.buildSlice t len us).run E.P w = .ok (.slice (some ⟨w.heap.size, 0, none⟩) len len) (w.alloc (.cells r e)) := by
 unfold buildCells at h
 split at h
 · rename_i e hd
   split at h
   · rename_i d i hde hi
     split at h
     · rename_i z hz
       cases hb : (Nat.blt 0 i.size && Nat.beq z.cells.size i.size && Nat.ble (len * i.size) (2 ^ 24) && (isAggD d || Nat.beq i.size 1)) with
       | false => rw [hb] at h; simp at h
       | true =>
        rw [hb] at h
        simp only [cond_true] at h
        simp only [Bool.and_eq_true, Bool.or_eq_true] at hb
        obtain ⟨⟨⟨h1, h2⟩, h3⟩, h4⟩ := hb
        have h1 : 0 < i.size := Nat.le_of_ble_eq_true h1
        have h2 := Nat.eq_of_beq_eq_true h2
        have h3 := Nat.le_of_ble_eq_true h3
        split at h
        · rename_i cs' hf
          cases hok : cs'.all okCell with
          | false => rw [hok] at h; simp at h
          | true =>
           rw [hok] at h
           simp only [cond_true, Option.some.injEq, Prod.mk.injEq] at h
           obtain ⟨rfl, rfl, rfl⟩ := h
           have hinit : LR C w ((List.range (len * i.size)).map fun j => .sc (z.cells.getD (j % i.size) default)) (((Array.range (len * i.size)).map fun j => z.cells.getD (j % i.size) default).toList) := by
            have := LR.scs (C := C) (w := w) ((List.range (len * i.size)).map fun j => z.cells.getD (j % i.size) default)
            simpa [Function.comp_def] using this
           obtain ⟨r, k1, k2⟩ := fill_rel hp hinit hf
           have hcl : cs'.length = len * i.size := by rw [fillA_length hf]; simp
           refine ⟨r, e, k2, hcl, h1, hok, h4.imp id Nat.eq_of_beq_eq_true, ?_⟩
           have hnb : ¬ (2 ^ 24 < len * i.size) := by omega
           by_cases h0 : len * i.size = 0
           · have k1' : Instr.fill (fun j => some (j * i.size, i.size)) #[] us.toList = some r := by
              rw [← k1]; congr 1; simp [h0]
             have hr0 : Array.range 0 = #[] := rfl
             simp [Instr.buildSlice, run_und ok hd, run_size ok hi, h0, newRow, hr0, k1']
           · have k1' : Instr.fill (fun j => some (j * i.size, i.size)) (Array.map (fun x => z.cells[x % z.cells.size]!) (Array.range (len * i.size))) us.toList = some r := by
              rw [← k1]; congr 1
              apply Array.map_congr_left
              intro j _
              rw [h2, Array.getElem!_eq_getD]
             simp [Instr.buildSlice, run_und ok hd, run_size ok hi, hnb, h0, run_zero ok hi hz, newRow, k1']
        · simp at h
     · simp at h
   · simp at h
 · simp at h
theorem good_buildSlice (ok : E.Ok) (hw : WR E C S w) {t : TypeId} {len : Nat} {ps : List (Nat × AV)} {us : Array (Nat × Value)} (hp : PR C w ps us.toList)
 (h : buildSliceA E t len ps S = some (v, S')) : Good E C w (do pure (.value (← Instr.buildSlice t len us))) v S' := by
 unfold buildSliceA at h
 split at h
 · rename_i agg sz cs hc
   simp only [Option.some.injEq, Prod.mk.injEq] at h
   obtain ⟨rfl, rfl⟩ := h
   obtain ⟨r, e, k1, k2, k3, k4, k5, k6⟩ := build_cells ok hp hc
   obtain ⟨g1, g2⟩ := flat_groups agg sz k5 len cs k2 k4
   refine good_exactRow hw k3 g1 (by rw [g2]; exact k2) ⟨r.toList, k1, fun j u hu => by simpa using hu⟩ (T := e) (fz := (0, 0)) (run_v ?_)
   rw [g2]; exact k6
 · simp at h
theorem good_buildOsl (ok : E.Ok) (hw : WR E C S w) {t : TypeId} {len : Nat} {ps : List (Nat × AV)} {us : Array (Nat × Value)} (hp : PR C w ps us.toList) {agg : Bool} {sz : Nat} {cs : List AV}
 (h : buildCells E t len ps = some (agg, sz, cs)) : GoodMk E C S w (do pure (.value (← Instr.buildSlice t len us))) ⟨.cells cs, none, fun k => .osl k sz 0 len len⟩ := by
 obtain ⟨r, e, k1, k2, k3, k4, k5, k6⟩ := build_cells ok hp h
 have hrs : r.size = cs.length := by have := k1.1; simp at this; omega
 refine GoodMk.row hw rfl (c := r) (T := e) (lim := cs.length) ?_ (Nat.le_refl _) (by omega) (fun x hx => by simp at hx) (run_v k6) (fun n no' => ?_)
 · rw [List.take_of_length_le (by simp; omega)]; exact k1
 · have := vr_newOsl (C := C) (n := n) (b := w.heap.size) (sz := sz) (len := len) (cap := len) (lim := len * sz) (no' := no') (w := w.alloc (.cells r e)) k3 (Nat.le_refl _) (Nat.le_refl _)
   rw [k2]; exact this
theorem zerosA_length (z : Value) (n : Nat) : (zerosA z n).length = n * z.cells.size := by simp [zerosA]
theorem zeros_rel (C : Ctx) (w : World) (z : Value) (n : Nat) : LR C w (zerosA z n) ((List.range (n * z.cells.size)).map fun j => z.cells.getD (j % z.cells.size) default) := by
 have := LR.scs (C := C) (w := w) ((List.range (n * z.cells.size)).map fun j => z.cells.getD (j % z.cells.size) default)
 simpa [zerosA, Function.comp_def] using this
theorem int_inv' {x : AV} {u : Value} {k : Int} (hx : int? x = some k) (hv : VR C w x u) : ∃ kk, u = .int kk k := by
 unfold int? at hx
 split at hx
 · rename_i kk m
   simp at hx; subst hx
   exact ⟨kk, hv.sc_inv⟩
 · simp at hx
theorem make_cells (ok : E.Ok) {t : TypeId} {x y : AV} {ux uy : Value} (hx : VR C w x ux) (hy : VR C w y uy) {e : TypeId} {agg : Bool} {sz n k : Nat} {cs : List AV}
 (h : makeCells E t x y = some (e, agg, sz, n, k, cs)) : ∃ (c : Array Value), LR C w cs (c.toList.take cs.length) ∧ cs.length = n * sz ∧ n ≤ k ∧ k * sz ≤ c.size ∧ 0 < sz ∧ cs.all okCell = true ∧ (agg = true ∨ sz = 1) ∧
  (Instr.makeSlice t ux uy).run E.P w = .ok (.slice (some ⟨w.heap.size, 0, none⟩) n k) (w.alloc (.cells c e)) := by
 unfold makeCells at h
 split at h
 · rename_i e' n' c' hd hn hc
   split at h
   · rename_i d i hde hi
     split at h
     · rename_i z hz
       simp only [cond_eq_ite] at h
       split at h
       · rename_i hb
         simp only [Option.some.injEq, Prod.mk.injEq] at h
         obtain ⟨rfl, rfl, rfl, rfl, rfl, rfl⟩ := h
         simp only [Bool.and_eq_true, Bool.or_eq_true, decide_eq_true_eq] at hb
         obtain ⟨⟨⟨⟨⟨⟨b1, b2⟩, b3⟩, b4⟩, b5⟩, b6⟩, b7⟩ := hb
         have b3 := Nat.le_of_ble_eq_true b3
         have b4 : 0 < i.size := Nat.le_of_ble_eq_true b4
         have b5 := Nat.eq_of_beq_eq_true b5
         obtain ⟨kk1, rfl⟩ := int_inv' hn hx
         obtain ⟨kk2, rfl⟩ := int_inv' hc hy
         have e1 : (c'.toNat : Int) = c' := Int.toNat_of_nonneg (by omega)
         have e2 : (n'.toNat : Int) = n' := Int.toNat_of_nonneg b1
         have hle : c'.toNat ≤ 2 ^ 46 := Nat.le_trans (Nat.le_mul_of_pos_right _ (Nat.succ_pos _)) b3
         have hby : c'.toNat * i.bytes ≤ 2 ^ 46 := Nat.le_trans (Nat.mul_le_mul_left _ (Nat.le_succ _)) b3
         have hby2 : (i.bytes : Int) * c' ≤ 281474976710656 := by
          have h1 : ((c'.toNat * i.bytes : Nat) : Int) ≤ 281474976710656 := by
           have : (2 : Nat) ^ 46 ≤ 281474976710656 := by decide
           omega
          rw [Int.natCast_mul, e1, Int.mul_comm] at h1; exact h1
         have hrun := run_make (P := E.P) w t e' i z (ok.und _ _ hd) (ok.inf _ _ hi) hz kk1 kk2 n' c' b1 b2 hby2 (by
          have : (2 : Nat) ^ 46 ≤ 9223372036854775807 := by decide
          omega)
         have hsize : (madeCells z.cells (c'.toNat * i.size)).size = c'.toNat * i.size := size_madeCells _ _
         have hlen : (zerosA z n'.toNat).length = n'.toNat * i.size := by rw [zerosA_length, b5]
         have hnc : n'.toNat * i.size ≤ c'.toNat * i.size := Nat.mul_le_mul_right _ (by omega)
         refine ⟨madeCells z.cells (c'.toNat * i.size), ?_, hlen, by omega, by omega, b4, b7, b6.imp id Nat.eq_of_beq_eq_true, hrun⟩
         have hz := zeros_rel C w z n'.toNat
         have he : (madeCells z.cells (c'.toNat * i.size)).toList.take (zerosA z n'.toNat).length = (List.range (n'.toNat * z.cells.size)).map fun j => z.cells.getD (j % z.cells.size) default := by
          apply List.ext_getElem?
          intro j
          rw [hlen, List.getElem?_take]
          by_cases hj : j < n'.toNat * i.size
          · have hj2 : j < c'.toNat * i.size := by omega
            have hj3 : j < n'.toNat * z.cells.size := by rw [b5]; exact hj
            simp [hj, hj2, hj3, madeCells, Array.getElem!_eq_getD]
          · have hj3 : ¬ j < n'.toNat * z.cells.size := by rw [b5]; exact hj
            simp [hj, hj3]
         rw [he]; exact hz
       · simp at h
     · simp at h
   · simp at h
 · simp at h
theorem good_makeSlice (ok : E.Ok) (hw : WR E C S w) {t : TypeId} {x y : AV} {ux uy : Value} (hx : VR C w x ux) (hy : VR C w y uy)
 (h : makeSliceA E t x y S = some (v, S')) : Good E C w (do pure (.value (← Instr.makeSlice t ux uy))) v S' := by
 unfold makeSliceA at h
 split at h
 · rename_i e agg sz n k cs hc
   simp only [Option.some.injEq, Prod.mk.injEq] at h
   obtain ⟨rfl, rfl⟩ := h
   obtain ⟨c, k1, k2, k3, k4, k5, k6, k7, k8⟩ := make_cells ok hx hy hc
   obtain ⟨g1, g2⟩ := flat_groups agg sz k7 n cs k2 k6
   refine good_newRow hw k5 g1 (by rw [g2]; exact k2) ⟨_, k1, fun j u hu => ?_⟩ (T := e) (cap := k) (by rw [g2]; exact k3) k4 (.inl rfl) (run_v ?_)
   · rw [List.getElem?_take] at hu
     split at hu
     · simpa using hu
     · cases hu
   · rw [g2]; exact k8
 · simp at h
theorem good_makeOsl (ok : E.Ok) (hw : WR E C S w) {t : TypeId} {x y : AV} {ux uy : Value} (hx : VR C w x ux) (hy : VR C w y uy) {e : TypeId} {agg : Bool} {sz n k : Nat} {cs : List AV}
 (h : makeCells E t x y = some (e, agg, sz, n, k, cs)) : GoodMk E C S w (do pure (.value (← Instr.makeSlice t ux uy))) ⟨.cells cs, none, fun k => .osl k sz 0 n n⟩ := by
 obtain ⟨c, k1, k2, k3, k4, k5, k6, k7, k8⟩ := make_cells ok hx hy h
 have hm : n * sz ≤ k * sz := Nat.mul_le_mul_right _ k3
 refine GoodMk.row hw rfl (c := c) (T := e) (lim := k * sz) k1 (by omega) k4 (fun x hx => by simp at hx) (run_v k8) (fun j no' => ?_)
 have := vr_newOsl (C := C) (n := j) (b := w.heap.size) (sz := sz) (len := n) (cap := k) (lim := k * sz) (no' := no') (w := w.alloc (.cells c e)) k5 k3 (Nat.le_refl _)
 rw [k2]; exact this
end
end Go.Abs
end
end
