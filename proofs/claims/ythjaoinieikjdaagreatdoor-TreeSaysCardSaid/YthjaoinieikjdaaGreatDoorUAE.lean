/-
  The evaluator's operations stand to the model's: each kind of operation.
-/
import Derived.Test.YthjaoinieikjdaaGreatDoorUAD
import Derived.Laws.BytesArg
import Derived.Laws.MakeOwn
set_option linter.unusedSimpArgs false
set_option linter.unusedVariables false
namespace Go.Abs
open Go.RowKit
theorem cU {E : Env} (ok : E.Ok) {t : TypeId} {d : TypeDesc} (h : E.und t = some d) (w : World) : (underlying t).run E.P w = .ok d w := run_underlying (ok.und t d h) w
theorem jE {E : Env} (ok : E.Ok) {t : TypeId} {i : TypeInfo} (h : E.inf t = some i) (w : World) : (sizeOf t).run E.P w = .ok i.size w := by
 simp [sizeOf, typeInfo, ok.inf t i h]
theorem tH {E : Env} (ok : E.Ok) {t : TypeId} {i : TypeInfo} {z : Value} (h : E.inf t = some i) (hz : i.zero = some z) (w : World) : (zeroValue t).run E.P w = .ok z w := by
 simp [zeroValue, typeInfo, ok.inf t i h, hz]
section
variable {E : Env} {C : Ctx} {S S' : St} {w : World} {tm : PM AV} {a : Act} {v : AV}
noncomputable def GoodMk (E : Env) (C : Ctx) (S : St) (w : World) (r : Sem Next) (m : Mk) : Prop :=
 ∀ n no', ¬ C.born n → S.no ≤ no' → n < no' → ∃ u C' w', r.run E.P w = .ok (.value u) w' ∧ WR E C' { S.bear n m with no := no' } w' ∧ ExtW C w C' w' ∧ VR C' w' (m.val n) u ∧ C'.no = no' ∧ (∀ l, C'.born l → C.born l ∨ l = n)
theorem GoodMk.row (hw : WR E C S w) {m : Mk} {cs : List AV} (hm : m.obj = .cells cs) {c : Array Value} {T : TypeId} {lim : Nat}
 (hl : LR C w cs (c.toList.take cs.length)) (hlim : cs.length ≤ lim) (hsz : lim ≤ c.size) (hsh : ∀ x, m.sh = some x → x = (T, c.size)) {r : Sem Next} {u : Value}
 (hr : r.run E.P w = .ok (.value u) (w.alloc (.cells c T))) (hv : ∀ n no', VR (C.bear n w.heap.size 0 cs.length lim no') (w.alloc (.cells c T)) (m.val n) u) : GoodMk E C S w r m :=
 fun n no' hn h1 h2 => ⟨u, _, _, hr, hw.bearRow hn h1 h2 m hm hl hlim hsz hsh, ExtW.bear hw hn _ _ _ _, hv n no', rfl, fun _ h => h⟩
theorem xi4 {C : Ctx} {n b len lim no' : Nat} {w : World} : VR (C.bear n b 0 len lim no') w (.ptr n 0) (.pointer (some ⟨b, 0, none⟩)) := by
 have := VR.ptr (C := C.bear n b 0 len lim no') (w := w) n 0 (.inr rfl)
 rwa [Ctx.bear_at.1, Ctx.bear_at.2.1, aM] at this
theorem xR {C : Ctx} {n b sz len cap lim no' : Nat} {w : World} (hs : 0 < sz) (hlc : len ≤ cap) (hcl : cap * sz ≤ lim) : VR (C.bear n b 0 (len * sz) lim no') w (.osl n sz 0 len len) (.slice (some ⟨b, 0, none⟩) len cap) := by
 refine .osl n sz 0 len len _ cap (.inr rfl) hs (aB _) hlc ?_ ?_ (fun _ => ?_)
 · rw [Ctx.bear_at.2.2.1]; omega
 · rw [Ctx.bear_at.2.2.2]; omega
 · rw [Ctx.bear_at.1, Ctx.bear_at.2.1]
theorem kc9 (ok : E.Ok) (hw : WR E C S w) {e : TypeId} {i : TypeInfo} {z : Value} (hi : E.inf e = some i) (hz : i.zero = some z) :
 GoodMk E C S w (do pure (.value (← Instr.alloc e true (.tuple #[])))) ⟨.cells (z.cells.toList.map .sc), some (e, z.cells.size), fun n => .ptr n 0⟩ := by
 refine GoodMk.row hw rfl (c := z.cells) (T := e) (lim := z.cells.size) ?_ (by simp) (aB _) (fun x hx => by simpa using hx.symm) (bQ (u := .pointer (some ⟨w.heap.size, 0, none⟩)) ?_) (fun n no' => xi4)
 · rw [qT (by simp)]; exact LR.scs _
 · simp [Instr.alloc, tH ok hi hz, newVar, newRow]
theorem jc4 (hw : WR E C S w) {e : TypeId} {x : AV} {u : Value} {cs : List AV} (hx : VR C w x u) (hc : cellsOf x = some cs) :
 GoodMk E C S w (do pure (.value (← Instr.box e u))) ⟨.cells cs, some (e, cs.length), fun n => .ptr n 0⟩ := by
 have hcl := yu9 hx hc
 have hlen : cs.length = u.cells.size := by simpa using hcl.1
 refine GoodMk.row hw rfl (c := u.cells) (T := e) (lim := u.cells.size) ?_ (by omega) (aB _) (fun x hx => by simp only [aI] at hx; rw [← hx, hlen]) (bQ (u := .pointer (some ⟨w.heap.size, 0, none⟩)) ?_) (fun n no' => xi4)
 · rw [qT (by simp; omega)]; exact hcl
 · simp [Instr.box, newVar, newRow]
theorem xd3 (hw : WR E C S w) {r : Sem Next} (hr : r.run E.P w = .ok (.value (.map (some w.heap.size))) (w.alloc (.map #[] 0))) :
 GoodMk E C S w r ⟨.mp [], none, .mp⟩ := by
 intro n no' hn h1 h2
 refine ⟨_, _, _, hr, hw.bear hn h1 h2 _ (len := 0) (lim := 0) ⟨#[], 0, rfl, ⟨rfl, by simp, by simp, fun e h => by simp at h, fun k x h => by simp at h⟩, ⟨fun e h => by simp at h, by simp⟩⟩ (fun x hx => by simp at hx), ExtW.bear hw hn _ _ _ _, ?_, rfl, fun _ h => h⟩
 have := VR.mp (C := C.bear n w.heap.size 0 0 0 no') (w := w.alloc (.map #[] 0)) n (.inr rfl)
 rwa [Ctx.bear_at.1] at this
theorem kc5 (ok : E.Ok) (hw : WR E C S w) {t : TypeId} {s : ByteArray} (hd : E.und t = some .string) :
 GoodMk E C S w (do pure (.value (← Instr.range t (.string s)))) ⟨.siter s 0, none, fun n => .ptr n 0⟩ := by
 intro n no' hn h1 h2
 refine ⟨.pointer (some ⟨w.heap.size, 0, none⟩), _, _, bQ (w' := w.alloc (.stringIter s 0)) ?_, hw.bear hn h1 h2 _ (len := 0) (lim := 0) ⟨rfl, ?_⟩ (fun x hx => by simp at hx), ExtW.bear hw hn _ _ _ _, xi4, rfl, fun _ h => h⟩
 · simp [Instr.range, cU ok hd, newObj, Sem.run]
 · exact Ctx.bear_at.2.1
theorem uO (hw : WR E C S w) {l : Nat} {cs : List AV} (hl : C.born l) (h : S.obj l = some cs) : Seg C w (C.mu l) (C.bs l) cs := by
 have hobj := hw.objs l hl
 rw [sB h] at hobj
 obtain ⟨c, T, fz, hh, hlr, _, _, _, hfz⟩ := hobj
 refine ⟨_, hlr, fun j x hx => ?_⟩
 rw [lD hh]
 rw [oR] at hx
 split at hx
 · rw [jM] at hx
   simpa using hx
 · cases hx
theorem kp9 (ok : E.Ok) (hw : WR E C S w) {t : TypeId} {x : AV} {u : Value} (hx : VR C w x u)
 (h : mX E t x S = some (v, S')) : Good E C w (do pure (.value (← Instr.loadAt t u))) v S' := by
 unfold mX at h
 cases x with
 | ptr l off =>
  cases hx with
  | ptr _ _ hl =>
   cases ho : S.obj l with
   | none => simp [ho] at h
   | some cs =>
    simp only [ho, dR, aJ] at h
    obtain ⟨v', h1, rfl, rfl⟩ := h
    obtain ⟨y, k1, k2⟩ := xM ok h1 (uO hw hl ho)
    exact Good.val hw (bQ (by simpa [Instr.loadAt, Instr.sureAddr] using k1)) k2
 | eptr cs off =>
  obtain ⟨b, o, rfl, hb, hf, ht, hs⟩ := hx.eptr_inv
  simp only [dR, aJ] at h
  obtain ⟨v', h1, rfl, rfl⟩ := h
  obtain ⟨y, k1, k2⟩ := xM ok h1 hs
  exact Good.val hw (bQ (by simpa [Instr.loadAt, Instr.sureAddr] using k1)) k2
 | _ => simp at h
theorem kc3 (ok : E.Ok) (hw : WR E C S w) {t : TypeId} {x y : AV} {ux uy : Value} (hx : VR C w x ux) (hy : VR C w y uy)
 (h : rF E t x y S = some (v, S')) : Good E C w (do Instr.storeAt t ux uy; pure .skip) v S' := by
 unfold rF at h
 cases x with
 | ptr l off =>
  cases hx with
  | ptr _ _ hl =>
   cases hc : cellsOf y with
   | none => simp [hc] at h
   | some vs => cases hi : E.inf t with
    | none => simp [hc, hi] at h
    | some i => cases ho : S.obj l with
     | none => simp [hc, hi, ho] at h
     | some cs =>
      simp only [hc, hi, ho] at h
      cases hb : (Nat.beq vs.length i.size && Nat.ble (off + vs.length) cs.length && vs.all cB) with
      | false => rw [hb] at h; simp at h
      | true =>
       rw [hb] at h
       simp only [aH, aI, aJ] at h
       obtain ⟨rfl, rfl⟩ := h
       simp only [aS] at hb
       obtain ⟨⟨h1, h2⟩, h3⟩ := hb
       obtain ⟨w', k1, k2, k3⟩ := wl1 ok hw hi hl ho hy hc (bA h1) (bW h2) h3
       exact .inr (.inl ⟨C, w', by rw [Sem.run_bind, k1]; rfl, rfl, k2, k3⟩)
 | _ => simp at h
theorem xt7 (ok : E.Ok) : ∀ (fs : List Field) (pl : List (Nat × Nat)), vY E fs = some pl →
 (fs.mapM (fun f => do pure (f.offset, ← sizeOf f.type) : Field → Sem (Nat × Nat))).run E.P w = .ok pl w
 | [], pl, h => by simp [vY] at h; subst h; rfl
 | f :: r, pl, h => by
  simp only [vY] at h
  split at h
  · rename_i i l hi hl
    simp at h; subst h
    rw [List.mapM_cons]
    simp only [Sem.run_bind, jE ok hi, Result.andThen_ok, Sem.run_pure, xt7 ok r l hl]
  · simp at h
theorem kc8 (ok : E.Ok) (hw : WR E C S w) {t : TypeId} {ps : List (Nat × AV)} {us : Array (Nat × Value)} (hp : PR C w ps us.toList)
 (h : jG E t ps S = some (v, S')) : Good E C w (do pure (.value (← Instr.build t us))) v S' := by
 unfold jG at h
 split at h
 · rename_i fs i hd hi
   split at h
   · rename_i z pl hz hpl
     simp only [dR, aJ] at h
     obtain ⟨cs, h1, rfl, rfl⟩ := h
     obtain ⟨r, k1, k2⟩ := xz7 hp (LR.scs z.cells.toList) h1
     refine Good.val hw (u := .agg r) (bQ ?_) (LR.agg k2)
     have hm := xt7 ok (w := w) fs.toList pl hpl
     have hm2 : (fs.mapM (fun f => do pure (f.offset, ← sizeOf f.type) : Field → Sem (Nat × Nat))).run E.P w = .ok pl.toArray w := by
      rw [Array.mapM_eq_mapM_toList, Sem.run_map, hm]; rfl
     simp only [Instr.build, Sem.run_bind, tH ok hi hz, Result.andThen_ok, cU ok hd, hm2]
     simp [k1]
   · simp at h
 · rename_i n e i hd hi
   split at h
   · rename_i z ie hz hie
     simp only [dR, aJ] at h
     obtain ⟨cs, h1, rfl, rfl⟩ := h
     obtain ⟨r, k1, k2⟩ := xz7 hp (LR.scs z.cells.toList) h1
     refine Good.val hw (u := .agg r) (bQ ?_) (LR.agg k2)
     simp [Instr.build, tH ok hi hz, cU ok hd, jE ok hie, k1]
   · simp at h
 · simp at h
theorem xd5 {place : Nat → Option (Nat × Nat)} : ∀ {l : List (Nat × AV)} {cs out : List AV}, qN place cs l = some out → out.length = cs.length
 | [], cs, out, h => by simp [qN] at h; subst h; rfl
 | (i, x) :: l, cs, out, h => by
  simp only [qN] at h
  split at h
  · rename_i off size vs hp hc
    cases hb : (Nat.beq vs.length size && Nat.ble (off + vs.length) cs.length) with
    | false => rw [hb] at h; simp at h
    | true =>
     rw [hb] at h
     simp only [aH] at h
     simp only [aS] at hb
     rw [xd5 h, yk9 (bW hb.2)]
  · simp at h
theorem xq9 {x : AV} (h : cB x = true) : cellsOf x = some [x] := by
 cases x with
 | sc v => cases v <;> simp_all [cB, cellsOf]
 | _ => simp_all [cB, cellsOf]
theorem uB (agg : Bool) (sz : Nat) (h1 : agg = true ∨ sz = 1) : ∀ (n : Nat) (cs : List AV), cs.length = n * sz → cs.all cB = true → bR sz (kO agg sz n cs) = some cs ∧ (kO agg sz n cs).length = n
 | 0, cs, hl, _ => by
  have : cs = [] := oO (by simpa using hl)
  subst this; simp [kO, bR]
 | n + 1, cs, hl, hok => by
  have hl' : cs.length = n * sz + sz := by rw [hl, Nat.succ_mul]
  have hd : (cs.drop sz).length = n * sz := by rw [mK]; omega
  have hall : (cs.drop sz).all cB = true := List.all_eq_true.2 fun x hx => List.all_eq_true.1 hok x (List.mem_of_mem_drop hx)
  have htk : (cs.take sz).all cB = true := List.all_eq_true.2 fun x hx => List.all_eq_true.1 hok x (List.mem_of_mem_take hx)
  obtain ⟨ih1, ih2⟩ := uB agg sz h1 n (cs.drop sz) hd hall
  refine ⟨?_, by simp [kO, ih2]⟩
  simp only [kO, bR, ih1]
  cases agg with
  | true =>
   simp only [aH, cellsOf]
   rw [bN ⟨by rw [eW]; omega, htk⟩, List.take_append_drop]
  | false =>
   have hs : sz = 1 := by simpa using h1
   subst hs
   match cs, hl' with
   | c :: r, _ =>
    have hc : cB c = true := List.all_eq_true.1 hok c (by simp)
    simp only [aK, List.headD_cons, xq9 hc, rQ, cJ]
    rw [bN ⟨rfl, by simp [hc]⟩]
    rfl
theorem xn2 (hw : WR E C S w) {sz : Nat} {xs fl : List AV} {c : Array Value} {T : TypeId} {cap : Nat} (hs : 0 < sz) (hfl : bR sz xs = some fl) (hxl : fl.length = xs.length * sz)
 (hseg : ∃ vs : List Value, LR C w fl vs ∧ ∀ (j : Nat) (u : Value), vs[j]? = some u → c[j]? = some u) (hcap : xs.length ≤ cap) (hsz : cap * sz ≤ c.size) {w1 : World} (hw1 : w1 = w ∨ w1 = w.drew) {r : Sem Next}
 (hr : r.run E.P w = .ok (.value (.slice (some ⟨w.heap.size, 0, none⟩) xs.length cap)) (w1.alloc (.cells c T))) : Good E C w r (.vec S.nid sz xs) (S.newId T) := by
 have base : ∀ w1 : World, WR E C S w1 → w1.heap.size = w.heap.size → (∃ vs : List Value, LR C w1 fl vs ∧ ∀ (j : Nat) (u : Value), vs[j]? = some u → c[j]? = some u) →
  WR E (C.newId ⟨w1.heap.size, 0, xs.length, cap, sz⟩ (xs.length * sz)) (S.newId T) (w1.alloc (.cells c T)) ∧ Ext C w1 (C.newId ⟨w1.heap.size, 0, xs.length, cap, sz⟩ (xs.length * sz)) (w1.alloc (.cells c T)) ∧
  VR (C.newId ⟨w1.heap.size, 0, xs.length, cap, sz⟩ (xs.length * sz)) (w1.alloc (.cells c T)) (.vec S.nid sz xs) (.slice (some ⟨w1.heap.size, 0, none⟩) xs.length cap) := by
  intro w1 hw h1 ⟨vs, hl, hc⟩
  have e := Ext.newRow hw (.cells c T) xs.length cap sz (xs.length * sz)
  have h3 := hw.nid1
  refine ⟨hw.newRow T (0, 0) xs.length cap sz hs hcap hsz (.inl rfl) (.inl rfl), e, VecAt.mk' (fl := fl) ⟨hs, hcap, hfl, by simp, fun l hl => ?_, ?_, ⟨vs, hl.ext e, fun j u hu => ?_⟩, fun _ => ⟨?_, ?_⟩, fun h => by omega, fun h => by omega⟩⟩
  · have := (hw.mub l hl).2
    show C.mu l ≠ _; omega
  · simp [Ctx.newId, hxl]
  · rw [aF, lD (sZ w1 _)]; exact hc j u hu
  · simp [Ctx.newId, hw.nid]
  · simp [Ctx.newId, hw.nid]
 obtain ⟨vs, hl, hc⟩ := hseg
 rcases hw1 with rfl | rfl
 · obtain ⟨k1, k2, k3⟩ := base w1 hw rfl ⟨vs, hl, hc⟩
   exact .inl ⟨_, _, _, hr, k1, k2, k3⟩
 · obtain ⟨k1, k2, k3⟩ := base w.drew hw.drew rfl ⟨vs, hl.ext (Ext.drew C w), hc⟩
   exact .inl ⟨_, _, _, hr, k1, (Ext.drew C w).trans k2, k3⟩
theorem xz3 (hw : WR E C S w) {sz : Nat} {xs fl : List AV} {c : Array Value} {T : TypeId} {fz : Nat × Nat} (hs : 0 < sz) (hfl : bR sz xs = some fl) (hxl : fl.length = xs.length * sz)
 (hseg : ∃ vs : List Value, LR C w fl vs ∧ ∀ (j : Nat) (u : Value), vs[j]? = some u → c[j]? = some u) {r : Sem Next}
 (hr : r.run E.P w = .ok (.value (.slice (some ⟨w.heap.size, 0, none⟩) xs.length xs.length)) (w.alloc (.cells c T fz))) : Good E C w r (.vec 1 sz xs) S := by
 have e := Ext.row hw (.cells c T fz) (xs.length * sz)
 obtain ⟨vs, hl, hc⟩ := hseg
 refine .inl ⟨_, _, _, hr, hw.row _ (xs.length * sz), e, VecAt.mk' (fl := fl) ⟨hs, aB _, hfl, by simp, fun l hl => ?_, ?_, ⟨vs, hl.ext e, fun j u hu => ?_⟩, fun h => by omega, fun _ => rfl, fun _ => ⟨hw.bs, fun i h0 hi => ?_⟩⟩⟩
 · have := (hw.mub l hl).2
   show C.mu l ≠ _; omega
 · simp [Ctx.row, hxl]
 · rw [aF, lD (sZ w _)]; exact hc j u hu
 · have := (hw.ids i h0 hi).lt
   show (C.io i).b ≠ _; omega
theorem xp4 (ok : E.Ok) {t : TypeId} {len : Nat} {ps : List (Nat × AV)} {us : Array (Nat × Value)} (hp : PR C w ps us.toList) {agg : Bool} {sz : Nat} {cs : List AV}
 (h : vH E t len ps = some (agg, sz, cs)) : ∃ (r : Array Value) (e : TypeId), LR C w cs r.toList ∧ cs.length = len * sz ∧ 0 < sz ∧ cs.all cB = true ∧ (agg = true ∨ sz = 1) ∧
  (Instr.buildSlice t len us).run E.P w = .ok (.slice (some ⟨w.heap.size, 0, none⟩) len len) (w.alloc (.cells r e)) := by
 unfold vH at h
 split at h
 · rename_i e hd
   split at h
   · rename_i d i hde hi
     split at h
     · rename_i z hz
       cases hb : (Nat.blt 0 i.size && Nat.beq z.cells.size i.size && Nat.ble (len * i.size) (2 ^ 24) && (iV d || Nat.beq i.size 1)) with
       | false => rw [hb] at h; simp at h
       | true =>
        rw [hb] at h
        simp only [aH] at h
        simp only [aS, eF] at hb
        obtain ⟨⟨⟨h1, h2⟩, h3⟩, h4⟩ := hb
        have h1 : 0 < i.size := bW h1
        have h2 := bA h2
        have h3 := bW h3
        split at h
        · rename_i cs' hf
          cases hok : cs'.all cB with
          | false => rw [hok] at h; simp at h
          | true =>
           rw [hok] at h
           simp only [aH, aI, aJ] at h
           obtain ⟨rfl, rfl, rfl⟩ := h
           have hinit : LR C w ((List.range (len * i.size)).map fun j => .sc (z.cells.getD (j % i.size) default)) (((Array.range (len * i.size)).map fun j => z.cells.getD (j % i.size) default).toList) := by
            have := LR.scs (C := C) (w := w) ((List.range (len * i.size)).map fun j => z.cells.getD (j % i.size) default)
            simpa [Function.comp_def] using this
           obtain ⟨r, k1, k2⟩ := xz7 hp hinit hf
           have hcl : cs'.length = len * i.size := by rw [xd5 hf]; simp
           refine ⟨r, e, k2, hcl, h1, hok, h4.imp id bA, ?_⟩
           have hnb : ¬ (2 ^ 24 < len * i.size) := by omega
           by_cases h0 : len * i.size = 0
           · have k1' : Instr.fill (fun j => some (j * i.size, i.size)) #[] us.toList = some r := by
              rw [← k1]; congr 1; simp [h0]
             have hr0 : Array.range 0 = #[] := rfl
             simp [Instr.buildSlice, cU ok hd, jE ok hi, h0, newRow, hr0, k1']
           · have k1' : Instr.fill (fun j => some (j * i.size, i.size)) (Array.map (fun x => z.cells[x % z.cells.size]!) (Array.range (len * i.size))) us.toList = some r := by
              rw [← k1]; congr 1
              apply Array.map_congr_left
              intro j _
              rw [h2, Array.getElem!_eq_getD]
             simp [Instr.buildSlice, cU ok hd, jE ok hi, hnb, h0, tH ok hi hz, newRow, k1']
        · simp at h
     · simp at h
   · simp at h
 · simp at h
theorem xn3 (ok : E.Ok) (hw : WR E C S w) {t : TypeId} {len : Nat} {ps : List (Nat × AV)} {us : Array (Nat × Value)} (hp : PR C w ps us.toList)
 (h : gE E t len ps S = some (v, S')) : Good E C w (do pure (.value (← Instr.buildSlice t len us))) v S' := by
 unfold gE at h
 split at h
 · rename_i agg sz cs hc
   simp only [aI, aJ] at h
   obtain ⟨rfl, rfl⟩ := h
   obtain ⟨r, e, k1, k2, k3, k4, k5, k6⟩ := xp4 ok hp hc
   obtain ⟨g1, g2⟩ := uB agg sz k5 len cs k2 k4
   refine xz3 hw k3 g1 (by rw [g2]; exact k2) ⟨r.toList, k1, fun j u hu => by simpa using hu⟩ (T := e) (fz := (0, 0)) (bQ ?_)
   rw [g2]; exact k6
 · simp at h
theorem xz4 (ok : E.Ok) (hw : WR E C S w) {t : TypeId} {len : Nat} {ps : List (Nat × AV)} {us : Array (Nat × Value)} (hp : PR C w ps us.toList) {agg : Bool} {sz : Nat} {cs : List AV}
 (h : vH E t len ps = some (agg, sz, cs)) : GoodMk E C S w (do pure (.value (← Instr.buildSlice t len us))) ⟨.cells cs, none, fun k => .osl k sz 0 len len⟩ := by
 obtain ⟨r, e, k1, k2, k3, k4, k5, k6⟩ := xp4 ok hp h
 have hrs : r.size = cs.length := by have := k1.1; simp at this; omega
 refine GoodMk.row hw rfl (c := r) (T := e) (lim := cs.length) ?_ (aB _) (by omega) (fun x hx => by simp at hx) (bQ k6) (fun n no' => ?_)
 · rw [qT (by simp; omega)]; exact k1
 · have := xR (C := C) (n := n) (b := w.heap.size) (sz := sz) (len := len) (cap := len) (lim := len * sz) (no' := no') (w := w.alloc (.cells r e)) k3 (aB _) (aB _)
   rw [k2]; exact this
theorem yk6 (z : Value) (n : Nat) : (mS z n).length = n * z.cells.size := by simp [mS]
theorem xi2 (C : Ctx) (w : World) (z : Value) (n : Nat) : LR C w (mS z n) ((List.range (n * z.cells.size)).map fun j => z.cells.getD (j % z.cells.size) default) := by
 have := LR.scs (C := C) (w := w) ((List.range (n * z.cells.size)).map fun j => z.cells.getD (j % z.cells.size) default)
 simpa [mS, Function.comp_def] using this
theorem pA {x : AV} {u : Value} {k : Int} (hx : eU x = some k) (hv : VR C w x u) : ∃ kk, u = .int kk k := by
 unfold eU at hx
 split at hx
 · rename_i kk m
   simp at hx; subst hx
   exact ⟨kk, hv.sc_inv⟩
 · simp at hx
theorem xu4 (ok : E.Ok) {t : TypeId} {x y : AV} {ux uy : Value} (hx : VR C w x ux) (hy : VR C w y uy) {e : TypeId} {agg : Bool} {sz n k : Nat} {cs : List AV}
 (h : vJ E t x y = some (e, agg, sz, n, k, cs)) : ∃ (c : Array Value), LR C w cs (c.toList.take cs.length) ∧ cs.length = n * sz ∧ n ≤ k ∧ k * sz ≤ c.size ∧ 0 < sz ∧ cs.all cB = true ∧ (agg = true ∨ sz = 1) ∧
  (Instr.makeSlice t ux uy).run E.P w = .ok (.slice (some ⟨w.heap.size, 0, none⟩) n k) (w.alloc (.cells c e)) := by
 unfold vJ at h
 split at h
 · rename_i e' n' c' hd hn hc
   split at h
   · rename_i d i hde hi
     split at h
     · rename_i z hz
       simp only [bB] at h
       split at h
       · rename_i hb
         simp only [aI, aJ] at h
         obtain ⟨rfl, rfl, rfl, rfl, rfl, rfl⟩ := h
         simp only [aS, eF, bZ] at hb
         obtain ⟨⟨⟨⟨⟨⟨b1, b2⟩, b3⟩, b4⟩, b5⟩, b6⟩, b7⟩ := hb
         have b3 := bW b3
         have b4 : 0 < i.size := bW b4
         have b5 := bA b5
         obtain ⟨kk1, rfl⟩ := pA hn hx
         obtain ⟨kk2, rfl⟩ := pA hc hy
         have e1 : (c'.toNat : Int) = c' := sW (by omega)
         have e2 : (n'.toNat : Int) = n' := sW b1
         have hle : c'.toNat ≤ 2 ^ 46 := cK (Nat.le_mul_of_pos_right _ (Nat.succ_pos _)) b3
         have hby : c'.toNat * i.bytes ≤ 2 ^ 46 := cK (Nat.mul_le_mul_left _ (nV _)) b3
         have hby2 : (i.bytes : Int) * c' ≤ 281474976710656 := by
          have h1 : ((c'.toNat * i.bytes : Nat) : Int) ≤ 281474976710656 := by
           have : (2 : Nat) ^ 46 ≤ 281474976710656 := by decide
           omega
          rw [Int.natCast_mul, e1, Int.mul_comm] at h1; exact h1
         have hrun := run_make (P := E.P) w t e' i z (ok.und _ _ hd) (ok.inf _ _ hi) hz kk1 kk2 n' c' b1 b2 hby2 (by
          have : (2 : Nat) ^ 46 ≤ 9223372036854775807 := by decide
          omega)
         have hsize : (madeCells z.cells (c'.toNat * i.size)).size = c'.toNat * i.size := size_madeCells _ _
         have hlen : (mS z n'.toNat).length = n'.toNat * i.size := by rw [yk6, b5]
         have hnc : n'.toNat * i.size ≤ c'.toNat * i.size := nR _ (by omega)
         refine ⟨madeCells z.cells (c'.toNat * i.size), ?_, hlen, by omega, by omega, b4, b7, b6.imp id bA, hrun⟩
         have hz := xi2 C w z n'.toNat
         have he : (madeCells z.cells (c'.toNat * i.size)).toList.take (mS z n'.toNat).length = (List.range (n'.toNat * z.cells.size)).map fun j => z.cells.getD (j % z.cells.size) default := by
          apply List.ext_getElem?
          intro j
          rw [hlen, oR]
          by_cases hj : j < n'.toNat * i.size
          · have hj2 : j < c'.toNat * i.size := by omega
            have hj3 : j < n'.toNat * z.cells.size := by rw [b5]; exact hj
            simp [hj, hj2, hj3, madeCells, Array.getElem!_eq_getD]
          · have hj3 : ¬ j < n'.toNat * z.cells.size := by rw [b5]; exact hj
            simp [hj, hj3]
         rw [he]; exact hz
       · simp at h
     · simp at h
   · simp at h
 · simp at h
theorem xr8 (ok : E.Ok) (hw : WR E C S w) {t : TypeId} {x y : AV} {ux uy : Value} (hx : VR C w x ux) (hy : VR C w y uy)
 (h : tD E t x y S = some (v, S')) : Good E C w (do pure (.value (← Instr.makeSlice t ux uy))) v S' := by
 unfold tD at h
 split at h
 · rename_i e agg sz n k cs hc
   simp only [aI, aJ] at h
   obtain ⟨rfl, rfl⟩ := h
   obtain ⟨c, k1, k2, k3, k4, k5, k6, k7, k8⟩ := xu4 ok hx hy hc
   obtain ⟨g1, g2⟩ := uB agg sz k7 n cs k2 k6
   refine xn2 hw k5 g1 (by rw [g2]; exact k2) ⟨_, k1, fun j u hu => ?_⟩ (T := e) (cap := k) (by rw [g2]; exact k3) k4 (.inl rfl) (bQ ?_)
   · rw [oR] at hu
     split at hu
     · simpa using hu
     · cases hu
   · rw [g2]; exact k8
 · simp at h
theorem wg1 (ok : E.Ok) (hw : WR E C S w) {t : TypeId} {x y : AV} {ux uy : Value} (hx : VR C w x ux) (hy : VR C w y uy) {e : TypeId} {agg : Bool} {sz n k : Nat} {cs : List AV}
 (h : vJ E t x y = some (e, agg, sz, n, k, cs)) : GoodMk E C S w (do pure (.value (← Instr.makeSlice t ux uy))) ⟨.cells cs, none, fun k => .osl k sz 0 n n⟩ := by
 obtain ⟨c, k1, k2, k3, k4, k5, k6, k7, k8⟩ := xu4 ok hx hy h
 have hm : n * sz ≤ k * sz := nR _ k3
 refine GoodMk.row hw rfl (c := c) (T := e) (lim := k * sz) k1 (by omega) k4 (fun x hx => by simp at hx) (bQ k8) (fun j no' => ?_)
 have := xR (C := C) (n := j) (b := w.heap.size) (sz := sz) (len := n) (cap := k) (lim := k * sz) (no' := no') (w := w.alloc (.cells c e)) k5 k3 (aB _)
 rw [k2]; exact this
end
end Go.Abs
