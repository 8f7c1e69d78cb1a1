/-
  Every operation of the evaluator stands to the model's.
-/
import Derived.Test.YthjaoinieikjdaaGreatDoorUAI
import Derived.Lib.OthersKept
set_option linter.unusedSimpArgs false
set_option linter.unusedVariables false
namespace Go.Abs
open Go.RowKit Go.MapKept
theorem rD {C : Ctx} {w : World} {x : AV} {u : Value} {k : Int} (hx : eU x = some k) (hv : VR C w x u) : ∃ kk, u = .int kk k := by
 unfold eU at hx
 split at hx
 · rename_i kk m
   simp at hx; subst hx
   exact ⟨kk, hv.sc_inv⟩
 · simp at hx
section
variable {a : Act} (dst : Option Tmp) (ty : TypeId) (pos : String) (after : Array Edge) (guard : Option (Nat × Bool))
theorem xz9 (t : TypeId) (len : Nat) (parts : Array (Nat × Operand)) : execOp a.eval ⟨dst, .buildSlice t len parts, ty, pos, after, guard⟩ = (do pure (.value (← Instr.buildSlice t len (parts.map fun p => (p.1, a.eval p.2))))) := rfl
theorem jd1 (t : TypeId) (x : Operand) (lo hi : Option Operand) : execOp a.eval ⟨dst, .slice t x lo hi none, ty, pos, after, guard⟩ = (do pure (.value (← Instr.sliceAt t (a.eval x) (lo.map a.eval) (hi.map a.eval) none))) := rfl
theorem jd0 (t : TypeId) (x y : Operand) : execOp a.eval ⟨dst, .store t x y, ty, pos, after, guard⟩ = (do Instr.storeAt t (a.eval x) (a.eval y); pure .skip) := rfl
theorem ex_load (t : TypeId) (x : Operand) : execOp a.eval ⟨dst, .load t x, ty, pos, after, guard⟩ = (do pure (.value (← Instr.loadAt t (a.eval x)))) := rfl
theorem jd6 (t : TypeId) : execOp a.eval ⟨dst, .alloc t, ty, pos, after, guard⟩ = (do pure (.value (← Instr.alloc t true (.tuple #[])))) := rfl
theorem ex_box (t : TypeId) (x : Operand) : execOp a.eval ⟨dst, .box t x, ty, pos, after, guard⟩ = (do pure (.value (← Instr.box t (a.eval x)))) := rfl
theorem jd5 (t : TypeId) (x : Operand) (b : BinOp) (y : Operand) (t' : TypeId) : execOp a.eval ⟨dst, .binOp b t x y t', ty, pos, after, guard⟩ = (do pure (.value (← (do eqGuard b t x y (a.eval x) (a.eval y); binOp b t (a.eval x) (a.eval y))))) := rfl
theorem ex_unOp (o : UnOp) (t : TypeId) (x : Operand) : execOp a.eval ⟨dst, .unOp o t x, ty, pos, after, guard⟩ = (do pure (.value (← Op.unary o (a.eval x)))) := rfl
theorem kd7 (t u : TypeId) (x : Operand) : execOp a.eval ⟨dst, .convert t u x, ty, pos, after, guard⟩ = (do pure (.value (← convert t u (a.eval x)))) := rfl
theorem jd3 (t : TypeId) (x y : Operand) : execOp a.eval ⟨dst, .index t x y, ty, pos, after, guard⟩ = (do pure (.value (← Instr.index t (a.eval x) (a.eval y)))) := rfl
theorem wh1 (t : TypeId) (x y : Operand) : execOp a.eval ⟨dst, .indexAddr t x y, ty, pos, after, guard⟩ = (do pure (.value (← Instr.indexAt t (a.eval x) (a.eval y)))) := rfl
theorem wh2 (t : TypeId) (x : Operand) (f : Nat) : execOp a.eval ⟨dst, .fieldAddr t x f, ty, pos, after, guard⟩ = (do pure (.value (← Instr.fieldAt t (a.eval x) f))) := rfl
theorem jd4 (t : TypeId) (x : Operand) (f : Nat) : execOp a.eval ⟨dst, .field t x f, ty, pos, after, guard⟩ = (do pure (.value (← Instr.field t (a.eval x) f))) := rfl
theorem kd6 (x : Operand) (f : Nat) : execOp a.eval ⟨dst, .extract x f, ty, pos, after, guard⟩ = (do pure (.value (← Instr.extract (a.eval x) f))) := rfl
theorem wo2 (f : Fn) (x y : Array Operand) : execOp a.eval ⟨dst, .makeFunc f x y, ty, pos, after, guard⟩ = (do pure (.value (← Instr.makeFunc f (x.map a.eval) (y.map a.eval)))) := rfl
theorem xf3 (t : TypeId) (x : Operand) : execOp a.eval ⟨dst, .makeInterface t x, ty, pos, after, guard⟩ = (do pure (.value (← Instr.makeInterface t (a.eval x)))) := rfl
theorem kd5 (t : TypeId) (r : Option Operand) : execOp a.eval ⟨dst, .makeMap t r, ty, pos, after, guard⟩ = (do pure (.value (← Instr.makeMap t (r.map a.eval)))) := rfl
theorem xd7 (t : TypeId) (x y : Operand) : execOp a.eval ⟨dst, .makeSlice t x y, ty, pos, after, guard⟩ = (do pure (.value (← Instr.makeSlice t (a.eval x) (a.eval y)))) := rfl
theorem jd2 (t : TypeId) (x : Operand) : execOp a.eval ⟨dst, .range t x, ty, pos, after, guard⟩ = (do pure (.value (← Instr.range t (a.eval x)))) := rfl
theorem ex_next (x : Operand) (b : Bool) : execOp a.eval ⟨dst, .next x b, ty, pos, after, guard⟩ = (do pure (.value (← Instr.next (a.eval x) b ty))) := rfl
theorem kr3 (t : TypeId) (x y : Operand) (b : Bool) : execOp a.eval ⟨dst, .lookup t x y b, ty, pos, after, guard⟩ = (do pure (.value (← Instr.lookup t (a.eval x) (a.eval y) b))) := rfl
theorem wh0 (t : TypeId) (x y z : Operand) : execOp a.eval ⟨dst, .mapUpdate t x y z, ty, pos, after, guard⟩ = (do Instr.mapUpdate t (a.eval x) (a.eval y) (a.eval z); pure .skip) := rfl
theorem kr4 (t : TypeId) (x y z : Operand) : execOp a.eval ⟨dst, .insert t x y z, ty, pos, after, guard⟩ = (do Instr.mapUpdate t (a.eval x) (a.eval y) (a.eval z); pure .skip) := rfl
theorem kr2 (t : TypeId) (x : Operand) (lo : Option Operand) (hi mx : Operand) : execOp a.eval ⟨dst, .slice t x lo (some hi) (some mx), ty, pos, after, guard⟩ = (do pure (.value (← Instr.sliceAt t (a.eval x) (lo.map a.eval) (some (a.eval hi)) (some (a.eval mx))))) := rfl
theorem ex_call (c : Call) : execOp a.eval ⟨dst, .call c, ty, pos, after, guard⟩ = (do let d ← resolve a.eval c ty; invoke d.target d.args) := rfl
end
section
variable {E : Env} {C : Ctx} {S S' : St} {w : World} {v : AV} {tm : PM AV} {a : Act} {call : eS}
theorem ys1 (ok : E.Ok) {g : Field} {i : TypeInfo} (hi : E.inf g.type = some i) (hz : i.size ≠ 0) (b o : Nat) : (fieldPlace ⟨b, o, none⟩ g).run E.P w = .ok ⟨b, o + g.offset, none⟩ w := by
 simp [fieldPlace, jE ok hi, hz, Addr.add_mid]
theorem yx6 (ok : E.Ok) (hw : WR E C S w) (ht : TR C w tm a.tmps) (t : TypeId) (len : Nat) (parts : Array (Nat × Operand)) (h : gE E t len (parts.toList.map fun p => (p.1, E.ev tm p.2)) S = some (v, S')) :
 Good E C w (do pure (.value (← Instr.buildSlice t len (parts.map fun p => (p.1, a.eval p.2))))) v S' := by
 have hp : PR C w (parts.toList.map fun p => (p.1, E.ev tm p.2)) (parts.map fun p => (p.1, a.eval p.2)).toList := by
  have := xY (E := E) (a := a) hw ht parts.toList
  rw [Array.toList_map]; exact this
 exact xn3 ok hw hp h
theorem xz2 (ok : E.Ok) (hw : WR E C S w) (ht : TR C w tm a.tmps) (t : TypeId) (parts : Array (Nat × Operand)) (h : jG E t (parts.toList.map fun p => (p.1, E.ev tm p.2)) S = some (v, S')) :
 Good E C w (do pure (.value (← Instr.build t (parts.map fun p => (p.1, a.eval p.2))))) v S' := by
 have hp : PR C w (parts.toList.map fun p => (p.1, E.ev tm p.2)) (parts.map fun p => (p.1, a.eval p.2)).toList := by
  have := xY (E := E) (a := a) hw ht parts.toList
  rw [Array.toList_map]; exact this
 exact kc8 ok hw hp h
theorem xc2 {P : Program} {t e : TypeId} (hud : P.underlying t = some (.slice e)) (w : World) (p : Addr) (n c m k : Nat) : (Op.equal t (.slice (some p) n c) (.slice none m k)).run P w = .ok false w := by
 have h : ∀ d, (Op.equalIn (d + 1) t (.slice (some p) n c) (.slice none m k)).run P w = .ok false w := fun d => by
  simp [Op.equalIn, run_underlying hud]
 exact h 9999
theorem wz2 {P : Program} {t e : TypeId} (hud : P.underlying t = some (.pointer e)) (w : World) (p : Addr) : (Op.equal t (.pointer (some p)) (.pointer none)).run P w = .ok false w := by
 have h : ∀ d, (Op.equalIn (d + 1) t (.pointer (some p)) (.pointer none)).run P w = .ok false w := fun d => by
  simp [Op.equalIn, run_underlying hud]
 exact h 9999
theorem xk0 {P : Program} {t e : TypeId} {j : TypeInfo} (hud : P.underlying t = some (.pointer e)) (hj : P.info? e = some j) (w : World) (p : Addr) : (Op.equal t (.pointer (some p)) (.pointer (some p))).run P w = .ok true w := by
 have h : ∀ d, (Op.equalIn (d + 1) t (.pointer (some p)) (.pointer (some p))).run P w = .ok true w := fun d => by
  simp [Op.equalIn, run_underlying hud, sizeOf, typeInfo, hj, sameAddr]
 exact h 9999
theorem wd4 {P : Program} {t : TypeId} {ms : Array (String × TypeId)} (hud : P.underlying t = some (.interface ms)) (w : World) (T : TypeId) (v : Value) : (Op.equal t (.iface T v) .nilIface).run P w = .ok false w := by
 have h : ∀ d, (Op.equalIn (d + 1) t (.iface T v) .nilIface).run P w = .ok false w := fun d => by
  simp [Op.equalIn, run_underlying hud]
 exact h 9999
theorem kp7 (hw : WR E C S w) {x : AV} {u : Value} {b : Bool} {ty : TypeId} (hx : VR C w x u) (h : qI x b S = some (v, S')) : Good E C w (do pure (.value (← Instr.next u b ty))) v S' := by
 unfold qI at h
 split at h
 · rename_i l
   split at h
   · rename_i s pos ho
     cases hx with
     | ptr _ _ hb =>
      have hob := hw.objs l hb
      rw [ho] at hob
      obtain ⟨k1, k2⟩ := hob
      rw [k2]
      simp only [bB] at h
      split at h
      · rename_i hlt
        have hlt : pos < s.size := bW hlt
        simp only [aI, aJ] at h
        obtain ⟨rfl, rfl⟩ := h
        obtain ⟨q1, q2⟩ := heap_set (o' := .stringIter s (pos + (Utf8.decode s pos).2)) k1
        obtain ⟨p1, p2⟩ := hw.put (w' := w.iterAt (C.mu l) s (pos + (Utf8.decode s pos).2)) hb (by rw [ho]; rintro (h | h) <;> cases h) q1 q2 (by simp [World.iterAt]) ⟨⟨rfl, rfl, rfl, by simp [World.iterAt], fun k hk => q2 k (by have := (hw.mub l hb).1; omega)⟩, trivial⟩ (fun x hx => by simp [World.shape?, k1] at hx) (a := .siter s (pos + (Utf8.decode s pos).2)) ⟨rfl, k2⟩
        exact .inl ⟨_, C, _, bQ (Go.Lib.run_next_any_at w _ s pos ty k1 hlt), p1, p2, LR.tup (by simpa using LR.cons (.sc _) (LR.cons (.sc _) (LR.cons (.sc _) (LR.nil _ _))))⟩
      · rename_i hlt
        have hlt : ¬ pos < s.size := fun h' => hlt (fT h')
        simp only [aI, aJ] at h
        obtain ⟨rfl, rfl⟩ := h
        exact Good.val hw (bQ (Go.Lib.run_next_end_at w _ s pos ty k1 hlt)) (LR.tup (by simpa using LR.cons (.sc _) (LR.nil _ _)))
   · simp at h
 · simp at h
theorem kp8 (ok : E.Ok) (o : Oper) (hw : WR E C S w) (ht : TR C w tm a.tmps) {m : Mk} (h : fQ E tm o = some m) : GoodMk E C S w (execOp a.eval o) m := by
 obtain ⟨dst, op, ty, pos, after, guard⟩ := o
 have R : ∀ x, VR C w (E.ev tm x) (a.eval x) := fun x => tT hw ht x
 cases op with
 | alloc e =>
  rw [jd6]
  simp only [fQ] at h
  split at h
  · rename_i i hi
    split at h
    · rename_i z hz
      simp only [aI] at h
      subst h
      exact kc9 ok hw hi hz
    · simp at h
  · simp at h
 | box e x =>
  rw [ex_box]
  simp only [fQ] at h
  split at h
  · rename_i cs hc
    simp only [aI] at h
    subst h
    exact jc4 hw (R x) hc
  · simp at h
 | makeMap t r =>
  rw [kd5]
  cases r with
  | none =>
   simp only [fQ, aI] at h
   subst h
   exact xd3 hw (bQ (by simp [Instr.makeMap, newObj, Sem.run]))
  | some r =>
   simp only [fQ] at h
   split at h
   · rename_i kt et n hd hn
     simp only [aI] at h
     subst h
     obtain ⟨kk, hr⟩ := rD hn (R r)
     exact xd3 hw (bQ (by simp [Instr.makeMap, newObj, Sem.run, cU ok hd, hr, asInt, asIntOf]))
   · simp at h
 | range t x =>
  rw [jd2]
  simp only [fQ] at h
  have hx := R x
  generalize E.ev tm x = X at h hx
  split at h
  · rename_i s hd
    simp only [aI] at h
    subst h
    have := hx.sc_inv
    rw [this]
    exact kc5 ok hw hd
  · simp at h
 | makeSlice t l c =>
  rw [xd7]
  simp only [fQ] at h
  split at h
  · rename_i e agg sz n k cs hc
    simp only [aI] at h
    subst h
    exact wg1 ok hw (R l) (R c) hc
  · simp at h
 | buildSlice t len parts =>
  rw [xz9]
  simp only [fQ] at h
  split at h
  · rename_i agg sz cs hc
    simp only [aI] at h
    subst h
    have hp : PR C w (parts.toList.map fun p => (p.1, E.ev tm p.2)) (parts.map fun p => (p.1, a.eval p.2)).toList := by
     have := xY (E := E) (a := a) hw ht parts.toList
     rw [Array.toList_map]; exact this
    exact xz4 ok hw hp hc
  · simp at h
 | _ => simp [fQ] at h
set_option maxHeartbeats 4000000 in
theorem xb0 (ok : E.Ok) (hcall : mA E call) (o : Oper) (hw : WR E C S w) (ht : TR C w tm a.tmps) (h : aW E call tm o S = some (v, S')) : Good E C w (execOp a.eval o) v S' := by
 obtain ⟨dst, op, ty, pos, after, guard⟩ := o
 have R : ∀ x, VR C w (E.ev tm x) (a.eval x) := fun x => tT hw ht x
 cases op with
 | move x =>
  simp only [aW, aI, aJ] at h
  obtain ⟨rfl, rfl⟩ := h
  exact Good.val hw rfl (R x)
 | assign x =>
  simp only [aW, aI, aJ] at h
  obtain ⟨rfl, rfl⟩ := h
  exact Good.val hw rfl (R x)
 | pick c x y =>
  simp only [aW] at h
  split at h
  · rename_i t hc
    simp only [aI, aJ] at h
    obtain ⟨rfl, rfl⟩ := h
    have hcv := R c
    rw [hc] at hcv
    have hc' := hcv.sc_inv
    cases t
    · exact Good.val hw (u := a.eval y) (by simp [execOp, hc', asBool]) (R y)
    · exact Good.val hw (u := a.eval x) (by simp [execOp, hc', asBool]) (R x)
  · simp at h
 | build t parts => exact xz2 ok hw ht t parts h
 | buildSlice t len parts => exact yx6 ok hw ht t len parts h
 | load t x =>
  rw [ex_load]
  simp only [aW] at h
  exact kp9 ok hw (R x) h
 | store t x y =>
  rw [jd0]
  simp only [aW] at h
  exact kc3 ok hw (R x) (R y) h
 | makeSlice t l c =>
  rw [xd7]
  simp only [aW] at h
  exact xr8 ok hw (R l) (R c) h
 | lookup t x ix b =>
  rw [kr3]
  simp only [aW] at h
  exact wn8 ok hw (R x) (R ix) h
 | mapUpdate t m k x =>
  rw [wh0]
  simp only [aW] at h
  exact ys0 ok hw (R m) (R k) (R x) h
 | insert t m k x =>
  rw [kr4]
  simp only [aW] at h
  exact ys0 ok hw (R m) (R k) (R x) h
 | next x b =>
  rw [ex_next]
  simp only [aW] at h
  exact kp7 hw (R x) h
 | nilCheck x =>
  simp only [aW] at h
  have hx := R x
  generalize E.ev tm x = X at h hx
  generalize hU : a.eval x = U at hx
  split at h
  · simp only [aI, aJ] at h
    obtain ⟨rfl, rfl⟩ := h
    refine Good.val hw (u := U) ?_ hx
    cases hx; simp [execOp, hU]
  · simp only [aI, aJ] at h
    obtain ⟨rfl, rfl⟩ := h
    refine Good.val hw (u := U) ?_ hx
    cases hx; simp [execOp, hU]
  · simp only [aI, aJ] at h
    obtain ⟨rfl, rfl⟩ := h
    refine Good.val hw (u := U) ?_ hx
    cases hx; simp [execOp, hU]
  · simp only [aI, aJ] at h
    obtain ⟨rfl, rfl⟩ := h
    refine Good.val hw (u := U) ?_ hx
    cases hx; simp [execOp, hU]
  · simp only [aI, aJ] at h
    obtain ⟨rfl, rfl⟩ := h
    have hx' := hx.sc_inv
    refine Good.val hw (u := U) ?_ hx
    subst hx'; simp [execOp, hU]
  · simp at h
 | binOp op t x y t' =>
  rw [jd5]
  simp only [aW] at h
  split at h
  · rename_i ux uy hcx hcy
    simp only [dR, aJ] at h
    obtain ⟨r, h1, rfl, rfl⟩ := h
    have hr := vQ _ h1 w
    rw [ku0 (R x) hcx, ku0 (R y) hcy] at hr
    exact Good.val hw (bQ hr) (sF _ _ _)
  · have hx := R x
    have hy := R y
    split at h
    · rename_i d hd
      have hud := ok.und t d hd
      have key : ∀ r, vA E d (E.ev tm x) (E.ev tm y) = some r → ∀ neg : Bool, (do eqGuard (if neg then .neq else .eql) t x y (a.eval x) (a.eval y); binOp (if neg then .neq else .eql) t (a.eval x) (a.eval y) : Sem Value).run E.P w = .ok (.bool (neg != r)) w := by
       intro r hr
       generalize E.ev tm x = X at hr hx
       generalize E.ev tm y = Y at hr hy
       generalize a.eval x = U at hx
       generalize a.eval y = V at hy
       unfold vA at hr
       simp only [bB] at hr
       split at hr
       · obtain ⟨p, cap, rfl⟩ := hx.vec_slice
         have := hy.sc_inv
         subst this
         cases d <;> simp at hr
         subst hr
         intro neg
         cases neg <;> simp [eqGuard, binOp, xc2 hud]
       · have := hy.sc_inv
         subst this
         cases hx
         cases d <;> simp at hr
         subst hr
         intro neg
         cases neg <;> simp [eqGuard, binOp, xc2 hud]
       · rename_i l o l' o'
         cases d with
         | pointer e =>
          simp only at hr
          split at hr
          · rename_i hb
            simp only [aS] at hb
            have b1 := bA hb.1.1
            have b2 := bA hb.1.2
            subst b1; subst b2
            obtain ⟨j, hj⟩ := Option.isSome_iff_exists.1 hb.2
            simp only [aI] at hr
            subst hr
            cases hx
            cases hy
            intro neg
            cases neg <;> simp [eqGuard, binOp, xk0 hud (ok.inf _ _ hj)]
          · simp at hr
         | _ => simp at hr
       · have := hy.sc_inv
         subst this
         cases hx
         cases d <;> simp at hr
         subst hr
         intro neg
         cases neg <;> simp [eqGuard, binOp, wd4 hud]
       · have := hy.sc_inv
         subst this
         cases hx
         cases d <;> simp at hr
         subst hr
         intro neg
         cases neg <;> simp [eqGuard, binOp, wz2 hud]
       · simp at hr
      split at h
      · rename_i r hr
        simp only [aI, aJ] at h
        obtain ⟨rfl, rfl⟩ := h
        exact Good.val hw (bQ (by simpa using key r hr false)) (.sc _)
      · rename_i r hr
        simp only [aI, aJ] at h
        obtain ⟨rfl, rfl⟩ := h
        exact Good.val hw (bQ (by simpa using key r hr true)) (.sc _)
      · simp at h
    · simp at h
 | unOp op t x =>
  rw [ex_unOp]
  simp only [aW] at h
  split at h
  · rename_i u hu
    simp only [dR, aJ] at h
    obtain ⟨r, h1, rfl, rfl⟩ := h
    have hx := R x
    rw [hu] at hx
    have hr := vQ _ h1 w
    rw [← hx.sc_inv] at hr
    exact Good.val hw (bQ hr) (sF _ _ _)
  · simp at h
 | slice t x lo hi mx =>
  cases mx with
  | some m =>
   cases hi with
   | none => simp [aW] at h
   | some hi =>
    rw [kr2]
    simp only [aW] at h
    refine wn7 ok hw (R x) (ulo := lo.map a.eval) (fun y hy => ?_) (fun hn => ?_) (R hi) (R m) h
    · cases lo with
      | none => simp at hy
      | some l => simp at hy; subst hy; exact ⟨_, rfl, R l⟩
    · cases lo with
      | none => rfl
      | some l => simp at hn
  | none =>
   rw [jd1]
   simp only [aW] at h
   refine kc4 ok hw (R x) (ulo := lo.map a.eval) (uhi := hi.map a.eval) (fun y hy => ?_) (fun hn => ?_) (fun y hy => ?_) (fun hn => ?_) h
   · cases lo with
     | none => simp at hy
     | some l => simp at hy; subst hy; exact ⟨_, rfl, R l⟩
   · cases lo with
     | none => rfl
     | some l => simp at hn
   · cases hi with
     | none => simp at hy
     | some l => simp at hy; subst hy; exact ⟨_, rfl, R l⟩
   · cases hi with
     | none => rfl
     | some l => simp at hn
 | fieldAddr t x f =>
  rw [wh2]
  simp only [aW] at h
  have hx := R x
  generalize E.ev tm x = X at h hx
  split at h
  · rename_i fs l off hd
    split at h
    · rename_i g hg
      split at h
      · rename_i i hi
        cases hz : Nat.beq i.size 0 with
        | true => rw [hz] at h; simp at h
        | false =>
         rw [hz] at h
         simp only [aK, aI, aJ] at h
         obtain ⟨rfl, rfl⟩ := h
         have hz' : i.size ≠ 0 := fun e => by rw [e] at hz; simp at hz
         generalize hU : a.eval x = U at hx
         cases hx with
         | ptr _ _ hl =>
          refine Good.val hw (bQ (u := .pointer (some ⟨C.mu l, C.bs l + (off + g.offset), none⟩)) ?_) (.ptr _ _ hl)
          simp [← kD, Instr.fieldAt, cU ok hd, hg, Instr.sureAddr, ys1 ok hi hz']
      · simp at h
    · simp at h
  · rename_i fs cs off hd
    split at h
    · rename_i g hg
      split at h
      · rename_i i hi
        cases hz : Nat.beq i.size 0 with
        | true => rw [hz] at h; simp at h
        | false =>
         rw [hz] at h
         simp only [aK, aI, aJ] at h
         obtain ⟨rfl, rfl⟩ := h
         have hz' : i.size ≠ 0 := fun e => by rw [e] at hz; simp at hz
         obtain ⟨b, o, hU, hb, hf, htop, hs⟩ := hx.eptr_inv
         refine Good.val hw (bQ (u := .pointer (some ⟨b, o + (off + g.offset), none⟩)) ?_) (VR.eptr_mk _ hb hf htop hs)
         simp [Instr.fieldAt, cU ok hd, hg, hU, Instr.sureAddr, ys1 ok hi hz', kD]
      · simp at h
    · simp at h
  · simp at h
 | field t x f =>
  rw [jd4]
  simp only [aW] at h
  have hx := R x
  generalize E.ev tm x = X at h hx
  split at h
  · rename_i fs cs hd
    split at h
    · rename_i g hg
      simp only [dR, aJ] at h
      obtain ⟨r, h1, rfl, rfl⟩ := h
      obtain ⟨vs, hU, hl⟩ := hx.agg_inv
      obtain ⟨u, k1, k2⟩ := xt8 ok h1 hl
      refine Good.val hw (bQ (u := u) ?_) k2
      simp [Instr.field, cU ok hd, hg, hU, asAgg, k1]
    · simp at h
  · simp at h
 | indexAddr t x ix =>
  rw [wh1]
  simp only [aW] at h
  have hx := R x
  have hix := R ix
  generalize E.ev tm x = X at h hx
  generalize E.ev tm ix = I at h hix
  split at h
  · rename_i e id sz xs i hd hi
    obtain ⟨kk, hI⟩ := rD hi hix
    split at h
    · rename_i ie hie
      cases hb : (decide (0 ≤ i) && Nat.beq ie.size sz) with
      | false => rw [hb] at h; simp at h
      | true =>
       rw [hb] at h
       simp only [aH] at h
       simp only [aS, bZ] at hb
       have hsz := bA hb.2
       split at h
       · rename_i y hy
         simp only [dR, aJ] at h
         obtain ⟨cs, h1, rfl, rfl⟩ := h
         have hlt : i.toNat < xs.length := by
          rcases fV i.toNat xs.length with h' | h'
          · exact h'
          · simp [mJ h'] at hy
         rcases hx.vec_inv with ⟨_, rfl, _⟩ | ⟨fl, b, o, cap, hU, hv⟩
         · simp at hlt
         · obtain ⟨cs', k1, k2, k3, k4⟩ := jc7 hv.flat hy
           rw [h1] at k1; simp at k1; subst k1
           have hseg := uF hv.seg (i.toNat * sz) sz
           rw [k4] at hseg
           have hfl := nX hv.flat
           have hm : i.toNat * sz + sz ≤ xs.length * sz := by rw [← Nat.succ_mul]; exact nR _ hlt
           refine Good.val hw (bQ (u := .pointer (some ⟨b, o + i.toNat * sz + 0, none⟩)) ?_) (VR.eptr_mk 0 hv.lt hv.free (by have := hv.top; omega) hseg)
           have hlt' : i < (xs.length : Int) := by omega
           simp [Instr.indexAt, cU ok hd, hU, hI, asIntOf, hb.1, hlt', jE ok hie, hsz, Addr.add_mid]
       · simp at h
    · simp at h
  · rename_i e l sz off len room i hd hi
    obtain ⟨kk, hI⟩ := rD hi hix
    split at h
    · rename_i ie hie
      cases hb : (decide (0 ≤ i) && decide (i < (len : Int)) && Nat.beq ie.size sz) with
      | false => rw [hb] at h; simp at h
      | true =>
       rw [hb] at h
       simp only [aH, aI, aJ] at h
       obtain ⟨rfl, rfl⟩ := h
       simp only [aS, bZ] at hb
       have hsz := bA hb.2
       generalize hU : a.eval x = U at hx
       cases hx with
       | osl _ _ _ _ _ p cap hl hs' hlr hrc hro hcl ha =>
        have hp := ha (by omega)
        subst hp
        refine Good.val hw (bQ (u := .pointer (some ⟨C.mu l, C.bs l + (off + i.toNat * sz), none⟩)) ?_) (.ptr _ _ hl)
        simp [← kD, Instr.indexAt, cU ok hd, hI, asIntOf, hb.1.1, hb.1.2, jE ok hie, hsz, Addr.add_mid]
    · simp at h
  · rename_i n e l off i hd hi
    obtain ⟨kk, hI⟩ := rD hi hix
    split at h
    · rename_i ie hie
      cases hb : (decide (0 ≤ i) && decide (i < (n : Int))) with
      | false => rw [hb] at h; simp at h
      | true =>
       rw [hb] at h
       simp only [aH, aI, aJ] at h
       obtain ⟨rfl, rfl⟩ := h
       simp only [aS, bZ] at hb
       generalize hU : a.eval x = U at hx
       cases hx with
       | ptr _ _ hl =>
        refine Good.val hw (bQ (u := .pointer (some ⟨C.mu l, C.bs l + (off + i.toNat * ie.size), none⟩)) ?_) (.ptr _ _ hl)
        simp [← kD, Instr.indexAt, cU ok hd, hI, asIntOf, hb.1, hb.2, jE ok hie, Addr.add_mid, Instr.sureAddr]
    · simp at h
  · rename_i n e cs off i hd hi
    obtain ⟨kk, hI⟩ := rD hi hix
    split at h
    · rename_i ie hie
      cases hb : (decide (0 ≤ i) && decide (i < (n : Int))) with
      | false => rw [hb] at h; simp at h
      | true =>
       rw [hb] at h
       simp only [aH, aI, aJ] at h
       obtain ⟨rfl, rfl⟩ := h
       simp only [aS, bZ] at hb
       obtain ⟨b, o, hU, hbb, hf, htop, hs⟩ := hx.eptr_inv
       refine Good.val hw (bQ (u := .pointer (some ⟨b, o + (off + i.toNat * ie.size), none⟩)) ?_) (VR.eptr_mk _ hbb hf htop hs)
       simp [Instr.indexAt, cU ok hd, hU, hI, asIntOf, hb.1, hb.2, jE ok hie, Addr.add_mid, Instr.sureAddr, kD]
    · simp at h
  · simp at h
 | index t x ix =>
  rw [jd3]
  simp only [aW] at h
  have hx := R x
  have hix := R ix
  generalize E.ev tm x = X at h hx
  generalize E.ev tm ix = I at h hix
  split at h
  · simp only [dR, aJ] at h
    obtain ⟨r, h1, rfl, rfl⟩ := h
    have hr := vQ _ h1 w
    rw [← hx.sc_inv, ← hix.sc_inv] at hr
    exact Good.val hw (bQ hr) (sF _ _ _)
  · rename_i cs kk i
    obtain ⟨vs, hU, hl⟩ := hx.agg_inv
    have hI := hix.sc_inv
    split at h
    · rename_i n e hd
      split at h
      · rename_i ie hie
        cases hb : (decide (0 ≤ i) && decide (i < (n : Int))) with
        | false => rw [hb] at h; simp at h
        | true =>
         rw [hb] at h
         simp only [aH, dR, aJ] at h
         obtain ⟨r, h1, rfl, rfl⟩ := h
         simp only [aS, bZ] at hb
         obtain ⟨u, k1, k2⟩ := xt8 ok h1 hl
         refine Good.val hw (bQ (u := u) ?_) k2
         simp [Instr.index, cU ok hd, hU, hI, asIntOf, hb.1, hb.2, jE ok hie, k1]
      · simp at h
    · simp at h
  · simp at h
 | extract x ix =>
  rw [kd6]
  simp only [aW] at h
  have hx := R x
  generalize E.ev tm x = X at h hx
  split at h
  · rename_i vs
    simp only [dR, aJ] at h
    obtain ⟨r, h1, rfl, rfl⟩ := h
    obtain ⟨us, hU, hl⟩ := hx.tup_inv
    obtain ⟨u, k1, k2⟩ := hl.get h1
    refine Good.val hw (bQ (u := u) ?_) k2
    have k1' : us[ix]? = some u := by simpa using k1
    simp [Instr.extract, hU, k1']
  · simp at h
 | makeFunc f first cap =>
  rw [wo2]
  simp only [aW, aI, aJ] at h
  obtain ⟨rfl, rfl⟩ := h
  have h1 := wo3 (E := E) (a := a) hw ht first.toList
  have h2 := wo3 (E := E) (a := a) hw ht cap.toList
  refine Good.val hw (bQ (u := .func f (first.map a.eval) (cap.map a.eval)) rfl) (.fn f _ _ _ _ (by simp) (fun i x hx => ?_) (by simp) (fun i x hx => ?_))
  · have := h1.2 i x hx; simpa using this
  · have := h2.2 i x hx; simpa using this
 | makeInterface t x =>
  rw [xf3]
  simp only [aW] at h
  split at h
  · simp at h
  · rename_i d hn hd
    simp only [aI, aJ] at h
    obtain ⟨rfl, rfl⟩ := h
    refine Good.val hw (bQ (u := .iface t (a.eval x)) ?_) (.ifc _ _ _ (R x))
    rw [Instr.makeInterface, Sem.run_bind, cU ok hd]
    cases d <;> first | rfl | exact absurd rfl (hn _)
  · simp at h
 | convert src dst x =>
  rw [kd7]
  simp only [aW] at h
  exact wg2 ok hw (R x) h
 | call c =>
  rw [ex_call]
  simp only [aW] at h
  exact kq1 ok hcall hw ht h
 | _ => simp [aW] at h
theorem GoodMk.next {r : Sem Next} {m : Mk} (hw : WR E C S w) (h : GoodMk E C S w r m) : Good E C w r (m.val S.no) (S.bearNext m) := by
 obtain ⟨u, C', w', h1, h2, h3, h4, h5, h6⟩ := h S.no (S.no + 1) (hw.unb _ (aB _)) (nV _) (bJ _)
 exact .inl ⟨u, C', w', h1, h2, ⟨h3, by rw [h5, hw.no]; exact nV _, fun l k1 k2 => by
  rcases h6 l k2 with k | k
  · exact absurd k k1
  · rw [k, hw.no]; exact aB _⟩, h4⟩
theorem good_op (ok : E.Ok) (hcall : mA E call) (o : Oper) (hw : WR E C S w) (ht : TR C w tm a.tmps) (h : eV E call tm o S = some (v, S')) : Good E C w (execOp a.eval o) v S' := by
 simp only [eV, bB] at h
 split at h
 · simp only [dR, aJ] at h
   obtain ⟨m, h1, rfl, rfl⟩ := h
   exact (kp8 ok o hw ht h1).next hw
 · exact xb0 ok hcall o hw ht h
end
end Go.Abs
