/-
  The evaluator's operations, one by one: what each gives stands to what the model's operation gives.
-/
import Derived.Test.YthjaoinieikjdaaGreatDoorUAC
import Derived.Deep.AppendSrc
import Derived.Deep.MidRow
set_option linter.unusedSimpArgs false
set_option linter.unusedVariables false
namespace Go.Abs
open Go.RowKit
noncomputable def Seg (C : Ctx) (w : World) (b o : Nat) (cs : List AV) : Prop := ∃ vs, LR C w cs vs ∧ w.rangeAt b o vs
theorem Seg.of_fun {C : Ctx} {w : World} {b o : Nat} {cs : List AV} {u : Nat → Value} (hc : ∀ i, i < cs.length → w.cell? ⟨b, o + i, none⟩ = some (u i)) (hr : ∀ i x, cs[i]? = some x → VR C w x (u i)) : Seg C w b o cs := by
 refine ⟨(List.range cs.length).map u, ⟨by simp, fun i x hx => ?_⟩, fun j v hv => ?_⟩
 · have hi : i < cs.length := by
    rcases fV i cs.length with h' | h'
    · exact h'
    · simp [mJ h'] at hx
   simpa [hi] using hr i x hx
 · have hj : j < cs.length := by
    rcases fV j cs.length with h' | h'
    · exact h'
    · simp [h'] at hv
   simp [hj] at hv
   subst hv
   exact hc j hj
theorem Seg.fun {C : Ctx} {w : World} {b o : Nat} {cs : List AV} (h : Seg C w b o cs) : ∃ u : Nat → Value, (∀ i, i < cs.length → w.cell? ⟨b, o + i, none⟩ = some (u i)) ∧ (∀ i x, cs[i]? = some x → VR C w x (u i)) := by
 obtain ⟨vs, hl, hr⟩ := h
 exact ⟨fun i => vs.getD i undef, fun i hi => by
  have : i < vs.length := hl.1 ▸ hi
  exact hr i _ (by simp [this]), hl.2⟩
theorem VR.eptr_mk {C : Ctx} {w : World} {cs : List AV} {b o : Nat} (off : Nat) (hb : b < w.heap.size) (hf : C.free b) (ht : o + cs.length ≤ C.top b) (hs : Seg C w b o cs) :
 VR C w (.eptr cs off) (.pointer (some ⟨b, o + off, none⟩)) := by
 obtain ⟨u, h1, h2⟩ := hs.fun
 exact .eptr cs off b o u hb hf ht h1 h2
theorem VR.eptr_inv {C : Ctx} {w : World} {cs : List AV} {off : Nat} {v : Value} (h : VR C w (.eptr cs off) v) :
 ∃ b o, v = .pointer (some ⟨b, o + off, none⟩) ∧ b < w.heap.size ∧ C.free b ∧ o + cs.length ≤ C.top b ∧ Seg C w b o cs := by
 cases h with
 | eptr _ _ b o u hb hf ht hc hr => exact ⟨b, o, rfl, hb, hf, ht, Seg.of_fun hc hr⟩
structure VecAt (C : Ctx) (w : World) (id sz : Nat) (xs : List AV) (fl : List AV) (b o cap : Nat) : Prop where
 szpos : 0 < sz
 lc : xs.length ≤ cap
 flat : bR sz xs = some fl
 lt : b < w.heap.size
 free : C.free b
 top : o + fl.length ≤ C.top b
 seg : Seg C w b o fl
 hd : 2 < id → id < C.nid ∧ C.io id = ⟨b, o, xs.length, cap, sz⟩
 x1 : id = 1 ∨ id = 2 → cap = xs.length
 x2 : id = 1 → C.base ≤ b ∧ ∀ i, 2 < i → i < C.nid → (C.io i).b ≠ b
theorem VecAt.mk' {C : Ctx} {w : World} {id sz : Nat} {xs fl : List AV} {b o cap : Nat} (h : VecAt C w id sz xs fl b o cap) : VR C w (.vec id sz xs) (.slice (some ⟨b, o, none⟩) xs.length cap) := by
 obtain ⟨u, h1, h2⟩ := h.seg.fun
 exact .vec id sz xs fl b o cap u h.szpos h.lc h.flat h.lt h.free h.top h1 h2 h.hd h.x1 h.x2
theorem VR.vec_inv {C : Ctx} {w : World} {id sz : Nat} {xs : List AV} {v : Value} (h : VR C w (.vec id sz xs) v) :
 (id = 0 ∧ xs = [] ∧ ∃ a cap, v = .slice (some a) 0 cap) ∨ (∃ fl b o cap, v = .slice (some ⟨b, o, none⟩) xs.length cap ∧ VecAt C w id sz xs fl b o cap) := by
 cases h with
 | vec0 _ a cap => exact .inl ⟨rfl, rfl, a, cap, rfl⟩
 | vec _ _ _ fl b o cap u hs hlc hfl hb hf ht hc hr hid hx1 hx2 => exact .inr ⟨fl, b, o, cap, rfl, ⟨hs, hlc, hfl, hb, hf, ht, Seg.of_fun hc hr, hid, hx1, hx2⟩⟩
theorem VR.vec_slice {C : Ctx} {w : World} {id sz : Nat} {xs : List AV} {v : Value} (h : VR C w (.vec id sz xs) v) : ∃ a cap, v = .slice (some a) xs.length cap := by
 rcases h.vec_inv with ⟨_, rfl, a, cap, rfl⟩ | ⟨fl, b, o, cap, rfl, _⟩
 · exact ⟨a, cap, rfl⟩
 · exact ⟨_, cap, rfl⟩
theorem kf8 (C : Ctx) (w : World) (v : Value) : VR C w (km1 v) v := by
 cases v with
 | agg cs => exact LR.agg (LR.scs _)
 | _ => exact .sc _
theorem kb3 {C : Ctx} {w : World} (l : List Value) : LR C w (l.map km1) l := by
 induction l with
 | nil => exact LR.nil _ _
 | cons v l ih => exact LR.cons (kf8 _ _ v) ih
theorem sF (C : Ctx) (w : World) (v : Value) : VR C w (ofV v) v := by
 cases v with
 | agg cs => exact LR.agg (LR.scs _)
 | tuple vs =>
  simp only [ofV]
  by_cases h : vs.isEmpty = true
  · have : vs = #[] := by simpa using h
    subst this; exact .sc _
  · have h' : vs.isEmpty = false := by simpa using h
    rw [h', aK]
    exact LR.tup (kb3 _)
 | _ => exact .sc _
theorem xv7 {C : Ctx} {w : World} : ∀ {cs : List AV} {vs us : List Value}, LR C w cs vs → wE cs = some us → us = vs
 | [], [], us, _, h => by simpa [wE] using h.symm
 | [], _ :: _, _, h, _ => absurd h.1 (by simp)
 | _ :: _, [], _, h, _ => absurd h.1 (by simp)
 | a :: cs, v :: vs, us, h, hc => by
  simp only [wE] at hc
  split at hc
  · rename_i v' vs' h1 h2
    simp only [aI] at hc
    subst hc
    have h3 := xv7 h.tail h2
    cases a with
    | sc x =>
     simp [wa7] at h1; subst h1
     have := h.head.sc_inv
     rw [h3, this]
    | _ => simp [wa7] at h1
  · simp at hc
theorem ku0 {C : Ctx} {w : World} {a : AV} {v u : Value} (h : VR C w a v) (hc : iZ a = some u) : u = v := by
 cases a with
 | sc x => simp [iZ] at hc; subst hc; exact h.sc_inv.symm
 | agg cs =>
  obtain ⟨vs, rfl, hl⟩ := h.agg_inv
  simp only [iZ, dR] at hc
  obtain ⟨us, h1, rfl⟩ := hc
  rw [xv7 hl h1]
 | _ => simp [iZ] at hc
noncomputable def TR (C : Ctx) (w : World) (tm : PM AV) (ts : Array Value) : Prop := ∀ i x, tm.get i = some x → VR C w x (ts.getD i undef)
theorem TR.ext {C C' : Ctx} {w w' : World} {tm : PM AV} {ts : Array Value} (h : TR C w tm ts) (e : Ext C w C' w') : TR C' w' tm ts := fun i x hx => (h i x hx).ext e
theorem TR.getT {C : Ctx} {w : World} {tm : PM AV} {ts : Array Value} (h : TR C w tm ts) (t : Nat) : VR C w (getT tm t) (ts.getD t undef) := by
 unfold Abs.getT
 cases hg : tm.get t with
 | none => exact .undef _
 | some x => exact h t x hg
theorem TR.put {C : Ctx} {w : World} {tm tm' : PM AV} {a : Act} {nt : Nat} {dst : Option Tmp} {v : AV} {u : Value} (h : TR C w tm a.tmps) (hn : a.tmps.size = nt) (hv : VR C w v u) (hp : gC nt dst v tm = some tm') :
 TR C w tm' (a.put dst u).tmps ∧ (a.put dst u).tmps.size = nt := by
 cases dst with
 | none => simp [gC] at hp; subst hp; exact ⟨h, hn⟩
 | some d =>
  simp only [gC] at hp
  cases hb : Nat.blt d nt with
  | false => rw [hb] at hp; simp at hp
  | true =>
   rw [hb] at hp
   simp at hp
   subst hp
   have hd : d < a.tmps.size := by rw [hn]; exact bW hb
   refine ⟨fun i x hx => ?_, by simp [Act.put, hn]⟩
   rw [PM.get_set] at hx
   simp only [Act.put]
   by_cases hi : i = d
   · subst hi; simp at hx; subst hx; simpa [hd] using hv
   · rw [aR hi] at hx
     have := h i x hx
     simpa [Array.getElem?_setIfInBounds, Ne.symm hi] using this
theorem tT {E : Env} {C : Ctx} {S : St} {w : World} {tm : PM AV} {a : Act} (hw : WR E C S w) (ht : TR C w tm a.tmps) (x : Operand) : VR C w (E.ev tm x) (a.eval x) := by
 cases x with
 | tmp t => exact ht.getT t
 | const v => exact sF _ _ v
 | func f => exact .sc _
 | global g =>
  simp only [Env.ev]
  cases hg : E.G g with
  | none => exact .undef _
  | some cs => exact (hw.glob g cs hg).vr
theorem wo3 {E : Env} {C : Ctx} {S : St} {w : World} {tm : PM AV} {a : Act} (hw : WR E C S w) (ht : TR C w tm a.tmps) (l : List Operand) : LR C w (l.map (E.ev tm)) (l.map a.eval) := by
 induction l with
 | nil => exact LR.nil _ _
 | cons x l ih => exact LR.cons (tT hw ht x) ih
noncomputable def Good (E : Env) (C : Ctx) (w : World) (r : Sem Next) (v : AV) (S' : St) : Prop :=
 (∃ u C' w', r.run E.P w = .ok (.value u) w' ∧ WR E C' S' w' ∧ Ext C w C' w' ∧ VR C' w' v u) ∨
 (∃ C' w', r.run E.P w = .ok .skip w' ∧ v = dB ∧ WR E C' S' w' ∧ Ext C w C' w') ∨
 (∃ f args, r.run E.P w = .ok (.enter f args) w ∧ Calls E.P f args w (fun e w' => ∃ u C', e = .returned u ∧ WR E C' S' w' ∧ Ext C w C' w' ∧ VR C' w' v u))
theorem Good.val {E : Env} {C : Ctx} {S : St} {w : World} {r : Sem Next} {v : AV} {u : Value} (hw : WR E C S w) (h : r.run E.P w = .ok (.value u) w) (hv : VR C w v u) : Good E C w r v S :=
 .inl ⟨u, C, w, h, hw, Ext.refl _ _, hv⟩
theorem bQ {P : Program} {w w' : World} {s : Sem Value} {u : Value} (h : s.run P w = .ok u w') : (do pure (Next.value (← s)) : Sem Next).run P w = .ok (.value u) w' := by
 rw [Sem.run_bind, h]; rfl
theorem Good.wp {E : Env} {C : Ctx} {w : World} {o : Oper} {a : Act} {v : AV} {S' : St} {K : Act → World → Prop} {Q : Exit → Act → World → Prop}
 (h : Good E C w (execOp a.eval o) v S') (hk : ∀ u C' w', WR E C' S' w' → Ext C w C' w' → VR C' w' v u → K (a.put o.dst u) w') : o.wp E.P a w K Q := by
 unfold Oper.wp
 rcases h with ⟨u, C', w', h1, h2, h3, h4⟩ | ⟨C', w', h1, rfl, h2, h3⟩ | ⟨f, args, h1, h2⟩
 · rw [h1]; exact hk u C' w' h2 h3 h4
 · rw [h1]; exact hk Go.undef C' w' h2 h3 (.sc _)
 · rw [h1]
   exact h2.mono fun e w' ⟨u, C', he, k1, k2, k3⟩ => by subst he; exact hk u C' w' k1 k2 k3
theorem xM {E : Env} (ok : E.Ok) {C : Ctx} {w : World} {t : TypeId} {cs : List AV} {off : Nat} {v : AV} (h : E.cutAt t cs off = some v) {b o : Nat} (hs : Seg C w b o cs) :
 ∃ x, (loadVar t ⟨b, o + off, none⟩).run E.P w = .ok x w ∧ VR C w v x := by
 unfold Env.cutAt at h
 cases hd : E.und t with
 | none => simp [hd] at h
 | some d => cases hi : E.inf t with
  | none => simp [hd, hi] at h
  | some i =>
   simp only [hd, hi, cut] at h
   cases hb : Nat.ble (off + i.size) cs.length with
   | false => rw [hb] at h; simp at h
   | true =>
    have hle : off + i.size ≤ cs.length := bW hb
    rw [hb] at h
    simp only [aH] at h
    obtain ⟨vs, hl, hr⟩ := hs
    have hu := ok.und t d hd
    have hin := ok.inf t i hi
    cases ha : iV d with
    | true =>
     rw [ha] at h
     simp only [aH, aI] at h
     subst h
     have hlen : ((vs.drop off).take i.size).length = i.size := by rw [eW, mK, ← hl.1]; omega
     refine ⟨.agg ((vs.drop off).take i.size).toArray, run_loadVar_mid w b (o + off) t _ d ?_ hu (by cases d <;> simp_all [iV]) (by rw [hin]; simp [hlen]), LR.agg (by simpa using (hl.drop off).take i.size)⟩
     intro j x hx
     rw [oR] at hx
     split at hx
     · rw [jM] at hx
       have := hr _ _ hx
       rwa [← kD] at this
     · cases hx
    | false =>
     rw [ha] at h
     simp only [aK] at h
     cases hz : Nat.beq i.size 1 with
     | false => rw [hz] at h; simp at h
     | true =>
      rw [hz] at h
      simp only [aH] at h
      obtain ⟨x, hx, hv⟩ := hl.get h
      refine ⟨x, ?_, hv⟩
      have hagg : (isAgg t).run E.P w = .ok false w := by
       unfold isAgg
       rw [Sem.run_bind, run_underlying hu w]
       cases d <;> simp_all [iV]
      have hcell := hr _ _ hx
      simp [loadVar, hagg, load, Sem.run, hcell]
theorem xt8 {E : Env} (ok : E.Ok) {C : Ctx} {w : World} {t : TypeId} {cs : List AV} {off : Nat} {v : AV} (h : E.cutAt t cs off = some v) {vs : Array Value} (hl : LR C w cs vs.toList) :
 ∃ x, (part t vs off).run E.P w = .ok x w ∧ VR C w v x := by
 unfold Env.cutAt at h
 cases hd : E.und t with
 | none => simp [hd] at h
 | some d => cases hi : E.inf t with
  | none => simp [hd, hi] at h
  | some i =>
   simp only [hd, hi, cut] at h
   cases hb : Nat.ble (off + i.size) cs.length with
   | false => rw [hb] at h; simp at h
   | true =>
    have hle : off + i.size ≤ cs.length := bW hb
    rw [hb] at h
    simp only [aH] at h
    have hu := ok.und t d hd
    have hin := ok.inf t i hi
    cases ha : iV d with
    | true =>
     rw [ha] at h
     simp only [aH, aI] at h
     subst h
     have hagg : (isAgg t).run E.P w = .ok true w := by
      unfold isAgg
      rw [Sem.run_bind, run_underlying hu w]
      cases d <;> simp_all [iV]
     refine ⟨.agg (vs.extract off (off + i.size)), by simp [part, hagg, sizeOf, typeInfo, hin], LR.agg ?_⟩
     have := (hl.drop off).take i.size
     simpa [Array.toList_extract, List.extract_eq_take_drop, Nat.add_sub_cancel_left] using this
    | false =>
     rw [ha] at h
     simp only [aK] at h
     cases hz : Nat.beq i.size 1 with
     | false => rw [hz] at h; simp at h
     | true =>
      rw [hz] at h
      simp only [aH] at h
      obtain ⟨x, hx, hv⟩ := hl.get h
      refine ⟨x, ?_, hv⟩
      have hagg : (isAgg t).run E.P w = .ok false w := by
       unfold isAgg
       rw [Sem.run_bind, run_underlying hu w]
       cases d <;> simp_all [iV]
      have hx' : vs[off]? = some x := by simpa using hx
      simp [part, hagg, hx']
theorem yu9 {C : Ctx} {w : World} {a : AV} {v : Value} {cs : List AV} (h : VR C w a v) (hc : cellsOf a = some cs) : LR C w cs v.cells.toList := by
 cases h with
 | undef v => simp [cellsOf] at hc
 | sc v =>
  cases v <;> simp [cellsOf] at hc <;> subst hc <;> exact LR.cons (.sc _) (LR.nil _ _)
 | ptr l off hl => simp [cellsOf] at hc; subst hc; exact LR.cons (.ptr l off hl) (LR.nil _ _)
 | eptr cs off b o u hb hf ht hcc hr => simp [cellsOf] at hc; subst hc; exact LR.cons (.eptr cs off b o u hb hf ht hcc hr) (LR.nil _ _)
 | vec0 sz a cap => simp [cellsOf] at hc; subst hc; exact LR.cons (.vec0 sz a cap) (LR.nil _ _)
 | vec id sz xs fl b o cap u hs hlc hfl hb hf ht hcc hr hid hx1 hx2 => simp [cellsOf] at hc; subst hc; exact LR.cons (.vec id sz xs fl b o cap u hs hlc hfl hb hf ht hcc hr hid hx1 hx2) (LR.nil _ _)
 | udat id xs fl b o cap u hfl hb hf ht hcc hr hid => simp [cellsOf] at hc; subst hc; exact LR.cons (.udat id xs fl b o cap u hfl hb hf ht hcc hr hid) (LR.nil _ _)
 | osl l sz off len room a cap h hs hlr hrc hro hcl ha => simp [cellsOf] at hc; subst hc; exact LR.cons (.osl l sz off len room a cap h hs hlr hrc hro hcl ha) (LR.nil _ _)
 | mp l h => simp [cellsOf] at hc; subst hc; exact LR.cons (.mp l h) (LR.nil _ _)
 | agg cs' vs hl hr => simp [cellsOf] at hc; subst hc; exact ⟨by simpa [Value.cells] using hl, fun i x hx => by simpa [Value.cells] using hr i x hx⟩
 | tup cs' vs hl hr => simp [cellsOf] at hc
 | fn f c1 c2 v1 v2 h1 h2 h3 h4 => simp [cellsOf] at hc; subst hc; exact LR.cons (.fn f c1 c2 v1 v2 h1 h2 h3 h4) (LR.nil _ _)
 | ifc t a v h => simp [cellsOf] at hc; subst hc; exact LR.cons (.ifc t a v h) (LR.nil _ _)
theorem ka5 {C : Ctx} {w : World} {a : AV} {v : Value} (h : VR C w a v) (hc : cB a = true) : v.oneCell' = true := by
 cases h with
 | sc v => cases v <;> first | rfl | simp [cB] at hc
 | undef v => simp [cB] at hc
 | agg cs vs hl hr => simp [cB] at hc
 | tup cs vs hl hr => simp [cB] at hc
 | _ => rfl
theorem tA {C : Ctx} {w : World} {cs : List AV} {vs : List Value} (h : LR C w cs vs) (hc : cs.all cB = true) : ∀ u ∈ vs, u.oneCell' = true := by
 intro u hu
 obtain ⟨i, hi, rfl⟩ := List.mem_iff_getElem.1 hu
 have hi' : i < cs.length := by rw [h.1]; exact hi
 have h1 := h.2 i cs[i] (by simp [hi'])
 simp [hi] at h1
 exact ka5 h1 (List.all_eq_true.1 hc _ (fE hi'))
noncomputable def pC : Array Value → Nat → List Value → Array Value
 | c, _, [] => c
 | c, o, v :: r => pC (c.setIfInBounds o v) (o + 1) r
theorem nW : ∀ (vs : List Value) (c : Array Value) (o : Nat), (pC c o vs).size = c.size
 | [], _, _ => rfl
 | v :: r, c, o => by simp [pC, nW r]
theorem xA : ∀ (vs : List Value) (c : Array Value) (o : Nat), o + vs.length ≤ c.size → (pC c o vs).toList = c.toList.take o ++ vs ++ c.toList.drop (o + vs.length)
 | [], c, o, _ => by simp [pC]
 | v :: r, c, o, h => by
  have h' : o + (r.length + 1) ≤ c.size := by simpa using h
  rw [pC, xA r _ _ (by simp; omega)]
  have := list_seg_step c.toList o v r (by simpa using h')
  simpa using this
theorem heap_setCell {w : World} {b : Nat} {c : Array Value} {T : TypeId} {fz : Nat × Nat} (h : w.heap[b]? = some (.cells c T fz)) (o : Nat) (v : Value) :
 (w.setCell ⟨b, o, none⟩ v).heap[b]? = some (.cells (c.setIfInBounds o v) T fz) := by
 simp [World.setCell, Array.getElem?_modify, h]
theorem vB {b : Nat} {T : TypeId} {fz : Nat × Nat} : ∀ (vs : List Value) (w : World) (c : Array Value) (o : Nat), w.heap[b]? = some (.cells c T fz) →
 (w.setCells b o vs).heap[b]? = some (.cells (pC c o vs) T fz)
 | [], _, _, _, h => h
 | v :: r, w, c, o, h => by
  rw [World.setCells, pC]
  exact vB r _ _ _ (heap_setCell h o v)
theorem wX {b : Nat} : ∀ (vs : List Value) (w : World) (o : Nat) (k : Nat), k ≠ b → (w.setCells b o vs).heap[k]? = w.heap[k]?
 | [], _, _, _, _ => rfl
 | v :: r, w, o, k, h => by
  rw [World.setCells, wX r _ _ k h]
  exact Below.heap_setCell w ⟨b, o, none⟩ v k h
theorem wZ {b : Nat} : ∀ (vs : List Value) (w : World) (o : Nat), (w.setCells b o vs).heap.size = w.heap.size
 | [], _, _ => rfl
 | v :: r, w, o => by rw [World.setCells, wZ r]; simp
theorem wY {b B : Nat} (hB : B ≤ b) : ∀ (vs : List Value) (w : World) (o : Nat), Bel B w (w.setCells b o vs)
 | [], w, _ => Bel.refl _ _
 | v :: r, w, o => by
  rw [World.setCells]
  exact ((Bel.refl B w).setCell (p := ⟨b, o, none⟩) hB v).trans (wY hB r _ _)
theorem wy3 {C : Ctx} {w : World} {cs vs : List AV} {c : Array Value} {us : List Value} (h : LR C w cs c.toList) (hv : LR C w vs us) {o : Nat} (hb : o + vs.length ≤ cs.length) :
 LR C w (jV cs o vs) (pC c o us).toList := by
 have h1 : c.size = cs.length := by simpa using h.1.symm
 rw [xA _ _ _ (by rw [← hv.1]; omega)]
 have := ((h.take o).append hv).append (h.drop (o + us.length))
 simpa [jV, hv.1] using this
theorem yk9 {cs vs : List AV} {o : Nat} (hb : o + vs.length ≤ cs.length) : (jV cs o vs).length = cs.length := by
 simp [jV]; omega
theorem xt1 {α : Type} (L us : List α) (b off n : Nat) (h : off + us.length ≤ n) (h2 : b + n ≤ L.length) :
 ((L.take (b + off) ++ us ++ L.drop (b + off + us.length)).drop b).take n = ((L.drop b).take n).take off ++ us ++ ((L.drop b).take n).drop (off + us.length) := by
 apply List.ext_getElem?
 intro i
 simp only [oR, jM, List.getElem?_append, dL, eW, mK]
 by_cases hi : i < n
 · by_cases h3 : i < off
   · have e1 : b + i < min (b + off) L.length + us.length := by omega
     have e2 : b + i < min (b + off) L.length := by omega
     have e3 : i < min off (min n (L.length - b)) + us.length := by omega
     have e4 : i < min off (min n (L.length - b)) := by omega
     have e5 : b + i < b + off := by omega
     simp [hi, e1, e2, e3, e4, e5, h3]
   · by_cases h4 : i < off + us.length
     · have e1 : b + i < min (b + off) L.length + us.length := by omega
       have e2 : ¬ b + i < min (b + off) L.length := by omega
       have e3 : i < min off (min n (L.length - b)) + us.length := by omega
       have e4 : ¬ i < min off (min n (L.length - b)) := by omega
       simp only [hi, e1, e2, e3, e4, fM, dG]
       congr 1; omega
     · have e1 : ¬ b + i < min (b + off) L.length + us.length := by omega
       have e3 : ¬ i < min off (min n (L.length - b)) + us.length := by omega
       have e5 : off + us.length + (i - (min off (min n (L.length - b)) + us.length)) < n := by omega
       simp only [hi, e1, e3, e5, fM, dG]
       congr 1; omega
 · have e3 : ¬ i < min off (min n (L.length - b)) + us.length := by omega
   have e5 : ¬ off + us.length + (i - (min off (min n (L.length - b)) + us.length)) < n := by omega
   simp [hi, e3, e5]
theorem sB {S : St} {l : Nat} {cs : List AV} (h : S.obj l = some cs) : S.objs.get l = some (.cells cs) := by
 unfold St.obj at h
 split at h
 · rename_i x hx; simp at h; subst h; exact hx
 · simp at h
theorem wk5 {S : St} {l : Nat} {cs : List AV} (h : S.objs.get l = some (.cells cs)) : ¬ iA (S.objs.get l) := by
 rw [h]; rintro (h | h) <;> cases h
theorem ys4 {E : Env} {C : Ctx} {S : St} {w : World} (hw : WR E C S w) {l off : Nat} {cs vs : List AV} {us : List Value}
 (hl : C.born l) (ho : S.obj l = some cs) (hv : LR C w vs us) (hb : off + vs.length ≤ cs.length) :
 (∀ j, j < us.length → (w.cell? ⟨C.mu l, C.bs l + off + j, none⟩).isSome = true) ∧ (∀ j, j < us.length → w.frozen? ⟨C.mu l, C.bs l + off + j, none⟩ = false) ∧
 WR E C (S.put l (.cells (jV cs off vs))) (w.setCells (C.mu l) (C.bs l + off) us) ∧ Ext C w C (w.setCells (C.mu l) (C.bs l + off) us) := by
 have hobj := hw.objs l hl
 have hg := sB ho
 rw [hg] at hobj
 obtain ⟨c, T, fz, hh, hlr, h3, h4, h5, hfz⟩ := hobj
 have hcl : us.length = vs.length := hv.1.symm
 have hb' : C.base ≤ C.mu l := (hw.mub l hl).1
 refine ⟨fun j hj => ?_, fun j hj => ?_, ?_⟩
 · rw [lD hh]
   have : C.bs l + off + j < c.size := by omega
   simp [this]
 · have hj' : C.bs l + off + j < c.size := by omega
   have hnf := hfz.at _ hj'
   simp [World.frozen?, hh]
   intro h1
   by_cases h2 : C.bs l + off + j < fz.2
   · exact absurd ⟨h1, h2⟩ hnf
   · omega
 · have hat := vB us w c (C.bs l + off) hh
   refine hw.put hl (wk5 hg) hat (fun b hb => wX _ w _ b hb) (wZ _ _ _) (wY hb' _ _ _) (fun x hx => ?_) ⟨_, T, fz, rfl, ?_, by rw [yk9 hb]; exact h3, h4, by rw [nW]; exact h5, by unfold unfrozen at *; rw [nW]; exact hfz⟩
   · rw [oX hh] at hx
     rw [oX hat, nW]; exact hx
   · rw [yk9 hb, xA _ _ _ (by omega), xt1 _ _ _ _ _ (by omega) (by simp; omega)]
     have := ((hlr.take off).append hv).append (hlr.drop (off + us.length))
     simpa [jV, hcl] using this
theorem wl1 {E : Env} (ok : E.Ok) {C : Ctx} {S : St} {w : World} (hw : WR E C S w) {t : TypeId} {i : TypeInfo} (hi : E.inf t = some i) {l off : Nat} {cs vs : List AV} {v : Value} {a : AV}
 (hl : C.born l) (ho : S.obj l = some cs) (hv : VR C w a v) (hc : cellsOf a = some vs) (hn : vs.length = i.size) (hb : off + vs.length ≤ cs.length) (hok : vs.all cB = true) :
 ∃ w', (Instr.storeAt t (.pointer (some ⟨C.mu l, C.bs l + off, none⟩)) v).run E.P w = .ok () w' ∧ WR E C (S.put l (.cells (jV cs off vs))) w' ∧ Ext C w C w' := by
 have hcl := yu9 hv hc
 have hvl : v.cells.toList.length = vs.length := hcl.1.symm
 have hvs : v.cells.size = i.size := by have := hvl; simp at this; omega
 obtain ⟨k1, k2, k3⟩ := ys4 hw hl ho hcl hb
 refine ⟨_, ?_, k3⟩
 have := run_storeCells_cells (P := E.P) (C.mu l) (C.bs l + off) v.cells.toList 0 w (by simpa using k1) (by simpa using k2) (tA hcl hok)
 simp only [aM] at this
 simp [Instr.storeAt, Instr.sureAddr, storeVar, sizeOf, typeInfo, ok.inf t i hi, hvs, this]
theorem wg7 (off : Nat) : ∀ (l : List Value) (k : Nat) (c : Array Value), (l.zipIdx k).foldl (fun cs (p : Value × Nat) => cs.setIfInBounds (off + p.2) p.1) c = pC c (off + k) l
 | [], _, _ => rfl
 | v :: r, k, c => by
  simp only [List.zipIdx_cons, List.foldl_cons, pC]
  rw [wg7 off r (k + 1)]
  rw [kD]
inductive PR (C : Ctx) (w : World) : List (Nat × AV) → List (Nat × Value) → Prop
 | nil : PR C w [] []
 | cons (i : Nat) (a : AV) (v : Value) (l : List (Nat × AV)) (m : List (Nat × Value)) (h : VR C w a v) (hl : PR C w l m) : PR C w ((i, a) :: l) ((i, v) :: m)
theorem xz7 {C : Ctx} {w : World} {place : Nat → Option (Nat × Nat)} {l : List (Nat × AV)} {m : List (Nat × Value)} (hp : PR C w l m) :
 ∀ {cs out : List AV} {c : Array Value}, LR C w cs c.toList → qN place cs l = some out → ∃ r, Instr.fill place c m = some r ∧ LR C w out r.toList := by
 induction hp with
 | nil => intro cs out c h hf; simp [qN] at hf; subst hf; exact ⟨c, rfl, h⟩
 | cons i a v l m hv _ ih =>
  intro cs out c h hf
  simp only [qN] at hf
  split at hf
  · rename_i off size vs hpl hc
    cases hb : (Nat.beq vs.length size && Nat.ble (off + vs.length) cs.length) with
    | false => rw [hb] at hf; simp at hf
    | true =>
     rw [hb] at hf
     simp only [aH] at hf
     simp only [aS] at hb
     have h1 := bA hb.1
     have h2 := bW hb.2
     have hcl := yu9 hv hc
     have hvl : v.cells.size = vs.length := by simpa using hcl.1.symm
     have hsz : c.size = cs.length := by simpa using h.1.symm
     obtain ⟨r, k1, k2⟩ := ih (wy3 h hcl h2) hf
     refine ⟨r, ?_, k2⟩
     rw [Instr.fill]
     simp only [hpl]
     rw [aR (by simp; omega)]
     rw [← k1]
     congr 1
     rw [← Array.foldl_toList]
     have := wg7 off v.cells.toList 0 c
     simp only [aM] at this
     simpa using this
  · simp at hf
theorem xY {E : Env} {C : Ctx} {S : St} {w : World} {tm : PM AV} {a : Act} (hw : WR E C S w) (ht : TR C w tm a.tmps) : ∀ (l : List (Nat × Operand)),
 PR C w (l.map fun p => (p.1, E.ev tm p.2)) (l.map fun p => (p.1, a.eval p.2))
 | [] => .nil
 | p :: l => .cons _ _ _ _ _ (tT hw ht p.2) (xY hw ht l)
end Go.Abs
