/-
  The evaluator's operations, one by one: what each gives stands to what the model's operation gives.
-/
import Derived.Test.YtfgdhcomldidlaaGreatDoorAbs2
import Derived.Deep.AppendSrc
import Derived.Deep.MidRow
set_option linter.unusedSimpArgs false
set_option linter.unusedVariables false
namespace Go.Abs
open Go.RowKit

/-- The cells of block b from o on stand for 'cs'. -/
noncomputable def Seg (C : Ctx) (w : World) (b o : Nat) (cs : List AV) : Prop := ∃ vs, LR C w cs vs ∧ w.rangeAt b o vs

theorem Seg.of_fun {C : Ctx} {w : World} {b o : Nat} {cs : List AV} {u : Nat → Value} (hc : ∀ i, i < cs.length → w.cell? ⟨b, o + i, none⟩ = some (u i)) (hr : ∀ i x, cs[i]? = some x → VR C w x (u i)) : Seg C w b o cs := by
  refine ⟨(List.range cs.length).map u, ⟨by simp, fun i x hx => ?_⟩, fun j v hv => ?_⟩
  · have hi : i < cs.length := by
      rcases Nat.lt_or_ge i cs.length with h' | h'
      · exact h'
      · simp [List.getElem?_eq_none h'] at hx
    simpa [hi] using hr i x hx
  · have hj : j < cs.length := by
      rcases Nat.lt_or_ge j cs.length with h' | h'
      · exact h'
      · simp [h'] at hv
    simp [hj] at hv
    subst hv
    exact hc j hj
theorem Seg.fun {C : Ctx} {w : World} {b o : Nat} {cs : List AV} (h : Seg C w b o cs) : ∃ u : Nat → Value, (∀ i, i < cs.length → w.cell? ⟨b, o + i, none⟩ = some (u i)) ∧ (∀ i x, cs[i]? = some x → VR C w x (u i)) := by
  obtain ⟨vs, hl, hr⟩ := h
  exact ⟨fun i => vs.getD i undef, fun i hi => by
    have : i < vs.length := hl.1 ▸ hi
    exact hr i _ (by simp [this]), hl.2⟩
theorem VR.eptr_mk {C : Ctx} {w : World} {cs : List AV} {b o : Nat} (off : Nat) (hb : b < w.heap.size) (hf : C.free b) (ht : o + cs.length ≤ C.top b) (hs : Seg C w b o cs) :
    VR C w (.eptr cs off) (.pointer (some ⟨b, o + off, none⟩)) := by
  obtain ⟨u, h1, h2⟩ := hs.fun
  exact .eptr cs off b o u hb hf ht h1 h2
theorem VR.eptr_inv {C : Ctx} {w : World} {cs : List AV} {off : Nat} {v : Value} (h : VR C w (.eptr cs off) v) :
    ∃ b o, v = .pointer (some ⟨b, o + off, none⟩) ∧ b < w.heap.size ∧ C.free b ∧ o + cs.length ≤ C.top b ∧ Seg C w b o cs := by
  cases h with
  | eptr _ _ b o u hb hf ht hc hr => exact ⟨b, o, rfl, hb, hf, ht, Seg.of_fun hc hr⟩

structure VecAt (C : Ctx) (w : World) (id sz : Nat) (xs : List AV) (fl : List AV) (b o cap : Nat) : Prop where
  szpos : 0 < sz
  lc : xs.length ≤ cap
  flat : flat? sz xs = some fl
  lt : b < w.heap.size
  free : C.free b
  top : o + fl.length ≤ C.top b
  seg : Seg C w b o fl
  hd : 2 < id → id < C.nid ∧ C.io id = ⟨b, o, xs.length, cap, sz⟩
  x1 : id = 1 ∨ id = 2 → cap = xs.length
  x2 : id = 1 → C.base ≤ b ∧ ∀ i, 2 < i → i < C.nid → (C.io i).b ≠ b
theorem VecAt.mk' {C : Ctx} {w : World} {id sz : Nat} {xs fl : List AV} {b o cap : Nat} (h : VecAt C w id sz xs fl b o cap) : VR C w (.vec id sz xs) (.slice (some ⟨b, o, none⟩) xs.length cap) := by
  obtain ⟨u, h1, h2⟩ := h.seg.fun
  exact .vec id sz xs fl b o cap u h.szpos h.lc h.flat h.lt h.free h.top h1 h2 h.hd h.x1 h.x2
theorem VR.vec_inv {C : Ctx} {w : World} {id sz : Nat} {xs : List AV} {v : Value} (h : VR C w (.vec id sz xs) v) :
    (id = 0 ∧ xs = [] ∧ ∃ a cap, v = .slice (some a) 0 cap) ∨ (∃ fl b o cap, v = .slice (some ⟨b, o, none⟩) xs.length cap ∧ VecAt C w id sz xs fl b o cap) := by
  cases h with
  | vec0 _ a cap => exact .inl ⟨rfl, rfl, a, cap, rfl⟩
  | vec _ _ _ fl b o cap u hs hlc hfl hb hf ht hc hr hid hx1 hx2 => exact .inr ⟨fl, b, o, cap, rfl, ⟨hs, hlc, hfl, hb, hf, ht, Seg.of_fun hc hr, hid, hx1, hx2⟩⟩
theorem VR.vec_slice {C : Ctx} {w : World} {id sz : Nat} {xs : List AV} {v : Value} (h : VR C w (.vec id sz xs) v) : ∃ a cap, v = .slice (some a) xs.length cap := by
  rcases h.vec_inv with ⟨_, rfl, a, cap, rfl⟩ | ⟨fl, b, o, cap, rfl, _⟩
  · exact ⟨a, cap, rfl⟩
  · exact ⟨_, cap, rfl⟩

theorem vr_ofCell (C : Ctx) (w : World) (v : Value) : VR C w (ofCell v) v := by
  cases v with
  | agg cs => exact LR.agg (LR.scs _)
  | _ => exact .sc _
theorem lr_ofCells {C : Ctx} {w : World} (l : List Value) : LR C w (l.map ofCell) l := by
  induction l with
  | nil => exact LR.nil _ _
  | cons v l ih => exact LR.cons (vr_ofCell _ _ v) ih
theorem vr_ofV (C : Ctx) (w : World) (v : Value) : VR C w (ofV v) v := by
  cases v with
  | agg cs => exact LR.agg (LR.scs _)
  | tuple vs =>
    simp only [ofV]
    by_cases h : vs.isEmpty = true
    · have : vs = #[] := by simpa using h
      subst this; exact .sc _
    · have h' : vs.isEmpty = false := by simpa using h
      rw [h', cond_false]
      exact LR.tup (lr_ofCells _)
  | _ => exact .sc _

theorem concAll_eq {C : Ctx} {w : World} : ∀ {cs : List AV} {vs us : List Value}, LR C w cs vs → concAll cs = some us → us = vs
  | [], [], us, _, h => by simpa [concAll] using h.symm
  | [], _ :: _, _, h, _ => absurd h.1 (by simp)
  | _ :: _, [], _, h, _ => absurd h.1 (by simp)
  | a :: cs, v :: vs, us, h, hc => by
    simp only [concAll] at hc
    split at hc
    · rename_i v' vs' h1 h2
      simp only [Option.some.injEq] at hc
      subst hc
      have h3 := concAll_eq h.tail h2
      cases a with
      | sc x =>
        simp [concCell] at h1; subst h1
        have := h.head.sc_inv
        rw [h3, this]
      | _ => simp [concCell] at h1
    · simp at hc
theorem conc_eq {C : Ctx} {w : World} {a : AV} {v u : Value} (h : VR C w a v) (hc : conc a = some u) : u = v := by
  cases a with
  | sc x => simp [conc] at hc; subst hc; exact h.sc_inv.symm
  | agg cs =>
    obtain ⟨vs, rfl, hl⟩ := h.agg_inv
    simp only [conc, Option.map_eq_some_iff] at hc
    obtain ⟨us, h1, rfl⟩ := hc
    rw [concAll_eq hl h1]
  | _ => simp [conc] at hc

/-- The temporaries. -/
noncomputable def TR (C : Ctx) (w : World) (tm : PM AV) (ts : Array Value) : Prop := ∀ i x, tm.get i = some x → VR C w x (ts.getD i undef)
theorem TR.ext {C C' : Ctx} {w w' : World} {tm : PM AV} {ts : Array Value} (h : TR C w tm ts) (e : Ext C w C' w') : TR C' w' tm ts := fun i x hx => (h i x hx).ext e
theorem TR.getT {C : Ctx} {w : World} {tm : PM AV} {ts : Array Value} (h : TR C w tm ts) (t : Nat) : VR C w (getT tm t) (ts.getD t undef) := by
  unfold Abs.getT
  cases hg : tm.get t with
  | none => exact .undef _
  | some x => exact h t x hg
theorem TR.put {C : Ctx} {w : World} {tm tm' : PM AV} {a : Act} {nt : Nat} {dst : Option Tmp} {v : AV} {u : Value} (h : TR C w tm a.tmps) (hn : a.tmps.size = nt) (hv : VR C w v u) (hp : putA nt dst v tm = some tm') :
    TR C w tm' (a.put dst u).tmps ∧ (a.put dst u).tmps.size = nt := by
  cases dst with
  | none => simp [putA] at hp; subst hp; exact ⟨h, hn⟩
  | some d =>
    simp only [putA] at hp
    cases hb : Nat.blt d nt with
    | false => rw [hb] at hp; simp at hp
    | true =>
      rw [hb] at hp
      simp at hp
      subst hp
      have hd : d < a.tmps.size := by rw [hn]; exact Nat.le_of_ble_eq_true hb
      refine ⟨fun i x hx => ?_, by simp [Act.put, hn]⟩
      rw [PM.get_set] at hx
      simp only [Act.put]
      by_cases hi : i = d
      · subst hi; simp at hx; subst hx; simpa [hd] using hv
      · rw [if_neg hi] at hx
        have := h i x hx
        simpa [Array.getElem?_setIfInBounds, Ne.symm hi] using this

theorem ev_rel {E : Env} {C : Ctx} {S : St} {w : World} {tm : PM AV} {a : Act} (hw : WR E C S w) (ht : TR C w tm a.tmps) (x : Operand) : VR C w (E.ev tm x) (a.eval x) := by
  cases x with
  | tmp t => exact ht.getT t
  | const v => exact vr_ofV _ _ v
  | func f => exact .sc _
  | global g =>
    simp only [Env.ev]
    cases hg : E.G g with
    | none => exact .undef _
    | some cs => exact hw.glob g cs hg
theorem evs_rel {E : Env} {C : Ctx} {S : St} {w : World} {tm : PM AV} {a : Act} (hw : WR E C S w) (ht : TR C w tm a.tmps) (l : List Operand) : LR C w (l.map (E.ev tm)) (l.map a.eval) := by
  induction l with
  | nil => exact LR.nil _ _
  | cons x l ih => exact LR.cons (ev_rel hw ht x) ih

/-- What an operation comes to. -/
noncomputable def Good (E : Env) (C : Ctx) (w : World) (r : Sem Next) (v : AV) (S' : St) : Prop :=
  (∃ u C' w', r.run E.P w = .ok (.value u) w' ∧ WR E C' S' w' ∧ Ext C w C' w' ∧ VR C' w' v u) ∨
  (∃ C' w', r.run E.P w = .ok .skip w' ∧ v = passed ∧ WR E C' S' w' ∧ Ext C w C' w') ∨
  (∃ f args, r.run E.P w = .ok (.enter f args) w ∧ Calls E.P f args w (fun e w' => ∃ u C', e = .returned u ∧ WR E C' S' w' ∧ Ext C w C' w' ∧ VR C' w' v u))

theorem Good.val {E : Env} {C : Ctx} {S : St} {w : World} {r : Sem Next} {v : AV} {u : Value} (hw : WR E C S w) (h : r.run E.P w = .ok (.value u) w) (hv : VR C w v u) : Good E C w r v S :=
  .inl ⟨u, C, w, h, hw, Ext.refl _ _, hv⟩
theorem run_v {P : Program} {w w' : World} {s : Sem Value} {u : Value} (h : s.run P w = .ok u w') : (do pure (Next.value (← s)) : Sem Next).run P w = .ok (.value u) w' := by
  rw [Sem.run_bind, h]; rfl

theorem Good.wp {E : Env} {C : Ctx} {w : World} {o : Oper} {a : Act} {v : AV} {S' : St} {K : Act → World → Prop} {Q : Exit → Act → World → Prop}
    (h : Good E C w (execOp a.eval o) v S') (hk : ∀ u C' w', WR E C' S' w' → Ext C w C' w' → VR C' w' v u → K (a.put o.dst u) w') : o.wp E.P a w K Q := by
  unfold Oper.wp
  rcases h with ⟨u, C', w', h1, h2, h3, h4⟩ | ⟨C', w', h1, rfl, h2, h3⟩ | ⟨f, args, h1, h2⟩
  · rw [h1]; exact hk u C' w' h2 h3 h4
  · rw [h1]; exact hk Go.undef C' w' h2 h3 (.sc _)
  · rw [h1]
    exact h2.mono fun e w' ⟨u, C', he, k1, k2, k3⟩ => by subst he; exact hk u C' w' k1 k2 k3

/-- A load. -/
theorem load_cells {E : Env} (ok : E.Ok) {C : Ctx} {w : World} {t : TypeId} {cs : List AV} {off : Nat} {v : AV} (h : E.cutAt t cs off = some v) {b o : Nat} (hs : Seg C w b o cs) :
    ∃ x, (loadVar t ⟨b, o + off, none⟩).run E.P w = .ok x w ∧ VR C w v x := by
  unfold Env.cutAt at h
  cases hd : E.und t with
  | none => simp [hd] at h
  | some d => cases hi : E.inf t with
    | none => simp [hd, hi] at h
    | some i =>
      simp only [hd, hi, cut] at h
      cases hb : Nat.ble (off + i.size) cs.length with
      | false => rw [hb] at h; simp at h
      | true =>
        have hle : off + i.size ≤ cs.length := Nat.le_of_ble_eq_true hb
        rw [hb] at h
        simp only [cond_true] at h
        obtain ⟨vs, hl, hr⟩ := hs
        have hu := ok.und t d hd
        have hin := ok.inf t i hi
        cases ha : isAggD d with
        | true =>
          rw [ha] at h
          simp only [cond_true, Option.some.injEq] at h
          subst h
          have hlen : ((vs.drop off).take i.size).length = i.size := by rw [List.length_take, List.length_drop, ← hl.1]; omega
          refine ⟨.agg ((vs.drop off).take i.size).toArray, run_loadVar_mid w b (o + off) t _ d ?_ hu (by cases d <;> simp_all [isAggD]) (by rw [hin]; simp [hlen]), LR.agg (by simpa using (hl.drop off).take i.size)⟩
          intro j x hx
          rw [List.getElem?_take] at hx
          split at hx
          · rw [List.getElem?_drop] at hx
            have := hr _ _ hx
            rwa [← Nat.add_assoc] at this
          · cases hx
        | false =>
          rw [ha] at h
          simp only [cond_false] at h
          cases hz : Nat.beq i.size 1 with
          | false => rw [hz] at h; simp at h
          | true =>
            rw [hz] at h
            simp only [cond_true] at h
            obtain ⟨x, hx, hv⟩ := hl.get h
            refine ⟨x, ?_, hv⟩
            have hagg : (isAgg t).run E.P w = .ok false w := by
              unfold isAgg
              rw [Sem.run_bind, run_underlying hu w]
              cases d <;> simp_all [isAggD]
            have hcell := hr _ _ hx
            simp [loadVar, hagg, load, Sem.run, hcell]

/-- A part of a value. -/
theorem part_cells {E : Env} (ok : E.Ok) {C : Ctx} {w : World} {t : TypeId} {cs : List AV} {off : Nat} {v : AV} (h : E.cutAt t cs off = some v) {vs : Array Value} (hl : LR C w cs vs.toList) :
    ∃ x, (part t vs off).run E.P w = .ok x w ∧ VR C w v x := by
  unfold Env.cutAt at h
  cases hd : E.und t with
  | none => simp [hd] at h
  | some d => cases hi : E.inf t with
    | none => simp [hd, hi] at h
    | some i =>
      simp only [hd, hi, cut] at h
      cases hb : Nat.ble (off + i.size) cs.length with
      | false => rw [hb] at h; simp at h
      | true =>
        have hle : off + i.size ≤ cs.length := Nat.le_of_ble_eq_true hb
        rw [hb] at h
        simp only [cond_true] at h
        have hu := ok.und t d hd
        have hin := ok.inf t i hi
        cases ha : isAggD d with
        | true =>
          rw [ha] at h
          simp only [cond_true, Option.some.injEq] at h
          subst h
          have hagg : (isAgg t).run E.P w = .ok true w := by
            unfold isAgg
            rw [Sem.run_bind, run_underlying hu w]
            cases d <;> simp_all [isAggD]
          refine ⟨.agg (vs.extract off (off + i.size)), by simp [part, hagg, sizeOf, typeInfo, hin], LR.agg ?_⟩
          have := (hl.drop off).take i.size
          simpa [Array.toList_extract, List.extract_eq_take_drop, Nat.add_sub_cancel_left] using this
        | false =>
          rw [ha] at h
          simp only [cond_false] at h
          cases hz : Nat.beq i.size 1 with
          | false => rw [hz] at h; simp at h
          | true =>
            rw [hz] at h
            simp only [cond_true] at h
            obtain ⟨x, hx, hv⟩ := hl.get h
            refine ⟨x, ?_, hv⟩
            have hagg : (isAgg t).run E.P w = .ok false w := by
              unfold isAgg
              rw [Sem.run_bind, run_underlying hu w]
              cases d <;> simp_all [isAggD]
            have hx' : vs[off]? = some x := by simpa using hx
            simp [part, hagg, hx']

theorem cellsOf_rel {C : Ctx} {w : World} {a : AV} {v : Value} {cs : List AV} (h : VR C w a v) (hc : cellsOf a = some cs) : LR C w cs v.cells.toList := by
  cases h with
  | undef v => simp [cellsOf] at hc
  | sc v =>
    cases v <;> simp [cellsOf] at hc <;> subst hc <;> exact LR.cons (.sc _) (LR.nil _ _)
  | ptr l off hl => simp [cellsOf] at hc; subst hc; exact LR.cons (.ptr l off hl) (LR.nil _ _)
  | eptr cs off b o u hb hf ht hcc hr => simp [cellsOf] at hc; subst hc; exact LR.cons (.eptr cs off b o u hb hf ht hcc hr) (LR.nil _ _)
  | vec0 sz a cap => simp [cellsOf] at hc; subst hc; exact LR.cons (.vec0 sz a cap) (LR.nil _ _)
  | vec id sz xs fl b o cap u hs hlc hfl hb hf ht hcc hr hid hx1 hx2 => simp [cellsOf] at hc; subst hc; exact LR.cons (.vec id sz xs fl b o cap u hs hlc hfl hb hf ht hcc hr hid hx1 hx2) (LR.nil _ _)
  | udat id xs fl b o cap u hfl hb hf ht hcc hr hid => simp [cellsOf] at hc; subst hc; exact LR.cons (.udat id xs fl b o cap u hfl hb hf ht hcc hr hid) (LR.nil _ _)
  | osl l sz off len room a cap h hs hlr hrc hro hcl ha => simp [cellsOf] at hc; subst hc; exact LR.cons (.osl l sz off len room a cap h hs hlr hrc hro hcl ha) (LR.nil _ _)
  | mp l h => simp [cellsOf] at hc; subst hc; exact LR.cons (.mp l h) (LR.nil _ _)
  | agg cs' vs hl hr => simp [cellsOf] at hc; subst hc; exact ⟨by simpa [Value.cells] using hl, fun i x hx => by simpa [Value.cells] using hr i x hx⟩
  | tup cs' vs hl hr => simp [cellsOf] at hc
  | fn f c1 c2 v1 v2 h1 h2 h3 h4 => simp [cellsOf] at hc; subst hc; exact LR.cons (.fn f c1 c2 v1 v2 h1 h2 h3 h4) (LR.nil _ _)
  | ifc t a v h => simp [cellsOf] at hc; subst hc; exact LR.cons (.ifc t a v h) (LR.nil _ _)

theorem okCell_one {C : Ctx} {w : World} {a : AV} {v : Value} (h : VR C w a v) (hc : okCell a = true) : v.oneCell' = true := by
  cases h with
  | sc v => cases v <;> first | rfl | simp [okCell] at hc
  | undef v => simp [okCell] at hc
  | agg cs vs hl hr => simp [okCell] at hc
  | tup cs vs hl hr => simp [okCell] at hc
  | _ => rfl

theorem okCells_one {C : Ctx} {w : World} {cs : List AV} {vs : List Value} (h : LR C w cs vs) (hc : cs.all okCell = true) : ∀ u ∈ vs, u.oneCell' = true := by
  intro u hu
  obtain ⟨i, hi, rfl⟩ := List.mem_iff_getElem.1 hu
  have hi' : i < cs.length := by rw [h.1]; exact hi
  have h1 := h.2 i cs[i] (by simp [hi'])
  simp [hi] at h1
  exact okCell_one h1 (List.all_eq_true.1 hc _ (List.getElem_mem hi'))

end Go.Abs
