/-
  Rows of cells that are written; values that are built of parts.
-/
import Derived.Test.YtfgdhcomldidlaaGreatDoorAbs3
set_option linter.unusedSimpArgs false
set_option linter.unusedVariables false
namespace Go.Abs
open Go.RowKit

noncomputable def setAll : Array Value → Nat → List Value → Array Value
  | c, _, [] => c
  | c, o, v :: r => setAll (c.setIfInBounds o v) (o + 1) r

theorem setAll_size : ∀ (vs : List Value) (c : Array Value) (o : Nat), (setAll c o vs).size = c.size
  | [], _, _ => rfl
  | v :: r, c, o => by simp [setAll, setAll_size r]
theorem setAll_toList : ∀ (vs : List Value) (c : Array Value) (o : Nat), o + vs.length ≤ c.size → (setAll c o vs).toList = c.toList.take o ++ vs ++ c.toList.drop (o + vs.length)
  | [], c, o, _ => by simp [setAll]
  | v :: r, c, o, h => by
    have h' : o + (r.length + 1) ≤ c.size := by simpa using h
    rw [setAll, setAll_toList r _ _ (by simp; omega)]
    have := list_seg_step c.toList o v r (by simpa using h')
    simpa using this
theorem setAll_get_out : ∀ (vs : List Value) (c : Array Value) (o i : Nat), (i < o ∨ o + vs.length ≤ i) → (setAll c o vs)[i]? = c[i]?
  | [], _, _, _, _ => rfl
  | v :: r, c, o, i, h => by
    rw [setAll, setAll_get_out r _ _ i (by simp at h; omega), Array.getElem?_setIfInBounds]
    have : o ≠ i := by simp at h; omega
    simp [this]

theorem heap_setCell {w : World} {b : Nat} {c : Array Value} {T : TypeId} {fz : Nat × Nat} (h : w.heap[b]? = some (.cells c T fz)) (o : Nat) (v : Value) :
    (w.setCell ⟨b, o, none⟩ v).heap[b]? = some (.cells (c.setIfInBounds o v) T fz) := by
  simp [World.setCell, Array.getElem?_modify, h]
theorem heap_setCells {b : Nat} {T : TypeId} {fz : Nat × Nat} : ∀ (vs : List Value) (w : World) (c : Array Value) (o : Nat), w.heap[b]? = some (.cells c T fz) →
    (w.setCells b o vs).heap[b]? = some (.cells (setAll c o vs) T fz)
  | [], _, _, _, h => h
  | v :: r, w, c, o, h => by
    rw [World.setCells, setAll]
    exact heap_setCells r _ _ _ (heap_setCell h o v)
theorem heap_setCells_ne {b : Nat} : ∀ (vs : List Value) (w : World) (o : Nat) (k : Nat), k ≠ b → (w.setCells b o vs).heap[k]? = w.heap[k]?
  | [], _, _, _, _ => rfl
  | v :: r, w, o, k, h => by
    rw [World.setCells, heap_setCells_ne r _ _ k h]
    exact Below.heap_setCell w ⟨b, o, none⟩ v k h
theorem size_setCells {b : Nat} : ∀ (vs : List Value) (w : World) (o : Nat), (w.setCells b o vs).heap.size = w.heap.size
  | [], _, _ => rfl
  | v :: r, w, o => by rw [World.setCells, size_setCells r]; simp
theorem below_setCells {b B : Nat} (hB : B ≤ b) : ∀ (vs : List Value) (w : World) (o : Nat), Bel B w (w.setCells b o vs)
  | [], w, _ => Bel.refl _ _
  | v :: r, w, o => by
    rw [World.setCells]
    exact ((Bel.refl B w).setCell (p := ⟨b, o, none⟩) hB v).trans (below_setCells hB r _ _)

theorem splice_rel {C : Ctx} {w : World} {cs vs : List AV} {c : Array Value} {us : List Value} (h : LR C w cs c.toList) (hv : LR C w vs us) {o : Nat} (hb : o + vs.length ≤ cs.length) :
    LR C w (splice cs o vs) (setAll c o us).toList := by
  have h1 : c.size = cs.length := by simpa using h.1.symm
  rw [setAll_toList _ _ _ (by rw [← hv.1]; omega)]
  have := ((h.take o).append hv).append (h.drop (o + us.length))
  simpa [splice, hv.1] using this
theorem splice_length {cs vs : List AV} {o : Nat} (hb : o + vs.length ≤ cs.length) : (splice cs o vs).length = cs.length := by
  simp [splice]; omega
theorem seg_splice {α : Type} (L us : List α) (b off n : Nat) (h : off + us.length ≤ n) (h2 : b + n ≤ L.length) :
    ((L.take (b + off) ++ us ++ L.drop (b + off + us.length)).drop b).take n = ((L.drop b).take n).take off ++ us ++ ((L.drop b).take n).drop (off + us.length) := by
  apply List.ext_getElem?
  intro i
  simp only [List.getElem?_take, List.getElem?_drop, List.getElem?_append, List.length_append, List.length_take, List.length_drop]
  by_cases hi : i < n
  · by_cases h3 : i < off
    · have e1 : b + i < min (b + off) L.length + us.length := by omega
      have e2 : b + i < min (b + off) L.length := by omega
      have e3 : i < min off (min n (L.length - b)) + us.length := by omega
      have e4 : i < min off (min n (L.length - b)) := by omega
      have e5 : b + i < b + off := by omega
      simp [hi, e1, e2, e3, e4, e5, h3]
    · by_cases h4 : i < off + us.length
      · have e1 : b + i < min (b + off) L.length + us.length := by omega
        have e2 : ¬ b + i < min (b + off) L.length := by omega
        have e3 : i < min off (min n (L.length - b)) + us.length := by omega
        have e4 : ¬ i < min off (min n (L.length - b)) := by omega
        simp only [hi, e1, e2, e3, e4, if_true, if_false]
        congr 1; omega
      · have e1 : ¬ b + i < min (b + off) L.length + us.length := by omega
        have e3 : ¬ i < min off (min n (L.length - b)) + us.length := by omega
        have e5 : off + us.length + (i - (min off (min n (L.length - b)) + us.length)) < n := by omega
        simp only [hi, e1, e3, e5, if_true, if_false]
        congr 1; omega
  · have e3 : ¬ i < min off (min n (L.length - b)) + us.length := by omega
    have e5 : ¬ off + us.length + (i - (min off (min n (L.length - b)) + us.length)) < n := by omega
    simp [hi, e3, e5]

theorem obj_inv {S : St} {l : Nat} {cs : List AV} (h : S.obj l = some cs) : S.objs.get l = some (.cells cs) := by
  unfold St.obj at h
  split at h
  · rename_i x hx; simp at h; subst h; exact hx
  · simp at h
theorem acc_cells {S : St} {l : Nat} {cs : List AV} (h : S.objs.get l = some (.cells cs)) : ¬ inacc (S.objs.get l) := by
  rw [h]; rintro (h | h) <;> cases h

/-- Cells of an object are written. -/
theorem write_cells {E : Env} {C : Ctx} {S : St} {w : World} (hw : WR E C S w) {l off : Nat} {cs vs : List AV} {us : List Value}
    (hl : C.born l) (ho : S.obj l = some cs) (hv : LR C w vs us) (hb : off + vs.length ≤ cs.length) :
    (∀ j, j < us.length → (w.cell? ⟨C.mu l, C.bs l + off + j, none⟩).isSome = true) ∧ (∀ j, j < us.length → w.frozen? ⟨C.mu l, C.bs l + off + j, none⟩ = false) ∧
    WR E C (S.put l (.cells (splice cs off vs))) (w.setCells (C.mu l) (C.bs l + off) us) ∧ Ext C w C (w.setCells (C.mu l) (C.bs l + off) us) := by
  have hobj := hw.objs l hl
  have hg := obj_inv ho
  rw [hg] at hobj
  obtain ⟨c, T, fz, hh, hlr, h3, h4, h5, hfz⟩ := hobj
  have hcl : us.length = vs.length := hv.1.symm
  have hb' : C.base ≤ C.mu l := (hw.mub l hl).1
  refine ⟨fun j hj => ?_, fun j hj => ?_, ?_⟩
  · rw [cell_block hh]
    have : C.bs l + off + j < c.size := by omega
    simp [this]
  · have hj' : C.bs l + off + j < c.size := by omega
    have hnf := hfz.at _ hj'
    simp [World.frozen?, hh]
    intro h1
    by_cases h2 : C.bs l + off + j < fz.2
    · exact absurd ⟨h1, h2⟩ hnf
    · omega
  · have hat := heap_setCells us w c (C.bs l + off) hh
    refine hw.put hl (acc_cells hg) hat (fun b hb => heap_setCells_ne _ w _ b hb) (size_setCells _ _ _) (below_setCells hb' _ _ _) (fun x hx => ?_) ⟨_, T, fz, rfl, ?_, by rw [splice_length hb]; exact h3, h4, by rw [setAll_size]; exact h5, by unfold unfrozen at *; rw [setAll_size]; exact hfz⟩
    · rw [shape_block hh] at hx
      rw [shape_block hat, setAll_size]; exact hx
    · rw [splice_length hb, setAll_toList _ _ _ (by omega), seg_splice _ _ _ _ _ (by omega) (by simp; omega)]
      have := ((hlr.take off).append hv).append (hlr.drop (off + us.length))
      simpa [splice, hcl] using this

/-- A store into an object. -/
theorem store_cells {E : Env} (ok : E.Ok) {C : Ctx} {S : St} {w : World} (hw : WR E C S w) {t : TypeId} {i : TypeInfo} (hi : E.inf t = some i) {l off : Nat} {cs vs : List AV} {v : Value} {a : AV}
    (hl : C.born l) (ho : S.obj l = some cs) (hv : VR C w a v) (hc : cellsOf a = some vs) (hn : vs.length = i.size) (hb : off + vs.length ≤ cs.length) (hok : vs.all okCell = true) :
    ∃ w', (Instr.storeAt t (.pointer (some ⟨C.mu l, C.bs l + off, none⟩)) v).run E.P w = .ok () w' ∧ WR E C (S.put l (.cells (splice cs off vs))) w' ∧ Ext C w C w' := by
  have hcl := cellsOf_rel hv hc
  have hvl : v.cells.toList.length = vs.length := hcl.1.symm
  have hvs : v.cells.size = i.size := by have := hvl; simp at this; omega
  obtain ⟨k1, k2, k3⟩ := write_cells hw hl ho hcl hb
  refine ⟨_, ?_, k3⟩
  have := run_storeCells_cells (P := E.P) (C.mu l) (C.bs l + off) v.cells.toList 0 w (by simpa using k1) (by simpa using k2) (okCells_one hcl hok)
  simp only [Nat.add_zero] at this
  simp [Instr.storeAt, Instr.sureAddr, storeVar, sizeOf, typeInfo, ok.inf t i hi, hvs, this]

theorem foldl_zip (off : Nat) : ∀ (l : List Value) (k : Nat) (c : Array Value), (l.zipIdx k).foldl (fun cs (p : Value × Nat) => cs.setIfInBounds (off + p.2) p.1) c = setAll c (off + k) l
  | [], _, _ => rfl
  | v :: r, k, c => by
    simp only [List.zipIdx_cons, List.foldl_cons, setAll]
    rw [foldl_zip off r (k + 1)]
    rw [Nat.add_assoc]

/-- The parts that stand to each other. -/
inductive PR (C : Ctx) (w : World) : List (Nat × AV) → List (Nat × Value) → Prop
  | nil : PR C w [] []
  | cons (i : Nat) (a : AV) (v : Value) (l : List (Nat × AV)) (m : List (Nat × Value)) (h : VR C w a v) (hl : PR C w l m) : PR C w ((i, a) :: l) ((i, v) :: m)

theorem fill_rel {C : Ctx} {w : World} {place : Nat → Option (Nat × Nat)} {l : List (Nat × AV)} {m : List (Nat × Value)} (hp : PR C w l m) :
    ∀ {cs out : List AV} {c : Array Value}, LR C w cs c.toList → fillA place cs l = some out → ∃ r, Instr.fill place c m = some r ∧ LR C w out r.toList := by
  induction hp with
  | nil => intro cs out c h hf; simp [fillA] at hf; subst hf; exact ⟨c, rfl, h⟩
  | cons i a v l m hv _ ih =>
    intro cs out c h hf
    simp only [fillA] at hf
    split at hf
    · rename_i off size vs hpl hc
      cases hb : (Nat.beq vs.length size && Nat.ble (off + vs.length) cs.length) with
      | false => rw [hb] at hf; simp at hf
      | true =>
        rw [hb] at hf
        simp only [cond_true] at hf
        simp only [Bool.and_eq_true] at hb
        have h1 := Nat.eq_of_beq_eq_true hb.1
        have h2 := Nat.le_of_ble_eq_true hb.2
        have hcl := cellsOf_rel hv hc
        have hvl : v.cells.size = vs.length := by simpa using hcl.1.symm
        have hsz : c.size = cs.length := by simpa using h.1.symm
        obtain ⟨r, k1, k2⟩ := ih (splice_rel h hcl h2) hf
        refine ⟨r, ?_, k2⟩
        rw [Instr.fill]
        simp only [hpl]
        rw [if_neg (by simp; omega)]
        rw [← k1]
        congr 1
        rw [← Array.foldl_toList]
        have := foldl_zip off v.cells.toList 0 c
        simp only [Nat.add_zero] at this
        simpa using this
    · simp at hf

theorem parts_rel {E : Env} {C : Ctx} {S : St} {w : World} {tm : PM AV} {a : Act} (hw : WR E C S w) (ht : TR C w tm a.tmps) : ∀ (l : List (Nat × Operand)),
    PR C w (l.map fun p => (p.1, E.ev tm p.2)) (l.map fun p => (p.1, a.eval p.2))
  | [] => .nil
  | p :: l => .cons _ _ _ _ _ (ev_rel hw ht p.2) (parts_rel hw ht l)

end Go.Abs
