/-
  Rows of cells that are written; values that are built of parts.
-/
import Derived.Test.YtpahkfadibcdgaaAbs3
namespace Go.Abs
open Go.RowKit

def setAll : Array Value → Nat → List Value → Array Value
  | c, _, [] => c
  | c, o, v :: r => setAll (c.setIfInBounds o v) (o + 1) r

theorem setAll_size : ∀ (vs : List Value) (c : Array Value) (o : Nat), (setAll c o vs).size = c.size
  | [], _, _ => rfl
  | v :: r, c, o => by simp [setAll, setAll_size r]
theorem setAll_toList : ∀ (vs : List Value) (c : Array Value) (o : Nat), o + vs.length ≤ c.size → (setAll c o vs).toList = c.toList.take o ++ vs ++ c.toList.drop (o + vs.length)
  | [], c, o, _ => by simp [setAll]
  | v :: r, c, o, h => by
    have h' : o + (r.length + 1) ≤ c.size := by simpa using h
    rw [setAll, setAll_toList r _ _ (by simp; omega)]
    have := list_seg_step c.toList o v r (by simpa using h')
    simpa using this
theorem setAll_get_out : ∀ (vs : List Value) (c : Array Value) (o i : Nat), (i < o ∨ o + vs.length ≤ i) → (setAll c o vs)[i]? = c[i]?
  | [], _, _, _, _ => rfl
  | v :: r, c, o, i, h => by
    rw [setAll, setAll_get_out r _ _ i (by simp at h; omega), Array.getElem?_setIfInBounds]
    have : o ≠ i := by simp at h; omega
    simp [this]

theorem heap_setCell {w : World} {b : Nat} {c : Array Value} {T : TypeId} {fz : Nat × Nat} (h : w.heap[b]? = some (.cells c T fz)) (o : Nat) (v : Value) :
    (w.setCell ⟨b, o, none⟩ v).heap[b]? = some (.cells (c.setIfInBounds o v) T fz) := by
  simp [World.setCell, Array.getElem?_modify, h]
theorem heap_setCells {b : Nat} {T : TypeId} {fz : Nat × Nat} : ∀ (vs : List Value) (w : World) (c : Array Value) (o : Nat), w.heap[b]? = some (.cells c T fz) →
    (w.setCells b o vs).heap[b]? = some (.cells (setAll c o vs) T fz)
  | [], _, _, _, h => h
  | v :: r, w, c, o, h => by
    rw [World.setCells, setAll]
    exact heap_setCells r _ _ _ (heap_setCell h o v)
theorem heap_setCells_ne {b : Nat} : ∀ (vs : List Value) (w : World) (o : Nat) (k : Nat), k ≠ b → (w.setCells b o vs).heap[k]? = w.heap[k]?
  | [], _, _, _, _ => rfl
  | v :: r, w, o, k, h => by
    rw [World.setCells, heap_setCells_ne r _ _ k h]
    exact Below.heap_setCell w ⟨b, o, none⟩ v k h
theorem size_setCells {b : Nat} : ∀ (vs : List Value) (w : World) (o : Nat), (w.setCells b o vs).heap.size = w.heap.size
  | [], _, _ => rfl
  | v :: r, w, o => by rw [World.setCells, size_setCells r]; simp
theorem below_setCells {b B : Nat} (hB : B ≤ b) : ∀ (vs : List Value) (w : World) (o : Nat), Below B w (w.setCells b o vs)
  | [], w, _ => Below.refl _ _
  | v :: r, w, o => by
    rw [World.setCells]
    exact ((Below.refl B w).setCell (p := ⟨b, o, none⟩) hB v).trans (below_setCells hB r _ _)

theorem splice_rel {C : Ctx} {w : World} {cs vs : List AV} {c : Array Value} {us : List Value} (h : LR C w cs c.toList) (hv : LR C w vs us) {o : Nat} (hb : o + vs.length ≤ cs.length) :
    LR C w (splice cs o vs) (setAll c o us).toList := by
  have h1 : c.size = cs.length := by simpa using h.1.symm
  rw [setAll_toList _ _ _ (by rw [← hv.1]; omega)]
  have := ((h.take o).append hv).append (h.drop (o + us.length))
  simpa [splice, hv.1] using this
theorem splice_length {cs vs : List AV} {o : Nat} (hb : o + vs.length ≤ cs.length) : (splice cs o vs).length = cs.length := by
  simp [splice]; omega

/-- A store into an object. -/
theorem store_cells {E : Env} (ok : E.Ok) {C : Ctx} {S : St} {w : World} (hw : WR E C S w) {t : TypeId} {i : TypeInfo} (hi : E.inf t = some i) {l off : Nat} {cs vs : List AV} {v : Value} {a : AV}
    (hl : l < C.no) (ho : S.obj l = some cs) (hv : VR C w a v) (hc : cellsOf a = some vs) (hn : vs.length = i.size) (hb : off + vs.length ≤ cs.length) (hok : vs.all okCell = true) (wr' : PM Nat) :
    ∃ w', (Instr.storeAt t (.pointer (some ⟨C.mu l, off, none⟩)) v).run E.P w = .ok () w' ∧ WR E C { S with objs := S.objs.set l (.cells (splice cs off vs)), wr := wr' } w' ∧ Ext C w C w' := by
  have hobj := hw.objs l hl
  have hg : S.objs.get l = some (.cells cs) := by
    unfold St.obj at ho
    split at ho
    · rename_i x hx; simp at ho; subst ho; exact hx
    · simp at ho
  rw [hg] at hobj
  obtain ⟨c, T, fz, hh, hlr, hfz⟩ := hobj
  have hcl := cellsOf_rel hv hc
  have hsz : c.size = cs.length := by simpa using hlr.1.symm
  have hvl : v.cells.toList.length = vs.length := hcl.1.symm
  have hvs : v.cells.size = i.size := by have := hvl; simp at this; omega
  have hrun : (Instr.storeAt t (.pointer (some ⟨C.mu l, off, none⟩)) v).run E.P w = .ok () (w.setCells (C.mu l) off v.cells.toList) := by
    have := run_storeCells_cells (P := E.P) (C.mu l) off v.cells.toList 0 w (fun j hj => by
        rw [Nat.add_zero, cell_block hh]
        have : off + j < c.size := by rw [hsz]; omega
        simp [this])
      (fun j hj => by
        rw [Nat.add_zero]
        have hj' : off + j < c.size := by rw [hsz]; omega
        have hnf := hfz.at (off + j) hj'
        simp [World.frozen?, hh]
        intro h1
        by_cases h2 : off + j < fz.2
        · exact absurd ⟨h1, h2⟩ hnf
        · omega)
      (okCells_one hcl hok)
    simp only [Nat.add_zero] at this
    simp [Instr.storeAt, Instr.sureAddr, storeVar, sizeOf, typeInfo, ok.inf t i hi, hvs, this]
  refine ⟨_, hrun, ?_⟩
  have hb' : C.base ≤ C.mu l := (hw.mub l hl).1
  exact hw.setObj (wr' := wr') hl (heap_setCells _ w c off hh) (fun b hb => heap_setCells_ne _ w off b hb) (size_setCells _ _ _) (below_setCells hb' _ _ _)
    (splice_rel hlr hcl hb) (by unfold unfrozen at *; rw [setAll_size]; exact hfz)

theorem foldl_zip (off : Nat) : ∀ (l : List Value) (k : Nat) (c : Array Value), (l.zipIdx k).foldl (fun cs (p : Value × Nat) => cs.setIfInBounds (off + p.2) p.1) c = setAll c (off + k) l
  | [], _, _ => rfl
  | v :: r, k, c => by
    simp only [List.zipIdx_cons, List.foldl_cons, setAll]
    rw [foldl_zip off r (k + 1)]
    rw [Nat.add_assoc]

/-- The parts that stand to each other. -/
inductive PR (C : Ctx) (w : World) : List (Nat × AV) → List (Nat × Value) → Prop
  | nil : PR C w [] []
  | cons (i : Nat) (a : AV) (v : Value) (l : List (Nat × AV)) (m : List (Nat × Value)) (h : VR C w a v) (hl : PR C w l m) : PR C w ((i, a) :: l) ((i, v) :: m)

theorem fill_rel {C : Ctx} {w : World} {place : Nat → Option (Nat × Nat)} {l : List (Nat × AV)} {m : List (Nat × Value)} (hp : PR C w l m) :
    ∀ {cs out : List AV} {c : Array Value}, LR C w cs c.toList → fillA place cs l = some out → ∃ r, Instr.fill place c m = some r ∧ LR C w out r.toList := by
  induction hp with
  | nil => intro cs out c h hf; simp [fillA] at hf; subst hf; exact ⟨c, rfl, h⟩
  | cons i a v l m hv _ ih =>
    intro cs out c h hf
    simp only [fillA] at hf
    split at hf
    · rename_i off size vs hpl hc
      cases hb : (Nat.beq vs.length size && Nat.ble (off + vs.length) cs.length) with
      | false => rw [hb] at hf; simp at hf
      | true =>
        rw [hb] at hf
        simp only [cond_true] at hf
        simp only [Bool.and_eq_true] at hb
        have h1 := Nat.eq_of_beq_eq_true hb.1
        have h2 := Nat.le_of_ble_eq_true hb.2
        have hcl := cellsOf_rel hv hc
        have hvl : v.cells.size = vs.length := by simpa using hcl.1.symm
        have hsz : c.size = cs.length := by simpa using h.1.symm
        obtain ⟨r, k1, k2⟩ := ih (splice_rel h hcl h2) hf
        refine ⟨r, ?_, k2⟩
        rw [Instr.fill]
        simp only [hpl]
        rw [if_neg (by simp; omega)]
        rw [← k1]
        congr 1
        rw [← Array.foldl_toList]
        have := foldl_zip off v.cells.toList 0 c
        simp only [Nat.add_zero] at this
        simpa using this
    · simp at hf

theorem parts_rel {E : Env} {C : Ctx} {S : St} {w : World} {tm : PM AV} {a : Act} (hw : WR E C S w) (ht : TR C w tm a.tmps) : ∀ (l : List (Nat × Operand)),
    PR C w (l.map fun p => (p.1, E.ev tm p.2)) (l.map fun p => (p.1, a.eval p.2))
  | [] => .nil
  | p :: l => .cons _ _ _ _ _ (ev_rel hw ht p.2) (parts_rel hw ht l)

end Go.Abs
