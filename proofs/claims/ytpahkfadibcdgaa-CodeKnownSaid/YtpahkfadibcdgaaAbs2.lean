/-
  How the evaluator's values and state stand to the model's: the relation, and that it is kept where memory grows.
-/
import Derived.Test.YtpahkfadibcdgaaAbs1
namespace Go.Abs
open Go.RowKit

structure Hdr where
  b : Nat
  off : Nat
  len : Nat
  cap : Nat
  sz : Nat

structure Ctx where
  no : Nat
  nid : Nat
  mu : Nat → Nat
  io : Nat → Hdr
  top : Nat → Nat
  base : Nat

/-- Block b is no object's. -/
def Ctx.free (C : Ctx) (b : Nat) : Prop := ∀ l, l < C.no → C.mu l ≠ b

/-- The cells of elements, each of sz cells. -/
def flat? (sz : Nat) : List AV → Option (List AV)
  | [] => some []
  | x :: l => match cellsOf x, flat? sz l with
    | some cs, some r => if cs.length = sz ∧ cs.all okCell = true then some (cs ++ r) else none
    | _, _ => none

inductive VR (C : Ctx) (w : World) : AV → Value → Prop
  | undef (v : Value) : VR C w .undef v
  | sc (v : Value) : VR C w (.sc v) v
  | ptr (l off : Nat) (h : l < C.no) : VR C w (.ptr l off) (.pointer (some ⟨C.mu l, off, none⟩))
  | eptr (cs : List AV) (off b o : Nat) (u : Nat → Value) (hb : b < w.heap.size) (hf : C.free b) (ht : o + cs.length ≤ C.top b)
      (hc : ∀ i, i < cs.length → w.cell? ⟨b, o + i, none⟩ = some (u i)) (hr : ∀ i x, cs[i]? = some x → VR C w x (u i)) :
      VR C w (.eptr cs off) (.pointer (some ⟨b, o + off, none⟩))
  | vec0 (sz : Nat) (a : Addr) (cap : Nat) : VR C w (.vec 0 sz []) (.slice (some a) 0 cap)
  | vec (id sz : Nat) (xs fl : List AV) (b o cap : Nat) (u : Nat → Value) (hs : 0 < sz) (hlc : xs.length ≤ cap) (hfl : flat? sz xs = some fl) (hb : b < w.heap.size) (hf : C.free b)
      (ht : o + fl.length ≤ C.top b) (hc : ∀ i, i < fl.length → w.cell? ⟨b, o + i, none⟩ = some (u i)) (hr : ∀ i x, fl[i]? = some x → VR C w x (u i))
      (hid : id ≠ 0 → id < C.nid ∧ C.io id = ⟨b, o, xs.length, cap, sz⟩) :
      VR C w (.vec id sz xs) (.slice (some ⟨b, o, none⟩) xs.length cap)
  | agg (cs : List AV) (vs : Array Value) (hl : cs.length = vs.size) (hr : ∀ i x, cs[i]? = some x → VR C w x (vs.getD i undef)) : VR C w (.agg cs) (.agg vs)
  | tup (cs : List AV) (vs : Array Value) (hl : cs.length = vs.size) (hr : ∀ i x, cs[i]? = some x → VR C w x (vs.getD i undef)) : VR C w (.tup cs) (.tuple vs)
  | fn (f : Fn) (c1 c2 : List AV) (v1 v2 : Array Value) (hl1 : c1.length = v1.size) (hr1 : ∀ i x, c1[i]? = some x → VR C w x (v1.getD i undef))
      (hl2 : c2.length = v2.size) (hr2 : ∀ i x, c2[i]? = some x → VR C w x (v2.getD i undef)) : VR C w (.fn f c1 c2) (.func f v1 v2)
  | ifc (t : TypeId) (a : AV) (v : Value) (h : VR C w a v) : VR C w (.ifc t a) (.iface t v)

/-- The values of a list, one by one. -/
def LR (C : Ctx) (w : World) (cs : List AV) (vs : List Value) : Prop :=
  cs.length = vs.length ∧ ∀ i x, cs[i]? = some x → VR C w x (vs.getD i undef)

theorem LR.nil (C : Ctx) (w : World) : LR C w [] [] := ⟨rfl, fun i x h => by simp at h⟩
theorem LR.cons {C : Ctx} {w : World} {a : AV} {v : Value} {cs : List AV} {vs : List Value} (h : VR C w a v) (hl : LR C w cs vs) : LR C w (a :: cs) (v :: vs) := by
  refine ⟨by simp [hl.1], fun i x hx => ?_⟩
  cases i with
  | zero => simp at hx; subst hx; simpa using h
  | succ i => simp at hx; simpa using hl.2 i x hx
theorem LR.head {C : Ctx} {w : World} {a : AV} {v : Value} {cs : List AV} {vs : List Value} (h : LR C w (a :: cs) (v :: vs)) : VR C w a v := by
  simpa using h.2 0 a (by simp)
theorem LR.tail {C : Ctx} {w : World} {a : AV} {v : Value} {cs : List AV} {vs : List Value} (h : LR C w (a :: cs) (v :: vs)) : LR C w cs vs :=
  ⟨by simpa using h.1, fun i x hx => by simpa using h.2 (i + 1) x (by simpa using hx)⟩
theorem LR.append {C : Ctx} {w : World} : ∀ {a : List AV} {va : List Value} {b : List AV} {vb : List Value}, LR C w a va → LR C w b vb → LR C w (a ++ b) (va ++ vb)
  | [], [], _, _, _, hb => hb
  | [], _ :: _, _, _, ha, _ => absurd ha.1 (by simp)
  | _ :: _, [], _, _, ha, _ => absurd ha.1 (by simp)
  | _ :: _, _ :: _, _, _, ha, hb => LR.cons ha.head (LR.append ha.tail hb)
theorem LR.get {C : Ctx} {w : World} {cs : List AV} {vs : List Value} (h : LR C w cs vs) {i : Nat} {x : AV} (hx : cs[i]? = some x) : ∃ v, vs[i]? = some v ∧ VR C w x v := by
  have hi : i < cs.length := by
    rcases Nat.lt_or_ge i cs.length with h' | h'
    · exact h'
    · simp [List.getElem?_eq_none h'] at hx
  have hi2 : i < vs.length := h.1 ▸ hi
  refine ⟨vs[i], by simp [hi2], ?_⟩
  have := h.2 i x hx
  simpa [hi2] using this
theorem LR.scs {C : Ctx} {w : World} (l : List Value) : LR C w (l.map .sc) l := by
  induction l with
  | nil => exact LR.nil _ _
  | cons v l ih => exact LR.cons (.sc v) ih
theorem LR.drop {C : Ctx} {w : World} : ∀ (n : Nat) {cs : List AV} {vs : List Value}, LR C w cs vs → LR C w (cs.drop n) (vs.drop n)
  | 0, _, _, h => by simpa using h
  | n + 1, [], [], h => by simpa using h
  | n + 1, [], _ :: _, h => absurd h.1 (by simp)
  | n + 1, _ :: _, [], h => absurd h.1 (by simp)
  | n + 1, _ :: _, _ :: _, h => by simpa using LR.drop n h.tail
theorem LR.take {C : Ctx} {w : World} : ∀ (n : Nat) {cs : List AV} {vs : List Value}, LR C w cs vs → LR C w (cs.take n) (vs.take n)
  | 0, _, _, _ => by simpa using LR.nil _ _
  | n + 1, [], [], h => by simpa using h
  | n + 1, [], _ :: _, h => absurd h.1 (by simp)
  | n + 1, _ :: _, [], h => absurd h.1 (by simp)
  | n + 1, _ :: _, _ :: _, h => by simpa using LR.cons h.head (LR.take n h.tail)
theorem LR.agg {C : Ctx} {w : World} {cs : List AV} {vs : Array Value} (h : LR C w cs vs.toList) : VR C w (.agg cs) (.agg vs) :=
  .agg cs vs (by simpa using h.1) (fun i x hx => by simpa using h.2 i x hx)
theorem LR.tup {C : Ctx} {w : World} {cs : List AV} {vs : Array Value} (h : LR C w cs vs.toList) : VR C w (.tup cs) (.tuple vs) :=
  .tup cs vs (by simpa using h.1) (fun i x hx => by simpa using h.2 i x hx)
theorem VR.agg_inv {C : Ctx} {w : World} {cs : List AV} {v : Value} (h : VR C w (.agg cs) v) : ∃ vs, v = .agg vs ∧ LR C w cs vs.toList := by
  cases h with
  | agg _ vs hl hr => exact ⟨vs, rfl, by simpa using hl, fun i x hx => by simpa using hr i x hx⟩
theorem VR.tup_inv {C : Ctx} {w : World} {cs : List AV} {v : Value} (h : VR C w (.tup cs) v) : ∃ vs, v = .tuple vs ∧ LR C w cs vs.toList := by
  cases h with
  | tup _ vs hl hr => exact ⟨vs, rfl, by simpa using hl, fun i x hx => by simpa using hr i x hx⟩
theorem VR.sc_inv {C : Ctx} {w : World} {v u : Value} (h : VR C w (.sc v) u) : u = v := by cases h; rfl

structure Ext (C : Ctx) (w : World) (C' : Ctx) (w' : World) : Prop where
  no : C.no ≤ C'.no
  nid : C.nid ≤ C'.nid
  mu : ∀ l, l < C.no → C'.mu l = C.mu l
  io : ∀ i, i < C.nid → C'.io i = C.io i
  fresh : ∀ l, C.no ≤ l → l < C'.no → w.heap.size ≤ C'.mu l
  size : w.heap.size ≤ w'.heap.size
  top : ∀ b, b < w.heap.size → C.top b ≤ C'.top b
  cell : ∀ b o, b < w.heap.size → C.free b → o < C.top b → w'.cell? ⟨b, o, none⟩ = w.cell? ⟨b, o, none⟩
  base : C'.base = C.base
  below : Below C.base w w'

theorem Ext.free {C C' : Ctx} {w w' : World} (h : Ext C w C' w') {b : Nat} (hb : b < w.heap.size) (hf : C.free b) : C'.free b := by
  intro l hl e
  by_cases hlt : l < C.no
  · exact hf l hlt ((h.mu l hlt).symm.trans e)
  · have := h.fresh l (by omega) hl; omega

theorem Ext.refl (C : Ctx) (w : World) : Ext C w C w :=
  ⟨Nat.le_refl _, Nat.le_refl _, fun _ _ => rfl, fun _ _ => rfl, fun l h1 h2 => by omega, Nat.le_refl _, fun _ _ => Nat.le_refl _, fun _ _ _ _ _ => rfl, rfl, Below.refl _ _⟩

theorem Ext.trans {C C1 C2 : Ctx} {w w1 w2 : World} (h : Ext C w C1 w1) (k : Ext C1 w1 C2 w2) : Ext C w C2 w2 where
  no := Nat.le_trans h.no k.no
  nid := Nat.le_trans h.nid k.nid
  mu := fun l hl => (k.mu l (Nat.lt_of_lt_of_le hl h.no)).trans (h.mu l hl)
  io := fun i hi => (k.io i (Nat.lt_of_lt_of_le hi h.nid)).trans (h.io i hi)
  fresh := fun l h1 h2 => by
    by_cases hl : l < C1.no
    · rw [k.mu l hl]; exact h.fresh l h1 hl
    · exact Nat.le_trans h.size (k.fresh l (by omega) h2)
  size := Nat.le_trans h.size k.size
  top := fun b hb => Nat.le_trans (h.top b hb) (k.top b (Nat.lt_of_lt_of_le hb h.size))
  cell := fun b o hb hf ho => (k.cell b o (Nat.lt_of_lt_of_le hb h.size) (h.free hb hf) (Nat.lt_of_lt_of_le ho (h.top b hb))).trans (h.cell b o hb hf ho)
  base := k.base.trans h.base
  below := h.below.trans (h.base ▸ k.below)

theorem VR.ext {C C' : Ctx} {w w' : World} (e : Ext C w C' w') {a : AV} {v : Value} (h : VR C w a v) : VR C' w' a v := by
  induction h with
  | undef v => exact .undef v
  | sc v => exact .sc v
  | ptr l off h => rw [← e.mu l h]; exact .ptr l off (Nat.lt_of_lt_of_le h e.no)
  | eptr cs off b o u hb hf ht hc _ ih =>
    exact .eptr cs off b o u (Nat.lt_of_lt_of_le hb e.size) (e.free hb hf) (Nat.le_trans ht (e.top b hb))
      (fun i hi => (e.cell b (o + i) hb hf (by omega)).trans (hc i hi)) ih
  | vec0 sz a cap => exact .vec0 sz a cap
  | vec id sz xs fl b o cap u hs hlc hfl hb hf ht hc _ hid ih =>
    exact .vec id sz xs fl b o cap u hs hlc hfl (Nat.lt_of_lt_of_le hb e.size) (e.free hb hf) (Nat.le_trans ht (e.top b hb))
      (fun i hi => (e.cell b (o + i) hb hf (by omega)).trans (hc i hi)) ih
      (fun h0 => let ⟨h1, h2⟩ := hid h0; ⟨Nat.lt_of_lt_of_le h1 e.nid, (e.io id h1).trans h2⟩)
  | agg cs vs hl _ ih => exact .agg cs vs hl ih
  | tup cs vs hl _ ih => exact .tup cs vs hl ih
  | fn f c1 c2 v1 v2 hl1 _ hl2 _ ih1 ih2 => exact .fn f c1 c2 v1 v2 hl1 ih1 hl2 ih2
  | ifc t a v _ ih => exact .ifc t a v ih
theorem LR.ext {C C' : Ctx} {w w' : World} (e : Ext C w C' w') {cs : List AV} {vs : List Value} (h : LR C w cs vs) : LR C' w' cs vs :=
  ⟨h.1, fun i x hx => (h.2 i x hx).ext e⟩

def unfrozen (c : Array Value) (fz : Nat × Nat) : Prop := fz.1 = fz.2 ∨ c.size ≤ fz.1
theorem unfrozen.at {c : Array Value} {fz : Nat × Nat} (h : unfrozen c fz) (i : Nat) (hi : i < c.size) : ¬ (fz.1 ≤ i ∧ i < fz.2) := by
  rcases h with h | h <;> omega

def ObjR (C : Ctx) (w : World) : Option AObj → Option Obj → Prop
  | some (.cells cs), o => ∃ c T fz, o = some (.cells c T fz) ∧ LR C w cs c.toList ∧ unfrozen c fz
  | some (.siter s p), o => o = some (.stringIter s p)
  | none, _ => False

structure IdR (C : Ctx) (w : World) (sp : Bool) (h : Hdr) : Prop where
  base : C.base ≤ h.b
  lt : h.b < w.heap.size
  free : C.free h.b
  sz : 0 < h.sz
  lc : h.len ≤ h.cap
  row : ∃ c T fz, w.heap[h.b]? = some (.cells c T fz) ∧ unfrozen c fz ∧ h.off + h.cap * h.sz ≤ c.size
  top : h.off + h.len * h.sz ≤ C.top h.b
  at_top : sp = false → C.top h.b = h.off + h.len * h.sz

def St.isSpent (S : St) (i : Nat) : Bool := (S.spent.get i).isSome

structure WR (E : Env) (C : Ctx) (S : St) (w : World) : Prop where
  no : C.no = S.no
  nid : C.nid = S.nid
  nid1 : 0 < S.nid
  bs : C.base ≤ w.heap.size
  inj : ∀ l l', l < C.no → l' < C.no → C.mu l = C.mu l' → l = l'
  mub : ∀ l, l < C.no → C.base ≤ C.mu l ∧ C.mu l < w.heap.size
  objs : ∀ l, l < C.no → ObjR C w (S.objs.get l) (w.heap[C.mu l]?)
  ids : ∀ i, 0 < i → i < C.nid → IdR C w (S.isSpent i) (C.io i)
  idi : ∀ i j, 0 < i → i < C.nid → 0 < j → j < C.nid → S.isSpent i = false → S.isSpent j = false → (C.io i).b = (C.io j).b → i = j
  glob : ∀ g cs, E.G g = some cs → VR C w (.eptr cs 0) (.pointer (some ⟨g, 0, none⟩))
  fresh : ∀ i, S.nid ≤ i → S.isSpent i = false

theorem ObjR.ext {C C' : Ctx} {w w' : World} (e : Ext C w C' w') {a : Option AObj} {o : Option Obj} (h : ObjR C w a o) : ObjR C' w' a o := by
  match a, h with
  | some (.cells cs), ⟨c, T, fz, h1, h2, h3⟩ => exact ⟨c, T, fz, h1, h2.ext e, h3⟩
  | some (.siter s p), h => exact h

theorem heap_alloc_lt (w : World) (o : Obj) {b : Nat} (h : b < w.heap.size) : (w.alloc o).heap[b]? = w.heap[b]? := by
  show (w.heap.push o)[b]? = _
  rw [Array.getElem?_push, if_neg (by omega)]
theorem heap_alloc_at (w : World) (o : Obj) : (w.alloc o).heap[w.heap.size]? = some o := by
  show (w.heap.push o)[w.heap.size]? = _
  rw [Array.getElem?_push, if_pos rfl]
theorem cell_alloc_lt (w : World) (o : Obj) {b : Nat} (p : Nat) (h : b < w.heap.size) : (w.alloc o).cell? ⟨b, p, none⟩ = w.cell? ⟨b, p, none⟩ := by
  simp only [World.cell?, heap_alloc_lt w o h]
theorem cell_block {w : World} {b : Nat} {c : Array Value} {T : TypeId} {fz : Nat × Nat} (h : w.heap[b]? = some (.cells c T fz)) (p : Nat) : w.cell? ⟨b, p, none⟩ = c[p]? := by
  simp [World.cell?, h]

/-- A draw turns nothing. -/
theorem Ext.drew (C : Ctx) (w : World) : Ext C w C w.drew :=
  ⟨Nat.le_refl _, Nat.le_refl _, fun _ _ => rfl, fun _ _ => rfl, fun l h1 h2 => by omega, Nat.le_refl _, fun _ _ => Nat.le_refl _, fun _ _ _ _ _ => rfl, rfl, (Below.refl _ _).drew⟩
theorem IdR.same {C : Ctx} {w w' : World} (hs : w.heap.size ≤ w'.heap.size) {sp : Bool} {h : Hdr} (hh : w'.heap[h.b]? = w.heap[h.b]?) (k : IdR C w sp h) : IdR C w' sp h := by
  obtain ⟨h1, h2, h3, h4, h5, ⟨c, T, fz, r1, r2, r3⟩, h7, h8⟩ := k
  exact ⟨h1, by omega, h3, h4, h5, ⟨c, T, fz, by rw [hh]; exact r1, r2, r3⟩, h7, h8⟩
theorem WR.drew {E : Env} {C : Ctx} {S : St} {w : World} (h : WR E C S w) : WR E C S w.drew where
  no := h.no
  nid := h.nid
  nid1 := h.nid1
  bs := h.bs
  inj := h.inj
  mub := h.mub
  objs := fun l hl => (h.objs l hl).ext (Ext.drew C w)
  ids := fun i h0 hi => IdR.same (w := w) (w' := w.drew) (Nat.le_refl _) rfl (h.ids i h0 hi)
  idi := h.idi
  glob := fun g cs hg => (h.glob g cs hg).ext (Ext.drew C w)
  fresh := h.fresh

/-- A new object. -/
def Ctx.newObj (C : Ctx) (w : World) : Ctx := { C with no := C.no + 1, mu := fun l => if l = C.no then w.heap.size else C.mu l }
theorem Ext.newObj {E : Env} {C : Ctx} {S : St} {w : World} (h : WR E C S w) (o : Obj) : Ext C w (C.newObj w) (w.alloc o) where
  no := Nat.le_succ _
  nid := Nat.le_refl _
  mu := fun l hl => by simp only [Ctx.newObj]; rw [if_neg (by omega)]
  io := fun _ _ => rfl
  fresh := fun l h1 h2 => by
    have : l = C.no := by simp only [Ctx.newObj] at h2; omega
    simp only [Ctx.newObj]; rw [if_pos this]; exact Nat.le_refl _
  size := by simp
  top := fun _ _ => Nat.le_refl _
  cell := fun b p hb _ _ => cell_alloc_lt w o p hb
  base := rfl
  below := (Below.refl _ _).alloc h.bs o
theorem WR.newObj {E : Env} {C : Ctx} {S : St} {w : World} (h : WR E C S w) {cs : List AV} {c : Array Value} (T : TypeId) (hl : LR C w cs c.toList) :
    WR E (C.newObj w) (S.newObj cs) (w.alloc (.cells c T)) := by
  have e : Ext C w (C.newObj w) (w.alloc (.cells c T)) := Ext.newObj h _
  refine ⟨by simp [Ctx.newObj, St.newObj, h.no], h.nid, h.nid1, by have := h.bs; simp [Ctx.newObj]; omega, ?_, ?_, ?_, ?_, ?_, fun g cs hg => (h.glob g cs hg).ext e, h.fresh⟩
  · intro l l' hl hl' heq
    simp only [Ctx.newObj] at hl hl' heq
    by_cases h1 : l = C.no
    · by_cases h2 : l' = C.no
      · omega
      · rw [if_pos h1, if_neg h2] at heq
        have := (h.mub l' (by omega)).2; omega
    · by_cases h2 : l' = C.no
      · rw [if_neg h1, if_pos h2] at heq
        have := (h.mub l (by omega)).2; omega
      · rw [if_neg h1, if_neg h2] at heq
        exact h.inj l l' (by omega) (by omega) heq
  · intro l hl
    simp only [Ctx.newObj] at hl ⊢
    by_cases h1 : l = C.no
    · rw [if_pos h1]; have := h.bs; simp; omega
    · rw [if_neg h1]; have := h.mub l (by omega); simp; omega
  · intro l hl
    simp only [Ctx.newObj] at hl
    by_cases h1 : l = C.no
    · have hm : (C.newObj w).mu l = w.heap.size := by simp only [Ctx.newObj]; rw [if_pos h1]
      rw [hm, heap_alloc_at]
      have : (S.newObj cs).objs.get l = some (.cells cs) := by simp only [St.newObj, PM.get_set]; rw [if_pos (by rw [h1, h.no])]
      rw [this]
      exact ⟨c, T, (0, 0), rfl, hl |> fun _ => LR.ext e ‹LR C w cs c.toList›, Or.inl rfl⟩
    · have hm : (C.newObj w).mu l = C.mu l := by simp only [Ctx.newObj]; rw [if_neg h1]
      rw [hm, heap_alloc_lt _ _ (h.mub l (by omega)).2]
      have : (S.newObj cs).objs.get l = S.objs.get l := by simp only [St.newObj, PM.get_set]; rw [if_neg (by rw [← h.no]; exact h1)]
      rw [this]
      exact (h.objs l (by omega)).ext e
  · intro i h0 hi
    have k := h.ids i h0 hi
    obtain ⟨h1, h2, h3, h4, h5, ⟨c', T', fz, r1, r2, r3⟩, h7, h8⟩ := k
    exact ⟨h1, by show (C.io i).b < _; simp; omega, e.free h2 h3, h4, h5, ⟨c', T', fz, by show (w.alloc _).heap[(C.io i).b]? = _; rw [heap_alloc_lt _ _ h2]; exact r1, r2, r3⟩, h7, h8⟩
  · exact h.idi

/-- A new row that a slice by value lies in. -/
def Ctx.newId (C : Ctx) (hd : Hdr) (tp : Nat) : Ctx := { C with nid := C.nid + 1, io := fun i => if i = C.nid then hd else C.io i, top := fun b => if b = hd.b then tp else C.top b }
theorem Ext.newRow {E : Env} {C : Ctx} {S : St} {w : World} (h : WR E C S w) (o : Obj) (len cap sz tp : Nat) : Ext C w (C.newId ⟨w.heap.size, 0, len, cap, sz⟩ tp) (w.alloc o) where
  no := Nat.le_refl _
  nid := Nat.le_succ _
  mu := fun _ _ => rfl
  io := fun i hi => by simp only [Ctx.newId]; rw [if_neg (by omega)]
  fresh := fun l h1 h2 => by simp only [Ctx.newId] at h2; omega
  size := by simp
  top := fun b hb => by simp only [Ctx.newId]; rw [if_neg (by omega)]; exact Nat.le_refl _
  cell := fun b p hb _ _ => cell_alloc_lt w o p hb
  base := rfl
  below := (Below.refl _ _).alloc h.bs o
theorem WR.newRow {E : Env} {C : Ctx} {S : St} {w : World} (h : WR E C S w) {c : Array Value} (T : TypeId) (fz : Nat × Nat) (len cap sz : Nat) (hs : 0 < sz) (hlc : len ≤ cap)
    (hsz : cap * sz ≤ c.size) (hfz : unfrozen c fz) :
    WR E (C.newId ⟨w.heap.size, 0, len, cap, sz⟩ (len * sz)) S.newId (w.alloc (.cells c T fz)) := by
  have e : Ext C w (C.newId ⟨w.heap.size, 0, len, cap, sz⟩ (len * sz)) (w.alloc (.cells c T fz)) := Ext.newRow h _ _ _ _ _
  have hfree : (C.newId ⟨w.heap.size, 0, len, cap, sz⟩ (len * sz)).free w.heap.size := fun l hl => by
    have := (h.mub l hl).2
    show C.mu l ≠ _; omega
  refine ⟨h.no, by simp [Ctx.newId, St.newId, h.nid], Nat.succ_pos _, by have := h.bs; simp [Ctx.newId]; omega, h.inj, fun l hl => ⟨(h.mub l hl).1, by have := (h.mub l hl).2; simp [Ctx.newId]; omega⟩, ?_, ?_, ?_, fun g cs hg => (h.glob g cs hg).ext e, fun i hi => h.fresh i (by simp only [St.newId] at hi; omega)⟩
  · intro l hl
    show ObjR _ _ (S.objs.get l) ((w.alloc _).heap[C.mu l]?)
    rw [heap_alloc_lt _ _ (h.mub l hl).2]
    exact (h.objs l hl).ext e
  · intro i h0 hi
    simp only [Ctx.newId] at hi
    by_cases h1 : i = C.nid
    · have hh : (C.newId ⟨w.heap.size, 0, len, cap, sz⟩ (len * sz)).io i = ⟨w.heap.size, 0, len, cap, sz⟩ := by simp only [Ctx.newId]; rw [if_pos h1]
      have ht : (C.newId ⟨w.heap.size, 0, len, cap, sz⟩ (len * sz)).top w.heap.size = len * sz := by simp [Ctx.newId]
      rw [hh]
      exact ⟨h.bs, by simp, hfree, hs, hlc, ⟨c, T, fz, heap_alloc_at _ _, hfz, by simpa using hsz⟩, by show 0 + len * sz ≤ _; rw [ht]; omega, fun _ => by show Ctx.top _ w.heap.size = 0 + len * sz; rw [ht]; omega⟩
    · have hh : (C.newId ⟨w.heap.size, 0, len, cap, sz⟩ (len * sz)).io i = C.io i := by simp only [Ctx.newId]; rw [if_neg h1]
      obtain ⟨k1, k2, k3, k4, k5, ⟨c', T', fz', r1, r2, r3⟩, k7, k8⟩ := h.ids i h0 (by omega)
      have ht : (C.newId ⟨w.heap.size, 0, len, cap, sz⟩ (len * sz)).top (C.io i).b = C.top (C.io i).b := by simp only [Ctx.newId]; rw [if_neg (by omega)]
      rw [hh]
      exact ⟨k1, by simp; omega, e.free k2 k3, k4, k5, ⟨c', T', fz', by rw [heap_alloc_lt _ _ k2]; exact r1, r2, r3⟩, by rw [ht]; exact k7, fun hsp => by rw [ht]; exact k8 hsp⟩
  · intro i j h0 hi h0' hj hsi hsj heq
    simp only [Ctx.newId] at hi hj heq
    by_cases h1 : i = C.nid
    · by_cases h2 : j = C.nid
      · omega
      · rw [if_pos h1, if_neg h2] at heq
        have := (h.ids j h0' (by omega)).lt
        simp only at heq; omega
    · by_cases h2 : j = C.nid
      · rw [if_neg h1, if_pos h2] at heq
        have := (h.ids i h0 (by omega)).lt
        simp only at heq; omega
      · rw [if_neg h1, if_neg h2] at heq
        exact h.idi i j h0 (by omega) h0' (by omega) hsi hsj heq

/-- A world that differs from another in the cells of one object alone. -/
theorem WR.setObj {E : Env} {C : Ctx} {S : St} {w w' : World} {wr' : PM Nat} (h : WR E C S w) {l : Nat} (hl : l < C.no) {cs : List AV} {c : Array Value} {T : TypeId} {fz : Nat × Nat}
    (hb : w'.heap[C.mu l]? = some (.cells c T fz)) (ho : ∀ b, b ≠ C.mu l → w'.heap[b]? = w.heap[b]?) (hsz : w'.heap.size = w.heap.size) (hbel : Below C.base w w')
    (hr : LR C w cs c.toList) (hfz : unfrozen c fz) : WR E C { S with objs := S.objs.set l (.cells cs), wr := wr' } w' ∧ Ext C w C w' := by
  have e : Ext C w C w' := ⟨Nat.le_refl _, Nat.le_refl _, fun _ _ => rfl, fun _ _ => rfl, fun l h1 h2 => by omega, by omega, fun _ _ => Nat.le_refl _,
    fun b o hb hf _ => by simp only [World.cell?, ho b (fun e => hf l hl e.symm)], rfl, hbel⟩
  refine ⟨⟨h.no, h.nid, h.nid1, by have := h.bs; omega, h.inj, fun l hl => ⟨(h.mub l hl).1, by have := (h.mub l hl).2; omega⟩, ?_, ?_, h.idi, fun g cs hg => (h.glob g cs hg).ext e, h.fresh⟩, e⟩
  · intro l' hl'
    show ObjR _ _ ((S.objs.set l (.cells cs)).get l') _
    rw [PM.get_set]
    by_cases h1 : l' = l
    · rw [if_pos h1, h1, hb]
      exact ⟨c, T, fz, rfl, hr.ext e, hfz⟩
    · rw [if_neg h1, ho _ (fun e => h1 (h.inj _ _ hl' hl e))]
      exact (h.objs l' hl').ext e
  · intro i h0 hi
    have k := h.ids i h0 hi
    exact k.same (by omega) (ho _ (fun e => k.free l hl e.symm))

end Go.Abs
