/-
  How the evaluator's values and state stand to the model's: the relation, and that it is kept where memory grows.
-/
import Derived.Test.YthjaoinieikjdaaGreatDoorUAB
set_option linter.unusedSimpArgs false
set_option linter.unusedVariables false
namespace Go.Abs
open Go.RowKit
structure Hdr where
 b : Nat
 off : Nat
 len : Nat
 cap : Nat
 sz : Nat
structure Ctx where
 no : Nat
 born : Nat → Prop
 nid : Nat
 mu : Nat → Nat
 bs : Nat → Nat
 ol : Nat → Nat
 lim : Nat → Nat
 io : Nat → Hdr
 top : Nat → Nat
 base : Nat
 mx : Nat → Obj
noncomputable def Ctx.free (C : Ctx) (b : Nat) : Prop := ∀ l, C.born l → C.mu l ≠ b
inductive VR (C : Ctx) (w : World) : AV → Value → Prop
 | undef (v : Value) : VR C w .undef v
 | sc (v : Value) : VR C w (.sc v) v
 | ptr (l off : Nat) (h : C.born l) : VR C w (.ptr l off) (.pointer (some ⟨C.mu l, C.bs l + off, none⟩))
 | osl (l sz off len room : Nat) (a : Addr) (cap : Nat) (h : C.born l) (hs : 0 < sz) (hlr : len ≤ room) (hrc : room ≤ cap) (hro : off + room * sz ≤ C.ol l) (hcl : off + cap * sz ≤ C.lim l)
  (ha : 0 < cap → a = ⟨C.mu l, C.bs l + off, none⟩) : VR C w (.osl l sz off len room) (.slice (some a) len cap)
 | mp (l : Nat) (h : C.born l) : VR C w (.mp l) (.map (some (C.mu l)))
 | eptr (cs : List AV) (off b o : Nat) (u : Nat → Value) (hb : b < w.heap.size) (hf : C.free b) (ht : o + cs.length ≤ C.top b)
  (hc : ∀ i, i < cs.length → w.cell? ⟨b, o + i, none⟩ = some (u i)) (hr : ∀ i x, cs[i]? = some x → VR C w x (u i)) :
  VR C w (.eptr cs off) (.pointer (some ⟨b, o + off, none⟩))
 | vec0 (sz : Nat) (a : Addr) (cap : Nat) : VR C w (.vec 0 sz []) (.slice (some a) 0 cap)
 | vec (id sz : Nat) (xs fl : List AV) (b o cap : Nat) (u : Nat → Value) (hs : 0 < sz) (hlc : xs.length ≤ cap) (hfl : bR sz xs = some fl) (hb : b < w.heap.size) (hf : C.free b)
  (ht : o + fl.length ≤ C.top b) (hc : ∀ i, i < fl.length → w.cell? ⟨b, o + i, none⟩ = some (u i)) (hr : ∀ i x, fl[i]? = some x → VR C w x (u i))
  (hid : 2 < id → id < C.nid ∧ C.io id = ⟨b, o, xs.length, cap, sz⟩) (hx1 : id = 1 ∨ id = 2 → cap = xs.length) (hx2 : id = 1 → C.base ≤ b ∧ ∀ i, 2 < i → i < C.nid → (C.io i).b ≠ b) :
  VR C w (.vec id sz xs) (.slice (some ⟨b, o, none⟩) xs.length cap)
 | udat (id : Nat) (xs fl : List AV) (b o cap : Nat) (u : Nat → Value) (hfl : bR 1 xs = some fl) (hb : b < w.heap.size) (hf : C.free b)
  (ht : o + fl.length ≤ C.top b) (hc : ∀ i, i < fl.length → w.cell? ⟨b, o + i, none⟩ = some (u i)) (hr : ∀ i x, fl[i]? = some x → VR C w x (u i))
  (hid : 2 < id ∧ id < C.nid ∧ C.io id = ⟨b, o, xs.length, cap, 1⟩) :
  VR C w (.udat id xs) (.pointer (some ⟨b, o, none⟩))
 | agg (cs : List AV) (vs : Array Value) (hl : cs.length = vs.size) (hr : ∀ i x, cs[i]? = some x → VR C w x (vs.getD i undef)) : VR C w (.agg cs) (.agg vs)
 | tup (cs : List AV) (vs : Array Value) (hl : cs.length = vs.size) (hr : ∀ i x, cs[i]? = some x → VR C w x (vs.getD i undef)) : VR C w (.tup cs) (.tuple vs)
 | fn (f : Fn) (c1 c2 : List AV) (v1 v2 : Array Value) (hl1 : c1.length = v1.size) (hr1 : ∀ i x, c1[i]? = some x → VR C w x (v1.getD i undef))
  (hl2 : c2.length = v2.size) (hr2 : ∀ i x, c2[i]? = some x → VR C w x (v2.getD i undef)) : VR C w (.fn f c1 c2) (.func f v1 v2)
 | ifc (t : TypeId) (a : AV) (v : Value) (h : VR C w a v) : VR C w (.ifc t a) (.iface t v)
noncomputable def LR (C : Ctx) (w : World) (cs : List AV) (vs : List Value) : Prop :=
 cs.length = vs.length ∧ ∀ i x, cs[i]? = some x → VR C w x (vs.getD i undef)
theorem LR.nil (C : Ctx) (w : World) : LR C w [] [] := ⟨rfl, fun i x h => by simp at h⟩
theorem LR.cons {C : Ctx} {w : World} {a : AV} {v : Value} {cs : List AV} {vs : List Value} (h : VR C w a v) (hl : LR C w cs vs) : LR C w (a :: cs) (v :: vs) := by
 refine ⟨by simp [hl.1], fun i x hx => ?_⟩
 cases i with
 | zero => simp at hx; subst hx; simpa using h
 | succ i => simp at hx; simpa using hl.2 i x hx
theorem LR.head {C : Ctx} {w : World} {a : AV} {v : Value} {cs : List AV} {vs : List Value} (h : LR C w (a :: cs) (v :: vs)) : VR C w a v := by
 simpa using h.2 0 a (by simp)
theorem LR.tail {C : Ctx} {w : World} {a : AV} {v : Value} {cs : List AV} {vs : List Value} (h : LR C w (a :: cs) (v :: vs)) : LR C w cs vs :=
 ⟨by simpa using h.1, fun i x hx => by simpa using h.2 (i + 1) x (by simpa using hx)⟩
theorem LR.append {C : Ctx} {w : World} : ∀ {a : List AV} {va : List Value} {b : List AV} {vb : List Value}, LR C w a va → LR C w b vb → LR C w (a ++ b) (va ++ vb)
 | [], [], _, _, _, hb => hb
 | [], _ :: _, _, _, ha, _ => absurd ha.1 (by simp)
 | _ :: _, [], _, _, ha, _ => absurd ha.1 (by simp)
 | _ :: _, _ :: _, _, _, ha, hb => LR.cons ha.head (LR.append ha.tail hb)
theorem LR.get {C : Ctx} {w : World} {cs : List AV} {vs : List Value} (h : LR C w cs vs) {i : Nat} {x : AV} (hx : cs[i]? = some x) : ∃ v, vs[i]? = some v ∧ VR C w x v := by
 have hi : i < cs.length := by
  rcases fV i cs.length with h' | h'
  · exact h'
  · simp [mJ h'] at hx
 have hi2 : i < vs.length := h.1 ▸ hi
 refine ⟨vs[i], by simp [hi2], ?_⟩
 have := h.2 i x hx
 simpa [hi2] using this
theorem LR.scs {C : Ctx} {w : World} (l : List Value) : LR C w (l.map .sc) l := by
 induction l with
 | nil => exact LR.nil _ _
 | cons v l ih => exact LR.cons (.sc v) ih
theorem LR.drop {C : Ctx} {w : World} : ∀ (n : Nat) {cs : List AV} {vs : List Value}, LR C w cs vs → LR C w (cs.drop n) (vs.drop n)
 | 0, _, _, h => by simpa using h
 | n + 1, [], [], h => by simpa using h
 | n + 1, [], _ :: _, h => absurd h.1 (by simp)
 | n + 1, _ :: _, [], h => absurd h.1 (by simp)
 | n + 1, _ :: _, _ :: _, h => by simpa using LR.drop n h.tail
theorem LR.take {C : Ctx} {w : World} : ∀ (n : Nat) {cs : List AV} {vs : List Value}, LR C w cs vs → LR C w (cs.take n) (vs.take n)
 | 0, _, _, _ => by simpa using LR.nil _ _
 | n + 1, [], [], h => by simpa using h
 | n + 1, [], _ :: _, h => absurd h.1 (by simp)
 | n + 1, _ :: _, [], h => absurd h.1 (by simp)
 | n + 1, _ :: _, _ :: _, h => by simpa using LR.cons h.head (LR.take n h.tail)
theorem LR.agg {C : Ctx} {w : World} {cs : List AV} {vs : Array Value} (h : LR C w cs vs.toList) : VR C w (.agg cs) (.agg vs) :=
 .agg cs vs (by simpa using h.1) (fun i x hx => by simpa using h.2 i x hx)
theorem LR.tup {C : Ctx} {w : World} {cs : List AV} {vs : Array Value} (h : LR C w cs vs.toList) : VR C w (.tup cs) (.tuple vs) :=
 .tup cs vs (by simpa using h.1) (fun i x hx => by simpa using h.2 i x hx)
theorem VR.agg_inv {C : Ctx} {w : World} {cs : List AV} {v : Value} (h : VR C w (.agg cs) v) : ∃ vs, v = .agg vs ∧ LR C w cs vs.toList := by
 cases h with
 | agg _ vs hl hr => exact ⟨vs, rfl, by simpa using hl, fun i x hx => by simpa using hr i x hx⟩
theorem VR.tup_inv {C : Ctx} {w : World} {cs : List AV} {v : Value} (h : VR C w (.tup cs) v) : ∃ vs, v = .tuple vs ∧ LR C w cs vs.toList := by
 cases h with
 | tup _ vs hl hr => exact ⟨vs, rfl, by simpa using hl, fun i x hx => by simpa using hr i x hx⟩
theorem VR.sc_inv {C : Ctx} {w : World} {v u : Value} (h : VR C w (.sc v) u) : u = v := by cases h; rfl
structure Bel (B : Nat) (w w' : World) : Prop where
 b : Below B w w'
 d : True
theorem Bel.refl (B : Nat) (w : World) : Bel B w w := ⟨Below.refl B w, trivial⟩
theorem Bel.trans {B : Nat} {a b c : World} (h : Bel B a b) (k : Bel B b c) : Bel B a c := ⟨h.b.trans k.b, trivial⟩
theorem Bel.drew {B : Nat} {a w : World} (h : Bel B a w) : Bel B a w.drew := ⟨h.b.drew, trivial⟩
theorem Bel.alloc {B : Nat} {a w : World} (h : Bel B a w) (hB : B ≤ w.heap.size) (o : Obj) : Bel B a (w.alloc o) := ⟨h.b.alloc hB o, h.d⟩
theorem Bel.setCell {B : Nat} {a w : World} (h : Bel B a w) {p : Addr} (hp : B ≤ p.block) (v : Value) : Bel B a (w.setCell p v) := ⟨h.b.setCell hp v, h.d⟩
structure ExtW (C : Ctx) (w : World) (C' : Ctx) (w' : World) : Prop where
 born : ∀ l, C.born l → C'.born l ∧ C'.mu l = C.mu l ∧ C'.bs l = C.bs l ∧ C'.ol l = C.ol l ∧ C'.lim l = C.lim l
 nid : C.nid ≤ C'.nid
 io : ∀ i, i < C.nid → C'.io i = C.io i
 ion : ∀ i, C.nid ≤ i → i < C'.nid → w.heap.size ≤ (C'.io i).b ∨ ∃ j, 2 < j ∧ j < C.nid ∧ (C'.io i).b = (C.io j).b
 fresh : ∀ l, ¬ C.born l → C'.born l → w.heap.size ≤ C'.mu l ∨ ∃ l0, C.born l0 ∧ C.mu l0 = C'.mu l
 size : w.heap.size ≤ w'.heap.size
 top : ∀ b, b < w.heap.size → C.top b ≤ C'.top b
 cell : ∀ b o, b < w.heap.size → C.free b → o < C.top b → w'.cell? ⟨b, o, none⟩ = w.cell? ⟨b, o, none⟩
 base : C'.base = C.base
 below : Bel C.base w w'
 shape : ∀ b x, w.shape? b = some x → w'.shape? b = some x
 mx : C'.mx = C.mx
structure Ext (C : Ctx) (w : World) (C' : Ctx) (w' : World) : Prop extends ExtW C w C' w' where
 no : C.no ≤ C'.no
 newer : ∀ l, ¬ C.born l → C'.born l → C.no ≤ l
instance (C : Ctx) (w : World) (C' : Ctx) (w' : World) : Coe (Ext C w C' w') (ExtW C w C' w') := ⟨Ext.toExtW⟩
theorem ExtW.free {C C' : Ctx} {w w' : World} (h : ExtW C w C' w') {b : Nat} (hb : b < w.heap.size) (hf : C.free b) : C'.free b := by
 intro l hl e
 by_cases hlt : C.born l
 · exact hf l hlt ((h.born l hlt).2.1.symm.trans e)
 · rcases h.fresh l hlt hl with h1 | ⟨l0, h1, h2⟩
   · omega
   · exact hf l0 h1 (h2.trans e)
theorem ExtW.refl (C : Ctx) (w : World) : ExtW C w C w :=
 ⟨fun _ h => ⟨h, rfl, rfl, rfl, rfl⟩, aB _, fun _ _ => rfl, fun i h1 h2 => absurd h2 (by omega), fun l h1 h2 => absurd h2 h1, aB _, fun _ _ => aB _, fun _ _ _ _ _ => rfl, rfl, Bel.refl _ _, fun _ _ h => h, rfl⟩
theorem ExtW.trans {C C1 C2 : Ctx} {w w1 w2 : World} (h : ExtW C w C1 w1) (k : ExtW C1 w1 C2 w2) : ExtW C w C2 w2 where
 born := fun l hl => by
  obtain ⟨a1, a2, a3, a4, a5⟩ := h.born l hl
  obtain ⟨b1, b2, b3, b4, b5⟩ := k.born l a1
  exact ⟨b1, b2.trans a2, b3.trans a3, b4.trans a4, b5.trans a5⟩
 nid := cK h.nid k.nid
 io := fun i hi => (k.io i (aU hi h.nid)).trans (h.io i hi)
 ion := fun i h1 h2 => by
  by_cases hi : i < C1.nid
  · rw [k.io i hi]; exact h.ion i h1 hi
  · rcases k.ion i (by omega) h2 with h3 | ⟨j, h3, h4, h5⟩
    · exact .inl (cK h.size h3)
    · by_cases hj : j < C.nid
      · exact .inr ⟨j, h3, hj, by rw [h5, h.io j hj]⟩
      · rw [h5]; exact h.ion j (by omega) h4
 fresh := fun l h1 h2 => by
  by_cases hl : C1.born l
  · rw [(k.born l hl).2.1]; exact h.fresh l h1 hl
  · rcases k.fresh l hl h2 with h3 | ⟨l0, h3, h4⟩
    · exact .inl (cK h.size h3)
    · by_cases hl0 : C.born l0
      · exact .inr ⟨l0, hl0, by rw [← h4, (h.born l0 hl0).2.1]⟩
      · rw [← h4]; exact h.fresh l0 hl0 h3
 size := cK h.size k.size
 top := fun b hb => cK (h.top b hb) (k.top b (aU hb h.size))
 cell := fun b o hb hf ho => (k.cell b o (aU hb h.size) (h.free hb hf) (aU ho (h.top b hb))).trans (h.cell b o hb hf ho)
 base := k.base.trans h.base
 below := h.below.trans (h.base ▸ k.below)
 shape := fun b x hx => k.shape b x (h.shape b x hx)
 mx := k.mx.trans h.mx
theorem Ext.refl (C : Ctx) (w : World) : Ext C w C w := ⟨ExtW.refl C w, aB _, fun _ h1 h2 => absurd h2 h1⟩
theorem Ext.trans {C C1 C2 : Ctx} {w w1 w2 : World} (h : Ext C w C1 w1) (k : Ext C1 w1 C2 w2) : Ext C w C2 w2 :=
 ⟨h.toExtW.trans k.toExtW, cK h.no k.no, fun l h1 h2 => by
  by_cases hl : C1.born l
  · exact h.newer l h1 hl
  · exact cK h.no (k.newer l hl h2)⟩
theorem Ext.free {C C' : Ctx} {w w' : World} (h : Ext C w C' w') {b : Nat} (hb : b < w.heap.size) (hf : C.free b) : C'.free b := h.toExtW.free hb hf
theorem VR.ext {C C' : Ctx} {w w' : World} (e : ExtW C w C' w') {a : AV} {v : Value} (h : VR C w a v) : VR C' w' a v := by
 induction h with
 | undef v => exact .undef v
 | sc v => exact .sc v
 | ptr l off h =>
  obtain ⟨b1, b2, b3, b4, b5⟩ := e.born l h
  rw [← b2, ← b3]; exact .ptr l off b1
 | osl l sz off len room a cap h hs hlr hrc hro hcl ha =>
  obtain ⟨b1, b2, b3, b4, b5⟩ := e.born l h
  exact .osl l sz off len room a cap b1 hs hlr hrc (by rw [b4]; exact hro) (by rw [b5]; exact hcl) (fun hp => by rw [b2, b3]; exact ha hp)
 | mp l h =>
  obtain ⟨b1, b2, b3, b4, b5⟩ := e.born l h
  rw [← b2]; exact .mp l b1
 | eptr cs off b o u hb hf ht hc _ ih =>
  exact .eptr cs off b o u (aU hb e.size) (e.free hb hf) (cK ht (e.top b hb))
   (fun i hi => (e.cell b (o + i) hb hf (by omega)).trans (hc i hi)) ih
 | vec0 sz a cap => exact .vec0 sz a cap
 | vec id sz xs fl b o cap u hs hlc hfl hb hf ht hc _ hid hx1 hx2 ih =>
  exact .vec id sz xs fl b o cap u hs hlc hfl (aU hb e.size) (e.free hb hf) (cK ht (e.top b hb))
   (fun i hi => (e.cell b (o + i) hb hf (by omega)).trans (hc i hi)) ih
   (fun h0 => let ⟨h1, h2⟩ := hid h0; ⟨aU h1 e.nid, (e.io id h1).trans h2⟩) hx1
   (fun h0 => let ⟨h1, h2⟩ := hx2 h0; ⟨by rw [e.base]; exact h1, fun i hi1 hi2 he => by
    by_cases hi : i < C.nid
    · rw [e.io i hi] at he; exact h2 i hi1 hi he
    · rcases e.ion i (by omega) hi2 with h3 | ⟨j, h3, h4, h5⟩
      · omega
      · rw [h5] at he; exact h2 j h3 h4 he⟩)
 | udat id xs fl b o cap u hfl hb hf ht hc _ hid ih =>
  exact .udat id xs fl b o cap u hfl (aU hb e.size) (e.free hb hf) (cK ht (e.top b hb))
   (fun i hi => (e.cell b (o + i) hb hf (by omega)).trans (hc i hi)) ih
   (let ⟨h0, h1, h2⟩ := hid; ⟨h0, aU h1 e.nid, (e.io id h1).trans h2⟩)
 | agg cs vs hl _ ih => exact .agg cs vs hl ih
 | tup cs vs hl _ ih => exact .tup cs vs hl ih
 | fn f c1 c2 v1 v2 hl1 _ hl2 _ ih1 ih2 => exact .fn f c1 c2 v1 v2 hl1 ih1 hl2 ih2
 | ifc t a v _ ih => exact .ifc t a v ih
theorem LR.ext {C C' : Ctx} {w w' : World} (e : ExtW C w C' w') {cs : List AV} {vs : List Value} (h : LR C w cs vs) : LR C' w' cs vs :=
 ⟨h.1, fun i x hx => (h.2 i x hx).ext e⟩
noncomputable def unfrozen (c : Array Value) (fz : Nat × Nat) : Prop := fz.1 = fz.2 ∨ c.size ≤ fz.1
theorem unfrozen.at {c : Array Value} {fz : Nat × Nat} (h : unfrozen c fz) (i : Nat) (hi : i < c.size) : ¬ (fz.1 ≤ i ∧ i < fz.2) := by
 rcases h with h | h <;> omega
structure MapR (C : Ctx) (w : World) (es : List (Value × AV)) (ents : List MapEntry) : Prop where
 len : es.length = ents.length
 nd : (es.map (·.1)).Nodup
 nd' : (ents.map (·.key)).Nodup
 key : ∀ e ∈ ents, ∃ x, (e.key, x) ∈ es
 val : ∀ k x, (k, x) ∈ es → ∃ e ∈ ents, e.key = k ∧ VR C w x e.val
noncomputable def BornOk (ents : List MapEntry) (clock : Nat) : Prop := (∀ e ∈ ents, e.born < clock) ∧ (ents.map (·.born)).Nodup
noncomputable def ObjR (C : Ctx) (w : World) (l : Nat) : Option AObj → Option Obj → Prop
 | some (.cells cs), o => ∃ c T fz, o = some (.cells c T fz) ∧ LR C w cs ((c.toList.drop (C.bs l)).take cs.length) ∧ cs.length = C.ol l ∧ C.ol l ≤ C.lim l ∧ C.bs l + C.lim l ≤ c.size ∧ unfrozen c fz
 | some (.siter s p), o => o = some (.stringIter s p) ∧ C.bs l = 0
 | some (.mp es), o => ∃ ents clock, o = some (.map ents clock) ∧ MapR C w es ents.toList ∧ BornOk ents.toList clock
 | some (.mpx es), o => o = some (C.mx l) ∧ ∃ ents clock, C.mx l = .map ents clock ∧ MapR C w es ents.toList ∧ BornOk ents.toList clock
 | some .raw, o => o = some (C.mx l) ∧ C.bs l = 0
 | some .dead, _ => True
 | none, _ => False
noncomputable def iA (o : Option AObj) : Prop := o = none ∨ o = some .dead
structure IdR (C : Ctx) (w : World) (sp : Bool) (h : Hdr) : Prop where
 base : C.base ≤ h.b ∧ h.off = 0
 lt : h.b < w.heap.size
 free : C.free h.b
 sz : 0 < h.sz
 lc : h.len ≤ h.cap
 row : ∃ c T fz, w.heap[h.b]? = some (.cells c T fz) ∧ (∀ i, C.top h.b ≤ i → i < c.size → ¬ (fz.1 ≤ i ∧ i < fz.2)) ∧ h.off + h.cap * h.sz ≤ c.size
 top : h.off + h.len * h.sz ≤ C.top h.b
 at_top : sp = false → C.top h.b = h.off + h.len * h.sz
noncomputable def St.isSpent (S : St) (i : Nat) : Bool := (S.spent.get i).isSome
noncomputable def yM (w : World) (tp : Nat) (T : TypeId) (b : Nat) : Prop := ∃ c fz, w.heap[b]? = some (.cells c T fz) ∧ (fz.1 = fz.2 ∨ (fz.1 ≤ fz.2 ∧ fz.2 ≤ tp))
structure GlobR (C : Ctx) (w : World) (g : Nat) (cs : List AV) : Prop where
 vr : VR C w (.eptr cs 0) (.pointer (some ⟨g, 0, none⟩))
 lt : g < C.base
 whole : 1 < cs.length → cs.length < 32 → ∃ c T fz, w.heap[g]? = some (.cells c T fz) ∧ c.size = cs.length
theorem GlobR.ext {C C' : Ctx} {w w' : World} (e : ExtW C w C' w') {g : Nat} {cs : List AV} (h : GlobR C w g cs) : GlobR C' w' g cs :=
 ⟨h.vr.ext e, by rw [e.base]; exact h.lt, by rw [e.below.b.block g h.lt]; exact h.whole⟩
structure WR (E : Env) (C : Ctx) (S : St) (w : World) : Prop where
 no : C.no = S.no
 unb : ∀ l, S.no ≤ l → ¬ C.born l
 nid : C.nid = S.nid
 nid1 : 2 < S.nid
 bs : C.base ≤ w.heap.size
 inj : ∀ l l', C.born l → C.born l' → ¬ iA (S.objs.get l) → ¬ iA (S.objs.get l') → C.mu l = C.mu l' → l = l'
 mub : ∀ l, C.born l → C.base ≤ C.mu l ∧ C.mu l < w.heap.size
 objs : ∀ l, C.born l → ObjR C w l (S.objs.get l) (w.heap[C.mu l]?)
 unob : ∀ l, ¬ C.born l → iA (S.objs.get l)
 ids : ∀ i, 2 < i → i < C.nid → IdR C w (S.isSpent i) (C.io i)
 idi : ∀ i j, 2 < i → i < C.nid → 2 < j → j < C.nid → S.isSpent i = false → S.isSpent j = false → (C.io i).b = (C.io j).b → i = j
 glob : ∀ g cs, E.G g = some cs → GlobR C w g cs
 fresh : ∀ i, S.nid ≤ i → S.isSpent i = false ∧ S.ity.get i = none
 shp : ∀ l x, C.born l → S.shp.get l = some x → C.bs l = 0 ∧ w.shape? (C.mu l) = some x
 shu : ∀ l, ¬ C.born l → S.shp.get l = none
 ity : ∀ i T, 2 < i → i < C.nid → S.ity.get i = some T → yM w (C.top (C.io i).b) T (C.io i).b
theorem MapR.ext {C C' : Ctx} {w w' : World} (e : ExtW C w C' w') {es : List (Value × AV)} {ents : List MapEntry} (h : MapR C w es ents) : MapR C' w' es ents :=
 ⟨h.len, h.nd, h.nd', h.key, fun k x hx => let ⟨y, h1, h2, h3⟩ := h.val k x hx; ⟨y, h1, h2, h3.ext e⟩⟩
theorem ObjR.ext {C C' : Ctx} {w w' : World} (e : ExtW C w C' w') {l : Nat} (hb : C.born l) {a : Option AObj} {o : Option Obj} (h : ObjR C w l a o) : ObjR C' w' l a o := by
 obtain ⟨b1, b2, b3, b4, b5⟩ := e.born l hb
 match a, h with
 | some (.cells cs), ⟨c, T, fz, h1, h2, h3, h4, h5, h6⟩ => exact ⟨c, T, fz, h1, by rw [b3]; exact h2.ext e, by rw [b4]; exact h3, by rw [b4, b5]; exact h4, by rw [b3, b5]; exact h5, h6⟩
 | some (.siter s p), h => exact ⟨h.1, by rw [b3]; exact h.2⟩
 | some (.mp es), ⟨ents, clock, h1, h2, h3⟩ => exact ⟨ents, clock, h1, h2.ext e, h3⟩
 | some (.mpx es), ⟨h0, ents, clock, h1, h2, h3⟩ => exact ⟨by rw [e.mx]; exact h0, ents, clock, by rw [e.mx]; exact h1, h2.ext e, h3⟩
 | some .raw, h => exact ⟨by rw [e.mx]; exact h.1, by rw [b3]; exact h.2⟩
 | some .dead, _ => trivial
theorem oW (w : World) (o : Obj) {b : Nat} (h : b < w.heap.size) : (w.alloc o).heap[b]? = w.heap[b]? := by
 show (w.heap.push o)[b]? = _
 rw [Array.getElem?_push, aR (by omega)]
theorem sZ (w : World) (o : Obj) : (w.alloc o).heap[w.heap.size]? = some o := by
 show (w.heap.push o)[w.heap.size]? = _
 rw [Array.getElem?_push, bN rfl]
theorem ym6 (w : World) (o : Obj) {b : Nat} (p : Nat) (h : b < w.heap.size) : (w.alloc o).cell? ⟨b, p, none⟩ = w.cell? ⟨b, p, none⟩ := by
 simp only [World.cell?, oW w o h]
theorem lD {w : World} {b : Nat} {c : Array Value} {T : TypeId} {fz : Nat × Nat} (h : w.heap[b]? = some (.cells c T fz)) (p : Nat) : w.cell? ⟨b, p, none⟩ = c[p]? := by
 simp [World.cell?, h]
theorem Ext.drew (C : Ctx) (w : World) : Ext C w C w.drew :=
 ⟨⟨fun _ h => ⟨h, rfl, rfl, rfl, rfl⟩, aB _, fun _ _ => rfl, fun i h1 h2 => absurd h2 (by omega), fun l h1 h2 => absurd h2 h1, aB _, fun _ _ => aB _, fun _ _ _ _ _ => rfl, rfl, (Bel.refl _ _).drew, fun _ _ h => h, rfl⟩, aB _, fun _ h1 h2 => absurd h2 h1⟩
theorem IdR.same {C : Ctx} {w w' : World} (hs : w.heap.size ≤ w'.heap.size) {sp : Bool} {h : Hdr} (hh : w'.heap[h.b]? = w.heap[h.b]?) (k : IdR C w sp h) : IdR C w' sp h := by
 obtain ⟨h1, h2, h3, h4, h5, ⟨c, T, fz, r1, r2, r3⟩, h7, h8⟩ := k
 exact ⟨h1, by omega, h3, h4, h5, ⟨c, T, fz, by rw [hh]; exact r1, r2, r3⟩, h7, h8⟩
theorem WR.drew {E : Env} {C : Ctx} {S : St} {w : World} (h : WR E C S w) : WR E C S w.drew where
 no := h.no
 unb := h.unb
 nid := h.nid
 nid1 := h.nid1
 bs := h.bs
 inj := h.inj
 mub := h.mub
 objs := fun l hl => (h.objs l hl).ext (Ext.drew C w).toExtW hl
 unob := h.unob
 ids := fun i h0 hi => IdR.same (w := w) (w' := w.drew) (aB _) rfl (h.ids i h0 hi)
 idi := h.idi
 glob := fun g cs hg => (h.glob g cs hg).ext (Ext.drew C w)
 fresh := h.fresh
 shp := h.shp
 shu := h.shu
 ity := h.ity
theorem yt0 (w : World) (o : Obj) {b : Nat} {x : TypeId × Nat} (h : w.shape? b = some x) : (w.alloc o).shape? b = some x := by
 have hb : b < w.heap.size := by
  rcases fV b w.heap.size with h' | h'
  · exact h'
  · simp [World.shape?, pS h'] at h
 simp only [World.shape?, oW w o hb]
 exact h
theorem oX {w : World} {b : Nat} {c : Array Value} {T : TypeId} {fz : Nat × Nat} (h : w.heap[b]? = some (.cells c T fz)) : w.shape? b = some (T, c.size) := by
 simp [World.shape?, h]
noncomputable def Ctx.bear (C : Ctx) (n b o len lim no' : Nat) : Ctx :=
 { C with no := no', born := fun l => C.born l ∨ l = n, mu := fun l => if l = n then b else C.mu l, bs := fun l => if l = n then o else C.bs l, ol := fun l => if l = n then len else C.ol l, lim := fun l => if l = n then lim else C.lim l }
section
variable {C : Ctx} {n b o len lim no' : Nat}
theorem Ctx.bear_at : (C.bear n b o len lim no').mu n = b ∧ (C.bear n b o len lim no').bs n = o ∧ (C.bear n b o len lim no').ol n = len ∧ (C.bear n b o len lim no').lim n = lim := by simp [Ctx.bear]
theorem Ctx.bear_ne {l : Nat} (h : l ≠ n) : (C.bear n b o len lim no').mu l = C.mu l ∧ (C.bear n b o len lim no').bs l = C.bs l ∧ (C.bear n b o len lim no').ol l = C.ol l ∧ (C.bear n b o len lim no').lim l = C.lim l := by simp [Ctx.bear, h]
end
theorem ExtW.bear {E : Env} {C : Ctx} {S : St} {w : World} (h : WR E C S w) {n : Nat} (hn : ¬ C.born n) (ob : Obj) (len lim no' : Nat) : ExtW C w (C.bear n w.heap.size 0 len lim no') (w.alloc ob) where
 born := fun l hl => by
  have hne : l ≠ n := fun e => hn (e ▸ hl)
  obtain ⟨h1, h2, h3, h4⟩ := C.bear_ne (b := w.heap.size) (o := 0) (len := len) (lim := lim) (no' := no') hne
  exact ⟨.inl hl, h1, h2, h3, h4⟩
 nid := aB _
 io := fun _ _ => rfl
 ion := fun i h1 h2 => absurd h2 (by show ¬ i < C.nid; omega)
 fresh := fun l h1 h2 => by
  have : l = n := h2.resolve_left h1
  rw [this, Ctx.bear_at.1]; exact .inl (aB _)
 size := by simp
 top := fun _ _ => aB _
 cell := fun b p hb _ _ => ym6 w ob p hb
 base := rfl
 below := (Bel.refl _ _).alloc h.bs ob
 shape := fun b x hx => yt0 w ob hx
 mx := rfl
theorem WR.bear {E : Env} {C : Ctx} {S : St} {w : World} (h : WR E C S w) {n no' : Nat} (hn : ¬ C.born n) (h1 : S.no ≤ no') (h2 : n < no') (m : Mk) {ob : Obj} {len lim : Nat}
 (hob : ObjR (C.bear n w.heap.size 0 len lim no') (w.alloc ob) n (some m.obj) (some ob)) (hsh : ∀ x, m.sh = some x → (w.alloc ob).shape? w.heap.size = some x) :
 WR E (C.bear n w.heap.size 0 len lim no') { S.bear n m with no := no' } (w.alloc ob) := by
 have e : ExtW C w (C.bear n w.heap.size 0 len lim no') (w.alloc ob) := ExtW.bear h hn ob len lim no'
 have hget : ∀ l, l ≠ n → ({ S.bear n m with no := no' } : St).objs.get l = S.objs.get l := fun l hl => by
  show (S.objs.set n m.obj).get l = _
  rw [PM.get_set, aR hl]
 have hat : ({ S.bear n m with no := no' } : St).objs.get n = some m.obj := by
  show (S.objs.set n m.obj).get n = _
  rw [PM.get_set, bN rfl]
 refine ⟨rfl, fun l hl hb => ?_, h.nid, h.nid1, by have := h.bs; simp [Ctx.bear]; omega, ?_, ?_, ?_, fun l hl => ?_, ?_, h.idi, fun g cs hg => (h.glob g cs hg).ext e, h.fresh, fun l x hl hx => ?_, fun l hl => ?_, fun i T h0 hi hT => ?_⟩
 · have hl' : no' ≤ l := hl
   rcases hb with hb | hb
   · exact h.unb l (by omega) hb
   · omega
 · intro l l' hl hl' ha ha' heq
   by_cases e1 : l = n
   · by_cases e2 : l' = n
     · omega
     · have hb' := hl'.resolve_right e2
       rw [e1, Ctx.bear_at.1, (Ctx.bear_ne e2).1] at heq
       have := (h.mub l' hb').2; omega
   · have hb := hl.resolve_right e1
     by_cases e2 : l' = n
     · rw [e2, Ctx.bear_at.1, (Ctx.bear_ne e1).1] at heq
       have := (h.mub l hb).2; omega
     · have hb' := hl'.resolve_right e2
       rw [(Ctx.bear_ne e1).1, (Ctx.bear_ne e2).1] at heq
       rw [hget l e1] at ha
       rw [hget l' e2] at ha'
       exact h.inj l l' hb hb' ha ha' heq
 · intro l hl
   by_cases e1 : l = n
   · rw [e1, Ctx.bear_at.1]; have := h.bs; exact ⟨this, by simp⟩
   · rw [(Ctx.bear_ne e1).1]
     have := h.mub l (hl.resolve_right e1)
     exact ⟨this.1, by simp; omega⟩
 · intro l hl
   by_cases e1 : l = n
   · rw [e1, hat, Ctx.bear_at.1, sZ]; exact hob
   · rw [hget l e1, (Ctx.bear_ne e1).1, oW _ _ (h.mub l (hl.resolve_right e1)).2]
     exact (h.objs l (hl.resolve_right e1)).ext e (hl.resolve_right e1)
 · have hne : l ≠ n := fun e => hl (.inr e)
   rw [hget l hne]
   exact h.unob l (fun hb => hl (.inl hb))
 · intro i h0 hi
   have k := h.ids i h0 hi
   obtain ⟨h1, h2, h3, h4, h5, ⟨c', T', fz, r1, r2, r3⟩, h7, h8⟩ := k
   exact ⟨h1, by show (C.io i).b < _; simp; omega, e.free h2 h3, h4, h5, ⟨c', T', fz, by show (w.alloc _).heap[(C.io i).b]? = _; rw [oW _ _ h2]; exact r1, r2, r3⟩, h7, h8⟩
 · have hx' : (match m.sh with | some p => S.shp.set n p | none => S.shp).get l = some x := hx
   by_cases e1 : l = n
   · rw [e1, Ctx.bear_at.1, Ctx.bear_at.2.1]
     refine ⟨rfl, ?_⟩
     cases hm : m.sh with
     | none =>
      rw [hm, e1, h.shu n hn] at hx'
      cases hx'
     | some p =>
      rw [hm] at hx'
      simp only [PM.get_set, e1, fM, aI] at hx'
      rw [← hx']
      exact hsh p hm
   · have hb := hl.resolve_right e1
     rw [(Ctx.bear_ne e1).1, (Ctx.bear_ne e1).2.1]
     have hx2 : S.shp.get l = some x := by
      cases hm : m.sh with
      | none => rw [hm] at hx'; exact hx'
      | some p => rw [hm] at hx'; simp only [PM.get_set, e1, dG] at hx'; exact hx'
     obtain ⟨k1, k2⟩ := h.shp l x hb hx2
     exact ⟨k1, e.shape _ _ k2⟩
 · have hne : l ≠ n := fun e => hl (.inr e)
   have h0 : S.shp.get l = none := h.shu l (fun hb => hl (.inl hb))
   show (match m.sh with | some p => S.shp.set n p | none => S.shp).get l = none
   cases hm : m.sh with
   | none => exact h0
   | some p => simp only [PM.get_set, hne, dG]; exact h0
 · obtain ⟨c', fz', k1, k2⟩ := h.ity i T h0 hi hT
   exact ⟨c', fz', by show (w.alloc _).heap[(C.io i).b]? = _; rw [oW _ _ (h.ids i h0 hi).lt]; exact k1, k2⟩
theorem WR.bearRow {E : Env} {C : Ctx} {S : St} {w : World} (h : WR E C S w) {n no' : Nat} (hn : ¬ C.born n) (h1 : S.no ≤ no') (h2 : n < no') (m : Mk) {cs : List AV} (hm : m.obj = .cells cs) {c : Array Value} {T : TypeId} {lim : Nat}
 (hl : LR C w cs (c.toList.take cs.length)) (hlim : cs.length ≤ lim) (hsz : lim ≤ c.size) (hsh : ∀ x, m.sh = some x → x = (T, c.size)) :
 WR E (C.bear n w.heap.size 0 cs.length lim no') { S.bear n m with no := no' } (w.alloc (.cells c T)) := by
 refine h.bear hn h1 h2 m ?_ (fun x hx => ?_)
 · rw [hm]
   refine ⟨c, T, (0, 0), rfl, ?_, ?_, ?_, ?_, .inl rfl⟩
   · rw [Ctx.bear_at.2.1, cJ]; exact hl.ext (ExtW.bear h hn _ _ _ _)
   · rw [Ctx.bear_at.2.2.1]
   · rw [Ctx.bear_at.2.2.1, Ctx.bear_at.2.2.2]; exact hlim
   · rw [Ctx.bear_at.2.1, Ctx.bear_at.2.2.2]; omega
 · rw [hsh x hx]; exact oX (sZ w _)
noncomputable def Ctx.newId (C : Ctx) (hd : Hdr) (tp : Nat) : Ctx := { C with nid := C.nid + 1, io := fun i => if i = C.nid then hd else C.io i, top := fun b => if b = hd.b then tp else C.top b }
theorem Ext.newRow {E : Env} {C : Ctx} {S : St} {w : World} (h : WR E C S w) (o : Obj) (len cap sz tp : Nat) : Ext C w (C.newId ⟨w.heap.size, 0, len, cap, sz⟩ tp) (w.alloc o) where
 born := fun _ h => ⟨h, rfl, rfl, rfl, rfl⟩
 nid := nV _
 io := fun i hi => by simp only [Ctx.newId]; rw [aR (by omega)]
 ion := fun i h1 h2 => .inl (by
  have : i = C.nid := by simp only [Ctx.newId] at h2; omega
  simp only [Ctx.newId]; rw [bN this]; exact aB _)
 fresh := fun l h1 h2 => absurd h2 h1
 size := by simp
 top := fun b hb => by simp only [Ctx.newId]; rw [aR (by omega)]; exact aB _
 cell := fun b p hb _ _ => ym6 w o p hb
 base := rfl
 below := (Bel.refl _ _).alloc h.bs o
 shape := fun b x hx => yt0 w o hx
 mx := rfl
 no := aB _
 newer := fun _ h1 h2 => absurd h2 h1
noncomputable def Ctx.row (C : Ctx) (b tp : Nat) : Ctx := { C with top := fun k => if k = b then tp else C.top k }
theorem Ext.row {E : Env} {C : Ctx} {S : St} {w : World} (h : WR E C S w) (o : Obj) (tp : Nat) : Ext C w (C.row w.heap.size tp) (w.alloc o) where
 born := fun _ h => ⟨h, rfl, rfl, rfl, rfl⟩
 nid := aB _
 io := fun i hi => rfl
 ion := fun i h1 h2 => absurd h2 (by show ¬ i < C.nid; omega)
 fresh := fun l h1 h2 => absurd h2 h1
 size := by simp
 top := fun b hb => by simp only [Ctx.row]; rw [aR (by omega)]; exact aB _
 cell := fun b p hb _ _ => ym6 w o p hb
 base := rfl
 below := (Bel.refl _ _).alloc h.bs o
 shape := fun b x hx => yt0 w o hx
 mx := rfl
 no := aB _
 newer := fun _ h1 h2 => absurd h2 h1
theorem WR.row {E : Env} {C : Ctx} {S : St} {w : World} (h : WR E C S w) (o : Obj) (tp : Nat) : WR E (C.row w.heap.size tp) S (w.alloc o) := by
 have e := Ext.row h o tp
 refine ⟨h.no, h.unb, h.nid, h.nid1, by have := h.bs; simp [Ctx.row]; omega, h.inj, fun l hl => ⟨(h.mub l hl).1, by have := (h.mub l hl).2; simp [Ctx.row]; omega⟩, fun l hl => ?_, h.unob, fun i h0 hi => ?_, h.idi, fun g cs hg => (h.glob g cs hg).ext e, h.fresh, fun l x hl hx => ?_, h.shu, fun i T h0 hi hT => ?_⟩
 · show ObjR _ _ l (S.objs.get l) ((w.alloc _).heap[C.mu l]?)
   rw [oW _ _ (h.mub l hl).2]
   exact (h.objs l hl).ext e.toExtW hl
 · obtain ⟨k1, k2, k3, k4, k5, ⟨c', T', fz', r1, r2, r3⟩, k7, k8⟩ := h.ids i h0 hi
   have ht : (C.row w.heap.size tp).top (C.io i).b = C.top (C.io i).b := by simp only [Ctx.row]; rw [aR (by omega)]
   exact ⟨k1, by show (C.io i).b < _; simp; omega, k3, k4, k5, ⟨c', T', fz', by show (w.alloc _).heap[(C.io i).b]? = _; rw [oW _ _ k2]; exact r1, by show ∀ i', Ctx.top _ (C.io i).b ≤ i' → _; rw [ht]; exact r2, r3⟩, by show _ ≤ Ctx.top _ (C.io i).b; rw [ht]; exact k7, fun hsp => by show Ctx.top _ (C.io i).b = _; rw [ht]; exact k8 hsp⟩
 · obtain ⟨k1, k2⟩ := h.shp l x hl hx
   exact ⟨k1, e.shape _ _ k2⟩
 · obtain ⟨c', fz', k1, k2⟩ := h.ity i T h0 hi hT
   exact ⟨c', fz', by show (w.alloc _).heap[(C.io i).b]? = _; rw [oW _ _ (h.ids i h0 hi).lt]; exact k1, by
    have ht : (C.row w.heap.size tp).top (C.io i).b = C.top (C.io i).b := by simp only [Ctx.row]; rw [aR (by have := (h.ids i h0 hi).lt; omega)]
    show _ ∨ (_ ∧ _ ≤ Ctx.top _ (C.io i).b); rw [ht]; exact k2⟩
theorem WR.newRow {E : Env} {C : Ctx} {S : St} {w : World} (h : WR E C S w) {c : Array Value} (T : TypeId) (fz : Nat × Nat) (len cap sz : Nat) (hs : 0 < sz) (hlc : len ≤ cap)
 (hsz : cap * sz ≤ c.size) (hfz : unfrozen c fz) (hpl : fz.1 = fz.2 ∨ (fz.1 ≤ fz.2 ∧ fz.2 ≤ (C.newId ⟨w.heap.size, 0, len, cap, sz⟩ (len * sz)).top w.heap.size)) :
 WR E (C.newId ⟨w.heap.size, 0, len, cap, sz⟩ (len * sz)) (S.newId T) (w.alloc (.cells c T fz)) := by
 have e : Ext C w (C.newId ⟨w.heap.size, 0, len, cap, sz⟩ (len * sz)) (w.alloc (.cells c T fz)) := Ext.newRow h _ _ _ _ _
 have hfree : (C.newId ⟨w.heap.size, 0, len, cap, sz⟩ (len * sz)).free w.heap.size := fun l hl => by
  have := (h.mub l hl).2
  show C.mu l ≠ _; omega
 refine ⟨h.no, h.unb, by simp [Ctx.newId, St.newId, h.nid], by have := h.nid1; simp [St.newId]; omega, by have := h.bs; simp [Ctx.newId]; omega, h.inj, fun l hl => ⟨(h.mub l hl).1, by have := (h.mub l hl).2; simp [Ctx.newId]; omega⟩, ?_, h.unob, ?_, ?_,
  fun g cs hg => (h.glob g cs hg).ext e, fun i hi => ⟨(h.fresh i (by simp only [St.newId] at hi; omega)).1, by
   have hi' : S.nid + 1 ≤ i := hi
   show (S.ity.set S.nid T).get i = none
   rw [PM.get_set, aR (by omega)]
   exact (h.fresh i (by omega)).2⟩, fun l x hl hx => ?_, h.shu, fun i T' h0 hi hT => ?_⟩
 · intro l hl
   show ObjR _ _ l (S.objs.get l) ((w.alloc _).heap[C.mu l]?)
   rw [oW _ _ (h.mub l hl).2]
   exact (h.objs l hl).ext e.toExtW hl
 · intro i h0 hi
   simp only [Ctx.newId] at hi
   by_cases h1 : i = C.nid
   · have hh : (C.newId ⟨w.heap.size, 0, len, cap, sz⟩ (len * sz)).io i = ⟨w.heap.size, 0, len, cap, sz⟩ := by simp only [Ctx.newId]; rw [bN h1]
     have ht : (C.newId ⟨w.heap.size, 0, len, cap, sz⟩ (len * sz)).top w.heap.size = len * sz := by simp [Ctx.newId]
     rw [hh]
     exact ⟨⟨h.bs, rfl⟩, by simp, hfree, hs, hlc, ⟨c, T, fz, sZ _ _, fun j _ hj => hfz.at j hj, by simpa using hsz⟩, by show 0 + len * sz ≤ _; rw [ht]; omega, fun _ => by show Ctx.top _ w.heap.size = 0 + len * sz; rw [ht]; omega⟩
   · have hh : (C.newId ⟨w.heap.size, 0, len, cap, sz⟩ (len * sz)).io i = C.io i := by simp only [Ctx.newId]; rw [aR h1]
     obtain ⟨k1, k2, k3, k4, k5, ⟨c', T', fz', r1, r2, r3⟩, k7, k8⟩ := h.ids i h0 (by omega)
     have ht : (C.newId ⟨w.heap.size, 0, len, cap, sz⟩ (len * sz)).top (C.io i).b = C.top (C.io i).b := by simp only [Ctx.newId]; rw [aR (by omega)]
     rw [hh]
     exact ⟨k1, by simp; omega, e.free k2 k3, k4, k5, ⟨c', T', fz', by rw [oW _ _ k2]; exact r1, by rw [ht]; exact r2, r3⟩, by rw [ht]; exact k7, fun hsp => by rw [ht]; exact k8 hsp⟩
 · intro i j h0 hi h0' hj hsi hsj heq
   simp only [Ctx.newId] at hi hj heq
   by_cases h1 : i = C.nid
   · by_cases h2 : j = C.nid
     · omega
     · rw [bN h1, aR h2] at heq
       have := (h.ids j h0' (by omega)).lt
       simp only at heq; omega
   · by_cases h2 : j = C.nid
     · rw [aR h1, bN h2] at heq
       have := (h.ids i h0 (by omega)).lt
       simp only at heq; omega
     · rw [aR h1, aR h2] at heq
       exact h.idi i j h0 (by omega) h0' (by omega) hsi hsj heq
 · obtain ⟨k1, k2⟩ := h.shp l x hl hx
   exact ⟨k1, e.shape _ _ k2⟩
 · have hT' : (S.ity.set S.nid T).get i = some T' := hT
   rw [PM.get_set] at hT'
   have hi' : i < C.nid + 1 := hi
   by_cases h1 : i = S.nid
   · rw [bN h1] at hT'
     simp only [aI] at hT'
     have hh : (C.newId ⟨w.heap.size, 0, len, cap, sz⟩ (len * sz)).io i = ⟨w.heap.size, 0, len, cap, sz⟩ := by simp only [Ctx.newId]; rw [bN (by rw [h.nid]; exact h1)]
     rw [hh, ← hT']
     exact ⟨c, fz, sZ w _, hpl⟩
   · rw [aR h1] at hT'
     have h2 : i < C.nid := by have := h.nid; omega
     have hh : (C.newId ⟨w.heap.size, 0, len, cap, sz⟩ (len * sz)).io i = C.io i := by simp only [Ctx.newId]; rw [aR (by omega)]
     obtain ⟨c', fz', k1, k2⟩ := h.ity i T' h0 h2 hT'
     have hlt := (h.ids i h0 h2).lt
     have ht : (C.newId ⟨w.heap.size, 0, len, cap, sz⟩ (len * sz)).top (C.io i).b = C.top (C.io i).b := by simp only [Ctx.newId]; rw [aR (by omega)]
     rw [hh]
     exact ⟨c', fz', by rw [oW _ _ hlt]; exact k1, by rw [ht]; exact k2⟩
theorem WR.put {E : Env} {C : Ctx} {S : St} {w w' : World} (h : WR E C S w) {l : Nat} (hl : C.born l) (hal : ¬ iA (S.objs.get l)) {a : AObj} {o : Obj}
 (hb : w'.heap[C.mu l]? = some o) (ho : ∀ b, b ≠ C.mu l → w'.heap[b]? = w.heap[b]?) (hsz : w'.heap.size = w.heap.size) (hbel : Bel C.base w w') (hsh : ∀ x, w.shape? (C.mu l) = some x → w'.shape? (C.mu l) = some x)
 (hr : ObjR C w l (some a) (some o)) : WR E C (S.put l a) w' ∧ Ext C w C w' := by
 have e : Ext C w C w' := ⟨⟨fun _ h => ⟨h, rfl, rfl, rfl, rfl⟩, aB _, fun _ _ => rfl, fun i h1 h2 => absurd h2 (by omega), fun l h1 h2 => absurd h2 h1, by omega, fun _ _ => aB _,
  fun b o hb hf _ => by simp only [World.cell?, ho b (fun e => hf l hl e.symm)], rfl, hbel, fun b x hx => by
   by_cases hbb : b = C.mu l
   · rw [hbb] at hx ⊢; exact hsh x hx
   · simp only [World.shape?, ho b hbb] at hx ⊢; exact hx, rfl⟩, aB _, fun _ h1 h2 => absurd h2 h1⟩
 have hget : ∀ k, (S.put l a).objs.get k = if k = l then some a else S.objs.get k := fun k => by
  show (S.objs.set l a).get k = _
  rw [PM.get_set]
 refine ⟨⟨h.no, h.unb, h.nid, h.nid1, by have := h.bs; omega, fun k k' hk hk' ha ha' heq => ?_, fun l hl => ⟨(h.mub l hl).1, by have := (h.mub l hl).2; omega⟩, fun k hk => ?_, fun k hk => ?_, fun i h0 hi => ?_, h.idi, fun g cs hg => (h.glob g cs hg).ext e, h.fresh, fun k x hk hx => ?_, h.shu, fun i T h0 hi hT => ?_⟩, e⟩
 · have old : ∀ k, C.born k → ¬ iA ((S.put l a).objs.get k) → ¬ iA (S.objs.get k) := fun k _ ha => by
    rw [hget] at ha
    by_cases h1 : k = l
    · rw [h1]; exact hal
    · rw [aR h1] at ha; exact ha
   exact h.inj k k' hk hk' (old k hk ha) (old k' hk' ha') heq
 · rw [hget]
   by_cases h1 : k = l
   · rw [bN h1, h1, hb]; exact hr.ext e.toExtW hl
   · rw [aR h1]
     have hk0 := h.objs k hk
     by_cases h2 : C.mu k = C.mu l
     · -- two numbers for one block: the other is dead
       have hd : iA (S.objs.get k) := Classical.byContradiction fun hc => h1 (h.inj k l hk hl hc hal h2)
       rcases hd with hd | hd
       · rw [hd] at hk0; exact hk0.elim
       · rw [hd]; trivial
     · rw [ho _ h2]; exact hk0.ext e.toExtW hk
 · have h1 : k ≠ l := fun e => hk (e ▸ hl)
   rw [hget, aR h1]; exact h.unob k hk
 · have k := h.ids i h0 hi
   exact k.same (by omega) (ho _ (fun e => k.free l hl e.symm))
 · obtain ⟨k1, k2⟩ := h.shp k x hk hx
   exact ⟨k1, e.shape _ _ k2⟩
 · obtain ⟨c', fz', k1, k2⟩ := h.ity i T h0 hi hT
   exact ⟨c', fz', by rw [ho _ (fun e => (h.ids i h0 hi).free l hl e.symm)]; exact k1, k2⟩
theorem WR.kill {E : Env} {C : Ctx} {S : St} {w : World} (h : WR E C S w) {l : Nat} (hl : C.born l) : WR E C (S.put l .dead) w := by
 have hget : ∀ k, (S.put l .dead).objs.get k = if k = l then some .dead else S.objs.get k := fun k => by
  show (S.objs.set l .dead).get k = _
  rw [PM.get_set]
 refine ⟨h.no, h.unb, h.nid, h.nid1, h.bs, fun k k' hk hk' ha ha' heq => ?_, h.mub, fun k hk => ?_, fun k hk => ?_, h.ids, h.idi, h.glob, h.fresh, h.shp, h.shu, h.ity⟩
 · have old : ∀ k, ¬ iA ((S.put l .dead).objs.get k) → ¬ iA (S.objs.get k) := fun k ha => by
    rw [hget] at ha
    by_cases h1 : k = l
    · rw [bN h1] at ha; exact absurd (.inr rfl) ha
    · rw [aR h1] at ha; exact ha
   exact h.inj k k' hk hk' (old k ha) (old k' ha') heq
 · rw [hget]
   by_cases h1 : k = l
   · rw [bN h1]; trivial
   · rw [aR h1]; exact h.objs k hk
 · have h1 : k ≠ l := fun e => hk (e ▸ hl)
   rw [hget, aR h1]; exact h.unob k hk
structure Env.Ok (E : Env) : Prop where
 fn : ∀ f x, E.fn f = some x → E.P.funcs[f]? = some x ∧ x.name ≠ "runtime.NumGoroutine"
 und : ∀ t x, E.und t = some x → E.P.underlying t = some x
 inf : ∀ t x, E.inf t = some x → E.P.info? t = some x
 mixed : E.P.follows .mixedOrders = true
 meth : ∀ t name f, E.meth t name = some f → ∀ v w, (method (E.P.types.size + Made.depth) t v name).run E.P w = .ok (f, v) w
 ext : ∀ g h args r, E.ext g = some h → h args = some r → ∀ C w (vs : Array Value), LR C w args vs.toList → ∃ u, (callFunc g vs).run E.P w = .ok (.value u) w ∧ VR C w r u
end Go.Abs
