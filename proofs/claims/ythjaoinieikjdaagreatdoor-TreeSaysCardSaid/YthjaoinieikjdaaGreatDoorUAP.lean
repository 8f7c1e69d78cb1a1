/-
  The evaluator is sound; where a law begins.
-/
import Derived.Test.YthjaoinieikjdaaGreatDoorUAO
import Derived.Laws.Strings
import Derived.Lib.LaidRTab
import Derived.Shelf.Unicode.PredsAny
import Derived.Shelf.Unicode.DecodeAny
set_option linter.unusedSimpArgs false
set_option linter.unusedVariables false
set_option maxRecDepth 100000
namespace Go.Abs
open Go.RowKit
theorem jf0 {E : Env} (ok : E.Ok) (he : EvoX E) (hf : FrmX E) (lf n : Nat) (hc : mA E (evF E lf n)) : kw0 E (evF E lf n) :=
 fun nt id ops Q tm tm' S S' C a w h hfr hq => draw_ok ok hc (zO he.evo lf n) (jd8 hf lf n) nt id ops Q tm tm' S S' C a w h hfr hq
theorem sound {E : Env} (ok : E.Ok) (hx : XOk E) (he : EvoX E) (hf : FrmX E) (lf n : Nat) : mA E (evF E lf n) :=
 evF_ok ok hx lf (fun n hc => jf0 ok he hf lf n hc) (fun n nt hc => fun c r h => by simp [pQ] at h) n
noncomputable def S0 : St := { objs := .leaf, no := 0, nid := 3, spent := .leaf, wr := .leaf, shp := .leaf, ity := .leaf }
noncomputable def C0 (w : World) : Ctx := { no := 0, born := fun _ => False, nid := 3, mu := fun _ => 0, bs := fun _ => 0, ol := fun _ => 0, lim := fun _ => 0, io := fun _ => ⟨0, 0, 0, 0, 0⟩, top := fun b => match w.heap[b]? with | some (.cells c _ _) => c.size | _ => 0, base := w.heap.size, mx := fun _ => .map #[] 0 }
theorem C0.free (w : World) (b : Nat) : (C0 w).free b := fun l hl => hl.elim
theorem wr0 {E : Env} (w : World) (hg : ∀ g cs, E.G g = some cs → GlobR (C0 w) w g cs) : WR E (C0 w) S0 w where
 no := rfl
 unb := fun _ _ h => h
 nid := rfl
 nid1 := by decide
 bs := aB _
 inj := fun l l' hl => hl.elim
 mub := fun l hl => hl.elim
 objs := fun l hl => hl.elim
 unob := fun l _ => .inl (PM.get_leaf l)
 ids := fun i h0 hi => by simp [C0] at hi; omega
 idi := fun i j h0 hi => by simp [C0] at hi; omega
 glob := hg
 fresh := fun i _ => ⟨by show (PM.get PM.leaf i).isSome = false; rw [PM.get_leaf]; rfl, PM.get_leaf i⟩
 shp := fun l x hl => hl.elim
 shu := fun l _ => PM.get_leaf l
 ity := fun i T h0 hi => by simp [C0] at hi; omega
theorem ki2 {E : Env} (ok : E.Ok) (hx : XOk E) (he : EvoX E) (hf : FrmX E) {lf n : Nat} {f : FuncId} {args : List AV} {vs : Array Value} {w : World} {u : Value} {S' : St}
 (hg : ∀ g cs, E.G g = some cs → GlobR (C0 w) w g cs) (hl : LR (C0 w) w args vs.toList)
 (h : evF E lf n f args S0 = some (.sc u, S')) : Calls E.P f vs w fun e w' => e = .returned u ∧ Below w.heap.size w w' :=
 ((sound ok hx he hf lf n f args S0 (.sc u) S' h).2 (C0 w) w vs (wr0 w hg) hl).mono fun e w' ⟨u', C', h1, _, h3, h4⟩ => ⟨by rw [h1, h4.sc_inv], h3.toExtW.below.b⟩
noncomputable def xx3 (x : Option (AV × St)) : Bool :=
 match x with
 | some (.sc (.bool true), _) => true
 | _ => false
theorem wl9 {x : Option (AV × St)} (h : xx3 x = true) : ∃ S', x = some (.sc (.bool true), S') := by
 unfold xx3 at h
 split at h
 · exact ⟨_, rfl⟩
 · simp at h
noncomputable def kr1 : List AV → Option AV
 | [.sc (.string a), .sc (.string b)] => some (.sc (.int .i64 (Extern.BytealgCompare.cmp a b)))
 | _ => none
noncomputable def wD : List AV → Option AV
 | [x] => some x
 | _ => none
structure ExtOk (P : Program) (ext : FuncId → Option (List AV → Option AV)) : Prop where
 ok : ∀ g h args r, ext g = some h → h args = some r → ∀ C w (vs : Array Value), LR C w args vs.toList → ∃ u, (callFunc g vs).run P w = .ok (.value u) w ∧ VR C w r u
theorem kr0 {P : Program} {g : FuncId} (h : ∀ (a b : ByteArray) (w : World), (callFunc g #[.string a, .string b]).run P w = .ok (.value (.int .i64 (Extern.BytealgCompare.cmp a b))) w) {args : List AV} {r : AV} (hr : kr1 args = some r)
 {C : Ctx} {w : World} {vs : Array Value} (hl : LR C w args vs.toList) : ∃ u, (callFunc g vs).run P w = .ok (.value u) w ∧ VR C w r u := by
 unfold kr1 at hr
 split at hr
 · rename_i a b
   obtain ⟨u1, u2, rfl, h1, h2⟩ := lr2 hl
   have := h1.sc_inv; subst this
   have := h2.sc_inv; subst this
   simp only [aI] at hr
   subst hr
   exact ⟨_, h a b w, .sc _⟩
 · simp at hr
theorem kd1 {P : Program} {g : FuncId} (h : ∀ (x : Value) (w : World), (callFunc g #[x]).run P w = .ok (.value x) w) {args : List AV} {r : AV} (hr : wD args = some r)
 {C : Ctx} {w : World} {vs : Array Value} (hl : LR C w args vs.toList) : ∃ u, (callFunc g vs).run P w = .ok (.value u) w ∧ VR C w r u := by
 unfold wD at hr
 split at hr
 · obtain ⟨u, rfl, h1⟩ := lr1 hl
   simp only [aI] at hr
   subst hr
   exact ⟨u, h u w, h1⟩
 · simp at hr
noncomputable def uZ (gc gs : List FuncId) (g : FuncId) : Option (List AV → Option AV) := bif gc.contains g then some kr1 else bif gs.contains g then some wD else none
theorem wv4 {P : Program} {gc gs : List FuncId} (hc : ∀ g ∈ gc, ∀ (a b : ByteArray) (w : World), (callFunc g #[.string a, .string b]).run P w = .ok (.value (.int .i64 (Extern.BytealgCompare.cmp a b))) w)
 (hs : ∀ g ∈ gs, ∀ (x : Value) (w : World), (callFunc g #[x]).run P w = .ok (.value x) w) : ExtOk P (uZ gc gs) := by
 refine ⟨fun g h args r hg hr C w vs hl => ?_⟩
 unfold uZ at hg
 cases h1 : gc.contains g with
 | true =>
  rw [h1] at hg
  simp only [aH, aI] at hg
  subst hg
  exact kr0 (hc g (by simpa using h1)) hr hl
 | false =>
  rw [h1] at hg
  cases h2 : gs.contains g with
  | true =>
   rw [h2] at hg
   simp only [aH, aK, aI] at hg
   subst hg
   exact kd1 (hs g (by simpa using h2)) hr hl
  | false => rw [h2] at hg; simp at hg
noncomputable def ws5 (P : Program) (hp : TypeId → Option Tmp → Bool) (meth : TypeId → String → Option FuncId) (ext : FuncId → Option (List AV → Option AV)) : Env := { P := P, G := fun _ => none, fn := fun f => P.funcs[f]?, und := P.underlying, inf := P.info?, hp := hp, meth := meth, ext := ext, X := fun _ => none }
theorem xl0 {P : Program} {hp : TypeId → Option Tmp → Bool} {meth : TypeId → String → Option FuncId} {ext : FuncId → Option (List AV → Option AV)} (h1 : P.funcs.toList.all (fun x => x.name != "runtime.NumGoroutine") = true) (h2 : P.follows .mixedOrders = true)
 (hm : ∀ t name f, meth t name = some f → ∀ v w, (method (P.types.size + Made.depth) t v name).run P w = .ok (f, v) w) (he : ExtOk P ext) : (ws5 P hp meth ext).Ok where
 fn := fun f x hx => ⟨hx, by
  have hm : x ∈ P.funcs.toList := by
   have := Array.mem_of_getElem? hx
   simpa using this
  have := List.all_eq_true.1 h1 x hm
  simpa using this⟩
 und := fun t x hx => hx
 inf := fun t x hx => hx
 mixed := h2
 meth := hm
 ext := he.ok
open Go.RowKit Go.MapKept
section
variable {E : Env} {C : Ctx} {S : St} {w w' : World}
theorem xJ {b : Nat} (h : w'.heap[b]? = w.heap[b]?) : w'.shape? b = w.shape? b := by simp only [World.shape?, h]
theorem xx1 {b : Nat} {x : TypeId × Nat} (h : w.shape? b = some x) : b < w.heap.size := by
 rcases fV b w.heap.size with h' | h'
 · exact h'
 · simp [World.shape?, pS h'] at h
theorem Ext.later (hw : WR E C S w) (hb : Below w.heap.size w w') : Ext C w C w' :=
 ⟨⟨fun _ h => ⟨h, rfl, rfl, rfl, rfl⟩, aB _, fun _ _ => rfl, fun i h1 h2 => absurd h2 (by omega), fun l h1 h2 => absurd h2 h1, hb.size, fun _ _ => aB _,
  fun b o h _ _ => by simp only [World.cell?, hb.block b h], rfl, ⟨hb.mono hw.bs, trivial⟩, fun b x hx => by rw [xJ (hb.block b (xx1 hx))]; exact hx, rfl⟩, aB _, fun l h1 h2 => absurd h2 h1⟩
theorem WR.later (hw : WR E C S w) (hb : Below w.heap.size w w') : WR E C S w' := by
 have e := Ext.later hw hb
 refine ⟨hw.no, hw.unb, hw.nid, hw.nid1, by have := hw.bs; have := hb.size; omega, hw.inj, fun l hl => ⟨(hw.mub l hl).1, by have := (hw.mub l hl).2; have := hb.size; omega⟩, fun l hl => ?_, hw.unob, fun i h0 hi => ?_, hw.idi, fun g cs hg => (hw.glob g cs hg).ext e, hw.fresh, fun l x hl hx => ?_, hw.shu, fun i T h0 hi hT => ?_⟩
 · rw [hb.block _ (hw.mub l hl).2]
   exact (hw.objs l hl).ext e.toExtW hl
 · have k := hw.ids i h0 hi
   exact k.same hb.size (hb.block _ k.lt)
 · obtain ⟨k1, k2⟩ := hw.shp l x hl hx
   exact ⟨k1, by rw [xJ (hb.block _ (hw.mub l hl).2)]; exact k2⟩
 · obtain ⟨c, fz, k1, k2⟩ := hw.ity i T h0 hi hT
   exact ⟨c, fz, by rw [hb.block _ (hw.ids i h0 hi).lt]; exact k1, k2⟩
theorem WR.laterBear (hw : WR E C S w) (hb : Below w.heap.size w w') {gb : Nat} (h1 : w.heap.size ≤ gb) (h2 : gb < w'.heap.size) {cs : List AV} {c : Array Value} {T : TypeId} {lim : Nat} (hg : w'.heap[gb]? = some (.cells c T (0, 0)))
 (hl : ∀ C', LR C' w' cs (c.toList.take cs.length)) (hlim : cs.length ≤ lim) (hsz : lim ≤ c.size) :
 WR E (C.bear S.no gb 0 cs.length lim (S.no + 1)) (S.newObj cs) w' ∧ Ext C w (C.bear S.no gb 0 cs.length lim (S.no + 1)) w' := by
 have hn : ¬ C.born S.no := hw.unb _ (aB _)
 have e : Ext C w (C.bear S.no gb 0 cs.length lim (S.no + 1)) w' := by
  refine ⟨⟨fun l hl' => ?_, aB _, fun _ _ => rfl, fun i h1 h2 => absurd h2 (by show ¬ i < C.nid; omega), fun l h1' h2' => ?_, hb.size, fun _ _ => aB _, fun b o h _ _ => by simp only [World.cell?, hb.block b h], rfl, ⟨hb.mono hw.bs, trivial⟩, fun b x hx => by rw [xJ (hb.block b (xx1 hx))]; exact hx, rfl⟩, by show C.no ≤ S.no + 1; rw [hw.no]; exact nV _, fun l h1' h2' => ?_⟩
  · have hne : l ≠ S.no := fun e => hn (e ▸ hl')
    obtain ⟨a1, a2, a3, a4⟩ := C.bear_ne (b := gb) (o := 0) (len := cs.length) (lim := lim) (no' := S.no + 1) hne
    exact ⟨.inl hl', a1, a2, a3, a4⟩
  · have : l = S.no := h2'.resolve_left h1'
    rw [this, Ctx.bear_at.1]; exact .inl h1
  · have : l = S.no := h2'.resolve_left h1'
    rw [this, hw.no]; exact aB _
 have hget : ∀ l, (S.newObj cs).objs.get l = if l = S.no then some (.cells cs) else S.objs.get l := fun l => by
  show (S.objs.set S.no _).get l = _
  rw [PM.get_set]
 refine ⟨⟨rfl, fun l hl' hb' => ?_, hw.nid, hw.nid1, by have := hw.bs; have := hb.size; simp [Ctx.bear]; omega, fun l l' hl' hl'' ha ha' heq => ?_, fun l hl' => ?_, fun l hl' => ?_, fun l hl' => ?_, fun i h0 hi => ?_, hw.idi, fun g cs hG => (hw.glob g cs hG).ext e, hw.fresh, fun l x hl' hx => ?_, fun l hl' => ?_, fun i T' h0 hi hT => ?_⟩, e⟩
 · have hl' : S.no + 1 ≤ l := hl'
   rcases hb' with hb' | hb'
   · exact hw.unb l (by omega) hb'
   · omega
 · by_cases q1 : l = S.no
   · by_cases q2 : l' = S.no
     · rw [q1, q2]
     · have b2 := hl''.resolve_right q2
       rw [q1, Ctx.bear_at.1, (Ctx.bear_ne q2).1] at heq
       have := (hw.mub l' b2).2; omega
   · have b1 := hl'.resolve_right q1
     by_cases q2 : l' = S.no
     · rw [q2, Ctx.bear_at.1, (Ctx.bear_ne q1).1] at heq
       have := (hw.mub l b1).2; omega
     · have b2 := hl''.resolve_right q2
       rw [(Ctx.bear_ne q1).1, (Ctx.bear_ne q2).1] at heq
       rw [hget, aR q1] at ha
       rw [hget, aR q2] at ha'
       exact hw.inj l l' b1 b2 ha ha' heq
 · by_cases q : l = S.no
   · rw [q, Ctx.bear_at.1]; have := hw.bs; exact ⟨by show C.base ≤ gb; omega, h2⟩
   · rw [(Ctx.bear_ne q).1]
     have h3 := hw.mub l (hl'.resolve_right q)
     have h4 := hb.size
     exact ⟨h3.1, by omega⟩
 · rw [hget]
   by_cases q : l = S.no
   · rw [bN q, q, Ctx.bear_at.1, hg]
     refine ⟨c, T, (0, 0), rfl, ?_, ?_, ?_, ?_, .inl rfl⟩
     · rw [Ctx.bear_at.2.1, cJ]; exact hl _
     · rw [Ctx.bear_at.2.2.1]
     · rw [Ctx.bear_at.2.2.1, Ctx.bear_at.2.2.2]; exact hlim
     · rw [Ctx.bear_at.2.1, Ctx.bear_at.2.2.2]; omega
   · rw [aR q, (Ctx.bear_ne q).1, hb.block _ (hw.mub l (hl'.resolve_right q)).2]
     exact (hw.objs l (hl'.resolve_right q)).ext e.toExtW (hl'.resolve_right q)
 · have hne : l ≠ S.no := fun e => hl' (.inr e)
   rw [hget, aR hne]
   exact hw.unob l (fun h => hl' (.inl h))
 · obtain ⟨k1, k2, k3, k4, k5, ⟨c', T', fz, r1, r2, r3⟩, k7, k8⟩ := hw.ids i h0 hi
   refine ⟨k1, by show (C.io i).b < _; have := hb.size; omega, fun l hl' => ?_, k4, k5, ⟨c', T', fz, by show w'.heap[(C.io i).b]? = _; rw [hb.block _ k2]; exact r1, r2, r3⟩, k7, k8⟩
   by_cases q : l = S.no
   · rw [q, Ctx.bear_at.1]; show gb ≠ (C.io i).b; omega
   · rw [(Ctx.bear_ne q).1]; exact k3 l (hl'.resolve_right q)
 · have hx : S.shp.get l = some x := hx
   by_cases q : l = S.no
   · rw [q, hw.shu _ hn] at hx; cases hx
   · obtain ⟨k1, k2⟩ := hw.shp l x (hl'.resolve_right q) hx
     rw [(Ctx.bear_ne q).1, (Ctx.bear_ne q).2.1]
     exact ⟨k1, e.shape _ _ k2⟩
 · exact hw.shu l (fun h => hl' (.inl h))
 · obtain ⟨c', fz, k1, k2⟩ := hw.ity i T' h0 hi hT
   exact ⟨c', fz, by show w'.heap[(C.io i).b]? = _; rw [hb.block _ (hw.ids i h0 hi).lt]; exact k1, k2⟩
end
open Go.RowKit
noncomputable def oJ (r : Value) (args : List AV) (S : St) : Option (AV × St) := match args with
 | [] => some (.sc r, S)
 | _ => none
theorem eptr_C0 {C : Ctx} {w : World} {cs : List AV} {g : Nat} (h : VR C w (.eptr cs 0) (.pointer (some ⟨g, 0, none⟩))) (hs : ∀ x ∈ cs, ∃ v, x = .sc v) : VR (C0 w) w (.eptr cs 0) (.pointer (some ⟨g, 0, none⟩)) := by
 obtain ⟨b, o, hU, hb, hf, ht, ⟨vs, k1, k2⟩⟩ := h.eptr_inv
 have hU' : b = g ∧ o = 0 := by
  simp only [Value.pointer.injEq, aI, Addr.mk.injEq] at hU
  omega
 obtain ⟨rfl, rfl⟩ := hU'
 have hvs : ∀ i, i < cs.length → ∃ v, cs[i]? = some (.sc v) ∧ w.cell? ⟨b, 0 + i, none⟩ = some v := fun i hi => by
  have h1 : cs[i]? = some cs[i] := by simp [hi]
  obtain ⟨v, h2⟩ := hs cs[i] (fE hi)
  rw [h2] at h1
  obtain ⟨u, h3, h4⟩ := k1.get h1
  rw [h4.sc_inv] at h3
  exact ⟨v, h1, k2 i v h3⟩
 refine .eptr cs 0 b 0 (fun i => match cs[i]? with | some (.sc v) => v | _ => Go.undef) hb (C0.free w b) ?_ (fun i hi => ?_) (fun i x hx => ?_)
 · rw [aF]
   show _ ≤ (match w.heap[b]? with | some (.cells c _ _) => c.size | _ => 0)
   rcases Nat.eq_zero_or_pos cs.length with h0 | h0
   · rw [h0]; exact jR _
   · obtain ⟨v, _, h2⟩ := hvs (cs.length - 1) (by omega)
     unfold World.cell? at h2
     split at h2
     · rename_i c T fz hh
       have h2' : c[0 + (cs.length - 1)]? = some v := by simpa using h2
       have := (Array.getElem?_eq_some_iff.1 h2').1
       rw [hh]
       show cs.length ≤ c.size
       omega
     · cases h2
 · obtain ⟨v, h1, h2⟩ := hvs i hi
   simp only [h1]
   exact h2
 · obtain ⟨v, h1, h2⟩ := hvs i (List.getElem?_eq_some_iff.1 hx).1
   rw [h1] at hx
   simp only [aI] at hx
   subst hx
   simp only [h1]
   exact .sc v
theorem glob_C0 {C : Ctx} {w : World} (hb : C.base ≤ w.heap.size) {cs : List AV} {g : Nat} (h : GlobR C w g cs) (hs : ∀ x ∈ cs, ∃ v, x = .sc v) : GlobR (C0 w) w g cs :=
 ⟨eptr_C0 h.vr hs, aU h.lt hb, h.whole⟩
theorem wC {w : World} {cs : List AV} {g : Nat} (h : VR (C0 w) w (.eptr cs 0) (.pointer (some ⟨g, 0, none⟩))) (hn : cs.length ≤ 1 ∨ 32 ≤ cs.length) : GlobR (C0 w) w g cs :=
 ⟨h, by
  obtain ⟨b, o, hU, hb, _⟩ := h.eptr_inv
  have hU' : b = g ∧ o = 0 := by
   simp only [Value.pointer.injEq, aI, Addr.mk.injEq] at hU
   omega
  obtain ⟨rfl, rfl⟩ := hU'
  exact hb, fun h1 h2 => by omega⟩
theorem km6 {u : Value} {args : List AV} {S : St} {r : AV} {S' : St} (h : oJ u args S = some (r, S')) : Evo S S' := by
 unfold oJ at h
 split at h
 · simp only [aI, aJ] at h
   obtain ⟨_, rfl⟩ := h
   exact Evo.refl _
 · cases h
theorem km5 {u : Value} {D : Nat → Prop} {A X : St} {args : List AV} {r : AV} {A' : St} (k : Frm D A X) (h : oJ u args A = some (r, A')) : dX D A X r A' (oJ u args X) := by
 unfold oJ at h ⊢
 split at h
 · simp only [aI, aJ] at h
   obtain ⟨rfl, rfl⟩ := h
   exact ⟨X, rfl, Stp.refl k⟩
 · cases h
open Go.RowKit
noncomputable section
structure Beside (E E0 : Env) : Prop where
 P : E0.P = E.P
 G : E0.G = E.G
 sc : ∀ g cs, E0.G g = some cs → ∀ x ∈ cs, ∃ v, x = .sc v
 ok : E0.Ok
 x : XOk E0
 e : EvoX E0
 f : FrmX E0
end
open Go.RowKit
noncomputable section
section
variable {E : Env} {C Co : Ctx} {S : St} {w : World} {st : Bool}
end
def Ctx.whole (C : Ctx) (B : Nat) (w' : World) : Ctx := { C with top := fun b => bif Nat.blt b B then C.top b else (C0 w').top b }
section
variable {E : Env} {C : Ctx} {S : St} {w w' : World}
end
end
open Go.RowKit Go.Lib
noncomputable section
def rgA (k : IntKind) (l : List Rg) : List AV := l.map fun x => .agg [.sc (.int k x.1), .sc (.int k x.2.1), .sc (.int k x.2.2)]
def rgC (k : IntKind) (l : List Rg) : List AV := l.flatMap fun x => [.sc (.int k x.1), .sc (.int k x.2.1), .sc (.int k x.2.2)]
theorem wm1 (k : IntKind) : ∀ l : List Rg, bR 3 (rgA k l) = some (rgC k l)
 | [] => rfl
 | x :: l => uP (cs := [.sc (.int k x.1), .sc (.int k x.2.1), .sc (.int k x.2.2)]) rfl (wm1 k l) rfl rfl
theorem kj2 (k : IntKind) : ∀ l : List Rg, (rgC k l).length = l.length * 3
 | [] => rfl
 | x :: l => by
  have := kj2 k l
  simp only [rgC, jN, dL, aY, bH] at this ⊢
  omega
theorem kj3 (k : IntKind) : ∀ (l : List Rg) (i : Nat) (x : Rg), l[i]? = some x → (rgC k l)[i * 3]? = some (.sc (.int k x.1)) ∧ (rgC k l)[i * 3 + 1]? = some (.sc (.int k x.2.1)) ∧ (rgC k l)[i * 3 + 2]? = some (.sc (.int k x.2.2))
 | [], i, x, h => by simp at h
 | y :: l, 0, x, h => by
  simp at h; subst h
  simp [rgC]
 | y :: l, i + 1, x, h => by
  have := kj3 k l i x (by simpa using h)
  have e : ∀ j, (i + 1) * 3 + j = (i * 3 + j) + 3 := fun j => by omega
  have e0 : (i + 1) * 3 = i * 3 + 3 := by omega
  simp only [rgC, jN] at this ⊢
  rw [e 1, e 2, e0]
  simpa using this
def kR (T : RTab) : AV := .eptr [.vec 0 3 (rgA .u16 T.r16.toList), .vec 0 3 (rgA .u32 T.r32.toList), .sc (.int .i64 T.off)] 0
theorem wd7 {C : Ctx} {w : World} {k : IntKind} {T : Array Rg} {v : Value} (h : VR C w (.vec 0 3 (rgA k T.toList)) v) :
 ∃ (a : Option Addr) (R o c : Nat), v = .slice a T.size c ∧ (0 < T.size → a = some ⟨R, o, none⟩) ∧ RgTab k R o T w ∧ T.size ≤ c := by
 have hlen : (rgA k T.toList).length = T.size := by simp [rgA]
 rcases h.vec_inv with ⟨_, h0, a, cap, rfl⟩ | ⟨fl, b, o, cap, rfl, hv⟩
 · have h0 : T.size = 0 := by rw [← hlen, h0]; rfl
   refine ⟨some a, 0, 0, cap, by rw [h0], fun h => by omega, fun i hi => by omega, by omega⟩
 · obtain ⟨u, hc, hr⟩ := hv.seg.fun
   have hfl := hv.flat
   rw [wm1] at hfl
   have hfl := (cZ hfl).symm
   subst hfl
   refine ⟨_, b, o, cap, by rw [hlen], fun _ => rfl, fun i hi => ?_, by rw [← hlen]; exact hv.lc⟩
   have hx : T.toList[i]? = some (T.getD i (0, 0, 0)) := by simp [Array.getD, hi]
   obtain ⟨k0, k1, k2⟩ := kj3 k T.toList i _ hx
   have at_ : ∀ (j : Nat) (y : Value), (rgC k T.toList)[j]? = some (.sc y) → w.cell? ⟨b, o + j, none⟩ = some y := fun j y hj => by
    have h1 := hr j _ hj
    rw [hc j (List.getElem?_eq_some_iff.1 hj).1, h1.sc_inv]
   refine ⟨at_ _ _ k0, ?_, ?_⟩
   · rw [kD]; exact at_ _ _ k1
   · rw [kD]; exact at_ _ _ k2
theorem rtab_of {C : Ctx} {w : World} {T : RTab} {v : Value} (h : VR C w (kR T) v) : ∃ Tb oT, v = .pointer (some ⟨Tb, oT, none⟩) ∧ RTabAt Tb oT T w := by
 unfold kR at h
 cases h with
 | eptr _ _ b' o' u' hb' hf' ht' hc' hr' =>
 have d0 := hc' 0 (by simp)
 have d1 := hc' 1 (by simp)
 have d2 := hc' 2 (by simp)
 obtain ⟨a16, R16, o16, c16, e16, ha16, t16, h16⟩ := wd7 (hr' 0 _ rfl)
 obtain ⟨a32, R32, o32, c32, e32, ha32, t32, h32⟩ := wd7 (hr' 1 _ rfl)
 have e2 := (hr' 2 _ rfl).sc_inv
 rw [e16] at d0
 rw [e32] at d1
 rw [e2] at d2
 exact ⟨b', o', rfl, a16, a32, R16, o16, c16, R32, o32, c32, by simpa using d0, d1, d2, ha16, ha32, t16, t32, h16⟩
theorem zS {w : World} {b i : Nat} {v : Value} (h : w.cell? ⟨b, i, none⟩ = some v) : b < w.heap.size ∧ i < (C0 w).top b := by
 unfold World.cell? at h
 split at h
 · rename_i c T fz hh
   have h : c[i]? = some v := by simpa using h
   refine ⟨(Array.getElem?_eq_some_iff.1 hh).1, ?_⟩
   show i < (match w.heap[b]? with | some (.cells c _ _) => c.size | _ => 0)
   rw [hh]
   exact (Array.getElem?_eq_some_iff.1 h).1
 · cases h
theorem wc1 {w : World} {k : IntKind} {T : Array Rg} {R o c : Nat} (hne : 0 < T.size) (ht : RgTab k R o T w) (hc : T.size ≤ c) : VR (C0 w) w (.vec 0 3 (rgA k T.toList)) (.slice (some ⟨R, o, none⟩) T.size c) := by
 have hlen : (rgA k T.toList).length = T.size := by simp [rgA]
 have hfl : (rgC k T.toList).length = T.size * 3 := by rw [kj2]; simp
 have at_ : ∀ (i : Nat) (x : AV), (rgC k T.toList)[i]? = some x → ∃ v, x = .sc v ∧ w.cell? ⟨R, o + i, none⟩ = some v := fun i x hx => by
  have hi : i < T.size * 3 := by rw [← hfl]; exact (List.getElem?_eq_some_iff.1 hx).1
  obtain ⟨c0, c1, c2⟩ := ht (i / 3) (by omega)
  have hy : T.toList[i / 3]? = some (T.getD (i / 3) (0, 0, 0)) := by
   have : i / 3 < T.size := by omega
   simp [Array.getD, this]
  obtain ⟨k0, k1, k2⟩ := kj3 k T.toList (i / 3) _ hy
  have hm : i % 3 < 3 := Nat.mod_lt _ (by omega)
  have ei : i = i / 3 * 3 + i % 3 := by omega
  rw [ei] at hx
  rw [ei]
  match hk : i % 3, hm with
  | 0, _ => rw [hk, aM] at hx; rw [k0] at hx; exact ⟨_, (cZ hx).symm, by rw [hk] at *; simpa using c0⟩
  | 1, _ => rw [hk] at hx; rw [k1] at hx; exact ⟨_, (cZ hx).symm, by rw [← kD]; exact c1⟩
  | 2, _ => rw [hk] at hx; rw [k2] at hx; exact ⟨_, (cZ hx).symm, by rw [← kD]; exact c2⟩
 have last := at_ (T.size * 3 - 1) _ (cX (by omega))
 obtain ⟨v, _, hv⟩ := last
 obtain ⟨h1, h2⟩ := zS hv
 rw [← hlen]
 refine .vec 0 3 _ _ R o c (fun i => (w.cell? ⟨R, o + i, none⟩).getD Go.undef) (by omega) (by rw [hlen]; exact hc) (wm1 k _) h1 (C0.free w R) (by rw [hfl]; omega) (fun i hi => ?_) (fun i x hx => ?_) (fun h => by omega) (fun h => by omega) (fun h => by omega)
 · obtain ⟨v, _, hv⟩ := at_ i _ (cX hi)
   rw [hv]; rfl
 · obtain ⟨v, rfl, hv⟩ := at_ i x hx
   rw [hv]; exact .sc _
def RVar2 (g : Nat) (T : RTab) (w : World) : Prop := ∃ Tb oT R16 o16 c16 R32 o32 c32, w.cell? ⟨g, 0, none⟩ = some (.pointer (some ⟨Tb, oT, none⟩)) ∧
 w.cell? ⟨Tb, oT, none⟩ = some (.slice (some ⟨R16, o16, none⟩) T.r16.size c16) ∧ w.cell? ⟨Tb, oT + 1, none⟩ = some (.slice (some ⟨R32, o32, none⟩) T.r32.size c32) ∧ w.cell? ⟨Tb, oT + 2, none⟩ = some (.int .i64 T.off) ∧
 RgTab .u16 R16 o16 T.r16 w ∧ RgTab .u32 R32 o32 T.r32 w ∧ T.r16.size ≤ c16 ∧ T.r32.size ≤ c32
theorem km0 {w : World} {g : Nat} {T : RTab} (h16 : 0 < T.r16.size) (h32 : 0 < T.r32.size) (h : RVar2 g T w) : VR (C0 w) w (.eptr [kR T] 0) (.pointer (some ⟨g, 0, none⟩)) := by
 obtain ⟨Tb, oT, R16, o16, c16, R32, o32, c32, d, d0, d1, d2, t16, t32, l16, l32⟩ := h
 obtain ⟨a1, a2⟩ := zS d
 obtain ⟨b1, b2⟩ := zS d2
 refine .eptr [kR T] 0 g 0 (fun _ => .pointer (some ⟨Tb, oT + 0, none⟩)) a1 (C0.free w g) a2 (fun i hi => ?_) (fun i x hx => ?_)
 · have : i = 0 := by simpa using hi
   subst this; exact d
 · have hi : i = 0 := by
    have := (List.getElem?_eq_some_iff.1 hx).1
    simpa using this
   subst hi
   simp at hx; subst hx
   refine .eptr _ 0 Tb oT (fun i => match i with | 0 => .slice (some ⟨R16, o16, none⟩) T.r16.size c16 | 1 => .slice (some ⟨R32, o32, none⟩) T.r32.size c32 | _ => .int .i64 T.off) b1 (C0.free w Tb) b2 (fun i hi => ?_) (fun i x hx => ?_)
   · match i, hi with
     | 0, _ => exact d0
     | 1, _ => exact d1
     | 2, _ => exact d2
   · match i, hx with
     | 0, hx => simp at hx; subst hx; exact wc1 h16 t16 l16
     | 1, hx => simp at hx; subst hx; exact wc1 h32 t32 l32
     | 2, hx => simp at hx; subst hx; exact .sc _
     | i + 3, hx => simp at hx
theorem xy1 {w : World} {g : Nat} (zs : List Value) (hne : zs ≠ []) (h : ∀ i z, zs[i]? = some z → w.cell? ⟨g, i, none⟩ = some z) : VR (C0 w) w (.eptr (zs.map AV.sc) 0) (.pointer (some ⟨g, 0, none⟩)) := by
 have hpos : 0 < zs.length := List.length_pos_iff.2 hne
 obtain ⟨a1, a2⟩ := zS (h (zs.length - 1) _ (cX (by omega)))
 refine .eptr _ 0 g 0 (fun i => zs.getD i Go.undef) a1 (C0.free w g) (by rw [eE]; omega) (fun i hi => ?_) (fun i x hx => ?_)
 · rw [eE] at hi
   rw [aF]
   exact h i _ (by simp [hi])
 · rw [List.getElem?_map] at hx
   obtain ⟨z, hz, rfl⟩ := Option.map_eq_some_iff.1 hx
   have : zs.getD i Go.undef = z := by simp [List.getD, hz]
   rw [this]; exact .sc _
theorem wa8 {C : Ctx} {w : World} {g : Nat} {zs : List Value} (h : VR C w (.eptr (zs.map AV.sc) 0) (.pointer (some ⟨g, 0, none⟩))) : ∀ i z, zs[i]? = some z → w.cell? ⟨g, i, none⟩ = some z := fun i z hz => by
 generalize hv : Value.pointer (some ⟨g, 0, none⟩) = v at h
 cases h with
 | eptr _ _ b o u hb hf ht hc hr =>
 simp only [Value.pointer.injEq, aI, Addr.mk.injEq] at hv
 obtain ⟨rfl, ho, _⟩ := hv
 have ho : o = 0 := by omega
 subst ho
 have hi := (List.getElem?_eq_some_iff.1 hz).1
 have h1 := hc i (by simpa using hi)
 have h2 := hr i (.sc z) (by simp [hz])
 rw [h2.sc_inv, aF] at h1
 exact h1
def gB (F : List AV → Option AV) (args : List AV) (S : St) : Option (AV × St) := (F args).map (·, S)
theorem xk8 {F : List AV → Option AV} {args : List AV} {S : St} {r : AV} {S' : St} (h : gB F args S = some (r, S')) : Evo S S' := by
 unfold gB at h
 obtain ⟨x, _, h⟩ := Option.map_eq_some_iff.1 h
 simp only [aJ] at h
 obtain ⟨_, rfl⟩ := h
 exact Evo.refl _
theorem xk7 {F : List AV → Option AV} {D : Nat → Prop} {A X : St} {args : List AV} {r : AV} {A' : St} (k : Frm D A X) (h : gB F args A = some (r, A')) : dX D A X r A' (gB F args X) := by
 unfold gB at h ⊢
 obtain ⟨x, hx, h⟩ := Option.map_eq_some_iff.1 h
 simp only [aJ] at h
 obtain ⟨rfl, rfl⟩ := h
 exact ⟨X, by rw [hx]; rfl, Stp.refl k⟩
theorem xx7 {E : Env} {f : FuncId} {F : List AV → Option AV} {args : List AV} {S : St} {r : AV} {S' : St} (hm : gB F args S = some (r, S')) {C : Ctx} {w : World} {vs : Array Value} (hw : WR E C S w)
 (h : F args = some r → ∃ u, Calls E.P f vs w (fun e w' => e = .returned u ∧ Below w.heap.size w w') ∧ ∀ C w, VR C w r u) :
 Calls E.P f vs w (fun e w' => ∃ u C', e = .returned u ∧ WR E C' S' w' ∧ Ext C w C' w' ∧ VR C' w' r u) := by
 unfold gB at hm
 obtain ⟨x, hx, hm⟩ := Option.map_eq_some_iff.1 hm
 simp only [aJ] at hm
 obtain ⟨rfl, rfl⟩ := hm
 obtain ⟨u, key, hu⟩ := h hx
 refine key.mono ?_
 rintro e w' ⟨rfl, hbel⟩
 exact ⟨u, C, rfl, hw.later hbel, Ext.later hw hbel, hu _ _⟩
theorem ja3 {E E0 : Env} (hP : E0.P = E.P) (hG : ∀ g cs, E0.G g = some cs → E.G g = some cs) (hsc : ∀ g cs, E0.G g = some cs → ∀ x ∈ cs, ∃ v, x = .sc v) (ok : E0.Ok) (hx : XOk E0) (he : EvoX E0) (hf : FrmX E0) {lf n : Nat} {f : FuncId} {u : Value} {S1 : St} (h : evF E0 lf n f [] S0 = some (.sc u, S1))
 {args : List AV} {S : St} {r : AV} {S' : St} (hm : oJ u args S = some (r, S')) {C : Ctx} {w : World} {vs : Array Value} (hw : WR E C S w) (hl : LR C w args vs.toList) :
 Calls E.P f vs w (fun e w' => ∃ u C', e = .returned u ∧ WR E C' S' w' ∧ Ext C w C' w' ∧ VR C' w' r u) := by
 unfold oJ at hm
 split at hm
 · simp only [aI, aJ] at hm
   obtain ⟨rfl, rfl⟩ := hm
   obtain ⟨vs⟩ := vs
   match vs, hl with
   | [], hl =>
   have key := ki2 ok hx he hf (w := w) (fun g cs hg => glob_C0 hw.bs (hw.glob g cs (hG g cs hg)) (hsc g cs hg)) (LR.nil _ _) h
   rw [hP] at key
   refine key.mono ?_
   rintro e w' ⟨rfl, hbel⟩
   exact ⟨_, C, rfl, hw.later hbel, Ext.later hw hbel, .sc _⟩
 · cases hm
end
end Go.Abs
