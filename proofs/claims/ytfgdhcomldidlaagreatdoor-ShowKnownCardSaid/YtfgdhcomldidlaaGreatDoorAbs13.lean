/-
  The evaluator is sound; where a law begins.
-/
import Derived.Test.YtfgdhcomldidlaaGreatDoorAbs12p
set_option linter.unusedSimpArgs false
set_option linter.unusedVariables false
namespace Go.Abs
open Go.RowKit

theorem draw_all {E : Env} (ok : E.Ok) (he : EvoX E) (hf : FrmX E) (lf n : Nat) (hc : CallOk E (evF E lf n)) : DrawOk E (evF E lf n) :=
  fun nt id ops Q tm tm' S S' C a w h hfr hq => draw_ok ok hc (evF_evo he.evo lf n) (evF_does hf lf n) nt id ops Q tm tm' S S' C a w h hfr hq
theorem sound {E : Env} (ok : E.Ok) (hx : XOk E) (he : EvoX E) (hf : FrmX E) (lf n : Nat) : CallOk E (evF E lf n) :=
  evF_ok ok hx lf (fun n hc => draw_all ok he hf lf n hc) (fun n nt hc => mac1_ok ok hc (evF_evo he.evo lf n) (evF_does hf lf n) (draw_all ok he hf lf n hc) lf) n

noncomputable def S0 : St := { objs := .leaf, no := 0, nid := 3, spent := .leaf, wr := .leaf, shp := .leaf, ity := .leaf }

/-- Nothing is the evaluator's own yet. -/
noncomputable def C0 (w : World) : Ctx := { no := 0, born := fun _ => False, nid := 3, mu := fun _ => 0, bs := fun _ => 0, ol := fun _ => 0, lim := fun _ => 0, io := fun _ => ⟨0, 0, 0, 0, 0⟩, top := fun b => match w.heap[b]? with | some (.cells c _ _) => c.size | _ => 0, base := w.heap.size, mx := fun _ => .map #[] 0 }

theorem C0.free (w : World) (b : Nat) : (C0 w).free b := fun l hl => hl.elim

theorem wr0 {E : Env} (w : World) (hg : ∀ g cs, E.G g = some cs → VR (C0 w) w (.eptr cs 0) (.pointer (some ⟨g, 0, none⟩))) : WR E (C0 w) S0 w where
  no := rfl
  unb := fun _ _ h => h
  nid := rfl
  nid1 := by decide
  bs := Nat.le_refl _
  inj := fun l l' hl => hl.elim
  mub := fun l hl => hl.elim
  objs := fun l hl => hl.elim
  unob := fun l _ => .inl (PM.get_leaf l)
  ids := fun i h0 hi => by simp [C0] at hi; omega
  idi := fun i j h0 hi => by simp [C0] at hi; omega
  glob := hg
  fresh := fun i _ => ⟨by show (PM.get PM.leaf i).isSome = false; rw [PM.get_leaf]; rfl, PM.get_leaf i⟩
  shp := fun l x hl => hl.elim
  shu := fun l _ => PM.get_leaf l
  ity := fun i T h0 hi => by simp [C0] at hi; omega

/-- A call of plain values: what the evaluator says, the call answers; nothing that was there has turned. -/
theorem run_law {E : Env} (ok : E.Ok) (hx : XOk E) (he : EvoX E) (hf : FrmX E) {lf n : Nat} {f : FuncId} {args : List AV} {vs : Array Value} {w : World} {u : Value} {S' : St}
    (hg : ∀ g cs, E.G g = some cs → VR (C0 w) w (.eptr cs 0) (.pointer (some ⟨g, 0, none⟩))) (hl : LR (C0 w) w args vs.toList)
    (h : evF E lf n f args S0 = some (.sc u, S')) : Calls E.P f vs w fun e w' => e = .returned u ∧ Below w.heap.size w w' :=
  ((sound ok hx he hf lf n f args S0 (.sc u) S' h).2 (C0 w) w vs (wr0 w hg) hl).mono fun e w' ⟨u', C', h1, _, h3, h4⟩ => ⟨by rw [h1, h4.sc_inv], h3.toExtW.below.b⟩

/-- The same, and no draw has been taken back. -/
theorem run_law2 {E : Env} (ok : E.Ok) (hx : XOk E) (he : EvoX E) (hf : FrmX E) {lf n : Nat} {f : FuncId} {args : List AV} {vs : Array Value} {w : World} {u : Value} {S' : St}
    (hg : ∀ g cs, E.G g = some cs → VR (C0 w) w (.eptr cs 0) (.pointer (some ⟨g, 0, none⟩))) (hl : LR (C0 w) w args vs.toList)
    (h : evF E lf n f args S0 = some (.sc u, S')) : Calls E.P f vs w fun e w' => e = .returned u ∧ Bel w.heap.size w w' :=
  ((sound ok hx he hf lf n f args S0 (.sc u) S' h).2 (C0 w) w vs (wr0 w hg) hl).mono fun e w' ⟨u', C', h1, _, h3, h4⟩ => ⟨by rw [h1, h4.sc_inv], h3.toExtW.below⟩

/-- Whether the evaluator answers true. -/
noncomputable def saysTrue (x : Option (AV × St)) : Bool :=
  match x with
  | some (.sc (.bool true), _) => true
  | _ => false
theorem saysTrue_eq {x : Option (AV × St)} (h : saysTrue x = true) : ∃ S', x = some (.sc (.bool true), S') := by
  unfold saysTrue at h
  split at h
  · exact ⟨_, rfl⟩
  · simp at h

/-- Two strings held against each other, as the library's entry does it. -/
noncomputable def extCmp : List AV → Option AV
  | [.sc (.string a), .sc (.string b)] => some (.sc (.int .i64 (Extern.BytealgCompare.cmp a b)))
  | _ => none
noncomputable def extSame : List AV → Option AV
  | [x] => some x
  | _ => none

/-- What is asked of the entries that stand for a list of functions: their runs. -/
structure ExtOk (P : Program) (ext : FuncId → Option (List AV → Option AV)) : Prop where
  ok : ∀ g h args r, ext g = some h → h args = some r → ∀ C w (vs : Array Value), LR C w args vs.toList → ∃ u, (callFunc g vs).run P w = .ok (.value u) w ∧ VR C w r u

theorem extCmp_ok {P : Program} {g : FuncId} (h : ∀ (a b : ByteArray) (w : World), (callFunc g #[.string a, .string b]).run P w = .ok (.value (.int .i64 (Extern.BytealgCompare.cmp a b))) w) {args : List AV} {r : AV} (hr : extCmp args = some r)
    {C : Ctx} {w : World} {vs : Array Value} (hl : LR C w args vs.toList) : ∃ u, (callFunc g vs).run P w = .ok (.value u) w ∧ VR C w r u := by
  unfold extCmp at hr
  split at hr
  · rename_i a b
    obtain ⟨u1, u2, rfl, h1, h2⟩ := lr2 hl
    have := h1.sc_inv; subst this
    have := h2.sc_inv; subst this
    simp only [Option.some.injEq] at hr
    subst hr
    exact ⟨_, h a b w, .sc _⟩
  · simp at hr
theorem extSame_ok {P : Program} {g : FuncId} (h : ∀ (x : Value) (w : World), (callFunc g #[x]).run P w = .ok (.value x) w) {args : List AV} {r : AV} (hr : extSame args = some r)
    {C : Ctx} {w : World} {vs : Array Value} (hl : LR C w args vs.toList) : ∃ u, (callFunc g vs).run P w = .ok (.value u) w ∧ VR C w r u := by
  unfold extSame at hr
  split at hr
  · obtain ⟨u, rfl, h1⟩ := lr1 hl
    simp only [Option.some.injEq] at hr
    subst hr
    exact ⟨u, h u w, h1⟩
  · simp at hr

/-- Which entries a program has. -/
noncomputable def extOf (gc gs : List FuncId) (g : FuncId) : Option (List AV → Option AV) := bif gc.contains g then some extCmp else bif gs.contains g then some extSame else none
theorem extOf_ok {P : Program} {gc gs : List FuncId} (hc : ∀ g ∈ gc, ∀ (a b : ByteArray) (w : World), (callFunc g #[.string a, .string b]).run P w = .ok (.value (.int .i64 (Extern.BytealgCompare.cmp a b))) w)
    (hs : ∀ g ∈ gs, ∀ (x : Value) (w : World), (callFunc g #[x]).run P w = .ok (.value x) w) : ExtOk P (extOf gc gs) := by
  refine ⟨fun g h args r hg hr C w vs hl => ?_⟩
  unfold extOf at hg
  cases h1 : gc.contains g with
  | true =>
    rw [h1] at hg
    simp only [cond_true, Option.some.injEq] at hg
    subst hg
    exact extCmp_ok (hc g (by simpa using h1)) hr hl
  | false =>
    rw [h1] at hg
    cases h2 : gs.contains g with
    | true =>
      rw [h2] at hg
      simp only [cond_true, cond_false, Option.some.injEq] at hg
      subst hg
      exact extSame_ok (hs g (by simpa using h2)) hr hl
    | false => rw [h2] at hg; simp at hg

/-- The environment of a program as it stands: no contracts, no globals; 'hp': which slices are objects; 'ext': library entries. -/
noncomputable def plainEnv (P : Program) (hp : TypeId → Option Tmp → Bool) (meth : TypeId → String → Option FuncId) (ext : FuncId → Option (List AV → Option AV)) : Env := { P := P, G := fun _ => none, fn := fun f => P.funcs[f]?, und := P.underlying, inf := P.info?, hp := hp, meth := meth, ext := ext, X := fun _ => none }
theorem plainEnv_ok {P : Program} {hp : TypeId → Option Tmp → Bool} {meth : TypeId → String → Option FuncId} {ext : FuncId → Option (List AV → Option AV)} (h1 : P.funcs.toList.all (fun x => x.name != "runtime.NumGoroutine") = true) (h2 : P.follows .mixedOrders = true)
    (hm : ∀ t name f, meth t name = some f → ∀ v w, (method (P.types.size + Made.depth) t v name).run P w = .ok (f, v) w) (he : ExtOk P ext) : (plainEnv P hp meth ext).Ok where
  fn := fun f x hx => ⟨hx, by
    have hm : x ∈ P.funcs.toList := by
      have := Array.mem_of_getElem? hx
      simpa using this
    have := List.all_eq_true.1 h1 x hm
    simpa using this⟩
  und := fun t x hx => hx
  inf := fun t x hx => hx
  mixed := h2
  meth := hm
  ext := he.ok
theorem plainEnv_x (P : Program) (hp : TypeId → Option Tmp → Bool) (meth : TypeId → String → Option FuncId) (ext : FuncId → Option (List AV → Option AV)) : XOk (plainEnv P hp meth ext) := ⟨fun f g fn h => by simp [plainEnv] at h⟩
theorem plainEnv_e (P : Program) (hp : TypeId → Option Tmp → Bool) (meth : TypeId → String → Option FuncId) (ext : FuncId → Option (List AV → Option AV)) : EvoX (plainEnv P hp meth ext) := ⟨fun f g h => by simp [plainEnv] at h⟩
theorem plainEnv_f (P : Program) (hp : TypeId → Option Tmp → Bool) (meth : TypeId → String → Option FuncId) (ext : FuncId → Option (List AV → Option AV)) : FrmX (plainEnv P hp meth ext) := ⟨fun f g h => by simp [plainEnv] at h⟩

end Go.Abs
