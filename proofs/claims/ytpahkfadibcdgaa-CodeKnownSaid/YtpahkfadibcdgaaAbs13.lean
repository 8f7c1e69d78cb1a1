/-
  The evaluator is sound; where a law begins.
-/
import Derived.Test.YtpahkfadibcdgaaAbs12
namespace Go.Abs
open Go.RowKit

theorem sound {E : Env} (ok : E.Ok) (hx : XOk E) (he : EvoX E) (lf n : Nat) : CallOk E (evF E lf n) :=
  evF_ok ok hx lf (fun n hc => fun nt id ops Q tm tm' S S' C a w h hf hq => draw_ok ok hc (evF_evo he.evo lf n) nt id ops Q tm tm' S S' C a w h hf hq) n

def S0 : St := { objs := .leaf, no := 0, nid := 1, spent := .leaf, wr := .leaf }

/-- Nothing is the evaluator's own yet. -/
def C0 (w : World) : Ctx := { no := 0, nid := 1, mu := fun _ => 0, io := fun _ => ⟨0, 0, 0, 0, 0⟩, top := fun b => match w.heap[b]? with | some (.cells c _ _) => c.size | _ => 0, base := w.heap.size }

theorem C0.free (w : World) (b : Nat) : (C0 w).free b := fun l hl => by simp [C0] at hl

theorem wr0 {E : Env} (w : World) (hg : ∀ g cs, E.G g = some cs → VR (C0 w) w (.eptr cs 0) (.pointer (some ⟨g, 0, none⟩))) : WR E (C0 w) S0 w where
  no := rfl
  nid := rfl
  nid1 := by decide
  bs := Nat.le_refl _
  inj := fun l l' hl => by simp [C0] at hl
  mub := fun l hl => by simp [C0] at hl
  objs := fun l hl => by simp [C0] at hl
  ids := fun i h0 hi => by simp [C0] at hi; omega
  idi := fun i j h0 hi => by simp [C0] at hi; omega
  glob := hg
  fresh := fun i _ => rfl

/-- A call of plain values: what the evaluator says, the call answers; nothing that was there has turned. -/
theorem run_law {E : Env} (ok : E.Ok) (hx : XOk E) (he : EvoX E) {lf n : Nat} {f : FuncId} {args : List AV} {vs : Array Value} {w : World} {u : Value} {S' : St}
    (hg : ∀ g cs, E.G g = some cs → VR (C0 w) w (.eptr cs 0) (.pointer (some ⟨g, 0, none⟩))) (hl : LR (C0 w) w args vs.toList)
    (h : evF E lf n f args S0 = some (.sc u, S')) : Calls E.P f vs w fun e w' => e = .returned u ∧ Below w.heap.size w w' :=
  ((sound ok hx he lf n f args S0 (.sc u) S' h).2 (C0 w) w vs (wr0 w hg) hl).mono fun e w' ⟨u', C', h1, _, h3, h4⟩ => ⟨by rw [h1, h4.sc_inv], h3.below⟩

/-- Whether the evaluator answers true. -/
def saysTrue (x : Option (AV × St)) : Bool :=
  match x with
  | some (.sc (.bool true), _) => true
  | _ => false
theorem saysTrue_eq {x : Option (AV × St)} (h : saysTrue x = true) : ∃ S', x = some (.sc (.bool true), S') := by
  unfold saysTrue at h
  split at h
  · exact ⟨_, rfl⟩
  · simp at h

/-- The environment of a program as it stands: no contracts, no globals. -/
def plainEnv (P : Program) : Env := { P := P, G := fun _ => none, fn := fun f => P.funcs[f]?, und := P.underlying, inf := P.info?, X := fun _ => none }
theorem plainEnv_ok {P : Program} (h1 : P.funcs.toList.all (fun x => x.name != "runtime.NumGoroutine") = true) (h2 : P.follows .mixedOrders = true) : (plainEnv P).Ok where
  fn := fun f x hx => ⟨hx, by
    have hm : x ∈ P.funcs.toList := by
      have := Array.mem_of_getElem? hx
      simpa using this
    have := List.all_eq_true.1 h1 x hm
    simpa using this⟩
  und := fun t x hx => hx
  inf := fun t x hx => hx
  mixed := h2
theorem plainEnv_x (P : Program) : XOk (plainEnv P) := ⟨fun f g fn h => by simp [plainEnv] at h⟩
theorem plainEnv_e (P : Program) : EvoX (plainEnv P) := ⟨fun f g h => by simp [plainEnv] at h⟩

end Go.Abs
