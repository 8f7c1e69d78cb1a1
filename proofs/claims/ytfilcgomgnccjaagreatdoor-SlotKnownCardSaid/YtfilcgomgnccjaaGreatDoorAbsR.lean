/-
  A contract: what the evaluator itself answers, over an environment beside.
-/
import Derived.Test.YtfilcgomgnccjaaGreatDoorAbsM
set_option linter.unusedSimpArgs false
set_option linter.unusedVariables false
namespace Go.Abs
open Go.RowKit
noncomputable def runX (E0 : Env) (lf n : Nat) (f : FuncId) (args : List AV) (S : St) : Option (AV × St) := evF E0 lf n f args S
theorem runX_ok {E E0 : Env} (hb : Beside E E0) {lf n : Nat} {f : FuncId} {args : List AV} {S : St} {r : AV} {S' : St} (h : runX E0 lf n f args S = some (r, S')) {C : Ctx} {w : World} {vs : Array Value} (hw : WR E C S w) (hl : LR C w args vs.toList) :
    Calls E.P f vs w (fun e w' => ∃ u C', e = .returned u ∧ WR E C' S' w' ∧ Ext C w C' w' ∧ VR C' w' r u) := by
  have key := (sound hb.ok hb.x hb.e hb.f lf n f args S r S' h).2 C w vs (WR.env (E := E0) (E0 := E) hw hb.G.symm) hl
  rw [hb.P] at key
  exact key.mono fun e w' ⟨u, C', h1, h2, h3, h4⟩ => ⟨u, C', h1, h2.env hb.G, h3, h4⟩
theorem runX_evo {E0 : Env} (he : EvoX E0) {lf n : Nat} {f : FuncId} {args : List AV} {S : St} {r : AV} {S' : St} (h : runX E0 lf n f args S = some (r, S')) : Evo S S' := evF_evo he.evo lf n f args S r S' h
theorem runX_frm {E0 : Env} (hf : FrmX E0) {lf n : Nat} {f : FuncId} {D : Nat → Prop} {A X : St} {args : List AV} {r : AV} {A' : St} (k : Frm D A X) (h : runX E0 lf n f args A = some (r, A')) : Does D A X r A' (runX E0 lf n f args X) := evF_does hf lf n _ _ _ _ _ _ _ k h
/-- Are all numbers from the next one on unspent? -/
noncomputable def freshB (S : St) : Bool := Nat.blt 2 S.nid && Nat.ble S.nid 584 && S.spent.d.isNone && S.spent.e.isNone && S.spent.o.isEmpty && (List.range 584).all fun i => Nat.blt i S.nid || (S.spent.get i).isNone
theorem freshB_ok {S : St} (h : freshB S = true) : 2 < S.nid ∧ ∀ i, S.nid ≤ i → S.spent.get i = none := by
  simp only [freshB, Bool.and_eq_true] at h
  obtain ⟨⟨⟨⟨⟨h1, h2⟩, h3⟩, h4⟩, h5⟩, h6⟩ := h
  refine ⟨Nat.le_of_ble_eq_true h1, fun i hi => ?_⟩
  by_cases hlt : i < 584
  · have h7 := List.all_eq_true.1 h6 i (List.mem_range.2 hlt)
    have hn : Nat.blt i S.nid = false := by
      cases e : Nat.blt i S.nid with
      | false => rfl
      | true => have : i < S.nid := Nat.le_of_ble_eq_true e; omega
    rw [hn, Bool.false_or] at h7
    exact Option.isNone_iff_eq_none.1 h7
  · have hd := Option.isNone_iff_eq_none.1 h3
    have he := Option.isNone_iff_eq_none.1 h4
    have ho : S.spent.o = [] := List.isEmpty_iff.1 h5
    have b8 : ∀ m, m ≤ 584 → Nat.blt i m = false := fun m hm => by
      cases e : Nat.blt i m with
      | false => rfl
      | true => have : i < m := Nat.le_of_ble_eq_true e; omega
    unfold PM.get PM.way
    rw [b8 8 (by omega), b8 72 (by omega), b8 584 (by omega)]
    simp only [cond_false]
    cases Nat.blt i 4680 with
    | true => simp only [cond_true, PM.getW, PM.qd, hd]; rfl
    | false =>
      cases Nat.blt i 37448 with
      | true => simp only [cond_true, cond_false, PM.getW, PM.qe, he]; rfl
      | false => simp only [cond_false, PM.getW, ho]; rfl
end Go.Abs
