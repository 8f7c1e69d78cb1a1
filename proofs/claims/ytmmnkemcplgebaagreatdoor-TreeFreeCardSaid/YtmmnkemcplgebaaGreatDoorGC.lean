/-
  What every law of chapter 3 asks first ('awake'): by the kernel.
-/
import Derived.Test.YtmmnkemcplgebaaGreatDoorFL
import Derived.Test.YtmmnkemcplgebaaGreatDoorGB
section
set_option linter.unusedSimpArgs false
set_option linter.unusedVariables false
set_option maxRecDepth 100000
namespace Go.Proofs.YtmmnkemcplgebaaGreatDoor
open Go.Abs Go.RowKit
theorem names : Tryz.prog.funcs.toList.all (fun x => x.name != "runtime.NumGoroutine") = true := by kernel_rfl
theorem mixed : Tryz.prog.follows .mixedOrders = true := by kernel_rfl
theorem entNo (x : Value) (w : World) : (callFunc 86 #[x]).run Tryz.prog w = .ok (.value x) w := by kernel_rfl
theorem tyS : Tryz.prog.underlying 9 = some .string := by kernel_rfl
noncomputable def G0 (g : Nat) : Option (List AV) := bif Nat.beq g 2 then some (propsV.map .sc) else none
noncomputable def X0 (f : FuncId) : Option (List AV → St → Option (AV × St)) := bif Nat.beq f 33 then some (sortedX 60) else none
noncomputable def env0 : Env := { P := Tryz.prog, G := G0, fn := fun f => Tryz.prog.funcs[f]?, und := Tryz.prog.underlying, inf := Tryz.prog.info?, hp := fun _ _ => false, meth := fun _ _ => none, ext := extOf [] [86], X := X0 }
theorem run0 : saysTrue (evF env0 300 60 7 [] S0) = true := by kernel_rfl
theorem ok0 : env0.Ok := by
  have ok := plainEnv_ok (P := Tryz.prog) (hp := env0.hp) (meth := fun _ _ => none) (ext := extOf [] [86]) names mixed (fun _ _ _ h => nomatch h) (extOf_ok (fun g hg => nomatch hg) (fun g hg => by have := List.mem_singleton.1 hg; subst this; exact entNo))
  exact ⟨ok.fn, ok.und, ok.inf, ok.mixed, ok.meth, ok.ext⟩
theorem x0_case {f : FuncId} {g : List AV → St → Option (AV × St)} (h : env0.X f = some g) : f = 33 ∧ g = sortedX 60 := by
  have h : X0 f = some g := h
  unfold X0 at h
  cases hb : Nat.beq f 33 with
  | true =>
    rw [hb] at h
    exact ⟨Nat.eq_of_beq_eq_true hb, (Option.some.inj h).symm⟩
  | false => rw [hb] at h; cases h
theorem x0 : XOk env0 := ⟨fun f g fn h hfn => by
  obtain ⟨rfl, rfl⟩ := x0_case h
  have hfn : Tryz.prog.funcs[33]? = some fn := hfn
  obtain rfl : fn = Tryz.f33 := (Option.some.inj (Tryz.func33.symm.trans hfn)).symm
  exact ⟨by kernel_rfl, fun args S r S' hx C w vs hw hl => sortedX_ok (E := env0) tyS sortedC hx hw hl⟩⟩
theorem e0X : EvoX env0 := ⟨fun f g h args S r S' hx => by
  obtain ⟨rfl, rfl⟩ := x0_case h
  exact sortedX_evo hx⟩
theorem f0X : FrmX env0 := ⟨fun f g h D A X args r A' k hx => by
  obtain ⟨rfl, rfl⟩ := x0_case h
  exact sortedX_frm k hx⟩
theorem g0_sub : ∀ g cs, env0.G g = some cs → tabs g = some cs := by
  intro g cs h
  have h : G0 g = some cs := h
  unfold G0 at h
  unfold tabs
  cases hb : Nat.beq g 2 with
  | true => rw [hb] at h; exact h
  | false => rw [hb] at h; cases h
theorem g0_sc : ∀ g cs, env0.G g = some cs → ∀ x ∈ cs, ∃ v, x = .sc v := by
  intro g cs h x hx
  have h : G0 g = some cs := h
  unfold G0 at h
  cases hb : Nat.beq g 2 with
  | true =>
    rw [hb] at h
    have := (Option.some.inj h).symm
    subst this
    obtain ⟨z, _, rfl⟩ := List.mem_map.1 hx
    exact ⟨_, rfl⟩
  | false => rw [hb] at h; cases h
theorem awake_ok {E : Env} (hE : Here E) {args : List AV} {S : St} {r : AV} {S' : St} (hm : memoX (.bool true) args S = some (r, S')) {C : Ctx} {w : World} {vs : Array Value} (hw : WR E C S w) (hl : LR C w args vs.toList) :
    Calls E.P 7 vs w (fun e w' => ∃ u C', e = .returned u ∧ WR E C' S' w' ∧ Ext C w C' w' ∧ VR C' w' r u) := by
  obtain ⟨S1, h⟩ := saysTrue_eq run0
  exact memo_sub (E0 := env0) hE.P.symm (fun g cs h => by rw [hE.G]; exact g0_sub g cs h) g0_sc ok0 x0 e0X f0X h hm hw hl
end Go.Proofs.YtmmnkemcplgebaaGreatDoor
end
