/-
  ShowInts: what is asked of its environment.
-/
import Derived.Test.YtpcgbkjdobjdaaaGreatDoorIntN
set_option linter.unusedSimpArgs false
set_option linter.unusedVariables false
set_option maxRecDepth 100000
namespace Go.Proofs.YtpcgbkjdobjdaaaGreatDoor
open Go.Abs Go.RowKit
theorem xcase {f : FuncId} {g : List AV → St → Option (AV × St)} (h : E.X f = some g) : (f = 4 ∧ g = awX) ∨ (f = 5 ∧ g = buX) ∨ (f = 6 ∧ g = newX) ∨ (f = 35 ∧ g = pureX fmtF) := by
  change (bif Nat.beq f 4 then some (awX) else bif Nat.beq f 5 then some (buX) else bif Nat.beq f 6 then some (newX) else bif Nat.beq f 35 then some (pureX fmtF) else none) = some g at h
  cases hb : Nat.beq f 4 with
  | true =>
    rw [hb] at h
    exact (.inl (⟨Nat.eq_of_beq_eq_true hb, (Option.some.inj h).symm⟩))
  | false =>
    rw [hb] at h
    clear hb
    cases hb : Nat.beq f 5 with
    | true =>
      rw [hb] at h
      exact (.inr (.inl (⟨Nat.eq_of_beq_eq_true hb, (Option.some.inj h).symm⟩)))
    | false =>
      rw [hb] at h
      clear hb
      cases hb : Nat.beq f 6 with
      | true =>
        rw [hb] at h
        exact (.inr (.inr (.inl (⟨Nat.eq_of_beq_eq_true hb, (Option.some.inj h).symm⟩))))
      | false =>
        rw [hb] at h
        clear hb
        cases hb : Nat.beq f 35 with
        | true =>
          rw [hb] at h
          exact (.inr (.inr (.inr (⟨Nat.eq_of_beq_eq_true hb, (Option.some.inj h).symm⟩))))
        | false =>
          rw [hb] at h
          cases h
theorem noX : EvoX E := ⟨fun f g h args S r S' hg => by
  rcases xcase h with ⟨_, rfl⟩ | ⟨_, rfl⟩ | ⟨_, rfl⟩ | ⟨_, rfl⟩
  · exact memoV_evo hg
  · exact runX_evo fineB.e hg
  · exact runX_evo fine0.e hg
  · exact pureX_evo hg⟩
theorem frmX : FrmX E := ⟨fun f g h D A X args r A' k hg => by
  rcases xcase h with ⟨_, rfl⟩ | ⟨_, rfl⟩ | ⟨_, rfl⟩ | ⟨_, rfl⟩
  · exact memoV_frm k hg
  · exact runX_frm fineB.f k hg
  · exact runX_frm fine0.f k hg
  · exact pureX_frm k hg⟩
theorem hereE : Here E := ⟨rfl, rfl⟩
theorem beside0 {X : FuncId → Option (List AV → St → Option (AV × St))} (h : showInts.Fine (showInts.envX X)) : Beside E (showInts.envX X) := ⟨rfl, rfl, showInts.scG, showInts.okP _, h.x, h.e, h.f⟩
theorem memo1_ok {f : FuncId} {xs : List AV} {v : AV} (ht : showInts.Told f xs v) {args : List AV} {S : St} {r : AV} {S' : St} (hm : memoV [(xs, v)] args S = some (r, S')) {C : Ctx} {w : World} {vs : Array Value} (hw : WR E C S w) (hl : LR C w args vs.toList) :
    Calls E.P f vs w (fun e w' => ∃ u C', e = .returned u ∧ WR E C' S' w' ∧ Ext C w C' w' ∧ VR C' w' r u) := by
  refine memoV_ok (E := E) (f := f) (fun ys u hbv => ?_) hm hw hl
  have e := List.mem_singleton.1 hbv
  simp only [Prod.mk.injEq] at e
  obtain ⟨rfl, rfl⟩ := e
  obtain ⟨X0, lf, n, S1, r1, h0, h3, h4⟩ := ht
  exact ⟨showInts.envX X0, lf, n, S1, r1, beside0 h0, h3, h4⟩
theorem okX : XOk E := ⟨fun f g fn h hf => by
  have hf : Tryz.prog.funcs[f]? = some fn := hf
  rcases xcase h with ⟨rfl, rfl⟩ | ⟨rfl, rfl⟩ | ⟨rfl, rfl⟩ | ⟨rfl, rfl⟩
  · obtain rfl := Option.some.inj (Tryz.func4.symm.trans hf)
    exact ⟨by kernel_rfl, fun args S r S' hr C w vs hw hl => memo1_ok showInts.toldA hr hw hl⟩
  · obtain rfl := Option.some.inj (Tryz.func5.symm.trans hf)
    exact ⟨by kernel_rfl, fun args S r S' hr C w vs hw hl => runX_ok (E := E) (beside0 fineB) hr hw hl⟩
  · obtain rfl := Option.some.inj (Tryz.func6.symm.trans hf)
    exact ⟨by kernel_rfl, fun args S r S' hr C w vs hw hl => runX_ok (E := E) (beside0 fine0) hr hw hl⟩
  · obtain rfl := Option.some.inj (Tryz.func35.symm.trans hf)
    exact ⟨by kernel_rfl, fun args S r S' hr C w vs hw hl => fmt_ok hereE hr hw hl⟩⟩
end Go.Proofs.YtpcgbkjdobjdaaaGreatDoor
