/-
  The law SnapSays answers true, whatever the input; the input reads as it did. No conditions.
-/
import Derived.Test.YtpahkfadibcdgaaSnap8
import Derived.Test.YtpahkfadibcdgaaArgB
import Derived.ProofKit
import Derived.OpenShut
import Derived.ChangeOld
set_option linter.unusedSimpArgs false
set_option linter.unusedVariables false
namespace Go.Proofs.Ytpahkfadibcdgaa
open Go.ChangeShapes Go.WideShapes Go.ChangeAt Go.RowKit

theorem own : ownKnob Try.prog.godebug = none := by kernel_rfl
theorem names : Try.prog.funcs.toList.all (fun x => x.name != "runtime.NumGoroutine") = true := by kernel_rfl
theorem mixed : Try.prog.follows .mixedOrders = true := by kernel_rfl
theorem laidOut : laidOutB Try.prog = true := by kernel_rfl
theorem ty22 : Try.prog.underlying 22 = some (.slice 5) := by kernel_rfl
theorem ty5 : Try.prog.underlying 5 = some (.int .u8) := by kernel_rfl
theorem ty4 : Try.prog.underlying 4 = some .bool := by kernel_rfl
theorem cells5 : Try.prog.cellsOf 5 = 1 := by kernel_rfl
theorem run_ev {f : FuncId} {args : List Abs.AV} {vs : Array Value} {w : World} {r : Abs.AV} {S' : Abs.St} {u : Value} (hl : Abs.LR (Abs.C0 w) w args vs.toList) (h : Abs.EvA E f args Abs.S0 r S') (hr : r = .sc u) : Calls Try.prog f vs w fun e w' => e = .returned u ∧ Below w.heap.size w w' := by
  obtain ⟨N, h⟩ := h
  subst hr
  exact Abs.run_law (E := E) (Abs.plainEnv_ok names mixed (fun _ _ _ h => by cases h) ⟨fun g h args r hg => by cases hg⟩) (Abs.plainEnv_x _ _ _ _) (Abs.plainEnv_e _ _ _ _) (Abs.plainEnv_f _ _ _ _) (fun g cs h => by cases h) hl (h N N (Nat.le_refl _) (Nat.le_refl _))
theorem S0_fresh : Abs.S0.Fresh := ⟨by decide, fun _ _ => rfl⟩
theorem read22 {H : Type} {enc : TypeId × Value → H} {W W' : World} {v : Value} {d : DataW H} {p : List MemPlace} (h : DataW.Trod enc Try.prog W 0 (fun _ => true) true 22 v d p) (hb : Below W.heap.size W W') (hlt : ∀ x ∈ p, x.block < W.heap.size) :
    DataW.Trod enc Try.prog W' 0 (fun b => decide (b < W.heap.size)) true 22 v d p := Below.trod laidOut (by kernel_rfl) (of_decide_eq_true (by kernel_rfl)) h hb hlt

namespace snapSays
set_option maxRecDepth 100000 in
theorem lifted (os : Os) (started : os.Started) (H : Type) (enc : TypeId × Value → H) :
    ReturnsInHanded {} Try.checked os 3 .any (Rows.snapSaysSpec.pre6 enc Try.prog Try.f3 Rows.snapSaysRow.domain false) (Rows.snapSaysSpec.post enc Try.prog Try.f3 false true false false) := by
  refine returnsInHanded_of_change (C := Try.checked) own started (by kernel_rfl) Try.func3
    (ChangeSpec.witness6 (enc := enc) (C := Try.checked) false ⟨#[], #[.slice none 0 0, .slice none 0 0], []⟩ 8 (by kernel_rfl) (by kernel_rfl) (by kernel_rfl) (by kernel_rfl)) ?_
  intro W base args ds gs before hval0 hW hcnd _
  have hval : ∀ (j : Nat) t v, Try.f3.params[j]? = some t → args[j]? = some v → Value.okWide Try.prog W .any base t v := hval0
  have hW' := hW
  obtain ⟨p, q, hA0, hV, rfl, hfz, hnd⟩ := hW
  have hA : DataW.TrodAll enc Try.prog W 0 (fun _ => true) true Try.f3.params.toList args.toList ds p := hA0
  rw [Try.params3] at hA hval
  obtain ⟨v0, v1, d0, d1, p0, p1, rfl, rfl, rfl, h0, h1⟩ := trodAll_two hA
  obtain ⟨rfl, rfl⟩ := trodVars_none hV
  simp only [List.append_nil] at hW'
  have hlt : ∀ x ∈ p0 ++ p1, x.block < W.heap.size := fun x hx => by simpa using hW'.lt x hx
  obtain ⟨x0, l0, i0, r0, _⟩ := Abs.bytes_arg ty22 ty5 cells5 (hval 0 22 v0 rfl rfl) h0
  obtain ⟨x1, l1, i1, r1, _⟩ := Abs.bytes_arg ty22 ty5 cells5 (hval 1 22 v1 rfl rfl) h1
  clear hA0 hval0
  obtain ⟨r, S', hev, hr⟩ := says_ok l0 l1 x0 x1 i0 i1 Abs.S0 S0_fresh
  refine (run_ev (.cons r0 (.cons r1 (.nil _ _))) hev hr).mono fun e W' ⟨he, bel⟩ => ?_
  subst he
  exact ⟨_, rfl, _, _, _, [], p0 ++ p1, [], hW', trodAll_mk1 (shut_bool ty4 _), trodAll_mk2 (read22 h0 bel fun x hx => hlt x (List.mem_append_left _ hx)) (read22 h1 bel fun x hx => hlt x (List.mem_append_right _ hx)), rfl, bel.frame _, fun h => by cases h⟩

theorem over : Rows.snapSaysRow.holds Try.pinned (OpenSpec.ofChange Rows.snapSaysSpec) :=
  OpenClaim.holds_of_wide 3 Try.f3 rfl rfl rfl rfl rfl rfl rfl ⟨rfl, rfl, rfl, rfl, rfl⟩ rfl rfl rfl rfl rfl (by kernel_rfl) Try.func3 (by kernel_rfl)
    (of_decide_eq_true (by kernel_rfl)) (by unfold Func.isWrapper; first | (rw [if_pos (by decide +kernel)]; kernel_rfl) | (rw [if_neg (by decide +kernel)]; exact ⟨rfl, rfl⟩))
    (fun os started H enc _ => lifted os started H enc)

/-- The statement. -/
theorem proved : Rows.SnapSaysSaid := over
#print axioms proved
end snapSays
end Go.Proofs.Ytpahkfadibcdgaa
