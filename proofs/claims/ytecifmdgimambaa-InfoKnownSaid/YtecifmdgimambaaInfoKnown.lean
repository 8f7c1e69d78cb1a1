/-
  The law InfoKnown answers true, whatever the memory and the tape; nothing that was there is turned. No conditions.
-/
import Derived.Test.YtecifmdgimambaaRows
import Derived.Test.YtecifmdgimambaaAbs13
import Derived.ProofKit
import Derived.OpenShut
import Derived.ChangeOld
namespace Go.Proofs.Ytecifmdgimambaa.infoKnown
open Go.ChangeShapes Go.WideShapes Go.ChangeAt Go.RowKit

theorem own : ownKnob Try.prog.godebug = none := by kernel_rfl
theorem names : Try.prog.funcs.toList.all (fun x => x.name != "runtime.NumGoroutine") = true := by kernel_rfl
theorem mixed : Try.prog.follows .mixedOrders = true := by kernel_rfl
theorem ent63 (a b : ByteArray) (w : World) : (callFunc 63 #[.string a, .string b]).run Try.prog w = .ok (.value (.int .i64 (Extern.BytealgCompare.cmp a b))) w := by kernel_rfl

noncomputable def env : Abs.Env := Abs.plainEnv Try.prog (fun t _ => Nat.beq t 23) (fun _ _ => none) (Abs.extOf [63] [])
theorem run : Abs.saysTrue (Abs.evF env 200 60 5 [] Abs.S0) = true := by kernel_rfl

theorem walk (w : World) : Calls Try.prog 5 #[] w fun e w' => e = .returned (.bool true) ∧ Below w.heap.size w w' := by
  obtain ⟨S', h⟩ := Abs.saysTrue_eq run
  exact Abs.run_law (E := env) (Abs.plainEnv_ok names mixed (fun _ _ _ h => by cases h) (Abs.extOf_ok (fun g hg => by have := List.mem_singleton.1 hg; subst this; exact ent63) (fun g hg => by simp at hg))) (Abs.plainEnv_x _ _ _ _) (Abs.plainEnv_e _ _ _ _) (Abs.plainEnv_f _ _ _ _) (fun g cs h => by cases h) (Abs.LR.nil _ _) h

set_option maxRecDepth 100000 in
theorem lifted (os : Os) (started : os.Started) (H : Type) (enc : TypeId × Value → H) :
    ReturnsInHanded {} Try.checked os 5 .any (Rows.infoKnownSpec.pre6 enc Try.prog Try.f5 Rows.infoKnownRow.domain false) (Rows.infoKnownSpec.post enc Try.prog Try.f5 false true false false) := by
  refine returnsInHanded_of_change (C := Try.checked) own started (by kernel_rfl) Try.func5
    (ChangeSpec.witness6 (enc := enc) (C := Try.checked) false ⟨#[], #[], []⟩ 8 (by kernel_rfl) (by kernel_rfl) (by kernel_rfl) (by kernel_rfl)) ?_
  intro W base args ds gs before hval0 hW hcnd _
  have hW' := hW
  obtain ⟨p, q, hA0, hV, rfl, hfz, hnd⟩ := hW
  have hA : DataW.TrodAll enc Try.prog W 0 (fun _ => true) true Try.f5.params.toList args.toList ds p := hA0
  rw [Try.params5] at hA
  obtain ⟨rfl, rfl, rfl⟩ := trodAll_none hA
  obtain ⟨rfl, rfl⟩ := trodVars_none hV
  clear hA0 hval0
  refine (walk W).mono fun e W' ⟨he, bel⟩ => ?_
  subst he
  exact ⟨_, rfl, _, _, _, [], _, [], hW', trodAll_mk1 (shut_bool Try.underlying4 _), trodAll_mk0, rfl, bel.frame _, fun h => by cases h⟩

theorem over : Rows.infoKnownRow.holds Try.pinned (OpenSpec.ofChange Rows.infoKnownSpec) :=
  OpenClaim.holds_of_wide 5 Try.f5 rfl rfl rfl rfl rfl rfl rfl ⟨rfl, rfl, rfl, rfl, rfl⟩ rfl rfl rfl rfl rfl (by kernel_rfl) Try.func5 (by kernel_rfl)
    (of_decide_eq_true (by kernel_rfl)) (by unfold Func.isWrapper; first | (rw [if_pos (by decide +kernel)]; kernel_rfl) | (rw [if_neg (by decide +kernel)]; exact ⟨rfl, rfl⟩))
    (fun os started H enc _ => lifted os started H enc)

/-- The statement. -/
theorem proved : Rows.InfoKnownSaid := over
#print axioms proved
end Go.Proofs.Ytecifmdgimambaa.infoKnown
