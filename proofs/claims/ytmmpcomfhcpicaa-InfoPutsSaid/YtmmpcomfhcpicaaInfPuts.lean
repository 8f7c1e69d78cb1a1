/-
  The law InfoPuts answers true, whatever the input; the input reads as it did. No conditions.
-/
import Derived.Test.YtmmpcomfhcpicaaInf14
import Derived.Test.YtmmpcomfhcpicaaInfB
set_option linter.unusedSimpArgs false
set_option linter.unusedVariables false
set_option maxRecDepth 100000
namespace Go.Proofs.Ytmmpcomfhcpicaa
open Go.ChangeShapes Go.WideShapes Go.ChangeAt Go.RowKit
namespace infoPuts
set_option maxRecDepth 100000 in
theorem lifted (os : Os) (started : os.Started) (H : Type) (enc : TypeId × Value → H) :
    ReturnsInHanded {} Try.checked os 4 .any (Rows.infoPutsSpec.pre6 enc Try.prog Try.f4 Rows.infoPutsRow.domain false) (Rows.infoPutsSpec.post enc Try.prog Try.f4 false true false false) := by
  refine returnsInHanded_of_change (C := Try.checked) own started (by kernel_rfl) Try.func4
    (ChangeSpec.witness6 (enc := enc) (C := Try.checked) false ⟨#[], #[.agg #[.slice none 0 0, .slice none 0 0], .agg #[.slice none 0 0, .slice none 0 0]], []⟩ 8 (by kernel_rfl) (by kernel_rfl) (by kernel_rfl) (by kernel_rfl)) ?_
  intro W base args ds gs before hval0 hW hcnd _
  have hval : ∀ (j : Nat) t v, Try.f4.params[j]? = some t → args[j]? = some v → Value.okWide Try.prog W .any base t v := hval0
  have hW' := hW
  obtain ⟨p, q, hA0, hV, rfl, hfz, hnd⟩ := hW
  have hA : DataW.TrodAll enc Try.prog W 0 (fun _ => true) true Try.f4.params.toList args.toList ds p := hA0
  rw [Try.params4] at hA hval
  obtain ⟨v0, v1, d0, d1, p0, p1, rfl, rfl, rfl, h0, h1⟩ := trodAll_two hA
  obtain ⟨rfl, rfl⟩ := trodVars_none hV
  simp only [List.append_nil] at hW'
  have hlt : ∀ x ∈ p0 ++ p1, x.block < W.heap.size := fun x hx => by simpa using hW'.lt x hx
  obtain ⟨ss0, vs0, x0, y0, i0, j0, r0⟩ := table_arg (hval 0 25 v0 rfl rfl) h0
  obtain ⟨ss1, vs1, x1, y1, i1, j1, r1⟩ := table_arg (hval 1 25 v1 rfl rfl) h1
  clear hA0 hval0
  obtain ⟨r, S', hev, hr⟩ := infoputs_ok ss0 vs0 x0 y0 i0 j0 ss1 vs1 x1 y1 i1 j1
  refine (run_ev (.cons r0 (.cons r1 (.nil _ _))) hev hr).mono fun e W' ⟨he, bel⟩ => ?_
  subst he
  exact ⟨_, rfl, _, _, _, [], p0 ++ p1, [], hW', trodAll_mk1 (shut_bool ty4 _), trodAll_mk2 (read25 h0 bel (fun x hx => hlt x (List.mem_append_left _ hx))) (read25 h1 bel (fun x hx => hlt x (List.mem_append_right _ hx))), rfl, bel.frame _, fun h => by cases h⟩

theorem over : Rows.infoPutsRow.holds Try.pinned (OpenSpec.ofChange Rows.infoPutsSpec) :=
  OpenClaim.holds_of_wide 4 Try.f4 rfl rfl rfl rfl rfl rfl rfl ⟨rfl, rfl, rfl, rfl, rfl⟩ rfl rfl rfl rfl rfl (by kernel_rfl) Try.func4 (by kernel_rfl)
    (of_decide_eq_true (by kernel_rfl)) (by unfold Func.isWrapper; first | (rw [if_pos (by decide +kernel)]; kernel_rfl) | (rw [if_neg (by decide +kernel)]; exact ⟨rfl, rfl⟩))
    (fun os started H enc _ => lifted os started H enc)

/-- The statement. -/
theorem proved : Rows.InfoPutsSaid := over
#print axioms proved
end infoPuts
end Go.Proofs.Ytmmpcomfhcpicaa
