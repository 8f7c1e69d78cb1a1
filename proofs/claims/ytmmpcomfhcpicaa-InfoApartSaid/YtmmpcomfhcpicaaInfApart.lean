/-
  The law InfoApart answers true, whatever the input; the input reads as it did. No conditions.
-/
import Derived.Test.YtmmpcomfhcpicaaSrt9
import Derived.Test.YtmmpcomfhcpicaaInfD
set_option linter.unusedSimpArgs false
set_option linter.unusedVariables false
set_option maxRecDepth 100000
namespace Go.Proofs.Ytmmpcomfhcpicaa
open Go.ChangeShapes Go.WideShapes Go.ChangeAt Go.RowKit
namespace infoApart
set_option maxRecDepth 100000 in
theorem lifted (os : Os) (started : os.Started) (H : Type) (enc : TypeId × Value → H) :
    ReturnsInHanded {} Try.checked os 6 .any (Rows.infoApartSpec.pre6 enc Try.prog Try.f6 Rows.infoApartRow.domain false) (Rows.infoApartSpec.post enc Try.prog Try.f6 false true false false) := by
  refine returnsInHanded_of_change (C := Try.checked) own started (by kernel_rfl) Try.func6
    (ChangeSpec.witness6 (enc := enc) (C := Try.checked) false ⟨#[], #[.agg #[.slice none 0 0, .slice none 0 0], .int .i64 0], []⟩ 8 (by kernel_rfl) (by kernel_rfl) (by kernel_rfl) (by kernel_rfl)) ?_
  intro W base args ds gs before hval0 hW hcnd _
  have hval : ∀ (j : Nat) t v, Try.f6.params[j]? = some t → args[j]? = some v → Value.okWide Try.prog W .any base t v := hval0
  have hW' := hW
  obtain ⟨p, q, hA0, hV, rfl, hfz, hnd⟩ := hW
  have hA : DataW.TrodAll enc Try.prog W 0 (fun _ => true) true Try.f6.params.toList args.toList ds p := hA0
  rw [Try.params6] at hA hval
  obtain ⟨v0, v1, d0, d1, p0, p1, rfl, rfl, rfl, h0, h1⟩ := trodAll_two hA
  obtain ⟨rfl, rfl⟩ := trodVars_none hV
  simp only [List.append_nil] at hW'
  have hlt : ∀ x ∈ p0 ++ p1, x.block < W.heap.size := fun x hx => by simpa using hW'.lt x hx
  obtain ⟨ss0, vs0, x0, y0, i0, j0, r0⟩ := table_arg (hval 0 25 v0 rfl rfl) h0
  obtain ⟨c1, rfl⟩ := okWide_int ty3 (hval 1 3 v1 rfl rfl)
  clear hA0 hval0
  obtain ⟨r, S', hev, hr⟩ := infoapart_ok ss0 vs0 x0 y0 i0 j0 c1
  refine (run_ev (.cons r0 (.cons (.sc _) (.nil _ _))) hev hr).mono fun e W' ⟨he, bel⟩ => ?_
  subst he
  exact ⟨_, rfl, _, _, _, [], p0 ++ p1, [], hW', trodAll_mk1 (shut_bool ty4 _), trodAll_mk2 (read25 h0 bel (fun x hx => hlt x (List.mem_append_left _ hx))) (read3 h1 bel (fun x hx => hlt x (List.mem_append_right _ hx))), rfl, bel.frame _, fun h => by cases h⟩

theorem over : Rows.infoApartRow.holds Try.pinned (OpenSpec.ofChange Rows.infoApartSpec) :=
  OpenClaim.holds_of_wide 6 Try.f6 rfl rfl rfl rfl rfl rfl rfl ⟨rfl, rfl, rfl, rfl, rfl⟩ rfl rfl rfl rfl rfl (by kernel_rfl) Try.func6 (by kernel_rfl)
    (of_decide_eq_true (by kernel_rfl)) (by unfold Func.isWrapper; first | (rw [if_pos (by decide +kernel)]; kernel_rfl) | (rw [if_neg (by decide +kernel)]; exact ⟨rfl, rfl⟩))
    (fun os started H enc _ => lifted os started H enc)

/-- The statement. -/
theorem proved : Rows.InfoApartSaid := over
#print axioms proved
end infoApart
end Go.Proofs.Ytmmpcomfhcpicaa
