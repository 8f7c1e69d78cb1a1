/-
  The law InfoSays answers true, whatever the input; the input reads as it did. No conditions.
-/
import Derived.Test.YtmmpcomfhcpicaaRef10
import Derived.Test.YtmmpcomfhcpicaaInfE
set_option linter.unusedSimpArgs false
set_option linter.unusedVariables false
set_option maxRecDepth 100000
namespace Go.Proofs.Ytmmpcomfhcpicaa
open Go.ChangeShapes Go.WideShapes Go.ChangeAt Go.RowKit
namespace infoSays
set_option maxRecDepth 100000 in
theorem lifted (os : Os) (started : os.Started) (H : Type) (enc : TypeId × Value → H) :
    ReturnsInHanded {} Try.checked os 5 .any (Rows.infoSaysSpec.pre6 enc Try.prog Try.f5 Rows.infoSaysRow.domain false) (Rows.infoSaysSpec.post enc Try.prog Try.f5 false true false false) := by
  refine returnsInHanded_of_change (C := Try.checked) own started (by kernel_rfl) Try.func5
    (ChangeSpec.witness6 (enc := enc) (C := Try.checked) false ⟨#[], #[.agg #[.slice none 0 0, .slice none 0 0], .slice none 0 0, .int .i64 0, .int .i64 0], []⟩ 8 (by kernel_rfl) (by kernel_rfl) (by kernel_rfl) (by kernel_rfl)) ?_
  intro W base args ds gs before hval0 hW hcnd _
  have hval : ∀ (j : Nat) t v, Try.f5.params[j]? = some t → args[j]? = some v → Value.okWide Try.prog W .any base t v := hval0
  have hW' := hW
  obtain ⟨p, q, hA0, hV, rfl, hfz, hnd⟩ := hW
  have hA : DataW.TrodAll enc Try.prog W 0 (fun _ => true) true Try.f5.params.toList args.toList ds p := hA0
  rw [Try.params5] at hA hval
  obtain ⟨v0, v1, v2, v3, d0, d1, d2, d3, p0, p1, p2, p3, rfl, rfl, rfl, h0, h1, h2, h3⟩ := trodAll_four hA
  obtain ⟨rfl, rfl⟩ := trodVars_none hV
  simp only [List.append_nil] at hW'
  have hlt : ∀ x ∈ p0 ++ p1 ++ p2 ++ p3, x.block < W.heap.size := fun x hx => by simpa using hW'.lt x hx
  obtain ⟨ss0, vs0, x0, y0, i0, j0, r0⟩ := table_arg (hval 0 25 v0 rfl rfl) h0
  obtain ⟨x1, l1, i1, r1, _⟩ := Abs.bytes_arg ty28 ty5 cells5 (hval 1 28 v1 rfl rfl) h1
  obtain ⟨c2, rfl⟩ := okWide_int ty3 (hval 2 3 v2 rfl rfl)
  obtain ⟨c3, rfl⟩ := okWide_int ty3 (hval 3 3 v3 rfl rfl)
  clear hA0 hval0
  obtain ⟨r, S', hev, hr⟩ := infosays_ok ss0 vs0 x0 y0 i0 j0 l1 x1 i1 c2 c3
  refine (run_ev (.cons r0 (.cons r1 (.cons (.sc _) (.cons (.sc _) (.nil _ _))))) hev hr).mono fun e W' ⟨he, bel⟩ => ?_
  subst he
  exact ⟨_, rfl, _, _, _, [], p0 ++ p1 ++ p2 ++ p3, [], hW', trodAll_mk1 (shut_bool ty4 _), (by rw [List.append_assoc, List.append_assoc]; exact trodAll_mk4 (read25 h0 bel (fun x hx => hlt x (List.mem_append_left _ (List.mem_append_left _ (List.mem_append_left _ hx))))) (read28 h1 bel (fun x hx => hlt x (List.mem_append_left _ (List.mem_append_left _ (List.mem_append_right _ hx))))) (read3 h2 bel (fun x hx => hlt x (List.mem_append_left _ (List.mem_append_right _ hx)))) (read3 h3 bel (fun x hx => hlt x (List.mem_append_right _ hx)))), rfl, bel.frame _, fun h => by cases h⟩

theorem over : Rows.infoSaysRow.holds Try.pinned (OpenSpec.ofChange Rows.infoSaysSpec) :=
  OpenClaim.holds_of_wide 5 Try.f5 rfl rfl rfl rfl rfl rfl rfl ⟨rfl, rfl, rfl, rfl, rfl⟩ rfl rfl rfl rfl rfl (by kernel_rfl) Try.func5 (by kernel_rfl)
    (of_decide_eq_true (by kernel_rfl)) (by unfold Func.isWrapper; first | (rw [if_pos (by decide +kernel)]; kernel_rfl) | (rw [if_neg (by decide +kernel)]; exact ⟨rfl, rfl⟩))
    (fun os started H enc _ => lifted os started H enc)

/-- The statement. -/
theorem proved : Rows.InfoSaysSaid := over
#print axioms proved
end infoSays
end Go.Proofs.Ytmmpcomfhcpicaa
