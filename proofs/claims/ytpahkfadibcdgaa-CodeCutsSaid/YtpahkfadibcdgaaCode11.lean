/-
  The law CodeSays answers true, whatever the input; the input reads as it did. No conditions.
-/
import Derived.Test.YtpahkfadibcdgaaCode10
import Derived.Test.YtpahkfadibcdgaaBase
import Derived.Deep.Strs
set_option linter.unusedSimpArgs false
set_option linter.unusedVariables false
namespace Go.Proofs.Ytpahkfadibcdgaa
open Go.ChangeShapes Go.WideShapes Go.ChangeAt Go.RowKit
noncomputable def fld31 (k : Nat) : Field := match Try.prog.underlying 31 with
  | some (.struct fs) => fs.getD k default
  | _ => default
theorem ty31 : Try.prog.underlying 31 = some (.struct #[fld31 0, fld31 1, fld31 2]) := by kernel_rfl
theorem ty3 : Try.prog.underlying 3 = some (.int .i64) := by kernel_rfl
theorem ty2 : Try.prog.underlying 2 = some (.int .i64) := by kernel_rfl
theorem off31_0 : (fld31 0).offset = 0 := by kernel_rfl
theorem off31_1 : (fld31 1).offset = 1 := by kernel_rfl
theorem off31_2 : (fld31 2).offset = 2 := by kernel_rfl
theorem fty31_0 : (fld31 0).type = 3 := by kernel_rfl
theorem fty31_1 : (fld31 1).type = 2 := by kernel_rfl
theorem fty31_2 : (fld31 2).type = 2 := by kernel_rfl
theorem cells31 : Try.prog.cellsOf 31 = 3 := by kernel_rfl
theorem cells3 : Try.prog.cellsOf 3 = 1 := by kernel_rfl
theorem cells2 : Try.prog.cellsOf 2 = 1 := by kernel_rfl
theorem wf64 {n : Int} (h : (Lit.int .i64 n).wf = true) : -9223372036854775808 ≤ n ∧ n ≤ 9223372036854775807 := by
  have a1 : IntKind.i64.min = -9223372036854775808 := rfl
  have a2 : IntKind.i64.max = 9223372036854775807 := rfl
  simp only [Lit.wf, Bool.and_eq_true, decide_eq_true_eq] at h
  omega
theorem instr_arg {H : Type} {enc : TypeId × Value → H} {W : World} {v : Value} {d : DataW H} {p : List MemPlace} (hv : Value.okWide Try.prog W .any 0 31 v) (h : DataW.Trod enc Try.prog W 0 (fun _ => true) true 31 v d p) :
    ∃ i : InstrV, i.wf ∧ Abs.VR (Abs.C0 W) W (instrV i) v := by
  obtain ⟨cs, rfl, hsz⟩ := okWide_struct ty31 hv
  obtain ⟨fuel, hf⟩ := h
  rw [cells31] at hsz
  obtain ⟨y0, y1, y2, n, hx, hl, k0, k1, k2⟩ := Go.Deep.trod_struct3 ty31 hf
  rw [off31_0, fty31_0, cells3] at k0
  rw [off31_1, fty31_1, cells2] at k1
  rw [off31_2, fty31_2, cells2] at k2
  obtain ⟨a0, e0, _, w0⟩ := DataW.trod_int ty3 k0
  obtain ⟨a1, e1, _, w1⟩ := DataW.trod_int ty2 k1
  obtain ⟨a2, e2, _, w2⟩ := DataW.trod_int ty2 k2
  obtain ⟨c⟩ := cs
  simp only [Value.cells] at e0 e1 e2
  match c, hsz with
  | [b0, b1, b2], _ =>
    simp at e0 e1 e2
    subst e0; subst e1; subst e2
    refine ⟨⟨a0, a1, a2⟩, ⟨wf64 w0, wf64 w1, wf64 w2⟩, .agg _ _ rfl fun j x hj => ?_⟩
    match j, hj with
    | 0, hj => simp at hj; subst hj; exact .sc _
    | 1, hj => simp at hj; subst hj; exact .sc _
    | 2, hj => simp at hj; subst hj; exact .sc _
    | k + 3, hj => simp at hj

theorem read31 {H : Type} {enc : TypeId × Value → H} {W W' : World} {v : Value} {d : DataW H} {p : List MemPlace} (h : DataW.Trod enc Try.prog W 0 (fun _ => true) true 31 v d p) (hb : Below W.heap.size W W') (hlt : ∀ x ∈ p, x.block < W.heap.size) :
    DataW.Trod enc Try.prog W' 0 (fun b => decide (b < W.heap.size)) true 31 v d p := Below.trod laidOut (by kernel_rfl) (of_decide_eq_true (by kernel_rfl)) h hb hlt

namespace codeSays
set_option maxRecDepth 100000 in
theorem lifted (os : Os) (started : os.Started) (H : Type) (enc : TypeId × Value → H) :
    ReturnsInHanded {} Try.checked os 5 .any (Rows.codeSaysSpec.pre6 enc Try.prog Try.f5 Rows.codeSaysRow.domain false) (Rows.codeSaysSpec.post enc Try.prog Try.f5 false true false false) := by
  refine returnsInHanded_of_change (C := Try.checked) own started (by kernel_rfl) Try.func5
    (ChangeSpec.witness6 (enc := enc) (C := Try.checked) false ⟨#[], #[.agg #[.int .i64 0, .int .i64 0, .int .i64 0], .slice none 0 0], []⟩ 8 (by kernel_rfl) (by kernel_rfl) (by kernel_rfl) (by kernel_rfl)) ?_
  intro W base args ds gs before hval0 hW hcnd _
  have hval : ∀ (j : Nat) t v, Try.f5.params[j]? = some t → args[j]? = some v → Value.okWide Try.prog W .any base t v := hval0
  have hW' := hW
  obtain ⟨p, q, hA0, hV, rfl, hfz, hnd⟩ := hW
  have hA : DataW.TrodAll enc Try.prog W 0 (fun _ => true) true Try.f5.params.toList args.toList ds p := hA0
  rw [Try.params5] at hA hval
  obtain ⟨v0, v1, d0, d1, p0, p1, rfl, rfl, rfl, h0, h1⟩ := trodAll_two hA
  obtain ⟨rfl, rfl⟩ := trodVars_none hV
  simp only [List.append_nil] at hW'
  have hlt : ∀ x ∈ p0 ++ p1, x.block < W.heap.size := fun x hx => by simpa using hW'.lt x hx
  obtain ⟨i, hi, r0⟩ := instr_arg (hval 0 31 v0 rfl rfl) h0
  obtain ⟨x1, l1, i1, r1, _⟩ := Abs.bytes_arg ty22 ty5 cells5 (hval 1 22 v1 rfl rfl) h1
  clear hA0 hval0
  obtain ⟨r, S', hev, hr⟩ := codesays_ok i hi l1 x1 i1 Abs.S0 S0_fresh
  refine (run_ev (.cons r0 (.cons r1 (.nil _ _))) hev hr).mono fun e W' ⟨he, bel⟩ => ?_
  subst he
  exact ⟨_, rfl, _, _, _, [], p0 ++ p1, [], hW', trodAll_mk1 (shut_bool ty4 _), trodAll_mk2 (read31 h0 bel fun x hx => hlt x (List.mem_append_left _ hx)) (read22 h1 bel fun x hx => hlt x (List.mem_append_right _ hx)), rfl, bel.frame _, fun h => by cases h⟩

theorem over : Rows.codeSaysRow.holds Try.pinned (OpenSpec.ofChange Rows.codeSaysSpec) :=
  OpenClaim.holds_of_wide 5 Try.f5 rfl rfl rfl rfl rfl rfl rfl ⟨rfl, rfl, rfl, rfl, rfl⟩ rfl rfl rfl rfl rfl (by kernel_rfl) Try.func5 (by kernel_rfl)
    (of_decide_eq_true (by kernel_rfl)) (by unfold Func.isWrapper; first | (rw [if_pos (by decide +kernel)]; kernel_rfl) | (rw [if_neg (by decide +kernel)]; exact ⟨rfl, rfl⟩))
    (fun os started H enc _ => lifted os started H enc)

/-- The statement. -/
theorem proved : Rows.CodeSaysSaid := over
#print axioms proved
end codeSays
end Go.Proofs.Ytpahkfadibcdgaa
