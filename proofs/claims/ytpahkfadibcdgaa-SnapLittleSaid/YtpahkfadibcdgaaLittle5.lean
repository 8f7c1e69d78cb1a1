/-
  The law SnapLittle answers true, whatever the input; the input reads as it did. No conditions.
-/
import Derived.Test.YtpahkfadibcdgaaLittle4
import Derived.Test.YtpahkfadibcdgaaBase
set_option linter.unusedSimpArgs false
set_option linter.unusedVariables false
namespace Go.Proofs.Ytpahkfadibcdgaa
open Go.ChangeShapes Go.WideShapes Go.ChangeAt Go.RowKit
theorem ty3 : Try.prog.underlying 3 = some (.int .i64) := by kernel_rfl
theorem byte_arg {H : Type} {enc : TypeId × Value → H} {W : World} {v : Value} {d : DataW H} {p : List MemPlace} (hv : Value.okWide Try.prog W .any 0 5 v) (h : DataW.Trod enc Try.prog W 0 (fun _ => true) true 5 v d p) : ∃ c : UInt8, v = .int .u8 (c.toNat : Int) := by
  obtain ⟨n, rfl⟩ := okWide_int ty5 hv
  obtain ⟨fuel, hf⟩ := h
  obtain ⟨a, e, _, w⟩ := DataW.trod_int ty5 hf
  simp [Value.cells] at e
  subst e
  have a1 : IntKind.u8.min = 0 := rfl
  have a2 : IntKind.u8.max = 255 := rfl
  simp only [Lit.wf, Bool.and_eq_true, decide_eq_true_eq] at w
  refine ⟨UInt8.ofNat n.toNat, ?_⟩
  have : (UInt8.ofNat n.toNat).toNat = n.toNat := by simp; omega
  rw [this]
  congr 1
  omega
namespace snapLittle
theorem read22 {H : Type} {enc : TypeId × Value → H} {W W' : World} {v : Value} {d : DataW H} {p : List MemPlace} (h : DataW.Trod enc Try.prog W 0 (fun _ => true) true 22 v d p) (hb : Below W.heap.size W W') (hlt : ∀ x ∈ p, x.block < W.heap.size) :
    DataW.Trod enc Try.prog W' 0 (fun b => decide (b < W.heap.size)) true 22 v d p := Below.trod laidOut (by kernel_rfl) (of_decide_eq_true (by kernel_rfl)) h hb hlt
theorem read3 {H : Type} {enc : TypeId × Value → H} {W W' : World} {v : Value} {d : DataW H} {p : List MemPlace} (h : DataW.Trod enc Try.prog W 0 (fun _ => true) true 3 v d p) (hb : Below W.heap.size W W') (hlt : ∀ x ∈ p, x.block < W.heap.size) :
    DataW.Trod enc Try.prog W' 0 (fun b => decide (b < W.heap.size)) true 3 v d p := Below.trod laidOut (by kernel_rfl) (of_decide_eq_true (by kernel_rfl)) h hb hlt
theorem read5 {H : Type} {enc : TypeId × Value → H} {W W' : World} {v : Value} {d : DataW H} {p : List MemPlace} (h : DataW.Trod enc Try.prog W 0 (fun _ => true) true 5 v d p) (hb : Below W.heap.size W W') (hlt : ∀ x ∈ p, x.block < W.heap.size) :
    DataW.Trod enc Try.prog W' 0 (fun b => decide (b < W.heap.size)) true 5 v d p := Below.trod laidOut (by kernel_rfl) (of_decide_eq_true (by kernel_rfl)) h hb hlt
set_option maxRecDepth 100000 in
theorem lifted (os : Os) (started : os.Started) (H : Type) (enc : TypeId × Value → H) :
    ReturnsInHanded {} Try.checked os 10 .any (Rows.snapLittleSpec.pre6 enc Try.prog Try.f10 Rows.snapLittleRow.domain false) (Rows.snapLittleSpec.post enc Try.prog Try.f10 false true false false) := by
  refine returnsInHanded_of_change (C := Try.checked) own started (by kernel_rfl) Try.func10
    (ChangeSpec.witness6 (enc := enc) (C := Try.checked) false ⟨#[], #[.slice none 0 0, .int .i64 0, .int .u8 0], []⟩ 8 (by kernel_rfl) (by kernel_rfl) (by kernel_rfl) (by kernel_rfl)) ?_
  intro W base args ds gs before hval0 hW hcnd _
  have hval : ∀ (j : Nat) t v, Try.f10.params[j]? = some t → args[j]? = some v → Value.okWide Try.prog W .any base t v := hval0
  have hW' := hW
  obtain ⟨p, q, hA0, hV, rfl, hfz, hnd⟩ := hW
  have hA : DataW.TrodAll enc Try.prog W 0 (fun _ => true) true Try.f10.params.toList args.toList ds p := hA0
  rw [Try.params10] at hA hval
  obtain ⟨v0, v1, v2, d0, d1, d2, p0, p1, p2, rfl, rfl, rfl, h0, h1, h2⟩ := trodAll_three hA
  obtain ⟨rfl, rfl⟩ := trodVars_none hV
  simp only [List.append_nil] at hW'
  have hlt : ∀ x ∈ p0 ++ p1 ++ p2, x.block < W.heap.size := fun x hx => by simpa using hW'.lt x hx
  obtain ⟨x0, l0, i0, r0, _⟩ := Abs.bytes_arg ty22 ty5 cells5 (hval 0 22 v0 rfl rfl) h0
  obtain ⟨c1, rfl⟩ := okWide_int ty3 (hval 1 3 v1 rfl rfl)
  obtain ⟨c2, rfl⟩ := byte_arg (hval 2 5 v2 rfl rfl) h2
  clear hA0 hval0
  obtain ⟨r, S', hev, hr⟩ := snaplittle_ok l0 x0 i0 c1 c2 Abs.S0 S0_fresh
  refine (run_ev (.cons r0 (.cons (.sc _) (.cons (.sc _) (.nil _ _)))) hev hr).mono fun e W' ⟨he, bel⟩ => ?_
  subst he
  exact ⟨_, rfl, _, _, _, [], p0 ++ p1 ++ p2, [], hW', trodAll_mk1 (shut_bool ty4 _), (by rw [List.append_assoc]; exact trodAll_mk3 (read22 h0 bel (fun x hx => hlt x (List.mem_append_left _ (List.mem_append_left _ hx)))) (read3 h1 bel (fun x hx => hlt x (List.mem_append_left _ (List.mem_append_right _ hx)))) (read5 h2 bel (fun x hx => hlt x (List.mem_append_right _ hx)))), rfl, bel.frame _, fun h => by cases h⟩

theorem over : Rows.snapLittleRow.holds Try.pinned (OpenSpec.ofChange Rows.snapLittleSpec) :=
  OpenClaim.holds_of_wide 10 Try.f10 rfl rfl rfl rfl rfl rfl rfl ⟨rfl, rfl, rfl, rfl, rfl⟩ rfl rfl rfl rfl rfl (by kernel_rfl) Try.func10 (by kernel_rfl)
    (of_decide_eq_true (by kernel_rfl)) (by unfold Func.isWrapper; first | (rw [if_pos (by decide +kernel)]; kernel_rfl) | (rw [if_neg (by decide +kernel)]; exact ⟨rfl, rfl⟩))
    (fun os started H enc _ => lifted os started H enc)

/-- The statement. -/
theorem proved : Rows.SnapLittleSaid := over
#print axioms proved
end snapLittle
end Go.Proofs.Ytpahkfadibcdgaa
