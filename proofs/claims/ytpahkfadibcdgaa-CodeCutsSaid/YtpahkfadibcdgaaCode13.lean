/-
  The law CodeBack answers true, whatever the input; the input reads as it did. No conditions.
-/
import Derived.Test.YtpahkfadibcdgaaCode12
import Derived.Deep.Slices
set_option linter.unusedSimpArgs false
set_option linter.unusedVariables false
namespace Go.Proofs.Ytpahkfadibcdgaa
open Go.ChangeShapes Go.WideShapes Go.ChangeAt Go.RowKit
theorem ty34 : Try.prog.underlying 34 = some (.slice 31) := by kernel_rfl
def instrCs (i : InstrV) : List Value := [.int .i64 i.op, .int .i64 i.a, .int .i64 i.b]
theorem instr_cells {H : Type} {enc : TypeId × Value → H} {w : World} {n : Nat} {cs : List Value} {x : DataW H × List MemPlace} {spare : Nat → Bool} {held : Bool} (hl : cs.length = 3) (h : DataW.trod enc Try.prog w 0 spare held n 31 cs = some x) :
    ∃ i : InstrV, i.wf ∧ cs = instrCs i := by
  obtain ⟨y0, y1, y2, n, hx, _, k0, k1, k2⟩ := Go.Deep.trod_struct3 ty31 h
  rw [off31_0, fty31_0, cells3] at k0
  rw [off31_1, fty31_1, cells2] at k1
  rw [off31_2, fty31_2, cells2] at k2
  obtain ⟨a0, e0, _, w0⟩ := DataW.trod_int ty3 k0
  obtain ⟨a1, e1, _, w1⟩ := DataW.trod_int ty2 k1
  obtain ⟨a2, e2, _, w2⟩ := DataW.trod_int ty2 k2
  match cs, hl with
  | [b0, b1, b2], _ =>
    simp at e0 e1 e2
    subst e0; subst e1; subst e2
    exact ⟨⟨a0, a1, a2⟩, ⟨wf64 w0, wf64 w1, wf64 w2⟩, rfl⟩
def instrFl (is : List InstrV) : List Abs.AV := is.flatMap fun i => (instrCs i).map .sc
theorem instr_flat : ∀ is : List InstrV, Abs.flat? 3 (instrVals is) = some (instrFl is)
  | [] => rfl
  | i :: r => by
    have := instr_flat r
    simp only [instrVals, List.map_cons] at this ⊢
    simp [Abs.flat?, this, instrV, Abs.cellsOf, instrFl, instrCs, Abs.okCell]
theorem instrFl_len (is : List InstrV) : (instrFl is).length = is.length * 3 := by
  induction is with
  | nil => rfl
  | cons i r ih => simp [instrFl, instrCs] at ih ⊢; omega
theorem instr_at {f : Nat → Option Value} : ∀ (is : List InstrV) (o : Nat), (∀ j (hj : j < is.length), f (o + j * 3) = some (.int .i64 is[j].op) ∧ f (o + (j * 3 + 1)) = some (.int .i64 is[j].a) ∧ f (o + (j * 3 + 2)) = some (.int .i64 is[j].b)) →
    ∀ k x, (instrFl is)[k]? = some x → ∃ v, f (o + k) = some v ∧ x = .sc v
  | [], o, _, k, x, h => by simp [instrFl] at h
  | i :: r, o, hf, k, x, h => by
    have h0 := hf 0 (by simp)
    simp only [List.getElem_cons_zero] at h0
    match k, h with
    | 0, h => simp [instrFl, instrCs] at h; subst h; exact ⟨_, by simpa using h0.1, rfl⟩
    | 1, h => simp [instrFl, instrCs] at h; subst h; exact ⟨_, by simpa using h0.2.1, rfl⟩
    | 2, h => simp [instrFl, instrCs] at h; subst h; exact ⟨_, by simpa using h0.2.2, rfl⟩
    | k + 3, h =>
      have := instr_at (f := f) r (o + 3) (fun j hj => by
        have := hf (j + 1) (by simp; omega)
        simp only [List.getElem_cons_succ] at this
        rw [show o + 3 + j * 3 = o + (j + 1) * 3 by omega, show o + 3 + (j * 3 + 1) = o + ((j + 1) * 3 + 1) by omega, show o + 3 + (j * 3 + 2) = o + ((j + 1) * 3 + 2) by omega]
        exact this) k x (by simpa [instrFl, instrCs] using h)
      rwa [show o + 3 + k = o + (k + 3) by omega] at this

theorem instrs_arg {H : Type} {enc : TypeId × Value → H} {W : World} {v : Value} {d : DataW H} {p : List MemPlace}
    (hv : Value.okWide Try.prog W .any 0 34 v) (h : DataW.Trod enc Try.prog W 0 (fun _ => true) true 34 v d p) :
    ∃ (x : Abs.AV) (is : List InstrV), (∀ i ∈ is, i.wf) ∧ Abs.IsV 3 x (instrVals is) ∧ Abs.VR (Abs.C0 W) W x v := by
  obtain ⟨a0, len, cap, rfl⟩ := okWide_slice ty34 hv
  obtain ⟨fuel, hf⟩ := h
  rcases Go.Deep.open_slice ty34 hf with ⟨hcs, hx⟩ | ⟨a, len', cap', m, n, D, Pl, hcs, _, hl, hm, hmm, hx, hel⟩
  · simp [Value.cells] at hcs
    obtain ⟨rfl, rfl, rfl⟩ := hcs
    exact ⟨.sc (.slice none 0 0), [], by simp, .nil 3, .sc _⟩
  · simp [Value.cells] at hcs
    obtain ⟨rfl, rfl, rfl⟩ := hcs
    simp only [if_true] at hmm
    subst hmm
    rw [cells31] at hel
    haveI : Inhabited InstrV := ⟨⟨0, 0, 0⟩⟩
    obtain ⟨I, hI⟩ := Go.Deep.choose_lt (α := InstrV) (p := fun i v => v.wf ∧ W.cells? 0 (a.add (i * 3)) 3 = some (instrCs v)) (fun i hi => by
      obtain ⟨cs', h1, h2⟩ := hel i hi
      obtain ⟨_, h3, _⟩ := World.cells?_some h1
      obtain ⟨v, h4, rfl⟩ := instr_cells h3 h2
      exact ⟨v, h4, h1⟩)
    refine ⟨.vec 0 3 (instrVals ((List.range len).map I)), (List.range len).map I, ?_, .vec 0 3 _, ?_⟩
    · intro i hi
      simp only [List.mem_map, List.mem_range] at hi
      obtain ⟨j, hj, rfl⟩ := hi
      exact (hI j (by omega)).1
    · by_cases h0 : len = 0
      · subst h0
        exact .vec0 3 a m
      · have hcell : ∀ i, i < len → ∀ r, r < 3 → W.cell? (a.add (i * 3 + r)) = (instrCs (I i))[r]? := fun i hi r hr => by
          have := (World.cells?_some (hI i (by omega)).2).2.2 r hr
          rwa [Go.Deep.add_add] at this
        obtain ⟨b, off, spot⟩ := a
        have hc0 := hcell 0 (by omega) 0 (by omega)
        have hspot : spot = none := by simpa [Addr.add] using World.cell?_spot (show W.cell? _ = some (Value.int .i64 (I 0).op) from hc0)
        subst hspot
        have hb : b < W.heap.size := by simpa [Addr.add] using Abs.cell_block_lt (show W.cell? _ = some (Value.int .i64 (I 0).op) from hc0)
        have hcl : ∀ i, i < len → ∀ r, r < 3 → W.cell? ⟨b, off + (i * 3 + r), none⟩ = (instrCs (I i))[r]? := fun i hi r hr => by
          have := hcell i hi r hr
          rwa [add_plain] at this
        have hat := instr_at (f := fun k => W.cell? ⟨b, k, none⟩) ((List.range len).map I) off (fun j hj => by
          have hj' : j < len := by simpa using hj
          simp only [List.getElem_map, List.getElem_range]
          exact ⟨hcl j hj' 0 (by omega), hcl j hj' 1 (by omega), hcl j hj' 2 (by omega)⟩)
        have hfl := instrFl_len ((List.range len).map I)
        simp only [List.length_map, List.length_range] at hfl
        have key := Abs.VR.vec (C := Abs.C0 W) (w := W) 0 3 (instrVals ((List.range len).map I)) (instrFl ((List.range len).map I)) b off m (fun k => match (instrFl ((List.range len).map I))[k]? with | some (.sc v) => v | _ => undef) (by decide)
          (by simp [instrVals]; omega) (instr_flat _) hb (Abs.C0.free W b)
          (by
            have := hcl (len - 1) (by omega) 2 (by omega)
            rw [hfl]
            simp only [Abs.C0]
            have this : W.cell? ⟨b, off + ((len - 1) * 3 + 2), none⟩ = some (Value.int .i64 (I (len - 1)).b) := this
            unfold World.cell? at this
            split at this
            · rename_i c _ _ hh
              simp only at hh
              rw [hh]
              simp only
              have := (Array.getElem?_eq_some_iff.1 this).1
              simp only at this
              omega
            · cases this)
          (fun k hk => by
            obtain ⟨v, h1, h2⟩ := hat k _ (List.getElem?_eq_getElem hk)
            rw [List.getElem?_eq_getElem hk, h2]
            exact h1)
          (fun k x hk => by
            obtain ⟨v, h1, rfl⟩ := hat k x hk
            rw [hk]
            exact .sc v)
          (fun h => by omega) (fun h => by omega) (fun h => by omega)
        have hl2 : (instrVals ((List.range len).map I)).length = len := by simp [instrVals]
        rw [hl2] at key
        exact key

theorem read34 {H : Type} {enc : TypeId × Value → H} {W W' : World} {v : Value} {d : DataW H} {p : List MemPlace} (h : DataW.Trod enc Try.prog W 0 (fun _ => true) true 34 v d p) (hb : Below W.heap.size W W') (hlt : ∀ x ∈ p, x.block < W.heap.size) :
    DataW.Trod enc Try.prog W' 0 (fun b => decide (b < W.heap.size)) true 34 v d p := Below.trod laidOut (by kernel_rfl) (of_decide_eq_true (by kernel_rfl)) h hb hlt

namespace codeBack
set_option maxRecDepth 100000 in
theorem lifted (os : Os) (started : os.Started) (H : Type) (enc : TypeId × Value → H) :
    ReturnsInHanded {} Try.checked os 6 .any (Rows.codeBackSpec.pre6 enc Try.prog Try.f6 Rows.codeBackRow.domain false) (Rows.codeBackSpec.post enc Try.prog Try.f6 false true false false) := by
  refine returnsInHanded_of_change (C := Try.checked) own started (by kernel_rfl) Try.func6
    (ChangeSpec.witness6 (enc := enc) (C := Try.checked) false ⟨#[], #[.slice none 0 0], []⟩ 8 (by kernel_rfl) (by kernel_rfl) (by kernel_rfl) (by kernel_rfl)) ?_
  intro W base args ds gs before hval0 hW hcnd _
  have hval : ∀ (j : Nat) t v, Try.f6.params[j]? = some t → args[j]? = some v → Value.okWide Try.prog W .any base t v := hval0
  have hW' := hW
  obtain ⟨p, q, hA0, hV, rfl, hfz, hnd⟩ := hW
  have hA : DataW.TrodAll enc Try.prog W 0 (fun _ => true) true Try.f6.params.toList args.toList ds p := hA0
  rw [Try.params6] at hA hval
  obtain ⟨v0, d0, rfl, rfl, h0⟩ := trodAll_one hA
  obtain ⟨rfl, rfl⟩ := trodVars_none hV
  simp only [List.append_nil] at hW'
  have hlt : ∀ x ∈ p, x.block < W.heap.size := fun x hx => by simpa using hW'.lt x hx
  obtain ⟨x, is, hw, i1, r1⟩ := instrs_arg (hval 0 34 v0 rfl rfl) h0
  clear hA0 hval0
  obtain ⟨r, S', hev, hr⟩ := codeback_ok is hw x i1 Abs.S0 S0_fresh
  refine (run_ev (.cons r1 (.nil _ _)) hev hr).mono fun e W' ⟨he, bel⟩ => ?_
  subst he
  exact ⟨_, rfl, _, _, _, [], p, [], hW', trodAll_mk1 (shut_bool ty4 _), trodAll_mk1 (read34 h0 bel hlt), rfl, bel.frame _, fun h => by cases h⟩

theorem over : Rows.codeBackRow.holds Try.pinned (OpenSpec.ofChange Rows.codeBackSpec) :=
  OpenClaim.holds_of_wide 6 Try.f6 rfl rfl rfl rfl rfl rfl rfl ⟨rfl, rfl, rfl, rfl, rfl⟩ rfl rfl rfl rfl rfl (by kernel_rfl) Try.func6 (by kernel_rfl)
    (of_decide_eq_true (by kernel_rfl)) (by unfold Func.isWrapper; first | (rw [if_pos (by decide +kernel)]; kernel_rfl) | (rw [if_neg (by decide +kernel)]; exact ⟨rfl, rfl⟩))
    (fun os started H enc _ => lifted os started H enc)

/-- The statement. -/
theorem proved : Rows.CodeBackSaid := over
#print axioms proved
end codeBack
end Go.Proofs.Ytpahkfadibcdgaa
