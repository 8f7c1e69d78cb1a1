/-
  A contract: a function without arguments that the kernel has run by itself.
-/
import Derived.Test.YtfilcgomgnccjaaGreatDoorAbsG
set_option linter.unusedSimpArgs false
set_option linter.unusedVariables false
namespace Go.Abs
open Go.RowKit
noncomputable def memoX (r : Value) (args : List AV) (S : St) : Option (AV × St) := match args with
  | [] => some (.sc r, S)
  | _ => none
theorem eptr_C0 {C : Ctx} {w : World} {cs : List AV} {g : Nat} (h : VR C w (.eptr cs 0) (.pointer (some ⟨g, 0, none⟩))) (hs : ∀ x ∈ cs, ∃ v, x = .sc v) : VR (C0 w) w (.eptr cs 0) (.pointer (some ⟨g, 0, none⟩)) := by
  obtain ⟨b, o, hU, hb, hf, ht, ⟨vs, k1, k2⟩⟩ := h.eptr_inv
  have hU' : b = g ∧ o = 0 := by
    simp only [Value.pointer.injEq, Option.some.injEq, Addr.mk.injEq] at hU
    omega
  obtain ⟨rfl, rfl⟩ := hU'
  have hvs : ∀ i, i < cs.length → ∃ v, cs[i]? = some (.sc v) ∧ w.cell? ⟨b, 0 + i, none⟩ = some v := fun i hi => by
    have h1 : cs[i]? = some cs[i] := by simp [hi]
    obtain ⟨v, h2⟩ := hs cs[i] (List.getElem_mem hi)
    rw [h2] at h1
    obtain ⟨u, h3, h4⟩ := k1.get h1
    rw [h4.sc_inv] at h3
    exact ⟨v, h1, k2 i v h3⟩
  refine .eptr cs 0 b 0 (fun i => match cs[i]? with | some (.sc v) => v | _ => Go.undef) hb (C0.free w b) ?_ (fun i hi => ?_) (fun i x hx => ?_)
  · rw [Nat.zero_add]
    show _ ≤ (match w.heap[b]? with | some (.cells c _ _) => c.size | _ => 0)
    rcases Nat.eq_zero_or_pos cs.length with h0 | h0
    · rw [h0]; exact Nat.zero_le _
    · obtain ⟨v, _, h2⟩ := hvs (cs.length - 1) (by omega)
      unfold World.cell? at h2
      split at h2
      · rename_i c T fz hh
        have h2' : c[0 + (cs.length - 1)]? = some v := by simpa using h2
        have := (Array.getElem?_eq_some_iff.1 h2').1
        rw [hh]
        show cs.length ≤ c.size
        omega
      · cases h2
  · obtain ⟨v, h1, h2⟩ := hvs i hi
    simp only [h1]
    exact h2
  · obtain ⟨v, h1, h2⟩ := hvs i (List.getElem?_eq_some_iff.1 hx).1
    rw [h1] at hx
    simp only [Option.some.injEq] at hx
    subst hx
    simp only [h1]
    exact .sc v
theorem glob_C0 {C : Ctx} {w : World} (hb : C.base ≤ w.heap.size) {cs : List AV} {g : Nat} (h : GlobR C w g cs) (hs : ∀ x ∈ cs, ∃ v, x = .sc v) : GlobR (C0 w) w g cs :=
  ⟨eptr_C0 h.vr hs, Nat.lt_of_lt_of_le h.lt hb, h.whole⟩
theorem glob_of {w : World} {cs : List AV} {g : Nat} (h : VR (C0 w) w (.eptr cs 0) (.pointer (some ⟨g, 0, none⟩))) (hn : cs.length ≤ 1 ∨ 32 ≤ cs.length) : GlobR (C0 w) w g cs :=
  ⟨h, by
    obtain ⟨b, o, hU, hb, _⟩ := h.eptr_inv
    have hU' : b = g ∧ o = 0 := by
      simp only [Value.pointer.injEq, Option.some.injEq, Addr.mk.injEq] at hU
      omega
    obtain ⟨rfl, rfl⟩ := hU'
    exact hb, fun h1 h2 => by omega⟩
theorem memo_ok {E E0 : Env} (hP : E0.P = E.P) (hG : E0.G = E.G) (hsc : ∀ g cs, E0.G g = some cs → ∀ x ∈ cs, ∃ v, x = .sc v) (ok : E0.Ok) (hx : XOk E0) (he : EvoX E0) (hf : FrmX E0) {lf n : Nat} {f : FuncId} {u : Value} {S1 : St} (h : evF E0 lf n f [] S0 = some (.sc u, S1))
    {args : List AV} {S : St} {r : AV} {S' : St} (hm : memoX u args S = some (r, S')) {C : Ctx} {w : World} {vs : Array Value} (hw : WR E C S w) (hl : LR C w args vs.toList) :
    Calls E.P f vs w (fun e w' => ∃ u C', e = .returned u ∧ WR E C' S' w' ∧ Ext C w C' w' ∧ VR C' w' r u) := by
  unfold memoX at hm
  split at hm
  · simp only [Option.some.injEq, Prod.mk.injEq] at hm
    obtain ⟨rfl, rfl⟩ := hm
    obtain ⟨vs⟩ := vs
    match vs, hl with
    | [], hl =>
    have key := run_law ok hx he hf (w := w) (fun g cs hg => glob_C0 hw.bs (hw.glob g cs (by rw [← hG]; exact hg)) (hsc g cs hg)) (LR.nil _ _) h
    rw [hP] at key
    refine key.mono ?_
    rintro e w' ⟨rfl, hbel⟩
    exact ⟨_, C, rfl, hw.later hbel, Ext.later hw hbel, .sc _⟩
  · cases hm
theorem memoX_evo {u : Value} {args : List AV} {S : St} {r : AV} {S' : St} (h : memoX u args S = some (r, S')) : Evo S S' := by
  unfold memoX at h
  split at h
  · simp only [Option.some.injEq, Prod.mk.injEq] at h
    obtain ⟨_, rfl⟩ := h
    exact Evo.refl _
  · cases h
theorem memoX_frm {u : Value} {D : Nat → Prop} {A X : St} {args : List AV} {r : AV} {A' : St} (k : Frm D A X) (h : memoX u args A = some (r, A')) : Does D A X r A' (memoX u args X) := by
  unfold memoX at h ⊢
  split at h
  · simp only [Option.some.injEq, Prod.mk.injEq] at h
    obtain ⟨rfl, rfl⟩ := h
    exact ⟨X, rfl, Stp.refl k⟩
  · cases h
end Go.Abs
