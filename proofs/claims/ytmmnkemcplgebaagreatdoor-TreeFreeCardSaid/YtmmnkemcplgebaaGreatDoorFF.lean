/-
  A contract: a function without arguments that the kernel has run by itself.
  Contracts that the kernel has run: a function of a text, by a table; a call at the very beginning, with all that it leaves.
  Contracts that the kernel has run: a function of plain values that answers plain values, by a table.
-/
import Derived.Test.YtmmnkemcplgebaaGreatDoorFE
import Derived.Laws.Strings
section
set_option linter.unusedSimpArgs false
set_option linter.unusedVariables false
namespace Go.Abs
open Go.RowKit
noncomputable def memoX (r : Value) (args : List AV) (S : St) : Option (AV × St) := match args with
  | [] => some (.sc r, S)
  | _ => none
theorem eptr_C0 {C : Ctx} {w : World} {cs : List AV} {g : Nat} (h : VR C w (.eptr cs 0) (.pointer (some ⟨g, 0, none⟩))) (hs : ∀ x ∈ cs, ∃ v, x = .sc v) : VR (C0 w) w (.eptr cs 0) (.pointer (some ⟨g, 0, none⟩)) := by
  obtain ⟨b, o, hU, hb, hf, ht, ⟨vs, k1, k2⟩⟩ := h.eptr_inv
  have hU' : b = g ∧ o = 0 := by
    simp only [Value.pointer.injEq, Option.some.injEq, Addr.mk.injEq] at hU
    omega
  obtain ⟨rfl, rfl⟩ := hU'
  have hvs : ∀ i, i < cs.length → ∃ v, cs[i]? = some (.sc v) ∧ w.cell? ⟨b, 0 + i, none⟩ = some v := fun i hi => by
    have h1 : cs[i]? = some cs[i] := by simp [hi]
    obtain ⟨v, h2⟩ := hs cs[i] (List.getElem_mem hi)
    rw [h2] at h1
    obtain ⟨u, h3, h4⟩ := k1.get h1
    rw [h4.sc_inv] at h3
    exact ⟨v, h1, k2 i v h3⟩
  refine .eptr cs 0 b 0 (fun i => match cs[i]? with | some (.sc v) => v | _ => Go.undef) hb (C0.free w b) ?_ (fun i hi => ?_) (fun i x hx => ?_)
  · rw [Nat.zero_add]
    show _ ≤ (match w.heap[b]? with | some (.cells c _ _) => c.size | _ => 0)
    rcases Nat.eq_zero_or_pos cs.length with h0 | h0
    · rw [h0]; exact Nat.zero_le _
    · obtain ⟨v, _, h2⟩ := hvs (cs.length - 1) (by omega)
      unfold World.cell? at h2
      split at h2
      · rename_i c T fz hh
        have h2' : c[0 + (cs.length - 1)]? = some v := by simpa using h2
        have := (Array.getElem?_eq_some_iff.1 h2').1
        rw [hh]
        show cs.length ≤ c.size
        omega
      · cases h2
  · obtain ⟨v, h1, h2⟩ := hvs i hi
    simp only [h1]
    exact h2
  · obtain ⟨v, h1, h2⟩ := hvs i (List.getElem?_eq_some_iff.1 hx).1
    rw [h1] at hx
    simp only [Option.some.injEq] at hx
    subst hx
    simp only [h1]
    exact .sc v
theorem memoX_evo {u : Value} {args : List AV} {S : St} {r : AV} {S' : St} (h : memoX u args S = some (r, S')) : Evo S S' := by
  unfold memoX at h
  split at h
  · simp only [Option.some.injEq, Prod.mk.injEq] at h
    obtain ⟨_, rfl⟩ := h
    exact Evo.refl _
  · cases h
theorem memoX_frm {u : Value} {D : Nat → Prop} {A X : St} {args : List AV} {r : AV} {A' : St} (k : Frm D A X) (h : memoX u args A = some (r, A')) : Does D A X r A' (memoX u args X) := by
  unfold memoX at h ⊢
  split at h
  · simp only [Option.some.injEq, Prod.mk.injEq] at h
    obtain ⟨rfl, rfl⟩ := h
    exact ⟨X, rfl, Stp.refl k⟩
  · cases h
end Go.Abs
end

section
set_option linter.unusedSimpArgs false
set_option linter.unusedVariables false
namespace Go.Abs
open Go.RowKit
noncomputable section
/-- An environment over the same program and tables, all that is asked of it. -/
structure Beside (E E0 : Env) : Prop where
  P : E0.P = E.P
  G : E0.G = E.G
  sc : ∀ g cs, E0.G g = some cs → ∀ x ∈ cs, ∃ v, x = .sc v
  ok : E0.Ok
  x : XOk E0
  e : EvoX E0
  f : FrmX E0
end
end Go.Abs
end

section
set_option linter.unusedSimpArgs false
set_option linter.unusedVariables false
namespace Go.Abs
open Go.RowKit
noncomputable section
section
variable {E : Env} {C Co : Ctx} {S : St} {w : World} {st : Bool}
end

section
variable {E : Env} {C : Ctx} {S : St} {w w' : World}
end
end
end Go.Abs
end
