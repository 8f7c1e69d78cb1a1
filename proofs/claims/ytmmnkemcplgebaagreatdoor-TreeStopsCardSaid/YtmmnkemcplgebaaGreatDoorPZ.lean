/-
  More of the calculus: a loop with one exit, a part of the code.
-/
import Derived.Test.YtmmnkemcplgebaaGreatDoorPH
section
set_option linter.unusedSimpArgs false
set_option linter.unusedVariables false
set_option maxRecDepth 100000
namespace Go.Abs
end Go.Abs
namespace Go.Abs
/-- What one part of the code leaves is enough for the rest. -/
theorem ends_cut2 {E : Env} {nt : Nat} {k : List KI} {Q : PostA} {tm : PM AV} {S : St} {c : PC} (P : PM AV → St → Prop)
    (h1 : EndsA E nt [.c c] .nrm tm S fun o tm' S' => match o with | .nrm => P tm' S' | _ => False) (h2 : ∀ tm' S', P tm' S' → EndsA E nt k .nrm tm' S' Q) : EndsA E nt (.c c :: k) .nrm tm S Q := by
  obtain ⟨N, o', tm', S', h1, h3⟩ := h1
  cases o' with
  | nrm =>
    obtain ⟨N2, o2, tm2, S2, h4, hq⟩ := h2 _ _ h3
    refine ⟨max N N2, o2, tm2, S2, fun lf n hl hn => ?_, hq⟩
    have := h1 lf n (by omega) (by omega)
    simp only [runK] at this ⊢
    revert this
    cases evP E (evF E lf n) lf nt c tm S with
    | none => intro h; cases h
    | some r =>
      obtain ⟨a1, a2, a3⟩ := r
      intro h
      simp only [Option.some.injEq, Prod.mk.injEq] at h
      obtain ⟨rfl, rfl, rfl⟩ := h
      exact h4 lf n (by omega) (by omega)
  | _ => exact h3.elim
end Go.Abs
end
