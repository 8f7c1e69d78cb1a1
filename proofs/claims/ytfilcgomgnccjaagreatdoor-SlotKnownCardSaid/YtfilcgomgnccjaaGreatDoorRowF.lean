/-
  Closed facts of a row, made light: which functions a call comes to, by bits; no goroutine is started.
-/
import Derived.SevenTiedAt
import Derived.JoinedOf
set_option linter.unusedSimpArgs false
set_option linter.unusedVariables false
namespace Go.RowF
open Go
theorem goes_false {P : Program} (h : P.funcs.any Func.goes = false) (func : String) : P.goesAt .entering func = false := by
  have h1 : ∀ (g : Nat), (P.funcs[g]?).any Func.goes = false := fun g => by
    cases hg : P.funcs[g]? with
    | none => rfl
    | some fn =>
      have hm : fn ∈ P.funcs := Array.mem_of_getElem? hg
      have h' : ¬ (P.funcs.any Func.goes = true) := by rw [h]; exact Bool.false_ne_true
      rw [Array.any_eq_true'] at h'
      cases hb : fn.goes with
      | false => simpa using hb
      | true => exact absurd ⟨fn, hm, hb⟩ h'
  have h2 : ∀ f, P.goes f = false := fun f => by
    unfold Program.goes
    rw [h, Bool.and_false, Bool.or_false]
    exact List.any_eq_false.2 fun g _ => by rw [h1 g]; exact Bool.false_ne_true
  unfold Program.goesAt Program.goesFrom
  cases P.funcNamed func with
  | none => rfl
  | some f => simp [h2 f]
/-- The same walk, what has been seen as bits. -/
def closB (P : Program) : Nat → List FuncId → Nat → List FuncId → List FuncId
  | 0, _, _, seen => seen.reverse
  | _, [], _, seen => seen.reverse
  | n + 1, f :: todo, m, seen => bif Nat.testBit m f then closB P n todo m seen else closB P n ((P.funcs[f]?).elim [] P.leadsTo ++ todo) (m ||| 2 ^ f) (f :: seen)
theorem closB_eq {P : Program} : ∀ (n : Nat) (todo : List FuncId) (m : Nat) (seen : List FuncId), (∀ g, m.testBit g = seen.contains g) → P.closureVia n todo seen = closB P n todo m seen
  | 0, todo, m, seen, h => by cases todo <;> rfl
  | n + 1, [], m, seen, h => rfl
  | n + 1, f :: todo, m, seen, h => by
    unfold Program.closureVia closB
    rw [h f]
    cases hc : seen.contains f with
    | true => simp only [if_true, cond_true]; exact closB_eq n todo m seen h
    | false =>
      simp only [Bool.false_eq_true, if_false, cond_false]
      refine closB_eq n _ _ _ fun g => ?_
      rw [Nat.testBit_or, h g, Nat.testBit_two_pow, List.contains_cons]
      by_cases hg : g = f
      · subst hg; simp
      · have : ¬ f = g := fun e => hg e.symm
        simp [this, hg]
theorem closure_of {P : Program} {f : FuncId} {L : List FuncId} (h : closB P (1 + (P.funcs.toList.map fun g => (P.leadsTo g).length + 1).sum) [f] 0 [] = L) : P.closure f = L := by
  unfold Program.closure
  rw [closB_eq _ _ 0 [] (fun g => by simp), h]
theorem inPlace_of {P : Program} {f : FuncId} {L : List FuncId} (h : P.closure f = L) : P.inPlace f = P.inPlaceOf L := by unfold Program.inPlace Program.inPlaceOf; rw [h]
theorem vars_of {P : Program} {f : FuncId} {L : List FuncId} (h : P.closure f = L) : P.varsNamed f = P.varsOf L := by unfold Program.varsNamed Program.varsOf; rw [h]
/-- One of those that a call comes to is not followed. -/
theorem unfollowed_of {P : Program} {f : FuncId} {L : List FuncId} (h : P.closure f = L) (g : FuncId) (hg : L.contains g = true) (hu : (P.funcs[g]?).any (fun fn => match fn.body with | some c => c.unfollowed | none => entryCalls fn) = true) : P.unfollowed f = true := by
  unfold Program.unfollowed
  rw [h]
  exact List.any_eq_true.2 ⟨g, by simpa using hg, hu⟩
theorem recurses_of {P : Program} {f : FuncId} (h : P.unfollowed f = true) : P.recurses f = true := by unfold Program.recurses; rw [h]; rfl
theorem andB {a b : Bool} (h1 : a = true) (h2 : b = true) : (a && b) = true := by rw [h1, h2]; rfl
end Go.RowF
