/-
  Types of the small ML, plain.
-/
import Derived.Test.YtaacibffjmbfiaaDoorArgV
set_option linter.unusedSimpArgs false
set_option linter.unusedVariables false
set_option maxRecDepth 100000
namespace Go.Proofs.YtaacibffjmbfiaaDoor
open Go.Abs
inductive Ty where
  | mk (kind : Int) (name : ByteArray) (var : Int) (args : List Ty)
namespace Ty
def kind : Ty → Int | .mk k _ _ _ => k
def name : Ty → ByteArray | .mk _ n _ _ => n
def var : Ty → Int | .mk _ _ v _ => v
def args : Ty → List Ty | .mk _ _ _ a => a
end Ty
mutual
def szT : Ty → Nat
  | .mk _ _ _ as => szL as + 1
def szL : List Ty → Nat
  | [] => 0
  | a :: r => szT a + szL r
end
theorem szL_mem {a : Ty} : ∀ {l : List Ty}, a ∈ l → szT a ≤ szL l
  | b :: r, h => by
    simp only [szL]
    rcases List.mem_cons.1 h with rfl | h
    · omega
    · have := szL_mem h; omega
theorem sz_arg {a t : Ty} (h : a ∈ t.args) : szT a < szT t := by
  obtain ⟨k, n, v, as⟩ := t
  have := szL_mem h
  simp only [szT, Ty.args] at this ⊢
  omega
theorem ty_ind {P : Ty → Prop} (h : ∀ t, (∀ a ∈ t.args, P a) → P t) : ∀ t, P t := by
  suffices key : ∀ n t, szT t ≤ n → P t from fun t => key _ t (Nat.le_refl _)
  intro n
  induction n with
  | zero => intro t ht; obtain ⟨k, m, v, as⟩ := t; simp [szT] at ht
  | succ n ih => intro t ht; exact h t fun a ha => ih a (by have := sz_arg ha; omega)
mutual
def TyC : Ty → List AV → Prop
  | .mk k n v as, cs => ∃ x ys, cs = [.sc (.int .i64 k), .sc (.string n), .sc (.int .i64 v), x] ∧ IsV 4 x ys ∧ TysC as ys ∧ as.length ≤ 2 ^ 63 - 1
def TysC : List Ty → List AV → Prop
  | [], ys => ys = []
  | a :: r, ys => ∃ cs ys', ys = .agg cs :: ys' ∧ TyC a cs ∧ TysC r ys'
end
theorem TysC.len : ∀ {as : List Ty} {ys : List AV}, TysC as ys → ys.length = as.length
  | [], ys, h => by simp only [TysC] at h; subst h; rfl
  | a :: r, ys, h => by
    simp only [TysC] at h
    obtain ⟨cs, ys', rfl, _, h2⟩ := h
    simp [TysC.len h2]
theorem TysC.at : ∀ {as : List Ty} {ys : List AV}, TysC as ys → ∀ (i : Nat) (h : i < as.length), ∃ cs, ys[i]? = some (.agg cs) ∧ TyC as[i] cs
  | a :: r, ys, h, 0, _ => by
    simp only [TysC] at h
    obtain ⟨cs, ys', rfl, h1, h2⟩ := h
    exact ⟨cs, rfl, h1⟩
  | a :: r, ys, h, i + 1, hi => by
    simp only [TysC] at h
    obtain ⟨cs, ys', rfl, h1, h2⟩ := h
    obtain ⟨cs', h3, h4⟩ := TysC.at h2 i (by simpa using hi)
    exact ⟨cs', by simpa using h3, h4⟩
theorem TysC.snoc : ∀ {as : List Ty} {ys : List AV} {a : Ty} {cs : List AV}, TysC as ys → TyC a cs → TysC (as ++ [a]) (ys ++ [.agg cs])
  | [], ys, a, cs, h, ha => by
    simp only [TysC] at h; subst h
    exact ⟨cs, [], rfl, ha, rfl⟩
  | b :: r, ys, a, cs, h, ha => by
    simp only [TysC] at h
    obtain ⟨cb, ys', rfl, h1, h2⟩ := h
    exact ⟨cb, ys' ++ [.agg cs], rfl, h1, TysC.snoc h2 ha⟩
theorem TysC.of : ∀ {ar : List Ty} {f : Nat → List AV}, (∀ (i : Nat) (h : i < ar.length), TyC ar[i] (f i)) → TysC ar ((List.range ar.length).map fun i => .agg (f i))
  | [], f, h => rfl
  | a :: r, f, h => by
    have ih := TysC.of (ar := r) (f := fun i => f (i + 1)) (fun i hi => h (i + 1) (by simpa using hi))
    refine ⟨f 0, _, ?_, h 0 (by simp), ih⟩
    simp [List.range_succ_eq_map, List.map_map, Function.comp_def]

/-! What the functions answer. -/
mutual
def measF : Ty → Nat → Nat
  | .mk _ _ _ as, n => min (measL as (n + 1)) 501
def measL : List Ty → Nat → Nat
  | [], n => n
  | a :: r, n => if 500 < n then n else measL r (measF a n)
end
theorem measF_eq (t : Ty) (n : Nat) : measF t n = min (measL t.args (n + 1)) 501 := by obtain ⟨k, m, v, as⟩ := t; rfl
def argsF (k : Int) : Int := if k = 5 then 2 else if k = 6 then 1 else 0
mutual
def aloneF : Ty → Bool
  | .mk k n v as => decide (1 ≤ k ∧ k ≤ 7) && decide ((as.length : Int) = argsF k) && ((n.toList != []) == (k == 4)) && decide (0 ≤ v ∧ v ≤ 1999) && (v == 0 || k == 7) && aloneL as
def aloneL : List Ty → Bool
  | [] => true
  | a :: r => aloneF a && aloneL r
end
def goodF (t : Ty) : Bool := decide (measF t 0 ≤ 500) && aloneF t
mutual
def smallF : Ty → Int → Bool
  | .mk _ n _ as, m => decide (0 < m) && decide (as.length ≤ 4) && decide (n.size ≤ 60) && smallL as (m.tdiv 2)
def smallL : List Ty → Int → Bool
  | [], _ => true
  | a :: r, m => smallF a m && smallL r m
end
end Go.Proofs.YtaacibffjmbfiaaDoor
