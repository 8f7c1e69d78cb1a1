/-
  Types of the small ML, plain: their variables, what they are with some variables as others.
-/
import Derived.Test.YtaacibffjmbfiaaDoorTy1
set_option linter.unusedSimpArgs false
set_option linter.unusedVariables false
set_option maxRecDepth 100000
namespace Go.Proofs.YtaacibffjmbfiaaDoor
open Go.Abs
theorem measL_eq : ∀ (l : List Ty), (∀ a ∈ l, ∀ n, n ≤ 500 → measF a n = min (n + szT a) 501) → ∀ n, n ≤ 501 → measL l n = min (n + szL l) 501
  | [], _, n, hn => by simp only [measL, szL]; omega
  | a :: r, h, n, hn => by
    simp only [measL, szL]
    by_cases hc : 500 < n
    · rw [if_pos hc]; omega
    · rw [if_neg hc, h a (List.mem_cons_self ..) n (by omega), measL_eq r (fun b hb => h b (List.mem_cons_of_mem _ hb)) _ (by omega)]
      omega
theorem meas_eq : ∀ t : Ty, ∀ n, n ≤ 500 → measF t n = min (n + szT t) 501 := by
  refine ty_ind fun t ih n hn => ?_
  rw [measF_eq, measL_eq t.args ih (n + 1) (by omega)]
  obtain ⟨k, m, v, l⟩ := t
  simp only [szT, Ty.args]
  omega
theorem good_sz {t : Ty} (h : goodF t = true) : szT t ≤ 500 := by
  simp only [goodF, Bool.and_eq_true, decide_eq_true_eq] at h
  have := h.1
  rw [meas_eq t 0 (by omega)] at this
  omega
mutual
def varsF : Ty → List Int → List Int
  | .mk k _ v as, l => if k = 7 then (if v ∈ l then l else l ++ [v]) else varsL as l
def varsL : List Ty → List Int → List Int
  | [], l => l
  | a :: r, l => varsL r (varsF a l)
end
theorem varsF_eq (t : Ty) (l : List Int) : varsF t l = if t.kind = 7 then (if t.var ∈ l then l else l ++ [t.var]) else varsL t.args l := by obtain ⟨k, n, v, as⟩ := t; rfl
theorem varsL_len : ∀ (as : List Ty), (∀ a ∈ as, ∀ l, (varsF a l).length ≤ l.length + szT a) → ∀ l, (varsL as l).length ≤ l.length + szL as
  | [], _, l => by simp [varsL, szL]
  | a :: r, h, l => by
    have h1 := h a (List.mem_cons_self ..) l
    have h2 := varsL_len r (fun b hb => h b (List.mem_cons_of_mem _ hb)) (varsF a l)
    simp only [varsL, szL]
    omega
theorem szT_eq (t : Ty) : szT t = szL t.args + 1 := by obtain ⟨k, m, v, as⟩ := t; rfl
theorem vars_len : ∀ t : Ty, ∀ l, (varsF t l).length ≤ l.length + szT t := by
  refine ty_ind fun t ih l => ?_
  rw [varsF_eq, szT_eq]
  have h1 := varsL_len t.args ih l
  by_cases hk : t.kind = 7
  · rw [if_pos hk]
    by_cases hv : t.var ∈ l
    · rw [if_pos hv]; omega
    · rw [if_neg hv]; simp
  · rw [if_neg hk]; omega
theorem varsL_drop {as : List Ty} {k : Nat} (h : k < as.length) (l : List Int) : varsL (as.drop k) l = varsL (as.drop (k + 1)) (varsF as[k] l) := by
  rw [List.drop_eq_getElem_cons h]; rfl
theorem szL_drop {as : List Ty} {k : Nat} (h : k < as.length) : szL (as.drop k) = szT as[k] + szL (as.drop (k + 1)) := by
  rw [List.drop_eq_getElem_cons h]; rfl
mutual
def renF (f : Int → Option Ty) : Ty → Ty
  | .mk k n v as => if k = 7 then (match f v with | some x => x | none => .mk k n v as) else .mk k n v (renL f as)
def renL (f : Int → Option Ty) : List Ty → List Ty
  | [] => []
  | a :: r => renF f a :: renL f r
end
theorem renF_eq (f : Int → Option Ty) (t : Ty) : renF f t = if t.kind = 7 then (match f t.var with | some x => x | none => t) else .mk t.kind t.name t.var (renL f t.args) := by obtain ⟨k, n, v, as⟩ := t; rfl
theorem renL_len (f : Int → Option Ty) : ∀ l : List Ty, (renL f l).length = l.length
  | [] => rfl
  | a :: r => by simp [renL, renL_len f r]
theorem renL_at (f : Int → Option Ty) : ∀ (l : List Ty) (k : Nat) (h : k < l.length), (renL f l)[k]'(by rw [renL_len]; exact h) = renF f l[k]
  | a :: r, 0, _ => rfl
  | a :: r, k + 1, h => by
    simp only [renL, List.getElem_cons_succ]
    exact renL_at f r k (by simpa using h)
theorem renL_take (f : Int → Option Ty) (l : List Ty) (k : Nat) (h : k < l.length) : (renL f l).take (k + 1) = (renL f l).take k ++ [renF f l[k]] := by
  rw [List.take_add_one, List.getElem?_eq_getElem (by rw [renL_len]; exact h), renL_at f l k h]
  rfl
theorem ren_none (t : Ty) : renF (fun _ => none) t = t := by
  revert t
  refine ty_ind fun t ih => ?_
  rw [renF_eq]
  split
  · rfl
  · have : ∀ l : List Ty, (∀ a ∈ l, renF (fun _ => none) a = a) → renL (fun _ => none) l = l := by
      intro l
      induction l with
      | nil => intro _; rfl
      | cons a r ihl => intro h; simp only [renL]; rw [h a (List.mem_cons_self ..), ihl fun b hb => h b (List.mem_cons_of_mem _ hb)]
    rw [this _ ih]
    obtain ⟨k, n, v, as⟩ := t; rfl
end Go.Proofs.YtaacibffjmbfiaaDoor
