/-
  Types of the small ML, shown: plain; the letters.
-/
import Derived.Test.YtaacibffjmbfiaaDoorSch7
import Derived.Test.YtaacibffjmbfiaaDoorPe
set_option linter.unusedSimpArgs false
set_option linter.unusedVariables false
set_option maxRecDepth 100000
namespace Go.Proofs.YtaacibffjmbfiaaDoor
open Go.Abs
theorem b_addstr {S : St} (t : TypeId) (x y : Operand) (a b : ByteArray) (h : a.size + b.size ≤ 2 ^ 62) : binGen E .add t x y (.sc (.string a)) (.sc (.string b)) S = some (.sc (.string (a ++ b)), S) := by
  have h2 : ¬ ((a.size + b.size : Nat) : Int) > IntKind.i64.max := by
    have : IntKind.i64.max = 9223372036854775807 := rfl
    rw [this]; omega
  simp only [binGen, conc, binOp, Op.stringOp, if_neg h2]
  rfl
mutual
def nmB : Ty → Bool
  | .mk _ n _ ar => decide (n.size ≤ 60) && nmL ar
def nmL : List Ty → Bool
  | [] => true
  | a :: r => nmB a && nmL r
end
theorem nmB_eq (t : Ty) : nmB t = (decide (t.name.size ≤ 60) && nmL t.args) := by obtain ⟨k, n, v, ar⟩ := t; rfl
theorem nmL_mem : ∀ {l : List Ty} {a : Ty}, nmL l = true → a ∈ l → nmB a = true
  | b :: r, a, h, hm => by
    simp only [nmL, Bool.and_eq_true] at h
    rcases List.mem_cons.1 hm with rfl | hm
    · exact h.1
    · exact nmL_mem h.2 hm
theorem nmL_of : ∀ {l : List Ty}, (∀ a ∈ l, nmB a = true) → nmL l = true
  | [], _ => rfl
  | a :: r, h => by simp only [nmL, h a (List.mem_cons_self ..), nmL_of fun b hb => h b (List.mem_cons_of_mem _ hb), Bool.and_self]
theorem smallL_mem : ∀ {l : List Ty} {a : Ty} {m : Int}, smallL l m = true → a ∈ l → smallF a m = true
  | b :: r, a, m, h, hm => by
    simp only [smallL, Bool.and_eq_true] at h
    rcases List.mem_cons.1 hm with rfl | hm
    · exact h.1
    · exact smallL_mem h.2 hm
theorem nm_small : ∀ t : Ty, ∀ m : Int, smallF t m = true → nmB t = true := by
  refine ty_ind fun t ih m h => ?_
  rw [smallF_eq] at h
  simp only [Bool.and_eq_true, decide_eq_true_eq] at h
  rw [nmB_eq]
  simp only [Bool.and_eq_true, decide_eq_true_eq]
  exact ⟨h.1.2, nmL_of fun a ha => ih a ha _ (smallL_mem h.2 ha)⟩
theorem nm_ren (kvs : List (Int × Int)) : ∀ t : Ty, nmB t = true → nmB (renF (ofK kvs) t) = true := by
  refine ty_ind fun t ih h => ?_
  rw [renF_eq]
  by_cases b1 : t.kind = 7
  · rw [if_pos b1]
    simp only [ofK]
    cases findI t.var kvs with
    | none => exact h
    | some z => show nmB (vTy z) = true; simp [vTy, nmB, nmL, ByteArray.size]
  · rw [if_neg b1]
    rw [nmB_eq] at h ⊢
    simp only [Bool.and_eq_true, decide_eq_true_eq] at h ⊢
    refine ⟨h.1, ?_⟩
    have key : ∀ l : List Ty, (∀ a ∈ l, nmB (renF (ofK kvs) a) = true) → nmL (renL (ofK kvs) l) = true := by
      intro l
      induction l with
      | nil => intro _; rfl
      | cons a r ihl => intro hh; simp only [renL, nmL, hh a (List.mem_cons_self ..), ihl fun b hb => hh b (List.mem_cons_of_mem _ hb), Bool.and_self]
    exact key _ fun a ha => ih a ha (nmL_mem h.2 ha)
mutual
def showF (nm : Int → ByteArray) : Ty → ByteArray
  | .mk k n v ar =>
    if k = 7 then nm v
    else if k = 5 ∧ ar.length = 2 then (((⟨#[40]⟩ ++ show1 nm ar) ++ ⟨#[32, 45, 62, 32]⟩) ++ show2 nm ar) ++ ⟨#[41]⟩
    else if k = 6 ∧ ar.length = 1 then (⟨#[40]⟩ ++ show1 nm ar) ++ ⟨#[32, 114, 101, 102, 41]⟩
    else if k = 1 then ⟨#[105, 110, 116]⟩
    else if k = 2 then ⟨#[98, 111, 111, 108]⟩
    else if k = 3 then ⟨#[117, 110, 105, 116]⟩
    else if k = 4 then n
    else ⟨#[]⟩
def show1 (nm : Int → ByteArray) : List Ty → ByteArray
  | [] => ⟨#[]⟩
  | a :: _ => showF nm a
def show2 (nm : Int → ByteArray) : List Ty → ByteArray
  | [] => ⟨#[]⟩
  | _ :: r => show1 nm r
end
theorem showF_eq (nm : Int → ByteArray) (t : Ty) : showF nm t = if t.kind = 7 then nm t.var
    else if t.kind = 5 ∧ t.args.length = 2 then (((⟨#[40]⟩ ++ show1 nm t.args) ++ ⟨#[32, 45, 62, 32]⟩) ++ show2 nm t.args) ++ ⟨#[41]⟩
    else if t.kind = 6 ∧ t.args.length = 1 then (⟨#[40]⟩ ++ show1 nm t.args) ++ ⟨#[32, 114, 101, 102, 41]⟩
    else if t.kind = 1 then ⟨#[105, 110, 116]⟩
    else if t.kind = 2 then ⟨#[98, 111, 111, 108]⟩
    else if t.kind = 3 then ⟨#[117, 110, 105, 116]⟩
    else if t.kind = 4 then t.name
    else ⟨#[]⟩ := by obtain ⟨k, n, v, ar⟩ := t; rw [showF]; rfl
theorem show1_at (nm : Int → ByteArray) {l : List Ty} (h : 0 < l.length) : show1 nm l = showF nm l[0] := by
  cases l with
  | nil => simp at h
  | cons a r => simp only [show1, List.getElem_cons_zero]
theorem show2_at (nm : Int → ByteArray) {l : List Ty} (h : 1 < l.length) : show2 nm l = showF nm l[1] := by
  cases l with
  | nil => simp at h
  | cons a r => simp only [show2, List.getElem_cons_succ]; exact show1_at nm (by simpa using h)
theorem sz_at {l : List Ty} {k : Nat} (h : k < l.length) : szT l[k] + (if k = 1 then szT (l[0]'(by omega)) else 0) ≤ szL l := by
  cases l with
  | nil => simp at h
  | cons a r =>
    cases k with
    | zero => simp [szL]
    | succ k =>
      have := szL_mem (List.getElem_mem (l := r) (n := k) (by simpa using h))
      by_cases h1 : k = 0
      · subst h1; simp [szL] at this ⊢; omega
      · simp [szL] at this ⊢; rw [if_neg h1]; omega
theorem show_size (nm : Int → ByteArray) (hn : ∀ v, (nm v).size ≤ 60) : ∀ t : Ty, nmB t = true → (showF nm t).size ≤ 70 * szT t := by
  refine ty_ind fun t ih h => ?_
  rw [nmB_eq] at h
  simp only [Bool.and_eq_true, decide_eq_true_eq] at h
  have hz := szT_eq t
  rw [showF_eq]
  split
  · have := hn t.var; omega
  · split
    · rename_i h2
      have h0 := show1_at nm (l := t.args) (by omega)
      have h1 := show2_at nm (l := t.args) (by omega)
      rw [h0, h1]
      have i0 := ih _ (List.getElem_mem (l := t.args) (n := 0) (by omega)) (nmL_mem h.2 (List.getElem_mem _))
      have i1 := ih _ (List.getElem_mem (l := t.args) (n := 1) (by omega)) (nmL_mem h.2 (List.getElem_mem _))
      have hs := sz_at (l := t.args) (k := 1) (by omega)
      simp only [if_true] at hs
      simp only [ByteArray.size_append]
      simp only [ByteArray.size, Array.size, List.length_cons, List.length_nil] at i0 i1 ⊢
      omega
    · split
      · rename_i h2
        have h0 := show1_at nm (l := t.args) (by omega)
        rw [h0]
        have i0 := ih _ (List.getElem_mem (l := t.args) (n := 0) (by omega)) (nmL_mem h.2 (List.getElem_mem _))
        have hs := sz_at (l := t.args) (k := 0) (by omega)
        simp only [ByteArray.size_append]
        simp only [ByteArray.size, Array.size, List.length_cons, List.length_nil] at i0 ⊢
        simp at hs
        omega
      · repeat' split
        all_goals first | (simp only [ByteArray.size, Array.size, List.length_cons, List.length_nil]; omega) | omega
end Go.Proofs.YtaacibffjmbfiaaDoor
