/-
  The document's own table and package info's, plain: which may be; names; lines.
-/
import Derived.Test.YtmmpcomfhcpicaaRef7
import Derived.Test.YtmmpcomfhcpicaaRef6
import Derived.Test.YtmmpcomfhcpicaaSrt8
set_option linter.unusedSimpArgs false
set_option linter.unusedVariables false
set_option maxRecDepth 100000
namespace Go.Proofs.Ytmmpcomfhcpicaa
open Go.Abs
theorem clash_symm {o v : VarV} (h : clash o v) : clash v o := ⟨h.1.symm, h.2.2, h.2.1⟩
theorem sorted_clash {l : List VarV} (hs : ∀ i j (hi : i < l.length) (hj : j < l.length), i < j → ltOf cmpV l[j] l[i] = false) (hb : ∀ k (h : k < l.length), varB l[k] = true) :
    (∀ k (h : k < l.length), 0 < k → ¬ (l[k - 1].name.toList = l[k].name.toList ∧ l[k].frm < l[k - 1].to)) ↔ ∀ i j (hi : i < l.length) (hj : j < l.length), i < j → ¬ clash l[i] l[j] := by
  have nlt : ∀ a b (ha : a < l.length) (hb : b < l.length), a < b → ¬ (l[b].name.data.toList < l[a].name.data.toList) ∧ ¬ (l[b].name.data.toList = l[a].name.data.toList ∧ l[b].frm < l[a].frm) := fun a b ha hb hab => by
    have h := hs a b ha hb hab
    rw [← Bool.not_eq_true, ltV_iff] at h
    exact ⟨fun q => h (.inl q), fun q => h (.inr q)⟩
  constructor
  · intro hg i j hi hj hij hc
    obtain ⟨e0, c1, c2⟩ := hc
    have e : l[i].name.data.toList = l[j].name.data.toList := by rw [← ByteArray.toList_eq, ← ByteArray.toList_eq]; exact e0
    have hi1 : i + 1 < l.length := by omega
    have g := hg (i + 1) hi1 (by omega)
    simp only [Nat.add_sub_cancel] at g
    have q1 := (nlt i (i + 1) hi hi1 (by omega)).1
    have en : l[i].name.data.toList = l[i + 1].name.data.toList := by
      by_cases hj1 : i + 1 = j
      · subst hj1; exact e
      · have q2 := (nlt (i + 1) j hi1 hj (by omega)).1
        rcases tri l[i].name.data.toList l[i + 1].name.data.toList with a | a | a
        · rw [e] at a; exact absurd a q2
        · exact a
        · exact absurd a q1
    have en2 : l[i].name.toList = l[i + 1].name.toList := by rw [ByteArray.toList_eq, ByteArray.toList_eq]; exact en
    have g1 : ¬ l[i + 1].frm < l[i].to := fun q => g ⟨en2, q⟩
    by_cases hj1 : i + 1 = j
    · subst hj1; omega
    · have q3 := (nlt (i + 1) j hi1 hj (by omega)).2
      have : ¬ l[j].frm < l[i + 1].frm := fun q => q3 ⟨by rw [← e, en], q⟩
      omega
  · rintro hg k hk h0 ⟨e, c⟩
    have e1 : l[k].name.data.toList = l[k - 1].name.data.toList := by rw [← ByteArray.toList_eq, ← ByteArray.toList_eq]; exact e.symm
    have q := (nlt (k - 1) k (by omega) hk (by omega)).2
    have h2 : ¬ l[k].frm < l[k - 1].frm := fun h => q ⟨e1, h⟩
    have h3 := hb k hk
    simp only [varB, Bool.and_eq_true, decide_eq_true_eq] at h3
    exact hg (k - 1) k (by omega) hk (by omega) ⟨e, by omega, c⟩
theorem goodV (vs : List VarV) : GoodSorted (srtV vs) ↔ ∀ k (h : k < vs.length), varB vs[k] = true ∧ ∀ j (hj : j < k), ¬ clash vs[j] vs[k] := by
  have hp := srtV_perm vs
  have hall : (∀ k (h : k < (srtV vs).length), varB (srtV vs)[k] = true) ↔ ∀ v ∈ vs, varB v = true := by
    constructor
    · intro h v hv
      obtain ⟨k, hk, rfl⟩ := List.getElem_of_mem (hp.mem_iff.2 hv)
      exact h k hk
    · intro h k hk
      exact h _ (hp.mem_iff.1 (List.getElem_mem hk))
  have hpw : (srtV vs).Pairwise (fun a b => ¬ clash a b) ↔ vs.Pairwise (fun a b => ¬ clash a b) := List.Perm.pairwise_iff (fun {a b} h e => h (clash_symm e)) hp
  constructor
  · intro hg
    have hb : ∀ k (h : k < (srtV vs).length), varB (srtV vs)[k] = true := fun k h => (hg k h).1
    have h1 := (sorted_clash (srtV_sorted vs) hb).1 fun k h => (hg k h).2
    have h2 := hpw.1 (List.pairwise_iff_getElem.2 fun i j hi hj hij => h1 i j hi hj hij)
    exact fun k h => ⟨hall.1 hb _ (List.getElem_mem h), fun j hj => List.pairwise_iff_getElem.1 h2 j k (by omega) h hj⟩
  · intro hg
    have hb := hall.2 fun v hv => by
      obtain ⟨k, hk, rfl⟩ := List.getElem_of_mem hv
      exact (hg k hk).1
    have h2 := hpw.2 (List.pairwise_iff_getElem.2 fun i j hi hj hij => (hg j hj).2 i hij)
    have h1 := (sorted_clash (srtV_sorted vs) hb).2 fun i j hi hj hij => List.pairwise_iff_getElem.1 h2 i j hi hj hij
    exact fun k h => ⟨hb k h, h1 k h⟩
theorem goodTQ (ss : List StopV) (vs : List VarV) : GoodT ss vs ↔ GoodQ ss vs := by
  constructor
  · rintro ⟨⟨h1, h2⟩, h3, h4⟩
    exact ⟨h2, h3, h1, (goodV vs).1 h4⟩
  · rintro ⟨h1, h2, h3, h4⟩
    exact ⟨⟨h3, h1⟩, h2, (goodV vs).2 h4⟩
/-! Names. -/
theorem ltB_iff (w v : VarV) : ltB w v = true ↔ ltN w v := by
  rw [ltB, bytesLess_lt, ByteArray.toList_eq, ByteArray.toList_eq, decide_eq_true_eq]
  rfl
theorem insV_perm (v : VarV) (l : List VarV) : (insV v l).Perm (v :: l) := by
  have h : (l.takeWhile (ltB · v) ++ l.dropWhile (ltB · v)).Perm l := by rw [List.takeWhile_append_dropWhile]
  exact List.perm_middle.trans (h.cons v)
theorem insV_sorted (v : VarV) : ∀ (l : List VarV), SortedV l → SortedV (insV v l)
  | [], _ => sorted_one v
  | a :: r, h => by
    obtain ⟨h1, h2⟩ := sorted_cons.1 h
    cases e : ltB a v with
    | true =>
      have e2 : insV v (a :: r) = a :: insV v r := by simp [insV, e]
      rw [e2]
      refine sorted_cons.2 ⟨fun y hy => ?_, insV_sorted v r h2⟩
      rcases List.mem_cons.1 ((insV_perm v r).mem_iff.1 hy) with rfl | hy
      · exact lt_le ((ltB_iff _ _).1 e)
      · exact h1 y hy
    | false =>
      have e2 : insV v (a :: r) = v :: a :: r := by simp [insV, e]
      have e3 : ¬ ltN a v := fun q => by rw [(ltB_iff _ _).2 q] at e; cases e
      rw [e2]
      refine sorted_cons.2 ⟨fun y hy => ?_, h⟩
      rcases List.mem_cons.1 hy with rfl | hy
      · exact e3
      · exact le_trans e3 (h1 y hy)
theorem namesQ_ok (pc : Int) (vs : List VarV) : (namesQ pc vs).Perm (vs.filter (inS pc)) ∧ SortedV (namesQ pc vs) := by
  have key : ∀ (l acc : List VarV), SortedV acc → (l.foldl (fun l v => insV v l) acc).Perm (acc ++ l) ∧ SortedV (l.foldl (fun l v => insV v l) acc) := by
    intro l
    induction l with
    | nil => intro acc h; simp [h]
    | cons v r ih =>
      intro acc h
      rw [List.foldl_cons]
      obtain ⟨h1, h2⟩ := ih (insV v acc) (insV_sorted v acc h)
      refine ⟨h1.trans ?_, h2⟩
      exact ((insV_perm v acc).append_right r).trans List.perm_middle.symm
  exact key _ [] sorted_nil
theorem namesQ_eq {pc : Int} {vs C : List VarV} (hg : GoodSorted (srtV vs)) (hp : C.Perm (vs.filter (inS pc))) (hs : SortedV C) : namesQ pc vs = C := by
  obtain ⟨q1, q2⟩ := namesQ_ok pc vs
  have h1 := names_strict hg hp hs
  have h2 := names_strict hg q1 q2
  exact List.Perm.eq_of_pairwise (le := ltN) (fun a b _ _ h h' => absurd h' (lt_le h)) h2 h1 (q1.trans hp.symm)
/-! Lines. -/
theorem stops_up {ss : List StopV} (h : GoodStops ss) : ss.Pairwise fun a b => a.pc < b.pc := by
  rw [List.pairwise_iff_getElem]
  intro i j hi hj hij
  induction j with
  | zero => omega
  | succ j ih =>
    have h1 := (h.1 (j + 1) hj).2 (by omega)
    simp only [Nat.add_sub_cancel] at h1
    by_cases e : i = j
    · subst e; exact h1
    · have := ih (by omega) (by omega)
      omega
theorem onL_sorted {ss : List StopV} (h : GoodStops ss) (ln : Int) : sortI (onL ln ss) = onL ln ss := by
  have h1 : (onL ln ss).Pairwise (· < ·) := by
    rw [onL, List.pairwise_map]
    exact (stops_up h).filter _
  exact List.Perm.eq_of_pairwise (le := fun a b : Int => a ≤ b) (fun a b _ _ h1 h2 => Int.le_antisymm h1 h2) (sortI_sorted _) (h1.imp fun h => Int.le_of_lt h) (sortI_perm _)
end Go.Proofs.Ytmmpcomfhcpicaa
