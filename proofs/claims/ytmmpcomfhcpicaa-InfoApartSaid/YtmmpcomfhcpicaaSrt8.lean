/-
  Chapter 16's law InfoApart: what holds of names and lines, plain.
-/
import Derived.Test.YtmmpcomfhcpicaaSrt7
set_option linter.unusedSimpArgs false
set_option linter.unusedVariables false
set_option maxRecDepth 100000
namespace Go.Proofs.Ytmmpcomfhcpicaa
open Go.Abs
open Go.Shelf Go Go.Sort Go.RowKit
theorem srtV_sorted (xs : List VarV) (i j : Nat) (hi : i < (srtV xs).length) (hj : j < (srtV xs).length) (hij : i < j) : ltOf cmpV (srtV xs)[j] (srtV xs)[i] = false := by
  have h := (pdq_sorts (ltOf cmpV) swoV xs.toArray 0 xs.toArray.size (Lib.bitLen xs.toArray.size) true true (Nat.zero_le _) (Nat.le_refl _) (Or.inl rfl)).2
  rw [← srtV_eq] at h
  have hl := srtV_len xs
  have h2 := h i j (Nat.zero_le _) hij (by simp; omega)
  rw [getElem!_pos _ _ (by simpa using hj), getElem!_pos _ _ (by simpa using hi)] at h2
  simpa using h2
theorem names_ne {pc : Int} {l : List VarV} (hs : ∀ i j (hi : i < l.length) (hj : j < l.length), i < j → ltOf cmpV l[j] l[i] = false) (hg : GoodSorted l) (i j : Nat) (hi : i < l.length) (hj : j < l.length) (hij : i < j) (h1 : inS pc l[i] = true) (h2 : inS pc l[j] = true) : l[i].name.data.toList ≠ l[j].name.data.toList := by
  intro e
  have hi1 : i + 1 < l.length := by omega
  simp only [inS, Bool.and_eq_true, decide_eq_true_eq] at h1 h2
  have g := (hg (i + 1) hi1).2 (by omega)
  simp only [Nat.add_sub_cancel] at g
  have nlt : ∀ a b (ha : a < l.length) (hb : b < l.length), a < b → ¬ (l[b].name.data.toList < l[a].name.data.toList) ∧ ¬ (l[b].name.data.toList = l[a].name.data.toList ∧ l[b].frm < l[a].frm) := fun a b ha hb hab => by
    have h := hs a b ha hb hab
    rw [← Bool.not_eq_true, ltV_iff] at h
    exact ⟨fun q => h (.inl q), fun q => h (.inr q)⟩
  have q1 := (nlt i (i + 1) hi hi1 (by omega)).1
  have en : l[i].name.data.toList = l[i + 1].name.data.toList := by
    by_cases hj1 : i + 1 = j
    · subst hj1; exact e
    · have q2 := (nlt (i + 1) j hi1 hj (by omega)).1
      rcases tri l[i].name.data.toList l[i + 1].name.data.toList with a | a | a
      · rw [e] at a; exact absurd a q2
      · exact a
      · exact absurd a q1
  have en2 : l[i].name.toList = l[i + 1].name.toList := by rw [ByteArray.toList_eq, ByteArray.toList_eq]; exact en
  have g1 : ¬ l[i + 1].frm < l[i].to := fun q => g ⟨en2, q⟩
  by_cases hj1 : i + 1 = j
  · subst hj1; omega
  · have q3 := (nlt (i + 1) j hi1 hj (by omega)).2
    have : ¬ l[j].frm < l[i + 1].frm := fun q => q3 ⟨by rw [← e, en], q⟩
    omega
/-- The names at a place, in order: each once. -/
theorem names_strict {pc : Int} {vs C : List VarV} (hg : GoodSorted (srtV vs)) (hp : C.Perm (vs.filter (inS pc))) (hs : SortedV C) : C.Pairwise ltN := by
  have h1 : (srtV vs).Pairwise fun a b => inS pc a = true → inS pc b = true → a.name.data.toList ≠ b.name.data.toList := by
    rw [List.pairwise_iff_getElem]
    intro i j hi hj hij a b
    exact names_ne (srtV_sorted vs) hg i j hi hj hij a b
  have h2 : ((srtV vs).filter (inS pc)).Pairwise fun a b => a.name.data.toList ≠ b.name.data.toList := List.pairwise_filter.2 h1
  have h3 : C.Pairwise fun a b => a.name.data.toList ≠ b.name.data.toList :=
    (List.Perm.pairwise_iff (fun {a b} h e => h e.symm) (hp.trans ((srtV_perm vs).filter _).symm)).2 h2
  refine (hs.and h3).imp fun {a b} ⟨q1, q2⟩ => ?_
  unfold ltN at *
  rcases tri a.name.data.toList b.name.data.toList with h | h | h
  · exact h
  · exact absurd h q2
  · exact absurd h q1
theorem names_in {pc : Int} {vs C : List VarV} (hp : C.Perm (vs.filter (inS pc))) {v : VarV} (hv : v ∈ C) : v.frm ≤ pc ∧ pc < v.to := by
  have h := (List.mem_filter.1 (hp.mem_iff.1 hv)).2
  simpa [inS] using h
/-! Lines. -/
theorem filter_or {α : Type} (p q : α → Bool) (h : ∀ x, p x = true → q x = false) : ∀ l : List α, (l.filter fun x => p x || q x).length = (l.filter p).length + (l.filter q).length
  | [] => rfl
  | x :: r => by
    have ih := filter_or p q h r
    rw [List.filter_cons, List.filter_cons, List.filter_cons]
    cases hp : p x with
    | true =>
      have hq := h x hp
      simp only [hq, Bool.or_false, if_true, List.length_cons, Bool.false_eq_true, if_false]
      omega
    | false =>
      cases hq : q x with
      | true => simp only [Bool.or_true, if_true, List.length_cons, Bool.false_eq_true, if_false]; omega
      | false => simp only [Bool.or_false, Bool.false_eq_true, if_false]; omega
/-- How many stops have a line of the first k's. -/
def cov (ss : List StopV) (k : Nat) : Nat := (ss.filter fun s => decide (s.line ∈ (ss.take k).map (·.line))).length
theorem take_map {ss : List StopV} {k : Nat} (hk : k < ss.length) : (ss.take (k + 1)).map (·.line) = (ss.take k).map (·.line) ++ [ss[k].line] := by
  rw [List.take_add_one, List.getElem?_eq_getElem hk, List.map_append]
  rfl
theorem cov_old {ss : List StopV} {k : Nat} (hk : k < ss.length) (h : ss[k].line ∈ (ss.take k).map (·.line)) : cov ss (k + 1) = cov ss k := by
  unfold cov
  congr 1
  apply List.filter_congr
  intro s _
  rw [take_map hk, Bool.eq_iff_iff]
  simp only [decide_eq_true_eq, List.mem_append, List.mem_singleton]
  refine ⟨fun q => q.elim id fun e => ?_, .inl⟩
  rw [e]; exact h
theorem cov_new {ss : List StopV} {k : Nat} (hk : k < ss.length) (h : ss[k].line ∉ (ss.take k).map (·.line)) : cov ss (k + 1) = cov ss k + (onL ss[k].line ss).length := by
  have e := filter_or (fun s : StopV => decide (s.line ∈ (ss.take k).map (·.line))) (fun s : StopV => s.line == ss[k].line) (fun s hs => by
    simp only [decide_eq_true_eq] at hs
    simp only [beq_eq_false_iff_ne]
    intro q
    rw [q] at hs
    exact h hs) ss
  unfold cov
  rw [onL, List.length_map, ← e]
  congr 1
  apply List.filter_congr
  intro s _
  rw [take_map hk, Bool.eq_iff_iff]
  simp only [decide_eq_true_eq, List.mem_append, List.mem_singleton, Bool.or_eq_true, beq_iff_eq]
theorem cov_all (ss : List StopV) : cov ss ss.length = ss.length := by
  unfold cov
  rw [List.take_length, List.filter_eq_self.2]
  intro s hs
  simp only [decide_eq_true_eq]
  exact List.mem_map_of_mem hs
theorem cov_le (ss : List StopV) (k : Nat) : cov ss k ≤ ss.length := List.length_filter_le _ _
/-! Strings held against each other. -/
theorem bytesLess_lt : ∀ a b : List UInt8, Go.Op.bytesLess a b = decide (a < b)
  | [], [] => by simp [Go.Op.bytesLess]
  | [], _ :: _ => by simp [Go.Op.bytesLess]
  | _ :: _, [] => by simp [Go.Op.bytesLess]
  | x :: a, y :: b => by
    rw [Go.Op.bytesLess, bytesLess_lt a b, Bool.eq_iff_iff]
    simp [List.cons_lt_cons_iff]
theorem geq_str (t : TypeId) (x y : Operand) (a b : ByteArray) (S : St) : binGen E .geq t x y (.sc (.string a)) (.sc (.string b)) S = some (.sc (.bool (!Go.Op.bytesLess a.toList b.toList)), S) := rfl
theorem geq_lt {x y : VarV} (h : ltN x y) : Go.Op.bytesLess x.name.toList y.name.toList = true := by
  rw [bytesLess_lt, ByteArray.toList_eq, ByteArray.toList_eq, decide_eq_true_eq]
  exact h
/-! The lines that a map holds. -/
def HeldM (kvs : List (Int × AV)) (P : Int → Prop) : Prop := ∀ v, (P v → findM v kvs = some (.sc (.bool true))) ∧ (¬ P v → findM v kvs = none)
theorem HeldM.set {kvs : List (Int × AV)} {P : Int → Prop} (h : HeldM kvs P) (z : Int) : HeldM (setM z (.sc (.bool true)) kvs) fun v => P v ∨ v = z := by
  intro v
  rw [findM_set]
  by_cases hv : v = z
  · rw [if_pos hv]
    exact ⟨fun _ => rfl, fun hn => absurd (.inr hv) hn⟩
  · rw [if_neg hv]
    refine ⟨fun hp => ?_, fun hn => (h v).2 fun hp => hn (.inl hp)⟩
    rcases hp with hp | hp
    · exact (h v).1 hp
    · exact absurd hp hv
theorem HeldM.congr {kvs : List (Int × AV)} {P Q : Int → Prop} (h : HeldM kvs P) (e : ∀ v, P v ↔ Q v) : HeldM kvs Q := fun v => ⟨fun hq => (h v).1 ((e v).2 hq), fun hn => (h v).2 fun hp => hn ((e v).1 hp)⟩
theorem look61 {l : Nat} {kvs : List (Int × AV)} {S : St} (h : S.IsMp l kvs) (k : Int) : lookupA E 61 (.mp l) (.sc (.int .i64 k)) false S = some ((findM k kvs).getD (.sc (.bool false)), S) :=
  mapV_lookup1 (t := 61) (kt := 3) (et := 4) (by kernel_rfl) (by kernel_rfl) (by kernel_rfl) h k
theorem upd61 {l : Nat} {kvs : List (Int × AV)} {S : St} (h : S.IsMp l kvs) (k : Int) (x : AV) : mapUpdateA E 61 (.mp l) (.sc (.int .i64 k)) x S = some (passed, S.put l (.mp (mapVs (setM k x kvs)))) :=
  mapV_update (t := 61) (kt := 3) (et := 4) (by kernel_rfl) (by kernel_rfl) h k x
end Go.Proofs.Ytmmpcomfhcpicaa
