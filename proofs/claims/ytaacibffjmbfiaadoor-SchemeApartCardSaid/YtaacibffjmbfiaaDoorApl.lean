/-
  A closed type opened twice: plain.
-/
import Derived.Test.YtaacibffjmbfiaaDoorClo3
import Derived.Test.YtaacibffjmbfiaaDoorSho3
set_option linter.unusedSimpArgs false
set_option linter.unusedVariables false
set_option maxRecDepth 100000
namespace Go.Proofs.YtaacibffjmbfiaaDoor
open Go.Abs
theorem varsL_mem (v : Int) : ∀ (ar : List Ty), (∀ a ∈ ar, ∀ l : List Int, v ∈ varsF a l ↔ v ∈ l ∨ v ∈ varsF a []) → ∀ l : List Int, v ∈ varsL ar l ↔ v ∈ l ∨ ∃ a ∈ ar, v ∈ varsF a []
  | [], _, l => by simp [varsL]
  | a :: r, h, l => by
    simp only [varsL]
    rw [varsL_mem v r (fun b hb => h b (List.mem_cons_of_mem _ hb)) (varsF a l), h a (List.mem_cons_self ..) l]
    simp [or_assoc]
theorem vars_mem (v : Int) : ∀ t : Ty, ∀ l : List Int, v ∈ varsF t l ↔ v ∈ l ∨ v ∈ varsF t [] := by
  refine ty_ind fun t ih l => ?_
  rw [varsF_eq t l, varsF_eq t []]
  by_cases hk : t.kind = 7
  · rw [if_pos hk, if_pos hk]
    by_cases hv : t.var ∈ l
    · rw [if_pos hv]
      simp
      intro e; rw [e]; exact hv
    · rw [if_neg hv]
      simp
  · rw [if_neg hk, if_neg hk, varsL_mem v t.args ih l, varsL_mem v t.args ih []]
    simp
theorem vars_arg {v : Int} {t a : Ty} (hk : t.kind ≠ 7) (ha : a ∈ t.args) (hv : v ∈ varsF a []) : v ∈ varsF t [] := by
  rw [varsF_eq, if_neg hk, varsL_mem v t.args (fun a _ => vars_mem v a)]
  exact .inr ⟨a, ha, hv⟩
/-- Some variables as others. -/
def Ren (f : Int → Option Ty) (σ : Int → Int) : Prop := ∀ v, (f v = none ∧ σ v = v) ∨ f v = some (vTy (σ v))
theorem ren_vars {f : Int → Option Ty} {σ : Int → Int} (hf : Ren f σ) : ∀ t : Ty, ∀ l : List Int, (∀ a ∈ varsF t l, ∀ b ∈ varsF t l, σ a = σ b → a = b) → varsF (renF f t) (l.map σ) = (varsF t l).map σ := by
  refine ty_ind fun t ih l hi => ?_
  by_cases hk : t.kind = 7
  · have e : varsF (renF f t) (l.map σ) = if σ t.var ∈ l.map σ then l.map σ else l.map σ ++ [σ t.var] := by
      rw [renF_eq, if_pos hk]
      rcases hf t.var with ⟨h1, h2⟩ | h1
      · rw [h1, h2, varsF_eq, if_pos hk]
      · rw [h1]; rfl
    rw [e, varsF_eq, if_pos hk]
    rw [varsF_eq, if_pos hk] at hi
    by_cases hv : t.var ∈ l
    · rw [if_pos hv, if_pos (List.mem_map_of_mem hv)]
    · rw [if_neg hv] at hi ⊢
      rw [if_neg]
      · simp
      · intro h
        obtain ⟨u, h1, h2⟩ := List.mem_map.1 h
        have := hi u (List.mem_append_left _ h1) t.var (List.mem_append_right _ (List.mem_cons_self ..)) h2
        exact hv (this ▸ h1)
  · have e : varsF (renF f t) (l.map σ) = varsL (renL f t.args) (l.map σ) := by
      rw [renF_eq, if_neg hk, varsF_eq]
      exact if_neg hk
    rw [e, varsF_eq, if_neg hk]
    rw [varsF_eq, if_neg hk] at hi
    have key : ∀ (ar : List Ty), (∀ a ∈ ar, ∀ l : List Int, (∀ x ∈ varsF a l, ∀ y ∈ varsF a l, σ x = σ y → x = y) → varsF (renF f a) (l.map σ) = (varsF a l).map σ) →
        ∀ l : List Int, (∀ x ∈ varsL ar l, ∀ y ∈ varsL ar l, σ x = σ y → x = y) → varsL (renL f ar) (l.map σ) = (varsL ar l).map σ := by
      intro ar
      induction ar with
      | nil => intro _ l _; rfl
      | cons a r ihr =>
        intro h l hl
        simp only [renL, varsL] at hl ⊢
        have hm : ∀ x ∈ varsF a l, x ∈ varsL r (varsF a l) := fun x hx => (varsL_mem x r (fun b _ => vars_mem x b) _).2 (.inl hx)
        rw [h a (List.mem_cons_self ..) l (fun x hx y hy => hl x (hm x hx) y (hm y hy))]
        exact ihr (fun b hb => h b (List.mem_cons_of_mem _ hb)) _ hl
    exact key t.args ih l hi
theorem showF_mk (nm : Int → ByteArray) (k : Int) (n : ByteArray) (v : Int) (ar : List Ty) : showF nm (.mk k n v ar) = if k = 7 then nm v
    else if k = 5 ∧ ar.length = 2 then (((⟨#[40]⟩ ++ show1 nm ar) ++ ⟨#[32, 45, 62, 32]⟩) ++ show2 nm ar) ++ ⟨#[41]⟩
    else if k = 6 ∧ ar.length = 1 then (⟨#[40]⟩ ++ show1 nm ar) ++ ⟨#[32, 114, 101, 102, 41]⟩
    else if k = 1 then ⟨#[105, 110, 116]⟩
    else if k = 2 then ⟨#[98, 111, 111, 108]⟩
    else if k = 3 then ⟨#[117, 110, 105, 116]⟩
    else if k = 4 then n
    else ⟨#[]⟩ := by rw [showF]
theorem idx_ne {z v : Int} (r : List Int) (h : z ≠ v) : (z :: r).idxOf v = r.idxOf v + 1 := by
  have : (z == v) = false := by simpa using h
  rw [List.idxOf_cons, this]; rfl
theorem ren_show {f : Int → Option Ty} {σ : Int → Int} (hf : Ren f σ) (nm nm' : Int → ByteArray) : ∀ t : Ty, (∀ v ∈ varsF t [], nm' (σ v) = nm v) → showF nm' (renF f t) = showF nm t := by
  refine ty_ind fun t ih h => ?_
  by_cases hk : t.kind = 7
  · have hv : t.var ∈ varsF t [] := by rw [varsF_eq, if_pos hk]; simp
    rw [renF_eq, if_pos hk, showF_eq nm t, if_pos hk]
    rcases hf t.var with ⟨h1, h2⟩ | h1
    · rw [h1, showF_eq, if_pos hk, ← h2]
      rw [h2]
      have := h t.var hv
      rw [h2] at this
      exact this
    · rw [h1]
      exact h t.var hv
  · have e : showF nm' (renF f t) = showF nm' (.mk t.kind t.name t.var (renL f t.args)) := by rw [renF_eq, if_neg hk]
    rw [e, showF_mk, showF_eq nm t, renL_len, if_neg hk, if_neg hk]
    have ha : ∀ a ∈ t.args, showF nm' (renF f a) = showF nm a := fun a hm => ih a hm fun v hv => h v (vars_arg hk hm hv)
    have h1 : show1 nm' (renL f t.args) = show1 nm t.args := by
      cases hl : t.args with
      | nil => rfl
      | cons a r =>
        simp only [renL, show1]
        exact ha a (by rw [hl]; exact List.mem_cons_self ..)
    have h2 : show2 nm' (renL f t.args) = show2 nm t.args := by
      cases hl : t.args with
      | nil => rfl
      | cons a r =>
        cases r with
        | nil => rfl
        | cons b q =>
          simp only [renL, show2, show1]
          exact ha b (by rw [hl]; exact List.mem_cons_of_mem _ (List.mem_cons_self ..))
    rw [h1, h2]
theorem takeF_m : ∀ (l : List Int) (n : Int) (a : List (Int × Int)), n + l.length ≤ 1999 → (takeF l n a).2 = n + l.length
  | [], n, a, h => by simp [takeF]
  | v :: r, n, a, h => by
    simp only [List.length_cons] at h
    have h1 : nextF n = n + 1 := by unfold nextF; rw [if_neg (by omega)]
    simp only [takeF, h1]
    rw [takeF_m r _ _ (by omega)]
    simp only [List.length_cons]
    omega
theorem find_setI (c k x : Int) (es : List (Int × Int)) : findI c (setI k x es) = if c = k then some x else findI c es := find_set c k x es
theorem takeF_find : ∀ (A : List Int) (n : Int) (a : List (Int × Int)) (v : Int), A.Nodup → n + A.length ≤ 1999 → findI v (takeF A n a).1 = if v ∈ A then some (n + A.idxOf v) else findI v a
  | [], n, a, v, _, _ => by simp [takeF]
  | z :: r, n, a, v, hd, hl => by
    rw [List.nodup_cons] at hd
    simp only [List.length_cons] at hl
    have h1 : nextF n = n + 1 := by unfold nextF; rw [if_neg (by omega)]
    simp only [takeF, h1]
    rw [takeF_find r _ _ v hd.2 (by omega), find_setI]
    by_cases hz : v = z
    · subst hz
      rw [if_neg hd.1, if_pos rfl, if_pos (List.mem_cons_self ..)]
      simp
    · by_cases hr : v ∈ r
      · rw [if_pos hr, if_pos (List.mem_cons_of_mem _ hr), idx_ne _ (fun e => hz e.symm)]
        simp only [Option.some.injEq]
        omega
      · rw [if_neg hr, if_neg hz, if_neg (by simp [hz, hr])]
def sig (A : List Int) (n : Int) (v : Int) : Int := if v ∈ A then n + A.idxOf v else v
theorem sig_ren (A : List Int) (n : Int) (hd : A.Nodup) (hl : n + A.length ≤ 1999) : Ren (ofK (takeF A n []).1) (sig A n) := by
  intro v
  unfold ofK sig
  rw [takeF_find A n [] v hd hl]
  by_cases h : v ∈ A
  · rw [if_pos h, if_pos h]; exact .inr rfl
  · rw [if_neg h, if_neg h]; exact .inl ⟨rfl, rfl⟩
theorem sig_inj (A : List Int) (n : Int) {D : Int → Prop} (hD : ∀ v, D v → v < n) {a b : Int} (ha : D a) (hb : D b) (h : sig A n a = sig A n b) : a = b := by
  have h1 := hD a ha
  have h2 := hD b hb
  unfold sig at h
  by_cases ma : a ∈ A
  · rw [if_pos ma] at h
    by_cases mb : b ∈ A
    · rw [if_pos mb] at h
      have e : A.idxOf a = A.idxOf b := by omega
      have l1 := List.idxOf_lt_length_iff.2 ma
      have l2 := List.idxOf_lt_length_iff.2 mb
      have g1 := List.getElem_idxOf l1
      have g2 := List.getElem_idxOf l2
      rw [← g1, ← g2]
      simp only [e]
    · rw [if_neg mb] at h; omega
  · rw [if_neg ma] at h
    by_cases mb : b ∈ A
    · rw [if_pos mb] at h; omega
    · rw [if_neg mb] at h; exact h
theorem idxOf_map {σ : Int → Int} : ∀ (l : List Int) (v : Int), (∀ a ∈ v :: l, ∀ b ∈ v :: l, σ a = σ b → a = b) → (l.map σ).idxOf (σ v) = l.idxOf v
  | [], v, _ => rfl
  | z :: r, v, h => by
    have ih := idxOf_map r v (fun a ha b hb => h a (by rcases List.mem_cons.1 ha with rfl | ha <;> simp [*]) b (by rcases List.mem_cons.1 hb with rfl | hb <;> simp [*]))
    rw [List.map_cons]
    by_cases hz : z = v
    · subst hz; simp
    · have hs : σ z ≠ σ v := fun e => hz (h z (by simp) v (by simp) e)
      rw [idx_ne _ hs, idx_ne _ hz, ih]
theorem shown_ren {f : Int → Option Ty} {σ : Int → Int} (hf : Ren f σ) (t : Ty) (hi : ∀ a ∈ varsF t [], ∀ b ∈ varsF t [], σ a = σ b → a = b) : shownF (renF f t) = shownF t := by
  unfold shownF
  have hv := ren_vars hf t [] hi
  rw [List.map_nil] at hv
  rw [hv]
  refine ren_show hf _ _ t fun v hm => ?_
  unfold nmF
  rw [if_pos hm, if_pos (List.mem_map_of_mem hm), idxOf_map]
  intro a ha b hb
  have mm : ∀ x ∈ v :: varsF t [], x ∈ varsF t [] := fun x hx => by
    rcases List.mem_cons.1 hx with rfl | hx
    · exact hm
    · exact hx
  exact hi a (mm a ha) b (mm b hb)
/-- What a scheme closed is: sorted, each once. -/
theorem close_mem (es : List SchV) (t : Ty) (v : Int) : v ∈ closeF es t ↔ v ∈ varsF t [] ∧ heldF es v = false := by
  unfold closeF
  rw [(sortI_perm _).mem_iff, List.mem_filter]
  simp
theorem close_nodup (es : List SchV) (t : Ty) : (closeF es t).Nodup := by
  unfold closeF
  rw [(sortI_perm _).nodup_iff]
  exact (vars_nodup t [] List.nodup_nil).filter _
theorem close_good (es : List SchV) (t : Ty) : GoodAll (varsF t []) (closeF es t) := by
  intro k hk
  refine ⟨((close_mem es t _).1 (List.getElem_mem hk)).1, fun h0 => ?_⟩
  have hs : (closeF es t).Pairwise (· ≤ ·) := sortI_sorted _
  have h1 := (List.pairwise_iff_getElem.1 hs) (k - 1) k (by omega) hk (by omega)
  have h2 : (closeF es t)[k - 1] ≠ (closeF es t)[k] := by
    intro e
    have := (List.getElem_inj (close_nodup es t)).1 e
    omega
  omega
theorem close_len (es : List SchV) (t : Ty) : (closeF es t).length ≤ (varsF t []).length := by
  unfold closeF
  rw [sortI_len]
  exact List.length_filter_le _ _
end Go.Proofs.YtaacibffjmbfiaaDoor
