/-
  The library's tables of letters as the evaluator holds them; contracts of functions of plain values.
-/
import Derived.Test.YtpcgbkjdobjdaaaGreatDoorAbsM
import Derived.Lib.LaidRTab
import Derived.Shelf.Unicode.PredsAny
import Derived.Shelf.Unicode.DecodeAny
set_option linter.unusedSimpArgs false
set_option linter.unusedVariables false
set_option maxRecDepth 100000
namespace Go.Abs
open Go.RowKit Go.Lib
noncomputable section
/-- Ranges, by value. -/
def rgA (k : IntKind) (l : List Rg) : List AV := l.map fun x => .agg [.sc (.int k x.1), .sc (.int k x.2.1), .sc (.int k x.2.2)]
def rgC (k : IntKind) (l : List Rg) : List AV := l.flatMap fun x => [.sc (.int k x.1), .sc (.int k x.2.1), .sc (.int k x.2.2)]
theorem rg_flat (k : IntKind) : ∀ l : List Rg, flat? 3 (rgA k l) = some (rgC k l)
  | [] => rfl
  | x :: l => flat_mk (cs := [.sc (.int k x.1), .sc (.int k x.2.1), .sc (.int k x.2.2)]) rfl (rg_flat k l) rfl rfl
theorem rgC_len (k : IntKind) : ∀ l : List Rg, (rgC k l).length = l.length * 3
  | [] => rfl
  | x :: l => by
    have := rgC_len k l
    simp only [rgC, List.flatMap_cons, List.length_append, List.length_cons, List.length_nil] at this ⊢
    omega
theorem rgC_at (k : IntKind) : ∀ (l : List Rg) (i : Nat) (x : Rg), l[i]? = some x → (rgC k l)[i * 3]? = some (.sc (.int k x.1)) ∧ (rgC k l)[i * 3 + 1]? = some (.sc (.int k x.2.1)) ∧ (rgC k l)[i * 3 + 2]? = some (.sc (.int k x.2.2))
  | [], i, x, h => by simp at h
  | y :: l, 0, x, h => by
    simp at h; subst h
    simp [rgC]
  | y :: l, i + 1, x, h => by
    have := rgC_at k l i x (by simpa using h)
    have e : ∀ j, (i + 1) * 3 + j = (i * 3 + j) + 3 := fun j => by omega
    have e0 : (i + 1) * 3 = i * 3 + 3 := by omega
    simp only [rgC, List.flatMap_cons] at this ⊢
    rw [e 1, e 2, e0]
    simpa using this
/-- A table of ranges, as a variable holds it. -/
def rtabA (T : RTab) : AV := .eptr [.vec 0 3 (rgA .u16 T.r16.toList), .vec 0 3 (rgA .u32 T.r32.toList), .sc (.int .i64 T.off)] 0
theorem rg_of_vec {C : Ctx} {w : World} {k : IntKind} {T : Array Rg} {v : Value} (h : VR C w (.vec 0 3 (rgA k T.toList)) v) :
    ∃ (a : Option Addr) (R o c : Nat), v = .slice a T.size c ∧ (0 < T.size → a = some ⟨R, o, none⟩) ∧ RgTab k R o T w ∧ T.size ≤ c := by
  have hlen : (rgA k T.toList).length = T.size := by simp [rgA]
  rcases h.vec_inv with ⟨_, h0, a, cap, rfl⟩ | ⟨fl, b, o, cap, rfl, hv⟩
  · have h0 : T.size = 0 := by rw [← hlen, h0]; rfl
    refine ⟨some a, 0, 0, cap, by rw [h0], fun h => by omega, fun i hi => by omega, by omega⟩
  · obtain ⟨u, hc, hr⟩ := hv.seg.fun
    have hfl := hv.flat
    rw [rg_flat] at hfl
    have hfl := (Option.some.inj hfl).symm
    subst hfl
    refine ⟨_, b, o, cap, by rw [hlen], fun _ => rfl, fun i hi => ?_, by rw [← hlen]; exact hv.lc⟩
    have hx : T.toList[i]? = some (T.getD i (0, 0, 0)) := by simp [Array.getD, hi]
    obtain ⟨k0, k1, k2⟩ := rgC_at k T.toList i _ hx
    have at_ : ∀ (j : Nat) (y : Value), (rgC k T.toList)[j]? = some (.sc y) → w.cell? ⟨b, o + j, none⟩ = some y := fun j y hj => by
      have h1 := hr j _ hj
      rw [hc j (List.getElem?_eq_some_iff.1 hj).1, h1.sc_inv]
    refine ⟨at_ _ _ k0, ?_, ?_⟩
    · rw [Nat.add_assoc]; exact at_ _ _ k1
    · rw [Nat.add_assoc]; exact at_ _ _ k2
/-- What the evaluator holds of a table is one. -/
theorem rtab_of {C : Ctx} {w : World} {T : RTab} {v : Value} (h : VR C w (rtabA T) v) : ∃ Tb oT, v = .pointer (some ⟨Tb, oT, none⟩) ∧ RTabAt Tb oT T w := by
  unfold rtabA at h
  cases h with
  | eptr _ _ b' o' u' hb' hf' ht' hc' hr' =>
  have d0 := hc' 0 (by simp)
  have d1 := hc' 1 (by simp)
  have d2 := hc' 2 (by simp)
  obtain ⟨a16, R16, o16, c16, e16, ha16, t16, h16⟩ := rg_of_vec (hr' 0 _ rfl)
  obtain ⟨a32, R32, o32, c32, e32, ha32, t32, h32⟩ := rg_of_vec (hr' 1 _ rfl)
  have e2 := (hr' 2 _ rfl).sc_inv
  rw [e16] at d0
  rw [e32] at d1
  rw [e2] at d2
  exact ⟨b', o', rfl, a16, a32, R16, o16, c16, R32, o32, c32, by simpa using d0, d1, d2, ha16, ha32, t16, t32, h16⟩
/-- Cells that are there, at the beginning. -/
theorem top_C0 {w : World} {b i : Nat} {v : Value} (h : w.cell? ⟨b, i, none⟩ = some v) : b < w.heap.size ∧ i < (C0 w).top b := by
  unfold World.cell? at h
  split at h
  · rename_i c T fz hh
    have h : c[i]? = some v := by simpa using h
    refine ⟨(Array.getElem?_eq_some_iff.1 hh).1, ?_⟩
    show i < (match w.heap[b]? with | some (.cells c _ _) => c.size | _ => 0)
    rw [hh]
    exact (Array.getElem?_eq_some_iff.1 h).1
  · cases h
theorem vec_of_rg {w : World} {k : IntKind} {T : Array Rg} {R o c : Nat} (hne : 0 < T.size) (ht : RgTab k R o T w) (hc : T.size ≤ c) : VR (C0 w) w (.vec 0 3 (rgA k T.toList)) (.slice (some ⟨R, o, none⟩) T.size c) := by
  have hlen : (rgA k T.toList).length = T.size := by simp [rgA]
  have hfl : (rgC k T.toList).length = T.size * 3 := by rw [rgC_len]; simp
  have at_ : ∀ (i : Nat) (x : AV), (rgC k T.toList)[i]? = some x → ∃ v, x = .sc v ∧ w.cell? ⟨R, o + i, none⟩ = some v := fun i x hx => by
    have hi : i < T.size * 3 := by rw [← hfl]; exact (List.getElem?_eq_some_iff.1 hx).1
    obtain ⟨c0, c1, c2⟩ := ht (i / 3) (by omega)
    have hy : T.toList[i / 3]? = some (T.getD (i / 3) (0, 0, 0)) := by
      have : i / 3 < T.size := by omega
      simp [Array.getD, this]
    obtain ⟨k0, k1, k2⟩ := rgC_at k T.toList (i / 3) _ hy
    have hm : i % 3 < 3 := Nat.mod_lt _ (by omega)
    have ei : i = i / 3 * 3 + i % 3 := by omega
    rw [ei] at hx
    rw [ei]
    match hk : i % 3, hm with
    | 0, _ => rw [hk, Nat.add_zero] at hx; rw [k0] at hx; exact ⟨_, (Option.some.inj hx).symm, by rw [hk] at *; simpa using c0⟩
    | 1, _ => rw [hk] at hx; rw [k1] at hx; exact ⟨_, (Option.some.inj hx).symm, by rw [← Nat.add_assoc]; exact c1⟩
    | 2, _ => rw [hk] at hx; rw [k2] at hx; exact ⟨_, (Option.some.inj hx).symm, by rw [← Nat.add_assoc]; exact c2⟩
  have last := at_ (T.size * 3 - 1) _ (List.getElem?_eq_getElem (by omega))
  obtain ⟨v, _, hv⟩ := last
  obtain ⟨h1, h2⟩ := top_C0 hv
  rw [← hlen]
  refine .vec 0 3 _ _ R o c (fun i => (w.cell? ⟨R, o + i, none⟩).getD Go.undef) (by omega) (by rw [hlen]; exact hc) (rg_flat k _) h1 (C0.free w R) (by rw [hfl]; omega) (fun i hi => ?_) (fun i x hx => ?_) (fun h => by omega) (fun h => by omega) (fun h => by omega)
  · obtain ⟨v, _, hv⟩ := at_ i _ (List.getElem?_eq_getElem hi)
    rw [hv]; rfl
  · obtain ⟨v, rfl, hv⟩ := at_ i x hx
    rw [hv]; exact .sc _
/-- A table that a variable leads to, with the slices' capacities. -/
def RVar2 (g : Nat) (T : RTab) (w : World) : Prop := ∃ Tb oT R16 o16 c16 R32 o32 c32, w.cell? ⟨g, 0, none⟩ = some (.pointer (some ⟨Tb, oT, none⟩)) ∧
  w.cell? ⟨Tb, oT, none⟩ = some (.slice (some ⟨R16, o16, none⟩) T.r16.size c16) ∧ w.cell? ⟨Tb, oT + 1, none⟩ = some (.slice (some ⟨R32, o32, none⟩) T.r32.size c32) ∧ w.cell? ⟨Tb, oT + 2, none⟩ = some (.int .i64 T.off) ∧
  RgTab .u16 R16 o16 T.r16 w ∧ RgTab .u32 R32 o32 T.r32 w ∧ T.r16.size ≤ c16 ∧ T.r32.size ≤ c32
theorem of_rvar {w : World} {g : Nat} {T : RTab} (h16 : 0 < T.r16.size) (h32 : 0 < T.r32.size) (h : RVar2 g T w) : VR (C0 w) w (.eptr [rtabA T] 0) (.pointer (some ⟨g, 0, none⟩)) := by
  obtain ⟨Tb, oT, R16, o16, c16, R32, o32, c32, d, d0, d1, d2, t16, t32, l16, l32⟩ := h
  obtain ⟨a1, a2⟩ := top_C0 d
  obtain ⟨b1, b2⟩ := top_C0 d2
  refine .eptr [rtabA T] 0 g 0 (fun _ => .pointer (some ⟨Tb, oT + 0, none⟩)) a1 (C0.free w g) a2 (fun i hi => ?_) (fun i x hx => ?_)
  · have : i = 0 := by simpa using hi
    subst this; exact d
  · have hi : i = 0 := by
      have := (List.getElem?_eq_some_iff.1 hx).1
      simpa using this
    subst hi
    simp at hx; subst hx
    refine .eptr _ 0 Tb oT (fun i => match i with | 0 => .slice (some ⟨R16, o16, none⟩) T.r16.size c16 | 1 => .slice (some ⟨R32, o32, none⟩) T.r32.size c32 | _ => .int .i64 T.off) b1 (C0.free w Tb) b2 (fun i hi => ?_) (fun i x hx => ?_)
    · match i, hi with
      | 0, _ => exact d0
      | 1, _ => exact d1
      | 2, _ => exact d2
    · match i, hx with
      | 0, hx => simp at hx; subst hx; exact vec_of_rg h16 t16 l16
      | 1, hx => simp at hx; subst hx; exact vec_of_rg h32 t32 l32
      | 2, hx => simp at hx; subst hx; exact .sc _
      | i + 3, hx => simp at hx
/-- Cells of plain numbers, at the beginning. -/
theorem of_cells {w : World} {g : Nat} (zs : List Value) (hne : zs ≠ []) (h : ∀ i z, zs[i]? = some z → w.cell? ⟨g, i, none⟩ = some z) : VR (C0 w) w (.eptr (zs.map AV.sc) 0) (.pointer (some ⟨g, 0, none⟩)) := by
  have hpos : 0 < zs.length := List.length_pos_iff.2 hne
  obtain ⟨a1, a2⟩ := top_C0 (h (zs.length - 1) _ (List.getElem?_eq_getElem (by omega)))
  refine .eptr _ 0 g 0 (fun i => zs.getD i Go.undef) a1 (C0.free w g) (by rw [List.length_map]; omega) (fun i hi => ?_) (fun i x hx => ?_)
  · rw [List.length_map] at hi
    rw [Nat.zero_add]
    exact h i _ (by simp [hi])
  · rw [List.getElem?_map] at hx
    obtain ⟨z, hz, rfl⟩ := Option.map_eq_some_iff.1 hx
    have : zs.getD i Go.undef = z := by simp [List.getD, hz]
    rw [this]; exact .sc _
theorem cells_of {C : Ctx} {w : World} {g : Nat} {zs : List Value} (h : VR C w (.eptr (zs.map AV.sc) 0) (.pointer (some ⟨g, 0, none⟩))) : ∀ i z, zs[i]? = some z → w.cell? ⟨g, i, none⟩ = some z := fun i z hz => by
  generalize hv : Value.pointer (some ⟨g, 0, none⟩) = v at h
  cases h with
  | eptr _ _ b o u hb hf ht hc hr =>
  simp only [Value.pointer.injEq, Option.some.injEq, Addr.mk.injEq] at hv
  obtain ⟨rfl, ho, _⟩ := hv
  have ho : o = 0 := by omega
  subst ho
  have hi := (List.getElem?_eq_some_iff.1 hz).1
  have h1 := hc i (by simpa using hi)
  have h2 := hr i (.sc z) (by simp [hz])
  rw [h2.sc_inv, Nat.zero_add] at h1
  exact h1

/-- A function of plain values. -/
def pureX (F : List AV → Option AV) (args : List AV) (S : St) : Option (AV × St) := (F args).map (·, S)
theorem pureX_evo {F : List AV → Option AV} {args : List AV} {S : St} {r : AV} {S' : St} (h : pureX F args S = some (r, S')) : Evo S S' := by
  unfold pureX at h
  obtain ⟨x, _, h⟩ := Option.map_eq_some_iff.1 h
  simp only [Prod.mk.injEq] at h
  obtain ⟨_, rfl⟩ := h
  exact Evo.refl _
theorem pureX_frm {F : List AV → Option AV} {D : Nat → Prop} {A X : St} {args : List AV} {r : AV} {A' : St} (k : Frm D A X) (h : pureX F args A = some (r, A')) : Does D A X r A' (pureX F args X) := by
  unfold pureX at h ⊢
  obtain ⟨x, hx, h⟩ := Option.map_eq_some_iff.1 h
  simp only [Prod.mk.injEq] at h
  obtain ⟨rfl, rfl⟩ := h
  exact ⟨X, by rw [hx]; rfl, Stp.refl k⟩
/-- What the model answers it is, and nothing that was there is turned. -/
theorem pureX_ok {E : Env} {f : FuncId} {F : List AV → Option AV} {args : List AV} {S : St} {r : AV} {S' : St} (hm : pureX F args S = some (r, S')) {C : Ctx} {w : World} {vs : Array Value} (hw : WR E C S w)
    (h : F args = some r → ∃ u, Calls E.P f vs w (fun e w' => e = .returned u ∧ Below w.heap.size w w') ∧ ∀ C w, VR C w r u) :
    Calls E.P f vs w (fun e w' => ∃ u C', e = .returned u ∧ WR E C' S' w' ∧ Ext C w C' w' ∧ VR C' w' r u) := by
  unfold pureX at hm
  obtain ⟨x, hx, hm⟩ := Option.map_eq_some_iff.1 hm
  simp only [Prod.mk.injEq] at hm
  obtain ⟨rfl, rfl⟩ := hm
  obtain ⟨u, key, hu⟩ := h hx
  refine key.mono ?_
  rintro e w' ⟨rfl, hbel⟩
  exact ⟨u, C, rfl, hw.later hbel, Ext.later hw hbel, hu _ _⟩
theorem memo_sub {E E0 : Env} (hP : E0.P = E.P) (hG : ∀ g cs, E0.G g = some cs → E.G g = some cs) (hsc : ∀ g cs, E0.G g = some cs → ∀ x ∈ cs, ∃ v, x = .sc v) (ok : E0.Ok) (hx : XOk E0) (he : EvoX E0) (hf : FrmX E0) {lf n : Nat} {f : FuncId} {u : Value} {S1 : St} (h : evF E0 lf n f [] S0 = some (.sc u, S1))
    {args : List AV} {S : St} {r : AV} {S' : St} (hm : memoX u args S = some (r, S')) {C : Ctx} {w : World} {vs : Array Value} (hw : WR E C S w) (hl : LR C w args vs.toList) :
    Calls E.P f vs w (fun e w' => ∃ u C', e = .returned u ∧ WR E C' S' w' ∧ Ext C w C' w' ∧ VR C' w' r u) := by
  unfold memoX at hm
  split at hm
  · simp only [Option.some.injEq, Prod.mk.injEq] at hm
    obtain ⟨rfl, rfl⟩ := hm
    obtain ⟨vs⟩ := vs
    match vs, hl with
    | [], hl =>
    have key := run_law ok hx he hf (w := w) (fun g cs hg => glob_C0 hw.bs (hw.glob g cs (hG g cs hg)) (hsc g cs hg)) (LR.nil _ _) h
    rw [hP] at key
    refine key.mono ?_
    rintro e w' ⟨rfl, hbel⟩
    exact ⟨_, C, rfl, hw.later hbel, Ext.later hw hbel, .sc _⟩
  · cases hm
end
end Go.Abs
