/-
  Contracts that the kernel has run: a function of plain values that answers plain values, by a table.
-/
import Derived.Test.YtfilcgomgnccjaaGreatDoorAbs29
set_option linter.unusedSimpArgs false
set_option linter.unusedVariables false
namespace Go.Abs
open Go.RowKit
noncomputable section
def rdAll (f : AV → Option AV) : List AV → Option (List AV)
  | [] => some []
  | x :: l => match f x, rdAll f l with
    | some y, some r => some (y :: r)
    | _, _ => none
/-- A value by value, with all that it leads to; 'st': just what has been made since the beginning. -/
def rdV (S : St) (st : Bool) : Nat → AV → Option AV
  | 0, _ => none
  | n + 1, x => match x with
    | .undef => some .undef
    | .sc v => some (.sc v)
    | .vec _ sz [] => some (.vec 0 sz [])
    | .vec id sz (x :: xs) => bif !st || Nat.beq id 1 || Nat.blt 2 id then (rdAll (rdV S st n) (x :: xs)).map (AV.vec 0 sz) else none
    | .osl l sz off len _ => bif Nat.beq len 0 then some (.vec 0 sz []) else match S.oslElems (!Nat.beq sz 1) l sz off len with
      | some xs => (rdAll (rdV S st n) xs).map (AV.vec 0 sz)
      | none => none
    | .agg cs => (rdAll (rdV S st n) cs).map AV.agg
    | .tup cs => (rdAll (rdV S st n) cs).map AV.tup
    | .ifc t v => (rdV S st n v).map (AV.ifc t)
    | _ => none

theorem rdAll_get {f : AV → Option AV} : ∀ {l r : List AV}, rdAll f l = some r → r.length = l.length ∧ ∀ (i : Nat) (y : AV), r[i]? = some y → ∃ x, l[i]? = some x ∧ f x = some y
  | [], r, h => by
    simp only [rdAll, Option.some.injEq] at h
    subst h
    exact ⟨rfl, fun i y h => by simp at h⟩
  | x :: l, r, h => by
    unfold rdAll at h
    split at h
    · rename_i y r' h1 h2
      simp only [Option.some.injEq] at h
      subst h
      obtain ⟨k1, k2⟩ := rdAll_get h2
      refine ⟨by simp [k1], fun i z hz => ?_⟩
      cases i with
      | zero => simp at hz; subst hz; exact ⟨x, by simp, h1⟩
      | succ i => simp at hz; simpa using k2 i z hz
    · cases h
theorem rdAll_congr {f g : AV → Option AV} (hfg : ∀ x y, f x = some y → g x = some y) : ∀ {l r : List AV}, rdAll f l = some r → rdAll g l = some r
  | [], r, h => h
  | x :: l, r, h => by
    unfold rdAll at h ⊢
    split at h
    · rename_i y r' h1 h2
      rw [hfg _ _ h1, rdAll_congr hfg h2]
      exact h
    · cases h

section
variable {E : Env} {C Co : Ctx} {S : St} {w : World} {st : Bool}
theorem rd_okCell {n : Nat} {x y : AV} (h : rdV S st n x = some y) (ho : okCell x = true) : okCell y = true := by
  cases n with
  | zero => cases h
  | succ n =>
    unfold rdV at h
    split at h <;> try (simp [okCell] at ho; done)
    · simp only [Option.some.injEq] at h; subst h; exact ho
    · simp only [Option.some.injEq] at h; subst h; rfl
    · simp only [cond_eq_ite] at h
      split at h
      · obtain ⟨a, _, rfl⟩ := Option.map_eq_some_iff.1 h; rfl
      · cases h
    · simp only [cond_eq_ite] at h
      split at h
      · simp only [Option.some.injEq] at h; subst h; rfl
      · split at h
        · obtain ⟨a, _, rfl⟩ := Option.map_eq_some_iff.1 h; rfl
        · cases h
    · obtain ⟨a, _, rfl⟩ := Option.map_eq_some_iff.1 h; rfl
    · cases h
theorem rd_cells {n : Nat} {x y : AV} {cs : List AV} (h : rdV S st n x = some y) (hc : cellsOf x = some cs) (ho : cs.all okCell = true) :
    ∃ cs', cellsOf y = some cs' ∧ cs'.length = cs.length ∧ cs'.all okCell = true ∧ ∀ (i : Nat) (c' : AV), cs'[i]? = some c' → ∃ m c, m ≤ n ∧ cs[i]? = some c ∧ rdV S st m c = some c' := by
  by_cases hx : ∃ l, x = .agg l
  · obtain ⟨l, rfl⟩ := hx
    simp only [cellsOf, Option.some.injEq] at hc
    subst hc
    cases n with
    | zero => cases h
    | succ n =>
      unfold rdV at h
      obtain ⟨a, ha, rfl⟩ := Option.map_eq_some_iff.1 h
      obtain ⟨k1, k2⟩ := rdAll_get ha
      refine ⟨a, rfl, k1, ?_, fun i c' hc' => ?_⟩
      · refine List.all_eq_true.2 fun z hz => ?_
        obtain ⟨i, hi⟩ := List.getElem?_of_mem hz
        obtain ⟨x, hx1, hx2⟩ := k2 i z hi
        exact rd_okCell hx2 (List.all_eq_true.1 ho x (List.mem_of_getElem? hx1))
      · obtain ⟨x, hx1, hx2⟩ := k2 i c' hc'
        exact ⟨n, x, Nat.le_succ n, hx1, hx2⟩
  · have hcs : cs = [x] := by
      unfold cellsOf at hc
      split at hc
      · cases hc
      · cases hc
      · cases hc
      · cases hc
      · exact absurd ⟨_, rfl⟩ hx
      · exact (Option.some.inj hc).symm
    subst hcs
    have hox : okCell x = true := by simpa using ho
    have hoy := rd_okCell h hox
    refine ⟨[y], okCell_cellsOf hoy, rfl, by simpa using hoy, fun i c' hc' => ?_⟩
    cases i with
    | zero => simp at hc'; subst hc'; exact ⟨n, x, Nat.le_refl _, by simp, h⟩
    | succ i => simp at hc'
theorem rd_flat {n sz : Nat} : ∀ {xs ys fl : List AV}, rdAll (rdV S st n) xs = some ys → flat? sz xs = some fl →
    ∃ fl', flat? sz ys = some fl' ∧ fl'.length = fl.length ∧ ∀ (i : Nat) (c' : AV), fl'[i]? = some c' → ∃ m c, m ≤ n ∧ fl[i]? = some c ∧ rdV S st m c = some c'
  | [], ys, fl, h, hf => by
    simp only [rdAll, Option.some.injEq] at h
    subst h
    simp only [flat?, Option.some.injEq] at hf
    subst hf
    exact ⟨[], rfl, rfl, fun i c' hc => by simp at hc⟩
  | x :: xs, ys, fl, h, hf => by
    unfold rdAll at h
    split at h
    · rename_i y r h1 h2
      simp only [Option.some.injEq] at h
      subst h
      obtain ⟨cs, r', a1, a2, a3, a4, rfl⟩ := flat_cons hf
      obtain ⟨cs', b1, b2, b3, b4⟩ := rd_cells h1 a1 a4
      obtain ⟨fl', d1, d2, d3⟩ := rd_flat h2 a2
      refine ⟨cs' ++ fl', flat_mk b1 d1 (b2.trans a3) b3, by simp [b2, d2], fun i c' hc' => ?_⟩
      by_cases hi : i < cs'.length
      · rw [List.getElem?_append_left hi] at hc'
        rw [List.getElem?_append_left (by omega)]
        exact b4 i c' hc'
      · rw [List.getElem?_append_right (by omega)] at hc'
        rw [List.getElem?_append_right (by omega), ← b2]
        exact d3 _ c' hc'
    · cases h
theorem rdAll_len {f : AV → Option AV} {l r : List AV} (h : rdAll f l = some r) : r.length = l.length := (rdAll_get h).1

/-- What is read out stands for the same. -/
theorem rd_ok (hw : WR E C S w) {good : Nat → Prop} (hg1 : ∀ b, C.base ≤ b → b < w.heap.size → good b) (hg2 : st = false → ∀ b, b < w.heap.size → good b)
    (hco : ∀ b, good b → b < w.heap.size → Co.free b ∧ ∀ c T fz, w.heap[b]? = some (.cells c T fz) → c.size ≤ Co.top b) :
    ∀ n x y v, rdV S st n x = some y → VR C w x v → VR Co w y v := by
  intro n
  induction n using Nat.strongRecOn with
  | _ n ih =>
  intro x y v h hv
  cases n with
  | zero => cases h
  | succ n =>
    have row : ∀ (sz : Nat) (xs ys fl : List AV) (b o cap : Nat) (u : Nat → Value), xs ≠ [] → 0 < sz → xs.length ≤ cap → flat? sz xs = some fl → rdAll (rdV S st n) xs = some ys → b < w.heap.size → good b →
        (∀ i, i < fl.length → w.cell? ⟨b, o + i, none⟩ = some (u i)) → (∀ i x, fl[i]? = some x → VR C w x (u i)) → VR Co w (.vec 0 sz ys) (.slice (some ⟨b, o, none⟩) xs.length cap) := by
      intro sz xs ys fl b o cap u hne hs hlc hfl hrd hb hgb hc hr
      obtain ⟨fl', d1, d2, d3⟩ := rd_flat hrd hfl
      have hlen := rdAll_len hrd
      obtain ⟨h1, h2⟩ := hco b hgb hb
      rw [← hlen]
      refine .vec 0 sz ys fl' b o cap u hs (by omega) d1 hb h1 ?_ (fun i hi => hc i (by omega)) (fun i c' hc' => ?_) (fun h => by omega) (fun h => by omega) (fun h => by omega)
      · have hpos : 0 < fl.length := by
          rw [flat_length hfl]
          exact Nat.mul_pos (List.length_pos_iff.2 hne) hs
        have hlast := hc (fl.length - 1) (by omega)
        unfold World.cell? at hlast
        split at hlast
        · rename_i c T fz hh
          have h3 := h2 c T fz hh
          have h4 : c[o + (fl.length - 1)]? = some (u (fl.length - 1)) := by simpa using hlast
          have h5 := (Array.getElem?_eq_some_iff.1 h4).1
          omega
        · cases hlast
      · obtain ⟨m, c, hm, k1, k2⟩ := d3 i c' hc'
        exact ih m (by omega) c c' _ k2 (hr i c k1)
    unfold rdV at h
    split at h
    · simp only [Option.some.injEq] at h; subst h; exact .undef v
    · simp only [Option.some.injEq] at h; subst h; rw [hv.sc_inv]; exact .sc _
    · simp only [Option.some.injEq] at h; subst h
      cases hv with
      | vec0 _ a cap => exact .vec0 _ a cap
      | vec _ _ _ fl b o cap u hs hlc hfl hb hf ht hc hr hid hx1 hx2 => exact .vec0 _ _ cap
    · rename_i id sz x0 xs
      simp only [cond_eq_ite] at h
      split at h
      · rename_i hid0
        obtain ⟨ys, hys, rfl⟩ := Option.map_eq_some_iff.1 h
        cases hv with
        | vec _ _ _ fl b o cap u hs hlc hfl hb hf ht hc hr hid hx1 hx2 =>
          refine row sz (x0 :: xs) ys fl b o cap u (by simp) hs hlc hfl hys hb ?_ hc hr
          simp only [Bool.or_eq_true, Bool.not_eq_true'] at hid0
          rcases hid0 with (h0 | h0) | h0
          · exact hg2 h0 b hb
          · exact hg1 b (hx2 (Nat.eq_of_beq_eq_true h0)).1 hb
          · have h2 : 2 < id := Nat.le_of_ble_eq_true h0
            obtain ⟨k1, k2⟩ := hid h2
            have k3 := (hw.ids id h2 k1).base.1
            rw [k2] at k3
            exact hg1 b k3 hb
      · cases h
    · rename_i l sz off len room
      simp only [cond_eq_ite] at h
      cases hv with
      | osl _ _ _ _ _ a cap hl hs hlr hrc hro hcl ha =>
      split at h
      · rename_i h0
        have : len = 0 := Nat.eq_of_beq_eq_true h0
        subst this
        simp only [Option.some.injEq] at h; subst h
        exact .vec0 _ a cap
      · rename_i h0
        have hpos : 0 < len := by
          rcases Nat.eq_zero_or_pos len with h | h
          · subst h; exact absurd rfl h0
          · exact h
        split at h
        · rename_i xs hxs
          obtain ⟨ys, hys, rfl⟩ := Option.map_eq_some_iff.1 h
          obtain ⟨cs, hcs, hlen, hok, rfl⟩ := osl_elems hxs
          have ho := obj_inv hcs
          have hO := hw.objs l hl
          rw [ho] at hO
          obtain ⟨c, T, fz, q1, q2, q3, q4, q5, q6⟩ := hO
          have hag : (!Nat.beq sz 1) = true ∨ sz = 1 := by
            cases hb : Nat.beq sz 1 with
            | false => exact .inl rfl
            | true => exact .inr (Nat.eq_of_beq_eq_true hb)
          obtain ⟨f1, f2⟩ := flat_groups _ sz hag len _ hlen hok
          have hlen2 : off + len * sz ≤ cs.length := by
            rw [List.length_take, List.length_drop] at hlen
            have : 0 < len * sz := Nat.mul_pos hpos hs
            omega
          have hcl2 : cs.length ≤ c.size - C.bs l := by
            have := q2.1
            rw [List.length_take, List.length_drop, Array.length_toList] at this
            omega
          rw [ha (by omega)]
          have key := row sz _ ys _ (C.mu l) (C.bs l + off) cap (fun i => c.getD (C.bs l + off + i) Go.undef) ?_ hs ?_ f1 hys (hw.mub l hl).2 (hg1 _ (hw.mub l hl).1 (hw.mub l hl).2) ?_ ?_
          · rw [f2] at key; exact key
          · intro hn; rw [hn] at f2; simp at f2; omega
          · rw [f2]; omega
          · intro i hi
            rw [hlen] at hi
            rw [cell_block q1]
            have hlt : C.bs l + off + i < c.size := by omega
            simp [hlt]
          · intro i x hx
            rw [List.getElem?_take] at hx
            split at hx
            · rename_i hi
              rw [List.getElem?_drop] at hx
              obtain ⟨u, k1, k2⟩ := q2.get hx
              have hlt : C.bs l + off + i < c.size := by omega
              have : u = c.getD (C.bs l + off + i) Go.undef := by
                rw [List.getElem?_take] at k1
                split at k1
                · rw [List.getElem?_drop, Array.getElem?_toList] at k1
                  rw [show C.bs l + off + i = C.bs l + (off + i) by omega]
                  simp [Array.getD_eq_getD_getElem?, k1]
                · cases k1
              rw [← this]
              exact k2
            · cases hx
        · cases h
    · rename_i cs
      obtain ⟨ys, hys, rfl⟩ := Option.map_eq_some_iff.1 h
      obtain ⟨k1, k2⟩ := rdAll_get hys
      cases hv with
      | agg _ vs hl hr => exact .agg ys vs (k1.trans hl) (fun i x' hx' => let ⟨x, e1, e2⟩ := k2 i x' hx'; ih n (Nat.lt_succ_self n) x x' _ e2 (hr i x e1))
    · rename_i cs
      obtain ⟨ys, hys, rfl⟩ := Option.map_eq_some_iff.1 h
      obtain ⟨k1, k2⟩ := rdAll_get hys
      cases hv with
      | tup _ vs hl hr => exact .tup ys vs (k1.trans hl) (fun i x' hx' => let ⟨x, e1, e2⟩ := k2 i x' hx'; ih n (Nat.lt_succ_self n) x x' _ e2 (hr i x e1))
    · rename_i t a
      obtain ⟨y', hy', rfl⟩ := Option.map_eq_some_iff.1 h
      cases hv with
      | ifc _ _ u h1 => exact .ifc t y' u (ih n (Nat.lt_succ_self n) a y' u hy' h1)
    · cases h

theorem rd_frm {D : Nat → Prop} {A X : St} (k : Frm D A X) {st : Bool} : ∀ (n : Nat) (x y : AV), rdV A st n x = some y → rdV X st n x = some y
  | 0, x, y, h => by cases h
  | n + 1, x, y, h => by
    have ih := rd_frm (st := st) k n
    unfold rdV at h ⊢
    split at h
    · exact h
    · exact h
    · exact h
    · simp only [cond_eq_ite] at h ⊢
      split at h
      · rename_i h0
        rw [if_pos h0]
        obtain ⟨a, ha, rfl⟩ := Option.map_eq_some_iff.1 h
        rw [rdAll_congr ih ha]; rfl
      · cases h
    · simp only [cond_eq_ite] at h ⊢
      split at h
      · rename_i h0; simp only [if_pos h0]; exact h
      · rename_i h0
        simp only [if_neg h0]
        split at h
        · rename_i xs hxs
          rw [osl_frm k hxs]
          obtain ⟨a, ha, rfl⟩ := Option.map_eq_some_iff.1 h
          simp only [rdAll_congr ih ha, Option.map_some]
        · cases h
    · obtain ⟨a, ha, rfl⟩ := Option.map_eq_some_iff.1 h
      rw [rdAll_congr ih ha]; rfl
    · obtain ⟨a, ha, rfl⟩ := Option.map_eq_some_iff.1 h
      rw [rdAll_congr ih ha]; rfl
    · obtain ⟨a, ha, rfl⟩ := Option.map_eq_some_iff.1 h
      rw [ih _ _ ha]; rfl
    · cases h
end

def findV (as : List AV) : List (List AV × AV) → Option AV
  | [] => none
  | e :: r => bif eqL (eqA 40) as e.1 then some e.2 else findV as r
theorem findV_mem {as : List AV} {v : AV} : ∀ {tab : List (List AV × AV)}, findV as tab = some v → (as, v) ∈ tab
  | [], h => by cases h
  | e :: r, h => by
    unfold findV at h
    cases hd : eqL (eqA 40) as e.1 with
    | true =>
      rw [hd] at h
      have hv : e.2 = v := Option.some.inj h
      rw [eqL_eq (eqA_eq 40) hd, ← hv]
      exact List.mem_cons_self
    | false =>
      rw [hd] at h
      exact List.mem_cons_of_mem _ (findV_mem h)
/-- A function of plain values. -/
def memoV (tab : List (List AV × AV)) (args : List AV) (S : St) : Option (AV × St) := match rdAll (rdV S false 40) args with
  | some as => match findV as tab with
    | some v => some (v, S)
    | none => none
  | none => none
theorem memoV_take {tab : List (List AV × AV)} {args : List AV} {S : St} {r : AV} {S' : St} (h : memoV tab args S = some (r, S')) : ∃ as, rdAll (rdV S false 40) args = some as ∧ findV as tab = some r ∧ S' = S := by
  unfold memoV at h
  split at h
  · rename_i as h1
    split at h
    · rename_i v h2
      simp only [Option.some.injEq, Prod.mk.injEq] at h
      exact ⟨as, h1, h.1 ▸ h2, h.2.symm⟩
    · cases h
  · cases h
/-- The rows that have come meanwhile, whole. -/
def Ctx.whole (C : Ctx) (B : Nat) (w' : World) : Ctx := { C with top := fun b => bif Nat.blt b B then C.top b else (C0 w').top b }
theorem whole_lt {C : Ctx} {B : Nat} {w' : World} {b : Nat} (h : b < B) : (C.whole B w').top b = C.top b := by
  show (bif Nat.blt b B then _ else _) = _
  rw [show Nat.blt b B = true from Nat.ble_eq_true_of_le h]; rfl
theorem whole_ge {C : Ctx} {B : Nat} {w' : World} {b : Nat} (h : B ≤ b) : (C.whole B w').top b = (C0 w').top b := by
  show (bif Nat.blt b B then _ else _) = _
  cases hb : Nat.blt b B with
  | false => rfl
  | true => exact absurd (Nat.le_of_ble_eq_true hb) (by omega)
section
variable {E : Env} {C : Ctx} {S : St} {w w' : World}
theorem Ext.whole (hw : WR E C S w) (hb : Below w.heap.size w w') : Ext C w (C.whole w.heap.size w') w' :=
  ⟨⟨fun _ h => ⟨h, rfl, rfl, rfl, rfl⟩, Nat.le_refl _, fun _ _ => rfl, fun i h1 h2 => absurd h2 (by show ¬ i < C.nid; omega), fun l h1 h2 => absurd h2 h1, hb.size, fun b h => by rw [whole_lt h]; exact Nat.le_refl _,
    fun b o h _ _ => by simp only [World.cell?, hb.block b h], rfl, ⟨hb.mono hw.bs, trivial⟩, fun b x hx => by rw [shape_same (hb.block b (shape_lt hx))]; exact hx, rfl⟩, Nat.le_refl _, fun l h1 h2 => absurd h2 h1⟩
theorem WR.whole (hw : WR E C S w) (hb : Below w.heap.size w w') : WR E (C.whole w.heap.size w') S w' := by
  have e := Ext.whole hw hb
  refine ⟨hw.no, hw.unb, hw.nid, hw.nid1, by have := hw.bs; have := hb.size; show C.base ≤ _; omega, hw.inj, fun l hl => ⟨(hw.mub l hl).1, by have := (hw.mub l hl).2; have := hb.size; show C.mu l < _; omega⟩, fun l hl => ?_, hw.unob, fun i h0 hi => ?_, hw.idi, fun g cs hg => (hw.glob g cs hg).ext e, hw.fresh, fun l x hl hx => ?_, hw.shu, fun i T h0 hi hT => ?_⟩
  · show ObjR _ w' l _ (w'.heap[C.mu l]?)
    rw [hb.block _ (hw.mub l hl).2]
    exact (hw.objs l hl).ext e.toExtW hl
  · obtain ⟨k1, k2, k3, k4, k5, ⟨c, T, fz, r1, r2, r3⟩, k7, k8⟩ := hw.ids i h0 hi
    have ht : (C.whole w.heap.size w').top (C.io i).b = C.top (C.io i).b := whole_lt k2
    refine ⟨k1, by show (C.io i).b < _; have := hb.size; omega, k3, k4, k5, ⟨c, T, fz, by show w'.heap[(C.io i).b]? = _; rw [hb.block _ k2]; exact r1, ?_, r3⟩, ?_, ?_⟩
    · show ∀ j, (C.whole w.heap.size w').top (C.io i).b ≤ j → _
      rw [ht]; exact r2
    · show _ ≤ (C.whole w.heap.size w').top (C.io i).b
      rw [ht]; exact k7
    · show _ → (C.whole w.heap.size w').top (C.io i).b = _
      rw [ht]; exact k8
  · obtain ⟨k1, k2⟩ := hw.shp l x hl hx
    exact ⟨k1, by show w'.shape? (C.mu l) = _; rw [shape_same (hb.block _ (hw.mub l hl).2)]; exact k2⟩
  · obtain ⟨c, fz, k1, k2⟩ := hw.ity i T h0 hi hT
    have ht : (C.whole w.heap.size w').top (C.io i).b = C.top (C.io i).b := whole_lt (hw.ids i h0 hi).lt
    exact ⟨c, fz, by show w'.heap[(C.io i).b]? = _; rw [hb.block _ (hw.ids i h0 hi).lt]; exact k1, by show _ ∨ (_ ∧ _ ≤ (C.whole w.heap.size w').top (C.io i).b); rw [ht]; exact k2⟩
theorem rd_args {args as : List AV} {vs : Array Value} (hw : WR E C S w) (h : rdAll (rdV S false 40) args = some as) (hl : LR C w args vs.toList) : LR (C0 w) w as vs.toList := by
  obtain ⟨k1, k2⟩ := rdAll_get h
  refine ⟨k1.trans hl.1, fun i y hy => ?_⟩
  obtain ⟨x, h1, h2⟩ := k2 i y hy
  exact rd_ok hw (good := fun _ => True) (fun _ _ _ => trivial) (fun _ _ _ => trivial) (fun b _ hb => ⟨C0.free w b, fun c T fz hh => by show c.size ≤ (match w.heap[b]? with | some (.cells c _ _) => c.size | _ => 0); rw [hh]; exact Nat.le_refl _⟩) 40 x y _ h2 (hl.2 i x h1)
theorem memoV_ok {f : FuncId} {tab : List (List AV × AV)} (h : ∀ as v, (as, v) ∈ tab → ∃ E0 lf n S1 r1, Beside E E0 ∧ evF E0 lf n f as S0 = some (r1, S1) ∧ rdV S1 true 40 r1 = some v)
    {args : List AV} {r : AV} {S' : St} (hm : memoV tab args S = some (r, S')) {vs : Array Value} (hw : WR E C S w) (hl : LR C w args vs.toList) :
    Calls E.P f vs w (fun e w' => ∃ u C', e = .returned u ∧ WR E C' S' w' ∧ Ext C w C' w' ∧ VR C' w' r u) := by
  obtain ⟨as, h1, h2, rfl⟩ := memoV_take hm
  obtain ⟨E0, lf, n, S1, r1, hb, h3, h4⟩ := h as r (findV_mem h2)
  have key := (sound hb.ok hb.x hb.e hb.f lf n f as S0 r1 S1 h3).2 (C0 w) w vs (wr0 w (fun g cs hg => glob_C0 hw.bs (hw.glob g cs (by rw [← hb.G]; exact hg)) (hb.sc g cs hg))) (rd_args hw h1 hl)
  rw [hb.P] at key
  refine key.mono ?_
  rintro e w' ⟨u, C1, rfl, k2, k3, k4⟩
  have hbel : Below w.heap.size w w' := k3.toExtW.below.b
  have hbase : C1.base = w.heap.size := k3.toExtW.base
  refine ⟨u, C.whole w.heap.size w', rfl, hw.whole hbel, Ext.whole hw hbel, rd_ok k2 (good := fun b => w.heap.size ≤ b) (fun b hb _ => by rw [hbase] at hb; exact hb) (fun h => by cases h) (fun b hgb hb => ⟨fun l hl => ?_, fun c T fz hh => ?_⟩) 40 r1 r u h4 k4⟩
  · have := (hw.mub l hl).2
    show C.mu l ≠ b
    omega
  · rw [whole_ge hgb]
    show c.size ≤ (match w'.heap[b]? with | some (.cells c _ _) => c.size | _ => 0)
    rw [hh]; exact Nat.le_refl _
end
theorem memoV_evo {tab : List (List AV × AV)} {args : List AV} {S : St} {r : AV} {S' : St} (h : memoV tab args S = some (r, S')) : Evo S S' := by
  obtain ⟨_, _, _, rfl⟩ := memoV_take h
  exact Evo.refl _
theorem memoV_frm {tab : List (List AV × AV)} {D : Nat → Prop} {A X : St} {args : List AV} {r : AV} {A' : St} (k : Frm D A X) (h : memoV tab args A = some (r, A')) : Does D A X r A' (memoV tab args X) := by
  obtain ⟨as, h1, h2, rfl⟩ := memoV_take h
  refine ⟨X, ?_, Stp.refl k⟩
  unfold memoV
  rw [rdAll_congr (rd_frm k 40) h1]
  simp only [h2]
end
end Go.Abs
