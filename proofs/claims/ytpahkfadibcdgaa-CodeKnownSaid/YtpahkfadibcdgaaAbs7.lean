/-
  append, slice expressions, addresses, parts, conversions: the evaluator's stand to the model's.
-/
import Derived.Test.YtpahkfadibcdgaaAbs6
namespace Go.Abs
open Go.RowKit

section
variable {E : Env} {C : Ctx} {S S' : St} {w : World} {v : AV}

theorem good_append (ok : E.Ok) (hw : WR E C S w) {t t1 e ty : TypeId} {ti : TypeInfo} {s x : AV} {us ux : Value} (ht : E.und t = some (.slice e)) (hi : E.inf e = some ti)
    (hk : (∃ e', E.P.underlying t1 = some (.slice e')) ∨ E.P.underlying t1 = some .string)
    (hk2 : ∀ str, x = .sc (.string str) → E.P.underlying t1 = some .string) (hk3 : (∀ str, x ≠ .sc (.string str)) → ∃ e', E.P.underlying t1 = some (.slice e'))
    (hs : VR C w s us) (hx : VR C w x ux)
    (h : appendA ti s x S = some (v, S')) : Good E C w (do pure (.value (← Builtin.append_ #[t, t1] ty #[us, ux]))) v S' := by
  have hu := ok.und t _ ht
  have hin := ok.inf e ti hi
  unfold appendA at h
  split at h
  · simp at h
  · -- nothing is appended
    rename_i hel
    have hlen : ∀ w' : World, (Builtin.lenOf ux).run E.P w' = .ok 0 w' ∧ (Builtin.firstCells ti.size 0 ux).run E.P w' = .ok #[] w' := by
      intro w'
      cases x with
      | vec id sz xs =>
        simp [elemsOf] at hel; subst hel
        obtain ⟨a, cap, rfl⟩ := hx.vec_slice
        exact ⟨rfl, by simp [Builtin.firstCells, loadCells, loadCellsFrom]⟩
      | sc u =>
        have := hx.sc_inv; subst this
        cases ux with
        | string str =>
          simp [elemsOf, byteVals] at hel
          have h0 : str.size = 0 := by
            have : str.data = #[] := by simpa using hel
            simp [ByteArray.size, this]
          exact ⟨by simp [Builtin.lenOf, h0], by simp [Builtin.firstCells]⟩
        | slice a n c =>
          cases a with
          | none =>
            match n, c with
            | 0, 0 => exact ⟨rfl, rfl⟩
            | 0, _ + 1 => simp [elemsOf] at hel
            | _ + 1, _ => simp [elemsOf] at hel
          | some _ => simp [elemsOf] at hel
        | _ => simp [elemsOf] at hel
      | _ => simp [elemsOf] at hel
    have hst : ∃ base n c, us = .slice base n c ∧ n ≤ c ∧ v = s ∧ S' = S := by
      cases s with
      | sc u =>
        have := hs.sc_inv; subst this
        cases us with
        | slice a n c =>
          cases a with
          | none =>
            match n, c with
            | 0, 0 => simp at h; exact ⟨none, 0, 0, rfl, Nat.le_refl _, h.1.symm, h.2.symm⟩
            | 0, _ + 1 => simp at h
            | _ + 1, _ => simp at h
          | some _ => simp at h
        | _ => simp at h
      | vec id sz xs =>
        simp only [Option.some.injEq, Prod.mk.injEq] at h
        rcases hs.vec_inv with ⟨rfl, rfl, a, cap, rfl⟩ | ⟨fl, b, o, cap, rfl, hv⟩
        · exact ⟨some a, 0, cap, rfl, Nat.zero_le _, h.1.symm, h.2.symm⟩
        · exact ⟨some ⟨b, o, none⟩, xs.length, cap, rfl, hv.lc, h.1.symm, h.2.symm⟩
      | _ => simp at h
    obtain ⟨base, n, c, rfl, hnc, rfl, rfl⟩ := hst
    refine Good.val hw (u := .slice base n c) (run_v ?_) hs
    have hz1 : ∀ d, E.P.underlying t1 = some d → (∃ e', d = .slice e') ∨ d = .string := fun d hd => by
      rcases hk with ⟨e', h1⟩ | h1
      · rw [h1] at hd; exact .inl ⟨e', by simpa using hd.symm⟩
      · rw [h1] at hd; exact .inr (by simpa using hd.symm)
    rcases hk with ⟨e', h1⟩ | h1 <;> cases base <;>
      simp [Builtin.append_, run_underlying hu, run_underlying h1, sizeOf, typeInfo, hin, (hlen w).1, (hlen w).2, hnc, storeCells]
  · -- something
    rename_i y ys hel
    cases hb : (allSz ti.size (y :: ys) && Nat.blt 0 ti.size && zeroOk ti) with
    | false => rw [hb] at h; simp at h
    | true =>
      rw [hb] at h
      simp only [cond_true] at h
      simp only [Bool.and_eq_true] at hb
      obtain ⟨⟨b1, b2⟩, b3⟩ := hb
      have hpos : 0 < ti.size := Nat.le_of_ble_eq_true b2
      unfold zeroOk at b3
      cases hz : ti.zero with
      | none => simp [hz] at b3
      | some z =>
        rw [hz] at b3
        have hzs : z.cells.size = ti.size := Nat.eq_of_beq_eq_true b3
        have hkk : (∃ e', E.P.underlying t1 = some (.slice e')) ∧ (∀ s, x ≠ .sc (.string s)) ∨ E.P.underlying t1 = some .string ∧ (∃ s, x = .sc (.string s)) ∨ (y :: ys) = [] := by
          by_cases hstr : ∃ str, x = .sc (.string str)
          · obtain ⟨str, rfl⟩ := hstr
            exact .inr (.inl ⟨hk2 str rfl, str, rfl⟩)
          · have hn : ∀ str, x ≠ .sc (.string str) := fun str e => hstr ⟨str, e⟩
            exact .inl ⟨hk3 hn, hn⟩
        obtain ⟨fy, news, f1, f2, f3⟩ := src_rel hx hel hpos b1 hkk (by simp)
        have fyl := flat_length f1
        have newsl : news.length = (y :: ys).length * ti.size := by rw [← f2.1, fyl]
        have anew : ∀ (base : Option Addr) (xs fl : List AV) (cap : Nat) (olds : List Value), flat? ti.size xs = some fl → LR C w fl olds → (Builtin.firstCells ti.size xs.length (.slice base xs.length cap)).run E.P w.drew = .ok olds.toArray w.drew →
            cap < xs.length + (y :: ys).length → (xs.length + (y :: ys).length) * (ti.bytes + 1) ≤ 2 ^ 46 →
            ∃ u C' w', (do pure (.value (← Builtin.append_ #[t, t1] ty #[.slice base xs.length cap, ux])) : Sem Next).run E.P w = .ok (.value u) w' ∧ WR E C' S.newId w' ∧ Ext C w C' w' ∧ VR C' w' (.vec S.nid ti.size (xs ++ (y :: ys))) u := by
          intro base xs fl cap olds hfl hlr hold hlt hbd
          have hsm : xs.length + (y :: ys).length ≤ 2 ^ 46 := Nat.le_trans (Nat.le_mul_of_pos_right _ (Nat.succ_pos _)) hbd
          have hby : (xs.length + (y :: ys).length) * ti.bytes ≤ 140737488355328 := by
            refine Nat.le_trans (Nat.mul_le_mul_left _ (Nat.le_succ ti.bytes)) (Nat.le_trans hbd (by decide))
          have hrun := run_append_grow_src (P := E.P) w t t1 ty e ti z hu hin hz base xs.length cap olds hold ux (y :: ys).length news f3 hlt
            (by have : (2 : Nat) ^ 46 ≤ 9223372036854775807 := by decide
                omega) (growslice_fits hlt hby)
          have hcap : xs.length + (y :: ys).length ≤ grownCap w (xs.length + (y :: ys).length) cap e := grownCap_ge _ _ _ _
          have hxl := flat_length hfl
          have holdl : olds.length = xs.length * ti.size := by rw [← hlr.1, hxl]
          have hG := good_newRow (E := E) (C := C) (S := S) hw (sz := ti.size) (xs := xs ++ (y :: ys)) (fl := fl ++ fy) (T := e) (cap := grownCap w (xs.length + (y :: ys).length) cap e)
            (c := (olds ++ news).toArray ++ Builtin.zeroCells z.cells (grownCap w (xs.length + (y :: ys).length) cap e - (xs.length + (y :: ys).length))) hpos (flat_append hfl f1)
            (by rw [List.length_append, List.length_append, hxl, fyl, Nat.add_mul]) ⟨olds ++ news, hlr.append f2, fun j u hu => by
                have hj : j < (olds ++ news).length := by
                  rcases Nat.lt_or_ge j (olds ++ news).length with h' | h'
                  · exact h'
                  · simp [List.getElem?_eq_none h'] at hu
                rw [Array.getElem?_append_left (by simpa using hj)]
                simpa using hu⟩ (by rw [List.length_append]; exact hcap)
            (by
              rw [Array.size_append, size_zeroCells, List.size_toArray, List.length_append, holdl, newsl, hzs, ← Nat.add_mul, ← Nat.add_mul]
              exact Nat.mul_le_mul_right _ (by omega)) (.inr rfl) (r := (do pure (.value (← Builtin.append_ #[t, t1] ty #[.slice base xs.length cap, ux])))) (run_v (by rw [List.length_append]; exact hrun))
          rcases hG with hG | ⟨_, _, _, hp, _⟩ | ⟨f, args, hr, _⟩
          · exact hG
          · simp [passed] at hp
          · rw [run_v hrun] at hr
            simp at hr
        cases s with
        | sc u =>
          have := hs.sc_inv; subst this
          cases us with
          | slice a n c =>
            cases a with
            | none =>
              match n, c with
              | 0, 0 =>
                simp only at h
                cases hc : Nat.ble ((y :: ys).length * (ti.bytes + 1)) (2 ^ 46) with
                | false => rw [hc] at h; simp at h
                | true =>
                  rw [hc] at h
                  simp only [cond_true, Option.some.injEq, Prod.mk.injEq] at h
                  obtain ⟨rfl, rfl⟩ := h
                  have := anew none [] [] 0 [] rfl (LR.nil _ _) (by simp [Builtin.firstCells]) (by simp) (by simpa using Nat.le_of_ble_eq_true hc)
                  exact .inl (by simpa using this)
              | 0, _ + 1 => simp at h
              | _ + 1, _ => simp at h
            | some _ => simp at h
          | _ => simp at h
        | vec id sz xs =>
          simp only at h
          cases hc : (S.live id && Nat.beq ti.size sz && Nat.ble ((xs.length + (y :: ys).length) * (ti.bytes + 1)) (2 ^ 46)) with
          | false => rw [hc] at h; simp at h
          | true =>
            rw [hc] at h
            simp only [cond_true, Option.some.injEq, Prod.mk.injEq] at h
            obtain ⟨rfl, rfl⟩ := h
            simp only [Bool.and_eq_true, St.live] at hc
            obtain ⟨⟨⟨c1, c2⟩, c3⟩, c4⟩ := hc
            have hid : 0 < id := Nat.le_of_ble_eq_true c1
            have hsz := Nat.eq_of_beq_eq_true c3
            subst hsz
            have hbd := Nat.le_of_ble_eq_true c4
            have hlive : S.isSpent id = false := by
              simp only [St.isSpent]
              cases hg : S.spent.get id with
              | none => rfl
              | some _ => simp [hg] at c2
            rcases hs.vec_inv with ⟨h0, _⟩ | ⟨fl, b, o, cap, rfl, hv⟩
            · omega
            · by_cases hroom : xs.length + (y :: ys).length ≤ cap
              · refine good_room hw hid hlive hv f1 f2 hroom (fun k1 k2 => run_v ?_)
                exact run_append_room_src (P := E.P) w t t1 ty e ti hu hin b o xs.length cap ux (y :: ys).length news f3 hroom k1 k2
              · obtain ⟨vs, k1, k2⟩ := seg_at hv.seg
                have hxl := flat_length hv.flat
                have := anew (some ⟨b, o, none⟩) xs fl cap vs hv.flat k1
                  (run_firstCells_some w.drew ti.size xs.length _ _ cap vs (by rw [← k1.1, hxl]) (by simpa using k2)) (by omega) hbd
                refine Good.upd this (fun C w hW => hW.spend (S := S.newId) ?_)
                have := (hv.hd (by omega)).1
                rw [hw.nid] at this
                show id < S.nid + 1
                omega
        | _ => simp at h

theorem bounds_run {n : Nat} {lo hi : Option AV} {ulo uhi : Option Value} {l h : Nat} (hlo : ∀ x, lo = some x → ∃ u, ulo = some u ∧ VR C w x u) (hlo' : lo = none → ulo = none)
    (hhi : ∀ x, hi = some x → ∃ u, uhi = some u ∧ VR C w x u) (hhi' : hi = none → uhi = none) (hb : bounds n lo hi = some (l, h)) (isSl : Bool) {cap : Nat} (hc : n ≤ cap) :
    (Instr.sliceBounds isSl n cap ulo uhi none).run E.P w = .ok (l, h, cap) w ∧ l ≤ h ∧ h ≤ n := by
  have int_inv : ∀ {x : AV} {u : Value} {k : Int}, int? x = some k → VR C w x u → ∃ kk, u = .int kk k := by
    intro x u k hx hv
    unfold int? at hx
    split at hx
    · rename_i kk m
      simp at hx; subst hx
      exact ⟨kk, hv.sc_inv⟩
    · simp at hx
  unfold bounds at hb
  split at hb
  · rename_i hh ll h1 h2
    cases hd : (decide (0 ≤ ll) && decide (ll ≤ hh) && decide (hh ≤ (n : Int))) with
    | false => rw [hd] at hb; simp at hb
    | true =>
      rw [hd] at hb
      simp only [cond_true, Option.some.injEq, Prod.mk.injEq] at hb
      obtain ⟨rfl, rfl⟩ := hb
      simp only [Bool.and_eq_true, decide_eq_true_eq] at hd
      obtain ⟨⟨d1, d2⟩, d3⟩ := hd
      have e1 : (hh.toNat : Int) = hh := Int.toNat_of_nonneg (by omega)
      refine ⟨?_, by omega, by omega⟩
      cases hi with
      | none =>
        have := hhi' rfl; subst this
        simp at h1; subst h1
        cases lo with
        | none =>
          have := hlo' rfl; subst this
          simp at h2; subst h2
          simp [Instr.sliceBounds]
        | some x =>
          obtain ⟨u, rfl, hv⟩ := hlo x rfl
          obtain ⟨kk, rfl⟩ := int_inv h2 hv
          simp [Instr.sliceBounds, Instr.sliceBound, asIntOf, d1, d2]
      | some y =>
        obtain ⟨u2, rfl, hv2⟩ := hhi y rfl
        obtain ⟨kk2, rfl⟩ := int_inv h1 hv2
        have d4 : hh ≤ (cap : Int) := by omega
        have d5 : 0 ≤ hh := by omega
        cases lo with
        | none =>
          have := hlo' rfl; subst this
          simp at h2; subst h2
          simp [Instr.sliceBounds, Instr.sliceBound, asIntOf, d4, d5]
        | some x =>
          obtain ⟨u, rfl, hv⟩ := hlo x rfl
          obtain ⟨kk, rfl⟩ := int_inv h2 hv
          simp [Instr.sliceBounds, Instr.sliceBound, asIntOf, d1, d2, d4, d5, e1]
  · simp at hb

theorem good_slice (ok : E.Ok) (hw : WR E C S w) {t : TypeId} {x : AV} {ux : Value} {lo hi : Option AV} {ulo uhi : Option Value} (hx : VR C w x ux)
    (hlo : ∀ x, lo = some x → ∃ u, ulo = some u ∧ VR C w x u) (hlo' : lo = none → ulo = none)
    (hhi : ∀ x, hi = some x → ∃ u, uhi = some u ∧ VR C w x u) (hhi' : hi = none → uhi = none)
    (h : sliceA E t x lo hi S = some (v, S')) : Good E C w (do pure (.value (← Instr.sliceAt t ux ulo uhi none))) v S' := by
  unfold sliceA at h
  cases x with
  | vec id sz xs =>
    simp only at h
    split at h
    · rename_i e l hh hd hb
      split at h
      · rename_i i hi2
        cases hs : Nat.beq i.size sz with
        | false => rw [hs] at h; simp at h
        | true =>
          rw [hs] at h
          simp only [cond_true] at h
          have hsz := Nat.eq_of_beq_eq_true hs
          obtain ⟨a, cap, hux, hle⟩ : ∃ a cap, ux = .slice (some a) xs.length cap ∧ xs.length ≤ cap := by
            rcases hx.vec_inv with ⟨_, rfl, a, cap, rfl⟩ | ⟨fl, b, o, cap, rfl, hv⟩
            · exact ⟨a, cap, rfl, Nat.zero_le _⟩
            · exact ⟨_, cap, rfl, hv.lc⟩
          obtain ⟨hr, h1, h2⟩ := bounds_run (E := E) hlo hlo' hhi hhi' hb true hle
          have hrun : (Instr.sliceAt t ux ulo uhi none).run E.P w = .ok (.slice (if cap = l then some a else (some a).map (·.add (l * i.size))) (hh - l) (cap - l)) w := by
            subst hux
            simp [Instr.sliceAt, Instr.slice, run_und ok hd, hr, run_size ok hi2]
          cases hfull : (Nat.beq l 0 && Nat.beq hh xs.length) with
          | true =>
            rw [hfull] at h
            simp only [cond_true, Option.some.injEq, Prod.mk.injEq] at h
            obtain ⟨rfl, rfl⟩ := h
            simp only [Bool.and_eq_true] at hfull
            have e1 := Nat.eq_of_beq_eq_true hfull.1
            have e2 := Nat.eq_of_beq_eq_true hfull.2
            subst e1; subst e2
            refine Good.val hw (u := ux) (run_v ?_) hx
            rw [hrun, hux]
            simp [Addr.add]
          | false =>
            rw [hfull] at h
            simp only [cond_false, Option.some.injEq, Prod.mk.injEq] at h
            obtain ⟨rfl, rfl⟩ := h
            refine Good.val hw (run_v hrun) ?_
            have hlen : ((xs.drop l).take (hh - l)).length = hh - l := by rw [List.length_take, List.length_drop]; omega
            by_cases hemp : hh = l
            · have hnil : (xs.drop l).take (hh - l) = [] := List.eq_nil_of_length_eq_zero (by omega)
              rw [hnil, hemp, Nat.sub_self]
              by_cases hcl : cap = l
              · rw [if_pos hcl]; exact .vec0 _ _ _
              · rw [if_neg hcl]; exact .vec0 _ _ _
            · rcases hx.vec_inv with ⟨_, rfl, a', cap', h'⟩ | ⟨fl, b, o, cap', h', hv⟩
              · simp at h2; omega
              · rw [hux] at h'
                simp only [Value.slice.injEq, Option.some.injEq, true_and] at h'
                obtain ⟨rfl, rfl⟩ := h'
                have hcl : ¬ cap = l := by omega
                rw [if_neg hcl]
                have hfl := flat_length hv.flat
                have hmul : l * sz + (hh - l) * sz = hh * sz := by rw [← Nat.add_mul]; congr 1; omega
                have hmul2 : hh * sz ≤ xs.length * sz := Nat.mul_le_mul_right _ h2
                have hV : VecAt C w 0 sz ((xs.drop l).take (hh - l)) ((fl.drop (l * sz)).take ((hh - l) * sz)) b (o + l * sz) (cap - l) := by
                  refine ⟨hv.szpos, by rw [hlen]; omega, flat_take _ (flat_drop _ hv.flat), hv.lt, hv.free, ?_, ?_, fun h0 => absurd rfl h0⟩
                  · have := hv.top
                    rw [List.length_take, List.length_drop]; omega
                  · obtain ⟨vs, k1, k2⟩ := hv.seg
                    refine ⟨(vs.drop (l * sz)).take ((hh - l) * sz), (k1.drop _).take _, fun j u hu => ?_⟩
                    rw [List.getElem?_take] at hu
                    split at hu
                    · rw [List.getElem?_drop] at hu
                      have := k2 _ _ hu
                      rwa [← Nat.add_assoc] at this
                    · cases hu
                have := hV.mk'
                rw [hlen] at this
                simpa [Addr.add_mid, hsz] using this
      · simp at h
    · simp at h
  | sc u =>
    have := hx.sc_inv; subst this
    cases ux with
    | slice a n c =>
      cases a with
      | none =>
        match n, c with
        | 0, 0 =>
          simp only at h
          split at h
          · rename_i e p hd hb
            split at h
            · rename_i i hi2
              simp only [Option.some.injEq, Prod.mk.injEq] at h
              obtain ⟨rfl, rfl⟩ := h
              obtain ⟨l, hh⟩ := p
              obtain ⟨hr, h1, h2⟩ := bounds_run (E := E) hlo hlo' hhi hhi' hb true (Nat.le_refl 0)
              have e1 : hh = 0 := by omega
              have e2 : l = 0 := by omega
              subst e1; subst e2
              refine Good.val hw (run_v (u := .slice none 0 0) ?_) (.sc _)
              simp [Instr.sliceAt, Instr.slice, run_und ok hd, hr, run_size ok hi2]
            · simp at h
          · simp at h
        | 0, _ + 1 => simp at h
        | _ + 1, _ => simp at h
      | some _ => simp at h
    | string s =>
      simp only at h
      split at h
      · rename_i l hh hd hb
        simp only [Option.some.injEq, Prod.mk.injEq] at h
        obtain ⟨rfl, rfl⟩ := h
        obtain ⟨hr, h1, h2⟩ := bounds_run (E := E) hlo hlo' hhi hhi' hb false (Nat.le_refl _)
        refine Good.val hw (run_v (u := .string (s.extract l hh)) ?_) (.sc _)
        simp [Instr.sliceAt, Instr.slice, run_und ok hd, hr]
      · simp at h
    | _ => simp at h
  | _ => simp at h

end
end Go.Abs
