/-
  A contract: strings.Join.
-/
import Derived.Test.YteiaalgdmigpiaaGreatDoorAbs26
set_option linter.unusedSimpArgs false
set_option linter.unusedVariables false
namespace Go.Abs
open Go.RowKit
noncomputable def joinElems (S : St) : AV → Option (List AV)
  | .sc (.slice none 0 0) => some []
  | .vec _ _ xs => some xs
  | .osl l sz off len _ => bif Nat.beq sz 1 then S.oslElems false l 1 off len else none
  | _ => none
noncomputable def strsOf : List AV → Option (List ByteArray)
  | [] => some []
  | .sc (.string s) :: r => (strsOf r).map (s :: ·)
  | _ => none
theorem strsOf_eq : ∀ {l : List AV} {ss : List ByteArray}, strsOf l = some ss → l = ss.map fun s => .sc (.string s)
  | [], ss, h => by simp [strsOf] at h; subst h; rfl
  | x :: r, ss, h => by
    unfold strsOf at h
    split at h
    · rename_i e; cases e
    · rename_i s r' e
      simp only [List.cons.injEq] at e
      obtain ⟨rfl, rfl⟩ := e
      simp only [Option.map_eq_some_iff] at h
      obtain ⟨ss', h1, rfl⟩ := h
      simp [strsOf_eq h1]
    · cases h
/-- What strings.Join answers. -/
noncomputable def joinX (args : List AV) (S : St) : Option (AV × St) := match args with
  | [x, .sc (.string sep)] => match (joinElems S x).bind strsOf with
    | some ss => bif Nat.ble ss.length 1000000 && Nat.ble (Lib.join (ss.map (·.data.toList)) sep.data.toList).length 1000000 then
        some (.sc (.string ⟨(Lib.join (ss.map (·.data.toList)) sep.data.toList).toArray⟩), S)
      else none
    | none => none
  | _ => none
/-- The library's contract, at a program. -/
noncomputable def JoinC (P : Program) (f : FuncId) : Prop :=
  (∀ (a : Option Addr) (c : Nat) (sep : ByteArray) (w : World), Calls P f #[.slice a 0 c, .string sep] w fun e w' => e = .returned (.string ⟨#[]⟩) ∧ w' = w) ∧
  ∀ (bk o c : Nat) (xs : List ByteArray) (sep : ByteArray) (w : World), (∀ (j : Nat) x, xs[j]? = some x → w.cell? ⟨bk, o + j, none⟩ = some (.string x)) → bk < w.heap.size → xs.length ≤ 140737488355328 → xs.length ≤ c →
    (Lib.join (xs.map (·.data.toList)) sep.data.toList).length ≤ 140737488355328 →
    Calls P f #[.slice (some ⟨bk, o, none⟩) xs.length c, .string sep] w fun e w' => e = .returned (.string ⟨(Lib.join (xs.map (·.data.toList)) sep.data.toList).toArray⟩) ∧ Below w.heap.size w w'
theorem flat1_strs : ∀ ss : List ByteArray, flat? 1 (ss.map fun s => AV.sc (.string s)) = some (ss.map fun s => .sc (.string s))
  | [] => rfl
  | s :: r => by
    have ih := flat1_strs r
    simp only [List.map_cons]
    simp [flat?, ih, cellsOf, okCell]
theorem flat_strs {sz : Nat} {ss : List ByteArray} {fl : List AV} (h : flat? sz (ss.map fun s => AV.sc (.string s)) = some fl) (hne : ss ≠ []) : sz = 1 ∧ fl = ss.map fun s => .sc (.string s) := by
  have h1 : sz = 1 := by
    cases ss with
    | nil => exact absurd rfl hne
    | cons s r =>
      simp only [List.map_cons] at h
      unfold flat? at h
      split at h
      · rename_i cs r' hc hr
        split at h
        · rename_i hb
          have : cs = [.sc (.string s)] := by
            have : cellsOf (.sc (.string s)) = some [.sc (.string s)] := rfl
            rw [this] at hc
            exact (Option.some.inj hc).symm
          rw [this] at hb
          exact hb.1.symm
        · cases h
      · cases h
  subst h1
  rw [flat1_strs] at h
  exact ⟨rfl, (Option.some.inj h).symm⟩
theorem join_nil' (sep : ByteArray) : Lib.join (([] : List ByteArray).map (·.data.toList)) sep.data.toList = [] := Lib.join_nil _

theorem joinX_ok {E : Env} {f : FuncId} (hc : JoinC E.P f) {args : List AV} {S : St} {r : AV} {S' : St} (h : joinX args S = some (r, S')) {C : Ctx} {w : World} {vs : Array Value} (hw : WR E C S w) (hl : LR C w args vs.toList) :
    Calls E.P f vs w (fun e w' => ∃ u C', e = .returned u ∧ WR E C' S' w' ∧ Ext C w C' w' ∧ VR C' w' r u) := by
  obtain ⟨vs⟩ := vs
  unfold joinX at h
  split at h
  · rename_i x sep
    split at h
    · rename_i ss hss
      simp only [cond_eq_ite] at h
      split at h
      · rename_i hb
        simp only [Bool.and_eq_true] at hb
        have b1 := Nat.le_of_ble_eq_true hb.1
        have b2 := Nat.le_of_ble_eq_true hb.2
        simp only [Option.some.injEq, Prod.mk.injEq] at h
        obtain ⟨rfl, rfl⟩ := h
        match vs, hl with
        | [v, v2], hl =>
        have h2 := hl.tail.head.sc_inv
        subst h2
        have hv := hl.head
        obtain ⟨xs, hxs, hst⟩ := Option.bind_eq_some_iff.1 hss
        have hxe := strsOf_eq hst
        -- nothing to join
        have fin0 : ∀ (a : Option Addr) (c : Nat), ss = [] → Calls E.P f #[.slice a 0 c, .string sep] w (fun e w' => ∃ u C', e = .returned u ∧ WR E C' S w' ∧ Ext C w C' w' ∧ VR C' w' (.sc (.string ⟨(Lib.join (ss.map (·.data.toList)) sep.data.toList).toArray⟩)) u) := fun a c e0 => by
          refine (hc.1 a c sep w).mono ?_
          rintro e w' ⟨rfl, rfl⟩
          refine ⟨_, C, rfl, hw, Ext.refl _ _, ?_⟩
          rw [e0, join_nil']
          exact .sc _
        have fin1 : ∀ (bk o c : Nat), (∀ (j : Nat) x, ss[j]? = some x → w.cell? ⟨bk, o + j, none⟩ = some (.string x)) → bk < w.heap.size → ss.length ≤ c → Calls E.P f #[.slice (some ⟨bk, o, none⟩) ss.length c, .string sep] w (fun e w' => ∃ u C', e = .returned u ∧ WR E C' S w' ∧ Ext C w C' w' ∧ VR C' w' (.sc (.string ⟨(Lib.join (ss.map (·.data.toList)) sep.data.toList).toArray⟩)) u) := fun bk o c h1 h2 h3 => by
          refine (hc.2 bk o c ss sep w h1 h2 (by omega) h3 (by omega)).mono ?_
          rintro e w' ⟨rfl, hbel⟩
          exact ⟨_, C, rfl, hw.later hbel, Ext.later hw hbel, .sc _⟩
        unfold joinElems at hxs
        split at hxs
        · simp only [Option.some.injEq] at hxs
          subst hxs
          have : ss = [] := by cases ss with | nil => rfl | cons a b => simp at hxe
          rw [hv.sc_inv]
          exact fin0 none 0 this
        · rename_i id sz ys _
          simp only [Option.some.injEq] at hxs
          subst hxs
          cases hv with
          | vec0 _ a c =>
            have : ss = [] := by cases ss with | nil => rfl | cons a b => simp at hxe
            exact fin0 _ _ this
          | vec _ _ _ fl b o cap u hs hlc hfl hbh hf ht hcell hr hid hx1 hx2 =>
            by_cases hne : ss = []
            · have h0 : ys = [] := by rw [hxe, hne]; rfl
              subst h0
              exact fin0 _ _ hne
            · rw [hxe] at hfl
              obtain ⟨rfl, rfl⟩ := flat_strs hfl hne
              have hlen : ys.length = ss.length := by rw [hxe, List.length_map]
              rw [hlen] at hlc ⊢
              refine fin1 b o cap (fun j x hx => ?_) hbh hlc
              have hj : j < ss.length := (List.getElem?_eq_some_iff.1 hx).1
              rw [hcell j (by simpa using hj)]
              have := (hr j (.sc (.string x)) (by rw [List.getElem?_map, hx]; rfl)).sc_inv
              rw [this]
        · rename_i l sz off len room _
          simp only [cond_eq_ite] at hxs
          split at hxs
          · rename_i hsz
            have hsz := Nat.eq_of_beq_eq_true hsz
            subst hsz
            obtain ⟨cs, k1, k2, k3, k4⟩ := osl_elems hxs
            rw [Nat.mul_one] at k2 k3 k4
            obtain ⟨g1, g2⟩ := flat_groups false 1 (.inr rfl) len _ (by rw [k2, Nat.mul_one]) k3
            rw [← k4] at g1 g2
            have hlen : ss.length = len := by rw [← g2, hxe, List.length_map]
            rw [hxe, flat1_strs] at g1
            have g1 := Option.some.inj g1
            cases hv with
            | osl _ _ _ _ _ a cap hbn hs' hlr hrc hro hcl ha =>
              by_cases hne : ss = []
              · have h0 : len = 0 := by rw [← hlen, hne]; rfl
                subst h0
                exact fin0 _ _ hne
              · have hpos : 0 < len := by rw [← hlen]; exact List.length_pos_iff.2 hne
                obtain rfl := ha (by omega)
                obtain ⟨us, q1, q2⟩ := seg_shift (obj_seg hw hbn k1) off len
                rw [← hlen]
                refine fin1 _ _ _ (fun j x hx => ?_) (hw.mub l hbn).2 (by omega)
                have hx' : ((cs.drop off).take len)[j]? = some (.sc (.string x)) := by rw [← g1, List.getElem?_map, hx]; rfl
                obtain ⟨v, h3, h4⟩ := q1.get hx'
                have := q2 j v h3
                rw [h4.sc_inv] at this
                exact this
          · cases hxs
        · cases hxs
      · cases h
    · cases h
  · cases h
theorem joinX_evo {args : List AV} {S : St} {r : AV} {S' : St} (h : joinX args S = some (r, S')) : Evo S S' := by
  unfold joinX at h
  split at h
  · split at h
    · simp only [cond_eq_ite] at h
      split at h
      · simp only [Option.some.injEq, Prod.mk.injEq] at h
        obtain ⟨_, rfl⟩ := h
        exact Evo.refl _
      · cases h
    · cases h
  · cases h
theorem joinX_frm {D : Nat → Prop} {A X : St} {args : List AV} {r : AV} {A' : St} (k : Frm D A X) (h : joinX args A = some (r, A')) : Does D A X r A' (joinX args X) := by
  unfold joinX at h ⊢
  split at h
  · rename_i x sep
    split at h
    · rename_i ss hss
      obtain ⟨xs, hxs, hst⟩ := Option.bind_eq_some_iff.1 hss
      have hX : joinElems X x = some xs := by
        unfold joinElems at hxs ⊢
        split at hxs
        · exact hxs
        · exact hxs
        · simp only [cond_eq_ite] at hxs ⊢
          split at hxs
          · rename_i hb
            rw [if_pos hb]
            exact osl_frm k hxs
          · cases hxs
        · cases hxs
      have hss' : (joinElems X x).bind strsOf = some ss := by rw [hX]; exact hst
      simp only [hss']
      simp only [cond_eq_ite] at h ⊢
      split at h
      · rename_i hb
        rw [if_pos hb]
        simp only [Option.some.injEq, Prod.mk.injEq] at h
        obtain ⟨rfl, rfl⟩ := h
        exact ⟨X, rfl, Stp.refl k⟩
      · cases h
    · cases h
  · cases h
end Go.Abs
