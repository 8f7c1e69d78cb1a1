/-
  A contract: a function of a tree's node (slot.variables) that answers nothing, a nil slice, at a node without kids that is no variable; else what the evaluator answers beside.
-/
import Derived.Test.YtfilcgomgnccjaaGreatDoorAbsR
set_option linter.unusedSimpArgs false
set_option linter.unusedVariables false
namespace Go.Abs
open Go.RowKit
noncomputable def noneV : AV → Bool
  | .sc (.slice none 0 0) => true
  | .vec _ _ [] => true
  | _ => false
noncomputable def leafV : AV → Bool
  | .agg [.sc (.int .i64 k), .sc (.int .i64 _), .sc (.string _), .sc (.string _), kids, .sc (.int .i64 _), .sc (.int .i64 _)] => !(k == 22) && noneV kids
  | _ => false
noncomputable def varsX (E0 : Env) (lf n : Nat) (f : FuncId) (args : List AV) (S : St) : Option (AV × St) := match args with
  | [.agg [.vec _ 7 xs, _], .sc (.int .i64 (.ofNat i))] => match xs[i]? with
    | some x => bif leafV x then some (.sc (.slice none 0 0), S) else runX E0 lf n f args S
    | none => none
  | _ => none
/-- What is asked of the program's function. -/
def LeafC (P : Program) (f : FuncId) : Prop := ∀ (b o len cap i kc : Nat) (tv : Value) (k m1 m5 m6 : Int) (ka : Option Addr) (s2 s3 : ByteArray) (w : World), i < len → k ≠ 22 → b < w.heap.size →
  w.cell? ⟨b, o + i * 7, none⟩ = some (.int .i64 k) → w.cell? ⟨b, o + i * 7 + 1, none⟩ = some (.int .i64 m1) → w.cell? ⟨b, o + i * 7 + 2, none⟩ = some (.string s2) → w.cell? ⟨b, o + i * 7 + 3, none⟩ = some (.string s3) →
  w.cell? ⟨b, o + i * 7 + 4, none⟩ = some (.slice ka 0 kc) → w.cell? ⟨b, o + i * 7 + 5, none⟩ = some (.int .i64 m5) → w.cell? ⟨b, o + i * 7 + 6, none⟩ = some (.int .i64 m6) →
  Calls P f #[.agg #[.slice (some ⟨b, o, none⟩) len cap, tv], .int .i64 (i : Int)] w fun e w' => e = .returned (.slice none 0 0) ∧ Below w.heap.size w w'
theorem noneV_vr {C : Ctx} {w : World} {x : AV} {v : Value} (h : noneV x = true) (hv : VR C w x v) : ∃ ka kc, v = .slice ka 0 kc := by
  cases hv with
  | sc v =>
    unfold noneV at h
    split at h
    · rename_i e; cases e; exact ⟨_, _, rfl⟩
    · rename_i e; cases e
    · cases h
  | vec0 sz a cap => exact ⟨_, _, rfl⟩
  | vec id sz xs fl b o cap u hs hlc hfl hb hf ht hc hr hid hx1 hx2 =>
    unfold noneV at h
    split at h
    · rename_i e; cases e
    · rename_i e; cases e; exact ⟨_, _, rfl⟩
    · cases h
  | _ => unfold noneV at h; first | cases h | (split at h <;> first | cases h | (rename_i e; cases e))
theorem varsX_ok {E E0 : Env} (hb : Beside E E0) {lf n : Nat} {f : FuncId} (hc : LeafC E.P f) {args : List AV} {S : St} {r : AV} {S' : St} (h : varsX E0 lf n f args S = some (r, S')) {C : Ctx} {w : World} {vs : Array Value} (hw : WR E C S w) (hl : LR C w args vs.toList) :
    Calls E.P f vs w (fun e w' => ∃ u C', e = .returned u ∧ WR E C' S' w' ∧ Ext C w C' w' ∧ VR C' w' r u) := by
  unfold varsX at h
  split at h
  · rename_i id xs tv i
    split at h
    · rename_i x hx
      cases hlf : leafV x with
      | false => rw [hlf, cond_false] at h; exact runX_ok hb h hw hl
      | true =>
        rw [hlf, cond_true] at h
        simp only [Option.some.injEq, Prod.mk.injEq] at h
        obtain ⟨rfl, rfl⟩ := h
        obtain ⟨vs⟩ := vs
        match vs, hl with
        | [t, iv], hl =>
        have ht := hl.head
        have hiv := hl.tail.head
        cases hiv
        cases ht with
        | agg _ va hla hra =>
        obtain ⟨va⟩ := va
        match va, hla, hra with
        | [s, tw], hla, hra =>
        have hs : VR C w (.vec id 7 xs) s := by simpa using hra 0 _ rfl
        unfold leafV at hlf
        split at hlf
        · rename_i k m1 s2 s3 kids m5 m6
          simp only [Bool.and_eq_true] at hlf
          obtain ⟨hk, hkids⟩ := hlf
          cases hs with
          | vec0 => simp at hx
          | vec _ _ _ fl b o cap u hs hlc hfl hbb hf htt hcc hr hid hx1 hx2 =>
          obtain ⟨cs, h1, h2, h3, h4⟩ := flat_get hfl hx
          simp only [cellsOf, Option.some.injEq] at h1
          subst h1
          have hil : i < xs.length := (List.getElem?_eq_some_iff.1 hx).1
          have hfll := flat_length hfl
          have hat : ∀ j y, j < 7 → ([.sc (.int .i64 k), .sc (.int .i64 m1), .sc (.string s2), .sc (.string s3), kids, .sc (.int .i64 m5), .sc (.int .i64 m6)] : List AV)[j]? = some y → w.cell? ⟨b, o + i * 7 + j, none⟩ = some (u (i * 7 + j)) ∧ VR C w y (u (i * 7 + j)) := fun j y hj hy => by
            have e : fl[i * 7 + j]? = some y := by
              rw [← h4, List.getElem?_take_of_lt hj, List.getElem?_drop] at hy
              exact hy
            refine ⟨?_, hr _ _ e⟩
            rw [Nat.add_assoc]
            exact hcc _ (List.getElem?_eq_some_iff.1 e).1
          obtain ⟨a0, b0⟩ := hat 0 _ (by decide) rfl
          obtain ⟨a1, b1⟩ := hat 1 _ (by decide) rfl
          obtain ⟨a2, b2⟩ := hat 2 _ (by decide) rfl
          obtain ⟨a3, b3⟩ := hat 3 _ (by decide) rfl
          obtain ⟨a4, b4⟩ := hat 4 _ (by decide) rfl
          obtain ⟨a5, b5⟩ := hat 5 _ (by decide) rfl
          obtain ⟨a6, b6⟩ := hat 6 _ (by decide) rfl
          obtain ⟨ka, kc, hkk⟩ := noneV_vr hkids b4
          rw [hkk] at a4
          generalize u (i * 7 + 0) = u0 at a0 b0
          generalize u (i * 7 + 1) = u1 at a1 b1
          generalize u (i * 7 + 2) = u2 at a2 b2
          generalize u (i * 7 + 3) = u3 at a3 b3
          generalize u (i * 7 + 5) = u5 at a5 b5
          generalize u (i * 7 + 6) = u6 at a6 b6
          cases b0
          cases b1
          cases b2
          cases b3
          cases b5
          cases b6
          refine (hc b o xs.length cap i kc tw k m1 m5 m6 ka s2 s3 w hil (by simpa using hk) hbb a0 a1 a2 a3 a4 a5 a6).mono ?_
          rintro e w' ⟨rfl, hbel⟩
          exact ⟨_, C, rfl, hw.later hbel, Ext.later hw hbel, .sc _⟩
        · cases hlf
    · cases h
  · cases h
theorem varsX_evo {E0 : Env} (he : EvoX E0) {lf n : Nat} {f : FuncId} {args : List AV} {S : St} {r : AV} {S' : St} (h : varsX E0 lf n f args S = some (r, S')) : Evo S S' := by
  unfold varsX at h
  split at h
  · split at h
    · rename_i x hx
      cases hlf : leafV x with
      | false => rw [hlf, cond_false] at h; exact runX_evo he h
      | true =>
        rw [hlf, cond_true] at h
        simp only [Option.some.injEq, Prod.mk.injEq] at h
        obtain ⟨_, rfl⟩ := h
        exact Evo.refl _
    · cases h
  · cases h
theorem varsX_frm {E0 : Env} (hf : FrmX E0) {lf n : Nat} {f : FuncId} {D : Nat → Prop} {A X : St} {args : List AV} {r : AV} {A' : St} (k : Frm D A X) (h : varsX E0 lf n f args A = some (r, A')) : Does D A X r A' (varsX E0 lf n f args X) := by
  unfold varsX at h ⊢
  split at h
  · split at h
    · rename_i x hx
      cases hlf : leafV x with
      | false => rw [hlf, cond_false] at h; rw [cond_false]; exact runX_frm hf k h
      | true =>
        rw [hlf, cond_true] at h
        simp only [Option.some.injEq, Prod.mk.injEq] at h
        obtain ⟨rfl, rfl⟩ := h
        exact ⟨X, by rw [cond_true], Stp.refl k⟩
    · cases h
  · cases h
end Go.Abs
