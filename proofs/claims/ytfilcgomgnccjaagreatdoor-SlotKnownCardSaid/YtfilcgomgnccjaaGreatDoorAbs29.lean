/-
  Contracts that the kernel has run: a function of a text, by a table; a call at the very beginning, with all that it leaves.
-/
import Derived.Test.YtfilcgomgnccjaaGreatDoorAbsK
set_option linter.unusedSimpArgs false
set_option linter.unusedVariables false
namespace Go.Abs
open Go.RowKit
noncomputable section
def findT (b : ByteArray) : List (ByteArray × Value) → Option Value
  | [] => none
  | e :: r => bif decide (b.data.toList = e.1.data.toList) then some e.2 else findT b r
theorem findT_mem {b : ByteArray} {v : Value} : ∀ {tab : List (ByteArray × Value)}, findT b tab = some v → (b, v) ∈ tab
  | [], h => by cases h
  | e :: r, h => by
    unfold findT at h
    by_cases hd : b.data.toList = e.1.data.toList
    · rw [decide_eq_true hd] at h
      have hv : e.2 = v := Option.some.inj h
      have hb : b = e.1 := by
        have : b.data = e.1.data := Array.toList_inj.1 hd
        cases b; cases e with
        | mk e1 e2 => cases e1; simp_all
      rw [hb, ← hv]
      exact List.mem_cons_self
    · rw [decide_eq_false hd] at h
      exact List.mem_cons_of_mem _ (findT_mem h)
/-- A function of a text. -/
def memoT (tab : List (ByteArray × Value)) (args : List AV) (S : St) : Option (AV × St) := match args with
  | [.sc (.string b)] => match findT b tab with
    | some v => some (.sc v, S)
    | none => none
  | _ => none
/-- An environment over the same program and tables, all that is asked of it. -/
structure Beside (E E0 : Env) : Prop where
  P : E0.P = E.P
  G : E0.G = E.G
  sc : ∀ g cs, E0.G g = some cs → ∀ x ∈ cs, ∃ v, x = .sc v
  ok : E0.Ok
  x : XOk E0
  e : EvoX E0
  f : FrmX E0
theorem memoT_ok {E : Env} {f : FuncId} {tab : List (ByteArray × Value)} (h : ∀ b v, (b, v) ∈ tab → ∃ E0 lf n S1, Beside E E0 ∧ evF E0 lf n f [.sc (.string b)] S0 = some (.sc v, S1))
    {args : List AV} {S : St} {r : AV} {S' : St} (hm : memoT tab args S = some (r, S')) {C : Ctx} {w : World} {vs : Array Value} (hw : WR E C S w) (hl : LR C w args vs.toList) :
    Calls E.P f vs w (fun e w' => ∃ u C', e = .returned u ∧ WR E C' S' w' ∧ Ext C w C' w' ∧ VR C' w' r u) := by
  unfold memoT at hm
  split at hm
  · rename_i b
    split at hm
    · rename_i v hv
      simp only [Option.some.injEq, Prod.mk.injEq] at hm
      obtain ⟨rfl, rfl⟩ := hm
      obtain ⟨vs⟩ := vs
      match vs, hl with
      | [u], hl =>
      rw [hl.head.sc_inv]
      obtain ⟨E0, lf, n, S1, hb, h1⟩ := h b v (findT_mem hv)
      have key := run_law hb.ok hb.x hb.e hb.f (w := w) (vs := #[.string b]) (fun g cs hg => glob_C0 hw.bs (hw.glob g cs (by rw [← hb.G]; exact hg)) (hb.sc g cs hg)) (LR.cons (.sc _) (LR.nil _ _)) h1
      rw [hb.P] at key
      refine key.mono ?_
      rintro e w' ⟨rfl, hbel⟩
      exact ⟨_, C, rfl, hw.later hbel, Ext.later hw hbel, .sc _⟩
    · cases hm
  · cases hm
theorem memoT_evo {tab : List (ByteArray × Value)} {args : List AV} {S : St} {r : AV} {S' : St} (h : memoT tab args S = some (r, S')) : Evo S S' := by
  unfold memoT at h
  split at h
  · split at h
    · simp only [Option.some.injEq, Prod.mk.injEq] at h
      obtain ⟨_, rfl⟩ := h
      exact Evo.refl _
    · cases h
  · cases h
theorem memoT_frm {tab : List (ByteArray × Value)} {D : Nat → Prop} {A X : St} {args : List AV} {r : AV} {A' : St} (k : Frm D A X) (h : memoT tab args A = some (r, A')) : Does D A X r A' (memoT tab args X) := by
  unfold memoT at h ⊢
  split at h
  · split at h
    · simp only [Option.some.injEq, Prod.mk.injEq] at h
      obtain ⟨rfl, rfl⟩ := h
      exact ⟨X, rfl, Stp.refl k⟩
    · cases h
  · cases h

/-- A call of a text at the very beginning: what it answers, and all that it leaves. -/
def memoL (s : ByteArray) (v : AV) (S1 : St) (args : List AV) (S : St) : Option (AV × St) := match args with
  | [.sc (.string b)] => bif decide (b.data.toList = s.data.toList) && Nat.beq S.no 0 && Nat.beq S.nid 3 && Nat.blt 3 S1.nid then some (v, S1) else none
  | _ => none
theorem memoL_take {s : ByteArray} {v : AV} {S1 : St} {args : List AV} {S : St} {r : AV} {S' : St} (h : memoL s v S1 args S = some (r, S')) : args = [.sc (.string s)] ∧ S.no = 0 ∧ S.nid = 3 ∧ 3 < S1.nid ∧ r = v ∧ S' = S1 := by
  unfold memoL at h
  split at h
  · rename_i b
    simp only [cond_eq_ite] at h
    split at h
    · rename_i hb
      simp only [Bool.and_eq_true] at hb
      simp only [Option.some.injEq, Prod.mk.injEq] at h
      have hd := of_decide_eq_true hb.1.1.1
      have hbs : b = s := by
        have : b.data = s.data := Array.toList_inj.1 hd
        cases b; cases s; simp_all
      exact ⟨by rw [hbs], Nat.eq_of_beq_eq_true hb.1.1.2, Nat.eq_of_beq_eq_true hb.1.2, Nat.le_of_ble_eq_true hb.2, h.1.symm, h.2.symm⟩
    · cases h
  · cases h
/-- Nothing has been made: it is as at the beginning. -/
theorem WR.start {E E0 : Env} {C : Ctx} {S : St} {w : World} (hw : WR E C S w) (h1 : S.no = 0) (h2 : S.nid = 3) (hG : E0.G = E.G) : WR E0 C S0 w := by
  have hb : ∀ l, ¬ C.born l := fun l => hw.unb l (by rw [h1]; exact Nat.zero_le _)
  refine ⟨hw.no.trans h1, fun l _ => hb l, hw.nid.trans h2, (by decide : 2 < 3), hw.bs, fun l l' hl => absurd hl (hb l), fun l hl => absurd hl (hb l), fun l hl => absurd hl (hb l), fun l _ => .inl (PM.get_leaf l), fun i h0 hi => ?_, fun i j h0 hi => ?_, fun g cs hg => hw.glob g cs (by rw [← hG]; exact hg),
    fun i _ => ⟨by show (PM.get PM.leaf i).isSome = false; rw [PM.get_leaf]; rfl, PM.get_leaf i⟩, fun l x hl => absurd hl (hb l), fun l _ => PM.get_leaf l, fun i T h0 hi => ?_⟩
  · have := hw.nid; omega
  · have := hw.nid; omega
  · have := hw.nid; omega
theorem WR.env {E E0 : Env} {C : Ctx} {S : St} {w : World} (hw : WR E0 C S w) (hG : E0.G = E.G) : WR E C S w :=
  ⟨hw.no, hw.unb, hw.nid, hw.nid1, hw.bs, hw.inj, hw.mub, hw.objs, hw.unob, hw.ids, hw.idi, fun g cs hg => hw.glob g cs (by rw [hG]; exact hg), hw.fresh, hw.shp, hw.shu, hw.ity⟩
theorem memoL_ok {E E0 : Env} (hP : E0.P = E.P) (hG : E0.G = E.G) (ok : E0.Ok) (hx : XOk E0) (he : EvoX E0) (hf : FrmX E0) {lf n : Nat} {f : FuncId} {s : ByteArray} {v : AV} {S1 : St} (h : evF E0 lf n f [.sc (.string s)] S0 = some (v, S1))
    {args : List AV} {S : St} {r : AV} {S' : St} (hm : memoL s v S1 args S = some (r, S')) {C : Ctx} {w : World} {vs : Array Value} (hw : WR E C S w) (hl : LR C w args vs.toList) :
    Calls E.P f vs w (fun e w' => ∃ u C', e = .returned u ∧ WR E C' S' w' ∧ Ext C w C' w' ∧ VR C' w' r u) := by
  obtain ⟨rfl, h1, h2, _, rfl, rfl⟩ := memoL_take hm
  have key := (sound ok hx he hf lf n f _ S0 r S' h).2 C w vs (hw.start h1 h2 hG) hl
  rw [hP] at key
  refine key.mono ?_
  rintro e w' ⟨u, C', k1, k2, k3, k4⟩
  exact ⟨u, C', k1, k2.env hG, k3, k4⟩
theorem memoL_evo {s : ByteArray} {v : AV} {S1 : St} {args : List AV} {S : St} {r : AV} {S' : St} (h : memoL s v S1 args S = some (r, S')) : Evo S S' := by
  obtain ⟨_, h1, h2, h3, _, rfl⟩ := memoL_take h
  exact ⟨by omega, fun l hl => by omega, fun l hl => by omega, Idl.up (by omega)⟩
theorem memoL_frm {s : ByteArray} {v : AV} {S1 : St} {D : Nat → Prop} {A X : St} {args : List AV} {r : AV} {A' : St} (k : Frm D A X) (h : memoL s v S1 args A = some (r, A')) : Does D A X r A' (memoL s v S1 args X) := by
  have h0 := h
  obtain ⟨rfl, h1, h2, h3, rfl, rfl⟩ := memoL_take h
  have hD : ∀ l, ¬ D l := fun l hd => by have := k.lt l hd; omega
  refine ⟨A', ?_, ⟨⟨rfl, rfl, fun _ => rfl, fun _ => rfl, rfl, fun _ _ => rfl, fun _ _ => rfl, fun l hl => absurd hl (hD l), fun l hl => absurd hl (hD l)⟩, fun l hl => absurd hl (hD l), fun l hl => absurd hl (hD l)⟩⟩
  unfold memoL at h0 ⊢
  rw [k.no, k.nid]
  exact h0
end
end Go.Abs
