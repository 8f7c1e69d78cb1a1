/-
  More rounds and more depth change nothing that has been told.
-/
import Derived.Test.YtmmpcomfhcpicaaAbs21
set_option linter.unusedSimpArgs false
set_option linter.unusedVariables false
namespace Go.Abs
def CallLe (c1 c2 : CallFn) : Prop := ∀ f args S r, c1 f args S = some r → c2 f args S = some r
section
variable {E : Env} {c1 c2 : CallFn} {nt : Nat}
theorem callA_le (h : CallLe c1 c2) {mu : Bool} {tm : PM AV} {c : Call} {S : St} {r : AV × St} (e : callA E mu c1 tm c S = some r) : callA E mu c2 tm c S = some r := by
  obtain ⟨callee, args, ats⟩ := c
  cases callee with
  | value f =>
    simp only [callA] at e ⊢
    split at e
    · split at e
      · exact e
      · exact h _ _ _ _ e
    · cases e
  | builtin b => exact e
  | invoke recv name =>
    simp only [callA] at e ⊢
    split at e
    · split at e
      · split at e
        · cases e
        · exact h _ _ _ _ e
      · cases e
    · cases e
theorem plain_le (h : CallLe c1 c2) {tm : PM AV} {o : Oper} {S : St} {r : AV × St} (e : evPlain E c1 tm o S = some r) : evPlain E c2 tm o S = some r := by
  obtain ⟨dst, op, ty, pos, after, guard⟩ := o
  cases op with
  | call c => exact callA_le h e
  | slice t x lo hi mx => cases hi <;> cases mx <;> exact e
  | makeMap t x => exact e
  | _ => exact e
theorem op_le (h : CallLe c1 c2) {tm : PM AV} {o : Oper} {S : St} {r : AV × St} (e : evOp E c1 tm o S = some r) : evOp E c2 tm o S = some r := by
  unfold evOp at e ⊢
  cases hm : isMk E o with
  | true => rw [hm] at e; exact e
  | false => rw [hm] at e; exact plain_le h e
theorem seq_le (h : CallLe c1 c2) {ops : Array Oper} : ∀ (l : List Oper) (tm : PM AV) (S : St) (r : PM AV × St), evSeq E c1 nt ops l tm S = some r → evSeq E c2 nt ops l tm S = some r
  | [], tm, S, r, e => e
  | o :: l, tm, S, r, e => by
    simp only [evSeq] at e ⊢
    rcases hw : wantedA ops tm o with _ | _ | _
    · simp only [hw] at e; cases e
    · simp only [hw] at e ⊢
      cases hp : putA nt o.dst passed tm with
      | none => rw [hp] at e; cases e
      | some tm' =>
        rw [hp] at e
        exact seq_le h l _ _ _ e
    · simp only [hw] at e ⊢
      cases hv : evOp E c1 tm o S with
      | none => rw [hv] at e; cases e
      | some q =>
        obtain ⟨v, S'⟩ := q
        rw [hv] at e
        rw [op_le h hv]
        simp only at e ⊢
        cases hp : putA nt o.dst v tm with
        | none => rw [hp] at e; cases e
        | some tm' =>
          rw [hp] at e
          exact seq_le h l _ _ _ e
theorem drawGo_le (h : CallLe c1 c2) {ops : Array Oper} {m : PM Nat} {b0 : Nat} : ∀ (l : List Oper) (i : Nat) (tm : PM AV) (S : St) (r : PM AV × St × List (Nat × St × St) × List (Nat × Nat)), evDrawGo E c1 nt ops m b0 i l tm S = some r → evDrawGo E c2 nt ops m b0 i l tm S = some r
  | [], i, tm, S, r, e => e
  | o :: l, i, tm, S, r, e => by
    simp only [evDrawGo] at e ⊢
    rcases hw : wantedA ops tm o with _ | _ | _
    · simp only [hw] at e; cases e
    · simp only [hw] at e ⊢
      cases hp : putA nt o.dst passed tm with
      | none => rw [hp] at e; cases e
      | some tm' =>
        rw [hp] at e
        exact drawGo_le h l _ _ _ _ e
    · simp only [hw] at e ⊢
      cases hm : isMk E o with
      | true =>
        rw [hm] at e
        simp only [cond_true] at e ⊢
        cases hk : mkOp E tm o with
        | none => rw [hk] at e; cases e
        | some k =>
          rw [hk] at e
          simp only at e ⊢
          cases hp : putA nt o.dst (k.val (b0 + i)) tm with
          | none => rw [hp] at e; cases e
          | some tm' =>
            rw [hp] at e
            exact drawGo_le h l _ _ _ _ e
      | false =>
        rw [hm] at e
        simp only [cond_false] at e ⊢
        cases hq : loudOp E o.op with
        | true =>
          rw [hq] at e
          simp only [cond_true] at e ⊢
          cases hv : evPlain E c1 tm o (S.masked (mkAt E ops) m b0 i) with
          | none => rw [hv] at e; cases e
          | some q =>
            obtain ⟨v, S'⟩ := q
            rw [hv] at e
            rw [plain_le h hv]
            simp only at e ⊢
            cases hp : putA nt o.dst v tm with
            | none => rw [hp] at e; cases e
            | some tm' =>
              rw [hp] at e
              simp only at e ⊢
              cases hg : evDrawGo E c1 nt ops m b0 (i + 1) l tm' (S'.unmasked S (mkAt E ops) m b0 i) with
              | none => rw [hg] at e; cases e
              | some z => rw [hg] at e; rw [drawGo_le h l _ _ _ _ hg]; exact e
        | false =>
          rw [hq] at e
          simp only [cond_false] at e ⊢
          cases hv : evPlain E c1 tm o S with
          | none => rw [hv] at e; cases e
          | some q =>
            obtain ⟨v, S'⟩ := q
            rw [hv] at e
            rw [plain_le h hv]
            simp only at e ⊢
            cases hp : putA nt o.dst v tm with
            | none => rw [hp] at e; cases e
            | some tm' =>
              rw [hp] at e
              simp only at e ⊢
              cases hg : evDrawGo E c1 nt ops m b0 (i + 1) l tm' S' with
              | none => rw [hg] at e; cases e
              | some z => rw [hg] at e; rw [drawGo_le h l _ _ _ _ hg]; exact e
theorem draw_le (h : CallLe c1 c2) {ops : Array Oper} {tm : PM AV} {S : St} {r : PM AV × St} (e : evDraw E c1 nt ops tm S = some r) : evDraw E c2 nt ops tm S = some r := by
  unfold evDraw at e ⊢
  cases hb : allPairs E ops (masks 0 ops.toList .leaf) 0 ops.toList with
  | false => rw [hb] at e; cases e
  | true =>
    rw [hb] at e
    simp only [cond_true] at e ⊢
    cases hg : evDrawGo E c1 nt ops (masks 0 ops.toList .leaf) S.no 0 ops.toList tm { S with no := S.no + ops.size } with
    | none => rw [hg] at e; cases e
    | some z => rw [hg] at e; rw [drawGo_le h _ _ _ _ _ hg]; exact e
theorem iter_le {b1 b2 : PM AV → St → Option (Out × PM AV × St)} (h : ∀ tm S r, b1 tm S = some r → b2 tm S = some r) : ∀ (k k' : Nat) (tm : PM AV) (S : St) (r : Out × PM AV × St), k ≤ k' → iter b1 k tm S = some r → iter b2 k' tm S = some r
  | 0, k', tm, S, r, _, e => by simp only [iter] at e; cases e
  | k + 1, k', tm, S, r, hk, e => by
    obtain ⟨k'', rfl⟩ : ∃ q, k' = q + 1 := ⟨k' - 1, by omega⟩
    simp only [iter] at e ⊢
    cases hb : b1 tm S with
    | none => rw [hb] at e; cases e
    | some q =>
      obtain ⟨o, tm', S'⟩ := q
      rw [hb] at e
      rw [h _ _ _ hb]
      cases o with
      | nrm => exact iter_le h k k'' _ _ _ (by omega) e
      | exit id => exact e
      | ret => exact e
theorem evC_le (h : CallLe c1 c2) {lf lf' : Nat} (hl : lf ≤ lf') : ∀ (c : Code) (tm : PM AV) (S : St) (r : Out × PM AV × St), evC E c1 lf nt c tm S = some r → evC E c2 lf' nt c tm S = some r := by
  intro c
  induction c with
  | region id ops draw =>
    intro tm S r e
    cases draw with
    | false =>
      simp only [evC] at e ⊢
      cases hs : evSeq E c1 nt ops ops.toList tm S with
      | none => rw [hs] at e; cases e
      | some q => rw [hs] at e; rw [seq_le h _ _ _ _ hs]; exact e
    | true =>
      simp only [evC] at e ⊢
      cases hs : evDraw E c1 nt ops tm S with
      | none => rw [hs] at e; cases e
      | some q => rw [hs] at e; rw [draw_le h hs]; exact e
  | seq x y ihx ihy =>
    intro tm S r e
    simp only [evC] at e ⊢
    cases hx : evC E c1 lf nt x tm S with
    | none => rw [hx] at e; cases e
    | some q =>
      obtain ⟨o, tm', S'⟩ := q
      rw [hx] at e
      rw [ihx _ _ _ hx]
      cases o with
      | nrm => exact ihy _ _ _ e
      | exit id => exact e
      | ret => exact e
  | cond c x y ihx ihy =>
    intro tm S r e
    simp only [evC] at e ⊢
    split at e
    · exact ihx _ _ _ e
    · exact ihy _ _ _ e
    · cases e
  | block id c ih =>
    intro tm S r e
    simp only [evC] at e ⊢
    cases hx : evC E c1 lf nt c tm S with
    | none => rw [hx] at e; cases e
    | some q => rw [hx] at e; rw [ih _ _ _ hx]; exact e
  | loop c ih =>
    intro tm S r e
    simp only [evC] at e ⊢
    exact iter_le ih _ _ _ _ _ hl e
  | scope c ih =>
    intro tm S r e
    simp only [evC] at e ⊢
    exact ih _ _ _ e
  | _ => intro tm S r e; first | exact e | (simp only [evC] at e ⊢; exact e)
theorem evF_le {lf lf' : Nat} (hl : lf ≤ lf') : ∀ (n n' : Nat), n ≤ n' → CallLe (evF E lf n) (evF E lf' n')
  | 0, n', _ => fun f args S r e => by cases e
  | n + 1, n', hn => fun f args S r e => by
    obtain ⟨k, rfl⟩ : ∃ q, n' = q + 1 := ⟨n' - 1, by omega⟩
    simp only [evF] at e ⊢
    split at e
    · cases e
    · split at e
      · exact e
      · split at e
        · cases e
        · rename_i fn _ _ _ _ c hc
          cases hb : Nat.ble args.length fn.ntmps with
          | false => rw [hb] at e; cases e
          | true =>
            rw [hb] at e
            simp only [cond_true] at e ⊢
            cases hx : evC E (evF E lf n) lf fn.ntmps c (initTm 0 args .leaf) S with
            | none => rw [hx] at e; cases e
            | some q => rw [hx] at e; rw [evC_le (evF_le hl n k (by omega)) hl _ _ _ _ hx]; exact e
/-- What the kernel has run. -/
theorem ev_run {lf n : Nat} {f : FuncId} {args : List AV} {S : St} {r : AV} {S' : St} (h : evF E lf n f args S = some (r, S')) : EvA E f args S r S' :=
  ⟨max lf n, fun lf' n' h1 h2 => evF_le (by omega) n n' (by omega) _ _ _ _ h⟩
end
end Go.Abs
