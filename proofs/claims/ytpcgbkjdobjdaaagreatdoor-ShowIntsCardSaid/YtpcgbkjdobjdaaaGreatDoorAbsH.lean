/-
  The code without what the evaluator does not look at; a calculus to prove what a function answers.
  A calculus to prove what a function answers, whatever its arguments: the code is run by rewriting.
  Rewriting rules for the evaluator's operations.
  Slices by value, as the calculus meets them: read, cut, grown.
-/
import Derived.Test.YtpcgbkjdobjdaaaGreatDoorAbsG
section
set_option linter.unusedSimpArgs false
set_option linter.unusedVariables false
namespace Go.Abs

structure POp where
  dst : Option Tmp
  op : Op
  guard : Option (Tmp × Bool)

inductive PC where
  | skip
  | reg (ops : List POp)
  | regD (n : Nat) (ops : List POp)
  | draw (ops : Array Oper)
  | seq (a b : PC)
  | cond (c : Operand) (a b : PC)
  | block (id : Nat) (c : PC)
  | loop (c : PC)
  | exit (id : Nat)
  | ret
  | bad

noncomputable def dstOk (nt : Nat) : Option Tmp → Bool
  | none => true
  | some d => Nat.blt d nt
noncomputable def popOf (nt : Nat) (ops : Array Oper) (o : Oper) : Option POp :=
  bif dstOk nt o.dst then
    match o.guard with
    | none => some ⟨o.dst, o.op, none⟩
    | some (j, w) => match (ops[j]?).bind (·.dst) with
      | some t => some ⟨o.dst, o.op, some (t, w)⟩
      | none => none
  else none
noncomputable def popsOf (nt : Nat) (ops : Array Oper) : List Oper → Option (List POp)
  | [] => some []
  | o :: r => match popOf nt ops o, popsOf nt ops r with
    | some p, some l => some (p :: l)
    | _, _ => none
noncomputable def regOf (nt : Nat) (ops : Array Oper) : PC :=
  match popsOf nt ops ops.toList with
  | some l => .reg l
  | none => .bad
noncomputable def regDOf (nt : Nat) (ops : Array Oper) : PC :=
  match popsOf nt ops ops.toList with
  | some l => .regD ops.size l
  | none => .bad

/-- May the operation load from an object? -/
noncomputable def mayLoad : Op → Bool
  | .load .. | .convert .. | .slice .. | .lookup .. => true
  | .call { callee := .builtin .len, .. } => true
  | _ => false
/-- Is each load of the region in order with each loud operation? -/
noncomputable def loadsIn (E : Env) (m : PM Nat) (i : Nat) (y : Oper) : Nat → List Oper → Bool
  | _, [] => true
  | j, x :: r => (!loudOp E x.op || bit m i j || bit m j i) && loadsIn E m i y (j + 1) r
noncomputable def loadsAll (E : Env) (m : PM Nat) (all : List Oper) : Nat → List Oper → Bool
  | _, [] => true
  | i, y :: r => (!mayLoad y.op || loadsIn E m i y 0 all) && loadsAll E m all (i + 1) r
/-- A region whose open order is of no matter, as far as the text tells. -/
noncomputable def plainReg (E : Env) (ops : Array Oper) : Bool :=
  allPairs E ops (masks 0 ops.toList .leaf) 0 ops.toList && ops.toList.all (fun o => !isMk E o) && loadsAll E (masks 0 ops.toList .leaf) ops.toList 0 ops.toList

noncomputable def comp (E : Env) (nt : Nat) : Code → PC
  | .skip => .skip
  | .label _ => .skip
  | .region _ ops false => regOf nt ops
  | .region _ ops true => bif plainReg E ops then regDOf nt ops else .draw ops
  | .seq a b => bif (mapStmt (.seq a b)).isSome then .bad else .seq (comp E nt a) (comp E nt b)
  | .cond c a b => .cond c (comp E nt a) (comp E nt b)
  | .block id c => .block id (comp E nt c)
  | .loop c => .loop (comp E nt c)
  | .scope c => comp E nt c
  | .exit id => .exit id
  | .ret => .ret
  | _ => .bad

noncomputable def opOf (dst : Option Tmp) (op : Op) : Oper := ⟨dst, op, 0, "", #[], none⟩
noncomputable def setD (tm : PM AV) : Option Tmp → AV → PM AV
  | none, _ => tm
  | some d, v => tm.set d v
/-- n numbers set aside. -/
noncomputable def St.raise (S : St) (n : Nat) : St := { S with no := S.no + n }
noncomputable def guardOf (tm : PM AV) : Option (Tmp × Bool) → Option Bool
  | none => some true
  | some (t, want) => match getT tm t with
    | .sc (.bool b) => some (b == want)
    | .sc (.tuple _) => some false
    | _ => none

noncomputable def evL (E : Env) (call : CallFn) : List POp → PM AV → St → Option (PM AV × St)
  | [], tm, S => some (tm, S)
  | p :: r, tm, S => match guardOf tm p.guard with
    | none => none
    | some false => evL E call r (setD tm p.dst passed) S
    | some true => match evOp E call tm (opOf p.dst p.op) S with
      | none => none
      | some (v, S') => evL E call r (setD tm p.dst v) S'

noncomputable def evP (E : Env) (call : CallFn) (lf nt : Nat) : PC → PM AV → St → Option (Out × PM AV × St)
  | .skip, tm, S => some (.nrm, tm, S)
  | .reg l, tm, S => match evL E call l tm S with
    | some (tm', S') => some (.nrm, tm', S')
    | none => none
  | .regD n l, tm, S => match evL E call l tm (S.raise n) with
    | some (tm', S') => some (.nrm, tm', S')
    | none => none
  | .draw ops, tm, S => match evDraw E call nt ops tm S with
    | some (tm', S') => some (.nrm, tm', S')
    | none => none
  | .seq x y, tm, S => match evP E call lf nt x tm S with
    | some (.nrm, tm', S') => evP E call lf nt y tm' S'
    | r => r
  | .cond c x y, tm, S => match E.ev tm c with
    | .sc (.bool true) => evP E call lf nt x tm S
    | .sc (.bool false) => evP E call lf nt y tm S
    | _ => none
  | .block id c, tm, S => match evP E call lf nt c tm S with
    | some (.exit j, tm', S') => bif Nat.beq j id then some (.nrm, tm', S') else some (.exit j, tm', S')
    | r => r
  | .loop c, tm, S => iter (evP E call lf nt c) lf tm S
  | .exit id, tm, S => some (.exit id, tm, S)
  | .ret, tm, S => some (.ret, tm, S)
  | .bad, _, _ => none

section
variable {E : Env} {call : CallFn} {lf nt : Nat}

theorem evOp_opOf (tm : PM AV) (o : Oper) (S : St) : evOp E call tm o S = evOp E call tm (opOf o.dst o.op) S := by
  obtain ⟨dst, op, ty, pos, after, guard⟩ := o
  cases op <;> rfl

theorem putA_setD {tm : PM AV} {dst : Option Tmp} {v : AV} (h : dstOk nt dst = true) : putA nt dst v tm = some (setD tm dst v) := by
  cases dst with
  | none => rfl
  | some d =>
    simp only [dstOk] at h
    simp [putA, setD, h]

theorem seq_of_evL {ops : Array Oper} : ∀ (l : List Oper) (pl : List POp) (tm : PM AV) (S : St) (r : PM AV × St), popsOf nt ops l = some pl → evL E call pl tm S = some r → evSeq E call nt ops l tm S = some r
  | [], pl, tm, S, r, hp, h => by
    simp [popsOf] at hp; subst hp
    simpa [evL, evSeq] using h
  | o :: l, pl, tm, S, r, hp, h => by
    simp only [popsOf] at hp
    split at hp
    · rename_i p pl' h1 h2
      simp only [Option.some.injEq] at hp
      subst hp
      simp only [popOf] at h1
      cases hd : dstOk nt o.dst with
      | false => rw [hd] at h1; simp at h1
      | true =>
        rw [hd] at h1
        simp only [cond_true] at h1
        have hw : wantedA ops tm o = guardOf tm p.guard ∧ p.dst = o.dst ∧ p.op = o.op := by
          unfold wantedA
          cases hg : o.guard with
          | none => simp only [hg, Option.some.injEq] at h1; subst h1; exact ⟨rfl, rfl, rfl⟩
          | some q =>
            obtain ⟨j, w⟩ := q
            simp only [hg] at h1 ⊢
            cases hdd : (ops[j]?).bind (·.dst) with
            | none => simp [hdd] at h1
            | some t =>
              simp only [hdd, Option.some.injEq] at h1
              subst h1
              exact ⟨rfl, rfl, rfl⟩
        obtain ⟨hw1, hw2, hw3⟩ := hw
        simp only [evL] at h
        rw [← hw1] at h
        simp only [evSeq]
        split at h
        · simp at h
        · rename_i hwa
          simp only [hwa, putA_setD hd]
          rw [hw2] at h
          exact seq_of_evL l pl' _ _ _ h2 h
        · rename_i hwa
          rw [hw3, hw2] at h
          simp only [hwa]
          rw [evOp_opOf]
          split at h
          · simp at h
          · rename_i v S' hev
            rw [hev]
            simp only [putA_setD hd]
            exact seq_of_evL l pl' _ _ _ h2 h
    · simp at hp

theorem maskF_off {mk : Nat → Bool} (h : ∀ k, mk k = false) (m : PM Nat) (b0 j : Nat) (S : St) : ∀ n, maskF mk m b0 j S n = S.objs
  | 0 => rfl
  | n + 1 => by simp [maskF, hid, h n, maskF_off h m b0 j S n]
theorem unmaskF_off {mk : Nat → Bool} (h : ∀ k, mk k = false) (m : PM Nat) (b0 j : Nat) (S : St) (os : PM AObj) : ∀ n, unmaskF mk m b0 j S os n = os
  | 0 => rfl
  | n + 1 => by simp [unmaskF, hid, h n, unmaskF_off h m b0 j S os n]
theorem mkAt_off {ops : Array Oper} (h : ops.toList.all (fun o => !isMk E o) = true) (k : Nat) : mkAt E ops k = false := by
  unfold mkAt
  split
  · rename_i o ho
    have := List.all_eq_true.1 h o (by simpa using Array.mem_of_getElem? ho)
    simpa using this
  · rfl

theorem plain_no_load {tm : PM AV} {o : Oper} (h : mayLoad o.op = false) : loadsFrom E tm o = none := by
  obtain ⟨dst, op, ty, pos, after, guard⟩ := o
  cases op with
  | call c =>
    obtain ⟨callee, args, ats⟩ := c
    cases callee with
    | builtin b => cases b <;> first | rfl | simp [mayLoad] at h
    | _ => rfl
  | _ => first | rfl | simp [mayLoad] at h

theorem draw_of_seq {ops : Array Oper} {m : PM Nat} {b0 : Nat} (hmk : ops.toList.all (fun o => !isMk E o) = true) : ∀ (l : List Oper) (i : Nat) (tm : PM AV) (S : St) (tm' : PM AV) (S' : St), ops.toList.drop i = l → evSeq E call nt ops l tm S = some (tm', S') →
    ∃ hist ls, evDrawGo E call nt ops m b0 i l tm S = some (tm', S', hist, ls) ∧ (∀ h ∈ hist, ∃ o, ops[h.1]? = some o ∧ loudOp E o.op = true) ∧ (∀ p ∈ ls, ∃ o, ops[p.1]? = some o ∧ mayLoad o.op = true)
  | [], i, tm, S, tm', S', _, h => by
    simp only [evSeq, Option.some.injEq, Prod.mk.injEq] at h
    obtain ⟨rfl, rfl⟩ := h
    exact ⟨[], [], rfl, by simp, by simp⟩
  | o :: l, i, tm, S, tm', S', hd, h => by
    have hko : ops[i]? = some o := by
      have h0 : (ops.toList.drop i)[0]? = some o := by rw [hd]; rfl
      rw [List.getElem?_drop] at h0
      simpa using h0
    have hrest : ops.toList.drop (i + 1) = l := by rw [← List.drop_drop, hd]; rfl
    have hmo : isMk E o = false := by
      have := List.all_eq_true.1 hmk o (by simpa using Array.mem_of_getElem? hko)
      simpa using this
    have hm0 := fun k => mkAt_off hmk k
    simp only [evSeq] at h
    simp only [evDrawGo]
    split at h
    · simp at h
    · split at h
      · rename_i tm1 hp
        exact draw_of_seq hmk l (i + 1) _ _ _ _ hrest h
      · simp at h
    · simp only [evOp, hmo, cond_false] at h ⊢
      split at h
      · simp at h
      · rename_i v S1 hev
        split at h
        · rename_i tm1 hp
          obtain ⟨hist, ls, hgo, h1, h2⟩ := draw_of_seq hmk l (i + 1) _ _ _ _ hrest h
          cases hq : loudOp E o.op with
          | true =>
            have e1 : S.masked (mkAt E ops) m b0 i = S := by
              unfold St.masked; rw [maskF_off hm0]
            have e2 : S1.unmasked S (mkAt E ops) m b0 i = S1 := by
              unfold St.unmasked; rw [unmaskF_off hm0]
            simp only [cond_true, e1, hev, hp, e2]
            rw [hgo]
            refine ⟨_, _, rfl, fun x hx => ?_, h2⟩
            rcases List.mem_cons.1 hx with rfl | hx
            · exact ⟨o, hko, hq⟩
            · exact h1 x hx
          | false =>
            simp only [cond_false, hev, hp]
            rw [hgo]
            refine ⟨_, _, rfl, h1, fun x hx => ?_⟩
            cases hld : loadsFrom E tm o with
            | none => rw [hld] at hx; exact h2 x hx
            | some a =>
              rw [hld] at hx
              rcases List.mem_cons.1 hx with rfl | hx
              · refine ⟨o, hko, ?_⟩
                cases hml : mayLoad o.op with
                | true => rfl
                | false => rw [plain_no_load hml] at hld; simp at hld
              · exact h2 x hx
        · simp at h

theorem loadsIn_at {m : PM Nat} {i : Nat} {y : Oper} : ∀ (l : List Oper) (j : Nat), loadsIn E m i y j l = true → ∀ k x, l[k]? = some x → loudOp E x.op = true → bit m i (j + k) = true ∨ bit m (j + k) i = true := by
  intro l
  induction l with
  | nil => intro j _ k x hx; simp at hx
  | cons x r ih =>
    intro j h k x' hx hl
    simp only [loadsIn, Bool.and_eq_true, Bool.or_eq_true] at h
    cases k with
    | zero =>
      simp at hx; subst hx
      rcases h.1 with (h' | h') | h'
      · rw [hl] at h'; cases h'
      · exact .inl h'
      · exact .inr h'
    | succ k =>
      have := ih (j + 1) h.2 k x' (by simpa using hx) hl
      rwa [show j + 1 + k = j + (k + 1) by omega] at this
theorem loadsAll_at {m : PM Nat} {all : List Oper} : ∀ (l : List Oper) (i : Nat), loadsAll E m all i l = true → ∀ k y, l[k]? = some y → mayLoad y.op = true → loadsIn E m (i + k) y 0 all = true := by
  intro l
  induction l with
  | nil => intro i _ k y hy; simp at hy
  | cons y r ih =>
    intro i h k y' hy hl
    simp only [loadsAll, Bool.and_eq_true, Bool.or_eq_true] at h
    cases k with
    | zero =>
      simp at hy; subst hy
      rcases h.1 with h' | h'
      · rw [hl] at h'; cases h'
      · exact h'
    | succ k =>
      have := ih (i + 1) h.2 k y' (by simpa using hy) hl
      rwa [show i + 1 + k = i + (k + 1) by omega] at this

theorem plainReg_ok {ops : Array Oper} {tm : PM AV} {S : St} {tm' : PM AV} {S' : St} (hp : plainReg E ops = true) (h : evSeq E call nt ops ops.toList tm (S.raise ops.size) = some (tm', S')) : evDraw E call nt ops tm S = some (tm', S') := by
  simp only [plainReg, Bool.and_eq_true] at hp
  obtain ⟨⟨h1, h2⟩, h3⟩ := hp
  obtain ⟨hist, ls, hgo, k1, k2⟩ := draw_of_seq (m := masks 0 ops.toList .leaf) (b0 := S.no) h2 ops.toList 0 tm _ tm' S' rfl h
  have hl : ls.all (loadOk E ops (masks 0 ops.toList .leaf) S.no ops.size hist) = true := by
    refine List.all_eq_true.2 fun p hp => ?_
    obtain ⟨y, hy, hy2⟩ := k2 p hp
    have hin := loadsAll_at _ _ h3 p.1 y (by simpa using hy) hy2
    rw [Nat.zero_add] at hin
    simp only [loadOk, mkAt_off h2, Bool.not_false, Bool.or_true, Bool.true_or, Bool.and_true]
    refine List.all_eq_true.2 fun x hx => ?_
    obtain ⟨o, ho, ho2⟩ := k1 x hx
    have := loadsIn_at _ _ hin x.1 o (by simpa using ho) ho2
    rw [Nat.zero_add] at this
    rcases this with h | h <;> simp [h]
  have e : evDraw E call nt ops tm S = (bif allPairs E ops (masks 0 ops.toList .leaf) 0 ops.toList then
    match evDrawGo E call nt ops (masks 0 ops.toList .leaf) S.no 0 ops.toList tm (S.raise ops.size) with
    | some (tm', S', hist, ls) => bif ls.all (loadOk E ops (masks 0 ops.toList .leaf) S.no ops.size hist) then some (tm', S') else none
    | none => none
  else none) := rfl
  rw [e, h1, hgo]
  simp only [cond_true, hl]

theorem comp_ok : ∀ (c : Code) (tm : PM AV) (S : St) (r : Out × PM AV × St), evP E call lf nt (comp E nt c) tm S = some r → evC (mac1 E call lf nt) E call lf nt c tm S = some r := by
  intro c
  induction c with
  | region id ops draw =>
    intro tm S r h
    cases draw with
    | false =>
      simp only [comp, regOf] at h
      split at h
      · rename_i l hl
        simp only [evP] at h
        split at h
        · rename_i tm' S' he
          simp only [evC, seq_of_evL _ _ _ _ _ hl he]
          exact h
        · simp at h
      · simp [evP] at h
    | true =>
      simp only [comp] at h
      cases hb : plainReg E ops with
      | true =>
        rw [hb] at h
        simp only [cond_true, regDOf] at h
        split at h
        · rename_i l hl
          simp only [evP] at h
          split at h
          · rename_i tm' S' he
            simp only [evC, plainReg_ok hb (seq_of_evL _ _ _ _ _ hl he)]
            exact h
          · simp at h
        · simp [evP] at h
      | false =>
        rw [hb] at h
        simp only [cond_false, evP] at h
        simp only [evC]
        exact h
  | seq x y ihx ihy =>
    intro tm S r h
    simp only [comp] at h
    cases hm : mapStmt (.seq x y) with
    | some m => rw [hm] at h; cases h
    | none =>
    rw [hm] at h
    have hM : mac1 E call lf nt (.seq x y) = none := by unfold mac1; rw [hm]
    simp only [Option.isSome_none, cond_false, evP] at h
    simp only [evC, hM]
    split at h
    · rename_i tm1 S1 h1
      rw [ihx _ _ _ h1]
      exact ihy _ _ _ h
    · rename_i hne
      have := ihx _ _ _ h
      rw [this]
      obtain ⟨o, tm', S'⟩ := r
      cases o with
      | nrm => exact absurd h (hne tm' S')
      | exit id => rfl
      | ret => rfl
  | cond c x y ihx ihy =>
    intro tm S r h
    simp only [comp, evP] at h
    simp only [evC]
    split at h
    · rename_i hev; rw [hev]; exact ihx _ _ _ h
    · rename_i hev; rw [hev]; exact ihy _ _ _ h
    · simp at h
  | block id c ih =>
    intro tm S r h
    simp only [comp, evP] at h
    simp only [evC]
    split at h
    · rename_i j tm1 S1 h1
      rw [ih _ _ _ h1]
      exact h
    · rename_i hne
      have := ih _ _ _ h
      rw [this]
      obtain ⟨o, tm', S'⟩ := r
      cases o with
      | nrm => rfl
      | exit j => exact absurd h (hne j tm' S')
      | ret => rfl
  | loop c ih =>
    intro tm S r h
    simp only [comp, evP] at h
    simp only [evC]
    have key : ∀ (k : Nat) (tm : PM AV) (S : St) (r : Out × PM AV × St), iter (evP E call lf nt (comp E nt c)) k tm S = some r → iter (evC (mac1 E call lf nt) E call lf nt c) k tm S = some r := by
      intro k
      induction k with
      | zero => intro tm S r h; simp [iter] at h
      | succ k ihk =>
        intro tm S r h
        simp only [iter] at h ⊢
        split at h
        · simp at h
        · rename_i h1
          rw [ih _ _ _ h1]
          exact ihk _ _ _ h
        · rename_i h1
          rw [ih _ _ _ h1]
          exact h
        · rename_i h1
          rw [ih _ _ _ h1]
          exact h
    exact key _ _ _ _ h
  | scope c ih => intro tm S r h; simp only [comp] at h; simp only [evC]; exact ih _ _ _ h
  | skip => intro tm S r h; exact h
  | label l => intro tm S r h; exact h
  | exit id => intro tm S r h; exact h
  | ret => intro tm S r h; exact h
  | _ => intro tm S r h; simp [comp, evP] at h

end
end Go.Abs
end

section
set_option linter.unusedSimpArgs false
set_option linter.unusedVariables false
namespace Go.Abs

/-- The call comes to r and S', wherever rounds and depth suffice. -/
noncomputable def EvA (E : Env) (f : FuncId) (args : List AV) (S : St) (r : AV) (S' : St) : Prop := ∃ N, ∀ lf n, N ≤ lf → N ≤ n → evF E lf n f args S = some (r, S')

inductive KI where
  | c (p : PC)
  | blk (id : Nat)

noncomputable def runK (E : Env) (call : CallFn) (lf nt : Nat) : List KI → Out → PM AV → St → Option (Out × PM AV × St)
  | [], o, tm, S => some (o, tm, S)
  | .c p :: k, .nrm, tm, S => match evP E call lf nt p tm S with
    | some (o, tm', S') => runK E call lf nt k o tm' S'
    | none => none
  | .c _ :: k, .exit j, tm, S => runK E call lf nt k (.exit j) tm S
  | .c _ :: k, .ret, tm, S => runK E call lf nt k .ret tm S
  | .blk _ :: k, .nrm, tm, S => runK E call lf nt k .nrm tm S
  | .blk id :: k, .exit j, tm, S => bif Nat.beq j id then runK E call lf nt k .nrm tm S else runK E call lf nt k (.exit j) tm S
  | .blk _ :: k, .ret, tm, S => runK E call lf nt k .ret tm S

abbrev PostA := Out → PM AV → St → Prop

/-- From here the code comes to an end, and there Q holds. -/
noncomputable def EndsA (E : Env) (nt : Nat) (k : List KI) (o : Out) (tm : PM AV) (S : St) (Q : PostA) : Prop :=
  ∃ N o' tm' S', (∀ lf n, N ≤ lf → N ≤ n → runK E (evF E lf n) lf nt k o tm S = some (o', tm', S')) ∧ Q o' tm' S'

section
variable {E : Env} {nt : Nat} {k : List KI} {tm : PM AV} {S : St} {Q : PostA} {o : Out}

theorem ends_congr {k2 : List KI} {o2 : Out} {tm2 : PM AV} {S2 : St} (h : ∀ call lf, runK E call lf nt k o tm S = runK E call lf nt k2 o2 tm2 S2) : EndsA E nt k o tm S Q = EndsA E nt k2 o2 tm2 S2 Q := by
  simp only [EndsA, h]

theorem e_nil : EndsA E nt [] o tm S Q = Q o tm S := by
  refine propext ⟨?_, fun h => ⟨0, o, tm, S, fun _ _ _ _ => rfl, h⟩⟩
  rintro ⟨N, o', tm', S', h, hq⟩
  have := h N N (Nat.le_refl _) (Nat.le_refl _)
  simp only [runK, Option.some.injEq, Prod.mk.injEq] at this
  obtain ⟨rfl, rfl, rfl⟩ := this
  exact hq
theorem e_skip : EndsA E nt (.c .skip :: k) .nrm tm S Q = EndsA E nt k .nrm tm S Q := ends_congr fun _ _ => rfl
theorem e_exit (j : Nat) : EndsA E nt (.c (.exit j) :: k) .nrm tm S Q = EndsA E nt k (.exit j) tm S Q := ends_congr fun _ _ => rfl
theorem e_ret : EndsA E nt (.c .ret :: k) .nrm tm S Q = EndsA E nt k .ret tm S Q := ends_congr fun _ _ => rfl
theorem e_c_exit (p : PC) (j : Nat) : EndsA E nt (.c p :: k) (.exit j) tm S Q = EndsA E nt k (.exit j) tm S Q := ends_congr fun _ _ => rfl
theorem e_blk_nrm (j : Nat) : EndsA E nt (.blk j :: k) .nrm tm S Q = EndsA E nt k .nrm tm S Q := ends_congr fun _ _ => rfl
theorem e_blk_exit (id j : Nat) : EndsA E nt (.blk id :: k) (.exit j) tm S Q = if j = id then EndsA E nt k .nrm tm S Q else EndsA E nt k (.exit j) tm S Q := by
  by_cases h : j = id
  · rw [if_pos h]; exact ends_congr fun _ _ => by simp [runK, h]
  · rw [if_neg h]; exact ends_congr fun _ _ => by simp [runK, beqF h]
theorem e_pop_ret : EndsA E nt k .ret tm S Q = Q .ret tm S := by
  induction k with
  | nil => exact e_nil
  | cons a k ih => cases a <;> (rw [← ih]; exact ends_congr fun _ _ => rfl)
theorem e_seq (a b : PC) : EndsA E nt (.c (.seq a b) :: k) .nrm tm S Q = EndsA E nt (.c a :: .c b :: k) .nrm tm S Q := by
  refine ends_congr fun call lf => ?_
  simp only [runK, evP]
  cases evP E call lf nt a tm S with
  | none => rfl
  | some r =>
    obtain ⟨o, tm', S'⟩ := r
    cases o <;> rfl
theorem e_block (id : Nat) (a : PC) : EndsA E nt (.c (.block id a) :: k) .nrm tm S Q = EndsA E nt (.c a :: .blk id :: k) .nrm tm S Q := by
  refine ends_congr fun call lf => ?_
  simp only [runK, evP]
  cases evP E call lf nt a tm S with
  | none => rfl
  | some r =>
    obtain ⟨o, tm', S'⟩ := r
    cases o with
    | exit j => simp only [runK]; cases Nat.beq j id <;> rfl
    | _ => rfl
theorem e_reg_nil : EndsA E nt (.c (.reg []) :: k) .nrm tm S Q = EndsA E nt k .nrm tm S Q := ends_congr fun _ _ => rfl
theorem e_regD (n : Nat) (l : List POp) : EndsA E nt (.c (.regD n l) :: k) .nrm tm S Q = EndsA E nt (.c (.reg l) :: k) .nrm tm (S.raise n) Q := ends_congr fun _ _ => rfl

/-- A test, its value known. -/
noncomputable def CondK (E : Env) (nt : Nat) (v : AV) (a b : PC) (k : List KI) (tm : PM AV) (S : St) (Q : PostA) : Prop :=
  match v with
  | .sc (.bool true) => EndsA E nt (.c a :: k) .nrm tm S Q
  | .sc (.bool false) => EndsA E nt (.c b :: k) .nrm tm S Q
  | _ => False
theorem not_ends_none (h : ∀ call lf, runK E call lf nt k o tm S = none) : EndsA E nt k o tm S Q = False := by
  refine propext ⟨?_, False.elim⟩
  rintro ⟨N, o', tm', S', h1, _⟩
  have := h1 N N (Nat.le_refl _) (Nat.le_refl _)
  rw [h] at this; cases this
theorem e_cond (c : Operand) (a b : PC) : EndsA E nt (.c (.cond c a b) :: k) .nrm tm S Q = CondK E nt (E.ev tm c) a b k tm S Q := by
  unfold CondK
  split
  · rename_i h; exact ends_congr fun _ _ => by simp only [runK, evP, h]
  · rename_i h; exact ends_congr fun _ _ => by simp only [runK, evP, h]
  · rename_i h1 h2
    refine not_ends_none fun call lf => ?_
    have : evP E call lf nt (.cond c a b) tm S = none := by
      simp only [evP]
    simp only [runK, this]
theorem condK_true (a b : PC) : CondK E nt (.sc (.bool true)) a b k tm S Q = EndsA E nt (.c a :: k) .nrm tm S Q := rfl
theorem condK_false (a b : PC) : CondK E nt (.sc (.bool false)) a b k tm S Q = EndsA E nt (.c b :: k) .nrm tm S Q := rfl
theorem condK_of {p : Bool} {a b : PC} (h1 : p = true → EndsA E nt (.c a :: k) .nrm tm S Q) (h2 : p = false → EndsA E nt (.c b :: k) .nrm tm S Q) : CondK E nt (.sc (.bool p)) a b k tm S Q := by
  cases p
  · exact h2 rfl
  · exact h1 rfl

/-- An operation's outcome. -/
noncomputable def OpK (E : Env) (nt : Nat) (d : Option Tmp) (r : List POp) (k : List KI) (tm : PM AV) (Q : PostA) (v : Option (AV × St)) : Prop :=
  match v with
  | some (v, S) => EndsA E nt (.c (.reg r) :: k) .nrm (setD tm d v) S Q
  | none => False
theorem opK_some (d : Option Tmp) (r : List POp) (v : AV) : OpK E nt d r k tm Q (some (v, S)) = EndsA E nt (.c (.reg r) :: k) .nrm (setD tm d v) S Q := rfl

noncomputable def notCall : Op → Bool
  | .call { callee := .builtin _, .. } => true
  | .call _ => false
  | _ => true
theorem nc_move (x : Operand) : notCall (.move x) = true := rfl
theorem nc_assign (x : Operand) : notCall (.assign x) = true := rfl
theorem nc_pick (x y z : Operand) : notCall (.pick x y z) = true := rfl
theorem nc_alloc (t : TypeId) : notCall (.alloc t) = true := rfl
theorem nc_box (t : TypeId) (x : Operand) : notCall (.box t x) = true := rfl
theorem nc_build (t : TypeId) (p : Array (Nat × Operand)) : notCall (.build t p) = true := rfl
theorem nc_buildSlice (t : TypeId) (n : Nat) (p : Array (Nat × Operand)) : notCall (.buildSlice t n p) = true := rfl
theorem nc_load (t : TypeId) (x : Operand) : notCall (.load t x) = true := rfl
theorem nc_store (t : TypeId) (x y : Operand) : notCall (.store t x y) = true := rfl
theorem nc_nilCheck (x : Operand) : notCall (.nilCheck x) = true := rfl
theorem nc_bin (b : BinOp) (t : TypeId) (x y : Operand) (u : TypeId) : notCall (.binOp b t x y u) = true := rfl
theorem nc_un (b : UnOp) (t : TypeId) (x : Operand) : notCall (.unOp b t x) = true := rfl
theorem nc_convert (t u : TypeId) (x : Operand) : notCall (.convert t u x) = true := rfl
theorem nc_slice (t : TypeId) (x : Operand) (a b c : Option Operand) : notCall (.slice t x a b c) = true := rfl
theorem nc_makeSlice (t : TypeId) (x y : Operand) : notCall (.makeSlice t x y) = true := rfl
theorem nc_lookup (t : TypeId) (x y : Operand) (b : Bool) : notCall (.lookup t x y b) = true := rfl
theorem nc_mapUpdate (t : TypeId) (x y z : Operand) : notCall (.mapUpdate t x y z) = true := rfl
theorem nc_makeMap (t : TypeId) (x : Option Operand) : notCall (.makeMap t x) = true := rfl
theorem nc_range (t : TypeId) (x : Operand) : notCall (.range t x) = true := rfl
theorem nc_next (x : Operand) (b : Bool) : notCall (.next x b) = true := rfl
theorem nc_fieldAddr (t : TypeId) (x : Operand) (f : Nat) : notCall (.fieldAddr t x f) = true := rfl
theorem nc_field (t : TypeId) (x : Operand) (f : Nat) : notCall (.field t x f) = true := rfl
theorem nc_indexAddr (t : TypeId) (x y : Operand) : notCall (.indexAddr t x y) = true := rfl
theorem nc_index (t : TypeId) (x y : Operand) : notCall (.index t x y) = true := rfl
theorem nc_extract (x : Operand) (f : Nat) : notCall (.extract x f) = true := rfl
theorem nc_makeFunc (f : Fn) (x y : Array Operand) : notCall (.makeFunc f x y) = true := rfl
theorem nc_makeInterface (t : TypeId) (x : Operand) : notCall (.makeInterface t x) = true := rfl
theorem nc_builtin (b : Builtin) (x : Array Operand) (a : Array TypeId) : notCall (.call { callee := .builtin b, args := x, argTypes := a }) = true := rfl
/-- An operation that is no call. -/
noncomputable def opV (E : Env) (tm : PM AV) (d : Option Tmp) (op : Op) (S : St) : Option (AV × St) := evOp E (fun _ _ _ => none) tm (opOf d op) S
theorem opV_eq (call : CallFn) (d : Option Tmp) (op : Op) (h : notCall op = true) : evOp E call tm (opOf d op) S = opV E tm d op S := by
  unfold opV
  cases op with
  | call c =>
    obtain ⟨callee, args, ats⟩ := c
    cases callee with
    | builtin b => rfl
    | _ => simp [notCall] at h
  | slice t x lo hi mx => cases hi <;> cases mx <;> rfl
  | _ => rfl
theorem e_op (d : Option Tmp) (op : Op) (r : List POp) (h : notCall op = true) : EndsA E nt (.c (.reg (⟨d, op, none⟩ :: r)) :: k) .nrm tm S Q = OpK E nt d r k tm Q (opV E tm d op S) := by
  unfold OpK
  split
  · rename_i v S' hv
    exact ends_congr fun call lf => by simp only [runK, evP, evL, guardOf, opV_eq call d op h, hv]
  · rename_i hv
    exact not_ends_none fun call lf => by simp only [runK, evP, evL, guardOf, opV_eq call d op h, hv]

theorem eo_move {d : Option Tmp} {r : List POp} (x : Operand) : EndsA E nt (.c (.reg (⟨d, (.move x), none⟩ :: r)) :: k) .nrm tm S Q = OpK E nt d r k tm Q (opV E tm d (.move x) S) := e_op d _ r rfl
theorem eo_assign {d : Option Tmp} {r : List POp} (x : Operand) : EndsA E nt (.c (.reg (⟨d, (.assign x), none⟩ :: r)) :: k) .nrm tm S Q = OpK E nt d r k tm Q (opV E tm d (.assign x) S) := e_op d _ r rfl
theorem eo_pick {d : Option Tmp} {r : List POp} (x y z : Operand) : EndsA E nt (.c (.reg (⟨d, (.pick x y z), none⟩ :: r)) :: k) .nrm tm S Q = OpK E nt d r k tm Q (opV E tm d (.pick x y z) S) := e_op d _ r rfl
theorem eo_alloc {d : Option Tmp} {r : List POp} (t : TypeId) : EndsA E nt (.c (.reg (⟨d, (.alloc t), none⟩ :: r)) :: k) .nrm tm S Q = OpK E nt d r k tm Q (opV E tm d (.alloc t) S) := e_op d _ r rfl
theorem eo_box {d : Option Tmp} {r : List POp} (t : TypeId) (x : Operand) : EndsA E nt (.c (.reg (⟨d, (.box t x), none⟩ :: r)) :: k) .nrm tm S Q = OpK E nt d r k tm Q (opV E tm d (.box t x) S) := e_op d _ r rfl
theorem eo_build {d : Option Tmp} {r : List POp} (t : TypeId) (p : Array (Nat × Operand)) : EndsA E nt (.c (.reg (⟨d, (.build t p), none⟩ :: r)) :: k) .nrm tm S Q = OpK E nt d r k tm Q (opV E tm d (.build t p) S) := e_op d _ r rfl
theorem eo_buildSlice {d : Option Tmp} {r : List POp} (t : TypeId) (n : Nat) (p : Array (Nat × Operand)) : EndsA E nt (.c (.reg (⟨d, (.buildSlice t n p), none⟩ :: r)) :: k) .nrm tm S Q = OpK E nt d r k tm Q (opV E tm d (.buildSlice t n p) S) := e_op d _ r rfl
theorem eo_load {d : Option Tmp} {r : List POp} (t : TypeId) (x : Operand) : EndsA E nt (.c (.reg (⟨d, (.load t x), none⟩ :: r)) :: k) .nrm tm S Q = OpK E nt d r k tm Q (opV E tm d (.load t x) S) := e_op d _ r rfl
theorem eo_store {d : Option Tmp} {r : List POp} (t : TypeId) (x y : Operand) : EndsA E nt (.c (.reg (⟨d, (.store t x y), none⟩ :: r)) :: k) .nrm tm S Q = OpK E nt d r k tm Q (opV E tm d (.store t x y) S) := e_op d _ r rfl
theorem eo_nilCheck {d : Option Tmp} {r : List POp} (x : Operand) : EndsA E nt (.c (.reg (⟨d, (.nilCheck x), none⟩ :: r)) :: k) .nrm tm S Q = OpK E nt d r k tm Q (opV E tm d (.nilCheck x) S) := e_op d _ r rfl
theorem eo_bin {d : Option Tmp} {r : List POp} (b : BinOp) (t : TypeId) (x y : Operand) (u : TypeId) : EndsA E nt (.c (.reg (⟨d, (.binOp b t x y u), none⟩ :: r)) :: k) .nrm tm S Q = OpK E nt d r k tm Q (opV E tm d (.binOp b t x y u) S) := e_op d _ r rfl
theorem eo_un {d : Option Tmp} {r : List POp} (b : UnOp) (t : TypeId) (x : Operand) : EndsA E nt (.c (.reg (⟨d, (.unOp b t x), none⟩ :: r)) :: k) .nrm tm S Q = OpK E nt d r k tm Q (opV E tm d (.unOp b t x) S) := e_op d _ r rfl
theorem eo_convert {d : Option Tmp} {r : List POp} (t u : TypeId) (x : Operand) : EndsA E nt (.c (.reg (⟨d, (.convert t u x), none⟩ :: r)) :: k) .nrm tm S Q = OpK E nt d r k tm Q (opV E tm d (.convert t u x) S) := e_op d _ r rfl
theorem eo_slice {d : Option Tmp} {r : List POp} (t : TypeId) (x : Operand) (a b c : Option Operand) : EndsA E nt (.c (.reg (⟨d, (.slice t x a b c), none⟩ :: r)) :: k) .nrm tm S Q = OpK E nt d r k tm Q (opV E tm d (.slice t x a b c) S) := e_op d _ r rfl
theorem eo_makeSlice {d : Option Tmp} {r : List POp} (t : TypeId) (x y : Operand) : EndsA E nt (.c (.reg (⟨d, (.makeSlice t x y), none⟩ :: r)) :: k) .nrm tm S Q = OpK E nt d r k tm Q (opV E tm d (.makeSlice t x y) S) := e_op d _ r rfl
theorem eo_lookup {d : Option Tmp} {r : List POp} (t : TypeId) (x y : Operand) (b : Bool) : EndsA E nt (.c (.reg (⟨d, (.lookup t x y b), none⟩ :: r)) :: k) .nrm tm S Q = OpK E nt d r k tm Q (opV E tm d (.lookup t x y b) S) := e_op d _ r rfl
theorem eo_mapUpdate {d : Option Tmp} {r : List POp} (t : TypeId) (x y z : Operand) : EndsA E nt (.c (.reg (⟨d, (.mapUpdate t x y z), none⟩ :: r)) :: k) .nrm tm S Q = OpK E nt d r k tm Q (opV E tm d (.mapUpdate t x y z) S) := e_op d _ r rfl
theorem eo_makeMap {d : Option Tmp} {r : List POp} (t : TypeId) (x : Option Operand) : EndsA E nt (.c (.reg (⟨d, (.makeMap t x), none⟩ :: r)) :: k) .nrm tm S Q = OpK E nt d r k tm Q (opV E tm d (.makeMap t x) S) := e_op d _ r rfl
theorem eo_range {d : Option Tmp} {r : List POp} (t : TypeId) (x : Operand) : EndsA E nt (.c (.reg (⟨d, (.range t x), none⟩ :: r)) :: k) .nrm tm S Q = OpK E nt d r k tm Q (opV E tm d (.range t x) S) := e_op d _ r rfl
theorem eo_next {d : Option Tmp} {r : List POp} (x : Operand) (b : Bool) : EndsA E nt (.c (.reg (⟨d, (.next x b), none⟩ :: r)) :: k) .nrm tm S Q = OpK E nt d r k tm Q (opV E tm d (.next x b) S) := e_op d _ r rfl
theorem eo_fieldAddr {d : Option Tmp} {r : List POp} (t : TypeId) (x : Operand) (f : Nat) : EndsA E nt (.c (.reg (⟨d, (.fieldAddr t x f), none⟩ :: r)) :: k) .nrm tm S Q = OpK E nt d r k tm Q (opV E tm d (.fieldAddr t x f) S) := e_op d _ r rfl
theorem eo_field {d : Option Tmp} {r : List POp} (t : TypeId) (x : Operand) (f : Nat) : EndsA E nt (.c (.reg (⟨d, (.field t x f), none⟩ :: r)) :: k) .nrm tm S Q = OpK E nt d r k tm Q (opV E tm d (.field t x f) S) := e_op d _ r rfl
theorem eo_indexAddr {d : Option Tmp} {r : List POp} (t : TypeId) (x y : Operand) : EndsA E nt (.c (.reg (⟨d, (.indexAddr t x y), none⟩ :: r)) :: k) .nrm tm S Q = OpK E nt d r k tm Q (opV E tm d (.indexAddr t x y) S) := e_op d _ r rfl
theorem eo_index {d : Option Tmp} {r : List POp} (t : TypeId) (x y : Operand) : EndsA E nt (.c (.reg (⟨d, (.index t x y), none⟩ :: r)) :: k) .nrm tm S Q = OpK E nt d r k tm Q (opV E tm d (.index t x y) S) := e_op d _ r rfl
theorem eo_extract {d : Option Tmp} {r : List POp} (x : Operand) (f : Nat) : EndsA E nt (.c (.reg (⟨d, (.extract x f), none⟩ :: r)) :: k) .nrm tm S Q = OpK E nt d r k tm Q (opV E tm d (.extract x f) S) := e_op d _ r rfl
theorem eo_makeFunc {d : Option Tmp} {r : List POp} (f : Fn) (x y : Array Operand) : EndsA E nt (.c (.reg (⟨d, (.makeFunc f x y), none⟩ :: r)) :: k) .nrm tm S Q = OpK E nt d r k tm Q (opV E tm d (.makeFunc f x y) S) := e_op d _ r rfl
theorem eo_makeInterface {d : Option Tmp} {r : List POp} (t : TypeId) (x : Operand) : EndsA E nt (.c (.reg (⟨d, (.makeInterface t x), none⟩ :: r)) :: k) .nrm tm S Q = OpK E nt d r k tm Q (opV E tm d (.makeInterface t x) S) := e_op d _ r rfl
theorem eo_builtin {d : Option Tmp} {r : List POp} (b : Builtin) (x : Array Operand) (a : Array TypeId) : EndsA E nt (.c (.reg (⟨d, (.call { callee := .builtin b, args := x, argTypes := a }), none⟩ :: r)) :: k) .nrm tm S Q = OpK E nt d r k tm Q (opV E tm d (.call { callee := .builtin b, args := x, argTypes := a }) S) := e_op d _ r rfl

/-- An operation with a guard. -/
noncomputable def GuardK (E : Env) (nt : Nat) (g : AV) (want : Bool) (d : Option Tmp) (op : Op) (r : List POp) (k : List KI) (tm : PM AV) (S : St) (Q : PostA) : Prop :=
  match g with
  | .sc (.bool b) => if b = want then EndsA E nt (.c (.reg (⟨d, op, none⟩ :: r)) :: k) .nrm tm S Q else EndsA E nt (.c (.reg r) :: k) .nrm (setD tm d passed) S Q
  | .sc (.tuple _) => EndsA E nt (.c (.reg r) :: k) .nrm (setD tm d passed) S Q
  | _ => False
theorem e_guard (d : Option Tmp) (op : Op) (t : Tmp) (want : Bool) (r : List POp) : EndsA E nt (.c (.reg (⟨d, op, some (t, want)⟩ :: r)) :: k) .nrm tm S Q = GuardK E nt (getT tm t) want d op r k tm S Q := by
  unfold GuardK
  split
  · rename_i b hb
    split
    · rename_i h
      refine ends_congr fun call lf => ?_
      have : (b == want) = true := by simp [h]
      simp only [runK, evP, evL, guardOf, hb, this]
    · rename_i h
      refine ends_congr fun call lf => ?_
      have : (b == want) = false := by simpa using h
      simp only [runK, evP, evL, guardOf, hb, this]
  · rename_i hb
    exact ends_congr fun call lf => by simp only [runK, evP, evL, guardOf, hb]
  · rename_i h1 h2
    refine not_ends_none fun call lf => ?_
    have : guardOf tm (some (t, want)) = none := by
      simp only [guardOf]
    simp only [runK, evP, evL, this]
theorem guardK_same (b : Bool) (d : Option Tmp) (op : Op) (r : List POp) : GuardK E nt (.sc (.bool b)) b d op r k tm S Q = EndsA E nt (.c (.reg (⟨d, op, none⟩ :: r)) :: k) .nrm tm S Q := by simp [GuardK]
theorem guardK_tf (d : Option Tmp) (op : Op) (r : List POp) : GuardK E nt (.sc (.bool true)) false d op r k tm S Q = EndsA E nt (.c (.reg r) :: k) .nrm (setD tm d passed) S Q := by simp [GuardK]
theorem guardK_ft (d : Option Tmp) (op : Op) (r : List POp) : GuardK E nt (.sc (.bool false)) true d op r k tm S Q = EndsA E nt (.c (.reg r) :: k) .nrm (setD tm d passed) S Q := by simp [GuardK]
theorem guardK_passed (w : Bool) (d : Option Tmp) (op : Op) (r : List POp) : GuardK E nt passed w d op r k tm S Q = EndsA E nt (.c (.reg r) :: k) .nrm (setD tm d passed) S Q := rfl
theorem guardK_of {p want : Bool} {d : Option Tmp} {op : Op} {r : List POp} (h1 : p = want → EndsA E nt (.c (.reg (⟨d, op, none⟩ :: r)) :: k) .nrm tm S Q) (h2 : p = !want → EndsA E nt (.c (.reg r) :: k) .nrm (setD tm d passed) S Q) : GuardK E nt (.sc (.bool p)) want d op r k tm S Q := by
  by_cases h : p = want
  · simp only [GuardK, h, if_true]; exact h1 h
  · simp only [GuardK, h, if_false]; exact h2 (by cases p <;> cases want <;> simp_all)

/-- A call. -/
noncomputable def CallK (E : Env) (nt : Nat) (f : FuncId) (args : List AV) (d : Option Tmp) (r : List POp) (k : List KI) (tm : PM AV) (S : St) (Q : PostA) : Prop :=
  ∃ N o' tm' S', (∀ lf n, N ≤ lf → N ≤ n → (match evF E lf n f args S with | some (v, S1) => runK E (evF E lf n) lf nt (.c (.reg r) :: k) .nrm (setD tm d v) S1 | none => none) = some (o', tm', S')) ∧ Q o' tm' S'
theorem callK_of {f : FuncId} {args : List AV} {d : Option Tmp} {r : List POp} {v : AV} {S1 : St} (h : EvA E f args S v S1) (h2 : EndsA E nt (.c (.reg r) :: k) .nrm (setD tm d v) S1 Q) : CallK E nt f args d r k tm S Q := by
  obtain ⟨N1, h1⟩ := h
  obtain ⟨N2, o', tm', S', h2, hq⟩ := h2
  refine ⟨max N1 N2, o', tm', S', fun lf n hl hn => ?_, hq⟩
  rw [h1 lf n (by omega) (by omega)]
  exact h2 lf n (by omega) (by omega)
theorem e_call (d : Option Tmp) (f : FuncId) (xs : Array Operand) (ats : Array TypeId) (r : List POp) (hx : E.ext f = none) : EndsA E nt (.c (.reg (⟨d, .call { callee := .value (.func f), args := xs, argTypes := ats }, none⟩ :: r)) :: k) .nrm tm S Q = CallK E nt f (xs.toList.map (E.ev tm)) d r k tm S Q := by
  have h : ∀ call lf, runK E call lf nt (.c (.reg (⟨d, .call { callee := .value (.func f), args := xs, argTypes := ats }, none⟩ :: r)) :: k) .nrm tm S =
      (match call f (xs.toList.map (E.ev tm)) S with | some (v, S1) => runK E call lf nt (.c (.reg r) :: k) .nrm (setD tm d v) S1 | none => none) := fun call lf => by
    have e : evOp E call tm (opOf d (.call { callee := .value (.func f), args := xs, argTypes := ats })) S = call f (xs.toList.map (E.ev tm)) S := by
      simp only [evOp, opOf, isMk, cond_false, evPlain, callA, Env.ev, fnOf, Array.isEmpty_empty, Bool.and_self, cond_true, hx, List.nil_append, List.append_nil]
    simp only [runK, evP, evL, guardOf, e]
    cases call f (xs.toList.map (E.ev tm)) S with
    | none => rfl
    | some r => rfl
  simp only [EndsA, CallK, h]

/-- A call of a function value that is known. -/
theorem e_callv (d : Option Tmp) (x : Operand) (xs : Array Operand) (ats : Array TypeId) (r : List POp) {g : FuncId} {first cap : List AV} (hf : fnOf (E.ev tm x) = some (g, first, cap)) (hx : E.ext g = none) :
    EndsA E nt (.c (.reg (⟨d, .call { callee := .value x, args := xs, argTypes := ats }, none⟩ :: r)) :: k) .nrm tm S Q = CallK E nt g (first ++ xs.toList.map (E.ev tm) ++ cap) d r k tm S Q := by
  have h : ∀ call lf, runK E call lf nt (.c (.reg (⟨d, .call { callee := .value x, args := xs, argTypes := ats }, none⟩ :: r)) :: k) .nrm tm S =
      (match call g (first ++ xs.toList.map (E.ev tm) ++ cap) S with | some (v, S1) => runK E call lf nt (.c (.reg r) :: k) .nrm (setD tm d v) S1 | none => none) := fun call lf => by
    have e : evOp E call tm (opOf d (.call { callee := .value x, args := xs, argTypes := ats })) S = call g (first ++ xs.toList.map (E.ev tm) ++ cap) S := by
      simp only [evOp, opOf, isMk, cond_false, evPlain, callA, hf, hx]
    simp only [runK, evP, evL, guardOf, e]
    cases call g (first ++ xs.toList.map (E.ev tm) ++ cap) S with
    | none => rfl
    | some r => rfl
  simp only [EndsA, CallK, h]
/-- A call of a library entry. -/
theorem e_ext (d : Option Tmp) (f : FuncId) (xs : Array Operand) (ats : Array TypeId) (r : List POp) {h : List AV → Option AV} {v : AV} (hx : E.ext f = some h) (hv : h (xs.toList.map (E.ev tm)) = some v) :
    EndsA E nt (.c (.reg (⟨d, .call { callee := .value (.func f), args := xs, argTypes := ats }, none⟩ :: r)) :: k) .nrm tm S Q = EndsA E nt (.c (.reg r) :: k) .nrm (setD tm d v) S Q := by
  refine ends_congr fun call lf => ?_
  have e : evOp E call tm (opOf d (.call { callee := .value (.func f), args := xs, argTypes := ats })) S = some (v, S) := by
    simp only [evOp, opOf, isMk, cond_false, evPlain, callA, Env.ev, fnOf, Array.isEmpty_empty, Bool.and_self, cond_true, hx, List.nil_append, List.append_nil, hv, Option.map_some]
  simp only [runK, evP, evL, guardOf, e]

theorem ends_mono {Q2 : PostA} (h : EndsA E nt k o tm S Q) (hq : ∀ o tm S, Q o tm S → Q2 o tm S) : EndsA E nt k o tm S Q2 := by
  obtain ⟨N, o', tm', S', h1, h2⟩ := h
  exact ⟨N, o', tm', S', h1, hq _ _ _ h2⟩

theorem runK_append (call : CallFn) (lf : Nat) : ∀ (k k2 : List KI) (o : Out) (tm : PM AV) (S : St), runK E call lf nt (k ++ k2) o tm S = match runK E call lf nt k o tm S with | some (o', tm', S') => runK E call lf nt k2 o' tm' S' | none => none
  | [], k2, o, tm, S => rfl
  | .c p :: k, k2, .nrm, tm, S => by
    simp only [List.cons_append, runK]
    cases evP E call lf nt p tm S with
    | none => rfl
    | some r => exact runK_append call lf k k2 _ _ _
  | .c p :: k, k2, .exit j, tm, S => runK_append call lf k k2 _ _ _
  | .c p :: k, k2, .ret, tm, S => runK_append call lf k k2 _ _ _
  | .blk id :: k, k2, .nrm, tm, S => runK_append call lf k k2 _ _ _
  | .blk id :: k, k2, .exit j, tm, S => by
    simp only [List.cons_append, runK]
    cases Nat.beq j id <;> exact runK_append call lf k k2 _ _ _
  | .blk id :: k, k2, .ret, tm, S => runK_append call lf k k2 _ _ _

/-- The code up to here first, then the rest. -/
theorem ends_cut {k2 : List KI} (h : EndsA E nt k o tm S fun o' tm' S' => EndsA E nt k2 o' tm' S' Q) : EndsA E nt (k ++ k2) o tm S Q := by
  obtain ⟨N, o', tm', S', h1, N2, o2, tm2, S2, h2, hq⟩ := h
  refine ⟨max N N2, o2, tm2, S2, fun lf n hl hn => ?_, hq⟩
  rw [runK_append, h1 lf n (by omega) (by omega)]
  exact h2 lf n (by omega) (by omega)

/-- A loop, with what holds at its head and a measure. -/
theorem e_loop {c : PC} (I : PM AV → St → Nat → Prop) (n : Nat) (h0 : I tm S n)
    (hs : ∀ tm S n, I tm S n → EndsA E nt [.c c] .nrm tm S fun o tm' S' => match o with | .nrm => ∃ m, m < n ∧ I tm' S' m | o => EndsA E nt k o tm' S' Q) : EndsA E nt (.c (.loop c) :: k) .nrm tm S Q := by
  suffices key : ∃ N o2 tm2 S2, (∀ lf m r, N ≤ lf → N ≤ m → N ≤ r → (match iter (evP E (evF E lf m) lf nt c) r tm S with | some (o, tm', S') => runK E (evF E lf m) lf nt k o tm' S' | none => none) = some (o2, tm2, S2)) ∧ Q o2 tm2 S2 by
    obtain ⟨N, o2, tm2, S2, h1, hq⟩ := key
    exact ⟨N, o2, tm2, S2, fun lf n hl hn => h1 lf n lf hl hn hl, hq⟩
  induction n using Nat.strongRecOn generalizing tm S with
  | _ n ih =>
    obtain ⟨N, o', tm', S', h1, h2⟩ := hs tm S n h0
    have step : ∀ lf m, N ≤ lf → N ≤ m → evP E (evF E lf m) lf nt c tm S = some (o', tm', S') := fun lf m hl hm => by
      have := h1 lf m hl hm
      simp only [runK] at this
      revert this
      cases evP E (evF E lf m) lf nt c tm S with
      | none => intro h; cases h
      | some r => obtain ⟨a1, a2, a3⟩ := r; intro h; exact h
    cases o' with
    | nrm =>
      obtain ⟨m, hm, hI⟩ := h2
      obtain ⟨N2, o2, tm2, S2, h3, hq⟩ := ih m hm hI
      refine ⟨max N N2 + 1, o2, tm2, S2, fun lf n r hl hn hr => ?_, hq⟩
      obtain ⟨r', rfl⟩ : ∃ r', r = r' + 1 := ⟨r - 1, by omega⟩
      simp only [iter, step lf n (by omega) (by omega)]
      exact h3 lf n r' (by omega) (by omega) (by omega)
    | exit j =>
      obtain ⟨N2, o2, tm2, S2, h3, hq⟩ := h2
      refine ⟨max N N2 + 1, o2, tm2, S2, fun lf n r hl hn hr => ?_, hq⟩
      obtain ⟨r', rfl⟩ : ∃ r', r = r' + 1 := ⟨r - 1, by omega⟩
      simp only [iter, step lf n (by omega) (by omega)]
      exact h3 lf n (by omega) (by omega)
    | ret =>
      obtain ⟨N2, o2, tm2, S2, h3, hq⟩ := h2
      refine ⟨max N N2 + 1, o2, tm2, S2, fun lf n r hl hn hr => ?_, hq⟩
      obtain ⟨r', rfl⟩ : ∃ r', r = r' + 1 := ⟨r - 1, by omega⟩
      simp only [iter, step lf n (by omega) (by omega)]
      exact h3 lf n (by omega) (by omega)

/-- A call of a function whose code is known. -/
theorem ev_of {f : FuncId} {fn : Func} {c : Code} {p : PC} {args : List AV} {r : AV} {S' : St} (hf : E.fn f = some fn) (hX : E.X f = none) (hb : fn.body = some c) (hp : comp E fn.ntmps c = p) (hn : Nat.ble args.length fn.ntmps = true)
    (h : EndsA E fn.ntmps [.c p] .nrm (initTm 0 args .leaf) S fun o tm S1 => (∀ j, o ≠ .exit j) ∧ ∃ vs, resAll E tm S1 fn.results.toList = some vs ∧ packA vs = r ∧ S1 = S') :
    EvA E f args S r S' := by
  obtain ⟨N, o', tm', S1, h1, ho, vs, h2, h3, h4⟩ := h
  subst h4
  refine ⟨N + 1, fun lf n hl hn' => ?_⟩
  obtain ⟨n', rfl⟩ : ∃ n', n = n' + 1 := ⟨n - 1, by omega⟩
  have h1 := h1 lf n' (by omega) (by omega)
  have he : evP E (evF E lf n') lf fn.ntmps p (initTm 0 args .leaf) S = some (o', tm', S1) := by
    simp only [runK] at h1
    revert h1
    cases evP E (evF E lf n') lf fn.ntmps p (initTm 0 args .leaf) S with
    | none => intro h; cases h
    | some r => obtain ⟨a1, a2, a3⟩ := r; intro h; exact h
  have hc := he
  rw [← hp] at hc
  have hc := comp_ok c _ _ _ hc
  simp only [evF, hf, hX, hb, hn, cond_true, hc]
  cases o' with
  | exit j => exact absurd rfl (ho j)
  | nrm => simp only [h2, Option.map_some, h3]
  | ret => simp only [h2, Option.map_some, h3]

end
end Go.Abs
end

section
set_option linter.unusedSimpArgs false
set_option linter.unusedVariables false
namespace Go.Abs

noncomputable def bitsV (op : BinOp) (k : IntKind) (a b : Int) : Int :=
  let x := BitVec.ofInt k.bits a
  let y := BitVec.ofInt k.bits b
  k.wrap (match op with
    | .and => (x &&& y).toNat
    | .or => (x ||| y).toNat
    | .xor => (x ^^^ y).toNat
    | _ => (x &&& ~~~y).toNat : Nat)

/-- Two numbers of one kind. -/
noncomputable def intV (op : BinOp) (k : IntKind) (a b : Int) : Option AV :=
  match op with
  | .add => some (.sc (.int k (k.wrap (a + b))))
  | .sub => some (.sc (.int k (k.wrap (a - b))))
  | .mul => some (.sc (.int k (k.wrap (a * b))))
  | .and => some (.sc (.int k (bitsV .and k a b)))
  | .or => some (.sc (.int k (bitsV .or k a b)))
  | .xor => some (.sc (.int k (bitsV .xor k a b)))
  | .andNot => some (.sc (.int k (bitsV .andNot k a b)))
  | .eql => some (.sc (.bool (a == b)))
  | .neq => some (.sc (.bool (a != b)))
  | .lss => some (.sc (.bool (decide (a < b))))
  | .leq => some (.sc (.bool (decide (a ≤ b))))
  | .gtr => some (.sc (.bool (decide (b < a))))
  | .geq => some (.sc (.bool (decide (b ≤ a))))
  | _ => none

/-- What stands where neither rule of numbers serves. -/
noncomputable def binGen (E : Env) (op : BinOp) (t : TypeId) (x y : Operand) (X Y : AV) (S : St) : Option (AV × St) :=
  match conc X, conc Y with
    | some a, some b => (peek E.P (do eqGuard op t x y a b; binOp op t a b)).map fun v => (ofV v, S)
    | _, _ => match E.und t with
      | some d => match op, eqNil E d X Y with
        | .eql, some r => some (.sc (.bool r), S)
        | .neq, some r => some (.sc (.bool (!r)), S)
        | _, _ => none
      | none => none

section
variable {E : Env} {tm : PM AV} {S : St} {d : Option Tmp}

theorem op_bin (op : BinOp) (t : TypeId) (x y : Operand) (u : TypeId) : opV E tm d (.binOp op t x y u) S = binGen E op t x y (E.ev tm x) (E.ev tm y) S := rfl

theorem bin_int (op : BinOp) (h : op ≠ .shl ∧ op ≠ .shr ∧ op ≠ .quo ∧ op ≠ .rem) (t : TypeId) (x y : Operand) (k : IntKind) (a b : Int) {r : AV} (hr : intV op k a b = some r) :
    binGen E op t x y (.sc (.int k a)) (.sc (.int k b)) S = some (r, S) := by
  have h1 : peek E.P (do eqGuard op t x y (.int k a) (.int k b); binOp op t (.int k a) (.int k b)) = peek E.P (binOp op t (.int k a) (.int k b)) := by
    cases op <;> rfl
  simp only [binGen, conc, h1]
  cases op <;> simp only [intV, Option.some.injEq, reduceCtorEq] at hr <;> first | (subst hr; simp only [binOp, ne_eq, not_true_eq_false, if_false]; rfl) | simp_all

theorem b_add (t : TypeId) (x y : Operand) (k : IntKind) (a b : Int) : binGen E .add t x y (.sc (.int k a)) (.sc (.int k b)) S = some (.sc (.int k (k.wrap (a + b))), S) := bin_int .add (by decide) t x y k a b rfl
theorem b_sub (t : TypeId) (x y : Operand) (k : IntKind) (a b : Int) : binGen E .sub t x y (.sc (.int k a)) (.sc (.int k b)) S = some (.sc (.int k (k.wrap (a - b))), S) := bin_int .sub (by decide) t x y k a b rfl
theorem b_mul (t : TypeId) (x y : Operand) (k : IntKind) (a b : Int) : binGen E .mul t x y (.sc (.int k a)) (.sc (.int k b)) S = some (.sc (.int k (k.wrap (a * b))), S) := bin_int .mul (by decide) t x y k a b rfl
theorem b_and (t : TypeId) (x y : Operand) (k : IntKind) (a b : Int) : binGen E .and t x y (.sc (.int k a)) (.sc (.int k b)) S = some (.sc (.int k (bitsV .and k a b)), S) := bin_int .and (by decide) t x y k a b rfl
theorem b_or (t : TypeId) (x y : Operand) (k : IntKind) (a b : Int) : binGen E .or t x y (.sc (.int k a)) (.sc (.int k b)) S = some (.sc (.int k (bitsV .or k a b)), S) := bin_int .or (by decide) t x y k a b rfl
theorem b_xor (t : TypeId) (x y : Operand) (k : IntKind) (a b : Int) : binGen E .xor t x y (.sc (.int k a)) (.sc (.int k b)) S = some (.sc (.int k (bitsV .xor k a b)), S) := bin_int .xor (by decide) t x y k a b rfl
theorem b_andNot (t : TypeId) (x y : Operand) (k : IntKind) (a b : Int) : binGen E .andNot t x y (.sc (.int k a)) (.sc (.int k b)) S = some (.sc (.int k (bitsV .andNot k a b)), S) := bin_int .andNot (by decide) t x y k a b rfl
theorem b_eql (t : TypeId) (x y : Operand) (k : IntKind) (a b : Int) : binGen E .eql t x y (.sc (.int k a)) (.sc (.int k b)) S = some (.sc (.bool (a == b)), S) := bin_int .eql (by decide) t x y k a b rfl
theorem b_neq (t : TypeId) (x y : Operand) (k : IntKind) (a b : Int) : binGen E .neq t x y (.sc (.int k a)) (.sc (.int k b)) S = some (.sc (.bool (a != b)), S) := bin_int .neq (by decide) t x y k a b rfl
theorem b_lss (t : TypeId) (x y : Operand) (k : IntKind) (a b : Int) : binGen E .lss t x y (.sc (.int k a)) (.sc (.int k b)) S = some (.sc (.bool (decide (a < b))), S) := bin_int .lss (by decide) t x y k a b rfl
theorem b_leq (t : TypeId) (x y : Operand) (k : IntKind) (a b : Int) : binGen E .leq t x y (.sc (.int k a)) (.sc (.int k b)) S = some (.sc (.bool (decide (a ≤ b))), S) := bin_int .leq (by decide) t x y k a b rfl
theorem b_gtr (t : TypeId) (x y : Operand) (k : IntKind) (a b : Int) : binGen E .gtr t x y (.sc (.int k a)) (.sc (.int k b)) S = some (.sc (.bool (decide (b < a))), S) := bin_int .gtr (by decide) t x y k a b rfl
theorem b_geq (t : TypeId) (x y : Operand) (k : IntKind) (a b : Int) : binGen E .geq t x y (.sc (.int k a)) (.sc (.int k b)) S = some (.sc (.bool (decide (b ≤ a))), S) := bin_int .geq (by decide) t x y k a b rfl
theorem b_shl (t : TypeId) (x y : Operand) (k k' : IntKind) (a b : Int) (h : 0 ≤ b) : binGen E .shl t x y (.sc (.int k a)) (.sc (.int k' b)) S = some (.sc (.int k (k.wrap (a * 2 ^ min b.toNat k.bits))), S) := by
  have h2 : ¬ b < 0 := by omega
  simp only [binGen, conc, binOp, Op.shift, h2, if_false]
  rfl
theorem b_shr (t : TypeId) (x y : Operand) (k k' : IntKind) (a b : Int) (h : 0 ≤ b) : binGen E .shr t x y (.sc (.int k a)) (.sc (.int k' b)) S = some (.sc (.int k (a.fdiv (2 ^ min b.toNat k.bits))), S) := by
  have h2 : ¬ b < 0 := by omega
  simp only [binGen, conc, binOp, Op.shift, h2, if_false]
  rfl
theorem b_eqstr (t : TypeId) (x y : Operand) (a b : ByteArray) : binGen E .eql t x y (.sc (.string a)) (.sc (.string b)) S = some (.sc (.bool (a.toList == b.toList)), S) := rfl

theorem op_move (x : Operand) : opV E tm d (.move x) S = some (E.ev tm x, S) := rfl
theorem op_assign (x : Operand) : opV E tm d (.assign x) S = some (E.ev tm x, S) := rfl
noncomputable def pickV (c a b : AV) (S : St) : Option (AV × St) := match c with
  | .sc (.bool t) => some (bif t then a else b, S)
  | _ => none
theorem op_pick (c x y : Operand) : opV E tm d (.pick c x y) S = pickV (E.ev tm c) (E.ev tm x) (E.ev tm y) S := by
  simp only [opV, evOp, opOf, isMk, cond_false, evPlain, pickV]
  rfl
theorem pick_bool (t : Bool) (a b : AV) : pickV (.sc (.bool t)) a b S = some (bif t then a else b, S) := rfl
noncomputable def extractV (t : AV) (ix : Nat) (S : St) : Option (AV × St) := match t with
  | .tup vs => (vs[ix]?).map (·, S)
  | _ => none
theorem op_extract (t : Operand) (ix : Nat) : opV E tm d (.extract t ix) S = extractV (E.ev tm t) ix S := rfl
theorem extract_tup (vs : List AV) (ix : Nat) : extractV (.tup vs) ix S = (vs[ix]?).map (·, S) := rfl
noncomputable def unV (E : Env) (op : UnOp) (x : AV) (S : St) : Option (AV × St) := match x with
  | .sc v => (peek E.P (Op.unary op v)).map fun r => (ofV r, S)
  | _ => none
theorem op_un (op : UnOp) (t : TypeId) (x : Operand) : opV E tm d (.unOp op t x) S = unV E op (E.ev tm x) S := rfl
theorem un_not (b : Bool) : unV E .not (.sc (.bool b)) S = some (.sc (.bool (!b)), S) := rfl

theorem op_load (t : TypeId) (x : Operand) : opV E tm d (.load t x) S = loadA E t (E.ev tm x) S := rfl
noncomputable def loadC (agg : Bool) (size : Nat) (x : AV) (S : St) : Option (AV × St) :=
  match x with
    | .ptr l off => match S.obj l with
      | some cs => (cut agg size cs off).map (·, S)
      | none => none
    | .eptr cs off => (cut agg size cs off).map (·, S)
    | _ => none
theorem loadA_of {t : TypeId} {de : TypeDesc} {i : TypeInfo} (hd : E.und t = some de) (hi : E.inf t = some i) {b : Bool} {n : Nat} (hb : isAggD de = b) (hn : i.size = n) (x : AV) : loadA E t x S = loadC b n x S := by
  have hc : ∀ cs off, E.cutAt t cs off = cut b n cs off := fun cs off => by simp only [Env.cutAt, hd, hi, hb, hn]
  cases x <;> simp only [loadA, loadC, hc] <;> rfl
noncomputable def tyIs (E : Env) (t : TypeId) (b : Bool) (n : Nat) : Bool := match E.und t, E.inf t with
  | some d, some i => (isAggD d == b) && Nat.beq i.size n
  | _, _ => false
theorem load_chk (t : TypeId) (b : Bool) (n : Nat) (h : tyIs E t b n = true) (x : Operand) : opV E tm d (.load t x) S = loadC b n (E.ev tm x) S := by
  unfold tyIs at h
  split at h
  · rename_i de i hd hi
    simp only [Bool.and_eq_true, beq_iff_eq] at h
    exact loadA_of hd hi h.1 (Nat.eq_of_beq_eq_true h.2) (E.ev tm x)
  · simp at h
theorem load_e1 (v : AV) : loadC false 1 (.eptr [v] 0) S = some (v, S) := rfl
theorem load_e (b : Bool) (n : Nat) (cs : List AV) (off : Nat) : loadC b n (.eptr cs off) S = (cut b n cs off).map (·, S) := rfl
theorem load_p {b : Bool} {n l off : Nat} {cs : List AV} (h : S.obj l = some cs) : loadC b n (.ptr l off) S = (cut b n cs off).map (·, S) := by simp only [loadC, h]
noncomputable def storeC (size : Nat) (x y : AV) (S : St) : Option (AV × St) :=
  match x, cellsOf y with
    | .ptr l off, some vs => match S.obj l with
      | some cs => bif Nat.beq vs.length size && Nat.ble (off + vs.length) cs.length && vs.all okCell then
          some (passed, S.put l (.cells (splice cs off vs))) else none
      | none => none
    | _, _ => none
theorem store_chk {b : Bool} (t : TypeId) (n : Nat) (h : tyIs E t b n = true) (x y : Operand) : opV E tm d (.store t x y) S = storeC n (E.ev tm x) (E.ev tm y) S := by
  unfold tyIs at h
  split at h
  · rename_i de i hd hi
    simp only [Bool.and_eq_true, beq_iff_eq] at h
    have hn := Nat.eq_of_beq_eq_true h.2
    subst hn
    show storeA E t (E.ev tm x) (E.ev tm y) S = _
    generalize E.ev tm x = X
    generalize E.ev tm y = Y
    cases X <;> simp only [storeA, storeC, hi]
    cases cellsOf Y <;> rfl
  · simp at h

noncomputable def idxV (sz : Nat) (x : AV) (i : Option Int) (S : St) : Option (AV × St) :=
  match x, i with
  | .vec _ sz' xs, some i => bif decide (0 ≤ i) && Nat.beq sz sz' then
      match xs[i.toNat]? with
      | some v => (cellsOf v).map fun cs => (.eptr cs 0, S)
      | none => none
    else none
  | .osl l sz' off len _, some i => bif decide (0 ≤ i) && decide (i < (len : Int)) && Nat.beq sz sz' then some (.ptr l (off + i.toNat * sz'), S) else none
  | _, _ => none
theorem op_index {t e : TypeId} {i : TypeInfo} (hd : E.und t = some (.slice e)) (hi : E.inf e = some i) {n : Nat} (hn : i.size = n) (x y : Operand) : opV E tm d (.indexAddr t x y) S = idxV n (E.ev tm x) (int? (E.ev tm y)) S := by
  simp only [opV, evOp, opOf, isMk, cond_false, evPlain, hd, idxV]
  generalize E.ev tm x = X
  generalize int? (E.ev tm y) = Y
  cases X <;> cases Y <;> simp only [hi, hn] <;> rfl
noncomputable def slIs (E : Env) (t : TypeId) (n : Nat) : Bool := match E.und t with
  | some (.slice e) => match E.inf e with
    | some i => Nat.beq i.size n
    | none => false
  | _ => false
theorem index_chk (t : TypeId) (n : Nat) (h : slIs E t n = true) (x y : Operand) : opV E tm d (.indexAddr t x y) S = idxV n (E.ev tm x) (int? (E.ev tm y)) S := by
  unfold slIs at h
  split at h
  · rename_i e hd
    split at h
    · rename_i i hi
      exact op_index hd hi (Nat.eq_of_beq_eq_true h) x y
    · simp at h
  · simp at h
noncomputable def lenV (x : AV) (S : St) : Option (AV × St) := (lenS x).map fun n : Nat => (AV.sc (.int .i64 (n : Int)), S)
theorem op_len {t e : TypeId} (hd : E.und t = some (.slice e)) (x : Operand) : opV E tm d (.call { callee := .builtin .len, args := #[x], argTypes := #[t] }) S = lenV (E.ev tm x) S := by
  simp only [opV, evOp, opOf, isMk, cond_false, evPlain, callA, builtinA, List.map_cons, List.map_nil, hd, lenV]
noncomputable def minV (x y : AV) (S : St) : Option (AV × St) := match x, y with
  | .sc (.int k a), .sc (.int _ b) => some (.sc (.int k (if b < a then b else a)), S)
  | _, _ => none
theorem op_min (x y : Operand) (ats : Array TypeId) : opV E tm d (.call { callee := .builtin .min, args := #[x, y], argTypes := ats }) S = minV (E.ev tm x) (E.ev tm y) S := by
  simp only [opV, evOp, opOf, isMk, cond_false, evPlain, callA, builtinA, List.map_cons, List.map_nil, minV]
  generalize E.ev tm x = X
  generalize E.ev tm y = Y
  cases X with
  | sc v => cases v with
    | int k a => cases Y with
      | sc w => cases w <;> rfl
      | _ => rfl
    | _ => cases Y <;> rfl
  | _ => cases Y <;> rfl
theorem op_slice (t : TypeId) (x : Operand) (lo hi : Option Operand) : opV E tm d (.slice t x lo hi none) S = sliceA E t (E.ev tm x) (lo.map (E.ev tm)) (hi.map (E.ev tm)) S := rfl

theorem getT_set (t : PM AV) (n m : Nat) (v : AV) : getT (t.set n v) m = if m = n then v else getT t m := by unfold getT; rw [PM.get_set]; split <;> rfl
theorem getT_setD (t : PM AV) (n m : Nat) (v : AV) : getT (setD t (some n) v) m = if m = n then v else getT t m := getT_set t n m v
theorem setD_none (t : PM AV) (v : AV) : setD t none v = t := rfl
theorem getT_leaf (m : Nat) : getT .leaf m = .undef := by unfold getT; rw [PM.get_leaf]; rfl
theorem initTm_nil (i : Nat) (tm : PM AV) : initTm i [] tm = tm := rfl
theorem initTm_cons (i : Nat) (a : AV) (l : List AV) (tm : PM AV) : initTm i (a :: l) tm = initTm (i + 1) l (setD tm (some i) a) := rfl
theorem ev_tmp (t : Nat) : E.ev tm (.tmp t) = getT tm t := rfl
theorem ev_int (k : IntKind) (n : Int) : E.ev tm (.const (.int k n)) = .sc (.int k n) := rfl
theorem ev_bool (b : Bool) : E.ev tm (.const (.bool b)) = .sc (.bool b) := rfl
theorem ev_str (b : ByteArray) : E.ev tm (.const (.string b)) = .sc (.string b) := rfl
theorem ev_nilslice : E.ev tm (.const (.slice none 0 0)) = .sc (.slice none 0 0) := rfl
theorem int_int (k : IntKind) (n : Int) : int? (.sc (.int k n)) = some n := rfl
theorem res_nil : resAll E tm S [] = some [] := rfl
theorem res_tmp (t : Nat) (l : List ResultVar) : resAll E tm S (.tmp t :: l) = (resAll E tm S l).map (getT tm t :: ·) := by
  simp only [resAll, resA]
  cases resAll E tm S l <;> rfl
end

theorem wrap_i64 {n : Int} (h0 : -9223372036854775808 ≤ n) (h1 : n ≤ 9223372036854775807) : IntKind.i64.wrap n = n := by
  simp [IntKind.wrap, IntKind.bits, IntKind.signed]
  omega
theorem wrap_u64 {n : Int} (h0 : 0 ≤ n) (h1 : n ≤ 18446744073709551615) : IntKind.u64.wrap n = n := by
  simp [IntKind.wrap, IntKind.bits, IntKind.signed]
  omega
theorem wrap_u8 {n : Int} (h0 : 0 ≤ n) (h1 : n ≤ 255) : IntKind.u8.wrap n = n := by
  simp [IntKind.wrap, IntKind.bits, IntKind.signed]
  omega

end Go.Abs
namespace Go.Abs
section
variable {E : Env} {tm : PM AV} {S : St} {d : Option Tmp}
theorem op_convert (a b : TypeId) (x : Operand) : opV E tm d (.convert a b x) S = convertA E (E.hp b d) a b (E.ev tm x) S := rfl
/-- A number of one kind as another. -/
theorem conv_chk {mu : Bool} (a b : TypeId) (k k' : IntKind) (n : Int) (h1 : isStrBytes E a b = false) (h2 : peek E.P (convert a b (.int k n)) = some (.int k' (k'.wrap n))) : convertA E mu a b (.sc (.int k n)) S = some (.sc (.int k' (k'.wrap n)), S) := by
  simp only [convertA, h1, cond_false, h2, Option.map_some]
  rfl
end
end Go.Abs
namespace Go.Abs
/-- At a function's end. -/
noncomputable def RetV (P : AV → St → Prop) (S : St) : Option (List AV) → Prop
  | some vs => P (packA vs) S
  | none => False
noncomputable def RetQ (E : Env) (rvs : List ResultVar) (P : AV → St → Prop) : PostA := fun o tm S => match o with
  | .exit _ => False
  | _ => RetV P S (resAll E tm S rvs)
section
variable {E : Env} {tm : PM AV} {S : St} {P : AV → St → Prop} {rvs : List ResultVar}
theorem ret_ret : RetQ E rvs P .ret tm S = RetV P S (resAll E tm S rvs) := rfl
theorem ret_nrm : RetQ E rvs P .nrm tm S = RetV P S (resAll E tm S rvs) := rfl
theorem retV_some (vs : List AV) : RetV P S (some vs) = P (packA vs) S := rfl
theorem pack1 (v : AV) : packA [v] = v := rfl
theorem pack2 (v w : AV) (l : List AV) : packA (v :: w :: l) = .tup (v :: w :: l) := rfl
theorem ev_ends {f : FuncId} {fn : Func} {p : PC} {nt : Nat} {args : List AV} (hf : E.fn f = some fn) (hX : E.X f = none) (hp : (fn.body.map (comp E fn.ntmps)) = some p) (hnt : fn.ntmps = nt) (hr : fn.results.toList = rvs) (hn : Nat.ble args.length nt = true)
    (h : EndsA E nt [.c p] .nrm (initTm 0 args .leaf) S (RetQ E rvs P)) : ∃ r S', EvA E f args S r S' ∧ P r S' := by
  subst hnt; subst hr
  simp only [Option.map_eq_some_iff] at hp
  obtain ⟨c, h1, h2⟩ := hp
  obtain ⟨N, o', tm', S1, h3, h4⟩ := h
  have key : (∀ j, o' ≠ .exit j) ∧ ∃ vs, resAll E tm' S1 fn.results.toList = some vs ∧ P (packA vs) S1 := by
    unfold RetQ at h4
    cases o' with
    | exit j => exact h4.elim
    | _ =>
      refine ⟨fun j => by simp, ?_⟩
      simp only [RetV] at h4
      split at h4
      · rename_i vs hv; exact ⟨vs, hv, h4⟩
      · exact h4.elim
  obtain ⟨k1, vs, k2, k3⟩ := key
  exact ⟨packA vs, S1, ev_of hf hX h1 h2 hn ⟨N, o', tm', S1, h3, k1, vs, k2, rfl, rfl⟩, k3⟩
end
end Go.Abs

namespace Go.Abs
section
variable {S : St}
theorem len_vec (id sz : Nat) (xs : List AV) : lenV (.vec id sz xs) S = some (.sc (.int .i64 (xs.length : Nat)), S) := rfl
theorem len_nil (c : Nat) : lenV (.sc (.slice none 0 c)) S = some (.sc (.int .i64 (0 : Nat)), S) := rfl
theorem byteVals_length (l : List UInt8) : (byteVals l).length = l.length := by simp [byteVals]
theorem idx_bytes {l : List UInt8} {k : Nat} (id : Nat) (h : k < l.length) : idxV 1 (.vec id 1 (byteVals l)) (some (k : Int)) S = some (.eptr [.sc (.int .u8 l[k].toNat)] 0, S) := by
  have : (byteVals l)[k]? = some (.sc (.int .u8 l[k].toNat)) := by simp [byteVals, h]
  simp [idxV, this, cellsOf]
theorem dec_lt {a b : Nat} (h : a < b) : decide ((a : Int) < (b : Int)) = true := by simp; omega
theorem dec_nlt {a b : Nat} (h : ¬ a < b) : decide ((a : Int) < (b : Int)) = false := by simp; omega
end
end Go.Abs

namespace Go.Abs
theorem cut_f (cs : List AV) (off : Nat) : cut false 1 cs off = cs[off]? := by
  simp only [cut, cond_eq_ite]
  by_cases h : off < cs.length
  · have : Nat.ble (off + 1) cs.length = true := Nat.ble_eq_true_of_le h
    simp [this]
  · have : Nat.ble (off + 1) cs.length = false := by
      cases hb : Nat.ble (off + 1) cs.length with
      | false => rfl
      | true => exact absurd (Nat.le_of_ble_eq_true hb) (by omega)
    simp [this]; omega
theorem cut_t (n : Nat) (cs : List AV) (off : Nat) : cut true n cs off = if off + n ≤ cs.length then some (.agg ((cs.drop off).take n)) else none := by
  simp only [cut, cond_eq_ite]
  by_cases h : off + n ≤ cs.length
  · have : Nat.ble (off + n) cs.length = true := Nat.ble_eq_true_of_le h
    simp [this, h]
  · have : Nat.ble (off + n) cs.length = false := by
      cases hb : Nat.ble (off + n) cs.length with
      | false => rfl
      | true => exact absurd (Nat.le_of_ble_eq_true hb) h
    simp [this, h]
end Go.Abs

namespace Go.Abs
section
variable {E : Env} {S : St}
theorem b_shl' (t : TypeId) (x y : Operand) (k k' : IntKind) (a b : Int) : binGen E .shl t x y (.sc (.int k a)) (.sc (.int k' b)) S = if b < 0 then none else some (.sc (.int k (k.wrap (a * 2 ^ min b.toNat k.bits))), S) := by
  split
  · rename_i h
    simp only [binGen, conc, binOp, Op.shift, h, if_true]
    rfl
  · rename_i h
    exact b_shl t x y k k' a b (by omega)
theorem b_shr' (t : TypeId) (x y : Operand) (k k' : IntKind) (a b : Int) : binGen E .shr t x y (.sc (.int k a)) (.sc (.int k' b)) S = if b < 0 then none else some (.sc (.int k (a.fdiv (2 ^ min b.toNat k.bits))), S) := by
  split
  · rename_i h
    simp only [binGen, conc, binOp, Op.shift, h, if_true]
    rfl
  · rename_i h
    exact b_shr t x y k k' a b (by omega)
end
end Go.Abs
namespace Go.Abs
theorem min_int {S : St} (k k2 : IntKind) (a b : Int) : minV (.sc (.int k a)) (.sc (.int k2 b)) S = some (.sc (.int k (if b < a then b else a)), S) := rfl
end Go.Abs
end

section
set_option linter.unusedSimpArgs false
set_option linter.unusedVariables false
namespace Go.Abs

/-- The slice x holds xs: nil, or by value. -/
noncomputable def IsV (sz : Nat) (x : AV) (xs : List AV) : Prop := (x = .sc (.slice none 0 0) ∧ xs = []) ∨ ∃ id, x = .vec id sz xs

theorem IsV.vec (id sz : Nat) (xs : List AV) : IsV sz (.vec id sz xs) xs := .inr ⟨id, rfl⟩
theorem IsV.nil (sz : Nat) : IsV sz (.sc (.slice none 0 0)) [] := .inl ⟨rfl, rfl⟩

/-- A part of a slice. -/
noncomputable def subV (x : AV) (a b : Nat) : AV := match x with
  | .vec id sz xs => bif Nat.beq a 0 && Nat.beq b xs.length then .vec id sz xs else .vec 0 sz ((xs.drop a).take (b - a))
  | x => x

section
variable {E : Env} {S : St} {sz : Nat} {x : AV} {xs : List AV} {tm : PM AV} {d : Option Tmp}

theorem IsV.len (h : IsV sz x xs) (S : St) : lenV x S = some (.sc (.int .i64 (xs.length : Nat)), S) := by
  rcases h with ⟨rfl, rfl⟩ | ⟨id, rfl⟩ <;> rfl
theorem IsV.idx (h : IsV sz x xs) {k : Nat} {v : AV} {cs : List AV} (hk : xs[k]? = some v) (hc : cellsOf v = some cs) (S : St) : idxV sz x (some (k : Int)) S = some (.eptr cs 0, S) := by
  rcases h with ⟨rfl, rfl⟩ | ⟨id, rfl⟩
  · simp at hk
  · simp [idxV, hk, hc]
theorem IsV.idxB {l : List UInt8} (h : IsV 1 x (byteVals l)) {k : Nat} (hk : k < l.length) (S : St) : idxV 1 x (some (k : Int)) S = some (.eptr [.sc (.int .u8 l[k].toNat)] 0, S) :=
  h.idx (v := .sc (.int .u8 l[k].toNat)) (by simp [byteVals, hk]) rfl S
theorem IsV.sub (h : IsV sz x xs) (a b : Nat) (hb : b ≤ xs.length) : IsV sz (subV x a b) ((xs.drop a).take (b - a)) := by
  rcases h with ⟨rfl, rfl⟩ | ⟨id, rfl⟩
  · exact .inl ⟨rfl, by simp⟩
  · simp only [subV, cond_eq_ite]
    split
    · rename_i hc
      simp only [Bool.and_eq_true] at hc
      have h1 := Nat.eq_of_beq_eq_true hc.1
      have h2 := Nat.eq_of_beq_eq_true hc.2
      subst h1
      rw [List.drop_zero, h2, Nat.sub_zero, List.take_length]
      exact IsV.vec _ _ _
    · exact IsV.vec _ _ _
theorem byteVals_sub (l : List UInt8) (a n : Nat) : ((byteVals l).drop a).take n = byteVals ((l.drop a).take n) := by simp [byteVals, List.map_drop, List.map_take]
theorem IsV.subB {l : List UInt8} (h : IsV 1 x (byteVals l)) (a b : Nat) (hb : b ≤ l.length) : IsV 1 (subV x a b) (byteVals ((l.drop a).take (b - a))) := by
  rw [← byteVals_sub]; exact h.sub a b (by simpa [byteVals] using hb)
theorem IsV.slice (h : IsV sz x xs) {t : TypeId} (ht : slIs E t sz = true) {lo hi : Option AV} {a b : Nat} (hb : bounds xs.length lo hi = some (a, b)) (S : St) : sliceA E t x lo hi S = some (subV x a b, S) := by
  unfold slIs at ht
  split at ht
  · rename_i e hd
    split at ht
    · rename_i i hi
      have hsz := Nat.eq_of_beq_eq_true ht
      rcases h with ⟨rfl, rfl⟩ | ⟨id, rfl⟩
      · simp at hb
        simp [sliceA, hd, hb, hi, subV]
      · simp only [sliceA, hd, hb, hi, hsz, Nat.beq_refl, cond_true, subV]
        cases (Nat.beq a 0 && Nat.beq b xs.length) <;> rfl
    · simp at ht
  · simp at ht
theorem bounds_lo {n a : Nat} (h : a ≤ n) : bounds n (some (.sc (.int .i64 (a : Int)))) none = some (a, n) := by simp [bounds, int?, h]
theorem bounds_hi {n b : Nat} (h : b ≤ n) : bounds n none (some (.sc (.int .i64 (b : Int)))) = some (0, b) := by simp [bounds, int?, h]
theorem bounds_lohi {n a b : Nat} (h : b ≤ n) (h2 : a ≤ b) : bounds n (some (.sc (.int .i64 (a : Int)))) (some (.sc (.int .i64 (b : Int)))) = some (a, b) := by simp [bounds, int?, h, h2]

/-- A slice that may grow. -/
noncomputable def OwnV (S : St) (e : TypeId) (sz : Nat) (x : AV) (xs : List AV) : Prop :=
  (x = .sc (.slice none 0 0) ∧ xs = []) ∨ ∃ id, x = .vec id sz xs ∧ (id = 1 ∨ id = 2 ∨ (S.live id = true ∧ S.ityIs id e = true))
theorem OwnV.is {e : TypeId} (h : OwnV S e sz x xs) : IsV sz x xs := by
  rcases h with h | ⟨id, h, _⟩
  · exact .inl h
  · exact .inr ⟨id, h⟩
/-- No number to come is spent. -/
noncomputable def St.Fresh (S : St) : Prop := 2 < S.nid ∧ ∀ i, S.nid ≤ i → S.spent.get i = none
/-- The state behind an append. -/
noncomputable def appS (e : TypeId) (S : St) (x : AV) : St := match x with
  | .vec id _ _ => bif Nat.beq id 1 || Nat.beq id 2 then S.newId e else { S.newId e with spent := S.spent.set id () }
  | _ => S.newId e
theorem appS_nid (e : TypeId) (S : St) (x : AV) : (appS e S x).nid = S.nid + 1 := by
  unfold appS
  split
  · cases (_ || _) <;> rfl
  · rfl
theorem appS_fresh {e : TypeId} {x : AV} {xs : List AV} (hS : S.Fresh) (h : OwnV S e sz x xs) : (appS e S x).Fresh := by
  refine ⟨by rw [appS_nid]; have := hS.1; omega, fun i hi => ?_⟩
  rw [appS_nid] at hi
  rcases h with ⟨rfl, _⟩ | ⟨id, rfl, hid⟩
  · exact hS.2 i (by omega)
  · simp only [appS, cond_eq_ite]
    split
    · exact hS.2 i (by omega)
    · rename_i hb
      simp only [Bool.or_eq_true, not_or, Bool.not_eq_true] at hb
      rcases hid with rfl | rfl | ⟨hl, _⟩
      · simp at hb
      · simp at hb
      · simp only [St.live, Bool.and_eq_true] at hl
        have : id < S.nid := Nat.le_of_ble_eq_true hl.1.2
        show (S.spent.set id ()).get i = none
        rw [PM.get_set, if_neg (by omega)]
        exact hS.2 i (by omega)
theorem appS_own {e : TypeId} {x : AV} {xs zs : List AV} (hS : S.Fresh) (h : OwnV S e sz x xs) : OwnV (appS e S x) e sz (.vec S.nid sz zs) zs := by
  have hf := appS_fresh hS h
  have hn := appS_nid e S x
  refine .inr ⟨S.nid, rfl, .inr (.inr ⟨?_, ?_⟩)⟩
  · simp only [St.live, Bool.and_eq_true]
    refine ⟨⟨Nat.ble_eq_true_of_le hS.1, Nat.ble_eq_true_of_le (by rw [hn]; exact Nat.le_refl _)⟩, ?_⟩
    have : (appS e S x).spent.get S.nid = none := by
      rcases h with ⟨rfl, _⟩ | ⟨id, rfl, hid⟩
      · exact hS.2 _ (Nat.le_refl _)
      · simp only [appS, cond_eq_ite]
        split
        · exact hS.2 _ (Nat.le_refl _)
        · rename_i hb
          simp only [Bool.or_eq_true, not_or, Bool.not_eq_true] at hb
          rcases hid with rfl | rfl | ⟨hl, _⟩
          · simp at hb
          · simp at hb
          · simp only [St.live, Bool.and_eq_true] at hl
            have : id < S.nid := Nat.le_of_ble_eq_true hl.1.2
            show (S.spent.set id ()).get S.nid = none
            rw [PM.get_set, if_neg (by omega)]
            exact hS.2 _ (Nat.le_refl _)
    simp [this]
  · have : (appS e S x).ity.get S.nid = some e := by
      unfold appS
      split
      · cases (_ || _) <;> simp [St.newId, PM.get_set]
      · simp [St.newId, PM.get_set]
    simp [St.ityIs, this]

/-- What is asked of an element's type. -/
noncomputable def elIs (E : Env) (t e : TypeId) (agg : Bool) (sz bytes : Nat) : Bool := match E.und t, E.und e, E.inf e with
  | some (.slice e'), some de, some i => Nat.beq e' e && (isAggD de == agg) && Nat.beq i.size sz && Nat.beq i.bytes bytes && zeroOk i && Nat.blt 0 i.size
  | _, _, _ => false
theorem op_append (x y : Operand) (t t1 : TypeId) : opV E tm d (.call { callee := .builtin .append, args := #[x, y], argTypes := #[t, t1] }) S = builtinA E (E.hp t d) .append [t, t1] [E.ev tm x, E.ev tm y] S := rfl
theorem app_xs {e : TypeId} {ti : TypeInfo} {ys : List AV} (hS : S.Fresh) (h1 : ti.size = sz) (h2 : zeroOk ti = true) (h3 : 0 < ti.size) (hx : OwnV S e sz x xs) (hne : ys ≠ []) (hsz : allSz sz ys = true) (hb : (xs.length + ys.length) * (ti.bytes + 1) ≤ 2 ^ 46) :
    appendXs false e ti x ys S = some (.vec S.nid sz (xs ++ ys), appS e S x) := by
  subst h1
  cases ys with
  | nil => exact absurd rfl hne
  | cons y ys =>
    have h3' : Nat.blt 0 ti.size = true := Nat.ble_eq_true_of_le h3
    simp only [appendXs, hsz, h2, h3', Bool.and_self, cond_true, newSlice, cond_false]
    rcases hx with ⟨rfl, rfl⟩ | ⟨id, rfl, hid⟩
    · have : Nat.ble ((y :: ys).length * (ti.bytes + 1)) (2 ^ 46) = true := Nat.ble_eq_true_of_le (by simpa using hb)
      simp only [this, cond_true, List.nil_append, appS]
    · have : Nat.ble ((xs.length + (y :: ys).length) * (ti.bytes + 1)) (2 ^ 46) = true := Nat.ble_eq_true_of_le hb
      simp only [Nat.beq_refl, this, Bool.and_self, cond_true, appS, cond_eq_ite]
      by_cases hc : (Nat.beq id 1 || Nat.beq id 2) = true
      · simp only [hc, if_true]
      · rw [if_neg hc, if_neg hc]
        rcases hid with rfl | rfl | ⟨hl, hi⟩
        · simp at hc
        · simp at hc
        · simp [hl, hi]
theorem app_own {t t1 e e1 : TypeId} {agg : Bool} {bytes : Nat} {X Y : AV} {ys : List AV} (ht : elIs E t e agg sz bytes = true) (ht1 : E.und t1 = some (.slice e1)) (hS : S.Fresh) (hx : OwnV S e sz X xs) (hy : IsV sz Y ys) (hne : ys ≠ [])
    (hsz : allSz sz ys = true) (hb : (xs.length + ys.length) * (bytes + 1) ≤ 2 ^ 46) : builtinA E false .append [t, t1] [X, Y] S = some (.vec S.nid sz (xs ++ ys), appS e S X) := by
  unfold elIs at ht
  split at ht
  · rename_i e' de i hd hde hi
    simp only [Bool.and_eq_true, beq_iff_eq] at ht
    obtain ⟨⟨⟨⟨⟨k1, k2⟩, k3⟩, k4⟩, k5⟩, k6⟩ := ht
    have k1 := Nat.eq_of_beq_eq_true k1
    have k3 := Nat.eq_of_beq_eq_true k3
    have k4 := Nat.eq_of_beq_eq_true k4
    have k6 : 0 < i.size := Nat.le_of_ble_eq_true k6
    subst k1
    rcases hy with ⟨rfl, rfl⟩ | ⟨id, rfl⟩
    · exact absurd rfl hne
    · simp only [builtinA, hd, ht1, hde, hi, appendA, elemsS, elemsOf]
      exact app_xs hS k3 k5 k6 hx hne hsz (by rw [k4]; exact hb)
  · simp at ht
theorem app_str {t t1 e : TypeId} {agg : Bool} {bytes : Nat} {X : AV} {b : ByteArray} (ht : elIs E t e agg 1 bytes = true) (ht1 : E.und t1 = some .string) (hS : S.Fresh) (hx : OwnV S e 1 X xs) (hne : b.data.toList ≠ [])
    (hb : (xs.length + b.data.toList.length) * (bytes + 1) ≤ 2 ^ 46) : builtinA E false .append [t, t1] [X, .sc (.string b)] S = some (.vec S.nid 1 (xs ++ byteVals b.data.toList), appS e S X) := by
  unfold elIs at ht
  split at ht
  · rename_i e' de i hd hde hi
    simp only [Bool.and_eq_true, beq_iff_eq] at ht
    obtain ⟨⟨⟨⟨⟨k1, k2⟩, k3⟩, k4⟩, k5⟩, k6⟩ := ht
    have k1 := Nat.eq_of_beq_eq_true k1
    have k3 := Nat.eq_of_beq_eq_true k3
    have k4 := Nat.eq_of_beq_eq_true k4
    have k6 : 0 < i.size := Nat.le_of_ble_eq_true k6
    subst k1
    have hone : ∀ l : List UInt8, allSz 1 (byteVals l) = true := fun l => by
      induction l with
      | nil => rfl
      | cons c l ih => simp only [byteVals, List.map_cons, allSz, Bool.and_eq_true]; exact ⟨rfl, ih⟩
    simp only [builtinA, hd, ht1, hi, appendA, elemsS, elemsOf]
    exact app_xs hS k3 k5 k6 hx (by simpa [byteVals] using hne) (hone _) (by rw [k4]; simpa [byteVals] using hb)
  · simp at ht
theorem allSz_bytes : ∀ l : List UInt8, allSz 1 (byteVals l) = true
  | [] => rfl
  | c :: l => by simp only [byteVals, List.map_cons, allSz, Bool.and_eq_true]; exact ⟨rfl, allSz_bytes l⟩
theorem byteVals_app (a b : List UInt8) : byteVals a ++ byteVals b = byteVals (a ++ b) := by simp [byteVals]

/-- A state that has gone on from another, leaving what owns slice x (nil: nothing). -/
structure Grow (S S' : St) (x : AV) : Prop where
  nid : S.nid ≤ S'.nid
  sp : ∀ id, id < S.nid → (∀ sz xs, x ≠ .vec id sz xs) → S'.spent.get id = S.spent.get id
  ity : ∀ id, id < S.nid → S'.ity.get id = S.ity.get id
  no : S.no ≤ S'.no
  obj : ∀ l, l < S.no → S'.objs.get l = S.objs.get l
  fresh : S'.Fresh
  ver : ∀ l, l < S.no → S'.ver l = S.ver l
/-- No slice. -/
abbrev nilV : AV := .sc (.slice none 0 0)
theorem Grow.refl (h : S.Fresh) (x : AV) : Grow S S x := ⟨Nat.le_refl _, fun _ _ _ => rfl, fun _ _ => rfl, Nat.le_refl _, fun _ _ => rfl, h, fun _ _ => rfl⟩
theorem Grow.trans {S1 S2 : St} {y : AV} (h : Grow S S1 x) (k : Grow S1 S2 y) (hy : y = x ∨ y = nilV ∨ ∃ id sz xs, y = .vec id sz xs ∧ S.nid ≤ id) : Grow S S2 x := by
  refine ⟨Nat.le_trans h.nid k.nid, fun id hid hne => ?_, fun id hid => (k.ity id (Nat.lt_of_lt_of_le hid h.nid)).trans (h.ity id hid), Nat.le_trans h.no k.no, fun l hl => (k.obj l (Nat.lt_of_lt_of_le hl h.no)).trans (h.obj l hl), k.fresh, fun l hl => (k.ver l (Nat.lt_of_lt_of_le hl h.no)).trans (h.ver l hl)⟩
  refine (k.sp id (Nat.lt_of_lt_of_le hid h.nid) fun sz xs e => ?_).trans (h.sp id hid hne)
  rcases hy with rfl | rfl | ⟨id2, sz2, xs2, rfl, h2⟩
  · exact hne _ _ e
  · cases e
  · cases e; omega
theorem Grow.two {S S1 S2 : St} (h : Grow S S1 nilV) (k : Grow S1 S2 nilV) : Grow S S2 nilV := h.trans k (.inl rfl)
theorem Grow.app {e : TypeId} {x : AV} {xs : List AV} (hS : S.Fresh) (h : OwnV S e sz x xs) : Grow S (appS e S x) x := by
  refine ⟨by rw [appS_nid]; omega, fun id hid hne => ?_, fun id hid => ?_, ?_, fun l _ => ?_, appS_fresh hS h, fun l _ => ?_⟩
  · rcases h with ⟨rfl, _⟩ | ⟨i, rfl, _⟩
    · rfl
    · simp only [appS]
      cases (Nat.beq i 1 || Nat.beq i 2) with
      | true => rfl
      | false =>
        show (S.spent.set i ()).get id = _
        rw [PM.get_set, if_neg (fun e => hne _ _ (by rw [e]))]
  · have : ∀ S' : St, S'.ity = S.ity.set S.nid e → S'.ity.get id = S.ity.get id := fun S' h => by rw [h, PM.get_set, if_neg (by omega)]
    refine this _ ?_
    unfold appS
    split
    · cases (_ || _) <;> rfl
    · rfl
  · unfold appS
    split
    · cases (_ || _) <;> exact Nat.le_refl _
    · exact Nat.le_refl _
  · unfold appS
    split
    · cases (_ || _) <;> rfl
    · rfl
  · unfold appS
    split
    · cases (_ || _) <;> rfl
    · rfl
theorem Grow.raise (h : S.Fresh) (n : Nat) (x : AV) : Grow S (S.raise n) x := ⟨Nat.le_refl _, fun _ _ _ => rfl, fun _ _ => rfl, Nat.le_add_right _ _, fun _ _ => rfl, h, fun _ _ => rfl⟩
/-- What a slice may grow, if another one has grown. -/
theorem OwnV.grow {S' : St} {e : TypeId} {x y : AV} {xs : List AV} (h : OwnV S e sz x xs) (g : Grow S S' y) (hne : ∀ id sz1 xs1 sz2 xs2, x = .vec id sz1 xs1 → y = .vec id sz2 xs2 → id ≤ 2) : OwnV S' e sz x xs := by
  rcases h with h | ⟨id, rfl, hid⟩
  · exact .inl h
  · refine .inr ⟨id, rfl, ?_⟩
    rcases hid with h | h | ⟨h1, h2⟩
    · exact .inl h
    · exact .inr (.inl h)
    · have hlt : 2 < id ∧ id < S.nid ∧ S.spent.get id = none := by
        simp only [St.live, Bool.and_eq_true] at h1
        exact ⟨Nat.le_of_ble_eq_true h1.1.1, Nat.le_of_ble_eq_true h1.1.2, by simpa using h1.2⟩
      refine .inr (.inr ⟨?_, ?_⟩)
      · simp only [St.live, Bool.and_eq_true]
        refine ⟨⟨Nat.ble_eq_true_of_le hlt.1, Nat.ble_eq_true_of_le (Nat.lt_of_lt_of_le hlt.2.1 g.nid)⟩, ?_⟩
        rw [g.sp id hlt.2.1 (fun sz1 xs1 e => by have := hne id _ _ _ _ rfl e; omega), hlt.2.2]
        rfl
      · have := g.ity id hlt.2.1
        simp only [St.ityIs, this] at h2 ⊢
        exact h2
theorem splice_all {cs vs : List AV} (h : vs.length = cs.length) : splice cs 0 vs = vs := by
  simp [splice, h]
theorem bs_one {t e : TypeId} {agg : Bool} {bytes : Nat} {v : AV} {cs : List AV} (ht : elIs E t e agg sz bytes = true) (h1 : (agg || Nat.beq sz 1) = true) (h2 : sz ≤ 2 ^ 24) (hv : cellsOf v = some cs) (hl : cs.length = sz) (hok : cs.all okCell = true)
    (hag : v = (bif agg then .agg cs else cs.headD .undef)) : buildSliceA E t 1 [(0, v)] S = some (.vec 1 sz [v], S) := by
  unfold elIs at ht
  split at ht
  · rename_i e' de i hd hde hi
    simp only [Bool.and_eq_true, beq_iff_eq] at ht
    obtain ⟨⟨⟨⟨⟨k1, k2⟩, k3⟩, k4⟩, k5⟩, k6⟩ := ht
    have k1 := Nat.eq_of_beq_eq_true k1
    have k3 := Nat.eq_of_beq_eq_true k3
    subst k1; subst k3
    unfold zeroOk at k5
    split at k5
    · rename_i z hz
      have e1 : Nat.ble (1 * i.size) (2 ^ 24) = true := Nat.ble_eq_true_of_le (by omega)
      have e2 : fillA (fun j => some (j * i.size, i.size)) ((List.range (1 * i.size)).map fun j => AV.sc (z.cells.getD (j % i.size) default)) [(0, v)] = some cs := by
        have e3 : (Nat.beq cs.length i.size && Nat.ble (0 + cs.length) ((List.range (1 * i.size)).map fun j => AV.sc (z.cells.getD (j % i.size) default)).length) = true := by
          simp only [Bool.and_eq_true]
          exact ⟨by rw [hl]; exact Nat.beq_refl _, Nat.ble_eq_true_of_le (by simp; omega)⟩
        simp only [fillA, hv, Nat.zero_mul, e3, cond_true]
        rw [splice_all (by simp; omega)]
      have e4 : (Nat.blt 0 i.size && Nat.beq z.cells.size i.size && Nat.ble (1 * i.size) (2 ^ 24) && (isAggD de || Nat.beq i.size 1)) = true := by
        rw [k2, h1, e1, k5]
        simp [k6]
      simp only [buildSliceA, buildCells, hd, hde, hi, hz, e4, cond_true, e2, hok]
      have e5 : groups (isAggD de) i.size 1 cs = [v] := by
        simp only [groups]
        rw [k2, hag, ← hl, List.take_length]
      rw [e5]
    · simp at k5
  · simp at ht
theorem bs_byte {t e : TypeId} {bytes : Nat} (ht : elIs E t e false 1 bytes = true) (n : Int) : buildSliceA E t 1 [(0, .sc (.int .u8 n))] S = some (.vec 1 1 [.sc (.int .u8 n)], S) :=
  bs_one ht rfl (by decide) rfl rfl rfl rfl
end
end Go.Abs
end
