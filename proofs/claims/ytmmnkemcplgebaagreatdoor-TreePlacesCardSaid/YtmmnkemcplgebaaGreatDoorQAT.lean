/-
  The code without what the evaluator does not look at; a calculus to prove what a function answers.
-/
import Derived.Test.YtmmnkemcplgebaaGreatDoorQAS
section
section
set_option linter.unusedSimpArgs false
set_option linter.unusedVariables false
namespace Go.Abs
structure POp where
 dst : Option Tmp
 op : Op
 guard : Option (Tmp × Bool)
inductive PC where
 | skip
 | reg (ops : List POp)
 | regD (n : Nat) (ops : List POp)
 | draw (ops : Array Oper)
 | seq (a b : PC)
 | cond (c : Operand) (a b : PC)
 | block (id : Nat) (c : PC)
 | loop (c : PC)
 | exit (id : Nat)
 | ret
 | bad
noncomputable def dstOk (nt : Nat) : Option Tmp → Bool
 | none => true
 | some d => Nat.blt d nt
noncomputable def popOf (nt : Nat) (ops : Array Oper) (o : Oper) : Option POp :=
 bif dstOk nt o.dst then
  match o.guard with
  | none => some ⟨o.dst, o.op, none⟩
  | some (j, w) => match (ops[j]?).bind (·.dst) with
   | some t => some ⟨o.dst, o.op, some (t, w)⟩
   | none => none
 else none
noncomputable def popsOf (nt : Nat) (ops : Array Oper) : List Oper → Option (List POp)
 | [] => some []
 | o :: r => match popOf nt ops o, popsOf nt ops r with
  | some p, some l => some (p :: l)
  | _, _ => none
noncomputable def regOf (nt : Nat) (ops : Array Oper) : PC :=
 match popsOf nt ops ops.toList with
 | some l => .reg l
 | none => .bad
noncomputable def regDOf (nt : Nat) (ops : Array Oper) : PC :=
 match popsOf nt ops ops.toList with
 | some l => .regD ops.size l
 | none => .bad
noncomputable def mayLoad : Op → Bool
 | .load .. | .convert .. | .slice .. | .lookup .. => true
 | .call { callee := .builtin .len, .. } => true
 | _ => false
noncomputable def loadsIn (E : Env) (m : PM Nat) (i : Nat) (y : Oper) : Nat → List Oper → Bool
 | _, [] => true
 | j, x :: r => (!loudOp E x.op || bit m i j || bit m j i) && loadsIn E m i y (j + 1) r
noncomputable def loadsAll (E : Env) (m : PM Nat) (all : List Oper) : Nat → List Oper → Bool
 | _, [] => true
 | i, y :: r => (!mayLoad y.op || loadsIn E m i y 0 all) && loadsAll E m all (i + 1) r
noncomputable def plainReg (E : Env) (ops : Array Oper) : Bool :=
 allPairs E ops (masks 0 ops.toList .leaf) 0 ops.toList && ops.toList.all (fun o => !isMk E o) && loadsAll E (masks 0 ops.toList .leaf) ops.toList 0 ops.toList
noncomputable def comp (E : Env) (nt : Nat) : Code → PC
 | .skip => .skip
 | .label _ => .skip
 | .region _ ops false => regOf nt ops
 | .region _ ops true => bif plainReg E ops then regDOf nt ops else .draw ops
 | .seq a b => bif (mapStmt (.seq a b)).isSome then .bad else .seq (comp E nt a) (comp E nt b)
 | .cond c a b => .cond c (comp E nt a) (comp E nt b)
 | .block id c => .block id (comp E nt c)
 | .loop c => .loop (comp E nt c)
 | .scope c => comp E nt c
 | .exit id => .exit id
 | .ret => .ret
 | _ => .bad
noncomputable def opOf (dst : Option Tmp) (op : Op) : Oper := ⟨dst, op, 0, "", #[], none⟩
noncomputable def setD (tm : PM AV) : Option Tmp → AV → PM AV
 | none, _ => tm
 | some d, v => tm.set d v
noncomputable def St.raise (S : St) (n : Nat) : St := { S with no := S.no + n }
noncomputable def guardOf (tm : PM AV) : Option (Tmp × Bool) → Option Bool
 | none => some true
 | some (t, want) => match getT tm t with
  | .sc (.bool b) => some (b == want)
  | .sc (.tuple _) => some false
  | _ => none
noncomputable def evL (E : Env) (call : CallFn) : List POp → PM AV → St → Option (PM AV × St)
 | [], tm, S => some (tm, S)
 | p :: r, tm, S => match guardOf tm p.guard with
  | none => none
  | some false => evL E call r (setD tm p.dst passed) S
  | some true => match evOp E call tm (opOf p.dst p.op) S with
   | none => none
   | some (v, S') => evL E call r (setD tm p.dst v) S'
noncomputable def evP (E : Env) (call : CallFn) (lf nt : Nat) : PC → PM AV → St → Option (Out × PM AV × St)
 | .skip, tm, S => some (.nrm, tm, S)
 | .reg l, tm, S => match evL E call l tm S with
  | some (tm', S') => some (.nrm, tm', S')
  | none => none
 | .regD n l, tm, S => match evL E call l tm (S.raise n) with
  | some (tm', S') => some (.nrm, tm', S')
  | none => none
 | .draw ops, tm, S => match evDraw E call nt ops tm S with
  | some (tm', S') => some (.nrm, tm', S')
  | none => none
 | .seq x y, tm, S => match evP E call lf nt x tm S with
  | some (.nrm, tm', S') => evP E call lf nt y tm' S'
  | r => r
 | .cond c x y, tm, S => match E.ev tm c with
  | .sc (.bool true) => evP E call lf nt x tm S
  | .sc (.bool false) => evP E call lf nt y tm S
  | _ => none
 | .block id c, tm, S => match evP E call lf nt c tm S with
  | some (.exit j, tm', S') => bif Nat.beq j id then some (.nrm, tm', S') else some (.exit j, tm', S')
  | r => r
 | .loop c, tm, S => iter (evP E call lf nt c) lf tm S
 | .exit id, tm, S => some (.exit id, tm, S)
 | .ret, tm, S => some (.ret, tm, S)
 | .bad, _, _ => none
section
variable {E : Env} {call : CallFn} {lf nt : Nat}
theorem evOp_opOf (tm : PM AV) (o : Oper) (S : St) : evOp E call tm o S = evOp E call tm (opOf o.dst o.op) S := by
 obtain ⟨dst, op, ty, pos, after, guard⟩ := o
 cases op <;> rfl
theorem putA_setD {tm : PM AV} {dst : Option Tmp} {v : AV} (h : dstOk nt dst = true) : putA nt dst v tm = some (setD tm dst v) := by
 cases dst with
 | none => rfl
 | some d =>
  simp only [dstOk] at h
  simp [putA, setD, h]
theorem seq_of_evL {ops : Array Oper} : ∀ (l : List Oper) (pl : List POp) (tm : PM AV) (S : St) (r : PM AV × St), popsOf nt ops l = some pl → evL E call pl tm S = some r → evSeq E call nt ops l tm S = some r
 | [], pl, tm, S, r, hp, h => by
  simp [popsOf] at hp; subst hp
  simpa [evL, evSeq] using h
 | o :: l, pl, tm, S, r, hp, h => by
  simp only [popsOf] at hp
  split at hp
  · rename_i p pl' h1 h2
    simp only [Option.some.injEq] at hp
    subst hp
    simp only [popOf] at h1
    cases hd : dstOk nt o.dst with
    | false => rw [hd] at h1; simp at h1
    | true =>
     rw [hd] at h1
     simp only [cond_true] at h1
     have hw : wantedA ops tm o = guardOf tm p.guard ∧ p.dst = o.dst ∧ p.op = o.op := by
      unfold wantedA
      cases hg : o.guard with
      | none => simp only [hg, Option.some.injEq] at h1; subst h1; exact ⟨rfl, rfl, rfl⟩
      | some q =>
       obtain ⟨j, w⟩ := q
       simp only [hg] at h1 ⊢
       cases hdd : (ops[j]?).bind (·.dst) with
       | none => simp [hdd] at h1
       | some t =>
        simp only [hdd, Option.some.injEq] at h1
        subst h1
        exact ⟨rfl, rfl, rfl⟩
     obtain ⟨hw1, hw2, hw3⟩ := hw
     simp only [evL] at h
     rw [← hw1] at h
     simp only [evSeq]
     split at h
     · simp at h
     · rename_i hwa
       simp only [hwa, putA_setD hd]
       rw [hw2] at h
       exact seq_of_evL l pl' _ _ _ h2 h
     · rename_i hwa
       rw [hw3, hw2] at h
       simp only [hwa]
       rw [evOp_opOf]
       split at h
       · simp at h
       · rename_i v S' hev
         rw [hev]
         simp only [putA_setD hd]
         exact seq_of_evL l pl' _ _ _ h2 h
  · simp at hp
theorem maskF_off {mk : Nat → Bool} (h : ∀ k, mk k = false) (m : PM Nat) (b0 j : Nat) (S : St) : ∀ n, maskF mk m b0 j S n = S.objs
 | 0 => rfl
 | n + 1 => by simp [maskF, hid, h n, maskF_off h m b0 j S n]
theorem unmaskF_off {mk : Nat → Bool} (h : ∀ k, mk k = false) (m : PM Nat) (b0 j : Nat) (S : St) (os : PM AObj) : ∀ n, unmaskF mk m b0 j S os n = os
 | 0 => rfl
 | n + 1 => by simp [unmaskF, hid, h n, unmaskF_off h m b0 j S os n]
theorem mkAt_off {ops : Array Oper} (h : ops.toList.all (fun o => !isMk E o) = true) (k : Nat) : mkAt E ops k = false := by
 unfold mkAt
 split
 · rename_i o ho
   have := List.all_eq_true.1 h o (by simpa using Array.mem_of_getElem? ho)
   simpa using this
 · rfl
theorem plain_no_load {tm : PM AV} {o : Oper} (h : mayLoad o.op = false) : loadsFrom E tm o = none := by
 obtain ⟨dst, op, ty, pos, after, guard⟩ := o
 cases op with
 | call c =>
  obtain ⟨callee, args, ats⟩ := c
  cases callee with
  | builtin b => cases b <;> first | rfl | simp [mayLoad] at h
  | _ => rfl
 | _ => first | rfl | simp [mayLoad] at h
theorem draw_of_seq {ops : Array Oper} {m : PM Nat} {b0 : Nat} (hmk : ops.toList.all (fun o => !isMk E o) = true) : ∀ (l : List Oper) (i : Nat) (tm : PM AV) (S : St) (tm' : PM AV) (S' : St), ops.toList.drop i = l → evSeq E call nt ops l tm S = some (tm', S') →
 ∃ hist ls, evDrawGo E call nt ops m b0 i l tm S = some (tm', S', hist, ls) ∧ (∀ h ∈ hist, ∃ o, ops[h.1]? = some o ∧ loudOp E o.op = true) ∧ (∀ p ∈ ls, ∃ o, ops[p.1]? = some o ∧ mayLoad o.op = true)
 | [], i, tm, S, tm', S', _, h => by
  simp only [evSeq, Option.some.injEq, Prod.mk.injEq] at h
  obtain ⟨rfl, rfl⟩ := h
  exact ⟨[], [], rfl, by simp, by simp⟩
 | o :: l, i, tm, S, tm', S', hd, h => by
  have hko : ops[i]? = some o := by
   have h0 : (ops.toList.drop i)[0]? = some o := by rw [hd]; rfl
   rw [List.getElem?_drop] at h0
   simpa using h0
  have hrest : ops.toList.drop (i + 1) = l := by rw [← List.drop_drop, hd]; rfl
  have hmo : isMk E o = false := by
   have := List.all_eq_true.1 hmk o (by simpa using Array.mem_of_getElem? hko)
   simpa using this
  have hm0 := fun k => mkAt_off hmk k
  simp only [evSeq] at h
  simp only [evDrawGo]
  split at h
  · simp at h
  · split at h
    · rename_i tm1 hp
      exact draw_of_seq hmk l (i + 1) _ _ _ _ hrest h
    · simp at h
  · simp only [evOp, hmo, cond_false] at h ⊢
    split at h
    · simp at h
    · rename_i v S1 hev
      split at h
      · rename_i tm1 hp
        obtain ⟨hist, ls, hgo, h1, h2⟩ := draw_of_seq hmk l (i + 1) _ _ _ _ hrest h
        cases hq : loudOp E o.op with
        | true =>
         have e1 : S.masked (mkAt E ops) m b0 i = S := by
          unfold St.masked; rw [maskF_off hm0]
         have e2 : S1.unmasked S (mkAt E ops) m b0 i = S1 := by
          unfold St.unmasked; rw [unmaskF_off hm0]
         simp only [cond_true, e1, hev, hp, e2]
         rw [hgo]
         refine ⟨_, _, rfl, fun x hx => ?_, h2⟩
         rcases List.mem_cons.1 hx with rfl | hx
         · exact ⟨o, hko, hq⟩
         · exact h1 x hx
        | false =>
         simp only [cond_false]
         rw [hgo]
         refine ⟨_, _, rfl, h1, fun x hx => ?_⟩
         cases hld : loadsFrom E tm o with
         | none => rw [hld] at hx; exact h2 x hx
         | some a =>
          rw [hld] at hx
          rcases List.mem_cons.1 hx with rfl | hx
          · refine ⟨o, hko, ?_⟩
            cases hml : mayLoad o.op with
            | true => rfl
            | false => rw [plain_no_load hml] at hld; simp at hld
          · exact h2 x hx
      · simp at h
theorem loadsIn_at {m : PM Nat} {i : Nat} {y : Oper} : ∀ (l : List Oper) (j : Nat), loadsIn E m i y j l = true → ∀ k x, l[k]? = some x → loudOp E x.op = true → bit m i (j + k) = true ∨ bit m (j + k) i = true := by
 intro l
 induction l with
 | nil => intro j _ k x hx; simp at hx
 | cons x r ih =>
  intro j h k x' hx hl
  simp only [loadsIn, Bool.and_eq_true, Bool.or_eq_true] at h
  cases k with
  | zero =>
   simp at hx; subst hx
   rcases h.1 with (h' | h') | h'
   · rw [hl] at h'; cases h'
   · exact .inl h'
   · exact .inr h'
  | succ k =>
   have := ih (j + 1) h.2 k x' (by simpa using hx) hl
   rwa [show j + 1 + k = j + (k + 1) by omega] at this
theorem loadsAll_at {m : PM Nat} {all : List Oper} : ∀ (l : List Oper) (i : Nat), loadsAll E m all i l = true → ∀ k y, l[k]? = some y → mayLoad y.op = true → loadsIn E m (i + k) y 0 all = true := by
 intro l
 induction l with
 | nil => intro i _ k y hy; simp at hy
 | cons y r ih =>
  intro i h k y' hy hl
  simp only [loadsAll, Bool.and_eq_true, Bool.or_eq_true] at h
  cases k with
  | zero =>
   simp at hy; subst hy
   rcases h.1 with h' | h'
   · rw [hl] at h'; cases h'
   · exact h'
  | succ k =>
   have := ih (i + 1) h.2 k y' (by simpa using hy) hl
   rwa [show i + 1 + k = i + (k + 1) by omega] at this
theorem plainReg_ok {ops : Array Oper} {tm : PM AV} {S : St} {tm' : PM AV} {S' : St} (hp : plainReg E ops = true) (h : evSeq E call nt ops ops.toList tm (S.raise ops.size) = some (tm', S')) : evDraw E call nt ops tm S = some (tm', S') := by
 simp only [plainReg, Bool.and_eq_true] at hp
 obtain ⟨⟨h1, h2⟩, h3⟩ := hp
 obtain ⟨hist, ls, hgo, k1, k2⟩ := draw_of_seq (m := masks 0 ops.toList .leaf) (b0 := S.no) h2 ops.toList 0 tm _ tm' S' rfl h
 have hl : ls.all (loadOk E ops (masks 0 ops.toList .leaf) S.no ops.size hist) = true := by
  refine List.all_eq_true.2 fun p hp => ?_
  obtain ⟨y, hy, hy2⟩ := k2 p hp
  have hin := loadsAll_at _ _ h3 p.1 y (by simpa using hy) hy2
  rw [Nat.zero_add] at hin
  simp only [loadOk, mkAt_off h2, Bool.not_false, Bool.or_true, Bool.true_or, Bool.and_true]
  refine List.all_eq_true.2 fun x hx => ?_
  obtain ⟨o, ho, ho2⟩ := k1 x hx
  have := loadsIn_at _ _ hin x.1 o (by simpa using ho) ho2
  rw [Nat.zero_add] at this
  rcases this with h | h <;> simp [h]
 have e : evDraw E call nt ops tm S = (bif allPairs E ops (masks 0 ops.toList .leaf) 0 ops.toList then
  match evDrawGo E call nt ops (masks 0 ops.toList .leaf) S.no 0 ops.toList tm (S.raise ops.size) with
  | some (tm', S', hist, ls) => bif ls.all (loadOk E ops (masks 0 ops.toList .leaf) S.no ops.size hist) then some (tm', S') else none
  | none => none
 else none) := rfl
 rw [e, h1, hgo]
 simp only [cond_true, hl]
theorem comp_ok : ∀ (c : Code) (tm : PM AV) (S : St) (r : Out × PM AV × St), evP E call lf nt (comp E nt c) tm S = some r → evC (mac1 E call lf nt) E call lf nt c tm S = some r := by
 intro c
 induction c with
 | region id ops draw =>
  intro tm S r h
  cases draw with
  | false =>
   simp only [comp, regOf] at h
   split at h
   · rename_i l hl
     simp only [evP] at h
     split at h
     · rename_i tm' S' he
       simp only [evC, seq_of_evL _ _ _ _ _ hl he]
       exact h
     · simp at h
   · simp [evP] at h
  | true =>
   simp only [comp] at h
   cases hb : plainReg E ops with
   | true =>
    rw [hb] at h
    simp only [cond_true, regDOf] at h
    split at h
    · rename_i l hl
      simp only [evP] at h
      split at h
      · rename_i tm' S' he
        simp only [evC, plainReg_ok hb (seq_of_evL _ _ _ _ _ hl he)]
        exact h
      · simp at h
    · simp [evP] at h
   | false =>
    rw [hb] at h
    simp only [cond_false, evP] at h
    simp only [evC]
    exact h
 | seq x y ihx ihy =>
  intro tm S r h
  simp only [comp] at h
  cases hm : mapStmt (.seq x y) with
  | some m => rw [hm] at h; cases h
  | none =>
  rw [hm] at h
  have hM : mac1 E call lf nt (.seq x y) = none := by unfold mac1; rw [hm]
  simp only [Option.isSome_none, cond_false, evP] at h
  simp only [evC, hM]
  split at h
  · rename_i tm1 S1 h1
    rw [ihx _ _ _ h1]
    exact ihy _ _ _ h
  · rename_i hne
    have := ihx _ _ _ h
    rw [this]
    obtain ⟨o, tm', S'⟩ := r
    cases o with
    | nrm => exact absurd h (hne tm' S')
    | exit id => rfl
    | ret => rfl
 | cond c x y ihx ihy =>
  intro tm S r h
  simp only [comp, evP] at h
  simp only [evC]
  split at h
  · rename_i hev; rw [hev]; exact ihx _ _ _ h
  · rename_i hev; rw [hev]; exact ihy _ _ _ h
  · simp at h
 | block id c ih =>
  intro tm S r h
  simp only [comp, evP] at h
  simp only [evC]
  split at h
  · rename_i j tm1 S1 h1
    rw [ih _ _ _ h1]
    exact h
  · rename_i hne
    have := ih _ _ _ h
    rw [this]
    obtain ⟨o, tm', S'⟩ := r
    cases o with
    | nrm => rfl
    | exit j => exact absurd h (hne j tm' S')
    | ret => rfl
 | loop c ih =>
  intro tm S r h
  simp only [comp, evP] at h
  simp only [evC]
  have key : ∀ (k : Nat) (tm : PM AV) (S : St) (r : Out × PM AV × St), iter (evP E call lf nt (comp E nt c)) k tm S = some r → iter (evC (mac1 E call lf nt) E call lf nt c) k tm S = some r := by
   intro k
   induction k with
   | zero => intro tm S r h; simp [iter] at h
   | succ k ihk =>
    intro tm S r h
    simp only [iter] at h ⊢
    split at h
    · simp at h
    · rename_i h1
      rw [ih _ _ _ h1]
      exact ihk _ _ _ h
    · rename_i h1
      rw [ih _ _ _ h1]
      exact h
    · rename_i h1
      rw [ih _ _ _ h1]
      exact h
  exact key _ _ _ _ h
 | scope c ih => intro tm S r h; simp only [comp] at h; simp only [evC]; exact ih _ _ _ h
 | skip => intro tm S r h; exact h
 | label l => intro tm S r h; exact h
 | exit id => intro tm S r h; exact h
 | ret => intro tm S r h; exact h
 | _ => intro tm S r h; simp [comp, evP] at h
end
end Go.Abs
end
end
