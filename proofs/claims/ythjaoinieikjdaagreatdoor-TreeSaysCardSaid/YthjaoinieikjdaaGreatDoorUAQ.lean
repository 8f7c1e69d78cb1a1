/-
  The code without what the evaluator does not look at; a calculus to prove what a function answers.
-/
import Derived.Test.YthjaoinieikjdaaGreatDoorUAP
set_option linter.unusedSimpArgs false
set_option linter.unusedVariables false
namespace Go.Abs
structure POp where
 dst : Option Tmp
 op : Op
 guard : Option (Tmp × Bool)
inductive PC where
 | skip
 | reg (ops : List POp)
 | regD (n : Nat) (ops : List POp)
 | draw (ops : Array Oper)
 | seq (a b : PC)
 | cond (c : Operand) (a b : PC)
 | block (id : Nat) (c : PC)
 | loop (c : PC)
 | exit (id : Nat)
 | ret
 | bad
noncomputable def sS (nt : Nat) : Option Tmp → Bool
 | none => true
 | some d => Nat.blt d nt
noncomputable def popOf (nt : Nat) (ops : Array Oper) (o : Oper) : Option POp :=
 bif sS nt o.dst then
  match o.guard with
  | none => some ⟨o.dst, o.op, none⟩
  | some (j, w) => match (ops[j]?).bind (·.dst) with
   | some t => some ⟨o.dst, o.op, some (t, w)⟩
   | none => none
 else none
noncomputable def lJ (nt : Nat) (ops : Array Oper) : List Oper → Option (List POp)
 | [] => some []
 | o :: r => match popOf nt ops o, lJ nt ops r with
  | some p, some l => some (p :: l)
  | _, _ => none
noncomputable def regOf (nt : Nat) (ops : Array Oper) : PC :=
 match lJ nt ops ops.toList with
 | some l => .reg l
 | none => .bad
noncomputable def regDOf (nt : Nat) (ops : Array Oper) : PC :=
 match lJ nt ops ops.toList with
 | some l => .regD ops.size l
 | none => .bad
noncomputable def gW : Op → Bool
 | .load .. | .convert .. | .slice .. | .lookup .. => true
 | .call { callee := .builtin .len, .. } => true
 | _ => false
noncomputable def mQ (E : Env) (m : PM Nat) (i : Nat) (y : Oper) : Nat → List Oper → Bool
 | _, [] => true
 | j, x :: r => (!eK E x.op || bit m i j || bit m j i) && mQ E m i y (j + 1) r
noncomputable def yO (E : Env) (m : PM Nat) (all : List Oper) : Nat → List Oper → Bool
 | _, [] => true
 | i, y :: r => (!gW y.op || mQ E m i y 0 all) && yO E m all (i + 1) r
noncomputable def yN (E : Env) (ops : Array Oper) : Bool :=
 mP E ops (eN 0 ops.toList .leaf) 0 ops.toList && ops.toList.all (fun o => !cD E o) && yO E (eN 0 ops.toList .leaf) ops.toList 0 ops.toList
noncomputable def eH (E : Env) (nt : Nat) : Code → PC
 | .skip => .skip
 | .label _ => .skip
 | .region _ ops false => regOf nt ops
 | .region _ ops true => bif yN E ops then regDOf nt ops else .draw ops
 | .seq a b => .seq (eH E nt a) (eH E nt b)
 | .cond c a b => .cond c (eH E nt a) (eH E nt b)
 | .block id c => .block id (eH E nt c)
 | .loop c => .loop (eH E nt c)
 | .scope c => eH E nt c
 | .exit id => .exit id
 | .ret => .ret
 | _ => .bad
noncomputable def fP (dst : Option Tmp) (op : Op) : Oper := ⟨dst, op, 0, "", #[], none⟩
noncomputable def iE (tm : PM AV) : Option Tmp → AV → PM AV
 | none, _ => tm
 | some d, v => tm.set d v
noncomputable def St.raise (S : St) (n : Nat) : St := { S with no := S.no + n }
noncomputable def oD (tm : PM AV) : Option (Tmp × Bool) → Option Bool
 | none => some true
 | some (t, want) => match getT tm t with
  | .sc (.bool b) => some (b == want)
  | .sc (.tuple _) => some false
  | _ => none
noncomputable def evL (E : Env) (call : eS) : List POp → PM AV → St → Option (PM AV × St)
 | [], tm, S => some (tm, S)
 | p :: r, tm, S => match oD tm p.guard with
  | none => none
  | some false => evL E call r (iE tm p.dst dB) S
  | some true => match eV E call tm (fP p.dst p.op) S with
   | none => none
   | some (v, S') => evL E call r (iE tm p.dst v) S'
noncomputable def evP (E : Env) (call : eS) (lf nt : Nat) : PC → PM AV → St → Option (Out × PM AV × St)
 | .skip, tm, S => some (.nrm, tm, S)
 | .reg l, tm, S => match evL E call l tm S with
  | some (tm', S') => some (.nrm, tm', S')
  | none => none
 | .regD n l, tm, S => match evL E call l tm (S.raise n) with
  | some (tm', S') => some (.nrm, tm', S')
  | none => none
 | .draw ops, tm, S => match lK E call nt ops tm S with
  | some (tm', S') => some (.nrm, tm', S')
  | none => none
 | .seq x y, tm, S => match evP E call lf nt x tm S with
  | some (.nrm, tm', S') => evP E call lf nt y tm' S'
  | r => r
 | .cond c x y, tm, S => match E.ev tm c with
  | .sc (.bool true) => evP E call lf nt x tm S
  | .sc (.bool false) => evP E call lf nt y tm S
  | _ => none
 | .block id c, tm, S => match evP E call lf nt c tm S with
  | some (.exit j, tm', S') => bif Nat.beq j id then some (.nrm, tm', S') else some (.exit j, tm', S')
  | r => r
 | .loop c, tm, S => iP (evP E call lf nt c) lf tm S
 | .exit id, tm, S => some (.exit id, tm, S)
 | .ret, tm, S => some (.ret, tm, S)
 | .bad, _, _ => none
section
variable {E : Env} {call : eS} {lf nt : Nat}
theorem kr7 (tm : PM AV) (o : Oper) (S : St) : eV E call tm o S = eV E call tm (fP o.dst o.op) S := by
 obtain ⟨dst, op, ty, pos, after, guard⟩ := o
 cases op <;> rfl
theorem xk6 {tm : PM AV} {dst : Option Tmp} {v : AV} (h : sS nt dst = true) : gC nt dst v tm = some (iE tm dst v) := by
 cases dst with
 | none => rfl
 | some d =>
  simp only [sS] at h
  simp [gC, iE, h]
theorem rT {ops : Array Oper} : ∀ (l : List Oper) (pl : List POp) (tm : PM AV) (S : St) (r : PM AV × St), lJ nt ops l = some pl → evL E call pl tm S = some r → eP E call nt ops l tm S = some r
 | [], pl, tm, S, r, hp, h => by
  simp [lJ] at hp; subst hp
  simpa [evL, eP] using h
 | o :: l, pl, tm, S, r, hp, h => by
  simp only [lJ] at hp
  split at hp
  · rename_i p pl' h1 h2
    simp only [aI] at hp
    subst hp
    simp only [popOf] at h1
    cases hd : sS nt o.dst with
    | false => rw [hd] at h1; simp at h1
    | true =>
     rw [hd] at h1
     simp only [aH] at h1
     have hw : iD ops tm o = oD tm p.guard ∧ p.dst = o.dst ∧ p.op = o.op := by
      unfold iD
      cases hg : o.guard with
      | none => simp only [hg, aI] at h1; subst h1; exact ⟨rfl, rfl, rfl⟩
      | some q =>
       obtain ⟨j, w⟩ := q
       simp only [hg] at h1 ⊢
       cases hdd : (ops[j]?).bind (·.dst) with
       | none => simp [hdd] at h1
       | some t =>
        simp only [hdd, aI] at h1
        subst h1
        exact ⟨rfl, rfl, rfl⟩
     obtain ⟨hw1, hw2, hw3⟩ := hw
     simp only [evL] at h
     rw [← hw1] at h
     simp only [eP]
     split at h
     · simp at h
     · rename_i hwa
       simp only [hwa, xk6 hd]
       rw [hw2] at h
       exact rT l pl' _ _ _ h2 h
     · rename_i hwa
       rw [hw3, hw2] at h
       simp only [hwa]
       rw [kr7]
       split at h
       · simp at h
       · rename_i v S' hev
         rw [hev]
         simp only [xk6 hd]
         exact rT l pl' _ _ _ h2 h
  · simp at hp
theorem xZ {mk : Nat → Bool} (h : ∀ k, mk k = false) (m : PM Nat) (b0 j : Nat) (S : St) : ∀ n, oK mk m b0 j S n = S.objs
 | 0 => rfl
 | n + 1 => by simp [oK, hid, h n, xZ h m b0 j S n]
theorem xF {mk : Nat → Bool} (h : ∀ k, mk k = false) (m : PM Nat) (b0 j : Nat) (S : St) (os : PM AObj) : ∀ n, nH mk m b0 j S os n = os
 | 0 => rfl
 | n + 1 => by simp [nH, hid, h n, xF h m b0 j S os n]
theorem vR {ops : Array Oper} (h : ops.toList.all (fun o => !cD E o) = true) (k : Nat) : dF E ops k = false := by
 unfold dF
 split
 · rename_i o ho
   have := List.all_eq_true.1 h o (by simpa using Array.mem_of_getElem? ho)
   simpa using this
 · rfl
theorem xB {tm : PM AV} {o : Oper} (h : gW o.op = false) : eQ E tm o = none := by
 obtain ⟨dst, op, ty, pos, after, guard⟩ := o
 cases op with
 | call c =>
  obtain ⟨callee, args, ats⟩ := c
  cases callee with
  | builtin b => cases b <;> first | rfl | simp [gW] at h
  | _ => rfl
 | _ => first | rfl | simp [gW] at h
theorem yu4 {ops : Array Oper} {m : PM Nat} {b0 : Nat} (hmk : ops.toList.all (fun o => !cD E o) = true) : ∀ (l : List Oper) (i : Nat) (tm : PM AV) (S : St) (tm' : PM AV) (S' : St), ops.toList.drop i = l → eP E call nt ops l tm S = some (tm', S') →
 ∃ hist ls, eX E call nt ops m b0 i l tm S = some (tm', S', hist, ls) ∧ (∀ h ∈ hist, ∃ o, ops[h.1]? = some o ∧ eK E o.op = true) ∧ (∀ p ∈ ls, ∃ o, ops[p.1]? = some o ∧ gW o.op = true)
 | [], i, tm, S, tm', S', _, h => by
  simp only [eP, aI, aJ] at h
  obtain ⟨rfl, rfl⟩ := h
  exact ⟨[], [], rfl, by simp, by simp⟩
 | o :: l, i, tm, S, tm', S', hd, h => by
  have hko : ops[i]? = some o := by
   have h0 : (ops.toList.drop i)[0]? = some o := by rw [hd]; rfl
   rw [jM] at h0
   simpa using h0
  have hrest : ops.toList.drop (i + 1) = l := by rw [← nT, hd]; rfl
  have hmo : cD E o = false := by
   have := List.all_eq_true.1 hmk o (by simpa using Array.mem_of_getElem? hko)
   simpa using this
  have hm0 := fun k => vR hmk k
  simp only [eP] at h
  simp only [eX]
  split at h
  · simp at h
  · split at h
    · rename_i tm1 hp
      exact yu4 hmk l (i + 1) _ _ _ _ hrest h
    · simp at h
  · simp only [eV, hmo, aK] at h ⊢
    split at h
    · simp at h
    · rename_i v S1 hev
      split at h
      · rename_i tm1 hp
        obtain ⟨hist, ls, hgo, h1, h2⟩ := yu4 hmk l (i + 1) _ _ _ _ hrest h
        cases hq : eK E o.op with
        | true =>
         have e1 : S.masked (dF E ops) m b0 i = S := by
          unfold St.masked; rw [xZ hm0]
         have e2 : S1.unmasked S (dF E ops) m b0 i = S1 := by
          unfold St.unmasked; rw [xF hm0]
         simp only [aH, e1, hev, hp, e2]
         rw [hgo]
         refine ⟨_, _, rfl, fun x hx => ?_, h2⟩
         rcases List.mem_cons.1 hx with rfl | hx
         · exact ⟨o, hko, hq⟩
         · exact h1 x hx
        | false =>
         simp only [aK]
         rw [hgo]
         refine ⟨_, _, rfl, h1, fun x hx => ?_⟩
         cases hld : eQ E tm o with
         | none => rw [hld] at hx; exact h2 x hx
         | some a =>
          rw [hld] at hx
          rcases List.mem_cons.1 hx with rfl | hx
          · refine ⟨o, hko, ?_⟩
            cases hml : gW o.op with
            | true => rfl
            | false => rw [xB hml] at hld; simp at hld
          · exact h2 x hx
      · simp at h
theorem xa5 {m : PM Nat} {i : Nat} {y : Oper} : ∀ (l : List Oper) (j : Nat), mQ E m i y j l = true → ∀ k x, l[k]? = some x → eK E x.op = true → bit m i (j + k) = true ∨ bit m (j + k) i = true := by
 intro l
 induction l with
 | nil => intro j _ k x hx; simp at hx
 | cons x r ih =>
  intro j h k x' hx hl
  simp only [mQ, aS, eF] at h
  cases k with
  | zero =>
   simp at hx; subst hx
   rcases h.1 with (h' | h') | h'
   · rw [hl] at h'; cases h'
   · exact .inl h'
   · exact .inr h'
  | succ k =>
   have := ih (j + 1) h.2 k x' (by simpa using hx) hl
   rwa [show j + 1 + k = j + (k + 1) by omega] at this
theorem wm8 {m : PM Nat} {all : List Oper} : ∀ (l : List Oper) (i : Nat), yO E m all i l = true → ∀ k y, l[k]? = some y → gW y.op = true → mQ E m (i + k) y 0 all = true := by
 intro l
 induction l with
 | nil => intro i _ k y hy; simp at hy
 | cons y r ih =>
  intro i h k y' hy hl
  simp only [yO, aS, eF] at h
  cases k with
  | zero =>
   simp at hy; subst hy
   rcases h.1 with h' | h'
   · rw [hl] at h'; cases h'
   · exact h'
  | succ k =>
   have := ih (i + 1) h.2 k y' (by simpa using hy) hl
   rwa [show i + 1 + k = i + (k + 1) by omega] at this
theorem wm2 {ops : Array Oper} {tm : PM AV} {S : St} {tm' : PM AV} {S' : St} (hp : yN E ops = true) (h : eP E call nt ops ops.toList tm (S.raise ops.size) = some (tm', S')) : lK E call nt ops tm S = some (tm', S') := by
 simp only [yN, aS] at hp
 obtain ⟨⟨h1, h2⟩, h3⟩ := hp
 obtain ⟨hist, ls, hgo, k1, k2⟩ := yu4 (m := eN 0 ops.toList .leaf) (b0 := S.no) h2 ops.toList 0 tm _ tm' S' rfl h
 have hl : ls.all (kN E ops (eN 0 ops.toList .leaf) S.no ops.size hist) = true := by
  refine List.all_eq_true.2 fun p hp => ?_
  obtain ⟨y, hy, hy2⟩ := k2 p hp
  have hin := wm8 _ _ h3 p.1 y (by simpa using hy) hy2
  rw [aF] at hin
  simp only [kN, vR h2, kC, cR, cA, jK]
  refine List.all_eq_true.2 fun x hx => ?_
  obtain ⟨o, ho, ho2⟩ := k1 x hx
  have := xa5 _ _ hin x.1 o (by simpa using ho) ho2
  rw [aF] at this
  rcases this with h | h <;> simp [h]
 have e : lK E call nt ops tm S = (bif mP E ops (eN 0 ops.toList .leaf) 0 ops.toList then
  match eX E call nt ops (eN 0 ops.toList .leaf) S.no 0 ops.toList tm (S.raise ops.size) with
  | some (tm', S', hist, ls) => bif ls.all (kN E ops (eN 0 ops.toList .leaf) S.no ops.size hist) then some (tm', S') else none
  | none => none
 else none) := rfl
 rw [e, h1, hgo]
 simp only [aH, hl]
theorem comp_ok : ∀ (c : Code) (tm : PM AV) (S : St) (r : Out × PM AV × St), evP E call lf nt (eH E nt c) tm S = some r → evC (pQ E call lf nt) E call lf nt c tm S = some r := by
 intro c
 induction c with
 | region id ops draw =>
  intro tm S r h
  cases draw with
  | false =>
   simp only [eH, regOf] at h
   split at h
   · rename_i l hl
     simp only [evP] at h
     split at h
     · rename_i tm' S' he
       simp only [evC, rT _ _ _ _ _ hl he]
       exact h
     · simp at h
   · simp [evP] at h
  | true =>
   simp only [eH] at h
   cases hb : yN E ops with
   | true =>
    rw [hb] at h
    simp only [aH, regDOf] at h
    split at h
    · rename_i l hl
      simp only [evP] at h
      split at h
      · rename_i tm' S' he
        simp only [evC, wm2 hb (rT _ _ _ _ _ hl he)]
        exact h
      · simp at h
    · simp [evP] at h
   | false =>
    rw [hb] at h
    simp only [aK, evP] at h
    simp only [evC]
    exact h
 | seq x y ihx ihy =>
  intro tm S r h
  simp only [eH] at h
  simp only [evP] at h
  have hM : pQ E call lf nt (.seq x y) = none := rfl
  simp only [evC, hM]
  split at h
  · rename_i tm1 S1 h1
    rw [ihx _ _ _ h1]
    exact ihy _ _ _ h
  · rename_i hne
    have := ihx _ _ _ h
    rw [this]
    obtain ⟨o, tm', S'⟩ := r
    cases o with
    | nrm => exact absurd h (hne tm' S')
    | exit id => rfl
    | ret => rfl
 | cond c x y ihx ihy =>
  intro tm S r h
  simp only [eH, evP] at h
  simp only [evC]
  split at h
  · rename_i hev; rw [hev]; exact ihx _ _ _ h
  · rename_i hev; rw [hev]; exact ihy _ _ _ h
  · simp at h
 | block id c ih =>
  intro tm S r h
  simp only [eH, evP] at h
  simp only [evC]
  split at h
  · rename_i j tm1 S1 h1
    rw [ih _ _ _ h1]
    exact h
  · rename_i hne
    have := ih _ _ _ h
    rw [this]
    obtain ⟨o, tm', S'⟩ := r
    cases o with
    | nrm => rfl
    | exit j => exact absurd h (hne j tm' S')
    | ret => rfl
 | loop c ih =>
  intro tm S r h
  simp only [eH, evP] at h
  simp only [evC]
  have key : ∀ (k : Nat) (tm : PM AV) (S : St) (r : Out × PM AV × St), iP (evP E call lf nt (eH E nt c)) k tm S = some r → iP (evC (pQ E call lf nt) E call lf nt c) k tm S = some r := by
   intro k
   induction k with
   | zero => intro tm S r h; simp [iP] at h
   | succ k ihk =>
    intro tm S r h
    simp only [iP] at h ⊢
    split at h
    · simp at h
    · rename_i h1
      rw [ih _ _ _ h1]
      exact ihk _ _ _ h
    · rename_i h1
      rw [ih _ _ _ h1]
      exact h
    · rename_i h1
      rw [ih _ _ _ h1]
      exact h
  exact key _ _ _ _ h
 | scope c ih => intro tm S r h; simp only [eH] at h; simp only [evC]; exact ih _ _ _ h
 | skip => intro tm S r h; exact h
 | label l => intro tm S r h; exact h
 | exit id => intro tm S r h; exact h
 | ret => intro tm S r h; exact h
 | _ => intro tm S r h; simp [eH, evP] at h
end
noncomputable def EvA (E : Env) (f : FuncId) (args : List AV) (S : St) (r : AV) (S' : St) : Prop := ∃ N, ∀ lf n, N ≤ lf → N ≤ n → evF E lf n f args S = some (r, S')
inductive KI where
 | c (p : PC)
 | blk (id : Nat)
noncomputable def dH (E : Env) (call : eS) (lf nt : Nat) : List KI → Out → PM AV → St → Option (Out × PM AV × St)
 | [], o, tm, S => some (o, tm, S)
 | .c p :: k, .nrm, tm, S => match evP E call lf nt p tm S with
  | some (o, tm', S') => dH E call lf nt k o tm' S'
  | none => none
 | .c _ :: k, .exit j, tm, S => dH E call lf nt k (.exit j) tm S
 | .c _ :: k, .ret, tm, S => dH E call lf nt k .ret tm S
 | .blk _ :: k, .nrm, tm, S => dH E call lf nt k .nrm tm S
 | .blk id :: k, .exit j, tm, S => bif Nat.beq j id then dH E call lf nt k .nrm tm S else dH E call lf nt k (.exit j) tm S
 | .blk _ :: k, .ret, tm, S => dH E call lf nt k .ret tm S
abbrev kW := Out → PM AV → St → Prop
noncomputable def aV (E : Env) (nt : Nat) (k : List KI) (o : Out) (tm : PM AV) (S : St) (Q : kW) : Prop :=
 ∃ N o' tm' S', (∀ lf n, N ≤ lf → N ≤ n → dH E (evF E lf n) lf nt k o tm S = some (o', tm', S')) ∧ Q o' tm' S'
section
variable {E : Env} {nt : Nat} {k : List KI} {tm : PM AV} {S : St} {Q : kW} {o : Out}
theorem jD {k2 : List KI} {o2 : Out} {tm2 : PM AV} {S2 : St} (h : ∀ call lf, dH E call lf nt k o tm S = dH E call lf nt k2 o2 tm2 S2) : aV E nt k o tm S Q = aV E nt k2 o2 tm2 S2 Q := by
 simp only [aV, h]
theorem e_nil : aV E nt [] o tm S Q = Q o tm S := by
 refine propext ⟨?_, fun h => ⟨0, o, tm, S, fun _ _ _ _ => rfl, h⟩⟩
 rintro ⟨N, o', tm', S', h, hq⟩
 have := h N N (aB _) (aB _)
 simp only [dH, aI, aJ] at this
 obtain ⟨rfl, rfl, rfl⟩ := this
 exact hq
theorem e_skip : aV E nt (.c .skip :: k) .nrm tm S Q = aV E nt k .nrm tm S Q := jD fun _ _ => rfl
theorem e_exit (j : Nat) : aV E nt (.c (.exit j) :: k) .nrm tm S Q = aV E nt k (.exit j) tm S Q := jD fun _ _ => rfl
theorem e_ret : aV E nt (.c .ret :: k) .nrm tm S Q = aV E nt k .ret tm S Q := jD fun _ _ => rfl
theorem je8 (p : PC) (j : Nat) : aV E nt (.c p :: k) (.exit j) tm S Q = aV E nt k (.exit j) tm S Q := jD fun _ _ => rfl
theorem ks5 (j : Nat) : aV E nt (.blk j :: k) .nrm tm S Q = aV E nt k .nrm tm S Q := jD fun _ _ => rfl
theorem ke4 (id j : Nat) : aV E nt (.blk id :: k) (.exit j) tm S Q = if j = id then aV E nt k .nrm tm S Q else aV E nt k (.exit j) tm S Q := by
 by_cases h : j = id
 · rw [bN h]; exact jD fun _ _ => by simp [dH, h]
 · rw [aR h]; exact jD fun _ _ => by simp [dH, beqF h]
theorem ks4 : aV E nt k .ret tm S Q = Q .ret tm S := by
 induction k with
 | nil => exact e_nil
 | cons a k ih => cases a <;> (rw [← ih]; exact jD fun _ _ => rfl)
theorem e_seq (a b : PC) : aV E nt (.c (.seq a b) :: k) .nrm tm S Q = aV E nt (.c a :: .c b :: k) .nrm tm S Q := by
 refine jD fun call lf => ?_
 simp only [dH, evP]
 cases evP E call lf nt a tm S with
 | none => rfl
 | some r =>
  obtain ⟨o, tm', S'⟩ := r
  cases o <;> rfl
theorem e_block (id : Nat) (a : PC) : aV E nt (.c (.block id a) :: k) .nrm tm S Q = aV E nt (.c a :: .blk id :: k) .nrm tm S Q := by
 refine jD fun call lf => ?_
 simp only [dH, evP]
 cases evP E call lf nt a tm S with
 | none => rfl
 | some r =>
  obtain ⟨o, tm', S'⟩ := r
  cases o with
  | exit j => simp only [dH]; cases Nat.beq j id <;> rfl
  | _ => rfl
theorem ks3 : aV E nt (.c (.reg []) :: k) .nrm tm S Q = aV E nt k .nrm tm S Q := jD fun _ _ => rfl
theorem e_regD (n : Nat) (l : List POp) : aV E nt (.c (.regD n l) :: k) .nrm tm S Q = aV E nt (.c (.reg l) :: k) .nrm tm (S.raise n) Q := jD fun _ _ => rfl
noncomputable def uA (E : Env) (nt : Nat) (v : AV) (a b : PC) (k : List KI) (tm : PM AV) (S : St) (Q : kW) : Prop :=
 match v with
 | .sc (.bool true) => aV E nt (.c a :: k) .nrm tm S Q
 | .sc (.bool false) => aV E nt (.c b :: k) .nrm tm S Q
 | _ => False
theorem yl6 (h : ∀ call lf, dH E call lf nt k o tm S = none) : aV E nt k o tm S Q = False := by
 refine propext ⟨?_, False.elim⟩
 rintro ⟨N, o', tm', S', h1, _⟩
 have := h1 N N (aB _) (aB _)
 rw [h] at this; cases this
theorem e_cond (c : Operand) (a b : PC) : aV E nt (.c (.cond c a b) :: k) .nrm tm S Q = uA E nt (E.ev tm c) a b k tm S Q := by
 unfold uA
 split
 · rename_i h; exact jD fun _ _ => by simp only [dH, evP, h]
 · rename_i h; exact jD fun _ _ => by simp only [dH, evP, h]
 · rename_i h1 h2
   refine yl6 fun call lf => ?_
   have : evP E call lf nt (.cond c a b) tm S = none := by
    simp only [evP]
   simp only [dH, this]
theorem ke9 (a b : PC) : uA E nt (.sc (.bool true)) a b k tm S Q = aV E nt (.c a :: k) .nrm tm S Q := rfl
theorem wp2 (a b : PC) : uA E nt (.sc (.bool false)) a b k tm S Q = aV E nt (.c b :: k) .nrm tm S Q := rfl
noncomputable def OpK (E : Env) (nt : Nat) (d : Option Tmp) (r : List POp) (k : List KI) (tm : PM AV) (Q : kW) (v : Option (AV × St)) : Prop :=
 match v with
 | some (v, S) => aV E nt (.c (.reg r) :: k) .nrm (iE tm d v) S Q
 | none => False
theorem kz8 (d : Option Tmp) (r : List POp) (v : AV) : OpK E nt d r k tm Q (some (v, S)) = aV E nt (.c (.reg r) :: k) .nrm (iE tm d v) S Q := rfl
noncomputable def wm5 : Op → Bool
 | .call { callee := .builtin _, .. } => true
 | .call _ => false
 | _ => true
noncomputable def opV (E : Env) (tm : PM AV) (d : Option Tmp) (op : Op) (S : St) : Option (AV × St) := eV E (fun _ _ _ => none) tm (fP d op) S
theorem opV_eq (call : eS) (d : Option Tmp) (op : Op) (h : wm5 op = true) : eV E call tm (fP d op) S = opV E tm d op S := by
 unfold opV
 cases op with
 | call c =>
  obtain ⟨callee, args, ats⟩ := c
  cases callee with
  | builtin b => rfl
  | _ => simp [wm5] at h
 | slice t x lo hi mx => cases hi <;> cases mx <;> rfl
 | _ => rfl
theorem fR (d : Option Tmp) (op : Op) (r : List POp) (h : wm5 op = true) : aV E nt (.c (.reg (⟨d, op, none⟩ :: r)) :: k) .nrm tm S Q = OpK E nt d r k tm Q (opV E tm d op S) := by
 unfold OpK
 split
 · rename_i v S' hv
   exact jD fun call lf => by simp only [dH, evP, evL, oD, opV_eq call d op h, hv]
 · rename_i hv
   exact yl6 fun call lf => by simp only [dH, evP, evL, oD, opV_eq call d op h, hv]
theorem eo_move {d : Option Tmp} {r : List POp} (x : Operand) : aV E nt (.c (.reg (⟨d, (.move x), none⟩ :: r)) :: k) .nrm tm S Q = OpK E nt d r k tm Q (opV E tm d (.move x) S) := fR d _ r rfl
theorem ks1 {d : Option Tmp} {r : List POp} (x : Operand) : aV E nt (.c (.reg (⟨d, (.assign x), none⟩ :: r)) :: k) .nrm tm S Q = OpK E nt d r k tm Q (opV E tm d (.assign x) S) := fR d _ r rfl
theorem eo_pick {d : Option Tmp} {r : List POp} (x y z : Operand) : aV E nt (.c (.reg (⟨d, (.pick x y z), none⟩ :: r)) :: k) .nrm tm S Q = OpK E nt d r k tm Q (opV E tm d (.pick x y z) S) := fR d _ r rfl
theorem je6 {d : Option Tmp} {r : List POp} (t : TypeId) : aV E nt (.c (.reg (⟨d, (.alloc t), none⟩ :: r)) :: k) .nrm tm S Q = OpK E nt d r k tm Q (opV E tm d (.alloc t) S) := fR d _ r rfl
theorem eo_box {d : Option Tmp} {r : List POp} (t : TypeId) (x : Operand) : aV E nt (.c (.reg (⟨d, (.box t x), none⟩ :: r)) :: k) .nrm tm S Q = OpK E nt d r k tm Q (opV E tm d (.box t x) S) := fR d _ r rfl
theorem je5 {d : Option Tmp} {r : List POp} (t : TypeId) (p : Array (Nat × Operand)) : aV E nt (.c (.reg (⟨d, (.build t p), none⟩ :: r)) :: k) .nrm tm S Q = OpK E nt d r k tm Q (opV E tm d (.build t p) S) := fR d _ r rfl
theorem wa1 {d : Option Tmp} {r : List POp} (t : TypeId) (n : Nat) (p : Array (Nat × Operand)) : aV E nt (.c (.reg (⟨d, (.buildSlice t n p), none⟩ :: r)) :: k) .nrm tm S Q = OpK E nt d r k tm Q (opV E tm d (.buildSlice t n p) S) := fR d _ r rfl
theorem eo_load {d : Option Tmp} {r : List POp} (t : TypeId) (x : Operand) : aV E nt (.c (.reg (⟨d, (.load t x), none⟩ :: r)) :: k) .nrm tm S Q = OpK E nt d r k tm Q (opV E tm d (.load t x) S) := fR d _ r rfl
theorem je0 {d : Option Tmp} {r : List POp} (t : TypeId) (x y : Operand) : aV E nt (.c (.reg (⟨d, (.store t x y), none⟩ :: r)) :: k) .nrm tm S Q = OpK E nt d r k tm Q (opV E tm d (.store t x y) S) := fR d _ r rfl
theorem wo5 {d : Option Tmp} {r : List POp} (x : Operand) : aV E nt (.c (.reg (⟨d, (.nilCheck x), none⟩ :: r)) :: k) .nrm tm S Q = OpK E nt d r k tm Q (opV E tm d (.nilCheck x) S) := fR d _ r rfl
theorem eo_bin {d : Option Tmp} {r : List POp} (b : BinOp) (t : TypeId) (x y : Operand) (u : TypeId) : aV E nt (.c (.reg (⟨d, (.binOp b t x y u), none⟩ :: r)) :: k) .nrm tm S Q = OpK E nt d r k tm Q (opV E tm d (.binOp b t x y u) S) := fR d _ r rfl
theorem eo_un {d : Option Tmp} {r : List POp} (b : UnOp) (t : TypeId) (x : Operand) : aV E nt (.c (.reg (⟨d, (.unOp b t x), none⟩ :: r)) :: k) .nrm tm S Q = OpK E nt d r k tm Q (opV E tm d (.unOp b t x) S) := fR d _ r rfl
theorem ke1 {d : Option Tmp} {r : List POp} (t u : TypeId) (x : Operand) : aV E nt (.c (.reg (⟨d, (.convert t u x), none⟩ :: r)) :: k) .nrm tm S Q = OpK E nt d r k tm Q (opV E tm d (.convert t u x) S) := fR d _ r rfl
theorem je1 {d : Option Tmp} {r : List POp} (t : TypeId) (x : Operand) (a b c : Option Operand) : aV E nt (.c (.reg (⟨d, (.slice t x a b c), none⟩ :: r)) :: k) .nrm tm S Q = OpK E nt d r k tm Q (opV E tm d (.slice t x a b c) S) := fR d _ r rfl
theorem wh6 {d : Option Tmp} {r : List POp} (t : TypeId) (x y : Operand) : aV E nt (.c (.reg (⟨d, (.makeSlice t x y), none⟩ :: r)) :: k) .nrm tm S Q = OpK E nt d r k tm Q (opV E tm d (.makeSlice t x y) S) := fR d _ r rfl
theorem ks0 {d : Option Tmp} {r : List POp} (t : TypeId) (x y : Operand) (b : Bool) : aV E nt (.c (.reg (⟨d, (.lookup t x y b), none⟩ :: r)) :: k) .nrm tm S Q = OpK E nt d r k tm Q (opV E tm d (.lookup t x y b) S) := fR d _ r rfl
theorem wh5 {d : Option Tmp} {r : List POp} (t : TypeId) (x y z : Operand) : aV E nt (.c (.reg (⟨d, (.mapUpdate t x y z), none⟩ :: r)) :: k) .nrm tm S Q = OpK E nt d r k tm Q (opV E tm d (.mapUpdate t x y z) S) := fR d _ r rfl
theorem kd9 {d : Option Tmp} {r : List POp} (t : TypeId) (x : Option Operand) : aV E nt (.c (.reg (⟨d, (.makeMap t x), none⟩ :: r)) :: k) .nrm tm S Q = OpK E nt d r k tm Q (opV E tm d (.makeMap t x) S) := fR d _ r rfl
theorem je2 {d : Option Tmp} {r : List POp} (t : TypeId) (x : Operand) : aV E nt (.c (.reg (⟨d, (.range t x), none⟩ :: r)) :: k) .nrm tm S Q = OpK E nt d r k tm Q (opV E tm d (.range t x) S) := fR d _ r rfl
theorem eo_next {d : Option Tmp} {r : List POp} (x : Operand) (b : Bool) : aV E nt (.c (.reg (⟨d, (.next x b), none⟩ :: r)) :: k) .nrm tm S Q = OpK E nt d r k tm Q (opV E tm d (.next x b) S) := fR d _ r rfl
theorem wh8 {d : Option Tmp} {r : List POp} (t : TypeId) (x : Operand) (f : Nat) : aV E nt (.c (.reg (⟨d, (.fieldAddr t x f), none⟩ :: r)) :: k) .nrm tm S Q = OpK E nt d r k tm Q (opV E tm d (.fieldAddr t x f) S) := fR d _ r rfl
theorem je4 {d : Option Tmp} {r : List POp} (t : TypeId) (x : Operand) (f : Nat) : aV E nt (.c (.reg (⟨d, (.field t x f), none⟩ :: r)) :: k) .nrm tm S Q = OpK E nt d r k tm Q (opV E tm d (.field t x f) S) := fR d _ r rfl
theorem wh7 {d : Option Tmp} {r : List POp} (t : TypeId) (x y : Operand) : aV E nt (.c (.reg (⟨d, (.indexAddr t x y), none⟩ :: r)) :: k) .nrm tm S Q = OpK E nt d r k tm Q (opV E tm d (.indexAddr t x y) S) := fR d _ r rfl
theorem je3 {d : Option Tmp} {r : List POp} (t : TypeId) (x y : Operand) : aV E nt (.c (.reg (⟨d, (.index t x y), none⟩ :: r)) :: k) .nrm tm S Q = OpK E nt d r k tm Q (opV E tm d (.index t x y) S) := fR d _ r rfl
theorem ke0 {d : Option Tmp} {r : List POp} (x : Operand) (f : Nat) : aV E nt (.c (.reg (⟨d, (.extract x f), none⟩ :: r)) :: k) .nrm tm S Q = OpK E nt d r k tm Q (opV E tm d (.extract x f) S) := fR d _ r rfl
theorem wo6 {d : Option Tmp} {r : List POp} (f : Fn) (x y : Array Operand) : aV E nt (.c (.reg (⟨d, (.makeFunc f x y), none⟩ :: r)) :: k) .nrm tm S Q = OpK E nt d r k tm Q (opV E tm d (.makeFunc f x y) S) := fR d _ r rfl
theorem xf4 {d : Option Tmp} {r : List POp} (t : TypeId) (x : Operand) : aV E nt (.c (.reg (⟨d, (.makeInterface t x), none⟩ :: r)) :: k) .nrm tm S Q = OpK E nt d r k tm Q (opV E tm d (.makeInterface t x) S) := fR d _ r rfl
theorem ke2 {d : Option Tmp} {r : List POp} (b : Builtin) (x : Array Operand) (a : Array TypeId) : aV E nt (.c (.reg (⟨d, (.call { callee := .builtin b, args := x, argTypes := a }), none⟩ :: r)) :: k) .nrm tm S Q = OpK E nt d r k tm Q (opV E tm d (.call { callee := .builtin b, args := x, argTypes := a }) S) := fR d _ r rfl
noncomputable def oH (E : Env) (nt : Nat) (g : AV) (want : Bool) (d : Option Tmp) (op : Op) (r : List POp) (k : List KI) (tm : PM AV) (S : St) (Q : kW) : Prop :=
 match g with
 | .sc (.bool b) => if b = want then aV E nt (.c (.reg (⟨d, op, none⟩ :: r)) :: k) .nrm tm S Q else aV E nt (.c (.reg r) :: k) .nrm (iE tm d dB) S Q
 | .sc (.tuple _) => aV E nt (.c (.reg r) :: k) .nrm (iE tm d dB) S Q
 | _ => False
theorem e_guard (d : Option Tmp) (op : Op) (t : Tmp) (want : Bool) (r : List POp) : aV E nt (.c (.reg (⟨d, op, some (t, want)⟩ :: r)) :: k) .nrm tm S Q = oH E nt (getT tm t) want d op r k tm S Q := by
 unfold oH
 split
 · rename_i b hb
   split
   · rename_i h
     refine jD fun call lf => ?_
     have : (b == want) = true := by simp [h]
     simp only [dH, evP, evL, oD, hb, this]
   · rename_i h
     refine jD fun call lf => ?_
     have : (b == want) = false := by simpa using h
     simp only [dH, evP, evL, oD, hb, this]
 · rename_i hb
   exact jD fun call lf => by simp only [dH, evP, evL, oD, hb]
 · rename_i h1 h2
   refine yl6 fun call lf => ?_
   have : oD tm (some (t, want)) = none := by
    simp only [oD]
   simp only [dH, evP, evL, this]
theorem wn6 (b : Bool) (d : Option Tmp) (op : Op) (r : List POp) : oH E nt (.sc (.bool b)) b d op r k tm S Q = aV E nt (.c (.reg (⟨d, op, none⟩ :: r)) :: k) .nrm tm S Q := by simp [oH]
theorem kp4 (d : Option Tmp) (op : Op) (r : List POp) : oH E nt (.sc (.bool true)) false d op r k tm S Q = aV E nt (.c (.reg r) :: k) .nrm (iE tm d dB) S Q := by simp [oH]
theorem kp5 (d : Option Tmp) (op : Op) (r : List POp) : oH E nt (.sc (.bool false)) true d op r k tm S Q = aV E nt (.c (.reg r) :: k) .nrm (iE tm d dB) S Q := by simp [oH]
theorem xz0 (w : Bool) (d : Option Tmp) (op : Op) (r : List POp) : oH E nt dB w d op r k tm S Q = aV E nt (.c (.reg r) :: k) .nrm (iE tm d dB) S Q := rfl
noncomputable def rJ (E : Env) (nt : Nat) (f : FuncId) (args : List AV) (d : Option Tmp) (r : List POp) (k : List KI) (tm : PM AV) (S : St) (Q : kW) : Prop :=
 ∃ N o' tm' S', (∀ lf n, N ≤ lf → N ≤ n → (match evF E lf n f args S with | some (v, S1) => dH E (evF E lf n) lf nt (.c (.reg r) :: k) .nrm (iE tm d v) S1 | none => none) = some (o', tm', S')) ∧ Q o' tm' S'
theorem cC {f : FuncId} {args : List AV} {d : Option Tmp} {r : List POp} {v : AV} {S1 : St} (h : EvA E f args S v S1) (h2 : aV E nt (.c (.reg r) :: k) .nrm (iE tm d v) S1 Q) : rJ E nt f args d r k tm S Q := by
 obtain ⟨N1, h1⟩ := h
 obtain ⟨N2, o', tm', S', h2, hq⟩ := h2
 refine ⟨max N1 N2, o', tm', S', fun lf n hl hn => ?_, hq⟩
 rw [h1 lf n (by omega) (by omega)]
 exact h2 lf n (by omega) (by omega)
theorem e_call (d : Option Tmp) (f : FuncId) (xs : Array Operand) (ats : Array TypeId) (r : List POp) (hx : E.ext f = none) : aV E nt (.c (.reg (⟨d, .call { callee := .value (.func f), args := xs, argTypes := ats }, none⟩ :: r)) :: k) .nrm tm S Q = rJ E nt f (xs.toList.map (E.ev tm)) d r k tm S Q := by
 have h : ∀ call lf, dH E call lf nt (.c (.reg (⟨d, .call { callee := .value (.func f), args := xs, argTypes := ats }, none⟩ :: r)) :: k) .nrm tm S =
  (match call f (xs.toList.map (E.ev tm)) S with | some (v, S1) => dH E call lf nt (.c (.reg r) :: k) .nrm (iE tm d v) S1 | none => none) := fun call lf => by
  have e : eV E call tm (fP d (.call { callee := .value (.func f), args := xs, argTypes := ats })) S = call f (xs.toList.map (E.ev tm)) S := by
   simp only [eV, fP, cD, aK, aW, mZ, Env.ev, fnOf, Array.isEmpty_empty, bY, aH, hx, mL, dK]
  simp only [dH, evP, evL, oD, e]
  cases call f (xs.toList.map (E.ev tm)) S with
  | none => rfl
  | some r => rfl
 simp only [aV, rJ, h]
theorem wo7 (d : Option Tmp) (x : Operand) (xs : Array Operand) (ats : Array TypeId) (r : List POp) {g : FuncId} {first cap : List AV} (hf : fnOf (E.ev tm x) = some (g, first, cap)) (hx : E.ext g = none) :
 aV E nt (.c (.reg (⟨d, .call { callee := .value x, args := xs, argTypes := ats }, none⟩ :: r)) :: k) .nrm tm S Q = rJ E nt g (first ++ xs.toList.map (E.ev tm) ++ cap) d r k tm S Q := by
 have h : ∀ call lf, dH E call lf nt (.c (.reg (⟨d, .call { callee := .value x, args := xs, argTypes := ats }, none⟩ :: r)) :: k) .nrm tm S =
  (match call g (first ++ xs.toList.map (E.ev tm) ++ cap) S with | some (v, S1) => dH E call lf nt (.c (.reg r) :: k) .nrm (iE tm d v) S1 | none => none) := fun call lf => by
  have e : eV E call tm (fP d (.call { callee := .value x, args := xs, argTypes := ats })) S = call g (first ++ xs.toList.map (E.ev tm) ++ cap) S := by
   simp only [eV, fP, cD, aK, aW, mZ, hf, hx]
  simp only [dH, evP, evL, oD, e]
  cases call g (first ++ xs.toList.map (E.ev tm) ++ cap) S with
  | none => rfl
  | some r => rfl
 simp only [aV, rJ, h]
theorem e_ext (d : Option Tmp) (f : FuncId) (xs : Array Operand) (ats : Array TypeId) (r : List POp) {h : List AV → Option AV} {v : AV} (hx : E.ext f = some h) (hv : h (xs.toList.map (E.ev tm)) = some v) :
 aV E nt (.c (.reg (⟨d, .call { callee := .value (.func f), args := xs, argTypes := ats }, none⟩ :: r)) :: k) .nrm tm S Q = aV E nt (.c (.reg r) :: k) .nrm (iE tm d v) S Q := by
 refine jD fun call lf => ?_
 have e : eV E call tm (fP d (.call { callee := .value (.func f), args := xs, argTypes := ats })) S = some (v, S) := by
  simp only [eV, fP, cD, aK, aW, mZ, Env.ev, fnOf, Array.isEmpty_empty, bY, aH, hx, mL, dK, hv, iH]
 simp only [dH, evP, evL, oD, e]
theorem bX {c : PC} (I : PM AV → St → Nat → Prop) (n : Nat) (h0 : I tm S n)
 (hs : ∀ tm S n, I tm S n → aV E nt [.c c] .nrm tm S fun o tm' S' => match o with | .nrm => ∃ m, m < n ∧ I tm' S' m | o => aV E nt k o tm' S' Q) : aV E nt (.c (.loop c) :: k) .nrm tm S Q := by
 suffices key : ∃ N o2 tm2 S2, (∀ lf m r, N ≤ lf → N ≤ m → N ≤ r → (match iP (evP E (evF E lf m) lf nt c) r tm S with | some (o, tm', S') => dH E (evF E lf m) lf nt k o tm' S' | none => none) = some (o2, tm2, S2)) ∧ Q o2 tm2 S2 by
  obtain ⟨N, o2, tm2, S2, h1, hq⟩ := key
  exact ⟨N, o2, tm2, S2, fun lf n hl hn => h1 lf n lf hl hn hl, hq⟩
 induction n using Nat.strongRecOn generalizing tm S with
 | _ n ih =>
  obtain ⟨N, o', tm', S', h1, h2⟩ := hs tm S n h0
  have step : ∀ lf m, N ≤ lf → N ≤ m → evP E (evF E lf m) lf nt c tm S = some (o', tm', S') := fun lf m hl hm => by
   have := h1 lf m hl hm
   simp only [dH] at this
   revert this
   cases evP E (evF E lf m) lf nt c tm S with
   | none => intro h; cases h
   | some r => obtain ⟨a1, a2, a3⟩ := r; intro h; exact h
  cases o' with
  | nrm =>
   obtain ⟨m, hm, hI⟩ := h2
   obtain ⟨N2, o2, tm2, S2, h3, hq⟩ := ih m hm hI
   refine ⟨max N N2 + 1, o2, tm2, S2, fun lf n r hl hn hr => ?_, hq⟩
   obtain ⟨r', rfl⟩ : ∃ r', r = r' + 1 := ⟨r - 1, by omega⟩
   simp only [iP, step lf n (by omega) (by omega)]
   exact h3 lf n r' (by omega) (by omega) (by omega)
  | exit j =>
   obtain ⟨N2, o2, tm2, S2, h3, hq⟩ := h2
   refine ⟨max N N2 + 1, o2, tm2, S2, fun lf n r hl hn hr => ?_, hq⟩
   obtain ⟨r', rfl⟩ : ∃ r', r = r' + 1 := ⟨r - 1, by omega⟩
   simp only [iP, step lf n (by omega) (by omega)]
   exact h3 lf n (by omega) (by omega)
  | ret =>
   obtain ⟨N2, o2, tm2, S2, h3, hq⟩ := h2
   refine ⟨max N N2 + 1, o2, tm2, S2, fun lf n r hl hn hr => ?_, hq⟩
   obtain ⟨r', rfl⟩ : ∃ r', r = r' + 1 := ⟨r - 1, by omega⟩
   simp only [iP, step lf n (by omega) (by omega)]
   exact h3 lf n (by omega) (by omega)
theorem ev_of {f : FuncId} {fn : Func} {c : Code} {p : PC} {args : List AV} {r : AV} {S' : St} (hf : E.fn f = some fn) (hX : E.X f = none) (hb : fn.body = some c) (hp : eH E fn.ntmps c = p) (hn : Nat.ble args.length fn.ntmps = true)
 (h : aV E fn.ntmps [.c p] .nrm (mR 0 args .leaf) S fun o tm S1 => (∀ j, o ≠ .exit j) ∧ ∃ vs, fB E tm S1 fn.results.toList = some vs ∧ pI vs = r ∧ S1 = S') :
 EvA E f args S r S' := by
 obtain ⟨N, o', tm', S1, h1, ho, vs, h2, h3, h4⟩ := h
 subst h4
 refine ⟨N + 1, fun lf n hl hn' => ?_⟩
 obtain ⟨n', rfl⟩ : ∃ n', n = n' + 1 := ⟨n - 1, by omega⟩
 have h1 := h1 lf n' (by omega) (by omega)
 have he : evP E (evF E lf n') lf fn.ntmps p (mR 0 args .leaf) S = some (o', tm', S1) := by
  simp only [dH] at h1
  revert h1
  cases evP E (evF E lf n') lf fn.ntmps p (mR 0 args .leaf) S with
  | none => intro h; cases h
  | some r => obtain ⟨a1, a2, a3⟩ := r; intro h; exact h
 have hc := he
 rw [← hp] at hc
 have hc := comp_ok c _ _ _ hc
 simp only [evF, hf, hX, hb, hn, aH, hc]
 cases o' with
 | exit j => exact absurd rfl (ho j)
 | nrm => simp only [h2, iH, h3]
 | ret => simp only [h2, iH, h3]
end
end Go.Abs
