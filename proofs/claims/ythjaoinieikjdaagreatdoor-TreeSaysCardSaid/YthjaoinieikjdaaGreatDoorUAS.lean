/-
  Regions of open order in which one thing is made.
-/
import Derived.Test.YthjaoinieikjdaaGreatDoorUAR
set_option linter.unusedSimpArgs false
set_option linter.unusedVariables false
namespace Go.Abs
section
variable {E : Env} {call : eS} {nt : Nat}
noncomputable def tR (E : Env) (ops : Array Oper) (m : PM Nat) (j : Nat) : Nat → Bool
 | 0 => true
 | k + 1 => (!dF E ops k || bit m j k) && tR E ops m j k
noncomputable def tM (E : Env) (ops : Array Oper) (m : PM Nat) : Nat → List Oper → Bool
 | _, [] => true
 | j, o :: r => (!eK E o.op || tR E ops m j j) && tM E ops m (j + 1) r
theorem xj8 {ops : Array Oper} {m : PM Nat} {b0 j : Nat} {S : St} : ∀ n, tR E ops m j n = true → oK (dF E ops) m b0 j S n = S.objs
 | 0, _ => rfl
 | n + 1, h => by
  simp only [tR, aS] at h
  have h1 : hid (dF E ops) m j n = false := by
   unfold hid
   revert h
   cases dF E ops n <;> cases bit m j n <;> simp
  simp [oK, h1, xj8 n h.2]
theorem yw0 {ops : Array Oper} {m : PM Nat} {b0 j : Nat} {S : St} {os : PM AObj} : ∀ n, tR E ops m j n = true → nH (dF E ops) m b0 j S os n = os
 | 0, _ => rfl
 | n + 1, h => by
  simp only [tR, aS] at h
  have h1 : hid (dF E ops) m j n = false := by
   unfold hid
   revert h
   cases dF E ops n <;> cases bit m j n <;> simp
  simp [nH, h1, yw0 n h.2]
theorem wz0 {ops : Array Oper} {m : PM Nat} : ∀ (l : List Oper) (i : Nat), tM E ops m i l = true → ∀ k o, l[k]? = some o → eK E o.op = true → tR E ops m (i + k) (i + k) = true := by
 intro l
 induction l with
 | nil => intro i _ k o h; simp at h
 | cons x r ih =>
  intro i h k o hk hl
  simp only [tM, aS, eF] at h
  cases k with
  | zero =>
   simp at hk; subst hk
   rcases h.1 with h' | h'
   · rw [hl] at h'; cases h'
   · exact h'
  | succ k =>
   have := ih (i + 1) h.2 k o (by simpa using hk) hl
   rwa [show i + 1 + k = i + (k + 1) by omega] at this
noncomputable def kP (E : Env) (call : eS) (nt : Nat) (ops : Array Oper) (b0 : Nat) : Nat → List Oper → PM AV → St → Option (PM AV × St)
 | _, [], tm, S => some (tm, S)
 | i, o :: rest, tm, S => match iD ops tm o with
  | none => none
  | some false => match gC nt o.dst dB tm with
   | some tm' => kP E call nt ops b0 (i + 1) rest tm' S
   | none => none
  | some true =>
   bif cD E o then
    match fQ E tm o with
    | none => none
    | some k => match gC nt o.dst (k.val (b0 + i)) tm with
     | some tm' => kP E call nt ops b0 (i + 1) rest tm' (S.bear (b0 + i) k)
     | none => none
   else match aW E call tm o S with
    | none => none
    | some (v, S') => match gC nt o.dst v tm with
     | some tm' => kP E call nt ops b0 (i + 1) rest tm' S'
     | none => none
theorem xS {ops : Array Oper} {b0 : Nat} {a : Operand} : ∀ (l : List Oper) (i : Nat) (tm : PM AV) (S : St) (tm' : PM AV) (S' : St), kP E call nt ops b0 i l tm S = some (tm', S') → iU a l = true → E.ev tm' a = E.ev tm a
 | [], i, tm, S, tm', S', h, _ => by
  simp only [kP, aI, aJ] at h
  rw [h.1]
 | o :: l, i, tm, S, tm', S', h, hn => by
  simp only [iU, aS] at hn
  simp only [kP] at h
  split at h
  · simp at h
  · split at h
    · rename_i tm1 hp
      rw [xS l _ _ _ _ _ h hn.2, vP hp hn.1]
    · simp at h
  · cases hm : cD E o with
    | true =>
     rw [hm] at h
     simp only [aH] at h
     split at h
     · simp at h
     · split at h
       · rename_i tm1 hp
         rw [xS l _ _ _ _ _ h hn.2, vP hp hn.1]
       · simp at h
    | false =>
     rw [hm] at h
     simp only [aK] at h
     split at h
     · simp at h
     · split at h
       · rename_i tm1 hp
         rw [xS l _ _ _ _ _ h hn.2, vP hp hn.1]
       · simp at h
theorem yI (hc : gV call) {ops : Array Oper} {b0 : Nat} : ∀ (l : List Oper) (i : Nat) (tm : PM AV) (S : St) (tm' : PM AV) (S' : St), b0 ≤ S.no → kP E call nt ops b0 i l tm S = some (tm', S') → EvoTo b0 S S'
 | [], i, tm, S, tm', S', hb, h => by
  simp only [kP, aI, aJ] at h
  rw [h.2]; exact EvoTo.refl _ _
 | o :: l, i, tm, S, tm', S', hb, h => by
  simp only [kP] at h
  split at h
  · simp at h
  · split at h
    · exact yI hc l _ _ _ _ _ hb h
    · simp at h
  · cases hm : cD E o with
    | true =>
     rw [hm] at h
     simp only [aH] at h
     split at h
     · simp at h
     · split at h
       · exact (EvoTo.bear b0 (b0 + i) (by omega) _ _).trans (yI hc l _ _ _ _ _ hb h)
       · simp at h
    | false =>
     rw [hm] at h
     simp only [aK] at h
     split at h
     · simp at h
     · rename_i hev
       split at h
       · have he := qX hc o hm hev
         exact (he.to hb).trans (yI hc l _ _ _ _ _ (cK hb he.no) h)
       · simp at h
theorem xE (hc : gV call) {ops : Array Oper} {m : PM Nat} {b0 : Nat} (hseen : tM E ops m 0 ops.toList = true) : ∀ (l : List Oper) (i : Nat) (tm : PM AV) (S : St) (tm' : PM AV) (S' : St), b0 ≤ S.no → ops.toList.drop i = l → kP E call nt ops b0 i l tm S = some (tm', S') →
 ∃ hist ls, eX E call nt ops m b0 i l tm S = some (tm', S', hist, ls) ∧ (∀ h ∈ hist, ∃ o, ops[h.1]? = some o ∧ eK E o.op = true ∧ S.no ≤ h.2.1.no ∧ (∀ x, x < b0 → S.ver x ≤ h.2.1.ver x ∧ h.2.1.ver x ≤ h.2.2.ver x ∧ h.2.2.ver x ≤ S'.ver x)) ∧
  (∀ p ∈ ls, ∃ o, ops[p.1]? = some o ∧ gW o.op = true ∧ ∃ a, nN o.op = some a ∧ (iU a (ops.toList.drop p.1) = true → rG (E.ev tm' a) = some p.2.1))
 | [], i, tm, S, tm', S', _, _, h => by
  simp only [kP, aI, aJ] at h
  obtain ⟨rfl, rfl⟩ := h
  exact ⟨[], [], rfl, by simp, by simp⟩
 | o :: l, i, tm, S, tm', S', hb, hd, h => by
  have hwhole := h
  have hko : ops[i]? = some o := by
   have h0 : (ops.toList.drop i)[0]? = some o := by rw [hd]; rfl
   rw [jM] at h0
   simpa using h0
  have hrest : ops.toList.drop (i + 1) = l := by rw [← nT, hd]; rfl
  simp only [kP] at h
  simp only [eX]
  rcases hw : iD ops tm o with _ | _ | _
  · simp only [hw] at h; cases h
  · simp only [hw] at h ⊢
    split at h
    · rename_i tm1 hp
      simp only [hp]
      exact xE hc hseen l (i + 1) _ _ _ _ hb hrest h
    · simp at h
  · simp only [hw] at h ⊢
    cases hmo : cD E o with
    | true =>
     rw [hmo] at h
     simp only [aH] at h ⊢
     split at h
     · simp at h
     · rename_i k hk
       split at h
       · rename_i tm1 hp
         simp only [hk, hp]
         obtain ⟨hist, ls, hgo, h1, h2⟩ := xE hc hseen l (i + 1) _ _ _ _ (show b0 ≤ (S.bear (b0 + i) k).no from hb) hrest h
         refine ⟨hist, ls, hgo, fun x hx => ?_, h2⟩
         obtain ⟨o2, a1, a2, a3, a4⟩ := h1 x hx
         exact ⟨o2, a1, a2, a3, a4⟩
       · simp at h
    | false =>
     rw [hmo] at h
     simp only [aK] at h ⊢
     split at h
     · simp at h
     · rename_i v S1 hev
       split at h
       · rename_i tm1 hp
         have hev1 : Evo S S1 := qX hc o hmo hev
         have hev2 : EvoTo b0 S1 S' := yI hc l _ _ _ _ _ (cK hb hev1.no) h
         obtain ⟨hist, ls, hgo, h1, h2⟩ := xE hc hseen l (i + 1) _ _ _ _ (cK hb hev1.no) hrest h
         have h1' : ∀ h ∈ hist, ∃ o, ops[h.1]? = some o ∧ eK E o.op = true ∧ S.no ≤ h.2.1.no ∧ (∀ x, x < b0 → S.ver x ≤ h.2.1.ver x ∧ h.2.1.ver x ≤ h.2.2.ver x ∧ h.2.2.ver x ≤ S'.ver x) := fun x hx => by
          obtain ⟨o2, a1, a2, a3, a4⟩ := h1 x hx
          exact ⟨o2, a1, a2, cK hev1.no a3, fun y hy => ⟨cK (hev1.ver y (by omega)) (a4 y hy).1, (a4 y hy).2⟩⟩
         cases hq : eK E o.op with
         | true =>
          have hs := wz0 _ _ hseen i o (by simpa using hko) hq
          rw [aF] at hs
          have e1 : S.masked (dF E ops) m b0 i = S := by
           unfold St.masked; rw [xj8 i hs]
          have e2 : S1.unmasked S (dF E ops) m b0 i = S1 := by
           unfold St.unmasked; rw [yw0 i hs]
          simp only [aH, e1, hev, hp, e2]
          rw [hgo]
          refine ⟨_, _, rfl, fun x hx => ?_, h2⟩
          rcases List.mem_cons.1 hx with rfl | hx
          · exact ⟨o, hko, hq, aB _, fun y hy => ⟨aB _, hev1.ver y (by omega), hev2.ver y hy⟩⟩
          · exact h1' x hx
         | false =>
          simp only [aK, hev, hp]
          rw [hgo]
          refine ⟨_, _, rfl, h1', fun x hx => ?_⟩
          cases hld : eQ E tm o with
          | none => rw [hld] at hx; exact h2 x hx
          | some b =>
           rw [hld] at hx
           rcases List.mem_cons.1 hx with rfl | hx
           · obtain ⟨a, ha, hob⟩ := xy4 hld
             refine ⟨o, hko, ?_, a, ha, fun hn => ?_⟩
             · cases hml : gW o.op with
               | true => rfl
               | false => rw [xB hml] at hld; simp at hld
             · simp only [hd] at hn
               rw [xS _ _ _ _ _ _ hwhole hn]
               exact hob
           · exact h2 x hx
       · simp at h
theorem xK {ops : Array Oper} {b0 : Nat} : ∀ (l r : List Oper) (i : Nat) (tm : PM AV) (S : St) (tm1 : PM AV) (S1 : St), l.all (fun o => !cD E o) = true → eP E call nt ops l tm S = some (tm1, S1) → kP E call nt ops b0 i (l ++ r) tm S = kP E call nt ops b0 (i + l.length) r tm1 S1
 | [], r, i, tm, S, tm1, S1, _, h => by
  simp only [eP, aI, aJ] at h
  rw [h.1, h.2]; rfl
 | o :: l, r, i, tm, S, tm1, S1, hm, h => by
  simp only [lA, aS] at hm
  have hmo : cD E o = false := by simpa using hm.1
  simp only [eP] at h
  simp only [nS, kP, aY]
  rw [show i + (l.length + 1) = i + 1 + l.length by omega]
  rcases hw : iD ops tm o with _ | _ | _
  · simp only [hw] at h; cases h
  · simp only [hw] at h ⊢
    split at h
    · rename_i tm2 hp
      simp only [hp]
      exact xK l r (i + 1) _ _ _ _ hm.2 h
    · simp at h
  · simp only [hw, eV, hmo, aK] at h ⊢
    split at h
    · simp at h
    · rename_i v S2 hev
      split at h
      · rename_i tm2 hp
        simp only [hev, hp]
        exact xK l r (i + 1) _ _ _ _ hm.2 h
      · simp at h
noncomputable def uJ : List Oper → Option (List Operand)
 | [] => some []
 | o :: r => match uJ r with
  | none => none
  | some l => bif !gW o.op then some l else match nN o.op with
   | some a => bif iU a (o :: r) then some (a :: l) else none
   | none => none
theorem wq3 : ∀ (l : List Oper) (az : List Operand), uJ l = some az → ∀ k y, l[k]? = some y → gW y.op = true → ∃ a, nN y.op = some a ∧ a ∈ az ∧ iU a (l.drop k) = true := by
 intro l
 induction l with
 | nil => intro az _ k y hy; simp at hy
 | cons y r ih =>
  intro az h k y' hy hl
  simp only [uJ] at h
  split at h
  · cases h
  · rename_i az' h'
    have sub : ∀ a, a ∈ az' → a ∈ az := by
     intro a ha
     cases hb : gW y.op with
     | false => rw [hb] at h; simp only [kC, aH, aI] at h; rw [← h]; exact ha
     | true =>
      rw [hb] at h
      simp only [iC, aK] at h
      split at h
      · rename_i a2 _
        cases hn : iU a2 (y :: r) with
        | false => rw [hn] at h; cases h
        | true => rw [hn] at h; simp only [aH, aI] at h; rw [← h]; exact kZ _ ha
      · cases h
    cases k with
    | zero =>
     simp only [List.getElem?_cons_zero, aI] at hy
     subst hy
     rw [hl] at h
     simp only [iC, aK] at h
     split at h
     · rename_i a2 ha2
       cases hn : iU a2 (y :: r) with
       | false => rw [hn] at h; cases h
       | true =>
        rw [hn] at h
        simp only [aH, aI] at h
        exact ⟨a2, ha2, by rw [← h]; exact jL .., hn⟩
     · cases h
    | succ k =>
     obtain ⟨a, e1, e2, e3⟩ := ih az' h' k y' (by simpa using hy) hl
     exact ⟨a, e1, sub a e2, e3⟩
structure DrawMk (E : Env) (nt : Nat) (ops : Array Oper) (n : Nat) (l1 : List POp) (i : Nat) (d : Option Tmp) (op : Op) (l2 : List POp) (az : List Operand) : Prop where
 size : ops.size = n
 parts : ∃ p o r, ops.toList = p ++ o :: r ∧ p.length = i ∧ o.dst = d ∧ o.op = op ∧ o.guard = none ∧ sS nt d = true ∧ cD E o = true ∧ lJ nt ops p = some l1 ∧ lJ nt ops r = some l2 ∧ p.all (fun o => !cD E o) = true ∧ r.all (fun o => !cD E o) = true
 pairs : mP E ops (eN 0 ops.toList .leaf) 0 ops.toList = true
 seen : tM E ops (eN 0 ops.toList .leaf) 0 ops.toList = true
 loads : uJ ops.toList = some az
noncomputable def ks8 (E : Env) (nt : Nat) (ops : Array Oper) (n i : Nat) (d : Option Tmp) : Bool :=
 Nat.beq ops.size n && (match ops[i]? with
  | some o => (match o.dst, d with | some a, some b => Nat.beq a b | none, none => true | _, _ => false) && o.guard.isNone && sS nt d && cD E o
  | none => false) && (ops.toList.take i).all (fun o => !cD E o) && (ops.toList.drop (i + 1)).all (fun o => !cD E o) && mP E ops (eN 0 ops.toList .leaf) 0 ops.toList && tM E ops (eN 0 ops.toList .leaf) 0 ops.toList
theorem ks7 {ops : Array Oper} {n i : Nat} {d : Option Tmp} {op : Op} {l1 l2 : List POp} {az : List Operand} (h : ks8 E nt ops n i d = true) (ho : (ops[i]?).map (·.op) = some op) (h1 : lJ nt ops (ops.toList.take i) = some l1) (h2 : lJ nt ops (ops.toList.drop (i + 1)) = some l2)
 (hl : uJ ops.toList = some az) : DrawMk E nt ops n l1 i d op l2 az := by
 simp only [ks8, aS] at h
 obtain ⟨⟨⟨⟨⟨a1, a2⟩, a3⟩, a4⟩, a5⟩, a6⟩ := h
 cases ho' : ops[i]? with
 | none => rw [ho'] at ho; cases ho
 | some o =>
  rw [ho'] at ho a2
  simp only [iH, aI] at ho
  simp only [aS] at a2
  obtain ⟨⟨⟨b1, b2⟩, b3⟩, b4⟩ := a2
  have hi : i < ops.toList.length := by simpa using (Array.getElem?_eq_some_iff.1 ho').1
  have hoi : ops.toList[i] = o := by simpa using (Array.getElem?_eq_some_iff.1 ho').2
  refine ⟨bA a1, ⟨_, o, _, ?_, by rw [eW]; omega, ?_, ho, by simpa using b2, b3, b4, h1, h2, a3, a4⟩, a5, a6, hl⟩
  · rw [← hoi, ← dJ hi, List.take_append_drop]
  · revert b1
    cases o.dst <;> cases d <;> simp
theorem je7 {k : List KI} {Q : kW} {tm : PM AV} {S : St} {ops : Array Oper} {n i : Nat} {d : Option Tmp} {op : Op} {l1 l2 : List POp} {az : List Operand} (hX : EvoX E) (h : DrawMk E nt ops n l1 i d op l2 az)
 (hE : aV E nt [.c (.reg l1)] .nrm tm (S.raise n) fun o tm1 S1 => o = .nrm ∧ ∃ mk, fQ E tm1 (fP d op) = some mk ∧ aV E nt [.c (.reg l2)] .nrm (iE tm1 d (mk.val (S.no + i))) (S1.bear (S.no + i) mk) fun o tm' S' => o = .nrm ∧ uM E S S' tm' az = true ∧ aV E nt k .nrm tm' S' Q) :
 aV E nt (.c (.draw ops) :: k) .nrm tm S Q := by
 obtain ⟨N, o', tm1, S1, h1, rfl, mk, hmk, N2, o2, tm2, S2, h2, rfl, ho, N3, o3, tm3, S3, h3, hq⟩ := hE
 refine ⟨max N (max N2 N3), o3, tm3, S3, fun lf n' hl hn => ?_, hq⟩
 have hc : gV (evF E lf n') := zO hX.evo lf n'
 have g1 := h1 lf n' (by omega) (by omega)
 have g2 := h2 lf n' (by omega) (by omega)
 simp only [dH, evP] at g1 g2
 have step : ∀ {l : List POp} {ta tb : PM AV} {Sa Sb : St}, (match (match evL E (evF E lf n') l ta Sa with | some (tm', S') => some (Out.nrm, tm', S') | none => none) with | some (o, tm', S') => some (o, tm', S') | none => none) = some (Out.nrm, tb, Sb) → evL E (evF E lf n') l ta Sa = some (tb, Sb) := by
  intro l ta tb Sa Sb hh
  cases he : evL E (evF E lf n') l ta Sa with
  | none => rw [he] at hh; simp at hh
  | some r =>
   rw [he] at hh
   simp only [aI, aJ, true_and] at hh
   rw [← hh.1, ← hh.2]
 have g1' := step g1
 have g2' := step g2
 obtain ⟨p, o, r, hp1, hp2, hp3, hp4, hp5, hp6, hp7, hp8, hp9, hp10, hp11⟩ := h.parts
 have s1 := rT _ _ _ _ _ hp8 g1'
 have s2 := rT _ _ _ _ _ hp9 g2'
 have hmk' : fQ E tm1 o = some mk := by
  rw [← hmk]
  obtain ⟨dst, op', ty, pos, after, guard⟩ := o
  simp only at hp3 hp4
  subst hp3; subst hp4
  cases op' <;> rfl
 have hw : iD ops tm1 o = some true := by unfold iD; rw [hp5]
 have hsz := h.size
 have whole : kP E (evF E lf n') nt ops S.no 0 ops.toList tm (S.raise ops.size) = some (tm2, S2) := by
  rw [hsz, hp1, xK p (o :: r) 0 _ _ _ _ hp10 s1, aF, hp2]
  simp only [kP, hw, hp7, aH, hmk', hp3, xk6 hp6]
  have := xK (b0 := S.no) r [] (i + 1) _ _ _ _ hp11 s2
  rw [dK] at this
  rw [this]
  rfl
 obtain ⟨hist, ls, hgo, k1, k2⟩ := xE hc (m := eN 0 ops.toList .leaf) h.seen ops.toList 0 tm _ tm2 S2 (oS _ _) rfl whole
 have hl : ls.all (kN E ops (eN 0 ops.toList .leaf) S.no ops.size hist) = true := by
  refine List.all_eq_true.2 fun q hq => ?_
  obtain ⟨y, hy, hy2, a, ha, hna⟩ := k2 q hq
  obtain ⟨a2, ha2, hmem, hnd⟩ := wq3 _ _ h.loads q.1 y (by simpa using hy) hy2
  rw [ha] at ha2
  simp only [aI] at ha2
  subst ha2
  have h1 := hna hnd
  have h2 := List.all_eq_true.1 ho a hmem
  simp only [mC, h1, aS] at h2
  have h3 : q.2.1 < S.no := bW h2.1
  have h4 := bA h2.2
  simp only [kN, h2.1, cA, jK]
  refine List.all_eq_true.2 fun x hx => ?_
  obtain ⟨o, _, _, e1, e2⟩ := k1 x hx
  have q1 : (S.raise ops.size).no = S.no + ops.size := rfl
  obtain ⟨v1, v2, v3⟩ := e2 q.2.1 h3
  have v1' : S.ver q.2.1 ≤ x.2.1.ver q.2.1 := v1
  have b1 : Nat.blt q.2.1 x.2.1.no = true := fT (by omega)
  have b2 : Nat.beq (x.2.1.ver q.2.1) (x.2.2.ver q.2.1) = true := by
   have : x.2.1.ver q.2.1 = x.2.2.ver q.2.1 := by omega
   rw [this, lB]
  simp [b1, b2]
 have e : lK E (evF E lf n') nt ops tm S = (bif mP E ops (eN 0 ops.toList .leaf) 0 ops.toList then
  match eX E (evF E lf n') nt ops (eN 0 ops.toList .leaf) S.no 0 ops.toList tm (S.raise ops.size) with
  | some (tm', S', hist, ls) => bif ls.all (kN E ops (eN 0 ops.toList .leaf) S.no ops.size hist) then some (tm', S') else none
  | none => none
 else none) := rfl
 have hd : lK E (evF E lf n') nt ops tm S = some (tm2, S2) := by
  rw [e, h.pairs, hgo]
  simp only [aH, hl]
 simp only [dH, evP, hd]
 exact h3 lf n' (by omega) (by omega)
end
section
variable {E : Env} {call : eS} {nt : Nat}
theorem xP {ops : Array Oper} {m : PM Nat} {b0 : Nat} : ∀ (l : List Oper) (i : Nat) (tm : PM AV) (S : St) (tm' : PM AV) (S' : St) (hist : List (Nat × St × St)) (ls : List (Nat × Nat × Option (TypeId × Nat))), eX E call nt ops m b0 i l tm S = some (tm', S', hist, ls) →
 (∀ h ∈ hist, i ≤ h.1) ∧ (∀ p ∈ ls, i ≤ p.1)
 | [], i, tm, S, tm', S', hist, ls, h => by
  simp only [eX, aI, aJ] at h
  obtain ⟨_, _, rfl, rfl⟩ := h
  simp
 | o :: l, i, tm, S, tm', S', hist, ls, h => by
  have up : ∀ {tm S}, eX E call nt ops m b0 (i + 1) l tm S = some (tm', S', hist, ls) → (∀ h ∈ hist, i ≤ h.1) ∧ (∀ p ∈ ls, i ≤ p.1) := fun h' => by
   have := xP l (i + 1) _ _ _ _ _ _ h'
   exact ⟨fun x hx => by have := this.1 x hx; omega, fun x hx => by have := this.2 x hx; omega⟩
  simp only [eX] at h
  split at h
  · simp at h
  · split at h
    · exact up h
    · simp at h
  · cases hm : cD E o with
    | true =>
     simp only [hm, aH] at h
     split at h
     · simp at h
     · split at h
       · exact up h
       · simp at h
    | false =>
     simp only [hm, aK] at h
     cases hq : eK E o.op with
     | true =>
      simp only [hq, aH] at h
      split at h
      · simp at h
      · split at h
        · split at h
          · rename_i hgo
            simp only [aI, aJ] at h
            obtain ⟨rfl, rfl, rfl, rfl⟩ := h
            have := xP l (i + 1) _ _ _ _ _ _ hgo
            refine ⟨fun x hx => ?_, fun x hx => by have := this.2 x hx; omega⟩
            rcases List.mem_cons.1 hx with rfl | hx
            · exact aB _
            · have := this.1 x hx; omega
          · simp at h
        · simp at h
     | false =>
      simp only [hq, aK] at h
      split at h
      · simp at h
      · split at h
        · split at h
          · rename_i hgo
            simp only [aI, aJ] at h
            obtain ⟨rfl, rfl, rfl, rfl⟩ := h
            have := xP l (i + 1) _ _ _ _ _ _ hgo
            refine ⟨fun x hx => by have := this.1 x hx; omega, fun x hx => ?_⟩
            cases hld : eQ E tm o with
            | none => rw [hld] at hx; have := this.2 x hx; omega
            | some b =>
             rw [hld] at hx
             rcases List.mem_cons.1 hx with rfl | hx
             · exact aB _
             · have := this.2 x hx; omega
          · simp at h
        · simp at h
theorem yo4 (hc : gV call) {ops : Array Oper} {m : PM Nat} {b0 : Nat} (hmk : ops.toList.all (fun o => !cD E o) = true) : ∀ (p r : List Oper) (i : Nat) (tm : PM AV) (S : St) (tm1 : PM AV) (S1 : St) (tm2 : PM AV) (S2 : St), ops.toList.drop i = p ++ r → eP E call nt ops p tm S = some (tm1, S1) → eP E call nt ops r tm1 S1 = some (tm2, S2) →
 ∃ hist ls, eX E call nt ops m b0 i (p ++ r) tm S = some (tm2, S2, hist, ls) ∧
  (∀ h ∈ hist, ∃ o, ops[h.1]? = some o ∧ eK E o.op = true ∧ (i + p.length ≤ h.1 ∨ (Evo S h.2.1 ∧ Evo h.2.1 h.2.2 ∧ Evo h.2.2 S1))) ∧
  (∀ q ∈ ls, ∃ o, ops[q.1]? = some o ∧ gW o.op = true ∧ (i + p.length ≤ q.1 ∨ (i ≤ q.1 ∧ ∃ a, nN o.op = some a ∧ (iU a (p.drop (q.1 - i)) = true → rG (E.ev tm1 a) = some q.2.1))))
 | [], r, i, tm, S, tm1, S1, tm2, S2, hd, hp, hr => by
  simp only [eP, aI, aJ] at hp
  obtain ⟨rfl, rfl⟩ := hp
  obtain ⟨hist, ls, hgo, h1, h2⟩ := yo5 hc (m := m) (b0 := b0) hmk r i tm S tm2 S2 hd hr
  have hidx := xP _ _ _ _ _ _ _ _ hgo
  refine ⟨hist, ls, hgo, fun x hx => ?_, fun x hx => ?_⟩
  · obtain ⟨o, a1, a2, _⟩ := h1 x hx
    exact ⟨o, a1, a2, .inl (hidx.1 x hx)⟩
  · obtain ⟨o, a1, a2, _⟩ := h2 x hx
    exact ⟨o, a1, a2, .inl (hidx.2 x hx)⟩
 | o :: l, r, i, tm, S, tm1, S1, tm2, S2, hd, hp, hr => by
  have hwhole := hp
  have hko : ops[i]? = some o := by
   have h0 : (ops.toList.drop i)[0]? = some o := by rw [hd]; rfl
   rw [jM] at h0
   simpa using h0
  have hrest : ops.toList.drop (i + 1) = l ++ r := by rw [← nT, hd]; rfl
  have hmo : cD E o = false := by
   have := List.all_eq_true.1 hmk o (by simpa using Array.mem_of_getElem? hko)
   simpa using this
  have hm0 := fun k => vR hmk k
  have later : ∀ {x : Nat × Nat × Option (TypeId × Nat)}, (∃ o, ops[x.1]? = some o ∧ gW o.op = true ∧ (i + 1 + l.length ≤ x.1 ∨ (i + 1 ≤ x.1 ∧ ∃ a, nN o.op = some a ∧ (iU a (l.drop (x.1 - (i + 1))) = true → rG (E.ev tm1 a) = some x.2.1)))) →
   ∃ o', ops[x.1]? = some o' ∧ gW o'.op = true ∧ (i + (o :: l).length ≤ x.1 ∨ (i ≤ x.1 ∧ ∃ a, nN o'.op = some a ∧ (iU a ((o :: l).drop (x.1 - i)) = true → rG (E.ev tm1 a) = some x.2.1))) := by
   rintro x ⟨o2, a1, a2, a3 | ⟨a3, a, a4, a5⟩⟩
   · exact ⟨o2, a1, a2, .inl (by simp; omega)⟩
   · refine ⟨o2, a1, a2, .inr ⟨by omega, a, a4, fun hn => a5 ?_⟩⟩
     rwa [show x.1 - i = (x.1 - (i + 1)) + 1 by omega, rQ] at hn
  simp only [eP] at hp
  simp only [nS, eX]
  rcases hw : iD ops tm o with _ | _ | _
  · simp only [hw] at hp; cases hp
  · simp only [hw] at hp ⊢
    split at hp
    · rename_i tm' hput
      try simp only [hput]
      obtain ⟨hist, ls, hgo, h1, h2⟩ := yo4 hc (m := m) (b0 := b0) hmk l r (i + 1) _ _ _ _ _ _ hrest hp hr
      refine ⟨hist, ls, hgo, fun x hx => ?_, fun x hx => later (h2 x hx)⟩
      obtain ⟨o2, a1, a2, a3 | a3⟩ := h1 x hx
      · exact ⟨o2, a1, a2, .inl (by simp; omega)⟩
      · exact ⟨o2, a1, a2, .inr a3⟩
    · simp at hp
  · simp only [hw, eV, hmo, aK] at hp ⊢
    split at hp
    · simp at hp
    · rename_i v S' hev
      split at hp
      · rename_i tm' hput
        have hev1 : Evo S S' := qX hc o hmo hev
        have hev2 : Evo S' S1 := vN hc _ _ _ _ _ hp
        obtain ⟨hist, ls, hgo, h1, h2⟩ := yo4 hc (m := m) (b0 := b0) hmk l r (i + 1) _ _ _ _ _ _ hrest hp hr
        have h1' : ∀ h ∈ hist, ∃ o', ops[h.1]? = some o' ∧ eK E o'.op = true ∧ (i + (o :: l).length ≤ h.1 ∨ (Evo S h.2.1 ∧ Evo h.2.1 h.2.2 ∧ Evo h.2.2 S1)) := fun x hx => by
         obtain ⟨o2, a1, a2, a3 | ⟨a3, a4⟩⟩ := h1 x hx
         · exact ⟨o2, a1, a2, .inl (by simp; omega)⟩
         · exact ⟨o2, a1, a2, .inr ⟨hev1.trans a3, a4⟩⟩
        cases hq : eK E o.op with
        | true =>
         have e1 : S.masked (dF E ops) m b0 i = S := by
          unfold St.masked; rw [xZ hm0]
         have e2 : S'.unmasked S (dF E ops) m b0 i = S' := by
          unfold St.unmasked; rw [xF hm0]
         simp only [aH, e1, hev, hput, e2, hgo]
         refine ⟨_, _, rfl, fun x hx => ?_, fun x hx => later (h2 x hx)⟩
         rcases List.mem_cons.1 hx with rfl | hx
         · exact ⟨o, hko, hq, .inr ⟨Evo.refl _, hev1, hev2⟩⟩
         · exact h1' x hx
        | false =>
         simp only [aK, hgo]
         refine ⟨_, _, rfl, h1', fun x hx => ?_⟩
         cases hld : eQ E tm o with
         | none => rw [hld] at hx; exact later (h2 x hx)
         | some b =>
          rw [hld] at hx
          rcases List.mem_cons.1 hx with rfl | hx
          · obtain ⟨a, ha, hob⟩ := xy4 hld
            refine ⟨o, hko, ?_, .inr ⟨aB _, a, ha, fun hn => ?_⟩⟩
            · cases hml : gW o.op with
              | true => rfl
              | false => rw [xB hml] at hld; simp at hld
            · simp only [Nat.sub_self, cJ] at hn
              rw [yH _ _ _ _ _ hwhole hn]
              exact hob
          · exact later (h2 x hx)
      · simp at hp
noncomputable def xO (E : Env) (m : PM Nat) (all : List Oper) (c : Nat) : Nat → List Oper → Option (List Operand)
 | _, [] => some []
 | i, o :: r => match xO E m all c (i + 1) r with
  | none => none
  | some l => bif !gW o.op || mQ E m i o 0 all then some l else
   bif Nat.blt i c && mQ E m i o c (all.drop c) then match nN o.op with
    | some a => bif iU a ((o :: r).take (c - i)) then some (a :: l) else none
    | none => none
   else none
theorem xz5 {m : PM Nat} {all : List Oper} {c : Nat} : ∀ (l : List Oper) (i : Nat) (az : List Operand), xO E m all c i l = some az → ∀ k y, l[k]? = some y → gW y.op = true →
 mQ E m (i + k) y 0 all = true ∨ (i + k < c ∧ mQ E m (i + k) y c (all.drop c) = true ∧ ∃ a, nN y.op = some a ∧ a ∈ az ∧ iU a ((l.drop k).take (c - (i + k))) = true) := by
 intro l
 induction l with
 | nil => intro i az _ k y hy; simp at hy
 | cons y r ih =>
  intro i az h k y' hy hl
  simp only [xO] at h
  split at h
  · cases h
  · rename_i az' h'
    have out : (az' = az ∧ (!gW y.op || mQ E m i y 0 all) = true) ∨ (i < c ∧ mQ E m i y c (all.drop c) = true ∧ ∃ a, nN y.op = some a ∧ iU a ((y :: r).take (c - i)) = true ∧ a :: az' = az) := by
     cases hb : (!gW y.op || mQ E m i y 0 all) with
     | true => rw [hb] at h; simp only [aH, aI] at h; exact .inl ⟨h, rfl⟩
     | false =>
      rw [hb] at h
      simp only [aK] at h
      cases hb2 : (Nat.blt i c && mQ E m i y c (all.drop c)) with
      | false => rw [hb2] at h; cases h
      | true =>
       rw [hb2] at h
       simp only [aH] at h
       simp only [aS] at hb2
       split at h
       · rename_i a2 ha2
         cases hn : iU a2 ((y :: r).take (c - i)) with
         | false => rw [hn] at h; cases h
         | true =>
          rw [hn] at h
          simp only [aH, aI] at h
          exact .inr ⟨bW hb2.1, hb2.2, a2, ha2, hn, h⟩
       · cases h
    cases k with
    | zero =>
     simp only [List.getElem?_cons_zero, aI] at hy
     subst hy
     rcases out with ⟨_, h1⟩ | ⟨h1, h2, a, h3, h4, h5⟩
     · rw [hl] at h1
       simp only [iC, gU] at h1
       exact .inl h1
     · exact .inr ⟨h1, h2, a, h3, by rw [← h5]; exact jL .., h4⟩
    | succ k =>
     have sub : ∀ a, a ∈ az' → a ∈ az := by
      intro a ha
      rcases out with ⟨h1, _⟩ | ⟨_, _, a2, _, _, h5⟩
      · rw [← h1]; exact ha
      · rw [← h5]; exact kZ _ ha
     rcases ih (i + 1) az' h' k y' (by simpa using hy) hl with e | ⟨e1, e2, a, e3, e4, e5⟩
     · rw [show i + 1 + k = i + (k + 1) by omega] at e; exact .inl e
     · rw [show i + 1 + k = i + (k + 1) by omega] at e1 e2 e5
       exact .inr ⟨e1, e2, a, e3, sub a e4, by rw [rQ]; exact e5⟩
structure DrawC (E : Env) (nt : Nat) (ops : Array Oper) (n c : Nat) (l1 l2 : List POp) (az : List Operand) : Prop where
 size : ops.size = n
 cut : c ≤ n
 pops1 : lJ nt ops (ops.toList.take c) = some l1
 pops2 : lJ nt ops (ops.toList.drop c) = some l2
 pairs : mP E ops (eN 0 ops.toList .leaf) 0 ops.toList = true
 nomk : ops.toList.all (fun o => !cD E o) = true
 loads : xO E (eN 0 ops.toList .leaf) ops.toList c 0 ops.toList = some az
theorem kK {k : List KI} {Q : kW} {tm : PM AV} {S : St} {ops : Array Oper} {n c : Nat} {l1 l2 : List POp} {az : List Operand} (hX : EvoX E) (h : DrawC E nt ops n c l1 l2 az)
 (hE : aV E nt [.c (.reg l1)] .nrm tm (S.raise n) fun o tm1 S1 => o = .nrm ∧ uM E S S1 tm1 az = true ∧ aV E nt (.c (.reg l2) :: k) .nrm tm1 S1 Q) :
 aV E nt (.c (.draw ops) :: k) .nrm tm S Q := by
 obtain ⟨N, o', tm1, S1, h1, rfl, ho, N2, o2, tm2, S2, h2, hq⟩ := hE
 refine ⟨max N N2, o2, tm2, S2, fun lf n' hl hn => ?_, hq⟩
 have hc : gV (evF E lf n') := zO hX.evo lf n'
 have g1 := h1 lf n' (by omega) (by omega)
 have g2 := h2 lf n' (by omega) (by omega)
 simp only [dH, evP] at g1 g2
 cases he : evL E (evF E lf n') l1 tm (S.raise _) with
 | none => rw [he] at g1; simp at g1
 | some q =>
  obtain ⟨ta, Sa⟩ := q
  rw [he] at g1
  simp only [aI, aJ, true_and] at g1
  obtain ⟨rfl, rfl⟩ := g1
  cases he2 : evL E (evF E lf n') l2 ta Sa with
  | none => rw [he2] at g2; simp at g2
  | some q2 =>
   obtain ⟨tb, Sb⟩ := q2
   rw [he2] at g2
   have s1 := rT _ _ _ _ _ h.pops1 he
   have s2 := rT _ _ _ _ _ h.pops2 he2
   have hsz := h.size
   have hcl : (ops.toList.take c).length = c := by rw [eW]; have := h.cut; simp; omega
   obtain ⟨hist, ls, hgo, k1, k2⟩ := yo4 hc (m := eN 0 ops.toList .leaf) (b0 := S.no) h.nomk (ops.toList.take c) (ops.toList.drop c) 0 tm _ ta Sa tb Sb (by rw [List.take_append_drop]; rfl) s1 s2
   rw [List.take_append_drop] at hgo
   rw [aF, hcl] at k1 k2
   have hl : ls.all (kN E ops (eN 0 ops.toList .leaf) S.no ops.size hist) = true := by
    refine List.all_eq_true.2 fun q hq => ?_
    obtain ⟨y, hy, hy2, hcase⟩ := k2 q hq
    have hin := xz5 _ _ _ h.loads q.1 y (by simpa using hy) hy2
    rw [aF] at hin
    rcases hin with hin | ⟨hlt, hin, a, ha, hmem, hnd⟩
    · simp only [kN, vR h.nomk, kC, cR, cA, jK]
      refine List.all_eq_true.2 fun x hx => ?_
      obtain ⟨o, ho, ho2, _⟩ := k1 x hx
      have := xa5 _ _ hin x.1 o (by simpa using ho) ho2
      rw [aF] at this
      rcases this with h | h <;> simp [h]
    · rcases hcase with hge | ⟨_, a2, ha2, hna⟩
      · omega
      rw [ha] at ha2
      simp only [aI] at ha2
      subst ha2
      have hnd' : iU a ((ops.toList.take c).drop (q.1 - 0)) = true := by
       rw [Nat.sub_zero, List.drop_take]
       exact hnd
      have h1' := hna hnd'
      have h2' := List.all_eq_true.1 ho a hmem
      simp only [mC, h1', aS] at h2'
      have h3 : q.2.1 < S.no := bW h2'.1
      have h4 := bA h2'.2
      simp only [kN, h2'.1, cA, jK]
      refine List.all_eq_true.2 fun x hx => ?_
      obtain ⟨o, ho, ho2, hge | ⟨e1, e2, e3⟩⟩ := k1 x hx
      · have := xa5 _ _ hin (x.1 - c) o (by rw [jM, show c + (x.1 - c) = x.1 by omega]; simpa using ho) ho2
        rw [show c + (x.1 - c) = x.1 by omega] at this
        rcases this with h | h <;> simp [h]
      · have q2 := e1.no
        have q3 := e2.no
        have hno : S.no ≤ x.2.1.no := cK (oS _ _) q2
        have v1 : S.ver q.2.1 ≤ x.2.1.ver q.2.1 := e1.ver q.2.1 (aU h3 (oS _ _))
        have v2 := e2.ver q.2.1 (by omega)
        have v3 := e3.ver q.2.1 (by omega)
        have b1 : Nat.blt q.2.1 x.2.1.no = true := fT (by omega)
        have b2 : Nat.beq (x.2.1.ver q.2.1) (x.2.2.ver q.2.1) = true := by
         have : x.2.1.ver q.2.1 = x.2.2.ver q.2.1 := by omega
         rw [this, lB]
        simp [b1, b2]
   have e : lK E (evF E lf n') nt ops tm S = (bif mP E ops (eN 0 ops.toList .leaf) 0 ops.toList then
    match eX E (evF E lf n') nt ops (eN 0 ops.toList .leaf) S.no 0 ops.toList tm (S.raise ops.size) with
    | some (tm', S', hist, ls) => bif ls.all (kN E ops (eN 0 ops.toList .leaf) S.no ops.size hist) then some (tm', S') else none
    | none => none
   else none) := rfl
   have hd : lK E (evF E lf n') nt ops tm S = some (tb, Sb) := by
    rw [e, h.pairs]
    rw [← hsz] at hgo
    simp only [aH, hgo, hl]
   simp only [dH, evP, hd]
   exact g2
end
end Go.Abs
