/-
  Regions of open order in which one thing is made.
-/
import Derived.Test.YtmmpcomfhcpicaaAbs19
set_option linter.unusedSimpArgs false
set_option linter.unusedVariables false
namespace Go.Abs
section
variable {E : Env} {call : CallFn} {nt : Nat}
/-- What has been made is in each loud operation's sight. -/
def seenIn (E : Env) (ops : Array Oper) (m : PM Nat) (j : Nat) : Nat → Bool
  | 0 => true
  | k + 1 => (!mkAt E ops k || bit m j k) && seenIn E ops m j k
def seenAll (E : Env) (ops : Array Oper) (m : PM Nat) : Nat → List Oper → Bool
  | _, [] => true
  | j, o :: r => (!loudOp E o.op || seenIn E ops m j j) && seenAll E ops m (j + 1) r
theorem seenIn_mask {ops : Array Oper} {m : PM Nat} {b0 j : Nat} {S : St} : ∀ n, seenIn E ops m j n = true → maskF (mkAt E ops) m b0 j S n = S.objs
  | 0, _ => rfl
  | n + 1, h => by
    simp only [seenIn, Bool.and_eq_true] at h
    have h1 : hid (mkAt E ops) m j n = false := by
      unfold hid
      revert h
      cases mkAt E ops n <;> cases bit m j n <;> simp
    simp [maskF, h1, seenIn_mask n h.2]
theorem seenIn_unmask {ops : Array Oper} {m : PM Nat} {b0 j : Nat} {S : St} {os : PM AObj} : ∀ n, seenIn E ops m j n = true → unmaskF (mkAt E ops) m b0 j S os n = os
  | 0, _ => rfl
  | n + 1, h => by
    simp only [seenIn, Bool.and_eq_true] at h
    have h1 : hid (mkAt E ops) m j n = false := by
      unfold hid
      revert h
      cases mkAt E ops n <;> cases bit m j n <;> simp
    simp [unmaskF, h1, seenIn_unmask n h.2]
theorem seenAll_at {ops : Array Oper} {m : PM Nat} : ∀ (l : List Oper) (i : Nat), seenAll E ops m i l = true → ∀ k o, l[k]? = some o → loudOp E o.op = true → seenIn E ops m (i + k) (i + k) = true := by
  intro l
  induction l with
  | nil => intro i _ k o h; simp at h
  | cons x r ih =>
    intro i h k o hk hl
    simp only [seenAll, Bool.and_eq_true, Bool.or_eq_true] at h
    cases k with
    | zero =>
      simp at hk; subst hk
      rcases h.1 with h' | h'
      · rw [hl] at h'; cases h'
      · exact h'
    | succ k =>
      have := ih (i + 1) h.2 k o (by simpa using hk) hl
      rwa [show i + 1 + k = i + (k + 1) by omega] at this

def evSeqM (E : Env) (call : CallFn) (nt : Nat) (ops : Array Oper) (b0 : Nat) : Nat → List Oper → PM AV → St → Option (PM AV × St)
  | _, [], tm, S => some (tm, S)
  | i, o :: rest, tm, S => match wantedA ops tm o with
    | none => none
    | some false => match putA nt o.dst passed tm with
      | some tm' => evSeqM E call nt ops b0 (i + 1) rest tm' S
      | none => none
    | some true =>
      bif isMk E o then
        match mkOp E tm o with
        | none => none
        | some k => match putA nt o.dst (k.val (b0 + i)) tm with
          | some tm' => evSeqM E call nt ops b0 (i + 1) rest tm' (S.bear (b0 + i) k)
          | none => none
      else match evPlain E call tm o S with
        | none => none
        | some (v, S') => match putA nt o.dst v tm with
          | some tm' => evSeqM E call nt ops b0 (i + 1) rest tm' S'
          | none => none
theorem seqM_keep {ops : Array Oper} {b0 : Nat} {a : Operand} : ∀ (l : List Oper) (i : Nat) (tm : PM AV) (S : St) (tm' : PM AV) (S' : St), evSeqM E call nt ops b0 i l tm S = some (tm', S') → notDst a l = true → E.ev tm' a = E.ev tm a
  | [], i, tm, S, tm', S', h, _ => by
    simp only [evSeqM, Option.some.injEq, Prod.mk.injEq] at h
    rw [h.1]
  | o :: l, i, tm, S, tm', S', h, hn => by
    simp only [notDst, Bool.and_eq_true] at hn
    simp only [evSeqM] at h
    split at h
    · simp at h
    · split at h
      · rename_i tm1 hp
        rw [seqM_keep l _ _ _ _ _ h hn.2, put_keep hp hn.1]
      · simp at h
    · cases hm : isMk E o with
      | true =>
        rw [hm] at h
        simp only [cond_true] at h
        split at h
        · simp at h
        · split at h
          · rename_i tm1 hp
            rw [seqM_keep l _ _ _ _ _ h hn.2, put_keep hp hn.1]
          · simp at h
      | false =>
        rw [hm] at h
        simp only [cond_false] at h
        split at h
        · simp at h
        · split at h
          · rename_i tm1 hp
            rw [seqM_keep l _ _ _ _ _ h hn.2, put_keep hp hn.1]
          · simp at h
theorem seqM_evo (hc : CallEvo call) {ops : Array Oper} {b0 : Nat} : ∀ (l : List Oper) (i : Nat) (tm : PM AV) (S : St) (tm' : PM AV) (S' : St), b0 ≤ S.no → evSeqM E call nt ops b0 i l tm S = some (tm', S') → EvoTo b0 S S'
  | [], i, tm, S, tm', S', hb, h => by
    simp only [evSeqM, Option.some.injEq, Prod.mk.injEq] at h
    rw [h.2]; exact EvoTo.refl _ _
  | o :: l, i, tm, S, tm', S', hb, h => by
    simp only [evSeqM] at h
    split at h
    · simp at h
    · split at h
      · exact seqM_evo hc l _ _ _ _ _ hb h
      · simp at h
    · cases hm : isMk E o with
      | true =>
        rw [hm] at h
        simp only [cond_true] at h
        split at h
        · simp at h
        · split at h
          · exact (EvoTo.bear b0 (b0 + i) (by omega) _ _).trans (seqM_evo hc l _ _ _ _ _ hb h)
          · simp at h
      | false =>
        rw [hm] at h
        simp only [cond_false] at h
        split at h
        · simp at h
        · rename_i hev
          split at h
          · have he := plain_evo hc o hm hev
            exact (he.to hb).trans (seqM_evo hc l _ _ _ _ _ (Nat.le_trans hb he.no) h)
          · simp at h
theorem draw_of_seqM (hc : CallEvo call) {ops : Array Oper} {m : PM Nat} {b0 : Nat} (hseen : seenAll E ops m 0 ops.toList = true) : ∀ (l : List Oper) (i : Nat) (tm : PM AV) (S : St) (tm' : PM AV) (S' : St), b0 ≤ S.no → ops.toList.drop i = l → evSeqM E call nt ops b0 i l tm S = some (tm', S') →
    ∃ hist ls, evDrawGo E call nt ops m b0 i l tm S = some (tm', S', hist, ls) ∧ (∀ h ∈ hist, ∃ o, ops[h.1]? = some o ∧ loudOp E o.op = true ∧ S.no ≤ h.2.1.no ∧ (∀ x, x < b0 → S.ver x ≤ h.2.1.ver x ∧ h.2.1.ver x ≤ h.2.2.ver x ∧ h.2.2.ver x ≤ S'.ver x)) ∧
      (∀ p ∈ ls, ∃ o, ops[p.1]? = some o ∧ mayLoad o.op = true ∧ ∃ a, opdOf o.op = some a ∧ (notDst a (ops.toList.drop p.1) = true → objId (E.ev tm' a) = some p.2))
  | [], i, tm, S, tm', S', _, _, h => by
    simp only [evSeqM, Option.some.injEq, Prod.mk.injEq] at h
    obtain ⟨rfl, rfl⟩ := h
    exact ⟨[], [], rfl, by simp, by simp⟩
  | o :: l, i, tm, S, tm', S', hb, hd, h => by
    have hwhole := h
    have hko : ops[i]? = some o := by
      have h0 : (ops.toList.drop i)[0]? = some o := by rw [hd]; rfl
      rw [List.getElem?_drop] at h0
      simpa using h0
    have hrest : ops.toList.drop (i + 1) = l := by rw [← List.drop_drop, hd]; rfl
    simp only [evSeqM] at h
    simp only [evDrawGo]
    rcases hw : wantedA ops tm o with _ | _ | _
    · simp only [hw] at h; cases h
    · simp only [hw] at h ⊢
      split at h
      · rename_i tm1 hp
        simp only [hp]
        exact draw_of_seqM hc hseen l (i + 1) _ _ _ _ hb hrest h
      · simp at h
    · simp only [hw] at h ⊢
      cases hmo : isMk E o with
      | true =>
        rw [hmo] at h
        simp only [cond_true] at h ⊢
        split at h
        · simp at h
        · rename_i k hk
          split at h
          · rename_i tm1 hp
            simp only [hk, hp]
            obtain ⟨hist, ls, hgo, h1, h2⟩ := draw_of_seqM hc hseen l (i + 1) _ _ _ _ (show b0 ≤ (S.bear (b0 + i) k).no from hb) hrest h
            refine ⟨hist, ls, hgo, fun x hx => ?_, h2⟩
            obtain ⟨o2, a1, a2, a3, a4⟩ := h1 x hx
            exact ⟨o2, a1, a2, a3, a4⟩
          · simp at h
      | false =>
        rw [hmo] at h
        simp only [cond_false] at h ⊢
        split at h
        · simp at h
        · rename_i v S1 hev
          split at h
          · rename_i tm1 hp
            have hev1 : Evo S S1 := plain_evo hc o hmo hev
            have hev2 : EvoTo b0 S1 S' := seqM_evo hc l _ _ _ _ _ (Nat.le_trans hb hev1.no) h
            obtain ⟨hist, ls, hgo, h1, h2⟩ := draw_of_seqM hc hseen l (i + 1) _ _ _ _ (Nat.le_trans hb hev1.no) hrest h
            have h1' : ∀ h ∈ hist, ∃ o, ops[h.1]? = some o ∧ loudOp E o.op = true ∧ S.no ≤ h.2.1.no ∧ (∀ x, x < b0 → S.ver x ≤ h.2.1.ver x ∧ h.2.1.ver x ≤ h.2.2.ver x ∧ h.2.2.ver x ≤ S'.ver x) := fun x hx => by
              obtain ⟨o2, a1, a2, a3, a4⟩ := h1 x hx
              exact ⟨o2, a1, a2, Nat.le_trans hev1.no a3, fun y hy => ⟨Nat.le_trans (hev1.ver y (by omega)) (a4 y hy).1, (a4 y hy).2⟩⟩
            cases hq : loudOp E o.op with
            | true =>
              have hs := seenAll_at _ _ hseen i o (by simpa using hko) hq
              rw [Nat.zero_add] at hs
              have e1 : S.masked (mkAt E ops) m b0 i = S := by
                unfold St.masked; rw [seenIn_mask i hs]
              have e2 : S1.unmasked S (mkAt E ops) m b0 i = S1 := by
                unfold St.unmasked; rw [seenIn_unmask i hs]
              simp only [cond_true, e1, hev, hp, e2]
              rw [hgo]
              refine ⟨_, _, rfl, fun x hx => ?_, h2⟩
              rcases List.mem_cons.1 hx with rfl | hx
              · exact ⟨o, hko, hq, Nat.le_refl _, fun y hy => ⟨Nat.le_refl _, hev1.ver y (by omega), hev2.ver y hy⟩⟩
              · exact h1' x hx
            | false =>
              simp only [cond_false, hev, hp]
              rw [hgo]
              refine ⟨_, _, rfl, h1', fun x hx => ?_⟩
              cases hld : loadsFrom E tm o with
              | none => rw [hld] at hx; exact h2 x hx
              | some b =>
                rw [hld] at hx
                rcases List.mem_cons.1 hx with rfl | hx
                · obtain ⟨a, ha, hob⟩ := loads_id hld
                  refine ⟨o, hko, ?_, a, ha, fun hn => ?_⟩
                  · cases hml : mayLoad o.op with
                    | true => rfl
                    | false => rw [plain_no_load hml] at hld; simp at hld
                  · simp only [hd] at hn
                    rw [seqM_keep _ _ _ _ _ _ hwhole hn]
                    exact hob
                · exact h2 x hx
          · simp at h
/-- Without anything made it is the plain run. -/
theorem seqM_plain {ops : Array Oper} {b0 : Nat} : ∀ (l r : List Oper) (i : Nat) (tm : PM AV) (S : St) (tm1 : PM AV) (S1 : St), l.all (fun o => !isMk E o) = true → evSeq E call nt ops l tm S = some (tm1, S1) → evSeqM E call nt ops b0 i (l ++ r) tm S = evSeqM E call nt ops b0 (i + l.length) r tm1 S1
  | [], r, i, tm, S, tm1, S1, _, h => by
    simp only [evSeq, Option.some.injEq, Prod.mk.injEq] at h
    rw [h.1, h.2]; rfl
  | o :: l, r, i, tm, S, tm1, S1, hm, h => by
    simp only [List.all_cons, Bool.and_eq_true] at hm
    have hmo : isMk E o = false := by simpa using hm.1
    simp only [evSeq] at h
    simp only [List.cons_append, evSeqM, List.length_cons]
    rw [show i + (l.length + 1) = i + 1 + l.length by omega]
    rcases hw : wantedA ops tm o with _ | _ | _
    · simp only [hw] at h; cases h
    · simp only [hw] at h ⊢
      split at h
      · rename_i tm2 hp
        simp only [hp]
        exact seqM_plain l r (i + 1) _ _ _ _ hm.2 h
      · simp at h
    · simp only [hw, evOp, hmo, cond_false] at h ⊢
      split at h
      · simp at h
      · rename_i v S2 hev
        split at h
        · rename_i tm2 hp
          simp only [hev, hp]
          exact seqM_plain l r (i + 1) _ _ _ _ hm.2 h
        · simp at h

/-- What is loaded from in the region: the operands; none: one is assigned anew. -/
def allLoads : List Oper → Option (List Operand)
  | [] => some []
  | o :: r => match allLoads r with
    | none => none
    | some l => bif !mayLoad o.op then some l else match opdOf o.op with
      | some a => bif notDst a (o :: r) then some (a :: l) else none
      | none => none
theorem allLoads_at : ∀ (l : List Oper) (as : List Operand), allLoads l = some as → ∀ k y, l[k]? = some y → mayLoad y.op = true → ∃ a, opdOf y.op = some a ∧ a ∈ as ∧ notDst a (l.drop k) = true := by
  intro l
  induction l with
  | nil => intro as _ k y hy; simp at hy
  | cons y r ih =>
    intro as h k y' hy hl
    simp only [allLoads] at h
    split at h
    · cases h
    · rename_i as' h'
      have sub : ∀ a, a ∈ as' → a ∈ as := by
        intro a ha
        cases hb : mayLoad y.op with
        | false => rw [hb] at h; simp only [Bool.not_false, cond_true, Option.some.injEq] at h; rw [← h]; exact ha
        | true =>
          rw [hb] at h
          simp only [Bool.not_true, cond_false] at h
          split at h
          · rename_i a2 _
            cases hn : notDst a2 (y :: r) with
            | false => rw [hn] at h; cases h
            | true => rw [hn] at h; simp only [cond_true, Option.some.injEq] at h; rw [← h]; exact List.mem_cons_of_mem _ ha
          · cases h
      cases k with
      | zero =>
        simp only [List.getElem?_cons_zero, Option.some.injEq] at hy
        subst hy
        rw [hl] at h
        simp only [Bool.not_true, cond_false] at h
        split at h
        · rename_i a2 ha2
          cases hn : notDst a2 (y :: r) with
          | false => rw [hn] at h; cases h
          | true =>
            rw [hn] at h
            simp only [cond_true, Option.some.injEq] at h
            exact ⟨a2, ha2, by rw [← h]; exact List.mem_cons_self .., hn⟩
        · cases h
      | succ k =>
        obtain ⟨a, e1, e2, e3⟩ := ih as' h' k y' (by simpa using hy) hl
        exact ⟨a, e1, sub a e2, e3⟩
/-- What is asked of a region of open order in which one thing is made. -/
structure DrawMk (E : Env) (nt : Nat) (ops : Array Oper) (n : Nat) (l1 : List POp) (i : Nat) (d : Option Tmp) (op : Op) (l2 : List POp) (as : List Operand) : Prop where
  size : ops.size = n
  parts : ∃ p o r, ops.toList = p ++ o :: r ∧ p.length = i ∧ o.dst = d ∧ o.op = op ∧ o.guard = none ∧ dstOk nt d = true ∧ isMk E o = true ∧ popsOf nt ops p = some l1 ∧ popsOf nt ops r = some l2 ∧ p.all (fun o => !isMk E o) = true ∧ r.all (fun o => !isMk E o) = true
  pairs : allPairs E ops (masks 0 ops.toList .leaf) 0 ops.toList = true
  seen : seenAll E ops (masks 0 ops.toList .leaf) 0 ops.toList = true
  loads : allLoads ops.toList = some as
def drawMkB (E : Env) (nt : Nat) (ops : Array Oper) (n i : Nat) (d : Option Tmp) : Bool :=
  Nat.beq ops.size n && (match ops[i]? with
    | some o => (match o.dst, d with | some a, some b => Nat.beq a b | none, none => true | _, _ => false) && o.guard.isNone && dstOk nt d && isMk E o
    | none => false) && (ops.toList.take i).all (fun o => !isMk E o) && (ops.toList.drop (i + 1)).all (fun o => !isMk E o) && allPairs E ops (masks 0 ops.toList .leaf) 0 ops.toList && seenAll E ops (masks 0 ops.toList .leaf) 0 ops.toList
theorem drawMk_of {ops : Array Oper} {n i : Nat} {d : Option Tmp} {op : Op} {l1 l2 : List POp} {as : List Operand} (h : drawMkB E nt ops n i d = true) (ho : (ops[i]?).map (·.op) = some op) (h1 : popsOf nt ops (ops.toList.take i) = some l1) (h2 : popsOf nt ops (ops.toList.drop (i + 1)) = some l2)
    (hl : allLoads ops.toList = some as) : DrawMk E nt ops n l1 i d op l2 as := by
  simp only [drawMkB, Bool.and_eq_true] at h
  obtain ⟨⟨⟨⟨⟨a1, a2⟩, a3⟩, a4⟩, a5⟩, a6⟩ := h
  cases ho' : ops[i]? with
  | none => rw [ho'] at ho; cases ho
  | some o =>
    rw [ho'] at ho a2
    simp only [Option.map_some, Option.some.injEq] at ho
    simp only [Bool.and_eq_true] at a2
    obtain ⟨⟨⟨b1, b2⟩, b3⟩, b4⟩ := a2
    have hi : i < ops.toList.length := by simpa using (Array.getElem?_eq_some_iff.1 ho').1
    have hoi : ops.toList[i] = o := by simpa using (Array.getElem?_eq_some_iff.1 ho').2
    refine ⟨Nat.eq_of_beq_eq_true a1, ⟨_, o, _, ?_, by rw [List.length_take]; omega, ?_, ho, by simpa using b2, b3, b4, h1, h2, a3, a4⟩, a5, a6, hl⟩
    · rw [← hoi, ← List.drop_eq_getElem_cons hi, List.take_append_drop]
    · revert b1
      cases o.dst <;> cases d <;> simp
theorem e_drawMk {k : List KI} {Q : PostA} {tm : PM AV} {S : St} {ops : Array Oper} {n i : Nat} {d : Option Tmp} {op : Op} {l1 l2 : List POp} {as : List Operand} (hX : EvoX E) (h : DrawMk E nt ops n l1 i d op l2 as)
    (hE : EndsA E nt [.c (.reg l1)] .nrm tm (S.raise n) fun o tm1 S1 => o = .nrm ∧ ∃ mk, mkOp E tm1 (opOf d op) = some mk ∧ EndsA E nt [.c (.reg l2)] .nrm (setD tm1 d (mk.val (S.no + i))) (S1.bear (S.no + i) mk) fun o tm' S' => o = .nrm ∧ safeAll E S S' tm' as = true ∧ EndsA E nt k .nrm tm' S' Q) :
    EndsA E nt (.c (.draw ops) :: k) .nrm tm S Q := by
  obtain ⟨N, o', tm1, S1, h1, rfl, mk, hmk, N2, o2, tm2, S2, h2, rfl, ho, N3, o3, tm3, S3, h3, hq⟩ := hE
  refine ⟨max N (max N2 N3), o3, tm3, S3, fun lf n' hl hn => ?_, hq⟩
  have hc : CallEvo (evF E lf n') := evF_evo hX.evo lf n'
  have g1 := h1 lf n' (by omega) (by omega)
  have g2 := h2 lf n' (by omega) (by omega)
  simp only [runK, evP] at g1 g2
  have step : ∀ {l : List POp} {ta tb : PM AV} {Sa Sb : St}, (match (match evL E (evF E lf n') l ta Sa with | some (tm', S') => some (Out.nrm, tm', S') | none => none) with | some (o, tm', S') => some (o, tm', S') | none => none) = some (Out.nrm, tb, Sb) → evL E (evF E lf n') l ta Sa = some (tb, Sb) := by
    intro l ta tb Sa Sb hh
    cases he : evL E (evF E lf n') l ta Sa with
    | none => rw [he] at hh; simp at hh
    | some r =>
      rw [he] at hh
      simp only [Option.some.injEq, Prod.mk.injEq, true_and] at hh
      rw [← hh.1, ← hh.2]
  have g1' := step g1
  have g2' := step g2
  obtain ⟨p, o, r, hp1, hp2, hp3, hp4, hp5, hp6, hp7, hp8, hp9, hp10, hp11⟩ := h.parts
  have s1 := seq_of_evL _ _ _ _ _ hp8 g1'
  have s2 := seq_of_evL _ _ _ _ _ hp9 g2'
  have hmk' : mkOp E tm1 o = some mk := by
    rw [← hmk]
    obtain ⟨dst, op', ty, pos, after, guard⟩ := o
    simp only at hp3 hp4
    subst hp3; subst hp4
    cases op' <;> rfl
  have hw : wantedA ops tm1 o = some true := by unfold wantedA; rw [hp5]
  have hsz := h.size
  have whole : evSeqM E (evF E lf n') nt ops S.no 0 ops.toList tm (S.raise ops.size) = some (tm2, S2) := by
    rw [hsz, hp1, seqM_plain p (o :: r) 0 _ _ _ _ hp10 s1, Nat.zero_add, hp2]
    simp only [evSeqM, hw, hp7, cond_true, hmk', hp3, putA_setD hp6]
    have := seqM_plain (b0 := S.no) r [] (i + 1) _ _ _ _ hp11 s2
    rw [List.append_nil] at this
    rw [this]
    rfl
  obtain ⟨hist, ls, hgo, k1, k2⟩ := draw_of_seqM hc (m := masks 0 ops.toList .leaf) h.seen ops.toList 0 tm _ tm2 S2 (Nat.le_add_right _ _) rfl whole
  have hl : ls.all (loadOk E ops (masks 0 ops.toList .leaf) S.no ops.size hist) = true := by
    refine List.all_eq_true.2 fun q hq => ?_
    obtain ⟨y, hy, hy2, a, ha, hna⟩ := k2 q hq
    obtain ⟨a2, ha2, hmem, hnd⟩ := allLoads_at _ _ h.loads q.1 y (by simpa using hy) hy2
    rw [ha] at ha2
    simp only [Option.some.injEq] at ha2
    subst ha2
    have h1 := hna hnd
    have h2 := List.all_eq_true.1 ho a hmem
    simp only [safeA, h1, Bool.and_eq_true] at h2
    have h3 : q.2 < S.no := Nat.le_of_ble_eq_true h2.1
    have h4 := Nat.eq_of_beq_eq_true h2.2
    simp only [loadOk, h2.1, Bool.true_or, Bool.and_true]
    refine List.all_eq_true.2 fun x hx => ?_
    obtain ⟨o, _, _, e1, e2⟩ := k1 x hx
    have q1 : (S.raise ops.size).no = S.no + ops.size := rfl
    obtain ⟨v1, v2, v3⟩ := e2 q.2 h3
    have v1' : S.ver q.2 ≤ x.2.1.ver q.2 := v1
    have b1 : Nat.blt q.2 x.2.1.no = true := Nat.ble_eq_true_of_le (by omega)
    have b2 : Nat.beq (x.2.1.ver q.2) (x.2.2.ver q.2) = true := by
      have : x.2.1.ver q.2 = x.2.2.ver q.2 := by omega
      rw [this, Nat.beq_refl]
    simp [b1, b2]
  have e : evDraw E (evF E lf n') nt ops tm S = (bif allPairs E ops (masks 0 ops.toList .leaf) 0 ops.toList then
    match evDrawGo E (evF E lf n') nt ops (masks 0 ops.toList .leaf) S.no 0 ops.toList tm (S.raise ops.size) with
    | some (tm', S', hist, ls) => bif ls.all (loadOk E ops (masks 0 ops.toList .leaf) S.no ops.size hist) then some (tm', S') else none
    | none => none
  else none) := rfl
  have hd : evDraw E (evF E lf n') nt ops tm S = some (tm2, S2) := by
    rw [e, h.pairs, hgo]
    simp only [cond_true, hl]
  simp only [runK, evP, hd]
  exact h3 lf n' (by omega) (by omega)
end
end Go.Abs
