/-
  Regions of open order in which two things are made, in the calculus.
-/
import Derived.Test.YtmmpcomfhcpicaaAbs22
set_option linter.unusedSimpArgs false
set_option linter.unusedVariables false
namespace Go.Abs
section
variable {E : Env} {nt : Nat}
/-- What is asked of a region of open order in which two things are made. -/
structure DrawMk2 (E : Env) (nt : Nat) (ops : Array Oper) (n : Nat) (l1 : List POp) (i : Nat) (d : Option Tmp) (op : Op) (l2 : List POp) (j : Nat) (d2 : Option Tmp) (op2 : Op) (l3 : List POp) (as : List Operand) : Prop where
  size : ops.size = n
  parts : ∃ p o q o2 r, ops.toList = p ++ o :: (q ++ o2 :: r) ∧ p.length = i ∧ o.dst = d ∧ o.op = op ∧ o.guard = none ∧ dstOk nt d = true ∧ isMk E o = true ∧ i + 1 + q.length = j ∧ o2.dst = d2 ∧ o2.op = op2 ∧ o2.guard = none ∧ dstOk nt d2 = true ∧ isMk E o2 = true ∧ popsOf nt ops p = some l1 ∧ popsOf nt ops q = some l2 ∧ popsOf nt ops r = some l3 ∧ p.all (fun o => !isMk E o) = true ∧ q.all (fun o => !isMk E o) = true ∧ r.all (fun o => !isMk E o) = true
  pairs : allPairs E ops (masks 0 ops.toList .leaf) 0 ops.toList = true
  seen : seenAll E ops (masks 0 ops.toList .leaf) 0 ops.toList = true
  loads : allLoads ops.toList = some as
def isMkAt (E : Env) (nt : Nat) (ops : Array Oper) (i : Nat) (d : Option Tmp) : Bool := match ops[i]? with
    | some o => (match o.dst, d with | some a, some b => Nat.beq a b | none, none => true | _, _ => false) && o.guard.isNone && dstOk nt d && isMk E o
    | none => false
def drawMk2B (E : Env) (nt : Nat) (ops : Array Oper) (n i : Nat) (d : Option Tmp) (j : Nat) (d2 : Option Tmp) : Bool :=
  Nat.beq ops.size n && isMkAt E nt ops i d && isMkAt E nt ops j d2 && Nat.blt i j && (ops.toList.take i).all (fun o => !isMk E o) && ((ops.toList.drop (i + 1)).take (j - (i + 1))).all (fun o => !isMk E o) && (ops.toList.drop (j + 1)).all (fun o => !isMk E o) && allPairs E ops (masks 0 ops.toList .leaf) 0 ops.toList && seenAll E ops (masks 0 ops.toList .leaf) 0 ops.toList
theorem isMkAt_of {ops : Array Oper} {i : Nat} {d : Option Tmp} {op : Op} (h : isMkAt E nt ops i d = true) (ho : (ops[i]?).map (·.op) = some op) : ∃ (hi : i < ops.toList.length), (ops.toList[i]).dst = d ∧ (ops.toList[i]).op = op ∧ (ops.toList[i]).guard = none ∧ dstOk nt d = true ∧ isMk E (ops.toList[i]) = true := by
  unfold isMkAt at h
  cases ho' : ops[i]? with
  | none => rw [ho'] at ho; cases ho
  | some o =>
    rw [ho'] at ho h
    simp only [Option.map_some, Option.some.injEq] at ho
    simp only [Bool.and_eq_true] at h
    obtain ⟨⟨⟨b1, b2⟩, b3⟩, b4⟩ := h
    have hi : i < ops.toList.length := by simpa using (Array.getElem?_eq_some_iff.1 ho').1
    have hoi : ops.toList[i] = o := by simpa using (Array.getElem?_eq_some_iff.1 ho').2
    refine ⟨hi, ?_, by rw [hoi]; exact ho, by rw [hoi]; simpa using b2, b3, by rw [hoi]; exact b4⟩
    rw [hoi]
    revert b1
    cases o.dst <;> cases d <;> simp
theorem drawMk2_of {ops : Array Oper} {n i j : Nat} {d d2 : Option Tmp} {op op2 : Op} {l1 l2 l3 : List POp} {as : List Operand} (h : drawMk2B E nt ops n i d j d2 = true) (ho : (ops[i]?).map (·.op) = some op) (ho2 : (ops[j]?).map (·.op) = some op2) (h1 : popsOf nt ops (ops.toList.take i) = some l1)
    (h2 : popsOf nt ops ((ops.toList.drop (i + 1)).take (j - (i + 1))) = some l2) (h3 : popsOf nt ops (ops.toList.drop (j + 1)) = some l3) (hl : allLoads ops.toList = some as) : DrawMk2 E nt ops n l1 i d op l2 j d2 op2 l3 as := by
  simp only [drawMk2B, Bool.and_eq_true] at h
  obtain ⟨⟨⟨⟨⟨⟨⟨⟨a1, a2⟩, a3⟩, a4⟩, a5⟩, a6⟩, a7⟩, a8⟩, a9⟩ := h
  obtain ⟨hi, b1, b2, b3, b4, b5⟩ := isMkAt_of a2 ho
  obtain ⟨hj, c1, c2, c3, c4, c5⟩ := isMkAt_of a3 ho2
  have hij : i < j := Nat.le_of_ble_eq_true a4
  refine ⟨Nat.eq_of_beq_eq_true a1, ⟨_, _, _, _, _, ?_, by rw [List.length_take]; omega, b1, b2, b3, b4, b5, ?_, c1, c2, c3, c4, c5, h1, h2, h3, a5, a6, a7⟩, a8, a9, hl⟩
  · have e1 : ops.toList = ops.toList.take i ++ ops.toList[i] :: ops.toList.drop (i + 1) := by
      rw [← List.drop_eq_getElem_cons hi, List.take_append_drop]
    have e2 : ops.toList.drop (i + 1) = (ops.toList.drop (i + 1)).take (j - (i + 1)) ++ ops.toList[j] :: ops.toList.drop (j + 1) := by
      rw [← List.drop_eq_getElem_cons hj]
      have : ops.toList.drop j = (ops.toList.drop (i + 1)).drop (j - (i + 1)) := by rw [List.drop_drop]; congr 1; omega
      rw [this, List.take_append_drop]
    rw [← e2]
    exact e1
  · rw [List.length_take, List.length_drop]
    omega
theorem e_drawMk2 {k : List KI} {Q : PostA} {tm : PM AV} {S : St} {ops : Array Oper} {n i j : Nat} {d d2 : Option Tmp} {op op2 : Op} {l1 l2 l3 : List POp} {as : List Operand} (hX : EvoX E) (h : DrawMk2 E nt ops n l1 i d op l2 j d2 op2 l3 as)
    (hE : EndsA E nt [.c (.reg l1)] .nrm tm (S.raise n) fun o tm1 S1 => o = .nrm ∧ ∃ mk, mkOp E tm1 (opOf d op) = some mk ∧ EndsA E nt [.c (.reg l2)] .nrm (setD tm1 d (mk.val (S.no + i))) (S1.bear (S.no + i) mk) fun o tm2 S2 => o = .nrm ∧ ∃ mk2, mkOp E tm2 (opOf d2 op2) = some mk2 ∧ EndsA E nt [.c (.reg l3)] .nrm (setD tm2 d2 (mk2.val (S.no + j))) (S2.bear (S.no + j) mk2) fun o tm' S' => o = .nrm ∧ safeAll E S S' tm' as = true ∧ EndsA E nt k .nrm tm' S' Q) :
    EndsA E nt (.c (.draw ops) :: k) .nrm tm S Q := by
  obtain ⟨N, o', tma, Sa, h1, rfl, mk, hmk, N2, o2, tmb, Sb, h2, rfl, mk2, hmk2, N4, o4, tm2, S2, h4, rfl, ho, N3, o3, tm3, S3, h3, hq⟩ := hE
  refine ⟨max (max N N4) (max N2 N3), o3, tm3, S3, fun lf n' hl hn => ?_, hq⟩
  have hc : CallEvo (evF E lf n') := evF_evo hX.evo lf n'
  have g1 := h1 lf n' (by omega) (by omega)
  have g2 := h2 lf n' (by omega) (by omega)
  have g4 := h4 lf n' (by omega) (by omega)
  simp only [runK, evP] at g1 g2 g4
  have step : ∀ {l : List POp} {ta tb : PM AV} {Sa Sb : St}, (match (match evL E (evF E lf n') l ta Sa with | some (tm', S') => some (Out.nrm, tm', S') | none => none) with | some (o, tm', S') => some (o, tm', S') | none => none) = some (Out.nrm, tb, Sb) → evL E (evF E lf n') l ta Sa = some (tb, Sb) := by
    intro l ta tb Sa Sb hh
    cases he : evL E (evF E lf n') l ta Sa with
    | none => rw [he] at hh; simp at hh
    | some r =>
      rw [he] at hh
      simp only [Option.some.injEq, Prod.mk.injEq, true_and] at hh
      rw [← hh.1, ← hh.2]
  have g1' := step g1
  have g2' := step g2
  have g4' := step g4
  obtain ⟨p, o, q, o2, r, hp1, hp2, hp3, hp4, hp5, hp6, hp7, hq2, hq3, hq4, hq5, hq6, hq7, hp8, hp9, hp9', hp10, hp10', hp11⟩ := h.parts
  have s1 := seq_of_evL _ _ _ _ _ hp8 g1'
  have s2 := seq_of_evL _ _ _ _ _ hp9 g2'
  have s4 := seq_of_evL _ _ _ _ _ hp9' g4'
  have hmk' : mkOp E tma o = some mk := by
    rw [← hmk]
    obtain ⟨dst, op', ty, pos, after, guard⟩ := o
    simp only at hp3 hp4
    subst hp3; subst hp4
    cases op' <;> rfl
  have hmk2' : mkOp E tmb o2 = some mk2 := by
    rw [← hmk2]
    obtain ⟨dst, op', ty, pos, after, guard⟩ := o2
    simp only at hq3 hq4
    subst hq3; subst hq4
    cases op' <;> rfl
  have hw : wantedA ops tma o = some true := by unfold wantedA; rw [hp5]
  have hw2 : wantedA ops tmb o2 = some true := by unfold wantedA; rw [hq5]
  have hsz := h.size
  have whole : evSeqM E (evF E lf n') nt ops S.no 0 ops.toList tm (S.raise ops.size) = some (tm2, S2) := by
    rw [hsz, hp1, seqM_plain p (o :: (q ++ o2 :: r)) 0 _ _ _ _ hp10 s1, Nat.zero_add, hp2]
    simp only [evSeqM, hw, hp7, cond_true, hmk', hp3, putA_setD hp6]
    rw [seqM_plain (b0 := S.no) q (o2 :: r) (i + 1) _ _ _ _ hp10' s2, hq2]
    simp only [evSeqM, hw2, hq7, cond_true, hmk2', hq3, putA_setD hq6]
    have := seqM_plain (b0 := S.no) r [] (j + 1) _ _ _ _ hp11 s4
    rw [List.append_nil] at this
    rw [this]
    rfl
  obtain ⟨hist, ls, hgo, k1, k2⟩ := draw_of_seqM hc (m := masks 0 ops.toList .leaf) h.seen ops.toList 0 tm _ tm2 S2 (Nat.le_add_right _ _) rfl whole
  have hl : ls.all (loadOk E ops (masks 0 ops.toList .leaf) S.no ops.size hist) = true := by
    refine List.all_eq_true.2 fun q hq => ?_
    obtain ⟨y, hy, hy2, a, ha, hna⟩ := k2 q hq
    obtain ⟨a2, ha2, hmem, hnd⟩ := allLoads_at _ _ h.loads q.1 y (by simpa using hy) hy2
    rw [ha] at ha2
    simp only [Option.some.injEq] at ha2
    subst ha2
    have h1 := hna hnd
    have h2 := List.all_eq_true.1 ho a hmem
    simp only [safeA, h1, Bool.and_eq_true] at h2
    have h3 : q.2 < S.no := Nat.le_of_ble_eq_true h2.1
    have h4 := Nat.eq_of_beq_eq_true h2.2
    simp only [loadOk, h2.1, Bool.true_or, Bool.and_true]
    refine List.all_eq_true.2 fun x hx => ?_
    obtain ⟨o, _, _, e1, e2⟩ := k1 x hx
    have q1 : (S.raise ops.size).no = S.no + ops.size := rfl
    obtain ⟨v1, v2, v3⟩ := e2 q.2 h3
    have v1' : S.ver q.2 ≤ x.2.1.ver q.2 := v1
    have b1 : Nat.blt q.2 x.2.1.no = true := Nat.ble_eq_true_of_le (by omega)
    have b2 : Nat.beq (x.2.1.ver q.2) (x.2.2.ver q.2) = true := by
      have : x.2.1.ver q.2 = x.2.2.ver q.2 := by omega
      rw [this, Nat.beq_refl]
    simp [b1, b2]
  have e : evDraw E (evF E lf n') nt ops tm S = (bif allPairs E ops (masks 0 ops.toList .leaf) 0 ops.toList then
    match evDrawGo E (evF E lf n') nt ops (masks 0 ops.toList .leaf) S.no 0 ops.toList tm (S.raise ops.size) with
    | some (tm', S', hist, ls) => bif ls.all (loadOk E ops (masks 0 ops.toList .leaf) S.no ops.size hist) then some (tm', S') else none
    | none => none
  else none) := rfl
  have hd : evDraw E (evF E lf n') nt ops tm S = some (tm2, S2) := by
    rw [e, h.pairs, hgo]
    simp only [cond_true, hl]
  simp only [runK, evP, hd]
  exact h3 lf n' (by omega) (by omega)
end
end Go.Abs
