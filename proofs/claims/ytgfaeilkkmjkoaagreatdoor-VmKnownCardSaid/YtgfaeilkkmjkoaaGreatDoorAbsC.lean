/-
  A long run in parts: a statement, some rounds of a loop, some operations of a region, each by itself, with all that it leaves.
-/
import Derived.Test.YtgfaeilkkmjkoaaGreatDoorAbsM
set_option linter.unusedSimpArgs false
set_option linter.unusedVariables false
namespace Go.Abs
noncomputable section
/-- The first n statements of a row of statements; the others. -/
def takeSeq : Nat → Code → Code
  | 0, _ => .skip
  | n + 1, .seq x y => .seq x (takeSeq n y)
  | _ + 1, c => c
def dropSeq : Nat → Code → Code
  | 0, c => c
  | n + 1, .seq _ y => dropSeq n y
  | _ + 1, _ => .skip
/-- None of the first n statements is carried out as a whole. -/
def plainSeq : Nat → Code → Bool
  | 0, _ => true
  | n + 1, .seq x y => (mapStmt (.seq x y)).isNone && (mapStmt (.seq x (takeSeq n y))).isNone && plainSeq n y
  | _ + 1, _ => true
section
variable {E : Env} {call : CallFn} {lf nt : Nat}
theorem mac1_none {s : Code} (h : (mapStmt s).isNone = true) : mac1 E call lf nt s = none := by
  unfold mac1
  cases hm : mapStmt s with
  | none => rfl
  | some m => rw [hm] at h; cases h
/-- The first n statements come to their end: the others go on from there. -/
theorem cut_seq : ∀ (n : Nat) (c : Code) (tm : PM AV) (S : St) (tm1 : PM AV) (S1 : St), plainSeq n c = true → evC (mac1 E call lf nt) E call lf nt (takeSeq n c) tm S = some (.nrm, tm1, S1) →
    evC (mac1 E call lf nt) E call lf nt c tm S = evC (mac1 E call lf nt) E call lf nt (dropSeq n c) tm1 S1
  | 0, c, tm, S, tm1, S1, _, h => by
    simp only [takeSeq, evC, Option.some.injEq, Prod.mk.injEq, true_and] at h
    rw [dropSeq, h.1, h.2]
  | n + 1, c, tm, S, tm1, S1, hp, h => by
    cases c with
    | seq x y =>
      simp only [plainSeq, Bool.and_eq_true] at hp
      obtain ⟨⟨p1, p2⟩, p3⟩ := hp
      simp only [takeSeq, evC, mac1_none p2] at h
      simp only [evC, mac1_none p1, dropSeq]
      split at h
      · rename_i tm' S' hx
        exact cut_seq n y tm' S' tm1 S1 p3 h
      · rename_i hne
        rw [h] at hne
        exact absurd rfl (hne tm1 S1)
    | skip => simp only [takeSeq] at h; simp only [dropSeq, evC]; simpa only [evC] using h
    | _ => simp only [takeSeq] at h; simp only [dropSeq]; rw [h]; simp only [evC]
/-- j rounds, each to its end. -/
def rounds (body : Run) : Nat → PM AV → St → Option (PM AV × St)
  | 0, tm, S => some (tm, S)
  | j + 1, tm, S => match body tm S with
    | some (.nrm, tm', S') => rounds body j tm' S'
    | _ => none
theorem cut_iter {body : Run} : ∀ (j k : Nat) (tm : PM AV) (S : St) (tm1 : PM AV) (S1 : St), rounds body j tm S = some (tm1, S1) → iter body (j + k) tm S = iter body k tm1 S1
  | 0, k, tm, S, tm1, S1, h => by
    simp only [rounds, Option.some.injEq, Prod.mk.injEq] at h
    rw [Nat.zero_add, h.1, h.2]
  | j + 1, k, tm, S, tm1, S1, h => by
    simp only [rounds] at h
    rw [show j + 1 + k = (j + k) + 1 by omega]
    split at h
    · rename_i tm' S' hb
      simp only [iter, hb]
      exact cut_iter j k tm' S' tm1 S1 h
    · cases h
/-- The same, for the kernel. -/
def roundsK (body : CodeF) (j : Nat) (kn : Run) (ke : Nat → Run) (kr : Run) : Run := Nat.rec (motive := fun _ => Run) kn (fun _ ih => body ih ke kr) j
theorem roundsK_eq {body : CodeF} {b : Run} (h : ∀ kn ke kr tm S, body kn ke kr tm S = handC (b tm S) kn ke kr) : ∀ (j : Nat) (tm : PM AV) (S : St) (tm1 : PM AV) (S1 : St), roundsK body j kN (fun _ _ _ => none) (fun _ _ => none) tm S = some (.nrm, tm1, S1) → rounds b j tm S = some (tm1, S1)
  | 0, tm, S, tm1, S1, hr => by
    have hr : kN tm S = some (.nrm, tm1, S1) := hr
    simp only [kN, Option.some.injEq, Prod.mk.injEq, true_and] at hr
    simp only [rounds, hr]
  | j + 1, tm, S, tm1, S1, hr => by
    have hr : body (roundsK body j kN (fun _ _ _ => none) (fun _ _ => none)) (fun _ _ _ => none) (fun _ _ => none) tm S = some (.nrm, tm1, S1) := hr
    rw [h] at hr
    simp only [rounds]
    cases hb : b tm S with
    | none => rw [hb] at hr; cases hr
    | some p =>
      obtain ⟨o, tm', S'⟩ := p
      rw [hb] at hr
      cases o with
      | nrm => exact roundsK_eq h j tm' S' tm1 S1 hr
      | exit i => cases hr
      | ret => cases hr
/-- Some operations of a region, in their order. -/
theorem cut_ops {ops : Array Oper} : ∀ (l1 l2 : List Oper) (tm : PM AV) (S : St) (tm1 : PM AV) (S1 : St), evSeq E call nt ops l1 tm S = some (tm1, S1) → evSeq E call nt ops (l1 ++ l2) tm S = evSeq E call nt ops l2 tm1 S1
  | [], l2, tm, S, tm1, S1, h => by
    simp only [evSeq, Option.some.injEq, Prod.mk.injEq] at h
    rw [List.nil_append, h.1, h.2]
  | o :: l1, l2, tm, S, tm1, S1, h => by
    simp only [List.cons_append, evSeq] at h ⊢
    cases hw : wantedA ops tm o with
    | none => rw [hw] at h; cases h
    | some b =>
      rw [hw] at h
      cases b with
      | false =>
        simp only at h ⊢
        cases hp : putA nt o.dst passed tm with
        | none => rw [hp] at h; cases h
        | some tm' => rw [hp] at h; exact cut_ops l1 l2 tm' S tm1 S1 h
      | true =>
        simp only at h ⊢
        cases he : evOp E call tm o S with
        | none => rw [he] at h; cases h
        | some p =>
          obtain ⟨v, S'⟩ := p
          rw [he] at h
          simp only at h ⊢
          cases hp : putA nt o.dst v tm with
          | none => rw [hp] at h; cases h
          | some tm' => rw [hp] at h; exact cut_ops l1 l2 tm' S' tm1 S1 h
end
/-- A part of the code that the kernel has run. -/
theorem part_eq {E : Env} {lf n nt : Nat} {c : Code} {tm tm1 : PM AV} {S S1 : St} {o : Out} (h : evCK (mac1K E (evFK E lf n) lf nt) E (evFK E lf n) lf nt c kN kE kR tm S = some (o, tm1, S1)) :
    evC (mac1 E (evF E lf n) lf nt) E (evF E lf n) lf nt c tm S = some (o, tm1, S1) := by
  rw [mac1K_eq, evCK_eq, evFK_eq] at h
  rw [← h]; exact (handC_nil _).symm
theorem parts_eq {E : Env} {lf n nt j : Nat} {c : Code} {tm tm1 : PM AV} {S S1 : St} (h : roundsK (evCK (mac1K E (evFK E lf n) lf nt) E (evFK E lf n) lf nt c) j kN (fun _ _ _ => none) (fun _ _ => none) tm S = some (.nrm, tm1, S1)) :
    rounds (evC (mac1 E (evF E lf n) lf nt) E (evF E lf n) lf nt c) j tm S = some (tm1, S1) := by
  rw [mac1K_eq, evFK_eq] at h
  exact roundsK_eq (fun kn ke kr tm S => evCK_eq _ E _ lf nt c kn ke kr tm S) j tm S tm1 S1 h
/-- A function's answer, from where its code has come to. -/
theorem fn_from {E : Env} {lf n : Nat} {f : FuncId} {fn : Func} {c : Code} {args : List AV} {S : St} (hf : E.fn f = some fn) (hX : E.X f = none) (hb : fn.body = some c) (hn : Nat.ble args.length fn.ntmps = true) {tm' : PM AV} {S' : St} {v : AV}
    (h : evC (mac1 E (evF E lf n) lf fn.ntmps) E (evF E lf n) lf fn.ntmps c (initTm 0 args .leaf) S = some (.ret, tm', S')) (hr : (resAll E tm' S' fn.results.toList).map packA = some v) : evF E lf (n + 1) f args S = some (v, S') := by
  simp only [evF, hf, hX, hb, hn, cond_true, h]
  cases hq : resAll E tm' S' fn.results.toList with
  | none => rw [hq] at hr; cases hr
  | some vs =>
    rw [hq] at hr
    simp only [Option.map_some, Option.some.injEq] at hr
    simp only [Option.map_some, hr]
theorem rounds_add {body : Run} : ∀ (i j : Nat) (tm : PM AV) (S : St) (tm1 : PM AV) (S1 : St), rounds body i tm S = some (tm1, S1) → rounds body (i + j) tm S = rounds body j tm1 S1
  | 0, j, tm, S, tm1, S1, h => by
    simp only [rounds, Option.some.injEq, Prod.mk.injEq] at h
    rw [Nat.zero_add, h.1, h.2]
  | i + 1, j, tm, S, tm1, S1, h => by
    rw [show i + 1 + j = (i + j) + 1 by omega]
    simp only [rounds] at h ⊢
    split at h
    · rename_i tm' S' hb
      exact rounds_add i j tm' S' tm1 S1 h
    · cases h
/-- A function's code with a loop in its row of statements: what stands ahead of it, some rounds, and from there on. -/
theorem by_parts {E : Env} {call : CallFn} {lf nt : Nat} {code body rest : Code} {b n0 j k : Nat} (hshape : dropSeq n0 code = .seq (.block b (.loop body)) rest) (hplain : plainSeq n0 code = true) (hm : (mapStmt (.seq (.block b (.loop body)) rest)).isNone = true)
    {tm0 tm1 tm2 : PM AV} {S0 S1 S2 : St} (h1 : evC (mac1 E call lf nt) E call lf nt (takeSeq n0 code) tm0 S0 = some (.nrm, tm1, S1)) (h2 : rounds (evC (mac1 E call lf nt) E call lf nt body) j tm1 S1 = some (tm2, S2)) (hl : lf = j + k) :
    evCK (mac1 E call lf nt) E call lf nt code kN kE kR tm0 S0 = iterK (evCK (mac1 E call lf nt) E call lf nt body) k (evCK (mac1 E call lf nt) E call lf nt rest kN kE kR) (blockE b (evCK (mac1 E call lf nt) E call lf nt rest kN kE kR) kE) kR tm2 S2 := by
  have e1 : evCK (mac1 E call lf nt) E call lf nt code kN kE kR tm0 S0 = evCK (mac1 E call lf nt) E call lf nt (.seq (.block b (.loop body)) rest) kN kE kR tm1 S1 := by
    rw [evCK_eq, evCK_eq, cut_seq n0 code tm0 S0 tm1 S1 hplain h1, hshape]
  have e2 : evCK (mac1 E call lf nt) E call lf nt (.seq (.block b (.loop body)) rest) kN kE kR tm1 S1 = iterK (evCK (mac1 E call lf nt) E call lf nt body) lf (evCK (mac1 E call lf nt) E call lf nt rest kN kE kR) (blockE b (evCK (mac1 E call lf nt) E call lf nt rest kN kE kR) kE) kR tm1 S1 := by
    show seqC (mac1 E call lf nt) (.block b (.loop body)) rest (evCK (mac1 E call lf nt) E call lf nt (.block b (.loop body))) (evCK (mac1 E call lf nt) E call lf nt rest) kN kE kR tm1 S1 = _
    unfold seqC
    rw [mac1_none hm]
    rfl
  have hb : ∀ kn ke kr tm S, evCK (mac1 E call lf nt) E call lf nt body kn ke kr tm S = handC (evC (mac1 E call lf nt) E call lf nt body tm S) kn ke kr := fun kn ke kr tm S => evCK_eq _ E call lf nt body kn ke kr tm S
  rw [e1, e2, iterK_eq hb, iterK_eq hb]
  have h3 := cut_iter j k tm1 S1 tm2 S2 h2
  rw [← hl] at h3
  rw [h3]
/-- So the function answers. -/
theorem says_parts {E : Env} {lf n : Nat} {f : FuncId} {fn : Func} {code body rest : Code} {b n0 j k : Nat} (hf : E.fn f = some fn) (hX : E.X f = none) (hc : fn.body = some code)
    (hshape : dropSeq n0 code = .seq (.block b (.loop body)) rest) (hplain : plainSeq n0 code = true) (hm : (mapStmt (.seq (.block b (.loop body)) rest)).isNone = true)
    {tm1 tm2 : PM AV} {S S1 S2 : St} (h1 : evCK (mac1K E (evFK E lf n) lf fn.ntmps) E (evFK E lf n) lf fn.ntmps (takeSeq n0 code) kN kE kR (initK [] 0 PM.leaf) S = some (.nrm, tm1, S1))
    (h2 : rounds (evC (mac1 E (evF E lf n) lf fn.ntmps) E (evF E lf n) lf fn.ntmps body) j tm1 S1 = some (tm2, S2)) (hl : lf = j + k)
    (h3 : saysTrue (fnEnd E fn (iterK (evCK (mac1K E (evFK E lf n) lf fn.ntmps) E (evFK E lf n) lf fn.ntmps body) k (evCK (mac1K E (evFK E lf n) lf fn.ntmps) E (evFK E lf n) lf fn.ntmps rest kN kE kR) (blockE b (evCK (mac1K E (evFK E lf n) lf fn.ntmps) E (evFK E lf n) lf fn.ntmps rest kN kE kR) kE) kR tm2 S2)) = true) :
    saysTrue (evF E lf (n + 1) f [] S) = true := by
  rw [← evFK_eq]
  have e : evFK E lf (n + 1) f [] S = fnEnd E fn (evCK (mac1K E (evFK E lf n) lf fn.ntmps) E (evFK E lf n) lf fn.ntmps code kN kE kR (initK [] 0 PM.leaf) S) := by
    show Option.rec (motive := fun _ => Option (AV × St)) none (fnOn E lf (evFK E lf n) f [] S) (E.fn f) = _
    rw [hf]
    show Option.rec (motive := fun _ => Option (AV × St)) (Option.rec (motive := fun _ => Option (AV × St)) none (fnBody E lf (evFK E lf n) fn [] S) fn.body) (fnX [] S) (E.X f) = _
    rw [hX, hc]
    rfl
  have h1' := part_eq h1
  rw [e]
  simp only [mac1K_eq, evFK_eq] at h3 ⊢
  rw [by_parts hshape hplain hm h1' h2 hl]
  exact h3
/-- The first n statements and one more come to their end: it goes on from there. -/
theorem head_eq {M : Code → Option Run} {E : Env} {call : CallFn} {lf nt : Nat} {a i : Code} {tm tm1 : PM AV} {S S1 : St} (h : evCK M E call lf nt a (evCK M E call lf nt i kN kE kR) kE kR tm S = some (.nrm, tm1, S1)) :
    ∃ tm0 S0, evC M E call lf nt a tm S = some (.nrm, tm0, S0) ∧ evC M E call lf nt i tm0 S0 = some (.nrm, tm1, S1) := by
  rw [evCK_eq] at h
  cases ha : evC M E call lf nt a tm S with
  | none => rw [ha] at h; cases h
  | some p =>
    obtain ⟨o, tm0, S0⟩ := p
    rw [ha] at h
    cases o with
    | nrm =>
      have h : evCK M E call lf nt i kN kE kR tm0 S0 = some (.nrm, tm1, S1) := h
      rw [evCK_eq] at h
      exact ⟨tm0, S0, rfl, (handC_nil _).symm.trans h⟩
    | exit j => cases h
    | ret => cases h
/-- The same where the loop stands behind a statement of its own. -/
theorem by_parts2 {E : Env} {call : CallFn} {lf nt : Nat} {code body rest i : Code} {b n0 j k : Nat} (hshape : dropSeq n0 code = .seq (.seq i (.block b (.loop body))) rest) (hplain : plainSeq n0 code = true) (hm : (mapStmt (.seq (.seq i (.block b (.loop body))) rest)).isNone = true) (hm2 : (mapStmt (.seq i (.block b (.loop body)))).isNone = true)
    {tm0 tm1 tm2 : PM AV} {S0 S1 S2 : St} (h1 : evCK (mac1 E call lf nt) E call lf nt (takeSeq n0 code) (evCK (mac1 E call lf nt) E call lf nt i kN kE kR) kE kR tm0 S0 = some (.nrm, tm1, S1)) (h2 : rounds (evC (mac1 E call lf nt) E call lf nt body) j tm1 S1 = some (tm2, S2)) (hl : lf = j + k) :
    evCK (mac1 E call lf nt) E call lf nt code kN kE kR tm0 S0 = iterK (evCK (mac1 E call lf nt) E call lf nt body) k (evCK (mac1 E call lf nt) E call lf nt rest kN kE kR) (blockE b (evCK (mac1 E call lf nt) E call lf nt rest kN kE kR) kE) kR tm2 S2 := by
  obtain ⟨tma, Sa, ha, hi⟩ := head_eq h1
  have e1 : evCK (mac1 E call lf nt) E call lf nt code kN kE kR tm0 S0 = evCK (mac1 E call lf nt) E call lf nt (.seq (.seq i (.block b (.loop body))) rest) kN kE kR tma Sa := by
    rw [evCK_eq, evCK_eq, cut_seq n0 code tm0 S0 tma Sa hplain ha, hshape]
  have e2 : evCK (mac1 E call lf nt) E call lf nt (.seq (.seq i (.block b (.loop body))) rest) kN kE kR tma Sa = iterK (evCK (mac1 E call lf nt) E call lf nt body) lf (evCK (mac1 E call lf nt) E call lf nt rest kN kE kR) (blockE b (evCK (mac1 E call lf nt) E call lf nt rest kN kE kR) kE) kR tm1 S1 := by
    show seqC (mac1 E call lf nt) (.seq i (.block b (.loop body))) rest (seqC (mac1 E call lf nt) i (.block b (.loop body)) (evCK (mac1 E call lf nt) E call lf nt i) (evCK (mac1 E call lf nt) E call lf nt (.block b (.loop body)))) (evCK (mac1 E call lf nt) E call lf nt rest) kN kE kR tma Sa = _
    unfold seqC
    rw [mac1_none hm, mac1_none hm2]
    show evCK (mac1 E call lf nt) E call lf nt i (evCK (mac1 E call lf nt) E call lf nt (.block b (.loop body)) (evCK (mac1 E call lf nt) E call lf nt rest kN kE kR) kE kR) kE kR tma Sa = _
    rw [evCK_eq, hi]
    rfl
  have hb : ∀ kn ke kr tm S, evCK (mac1 E call lf nt) E call lf nt body kn ke kr tm S = handC (evC (mac1 E call lf nt) E call lf nt body tm S) kn ke kr := fun kn ke kr tm S => evCK_eq _ E call lf nt body kn ke kr tm S
  rw [e1, e2, iterK_eq hb, iterK_eq hb]
  have h3 := cut_iter j k tm1 S1 tm2 S2 h2
  rw [← hl] at h3
  rw [h3]
theorem says_parts2 {E : Env} {lf n : Nat} {f : FuncId} {fn : Func} {code body rest i : Code} {b n0 j k : Nat} (hf : E.fn f = some fn) (hX : E.X f = none) (hc : fn.body = some code)
    (hshape : dropSeq n0 code = .seq (.seq i (.block b (.loop body))) rest) (hplain : plainSeq n0 code = true) (hm : (mapStmt (.seq (.seq i (.block b (.loop body))) rest)).isNone = true) (hm2 : (mapStmt (.seq i (.block b (.loop body)))).isNone = true)
    {tm1 tm2 : PM AV} {S S1 S2 : St} (h1 : evCK (mac1K E (evFK E lf n) lf fn.ntmps) E (evFK E lf n) lf fn.ntmps (takeSeq n0 code) (evCK (mac1K E (evFK E lf n) lf fn.ntmps) E (evFK E lf n) lf fn.ntmps i kN kE kR) kE kR (initK [] 0 PM.leaf) S = some (.nrm, tm1, S1))
    (h2 : rounds (evC (mac1 E (evF E lf n) lf fn.ntmps) E (evF E lf n) lf fn.ntmps body) j tm1 S1 = some (tm2, S2)) (hl : lf = j + k)
    (h3 : saysTrue (fnEnd E fn (iterK (evCK (mac1K E (evFK E lf n) lf fn.ntmps) E (evFK E lf n) lf fn.ntmps body) k (evCK (mac1K E (evFK E lf n) lf fn.ntmps) E (evFK E lf n) lf fn.ntmps rest kN kE kR) (blockE b (evCK (mac1K E (evFK E lf n) lf fn.ntmps) E (evFK E lf n) lf fn.ntmps rest kN kE kR) kE) kR tm2 S2)) = true) :
    saysTrue (evF E lf (n + 1) f [] S) = true := by
  rw [← evFK_eq]
  have e : evFK E lf (n + 1) f [] S = fnEnd E fn (evCK (mac1K E (evFK E lf n) lf fn.ntmps) E (evFK E lf n) lf fn.ntmps code kN kE kR (initK [] 0 PM.leaf) S) := by
    show Option.rec (motive := fun _ => Option (AV × St)) none (fnOn E lf (evFK E lf n) f [] S) (E.fn f) = _
    rw [hf]
    show Option.rec (motive := fun _ => Option (AV × St)) (Option.rec (motive := fun _ => Option (AV × St)) none (fnBody E lf (evFK E lf n) fn [] S) fn.body) (fnX [] S) (E.X f) = _
    rw [hX, hc]
    rfl
  rw [e]
  simp only [mac1K_eq, evFK_eq] at h1 h3 ⊢
  rw [by_parts2 hshape hplain hm hm2 h1 h2 hl]
  exact h3
end
end Go.Abs
