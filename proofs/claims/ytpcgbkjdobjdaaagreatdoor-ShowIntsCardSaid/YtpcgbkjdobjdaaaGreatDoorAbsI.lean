/-
  Regions of open order in the calculus: what is loaded out of order comes from no object.
  Regions of open order, once more: what is loaded out of order may come from an object that nobody has written meanwhile.
  Regions of open order in which one thing is made.
  Regions of open order in two parts: what is loaded out of order in the first is left alone in the first.
  Regions of open order in which two things are made, in the calculus.
-/
import Derived.Test.YtpcgbkjdobjdaaaGreatDoorAbsH
section
set_option linter.unusedSimpArgs false
set_option linter.unusedVariables false
namespace Go.Abs
noncomputable def isObjA : AV → Bool
  | .ptr _ _ => true
  | .osl _ _ _ _ _ => true
  | .mp _ => true
  | _ => false
noncomputable def isDst : Option Tmp → Nat → Bool
  | some k, n => k == n
  | none, _ => false
noncomputable def opdOf : Op → Option Operand
  | .load _ a => some a
  | .convert _ _ a => some a
  | .slice _ a _ _ _ => some a
  | .lookup _ a _ _ => some a
  | .call c => match c.callee with
    | .builtin .len => c.args.toList.head?
    | _ => none
  | _ => none
section
variable {E : Env} {call : CallFn} {nt : Nat}
theorem loads_opd {tm : PM AV} {o : Oper} {l : Nat} (h : loadsFrom E tm o = some l) : ∃ a, opdOf o.op = some a ∧ isObjA (E.ev tm a) = true := by
  obtain ⟨dst, op, ty, pos, after, guard⟩ := o
  cases op with
  | load t a =>
    refine ⟨a, rfl, ?_⟩
    simp only [loadsFrom] at h
    split at h
    · rename_i e; rw [e]; rfl
    · cases h
  | convert t u a =>
    refine ⟨a, rfl, ?_⟩
    simp only [loadsFrom] at h
    split at h
    · rename_i e; rw [e]; rfl
    · rename_i e; rw [e]; rfl
    · cases h
  | slice t a lo hi mx =>
    refine ⟨a, rfl, ?_⟩
    cases mx with
    | some m => simp only [loadsFrom] at h; cases h
    | none =>
      simp only [loadsFrom] at h
      split at h
      · rename_i e; rw [e]; rfl
      · cases h
  | lookup t a i ok =>
    refine ⟨a, rfl, ?_⟩
    simp only [loadsFrom] at h
    split at h
    · rename_i e; rw [e]; rfl
    · cases h
  | call c =>
    obtain ⟨callee, args, ats⟩ := c
    cases callee with
    | builtin b =>
      cases b <;> simp only [loadsFrom] at h <;> try cases h
      split at h
      · rename_i l' e
        cases ha : args.toList with
        | nil => rw [ha] at e; cases e
        | cons a r =>
          rw [ha] at e
          simp only [List.map_cons, List.cons.injEq] at e
          refine ⟨a, by simp only [opdOf, ha]; rfl, ?_⟩
          rw [e.1]; rfl
      · cases h
    | _ => simp only [loadsFrom] at h; cases h
  | _ => simp only [loadsFrom] at h; cases h

noncomputable def offDst : Operand → Option Tmp → Bool
  | .tmp t, some d => !Nat.beq t d
  | _, _ => true
noncomputable def notDst (a : Operand) : List Oper → Bool
  | [] => true
  | o :: r => offDst a o.dst && notDst a r
noncomputable def freeLoads (E : Env) (m : PM Nat) (all : List Oper) : Nat → List Oper → Option (List Operand)
  | _, [] => some []
  | i, o :: r => match freeLoads E m all (i + 1) r with
    | none => none
    | some l => bif !mayLoad o.op || loadsIn E m i o 0 all then some l else match opdOf o.op with
      | some a => bif notDst a (o :: r) then some (a :: l) else none
      | none => none
theorem put_keep {tm tm1 : PM AV} {dst : Option Tmp} {v : AV} {a : Operand} (h : putA nt dst v tm = some tm1) (hn : offDst a dst = true) : E.ev tm1 a = E.ev tm a := by
  cases dst with
  | none => simp only [putA, Option.some.injEq] at h; rw [h]
  | some d =>
    simp only [putA] at h
    cases hb : Nat.blt d nt with
    | false => rw [hb] at h; simp at h
    | true =>
      rw [hb] at h
      simp only [cond_true, Option.some.injEq] at h
      subst h
      cases a with
      | tmp t =>
        have hne : t ≠ d := fun e => by subst e; simp [offDst] at hn
        simp only [Env.ev, getT, PM.get_set, hne, if_false]
      | _ => rfl
theorem seq_keep {ops : Array Oper} {a : Operand} : ∀ (l : List Oper) (tm : PM AV) (S : St) (tm' : PM AV) (S' : St), evSeq E call nt ops l tm S = some (tm', S') → notDst a l = true → E.ev tm' a = E.ev tm a
  | [], tm, S, tm', S', h, _ => by
    simp only [evSeq, Option.some.injEq, Prod.mk.injEq] at h
    rw [h.1]
  | o :: l, tm, S, tm', S', h, hn => by
    simp only [notDst, Bool.and_eq_true] at hn
    simp only [evSeq] at h
    split at h
    · simp at h
    · split at h
      · rename_i tm1 hp
        rw [seq_keep l _ _ _ _ h hn.2, put_keep hp hn.1]
      · simp at h
    · split at h
      · simp at h
      · split at h
        · rename_i tm1 hp
          rw [seq_keep l _ _ _ _ h hn.2, put_keep hp hn.1]
        · simp at h

theorem draw_of_seq2 {ops : Array Oper} {m : PM Nat} {b0 : Nat} (hmk : ops.toList.all (fun o => !isMk E o) = true) : ∀ (l : List Oper) (i : Nat) (tm : PM AV) (S : St) (tm' : PM AV) (S' : St), ops.toList.drop i = l → evSeq E call nt ops l tm S = some (tm', S') →
    ∃ hist ls, evDrawGo E call nt ops m b0 i l tm S = some (tm', S', hist, ls) ∧ (∀ h ∈ hist, ∃ o, ops[h.1]? = some o ∧ loudOp E o.op = true) ∧
      (∀ p ∈ ls, ∃ o, ops[p.1]? = some o ∧ mayLoad o.op = true ∧ ∃ a, opdOf o.op = some a ∧ (notDst a (ops.toList.drop p.1) = true → isObjA (E.ev tm' a) = true))
  | [], i, tm, S, tm', S', _, h => by
    simp only [evSeq, Option.some.injEq, Prod.mk.injEq] at h
    obtain ⟨rfl, rfl⟩ := h
    exact ⟨[], [], rfl, by simp, by simp⟩
  | o :: l, i, tm, S, tm', S', hd, h => by
    have hwhole := h
    have hko : ops[i]? = some o := by
      have h0 : (ops.toList.drop i)[0]? = some o := by rw [hd]; rfl
      rw [List.getElem?_drop] at h0
      simpa using h0
    have hrest : ops.toList.drop (i + 1) = l := by rw [← List.drop_drop, hd]; rfl
    have hmo : isMk E o = false := by
      have := List.all_eq_true.1 hmk o (by simpa using Array.mem_of_getElem? hko)
      simpa using this
    have hm0 := fun k => mkAt_off hmk k
    simp only [evSeq] at h
    simp only [evDrawGo]
    split at h
    · simp at h
    · split at h
      · rename_i tm1 hp
        exact draw_of_seq2 hmk l (i + 1) _ _ _ _ hrest h
      · simp at h
    · simp only [evOp, hmo, cond_false] at h ⊢
      split at h
      · simp at h
      · rename_i v S1 hev
        split at h
        · rename_i tm1 hp
          obtain ⟨hist, ls, hgo, h1, h2⟩ := draw_of_seq2 hmk l (i + 1) _ _ _ _ hrest h
          cases hq : loudOp E o.op with
          | true =>
            have e1 : S.masked (mkAt E ops) m b0 i = S := by
              unfold St.masked; rw [maskF_off hm0]
            have e2 : S1.unmasked S (mkAt E ops) m b0 i = S1 := by
              unfold St.unmasked; rw [unmaskF_off hm0]
            simp only [cond_true, e1, hev, hp, e2]
            rw [hgo]
            refine ⟨_, _, rfl, fun x hx => ?_, h2⟩
            rcases List.mem_cons.1 hx with rfl | hx
            · exact ⟨o, hko, hq⟩
            · exact h1 x hx
          | false =>
            simp only [cond_false, hev, hp]
            rw [hgo]
            refine ⟨_, _, rfl, h1, fun x hx => ?_⟩
            cases hld : loadsFrom E tm o with
            | none => rw [hld] at hx; exact h2 x hx
            | some b =>
              rw [hld] at hx
              rcases List.mem_cons.1 hx with rfl | hx
              · obtain ⟨a, ha, hob⟩ := loads_opd hld
                refine ⟨o, hko, ?_, a, ha, fun hn => ?_⟩
                · cases hml : mayLoad o.op with
                  | true => rfl
                  | false => rw [plain_no_load hml] at hld; simp at hld
                · simp only [hd] at hn
                  rw [seq_keep _ _ _ _ _ hwhole hn]
                  exact hob
              · exact h2 x hx
        · simp at h

theorem freeLoads_at {m : PM Nat} {all : List Oper} : ∀ (l : List Oper) (i : Nat) (as : List Operand), freeLoads E m all i l = some as → ∀ k y, l[k]? = some y → mayLoad y.op = true → loadsIn E m (i + k) y 0 all = true ∨ ∃ a, opdOf y.op = some a ∧ a ∈ as ∧ notDst a (l.drop k) = true := by
  intro l
  induction l with
  | nil => intro i as _ k y hy; simp at hy
  | cons y r ih =>
    intro i as h k y' hy hl
    simp only [freeLoads] at h
    split at h
    · cases h
    · rename_i as' h'
      have sub : ∀ a, a ∈ as' → a ∈ as := by
        intro a ha
        cases hb : (!mayLoad y.op || loadsIn E m i y 0 all) with
        | true => rw [hb] at h; simp only [cond_true, Option.some.injEq] at h; rw [← h]; exact ha
        | false =>
          rw [hb] at h
          simp only [cond_false] at h
          split at h
          · rename_i a2 _
            cases hn : notDst a2 (y :: r) with
            | false => rw [hn] at h; cases h
            | true => rw [hn] at h; simp only [cond_true, Option.some.injEq] at h; rw [← h]; exact List.mem_cons_of_mem _ ha
          · cases h
      cases k with
      | zero =>
        simp only [List.getElem?_cons_zero, Option.some.injEq] at hy
        subst hy
        cases hb : (!mayLoad y.op || loadsIn E m i y 0 all) with
        | true =>
          rw [hl] at hb
          simp only [Bool.not_true, Bool.false_or] at hb
          exact .inl hb
        | false =>
          rw [hb] at h
          simp only [cond_false] at h
          split at h
          · rename_i a2 ha2
            cases hn : notDst a2 (y :: r) with
            | false => rw [hn] at h; cases h
            | true =>
              rw [hn] at h
              simp only [cond_true, Option.some.injEq] at h
              exact .inr ⟨a2, ha2, by rw [← h]; exact List.mem_cons_self .., hn⟩
          · cases h
      | succ k =>
        rcases ih (i + 1) as' h' k y' (by simpa using hy) hl with e | ⟨a, e1, e2, e3⟩
        · rw [show i + 1 + k = i + (k + 1) by omega] at e; exact .inl e
        · exact .inr ⟨a, e1, sub a e2, e3⟩

/-- What is asked of a region of open order, told by its text. -/
structure DrawIs (E : Env) (nt : Nat) (ops : Array Oper) (n : Nat) (l : List POp) (as : List Operand) : Prop where
  size : ops.size = n
  pops : popsOf nt ops ops.toList = some l
  pairs : allPairs E ops (masks 0 ops.toList .leaf) 0 ops.toList = true
  nomk : ops.toList.all (fun o => !isMk E o) = true
  loads : freeLoads E (masks 0 ops.toList .leaf) ops.toList 0 ops.toList = some as

noncomputable def noObj (E : Env) (tm : PM AV) (as : List Operand) : Bool := as.all fun a => !isObjA (E.ev tm a)
theorem noObj_nil (tm : PM AV) : noObj E tm [] = true := rfl
theorem noObj_cons (tm : PM AV) (a : Operand) (r : List Operand) : noObj E tm (a :: r) = (!isObjA (E.ev tm a) && noObj E tm r) := by simp [noObj]
theorem obj_eptr (cs : List AV) (o : Nat) : isObjA (.eptr cs o) = false := rfl
theorem obj_vec (id sz : Nat) (xs : List AV) : isObjA (.vec id sz xs) = false := rfl
theorem obj_sc (v : Value) : isObjA (.sc v) = false := rfl
theorem obj_passed : isObjA passed = false := rfl
theorem obj_agg (cs : List AV) : isObjA (.agg cs) = false := rfl
theorem IsV.noObj {sz : Nat} {x : AV} {xs : List AV} (h : IsV sz x xs) : isObjA x = false := by
  rcases h with ⟨rfl, _⟩ | ⟨id, rfl⟩ <;> rfl

theorem draw_run {ops : Array Oper} {n : Nat} {l : List POp} {as : List Operand} (h : DrawIs E nt ops n l as) {tm : PM AV} {S : St} {tm' : PM AV} {S' : St} (hr : evL E call l tm (S.raise n) = some (tm', S')) (ho : Go.Abs.noObj E tm' as = true) : evDraw E call nt ops tm S = some (tm', S') := by
  have hs := seq_of_evL _ _ _ _ _ h.pops hr
  rw [← h.size] at hs
  obtain ⟨hist, ls, hgo, k1, k2⟩ := draw_of_seq2 (m := masks 0 ops.toList .leaf) (b0 := S.no) h.nomk ops.toList 0 tm _ tm' S' rfl hs
  have hl : ls.all (loadOk E ops (masks 0 ops.toList .leaf) S.no ops.size hist) = true := by
    refine List.all_eq_true.2 fun p hp => ?_
    obtain ⟨y, hy, hy2, a, ha, hna⟩ := k2 p hp
    have hin := freeLoads_at _ _ _ h.loads p.1 y (by simpa using hy) hy2
    rw [Nat.zero_add] at hin
    rcases hin with hin | ⟨a2, ha2, hmem, hnd⟩
    · simp only [loadOk, mkAt_off h.nomk, Bool.not_false, Bool.or_true, Bool.true_or, Bool.and_true]
      refine List.all_eq_true.2 fun x hx => ?_
      obtain ⟨o, ho, ho2⟩ := k1 x hx
      have := loadsIn_at _ _ hin x.1 o (by simpa using ho) ho2
      rw [Nat.zero_add] at this
      rcases this with h | h <;> simp [h]
    · rw [ha] at ha2
      simp only [Option.some.injEq] at ha2
      subst ha2
      have h1 := hna hnd
      have h2 := List.all_eq_true.1 ho a hmem
      rw [h1] at h2
      cases h2
  have e : evDraw E call nt ops tm S = (bif allPairs E ops (masks 0 ops.toList .leaf) 0 ops.toList then
    match evDrawGo E call nt ops (masks 0 ops.toList .leaf) S.no 0 ops.toList tm (S.raise ops.size) with
    | some (tm', S', hist, ls) => bif ls.all (loadOk E ops (masks 0 ops.toList .leaf) S.no ops.size hist) then some (tm', S') else none
    | none => none
  else none) := rfl
  rw [e, h.pairs, hgo]
  simp only [cond_true, hl]
theorem e_draw {k : List KI} {Q : PostA} {tm : PM AV} {S : St} {ops : Array Oper} {n : Nat} {l : List POp} {as : List Operand} (h : DrawIs E nt ops n l as)
    (hE : EndsA E nt [.c (.reg l)] .nrm tm (S.raise n) fun o tm' S' => o = .nrm ∧ Go.Abs.noObj E tm' as = true ∧ EndsA E nt k .nrm tm' S' Q) : EndsA E nt (.c (.draw ops) :: k) .nrm tm S Q := by
  obtain ⟨N, o', tm1, S1, h1, rfl, ho, N2, o2, tm2, S2, h2, hq⟩ := hE
  refine ⟨max N N2, o2, tm2, S2, fun lf n hl hn => ?_, hq⟩
  have h3 := h1 lf n (by omega) (by omega)
  simp only [runK, evP] at h3
  cases he : evL E (evF E lf n) l tm (S.raise _) with
  | none => rw [he] at h3; simp at h3
  | some r =>
    obtain ⟨ta, Sa⟩ := r
    rw [he] at h3
    simp only [runK, Option.some.injEq, Prod.mk.injEq, true_and] at h3
    obtain ⟨rfl, rfl⟩ := h3
    have := draw_run h he ho
    simp only [runK, evP, this]
    exact h2 lf n (by omega) (by omega)
noncomputable def PC.draws : PC → List (Array Oper)
  | .draw ops => [ops]
  | .seq a b => a.draws ++ b.draws
  | .cond _ a b => a.draws ++ b.draws
  | .block _ a => a.draws
  | .loop a => a.draws
  | _ => []
end
end Go.Abs
end

section
set_option linter.unusedSimpArgs false
set_option linter.unusedVariables false
namespace Go.Abs
noncomputable def objId : AV → Option Nat
  | .ptr l _ => some l
  | .osl l _ _ _ _ => some l
  | .mp l => some l
  | _ => none
section
variable {E : Env} {call : CallFn} {nt : Nat}
theorem loads_id {tm : PM AV} {o : Oper} {l : Nat} (h : loadsFrom E tm o = some l) : ∃ a, opdOf o.op = some a ∧ objId (E.ev tm a) = some l := by
  obtain ⟨dst, op, ty, pos, after, guard⟩ := o
  cases op with
  | load t a =>
    refine ⟨a, rfl, ?_⟩
    simp only [loadsFrom] at h
    split at h
    · rename_i e; rw [e]; exact h
    · cases h
  | convert t u a =>
    refine ⟨a, rfl, ?_⟩
    simp only [loadsFrom] at h
    split at h
    · rename_i e; rw [e]; exact h
    · rename_i e; rw [e]; exact h
    · cases h
  | slice t a lo hi mx =>
    refine ⟨a, rfl, ?_⟩
    cases mx with
    | some m => simp only [loadsFrom] at h; cases h
    | none =>
      simp only [loadsFrom] at h
      split at h
      · rename_i e; rw [e]; exact h
      · cases h
  | lookup t a i ok =>
    refine ⟨a, rfl, ?_⟩
    simp only [loadsFrom] at h
    split at h
    · rename_i e; rw [e]; exact h
    · cases h
  | call c =>
    obtain ⟨callee, args, ats⟩ := c
    cases callee with
    | builtin b =>
      cases b <;> simp only [loadsFrom] at h <;> try cases h
      split at h
      · rename_i l' e
        cases ha : args.toList with
        | nil => rw [ha] at e; cases e
        | cons a r =>
          rw [ha] at e
          simp only [List.map_cons, List.cons.injEq] at e
          refine ⟨a, by simp only [opdOf, ha]; rfl, ?_⟩
          rw [e.1]; exact h
      · cases h
    | _ => simp only [loadsFrom] at h; cases h
  | _ => simp only [loadsFrom] at h; cases h

theorem draw_of_seq3 (hc : CallEvo call) {ops : Array Oper} {m : PM Nat} {b0 : Nat} (hmk : ops.toList.all (fun o => !isMk E o) = true) : ∀ (l : List Oper) (i : Nat) (tm : PM AV) (S : St) (tm' : PM AV) (S' : St), ops.toList.drop i = l → evSeq E call nt ops l tm S = some (tm', S') →
    ∃ hist ls, evDrawGo E call nt ops m b0 i l tm S = some (tm', S', hist, ls) ∧ (∀ h ∈ hist, ∃ o, ops[h.1]? = some o ∧ loudOp E o.op = true ∧ Evo S h.2.1 ∧ Evo h.2.1 h.2.2 ∧ Evo h.2.2 S') ∧
      (∀ p ∈ ls, ∃ o, ops[p.1]? = some o ∧ mayLoad o.op = true ∧ ∃ a, opdOf o.op = some a ∧ (notDst a (ops.toList.drop p.1) = true → objId (E.ev tm' a) = some p.2.1))
  | [], i, tm, S, tm', S', _, h => by
    simp only [evSeq, Option.some.injEq, Prod.mk.injEq] at h
    obtain ⟨rfl, rfl⟩ := h
    exact ⟨[], [], rfl, by simp, by simp⟩
  | o :: l, i, tm, S, tm', S', hd, h => by
    have hwhole := h
    have hko : ops[i]? = some o := by
      have h0 : (ops.toList.drop i)[0]? = some o := by rw [hd]; rfl
      rw [List.getElem?_drop] at h0
      simpa using h0
    have hrest : ops.toList.drop (i + 1) = l := by rw [← List.drop_drop, hd]; rfl
    have hmo : isMk E o = false := by
      have := List.all_eq_true.1 hmk o (by simpa using Array.mem_of_getElem? hko)
      simpa using this
    have hm0 := fun k => mkAt_off hmk k
    simp only [evSeq] at h
    simp only [evDrawGo]
    split at h
    · simp at h
    · split at h
      · rename_i tm1 hp
        exact draw_of_seq3 hc hmk l (i + 1) _ _ _ _ hrest h
      · simp at h
    · simp only [evOp, hmo, cond_false] at h ⊢
      split at h
      · simp at h
      · rename_i v S1 hev
        split at h
        · rename_i tm1 hp
          have hev1 : Evo S S1 := plain_evo hc o hmo hev
          have hev2 : Evo S1 S' := seq_evo hc _ _ _ _ _ h
          obtain ⟨hist, ls, hgo, h1, h2⟩ := draw_of_seq3 hc hmk l (i + 1) _ _ _ _ hrest h
          have h1' : ∀ h ∈ hist, ∃ o, ops[h.1]? = some o ∧ loudOp E o.op = true ∧ Evo S h.2.1 ∧ Evo h.2.1 h.2.2 ∧ Evo h.2.2 S' := fun x hx => by
            obtain ⟨o2, a1, a2, a3, a4⟩ := h1 x hx
            exact ⟨o2, a1, a2, hev1.trans a3, a4⟩
          cases hq : loudOp E o.op with
          | true =>
            have e1 : S.masked (mkAt E ops) m b0 i = S := by
              unfold St.masked; rw [maskF_off hm0]
            have e2 : S1.unmasked S (mkAt E ops) m b0 i = S1 := by
              unfold St.unmasked; rw [unmaskF_off hm0]
            simp only [cond_true, e1, hev, hp, e2]
            rw [hgo]
            refine ⟨_, _, rfl, fun x hx => ?_, h2⟩
            rcases List.mem_cons.1 hx with rfl | hx
            · exact ⟨o, hko, hq, Evo.refl _, hev1, hev2⟩
            · exact h1' x hx
          | false =>
            simp only [cond_false, hev, hp]
            rw [hgo]
            refine ⟨_, _, rfl, h1', fun x hx => ?_⟩
            cases hld : loadsFrom E tm o with
            | none => rw [hld] at hx; exact h2 x hx
            | some b =>
              rw [hld] at hx
              rcases List.mem_cons.1 hx with rfl | hx
              · obtain ⟨a, ha, hob⟩ := loads_id hld
                refine ⟨o, hko, ?_, a, ha, fun hn => ?_⟩
                · cases hml : mayLoad o.op with
                  | true => rfl
                  | false => rw [plain_no_load hml] at hld; simp at hld
                · simp only [hd] at hn
                  rw [seq_keep _ _ _ _ _ hwhole hn]
                  exact hob
              · exact h2 x hx
        · simp at h

/-- Is what is loaded from there the same ahead and behind? -/
noncomputable def safeA (S S' : St) (x : AV) : Bool := match objId x with
  | none => true
  | some l => Nat.blt l S.no && Nat.beq (S.ver l) (S'.ver l)
noncomputable def safeAll (E : Env) (S S' : St) (tm : PM AV) (as : List Operand) : Bool := as.all fun a => safeA S S' (E.ev tm a)
theorem safe_nil (S S' : St) (tm : PM AV) : safeAll E S S' tm [] = true := rfl
theorem safe_cons (S S' : St) (tm : PM AV) (a : Operand) (r : List Operand) : safeAll E S S' tm (a :: r) = (safeA S S' (E.ev tm a) && safeAll E S S' tm r) := by simp [safeAll]
theorem safe_eptr (S S' : St) (cs : List AV) (o : Nat) : safeA S S' (.eptr cs o) = true := rfl
theorem safe_vec (S S' : St) (id sz : Nat) (xs : List AV) : safeA S S' (.vec id sz xs) = true := rfl
theorem safe_sc (S S' : St) (v : Value) : safeA S S' (.sc v) = true := rfl
theorem safe_passed (S S' : St) : safeA S S' passed = true := rfl
theorem safe_agg (S S' : St) (cs : List AV) : safeA S S' (.agg cs) = true := rfl
theorem safe_of {S S' : St} {x : AV} {sz : Nat} {xs : List AV} (h : IsV sz x xs) : safeA S S' x = true := by
  rcases h with ⟨rfl, _⟩ | ⟨id, rfl⟩ <;> rfl
theorem safe_grow {S S' : St} {y : AV} {l : Nat} (hl : l < S.no) (g : Grow S S' y) (off : Nat) : safeA S S' (.ptr l off) = true := by
  have h1 : Nat.blt l S.no = true := Nat.ble_eq_true_of_le hl
  simp only [safeA, objId, h1, g.ver l hl, Nat.beq_refl, Bool.and_self]
theorem safe_map {S S' : St} {y : AV} {l : Nat} (hl : l < S.no) (g : Grow S S' y) : safeA S S' (.mp l) = true := safe_grow hl g 0

theorem draw_run2 (hc : CallEvo call) {ops : Array Oper} {n : Nat} {l : List POp} {as : List Operand} (h : DrawIs E nt ops n l as) {tm : PM AV} {S : St} {tm' : PM AV} {S' : St} (hr : evL E call l tm (S.raise n) = some (tm', S')) (ho : safeAll E S S' tm' as = true) : evDraw E call nt ops tm S = some (tm', S') := by
  have hs := seq_of_evL _ _ _ _ _ h.pops hr
  rw [← h.size] at hs
  obtain ⟨hist, ls, hgo, k1, k2⟩ := draw_of_seq3 hc (m := masks 0 ops.toList .leaf) (b0 := S.no) h.nomk ops.toList 0 tm _ tm' S' rfl hs
  have hl : ls.all (loadOk E ops (masks 0 ops.toList .leaf) S.no ops.size hist) = true := by
    refine List.all_eq_true.2 fun p hp => ?_
    obtain ⟨y, hy, hy2, a, ha, hna⟩ := k2 p hp
    have hin := freeLoads_at _ _ _ h.loads p.1 y (by simpa using hy) hy2
    rw [Nat.zero_add] at hin
    rcases hin with hin | ⟨a2, ha2, hmem, hnd⟩
    · simp only [loadOk, mkAt_off h.nomk, Bool.not_false, Bool.or_true, Bool.true_or, Bool.and_true]
      refine List.all_eq_true.2 fun x hx => ?_
      obtain ⟨o, ho, ho2, _⟩ := k1 x hx
      have := loadsIn_at _ _ hin x.1 o (by simpa using ho) ho2
      rw [Nat.zero_add] at this
      rcases this with h | h <;> simp [h]
    · rw [ha] at ha2
      simp only [Option.some.injEq] at ha2
      subst ha2
      have h1 := hna hnd
      have h2 := List.all_eq_true.1 ho a hmem
      simp only [safeA, h1, Bool.and_eq_true] at h2
      have h3 : p.2.1 < S.no := Nat.le_of_ble_eq_true h2.1
      have h4 := Nat.eq_of_beq_eq_true h2.2
      simp only [loadOk, h2.1, Bool.true_or, Bool.and_true]
      refine List.all_eq_true.2 fun x hx => ?_
      obtain ⟨o, _, _, e1, e2, e3⟩ := k1 x hx
      have q1 : (S.raise ops.size).no = S.no + ops.size := rfl
      have q2 := e1.no
      have q3 := e2.no
      have v1 : S.ver p.2.1 ≤ x.2.1.ver p.2.1 := e1.ver p.2.1 (by omega)
      have v2 := e2.ver p.2.1 (by omega)
      have v3 := e3.ver p.2.1 (by omega)
      have b1 : Nat.blt p.2.1 x.2.1.no = true := Nat.ble_eq_true_of_le (by omega)
      have b2 : Nat.beq (x.2.1.ver p.2.1) (x.2.2.ver p.2.1) = true := by
        have : x.2.1.ver p.2.1 = x.2.2.ver p.2.1 := by omega
        rw [this, Nat.beq_refl]
      simp [b1, b2]
  have e : evDraw E call nt ops tm S = (bif allPairs E ops (masks 0 ops.toList .leaf) 0 ops.toList then
    match evDrawGo E call nt ops (masks 0 ops.toList .leaf) S.no 0 ops.toList tm (S.raise ops.size) with
    | some (tm', S', hist, ls) => bif ls.all (loadOk E ops (masks 0 ops.toList .leaf) S.no ops.size hist) then some (tm', S') else none
    | none => none
  else none) := rfl
  rw [e, h.pairs, hgo]
  simp only [cond_true, hl]
theorem e_draw2 {k : List KI} {Q : PostA} {tm : PM AV} {S : St} {ops : Array Oper} {n : Nat} {l : List POp} {as : List Operand} (hX : EvoX E) (h : DrawIs E nt ops n l as)
    (hE : EndsA E nt [.c (.reg l)] .nrm tm (S.raise n) fun o tm' S' => o = .nrm ∧ safeAll E S S' tm' as = true ∧ EndsA E nt k .nrm tm' S' Q) : EndsA E nt (.c (.draw ops) :: k) .nrm tm S Q := by
  obtain ⟨N, o', tm1, S1, h1, rfl, ho, N2, o2, tm2, S2, h2, hq⟩ := hE
  refine ⟨max N N2, o2, tm2, S2, fun lf n hl hn => ?_, hq⟩
  have h3 := h1 lf n (by omega) (by omega)
  simp only [runK, evP] at h3
  cases he : evL E (evF E lf n) l tm (S.raise _) with
  | none => rw [he] at h3; simp at h3
  | some r =>
    obtain ⟨ta, Sa⟩ := r
    rw [he] at h3
    simp only [runK, Option.some.injEq, Prod.mk.injEq, true_and] at h3
    obtain ⟨rfl, rfl⟩ := h3
    have hc : CallEvo (evF E lf n) := evF_evo hX.evo lf n
    have := draw_run2 hc h he ho
    simp only [runK, evP, this]
    exact h2 lf n (by omega) (by omega)
end
end Go.Abs
end

section
set_option linter.unusedSimpArgs false
set_option linter.unusedVariables false
namespace Go.Abs
section
variable {E : Env} {call : CallFn} {nt : Nat}
/-- What has been made is in each loud operation's sight. -/
noncomputable def seenIn (E : Env) (ops : Array Oper) (m : PM Nat) (j : Nat) : Nat → Bool
  | 0 => true
  | k + 1 => (!mkAt E ops k || bit m j k) && seenIn E ops m j k
noncomputable def seenAll (E : Env) (ops : Array Oper) (m : PM Nat) : Nat → List Oper → Bool
  | _, [] => true
  | j, o :: r => (!loudOp E o.op || seenIn E ops m j j) && seenAll E ops m (j + 1) r
theorem seenIn_mask {ops : Array Oper} {m : PM Nat} {b0 j : Nat} {S : St} : ∀ n, seenIn E ops m j n = true → maskF (mkAt E ops) m b0 j S n = S.objs
  | 0, _ => rfl
  | n + 1, h => by
    simp only [seenIn, Bool.and_eq_true] at h
    have h1 : hid (mkAt E ops) m j n = false := by
      unfold hid
      revert h
      cases mkAt E ops n <;> cases bit m j n <;> simp
    simp [maskF, h1, seenIn_mask n h.2]
theorem seenIn_unmask {ops : Array Oper} {m : PM Nat} {b0 j : Nat} {S : St} {os : PM AObj} : ∀ n, seenIn E ops m j n = true → unmaskF (mkAt E ops) m b0 j S os n = os
  | 0, _ => rfl
  | n + 1, h => by
    simp only [seenIn, Bool.and_eq_true] at h
    have h1 : hid (mkAt E ops) m j n = false := by
      unfold hid
      revert h
      cases mkAt E ops n <;> cases bit m j n <;> simp
    simp [unmaskF, h1, seenIn_unmask n h.2]
theorem seenAll_at {ops : Array Oper} {m : PM Nat} : ∀ (l : List Oper) (i : Nat), seenAll E ops m i l = true → ∀ k o, l[k]? = some o → loudOp E o.op = true → seenIn E ops m (i + k) (i + k) = true := by
  intro l
  induction l with
  | nil => intro i _ k o h; simp at h
  | cons x r ih =>
    intro i h k o hk hl
    simp only [seenAll, Bool.and_eq_true, Bool.or_eq_true] at h
    cases k with
    | zero =>
      simp at hk; subst hk
      rcases h.1 with h' | h'
      · rw [hl] at h'; cases h'
      · exact h'
    | succ k =>
      have := ih (i + 1) h.2 k o (by simpa using hk) hl
      rwa [show i + 1 + k = i + (k + 1) by omega] at this

noncomputable def evSeqM (E : Env) (call : CallFn) (nt : Nat) (ops : Array Oper) (b0 : Nat) : Nat → List Oper → PM AV → St → Option (PM AV × St)
  | _, [], tm, S => some (tm, S)
  | i, o :: rest, tm, S => match wantedA ops tm o with
    | none => none
    | some false => match putA nt o.dst passed tm with
      | some tm' => evSeqM E call nt ops b0 (i + 1) rest tm' S
      | none => none
    | some true =>
      bif isMk E o then
        match mkOp E tm o with
        | none => none
        | some k => match putA nt o.dst (k.val (b0 + i)) tm with
          | some tm' => evSeqM E call nt ops b0 (i + 1) rest tm' (S.bear (b0 + i) k)
          | none => none
      else match evPlain E call tm o S with
        | none => none
        | some (v, S') => match putA nt o.dst v tm with
          | some tm' => evSeqM E call nt ops b0 (i + 1) rest tm' S'
          | none => none
theorem seqM_keep {ops : Array Oper} {b0 : Nat} {a : Operand} : ∀ (l : List Oper) (i : Nat) (tm : PM AV) (S : St) (tm' : PM AV) (S' : St), evSeqM E call nt ops b0 i l tm S = some (tm', S') → notDst a l = true → E.ev tm' a = E.ev tm a
  | [], i, tm, S, tm', S', h, _ => by
    simp only [evSeqM, Option.some.injEq, Prod.mk.injEq] at h
    rw [h.1]
  | o :: l, i, tm, S, tm', S', h, hn => by
    simp only [notDst, Bool.and_eq_true] at hn
    simp only [evSeqM] at h
    split at h
    · simp at h
    · split at h
      · rename_i tm1 hp
        rw [seqM_keep l _ _ _ _ _ h hn.2, put_keep hp hn.1]
      · simp at h
    · cases hm : isMk E o with
      | true =>
        rw [hm] at h
        simp only [cond_true] at h
        split at h
        · simp at h
        · split at h
          · rename_i tm1 hp
            rw [seqM_keep l _ _ _ _ _ h hn.2, put_keep hp hn.1]
          · simp at h
      | false =>
        rw [hm] at h
        simp only [cond_false] at h
        split at h
        · simp at h
        · split at h
          · rename_i tm1 hp
            rw [seqM_keep l _ _ _ _ _ h hn.2, put_keep hp hn.1]
          · simp at h
theorem seqM_evo (hc : CallEvo call) {ops : Array Oper} {b0 : Nat} : ∀ (l : List Oper) (i : Nat) (tm : PM AV) (S : St) (tm' : PM AV) (S' : St), b0 ≤ S.no → evSeqM E call nt ops b0 i l tm S = some (tm', S') → EvoTo b0 S S'
  | [], i, tm, S, tm', S', hb, h => by
    simp only [evSeqM, Option.some.injEq, Prod.mk.injEq] at h
    rw [h.2]; exact EvoTo.refl _ _
  | o :: l, i, tm, S, tm', S', hb, h => by
    simp only [evSeqM] at h
    split at h
    · simp at h
    · split at h
      · exact seqM_evo hc l _ _ _ _ _ hb h
      · simp at h
    · cases hm : isMk E o with
      | true =>
        rw [hm] at h
        simp only [cond_true] at h
        split at h
        · simp at h
        · split at h
          · exact (EvoTo.bear b0 (b0 + i) (by omega) _ _).trans (seqM_evo hc l _ _ _ _ _ hb h)
          · simp at h
      | false =>
        rw [hm] at h
        simp only [cond_false] at h
        split at h
        · simp at h
        · rename_i hev
          split at h
          · have he := plain_evo hc o hm hev
            exact (he.to hb).trans (seqM_evo hc l _ _ _ _ _ (Nat.le_trans hb he.no) h)
          · simp at h
theorem draw_of_seqM (hc : CallEvo call) {ops : Array Oper} {m : PM Nat} {b0 : Nat} (hseen : seenAll E ops m 0 ops.toList = true) : ∀ (l : List Oper) (i : Nat) (tm : PM AV) (S : St) (tm' : PM AV) (S' : St), b0 ≤ S.no → ops.toList.drop i = l → evSeqM E call nt ops b0 i l tm S = some (tm', S') →
    ∃ hist ls, evDrawGo E call nt ops m b0 i l tm S = some (tm', S', hist, ls) ∧ (∀ h ∈ hist, ∃ o, ops[h.1]? = some o ∧ loudOp E o.op = true ∧ S.no ≤ h.2.1.no ∧ (∀ x, x < b0 → S.ver x ≤ h.2.1.ver x ∧ h.2.1.ver x ≤ h.2.2.ver x ∧ h.2.2.ver x ≤ S'.ver x)) ∧
      (∀ p ∈ ls, ∃ o, ops[p.1]? = some o ∧ mayLoad o.op = true ∧ ∃ a, opdOf o.op = some a ∧ (notDst a (ops.toList.drop p.1) = true → objId (E.ev tm' a) = some p.2.1))
  | [], i, tm, S, tm', S', _, _, h => by
    simp only [evSeqM, Option.some.injEq, Prod.mk.injEq] at h
    obtain ⟨rfl, rfl⟩ := h
    exact ⟨[], [], rfl, by simp, by simp⟩
  | o :: l, i, tm, S, tm', S', hb, hd, h => by
    have hwhole := h
    have hko : ops[i]? = some o := by
      have h0 : (ops.toList.drop i)[0]? = some o := by rw [hd]; rfl
      rw [List.getElem?_drop] at h0
      simpa using h0
    have hrest : ops.toList.drop (i + 1) = l := by rw [← List.drop_drop, hd]; rfl
    simp only [evSeqM] at h
    simp only [evDrawGo]
    rcases hw : wantedA ops tm o with _ | _ | _
    · simp only [hw] at h; cases h
    · simp only [hw] at h ⊢
      split at h
      · rename_i tm1 hp
        simp only [hp]
        exact draw_of_seqM hc hseen l (i + 1) _ _ _ _ hb hrest h
      · simp at h
    · simp only [hw] at h ⊢
      cases hmo : isMk E o with
      | true =>
        rw [hmo] at h
        simp only [cond_true] at h ⊢
        split at h
        · simp at h
        · rename_i k hk
          split at h
          · rename_i tm1 hp
            simp only [hk, hp]
            obtain ⟨hist, ls, hgo, h1, h2⟩ := draw_of_seqM hc hseen l (i + 1) _ _ _ _ (show b0 ≤ (S.bear (b0 + i) k).no from hb) hrest h
            refine ⟨hist, ls, hgo, fun x hx => ?_, h2⟩
            obtain ⟨o2, a1, a2, a3, a4⟩ := h1 x hx
            exact ⟨o2, a1, a2, a3, a4⟩
          · simp at h
      | false =>
        rw [hmo] at h
        simp only [cond_false] at h ⊢
        split at h
        · simp at h
        · rename_i v S1 hev
          split at h
          · rename_i tm1 hp
            have hev1 : Evo S S1 := plain_evo hc o hmo hev
            have hev2 : EvoTo b0 S1 S' := seqM_evo hc l _ _ _ _ _ (Nat.le_trans hb hev1.no) h
            obtain ⟨hist, ls, hgo, h1, h2⟩ := draw_of_seqM hc hseen l (i + 1) _ _ _ _ (Nat.le_trans hb hev1.no) hrest h
            have h1' : ∀ h ∈ hist, ∃ o, ops[h.1]? = some o ∧ loudOp E o.op = true ∧ S.no ≤ h.2.1.no ∧ (∀ x, x < b0 → S.ver x ≤ h.2.1.ver x ∧ h.2.1.ver x ≤ h.2.2.ver x ∧ h.2.2.ver x ≤ S'.ver x) := fun x hx => by
              obtain ⟨o2, a1, a2, a3, a4⟩ := h1 x hx
              exact ⟨o2, a1, a2, Nat.le_trans hev1.no a3, fun y hy => ⟨Nat.le_trans (hev1.ver y (by omega)) (a4 y hy).1, (a4 y hy).2⟩⟩
            cases hq : loudOp E o.op with
            | true =>
              have hs := seenAll_at _ _ hseen i o (by simpa using hko) hq
              rw [Nat.zero_add] at hs
              have e1 : S.masked (mkAt E ops) m b0 i = S := by
                unfold St.masked; rw [seenIn_mask i hs]
              have e2 : S1.unmasked S (mkAt E ops) m b0 i = S1 := by
                unfold St.unmasked; rw [seenIn_unmask i hs]
              simp only [cond_true, e1, hev, hp, e2]
              rw [hgo]
              refine ⟨_, _, rfl, fun x hx => ?_, h2⟩
              rcases List.mem_cons.1 hx with rfl | hx
              · exact ⟨o, hko, hq, Nat.le_refl _, fun y hy => ⟨Nat.le_refl _, hev1.ver y (by omega), hev2.ver y hy⟩⟩
              · exact h1' x hx
            | false =>
              simp only [cond_false, hev, hp]
              rw [hgo]
              refine ⟨_, _, rfl, h1', fun x hx => ?_⟩
              cases hld : loadsFrom E tm o with
              | none => rw [hld] at hx; exact h2 x hx
              | some b =>
                rw [hld] at hx
                rcases List.mem_cons.1 hx with rfl | hx
                · obtain ⟨a, ha, hob⟩ := loads_id hld
                  refine ⟨o, hko, ?_, a, ha, fun hn => ?_⟩
                  · cases hml : mayLoad o.op with
                    | true => rfl
                    | false => rw [plain_no_load hml] at hld; simp at hld
                  · simp only [hd] at hn
                    rw [seqM_keep _ _ _ _ _ _ hwhole hn]
                    exact hob
                · exact h2 x hx
          · simp at h
/-- Without anything made it is the plain run. -/
theorem seqM_plain {ops : Array Oper} {b0 : Nat} : ∀ (l r : List Oper) (i : Nat) (tm : PM AV) (S : St) (tm1 : PM AV) (S1 : St), l.all (fun o => !isMk E o) = true → evSeq E call nt ops l tm S = some (tm1, S1) → evSeqM E call nt ops b0 i (l ++ r) tm S = evSeqM E call nt ops b0 (i + l.length) r tm1 S1
  | [], r, i, tm, S, tm1, S1, _, h => by
    simp only [evSeq, Option.some.injEq, Prod.mk.injEq] at h
    rw [h.1, h.2]; rfl
  | o :: l, r, i, tm, S, tm1, S1, hm, h => by
    simp only [List.all_cons, Bool.and_eq_true] at hm
    have hmo : isMk E o = false := by simpa using hm.1
    simp only [evSeq] at h
    simp only [List.cons_append, evSeqM, List.length_cons]
    rw [show i + (l.length + 1) = i + 1 + l.length by omega]
    rcases hw : wantedA ops tm o with _ | _ | _
    · simp only [hw] at h; cases h
    · simp only [hw] at h ⊢
      split at h
      · rename_i tm2 hp
        simp only [hp]
        exact seqM_plain l r (i + 1) _ _ _ _ hm.2 h
      · simp at h
    · simp only [hw, evOp, hmo, cond_false] at h ⊢
      split at h
      · simp at h
      · rename_i v S2 hev
        split at h
        · rename_i tm2 hp
          simp only [hev, hp]
          exact seqM_plain l r (i + 1) _ _ _ _ hm.2 h
        · simp at h

/-- What is loaded from in the region: the operands; none: one is assigned anew. -/
noncomputable def allLoads : List Oper → Option (List Operand)
  | [] => some []
  | o :: r => match allLoads r with
    | none => none
    | some l => bif !mayLoad o.op then some l else match opdOf o.op with
      | some a => bif notDst a (o :: r) then some (a :: l) else none
      | none => none
theorem allLoads_at : ∀ (l : List Oper) (as : List Operand), allLoads l = some as → ∀ k y, l[k]? = some y → mayLoad y.op = true → ∃ a, opdOf y.op = some a ∧ a ∈ as ∧ notDst a (l.drop k) = true := by
  intro l
  induction l with
  | nil => intro as _ k y hy; simp at hy
  | cons y r ih =>
    intro as h k y' hy hl
    simp only [allLoads] at h
    split at h
    · cases h
    · rename_i as' h'
      have sub : ∀ a, a ∈ as' → a ∈ as := by
        intro a ha
        cases hb : mayLoad y.op with
        | false => rw [hb] at h; simp only [Bool.not_false, cond_true, Option.some.injEq] at h; rw [← h]; exact ha
        | true =>
          rw [hb] at h
          simp only [Bool.not_true, cond_false] at h
          split at h
          · rename_i a2 _
            cases hn : notDst a2 (y :: r) with
            | false => rw [hn] at h; cases h
            | true => rw [hn] at h; simp only [cond_true, Option.some.injEq] at h; rw [← h]; exact List.mem_cons_of_mem _ ha
          · cases h
      cases k with
      | zero =>
        simp only [List.getElem?_cons_zero, Option.some.injEq] at hy
        subst hy
        rw [hl] at h
        simp only [Bool.not_true, cond_false] at h
        split at h
        · rename_i a2 ha2
          cases hn : notDst a2 (y :: r) with
          | false => rw [hn] at h; cases h
          | true =>
            rw [hn] at h
            simp only [cond_true, Option.some.injEq] at h
            exact ⟨a2, ha2, by rw [← h]; exact List.mem_cons_self .., hn⟩
        · cases h
      | succ k =>
        obtain ⟨a, e1, e2, e3⟩ := ih as' h' k y' (by simpa using hy) hl
        exact ⟨a, e1, sub a e2, e3⟩
/-- What is asked of a region of open order in which one thing is made. -/
structure DrawMk (E : Env) (nt : Nat) (ops : Array Oper) (n : Nat) (l1 : List POp) (i : Nat) (d : Option Tmp) (op : Op) (l2 : List POp) (as : List Operand) : Prop where
  size : ops.size = n
  parts : ∃ p o r, ops.toList = p ++ o :: r ∧ p.length = i ∧ o.dst = d ∧ o.op = op ∧ o.guard = none ∧ dstOk nt d = true ∧ isMk E o = true ∧ popsOf nt ops p = some l1 ∧ popsOf nt ops r = some l2 ∧ p.all (fun o => !isMk E o) = true ∧ r.all (fun o => !isMk E o) = true
  pairs : allPairs E ops (masks 0 ops.toList .leaf) 0 ops.toList = true
  seen : seenAll E ops (masks 0 ops.toList .leaf) 0 ops.toList = true
  loads : allLoads ops.toList = some as
noncomputable def drawMkB (E : Env) (nt : Nat) (ops : Array Oper) (n i : Nat) (d : Option Tmp) : Bool :=
  Nat.beq ops.size n && (match ops[i]? with
    | some o => (match o.dst, d with | some a, some b => Nat.beq a b | none, none => true | _, _ => false) && o.guard.isNone && dstOk nt d && isMk E o
    | none => false) && (ops.toList.take i).all (fun o => !isMk E o) && (ops.toList.drop (i + 1)).all (fun o => !isMk E o) && allPairs E ops (masks 0 ops.toList .leaf) 0 ops.toList && seenAll E ops (masks 0 ops.toList .leaf) 0 ops.toList
theorem drawMk_of {ops : Array Oper} {n i : Nat} {d : Option Tmp} {op : Op} {l1 l2 : List POp} {as : List Operand} (h : drawMkB E nt ops n i d = true) (ho : (ops[i]?).map (·.op) = some op) (h1 : popsOf nt ops (ops.toList.take i) = some l1) (h2 : popsOf nt ops (ops.toList.drop (i + 1)) = some l2)
    (hl : allLoads ops.toList = some as) : DrawMk E nt ops n l1 i d op l2 as := by
  simp only [drawMkB, Bool.and_eq_true] at h
  obtain ⟨⟨⟨⟨⟨a1, a2⟩, a3⟩, a4⟩, a5⟩, a6⟩ := h
  cases ho' : ops[i]? with
  | none => rw [ho'] at ho; cases ho
  | some o =>
    rw [ho'] at ho a2
    simp only [Option.map_some, Option.some.injEq] at ho
    simp only [Bool.and_eq_true] at a2
    obtain ⟨⟨⟨b1, b2⟩, b3⟩, b4⟩ := a2
    have hi : i < ops.toList.length := by simpa using (Array.getElem?_eq_some_iff.1 ho').1
    have hoi : ops.toList[i] = o := by simpa using (Array.getElem?_eq_some_iff.1 ho').2
    refine ⟨Nat.eq_of_beq_eq_true a1, ⟨_, o, _, ?_, by rw [List.length_take]; omega, ?_, ho, by simpa using b2, b3, b4, h1, h2, a3, a4⟩, a5, a6, hl⟩
    · rw [← hoi, ← List.drop_eq_getElem_cons hi, List.take_append_drop]
    · revert b1
      cases o.dst <;> cases d <;> simp
theorem e_drawMk {k : List KI} {Q : PostA} {tm : PM AV} {S : St} {ops : Array Oper} {n i : Nat} {d : Option Tmp} {op : Op} {l1 l2 : List POp} {as : List Operand} (hX : EvoX E) (h : DrawMk E nt ops n l1 i d op l2 as)
    (hE : EndsA E nt [.c (.reg l1)] .nrm tm (S.raise n) fun o tm1 S1 => o = .nrm ∧ ∃ mk, mkOp E tm1 (opOf d op) = some mk ∧ EndsA E nt [.c (.reg l2)] .nrm (setD tm1 d (mk.val (S.no + i))) (S1.bear (S.no + i) mk) fun o tm' S' => o = .nrm ∧ safeAll E S S' tm' as = true ∧ EndsA E nt k .nrm tm' S' Q) :
    EndsA E nt (.c (.draw ops) :: k) .nrm tm S Q := by
  obtain ⟨N, o', tm1, S1, h1, rfl, mk, hmk, N2, o2, tm2, S2, h2, rfl, ho, N3, o3, tm3, S3, h3, hq⟩ := hE
  refine ⟨max N (max N2 N3), o3, tm3, S3, fun lf n' hl hn => ?_, hq⟩
  have hc : CallEvo (evF E lf n') := evF_evo hX.evo lf n'
  have g1 := h1 lf n' (by omega) (by omega)
  have g2 := h2 lf n' (by omega) (by omega)
  simp only [runK, evP] at g1 g2
  have step : ∀ {l : List POp} {ta tb : PM AV} {Sa Sb : St}, (match (match evL E (evF E lf n') l ta Sa with | some (tm', S') => some (Out.nrm, tm', S') | none => none) with | some (o, tm', S') => some (o, tm', S') | none => none) = some (Out.nrm, tb, Sb) → evL E (evF E lf n') l ta Sa = some (tb, Sb) := by
    intro l ta tb Sa Sb hh
    cases he : evL E (evF E lf n') l ta Sa with
    | none => rw [he] at hh; simp at hh
    | some r =>
      rw [he] at hh
      simp only [Option.some.injEq, Prod.mk.injEq, true_and] at hh
      rw [← hh.1, ← hh.2]
  have g1' := step g1
  have g2' := step g2
  obtain ⟨p, o, r, hp1, hp2, hp3, hp4, hp5, hp6, hp7, hp8, hp9, hp10, hp11⟩ := h.parts
  have s1 := seq_of_evL _ _ _ _ _ hp8 g1'
  have s2 := seq_of_evL _ _ _ _ _ hp9 g2'
  have hmk' : mkOp E tm1 o = some mk := by
    rw [← hmk]
    obtain ⟨dst, op', ty, pos, after, guard⟩ := o
    simp only at hp3 hp4
    subst hp3; subst hp4
    cases op' <;> rfl
  have hw : wantedA ops tm1 o = some true := by unfold wantedA; rw [hp5]
  have hsz := h.size
  have whole : evSeqM E (evF E lf n') nt ops S.no 0 ops.toList tm (S.raise ops.size) = some (tm2, S2) := by
    rw [hsz, hp1, seqM_plain p (o :: r) 0 _ _ _ _ hp10 s1, Nat.zero_add, hp2]
    simp only [evSeqM, hw, hp7, cond_true, hmk', hp3, putA_setD hp6]
    have := seqM_plain (b0 := S.no) r [] (i + 1) _ _ _ _ hp11 s2
    rw [List.append_nil] at this
    rw [this]
    rfl
  obtain ⟨hist, ls, hgo, k1, k2⟩ := draw_of_seqM hc (m := masks 0 ops.toList .leaf) h.seen ops.toList 0 tm _ tm2 S2 (Nat.le_add_right _ _) rfl whole
  have hl : ls.all (loadOk E ops (masks 0 ops.toList .leaf) S.no ops.size hist) = true := by
    refine List.all_eq_true.2 fun q hq => ?_
    obtain ⟨y, hy, hy2, a, ha, hna⟩ := k2 q hq
    obtain ⟨a2, ha2, hmem, hnd⟩ := allLoads_at _ _ h.loads q.1 y (by simpa using hy) hy2
    rw [ha] at ha2
    simp only [Option.some.injEq] at ha2
    subst ha2
    have h1 := hna hnd
    have h2 := List.all_eq_true.1 ho a hmem
    simp only [safeA, h1, Bool.and_eq_true] at h2
    have h3 : q.2.1 < S.no := Nat.le_of_ble_eq_true h2.1
    have h4 := Nat.eq_of_beq_eq_true h2.2
    simp only [loadOk, h2.1, Bool.true_or, Bool.and_true]
    refine List.all_eq_true.2 fun x hx => ?_
    obtain ⟨o, _, _, e1, e2⟩ := k1 x hx
    have q1 : (S.raise ops.size).no = S.no + ops.size := rfl
    obtain ⟨v1, v2, v3⟩ := e2 q.2.1 h3
    have v1' : S.ver q.2.1 ≤ x.2.1.ver q.2.1 := v1
    have b1 : Nat.blt q.2.1 x.2.1.no = true := Nat.ble_eq_true_of_le (by omega)
    have b2 : Nat.beq (x.2.1.ver q.2.1) (x.2.2.ver q.2.1) = true := by
      have : x.2.1.ver q.2.1 = x.2.2.ver q.2.1 := by omega
      rw [this, Nat.beq_refl]
    simp [b1, b2]
  have e : evDraw E (evF E lf n') nt ops tm S = (bif allPairs E ops (masks 0 ops.toList .leaf) 0 ops.toList then
    match evDrawGo E (evF E lf n') nt ops (masks 0 ops.toList .leaf) S.no 0 ops.toList tm (S.raise ops.size) with
    | some (tm', S', hist, ls) => bif ls.all (loadOk E ops (masks 0 ops.toList .leaf) S.no ops.size hist) then some (tm', S') else none
    | none => none
  else none) := rfl
  have hd : evDraw E (evF E lf n') nt ops tm S = some (tm2, S2) := by
    rw [e, h.pairs, hgo]
    simp only [cond_true, hl]
  simp only [runK, evP, hd]
  exact h3 lf n' (by omega) (by omega)
end
end Go.Abs
end

section
set_option linter.unusedSimpArgs false
set_option linter.unusedVariables false
namespace Go.Abs
section
variable {E : Env} {call : CallFn} {nt : Nat}
theorem drawGo_idx {ops : Array Oper} {m : PM Nat} {b0 : Nat} : ∀ (l : List Oper) (i : Nat) (tm : PM AV) (S : St) (tm' : PM AV) (S' : St) (hist : List (Nat × St × St)) (ls : List (Nat × Nat × Option (TypeId × Nat))), evDrawGo E call nt ops m b0 i l tm S = some (tm', S', hist, ls) →
    (∀ h ∈ hist, i ≤ h.1) ∧ (∀ p ∈ ls, i ≤ p.1)
  | [], i, tm, S, tm', S', hist, ls, h => by
    simp only [evDrawGo, Option.some.injEq, Prod.mk.injEq] at h
    obtain ⟨_, _, rfl, rfl⟩ := h
    simp
  | o :: l, i, tm, S, tm', S', hist, ls, h => by
    have up : ∀ {tm S}, evDrawGo E call nt ops m b0 (i + 1) l tm S = some (tm', S', hist, ls) → (∀ h ∈ hist, i ≤ h.1) ∧ (∀ p ∈ ls, i ≤ p.1) := fun h' => by
      have := drawGo_idx l (i + 1) _ _ _ _ _ _ h'
      exact ⟨fun x hx => by have := this.1 x hx; omega, fun x hx => by have := this.2 x hx; omega⟩
    simp only [evDrawGo] at h
    split at h
    · simp at h
    · split at h
      · exact up h
      · simp at h
    · cases hm : isMk E o with
      | true =>
        simp only [hm, cond_true] at h
        split at h
        · simp at h
        · split at h
          · exact up h
          · simp at h
      | false =>
        simp only [hm, cond_false] at h
        cases hq : loudOp E o.op with
        | true =>
          simp only [hq, cond_true] at h
          split at h
          · simp at h
          · split at h
            · split at h
              · rename_i hgo
                simp only [Option.some.injEq, Prod.mk.injEq] at h
                obtain ⟨rfl, rfl, rfl, rfl⟩ := h
                have := drawGo_idx l (i + 1) _ _ _ _ _ _ hgo
                refine ⟨fun x hx => ?_, fun x hx => by have := this.2 x hx; omega⟩
                rcases List.mem_cons.1 hx with rfl | hx
                · exact Nat.le_refl _
                · have := this.1 x hx; omega
              · simp at h
            · simp at h
        | false =>
          simp only [hq, cond_false] at h
          split at h
          · simp at h
          · split at h
            · split at h
              · rename_i hgo
                simp only [Option.some.injEq, Prod.mk.injEq] at h
                obtain ⟨rfl, rfl, rfl, rfl⟩ := h
                have := drawGo_idx l (i + 1) _ _ _ _ _ _ hgo
                refine ⟨fun x hx => by have := this.1 x hx; omega, fun x hx => ?_⟩
                cases hld : loadsFrom E tm o with
                | none => rw [hld] at hx; have := this.2 x hx; omega
                | some b =>
                  rw [hld] at hx
                  rcases List.mem_cons.1 hx with rfl | hx
                  · exact Nat.le_refl _
                  · have := this.2 x hx; omega
              · simp at h
            · simp at h
theorem draw_of_seqC (hc : CallEvo call) {ops : Array Oper} {m : PM Nat} {b0 : Nat} (hmk : ops.toList.all (fun o => !isMk E o) = true) : ∀ (p r : List Oper) (i : Nat) (tm : PM AV) (S : St) (tm1 : PM AV) (S1 : St) (tm2 : PM AV) (S2 : St), ops.toList.drop i = p ++ r → evSeq E call nt ops p tm S = some (tm1, S1) → evSeq E call nt ops r tm1 S1 = some (tm2, S2) →
    ∃ hist ls, evDrawGo E call nt ops m b0 i (p ++ r) tm S = some (tm2, S2, hist, ls) ∧
      (∀ h ∈ hist, ∃ o, ops[h.1]? = some o ∧ loudOp E o.op = true ∧ (i + p.length ≤ h.1 ∨ (Evo S h.2.1 ∧ Evo h.2.1 h.2.2 ∧ Evo h.2.2 S1))) ∧
      (∀ q ∈ ls, ∃ o, ops[q.1]? = some o ∧ mayLoad o.op = true ∧ (i + p.length ≤ q.1 ∨ (i ≤ q.1 ∧ ∃ a, opdOf o.op = some a ∧ (notDst a (p.drop (q.1 - i)) = true → objId (E.ev tm1 a) = some q.2.1))))
  | [], r, i, tm, S, tm1, S1, tm2, S2, hd, hp, hr => by
    simp only [evSeq, Option.some.injEq, Prod.mk.injEq] at hp
    obtain ⟨rfl, rfl⟩ := hp
    obtain ⟨hist, ls, hgo, h1, h2⟩ := draw_of_seq3 hc (m := m) (b0 := b0) hmk r i tm S tm2 S2 hd hr
    have hidx := drawGo_idx _ _ _ _ _ _ _ _ hgo
    refine ⟨hist, ls, hgo, fun x hx => ?_, fun x hx => ?_⟩
    · obtain ⟨o, a1, a2, _⟩ := h1 x hx
      exact ⟨o, a1, a2, .inl (hidx.1 x hx)⟩
    · obtain ⟨o, a1, a2, _⟩ := h2 x hx
      exact ⟨o, a1, a2, .inl (hidx.2 x hx)⟩
  | o :: l, r, i, tm, S, tm1, S1, tm2, S2, hd, hp, hr => by
    have hwhole := hp
    have hko : ops[i]? = some o := by
      have h0 : (ops.toList.drop i)[0]? = some o := by rw [hd]; rfl
      rw [List.getElem?_drop] at h0
      simpa using h0
    have hrest : ops.toList.drop (i + 1) = l ++ r := by rw [← List.drop_drop, hd]; rfl
    have hmo : isMk E o = false := by
      have := List.all_eq_true.1 hmk o (by simpa using Array.mem_of_getElem? hko)
      simpa using this
    have hm0 := fun k => mkAt_off hmk k
    have later : ∀ {x : Nat × Nat × Option (TypeId × Nat)}, (∃ o, ops[x.1]? = some o ∧ mayLoad o.op = true ∧ (i + 1 + l.length ≤ x.1 ∨ (i + 1 ≤ x.1 ∧ ∃ a, opdOf o.op = some a ∧ (notDst a (l.drop (x.1 - (i + 1))) = true → objId (E.ev tm1 a) = some x.2.1)))) →
        ∃ o', ops[x.1]? = some o' ∧ mayLoad o'.op = true ∧ (i + (o :: l).length ≤ x.1 ∨ (i ≤ x.1 ∧ ∃ a, opdOf o'.op = some a ∧ (notDst a ((o :: l).drop (x.1 - i)) = true → objId (E.ev tm1 a) = some x.2.1))) := by
      rintro x ⟨o2, a1, a2, a3 | ⟨a3, a, a4, a5⟩⟩
      · exact ⟨o2, a1, a2, .inl (by simp; omega)⟩
      · refine ⟨o2, a1, a2, .inr ⟨by omega, a, a4, fun hn => a5 ?_⟩⟩
        rwa [show x.1 - i = (x.1 - (i + 1)) + 1 by omega, List.drop_succ_cons] at hn
    simp only [evSeq] at hp
    simp only [List.cons_append, evDrawGo]
    rcases hw : wantedA ops tm o with _ | _ | _
    · simp only [hw] at hp; cases hp
    · simp only [hw] at hp ⊢
      split at hp
      · rename_i tm' hput
        try simp only [hput]
        obtain ⟨hist, ls, hgo, h1, h2⟩ := draw_of_seqC hc (m := m) (b0 := b0) hmk l r (i + 1) _ _ _ _ _ _ hrest hp hr
        refine ⟨hist, ls, hgo, fun x hx => ?_, fun x hx => later (h2 x hx)⟩
        obtain ⟨o2, a1, a2, a3 | a3⟩ := h1 x hx
        · exact ⟨o2, a1, a2, .inl (by simp; omega)⟩
        · exact ⟨o2, a1, a2, .inr a3⟩
      · simp at hp
    · simp only [hw, evOp, hmo, cond_false] at hp ⊢
      split at hp
      · simp at hp
      · rename_i v S' hev
        split at hp
        · rename_i tm' hput
          have hev1 : Evo S S' := plain_evo hc o hmo hev
          have hev2 : Evo S' S1 := seq_evo hc _ _ _ _ _ hp
          obtain ⟨hist, ls, hgo, h1, h2⟩ := draw_of_seqC hc (m := m) (b0 := b0) hmk l r (i + 1) _ _ _ _ _ _ hrest hp hr
          have h1' : ∀ h ∈ hist, ∃ o', ops[h.1]? = some o' ∧ loudOp E o'.op = true ∧ (i + (o :: l).length ≤ h.1 ∨ (Evo S h.2.1 ∧ Evo h.2.1 h.2.2 ∧ Evo h.2.2 S1)) := fun x hx => by
            obtain ⟨o2, a1, a2, a3 | ⟨a3, a4⟩⟩ := h1 x hx
            · exact ⟨o2, a1, a2, .inl (by simp; omega)⟩
            · exact ⟨o2, a1, a2, .inr ⟨hev1.trans a3, a4⟩⟩
          cases hq : loudOp E o.op with
          | true =>
            have e1 : S.masked (mkAt E ops) m b0 i = S := by
              unfold St.masked; rw [maskF_off hm0]
            have e2 : S'.unmasked S (mkAt E ops) m b0 i = S' := by
              unfold St.unmasked; rw [unmaskF_off hm0]
            simp only [cond_true, e1, hev, hput, e2, hgo]
            refine ⟨_, _, rfl, fun x hx => ?_, fun x hx => later (h2 x hx)⟩
            rcases List.mem_cons.1 hx with rfl | hx
            · exact ⟨o, hko, hq, .inr ⟨Evo.refl _, hev1, hev2⟩⟩
            · exact h1' x hx
          | false =>
            simp only [cond_false, hev, hput, hgo]
            refine ⟨_, _, rfl, h1', fun x hx => ?_⟩
            cases hld : loadsFrom E tm o with
            | none => rw [hld] at hx; exact later (h2 x hx)
            | some b =>
              rw [hld] at hx
              rcases List.mem_cons.1 hx with rfl | hx
              · obtain ⟨a, ha, hob⟩ := loads_id hld
                refine ⟨o, hko, ?_, .inr ⟨Nat.le_refl _, a, ha, fun hn => ?_⟩⟩
                · cases hml : mayLoad o.op with
                  | true => rfl
                  | false => rw [plain_no_load hml] at hld; simp at hld
                · simp only [Nat.sub_self, List.drop_zero] at hn
                  rw [seq_keep _ _ _ _ _ hwhole hn]
                  exact hob
              · exact later (h2 x hx)
        · simp at hp

/-- The loads ahead of place c that may be out of order with a loud operation ahead of it; none: something is out of order with what comes behind. -/
noncomputable def freeLoadsC (E : Env) (m : PM Nat) (all : List Oper) (c : Nat) : Nat → List Oper → Option (List Operand)
  | _, [] => some []
  | i, o :: r => match freeLoadsC E m all c (i + 1) r with
    | none => none
    | some l => bif !mayLoad o.op || loadsIn E m i o 0 all then some l else
      bif Nat.blt i c && loadsIn E m i o c (all.drop c) then match opdOf o.op with
        | some a => bif notDst a ((o :: r).take (c - i)) then some (a :: l) else none
        | none => none
      else none
theorem freeLoadsC_at {m : PM Nat} {all : List Oper} {c : Nat} : ∀ (l : List Oper) (i : Nat) (as : List Operand), freeLoadsC E m all c i l = some as → ∀ k y, l[k]? = some y → mayLoad y.op = true →
    loadsIn E m (i + k) y 0 all = true ∨ (i + k < c ∧ loadsIn E m (i + k) y c (all.drop c) = true ∧ ∃ a, opdOf y.op = some a ∧ a ∈ as ∧ notDst a ((l.drop k).take (c - (i + k))) = true) := by
  intro l
  induction l with
  | nil => intro i as _ k y hy; simp at hy
  | cons y r ih =>
    intro i as h k y' hy hl
    simp only [freeLoadsC] at h
    split at h
    · cases h
    · rename_i as' h'
      have out : (as' = as ∧ (!mayLoad y.op || loadsIn E m i y 0 all) = true) ∨ (i < c ∧ loadsIn E m i y c (all.drop c) = true ∧ ∃ a, opdOf y.op = some a ∧ notDst a ((y :: r).take (c - i)) = true ∧ a :: as' = as) := by
        cases hb : (!mayLoad y.op || loadsIn E m i y 0 all) with
        | true => rw [hb] at h; simp only [cond_true, Option.some.injEq] at h; exact .inl ⟨h, rfl⟩
        | false =>
          rw [hb] at h
          simp only [cond_false] at h
          cases hb2 : (Nat.blt i c && loadsIn E m i y c (all.drop c)) with
          | false => rw [hb2] at h; cases h
          | true =>
            rw [hb2] at h
            simp only [cond_true] at h
            simp only [Bool.and_eq_true] at hb2
            split at h
            · rename_i a2 ha2
              cases hn : notDst a2 ((y :: r).take (c - i)) with
              | false => rw [hn] at h; cases h
              | true =>
                rw [hn] at h
                simp only [cond_true, Option.some.injEq] at h
                exact .inr ⟨Nat.le_of_ble_eq_true hb2.1, hb2.2, a2, ha2, hn, h⟩
            · cases h
      cases k with
      | zero =>
        simp only [List.getElem?_cons_zero, Option.some.injEq] at hy
        subst hy
        rcases out with ⟨_, h1⟩ | ⟨h1, h2, a, h3, h4, h5⟩
        · rw [hl] at h1
          simp only [Bool.not_true, Bool.false_or] at h1
          exact .inl h1
        · exact .inr ⟨h1, h2, a, h3, by rw [← h5]; exact List.mem_cons_self .., h4⟩
      | succ k =>
        have sub : ∀ a, a ∈ as' → a ∈ as := by
          intro a ha
          rcases out with ⟨h1, _⟩ | ⟨_, _, a2, _, _, h5⟩
          · rw [← h1]; exact ha
          · rw [← h5]; exact List.mem_cons_of_mem _ ha
        rcases ih (i + 1) as' h' k y' (by simpa using hy) hl with e | ⟨e1, e2, a, e3, e4, e5⟩
        · rw [show i + 1 + k = i + (k + 1) by omega] at e; exact .inl e
        · rw [show i + 1 + k = i + (k + 1) by omega] at e1 e2 e5
          exact .inr ⟨e1, e2, a, e3, sub a e4, by rw [List.drop_succ_cons]; exact e5⟩
/-- What is asked of a region of open order in two parts. -/
structure DrawC (E : Env) (nt : Nat) (ops : Array Oper) (n c : Nat) (l1 l2 : List POp) (as : List Operand) : Prop where
  size : ops.size = n
  cut : c ≤ n
  pops1 : popsOf nt ops (ops.toList.take c) = some l1
  pops2 : popsOf nt ops (ops.toList.drop c) = some l2
  pairs : allPairs E ops (masks 0 ops.toList .leaf) 0 ops.toList = true
  nomk : ops.toList.all (fun o => !isMk E o) = true
  loads : freeLoadsC E (masks 0 ops.toList .leaf) ops.toList c 0 ops.toList = some as
theorem e_drawC {k : List KI} {Q : PostA} {tm : PM AV} {S : St} {ops : Array Oper} {n c : Nat} {l1 l2 : List POp} {as : List Operand} (hX : EvoX E) (h : DrawC E nt ops n c l1 l2 as)
    (hE : EndsA E nt [.c (.reg l1)] .nrm tm (S.raise n) fun o tm1 S1 => o = .nrm ∧ safeAll E S S1 tm1 as = true ∧ EndsA E nt (.c (.reg l2) :: k) .nrm tm1 S1 Q) :
    EndsA E nt (.c (.draw ops) :: k) .nrm tm S Q := by
  obtain ⟨N, o', tm1, S1, h1, rfl, ho, N2, o2, tm2, S2, h2, hq⟩ := hE
  refine ⟨max N N2, o2, tm2, S2, fun lf n' hl hn => ?_, hq⟩
  have hc : CallEvo (evF E lf n') := evF_evo hX.evo lf n'
  have g1 := h1 lf n' (by omega) (by omega)
  have g2 := h2 lf n' (by omega) (by omega)
  simp only [runK, evP] at g1 g2
  cases he : evL E (evF E lf n') l1 tm (S.raise _) with
  | none => rw [he] at g1; simp at g1
  | some q =>
    obtain ⟨ta, Sa⟩ := q
    rw [he] at g1
    simp only [runK, Option.some.injEq, Prod.mk.injEq, true_and] at g1
    obtain ⟨rfl, rfl⟩ := g1
    cases he2 : evL E (evF E lf n') l2 ta Sa with
    | none => rw [he2] at g2; simp at g2
    | some q2 =>
      obtain ⟨tb, Sb⟩ := q2
      rw [he2] at g2
      have s1 := seq_of_evL _ _ _ _ _ h.pops1 he
      have s2 := seq_of_evL _ _ _ _ _ h.pops2 he2
      have hsz := h.size
      have hcl : (ops.toList.take c).length = c := by rw [List.length_take]; have := h.cut; simp; omega
      obtain ⟨hist, ls, hgo, k1, k2⟩ := draw_of_seqC hc (m := masks 0 ops.toList .leaf) (b0 := S.no) h.nomk (ops.toList.take c) (ops.toList.drop c) 0 tm _ ta Sa tb Sb (by rw [List.take_append_drop]; rfl) s1 s2
      rw [List.take_append_drop] at hgo
      rw [Nat.zero_add, hcl] at k1 k2
      have hl : ls.all (loadOk E ops (masks 0 ops.toList .leaf) S.no ops.size hist) = true := by
        refine List.all_eq_true.2 fun q hq => ?_
        obtain ⟨y, hy, hy2, hcase⟩ := k2 q hq
        have hin := freeLoadsC_at _ _ _ h.loads q.1 y (by simpa using hy) hy2
        rw [Nat.zero_add] at hin
        rcases hin with hin | ⟨hlt, hin, a, ha, hmem, hnd⟩
        · simp only [loadOk, mkAt_off h.nomk, Bool.not_false, Bool.or_true, Bool.true_or, Bool.and_true]
          refine List.all_eq_true.2 fun x hx => ?_
          obtain ⟨o, ho, ho2, _⟩ := k1 x hx
          have := loadsIn_at _ _ hin x.1 o (by simpa using ho) ho2
          rw [Nat.zero_add] at this
          rcases this with h | h <;> simp [h]
        · rcases hcase with hge | ⟨_, a2, ha2, hna⟩
          · omega
          rw [ha] at ha2
          simp only [Option.some.injEq] at ha2
          subst ha2
          have hnd' : notDst a ((ops.toList.take c).drop (q.1 - 0)) = true := by
            rw [Nat.sub_zero, List.drop_take]
            exact hnd
          have h1' := hna hnd'
          have h2' := List.all_eq_true.1 ho a hmem
          simp only [safeA, h1', Bool.and_eq_true] at h2'
          have h3 : q.2.1 < S.no := Nat.le_of_ble_eq_true h2'.1
          have h4 := Nat.eq_of_beq_eq_true h2'.2
          simp only [loadOk, h2'.1, Bool.true_or, Bool.and_true]
          refine List.all_eq_true.2 fun x hx => ?_
          obtain ⟨o, ho, ho2, hge | ⟨e1, e2, e3⟩⟩ := k1 x hx
          · have := loadsIn_at _ _ hin (x.1 - c) o (by rw [List.getElem?_drop, show c + (x.1 - c) = x.1 by omega]; simpa using ho) ho2
            rw [show c + (x.1 - c) = x.1 by omega] at this
            rcases this with h | h <;> simp [h]
          · have q2 := e1.no
            have q3 := e2.no
            have hno : S.no ≤ x.2.1.no := Nat.le_trans (Nat.le_add_right _ _) q2
            have v1 : S.ver q.2.1 ≤ x.2.1.ver q.2.1 := e1.ver q.2.1 (Nat.lt_of_lt_of_le h3 (Nat.le_add_right _ _))
            have v2 := e2.ver q.2.1 (by omega)
            have v3 := e3.ver q.2.1 (by omega)
            have b1 : Nat.blt q.2.1 x.2.1.no = true := Nat.ble_eq_true_of_le (by omega)
            have b2 : Nat.beq (x.2.1.ver q.2.1) (x.2.2.ver q.2.1) = true := by
              have : x.2.1.ver q.2.1 = x.2.2.ver q.2.1 := by omega
              rw [this, Nat.beq_refl]
            simp [b1, b2]
      have e : evDraw E (evF E lf n') nt ops tm S = (bif allPairs E ops (masks 0 ops.toList .leaf) 0 ops.toList then
        match evDrawGo E (evF E lf n') nt ops (masks 0 ops.toList .leaf) S.no 0 ops.toList tm (S.raise ops.size) with
        | some (tm', S', hist, ls) => bif ls.all (loadOk E ops (masks 0 ops.toList .leaf) S.no ops.size hist) then some (tm', S') else none
        | none => none
      else none) := rfl
      have hd : evDraw E (evF E lf n') nt ops tm S = some (tb, Sb) := by
        rw [e, h.pairs]
        rw [← hsz] at hgo
        simp only [cond_true, hgo, hl]
      simp only [runK, evP, hd]
      exact g2
end
end Go.Abs
end

section
set_option linter.unusedSimpArgs false
set_option linter.unusedVariables false
namespace Go.Abs
section
variable {E : Env} {nt : Nat}
/-- What is asked of a region of open order in which two things are made. -/
structure DrawMk2 (E : Env) (nt : Nat) (ops : Array Oper) (n : Nat) (l1 : List POp) (i : Nat) (d : Option Tmp) (op : Op) (l2 : List POp) (j : Nat) (d2 : Option Tmp) (op2 : Op) (l3 : List POp) (as : List Operand) : Prop where
  size : ops.size = n
  parts : ∃ p o q o2 r, ops.toList = p ++ o :: (q ++ o2 :: r) ∧ p.length = i ∧ o.dst = d ∧ o.op = op ∧ o.guard = none ∧ dstOk nt d = true ∧ isMk E o = true ∧ i + 1 + q.length = j ∧ o2.dst = d2 ∧ o2.op = op2 ∧ o2.guard = none ∧ dstOk nt d2 = true ∧ isMk E o2 = true ∧ popsOf nt ops p = some l1 ∧ popsOf nt ops q = some l2 ∧ popsOf nt ops r = some l3 ∧ p.all (fun o => !isMk E o) = true ∧ q.all (fun o => !isMk E o) = true ∧ r.all (fun o => !isMk E o) = true
  pairs : allPairs E ops (masks 0 ops.toList .leaf) 0 ops.toList = true
  seen : seenAll E ops (masks 0 ops.toList .leaf) 0 ops.toList = true
  loads : allLoads ops.toList = some as
noncomputable def isMkAt (E : Env) (nt : Nat) (ops : Array Oper) (i : Nat) (d : Option Tmp) : Bool := match ops[i]? with
    | some o => (match o.dst, d with | some a, some b => Nat.beq a b | none, none => true | _, _ => false) && o.guard.isNone && dstOk nt d && isMk E o
    | none => false
noncomputable def drawMk2B (E : Env) (nt : Nat) (ops : Array Oper) (n i : Nat) (d : Option Tmp) (j : Nat) (d2 : Option Tmp) : Bool :=
  Nat.beq ops.size n && isMkAt E nt ops i d && isMkAt E nt ops j d2 && Nat.blt i j && (ops.toList.take i).all (fun o => !isMk E o) && ((ops.toList.drop (i + 1)).take (j - (i + 1))).all (fun o => !isMk E o) && (ops.toList.drop (j + 1)).all (fun o => !isMk E o) && allPairs E ops (masks 0 ops.toList .leaf) 0 ops.toList && seenAll E ops (masks 0 ops.toList .leaf) 0 ops.toList
theorem isMkAt_of {ops : Array Oper} {i : Nat} {d : Option Tmp} {op : Op} (h : isMkAt E nt ops i d = true) (ho : (ops[i]?).map (·.op) = some op) : ∃ (hi : i < ops.toList.length), (ops.toList[i]).dst = d ∧ (ops.toList[i]).op = op ∧ (ops.toList[i]).guard = none ∧ dstOk nt d = true ∧ isMk E (ops.toList[i]) = true := by
  unfold isMkAt at h
  cases ho' : ops[i]? with
  | none => rw [ho'] at ho; cases ho
  | some o =>
    rw [ho'] at ho h
    simp only [Option.map_some, Option.some.injEq] at ho
    simp only [Bool.and_eq_true] at h
    obtain ⟨⟨⟨b1, b2⟩, b3⟩, b4⟩ := h
    have hi : i < ops.toList.length := by simpa using (Array.getElem?_eq_some_iff.1 ho').1
    have hoi : ops.toList[i] = o := by simpa using (Array.getElem?_eq_some_iff.1 ho').2
    refine ⟨hi, ?_, by rw [hoi]; exact ho, by rw [hoi]; simpa using b2, b3, by rw [hoi]; exact b4⟩
    rw [hoi]
    revert b1
    cases o.dst <;> cases d <;> simp
theorem drawMk2_of {ops : Array Oper} {n i j : Nat} {d d2 : Option Tmp} {op op2 : Op} {l1 l2 l3 : List POp} {as : List Operand} (h : drawMk2B E nt ops n i d j d2 = true) (ho : (ops[i]?).map (·.op) = some op) (ho2 : (ops[j]?).map (·.op) = some op2) (h1 : popsOf nt ops (ops.toList.take i) = some l1)
    (h2 : popsOf nt ops ((ops.toList.drop (i + 1)).take (j - (i + 1))) = some l2) (h3 : popsOf nt ops (ops.toList.drop (j + 1)) = some l3) (hl : allLoads ops.toList = some as) : DrawMk2 E nt ops n l1 i d op l2 j d2 op2 l3 as := by
  simp only [drawMk2B, Bool.and_eq_true] at h
  obtain ⟨⟨⟨⟨⟨⟨⟨⟨a1, a2⟩, a3⟩, a4⟩, a5⟩, a6⟩, a7⟩, a8⟩, a9⟩ := h
  obtain ⟨hi, b1, b2, b3, b4, b5⟩ := isMkAt_of a2 ho
  obtain ⟨hj, c1, c2, c3, c4, c5⟩ := isMkAt_of a3 ho2
  have hij : i < j := Nat.le_of_ble_eq_true a4
  refine ⟨Nat.eq_of_beq_eq_true a1, ⟨_, _, _, _, _, ?_, by rw [List.length_take]; omega, b1, b2, b3, b4, b5, ?_, c1, c2, c3, c4, c5, h1, h2, h3, a5, a6, a7⟩, a8, a9, hl⟩
  · have e1 : ops.toList = ops.toList.take i ++ ops.toList[i] :: ops.toList.drop (i + 1) := by
      rw [← List.drop_eq_getElem_cons hi, List.take_append_drop]
    have e2 : ops.toList.drop (i + 1) = (ops.toList.drop (i + 1)).take (j - (i + 1)) ++ ops.toList[j] :: ops.toList.drop (j + 1) := by
      rw [← List.drop_eq_getElem_cons hj]
      have : ops.toList.drop j = (ops.toList.drop (i + 1)).drop (j - (i + 1)) := by rw [List.drop_drop]; congr 1; omega
      rw [this, List.take_append_drop]
    rw [← e2]
    exact e1
  · rw [List.length_take, List.length_drop]
    omega
theorem e_drawMk2 {k : List KI} {Q : PostA} {tm : PM AV} {S : St} {ops : Array Oper} {n i j : Nat} {d d2 : Option Tmp} {op op2 : Op} {l1 l2 l3 : List POp} {as : List Operand} (hX : EvoX E) (h : DrawMk2 E nt ops n l1 i d op l2 j d2 op2 l3 as)
    (hE : EndsA E nt [.c (.reg l1)] .nrm tm (S.raise n) fun o tm1 S1 => o = .nrm ∧ ∃ mk, mkOp E tm1 (opOf d op) = some mk ∧ EndsA E nt [.c (.reg l2)] .nrm (setD tm1 d (mk.val (S.no + i))) (S1.bear (S.no + i) mk) fun o tm2 S2 => o = .nrm ∧ ∃ mk2, mkOp E tm2 (opOf d2 op2) = some mk2 ∧ EndsA E nt [.c (.reg l3)] .nrm (setD tm2 d2 (mk2.val (S.no + j))) (S2.bear (S.no + j) mk2) fun o tm' S' => o = .nrm ∧ safeAll E S S' tm' as = true ∧ EndsA E nt k .nrm tm' S' Q) :
    EndsA E nt (.c (.draw ops) :: k) .nrm tm S Q := by
  obtain ⟨N, o', tma, Sa, h1, rfl, mk, hmk, N2, o2, tmb, Sb, h2, rfl, mk2, hmk2, N4, o4, tm2, S2, h4, rfl, ho, N3, o3, tm3, S3, h3, hq⟩ := hE
  refine ⟨max (max N N4) (max N2 N3), o3, tm3, S3, fun lf n' hl hn => ?_, hq⟩
  have hc : CallEvo (evF E lf n') := evF_evo hX.evo lf n'
  have g1 := h1 lf n' (by omega) (by omega)
  have g2 := h2 lf n' (by omega) (by omega)
  have g4 := h4 lf n' (by omega) (by omega)
  simp only [runK, evP] at g1 g2 g4
  have step : ∀ {l : List POp} {ta tb : PM AV} {Sa Sb : St}, (match (match evL E (evF E lf n') l ta Sa with | some (tm', S') => some (Out.nrm, tm', S') | none => none) with | some (o, tm', S') => some (o, tm', S') | none => none) = some (Out.nrm, tb, Sb) → evL E (evF E lf n') l ta Sa = some (tb, Sb) := by
    intro l ta tb Sa Sb hh
    cases he : evL E (evF E lf n') l ta Sa with
    | none => rw [he] at hh; simp at hh
    | some r =>
      rw [he] at hh
      simp only [Option.some.injEq, Prod.mk.injEq, true_and] at hh
      rw [← hh.1, ← hh.2]
  have g1' := step g1
  have g2' := step g2
  have g4' := step g4
  obtain ⟨p, o, q, o2, r, hp1, hp2, hp3, hp4, hp5, hp6, hp7, hq2, hq3, hq4, hq5, hq6, hq7, hp8, hp9, hp9', hp10, hp10', hp11⟩ := h.parts
  have s1 := seq_of_evL _ _ _ _ _ hp8 g1'
  have s2 := seq_of_evL _ _ _ _ _ hp9 g2'
  have s4 := seq_of_evL _ _ _ _ _ hp9' g4'
  have hmk' : mkOp E tma o = some mk := by
    rw [← hmk]
    obtain ⟨dst, op', ty, pos, after, guard⟩ := o
    simp only at hp3 hp4
    subst hp3; subst hp4
    cases op' <;> rfl
  have hmk2' : mkOp E tmb o2 = some mk2 := by
    rw [← hmk2]
    obtain ⟨dst, op', ty, pos, after, guard⟩ := o2
    simp only at hq3 hq4
    subst hq3; subst hq4
    cases op' <;> rfl
  have hw : wantedA ops tma o = some true := by unfold wantedA; rw [hp5]
  have hw2 : wantedA ops tmb o2 = some true := by unfold wantedA; rw [hq5]
  have hsz := h.size
  have whole : evSeqM E (evF E lf n') nt ops S.no 0 ops.toList tm (S.raise ops.size) = some (tm2, S2) := by
    rw [hsz, hp1, seqM_plain p (o :: (q ++ o2 :: r)) 0 _ _ _ _ hp10 s1, Nat.zero_add, hp2]
    simp only [evSeqM, hw, hp7, cond_true, hmk', hp3, putA_setD hp6]
    rw [seqM_plain (b0 := S.no) q (o2 :: r) (i + 1) _ _ _ _ hp10' s2, hq2]
    simp only [evSeqM, hw2, hq7, cond_true, hmk2', hq3, putA_setD hq6]
    have := seqM_plain (b0 := S.no) r [] (j + 1) _ _ _ _ hp11 s4
    rw [List.append_nil] at this
    rw [this]
    rfl
  obtain ⟨hist, ls, hgo, k1, k2⟩ := draw_of_seqM hc (m := masks 0 ops.toList .leaf) h.seen ops.toList 0 tm _ tm2 S2 (Nat.le_add_right _ _) rfl whole
  have hl : ls.all (loadOk E ops (masks 0 ops.toList .leaf) S.no ops.size hist) = true := by
    refine List.all_eq_true.2 fun q hq => ?_
    obtain ⟨y, hy, hy2, a, ha, hna⟩ := k2 q hq
    obtain ⟨a2, ha2, hmem, hnd⟩ := allLoads_at _ _ h.loads q.1 y (by simpa using hy) hy2
    rw [ha] at ha2
    simp only [Option.some.injEq] at ha2
    subst ha2
    have h1 := hna hnd
    have h2 := List.all_eq_true.1 ho a hmem
    simp only [safeA, h1, Bool.and_eq_true] at h2
    have h3 : q.2.1 < S.no := Nat.le_of_ble_eq_true h2.1
    have h4 := Nat.eq_of_beq_eq_true h2.2
    simp only [loadOk, h2.1, Bool.true_or, Bool.and_true]
    refine List.all_eq_true.2 fun x hx => ?_
    obtain ⟨o, _, _, e1, e2⟩ := k1 x hx
    have q1 : (S.raise ops.size).no = S.no + ops.size := rfl
    obtain ⟨v1, v2, v3⟩ := e2 q.2.1 h3
    have v1' : S.ver q.2.1 ≤ x.2.1.ver q.2.1 := v1
    have b1 : Nat.blt q.2.1 x.2.1.no = true := Nat.ble_eq_true_of_le (by omega)
    have b2 : Nat.beq (x.2.1.ver q.2.1) (x.2.2.ver q.2.1) = true := by
      have : x.2.1.ver q.2.1 = x.2.2.ver q.2.1 := by omega
      rw [this, Nat.beq_refl]
    simp [b1, b2]
  have e : evDraw E (evF E lf n') nt ops tm S = (bif allPairs E ops (masks 0 ops.toList .leaf) 0 ops.toList then
    match evDrawGo E (evF E lf n') nt ops (masks 0 ops.toList .leaf) S.no 0 ops.toList tm (S.raise ops.size) with
    | some (tm', S', hist, ls) => bif ls.all (loadOk E ops (masks 0 ops.toList .leaf) S.no ops.size hist) then some (tm', S') else none
    | none => none
  else none) := rfl
  have hd : evDraw E (evF E lf n') nt ops tm S = some (tm2, S2) := by
    rw [e, h.pairs, hgo]
    simp only [cond_true, hl]
  simp only [runK, evP, hd]
  exact h3 lf n' (by omega) (by omega)
end
end Go.Abs
end
