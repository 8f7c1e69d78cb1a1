/-
  Regions of open order in the calculus: what is loaded out of order comes from no object.
-/
import Derived.Test.YtmmpcomfhcpicaaAbs17
set_option linter.unusedSimpArgs false
set_option linter.unusedVariables false
namespace Go.Abs
def isObjA : AV → Bool
  | .ptr _ _ => true
  | .osl _ _ _ _ _ => true
  | .mp _ => true
  | _ => false
def isDst : Option Tmp → Nat → Bool
  | some k, n => k == n
  | none, _ => false
def opdOf : Op → Option Operand
  | .load _ a => some a
  | .convert _ _ a => some a
  | .slice _ a _ _ _ => some a
  | .lookup _ a _ _ => some a
  | .call c => match c.callee with
    | .builtin .len => c.args.toList.head?
    | _ => none
  | _ => none
section
variable {E : Env} {call : CallFn} {nt : Nat}
theorem loads_opd {tm : PM AV} {o : Oper} {l : Nat} (h : loadsFrom E tm o = some l) : ∃ a, opdOf o.op = some a ∧ isObjA (E.ev tm a) = true := by
  obtain ⟨dst, op, ty, pos, after, guard⟩ := o
  cases op with
  | load t a =>
    refine ⟨a, rfl, ?_⟩
    simp only [loadsFrom] at h
    split at h
    · rename_i e; rw [e]; rfl
    · cases h
  | convert t u a =>
    refine ⟨a, rfl, ?_⟩
    simp only [loadsFrom] at h
    split at h
    · rename_i e; rw [e]; rfl
    · rename_i e; rw [e]; rfl
    · cases h
  | slice t a lo hi mx =>
    refine ⟨a, rfl, ?_⟩
    cases mx with
    | some m => simp only [loadsFrom] at h; cases h
    | none =>
      simp only [loadsFrom] at h
      split at h
      · rename_i e; rw [e]; rfl
      · cases h
  | lookup t a i ok =>
    refine ⟨a, rfl, ?_⟩
    simp only [loadsFrom] at h
    split at h
    · rename_i e; rw [e]; rfl
    · cases h
  | call c =>
    obtain ⟨callee, args, ats⟩ := c
    cases callee with
    | builtin b =>
      cases b <;> simp only [loadsFrom] at h <;> try cases h
      split at h
      · rename_i l' e
        cases ha : args.toList with
        | nil => rw [ha] at e; cases e
        | cons a r =>
          rw [ha] at e
          simp only [List.map_cons, List.cons.injEq] at e
          refine ⟨a, by simp only [opdOf, ha]; rfl, ?_⟩
          rw [e.1]; rfl
      · cases h
    | _ => simp only [loadsFrom] at h; cases h
  | _ => simp only [loadsFrom] at h; cases h

def offDst : Operand → Option Tmp → Bool
  | .tmp t, some d => !Nat.beq t d
  | _, _ => true
def notDst (a : Operand) : List Oper → Bool
  | [] => true
  | o :: r => offDst a o.dst && notDst a r
def freeLoads (E : Env) (m : PM Nat) (all : List Oper) : Nat → List Oper → Option (List Operand)
  | _, [] => some []
  | i, o :: r => match freeLoads E m all (i + 1) r with
    | none => none
    | some l => bif !mayLoad o.op || loadsIn E m i o 0 all then some l else match opdOf o.op with
      | some a => bif notDst a (o :: r) then some (a :: l) else none
      | none => none
theorem put_keep {tm tm1 : PM AV} {dst : Option Tmp} {v : AV} {a : Operand} (h : putA nt dst v tm = some tm1) (hn : offDst a dst = true) : E.ev tm1 a = E.ev tm a := by
  cases dst with
  | none => simp only [putA, Option.some.injEq] at h; rw [h]
  | some d =>
    simp only [putA] at h
    cases hb : Nat.blt d nt with
    | false => rw [hb] at h; simp at h
    | true =>
      rw [hb] at h
      simp only [cond_true, Option.some.injEq] at h
      subst h
      cases a with
      | tmp t =>
        have hne : t ≠ d := fun e => by subst e; simp [offDst] at hn
        simp only [Env.ev, getT, PM.get_set, hne, if_false]
      | _ => rfl
theorem seq_keep {ops : Array Oper} {a : Operand} : ∀ (l : List Oper) (tm : PM AV) (S : St) (tm' : PM AV) (S' : St), evSeq E call nt ops l tm S = some (tm', S') → notDst a l = true → E.ev tm' a = E.ev tm a
  | [], tm, S, tm', S', h, _ => by
    simp only [evSeq, Option.some.injEq, Prod.mk.injEq] at h
    rw [h.1]
  | o :: l, tm, S, tm', S', h, hn => by
    simp only [notDst, Bool.and_eq_true] at hn
    simp only [evSeq] at h
    split at h
    · simp at h
    · split at h
      · rename_i tm1 hp
        rw [seq_keep l _ _ _ _ h hn.2, put_keep hp hn.1]
      · simp at h
    · split at h
      · simp at h
      · split at h
        · rename_i tm1 hp
          rw [seq_keep l _ _ _ _ h hn.2, put_keep hp hn.1]
        · simp at h

theorem draw_of_seq2 {ops : Array Oper} {m : PM Nat} {b0 : Nat} (hmk : ops.toList.all (fun o => !isMk E o) = true) : ∀ (l : List Oper) (i : Nat) (tm : PM AV) (S : St) (tm' : PM AV) (S' : St), ops.toList.drop i = l → evSeq E call nt ops l tm S = some (tm', S') →
    ∃ hist ls, evDrawGo E call nt ops m b0 i l tm S = some (tm', S', hist, ls) ∧ (∀ h ∈ hist, ∃ o, ops[h.1]? = some o ∧ loudOp E o.op = true) ∧
      (∀ p ∈ ls, ∃ o, ops[p.1]? = some o ∧ mayLoad o.op = true ∧ ∃ a, opdOf o.op = some a ∧ (notDst a (ops.toList.drop p.1) = true → isObjA (E.ev tm' a) = true))
  | [], i, tm, S, tm', S', _, h => by
    simp only [evSeq, Option.some.injEq, Prod.mk.injEq] at h
    obtain ⟨rfl, rfl⟩ := h
    exact ⟨[], [], rfl, by simp, by simp⟩
  | o :: l, i, tm, S, tm', S', hd, h => by
    have hwhole := h
    have hko : ops[i]? = some o := by
      have h0 : (ops.toList.drop i)[0]? = some o := by rw [hd]; rfl
      rw [List.getElem?_drop] at h0
      simpa using h0
    have hrest : ops.toList.drop (i + 1) = l := by rw [← List.drop_drop, hd]; rfl
    have hmo : isMk E o = false := by
      have := List.all_eq_true.1 hmk o (by simpa using Array.mem_of_getElem? hko)
      simpa using this
    have hm0 := fun k => mkAt_off hmk k
    simp only [evSeq] at h
    simp only [evDrawGo]
    split at h
    · simp at h
    · split at h
      · rename_i tm1 hp
        exact draw_of_seq2 hmk l (i + 1) _ _ _ _ hrest h
      · simp at h
    · simp only [evOp, hmo, cond_false] at h ⊢
      split at h
      · simp at h
      · rename_i v S1 hev
        split at h
        · rename_i tm1 hp
          obtain ⟨hist, ls, hgo, h1, h2⟩ := draw_of_seq2 hmk l (i + 1) _ _ _ _ hrest h
          cases hq : loudOp E o.op with
          | true =>
            have e1 : S.masked (mkAt E ops) m b0 i = S := by
              unfold St.masked; rw [maskF_off hm0]
            have e2 : S1.unmasked S (mkAt E ops) m b0 i = S1 := by
              unfold St.unmasked; rw [unmaskF_off hm0]
            simp only [cond_true, e1, hev, hp, e2]
            rw [hgo]
            refine ⟨_, _, rfl, fun x hx => ?_, h2⟩
            rcases List.mem_cons.1 hx with rfl | hx
            · exact ⟨o, hko, hq⟩
            · exact h1 x hx
          | false =>
            simp only [cond_false, hev, hp]
            rw [hgo]
            refine ⟨_, _, rfl, h1, fun x hx => ?_⟩
            cases hld : loadsFrom E tm o with
            | none => rw [hld] at hx; exact h2 x hx
            | some b =>
              rw [hld] at hx
              rcases List.mem_cons.1 hx with rfl | hx
              · obtain ⟨a, ha, hob⟩ := loads_opd hld
                refine ⟨o, hko, ?_, a, ha, fun hn => ?_⟩
                · cases hml : mayLoad o.op with
                  | true => rfl
                  | false => rw [plain_no_load hml] at hld; simp at hld
                · simp only [hd] at hn
                  rw [seq_keep _ _ _ _ _ hwhole hn]
                  exact hob
              · exact h2 x hx
        · simp at h

theorem freeLoads_at {m : PM Nat} {all : List Oper} : ∀ (l : List Oper) (i : Nat) (as : List Operand), freeLoads E m all i l = some as → ∀ k y, l[k]? = some y → mayLoad y.op = true → loadsIn E m (i + k) y 0 all = true ∨ ∃ a, opdOf y.op = some a ∧ a ∈ as ∧ notDst a (l.drop k) = true := by
  intro l
  induction l with
  | nil => intro i as _ k y hy; simp at hy
  | cons y r ih =>
    intro i as h k y' hy hl
    simp only [freeLoads] at h
    split at h
    · cases h
    · rename_i as' h'
      have sub : ∀ a, a ∈ as' → a ∈ as := by
        intro a ha
        cases hb : (!mayLoad y.op || loadsIn E m i y 0 all) with
        | true => rw [hb] at h; simp only [cond_true, Option.some.injEq] at h; rw [← h]; exact ha
        | false =>
          rw [hb] at h
          simp only [cond_false] at h
          split at h
          · rename_i a2 _
            cases hn : notDst a2 (y :: r) with
            | false => rw [hn] at h; cases h
            | true => rw [hn] at h; simp only [cond_true, Option.some.injEq] at h; rw [← h]; exact List.mem_cons_of_mem _ ha
          · cases h
      cases k with
      | zero =>
        simp only [List.getElem?_cons_zero, Option.some.injEq] at hy
        subst hy
        cases hb : (!mayLoad y.op || loadsIn E m i y 0 all) with
        | true =>
          rw [hl] at hb
          simp only [Bool.not_true, Bool.false_or] at hb
          exact .inl hb
        | false =>
          rw [hb] at h
          simp only [cond_false] at h
          split at h
          · rename_i a2 ha2
            cases hn : notDst a2 (y :: r) with
            | false => rw [hn] at h; cases h
            | true =>
              rw [hn] at h
              simp only [cond_true, Option.some.injEq] at h
              exact .inr ⟨a2, ha2, by rw [← h]; exact List.mem_cons_self .., hn⟩
          · cases h
      | succ k =>
        rcases ih (i + 1) as' h' k y' (by simpa using hy) hl with e | ⟨a, e1, e2, e3⟩
        · rw [show i + 1 + k = i + (k + 1) by omega] at e; exact .inl e
        · exact .inr ⟨a, e1, sub a e2, e3⟩

/-- What is asked of a region of open order, told by its text. -/
structure DrawIs (E : Env) (nt : Nat) (ops : Array Oper) (n : Nat) (l : List POp) (as : List Operand) : Prop where
  size : ops.size = n
  pops : popsOf nt ops ops.toList = some l
  pairs : allPairs E ops (masks 0 ops.toList .leaf) 0 ops.toList = true
  nomk : ops.toList.all (fun o => !isMk E o) = true
  loads : freeLoads E (masks 0 ops.toList .leaf) ops.toList 0 ops.toList = some as

def noObj (E : Env) (tm : PM AV) (as : List Operand) : Bool := as.all fun a => !isObjA (E.ev tm a)
theorem noObj_nil (tm : PM AV) : noObj E tm [] = true := rfl
theorem noObj_cons (tm : PM AV) (a : Operand) (r : List Operand) : noObj E tm (a :: r) = (!isObjA (E.ev tm a) && noObj E tm r) := by simp [noObj]
theorem obj_eptr (cs : List AV) (o : Nat) : isObjA (.eptr cs o) = false := rfl
theorem obj_vec (id sz : Nat) (xs : List AV) : isObjA (.vec id sz xs) = false := rfl
theorem obj_sc (v : Value) : isObjA (.sc v) = false := rfl
theorem obj_passed : isObjA passed = false := rfl
theorem obj_agg (cs : List AV) : isObjA (.agg cs) = false := rfl
theorem IsV.noObj {sz : Nat} {x : AV} {xs : List AV} (h : IsV sz x xs) : isObjA x = false := by
  rcases h with ⟨rfl, _⟩ | ⟨id, rfl⟩ <;> rfl

theorem draw_run {ops : Array Oper} {n : Nat} {l : List POp} {as : List Operand} (h : DrawIs E nt ops n l as) {tm : PM AV} {S : St} {tm' : PM AV} {S' : St} (hr : evL E call l tm (S.raise n) = some (tm', S')) (ho : Go.Abs.noObj E tm' as = true) : evDraw E call nt ops tm S = some (tm', S') := by
  have hs := seq_of_evL _ _ _ _ _ h.pops hr
  rw [← h.size] at hs
  obtain ⟨hist, ls, hgo, k1, k2⟩ := draw_of_seq2 (m := masks 0 ops.toList .leaf) (b0 := S.no) h.nomk ops.toList 0 tm _ tm' S' rfl hs
  have hl : ls.all (loadOk E ops (masks 0 ops.toList .leaf) S.no ops.size hist) = true := by
    refine List.all_eq_true.2 fun p hp => ?_
    obtain ⟨y, hy, hy2, a, ha, hna⟩ := k2 p hp
    have hin := freeLoads_at _ _ _ h.loads p.1 y (by simpa using hy) hy2
    rw [Nat.zero_add] at hin
    rcases hin with hin | ⟨a2, ha2, hmem, hnd⟩
    · simp only [loadOk, mkAt_off h.nomk, Bool.not_false, Bool.or_true, Bool.true_or, Bool.and_true]
      refine List.all_eq_true.2 fun x hx => ?_
      obtain ⟨o, ho, ho2⟩ := k1 x hx
      have := loadsIn_at _ _ hin x.1 o (by simpa using ho) ho2
      rw [Nat.zero_add] at this
      rcases this with h | h <;> simp [h]
    · rw [ha] at ha2
      simp only [Option.some.injEq] at ha2
      subst ha2
      have h1 := hna hnd
      have h2 := List.all_eq_true.1 ho a hmem
      rw [h1] at h2
      cases h2
  have e : evDraw E call nt ops tm S = (bif allPairs E ops (masks 0 ops.toList .leaf) 0 ops.toList then
    match evDrawGo E call nt ops (masks 0 ops.toList .leaf) S.no 0 ops.toList tm (S.raise ops.size) with
    | some (tm', S', hist, ls) => bif ls.all (loadOk E ops (masks 0 ops.toList .leaf) S.no ops.size hist) then some (tm', S') else none
    | none => none
  else none) := rfl
  rw [e, h.pairs, hgo]
  simp only [cond_true, hl]
theorem e_draw {k : List KI} {Q : PostA} {tm : PM AV} {S : St} {ops : Array Oper} {n : Nat} {l : List POp} {as : List Operand} (h : DrawIs E nt ops n l as)
    (hE : EndsA E nt [.c (.reg l)] .nrm tm (S.raise n) fun o tm' S' => o = .nrm ∧ Go.Abs.noObj E tm' as = true ∧ EndsA E nt k .nrm tm' S' Q) : EndsA E nt (.c (.draw ops) :: k) .nrm tm S Q := by
  obtain ⟨N, o', tm1, S1, h1, rfl, ho, N2, o2, tm2, S2, h2, hq⟩ := hE
  refine ⟨max N N2, o2, tm2, S2, fun lf n hl hn => ?_, hq⟩
  have h3 := h1 lf n (by omega) (by omega)
  simp only [runK, evP] at h3
  cases he : evL E (evF E lf n) l tm (S.raise _) with
  | none => rw [he] at h3; simp at h3
  | some r =>
    obtain ⟨ta, Sa⟩ := r
    rw [he] at h3
    simp only [runK, Option.some.injEq, Prod.mk.injEq, true_and] at h3
    obtain ⟨rfl, rfl⟩ := h3
    have := draw_run h he ho
    simp only [runK, evP, this]
    exact h2 lf n (by omega) (by omega)
def PC.draws : PC → List (Array Oper)
  | .draw ops => [ops]
  | .seq a b => a.draws ++ b.draws
  | .cond _ a b => a.draws ++ b.draws
  | .block _ a => a.draws
  | .loop a => a.draws
  | _ => []
end
end Go.Abs
