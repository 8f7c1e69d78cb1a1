/-
  Regions of open order, once more: what is loaded out of order may come from an object that nobody has written meanwhile.
-/
import Derived.Test.YtmmpcomfhcpicaaAbs18
set_option linter.unusedSimpArgs false
set_option linter.unusedVariables false
namespace Go.Abs
def objId : AV → Option Nat
  | .ptr l _ => some l
  | .osl l _ _ _ _ => some l
  | .mp l => some l
  | _ => none
section
variable {E : Env} {call : CallFn} {nt : Nat}
theorem loads_id {tm : PM AV} {o : Oper} {l : Nat} (h : loadsFrom E tm o = some l) : ∃ a, opdOf o.op = some a ∧ objId (E.ev tm a) = some l := by
  obtain ⟨dst, op, ty, pos, after, guard⟩ := o
  cases op with
  | load t a =>
    refine ⟨a, rfl, ?_⟩
    simp only [loadsFrom] at h
    split at h
    · rename_i e; rw [e]; exact h
    · cases h
  | convert t u a =>
    refine ⟨a, rfl, ?_⟩
    simp only [loadsFrom] at h
    split at h
    · rename_i e; rw [e]; exact h
    · rename_i e; rw [e]; exact h
    · cases h
  | slice t a lo hi mx =>
    refine ⟨a, rfl, ?_⟩
    cases mx with
    | some m => simp only [loadsFrom] at h; cases h
    | none =>
      simp only [loadsFrom] at h
      split at h
      · rename_i e; rw [e]; exact h
      · cases h
  | lookup t a i ok =>
    refine ⟨a, rfl, ?_⟩
    simp only [loadsFrom] at h
    split at h
    · rename_i e; rw [e]; exact h
    · cases h
  | call c =>
    obtain ⟨callee, args, ats⟩ := c
    cases callee with
    | builtin b =>
      cases b <;> simp only [loadsFrom] at h <;> try cases h
      split at h
      · rename_i l' e
        cases ha : args.toList with
        | nil => rw [ha] at e; cases e
        | cons a r =>
          rw [ha] at e
          simp only [List.map_cons, List.cons.injEq] at e
          refine ⟨a, by simp only [opdOf, ha]; rfl, ?_⟩
          rw [e.1]; exact h
      · cases h
    | _ => simp only [loadsFrom] at h; cases h
  | _ => simp only [loadsFrom] at h; cases h

theorem draw_of_seq3 (hc : CallEvo call) {ops : Array Oper} {m : PM Nat} {b0 : Nat} (hmk : ops.toList.all (fun o => !isMk E o) = true) : ∀ (l : List Oper) (i : Nat) (tm : PM AV) (S : St) (tm' : PM AV) (S' : St), ops.toList.drop i = l → evSeq E call nt ops l tm S = some (tm', S') →
    ∃ hist ls, evDrawGo E call nt ops m b0 i l tm S = some (tm', S', hist, ls) ∧ (∀ h ∈ hist, ∃ o, ops[h.1]? = some o ∧ loudOp E o.op = true ∧ Evo S h.2.1 ∧ Evo h.2.1 h.2.2 ∧ Evo h.2.2 S') ∧
      (∀ p ∈ ls, ∃ o, ops[p.1]? = some o ∧ mayLoad o.op = true ∧ ∃ a, opdOf o.op = some a ∧ (notDst a (ops.toList.drop p.1) = true → objId (E.ev tm' a) = some p.2))
  | [], i, tm, S, tm', S', _, h => by
    simp only [evSeq, Option.some.injEq, Prod.mk.injEq] at h
    obtain ⟨rfl, rfl⟩ := h
    exact ⟨[], [], rfl, by simp, by simp⟩
  | o :: l, i, tm, S, tm', S', hd, h => by
    have hwhole := h
    have hko : ops[i]? = some o := by
      have h0 : (ops.toList.drop i)[0]? = some o := by rw [hd]; rfl
      rw [List.getElem?_drop] at h0
      simpa using h0
    have hrest : ops.toList.drop (i + 1) = l := by rw [← List.drop_drop, hd]; rfl
    have hmo : isMk E o = false := by
      have := List.all_eq_true.1 hmk o (by simpa using Array.mem_of_getElem? hko)
      simpa using this
    have hm0 := fun k => mkAt_off hmk k
    simp only [evSeq] at h
    simp only [evDrawGo]
    split at h
    · simp at h
    · split at h
      · rename_i tm1 hp
        exact draw_of_seq3 hc hmk l (i + 1) _ _ _ _ hrest h
      · simp at h
    · simp only [evOp, hmo, cond_false] at h ⊢
      split at h
      · simp at h
      · rename_i v S1 hev
        split at h
        · rename_i tm1 hp
          have hev1 : Evo S S1 := plain_evo hc o hmo hev
          have hev2 : Evo S1 S' := seq_evo hc _ _ _ _ _ h
          obtain ⟨hist, ls, hgo, h1, h2⟩ := draw_of_seq3 hc hmk l (i + 1) _ _ _ _ hrest h
          have h1' : ∀ h ∈ hist, ∃ o, ops[h.1]? = some o ∧ loudOp E o.op = true ∧ Evo S h.2.1 ∧ Evo h.2.1 h.2.2 ∧ Evo h.2.2 S' := fun x hx => by
            obtain ⟨o2, a1, a2, a3, a4⟩ := h1 x hx
            exact ⟨o2, a1, a2, hev1.trans a3, a4⟩
          cases hq : loudOp E o.op with
          | true =>
            have e1 : S.masked (mkAt E ops) m b0 i = S := by
              unfold St.masked; rw [maskF_off hm0]
            have e2 : S1.unmasked S (mkAt E ops) m b0 i = S1 := by
              unfold St.unmasked; rw [unmaskF_off hm0]
            simp only [cond_true, e1, hev, hp, e2]
            rw [hgo]
            refine ⟨_, _, rfl, fun x hx => ?_, h2⟩
            rcases List.mem_cons.1 hx with rfl | hx
            · exact ⟨o, hko, hq, Evo.refl _, hev1, hev2⟩
            · exact h1' x hx
          | false =>
            simp only [cond_false, hev, hp]
            rw [hgo]
            refine ⟨_, _, rfl, h1', fun x hx => ?_⟩
            cases hld : loadsFrom E tm o with
            | none => rw [hld] at hx; exact h2 x hx
            | some b =>
              rw [hld] at hx
              rcases List.mem_cons.1 hx with rfl | hx
              · obtain ⟨a, ha, hob⟩ := loads_id hld
                refine ⟨o, hko, ?_, a, ha, fun hn => ?_⟩
                · cases hml : mayLoad o.op with
                  | true => rfl
                  | false => rw [plain_no_load hml] at hld; simp at hld
                · simp only [hd] at hn
                  rw [seq_keep _ _ _ _ _ hwhole hn]
                  exact hob
              · exact h2 x hx
        · simp at h

/-- Is what is loaded from there the same ahead and behind? -/
def safeA (S S' : St) (x : AV) : Bool := match objId x with
  | none => true
  | some l => Nat.blt l S.no && Nat.beq (S.ver l) (S'.ver l)
def safeAll (E : Env) (S S' : St) (tm : PM AV) (as : List Operand) : Bool := as.all fun a => safeA S S' (E.ev tm a)
theorem safe_nil (S S' : St) (tm : PM AV) : safeAll E S S' tm [] = true := rfl
theorem safe_cons (S S' : St) (tm : PM AV) (a : Operand) (r : List Operand) : safeAll E S S' tm (a :: r) = (safeA S S' (E.ev tm a) && safeAll E S S' tm r) := by simp [safeAll]
theorem safe_eptr (S S' : St) (cs : List AV) (o : Nat) : safeA S S' (.eptr cs o) = true := rfl
theorem safe_vec (S S' : St) (id sz : Nat) (xs : List AV) : safeA S S' (.vec id sz xs) = true := rfl
theorem safe_sc (S S' : St) (v : Value) : safeA S S' (.sc v) = true := rfl
theorem safe_passed (S S' : St) : safeA S S' passed = true := rfl
theorem safe_agg (S S' : St) (cs : List AV) : safeA S S' (.agg cs) = true := rfl
theorem safe_of {S S' : St} {x : AV} {sz : Nat} {xs : List AV} (h : IsV sz x xs) : safeA S S' x = true := by
  rcases h with ⟨rfl, _⟩ | ⟨id, rfl⟩ <;> rfl
theorem safe_grow {S S' : St} {y : AV} {l : Nat} (hl : l < S.no) (g : Grow S S' y) (off : Nat) : safeA S S' (.ptr l off) = true := by
  have h1 : Nat.blt l S.no = true := Nat.ble_eq_true_of_le hl
  simp only [safeA, objId, h1, g.ver l hl, Nat.beq_refl, Bool.and_self]
theorem safe_map {S S' : St} {y : AV} {l : Nat} (hl : l < S.no) (g : Grow S S' y) : safeA S S' (.mp l) = true := safe_grow hl g 0

theorem draw_run2 (hc : CallEvo call) {ops : Array Oper} {n : Nat} {l : List POp} {as : List Operand} (h : DrawIs E nt ops n l as) {tm : PM AV} {S : St} {tm' : PM AV} {S' : St} (hr : evL E call l tm (S.raise n) = some (tm', S')) (ho : safeAll E S S' tm' as = true) : evDraw E call nt ops tm S = some (tm', S') := by
  have hs := seq_of_evL _ _ _ _ _ h.pops hr
  rw [← h.size] at hs
  obtain ⟨hist, ls, hgo, k1, k2⟩ := draw_of_seq3 hc (m := masks 0 ops.toList .leaf) (b0 := S.no) h.nomk ops.toList 0 tm _ tm' S' rfl hs
  have hl : ls.all (loadOk E ops (masks 0 ops.toList .leaf) S.no ops.size hist) = true := by
    refine List.all_eq_true.2 fun p hp => ?_
    obtain ⟨y, hy, hy2, a, ha, hna⟩ := k2 p hp
    have hin := freeLoads_at _ _ _ h.loads p.1 y (by simpa using hy) hy2
    rw [Nat.zero_add] at hin
    rcases hin with hin | ⟨a2, ha2, hmem, hnd⟩
    · simp only [loadOk, mkAt_off h.nomk, Bool.not_false, Bool.or_true, Bool.true_or, Bool.and_true]
      refine List.all_eq_true.2 fun x hx => ?_
      obtain ⟨o, ho, ho2, _⟩ := k1 x hx
      have := loadsIn_at _ _ hin x.1 o (by simpa using ho) ho2
      rw [Nat.zero_add] at this
      rcases this with h | h <;> simp [h]
    · rw [ha] at ha2
      simp only [Option.some.injEq] at ha2
      subst ha2
      have h1 := hna hnd
      have h2 := List.all_eq_true.1 ho a hmem
      simp only [safeA, h1, Bool.and_eq_true] at h2
      have h3 : p.2 < S.no := Nat.le_of_ble_eq_true h2.1
      have h4 := Nat.eq_of_beq_eq_true h2.2
      simp only [loadOk, h2.1, Bool.true_or, Bool.and_true]
      refine List.all_eq_true.2 fun x hx => ?_
      obtain ⟨o, _, _, e1, e2, e3⟩ := k1 x hx
      have q1 : (S.raise ops.size).no = S.no + ops.size := rfl
      have q2 := e1.no
      have q3 := e2.no
      have v1 : S.ver p.2 ≤ x.2.1.ver p.2 := e1.ver p.2 (by omega)
      have v2 := e2.ver p.2 (by omega)
      have v3 := e3.ver p.2 (by omega)
      have b1 : Nat.blt p.2 x.2.1.no = true := Nat.ble_eq_true_of_le (by omega)
      have b2 : Nat.beq (x.2.1.ver p.2) (x.2.2.ver p.2) = true := by
        have : x.2.1.ver p.2 = x.2.2.ver p.2 := by omega
        rw [this, Nat.beq_refl]
      simp [b1, b2]
  have e : evDraw E call nt ops tm S = (bif allPairs E ops (masks 0 ops.toList .leaf) 0 ops.toList then
    match evDrawGo E call nt ops (masks 0 ops.toList .leaf) S.no 0 ops.toList tm (S.raise ops.size) with
    | some (tm', S', hist, ls) => bif ls.all (loadOk E ops (masks 0 ops.toList .leaf) S.no ops.size hist) then some (tm', S') else none
    | none => none
  else none) := rfl
  rw [e, h.pairs, hgo]
  simp only [cond_true, hl]
theorem e_draw2 {k : List KI} {Q : PostA} {tm : PM AV} {S : St} {ops : Array Oper} {n : Nat} {l : List POp} {as : List Operand} (hX : EvoX E) (h : DrawIs E nt ops n l as)
    (hE : EndsA E nt [.c (.reg l)] .nrm tm (S.raise n) fun o tm' S' => o = .nrm ∧ safeAll E S S' tm' as = true ∧ EndsA E nt k .nrm tm' S' Q) : EndsA E nt (.c (.draw ops) :: k) .nrm tm S Q := by
  obtain ⟨N, o', tm1, S1, h1, rfl, ho, N2, o2, tm2, S2, h2, hq⟩ := hE
  refine ⟨max N N2, o2, tm2, S2, fun lf n hl hn => ?_, hq⟩
  have h3 := h1 lf n (by omega) (by omega)
  simp only [runK, evP] at h3
  cases he : evL E (evF E lf n) l tm (S.raise _) with
  | none => rw [he] at h3; simp at h3
  | some r =>
    obtain ⟨ta, Sa⟩ := r
    rw [he] at h3
    simp only [runK, Option.some.injEq, Prod.mk.injEq, true_and] at h3
    obtain ⟨rfl, rfl⟩ := h3
    have hc : CallEvo (evF E lf n) := evF_evo hX.evo lf n
    have := draw_run2 hc h he ho
    simp only [runK, evP, this]
    exact h2 lf n (by omega) (by omega)
end
end Go.Abs
