/-
  Regions of open order, once more: what is loaded out of order may come from an object that nobody has written meanwhile.
  Regions of open order in which one thing is made.
  Regions of open order in two parts: what is loaded out of order in the first is left alone in the first.
-/
import Derived.Test.YtmmnkemcplgebaaGreatDoorQAV
section
section
set_option linter.unusedSimpArgs false
set_option linter.unusedVariables false
namespace Go.Abs
noncomputable def objId : AV → Option Nat
 | .ptr l _ => some l
 | .osl l _ _ _ _ => some l
 | .mp l => some l
 | _ => none
section
variable {E : Env} {call : CallFn} {nt : Nat}
theorem loads_id {tm : PM AV} {o : Oper} {l : Nat} (h : loadsFrom E tm o = some l) : ∃ a, opdOf o.op = some a ∧ objId (E.ev tm a) = some l := by
 obtain ⟨dst, op, ty, pos, after, guard⟩ := o
 cases op with
 | load t a =>
  refine ⟨a, rfl, ?_⟩
  simp only [loadsFrom] at h
  split at h
  · rename_i e; rw [e]; exact h
  · cases h
 | convert t u a =>
  refine ⟨a, rfl, ?_⟩
  simp only [loadsFrom] at h
  split at h
  · rename_i e; rw [e]; exact h
  · rename_i e; rw [e]; exact h
  · cases h
 | slice t a lo hi mx =>
  refine ⟨a, rfl, ?_⟩
  cases mx with
  | some m => simp only [loadsFrom] at h; cases h
  | none =>
   simp only [loadsFrom] at h
   split at h
   · rename_i e; rw [e]; exact h
   · cases h
 | lookup t a i ok =>
  refine ⟨a, rfl, ?_⟩
  simp only [loadsFrom] at h
  split at h
  · rename_i e; rw [e]; exact h
  · cases h
 | call c =>
  obtain ⟨callee, args, ats⟩ := c
  cases callee with
  | builtin b =>
   cases b <;> simp only [loadsFrom] at h <;> try cases h
   split at h
   · rename_i l' e
     cases ha : args.toList with
     | nil => rw [ha] at e; cases e
     | cons a r =>
      rw [ha] at e
      simp only [List.map_cons, List.cons.injEq] at e
      refine ⟨a, by simp only [opdOf, ha]; rfl, ?_⟩
      rw [e.1]; exact h
   · cases h
  | _ => simp only [loadsFrom] at h; cases h
 | _ => simp only [loadsFrom] at h; cases h
theorem draw_of_seq3 (hc : CallEvo call) {ops : Array Oper} {m : PM Nat} {b0 : Nat} (hmk : ops.toList.all (fun o => !isMk E o) = true) : ∀ (l : List Oper) (i : Nat) (tm : PM AV) (S : St) (tm' : PM AV) (S' : St), ops.toList.drop i = l → evSeq E call nt ops l tm S = some (tm', S') →
 ∃ hist ls, evDrawGo E call nt ops m b0 i l tm S = some (tm', S', hist, ls) ∧ (∀ h ∈ hist, ∃ o, ops[h.1]? = some o ∧ loudOp E o.op = true ∧ Evo S h.2.1 ∧ Evo h.2.1 h.2.2 ∧ Evo h.2.2 S') ∧
  (∀ p ∈ ls, ∃ o, ops[p.1]? = some o ∧ mayLoad o.op = true ∧ ∃ a, opdOf o.op = some a ∧ (notDst a (ops.toList.drop p.1) = true → objId (E.ev tm' a) = some p.2.1))
 | [], i, tm, S, tm', S', _, h => by
  simp only [evSeq, Option.some.injEq, Prod.mk.injEq] at h
  obtain ⟨rfl, rfl⟩ := h
  exact ⟨[], [], rfl, by simp, by simp⟩
 | o :: l, i, tm, S, tm', S', hd, h => by
  have hwhole := h
  have hko : ops[i]? = some o := by
   have h0 : (ops.toList.drop i)[0]? = some o := by rw [hd]; rfl
   rw [List.getElem?_drop] at h0
   simpa using h0
  have hrest : ops.toList.drop (i + 1) = l := by rw [← List.drop_drop, hd]; rfl
  have hmo : isMk E o = false := by
   have := List.all_eq_true.1 hmk o (by simpa using Array.mem_of_getElem? hko)
   simpa using this
  have hm0 := fun k => mkAt_off hmk k
  simp only [evSeq] at h
  simp only [evDrawGo]
  split at h
  · simp at h
  · split at h
    · rename_i tm1 hp
      exact draw_of_seq3 hc hmk l (i + 1) _ _ _ _ hrest h
    · simp at h
  · simp only [evOp, hmo, cond_false] at h ⊢
    split at h
    · simp at h
    · rename_i v S1 hev
      split at h
      · rename_i tm1 hp
        have hev1 : Evo S S1 := plain_evo hc o hmo hev
        have hev2 : Evo S1 S' := seq_evo hc _ _ _ _ _ h
        obtain ⟨hist, ls, hgo, h1, h2⟩ := draw_of_seq3 hc hmk l (i + 1) _ _ _ _ hrest h
        have h1' : ∀ h ∈ hist, ∃ o, ops[h.1]? = some o ∧ loudOp E o.op = true ∧ Evo S h.2.1 ∧ Evo h.2.1 h.2.2 ∧ Evo h.2.2 S' := fun x hx => by
         obtain ⟨o2, a1, a2, a3, a4⟩ := h1 x hx
         exact ⟨o2, a1, a2, hev1.trans a3, a4⟩
        cases hq : loudOp E o.op with
        | true =>
         have e1 : S.masked (mkAt E ops) m b0 i = S := by
          unfold St.masked; rw [maskF_off hm0]
         have e2 : S1.unmasked S (mkAt E ops) m b0 i = S1 := by
          unfold St.unmasked; rw [unmaskF_off hm0]
         simp only [cond_true, e1, hev, hp, e2]
         rw [hgo]
         refine ⟨_, _, rfl, fun x hx => ?_, h2⟩
         rcases List.mem_cons.1 hx with rfl | hx
         · exact ⟨o, hko, hq, Evo.refl _, hev1, hev2⟩
         · exact h1' x hx
        | false =>
         simp only [cond_false]
         rw [hgo]
         refine ⟨_, _, rfl, h1', fun x hx => ?_⟩
         cases hld : loadsFrom E tm o with
         | none => rw [hld] at hx; exact h2 x hx
         | some b =>
          rw [hld] at hx
          rcases List.mem_cons.1 hx with rfl | hx
          · obtain ⟨a, ha, hob⟩ := loads_id hld
            refine ⟨o, hko, ?_, a, ha, fun hn => ?_⟩
            · cases hml : mayLoad o.op with
              | true => rfl
              | false => rw [plain_no_load hml] at hld; simp at hld
            · simp only [hd] at hn
              rw [seq_keep _ _ _ _ _ hwhole hn]
              exact hob
          · exact h2 x hx
      · simp at h
noncomputable def safeA (S S' : St) (x : AV) : Bool := match objId x with
 | none => true
 | some l => Nat.blt l S.no && Nat.beq (S.ver l) (S'.ver l)
noncomputable def safeAll (E : Env) (S S' : St) (tm : PM AV) (az : List Operand) : Bool := az.all fun a => safeA S S' (E.ev tm a)
theorem safe_nil (S S' : St) (tm : PM AV) : safeAll E S S' tm [] = true := rfl
theorem safe_cons (S S' : St) (tm : PM AV) (a : Operand) (r : List Operand) : safeAll E S S' tm (a :: r) = (safeA S S' (E.ev tm a) && safeAll E S S' tm r) := by simp [safeAll]
theorem safe_vec (S S' : St) (id sz : Nat) (xs : List AV) : safeA S S' (.vec id sz xs) = true := rfl
theorem safe_sc (S S' : St) (v : Value) : safeA S S' (.sc v) = true := rfl
theorem safe_grow {S S' : St} {y : AV} {l : Nat} (hl : l < S.no) (g : Grow S S' y) (off : Nat) : safeA S S' (.ptr l off) = true := by
 have h1 : Nat.blt l S.no = true := Nat.ble_eq_true_of_le hl
 simp only [safeA, objId, h1, g.ver l hl, Nat.beq_refl, Bool.and_self]
end
end Go.Abs
end
end

section
section
set_option linter.unusedSimpArgs false
set_option linter.unusedVariables false
namespace Go.Abs
section
variable {E : Env} {call : CallFn} {nt : Nat}
noncomputable def seenIn (E : Env) (ops : Array Oper) (m : PM Nat) (j : Nat) : Nat → Bool
 | 0 => true
 | k + 1 => (!mkAt E ops k || bit m j k) && seenIn E ops m j k
noncomputable def seenAll (E : Env) (ops : Array Oper) (m : PM Nat) : Nat → List Oper → Bool
 | _, [] => true
 | j, o :: r => (!loudOp E o.op || seenIn E ops m j j) && seenAll E ops m (j + 1) r
noncomputable def allLoads : List Oper → Option (List Operand)
 | [] => some []
 | o :: r => match allLoads r with
  | none => none
  | some l => bif !mayLoad o.op then some l else match opdOf o.op with
   | some a => bif notDst a (o :: r) then some (a :: l) else none
   | none => none
structure DrawMk (E : Env) (nt : Nat) (ops : Array Oper) (n : Nat) (l1 : List POp) (i : Nat) (d : Option Tmp) (op : Op) (l2 : List POp) (az : List Operand) : Prop where
 size : ops.size = n
 parts : ∃ p o r, ops.toList = p ++ o :: r ∧ p.length = i ∧ o.dst = d ∧ o.op = op ∧ o.guard = none ∧ dstOk nt d = true ∧ isMk E o = true ∧ popsOf nt ops p = some l1 ∧ popsOf nt ops r = some l2 ∧ p.all (fun o => !isMk E o) = true ∧ r.all (fun o => !isMk E o) = true
 pairs : allPairs E ops (masks 0 ops.toList .leaf) 0 ops.toList = true
 seen : seenAll E ops (masks 0 ops.toList .leaf) 0 ops.toList = true
 loads : allLoads ops.toList = some az
end
end Go.Abs
end
end

section
section
set_option linter.unusedSimpArgs false
set_option linter.unusedVariables false
namespace Go.Abs
section
variable {E : Env} {call : CallFn} {nt : Nat}
theorem drawGo_idx {ops : Array Oper} {m : PM Nat} {b0 : Nat} : ∀ (l : List Oper) (i : Nat) (tm : PM AV) (S : St) (tm' : PM AV) (S' : St) (hist : List (Nat × St × St)) (ls : List (Nat × Nat × Option (TypeId × Nat))), evDrawGo E call nt ops m b0 i l tm S = some (tm', S', hist, ls) →
 (∀ h ∈ hist, i ≤ h.1) ∧ (∀ p ∈ ls, i ≤ p.1)
 | [], i, tm, S, tm', S', hist, ls, h => by
  simp only [evDrawGo, Option.some.injEq, Prod.mk.injEq] at h
  obtain ⟨_, _, rfl, rfl⟩ := h
  simp
 | o :: l, i, tm, S, tm', S', hist, ls, h => by
  have up : ∀ {tm S}, evDrawGo E call nt ops m b0 (i + 1) l tm S = some (tm', S', hist, ls) → (∀ h ∈ hist, i ≤ h.1) ∧ (∀ p ∈ ls, i ≤ p.1) := fun h' => by
   have := drawGo_idx l (i + 1) _ _ _ _ _ _ h'
   exact ⟨fun x hx => by have := this.1 x hx; omega, fun x hx => by have := this.2 x hx; omega⟩
  simp only [evDrawGo] at h
  split at h
  · simp at h
  · split at h
    · exact up h
    · simp at h
  · cases hm : isMk E o with
    | true =>
     simp only [hm, cond_true] at h
     split at h
     · simp at h
     · split at h
       · exact up h
       · simp at h
    | false =>
     simp only [hm, cond_false] at h
     cases hq : loudOp E o.op with
     | true =>
      simp only [hq, cond_true] at h
      split at h
      · simp at h
      · split at h
        · split at h
          · rename_i hgo
            simp only [Option.some.injEq, Prod.mk.injEq] at h
            obtain ⟨rfl, rfl, rfl, rfl⟩ := h
            have := drawGo_idx l (i + 1) _ _ _ _ _ _ hgo
            refine ⟨fun x hx => ?_, fun x hx => by have := this.2 x hx; omega⟩
            rcases List.mem_cons.1 hx with rfl | hx
            · exact Nat.le_refl _
            · have := this.1 x hx; omega
          · simp at h
        · simp at h
     | false =>
      simp only [hq, cond_false] at h
      split at h
      · simp at h
      · split at h
        · split at h
          · rename_i hgo
            simp only [Option.some.injEq, Prod.mk.injEq] at h
            obtain ⟨rfl, rfl, rfl, rfl⟩ := h
            have := drawGo_idx l (i + 1) _ _ _ _ _ _ hgo
            refine ⟨fun x hx => by have := this.1 x hx; omega, fun x hx => ?_⟩
            cases hld : loadsFrom E tm o with
            | none => rw [hld] at hx; have := this.2 x hx; omega
            | some b =>
             rw [hld] at hx
             rcases List.mem_cons.1 hx with rfl | hx
             · exact Nat.le_refl _
             · have := this.2 x hx; omega
          · simp at h
        · simp at h
theorem draw_of_seqC (hc : CallEvo call) {ops : Array Oper} {m : PM Nat} {b0 : Nat} (hmk : ops.toList.all (fun o => !isMk E o) = true) : ∀ (p r : List Oper) (i : Nat) (tm : PM AV) (S : St) (tm1 : PM AV) (S1 : St) (tm2 : PM AV) (S2 : St), ops.toList.drop i = p ++ r → evSeq E call nt ops p tm S = some (tm1, S1) → evSeq E call nt ops r tm1 S1 = some (tm2, S2) →
 ∃ hist ls, evDrawGo E call nt ops m b0 i (p ++ r) tm S = some (tm2, S2, hist, ls) ∧
  (∀ h ∈ hist, ∃ o, ops[h.1]? = some o ∧ loudOp E o.op = true ∧ (i + p.length ≤ h.1 ∨ (Evo S h.2.1 ∧ Evo h.2.1 h.2.2 ∧ Evo h.2.2 S1))) ∧
  (∀ q ∈ ls, ∃ o, ops[q.1]? = some o ∧ mayLoad o.op = true ∧ (i + p.length ≤ q.1 ∨ (i ≤ q.1 ∧ ∃ a, opdOf o.op = some a ∧ (notDst a (p.drop (q.1 - i)) = true → objId (E.ev tm1 a) = some q.2.1))))
 | [], r, i, tm, S, tm1, S1, tm2, S2, hd, hp, hr => by
  simp only [evSeq, Option.some.injEq, Prod.mk.injEq] at hp
  obtain ⟨rfl, rfl⟩ := hp
  obtain ⟨hist, ls, hgo, h1, h2⟩ := draw_of_seq3 hc (m := m) (b0 := b0) hmk r i tm S tm2 S2 hd hr
  have hidx := drawGo_idx _ _ _ _ _ _ _ _ hgo
  refine ⟨hist, ls, hgo, fun x hx => ?_, fun x hx => ?_⟩
  · obtain ⟨o, a1, a2, _⟩ := h1 x hx
    exact ⟨o, a1, a2, .inl (hidx.1 x hx)⟩
  · obtain ⟨o, a1, a2, _⟩ := h2 x hx
    exact ⟨o, a1, a2, .inl (hidx.2 x hx)⟩
 | o :: l, r, i, tm, S, tm1, S1, tm2, S2, hd, hp, hr => by
  have hwhole := hp
  have hko : ops[i]? = some o := by
   have h0 : (ops.toList.drop i)[0]? = some o := by rw [hd]; rfl
   rw [List.getElem?_drop] at h0
   simpa using h0
  have hrest : ops.toList.drop (i + 1) = l ++ r := by rw [← List.drop_drop, hd]; rfl
  have hmo : isMk E o = false := by
   have := List.all_eq_true.1 hmk o (by simpa using Array.mem_of_getElem? hko)
   simpa using this
  have hm0 := fun k => mkAt_off hmk k
  have later : ∀ {x : Nat × Nat × Option (TypeId × Nat)}, (∃ o, ops[x.1]? = some o ∧ mayLoad o.op = true ∧ (i + 1 + l.length ≤ x.1 ∨ (i + 1 ≤ x.1 ∧ ∃ a, opdOf o.op = some a ∧ (notDst a (l.drop (x.1 - (i + 1))) = true → objId (E.ev tm1 a) = some x.2.1)))) →
   ∃ o', ops[x.1]? = some o' ∧ mayLoad o'.op = true ∧ (i + (o :: l).length ≤ x.1 ∨ (i ≤ x.1 ∧ ∃ a, opdOf o'.op = some a ∧ (notDst a ((o :: l).drop (x.1 - i)) = true → objId (E.ev tm1 a) = some x.2.1))) := by
   rintro x ⟨o2, a1, a2, a3 | ⟨a3, a, a4, a5⟩⟩
   · exact ⟨o2, a1, a2, .inl (by simp; omega)⟩
   · refine ⟨o2, a1, a2, .inr ⟨by omega, a, a4, fun hn => a5 ?_⟩⟩
     rwa [show x.1 - i = (x.1 - (i + 1)) + 1 by omega, List.drop_succ_cons] at hn
  simp only [evSeq] at hp
  simp only [List.cons_append, evDrawGo]
  rcases hw : wantedA ops tm o with _ | _ | _
  · simp only [hw] at hp; cases hp
  · simp only [hw] at hp ⊢
    split at hp
    · rename_i tm' hput
      try simp only [hput]
      obtain ⟨hist, ls, hgo, h1, h2⟩ := draw_of_seqC hc (m := m) (b0 := b0) hmk l r (i + 1) _ _ _ _ _ _ hrest hp hr
      refine ⟨hist, ls, hgo, fun x hx => ?_, fun x hx => later (h2 x hx)⟩
      obtain ⟨o2, a1, a2, a3 | a3⟩ := h1 x hx
      · exact ⟨o2, a1, a2, .inl (by simp; omega)⟩
      · exact ⟨o2, a1, a2, .inr a3⟩
    · simp at hp
  · simp only [hw, evOp, hmo, cond_false] at hp ⊢
    split at hp
    · simp at hp
    · rename_i v S' hev
      split at hp
      · rename_i tm' hput
        have hev1 : Evo S S' := plain_evo hc o hmo hev
        have hev2 : Evo S' S1 := seq_evo hc _ _ _ _ _ hp
        obtain ⟨hist, ls, hgo, h1, h2⟩ := draw_of_seqC hc (m := m) (b0 := b0) hmk l r (i + 1) _ _ _ _ _ _ hrest hp hr
        have h1' : ∀ h ∈ hist, ∃ o', ops[h.1]? = some o' ∧ loudOp E o'.op = true ∧ (i + (o :: l).length ≤ h.1 ∨ (Evo S h.2.1 ∧ Evo h.2.1 h.2.2 ∧ Evo h.2.2 S1)) := fun x hx => by
         obtain ⟨o2, a1, a2, a3 | ⟨a3, a4⟩⟩ := h1 x hx
         · exact ⟨o2, a1, a2, .inl (by simp; omega)⟩
         · exact ⟨o2, a1, a2, .inr ⟨hev1.trans a3, a4⟩⟩
        cases hq : loudOp E o.op with
        | true =>
         have e1 : S.masked (mkAt E ops) m b0 i = S := by
          unfold St.masked; rw [maskF_off hm0]
         have e2 : S'.unmasked S (mkAt E ops) m b0 i = S' := by
          unfold St.unmasked; rw [unmaskF_off hm0]
         simp only [cond_true, e1, hev, hput, e2, hgo]
         refine ⟨_, _, rfl, fun x hx => ?_, fun x hx => later (h2 x hx)⟩
         rcases List.mem_cons.1 hx with rfl | hx
         · exact ⟨o, hko, hq, .inr ⟨Evo.refl _, hev1, hev2⟩⟩
         · exact h1' x hx
        | false =>
         simp only [cond_false, hgo]
         refine ⟨_, _, rfl, h1', fun x hx => ?_⟩
         cases hld : loadsFrom E tm o with
         | none => rw [hld] at hx; exact later (h2 x hx)
         | some b =>
          rw [hld] at hx
          rcases List.mem_cons.1 hx with rfl | hx
          · obtain ⟨a, ha, hob⟩ := loads_id hld
            refine ⟨o, hko, ?_, .inr ⟨Nat.le_refl _, a, ha, fun hn => ?_⟩⟩
            · cases hml : mayLoad o.op with
              | true => rfl
              | false => rw [plain_no_load hml] at hld; simp at hld
            · simp only [Nat.sub_self, List.drop_zero] at hn
              rw [seq_keep _ _ _ _ _ hwhole hn]
              exact hob
          · exact later (h2 x hx)
      · simp at hp
noncomputable def freeLoadsC (E : Env) (m : PM Nat) (all : List Oper) (c : Nat) : Nat → List Oper → Option (List Operand)
 | _, [] => some []
 | i, o :: r => match freeLoadsC E m all c (i + 1) r with
  | none => none
  | some l => bif !mayLoad o.op || loadsIn E m i o 0 all then some l else
   bif Nat.blt i c && loadsIn E m i o c (all.drop c) then match opdOf o.op with
    | some a => bif notDst a ((o :: r).take (c - i)) then some (a :: l) else none
    | none => none
   else none
theorem freeLoadsC_at {m : PM Nat} {all : List Oper} {c : Nat} : ∀ (l : List Oper) (i : Nat) (az : List Operand), freeLoadsC E m all c i l = some az → ∀ k y, l[k]? = some y → mayLoad y.op = true →
 loadsIn E m (i + k) y 0 all = true ∨ (i + k < c ∧ loadsIn E m (i + k) y c (all.drop c) = true ∧ ∃ a, opdOf y.op = some a ∧ a ∈ az ∧ notDst a ((l.drop k).take (c - (i + k))) = true) := by
 intro l
 induction l with
 | nil => intro i az _ k y hy; simp at hy
 | cons y r ih =>
  intro i az h k y' hy hl
  simp only [freeLoadsC] at h
  split at h
  · cases h
  · rename_i as' h'
    have out : (as' = az ∧ (!mayLoad y.op || loadsIn E m i y 0 all) = true) ∨ (i < c ∧ loadsIn E m i y c (all.drop c) = true ∧ ∃ a, opdOf y.op = some a ∧ notDst a ((y :: r).take (c - i)) = true ∧ a :: as' = az) := by
     cases hb : (!mayLoad y.op || loadsIn E m i y 0 all) with
     | true => rw [hb] at h; simp only [cond_true, Option.some.injEq] at h; exact .inl ⟨h, rfl⟩
     | false =>
      rw [hb] at h
      simp only [cond_false] at h
      cases hb2 : (Nat.blt i c && loadsIn E m i y c (all.drop c)) with
      | false => rw [hb2] at h; cases h
      | true =>
       rw [hb2] at h
       simp only [cond_true] at h
       simp only [Bool.and_eq_true] at hb2
       split at h
       · rename_i a2 ha2
         cases hn : notDst a2 ((y :: r).take (c - i)) with
         | false => rw [hn] at h; cases h
         | true =>
          rw [hn] at h
          simp only [cond_true, Option.some.injEq] at h
          exact .inr ⟨Nat.le_of_ble_eq_true hb2.1, hb2.2, a2, ha2, hn, h⟩
       · cases h
    cases k with
    | zero =>
     simp only [List.getElem?_cons_zero, Option.some.injEq] at hy
     subst hy
     rcases out with ⟨_, h1⟩ | ⟨h1, h2, a, h3, h4, h5⟩
     · rw [hl] at h1
       simp only [Bool.not_true, Bool.false_or] at h1
       exact .inl h1
     · exact .inr ⟨h1, h2, a, h3, by rw [← h5]; exact List.mem_cons_self .., h4⟩
    | succ k =>
     have sub : ∀ a, a ∈ as' → a ∈ az := by
      intro a ha
      rcases out with ⟨h1, _⟩ | ⟨_, _, a2, _, _, h5⟩
      · rw [← h1]; exact ha
      · rw [← h5]; exact List.mem_cons_of_mem _ ha
     rcases ih (i + 1) as' h' k y' (by simpa using hy) hl with e | ⟨e1, e2, a, e3, e4, e5⟩
     · rw [show i + 1 + k = i + (k + 1) by omega] at e; exact .inl e
     · rw [show i + 1 + k = i + (k + 1) by omega] at e1 e2 e5
       exact .inr ⟨e1, e2, a, e3, sub a e4, by rw [List.drop_succ_cons]; exact e5⟩
structure DrawC (E : Env) (nt : Nat) (ops : Array Oper) (n c : Nat) (l1 l2 : List POp) (az : List Operand) : Prop where
 size : ops.size = n
 cut : c ≤ n
 pops1 : popsOf nt ops (ops.toList.take c) = some l1
 pops2 : popsOf nt ops (ops.toList.drop c) = some l2
 pairs : allPairs E ops (masks 0 ops.toList .leaf) 0 ops.toList = true
 nomk : ops.toList.all (fun o => !isMk E o) = true
 loads : freeLoadsC E (masks 0 ops.toList .leaf) ops.toList c 0 ops.toList = some az
theorem e_drawC {k : List KI} {Q : PostA} {tm : PM AV} {S : St} {ops : Array Oper} {n c : Nat} {l1 l2 : List POp} {az : List Operand} (hX : EvoX E) (h : DrawC E nt ops n c l1 l2 az)
 (hE : EndsA E nt [.c (.reg l1)] .nrm tm (S.raise n) fun o tm1 S1 => o = .nrm ∧ safeAll E S S1 tm1 az = true ∧ EndsA E nt (.c (.reg l2) :: k) .nrm tm1 S1 Q) :
 EndsA E nt (.c (.draw ops) :: k) .nrm tm S Q := by
 obtain ⟨N, o', tm1, S1, h1, rfl, ho, N2, o2, tm2, S2, h2, hq⟩ := hE
 refine ⟨max N N2, o2, tm2, S2, fun lf n' hl hn => ?_, hq⟩
 have hc : CallEvo (evF E lf n') := evF_evo hX.evo lf n'
 have g1 := h1 lf n' (by omega) (by omega)
 have g2 := h2 lf n' (by omega) (by omega)
 simp only [runK, evP] at g1 g2
 cases he : evL E (evF E lf n') l1 tm (S.raise _) with
 | none => rw [he] at g1; simp at g1
 | some q =>
  obtain ⟨ta, Sa⟩ := q
  rw [he] at g1
  simp only [Option.some.injEq, Prod.mk.injEq, true_and] at g1
  obtain ⟨rfl, rfl⟩ := g1
  cases he2 : evL E (evF E lf n') l2 ta Sa with
  | none => rw [he2] at g2; simp at g2
  | some q2 =>
   obtain ⟨tb, Sb⟩ := q2
   rw [he2] at g2
   have s1 := seq_of_evL _ _ _ _ _ h.pops1 he
   have s2 := seq_of_evL _ _ _ _ _ h.pops2 he2
   have hsz := h.size
   have hcl : (ops.toList.take c).length = c := by rw [List.length_take]; have := h.cut; simp; omega
   obtain ⟨hist, ls, hgo, k1, k2⟩ := draw_of_seqC hc (m := masks 0 ops.toList .leaf) (b0 := S.no) h.nomk (ops.toList.take c) (ops.toList.drop c) 0 tm _ ta Sa tb Sb (by rw [List.take_append_drop]; rfl) s1 s2
   rw [List.take_append_drop] at hgo
   rw [Nat.zero_add, hcl] at k1 k2
   have hl : ls.all (loadOk E ops (masks 0 ops.toList .leaf) S.no ops.size hist) = true := by
    refine List.all_eq_true.2 fun q hq => ?_
    obtain ⟨y, hy, hy2, hcase⟩ := k2 q hq
    have hin := freeLoadsC_at _ _ _ h.loads q.1 y (by simpa using hy) hy2
    rw [Nat.zero_add] at hin
    rcases hin with hin | ⟨hlt, hin, a, ha, hmem, hnd⟩
    · simp only [loadOk, mkAt_off h.nomk, Bool.not_false, Bool.or_true, Bool.true_or, Bool.and_true]
      refine List.all_eq_true.2 fun x hx => ?_
      obtain ⟨o, ho, ho2, _⟩ := k1 x hx
      have := loadsIn_at _ _ hin x.1 o (by simpa using ho) ho2
      rw [Nat.zero_add] at this
      rcases this with h | h <;> simp [h]
    · rcases hcase with hge | ⟨_, a2, ha2, hna⟩
      · omega
      rw [ha] at ha2
      simp only [Option.some.injEq] at ha2
      subst ha2
      have hnd' : notDst a ((ops.toList.take c).drop (q.1 - 0)) = true := by
       rw [Nat.sub_zero, List.drop_take]
       exact hnd
      have h1' := hna hnd'
      have h2' := List.all_eq_true.1 ho a hmem
      simp only [safeA, h1', Bool.and_eq_true] at h2'
      have h3 : q.2.1 < S.no := Nat.le_of_ble_eq_true h2'.1
      have h4 := Nat.eq_of_beq_eq_true h2'.2
      simp only [loadOk, h2'.1, Bool.true_or, Bool.and_true]
      refine List.all_eq_true.2 fun x hx => ?_
      obtain ⟨o, ho, ho2, hge | ⟨e1, e2, e3⟩⟩ := k1 x hx
      · have := loadsIn_at _ _ hin (x.1 - c) o (by rw [List.getElem?_drop, show c + (x.1 - c) = x.1 by omega]; simpa using ho) ho2
        rw [show c + (x.1 - c) = x.1 by omega] at this
        rcases this with h | h <;> simp [h]
      · have q2 := e1.no
        have q3 := e2.no
        have hno : S.no ≤ x.2.1.no := Nat.le_trans (Nat.le_add_right _ _) q2
        have v1 : S.ver q.2.1 ≤ x.2.1.ver q.2.1 := e1.ver q.2.1 (Nat.lt_of_lt_of_le h3 (Nat.le_add_right _ _))
        have v2 := e2.ver q.2.1 (by omega)
        have v3 := e3.ver q.2.1 (by omega)
        have b1 : Nat.blt q.2.1 x.2.1.no = true := Nat.ble_eq_true_of_le (by omega)
        have b2 : Nat.beq (x.2.1.ver q.2.1) (x.2.2.ver q.2.1) = true := by
         have : x.2.1.ver q.2.1 = x.2.2.ver q.2.1 := by omega
         rw [this, Nat.beq_refl]
        simp [b1, b2]
   have e : evDraw E (evF E lf n') nt ops tm S = (bif allPairs E ops (masks 0 ops.toList .leaf) 0 ops.toList then
    match evDrawGo E (evF E lf n') nt ops (masks 0 ops.toList .leaf) S.no 0 ops.toList tm (S.raise ops.size) with
    | some (tm', S', hist, ls) => bif ls.all (loadOk E ops (masks 0 ops.toList .leaf) S.no ops.size hist) then some (tm', S') else none
    | none => none
   else none) := rfl
   have hd : evDraw E (evF E lf n') nt ops tm S = some (tb, Sb) := by
    rw [e, h.pairs]
    rw [← hsz] at hgo
    simp only [cond_true, hgo, hl]
   simp only [runK, evP, hd]
   exact g2
end
end Go.Abs
end
end
