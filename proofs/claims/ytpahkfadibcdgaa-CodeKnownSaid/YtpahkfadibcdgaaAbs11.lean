/-
  Regions whose order is open: whatever order is picked, what the lexical walk gives.
-/
import Derived.Test.YtpahkfadibcdgaaAbs10
namespace Go.Abs
open Go.RowKit

section
variable {E : Env} {S S' S2 : St} {v : AV} {tm tm2 : PM AV} {call : CallFn}

theorem evOp_congr (o : Oper) (h : ∀ x ∈ o.op.operands, E.ev tm x = E.ev tm2 x) : evOp E call tm o S = evOp E call tm2 o S := by
  obtain ⟨dst, op, type, pos, after, guard⟩ := o
  have pairs : ∀ ps : Array (Nat × Operand), (∀ x ∈ ps.map (·.2), E.ev tm x = E.ev tm2 x) →
      (ps.toList.map fun p => (p.1, E.ev tm p.2)) = (ps.toList.map fun p => (p.1, E.ev tm2 p.2)) := fun ps hp =>
    List.map_congr_left fun p hm => by
      rw [hp p.2 (Array.mem_map.2 ⟨p, by simpa using hm, rfl⟩)]
  have args : ∀ xs : Array Operand, (∀ x ∈ xs, E.ev tm x = E.ev tm2 x) → xs.toList.map (E.ev tm) = xs.toList.map (E.ev tm2) := fun xs hx =>
    List.map_congr_left fun x hm => hx x (by simpa using hm)
  cases op with
  | build t ps => simp only [Op.operands] at h; simp only [evOp]; rw [pairs ps fun x hx => h x (by simpa using hx)]
  | buildSlice t n ps => simp only [Op.operands] at h; simp only [evOp]; rw [pairs ps fun x hx => h x (by simpa using hx)]
  | makeFunc f x y =>
    simp only [Op.operands] at h
    simp only [evOp]
    rw [args x fun z hz => h z (by simp [hz]), args y fun z hz => h z (by simp [hz])]
  | call c =>
    obtain ⟨callee, xs, ats⟩ := c
    simp only [Op.operands, Call.operands] at h
    simp only [evOp, callA]
    rw [args xs fun z hz => h z (by simp [hz])]
    cases callee with
    | value f => simp only; rw [h f (by simp)]
    | _ => rfl
  | slice t x lo hi mx =>
    simp only [Op.operands] at h
    cases mx with
    | some m => simp [evOp]
    | none =>
      simp only [evOp]
      have h1 := h x (by simp)
      cases lo <;> cases hi <;> simp_all
  | move x => simp only [Op.operands] at h; simp only [evOp]; rw [h x (by simp)]
  | assign x => simp only [Op.operands] at h; simp only [evOp]; rw [h x (by simp)]
  | pick c x y => simp only [Op.operands] at h; simp only [evOp]; rw [h c (by simp), h x (by simp), h y (by simp)]
  | box t x => simp only [Op.operands] at h; simp only [evOp]; rw [h x (by simp)]
  | load t x => simp only [Op.operands] at h; simp only [evOp]; rw [h x (by simp)]
  | store t x y => simp only [Op.operands] at h; simp only [evOp]; rw [h x (by simp), h y (by simp)]
  | nilCheck x => simp only [Op.operands] at h; simp only [evOp]; rw [h x (by simp)]
  | binOp b t x y t' => simp only [Op.operands] at h; simp only [evOp]; rw [h x (by simp), h y (by simp)]
  | unOp b t x => simp only [Op.operands] at h; simp only [evOp]; rw [h x (by simp)]
  | convert t u x => simp only [Op.operands] at h; simp only [evOp]; rw [h x (by simp)]
  | fieldAddr t x f => simp only [Op.operands] at h; simp only [evOp]; rw [h x (by simp)]
  | field t x f => simp only [Op.operands] at h; simp only [evOp]; rw [h x (by simp)]
  | indexAddr t x y => simp only [Op.operands] at h; simp only [evOp]; rw [h x (by simp), h y (by simp)]
  | index t x y => simp only [Op.operands] at h; simp only [evOp]; rw [h x (by simp), h y (by simp)]
  | extract x i => simp only [Op.operands] at h; simp only [evOp]; rw [h x (by simp)]
  | makeInterface t x => simp only [Op.operands] at h; simp only [evOp]; rw [h x (by simp)]
  | _ => simp [evOp]

theorem ev_congr {ops : Array Oper} {o : Oper} (h : ∀ t ∈ namesOf ops o, getT tm t = getT tm2 t) : ∀ x ∈ o.op.operands, E.ev tm x = E.ev tm2 x := by
  intro x hx
  cases x with
  | tmp t => exact h t (List.mem_append_left _ (List.mem_filterMap.2 ⟨.tmp t, by simpa using hx, rfl⟩))
  | _ => rfl
theorem wanted_congr {ops : Array Oper} {o : Oper} (h : ∀ t ∈ namesOf ops o, getT tm t = getT tm2 t) : wantedA ops tm o = wantedA ops tm2 o := by
  unfold wantedA
  cases hg : o.guard with
  | none => rfl
  | some p =>
    obtain ⟨j, want⟩ := p
    simp only
    cases hd : (ops[j]?).bind (·.dst) with
    | none => rfl
    | some t =>
      simp only
      rw [h t (List.mem_append_right _ (by simp [hg, hd]))]
theorem loadsFrom_congr {ops : Array Oper} {o : Oper} (h : ∀ t ∈ namesOf ops o, getT tm t = getT tm2 t) : loadsFrom E tm o = loadsFrom E tm2 o := by
  have he := ev_congr (E := E) h
  unfold loadsFrom
  cases ho : o.op with
  | load t x =>
    simp only
    rw [he x (by simp [ho, Op.operands])]
  | _ => rfl

/-- The lexical walk, moment by moment. -/
structure Trace (E : Env) (call : CallFn) (nt : Nat) (ops : Array Oper) (i0 : Nat) (T : Nat → PM AV) (U : Nat → St) (V : Nat → AV) (hist : List (Nat × St × St)) (ls : List (Nat × Nat)) : Prop where
  hl : ∀ h ∈ hist, ∀ o, ops[h.1]? = some o → loud o.op = true
  put : ∀ i o, i0 ≤ i → ops[i]? = some o → putA nt o.dst (V i) (T i) = some (T (i + 1))
  step : ∀ i o, i0 ≤ i → ops[i]? = some o → (wantedA ops (T i) o = some false ∧ V i = passed ∧ U (i + 1) = U i) ∨
    (wantedA ops (T i) o = some true ∧ evOp E call (T i) o (U i) = some (V i, U (i + 1)) ∧ (loud o.op = true → (i, U i, U (i + 1)) ∈ hist) ∧ (∀ l, loadsFrom E (T i) o = some l → (i, l) ∈ ls))

theorem trace_of {nt : Nat} {ops : Array Oper} : ∀ (rest : List Oper) (i : Nat) (tm tm' : PM AV) (S S' : St) (hist : List (Nat × St × St)) (ls : List (Nat × Nat)), ops.toList.drop i = rest →
    evDrawGo E call nt ops i rest tm S = some (tm', S', hist, ls) → ∃ T U V, Trace E call nt ops i T U V hist ls ∧ T i = tm ∧ U i = S ∧ (i ≤ ops.size → T ops.size = tm' ∧ U ops.size = S')
  | [], i, tm, tm', S, S', hist, ls, hd, h => by
    have hle : ops.size ≤ i := by have := congrArg List.length hd; simp at this; omega
    simp only [evDrawGo, Option.some.injEq, Prod.mk.injEq] at h
    obtain ⟨rfl, rfl, rfl, rfl⟩ := h
    refine ⟨fun _ => tm, fun _ => S, fun _ => passed, ⟨fun h hm => by simp at hm, fun j o hj ho => ?_, fun j o hj ho => ?_⟩, rfl, rfl, fun _ => ⟨rfl, rfl⟩⟩ <;>
      (rw [Array.getElem?_eq_none (by omega)] at ho; simp at ho)
  | o :: r, i, tm, tm', S, S', hist, ls, hd, h => by
    have hlt : i < ops.size := by
      rcases Nat.lt_or_ge i ops.size with h' | h'
      · exact h'
      · rw [List.drop_eq_nil_of_le (by simpa using h')] at hd; simp at hd
    have hko : ops[i]? = some o := by
      have h0 : (ops.toList.drop i)[0]? = some o := by rw [hd]; rfl
      rw [List.getElem?_drop] at h0
      simpa using h0
    have hrest : ops.toList.drop (i + 1) = r := by rw [← List.drop_drop, hd]; rfl
    have build : ∀ (v : AV) (tm1 : PM AV) (S1 : St) (hist1 : List (Nat × St × St)) (ls1 : List (Nat × Nat)), putA nt o.dst v tm = some tm1 → evDrawGo E call nt ops (i + 1) r tm1 S1 = some (tm', S', hist1, ls1) →
        (∀ x, x ∈ hist1 → x ∈ hist) → (∀ x, x ∈ ls1 → x ∈ ls) → (∀ x ∈ hist, x ∈ hist1 ∨ x.1 = i ∧ loud o.op = true) →
        ((wantedA ops tm o = some false ∧ v = passed ∧ S1 = S) ∨ (wantedA ops tm o = some true ∧ evOp E call tm o S = some (v, S1) ∧ (loud o.op = true → (i, S, S1) ∈ hist) ∧ (∀ l, loadsFrom E tm o = some l → (i, l) ∈ ls))) →
        ∃ T U V, Trace E call nt ops i T U V hist ls ∧ T i = tm ∧ U i = S ∧ (i ≤ ops.size → T ops.size = tm' ∧ U ops.size = S') := by
      intro v tm1 S1 hist1 ls1 hp hgo hh hl hhl hs
      obtain ⟨T, U, V, ht, h1, h2, h3⟩ := trace_of r (i + 1) tm1 tm' S1 S' hist1 ls1 hrest hgo
      obtain ⟨h4, h5⟩ := h3 hlt
      refine ⟨fun j => if j ≤ i then tm else T j, fun j => if j ≤ i then S else U j, fun j => if j = i then v else V j, ⟨fun x hx o' ho' => ?_, fun j o' hj ho => ?_, fun j o' hj ho => ?_⟩, by simp, by simp, fun _ => ⟨?_, ?_⟩⟩
      · rcases hhl x hx with h' | ⟨h', h''⟩
        · exact ht.hl x h' o' ho'
        · rw [h', hko] at ho'; simp at ho'; subst ho'; exact h''
      · by_cases hji : j = i
        · subst hji
          rw [hko] at ho; simp at ho; subst ho
          have e1 : ¬ j + 1 ≤ j := by omega
          simp only [Nat.le_refl, if_true, e1, if_false, h1, hp]
        · have e1 : ¬ j ≤ i := by omega
          have e2 : ¬ j + 1 ≤ i := by omega
          simp only [e1, e2, if_false, hji]
          exact ht.put j o' (by omega) ho
      · by_cases hji : j = i
        · subst hji
          rw [hko] at ho; simp at ho; subst ho
          have e1 : ¬ j + 1 ≤ j := by omega
          simp only [Nat.le_refl, if_true, e1, if_false, h2]
          exact hs
        · have e1 : ¬ j ≤ i := by omega
          have e2 : ¬ j + 1 ≤ i := by omega
          simp only [e1, e2, if_false, hji]
          rcases ht.step j o' (by omega) ho with k | ⟨k1, k2, k3, k4⟩
          · exact .inl k
          · exact .inr ⟨k1, k2, fun hx => hh _ (k3 hx), fun l hx => hl _ (k4 l hx)⟩
      · have : ¬ ops.size ≤ i := by omega
        simp only [this, if_false, h4]
      · have : ¬ ops.size ≤ i := by omega
        simp only [this, if_false, h5]
    simp only [evDrawGo] at h
    split at h
    · simp at h
    · rename_i hw
      split at h
      · rename_i tm1 hp
        exact build passed tm1 S hist ls hp h (fun _ => id) (fun _ => id) (fun _ => .inl) (.inl ⟨hw, rfl, rfl⟩)
      · simp at h
    · rename_i hw
      split at h
      · simp at h
      · rename_i v S1 hev
        split at h
        · rename_i tm1 hp
          split at h
          · rename_i tm2 S2 hist1 ls1 hgo
            simp only [Option.some.injEq, Prod.mk.injEq] at h
            obtain ⟨rfl, rfl, rfl, rfl⟩ := h
            refine build v tm1 S1 hist1 ls1 hp hgo (fun x hx => ?_) (fun x hx => ?_) (fun x hx => ?_) (.inr ⟨hw, hev, fun hx => ?_, fun l hx => ?_⟩)
            · cases loud o.op <;> simp [hx]
            · split <;> simp [hx]
            · cases hq : loud o.op with
              | false => rw [hq] at hx; exact .inl hx
              | true =>
                rw [hq] at hx
                simp only [cond_true, List.mem_cons] at hx
                rcases hx with rfl | hx
                · exact .inr ⟨rfl, rfl⟩
                · exact .inl hx
            · simp [hx]
            · simp [hx]
          · simp at h
        · simp at h

/-- The temporaries once the operations of D have been carried out. -/
structure Val (ops : Array Oper) (V : Nat → AV) (tm0 : PM AV) (D : Nat → Prop) (tm : PM AV) : Prop where
  done : ∀ d o t, ops[d]? = some o → o.dst = some t → D d → getT tm t = V d
  old : ∀ t, (∀ d o, ops[d]? = some o → o.dst = some t → ¬ D d) → getT tm t = getT tm0 t

theorem getT_put {nt : Nat} {dst : Option Tmp} {x : AV} {tm' : PM AV} (h : putA nt dst x tm = some tm') (t : Nat) : getT tm' t = if dst = some t then x else getT tm t := by
  cases dst with
  | none => simp [putA] at h; subst h; simp
  | some d =>
    simp only [putA] at h
    cases hb : Nat.blt d nt with
    | false => rw [hb] at h; simp at h
    | true =>
      rw [hb] at h
      simp only [cond_true, Option.some.injEq] at h
      subst h
      unfold getT
      rw [PM.get_set]
      by_cases ht : t = d
      · subst ht; simp
      · have : ¬ d = t := fun e => ht e.symm
        simp [ht, this]

theorem Val.step {ops : Array Oper} (hp : Pairs ops) {V : Nat → AV} {tm0 tm' : PM AV} {D D' : Nat → Prop} {nt i : Nat} {o : Oper} (h : Val ops V tm0 D tm) (ho : ops[i]? = some o) (hi : ¬ D i)
    (hput : putA nt o.dst (V i) tm = some tm') (hD : ∀ d, D' d ↔ D d ∨ d = i) : Val ops V tm0 D' tm' := by
  have uniq : ∀ d o' t, ops[d]? = some o' → o'.dst = some t → o.dst = some t → d = i := by
    intro d o' t hd ht ht'
    rcases Nat.lt_trichotomy d i with hlt | he | hlt
    · exact absurd ht' (hp.dst d i o' o t hlt hd ho ht)
    · exact he
    · exact absurd ht (hp.dst i d o o' t hlt ho hd ht')
  refine ⟨fun d o' t hd ht hdd => ?_, fun t hn => ?_⟩
  · rw [getT_put hput]
    by_cases hot : o.dst = some t
    · rw [if_pos hot, uniq d o' t hd ht hot]
    · rw [if_neg hot]
      rcases (hD d).1 hdd with h1 | h1
      · exact h.done d o' t hd ht h1
      · subst h1
        rw [ho] at hd; simp at hd; subst hd
        exact absurd ht hot
  · rw [getT_put hput]
    by_cases hot : o.dst = some t
    · exact absurd ((hD i).2 (.inr rfl)) (hn i o ho hot)
    · rw [if_neg hot]
      exact h.old t fun d o' hd ht hdd => hn d o' hd ht ((hD d).2 (.inl hdd))

theorem Bef.lt {ops : Array Oper} (hp : Pairs ops) {i d : Nat} (h : Bef ops i d) : d < i := by
  induction h with
  | base ho he hb => exact hp.edge _ _ _ ho he hb
  | step ho he hb _ ih => have := hp.edge _ _ _ ho he hb; omega

theorem Val.agree {ops : Array Oper} (hp : Pairs ops) {V : Nat → AV} {tm0 tmi : PM AV} {D : Nat → Prop} {i : Nat} {o : Oper} (h : Val ops V tm0 D tm) (hi : Val ops V tm0 (· < i) tmi) (ho : ops[i]? = some o)
    (hni : ¬ D i) (hb1 : ∀ d, Bef ops i d → D d) (hb2 : ∀ d, Bef ops d i → ¬ D d) : ∀ t ∈ namesOf ops o, getT tm t = getT tmi t := by
  intro t ht
  by_cases hw : ∃ (d : Nat) (o' : Oper), ops[d]? = some o' ∧ o'.dst = some t
  · obtain ⟨d, o', hd, hdt⟩ := hw
    have uniq : ∀ e o2, ops[e]? = some o2 → o2.dst = some t → e = d := by
      intro e o2 he het
      rcases Nat.lt_trichotomy e d with hlt | h' | hlt
      · exact absurd hdt (hp.dst e d o2 o' t hlt he hd het)
      · exact h'
      · exact absurd het (hp.dst d e o' o2 t hlt hd he hdt)
    rcases Nat.lt_trichotomy d i with hlt | he | hlt
    · have hbef := hp.names1 d i o' o t hlt hd ho hdt ht
      rw [h.done d o' t hd hdt (hb1 d hbef), hi.done d o' t hd hdt hlt]
    · subst he
      rw [h.old t fun e o2 h1 h2 => by rw [uniq e o2 h1 h2]; exact hni, hi.old t fun e o2 h1 h2 => by rw [uniq e o2 h1 h2]; omega]
    · have hbef := hp.names2 i d o o' t hlt ho hd hdt ht
      rw [h.old t fun e o2 h1 h2 => by rw [uniq e o2 h1 h2]; exact hb2 d hbef, hi.old t fun e o2 h1 h2 => by rw [uniq e o2 h1 h2]; omega]
  · have hn : ∀ (d : Nat) (o' : Oper), ops[d]? = some o' → o'.dst = some t → False := fun d o' h1 h2 => hw ⟨d, o', h1, h2⟩
    rw [h.old t fun d o' h1 h2 _ => hn d o' h1 h2, hi.old t fun d o' h1 h2 _ => hn d o' h1 h2]

section
variable {nt : Nat} {ops : Array Oper} {T : Nat → PM AV} {U : Nat → St} {V : Nat → AV} {hist : List (Nat × St × St)} {ls : List (Nat × Nat)}

theorem Trace.quiet (ht : Trace E call nt ops 0 T U V hist ls) {i : Nat} {o : Oper} (ho : ops[i]? = some o) (hq : loud o.op = false) : U (i + 1) = U i := by
  rcases ht.step i o (Nat.zero_le _) ho with ⟨_, _, h⟩ | ⟨_, h, _⟩
  · exact h
  · exact (quiet_any (S2 := U i) o hq h).1
theorem Trace.same (ht : Trace E call nt ops 0 T U V hist ls) {a : Nat} : ∀ (n : Nat), a + n ≤ ops.size → (∀ x o, a ≤ x → x < a + n → ops[x]? = some o → loud o.op = false) → U (a + n) = U a
  | 0, _, _ => rfl
  | n + 1, hle, h => by
    have hlt : a + n < ops.size := by omega
    have := ht.quiet (i := a + n) (o := ops[a + n]) (by simp [hlt]) (h (a + n) _ (by omega) (by omega) (by simp [hlt]))
    rw [show a + (n + 1) = (a + n) + 1 by omega, this]
    exact ht.same n (by omega) fun x o h1 h2 => h x o h1 (by omega)
theorem Trace.obj (hc : CallEvo call) (ht : Trace E call nt ops 0 T U V hist ls) {a l : Nat} : ∀ (n : Nat), a + n ≤ ops.size →
    (∀ x o, a ≤ x → x < a + n → ops[x]? = some o → (x, U x, U (x + 1)) ∈ hist → l < (U x).no ∧ (U x).ver l = (U (x + 1)).ver l) → (U (a + n)).objs.get l = (U a).objs.get l
  | 0, _, _ => rfl
  | n + 1, hle, h => by
    have hlt : a + n < ops.size := by omega
    have ho : ops[a + n]? = some ops[a + n] := by simp [hlt]
    have ih := ht.obj hc n (by omega) fun x o h1 h2 => h x o h1 (by omega)
    rw [show a + (n + 1) = (a + n) + 1 by omega, ← ih]
    rcases ht.step (a + n) _ (Nat.zero_le _) ho with ⟨_, _, h1⟩ | ⟨_, h1, h2, _⟩
    · rw [h1]
    · cases hq : loud (ops[a + n]).op with
      | false => rw [(quiet_any (S2 := U (a + n)) _ hq h1).1]
      | true =>
        obtain ⟨k1, k2⟩ := h (a + n) _ (by omega) (by omega) ho (h2 hq)
        exact (op_evo hc _ h1).obj l k1 k2
theorem Trace.val (hp : Pairs ops) (ht : Trace E call nt ops 0 T U V hist ls) : ∀ (i : Nat), i ≤ ops.size → Val ops V (T 0) (· < i) (T i)
  | 0, _ => ⟨fun d o t _ _ h => by omega, fun t _ => rfl⟩
  | i + 1, hle => by
    have ho : ops[i]? = some ops[i] := by simp [show i < ops.size by omega]
    exact (ht.val hp i (by omega)).step hp ho (by omega) (ht.put i _ (Nat.zero_le _) ho) (fun d => by omega)
end

end
end Go.Abs
