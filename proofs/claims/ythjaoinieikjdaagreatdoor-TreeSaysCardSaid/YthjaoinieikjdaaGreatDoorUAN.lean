/-
  Regions whose order is open: whatever order is picked, what the lexical walk gives.
-/
import Derived.Test.YthjaoinieikjdaaGreatDoorUAM
set_option linter.unusedSimpArgs false
set_option linter.unusedVariables false
namespace Go.Abs
open Go.RowKit
section
variable {E : Env} {S S' S2 : St} {v : AV} {tm tm2 : PM AV} {call : eS}
theorem xk9 (o : Oper) (h : ∀ x ∈ o.op.operands, E.ev tm x = E.ev tm2 x) : aW E call tm o S = aW E call tm2 o S := by
 obtain ⟨dst, op, type, pos, after, guard⟩ := o
 have pairs : ∀ ps : Array (Nat × Operand), (∀ x ∈ ps.map (·.2), E.ev tm x = E.ev tm2 x) →
  (ps.toList.map fun p => (p.1, E.ev tm p.2)) = (ps.toList.map fun p => (p.1, E.ev tm2 p.2)) := fun ps hp =>
  rR fun p hm => by
   rw [hp p.2 (Array.mem_map.2 ⟨p, by simpa using hm, rfl⟩)]
 have args : ∀ xs : Array Operand, (∀ x ∈ xs, E.ev tm x = E.ev tm2 x) → xs.toList.map (E.ev tm) = xs.toList.map (E.ev tm2) := fun xs hx =>
  rR fun x hm => hx x (by simpa using hm)
 cases op with
 | build t ps => simp only [Op.operands] at h; simp only [aW]; rw [pairs ps fun x hx => h x (by simpa using hx)]
 | buildSlice t n ps => simp only [Op.operands] at h; simp only [aW]; rw [pairs ps fun x hx => h x (by simpa using hx)]
 | makeFunc f x y =>
  simp only [Op.operands] at h
  simp only [aW]
  rw [args x fun z hz => h z (by simp [hz]), args y fun z hz => h z (by simp [hz])]
 | call c =>
  obtain ⟨callee, xs, ats⟩ := c
  simp only [Op.operands, Call.operands] at h
  simp only [aW, mZ]
  rw [args xs fun z hz => h z (by simp [hz])]
  cases callee with
  | value f => simp only; rw [h f (by simp)]
  | invoke r m => simp only; rw [h r (by simp)]
  | builtin b => rfl
 | slice t x lo hi mx =>
  simp only [Op.operands] at h
  have h1 := h x (by simp)
  cases mx with
  | some m =>
   have h2 := h m (by simp)
   cases hi with
   | none => simp [aW]
   | some hi =>
    have h3 := h hi (by simp)
    cases lo with
    | none => simp only [aW]; rw [h1, h2, h3]; rfl
    | some lo =>
     have h4 := h lo (by simp)
     simp only [aW, iH]; rw [h1, h2, h3, h4]
  | none =>
   simp only [aW]
   cases lo <;> cases hi <;> simp_all
 | move x => simp only [Op.operands] at h; simp only [aW]; rw [h x (by simp)]
 | assign x => simp only [Op.operands] at h; simp only [aW]; rw [h x (by simp)]
 | pick c x y => simp only [Op.operands] at h; simp only [aW]; rw [h c (by simp), h x (by simp), h y (by simp)]
 | load t x => simp only [Op.operands] at h; simp only [aW]; rw [h x (by simp)]
 | store t x y => simp only [Op.operands] at h; simp only [aW]; rw [h x (by simp), h y (by simp)]
 | nilCheck x => simp only [Op.operands] at h; simp only [aW]; rw [h x (by simp)]
 | binOp b t x y t' => simp only [Op.operands] at h; simp only [aW]; rw [h x (by simp), h y (by simp)]
 | unOp b t x => simp only [Op.operands] at h; simp only [aW]; rw [h x (by simp)]
 | convert t u x => simp only [Op.operands] at h; simp only [aW]; rw [h x (by simp)]
 | fieldAddr t x f => simp only [Op.operands] at h; simp only [aW]; rw [h x (by simp)]
 | field t x f => simp only [Op.operands] at h; simp only [aW]; rw [h x (by simp)]
 | indexAddr t x y => simp only [Op.operands] at h; simp only [aW]; rw [h x (by simp), h y (by simp)]
 | index t x y => simp only [Op.operands] at h; simp only [aW]; rw [h x (by simp), h y (by simp)]
 | extract x i => simp only [Op.operands] at h; simp only [aW]; rw [h x (by simp)]
 | makeInterface t x => simp only [Op.operands] at h; simp only [aW]; rw [h x (by simp)]
 | makeSlice t x y => simp only [Op.operands] at h; simp only [aW]; rw [h x (by simp), h y (by simp)]
 | lookup t x y b => simp only [Op.operands] at h; simp only [aW]; rw [h x (by simp), h y (by simp)]
 | mapUpdate t x y z => simp only [Op.operands] at h; simp only [aW]; rw [h x (by simp), h y (by simp), h z (by simp)]
 | insert t x y z => simp only [Op.operands] at h; simp only [aW]; rw [h x (by simp), h y (by simp), h z (by simp)]
 | next x b => simp only [Op.operands] at h; simp only [aW]; rw [h x (by simp)]
 | _ => simp [aW]
theorem ja1 (o : Oper) (h : ∀ x ∈ o.op.operands, E.ev tm x = E.ev tm2 x) : fQ E tm o = fQ E tm2 o := by
 obtain ⟨dst, op, type, pos, after, guard⟩ := o
 cases op with
 | buildSlice t n ps =>
  simp only [Op.operands] at h
  simp only [fQ]
  have : (ps.toList.map fun p => (p.1, E.ev tm p.2)) = (ps.toList.map fun p => (p.1, E.ev tm2 p.2)) := rR fun p hm => by
   have hx : p.2 ∈ ps.map (·.2) := Array.mem_map.2 ⟨p, by simpa using hm, rfl⟩
   rw [h p.2 (by simpa using hx)]
  rw [this]
 | box t x => simp only [Op.operands] at h; simp only [fQ]; rw [h x (by simp)]
 | range t x => simp only [Op.operands] at h; simp only [fQ]; rw [h x (by simp)]
 | makeSlice t x y => simp only [Op.operands] at h; simp only [fQ]; rw [h x (by simp), h y (by simp)]
 | makeMap t r =>
  simp only [Op.operands] at h
  cases r with
  | none => rfl
  | some r => simp only [fQ]; rw [h r (by simp)]
 | _ => simp [fQ]
theorem vT {ops : Array Oper} {o : Oper} (h : ∀ t ∈ cL ops o, getT tm t = getT tm2 t) : ∀ x ∈ o.op.operands, E.ev tm x = E.ev tm2 x := by
 intro x hx
 cases x with
 | tmp t => exact h t (qU _ (List.mem_filterMap.2 ⟨.tmp t, by simpa using hx, rfl⟩))
 | _ => rfl
theorem xC {ops : Array Oper} {o : Oper} (h : ∀ t ∈ cL ops o, getT tm t = getT tm2 t) : iD ops tm o = iD ops tm2 o := by
 unfold iD
 cases hg : o.guard with
 | none => rfl
 | some p =>
  obtain ⟨j, want⟩ := p
  simp only
  cases hd : (ops[j]?).bind (·.dst) with
  | none => rfl
  | some t =>
   simp only
   rw [h t (List.mem_append_right _ (by simp [hg, hd]))]
theorem xy5 {ops : Array Oper} {o : Oper} (h : ∀ t ∈ cL ops o, getT tm t = getT tm2 t) : oC E tm o = oC E tm2 o := by
 have he := vT (E := E) h
 obtain ⟨dst, op, type, pos, after, guard⟩ := o
 cases op with
 | load t x => simp only [oC]; rw [he x (by simp [Op.operands])]
 | _ => rfl
theorem xm0 {ops : Array Oper} {o : Oper} (h : ∀ t ∈ cL ops o, getT tm t = getT tm2 t) : eQ E tm o = eQ E tm2 o := by
 have he := vT (E := E) h
 obtain ⟨dst, op, type, pos, after, guard⟩ := o
 cases op with
 | load t x => simp only [eQ]; rw [he x (by simp [Op.operands])]
 | convert t u x => simp only [eQ]; rw [he x (by simp [Op.operands])]
 | slice t x lo hi mx =>
  cases mx with
  | none => simp only [eQ]; rw [he x (by simp [Op.operands])]
  | some m => rfl
 | lookup t x y b => simp only [eQ]; rw [he x (by simp [Op.operands])]
 | call c =>
  obtain ⟨callee, xs, ats⟩ := c
  cases callee with
  | builtin b =>
   cases b with
   | len =>
    simp only [eQ]
    rw [rR fun x hm => he x (by simp only [Op.operands, Call.operands]; simpa using hm)]
   | _ => rfl
  | _ => rfl
 | _ => rfl
noncomputable def StepOk (E : Env) (call : eS) (ops : Array Oper) (m : PM Nat) (b0 : Nat) (hist : List (Nat × St × St)) (ls : List (Nat × Nat × Option (TypeId × Nat))) (i : Nat) (o : Oper) (tm : PM AV) (v : AV) (S S' : St) : Prop :=
 (iD ops tm o = some false ∧ v = dB ∧ S' = S) ∨
 (iD ops tm o = some true ∧ cD E o = true ∧ ∃ k, fQ E tm o = some k ∧ v = k.val (b0 + i) ∧ S' = S.bear (b0 + i) k) ∨
 (iD ops tm o = some true ∧ cD E o = false ∧ eK E o.op = true ∧ ∃ S1, aW E call tm o (S.masked (dF E ops) m b0 i) = some (v, S1) ∧ S' = S1.unmasked S (dF E ops) m b0 i ∧ (i, S, S') ∈ hist) ∨
 (iD ops tm o = some true ∧ cD E o = false ∧ eK E o.op = false ∧ aW E call tm o S = some (v, S') ∧ ∀ l, eQ E tm o = some l → (i, l, oC E tm o) ∈ ls)
structure Trace (E : Env) (call : eS) (nt : Nat) (ops : Array Oper) (m : PM Nat) (b0 : Nat) (i0 : Nat) (T : Nat → PM AV) (U : Nat → St) (V : Nat → AV) (hist : List (Nat × St × St)) (ls : List (Nat × Nat × Option (TypeId × Nat))) : Prop where
 hl : ∀ h ∈ hist, ∀ o, ops[h.1]? = some o → loud E o = true
 put : ∀ i o, i0 ≤ i → ops[i]? = some o → gC nt o.dst (V i) (T i) = some (T (i + 1))
 step : ∀ i o, i0 ≤ i → ops[i]? = some o → StepOk E call ops m b0 hist ls i o (T i) (V i) (U i) (U (i + 1))
theorem StepOk.mono {ops : Array Oper} {m : PM Nat} {b0 : Nat} {hist hist2 : List (Nat × St × St)} {ls ls2 : List (Nat × Nat × Option (TypeId × Nat))} {i : Nat} {o : Oper} (h : StepOk E call ops m b0 hist ls i o tm v S S') (h1 : ∀ x, x ∈ hist → x ∈ hist2) (h2 : ∀ x, x ∈ ls → x ∈ ls2) :
 StepOk E call ops m b0 hist2 ls2 i o tm v S S' := by
 rcases h with h | h | ⟨k1, k2, k3, S1, k4, k5, k6⟩ | ⟨k1, k2, k3, k4, k5⟩
 · exact .inl h
 · exact .inr (.inl h)
 · exact .inr (.inr (.inl ⟨k1, k2, k3, S1, k4, k5, h1 _ k6⟩))
 · exact .inr (.inr (.inr ⟨k1, k2, k3, k4, fun l hl => h2 _ (k5 l hl)⟩))
theorem wq6 {nt : Nat} {ops : Array Oper} {m : PM Nat} {b0 : Nat} : ∀ (rest : List Oper) (i : Nat) (tm tm' : PM AV) (S S' : St) (hist : List (Nat × St × St)) (ls : List (Nat × Nat × Option (TypeId × Nat))), ops.toList.drop i = rest →
 eX E call nt ops m b0 i rest tm S = some (tm', S', hist, ls) → ∃ T U V, Trace E call nt ops m b0 i T U V hist ls ∧ T i = tm ∧ U i = S ∧ (i ≤ ops.size → T ops.size = tm' ∧ U ops.size = S')
 | [], i, tm, tm', S, S', hist, ls, hd, h => by
  have hle : ops.size ≤ i := by have := congrArg List.length hd; simp at this; omega
  simp only [eX, aI, aJ] at h
  obtain ⟨rfl, rfl, rfl, rfl⟩ := h
  refine ⟨fun _ => tm, fun _ => S, fun _ => dB, ⟨fun h hm => by simp at hm, fun j o hj ho => ?_, fun j o hj ho => ?_⟩, rfl, rfl, fun _ => ⟨rfl, rfl⟩⟩ <;>
   (rw [pS (by omega)] at ho; simp at ho)
 | o :: r, i, tm, tm', S, S', hist, ls, hd, h => by
  have hlt : i < ops.size := by
   rcases fV i ops.size with h' | h'
   · exact h'
   · rw [rP (by simpa using h')] at hd; simp at hd
  have hko : ops[i]? = some o := by
   have h0 : (ops.toList.drop i)[0]? = some o := by rw [hd]; rfl
   rw [jM] at h0
   simpa using h0
  have hrest : ops.toList.drop (i + 1) = r := by rw [← nT, hd]; rfl
  have build : ∀ (v : AV) (tm1 : PM AV) (S1 : St) (hist1 : List (Nat × St × St)) (ls1 : List (Nat × Nat × Option (TypeId × Nat))), gC nt o.dst v tm = some tm1 → eX E call nt ops m b0 (i + 1) r tm1 S1 = some (tm', S', hist1, ls1) →
   (∀ x, x ∈ hist1 → x ∈ hist) → (∀ x, x ∈ ls1 → x ∈ ls) → (∀ x ∈ hist, x ∈ hist1 ∨ x.1 = i ∧ loud E o = true) →
   StepOk E call ops m b0 hist ls i o tm v S S1 →
   ∃ T U V, Trace E call nt ops m b0 i T U V hist ls ∧ T i = tm ∧ U i = S ∧ (i ≤ ops.size → T ops.size = tm' ∧ U ops.size = S') := by
   intro v tm1 S1 hist1 ls1 hp hgo hh hl hhl hs
   obtain ⟨T, U, V, ht, h1, h2, h3⟩ := wq6 r (i + 1) tm1 tm' S1 S' hist1 ls1 hrest hgo
   obtain ⟨h4, h5⟩ := h3 hlt
   refine ⟨fun j => if j ≤ i then tm else T j, fun j => if j ≤ i then S else U j, fun j => if j = i then v else V j, ⟨fun x hx o' ho' => ?_, fun j o' hj ho => ?_, fun j o' hj ho => ?_⟩, by simp, by simp, fun _ => ⟨?_, ?_⟩⟩
   · rcases hhl x hx with h' | ⟨h', h''⟩
     · exact ht.hl x h' o' ho'
     · rw [h', hko] at ho'; simp at ho'; subst ho'; exact h''
   · by_cases hji : j = i
     · subst hji
       rw [hko] at ho; simp at ho; subst ho
       have e1 : ¬ j + 1 ≤ j := by omega
       simp only [aB, fM, e1, dG, h1, hp]
     · have e1 : ¬ j ≤ i := by omega
       have e2 : ¬ j + 1 ≤ i := by omega
       simp only [e1, e2, dG, hji]
       exact ht.put j o' (by omega) ho
   · by_cases hji : j = i
     · subst hji
       rw [hko] at ho; simp at ho; subst ho
       have e1 : ¬ j + 1 ≤ j := by omega
       simp only [aB, fM, e1, dG, h2]
       exact hs
     · have e1 : ¬ j ≤ i := by omega
       have e2 : ¬ j + 1 ≤ i := by omega
       simp only [e1, e2, dG, hji]
       exact (ht.step j o' (by omega) ho).mono hh hl
   · have : ¬ ops.size ≤ i := by omega
     simp only [this, dG, h4]
   · have : ¬ ops.size ≤ i := by omega
     simp only [this, dG, h5]
  simp only [eX] at h
  split at h
  · simp at h
  · rename_i hw
    split at h
    · rename_i tm1 hp
      exact build dB tm1 S hist ls hp h (fun _ => id) (fun _ => id) (fun _ => .inl) (.inl ⟨hw, rfl, rfl⟩)
    · simp at h
  · rename_i hw
    cases hm : cD E o with
    | true =>
     simp only [hm, aH] at h
     split at h
     · simp at h
     · rename_i k hk
       split at h
       · rename_i tm1 hp
         exact build _ tm1 _ hist ls hp h (fun _ => id) (fun _ => id) (fun _ => .inl) (.inr (.inl ⟨hw, hm, k, hk, rfl, rfl⟩))
       · simp at h
    | false =>
     simp only [hm, aK] at h
     cases hq : eK E o.op with
     | true =>
      simp only [hq, aH] at h
      split at h
      · simp at h
      · rename_i v S1 hev
        split at h
        · rename_i tm1 hp
          split at h
          · rename_i tm2 S2 hist1 ls1 hgo
            simp only [aI, aJ] at h
            obtain ⟨rfl, rfl, rfl, rfl⟩ := h
            refine build v tm1 _ hist1 ls1 hp hgo (fun x hx => by simp [hx]) (fun x hx => hx) (fun x hx => ?_) (.inr (.inr (.inl ⟨hw, hm, hq, S1, hev, rfl, by simp⟩)))
            simp only [jP] at hx
            rcases hx with rfl | hx
            · exact .inr ⟨rfl, by simp [loud, hm, hq]⟩
            · exact .inl hx
          · simp at h
        · simp at h
     | false =>
      simp only [hq, aK] at h
      split at h
      · simp at h
      · rename_i v S1 hev
        split at h
        · rename_i tm1 hp
          split at h
          · rename_i tm2 S2 hist1 ls1 hgo
            simp only [aI, aJ] at h
            obtain ⟨rfl, rfl, rfl, rfl⟩ := h
            refine build v tm1 S1 hist1 ls1 hp hgo (fun x hx => hx) (fun x hx => ?_) (fun x hx => .inl hx) (.inr (.inr (.inr ⟨hw, hm, hq, hev, fun l hx => ?_⟩)))
            · split <;> simp [hx]
            · simp [hx]
          · simp at h
        · simp at h
structure Val (ops : Array Oper) (V : Nat → AV) (tm0 : PM AV) (D : Nat → Prop) (tm : PM AV) : Prop where
 done : ∀ d o t, ops[d]? = some o → o.dst = some t → D d → getT tm t = V d
 old : ∀ t, (∀ d o, ops[d]? = some o → o.dst = some t → ¬ D d) → getT tm t = getT tm0 t
theorem wu9 {nt : Nat} {dst : Option Tmp} {x : AV} {tm' : PM AV} (h : gC nt dst x tm = some tm') (t : Nat) : getT tm' t = if dst = some t then x else getT tm t := by
 cases dst with
 | none => simp [gC] at h; subst h; simp
 | some d =>
  simp only [gC] at h
  cases hb : Nat.blt d nt with
  | false => rw [hb] at h; simp at h
  | true =>
   rw [hb] at h
   simp only [aH, aI] at h
   subst h
   unfold getT
   rw [PM.get_set]
   by_cases ht : t = d
   · subst ht; simp
   · have : ¬ d = t := fun e => ht e.symm
     simp [ht, this]
theorem Val.step {ops : Array Oper} (hp : Pairs E ops) {V : Nat → AV} {tm0 tm' : PM AV} {D D' : Nat → Prop} {nt i : Nat} {o : Oper} (h : Val ops V tm0 D tm) (ho : ops[i]? = some o) (hi : ¬ D i)
 (hput : gC nt o.dst (V i) tm = some tm') (hD : ∀ d, D' d ↔ D d ∨ d = i) : Val ops V tm0 D' tm' := by
 have uniq : ∀ d o' t, ops[d]? = some o' → o'.dst = some t → o.dst = some t → d = i := by
  intro d o' t hd ht ht'
  rcases Nat.lt_trichotomy d i with hlt | he | hlt
  · exact absurd ht' (hp.dst d i o' o t hlt hd ho ht)
  · exact he
  · exact absurd ht (hp.dst i d o o' t hlt ho hd ht')
 refine ⟨fun d o' t hd ht hdd => ?_, fun t hn => ?_⟩
 · rw [wu9 hput]
   by_cases hot : o.dst = some t
   · rw [bN hot, uniq d o' t hd ht hot]
   · rw [aR hot]
     rcases (hD d).1 hdd with h1 | h1
     · exact h.done d o' t hd ht h1
     · subst h1
       rw [ho] at hd; simp at hd; subst hd
       exact absurd ht hot
 · rw [wu9 hput]
   by_cases hot : o.dst = some t
   · exact absurd ((hD i).2 (.inr rfl)) (hn i o ho hot)
   · rw [aR hot]
     exact h.old t fun d o' hd ht hdd => hn d o' hd ht ((hD d).2 (.inl hdd))
theorem Bef.lt {ops : Array Oper} (hp : Pairs E ops) {i d : Nat} (h : Bef ops i d) : d < i := by
 induction h with
 | base ho he hb => exact hp.edge _ _ _ ho he hb
 | step ho he hb _ ih => have := hp.edge _ _ _ ho he hb; omega
theorem Val.agree {ops : Array Oper} (hp : Pairs E ops) {V : Nat → AV} {tm0 tmi : PM AV} {D : Nat → Prop} {i : Nat} {o : Oper} (h : Val ops V tm0 D tm) (hi : Val ops V tm0 (· < i) tmi) (ho : ops[i]? = some o)
 (hni : ¬ D i) (hb1 : ∀ d, Bef ops i d → D d) (hb2 : ∀ d, Bef ops d i → ¬ D d) : ∀ t ∈ cL ops o, getT tm t = getT tmi t := by
 intro t ht
 by_cases hw : ∃ (d : Nat) (o' : Oper), ops[d]? = some o' ∧ o'.dst = some t
 · obtain ⟨d, o', hd, hdt⟩ := hw
   have uniq : ∀ e o2, ops[e]? = some o2 → o2.dst = some t → e = d := by
    intro e o2 he het
    rcases Nat.lt_trichotomy e d with hlt | h' | hlt
    · exact absurd hdt (hp.dst e d o2 o' t hlt he hd het)
    · exact h'
    · exact absurd het (hp.dst d e o' o2 t hlt hd he hdt)
   rcases Nat.lt_trichotomy d i with hlt | he | hlt
   · have hbef := hp.names1 d i o' o t hlt hd ho hdt ht
     rw [h.done d o' t hd hdt (hb1 d hbef), hi.done d o' t hd hdt hlt]
   · subst he
     rw [h.old t fun e o2 h1 h2 => by rw [uniq e o2 h1 h2]; exact hni, hi.old t fun e o2 h1 h2 => by rw [uniq e o2 h1 h2]; omega]
   · have hbef := hp.names2 i d o o' t hlt ho hd hdt ht
     rw [h.old t fun e o2 h1 h2 => by rw [uniq e o2 h1 h2]; exact hb2 d hbef, hi.old t fun e o2 h1 h2 => by rw [uniq e o2 h1 h2]; omega]
 · have hn : ∀ (d : Nat) (o' : Oper), ops[d]? = some o' → o'.dst = some t → False := fun d o' h1 h2 => hw ⟨d, o', h1, h2⟩
   rw [h.old t fun d o' h1 h2 _ => hn d o' h1 h2, hi.old t fun d o' h1 h2 _ => hn d o' h1 h2]
section
variable {nt : Nat} {ops : Array Oper} {m : PM Nat} {b0 : Nat} {T : Nat → PM AV} {U : Nat → St} {V : Nat → AV} {hist : List (Nat × St × St)} {ls : List (Nat × Nat × Option (TypeId × Nat))}
theorem Trace.val (hp : Pairs E ops) (ht : Trace E call nt ops m b0 0 T U V hist ls) : ∀ (i : Nat), i ≤ ops.size → Val ops V (T 0) (· < i) (T i)
 | 0, _ => ⟨fun d o t _ _ h => by omega, fun t _ => rfl⟩
 | i + 1, hle => by
  have ho : ops[i]? = some ops[i] := by simp [show i < ops.size by omega]
  exact (ht.val hp i (by omega)).step hp ho (by omega) (ht.put i _ (jR _) ho) (fun d => by omega)
theorem Same.refl (S : St) (l : Nat) : Same S S l := ⟨rfl, rfl⟩
theorem Same.trans {S1 S2 S3 : St} {l : Nat} (h : Same S1 S2 l) (k : Same S2 S3 l) : Same S1 S3 l := ⟨k.1.trans h.1, k.2.trans h.2⟩
theorem Same.symm {S1 S2 : St} {l : Nat} (h : Same S1 S2 l) : Same S2 S1 l := ⟨h.1.symm, h.2.symm⟩
structure Marks (S S2 : St) : Prop where
 no : S2.no = S.no
 nid : S2.nid = S.nid
 sp : ∀ i, S2.spent.get i = S.spent.get i
 ity : ∀ i, S2.ity.get i = S.ity.get i
 wr : S2.wr = S.wr
theorem Marks.refl (S : St) : Marks S S := ⟨rfl, rfl, fun _ => rfl, fun _ => rfl, rfl⟩
theorem Marks.trans {S1 S2 S3 : St} (h : Marks S1 S2) (k : Marks S2 S3) : Marks S1 S3 :=
 ⟨k.no.trans h.no, k.nid.trans h.nid, fun i => (k.sp i).trans (h.sp i), fun i => (k.ity i).trans (h.ity i), k.wr.trans h.wr⟩
theorem Marks.symm {S1 S2 : St} (h : Marks S1 S2) : Marks S2 S1 := ⟨h.no.symm, h.nid.symm, fun i => (h.sp i).symm, fun i => (h.ity i).symm, h.wr.symm⟩
theorem Marks.bear (S : St) (n : Nat) (k : Mk) : Marks S (S.bear n k) := ⟨rfl, rfl, fun _ => rfl, fun _ => rfl, rfl⟩
theorem Same.bear {S : St} {n l : Nat} (h : l ≠ n) (k : Mk) : Same S (S.bear n k) l := by
 refine ⟨?_, ?_⟩
 · simp only [St.bear, PM.get_set, aR h]
 · simp only [St.bear]
   split
   · simp only [PM.get_set, aR h]
   · rfl
theorem Trace.still (ht : Trace E call nt ops m b0 0 T U V hist ls) {a : Nat} : ∀ (n : Nat), a + n ≤ ops.size → (∀ x o, a ≤ x → x < a + n → ops[x]? = some o → loud E o = false) →
 Marks (U a) (U (a + n)) ∧ ∀ l, (∀ x, a ≤ x → x < a + n → l ≠ b0 + x) → Same (U a) (U (a + n)) l
 | 0, _, _ => ⟨Marks.refl _, fun _ _ => Same.refl _ _⟩
 | n + 1, hle, h => by
  have ho : ops[a + n]? = some ops[a + n] := by simp [show a + n < ops.size by omega]
  obtain ⟨k1, k2⟩ := ht.still n (by omega) fun x o h1 h2 => h x o h1 (by omega)
  have hq := h (a + n) _ (by omega) (by omega) ho
  have step : Marks (U (a + n)) (U (a + n + 1)) ∧ ∀ l, l ≠ b0 + (a + n) → Same (U (a + n)) (U (a + n + 1)) l := by
   rcases ht.step (a + n) _ (jR _) ho with ⟨_, _, e⟩ | ⟨_, _, k, _, _, e⟩ | ⟨_, g1, g2, _⟩ | ⟨_, g1, g2, g3, _⟩
   · rw [e]; exact ⟨Marks.refl _, fun _ _ => Same.refl _ _⟩
   · rw [e]; exact ⟨Marks.bear _ _ _, fun l hl => Same.bear hl _⟩
   · simp [loud, g1, g2] at hq
   · rw [(qW (S2 := U (a + n)) _ g1 g2 g3).1]; exact ⟨Marks.refl _, fun _ _ => Same.refl _ _⟩
  exact ⟨k1.trans step.1, fun l hl => (k2 l fun x h1 h2 => hl x h1 (by omega)).trans (step.2 l (hl _ (by omega) (by omega)))⟩
theorem Trace.kept (hc : gV call) (ht : Trace E call nt ops m b0 0 T U V hist ls) {a l : Nat} {q : Option (TypeId × Nat)} : ∀ (n : Nat), a + n ≤ ops.size → (∀ x, a ≤ x → x < a + n → l ≠ b0 + x) →
 (∀ x o, a ≤ x → x < a + n → ops[x]? = some o → (x, U x, U (x + 1)) ∈ hist → (l < (U x).no ∧ (U x).ver l = (U (x + 1)).ver l) ∨ sI E q l (U x) (U (x + 1)) = true) → Like E q (U a) (U (a + n)) l
 | 0, _, _, _ => Like.refl _ _
 | n + 1, hle, hr, h => by
  have ho : ops[a + n]? = some ops[a + n] := by simp [show a + n < ops.size by omega]
  refine (ht.kept hc n (by omega) (fun x h1 h2 => hr x h1 (by omega)) fun x o h1 h2 => h x o h1 (by omega)).trans ?_
  show Like _ _ _ (U (a + n + 1)) l
  rcases ht.step (a + n) _ (jR _) ho with ⟨_, _, e⟩ | ⟨_, _, k, _, _, e⟩ | ⟨_, g1, g2, S1, g3, g4, g5⟩ | ⟨_, g1, g2, g3, _⟩
  · rw [e]; exact Like.refl _ _
  · rw [e]; exact .inl (Same.bear (hr _ (by omega) (by omega)) _)
  · rcases h (a + n) _ (by omega) (by omega) ho g5 with ⟨k1, k2⟩ | hk
    · have he := xa3 (qX hc _ g1 g3)
      rw [g4] at k2 ⊢
      exact .inl (he.obj l k1 k2)
    · exact Like.at hk
  · rw [(qW (S2 := U (a + n)) _ g1 g2 g3).1]; exact Like.refl _ _
structure Room (ops : Array Oper) (b0 : Nat) (U : Nat → St) : Prop where
 no : b0 + ops.size ≤ (U 0).no
 free : ∀ j, j < ops.size → iA ((U 0).objs.get (b0 + j))
theorem Trace.no (hc : gV call) (ht : Trace E call nt ops m b0 0 T U V hist ls) (hr : Room ops b0 U) : ∀ i, i ≤ ops.size → b0 + ops.size ≤ (U i).no
 | 0, _ => hr.no
 | i + 1, hi => by
  have ih := ht.no hc hr i (by omega)
  have ho : ops[i]? = some ops[i] := by simp [show i < ops.size by omega]
  rcases ht.step i _ (jR _) ho with ⟨_, _, e⟩ | ⟨_, _, k, _, _, e⟩ | ⟨_, g1, g2, S1, g3, g4, g5⟩ | ⟨_, g1, g2, g3, _⟩
  · rw [e]; exact ih
  · rw [e]; exact ih
  · rw [g4]
    exact cK ih (xa3 (qX hc _ g1 g3)).no
  · rw [(qW (S2 := U i) _ g1 g2 g3).1]; exact ih
theorem Trace.shut {mk : Nat → Bool} (hf : kE call) {o : Oper} {i l : Nat} {S S1 S' : St} {v : AV} {tm : PM AV} (h : aW E call tm o (S.masked mk m b0 i) = some (v, S1)) (hS : S' = S1.unmasked S mk m b0 i) (hl : l < S.no) (hd : iA ((S.masked mk m b0 i).objs.get l)) : Same S S' l := by
 have k : Frm (fun x => x = l) (S.masked mk m b0 i) (S.masked mk m b0 i) := ⟨rfl, rfl, fun _ => rfl, fun _ => rfl, rfl, fun _ _ => rfl, fun _ _ => rfl, fun x hx => by rw [hx]; exact hd, fun x hx => by rw [hx]; exact hl⟩
 obtain ⟨X', h1, h2⟩ := vE hf o k h
 obtain ⟨k1, k2⟩ := h2.ka l rfl
 rw [hS]
 refine ⟨?_, k2⟩
 by_cases ho : outOf mk m b0 i S l
 · exact xD ho
 · rw [rS ho, k1, lV ho]
noncomputable def uW (E : Env) (ops : Array Oper) (T : Nat → PM AV) (j : Nat) : Prop := ∃ o, ops[j]? = some o ∧ iD ops (T j) o = some true ∧ cD E o = true
theorem Trace.none (hc : gV call) (hf : kE call) (ht : Trace E call nt ops m b0 0 T U V hist ls) (hr : Room ops b0 U) {j : Nat} (hj : j < ops.size) : ∀ i, i ≤ ops.size → (i ≤ j ∨ ¬ uW E ops T j) → Same (U 0) (U i) (b0 + j)
 | 0, _, _ => Same.refl _ _
 | i + 1, hi, hb => by
  have ih := ht.none hc hf hr hj i (by omega) (by rcases hb with h | h; left; omega; right; exact h)
  have hno := ht.no hc hr i (by omega)
  refine ih.trans ?_
  have ho : ops[i]? = some ops[i] := by simp [show i < ops.size by omega]
  rcases ht.step i _ (jR _) ho with ⟨_, _, e⟩ | ⟨g1, g2, k, _, _, e⟩ | ⟨_, g1, g2, S1, g3, g4, g5⟩ | ⟨_, g1, g2, g3, _⟩
  · rw [e]; exact Same.refl _ _
  · rw [e]
    refine Same.bear (fun he => ?_) _
    have : i = j := by omega
    rcases hb with h | h
    · omega
    · exact h ⟨_, this ▸ ho, this ▸ g1, g2⟩
  · refine Trace.shut hf g3 g4 (by omega) ?_
    by_cases hout : outOf (dF E ops) m b0 i (U i) (b0 + j)
    · rw [tC hout]; exact .inr rfl
    · rw [lV hout, ih.1]; exact hr.free j hj
  · rw [(qW (S2 := U i) _ g1 g2 g3).1]; exact Same.refl _ _
theorem Trace.float {j : Nat} (hmk : dF E ops j = true) (hc : gV call) (hf : kE call) (ht : Trace E call nt ops m b0 0 T U V hist ls) (hr : Room ops b0 U) (hj : j < ops.size) : ∀ n, j + 1 + n ≤ ops.size →
 (∀ x o, j < x → x < j + 1 + n → ops[x]? = some o → loud E o = true → bit m x j = false) → Same (U (j + 1)) (U (j + 1 + n)) (b0 + j)
 | 0, _, _ => Same.refl _ _
 | n + 1, hn, hb => by
  refine (ht.float hmk hc hf hr hj n (by omega) fun x o h1 h2 => hb x o h1 (by omega)).trans ?_
  show Same _ (U (j + 1 + n + 1)) _
  have hno := ht.no hc hr (j + 1 + n) (by omega)
  have ho : ops[j + 1 + n]? = some ops[j + 1 + n] := by simp [show j + 1 + n < ops.size by omega]
  rcases ht.step (j + 1 + n) _ (jR _) ho with ⟨_, _, e⟩ | ⟨g1, g2, k, _, _, e⟩ | ⟨_, g1, g2, S1, g3, g4, g5⟩ | ⟨_, g1, g2, g3, _⟩
  · rw [e]; exact Same.refl _ _
  · rw [e]; exact Same.bear (by omega) _
  · refine Trace.shut hf g3 g4 (by omega) ?_
    have hbit := hb (j + 1 + n) _ (by omega) (by omega) ho (by simp [loud, g1, g2])
    by_cases hN : (U (j + 1 + n)).objs.get (b0 + j) = Option.none
    · by_cases hout : outOf (dF E ops) m b0 (j + 1 + n) (U (j + 1 + n)) (b0 + j)
      · rw [tC hout]; exact .inr rfl
      · rw [lV hout, hN]; exact .inl rfl
    · rw [tC ⟨j, by omega, rfl, by simp [hid, hmk, hbit], hN⟩]; exact .inr rfl
  · rw [(qW (S2 := U (j + 1 + n)) _ g1 g2 g3).1]; exact Same.refl _ _
end
end
end Go.Abs
