/-
  Regions in the text's order.
-/
import Derived.Test.YthjaoinieikjdaaGreatDoorUAJ
set_option linter.unusedSimpArgs false
set_option linter.unusedVariables false
namespace Go.Abs
open Go.RowKit
section
variable {E : Env} {C : Ctx} {S S' : St} {w : World} {v : AV} {tm : PM AV} {a : Act} {call : eS} {nt : Nat}
structure FR (E : Env) (C : Ctx) (S : St) (nt : Nat) (tm : PM AV) (a : Act) (w : World) : Prop where
 wr : WR E C S w
 tr : TR C w tm a.tmps
 size : a.tmps.size = nt
 defers : a.defers = []
theorem uC {ops : Array Oper} {o : Oper} {b : Bool} (ht : TR C w tm a.tmps) (h : iD ops tm o = some b) : Region.wanted o (yielded ops a.tmps) = b := by
 unfold iD at h
 unfold Region.wanted
 cases hg : o.guard with
 | none => simp [hg] at h; simp [h]
 | some p =>
  obtain ⟨j, want⟩ := p
  simp only [hg] at h
  cases hd : (ops[j]?).bind (·.dst) with
  | none => simp [hd] at h
  | some t =>
   simp only [hd] at h
   have hv := ht.getT t
   have hy : yielded ops a.tmps j = match a.tmps[t]? with | some (.bool b) => some b | _ => none := by
    unfold yielded
    rw [hd]
    rfl
   split at h
   · rename_i b' hb'
     rw [hb'] at hv
     have hx := hv.sc_inv
     simp at h; subst h
     have hsome : a.tmps[t]? = some (.bool b') := by
      cases hc : a.tmps[t]? with
      | none => simp [hc, Go.undef] at hx
      | some u => simp [hc] at hx; rw [hx]
     simp only [hy, hsome]
     cases b' <;> cases want <;> rfl
   · rename_i vs hb'
     rw [hb'] at hv
     have hx := hv.sc_inv
     simp at h; subst h
     have : yielded ops a.tmps j = none := by
      rw [hy]
      cases hc : a.tmps[t]? with
      | none => rfl
      | some u => simp [hc] at hx; rw [hx]
     simp only [this]
     cases want <;> rfl
   · simp at h
theorem Act.put_defers' (a : Act) (d : Option Tmp) (v : Value) : (a.put d v).defers = a.defers := by cases d <;> rfl
theorem FR.put {C' : Ctx} {w' : World} {tm' : PM AV} {dst : Option Tmp} {u : Value} (h : FR E C S nt tm a w) (hw : WR E C' S' w') (e : Ext C w C' w') (hv : VR C' w' v u) (hp : gC nt dst v tm = some tm') :
 FR E C' S' nt tm' (a.put dst u) w' := by
 obtain ⟨k1, k2⟩ := (h.tr.ext e).put h.size hv hp
 exact ⟨hw, k1, k2, by rw [Act.put_defers']; exact h.defers⟩
theorem seq_ok (ok : E.Ok) (hcall : mA E call) {ops : Array Oper} {Q : Exit → Act → World → Prop} : ∀ (rest : List Oper) (k : Nat) (C : Ctx) (tm tm' : PM AV) (S S' : St) (a : Act) (w : World), ops.toList.drop k = rest →
 eP E call nt ops rest tm S = some (tm', S') → FR E C S nt tm a w →
 (∀ C' a' w', FR E C' S' nt tm' a' w' → Ext C w C' w' → Q .normal a' w') → wpOps E.P ops Q (List.range' k (ops.size - k)) a w := by
 intro rest
 induction rest with
 | nil =>
  intro k C tm tm' S S' a w hk h hf hq
  have : ops.size ≤ k := by
   have := congrArg List.length hk
   simp at this; omega
  rw [show ops.size - k = 0 by omega]
  simp only [eP, aI, aJ] at h
  obtain ⟨rfl, rfl⟩ := h
  simp only [List.range'_zero, wpOps]
  exact hq C a w hf (Ext.refl _ _)
 | cons o rest ih =>
  intro k C tm tm' S S' a w hk h hf hq
  have hlt : k < ops.size := by
   rcases fV k ops.size with h' | h'
   · exact h'
   · rw [rP (by simpa using h')] at hk; simp at hk
  have hko : ops[k]? = some o := by
   have h0 : (ops.toList.drop k)[0]? = some o := by rw [hk]; rfl
   rw [jM] at h0
   simpa using h0
  have hrest : ops.toList.drop (k + 1) = rest := by
   rw [← nT, hk]; rfl
  have hsz : ops.size - k = (ops.size - (k + 1)) + 1 := by omega
  rw [hsz, List.range'_succ]
  rw [wpOps]
  simp only [hko]
  simp only [eP] at h
  split at h
  · simp at h
  · rename_i hwa
    split at h
    · rename_i tm1 hp
      have hwant := uC hf.tr hwa
      simp only [hwant, Bool.false_eq_true, dG]
      exact ih (k + 1) C tm1 tm' S S' _ w hrest h (hf.put hf.wr (Ext.refl _ _) (v := dB) (.sc _) hp) hq
    · simp at h
  · rename_i hwa
    have hwant := uC hf.tr hwa
    simp only [hwant, fM]
    split at h
    · simp at h
    · rename_i v S1 hev
      split at h
      · rename_i tm1 hp
        refine .inl ((good_op ok hcall o hf.wr hf.tr hev).wp fun u C' w' k1 k2 k3 => ?_)
        exact ih (k + 1) C' tm1 tm' S1 S' _ w' hrest h (hf.put k1 k2 k3 hp) (fun C2 a2 w2 f2 e2 => hq C2 a2 w2 f2 (k2.trans e2))
      · simp at h
theorem kj7 (ok : E.Ok) (hcall : mA E call) {id : Nat} {ops : Array Oper} {Q : Exit → Act → World → Prop} {tm' : PM AV}
 (h : eP E call nt ops ops.toList tm S = some (tm', S')) (hf : FR E C S nt tm a w) (hq : ∀ C' a' w', FR E C' S' nt tm' a' w' → Ext C w C' w' → Q .normal a' w') :
 (Code.region id ops false).wp E.P Q a w := by
 refine wp_region ?_
 rw [List.range_eq_range']
 exact seq_ok ok hcall ops.toList 0 C tm tm' S S' a w rfl h hf hq
noncomputable def Out.exit' : Out → Exit
 | .nrm => .normal
 | .exit id => .exit id
 | .ret => .ret
noncomputable def kw0 (E : Env) (call : eS) : Prop := ∀ (nt id : Nat) (ops : Array Oper) (Q : Exit → Act → World → Prop) (tm tm' : PM AV) (S S' : St) (C : Ctx) (a : Act) (w : World),
 lK E call nt ops tm S = some (tm', S') → FR E C S nt tm a w → (∀ C' a' w', FR E C' S' nt tm' a' w' → Ext C w C' w' → Q .normal a' w') → (Code.region id ops true).wp E.P Q a w
theorem iter_ok {M : Code → Option Run} {lf : Nat} {c : Code} (hc : ∀ (tm tm' : PM AV) (S S' : St) (o : Out) (C : Ctx) (a : Act) (w : World) (Q : Exit → Act → World → Prop), evC M E call lf nt c tm S = some (o, tm', S') → FR E C S nt tm a w →
 (∀ C' a' w', FR E C' S' nt tm' a' w' → Ext C w C' w' → Q o.exit' a' w') → c.wp E.P Q a w) :
 ∀ (k : Nat) (tm tm' : PM AV) (S S' : St) (o : Out) (C : Ctx) (a : Act) (w : World) (Q : Exit → Act → World → Prop), iP (evC M E call lf nt c) k tm S = some (o, tm', S') → FR E C S nt tm a w →
  (∀ C' a' w', FR E C' S' nt tm' a' w' → Ext C w C' w' → Q o.exit' a' w') →
  ∃ n, ∀ b k' cs, ∃ e a' w', Q e a' w' ∧ Arrives E.P (lone (b.at a (.code c :: .inLoop c :: k')) cs w) b k' cs e a' w' ∧ n = 0 := by
 intro k
 induction k with
 | zero => intro tm tm' S S' o C a w Q h; simp [iP] at h
 | succ k ih =>
  intro tm tm' S S' o C a w Q h hf hq
  simp only [iP] at h
  refine ⟨0, fun b k' cs => ?_⟩
  split at h
  · simp at h
  · rename_i tm1 S1 hb
    have := hc tm tm1 S S1 .nrm C a w (fun e a' w' => e = .normal ∧ ∃ C', FR E C' S1 nt tm1 a' w' ∧ Ext C w C' w') hb hf (fun C' a' w' f e => ⟨rfl, C', f, e⟩)
    obtain ⟨e, a1, w1, ⟨rfl, C1, f1, e1⟩, harr⟩ := this b (.inLoop c :: k') cs
    obtain ⟨n, hn⟩ := ih tm1 tm' S1 S' o C1 a1 w1 Q h f1 (fun C2 a2 w2 f2 e2 => hq C2 a2 w2 f2 (e1.trans e2))
    obtain ⟨e, a', w', q, harr2, _⟩ := hn b k' cs
    exact ⟨e, a', w', q, .of_steps (Steps.trans harr (.one step_inLoop)) harr2, rfl⟩
  · rename_i id tm1 S1 hb
    simp only [aI, aJ] at h
    obtain ⟨rfl, rfl, rfl⟩ := h
    obtain ⟨e, a1, w1, ⟨rfl, C1, f1, e1⟩, harr⟩ := hc tm tm1 S S1 (.exit id) C a w (fun e a' w' => e = .exit id ∧ ∃ C', FR E C' S1 nt tm1 a' w' ∧ Ext C w C' w') hb hf (fun C' a' w' f e => ⟨rfl, C', f, e⟩) b (.inLoop c :: k') cs
    exact ⟨.exit id, a1, w1, hq C1 a1 w1 f1 e1, Arrives.pass (x := .inLoop c) rfl (fun _ _ => .inl (by simp)) harr, rfl⟩
  · rename_i tm1 S1 hb
    simp only [aI, aJ] at h
    obtain ⟨rfl, rfl, rfl⟩ := h
    obtain ⟨e, a1, w1, ⟨rfl, C1, f1, e1⟩, harr⟩ := hc tm tm1 S S1 .ret C a w (fun e a' w' => e = .ret ∧ ∃ C', FR E C' S1 nt tm1 a' w' ∧ Ext C w C' w') hb hf (fun C' a' w' f e => ⟨rfl, C', f, e⟩) b (.inLoop c :: k') cs
    exact ⟨.ret, a1, w1, hq C1 a1 w1 f1 e1, Arrives.pass (x := .inLoop c) rfl (fun _ _ => .inl (by simp)) harr, rfl⟩
noncomputable def StmtOk (E : Env) (nt : Nat) (c : Code) (r : Run) : Prop := ∀ (tm tm' : PM AV) (S S' : St) (o : Out) (C : Ctx) (a : Act) (w : World) (Q : Exit → Act → World → Prop),
 r tm S = some (o, tm', S') → FR E C S nt tm a w → (∀ C' a' w', FR E C' S' nt tm' a' w' → Ext C w C' w' → Q o.exit' a' w') → c.wp E.P Q a w
noncomputable def MOk (E : Env) (nt : Nat) (M : Code → Option Run) : Prop := ∀ c r, M c = some r → StmtOk E nt c r
theorem code_ok {M : Code → Option Run} (ok : E.Ok) (hd : kw0 E call) (hcall : mA E call) (lf : Nat) (hM : MOk E nt M) : ∀ (c : Code) (tm tm' : PM AV) (S S' : St) (o : Out) (C : Ctx) (a : Act) (w : World) (Q : Exit → Act → World → Prop),
 evC M E call lf nt c tm S = some (o, tm', S') → FR E C S nt tm a w → (∀ C' a' w', FR E C' S' nt tm' a' w' → Ext C w C' w' → Q o.exit' a' w') → c.wp E.P Q a w := by
 intro c
 induction c with
 | skip =>
  intro tm tm' S S' o C a w Q h hf hq
  simp only [evC, aI, aJ] at h
  obtain ⟨rfl, rfl, rfl⟩ := h
  exact wp_skip (hq C a w hf (Ext.refl _ _))
 | label l =>
  intro tm tm' S S' o C a w Q h hf hq
  simp only [evC, aI, aJ] at h
  obtain ⟨rfl, rfl, rfl⟩ := h
  exact wp_label (hq C a w hf (Ext.refl _ _))
 | region id ops draw =>
  intro tm tm' S S' o C a w Q h hf hq
  cases draw with
  | false =>
   simp only [evC] at h
   split at h
   · rename_i tm1 S1 hs
     simp only [aI, aJ] at h
     obtain ⟨rfl, rfl, rfl⟩ := h
     exact kj7 ok hcall hs hf hq
   · simp at h
  | true =>
   simp only [evC] at h
   split at h
   · rename_i tm1 S1 hs
     simp only [aI, aJ] at h
     obtain ⟨rfl, rfl, rfl⟩ := h
     exact hd nt id ops Q tm tm1 S S1 C a w hs hf hq
   · simp at h
 | seq x y ihx ihy =>
  intro tm tm' S S' o C a w Q h hf hq
  simp only [evC] at h
  split at h
  · rename_i r hr
    exact hM _ _ hr tm tm' S S' o C a w Q h hf hq
  split at h
  · rename_i tm1 S1 hx
    exact wp_seq (ihx tm tm1 S S1 .nrm C a w _ hx hf fun C' a' w' f e => ihy tm1 tm' S1 S' o C' a' w' Q h f fun C2 a2 w2 f2 e2 => hq C2 a2 w2 f2 (e.trans e2))
  · rename_i hne
    refine wp_seq (ihx tm tm' S S' o C a w _ h hf fun C' a' w' f e => ?_)
    cases o with
    | nrm => exact absurd h (hne tm' S')
    | exit id => exact hq C' a' w' f e
    | ret => exact hq C' a' w' f e
 | cond c x y ihx ihy =>
  intro tm tm' S S' o C a w Q h hf hq
  simp only [evC] at h
  have hc := tT hf.wr hf.tr c
  split at h
  · rename_i hev
    rw [hev] at hc
    exact wp_cond_true hc.sc_inv (ihx tm tm' S S' o C a w Q h hf hq)
  · rename_i hev
    rw [hev] at hc
    exact wp_cond_false hc.sc_inv (ihy tm tm' S S' o C a w Q h hf hq)
  · simp at h
 | block id c ih =>
  intro tm tm' S S' o C a w Q h hf hq
  simp only [evC] at h
  split at h
  · rename_i j tm1 S1 hx
    refine wp_block (ih tm tm1 S S1 (.exit j) C a w _ hx hf fun C' a' w' f e => ?_)
    cases hb : Nat.beq j id with
    | true =>
     rw [hb] at h
     simp only [aH, aI, aJ] at h
     obtain ⟨rfl, rfl, rfl⟩ := h
     have := bA hb
     show Exit.inBlock id Q (.exit j) a' w'
     simp only [Exit.inBlock, this, fM]
     exact hq C' a' w' f e
    | false =>
     rw [hb] at h
     simp only [aK, aI, aJ] at h
     obtain ⟨rfl, rfl, rfl⟩ := h
     have hne : ¬ j = id := fun e => by rw [e, lB] at hb; simp at hb
     show Exit.inBlock id Q (.exit j) a' w'
     simp only [Exit.inBlock, hne, dG]
     exact hq C' a' w' f e
  · rename_i hne
    refine wp_block (ih tm tm' S S' o C a w _ h hf fun C' a' w' f e => ?_)
    cases o with
    | nrm => exact hq C' a' w' f e
    | exit j => exact absurd h (hne j tm' S')
    | ret => exact hq C' a' w' f e
 | loop c ih =>
  intro tm tm' S S' o C a w Q h hf hq
  simp only [evC] at h
  obtain ⟨n, hn⟩ := iter_ok ih lf tm tm' S S' o C a w Q h hf hq
  intro b k cs
  obtain ⟨e, a', w', q, harr, _⟩ := hn b k cs
  exact ⟨e, a', w', q, .of_steps (.one step_loop) harr⟩
 | scope c ih =>
  intro tm tm' S S' o C a w Q h hf hq
  simp only [evC] at h
  refine wp_scope_straight (ih tm tm' S S' o C a w _ h hf fun C' a' w' f e => ?_)
  cases o <;> exact hq C' a' w' f e
 | exit id =>
  intro tm tm' S S' o C a w Q h hf hq
  simp only [evC, aI, aJ] at h
  obtain ⟨rfl, rfl, rfl⟩ := h
  exact wp_exit (hq C a w hf (Ext.refl _ _))
 | ret =>
  intro tm tm' S S' o C a w Q h hf hq
  simp only [evC, aI, aJ] at h
  obtain ⟨rfl, rfl, rfl⟩ := h
  exact wp_ret (hq C a w hf (Ext.refl _ _))
 | rangeFunc f ps x y => intro tm tm' S S' o C a w Q h; simp [evC] at h
 | goto l => intro tm tm' S S' o C a w Q h; simp [evC] at h
 | refuse s => intro tm tm' S S' o C a w Q h; simp [evC] at h
noncomputable def uR (ts : Array Value) : ResultVar → Sem Value
 | .tmp t => pure (ts.getD t Go.undef)
 | .cell x t => do loadVar t (← asAddr (ts.getD x Go.undef))
theorem res_ok (ok : E.Ok) (hf : FR E C S nt tm a w) {r : ResultVar} {v : AV} (h : qP E tm S r = some v) :
 ∃ u, (uR a.tmps r).run E.P w = .ok u w ∧ VR C w v u := by
 cases r with
 | tmp t =>
  simp only [qP, aI] at h
  subst h
  exact ⟨_, rfl, hf.tr.getT t⟩
 | cell x t =>
  simp only [qP] at h
  have hx := hf.tr.getT x
  generalize getT tm x = X at h hx
  split at h
  · rename_i l off
    split at h
    · rename_i cs ho
      generalize hU : a.tmps.getD x Go.undef = U at hx
      cases hx with
      | ptr _ _ hl =>
       obtain ⟨u, k1, k2⟩ := xM ok h (uO hf.wr hl ho)
       refine ⟨u, ?_, k2⟩
       rw [uR, hU, Sem.run_bind]
       exact k1
    · simp at h
  · rename_i cs off
    obtain ⟨b, o, hU, hb, hfr, ht, hs⟩ := hx.eptr_inv
    obtain ⟨u, k1, k2⟩ := xM ok h hs
    refine ⟨u, ?_, k2⟩
    rw [uR, hU, Sem.run_bind]
    exact k1
  · simp at h
theorem kj5 (ok : E.Ok) (hf : FR E C S nt tm a w) : ∀ {l : List ResultVar} {vs : List AV}, fB E tm S l = some vs →
 ∃ us, (l.mapM (uR a.tmps)).run E.P w = .ok us w ∧ LR C w vs us
 | [], vs, h => by simp [fB] at h; subst h; exact ⟨[], rfl, LR.nil _ _⟩
 | r :: l, vs, h => by
  simp only [fB] at h
  split at h
  · rename_i v vs' h1 h2
    simp only [aI] at h
    subst h
    obtain ⟨u, k1, k2⟩ := res_ok ok hf h1
    obtain ⟨us, k3, k4⟩ := kj5 ok hf h2
    refine ⟨u :: us, ?_, LR.cons k2 k4⟩
    rw [List.mapM_cons]
    simp only [Sem.run_bind, k1, Result.andThen_ok, k3, Sem.run_pure]
  · simp at h
theorem wz9 (ok : E.Ok) (hf : FR E C S nt tm a w) {fn : Func} {vs : List AV} (h : fB E tm S fn.results.toList = some vs) : ∃ u, (results fn a.tmps).run E.P w = .ok u w ∧ VR C w (pI vs) u := by
 obtain ⟨us, k1, k2⟩ := kj5 ok hf h
 have hm : (fn.results.mapM (uR a.tmps)).run E.P w = .ok us.toArray w := by
  rw [Array.mapM_eq_mapM_toList, Sem.run_map, k1]; rfl
 have e : results fn a.tmps = (do let vs ← fn.results.mapM (uR a.tmps); pure (if h : vs.size = 1 then vs[0] else .tuple vs)) := rfl
 refine ⟨_, by rw [e, Sem.run_bind, hm]; rfl, ?_⟩
 match vs, us, k2 with
 | [], [], _ => exact .sc _
 | [v], [u], k2 => exact k2.head
 | v :: v' :: r, u :: u' :: r', k2 =>
  have : ¬ (u :: u' :: r').toArray.size = 1 := by simp
  simp only [this, dif_neg, not_false_eq_true, pI]
  exact LR.tup (by simpa using k2)
 | [], _ :: _, k2 => exact absurd k2.1 (by simp)
 | [_], [], k2 => exact absurd k2.1 (by simp)
 | [_], _ :: _ :: _, k2 => exact absurd k2.1 (by simp)
 | _ :: _ :: _, [], k2 => exact absurd k2.1 (by simp)
 | _ :: _ :: _, [_], k2 => exact absurd k2.1 (by simp)
theorem wu3 : ∀ (l : List AV) (i : Nat) (tm : PM AV) (j : Nat) (x : AV), (mR i l tm).get j = some x → (i ≤ j ∧ l[j - i]? = some x) ∨ tm.get j = some x
 | [], i, tm, j, x, h => .inr h
 | a :: l, i, tm, j, x, h => by
  simp only [mR] at h
  rcases wu3 l (i + 1) _ j x h with ⟨h1, h2⟩ | h1
  · left
    refine ⟨by omega, ?_⟩
    rw [show j - i = (j - (i + 1)) + 1 by omega]
    simpa using h2
  · rw [PM.get_set] at h1
    by_cases hj : j = i
    · rw [bN hj] at h1
      left; subst hj
      simpa using h1
    · rw [aR hj] at h1; exact .inr h1
structure XOk (E : Env) : Prop where
 ok : ∀ f g fn, E.X f = some g → E.fn f = some fn → fn.body.isNone = false ∧ ∀ args S r S', g args S = some (r, S') → ∀ C w (vs : Array Value), WR E C S w → LR C w args vs.toList →
  Calls E.P f vs w (fun e w' => ∃ u C', e = .returned u ∧ WR E C' S' w' ∧ Ext C w C' w' ∧ VR C' w' r u)
theorem evF_ok (ok : E.Ok) (hx : XOk E) (lf : Nat) (hd : ∀ n, mA E (evF E lf n) → kw0 E (evF E lf n)) (hm : ∀ n nt, mA E (evF E lf n) → MOk E nt (pQ E (evF E lf n) lf nt)) : ∀ n, mA E (evF E lf n) := by
 intro n
 induction n with
 | zero => intro g args S r S' h; simp [evF] at h
 | succ n ih =>
  intro g args S r S' h
  simp only [evF] at h
  cases hfn : E.fn g with
  | none => simp [hfn] at h
  | some fn =>
   obtain ⟨hf1, hf2⟩ := ok.fn g fn hfn
   simp only [hfn] at h
   cases hX : E.X g with
   | some g' =>
    simp only [hX] at h
    obtain ⟨k1, k2⟩ := hx.ok g g' fn hX hfn
    exact ⟨⟨fn, hf1, k1, hf2⟩, k2 args S r S' h⟩
   | none =>
    simp only [hX] at h
    cases hb : fn.body with
    | none => simp [hb] at h
    | some c =>
     simp only [hb] at h
     refine ⟨⟨fn, hf1, by simp [hb], hf2⟩, fun C w vs hw hl => ?_⟩
     cases hn : Nat.ble args.length fn.ntmps with
     | false => rw [hn] at h; simp at h
     | true =>
      rw [hn] at h
      simp only [aH] at h
      have hle := bW hn
      have hvl : vs.size = args.length := by simpa using hl.1.symm
      have hFR : FR E C S fn.ntmps (mR 0 args .leaf) { tmps := vs ++ Array.replicate (fn.ntmps - vs.size) Go.undef, defers := [] } w := by
       refine ⟨hw, fun i x hx => ?_, by simp; omega, rfl⟩
       rcases wu3 args 0 .leaf i x hx with ⟨_, h1⟩ | h1
       · obtain ⟨u, k1, k2⟩ := hl.get (by simpa using h1)
         have hi : i < vs.size := by
          rcases fV i vs.size with h' | h'
          · exact h'
          · have : vs.toList.length ≤ i := by simpa using h'
            simp [mJ this] at k1
         have k1' : vs[i] = u := by simpa [hi] using k1
         simpa [Array.getElem?_append, hi, k1'] using k2
       · simp at h1
      refine calls_of_wp hf1 hb ?_
      have fin : ∀ (o : Out) (tm : PM AV) (S1 : St), (∀ id, o ≠ .exit id) → evC (pQ E (evF E lf n) lf fn.ntmps) E (evF E lf n) lf fn.ntmps c (mR 0 args .leaf) S = some (o, tm, S1) →
       (fB E tm S1 fn.results.toList).map (fun vs => (pI vs, S1)) = some (r, S') →
       c.wp E.P (bodyPost E.P fn fun e w' => ∃ u C', e = .returned u ∧ WR E C' S' w' ∧ Ext C w C' w' ∧ VR C' w' r u) { tmps := vs ++ Array.replicate (fn.ntmps - vs.size) Go.undef, defers := [] } w := by
       intro o tm S1 ho hc hr
       simp only [dR, aJ] at hr
       obtain ⟨rs, h1, rfl, rfl⟩ := hr
       refine code_ok ok (hd n ih) ih lf (hm n _ ih) c _ tm S S1 o C _ w _ hc hFR fun C' a' w' f e => ?_
       obtain ⟨u, k1, k2⟩ := wz9 ok f h1
       cases o with
       | nrm => exact ⟨f.defers, u, k1, u, C', rfl, f.wr, e, k2⟩
       | ret => exact ⟨f.defers, u, k1, u, C', rfl, f.wr, e, k2⟩
       | exit id => exact absurd rfl (ho id)
      split at h
      · simp at h
      · rename_i o tm S1 hne hc
        exact fin o tm S1 (fun id he => hne id (by rw [he])) hc h
      · simp at h
end
end Go.Abs
