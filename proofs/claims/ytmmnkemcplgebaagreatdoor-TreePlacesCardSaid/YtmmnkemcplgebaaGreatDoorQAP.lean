/-
  A loop over a map: the rounds in the model.
-/
import Derived.Test.YtmmnkemcplgebaaGreatDoorQAO
section
section
set_option linter.unusedSimpArgs false
set_option linter.unusedVariables false
namespace Go.Abs
open Go.RowKit Go.MapKept
open Go.ChangeMaps (setBlock)
section
variable {E : Env} {call : CallFn} {nt : Nat}
theorem putA_keeps {dst : Option Tmp} {v : AV} {tm tm' : PM AV} {t : Nat} (h : putA nt dst v tm = some tm') (ht : dst ≠ some t) : tm'.get t = tm.get t := by
 unfold putA at h
 split at h
 · simp only [Option.some.injEq] at h; rw [h]
 · rename_i d
   simp only [cond_eq_ite] at h
   split at h
   · simp only [Option.some.injEq] at h
     subst h
     rw [PM.get_set, if_neg (fun e => ht (by rw [e]))]
   · cases h
theorem putA_get {d : Tmp} {v : AV} {tm tm' : PM AV} (h : putA nt (some d) v tm = some tm') : tm'.get d = some v ∧ d < nt := by
 simp only [putA, cond_eq_ite] at h
 split at h
 · rename_i hb
   simp only [Option.some.injEq] at h
   subst h
   exact ⟨by rw [PM.get_set, if_pos rfl], Nat.le_of_ble_eq_true hb⟩
 · cases h
theorem not_dst {o : Oper} {rest : List Oper} {t : Nat} (h : t ∉ dsts (o :: rest)) : o.dst ≠ some t ∧ t ∉ dsts rest := by
 refine ⟨fun e => h ?_, fun hr => h ?_⟩
 · simp [dsts, e]
 · simp only [dsts, List.mem_filterMap] at hr ⊢
   obtain ⟨a, h1, h2⟩ := hr
   exact ⟨a, List.mem_cons_of_mem _ h1, h2⟩
theorem seq_keeps {ops : Array Oper} {t : Nat} : ∀ (rest : List Oper) (tm tm' : PM AV) (S S' : St), evSeq E call nt ops rest tm S = some (tm', S') → t ∉ dsts rest → tm'.get t = tm.get t
 | [], tm, tm', S, S', h, _ => by simp [evSeq] at h; rw [h.1]
 | o :: r, tm, tm', S, S', h, ht => by
  obtain ⟨h1, h2⟩ := not_dst ht
  simp only [evSeq] at h
  split at h
  · cases h
  · split at h
    · rename_i hp
      exact (seq_keeps r _ _ _ _ h h2).trans (putA_keeps hp h1)
    · cases h
  · split at h
    · cases h
    · split at h
      · rename_i hp
        exact (seq_keeps r _ _ _ _ h h2).trans (putA_keeps hp h1)
      · cases h
theorem drawGo_keeps {ops : Array Oper} {m : PM Nat} {b0 t : Nat} : ∀ (rest : List Oper) (i : Nat) (tm tm' : PM AV) (S S' : St) (hi : List (Nat × St × St)) (ls : List (Nat × Nat × Option (TypeId × Nat))),
 evDrawGo E call nt ops m b0 i rest tm S = some (tm', S', hi, ls) → t ∉ dsts rest → tm'.get t = tm.get t
 | [], i, tm, tm', S, S', hi, ls, h, _ => by simp [evDrawGo] at h; rw [h.1]
 | o :: r, i, tm, tm', S, S', hi, ls, h, ht => by
  obtain ⟨h1, h2⟩ := not_dst ht
  simp only [evDrawGo] at h
  split at h
  · cases h
  · split at h
    · rename_i hp
      exact (drawGo_keeps r _ _ _ _ _ _ _ h h2).trans (putA_keeps hp h1)
    · cases h
  · cases hm : isMk E o with
    | true =>
     simp only [hm, cond_true] at h
     split at h
     · cases h
     · split at h
       · rename_i hp
         exact (drawGo_keeps r _ _ _ _ _ _ _ h h2).trans (putA_keeps hp h1)
       · cases h
    | false =>
     simp only [hm, cond_false] at h
     cases hq : loudOp E o.op with
     | true =>
      simp only [hq, cond_true] at h
      split at h
      · cases h
      · split at h
        · rename_i hp
          split at h
          · rename_i hgo
            simp only [Option.some.injEq, Prod.mk.injEq] at h
            obtain ⟨rfl, _⟩ := h
            exact (drawGo_keeps r _ _ _ _ _ _ _ hgo h2).trans (putA_keeps hp h1)
          · cases h
        · cases h
     | false =>
      simp only [hq, cond_false] at h
      split at h
      · cases h
      · split at h
        · rename_i hp
          split at h
          · rename_i hgo
            simp only [Option.some.injEq, Prod.mk.injEq] at h
            obtain ⟨rfl, _⟩ := h
            exact (drawGo_keeps r _ _ _ _ _ _ _ hgo h2).trans (putA_keeps hp h1)
          · cases h
        · cases h
theorem draw_keeps {ops : Array Oper} {tm tm' : PM AV} {S S' : St} {t : Nat} (h : evDraw E call nt ops tm S = some (tm', S')) (ht : t ∉ dsts ops.toList) : tm'.get t = tm.get t := by
 simp only [evDraw, cond_eq_ite] at h
 split at h
 · split at h
   · rename_i hgo
     split at h
     · simp only [Option.some.injEq, Prod.mk.injEq] at h
       obtain ⟨rfl, _⟩ := h
       exact drawGo_keeps _ _ _ _ _ _ _ _ hgo ht
     · cases h
   · cases h
 · cases h
theorem code_keeps {lf t : Nat} : ∀ (c : Code) (tm tm' : PM AV) (S S' : St) (o : Out), evC mac0 E call lf nt c tm S = some (o, tm', S') → t ∉ wrs c → tm'.get t = tm.get t := by
 intro c
 induction c with
 | region id ops draw =>
  intro tm tm' S S' o h ht
  simp only [wrs] at ht
  cases draw with
  | false =>
   simp only [evC] at h
   split at h
   · rename_i h1
     simp only [Option.some.injEq, Prod.mk.injEq] at h
     obtain ⟨_, rfl, _⟩ := h
     exact seq_keeps _ _ _ _ _ h1 ht
   · cases h
  | true =>
   simp only [evC] at h
   split at h
   · rename_i h1
     simp only [Option.some.injEq, Prod.mk.injEq] at h
     obtain ⟨_, rfl, _⟩ := h
     exact draw_keeps h1 ht
   · cases h
 | seq x y ihx ihy =>
  intro tm tm' S S' o h ht
  simp only [wrs, List.mem_append, not_or] at ht
  simp only [evC, mac0] at h
  split at h
  · rename_i h1
    exact (ihy _ _ _ _ _ h ht.2).trans (ihx _ _ _ _ _ h1 ht.1)
  · exact ihx _ _ _ _ _ h ht.1
 | cond c x y ihx ihy =>
  intro tm tm' S S' o h ht
  simp only [wrs, List.mem_append, not_or] at ht
  simp only [evC] at h
  split at h
  · exact ihx _ _ _ _ _ h ht.1
  · exact ihy _ _ _ _ _ h ht.2
  · cases h
 | block id c ih =>
  intro tm tm' S S' o h ht
  simp only [wrs] at ht
  simp only [evC, cond_eq_ite] at h
  split at h
  · rename_i h1
    have := ih _ _ _ _ _ h1 ht
    split at h <;> (simp only [Option.some.injEq, Prod.mk.injEq] at h; obtain ⟨_, rfl, _⟩ := h; exact this)
  · exact ih _ _ _ _ _ h ht
 | loop c ih =>
  intro tm tm' S S' o h ht
  simp only [wrs] at ht
  simp only [evC] at h
  generalize lf = k at h ih
  have key : ∀ (n : Nat) (tm tm' : PM AV) (S S' : St) (o : Out), iter (evC mac0 E call k nt c) n tm S = some (o, tm', S') → tm'.get t = tm.get t := by
   intro n
   induction n with
   | zero => intro tm tm' S S' o h; simp [iter] at h
   | succ n ihn =>
    intro tm tm' S S' o h
    simp only [iter] at h
    split at h
    · cases h
    · rename_i h1
      exact (ihn _ _ _ _ _ h).trans (ih _ _ _ _ _ h1 ht)
    · rename_i h1
      simp only [Option.some.injEq, Prod.mk.injEq] at h
      obtain ⟨_, rfl, _⟩ := h
      exact ih _ _ _ _ _ h1 ht
    · rename_i h1
      simp only [Option.some.injEq, Prod.mk.injEq] at h
      obtain ⟨_, rfl, _⟩ := h
      exact ih _ _ _ _ _ h1 ht
  exact key _ _ _ _ _ _ h
 | scope c ih => intro tm tm' S S' o h ht; simp only [wrs] at ht; simp only [evC] at h; exact ih _ _ _ _ _ h ht
 | _ => intro tm tm' S S' o h ht; simp [evC] at h; try (rw [h.2.1])
theorem eraseT_get : ∀ (ws : List Tmp) (tm : PM AV) (t : Nat), (eraseT ws tm).get t = if t ∈ ws then some .undef else tm.get t
 | [], tm, t => by simp [eraseT]
 | a :: l, tm, t => by
  rw [eraseT, eraseT_get l]
  by_cases h1 : t ∈ l
  · rw [if_pos h1, if_pos (List.mem_cons_of_mem _ h1)]
  · rw [if_neg h1, PM.get_set]
    by_cases h2 : t = a
    · rw [if_pos h2, if_pos (by simp [h2])]
    · rw [if_neg h2, if_neg (by simp [h1, h2])]
noncomputable def LoopW (P : Program) (Q : Exit → Act → World → Prop) (c : Code) (a : Act) (w : World) : Prop :=
 ∀ b k cs, ∃ e a' w', Q e a' w' ∧ Arrives P (lone (b.at a (.code c :: .inLoop c :: k)) cs w) b k cs e a' w'
theorem loopW_wp {P : Program} {Q : Exit → Act → World → Prop} {c : Code} {a : Act} {w : World} (h : LoopW P Q c a w) : (Code.loop c).wp P Q a w :=
 fun b k cs => let ⟨e, a', w', q, r⟩ := h b k cs; ⟨e, a', w', q, .of_steps (.one step_loop) r⟩
theorem loopW_round {P : Program} {Q : Exit → Act → World → Prop} {c : Code} {a : Act} {w : World} (h : c.wp P (fun e a' w' => (e = .normal ∧ LoopW P Q c a' w') ∨ (e ≠ .normal ∧ Q e a' w')) a w) : LoopW P Q c a w := by
 intro b k cs
 obtain ⟨e, a1, w1, hq, harr⟩ := h b (.inLoop c :: k) cs
 rcases hq with ⟨rfl, hl⟩ | ⟨hne, hq⟩
 · obtain ⟨e, a', w', q, harr2⟩ := hl b k cs
   exact ⟨e, a', w', q, .of_steps (Steps.trans harr (.one step_inLoop)) harr2⟩
 · exact ⟨e, a1, w1, hq, Arrives.pass (x := .inLoop c) rfl (fun _ _ => .inl hne) harr⟩
noncomputable def ExtX (C : Ctx) (w : World) (C' : Ctx) (w' : World) : Prop := Ext (C.exact C'.mx) w C' w'
theorem Ext.x {C C' : Ctx} {w w' : World} (e : Ext C w C' w') : ExtX C w C' w' := by
 unfold ExtX
 rw [e.mx]
 exact e
theorem ExtX.trans {C C1 C2 : Ctx} {w w1 w2 : World} (h : ExtX C w C1 w1) (k : ExtX C1 w1 C2 w2) : ExtX C w C2 w2 := by
 unfold ExtX at h k ⊢
 have := Ext.exact C2.mx h
 exact Ext.trans this k
theorem ExtX.back {C C' : Ctx} {w w' : World} (h : ExtX C w C' w') : Ext C w (C'.exact C.mx) w' := by
 unfold ExtX at h
 have := Ext.exact C.mx h
 exact this
theorem setBlock_at {w : World} {b : Nat} {o : Obj} (h : b < w.heap.size) : (setBlock w b o).heap[b]? = some o := by simp [setBlock, h]
theorem setBlock_ne {w : World} {b b' : Nat} {o : Obj} (h : b' ≠ b) : (setBlock w b o).heap[b']? = w.heap[b']? := by
 have : b ≠ b' := fun e => h e.symm
 simp [setBlock, this]
theorem iter_step {C : Ctx} {S : St} {w w1 : World} (hw : WR E C S w) {n : Nat} (hn : C.born n) (hr : S.objs.get n = some .raw) (o' : Obj) (hw1 : w1 = w ∨ w1 = w.drew) (hmap : ∃ m s q c, C.mx n = .mapIter m s q c) :
 WR E (C.exact fun k => if k = n then o' else C.mx k) S (setBlock w1 (C.mu n) o') ∧ ExtX C w (C.exact fun k => if k = n then o' else C.mx k) (setBlock w1 (C.mu n) o') := by
 have hwd : WR E C S w1 ∧ Ext C w C w1 := by
  rcases hw1 with rfl | rfl
  · exact ⟨hw, Ext.refl _ _⟩
  · exact ⟨hw.drew, Ext.drew C w⟩
 have hal : ¬ inacc (S.objs.get n) := by rw [hr]; rintro (h | h) <;> cases h
 have hob := hwd.1.objs n hn
 rw [hr] at hob
 obtain ⟨m, s, q, c, hm⟩ := hmap
 have hlt := hwd.1.mub n hn
 obtain ⟨k1, k2⟩ := hwd.1.put (w' := setBlock w1 (C.mu n) o') hn hal (a := .dead) (o := o') (setBlock_at hlt.2) (fun b hb => setBlock_ne hb) (by simp [setBlock])
  ⟨⟨rfl, rfl, rfl, by simp [setBlock], fun k hk => setBlock_ne (by omega)⟩, trivial⟩ (fun x hx => by
   simp only [World.shape?, hob.1, hm] at hx
   cases hx) trivial
 have hget : ∀ k, (S.put n .dead).objs.get k = if k = n then some .dead else S.objs.get k := fun k => by
  show (S.objs.set n .dead).get k = _
  rw [PM.get_set]
 have k3 := k1.exact (fun k => if k = n then o' else C.mx k) (fun l hl hh => by
  rw [hget] at hh
  by_cases e : l = n
  · rw [if_pos e] at hh; cases hh
  · rw [if_neg e])
 have k4 := k3.as (l := n) (a := .raw) hn (fun k hk hne ha => by
  rw [hget, if_neg hne] at ha
  exact hwd.1.apart hn hal k hk hne ha) ⟨by
   show (setBlock w1 (C.mu n) o').heap[C.mu n]? = some (if n = n then o' else C.mx n)
   rw [setBlock_at hlt.2, if_pos rfl], hob.2⟩
 refine ⟨k4.same (fun l => ?_) rfl rfl rfl rfl rfl, Ext.exact _ (hwd.2.trans k2)⟩
 show S.objs.get l = ((S.objs.set n .dead).set n .raw).get l
 rw [PM.get_set, PM.get_set]
 by_cases e : l = n
 · rw [if_pos e, e, hr]
 · rw [if_neg e, if_neg e]
theorem nextOp_spec {l : List Oper} {it nd : Tmp} (h : nextOp l.head? = some (it, nd)) : ∃ o r, l = o :: r ∧ o.op = .next (.tmp it) false ∧ o.dst = some nd ∧ o.guard = none := by
 cases l with
 | nil => simp [nextOp] at h
 | cons o r =>
  simp only [List.head?_cons] at h
  unfold nextOp at h
  split at h
  · rename_i h1
    simp only [Option.some.injEq, Prod.mk.injEq] at h h1
    obtain ⟨rfl, rfl⟩ := h
    exact ⟨o, r, rfl, by rw [h1], by rw [h1], by rw [h1]⟩
  · cases h
theorem entryOp_spec {l : List Oper} {it ed : Tmp} (h : entryOp l.head? = some (it, ed)) : ∃ o r, l = o :: r ∧ o.op = .entry (.tmp it) ∧ o.dst = some ed ∧ o.guard = none := by
 cases l with
 | nil => simp [entryOp] at h
 | cons o r =>
  simp only [List.head?_cons] at h
  unfold entryOp at h
  split at h
  · rename_i h1
    simp only [Option.some.injEq, Prod.mk.injEq] at h h1
    obtain ⟨rfl, rfl⟩ := h
    exact ⟨o, r, rfl, by rw [h1], by rw [h1], by rw [h1]⟩
  · cases h
theorem rangeOp_spec {l : List Oper} {T : TypeId} {x : Operand} {it : Tmp} (h : rangeOp l.getLast? = some (T, x, it)) : ∃ o, l = l.dropLast ++ [o] ∧ o.op = .range T x ∧ o.dst = some it ∧ o.guard = none := by
 cases hl : l.getLast? with
 | none => rw [hl] at h; simp [rangeOp] at h
 | some o =>
  rw [hl] at h
  have hne : l ≠ [] := fun e => by rw [e] at hl; simp at hl
  have hlast : l.getLast hne = o := by rw [List.getLast?_eq_some_getLast hne] at hl; simpa using hl
  have h0 : l = l.dropLast ++ [o] := by rw [← hlast]; exact (List.dropLast_concat_getLast hne).symm
  unfold rangeOp at h
  split at h
  · rename_i h1
    simp only [Option.some.injEq, Prod.mk.injEq] at h h1
    obtain ⟨rfl, rfl, rfl⟩ := h
    exact ⟨o, h0, by rw [h1], by rw [h1], by rw [h1]⟩
  · cases h
structure Pre (E : Env) (call : CallFn) (nt : Nat) (m : MapLoop) (k : Value) (x : AV) (tm : PM AV) (S : St) (tm4 : PM AV) (S4 : St) : Prop where
 ex : ∃ tm1 tm2 S2 tm3, putA nt (some m.nd) (.tup [.sc (.bool true), ofV k, x]) tm = some tm1 ∧ evSeq E call nt m.nops m.nops.toList.tail tm1 S = some (tm2, S2) ∧ getT tm2 m.c = .sc (.bool true) ∧
  putA nt (some m.ed) (.tup [ofV k, x]) tm2 = some tm3 ∧ evSeq E call nt m.eops m.eops.toList.tail tm3 S2 = some (tm4, S4)
theorem round_take {m : MapLoop} {run : Run} {k : Value} {x : AV} {tm : PM AV} {S : St} {r : Out × PM AV × St} (h : roundA E call nt m run k x tm S = some r) : ∃ tm4 S4, Pre E call nt m k x tm S tm4 S4 ∧ run tm4 S4 = some r := by
 unfold roundA at h
 split at h
 · cases h
 · rename_i tm1 h1
   split at h
   · cases h
   · rename_i tm2 S2 h2
     split at h
     · rename_i h3
       split at h
       · cases h
       · rename_i tm3 h4
         split at h
         · cases h
         · rename_i tm4 S4 h5
           exact ⟨tm4, S4, ⟨tm1, tm2, S2, tm3, h1, h2, h3, h4, h5⟩, h⟩
     · cases h
theorem ver_leaf {S : St} (h : S.wr = .leaf) (l : Nat) : S.ver l = 0 := by simp [St.ver, h]
theorem Evo.still {S S' : St} (e : Evo S S') (h0 : S.wr = .leaf) (h : ∀ l, l < S.no → S'.ver l = 0) : ∀ l, l < S.no → S'.objs.get l = S.objs.get l ∧ S'.shp.get l = S.shp.get l := fun l hl => e.obj l hl (by rw [ver_leaf h0, h l hl])
theorem Evo.leaf {S S' : St} (e : Evo S S') {n : Nat} (hn : n ≤ S.no) (h : ∀ l, l < n → S'.ver l = 0) : ∀ l, l < n → S.ver l = 0 := fun l hl => by
 have h1 := e.ver l (by omega)
 rw [h l hl] at h1
 omega
theorem born_lt {C : Ctx} {S : St} {w : World} (hw : WR E C S w) {l : Nat} (h : C.born l) : l < S.no := by
 rcases Nat.lt_or_ge l S.no with h1 | h1
 · exact h1
 · exact absurd h (hw.unb l h1)
theorem ws_it {m : MapLoop} (h : m.it ∉ m.ws) : m.nd ≠ m.it ∧ m.it ∉ dsts m.nops.toList ∧ m.ed ≠ m.it ∧ m.it ∉ dsts m.eops.toList ∧ m.it ∉ wrs m.body := by
 simp only [MapLoop.ws, List.mem_cons, List.mem_append, not_or] at h
 exact ⟨fun e => h.1 e.symm, h.2.1, fun e => h.2.2.1 e.symm, h.2.2.2.1, h.2.2.2.2⟩
theorem dsts_tail {l : List Oper} {t : Nat} (h : t ∉ dsts l) : t ∉ dsts l.tail := by
 cases l with
 | nil => exact h
 | cons o r => exact (not_dst h).2
theorem round_pre (ok : E.Ok) (hcall : CallOk E call) (hevo : CallEvo call) {m : MapLoop} {i1 i2 : Nat} {Q : Exit → Act → World → Prop} (hno : nextOp m.nops.toList.head? = some (m.it, m.nd)) (heo : entryOp m.eops.toList.head? = some (m.it, m.ed)) (hws : m.it ∉ m.ws)
 {C : Ctx} {X : St} {tm : PM AV} {a : Act} {w : World} {n l since c0 clock : Nat} {seen : Array Nat} {ents : Array MapEntry} {es : List (Value × AV)} (hf : FR E C X nt tm a w) (hit : tm.get m.it = some (.ptr n 0)) (hn : C.born n) (hl : C.born l)
 (hXn : X.objs.get n = some .raw) (hXl : X.objs.get l = some (.mpx es)) (hnl : n ≠ l) (hmn : C.mx n = .mapIter (some (C.mu l)) since seen c0) (hml : C.mx l = .map ents clock) (hsc : since ≤ c0) (hold : ∀ x ∈ ents.toList, x.born < since)
 {R : Value → AV → PM AV → St → Prop} (hr : ∀ k x, (k, x) ∈ es → ∃ tm4 S4, Pre E call nt m k x tm X tm4 S4 ∧ (∀ l, l < X.no → S4.ver l = 0) ∧ R k x tm4 S4)
 (hover : (leftOf ents seen).size = 0 → wpOps E.P m.nops (Exit.then ((Code.seq (.cond (.tmp m.c) .skip (.exit m.b)) (.block m.b2 (.seq (.region i2 m.eops false) m.body))).wp E.P Q) Q) (List.range' 1 (m.nops.size - 1)) (a.put (some m.nd) (.tuple #[.bool false])) w)
 (hbody : ∀ e x tm4 S4 C' a' w2 w', e ∈ (leftOf ents seen).toList → (e.key, x) ∈ es → R e.key x tm4 S4 → Evo X S4 →
  WR E (C.exact fun k => if k = n then .mapIter (some (C.mu l)) since (seen.push e.born) clock else C.mx k) X w2 → ExtX C w (C.exact fun k => if k = n then .mapIter (some (C.mu l)) since (seen.push e.born) clock else C.mx k) w2 →
  FR E C' S4 nt tm4 a' w' → Ext (C.exact fun k => if k = n then .mapIter (some (C.mu l)) since (seen.push e.born) clock else C.mx k) w2 C' w' → m.body.wp E.P (Exit.inBlock m.b2 Q) a' w') :
 (Code.seq (.region i1 m.nops false) (.seq (.cond (.tmp m.c) .skip (.exit m.b)) (.block m.b2 (.seq (.region i2 m.eops false) m.body)))).wp E.P Q a w := by
 obtain ⟨w1i, w2i, w3i, w4i, w5i⟩ := ws_it hws
 obtain ⟨o0, r0, hl0, hop, hdst, hg⟩ := nextOp_spec hno
 obtain ⟨o1, r1, hl1, hop1, hdst1, hg1⟩ := entryOp_spec heo
 have hsz0 : m.nops.size = r0.length + 1 := by rw [← Array.length_toList, hl0]; rfl
 have hsz1 : m.eops.size = r1.length + 1 := by rw [← Array.length_toList, hl1]; rfl
 have hget0 : m.nops[0]? = some o0 := by rw [← Array.getElem?_toList, hl0]; rfl
 have hget1 : m.eops[0]? = some o1 := by rw [← Array.getElem?_toList, hl1]; rfl
 have htl0 : m.nops.toList.tail = r0 := by rw [hl0]; rfl
 have htl1 : m.eops.toList.tail = r1 := by rw [hl1]; rfl
 refine wp_seq (wp_region ?_)
 rw [List.range_eq_range', hsz0, List.range'_succ, wpOps]
 simp only [hget0]
 rw [if_pos (wanted_rel hf.tr (by simp [wantedA, hg]))]
 refine .inl ?_
 have hobn := hf.wr.objs n hn
 rw [hXn] at hobn
 have hobl := hf.wr.objs l hl
 rw [hXl] at hobl
 obtain ⟨hhl, ents0, clock0, hml0, hmap, hborn⟩ := hobl
 obtain ⟨rfl, rfl⟩ : ents0 = ents ∧ clock0 = clock := by rw [hml] at hml0; injection hml0 with h1 h2; exact ⟨h1.symm, h2.symm⟩
 have hptr : a.eval (.tmp m.it) = .pointer (some ⟨C.mu n, 0, none⟩) := by
  have h1 := ev_rel hf.wr hf.tr (.tmp m.it)
  have h2 : E.ev tm (.tmp m.it) = .ptr n 0 := by simp [Env.ev, getT, hit]
  rw [h2] at h1
  generalize a.eval (.tmp m.it) = V at h1 ⊢
  cases h1 with
  | ptr _ _ _ => rw [hobn.2]
 have hev : execOp a.eval o0 = (do pure (.value (← Instr.next (a.eval (.tmp m.it)) false o0.type))) := by simp [execOp, hop]
 unfold Oper.wp
 rw [hev, hptr]
 rcases run_next_at (P := E.P) w o0.type (C.mu n) (C.mu l) since c0 seen ents0 clock0 (by rw [hobn.1, hmn]) (by rw [hhl, hml]) hold hsc with ⟨hs0, hrun⟩ | ⟨e, he, w1, hw1, hrun⟩
 · rw [run_v hrun]
   have := hover hs0
   rw [hsz0] at this
   show wpOps E.P m.nops _ _ (a.put o0.dst _) w
   rw [hdst]
   exact this
 · rw [run_v hrun]
   obtain ⟨heE, _⟩ := mem_left he
   obtain ⟨x, hx⟩ := hmap.key e heE
   have hvx : VR C w x e.val := by
    obtain ⟨e', k1, k2, k3⟩ := hmap.val _ _ hx
    have := nodup_key hmap.nd' k1 heE k2
    rw [← this]; exact k3
   obtain ⟨kw, ke⟩ := iter_step hf.wr hn hXn (.mapIter (some (C.mu l)) since (seen.push e.born) clock0) hw1 ⟨_, _, _, _, hmn⟩
   generalize hg2 : (fun k => if k = n then (Obj.mapIter (some (C.mu l)) since (seen.push e.born) clock0) else C.mx k) = g2 at kw ke
   generalize hW : setBlock w1 (C.mu n) (.mapIter (some (C.mu l)) since (seen.push e.born) clock0) = W at kw ke
   obtain ⟨tm4, S4, ⟨tm1, tm2, S2, tm3, p1, p2, p3, p4, p5⟩, hleaf, hR⟩ := hr _ _ hx
   have hvx2 : VR (C.exact g2) W x e.val := (hvx.exact g2).ext ke.toExtW
   have hvt : VR (C.exact g2) W (.tup [.sc (.bool true), ofV e.key, x]) (.tuple #[.bool true, e.key, e.val]) := LR.tup (LR.cons (.sc _) (LR.cons (vr_ofV _ _ _) (LR.cons hvx2 (LR.nil _ _))))
   obtain ⟨q1, q2⟩ := ((hf.tr.exact g2).ext ke).put hf.size hvt p1
   have hf1 : FR E (C.exact g2) X nt tm1 (a.put o0.dst (.tuple #[.bool true, e.key, e.val])) W := ⟨kw, by rw [hdst]; exact q1, by rw [hdst]; exact q2, by rw [Act.put_defers']; exact hf.defers⟩
   have hpart := seq_part (Q := Exit.then ((Code.seq (.cond (.tmp m.c) .skip (.exit m.b)) (.block m.b2 (.seq (.region i2 m.eops false) m.body))).wp E.P Q) Q) (tl := []) ok hcall r0 1 (C.exact g2) tm1 tm2 X S2 (a.put o0.dst (.tuple #[.bool true, e.key, e.val])) W (by rw [hl0]; simp) (by rw [← htl0]; exact p2) hf1 (fun C1 a1 w1' f1 e1 => ?_)
   · rw [List.append_nil] at hpart
     exact hpart
   · show (Code.seq (.cond (.tmp m.c) .skip (.exit m.b)) (.block m.b2 (.seq (.region i2 m.eops false) m.body))).wp E.P Q a1 w1'
     have hcond : a1.eval (.tmp m.c) = .bool true := by
      have h1 := ev_rel f1.wr f1.tr (.tmp m.c)
      have h2 : E.ev tm2 (.tmp m.c) = .sc (.bool true) := p3
      rw [h2] at h1
      exact h1.sc_inv
     refine wp_seq (wp_cond_true hcond (wp_skip ?_))
     show (Code.block m.b2 (.seq (.region i2 m.eops false) m.body)).wp E.P Q a1 w1'
     refine wp_block (wp_seq (wp_region ?_))
     rw [List.range_eq_range', hsz1, List.range'_succ, wpOps]
     simp only [hget1]
     rw [if_pos (wanted_rel f1.tr (by simp [wantedA, hg1]))]
     refine .inl ?_
     have ev1 : Evo X S2 := seq_evo hevo _ _ _ _ _ p2
     have ev2 : Evo S2 S4 := seq_evo hevo _ _ _ _ _ p5
     have same2 : ∀ k, k < X.no → S2.objs.get k = X.objs.get k := fun k hk => by
      have h1 := ev1.ver k hk
      have h2 : S2.ver k = 0 := by
       have q1 := ev2.ver k (Nat.lt_of_lt_of_le hk ev1.no)
       have q2 := hleaf k hk
       omega
      exact (ev1.obj k hk (by omega)).1
     obtain ⟨bn1, bn2, bn3, _, _⟩ := e1.born n hn
     obtain ⟨bl1, bl2, _, _, _⟩ := e1.born l hl
     have ob1 := f1.wr.objs n bn1
     rw [same2 n (born_lt hf.wr hn), hXn] at ob1
     have ob2 := f1.wr.objs l bl1
     rw [same2 l (born_lt hf.wr hl), hXl] at ob2
     have hit2 : tm2.get m.it = some (.ptr n 0) := by
      rw [seq_keeps _ _ _ _ _ p2 (dsts_tail w2i), putA_keeps p1 (fun e => w1i (Option.some.inj e)), hit]
     have hptr1 : a1.eval (.tmp m.it) = .pointer (some ⟨C1.mu n, 0, none⟩) := by
      have h1 := ev_rel f1.wr f1.tr (.tmp m.it)
      have h2 : E.ev tm2 (.tmp m.it) = .ptr n 0 := by simp [Env.ev, getT, hit2]
      rw [h2] at h1
      generalize a1.eval (.tmp m.it) = V at h1 ⊢
      cases h1 with
      | ptr _ _ _ => rw [ob1.2]
     have hmxn : C1.mx n = .mapIter (some (C.mu l)) since (seen.push e.born) clock0 := by
      rw [e1.mx, ← hg2]
      show (if n = n then _ else _) = _
      rw [if_pos rfl]
     have hmxl : C1.mx l = .map ents0 clock0 := by
      rw [e1.mx, ← hg2]
      show (if l = n then _ else _) = _
      rw [if_neg (fun e => hnl e.symm), hml]
     have hev1 : execOp a1.eval o1 = (do pure (.value (← Instr.entry (a1.eval (.tmp m.it))))) := by simp [execOp, hop1]
     have hb2 : w1'.heap[C.mu l]? = some (.map ents0 clock0) := by
      have := ob2.1
      rw [bl2, hmxl] at this
      exact this
     unfold Oper.wp
     rw [hev1, hptr1, run_v (run_entry_at (P := E.P) w1' (C1.mu n) (C.mu l) since seen ents0 clock0 e (by rw [ob1.1, hmxn]) hb2 heE hborn.2)]
     have hvt2 : VR C1 w1' (.tup [ofV e.key, x]) (.tuple #[e.key, e.val]) := LR.tup (LR.cons (vr_ofV _ _ _) (LR.cons (hvx2.ext e1.toExtW) (LR.nil _ _)))
     have hf2 : FR E C1 S2 nt tm3 (a1.put o1.dst (.tuple #[e.key, e.val])) w1' := by
      rw [hdst1]
      exact f1.put f1.wr (Ext.refl _ _) hvt2 p4
     have hpart2 := seq_part (Q := Exit.then (m.body.wp E.P (Exit.inBlock m.b2 Q)) (Exit.inBlock m.b2 Q)) (tl := []) ok hcall r1 1 C1 tm3 tm4 S2 S4 (a1.put o1.dst (.tuple #[e.key, e.val])) w1' (by rw [hl1]; simp) (by rw [← htl1]; exact p5) hf2 (fun C3 a3 w3 f3 e3 => ?_)
     · rw [List.append_nil] at hpart2
       exact hpart2
     · show m.body.wp E.P (Exit.inBlock m.b2 Q) a3 w3
       rw [← hg2] at kw ke e1
       exact hbody e x tm4 S4 C3 a3 W w3 he hx hR (ev1.trans ev2) kw ke f3 (e1.trans e3)
theorem pre_keeps {m : MapLoop} {k : Value} {x : AV} {tm tm4 : PM AV} {S S4 : St} (h : Pre E call nt m k x tm S tm4 S4) {t : Nat} (ht : t ∉ m.ws) : tm4.get t = tm.get t := by
 simp only [MapLoop.ws, List.mem_cons, List.mem_append, not_or] at ht
 obtain ⟨tm1, tm2, S2, tm3, p1, p2, p3, p4, p5⟩ := h.ex
 rw [seq_keeps _ _ _ _ _ p5 (dsts_tail ht.2.2.2.1), putA_keeps p4 (fun e => ht.2.2.1 (Option.some.inj e).symm), seq_keeps _ _ _ _ _ p2 (dsts_tail ht.2.1), putA_keeps p1 (fun e => ht.1 (Option.some.inj e).symm)]
theorem pre_evo (hevo : CallEvo call) {m : MapLoop} {k : Value} {x : AV} {tm tm4 : PM AV} {S S4 : St} (h : Pre E call nt m k x tm S tm4 S4) : Evo S S4 := by
 obtain ⟨tm1, tm2, S2, tm3, p1, p2, p3, p4, p5⟩ := h.ex
 exact (seq_evo hevo _ _ _ _ _ p2).trans (seq_evo hevo _ _ _ _ _ p5)
theorem last_ok (ok : E.Ok) (hcall : CallOk E call) {m : MapLoop} {i2 : Nat} {Q : Exit → Act → World → Prop} (hno : nextOp m.nops.toList.head? = some (m.it, m.nd)) {C : Ctx} {S S' : St} {tm tm' : PM AV} {o : Out} {a : Act} {w : World}
 (h : lastA E call nt m tm S = some (o, tm', S')) (hf : FR E C S nt tm a w) (hq : o = .nrm → ∀ C' a' w', FR E C' S' nt tm' a' w' → Ext C w C' w' → Q (.exit m.b) a' w') :
 wpOps E.P m.nops (Exit.then ((Code.seq (.cond (.tmp m.c) .skip (.exit m.b)) (.block m.b2 (.seq (.region i2 m.eops false) m.body))).wp E.P Q) Q) (List.range' 1 (m.nops.size - 1)) (a.put (some m.nd) (.tuple #[.bool false])) w := by
 obtain ⟨o0, r0, hl0, hop, hdst, hg⟩ := nextOp_spec hno
 have hsz0 : m.nops.size = r0.length + 1 := by rw [← Array.length_toList, hl0]; rfl
 have htl0 : m.nops.toList.tail = r0 := by rw [hl0]; rfl
 unfold lastA at h
 split at h
 · cases h
 · rename_i tm1 p1
   split at h
   · cases h
   · rename_i tm2 S2 p2
     split at h
     · rename_i p3
       simp only [Option.some.injEq, Prod.mk.injEq] at h
       obtain ⟨rfl, rfl, rfl⟩ := h
       have hvt : VR C w (.tup [.sc (.bool false)]) (.tuple #[.bool false]) := LR.tup (LR.cons (.sc _) (LR.nil _ _))
       have hf1 : FR E C S nt tm1 (a.put (some m.nd) (.tuple #[.bool false])) w := hf.put hf.wr (Ext.refl _ _) hvt p1
       have hpart := seq_part (Q := Exit.then ((Code.seq (.cond (.tmp m.c) .skip (.exit m.b)) (.block m.b2 (.seq (.region i2 m.eops false) m.body))).wp E.P Q) Q) (tl := []) ok hcall r0 1 C tm1 tm2 S S2 _ w (by rw [hl0]; simp) (by rw [← htl0]; exact p2) hf1 (fun C1 a1 w1 f1 e1 => ?_)
       · rw [List.append_nil] at hpart
         rw [hsz0]
         exact hpart
       · show (Code.seq (.cond (.tmp m.c) .skip (.exit m.b)) (.block m.b2 (.seq (.region i2 m.eops false) m.body))).wp E.P Q a1 w1
         have hcond : a1.eval (.tmp m.c) = .bool false := by
          have h1 := ev_rel f1.wr f1.tr (.tmp m.c)
          have h2 : E.ev tm2 (.tmp m.c) = .sc (.bool false) := p3
          rw [h2] at h1
          exact h1.sc_inv
         exact wp_seq (wp_cond_false hcond (wp_exit (hq rfl C1 a1 w1 f1 e1)))
     · cases h
theorem still_spec {S S' : St} (h : still S S' = true) : (∀ l, l < S.no → S'.ver l = 0) ∧ S'.nid = S.nid := by
 simp only [still, Bool.and_eq_true] at h
 refine ⟨fun l hl => ?_, Nat.eq_of_beq_eq_true h.2⟩
 unfold St.ver
 cases hg : S'.wr.get l with
 | none => rfl
 | some v =>
  have := Nat.le_of_ble_eq_true (PM.allKeys_get _ _ h.1 l v hg)
  omega
theorem round_back {C C2 C5 : Ctx} {X S5 : St} {tm3 tm5 : PM AV} {a a5 : Act} {w w2 w5 : World} {ws : List Tmp} {g : Nat → Obj} (hf : FR E C X nt (eraseT ws tm3) a w) (hC2 : C2 = C.exact g) (kw : WR E C2 X w2) (ke : ExtX C w C2 w2) (f5 : FR E C5 S5 nt tm5 a5 w5) (e5 : Ext C2 w2 C5 w5)
 (ev : Evo X S5) (hX : X.wr = .leaf) (hs : still X S5 = true) (hk : ∀ t, t ∉ ws → tm5.get t = (eraseT ws tm3).get t) : FR E (C2.cut C5) X nt (eraseT ws tm3) a5 w5 := by
 obtain ⟨hleaf, hnid⟩ := still_spec hs
 have hb : ∀ l, C2.born l → C5.born l := fun l hl => (e5.born l hl).1
 refine ⟨forget kw f5.wr e5 (fun l hl => (ev.still hX hleaf l (born_lt kw hl)).1) (fun l hl => (ev.still hX hleaf l (born_lt kw hl)).2) hnid (ev.idl.idk hnid).1 (ev.idl.idk hnid).2, fun t y hy => ?_, f5.size, f5.defers⟩
 by_cases ht : t ∈ ws
 · rw [eraseT_get, if_pos ht] at hy
   simp only [Option.some.injEq] at hy
   subst hy
   exact .undef _
 · have h1 := f5.tr t y ((hk t ht).trans hy)
   have h2 := hf.tr t y hy
   have h3 : VR C2 w2 y (a.tmps.getD t Go.undef) := by
    subst hC2
    exact (h2.exact g).ext (Ext.toExtW ke)
   exact h3.back hb h1
theorem scan_loop (ok : E.Ok) (hcall : CallOk E call) (hevo : CallEvo call) {m : MapLoop} {run : Run} {i1 i2 : Nat} {Qf : Exit → Act → World → Prop} (hno : nextOp m.nops.toList.head? = some (m.it, m.nd)) (heo : entryOp m.eops.toList.head? = some (m.it, m.ed)) (hws : m.it ∉ m.ws)
 (hrun : StmtOk E nt m.body run) (hrevo : ∀ tm tm' S S' o, run tm S = some (o, tm', S') → Evo S S') (hrk : ∀ tm tm' S S' o t, run tm S = some (o, tm', S') → t ∉ wrs m.body → tm'.get t = tm.get t)
 {C0 : Ctx} {w0 : World} {X : St} {tm : PM AV} {n l since clock : Nat} {ents : Array MapEntry} {es : List (Value × AV)} (hit : (eraseT m.ws tm).get m.it = some (.ptr n 0)) (hXw : X.wr = .leaf) (hXn : X.objs.get n = some .raw) (hXl : X.objs.get l = some (.mpx es)) (hnl : n ≠ l)
 (hsk : since ≤ clock) (hold : ∀ x ∈ ents.toList, x.born < since) (hscan : scanA E call nt m run es (eraseT m.ws tm) X = true)
 (hlast : ∀ C a w, FR E C X nt (eraseT m.ws tm) a w → C.born n → C.born l → (∀ k, k ≠ n → k ≠ l → C.mx k = C0.mx k) → ExtX C0 w0 C w → ∀ Q : Exit → Act → World → Prop, (∀ a' w', Qf (.exit m.b) a' w' → Q (.exit m.b) a' w') →
  wpOps E.P m.nops (Exit.then ((Code.seq (.cond (.tmp m.c) .skip (.exit m.b)) (.block m.b2 (.seq (.region i2 m.eops false) m.body))).wp E.P Q) Q) (List.range' 1 (m.nops.size - 1)) (a.put (some m.nd) (.tuple #[.bool false])) w) :
 ∀ (N : Nat) (C : Ctx) (seen : Array Nat) (c0 : Nat) (a : Act) (w : World), (leftOf ents seen).size < N → FR E C X nt (eraseT m.ws tm) a w → C.born n → C.born l → C.mx n = .mapIter (some (C.mu l)) since seen c0 → C.mx l = .map ents clock → since ≤ c0 →
  (∀ k, k ≠ n → k ≠ l → C.mx k = C0.mx k) → ExtX C0 w0 C w →
  LoopW E.P Qf (Code.seq (.region i1 m.nops false) (.seq (.cond (.tmp m.c) .skip (.exit m.b)) (.block m.b2 (.seq (.region i2 m.eops false) m.body)))) a w := by
 intro N
 induction N with
 | zero => intro C seen c0 a w h; omega
 | succ N ih =>
  intro C seen c0 a w hN hf hn hl hmn hml hsc hmx hex
  refine loopW_round (round_pre ok hcall hevo hno heo hws hf hit hn hl hXn hXl hnl hmn hml hsc hold (R := fun k x tm4 S4 => ∃ o tm5 S5, run tm4 S4 = some (o, tm5, S5) ∧ goesOn m.b2 o = true ∧ still X S5 = true ∧ Pre E call nt m k x (eraseT m.ws tm) X tm4 S4) (fun k x hx => ?_) (fun hs0 => ?_) ?_)
  · have := List.all_eq_true.1 hscan _ hx
    split at this
    · rename_i o tm5 S5 h1
      simp only [Bool.and_eq_true] at this
      obtain ⟨tm4, S4, p1, p2⟩ := round_take h1
      obtain ⟨hleaf, _⟩ := still_spec this.2
      exact ⟨tm4, S4, p1, (hrevo _ _ _ _ _ p2).leaf (pre_evo hevo p1).no hleaf, o, tm5, S5, p2, this.1, this.2, p1⟩
    · cases this
  · exact hlast C a w hf hn hl hmx hex _ (fun a' w' h => .inr ⟨by simp, h⟩)
  · intro e x tm4 S4 C' a' w2 w' he hx hR ev4 kw ke f4 e4
    obtain ⟨o, tm5, S5, p2, hgo, hst, hpre⟩ := hR
    refine hrun tm4 tm5 S4 S5 o C' a' w' _ p2 f4 (fun C5 a5 w5 f5 e5 => ?_)
    have hback := round_back (C2 := C.exact fun k => if k = n then .mapIter (some (C.mu l)) since (seen.push e.born) clock else C.mx k) hf rfl kw ke f5 (e4.trans e5) (ev4.trans (hrevo _ _ _ _ _ p2)) hXw hst (fun t ht => by
     rw [hrk _ _ _ _ _ t p2 (by simp only [MapLoop.ws, List.mem_cons, List.mem_append, not_or] at ht; exact ht.2.2.2.2), pre_keeps hpre ht])
    have e45 := e4.trans e5
    have key : LoopW E.P Qf (Code.seq (.region i1 m.nops false) (.seq (.cond (.tmp m.c) .skip (.exit m.b)) (.block m.b2 (.seq (.region i2 m.eops false) m.body)))) a5 w5 := by
     refine ih _ (seen.push e.born) clock a5 w5 (by have := left_shrinks ents seen e he; omega) hback hn hl ?_ ?_ hsk (fun k h1 h2 => ?_) (hex.trans (ke.trans e45.cut.x))
     · show C5.mx n = .mapIter (some (C5.mu l)) since (seen.push e.born) clock
       rw [e45.mx, (e45.born l hl).2.1]
       show (if n = n then _ else _) = _
       rw [if_pos rfl]
       rfl
     · show C5.mx l = _
       rw [e45.mx]
       show (if l = n then _ else _) = _
       rw [if_neg (fun e => hnl e.symm), hml]
     · show C5.mx k = _
       rw [e45.mx]
       show (if k = n then _ else _) = _
       rw [if_neg h1, hmx k h1 h2]
    cases o with
    | nrm => exact .inl ⟨rfl, key⟩
    | exit j =>
     have hj : j = m.b2 := Nat.eq_of_beq_eq_true hgo
     subst hj
     show (if m.b2 = m.b2 then _ else _)
     rw [if_pos rfl]
     exact .inl ⟨rfl, key⟩
    | ret => cases hgo
end
end Go.Abs
end
end
