/-
  Loops over maps that write another map; loops over maps as a whole: sound.
-/
import Derived.Test.YtmmnkemcplgebaaGreatDoorQAQ
section
section
set_option linter.unusedSimpArgs false
set_option linter.unusedVariables false
namespace Go.Abs
open Go.RowKit Go.MapKept
open Go.ChangeMaps (setBlock)
section
variable {E : Env} {call : CallFn} {nt : Nat}
theorem pre_does {D : Nat → Prop} (hc : CallFrm call) {m : MapLoop} {kk : Value} {x : AV} {tm tm4 : PM AV} {A X S4 : St} (k : Frm D A X) (h : Pre E call nt m kk x tm A tm4 S4) : ∃ X4, Pre E call nt m kk x tm X tm4 X4 ∧ Stp D A X S4 X4 := by
 obtain ⟨tm1, tm2, S2, tm3, p1, p2, p3, p4, p5⟩ := h.ex
 obtain ⟨X2, g2, k2⟩ := seq_does hc _ _ _ _ _ _ k p2
 obtain ⟨X4, g4, k4⟩ := seq_does hc _ _ _ _ _ _ k2.frm p5
 exact ⟨X4, ⟨tm1, tm2, X2, tm3, p1, g2, p3, p4, g4⟩, k2.trans k4⟩
theorem one_does2 {D : Nat → Prop} (hc : CallFrm call) {m : MapLoop} {ops : Array Oper} {mo ko vo : Operand} {d : TypeDesc} {ld : Nat} {kk : Value} {x y : AV} {tm tm4 : PM AV} {A X S4 : St} (k : Frm D A X) (h : One E call nt m ops mo ko vo d ld tm A A kk x y tm4 S4) :
 ∃ X4, One E call nt m ops mo ko vo d ld tm A X kk x y tm4 X4 := by
 obtain ⟨X4, g1, k1⟩ := pre_does hc k h.pre
 obtain ⟨tm5, S5, p1, p2, p3, p4, p5⟩ := h.ex
 obtain ⟨X5, g5, k5⟩ := seq_does hc _ _ _ _ _ _ k1.frm p1
 exact ⟨X4, g1, h.key, h.old, tm5, X5, g5, p2, p3, p4, by rw [still_does k k5.frm]; exact p5⟩
noncomputable def St.midst (X0 : St) (ld : Nat) (acc : List (Value × AV)) : St := (X0.put ld (.mp acc)).clean
noncomputable def St.shut (X0 : St) (ld : Nat) : St := (X0.put ld .dead).clean
theorem midst_get (X0 : St) (ld : Nat) (acc : List (Value × AV)) (k : Nat) : (X0.midst ld acc).objs.get k = if k = ld then some (.mp acc) else X0.objs.get k := by
 show (X0.objs.set ld _).get k = _
 rw [PM.get_set]
theorem shut_get (X0 : St) (ld : Nat) (k : Nat) : (X0.shut ld).objs.get k = if k = ld then some .dead else X0.objs.get k := by
 show (X0.objs.set ld _).get k = _
 rw [PM.get_set]
theorem midst_frm (X0 : St) {ld : Nat} (hl : ld < X0.no) (acc : List (Value × AV)) : Frm (fun k => k = ld) (X0.shut ld) (X0.midst ld acc) :=
 ⟨rfl, rfl, fun _ => rfl, fun _ => rfl, rfl, fun k hk => by rw [midst_get, shut_get, if_neg hk, if_neg hk], fun _ _ => rfl, fun k hk => by rw [shut_get, if_pos hk]; exact .inr rfl, fun k hk => by rw [hk]; exact hl⟩
theorem tr_back {C C2 C5 : Ctx} {tm3 tm5 : PM AV} {ts ts5 : Array Value} {w w2 w5 : World} {ws : List Tmp} {g : Nat → Obj} (hf : TR C w (eraseT ws tm3) ts) (hC2 : C2 = C.exact g) (ke : ExtX C w C2 w2) (f5 : TR C5 w5 tm5 ts5) (e5 : Ext C2 w2 C5 w5)
 (hk : ∀ t, t ∉ ws → tm5.get t = (eraseT ws tm3).get t) : TR (C2.cut C5) w5 (eraseT ws tm3) ts5 := by
 have hb : ∀ l, C2.born l → C5.born l := fun l hl => (e5.born l hl).1
 intro t y hy
 by_cases ht : t ∈ ws
 · rw [eraseT_get, if_pos ht] at hy
   simp only [Option.some.injEq] at hy
   subst hy
   exact .undef _
 · have h1 := f5 t y ((hk t ht).trans hy)
   have h2 := hf t y hy
   have h3 : VR C2 w2 y (ts.getD t Go.undef) := by
    subst hC2
    exact (h2.exact g).ext (Ext.toExtW ke)
   exact h3.back hb h1
noncomputable def seenKey (ents : Array MapEntry) (seen : Array Nat) (k : Value) : Prop := ∃ e ∈ ents.toList, e.key = k ∧ seen.contains e.born = true
theorem seenKey_push {ents : Array MapEntry} {seen : Array Nat} {e : MapEntry} (he : e ∈ ents.toList) (hb : (ents.toList.map (·.born)).Nodup) (k : Value) : seenKey ents (seen.push e.born) k ↔ seenKey ents seen k ∨ k = e.key := by
 have huniq : ∀ e' ∈ ents.toList, e'.born = e.born → e' = e := by
  have : ∀ (l : List MapEntry), (l.map (·.born)).Nodup → ∀ a ∈ l, ∀ b ∈ l, a.born = b.born → a = b := by
   intro l
   induction l with
   | nil => intro _ a ha; simp at ha
   | cons x l ih =>
    intro hn a ha b hb h
    simp only [List.map_cons, List.nodup_cons] at hn
    rcases List.mem_cons.1 ha with ha' | ha'
    · rcases List.mem_cons.1 hb with hb' | hb'
      · rw [ha', hb']
      · exact absurd (List.mem_map.2 ⟨b, hb', by rw [← h, ha']⟩) hn.1
    · rcases List.mem_cons.1 hb with hb' | hb'
      · exact absurd (List.mem_map.2 ⟨a, ha', by rw [h, hb']⟩) hn.1
      · exact ih hn.2 a ha' b hb' h
  exact fun e' h1 h2 => this _ hb e' h1 e he h2
 constructor
 · rintro ⟨e', h1, h2, h3⟩
   rw [Array.contains_push] at h3
   simp only [Bool.or_eq_true] at h3
   rcases h3 with h3 | h3
   · exact .inl ⟨e', h1, h2, h3⟩
   · have h3' : e'.born = e.born := by simpa using h3
     exact .inr (by rw [← h2, huniq e' h1 h3'])
 · rintro (⟨e', h1, h2, h3⟩ | h)
   · exact ⟨e', h1, h2, by rw [Array.contains_push, h3]; simp⟩
   · exact ⟨e, he, h.symm, by rw [Array.contains_push]; simp⟩
theorem copy_loop (ok : E.Ok) (hcall : CallOk E call) (hevo : CallEvo call) (hfrm : CallFrm call) {m : MapLoop} {i1 i2 i3 : Nat} {Qf : Exit → Act → World → Prop} {ops : Array Oper} {o : Oper} {T kt et : TypeId} {d : TypeDesc} {mo ko vo : Operand} {ld : Nat} (hno : nextOp m.nops.toList.head? = some (m.it, m.nd)) (heo : entryOp m.eops.toList.head? = some (m.it, m.ed)) (hws : m.it ∉ m.ws)
 (hbd : m.body = .region i3 ops false) (hops : ops.toList = ops.toList.dropLast ++ [o]) (hop : o.op = .mapUpdate T mo ko vo) (hdst : o.dst = none) (hgd : o.guard = none) (hT : E.und T = some (.map kt et)) (hkt : E.und kt = some d)
 {C0 : Ctx} {w0 : World} {X0 : St} {tm : PM AV} {n l since clock : Nat} {ents : Array MapEntry} {es esd ys : List (Value × AV)} (hit : (eraseT m.ws tm).get m.it = some (.ptr n 0)) (hXn : X0.objs.get n = some .raw) (hXl : X0.objs.get l = some (.mpx es)) (hnl : n ≠ l) (hdn : ld ≠ n) (hdl : ld ≠ l) (hdlt : ld < X0.no)
 (hsk : since ≤ clock) (hold : ∀ x ∈ ents.toList, x.born < since) (hbo : (ents.toList.map (·.born)).Nodup)
 (hy1 : ∀ k x, (k, x) ∈ es → ∃ y tm4 S4, (k, y) ∈ ys ∧ One E call nt m ops mo ko vo d ld (eraseT m.ws tm) (X0.shut ld) (X0.shut ld) k x y tm4 S4) (hy2 : ∀ k y y', (k, y) ∈ ys → (k, y') ∈ ys → y = y')
 (hlast : ∀ C a w acc, FR E C (X0.midst ld acc) nt (eraseT m.ws tm) a w → C.born n → C.born l → C.born ld → C.mx l = .map ents clock → (∀ k, k ≠ n → k ≠ l → C.mx k = C0.mx k) → ExtX C0 w0 C w →
  (∀ k y, (k, y) ∈ acc ↔ ((∃ e ∈ ents.toList, e.key = k) ∧ (k, y) ∈ ys) ∨ ((¬ ∃ e ∈ ents.toList, e.key = k) ∧ (k, y) ∈ esd)) → ∀ Q : Exit → Act → World → Prop, (∀ a' w', Qf (.exit m.b) a' w' → Q (.exit m.b) a' w') →
  wpOps E.P m.nops (Exit.then ((Code.seq (.cond (.tmp m.c) .skip (.exit m.b)) (.block m.b2 (.seq (.region i2 m.eops false) m.body))).wp E.P Q) Q) (List.range' 1 (m.nops.size - 1)) (a.put (some m.nd) (.tuple #[.bool false])) w) :
 ∀ (N : Nat) (C : Ctx) (seen : Array Nat) (c0 : Nat) (acc : List (Value × AV)) (a : Act) (w : World), (leftOf ents seen).size < N → FR E C (X0.midst ld acc) nt (eraseT m.ws tm) a w → C.born n → C.born l → C.born ld → C.mx n = .mapIter (some (C.mu l)) since seen c0 → C.mx l = .map ents clock → since ≤ c0 →
  (∀ k, k ≠ n → k ≠ l → C.mx k = C0.mx k) → ExtX C0 w0 C w → acc.all (fun e => isKey d e.1) = true →
  (∀ k y, (k, y) ∈ acc ↔ (seenKey ents seen k ∧ (k, y) ∈ ys) ∨ (¬ seenKey ents seen k ∧ (k, y) ∈ esd)) →
  LoopW E.P Qf (Code.seq (.region i1 m.nops false) (.seq (.cond (.tmp m.c) .skip (.exit m.b)) (.block m.b2 (.seq (.region i2 m.eops false) m.body)))) a w := by
 intro N
 induction N with
 | zero => intro C seen c0 acc a w h; omega
 | succ N ih =>
  intro C seen c0 acc a w hN hf hn hl hd hmn hml hsc hmx hex hak hacc
  have hgn : (X0.midst ld acc).objs.get n = some .raw := by rw [midst_get, if_neg (fun e => hdn e.symm)]; exact hXn
  have hgl : (X0.midst ld acc).objs.get l = some (.mpx es) := by rw [midst_get, if_neg (fun e => hdl e.symm)]; exact hXl
  have hgd' : (X0.midst ld acc).objs.get ld = some (.mp acc) := by rw [midst_get, if_pos rfl]
  refine loopW_round (round_pre ok hcall hevo hno heo hws hf hit hn hl hgn hgl hnl hmn hml hsc hold (R := fun k x tm4 S4 => ∃ y, (k, y) ∈ ys ∧ One E call nt m ops mo ko vo d ld (eraseT m.ws tm) (X0.shut ld) (X0.midst ld acc) k x y tm4 S4) (fun k x hx => ?_) (fun hs0 => ?_) ?_)
  · obtain ⟨y, tm4, S4, q1, q2⟩ := hy1 k x hx
    obtain ⟨X4, q3⟩ := one_does2 hfrm (midst_frm X0 hdlt acc) q2
    obtain ⟨tm5, S5, p1, _, _, _, p5⟩ := q3.ex
    obtain ⟨hleaf, _⟩ := still_spec p5
    exact ⟨tm4, X4, q3.pre, (seq_evo hevo _ _ _ _ _ p1).leaf (pre_evo hevo q3.pre).no hleaf, y, q1, q3⟩
  · refine hlast C a w acc hf hn hl hd hml hmx hex (fun k y => ?_) _ (fun a' w' h => .inr ⟨by simp, h⟩)
    rw [hacc k y]
    have : seenKey ents seen k ↔ ∃ e ∈ ents.toList, e.key = k := ⟨fun ⟨e, h1, h2, _⟩ => ⟨e, h1, h2⟩, fun ⟨e, h1, h2⟩ => ⟨e, h1, h2, all_seen ents seen hs0 e h1⟩⟩
    rw [this]
  · intro e x tm4 S4 C' a' w2 w' he hx hR ev4 kw ke f4 e4
    obtain ⟨y, hy, hone⟩ := hR
    obtain ⟨tm5, S5, p1, p2, p3, p4, p5⟩ := hone.ex
    obtain ⟨hleaf, hnid⟩ := still_spec p5
    have ev45 := seq_evo hevo _ _ _ _ _ p1
    have ev := ev4.trans ev45
    obtain ⟨heE, _⟩ := mem_left he
    have hsz : ops.size = ops.toList.dropLast.length + 1 := by
     have := congrArg List.length hops
     rw [List.length_append] at this
     simpa using this
    have hgo : ops[ops.toList.dropLast.length]? = some o := by
     rw [← Array.getElem?_toList, hops, List.getElem?_append_right (by rw [← hops]; exact Nat.le_refl _)]
     rw [← hops]; simp
    have hwp : ∀ Q a w, (Code.region i3 ops false).wp E.P Q a w → m.body.wp E.P Q a w := fun Q a w h => by rw [hbd]; exact h
    refine hwp _ _ _ (wp_region ?_)
    rw [List.range_eq_range', hsz, List.range'_append_1.symm]
    refine seq_part (tl := List.range' (0 + ops.toList.dropLast.length) 1) ok hcall ops.toList.dropLast 0 C' tm4 tm5 S4 S5 a' w' (by rw [List.drop_zero]; generalize ops.toList.dropLast = L at hops ⊢; rw [hops, List.take_left]) p1 f4 (fun C5 a5 w5 f5 e5 => ?_)
    rw [Nat.zero_add, List.range'_one, wpOps]
    simp only [hgo]
    rw [if_pos (wanted_rel f5.tr (by simp [wantedA, hgd]))]
    refine .inl ?_
    have hld5 : S5.objs.get ld = some (.mp acc) := by rw [(ev.still rfl hleaf ld (born_lt hf.wr hd)).1, hgd']
    have hmap5 : S5.map ld = some acc := by simp [St.map, hld5]
    have hev : execOp a5.eval o = (do Instr.mapUpdate T (a5.eval mo) (a5.eval ko) (a5.eval vo); pure .skip) := by simp [execOp, hop]
    have hgood := good_mapUpdate (S' := S5.put ld (.mp (setKey d e.key y acc))) (v := passed) (t := T) (m := E.ev tm5 mo) (k := E.ev tm5 ko) (x := E.ev tm5 vo) ok f5.wr (ev_rel f5.wr f5.tr mo) (ev_rel f5.wr f5.tr ko) (ev_rel f5.wr f5.tr vo) (by
     unfold mapUpdateA
     rw [hT, p2, p3, p4]
     simp only [hkt, hmap5, hone.key, hak, Bool.and_self, cond_true])
    rw [← hev] at hgood
    refine hgood.wp (fun u C6 w6 k6 e6 _ => ?_)
    rw [hdst]
    show wpOps E.P ops (Exit.inBlock m.b2 _) [] a5 w6
    show Exit.inBlock m.b2 _ .normal a5 w6
    have e26 := (e4.trans e5).trans e6
    generalize hC2 : (C.exact fun k => if k = n then Obj.mapIter (some (C.mu l)) since (seen.push e.born) clock else C.mx k) = C2 at kw ke e4 e26
    have hd6 := (e26.born ld (by rw [← hC2]; exact hd)).1
    have hb26 : ∀ l, C2.born l → C6.born l := fun l hl => (e26.born l hl).1
    have hborn2 : ∀ k, C2.born k ↔ C.born k := fun k => by rw [← hC2]; rfl
    have kwA : WR E C2 (X0.shut ld) w2 := by
     refine (kw.as (l := ld) (a := .dead) ((hborn2 ld).2 hd) (kw.apart ((hborn2 ld).2 hd) (by rw [hgd']; rintro (h | h) <;> cases h)) trivial).same (fun k => ?_) rfl rfl rfl rfl rfl
     show (X0.shut ld).objs.get k = ((X0.midst ld acc).objs.set ld .dead).get k
     rw [shut_get, PM.get_set, midst_get]
     by_cases h : k = ld
     · rw [if_pos h, if_pos h]
     · rw [if_neg h, if_neg h, if_neg h]
    have hlive6 : (S5.put ld (.mp (setKey d e.key y acc))).objs.get ld = some (.mp (setKey d e.key y acc)) := by
     show (S5.objs.set ld _).get ld = _
     rw [PM.get_set, if_pos rfl]
    have hap6 := k6.apart hd6 (by rw [hlive6]; rintro (h | h) <;> cases h)
    have k6d := k6.as (l := ld) (a := .dead) hd6 hap6 trivial
    have hobj6 : ∀ k, C2.born k → ({ S5.put ld (.mp (setKey d e.key y acc)) with objs := (S5.put ld (.mp (setKey d e.key y acc))).objs.set ld .dead } : St).objs.get k = (X0.shut ld).objs.get k := fun k hk => by
     show ((S5.objs.set ld _).set ld .dead).get k = _
     rw [PM.get_set, PM.get_set, shut_get]
     by_cases h : k = ld
     · rw [if_pos h, if_pos h]
     · rw [if_neg h, if_neg h, if_neg h, (ev.still rfl hleaf k (born_lt hf.wr ((hborn2 k).1 hk))).1, midst_get, if_neg h]
    have kf := forget kwA k6d e26 hobj6 (fun k hk => (ev.still rfl hleaf k (born_lt hf.wr ((hborn2 k).1 hk))).2) hnid (ev.idl.idk hnid).1 (ev.idl.idk hnid).2
    have ob6 := k6.objs ld hd6
    rw [hlive6] at ob6
    obtain ⟨ents6, clock6, q1, q2, q3⟩ := ob6
    have ob2 := kw.objs ld ((hborn2 ld).2 hd)
    rw [hgd'] at ob2
    obtain ⟨_, _, _, q5, _⟩ := ob2
    have hak' := setKey_keys (y := y) hone.key hak
    have hmem := setKey_mem (y := y) hone.key hak q5.nd
    have obc : ObjR (C2.cut C6) w6 ld (some (.mp (setKey d e.key y acc))) (w6.heap[(C2.cut C6).mu ld]?) := by
     refine ⟨ents6, clock6, q1, q2.imp (fun k' x' v hm hv => ?_), q3⟩
     rcases (hmem k' x').1 hm with ⟨_, rfl⟩ | ⟨_, hm'⟩
     · exact hv.old kwA hb26 hone.old
     · obtain ⟨e', _, _, hv'⟩ := q5.val k' x' hm'
       exact hv'.back hb26 hv
    have kg := (kf.as (l := ld) (a := .mp (setKey d e.key y acc)) ((hborn2 ld).2 hd) (fun k hk hne ha => by
     refine hap6 k (hb26 k hk) hne (fun hc => ha ?_)
     rw [shut_get, if_neg hne]
     have : (S5.put ld (.mp (setKey d e.key y acc))).objs.get k = X0.objs.get k := by
      show (S5.objs.set ld _).get k = _
      rw [PM.get_set, if_neg hne, (ev.still rfl hleaf k (born_lt hf.wr ((hborn2 k).1 hk))).1, midst_get, if_neg hne]
     rw [← this]; exact hc) obc).same (S' := X0.midst ld (setKey d e.key y acc)) (fun k => by
      show _ = ((X0.shut ld).objs.set ld _).get k
      rw [midst_get, PM.get_set, shut_get]
      by_cases h : k = ld
      · rw [if_pos h, if_pos h]
      · rw [if_neg h, if_neg h, if_neg h]) rfl rfl rfl rfl rfl
    have hkeep : ∀ t, t ∉ m.ws → tm5.get t = (eraseT m.ws tm).get t := fun t ht => by
     have h1 : t ∉ dsts ops.toList := by
      simp only [MapLoop.ws, List.mem_cons, List.mem_append, not_or, hbd, wrs] at ht
      exact ht.2.2.2.2
     have h2 : t ∉ dsts ops.toList.dropLast := fun hm => h1 (by
      simp only [dsts, List.mem_filterMap] at hm ⊢
      obtain ⟨o', h3, h4⟩ := hm
      exact ⟨o', List.dropLast_subset _ h3, h4⟩)
     rw [seq_keeps _ _ _ _ _ p1 h2, pre_keeps hone.pre ht]
    have htr : TR (C2.cut C6) w6 (eraseT m.ws tm) a5.tmps := tr_back hf.tr hC2.symm ke (f5.tr.ext e6) e26 hkeep
    refine .inl ⟨rfl, ih (C2.cut C6) (seen.push e.born) clock _ a5 w6 (by have := left_shrinks ents seen e he; omega) ⟨kg, htr, f5.size, f5.defers⟩ ((hborn2 n).2 hn) ((hborn2 l).2 hl) ((hborn2 ld).2 hd) ?_ ?_ hsk (fun k h1 h2 => ?_) (hex.trans (ke.trans e26.cut.x)) hak' (fun k' y' => ?_)⟩
    · show C6.mx n = .mapIter (some (C6.mu l)) since (seen.push e.born) clock
      rw [e26.mx, (e26.born l ((hborn2 l).2 hl)).2.1, ← hC2]
      show (if n = n then _ else _) = _
      rw [if_pos rfl]
      rfl
    · show C6.mx l = _
      rw [e26.mx, ← hC2]
      show (if l = n then _ else _) = _
      rw [if_neg (fun e => hnl e.symm), hml]
    · show C6.mx k = _
      rw [e26.mx, ← hC2]
      show (if k = n then _ else _) = _
      rw [if_neg h1, hmx k h1 h2]
    · rw [hmem k' y', seenKey_push heE hbo]
      by_cases hk : k' = e.key
      · subst hk
        constructor
        · rintro (⟨_, rfl⟩ | ⟨h1, _⟩)
          · exact .inl ⟨.inr rfl, hy⟩
          · exact absurd rfl h1
        · rintro (⟨_, h1⟩ | ⟨h1, _⟩)
          · exact .inl ⟨rfl, hy2 _ _ _ h1 hy⟩
          · exact absurd (.inr rfl) h1
      · constructor
        · rintro (⟨h1, _⟩ | ⟨_, h1⟩)
          · exact absurd h1 hk
          · rcases (hacc k' y').1 h1 with ⟨h2, h3⟩ | ⟨h2, h3⟩
            · exact .inl ⟨.inl h2, h3⟩
            · exact .inr ⟨by rintro (h | h); exact h2 h; exact hk h, h3⟩
        · rintro (⟨h1, h2⟩ | ⟨h1, h2⟩)
          · exact .inr ⟨hk, (hacc k' y').2 (.inl ⟨h1.resolve_right hk, h2⟩)⟩
          · exact .inr ⟨hk, (hacc k' y').2 (.inr ⟨fun h => h1 (.inl h), h2⟩)⟩
theorem mapStmt_spec {s : Code} {m : MapLoop} (h : mapStmt s = some m) : ∃ i0 i1 i2, s = .seq (.region i0 m.ops false) (.block m.b (.loop (.seq (.region i1 m.nops false) (.seq (.cond (.tmp m.c) .skip (.exit m.b)) (.block m.b2 (.seq (.region i2 m.eops false) m.body)))))) ∧
 rangeOp m.ops.toList.getLast? = some (m.T, m.x, m.it) ∧ nextOp m.nops.toList.head? = some (m.it, m.nd) ∧ entryOp m.eops.toList.head? = some (m.it, m.ed) ∧ m.b ≠ m.b2 := by
 unfold mapStmt at h
 split at h
 · rename_i i0 ops b i1 nops c b' b2 i2 eops body
   split at h
   · rename_i T x it it' nd it'' ed h1 h2 h3
     simp only [cond_eq_ite] at h
     split at h
     · rename_i hb
       simp only [Bool.and_eq_true, Bool.not_eq_true'] at hb
       obtain ⟨⟨⟨b1, b2'⟩, b3⟩, b4⟩ := hb
       simp only [Option.some.injEq] at h
       subst h
       have e1 := Nat.eq_of_beq_eq_true b1
       have e3 := Nat.eq_of_beq_eq_true b3
       have e4 := Nat.eq_of_beq_eq_true b4
       subst e1; subst e3; subst e4
       exact ⟨i0, i1, i2, rfl, h1, h2, h3, fun e => by
        have e : b = b2 := e
        rw [e, Nat.beq_refl] at b2'
        cases b2'⟩
     · cases h
   · cases h
 · cases h
theorem TR.erase {C : Ctx} {w : World} {tm : PM AV} {ts : Array Value} (h : TR C w tm ts) (ws : List Tmp) : TR C w (eraseT ws tm) ts := by
 intro t y hy
 rw [eraseT_get] at hy
 split at hy
 · simp only [Option.some.injEq] at hy; subst hy; exact .undef _
 · exact h t y hy
theorem unfix {C : Ctx} {X : St} {w : World} {n l : Nat} {es : List (Value × AV)} {g : Nat → Obj} (hw : WR E C X w) (hn : C.born n) (hl : C.born l) (hXn : X.objs.get n = some .raw) (hXl : X.objs.get l = some (.mpx es)) (hnl : n ≠ l) (hmx : ∀ k, k ≠ n → k ≠ l → C.mx k = g k) :
 WR E (C.exact g) { X with objs := (X.objs.set n .dead).set l (.mp es) } w := by
 have h1 := hw.as (l := n) (a := .dead) hn (hw.apart hn (by rw [hXn]; rintro (h | h) <;> cases h)) trivial
 have hob := hw.objs l hl
 rw [hXl] at hob
 obtain ⟨k0, ents, clock, k1, k2, k3⟩ := hob
 have h2 := h1.as (l := l) (a := .mp es) hl (fun k hk hne ha => by
  have ha : ¬ inacc ((X.objs.set n .dead).get k) := ha
  rw [PM.get_set] at ha
  by_cases e : k = n
  · rw [if_pos e] at ha; exact absurd (.inr rfl) ha
  · rw [if_neg e] at ha
    exact hw.apart hl (by rw [hXl]; rintro (h | h) <;> cases h) k hk hne ha) ⟨ents, clock, k0.trans (by rw [k1]), k2, k3⟩
 refine h2.exact g (fun k hk hh => ?_)
 have hh : held (((X.objs.set n .dead).set l (.mp es)).get k) = true := hh
 rw [PM.get_set, PM.get_set] at hh
 by_cases e : k = l
 · rw [if_pos e] at hh; cases hh
 · rw [if_neg e] at hh
   by_cases e' : k = n
   · rw [if_pos e'] at hh; cases hh
   · exact (hmx k e' e).symm
theorem fixed_get (S : St) (l : Nat) (es : List (Value × AV)) (k : Nat) : (S.fixed l es).objs.get k = if k = l then some (.mpx es) else if k = S.no then some .raw else S.objs.get k := by
 show ((S.objs.set S.no .raw).set l (.mpx es)).get k = _
 rw [PM.get_set, PM.get_set]
set_option maxHeartbeats 4000000 in
theorem mac_ok (ok : E.Ok) (hcall : CallOk E call) (hevo : CallEvo call) (hfrm : CallFrm call) {s : Code} {m : MapLoop} {run : Run} (hm : mapStmt s = some m)
 (hrun : StmtOk E nt m.body run) (hrevo : ∀ tm tm' S S' o, run tm S = some (o, tm', S') → Evo S S') (hrk : ∀ tm tm' S S' o t, run tm S = some (o, tm', S') → t ∉ wrs m.body → tm'.get t = tm.get t) : StmtOk E nt s (macA E call nt m run) := by
 intro tm tm' S S' o C a w Q h hf hq
 obtain ⟨i0, i1, i2, rfl, hro, hno, heo, hbb⟩ := mapStmt_spec hm
 obtain ⟨ro, hops, hop, hdst, hgd⟩ := rangeOp_spec hro
 unfold macA at h
 split at h
 · cases h
 · rename_i tm1 S1 p1
   split at h
   · rename_i kt et l hT hx
     split at h
     · rename_i es tm2 hes p2
       simp only [cond_eq_ite] at h
       split at h
       · cases h
       · rename_i hws0
         have hws : m.it ∉ m.ws := by simpa using hws0
         have hSl := mpOf_eq hes
         have hsz : m.ops.size = m.ops.toList.dropLast.length + 1 := by
          have := congrArg List.length hops
          rw [List.length_append] at this
          simpa using this
         have hgo : m.ops[m.ops.toList.dropLast.length]? = some ro := by
          rw [← Array.getElem?_toList, hops, List.getElem?_append_right (by rw [← hops]; exact Nat.le_refl _)]
          rw [← hops]; simp
         refine wp_seq (wp_region ?_)
         rw [List.range_eq_range', hsz, List.range'_append_1.symm]
         refine seq_part (tl := List.range' (0 + m.ops.toList.dropLast.length) 1) ok hcall m.ops.toList.dropLast 0 C tm tm1 S S1 a w (by rw [List.drop_zero]; generalize m.ops.toList.dropLast = L at hops ⊢; rw [hops, List.take_left]) p1 hf (fun C1 a1 w1 f1 e1 => ?_)
         rw [Nat.zero_add, List.range'_one, wpOps]
         simp only [hgo]
         rw [if_pos (wanted_rel f1.tr (by simp [wantedA, hgd]))]
         refine .inl ?_
         have hvx := ev_rel f1.wr f1.tr m.x
         rw [hx] at hvx
         generalize hV : a1.eval m.x = V at hvx
         cases hvx with
         | mp _ hl =>
         have hob := f1.wr.objs l hl
         rw [hSl] at hob
         obtain ⟨ents, clock, k1, k2, k3⟩ := hob
         have hev : execOp a1.eval ro = (do pure (.value (← Instr.range m.T (a1.eval m.x)))) := by simp [execOp, hop]
         unfold Oper.wp
         rw [hev, hV, run_v (run_range_map (P := E.P) w1 m.T kt et (C1.mu l) ents clock (ok.und _ _ hT) k1)]
         rw [Oper.upon_value, hdst]
         show (Code.block m.b (.loop (.seq (.region i1 m.nops false) (.seq (.cond (.tmp m.c) .skip (.exit m.b)) (.block m.b2 (.seq (.region i2 m.eops false) m.body)))))).wp E.P Q (a1.put (some m.it) (.pointer (some ⟨w1.heap.size, 0, none⟩))) (w1.alloc (.mapIter (some (C1.mu l)) clock #[] clock))
         generalize hiter : Obj.mapIter (some (C1.mu l)) clock #[] clock = iter
         have hn : ¬ C1.born S1.no := f1.wr.unb _ (Nat.le_refl _)
         have hln : S1.no ≠ l := fun e => hn (e ▸ hl)
         generalize hg : (fun k => if k = S1.no then iter else if k = l then Obj.map ents clock else C1.mx k) = g
         have gn : g S1.no = iter := by rw [← hg]; exact if_pos rfl
         have gl : g l = .map ents clock := by rw [← hg]; show (if l = S1.no then _ else if l = l then _ else _) = _; rw [if_neg (fun e => hln e.symm), if_pos rfl]
         have gk : ∀ k, k ≠ S1.no → k ≠ l → g k = C1.mx k := fun k h1 h2 => by rw [← hg]; show (if k = S1.no then _ else if k = l then _ else _) = _; rw [if_neg h1, if_neg h2]
         have kw1 := f1.wr.exact g (fun k hk hh => by
          by_cases e : k = l
          · rw [e, hSl] at hh; cases hh
          · exact gk k (fun e' => hn (e' ▸ hk)) e)
         have hn' : ¬ (C1.exact g).born S1.no := hn
         have kw2 := kw1.bear (no' := S1.no + 1) hn' (Nat.le_succ _) (Nat.lt_succ_self _) ⟨.raw, none, fun n => .ptr n 0⟩ (ob := iter) (len := 0) (lim := 0) ⟨congrArg some gn.symm, Ctx.bear_at.2.1⟩ (fun x hx => by cases hx)
         have ew : ExtW (C1.exact g) w1 ((C1.exact g).bear S1.no w1.heap.size 0 0 0 (S1.no + 1)) (w1.alloc iter) := ExtW.bear kw1 hn' iter 0 0 (S1.no + 1)
         have ex : Ext (C1.exact g) w1 ((C1.exact g).bear S1.no w1.heap.size 0 0 0 (S1.no + 1)) (w1.alloc iter) := ⟨ew, by show C1.no ≤ S1.no + 1; rw [f1.wr.no]; exact Nat.le_succ _, fun k h1 h2 => by
          have : k = S1.no := h2.resolve_left h1
          show C1.no ≤ k
          rw [this, f1.wr.no]; exact Nat.le_refl _⟩
         have hbl : ((C1.exact g).bear S1.no w1.heap.size 0 0 0 (S1.no + 1)).born l := .inl hl
         have hml : ((C1.exact g).bear S1.no w1.heap.size 0 0 0 (S1.no + 1)).mu l = C1.mu l := (Ctx.bear_ne (fun e => hln e.symm)).1
         have hmn : ((C1.exact g).bear S1.no w1.heap.size 0 0 0 (S1.no + 1)).mu S1.no = w1.heap.size := Ctx.bear_at.1
         have hbn : ((C1.exact g).bear S1.no w1.heap.size 0 0 0 (S1.no + 1)).bs S1.no = 0 := Ctx.bear_at.2.1
         have hmx2 : ((C1.exact g).bear S1.no w1.heap.size 0 0 0 (S1.no + 1)).mx = g := rfl
         have hborn2 : ((C1.exact g).bear S1.no w1.heap.size 0 0 0 (S1.no + 1)).born S1.no := .inr rfl
         generalize hC2 : (C1.exact g).bear S1.no w1.heap.size 0 0 0 (S1.no + 1) = C2 at kw2 ew ex hbl hml hmn hbn hmx2 hborn2
         have kl2 : (w1.alloc iter).heap[C2.mu l]? = some (.map ents clock) := by rw [hml, heap_alloc_lt _ _ (f1.wr.mub l hl).2]; exact k1
         have hlive : ¬ inacc (({ S1.bear S1.no ⟨.raw, none, fun n => .ptr n 0⟩ with no := S1.no + 1 } : St).objs.get l) := by
          show ¬ inacc ((S1.objs.set S1.no .raw).get l)
          rw [PM.get_set, if_neg (fun e => hln e.symm), hSl]
          rintro (h | h) <;> cases h
         have kw3 : WR E C2 (S1.fixed l es) (w1.alloc iter) := (kw2.as (l := l) (a := .mpx es) hbl (kw2.apart hbl hlive) ⟨by rw [kl2, hmx2, gl], ents, clock, by rw [hmx2, gl], (k2.exact g).ext ew, k3⟩).same (fun _ => rfl) rfl rfl rfl rfl rfl
         have hvp : VR C2 (w1.alloc iter) (.ptr S1.no 0) (.pointer (some ⟨w1.heap.size, 0, none⟩)) := by
          have := VR.ptr (C := C2) (w := w1.alloc iter) S1.no 0 hborn2
          rwa [hmn, hbn] at this
         obtain ⟨t1, t2⟩ := ((f1.tr.exact g).ext ex).put f1.size hvp p2
         have hit : (eraseT m.ws tm2).get m.it = some (.ptr S1.no 0) := by rw [eraseT_get, if_neg hws]; exact (putA_get p2).1
         have hfr : FR E C2 (S1.fixed l es) nt (eraseT m.ws tm2) (a1.put (some m.it) (.pointer (some ⟨w1.heap.size, 0, none⟩))) (w1.alloc iter) := ⟨kw3, t1.erase _, t2, by rw [Act.put_defers']; exact f1.defers⟩
         have hx0 : ExtX C1 w1 C2 (w1.alloc iter) := by unfold ExtX; rw [hmx2]; exact ex
         have hXn : (S1.fixed l es).objs.get S1.no = some .raw := by rw [fixed_get, if_neg hln, if_pos rfl]
         have hXl : (S1.fixed l es).objs.get l = some (.mpx es) := by rw [fixed_get, if_pos rfl]
         have hfin : ∀ (C : Ctx) (a' : Act) (w' : World) {C' : Ctx} {a2 : Act} {w2 : World}, ExtX C1 w1 C w' → o = .nrm → FR E C' S' nt tm' a2 w2 → Ext (C.exact C1.mx) w' C' w2 → Exit.inBlock m.b Q (.exit m.b) a2 w2 := fun C a' w' C' a2 w2 hex ho f2 e2 => by
          show (if m.b = m.b then _ else _)
          rw [if_pos rfl]
          have := hq C' a2 w2 f2 ((e1.trans hex.back).trans e2)
          rw [ho] at this
          exact this
         refine wp_block (loopW_wp ?_)
         split at h
         · split at h
           · rename_i hscan
             refine scan_loop (since := clock) (clock := clock) (ents := ents) (es := es) (n := S1.no) (l := l) (X := S1.fixed l es) (C0 := C1) (w0 := w1) ok hcall hevo hno heo hws hrun hrevo hrk hit rfl hXn hXl hln (Nat.le_refl _) k3.1 hscan (fun C a' w' f' b1 b2 hmx hex Q' hQ => ?_) _ C2 #[] clock _ _ (Nat.lt_succ_self _) hfr hborn2 hbl (by rw [hmx2, gn, ← hiter, hml]) (by rw [hmx2, gl]) (Nat.le_refl _) (fun k h1 h2 => by rw [hmx2]; exact gk k h1 h2) hx0
             have fd : FR E (C.exact C1.mx) (S1.newRaw .dead) nt (eraseT m.ws tm2) a' w' := ⟨(unfix f'.wr b1 b2 hXn hXl hln hmx).same (fun k => by
              show (S1.objs.set S1.no .dead).get k = (((S1.fixed l es).objs.set S1.no .dead).set l (.mp es)).get k
              rw [PM.get_set, PM.get_set, PM.get_set, fixed_get]
              by_cases q1 : k = l
              · rw [if_pos q1, q1, if_neg (fun e => hln e.symm), hSl]
              · rw [if_neg q1]
                by_cases q2 : k = S1.no
                · rw [if_pos q2, if_pos q2]
                · rw [if_neg q2, if_neg q2, if_neg q1, if_neg q2]) rfl rfl rfl rfl rfl, f'.tr.exact _, f'.size, f'.defers⟩
             exact last_ok ok hcall hno h fd (fun ho C' a2 w2 f2 e2 => hQ _ _ (hfin C a' w' hex ho f2 e2))
           · cases h
         · rename_i cops T' mo ko vo hcb
           obtain ⟨i3, co, hbd, hcops, hcop, hcdst, hcgd⟩ := copyBody_spec hcb
           split at h
           · -- nothing is ranged over
             have hents : ents.toList = [] := List.eq_nil_of_length_eq_zero k2.len.symm
             refine scan_loop (run := fun _ _ => none) (since := clock) (clock := clock) (ents := ents) (es := []) (n := S1.no) (l := l) (X := S1.fixed l []) (C0 := C1) (w0 := w1) ok hcall hevo hno heo hws (fun _ _ _ _ _ _ _ _ _ h => by cases h) (fun _ _ _ _ _ h => by cases h) (fun _ _ _ _ _ _ h => by cases h) hit rfl hXn hXl hln (Nat.le_refl _) k3.1 rfl (fun C a' w' f' b1 b2 hmx hex Q' hQ => ?_) _ C2 #[] clock _ _ (Nat.lt_succ_self _) hfr hborn2 hbl (by rw [hmx2, gn, ← hiter, hml]) (by rw [hmx2, gl]) (Nat.le_refl _) (fun k h1 h2 => by rw [hmx2]; exact gk k h1 h2) hx0
             have fd : FR E (C.exact C1.mx) (S1.newRaw .dead) nt (eraseT m.ws tm2) a' w' := ⟨(unfix f'.wr b1 b2 hXn hXl hln hmx).same (fun k => by
              show (S1.objs.set S1.no .dead).get k = (((S1.fixed l []).objs.set S1.no .dead).set l (.mp [])).get k
              rw [PM.get_set, PM.get_set, PM.get_set, fixed_get]
              by_cases q1 : k = l
              · rw [if_pos q1, q1, if_neg (fun e => hln e.symm), hSl]
              · rw [if_neg q1]
                by_cases q2 : k = S1.no
                · rw [if_pos q2, if_pos q2]
                · rw [if_neg q2, if_neg q2, if_neg q1, if_neg q2]) rfl rfl rfl rfl rfl, f'.tr.exact _, f'.size, f'.defers⟩
             exact last_ok ok hcall hno h fd (fun ho C' a2 w2 f2 e2 => hQ _ _ (hfin C a' w' hex ho f2 e2))
           · rename_i e0 es0
             split at h
             · rename_i ld _ _ _ hone
               split at h
               · rename_i kt' et' esd hT' hesd
                 split at h
                 · rename_i d' hd'
                   split at h
                   · cases h
                   · rename_i hgs
                     simp only [Bool.or_eq_true, not_or, Bool.not_eq_true', Bool.not_eq_false] at hgs
                     obtain ⟨⟨g1, g2⟩, g3⟩ := hgs
                     have hdl : ld ≠ l := fun e => by rw [e, Nat.beq_refl] at g1; simp at g1
                     split at h
                     · rename_i es' hall
                       have hSd := mpOf_eq hesd
                       have hdb : C1.born ld := Classical.byContradiction fun hc => by
                        rcases f1.wr.unob ld hc with h | h <;> rw [hSd] at h <;> cases h
                       have hdn : ld ≠ S1.no := fun e => hn (e ▸ hdb)
                       have hob2 := f1.wr.objs ld hdb
                       rw [hSd] at hob2
                       obtain ⟨ents2, clock2, q1, q2, q3⟩ := hob2
                       have hkeys : (∀ k, (∃ e ∈ ents.toList, e.key = k) ↔ ∃ x, (k, x) ∈ e0 :: es0) := fun k => ⟨fun ⟨e, h1, h2⟩ => by
                        obtain ⟨x, hx⟩ := k2.key e h1
                        exact ⟨x, by rw [← h2]; exact hx⟩, fun ⟨x, hx⟩ => by
                        obtain ⟨e, h1, h2, _⟩ := k2.val k x hx
                        exact ⟨e, h1, h2⟩⟩
                       obtain ⟨ys, y1, y2, y3, y4, y5⟩ := copyAll_spec _ _ hall g3 k2.nd g2 q2.nd
                       have hget : (S1.fixed l (e0 :: es0)).objs.get ld = some (.mp esd) := by rw [fixed_get, if_neg hdl, if_neg hdn, hSd]
                       have hmid : FR E C2 ((S1.fixed l (e0 :: es0)).midst ld esd) nt (eraseT m.ws tm2) (a1.put (some m.it) (.pointer (some ⟨w1.heap.size, 0, none⟩))) (w1.alloc iter) := ⟨hfr.wr.same (fun k => by
                        rw [midst_get]
                        by_cases q : k = ld
                        · rw [if_pos q, q, hget]
                        · rw [if_neg q]) rfl rfl rfl rfl rfl, hfr.tr, hfr.size, hfr.defers⟩
                       have hd2 : C2.born ld := (ex.born ld hdb).1
                       refine copy_loop (since := clock) (clock := clock) (ents := ents) (es := e0 :: es0) (esd := esd) (ys := ys) (n := S1.no) (l := l) (ld := ld) (X0 := S1.fixed l (e0 :: es0)) (C0 := C1) (w0 := w1) (T := T') (kt := kt') (et := et') (d := d') (mo := mo) (ko := ko) (vo := vo) (ops := cops) (o := co) (i3 := i3) ok hcall hevo hfrm hno heo hws hbd hcops hcop hcdst hcgd hT' hd' hit hXn hXl hln hdn hdl (by have := born_lt f1.wr hdb; show ld < S1.no + 1; omega) (Nat.le_refl _) k3.1 k3.2 y1 y2 (fun C a' w' acc f' b1 b2 b3 hml' hmx hex hacc Q' hQ => ?_) _ C2 #[] clock esd _ _ (Nat.lt_succ_self _) hmid hborn2 hbl hd2 (by rw [hmx2, gn, ← hiter, hml]) (by rw [hmx2, gl]) (Nat.le_refl _) (fun k h1 h2 => by rw [hmx2]; exact gk k h1 h2) hx0 g2 (fun k y => ?_)
                       · have hgn : ((S1.fixed l (e0 :: es0)).midst ld acc).objs.get S1.no = some .raw := by rw [midst_get, if_neg (fun e => hdn e.symm)]; exact hXn
                         have hgl : ((S1.fixed l (e0 :: es0)).midst ld acc).objs.get l = some (.mpx (e0 :: es0)) := by rw [midst_get, if_neg (fun e => hdl e.symm)]; exact hXl
                         have hu := unfix f'.wr b1 b2 hgn hgl hln hmx
                         have hlv : (({ (S1.fixed l (e0 :: es0)).midst ld acc with objs := (((S1.fixed l (e0 :: es0)).midst ld acc).objs.set S1.no .dead).set l (.mp (e0 :: es0)) } : St).objs.get ld) = some (.mp acc) := by
                          show ((((S1.fixed l (e0 :: es0)).midst ld acc).objs.set S1.no .dead).set l (.mp (e0 :: es0))).get ld = _
                          rw [PM.get_set, if_neg hdl, PM.get_set, if_neg hdn, midst_get, if_pos rfl]
                         have hob3 := hu.objs ld b3
                         rw [hlv] at hob3
                         obtain ⟨ents3, clock3, r1, r2, r3⟩ := hob3
                         have hmm : ∀ k y, (k, y) ∈ es' ↔ (k, y) ∈ acc := fun k y => by rw [y5, hacc, hkeys]
                         have fd : FR E (C.exact C1.mx) ((S1.newRaw .dead).put ld (.mp es')) nt (eraseT m.ws tm2) a' w' := ⟨(hu.as (l := ld) (a := .mp es') b3 (hu.apart b3 (by rw [hlv]; rintro (h | h) <;> cases h)) ⟨ents3, clock3, r1, r2.congr y4 hmm, r3⟩).same (fun k => by
                          show ((S1.objs.set S1.no .dead).set ld (.mp es')).get k = (((((S1.fixed l (e0 :: es0)).midst ld acc).objs.set S1.no .dead).set l (.mp (e0 :: es0))).set ld (.mp es')).get k
                          rw [PM.get_set, PM.get_set, PM.get_set, PM.get_set, PM.get_set, midst_get, fixed_get]
                          by_cases q0 : k = ld
                          · rw [if_pos q0, if_pos q0]
                          · rw [if_neg q0, if_neg q0]
                            by_cases q1 : k = l
                            · rw [if_pos q1, q1, if_neg (fun e => hln e.symm), hSl]
                            · rw [if_neg q1]
                              by_cases q2 : k = S1.no
                              · rw [if_pos q2, if_pos q2]
                              · rw [if_neg q2, if_neg q2, if_neg q0, if_neg q1, if_neg q2]) rfl rfl rfl rfl rfl, f'.tr.exact _, f'.size, f'.defers⟩
                         exact last_ok ok hcall hno h fd (fun ho C' a2 w2 f2 e2 => hQ _ _ (hfin C a' w' hex ho f2 e2))
                       · have : ¬ seenKey ents #[] k := by rintro ⟨e, _, _, h⟩; simp at h
                         constructor
                         · exact fun h => .inr ⟨this, h⟩
                         · rintro (⟨h, _⟩ | ⟨_, h⟩)
                           · exact absurd h this
                           · exact h
                     · cases h
                 · cases h
               · cases h
             · cases h
     · cases h
   · cases h
theorem mac0_ok : MOk E nt mac0 := fun c r h => by simp [mac0] at h
theorem mac1_ok (ok : E.Ok) (hcall : CallOk E call) (hevo : CallEvo call) (hfrm : CallFrm call) (hd : DrawOk E call) (lf : Nat) : MOk E nt (mac1 E call lf nt) := by
 intro c r h
 unfold mac1 at h
 split at h
 · rename_i m hm
   simp only [Option.some.injEq] at h
   subst h
   exact mac_ok ok hcall hevo hfrm hm (fun tm tm' S S' o C a w Q h hf hq => code_ok ok hd hcall lf mac0_ok m.body tm tm' S S' o C a w Q h hf hq) (fun tm tm' S S' o h => code_evo hevo mac0_evo _ _ _ _ _ _ h) (fun tm tm' S S' o t h ht => code_keeps _ _ _ _ _ _ h ht)
 · cases h
end
end Go.Abs
end
end
