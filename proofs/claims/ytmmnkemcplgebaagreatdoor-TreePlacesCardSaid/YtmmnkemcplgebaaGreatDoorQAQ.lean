/-
  A loop over a map whose rounds write one entry each of another map.
-/
import Derived.Test.YtmmnkemcplgebaaGreatDoorQAP
section
section
set_option linter.unusedSimpArgs false
set_option linter.unusedVariables false
namespace Go.Abs
open Go.RowKit Go.MapKept
open Go.ChangeMaps (setBlock)
section
variable {d : TypeDesc} {k : Value} {y : AV}
theorem setKey_mem (hk : isKey d k = true) : ∀ {es : List (Value × AV)}, es.all (fun e => isKey d e.1) = true → (es.map (·.1)).Nodup → ∀ k' y', (k', y') ∈ setKey d k y es ↔ (k' = k ∧ y' = y) ∨ (k' ≠ k ∧ (k', y') ∈ es)
 | [], _, _, k', y' => by simp [setKey]
 | e :: es, h, hn, k', y' => by
  simp only [List.all_cons, Bool.and_eq_true] at h
  simp only [List.map_cons, List.nodup_cons] at hn
  rcases same_keys hk h.1 with ⟨h1, h2⟩ | ⟨h1, h2⟩
  · simp only [setKey, h1, List.mem_cons]
    constructor
    · rintro (h3 | h3)
      · injection h3 with q1 q2; exact .inl ⟨q1, q2⟩
      · refine .inr ⟨fun e' => hn.1 (List.mem_map.2 ⟨(k', y'), h3, ?_⟩), .inr h3⟩
        show k' = e.1
        rw [e', h2]
    · rintro (⟨rfl, rfl⟩ | ⟨h3, h4 | h4⟩)
      · exact .inl rfl
      · exact absurd (by have := congrArg Prod.fst h4; simpa [h2] using this) h3
      · exact .inr h4
  · simp only [setKey, h1, List.mem_cons, setKey_mem hk h.2 hn.2 k' y']
    constructor
    · rintro (h3 | h3 | ⟨h3, h4⟩)
      · refine .inr ⟨fun e' => h2 ?_, .inl h3⟩
        have := congrArg Prod.fst h3
        rw [← e']; exact this
      · exact .inl h3
      · exact .inr ⟨h3, .inr h4⟩
    · rintro (h3 | ⟨h3, h4 | h4⟩)
      · exact .inr (.inl h3)
      · exact .inl h4
      · exact .inr (.inr ⟨h3, h4⟩)
theorem setKey_keys (hk : isKey d k = true) : ∀ {es : List (Value × AV)}, es.all (fun e => isKey d e.1) = true → (setKey d k y es).all (fun e => isKey d e.1) = true
 | [], _ => by simp [setKey, hk]
 | e :: es, h => by
  simp only [List.all_cons, Bool.and_eq_true] at h
  rcases same_keys hk h.1 with ⟨h1, h2⟩ | ⟨h1, h2⟩
  · simp only [setKey, h1, List.all_cons, Bool.and_eq_true]; exact ⟨hk, h.2⟩
  · simp only [setKey, h1, List.all_cons, Bool.and_eq_true]; exact ⟨h.1, setKey_keys hk h.2⟩
theorem setKey_nodup (hk : isKey d k = true) : ∀ {es : List (Value × AV)}, es.all (fun e => isKey d e.1) = true → (es.map (·.1)).Nodup → ((setKey d k y es).map (·.1)).Nodup
 | [], _, _ => by simp [setKey]
 | e :: es, h, hn => by
  have hn0 := hn
  have h0 := h
  simp only [List.all_cons, Bool.and_eq_true] at h
  simp only [List.map_cons, List.nodup_cons] at hn
  rcases same_keys hk h.1 with ⟨h1, h2⟩ | ⟨h1, h2⟩
  · simp only [setKey, h1, List.map_cons, List.nodup_cons]
    rw [h2]; exact hn
  · simp only [setKey, h1, List.map_cons, List.nodup_cons]
    refine ⟨fun hm => ?_, setKey_nodup hk h.2 hn.2⟩
    obtain ⟨⟨k', y'⟩, q1, q2⟩ := List.mem_map.1 hm
    rcases (setKey_mem hk h.2 hn.2 k' y').1 q1 with ⟨rfl, rfl⟩ | ⟨_, q3⟩
    · exact h2 q2
    · exact hn.1 (List.mem_map.2 ⟨_, q3, q2⟩)
end
theorem pairs_nodup {es : List (Value × AV)} (h : (es.map (·.1)).Nodup) : es.Nodup := by
 unfold List.Nodup at h ⊢
 rw [List.pairwise_map] at h
 exact h.imp (fun h e => h (by rw [e]))
theorem MapR.congr {C : Ctx} {w : World} {es es' : List (Value × AV)} {ents : List MapEntry} (h : MapR C w es ents) (hn : (es'.map (·.1)).Nodup) (hm : ∀ k y, (k, y) ∈ es' ↔ (k, y) ∈ es) : MapR C w es' ents := by
 have hp : es'.Perm es := (List.perm_ext_iff_of_nodup (pairs_nodup hn) (pairs_nodup h.nd)).2 (fun ⟨k, y⟩ => hm k y)
 exact ⟨hp.length_eq.trans h.len, hn, h.nd', fun e he => let ⟨x, hx⟩ := h.key e he; ⟨x, (hm _ _).2 hx⟩, fun k x hx => h.val k x ((hm _ _).1 hx)⟩
theorem MapR.imp {C C' : Ctx} {w w' : World} {es : List (Value × AV)} {ents : List MapEntry} (h : MapR C w es ents) (f : ∀ k x v, (k, x) ∈ es → VR C w x v → VR C' w' x v) : MapR C' w' es ents :=
 ⟨h.len, h.nd, h.nd', h.key, fun k x hx => let ⟨e, h1, h2, h3⟩ := h.val k x hx; ⟨e, h1, h2, f k x _ hx h3⟩⟩
section
variable {E : Env} {call : CallFn} {nt : Nat}
theorem updOp_spec {l : List Oper} {T : TypeId} {mo ko vo : Operand} (h : updOp l.getLast? = some (T, mo, ko, vo)) : ∃ o, l = l.dropLast ++ [o] ∧ o.op = .mapUpdate T mo ko vo ∧ o.dst = none ∧ o.guard = none := by
 cases hl : l.getLast? with
 | none => rw [hl] at h; simp [updOp] at h
 | some o =>
  rw [hl] at h
  have hne : l ≠ [] := fun e => by rw [e] at hl; simp at hl
  have hlast : l.getLast hne = o := by rw [List.getLast?_eq_some_getLast hne] at hl; simpa using hl
  have h0 : l = l.dropLast ++ [o] := by rw [← hlast]; exact (List.dropLast_concat_getLast hne).symm
  unfold updOp at h
  split at h
  · rename_i h1
    simp only [Option.some.injEq, Prod.mk.injEq] at h h1
    obtain ⟨rfl, rfl, rfl, rfl⟩ := h
    exact ⟨o, h0, by rw [h1], by rw [h1], by rw [h1]⟩
  · cases h
theorem copyBody_spec {c : Code} {ops : Array Oper} {T : TypeId} {mo ko vo : Operand} (h : copyBody c = some (ops, T, mo, ko, vo)) : ∃ i o, c = .region i ops false ∧ ops.toList = ops.toList.dropLast ++ [o] ∧ o.op = .mapUpdate T mo ko vo ∧ o.dst = none ∧ o.guard = none := by
 unfold copyBody at h
 split at h
 · rename_i i ops'
   split at h
   · rename_i h1
     simp only [Option.some.injEq, Prod.mk.injEq] at h
     obtain ⟨rfl, rfl, rfl, rfl, rfl⟩ := h
     obtain ⟨o, q1, q2, q3, q4⟩ := updOp_spec h1
     exact ⟨i, o, rfl, q1, q2, q3, q4⟩
   · cases h
 · cases h
structure One (E : Env) (call : CallFn) (nt : Nat) (m : MapLoop) (ops : Array Oper) (mo ko vo : Operand) (d : TypeDesc) (ld : Nat) (tm : PM AV) (A X : St) (k : Value) (x y : AV) (tm4 : PM AV) (S4 : St) : Prop where
 pre : Pre E call nt m k x tm X tm4 S4
 key : isKey d k = true
 old : oldA A y = true
 ex : ∃ tm5 S5, evSeq E call nt ops ops.toList.dropLast tm4 S4 = some (tm5, S5) ∧ E.ev tm5 mo = .mp ld ∧ keyOf (E.ev tm5 ko) = some k ∧ E.ev tm5 vo = y ∧ still X S5 = true
theorem one_take {m : MapLoop} {ops : Array Oper} {mo ko vo : Operand} {d : TypeDesc} {ld l : Nat} {tm : PM AV} {A S' : St} {e : Value × AV} {k : Value} {y : AV} (h : copyOne E call nt m ops mo ko vo e tm A = some (l, k, y, S')) (hk : k = e.1) (hl : l = ld) (hs : still A S' = true) (ho : oldA A y = true) (hkey : isKey d k = true) :
 ∃ tm4 S4, One E call nt m ops mo ko vo d ld tm A A e.1 e.2 y tm4 S4 := by
 unfold copyOne at h
 split at h
 · rename_i tm' S1 hr
   obtain ⟨tm4, S4, p1, p2⟩ := round_take hr
   split at h
   · rename_i e1 e2
     simp only [Option.some.injEq, Prod.mk.injEq] at h
     obtain ⟨rfl, rfl, rfl, rfl⟩ := h
     unfold copyRun at p2
     split at p2
     · rename_i tm5 S5 p3
       simp only [Option.some.injEq, Prod.mk.injEq] at p2
       obtain ⟨_, rfl, rfl⟩ := p2
       exact ⟨tm4, S4, p1, by rw [← hk]; exact hkey, ho, tm5, S5, p3, by rw [e1, hl], by rw [e2, hk], rfl, hs⟩
     · cases p2
   · cases h
 · cases h
theorem copyAll_spec {m : MapLoop} {ops : Array Oper} {mo ko vo : Operand} {d : TypeDesc} {ld : Nat} {tm : PM AV} {A : St} : ∀ (es acc : List (Value × AV)) {r : List (Value × AV)}, copyAll E call nt m ops mo ko vo d ld tm A es acc = some r →
 es.all (fun e => isKey d e.1) = true → (es.map (·.1)).Nodup → acc.all (fun e => isKey d e.1) = true → (acc.map (·.1)).Nodup →
 ∃ ys : List (Value × AV), (∀ k x, (k, x) ∈ es → ∃ y tm4 S4, (k, y) ∈ ys ∧ One E call nt m ops mo ko vo d ld tm A A k x y tm4 S4) ∧ (∀ k y y', (k, y) ∈ ys → (k, y') ∈ ys → y = y') ∧ (∀ k y, (k, y) ∈ ys → ∃ x, (k, x) ∈ es) ∧ (r.map (·.1)).Nodup ∧
  ∀ k y, (k, y) ∈ r ↔ ((∃ x, (k, x) ∈ es) ∧ (k, y) ∈ ys) ∨ ((¬ ∃ x, (k, x) ∈ es) ∧ (k, y) ∈ acc)
 | [], acc, r, h, _, _, _, hn => by
  simp only [copyAll, Option.some.injEq] at h
  subst h
  exact ⟨[], fun k x h => by simp at h, fun k y y' h => by simp at h, fun k y h => by simp at h, hn, fun k y => by simp⟩
 | e :: es, acc, r, h, hes, hne, hacc, hna => by
  simp only [copyAll] at h
  split at h
  · rename_i l k y S' h1
    split at h
    · rename_i hsame
      simp only [cond_eq_ite] at h
      split at h
      · rename_i hb
        simp only [Bool.and_eq_true] at hb
        obtain ⟨⟨⟨b1, b2⟩, b3⟩, b4⟩ := hb
        have hes0 := hes
        simp only [List.all_cons, Bool.and_eq_true] at hes
        have hne0 := hne
        simp only [List.map_cons, List.nodup_cons] at hne
        have hke : k = e.1 := by
         rcases same_keys b4 hes.1 with ⟨q1, q2⟩ | ⟨q1, q2⟩
         · exact q2
         · rw [q1] at hsame; cases hsame
        obtain ⟨tm4, S4, hone⟩ := one_take h1 hke (Nat.eq_of_beq_eq_true b1) b2 b3 b4
        obtain ⟨ys, y1, y2, y3, y4, y5⟩ := copyAll_spec es _ h hes.2 hne.2 (setKey_keys b4 hacc) (setKey_nodup b4 hacc hna)
        have hnot : ¬ ∃ x, (k, x) ∈ es := by
         rintro ⟨x, hx⟩
         exact hne.1 (List.mem_map.2 ⟨_, hx, hke⟩)
        refine ⟨(k, y) :: ys, fun k' x' hx => ?_, fun k' a b ha hb => ?_, fun k' a ha => ?_, y4, fun k' y' => ?_⟩
        · rcases List.mem_cons.1 hx with rfl | hx
          · exact ⟨y, tm4, S4, by rw [hke]; exact List.mem_cons_self, hone⟩
          · obtain ⟨y', tm4', S4', q1, q2⟩ := y1 _ _ hx
            exact ⟨y', tm4', S4', List.mem_cons_of_mem _ q1, q2⟩
        · rcases List.mem_cons.1 ha with ha | ha
          · injection ha with q1 q2
            rcases List.mem_cons.1 hb with hb | hb
            · injection hb with q3 q4; rw [q2, q4]
            · exact absurd (by rw [← q1]; exact y3 _ _ hb) hnot
          · rcases List.mem_cons.1 hb with hb | hb
            · injection hb with q3 q4; exact absurd (by rw [← q3]; exact y3 _ _ ha) hnot
            · exact y2 _ _ _ ha hb
        · rcases List.mem_cons.1 ha with ha | ha
          · injection ha with q1 q2
            exact ⟨e.2, by rw [q1, hke]; exact List.mem_cons_self⟩
          · obtain ⟨x, hx⟩ := y3 _ _ ha
            exact ⟨x, List.mem_cons_of_mem _ hx⟩
        · rw [y5, setKey_mem b4 hacc hna]
          have hex : (∃ x, (k', x) ∈ e :: es) ↔ k' = k ∨ ∃ x, (k', x) ∈ es := by
           constructor
           · rintro ⟨x, hx⟩
             rcases List.mem_cons.1 hx with hx | hx
             · exact .inl (by rw [hke]; exact congrArg Prod.fst hx)
             · exact .inr ⟨x, hx⟩
           · rintro (rfl | ⟨x, hx⟩)
             · exact ⟨e.2, by rw [hke]; exact List.mem_cons_self⟩
             · exact ⟨x, List.mem_cons_of_mem _ hx⟩
          rw [hex]
          constructor
          · rintro (⟨q1, q2⟩ | ⟨q1, ⟨rfl, rfl⟩ | ⟨q2, q3⟩⟩)
            · exact .inl ⟨.inr q1, List.mem_cons_of_mem _ q2⟩
            · exact .inl ⟨.inl rfl, List.mem_cons_self⟩
            · exact .inr ⟨by rintro (q | q); exact q2 q; exact q1 q, q3⟩
          · rintro (⟨q1, q2⟩ | ⟨q1, q2⟩)
            · rcases List.mem_cons.1 q2 with q2 | q2
              · injection q2 with q3 q4
                subst q3; subst q4
                exact .inr ⟨hnot, .inl ⟨rfl, rfl⟩⟩
              · exact .inl ⟨y3 _ _ q2, q2⟩
            · exact .inr ⟨fun q => q1 (.inr q), .inr ⟨fun q => q1 (.inl q), q2⟩⟩
      · cases h
    · cases h
  · cases h
end
end Go.Abs
end
end
