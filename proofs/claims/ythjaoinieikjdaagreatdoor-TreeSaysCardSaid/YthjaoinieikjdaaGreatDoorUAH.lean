/-
  Maps.
-/
import Derived.Test.YthjaoinieikjdaaGreatDoorUAG
set_option linter.unusedSimpArgs false
set_option linter.unusedVariables false
namespace Go.Abs
open Go.RowKit Go.MapKept
theorem sA {d : TypeDesc} {k : Value} (h : fH d k = true) : IsKey d k := by
 cases d <;> cases k <;> simp_all [fH, IsKey]
theorem xT {d : TypeDesc} {a b : Value} (ha : fH d a = true) (hb : fH d b = true) : (Instr.sameNow d a b = some true ∧ a = b) ∨ (Instr.sameNow d a b = some false ∧ a ≠ b) := by
 obtain ⟨r, h1, h2⟩ := sameNow_of_keys (sA ha) (sA hb)
 cases r with
 | true => exact .inl ⟨h1, h2.1 rfl⟩
 | false => exact .inr ⟨h1, fun e => by have := h2.2 e; cases this⟩
theorem xv4 {d : TypeDesc} {k : Value} (hk : fH d k = true) : ∀ {es : List (Value × AV)}, es.all (fun e => fH d e.1) = true →
 (pK d k es = some none ∧ ∀ e ∈ es, e.1 ≠ k) ∨ ∃ x, pK d k es = some (some x) ∧ (k, x) ∈ es
 | [], _ => .inl ⟨rfl, fun e h => by simp at h⟩
 | e :: es, h => by
  simp only [lA, aS] at h
  rcases xT hk h.1 with ⟨h1, h2⟩ | ⟨h1, h2⟩
  · refine .inr ⟨e.2, by simp [pK, h1], ?_⟩
    rw [h2]; exact jL
  · rcases xv4 hk h.2 with ⟨h3, h4⟩ | ⟨x, h3, h4⟩
    · refine .inl ⟨by simp [pK, h1, h3], fun e' he => ?_⟩
      rcases List.mem_cons.1 he with rfl | he
      · exact fun q => h2 q.symm
      · exact h4 e' he
    · exact .inr ⟨x, by simp [pK, h1, h3], kZ _ h4⟩
section
variable {E : Env} {C : Ctx} {S S' : St} {w : World} {v : AV}
theorem wt3 {S : St} {l : Nat} {es : List (Value × AV)} (h : S.map l = some es) : S.objs.get l = some (.mp es) ∨ S.objs.get l = some (.mpx es) := by
 unfold St.map at h
 split at h
 · rename_i x hx; simp at h; subst h; exact .inl hx
 · rename_i x hx; simp at h; subst h; exact .inr hx
 · simp at h
theorem sC (hw : WR E C S w) {l : Nat} {es : List (Value × AV)} (hl : C.born l) (h : S.map l = some es) : ¬ iA (S.objs.get l) ∧ ∃ ents clock, w.heap[C.mu l]? = some (.map ents clock) ∧ MapR C w es ents.toList ∧ BornOk ents.toList clock := by
 have hobj := hw.objs l hl
 rcases wt3 h with hg | hg
 · rw [hg] at hobj ⊢
   exact ⟨(by rintro (h | h) <;> cases h), hobj⟩
 · rw [hg] at hobj ⊢
   obtain ⟨h1, ents, clock, h2, h3, h4⟩ := hobj
   exact ⟨(by rintro (h | h) <;> cases h), ents, clock, by rw [h1, h2], h3, h4⟩
theorem MapR.keys {d : TypeDesc} {es : List (Value × AV)} {ents : List MapEntry} (h : MapR C w es ents) (hk : es.all (fun e => fH d e.1) = true) : ∀ x ∈ ents, IsKey d x.key := by
 intro x hx
 obtain ⟨y, hy⟩ := h.key x hx
 exact sA (List.all_eq_true.1 hk _ hy)
theorem xl4 : ∀ {ents : List MapEntry} {a b : MapEntry}, (ents.map (·.key)).Nodup → a ∈ ents → b ∈ ents → a.key = b.key → a = b
 | [], a, b, _, h, _, _ => by simp at h
 | e :: es, a, b, hn, ha, hb, hk => by
  simp only [cF, List.nodup_cons] at hn
  rcases List.mem_cons.1 ha with h1 | h1
  · rcases List.mem_cons.1 hb with h2 | h2
    · rw [h1, h2]
    · exact absurd (List.mem_map.2 ⟨b, h2, by rw [← h1]; exact hk.symm⟩) hn.1
  · rcases List.mem_cons.1 hb with h2 | h2
    · exact absurd (List.mem_map.2 ⟨a, h1, by rw [← h2]; exact hk⟩) hn.1
    · exact xl4 hn.2 h1 h2 hk
theorem MapR.find {d : TypeDesc} {k : Value} {es : List (Value × AV)} {ents : List MapEntry} (h : MapR C w es ents) (hk : fH d k = true) (ha : es.all (fun e => fH d e.1) = true) :
 (pK d k es = some none ∧ Instr.findNow d k ents 0 = some none ∧ (∀ e ∈ es, e.1 ≠ k) ∧ ∀ x ∈ ents, x.key ≠ k) ∨
 (∃ x j e, pK d k es = some (some x) ∧ (k, x) ∈ es ∧ Instr.findNow d k ents 0 = some (some (j, e.val)) ∧ ents[j]? = some e ∧ e.key = k ∧ VR C w x e.val) := by
 rcases xv4 hk ha with ⟨h1, h2⟩ | ⟨x, h1, h2⟩
 · rcases findNow_spec (sA hk) ents 0 (h.keys ha) with ⟨h3, h4⟩ | ⟨j, e, h3, h4, h5⟩
   · exact .inl ⟨h1, h3, h2, h4⟩
   · obtain ⟨y, hy⟩ := h.key e (List.mem_of_getElem? h4)
     rw [h5] at hy
     exact absurd rfl (h2 _ hy)
 · obtain ⟨e0, k1, k2, k3⟩ := h.val k x h2
   rcases findNow_spec (sA hk) ents 0 (h.keys ha) with ⟨h3, h4⟩ | ⟨j, e, h3, h4, h5⟩
   · exact absurd k2 (h4 e0 k1)
   · have := xl4 h.nd' k1 (List.mem_of_getElem? h4) (k2.trans h5.symm)
     subst this
     exact .inr ⟨x, j, e0, h1, h2, by simpa using h3, h4, h5, k3⟩
theorem wn8 (ok : E.Ok) (hw : WR E C S w) {t : TypeId} {x ix : AV} {ux ui : Value} {b : Bool} (hx : VR C w x ux) (hi : VR C w ix ui) (h : iT E t x ix b S = some (v, S')) :
 Good E C w (do pure (.value (← Instr.lookup t ux ui b))) v S' := by
 unfold iT at h
 split at h
 · rename_i kt et k ht hk
   have hui : ui = k := by
    unfold keyOf at hk
    split at hk
    · simp at hk; subst hk; exact hi.sc_inv
    · simp at hk
   subst hui
   split at h
   · rename_i d hd
     simp only [bB] at h
     split at h
     · rename_i hkey
       split at h
       · rename_i es hes
         split at h
         · simp at h
         · rename_i hall
           have hall : es.all (fun e => fH d e.1) = true := by
            cases hh : es.all (fun e => fH d e.1) <;> simp_all
           obtain ⟨ents, hrel, hux⟩ : ∃ ents : Array MapEntry, MapR C w es ents.toList ∧ ((ux = .map none ∧ ents = #[]) ∨ ∃ r clock, ux = .map (some r) ∧ w.heap[r]? = some (.map ents clock)) := by
            split at hes
            · simp at hes; subst hes
              have := hx.sc_inv; subst this
              exact ⟨#[], ⟨rfl, by simp, by simp, fun e h => by simp at h, fun k x h => by simp at h⟩, .inl ⟨rfl, rfl⟩⟩
            · rename_i l
              cases hx with
              | mp _ hb =>
               obtain ⟨_, ents, clock, k1, k2, _⟩ := sC hw hb hes
               exact ⟨ents, k2, .inr ⟨_, clock, rfl, k1⟩⟩
            · simp at hes
           have hck : ∀ e, (Instr.checkKey e 10000 kt ui).run E.P w = .ok () w := fun e => run_checkKey (P := E.P) (w := w) (ok.und _ _ hd) (sA hkey) e 9999
           rcases hrel.find hkey hall with ⟨h1, h2, _, _⟩ | ⟨x', j, e, h1, h2, h3, h4, h5, h6⟩
           · rw [h1] at h
             simp only at h
             split at h
             · rename_i i hi'
               split at h
               · rename_i z hz
                 simp only [aI, aJ] at h
                 obtain ⟨rfl, rfl⟩ := h
                 have hfk := run_findKey (P := E.P) (w := w) (ok.und _ _ hd) h2
                 refine Good.val hw (u := if b then .tuple #[z, .bool false] else z) (bQ ?_) ?_
                 · rcases hux with ⟨rfl, rfl⟩ | ⟨r, clock, rfl, hr⟩
                   · simp at hfk
                     simp [Instr.lookup, cU ok ht, hck, hfk, tH ok hi' hz]
                   · simp [Instr.lookup, cU ok ht, getObj, Sem.run, hr, hck, hfk, tH ok hi' hz]
                 · cases b with
                   | true => exact LR.tup (LR.cons (sF _ _ _) (LR.cons (.sc _) (LR.nil _ _)))
                   | false => exact sF _ _ _
               · simp at h
             · simp at h
           · rw [h1] at h
             simp only [aI, aJ] at h
             obtain ⟨rfl, rfl⟩ := h
             have hfk := run_findKey (P := E.P) (w := w) (ok.und _ _ hd) h3
             refine Good.val hw (u := if b then .tuple #[e.val, .bool true] else e.val) (bQ ?_) ?_
             · rcases hux with ⟨rfl, rfl⟩ | ⟨r, clock, rfl, hr⟩
               · simp at h4
               · simp [Instr.lookup, cU ok ht, getObj, Sem.run, hr, hck, hfk]
             · cases b with
               | true => exact LR.tup (LR.cons h6 (LR.cons (.sc _) (LR.nil _ _)))
               | false => exact h6
       · simp at h
     · simp at h
   · simp at h
 · simp at h
theorem xj6 {d : TypeDesc} {k : Value} {x : AV} (hk : fH d k = true) : ∀ {es : List (Value × AV)}, es.all (fun e => fH d e.1) = true → (∀ e ∈ es, e.1 ≠ k) → qE d k x es = es ++ [(k, x)]
 | [], _, _ => rfl
 | e :: es, h, hn => by
  simp only [lA, aS] at h
  rcases xT hk h.1 with ⟨h1, h2⟩ | ⟨h1, h2⟩
  · exact absurd h2.symm (hn e jL)
  · simp only [qE, h1, nS]
    rw [xj6 hk h.2 fun e' he => hn e' (kZ _ he)]
theorem yt1 {d : TypeDesc} {k : Value} {x : AV} (hk : fH d k = true) : ∀ {es : List (Value × AV)}, es.all (fun e => fH d e.1) = true → (∃ e ∈ es, e.1 = k) → ∃ A y B, es = A ++ (k, y) :: B ∧ qE d k x es = A ++ (k, x) :: B ∧ pD d k es = A ++ B
 | [], _, h => by obtain ⟨e, he, _⟩ := h; simp at he
 | e :: es, h, hn => by
  simp only [lA, aS] at h
  rcases xT hk h.1 with ⟨h1, h2⟩ | ⟨h1, h2⟩
  · refine ⟨[], e.2, es, ?_, by simp [qE, h1], by simp [pD, h1]⟩
    rw [h2]; rfl
  · obtain ⟨e', he, hek⟩ := hn
    have : e' ∈ es := by
     rcases List.mem_cons.1 he with rfl | he
     · exact absurd hek.symm h2
     · exact he
    obtain ⟨A, y, B, k1, k2, k3⟩ := yt1 (x := x) hk h.2 ⟨e', this, hek⟩
    exact ⟨e :: A, y, B, by rw [k1]; rfl, by simp [qE, h1, k2], by simp [pD, h1, k3]⟩
theorem xo6 {d : TypeDesc} {k : Value} (hk : fH d k = true) : ∀ {es : List (Value × AV)}, es.all (fun e => fH d e.1) = true → (∀ e ∈ es, e.1 ≠ k) → pD d k es = es
 | [], _, _ => rfl
 | e :: es, h, hn => by
  simp only [lA, aS] at h
  rcases xT hk h.1 with ⟨h1, h2⟩ | ⟨h1, h2⟩
  · exact absurd h2.symm (hn e jL)
  · simp only [pD, h1]
    rw [xo6 hk h.2 fun e' he => hn e' (kZ _ he)]
theorem wt1 {α : Type} {f : α → Value} {A B : List α} {a : α} (h : ((A ++ a :: B).map f).Nodup) : (∀ b ∈ A ++ B, f b ≠ f a) ∧ ((A ++ B).map f).Nodup := by
 simp only [lR, cF] at h ⊢
 rw [List.nodup_append] at h
 obtain ⟨h1, h2, h3⟩ := h
 rw [List.nodup_cons] at h2
 refine ⟨fun b hb => ?_, ?_⟩
 · rcases List.mem_append.1 hb with hb | hb
   · exact h3 _ (List.mem_map.2 ⟨b, hb, rfl⟩) _ (jL)
   · intro e
     exact h2.1 (e ▸ List.mem_map.2 ⟨b, hb, rfl⟩)
 · rw [List.nodup_append]
   exact ⟨h1, h2.2, fun x hx y hy => h3 x hx y (kZ _ hy)⟩
theorem MapR.push {k : Value} {x : AV} {u : Value} {n : Nat} {es : List (Value × AV)} {ents : List MapEntry} (h : MapR C w es ents) (h1 : ∀ e ∈ es, e.1 ≠ k) (h2 : ∀ e ∈ ents, e.key ≠ k) (hx : VR C w x u) :
 MapR C w (es ++ [(k, x)]) (ents ++ [⟨k, u, n⟩]) := by
 refine ⟨by simp [h.len], ?_, ?_, fun e he => ?_, fun k' x' he => ?_⟩
 · rw [lR, List.nodup_append]
   exact ⟨h.nd, by simp, fun a ha b hb => by
    obtain ⟨e, he, rfl⟩ := List.mem_map.1 ha
    simp at hb; subst hb; exact h1 e he⟩
 · rw [lR, List.nodup_append]
   exact ⟨h.nd', by simp, fun a ha b hb => by
    obtain ⟨e, he, rfl⟩ := List.mem_map.1 ha
    simp at hb; subst hb; exact h2 e he⟩
 · rcases List.mem_append.1 he with he | he
   · obtain ⟨y, hy⟩ := h.key e he
     exact ⟨y, qU _ hy⟩
   · simp at he; subst he
     exact ⟨x, by simp⟩
 · rcases List.mem_append.1 he with he | he
   · obtain ⟨e, k1, k2, k3⟩ := h.val k' x' he
     exact ⟨e, qU _ k1, k2, k3⟩
   · simp at he
     obtain ⟨rfl, rfl⟩ := he
     exact ⟨⟨k', u, n⟩, by simp, rfl, hx⟩
theorem MapR.set {k : Value} {x y : AV} {u : Value} {A B : List (Value × AV)} {A' B' : List MapEntry} {e : MapEntry} (h : MapR C w (A ++ (k, y) :: B) (A' ++ e :: B')) (he : e.key = k) (hx : VR C w x u) :
 MapR C w (A ++ (k, x) :: B) (A' ++ { e with key := k, val := u } :: B') ∧ MapR C w (A ++ B) (A' ++ B') := by
 obtain ⟨m1, m2⟩ := wt1 (f := (·.1)) (a := (k, y)) h.nd
 obtain ⟨m3, m4⟩ := wt1 (f := MapEntry.key) (a := e) h.nd'
 have hl := h.len
 simp only [dL, aY] at hl
 have key2 : ∀ e' ∈ A' ++ B', ∃ z, (e'.key, z) ∈ A ++ B := fun e' he' => by
  obtain ⟨z, hz⟩ := h.key e' (by simp only [nF, jP] at he' ⊢; rcases he' with h | h <;> simp [h])
  have hne := m3 e' he'
  simp only [nF, jP, aJ] at hz ⊢
  rcases hz with hz | ⟨hz, _⟩ | hz
  · exact ⟨z, .inl hz⟩
  · exact absurd (hz.trans he.symm) hne
  · exact ⟨z, .inr hz⟩
 have val2 : ∀ k' z, (k', z) ∈ A ++ B → ∃ e' ∈ A' ++ B', e'.key = k' ∧ VR C w z e'.val := fun k' z hz => by
  have hne := m1 _ hz
  obtain ⟨e', q1, q2, q3⟩ := h.val k' z (by simp only [nF, jP] at hz ⊢; rcases hz with h | h <;> simp [h])
  refine ⟨e', ?_, q2, q3⟩
  simp only [nF, jP] at q1 ⊢
  rcases q1 with q1 | q1 | q1
  · exact .inl q1
  · subst q1; exact absurd (q2.symm.trans he) hne
  · exact .inr q1
 refine ⟨⟨by simp only [dL, aY]; omega, by simpa using h.nd, ?_, fun e' he' => ?_, fun k' z hz => ?_⟩, ⟨by simp only [dL]; omega, m2, m4, key2, val2⟩⟩
 · have := h.nd'
   simp only [lR, cF] at this ⊢
   rw [he] at this; exact this
 · simp only [nF, jP] at he'
   have fin : e' ∈ A' ++ B' → ∃ z, (e'.key, z) ∈ A ++ (k, x) :: B := fun hm => by
    obtain ⟨z, hz⟩ := key2 e' hm
    refine ⟨z, ?_⟩
    simp only [nF, jP] at hz ⊢
    rcases hz with h | h <;> simp [h]
   rcases he' with h1 | h1 | h1
   · exact fin (qU _ h1)
   · subst h1; exact ⟨x, by simp⟩
   · exact fin (List.mem_append_right _ h1)
 · simp only [nF, jP] at hz
   have fin : (k', z) ∈ A ++ B → ∃ e' ∈ A' ++ { e with key := k, val := u } :: B', e'.key = k' ∧ VR C w z e'.val := fun hm => by
    obtain ⟨e', q1, q2, q3⟩ := val2 k' z hm
    refine ⟨e', ?_, q2, q3⟩
    simp only [nF, jP] at q1 ⊢
    rcases q1 with h | h <;> simp [h]
   rcases hz with h1 | h1 | h1
   · exact fin (qU _ h1)
   · simp only [aJ] at h1
     obtain ⟨rfl, rfl⟩ := h1
     exact ⟨{ e with key := k', val := u }, by simp, rfl, hx⟩
   · exact fin (List.mem_append_right _ h1)
theorem xu1 {α : Type} {l A B : List α} {a : α} {j : Nat} (f : α → α) (h : l = A ++ a :: B) (hj : A.length = j) : l.modify j f = A ++ f a :: B := by
 subst hj; subst h
 induction A with
 | nil => rfl
 | cons x A ih => simp only [nS, aY, List.modify_succ_cons, ih]
theorem wq9 {α : Type} {l : List α} {j : Nat} {a : α} (h : l[j]? = some a) : ∃ A B, l = A ++ a :: B ∧ A.length = j := by
 have hj : j < l.length := by
  rcases fV j l.length with h' | h'
  · exact h'
  · simp [mJ h'] at h
 refine ⟨l.take j, l.drop (j + 1), ?_, by rw [eW]; omega⟩
 have : l[j] = a := by simpa [hj] using h
 rw [← this, ← dJ hj, List.take_append_drop]
theorem stays {P : Program} {w : World} {d : TypeDesc} {k : Value} (hk : fH d k = true) : (Instr.keyThatStays k k).run P w = .ok k w := by
 have : Instr.sameBits 10000 k k = true := by
  cases d <;> cases k <;> simp_all [fH, Instr.sameBits, bytes_beq]
 simp [Instr.keyThatStays, this]
theorem kh6 {b : Nat} {es : Array MapEntry} {c : Nat} (h : w.heap[b]? = some (.map es c)) (x : TypeId × Nat) : ¬ w.shape? b = some x := by
 simp [World.shape?, h]
theorem BornOk.push {ents : List MapEntry} {clock : Nat} (h : BornOk ents clock) (k v : Value) : BornOk (ents ++ [⟨k, v, clock⟩]) (clock + 1) := by
 refine ⟨fun e he => ?_, ?_⟩
 · rcases List.mem_append.1 he with he | he
   · exact Nat.lt_succ_of_lt (h.1 e he)
   · simp at he; subst he; exact bJ _
 · rw [lR, List.nodup_append]
   refine ⟨h.2, by simp, fun a ha b hb => ?_⟩
   obtain ⟨e, he, rfl⟩ := List.mem_map.1 ha
   simp at hb; subst hb
   have := h.1 e he
   omega
theorem BornOk.mid {A B : List MapEntry} {e e' : MapEntry} {clock : Nat} (h : BornOk (A ++ e :: B) clock) (hb : e'.born = e.born) : BornOk (A ++ e' :: B) clock := by
 refine ⟨fun x hx => ?_, ?_⟩
 · simp only [nF, jP] at hx
   rcases hx with hx | rfl | hx
   · exact h.1 x (by simp [hx])
   · rw [hb]; exact h.1 e (by simp)
   · exact h.1 x (by simp [hx])
 · have := h.2
   simp only [lR, cF] at this ⊢
   rw [hb]; exact this
theorem BornOk.drop {A B : List MapEntry} {e : MapEntry} {clock : Nat} (h : BornOk (A ++ e :: B) clock) : BornOk (A ++ B) clock := by
 refine ⟨fun x hx => h.1 x ?_, ?_⟩
 · simp only [nF, jP] at hx ⊢
   rcases hx with hx | hx <;> simp [hx]
 · have := h.2
   simp only [lR, cF] at this ⊢
   rw [List.nodup_append] at this ⊢
   obtain ⟨h1, h2, h3⟩ := this
   rw [List.nodup_cons] at h2
   exact ⟨h1, h2.2, fun a ha b hb => h3 a ha b (kZ _ hb)⟩
theorem vX (hw : WR E C S w) {l : Nat} {es' : List (Value × AV)} {ents ents' : Array MapEntry} {clock clock' : Nat} (hb : C.born l) (hg : ¬ iA (S.objs.get l)) (hh : w.heap[C.mu l]? = some (.map ents clock))
 (hm : MapR C w es' ents'.toList) (hbo : BornOk ents'.toList clock') : WR E C (S.put l (.mp es')) { w with heap := w.heap.setIfInBounds (C.mu l) (.map ents' clock') } ∧ Ext C w C { w with heap := w.heap.setIfInBounds (C.mu l) (.map ents' clock') } := by
 obtain ⟨k1, k2⟩ := heap_set (o' := .map ents' clock') hh
 exact hw.put hb hg k1 k2 (by simp) ⟨⟨rfl, rfl, rfl, by simp, fun k hk => k2 k (by have := (hw.mub l hb).1; omega)⟩, trivial⟩ (fun x hx => absurd hx (kh6 hh x)) ⟨ents', clock', rfl, hm, hbo⟩
theorem ys0 (ok : E.Ok) (hw : WR E C S w) {t : TypeId} {m k x : AV} {um uk ux : Value} (hm : VR C w m um) (hk : VR C w k uk) (hx : VR C w x ux) (h : oY E t m k x S = some (v, S')) :
 Good E C w (do Instr.mapUpdate t um uk ux; pure .skip) v S' := by
 unfold oY at h
 split at h
 · rename_i kt et l kv ht hkk
   have hui : uk = kv := by
    unfold keyOf at hkk
    split at hkk
    · simp at hkk; subst hkk; exact hk.sc_inv
    · simp at hkk
   subst hui
   split at h
   · rename_i d es hd hes
     simp only [bB] at h
     split at h
     · rename_i hb
       simp only [aS] at hb
       simp only [aI, aJ] at h
       obtain ⟨rfl, rfl⟩ := h
       cases hm with
       | mp _ hbn =>
        obtain ⟨hg, ents, clock, k1, k2, kb⟩ := sC hw hbn hes
        have hck : (Instr.checkKey false 10000 kt uk).run E.P w = .ok () w := run_checkKey (P := E.P) (w := w) (ok.und _ _ hd) (sA hb.1) false 9999
        rcases k2.find hb.1 hb.2 with ⟨h1, h2, h3, h4⟩ | ⟨x', j, e, h1, h2, h3, h4, h5, h6⟩
        · have hfk := run_findKey (P := E.P) (w := w) (ok.und _ _ hd) h2
          have hR := k2.push (n := clock) h3 h4 hx
          rw [← xj6 hb.1 hb.2 h3] at hR
          obtain ⟨p1, p2⟩ := vX (ents' := ents.push ⟨uk, ux, clock⟩) (clock' := clock + 1) hw hbn hg k1 (by simpa using hR) (by simpa using kb.push uk ux)
          refine .inr (.inl ⟨C, _, ?_, rfl, p1, p2⟩)
          simp [Instr.mapUpdate, cU ok ht, getObj, setObj, Sem.run, k1, hck, hfk]
        · have hfk := run_findKey (P := E.P) (w := w) (ok.und _ _ hd) h3
          obtain ⟨A', B', q1, q2⟩ := wq9 h4
          obtain ⟨A, y, B, r1, r2, r3⟩ := yt1 (x := x) hb.1 hb.2 ⟨_, h2, rfl⟩
          have hR0 := k2
          rw [r1, q1] at hR0
          have hR := (hR0.set h5 hx).1
          obtain ⟨p1, p2⟩ := vX (es' := qE d uk x es) (ents' := ents.modify j fun e => { e with key := uk, val := ux }) (clock' := clock) hw hbn hg k1 (by
           rw [r2, Array.toList_modify, xu1 _ q1 q2]; exact hR) (by
           rw [Array.toList_modify, xu1 _ q1 q2]; rw [q1] at kb; exact kb.mid rfl)
          refine .inr (.inl ⟨C, _, ?_, rfl, p1, p2⟩)
          have hek : ((ents[j]?).map (·.key)).getD uk = uk := by
           have : ents[j]? = some e := by simpa using h4
           simp [this, h5]
          have hst := stays (P := E.P) (w := w) hb.1
          simp [Instr.mapUpdate, cU ok ht, getObj, setObj, Sem.run, k1, hck, hfk, hek, hst]
     · simp at h
   · simp at h
 · simp at h
theorem wh3 {α : Type} {l A B : List α} {a : α} {j : Nat} (h : l = A ++ a :: B) (hj : A.length = j) : l.eraseIdx j = A ++ B := by
 subst hj; subst h
 induction A with
 | nil => rfl
 | cons x A ih => simp only [nS, aY, List.eraseIdx_cons_succ, ih]
theorem wn9 (ok : E.Ok) (hw : WR E C S w) {ats : List TypeId} {ty : TypeId} {xs : List AV} {vs : Array Value} (hl : LR C w xs vs.toList) (h : sD E ats xs S = some (v, S')) :
 Good E C w (do pure (.value (← Builtin.delete_ ats.toArray ty vs))) v S' := by
 unfold sD at h
 split at h
 · rename_i t t1 l k
   obtain ⟨um, uk, rfl, hm, hk⟩ : ∃ u u', vs = #[u, u'] ∧ VR C w (.mp l) u ∧ VR C w k u' := by
    match hv : vs.toList, hl with
    | [], h => exact absurd h.1 (by simp)
    | [u], h => exact absurd h.1 (by simp)
    | [u, u'], h => exact ⟨u, u', by rw [← Array.toArray_toList (xs := vs), hv], h.head, h.tail.head⟩
    | _ :: _ :: _ :: _, h => exact absurd h.1 (by simp)
   split at h
   · rename_i kt et kv ht hkk
     have hui : uk = kv := by
      unfold keyOf at hkk
      split at hkk
      · simp at hkk; subst hkk; exact hk.sc_inv
      · simp at hkk
     subst hui
     split at h
     · rename_i d es hd hes
       simp only [bB] at h
       split at h
       · rename_i hb
         simp only [aS] at hb
         simp only [aI, aJ] at h
         obtain ⟨rfl, rfl⟩ := h
         cases hm with
         | mp _ hbn =>
          obtain ⟨hg, ents, clock, k1, k2, kb⟩ := sC hw hbn hes
          have hck : ∀ e, (Instr.checkKey e 10000 kt uk).run E.P w = .ok () w := fun e => run_checkKey (P := E.P) (w := w) (ok.und _ _ hd) (sA hb.1) e 9999
          rcases k2.find hb.1 hb.2 with ⟨h1, h2, h3, h4⟩ | ⟨x', j, e, h1, h2, h3, h4, h5, h6⟩
          · have hfk := run_findKey (P := E.P) (w := w) (ok.und _ _ hd) h2
            obtain ⟨p1, p2⟩ := vX (es' := pD d uk es) (ents' := ents) (clock' := clock) hw hbn hg k1 (by rw [xo6 hb.1 hb.2 h3]; exact k2) kb
            refine .inl ⟨.tuple #[], C, _, bQ ?_, p1, p2, .sc _⟩
            simp [Builtin.delete_, cU ok ht, getObj, setObj, Sem.run, k1, hck, hfk]
          · have hfk := run_findKey (P := E.P) (w := w) (ok.und _ _ hd) h3
            obtain ⟨A', B', q1, q2⟩ := wq9 h4
            obtain ⟨A, y, B, r1, r2, r3⟩ := yt1 (x := x') hb.1 hb.2 ⟨_, h2, rfl⟩
            have hR0 := k2
            rw [r1, q1] at hR0
            have hR := (hR0.set h5 h6).2
            obtain ⟨p1, p2⟩ := vX (es' := pD d uk es) (ents' := ents.eraseIdxIfInBounds j) (clock' := clock) hw hbn hg k1 (by
             rw [r3, Array.toList_eraseIdxIfInBounds, wh3 q1 q2]; exact hR) (by
             rw [Array.toList_eraseIdxIfInBounds, wh3 q1 q2]; rw [q1] at kb; exact kb.drop)
            refine .inl ⟨.tuple #[], C, _, bQ ?_, p1, p2, .sc _⟩
            simp [Builtin.delete_, cU ok ht, getObj, setObj, Sem.run, k1, hck, hfk]
       · simp at h
     · simp at h
   · simp at h
 · simp at h
end
end Go.Abs
