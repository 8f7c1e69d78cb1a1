/-
  The evaluator is sound: a call that it carries out, the model carries out, whatever the tape says.
-/
import Derived.Test.YthjaoinieikjdaaGreatDoorUAN
set_option linter.unusedSimpArgs false
set_option linter.unusedVariables false
namespace Go.Abs
open Go.RowKit
section
variable {E : Env} {call : eS} {nt : Nat} {ops : Array Oper} {m : PM Nat} {b0 : Nat} {T : Nat → PM AV} {U : Nat → St} {V : Nat → AV} {hist : List (Nat × St × St)} {ls : List (Nat × Nat × Option (TypeId × Nat))}
structure Agr (ops : Array Oper) (b0 : Nat) (U : Nat → St) (k : Nat) (D : Nat → Prop) (X : St) : Prop where
 mrk : Marks (U k) X
 out : ∀ l, (∀ x, x < ops.size → l ≠ b0 + x) → Same (U k) X l
 reg : ∀ j, j < ops.size → D j → Same (U (max k (j + 1))) X (b0 + j)
 unb : ∀ j, j < ops.size → ¬ D j → Same (U 0) X (b0 + j)
structure Mid (E : Env) (C0 : Ctx) (w0 : World) (nt : Nat) (ops : Array Oper) (b0 : Nat) (T : Nat → PM AV) (U : Nat → St) (V : Nat → AV) (listed : Array Bool) (a : Act) (w : World) : Prop where
 size : listed.size = ops.size
 closed : ∀ (i : Nat) (o : Oper) (e : Edge), ops[i]? = some o → listed.getD i false = true → e ∈ o.after.toList → Region.binds .any e = true → listed.getD e.on false = true
 at_ : ∃ C k tm X, FR E C X nt tm a w ∧ ExtW C0 w0 C w ∧ C0.no ≤ C.no ∧ (∀ l, ¬ C0.born l → C.born l → C0.no ≤ l) ∧ (∀ j, j < ops.size → ¬ listed.getD j false = true → ¬ C.born (b0 + j)) ∧
  k ≤ ops.size ∧ (∀ x o, ops[x]? = some o → loud E o = true → (listed.getD x false = true ↔ x < k)) ∧
  Val ops V (T 0) (fun d => listed.getD d false = true) tm ∧ Agr ops b0 U k (fun d => listed.getD d false = true) X
theorem ready_iff {listed : Array Bool} {i : Nat} : i ∈ Region.ready .any ops listed ↔ ∃ o, ops[i]? = some o ∧ listed.getD i true = false ∧ ∀ e ∈ o.after.toList, Region.binds .any e = true → listed.getD e.on false = true := by
 unfold Region.ready
 rw [List.mem_filter, List.mem_range]
 constructor
 · rintro ⟨hi, h⟩
   simp only [aS, jB] at h
   refine ⟨ops[i], by simp [hi], h.1, fun e he hb => ?_⟩
   have h2 := h.2
   simp only [Array.getElem?_eq_getElem hi, iH, Option.getD_some, Array.all_eq_true_iff_forall_mem] at h2
   have := h2 e (by simpa using he)
   rw [hb] at this
   simpa using this
 · rintro ⟨o, ho, h1, h2⟩
   have hi : i < ops.size := by
    rcases fV i ops.size with h' | h'
    · exact h'
    · rw [pS (by omega)] at ho; simp at ho
   refine ⟨hi, ?_⟩
   simp only [aS, jB, ho, iH, Option.getD_some, Array.all_eq_true_iff_forall_mem]
   refine ⟨h1, fun e he => ?_⟩
   cases hb : Region.binds .any e with
   | false => rfl
   | true => simpa using h2 e (by simpa using he) hb
theorem jc6 {listed : Array Bool} {i : Nat} (hi : i < listed.size) (d : Nat) : (listed.setIfInBounds i true).getD d false = true ↔ listed.getD d false = true ∨ d = i := by
 by_cases hd : d = i
 · subst hd; simp [hi]
 · have : ¬ i = d := fun e => hd e.symm
   simp [this, hd]
theorem Agr.idle (hc : gV call) (hf : kE call) (ht : Trace E call nt ops m b0 0 T U V hist ls) (hr : Room ops b0 U) {k i : Nat} {D D' : Nat → Prop} {X : St} (h : Agr ops b0 U k D X) (hk : k ≤ ops.size) (hi : i < ops.size) (hni : ¬ D i)
 (hnb : ¬ uW E ops T i) (hD : ∀ d, D' d ↔ D d ∨ d = i) : Agr ops b0 U k D' X := by
 refine ⟨h.mrk, h.out, fun j hj hd => ?_, fun j hj hd => ?_⟩
 · by_cases hji : j = i
   · subst hji
     have h1 := h.unb j hj hni
     have h2 := ht.none hc hf hr hj (max k (j + 1)) (by omega) (.inr hnb)
     exact h2.symm.trans h1
   · exact h.reg j hj (((hD j).1 hd).resolve_right hji)
 · exact h.unb j hj fun h' => hd ((hD j).2 (.inl h'))
theorem Agr.move (hc : gV call) (hf : kE call) (ht : Trace E call nt ops m b0 0 T U V hist ls) (hr : Room ops b0 U) {k k' : Nat} {D : Nat → Prop} {X : St} (h : Agr ops b0 U k D X) (hk : k ≤ k') (hk' : k' ≤ ops.size)
 (hq : ∀ x o, k ≤ x → x < k' → ops[x]? = some o → iD ops (T x) o = some true → loud E o = false) : Agr ops b0 U k' D X := by
 have step : ∀ n, k + n ≤ ops.size → (∀ x o, k ≤ x → x < k + n → ops[x]? = some o → iD ops (T x) o = some true → loud E o = false) →
  Marks (U k) (U (k + n)) ∧ ∀ a l, k ≤ a → a ≤ k + n → (∀ x, a ≤ x → x < k + n → l ≠ b0 + x) → Same (U a) (U (k + n)) l := by
  intro n
  induction n with
  | zero => intro _ _; exact ⟨Marks.refl _, fun a l h1 h2 _ => by rw [show a = k by omega]; exact Same.refl _ _⟩
  | succ n ih =>
   intro hle hh
   have ho : ops[k + n]? = some ops[k + n] := by simp [show k + n < ops.size by omega]
   obtain ⟨k1, k2⟩ := ih (by omega) fun x o h1 h2 => hh x o h1 (by omega)
   have st : Marks (U (k + n)) (U (k + n + 1)) ∧ ∀ l, l ≠ b0 + (k + n) → Same (U (k + n)) (U (k + n + 1)) l := by
    rcases ht.step (k + n) _ (jR _) ho with ⟨_, _, e⟩ | ⟨_, _, kk, _, _, e⟩ | ⟨gw, g1, g2, _⟩ | ⟨_, g1, g2, g3, _⟩
    · rw [e]; exact ⟨Marks.refl _, fun _ _ => Same.refl _ _⟩
    · rw [e]; exact ⟨Marks.bear _ _ _, fun l hl => Same.bear hl _⟩
    · have := hh (k + n) _ (by omega) (by omega) ho gw
      simp [loud, g1, g2] at this
    · rw [(qW (S2 := U (k + n)) _ g1 g2 g3).1]; exact ⟨Marks.refl _, fun _ _ => Same.refl _ _⟩
   refine ⟨k1.trans st.1, fun a l h1 h2 hl => ?_⟩
   by_cases ha : a = k + (n + 1)
   · rw [ha]; exact Same.refl _ _
   · exact (k2 a l h1 (by omega) fun x g1 g2 => hl x g1 (by omega)).trans (st.2 l (hl _ (by omega) (by omega)))
 obtain ⟨s1, s2⟩ := step (k' - k) (by omega) (fun x o h1 h2 => hq x o h1 (by omega))
 rw [show k + (k' - k) = k' by omega] at s1 s2
 refine ⟨s1.symm.trans h.mrk, fun l hl => ((s2 k l (aB _) hk fun x _ h2 => hl x (by omega)).symm).trans (h.out l hl), fun j hj hd => ?_, h.unb⟩
 by_cases hjk : k' ≤ j + 1
 · rw [show max k' (j + 1) = max k (j + 1) by omega]; exact h.reg j hj hd
 · rw [show max k' (j + 1) = k' by omega]
   exact (s2 (max k (j + 1)) (b0 + j) (by omega) (by omega) fun x g1 g2 => by omega).symm.trans (h.reg j hj hd)
theorem ja2 (ok : E.Ok) (hcall : mA E call) (hevo : gV call) (hfrm : kE call) {C0 : Ctx} {w0 : World} (hp : Pairs E ops) (hm : ∀ k d, bit m k d = true → Bef ops k d) (ht : Trace E call nt ops m b0 0 T U V hist ls) (hr : Room ops b0 U)
 (hb0 : C0.no ≤ b0) (hls : ls.all (kN E ops m b0 ops.size hist) = true) {Q : Exit → Act → World → Prop} {listed : Array Bool} {a : Act} {w : World} {K : Act → World → Prop} (h : Mid E C0 w0 nt ops b0 T U V listed a w) {i : Nat} (hi : i ∈ Region.ready .any ops listed)
 (hK : ∀ a w, Mid E C0 w0 nt ops b0 T U V (listed.setIfInBounds i true) a w → K a w) : wpOp E.P ops Q i K a w := by
 obtain ⟨o, ho, hun, hpre⟩ := ready_iff.1 hi
 have hin : i < ops.size := by
  rcases fV i ops.size with h' | h'
  · exact h'
  · rw [pS (by omega)] at ho; simp at ho
 have hil : i < listed.size := by rw [h.size]; exact hin
 have hni : ¬ listed.getD i false = true := by
  simp [hil] at hun ⊢; exact hun
 obtain ⟨C, k, tm, X, hf, he, hno, hnew, hunb, hk, hl, hv, hA⟩ := h.at_
 have bef1 : ∀ d, Bef ops i d → listed.getD d false = true := by
  intro d hb
  cases hb with
  | base ho' he' hb' =>
   rw [ho] at ho'; simp at ho'; subst ho'
   exact hpre _ he' hb'
  | step ho' he' hb' hb2 =>
   rw [ho] at ho'; simp at ho'; subst ho'
   exact hb2.closed (D := fun x => listed.getD x false = true) (fun x o e h1 h2 h3 h4 => h.closed x o e h1 h2 h3 h4) (hpre _ he' hb')
 have bef2 : ∀ d, Bef ops d i → ¬ listed.getD d false = true := fun d hb hd =>
  hni (hb.closed (D := fun x => listed.getD x false = true) (fun x o e h1 h2 h3 h4 => h.closed x o e h1 h2 h3 h4) hd)
 have hag := hv.agree hp (ht.val hp i (by omega)) ho hni bef1 bef2
 have hlsz : (listed.setIfInBounds i true).size = ops.size := by simp [h.size]
 have hset := jc6 hil
 have hclosed' : ∀ (j : Nat) (o : Oper) (e : Edge), ops[j]? = some o → (listed.setIfInBounds i true).getD j false = true → e ∈ o.after.toList → Region.binds .any e = true → (listed.setIfInBounds i true).getD e.on false = true := by
  intro j o' e hj hd he' hb
  rw [hset] at hd ⊢
  rcases hd with hd | rfl
  · exact .inl (h.closed j o' e hj hd he' hb)
  · rw [ho] at hj; simp at hj; subst hj
    exact .inl (hpre e he' hb)
 have hput := ht.put i o (jR _) ho
 have loudlt : ∀ x o', ops[x]? = some o' → loud E o' = true → loud E o = true → (x < k ↔ x < i) := by
  intro x o' hx hx1 ho1
  rw [← hl x o' hx hx1]
  constructor
  · intro hd
    rcases Nat.lt_trichotomy x i with h1 | h1 | h1
    · exact h1
    · subst h1; exact absurd hd hni
    · exact absurd hd (bef2 x (hp.loud i x o o' h1 ho hx ho1 hx1))
  · intro h1
    exact bef1 x (hp.loud x i o' o h1 hx ho hx1 ho1)
 have hki : loud E o = true → k ≤ i := fun ho1 => by
  rcases fV i k with h' | h'
  · exact absurd ((hl i o ho ho1).2 h') hni
  · exact h'
 have quietTo : loud E o = true → ∀ x o', k ≤ x → x < i → ops[x]? = some o' → loud E o' = false := by
  intro ho1 x o' h1 h2 hx
  cases hq : loud E o' with
  | false => rfl
  | true => have := (loudlt x o' hx hq ho1).2 h2; omega
 have listed' : ∀ k', (∀ x o', ops[x]? = some o' → loud E o' = true → (x < k' ↔ x < k ∨ x = i)) → (∀ x o', ops[x]? = some o' → loud E o' = true → ((listed.setIfInBounds i true).getD x false = true ↔ x < k')) := by
  intro k' hk' x o' hx hx1
  rw [hset, hk' x o' hx hx1, hl x o' hx hx1]
 have hi1 : loud E o = true → ∀ x o', ops[x]? = some o' → loud E o' = true → (x < i + 1 ↔ x < k ∨ x = i) := fun hq x o' hx hx1 => by
  have := loudlt x o' hx hx1 hq
  omega
 have hk1 : loud E o = false → ∀ x o', ops[x]? = some o' → loud E o' = true → (x < k ↔ x < k ∨ x = i) := fun hq x o' hx hx1 => by
  constructor
  · exact fun h1 => .inl h1
  · rintro (h1 | rfl)
    · exact h1
    · rw [ho] at hx; simp at hx; subst hx
      rw [hq] at hx1; cases hx1
 have finish : ∀ (C' : Ctx) (u : Value) (w' : World) (X' : St) (k' : Nat), WR E C' X' w' → ExtW C w C' w' → C.no ≤ C'.no → (∀ l, ¬ C.born l → C'.born l → C.no ≤ l ∨ l = b0 + i) → VR C' w' (V i) u →
  k' ≤ ops.size → (∀ x o', ops[x]? = some o' → loud E o' = true → (x < k' ↔ x < k ∨ x = i)) → Agr ops b0 U k' (fun d => (listed.setIfInBounds i true).getD d false = true) X' → K (a.put o.dst u) w' := by
  intro C' u w' X' k' k1 k2 k2a k2b k3 k4 k5 k6
  obtain ⟨tm', hp'⟩ : ∃ tm', gC nt o.dst (V i) tm = some tm' := by
   cases hd : o.dst with
   | none => exact ⟨tm, rfl⟩
   | some d =>
    rw [hd] at hput
    simp only [gC] at hput ⊢
    cases hb : Nat.blt d nt with
    | false => rw [hb] at hput; simp at hput
    | true => exact ⟨_, rfl⟩
  obtain ⟨q1, q2⟩ := (show TR C' w' tm a.tmps from fun i x hx => (hf.tr i x hx).ext k2).put hf.size k3 hp'
  have hf' : FR E C' X' nt tm' (a.put o.dst u) w' := ⟨k1, q1, q2, by rw [Act.put_defers']; exact hf.defers⟩
  have hval' : Val ops V (T 0) (fun d => (listed.setIfInBounds i true).getD d false = true) tm' := hv.step hp ho hni hp' hset
  have hCno : C.no = X.no := hf.wr.no
  have hXno : b0 + ops.size ≤ C.no := by rw [hCno, hA.mrk.no]; exact ht.no hevo hr k hk
  refine hK _ _ ⟨hlsz, hclosed', C', k', tm', X', hf', he.trans k2, cK hno k2a, fun l h1 h2 => ?_, fun j hj hnj hbj => ?_, k4, listed' _ k5, hval', k6⟩
  · by_cases hlb : C.born l
    · exact hnew l h1 hlb
    · rcases k2b l hlb h2 with h3 | h3 <;> omega
  · have hnj' : ¬ listed.getD j false = true ∧ j ≠ i := by
     constructor
     · exact fun h' => hnj ((hset j).2 (.inl h'))
     · exact fun h' => hnj ((hset j).2 (.inr h'))
    rcases k2b _ (hunb j hj hnj'.1) hbj with h3 | h3 <;> omega
 unfold wpOp
 simp only [ho]
 rcases ht.step i o (jR _) ho with ⟨h1, h2, h3⟩ | ⟨h1, g1, mk, g2, g3, g4⟩ | ⟨h1, g1, g2, S1, g3, g4, g5⟩ | ⟨h1, g1, g2, g3, g4⟩
 · -- dB by
   have hnb : ¬ uW E ops T i := by
    rintro ⟨o', q1, q2, _⟩
    rw [ho] at q1; simp at q1; subst q1
    rw [h1] at q2; simp at q2
   have hwT := h1
   rw [← xC hag] at h1
   have hwant := uC hf.tr h1
   simp only [hwant, Bool.false_eq_true, dG]
   have hA1 := hA.idle hevo hfrm ht hr hk hin hni hnb hset
   cases hq : loud E o with
   | false => exact finish C Go.undef w X k hf.wr (ExtW.refl _ _) (aB _) (fun l h1 h2 => absurd h2 h1) (by rw [h2]; exact .sc _) hk (hk1 hq) hA1
   | true =>
    refine finish C Go.undef w X (i + 1) hf.wr (ExtW.refl _ _) (aB _) (fun l h1 h2 => absurd h2 h1) (by rw [h2]; exact .sc _) (by omega) (hi1 hq) (hA1.move hevo hfrm ht hr (by have := hki hq; omega) (by omega) fun x o' q1 q2 hx hw => ?_)
    by_cases hxi : x = i
    · rw [hxi, ho] at hx; simp at hx; subst hx
      rw [hxi, hwT] at hw; simp at hw
    · exact quietTo hq x o' q1 (by omega) hx
 · -- something is made
   have hq : loud E o = false := by simp [loud, g1]
   have hmk : fQ E tm o = some mk := by rw [ja1 o (vT hag)]; exact g2
   have hwant := uC hf.tr (by rw [xC hag]; exact h1)
   simp only [hwant, fM]
   refine .inl ?_
   obtain ⟨u, C', w', q1, q2, q3, q4, q5, q6⟩ := kp8 ok o hf.wr hf.tr hmk (b0 + i) X.no (hunb i hin hni) (aB _) (by rw [hA.mrk.no]; have := ht.no hevo hr k hk; omega)
   have hgood : Good E C w (execOp a.eval o) (V i) { X.bear (b0 + i) mk with no := X.no } ∨ True := .inr trivial
   unfold Oper.wp
   rw [q1]
   refine finish C' u w' _ k q2 q3 (by rw [q5, hf.wr.no]; exact aB _) (fun l r1 r2 => .inr ((q6 l r2).resolve_left r1)) (by rw [g3]; exact q4) hk (hk1 hq) ?_
   have hX : ({ X.bear (b0 + i) mk with no := X.no } : St) = X.bear (b0 + i) mk := rfl
   rw [hX]
   refine ⟨hA.mrk.trans (Marks.bear _ _ _), fun l hl' => (hA.out l hl').trans (Same.bear (hl' i hin) _), fun j hj hd => ?_, fun j hj hd => ?_⟩
   · by_cases hji : j = i
     · subst hji
       have h0 := hA.unb j hj hni
       have hfl : Same (U (j + 1)) (U (max k (j + 1))) (b0 + j) := by
        have := ht.float (by simp [dF, ho, g1]) hevo hfrm hr hj (max k (j + 1) - (j + 1)) (by omega) (fun x o' r1 r2 hx hx1 => by
         cases hb : bit m x j with
         | false => rfl
         | true => exact absurd ((hl x o' hx hx1).2 (by omega)) (bef2 x (hm _ _ hb)))
        rw [show j + 1 + (max k (j + 1) - (j + 1)) = max k (j + 1) by omega] at this
        exact this
       refine hfl.symm.trans ?_
       rw [g4]
       have hj0 := ht.none hevo hfrm hr hj j (by omega) (.inl (aB _))
       refine ⟨by simp [St.bear, PM.get_set], ?_⟩
       simp only [St.bear]
       cases mk.sh with
       | some p => simp [PM.get_set]
       | none => simp only; rw [h0.2, hj0.2]
     · exact (hA.reg j hj (((hset j).1 hd).resolve_right hji)).trans (Same.bear (by omega) _)
   · have hji : j ≠ i := fun e => hd ((hset j).2 (.inr e))
     exact (hA.unb j hj fun h' => hd ((hset j).2 (.inl h'))).trans (Same.bear (by omega) _)
 · -- a loud one
   have hq : loud E o = true := by simp [loud, g1, g2]
   have hki' := hki hq
   have hwant := uC hf.tr (by rw [xC hag]; exact h1)
   simp only [hwant, fM]
   refine .inl ?_
   rw [← xk9 o (vT hag)] at g3
   have hnoU := ht.no hevo hr i (by omega)
   obtain ⟨s1, s2⟩ : Marks (U k) (U i) ∧ ∀ l, (∀ x, k ≤ x → x < i → l ≠ b0 + x) → Same (U k) (U i) l := by
    have := ht.still (a := k) (i - k) (by omega) fun x o' r1 r2 hx => quietTo hq x o' r1 (by omega) hx
    rw [show k + (i - k) = i by omega] at this
    exact this
   have regi : ∀ j, j < i → Same (U (max k (j + 1))) (U i) (b0 + j) := fun j hj => by
    have := (ht.still (a := max k (j + 1)) (i - max k (j + 1)) (by omega) fun x o' r1 r2 hx => quietTo hq x o' (by omega) (by omega) hx).2 (b0 + j) (fun x r1 r2 => by omega)
    rw [show max k (j + 1) + (i - max k (j + 1)) = i by omega] at this
    exact this
   have early : ∀ j, i ≤ j → j < ops.size → Same (U 0) (U i) (b0 + j) := fun j hij hj => ht.none hevo hfrm hr hj i (by omega) (.inl hij)
   have outN : ∀ j, i ≤ j → ¬ outOf (dF E ops) m b0 i (U i) (b0 + j) := fun j hij => by rintro ⟨x, r1, r2, _⟩; omega
   have outO : ∀ l, (∀ x, x < ops.size → l ≠ b0 + x) → ¬ outOf (dF E ops) m b0 i (U i) l := fun l hl' => by rintro ⟨x, r1, r2, _⟩; exact hl' x (by omega) r2
   let Dd : Nat → Prop := fun l => (∃ j, j < ops.size ∧ l = b0 + j) ∧ iA (((U i).masked (dF E ops) m b0 i).objs.get l)
   have seen : ∀ j, j < ops.size → ¬ Dd (b0 + j) → j < i ∧ bit m i j = true ∧ ¬ outOf (dF E ops) m b0 i (U i) (b0 + j) := fun j hj hd => by
    have hacc : ¬ iA (((U i).masked (dF E ops) m b0 i).objs.get (b0 + j)) := fun h' => hd ⟨⟨j, hj, rfl⟩, h'⟩
    have hji : j < i := by
     rcases fV j i with h' | h'
     · exact h'
     · exfalso
       apply hacc
       rw [lV (outN j h'), (early j h' hj).1]
       exact hr.free j hj
    have hno' : ¬ outOf (dF E ops) m b0 i (U i) (b0 + j) := fun h' => hacc (by rw [tC h']; exact .inr rfl)
    refine ⟨hji, ?_, hno'⟩
    cases hb : bit m i j with
    | true => rfl
    | false =>
     exfalso
     rw [lV hno'] at hacc
     cases hmk : dF E ops j with
     | true => exact hno' ⟨j, hji, rfl, by simp [hid, hmk, hb], fun e => hacc (.inl e)⟩
     | false =>
      have hnb : ¬ uW E ops T j := by
       rintro ⟨o', q1, _, q3⟩
       simp [dF, q1, q3] at hmk
      rw [(ht.none hevo hfrm hr hj i (by omega) (.inr hnb)).1] at hacc
      exact hacc (hr.free j hj)
   have hfr : Frm Dd ((U i).masked (dF E ops) m b0 i) X := by
    have hmk := s1.symm.trans hA.mrk
    have both : ∀ l, ¬ Dd l → Same ((U i).masked (dF E ops) m b0 i) X l := fun l hd => by
     by_cases hreg : ∃ j, j < ops.size ∧ l = b0 + j
     · obtain ⟨j, hj, rfl⟩ := hreg
       obtain ⟨r1, r2, r3⟩ := seen j hj hd
       have h1 := (regi j r1).symm.trans (hA.reg j hj (bef1 j (hm _ _ r2)))
       exact ⟨by rw [lV r3]; exact h1.1, h1.2⟩
     · have hl' : ∀ x, x < ops.size → l ≠ b0 + x := fun x hx e => hreg ⟨x, hx, e⟩
       have h1 := (s2 l fun x _ hx => hl' x (by omega)).symm.trans (hA.out l hl')
       exact ⟨by rw [lV (outO l hl')]; exact h1.1, h1.2⟩
    exact ⟨hmk.no, hmk.nid, hmk.sp, hmk.ity, hmk.wr, fun l hd => (both l hd).1, fun l hd => (both l hd).2, fun l hd => hd.2, fun l hd => by
     obtain ⟨⟨j, hj, rfl⟩, _⟩ := hd
     show b0 + j < (U i).no
     omega⟩
   obtain ⟨X', p1, p2⟩ := vE hfrm o hfr g3
   refine (xb0 ok hcall o hf.wr hf.tr p1).wp fun u C' w' k1 k2 k3 => finish C' u w' X' (i + 1) k1 k2.toExtW k2.no (fun l r1 r2 => .inl (k2.newer l r1 r2)) k3 (by omega) (hi1 hq) ?_
   have shutU : ∀ l, Dd l → Same (U i) (U (i + 1)) l := fun l hd => by
    obtain ⟨⟨j, hj, rfl⟩, hin'⟩ := hd
    exact Trace.shut hfrm g3 g4 (by omega) hin'
   have openU : ∀ l, ¬ Dd l → Same (U (i + 1)) X' l := fun l hd => by
    have hno' : ¬ outOf (dF E ops) m b0 i (U i) l := fun h' => hd ⟨by obtain ⟨x, r1, r2, _⟩ := h'; exact ⟨x, by omega, r2⟩, by rw [tC h']; exact .inr rfl⟩
    rw [g4]
    exact ⟨by rw [rS hno']; exact p2.frm.obj l hd, p2.frm.shp l hd⟩
   have shutX : ∀ l, Dd l → Same X X' l := fun l hd => p2.kx l hd
   refine ⟨?_, fun l hl' => openU l (fun hd => by obtain ⟨⟨j, hj, e⟩, _⟩ := hd; exact hl' j hj e), fun j hj hd => ?_, fun j hj hd => ?_⟩
   · rw [g4]
     exact ⟨p2.frm.no, p2.frm.nid, p2.frm.sp, p2.frm.ity, p2.frm.wr⟩
   · by_cases hji : j = i
     · subst hji
       have hDd : Dd (b0 + j) := ⟨⟨j, hj, rfl⟩, by rw [lV (outN j (aB _)), (early j (aB _) hj).1]; exact hr.free j hj⟩
       rw [show max (j + 1) (j + 1) = j + 1 by omega]
       exact (shutU _ hDd).symm.trans ((early j (aB _) hj).symm.trans ((hA.unb j hj hni).trans (shutX _ hDd)))
     · have hd' := ((hset j).1 hd).resolve_right hji
       rcases fV j i with hlt | hge
       · rw [show max (i + 1) (j + 1) = i + 1 by omega]
         by_cases hDd : Dd (b0 + j)
         · exact (shutU _ hDd).symm.trans ((regi j hlt).symm.trans ((hA.reg j hj hd').trans (shutX _ hDd)))
         · exact openU _ hDd
       · have hDd : Dd (b0 + j) := ⟨⟨j, hj, rfl⟩, by rw [lV (outN j hge), (early j hge hj).1]; exact hr.free j hj⟩
         have h1 := hA.reg j hj hd'
         rw [show max k (j + 1) = j + 1 by omega] at h1
         rw [show max (i + 1) (j + 1) = j + 1 by omega]
         exact h1.trans (shutX _ hDd)
   · have hji : j ≠ i := fun e => hd ((hset j).2 (.inr e))
     have hd' : ¬ listed.getD j false = true := fun h' => hd ((hset j).2 (.inl h'))
     have hDd : Dd (b0 + j) := Classical.byContradiction fun hD => by
      obtain ⟨r1, r2, r3⟩ := seen j hj hD
      exact hd' (bef1 j (hm _ _ r2))
     exact (hA.unb j hj hd').trans (shutX _ hDd)
 · -- a quiet one
   have hq : loud E o = false := by simp [loud, g1, g2]
   have hnb : ¬ uW E ops T i := by
    rintro ⟨o', q1, q2, q3⟩
    rw [ho] at q1; simp at q1; subst q1
    rw [g1] at q3; cases q3
   have hwant := uC hf.tr (by rw [xC hag]; exact h1)
   simp only [hwant, fM]
   refine .inl ?_
   rw [← xk9 o (vT hag)] at g3
   obtain ⟨q1, q2⟩ := ka1 (S2 := X) o g1 g2 g3
   have hobj : ∀ l, eQ E tm o = some l → Like E (oC E tm o) (U i) X l := by
    intro l hll
    rw [xm0 hag] at hll
    rw [xy5 hag]
    have hin2 := g4 l hll
    have hchk := List.all_eq_true.1 hls _ hin2
    simp only [kN, aS] at hchk
    obtain ⟨hc1, hc2⟩ := hchk
    have key : ∀ x o', ops[x]? = some o' → (k ≤ x ∧ x < i ∨ i ≤ x ∧ x < k) → (x, U x, U (x + 1)) ∈ hist → (l < (U x).no ∧ (U x).ver l = (U (x + 1)).ver l) ∨ sI E (oC E (T i) o) l (U x) (U (x + 1)) = true := by
     intro x o' hx hxx hmem
     have hc := List.all_eq_true.1 hc1 _ hmem
     simp only [eF, aS] at hc
     rcases hc with ((hb | hb) | hb) | hb
     · have hB := hm _ _ hb
       have hlt := hB.lt hp
       have hD := bef1 x hB
       have hx1 : loud E o' = true := ht.hl _ hmem o' hx
       have := (hl x o' hx hx1).1 hD
       omega
     · have hB := hm _ _ hb
       have hlt := hB.lt hp
       have hD := bef2 x hB
       have hx1 : loud E o' = true := ht.hl _ hmem o' hx
       have : ¬ x < k := fun h' => hD ((hl x o' hx hx1).2 h')
       omega
     · exact .inl ⟨bW hb.1, bA hb.2⟩
     · exact .inr hb
    have span : ∀ a b, a ≤ b → b ≤ ops.size → (∀ x, a ≤ x → x < b → l ≠ b0 + x) → (∀ x, a ≤ x → x < b → (k ≤ x ∧ x < i ∨ i ≤ x ∧ x < k)) → Like E (oC E (T i) o) (U a) (U b) l := fun a b hab hb hr' hx => by
     have := ht.kept hevo (a := a) (l := l) (b - a) (by omega) (fun x r1 r2 => hr' x r1 (by omega)) fun x o' r1 r2 hxo hmem => key x o' hxo (hx x r1 (by omega)) hmem
     rw [show a + (b - a) = b by omega] at this
     exact this
    by_cases hreg : ∃ j, j < ops.size ∧ l = b0 + j
    · obtain ⟨j, hj, rfl⟩ := hreg
      simp only [eF] at hc2
      have hcase : dF E ops j = false ∨ bit m i j = true := by
       rcases hc2 with ((hb | hb) | hb) | hb
       · have : b0 + j < b0 := bW hb
         omega
       · have : b0 + ops.size ≤ b0 + j := bW hb
         omega
       · rw [show b0 + j - b0 = j by omega] at hb
         exact .inl (by simpa using hb)
       · exact .inr (by rwa [show b0 + j - b0 = j by omega] at hb)
      rcases hcase with hmk | hbit
      · have hnb' : ¬ uW E ops T j := by
         rintro ⟨o', q1, _, q3⟩
         simp [dF, q1, q3] at hmk
        have e1 := ht.none hevo hfrm hr hj i (by omega) (.inr hnb')
        by_cases hd : listed.getD j false = true
        · exact .inl ((e1.symm.trans (ht.none hevo hfrm hr hj (max k (j + 1)) (by omega) (.inr hnb'))).trans (hA.reg j hj hd))
        · exact .inl (e1.symm.trans (hA.unb j hj hd))
      have hB := hm _ _ hbit
      have hji := hB.lt hp
      have h1 := hA.reg j hj (bef1 j hB)
      rcases Nat.le_total (max k (j + 1)) i with hle | hle
      · exact (span (max k (j + 1)) i hle (by omega) (fun x r1 r2 => by omega) (fun x r1 r2 => .inl ⟨by omega, r2⟩)).symm.trans (.inl h1)
      · exact (span i (max k (j + 1)) hle (by omega) (fun x r1 r2 => by omega) (fun x r1 r2 => .inr ⟨r1, by omega⟩)).trans (.inl h1)
    · have hl' : ∀ x, x < ops.size → l ≠ b0 + x := fun x hx e => hreg ⟨x, hx, e⟩
      have h1 := hA.out l hl'
      rcases Nat.le_total k i with hle | hle
      · exact (span k i hle (by omega) (fun x r1 r2 => hl' x (by omega)) (fun x r1 r2 => .inl ⟨r1, r2⟩)).symm.trans (.inl h1)
      · exact (span i k hle hk (fun x r1 r2 => hl' x (by omega)) (fun x r1 r2 => .inr ⟨r1, r2⟩)).trans (.inl h1)
   exact (xb0 ok hcall o hf.wr hf.tr (q2 hobj)).wp fun u C' w' k1 k2 k3 => finish C' u w' X k k1 k2.toExtW k2.no (fun l r1 r2 => .inl (k2.newer l r1 r2)) k3 hk (hk1 hq) (hA.idle hevo hfrm ht hr hk hin hni hnb hset)
theorem kt8 {l : List Bool} : ∀ {i : Nat}, l[i]? = some false → (l.set i true).count false + 1 = l.count false := by
 induction l with
 | nil => intro i h; simp at h
 | cons b l ih =>
  intro i h
  cases i with
  | zero => simp at h; subst h; simp
  | succ i =>
   simp at h
   have := ih h
   simp [List.count_cons]
   omega
theorem WR.congr {S S2 : St} {C : Ctx} {w : World} (h : WR E C S w) (k : Marks S S2) (k2 : ∀ l, Same S S2 l) : WR E C S2 w := by
 have sp : ∀ i, S2.isSpent i = S.isSpent i := fun i => by simp only [St.isSpent, k.sp]
 refine ⟨by rw [k.no]; exact h.no, fun l hl => h.unb l (by rw [k.no] at hl; exact hl), by rw [k.nid]; exact h.nid, by rw [k.nid]; exact h.nid1, h.bs, fun l l' hl hl' ha ha' => ?_, h.mub, fun l hl => ?_, fun l hl => ?_, fun i h0 hi => ?_, fun i j h0 hi h0' hj hsi hsj => ?_, h.glob,
  fun i hi => ?_, fun l x hl hx => ?_, fun l hl => ?_, fun i T h0 hi hT => ?_⟩
 · rw [(k2 l).1] at ha
   rw [(k2 l').1] at ha'
   exact h.inj l l' hl hl' ha ha'
 · rw [(k2 l).1]; exact h.objs l hl
 · rw [(k2 l).1]; exact h.unob l hl
 · rw [sp]; exact h.ids i h0 hi
 · rw [sp] at hsi hsj
   exact h.idi i j h0 hi h0' hj hsi hsj
 · rw [k.nid] at hi
   rw [sp, k.ity]
   exact h.fresh i hi
 · rw [(k2 l).2] at hx; exact h.shp l x hl hx
 · rw [(k2 l).2]; exact h.shu l hl
 · rw [k.ity] at hT; exact h.ity i T h0 hi hT
theorem ExtW.raise (C : Ctx) (n : Nat) (w : World) : ExtW C w { C with no := n } w :=
 ⟨fun _ h => ⟨h, rfl, rfl, rfl, rfl⟩, aB _, fun _ _ => rfl, fun i h1 h2 => absurd h2 (by show ¬ i < C.nid; omega), fun l h1 h2 => absurd h2 h1, aB _, fun _ _ => aB _, fun _ _ _ _ _ => rfl, rfl, Bel.refl _ _, fun _ _ h => h, rfl⟩
theorem WR.raise {S : St} {C : Ctx} {w : World} (h : WR E C S w) {n : Nat} (hn : S.no ≤ n) : WR E { C with no := n } { S with no := n } w := by
 have e := ExtW.raise C n w
 refine ⟨rfl, fun l hl => h.unb l (cK hn hl), h.nid, h.nid1, h.bs, h.inj, h.mub, fun l hl => (h.objs l hl).ext e hl, h.unob, fun i h0 hi => ?_, h.idi, fun g cs hg => (h.glob g cs hg).ext e, h.fresh, h.shp, h.shu, h.ity⟩
 obtain ⟨k1, k2, k3, k4, k5, k6, k7, k8⟩ := h.ids i h0 hi
 exact ⟨k1, k2, k3, k4, k5, k6, k7, k8⟩
theorem mid_any (ok : E.Ok) (hcall : mA E call) (hevo : gV call) (hfrm : kE call) {C0 : Ctx} {w0 : World} (hp : Pairs E ops) (hm : ∀ k d, bit m k d = true → Bef ops k d) (ht : Trace E call nt ops m b0 0 T U V hist ls) (hr : Room ops b0 U)
 (hb0 : C0.no ≤ b0) (hls : ls.all (kN E ops m b0 ops.size hist) = true) {Q : Exit → Act → World → Prop} (hq : ∀ C' a' w', FR E C' (U ops.size) nt (T ops.size) a' w' → Ext C0 w0 C' w' → Q .normal a' w') :
 ∀ (fuel : Nat) (listed : Array Bool) (a : Act) (w : World), listed.toList.count false = fuel → Mid E C0 w0 nt ops b0 T U V listed a w → wpAny E.P .any ops Q fuel listed a w := by
 have all_of_ready : ∀ (listed : Array Bool) (a : Act) (w : World), Mid E C0 w0 nt ops b0 T U V listed a w → Region.ready .any ops listed = [] → ∀ i, i < ops.size → listed.getD i false = true := by
  intro listed a w h hr i
  induction i using Nat.strongRecOn with
  | _ i ih =>
   intro hi
   have hil : i < listed.size := by rw [h.size]; exact hi
   cases hc : listed.getD i false with
   | true => rfl
   | false =>
    exfalso
    have : i ∈ Region.ready .any ops listed := ready_iff.2 ⟨ops[i], by simp [hi], by simp [hil] at hc ⊢; exact hc, fun e he hb => by
     have hlt := hp.edge i ops[i] e (by simp [hi]) he hb
     exact ih e.on hlt (by omega)⟩
    rw [hr] at this; simp at this
 have done : ∀ (listed : Array Bool) (a : Act) (w : World), Mid E C0 w0 nt ops b0 T U V listed a w → (∀ i, i < ops.size → listed.getD i false = true) → Q .normal a w := by
  intro listed a w h hall
  obtain ⟨C, k, tm, X, hf, he, hno, hnew, hunb, hk, hl, hv, hA⟩ := h.at_
  have hA2 : Agr ops b0 U ops.size (fun d => listed.getD d false = true) X := hA.move hevo hfrm ht hr hk (aB _) fun x o h1 h2 hx _ => by
   cases hqq : loud E o with
   | false => rfl
   | true => have := (hl x o hx hqq).1 (hall x h2); omega
  have hsame : ∀ l, Same (U ops.size) X l := fun l => by
   by_cases hreg : ∃ j, j < ops.size ∧ l = b0 + j
   · obtain ⟨j, hj, rfl⟩ := hreg
     have := hA2.reg j hj (hall j hj)
     rwa [show max ops.size (j + 1) = ops.size by omega] at this
   · exact hA2.out l fun x hx e => hreg ⟨x, hx, e⟩
  have hwr : WR E C (U ops.size) w := hf.wr.congr hA2.mrk.symm fun l => (hsame l).symm
  have hvE := ht.val hp ops.size (aB _)
  have hget : ∀ t, getT tm t = getT (T ops.size) t := by
   intro t
   by_cases hw : ∃ (d : Nat) (o : Oper), ops[d]? = some o ∧ o.dst = some t
   · obtain ⟨d, o, hd, hdt⟩ := hw
     have hdl : d < ops.size := by
      rcases fV d ops.size with h' | h'
      · exact h'
      · rw [pS (by omega)] at hd; simp at hd
     rw [hv.done d o t hd hdt (hall d hdl), hvE.done d o t hd hdt hdl]
   · have hn : ∀ (d : Nat) (o : Oper), ops[d]? = some o → o.dst = some t → False := fun d o h1 h2 => hw ⟨d, o, h1, h2⟩
     rw [hv.old t fun d o h1 h2 _ => hn d o h1 h2, hvE.old t fun d o h1 h2 _ => hn d o h1 h2]
  refine hq C a w ⟨hwr, fun i x hx => ?_, hf.size, hf.defers⟩ ⟨he, hno, hnew⟩
  have h1 := hf.tr.getT i
  rw [hget i] at h1
  unfold getT at h1
  rw [hx] at h1
  exact h1
 intro fuel
 induction fuel with
 | zero =>
  intro listed a w hc h
  have hall : ∀ i, i < ops.size → listed.getD i false = true := by
   intro i hi
   have hil : i < listed.size := by rw [h.size]; exact hi
   rw [List.count_eq_zero] at hc
   cases hcc : listed.getD i false with
   | true => rfl
   | false =>
    exfalso
    apply hc
    have : listed[i] = false := by simpa [hil] using hcc
    rw [← this]
    simp
  refine ⟨?_, done listed a w h hall⟩
  rw [List.eq_nil_iff_forall_not_mem]
  intro i hi
  obtain ⟨o, ho, hun, _⟩ := ready_iff.1 hi
  have hin : i < ops.size := by
   rcases fV i ops.size with h' | h'
   · exact h'
   · rw [pS (by omega)] at ho; simp at ho
  have h1 := hall i hin
  have hil : i < listed.size := by rw [h.size]; exact hin
  simp [hil] at h1 hun
  rw [h1] at hun; simp at hun
 | succ fuel ih =>
  intro listed a w hc h
  refine ⟨fun hr => done listed a w h (all_of_ready listed a w h hr), fun i hi => ?_⟩
  refine ja2 ok hcall hevo hfrm hp hm ht hr hb0 hls h hi fun a' w' h' => ih _ a' w' ?_ h'
  obtain ⟨o, ho, hun, _⟩ := ready_iff.1 hi
  have hin : i < ops.size := by
   rcases fV i ops.size with h' | h'
   · exact h'
   · rw [pS (by omega)] at ho; simp at ho
  have hil : i < listed.size := by rw [h.size]; exact hin
  have hf : listed.toList[i]? = some false := by
   simp [hil] at hun ⊢; exact hun
  have := kt8 hf
  simp only [Array.toList_setIfInBounds]
  omega
end
structure EvoX (E : Env) : Prop where
 evo : ∀ f g, E.X f = some g → ∀ args S r S', g args S = some (r, S') → Evo S S'
theorem xV (n i : Nat) : (Array.replicate n false).getD i false = false := by
 simp only [Array.getD_eq_getD_getElem?, Array.getElem?_replicate]
 split <;> rfl
theorem draw_ok {E : Env} (ok : E.Ok) {call : eS} (hcall : mA E call) (hevo : gV call) (hfrm : kE call) (nt id : Nat) (ops : Array Oper) (Q : Exit → Act → World → Prop) (tm tm' : PM AV) (S S' : St) (C : Ctx) (a : Act) (w : World)
 (h : lK E call nt ops tm S = some (tm', S')) (hf : FR E C S nt tm a w) (hq : ∀ C' a' w', FR E C' S' nt tm' a' w' → Ext C w C' w' → Q .normal a' w') : (Code.region id ops true).wp E.P Q a w := by
 simp only [lK, bB] at h
 split at h
 · rename_i hall
   obtain ⟨hp, hm⟩ := Pairs.of hall
   split at h
   · rename_i tm1 S1 hist ls hgo
     split at h
     · rename_i hls
       simp only [aI, aJ] at h
       obtain ⟨rfl, rfl⟩ := h
       obtain ⟨T, U, V, ht, h1, h2, h3⟩ := wq6 ops.toList 0 tm tm1 _ S1 hist ls rfl hgo
       obtain ⟨h4, h5⟩ := h3 (jR _)
       have hr : Room ops S.no U := ⟨by rw [h2]; exact aB _, fun j hj => by rw [h2]; exact hf.wr.unob _ (hf.wr.unb _ (oS _ _))⟩
       refine wp_region_any ok.mixed ?_
       refine mid_any (C0 := C) (w0 := w) ok hcall hevo hfrm hp hm ht hr (by rw [hf.wr.no]; exact aB _) hls (fun C' a' w' f e => hq C' a' w' (by rw [h4, h5] at f; exact f) e) ops.size _ _ _ (by simp) ⟨by simp, ?_, ?_⟩
       · intro i o e _ hd
         rw [xV] at hd; simp at hd
       · have hwr := hf.wr.drew.raise (n := S.no + ops.size) (oS _ _)
         have hex : ExtW C w { C with no := S.no + ops.size } w.drew := (Ext.drew C w).toExtW.trans (ExtW.raise C _ _)
         refine ⟨{ C with no := S.no + ops.size }, 0, tm, { S with no := S.no + ops.size }, ⟨hwr, fun i x hx => (hf.tr i x hx).ext hex, hf.size, hf.defers⟩, hex, by rw [hf.wr.no]; exact oS _ _, fun l h1 h2 => absurd h2 h1, fun j _ _ => hf.wr.unb _ (oS _ _), jR _, fun x o _ _ => by rw [xV]; simp, ?_, ?_⟩
         · rw [h1]
           exact ⟨fun d o t _ _ hd => by rw [xV] at hd; simp at hd, fun t _ => rfl⟩
         · rw [← h2]
           exact ⟨Marks.refl _, fun _ _ => Same.refl _ _, fun j _ hd => by rw [xV] at hd; simp at hd, fun _ _ _ => Same.refl _ _⟩
     · simp at h
   · simp at h
 · simp at h
end Go.Abs
