/-
  The evaluator is sound: a call that it carries out, the model carries out, whatever the tape says.
-/
import Derived.Test.YtpahkfadibcdgaaAbs11
namespace Go.Abs
open Go.RowKit

section
variable {E : Env} {call : CallFn} {nt : Nat} {ops : Array Oper} {T : Nat → PM AV} {U : Nat → St} {V : Nat → AV} {hist : List (Nat × St × St)} {ls : List (Nat × Nat)}

/-- What is known in the middle of a region. -/
structure Mid (E : Env) (C0 : Ctx) (w0 : World) (nt : Nat) (ops : Array Oper) (T : Nat → PM AV) (U : Nat → St) (V : Nat → AV) (listed : Array Bool) (a : Act) (w : World) : Prop where
  size : listed.size = ops.size
  closed : ∀ (i : Nat) (o : Oper) (e : Edge), ops[i]? = some o → listed.getD i false = true → e ∈ o.after.toList → Region.binds .any e = true → listed.getD e.on false = true
  at_ : ∃ C k tm, FR E C (U k) nt tm a w ∧ Ext C0 w0 C w ∧ k ≤ ops.size ∧ (∀ x o, ops[x]? = some o → loud o.op = true → (listed.getD x false = true ↔ x < k)) ∧
    Val ops V (T 0) (fun d => listed.getD d false = true) tm

theorem ready_iff {listed : Array Bool} {i : Nat} : i ∈ Region.ready .any ops listed ↔ ∃ o, ops[i]? = some o ∧ listed.getD i true = false ∧ ∀ e ∈ o.after.toList, Region.binds .any e = true → listed.getD e.on false = true := by
  unfold Region.ready
  rw [List.mem_filter, List.mem_range]
  constructor
  · rintro ⟨hi, h⟩
    simp only [Bool.and_eq_true, Bool.not_eq_true'] at h
    refine ⟨ops[i], by simp [hi], h.1, fun e he hb => ?_⟩
    have h2 := h.2
    simp only [Array.getElem?_eq_getElem hi, Option.map_some, Option.getD_some, Array.all_eq_true_iff_forall_mem] at h2
    have := h2 e (by simpa using he)
    rw [hb] at this
    simpa using this
  · rintro ⟨o, ho, h1, h2⟩
    have hi : i < ops.size := by
      rcases Nat.lt_or_ge i ops.size with h' | h'
      · exact h'
      · rw [Array.getElem?_eq_none (by omega)] at ho; simp at ho
    refine ⟨hi, ?_⟩
    simp only [Bool.and_eq_true, Bool.not_eq_true', ho, Option.map_some, Option.getD_some, Array.all_eq_true_iff_forall_mem]
    refine ⟨h1, fun e he => ?_⟩
    cases hb : Region.binds .any e with
    | false => rfl
    | true => simpa using h2 e (by simpa using he) hb

theorem getD_set {listed : Array Bool} {i : Nat} (hi : i < listed.size) (d : Nat) : (listed.setIfInBounds i true).getD d false = true ↔ listed.getD d false = true ∨ d = i := by
  by_cases hd : d = i
  · subst hd; simp [hi]
  · have : ¬ i = d := fun e => hd e.symm
    simp [this, hd]

theorem mid_step (ok : E.Ok) (hcall : CallOk E call) (hevo : CallEvo call) {C0 : Ctx} {w0 : World} (hp : Pairs ops) {m : PM Nat} (hm : ∀ k d, bit m k d = true → Bef ops k d) (ht : Trace E call nt ops 0 T U V hist ls)
    (hls : ls.all (loadOk m hist) = true) {Q : Exit → Act → World → Prop} {listed : Array Bool} {a : Act} {w : World} {K : Act → World → Prop} (h : Mid E C0 w0 nt ops T U V listed a w) {i : Nat} (hi : i ∈ Region.ready .any ops listed)
    (hK : ∀ a w, Mid E C0 w0 nt ops T U V (listed.setIfInBounds i true) a w → K a w) : wpOp E.P ops Q i K a w := by
  obtain ⟨o, ho, hun, hpre⟩ := ready_iff.1 hi
  have hin : i < ops.size := by
    rcases Nat.lt_or_ge i ops.size with h' | h'
    · exact h'
    · rw [Array.getElem?_eq_none (by omega)] at ho; simp at ho
  have hil : i < listed.size := by rw [h.size]; exact hin
  have hni : ¬ listed.getD i false = true := by
    simp [hil] at hun ⊢; exact hun
  obtain ⟨C, k, tm, hf, he, hk, hl, hv⟩ := h.at_
  have bef1 : ∀ d, Bef ops i d → listed.getD d false = true := by
    intro d hb
    cases hb with
    | base ho' he' hb' =>
      rw [ho] at ho'; simp at ho'; subst ho'
      exact hpre _ he' hb'
    | step ho' he' hb' hb2 =>
      rw [ho] at ho'; simp at ho'; subst ho'
      exact hb2.closed (D := fun x => listed.getD x false = true) (fun x o e h1 h2 h3 h4 => h.closed x o e h1 h2 h3 h4) (hpre _ he' hb')
  have bef2 : ∀ d, Bef ops d i → ¬ listed.getD d false = true := fun d hb hd =>
    hni (hb.closed (D := fun x => listed.getD x false = true) (fun x o e h1 h2 h3 h4 => h.closed x o e h1 h2 h3 h4) hd)
  have hag := hv.agree hp (ht.val hp i (by omega)) ho hni bef1 bef2
  have hlsz : (listed.setIfInBounds i true).size = ops.size := by simp [h.size]
  have hset := getD_set hil
  have hclosed' : ∀ (j : Nat) (o : Oper) (e : Edge), ops[j]? = some o → (listed.setIfInBounds i true).getD j false = true → e ∈ o.after.toList → Region.binds .any e = true → (listed.setIfInBounds i true).getD e.on false = true := by
    intro j o' e hj hd he' hb
    rw [hset] at hd ⊢
    rcases hd with hd | rfl
    · exact .inl (h.closed j o' e hj hd he' hb)
    · rw [ho] at hj; simp at hj; subst hj
      exact .inl (hpre e he' hb)
  have hput := ht.put i o (Nat.zero_le _) ho
  have loudlt : ∀ x o', ops[x]? = some o' → loud o'.op = true → loud o.op = true → (x < k ↔ x < i) := by
    intro x o' hx hx1 ho1
    rw [← hl x o' hx hx1]
    constructor
    · intro hd
      rcases Nat.lt_trichotomy x i with h1 | h1 | h1
      · exact h1
      · subst h1; exact absurd hd hni
      · exact absurd hd (bef2 x (hp.loud i x o o' h1 ho hx ho1 hx1))
    · intro h1
      exact bef1 x (hp.loud x i o' o h1 hx ho hx1 ho1)
  have hki : loud o.op = true → U k = U i := by
    intro ho1
    have nol : ∀ x o', ops[x]? = some o' → (k ≤ x ∧ x < i ∨ i ≤ x ∧ x < k) → loud o'.op = false := by
      intro x o' hx hxx
      cases hq : loud o'.op with
      | false => rfl
      | true => have := loudlt x o' hx hq ho1; omega
    rcases Nat.le_total k i with h1 | h1
    · have := ht.same (a := k) (i - k) (by omega) fun x o' h2 h3 hx => nol x o' hx (.inl ⟨h2, by omega⟩)
      rw [show k + (i - k) = i by omega] at this
      exact this.symm
    · have := ht.same (a := i) (k - i) (by omega) fun x o' h2 h3 hx => nol x o' hx (.inr ⟨h2, by omega⟩)
      rw [show i + (k - i) = k by omega] at this
      exact this
  have listed' : ∀ k', (∀ x o', ops[x]? = some o' → loud o'.op = true → (x < k' ↔ x < k ∨ x = i)) → (∀ x o', ops[x]? = some o' → loud o'.op = true → ((listed.setIfInBounds i true).getD x false = true ↔ x < k')) := by
    intro k' hk' x o' hx hx1
    rw [hset, hk' x o' hx hx1, hl x o' hx hx1]
  -- the number behind the last loud operation
  have finish : ∀ (C' : Ctx) (u : Value) (w' : World) (S1 : St), WR E C' S1 w' → Ext C w C' w' → VR C' w' (V i) u → (loud o.op = true → S1 = U (i + 1)) → (loud o.op = false → S1 = U k) → K (a.put o.dst u) w' := by
    intro C' u w' S1 k1 k2 k3 k4 k5
    obtain ⟨tm', hp'⟩ : ∃ tm', putA nt o.dst (V i) tm = some tm' := by
      cases hd : o.dst with
      | none => exact ⟨tm, rfl⟩
      | some d =>
        rw [hd] at hput
        simp only [putA] at hput ⊢
        cases hb : Nat.blt d nt with
        | false => rw [hb] at hput; simp at hput
        | true => exact ⟨_, rfl⟩
    have hf' := hf.put k1 k2 k3 hp'
    have hval' : Val ops V (T 0) (fun d => (listed.setIfInBounds i true).getD d false = true) tm' := hv.step hp ho hni hp' hset
    cases hq : loud o.op with
    | true =>
      rw [k4 hq] at hf'
      refine hK _ _ ⟨hlsz, hclosed', C', i + 1, tm', hf', he.trans k2, by omega, listed' _ fun x o' hx hx1 => ?_, hval'⟩
      have := loudlt x o' hx hx1 hq
      omega
    | false =>
      rw [k5 hq] at hf'
      refine hK _ _ ⟨hlsz, hclosed', C', k, tm', hf', he.trans k2, hk, listed' _ fun x o' hx hx1 => ?_, hval'⟩
      constructor
      · exact fun h1 => .inl h1
      · rintro (h1 | rfl)
        · exact h1
        · rw [ho] at hx; simp at hx; subst hx
          rw [hq] at hx1; simp at hx1
  unfold wpOp
  simp only [ho]
  rcases ht.step i o (Nat.zero_le _) ho with ⟨h1, h2, h3⟩ | ⟨h1, h2, h3, h4⟩
  · rw [← wanted_congr hag] at h1
    have hwant := wanted_rel hf.tr h1
    simp only [hwant, Bool.false_eq_true, if_false]
    exact finish C Go.undef w (U k) hf.wr (Ext.refl _ _) (by rw [h2]; exact .sc _) (fun hq => by rw [hki hq, h3]) (fun _ => rfl)
  · rw [← wanted_congr hag] at h1
    have hwant := wanted_rel hf.tr h1
    simp only [hwant, if_true]
    refine .inl ?_
    rw [← evOp_congr o (ev_congr hag)] at h2
    cases hq : loud o.op with
    | true =>
      rw [← hki hq] at h2
      exact (good_op ok hcall o hf.wr hf.tr h2).wp fun u C' w' k1 k2 k3 => finish C' u w' _ k1 k2 k3 (fun _ => rfl) (fun h' => by rw [hq] at h'; simp at h')
    | false =>
      obtain ⟨q1, q2⟩ := quiet_any (S2 := U k) o hq h2
      have hobj : ∀ l, loadsFrom E tm o = some l → (U k).objs.get l = (U i).objs.get l := by
        intro l hll
        rw [loadsFrom_congr hag] at hll
        have hin2 := h4 l hll
        have hchk := List.all_eq_true.1 hls _ hin2
        have key : ∀ x o', ops[x]? = some o' → (k ≤ x ∧ x < i ∨ i ≤ x ∧ x < k) → (x, U x, U (x + 1)) ∈ hist → l < (U x).no ∧ (U x).ver l = (U (x + 1)).ver l := by
          intro x o' hx hxx hmem
          unfold loadOk at hchk
          have hc := List.all_eq_true.1 hchk _ hmem
          simp only [Bool.or_eq_true, Bool.and_eq_true] at hc
          rcases hc with (hb | hb) | hb
          · have hB := hm _ _ hb
            have hlt := hB.lt hp
            have hD := bef1 x hB
            have hx1 : loud o'.op = true := ht.hl _ hmem o' hx
            have := (hl x o' hx hx1).1 hD
            omega
          · have hB := hm _ _ hb
            have hlt := hB.lt hp
            have hD := bef2 x hB
            have hx1 : loud o'.op = true := ht.hl _ hmem o' hx
            have : ¬ x < k := fun h' => hD ((hl x o' hx hx1).2 h')
            omega
          · exact ⟨Nat.le_of_ble_eq_true hb.1, Nat.eq_of_beq_eq_true hb.2⟩
        rcases Nat.le_total k i with hle | hle
        · have := ht.obj hevo (a := k) (l := l) (i - k) (by omega) fun x o' g1 g2 hx hmem => key x o' hx (.inl ⟨g1, by omega⟩) hmem
          rw [show k + (i - k) = i by omega] at this
          exact this.symm
        · have := ht.obj hevo (a := i) (l := l) (k - i) (by omega) fun x o' g1 g2 hx hmem => key x o' hx (.inr ⟨g1, by omega⟩) hmem
          rw [show i + (k - i) = k by omega] at this
          exact this
      have h2' := q2 hobj
      exact (good_op ok hcall o hf.wr hf.tr h2').wp fun u C' w' k1 k2 k3 => finish C' u w' _ k1 k2 k3 (fun h' => by rw [hq] at h'; simp at h') (fun _ => rfl)

theorem count_set {l : List Bool} : ∀ {i : Nat}, l[i]? = some false → (l.set i true).count false + 1 = l.count false := by
  induction l with
  | nil => intro i h; simp at h
  | cons b l ih =>
    intro i h
    cases i with
    | zero => simp at h; subst h; simp
    | succ i =>
      simp at h
      have := ih h
      simp [List.count_cons]
      omega

theorem mid_any (ok : E.Ok) (hcall : CallOk E call) (hevo : CallEvo call) {C0 : Ctx} {w0 : World} (hp : Pairs ops) {m : PM Nat} (hm : ∀ k d, bit m k d = true → Bef ops k d) (ht : Trace E call nt ops 0 T U V hist ls)
    (hls : ls.all (loadOk m hist) = true) {Q : Exit → Act → World → Prop} (hq : ∀ C' a' w', FR E C' (U ops.size) nt (T ops.size) a' w' → Ext C0 w0 C' w' → Q .normal a' w') :
    ∀ (fuel : Nat) (listed : Array Bool) (a : Act) (w : World), listed.toList.count false = fuel → Mid E C0 w0 nt ops T U V listed a w → wpAny E.P .any ops Q fuel listed a w := by
  have all_of_ready : ∀ (listed : Array Bool) (a : Act) (w : World), Mid E C0 w0 nt ops T U V listed a w → Region.ready .any ops listed = [] → ∀ i, i < ops.size → listed.getD i false = true := by
    intro listed a w h hr i
    induction i using Nat.strongRecOn with
    | _ i ih =>
      intro hi
      have hil : i < listed.size := by rw [h.size]; exact hi
      cases hc : listed.getD i false with
      | true => rfl
      | false =>
        exfalso
        have : i ∈ Region.ready .any ops listed := ready_iff.2 ⟨ops[i], by simp [hi], by simp [hil] at hc ⊢; exact hc, fun e he hb => by
          have hlt := hp.edge i ops[i] e (by simp [hi]) he hb
          exact ih e.on hlt (by omega)⟩
        rw [hr] at this; simp at this
  have done : ∀ (listed : Array Bool) (a : Act) (w : World), Mid E C0 w0 nt ops T U V listed a w → (∀ i, i < ops.size → listed.getD i false = true) → Q .normal a w := by
    intro listed a w h hall
    obtain ⟨C, k, tm, hf, he, hk, hl, hv⟩ := h.at_
    have hU : U k = U ops.size := by
      have := ht.same (a := k) (ops.size - k) (by omega) fun x o h1 h2 hx => by
        cases hqq : loud o.op with
        | false => rfl
        | true =>
          have hx1 : x < ops.size := by omega
          have := (hl x o hx hqq).1 (hall x hx1); omega
      rw [show k + (ops.size - k) = ops.size by omega] at this
      exact this.symm
    have hvE := ht.val hp ops.size (Nat.le_refl _)
    have hget : ∀ t, getT tm t = getT (T ops.size) t := by
      intro t
      by_cases hw : ∃ (d : Nat) (o : Oper), ops[d]? = some o ∧ o.dst = some t
      · obtain ⟨d, o, hd, hdt⟩ := hw
        have hdl : d < ops.size := by
          rcases Nat.lt_or_ge d ops.size with h' | h'
          · exact h'
          · rw [Array.getElem?_eq_none (by omega)] at hd; simp at hd
        rw [hv.done d o t hd hdt (hall d hdl), hvE.done d o t hd hdt hdl]
      · have hn : ∀ (d : Nat) (o : Oper), ops[d]? = some o → o.dst = some t → False := fun d o h1 h2 => hw ⟨d, o, h1, h2⟩
        rw [hv.old t fun d o h1 h2 _ => hn d o h1 h2, hvE.old t fun d o h1 h2 _ => hn d o h1 h2]
    refine hq C a w ⟨hU ▸ hf.wr, fun i x hx => ?_, hf.size, hf.defers⟩ he
    have h1 := hf.tr.getT i
    rw [hget i] at h1
    unfold getT at h1
    rw [hx] at h1
    exact h1
  intro fuel
  induction fuel with
  | zero =>
    intro listed a w hc h
    have hall : ∀ i, i < ops.size → listed.getD i false = true := by
      intro i hi
      have hil : i < listed.size := by rw [h.size]; exact hi
      rw [List.count_eq_zero] at hc
      cases hcc : listed.getD i false with
      | true => rfl
      | false =>
        exfalso
        apply hc
        have : listed[i] = false := by simpa [hil] using hcc
        rw [← this]
        simp
    refine ⟨?_, done listed a w h hall⟩
    rw [List.eq_nil_iff_forall_not_mem]
    intro i hi
    obtain ⟨o, ho, hun, _⟩ := ready_iff.1 hi
    have hin : i < ops.size := by
      rcases Nat.lt_or_ge i ops.size with h' | h'
      · exact h'
      · rw [Array.getElem?_eq_none (by omega)] at ho; simp at ho
    have h1 := hall i hin
    have hil : i < listed.size := by rw [h.size]; exact hin
    simp [hil] at h1 hun
    rw [h1] at hun; simp at hun
  | succ fuel ih =>
    intro listed a w hc h
    refine ⟨fun hr => done listed a w h (all_of_ready listed a w h hr), fun i hi => ?_⟩
    refine mid_step ok hcall hevo hp hm ht hls h hi fun a' w' h' => ih _ a' w' ?_ h'
    obtain ⟨o, ho, hun, _⟩ := ready_iff.1 hi
    have hin : i < ops.size := by
      rcases Nat.lt_or_ge i ops.size with h' | h'
      · exact h'
      · rw [Array.getElem?_eq_none (by omega)] at ho; simp at ho
    have hil : i < listed.size := by rw [h.size]; exact hin
    have hf : listed.toList[i]? = some false := by
      simp [hil] at hun ⊢; exact hun
    have := count_set hf
    simp only [Array.toList_setIfInBounds]
    omega

end

structure EvoX (E : Env) : Prop where
  evo : ∀ f g, E.X f = some g → ∀ args S r S', g args S = some (r, S') → Evo S S'

theorem rep_false (n i : Nat) : (Array.replicate n false).getD i false = false := by
  simp only [Array.getD_eq_getD_getElem?, Array.getElem?_replicate]
  split <;> rfl

theorem draw_ok {E : Env} (ok : E.Ok) {call : CallFn} (hcall : CallOk E call) (hevo : CallEvo call) (nt id : Nat) (ops : Array Oper) (Q : Exit → Act → World → Prop) (tm tm' : PM AV) (S S' : St) (C : Ctx) (a : Act) (w : World)
    (h : evDraw E call nt ops tm S = some (tm', S')) (hf : FR E C S nt tm a w) (hq : ∀ C' a' w', FR E C' S' nt tm' a' w' → Ext C w C' w' → Q .normal a' w') : (Code.region id ops true).wp E.P Q a w := by
  simp only [evDraw, cond_eq_ite] at h
  split at h
  · rename_i hall
    obtain ⟨hp, hm⟩ := Pairs.of hall
    split at h
    · rename_i tm1 S1 hist ls hgo
      split at h
      · rename_i hls
        simp only [Option.some.injEq, Prod.mk.injEq] at h
        obtain ⟨rfl, rfl⟩ := h
        obtain ⟨T, U, V, ht, h1, h2, h3⟩ := trace_of ops.toList 0 tm tm1 S S1 hist ls rfl hgo
        obtain ⟨h4, h5⟩ := h3 (Nat.zero_le _)
        refine wp_region_any ok.mixed ?_
        refine mid_any (C0 := C) (w0 := w) ok hcall hevo hp hm ht hls (fun C' a' w' f e => hq C' a' w' (by rw [h4, h5] at f; exact f) e) ops.size _ _ _ (by simp) ⟨by simp, ?_, ?_⟩
        · intro i o e _ hd
          rw [rep_false] at hd; simp at hd
        · refine ⟨C, 0, tm, ?_, Ext.drew C w, Nat.zero_le _, fun x o _ _ => by rw [rep_false]; simp, ?_⟩
          · rw [h2]
            exact ⟨hf.wr.drew, hf.tr.ext (Ext.drew C w), hf.size, hf.defers⟩
          · rw [h1]
            exact ⟨fun d o t _ _ hd => by rw [rep_false] at hd; simp at hd, fun t _ => rfl⟩
      · simp at h
    · simp at h
  · simp at h

end Go.Abs
