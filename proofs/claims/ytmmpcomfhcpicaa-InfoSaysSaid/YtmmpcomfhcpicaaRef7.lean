/-
  The document's own table and package info's, plain: whatever is read well is what is written of it.
-/
import Derived.Test.YtmmpcomfhcpicaaRef4
import Derived.Test.YtmmpcomfhcpicaaInf12
set_option linter.unusedSimpArgs false
set_option linter.unusedVariables false
set_option maxRecDepth 100000
namespace Go.Proofs.Ytmmpcomfhcpicaa
/-- What is read well is what is written of it. -/
def Can {α : Type} (f : List UInt8 → Bool → α × List UInt8 × Bool) (enc : α → List UInt8) : Prop := ∀ b bad, (f b bad).2.2 = false → bad = false ∧ b = enc (f b bad).1 ++ (f b bad).2.1
theorem pow_step (v m q k : Nat) : v + m * 128 ^ k + q * 128 ^ (k + 1) = v + (m + q * 128) * 128 ^ k := by
  have h : q * (128 ^ k * 128) = q * 128 * 128 ^ k := by rw [Nat.mul_comm (128 ^ k) 128, Nat.mul_assoc]
  rw [Nat.pow_succ, h, Nat.add_mul, Nat.add_assoc]
theorem numS_cons {c : UInt8} {q : Nat} (hc : ¬ c.toNat < 128) (hq : 0 < q) : numS (c.toNat % 128 + q * 128) = c :: numS q := by
  have h := c.toNat_lt
  rw [numS_ge (by omega)]
  have e1 : (c.toNat % 128 + q * 128) / 128 = q := by omega
  have e2 : (c.toNat % 128 + q * 128) % 128 + 128 = c.toNat := by omega
  rw [e1, e2, UInt8.ofNat_toNat]
theorem numS_one {c : UInt8} (hc : c.toNat < 128) : numS c.toNat = [c] := by rw [numS_lt hc, UInt8.ofNat_toNat]
theorem rdK_can (most : Int) : ∀ (b : List UInt8) (k v n : Nat) (r : List UInt8), rdK most k v b = some (n, r) → ∃ q, n = v + q * 128 ^ k ∧ (k = 0 ∨ 0 < q) ∧ b = numS q ++ r
  | [], k, v, n, r, h => by simp [rdK] at h
  | c :: b, k, v, n, r, h => by
    rw [rdK] at h
    split at h
    · simp at h
    · split at h
      · rename_i h1
        split at h
        · simp at h
        · rename_i h2
          simp only [Option.some.injEq, Prod.mk.injEq] at h
          have hm : c.toNat % 128 = c.toNat := Nat.mod_eq_of_lt h1
          refine ⟨c.toNat, by rw [← h.1, hm], ?_, by rw [numS_one h1, ← h.2]; rfl⟩
          by_cases hk : k = 0
          · exact .inl hk
          · right
            have : ¬ (0 < k ∧ c.toNat = 0) := fun q => h2 (.inl q)
            omega
      · rename_i h1
        obtain ⟨q, e1, e2, e3⟩ := rdK_can most b (k + 1) _ n r h
        have hq : 0 < q := by omega
        refine ⟨c.toNat % 128 + q * 128, by rw [e1, pow_step], .inr (by omega), by rw [numS_cons h1 hq, e3]; rfl⟩
theorem grpG_can : ∀ (b : List UInt8) (k v n m : Nat), grpG k v b = some (n, m) → ∃ q, n = v + q * 128 ^ k ∧ (k = 0 ∨ 0 < q) ∧ b = numS q ++ b.drop (m - k)
  | [], k, v, n, m, h => by simp [grpG] at h
  | c :: b, k, v, n, m, h => by
    rw [grpG] at h
    split at h
    · simp at h
    · split at h
      · simp at h
      · split at h
        · rename_i h1
          split at h
          · simp at h
          · rename_i h2
            simp only [Option.some.injEq, Prod.mk.injEq] at h
            have hm : c.toNat % 128 = c.toNat := Nat.mod_eq_of_lt h1
            have e1 : m - k = 1 := by omega
            refine ⟨c.toNat, by rw [← h.1, hm], by omega, by rw [numS_one h1, e1]; rfl⟩
        · rename_i h1
          have hp := grpG_pos _ _ _ h
          obtain ⟨q, e1, e2, e3⟩ := grpG_can b (k + 1) _ n m h
          have hq : 0 < q := by omega
          have e4 : m - k = (m - (k + 1)) + 1 := by omega
          refine ⟨c.toNat % 128 + q * 128, by rw [e1, pow_step], .inr (by omega), ?_⟩
          rw [numS_cons h1 hq, e4, List.drop_succ_cons, List.cons_append, ← e3]
theorem numR_can (most : Int) : Can (numR most) numI := by
  intro b bad h
  unfold numR at h ⊢
  cases e : rdK most 0 0 b with
  | none => simp [e] at h
  | some p =>
    obtain ⟨v, r⟩ := p
    simp only [e] at h ⊢
    obtain ⟨q, e1, _, e3⟩ := rdK_can most b 0 0 v r e
    have : v = q := by simpa using e1
    subst this
    exact ⟨h, by simpa [numI] using e3⟩
theorem numQ_can : Can numQ numI := by
  intro b bad h
  unfold numQ at h ⊢
  cases e : grpG 0 0 b with
  | none => simp [e] at h
  | some p =>
    obtain ⟨v, m⟩ := p
    simp only [e] at h ⊢
    split at h
    · simp at h
    · rename_i h1
      rw [if_neg h1]
      obtain ⟨q, e1, _, e3⟩ := grpG_can b 0 0 v m e
      have : v = q := by simpa using e1
      subst this
      refine ⟨?_, by simpa [numI] using e3⟩
      cases bad
      · rfl
      · exact absurd (.inl rfl) h1
theorem txt_can {num : List UInt8 → Bool → Int × List UInt8 × Bool} (hn : Can num numI) (b : List UInt8) (bad : Bool) (h0 : (num b bad).2.2 = false) (h1 : 0 ≤ (num b bad).1) (h2 : ¬ (((num b bad).2.1.length : Int) < (num b bad).1)) :
    bad = false ∧ b = txtF ⟨((num b bad).2.1.take (num b bad).1.toNat).toArray⟩ ++ (num b bad).2.1.drop (num b bad).1.toNat := by
  obtain ⟨e1, e2⟩ := hn b bad h0
  refine ⟨e1, e2.trans ?_⟩
  generalize (num b bad).1 = n at h1 h2
  generalize (num b bad).2.1 = r at h2
  have hs : ByteArray.size ⟨(r.take n.toNat).toArray⟩ = n.toNat := by
    show (r.take n.toNat).toArray.size = n.toNat
    simp only [List.size_toArray, List.length_take]
    omega
  simp only [txtF, hs, numI, List.append_assoc, List.take_append_drop]
theorem txtR_can (most : Int) : Can (txtR most) txtF := by
  intro b bad h
  unfold txtR at h ⊢
  split at h
  · simp at h
  · rename_i h1
    rw [if_neg h1]
    exact txt_can (numR_can most) b bad h (numR_nn most b bad) h1
theorem txtQ_can : Can txtQ txtF := by
  intro b bad h
  unfold txtQ at h ⊢
  split at h
  · simp at h
  · rename_i h1
    rw [if_neg h1]
    refine txt_can numQ_can b bad ?_ (numQ_nn b bad) fun q => h1 (.inr q)
    cases e : (numQ b bad).2.2
    · rfl
    · exact absurd (.inl e) h1
theorem stop_can {num : List UInt8 → Bool → Int × List UInt8 × Bool} (hn : Can num numI) (b : List UInt8) (bad : Bool) :
    let a := num b bad
    let c := num a.2.1 a.2.2
    let d := num c.2.1 c.2.2
    let e := num d.2.1 d.2.2
    e.2.2 = false → bad = false ∧ b = encS ⟨a.1, c.1, d.1, e.1⟩ ++ e.2.1 := by
  intro a c d e h
  obtain ⟨h4, e4⟩ := hn _ _ h
  obtain ⟨h3, e3⟩ := hn _ _ h4
  obtain ⟨h2, e2⟩ := hn _ _ h3
  obtain ⟨h1, e1⟩ := hn _ _ h2
  refine ⟨h1, ?_⟩
  have e0 : ∀ x y z w, encS ⟨x, y, z, w⟩ = numI x ++ (numI y ++ (numI z ++ numI w)) := fun x y z w => by simp [encS, stopI]
  rw [e0]
  simp only [List.append_assoc]
  exact e1.trans (congrArg _ (e2.trans (congrArg _ (e3.trans (congrArg _ e4)))))
theorem var_can {n1 n2 n3 n4 : List UInt8 → Bool → Int × List UInt8 × Bool} {t1 t2 : List UInt8 → Bool → ByteArray × List UInt8 × Bool} (h1 : Can n1 numI) (h2 : Can n2 numI) (h3 : Can t1 txtF) (h4 : Can n3 numI) (h5 : Can n4 numI) (h6 : Can t2 txtF) (b : List UInt8) (bad : Bool) :
    let a := n1 b bad
    let c := n2 a.2.1 a.2.2
    let d := t1 c.2.1 c.2.2
    let e := n3 d.2.1 d.2.2
    let f := n4 e.2.1 e.2.2
    let g := t2 f.2.1 f.2.2
    g.2.2 = false → bad = false ∧ b = encW ⟨a.1, c.1, d.1, e.1, f.1, g.1⟩ ++ g.2.1 := by
  intro a c d e f g h
  obtain ⟨k6, e6⟩ := h6 _ _ h
  obtain ⟨k5, e5⟩ := h5 _ _ k6
  obtain ⟨k4, e4⟩ := h4 _ _ k5
  obtain ⟨k3, e3⟩ := h3 _ _ k4
  obtain ⟨k2, e2⟩ := h2 _ _ k3
  obtain ⟨k1, e1⟩ := h1 _ _ k2
  refine ⟨k1, ?_⟩
  simp only [encW, List.append_assoc]
  exact e1.trans (congrArg _ (e2.trans (congrArg _ (e3.trans (congrArg _ (e4.trans (congrArg _ (e5.trans (congrArg _ e6)))))))))
theorem stopR_can : Can stopR encS := fun b bad h => stop_can (numR_can 2147483647) b bad h
theorem stopQ_can : Can stopQ encS := fun b bad h => stop_can numQ_can b bad h
theorem varR_can : Can varR encW := fun b bad h => var_can (numR_can 2147483647) (numR_can 2147483647) (txtR_can 4000) (numR_can 3) (numR_can 65535) (txtR_can 4000000) b bad h
theorem varQ_can : Can varQ encW := fun b bad h => var_can numQ_can numQ_can txtQ_can numQ_can numQ_can txtQ_can b bad h
def manyX {α : Type} (f : List UInt8 → Bool → α × List UInt8 × Bool) : Nat → List UInt8 → Bool → List α → List α × List UInt8 × Bool
  | 0, b, bad, l => (l, b, bad)
  | n + 1, b, bad, l => bif bad then (l, b, bad) else manyX f n (f b bad).2.1 (f b bad).2.2 (l ++ [(f b bad).1])
theorem stopsR_many : ∀ n b bad l, stopsR n b bad l = manyX stopR n b bad l
  | 0, _, _, _ => rfl
  | n + 1, b, bad, l => by rw [stopsR, manyX, stopsR_many n]
theorem stopsQ_many : ∀ n b bad l, stopsQ n b bad l = manyX stopQ n b bad l
  | 0, _, _, _ => rfl
  | n + 1, b, bad, l => by rw [stopsQ, manyX, stopsQ_many n]
theorem varsR_many : ∀ n b bad l, varsR n b bad l = manyX varR n b bad l
  | 0, _, _, _ => rfl
  | n + 1, b, bad, l => by rw [varsR, manyX, varsR_many n]
theorem varsQ_many : ∀ n b bad l, varsQ n b bad l = manyX varQ n b bad l
  | 0, _, _, _ => rfl
  | n + 1, b, bad, l => by rw [varsQ, manyX, varsQ_many n]
theorem many_can {α : Type} {f : List UInt8 → Bool → α × List UInt8 × Bool} {enc : α → List UInt8} (hf : Can f enc) : ∀ n b bad l, (manyX f n b bad l).2.2 = false → bad = false ∧ ∃ l', (manyX f n b bad l).1 = l ++ l' ∧ l'.length = n ∧ b = l'.flatMap enc ++ (manyX f n b bad l).2.1
  | 0, b, bad, l, h => ⟨h, [], by simp [manyX]⟩
  | n + 1, b, bad, l, h => by
    cases bad with
    | true => simp [manyX] at h
    | false =>
      rw [manyX, cond_false] at h ⊢
      obtain ⟨h1, l', e1, e2, e3⟩ := many_can hf n _ _ _ h
      obtain ⟨_, e4⟩ := hf _ _ h1
      refine ⟨rfl, (f b false).1 :: l', by rw [e1]; simp, by simp [e2], ?_⟩
      rw [List.flatMap_cons, List.append_assoc]
      exact e4.trans (congrArg _ e3)
theorem get_can {n1 n2 : List UInt8 → Bool → Int × List UInt8 × Bool} {st : List UInt8 → Bool → StopV × List UInt8 × Bool} {va : List UInt8 → Bool → VarV × List UInt8 × Bool} (h1 : Can n1 numI) (h2 : Can st encS) (h3 : Can n2 numI) (h4 : Can va encW) (b : List UInt8) :
    let a := n1 b false
    let c := manyX st a.1.toNat a.2.1 a.2.2 []
    let d := n2 c.2.1 c.2.2
    let e := manyX va d.1.toNat d.2.1 d.2.2 []
    e.2.2 = false → b = putF c.1 e.1 ++ e.2.1 := by
  intro a c d e h
  obtain ⟨k4, l2, p1, p2, p3⟩ := many_can h4 _ _ _ _ h
  obtain ⟨k3, e3⟩ := h3 _ _ k4
  obtain ⟨k2, l1, q1, q2, q3⟩ := many_can h2 _ _ _ _ k3
  obtain ⟨k1, e1⟩ := h1 _ _ k2
  have f1 : c.1 = l1 := q1
  have f2 : e.1 = l2 := p1
  have g1 : numS l1.length = numI a.1 := by rw [q2]; rfl
  have g2 : numS l2.length = numI d.1 := by rw [p2]; rfl
  rw [f1, f2]
  simp only [putF, g1, g2, List.append_assoc]
  exact e1.trans (congrArg _ (q3.trans (congrArg _ (e3.trans (congrArg _ p3)))))
theorem getR_can (b : List UInt8) (h : (getR b).2.2.2 = false) : b = putF (getR b).1 (getR b).2.1 ++ (getR b).2.2.1 := by
  simp only [getR, stopsR_many, varsR_many] at h ⊢
  exact get_can (numR_can 10000) stopR_can (numR_can 10000) varR_can b h
theorem getQ_can (b : List UInt8) (h : (getQ b).2.2.2 = false) : b = putF (getQ b).1 (getQ b).2.1 ++ (getQ b).2.2.1 := by
  simp only [getQ, stopsQ_many, varsQ_many] at h ⊢
  exact get_can numQ_can stopQ_can numQ_can varQ_can b h
/-! What is written is read again, by the document too. -/
theorem grpG_numS (q : List UInt8) : ∀ (n k v : Nat), (numS n).length + k ≤ 5 → (k = 0 ∨ 0 < n) → grpG k v (numS n ++ q) = some (v + n * 128 ^ k, k + (numS n).length) := by
  intro n
  induction n using Nat.strongRecOn with
  | _ n ih =>
    intro k v hl hk
    by_cases h : n < 128
    · rw [numS_lt h] at hl ⊢
      have hc : (UInt8.ofNat n).toNat = n := by simp; omega
      have h10 : ¬ 10 ≤ k := by simp at hl; omega
      have h9 : ¬ (k = 9 ∧ 1 < n) := by simp at hl; omega
      have hmod : n % 128 = n := Nat.mod_eq_of_lt h
      simp only [List.singleton_append, grpG, if_neg h10, hc, if_neg h9, if_pos h, hmod]
      rw [if_neg (by omega)]
      rfl
    · rw [numS_ge h] at hl ⊢
      have hc : (UInt8.ofNat (n % 128 + 128)).toNat = n % 128 + 128 := by simp; omega
      have h10 : ¬ 10 ≤ k := by simp at hl; omega
      have h9 : ¬ (k = 9 ∧ 1 < n % 128 + 128) := by simp at hl; omega
      have h6 : ¬ n % 128 + 128 < 128 := by omega
      have hmod : (n % 128 + 128) % 128 = n % 128 := by omega
      have e1 : n % 128 + n / 128 * 128 = n := by omega
      simp only [List.cons_append, grpG, if_neg h10, hc, if_neg h9, if_neg h6, hmod]
      rw [ih (n / 128) (by omega) (k + 1) _ (by simp at hl ⊢; omega) (.inr (by omega)), pow_step, e1]
      simp only [List.length_cons, Option.some.injEq, Prod.mk.injEq, true_and]
      omega
theorem numQ_numI {z : Int} (h0 : 0 ≤ z) (h1 : z ≤ 2147483647) (q : List UInt8) : numQ (numI z ++ q) false = (z, q, false) := by
  have hl := numS_len 4 z.toNat (by have : (128 : Nat) ^ (4 + 1) = 34359738368 := by decide
                                    omega)
  have := grpG_numS q z.toNat 0 0 (by omega) (.inl rfl)
  simp only [Nat.pow_zero, Nat.mul_one, Nat.zero_add] at this
  have hb : ¬ (false = true ∨ 2147483647 < z.toNat) := by
    simp only [Bool.false_eq_true, false_or]; omega
  simp only [numQ, numI, this, if_neg hb, List.drop_left, Prod.mk.injEq, and_true]
  omega
theorem txtQ_txtF {s : ByteArray} (h2 : s.size ≤ 2147483647) (q : List UInt8) : txtQ (txtF s ++ q) false = (s, q, false) := by
  have h := numQ_numI (z := (s.size : Int)) (by omega) (by omega) (s.data.toList ++ q)
  have e : numI (s.size : Int) ++ (s.data.toList ++ q) = txtF s ++ q := by simp [numI, txtF]
  rw [e] at h
  have hs : s.data.toList.length = s.size := rfl
  unfold txtQ
  rw [h]
  rw [if_neg (by simp only [List.length_append, hs, Bool.false_eq_true, false_or]; omega)]
  simp only [Int.toNat_natCast, Prod.mk.injEq, and_true]
  rw [← hs, List.take_left, List.drop_left]
  exact ⟨rfl, rfl⟩
theorem stopQ_encS {s : StopV} (h : stopB s = true) (q : List UInt8) : stopQ (encS s ++ q) false = (s, q, false) := by
  have hz := stop_bd h
  have e : encS s ++ q = numI s.pc ++ (numI s.at_ ++ (numI s.line ++ (numI s.col ++ q))) := by simp [encS, stopI]
  have b1 := hz s.pc (by simp [stopI])
  have b2 := hz s.at_ (by simp [stopI])
  have b3 := hz s.line (by simp [stopI])
  have b4 := hz s.col (by simp [stopI])
  rw [e]
  simp only [stopQ, numQ_numI b1.1 b1.2, numQ_numI b2.1 b2.2, numQ_numI b3.1 b3.2, numQ_numI b4.1 b4.2]
theorem varQ_encW {v : VarV} (h : VarBd v) (q : List UInt8) : varQ (encW v ++ q) false = (v, q, false) := by
  have e : encW v ++ q = numI v.frm ++ (numI v.to ++ (txtF v.name ++ (numI v.kind ++ (numI v.n ++ (txtF v.typ ++ q))))) := by simp [encW]
  have b1 := h.frm
  have b2 := h.to
  have b3 := h.name
  have b4 := h.kind
  have b5 := h.n
  have b6 := h.typ
  rw [e]
  simp only [varQ, numQ_numI b1.1 b1.2, numQ_numI b2.1 b2.2, txtQ_txtF (s := v.name) (by omega), numQ_numI (z := v.kind) (by omega) (by omega), numQ_numI (z := v.n) b5.1 (by omega), txtQ_txtF (s := v.typ) (by omega)]
theorem stopsQ_enc : ∀ (ss : List StopV), (∀ s ∈ ss, stopB s = true) → ∀ (q : List UInt8) (l : List StopV), stopsQ ss.length (ss.flatMap encS ++ q) false l = (l ++ ss, q, false)
  | [], _, q, l => by simp [stopsQ]
  | s :: r, h, q, l => by
    have ih := stopsQ_enc r (fun x hx => h x (List.mem_cons_of_mem _ hx)) q (l ++ [s])
    rw [List.flatMap_cons, List.append_assoc, List.length_cons, stopsQ, cond_false, stopQ_encS (h s (List.mem_cons_self ..)), ih]
    simp
theorem varsQ_enc : ∀ (vs : List VarV), (∀ v ∈ vs, VarBd v) → ∀ (q : List UInt8) (l : List VarV), varsQ vs.length (vs.flatMap encW ++ q) false l = (l ++ vs, q, false)
  | [], _, q, l => by simp [varsQ]
  | s :: r, h, q, l => by
    have ih := varsQ_enc r (fun x hx => h x (List.mem_cons_of_mem _ hx)) q (l ++ [s])
    rw [List.flatMap_cons, List.append_assoc, List.length_cons, varsQ, cond_false, varQ_encW (h s (List.mem_cons_self ..)), ih]
    simp
theorem getq_put {ss : List StopV} {vs : List VarV} (h : GoodQ ss vs) : getQ (putF ss vs) = (ss, vs, [], false) := by
  have e : putF ss vs = numI (ss.length : Int) ++ (ss.flatMap encS ++ (numI (vs.length : Int) ++ (vs.flatMap encW ++ []))) := by simp [putF, numI]
  have h1 := h.ls
  have h2 := h.lv
  rw [e]
  simp only [getQ, numQ_numI (z := (ss.length : Int)) (by omega) (by omega), numQ_numI (z := (vs.length : Int)) (by omega) (by omega), Int.toNat_natCast, stopsQ_enc ss (fun s hs => h.stop hs), varsQ_enc vs (fun v hv => var_bd (h.var hv)), List.nil_append]
/-- What is read as a table that may be. -/
def OkR (b : List UInt8) : Prop := (getR b).2.2.2 = false ∧ (getR b).2.2.1 = [] ∧ GoodT (getR b).1 (getR b).2.1
def OkQ (b : List UInt8) : Prop := (getQ b).2.2.2 = false ∧ (getQ b).2.2.1 = [] ∧ GoodQ (getQ b).1 (getQ b).2.1
theorem okR_put {b : List UInt8} (h : OkR b) : b = putF (getR b).1 (getR b).2.1 := by
  have e := getR_can b h.1
  rwa [h.2.1, List.append_nil] at e
theorem okQ_put {b : List UInt8} (h : OkQ b) : b = putF (getQ b).1 (getQ b).2.1 := by
  have e := getQ_can b h.1
  rwa [h.2.1, List.append_nil] at e
theorem okR_Q (hg : ∀ ss vs, GoodT ss vs ↔ GoodQ ss vs) {b : List UInt8} (h : OkR b) : getQ b = ((getR b).1, (getR b).2.1, [], false) := by
  have e := getq_put ((hg _ _).1 h.2.2)
  rwa [← okR_put h] at e
theorem okQ_R (hg : ∀ ss vs, GoodT ss vs ↔ GoodQ ss vs) {b : List UInt8} (h : OkQ b) : getR b = ((getQ b).1, (getQ b).2.1, [], false) := by
  have e := get_put ((hg _ _).2 h.2.2)
  rwa [← okQ_put h] at e
theorem okRQ (hg : ∀ ss vs, GoodT ss vs ↔ GoodQ ss vs) (b : List UInt8) : OkR b ↔ OkQ b := by
  constructor
  · intro h
    have e := okR_Q hg h
    exact ⟨by rw [e], by rw [e], by rw [e]; exact (hg _ _).1 h.2.2⟩
  · intro h
    have e := okQ_R hg h
    exact ⟨by rw [e], by rw [e], by rw [e]; exact (hg _ _).2 h.2.2⟩
end Go.Proofs.Ytmmpcomfhcpicaa
