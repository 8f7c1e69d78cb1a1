/-
  Package info, plain: what Put writes, Get reads again; cut short it is none.
-/
import Derived.Test.YtmmpcomfhcpicaaInf10
set_option linter.unusedSimpArgs false
set_option linter.unusedVariables false
set_option maxRecDepth 100000
namespace Go.Proofs.Ytmmpcomfhcpicaa
theorem rdK_numS (most : Int) (q : List UInt8) : ∀ (n k v : Nat), v < 128 ^ k → (numS n).length + k ≤ 5 → ((v + n * 128 ^ k : Nat) : Int) ≤ most → (k = 0 ∨ 0 < n) → rdK most k v (numS n ++ q) = some (v + n * 128 ^ k, q) := by
  intro n
  induction n using Nat.strongRecOn with
  | _ n ih =>
    intro k v hv hl hm hk
    by_cases h : n < 128
    · rw [numS_lt h] at hl ⊢
      have hc : (UInt8.ofNat n).toNat = n := by simp; omega
      have h5 : ¬ 5 ≤ k := by simp at hl; omega
      have hmod : n % 128 = n := Nat.mod_eq_of_lt h
      simp only [List.singleton_append, rdK, if_neg h5, hc, if_pos h, hmod]
      rw [if_neg]
      rintro (⟨h1, h2⟩ | h1)
      · omega
      · omega
    · rw [numS_ge h] at hl ⊢
      have hc : (UInt8.ofNat (n % 128 + 128)).toNat = n % 128 + 128 := by simp; omega
      have h5 : ¬ 5 ≤ k := by simp at hl; omega
      have h6 : ¬ n % 128 + 128 < 128 := by omega
      have hmod : (n % 128 + 128) % 128 = n % 128 := by omega
      simp only [List.cons_append, rdK, if_neg h5, hc, if_neg h6, hmod]
      have e : v + n % 128 * 128 ^ k + n / 128 * 128 ^ (k + 1) = v + n * 128 ^ k := by
        have h1 : n / 128 * 128 ^ (k + 1) = (n / 128 * 128) * 128 ^ k := by rw [Nat.pow_succ, Nat.mul_comm (128 ^ k) 128, Nat.mul_assoc]
        have h2 : n % 128 * 128 ^ k + n / 128 * 128 * 128 ^ k = n * 128 ^ k := by rw [← Nat.add_mul]; congr 1; omega
        omega
      rw [ih (n / 128) (by omega) (k + 1) _ (Go.Abs.group_lt hv (Nat.mod_lt _ (by decide))) (by simp at hl ⊢; omega) (by rw [e]; exact hm) (.inr (by omega)), e]
theorem numR_numI {most z : Int} (h0 : 0 ≤ z) (h1 : z ≤ most) (h2 : z ≤ 2147483647) (q : List UInt8) (bad : Bool) : numR most (numI z ++ q) bad = (z, q, bad) := by
  have hl := numS_len 4 z.toNat (by have : (128 : Nat) ^ (4 + 1) = 34359738368 := by decide
                                    omega)
  have := rdK_numS most q z.toNat 0 0 (by simp) (by omega) (by simp; omega) (.inl rfl)
  simp only [Nat.pow_zero, Nat.mul_one, Nat.zero_add] at this
  simp only [numR, numI, this, Prod.mk.injEq, and_true]
  omega
theorem txtR_txtF {most : Int} {s : ByteArray} (h1 : (s.size : Int) ≤ most) (h2 : s.size ≤ 2147483647) (q : List UInt8) (bad : Bool) : txtR most (txtF s ++ q) bad = (s, q, bad) := by
  have h := numR_numI (most := most) (z := (s.size : Int)) (by omega) h1 (by omega) (s.data.toList ++ q) bad
  have e : numI (s.size : Int) ++ (s.data.toList ++ q) = txtF s ++ q := by simp [numI, txtF]
  rw [e] at h
  have hs : s.data.toList.length = s.size := rfl
  unfold txtR
  rw [h]
  rw [if_neg (by simp only [List.length_append, hs]; omega)]
  simp only [Int.toNat_natCast, Prod.mk.injEq, and_true]
  rw [← hs, List.take_left, List.drop_left]
  exact ⟨rfl, rfl⟩
theorem stopR_encS {s : StopV} (h : stopB s = true) (q : List UInt8) : stopR (encS s ++ q) false = (s, q, false) := by
  have hz := stop_bd h
  have e : encS s ++ q = numI s.pc ++ (numI s.at_ ++ (numI s.line ++ (numI s.col ++ q))) := by simp [encS, stopI]
  have b1 := hz s.pc (by simp [stopI])
  have b2 := hz s.at_ (by simp [stopI])
  have b3 := hz s.line (by simp [stopI])
  have b4 := hz s.col (by simp [stopI])
  rw [e]
  simp only [stopR, numR_numI b1.1 b1.2 b1.2, numR_numI b2.1 b2.2 b2.2, numR_numI b3.1 b3.2 b3.2, numR_numI b4.1 b4.2 b4.2]
theorem varR_encW {v : VarV} (h : VarBd v) (q : List UInt8) : varR (encW v ++ q) false = (v, q, false) := by
  have e : encW v ++ q = numI v.frm ++ (numI v.to ++ (txtF v.name ++ (numI v.kind ++ (numI v.n ++ (txtF v.typ ++ q))))) := by simp [encW]
  have b1 := h.frm
  have b2 := h.to
  have b3 := h.name
  have b4 := h.kind
  have b5 := h.n
  have b6 := h.typ
  rw [e]
  simp only [varR, numR_numI b1.1 b1.2 b1.2, numR_numI b2.1 b2.2 b2.2, txtR_txtF (most := 4000) (s := v.name) (by omega) (by omega), numR_numI (z := v.kind) (most := 3) (by omega) b4.2 (by omega), numR_numI (z := v.n) (most := 65535) b5.1 b5.2 (by omega), txtR_txtF (most := 4000000) (s := v.typ) (by omega) (by omega)]
theorem stopsR_enc : ∀ (ss : List StopV), (∀ s ∈ ss, stopB s = true) → ∀ (q : List UInt8) (l : List StopV), stopsR ss.length (ss.flatMap encS ++ q) false l = (l ++ ss, q, false)
  | [], _, q, l => by simp [stopsR]
  | s :: r, h, q, l => by
    have ih := stopsR_enc r (fun x hx => h x (List.mem_cons_of_mem _ hx)) q (l ++ [s])
    rw [List.flatMap_cons, List.append_assoc, List.length_cons, stopsR, cond_false, stopR_encS (h s (List.mem_cons_self ..)), ih]
    simp
theorem varsR_enc : ∀ (vs : List VarV), (∀ v ∈ vs, VarBd v) → ∀ (q : List UInt8) (l : List VarV), varsR vs.length (vs.flatMap encW ++ q) false l = (l ++ vs, q, false)
  | [], _, q, l => by simp [varsR]
  | s :: r, h, q, l => by
    have ih := varsR_enc r (fun x hx => h x (List.mem_cons_of_mem _ hx)) q (l ++ [s])
    rw [List.flatMap_cons, List.append_assoc, List.length_cons, varsR, cond_false, varR_encW (h s (List.mem_cons_self ..)), ih]
    simp
theorem get_put {ss : List StopV} {vs : List VarV} (h : GoodT ss vs) : getR (putF ss vs) = (ss, vs, [], false) := by
  have e : putF ss vs = numI (ss.length : Int) ++ (ss.flatMap encS ++ (numI (vs.length : Int) ++ (vs.flatMap encW ++ []))) := by simp [putF, numI]
  have h1 : ss.length ≤ 10000 := h.1.2
  have h2 : vs.length ≤ 10000 := h.2.1
  rw [e]
  simp only [getR, numR_numI (most := 10000) (z := (ss.length : Int)) (by omega) (by omega) (by omega), numR_numI (most := 10000) (z := (vs.length : Int)) (by omega) (by omega) (by omega), Int.toNat_natCast, stopsR_enc ss (fun s hs => h.stop hs), varsR_enc vs (fun v hv => var_bd (h.var hv)), List.nil_append]
theorem put_inj {ss ss' : List StopV} {vs vs' : List VarV} (h : GoodT ss vs) (h' : GoodT ss' vs') (e : putF ss vs = putF ss' vs') : ss = ss' ∧ vs = vs' := by
  have h1 := get_put h
  rw [e, get_put h'] at h1
  simp only [Prod.mk.injEq, and_true] at h1
  exact ⟨h1.1.symm, h1.2.symm⟩
/-! Whatever is read well is read so with more behind it. -/
theorem rdK_ext (most : Int) (q : List UInt8) : ∀ (p : List UInt8) (k v n : Nat) (r : List UInt8), rdK most k v p = some (n, r) → rdK most k v (p ++ q) = some (n, r ++ q)
  | [], k, v, n, r, h => by simp [rdK] at h
  | c :: p, k, v, n, r, h => by
    rw [List.cons_append, rdK]
    rw [rdK] at h
    split at h
    · cases h
    · rename_i h5
      rw [if_neg h5]
      split at h
      · rename_i h6
        rw [if_pos h6]
        split at h
        · cases h
        · rename_i h7
          rw [if_neg h7]
          simp only [Option.some.injEq, Prod.mk.injEq] at h ⊢
          exact ⟨h.1, by rw [h.2]⟩
      · rename_i h6
        rw [if_neg h6]
        exact rdK_ext most q p _ _ _ _ h
theorem numR_ext {most : Int} {p r : List UInt8} {bad : Bool} {x : Int} (q : List UInt8) (h : numR most p bad = (x, r, false)) : bad = false ∧ numR most (p ++ q) bad = (x, r ++ q, false) := by
  unfold numR at h ⊢
  split at h
  · rename_i v r' hr
    simp only [Prod.mk.injEq] at h
    obtain ⟨h1, h2, h3⟩ := h
    rw [rdK_ext most q p _ _ _ _ hr]
    simp only [h1, h2, h3]
    exact ⟨trivial, trivial⟩
  · simp at h
theorem txtR_ext {most : Int} {p r : List UInt8} {bad : Bool} {x : ByteArray} (q : List UInt8) (h : txtR most p bad = (x, r, false)) : bad = false ∧ txtR most (p ++ q) bad = (x, r ++ q, false) := by
  have hn := numR_nn most p bad
  unfold txtR at h ⊢
  rcases h1 : numR most p bad with ⟨n, p1, b1⟩
  rw [h1] at h hn
  simp only at h hn
  split at h
  · simp at h
  · rename_i hc
    simp only [Prod.mk.injEq] at h
    obtain ⟨k1, k2, rfl⟩ := h
    obtain ⟨hb, e1⟩ := numR_ext q h1
    refine ⟨hb, ?_⟩
    rw [e1]
    simp only
    rw [if_neg (by simp only [List.length_append]; omega)]
    rw [List.take_append_of_le_length (by omega), List.drop_append_of_le_length (by omega), k1, k2]
theorem stopR_ext {p r : List UInt8} {bad : Bool} {x : StopV} (q : List UInt8) (h : stopR p bad = (x, r, false)) : bad = false ∧ stopR (p ++ q) bad = (x, r ++ q, false) := by
  rcases h1 : numR 2147483647 p bad with ⟨n1, p1, b1⟩
  rcases h2 : numR 2147483647 p1 b1 with ⟨n2, p2, b2⟩
  rcases h3 : numR 2147483647 p2 b2 with ⟨n3, p3, b3⟩
  rcases h4 : numR 2147483647 p3 b3 with ⟨n4, p4, b4⟩
  have e : stopR p bad = (⟨n1, n2, n3, n4⟩, p4, b4) := by simp only [stopR, h1, h2, h3, h4]
  rw [e] at h
  simp only [Prod.mk.injEq] at h
  obtain ⟨rfl, rfl, rfl⟩ := h
  obtain ⟨rfl, e4⟩ := numR_ext q h4
  obtain ⟨rfl, e3⟩ := numR_ext q h3
  obtain ⟨rfl, e2⟩ := numR_ext q h2
  obtain ⟨rfl, e1⟩ := numR_ext q h1
  exact ⟨rfl, by simp only [stopR, e1, e2, e3, e4]⟩
theorem varR_ext {p r : List UInt8} {bad : Bool} {x : VarV} (q : List UInt8) (h : varR p bad = (x, r, false)) : bad = false ∧ varR (p ++ q) bad = (x, r ++ q, false) := by
  rcases h1 : numR 2147483647 p bad with ⟨n1, p1, b1⟩
  rcases h2 : numR 2147483647 p1 b1 with ⟨n2, p2, b2⟩
  rcases h3 : txtR 4000 p2 b2 with ⟨n3, p3, b3⟩
  rcases h4 : numR 3 p3 b3 with ⟨n4, p4, b4⟩
  rcases h5 : numR 65535 p4 b4 with ⟨n5, p5, b5⟩
  rcases h6 : txtR 4000000 p5 b5 with ⟨n6, p6, b6⟩
  have e : varR p bad = (⟨n1, n2, n3, n4, n5, n6⟩, p6, b6) := by simp only [varR, h1, h2, h3, h4, h5, h6]
  rw [e] at h
  simp only [Prod.mk.injEq] at h
  obtain ⟨rfl, rfl, rfl⟩ := h
  obtain ⟨rfl, e6⟩ := txtR_ext q h6
  obtain ⟨rfl, e5⟩ := numR_ext q h5
  obtain ⟨rfl, e4⟩ := numR_ext q h4
  obtain ⟨rfl, e3⟩ := txtR_ext q h3
  obtain ⟨rfl, e2⟩ := numR_ext q h2
  obtain ⟨rfl, e1⟩ := numR_ext q h1
  exact ⟨rfl, by simp only [varR, e1, e2, e3, e4, e5, e6]⟩
theorem stopsR_ext (q : List UInt8) : ∀ (n : Nat) (p : List UInt8) (bad : Bool) (l x : List StopV) (r : List UInt8), stopsR n p bad l = (x, r, false) → bad = false ∧ stopsR n (p ++ q) bad l = (x, r ++ q, false)
  | 0, p, bad, l, x, r, h => by
    simp only [stopsR, Prod.mk.injEq] at h ⊢
    obtain ⟨rfl, rfl, rfl⟩ := h
    exact ⟨rfl, rfl, rfl, rfl⟩
  | n + 1, p, bad, l, x, r, h => by
    cases bad with
    | true => simp [stopsR] at h
    | false =>
      rcases h1 : stopR p false with ⟨s, p1, b1⟩
      simp only [stopsR, cond_false, h1] at h ⊢
      obtain ⟨rfl, e2⟩ := stopsR_ext q n p1 b1 _ _ _ h
      obtain ⟨_, e1⟩ := stopR_ext q h1
      rw [e1]
      exact ⟨trivial, e2⟩
theorem varsR_ext (q : List UInt8) : ∀ (n : Nat) (p : List UInt8) (bad : Bool) (l x : List VarV) (r : List UInt8), varsR n p bad l = (x, r, false) → bad = false ∧ varsR n (p ++ q) bad l = (x, r ++ q, false)
  | 0, p, bad, l, x, r, h => by
    simp only [varsR, Prod.mk.injEq] at h ⊢
    obtain ⟨rfl, rfl, rfl⟩ := h
    exact ⟨rfl, rfl, rfl, rfl⟩
  | n + 1, p, bad, l, x, r, h => by
    cases bad with
    | true => simp [varsR] at h
    | false =>
      rcases h1 : varR p false with ⟨s, p1, b1⟩
      simp only [varsR, cond_false, h1] at h ⊢
      obtain ⟨rfl, e2⟩ := varsR_ext q n p1 b1 _ _ _ h
      obtain ⟨_, e1⟩ := varR_ext q h1
      rw [e1]
      exact ⟨trivial, e2⟩
theorem getR_ext {p r : List UInt8} {ss : List StopV} {vs : List VarV} (q : List UInt8) (h : getR p = (ss, vs, r, false)) : getR (p ++ q) = (ss, vs, r ++ q, false) := by
  rcases h1 : numR 10000 p false with ⟨n1, p1, b1⟩
  rcases h2 : stopsR n1.toNat p1 b1 [] with ⟨l, p2, b2⟩
  rcases h3 : numR 10000 p2 b2 with ⟨n3, p3, b3⟩
  rcases h4 : varsR n3.toNat p3 b3 [] with ⟨m, p4, b4⟩
  have e : getR p = (l, m, p4, b4) := by simp only [getR, h1, h2, h3, h4]
  rw [e] at h
  simp only [Prod.mk.injEq] at h
  obtain ⟨rfl, rfl, rfl, rfl⟩ := h
  obtain ⟨rfl, e4⟩ := varsR_ext q _ _ _ _ _ _ h4
  obtain ⟨rfl, e3⟩ := numR_ext q h3
  obtain ⟨rfl, e2⟩ := stopsR_ext q _ _ _ _ _ _ h2
  obtain ⟨_, e1⟩ := numR_ext q h1
  simp only [getR, e1, e2, e3, e4]
theorem get_cut {ss : List StopV} {vs : List VarV} (h : GoodT ss vs) (c : Nat) (hc : c < (putF ss vs).length) : ¬ ((getR ((putF ss vs).take c)).2.2.2 = false ∧ (getR ((putF ss vs).take c)).2.2.1 = [] ∧ GoodT (getR ((putF ss vs).take c)).1 (getR ((putF ss vs).take c)).2.1) := by
  rintro ⟨h1, h2, _⟩
  rcases hg : getR ((putF ss vs).take c) with ⟨l, m, r, b⟩
  rw [hg] at h1 h2
  simp only at h1 h2
  subst h1; subst h2
  have h3 := getR_ext ((putF ss vs).drop c) hg
  rw [List.take_append_drop, get_put h] at h3
  simp only [Prod.mk.injEq, List.nil_append] at h3
  have := congrArg List.length h3.2.2.1
  simp at this
  omega
end Go.Proofs.Ytmmpcomfhcpicaa
