/-
  Package info, plain: what Put writes, Get reads again; cut short it is none.
-/
import Derived.Test.YtmmpcomfhcpicaaInf8
set_option linter.unusedSimpArgs false
set_option linter.unusedVariables false
set_option maxRecDepth 100000
namespace Go.Proofs.Ytmmpcomfhcpicaa
theorem rdK_numS (most : Int) (q : List UInt8) : ∀ (n k v : Nat), v < 128 ^ k → (numS n).length + k ≤ 5 → ((v + n * 128 ^ k : Nat) : Int) ≤ most → (k = 0 ∨ 0 < n) → rdK most k v (numS n ++ q) = some (v + n * 128 ^ k, q) := by
  intro n
  induction n using Nat.strongRecOn with
  | _ n ih =>
    intro k v hv hl hm hk
    by_cases h : n < 128
    · rw [numS_lt h] at hl ⊢
      have hc : (UInt8.ofNat n).toNat = n := by simp; omega
      have h5 : ¬ 5 ≤ k := by simp at hl; omega
      have hmod : n % 128 = n := Nat.mod_eq_of_lt h
      simp only [List.singleton_append, rdK, if_neg h5, hc, if_pos h, hmod]
      rw [if_neg]
      rintro (⟨h1, h2⟩ | h1)
      · omega
      · omega
    · rw [numS_ge h] at hl ⊢
      have hc : (UInt8.ofNat (n % 128 + 128)).toNat = n % 128 + 128 := by simp; omega
      have h5 : ¬ 5 ≤ k := by simp at hl; omega
      have h6 : ¬ n % 128 + 128 < 128 := by omega
      have hmod : (n % 128 + 128) % 128 = n % 128 := by omega
      simp only [List.cons_append, rdK, if_neg h5, hc, if_neg h6, hmod]
      have e : v + n % 128 * 128 ^ k + n / 128 * 128 ^ (k + 1) = v + n * 128 ^ k := by
        have h1 : n / 128 * 128 ^ (k + 1) = (n / 128 * 128) * 128 ^ k := by rw [Nat.pow_succ, Nat.mul_comm (128 ^ k) 128, Nat.mul_assoc]
        have h2 : n % 128 * 128 ^ k + n / 128 * 128 * 128 ^ k = n * 128 ^ k := by rw [← Nat.add_mul]; congr 1; omega
        omega
      rw [ih (n / 128) (by omega) (k + 1) _ (Go.Abs.group_lt hv (Nat.mod_lt _ (by decide))) (by simp at hl ⊢; omega) (by rw [e]; exact hm) (.inr (by omega)), e]
theorem numR_numI {most z : Int} (h0 : 0 ≤ z) (h1 : z ≤ most) (h2 : z ≤ 2147483647) (q : List UInt8) (bad : Bool) : numR most (numI z ++ q) bad = (z, q, bad) := by
  have hl := numS_len 4 z.toNat (by have : (128 : Nat) ^ (4 + 1) = 34359738368 := by decide
                                    omega)
  have := rdK_numS most q z.toNat 0 0 (by simp) (by omega) (by simp; omega) (.inl rfl)
  simp only [Nat.pow_zero, Nat.mul_one, Nat.zero_add] at this
  simp only [numR, numI, this, Prod.mk.injEq, and_true]
  omega
theorem txtR_txtF {most : Int} {s : ByteArray} (h1 : (s.size : Int) ≤ most) (h2 : s.size ≤ 2147483647) (q : List UInt8) (bad : Bool) : txtR most (txtF s ++ q) bad = (s, q, bad) := by
  have h := numR_numI (most := most) (z := (s.size : Int)) (by omega) h1 (by omega) (s.data.toList ++ q) bad
  have e : numI (s.size : Int) ++ (s.data.toList ++ q) = txtF s ++ q := by simp [numI, txtF]
  rw [e] at h
  have hs : s.data.toList.length = s.size := rfl
  unfold txtR
  rw [h]
  rw [if_neg (by simp only [List.length_append, hs]; omega)]
  simp only [Int.toNat_natCast, Prod.mk.injEq, and_true]
  rw [← hs, List.take_left, List.drop_left]
  exact ⟨rfl, rfl⟩
theorem stopR_encS {s : StopV} (h : stopB s = true) (q : List UInt8) : stopR (encS s ++ q) false = (s, q, false) := by
  have hz := stop_bd h
  have e : encS s ++ q = numI s.pc ++ (numI s.at_ ++ (numI s.line ++ (numI s.col ++ q))) := by simp [encS, stopI]
  have b1 := hz s.pc (by simp [stopI])
  have b2 := hz s.at_ (by simp [stopI])
  have b3 := hz s.line (by simp [stopI])
  have b4 := hz s.col (by simp [stopI])
  rw [e]
  simp only [stopR, numR_numI b1.1 b1.2 b1.2, numR_numI b2.1 b2.2 b2.2, numR_numI b3.1 b3.2 b3.2, numR_numI b4.1 b4.2 b4.2]
theorem varR_encW {v : VarV} (h : VarBd v) (q : List UInt8) : varR (encW v ++ q) false = (v, q, false) := by
  have e : encW v ++ q = numI v.frm ++ (numI v.to ++ (txtF v.name ++ (numI v.kind ++ (numI v.n ++ (txtF v.typ ++ q))))) := by simp [encW]
  have b1 := h.frm
  have b2 := h.to
  have b3 := h.name
  have b4 := h.kind
  have b5 := h.n
  have b6 := h.typ
  rw [e]
  simp only [varR, numR_numI b1.1 b1.2 b1.2, numR_numI b2.1 b2.2 b2.2, txtR_txtF (most := 4000) (s := v.name) (by omega) (by omega), numR_numI (z := v.kind) (most := 3) (by omega) b4.2 (by omega), numR_numI (z := v.n) (most := 65535) b5.1 b5.2 (by omega), txtR_txtF (most := 4000000) (s := v.typ) (by omega) (by omega)]
theorem stopsR_enc : ∀ (ss : List StopV), (∀ s ∈ ss, stopB s = true) → ∀ (q : List UInt8) (l : List StopV), stopsR ss.length (ss.flatMap encS ++ q) false l = (l ++ ss, q, false)
  | [], _, q, l => by simp [stopsR]
  | s :: r, h, q, l => by
    have ih := stopsR_enc r (fun x hx => h x (List.mem_cons_of_mem _ hx)) q (l ++ [s])
    rw [List.flatMap_cons, List.append_assoc, List.length_cons, stopsR, cond_false, stopR_encS (h s (List.mem_cons_self ..)), ih]
    simp
theorem varsR_enc : ∀ (vs : List VarV), (∀ v ∈ vs, VarBd v) → ∀ (q : List UInt8) (l : List VarV), varsR vs.length (vs.flatMap encW ++ q) false l = (l ++ vs, q, false)
  | [], _, q, l => by simp [varsR]
  | s :: r, h, q, l => by
    have ih := varsR_enc r (fun x hx => h x (List.mem_cons_of_mem _ hx)) q (l ++ [s])
    rw [List.flatMap_cons, List.append_assoc, List.length_cons, varsR, cond_false, varR_encW (h s (List.mem_cons_self ..)), ih]
    simp
theorem get_put {ss : List StopV} {vs : List VarV} (h : GoodT ss vs) : getR (putF ss vs) = (ss, vs, [], false) := by
  have e : putF ss vs = numI (ss.length : Int) ++ (ss.flatMap encS ++ (numI (vs.length : Int) ++ (vs.flatMap encW ++ []))) := by simp [putF, numI]
  have h1 : ss.length ≤ 10000 := h.1.2
  have h2 : vs.length ≤ 10000 := h.2.1
  rw [e]
  simp only [getR, numR_numI (most := 10000) (z := (ss.length : Int)) (by omega) (by omega) (by omega), numR_numI (most := 10000) (z := (vs.length : Int)) (by omega) (by omega) (by omega), Int.toNat_natCast, stopsR_enc ss (fun s hs => h.stop hs), varsR_enc vs (fun v hv => var_bd (h.var hv)), List.nil_append]
/-! Whatever is read well is read so with more behind it. -/
end Go.Proofs.Ytmmpcomfhcpicaa
