/-
  Package snap's Diff, plain: pieces put one behind the other.
-/
import Derived.Test.YtpahkfadibcdgaaSnap5
import Derived.Test.YtpahkfadibcdgaaCode1
set_option linter.unusedSimpArgs false
set_option linter.unusedVariables false
namespace Go.Proofs.Ytpahkfadibcdgaa
open Go.Abs
def writF (x : List UInt8) : List UInt8 := if x = [] then [] else 2 :: (numS x.length ++ x)
def copF (frm many : Nat) : List UInt8 := if many = 0 then [] else 1 :: (numS frm ++ numS many)
theorem rd_num {n : Nat} (hn : n < 2 ^ 63) (rest : List UInt8) : rdG 0 0 (numS n ++ rest) = some (n, (numS n).length, true) := by
  have h1 := grp_num n 0 0 rest (by simp; omega) (by omega) (.inl rfl)
  rcases rd_cases (numS n ++ rest) with ⟨a, m, e1, e2⟩ | ⟨hn', hg⟩
  · rw [h1] at e2
    simp only [Option.some.injEq, Prod.mk.injEq] at e2
    rw [e1, ← e2.1, ← e2.2]
    simp
  · rcases hg with hg | ⟨a, m, hg, h63⟩
    · rw [h1] at hg; cases hg
    · rw [h1] at hg
      simp only [Option.some.injEq, Prod.mk.injEq] at hg
      omega
theorem piece_writ {old x : List UInt8} (p : List UInt8) (hx : x ≠ []) (hl : x.length < 2 ^ 63) : pieceF old (writF x ++ p) = some (x, p) := by
  have h0 : 0 < x.length := List.length_pos_iff.2 hx
  simp only [writF, hx, if_false, List.cons_append, List.append_assoc, pieceF]
  have h2 : (2 : UInt8).toNat = 2 := rfl
  rw [h2, if_neg (by decide), rd_num hl]
  simp only [List.drop_left]
  rw [if_neg (by simp; omega), List.take_left]
theorem piece_cop {old : List UInt8} {frm many : Nat} (p : List UInt8) (hm : many ≠ 0) (hl : frm + many ≤ old.length) (ho : old.length < 2 ^ 63) : pieceF old (copF frm many ++ p) = some ((old.drop frm).take many, p) := by
  simp only [copF, hm, if_false, List.cons_append, List.append_assoc, pieceF]
  have h2 : (1 : UInt8).toNat = 1 := rfl
  rw [h2, if_pos rfl, rd_num (by omega)]
  simp only [List.drop_left]
  rw [rd_num (by omega)]
  simp only [List.drop_left]
  rw [if_neg (by omega)]
/-- What a patch makes. -/
def Makes (old p out : List UInt8) : Prop := ∀ acc q, acc.length + out.length ≤ 4194304 → applyF old (p ++ q) acc false = applyF old q (acc ++ out) false
theorem makes_nil (old : List UInt8) : Makes old [] [] := fun acc q _ => by simp
theorem makes_app {old p1 o1 p2 o2 : List UInt8} (h1 : Makes old p1 o1) (h2 : Makes old p2 o2) : Makes old (p1 ++ p2) (o1 ++ o2) := fun acc q h => by
  simp only [List.length_append] at h
  rw [List.append_assoc, h1 acc _ (by omega), h2 _ _ (by simp; omega), List.append_assoc]
theorem makes_one {old p out : List UInt8} (h : ∀ q, pieceF old (p ++ q) = some (out, q)) : Makes old p out := fun acc q hl => by
  rw [applyF_some (h q)]
  have : decide (4194304 - acc.length < out.length) = false := by simp; omega
  rw [this]; rfl
theorem makes_writ (old x : List UInt8) (hl : x.length < 2 ^ 63) : Makes old (writF x) x := by
  by_cases h : x = []
  · subst h; exact makes_nil old
  · exact makes_one fun q => piece_writ q h hl
theorem makes_cop {old : List UInt8} {frm many : Nat} (hl : frm + many ≤ old.length) (ho : old.length < 2 ^ 63) : Makes old (copF frm many) ((old.drop frm).take many) := by
  by_cases h : many = 0
  · subst h; simpa [copF] using makes_nil old
  · exact makes_one fun q => piece_cop q h hl ho
theorem makes_apply {old p out : List UInt8} (h : Makes old p out) (hl : out.length ≤ 4194304) : applyF old p [] false = some (out, false) := by
  have := h [] [] (by simpa using hl)
  rw [List.append_nil, applyF_nil] at this
  simpa using this
/-- One of Diff's patches. -/
def candP (old new : List UInt8) (a b : Nat) : List UInt8 := copF 0 a ++ writF ((new.drop a).take (new.length - b - a)) ++ copF (old.length - b) b
def CandOk (old new : List UInt8) (a b : Nat) : Prop := a + b ≤ old.length ∧ a + b ≤ new.length ∧ old.take a = new.take a ∧ old.drop (old.length - b) = new.drop (new.length - b)
theorem cand_makes {old new : List UInt8} {a b : Nat} (h : CandOk old new a b) (ho : old.length < 2 ^ 63) (hn : new.length < 2 ^ 63) : Makes old (candP old new a b) new := by
  obtain ⟨h1, h2, h3, h4⟩ := h
  have k1 := makes_cop (old := old) (frm := 0) (many := a) (by omega) ho
  have k2 := makes_writ old ((new.drop a).take (new.length - b - a)) (by simp; omega)
  have k3 := makes_cop (old := old) (frm := old.length - b) (many := b) (by omega) ho
  have := makes_app (makes_app k1 k2) k3
  have e : (old.drop 0).take a ++ (new.drop a).take (new.length - b - a) ++ (old.drop (old.length - b)).take b = new := by
    rw [List.drop_zero, h3, h4, List.take_of_length_le (l := new.drop (new.length - b)) (by simp; omega)]
    have e1 : new.take a ++ (new.drop a).take (new.length - b - a) = new.take (new.length - b) := by
      have := List.take_add (l := new) (i := a) (j := new.length - b - a)
      rw [← this]
      congr 1; omega
    rw [e1, List.take_append_drop]
  rw [e] at this
  exact this
theorem CandOk.left {old new : List UInt8} {a b : Nat} (h : CandOk old new a b) : CandOk old new a 0 := ⟨by have := h.1; omega, by have := h.2.1; omega, h.2.2.1, by simp⟩
theorem CandOk.right {old new : List UInt8} {a b : Nat} (h : CandOk old new a b) : CandOk old new 0 b := ⟨by have := h.1; omega, by have := h.2.1; omega, by simp, h.2.2.2⟩
/-- What Diff answers. -/
structure DiffP (old new p : List UInt8) : Prop where
  makes : Makes old p new
  short : p.length ≤ (writF new).length
  same : old = new → p.length ≤ (copF 0 old.length).length
theorem writ_len {x : List UInt8} (h : x.length < 2097152) : (writF x).length ≤ x.length + 4 := by
  unfold writF
  split
  · simp
  · have := numS_len 2 x.length (by simpa using h)
    simp; omega
theorem writ_len' (x : List UInt8) (h : x.length < 2 ^ 63) : (writF x).length ≤ x.length + 10 := by
  unfold writF
  split
  · simp
  · have := numS_len 8 x.length (by have : (128 : Nat) ^ 9 = 2 ^ 63 := by decide
                                    omega)
    simp; omega
theorem cop_len {a : Nat} (h : a < 2097152) : (copF 0 a).length ≤ 5 := by
  unfold copF
  split
  · simp
  · have := numS_len 2 a (by simpa using h)
    have h0 := numS_len 0 0 (by decide)
    simp; omega
end Go.Proofs.Ytpahkfadibcdgaa
