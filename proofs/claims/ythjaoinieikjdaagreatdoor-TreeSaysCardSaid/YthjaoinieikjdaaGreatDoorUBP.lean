/-
  The document's own trees: the walks (a node az a text).
-/
import Derived.Test.YthjaoinieikjdaaGreatDoorUBO
import Derived.Test.YthjaoinieikjdaaGreatDoorUBL
import Derived.Test.YthjaoinieikjdaaGreatDoorUBG
set_option maxHeartbeats 64000000
set_option linter.unusedSimpArgs false
set_option linter.unusedVariables false
set_option maxRecDepth 100000
namespace Go.Proofs.YthjaoinieikjdaaGreatDoor
open Go.Abs
theorem tX : (((⟨#[40, 102, 117, 110, 32]⟩ : ByteArray) : ByteArray) = (⟨#[40]⟩ : ByteArray) ++ (⟨#[102, 117, 110, 32]⟩ : ByteArray)) ∧ (((⟨#[40, 108, 101, 116, 32]⟩ : ByteArray) : ByteArray) = (⟨#[40]⟩ : ByteArray) ++ (⟨#[108, 101, 116, 32]⟩ : ByteArray)) ∧ (((⟨#[40, 108, 101, 116, 32, 114, 101, 99, 32]⟩ : ByteArray) : ByteArray) = (⟨#[40]⟩ : ByteArray) ++ (⟨#[108, 101, 116, 32, 114, 101, 99, 32]⟩ : ByteArray)) ∧ (((⟨#[40, 105, 102, 32]⟩ : ByteArray) : ByteArray) = (⟨#[40]⟩ : ByteArray) ++ (⟨#[105, 102, 32]⟩ : ByteArray)) ∧ (((⟨#[40, 109, 97, 116, 99, 104, 32]⟩ : ByteArray) : ByteArray) = (⟨#[40]⟩ : ByteArray) ++ (⟨#[109, 97, 116, 99, 104, 32]⟩ : ByteArray)) ∧ (((⟨#[40, 114, 101, 102, 32]⟩ : ByteArray) : ByteArray) = (⟨#[40]⟩ : ByteArray) ++ (⟨#[114, 101, 102, 32]⟩ : ByteArray)) ∧ (((⟨#[40, 33, 32]⟩ : ByteArray) : ByteArray) = (⟨#[40]⟩ : ByteArray) ++ (⟨#[33, 32]⟩ : ByteArray)) ∧ (((⟨#[40, 112, 114, 105, 110, 116, 32]⟩ : ByteArray) : ByteArray) = (⟨#[40]⟩ : ByteArray) ++ (⟨#[112, 114, 105, 110, 116, 32]⟩ : ByteArray)) ∧ (((⟨#[40, 114, 97, 105, 115, 101, 32]⟩ : ByteArray) : ByteArray) = (⟨#[40]⟩ : ByteArray) ++ (⟨#[114, 97, 105, 115, 101, 32]⟩ : ByteArray)) ∧ (((⟨#[40, 116, 114, 121, 32]⟩ : ByteArray) : ByteArray) = (⟨#[40]⟩ : ByteArray) ++ (⟨#[116, 114, 121, 32]⟩ : ByteArray)) ∧ (((⟨#[32, 101, 110, 100, 41]⟩ : ByteArray) : ByteArray) = (⟨#[32, 101, 110, 100]⟩ : ByteArray) ++ (⟨#[41]⟩ : ByteArray)) ∧ (((⟨#[40, 40]⟩ : ByteArray) : ByteArray) = (⟨#[40]⟩ : ByteArray) ++ (⟨#[40]⟩ : ByteArray)) ∧ (((⟨#[41, 32]⟩ : ByteArray) : ByteArray) = (⟨#[41]⟩ : ByteArray) ++ (⟨#[32]⟩ : ByteArray)) := ⟨(jX [40] [102, 117, 110, 32]).symm, (jX [40] [108, 101, 116, 32]).symm, (jX [40] [108, 101, 116, 32, 114, 101, 99, 32]).symm, (jX [40] [105, 102, 32]).symm, (jX [40] [109, 97, 116, 99, 104, 32]).symm, (jX [40] [114, 101, 102, 32]).symm, (jX [40] [33, 32]).symm, (jX [40] [112, 114, 105, 110, 116, 32]).symm, (jX [40] [114, 97, 105, 115, 101, 32]).symm, (jX [40] [116, 114, 121, 32]).symm, (jX [32, 101, 110, 100] [41]).symm, (jX [40] [40]).symm, (jX [41] [32]).symm⟩
theorem mkRN {tm : PM AV} {d : Option Tmp} : fQ E tm (fP d (.alloc 69)) = some ⟨.cells zN, some (69, zN.length), fun n => .ptr n 0⟩ := by kernel_rfl
theorem ww8 : ∀ k : List ByteArray, dI (iN k) ≤ 2 * dI k
 | [] => by simp [iN, dI]
 | [a] => by simp [iN, dI]
 | a :: b :: r => by
  have := ww8 r
  have e : ((⟨#[32, 45, 62, 32]⟩ : ByteArray)).size = 4 := rfl
  rw [iN, qA, qA, qA]
  simp only [dQ, e]
  omega
theorem wz5 (t : TreeV) (nx tx X : AV) (ht : RIs nx tx t) (x : NodeV) (ks : List ByteArray) (p m : Nat) (S S5 : St) (tm : PM AV) (hkr : 1 ≤ x.kind ∧ x.kind ≤ 26) (hfit : qL x = false → wU x ks.length) (hkl : ks.length = x.kids.length) (hl : ks.length ≤ 1000)
 (hq : ∀ h : 0 < x.kids.length, ∃ q : Nat, x.kids[0] = ((q : Nat) : Int) ∧ q < t.nodes.length) (hn : x.name.size ≤ 1000) (hp : x.param.size ≤ 1000) (hz : (x.kind = 1 ∨ x.kind = 23) → 0 ≤ x.n ∧ x.n ≤ 4611686018427387903) (hs : dI ks ≤ 90000) (hX : IsV 1 X (aN ks)) (hT : S5.obj p = some [nx, tx]) (hN' : S5.obj m = some (aL x)) (hpb : p < S5.no) (hmb : m < S5.no) (hG : Grow S S5 aA)
 (t2 : getT tm 2 = .ptr p 0) (t5 : getT tm 5 = .ptr m 0) (t6 : getT tm 6 = X) : aV E 290 [.c (PC.seq (.seq (.reg r67_8) (.block 2 (.seq (.seq (.reg r67_9) (.cond (.tmp 35) .skip (.reg r67_10))) (.cond (.tmp 35) (.seq (.reg r67_11) .ret) (.seq (.seq (.reg r67_12) (.cond (.tmp 41) .skip (.reg r67_13))) (.cond (.tmp 41) (.seq (.seq (.reg r67_14) (.cond (.tmp 46) (.seq (.reg r67_15) .ret) .skip)) (.seq (.reg r67_16) .ret)) (.seq (.seq (.reg r67_17) (.cond (.tmp 47) .skip (.reg r67_18))) (.cond (.tmp 47) (.seq (.reg r67_19) .ret) (.seq (.seq (.reg r67_20) (.cond (.tmp 50) .skip (.reg r67_21))) (.cond (.tmp 50) (.seq (.reg r67_22) .ret) (.seq (.seq (.reg r67_23) (.cond (.tmp 55) .skip (.reg r67_24))) (.cond (.tmp 55) (.seq (.seq (.reg r67_25) (.cond (.tmp 60) (.seq (.reg r67_26) .ret) .skip)) (.seq (.draw d67_0) .ret)) (.seq (.reg r67_29) (.cond (.tmp 70) (.seq (.regD 10 r67_30) .ret) (.seq (.reg r67_31) (.cond (.tmp 81) (.seq (.seq (.draw d67_1) (.seq (.reg r67_34) (.cond (.tmp 99) (.seq (.regD 11 r67_35) .ret) .skip))) (.seq (.regD 11 r67_36) .ret)) (.seq (.reg r67_37) (.cond (.tmp 120) (.seq (.regD 15 r67_38) .ret) (.seq (.reg r67_39) (.cond (.tmp 136) (.seq (.regD 19 r67_40) .ret) (.seq (.reg r67_41) (.cond (.tmp 156) (.seq (.regD 16 r67_42) .ret) (.seq (.reg r67_43) (.cond (.tmp 173) (.seq (.reg r67_44) (.seq (.seq (.reg r67_45) (.block 3 (.loop b67_49))) (.seq (.draw d67_2) .ret))) (.seq (.reg r67_52) (.cond (.tmp 204) (.seq (.regD 11 r67_53) .ret) (.seq (.reg r67_54) (.cond (.tmp 216) (.seq (.regD 11 r67_55) .ret) (.seq (.reg r67_56) (.cond (.tmp 228) (.seq (.regD 15 r67_57) .ret) (.seq (.reg r67_58) (.cond (.tmp 244) (.seq (.reg r67_59) .ret) (.seq (.reg r67_60) (.cond (.tmp 251) (.seq (.reg r67_61) .ret) (.seq (.reg r67_62) (.cond (.tmp 258) (.seq (.reg r67_63) .ret) (.seq (.reg r67_64) (.cond (.tmp 265) (.seq (.reg r67_65) .ret) (.seq (.reg r67_66) (.cond (.tmp 267) (.seq (.reg r67_67) .ret) (.seq (.reg r67_68) (.cond (.tmp 274) (.seq (.regD 15 r67_69) .ret) .skip)))))))))))))))))))))))))))))))))))))))))) (.seq (.reg r67_70) .ret))] .nrm tm S5 (kB E [.tmp 4] fun r S' => r = .sc (.string (fC t.nodes x ks)) ∧ Grow S S' aA) := by
 have hN := hN'
 simp only [aL] at hN
 have z0 : (kd ks 0).size + (kd ks 1).size + (kd ks 2).size ≤ 90000 := cK (zV ks) hs
 have i0 : 0 < ks.length → ∀ S, bT 1 X (some 0) S = some (.eptr [.sc (.string (kd ks 0))] 0, S) := fun h S => by rw [sL h]; exact iY hX (k := 0) h S
 have i1 : 1 < ks.length → ∀ S, bT 1 X (some 1) S = some (.eptr [.sc (.string (kd ks 1))] 0, S) := fun h S => by rw [sL h]; exact iY hX (k := 1) h S
 have i2 : 2 < ks.length → ∀ S, bT 1 X (some 2) S = some (.eptr [.sc (.string (kd ks 2))] 0, S) := fun h S => by rw [sL h]; exact iY hX (k := 2) h S
 rcases kn6 x with hk | hk | hk | hk | hk | hk | hk | hk | hk | hk | hk | hk | hleaf
 case inl | inr.inl =>
  have hz := hz (by omega)
  simp only [SXa, Nat.reduceEqDiff, Int.reduceBEq, P67, t5, hN, aE, bP, aG, aD, aM, aF, hk]
  have e : x.n = ((x.n.toNat : Nat) : Int) := by omega
  rw [e]
  refine aT (wo9 (x.n.toNat + 1) x.n.toNat (bJ _) (by omega)) hG (fun S6 g6 hG6 => ?_)
  simp only [SXa, Nat.reduceEqDiff]
  exact ⟨by rw [← e]; simp only [fC, fX, brk, kU, kI, Int.reduceBEq, cR, cA, dD, bK, aH, aK, hk], hG6⟩
 case inr.inr.inl | inr.inr.inr.inl =>
  cases c : (x.n == 1) <;> simp only [SXa, Nat.reduceEqDiff, Int.reduceBEq, P67, t5, hN, aE, bP, aG, aD, aM, aF, hk, c]
  · exact ⟨by simp only [fC, fX, brk, kU, kI, Int.reduceBEq, cR, cA, dD, bK, aH, aK, hk, c], hG⟩
  · exact ⟨by simp only [fC, fX, brk, kU, kI, Int.reduceBEq, cR, cA, dD, bK, aH, aK, hk, c], hG⟩
 case inr.inr.inr.inr.inr.inr.inr.inr.inr.inr.inl | inr.inr.inr.inr.inr.inr.inr.inr.inr.inr.inr.inl =>
  cases hks : ks with
  | nil =>
   have l0 : ∀ S, iF X S = some (.sc (.int .i64 0), S) := fun S => by rw [iG hX, hks]; rfl
   simp only [SXa, Nat.reduceEqDiff, Int.reduceBEq, P67, t5, t6, hN, aE, bP, aG, aD, aM, aF, hk, l0]
   exact ⟨by simp only [fC, fX, brk, kU, kI, Int.reduceBEq, cR, cA, dD, bK, aH, aK, hk], hG⟩
  | cons a r =>
   have c0 : (((ks.length : Nat) : Int) == 0) = false := by
    rw [nE, hks]; simp only [aY]; omega
   have hj := qD ks (⟨#[44, 32]⟩ : ByteArray) (by decide)
   simp only [SXa, Nat.reduceEqDiff, Int.reduceBEq, P67, t5, t6, hN, aE, bP, aG, aD, aM, hk, iG hX, c0]
   refine kK noX jf4 ?_
   have gr := Grow.raise hG.fresh 8 aA
   simp (maxSteps := 5000000) (disch := first | rfl | (simp only [dQ, dE, aY, bH]; omega)) only [SXa, Nat.reduceEqDiff, P67, t5, t6, hN, aE, eG, bP, aG, aD, aF, cS]
   refine aT (xG ks X hX (by omega) (by omega) (⟨#[44, 32]⟩ : ByteArray) (by decide)) (hG.two gr) (fun S6 g6 hG6 => ?_)
   simp (maxSteps := 5000000) (disch := first | rfl | (simp only [dQ, dE, aY, bH]; omega)) only [SXa, Nat.reduceEqDiff, gF, gG, lE hmb (gr.two g6), bY, cS]
   exact ⟨by simp only [fC, fX, brk, kU, kI, Int.reduceBEq, cR, cA, dD, bK, aH, aK, hk, hks], hG6⟩
 case inr.inr.inr.inr.inr.inr.inr.inr.inr.inr.inr.inr =>
  have h0 : 0 < ks.length := by
   rcases hfit hleaf with ⟨_, h⟩ | ⟨_, h⟩ | ⟨_, h⟩ | ⟨_, h, _⟩ <;> omega
  have i0 := i0 h0
  rcases hfit hleaf with ⟨hk, h⟩ | ⟨hk, h⟩ | ⟨hk, h⟩ | ⟨hk, h, ho⟩
  · rcases hk with hk | hk | hk | hk | hk
    all_goals
     simp (maxSteps := 5000000) (disch := first | rfl | (simp only [dQ, dE, aY, bH]; omega)) only [SXa, Nat.reduceEqDiff, Int.reduceBEq, P67, t5, t6, hN, aE, eG, bP, aG, aD, aM, aF, hk, i0, cS]
     first
      | exact ⟨by simp only [fC, fX, brk, kU, kI, Int.reduceBEq, dD, bK, aH, aK, hk, oP, tX], hG⟩
      | exact ⟨by simp only [fC, fX, brk, kU, kI, Int.reduceBEq, dD, bK, aH, aK, hk, oP, tX], rH hG _⟩
  · have i1 := i1 (by omega)
    rcases hk with hk | hk | hk | hk | hk | hk | hk
    case inl =>
     obtain ⟨q, hq1, hq2⟩ := hq (by omega)
     have hbare := ku4 (ns := t.nodes) (by omega) hq1 hq2
     rw [hk, show ((7 : Int) == 7) = true from rfl, cI] at hbare
     have ik : ∀ S1, bT 1 (lN x) (some 0) S1 = some (.eptr [.sc (.int .i64 ((q : Nat) : Int))] 0, S1) := fun S1 => by rw [← hq1]; exact iQ (k := 0) (by omega) S1
     have g6 : Grow S5 (((S5.raise 10).bear (S5.no + 8) ⟨.cells zN, some (69, 7), fun n => .ptr n 0⟩).put (S5.no + 8) (.cells (aL t.nodes[q]))) aA := ((Grow.raise hG.fresh 10 aA).bear _ _ (by omega)).put _ _ (by omega)
     have hq6 : (((S5.raise 10).bear (S5.no + 8) ⟨.cells zN, some (69, 7), fun n => .ptr n 0⟩).put (S5.no + 8) (.cells (aL t.nodes[q]))).obj (S5.no + 8) = some (aL t.nodes[q]) := by simp [aX]
     simp only [SXa, Nat.reduceEqDiff, Int.reduceBEq, P67, t5, hN, aE, bP, aG, aD, aM, hk]
     refine je7 noX jf3 ?_
     simp only [SXa, Nat.reduceEqDiff, P67, t2, t5, hT, hN, aE, eG, bP, dA, aG, aD, aM, aF, aB, ik, iB ht.nodes hq2, lU, lT]
     refine ⟨_, mkRN, ?_⟩
     simp only [SXa, Nat.reduceEqDiff, stN, jh0, oF, oB, dK, aD, aB, gF, gG, xU, lE hpb g6, lE hmb g6, bY]
     generalize ((S5.raise 10).bear (S5.no + 8) ⟨.cells zN, some (69, 7), fun n => .ptr n 0⟩).put (S5.no + 8) (.cells (aL t.nodes[q])) = S6 at g6 hq6
     have hG6 := hG.two g6
     simp only [aL] at hq6
     cases c5 : (t.nodes[q].kind == 5) with
     | false =>
      rw [c5, bK] at hbare
      simp (maxSteps := 5000000) (disch := first | rfl | (simp only [dQ, dE, aY, bH]; omega)) only [SXa, Nat.reduceEqDiff, P67, t6, hq6, aE, aG, aD, aM, c5, i0, i1, cS]
      exact ⟨by simp only [fC, fX, brk, hbare, Int.reduceBEq, dD, aH, aK, hk, oP], rH hG6 _⟩
     | true =>
     rw [c5, cI] at hbare
     cases cl : (((t.nodes[q].kids.length : Nat) : Int) == 0) with
     | false =>
      rw [cl] at hbare
      simp (maxSteps := 5000000) (disch := first | rfl | (simp only [dQ, dE, aY, bH]; omega)) only [SXa, Nat.reduceEqDiff, P67, t6, hq6, aE, bP, aG, aD, aM, aF, c5, dO, cl, i0, i1, cS]
      exact ⟨by simp only [fC, fX, brk, hbare, Int.reduceBEq, dD, aH, aK, hk, oP], rH hG6 _⟩
     | true =>
      rw [cl] at hbare
      have e0 : kd (ks.set 0 (((⟨#[40]⟩ : ByteArray) ++ kd ks 0) ++ (⟨#[41]⟩ : ByteArray))) 0 = ((⟨#[40]⟩ : ByteArray) ++ kd ks 0) ++ (⟨#[41]⟩ : ByteArray) := by simp [kd, List.getD, h0]
      have e1 : kd (ks.set 0 (((⟨#[40]⟩ : ByteArray) ++ kd ks 0) ++ (⟨#[41]⟩ : ByteArray))) 1 = kd ks 1 := by simp [kd, List.getD]
      simp (maxSteps := 5000000) (disch := first | rfl | (simp only [dQ, dE, aY, bH]; omega)) only [SXa, Nat.reduceEqDiff, P67, t6, hq6, aE, bP, aG, aD, aM, aF, c5, dO, cl, i0, i1, cS]
      exact ⟨by simp only [fC, fX, brk, hbare, Int.reduceBEq, dD, aH, aK, hk, e0, e1]; simp only [oP, tX], rH hG6 _⟩
    all_goals
     simp (maxSteps := 5000000) (disch := first | rfl | (simp only [dQ, dE, aY, bH]; omega)) only [SXa, Nat.reduceEqDiff, Int.reduceBEq, P67, t5, t6, hN, aE, eG, bP, aG, aD, aM, aF, hk, i0, i1, cS]
     first
      | exact ⟨by simp only [fC, fX, brk, kU, kI, Int.reduceBEq, cR, cA, dD, bK, cI, jK, dY, aH, aK, hk, oP, tX], hG⟩
      | exact ⟨by simp only [fC, fX, brk, kU, kI, Int.reduceBEq, dD, bK, aH, aK, hk, oP, tX], rH hG _⟩
  · have i1 := i1 (by omega)
    have i2 := i2 (by omega)
    simp (maxSteps := 5000000) (disch := first | rfl | (simp only [dQ, dE, aY, bH]; omega)) only [SXa, Nat.reduceEqDiff, Int.reduceBEq, P67, t5, t6, hN, aE, bP, aG, aD, aM, hk, i0, i1, i2, cS]
    exact ⟨by simp only [fC, fX, brk, kU, kI, Int.reduceBEq, dD, bK, aH, aK, hk, oP, tX], rH hG _⟩
  · have hdr : kd ks 0 = kd ks 0 := rfl
    simp only [SXa, Nat.reduceEqDiff, Int.reduceBEq, P67, t5, hN, aE, bP, aG, aD, aM, hk]
    refine bX (fun tm S' N => ∃ (j : Nat) (Y : AV) (ws : List ByteArray), 1 ≤ j ∧ j ≤ ks.length ∧ N = ks.length - j ∧ (ks.length - j) % 2 = 0 ∧ ws ++ iN (ks.drop j) = iN (ks.drop 1) ∧ ws.length ≤ j ∧ OwnV S' 9 1 Y (aN ws) ∧ cY S Y ∧ Grow S S' aA ∧ getT tm 6 = X ∧ getT tm 9 = Y ∧ getT tm 10 = .sc (.int .i64 (j : Int))) (ks.length - 1)
     ⟨1, aA, [], by omega, by omega, by omega, by omega, rfl, by simp, OwnV.nil' _ _ _, .inl rfl, hG, by simp [aO, t6]⟩ ?_
    clear t2 t5 t6
    rintro tm S6 N ⟨j, Y, ws, hj1, hj, rfl, hp2, hw, hwl, hY, hNw, hG6, t6, t9, t10⟩
    by_cases hjt : j < ks.length
    case neg =>
     have hje : j = ks.length := by omega
     rw [hje, fA] at hw
     simp only [iN, dK] at hw
     have hjl := yZ (ks.drop 1)
     have hsd := xi8 ks
     have hws : dI ws ≤ 2 ^ 40 := by rw [hw]; have := ww8 (ks.drop 1); omega
     simp only [SXa, Nat.reduceEqDiff, b67_49, P67, t6, t10, iG hX, bO hjt]
     refine kK noX jf2 ?_
     have gr := Grow.raise hG6.fresh 10 aA
     simp (maxSteps := 5000000) (disch := first | rfl | (simp only [dQ, dE, aY, bH]; omega)) only [SXa, Nat.reduceEqDiff, P67, t6, t9, i0, cS]
     refine aT (xG ws Y hY.is (by omega) hws (⟨#[32, 124, 32]⟩ : ByteArray) (by decide)) (hG6.two gr) (fun S7 g7 hG7 => ?_)
     rw [hw]
     simp (maxSteps := 5000000) (disch := first | rfl | (simp only [dQ, dE, aY, bH]; omega)) only [SXa, Nat.reduceEqDiff, gF, gG, xU, bY, cS]
     exact ⟨by simp only [fC, fX, brk, kU, kI, Int.reduceBEq, dD, bK, aH, aK, hk, oP, tX], hG7⟩
    have hj2 : j + 1 < ks.length := by omega
    have gr := Grow.raise hG6.fresh 15 aA
    have s1 := wI hs hjt
    have s2 := wI hs hj2
    have a1 : ks[j].size + ((⟨#[32, 45, 62, 32]⟩ : ByteArray)).size ≤ 2 ^ 62 := by simp only [dE, aY, bH]; omega
    have a2 : (ks[j] ++ (⟨#[32, 45, 62, 32]⟩ : ByteArray)).size + ks[j + 1].size ≤ 2 ^ 62 := by simp only [dQ, dE, aY, bH]; omega
    have wj : IntKind.i64.wrap ((j : Int) + 1) = ((j + 1 : Nat) : Int) := by rw [wrap_i64 (by omega) (by omega)]; omega
    have wj2 : IntKind.i64.wrap ((j : Int) + 2) = ((j + 2 : Nat) : Int) := by rw [wrap_i64 (by omega) (by omega)]; omega
    obtain ⟨Z, S7, ap, hZ, hNZ, hG7, _, _, _⟩ := mO (hY.keep gr) hNw (hG6.two gr) (pN ((ks[j] ++ (⟨#[32, 45, 62, 32]⟩ : ByteArray)) ++ ks[j + 1])) (by simp only [aY, bH]; omega)
    rw [xw3 hjt hj2] at hw
    simp only [SXa, Nat.reduceEqDiff, Nat.reduceBEq, b67_49, P67, t6, t9, t10, iG hX, bL hjt, iY hX hjt, iY hX hj2, wj, cS _ _ _ _ _ a1, cS _ _ _ _ _ a2, kX, ap, wj2]
    exact ⟨ks.length - (j + 2), by omega, j + 2, Z, _, by omega, by omega, rfl, by omega, by rw [pT]; exact hw, by rw [dL]; simp only [aY, bH]; omega, hZ, hNZ, hG7, by simp []⟩
 all_goals
  simp only [SXa, Nat.reduceEqDiff, Int.reduceBEq, P67, t5, hN, aE, bP, aG, aD, aM, aF, hk]
  exact ⟨by simp only [fC, fX, brk, kU, kI, Int.reduceBEq, cR, cA, dD, bK, aH, aK, hk], hG⟩
theorem wp8 (S : St) (e : TypeId) (cs : List AV) {l : Nat} (h : l ≠ S.no) : (S.born e cs).shp.get l = S.shp.get l := by
 simp [St.born, St.bearNext, St.bear, PM.get_set, h]
theorem put_shp (S : St) (l : Nat) (o : AObj) : (S.put l o).shp = S.shp := rfl
def zD : List AV := [.sc (.string ⟨#[]⟩), .sc (.slice none 0 0)]
def oN (ds : List DeclV) : List UInt8 := ds.flatMap fun d => (pM d).data.toList
theorem we3 {ds : List DeclV} {i : Nat} (h : i < ds.length) : oN (ds.take i) ++ (pM ds[i]).data.toList = oN (ds.take (i + 1)) := by
 rw [qS h, oN, oN, List.flatMap_append]
 simp
theorem wm3 {ds : List DeclV} (h : ∀ d ∈ ds, tW d) : (oN ds).length ≤ 2300 * ds.length := by
 induction ds with
 | nil => simp [oN]
 | cons d r ih =>
  have h1 := ih fun d hd => h d (kZ _ hd)
  have h2 := wv7 (h d (jL ..))
  have h3 : (pM d).data.toList.length = (pM d).size := by rw [jA]; rfl
  simp only [oN, jN, dL, aY] at h1 ⊢
  omega
theorem ka6 {ds : List DeclV} {x : NodeV} (h : eT ds x = true) : -9223372036854775808 ≤ x.n ∧ x.n ≤ 9223372036854775807 := by
 unfold eT at h
 simp only [bB] at h
 split at h
 · cases h
 · rename_i h1
   simp only [eF, bZ, not_or, jB, Bool.not_eq_false] at h1
   obtain ⟨⟨_, h2⟩, _⟩ := h1
   unfold iK at h2
   simp only [bB] at h2
   split at h2
   · simp only [aS, bZ] at h2; omega
   · split at h2
     · simp only [eF, gD] at h2; omega
     · simp only [gD] at h2; omega
theorem wg0 {t : TreeV} (hl : Light t) (h : fJ t = true) : ShowOk t := by
 obtain ⟨hw, _⟩ := yB h
 refine ⟨fun x hx => ?_, by have := hl.ln; omega, fun x hx => by have := (hl.ln2 x hx).2.2; omega⟩
 obtain ⟨h1, h2, _⟩ := hl.ln2 x hx
 obtain ⟨i, hi, rfl⟩ := List.getElem_of_mem hx
 obtain ⟨d, p, z, _, k⟩ := vO _ _ _ _ _ _ hw i (jR _) hi
 refine ⟨h1, h2, ?_⟩
 cases d with
 | zero => cases k
 | succ d => exact ka6 (xs5 k hi)
theorem jh8 (t : TreeV) (nx tx : AV) (ht : TreeIs nx tx t) (ho : fJ t = true → ShowOk t) (hd4 : t.types.length ≤ 100) (hd : ∀ d ∈ t.types, tW d) : Ans E 24 [.agg [nx, tx]] (.sc (.string (sU t))) := bU fun S hS => by
 refine ev24 rfl ?_
 have hG := (Grow.refl hS aA).born 26 [nx, tx]
 have hT : (S.born 26 [nx, tx]).obj S.no = some [nx, tx] := by simp [bE]
 have hn : S.no < (S.born 26 [nx, tx]).no := bJ _
 simp only [SXa, reduceCtorEq, Nat.reduceEqDiff, Nat.reduceAdd, P24, dT, dZ]
 generalize S.born 26 [nx, tx] = S0 at hG hT hn
 simp only [SXa, reduceCtorEq, Nat.reduceEqDiff, Nat.reduceAdd, P24, aE, hT, aD, aF, aB]
 refine aT (yU t nx tx ht) hG (fun S1 g1 hG1 => ?_)
 have hT1 := g1.objs hT hn
 have hn1 := aU hn g1.no
 cases hg : fJ t with
 | false =>
  simp only [SXa, reduceCtorEq, Nat.reduceEqDiff]
  exact ⟨by simp only [sU, hg, aK], hG1⟩
 | true =>
 obtain ⟨hw, _⟩ := yB hg
 have ho := ho hg
 have hG2 := hG1.born 112 [.sc (.pointer none), .sc (.slice none 0 0)]
 have hT2 : (S1.born 112 [.sc (.pointer none), .sc (.slice none 0 0)]).obj S.no = some [nx, tx] := by
  have : S.no ≠ S1.no := by omega
  simp [bE, this, hT1]
 have hB2 : Bld S (S1.born 112 [.sc (.pointer none), .sc (.slice none 0 0)]) S1.no [] := ⟨bJ _, ww4 _ _ _, .sc (.pointer none), aA, by simp [bE], .inl rfl, .inl ⟨rfl, rfl⟩, .inl rfl⟩
 simp only [SXa, reduceCtorEq, Nat.reduceEqDiff, allocB]
 generalize S1.born 112 [.sc (.pointer none), .sc (.slice none 0 0)] = S2 at hG2 hT2 hB2
 simp only [SXa, reduceCtorEq, Nat.reduceEqDiff, P24, aE, hT2, kQ, aG, aD, aF, rM ht.types]
 refine bX (fun tm S' N => ∃ (i : Nat), i ≤ t.types.length ∧ N = t.types.length - i ∧ Bld S S' S1.no (oN (t.types.take i)) ∧ S'.obj S.no = some [nx, tx] ∧ Grow S S' aA ∧ getT tm 1 = .ptr S.no 0 ∧ getT tm 3 = .ptr S1.no 0 ∧ getT tm 10 = tx ∧ getT tm 11 = .sc (.int .i64 (t.types.length : Nat)) ∧ getT tm 12 = .sc (.int .i64 (i : Int))) t.types.length
  ⟨0, by omega, by omega, hB2, hT2, hG2, by simp [aO]⟩ ?_
 clear hG2 hT2 hB2
 rintro tm S3 N ⟨i, hi, rfl, hB, hT3, hG3, t1, t3, t10, t11, t12⟩
 have hol := wm3 (ds := t.types.take i) fun d hd' => hd d (List.mem_of_mem_take hd')
 rw [eW] at hol
 by_cases hit : i < t.types.length
 case pos =>
  have wi := cG hit (by omega)
  have hdi := hd _ (fE hit)
  have hsz := wv7 hdi
  have hb1 : S1.no ≠ S3.no := by have := hB.lt; omega
  have hG4 := (hG3.born 75 zD).put S3.no (.cells (dC t.types[i])) hG3.no
  have h4 : ((S3.born 75 zD).put S3.no (.cells (dC t.types[i]))).obj S3.no = some (dC t.types[i]) := by simp [aX]
  have gr4 : Grow S3 ((S3.born 75 zD).put S3.no (.cells (dC t.types[i]))) aA := ((Grow.refl hG3.fresh aA).born _ _).put S3.no _ (aB _)
  have hB4 : Bld S ((S3.born 75 zD).put S3.no (.cells (dC t.types[i]))) S1.no (oN (t.types.take i)) := hB.keep gr4 (by rw [put_shp, wp8 _ _ _ hb1])
  simp only [dC, zD] at hG4 h4 gr4 hB4
  simp only [SXa, Nat.reduceEqDiff, Nat.reduceAdd, b24_9, P24, t10, t11, t12, bL hit, nC ht.types hit, dC, kv5, stD, bE, aD, aF, aB, dM]
  generalize ((S3.born 75 [.sc (.string ⟨#[]⟩), .sc (.slice none 0 0)]).put S3.no (.cells [.sc (.string t.types[i].name), (kT t.types[i])])) = S4 at hG4 h4 gr4 hB4
  obtain ⟨S5, e5, g5⟩ := wi4 t.types[i] hdi S4 hG4.fresh
  have hB5 := hB4.after e5 g5
  have g35 := gr4.two g5
  obtain ⟨r6, S6, e6, hB6, hG6, no6, ob6⟩ := kf7 (pM t.types[i]) hB5 (hG3.two g35) hG1.no (by omega)
  rw [we3 hit] at hB6
  have hT6 : S6.obj S.no = some [nx, tx] := by rw [ob6 _ (by omega)]; exact g35.objs hT3 (by have := hB.lt; omega)
  simp only [SXa, Nat.reduceEqDiff, Nat.reduceAdd, P24, aE, h4, aD, aF, aB]
  refine cC e5 ?_
  simp only [SXa, Nat.reduceEqDiff, P24, t3]
  refine cC e6 ?_
  simp only [SXa, Nat.reduceEqDiff, t1, t3, t10, t11, t12, wi]
  exact ⟨t.types.length - (i + 1), by omega, i + 1, by omega, rfl, hB6, hT6, hG6, by simp []⟩
 case neg =>
 have hie : i = t.types.length := by omega
 rw [hie, oU] at hB
 have hs : Ans E 64 [.agg [nx, tx], .sc (.int .i64 0)] (.sc (.string (eM t.nodes 60 0))) := wr2 t nx tx ht ho 60 60 (aB _) (by omega) false 0 _ hw
 have hss := vU t.nodes t.types ho.nm 60 60 (aB _) _ _ _ hw
 have hln := ho.ln
 obtain ⟨S5, e5, g5⟩ := hs S3 hG3.fresh
 have hB5 := hB.after e5 g5
 have hol2 := wm3 hd
 obtain ⟨r6, S6, e6, hB6, hG6, no6, ob6⟩ := kf7 (eM t.nodes 60 0) hB5 (hG3.two g5) hG1.no (by omega)
 obtain ⟨r7, S7, e7, rfl, hG7⟩ := kh2 hB6 hG6 (by rw [dL]; have h3 : (eM t.nodes 60 0).data.toList.length = (eM t.nodes 60 0).size := (by rw [jA]; rfl); omega)
 simp only [SXa, Nat.reduceEqDiff, Nat.reduceAdd, b24_9, P24, t1, t11, t12, bO hit, aE, hT3, aD, aF, aB]
 refine cC e5 ?_
 simp only [SXa, Nat.reduceEqDiff, P24, t3]
 refine cC e6 ?_
 simp only [SXa, Nat.reduceEqDiff, P24, t3]
 refine cC e7 ?_
 simp only [SXa, Nat.reduceEqDiff]
 exact ⟨by simp only [sU, hg, aH, oN], hG7⟩
end Go.Proofs.YthjaoinieikjdaaGreatDoor
