/-
  The document's own trees: the walks (one node; where a constructor is declared).
-/
import Derived.Test.YthjaoinieikjdaaGreatDoorUBJ
import Derived.Test.YthjaoinieikjdaaGreatDoorUBG
set_option maxHeartbeats 64000000
set_option linter.unusedSimpArgs false
set_option linter.unusedVariables false
set_option maxRecDepth 100000
namespace Go.Proofs.YthjaoinieikjdaaGreatDoor
open Go.Abs
theorem bP {tm : PM AV} {S : St} {d : Option Tmp} (x : Operand) : (opV E tm d (.fieldAddr 69 x 0) S = eD 0 (E.ev tm x) S) ∧ (opV E tm d (.fieldAddr 69 x 1) S = eD 1 (E.ev tm x) S) ∧ (opV E tm d (.fieldAddr 69 x 2) S = eD 2 (E.ev tm x) S) ∧ (opV E tm d (.fieldAddr 69 x 3) S = eD 3 (E.ev tm x) S) ∧ (opV E tm d (.fieldAddr 69 x 4) S = eD 4 (E.ev tm x) S) :=
 ⟨eR 69 0 0 (by kernel_rfl) x, eR 69 1 1 (by kernel_rfl) x, eR 69 2 2 (by kernel_rfl) x, eR 69 3 3 (by kernel_rfl) x, eR 69 4 4 (by kernel_rfl) x⟩
theorem dA {tm : PM AV} {S : St} {d : Option Tmp} (x : Operand) : (opV E tm d (.fieldAddr 52 x 0) S = eD 0 (E.ev tm x) S) ∧ (opV E tm d (.fieldAddr 52 x 1) S = eD 1 (E.ev tm x) S) := ⟨eR 52 0 0 (by kernel_rfl) x, eR 52 1 1 (by kernel_rfl) x⟩
theorem iR {tm : PM AV} {S : St} {d : Option Tmp} (x : Operand) : (opV E tm d (.fieldAddr 72 x 0) S = eD 0 (E.ev tm x) S) ∧ (opV E tm d (.fieldAddr 72 x 1) S = eD 1 (E.ev tm x) S) := ⟨eR 72 0 0 (by kernel_rfl) x, eR 72 1 1 (by kernel_rfl) x⟩
theorem pW {tm : PM AV} {S : St} {d : Option Tmp} (x : Operand) : (opV E tm d (.fieldAddr 77 x 0) S = eD 0 (E.ev tm x) S) ∧ (opV E tm d (.fieldAddr 77 x 1) S = eD 1 (E.ev tm x) S) := ⟨eR 77 0 0 (by kernel_rfl) x, eR 77 1 1 (by kernel_rfl) x⟩
def kcF (x : NodeV) : Bool := !(decide ((x.kids.length : Int) < (lM x.kind).1) || decide ((lM x.kind).2 < (x.kids.length : Int)) || (x.kind == 11 && !cN (x.kids.length : Int)))
noncomputable def kL (x : NodeV) : Bool := bif decide (x.kind < 1) || decide (26 < x.kind) then false else kcF x && iK x && tP x
theorem alone_b (A B n t C D M : Bool) : (bif A || B || !n || !t then false else bif C then false else bif D then true else M) = ((bif A || B then false else !C && n && t) && (bif D then true else M)) := by
 cases A <;> cases B <;> cases n <;> cases t <;> cases C <;> cases D <;> rfl
theorem wq2 (ds : List DeclV) (x : NodeV) : eT ds x = (kL x && (bif x.kind != 5 && x.kind != 26 then true else match ofF x.name ds 0 with
 | some (d, c) => (((mV ds d c : Nat) : Int) == (x.kids.length : Int))
 | none => false)) := by
 unfold eT kL kcF
 exact alone_b _ _ _ _ _ _ _
def fY : List Int := [-1, 0, 0, 0, 0, -2, 1, 2, 2, 2, 3, -3, 2, 2, 2, 1, 1, 1, 0, 1, 2, 0, 0, 0, 0, 0, -2]
theorem bsl27 (S : St) : gE E 34 27 [(0, .sc (.int .i64 (-1))), (1, .sc (.int .i64 0)), (2, .sc (.int .i64 0)), (3, .sc (.int .i64 0)), (4, .sc (.int .i64 0)), (5, .sc (.int .i64 (-2))), (6, .sc (.int .i64 1)), (7, .sc (.int .i64 2)), (8, .sc (.int .i64 2)), (9, .sc (.int .i64 2)), (10, .sc (.int .i64 3)), (11, .sc (.int .i64 (-3))), (12, .sc (.int .i64 2)), (13, .sc (.int .i64 2)), (14, .sc (.int .i64 2)), (15, .sc (.int .i64 1)), (16, .sc (.int .i64 1)), (17, .sc (.int .i64 1)), (18, .sc (.int .i64 0)), (19, .sc (.int .i64 1)), (20, .sc (.int .i64 2)), (21, .sc (.int .i64 0)), (22, .sc (.int .i64 0)), (23, .sc (.int .i64 0)), (24, .sc (.int .i64 0)), (25, .sc (.int .i64 0)), (26, .sc (.int .i64 (-2)))] S = some (.vec 1 1 (cE fY), S) := by kernel_rfl
theorem idxKT (S : St) : (bT 1 (.vec 1 1 (cE fY)) (some 1) S = some (.eptr [.sc (.int .i64 0)] 0, S)) ∧ (bT 1 (.vec 1 1 (cE fY)) (some 2) S = some (.eptr [.sc (.int .i64 0)] 0, S)) ∧ (bT 1 (.vec 1 1 (cE fY)) (some 3) S = some (.eptr [.sc (.int .i64 0)] 0, S)) ∧ (bT 1 (.vec 1 1 (cE fY)) (some 4) S = some (.eptr [.sc (.int .i64 0)] 0, S)) ∧ (bT 1 (.vec 1 1 (cE fY)) (some 5) S = some (.eptr [.sc (.int .i64 (-2))] 0, S)) ∧ (bT 1 (.vec 1 1 (cE fY)) (some 6) S = some (.eptr [.sc (.int .i64 1)] 0, S)) ∧ (bT 1 (.vec 1 1 (cE fY)) (some 7) S = some (.eptr [.sc (.int .i64 2)] 0, S)) ∧ (bT 1 (.vec 1 1 (cE fY)) (some 8) S = some (.eptr [.sc (.int .i64 2)] 0, S)) ∧ (bT 1 (.vec 1 1 (cE fY)) (some 9) S = some (.eptr [.sc (.int .i64 2)] 0, S)) ∧ (bT 1 (.vec 1 1 (cE fY)) (some 10) S = some (.eptr [.sc (.int .i64 3)] 0, S)) ∧ (bT 1 (.vec 1 1 (cE fY)) (some 11) S = some (.eptr [.sc (.int .i64 (-3))] 0, S)) ∧ (bT 1 (.vec 1 1 (cE fY)) (some 12) S = some (.eptr [.sc (.int .i64 2)] 0, S)) ∧ (bT 1 (.vec 1 1 (cE fY)) (some 13) S = some (.eptr [.sc (.int .i64 2)] 0, S)) ∧ (bT 1 (.vec 1 1 (cE fY)) (some 14) S = some (.eptr [.sc (.int .i64 2)] 0, S)) ∧ (bT 1 (.vec 1 1 (cE fY)) (some 15) S = some (.eptr [.sc (.int .i64 1)] 0, S)) ∧ (bT 1 (.vec 1 1 (cE fY)) (some 16) S = some (.eptr [.sc (.int .i64 1)] 0, S)) ∧ (bT 1 (.vec 1 1 (cE fY)) (some 17) S = some (.eptr [.sc (.int .i64 1)] 0, S)) ∧ (bT 1 (.vec 1 1 (cE fY)) (some 18) S = some (.eptr [.sc (.int .i64 0)] 0, S)) ∧ (bT 1 (.vec 1 1 (cE fY)) (some 19) S = some (.eptr [.sc (.int .i64 1)] 0, S)) ∧ (bT 1 (.vec 1 1 (cE fY)) (some 20) S = some (.eptr [.sc (.int .i64 2)] 0, S)) ∧ (bT 1 (.vec 1 1 (cE fY)) (some 21) S = some (.eptr [.sc (.int .i64 0)] 0, S)) ∧ (bT 1 (.vec 1 1 (cE fY)) (some 22) S = some (.eptr [.sc (.int .i64 0)] 0, S)) ∧ (bT 1 (.vec 1 1 (cE fY)) (some 23) S = some (.eptr [.sc (.int .i64 0)] 0, S)) ∧ (bT 1 (.vec 1 1 (cE fY)) (some 24) S = some (.eptr [.sc (.int .i64 0)] 0, S)) ∧ (bT 1 (.vec 1 1 (cE fY)) (some 25) S = some (.eptr [.sc (.int .i64 0)] 0, S)) ∧ (bT 1 (.vec 1 1 (cE fY)) (some 26) S = some (.eptr [.sc (.int .i64 (-2))] 0, S)) := by
 refine ⟨?_, ?_, ?_, ?_, ?_, ?_, ?_, ?_, ?_, ?_, ?_, ?_, ?_, ?_, ?_, ?_, ?_, ?_, ?_, ?_, ?_, ?_, ?_, ?_, ?_, ?_⟩ <;> rfl
theorem jg7 {nt : Nat} {k : List KI} {tm : PM AV} {S : St} {Q : kW} (d : Option Tmp) (xs : Array Operand) (ats : Array TypeId) (r : List POp) : aV E nt (.c (.reg (⟨d, .call (Call.mk (.value (.func 139)) xs ats), none⟩ :: r)) :: k) .nrm tm S Q = rJ E nt 139 (xs.toList.map (E.ev tm)) d r k tm S Q := e_call d 139 xs ats r rfl
theorem kn9 {k : Int} (h1 : decide (k < 1) = false) (h2 : decide (26 < k) = false) : k = 1 ∨ k = 2 ∨ k = 3 ∨ k = 4 ∨ k = 5 ∨ k = 6 ∨ k = 7 ∨ k = 8 ∨ k = 9 ∨ k = 10 ∨ k = 11 ∨ k = 12 ∨ k = 13 ∨ k = 14 ∨ k = 15 ∨ k = 16 ∨ k = 17 ∨ k = 18 ∨ k = 19 ∨ k = 20 ∨ k = 21 ∨ k = 22 ∨ k = 23 ∨ k = 24 ∨ k = 25 ∨ k = 26 := by
 simp only [dP] at h1 h2
 omega
def pJ (x : NodeV) (nm cn : Bool) : Bool := bif x.kind == 4 || x.kind == 8 || x.kind == 9 || x.kind == 22 then nm else bif x.kind == 5 || x.kind == 26 then cn else bif x.kind == 14 then fD uY x.name else nZ x.name
def wK (x : NodeV) (nm : Bool) : Bool := bif x.kind == 6 || x.kind == 9 || x.kind == 20 then nm else nZ x.param
theorem kx1 (x : NodeV) (c1 : decide (x.kind < 1) = false) (c2 : decide (26 < x.kind) = false) : tP x = (pJ x (gX x.name) (lZ x.name) && wK x (gX x.param)) := by
 rcases kn9 c1 c2 with hk | hk | hk | hk | hk | hk | hk | hk | hk | hk | hk | hk | hk | hk | hk | hk | hk | hk | hk | hk | hk | hk | hk | hk | hk | hk <;> simp [tP, pJ, wK, hk]
theorem yG (x : NodeV) (c1 : decide (x.kind < 1) = false) (c2 : decide (26 < x.kind) = false) : kL x = (kcF x && iK x && (pJ x (gX x.name) (lZ x.name) && wK x (gX x.param))) := by
 rw [kL, c1, c2, kx1 x c1 c2]; rfl
theorem wz6 (x : NodeV) (hx : x.kids.length ≤ 1000) (hn : x.name.size ≤ 4000) (hp : x.param.size ≤ 4000) : Ans E 108 [.agg (aL x)] (.sc (.bool (kL x))) := bU fun S hS => by
 refine ev108 rfl ?_
 have hG := (Grow.refl hS aA).born 69 (aL x)
 have hN : (S.born 69 (aL x)).obj S.no = some (aL x) := by simp [bE]
 have hno : S.no < (S.born 69 (aL x)).no := bJ _
 unfold p108
 generalize hT1 : (PC.seq (.seq (.reg r108_14) (.block 1 (.seq (.seq (.reg r108_15) (.cond (.tmp 47) .skip (.reg r108_16))) (.cond (.tmp 47) (.seq (.draw d108_0) (.cond (.tmp 58) (.seq (.reg r108_19) .ret) .skip)) (.seq (.seq (.reg r108_20) (.cond (.tmp 59) .skip (.reg r108_21))) (.cond (.tmp 59) (.seq (.reg r108_22) (.cond (.tmp 69) (.seq (.reg r108_23) .ret) .skip)) (.seq (.reg r108_24) (.cond (.tmp 46) (.seq (.reg r108_25) .ret) .skip)))))))) (.seq (.seq (.reg r108_26) (.block 2 (.seq (.seq (.reg r108_27) (.cond (.tmp 75) .skip (.seq (.reg r108_28) (.cond (.tmp 75) .skip (.seq (.reg r108_29) (.cond (.tmp 75) .skip (.reg r108_30))))))) (.cond (.tmp 75) (.seq (.reg r108_31) (.cond (.tmp 83) (.seq (.reg r108_32) .ret) .skip)) (.seq (.seq (.reg r108_33) (.cond (.tmp 84) .skip (.reg r108_34))) (.cond (.tmp 84) (.seq (.reg r108_35) (.cond (.tmp 90) (.seq (.reg r108_36) .ret) .skip)) (.seq (.reg r108_37) (.cond (.tmp 91) (.seq (.reg r108_38) (.cond (.tmp 115) (.seq (.reg r108_39) .ret) .skip)) (.seq (.reg r108_40) (.cond (.tmp 74) (.seq (.reg r108_41) .ret) .skip)))))))))) (.seq (.seq (.reg r108_42) (.cond (.tmp 128) (.seq (.reg r108_43) .ret) .skip)) (.seq (.reg r108_44) .ret)))) = T1
 simp only [SXa, reduceCtorEq, Nat.reduceEqDiff, Nat.reduceAdd, P108, dT, dZ, bsl27]
 generalize S.born 69 (aL x) = S0 at hG hN hno
 simp only [aL] at hN
 simp only [SXa, reduceCtorEq, Nat.reduceEqDiff, P108, aE, hN, bP, aG, aD, aM]
 cases c1 : decide (x.kind < 1) with
 | true =>
  simp only [SXa, reduceCtorEq, Nat.reduceEqDiff]
  exact ⟨by simp only [kL, c1, cA, aH], hG⟩
 | false =>
 cases c2 : decide (26 < x.kind) with
 | true =>
  simp only [SXa, reduceCtorEq, Nat.reduceEqDiff, P108, aE, hN, bP, aG, aD, aM, c2]
  exact ⟨by simp only [kL, c1, c2, cR, aH], hG⟩
 | false =>
 have st3 : ∀ (tm : PM AV) (S1 : St), getT tm 1 = .ptr S.no 0 → S1.obj S.no = S0.obj S.no → Grow S S1 aA → kcF x = true → iK x = true → pJ x (gX x.name) (lZ x.name) = true → aV E 135 [.c (PC.seq (.seq (.reg r108_42) (.cond (.tmp 128) (.seq (.reg r108_43) .ret) .skip)) (.seq (.reg r108_44) .ret))] .nrm tm S1 (kB E [.tmp 2] fun v S' => v = .sc (.bool (kL x)) ∧ Grow S S' aA) := fun tm S1 t1 ho hG1 k1 k2 k3 => by
  rw [yG x c1 c2, k1, k2, k3]
  rw [hN] at ho
  simp only [SXa, Nat.reduceEqDiff, P108, t1, aE, ho, bP, aG, aD, aM]
  repeat' (first
   | (refine gP (fun h => ?_) (fun h => ?_) <;> simp only [SXa, Nat.reduceEqDiff, P108, h, t1, aE, ho, bP, aG, aD, aF])
   | (refine gO (fun h => ?_) (fun h => ?_) <;> simp only [SXa, Nat.reduceEqDiff, P108, h, t1, aE, ho, bP, aG, aD, aM, aF]))
  all_goals first
   | (refine aT (xx4 x.param hp) hG1 (fun S2 g2 hG2 => ?_)
      simp only [SXa, Nat.reduceEqDiff]
      exact ⟨by simp only [wK, cI, cR, cA, aH, *], hG2⟩)
   | exact ⟨by simp only [wK, nZ, cI, dD, aK, *], hG1⟩
 have st2 : ∀ (tm : PM AV) (S1 : St), getT tm 1 = .ptr S.no 0 → S1.obj S.no = S0.obj S.no → S.no < S1.no → Grow S S1 aA → kcF x = true → iK x = true → aV E 135 [.c (PC.seq (.seq (.reg r108_26) (.block 2 (.seq (.seq (.reg r108_27) (.cond (.tmp 75) .skip (.seq (.reg r108_28) (.cond (.tmp 75) .skip (.seq (.reg r108_29) (.cond (.tmp 75) .skip (.reg r108_30))))))) (.cond (.tmp 75) (.seq (.reg r108_31) (.cond (.tmp 83) (.seq (.reg r108_32) .ret) .skip)) (.seq (.seq (.reg r108_33) (.cond (.tmp 84) .skip (.reg r108_34))) (.cond (.tmp 84) (.seq (.reg r108_35) (.cond (.tmp 90) (.seq (.reg r108_36) .ret) .skip)) (.seq (.reg r108_37) (.cond (.tmp 91) (.seq (.reg r108_38) (.cond (.tmp 115) (.seq (.reg r108_39) .ret) .skip)) (.seq (.reg r108_40) (.cond (.tmp 74) (.seq (.reg r108_41) .ret) .skip)))))))))) (.seq (.seq (.reg r108_42) (.cond (.tmp 128) (.seq (.reg r108_43) .ret) .skip)) (.seq (.reg r108_44) .ret)))] .nrm tm S1 (kB E [.tmp 2] fun v S' => v = .sc (.bool (kL x)) ∧ Grow S S' aA) := fun tm S1 t1 ho hno1 hG1 k1 k2 => by
  generalize hT3 : (PC.seq (.seq (.reg r108_42) (.cond (.tmp 128) (.seq (.reg r108_43) .ret) .skip)) (.seq (.reg r108_44) .ret)) = T3
  have st3 := fun tm S1 a b c d => st3 tm S1 a b c k1 k2 d
  rw [hT3] at st3
  have ho' := ho
  rw [hN] at ho
  have hf : ∀ b, pJ x (gX x.name) (lZ x.name) = b → b = false → kL x = false := fun b h1 h2 => by rw [yG x c1 c2, h1, h2, bK, dY]
  simp only [SXa, Nat.reduceEqDiff, P108, t1, aE, ho, bP, aG, aD, aM]
  repeat' (first
   | (refine gP (fun h => ?_) (fun h => ?_) <;> simp only [SXa, Nat.reduceEqDiff, P108, h, t1, aE, ho, bP, aG, aD, aF, mN])
   | (refine gO (fun h => ?_) (fun h => ?_) <;> simp only [SXa, Nat.reduceEqDiff, P108, h, t1, aE, ho, bP, aG, aD, aF, mN]))
  all_goals first
   | (refine aT (xx4 x.name hn) hG1 (fun S2 g2 hG2 => ?_)
      have e : pJ x (gX x.name) (lZ x.name) = gX x.name := by simp only [pJ, cR, cA, aH, *]
      cases cn : gX x.name <;> simp only [SXa, Nat.reduceEqDiff]
      · exact ⟨by rw [hf _ e cn], hG2⟩
      · exact st3 _ _ (by simp [aO, t1]) (by rw [g2.objs ho hno1, hN]) hG2 (by rw [e, cn]))
   | (refine aT (we0 x.name hn) hG1 (fun S2 g2 hG2 => ?_)
      have e : pJ x (gX x.name) (lZ x.name) = lZ x.name := by simp only [pJ, cR, cA, dD, aH, aK, *]
      cases cn : lZ x.name <;> simp only [SXa, Nat.reduceEqDiff]
      · exact ⟨by rw [hf _ e cn], hG2⟩
      · exact st3 _ _ (by simp [aO, t1]) (by rw [g2.objs ho hno1, hN]) hG2 (by rw [e, cn]))
   | skip
  all_goals (try simp only [bne, jB, Bool.not_eq_false'] at *)
  all_goals first
   | exact st3 _ _ (by simp [aO, t1]) ho' hG1 (by simp only [pJ, fD, uY, nZ, nU, List.any_nil, fU, cR, cA, dD, aH, aK, *])
   | exact ⟨by rw [hf _ rfl (by simp only [pJ, fD, uY, nZ, nU, List.any_nil, fU, dD, aH, aK, *])], hG1⟩
 have st1 : ∀ (tm : PM AV) (S1 : St), getT tm 1 = .ptr S.no 0 → S1.obj S.no = S0.obj S.no → S.no < S1.no → Grow S S1 aA → kcF x = true → aV E 135 [.c (PC.seq (.seq (.reg r108_14) (.block 1 (.seq (.seq (.reg r108_15) (.cond (.tmp 47) .skip (.reg r108_16))) (.cond (.tmp 47) (.seq (.draw d108_0) (.cond (.tmp 58) (.seq (.reg r108_19) .ret) .skip)) (.seq (.seq (.reg r108_20) (.cond (.tmp 59) .skip (.reg r108_21))) (.cond (.tmp 59) (.seq (.reg r108_22) (.cond (.tmp 69) (.seq (.reg r108_23) .ret) .skip)) (.seq (.reg r108_24) (.cond (.tmp 46) (.seq (.reg r108_25) .ret) .skip)))))))) (.seq (.seq (.reg r108_26) (.block 2 (.seq (.seq (.reg r108_27) (.cond (.tmp 75) .skip (.seq (.reg r108_28) (.cond (.tmp 75) .skip (.seq (.reg r108_29) (.cond (.tmp 75) .skip (.reg r108_30))))))) (.cond (.tmp 75) (.seq (.reg r108_31) (.cond (.tmp 83) (.seq (.reg r108_32) .ret) .skip)) (.seq (.seq (.reg r108_33) (.cond (.tmp 84) .skip (.reg r108_34))) (.cond (.tmp 84) (.seq (.reg r108_35) (.cond (.tmp 90) (.seq (.reg r108_36) .ret) .skip)) (.seq (.reg r108_37) (.cond (.tmp 91) (.seq (.reg r108_38) (.cond (.tmp 115) (.seq (.reg r108_39) .ret) .skip)) (.seq (.reg r108_40) (.cond (.tmp 74) (.seq (.reg r108_41) .ret) .skip)))))))))) (.seq (.seq (.reg r108_42) (.cond (.tmp 128) (.seq (.reg r108_43) .ret) .skip)) (.seq (.reg r108_44) .ret))))] .nrm tm S1 (kB E [.tmp 2] fun v S' => v = .sc (.bool (kL x)) ∧ Grow S S' aA) := fun tm S1 t1 ho hno1 hG1 k1 => by
  generalize hT2 : (PC.seq (.seq (.reg r108_26) (.block 2 (.seq (.seq (.reg r108_27) (.cond (.tmp 75) .skip (.seq (.reg r108_28) (.cond (.tmp 75) .skip (.seq (.reg r108_29) (.cond (.tmp 75) .skip (.reg r108_30))))))) (.cond (.tmp 75) (.seq (.reg r108_31) (.cond (.tmp 83) (.seq (.reg r108_32) .ret) .skip)) (.seq (.seq (.reg r108_33) (.cond (.tmp 84) .skip (.reg r108_34))) (.cond (.tmp 84) (.seq (.reg r108_35) (.cond (.tmp 90) (.seq (.reg r108_36) .ret) .skip)) (.seq (.reg r108_37) (.cond (.tmp 91) (.seq (.reg r108_38) (.cond (.tmp 115) (.seq (.reg r108_39) .ret) .skip)) (.seq (.reg r108_40) (.cond (.tmp 74) (.seq (.reg r108_41) .ret) .skip)))))))))) (.seq (.seq (.reg r108_42) (.cond (.tmp 128) (.seq (.reg r108_43) .ret) .skip)) (.seq (.reg r108_44) .ret))) = T2
  have st2 := fun tm S1 a b c d e => st2 tm S1 a b c d k1 e
  rw [hT2] at st2
  have ho' := ho
  rw [hN] at ho
  have hf : ∀ b, iK x = b → b = false → kL x = false := fun b h1 h2 => by rw [yG x c1 c2, h1, h2, dY, bK]
  have drw : ∀ tm : PM AV, getT tm 1 = .ptr S.no 0 → (x.kind == 1 || x.kind == 23) = true → aV E 135 [.c (.draw d108_0), .c (.cond (.tmp 58) (.seq (.reg r108_19) .ret) .skip), .blk 1, .c T2] .nrm tm S1 (kB E [.tmp 2] fun v S' => v = .sc (.bool (kL x)) ∧ Grow S S' aA) := fun tm t1 hk => by
   refine kK noX kt2 ?_
   have g3 := Grow.raise hG1.fresh 9 aA
   have hG2 := hG1.two g3
   have o3 : (S1.raise 9).obj S.no = S1.obj S.no := rfl
   have n3 : S.no < (S1.raise 9).no := by rw [yK]; omega
   simp only [SXa, Nat.reduceEqDiff, P108, t1, aE, o3, ho, bP, aG, aD, aF]
   cases cz : decide (x.n < 0) with
   | true =>
    have z2 : decide (0 ≤ x.n) = false := by simp at cz ⊢; omega
    have e : iK x = false := by simp only [iK, hk, z2, bK, aH]
    simp only [SXa, Nat.reduceEqDiff, gF, gG, sY, bY]
    exact ⟨by rw [hf _ e rfl], hG2⟩
   | false =>
   have z2 : decide (0 ≤ x.n) = true := by simp at cz ⊢; omega
   simp only [SXa, Nat.reduceEqDiff, P108, t1, aE, o3, ho, bP, aG, aD, aF, jg7]
   refine aT ki8 hG2 (fun S2 g2 hG3 => ?_)
   cases cm : decide (4611686018427387903 < x.n) with
   | true =>
    have z1 : decide (x.n ≤ 4611686018427387903) = false := by simp at cm ⊢; omega
    have e : iK x = false := by simp only [iK, hk, z1, dY, aH]
    simp only [SXa, Nat.reduceEqDiff, cm, gF, gG, lE hno1 (g3.two g2), bY]
    exact ⟨by rw [hf _ e rfl], hG3⟩
   | false =>
    have z1 : decide (x.n ≤ 4611686018427387903) = true := by simp at cm ⊢; omega
    have e : iK x = true := by simp only [iK, hk, z1, z2, bY, aH]
    simp only [SXa, Nat.reduceEqDiff, cm, gF, gG, lE hno1 (g3.two g2), bY]
    exact st2 _ _ (by simp [aO, t1]) (by rw [(g3.two g2).objs ho hno1, hN]) (aU n3 g2.no) hG3 e
  simp only [SXa, Nat.reduceEqDiff, P108, t1, aE, ho, bP, aG, aD, aM]
  repeat' (first
   | (refine gP (fun h => ?_) (fun h => ?_) <;> simp only [SXa, Nat.reduceEqDiff, P108, h, t1, aE, ho, bP, aG, aD, aF])
   | (refine gO (fun h => ?_) (fun h => ?_) <;> simp only [SXa, Nat.reduceEqDiff, P108, h, t1, aE, ho, bP, aG, aD, aF]))
  all_goals first
   | exact drw _ (by simp [aO, t1]) (by simp only [cR, cA, *])
   | skip
  all_goals (try simp only [bne, jB, Bool.not_eq_false'] at *)
  all_goals first
   | exact st2 _ _ (by simp [aO, t1]) ho' hno1 hG1 (by simp only [iK, cR, cA, dD, aH, aK, *])
   | exact ⟨by rw [hf _ rfl (by simp only [iK, cR, cA, dD, aH, aK, *])], hG1⟩
 rw [hT1] at st1
 have ek : ∀ K : Int, (((x.kids.length : Nat) : Int) != K) = (decide (((x.kids.length : Nat) : Int) < K) || decide (K < ((x.kids.length : Nat) : Int))) := fun K => by
  rw [pV]; simp only [bne_iff_ne, ne_eq, eF, bZ]; omega
 have e0 : decide (((x.kids.length : Nat) : Int) < 0) = false := by simp
 have e1000 : decide ((1000 : Int) < ((x.kids.length : Nat) : Int)) = false := by simp; omega
 have earm : ((((x.kids.length : Nat) : Int)).tmod 2 == 0) = !cN ((x.kids.length : Nat) : Int) := by
  rw [pV]
  have : ((x.kids.length : Nat) : Int).tmod 2 = ((x.kids.length % 2 : Nat) : Int) := rfl
  simp only [cN, this, gD, jB, nE]
  omega
 have hf : kcF x = false → kL x = false := fun h => by rw [yG x c1 c2, h, bK, bK]
 have hrem : ∀ (t : TypeId) (a b : Operand) (S1 : St), cQ E .rem t a b (.sc (.int .i64 ((x.kids.length : Nat) : Int))) (.sc (.int .i64 2)) S1 = some (.sc (.int .i64 ((((x.kids.length : Nat) : Int)).tmod 2)), S1) := fun t a b S1 => jh1 t a b .i64 _ 2 (by decide)
 simp only [SXa, reduceCtorEq, Nat.reduceEqDiff, P108, aE, hN, bP, aG, c2, aD, aM, aF, dO]
 rcases kn9 c1 c2 with hk | hk | hk | hk | hk | hk | hk | hk | hk | hk | hk | hk | hk | hk | hk | hk | hk | hk | hk | hk | hk | hk | hk | hk | hk | hk
 all_goals
  simp only [SXa, reduceCtorEq, Nat.reduceEqDiff, Int.reduceBEq, P108, aE, hN, bP, aG, aD, aM, hk, idxKT, ek, e0, gU]
 repeat' (first
  | (refine gP (fun h => ?_) (fun h => ?_) <;> simp only [SXa, reduceCtorEq, Nat.reduceEqDiff, h])
  | (refine gO (fun h => ?_) (fun h => ?_) <;> simp only [SXa, reduceCtorEq, Nat.reduceEqDiff, h, hrem, earm]))
 all_goals first
  | exact st1 _ _ (by simp [aO]) rfl hno hG (by simp only [kcF, lM, Int.reduceBEq, fU, cR, dD, aH, aK, bK, cI, kC, *])
  | exact ⟨by rw [hf (by simp only [kcF, lM, Int.reduceBEq, fU, cR, dD, cA, aH, aK, bK, cI, iC, *])], hG⟩
theorem kq4 (n : Int) (h1 : -9223372036854775808 ≤ n) (h2 : n ≤ 9223372036854775807) : Ans E 111 [.sc (.int .i64 n), .sc (.int .i64 10)] (.sc (.string (lW n))) := fun S hS => ⟨S, ev_x (E := E) (f := 111) (fn := Tryz.f111) (g := gB fmtF) (by kernel_rfl) rfl (by
 have e : decide ((10 : Int) = 10) = true := rfl
 simp only [gB, fmtF, iI h1, iI h2, bY]; rfl), Grow.refl hS _⟩
theorem kq9 (b : Bool) : Ans E 143 [.sc (.bool b)] (.sc (.string (bif b then (⟨#[116, 114, 117, 101]⟩ : ByteArray) else (⟨#[102, 97, 108, 115, 101]⟩ : ByteArray)))) := bU fun S hS => by
 refine ev143 rfl ?_
 simp only [SXa, reduceCtorEq, Nat.reduceEqDiff, Nat.reduceAdd, P143]
 cases b
 · simp only [SXa, reduceCtorEq, Nat.reduceEqDiff]
   exact Grow.refl hS _
 · simp only [SXa, reduceCtorEq, Nat.reduceEqDiff]
   exact Grow.refl hS _
theorem ww5 (b : Bool) : Ans E 112 [.sc (.bool b)] (.sc (.string (bif b then (⟨#[116, 114, 117, 101]⟩ : ByteArray) else (⟨#[102, 97, 108, 115, 101]⟩ : ByteArray)))) := bU fun S hS => by
 refine ev112 rfl ?_
 simp only [SXa, reduceCtorEq, Nat.reduceEqDiff, Nat.reduceAdd, P112]
 refine aT (kq9 b) (Grow.refl hS _) (fun S2 g2 hG2 => ?_)
 simp only [SXa, reduceCtorEq, Nat.reduceEqDiff]
 exact hG2
def qL (x : NodeV) : Bool := x.kind == 1 || x.kind == 23 || x.kind == 2 || x.kind == 24 || x.kind == 3 || x.kind == 25 || x.kind == 4 || x.kind == 22 || x.kind == 21 || x.kind == 18 || x.kind == 5 || x.kind == 26
theorem kq7 {ds : List DeclV} {x : NodeV} (h : eT ds x = true) (hl : qL x = false) : wU x x.kids.length := by
 unfold eT at h
 simp only [bB] at h
 split at h
 · cases h
 · rename_i h1
   split at h
   · cases h
   · rename_i h2
     simp only [eF, bZ, not_or, jB] at h1
     obtain ⟨⟨⟨h1, h3⟩, _⟩, _⟩ := h1
     have hk : x.kind = 1 ∨ x.kind = 2 ∨ x.kind = 3 ∨ x.kind = 4 ∨ x.kind = 5 ∨ x.kind = 6 ∨ x.kind = 7 ∨ x.kind = 8 ∨ x.kind = 9 ∨ x.kind = 10 ∨ x.kind = 11 ∨ x.kind = 12 ∨ x.kind = 13 ∨ x.kind = 14 ∨ x.kind = 15 ∨ x.kind = 16 ∨ x.kind = 17 ∨ x.kind = 18 ∨ x.kind = 19 ∨ x.kind = 20 ∨ x.kind = 21 ∨ x.kind = 22 ∨ x.kind = 23 ∨ x.kind = 24 ∨ x.kind = 25 ∨ x.kind = 26 := by omega
     clear h h1 h3
     have e : ((x.kids.length : Nat) : Int).tmod 2 = ((x.kids.length % 2 : Nat) : Int) := rfl
     rcases hk with hk | hk | hk | hk | hk | hk | hk | hk | hk | hk | hk | hk | hk | hk | hk | hk | hk | hk | hk | hk | hk | hk | hk | hk | hk | hk
     all_goals first
      | (simp only [qL, hk, Int.reduceBEq, cR, cA, reduceCtorEq] at hl; done)
      | (simp only [lM, cN, hk, Int.reduceBEq, cR, fU, bK, cI, aH, aK, eF, bZ, jB, nE, e, not_or, ne_eq, Decidable.not_not] at h2
         unfold wU
         omega)
theorem kh5 {ns : List NodeV} {x : NodeV} {k : List ByteArray} (h : qL x = false) : fC ns x k = ((⟨#[40]⟩ : ByteArray) ++ fX x (brk ns x k)) ++ (⟨#[41]⟩ : ByteArray) := by
 unfold qL at h
 simp only [oQ] at h
 unfold fC
 simp only [h, dD, aK]
theorem ku4 {ns : List NodeV} {x : NodeV} {q : Nat} (h0 : 0 < x.kids.length) (h : x.kids[0] = ((q : Nat) : Int)) (hq : q < ns.length) : kU ns x = (x.kind == 7 && (ns[q].kind == 5 && ((ns[q].kids.length : Nat) : Int) == 0)) := by
 have e : x.kids.getD 0 0 = ((q : Nat) : Int) := by rw [← h]; simp [List.getD, h0]
 simp only [kU, e, gN, cX hq]
theorem kh4 (t : TreeV) (nx tx X : AV) (ht : TreeIs nx tx t) (x : NodeV) (ks : List ByteArray) (p m b : Nat) (S S5 : St) (tm : PM AV) (hleaf : qL x = false) (hfit : wU x ks.length) (hkl : ks.length = x.kids.length) (hl : ks.length ≤ 1000)
 (hq : ∀ h : 0 < x.kids.length, ∃ q : Nat, x.kids[0] = ((q : Nat) : Int) ∧ q < t.nodes.length) (hn : x.name.size ≤ 1000) (hp : x.param.size ≤ 1000) (hs : dI ks ≤ 90000) (hM : MutS b S5 X ks) (hT : S5.obj p = some [nx, tx]) (hN : S5.obj m = some (aL x)) (hpb : p < b) (hmb : m < b) (hbS : b ≤ S5.no) (hSb : S.no ≤ b) (hG : Grow S S5 aA)
 (t2 : getT tm 2 = .ptr p 0) (t5 : getT tm 5 = .ptr m 0) (t6 : getT tm 6 = X) :
 aV E 102 [.c (.seq (.seq (.regD 28 r64_29) (.cond (.tmp 89) (.reg r64_30) .skip)) (.seq (.reg r64_31) .ret))] .nrm tm S5 (kB E [.tmp 4] fun r S' => r = .sc (.string (fC t.nodes x ks)) ∧ Grow S S' aA) := by
 rw [kh5 hleaf]
 have gr := Grow.raise hG.fresh 28 aA
 have hG6 := hG.two gr
 have hM6 := hM.grow gr
 have hN' := hN
 simp only [aL] at hN
 have hb1 := brk_le t.nodes x ks
 have hb2 := brk_len t.nodes x ks
 have h0 : 0 < ks.length := by
  rcases hfit with ⟨_, h⟩ | ⟨_, h⟩ | ⟨_, h⟩ | ⟨_, h, _⟩ <;> omega
 obtain ⟨q, hq1, hq2⟩ := hq (by omega)
 have hbare := ku4 (by omega) hq1 hq2
 have il := wu2 x (brk t.nodes x ks)
 have a1 : ((⟨#[40]⟩ : ByteArray)).size + (fX x (brk t.nodes x ks)).size ≤ 2 ^ 62 := by simp only [dE, aY, bH]; omega
 have a2 : ((⟨#[40]⟩ : ByteArray) ++ fX x (brk t.nodes x ks)).size + ((⟨#[41]⟩ : ByteArray)).size ≤ 2 ^ 62 := by simp only [dQ, dE, aY, bH]; omega
 cases c7 : (x.kind == 7) with
 | false =>
  rw [c7, bK] at hbare
  have hbk : brk t.nodes x ks = ks := by simp only [brk, hbare, aK]
  rw [hbk] at a1 a2 ⊢
  obtain ⟨r, S7, e7, rfl, g7⟩ := yT x ks X (S5.raise 28) hG6.fresh hM6.rd hfit hl hn hp (by omega)
  simp only [SXa, Nat.reduceEqDiff, Nat.reduceAdd, P64, t5, t6, aE, eG, hN, bS, aG, c7, aD, aM, aF, aB]
  refine cC e7 ?_
  simp only [SXa, Nat.reduceEqDiff, cS _ _ _ _ _ a1, cS _ _ _ _ _ a2]
  exact hG6.two g7
 | true =>
 rw [c7, cI] at hbare
 have i0 : ∀ S1, bT 1 (lN x) (some 0) S1 = some (.eptr [.sc (.int .i64 ((q : Nat) : Int))] 0, S1) := fun S1 => by rw [← hq1]; exact iQ (k := 0) (by omega) S1
 cases c5 : (t.nodes[q].kind == 5) with
 | false =>
  rw [c5, bK] at hbare
  have hbk : brk t.nodes x ks = ks := by simp only [brk, hbare, aK]
  rw [hbk] at a1 a2 ⊢
  obtain ⟨r, S7, e7, rfl, g7⟩ := yT x ks X (S5.raise 28) hG6.fresh hM6.rd hfit hl hn hp (by omega)
  simp only [SXa, Nat.reduceEqDiff, Nat.reduceAdd, P64, t2, t5, t6, aE, eG, hN, hT, bS, gS, aG, dN, c7, aD, aM, aF, aB, i0, iB ht.nodes hq2, aL, c5]
  refine cC e7 ?_
  simp only [SXa, Nat.reduceEqDiff, cS _ _ _ _ _ a1, cS _ _ _ _ _ a2]
  exact hG6.two g7
 | true =>
 rw [c5, cI] at hbare
 cases cl : (((t.nodes[q].kids.length : Nat) : Int) == 0) with
 | false =>
  rw [cl] at hbare
  have hbk : brk t.nodes x ks = ks := by simp only [brk, hbare, aK]
  rw [hbk] at a1 a2 ⊢
  obtain ⟨r, S7, e7, rfl, g7⟩ := yT x ks X (S5.raise 28) hG6.fresh hM6.rd hfit hl hn hp (by omega)
  simp only [SXa, Nat.reduceEqDiff, Nat.reduceAdd, P64, t2, t5, t6, aE, eG, hN, hT, bS, gS, aG, dN, c7, aD, aM, aF, aB, i0, iB ht.nodes hq2, aL, c5, dO, cl]
  refine cC e7 ?_
  simp only [SXa, Nat.reduceEqDiff, cS _ _ _ _ _ a1, cS _ _ _ _ _ a2]
  exact hG6.two g7
 | true =>
  rw [cl] at hbare
  have hbk : brk t.nodes x ks = ks.set 0 (((⟨#[40]⟩ : ByteArray) ++ kd ks 0) ++ (⟨#[41]⟩ : ByteArray)) := by simp only [brk, hbare, aH]
  rw [hbk] at a1 a2 hb1 hb2 ⊢
  obtain ⟨P, p1, p2, _⟩ := hM6.rd.idx h0
  rw [← sL h0] at p2
  have m0 := p2 _ hM6.rd
  have p1 : ∀ S1, bT 1 X (some 0) S1 = some (P, S1) := p1
  obtain ⟨Q, S8, q1, st, hM8, no8, gr8, ob8⟩ := hM6.set0 h0 (((⟨#[40]⟩ : ByteArray) ++ kd ks 0) ++ (⟨#[41]⟩ : ByteArray))
  obtain rfl : P = Q := by
   have := (p1 S5).symm.trans (q1 S5)
   simp only [aI, aJ, and_true] at this
   exact this
  have hG8 := gr8 S hG6 hSb
  have hN8 : S8.obj m = some (aL x) := by rw [ob8 m hmb]; exact hN'
  have z0 : (kd ks 0).size + (kd ks 1).size + (kd ks 2).size ≤ 90000 := cK (zV ks) hs
  have b1 : ((⟨#[40]⟩ : ByteArray)).size + (kd ks 0).size ≤ 2 ^ 62 := by simp only [dE, aY, bH]; omega
  have b2 : ((⟨#[40]⟩ : ByteArray) ++ kd ks 0).size + ((⟨#[41]⟩ : ByteArray)).size ≤ 2 ^ 62 := by simp only [dQ, dE, aY, bH]; omega
  obtain ⟨r, S7, e7, rfl, g7⟩ := yT x _ X S8 hG8.fresh hM8.rd (by rw [List.length_set]; exact hfit) (by rw [List.length_set]; exact hl) hn hp (by omega)
  simp only [SXa, Nat.reduceEqDiff, P64, t2, t5, t6, aE, eG, hN, hT, bS, gS, aG, dN, c7, aD, aM, aF, i0, iB ht.nodes hq2, aL, c5, dO, cl, p1, m0, cS _ _ _ _ _ b1, cS _ _ _ _ _ b2, st]
  simp only [SXa, Nat.reduceEqDiff, P64, t6, hN8, aD, aB, lU, lT]
  refine cC e7 ?_
  simp only [SXa, Nat.reduceEqDiff, cS _ _ _ _ _ a1, cS _ _ _ _ _ a2]
  exact hG8.two g7
structure ShowOk (t : TreeV) : Prop where
 nm : ∀ x ∈ t.nodes, x.name.size ≤ 60 ∧ x.param.size ≤ 60 ∧ -9223372036854775808 ≤ x.n ∧ x.n ≤ 9223372036854775807
 ln : t.nodes.length ≤ 100
 lk : ∀ x ∈ t.nodes, x.kids.length ≤ 100
theorem kn6 (x : NodeV) : x.kind = 1 ∨ x.kind = 23 ∨ x.kind = 2 ∨ x.kind = 24 ∨ x.kind = 3 ∨ x.kind = 25 ∨ x.kind = 4 ∨ x.kind = 22 ∨ x.kind = 21 ∨ x.kind = 18 ∨ x.kind = 5 ∨ x.kind = 26 ∨ qL x = false := by
 cases h : qL x with
 | false => simp
 | true =>
  unfold qL at h
  simp only [eF, gD] at h
  omega
theorem xs5 {ns : List NodeV} {ds : List DeclV} {d : Nat} {pat : Bool} {a z : Nat} (h : bC ns ds (d + 1) pat a = some z) (hlt : a < ns.length) : eT ds ns[a] = true := by
 have hx : ns[a]? = some ns[a] := cX hlt
 unfold bC at h
 rw [hx] at h
 simp only [bB] at h
 split at h
 · cases h
 · rename_i h2
   simp only [eF, jB, not_or, Bool.not_eq_false] at h2
   exact h2.2
theorem wr2 (t : TreeV) (nx tx : AV) (ht : TreeIs nx tx t) (ho : ShowOk t) : ∀ (d f : Nat), d ≤ f → d ≤ 100 → ∀ (pat : Bool) (a z : Nat), bC t.nodes t.types d pat a = some z → Ans E 64 [.agg [nx, tx], .sc (.int .i64 (a : Nat))] (.sc (.string (eM t.nodes f a)))
 | 0, f, hf, hd, pat, a, z, h => by cases h
 | d + 1, 0, hf, hd, pat, a, z, h => by omega
 | d + 1, f + 1, hf, hd, pat, a, z, h => bU fun S hS => by
  have hbd := cT _ _ _ _ _ _ h
  have hlt : a < t.nodes.length := by omega
  have hxm := fE hlt
  have hkl := ho.lk _ hxm
  obtain ⟨hnm, hpm, hn1, hn2⟩ := ho.nm _ hxm
  have hw := uE h hlt
  have hal := xs5 h hlt
  have hln := ho.ln
  have hsum := yA (f := f) (vU t.nodes t.types ho.nm d f (by omega)) pat _ _ 0 (a + 1) z hw
  have eb : eM t.nodes (f + 1) a = fC t.nodes t.nodes[a] (t.nodes[a].kids.map fun k => eM t.nodes f k.toNat) := by
   rw [eM, cX hlt]
  rw [eb]
  refine ev64 rfl ?_
  unfold p64
  generalize hTl : (PC.seq (.seq (.regD 28 r64_29) (.cond (.tmp 89) (.reg r64_30) .skip)) (.seq (.reg r64_31) .ret)) = Tl
  have hb1 := (Grow.refl hS aA).born 26 [nx, tx]
  have hT1 : (S.born 26 [nx, tx]).obj S.no = some [nx, tx] := by simp [bE]
  have hno1 : S.no < (S.born 26 [nx, tx]).no := bJ _
  simp only [SXa, reduceCtorEq, Nat.reduceAdd, dT, dZ]
  generalize S.born 26 [nx, tx] = S1 at hb1 hT1 hno1
  have hb2 := (hb1.born 36 zN).put S1.no (.cells (aL t.nodes[a])) hb1.no
  have hN2 : ((S1.born 36 zN).put S1.no (.cells (aL t.nodes[a]))).obj S1.no = some (aL t.nodes[a]) := by simp [aX]
  have hT2 : ((S1.born 36 zN).put S1.no (.cells (aL t.nodes[a]))).obj S.no = some [nx, tx] := by
   have : S.no ≠ S1.no := by omega
   simp [aX, bE, this, hT1]
  have hno2 : S1.no < ((S1.born 36 zN).put S1.no (.cells (aL t.nodes[a]))).no := bJ _
  simp only [SXa, reduceCtorEq, Nat.reduceEqDiff, P64, gS, aG, aE, hT1, aD, aF, aM, iB ht.nodes hlt, lU, lT, tV, stN, bE, oF, oB, dK, aB]
  generalize (S1.born 36 zN).put S1.no (.cells (aL t.nodes[a])) = S2 at hb2 hN2 hT2 hno2
  have hN2' := hN2
  simp only [aL] at hN2
  simp only [SXa, reduceCtorEq, Nat.reduceEqDiff, P64, aE, hN2, bS, aG, aD, aF, dO]
  refine bX (fun tm S' N => ∃ (i q : Nat) (X : AV), i ≤ t.nodes[a].kids.length ∧ N = t.nodes[a].kids.length - i ∧ bV (bC t.nodes t.types d) pat (t.nodes[a].kind == 11) (t.nodes[a].kids.drop i) i q = some z ∧
   MutS S2.no S' X ((t.nodes[a].kids.take i).map fun k => eM t.nodes f k.toNat) ∧ S'.obj S.no = some [nx, tx] ∧ S'.obj S1.no = some (aL t.nodes[a]) ∧ Grow S S' aA ∧ S2.no ≤ S'.no ∧ getT tm 2 = .ptr S.no 0 ∧ getT tm 5 = .ptr S1.no 0 ∧ getT tm 6 = X ∧ getT tm 15 = (lN t.nodes[a]) ∧ getT tm 16 = .sc (.int .i64 (t.nodes[a].kids.length : Nat)) ∧ getT tm 17 = .sc (.int .i64 (i : Int))) t.nodes[a].kids.length
   ⟨0, a + 1, aA, by omega, by omega, by rw [cJ]; exact hw, .inl ⟨rfl, rfl⟩, hT2, hN2', hb2, aB _, by simp [aO]⟩ ?_
  rintro tm S3 N ⟨i, q, X, hi, rfl, hq, hM, hT3, hN3', hb3, hno3, t2, t5, t6, t15, t16, t17⟩
  have hN3 := hN3'
  simp only [aL] at hN3
  by_cases hit : i < t.nodes[a].kids.length
  case pos =>
   have wi := cG hit (by omega)
   rw [tE _ _ _ hit] at hq
   cases c6 : (t.nodes[a].kids[i] == ((q : Nat) : Int)) with
   | false => rw [c6] at hq; cases hq
   | true =>
   rw [c6, aH] at hq
   have hk : t.nodes[a].kids[i] = ((q : Nat) : Int) := by simpa using c6
   cases hw2 : bC t.nodes t.types d (pat || (t.nodes[a].kind == 11 && cN ((i : Nat) : Int))) q with
   | none => rw [hw2] at hq; cases hq
   | some q1 =>
   rw [hw2] at hq
   obtain ⟨S4, e4, g4⟩ := wr2 t nx tx ht ho d f (by omega) (by omega) _ q q1 hw2 S3 hb3.fresh
   have hM4 := hM.grow g4
   obtain ⟨Y, S5, ap, hM5, no5, gr5, ob5⟩ := hM4.app (cK hno3 g4.no) (by rw [eE, eW]; omega) (eM t.nodes f q)
   have hb5 := gr5 S (hb3.two g4) hb2.no
   have hT5 : S5.obj S.no = some [nx, tx] := by rw [ob5 _ (by omega)]; exact g4.objs hT3 (by omega)
   have hN5 : S5.obj S1.no = some (aL t.nodes[a]) := by rw [ob5 _ (by omega)]; exact g4.objs hN3' (by omega)
   have hno5 : S2.no ≤ S5.no := by rw [no5]; have := g4.no; omega
   have etk : (t.nodes[a].kids.take i).map (fun k => eM t.nodes f k.toNat) ++ [eM t.nodes f q] = (t.nodes[a].kids.take (i + 1)).map fun k => eM t.nodes f k.toNat := by
    rw [qS hit, lR, cF, jQ, hk, gN]
   rw [etk] at hM5
   simp only [SXa, Nat.reduceEqDiff, Nat.reduceAdd, b64_8, P64, t2, t6, t15, t16, t17, bL hit, iQ hit, hk, aE, hT3, aD, aF, aB]
   refine cC e4 ?_
   simp only [SXa, Nat.reduceEqDiff, Nat.reduceBEq, P64, t2, t5, t6, t15, t16, t17, kX, app31m, ap, wi]
   exact ⟨t.nodes[a].kids.length - (i + 1), by omega, i + 1, q1, Y, by omega, rfl, hq, hM5, hT5, hN5, hb5, hno5, by simp []⟩
  case neg =>
  have hie : i = t.nodes[a].kids.length := by omega
  rw [hie, oU] at hM
  generalize hks : (t.nodes[a].kids.map fun k => eM t.nodes f k.toNat) = ks at hM hsum ⊢
  have hkn : ks.length = t.nodes[a].kids.length := by rw [← hks, eE]
  rcases kn6 t.nodes[a] with hk | hk | hk | hk | hk | hk | hk | hk | hk | hk | hk | hk | hleaf
  case inl =>
   simp only [SXa, Nat.reduceEqDiff, Int.reduceBEq, b64_8, P64, t5, t16, t17, bO hit, aE, hN3, bS, aG, aD, aM, aF, hk]
   refine aT (kq4 _ hn1 hn2) hb3 (fun S6 g6 hG6 => ?_)
   simp only [SXa, Nat.reduceEqDiff]
   exact ⟨by simp only [fC, hk, Int.reduceBEq, cA, dD, aH, aK], hG6⟩
  case inr.inl =>
   simp only [SXa, Nat.reduceEqDiff, Int.reduceBEq, b64_8, P64, t5, t16, t17, bO hit, aE, hN3, bS, aG, aD, aM, aF, hk]
   refine aT (kq4 _ hn1 hn2) hb3 (fun S6 g6 hG6 => ?_)
   simp only [SXa, Nat.reduceEqDiff]
   exact ⟨by simp only [fC, hk, Int.reduceBEq, cR, dD, aH, aK], hG6⟩
  case inr.inr.inl =>
   simp only [SXa, Nat.reduceEqDiff, Int.reduceBEq, b64_8, P64, t5, t16, t17, bO hit, aE, hN3, bS, aG, aD, aM, aF, hk]
   refine aT (ww5 (t.nodes[a].n == 1)) hb3 (fun S6 g6 hG6 => ?_)
   simp only [SXa, Nat.reduceEqDiff]
   exact ⟨by simp only [fC, hk, Int.reduceBEq, cA, dD, aH, aK], hG6⟩
  case inr.inr.inr.inl =>
   simp only [SXa, Nat.reduceEqDiff, Int.reduceBEq, b64_8, P64, t5, t16, t17, bO hit, aE, hN3, bS, aG, aD, aM, aF, hk]
   refine aT (ww5 (t.nodes[a].n == 1)) hb3 (fun S6 g6 hG6 => ?_)
   simp only [SXa, Nat.reduceEqDiff]
   exact ⟨by simp only [fC, hk, Int.reduceBEq, cR, dD, aH, aK], hG6⟩
  case inr.inr.inr.inr.inr.inr.inr.inr.inr.inr.inr.inr =>
   have rest := fun tm => kh4 t nx tx X ht t.nodes[a] ks S.no S1.no S2.no S S3 tm hleaf (by rw [hkn]; exact kq7 hal hleaf) hkn (by omega) (fun h0 => by
    obtain ⟨p, q, q1, a1, a2, a3, a4⟩ := yQ pat _ _ 0 (a + 1) z hw 0 h0
    exact ⟨q, a3, by have := cT _ _ _ _ _ _ a4; omega⟩) (by omega) (by omega) (by omega) hM hT3 hN3' (by omega) (by omega) hno3 hb2.no hb3
   rw [hTl] at rest
   have hl2 := hleaf
   unfold qL at hl2
   simp only [oQ] at hl2
   simp only [SXa, Nat.reduceEqDiff, b64_8, P64, t5, t16, t17, bO hit, aE, hN3, bS, aG, aD, aM, hl2]
   refine rest _ ?_ ?_ ?_
   all_goals simp [aO, t2, t5, t6]
  case inr.inr.inr.inr.inr.inr.inr.inr.inr.inr.inl | inr.inr.inr.inr.inr.inr.inr.inr.inr.inr.inr.inl =>
   obtain ⟨r, S7, e7, rfl, g7⟩ := kg0 t.nodes[a].name ks X S3 hb3.fresh hM.rd (by omega) (by omega) (by omega)
   simp only [SXa, Nat.reduceEqDiff, Int.reduceBEq, b64_8, P64, t5, t6, t16, t17, bO hit, aE, hN3, bS, aG, aD, aM, aF, hk]
   refine cC e7 ?_
   simp only [SXa, Nat.reduceEqDiff]
   exact ⟨by simp only [fC, hk, Int.reduceBEq, cR, cA, dD, aH, aK], hb3.two g7⟩
  all_goals
   simp only [SXa, Nat.reduceEqDiff, Int.reduceBEq, b64_8, P64, t5, t16, t17, bO hit, aE, hN3, bS, aG, aD, aM, aF, hk]
   exact ⟨by simp only [fC, hk, Int.reduceBEq, cR, cA, dD, aH, aK], hb3⟩
end Go.Proofs.YthjaoinieikjdaaGreatDoor
