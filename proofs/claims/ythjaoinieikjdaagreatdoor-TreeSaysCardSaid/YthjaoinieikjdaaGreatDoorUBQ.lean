/-
  The document's own trees: the walks (texts, depths, stops, what is free, what is bound).
-/
import Derived.Test.YthjaoinieikjdaaGreatDoorUBP
import Derived.Test.YthjaoinieikjdaaGreatDoorUBC
set_option maxHeartbeats 64000000
set_option linter.unusedSimpArgs false
set_option linter.unusedVariables false
set_option maxRecDepth 100000
namespace Go.Proofs.YthjaoinieikjdaaGreatDoor
open Go.Abs
theorem xw7 {ds : List DeclV} {x : NodeV} (h : eT ds x = true) : 1 ≤ x.kind ∧ x.kind ≤ 26 ∧ iK x = true := by
 unfold eT at h
 simp only [bB] at h
 split at h
 · cases h
 · rename_i h1
   simp only [eF, bZ, not_or, jB, Bool.not_eq_false] at h1
   exact ⟨by omega, by omega, h1.1.2⟩
theorem km2 {x : NodeV} (h : iK x = true) (hk : x.kind = 1 ∨ x.kind = 23) : 0 ≤ x.n ∧ x.n ≤ 4611686018427387903 := by
 have : (x.kind == 1 || x.kind == 23) = true := by simp; exact hk
 simp only [iK, this, aH, aS, bZ] at h
 exact h
theorem wd5 (t : TreeV) (nx tx : AV) (ht : RIs nx tx t) (ho : ShowOk t) : ∀ (d f : Nat), d ≤ f → d ≤ 100 → ∀ (pat : Bool) (a z : Nat), bC t.nodes t.types d pat a = some z → Ans E 67 [.agg [nx, tx], .sc (.int .i64 (a : Nat))] (.sc (.string (eM t.nodes f a)))
 | 0, f, hf, hd, pat, a, z, h => by cases h
 | d + 1, 0, hf, hd, pat, a, z, h => by omega
 | d + 1, f + 1, hf, hd, pat, a, z, h => bU fun S hS => by
  have hbd := cT _ _ _ _ _ _ h
  obtain ⟨hlt, hpat, hal, hw⟩ := oZ h
  have hxm := fE hlt
  have hkl := ho.lk _ hxm
  obtain ⟨hnm, hpm, hn1', hn2'⟩ := ho.nm _ hxm
  have hln := ho.ln
  have hsum := yA (f := f) (vU t.nodes t.types ho.nm d f (by omega)) pat _ _ 0 (a + 1) z hw
  obtain ⟨kk1, kk2, knum⟩ := xw7 hal
  have eb : eM t.nodes (f + 1) a = fC t.nodes t.nodes[a] (t.nodes[a].kids.map fun k => eM t.nodes f k.toNat) := by
   rw [eM, cX hlt]
  rw [eb]
  refine ev67 rfl ?_
  unfold p67
  generalize hTl : (PC.seq (.seq (.reg r67_8) (.block 2 (.seq (.seq (.reg r67_9) (.cond (.tmp 35) .skip (.reg r67_10))) (.cond (.tmp 35) (.seq (.reg r67_11) .ret) (.seq (.seq (.reg r67_12) (.cond (.tmp 41) .skip (.reg r67_13))) (.cond (.tmp 41) (.seq (.seq (.reg r67_14) (.cond (.tmp 46) (.seq (.reg r67_15) .ret) .skip)) (.seq (.reg r67_16) .ret)) (.seq (.seq (.reg r67_17) (.cond (.tmp 47) .skip (.reg r67_18))) (.cond (.tmp 47) (.seq (.reg r67_19) .ret) (.seq (.seq (.reg r67_20) (.cond (.tmp 50) .skip (.reg r67_21))) (.cond (.tmp 50) (.seq (.reg r67_22) .ret) (.seq (.seq (.reg r67_23) (.cond (.tmp 55) .skip (.reg r67_24))) (.cond (.tmp 55) (.seq (.seq (.reg r67_25) (.cond (.tmp 60) (.seq (.reg r67_26) .ret) .skip)) (.seq (.draw d67_0) .ret)) (.seq (.reg r67_29) (.cond (.tmp 70) (.seq (.regD 10 r67_30) .ret) (.seq (.reg r67_31) (.cond (.tmp 81) (.seq (.seq (.draw d67_1) (.seq (.reg r67_34) (.cond (.tmp 99) (.seq (.regD 11 r67_35) .ret) .skip))) (.seq (.regD 11 r67_36) .ret)) (.seq (.reg r67_37) (.cond (.tmp 120) (.seq (.regD 15 r67_38) .ret) (.seq (.reg r67_39) (.cond (.tmp 136) (.seq (.regD 19 r67_40) .ret) (.seq (.reg r67_41) (.cond (.tmp 156) (.seq (.regD 16 r67_42) .ret) (.seq (.reg r67_43) (.cond (.tmp 173) (.seq (.reg r67_44) (.seq (.seq (.reg r67_45) (.block 3 (.loop b67_49))) (.seq (.draw d67_2) .ret))) (.seq (.reg r67_52) (.cond (.tmp 204) (.seq (.regD 11 r67_53) .ret) (.seq (.reg r67_54) (.cond (.tmp 216) (.seq (.regD 11 r67_55) .ret) (.seq (.reg r67_56) (.cond (.tmp 228) (.seq (.regD 15 r67_57) .ret) (.seq (.reg r67_58) (.cond (.tmp 244) (.seq (.reg r67_59) .ret) (.seq (.reg r67_60) (.cond (.tmp 251) (.seq (.reg r67_61) .ret) (.seq (.reg r67_62) (.cond (.tmp 258) (.seq (.reg r67_63) .ret) (.seq (.reg r67_64) (.cond (.tmp 265) (.seq (.reg r67_65) .ret) (.seq (.reg r67_66) (.cond (.tmp 267) (.seq (.reg r67_67) .ret) (.seq (.reg r67_68) (.cond (.tmp 274) (.seq (.regD 15 r67_69) .ret) .skip)))))))))))))))))))))))))))))))))))))))))) (.seq (.reg r67_70) .ret)) = Tl
  have hb1 := (Grow.refl hS aA).born 52 [nx, tx]
  have hT1 : (S.born 52 [nx, tx]).obj S.no = some [nx, tx] := by simp [bE]
  have hn1 : S.no < (S.born 52 [nx, tx]).no := bJ _
  simp only [SXa, reduceCtorEq, Nat.reduceAdd, dT, dZ]
  generalize S.born 52 [nx, tx] = S1 at hb1 hT1 hn1
  have hb2 := (hb1.born 69 zN).put S1.no (.cells (aL t.nodes[a])) hb1.no
  have hN2 : ((S1.born 69 zN).put S1.no (.cells (aL t.nodes[a]))).obj S1.no = some (aL t.nodes[a]) := by simp [aX]
  have hT2 : ((S1.born 69 zN).put S1.no (.cells (aL t.nodes[a]))).obj S.no = some [nx, tx] := by
   have : S.no ≠ S1.no := by omega
   simp [aX, bE, this, hT1]
  have hn2 : S1.no < ((S1.born 69 zN).put S1.no (.cells (aL t.nodes[a]))).no := bJ _
  simp only [SXa, reduceCtorEq, Nat.reduceEqDiff, P67, hT1, aE, dA, aG, aD, aM, aF, aB, iB ht.nodes hlt, lU, lT, zQ, stN, bE, oF, oB, dK]
  generalize (S1.born 69 zN).put S1.no (.cells (aL t.nodes[a])) = S2 at hb2 hN2 hT2 hn2
  refine bX (fun tm S' N => ∃ (i q : Nat) (X : AV), i ≤ t.nodes[a].kids.length ∧ N = t.nodes[a].kids.length - i ∧ bV (bC t.nodes t.types d) pat (t.nodes[a].kind == 11) (t.nodes[a].kids.drop i) i q = some z ∧
   OwnV S' 9 1 X (aN ((t.nodes[a].kids.take i).map fun k => eM t.nodes f k.toNat)) ∧ cY S X ∧ S'.obj S.no = some [nx, tx] ∧ S'.obj S1.no = some (aL t.nodes[a]) ∧ Grow S S' aA ∧ S1.no < S'.no ∧ getT tm 2 = .ptr S.no 0 ∧ getT tm 5 = .ptr S1.no 0 ∧ getT tm 6 = X ∧ getT tm 7 = .sc (.int .i64 (i : Int))) t.nodes[a].kids.length
   ⟨0, a + 1, aA, by omega, by omega, by rw [cJ]; exact hw, OwnV.nil' _ _ _, .inl rfl, hT2, hN2, hb2, hn2, by simp [aO]⟩ ?_
  clear hN2
  rintro tm S3 N ⟨i, q, X, hi, rfl, hq, hX, hNw, hT3, hN3', hb3, hn3, t2, t5, t6, t7⟩
  have hN3 := hN3'
  simp only [aL] at hN3
  by_cases hit : i < t.nodes[a].kids.length
  case neg =>
   have hie : i = t.nodes[a].kids.length := by omega
   rw [hie, oU] at hX
   have tl := wz5 t nx tx X ht t.nodes[a] (t.nodes[a].kids.map fun k => eM t.nodes f k.toNat) S.no S1.no S S3
   rw [hTl] at tl
   simp only [SXa, Nat.reduceEqDiff, b67_7, P67, t5, t7, hN3, aE, bP, aG, aD, aF, dO, bO hit]
   exact tl _ ⟨kk1, kk2⟩ (fun hf => by rw [eE]; exact kq7 hal hf) (by rw [eE]) (by rw [eE]; omega) (fun h0 => by
    obtain ⟨q, q1, a1, a2, a3, a4⟩ := vS (tK t.nodes t.types d) _ 0 (a + 1) z hw 0 h0
    exact ⟨q, a1, by have := cT _ _ _ _ _ _ a4; omega⟩) (by omega) (by omega) (km2 knum) (by omega) hX.is hT3 hN3' (by omega) (by omega) hb3 (by simp [aO, t2]) (by simp [aO, t5]) (by simp [aO, t6])
  have wi := cG hit (by omega)
  rw [dJ hit] at hq
  obtain ⟨hk, q1, hw2, hq⟩ := pY hq
  have gr := Grow.raise hb3.fresh 11 aA
  obtain ⟨S4, e4, g4⟩ := wd5 t nx tx ht ho d f (by omega) (by omega) _ q q1 hw2 (S3.raise 11) gr.fresh
  have g34 := gr.two g4
  obtain ⟨Z, S5, ap, hZ, hNZ, hG5, no5, ob5, _⟩ := mO (hX.keep g34) hNw (hb3.two g34) (pN (eM t.nodes f q)) (by rw [eE, eW]; simp only [aY, bH]; omega)
  have etk : (t.nodes[a].kids.take i).map (fun k => eM t.nodes f k.toNat) ++ [eM t.nodes f q] = (t.nodes[a].kids.take (i + 1)).map fun k => eM t.nodes f k.toNat := by
   rw [qS hit, lR, cF, jQ, hk, gN]
  rw [etk] at hZ
  simp only [SXa, Nat.reduceEqDiff, Nat.reduceAdd, b67_7, P67, t2, t5, t6, t7, hN3, hT3, aE, eG, bP, aG, aD, aF, aB, dO, bL hit, iQ hit, hk]
  refine cC e4 ?_
  simp only [SXa, Nat.reduceEqDiff, Nat.reduceBEq, P67, t2, t5, t6, t7, kX, ap, wi]
  exact ⟨t.nodes[a].kids.length - (i + 1), by omega, i + 1, q1, Z, by omega, rfl, hq, hZ, hNZ, by rw [ob5]; exact g34.objs hT3 (by omega), by rw [ob5]; exact g34.objs hN3' hn3, hG5, by rw [no5]; exact aU hn3 g34.no, by simp []⟩
theorem xt6 (t : TreeV) (nx tx : AV) (ht : RIs nx tx t) : ∀ (d f : Nat), d ≤ f → d ≤ 100 → ∀ (pat : Bool) (a z : Nat), bC t.nodes t.types d pat a = some z → Ans E 76 [.agg [nx, tx], .sc (.int .i64 (a : Nat))] (.sc (.int .i64 (gI t.nodes f a : Nat)))
 | 0, f, hf, hd, pat, a, z, h => by cases h
 | d + 1, 0, hf, hd, pat, a, z, h => by omega
 | d + 1, f + 1, hf, hd, pat, a, z, h => bU fun S hS => by
  have hbd := cT _ _ _ _ _ _ h
  obtain ⟨hlt, hpat, hal, hw⟩ := oZ h
  have hkl := ht.lk _ (fE hlt)
  have hle := xN (f := f) (yV t.nodes t.types d f (by omega)) pat _ _ 0 (a + 1) z 0 hw (by omega)
  have eb : gI t.nodes (f + 1) a = (t.nodes[a].kids.map fun k => gI t.nodes f k.toNat).foldl max 0 + 1 := by
   rw [gI, cX hlt]
  rw [eb]
  refine ev76 rfl ?_
  have hb1 := (Grow.refl hS aA).born 52 [nx, tx]
  have hT1 : (S.born 52 [nx, tx]).obj S.no = some [nx, tx] := by simp [bE]
  have hn1 : S.no < (S.born 52 [nx, tx]).no := bJ _
  simp only [SXa, reduceCtorEq, Nat.reduceAdd, P76, dT, dZ]
  generalize S.born 52 [nx, tx] = S1 at hb1 hT1 hn1
  refine bX (fun tm S' N => ∃ (i q n : Nat), i ≤ t.nodes[a].kids.length ∧ N = t.nodes[a].kids.length - i ∧ bV (bC t.nodes t.types d) pat (t.nodes[a].kind == 11) (t.nodes[a].kids.drop i) i q = some z ∧ n ≤ 200 ∧
   ((t.nodes[a].kids.drop i).map fun k => gI t.nodes f k.toNat).foldl max n = (t.nodes[a].kids.map fun k => gI t.nodes f k.toNat).foldl max 0 ∧
   S'.obj S.no = some [nx, tx] ∧ Grow S S' aA ∧ S.no < S'.no ∧ getT tm 1 = .sc (.int .i64 (a : Nat)) ∧ getT tm 2 = .ptr S.no 0 ∧ getT tm 5 = .sc (.int .i64 (n : Int)) ∧ getT tm 6 = .sc (.int .i64 (i : Int))) t.nodes[a].kids.length
   ⟨0, a + 1, 0, by omega, by omega, by rw [cJ]; exact hw, by omega, by rw [cJ], hT1, hb1, by omega, by simp [aO]⟩ ?_
  rintro tm S3 N ⟨i, q, n, hi, rfl, hq, hn200, hfl, hT3, hb3, hn3, t1, t2, t5, t6⟩
  have hln := ht.ln
  by_cases hit : i < t.nodes[a].kids.length
  case neg =>
   have hie : i = t.nodes[a].kids.length := by omega
   rw [hie, fA] at hfl
   simp only [jQ, List.foldl_nil] at hfl
   have wn : IntKind.i64.wrap ((n : Int) + 1) = ((n + 1 : Nat) : Int) := by rw [wrap_i64 (by omega) (by omega)]; omega
   simp only [SXa, Nat.reduceEqDiff, b76_8, P76, t1, t2, t5, t6, hT3, aE, bP, dA, aG, dN, aD, aM, aF, iB ht.nodes hlt, aL, dO, bO hit, wn]
   rw [← hfl]
   exact ⟨rfl, hb3⟩
  have wi := cG hit (by omega)
  rw [dJ hit] at hq
  obtain ⟨hk, q1, hw2, hq⟩ := pY hq
  have hdl := yV t.nodes t.types d f (by omega) _ _ _ hw2
  rw [dJ hit, cF, List.foldl_cons, hk, gN] at hfl
  have gr := Grow.raise hb3.fresh 12 aA
  simp only [SXa, Nat.reduceEqDiff, Nat.reduceAdd, b76_8, P76, t1, t2, t6, hT3, aE, eG, bP, dA, aG, dN, aD, aM, aF, aB, iB ht.nodes hlt, aL, dO, bL hit, iQ hit, hk]
  refine aT (xt6 t nx tx ht d f (by omega) (by omega) _ q q1 hw2) (hb3.two gr) (fun S4 g4 hb4 => ?_)
  have hT4 := (gr.two g4).objs hT3 hn3
  have hn4 := aU hn3 (gr.two g4).no
  by_cases hm : n < gI t.nodes f q
  · have e : max n (gI t.nodes f q) = gI t.nodes f q := by omega
    rw [e] at hfl
    simp only [SXa, Nat.reduceEqDiff, t1, t2, t5, t6, bL hm, wi]
    exact ⟨t.nodes[a].kids.length - (i + 1), by omega, i + 1, q1, _, by omega, rfl, hq, by omega, hfl, hT4, hb4, hn4, by simp []⟩
  · have e : max n (gI t.nodes f q) = n := by omega
    rw [e] at hfl
    simp only [SXa, Nat.reduceEqDiff, t1, t2, t5, t6, bO hm, wi]
    exact ⟨t.nodes[a].kids.length - (i + 1), by omega, i + 1, q1, n, by omega, rfl, hq, by omega, hfl, hT4, hb4, hn4, by simp []⟩
theorem kj9 (t : TreeV) (nx tx : AV) (ht : RIs nx tx t) (ho : FewOk t) (hl : t.types.length ≤ 100) (S : St) (hS : S.Fresh) : ∃ r S', EvA E 33 [.agg [nx, tx]] S r S' ∧ IsV 1 r (cE (bif fJ t then lI t.nodes 0 else [])) ∧ Grow S S' aA := by
 refine ev33 rfl ?_
 have hG := (Grow.refl hS aA).born 52 [nx, tx]
 have hT : (S.born 52 [nx, tx]).obj S.no = some [nx, tx] := by simp [bE]
 have hn : S.no < (S.born 52 [nx, tx]).no := bJ _
 simp only [SXa, reduceCtorEq, Nat.reduceEqDiff, Nat.reduceAdd, P33, dT, dZ]
 generalize S.born 52 [nx, tx] = S0 at hG hT hn
 simp only [SXa, reduceCtorEq, Nat.reduceEqDiff, Nat.reduceAdd, P33, hT, aE, aD, aF, aB]
 refine aT (uG t nx tx ht ho hl) hG (fun S1 g1 hG1 => ?_)
 have hT1 := g1.objs hT hn
 have hn1 := aU hn g1.no
 cases hg : fJ t with
 | false =>
  simp only [SXa, reduceCtorEq, Nat.reduceEqDiff]
  exact ⟨IsV.nil 1, hG1⟩
 | true =>
 simp only [SXa, reduceCtorEq, Nat.reduceEqDiff]
 have hln := ht.ln
 refine bX (fun tm S' N => ∃ (k : Nat) (X : AV) (ws : List Int), k ≤ t.nodes.length ∧ N = t.nodes.length - k ∧ ws ++ lI (t.nodes.drop k) k = lI t.nodes 0 ∧ ws.length ≤ k ∧ OwnV S' 3 1 X (cE ws) ∧ cY S X ∧ S'.obj S.no = some [nx, tx] ∧ S.no < S'.no ∧ Grow S S' aA ∧ getT tm 1 = .ptr S.no 0 ∧ getT tm 3 = X ∧ getT tm 4 = .sc (.int .i64 (k : Int))) t.nodes.length
  ⟨0, aA, [], by omega, by omega, by rw [cJ]; rfl, by simp, OwnV.nil' _ _ _, .inl rfl, hT1, hn1, hG1, by simp [aO]⟩ ?_
 rintro tm S2 N ⟨k, X, ws, hk, rfl, hw, hl2, hX, hN, hT2, hn2, hG2, t1, t3, t4⟩
 by_cases hlt : k < t.nodes.length
 case neg =>
  have hke : k = t.nodes.length := by omega
  rw [hke, fA, lI, dK] at hw
  simp only [SXa, Nat.reduceEqDiff, b33_10, P33, t1, t3, t4, hT2, aE, dA, aG, aD, aM, eY ht.nodes, bO hlt]
  rw [← hw]
  exact ⟨hX.is, hG2⟩
 have wk := cG hlt (by omega)
 rw [xi9 hlt, kx5] at hw
 generalize hkd : t.nodes[k].kind = kd at hw
 have stop : ∀ c : Bool, (decide (7 ≤ kd) && decide (kd ≤ 11) || kd == 13 || decide (17 ≤ kd) && decide (kd ≤ 20)) = c → True := fun _ _ => trivial
 obtain ⟨Z, S5, ap, hZ, hNZ, hG5, no5, ob5, _⟩ := ww9 (Y := .vec 1 1 [.sc (.int .i64 ((k : Nat) : Int))]) (ys := [((k : Nat) : Int)]) hX hN hG2 (IsV.vec 1 1 _) (by simp only [aY, bH]; omega)
 simp only [SXa, Nat.reduceEqDiff, b33_10, P33, t1, t4, hT2, aE, bP, dA, aG, dN, aD, aM, eY ht.nodes, bL hlt, iB ht.nodes hlt, aL, hkd]
 repeat' (first
  | (refine gP (fun h => ?_) (fun h => ?_) <;> simp only [SXa, Nat.reduceEqDiff, P33, h, t1, t3, t4, bsi1, ap, wk])
  | (refine gO (fun h => ?_) (fun h => ?_) <;> simp only [SXa, Nat.reduceEqDiff, P33, h, t1, t3, t4, bsi1, ap, wk]))
 all_goals
  simp only [jK, dY, cR, fU, cA, bK, aH, aK, *] at hw
 all_goals first
  | exact ⟨t.nodes.length - (k + 1), by omega, k + 1, Z, ws ++ [((k : Nat) : Int)], by omega, rfl, by rw [← hw]; simp, by simp only [dL, aY, bH]; omega, hZ, hNZ, by rw [ob5]; exact hT2, by rw [no5]; exact hn2, hG5, by simp []⟩
  | exact ⟨t.nodes.length - (k + 1), by omega, k + 1, X, ws, by omega, rfl, hw, by omega, hX, hN, hn2, hG2, by simp [t1, t3]⟩
  | exact ⟨t.nodes.length - (k + 1), by omega, k + 1, X, ws, by omega, rfl, hw, by omega, hX, hN, hT2, hn2, hG2, by simp []⟩
theorem ka0 (t : TreeV) (nx tx : AV) (ht : RIs nx tx t) (ho : FewOk t) (hl : t.types.length ≤ 100) (i : Int) : Ans E 35 [.agg [nx, tx], .sc (.int .i64 i)] (.sc (.int .i64 (qH t i : Nat))) := bU fun S hS => by
 refine ev35 rfl ?_
 have hG := (Grow.refl hS aA).born 52 [nx, tx]
 have hT : (S.born 52 [nx, tx]).obj S.no = some [nx, tx] := by simp [bE]
 have hn : S.no < (S.born 52 [nx, tx]).no := bJ _
 simp only [SXa, reduceCtorEq, Nat.reduceEqDiff, Nat.reduceAdd, P35, dT, dZ]
 generalize S.born 52 [nx, tx] = S0 at hG hT hn
 simp only [SXa, reduceCtorEq, Nat.reduceEqDiff, Nat.reduceAdd, P35, hT, aE, aD, aF, aB]
 refine aT (uG t nx tx ht ho hl) hG (fun S1 g1 hG1 => ?_)
 have hT1 := g1.objs hT hn
 have hn1 := aU hn g1.no
 cases hg : fJ t with
 | false =>
  simp only [SXa, reduceCtorEq, Nat.reduceEqDiff]
  exact ⟨by have : dW t i = false := (by simp only [dW, hg, dY]); simp only [qH, this, aK]; rfl, hG1⟩
 | true =>
 cases h0 : decide (i < 0) with
 | true =>
  have h0' : decide (0 ≤ i) = false := by simp at h0 ⊢; omega
  simp only [SXa, reduceCtorEq, Nat.reduceEqDiff, h0]
  exact ⟨by have : dW t i = false := (by simp only [dW, h0', bK]); simp only [qH, this, aK]; rfl, hG1⟩
 | false =>
 have h0' : decide (0 ≤ i) = true := by simp at h0 ⊢; omega
 cases h1 : decide (((t.nodes.length : Nat) : Int) ≤ i) with
 | true =>
  have h1' : decide (i < ((t.nodes.length : Nat) : Int)) = false := by simp at h1 ⊢; omega
  simp only [SXa, reduceCtorEq, Nat.reduceEqDiff, P35, hT1, aE, dA, aG, aD, aM, eY ht.nodes, h0, h1]
  exact ⟨by have : dW t i = false := (by simp only [dW, h1', dY, bK]); simp only [qH, this, aK]; rfl, hG1⟩
 | false =>
 have h1' : decide (i < ((t.nodes.length : Nat) : Int)) = true := by simp at h1 ⊢; omega
 have hat : dW t i = true := by simp only [dW, h0', h1', hg, bY]
 obtain ⟨d, p, z, k1, k2, k3, k4, k5⟩ := sE hat
 have hbd := cT _ _ _ _ _ _ k2
 have hd := xt6 t nx tx ht d 60 k1 (by omega) p i.toNat z k2
 rw [← k3] at hd
 simp only [SXa, reduceCtorEq, Nat.reduceEqDiff, Nat.reduceAdd, P35, hT1, aE, dA, aG, aD, aM, aF, aB, eY ht.nodes, h0, h1]
 refine aT hd hG1 (fun S2 g2 hG2 => ?_)
 simp only [SXa, reduceCtorEq, Nat.reduceEqDiff]
 exact ⟨by simp only [qH, hat, aH], hG2⟩
theorem kz2 (t : TreeV) (nx tx : AV) (ht : RIs nx tx t) (ho : FewOk t) (hl : t.types.length ≤ 100) (i : Int) (S : St) (hS : S.Fresh) : ∃ r S', EvA E 28 [.agg [nx, tx], .sc (.int .i64 i)] S r S' ∧ IsV 1 r (aN (qO t i)) ∧ Grow S S' aA := by
 refine ev28 rfl ?_
 have hG := (Grow.refl hS aA).born 52 [nx, tx]
 have hT : (S.born 52 [nx, tx]).obj S.no = some [nx, tx] := by simp [bE]
 have hn : S.no < (S.born 52 [nx, tx]).no := bJ _
 simp only [SXa, reduceCtorEq, Nat.reduceEqDiff, Nat.reduceAdd, P28, dT, dZ]
 generalize S.born 52 [nx, tx] = S0 at hG hT hn
 simp only [SXa, reduceCtorEq, Nat.reduceEqDiff, Nat.reduceAdd, P28, hT, aE, aD, aF, aB]
 refine aT (uG t nx tx ht ho hl) hG (fun S1 g1 hG1 => ?_)
 have hT1 := g1.objs hT hn
 have hn1 := aU hn g1.no
 cases hg : fJ t with
 | false =>
  simp only [SXa, reduceCtorEq, Nat.reduceEqDiff]
  exact ⟨by have : dW t i = false := (by simp only [dW, hg, dY]); simp only [qO, this, aK]; exact IsV.nil 1, hG1⟩
 | true =>
 cases h0 : decide (i < 0) with
 | true =>
  have h0' : decide (0 ≤ i) = false := by simp at h0 ⊢; omega
  simp only [SXa, reduceCtorEq, Nat.reduceEqDiff, h0]
  exact ⟨by have : dW t i = false := (by simp only [dW, h0', bK]); simp only [qO, this, aK]; exact IsV.nil 1, hG1⟩
 | false =>
 have h0' : decide (0 ≤ i) = true := by simp at h0 ⊢; omega
 cases h1 : decide (((t.nodes.length : Nat) : Int) ≤ i) with
 | true =>
  have h1' : decide (i < ((t.nodes.length : Nat) : Int)) = false := by simp at h1 ⊢; omega
  simp only [SXa, reduceCtorEq, Nat.reduceEqDiff, P28, hT1, aE, dA, aG, aD, aM, eY ht.nodes, h0, h1]
  exact ⟨by have : dW t i = false := (by simp only [dW, h1', dY, bK]); simp only [qO, this, aK]; exact IsV.nil 1, hG1⟩
 | false =>
 have h1' : decide (i < ((t.nodes.length : Nat) : Int)) = true := by simp at h1 ⊢; omega
 have hat : dW t i = true := by simp only [dW, h0', h1', hg, bY]
 obtain ⟨d, p, z, k1, k2, k3, k4, k5⟩ := sE hat
 have hbd := cT _ _ _ _ _ _ k2
 obtain ⟨r2, S2, e2, hr2, g2⟩ := wr9 t nx tx ht ho d 60 k1 k1 p i.toNat z k2 [] [] aA aA (IsV.nil 1) (IsV.nil 1) (by simp only [bH]; omega) (by simp only [bH]; omega) S1 hG1.fresh
 rw [← k3] at e2
 rw [ky7 k1 k2] at hr2
 simp only [SXa, reduceCtorEq, Nat.reduceEqDiff, Nat.reduceAdd, P28, hT1, aE, dA, aG, aD, aM, aF, aB, eY ht.nodes, h0, h1]
 refine cC e2 ?_
 simp only [SXa, reduceCtorEq, Nat.reduceEqDiff]
 exact ⟨by simp only [qO, hat, aH]; exact hr2, hG1.two g2⟩
noncomputable def pE (t : TreeV) (i : Int) : List ByteArray := bif dW t i then cV t.nodes 60 i.toNat else []
theorem wm6 {t : TreeV} {ds : List DeclV} {d : Nat} {a z : Nat} (h : bC t.nodes ds d false a = some z) : cV t.nodes 60 a = [] := by
 cases d with
 | zero => cases h
 | succ d =>
  obtain ⟨hlt, hp, _, _⟩ := oZ h
  have k22 : (t.nodes[a].kind == 22) = false := by
   rw [nE]; intro e; rw [e] at hp; cases hp
  have k26 : (t.nodes[a].kind == 26) = false := by
   rw [nE]; intro e; rw [e] at hp; cases hp
  rw [cV, cX hlt]
  simp only [k22, k26, aK]
theorem kk3 (t : TreeV) (nx tx : AV) (ht : RIs nx tx t) (ho : FewOk t) (hl : t.types.length ≤ 100) (i : Int) (S : St) (hS : S.Fresh) : ∃ r S', EvA E 30 [.agg [nx, tx], .sc (.int .i64 i)] S r S' ∧ IsV 1 r (aN (pE t i)) ∧ Grow S S' aA := by
 refine ev30 rfl ?_
 have hG := (Grow.refl hS aA).born 52 [nx, tx]
 have hT : (S.born 52 [nx, tx]).obj S.no = some [nx, tx] := by simp [bE]
 have hn : S.no < (S.born 52 [nx, tx]).no := bJ _
 simp only [SXa, reduceCtorEq, Nat.reduceEqDiff, Nat.reduceAdd, P30, dT, dZ]
 generalize S.born 52 [nx, tx] = S0 at hG hT hn
 simp only [SXa, reduceCtorEq, Nat.reduceEqDiff, Nat.reduceAdd, P30, hT, aE, aD, aF, aB]
 refine aT (uG t nx tx ht ho hl) hG (fun S1 g1 hG1 => ?_)
 have hT1 := g1.objs hT hn
 have hn1 := aU hn g1.no
 cases hg : fJ t with
 | false =>
  simp only [SXa, reduceCtorEq, Nat.reduceEqDiff]
  exact ⟨by have : dW t i = false := (by simp only [dW, hg, dY]); simp only [pE, this, aK]; exact IsV.nil 1, hG1⟩
 | true =>
 cases h0 : decide (i < 0) with
 | true =>
  have h0' : decide (0 ≤ i) = false := by simp at h0 ⊢; omega
  simp only [SXa, reduceCtorEq, Nat.reduceEqDiff, h0]
  exact ⟨by have : dW t i = false := (by simp only [dW, h0', bK]); simp only [pE, this, aK]; exact IsV.nil 1, hG1⟩
 | false =>
 have h0' : decide (0 ≤ i) = true := by simp at h0 ⊢; omega
 cases h1 : decide (((t.nodes.length : Nat) : Int) ≤ i) with
 | true =>
  have h1' : decide (i < ((t.nodes.length : Nat) : Int)) = false := by simp at h1 ⊢; omega
  simp only [SXa, reduceCtorEq, Nat.reduceEqDiff, P30, hT1, aE, dA, aG, aD, aM, eY ht.nodes, h0, h1]
  exact ⟨by have : dW t i = false := (by simp only [dW, h1', dY, bK]); simp only [pE, this, aK]; exact IsV.nil 1, hG1⟩
 | false =>
 have h1' : decide (i < ((t.nodes.length : Nat) : Int)) = true := by simp at h1 ⊢; omega
 have hat : dW t i = true := by simp only [dW, h0', h1', hg, bY]
 obtain ⟨d, p, z, k1, k2, k3, k4, k5⟩ := sE hat
 have hbd := cT _ _ _ _ _ _ k2
 have hlt : i.toNat < t.nodes.length := by omega
 have hix : ∀ S, bT 7 nx (some i) S = some (.eptr (aL t.nodes[i.toNat]) 0, S) := fun S => by
  have := iB ht.nodes hlt S
  rw [← k3] at this; exact this
 have hpk : ∃ hlt : i.toNat < t.nodes.length, gM t.nodes[i.toNat].kind = p ∧ eT t.types t.nodes[i.toNat] = true := by
  cases d with
  | zero => cases k2
  | succ d =>
   obtain ⟨a, b, c, _⟩ := oZ k2
   exact ⟨a, b, c⟩
 obtain ⟨_, hpk, hal⟩ := hpk
 obtain ⟨kk1, kk2, _⟩ := xw7 hal
 have e21 : decide (t.nodes[i.toNat].kind < 21) = !p := by
  rw [← hpk, pV]
  simp only [gM, bZ, jB, Bool.and_eq_false_iff, dP]
  omega
 cases p with
 | false =>
  simp only [SXa, reduceCtorEq, Nat.reduceEqDiff, P30, hT1, aE, bP, dA, aG, dN, aD, aM, eY ht.nodes, h0, h1, hix, aL, e21]
  exact ⟨by simp only [pE, hat, aH, wm6 k2]; exact IsV.nil 1, hG1⟩
 | true =>
  obtain ⟨r2, S2, e2, ⟨hr2, _⟩, g2⟩ := xW t nx tx ht d 60 k1 i.toNat z k2 S1 hG1.fresh
  rw [← k3] at e2
  simp only [SXa, reduceCtorEq, Nat.reduceEqDiff, Nat.reduceAdd, P30, hT1, aE, bP, dA, aG, dN, aD, aM, aF, aB, eY ht.nodes, h0, h1, hix, aL, e21]
  refine cC e2 ?_
  simp only [SXa, reduceCtorEq, Nat.reduceEqDiff]
  exact ⟨by simp only [pE, hat, aH]; exact hr2.is, hG1.two g2⟩
theorem ji0 (t : TreeV) (nx tx : AV) (ht : TreeIs nx tx t) (i : Int) (S : St) (hS : S.Fresh) : ∃ r S', EvA E 29 [.agg [nx, tx], .sc (.int .i64 i)] S r S' ∧ IsV 1 r (aN (pE t i)) ∧ Grow S S' aA := by
 refine ev29 rfl ?_
 have hG := (Grow.refl hS aA).born 26 [nx, tx]
 have hT : (S.born 26 [nx, tx]).obj S.no = some [nx, tx] := by simp [bE]
 have hn : S.no < (S.born 26 [nx, tx]).no := bJ _
 simp only [SXa, reduceCtorEq, Nat.reduceEqDiff, Nat.reduceAdd, P29, dT, dZ]
 generalize S.born 26 [nx, tx] = S0 at hG hT hn
 simp only [SXa, reduceCtorEq, Nat.reduceEqDiff, Nat.reduceAdd, P29, hT, aE, aD, aF, aB]
 refine aT (wn5 t nx tx ht i) hG (fun S1 g1 hG1 => ?_)
 have hT1 := g1.objs hT hn
 cases hg : dW t i with
 | false =>
  simp only [SXa, reduceCtorEq, Nat.reduceEqDiff]
  exact ⟨by simp only [pE, hg, aK]; exact IsV.nil 1, hG1⟩
 | true =>
 obtain ⟨d, p, z, k1, k2, k3, k4, k5⟩ := sE hg
 obtain ⟨r2, S2, e2, ⟨hr2, _⟩, g2⟩ := yX t nx tx ht d 60 k1 p i.toNat z k2 S1 hG1.fresh
 rw [← k3] at e2
 simp only [SXa, reduceCtorEq, Nat.reduceEqDiff, Nat.reduceAdd, P29, hT1, aE, aD, aF, aB]
 refine cC e2 ?_
 simp only [SXa, reduceCtorEq, Nat.reduceEqDiff]
 exact ⟨by simp only [pE, hg, aH]; exact hr2.is, hG1.two g2⟩
open Go.Abs
theorem allocRC {tm : PM AV} {S : St} {d : Option Tmp} : opV E tm d (.alloc 77) S = some (.ptr S.no 0, S.born 77 [.sc (.string ⟨#[]⟩), .sc (.slice none 0 0)]) := oA (by kernel_rfl)
def qQ (ds : List DeclV) : ByteArray := ⟨(oN ds).toArray⟩
theorem kk7 (ds : List DeclV) : (qQ ds).size = (oN ds).length := pU
theorem kk6 {ds : List DeclV} {i : Nat} (h : i < ds.length) : qQ (ds.take i) ++ pM ds[i] = qQ (ds.take (i + 1)) := by
 unfold qQ
 rw [← we3 h, ← jX, zP]
theorem jg3 (c : ConV) (h : c.args ≠ []) : fK c = (c.name ++ (⟨#[32, 111, 102, 32]⟩ : ByteArray)) ++ eO c.args (⟨#[44, 32]⟩ : ByteArray) := by
 unfold fK
 cases hc : c.args with
 | nil => exact absurd hc h
 | cons a r => rw [oP]
theorem kk0 (t : TreeV) (nx tx : AV) (ht : RIs nx tx t) (ho : FewOk t) (hl : t.types.length ≤ 100) (hs : fJ t = true → ShowOk t) : Ans E 25 [.agg [nx, tx]] (.sc (.string (sU t))) := bU fun S hS => by
 refine ev25 rfl ?_
 have hG := (Grow.refl hS aA).born 52 [nx, tx]
 have hT : (S.born 52 [nx, tx]).obj S.no = some [nx, tx] := by simp [bE]
 have hn : S.no < (S.born 52 [nx, tx]).no := bJ _
 simp only [SXa, reduceCtorEq, Nat.reduceEqDiff, Nat.reduceAdd, P25, dT, dZ]
 generalize S.born 52 [nx, tx] = S0 at hG hT hn
 simp only [SXa, reduceCtorEq, Nat.reduceEqDiff, Nat.reduceAdd, P25, hT, aE, aD, aF, aB]
 refine aT (uG t nx tx ht ho hl) hG (fun S1 g1 hG1 => ?_)
 have hT1 := g1.objs hT hn
 have hn1 := aU hn g1.no
 cases hg : fJ t with
 | false =>
  simp only [SXa, reduceCtorEq, Nat.reduceEqDiff]
  exact ⟨by simp only [sU, hg, aK], hG1⟩
 | true =>
 have hso := hs hg
 have hd := ho.lc
 obtain ⟨hw, _⟩ := yB hg
 simp only [SXa, reduceCtorEq, Nat.reduceEqDiff]
 refine bX (fun tm S' N => ∃ i : Nat, i ≤ t.types.length ∧ N = t.types.length - i ∧ S'.obj S.no = some [nx, tx] ∧ S.no < S'.no ∧ Grow S S' aA ∧ getT tm 1 = .ptr S.no 0 ∧ getT tm 3 = .sc (.string (qQ (t.types.take i))) ∧ getT tm 4 = .sc (.int .i64 (i : Int))) t.types.length
  ⟨0, by omega, by omega, hT1, hn1, hG1, by simp [aO]; rfl⟩ ?_
 clear hT1 hn1 hG1
 rintro tm S2 N ⟨i, hi, rfl, hT2, hn2, hG2, t1, t3, t4⟩
 have hol := wm3 (ds := t.types.take i) fun d hd' => hd d (List.mem_of_mem_take hd')
 rw [eW] at hol
 have hps := kk7 (t.types.take i)
 by_cases hit : i < t.types.length
 case neg =>
  have hie : i = t.types.length := by omega
  rw [hie, oU] at t3 hol hps
  have hs0 : Ans E 67 [.agg [nx, tx], .sc (.int .i64 0)] (.sc (.string (eM t.nodes 60 0))) := wd5 t nx tx ht hso 60 60 (aB _) (by omega) false 0 _ hw
  have hss := vU t.nodes t.types hso.nm 60 60 (aB _) _ _ _ hw
  have hln := hso.ln
  have a1 : (qQ t.types).size + (eM t.nodes 60 0).size ≤ 2 ^ 62 := by omega
  simp only [SXa, Nat.reduceEqDiff, Nat.reduceAdd, b25_19, P25, t1, t3, t4, hT2, aE, dA, aG, aD, aF, aB, ht.types.len, bO hit]
  refine aT hs0 hG2 (fun S3 g3 hG3 => ?_)
  simp only [SXa, Nat.reduceEqDiff, cS _ _ _ _ _ a1]
  refine ⟨?_, hG3⟩
  simp only [sU, hg, aH]
  have e : (eM t.nodes 60 0) = ⟨(eM t.nodes 60 0).data.toList.toArray⟩ := (zP _).symm
  rw [e, qQ, jX]
  rfl
 have wi := cG hit (by omega)
 have hdi := hd _ (fE hit)
 obtain ⟨hcl, hnm, hca⟩ := hdi
 have hcs := wa6 (hd _ (fE hit))
 obtain ⟨c, hcv, hix⟩ := ht.types.at hit
 simp only [SXa, Nat.reduceEqDiff, b25_19, P25, t1, t4, hT2, aE, dA, aG, aD, aF, ht.types.len, bL hit]
 refine bX (fun tm S' N => ∃ (j : Nat) (X : AV), j ≤ t.types[i].cons.length ∧ N = t.types[i].cons.length - j ∧ OwnV S' 9 1 X (aN ((t.types[i].cons.take j).map fK)) ∧ cY S X ∧ S'.obj S.no = some [nx, tx] ∧ S.no < S'.no ∧ Grow S S' aA ∧ getT tm 1 = .ptr S.no 0 ∧ getT tm 3 = .sc (.string (qQ (t.types.take i))) ∧ getT tm 4 = .sc (.int .i64 (i : Int)) ∧ getT tm 5 = X ∧ getT tm 6 = .sc (.int .i64 (j : Int))) t.types[i].cons.length
  ⟨0, aA, by omega, by omega, OwnV.nil' _ _ _, .inl rfl, hT2, hn2, hG2, by simp [aO, t1, t3, t4]⟩ ?_
 clear t1 t3 t4
 rintro tm S3 N ⟨j, X, hj, rfl, hX, hNw, hT3, hn3, hG3, t1, t3, t4, t5, t6⟩
 by_cases hjt : j < t.types[i].cons.length
 case neg =>
  have hje : j = t.types[i].cons.length := by omega
  rw [hje, oU] at hX
  have hjl := qD (t.types[i].cons.map fK) (⟨#[32, 124, 32]⟩ : ByteArray) (by decide)
  simp only [SXa, reduceCtorEq, Nat.reduceEqDiff, Nat.reduceAdd, b25_15, P25, t1, t3, t4, t6, hT3, aE, dA, iR, aG, dN, aD, aF, aB, hix, qJ hcv, bO hjt]
  refine kK noX jf7 ?_
  have gr := Grow.raise hG3.fresh 15 aA
  have hT4 : (S3.raise 15).obj S.no = some [nx, tx] := hT3
  simp (maxSteps := 5000000) (disch := first | rfl | (simp only [dQ, dE, aY, bH]; omega)) only [SXa, Nat.reduceEqDiff, P25, t1, t3, t4, t5, hT4, aE, dA, iR, aG, dN, aD, aM, aF, hix, cS]
  refine aT (xG (t.types[i].cons.map fK) X hX.is (by rw [eE]; omega) (by omega) (⟨#[32, 124, 32]⟩ : ByteArray) (by decide)) (hG3.two gr) (fun S5 g5 hG5 => ?_)
  have g35 := gr.two g5
  simp (maxSteps := 5000000) (disch := first | rfl | (simp only [dQ, dE, aY, bH]; omega)) only [SXa, Nat.reduceEqDiff, t1, t4, gF, gG, xU, lE hn3 g35, bY, cS, wi]
  refine ⟨t.types.length - (i + 1), by omega, i + 1, by omega, rfl, g35.objs hT3 hn3, aU hn3 g35.no, hG5, ?_⟩
  have e : (((((qQ (t.types.take i) ++ (⟨#[116, 121, 112, 101, 32]⟩ : ByteArray)) ++ t.types[i].name) ++ (⟨#[32, 61, 32]⟩ : ByteArray)) ++ eO (t.types[i].cons.map fK) (⟨#[32, 124, 32]⟩ : ByteArray)) ++ (⟨#[32, 105, 110, 32]⟩ : ByteArray)) = qQ (t.types.take (i + 1)) := by
   rw [← kk6 hit]
   simp only [pM, oP]
  simp only [e]
  simp
 have wj := cG hjt (by omega)
 obtain ⟨hcn, har, hsz⟩ := hca _ (fE hjt)
 obtain ⟨hsa, hsb⟩ := wp3 (hca _ (fE hjt))
 have etk : (t.types[i].cons.take j).map fK ++ [fK t.types[i].cons[j]] = (t.types[i].cons.take (j + 1)).map fK := by
  rw [qS hjt, lR, cF, jQ]
 have hb4 := (hG3.born 77 [.sc (.string ⟨#[]⟩), .sc (.slice none 0 0)]).put S3.no (.cells (cH t.types[i].cons[j])) hG3.no
 have gr4 : Grow S3 ((S3.born 77 [.sc (.string ⟨#[]⟩), .sc (.slice none 0 0)]).put S3.no (.cells (cH t.types[i].cons[j]))) aA := ((Grow.refl hG3.fresh aA).born _ _).put S3.no _ (aB _)
 have hC4 : ((S3.born 77 [.sc (.string ⟨#[]⟩), .sc (.slice none 0 0)]).put S3.no (.cells (cH t.types[i].cons[j]))).obj S3.no = some (cH t.types[i].cons[j]) := by simp [aX]
 have hn4 : S3.no < ((S3.born 77 [.sc (.string ⟨#[]⟩), .sc (.slice none 0 0)]).put S3.no (.cells (cH t.types[i].cons[j]))).no := bJ _
 simp only [cH] at hb4 gr4 hC4 hn4
 simp only [SXa, Nat.reduceEqDiff, Nat.reduceAdd, b25_15, P25, t1, t4, t6, hT3, aE, dA, iR, pW, aG, dN, aD, aF, aB, hix, qJ hcv, bL hjt, sR hcv hjt, cH, allocRC, stC, bE, dM]
 generalize ((S3.born 77 [.sc (.string ⟨#[]⟩), .sc (.slice none 0 0)]).put S3.no (.cells [.sc (.string t.types[i].cons[j].name), (kV t.types[i].cons[j])])) = S4 at hb4 gr4 hC4 hn4
 simp only [SXa, Nat.reduceEqDiff, P25, hC4, aD, mD]
 cases c0 : decide ((0 : Int) < ((t.types[i].cons[j].args.length : Nat) : Int)) with
 | false =>
  have e : fK t.types[i].cons[j] = t.types[i].cons[j].name := by
   have : t.types[i].cons[j].args = [] := List.length_eq_zero_iff.1 (by have := of_decide_eq_false c0; omega)
   simp only [fK, this]
  obtain ⟨Z, S6, ap, hZ, hNZ, hG6, no6, ob6, _⟩ := mO (hX.keep gr4) hNw hb4 (pN t.types[i].cons[j].name) (by rw [eE, eW]; simp only [aY, bH]; omega)
  rw [← e, etk] at hZ
  simp only [SXa, Nat.reduceEqDiff, Nat.reduceBEq, P25, t1, t3, t4, t5, t6, hC4, aE, pW, aG, aD, aM, kX, ap, wj]
  exact ⟨t.types[i].cons.length - (j + 1), by omega, j + 1, Z, by omega, rfl, hZ, hNZ, by rw [ob6]; exact gr4.objs hT3 hn3, by rw [no6]; exact aU hn3 gr4.no, hG6, by simp []⟩
 | true =>
  have hne : t.types[i].cons[j].args ≠ [] := fun e => by rw [e] at c0; simp at c0
  have e := jg3 _ hne
  have hjl := qD t.types[i].cons[j].args (⟨#[44, 32]⟩ : ByteArray) (by decide)
  simp only [SXa]
  refine kK noX jf8 ?_
  have gr := Grow.raise hb4.fresh 11 aA
  simp (maxSteps := 5000000) (disch := first | rfl | (simp only [dQ, dE, aY, bH]; omega)) only [SXa, Nat.reduceEqDiff, P25, t5, hC4, aE, eG, pW, aG, aD, aM, aF, cS]
  refine aT (xG t.types[i].cons[j].args _ (isAr _) (by omega) (by omega) (⟨#[44, 32]⟩ : ByteArray) (by decide)) (hb4.two gr) (fun S5 g5 hG5 => ?_)
  have g45 := gr.two g5
  have g35 := gr4.two g45
  obtain ⟨Z, S6, ap, hZ, hNZ, hG6, no6, ob6, _⟩ := mO (hX.keep g35) hNw hG5 (pN ((t.types[i].cons[j].name ++ (⟨#[32, 111, 102, 32]⟩ : ByteArray)) ++ eO t.types[i].cons[j].args (⟨#[44, 32]⟩ : ByteArray))) (by rw [eE, eW]; simp only [aY, bH]; omega)
  rw [← e, etk] at hZ
  have a1 : (t.types[i].cons[j].name ++ (⟨#[32, 111, 102, 32]⟩ : ByteArray)).size + (eO t.types[i].cons[j].args (⟨#[44, 32]⟩ : ByteArray)).size ≤ 2 ^ 62 := by simp only [dQ, dE, aY, bH]; omega
  simp only [SXa, Nat.reduceEqDiff, Nat.reduceBEq, P25, t1, t3, t4, t5, t6, gF, gG, lE hn4 g45, bY, cS _ _ _ _ _ a1, kX, ap, wj]
  exact ⟨t.types[i].cons.length - (j + 1), by omega, j + 1, Z, by omega, rfl, hZ, hNZ, by rw [ob6]; exact g35.objs hT3 hn3, by rw [no6]; exact aU hn3 g35.no, hG6, by simp []⟩
open Go.Abs
section
variable (f g : Int)
end
theorem xs6 (l : List ByteArray) (X Y : AV) (hX : IsV 1 X (aN l)) (hY : IsV 1 Y (aN l)) (hl : l.length ≤ 2 ^ 40) : Ans E 26 [X, Y] (.sc (.bool true)) := bU fun S hS => by
 refine ev26 rfl ?_
 have hne : (((l.length : Nat) : Int) != ((l.length : Nat) : Int)) = false := by simp
 simp only [SXa, reduceCtorEq, Nat.reduceEqDiff, Nat.reduceAdd, P26, nP hX, nP hY, hne]
 refine bX (fun tm S' N => ∃ (i : Nat), i ≤ l.length ∧ N = l.length - i ∧ Grow S S' aA ∧ getT tm 0 = X ∧ getT tm 1 = Y ∧ getT tm 5 = .sc (.int .i64 (i : Int))) l.length
  ⟨0, by omega, by omega, Grow.refl hS _, by simp [aO]⟩ ?_
 rintro tm S1 N ⟨i, hi, rfl, hG, t0, t1, t5⟩
 by_cases hit : i < l.length
 case neg =>
  simp only [SXa, reduceCtorEq, Nat.reduceEqDiff, b26_8, P26, t0, t5, nP hX, bO hit]
  exact hG
 case pos =>
  have wi := cG hit (by omega)
  have gr := Grow.raise hG.fresh 9 aA
  have hn2 : (l[i].toList != l[i].toList) = false := by simp
  simp only [SXa, reduceCtorEq, Nat.reduceEqDiff, b26_8, P26, t0, t1, t5, nP hX, bL hit, idxS hX hit, idxS hY hit, mN, hn2, wi]
  exact ⟨l.length - (i + 1), by omega, i + 1, by omega, rfl, hG.two gr, by simp []⟩
theorem ja9 {x : AV} {l : List Int} (h : IsV 1 x (cE l)) (S : St) : iF x S = some (.sc (.int .i64 (l.length : Nat)), S) := by rw [h.len]; simp [cE]
theorem idxI1 {x : AV} {l : List Int} (h : IsV 1 x (cE l)) {k : Nat} (hk : k < l.length) (S : St) : bT 1 x (some (k : Int)) S = some (.eptr [.sc (.int .i64 l[k])] 0, S) := h.idx (v := .sc (.int .i64 l[k])) (by simp [cE, hk]) rfl S
theorem ko7 (l : List Int) (X Y : AV) (hX : IsV 1 X (cE l)) (hY : IsV 1 Y (cE l)) (hl : l.length ≤ 2 ^ 40) : Ans E 31 [X, Y] (.sc (.bool true)) := bU fun S hS => by
 refine ev31 rfl ?_
 have hne : (((l.length : Nat) : Int) != ((l.length : Nat) : Int)) = false := by simp
 simp only [SXa, reduceCtorEq, Nat.reduceEqDiff, Nat.reduceAdd, P31, ja9 hX, ja9 hY, hne]
 refine bX (fun tm S' N => ∃ (i : Nat), i ≤ l.length ∧ N = l.length - i ∧ Grow S S' aA ∧ getT tm 0 = X ∧ getT tm 1 = Y ∧ getT tm 5 = .sc (.int .i64 (i : Int))) l.length
  ⟨0, by omega, by omega, Grow.refl hS _, by simp [aO]⟩ ?_
 rintro tm S1 N ⟨i, hi, rfl, hG, t0, t1, t5⟩
 by_cases hit : i < l.length
 case neg =>
  simp only [SXa, reduceCtorEq, Nat.reduceEqDiff, b31_8, P31, t0, t5, ja9 hX, bO hit]
  exact hG
 case pos =>
  have wi := cG hit (by omega)
  have gr := Grow.raise hG.fresh 9 aA
  have hn2 : (l[i] != l[i]) = false := by simp
  simp only [SXa, reduceCtorEq, Nat.reduceEqDiff, b31_8, P31, t0, t1, t5, ja9 hX, bL hit, idxI1 hX hit, idxI1 hY hit, hn2, wi]
  exact ⟨l.length - (i + 1), by omega, i + 1, by omega, rfl, hG.two gr, by simp []⟩
open Go.Abs
theorem wN {sz : Nat} {x : AV} {xs : List AV} (h : IsV sz x xs) : cB x = true := by
 rcases h with ⟨rfl, _⟩ | ⟨i, rfl⟩ <;> rfl
theorem stT {a b : AV} {n m : Nat} {xs ys : List AV} (h1 : IsV n a xs) (h2 : IsV m b ys) (l : Nat) (S : St) : gZ 2 (.ptr l 0) (.agg [a, b]) S = (S.obj l).bind fun cs => if 2 ≤ cs.length then some (dB, S.put l (.cells (a :: b :: cs.drop 2))) else none :=
 qV 2 l _ (by simp only [lA, List.all_nil, wN h1, wN h2]; rfl)
theorem kf2 (x : NodeV) : iO 7 (jW [x]) = true := by
 obtain ⟨k, n, nm, p, ko, f, t⟩ := x
 cases ko <;> rfl
theorem kg4 : E.P.underlying 4 = some .bool := by kernel_rfl
theorem xm5 {sz : Nat} {x : AV} {xs : List AV} (h : IsV sz x xs) : cellsOf x = some [x] := by
 rcases h with ⟨rfl, _⟩ | ⟨i, rfl⟩ <;> rfl
theorem kv9 (t : TreeV) (i : Int) : (qO t i).length ≤ 2 ^ 40 := by
 unfold qO
 cases h : dW t i with
 | false => simp
 | true =>
  obtain ⟨d, p, z, k1, k2, k3, k4, k5⟩ := sE h
  have h1 := yC _ _ d 60 k1 p _ z k2
  have h2 := cT _ _ _ _ _ _ k2
  simp only [aH, (yz5 _).length_eq]
  omega
open Go.Abs
theorem jh4 {S S0 : St} {t t1 e e1 e2 : TypeId} {agg : Bool} {bytes sz sz2 : Nat} {X Y P : AV} {xs ys ps : List AV} (ht : kA E t e agg sz bytes = true) (ht1 : E.und t1 = some (.slice e1)) (hX : OwnV S e sz X xs) (hN : cY S0 X) (G : Grow S0 S aA) (hY : IsV sz Y ys) (hne : ys ≠ []) (hsz : iO sz ys = true)
 (hb : (xs.length + ys.length) * (bytes + 1) ≤ 2 ^ 46) (hP : OwnV S e2 sz2 P ps) (aP : Apart X P) : ∃ Z S1, bD E false .append [t, t1] [X, Y] S = some (Z, S1) ∧ OwnV S1 e sz Z (xs ++ ys) ∧ cY S0 Z ∧ Grow S0 S1 aA ∧ S1.no = S.no ∧ (∀ l, S1.obj l = S.obj l) ∧ OwnV S1 e2 sz2 P ps ∧ Apart Z P := by
 have h2 := G.fresh.1
 refine ⟨_, _, wq1 ht ht1 G.fresh hX hY hne hsz hb, zA G.fresh hX, .inr (.inr ⟨_, _, _, rfl, G.nid⟩), G.app2 hX hN, zB _ _ _, yF _ _ _, hP.grow (Grow.app G.fresh hX) aP.symm, fun id a b c d k1 k2 => ?_⟩
 cases k1
 rcases kl1 hP k2 with h | h <;> omega
theorem allocU {tm : PM AV} {S : St} {d : Option Tmp} : opV E tm d (.alloc 52) S = some (.ptr S.no 0, S.born 52 [aA, aA]) := oA (by kernel_rfl)
theorem bldU (S : St) : jG E 52 [] S = some (.agg [aA, aA], S) := by kernel_rfl
theorem bldRN (x : NodeV) (S : St) : jG E 69 [(0, .sc (.int .i64 x.kind)), (1, .sc (.int .i64 x.n)), (2, .sc (.string x.name)), (3, .sc (.string x.param)), (4, lN x), (5, .sc (.int .i64 x.frm)), (6, .sc (.int .i64 x.to))] S = some (.agg (aL x), S) := by
 obtain ⟨k, n, nm, p, ko, f, t⟩ := x
 cases ko <;> kernel_rfl
theorem bldRD (nm : ByteArray) (S : St) : jG E 72 [(0, .sc (.string nm))] S = some (.agg [.sc (.string nm), aA], S) := by kernel_rfl
theorem bldRC (c : ConV) (S : St) : jG E 77 [(0, .sc (.string c.name)), (1, kV c)] S = some (.agg [.sc (.string c.name), kV c], S) := by
 obtain ⟨nm, ao⟩ := c
 cases ao <;> kernel_rfl
theorem bsRN (x : NodeV) (S : St) : gE E 49 1 [(0, .agg (aL x))] S = some (.vec 1 7 (jW [x]), S) := by
 obtain ⟨k, n, nm, p, ko, f, t⟩ := x
 cases ko <;> kernel_rfl
theorem bsRC (c : ConV) (S : St) : gE E 70 1 [(0, .agg [.sc (.string c.name), kV c])] S = some (.vec 1 2 (gT [c]), S) := by
 obtain ⟨nm, ao⟩ := c
 cases ao <;> kernel_rfl
theorem bsRD {c : AV} {xs : List AV} (h : IsV 2 c xs) (nm : ByteArray) (S : St) : gE E 50 1 [(0, .agg [.sc (.string nm), c])] S = some (.vec 1 2 [.agg [.sc (.string nm), c]], S) := by
 rcases h with ⟨rfl, _⟩ | ⟨i, rfl⟩ <;> kernel_rfl
theorem kv6 (c : ConV) : iO 2 (gT [c]) = true := by
 obtain ⟨nm, ao⟩ := c
 cases ao <;> rfl
theorem kf3 {c : AV} {xs : List AV} (h : IsV 2 c xs) (nm : ByteArray) : iO 2 [.agg [.sc (.string nm), c]] = true := by
 rcases h with ⟨rfl, _⟩ | ⟨i, rfl⟩ <;> rfl
theorem resU {tm : PM AV} {S : St} (t : Nat) (l : List ResultVar) : fB E tm S (.cell t 52 :: l) = (jY true 2 (getT tm t) S).bind fun q => (fB E tm S l).map (q.1 :: ·) := xx5 t 52 l (de := (E.und 52).getD .string) (i := (E.inf 52).getD default) (by kernel_rfl) (by kernel_rfl) (by kernel_rfl) (by kernel_rfl)
abbrev dcl (d : DeclV) (c : AV) : AV := .agg [.sc (.string d.name), c]
theorem own_ok (t : TreeV) (nx tx : AV) (ht : TreeIs nx tx t) (hl : Light t) (S : St) (hS : S.Fresh) : ∃ r S', EvA E 19 [.agg [nx, tx]] S r S' ∧ (∃ nx' tx', r = .agg [nx', tx'] ∧ RIs nx' tx' t) ∧ Grow S S' aA := by
 have hln := hl.ln
 have hlt4 := hl.lt
 refine ev19 rfl ?_
 have hG := (((Grow.refl hS aA).born 26 [nx, tx]).born 52 [aA, aA]).born 52 [aA, aA]
 have hT : (((S.born 26 [nx, tx]).born 52 [aA, aA]).born 52 [aA, aA]).obj S.no = some [nx, tx] := by
  have e1 : S.no ≠ S.no + 1 + 1 := by omega
  have e2 : S.no ≠ S.no + 1 := by omega
  simp [bE, lG, e1]
 have hR : (((S.born 26 [nx, tx]).born 52 [aA, aA]).born 52 [aA, aA]).obj (S.no + 1) = some [aA, aA] := by simp [bE, lG]
 have hU : (((S.born 26 [nx, tx]).born 52 [aA, aA]).born 52 [aA, aA]).obj (S.no + 1 + 1) = some [aA, aA] := by simp [bE, lG]
 have hn : S.no + 1 + 1 < (((S.born 26 [nx, tx]).born 52 [aA, aA]).born 52 [aA, aA]).no := by simp only [lG]; omega
 simp only [SXa, reduceCtorEq, Nat.reduceEqDiff, Nat.reduceAdd, P19, dT, dZ, allocU, lG, lF, bldU]
 generalize (((S.born 26 [nx, tx]).born 52 [aA, aA]).born 52 [aA, aA]) = S0 at hG hT hR hU hn
 have hG1 := hG.put (S.no + 1 + 1) (.cells [aA, aA]) (by omega)
 have hT1 : (S0.put (S.no + 1 + 1) (.cells [aA, aA])).obj S.no = some [nx, tx] := by rw [aX, aR (by omega)]; exact hT
 have hR1 : (S0.put (S.no + 1 + 1) (.cells [aA, aA])).obj (S.no + 1) = some [aA, aA] := by rw [aX, aR (by omega)]; exact hR
 have hU1 : (S0.put (S.no + 1 + 1) (.cells [aA, aA])).obj (S.no + 1 + 1) = some [aA, aA] := by rw [aX, bN rfl]
 have hn1 : S.no + 1 + 1 < (S0.put (S.no + 1 + 1) (.cells [aA, aA])).no := hn
 simp only [SXa, Nat.reduceAdd, stT (IsV.nil 7) (IsV.nil 2), hU, aD, aF, aB, dM]
 generalize S0.put (S.no + 1 + 1) (.cells [aA, aA]) = S1 at hG1 hT1 hR1 hU1 hn1
 clear hG hT hR hU hn
 refine bX (fun tm S' N => ∃ (i : Nat) (Y : AV), i ≤ t.nodes.length ∧ N = t.nodes.length - i ∧ OwnV S' 69 7 Y (jW (t.nodes.take i)) ∧ cY S Y ∧ S'.obj S.no = some [nx, tx] ∧ S'.obj (S.no + 1) = some [aA, aA] ∧ S'.obj (S.no + 1 + 1) = some [Y, aA] ∧ Grow S S' aA ∧ S.no + 1 + 1 < S'.no ∧
  getT tm 1 = .ptr S.no 0 ∧ getT tm 2 = .ptr (S.no + 1) 0 ∧ getT tm 3 = .ptr (S.no + 1 + 1) 0 ∧ getT tm 4 = .sc (.int .i64 (i : Int))) t.nodes.length
  ⟨0, aA, by omega, by omega, OwnV.nil' _ _ _, .inl rfl, hT1, hR1, hU1, hG1, hn1, by simp [aO]⟩ ?_
 clear hG1 hT1 hR1 hU1 hn1
 rintro tm S4 N ⟨i, Y, hi, rfl, hY, hN, hT4, hR4, hU4, hG4, hn4, t1, t2, t3, t4⟩
 by_cases hit : i < t.nodes.length
 case pos =>
  have wi := cG hit (by omega)
  have hG5 := (hG4.born 36 zN).put S4.no (.cells (aL t.nodes[i])) hG4.no
  have gr5 : Grow S4 ((S4.born 36 zN).put S4.no (.cells (aL t.nodes[i]))) aA := ((Grow.refl hG4.fresh aA).born _ _).put S4.no _ (aB _)
  have hN5 : ((S4.born 36 zN).put S4.no (.cells (aL t.nodes[i]))).obj S4.no = some (aL t.nodes[i]) := by simp [aX]
  simp only [SXa, Nat.reduceEqDiff, b19_7, P19, t1, t3, t4, hT4, aE, dA, gS, aG, aD, aM, aF, aB, eY ht.nodes, bL hit, iB ht.nodes hit, lU, lT, tV, stN, bE, oF, oB, dK]
  generalize (S4.born 36 zN).put S4.no (.cells (aL t.nodes[i])) = S5 at hG5 gr5 hN5
  have hT5 := gr5.objs hT4 (by omega)
  have hR5 := gr5.objs hR4 (by omega)
  have hU5 := gr5.objs hU4 hn4
  have etk : t.nodes.take i ++ [t.nodes[i]] = t.nodes.take (i + 1) := (qS hit).symm
  obtain ⟨Z, S8, ap, hZ, hNZ, hG8, no8, ob8, g8⟩ := wG el49 und49 (hY.keep gr5) hN hG5 (IsV.vec 1 7 (jW [t.nodes[i]])) (kf2 _) (by simp only [jW, eE, eW, aY, bH]; omega)
  have eap : jW (t.nodes.take i) ++ jW [t.nodes[i]] = jW (t.nodes.take (i + 1)) := by rw [← etk]; simp only [jW, lR, cF, jQ]
  rw [eap] at hZ
  have hU8 : S8.obj (S.no + 1 + 1) = some [Y, aA] := by rw [ob8]; exact hU5
  have hG9 := hG8.put (S.no + 1 + 1) (.cells [Z, aA]) (by omega)
  have hU9 : (S8.put (S.no + 1 + 1) (.cells [Z, aA])).obj (S.no + 1 + 1) = some [Z, aA] := by rw [aX, bN rfl]
  have hT9 : (S8.put (S.no + 1 + 1) (.cells [Z, aA])).obj S.no = some [nx, tx] := by rw [aX, aR (by omega), ob8]; exact hT5
  have hR9 : (S8.put (S.no + 1 + 1) (.cells [Z, aA])).obj (S.no + 1) = some [aA, aA] := by rw [aX, aR (by omega), ob8]; exact hR5
  have hno8 : S.no + 1 + 1 < S8.no := by rw [no8]; have := gr5.no; omega
  have hZ9 : OwnV (S8.put (S.no + 1 + 1) (.cells [Z, aA])) 69 7 Z (jW (t.nodes.take (i + 1))) := hZ
  have hN5' := hN5
  simp only [aL] at hN5
  simp only [SXa, Nat.reduceEqDiff, Nat.reduceAdd, P19, t1, t2, t3, t4, hU5, hN5, aE, dA, bS, aG, aD, aM, aF, lF, bldRN, bsRN, ap, qC _ _ _ (xm5 hZ.is) (wN hZ.is), hU8, fS, Nat.zero_lt_succ, wi]
  exact ⟨t.nodes.length - (i + 1), by omega, i + 1, Z, by omega, rfl, hZ9, hNZ, hT9, hR9, hU9, hG9, hno8, by simp []⟩
 case neg =>
 have hie : i = t.nodes.length := by omega
 rw [hie, oU] at hY
 have hNX := hY.is
 simp only [SXa, Nat.reduceEqDiff, b19_7, P19, t1, t4, hT4, aE, gS, aG, aD, aM, eY ht.nodes, bO hit]
 refine bX (fun tm S' N => ∃ (i : Nat) (cvs : List AV) (W : AV), i ≤ t.types.length ∧ N = t.types.length - i ∧ cvs.length = i ∧ (∀ k (h1 : k < t.types.length) (h2 : k < cvs.length), IsV 2 cvs[k] (gT t.types[k].cons)) ∧ OwnV S' 72 2 W (List.zipWith dcl (t.types.take i) cvs) ∧ cY S W ∧ S'.obj S.no = some [nx, tx] ∧ S'.obj (S.no + 1) = some [aA, aA] ∧ S'.obj (S.no + 1 + 1) = some [Y, W] ∧ Grow S S' aA ∧ S.no + 1 + 1 < S'.no ∧
  getT tm 1 = .ptr S.no 0 ∧ getT tm 2 = .ptr (S.no + 1) 0 ∧ getT tm 3 = .ptr (S.no + 1 + 1) 0 ∧ getT tm 6 = .sc (.int .i64 (i : Int))) t.types.length
  ⟨0, [], aA, by omega, by omega, rfl, fun k h1 h2 => absurd h2 (by simp), OwnV.nil' _ _ _, .inl rfl, hT4, hR4, hU4, hG4, hn4, by simp [aO, t1, t2, t3]⟩ ?_
 clear hT4 hR4 hU4 hG4 hn4 t1 t2 t3 t4 hit hi hie hN hY
 rintro tm S4 N ⟨i, cvs, W, hi, rfl, hcl, hcv, hW, hNW, hT4, hR4, hU4, hG4, hn4, t1, t2, t3, t6⟩
 by_cases hit : i < t.types.length
 case neg =>
  have hie : i = t.types.length := by omega
  rw [hie, oU] at hW
  simp only [SXa, Nat.reduceEqDiff, Nat.reduceAdd, b19_18, P19, t1, t2, t3, t6, hT4, aE, kQ, aG, aD, aF, aB, rM ht.types, bO hit, hU4, hR4, stT hNX hW.is, resU, aX, dM]
  exact ⟨⟨Y, W, rfl, hNX, ⟨cvs, by omega, hW.is, hcv⟩, ht.ln, ht.lt, ht.lk, ht.lc⟩, hG4.put _ _ (by omega)⟩
 have wi := cG hit (by omega)
 obtain ⟨hcl6, hnm, hca⟩ := hl.lt2 _ (fE hit)
 have hG5 := (hG4.born 72 [.sc (.string ⟨#[]⟩), .sc (.slice none 0 0)]).put S4.no (.cells [.sc (.string t.types[i].name), aA]) hG4.no
 have gr5 : Grow S4 ((S4.born 72 [.sc (.string ⟨#[]⟩), .sc (.slice none 0 0)]).put S4.no (.cells [.sc (.string t.types[i].name), aA])) aA := ((Grow.refl hG4.fresh aA).born _ _).put S4.no _ (aB _)
 have hD5 : ((S4.born 72 [.sc (.string ⟨#[]⟩), .sc (.slice none 0 0)]).put S4.no (.cells [.sc (.string t.types[i].name), aA])).obj S4.no = some [.sc (.string t.types[i].name), aA] := by simp [aX]
 have hn5 : S4.no < ((S4.born 72 [.sc (.string ⟨#[]⟩), .sc (.slice none 0 0)]).put S4.no (.cells [.sc (.string t.types[i].name), aA])).no := bJ _
 simp only [SXa, Nat.reduceEqDiff, Nat.reduceAdd, b19_18, P19, t1, t6, hT4, aE, kQ, uK, aG, dN, aD, aM, aF, aB, rM ht.types, bL hit, nC ht.types hit, dC, lF, bldRD, kv4, stRD (IsV.nil 2), bE, dM]
 generalize ((S4.born 72 [.sc (.string ⟨#[]⟩), .sc (.slice none 0 0)]).put S4.no (.cells [.sc (.string t.types[i].name), aA])) = S5 at hG5 gr5 hD5 hn5
 refine bX (fun tm S' N => ∃ (j : Nat) (C : AV), j ≤ t.types[i].cons.length ∧ N = t.types[i].cons.length - j ∧ OwnV S' 77 2 C (gT (t.types[i].cons.take j)) ∧ cY S C ∧ OwnV S' 72 2 W (List.zipWith dcl (t.types.take i) cvs) ∧ Apart C W ∧ S'.obj S.no = some [nx, tx] ∧ S'.obj (S.no + 1) = some [aA, aA] ∧ S'.obj (S.no + 1 + 1) = some [Y, W] ∧ S'.obj S4.no = some [.sc (.string t.types[i].name), C] ∧ Grow S S' aA ∧ S4.no < S'.no ∧
  getT tm 1 = .ptr S.no 0 ∧ getT tm 2 = .ptr (S.no + 1) 0 ∧ getT tm 3 = .ptr (S.no + 1 + 1) 0 ∧ getT tm 6 = .sc (.int .i64 (i : Int)) ∧ getT tm 7 = .ptr S4.no 0 ∧ getT tm 8 = .sc (.int .i64 (j : Int))) t.types[i].cons.length
  ⟨0, aA, by omega, by omega, OwnV.nil' _ _ _, .inl rfl, hW.keep gr5, Apart.nil _, gr5.objs hT4 (by omega), gr5.objs hR4 (by omega), gr5.objs hU4 hn4, hD5, hG5, hn5, by simp [aO, t1, t2, t3, t6]⟩ ?_
 clear hG5 gr5 hD5 hn5 hT4 hR4 hU4 t1 t2 t3 t6 hW
 rintro tm S6 N ⟨j, C, hj, rfl, hC, hNC, hW, aC, hT6, hR6, hU6, hD6, hG6, hn6, t1, t2, t3, t6, t7, t8⟩
 by_cases hjt : j < t.types[i].cons.length
 case pos =>
  have wj := cG hjt (by omega)
  have gr := Grow.raise hG6.fresh 27 aA
  have etk : gT (t.types[i].cons.take j) ++ gT [t.types[i].cons[j]] = gT (t.types[i].cons.take (j + 1)) := by
   rw [qS hjt]; simp only [gT, lR, cF, jQ]
  obtain ⟨Z, S8, ap, hZ, hNZ, hG8, no8, ob8, hW8, aZ⟩ := jh4 el70 und70 (hC.keep gr) hNC (hG6.two gr) (IsV.vec 1 2 (gT [t.types[i].cons[j]])) (by simp [gT]) (kv6 _) (by simp only [gT, eE, eW, aY, bH]; omega) (hW.keep gr) aC
  rw [etk] at hZ
  have hD8 : S8.obj S4.no = some [.sc (.string t.types[i].name), C] := by rw [ob8]; exact hD6
  have hG9 := hG8.put S4.no (.cells [.sc (.string t.types[i].name), Z]) hG4.no
  have hD9 : (S8.put S4.no (.cells [.sc (.string t.types[i].name), Z])).obj S4.no = some [.sc (.string t.types[i].name), Z] := by rw [aX, bN rfl]
  have hT9 : (S8.put S4.no (.cells [.sc (.string t.types[i].name), Z])).obj S.no = some [nx, tx] := by rw [aX, aR (by omega), ob8]; exact hT6
  have hR9 : (S8.put S4.no (.cells [.sc (.string t.types[i].name), Z])).obj (S.no + 1) = some [aA, aA] := by rw [aX, aR (by omega), ob8]; exact hR6
  have hU9 : (S8.put S4.no (.cells [.sc (.string t.types[i].name), Z])).obj (S.no + 1 + 1) = some [Y, W] := by rw [aX, aR (by omega), ob8]; exact hU6
  have hn9 : S4.no < (S8.put S4.no (.cells [.sc (.string t.types[i].name), Z])).no := by show S4.no < S8.no; rw [no8]; exact aU hn6 gr.no
  have hZ9 : OwnV (S8.put S4.no (.cells [.sc (.string t.types[i].name), Z])) 77 2 Z (gT (t.types[i].cons.take (j + 1))) := hZ
  have hW9 : OwnV (S8.put S4.no (.cells [.sc (.string t.types[i].name), Z])) 72 2 W (List.zipWith dcl (t.types.take i) cvs) := hW8
  simp only [SXa, Nat.reduceEqDiff, Nat.reduceAdd, b19_15, P19, t1, t2, t3, t6, t7, t8, hT6, hD6, aE, eG, iR, kQ, mW, uL, oE, aG, dN, aD, aM, aF, nC ht.types hit, dC, qK, bL hjt, rO hjt, cH, lF, bldRC, bsRC, ap, qC _ _ _ (xm5 hZ.is) (wN hZ.is), hD8, fS, kY, bJ, wj]
  exact ⟨t.types[i].cons.length - (j + 1), by omega, j + 1, Z, by omega, rfl, hZ9, hNZ, hW9, aZ, hT9, hR9, hU9, hD9, hG9, hn9, by simp []⟩
 case neg =>
  have hje : j = t.types[i].cons.length := by omega
  rw [hje, oU] at hC
  have hCi := hC.is
  have etk : List.zipWith dcl (t.types.take i) cvs ++ [dcl t.types[i] C] = List.zipWith dcl (t.types.take (i + 1)) (cvs ++ [C]) := by
   rw [qS hit, List.zipWith_append (by rw [eW]; omega)]
   rfl
  obtain ⟨Z, S8, ap, hZ, hNZ, hG8, no8, ob8, _⟩ := wG el50 und50 hW hNW hG6 (IsV.vec 1 2 [dcl t.types[i] C]) (kf3 hCi t.types[i].name) (by simp only [List.length_zipWith, eW, aY, bH]; omega)
  rw [etk] at hZ
  have hU8 : S8.obj (S.no + 1 + 1) = some [Y, W] := by rw [ob8]; exact hU6
  have hG9 := hG8.put (S.no + 1 + 1) (.cells [Y, Z]) (by omega)
  have hU9 : (S8.put (S.no + 1 + 1) (.cells [Y, Z])).obj (S.no + 1 + 1) = some [Y, Z] := by rw [aX, bN rfl]
  have hT9 : (S8.put (S.no + 1 + 1) (.cells [Y, Z])).obj S.no = some [nx, tx] := by rw [aX, aR (by omega), ob8]; exact hT6
  have hR9 : (S8.put (S.no + 1 + 1) (.cells [Y, Z])).obj (S.no + 1) = some [aA, aA] := by rw [aX, aR (by omega), ob8]; exact hR6
  have hn9 : S.no + 1 + 1 < (S8.put (S.no + 1 + 1) (.cells [Y, Z])).no := by show S.no + 1 + 1 < S8.no; omega
  have hZ9 : OwnV (S8.put (S.no + 1 + 1) (.cells [Y, Z])) 72 2 Z (List.zipWith dcl (t.types.take (i + 1)) (cvs ++ [C])) := hZ
  simp only [SXa, Nat.reduceEqDiff, Nat.reduceAdd, b19_15, P19, t1, t2, t3, t6, t7, t8, hT6, hD6, hU6, aE, dA, kQ, mW, aG, dN, aD, aF, aB, nC ht.types hit, dC, qK, bO hjt, bsRD hCi, ap, qC _ _ _ (xm5 hZ.is) (wN hZ.is), hU8, fS, kY, bJ, wi]
  refine ⟨t.types.length - (i + 1), by omega, i + 1, cvs ++ [C], Z, by omega, rfl, by rw [dL]; simp only [aY, bH]; omega, fun k h1 h2 => ?_, hZ9, hNZ, hT9, hR9, hU9, hG9, hn9, by simp []⟩
  by_cases hki : k < i
  · rw [List.getElem_append_left (by omega)]
    exact hcv k h1 (by omega)
  · have hke : k = i := by rw [dL] at h2; simp only [aY, bH] at h2; omega
    subst hke
    rw [List.getElem_append_right (by omega)]
    simp only [hcl, Nat.sub_self, List.getElem_cons_zero]
    exact hCi
open Go.Abs
theorem stTU {nx tx : AV} {t : TreeV} (h : RIs nx tx t) (l : Nat) (S : St) : gZ 2 (.ptr l 0) (.agg [nx, tx]) S = (S.obj l).bind fun cs => if 2 ≤ cs.length then some (dB, S.put l (.cells (nx :: tx :: cs.drop 2))) else none := by
 obtain ⟨_, _, h2, _⟩ := h.types
 exact stT h.nodes h2 l S
theorem kn2 {t : TreeV} (hl : Light t) : FewOk t :=
 ⟨fun x hx => ⟨(hl.ln2 x hx).1, (hl.ln2 x hx).2.1, by have := (hl.ln2 x hx).2.2; omega⟩, by have := hl.ln; omega, hl.lt2⟩
theorem ofA_ev (r : Option (Nat × Nat)) : ∃ (a b : Int) (c : Bool), ofA r = .tup [.sc (.int .i64 a), .sc (.int .i64 b), .sc (.bool c)] := by
 cases r with
 | none => exact ⟨0, 0, false, rfl⟩
 | some p => exact ⟨_, _, true, rfl⟩
theorem kf4 (t : TreeV) (i : Int) : (pE t i).length ≤ 2 ^ 40 := by
 unfold pE
 cases h : dW t i with
 | false => simp
 | true =>
  obtain ⟨d, p, z, k1, k2, k3, k4, k5⟩ := sE h
  have h1 := tG _ _ d 60 k1 p _ z k2
  have h2 := cT _ _ _ _ _ _ k2
  simp only [aH]
  omega
theorem jb1 (t : TreeV) (nx tx : AV) (ht : RawIs nx tx t) (a : Int) (name : ByteArray) (S : St) (hS : S.Fresh) : ∃ r S', EvA E 7 [.agg [nx, tx], .sc (.int .i64 a), .sc (.string name)] S r S' ∧ r = .sc (.bool true) := by
 refine ev7 rfl ?_
 have hG := (Grow.refl hS aA).born 26 [nx, tx]
 have hT : (S.born 26 [nx, tx]).obj S.no = some [nx, tx] := by simp [bE]
 have hn : S.no < (S.born 26 [nx, tx]).no := bJ _
 simp only [SXa, reduceCtorEq, Nat.reduceAdd, P7, dT, dZ]
 generalize S.born 26 [nx, tx] = S0 at hG hT hn
 refine aT ku7 hG (fun S1 g1 hG1 => ?_)
 have hT1 := g1.objs hT hn
 have hn1 := aU hn g1.no
 simp only [SXa, reduceCtorEq, Nat.reduceEqDiff, Nat.reduceAdd, P7, hT1, aE, aD, aF, aB]
 obtain ⟨r2, S2, e2, ⟨b, rfl, hb⟩, g2⟩ := jc2 t nx tx ht S1 hG1.fresh
 have hG2 := hG1.two g2
 have hT2 := g2.objs hT1 hn1
 have hn2 := aU hn1 g2.no
 refine cC e2 ?_
 cases b with
 | true => simp only [SXa, reduceCtorEq, Nat.reduceEqDiff]
 | false =>
 have hl := hb rfl
 have hti := ht.light hl
 have hln := hl.ln
 have hlt4 := hl.lt
 have hnm : ∀ x ∈ t.nodes, x.name.size ≤ 60 := fun x hx => (hl.ln2 x hx).1
 have hfew := kn2 hl
 simp only [SXa, reduceCtorEq, Nat.reduceEqDiff, eJ, eL]
 cases c60 : decide ((60 : Int) < ((name.size : Nat) : Int)) with
 | true => simp only [SXa, reduceCtorEq, Nat.reduceEqDiff]
 | false =>
 obtain ⟨r3, S3, e3, ⟨nx', tx', rfl, hr⟩, g3⟩ := own_ok t nx tx hti hl S2 hG2.fresh
 have hG3 := hG2.two g3
 have hT3 := g3.objs hT2 hn2
 have hn3 := aU hn2 g3.no
 simp only [SXa, reduceCtorEq, Nat.reduceEqDiff, Nat.reduceAdd, P7, hT2, aE, aD, aF, aB]
 refine cC e3 ?_
 have hG4 := (hG3.born 52 [aA, aA]).put S3.no (.cells [nx', tx']) hG3.no
 have hU4 : ((S3.born 52 [aA, aA]).put S3.no (.cells [nx', tx'])).obj S3.no = some [nx', tx'] := by simp [aX]
 have hT4 : ((S3.born 52 [aA, aA]).put S3.no (.cells [nx', tx'])).obj S.no = some [nx, tx] := by
  have : S.no ≠ S3.no := by omega
  simp [aX, bE, this, hT3]
 have hn4 : S3.no < ((S3.born 52 [aA, aA]).put S3.no (.cells [nx', tx'])).no := bJ _
 simp only [SXa, reduceCtorEq, Nat.reduceEqDiff, Nat.reduceAdd, P7, allocU, stTU hr, bE, aD, aB, dM]
 generalize (S3.born 52 [aA, aA]).put S3.no (.cells [nx', tx']) = S4 at hG4 hU4 hT4 hn4
 obtain ⟨k1, k2, k3, hof⟩ := ofA_ev (ofF name t.types 0)
 have of1 := wL t nx tx hti name
 have of2 := ki6 t nx' tx' hr name
 rw [hof] at of1 of2
 simp only [SXa, reduceCtorEq, Nat.reduceEqDiff, Nat.reduceAdd, P7, hT4, aE, aD, aF, aB]
 refine aT of1 hG4 (fun S5 g5 hG5 => ?_)
 have hT5 := g5.objs hT4 (by omega)
 have hU5 := g5.objs hU4 hn4
 have hn5 := aU hn4 g5.no
 simp only [SXa, reduceCtorEq, Nat.reduceEqDiff, Nat.reduceAdd, P7, hU5, aE, aD, aF, aB]
 refine aT of2 hG5 (fun S6 g6 hG6 => ?_)
 have hT6 := g6.objs hT5 (by omega)
 have hU6 := g6.objs hU5 hn5
 have hnU := aU hn5 g6.no
 have hnT : S.no < S6.no := by omega
 simp only [SXa, reduceCtorEq, Nat.reduceEqDiff]
 refine kK noX draw7_0 ?_
 have h0 := Grow.raise hG6.fresh 62 aA
 simp only [SXa, reduceCtorEq, Nat.reduceEqDiff, Nat.reduceAdd, P7, hT6, aE, eG, aD, aF, aB]
 refine aT (yU t nx tx hti) h0 (fun S7 g7 h7 => ?_)
 have hT7 := h7.objs hT6 hnT
 have hU7 := h7.objs hU6 hnU
 simp only [SXa, reduceCtorEq, Nat.reduceEqDiff, Nat.reduceAdd, P7, hU7, aE, aD, aF, aB]
 refine aT (uG t nx' tx' hr hfew (by omega)) h7 (fun S8 g8 h8 => ?_)
 have hT8 := h8.objs hT6 hnT
 have hU8 := h8.objs hU6 hnU
 have q1 : (fJ t == fJ t) = true := by simp
 simp only [SXa, reduceCtorEq, Nat.reduceEqDiff, Nat.reduceAdd, P7, hT8, aE, aD, aF, aB, ww7 4 kg4, q1]
 refine aT (jh8 t nx tx hti (wg0 hl) (by omega) hl.lt2) h8 (fun S9 g9 h9 => ?_)
 have hT9 := h9.objs hT6 hnT
 have hU9 := h9.objs hU6 hnU
 simp only [SXa, reduceCtorEq, Nat.reduceEqDiff, Nat.reduceAdd, P7, hU9, aE, aD, aF, aB]
 refine aT (kk0 t nx' tx' hr hfew (by omega) (wg0 hl)) h9 (fun S10 g10 h10 => ?_)
 have hT10 := h10.objs hT6 hnT
 have hU10 := h10.objs hU6 hnU
 have q2 : ((sU t).toList == (sU t).toList) = true := by simp
 simp only [SXa, reduceCtorEq, Nat.reduceEqDiff, Nat.reduceAdd, P7, hT10, aE, aD, aF, aB, q2]
 obtain ⟨F1, S11, e11, hF1, g11⟩ := Free_ok t nx tx hti hnm a S10 h10.fresh
 have h11 := h10.two g11
 have hT11 := h11.objs hT6 hnT
 have hU11 := h11.objs hU6 hnU
 refine cC e11 ?_
 simp only [SXa, reduceCtorEq, Nat.reduceEqDiff, Nat.reduceAdd, P7, hU11, aE, aD, aF, aB]
 obtain ⟨F2, S12, e12, hF2, g12⟩ := kz2 t nx' tx' hr hfew (by omega) a S11 h11.fresh
 have h12 := h11.two g12
 have hT12 := h12.objs hT6 hnT
 have hU12 := h12.objs hU6 hnU
 refine cC e12 ?_
 simp only [SXa, reduceCtorEq, Nat.reduceEqDiff, P7]
 refine aT (xs6 _ F1 F2 hF1 hF2 (kv9 t a)) h12 (fun S13 g13 h13 => ?_)
 have hT13 := h13.objs hT6 hnT
 have hU13 := h13.objs hU6 hnU
 simp only [SXa, reduceCtorEq, Nat.reduceEqDiff, Nat.reduceAdd, P7, hT13, aE, aD, aF, aB]
 obtain ⟨B1, S14, e14, hB1, g14⟩ := ji0 t nx tx hti a S13 h13.fresh
 have h14 := h13.two g14
 have hT14 := h14.objs hT6 hnT
 have hU14 := h14.objs hU6 hnU
 refine cC e14 ?_
 simp only [SXa, reduceCtorEq, Nat.reduceEqDiff, Nat.reduceAdd, P7, hU14, aE, aD, aF, aB]
 obtain ⟨B2, S15, e15, hB2, g15⟩ := kk3 t nx' tx' hr hfew (by omega) a S14 h14.fresh
 have h15 := h14.two g15
 have hT15 := h15.objs hT6 hnT
 have hU15 := h15.objs hU6 hnU
 refine cC e15 ?_
 simp only [SXa, reduceCtorEq, Nat.reduceEqDiff, P7]
 refine aT (xs6 _ B1 B2 hB1 hB2 (kf4 t a)) h15 (fun S16 g16 h16 => ?_)
 have hT16 := h16.objs hT6 hnT
 have hU16 := h16.objs hU6 hnU
 simp only [SXa, reduceCtorEq, Nat.reduceEqDiff, Nat.reduceAdd, P7, hT16, aE, aD, aF, aB]
 obtain ⟨P1, S17, e17, hP1, g17⟩ := kx4 t nx tx hti S16 h16.fresh
 have h17 := h16.two g17
 have hT17 := h17.objs hT6 hnT
 have hU17 := h17.objs hU6 hnU
 refine cC e17 ?_
 simp only [SXa, reduceCtorEq, Nat.reduceEqDiff, Nat.reduceAdd, P7, hU17, aE, aD, aF, aB]
 obtain ⟨P2, S18, e18, hP2, g18⟩ := kj9 t nx' tx' hr hfew (by omega) S17 h17.fresh
 have h18 := h17.two g18
 have hT18 := h18.objs hT6 hnT
 have hU18 := h18.objs hU6 hnU
 refine cC e18 ?_
 simp only [SXa, reduceCtorEq, Nat.reduceEqDiff, P7]
 refine aT (ko7 _ P1 P2 hP1 hP2 (by have := xs7 t.nodes 0; cases fJ t <;> simp <;> omega)) h18 (fun S19 g19 h19 => ?_)
 have hT19 := h19.objs hT6 hnT
 have hU19 := h19.objs hU6 hnU
 simp only [SXa, reduceCtorEq, Nat.reduceEqDiff, Nat.reduceAdd, P7, hT19, aE, aD, aF, aB]
 refine aT (kw1 t nx tx hti a) h19 (fun S20 g20 h20 => ?_)
 have hT20 := h20.objs hT6 hnT
 have hU20 := h20.objs hU6 hnU
 simp only [SXa, reduceCtorEq, Nat.reduceEqDiff, Nat.reduceAdd, P7, hU20, aE, aD, aF, aB, gF, gG, lE hnU h20, bY]
 refine aT (ka0 t nx' tx' hr hfew (by omega) a) h20 (fun S21 g21 h21 => ?_)
 have hT21 := h21.objs hT6 hnT
 have hU21 := h21.objs hU6 hnU
 have q3 : (((qH t a : Nat) : Int) == ((qH t a : Nat) : Int)) = true := by simp
 have q4 : (k1 == k1) = true := by simp
 have q5 : (k2 == k2) = true := by simp
 have q6 : (k3 == k3) = true := by simp
 simp only [SXa, reduceCtorEq, Nat.reduceEqDiff, q3, q4, q5, q6, ww7 4 kg4]
end Go.Proofs.YthjaoinieikjdaaGreatDoor
