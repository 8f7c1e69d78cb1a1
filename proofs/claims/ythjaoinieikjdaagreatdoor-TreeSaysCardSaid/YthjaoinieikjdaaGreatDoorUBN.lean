/-
  The document's own trees: the walks (what a pattern binds, which trees may be).
-/
import Derived.Test.YthjaoinieikjdaaGreatDoorUBM
set_option maxHeartbeats 64000000
set_option linter.unusedSimpArgs false
set_option linter.unusedVariables false
set_option maxRecDepth 100000
namespace Go.Proofs.YthjaoinieikjdaaGreatDoor
open Go.Abs
theorem zQ {tm : PM AV} {S : St} {d : Option Tmp} : opV E tm d (.alloc 69) S = some (.ptr S.no 0, S.born 69 zN) := oA (by kernel_rfl)
theorem wQ {p : Prop} [Decidable p] (h : p) : decide p = true := iI h
theorem wp0 {p : Prop} [Decidable p] (h : ¬ p) : decide p = false := jO h
theorem xW (t : TreeV) (nx tx : AV) (ht : RIs nx tx t) : ∀ (d f : Nat), d ≤ f → ∀ (a z : Nat), bC t.nodes t.types d true a = some z → ∀ (S : St), S.Fresh →
 ∃ r S', EvA E 73 [.agg [nx, tx], .sc (.int .i64 (a : Nat))] S r S' ∧ (OwnV S' 9 1 r (aN (cV t.nodes f a)) ∧ cY S r) ∧ Grow S S' aA
 | 0, f, hf, a, z, h, S, hS => by cases h
 | d + 1, 0, hf, a, z, h, S, hS => by omega
 | d + 1, f + 1, hf, a, z, h, S, hS => by
  have hbd := cT _ _ _ _ _ _ h
  obtain ⟨hlt, hpat, hal, hw⟩ := oZ h
  have hkl := ht.lk _ (fE hlt)
  have eb : cV t.nodes (f + 1) a = bif t.nodes[a].kind == 22 then [t.nodes[a].name] else bif t.nodes[a].kind == 26 then t.nodes[a].kids.flatMap fun k => cV t.nodes f k.toNat else [] := by
   rw [cV, cX hlt]
  rw [eb]
  refine ev73 rfl ?_
  have hb1 := (Grow.refl hS aA).born 52 [nx, tx]
  have hT1 : (S.born 52 [nx, tx]).obj S.no = some [nx, tx] := by simp [bE]
  have hn1 : S.no < (S.born 52 [nx, tx]).no := bJ _
  simp only [SXa, reduceCtorEq, Nat.reduceAdd, P73, dT, dZ]
  generalize S.born 52 [nx, tx] = S1 at hb1 hT1 hn1
  have hb2 := (hb1.born 69 zN).put S1.no (.cells (aL t.nodes[a])) hb1.no
  have hN2 : ((S1.born 69 zN).put S1.no (.cells (aL t.nodes[a]))).obj S1.no = some (aL t.nodes[a]) := by simp [aX]
  have hT2 : ((S1.born 69 zN).put S1.no (.cells (aL t.nodes[a]))).obj S.no = some [nx, tx] := by
   have : S.no ≠ S1.no := by omega
   simp [aX, bE, this, hT1]
  have hn2 : S1.no < ((S1.born 69 zN).put S1.no (.cells (aL t.nodes[a]))).no := bJ _
  simp only [SXa, reduceCtorEq, Nat.reduceEqDiff, P73, dA, aG, aE, hT1, aD, aF, aM, iB ht.nodes hlt, lU, lT, zQ, stN, bE, oF, oB, dK, aB]
  generalize (S1.born 69 zN).put S1.no (.cells (aL t.nodes[a])) = S2 at hb2 hN2 hT2 hn2
  simp only [aL] at hN2
  simp only [SXa, reduceCtorEq, Nat.reduceEqDiff, P73, aE, hN2, bP, aG, aD, aM]
  cases c1 : (t.nodes[a].kind == 22) with
  | true =>
   simp only [SXa, reduceCtorEq, Nat.reduceEqDiff, Nat.reduceBEq, P73, aE, hN2, bP, aG, aD, aF, kX]
   exact ⟨⟨.inr ⟨1, rfl, .inl rfl⟩, .inr (.inl ⟨_, _, rfl⟩)⟩, hb2⟩
  | false =>
  have hfl0 : (bif t.nodes[a].kind == 26 then t.nodes[a].kids.flatMap fun k => cV t.nodes f k.toNat else []) = t.nodes[a].kids.flatMap fun k => cV t.nodes f k.toNat := by
   by_cases hk0 : 0 < t.nodes[a].kids.length
   · rw [xx9 hpat hal hk0]; rfl
   · have : t.nodes[a].kids = [] := List.length_eq_zero_iff.1 (by omega)
     rw [this]
     cases (t.nodes[a].kind == 26) <;> rfl
  rw [aK, hfl0]
  simp only [SXa]
  refine bX (fun tm S' N => ∃ (i q : Nat) (X : AV) (ws : List ByteArray), i ≤ t.nodes[a].kids.length ∧ N = t.nodes[a].kids.length - i ∧ bV (bC t.nodes t.types d) true (t.nodes[a].kind == 11) (t.nodes[a].kids.drop i) i q = some z ∧ a < q ∧ q ≤ t.nodes.length ∧ ws.length ≤ q ∧
   ws ++ ((t.nodes[a].kids.drop i).flatMap fun k => cV t.nodes f k.toNat) = (t.nodes[a].kids.flatMap fun k => cV t.nodes f k.toNat) ∧ OwnV S' 9 1 X (aN ws) ∧ cY S X ∧
   S'.obj S.no = some [nx, tx] ∧ S'.obj S1.no = some (aL t.nodes[a]) ∧ Grow S S' aA ∧ S1.no < S'.no ∧ getT tm 1 = .sc (.int .i64 (a : Nat)) ∧ getT tm 2 = .ptr S.no 0 ∧ getT tm 5 = .ptr S1.no 0 ∧ getT tm 6 = X ∧ getT tm 7 = .sc (.int .i64 (i : Int))) t.nodes[a].kids.length
   ⟨0, a + 1, aA, [], by omega, by omega, by rw [cJ]; exact hw, by omega, by omega, by simp, by simp, OwnV.nil' _ _ _, .inl rfl, hT2, hN2, hb2, by omega, by simp [aO]⟩ ?_
  clear hN2
  rintro tm S3 N ⟨i, q, X, ws, hi, rfl, hq, haq, hqn, hwl, hfl, hX, hNw, hT3, hN3, hb3, hn3, t1, t2, t5, t6, t7⟩
  have hN3' := hN3
  simp only [aL] at hN3
  have hln := ht.ln
  by_cases hit : i < t.nodes[a].kids.length
  case neg =>
   have hie : i = t.nodes[a].kids.length := by omega
   rw [hie, fA] at hfl
   simp only [List.flatMap_nil, dK] at hfl
   simp only [SXa, Nat.reduceEqDiff, b73_10, P73, t5, t6, t7, aE, hN3, bP, aG, aD, aF, dO, bO hit]
   rw [← hfl]
   exact ⟨⟨hX, hNw⟩, hb3⟩
  case pos =>
  have h26 := xx9 hpat hal (by omega)
  have wi := cG hit (by omega)
  rw [tE _ _ _ hit] at hq
  cases c6 : (t.nodes[a].kids[i] == ((q : Nat) : Int)) with
  | false => rw [c6] at hq; cases hq
  | true =>
  rw [c6, aH] at hq
  have hk : t.nodes[a].kids[i] = ((q : Nat) : Int) := by simpa using c6
  cases hw2 : bC t.nodes t.types d (true || (t.nodes[a].kind == 11 && cN ((i : Nat) : Int))) q with
  | none => rw [hw2] at hq; cases hq
  | some q1 =>
  rw [hw2] at hq
  rw [cA] at hw2
  have hbq := cT _ _ _ _ _ _ hw2
  have hlq := tG _ _ d f (by omega) _ _ _ hw2
  have gr1 := Grow.raise hb3.fresh 23 aA
  have hgr := gr1.two (Grow.raise gr1.fresh 10 aA)
  obtain ⟨r4, S4, e4, ⟨hY, _⟩, g4⟩ := xW t nx tx ht d f (by omega) q q1 hw2 ((S3.raise 23).raise 10) hgr.fresh
  have g34 := hgr.two g4
  have hT4 := g34.objs hT3 (by omega)
  have hN4 := g34.objs hN3' hn3
  have hb4 := hb3.two g34
  have hn4 := aU hn3 g34.no
  obtain ⟨Z, S5, ap, hZ, hNZ, hb5, no5, ob5, _⟩ := mO (hX.keep g34) hNw hb4 hY.is (by omega)
  rw [dJ hit, jN, hk, gN, ← pT] at hfl
  have d1 : decide (((a : Nat) : Int) < ((q : Nat) : Int)) = true := wQ (by omega)
  have d2 : decide (((q : Nat) : Int) < ((t.nodes.length : Nat) : Int)) = true := wQ (by omega)
  simp only [SXa, Nat.reduceEqDiff, Nat.reduceAdd, Int.reduceBEq, b73_10, P73, t1, t2, t5, t6, t7, aE, eG, hN3, hT3, bP, dA, aG, aD, aM, aF, aB, dO, bL hit, iQ hit, hk, eY ht.nodes, d1, d2, h26]
  refine cC e4 ?_
  simp only [SXa, Nat.reduceEqDiff, Nat.reduceBEq, P73, t1, t2, t5, t6, t7, wi, ap]
  exact ⟨t.nodes[a].kids.length - (i + 1), by omega, i + 1, q1, Z, ws ++ cV t.nodes f q, by omega, rfl, by rw [h26] at hq; exact hq, by omega, hbq.2, by rw [dL]; omega, hfl, hZ, hNZ, by rw [ob5]; exact hT4, by rw [ob5]; exact hN4, hb5, by rw [no5]; exact hn4, by simp []⟩
def pF : Option Nat → Int
 | some z => ((z : Nat) : Int)
 | none => -1
theorem wj9 (ns : List NodeV) {l : List Int} {k : Nat} (hk : k < l.length) (h : k % 2 = 1) : jU ns (l.drop k) k = (eA [] (cV ns 60 l[k].toNat) || jU ns (l.drop (k + 2)) (k + 2)) := by
 have e1 : cN ((k : Nat) : Int) = true := by
  have : ((k : Nat) : Int).tmod 2 = ((k % 2 : Nat) : Int) := rfl
  simp only [cN, this, h]; rfl
 have e2 : cN ((k + 1 : Nat) : Int) = false := by
  have : ((k + 1 : Nat) : Int).tmod 2 = (((k + 1) % 2 : Nat) : Int) := rfl
  have h2 : (k + 1) % 2 = 0 := by omega
  simp only [cN, this, h2]; rfl
 rw [dJ hk, jU, e1, cI]
 congr 1
 by_cases h2 : k + 1 < l.length
 · rw [dJ h2, jU, e2, bK, gU]
 · rw [rP (by omega), rP (by omega)]; rfl
structure FewOk (t : TreeV) : Prop where
 nm : ∀ x ∈ t.nodes, x.name.size ≤ 60 ∧ x.param.size ≤ 60 ∧ x.kids.length ≤ 100
 ln : t.nodes.length ≤ 1000
 lc : ∀ d ∈ t.types, tW d
theorem hrem (t : TypeId) (a b : Operand) (n : Int) (S : St) : cQ E .rem t a b (.sc (.int .i64 n)) (.sc (.int .i64 2)) S = some (.sc (.int .i64 (n.tmod 2)), S) := jh1 t a b .i64 n 2 (by decide)
theorem kind20 {x : NodeV} (h : kL x = true) : decide ((20 : Int) < x.kind) = gM x.kind := by
 unfold kL at h
 simp only [bB] at h
 split at h
 · cases h
 · rename_i h2
   simp only [eF, bZ, not_or] at h2
   rw [pV]
   simp only [gM, bZ, aS]
   omega
theorem wd3 (t : TreeV) (nx tx : AV) (ht : RIs nx tx t) (ho : FewOk t) : ∀ (d : Nat), d ≤ 60 → ∀ (pat : Bool) (a : Nat), a ≤ 2 ^ 40 → Ans E 61 [.agg [nx, tx], .sc (.int .i64 (a : Nat)), .sc (.bool pat), .sc (.int .i64 ((61 - d : Nat) : Int))] (.sc (.int .i64 (pF (fW t.nodes t.types d pat a))))
 | d, hd, pat, a, ha => bU fun S hS => by
  refine ev61 rfl ?_
  unfold p61
  generalize hTK : (PC.seq (.reg r61_10) (.seq (.seq (.reg r61_11) (.block 0 (.loop b61_19))) (.seq (.seq (.reg r61_20) (.cond (.tmp 111) (.seq (.reg r61_21) (.block 2 (.loop b61_26))) .skip)) (.seq (.reg r61_27) .ret)))) = TK
  generalize hT7 : (PC.seq (.reg r61_7) (.seq (.regD 19 r61_8) (.cond (.tmp 74) (.seq (.reg r61_9) .ret) .skip))) = T7
  have hb1 := (Grow.refl hS aA).born 52 [nx, tx]
  have hT1 : (S.born 52 [nx, tx]).obj S.no = some [nx, tx] := by simp [bE]
  have hn1 : S.no < (S.born 52 [nx, tx]).no := bJ _
  simp only [SXa, reduceCtorEq, Nat.reduceEqDiff, Nat.reduceAdd, dT, dZ]
  generalize S.born 52 [nx, tx] = S1 at hb1 hT1 hn1
  by_cases hlt : a < t.nodes.length
  case neg =>
   have d1 : decide (((t.nodes.length : Nat) : Int) ≤ ((a : Nat) : Int)) = true := wQ (by omega)
   have e : fW t.nodes t.types d pat a = none := by
    cases d with
    | zero => rfl
    | succ d => rw [fW, mJ (by omega)]
   simp only [SXa, reduceCtorEq, Nat.reduceEqDiff, P61, hT1, aE, dA, aG, aD, aM, eY ht.nodes, d1]
   exact ⟨by rw [e]; rfl, hb1⟩
  have d1 : decide (((t.nodes.length : Nat) : Int) ≤ ((a : Nat) : Int)) = false := wp0 (by omega)
  match d, hd with
  | 0, hd =>
   have d2 : decide ((60 : Int) < ((61 - 0 : Nat) : Int)) = true := by decide
   simp only [SXa, reduceCtorEq, Nat.reduceEqDiff, Nat.reduceSub, P61, hT1, aE, dA, aG, aD, aM, eY ht.nodes, d1, d2]
   exact ⟨rfl, hb1⟩
  | d + 1, hd =>
  have d2 : decide ((60 : Int) < ((61 - (d + 1) : Nat) : Int)) = false := wp0 (by omega)
  have wd : IntKind.i64.wrap (((61 - (d + 1) : Nat) : Int) + 1) = ((61 - d : Nat) : Int) := by rw [wrap_i64 (by omega) (by omega)]; omega
  generalize hdp : ((61 - (d + 1) : Nat) : Int) = dp at d2 wd
  obtain ⟨hnm, hpm, hkl⟩ := ho.nm _ (fE hlt)
  generalize hAns : pF (fW t.nodes t.types (d + 1) pat a) = R
  unfold fW at hAns
  rw [cX hlt] at hAns
  simp only [] at hAns
  have hb2 := (hb1.born 69 zN).put S1.no (.cells (aL t.nodes[a])) hb1.no
  have hN2 : ((S1.born 69 zN).put S1.no (.cells (aL t.nodes[a]))).obj S1.no = some (aL t.nodes[a]) := by simp [aX]
  have hT2 : ((S1.born 69 zN).put S1.no (.cells (aL t.nodes[a]))).obj S.no = some [nx, tx] := by
   have : S.no ≠ S1.no := by omega
   simp [aX, bE, this, hT1]
  have hn2 : S1.no < ((S1.born 69 zN).put S1.no (.cells (aL t.nodes[a]))).no := bJ _
  simp only [SXa, reduceCtorEq, Nat.reduceEqDiff, P61, hT1, aE, dA, aG, aD, aM, aF, aB, eY ht.nodes, d1, d2, iB ht.nodes hlt, lU, lT, zQ, stN, bE, oF, oB, dK]
  generalize (S1.born 69 zN).put S1.no (.cells (aL t.nodes[a])) = S2 at hb2 hN2 hT2 hn2
  have stA : ∀ (tm : PM AV) (S4 : St) (z : Nat), bV (fW t.nodes t.types d) pat (t.nodes[a].kind == 11) t.nodes[a].kids 0 (a + 1) = some z → eT t.types t.nodes[a] = true → (gM t.nodes[a].kind != pat) = false → S4.obj S.no = some [nx, tx] → S4.obj S1.no = some (aL t.nodes[a]) → S1.no < S4.no → Grow S S4 aA → getT tm 4 = .ptr S.no 0 → getT tm 9 = .ptr S1.no 0 → getT tm 13 = .sc (.int .i64 ((z : Nat) : Int)) → aV E 128 [.c (PC.seq (.seq (.reg r61_20) (.cond (.tmp 111) (.seq (.reg r61_21) (.block 2 (.loop b61_26))) .skip)) (.seq (.reg r61_27) .ret))] .nrm tm S4 (kB E [.tmp 8] fun v S' => v = .sc (.int .i64 R) ∧ Grow S S' aA) := fun tm S4 z hz hal hpa hT4 hN4' hn4 hG4 t4 t9 t13 => by
   rw [hpa, hal] at hAns
   simp only [iC, dD, aK, hz] at hAns
   have hN4 := hN4'
   simp only [aL] at hN4
   cases c11 : (t.nodes[a].kind == 11) with
   | false =>
    rw [c11, bK, aK] at hAns
    simp only [SXa, Nat.reduceEqDiff, P61, t9, t13, hN4, aE, bP, aG, aD, aM, c11]
    exact ⟨by rw [← hAns]; rfl, hG4⟩
   | true =>
   rw [c11, cI] at hAns
   rw [c11] at hz
   have e0 : jU t.nodes t.nodes[a].kids 0 = jU t.nodes (t.nodes[a].kids.drop 1) 1 := by
    cases hkk : t.nodes[a].kids with
    | nil => rfl
    | cons y r => rw [jU]; rfl
   rw [e0] at hAns
   simp only [SXa, Nat.reduceEqDiff, P61, t9, hN4, aE, bP, aG, aD, aM, c11]
   refine bX (fun tm S' N => ∃ k : Nat, k % 2 = 1 ∧ N = t.nodes[a].kids.length + 2 - k ∧ k ≤ t.nodes[a].kids.length + 1 ∧ jU t.nodes (t.nodes[a].kids.drop k) k = jU t.nodes (t.nodes[a].kids.drop 1) 1 ∧ S'.obj S.no = some [nx, tx] ∧ S'.obj S1.no = some (aL t.nodes[a]) ∧ S1.no < S'.no ∧ Grow S S' aA ∧ getT tm 4 = .ptr S.no 0 ∧ getT tm 9 = .ptr S1.no 0 ∧ getT tm 13 = .sc (.int .i64 ((z : Nat) : Int)) ∧ getT tm 15 = .sc (.int .i64 ((k : Nat) : Int))) (t.nodes[a].kids.length + 1)
    ⟨1, rfl, by omega, by omega, rfl, hT4, hN4', hn4, hG4, by simp [aO, t4, t9, t13]⟩ ?_
   clear t4 t9 t13 hN4
   rintro tm S5 N ⟨k, hk2, rfl, hkl2, hbad, hT5, hN5', hn5, hG5, t4, t9, t13, t15⟩
   have hN5 := hN5'
   simp only [aL] at hN5
   by_cases hkt : k < t.nodes[a].kids.length
   case neg =>
    rw [rP (by omega)] at hbad
    rw [← hbad] at hAns
    simp only [SXa, Nat.reduceEqDiff, b61_26, P61, t9, t13, t15, hN5, aE, bP, aG, aD, aF, dO, bO hkt]
    exact ⟨by rw [← hAns]; rfl, hG5⟩
   have wk : IntKind.i64.wrap ((k : Int) + 2) = ((k + 2 : Nat) : Int) := by rw [wrap_i64 (by omega) (by omega)]; omega
   obtain ⟨q, q1, hkq, k2, k3, k4⟩ := vS (yJ t.nodes t.types d) _ 0 (a + 1) z hz k hkt
   have harm : cN ((0 + k : Nat) : Int) = true := by
    rw [aF]
    have : ((k : Nat) : Int).tmod 2 = ((k % 2 : Nat) : Int) := rfl
    rw [cN, this, hk2]; rfl
   rw [harm, cI, cR] at k4
   have hwq := tB _ _ _ _ _ _ k4
   rw [wj9 _ hkt hk2, hkq, gN] at hbad
   have gr1 := Grow.raise hG5.fresh 8 aA
   obtain ⟨r6, S6, e6, ⟨hY, _⟩, g6⟩ := xW t nx tx ht d 60 (by omega) q q1 hwq (S5.raise 8) gr1.fresh
   have hG6 := (hG5.two gr1).two g6
   have hT6 := (gr1.two g6).objs hT5 (by omega)
   have hN6 := (gr1.two g6).objs hN5' hn5
   have hn6 := aU hn5 (gr1.two g6).no
   have hbl := tG _ _ d 60 (by omega) _ _ _ hwq
   have hbq := cT _ _ _ _ _ _ hwq
   have hln := ho.ln
   simp only [SXa, Nat.reduceEqDiff, Nat.reduceAdd, b61_26, P61, t4, t9, t15, hN5, hT5, eG, aE, bP, aG, aD, aF, aB, dO, bL hkt, iQ hkt, hkq]
   refine cC e6 ?_
   simp only [SXa, Nat.reduceEqDiff, P61]
   refine aT (yz8 (cV t.nodes 60 q) r6 hY.is (by omega)) hG6 (fun S7 g7 hG7 => ?_)
   cases ct : eA [] (cV t.nodes 60 q) with
   | true =>
    rw [ct, cA] at hbad
    rw [← hbad] at hAns
    simp only [SXa, Nat.reduceEqDiff]
    exact ⟨by rw [← hAns]; rfl, hG7⟩
   | false =>
    rw [ct, gU] at hbad
    simp only [SXa, Nat.reduceEqDiff, t4, t9, t13, t15, wk]
    exact ⟨t.nodes[a].kids.length + 2 - (k + 2), by omega, k + 2, by omega, rfl, by omega, hbad, g7.objs hT6 (by omega), g7.objs hN6 hn6, aU hn6 g7.no, hG7, by simp []⟩
  have stK : ∀ (tm : PM AV) (S4 : St), eT t.types t.nodes[a] = true → (gM t.nodes[a].kind != pat) = false → S4.obj S.no = some [nx, tx] → S4.obj S1.no = some (aL t.nodes[a]) → S1.no < S4.no → Grow S S4 aA → getT tm 1 = .sc (.int .i64 (a : Nat)) → getT tm 2 = .sc (.bool pat) → getT tm 3 = .sc (.int .i64 dp) → getT tm 4 = .ptr S.no 0 → getT tm 9 = .ptr S1.no 0 → aV E 128 [.c (PC.seq (.reg r61_10) (.seq (.seq (.reg r61_11) (.block 0 (.loop b61_19))) (.seq (.seq (.reg r61_20) (.cond (.tmp 111) (.seq (.reg r61_21) (.block 2 (.loop b61_26))) .skip)) (.seq (.reg r61_27) .ret))))] .nrm tm S4 (kB E [.tmp 8] fun v S' => v = .sc (.int .i64 R) ∧ Grow S S' aA) := fun tm S4 hal hpa hT4 hN4' hn4 hG4 t1 t2 t3 t4 t9 => by
   have hln := ho.ln
   generalize hTA : (PC.seq (.seq (.reg r61_20) (.cond (.tmp 111) (.seq (.reg r61_21) (.block 2 (.loop b61_26))) .skip)) (.seq (.reg r61_27) .ret)) = TA
   rw [hTA] at stA
   have stA := fun tm S4 z a b c d e f g h => stA tm S4 z a hal hpa b c d e f g h
   have wa : IntKind.i64.wrap ((a : Int) + 1) = ((a + 1 : Nat) : Int) := by rw [wrap_i64 (by omega) (by omega)]; omega
   rw [hpa, hal] at hAns
   simp only [iC, dD, aK] at hAns
   simp only [SXa, Nat.reduceEqDiff, P61, t1, wa]
   refine bX (fun tm S' N => ∃ i q : Nat, i ≤ t.nodes[a].kids.length ∧ N = t.nodes[a].kids.length - i ∧ q ≤ 2 ^ 40 ∧ bV (fW t.nodes t.types d) pat (t.nodes[a].kind == 11) (t.nodes[a].kids.drop i) i q = bV (fW t.nodes t.types d) pat (t.nodes[a].kind == 11) t.nodes[a].kids 0 (a + 1) ∧ S'.obj S.no = some [nx, tx] ∧ S'.obj S1.no = some (aL t.nodes[a]) ∧ S1.no < S'.no ∧ Grow S S' aA ∧ getT tm 2 = .sc (.bool pat) ∧ getT tm 3 = .sc (.int .i64 dp) ∧ getT tm 4 = .ptr S.no 0 ∧ getT tm 9 = .ptr S1.no 0 ∧ getT tm 13 = .sc (.int .i64 ((q : Nat) : Int)) ∧ getT tm 14 = .sc (.int .i64 ((i : Nat) : Int))) t.nodes[a].kids.length
    ⟨0, a + 1, by omega, by omega, by omega, by rw [cJ], hT4, hN4', hn4, hG4, by simp [aO, t2, t3, t4, t9]⟩ ?_
   clear t1 t2 t3 t4 t9
   rintro tm S5 N ⟨i, q, hi, rfl, hq40, hq, hT5, hN5', hn5, hG5, t2, t3, t4, t9, t13, t14⟩
   have hN5 := hN5'
   simp only [aL] at hN5
   by_cases hit : i < t.nodes[a].kids.length
   case neg =>
    have hie : i = t.nodes[a].kids.length := by omega
    rw [hie, fA, bV] at hq
    simp only [SXa, Nat.reduceEqDiff, b61_19, P61, t9, t14, hN5, aE, bP, aG, aD, aF, dO, bO hit]
    exact stA _ _ q hq.symm hT5 hN5' hn5 hG5 (by simp [aO, t4]) (by simp [aO, t9]) (by simp [aO, t13])
   have wi := cG hit (by omega)
   rw [tE _ _ _ hit] at hq
   cases ck : (t.nodes[a].kids[i] == ((q : Nat) : Int)) with
   | false =>
    rw [ck, aK] at hq
    rw [← hq] at hAns
    have ck2 : (t.nodes[a].kids[i] != ((q : Nat) : Int)) = true := by rw [bne, ck]; rfl
    simp only [SXa, Nat.reduceEqDiff, b61_19, P61, t9, t13, t14, hN5, aE, bP, aG, aD, aF, dO, bL hit, iQ hit, ck2]
    exact ⟨by rw [← hAns]; rfl, hG5⟩
   | true =>
   rw [ck, aH] at hq
   have ck2 : (t.nodes[a].kids[i] != ((q : Nat) : Int)) = false := by rw [bne, ck]; rfl
   have ih := wd3 t nx tx ht ho d (by omega) (pat || (t.nodes[a].kind == 11 && cN ((i : Nat) : Int))) q hq40
   have fin : ∀ (tm : PM AV) (S6 : St), S6.obj S.no = some [nx, tx] → S6.obj S1.no = some (aL t.nodes[a]) → S1.no < S6.no → Grow S S6 aA → getT tm 2 = .sc (.bool pat) → getT tm 3 = .sc (.int .i64 dp) → getT tm 4 = .ptr S.no 0 → getT tm 9 = .ptr S1.no 0 → getT tm 106 = .sc (.int .i64 (pF (fW t.nodes t.types d (pat || (t.nodes[a].kind == 11 && cN ((i : Nat) : Int))) q))) → getT tm 14 = .sc (.int .i64 ((i : Nat) : Int)) → True := fun _ _ _ _ _ _ _ _ _ _ _ _ => trivial
   generalize hp : (pat || (t.nodes[a].kind == 11 && cN ((i : Nat) : Int))) = p at hq ih
   have harm : (((i : Nat) : Int).tmod 2 == 1) = cN ((i : Nat) : Int) := rfl
   have hpick : ∀ b, p = b → True := fun _ _ => trivial
   cases hw2 : fW t.nodes t.types d p q with
   | none =>
    rw [hw2] at hq ih
    rw [← hq] at hAns
    cases cp : pat with
    | true =>
     rw [cp, cA] at hp
     subst hp
     rw [cp] at t2
     simp only [SXa, Nat.reduceEqDiff, Nat.reduceAdd, b61_19, P61, t2, t3, t4, t9, t13, t14, hT5, hN5, aE, bP, aG, aD, aF, aB, dO, bL hit, iQ hit, ck2, wd]
     refine aT ih hG5 (fun S6 g6 hG6 => ?_)
     simp only [SXa, Nat.reduceEqDiff, Int.reduceLT, pF]
     exact ⟨by rw [← hAns]; rfl, hG6⟩
    | false =>
     rw [cp, gU] at hp
     rw [cp] at t2
     cases c11 : (t.nodes[a].kind == 11) with
     | false =>
      rw [c11, bK] at hp
      subst hp
      simp only [SXa, Nat.reduceEqDiff, Nat.reduceAdd, b61_19, P61, t2, t3, t4, t9, t13, t14, hT5, hN5, aE, bP, aG, aD, aM, aF, aB, dO, bL hit, iQ hit, ck2, wd, c11]
      refine aT ih hG5 (fun S6 g6 hG6 => ?_)
      simp only [SXa, Nat.reduceEqDiff, Int.reduceLT, pF]
      exact ⟨by rw [← hAns]; rfl, hG6⟩
     | true =>
      rw [c11, cI] at hp
      subst hp
      simp only [SXa, Nat.reduceEqDiff, Nat.reduceAdd, b61_19, P61, t2, t3, t4, t9, t13, t14, hT5, hN5, aE, bP, aG, aD, aM, aF, aB, dO, bL hit, iQ hit, ck2, wd, c11, hrem, harm]
      refine aT ih hG5 (fun S6 g6 hG6 => ?_)
      simp only [SXa, Nat.reduceEqDiff, Int.reduceLT, pF]
      exact ⟨by rw [← hAns]; rfl, hG6⟩
   | some q1 =>
    rw [hw2] at hq ih
    have hbq := cT _ _ _ _ _ _ (tB _ _ _ _ _ _ hw2)
    have hln := ho.ln
    have dz : decide (((q1 : Nat) : Int) < 0) = false := wp0 (by omega)
    cases cp : pat with
    | true =>
     rw [cp, cA] at hp
     subst hp
     have t2' := t2
     rw [cp] at t2
     simp only [SXa, Nat.reduceEqDiff, Nat.reduceAdd, b61_19, P61, t2, t3, t4, t9, t13, t14, hT5, hN5, aE, bP, aG, aD, aF, aB, dO, bL hit, iQ hit, ck2, wd]
     refine aT ih hG5 (fun S6 g6 hG6 => ?_)
     simp only [SXa, Nat.reduceEqDiff, pF, dz, t14, wi]
     exact ⟨t.nodes[a].kids.length - (i + 1), by omega, i + 1, q1, by omega, rfl, by omega, by rw [cp] at hq; exact hq, g6.objs hT5 (by omega), g6.objs hN5' hn5, aU hn5 g6.no, hG6, by simp [t2, t3, t4, t9]⟩
    | false =>
     rw [cp, gU] at hp
     rw [cp] at t2
     cases c11 : (t.nodes[a].kind == 11) with
     | false =>
      rw [c11, bK] at hp
      subst hp
      simp only [SXa, Nat.reduceEqDiff, Nat.reduceAdd, b61_19, P61, t2, t3, t4, t9, t13, t14, hT5, hN5, aE, bP, aG, aD, aM, aF, aB, dO, bL hit, iQ hit, ck2, wd, c11]
      refine aT ih hG5 (fun S6 g6 hG6 => ?_)
      simp only [SXa, Nat.reduceEqDiff, pF, dz, t14, wi]
      exact ⟨t.nodes[a].kids.length - (i + 1), by omega, i + 1, q1, by omega, rfl, by omega, by rw [cp, c11] at hq; exact hq, g6.objs hT5 (by omega), g6.objs hN5' hn5, aU hn5 g6.no, hG6, by simp [t2, t3, t4, t9]⟩
     | true =>
      rw [c11, cI] at hp
      subst hp
      simp only [SXa, Nat.reduceEqDiff, Nat.reduceAdd, b61_19, P61, t2, t3, t4, t9, t13, t14, hT5, hN5, aE, bP, aG, aD, aM, aF, aB, dO, bL hit, iQ hit, ck2, wd, c11, hrem, harm]
      refine aT ih hG5 (fun S6 g6 hG6 => ?_)
      simp only [SXa, Nat.reduceEqDiff, pF, dz, t14, wi]
      exact ⟨t.nodes[a].kids.length - (i + 1), by omega, i + 1, q1, by omega, rfl, by omega, by rw [cp, c11] at hq; exact hq, g6.objs hT5 (by omega), g6.objs hN5' hn5, aU hn5 g6.no, hG6, by simp [t2, t3, t4, t9]⟩
  rw [hTK] at stK
  have hN2' := hN2
  simp only [aL] at hN2
  simp only [SXa, reduceCtorEq, Nat.reduceEqDiff, P61, hN2', aD, aB, lU, lT]
  refine aT (wz6 t.nodes[a] (by omega) (by omega) (by omega)) hb2 (fun S3 g3 hG3 => ?_)
  have hT3 := g3.objs hT2 (by omega)
  have hN3' := g3.objs hN2' hn2
  have hn3 := aU hn2 g3.no
  have hN3 := hN3'
  simp only [aL] at hN3
  have hsh := wq2 t.types t.nodes[a]
  cases cs : kL t.nodes[a] with
  | false =>
   rw [cs, bK] at hsh
   rw [hsh, kC, cR, aH] at hAns
   simp only [SXa, reduceCtorEq, Nat.reduceEqDiff]
   exact ⟨by rw [← hAns]; rfl, hG3⟩
  | true =>
  rw [cs, cI] at hsh
  have hk20 := kind20 cs
  cases cp : (gM t.nodes[a].kind != pat) with
  | true =>
   rw [cp, cA, aH] at hAns
   simp only [SXa, reduceCtorEq, Nat.reduceEqDiff, P61, hN3, aE, bP, aG, aD, aM, hk20, yY 4 jb2, cp]
   exact ⟨by rw [← hAns]; rfl, hG3⟩
  | false =>
  rw [cp, gU] at hAns
  simp only [SXa, reduceCtorEq, Nat.reduceEqDiff, P61, hN3, aE, bP, aG, aD, aM, hk20, yY 4 jb2, cp]
  cases hcons : (t.nodes[a].kind == 5 || t.nodes[a].kind == 26) with
  | false =>
   have c5 : (t.nodes[a].kind == 5) = false := (Bool.or_eq_false_iff.1 hcons).1
   have c26 : (t.nodes[a].kind == 26) = false := (Bool.or_eq_false_iff.1 hcons).2
   rw [bne, bne, c5, c26] at hsh
   simp only [SXa, reduceCtorEq, Nat.reduceEqDiff, P61, hN3, aE, bP, aG, aD, aM, c5, c26]
   exact stK _ _ hsh cp hT3 hN3' hn3 hG3 (by simp [aO]) (by simp [aO]) (by simp [aO]) (by simp [aO]) (by simp [aO])
  | true =>
  have hsh2 : eT t.types t.nodes[a] = (match ofF t.nodes[a].name t.types 0 with | some (d, c) => (((mV t.types d c : Nat) : Int) == (t.nodes[a].kids.length : Int)) | none => false) := by
   have e : (t.nodes[a].kind != 5 && t.nodes[a].kind != 26) = false := by
    rw [bne, bne]; revert hcons
    cases (t.nodes[a].kind == 5) <;> cases (t.nodes[a].kind == 26) <;> simp
   rw [hsh, e]; rfl
  have go : ∀ (tm : PM AV), getT tm 1 = .sc (.int .i64 (a : Nat)) → getT tm 2 = .sc (.bool pat) → getT tm 3 = .sc (.int .i64 dp) → getT tm 4 = .ptr S.no 0 → getT tm 9 = .ptr S1.no 0 → aV E 128 [.c (.seq (.reg r61_7) (.seq (.regD 19 r61_8) (.cond (.tmp 74) (.seq (.reg r61_9) .ret) .skip))), .c TK] .nrm tm S3 (kB E [.tmp 8] fun v S' => v = .sc (.int .i64 R) ∧ Grow S S' aA) := fun tm t1 t2 t3 t4 t9 => by
   simp only [SXa, Nat.reduceEqDiff, Nat.reduceAdd, P61, t4, t9, hT3, hN3, aE, bP, aG, aD, aF, aB]
   refine aT (ki6 t nx tx ht t.nodes[a].name) hG3 (fun S5 g5 hG5 => ?_)
   have hT5 := g5.objs hT3 (by omega)
   have hN5' := g5.objs hN3' hn3
   have hn5 := aU hn3 g5.no
   have hN5 := hN5'
   simp only [aL] at hN5
   have gr := Grow.raise hG5.fresh 19 aA
   cases hof : ofF t.nodes[a].name t.types 0 with
   | none =>
    rw [hof] at hsh2
    have hsh2 : eT t.types t.nodes[a] = false := hsh2
    rw [hsh2, kC, aH] at hAns
    simp only [SXa, Nat.reduceEqDiff, ofA]
    exact ⟨by rw [← hAns]; rfl, hG5.two gr⟩
   | some dc =>
    obtain ⟨d0, c0⟩ := dc
    rw [hof] at hsh2
    obtain ⟨_, hd0, hc0⟩ := uS _ _ _ _ _ hof
    simp only [Nat.sub_zero] at hd0 hc0
    obtain ⟨cv, hcv, hix⟩ := ht.types.at hd0
    have ea : mV t.types d0 c0 = t.types[d0].cons[c0].args.length := by
     simp only [mV, cX hd0, aD, cX hc0, iH, Option.getD_some]
    have hsh2 : eT t.types t.nodes[a] = (((t.types[d0].cons[c0].args.length : Nat) : Int) == (t.nodes[a].kids.length : Int)) := by rw [hsh2, ← ea]
    cases ce : (((t.types[d0].cons[c0].args.length : Nat) : Int) == (t.nodes[a].kids.length : Int)) with
    | false =>
     have ce2 : (((t.types[d0].cons[c0].args.length : Nat) : Int) != (t.nodes[a].kids.length : Int)) = true := by rw [bne, ce]; rfl
     rw [hsh2, ce, kC, aH] at hAns
     simp only [SXa, Nat.reduceEqDiff, P61, ofA, t4, t9, eG, hT5, hN5, aE, bP, dA, iR, pW, aG, dN, aD, aF, hix, sR hcv hc0, cH, mD, dO, ce2]
     exact ⟨by rw [← hAns]; rfl, hG5.two gr⟩
    | true =>
     have ce2 : (((t.types[d0].cons[c0].args.length : Nat) : Int) != (t.nodes[a].kids.length : Int)) = false := by rw [bne, ce]; rfl
     simp only [SXa, Nat.reduceEqDiff, P61, ofA, t4, t9, eG, hT5, hN5, aE, bP, dA, iR, pW, aG, dN, aD, aF, hix, sR hcv hc0, cH, mD, dO, ce2]
     exact stK _ _ (by rw [hsh2, ce]) cp hT5 hN5' (by rw [yK]; omega) (hG5.two gr) (by simp [aO, t1]) (by simp [aO, t2]) (by simp [aO, t3]) (by simp [aO, t4]) (by simp [aO, t9])
  rw [hT7] at go
  cases c5 : (t.nodes[a].kind == 5) with
  | true =>
   simp only [SXa, reduceCtorEq, Nat.reduceEqDiff]
   exact go _ (by simp [aO]) (by simp [aO]) (by simp [aO]) (by simp [aO]) (by simp [aO])
  | false =>
   have c26 : (t.nodes[a].kind == 26) = true := by rw [c5, gU] at hcons; exact hcons
   simp only [SXa, reduceCtorEq, Nat.reduceEqDiff, P61, hN3, aE, bP, aG, aD, aM, c26]
   exact go _ (by simp [aO]) (by simp [aO]) (by simp [aO]) (by simp [aO]) (by simp [aO])
theorem uG (t : TreeV) (nx tx : AV) (ht : RIs nx tx t) (ho : FewOk t) (hl : t.types.length ≤ 100) : Ans E 23 [.agg [nx, tx]] (.sc (.bool (fJ t))) := bU fun S hS => by
 rw [← ky6]
 have hln := ho.ln
 refine ev23 rfl ?_
 have hG := (Grow.refl hS aA).born 52 [nx, tx]
 have hT : (S.born 52 [nx, tx]).obj S.no = some [nx, tx] := by simp [bE]
 have hn : S.no < (S.born 52 [nx, tx]).no := bJ _
 simp only [SXa, Nat.reduceAdd, P23, dT, dZ]
 generalize S.born 52 [nx, tx] = S0 at hG hT hn
 refine kK noX jf9 ?_
 have gr := Grow.raise hG.fresh 23 aA
 have hG1 := hG.two gr
 have hT1 : (S0.raise 23).obj S.no = some [nx, tx] := hT
 have hn1 : S.no < (S0.raise 23).no := by rw [yK]; omega
 simp only [SXa, reduceCtorEq, Nat.reduceEqDiff, P23, hT1, aE, dA, aG, aD, aM, eY ht.nodes]
 have d2 : decide (((t.nodes.length : Nat) : Int) ≤ 1000) = true := wQ (by omega)
 have d2' : decide (t.nodes.length ≤ 1000) = true := wQ (by omega)
 cases c1 : decide ((1 : Int) ≤ ((t.nodes.length : Nat) : Int)) with
 | false =>
  have c1' : decide (1 ≤ t.nodes.length) = false := by simp only [dP] at c1 ⊢; omega
  simp only [SXa, reduceCtorEq, Nat.reduceEqDiff, gF, gG, sY, bY]
  exact ⟨by rw [uQ, c1']; rfl, hG1⟩
 | true =>
 have c1' : decide (1 ≤ t.nodes.length) = true := by simp only [bZ] at c1 ⊢; omega
 simp only [SXa, reduceCtorEq, Nat.reduceEqDiff, Nat.reduceAdd, P23, hT1, aE, dA, aG, aD, aM, aF, aB, eY ht.nodes, d2]
 refine aT (wz4 t.types nx tx ht.types hl ho.lc) hG1 (fun S2 g2 hG2 => ?_)
 have hT2 := g2.objs hT1 hn1
 have hn2 := aU hn1 g2.no
 cases c3 : iM t.types with
 | false =>
  simp only [SXa, reduceCtorEq, Nat.reduceEqDiff, gF, gG, sY, bY]
  exact ⟨by rw [uQ, c3, dY]; rfl, hG2⟩
 | true =>
 simp only [SXa, reduceCtorEq, Nat.reduceEqDiff, Nat.reduceAdd, P23, hT2, aE, aD, aF, aB]
 refine aT (wd3 t nx tx ht ho 60 (aB _) false 0 (by omega)) hG2 (fun S3 g3 hG3 => ?_)
 have hT3 := g3.objs hT2 hn2
 have e : uQ t = (pF (fW t.nodes t.types 60 false 0) == ((t.nodes.length : Nat) : Int)) := by
  rw [uQ, c1', d2', c3]
  cases fW t.nodes t.types 60 false 0 with
  | none =>
   have : ((-1 : Int) == ((t.nodes.length : Nat) : Int)) = false := by rw [nE]; omega
   simp only [pF, this]; rfl
  | some z => rfl
 simp only [SXa, reduceCtorEq, Nat.reduceEqDiff, P23, hT3, aE, dA, aG, aD, aM, eY ht.nodes, gF, gG, ki1 ht.nodes, lE hn (gr.two (g2.two g3)), bY]
 exact ⟨by rw [e], hG3⟩
end Go.Proofs.YthjaoinieikjdaaGreatDoor
