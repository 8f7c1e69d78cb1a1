/-
  The document's own trees: the walks (where a constructor is declared, the types).
-/
import Derived.Test.YthjaoinieikjdaaGreatDoorUBK
import Derived.Test.YthjaoinieikjdaaGreatDoorUBL
set_option maxHeartbeats 64000000
set_option linter.unusedSimpArgs false
set_option linter.unusedVariables false
set_option maxRecDepth 100000
namespace Go.Proofs.YthjaoinieikjdaaGreatDoor
open Go.Abs
def TypesIs (tx : AV) (ds : List DeclV) : Prop := ∃ cvs : List AV, cvs.length = ds.length ∧ IsV 2 tx (List.zipWith (fun d c => AV.agg [.sc (.string d.name), c]) ds cvs) ∧ ∀ i (h1 : i < ds.length) (h2 : i < cvs.length), IsV 2 cvs[i] (gT ds[i].cons)
theorem TypesIs.len {tx : AV} {ds : List DeclV} (h : TypesIs tx ds) (S : St) : iF tx S = some (.sc (.int .i64 (ds.length : Nat)), S) := by
 obtain ⟨cvs, e, h, _⟩ := h
 rw [h.len]; simp [e]
theorem TypesIs.at {tx : AV} {ds : List DeclV} (h : TypesIs tx ds) {k : Nat} (hk : k < ds.length) : ∃ c, IsV 2 c (gT ds[k].cons) ∧ ∀ S, bT 2 tx (some (k : Int)) S = some (.eptr [.sc (.string ds[k].name), c] 0, S) := by
 obtain ⟨cvs, e, h, hc⟩ := h
 have hk2 : k < cvs.length := by omega
 exact ⟨cvs[k], hc k hk hk2, fun S => h.idx (v := .agg [.sc (.string ds[k].name), cvs[k]]) (by rw [List.getElem?_zipWith, cX hk, cX hk2]) rfl S⟩
theorem qJ {c : AV} {l : List ConV} (h : IsV 2 c (gT l)) (S : St) : iF c S = some (.sc (.int .i64 (l.length : Nat)), S) := by rw [h.len, yd2]
theorem sR {c : AV} {l : List ConV} (h : IsV 2 c (gT l)) {k : Nat} (hk : k < l.length) (S : St) : bT 2 c (some (k : Int)) S = some (.eptr (cH l[k]) 0, S) := h.idx (v := .agg (cH l[k])) (by simp [gT, hk]) rfl S
theorem stRD {c : AV} {xs : List AV} (h : IsV 2 c xs) (l : Nat) (nm : ByteArray) (S : St) : gZ 2 (.ptr l 0) (.agg [.sc (.string nm), c]) S = (S.obj l).bind fun cs => if 2 ≤ cs.length then some (dB, S.put l (.cells (.sc (.string nm) :: c :: cs.drop 2))) else none :=
 qV 2 l _ (by rcases h with ⟨rfl, _⟩ | ⟨i, rfl⟩ <;> rfl)
structure RIs (nx tx : AV) (t : TreeV) : Prop where
 nodes : IsV 7 nx (jW t.nodes)
 types : TypesIs tx t.types
 ln : t.nodes.length ≤ 2 ^ 40
 lt : t.types.length ≤ 1000
 lk : ∀ x ∈ t.nodes, x.kids.length ≤ 2 ^ 40
 lc : ∀ d ∈ t.types, d.cons.length ≤ 2 ^ 40
theorem ki6 (t : TreeV) (nx tx : AV) (ht : RIs nx tx t) (name : ByteArray) : Ans E 21 [.agg [nx, tx], .sc (.string name)] (ofA (ofF name t.types 0)) := bU fun S hS => by
 refine ev21 rfl ?_
 have hG := (Grow.refl hS aA).born 52 [nx, tx]
 have h0 : (S.born 52 [nx, tx]).obj S.no = some [nx, tx] := by simp [bE]
 simp only [SXa, reduceCtorEq, Nat.reduceAdd, P21, dT, dZ]
 generalize S.born 52 [nx, tx] = S0 at hG h0
 have hlt' := ht.lt
 refine bX (fun tm S' N => S' = S0 ∧ ∃ k : Nat, k ≤ t.types.length ∧ N = t.types.length - k ∧ ofF name (t.types.drop k) k = ofF name t.types 0 ∧ getT tm 1 = .sc (.string name) ∧ getT tm 2 = .ptr S.no 0 ∧ getT tm 4 = .sc (.int .i64 0) ∧ getT tm 5 = .sc (.int .i64 0) ∧ getT tm 6 = .sc (.bool false) ∧ getT tm 7 = .sc (.int .i64 (k : Int))) t.types.length ⟨rfl, 0, by omega, by omega, by rw [cJ], by simp [aO]⟩ ?_
 rintro tm S1 N ⟨rfl, k, hk, rfl, hr, t1, t2, t4, t5, t6, t7⟩
 by_cases hlt : k < t.types.length
 · have wk := cG hlt (by omega)
   have hlc := ht.lc _ (fE hlt)
   obtain ⟨c, hc, hix⟩ := ht.types.at hlt
   rw [ws9 name hlt] at hr
   simp only [SXa, Nat.reduceEqDiff, b21_10, P21, t2, t7, aE, h0, dA, aG, aD, aF, ht.types.len, bL hlt]
   refine bX (fun tm S' N => S' = S1 ∧ ∃ j : Nat, j ≤ t.types[k].cons.length ∧ N = t.types[k].cons.length - j ∧ mG name (t.types[k].cons.drop j) j = mG name t.types[k].cons 0 ∧ getT tm 1 = .sc (.string name) ∧ getT tm 2 = .ptr S.no 0 ∧ getT tm 4 = .sc (.int .i64 0) ∧ getT tm 5 = .sc (.int .i64 0) ∧ getT tm 6 = .sc (.bool false) ∧ getT tm 7 = .sc (.int .i64 (k : Int)) ∧ getT tm 8 = .sc (.int .i64 (j : Int))) t.types[k].cons.length ⟨rfl, 0, by omega, by omega, by rw [cJ], by simp [aO, t1, t2, t4, t5, t6, t7]⟩ ?_
   rintro tm S2 N ⟨rfl, j, hj, rfl, hq, t1, t2, t4, t5, t6, t7, t8⟩
   by_cases hjt : j < t.types[k].cons.length
   · have wj := cG hjt (by omega)
     rw [xv9 name hjt] at hq
     simp only [SXa, Nat.reduceEqDiff, b21_8, P21, t1, t2, t7, t8, aE, h0, dA, iR, pW, aG, dN, aD, aF, aM, hix, qJ hc, bL hjt, sR hc hjt, cH]
     cases hb : (t.types[k].cons[j].name.toList == name.toList) with
     | true =>
      rw [hb, aH] at hq
      rw [← hq] at hr
      simp only [SXa, Nat.reduceEqDiff, t7, t8]
      exact ⟨by rw [← hr]; rfl, hG⟩
     | false =>
      rw [hb, aK] at hq
      simp only [SXa, Nat.reduceEqDiff, t1, t2, t7, t8, wj]
      exact ⟨t.types[k].cons.length - (j + 1), by omega, j + 1, by omega, rfl, hq, by simp [t4, t5, t6]⟩
   · have hje : j = t.types[k].cons.length := by omega
     rw [hje, fA, mG] at hq
     rw [← hq] at hr
     simp only [SXa, reduceCtorEq, Nat.reduceEqDiff, b21_8, P21, t1, t2, t7, t8, aE, h0, dA, iR, aG, dN, aD, aF, hix, qJ hc, bO hjt, wk]
     exact ⟨t.types.length - (k + 1), by omega, k + 1, by omega, rfl, hr, by simp [t4, t5, t6]⟩
 · have hke : k = t.types.length := by omega
   rw [hke, fA, ofF] at hr
   simp only [SXa, Nat.reduceEqDiff, b21_10, P21, t2, t4, t5, t6, t7, aE, h0, dA, aG, aD, aF, ht.types.len, bO hlt]
   exact ⟨by rw [← hr]; rfl, hG⟩
theorem kv4 {tm : PM AV} {S : St} {d : Option Tmp} : opV E tm d (.alloc 72) S = some (.ptr S.no 0, S.born 72 [.sc (.string ⟨#[]⟩), .sc (.slice none 0 0)]) := oA (by kernel_rfl)
def tN : List ByteArray := [(⟨#[105, 110, 116]⟩ : ByteArray), (⟨#[98, 111, 111, 108]⟩ : ByteArray), (⟨#[117, 110, 105, 116]⟩ : ByteArray)]
theorem bsl3 (S : St) : gE E 31 3 [(0, .sc (.string (⟨#[105, 110, 116]⟩ : ByteArray))), (1, .sc (.string (⟨#[98, 111, 111, 108]⟩ : ByteArray))), (2, .sc (.string (⟨#[117, 110, 105, 116]⟩ : ByteArray)))] S = some (.vec 1 1 (aN tN), S) := by kernel_rfl
theorem kz5 (l : List ByteArray) (s : ByteArray) : fD (l ++ tN) s = !lY l s := by
 simp only [fD, lY, oG, tN, List.any_append, nU, List.any_nil, fU, Bool.not_not]
 rw [Bool.or_comm]
 simp only [Bool.or_assoc]
theorem kv0 {ds : List DeclV} {i : Nat} (hi : i < ds.length) : jH (ds.drop i) = (ds[i].cons.flatMap fun c => c.args) ++ jH (ds.drop (i + 1)) := by
 simp only [jH, dJ hi, jN]
theorem kq5 {cs : List ConV} {j : Nat} (hj : j < cs.length) : ((cs.drop j).flatMap fun c => c.args) = cs[j].args ++ (cs.drop (j + 1)).flatMap fun c => c.args := by
 simp only [dJ hj, jN]
theorem idxA {c : ConV} {k : Nat} (hk : k < c.args.length) (S : St) : bT 1 (kV c) (some (k : Int)) S = some (.eptr [.sc (.string c.args[k])] 0, S) := iY (isAr c) hk S
theorem wz4 (ds : List DeclV) (nx tx : AV) (ht : TypesIs tx ds) (hl : ds.length ≤ 100) (hc : ∀ d ∈ ds, tW d) : Ans E 60 [.agg [nx, tx]] (.sc (.bool (iM ds))) := bU fun S hS => by
 refine ev60 rfl ?_
 have hG := (Grow.refl hS aA).born 52 [nx, tx]
 have h0 : (S.born 52 [nx, tx]).obj S.no = some [nx, tx] := by simp [bE]
 have hn : S.no < (S.born 52 [nx, tx]).no := bJ _
 unfold p60
 generalize hTl : (PC.seq (.seq (.reg r60_17) (.cond (.tmp 105) (.seq (.reg r60_18) .ret) .skip)) (.seq (.reg r60_19) (.seq (.seq (.reg r60_20) (.block 4 (.loop b60_34))) (.seq (.reg r60_35) .ret)))) = Tl
 simp only [SXa, Nat.reduceAdd, dT, dZ]
 generalize S.born 52 [nx, tx] = S1 at hG h0 hn
 refine bX (fun tm S' N => ∃ (k : Nat) (X1 X2 : AV) (w1 w2 : List ByteArray), k ≤ ds.length ∧ N = ds.length - k ∧ (ds.drop k).all okD = ds.all okD ∧ w1 ++ cL (ds.drop k) = cL ds ∧ w2 ++ gA (ds.drop k) = gA ds ∧ w1.length ≤ k ∧ w2.length ≤ 20 * k ∧
  OwnV S' 9 1 X1 (aN w1) ∧ OwnV S' 9 1 X2 (aN w2) ∧ cY S X1 ∧ cY S X2 ∧ Apart X1 X2 ∧ S'.obj S.no = some [nx, tx] ∧ Grow S S' aA ∧ S.no < S'.no ∧
  getT tm 1 = .ptr S.no 0 ∧ getT tm 3 = X1 ∧ getT tm 4 = X2 ∧ getT tm 5 = .sc (.int .i64 (k : Int))) ds.length
  ⟨0, aA, aA, [], [], by omega, by omega, by rw [cJ], rfl, rfl, by simp, by simp, OwnV.nil' _ _ _, OwnV.nil' _ _ _, .inl rfl, .inl rfl, Apart.nil _, h0, hG, hn, by simp [aO]⟩ ?_
 rintro tm S2 N ⟨k, X1, X2, w1, w2, hk, rfl, hall, hw1, hw2, hl1, hl2, hX1, hX2, hN1, hN2, a12, ho, hG2, hn2, t1, t3, t4, t5⟩
 by_cases hlt : k < ds.length
 case neg =>
  have hke : k = ds.length := by omega
  subst hke
  rw [fA] at hall hw1 hw2
  simp only [cL, gA, jQ, List.flatMap_nil, dK] at hw1 hw2
  have hw1 : w1 = cL ds := hw1
  have hw2 : w2 = gA ds := hw2
  subst hw1; subst hw2
  have hd : iM ds = (decide (ds.length ≤ 20) && !eA [] (cL ds) && !eA [] (gA ds) && !(jH ds).any (lY (cL ds))) := by
   unfold iM; rw [← hall]; rfl
  have hbad : ∀ b, (decide (ds.length ≤ 20) && !eA [] (cL ds) && !eA [] (gA ds)) = b → b = false → iM ds = false := fun b h1 h2 => by rw [hd, h1, h2]; rfl
  simp only [SXa, Nat.reduceEqDiff, b60_16, P60, t1, ho, aE, dA, aG, aD, aF, ht.len, t5, bO hlt]
  subst hTl
  simp only [SXa, Nat.reduceEqDiff, P60, t1, ho, aE, dA, aG, aD, aF, ht.len]
  cases c1 : decide ((20 : Int) < (ds.length : Int)) with
  | true =>
   have c2 : decide (ds.length ≤ 20) = false := by simp only [dP, bZ] at c1 ⊢; omega
   simp only [SXa, Nat.reduceEqDiff]
   exact ⟨by rw [hbad _ rfl (by rw [c2]; rfl)], hG2⟩
  | false =>
  have c2 : decide (ds.length ≤ 20) = true := by simp only [bZ, dP] at c1 ⊢; omega
  simp only [SXa, Nat.reduceEqDiff, P60, t3]
  refine aT (yz8 (cL ds) X1 hX1.is (by omega)) hG2 (fun S4 g4 hG4 => ?_)
  cases c3 : eA [] (cL ds) with
  | true =>
   simp only [SXa, Nat.reduceEqDiff]
   exact ⟨by rw [hbad _ rfl (by rw [c3]; simp)], hG4⟩
  | false =>
  simp only [SXa, Nat.reduceEqDiff, P60, t4]
  refine aT (yz8 (gA ds) X2 hX2.is (by omega)) hG4 (fun S5 g5 hG5 => ?_)
  cases c4 : eA [] (gA ds) with
  | true =>
   simp only [SXa, Nat.reduceEqDiff]
   exact ⟨by rw [hbad _ rfl (by rw [c4]; simp)], hG5⟩
  | false =>
  have hd2 : iM ds = !(jH ds).any (lY (cL ds)) := by rw [hd, c2, c3, c4]; simp
  rw [hd2]
  have g25 := g4.two g5
  have ho5 := g25.objs ho hn2
  obtain ⟨Z, S6, ap, hZ, hNZ, hG6, no6, ob6, g6⟩ := mO (hX1.keep g25) hN1 hG5 (ys := tN) (IsV.vec 1 1 _) (by simp only [tN, aY, bH]; omega)
  have ho6 : S6.obj S.no = some [nx, tx] := by rw [ob6]; exact ho5
  simp only [SXa, Nat.reduceEqDiff, Nat.reduceBEq, P60, t3, bsl3, ap]
  refine bX (fun tm S' N => ∃ k : Nat, k ≤ ds.length ∧ N = ds.length - k ∧ (jH (ds.drop k)).any (lY (cL ds)) = (jH ds).any (lY (cL ds)) ∧ S'.obj S.no = some [nx, tx] ∧ Grow S S' aA ∧ S.no < S'.no ∧ getT tm 1 = .ptr S.no 0 ∧ getT tm 3 = Z ∧ getT tm 8 = .sc (.int .i64 (k : Int))) ds.length
   ⟨0, by omega, by omega, by rw [cJ], ho6, hG6, by have := g25.no; omega, by simp [aO, t1]⟩ ?_
  clear hlt hk t1 t3 t4 t5
  rintro tm S7 N ⟨k, hk, rfl, hr, ho7, hG7, hn7, t1, t3, t8⟩
  by_cases hlt : k < ds.length
  case neg =>
   have hke : k = ds.length := by omega
   rw [hke, fA] at hr
   simp only [SXa, Nat.reduceEqDiff, b60_34, P60, t1, t8, ho7, aE, dA, aG, aD, aF, ht.len, bO hlt]
   exact ⟨by rw [← hr]; rfl, hG7⟩
  have wk := cG hlt (by omega)
  have hcd := hc _ (fE hlt)
  obtain ⟨hcl, _, hca⟩ := hcd
  obtain ⟨c, hcv, hix⟩ := ht.at hlt
  rw [kv0 hlt, List.any_append] at hr
  simp only [SXa, Nat.reduceEqDiff, b60_34, P60, t1, t8, ho7, aE, dA, aG, aD, aF, ht.len, bL hlt]
  refine bX (fun tm S' N => ∃ j : Nat, j ≤ ds[k].cons.length ∧ N = ds[k].cons.length - j ∧ ((ds[k].cons.drop j).flatMap fun c => c.args).any (lY (cL ds)) = (ds[k].cons.flatMap fun c => c.args).any (lY (cL ds)) ∧ S'.obj S.no = some [nx, tx] ∧ Grow S S' aA ∧ S.no < S'.no ∧ getT tm 1 = .ptr S.no 0 ∧ getT tm 3 = Z ∧ getT tm 8 = .sc (.int .i64 (k : Int)) ∧ getT tm 9 = .sc (.int .i64 (j : Int))) ds[k].cons.length
   ⟨0, by omega, by omega, by rw [cJ], ho7, hG7, hn7, by simp [aO, t1, t3, t8]⟩ ?_
  rintro tm S8 N ⟨j, hj, rfl, hq, ho8, hG8, hn8, t1, t3, t8, t9⟩
  by_cases hjt : j < ds[k].cons.length
  case neg =>
   have hje : j = ds[k].cons.length := by omega
   rw [hje, fA] at hq
   rw [← hq] at hr
   simp only [SXa, Nat.reduceEqDiff, b60_32, P60, t1, t3, t8, t9, ho8, aE, dA, iR, aG, dN, aD, aF, hix, qJ hcv, bO hjt, wk]
   exact ⟨ds.length - (k + 1), by omega, k + 1, by omega, rfl, by rw [← hr]; rfl, hG8, hn8, by simp []⟩
  have wj := cG hjt (by omega)
  have haj := (hca _ (fE hjt)).2.1
  rw [kq5 hjt, List.any_append] at hq
  simp only [SXa, Nat.reduceEqDiff, b60_32, P60, t1, t8, t9, ho8, aE, dA, iR, pW, aG, dN, aD, aF, hix, qJ hcv, bL hjt, sR hcv hjt, cH]
  refine bX (fun tm S' N => ∃ m : Nat, m ≤ ds[k].cons[j].args.length ∧ N = ds[k].cons[j].args.length - m ∧ (ds[k].cons[j].args.drop m).any (lY (cL ds)) = ds[k].cons[j].args.any (lY (cL ds)) ∧ S'.obj S.no = some [nx, tx] ∧ Grow S S' aA ∧ S.no < S'.no ∧ getT tm 1 = .ptr S.no 0 ∧ getT tm 3 = Z ∧ getT tm 8 = .sc (.int .i64 (k : Int)) ∧ getT tm 9 = .sc (.int .i64 (j : Int)) ∧ getT tm 10 = kV ds[k].cons[j] ∧ getT tm 11 = .sc (.int .i64 (m : Int))) ds[k].cons[j].args.length
   ⟨0, by omega, by omega, by rw [cJ], ho8, hG8, hn8, by simp [aO, t1, t3, t8, t9]⟩ ?_
  rintro tm S9 N ⟨m, hm, rfl, hp, ho9, hG9, hn9, t1, t3, t8, t9, t10, t11⟩
  by_cases hmt : m < ds[k].cons[j].args.length
  case neg =>
   have hme : m = ds[k].cons[j].args.length := by omega
   rw [hme, fA] at hp
   rw [← hp] at hq
   simp only [SXa, Nat.reduceEqDiff, b60_30, P60, t1, t3, t8, t9, t10, t11, mD, bO hmt, wj]
   exact ⟨ds[k].cons.length - (j + 1), by omega, j + 1, by omega, rfl, by rw [← hq]; rfl, ho9, hG9, hn9, by simp []⟩
  have wm := cG hmt (by omega)
  rw [dJ hmt, nU] at hp
  simp only [SXa, Nat.reduceEqDiff, b60_30, P60, t3, t10, t11, mD, bL hmt, idxA hmt]
  refine aT (kj1 (cL ds ++ tN) Z hZ.is (by rw [dL]; simp only [tN, aY, bH]; omega) ds[k].cons[j].args[m]) hG9 (fun Sa ga hGa => ?_)
  rw [kz5]
  cases c6 : lY (cL ds) ds[k].cons[j].args[m] with
  | true =>
   rw [c6, cA] at hp
   rw [← hp, cA] at hq
   rw [← hq, cA] at hr
   simp only [SXa, Nat.reduceEqDiff]
   exact ⟨by rw [← hr]; rfl, hGa⟩
  | false =>
   rw [c6, gU] at hp
   simp only [SXa, Nat.reduceEqDiff, t1, t3, t8, t9, t10, t11, wm]
   exact ⟨ds[k].cons[j].args.length - (m + 1), by omega, m + 1, by omega, rfl, hp, ga.objs ho9 hn9, hGa, aU hn9 ga.no, by simp []⟩
 case pos =>
  have wk := cG hlt (by omega)
  obtain ⟨hcl, hnm, hca⟩ := hc _ (fE hlt)
  obtain ⟨c, hcv, hix⟩ := ht.at hlt
  rw [zG _ hlt] at hall
  have hd0 : okD ds[k] = false → iM ds = false := fun h => by
   unfold iM; rw [← hall, h]; rfl
  have hG3 := (hG2.born 72 [.sc (.string ⟨#[]⟩), .sc (.slice none 0 0)]).put S2.no (.cells [.sc (.string ds[k].name), c]) hG2.no
  have h3 : ((S2.born 72 [.sc (.string ⟨#[]⟩), .sc (.slice none 0 0)]).put S2.no (.cells [.sc (.string ds[k].name), c])).obj S2.no = some [.sc (.string ds[k].name), c] := by simp [aX]
  have hgr : Grow S2 ((S2.born 72 [.sc (.string ⟨#[]⟩), .sc (.slice none 0 0)]).put S2.no (.cells [.sc (.string ds[k].name), c])) aA := ((Grow.refl hG2.fresh aA).born _ _).put S2.no _ (aB _)
  have n3 : S2.no < ((S2.born 72 [.sc (.string ⟨#[]⟩), .sc (.slice none 0 0)]).put S2.no (.cells [.sc (.string ds[k].name), c])).no := bJ _
  simp only [SXa, Nat.reduceEqDiff, Nat.reduceAdd, b60_16, P60, t1, t5, ho, aE, dA, iR, aG, aD, aM, aF, ht.len, bL hlt, hix, kv4, stRD hcv, bE, aB, dM]
  generalize ((S2.born 72 [.sc (.string ⟨#[]⟩), .sc (.slice none 0 0)]).put S2.no (.cells [.sc (.string ds[k].name), c])) = S3 at hG3 h3 hgr n3
  simp only [SXa, Nat.reduceEqDiff, P60, h3, aD]
  refine aT (xx4 _ (by omega)) hG3 (fun S4 g4 hG4 => ?_)
  have h4 := g4.objs h3 n3
  have n4 := aU n3 g4.no
  have hgr4 := hgr.two g4
  cases c1 : gX ds[k].name with
  | false =>
   simp only [SXa, Nat.reduceEqDiff]
   exact ⟨by rw [hd0 (by simp only [okD, c1, bK])], hG4⟩
  | true =>
  simp only [SXa, Nat.reduceEqDiff, P60, h4, aE, iR, aG, aD, aM]
  cases e1 : (ds[k].name.toList == ((⟨#[105, 110, 116]⟩ : ByteArray)).toList) with
  | true =>
   simp only [SXa, Nat.reduceEqDiff]
   exact ⟨by rw [hd0 (by simp only [okD, oG, e1, cA, iC, dY, bK])], hG4⟩
  | false =>
  simp only [SXa, Nat.reduceEqDiff, P60, h4, aE, iR, aG, aD, aM]
  cases e2 : (ds[k].name.toList == ((⟨#[98, 111, 111, 108]⟩ : ByteArray)).toList) with
  | true =>
   simp only [SXa, Nat.reduceEqDiff]
   exact ⟨by rw [hd0 (by simp only [okD, oG, e2, cA, cR, iC, dY, bK])], hG4⟩
  | false =>
  simp only [SXa, Nat.reduceEqDiff, P60, h4, aE, iR, aG, aD, aM]
  cases e3 : (ds[k].name.toList == ((⟨#[117, 110, 105, 116]⟩ : ByteArray)).toList) with
  | true =>
   simp only [SXa, Nat.reduceEqDiff]
   exact ⟨by rw [hd0 (by simp only [okD, oG, e3, cR, iC, dY, bK])], hG4⟩
  | false =>
  have c2 : oG ds[k].name = false := by simp only [oG, e1, e2, e3, dD]
  simp only [SXa, Nat.reduceEqDiff, P60, h4, aE, iR, aG, aD, aF, qJ hcv]
  cases c3 : decide ((ds[k].cons.length : Int) < 1) with
  | true =>
   have c3' : decide (1 ≤ ds[k].cons.length) = false := by simp only [bZ, dP] at c3 ⊢; omega
   simp only [SXa, Nat.reduceEqDiff]
   exact ⟨by rw [hd0 (by simp only [okD, c3', dY, bK])], hG4⟩
  | false =>
  have c4 : decide ((20 : Int) < (ds[k].cons.length : Int)) = false := by simp; omega
  have c3' : decide (1 ≤ ds[k].cons.length) = true := by simp only [bZ, dP] at c3 ⊢; omega
  have c4' : decide (ds[k].cons.length ≤ 20) = true := iI (by omega)
  have hok : okD ds[k] = ds[k].cons.all okC := by simp only [okD, c1, c2, c3', c4', kC, bY, cI]
  rw [hok] at hall
  have hd1 : ds[k].cons.all okC = false → iM ds = false := fun h => hd0 (by rw [hok]; exact h)
  have ho4 : S4.obj S.no = some [nx, tx] := hgr4.objs ho hn2
  have hn4 : S.no < S4.no := aU hn2 hgr4.no
  obtain ⟨Z1, S6, ap6, hZ1, hNZ1, hG6, no6, ob6, hX2', _, aZ2, _⟩ := wF (hX1.keep hgr4) hN1 hG4 (pN ds[k].name) (by simp only [aY, bH]; omega) (hX2.keep hgr4) (hX2.keep hgr4) a12 a12
  have ho6 : S6.obj S.no = some [nx, tx] := by rw [ob6]; exact ho4
  have h6 := ob6 S2.no
  rw [h4] at h6
  have n6 : S.no < S6.no := by omega
  have n62 : S2.no < S6.no := by omega
  simp only [SXa, Nat.reduceEqDiff, Nat.reduceBEq, P60, t3, h4, aE, iR, aG, aD, aM, aF, qJ hcv, c4, kX, ap6]
  have hc0 : gA (ds.drop k) = ds[k].cons.map (fun c => c.name) ++ gA (ds.drop (k + 1)) := by simp only [gA]; rw [dJ hlt, jN]
  have hm0 : cL (ds.drop k) = ds[k].name :: cL (ds.drop (k + 1)) := by simp only [cL]; rw [dJ hlt, cF]
  rw [hc0, ← pT] at hw2
  have hw1' : (w1 ++ [ds[k].name]) ++ cL (ds.drop (k + 1)) = cL ds := by rw [← hw1, hm0]; simp
  refine bX (fun tm S' N => ∃ (j : Nat) (Y2 : AV) (v2 : List ByteArray), j ≤ ds[k].cons.length ∧ N = ds[k].cons.length - j ∧ (ds[k].cons.drop j).all okC = ds[k].cons.all okC ∧ (v2 ++ (ds[k].cons.drop j).map (fun c => c.name)) ++ gA (ds.drop (k + 1)) = gA ds ∧
   v2.length ≤ 20 * k + j ∧ OwnV S' 9 1 Z1 (aN (w1 ++ [ds[k].name])) ∧ OwnV S' 9 1 Y2 (aN v2) ∧ cY S Y2 ∧ Apart Z1 Y2 ∧ S'.obj S.no = some [nx, tx] ∧ S'.obj S2.no = some [.sc (.string ds[k].name), c] ∧ Grow S S' aA ∧ S.no < S'.no ∧ S2.no < S'.no ∧
   getT tm 1 = .ptr S.no 0 ∧ getT tm 3 = Z1 ∧ getT tm 4 = Y2 ∧ getT tm 5 = .sc (.int .i64 (k : Int)) ∧ getT tm 6 = .ptr S2.no 0 ∧ getT tm 7 = .sc (.int .i64 (j : Int))) ds[k].cons.length
   ⟨0, X2, w2, by omega, by omega, by rw [cJ], hw2, by omega, hZ1, hX2', hN2, aZ2, ho6, h6, hG6, n6, n62, by simp [aO, t1, t4, t5]⟩ ?_
  rintro tm S8 N ⟨j, Y2, v2, hj, rfl, hall2, hv2, hm2, hZ8, hY2, hN2, aZ2, ho8, h8, hG8, n8, n82, t1, t3, t4, t5, t6, t7⟩
  by_cases hjt : j < ds[k].cons.length
  case neg =>
   have hje : j = ds[k].cons.length := by omega
   rw [hje, fA] at hall2 hv2
   simp only [jQ, dK] at hv2
   have hall3 : (ds.drop (k + 1)).all okD = ds.all okD := by rw [← hall, ← hall2]; rfl
   simp only [SXa, reduceCtorEq, Nat.reduceEqDiff, b60_14, P60, t1, t3, t4, t5, t6, t7, h8, aE, iR, aG, aD, aF, qJ hcv, bO hjt, wk]
   exact ⟨ds.length - (k + 1), by omega, k + 1, Z1, Y2, w1 ++ [ds[k].name], v2, by omega, rfl, hall3, hw1', hv2, by simp only [dL, aY, bH]; omega, by omega, hZ8, hY2, hNZ1, hN2, aZ2, ho8, hG8, n8, by simp []⟩
  case pos =>
  have wj := cG hjt (by omega)
  obtain ⟨hcn, hcar, _⟩ := hca _ (fE hjt)
  rw [zG _ hjt] at hall2
  have hd2 : okC ds[k].cons[j] = false → iM ds = false := fun h => hd1 (by rw [← hall2, h]; rfl)
  simp only [SXa, Nat.reduceEqDiff, b60_14, P60, t6, t7, h8, aE, iR, pW, aG, dN, aD, aM, aF, qJ hcv, bL hjt, sR hcv hjt, cH]
  refine aT (we0 _ (by omega)) hG8 (fun Sa ga hGa => ?_)
  have ha := ga.objs h8 n82
  cases c5 : lZ ds[k].cons[j].name with
  | false =>
   simp only [SXa, Nat.reduceEqDiff]
   exact ⟨by rw [hd2 (by simp only [okC, c5, bK])], hGa⟩
  | true =>
  simp only [SXa, Nat.reduceEqDiff, P60, t6, t7, ha, aE, iR, pW, aG, dN, aD, aF, sR hcv hjt, cH, mD]
  cases c6 : decide ((3 : Int) < (ds[k].cons[j].args.length : Int)) with
  | true =>
   have c6' : decide (ds[k].cons[j].args.length ≤ 3) = false := by simp only [bZ, dP] at c6 ⊢; omega
   simp only [SXa, Nat.reduceEqDiff]
   exact ⟨by rw [hd2 (by simp only [okC, c6', dY])], hGa⟩
  | false =>
  have c6n : ds[k].cons[j].args.length ≤ 3 := by simp only [dP] at c6; omega
  have hok2 : okC ds[k].cons[j] = true := by simp only [okC, c5, iI c6n, bY]
  obtain ⟨Zb, Sb, apb, hZb, hNb, hGb, nob, obb, hZ1b, _, aZb1, _⟩ := wF (hY2.keep ga) hN2 hGa (pN ds[k].cons[j].name) (by simp only [aY, bH]; omega) (hZ8.keep ga) (hZ8.keep ga) aZ2.symm aZ2.symm
  have hob : Sb.obj S.no = some [nx, tx] := by rw [obb]; exact ga.objs ho8 n8
  have hb : Sb.obj S2.no = some [.sc (.string ds[k].name), c] := by rw [obb]; exact ha
  have nb : S.no < Sb.no := by rw [nob]; exact aU n8 ga.no
  have nb2 : S2.no < Sb.no := by rw [nob]; exact aU n82 ga.no
  simp only [SXa, Nat.reduceEqDiff, Nat.reduceBEq, P60, t1, t3, t4, t5, t6, t7, ha, aE, iR, pW, aG, dN, aD, aM, aF, sR hcv hjt, cH, kX, apb, wj]
  rw [dJ hjt, cF] at hv2
  exact ⟨ds[k].cons.length - (j + 1), by omega, j + 1, Zb, v2 ++ [ds[k].cons[j].name], by omega, rfl, by rw [← hall2, hok2, cI], by rw [← hv2]; simp, by simp only [dL, aY, bH]; omega, hZ1b, hZb, hNb, aZb1.symm, hob, hb, hGb, nb, nb2, by simp []⟩
end Go.Proofs.YthjaoinieikjdaaGreatDoor
