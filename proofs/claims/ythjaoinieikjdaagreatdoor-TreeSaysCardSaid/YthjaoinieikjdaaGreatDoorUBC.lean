/-
  Trees: the walks (is a tree more than is asked of here? where one can stop).
-/
import Derived.Test.YthjaoinieikjdaaGreatDoorUBB
import Derived.Test.YthjaoinieikjdaaGreatDoorUAR
import Derived.Test.YthjaoinieikjdaaGreatDoorUAA
import Derived.Test.YthjaoinieikjdaaGreatDoorProg
import Derived.Shelf.SlMaps.Copy
import Derived.Shelf.Strings.OnBuilder
import Derived.Test.YthjaoinieikjdaaGreatDoorUAV
import Derived.Test.YthjaoinieikjdaaGreatDoorRows
import Derived.Test.YthjaoinieikjdaaGreatDoorUAU
import Derived.Shelf.SlIter.Sorted
import Derived.Shelf.SortM.Plain
import Derived.Shelf.SortM.SortNone
import Derived.Test.YthjaoinieikjdaaGreatDoorUAW
set_option maxHeartbeats 64000000
set_option linter.unusedSimpArgs false
set_option linter.unusedVariables false
set_option maxRecDepth 100000
namespace Go.Proofs.YthjaoinieikjdaaGreatDoor
open Go.Abs
structure RawIs (nx tx : AV) (t : TreeV) : Prop where
 nodes : IsV 7 nx (jW t.nodes)
 types : IsV 2 tx (sH t.types)
theorem RawIs.light {nx tx : AV} {t : TreeV} (h : RawIs nx tx t) (hl : Light t) : TreeIs nx tx t :=
 ⟨h.nodes, h.types, by have := hl.ln; omega, by have := hl.lt; omega, fun x hx => by have := (hl.ln2 x hx).2.2; omega, fun d hd => by have := (hl.lt2 d hd).1; omega⟩
theorem idxS1 {c : ConV} {k : Nat} (hk : k < c.args.length) (S : St) : bT 1 (kV c) (some (k : Int)) S = some (.eptr [.sc (.string c.args[k])] 0, S) := iY (isAr c) hk S
theorem jc2 (t : TreeV) (nx tx : AV) (ht : RawIs nx tx t) (S : St) (hS : S.Fresh) : ∃ r S', EvA E 18 [.agg [nx, tx]] S r S' ∧ (∃ b, r = .sc (.bool b) ∧ (b = false → Light t)) ∧ Grow S S' aA := by
 refine ev18 rfl ?_
 have hG := (Grow.refl hS aA).born 26 [nx, tx]
 have hT : (S.born 26 [nx, tx]).obj S.no = some [nx, tx] := by simp [bE]
 have hn : S.no < (S.born 26 [nx, tx]).no := bJ _
 simp only [SXa, Nat.reduceAdd, P18, dT, dZ]
 generalize S.born 26 [nx, tx] = S0 at hG hT hn
 simp only [SXa, reduceCtorEq, Nat.reduceEqDiff, P18, aE, hT, gS, aG, aD, aM, eY ht.nodes]
 cases c1 : decide ((60 : Int) < (t.nodes.length : Int)) with
 | true =>
  simp only [SXa, reduceCtorEq, Nat.reduceEqDiff]
  exact ⟨⟨true, rfl, fun h => by cases h⟩, hG⟩
 | false =>
 have c1n : t.nodes.length ≤ 60 := by simp only [dP] at c1; omega
 simp only [SXa, reduceCtorEq, Nat.reduceEqDiff, P18, aE, hT, kQ, aG, aD, aF, rM ht.types]
 cases c2 : decide ((4 : Int) < (t.types.length : Int)) with
 | true =>
  simp only [SXa, reduceCtorEq, Nat.reduceEqDiff]
  exact ⟨⟨true, rfl, fun h => by cases h⟩, hG⟩
 | false =>
 have c2n : t.types.length ≤ 4 := by simp only [dP] at c2; omega
 simp only [SXa]
 refine bX (fun tm S' N => ∃ k : Nat, k ≤ t.nodes.length ∧ N = t.nodes.length - k ∧ (∀ j (h : j < t.nodes.length), j < k → t.nodes[j].name.size ≤ 60 ∧ t.nodes[j].param.size ≤ 60 ∧ t.nodes[j].kids.length ≤ 20) ∧ S' = S0 ∧ getT tm 1 = .ptr S.no 0 ∧ getT tm 3 = .sc (.int .i64 (k : Int))) t.nodes.length
  ⟨0, by omega, by omega, fun j _ h => by omega, rfl, by simp [aO]⟩ ?_
 rintro tm S1 N ⟨k, hk, rfl, hP, rfl, t1, t3⟩
 by_cases hlt : k < t.nodes.length
 case pos =>
  have wk := cG hlt (by omega)
  simp only [SXa, Nat.reduceEqDiff, b18_8, P18, t1, t3, aE, hT, gS, bS, aG, dN, aD, aM, aF, eY ht.nodes, bL hlt, iB ht.nodes hlt, aL, eJ, eL]
  cases d1 : decide ((60 : Int) < (t.nodes[k].name.size : Int)) with
  | true =>
   simp only [SXa, Nat.reduceEqDiff]
   exact ⟨⟨true, rfl, fun h => by cases h⟩, hG⟩
  | false =>
  simp only [SXa, Nat.reduceEqDiff, P18, t1, t3, aE, hT, gS, bS, aG, dN, aD, aM, aF, iB ht.nodes hlt, aL, eJ, eL]
  cases d2 : decide ((60 : Int) < (t.nodes[k].param.size : Int)) with
  | true =>
   simp only [SXa, Nat.reduceEqDiff]
   exact ⟨⟨true, rfl, fun h => by cases h⟩, hG⟩
  | false =>
  simp only [SXa, Nat.reduceEqDiff, P18, t1, t3, aE, hT, gS, bS, aG, dN, aD, aM, aF, iB ht.nodes hlt, aL, dO]
  cases d3 : decide ((20 : Int) < (t.nodes[k].kids.length : Int)) with
  | true =>
   simp only [SXa, Nat.reduceEqDiff]
   exact ⟨⟨true, rfl, fun h => by cases h⟩, hG⟩
  | false =>
  simp only [dP] at d1 d2 d3
  simp only [SXa, Nat.reduceEqDiff, t1, t3, wk]
  refine ⟨t.nodes.length - (k + 1), by omega, k + 1, by omega, rfl, fun j hj hjk => ?_, by simp []⟩
  by_cases hje : j < k
  · exact hP j hj hje
  · have : j = k := by omega
    subst this
    exact ⟨by omega, by omega, by omega⟩
 case neg =>
 have hP2 : ∀ x ∈ t.nodes, x.name.size ≤ 60 ∧ x.param.size ≤ 60 ∧ x.kids.length ≤ 20 := fun x hx => by
  obtain ⟨j, hj, rfl⟩ := List.getElem_of_mem hx
  exact hP j hj (by omega)
 simp only [SXa, Nat.reduceEqDiff, b18_8, P18, t1, t3, aE, hT, gS, aG, aD, aM, eY ht.nodes, bO hlt]
 refine bX (fun tm S' N => ∃ k : Nat, k ≤ t.types.length ∧ N = t.types.length - k ∧ (∀ j (h : j < t.types.length), j < k → t.types[j].cons.length ≤ 6 ∧ t.types[j].name.size ≤ 60 ∧ ∀ c ∈ t.types[j].cons, c.name.size ≤ 60 ∧ c.args.length ≤ 4 ∧ ∀ s ∈ c.args, s.size ≤ 60) ∧ S'.obj S.no = some [nx, tx] ∧ Grow S S' aA ∧ S.no < S'.no ∧ getT tm 1 = .ptr S.no 0 ∧ getT tm 4 = .sc (.int .i64 (k : Int))) t.types.length
  ⟨0, by omega, by omega, fun j _ h => by omega, hT, hG, hn, by simp [aO, t1]⟩ ?_
 clear hlt hP t1 t3
 rintro tm S1 N ⟨k, hk, rfl, hP, hT, hG, hn, t1, t4⟩
 by_cases hlt : k < t.types.length
 case neg =>
  simp only [SXa, Nat.reduceEqDiff, b18_27, P18, t1, t4, aE, hT, kQ, aG, aD, aF, rM ht.types, bO hlt]
  exact ⟨⟨false, rfl, fun _ => ⟨c1n, c2n, hP2, fun d hd => by
   obtain ⟨j, hj, rfl⟩ := List.getElem_of_mem hd
   exact hP j hj (by omega)⟩⟩, hG⟩
 case pos =>
 have wk := cG hlt (by omega)
 simp only [SXa, Nat.reduceEqDiff, b18_27, P18, t1, t4, aE, hT, kQ, mW, aG, dN, aD, aF, rM ht.types, bL hlt, nC ht.types hlt, dC, qK]
 cases d1 : decide ((6 : Int) < (t.types[k].cons.length : Int)) with
 | true =>
  simp only [SXa, Nat.reduceEqDiff]
  exact ⟨⟨true, rfl, fun h => by cases h⟩, hG⟩
 | false =>
 have d1n : t.types[k].cons.length ≤ 6 := by simp only [dP] at d1; omega
 simp only [SXa, Nat.reduceEqDiff, P18, t1, t4, aE, hT, kQ, uK, aG, dN, aD, aM, aF, nC ht.types hlt, dC, eJ, eL]
 cases d2 : decide ((60 : Int) < (t.types[k].name.size : Int)) with
 | true =>
  simp only [SXa, Nat.reduceEqDiff]
  exact ⟨⟨true, rfl, fun h => by cases h⟩, hG⟩
 | false =>
 have d2n : t.types[k].name.size ≤ 60 := by simp only [dP] at d2; omega
 simp only [SXa]
 refine bX (fun tm S' N => ∃ i : Nat, i ≤ t.types[k].cons.length ∧ N = t.types[k].cons.length - i ∧ (∀ j (h : j < t.types[k].cons.length), j < i → t.types[k].cons[j].name.size ≤ 60 ∧ t.types[k].cons[j].args.length ≤ 4 ∧ ∀ s ∈ t.types[k].cons[j].args, s.size ≤ 60) ∧ S'.obj S.no = some [nx, tx] ∧ Grow S S' aA ∧ S.no < S'.no ∧ getT tm 1 = .ptr S.no 0 ∧ getT tm 4 = .sc (.int .i64 (k : Int)) ∧ getT tm 5 = .sc (.int .i64 (i : Int))) t.types[k].cons.length
  ⟨0, by omega, by omega, fun j _ h => by omega, hT, hG, hn, by simp [aO, t1, t4]⟩ ?_
 clear t1 t4 hT hG hn
 rintro tm S2 N ⟨i, hi, rfl, hQ, hT, hG, hn, t1, t4, t5⟩
 by_cases hit : i < t.types[k].cons.length
 case neg =>
  simp only [SXa, Nat.reduceEqDiff, b18_25, P18, t1, t4, t5, aE, hT, kQ, mW, aG, dN, aD, aF, nC ht.types hlt, dC, qK, bO hit, wk]
  refine ⟨t.types.length - (k + 1), by omega, k + 1, by omega, rfl, fun j hj hjk => ?_, hG, hn, by simp []⟩
  by_cases hje : j < k
  · exact hP j hj hje
  · have : j = k := by omega
    subst this
    exact ⟨d1n, d2n, fun c hc => by
     obtain ⟨q, hq, rfl⟩ := List.getElem_of_mem hc
     exact hQ q hq (by omega)⟩
 case pos =>
 have wi := cG hit (by omega)
 have hG3 := (hG.born 78 [.sc (.string ⟨#[]⟩), .sc (.slice none 0 0)]).put S2.no (.cells (cH t.types[k].cons[i])) hG.no
 have h3 : ((S2.born 78 [.sc (.string ⟨#[]⟩), .sc (.slice none 0 0)]).put S2.no (.cells (cH t.types[k].cons[i]))).obj S2.no = some (cH t.types[k].cons[i]) := by simp [aX]
 have hT3 : ((S2.born 78 [.sc (.string ⟨#[]⟩), .sc (.slice none 0 0)]).put S2.no (.cells (cH t.types[k].cons[i]))).obj S.no = some [nx, tx] := by
  have : S.no ≠ S2.no := by omega
  simp [aX, bE, this, hT]
 have n3 : S2.no < ((S2.born 78 [.sc (.string ⟨#[]⟩), .sc (.slice none 0 0)]).put S2.no (.cells (cH t.types[k].cons[i]))).no := bJ _
 simp only [cH] at hG3 h3 hT3 n3
 simp only [SXa, Nat.reduceEqDiff, Nat.reduceAdd, b18_25, P18, t1, t4, t5, aE, hT, kQ, mW, aG, dN, aD, aF, nC ht.types hlt, dC, qK, bL hit, rO hit, cH, wx0, stC, bE, aB, dM]
 generalize ((S2.born 78 [.sc (.string ⟨#[]⟩), .sc (.slice none 0 0)]).put S2.no (.cells [.sc (.string t.types[k].cons[i].name), (kV t.types[k].cons[i])])) = S3 at hG3 h3 hT3 n3
 simp only [SXa, Nat.reduceEqDiff, P18, aE, h3, uL, aG, aD, aM, eJ, eL]
 cases d3 : decide ((60 : Int) < (t.types[k].cons[i].name.size : Int)) with
 | true =>
  simp only [SXa, Nat.reduceEqDiff]
  exact ⟨⟨true, rfl, fun h => by cases h⟩, hG3⟩
 | false =>
 simp only [SXa, Nat.reduceEqDiff, P18, aE, h3, oE, aG, aD, aF, mD]
 cases d4 : decide ((4 : Int) < (t.types[k].cons[i].args.length : Int)) with
 | true =>
  simp only [SXa, Nat.reduceEqDiff]
  exact ⟨⟨true, rfl, fun h => by cases h⟩, hG3⟩
 | false =>
 simp only [dP] at d3 d4
 simp only [SXa]
 have n30 : S.no < S3.no := by omega
 refine bX (fun tm S' N => ∃ q : Nat, q ≤ t.types[k].cons[i].args.length ∧ N = t.types[k].cons[i].args.length - q ∧ (∀ j (h : j < t.types[k].cons[i].args.length), j < q → t.types[k].cons[i].args[j].size ≤ 60) ∧ S' = S3 ∧ getT tm 1 = .ptr S.no 0 ∧ getT tm 4 = .sc (.int .i64 (k : Int)) ∧ getT tm 5 = .sc (.int .i64 (i : Int)) ∧ getT tm 6 = .ptr S2.no 0 ∧ getT tm 7 = .sc (.int .i64 (q : Int))) t.types[k].cons[i].args.length
  ⟨0, by omega, by omega, fun j _ h => by omega, rfl, by simp [aO, t1, t4, t5]⟩ ?_
 clear t1 t4 t5
 rintro tm S4 N ⟨q, hq, rfl, hR, rfl, t1, t4, t5, t6, t7⟩
 by_cases hqt : q < t.types[k].cons[i].args.length
 case neg =>
  simp only [SXa, Nat.reduceEqDiff, b18_23, P18, t1, t4, t5, t6, t7, aE, h3, oE, aG, aD, aF, mD, bO hqt, wi]
  refine ⟨t.types[k].cons.length - (i + 1), by omega, i + 1, by omega, rfl, fun j hj hji => ?_, hT3, hG3, n30, by simp []⟩
  by_cases hje : j < i
  · exact hQ j hj hje
  · have : j = i := by omega
    subst this
    exact ⟨by omega, by omega, fun s hs => by
     obtain ⟨u, hu, rfl⟩ := List.getElem_of_mem hs
     exact hR u hu (by omega)⟩
 case pos =>
 have wq := cG hqt (by omega)
 simp only [SXa, Nat.reduceEqDiff, b18_23, P18, t6, t7, aE, h3, oE, aG, aD, aF, mD, bL hqt, idxS1 hqt, eJ, eL]
 cases d5 : decide ((60 : Int) < (t.types[k].cons[i].args[q].size : Int)) with
 | true =>
  simp only [SXa, Nat.reduceEqDiff]
  exact ⟨⟨true, rfl, fun h => by cases h⟩, hG3⟩
 | false =>
 simp only [dP] at d5
 simp only [SXa, Nat.reduceEqDiff, t1, t4, t5, t6, t7, wq]
 refine ⟨t.types[k].cons[i].args.length - (q + 1), by omega, q + 1, by omega, rfl, fun j hj hjk => ?_, by simp []⟩
 by_cases hje : j < q
 · exact hR j hj hje
 · have : j = q := by omega
   subst this
   omega
end Go.Proofs.YthjaoinieikjdaaGreatDoor
namespace Go.Abs
end Go.Abs
namespace Go.Abs
end Go.Abs
namespace Go.Proofs.YthjaoinieikjdaaGreatDoor
open Go.Abs
theorem xw8 : ∀ l : List Int, iO 1 (cE l) = true
 | [] => rfl
 | s :: l => by simp only [cE, cF, iO, aS]; exact ⟨rfl, xw8 l⟩
theorem ko8 (a b : List Int) : cE a ++ cE b = cE (a ++ b) := by simp [cE]
theorem bsi1 (a : Int) (S : St) : gE E 34 1 [(0, .sc (.int .i64 a))] S = some (.vec 1 1 [.sc (.int .i64 a)], S) := by kernel_rfl
theorem ww9 {S S0 : St} {X Y : AV} {xs ys : List Int} (hX : OwnV S 3 1 X (cE xs)) (hN : cY S0 X) (G : Grow S0 S aA) (hY : IsV 1 Y (cE ys)) (hb : xs.length + ys.length ≤ 2 ^ 40) :
 ∃ Z S1, bD E false .append [34, 34] [X, Y] S = some (Z, S1) ∧ OwnV S1 3 1 Z (cE (xs ++ ys)) ∧ cY S0 Z ∧ Grow S0 S1 aA ∧ S1.no = S.no ∧ (∀ l, S1.obj l = S.obj l) ∧ Grow S S1 X := by
 rw [← ko8]
 exact wG el34 und34 hX hN G hY (xw8 _) (by rw [zp2, zp2]; omega)
theorem xi9 {l : List NodeV} {k : Nat} (hk : k < l.length) : lI (l.drop k) k = bif sQ l[k].kind then ((k : Nat) : Int) :: lI (l.drop (k + 1)) (k + 1) else lI (l.drop (k + 1)) (k + 1) := by rw [dJ hk, lI]
theorem xs7 : ∀ (l : List NodeV) (k : Nat), (lI l k).length ≤ l.length
 | [], k => aB _
 | x :: r, k => by
  have := xs7 r (k + 1)
  unfold lI
  cases sQ x.kind with
  | true => simp only [aH, aY]; omega
  | false => simp only [aK, aY]; omega
theorem kx4 (t : TreeV) (nx tx : AV) (ht : TreeIs nx tx t) (S : St) (hS : S.Fresh) : ∃ r S', EvA E 32 [.agg [nx, tx]] S r S' ∧ IsV 1 r (cE (bif fJ t then lI t.nodes 0 else [])) ∧ Grow S S' aA := by
 refine ev32 rfl ?_
 have hG := (Grow.refl hS aA).born 26 [nx, tx]
 have hT : (S.born 26 [nx, tx]).obj S.no = some [nx, tx] := by simp [bE]
 have hn : S.no < (S.born 26 [nx, tx]).no := bJ _
 simp only [SXa, reduceCtorEq, Nat.reduceEqDiff, Nat.reduceAdd, P32, dT, dZ]
 generalize S.born 26 [nx, tx] = S0 at hG hT hn
 simp only [SXa, reduceCtorEq, Nat.reduceEqDiff, Nat.reduceAdd, P32, aE, hT, aD, aF, aB]
 refine aT (yU t nx tx ht) hG (fun S1 g1 hG1 => ?_)
 have hT1 := g1.objs hT hn
 have hn1 := aU hn g1.no
 cases hg : fJ t with
 | false =>
  simp only [SXa, reduceCtorEq, Nat.reduceEqDiff]
  exact ⟨IsV.nil 1, hG1⟩
 | true =>
 simp only [SXa, reduceCtorEq, Nat.reduceEqDiff, P32, aE, hT1, gS, aG, aD, aM, eY ht.nodes]
 have hln := ht.ln
 refine bX (fun tm S' N => ∃ (k : Nat) (X : AV) (ws : List Int), k ≤ t.nodes.length ∧ N = t.nodes.length - k ∧ ws ++ lI (t.nodes.drop k) k = lI t.nodes 0 ∧ ws.length ≤ k ∧ OwnV S' 3 1 X (cE ws) ∧ cY S X ∧ Grow S S' aA ∧ getT tm 3 = X ∧ getT tm 10 = nx ∧ getT tm 11 = .sc (.int .i64 (t.nodes.length : Nat)) ∧ getT tm 12 = .sc (.int .i64 (k : Int))) t.nodes.length
  ⟨0, aA, [], by omega, by omega, by rw [cJ]; rfl, by simp, OwnV.nil' _ _ _, .inl rfl, hG1, by simp [aO]⟩ ?_
 rintro tm S2 N ⟨k, X, ws, hk, rfl, hw, hl, hX, hN, hG2, t3, t10, t11, t12⟩
 by_cases hlt : k < t.nodes.length
 case neg =>
  have hke : k = t.nodes.length := by omega
  rw [hke, fA, lI, dK] at hw
  simp only [SXa, Nat.reduceEqDiff, b32_10, t3, t11, t12, bO hlt]
  rw [← hw]
  exact ⟨hX.is, hG2⟩
 case pos =>
 have wk := cG hlt (by omega)
 rw [xi9 hlt] at hw
 have hG3 := (hG2.born 36 zN).put S2.no (.cells (aL t.nodes[k])) hG2.no
 have hN3 : ((S2.born 36 zN).put S2.no (.cells (aL t.nodes[k]))).obj S2.no = some (aL t.nodes[k]) := by simp [aX]
 have gr3 : Grow S2 ((S2.born 36 zN).put S2.no (.cells (aL t.nodes[k]))) aA := ((Grow.refl hG2.fresh aA).born _ _).put S2.no _ (aB _)
 simp only [SXa, Nat.reduceEqDiff, b32_10, P32, t10, t11, t12, bL hlt, iB ht.nodes hlt, lU, lT, tV, stN, bE, aD, aF, oF, oB, dK, aB]
 generalize (S2.born 36 zN).put S2.no (.cells (aL t.nodes[k])) = S3 at hG3 hN3 gr3
 simp only [aL] at hN3
 simp only [SXa, Nat.reduceEqDiff, P32, aE, hN3, bS, aG, aD, aM]
 refine aT (kx6 _) hG3 (fun S4 g4 hG4 => ?_)
 have gr4 := gr3.two g4
 cases hs : sQ t.nodes[k].kind with
 | false =>
  rw [hs, aK] at hw
  simp only [SXa, Nat.reduceEqDiff, t3, t10, t11, t12, wk]
  exact ⟨t.nodes.length - (k + 1), by omega, k + 1, X, ws, by omega, rfl, hw, by omega, hX.keep gr4, hN, hG4, by simp []⟩
 | true =>
  rw [hs, aH] at hw
  obtain ⟨Z, S5, ap, hZ, hNZ, hG5, _, _, _⟩ := ww9 (Y := .vec 1 1 [.sc (.int .i64 ((k : Nat) : Int))]) (ys := [((k : Nat) : Int)]) (hX.keep gr4) hN hG4 (IsV.vec 1 1 _) (by simp only [aY, bH]; omega)
  simp only [SXa, Nat.reduceEqDiff, P32, t3, t10, t11, t12, bsi1, ap, wk]
  exact ⟨t.nodes.length - (k + 1), by omega, k + 1, Z, ws ++ [((k : Nat) : Int)], by omega, rfl, by rw [← hw]; simp, by simp only [dL, aY, bH]; omega, hZ, hNZ, hG5, by simp []⟩
theorem ku7 : Ans E 17 [] (.sc (.bool true)) := fun S hS => ⟨S, ev_x (E := E) (f := 17) (fn := Tryz.f17) (g := oJ (.bool true)) (by kernel_rfl) rfl rfl, Grow.refl hS _⟩
theorem kx5 (n : Int) : sQ n = (decide (7 ≤ n) && decide (n ≤ 11) || n == 13 || decide (17 ≤ n) && decide (n ≤ 20)) := by
 rw [pV]
 simp only [sQ, eF, aS, gD, bZ]
 omega
open Go.Shelf Go
def wi9 : Go.Shelf.Ren := ⟨fun | 5 => 120 | n => n, fun | 23 => 126 | 24 => 126 | 26 => 9 | 27 => 4 | 0 => 0 | 4 => 4 | n => n, fun | n => n⟩
theorem jg1 : Go.Proofs.SlLaysX.n5 Tryz.prog wi9 := {
 mixed := by kernel_rfl,
 f5 := ⟨ "maps.Copy[map[string]bool,map[string]bool,string,bool]", by decide, Tryz.func120.trans (congrArg some (by kernel_rfl))⟩,
 t0 := Tryz.underlying0,
 a0 := Tryz.isAgg0,
 z0 := Tryz.sizeOf0,
 v0 := Tryz.zeroValue0,
 t4 := Tryz.underlying4,
 a4 := Tryz.isAgg4,
 z4 := Tryz.sizeOf4,
 v4 := Tryz.zeroValue4,
 t23 := Tryz.underlying126,
 a23 := Tryz.isAgg126,
 z23 := Tryz.sizeOf126,
 v23 := Tryz.zeroValue126,
 t24 := Tryz.underlying126,
 a24 := Tryz.isAgg126,
 z24 := Tryz.sizeOf126,
 v24 := Tryz.zeroValue126,
 a26 := Tryz.isAgg9,
 z26 := Tryz.sizeOf9,
 a27 := Tryz.isAgg4,
 z27 := Tryz.sizeOf4 }
def xc9 : Go.Shelf.Ren := ⟨fun | 156 => 110 | 165 => 141 | 166 => 62 | 169 => 65 | 240 => 109 | 241 => 156 | 276 => 140 | 277 => 182 | n => n, fun | 31 => 31 | 9 => 9 | 3 => 3 | 4 => 4 | 0 => 0 | 20 => 20 | 72 => 112 | 76 => 115 | 70 => 109 | 37 => 110 | 75 => 114 | 127 => 173 | 164 => 198 | 5 => 5 | 80 => 119 | n => n, fun | n => n⟩
theorem wu0 : Go.Proofs.Lays.n156 Tryz.prog xc9 := {
 mixed := by kernel_rfl,
 f156 := Tryz.func110.trans (congrArg some (by kernel_rfl)),
 f165 := Tryz.func141.trans (congrArg some (by kernel_rfl)),
 f166 := Tryz.func62.trans (congrArg some (by kernel_rfl)),
 f169 := Tryz.func65.trans (congrArg some (by kernel_rfl)),
 f240 := Tryz.func109.trans (congrArg some (by kernel_rfl)),
 f241 := Tryz.func156.trans (congrArg some (by kernel_rfl)),
 f276 := Tryz.func140.trans (congrArg some (by kernel_rfl)),
 f277 := Tryz.func182.trans (congrArg some (by kernel_rfl)),
 t0 := Tryz.underlying0,
 a0 := Tryz.isAgg0,
 z0 := Tryz.sizeOf0,
 v0 := Tryz.zeroValue0,
 t3 := Tryz.underlying3,
 a3 := Tryz.isAgg3,
 z3 := Tryz.sizeOf3,
 v3 := Tryz.zeroValue3,
 t4 := Tryz.underlying4,
 a4 := Tryz.isAgg4,
 z4 := Tryz.sizeOf4,
 v4 := Tryz.zeroValue4,
 t9 := Tryz.underlying9,
 a9 := Tryz.isAgg9,
 z9 := Tryz.sizeOf9,
 v9 := Tryz.zeroValue9,
 t20 := Tryz.underlying20,
 a20 := Tryz.isAgg20,
 z20 := Tryz.sizeOf20,
 v20 := Tryz.zeroValue20,
 t31 := Tryz.underlying31,
 a31 := Tryz.isAgg31,
 z31 := Tryz.sizeOf31,
 v31 := Tryz.zeroValue31,
 t37 := Tryz.underlying110,
 a37 := Tryz.isAgg110,
 z37 := Tryz.sizeOf110,
 v37 := Tryz.zeroValue110,
 t70 := Tryz.underlying109,
 a70 := Tryz.isAgg109,
 z70 := Tryz.sizeOf109,
 v70 := Tryz.zeroValue109,
 t72 := Tryz.underlying112,
 a72 := Tryz.isAgg112,
 z72 := Tryz.sizeOf112,
 v72 := Tryz.zeroValue112,
 t75 := Tryz.underlying114,
 a75 := Tryz.isAgg114,
 z75 := Tryz.sizeOf114,
 v75 := Tryz.zeroValue114,
 t76 := Tryz.underlying115,
 a76 := Tryz.isAgg115,
 z76 := Tryz.sizeOf115,
 v76 := Tryz.zeroValue115,
 t127 := Tryz.underlying173,
 a127 := Tryz.isAgg173,
 z127 := Tryz.sizeOf173,
 v127 := Tryz.zeroValue173,
 t164 := Tryz.underlying198,
 a164 := Tryz.isAgg198,
 z164 := Tryz.sizeOf198,
 v164 := Tryz.zeroValue198 }
theorem joinEx : Go.Proofs.Builder.Extra Tryz.prog xc9 := {
 sizeBuilder := by kernel_rfl,
 liesBuilder := by kernel_rfl,
 t5 := Tryz.underlying5,
 a5 := Tryz.isAgg5,
 z5 := Tryz.sizeOf5,
 v5 := Tryz.zeroValue5,
 infoByte := by kernel_rfl,
 cellsByte := by kernel_rfl,
 sizeByte := by kernel_rfl,
 neB5 := by decide }
theorem joinC : Abs.JoinC Tryz.prog 110 :=
 ⟨fun a c sep w => Go.Proofs.Any.strings_Join_none wu0 joinEx a c sep w, fun bk o c xs sep w h1 h2 h3 h4 h5 => Go.Proofs.Any.strings_Join wu0 joinEx bk o c xs sep w h1 h2 h3 h4 h5⟩
open Go.RowKit Go.Maps Go.Sort
def xc7 : Go.Shelf.Ren := ⟨fun | 10 => 118 | n => n, fun | 33 => 44 | 23 => 126 | 0 => 0 | 4 => 4 | 26 => 9 | 3 => 4 | n => n, fun | n => n⟩
theorem jb5 : Go.Proofs.SlLaysZ.n10 Tryz.prog xc7 := {
 mixed := by kernel_rfl,
 f10 := ⟨ "maps.Keys[map[string]bool,string,bool]$1", by decide, Tryz.func118.trans (congrArg some (by kernel_rfl))⟩,
 t0 := Tryz.underlying0,
 a0 := Tryz.isAgg0,
 z0 := Tryz.sizeOf0,
 v0 := Tryz.zeroValue0,
 t4 := Tryz.underlying4,
 a4 := Tryz.isAgg4,
 z4 := Tryz.sizeOf4,
 v4 := Tryz.zeroValue4,
 t23 := Tryz.underlying126,
 a23 := Tryz.isAgg126,
 z23 := Tryz.sizeOf126,
 v23 := Tryz.zeroValue126,
 t26 := Tryz.underlying9,
 a26 := Tryz.isAgg9,
 z26 := Tryz.sizeOf9,
 v26 := Tryz.zeroValue9,
 t33 := Tryz.underlying44,
 a33 := Tryz.isAgg44,
 z33 := Tryz.sizeOf44,
 v33 := Tryz.zeroValue44 }
def yr5 : Go.Shelf.Ren := ⟨fun | 6 => 69 | 8 => 116 | 9 => 117 | 11 => 145 | 13 => 147 | 12 => 146 | 23 => 170 | 24 => 171 | 14 => 161 | 15 => 162 | 16 => 163 | 17 => 164 | 18 => 165 | 19 => 166 | 20 => 167 | 21 => 168 | 22 => 169 | 25 => 187 | 26 => 188 | 27 => 189 | 28 => 190 | 29 => 191 | 30 => 192 | 31 => 203 | n => n, fun | 26 => 9 | 28 => 124 | 24 => 31 | 0 => 0 | 3 => 3 | 37 => 206 | 48 => 228 | 50 => 202 | 4 => 4 | 40 => 221 | 39 => 220 | 45 => 225 | 5 => 5 | 9 => 9 | 51 => 240 | 55 => 244 | 57 => 257 | 58 => 195 | 33 => 44 | n => n, fun | n => n⟩
theorem wy6 : Go.Proofs.SlLaysZ.n6 Tryz.prog yr5 := {
 mixed := by kernel_rfl,
 f6 := ⟨ "slices.Sorted[string]", by decide, Tryz.func69.trans (congrArg some (by kernel_rfl))⟩,
 f8 := ⟨ "slices.Collect[string]", by decide, Tryz.func116.trans (congrArg some (by kernel_rfl))⟩,
 f11 := ⟨ "slices.AppendSeq[[]string,string]", by decide, Tryz.func145.trans (congrArg some (by kernel_rfl))⟩,
 t0 := Tryz.underlying0,
 a0 := Tryz.isAgg0,
 z0 := Tryz.sizeOf0,
 v0 := Tryz.zeroValue0,
 t24 := Tryz.underlying31,
 a24 := Tryz.isAgg31,
 z24 := Tryz.sizeOf31,
 v24 := Tryz.zeroValue31,
 t26 := Tryz.underlying9,
 a26 := Tryz.isAgg9,
 z26 := Tryz.sizeOf9,
 v26 := Tryz.zeroValue9,
 t28 := Tryz.underlying124,
 a28 := Tryz.isAgg124,
 z28 := Tryz.sizeOf124,
 v28 := Tryz.zeroValue124,
 i26 := by kernel_rfl }
def wc9 : Go.Shelf.Ren := ⟨fun | 6 => 117 | 8 => 147 | 9 => 146 | 19 => 170 | 20 => 171 | 21 => 161 | 22 => 162 | 23 => 163 | 24 => 164 | 25 => 165 | 26 => 166 | 27 => 167 | 28 => 168 | 29 => 169 | 36 => 187 | 31 => 188 | 32 => 189 | 37 => 190 | 38 => 191 | 39 => 192 | 41 => 203 | n => n, fun | 27 => 31 | 29 => 9 | 3 => 3 | 32 => 206 | 26 => 31 | 0 => 0 | 44 => 228 | 46 => 202 | 4 => 4 | 36 => 221 | 35 => 220 | 41 => 225 | 5 => 5 | 9 => 9 | 53 => 240 | 57 => 244 | 63 => 257 | 64 => 195 | n => n, fun | n => n⟩
theorem wr1 : Go.Proofs.SlLaysM.n6 Tryz.prog wc9 := {
 mixed := by kernel_rfl,
 f6 := ⟨ "slices.Sort[[]string,string]", by decide, Tryz.func117.trans (congrArg some (by kernel_rfl))⟩,
 f8 := Tryz.func147.trans (congrArg some (by kernel_rfl)),
 f9 := ⟨ "slices.pdqsortOrdered[string]", by decide, Tryz.func146.trans (congrArg some (by kernel_rfl))⟩,
 f19 := Tryz.func170.trans (congrArg some (by kernel_rfl)),
 f20 := Tryz.func171.trans (congrArg some (by kernel_rfl)),
 f21 := ⟨ "slices.insertionSortOrdered[string]", by decide, Tryz.func161.trans (congrArg some (by kernel_rfl))⟩,
 f22 := ⟨ "slices.heapSortOrdered[string]", by decide, Tryz.func162.trans (congrArg some (by kernel_rfl))⟩,
 f23 := ⟨ "slices.breakPatternsOrdered[string]", by decide, Tryz.func163.trans (congrArg some (by kernel_rfl))⟩,
 f24 := ⟨ "slices.choosePivotOrdered[string]", by decide, Tryz.func164.trans (congrArg some (by kernel_rfl))⟩,
 f25 := ⟨ "slices.reverseRangeOrdered[string]", by decide, Tryz.func165.trans (congrArg some (by kernel_rfl))⟩,
 f26 := ⟨ "slices.partialInsertionSortOrdered[string]", by decide, Tryz.func166.trans (congrArg some (by kernel_rfl))⟩,
 f27 := ⟨ "cmp.Less[string]", by decide, Tryz.func167.trans (congrArg some (by kernel_rfl))⟩,
 f28 := ⟨ "slices.partitionEqualOrdered[string]", by decide, Tryz.func168.trans (congrArg some (by kernel_rfl))⟩,
 f29 := ⟨ "slices.partitionOrdered[string]", by decide, Tryz.func169.trans (congrArg some (by kernel_rfl))⟩,
 f31 := Tryz.func188.trans (congrArg some (by kernel_rfl)),
 f32 := Tryz.func189.trans (congrArg some (by kernel_rfl)),
 f36 := ⟨ "slices.siftDownOrdered[string]", by decide, Tryz.func187.trans (congrArg some (by kernel_rfl))⟩,
 f37 := ⟨ "slices.medianAdjacentOrdered[string]", by decide, Tryz.func190.trans (congrArg some (by kernel_rfl))⟩,
 f38 := ⟨ "slices.medianOrdered[string]", by decide, Tryz.func191.trans (congrArg some (by kernel_rfl))⟩,
 f39 := ⟨ "cmp.isNaN[string]", by decide, Tryz.func192.trans (congrArg some (by kernel_rfl))⟩,
 f41 := ⟨ "slices.order2Ordered[string]", by decide, Tryz.func203.trans (congrArg some (by kernel_rfl))⟩,
 t0 := Tryz.underlying0,
 a0 := Tryz.isAgg0,
 z0 := Tryz.sizeOf0,
 v0 := Tryz.zeroValue0,
 t3 := Tryz.underlying3,
 a3 := Tryz.isAgg3,
 z3 := Tryz.sizeOf3,
 v3 := Tryz.zeroValue3,
 t4 := Tryz.underlying4,
 a4 := Tryz.isAgg4,
 z4 := Tryz.sizeOf4,
 v4 := Tryz.zeroValue4,
 t5 := Tryz.underlying5,
 a5 := Tryz.isAgg5,
 z5 := Tryz.sizeOf5,
 v5 := Tryz.zeroValue5,
 t9 := Tryz.underlying9,
 a9 := Tryz.isAgg9,
 z9 := Tryz.sizeOf9,
 v9 := Tryz.zeroValue9,
 t26 := Tryz.underlying31,
 a26 := Tryz.isAgg31,
 z26 := Tryz.sizeOf31,
 v26 := Tryz.zeroValue31,
 t27 := Tryz.underlying31,
 a27 := Tryz.isAgg31,
 z27 := Tryz.sizeOf31,
 v27 := Tryz.zeroValue31,
 t29 := Tryz.underlying9,
 a29 := Tryz.isAgg9,
 z29 := Tryz.sizeOf9,
 v29 := Tryz.zeroValue9,
 t32 := Tryz.underlying206,
 a32 := Tryz.isAgg206,
 z32 := Tryz.sizeOf206,
 v32 := Tryz.zeroValue206,
 t35 := Tryz.underlying220,
 a35 := Tryz.isAgg220,
 z35 := Tryz.sizeOf220,
 v35 := Tryz.zeroValue220,
 t36 := Tryz.underlying221,
 a36 := Tryz.isAgg221,
 z36 := Tryz.sizeOf221,
 v36 := Tryz.zeroValue221,
 t41 := Tryz.underlying225,
 a41 := Tryz.isAgg225,
 z41 := Tryz.sizeOf225,
 v41 := Tryz.zeroValue225,
 t44 := Tryz.underlying228,
 a44 := Tryz.isAgg228,
 z44 := Tryz.sizeOf228,
 v44 := Tryz.zeroValue228,
 t46 := Tryz.underlying202,
 a46 := Tryz.isAgg202,
 z46 := Tryz.sizeOf202,
 v46 := Tryz.zeroValue202,
 t53 := Tryz.underlying240,
 a53 := Tryz.isAgg240,
 z53 := Tryz.sizeOf240,
 v53 := Tryz.zeroValue240,
 t57 := Tryz.underlying244,
 a57 := Tryz.isAgg244,
 z57 := Tryz.sizeOf244,
 v57 := Tryz.zeroValue244,
 t63 := Tryz.underlying257,
 a63 := Tryz.isAgg257,
 z63 := Tryz.sizeOf257,
 v63 := Tryz.zeroValue257,
 t64 := Tryz.underlying195,
 a64 := Tryz.isAgg195,
 z64 := Tryz.sizeOf195,
 v64 := Tryz.zeroValue195 }
theorem sorts (m : Nat) : AnyZ.SortsIn Tryz.prog yr5 Fence.wide m :=
 ⟨fun blk off cap ss W hH hblk hsz => callsIn_wide.2 (AnyM.slices_Sort_string wr1 blk off cap ss W hH hblk hsz),
  fun p cap W => callsIn_wide.2 (AnyM.slices_Sort_string_none wr1 p cap W)⟩
theorem kh3 : Abs.SortedC Tryz.prog 69 118 9 := by
 intro bx b nn D0 R w hbx hcell hown hmax hbytes
 have hseq : SeqGives Fence.wide 2 Tryz.prog 118 #[.pointer (some ⟨bx, 0, none⟩)] encStr (fun ss => ss.Perm (strKeys D0)) (Maps.size D0) w :=
  AnyZ.keys_gives (ρ := xc7) jb5 Fence.wide _ trivial rfl (by omega) bx b nn D0 w hbx hcell hown
 exact callsIn_wide.1 (AnyZ.sorted_in wy6 Fence.wide 5 trivial trivial trivial trivial rfl (by omega) (sorts _) (enters_of Tryz.func117 (by kernel_rfl) rfl) 118 #[.pointer (some ⟨bx, 0, none⟩)] trivial (enters_of Tryz.func118 (by kernel_rfl) rfl) _ _ hmax hbytes w hseq)
theorem names : Tryz.prog.funcs.toList.all (fun x => x.name != "runtime.NumGoroutine") = true := by kernel_rfl
theorem mixed : Tryz.prog.follows .mixedOrders = true := by kernel_rfl
theorem entNo (x : Value) (w : World) : (callFunc 140 #[x]).run Tryz.prog w = .ok (.value x) w := by kernel_rfl
theorem tyS : Tryz.prog.underlying 9 = some .string := by kernel_rfl
noncomputable def G0 (g : Nat) : Option (List AV) := bif Nat.beq g 0 then some (propsV.map .sc) else none
noncomputable def X0 (f : FuncId) : Option (List AV → St → Option (AV × St)) := bif Nat.beq f 69 then some (rA 118) else bif Nat.beq f 120 then some mF else none
noncomputable def env0 : Env := { P := Tryz.prog, G := G0, fn := fun f => Tryz.prog.funcs[f]?, und := Tryz.prog.underlying, inf := Tryz.prog.info?, hp := fun _ _ => false, meth := fun _ _ => none, ext := uZ [] [140], X := X0 }
theorem run0 : xx3 (evF env0 300 60 17 [] S0) = true := by kernel_rfl
theorem ok0 : env0.Ok := by
 have ok := xl0 (P := Tryz.prog) (hp := env0.hp) (meth := fun _ _ => none) (ext := uZ [] [140]) names mixed (fun _ _ _ h => nomatch h) (wv4 (fun g hg => nomatch hg) (fun g hg => by have := List.mem_singleton.1 hg; subst this; exact entNo))
 exact ⟨ok.fn, ok.und, ok.inf, ok.mixed, ok.meth, ok.ext⟩
theorem copyC : CopyC Tryz.prog 120 9 := fun R bd bs nd ns Dd Ds w hd hs hne hroom =>
 (Go.Proofs.AnyX.maps_Copy jg1 (Go.Maps.string_keyed tyS) R bd bs nd ns Dd Ds w hd hs hne hroom).mono fun e w' h => ⟨h.1, h.2.1, h.2.2.2⟩
theorem wk8 {f : FuncId} {g : List AV → St → Option (AV × St)} (h : env0.X f = some g) : (f = 69 ∧ g = rA 118) ∨ (f = 120 ∧ g = mF) := by
 have h : X0 f = some g := h
 unfold X0 at h
 cases hb : Nat.beq f 69 with
 | true =>
  rw [hb] at h
  exact .inl ⟨bA hb, (cZ h).symm⟩
 | false =>
  rw [hb] at h
  cases hc : Nat.beq f 120 with
  | true =>
   rw [hc] at h
   exact .inr ⟨bA hc, (cZ h).symm⟩
  | false => rw [hc] at h; cases h
theorem x0 : XOk env0 := ⟨fun f g fn h hfn => by
 rcases wk8 h with ⟨rfl, rfl⟩ | ⟨rfl, rfl⟩
 · have hfn : Tryz.prog.funcs[69]? = some fn := hfn
   obtain rfl : fn = Tryz.f69 := (cZ (Tryz.func69.symm.trans hfn)).symm
   exact ⟨by kernel_rfl, fun args S r S' hx C w vs hw hl => wy4 (E := env0) tyS kh3 hx hw hl⟩
 · have hfn : Tryz.prog.funcs[120]? = some fn := hfn
   obtain rfl : fn = Tryz.f120 := (cZ (Tryz.func120.symm.trans hfn)).symm
   exact ⟨by kernel_rfl, fun args S r S' hx C w vs hw hl => wv9 (E := env0) tyS copyC hx hw hl⟩⟩
theorem e0X : EvoX env0 := ⟨fun f g h args S r S' hx => by
 rcases wk8 h with ⟨rfl, rfl⟩ | ⟨rfl, rfl⟩
 · exact wl4 hx
 · exact wi8 hx⟩
theorem f0X : FrmX env0 := ⟨fun f g h D A X args r A' k hx => by
 rcases wk8 h with ⟨rfl, rfl⟩ | ⟨rfl, rfl⟩
 · exact wl3 k hx
 · exact wi7 k hx⟩
theorem g0_sub : ∀ g cs, env0.G g = some cs → pP g = some cs := by
 intro g cs h
 have h : G0 g = some cs := h
 unfold G0 at h
 unfold pP
 cases hb : Nat.beq g 0 with
 | true => rw [hb] at h; exact h
 | false => rw [hb] at h; cases h
theorem g0_sc : ∀ g cs, env0.G g = some cs → ∀ x ∈ cs, ∃ v, x = .sc v := by
 intro g cs h x hx
 have h : G0 g = some cs := h
 unfold G0 at h
 cases hb : Nat.beq g 0 with
 | true =>
  rw [hb] at h
  have := (cZ h).symm
  subst this
  obtain ⟨z, _, rfl⟩ := List.mem_map.1 hx
  exact ⟨_, rfl⟩
 | false => rw [hb] at h; cases h
theorem jh3 {E : Env} (hE : Here E) {args : List AV} {S : St} {r : AV} {S' : St} (hm : oJ (.bool true) args S = some (r, S')) {C : Ctx} {w : World} {vs : Array Value} (hw : WR E C S w) (hl : LR C w args vs.toList) :
 Calls E.P 17 vs w (fun e w' => ∃ u C', e = .returned u ∧ WR E C' S' w' ∧ Ext C w C' w' ∧ VR C' w' r u) := by
 obtain ⟨S1, h⟩ := wl9 run0
 exact ja3 (E0 := env0) hE.P.symm (fun g cs h => by rw [hE.G]; exact g0_sub g cs h) g0_sc ok0 x0 e0X f0X h hm hw hl
end Go.Proofs.YthjaoinieikjdaaGreatDoor
