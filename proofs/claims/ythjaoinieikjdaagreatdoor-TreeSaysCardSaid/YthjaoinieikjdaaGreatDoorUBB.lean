/-
  Trees: the walks (may types be declared so?).
-/
import Derived.Test.YthjaoinieikjdaaGreatDoorUBA
set_option maxHeartbeats 64000000
set_option linter.unusedSimpArgs false
set_option linter.unusedVariables false
set_option maxRecDepth 100000
namespace Go.Proofs.YthjaoinieikjdaaGreatDoor
open Go.Abs
theorem wj8 (s : ByteArray) : Ans E 98 [.sc (.string s)] (.sc (.bool (oG s))) := by
 obtain ⟨b, h, rfl⟩ := basic_x s
 exact h
theorem op_mf {tm : PM AV} {S : St} {d : Option Tmp} (f : Fn) (x y : Array Operand) : opV E tm d (.makeFunc f x y) S = some (.fn f (x.toList.map (E.ev tm)) (y.toList.map (E.ev tm)), S) := rfl
theorem wx7 {sz : Nat} {x : AV} {xs : List AV} (h : IsV sz x xs) : cellsOf x = some [x] ∧ cB x = true := by
 rcases h with ⟨rfl, _⟩ | ⟨id, rfl⟩ <;> exact ⟨rfl, rfl⟩
theorem stS (l off : Nat) {sz : Nat} {x : AV} {xs : List AV} (h : IsV sz x xs) (S : St) : gZ 1 (.ptr l off) x S = (S.obj l).bind fun cs => if off < cs.length then some (dB, S.put l (.cells (cs.set off x))) else none := qC l off x (wx7 h).1 (wx7 h).2
theorem stF (l off : Nat) (g : FuncId) (cap : List AV) (S : St) : gZ 1 (.ptr l off) (.fn (.func g) [] cap) S = (S.obj l).bind fun cs => if off < cs.length then some (dB, S.put l (.cells (cs.set off (.fn (.func g) [] cap)))) else none := qC l off _ rfl rfl
theorem loadFn {tm : PM AV} {S : St} {d : Option Tmp} (x : Operand) : opV E tm d (.load 44 x) S = jY false 1 (E.ev tm x) S := fZ 44 false 1 (by kernel_rfl) x
theorem storeFn {tm : PM AV} {S : St} {d : Option Tmp} (x y : Operand) : opV E tm d (.store 44 x y) S = gZ 1 (E.ev tm x) (E.ev tm y) S := jS (b := false) 44 1 (by kernel_rfl) x y
theorem allocS {tm : PM AV} {S : St} {d : Option Tmp} : opV E tm d (.alloc 31) S = some (.ptr S.no 0, S.born 31 [aA]) := oA (by kernel_rfl)
theorem allocF {tm : PM AV} {S : St} {d : Option Tmp} : opV E tm d (.alloc 44) S = some (.ptr S.no 0, S.born 44 [.sc .nilFunc]) := oA (by kernel_rfl)
structure Holds (l3 l10 : Nat) (X : AV) (S : St) : Prop where
 f : S.obj l10 = some [.fn (.func 100) [] [.ptr l3 0]]
 x : S.obj l3 = some [X]
 lf : l10 < S.no
 lx : l3 < S.no
theorem Holds.grow {l3 l10 : Nat} {X : AV} {S S' : St} (h : Holds l3 l10 X S) (g : Grow S S' aA) : Holds l3 l10 X S' := ⟨g.objs h.f h.lf, g.objs h.x h.lx, aU h.lf g.no, aU h.lx g.no⟩
theorem yP (t : Nat) (X : AV) (S : St) (l : Nat) (h : S.obj l = some [X]) : jY false 1 (.ptr l 0) S = some (X, S) := by
 rw [aE, h]; rfl
theorem kn8 (names : List ByteArray) (X : AV) (hX : IsV 1 X (aN names)) (hl : names.length ≤ 2 ^ 40) (l3 l10 : Nat) (s : ByteArray) : sV E (Holds l3 l10 X) 100 [.sc (.string s), .ptr l3 0] (.sc (.bool (oG s || fD names s))) := zF fun S hS hH => by
 refine ev100 rfl ?_
 simp only [SXa, reduceCtorEq, Nat.reduceEqDiff, Nat.reduceAdd, P100]
 refine aT (wj8 s) (Grow.refl hS aA) (fun S1 g1 hG => ?_)
 have hH1 := hH.grow g1
 cases c1 : oG s with
 | true =>
  simp only [SXa, reduceCtorEq, Nat.reduceEqDiff]
  exact ⟨by first | rfl | simp, hG⟩
 | false =>
  simp only [SXa, reduceCtorEq, Nat.reduceEqDiff, P100, yP 0 X _ _ hH1.x]
  refine aT (xd9 names X hX hl s) hG (fun S2 g2 hG2 => ?_)
  simp only [SXa, reduceCtorEq, Nat.reduceEqDiff]
  exact ⟨by first | rfl | simp, hG2⟩
theorem kl2 (names : List ByteArray) (X : AV) (hX : IsV 1 X (aN names)) (hl : names.length ≤ 2 ^ 40) (l3 l10 : Nat) (s : ByteArray) : sV E (Holds l3 l10 X) 101 [.sc (.string s), .ptr l10 0] (.sc (.bool (lY names s))) := zF fun S hS hH => by
 refine ev101 rfl ?_
 simp only [SXa, reduceCtorEq, Nat.reduceEqDiff, Nat.reduceAdd, P101, loadFn, yP 0 _ _ _ hH.f]
 rw [wo7 _ _ _ _ _ (g := 100) (first := []) (cap := [.ptr l3 0]) (by simp only [SXa, reduceCtorEq, Nat.reduceEqDiff]; rfl) rfl]
 simp only [SXa, reduceCtorEq, Nat.reduceEqDiff, mL, nS]
 refine yW (kn8 names X hX hl l3 l10 s) hH (Grow.refl hS aA) (fun S1 g1 hG => ?_)
 simp only [SXa, reduceCtorEq, Nat.reduceEqDiff]
 exact ⟨rfl, hG⟩
def Apart (x y : AV) : Prop := ∀ id sz1 xs1 sz2 xs2, x = .vec id sz1 xs1 → y = .vec id sz2 xs2 → id ≤ 2
theorem Apart.symm {x y : AV} (h : Apart x y) : Apart y x := fun id a b c d h1 h2 => h id c d a b h2 h1
theorem Apart.nil (y : AV) : Apart aA y := fun _ _ _ _ _ h => by cases h
theorem kl1 {S : St} {e : TypeId} {sz : Nat} {x : AV} {xs : List AV} (h : OwnV S e sz x xs) {id a : Nat} {b : List AV} (hx : x = .vec id a b) : id ≤ 2 ∨ id < S.nid := by
 rcases h with ⟨rfl, _⟩ | ⟨i, rfl, hid⟩
 · cases hx
 · cases hx
   rcases hid with h | h | ⟨h, _⟩
   · exact .inl (by omega)
   · exact .inl (by omega)
   · simp only [St.live, aS] at h
     exact .inr (bW h.1.2)
theorem wF {S S0 : St} {X Y P Q : AV} {xs ys ps qs : List ByteArray} (hX : OwnV S 9 1 X (aN xs)) (hN : cY S0 X) (G : Grow S0 S aA) (hY : IsV 1 Y (aN ys)) (hb : xs.length + ys.length ≤ 2 ^ 40)
 (hP : OwnV S 9 1 P (aN ps)) (hQ : OwnV S 9 1 Q (aN qs)) (aP : Apart X P) (aQ : Apart X Q) :
 ∃ Z S1, bD E false .append [31, 31] [X, Y] S = some (Z, S1) ∧ OwnV S1 9 1 Z (aN (xs ++ ys)) ∧ cY S0 Z ∧ Grow S0 S1 aA ∧ S1.no = S.no ∧ (∀ l, S1.obj l = S.obj l) ∧ OwnV S1 9 1 P (aN ps) ∧ OwnV S1 9 1 Q (aN qs) ∧ Apart Z P ∧ Apart Z Q := by
 have h2 := G.fresh.1
 by_cases hne : aN ys = []
 · have : xs ++ ys = xs := by
    cases ys with
    | nil => simp
    | cons a r => simp [aN] at hne
   rw [this]
   rw [hne] at hY
   exact ⟨X, S, wk1 el31 und31 hX.is hY, hX, hN, G, rfl, fun _ => rfl, hP, hQ, aP, aQ⟩
 · rw [← wc5]
   have ga := Grow.app G.fresh hX
   refine ⟨_, _, wq1 el31 und31 G.fresh hX hY hne (xb7 _) (by rw [lS, lS]; omega), zA G.fresh hX, .inr (.inr ⟨_, _, _, rfl, G.nid⟩), G.app2 hX hN, zB _ _ _, yF _ _ _,
    hP.grow ga aP.symm, hQ.grow ga aQ.symm, fun id a b c d e1 e2 => ?_, fun id a b c d e1 e2 => ?_⟩
   · cases e1
     rcases kl1 hP e2 with h | h <;> omega
   · cases e1
     rcases kl1 hQ e2 with h | h <;> omega
theorem zG {α : Type} (p : α → Bool) {l : List α} {k : Nat} (hk : k < l.length) : (l.drop k).all p = (p l[k] && (l.drop (k + 1)).all p) := by
 rw [dJ hk, lA]
theorem pN (a : ByteArray) : IsV 1 (.vec 1 1 [.sc (.string a)]) (aN [a]) := IsV.vec 1 1 _
theorem kt5 (ds : List DeclV) (tx : AV) (ht : IsV 2 tx (sH ds)) (hl : ds.length ≤ 1000) (hlc : ∀ d ∈ ds, d.cons.length ≤ 2 ^ 40) : Ans E 55 [tx] (.sc (.bool (iM ds))) := bU fun S hS => by
 refine ev55 rfl ?_
 have hG := (Grow.refl hS aA).born 31 [aA]
 have h0 : (S.born 31 [aA]).obj S.no = some [aA] := by simp [bE]
 have hn : S.no < (S.born 31 [aA]).no := bJ _
 simp only [SXa, reduceCtorEq, Nat.reduceEqDiff, Nat.reduceAdd, P55, allocS, rM ht]
 generalize S.born 31 [aA] = S1 at hG h0 hn
 refine bX (fun tm S' N => ∃ (k : Nat) (X1 X2 X3 : AV) (w1 w2 w3 : List ByteArray), k ≤ ds.length ∧ N = ds.length - k ∧ (ds.drop k).all okD = ds.all okD ∧ w1 ++ cL (ds.drop k) = cL ds ∧ w2 ++ gA (ds.drop k) = gA ds ∧ w3 ++ jH (ds.drop k) = jH ds ∧ w1.length ≤ k ∧ w2.length ≤ 20 * k ∧ w3.length ≤ 60 * k ∧
  OwnV S' 9 1 X1 (aN w1) ∧ OwnV S' 9 1 X2 (aN w2) ∧ OwnV S' 9 1 X3 (aN w3) ∧ cY S X1 ∧ cY S X2 ∧ cY S X3 ∧ Apart X1 X2 ∧ Apart X1 X3 ∧ Apart X2 X3 ∧ S'.obj S.no = some [X1] ∧ Grow S S' aA ∧ S.no < S'.no ∧
  getT tm 0 = tx ∧ getT tm 3 = .ptr S.no 0 ∧ getT tm 4 = X2 ∧ getT tm 5 = X3 ∧ getT tm 12 = tx ∧ getT tm 13 = .sc (.int .i64 (ds.length : Nat)) ∧ getT tm 14 = .sc (.int .i64 (k : Int))) ds.length
  ⟨0, aA, aA, aA, [], [], [], by omega, by omega, by rw [cJ], rfl, rfl, rfl, by simp, by simp, by simp, OwnV.nil' _ _ _, OwnV.nil' _ _ _, OwnV.nil' _ _ _, .inl rfl, .inl rfl, .inl rfl, Apart.nil _, Apart.nil _, Apart.nil _, h0, hG, hn, by simp [aO]⟩ ?_
 rintro tm S2 N ⟨k, X1, X2, X3, w1, w2, w3, hk, rfl, hall, hw1, hw2, hw3, hl1, hl2, hl3, hX1, hX2, hX3, hN1, hN2, hN3, a12, a13, a23, ho, hG2, hn2, t0, t3, t4, t5, t12, t13, t14⟩
 by_cases hlt : k < ds.length
 case neg =>
  have hke : k = ds.length := by omega
  subst hke
  rw [fA] at hall hw1 hw2 hw3
  simp only [cL, gA, jH, jQ, List.flatMap_nil, dK] at hw1 hw2 hw3
  have hw1 : w1 = cL ds := hw1
  have hw2 : w2 = gA ds := hw2
  have hw3 : w3 = jH ds := hw3
  subst hw1; subst hw2; subst hw3
  have hd : iM ds = (decide (ds.length ≤ 20) && !eA [] (cL ds) && !eA [] (gA ds) && !(jH ds).any (lY (cL ds))) := by
   unfold iM; rw [← hall]; rfl
  rw [hd]
  have hne : S.no ≠ S2.no := by omega
  have hG3 := (hG2.born 44 [.sc .nilFunc]).put S2.no (.cells [.fn (.func 100) [] [.ptr S.no 0]]) hG2.no
  have hH3 : Holds S.no S2.no X1 ((S2.born 44 [.sc .nilFunc]).put S2.no (.cells [.fn (.func 100) [] [.ptr S.no 0]])) := ⟨by simp [aX], by simp [aX, bE, hne, ho], bJ _, Nat.lt_succ_of_lt hn2⟩
  simp only [SXa, reduceCtorEq, Nat.reduceEqDiff, b55_18, P55, t0, t3, t13, t14, bO hlt, op_mf, allocF, storeFn, stF, bE, aD, aF, bJ, fS, rM ht]
  generalize ((S2.born 44 [.sc .nilFunc]).put S2.no (.cells [.fn (.func 100) [] [.ptr S.no 0]])) = S3 at hG3 hH3
  cases c1 : decide ((ds.length : Int) ≤ 20) with
  | false =>
   have c2 : decide (ds.length ≤ 20) = false := by simp only [dP] at c1 ⊢; omega
   simp only [SXa, Nat.reduceEqDiff]
   exact ⟨by rw [c2]; first | rfl | simp, hG3⟩
  | true =>
  have c2 : decide (ds.length ≤ 20) = true := by simp only [bZ] at c1 ⊢; omega
  rw [c2, cI]
  simp only [SXa, Nat.reduceEqDiff, P55, t3, yP 0 _ _ _ hH3.x]
  refine aT (xi6 (cL ds) X1 hX1.is (by omega)) hG3 (fun S4 g4 hG4 => ?_)
  have hH4 := hH3.grow g4
  cases c3 : eA [] (cL ds) with
  | true =>
   simp only [SXa, Nat.reduceEqDiff]
   exact ⟨by first | rfl | simp, hG4⟩
  | false =>
  simp only [SXa, Nat.reduceEqDiff, P55, t4]
  refine aT (xi6 (gA ds) X2 hX2.is (by omega)) hG4 (fun S5 g5 hG5 => ?_)
  have hH5 := hH4.grow g5
  cases c4 : eA [] (gA ds) with
  | true =>
   simp only [SXa, Nat.reduceEqDiff]
   exact ⟨by first | rfl | simp, hG5⟩
  | false =>
  simp only [SXa, Nat.reduceEqDiff, P55, t5]
  refine yW (wa5 (Holds S.no S2.no X1) (fun _ _ h g => h.grow g) 101 [.ptr S2.no 0] (lY (cL ds)) (fun s => kl2 (cL ds) X1 hX1.is (by omega) S.no S2.no s) rfl (jH ds) X3 hX3.is (by omega)) hH5 hG5 (fun S6 g6 hG6 => ?_)
  simp only [SXa, Nat.reduceEqDiff]
  exact ⟨by first | rfl | simp, hG6⟩
 case pos =>
  have wk := cG hlt (by omega)
  have hmem := fE hlt
  have hcl := hlc _ hmem
  rw [zG _ hlt] at hall
  have hd0 : okD ds[k] = false → iM ds = false := fun h => by
   unfold iM; rw [← hall, h]; rfl
  have hG3 := (hG2.born 75 [.sc (.string ⟨#[]⟩), .sc (.slice none 0 0)]).put S2.no (.cells (dC ds[k])) hG2.no
  have h3 : ((S2.born 75 [.sc (.string ⟨#[]⟩), .sc (.slice none 0 0)]).put S2.no (.cells (dC ds[k]))).obj S2.no = some (dC ds[k]) := by simp [aX]
  have hgr : Grow S2 ((S2.born 75 [.sc (.string ⟨#[]⟩), .sc (.slice none 0 0)]).put S2.no (.cells (dC ds[k]))) aA := ((Grow.refl hG2.fresh aA).born _ _).put S2.no _ (aB _)
  have n3 : S2.no < ((S2.born 75 [.sc (.string ⟨#[]⟩), .sc (.slice none 0 0)]).put S2.no (.cells (dC ds[k]))).no := bJ _
  simp only [dC] at hG3 h3 hgr n3
  simp only [SXa, Nat.reduceEqDiff, Nat.reduceAdd, b55_18, P55, t12, t13, t14, bL hlt, nC ht hlt, dC, kv5, stD, bE, aD, aF, aB, dM]
  generalize ((S2.born 75 [.sc (.string ⟨#[]⟩), .sc (.slice none 0 0)]).put S2.no (.cells [.sc (.string ds[k].name), (kT ds[k])])) = S3 at hG3 h3 hgr n3
  simp only [SXa, Nat.reduceEqDiff, P55, aE, h3, uK, aG, aD, aM]
  refine aT (vF _) hG3 (fun S4 g4 hG4 => ?_)
  have h4 := g4.objs h3 n3
  have n4 := aU n3 g4.no
  have hgr4 := hgr.two g4
  cases c1 : gX ds[k].name with
  | false =>
   simp only [SXa, Nat.reduceEqDiff]
   exact ⟨by rw [hd0 (by simp only [okD, c1, bK])], hG4⟩
  | true =>
  simp only [SXa, Nat.reduceEqDiff, P55, aE, h4, uK, aG, aD, aM]
  refine aT (wj8 _) hG4 (fun S5 g5 hG5 => ?_)
  have h5 := g5.objs h4 n4
  have n5 := aU n4 g5.no
  have hgr5 := hgr4.two g5
  cases c2 : oG ds[k].name with
  | true =>
   simp only [SXa, Nat.reduceEqDiff]
   exact ⟨by rw [hd0 (by simp only [okD, c1, c2, iC, dY, bK])], hG5⟩
  | false =>
  simp only [SXa, Nat.reduceEqDiff, P55, aE, h5, mW, aG, aD, aF, qK]
  cases c3 : decide ((ds[k].cons.length : Int) < 1) with
  | true =>
   have c3' : decide (1 ≤ ds[k].cons.length) = false := by simp only [bZ, dP] at c3 ⊢; omega
   simp only [SXa, Nat.reduceEqDiff]
   exact ⟨by rw [hd0 (by simp only [okD, c3', dY, bK])], hG5⟩
  | false =>
  simp only [SXa, Nat.reduceEqDiff, P55, aE, h5, mW, aG, aD, aF, qK]
  cases c4 : decide ((20 : Int) < (ds[k].cons.length : Int)) with
  | true =>
   have c4' : decide (ds[k].cons.length ≤ 20) = false := by simp only [bZ, dP] at c4 ⊢; omega
   simp only [SXa, Nat.reduceEqDiff]
   exact ⟨by rw [hd0 (by simp only [okD, c4', dY, bK])], hG5⟩
  | false =>
  have c3' : decide (1 ≤ ds[k].cons.length) = true := by simp only [bZ, dP] at c3 ⊢; omega
  have c4n : ds[k].cons.length ≤ 20 := by simp only [dP] at c4; omega
  have c4' : decide (ds[k].cons.length ≤ 20) = true := iI c4n
  have hok : okD ds[k] = ds[k].cons.all okC := by simp only [okD, c1, c2, c3', c4', kC, bY, cI]
  rw [hok] at hall
  have hd1 : ds[k].cons.all okC = false → iM ds = false := fun h => hd0 (by rw [hok]; exact h)
  have ho5 : S5.obj S.no = some [X1] := hgr5.objs ho hn2
  have hn5 : S.no < S5.no := aU hn2 hgr5.no
  obtain ⟨Z1, S6, ap6, hZ1, hNZ1, hG6, no6, ob6, hX2', hX3', aZ2, aZ3⟩ := wF (hX1.keep hgr5) hN1 hG5 (pN ds[k].name) (by simp only [aY, bH]; omega) (hX2.keep hgr5) (hX3.keep hgr5) a12 a13
  have ho6 : S6.obj S.no = some [X1] := by rw [ob6]; exact ho5
  have h6 := ob6 S2.no
  rw [h5] at h6
  have stZ := fun S' => stS S.no 0 hZ1.is S'
  simp only [SXa, Nat.reduceEqDiff, Nat.reduceBEq, P55, t3, yP 0 _ _ _ ho5, aE, h5, uK, aG, aD, aM, aF, kX, ap6, stZ, ho6, bJ, fS]
  have hne : S2.no ≠ S.no := by omega
  have hG7 := hG6.put S.no (.cells [Z1]) (aB _)
  have ho7 : (S6.put S.no (.cells [Z1])).obj S.no = some [Z1] := by simp [aX]
  have h7 : (S6.put S.no (.cells [Z1])).obj S2.no = some [.sc (.string ds[k].name), (kT ds[k])] := by simp [aX, hne, h6]
  have n7 : S.no < (S6.put S.no (.cells [Z1])).no := by show S.no < S6.no; omega
  have hZ7 : OwnV (S6.put S.no (.cells [Z1])) 9 1 Z1 (aN (w1 ++ [ds[k].name])) := hZ1
  have hX27 : OwnV (S6.put S.no (.cells [Z1])) 9 1 X2 (aN w2) := hX2'
  have hX37 : OwnV (S6.put S.no (.cells [Z1])) 9 1 X3 (aN w3) := hX3'
  generalize S6.put S.no (.cells [Z1]) = S7 at hG7 ho7 h7 n7 hZ7 hX27 hX37
  simp only [SXa, Nat.reduceEqDiff, P55, aE, h7, mW, aG, aD, aF, qK]
  have hc0 : gA (ds.drop k) = ds[k].cons.map (fun c => c.name) ++ gA (ds.drop (k + 1)) := by simp only [gA]; rw [dJ hlt, jN]
  have ha0 : jH (ds.drop k) = ds[k].cons.flatMap (fun c => c.args) ++ jH (ds.drop (k + 1)) := by simp only [jH]; rw [dJ hlt, jN]
  have hm0 : cL (ds.drop k) = ds[k].name :: cL (ds.drop (k + 1)) := by simp only [cL]; rw [dJ hlt, cF]
  rw [hc0, ← pT] at hw2
  rw [ha0, ← pT] at hw3
  have hw1' : (w1 ++ [ds[k].name]) ++ cL (ds.drop (k + 1)) = cL ds := by rw [← hw1, hm0]; simp
  refine bX (fun tm S' N => ∃ (j : Nat) (Y2 Y3 : AV) (v2 v3 : List ByteArray), j ≤ ds[k].cons.length ∧ N = ds[k].cons.length - j ∧ (ds[k].cons.drop j).all okC = ds[k].cons.all okC ∧ (v2 ++ (ds[k].cons.drop j).map (fun c => c.name)) ++ gA (ds.drop (k + 1)) = gA ds ∧ (v3 ++ (ds[k].cons.drop j).flatMap (fun c => c.args)) ++ jH (ds.drop (k + 1)) = jH ds ∧
   v2.length ≤ 20 * k + j ∧ v3.length ≤ 60 * k + 3 * j ∧ OwnV S' 9 1 Z1 (aN (w1 ++ [ds[k].name])) ∧ OwnV S' 9 1 Y2 (aN v2) ∧ OwnV S' 9 1 Y3 (aN v3) ∧ cY S Y2 ∧ cY S Y3 ∧ Apart Z1 Y2 ∧ Apart Z1 Y3 ∧ Apart Y2 Y3 ∧ S'.obj S.no = some [Z1] ∧ Grow S S' aA ∧ S.no < S'.no ∧
   getT tm 0 = tx ∧ getT tm 3 = .ptr S.no 0 ∧ getT tm 4 = Y2 ∧ getT tm 5 = Y3 ∧ getT tm 12 = tx ∧ getT tm 13 = .sc (.int .i64 (ds.length : Nat)) ∧ getT tm 14 = .sc (.int .i64 (k : Int)) ∧ getT tm 45 = (kT ds[k]) ∧ getT tm 46 = .sc (.int .i64 (ds[k].cons.length : Nat)) ∧ getT tm 47 = .sc (.int .i64 (j : Int))) ds[k].cons.length
   ⟨0, X2, X3, w2, w3, by omega, by omega, by rw [cJ], hw2, hw3, by omega, by omega, hZ7, hX27, hX37, hN2, hN3, aZ2, aZ3, a23, ho7, hG7, n7, by simp [aO, t0, t3, t4, t5, t12, t13, t14]⟩ ?_
  rintro tm S8 N ⟨j, Y2, Y3, v2, v3, hj, rfl, hall2, hv2, hv3, hm2, hm3, hZ8, hY2, hY3, hN2, hN3, aZ2, aZ3, a23, ho8, hG8, n8, t0, t3, t4, t5, t12, t13, t14, t45, t46, t47⟩
  by_cases hjt : j < ds[k].cons.length
  case neg =>
   have hje : j = ds[k].cons.length := by omega
   rw [hje, fA] at hall2 hv2 hv3
   simp only [jQ, List.flatMap_nil, dK] at hv2 hv3
   have hall3 : (ds.drop (k + 1)).all okD = ds.all okD := by rw [← hall, ← hall2]; rfl
   simp only [SXa, reduceCtorEq, Nat.reduceEqDiff, b55_16, t0, t3, t4, t5, t12, t13, t14, t46, t47, bO hjt, wk]
   exact ⟨ds.length - (k + 1), by omega, k + 1, Z1, Y2, Y3, w1 ++ [ds[k].name], v2, v3, by omega, rfl, hall3, hw1', hv2, hv3, by simp only [dL, aY, bH]; omega, by omega, by omega, hZ8, hY2, hY3, hNZ1, hN2, hN3, aZ2, aZ3, a23, ho8, hG8, n8, by simp []⟩
  case pos =>
  have wj := cG hjt (by omega)
  rw [zG _ hjt] at hall2
  have hd2 : okC ds[k].cons[j] = false → iM ds = false := fun h => hd1 (by rw [← hall2, h]; rfl)
  have hG9 := (hG8.born 78 [.sc (.string ⟨#[]⟩), .sc (.slice none 0 0)]).put S8.no (.cells (cH ds[k].cons[j])) hG8.no
  have h9 : ((S8.born 78 [.sc (.string ⟨#[]⟩), .sc (.slice none 0 0)]).put S8.no (.cells (cH ds[k].cons[j]))).obj S8.no = some (cH ds[k].cons[j]) := by simp [aX]
  have hgr9 : Grow S8 ((S8.born 78 [.sc (.string ⟨#[]⟩), .sc (.slice none 0 0)]).put S8.no (.cells (cH ds[k].cons[j]))) aA := ((Grow.refl hG8.fresh aA).born _ _).put S8.no _ (aB _)
  have n9 : S8.no < ((S8.born 78 [.sc (.string ⟨#[]⟩), .sc (.slice none 0 0)]).put S8.no (.cells (cH ds[k].cons[j]))).no := bJ _
  simp only [cH] at hG9 h9 hgr9 n9
  simp only [SXa, Nat.reduceEqDiff, Nat.reduceAdd, b55_16, P55, t45, t46, t47, bL hjt, rO hjt, cH, wx0, stC, bE, aD, aF, aB, dM]
  generalize ((S8.born 78 [.sc (.string ⟨#[]⟩), .sc (.slice none 0 0)]).put S8.no (.cells [.sc (.string ds[k].cons[j].name), (kV ds[k].cons[j])])) = S9 at hG9 h9 hgr9 n9
  simp only [SXa, Nat.reduceEqDiff, P55, aE, h9, uL, aG, aD, aM]
  refine aT (wf8 _) hG9 (fun Sa ga hGa => ?_)
  have ha := ga.objs h9 n9
  have hgra := hgr9.two ga
  cases c5 : lZ ds[k].cons[j].name with
  | false =>
   simp only [SXa, Nat.reduceEqDiff]
   exact ⟨by rw [hd2 (by simp only [okC, c5, bK])], hGa⟩
  | true =>
  simp only [SXa, Nat.reduceEqDiff, P55, aE, ha, oE, aG, aD, aF, mD]
  cases c6 : decide ((3 : Int) < (ds[k].cons[j].args.length : Int)) with
  | true =>
   have c6' : decide (ds[k].cons[j].args.length ≤ 3) = false := by simp only [bZ, dP] at c6 ⊢; omega
   simp only [SXa, Nat.reduceEqDiff]
   exact ⟨by rw [hd2 (by simp only [okC, c6', dY])], hGa⟩
  | false =>
  have c6n : ds[k].cons[j].args.length ≤ 3 := by simp only [dP] at c6; omega
  have hok2 : okC ds[k].cons[j] = true := by simp only [okC, c5, iI c6n, bY]
  obtain ⟨Zb, Sb, apb, hZb, hNb, hGb, nob, obb, hZ1b, hY3b, aZb1, aZb3⟩ := wF (hY2.keep hgra) hN2 hGa (pN ds[k].cons[j].name) (by simp only [aY, bH]; omega) (hZ8.keep hgra) (hY3.keep hgra) aZ2.symm a23
  obtain ⟨Zc, Sc, apc, hZc, hNc, hGc, noc, obc, hZ1c, hZbc, aZc1, aZcb⟩ := wF hY3b hN3 hGb (isAr ds[k].cons[j]) (by omega) hZ1b hZb aZ3.symm aZb3.symm
  have hb := obb S8.no
  rw [ha] at hb
  have hoc : Sc.obj S.no = some [Z1] := by rw [obc, obb]; exact hgra.objs ho8 n8
  have nc : S.no < Sc.no := by rw [noc, nob]; exact aU n8 hgra.no
  simp only [SXa, reduceCtorEq, Nat.reduceEqDiff, Nat.reduceBEq, P55, t0, t3, t4, t5, t12, t13, t14, t45, t46, t47, aE, ha, hb, uL, oE, aG, aD, aM, aF, kX, apb, apc, wj]
  rw [dJ hjt, cF] at hv2
  rw [dJ hjt, jN] at hv3
  exact ⟨ds[k].cons.length - (j + 1), by omega, j + 1, Zb, Zc, v2 ++ [ds[k].cons[j].name], v3 ++ ds[k].cons[j].args, by omega, rfl, by rw [← hall2, hok2, cI], by rw [← hv2]; simp, by rw [← hv3]; simp, by simp only [dL, aY, bH]; omega, by simp only [dL]; omega, hZ1c, hZbc, hZc, hNb, hNc, aZb1.symm, aZc1.symm, aZcb.symm, hoc, hGc, nc, by simp []⟩
theorem bldWk {nx tx : AV} {xs ys : List AV} (h1 : IsV 7 nx xs) (h2 : IsV 2 tx ys) (S : St) : jG E 105 [(0, .agg [nx, tx])] S = some (.agg [nx, tx, .sc (.int .i64 0)], S) := by
 rcases h1 with ⟨rfl, _⟩ | ⟨i, rfl⟩ <;> rcases h2 with ⟨rfl, _⟩ | ⟨j, rfl⟩ <;> kernel_rfl
theorem wt6 {ns : List NodeV} {ds : List DeclV} {d : Nat} (ih : ∀ p a z, bC ns ds d p a = some z → ∀ i, a ≤ i → i < z → ∃ d' p' z', d' ≤ d ∧ bC ns ds d' p' i = some z') (pat m : Bool) : ∀ (l : List Int) (j nx z : Nat), bV (bC ns ds d) pat m l j nx = some z → ∀ i, nx ≤ i → i < z → ∃ d' p' z', d' ≤ d ∧ bC ns ds d' p' i = some z'
 | [], j, nx, z, h, i, h1, h2 => by
  simp only [bV, aI] at h
  omega
 | k :: r, j, nx, z, h, i, h1, h2 => by
  unfold bV at h
  cases hb : (k == ((nx : Nat) : Int)) with
  | false => rw [hb] at h; cases h
  | true =>
   rw [hb, aH] at h
   cases hq : bC ns ds d (pat || (m && cN ((j : Nat) : Int))) nx with
   | none => rw [hq] at h; cases h
   | some z1 =>
    rw [hq] at h
    by_cases hi : i < z1
    · exact ih _ _ _ hq i h1 hi
    · exact wt6 ih pat m r (j + 1) z1 z h i (by omega) h2
theorem vO (ns : List NodeV) (ds : List DeclV) : ∀ (d : Nat) (pat : Bool) (a z : Nat), bC ns ds d pat a = some z → ∀ i, a ≤ i → i < z → ∃ d' p' z', d' ≤ d ∧ bC ns ds d' p' i = some z'
 | 0, pat, a, z, h, i, h1, h2 => by cases h
 | d + 1, pat, a, z, h, i, h1, h2 => by
  by_cases hi : i = a
  · subst hi
    exact ⟨d + 1, pat, z, aB _, h⟩
  · unfold bC at h
    cases hx : ns[a]? with
    | none => rw [hx] at h; cases h
    | some x =>
     rw [hx] at h
     simp only [bB] at h
     split at h
     · cases h
     · obtain ⟨d', p', z', k1, k2⟩ := wt6 (vO ns ds d) pat (x.kind == 11) x.kids 0 (a + 1) z h i (by omega) h2
       exact ⟨d', p', z', by omega, k2⟩
theorem yU (t : TreeV) (nx tx : AV) (ht : TreeIs nx tx t) : Ans E 22 [.agg [nx, tx]] (.sc (.bool (fJ t))) := bU fun S hS => by
 refine ev22 rfl ?_
 have hG := (Grow.refl hS aA).born 26 [nx, tx]
 have hT : (S.born 26 [nx, tx]).obj S.no = some [nx, tx] := by simp [bE]
 have hn : S.no < (S.born 26 [nx, tx]).no := bJ _
 simp only [SXa, Nat.reduceAdd, P22, dT, dZ]
 generalize S.born 26 [nx, tx] = S0 at hG hT hn
 simp only [SXa, reduceCtorEq, Nat.reduceEqDiff, P22, aE, hT, gS, aG, aD, aM, eY ht.nodes]
 cases c1 : decide ((t.nodes.length : Int) < 1) with
 | true =>
  have c1' : decide (1 ≤ t.nodes.length) = false := by simp only [bZ, dP] at c1 ⊢; omega
  simp only [SXa, reduceCtorEq, Nat.reduceEqDiff]
  exact ⟨by simp only [fJ, c1', bK], hG⟩
 | false =>
 have c1' : decide (1 ≤ t.nodes.length) = true := by simp only [bZ, dP] at c1 ⊢; omega
 simp only [SXa, reduceCtorEq, Nat.reduceEqDiff, P22, aE, hT, gS, aG, aD, aM, eY ht.nodes]
 cases c2 : decide ((1000 : Int) < (t.nodes.length : Int)) with
 | true =>
  have c2' : decide (t.nodes.length ≤ 1000) = false := by simp only [bZ, dP] at c2 ⊢; omega
  simp only [SXa, reduceCtorEq, Nat.reduceEqDiff]
  exact ⟨by simp only [fJ, c2', dY, bK], hG⟩
 | false =>
 have c2n : t.nodes.length ≤ 1000 := by simp only [dP] at c2; omega
 have c2' : decide (t.nodes.length ≤ 1000) = true := iI c2n
 simp only [SXa, reduceCtorEq, Nat.reduceEqDiff, P22, aE, hT, kQ, aG, aD, aF]
 refine aT (kt5 t.types tx ht.types ht.lt ht.lc) hG (fun S1 g1 hG1 => ?_)
 have hT1 := g1.objs hT hn
 have hn1 := aU hn g1.no
 cases c3 : iM t.types with
 | false =>
  simp only [SXa, reduceCtorEq, Nat.reduceEqDiff]
  exact ⟨by simp only [fJ, c3, dY, bK], hG1⟩
 | true =>
 have eg : fJ t = ((match bC t.nodes t.types 60 false 0 with | some z => ((z : Int) == (t.nodes.length : Int)) | none => false) && nL t.nodes t.nodes.length 0) := by
  simp only [fJ, c1', c2', c3, cI]
  rfl
 have hGw := hG1.born 105 [nx, tx, .sc (.int .i64 0)]
 have hW : (S1.born 105 [nx, tx, .sc (.int .i64 0)]).obj S1.no = some [nx, tx, .sc (.int .i64 ((0 : Nat) : Int))] := by simp [bE]
 have hTw : (S1.born 105 [nx, tx, .sc (.int .i64 0)]).obj S.no = some [nx, tx] := by
  have : S.no ≠ S1.no := by omega
  simp [bE, this, hT1]
 have nw : S1.no < (S1.born 105 [nx, tx, .sc (.int .i64 0)]).no := bJ _
 simp only [SXa, reduceCtorEq, Nat.reduceEqDiff, Nat.reduceAdd, P22, aE, hT1, aD, aF, aB, lF, bldWk ht.nodes ht.types, dT, dZ]
 generalize S1.born 105 [nx, tx, .sc (.int .i64 0)] = S2 at hGw hW hTw nw
 have gr := Grow.raise hGw.fresh 13 aA
 have hG3 := hGw.two gr
 have hW3 := gr.objs hW nw
 have hT3 := gr.objs hTw (by omega)
 have n3 := aU nw gr.no
 generalize S2.raise 13 = S3 at gr hG3 hW3 hT3 n3
 obtain ⟨r4, S4, e4, w4, g4⟩ := walk_ok t nx tx ht 60 (aB _) false 0 (by omega) S3 S1.no hG3.fresh n3 hW3
 have hG4 := hG3.but g4 (by have := hG1.no; omega)
 have hT4 := g4.objs hT3 (by omega) (by omega)
 have n4 : S.no < S4.no := by have := g4.no; omega
 have e4 : EvA E 56 [.ptr S1.no 0, .sc (.bool false), .sc (.int .i64 0)] S3 r4 S4 := e4
 refine cC e4 ?_
 rw [eg]
 cases hw : bC t.nodes t.types 60 false 0 with
 | none =>
  rw [hw] at w4
  simp only [sO] at w4
  subst w4
  simp only [SXa, reduceCtorEq, Nat.reduceEqDiff]
  exact ⟨by first | rfl | simp, hG4⟩
 | some z =>
 rw [hw] at w4
 obtain ⟨rfl, hz4⟩ := w4
 simp only [SXa, reduceCtorEq, Nat.reduceEqDiff, P22, mM, mY, tS, gS, aG, aE, hz4, hT4, aD, aM, aF, eY ht.nodes]
 cases c5 : ((z : Int) == (t.nodes.length : Int)) with
 | false =>
  have c5' : ((z : Int) != (t.nodes.length : Int)) = true := by rw [bne, c5]; rfl
  simp only [SXa, reduceCtorEq, Nat.reduceEqDiff, c5']
  exact ⟨by first | rfl | simp, hG4⟩
 | true =>
 have c5' : ((z : Int) != (t.nodes.length : Int)) = false := by rw [bne, c5]; rfl
 have hz : z = t.nodes.length := by have : (z : Int) = (t.nodes.length : Int) := by simpa using c5
                                    omega
 simp only [SXa, reduceCtorEq, Nat.reduceEqDiff, P22, c5', aE, hT4, gS, aG, aD, aM, eY ht.nodes]
 rw [cI]
 refine bX (fun tm S' N => ∃ k : Nat, k ≤ t.nodes.length ∧ N = t.nodes.length - k ∧ nL t.nodes (t.nodes.length - k) k = nL t.nodes t.nodes.length 0 ∧ S'.obj S.no = some [nx, tx] ∧ Grow S S' aA ∧ S.no < S'.no ∧ getT tm 1 = .ptr S.no 0 ∧ getT tm 39 = nx ∧ getT tm 40 = .sc (.int .i64 (t.nodes.length : Nat)) ∧ getT tm 41 = .sc (.int .i64 (k : Int))) t.nodes.length
  ⟨0, by omega, by omega, rfl, hT4, hG4, n4, by simp [aO]⟩ ?_
 rintro tm S5 N ⟨k, hk, rfl, hp, hT5, hG5, n5, t1, t39, t40, t41⟩
 by_cases hlt : k < t.nodes.length
 case neg =>
  have hke : k = t.nodes.length := by omega
  rw [hke, Nat.sub_self, nL] at hp
  simp only [SXa, Nat.reduceEqDiff, b22_12, t40, t41, bO hlt]
  exact ⟨by rw [← hp], hG5⟩
 case pos =>
 have wk := cG hlt (by omega)
 have hx : t.nodes[k]? = some t.nodes[k] := cX hlt
 have hpk : nL t.nodes (t.nodes.length - k) k = bif gM t.nodes[k].kind && eA [] (cV t.nodes 60 k) then false else nL t.nodes (t.nodes.length - (k + 1)) (k + 1) := by
  have : t.nodes.length - k = (t.nodes.length - (k + 1)) + 1 := by omega
  rw [this, nL, badP, hx]
 rw [hpk] at hp
 have hG6 := (hG5.born 36 zN).put S5.no (.cells (aL t.nodes[k])) hG5.no
 have hN6 : ((S5.born 36 zN).put S5.no (.cells (aL t.nodes[k]))).obj S5.no = some (aL t.nodes[k]) := by simp [aX]
 have hT6 : ((S5.born 36 zN).put S5.no (.cells (aL t.nodes[k]))).obj S.no = some [nx, tx] := by
  have : S.no ≠ S5.no := by omega
  simp [aX, bE, this, hT5]
 have n6 : S.no < ((S5.born 36 zN).put S5.no (.cells (aL t.nodes[k]))).no := Nat.lt_succ_of_lt n5
 simp only [SXa, Nat.reduceEqDiff, b22_12, P22, t39, t40, t41, bL hlt, iB ht.nodes hlt, lU, lT, tV, stN, bE, aD, aF, oF, oB, dK, aB]
 generalize (S5.born 36 zN).put S5.no (.cells (aL t.nodes[k])) = S6 at hG6 hN6 hT6 n6
 simp only [aL] at hN6
 simp only [SXa, Nat.reduceEqDiff, P22, aE, hN6, bS, aG, aD, aM]
 refine aT (kl0 _) hG6 (fun S7 g7 hG7 => ?_)
 have hT7 := g7.objs hT6 n6
 have n7 := aU n6 g7.no
 cases c7 : gM t.nodes[k].kind with
 | false =>
  rw [c7, bK, aK] at hp
  simp only [SXa, Nat.reduceEqDiff, t1, t39, t40, t41, wk]
  exact ⟨t.nodes.length - (k + 1), by omega, k + 1, by omega, rfl, hp, hT7, hG7, n7, by simp []⟩
 | true =>
 rw [c7, cI] at hp
 obtain ⟨d', p', z', hd', hw'⟩ := vO _ _ _ _ _ _ hw k (by omega) (by omega)
 obtain ⟨r8, S8, e8, ⟨hX, _⟩, g8⟩ := yX t nx tx ht d' 60 hd' p' k z' hw' S7 hG7.fresh
 have hlb := tG _ _ d' 60 hd' _ _ _ hw'
 have hzb := (cT _ _ _ _ _ _ hw').2
 have hT8 := g8.objs hT7 n7
 have n8 := aU n7 g8.no
 simp only [SXa, Nat.reduceEqDiff, Nat.reduceAdd, P22, t1, aE, hT7, aD, aF, aB]
 refine cC e8 ?_
 simp only [SXa, Nat.reduceEqDiff, P22]
 refine aT (xi6 _ r8 hX.is (by omega)) (hG7.two g8) (fun S9 g9 hG9 => ?_)
 have hT9 := g9.objs hT8 n8
 have n9 := aU n8 g9.no
 cases c8 : eA [] (cV t.nodes 60 k) with
 | true =>
  rw [c8, aH] at hp
  simp only [SXa, Nat.reduceEqDiff]
  exact ⟨by rw [← hp], hG9⟩
 | false =>
  rw [c8, aK] at hp
  simp only [SXa, Nat.reduceEqDiff, t1, t39, t40, t41, wk]
  exact ⟨t.nodes.length - (k + 1), by omega, k + 1, by omega, rfl, hp, hT9, hG9, n9, by simp []⟩
end Go.Proofs.YthjaoinieikjdaaGreatDoor
