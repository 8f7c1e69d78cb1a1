/-
  Trees: the walks (may a node be, but for its kids' own?).
-/
import Derived.Test.YthjaoinieikjdaaGreatDoorUAZ
import Derived.Test.YthjaoinieikjdaaGreatDoorUAY
set_option maxHeartbeats 32000000
set_option linter.unusedSimpArgs false
set_option linter.unusedVariables false
set_option maxRecDepth 100000
namespace Go.Proofs.YthjaoinieikjdaaGreatDoor
open Go.Abs
theorem zp2 (l : List Int) : (cE l).length = l.length := by simp [cE]
theorem lS (l : List ByteArray) : (aN l).length = l.length := by simp [aN]
theorem ww0 (name : ByteArray) : ∀ (l : List ConV) (k c : Nat), mG name l k = some c → k ≤ c ∧ c - k < l.length
 | [], k, c, h => by cases h
 | x :: r, k, c, h => by
  unfold mG at h
  cases hb : (x.name.toList == name.toList) with
  | true =>
   rw [hb] at h
   have := cZ h
   simp only [aY]; omega
  | false =>
   rw [hb] at h
   have := ww0 name r (k + 1) c h
   simp only [aY]; omega
theorem uS (name : ByteArray) : ∀ (l : List DeclV) (k d c : Nat), ofF name l k = some (d, c) → k ≤ d ∧ ∃ h : d - k < l.length, c < l[d - k].cons.length
 | [], k, d, c, h => by cases h
 | x :: r, k, d, c, h => by
  unfold ofF at h
  cases hb : mG name x.cons 0 with
  | some c' =>
   rw [hb] at h
   simp only [aI, aJ] at h
   obtain ⟨rfl, rfl⟩ := h
   have := ww0 name x.cons 0 c' hb
   refine ⟨aB _, by simp, ?_⟩
   simp only [Nat.sub_self, List.getElem_cons_zero]; omega
  | none =>
   rw [hb] at h
   obtain ⟨h1, h2, h3⟩ := uS name r (k + 1) d c h
   have e : d - k = (d - (k + 1)) + 1 := by omega
   refine ⟨by omega, by simp only [aY]; omega, ?_⟩
   simp only [e, List.getElem_cons_succ]
   exact h3
theorem kv3 (t : TreeV) (nx tx : AV) (ht : TreeIs nx tx t) (x : NodeV) (hx : x.kids.length ≤ 2 ^ 40) : Ans E 103 [.agg [nx, tx], .agg (aL x)] (.sc (.bool (eT t.types x))) := bU fun S hS => by
 refine ev103 rfl ?_
 have hG := ((Grow.refl hS aA).born 26 [nx, tx]).born 36 (aL x)
 have hT : ((S.born 26 [nx, tx]).born 36 (aL x)).obj S.no = some [nx, tx] := by simp [bE, lG]
 have hN : ((S.born 26 [nx, tx]).born 36 (aL x)).obj (S.no + 1) = some (aL x) := by simp [bE, lG]
 have hn : S.no + 1 < ((S.born 26 [nx, tx]).born 36 (aL x)).no := bJ _
 simp only [SXa, reduceCtorEq, Nat.reduceEqDiff, Nat.reduceAdd, P103, dT, dZ, lG]
 generalize (S.born 26 [nx, tx]).born 36 (aL x) = S0 at hG hT hN hn
 simp only [aL] at hN
 simp only [SXa, reduceCtorEq, Nat.reduceEqDiff, P103, aE, hN, bS, aG, aD, aM]
 cases c1 : decide (x.kind < 1) with
 | true =>
  simp only [SXa, reduceCtorEq, Nat.reduceEqDiff]
  exact ⟨by simp only [eT, c1, cA, aH], hG⟩
 | false =>
 cases c2 : decide (26 < x.kind) with
 | true =>
  simp only [SXa, reduceCtorEq, Nat.reduceEqDiff, P103, aE, hN, bS, aG, aD, aM, c2]
  exact ⟨by simp only [eT, c1, c2, cA, cR, aH], hG⟩
 | false =>
 simp only [SXa, reduceCtorEq, Nat.reduceEqDiff, Nat.reduceAdd, P103, aE, hN, bS, aG, aD, aM, aF, aB, c2]
 refine aT (ka7 x) hG (fun S1 g1 hG1 => ?_)
 have hT1 := g1.objs hT (by omega)
 have hN1 := g1.objs hN hn
 have hn1 := aU hn g1.no
 cases c3 : iK x with
 | false =>
  simp only [SXa, reduceCtorEq, Nat.reduceEqDiff]
  exact ⟨by simp only [eT, c1, c2, c3, kC, cA, cR, aH], hG1⟩
 | true =>
 simp only [SXa, reduceCtorEq, Nat.reduceEqDiff, Nat.reduceAdd, P103, aE, hN1, aD, aF, aB]
 refine aT (kg6 x) hG1 (fun S2 g2 hG2 => ?_)
 have hT2 := g2.objs hT1 (by omega)
 have hN2 := g2.objs hN1 hn1
 have hn2 := aU hn1 g2.no
 cases c4 : tP x with
 | false =>
  simp only [SXa, reduceCtorEq, Nat.reduceEqDiff]
  exact ⟨by simp only [eT, c1, c2, c3, c4, kC, iC, fU, cR, aH], hG2⟩
 | true =>
 simp only [SXa, reduceCtorEq, Nat.reduceEqDiff, P103, aE, hN2, bS, aG, aD, aM]
 refine aT (jb3 x.kind) hG2 (fun S3 g3 hG3 => ?_)
 have hT3 := g3.objs hT2 (by omega)
 have hN3 := g3.objs hN2 hn2
 have hn3 := aU hn2 g3.no
 have e0 : eT t.types x = bif decide ((x.kids.length : Int) < (lM x.kind).1) || decide ((lM x.kind).2 < (x.kids.length : Int)) || (x.kind == 11 && !cN (x.kids.length : Int)) then false else bif x.kind != 5 && x.kind != 26 then true else match ofF x.name t.types 0 with | some (d, c) => (((mV t.types d c : Nat) : Int) == (x.kids.length : Int)) | none => false := by
  simp only [eT, c1, c2, c3, c4, iC, fU, aK]
  rfl
 simp only [SXa, reduceCtorEq, Nat.reduceEqDiff, P103, aE, hN3, bS, aG, aD, aF, dO]
 rw [e0]
 cases c5 : decide ((x.kids.length : Int) < (lM x.kind).1) with
 | true =>
  simp only [SXa, reduceCtorEq, Nat.reduceEqDiff]
  exact ⟨by simp only [cA, aH], hG3⟩
 | false =>
 cases c6 : decide ((lM x.kind).2 < (x.kids.length : Int)) with
 | true =>
  simp only [SXa, reduceCtorEq, Nat.reduceEqDiff, P103, aE, hN3, bS, aG, aD, aF, dO, c6]
  exact ⟨by simp only [cR, cA, aH], hG3⟩
 | false =>
 simp only [SXa, reduceCtorEq, Nat.reduceEqDiff, P103, aE, hN3, bS, aG, aD, aM, aF, dO, c6]
 cases c7 : (x.kind == 11) with
 | true =>
  simp only [SXa, reduceCtorEq, Nat.reduceEqDiff, P103, aE, hN3, bS, aG, aD, aF, dO]
  refine aT (wp9 _) hG3 (fun S4 g4 hG4 => ?_)
  have hT4 := g4.objs hT3 (by omega)
  have hN4 := g4.objs hN3 hn3
  have hn4 := aU hn3 g4.no
  cases c8 : cN (x.kids.length : Int) with
  | false =>
   simp only [SXa, reduceCtorEq, Nat.reduceEqDiff]
   exact ⟨by first | rfl | simp, hG4⟩
  | true =>
   simp only [SXa, reduceCtorEq, Nat.reduceEqDiff, P103, aE, hN4, bS, aG, aD, aM]
   cases c9 : (x.kind != 5) with
   | true =>
    cases c10 : (x.kind != 26) with
    | true =>
     simp only [SXa, reduceCtorEq, Nat.reduceEqDiff, P103, aE, hN4, bS, aG, aD, aM, c10]
     exact ⟨by first | rfl | simp, hG4⟩
    | false =>
     simp only [SXa, reduceCtorEq, Nat.reduceEqDiff, Nat.reduceAdd, P103, aE, hN4, hT4, bS, aG, aD, aM, aF, aB, c10]
     refine aT (wL t nx tx ht x.name) hG4 (fun S6 g6 hG6 => ?_)
     have hT6 := g6.objs hT4 (by omega)
     have hN6 := g6.objs hN4 hn4
     cases ho : ofF x.name t.types 0 with
     | none =>
      simp only [SXa, reduceCtorEq, Nat.reduceEqDiff, ofA]
      exact ⟨by first | rfl | simp, hG6.two (Grow.raise hG6.fresh _ aA)⟩
     | some dc =>
      obtain ⟨d, c⟩ := dc
      obtain ⟨_, hd, hc⟩ := uS x.name t.types 0 d c ho
      simp only [Nat.sub_zero] at hd hc
      have ea : mV t.types d c = t.types[d].cons[c].args.length := by simp [mV, hd, hc]
      simp only [SXa, reduceCtorEq, Nat.reduceEqDiff, P103, ofA, eG, aE, hT6, hN6, kQ, bS, aG, dN, aD, aF, nC ht.types hd, dC, mW, rO hc, cH, oE, mD, dO]
      exact ⟨by rw [ea]; rfl, hG6.two (Grow.raise hG6.fresh _ aA)⟩
   | false =>
    simp only [SXa, reduceCtorEq, Nat.reduceEqDiff, Nat.reduceAdd, P103, aE, hN4, hT4, bS, aG, aD, aF, aB]
    refine aT (wL t nx tx ht x.name) hG4 (fun S6 g6 hG6 => ?_)
    have hT6 := g6.objs hT4 (by omega)
    have hN6 := g6.objs hN4 hn4
    cases ho : ofF x.name t.types 0 with
    | none =>
     simp only [SXa, reduceCtorEq, Nat.reduceEqDiff, ofA]
     exact ⟨by first | rfl | simp, hG6.two (Grow.raise hG6.fresh _ aA)⟩
    | some dc =>
     obtain ⟨d, c⟩ := dc
     obtain ⟨_, hd, hc⟩ := uS x.name t.types 0 d c ho
     simp only [Nat.sub_zero] at hd hc
     have ea : mV t.types d c = t.types[d].cons[c].args.length := by simp [mV, hd, hc]
     simp only [SXa, reduceCtorEq, Nat.reduceEqDiff, P103, ofA, eG, aE, hT6, hN6, kQ, bS, aG, dN, aD, aF, nC ht.types hd, dC, mW, rO hc, cH, oE, mD, dO]
     exact ⟨by rw [ea]; rfl, hG6.two (Grow.raise hG6.fresh _ aA)⟩
 | false =>
  simp only [SXa, reduceCtorEq, Nat.reduceEqDiff, P103, aE, hN3, bS, aG, aD, aM]
  cases c9 : (x.kind != 5) with
  | true =>
   cases c10 : (x.kind != 26) with
   | true =>
    simp only [SXa, reduceCtorEq, Nat.reduceEqDiff, P103, aE, hN3, bS, aG, aD, aM, c10]
    exact ⟨by first | rfl | simp, hG3⟩
   | false =>
    simp only [SXa, reduceCtorEq, Nat.reduceEqDiff, Nat.reduceAdd, P103, aE, hN3, hT3, bS, aG, aD, aM, aF, aB, c10]
    refine aT (wL t nx tx ht x.name) hG3 (fun S6 g6 hG6 => ?_)
    have hT6 := g6.objs hT3 (by omega)
    have hN6 := g6.objs hN3 hn3
    cases ho : ofF x.name t.types 0 with
    | none =>
     simp only [SXa, reduceCtorEq, Nat.reduceEqDiff, ofA]
     exact ⟨by first | rfl | simp, hG6.two (Grow.raise hG6.fresh _ aA)⟩
    | some dc =>
     obtain ⟨d, c⟩ := dc
     obtain ⟨_, hd, hc⟩ := uS x.name t.types 0 d c ho
     simp only [Nat.sub_zero] at hd hc
     have ea : mV t.types d c = t.types[d].cons[c].args.length := by simp [mV, hd, hc]
     simp only [SXa, reduceCtorEq, Nat.reduceEqDiff, P103, ofA, eG, aE, hT6, hN6, kQ, bS, aG, dN, aD, aF, nC ht.types hd, dC, mW, rO hc, cH, oE, mD, dO]
     exact ⟨by rw [ea]; rfl, hG6.two (Grow.raise hG6.fresh _ aA)⟩
  | false =>
   simp only [SXa, reduceCtorEq, Nat.reduceEqDiff, Nat.reduceAdd, P103, aE, hN3, hT3, bS, aG, aD, aF, aB]
   refine aT (wL t nx tx ht x.name) hG3 (fun S6 g6 hG6 => ?_)
   have hT6 := g6.objs hT3 (by omega)
   have hN6 := g6.objs hN3 hn3
   cases ho : ofF x.name t.types 0 with
   | none =>
    simp only [SXa, reduceCtorEq, Nat.reduceEqDiff, ofA]
    exact ⟨by first | rfl | simp, hG6.two (Grow.raise hG6.fresh _ aA)⟩
   | some dc =>
    obtain ⟨d, c⟩ := dc
    obtain ⟨_, hd, hc⟩ := uS x.name t.types 0 d c ho
    simp only [Nat.sub_zero] at hd hc
    have ea : mV t.types d c = t.types[d].cons[c].args.length := by simp [mV, hd, hc]
    simp only [SXa, reduceCtorEq, Nat.reduceEqDiff, P103, ofA, eG, aE, hT6, hN6, kQ, bS, aG, dN, aD, aF, nC ht.types hd, dC, mW, rO hc, cH, oE, mD, dO]
    exact ⟨by rw [ea]; rfl, hG6.two (Grow.raise hG6.fresh _ aA)⟩
open Go.Abs
def zN : List AV := [.sc (.int .i64 0), .sc (.int .i64 0), .sc (.string ⟨#[]⟩), .sc (.string ⟨#[]⟩), .sc (.slice none 0 0), .sc (.int .i64 0), .sc (.int .i64 0)]
theorem tV {tm : PM AV} {S : St} {d : Option Tmp} : opV E tm d (.alloc 36) S = some (.ptr S.no 0, S.born 36 zN) := oA (by kernel_rfl)
theorem lU (x : NodeV) : (aL x).length = 7 := rfl
theorem lT (x : NodeV) : (aL x).take 7 = aL x := rfl
theorem stN (l : Nat) (x : NodeV) (S : St) : gZ 7 (.ptr l 0) (.agg (aL x)) S = (S.obj l).bind fun cs => if 7 ≤ cs.length then some (dB, S.put l (.cells (aL x ++ cs.drop 7))) else none := qV 7 l _ (by simp only [aL, lA, List.all_nil, lN, uN]; rfl)
theorem oF : zN.length = 7 := rfl
theorem oB : zN.drop 7 = [] := rfl
theorem eY {x : AV} {l : List NodeV} (h : IsV 7 x (jW l)) (S : St) : iF x S = some (.sc (.int .i64 (l.length : Nat)), S) := by rw [h.len]; simp [jW]
theorem iB {x : AV} {l : List NodeV} (h : IsV 7 x (jW l)) {k : Nat} (hk : k < l.length) (S : St) : bT 7 x (some (k : Int)) S = some (.eptr (aL l[k]) 0, S) := h.idx (v := .agg (aL l[k])) (by simp [jW, hk]) rfl S
theorem iQ {x : NodeV} {k : Nat} (hk : k < x.kids.length) (S : St) : bT 1 (lN x) (some (k : Int)) S = some (.eptr [.sc (.int .i64 x.kids[k])] 0, S) := (isK x).idx (v := .sc (.int .i64 x.kids[k])) (by simp [cE, hk]) rfl S
theorem wO {tm : PM AV} {S : St} {d : Option Tmp} (x : Operand) : opV E tm d (.fieldAddr 105 x 0) S = eD 0 (E.ev tm x) S := eR 105 0 0 (by kernel_rfl) x
theorem tS {tm : PM AV} {S : St} {d : Option Tmp} (x : Operand) : opV E tm d (.fieldAddr 105 x 1) S = eD 2 (E.ev tm x) S := eR 105 1 2 (by kernel_rfl) x
theorem jb2 : E.P.underlying 4 = some .bool := by kernel_rfl
theorem tE (w : Bool → Nat → Option Nat) (pat m : Bool) {l : List Int} {i : Nat} (hi : i < l.length) (nx : Nat) : bV w pat m (l.drop i) i nx = bif l[i] == ((nx : Nat) : Int) then match w (pat || (m && cN ((i : Nat) : Int))) nx with | some z => bV w pat m (l.drop (i + 1)) (i + 1) z | none => none else none := by
 rw [dJ hi, bV]
 rfl
theorem rZ {n : Nat} {w : Bool → Nat → Option Nat} (hw : ∀ p a z, w p a = some z → a < z ∧ z ≤ n) (pat m : Bool) : ∀ (l : List Int) (i nx z : Nat), nx ≤ n → bV w pat m l i nx = some z → nx ≤ z ∧ z ≤ n
 | [], i, nx, z, hn, h => by
  simp only [bV, aI] at h
  omega
 | k :: r, i, nx, z, hn, h => by
  unfold bV at h
  cases hb : (k == ((nx : Nat) : Int)) with
  | false => rw [hb] at h; cases h
  | true =>
   rw [hb, aH] at h
   cases hq : w (pat || (m && cN ((i : Nat) : Int))) nx with
   | none => rw [hq] at h; cases h
   | some z1 =>
    rw [hq] at h
    have h1 := hw _ _ _ hq
    have h2 := rZ hw pat m r (i + 1) z1 z h1.2 h
    omega
theorem cT (ns : List NodeV) (ds : List DeclV) : ∀ (d : Nat) (pat : Bool) (a z : Nat), bC ns ds d pat a = some z → a < z ∧ z ≤ ns.length
 | 0, pat, a, z, h => by cases h
 | d + 1, pat, a, z, h => by
  unfold bC at h
  cases hx : ns[a]? with
  | none => rw [hx] at h; cases h
  | some x =>
   rw [hx] at h
   have ha := (List.getElem?_eq_some_iff.1 hx).1
   simp only [bB] at h
   split at h
   · cases h
   · have := rZ (cT ns ds d) pat (x.kind == 11) x.kids 0 (a + 1) z ha h
     omega
theorem le23 : (2 ≤ 3) = True := eq_true (by decide)
def sO (nx tx : AV) (l : Nat) (S' : St) (r : AV) : Option Nat → Prop
 | some z => r = .sc (.bool true) ∧ S'.obj l = some [nx, tx, .sc (.int .i64 (z : Nat))]
 | none => r = .sc (.bool false)
theorem walk_ok (t : TreeV) (nx tx : AV) (ht : TreeIs nx tx t) : ∀ (d : Nat), d ≤ 60 → ∀ (pat : Bool) (a : Nat), a ≤ 2 ^ 40 → ∀ (S : St) (l : Nat), S.Fresh → l < S.no → S.obj l = some [nx, tx, .sc (.int .i64 (a : Nat))] →
 ∃ r S', EvA E 56 [.ptr l 0, .sc (.bool pat), .sc (.int .i64 ((60 - d : Nat) : Int))] S r S' ∧ sO nx tx l S' r (bC t.nodes t.types d pat a) ∧ GrowB l S S' := by
 intro d
 induction d with
 | zero =>
  intro hd pat a ha S l hS hl ho
  refine ev56 rfl ?_
  have hG := (Grow.refl hS aA).toB l
  cases c1 : decide ((t.nodes.length : Int) ≤ (a : Int)) with
  | true =>
   simp only [SXa, reduceCtorEq, Nat.reduceEqDiff, Nat.reduceAdd, Nat.reduceSub, P56, mM, mY, wO, tS, gS, aG, aE, ho, aD, aF, aM, eY ht.nodes, c1]
   exact ⟨rfl, hG⟩
  | false =>
   have c2 : decide ((60 : Int) ≤ ((60 - 0 : Nat) : Int)) = true := by decide
   simp only [SXa, reduceCtorEq, Nat.reduceEqDiff, Nat.reduceAdd, Nat.reduceSub, P56, mM, mY, wO, tS, gS, aG, aE, ho, aD, aF, aM, eY ht.nodes, c1, c2]
   exact ⟨rfl, hG⟩
 | succ d ih =>
  intro hd pat a ha S l hS hl ho
  refine ev56 rfl ?_
  have hG := (Grow.refl hS aA).toB l
  by_cases hlt : a < t.nodes.length
  case neg =>
   have c1 : decide ((t.nodes.length : Int) ≤ (a : Int)) = true := by simp only [bZ]; omega
   simp only [SXa, reduceCtorEq, Nat.reduceEqDiff, Nat.reduceAdd, P56, mM, mY, wO, tS, gS, aG, aE, ho, aD, aF, aM, eY ht.nodes, c1]
   have : t.nodes[a]? = none := mJ (by omega)
   exact ⟨by simp only [bC, this, sO], hG⟩
  case pos =>
  have c1 : decide ((t.nodes.length : Int) ≤ (a : Int)) = false := by simp only [dP]; omega
  have c2 : decide ((60 : Int) ≤ ((60 - (d + 1) : Nat) : Int)) = false := by simp only [dP]; omega
  have hx : t.nodes[a]? = some t.nodes[a] := cX hlt
  have hkl := ht.lk _ (fE hlt)
  have hb := ((Grow.refl hS aA).born 36 zN).put S.no (.cells (aL t.nodes[a])) (aB _)
  have hN : ((S.born 36 zN).put S.no (.cells (aL t.nodes[a]))).obj S.no = some (aL t.nodes[a]) := by simp [aX]
  have hO : ((S.born 36 zN).put S.no (.cells (aL t.nodes[a]))).obj l = some [nx, tx, .sc (.int .i64 (a : Nat))] := hb.objs ho hl
  have hn : S.no < ((S.born 36 zN).put S.no (.cells (aL t.nodes[a]))).no := bJ _
  simp only [SXa, reduceCtorEq, Nat.reduceEqDiff, Nat.reduceAdd, P56, mM, mY, wO, tS, gS, aG, aE, ho, aD, aF, aM, eY ht.nodes, c1, c2, iB ht.nodes hlt, lU, lT, tV, stN, bE, oF, oB, dK, aB]
  generalize (S.born 36 zN).put S.no (.cells (aL t.nodes[a])) = S1 at hb hN hO hn
  have gr := Grow.raise hb.fresh 14 aA
  have hb2 := hb.two gr
  have hN2 := gr.objs hN hn
  have hn2 := aU hn gr.no
  have hO2 := hb2.objs ho hl
  simp only [aL] at hN2
  simp only [SXa, reduceCtorEq, Nat.reduceEqDiff, P56, aE, hN2, bS, aG, aD, aM]
  generalize S1.raise 14 = S2 at hb2 hN2 hn2 hO2
  refine aT (kl0 _) hb2 (fun S3 g3 hb3 => ?_)
  have hN3 := g3.objs hN2 hn2
  have hn3 := aU hn2 g3.no
  have hO3 := hb3.objs ho hl
  cases c3 : (gM t.nodes[a].kind != pat) with
  | true =>
   simp only [SXa, reduceCtorEq, Nat.reduceEqDiff, yY _ jb2, c3]
   exact ⟨by simp only [bC, hx, c3, cA, aH, sO], hb3.toB l⟩
  | false =>
  simp only [SXa, reduceCtorEq, Nat.reduceEqDiff, Nat.reduceAdd, P56, yY _ jb2, c3, mM, mY, wO, aG, aE, hO3, hN3, aD, aF, aM, aB, le23]
  refine aT (kv3 t nx tx ht t.nodes[a] hkl) hb3 (fun S4 g4 hb4 => ?_)
  have hN4 := g4.objs hN3 hn3
  have hn4 := aU hn3 g4.no
  have hO4 := hb4.objs ho hl
  cases c4 : eT t.types t.nodes[a] with
  | false =>
   simp only [SXa, reduceCtorEq, Nat.reduceEqDiff]
   exact ⟨by simp only [bC, hx, c4, kC, cR, aH, sO], hb4.toB l⟩
  | true =>
  have e0 : bC t.nodes t.types (d + 1) pat a = bV (bC t.nodes t.types d) pat (t.nodes[a].kind == 11) t.nodes[a].kids 0 (a + 1) := by
   simp only [bC, hx, c3, c4, iC, dD, aK]
  have hne : S.no ≠ l := by omega
  have wa : IntKind.i64.wrap ((a : Int) + 1) = ((a + 1 : Nat) : Int) := cG hlt (by have := ht.ln; omega)
  have hB := (hb4.toB l).put (.cells [nx, tx, .sc (.int .i64 ((a + 1 : Nat) : Int))])
  have hO5 : (S4.put l (.cells [nx, tx, .sc (.int .i64 ((a + 1 : Nat) : Int))])).obj l = some [nx, tx, .sc (.int .i64 ((a + 1 : Nat) : Int))] := by simp [aX]
  have hN5 : (S4.put l (.cells [nx, tx, .sc (.int .i64 ((a + 1 : Nat) : Int))])).obj S.no = some [.sc (.int .i64 t.nodes[a].kind), .sc (.int .i64 t.nodes[a].n), .sc (.string t.nodes[a].name), .sc (.string t.nodes[a].param), (lN t.nodes[a]), .sc (.int .i64 t.nodes[a].frm), .sc (.int .i64 t.nodes[a].to)] := by simp [aX, hne, hN4]
  have hn5 : S.no < (S4.put l (.cells [nx, tx, .sc (.int .i64 ((a + 1 : Nat) : Int))])).no := hn4
  simp only [SXa, reduceCtorEq, Nat.reduceEqDiff, Nat.reduceAdd, P56, mM, mY, tS, aG, aE, hO4, wa, jC, aD, aF, bJ, fS, kY]
  generalize S4.put l (.cells [nx, tx, .sc (.int .i64 ((a + 1 : Nat) : Int))]) = S5 at hB hO5 hN5 hn5
  simp only [SXa, reduceCtorEq, Nat.reduceEqDiff, P56, aE, hN5, bS, aG, aD, aF, dO]
  have ww : IntKind.i64.wrap (((60 - (d + 1) : Nat) : Int) + 1) = ((60 - d : Nat) : Int) := by rw [wrap_i64 (by omega) (by omega)]; omega
  refine bX (fun tm S' N => ∃ i z : Nat, i ≤ t.nodes[a].kids.length ∧ N = t.nodes[a].kids.length - i ∧ z ≤ t.nodes.length ∧ bV (bC t.nodes t.types d) pat (t.nodes[a].kind == 11) (t.nodes[a].kids.drop i) i z = bC t.nodes t.types (d + 1) pat a ∧
   S'.obj l = some [nx, tx, .sc (.int .i64 (z : Nat))] ∧ S'.obj S.no = some [.sc (.int .i64 t.nodes[a].kind), .sc (.int .i64 t.nodes[a].n), .sc (.string t.nodes[a].name), .sc (.string t.nodes[a].param), (lN t.nodes[a]), .sc (.int .i64 t.nodes[a].frm), .sc (.int .i64 t.nodes[a].to)] ∧
   GrowB l S S' ∧ S.no < S'.no ∧ getT tm 0 = .ptr l 0 ∧ getT tm 1 = .sc (.bool pat) ∧ getT tm 2 = .sc (.int .i64 ((60 - (d + 1) : Nat) : Int)) ∧ getT tm 8 = .ptr S.no 0 ∧ getT tm 57 = (lN t.nodes[a]) ∧ getT tm 58 = .sc (.int .i64 (t.nodes[a].kids.length : Nat)) ∧ getT tm 59 = .sc (.int .i64 (i : Int))) t.nodes[a].kids.length
   ⟨0, a + 1, by omega, by omega, by omega, by rw [cJ, e0], hO5, hN5, hB, hn5, by simp [aO]⟩ ?_
  rintro tm S6 N ⟨i, z, hi, rfl, hz, hq, ho6, hN6, hB6, hn6, t0, t1, t2, t8, t57, t58, t59⟩
  have hl6 : l < S6.no := aU hl hB6.no
  have hln := ht.ln
  by_cases hit : i < t.nodes[a].kids.length
  case neg =>
   have hie : i = t.nodes[a].kids.length := by omega
   rw [hie, fA, bV] at hq
   simp only [SXa, Nat.reduceEqDiff, b56_14, t58, t59, bO hit]
   exact ⟨by rw [← hq]; exact ⟨rfl, ho6⟩, hB6⟩
  case pos =>
  have wi := cG hit (by omega)
  rw [tE _ _ _ hit] at hq
  simp only [SXa, reduceCtorEq, Nat.reduceEqDiff, b56_14, P56, t0, t57, t58, t59, bL hit, iQ hit, mM, mY, tS, aG, aE, ho6, aD, aF]
  cases c5 : (t.nodes[a].kids[i] != ((z : Nat) : Int)) with
  | true =>
   have c6 : (t.nodes[a].kids[i] == ((z : Nat) : Int)) = false := by simpa [bne] using c5
   rw [c6, aK] at hq
   simp only [SXa, Nat.reduceEqDiff]
   exact ⟨by rw [← hq]; rfl, hB6⟩
  | false =>
  have c6 : (t.nodes[a].kids[i] == ((z : Nat) : Int)) = true := by simpa [bne] using c5
  rw [c6, aH] at hq
  cases hp : pat with
  | true =>
   subst hp
   simp only [cA] at hq
   simp only [SXa, reduceCtorEq, Nat.reduceEqDiff, P56, t0, t1, t2, ww]
   obtain ⟨r5, S5, e5, w5, g5⟩ := ih (by omega) true z (by omega) S6 l hB6.fresh hl6 ho6
   refine cC e5 ?_
   have hB5 := hB6.two g5
   have hN5 := g5.objs hN6 hn6 (by omega)
   have hn5 : S.no < S5.no := aU hn6 g5.no
   cases hw : bC t.nodes t.types d true z with
   | none =>
    rw [hw] at w5 hq
    simp only [sO] at w5
    subst w5
    simp only [SXa, Nat.reduceEqDiff]
    exact ⟨by rw [← hq]; rfl, hB5⟩
   | some z1 =>
    rw [hw] at w5 hq
    obtain ⟨rfl, ho5⟩ := w5
    have hz1 := (cT _ _ _ _ _ _ hw).2
    simp only [SXa, reduceCtorEq, Nat.reduceEqDiff, t0, t1, t2, t8, t57, t58, t59, wi]
    exact ⟨t.nodes[a].kids.length - (i + 1), by omega, i + 1, z1, by omega, rfl, hz1, hq, ho5, hN5, hB5, hn5, by simp []⟩
  | false =>
   subst hp
   simp only [gU] at hq
   cases c7 : (t.nodes[a].kind == 11) with
   | false =>
    rw [c7, bK] at hq
    simp only [SXa, reduceCtorEq, Nat.reduceEqDiff, P56, t0, t1, t2, t8, ww, aE, hN6, bS, aG, aD, aM, c7]
    obtain ⟨r5, S5, e5, w5, g5⟩ := ih (by omega) false z (by omega) S6 l hB6.fresh hl6 ho6
    refine cC e5 ?_
    have hB5 := hB6.two g5
    have hN5 := g5.objs hN6 hn6 (by omega)
    have hn5 : S.no < S5.no := aU hn6 g5.no
    cases hw : bC t.nodes t.types d false z with
    | none =>
     rw [hw] at w5 hq
     simp only [sO] at w5
     subst w5
     simp only [SXa, Nat.reduceEqDiff]
     exact ⟨by rw [← hq]; rfl, hB5⟩
    | some z1 =>
     rw [hw] at w5 hq
     obtain ⟨rfl, ho5⟩ := w5
     have hz1 := (cT _ _ _ _ _ _ hw).2
     simp only [SXa, reduceCtorEq, Nat.reduceEqDiff, t0, t1, t2, t8, t57, t58, t59, wi]
     exact ⟨t.nodes[a].kids.length - (i + 1), by omega, i + 1, z1, by omega, rfl, hz1, hq, ho5, hN5, hB5, hn5, by simp []⟩
   | true =>
    rw [c7, cI] at hq
    simp only [SXa, reduceCtorEq, Nat.reduceEqDiff, P56, t0, t1, t8, aE, hN6, bS, aG, aD, aM, c7]
    obtain ⟨S7, e7, g7⟩ := wp9 ((i : Nat) : Int) S6 hB6.fresh
    refine cC e7 ?_
    have ho7 := g7.objs ho6 hl6
    have hN7 := g7.objs hN6 hn6
    have hn7 := aU hn6 g7.no
    have hl7 := aU hl6 g7.no
    have hB7 := hB6.two (g7.toB l)
    simp only [SXa, Nat.reduceEqDiff, P56, t2, ww]
    obtain ⟨r5, S5, e5, w5, g5⟩ := ih (by omega) (cN ((i : Nat) : Int)) z (by omega) S7 l hB7.fresh hl7 ho7
    refine cC e5 ?_
    have hB5 := hB7.two g5
    have hN5 := g5.objs hN7 hn7 (by omega)
    have hn5 : S.no < S5.no := aU hn7 g5.no
    cases hw : bC t.nodes t.types d (cN ((i : Nat) : Int)) z with
    | none =>
     rw [hw] at w5 hq
     simp only [sO] at w5
     subst w5
     simp only [SXa, Nat.reduceEqDiff]
     exact ⟨by rw [← hq]; rfl, hB5⟩
    | some z1 =>
     rw [hw] at w5 hq
     obtain ⟨rfl, ho5⟩ := w5
     have hz1 := (cT _ _ _ _ _ _ hw).2
     simp only [SXa, reduceCtorEq, Nat.reduceEqDiff, t0, t1, t2, t8, t57, t58, t59, wi]
     exact ⟨t.nodes[a].kids.length - (i + 1), by omega, i + 1, z1, by omega, rfl, hz1, hq, ho5, hN5, hB5, hn5, by simp []⟩
end Go.Proofs.YthjaoinieikjdaaGreatDoor
namespace Go.Abs
section
variable {E : Env} {S : St}
theorem wk1 {t t1 e e1 : TypeId} {agg : Bool} {bytes sz : Nat} {X Y : AV} {xs : List AV} (ht : kA E t e agg sz bytes = true) (ht1 : E.und t1 = some (.slice e1)) (hx : IsV sz X xs) (hy : IsV sz Y []) : bD E false .append [t, t1] [X, Y] S = some (X, S) := by
 unfold kA at ht
 split at ht
 · rename_i e' de i hd hde hi
   simp only [aS, gD] at ht
   obtain ⟨⟨⟨⟨⟨k1, k2⟩, k3⟩, k4⟩, k5⟩, k6⟩ := ht
   have k1 := bA k1
   subst k1
   rcases hy with ⟨rfl, _⟩ | ⟨id, rfl⟩ <;> rcases hx with ⟨rfl, _⟩ | ⟨id2, rfl⟩ <;> simp only [bD, hd, ht1, hde, hi, lH, fG, gY, kH]
 · simp at ht
def cY (S : St) (r : AV) : Prop := r = aA ∨ (∃ sz xs, r = .vec 1 sz xs) ∨ ∃ id sz xs, r = .vec id sz xs ∧ S.nid ≤ id
theorem Grow.app2 {S0 : St} {e : TypeId} {sz : Nat} {r : AV} {xs : List AV} (g : Grow S0 S aA) (hO : OwnV S e sz r xs) (hn : cY S0 r) : Grow S0 (fL e S r) aA := by
 have ga := Grow.app g.fresh hO
 refine ⟨cK g.nid ga.nid, fun id hlt _ => ?_, fun id hlt => (ga.ity id (aU hlt g.nid)).trans (g.ity id hlt), cK g.no ga.no, fun l hl' => (ga.obj l (aU hl' g.no)).trans (g.obj l hl'), ga.fresh, fun l hl' => (ga.ver l (aU hl' g.no)).trans (g.ver l hl')⟩
 rcases hn with rfl | ⟨sz2, xs2, rfl⟩ | ⟨i2, sz2, xs2, rfl, h2⟩
 · exact (ga.sp id (aU hlt g.nid) fun sz xs e => by cases e).trans (g.sp id hlt (fun _ _ e => by cases e))
 · exact g.sp id hlt (fun _ _ e => by cases e)
 · exact (ga.sp id (aU hlt g.nid) fun sz xs e => by cases e; omega).trans (g.sp id hlt (fun _ _ e => by cases e))
end
theorem yF (e : TypeId) (S : St) (X : AV) (l : Nat) : (fL e S X).obj l = S.obj l := by
 unfold fL
 split
 · cases (_ || _) <;> rfl
 · rfl
theorem zB (e : TypeId) (S : St) (X : AV) : (fL e S X).no = S.no := by
 unfold fL
 split
 · cases (_ || _) <;> rfl
 · rfl
theorem wG {E : Env} {S S0 : St} {t t1 e e1 : TypeId} {agg : Bool} {bytes sz : Nat} {X Y : AV} {xs ys : List AV} (ht : kA E t e agg sz bytes = true) (ht1 : E.und t1 = some (.slice e1)) (hX : OwnV S e sz X xs) (hN : cY S0 X) (G : Grow S0 S aA) (hY : IsV sz Y ys) (hsz : iO sz ys = true)
 (hb : (xs.length + ys.length) * (bytes + 1) ≤ 2 ^ 46) : ∃ Z S1, bD E false .append [t, t1] [X, Y] S = some (Z, S1) ∧ OwnV S1 e sz Z (xs ++ ys) ∧ cY S0 Z ∧ Grow S0 S1 aA ∧ S1.no = S.no ∧ (∀ l, S1.obj l = S.obj l) ∧ Grow S S1 X := by
 by_cases hne : ys = []
 · subst hne
   rw [dK]
   exact ⟨X, S, wk1 ht ht1 hX.is hY, hX, hN, G, rfl, fun _ => rfl, Grow.refl G.fresh _⟩
 · exact ⟨_, _, wq1 ht ht1 G.fresh hX hY hne hsz hb, zA G.fresh hX, .inr (.inr ⟨_, _, _, rfl, G.nid⟩), G.app2 hX hN, zB _ _ _, yF _ _ _, Grow.app G.fresh hX⟩
theorem OwnV.keep {S S' : St} {e : TypeId} {sz : Nat} {x : AV} {xs : List AV} (h : OwnV S e sz x xs) (g : Grow S S' aA) : OwnV S' e sz x xs := h.grow g (fun _ _ _ _ _ _ e => by cases e)
theorem OwnV.nil' (S : St) (e : TypeId) (sz : Nat) : OwnV S e sz aA [] := .inl ⟨rfl, rfl⟩
end Go.Abs
namespace Go.Proofs.YthjaoinieikjdaaGreatDoor
open Go.Abs
theorem xb7 : ∀ l : List ByteArray, iO 1 (aN l) = true
 | [] => rfl
 | s :: l => by simp only [aN, cF, iO, aS]; exact ⟨rfl, xb7 l⟩
theorem wc5 (a b : List ByteArray) : aN a ++ aN b = aN (a ++ b) := by simp [aN]
theorem kX (a : ByteArray) (S : St) : gE E 31 1 [(0, .sc (.string a))] S = some (.vec 1 1 [.sc (.string a)], S) := by kernel_rfl
theorem mO {S S0 : St} {X Y : AV} {xs ys : List ByteArray} (hX : OwnV S 9 1 X (aN xs)) (hN : cY S0 X) (G : Grow S0 S aA) (hY : IsV 1 Y (aN ys)) (hb : xs.length + ys.length ≤ 2 ^ 40) :
 ∃ Z S1, bD E false .append [31, 31] [X, Y] S = some (Z, S1) ∧ OwnV S1 9 1 Z (aN (xs ++ ys)) ∧ cY S0 Z ∧ Grow S0 S1 aA ∧ S1.no = S.no ∧ (∀ l, S1.obj l = S.obj l) ∧ Grow S S1 X := by
 rw [← wc5]
 exact wG el31 und31 hX hN G hY (xb7 _) (by rw [lS, lS]; omega)
theorem ko0 {ns : List NodeV} {f : Nat} {d : Nat} {ds : List DeclV} (ih : ∀ p a z, bC ns ds d p a = some z → (cV ns f a).length ≤ z - a) (pat m : Bool) : ∀ (l : List Int) (i nx z : Nat), bV (bC ns ds d) pat m l i nx = some z → (l.flatMap fun k => cV ns f k.toNat).length ≤ z - nx
 | [], i, nx, z, h => by simp
 | k :: r, i, nx, z, h => by
  unfold bV at h
  cases hb : (k == ((nx : Nat) : Int)) with
  | false => rw [hb] at h; cases h
  | true =>
   rw [hb, aH] at h
   have hk : k = ((nx : Nat) : Int) := by simpa using hb
   cases hq : bC ns ds d (pat || (m && cN ((i : Nat) : Int))) nx with
   | none => rw [hq] at h; cases h
   | some z1 =>
    rw [hq] at h
    have h1 := ih _ _ _ hq
    have h2 := ko0 ih pat m r (i + 1) z1 z h
    have h3 := cT _ _ _ _ _ _ hq
    have h4 := (rZ (n := ns.length) (cT ns ds d) pat m r (i + 1) z1 z h3.2 h).1
    rw [jN, dL, hk, gN]
    omega
theorem tG (ns : List NodeV) (ds : List DeclV) : ∀ (d f : Nat), d ≤ f → ∀ (pat : Bool) (a z : Nat), bC ns ds d pat a = some z → (cV ns f a).length ≤ z - a
 | 0, f, hf, pat, a, z, h => by cases h
 | d + 1, 0, hf, pat, a, z, h => by omega
 | d + 1, f + 1, hf, pat, a, z, h => by
  have hbd := cT _ _ _ _ _ _ h
  unfold bC at h
  cases hx : ns[a]? with
  | none => rw [hx] at h; cases h
  | some x =>
   rw [hx] at h
   simp only [bB] at h
   split at h
   · cases h
   · unfold cV
     rw [hx]
     simp only [bB]
     split
     · simp only [aY, bH]; omega
     · split
       · have := ko0 (tG ns ds d f (by omega)) pat (x.kind == 11) x.kids 0 (a + 1) z h
         omega
       · simp
theorem yX (t : TreeV) (nx tx : AV) (ht : TreeIs nx tx t) : ∀ (d f : Nat), d ≤ f → ∀ (pat : Bool) (a z : Nat), bC t.nodes t.types d pat a = some z → ∀ (S : St), S.Fresh →
 ∃ r S', EvA E 59 [.agg [nx, tx], .sc (.int .i64 (a : Nat))] S r S' ∧ (OwnV S' 9 1 r (aN (cV t.nodes f a)) ∧ cY S r) ∧ Grow S S' aA
 | 0, f, hf, pat, a, z, h, S, hS => by cases h
 | d + 1, 0, hf, pat, a, z, h, S, hS => by omega
 | d + 1, f + 1, hf, pat, a, z, h, S, hS => by
  have hbd := cT _ _ _ _ _ _ h
  have hlt : a < t.nodes.length := by omega
  have hx : t.nodes[a]? = some t.nodes[a] := cX hlt
  have hkl := ht.lk _ (fE hlt)
  have hw : bV (bC t.nodes t.types d) pat (t.nodes[a].kind == 11) t.nodes[a].kids 0 (a + 1) = some z := by
   unfold bC at h
   rw [hx] at h
   simp only [bB] at h
   split at h
   · cases h
   · exact h
  have eb : cV t.nodes (f + 1) a = bif t.nodes[a].kind == 22 then [t.nodes[a].name] else bif t.nodes[a].kind == 26 then t.nodes[a].kids.flatMap fun k => cV t.nodes f k.toNat else [] := by
   rw [cV, hx]
  rw [eb]
  refine ev59 rfl ?_
  have hb1 := (Grow.refl hS aA).born 26 [nx, tx]
  have hT1 : (S.born 26 [nx, tx]).obj S.no = some [nx, tx] := by simp [bE]
  have hn1 : S.no < (S.born 26 [nx, tx]).no := bJ _
  simp only [SXa, reduceCtorEq, Nat.reduceAdd, P59, dT, dZ]
  generalize S.born 26 [nx, tx] = S1 at hb1 hT1 hn1
  have hb2 := (hb1.born 36 zN).put S1.no (.cells (aL t.nodes[a])) hb1.no
  have hN2 : ((S1.born 36 zN).put S1.no (.cells (aL t.nodes[a]))).obj S1.no = some (aL t.nodes[a]) := by simp [aX]
  have hT2 : ((S1.born 36 zN).put S1.no (.cells (aL t.nodes[a]))).obj S.no = some [nx, tx] := by
   have : S.no ≠ S1.no := by omega
   simp [aX, bE, this, hT1]
  have hn2 : S1.no < ((S1.born 36 zN).put S1.no (.cells (aL t.nodes[a]))).no := bJ _
  simp only [SXa, reduceCtorEq, Nat.reduceEqDiff, P59, gS, aG, aE, hT1, aD, aF, aM, iB ht.nodes hlt, lU, lT, tV, stN, bE, oF, oB, dK, aB]
  generalize (S1.born 36 zN).put S1.no (.cells (aL t.nodes[a])) = S2 at hb2 hN2 hT2 hn2
  simp only [aL] at hN2
  simp only [SXa, reduceCtorEq, Nat.reduceEqDiff, P59, aE, hN2, bS, aG, aD, aM]
  cases c1 : (t.nodes[a].kind == 22) with
  | true =>
   simp only [SXa, reduceCtorEq, Nat.reduceEqDiff, Nat.reduceBEq, P59, aE, hN2, bS, aG, aD, aF, kX]
   exact ⟨⟨.inr ⟨1, rfl, .inl rfl⟩, .inr (.inl ⟨_, _, rfl⟩)⟩, hb2⟩
  | false =>
  simp only [SXa, reduceCtorEq, Nat.reduceEqDiff, P59, aE, hN2, bS, aG, aD, aM]
  cases c2 : (t.nodes[a].kind == 26) with
  | false =>
   simp only [SXa, reduceCtorEq, Nat.reduceEqDiff]
   exact ⟨⟨OwnV.nil' _ _ _, .inl rfl⟩, hb2⟩
  | true =>
  simp only [SXa, reduceCtorEq, Nat.reduceEqDiff, P59, aE, hN2, bS, aG, aD, aF, dO]
  refine bX (fun tm S' N => ∃ (i q : Nat) (X : AV) (ws : List ByteArray), i ≤ t.nodes[a].kids.length ∧ N = t.nodes[a].kids.length - i ∧ bV (bC t.nodes t.types d) pat (t.nodes[a].kind == 11) (t.nodes[a].kids.drop i) i q = some z ∧ q ≤ t.nodes.length ∧ ws.length ≤ q ∧
   ws ++ ((t.nodes[a].kids.drop i).flatMap fun k => cV t.nodes f k.toNat) = (t.nodes[a].kids.flatMap fun k => cV t.nodes f k.toNat) ∧ OwnV S' 9 1 X (aN ws) ∧ cY S X ∧
   S'.obj S.no = some [nx, tx] ∧ Grow S S' aA ∧ S.no < S'.no ∧ getT tm 2 = .ptr S.no 0 ∧ getT tm 6 = X ∧ getT tm 24 = (lN t.nodes[a]) ∧ getT tm 25 = .sc (.int .i64 (t.nodes[a].kids.length : Nat)) ∧ getT tm 26 = .sc (.int .i64 (i : Int))) t.nodes[a].kids.length
   ⟨0, a + 1, aA, [], by omega, by omega, by rw [cJ]; exact hw, by omega, by simp, by simp, OwnV.nil' _ _ _, .inl rfl, hT2, hb2, by omega, by simp [aO]⟩ ?_
  rintro tm S3 N ⟨i, q, X, ws, hi, rfl, hq, hqn, hwl, hfl, hX, hNw, hT3, hb3, hn3, t2, t6, t24, t25, t26⟩
  have hln := ht.ln
  by_cases hit : i < t.nodes[a].kids.length
  case neg =>
   have hie : i = t.nodes[a].kids.length := by omega
   rw [hie, fA] at hfl
   simp only [List.flatMap_nil, dK] at hfl
   simp only [SXa, Nat.reduceEqDiff, b59_11, t6, t25, t26, bO hit]
   rw [← hfl]
   exact ⟨⟨hX, hNw⟩, hb3⟩
  case pos =>
  have wi := cG hit (by omega)
  rw [tE _ _ _ hit] at hq
  cases c6 : (t.nodes[a].kids[i] == ((q : Nat) : Int)) with
  | false => rw [c6] at hq; cases hq
  | true =>
  rw [c6, aH] at hq
  have hk : t.nodes[a].kids[i] = ((q : Nat) : Int) := by simpa using c6
  cases hw2 : bC t.nodes t.types d (pat || (t.nodes[a].kind == 11 && cN ((i : Nat) : Int))) q with
  | none => rw [hw2] at hq; cases hq
  | some q1 =>
  rw [hw2] at hq
  have hbq := cT _ _ _ _ _ _ hw2
  have hlq := tG _ _ d f (by omega) _ _ _ hw2
  obtain ⟨r4, S4, e4, ⟨hY, _⟩, g4⟩ := yX t nx tx ht d f (by omega) _ q q1 hw2 S3 hb3.fresh
  have hT4 := g4.objs hT3 hn3
  have hb4 := hb3.two g4
  have hn4 := aU hn3 g4.no
  obtain ⟨Z, S5, ap, hZ, hNZ, hb5, no5, ob5, _⟩ := mO (hX.keep g4) hNw hb4 hY.is (by omega)
  rw [dJ hit, jN, hk, gN, ← pT] at hfl
  simp only [SXa, Nat.reduceEqDiff, Nat.reduceAdd, b59_11, P59, t2, t6, t24, t25, t26, bL hit, iQ hit, hk, aE, hT3, aD, aF, aB]
  refine cC e4 ?_
  simp only [SXa, Nat.reduceEqDiff, Nat.reduceBEq, P59, t2, t6, t24, t25, t26, wi, ap]
  exact ⟨t.nodes[a].kids.length - (i + 1), by omega, i + 1, q1, Z, ws ++ cV t.nodes f q, by omega, rfl, hq, hbq.2, by rw [dL]; omega, hfl, hZ, hNZ, by rw [ob5]; exact hT4, hb5, by rw [no5]; exact hn4, by simp []⟩
end Go.Proofs.YthjaoinieikjdaaGreatDoor
