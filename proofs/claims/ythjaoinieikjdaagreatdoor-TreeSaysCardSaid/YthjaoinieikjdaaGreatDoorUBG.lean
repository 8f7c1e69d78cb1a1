/-
  Trees: the walks (a constructor's values, the arms of a match, what stands in brackets, az texts).
-/
import Derived.Test.YthjaoinieikjdaaGreatDoorUBF
import Derived.Test.YthjaoinieikjdaaGreatDoorUBC
import Derived.Lib.Strings
set_option maxHeartbeats 64000000
set_option linter.unusedSimpArgs false
set_option linter.unusedVariables false
set_option maxRecDepth 100000
namespace Go.Proofs.YthjaoinieikjdaaGreatDoor
open Go.Abs
theorem cS {S : St} (t : TypeId) (x y : Operand) (a b : ByteArray) (h : a.size + b.size ≤ 2 ^ 62) : cQ E .add t x y (.sc (.string a)) (.sc (.string b)) S = some (.sc (.string (a ++ b)), S) := by
 have h2 : ¬ ((a.size + b.size : Nat) : Int) > IntKind.i64.max := by
  have : IntKind.i64.max = 9223372036854775807 := rfl
  rw [this]; omega
 simp only [cQ, iZ, binOp, Op.stringOp, aR h2]
 rfl
theorem wI {l : List ByteArray} {n : Nat} (h : dI l ≤ n) {k : Nat} (hk : k < l.length) : l[k].size ≤ n := by
 have : ∀ (l : List ByteArray) (s : ByteArray), s ∈ l → s.size ≤ dI l := by
  intro l
  induction l with
  | nil => intro s hs; cases hs
  | cons a r ih =>
   intro s hs
   rw [qA]
   rcases List.mem_cons.1 hs with rfl | hs
   · omega
   · have := ih s hs; omega
 exact cK (this l _ (fE hk)) h
theorem sL {l : List ByteArray} {k : Nat} (hk : k < l.length) : kd l k = l[k] := by simp [kd, List.getD, hk]
theorem xw3 {l : List ByteArray} {j : Nat} (h1 : j < l.length) (h2 : j + 1 < l.length) : iN (l.drop j) = ((l[j] ++ (⟨#[32, 45, 62, 32]⟩ : ByteArray)) ++ l[j + 1]) :: iN (l.drop (j + 2)) := by
 rw [dJ h1, dJ h2, iN]
theorem kg0 (name : ByteArray) (ks : List ByteArray) (X : AV) (S : St) (hS : S.Fresh) (hX : RdS S X ks) (hl : ks.length ≤ 1000) (hn : name.size ≤ 1000) (hs : dI ks ≤ 100000) :
 ∃ r S', EvA E 113 [.sc (.string name), X] S r S' ∧ r = .sc (.string (kI name ks)) ∧ Grow S S' aA := by
 refine ev113 rfl ?_
 have hj := qD ks (⟨#[44, 32]⟩ : ByteArray) (by decide)
 have je := zL hX (⟨#[44, 32]⟩ : ByteArray) (by omega) (by omega)
 cases ks with
 | nil =>
  have c0 : (((0 : Nat) : Int) == 0) = true := rfl
  simp only [SXa, reduceCtorEq, Nat.reduceEqDiff, Nat.reduceAdd, P113, hX.len, c0]
  exact ⟨rfl, Grow.refl hS _⟩
 | cons a r =>
  have c0 : ((((a :: r).length : Nat) : Int) == 0) = false := by
   rw [nE]
   simp only [aY]; omega
  have a1 : name.size + ((⟨#[32, 40]⟩ : ByteArray)).size ≤ 2 ^ 62 := by simp only [dE, aY, bH]; omega
  have a2 : (name ++ (⟨#[32, 40]⟩ : ByteArray)).size + (eO (a :: r) (⟨#[44, 32]⟩ : ByteArray)).size ≤ 2 ^ 62 := by simp only [dQ, dE, aY, bH]; omega
  have a3 : ((name ++ (⟨#[32, 40]⟩ : ByteArray)) ++ eO (a :: r) (⟨#[44, 32]⟩ : ByteArray)).size + ((⟨#[41]⟩ : ByteArray)).size ≤ 2 ^ 62 := by simp only [dQ, dE, aY, bH]; omega
  have hlen := hX.len
  generalize hq : (a :: r).length = q at hlen c0
  simp only [SXa, reduceCtorEq, Nat.reduceEqDiff, Nat.reduceAdd, P113, hlen, c0, cS _ _ _ _ _ a1]
  refine cC je ?_
  simp only [SXa, reduceCtorEq, Nat.reduceEqDiff, cS _ _ _ _ _ a2, cS _ _ _ _ _ a3]
  exact ⟨rfl, Grow.refl hS _⟩
theorem arms_ok (l : List ByteArray) (X : AV) (S : St) (hS : S.Fresh) (hX : RdS S X l) (hev : l.length % 2 = 0) (hl : l.length ≤ 1000) (hs : dI l ≤ 100000) :
 ∃ r S', EvA E 144 [X] S r S' ∧ r = .sc (.string (eO (iN l) (⟨#[32, 124, 32]⟩ : ByteArray))) ∧ Grow S S' aA := by
 refine ev144 rfl ?_
 simp only [SXa, Nat.reduceAdd, P144]
 refine bX (fun tm S' N => ∃ (j : Nat) (Y : AV) (ws : List ByteArray), j ≤ l.length ∧ N = l.length - j ∧ (l.length - j) % 2 = 0 ∧ ws ++ iN (l.drop j) = iN l ∧ ws.length ≤ j ∧ OwnV S' 9 1 Y (aN ws) ∧ cY S Y ∧ Grow S S' aA ∧ getT tm 0 = X ∧ getT tm 3 = Y ∧ getT tm 4 = .sc (.int .i64 (j : Int))) l.length
  ⟨0, aA, [], by omega, by omega, by omega, rfl, by simp, OwnV.nil' _ _ _, .inl rfl, Grow.refl hS aA, by simp [aO]⟩ ?_
 rintro tm S1 N ⟨j, Y, ws, hj, rfl, hp, hw, hwl, hY, hN, hG, t0, t3, t4⟩
 by_cases hjt : j < l.length
 case neg =>
  have hje : j = l.length := by omega
  rw [hje, fA] at hw
  simp only [iN, dK] at hw
  have hjn := zL (S := S1) (.inl hY.is) (⟨#[32, 124, 32]⟩ : ByteArray) (by omega) (by rw [hw]; have := yZ l; omega)
  simp only [SXa, reduceCtorEq, Nat.reduceEqDiff, b144_6, P144, t0, t3, t4, hX.len, bO hjt]
  refine cC hjn ?_
  simp only [SXa, Nat.reduceEqDiff]
  exact ⟨by rw [hw], hG⟩
 case pos =>
 have hj1 : j + 1 < l.length := by omega
 have gr := Grow.raise hG.fresh 15 aA
 have hG2 := hG.two gr
 have hX2 := hX.grow hG2
 obtain ⟨P, p1, p2, _⟩ := hX.idx hjt
 obtain ⟨Q, q1, q2, _⟩ := hX.idx hj1
 have l1 := p2 _ hX2
 have l2 := q2 _ hX2
 have wj : IntKind.i64.wrap ((j : Int) + 1) = ((j + 1 : Nat) : Int) := by rw [wrap_i64 (by omega) (by omega)]; omega
 have wj2 : IntKind.i64.wrap ((j : Int) + 2) = ((j + 2 : Nat) : Int) := by rw [wrap_i64 (by omega) (by omega)]; omega
 have s1 := wI hs hjt
 have s2 := wI hs hj1
 have a1 : l[j].size + ((⟨#[32, 45, 62, 32]⟩ : ByteArray)).size ≤ 2 ^ 62 := by simp only [dE, aY, bH]; omega
 have a2 : (l[j] ++ (⟨#[32, 45, 62, 32]⟩ : ByteArray)).size + l[j + 1].size ≤ 2 ^ 62 := by simp only [dQ, dE, aY, bH]; omega
 obtain ⟨Z, S3, ap, hZ, hNZ, hG3, no3, ob3, g3⟩ := mO (hY.keep gr) hN hG2 (pN ((l[j] ++ (⟨#[32, 45, 62, 32]⟩ : ByteArray)) ++ l[j + 1])) (by simp only [aY, bH]; omega)
 rw [xw3 hjt hj1] at hw
 simp only [SXa, reduceCtorEq, Nat.reduceEqDiff, Nat.reduceBEq, b144_6, P144, t0, t3, t4, hX.len, bL hjt, p1, l1, wj, q1, l2, cS _ _ _ _ _ a1, cS _ _ _ _ _ a2, kX, ap, wj2]
 exact ⟨l.length - (j + 2), by omega, j + 2, Z, _, by omega, rfl, by omega, by rw [pT]; exact hw, by rw [dL]; simp only [aY, bH]; omega, hZ, hNZ, hG3, by simp []⟩
def wU (x : NodeV) (n : Nat) : Prop :=
 ((x.kind = 6 ∨ x.kind = 15 ∨ x.kind = 16 ∨ x.kind = 17 ∨ x.kind = 19) ∧ n = 1) ∨ ((x.kind = 7 ∨ x.kind = 8 ∨ x.kind = 9 ∨ x.kind = 12 ∨ x.kind = 13 ∨ x.kind = 14 ∨ x.kind = 20) ∧ n = 2) ∨ (x.kind = 10 ∧ n = 3) ∨ (x.kind = 11 ∧ 3 ≤ n ∧ n % 2 = 1)
theorem yT (x : NodeV) (ks : List ByteArray) (X : AV) (S : St) (hS : S.Fresh) (hX : RdS S X ks) (hf : wU x ks.length) (hl : ks.length ≤ 1000) (hn : x.name.size ≤ 1000) (hp : x.param.size ≤ 1000) (hs : dI ks ≤ 100000) :
 ∃ r S', EvA E 114 [.agg (aL x), X] S r S' ∧ r = .sc (.string (fX x ks)) ∧ Grow S S' aA := by
 refine ev114 rfl ?_
 have hG := (Grow.refl hS aA).born 36 (aL x)
 have hN : (S.born 36 (aL x)).obj S.no = some (aL x) := by simp [bE]
 simp only [SXa, reduceCtorEq, Nat.reduceAdd, P114, dT, dZ]
 generalize S.born 36 (aL x) = S0 at hG hN
 simp only [aL] at hN
 have hX0 := hX.grow hG
 have hGr : ∀ n, Grow S (S0.raise n) aA := fun n => hG.two (Grow.raise hG.fresh n aA)
 have hXr : ∀ n, RdS (S0.raise n) X ks := fun n => hX.grow (hGr n)
 have z0 : (kd ks 0).size + (kd ks 1).size + (kd ks 2).size ≤ 100000 := cK (zV ks) hs
 have h0 : 0 < ks.length := by
  rcases hf with ⟨_, h⟩ | ⟨_, h⟩ | ⟨_, h⟩ | ⟨_, h, _⟩ <;> omega
 obtain ⟨P, p1, p2, p3⟩ := hX.idx h0
 rw [← sL h0] at p2
 have m0 := p2 S0 hX0
 have r0 := fun n => p2 _ (hXr n)
 have p1 : ∀ S1, bT 1 X (some 0) S1 = some (P, S1) := p1
 rcases hf with ⟨hk, h⟩ | ⟨hk, h⟩ | ⟨hk, h⟩ | ⟨hk, h, ho⟩
 · rcases hk with hk | hk | hk | hk | hk
   all_goals
    simp (maxSteps := 3000000) (disch := first | rfl | (simp only [dQ, dE, aY, bH]; omega)) only [SXa, reduceCtorEq, Nat.reduceEqDiff, Int.reduceBEq, P114, aE, eG, hN, bS, aG, hk, aD, aM, aF, p1, m0, r0, cS]
    first
     | exact ⟨by simp only [fX, hk, Int.reduceBEq, aH, aK], hGr _⟩
     | exact ⟨by simp only [fX, hk, Int.reduceBEq, aH, aK], hG⟩
 · obtain ⟨Q, q1, q2, q3⟩ := hX.idx (k := 1) (by omega)
   rw [← sL (k := 1) (by omega)] at q2
   have q1 : ∀ S1, bT 1 X (some 1) S1 = some (Q, S1) := q1
   have r1 := fun n => q2 _ (hXr n)
   rcases hk with hk | hk | hk | hk | hk | hk | hk
   all_goals
    simp (maxSteps := 3000000) (disch := first | rfl | (simp only [dQ, dE, aY, bH]; omega)) only [SXa, reduceCtorEq, Nat.reduceEqDiff, Int.reduceBEq, P114, aE, eG, hN, bS, aG, hk, aD, aM, aF, p1, q1, r0, r1, cS]
    exact ⟨by simp only [fX, hk, Int.reduceBEq, aH, aK], hGr _⟩
 · obtain ⟨Q, q1, q2, q3⟩ := hX.idx (k := 1) (by omega)
   rw [← sL (k := 1) (by omega)] at q2
   have q1 : ∀ S1, bT 1 X (some 1) S1 = some (Q, S1) := q1
   have r1 := fun n => q2 _ (hXr n)
   obtain ⟨R, u1, u2, u3⟩ := hX.idx (k := 2) (by omega)
   rw [← sL (k := 2) (by omega)] at u2
   have u1 : ∀ S1, bT 1 X (some 2) S1 = some (R, S1) := u1
   have r2 := fun n => u2 _ (hXr n)
   simp (maxSteps := 3000000) (disch := first | rfl | (simp only [dQ, dE, aY, bH]; omega)) only [SXa, reduceCtorEq, Nat.reduceEqDiff, Int.reduceBEq, P114, aE, hN, bS, aG, hk, aD, aM, p1, q1, u1, r0, r1, r2, cS]
   exact ⟨by simp only [fX, hk, Int.reduceBEq, aH, aK], hGr _⟩
 · simp only [SXa, reduceCtorEq, Nat.reduceEqDiff, Int.reduceBEq, P114, aE, hN, bS, aG, hk, aD, aM]
   refine kK noX kt1 ?_
   obtain ⟨Y, y1, y2⟩ := (hXr 11).tail h0 (S0.raise 11)
   have sd := xi8 ks
   have aj := yZ (ks.drop 1)
   obtain ⟨r4, S4, e4, rfl, g4⟩ := arms_ok (ks.drop 1) Y (S0.raise 11) (hGr 11).fresh y2 (by rw [mK]; omega) (by rw [mK]; omega) (by omega)
   have hX4 := hX.grow ((hGr 11).two g4)
   have m4 := p2 _ hX4
   have sf := p3 _ _ hX0 ((Grow.raise hG.fresh 11 aA).two g4)
   simp (maxSteps := 3000000) (disch := first | rfl | (simp only [dQ, dE, aY, bH]; omega)) only [SXa, reduceCtorEq, Nat.reduceEqDiff, P114, p1, r0, cS, y1]
   refine cC e4 ?_
   simp (maxSteps := 3000000) (disch := first | rfl | (simp only [dQ, dE, aY, bH]; omega)) only [SXa, reduceCtorEq, Nat.reduceEqDiff, cS, gF, gG, sf, bY]
   exact ⟨by simp only [fX, hk, Int.reduceBEq, aH, aK], (hGr 11).two g4⟩
open Go.Abs
def dU (ns : List NodeV) (x : NodeV) (i : Nat) : List ByteArray :=
 bif x.kind == 6 || (x.kind == 20 && ((i : Nat) : Int) == 1) then [x.param]
 else bif (x.kind == 8 && ((i : Nat) : Int) == 1) || (x.kind == 9 && ((i : Nat) : Int) == 1) then [x.name]
 else bif x.kind == 9 then [x.name, x.param]
 else bif x.kind == 11 && decide (0 < ((i : Nat) : Int)) && !cN ((i : Nat) : Int) then cV ns 60 (x.kids.getD (i - 1) 0).toNat else []
theorem yQ {ns : List NodeV} {ds : List DeclV} {d : Nat} (pat m : Bool) : ∀ (l : List Int) (i nx z : Nat), bV (bC ns ds d) pat m l i nx = some z → ∀ j (hj : j < l.length), ∃ p q q1, nx ≤ q ∧ q1 ≤ z ∧ l[j] = ((q : Nat) : Int) ∧ bC ns ds d p q = some q1
 | [], i, nx, z, h, j, hj => by simp at hj
 | k :: r, i, nx, z, h, j, hj => by
  unfold bV at h
  cases hb : (k == ((nx : Nat) : Int)) with
  | false => rw [hb] at h; cases h
  | true =>
   rw [hb, aH] at h
   have hk : k = ((nx : Nat) : Int) := by simpa using hb
   cases hq : bC ns ds d (pat || (m && cN ((i : Nat) : Int))) nx with
   | none => rw [hq] at h; cases h
   | some z1 =>
    rw [hq] at h
    have h3 := cT _ _ _ _ _ _ hq
    have h4 := (rZ (n := ns.length) (cT ns ds d) pat m r (i + 1) z1 z h3.2 h).1
    match j, hj with
    | 0, _ => exact ⟨_, nx, z1, aB _, h4, hk, hq⟩
    | j + 1, hj =>
     obtain ⟨p, q, q1, a1, a2, a3, a4⟩ := yQ pat m r (i + 1) z1 z h j (by simpa using hj)
     exact ⟨p, q, q1, by omega, a2, a3, a4⟩
theorem jg8 (t : TreeV) (nx tx : AV) (ht : TreeIs nx tx t) (d : Nat) (hd : d ≤ 60) (pat : Bool) (a z i : Nat) (x : NodeV) (hx : x ∈ t.nodes) (hw : bV (bC t.nodes t.types d) pat (x.kind == 11) x.kids 0 (a + 1) = some z) (hi : i < x.kids.length) (S : St) (hS : S.Fresh) :
 ∃ r S', EvA E 119 [.agg [nx, tx], .agg (aL x), .sc (.int .i64 (i : Nat))] S r S' ∧ IsV 1 r (aN (dU t.nodes x i)) ∧ Grow S S' aA := by
 have hkl := ht.lk x hx
 refine ev119 rfl ?_
 have hG := ((Grow.refl hS aA).born 26 [nx, tx]).born 36 (aL x)
 have hN : ((S.born 26 [nx, tx]).born 36 (aL x)).obj (S.no + 1) = some (aL x) := by simp [bE, lG]
 have hT : ((S.born 26 [nx, tx]).born 36 (aL x)).obj S.no = some [nx, tx] := by simp [bE, lG]
 have hn : S.no + 1 < ((S.born 26 [nx, tx]).born 36 (aL x)).no := by simp only [lG]; omega
 simp only [SXa, reduceCtorEq, Nat.reduceEqDiff, Nat.reduceAdd, P119, dT, dZ, lG]
 generalize (S.born 26 [nx, tx]).born 36 (aL x) = S0 at hG hN hT hn
 simp only [aL] at hN
 have hpos : decide (0 < ((i : Nat) : Int)) = true → 0 < i := fun h => by simpa using h
 have wi : 0 < i → IntKind.i64.wrap ((i : Int) - 1) = ((i - 1 : Nat) : Int) := fun h => by rw [wrap_i64 (by omega) (by omega)]; omega
 cases k6 : (x.kind == 6) <;> cases k20 : (x.kind == 20) <;> cases k8 : (x.kind == 8) <;> cases k9 : (x.kind == 9) <;> cases k11 : (x.kind == 11) <;> cases ci : (((i : Nat) : Int) == 1) <;> cases cp : decide (0 < ((i : Nat) : Int))
 all_goals simp only [SXa, reduceCtorEq, Nat.reduceEqDiff, Nat.reduceBEq, P119, aE, hN, bS, aG, aD, aM, aF, kX, bsl2, k6, k20, k8, k9, k11, ci, cp]
 all_goals try (first
  | exact ⟨by simp only [dU, cR, fU, cI, bK, jK, dY, aH, aK, k6, k20, k8, k9, k11, ci, cp]; exact IsV.nil 1, hG⟩
  | exact ⟨by simp only [dU, cR, fU, cI, bK, jK, dY, aH, aK, k6, k20, k8, k9, k11, ci, cp]; exact IsV.vec 1 1 _, hG⟩)
 all_goals
  have hp := hpos cp
  obtain ⟨p, q, q1, a1, a2, a3, a4⟩ := yQ pat _ _ 0 (a + 1) z hw (i - 1) (by omega)
  have hgd : x.kids.getD (i - 1) 0 = ((q : Nat) : Int) := by
   have hlt : i - 1 < x.kids.length := by omega
   rw [← a3]
   simp [List.getD, hlt]
  refine aT (wp9 _) hG (fun S2 g2 hG2 => ?_)
  have hN2 := g2.objs hN hn
  have hT2 := g2.objs hT (by omega)
  cases c9 : cN ((i : Nat) : Int) with
  | true =>
   simp only [SXa, reduceCtorEq, Nat.reduceEqDiff]
   exact ⟨by simp only [dU, c9, iC, fU, jK, dY, aK, k6, k20, k8, k9, k11, ci, cp]; exact IsV.nil 1, hG2⟩
  | false =>
   have gr := Grow.raise hG2.fresh 9 aA
   have hG3 := hG2.two gr
   obtain ⟨r4, S4, e4, ⟨hY, _⟩, g4⟩ := yX t nx tx ht d 60 hd p q q1 a4 (S2.raise 9) hG3.fresh
   simp only [SXa, reduceCtorEq, Nat.reduceEqDiff, Nat.reduceAdd, P119, eG, aE, hN2, hT2, bS, aG, aD, aF, aB, wi hp, iQ (x := x) (k := i - 1) (by omega), a3]
   refine cC e4 ?_
   simp only [SXa, reduceCtorEq, Nat.reduceEqDiff]
   exact ⟨by simp only [dU, c9, hgd, gN, kC, fU, jK, dY, aH, aK, k6, k20, k8, k9, k11, ci, cp]; exact hY.is, hG3.two g4⟩
open Go.Abs
def mE (l ks : List ByteArray) : List ByteArray := l.foldl (fun ks s => nQ s ks) ks
def jI (fr b : Nat → List ByteArray) : List Int → Nat → List ByteArray → List ByteArray
 | [], _, out => out
 | k :: r, i, out => jI fr b r (i + 1) (nK out (mE (b i) (fr k.toNat)))
def gL (ns : List NodeV) : Nat → Nat → List ByteArray
 | 0, _ => []
 | f + 1, a => match ns[a]? with
  | some x => jI (gL ns f) (dU ns x) x.kids 0 (bif x.kind == 4 then [x.name] else [])
  | none => []
theorem xQ : ∀ (l ks : List ByteArray), (mE l ks).Sublist ks
 | [], ks => List.Sublist.refl _
 | s :: r, ks => (xQ r (nQ s ks)).trans (yE s ks)
theorem wv1 {ns : List NodeV} {fr b : Nat → List ByteArray} {d : Nat} {ds : List DeclV} (ih : ∀ p a z, bC ns ds d p a = some z → (fr a).length ≤ z - a) (pat m : Bool) : ∀ (l : List Int) (i nx z : Nat) (out : List ByteArray), bV (bC ns ds d) pat m l i nx = some z → (jI fr b l i out).length ≤ out.length + (z - nx)
 | [], i, nx, z, out, h => by simp [jI]
 | k :: r, i, nx, z, out, h => by
  unfold bV at h
  cases hb : (k == ((nx : Nat) : Int)) with
  | false => rw [hb] at h; cases h
  | true =>
   rw [hb, aH] at h
   have hk : k = ((nx : Nat) : Int) := by simpa using hb
   cases hq : bC ns ds d (pat || (m && cN ((i : Nat) : Int))) nx with
   | none => rw [hq] at h; cases h
   | some z1 =>
    rw [hq] at h
    have h1 := ih _ _ _ hq
    have h2 := wv1 (b := b) ih pat m r (i + 1) z1 z (nK out (mE (b i) (fr k.toNat))) h
    have h3 := cT _ _ _ _ _ _ hq
    have h4 := (rZ (n := ns.length) (cT ns ds d) pat m r (i + 1) z1 z h3.2 h).1
    have h5 := xu6 out (mE (b i) (fr k.toNat))
    have h6 := (xQ (b i) (fr k.toNat)).length_le
    rw [hk, gN] at h2 h5 h6
    rw [jI, hk, gN]
    omega
theorem yC (ns : List NodeV) (ds : List DeclV) : ∀ (d f : Nat), d ≤ f → ∀ (pat : Bool) (a z : Nat), bC ns ds d pat a = some z → (gL ns f a).length ≤ z - a
 | 0, f, hf, pat, a, z, h => by cases h
 | d + 1, 0, hf, pat, a, z, h => by omega
 | d + 1, f + 1, hf, pat, a, z, h => by
  have hbd := cT _ _ _ _ _ _ h
  have hlt : a < ns.length := by omega
  have hk := uE h hlt
  have h4 := (rZ (n := ns.length) (cT ns ds d) pat _ _ 0 (a + 1) z (by omega) hk).1
  rw [gL, cX hlt]
  have := wv1 (b := dU ns ns[a]) (yC ns ds d f (by omega)) pat _ _ 0 (a + 1) z (bif ns[a].kind == 4 then [ns[a].name] else []) hk
  have h1 : (bif ns[a].kind == 4 then [ns[a].name] else []).length ≤ 1 := by cases (ns[a].kind == 4) <;> simp
  simp only
  omega
theorem wg5 {P : ByteArray → Prop} {fr b : Nat → List ByteArray} (hf : ∀ a, ∀ s ∈ fr a, P s) : ∀ (l : List Int) (i : Nat) (out : List ByteArray), (∀ s ∈ out, P s) → ∀ s ∈ jI fr b l i out, P s
 | [], i, out, h => h
 | k :: r, i, out, h => wg5 hf r (i + 1) _ fun s hs => by
  rcases mem_unionB.1 hs with hs | hs
  · exact h s hs
  · exact hf _ s ((xQ _ _).subset hs)
theorem xn6 {P : ByteArray → Prop} {ns : List NodeV} (hn : ∀ x ∈ ns, P x.name) : ∀ (f a : Nat), ∀ s ∈ gL ns f a, P s
 | 0, a => fun s hs => by cases hs
 | f + 1, a => by
  unfold gL
  cases hx : ns[a]? with
  | none => intro s hs; cases hs
  | some x =>
   refine wg5 (xn6 hn f) _ _ _ fun s hs => ?_
   cases hk : (x.kind == 4) with
   | false => rw [hk] at hs; cases hs
   | true =>
    rw [hk, aH, List.mem_singleton] at hs
    subst hs
    exact hn x (List.mem_of_getElem? hx)
section
variable {S : St}
theorem yL (l m : Nat) (es : List (Value × AV)) (h : m ≠ l) : (S.put l (.mp es)).obj m = S.obj m := by
 simp only [St.obj, St.put, PM.get_set, h, dG]
theorem xe3 (l : Nat) (h : l ≠ S.no) : S.bornMap.obj l = S.obj l := by
 simp only [St.bornMap, St.obj, St.bearNext, St.bear, PM.get_set, h, dG]
end
theorem mt : E.und 126 = some (.map 9 4) := by kernel_rfl
theorem kt : E.und 9 = some .string := by kernel_rfl
theorem kl7 {tm : PM AV} {S : St} {d : Option Tmp} (x y : Operand) (t u : TypeId) : opV E tm d (.call (Call.mk (.builtin .delete) #[x, y] #[t, u])) S = bD E false .delete [t, u] [E.ev tm x, E.ev tm y] S := rfl
theorem kd0 {fr b : Nat → List ByteArray} {l : List Int} {i : Nat} (hi : i < l.length) (out : List ByteArray) : jI fr b (l.drop i) i out = jI fr b (l.drop (i + 1)) (i + 1) (nK out (mE (b i) (fr l[i].toNat))) := by
 rw [dJ hi, jI]
theorem ke5 {l : List ByteArray} {j : Nat} (hj : j < l.length) (ks : List ByteArray) : mE (l.drop j) ks = mE (l.drop (j + 1)) (nQ l[j] ks) := by
 rw [dJ hj, mE, List.foldl_cons]; rfl
theorem nP {x : AV} {l : List ByteArray} (h : IsV 1 x (aN l)) (S : St) : iF x S = some (.sc (.int .i64 (l.length : Nat)), S) := by rw [h.len]; simp [aN]
theorem idxS {x : AV} {l : List ByteArray} (h : IsV 1 x (aN l)) {k : Nat} (hk : k < l.length) (S : St) : bT 1 x (some (k : Int)) S = some (.eptr [.sc (.string l[k])] 0, S) := h.idx (v := .sc (.string l[k])) (by simp [aN, hk]) rfl S
theorem xw2 (ns : List NodeV) (ds : List DeclV) (d : Nat) (hd : d ≤ 60) (pat : Bool) (a z i : Nat) (x : NodeV) (hw : bV (bC ns ds d) pat (x.kind == 11) x.kids 0 (a + 1) = some z) (hz : z ≤ ns.length) (hi : i < x.kids.length) : (dU ns x i).length ≤ ns.length + 2 := by
 unfold dU
 simp only [bB]
 split
 · simp
 split
 · simp
 split
 · simp
 split
 · rename_i h
   simp only [aS, bZ] at h
   obtain ⟨p, q, q1, a1, a2, a3, a4⟩ := yQ pat _ _ 0 (a + 1) z hw (i - 1) (by omega)
   have hgd : x.kids.getD (i - 1) 0 = ((q : Nat) : Int) := by
    have hlt : i - 1 < x.kids.length := by omega
    rw [← a3]
    simp [List.getD, hlt]
   have := tG _ _ d 60 hd _ _ _ a4
   rw [hgd, gN]
   omega
 · simp
theorem kq3 (t : TreeV) (nx tx : AV) (ht : TreeIs nx tx t) (hnm : ∀ x ∈ t.nodes, x.name.size ≤ 60) (hnl : t.nodes.length ≤ 1000) : ∀ (d f : Nat), d ≤ f → d ≤ 60 → ∀ (pat : Bool) (a z : Nat), bC t.nodes t.types d pat a = some z → ∀ (S : St), S.Fresh →
 ∃ r S', EvA E 71 [.agg [nx, tx], .sc (.int .i64 (a : Nat))] S r S' ∧ (∃ l, r = .mp l ∧ S.no ≤ l ∧ l < S'.no ∧ S'.IsSet l (gL t.nodes f a)) ∧ Grow S S' aA
 | 0, f, hf, hd, pat, a, z, h, S, hS => by cases h
 | d + 1, 0, hf, hd, pat, a, z, h, S, hS => by omega
 | d + 1, f + 1, hf, hd, pat, a, z, h, S, hS => by
  have hbd := cT _ _ _ _ _ _ h
  have hlt : a < t.nodes.length := by omega
  have hxm := fE hlt
  have hkl := ht.lk _ hxm
  have hw := uE h hlt
  have eb : gL t.nodes (f + 1) a = jI (gL t.nodes f) (dU t.nodes t.nodes[a]) t.nodes[a].kids 0 (bif t.nodes[a].kind == 4 then [t.nodes[a].name] else []) := by
   rw [gL, cX hlt]
  rw [eb]
  refine ev71 rfl ?_
  unfold p71
  generalize hTl : (PC.seq (.seq (.reg r71_5) (.block 0 (.loop b71_17))) (.seq (.reg r71_18) .ret)) = Tl
  have hb1 := (Grow.refl hS aA).born 26 [nx, tx]
  have hT1 : (S.born 26 [nx, tx]).obj S.no = some [nx, tx] := by simp [bE]
  have hn1 : S.no < (S.born 26 [nx, tx]).no := bJ _
  simp only [SXa, reduceCtorEq, Nat.reduceAdd, dT, dZ]
  generalize S.born 26 [nx, tx] = S1 at hb1 hT1 hn1
  have hb2 := (hb1.born 36 zN).put S1.no (.cells (aL t.nodes[a])) hb1.no
  have hN2 : ((S1.born 36 zN).put S1.no (.cells (aL t.nodes[a]))).obj S1.no = some (aL t.nodes[a]) := by simp [aX]
  have hT2 : ((S1.born 36 zN).put S1.no (.cells (aL t.nodes[a]))).obj S.no = some [nx, tx] := by
   have : S.no ≠ S1.no := by omega
   simp [aX, bE, this, hT1]
  have hn2 : S1.no < ((S1.born 36 zN).put S1.no (.cells (aL t.nodes[a]))).no := bJ _
  simp only [SXa, reduceCtorEq, Nat.reduceEqDiff, P71, gS, aG, aE, hT1, aD, aF, aM, iB ht.nodes hlt, lU, lT, tV, stN, bE, oF, oB, dK, aB, xt9]
  generalize (S1.born 36 zN).put S1.no (.cells (aL t.nodes[a])) = S2 at hb2 hN2 hT2 hn2
  have hb3 := hb2.bornMap
  have hM3 := xp7 (S := S2)
  have hN3 : S2.bornMap.obj S1.no = some (aL t.nodes[a]) := by rw [xe3 _ (by omega)]; exact hN2
  have hT3 : S2.bornMap.obj S.no = some [nx, tx] := by rw [xe3 _ (by omega)]; exact hT2
  have hn3 : S2.no < S2.bornMap.no := bJ _
  generalize hm : S2.no = m at hM3 hn3
  have hmS : S.no ≤ m := by omega
  have hm1 : S1.no < m := by omega
  generalize S2.bornMap = S3 at hb3 hM3 hN3 hT3 hn3
  have hN3' := hN3
  have rest : ∀ (tm : PM AV) (S3 : St) (out0 : List ByteArray), out0.length ≤ 1 → (∀ s ∈ out0, s.size ≤ 60) → S3.IsSet m out0 → S3.obj S1.no = some (aL t.nodes[a]) → S3.obj S.no = some [nx, tx] → Grow S S3 aA → m < S3.no → getT tm 2 = .ptr S.no 0 → getT tm 5 = .ptr S1.no 0 → getT tm 6 = .mp m →
   aV E 52 [.c (.seq (.seq (.reg r71_5) (.block 0 (.loop b71_17))) (.seq (.reg r71_18) .ret))] .nrm tm S3 (kB E [.tmp 4] fun r S' => (∃ l, r = .mp l ∧ S.no ≤ l ∧ l < S'.no ∧ S'.IsSet l (jI (gL t.nodes f) (dU t.nodes t.nodes[a]) t.nodes[a].kids 0 out0)) ∧ Grow S S' aA) := by
   clear hM3 hN3 hT3 hb3 hn3
   intro tm S3 out0 ho1 ho2 hM3 hN3' hT3 hb3 hn3 t2 t5 t6
   have hN3 := hN3'
   simp only [aL] at hN3
   simp only [SXa, Nat.reduceEqDiff, P71, t5, aE, hN3, bS, aG, aD, aF, dO]
   refine bX (fun tm S' N => ∃ (i q : Nat) (out : List ByteArray), i ≤ t.nodes[a].kids.length ∧ N = t.nodes[a].kids.length - i ∧ bV (bC t.nodes t.types d) pat (t.nodes[a].kind == 11) (t.nodes[a].kids.drop i) i q = some z ∧ q ≤ t.nodes.length ∧ out.length ≤ q ∧ (∀ s ∈ out, s.size ≤ 60) ∧
    jI (gL t.nodes f) (dU t.nodes t.nodes[a]) (t.nodes[a].kids.drop i) i out = jI (gL t.nodes f) (dU t.nodes t.nodes[a]) t.nodes[a].kids 0 out0 ∧
    S'.IsSet m out ∧ S'.obj S1.no = some (aL t.nodes[a]) ∧ S'.obj S.no = some [nx, tx] ∧ Grow S S' aA ∧ m < S'.no ∧ getT tm 2 = .ptr S.no 0 ∧ getT tm 5 = .ptr S1.no 0 ∧ getT tm 6 = .mp m ∧ getT tm 25 = (lN t.nodes[a]) ∧ getT tm 26 = .sc (.int .i64 (t.nodes[a].kids.length : Nat)) ∧ getT tm 27 = .sc (.int .i64 (i : Int))) t.nodes[a].kids.length
    ⟨0, a + 1, out0, by omega, by omega, by rw [cJ]; exact hw, by omega, by omega, ho2, by rw [cJ], hM3, hN3', hT3, hb3, hn3, by simp [aO, t2, t5, t6]⟩ ?_
   clear hM3 hN3 hN3' hT3 hb3 hn3 t2 t5 t6
   rintro tm S3 N ⟨i, q, out, hi, rfl, hq, hqn, hol, hos, hfl, hM3, hN3', hT3, hb3, hn3, t2, t5, t6, t25, t26, t27⟩
   have hN3 := hN3'
   simp only [aL] at hN3
   by_cases hit : i < t.nodes[a].kids.length
   case neg =>
    have hie : i = t.nodes[a].kids.length := by omega
    rw [hie, fA, jI] at hfl
    simp only [SXa, Nat.reduceEqDiff, b71_17, t6, t26, t27, bO hit]
    rw [← hfl]
    exact ⟨⟨m, rfl, hmS, hn3, hM3⟩, hb3⟩
   case pos =>
   have wi := cG hit (by omega)
   have hq0 := hq
   rw [tE _ _ _ hit] at hq
   cases c6 : (t.nodes[a].kids[i] == ((q : Nat) : Int)) with
   | false => rw [c6] at hq; cases hq
   | true =>
   rw [c6, aH] at hq
   have hk : t.nodes[a].kids[i] = ((q : Nat) : Int) := by simpa using c6
   cases hw2 : bC t.nodes t.types d (pat || (t.nodes[a].kind == 11 && cN ((i : Nat) : Int))) q with
   | none => rw [hw2] at hq; cases hq
   | some q1 =>
   rw [hw2] at hq
   have hbq := cT _ _ _ _ _ _ hw2
   have hlq := yC _ _ d f (by omega) _ _ _ hw2
   have hsq := xn6 (P := fun s => s.size ≤ 60) hnm f q
   obtain ⟨r4, S4, e4, ⟨l4, rfl, hl4, hl4', hM4⟩, g4⟩ := kq3 t nx tx ht hnm hnl d f (by omega) (by omega) _ q q1 hw2 S3 hb3.fresh
   have hT4 := g4.objs hT3 (by omega)
   have hN4 := g4.objs hN3 (by omega)
   obtain ⟨X, S5, e5, hX, g5⟩ := jg8 t nx tx ht d (by omega) pat a z i t.nodes[a] hxm hw hit S4 g4.fresh
   have hlb := xw2 _ _ d (by omega) pat a z i t.nodes[a] hw (by omega) hit
   have hM5 := g5.isSet hM4 hl4'
   have g35 := g4.two g5
   rw [kd0 hit, hk, gN] at hfl
   simp only [SXa, Nat.reduceEqDiff, Nat.reduceAdd, b71_17, P71, t2, t25, t26, t27, bL hit, iQ hit, hk, aE, hT3, aD, aF, aB]
   refine cC e4 ?_
   simp only [SXa, Nat.reduceEqDiff, Nat.reduceAdd, P71, t2, t5, aE, hT4, hN4, aD, aF, aB]
   refine cC e5 ?_
   simp only [SXa, Nat.reduceEqDiff, P71, nP hX]
   refine bX (fun tm S' N => ∃ (j : Nat) (ks : List ByteArray), j ≤ (dU t.nodes t.nodes[a] i).length ∧ N = (dU t.nodes t.nodes[a] i).length - j ∧ mE ((dU t.nodes t.nodes[a] i).drop j) ks = mE (dU t.nodes t.nodes[a] i) (gL t.nodes f q) ∧ ks.Sublist (gL t.nodes f q) ∧
    S'.IsSet l4 ks ∧ Grow S3 S' aA ∧ l4 < S'.no ∧ getT tm 2 = .ptr S.no 0 ∧ getT tm 5 = .ptr S1.no 0 ∧ getT tm 6 = .mp m ∧ getT tm 9 = .mp l4 ∧ getT tm 25 = (lN t.nodes[a]) ∧ getT tm 26 = .sc (.int .i64 (t.nodes[a].kids.length : Nat)) ∧ getT tm 27 = .sc (.int .i64 (i : Int)) ∧
    getT tm 38 = X ∧ getT tm 39 = .sc (.int .i64 ((dU t.nodes t.nodes[a] i).length : Nat)) ∧ getT tm 40 = .sc (.int .i64 (j : Int))) (dU t.nodes t.nodes[a] i).length
    ⟨0, gL t.nodes f q, by omega, by omega, by rw [cJ], List.Sublist.refl _, hM5, g35, aU hl4' g5.no, by simp [aO, t2, t5, t6, t25, t26, t27]⟩ ?_
   clear t2 t5 t6 t25 t26 t27
   rintro tm S6 N ⟨j, ks, hj, rfl, hdl, hsub, hM6, g6, hn6, t2, t5, t6, t9, t25, t26, t27, t38, t39, t40⟩
   by_cases hjt : j < (dU t.nodes t.nodes[a] i).length
   case pos =>
    have wj := cG hjt (by omega)
    rw [ke5 hjt] at hdl
    simp only [SXa, Nat.reduceEqDiff, b71_14, P71, t2, t5, t6, t9, t25, t26, t27, t38, t39, t40, bL hjt, idxS hX hjt, wj, kl7, wy9 mt kt hM6]
    exact ⟨(dU t.nodes t.nodes[a] i).length - (j + 1), by omega, j + 1, _, by omega, rfl, hdl, (yE _ _).trans hsub, zJ _ _, g6.put _ _ hl4, hn6, by simp []⟩
   case neg =>
    have hje : j = (dU t.nodes t.nodes[a] i).length := by omega
    rw [hje, fA] at hdl
    have hks : ks = mE (dU t.nodes t.nodes[a] i) (gL t.nodes f q) := hdl
    have hlm : m ≠ l4 := by omega
    have hM7 : S6.IsSet m out := g6.isSet hM3 hn3
    have hlk := hsub.length_le
    have cp := jg0 hlm hM7 hM6 (by omega) (by omega) (fun s hs => by have := hos s hs; omega) (fun s hs => by have := hsq s (hsub.subset hs); omega)
    have e7 : EvA E 120 [.mp m, .mp l4] S6 (.tup []) (S6.put m (.mp (fO (nK out ks)))) := ev_x (E := E) (f := 120) (fn := Tryz.f120) (g := mF) (by kernel_rfl) rfl cp
    simp only [SXa, reduceCtorEq, Nat.reduceEqDiff, b71_14, P71, t2, t5, t6, t9, t25, t26, t27, t39, t40, bO hjt]
    refine cC e7 ?_
    simp only [SXa, Nat.reduceEqDiff, t2, t5, t6, t25, t26, t27, wi]
    rw [← hks] at hfl
    have hT7 := g6.objs hT3 (by omega)
    have hN7 := g6.objs hN3' (by omega)
    have hlu := xu6 out ks
    exact ⟨t.nodes[a].kids.length - (i + 1), by omega, i + 1, q1, nK out ks, by omega, rfl, hq, hbq.2, by omega, (fun s hs => by
     rcases mem_unionB.1 hs with hs | hs
     · exact hos s hs
     · exact hsq s (hsub.subset hs)), hfl, zJ _ _, by rw [yL _ _ _ (by omega)]; exact hN7, by rw [yL _ _ _ (by omega)]; exact hT7, (hb3.two g6).put _ _ hmS, aU hn3 g6.no, by simp []⟩
  rw [hTl] at rest
  cases c1 : (t.nodes[a].kind == 4) with
  | true =>
   simp only [aL] at hN3
   simp only [SXa, reduceCtorEq, Nat.reduceEqDiff, P71, aE, hN3, bS, aG, aD, aM, aF, xc5, xt0 mt kt hM3 _ (show inB t.nodes[a].name [] = false from rfl), mL, c1]
   refine rest _ _ [t.nodes[a].name] (by simp) (fun s hs => by rw [List.mem_singleton] at hs; subst hs; exact hnm _ hxm) (zJ _ _) (by rw [yL _ _ _ (by omega)]; exact hN3') (by rw [yL _ _ _ (by omega)]; exact hT3) (hb3.put _ _ hmS) hn3 ?_ ?_ ?_
   all_goals simp [aO]
  | false =>
   simp only [aL] at hN3
   simp only [SXa, reduceCtorEq, Nat.reduceEqDiff, P71, aE, hN3, bS, aG, aD, aM, c1]
   refine rest _ _ [] (by simp) (fun s hs => by cases hs) hM3 hN3' hT3 hb3 hn3 ?_ ?_ ?_
   all_goals simp [aO]
open Go.Abs
theorem yB {t : TreeV} (h : fJ t = true) : bC t.nodes t.types 60 false 0 = some t.nodes.length ∧ t.nodes.length ≤ 1000 := by
 unfold fJ at h
 simp only [aS] at h
 obtain ⟨⟨⟨⟨_, h2⟩, _⟩, h3⟩, _⟩ := h
 cases hw : bC t.nodes t.types 60 false 0 with
 | none => rw [hw] at h3; cases h3
 | some z =>
  rw [hw] at h3
  simp only [gD] at h3
  have : z = t.nodes.length := by omega
  exact ⟨by rw [this], by simpa using h2⟩
theorem sE {t : TreeV} {i : Int} (h : dW t i = true) : ∃ (d : Nat) (p : Bool) (z : Nat), d ≤ 60 ∧ bC t.nodes t.types d p i.toNat = some z ∧ i = ((i.toNat : Nat) : Int) ∧ fJ t = true ∧ t.nodes.length ≤ 1000 := by
 unfold dW at h
 simp only [aS, bZ] at h
 obtain ⟨⟨h1, h2⟩, h3⟩ := h
 obtain ⟨k1, k2⟩ := yB h3
 obtain ⟨d', p', z', a1, a2⟩ := vO _ _ _ _ _ _ k1 i.toNat (by omega) (by omega)
 exact ⟨d', p', z', a1, a2, by omega, h3, k2⟩
noncomputable def qH (t : TreeV) (i : Int) : Nat := bif dW t i then gI t.nodes 60 i.toNat else 0
noncomputable def qO (t : TreeV) (i : Int) : List ByteArray := bif dW t i then pH (gL t.nodes 60 i.toNat) else []
theorem kw1 (t : TreeV) (nx tx : AV) (ht : TreeIs nx tx t) (i : Int) : Ans E 34 [.agg [nx, tx], .sc (.int .i64 i)] (.sc (.int .i64 (qH t i : Nat))) := bU fun S hS => by
 refine ev34 rfl ?_
 have hG := (Grow.refl hS aA).born 26 [nx, tx]
 have hT : (S.born 26 [nx, tx]).obj S.no = some [nx, tx] := by simp [bE]
 have hn : S.no < (S.born 26 [nx, tx]).no := bJ _
 simp only [SXa, reduceCtorEq, Nat.reduceEqDiff, Nat.reduceAdd, P34, dT, dZ]
 generalize S.born 26 [nx, tx] = S0 at hG hT hn
 simp only [SXa, reduceCtorEq, Nat.reduceEqDiff, Nat.reduceAdd, P34, aE, hT, aD, aF, aB]
 refine aT (wn5 t nx tx ht i) hG (fun S1 g1 hG1 => ?_)
 have hT1 := g1.objs hT hn
 cases hg : dW t i with
 | false =>
  simp only [SXa, reduceCtorEq, Nat.reduceEqDiff]
  exact ⟨by simp only [qH, hg, aK]; rfl, hG1⟩
 | true =>
 obtain ⟨d, p, z, k1, k2, k3, _, _⟩ := sE hg
 simp only [SXa, reduceCtorEq, Nat.reduceEqDiff, Nat.reduceAdd, P34, aE, hT1, aD, aF, aB]
 have hd := wi2 t nx tx ht d 60 k1 (by omega) p i.toNat z k2
 rw [← k3] at hd
 refine aT hd hG1 (fun S2 g2 hG2 => ?_)
 simp only [SXa, reduceCtorEq, Nat.reduceEqDiff]
 exact ⟨by simp only [qH, hg, aH], hG2⟩
theorem op_mkf {tm : PM AV} {S : St} {d : Option Tmp} (f : FuncId) (x : Operand) : opV E tm d (.makeFunc (.func f) #[] #[x]) S = some (.fn (.func f) [] [E.ev tm x], S) := rfl
theorem jg5 (l : Nat) : cellsOf (.mp l) = some [.mp l] := rfl
theorem keys_ev (l : Nat) (S : St) : ∃ r S', EvA E 70 [.mp l] S r S' ∧ r = .fn (.func 118) [] [.ptr S.no 0] ∧ S' = S.born 126 [.mp l] := by
 refine ev70 rfl ?_
 simp only [SXa, reduceCtorEq, Nat.reduceEqDiff, Nat.reduceAdd, P70, dT, jg5, op_mkf]
theorem ww4 (S : St) (e : TypeId) (cs : List AV) : (S.born e cs).shp.get S.no = some (e, cs.length) := by
 simp [St.born, St.bearNext, St.bear, PM.get_set]
theorem jg9 {S : St} (e : TypeId) (cs : List AV) {l : Nat} {ks : List ByteArray} (h : S.IsSet l ks) (hl : l ≠ S.no) : (S.born e cs).IsSet l ks := by
 unfold St.IsSet at h ⊢
 simp only [St.born, St.bearNext, St.bear, PM.get_set, hl, dG]
 exact h
theorem Free_ok (t : TreeV) (nx tx : AV) (ht : TreeIs nx tx t) (hnm : ∀ x ∈ t.nodes, x.name.size ≤ 60) (i : Int) (S : St) (hS : S.Fresh) : ∃ r S', EvA E 27 [.agg [nx, tx], .sc (.int .i64 i)] S r S' ∧ IsV 1 r (aN (qO t i)) ∧ Grow S S' aA := by
 refine ev27 rfl ?_
 have hG := (Grow.refl hS aA).born 26 [nx, tx]
 have hT : (S.born 26 [nx, tx]).obj S.no = some [nx, tx] := by simp [bE]
 have hn : S.no < (S.born 26 [nx, tx]).no := bJ _
 simp only [SXa, reduceCtorEq, Nat.reduceEqDiff, Nat.reduceAdd, P27, dT, dZ]
 generalize S.born 26 [nx, tx] = S0 at hG hT hn
 simp only [SXa, reduceCtorEq, Nat.reduceEqDiff, Nat.reduceAdd, P27, aE, hT, aD, aF, aB]
 refine aT (wn5 t nx tx ht i) hG (fun S1 g1 hG1 => ?_)
 have hT1 := g1.objs hT hn
 cases hg : dW t i with
 | false =>
  simp only [SXa, reduceCtorEq, Nat.reduceEqDiff]
  exact ⟨by simp only [qO, hg, aK]; exact IsV.nil 1, hG1⟩
 | true =>
 obtain ⟨d, p, z, k1, k2, k3, k4, k5⟩ := sE hg
 have hbd := cT _ _ _ _ _ _ k2
 simp only [SXa, reduceCtorEq, Nat.reduceEqDiff, Nat.reduceAdd, P27, aE, hT1, aD, aF, aB]
 obtain ⟨r2, S2, e2, ⟨l, rfl, hl, hl', hM⟩, g2⟩ := kq3 t nx tx ht hnm k5 d 60 k1 k1 p i.toNat z k2 S1 hG1.fresh
 rw [← k3] at e2
 refine cC e2 ?_
 have hG2 := hG1.two g2
 simp only [SXa, reduceCtorEq, Nat.reduceEqDiff, P27]
 obtain ⟨r3, S3, e3, rfl, rfl⟩ := keys_ev l S2
 refine cC e3 ?_
 have hG3 := hG2.born 126 [.mp l]
 simp only [SXa, reduceCtorEq, Nat.reduceEqDiff, P27]
 have hlen := yC _ _ d 60 k1 p _ z k2
 have hsz := xn6 (P := fun s => s.size ≤ 60) hnm 60 i.toNat
 obtain ⟨r4, hs4, hv4⟩ := kx7 (g := 118) (jg9 126 [.mp l] hM (by omega)) (ww4 S2 126 [.mp l]) (show (S2.born 126 [.mp l]).obj S2.no = some [.mp l] by simp [bE]) (by omega) (fun s hs => by have := hsz s hs; omega)
 have e4 : EvA E 69 [.fn (.func 118) [] [.ptr S2.no 0]] (S2.born 126 [.mp l]) r4 (S2.born 126 [.mp l]) := ev_x (E := E) (f := 69) (fn := Tryz.f69) (g := nI 118) (by kernel_rfl) rfl hs4
 refine cC e4 ?_
 simp only [SXa, reduceCtorEq, Nat.reduceEqDiff]
 exact ⟨by simp only [qO, hg, aH]; exact hv4, hG3⟩
open Go.Abs
theorem km7 {s : ByteArray} {ks : List ByteArray} : s ∈ pH ks ↔ s ∈ ks := (yz5 ks).mem_iff
theorem xn5 {fr b : Nat → List ByteArray} (hf : ∀ a, (fr a).Nodup) : ∀ (l : List Int) (i : Nat) (out : List ByteArray), out.Nodup → (jI fr b l i out).Nodup
 | [], i, out, h => h
 | k :: r, i, out, h => xn5 hf r (i + 1) _ (we7 h ((xQ _ _).nodup (hf _)))
theorem yu0 (ns : List NodeV) : ∀ (f a : Nat), (gL ns f a).Nodup
 | 0, a => List.nodup_nil
 | f + 1, a => by
  unfold gL
  cases hx : ns[a]? with
  | none => exact List.nodup_nil
  | some x =>
   refine xn5 (yu0 ns f) _ _ _ ?_
   cases (x.kind == 4) <;> simp
theorem xe1 : ∀ {a b : List UInt8}, a ≤ b → a ≠ b → Op.bytesLess a b = true
 | a, [], h, hne => by
  exfalso
  cases a with
  | nil => exact hne rfl
  | cons x r => exact absurd h (by simp)
 | [], y :: s, h, hne => rfl
 | x :: r, y :: s, h, hne => by
  rw [Op.bytesLess]
  rcases List.cons_le_cons_iff.1 h with h2 | ⟨rfl, h2⟩
  · simp [h2]
  · have : r ≠ s := fun e => hne (by rw [e])
    simp [xe1 h2 this]
open Go.Abs
theorem toL (s : ByteArray) : s.toList = gR s := ByteArray.toList_eq s
theorem eqL (a b : ByteArray) : (a.toList == b.toList) = (a == b) := by
 rw [toL, toL, pV, gD, beq_b]
 exact ⟨xb5, fun h => by rw [h]⟩
theorem wd0 (ks : List ByteArray) : (pH ks).Pairwise fun a b => gR a ≤ gR b := by
 unfold pH
 rw [List.pairwise_map]
 exact (yn6 _).imp fun h => h
end Go.Proofs.YthjaoinieikjdaaGreatDoor
