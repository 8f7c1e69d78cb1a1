/-
  The document's own words: the walks (one word).
-/
import Derived.Test.YthjaoinieikjdaaGreatDoorUBH
set_option linter.unusedSimpArgs false
set_option linter.unusedVariables false
set_option maxRecDepth 100000
namespace Go.Proofs.YthjaoinieikjdaaGreatDoor
open Go.Abs
def hJ (k : Int) (t : ByteArray) (a b : Int) : List AV := [.sc (.int .i64 k), .sc (.string t), .sc (.int .i64 a), .sc (.int .i64 b)]
theorem wT {tm : PM AV} {S : St} {d : Option Tmp} : opV E tm d (.alloc 141) S = some (.ptr S.no 0, S.born 141 zW) := oA (by kernel_rfl)
theorem bldV2 (a b : Int) (S : St) : jG E 141 [(2, .sc (.int .i64 a)), (3, .sc (.int .i64 b))] S = some (.agg (hJ 0 ⟨#[]⟩ a b), S) := by kernel_rfl
theorem stV (l : Nat) (k : Int) (t : ByteArray) (a b : Int) (S : St) : gZ 4 (.ptr l 0) (.agg (hJ k t a b)) S = (S.obj l).bind fun cs => if 4 ≤ cs.length then some (dB, S.put l (.cells (hJ k t a b ++ cs.drop 4))) else none :=
 qV 4 l _ rfl
theorem pX (l off : Nat) (t : ByteArray) (S : St) : gZ 1 (.ptr l off) (.sc (.string t)) S = (S.obj l).bind fun cs => if off < cs.length then some (dB, S.put l (.cells (cs.set off (.sc (.string t))))) else none := qC l off _ rfl rfl
theorem sP : (3 < 4) = True := eq_true (by decide)
theorem rK : (1 < 4) = True := eq_true (by decide)
theorem pO : (0 < 4) = True := eq_true (by decide)
theorem mH (l : Nat) (k : Int) (t : ByteArray) (a b : Int) (S : St) : gZ 4 (.ptr l 0) (.agg [.sc (.int .i64 k), .sc (.string t), .sc (.int .i64 a), .sc (.int .i64 b)]) S = (S.obj l).bind fun cs => if 4 ≤ cs.length then some (dB, S.put l (.cells (.sc (.int .i64 k) :: .sc (.string t) :: .sc (.int .i64 a) :: .sc (.int .i64 b) :: cs.drop 4))) else none := qV 4 l _ rfl
theorem mB {tm : PM AV} {S : St} {d : Option Tmp} (x : Operand) : opV E tm d (.fieldAddr 141 x 0) S = eD 0 (E.ev tm x) S := eR 141 0 0 (by kernel_rfl) x
theorem kS {tm : PM AV} {S : St} {d : Option Tmp} (x : Operand) : opV E tm d (.fieldAddr 141 x 1) S = eD 1 (E.ev tm x) S := eR 141 1 1 (by kernel_rfl) x
theorem lL {tm : PM AV} {S : St} {d : Option Tmp} (x : Operand) : opV E tm d (.fieldAddr 141 x 3) S = eD 3 (E.ev tm x) S := eR 141 3 3 (by kernel_rfl) x
theorem lP {tm : PM AV} {S : St} (t : Nat) (l : List ResultVar) : fB E tm S (.cell t 141 :: l) = (jY true 4 (getT tm t) S).bind fun q => (fB E tm S l).map (q.1 :: ·) := xx5 t 141 l (de := (E.und 141).getD .string) (i := (E.inf 141).getD default) (by kernel_rfl) (by kernel_rfl) (by kernel_rfl) (by kernel_rfl)
noncomputable def fI (s : ByteArray) : Bool := eC (eB s) == 1 && eB s != 39
def bI (s : ByteArray) (a : Nat) : ByteArray := s.extract a s.size
theorem wd9 {s : ByteArray} {a : Nat} (h : a ≤ s.size) : (bI s a).size = s.size - a := by simp [bI]
theorem ky9 {s : ByteArray} {a n : Nat} : (bI s a).extract 0 n = s.extract a (min (a + n) s.size) := by
 simp [bI, ByteArray.extract_extract]
theorem wp6 {r : Int} (h : (eC r == 2) = true) : 48 ≤ r ∧ r ≤ 57 := by
 unfold eC at h
 simp only [bB] at h
 split at h
 · cases h
 · split at h
   · rename_i h2
     simp only [aS, bZ] at h2
     exact h2
   · split at h
     · cases h
     · split at h <;> cases h
theorem ky8 {s : ByteArray} {a : Nat} (h : a < s.size) : (bI s a).get! 0 = s.data.toList.getD a 0 := by
 have h1 : a < s.data.size := h
 have h4 : 0 < (s.data.extract a s.size).size := by rw [Array.size_extract]; have : s.size = s.data.size := rfl; omega
 have e : (bI s a).data = s.data.extract a s.size := by simp [bI]
 have e2 : (bI s a).get! 0 = (bI s a).data[0]! := rfl
 rw [e2, e, getElem!_pos (s.data.extract a s.size) 0 h4]
 simp only [Array.getElem_extract, aM, List.getD, Array.getElem?_toList, Array.getElem?_eq_getElem h1, Option.getD_some]
theorem rH {S S' : St} (g : Grow S S' aA) (n : Nat) : Grow S (S'.raise n) aA := g.two (Grow.raise g.fresh n aA)
theorem wr4 {X : St} {l l2 off n : Nat} {c : AObj} (h : l2 < X.no) (hne : l2 ≠ l) : mC X ((X.raise n).put l c) (.ptr l2 off) = true := by
 have h1 : Nat.blt l2 X.no = true := fT h
 have h2 : ((X.raise n).put l c).ver l2 = X.ver l2 := by
  simp only [St.ver, St.put, St.raise, PM.get_set]
  rw [aR hne]
 simp only [mC, rG, h1, h2, lB, bY]
def wx6 (s : ByteArray) (a : Nat) (r : AV) : Prop := ∃ (ok : Bool) (k : Int) (t : ByteArray) (b : Nat), r = .tup [.agg (hJ k t (a : Nat) (b : Nat)), .sc (.bool ok)] ∧
 (fI (bI s a) = true → ok = true ∧ k = (kM (bI s a)).kind ∧ b = a + eZ fF (bI s a) (dV (bI s a) 0)) ∧ (fI (bI s a) = false → k ≠ 2 ∧ k ≠ 3) ∧ (ok = true → a < b ∧ b ≤ s.size ∧ t = s.extract a b)
set_option maxHeartbeats 32000000 in
theorem ky3 (s : ByteArray) (a : Nat) (ha : a < s.size) (hs : s.size ≤ 2 ^ 40) (S : St) (hS : S.Fresh) :
 ∃ r S', EvA E 125 [.sc (.string s), .sc (.int .i64 (a : Nat))] S r S' ∧ wx6 s a r ∧ Grow S S' aA := by
 refine ev125 rfl ?_
 have hsl : ∀ S, fN E 9 (.sc (.string s)) (some (.sc (.int .i64 (a : Nat)))) none S = some (.sc (.string (bI s a)), S) := fun S => qZ (E := E) nM s (xp6 (a := a) (oV ha)) S
 have hrs := wd9 (oV ha)
 have h0 : 0 < (bI s a).size := by omega
 obtain ⟨f1, f2⟩ := xn9 (bI s a)
 have hfn : gQ (bI s a) ≤ (bI s a).size ∧ 0 < gQ (bI s a) := by
  have := Lib.width_pos (bI s a) 0
  unfold gQ
  split <;> omega
 have wn : IntKind.i64.wrap ((a : Int) + (gQ (bI s a) : Nat)) = ((a + gQ (bI s a) : Nat) : Int) := by rw [wrap_i64 (by omega) (by omega)]; omega
 have hG := (Grow.refl hS aA).born 141 zW
 have ho : (S.born 141 zW).obj S.no = some zW := by simp [bE]
 have hno : S.no < (S.born 141 zW).no := bJ _
 simp only [SXa, reduceCtorEq, Nat.reduceEqDiff, Nat.reduceAdd, P125, wT, hsl]
 generalize S.born 141 zW = S1 at hG ho hno
 refine aT (xt4 (bI s a) h0) hG (fun S2 g2 hG2 => ?_)
 have ho2 := g2.objs ho hno
 have hno2 := aU hno g2.no
 have hG3 := (hG2.born 141 zW).put S2.no (.cells (hJ 0 ⟨#[]⟩ (a : Nat) (a + gQ (bI s a) : Nat))) hG2.no
 have hW3 : ((S2.born 141 zW).put S2.no (.cells (hJ 0 ⟨#[]⟩ (a : Nat) (a + gQ (bI s a) : Nat)))).obj S2.no = some (hJ 0 ⟨#[]⟩ (a : Nat) (a + gQ (bI s a) : Nat)) := by simp [aX]
 have hne : S.no ≠ S2.no := by omega
 have ho3 : ((S2.born 141 zW).put S2.no (.cells (hJ 0 ⟨#[]⟩ (a : Nat) (a + gQ (bI s a) : Nat)))).obj S.no = some zW := by simp [aX, bE, hne, ho2]
 have hn3 : S2.no < ((S2.born 141 zW).put S2.no (.cells (hJ 0 ⟨#[]⟩ (a : Nat) (a + gQ (bI s a) : Nat)))).no := bJ _
 have zl : (zW.length = 4) := rfl
 have zd : zW.drop 4 = [] := rfl
 simp only [SXa, reduceCtorEq, Nat.reduceEqDiff, P125, wn, lF, bldV2, wT, stV, bE, aD, zl, zd, dK, aB]
 generalize ((S2.born 141 zW).put S2.no (.cells (hJ 0 ⟨#[]⟩ (a : Nat) (a + gQ (bI s a) : Nat)))) = S3 at hG3 hW3 ho3 hn3
 refine aT (xa0 _ f1 f2) hG3 (fun S4 g4 hG4 => ?_)
 have hW4 := g4.objs hW3 hn3
 have ho4 := g4.objs ho3 (by omega)
 have hn4 := aU hn3 g4.no
 have hne' : (S.no = S2.no) = False := by simp [hne]
 have hne2 : (S2.no = S.no) = False := by simp [Ne.symm hne]
 have hbo : S.no ≤ S2.no := oV hno2
 simp only [hJ] at hW4
 simp only [zW] at ho4
 have R := @lP
 cases c1 : (eC (eB (bI s a)) == 1) with
 | true =>
  cases c5 : (eB (bI s a) == 39) with
  | true =>
   have hl : fI (bI s a) = false := by unfold fI; rw [c1, bne, c5]; rfl
   simp only [SXa, reduceCtorEq, Nat.reduceEqDiff, Nat.reduceAdd, P125, c1, c5, aE, hW4, ho4, mH, lP, aX, aD, aB, dM, aF]
   exact ⟨⟨false, _, _, _, rfl, fun h => (by rw [hl] at h; cases h), fun _ => by decide, fun h => by cases h⟩, hG4.put S.no _ (aB _)⟩
  | false =>
   have hl : fI (bI s a) = true := by unfold fI; rw [c1, bne, c5]; rfl
   have hmay : fF (eB (bI s a)) = true := by unfold fF; rw [c1]; rfl
   have hle := vV fF (bI s a) (bI s a).size 0 (by omega)
   have hpos := run_pos fF (bI s a) h0 hmay
   obtain ⟨n, hn⟩ : ∃ n, eZ fF (bI s a) (dV (bI s a) 0) = n := ⟨_, rfl⟩
   have wr : IntKind.i64.wrap ((a : Int) + (n : Nat)) = ((a + n : Nat) : Int) := by rw [wrap_i64 (by omega) (by omega)]; omega
   have hcut : ∀ S, fN E 9 (.sc (.string s)) (some (.sc (.int .i64 (a : Nat)))) (some (.sc (.int .i64 ((a + n : Nat) : Int)))) S = some (.sc (.string (s.extract a (a + n))), S) := fun S => qZ (E := E) nM s (yv0 (a := a) (b := a + n) (by omega) (by omega)) S
   have hnt : (kM (bI s a)).text = s.extract a (a + n) := by
    have : (kM (bI s a)).text = (bI s a).extract 0 n := by unfold kM nD; rw [hn]
    rw [this, ky9, Nat.min_eq_left (by omega)]
   have hnk : (kM (bI s a)).kind = bif tO (eB (bI s a)) then 3 else bif sN (s.extract a (a + n)) then 4 else 2 := by
    have e : tL (bI s a) = tO (eB (bI s a)) := by rw [tL, rY h0, yD h0]
    rw [← e, ← hnt]; rfl
   simp only [SXa, reduceCtorEq, Nat.reduceEqDiff, P125, c1, c5, hsl]
   refine aT (ki5 (bI s a)) hG4 (fun S5 g5 hG5 => ?_)
   have hW5 := g5.objs hW4 hn4
   have ho5 := g5.objs ho4 (by omega)
   have hn5 := aU hn4 g5.no
   rw [hn]
   simp only [SXa, reduceCtorEq, Nat.reduceEqDiff, Nat.reduceAdd, P125, wr, hcut, kS, lL, aG, jC, pX, aE, hW5, aX, aD, aF, fS, kY, bJ, Nat.zero_lt_succ, Nat.succ_lt_succ_iff]
   obtain ⟨S6, hS6⟩ : ∃ S6, (S5.put S2.no (.cells [.sc (.int .i64 0), .sc (.string ⟨#[]⟩), .sc (.int .i64 (a : Nat)), .sc (.int .i64 ((a + n : Nat) : Int))])).put S2.no (.cells [.sc (.int .i64 0), .sc (.string (s.extract a (a + n))), .sc (.int .i64 (a : Nat)), .sc (.int .i64 ((a + n : Nat) : Int))]) = S6 := ⟨_, rfl⟩
   have hG6 : Grow S S6 aA := by rw [← hS6]; exact (hG5.put S2.no _ hbo).put S2.no _ hbo
   have hW6 : S6.obj S2.no = some [.sc (.int .i64 0), .sc (.string (s.extract a (a + n))), .sc (.int .i64 (a : Nat)), .sc (.int .i64 ((a + n : Nat) : Int))] := by rw [← hS6]; simp [aX]
   have ho6 : S6.obj S.no = some [.sc (.int .i64 0), .sc (.string ⟨#[]⟩), .sc (.int .i64 0), .sc (.int .i64 0)] := by rw [← hS6]; simp [aX, hne, ho5]
   have hn6 : S2.no < S6.no := by rw [← hS6]; exact hn5
   rw [hS6]
   refine aT (kg3 _ f1 f2) hG6 (fun S7 g7 hG7 => ?_)
   have hW7 := g7.objs hW6 hn6
   have ho7 := g7.objs ho6 (by omega)
   have hn7 := aU hn6 g7.no
   have fin : ∀ k : Int, k = (kM (bI s a)).kind → wx6 s a (.tup [.agg [.sc (.int .i64 k), .sc (.string (s.extract a (a + n))), .sc (.int .i64 (a : Nat)), .sc (.int .i64 ((a + n : Nat) : Int))], .sc (.bool true)]) := fun k hk =>
    ⟨true, k, _, a + n, rfl, fun _ => ⟨rfl, hk, by rw [hn]⟩, fun h => (by rw [hl] at h; cases h), fun _ => ⟨by omega, by omega, rfl⟩⟩
   cases u1 : tO (eB (bI s a)) with
   | true =>
    rw [u1, aH] at hnk
    simp only [SXa, reduceCtorEq, Nat.reduceEqDiff, Nat.reduceAdd, P125, mB, aG, jC, aE, hW7, ho7, mH, lP, aX, hne', aD, aF, aM, fS, aB, dM, pO]
    exact ⟨fin 3 hnk.symm, (hG7.put S2.no _ hbo).put S.no _ (aB _)⟩
   | false =>
   rw [u1, aK] at hnk
   simp only [SXa, reduceCtorEq, Nat.reduceEqDiff, P125, kS, aG, aE, hW7, aD, aF]
   refine aT (ky5 _) hG7 (fun S8 g8 hG8 => ?_)
   have hW8 := g8.objs hW7 hn7
   have ho8 := g8.objs ho7 (by omega)
   cases u2 : sN (s.extract a (a + n)) with
   | true =>
    rw [u2, aH] at hnk
    simp only [SXa, reduceCtorEq, Nat.reduceEqDiff, Nat.reduceAdd, P125, mB, aG, jC, aE, hW8, ho8, mH, lP, aX, hne', aD, aF, aM, fS, aB, dM, pO]
    exact ⟨fin 4 hnk.symm, (hG8.put S2.no _ hbo).put S.no _ (aB _)⟩
   | false =>
    rw [u2, aK] at hnk
    simp only [SXa, reduceCtorEq, Nat.reduceEqDiff, Nat.reduceAdd, P125, mB, aG, jC, aE, hW8, ho8, mH, lP, aX, hne', aD, aF, aM, fS, aB, dM, pO]
    exact ⟨fin 2 hnk.symm, (hG8.put S2.no _ hbo).put S.no _ (aB _)⟩
 | false =>
 have hl : fI (bI s a) = false := by unfold fI; rw [c1]; rfl
 have bad : ∀ (k : Int) (t : ByteArray) (b : Nat), k ≠ 2 ∧ k ≠ 3 → wx6 s a (.tup [.agg [.sc (.int .i64 k), .sc (.string t), .sc (.int .i64 (a : Nat)), .sc (.int .i64 (b : Nat))], .sc (.bool false)]) := fun k t b hk =>
  ⟨false, k, t, b, rfl, fun h => (by rw [hl] at h; cases h), fun _ => hk, fun h => by cases h⟩
 have fin : ∀ (k : Int) (b : Nat) (ok : Bool), k ≠ 2 ∧ k ≠ 3 → a < b → b ≤ s.size → wx6 s a (.tup [.agg [.sc (.int .i64 k), .sc (.string (s.extract a b)), .sc (.int .i64 (a : Nat)), .sc (.int .i64 (b : Nat))], .sc (.bool ok)]) := fun k b ok hk h1 h2 =>
  ⟨ok, k, _, b, rfl, fun h => (by rw [hl] at h; cases h), fun _ => hk, fun _ => ⟨h1, h2, rfl⟩⟩
 cases c2 : (eC (eB (bI s a)) == 2) with
 | true =>
  have hd := wp6 c2
  have hb0 : 48 ≤ (s.data.toList.getD a 0).toNat ∧ (s.data.toList.getD a 0).toNat ≤ 57 := by
   rw [yD h0] at hd
   have e := dig0 (bI s a) (by omega)
   rw [ky8 ha] at e
   omega
  simp only [SXa, reduceCtorEq, Nat.reduceEqDiff, Nat.reduceAdd, P125, c1, c2, lL, aG, jC, hW4, aD, aF, fS, kY, sP]
  have hG5 := hG4.put S2.no (.cells [.sc (.int .i64 0), .sc (.string ⟨#[]⟩), .sc (.int .i64 (a : Nat)), .sc (.int .i64 (a : Nat))]) hbo
  have hW5 : (S4.put S2.no (.cells [.sc (.int .i64 0), .sc (.string ⟨#[]⟩), .sc (.int .i64 (a : Nat)), .sc (.int .i64 (a : Nat))])).obj S2.no = some [.sc (.int .i64 0), .sc (.string ⟨#[]⟩), .sc (.int .i64 (a : Nat)), .sc (.int .i64 (a : Nat))] := by simp [aX]
  have ho5 : (S4.put S2.no (.cells [.sc (.int .i64 0), .sc (.string ⟨#[]⟩), .sc (.int .i64 (a : Nat)), .sc (.int .i64 (a : Nat))])).obj S.no = some [.sc (.int .i64 0), .sc (.string ⟨#[]⟩), .sc (.int .i64 0), .sc (.int .i64 0)] := by simp [aX, hne, ho4]
  have hn5 : S2.no < (S4.put S2.no (.cells [.sc (.int .i64 0), .sc (.string ⟨#[]⟩), .sc (.int .i64 (a : Nat)), .sc (.int .i64 (a : Nat))])).no := hn4
  generalize S4.put S2.no (.cells [.sc (.int .i64 0), .sc (.string ⟨#[]⟩), .sc (.int .i64 (a : Nat)), .sc (.int .i64 (a : Nat))]) = S5 at hG5 hW5 ho5 hn5
  refine bX (fun tm S' N => ∃ (k : Nat) (v : Int), a ≤ k ∧ k ≤ s.size ∧ N = s.size - k ∧ Grow S S' aA ∧ S2.no < S'.no ∧ S'.obj S2.no = some [.sc (.int .i64 0), .sc (.string ⟨#[]⟩), .sc (.int .i64 (a : Nat)), .sc (.int .i64 (k : Nat))] ∧
   S'.obj S.no = some [.sc (.int .i64 0), .sc (.string ⟨#[]⟩), .sc (.int .i64 0), .sc (.int .i64 0)] ∧ getT tm 0 = .sc (.string s) ∧ getT tm 1 = .sc (.int .i64 (a : Nat)) ∧ getT tm 4 = .ptr S.no 0 ∧ getT tm 8 = .ptr S2.no 0 ∧ getT tm 9 = .sc (.int .u64 v)) (s.size - a) ⟨a, 0, by omega, by omega, rfl, hG5, hn5, hW5, ho5, by simp [aO]⟩ ?_
  rintro tm S6 N ⟨k, v, hk, hks, rfl, hG6, hn6, hW6, ho6, t0, t1, t4, t8, t9⟩
  have stop : ∀ (hak : a < k), True := fun _ => trivial
  have hcut : ∀ S, fN E 9 (.sc (.string s)) (some (.sc (.int .i64 (a : Nat)))) (some (.sc (.int .i64 (k : Nat)))) S = some (.sc (.string (s.extract a k)), S) := fun S => qZ (E := E) nM s (yv0 (a := a) (b := k) hks hk) S
  have ro : ∀ n, (S6.raise n).obj S2.no = some [.sc (.int .i64 0), .sc (.string ⟨#[]⟩), .sc (.int .i64 (a : Nat)), .sc (.int .i64 (k : Nat))] := fun n => hW6
  have ro2 : ∀ n, (S6.raise n).obj S.no = some [.sc (.int .i64 0), .sc (.string ⟨#[]⟩), .sc (.int .i64 0), .sc (.int .i64 0)] := fun n => ho6
  have hGr : ∀ n, Grow S (S6.raise n) aA := fun n => hG6.two (Grow.raise hG6.fresh n aA)
  have hbad : ∀ S7 : St, Grow S S7 aA → True := fun _ _ => trivial
  by_cases hlt : k < s.size
  · have wk := cG hlt (by omega)
    have i0 := uV s k hlt
    simp only [SXa, reduceCtorEq, Nat.reduceEqDiff, b125_25, P125, t0, t8, eJ, eL, lL, aG, aE, hW6, aD, aF, bL hlt, i0]
    repeat' (first
     | (refine gP (fun h => ?_) (fun h => ?_) <;> simp only [SXa, reduceCtorEq, Nat.reduceEqDiff, Nat.reduceAdd, P125, h, t0, t1, t4, t8, t9, lL, aG, aE, jC, hW6, ho6, mH, lP, aX, hne', aD, aF, aB, dM, fS, kY, sP, i0, wk])
     | (refine gO (fun h => ?_) (fun h => ?_) <;> simp only [SXa, reduceCtorEq, Nat.reduceEqDiff, Nat.reduceAdd, P125, h, t0, t4, t8, lL, aG, aE, hW6, ho6, mH, lP, aX, aD, aF, aB, dM, i0]))
    all_goals first
     | exact ⟨bad _ _ _ (by decide), hG6.put S.no _ (aB _)⟩
     | exact ⟨s.size - (k + 1), by omega, k + 1, _, by omega, by omega, rfl, hG6.put S2.no _ hbo, hn6, rfl, rfl⟩
     |
     (have hak : a < k := by
        rcases fV a k with h' | h'
        · exact h'
        · exfalso
          have : k = a := by omega
          subst this
          simp only [dP] at h
          omega
      refine kK noX wi1 ?_
      simp only [SXa, reduceCtorEq, Nat.reduceEqDiff, Nat.reduceAdd, P125, t0, t1, t4, t8, hcut, mB, kS, lL, aG, jC, pX, aE, eG, hW6, ho6, aX, mH, lP, hne', aD, aF, aM, fS, kY, rK, pO, aB, dM, gF, gG, vI, bY]
      exact ⟨fin 1 k true (by decide) hak hks, (((hGr 9).put S2.no _ hbo).put S2.no _ hbo).put S.no _ (aB _)⟩)
  · have h : a < k := by omega
    simp only [SXa, reduceCtorEq, Nat.reduceEqDiff, Nat.reduceAdd, b125_25, P125, t0, t8, eJ, eL, lL, aG, aE, hW6, aD, aF, bO hlt]
    refine kK noX wi1 ?_
    simp only [SXa, reduceCtorEq, Nat.reduceEqDiff, Nat.reduceAdd, P125, t0, t1, t4, t8, hcut, mB, kS, lL, aG, jC, pX, aE, eG, hW6, ho6, aX, mH, lP, hne', aD, aF, aM, fS, kY, rK, pO, aB, dM, gF, gG, vI, bY]
    exact ⟨fin 1 k true (by decide) h hks, (((hGr 9).put S2.no _ hbo).put S2.no _ hbo).put S.no _ (aB _)⟩
 | false =>
 cases c4 : (eC (eB (bI s a)) == 4) with
 | true =>
  have wa := cG ha (by omega)
  have ia := uV s a ha
  have cutA : ∀ b : Nat, a ≤ b → b ≤ s.size → ∀ S, fN E 9 (.sc (.string s)) (some (.sc (.int .i64 (a : Nat)))) (some (.sc (.int .i64 (b : Nat)))) S = some (.sc (.string (s.extract a b)), S) := fun b h1 h2 S => qZ (E := E) nM s (yv0 (a := a) (b := b) h2 h1) S
  have cut1 := cutA (a + gQ (bI s a)) (by omega) (by omega)
  by_cases h2 : a + 1 < s.size
  · have i1 := uV s (a + 1) h2
    have w2 := wrap2 h2 (by omega)
    have cut2 := cutA (a + 2) (by omega) (by omega)
    simp only [SXa, reduceCtorEq, Nat.reduceEqDiff, Nat.reduceAdd, P125, c1, c2, c4, eJ, eL, wa, bL h2, ia, mB, aG, jC, hW4, aD, aF, aM, fS, pO]
    repeat' (first
     | (refine gP (fun h => ?_) (fun h => ?_) <;> simp only [SXa, reduceCtorEq, Nat.reduceEqDiff, Nat.reduceAdd, P125, h, w2, cut1, cut2, kS, lL, aG, jC, pX, aE, hW4, aX, aD, aF, fS, kY, sP, rK])
     | (refine gO (fun h => ?_) (fun h => ?_) <;> simp only [SXa, reduceCtorEq, Nat.reduceEqDiff, Nat.reduceAdd, P125, h, wa, w2, ia, i1, cut1, cut2, kS, lL, aG, jC, pX, aE, hW4, aX, aD, aF, fS, kY, sP, rK]))
    all_goals (refine kK noX wi0 ?_; simp only [SXa, reduceCtorEq, Nat.reduceEqDiff, Nat.reduceAdd, P125, mN, kS, aG, aE, eG, hW4, aX, lP, aD, aF, aB, gF, gG])
    repeat' (first
     | (refine gP (fun h => ?_) (fun h => ?_) <;> simp only [SXa, reduceCtorEq, Nat.reduceEqDiff, Nat.reduceAdd, Nat.reduceSub, Nat.reduceMul, Nat.reduceBEq, Int.reduceLT, Int.reduceLE, Int.reduceToNat, Int.reduceBEq, Int.reduceBNe, reduceIte, P125, h, eJ, eL, wa, w2, bL h2, ia, i1, cut1, cut2, mN, mB, kS, lL, aG, jC, pX, aE, eG, hW4, ho4, aX, mH, lP, hne', hne2, aD, aF, aM, fS, kY, sP, rK, pO, aB, dM, gF, gG, vI, yh3, sY, bY])
     | (refine gO (fun h => ?_) (fun h => ?_) <;> simp only [SXa, reduceCtorEq, Nat.reduceEqDiff, Nat.reduceAdd, P125, h, mN, kS, aG, aE, eG, hW4, ho4, aX, mH, hne', aD, aF, aB, dM, sY, bY]))
    all_goals (try (with_reducible refine ⟨?_, ?_⟩))
    all_goals (try (with_reducible refine ⟨?_, ?_⟩))
    all_goals first
     | (rw [jK]; exact wr4 hn4 (Ne.symm hne))
     | with_reducible exact fin 5 (a + 2) _ (by decide) (by omega) (by omega)
     | with_reducible exact fin 5 (a + gQ (bI s a)) _ (by decide) (by omega) (by omega)
     | (with_reducible repeat (first | exact hG4 | refine Grow.put ?_ _ _ hbo | refine Grow.put ?_ _ _ (aB _) | refine rH ?_ _))
  · simp only [SXa, reduceCtorEq, Nat.reduceEqDiff, Nat.reduceAdd, P125, c1, c2, c4, eJ, eL, wa, bO h2, cut1, mB, kS, lL, aG, jC, pX, aE, hW4, aX, aD, aF, aM, fS, kY, rK, pO]
    repeat' (first
     | (refine gP (fun h => ?_) (fun h => ?_) <;> simp only [SXa, reduceCtorEq, Nat.reduceEqDiff, Nat.reduceAdd, Nat.reduceSub, Nat.reduceMul, Nat.reduceBEq, Int.reduceLT, Int.reduceLE, Int.reduceToNat, Int.reduceBEq, Int.reduceBNe, reduceIte, P125, h, eJ, eL, wa, bO h2, ia, cut1, mN, mB, kS, lL, aG, jC, pX, aE, hW4, ho4, aX, mH, lP, hne', hne2, aD, aF, aM, fS, kY, sP, rK, pO, aB, dM])
     | (refine gO (fun h => ?_) (fun h => ?_) <;> simp only [SXa, reduceCtorEq, Nat.reduceEqDiff, Nat.reduceAdd, Nat.reduceSub, Nat.reduceMul, Nat.reduceBEq, Int.reduceLT, Int.reduceLE, Int.reduceToNat, Int.reduceBEq, Int.reduceBNe, reduceIte, P125, h, eJ, eL, wa, bO h2, ia, cut1, mN, mB, kS, lL, aG, jC, pX, aE, hW4, ho4, aX, mH, lP, hne', hne2, aD, aF, aM, fS, kY, sP, rK, pO, aB, dM]))
    all_goals (refine kK noX wi0 ?_; simp only [SXa, reduceCtorEq, Nat.reduceEqDiff, Nat.reduceAdd, P125, mN, kS, aG, aE, eG, hW4, aX, lP, aD, aF, aB, gF, gG])
    repeat' (first
     | (refine gP (fun h => ?_) (fun h => ?_) <;> simp only [SXa, reduceCtorEq, Nat.reduceEqDiff, Nat.reduceAdd, Nat.reduceSub, Nat.reduceMul, Nat.reduceBEq, Int.reduceLT, Int.reduceLE, Int.reduceToNat, Int.reduceBEq, Int.reduceBNe, reduceIte, P125, h, eJ, eL, wa, bO h2, ia, cut1, mN, mB, kS, lL, aG, jC, pX, aE, eG, hW4, ho4, aX, mH, lP, hne', hne2, aD, aF, aM, fS, kY, sP, rK, pO, aB, dM, gF, gG, vI, yh3, sY, bY])
     | (refine gO (fun h => ?_) (fun h => ?_) <;> simp only [SXa, reduceCtorEq, Nat.reduceEqDiff, Nat.reduceAdd, P125, h, mN, kS, aG, aE, eG, hW4, ho4, aX, mH, hne', aD, aF, aB, dM, sY, bY]))
    all_goals (try (with_reducible refine ⟨?_, ?_⟩))
    all_goals (try (with_reducible refine ⟨?_, ?_⟩))
    all_goals first
     | (rw [jK]; exact wr4 hn4 (Ne.symm hne))
     | with_reducible exact fin 5 (a + gQ (bI s a)) _ (by decide) (by omega) (by omega)
     | (with_reducible repeat (first | exact hG4 | refine Grow.put ?_ _ _ hbo | refine Grow.put ?_ _ _ (aB _) | refine rH ?_ _))
 | false =>
  simp only [SXa, reduceCtorEq, Nat.reduceEqDiff, Nat.reduceAdd, P125, c1, c2, c4, aE, hW4, ho4, mH, lP, aX, aD, aB, dM, aF]
  exact ⟨bad _ _ _ (by decide), hG4.put S.no _ (aB _)⟩
end Go.Proofs.YthjaoinieikjdaaGreatDoor
