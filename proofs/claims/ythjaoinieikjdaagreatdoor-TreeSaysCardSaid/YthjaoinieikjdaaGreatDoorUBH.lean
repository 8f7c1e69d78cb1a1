/-
  The document's own trees: the walks (rows of texts).
-/
import Derived.Test.YthjaoinieikjdaaGreatDoorUBE
import Derived.Test.YthjaoinieikjdaaGreatDoorUBG
import Derived.Lib.QuoteLoop
set_option maxHeartbeats 16000000
set_option linter.unusedSimpArgs false
set_option linter.unusedVariables false
set_option maxRecDepth 100000
namespace Go.Proofs.YthjaoinieikjdaaGreatDoor
open Go.Abs
theorem wu7 {l : List ByteArray} {k : Nat} (hk : k < l.length) (s : ByteArray) : fD (l.drop k) s = (s.toList == l[k].toList || fD (l.drop (k + 1)) s) := by
 rw [dJ hk]; rfl
theorem kj1 (l : List ByteArray) (x : AV) (hx : IsV 1 x (aN l)) (hl : l.length ≤ 2 ^ 40) (s : ByteArray) : Ans E 96 [x, .sc (.string s)] (.sc (.bool (fD l s))) := bU fun S hS => by
 refine ev96 rfl ?_
 simp only [SXa, Nat.reduceAdd, P96]
 refine bX (fun tm S' N => ∃ k : Nat, k ≤ l.length ∧ N = l.length - k ∧ fD (l.drop k) s = fD l s ∧ Grow S S' aA ∧ getT tm 0 = x ∧ getT tm 1 = .sc (.string s) ∧ getT tm 5 = .sc (.int .i64 (k : Int))) l.length ⟨0, by omega, by omega, by rw [cJ], Grow.refl hS _, by simp [aO]⟩ ?_
 rintro tm S' N ⟨k, hk, rfl, hr, hG, t0, t1, t5⟩
 by_cases hlt : k < l.length
 · have wk := cG hlt (by omega)
   rw [wu7 hlt] at hr
   have hsy : (l[k].toList == s.toList) = (s.toList == l[k].toList) := Bool.eq_iff_iff.2 (by simp only [gD]; exact eq_comm)
   simp only [SXa, reduceCtorEq, Nat.reduceEqDiff, b96_6, P96, t0, t1, t5, iG hx, bL hlt, iY hx hlt, hsy]
   cases hb : (s.toList == l[k].toList) with
   | true =>
    rw [hb, cA] at hr
    simp only [SXa, Nat.reduceEqDiff]
    exact ⟨by rw [← hr], hG⟩
   | false =>
    rw [hb, gU] at hr
    simp only [SXa, reduceCtorEq, Nat.reduceEqDiff, t0, t1, t5, wk]
    exact ⟨l.length - (k + 1), by omega, k + 1, by omega, rfl, hr, hG, by simp []⟩
 · have hke : k = l.length := by omega
   rw [hke, fA] at hr
   simp only [SXa, reduceCtorEq, Nat.reduceEqDiff, b96_6, P96, t0, t5, iG hx, bO hlt]
   exact ⟨by rw [← hr]; rfl, hG⟩
theorem wy1 {l : List ByteArray} {k : Nat} (hk : k < l.length) : eA (l.take k) (l.drop k) = bif inB l[k] (l.take k) then true else eA (l.take (k + 1)) (l.drop (k + 1)) := by
 rw [dJ hk, eA, List.take_add_one, cX hk]; rfl
theorem in_drop {l : List ByteArray} {k : Nat} (hk : k < l.length) (s : ByteArray) : inB s (l.drop k) = (s.toList == l[k].toList || inB s (l.drop (k + 1))) := by
 rw [dJ hk, eqL]; rfl
theorem yz8 (l : List ByteArray) (x : AV) (hx : IsV 1 x (aN l)) (hl : l.length ≤ 2 ^ 40) : Ans E 107 [x] (.sc (.bool (eA [] l))) := bU fun S hS => by
 refine ev107 rfl ?_
 simp only [SXa, Nat.reduceAdd, P107]
 refine bX (fun tm S' N => ∃ k : Nat, k ≤ l.length ∧ N = l.length - k ∧ eA (l.take k) (l.drop k) = eA [] l ∧ Grow S S' aA ∧ getT tm 0 = x ∧ getT tm 3 = .sc (.int .i64 (k : Int))) l.length ⟨0, by omega, by omega, by rw [cJ, List.take_zero], Grow.refl hS _, by simp [aO]⟩ ?_
 rintro tm S1 N ⟨k, hk, rfl, hr, hG, t0, t3⟩
 by_cases hlt : k < l.length
 · have wk := cG hlt (by omega)
   rw [wy1 hlt] at hr
   have hlen : (l.take k).length = k := by rw [eW]; omega
   simp only [SXa, reduceCtorEq, Nat.reduceEqDiff, b107_10, P107, t0, t3, iG hx, bL hlt]
   refine bX (fun tm S' N => ∃ j : Nat, j ≤ k ∧ N = k - j ∧ inB l[k] ((l.take k).drop j) = inB l[k] (l.take k) ∧ Grow S S' aA ∧ getT tm 0 = x ∧ getT tm 3 = .sc (.int .i64 (k : Int)) ∧ getT tm 4 = .sc (.int .i64 (j : Int))) k ⟨0, by omega, by omega, by rw [cJ], hG, by simp [aO, t0, t3]⟩ ?_
   rintro tm S2 N ⟨j, hj, rfl, hq, hG2, t0, t3, t4⟩
   by_cases hjt : j < k
   · have wj := cG hjt (by omega)
     have hjl : j < l.length := by omega
     rw [in_drop (by rw [hlen]; exact hjt), List.getElem_take] at hq
     simp only [SXa, reduceCtorEq, Nat.reduceEqDiff, b107_8, P107, t0, t3, t4, bL hjt, iY hx hlt, iY hx hjl]
     cases hb : (l[k].toList == l[j].toList) with
     | true =>
      rw [hb, cA] at hq
      rw [← hq, aH] at hr
      simp only [SXa, Nat.reduceEqDiff]
      exact ⟨by rw [← hr], hG2.two (Grow.raise hG2.fresh 9 aA)⟩
     | false =>
      rw [hb, gU] at hq
      simp only [SXa, reduceCtorEq, Nat.reduceEqDiff, t0, t3, t4, wj]
      exact ⟨k - (j + 1), by omega, j + 1, by omega, rfl, hq, hG2.two (Grow.raise hG2.fresh 9 aA), by simp []⟩
   · have hje : j = k := by omega
     rw [hje, rP (by rw [hlen]; exact aB _)] at hq
     rw [← hq] at hr
     simp only [SXa, reduceCtorEq, Nat.reduceEqDiff, b107_8, P107, t0, t3, t4, bO hjt, wk]
     exact ⟨l.length - (k + 1), by omega, k + 1, by omega, rfl, hr, hG2, by simp []⟩
 · have hke : k = l.length := by omega
   rw [hke, fA] at hr
   simp only [SXa, reduceCtorEq, Nat.reduceEqDiff, b107_10, P107, t0, t3, iG hx, bO hlt]
   exact ⟨by rw [← hr]; rfl, hG⟩
theorem idx9 {tm : PM AV} {S : St} {d : Option Tmp} (x y : Operand) (s : ByteArray) (k : Nat) (hx : E.ev tm x = .sc (.string s)) (hy : E.ev tm y = .sc (.int .i64 (k : Int))) (hl : k < s.size) : opV E tm d (.index 9 x y) S = some (.sc (.int .u8 ((s.data.toList.getD k 0).toNat : Nat)), S) :=
 wu4 nM (by kernel_rfl) x y s k hx hy (by omega) hl
def marksB : ByteArray := ⟨#[40, 41, 44, 59, 61, 60, 62, 43, 45, 42, 124, 33, 58]⟩
def marksL : List Int := [40, 41, 44, 59, 61, 60, 62, 43, 45, 42, 124, 33, 58]
theorem mark_at : ∀ k : Fin 13, IntKind.i32.wrap (((marksB.data.toList.getD k 0).toNat : Nat) : Int) = marksL.getD k 0 := by decide
theorem kb1 (r : Int) {k : Nat} (hk : k < 13) : (marksL.drop k).any (fun m => r == m) = (r == marksL.getD k 0 || (marksL.drop (k + 1)).any fun m => r == m) := by
 have hl : k < marksL.length := hk
 rw [dJ hl, nU]
 congr 2
 simp [List.getD, hl]
theorem kf0 (r : Int) (a1 : (r == 95) = false) (a2 : (r == 39) = false) (a3 : wB r = false) (a4 : (decide (48 ≤ r) && decide (r ≤ 57)) = false) (a5 : (r == 32 || r == 9 || r == 10 || r == 13) = false) : eC r = bif marksL.any (fun m => r == m) then 4 else 0 := by
 unfold eC
 rw [a1, a2, a3, a4, a5]
 simp only [dD, aK, marksL, nU, List.any_nil, fU, Bool.or_assoc]
theorem ki9 (r : Int) (S0 S : St) (tm : PM AV) (hc : eC r = bif marksL.any (fun m => r == m) then 4 else 0) (hG : Grow S0 S aA) (t0 : getT tm 0 = .sc (.int .i32 r)) (t3 : getT tm 3 = .sc (.string marksB)) (t4 : getT tm 4 = .sc (.int .i64 0)) :
 aV E 50 [.c (.loop b123_13), .blk 1, .c (.seq (.reg r123_14) .ret)] .nrm tm S (kB E [.tmp 2] fun v S' => v = .sc (.int .i64 (eC r)) ∧ Grow S0 S' aA) := by
 rw [hc]
 refine bX (fun tm S' N => ∃ k : Nat, k ≤ 13 ∧ N = 13 - k ∧ (marksL.drop k).any (fun m => r == m) = marksL.any (fun m => r == m) ∧ Grow S0 S' aA ∧ getT tm 0 = .sc (.int .i32 r) ∧ getT tm 3 = .sc (.string marksB) ∧ getT tm 4 = .sc (.int .i64 (k : Int))) 13 ⟨0, by omega, by omega, by rw [cJ], hG, t0, t3, t4⟩ ?_
 rintro tm S1 N ⟨k, hk, rfl, hr, hG, t0, t3, t4⟩
 have hsz : marksB.size = 13 := rfl
 by_cases hlt : k < 13
 · have wk := cG hlt (by omega)
   rw [kb1 r hlt] at hr
   have hd : decide ((k : Int) < ((marksB.size : Nat) : Int)) = true := bL hlt
   have hix : ∀ (tm : PM AV) (S : St) (d : Option Tmp), getT tm 45 = .sc (.string marksB) → getT tm 46 = .sc (.int .i64 (k : Int)) → opV E tm d (.index 9 (.tmp 45) (.tmp 46)) S = some (.sc (.int .u8 ((marksB.data.toList.getD k 0).toNat : Nat)), S) := fun tm S d h1 h2 => idx9 _ _ marksB k h1 h2 hlt
   have hm : IntKind.i32.wrap (((marksB.data.toList.getD k 0).toNat : Nat) : Int) = marksL.getD k 0 := mark_at ⟨k, hlt⟩
   simp only [SXa, reduceCtorEq, Nat.reduceEqDiff, b123_13, P123, t0, t3, t4, eJ, eL, hd, hix, hm]
   cases hb : (r == marksL.getD k 0) with
   | true =>
    rw [hb, cA] at hr
    simp only [SXa, Nat.reduceEqDiff]
    exact ⟨by rw [← hr, aH], hG⟩
   | false =>
    rw [hb, gU] at hr
    simp only [SXa, reduceCtorEq, Nat.reduceEqDiff, t0, t3, t4, wk]
    exact ⟨13 - (k + 1), by omega, k + 1, by omega, rfl, hr, hG, by simp []⟩
 · have hke : k = 13 := by omega
   have hd : decide ((k : Int) < ((marksB.size : Nat) : Int)) = false := bO hlt
   rw [hke] at hr
   simp only [SXa, Nat.reduceEqDiff, b123_13, P123, t3, t4, eJ, eL, hd]
   exact ⟨by rw [← hr]; rfl, hG⟩
theorem xa0 (r : Int) (h1 : -2147483648 ≤ r) (h2 : r ≤ 2147483647) : Ans E 123 [.sc (.int .i32 r)] (.sc (.int .i64 (eC r))) := bU fun S hS => by
 refine ev123 rfl ?_
 have hG := Grow.refl hS aA
 simp only [SXa, reduceCtorEq, Nat.reduceEqDiff, Nat.reduceAdd, r123_0, r123_1, r123_2, r123_3, r123_4, r123_5, r123_6, r123_7, r123_8, p123]
 repeat' (first
  | (refine gP (fun h => ?_) (fun h => ?_) <;> simp only [SXa, reduceCtorEq, Nat.reduceEqDiff, Nat.reduceAdd, Nat.reduceSub, Nat.reduceMul, Nat.reduceBEq, Int.reduceLT, Int.reduceLE, Int.reduceToNat, Int.reduceBEq, Int.reduceBNe, reduceIte, zy0, call148, r123_0, r123_1, r123_2, r123_3, r123_4, r123_5, r123_6, r123_7, r123_8, r123_9, r123_10, r123_11, r123_12, p123, h])
  | (refine gO (fun h => ?_) (fun h => ?_) <;> simp only [SXa, reduceCtorEq, Nat.reduceEqDiff, call148, h]))
 all_goals try (refine aT (kn4 r h1 h2) hG (fun S1 g1 hG => ?_); simp only [SXa, reduceCtorEq, Nat.reduceEqDiff])
 repeat' (first
  | (refine gP (fun h => ?_) (fun h => ?_) <;> simp only [SXa, reduceCtorEq, Nat.reduceEqDiff, h])
  | (refine gO (fun h => ?_) (fun h => ?_) <;> simp only [SXa, reduceCtorEq, Nat.reduceEqDiff, h]))
 all_goals try (exact ⟨by simp [eC, *], by assumption⟩)
 all_goals exact ki9 r S _ _ (kf0 r (by assumption) (by assumption) (by assumption) (by simp [*]) (by simp [*])) (by assumption) (by simp [aO]) (by simp [aO]; rfl) (by simp [aO])
theorem bsl19 (S : St) : gE E 31 19 [(0, .sc (.string ⟨#[116, 121, 112, 101]⟩)), (1, .sc (.string ⟨#[111, 102]⟩)), (2, .sc (.string ⟨#[108, 101, 116]⟩)), (3, .sc (.string ⟨#[114, 101, 99]⟩)), (4, .sc (.string ⟨#[105, 110]⟩)), (5, .sc (.string ⟨#[102, 117, 110]⟩)), (6, .sc (.string ⟨#[105, 102]⟩)), (7, .sc (.string ⟨#[116, 104, 101, 110]⟩)), (8, .sc (.string ⟨#[101, 108, 115, 101]⟩)), (9, .sc (.string ⟨#[109, 97, 116, 99, 104]⟩)), (10, .sc (.string ⟨#[119, 105, 116, 104]⟩)), (11, .sc (.string ⟨#[101, 110, 100]⟩)), (12, .sc (.string ⟨#[114, 101, 102]⟩)), (13, .sc (.string ⟨#[112, 114, 105, 110, 116]⟩)), (14, .sc (.string ⟨#[114, 101, 97, 100]⟩)), (15, .sc (.string ⟨#[114, 97, 105, 115, 101]⟩)), (16, .sc (.string ⟨#[116, 114, 121]⟩)), (17, .sc (.string ⟨#[116, 114, 117, 101]⟩)), (18, .sc (.string ⟨#[102, 97, 108, 115, 101]⟩))] S = some (.vec 1 1 (aN keyL), S) := by kernel_rfl
theorem jb6 (s : ByteArray) : sN s = fD keyL s := rfl
theorem ky5 (s : ByteArray) : Ans E 151 [.sc (.string s)] (.sc (.bool (sN s))) := bU fun S hS => by
 rw [jb6]
 have hx : IsV 1 (.vec 1 1 (aN keyL)) (aN keyL) := IsV.vec _ _ _
 refine ev151 rfl ?_
 simp only [SXa, reduceCtorEq, Nat.reduceEqDiff, Nat.reduceAdd, Nat.reduceBEq, P151, bsl19]
 refine bX (fun tm S' N => ∃ k : Nat, k ≤ keyL.length ∧ N = keyL.length - k ∧ fD (keyL.drop k) s = fD keyL s ∧ Grow S S' aA ∧ getT tm 3 = .vec 1 1 (aN keyL) ∧ getT tm 0 = .sc (.string s) ∧ getT tm 4 = .sc (.int .i64 (k : Int))) keyL.length ⟨0, by omega, by omega, by rw [cJ], Grow.refl hS _, by simp [aO]⟩ ?_
 rintro tm S' N ⟨k, hk, rfl, hr, hG, t3, t0, t4⟩
 have hkl : keyL.length = 19 := rfl
 by_cases hlt : k < keyL.length
 · have wk := cG hlt (by omega)
   rw [wu7 hlt] at hr
   have hsy : (keyL[k].toList == s.toList) = (s.toList == keyL[k].toList) := Bool.eq_iff_iff.2 (by simp only [gD]; exact eq_comm)
   simp only [SXa, reduceCtorEq, Nat.reduceEqDiff, b151_7, P151, t0, t3, t4, iG hx, bL hlt, iY hx hlt, hsy]
   cases hb : (s.toList == keyL[k].toList) with
   | true =>
    rw [hb, cA] at hr
    simp only [SXa, Nat.reduceEqDiff]
    exact ⟨by rw [← hr], hG⟩
   | false =>
    rw [hb, gU] at hr
    simp only [SXa, reduceCtorEq, Nat.reduceEqDiff, t0, t3, t4, wk]
    exact ⟨keyL.length - (k + 1), by omega, k + 1, by omega, rfl, hr, hG, by simp []⟩
 · have hke : k = keyL.length := by omega
   rw [hke, fA] at hr
   simp only [SXa, Nat.reduceEqDiff, b151_7, P151, t3, t4, iG hx, bO hlt]
   exact ⟨by rw [← hr]; rfl, hG⟩
theorem ki5 (s : ByteArray) : Ans E 149 [.sc (.string s)] (.sc (.int .i64 (eZ fF s (dV s 0) : Nat))) := bU fun S hS => by
 refine ev149 rfl ?_
 simp only [SXa, reduceCtorEq, Nat.reduceEqDiff, Nat.reduceAdd, P149, wJ, sJ]
 have hI := vM (S := S) s
 have hG := (Grow.refl hS aA).bornIt s
 have hno : S.no < (S.bornIt s).no := bJ _
 refine bX (fun tm S' N => ∃ pos, N = s.size - pos ∧ eZ fF s (dV s pos) = eZ fF s (dV s 0) ∧ S'.IsIt S.no s pos ∧ Grow S S' aA ∧ S.no < S'.no ∧ getT tm 0 = .sc (.string s) ∧ getT tm 7 = .ptr S.no 0) s.size ⟨0, by omega, rfl, hI, hG, hno, by simp [aO]⟩ ?_
 rintro tm S' N ⟨pos, rfl, hr, hI, hG, hno, t0, t7⟩
 have hn := vZ hI
 by_cases hp : pos < s.size
 · simp only [hp, fM] at hn
   obtain ⟨r1, r2⟩ := wm0 s pos
   rw [rY hp] at hr
   have hw := Lib.width_pos s pos
   simp only [SXa, Nat.reduceEqDiff, b149_7, P149, pB, t7, hn]
   refine aT (xa0 _ r1 r2) (hG.put S.no (.siter s (pos + (Utf8.decode s pos).2)) (aB _)) (fun S2 g2 hG2 => ?_)
   have hI2 := g2.isIt (zT (S := S') S.no s (pos + (Utf8.decode s pos).2)) hno
   have hno2 : S.no < S2.no := aU hno g2.no
   simp only [eZ] at hr
   cases c1 : (eC ((Utf8.decode s pos).1 : Nat) == 1) with
   | true =>
    have e1 : (eC ((Utf8.decode s pos).1 : Nat) != 1) = false := by rw [bne, c1]; rfl
    rw [show fF ((Utf8.decode s pos).1 : Nat) = true by rw [fF, c1]; rfl, aH] at hr
    simp only [SXa, reduceCtorEq, Nat.reduceEqDiff, e1, t0, t7]
    exact ⟨_, by omega, pos + (Utf8.decode s pos).2, rfl, hr, hI2, hG2, hno2⟩
   | false =>
   have e1 : (eC ((Utf8.decode s pos).1 : Nat) != 1) = true := by rw [bne, c1]; rfl
   cases c2 : (eC ((Utf8.decode s pos).1 : Nat) == 2) with
   | true =>
    have e2 : (eC ((Utf8.decode s pos).1 : Nat) != 2) = false := by rw [bne, c2]; rfl
    rw [show fF ((Utf8.decode s pos).1 : Nat) = true by rw [fF, c1, c2]; rfl, aH] at hr
    simp only [SXa, reduceCtorEq, Nat.reduceEqDiff, e1, e2, t0, t7]
    exact ⟨_, by omega, pos + (Utf8.decode s pos).2, rfl, hr, hI2, hG2, hno2⟩
   | false =>
    have e2 : (eC ((Utf8.decode s pos).1 : Nat) != 2) = true := by rw [bne, c2]; rfl
    rw [show fF ((Utf8.decode s pos).1 : Nat) = false by rw [fF, c1, c2]; rfl, aK] at hr
    simp only [SXa, Nat.reduceEqDiff, e1, e2]
    exact ⟨by rw [← hr], hG2⟩
 · simp only [hp, dG] at hn
   rw [qB hp] at hr
   simp only [SXa, reduceCtorEq, Nat.reduceEqDiff, b149_7, pB, t0, t7, hn, eJ, eL]
   exact ⟨by rw [← hr]; rfl, hG⟩
def gQ (s : ByteArray) : Nat := if (Utf8.decode s 0).2 < s.size then (Utf8.decode s 0).2 else s.size
theorem yD {s : ByteArray} (h : 0 < s.size) : eB s = ((Utf8.decode s 0).1 : Nat) := by
 unfold eB Lib.decodeGo
 rw [aR (by omega)]
theorem xt4 (s : ByteArray) (hs : 0 < s.size) : Ans E 122 [.sc (.string s)] (.tup [.sc (.int .i32 (eB s)), .sc (.int .i64 (gQ s : Nat))]) := bU fun S hS => by
 rw [yD hs]
 refine ev122 rfl ?_
 simp only [SXa, reduceCtorEq, Nat.reduceEqDiff, Nat.reduceAdd, P122, wJ, sJ, eJ, eL]
 have hI := vM (S := S) s
 have hG := (Grow.refl hS aA).bornIt s
 have hno : S.no < (S.bornIt s).no := bJ _
 refine bX (fun tm S' N => ∃ k pos : Nat, N = 2 - k ∧ (k = 0 ∧ pos = 0 ∨ k = 1 ∧ pos = (Utf8.decode s 0).2 ∧ getT tm 5 = .sc (.int .i32 ((Utf8.decode s 0).1 : Nat))) ∧ S'.IsIt S.no s pos ∧ Grow S S' aA ∧ S.no < S'.no ∧ getT tm 4 = .sc (.int .i64 (s.size : Nat)) ∧ getT tm 6 = .sc (.int .i64 (k : Int)) ∧ getT tm 12 = .ptr S.no 0) 2 ⟨0, 0, by omega, .inl ⟨rfl, rfl⟩, hI, hG, hno, by simp [aO]⟩ ?_
 rintro tm S' N ⟨k, pos, rfl, hk, hI, hG, hno, t4, t6, t12⟩
 have hn := vZ hI
 rcases hk with ⟨rfl, rfl⟩ | ⟨rfl, rfl, t5⟩
 · simp only [hs, fM] at hn
   have e0 : ((((0 : Nat) : Int)) == 0) = true := rfl
   have e1 : ((((0 : Nat) : Int)) == 1) = false := rfl
   simp only [SXa, Nat.reduceEqDiff, Nat.reduceSub, b122_12, pB, t4, t6, t12, hn, e0, e1]
   exact ⟨1, by omega, 1, _, by omega, .inr ⟨rfl, rfl⟩, by rw [aF]; exact zT (S := S') S.no s _, hG.put S.no _ (aB _), hno, by simp []; rfl⟩
 · have e0 : ((((1 : Nat) : Int)) == 0) = false := rfl
   have e1 : ((((1 : Nat) : Int)) == 1) = true := rfl
   by_cases hp : (Utf8.decode s 0).2 < s.size
   · simp only [hp, fM] at hn
     simp only [SXa, reduceCtorEq, Nat.reduceEqDiff, Nat.reduceSub, b122_12, pB, t4, t5, t6, t12, hn, e0, e1]
     exact ⟨by simp only [gQ, hp, fM], hG.put S.no _ (aB _)⟩
   · simp only [hp, dG] at hn
     simp only [SXa, Nat.reduceEqDiff, Nat.reduceSub, b122_12, pB, t4, t5, t12, hn]
     exact ⟨by simp only [gQ, hp, dG], hG⟩
theorem uV (s : ByteArray) (k : Nat) (hl : k < s.size) : ∀ (tm : PM AV) (S : St) (d : Option Tmp) (x y : Operand), E.ev tm x = .sc (.string s) → E.ev tm y = .sc (.int .i64 ((k : Nat) : Int)) → opV E tm d (.index 9 x y) S = some (.sc (.int .u8 ((s.data.toList.getD k 0).toNat : Nat)), S) := fun tm S d x y h1 h2 => idx9 x y s k h1 h2 hl
theorem wrap2 {k n : Nat} (h : k + 1 < n) (hn : n ≤ 2 ^ 62) : IntKind.i64.wrap ((k : Int) + 2) = ((k + 2 : Nat) : Int) := by
 rw [wrap_i64 (by omega) (by omega)]; omega
theorem wz7 (s : ByteArray) (a : Nat) (ha : a ≤ s.size) (hs : s.size ≤ 2 ^ 40) (S : St) (hS : S.Fresh) :
 ∃ r S', EvA E 124 [.sc (.string s), .sc (.int .i64 (a : Nat))] S r S' ∧ (r = .sc (.int .i64 (-1)) ∨ ∃ z : Nat, a < z ∧ z ≤ s.size ∧ r = .sc (.int .i64 (z : Nat))) ∧ Grow S S' aA := by
 refine ev124 rfl ?_
 simp only [SXa, Nat.reduceAdd, P124]
 refine bX (fun tm S' N => ∃ (k : Nat) (d : Int), a ≤ k ∧ k ≤ s.size ∧ N = s.size - k ∧ Grow S S' aA ∧ getT tm 0 = .sc (.string s) ∧ getT tm 1 = .sc (.int .i64 (k : Nat)) ∧ getT tm 5 = .sc (.int .i64 d)) (s.size - a) ⟨a, 0, by omega, by omega, rfl, Grow.refl hS _, by simp [aO]⟩ ?_
 rintro tm S1 N ⟨k, d, hk, hks, rfl, hG, t0, t1, t5⟩
 by_cases hlt : k < s.size
 · have wk := cG hlt (by omega)
   have i0 := uV s k hlt
   by_cases h2 : k + 1 < s.size
   · have i1 := uV s (k + 1) h2
     have w2 := wrap2 h2 (by omega)
     simp only [SXa, reduceCtorEq, Nat.reduceEqDiff, b124_12, t0, t1, eJ, eL, wk, bL hlt, bL h2, i0]
     repeat' (first
      | (refine gP (fun h => ?_) (fun h => ?_) <;> simp only [SXa, reduceCtorEq, Nat.reduceEqDiff, h, t0, t1, t5, eJ, eL, wk, bL h2, i0, w2])
      | (refine gO (fun h => ?_) (fun h => ?_) <;> simp only [SXa, reduceCtorEq, Nat.reduceEqDiff, h, t0, t1, t5, eJ, eL, wk, bL h2, i0, i1]))
     all_goals first
      | exact ⟨.inr ⟨k + 2, by omega, by omega, rfl⟩, hG⟩
      | (refine ⟨s.size - (k + 2), by omega, k + 2, IntKind.i64.wrap (d + 1), by omega, by omega, rfl, hG, ?_⟩; simp []; done)
      | (refine ⟨s.size - (k + 2), by omega, k + 2, IntKind.i64.wrap (d - 1), by omega, by omega, rfl, hG, ?_⟩; simp []; done)
      | (refine ⟨s.size - (k + 1), by omega, k + 1, d, by omega, by omega, rfl, hG, ?_⟩; simp []; done)
   · simp only [SXa, reduceCtorEq, Nat.reduceEqDiff, b124_12, t0, t1, t5, eJ, eL, wk, bL hlt, bO h2]
     exact ⟨s.size - (k + 1), by omega, k + 1, d, by omega, by omega, rfl, hG, by simp []⟩
 · simp only [SXa, reduceCtorEq, Nat.reduceEqDiff, b124_12, t0, t1, eJ, eL, bO hlt]
   exact ⟨.inl trivial, hG⟩
theorem dig0 (s : ByteArray) (h : (Utf8.decode s 0).1 ≤ 57) : (Utf8.decode s 0).1 = (s.get! 0).toNat := by
 rw [Lib.decode_at] at h ⊢
 unfold Lib.decodeN at h ⊢
 repeat' split
 all_goals first | rfl | (exfalso; revert h; repeat' split)
 all_goals first | omega | (intro h; omega)
theorem run_ge (may : Int → Bool) (s : ByteArray) : ∀ (n pos : Nat), s.size - pos ≤ n → pos ≤ s.size → pos ≤ eZ may s (dV s pos)
 | 0, pos, h, h2 => by
  rw [qB (by omega)]; exact h2
 | n + 1, pos, h, h2 => by
  by_cases hp : pos < s.size
  · have hw := Lib.width_pos s pos
    rw [rY hp]
    unfold eZ
    cases may ((Utf8.decode s pos).1 : Nat) with
    | true =>
     rw [aH]
     by_cases hq : pos + (Utf8.decode s pos).2 ≤ s.size
     · have := run_ge may s n (pos + (Utf8.decode s pos).2) (by omega) hq
       omega
     · rw [qB (by omega)]; exact h2
    | false => exact aB _
  · rw [qB hp]; exact h2
theorem run_pos (may : Int → Bool) (s : ByteArray) (h : 0 < s.size) (hm : may (eB s) = true) : 0 < eZ may s (dV s 0) := by
 rw [yD h] at hm
 have hw := Lib.width_pos s 0
 rw [rY h]
 simp only [eZ, hm, aH, aF]
 by_cases hq : (Utf8.decode s 0).2 ≤ s.size
 · have := run_ge may s s.size _ (by omega) hq
   omega
 · rw [qB (by omega)]; exact h
end Go.Proofs.YthjaoinieikjdaaGreatDoor
