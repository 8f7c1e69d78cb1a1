/-
  More of the calculus: arrays.
-/
import Derived.Test.YthjaoinieikjdaaGreatDoorUAT
import Derived.Test.YthjaoinieikjdaaGreatDoorUAW
import Derived.Test.YthjaoinieikjdaaGreatDoorUAX
set_option maxHeartbeats 16000000
set_option linter.unusedSimpArgs false
set_option linter.unusedVariables false
set_option maxRecDepth 100000
namespace Go.Abs
section
variable {E : Env} {tm : PM AV} {S : St} {d : Option Tmp}
def arrIs (E : Env) (t : TypeId) (n sz : Nat) : Bool := match E.und t with
 | some (.array m e) => match E.inf e with
  | some ie => Nat.beq m n && Nat.beq ie.size sz
  | none => false
 | _ => false
def arrV (n sz : Nat) (x : AV) (i : Option Int) (S : St) : Option (AV × St) := match x, i with
 | .ptr l off, some i => bif decide (0 ≤ i) && decide (i < (n : Int)) then some (.ptr l (off + i.toNat * sz), S) else none
 | .eptr cs off, some i => bif decide (0 ≤ i) && decide (i < (n : Int)) then some (.eptr cs (off + i.toNat * sz), S) else none
 | _, _ => none
theorem arr_chk (t : TypeId) (n sz : Nat) (h : arrIs E t n sz = true) (x y : Operand) : opV E tm d (.indexAddr t x y) S = arrV n sz (E.ev tm x) (eU (E.ev tm y)) S := by
 unfold arrIs at h
 split at h
 · rename_i m e hd
   split at h
   · rename_i ie hi
     simp only [aS] at h
     have h1 := bA h.1
     have h2 := bA h.2
     subst h1; subst h2
     show aW E (fun _ _ _ => none) tm (fP d (.indexAddr t x y)) S = _
     simp only [aW, fP, hd]
     cases E.ev tm x <;> cases eU (E.ev tm y) <;> first | rfl | simp only [hi, arrV]
   · cases h
 · cases h
end
end Go.Abs
namespace Go.Proofs.YthjaoinieikjdaaGreatDoor
open Go.Abs
theorem nM : sM E 9 = true := by kernel_rfl
theorem eJ {tm : PM AV} {S : St} {d : Option Tmp} (x : Operand) : opV E tm d (.call (Call.mk (.builtin .len) #[x] #[9])) S = bD E (E.hp 9 d) .len [9] [E.ev tm x] S := rfl
theorem eL (mu : Bool) (s : ByteArray) (S : St) : bD E mu .len [9] [.sc (.string s)] S = some (.sc (.int .i64 (s.size : Nat)), S) := lenStr nM mu s S
theorem wJ {tm : PM AV} {S : St} {d : Option Tmp} (x : Operand) : opV E tm d (.range 9 x) S = sJ (E.ev tm x) S := kl5 9 x nM
theorem arrP {tm : PM AV} {S : St} {d : Option Tmp} (x y : Operand) : opV E tm d (.indexAddr 229 x y) S = arrV 256 1 (E.ev tm x) (eU (E.ev tm y)) S := arr_chk _ _ _ (by kernel_rfl) x y
theorem kr6 {tm : PM AV} : E.ev tm (.global 0) = .eptr (propsV.map .sc) 0 := rfl
theorem jd7 {tm : PM AV} : E.ev tm (.global 1) = .eptr [kR Lib.letterT] 0 := rfl
theorem evUpper {tm : PM AV} : E.ev tm (.global 2) = .eptr [kR Lib.upperT] 0 := rfl
theorem u8_rng (r : Int) : 0 ≤ IntKind.u8.wrap r ∧ IntKind.u8.wrap r < 256 := by
 simp [IntKind.wrap, IntKind.bits, IntKind.signed]
 omega
theorem ws2 (r : Int) (S : St) : arrV 256 1 (.eptr (propsV.map AV.sc) 0) (some (IntKind.u8.wrap r)) S = some (.eptr (propsV.map AV.sc) (IntKind.u8.wrap r).toNat, S) := by
 obtain ⟨h1, h2⟩ := u8_rng r
 have h3 : decide (IntKind.u8.wrap r < ((256 : Nat) : Int)) = true := by simpa using h2
 simp only [arrV, iI h1, h3, bY, aH, aF, Nat.mul_one]
theorem kk4 (r : Int) : (propsV.map AV.sc)[(IntKind.u8.wrap r).toNat]? = some (.sc (.int .u8 (Lib.propertiesTab.getD (IntKind.u8.wrap r).toNat 0))) := by
 obtain ⟨h1, h2⟩ := u8_rng r
 have h3 : (IntKind.u8.wrap r).toNat < Lib.propertiesTab.length := by rw [Lib.propertiesTab_length]; omega
 simp [propsV, h3]
theorem kd4 (r : Int) (h1 : -2147483648 ≤ r) (h2 : r ≤ 2147483647) : Ans E 172 [kR Lib.letterT, .sc (.int .i32 r)] (.sc (.bool (Lib.exclGo Lib.letterT r))) := fun S hS => ⟨S, ev_x (E := E) (f := 172) (fn := Tryz.f172) (g := gB pL) (by kernel_rfl) rfl (by simp only [gB, excl_l r h1 h2, iH]), Grow.refl hS _⟩
theorem kd3 (r : Int) (h1 : -2147483648 ≤ r) (h2 : r ≤ 2147483647) : Ans E 172 [kR Lib.upperT, .sc (.int .i32 r)] (.sc (.bool (Lib.exclGo Lib.upperT r))) := fun S hS => ⟨S, ev_x (E := E) (f := 172) (fn := Tryz.f172) (g := gB pL) (by kernel_rfl) rfl (by simp only [gB, excl_u r h1 h2, iH]), Grow.refl hS _⟩
theorem kn4 (r : Int) (h1 : -2147483648 ≤ r) (h2 : r ≤ 2147483647) : Ans E 148 [.sc (.int .i32 r)] (.sc (.bool (wB r))) := bU fun S hS => by
 refine ev148 rfl ?_
 cases hw : decide (IntKind.u32.wrap r ≤ 255) with
 | true =>
  simp only [SXa, reduceCtorEq, Nat.reduceEqDiff, Nat.reduceAdd, P148, hw, kr6, arrP, ws2, kk4]
  exact ⟨by simp only [wB, kz4, hw, aH], Grow.refl hS _⟩
 | false =>
  simp only [SXa, reduceCtorEq, Nat.reduceEqDiff, Nat.reduceAdd, P148, hw, jd7]
  refine aT (kd4 r h1 h2) (Grow.refl hS aA) (fun S1 _ hG => ?_)
  simp only [SXa, reduceCtorEq, Nat.reduceEqDiff]
  exact ⟨by simp only [wB, hw, aK], hG⟩
theorem kg3 (r : Int) (h1 : -2147483648 ≤ r) (h2 : r ≤ 2147483647) : Ans E 150 [.sc (.int .i32 r)] (.sc (.bool (tO r))) := bU fun S hS => by
 refine ev150 rfl ?_
 cases hw : decide (IntKind.u32.wrap r ≤ 255) with
 | true =>
  simp only [SXa, reduceCtorEq, Nat.reduceEqDiff, Nat.reduceAdd, P150, hw, kr6, arrP, ws2, kk4]
  exact ⟨by simp only [tO, kz4, hw, aH], Grow.refl hS _⟩
 | false =>
  simp only [SXa, reduceCtorEq, Nat.reduceEqDiff, Nat.reduceAdd, P150, hw, evUpper]
  refine aT (kd3 r h1 h2) (Grow.refl hS aA) (fun S1 _ hG => ?_)
  simp only [SXa, reduceCtorEq, Nat.reduceEqDiff]
  exact ⟨by simp only [tO, hw, aK], hG⟩
theorem dec_ans (s : ByteArray) : Ans E 175 [.sc (.string s)] (.tup [.sc (.int .i32 (eB s)), .sc (.int .i64 ((Lib.decodeGo s).2 : Nat))]) := fun S hS => ⟨S, ev_x (E := E) (f := 175) (fn := Tryz.f175) (g := gB decF) (by kernel_rfl) rfl rfl, Grow.refl hS _⟩
theorem xp3 (r : Int) (h1 : -2147483648 ≤ r) (h2 : r ≤ 2147483647) : Ans E 176 [.sc (.int .i32 r)] (.sc (.int .i64 (eC r))) := bU fun S hS => by
 refine ev176 rfl ?_
 have hG := Grow.refl hS aA
 simp only [SXa, reduceCtorEq, Nat.reduceEqDiff, Nat.reduceAdd, P176]
 repeat' (first
  | (refine gP (fun h => ?_) (fun h => ?_) <;> simp only [SXa, reduceCtorEq, Nat.reduceEqDiff, Nat.reduceAdd, Nat.reduceSub, Nat.reduceMul, Nat.reduceBEq, Int.reduceLT, Int.reduceLE, Int.reduceToNat, Int.reduceBEq, Int.reduceBNe, reduceIte, P176, h])
  | (refine gO (fun h => ?_) (fun h => ?_) <;> simp only [SXa, reduceCtorEq, Nat.reduceEqDiff, P176, h]))
 all_goals try (refine aT (kn4 r h1 h2) hG (fun S1 g1 hG => ?_); simp only [SXa, reduceCtorEq, Nat.reduceEqDiff])
 repeat' (first
  | (refine gP (fun h => ?_) (fun h => ?_) <;> simp only [SXa, reduceCtorEq, Nat.reduceEqDiff, h])
  | (refine gO (fun h => ?_) (fun h => ?_) <;> simp only [SXa, reduceCtorEq, Nat.reduceEqDiff, h]))
 all_goals exact ⟨by simp [eC, *], by assumption⟩
theorem ko5 (s : ByteArray) : Ans E 199 [.sc (.string s)] (.sc (.bool (sN s))) := bU fun S hS => by
 refine ev199 rfl ?_
 have hG := Grow.refl hS aA
 simp only [SXa, reduceCtorEq, Nat.reduceEqDiff, Nat.reduceAdd, P199]
 repeat' (first
  | (refine gP (fun h => ?_) (fun h => ?_) <;> simp only [SXa, reduceCtorEq, Nat.reduceEqDiff, h])
  | (refine gO (fun h => ?_) (fun h => ?_) <;> simp only [SXa, reduceCtorEq, Nat.reduceEqDiff, Nat.reduceAdd, Nat.reduceSub, Nat.reduceMul, Nat.reduceBEq, Int.reduceLT, Int.reduceLE, Int.reduceToNat, Int.reduceBEq, Int.reduceBNe, reduceIte, P199, h]))
 all_goals exact ⟨by simp only [sN, keyL, nU, List.any_nil, cR, cA, fU, *], hG⟩
theorem kk5 (s p : ByteArray) : Ans E 205 [.sc (.string s), .sc (.string p)] (.sc (.bool (oI s p))) := bU fun S hS => by
 refine ev205 rfl ?_
 by_cases hle : p.size ≤ s.size
 · have c1 : decide ((p.size : Int) ≤ (s.size : Int)) = true := by simpa using hle
   have hs := fun S => qZ (E := E) nM s (vL hle) S
   simp only [SXa, reduceCtorEq, Nat.reduceEqDiff, Nat.reduceAdd, P205, eJ, eL, c1, hs]
   exact ⟨by simp [oI, hle, nD], Grow.refl hS _⟩
 · have c1 : decide ((p.size : Int) ≤ (s.size : Int)) = false := by simpa using hle
   simp only [SXa, reduceCtorEq, Nat.reduceEqDiff, Nat.reduceAdd, P205, eJ, eL, c1]
   exact ⟨by simp [oI, hle], Grow.refl hS _⟩
theorem ws3 (s p : ByteArray) : Ans E 200 [.sc (.string s), .sc (.string p)] (.sc (.bool (oI s p))) := bU fun S hS => by
 refine ev200 rfl ?_
 simp only [SXa, reduceCtorEq, Nat.reduceEqDiff, Nat.reduceAdd, P200]
 refine aT (kk5 s p) (Grow.refl hS aA) (fun S1 _ hG => ?_)
 simp only [SXa, reduceCtorEq, Nat.reduceEqDiff]
 exact hG
theorem wm0 (s : ByteArray) (pos : Nat) : (-2147483648 : Int) ≤ ((Utf8.decode s pos).1 : Nat) ∧ (((Utf8.decode s pos).1 : Nat) : Int) ≤ 2147483647 := by
 have := Lib.rune_le s pos
 omega
theorem wy0 (s : ByteArray) : Ans E 198 [.sc (.string s)] (.sc (.bool (tL s))) := bU fun S hS => by
 refine ev198 rfl ?_
 simp only [SXa, reduceCtorEq, Nat.reduceEqDiff, Nat.reduceAdd, P198, wJ, sJ]
 have hI := vM (S := S) s
 have hG := (Grow.refl hS aA).bornIt s
 generalize S.bornIt s = S1 at hI hG
 refine bX (fun tm S' N => S' = S1 ∧ getT tm 0 = .sc (.string s) ∧ getT tm 6 = .ptr S.no 0) 1 ⟨rfl, by simp [aO]⟩ ?_
 rintro tm S' N ⟨rfl, t0, t6⟩
 have hn := vZ hI
 by_cases hp : 0 < s.size
 · simp only [hp, fM] at hn
   obtain ⟨r1, r2⟩ := wm0 s 0
   simp only [SXa, Nat.reduceEqDiff, b198_5, P198, pB, t6, hn]
   refine aT (kg3 _ r1 r2) (hG.put S.no _ (aB _)) (fun S2 _ hG => ?_)
   simp only [SXa, Nat.reduceEqDiff]
   exact ⟨by simp [tL, rY hp], hG⟩
 · simp only [hp, dG] at hn
   simp only [SXa, Nat.reduceEqDiff, b198_5, pB, t6, hn]
   exact ⟨by simp [tL, qB hp], hG⟩
theorem ki3 (may : Int → Bool) (f : FuncId) (hm : ∀ r : Int, -2147483648 ≤ r → r ≤ 2147483647 → Ans E f [.sc (.int .i32 r)] (.sc (.bool (may r)))) (hx : E.ext f = none) (s : ByteArray) : Ans E 178 [.sc (.string s), .sc (.func (.func f) #[] #[])] (.sc (.int .i64 (eZ may s (dV s 0) : Nat))) := bU fun S hS => by
 refine ev178 rfl ?_
 simp only [SXa, reduceCtorEq, Nat.reduceEqDiff, Nat.reduceAdd, P178, wJ, sJ]
 have hI := vM (S := S) s
 have hG := (Grow.refl hS aA).bornIt s
 have hno : S.no < (S.bornIt s).no := bJ _
 refine bX (fun tm S' N => ∃ pos, N = s.size - pos ∧ eZ may s (dV s pos) = eZ may s (dV s 0) ∧ S'.IsIt S.no s pos ∧ Grow S S' aA ∧ S.no < S'.no ∧ getT tm 0 = .sc (.string s) ∧ getT tm 1 = .sc (.func (.func f) #[] #[]) ∧ getT tm 8 = .ptr S.no 0) s.size ⟨0, by omega, rfl, hI, hG, hno, by simp [aO]⟩ ?_
 rintro tm S' N ⟨pos, rfl, hr, hI, hG, hno, t0, t1, t8⟩
 have hn := vZ hI
 by_cases hp : pos < s.size
 · simp only [hp, fM] at hn
   obtain ⟨r1, r2⟩ := wm0 s pos
   rw [rY hp] at hr
   have hw := Lib.width_pos s pos
   simp only [SXa, Nat.reduceEqDiff, b178_6, pB, t1, t8, hn]
   rw [wo7 _ _ _ _ _ (g := f) (first := []) (cap := []) (by simp only [SXa, Nat.reduceEqDiff]; rfl) hx]
   simp only [SXa, Nat.reduceEqDiff, mL, dK]
   refine aT (hm _ r1 r2) (hG.put S.no (.siter s (pos + (Utf8.decode s pos).2)) (aB _)) (fun S2 g2 hG2 => ?_)
   have hI2 := g2.isIt (zT (S := S') S.no s (pos + (Utf8.decode s pos).2)) hno
   have hno2 : S.no < S2.no := aU hno g2.no
   cases hb : may ((Utf8.decode s pos).1 : Nat) with
   | true =>
    simp only [eZ, hb, aH] at hr
    simp only [SXa, reduceCtorEq, Nat.reduceEqDiff, t0, t1, t8]
    exact ⟨_, by omega, pos + (Utf8.decode s pos).2, rfl, hr, hI2, hG2, hno2⟩
   | false =>
    simp only [eZ, hb, aK] at hr
    simp only [SXa, Nat.reduceEqDiff]
    exact ⟨by rw [← hr], hG2⟩
 · simp only [hp, dG] at hn
   rw [qB hp] at hr
   simp only [SXa, reduceCtorEq, Nat.reduceEqDiff, b178_6, pB, t0, t8, hn, eJ, eL]
   exact ⟨by rw [← hr]; rfl, hG⟩
theorem kt4 (r : Int) (h1 : -2147483648 ≤ r) (h2 : r ≤ 2147483647) : Ans E 179 [.sc (.int .i32 r)] (.sc (.bool (tI r))) := bU fun S hS => by
 refine ev179 rfl ?_
 simp only [SXa, reduceCtorEq, Nat.reduceEqDiff, Nat.reduceAdd, P179]
 refine aT (xp3 r h1 h2) (Grow.refl hS aA) (fun S1 _ hG => ?_)
 simp only [SXa, reduceCtorEq, Nat.reduceEqDiff]
 exact ⟨rfl, hG⟩
theorem kb7 (r : Int) (h1 : -2147483648 ≤ r) (h2 : r ≤ 2147483647) : Ans E 197 [.sc (.int .i32 r)] (.sc (.bool (fF r))) := bU fun S hS => by
 refine ev197 rfl ?_
 simp only [SXa, reduceCtorEq, Nat.reduceEqDiff, Nat.reduceAdd, P197]
 refine aT (xp3 r h1 h2) (Grow.refl hS aA) (fun S1 _ hG => ?_)
 simp only [SXa, reduceCtorEq, Nat.reduceEqDiff]
 repeat' (first
  | (refine gP (fun h => ?_) (fun h => ?_) <;> simp only [SXa, reduceCtorEq, Nat.reduceEqDiff, Nat.reduceAdd, Nat.reduceSub, Nat.reduceMul, Nat.reduceBEq, Int.reduceLT, Int.reduceLE, Int.reduceToNat, Int.reduceBEq, Int.reduceBNe, reduceIte, P197, h])
  | (refine gO (fun h => ?_) (fun h => ?_) <;> simp only [SXa, reduceCtorEq, Nat.reduceEqDiff, h]))
 all_goals exact ⟨by simp [fF, *], hG⟩
open Go.Abs
theorem kg2 (s : ByteArray) : Ans E 180 [.sc (.string s)] (.tup [.sc (.int .i64 ((qF 0 (dV s 0)).getD 0)), .sc (.bool (qF 0 (dV s 0)).isSome)]) := bU fun S hS => by
 refine ev180 rfl ?_
 simp only [SXa, reduceCtorEq, Nat.reduceEqDiff, Nat.reduceAdd, P180, wJ, sJ]
 have hI := vM (S := S) s
 have hG := (Grow.refl hS aA).bornIt s
 have hno : S.no < (S.bornIt s).no := bJ _
 refine bX (fun tm S' N => ∃ pos n, N = s.size - pos ∧ qF n (dV s pos) = qF 0 (dV s 0) ∧ S'.IsIt S.no s pos ∧ Grow S S' aA ∧ S.no < S'.no ∧ getT tm 4 = .sc (.int .i64 n) ∧ getT tm 9 = .ptr S.no 0) s.size ⟨0, 0, by omega, rfl, hI, hG, hno, by simp [aO]⟩ ?_
 rintro tm S' N ⟨pos, n, rfl, hr, hI, hG, hno, t4, t9⟩
 have hn := vZ hI
 have hq : ∀ (a : Int) (t : TypeId) (x y : Operand) (S : St), cQ E .quo t x y (.sc (.int .i64 a)) (.sc (.int .i64 10)) S = some (.sc (.int .i64 (IntKind.i64.wrap (a.tdiv 10))), S) := fun a t x y S => b_quo t x y _ _ _ (by decide)
 by_cases hp : pos < s.size
 · simp only [hp, fM] at hn
   rw [rY hp] at hr
   have hw := Lib.width_pos s pos
   have hI2 := zT (S := S') S.no s (pos + (Utf8.decode s pos).2)
   have hG2 := hG.put S.no (.siter s (pos + (Utf8.decode s pos).2)) (aB _)
   simp only [SXa, Nat.reduceEqDiff, b180_9, P180, pB, t4, t9, hn, hq]
   cases hb : decide (IntKind.i64.wrap ((IntKind.i64.wrap (4611686018427387903 - IntKind.i64.wrap (IntKind.i32.wrap (((Utf8.decode s pos).1 : Nat) - 48)))).tdiv 10) < n) with
   | true =>
    have hb2 : decide (n ≤ IntKind.i64.wrap ((IntKind.i64.wrap (4611686018427387903 - IntKind.i64.wrap (IntKind.i32.wrap (((Utf8.decode s pos).1 : Nat) - 48)))).tdiv 10)) = false := by
     simp only [bZ, dP] at hb ⊢; omega
    simp only [qF, hb2, aK] at hr
    simp only [SXa, Nat.reduceEqDiff]
    exact ⟨by rw [← hr]; rfl, hG2⟩
   | false =>
    have hb2 : decide (n ≤ IntKind.i64.wrap ((IntKind.i64.wrap (4611686018427387903 - IntKind.i64.wrap (IntKind.i32.wrap (((Utf8.decode s pos).1 : Nat) - 48)))).tdiv 10)) = true := by
     simp only [bZ, dP] at hb ⊢; omega
    simp only [qF, hb2, aH] at hr
    simp only [SXa, Nat.reduceEqDiff, t4, t9]
    exact ⟨_, by omega, pos + (Utf8.decode s pos).2, _, rfl, hr, hI2, hG2, hno, rfl⟩
 · simp only [hp, dG] at hn
   rw [qB hp] at hr
   simp only [SXa, Nat.reduceEqDiff, b180_9, pB, t4, t9, hn]
   exact ⟨by rw [← hr]; rfl, hG⟩
def gK (w : WordV) : List AV := [.sc (.int .i64 w.kind), .sc (.string w.text), .sc (.int .i64 0), .sc (.int .i64 0)]
def zW : List AV := [.sc (.int .i64 0), .sc (.string ⟨#[]⟩), .sc (.int .i64 0), .sc (.int .i64 0)]
theorem wS {tm : PM AV} {S : St} {d : Option Tmp} : opV E tm d (.alloc 212) S = some (.ptr S.no 0, S.born 212 zW) := oA (by kernel_rfl)
theorem wV (a : Int) (t : ByteArray) (S : St) : jG E 212 [(0, .sc (.int .i64 a)), (1, .sc (.string t))] S = some (.agg [.sc (.int .i64 a), .sc (.string t), .sc (.int .i64 0), .sc (.int .i64 0)], S) := by kernel_rfl
theorem wW (S : St) : jG E 212 [] S = some (.agg zW, S) := by kernel_rfl
theorem stW (l : Nat) (a : Int) (t : ByteArray) (b c : Int) (S : St) : gZ 4 (.ptr l 0) (.agg [.sc (.int .i64 a), .sc (.string t), .sc (.int .i64 b), .sc (.int .i64 c)]) S = (S.obj l).bind fun cs => if 4 ≤ cs.length then some (dB, S.put l (.cells (.sc (.int .i64 a) :: .sc (.string t) :: .sc (.int .i64 b) :: .sc (.int .i64 c) :: cs.drop 4))) else none :=
 qV 4 l _ rfl
theorem fldW0 {tm : PM AV} {S : St} {d : Option Tmp} (x : Operand) : opV E tm d (.fieldAddr 212 x 0) S = eD 0 (E.ev tm x) S := eR 212 0 0 (by kernel_rfl) x
theorem fldW1 {tm : PM AV} {S : St} {d : Option Tmp} (x : Operand) : opV E tm d (.fieldAddr 212 x 1) S = eD 1 (E.ev tm x) S := eR 212 1 1 (by kernel_rfl) x
theorem nB {tm : PM AV} {S : St} (t : Nat) (l : List ResultVar) : fB E tm S (.cell t 212 :: l) = (jY true 4 (getT tm t) S).bind fun q => (fB E tm S l).map (q.1 :: ·) := xx5 t 212 l (de := (E.und 212).getD .string) (i := (E.inf 212).getD default) (by kernel_rfl) (by kernel_rfl) (by kernel_rfl) (by kernel_rfl)
theorem bsl2 (a b : ByteArray) (S : St) : gE E 31 2 [(0, .sc (.string a)), (1, .sc (.string b))] S = some (.vec 1 1 [.sc (.string a), .sc (.string b)], S) := by kernel_rfl
theorem idxs0 (x y : ByteArray) (l : List AV) (S : St) : bT 1 (.vec 1 1 (.sc (.string x) :: l)) (some 0) S = some (.eptr [.sc (.string x)] 0, S) := rfl
theorem idxs1 (a : AV) (x : ByteArray) (l : List AV) (S : St) : bT 1 (.vec 1 1 (a :: .sc (.string x) :: l)) (some 1) S = some (.eptr [.sc (.string x)] 0, S) := rfl
theorem byte0 {tm : PM AV} {S : St} {d : Option Tmp} (x y : Operand) (s : ByteArray) (hx : E.ev tm x = .sc (.string s)) (hy : E.ev tm y = .sc (.int .i64 0)) (hl : 0 < s.size) : opV E tm d (.index 9 x y) S = some (.sc (.int .u8 ((s.data.toList.getD 0 0).toNat : Nat)), S) :=
 wu4 nM (by kernel_rfl) x y s 0 hx hy (by decide) hl
theorem beq_u8 (a b : UInt8) : (((a.toNat : Nat) : Int) == ((b.toNat : Nat) : Int)) = (a == b) := by
 rw [pV]
 simp only [gD]
 constructor
 · intro h
   exact UInt8.toNat_inj.1 (by omega)
 · intro h; rw [h]
theorem kb2 (s : ByteArray) (hs : 0 < s.size) : Ans E 181 [.sc (.string s)] (.agg (gK (rC s))) := bU fun S hS => by
 refine ev181 rfl ?_
 have hG := (Grow.refl hS aA).born 212 zW
 have ho : (S.born 212 zW).obj S.no = some zW := by simp [bE]
 have hno : S.no < (S.born 212 zW).no := bJ _
 simp only [SXa, reduceCtorEq, Nat.reduceEqDiff, Nat.reduceAdd, Nat.reduceBEq, P181, wS, bsl2]
 generalize S.born 212 zW = S1 at hG ho hno
 refine bX (fun tm S' N => ∃ k : Nat, k ≤ 2 ∧ N = 2 - k ∧ (1 ≤ k → oI s ⟨#[58, 61]⟩ = false) ∧ (2 ≤ k → oI s ⟨#[45, 62]⟩ = false) ∧ S'.obj S.no = some zW ∧ Grow S S' aA ∧ S.no < S'.no ∧ getT tm 0 = .sc (.string s) ∧ getT tm 2 = .ptr S.no 0 ∧ getT tm 5 = .vec 1 1 [.sc (.string ⟨#[58, 61]⟩), .sc (.string ⟨#[45, 62]⟩)] ∧ getT tm 6 = .sc (.int .i64 2) ∧ getT tm 7 = .sc (.int .i64 (k : Int))) 2 ⟨0, by omega, by omega, fun h => by omega, fun h => by omega, ho, hG, hno, by simp [aO]⟩ ?_
 rintro tm S' N ⟨k, hk, rfl, p1, p2, ho, hG, hno, t0, t2, t5, t6, t7⟩
 have hz := ho
 simp only [zW] at hz
 match k, hk with
 | 0, _ =>
  have t7 : getT tm 7 = .sc (.int .i64 0) := t7
  simp only [SXa, reduceCtorEq, Nat.reduceEqDiff, Nat.reduceSub, Int.reduceLT, b181_7, P181, t0, t5, t6, t7, idxs0]
  refine aT (ws3 s _) hG (fun S2 g2 hG2 => ?_)
  have hz2 := g2.objs hz hno
  have ho2 := g2.objs ho hno
  have hno2 : S.no < S2.no := aU hno g2.no
  cases hb : oI s ⟨#[58, 61]⟩ with
  | true =>
   simp only [SXa, reduceCtorEq, Nat.reduceEqDiff, Nat.reduceAdd, P181, t2, wV, stW, hz2, lF, nB, aE, aX, aD, aB, aF]
   exact ⟨by simp [rC, hb, gK], hG2.put S.no _ (aB _)⟩
  | false =>
   simp only [SXa, reduceCtorEq, Nat.reduceEqDiff, t0, t2, t5, t6, t7]
   exact ⟨1, by omega, 1, by omega, rfl, fun _ => by first | rfl | trivial | exact hb, fun h => by omega, ho2, hG2, hno2, by simp [wrap_i64]⟩
 | 1, _ =>
  have t7 : getT tm 7 = .sc (.int .i64 1) := t7
  have hb1 := p1 (aB _)
  simp only [SXa, reduceCtorEq, Nat.reduceEqDiff, Nat.reduceSub, Int.reduceLT, b181_7, P181, t0, t5, t6, t7, idxs1]
  refine aT (ws3 s _) hG (fun S2 g2 hG2 => ?_)
  have hz2 := g2.objs hz hno
  have ho2 := g2.objs ho hno
  have hno2 : S.no < S2.no := aU hno g2.no
  cases hb : oI s ⟨#[45, 62]⟩ with
  | true =>
   simp only [SXa, reduceCtorEq, Nat.reduceEqDiff, Nat.reduceAdd, P181, t2, wV, stW, hz2, lF, nB, aE, aX, aD, aB, aF]
   exact ⟨by simp [rC, hb, hb1, gK], hG2.put S.no _ (aB _)⟩
  | false =>
   simp only [SXa, reduceCtorEq, Nat.reduceEqDiff, t0, t2, t5, t6, t7]
   exact ⟨0, by omega, 2, by omega, rfl, fun _ => hb1, fun _ => by first | rfl | trivial | exact hb, ho2, hG2, hno2, by simp [wrap_i64]⟩
 | 2, _ =>
  have t7 : getT tm 7 = .sc (.int .i64 2) := t7
  have hb1 := p1 (by omega)
  have hb2 := p2 (by omega)
  have hix : ∀ (tm : PM AV) (S : St) (d : Option Tmp), getT tm 17 = .sc (.string s) → opV E tm d (.index 9 (.tmp 17) (.const (.int .i64 0))) S = some (.sc (.int .u8 ((s.data.toList.getD 0 0).toNat : Nat)), S) := fun tm S d h => byte0 _ _ s h rfl hs
  have hix2 : ∀ (tm : PM AV) (S : St) (d : Option Tmp), getT tm 21 = .sc (.string s) → opV E tm d (.index 9 (.tmp 21) (.const (.int .i64 0))) S = some (.sc (.int .u8 ((s.data.toList.getD 0 0).toNat : Nat)), S) := fun tm S d h => byte0 _ _ s h rfl hs
  have e1 : ((((s.data.toList.getD 0 0).toNat : Nat) : Int) == 62) = (s.data.toList.getD 0 0 == 62) := beq_u8 _ 62
  have e2 : ((((s.data.toList.getD 0 0).toNat : Nat) : Int) == 58) = (s.data.toList.getD 0 0 == 58) := beq_u8 _ 58
  have hsl : ∀ S, fN E 9 (.sc (.string s)) none (some (.sc (.int .i64 1))) S = some (.sc (.string (s.extract 0 1)), S) := fun S => qZ (E := E) nM s (vL (b := 1) hs) S
  simp only [SXa, reduceCtorEq, Nat.reduceEqDiff, Nat.reduceSub, Int.reduceLT, b181_7, t0, t6, t7, hix, e1]
  cases c1 : (s.data.toList.getD 0 0 == 62) with
  | true =>
   simp only [SXa, Nat.reduceEqDiff, Nat.reduceAdd, P181, t2, wW, zW, stW, hz, lF, nB, aE, aX, aD, aB, aF]
   exact ⟨by simp only [rC, hb1, hb2, gK, mU, bl, c1, aK, aH, cA], hG.put S.no _ (aB _)⟩
  | false =>
  simp only [SXa, reduceCtorEq, Nat.reduceEqDiff, t0, hix2, e2]
  cases c2 : (s.data.toList.getD 0 0 == 58) with
  | true =>
   simp only [SXa, Nat.reduceEqDiff, Nat.reduceAdd, P181, t2, wW, zW, stW, hz, lF, nB, aE, aX, aD, aB, aF]
   exact ⟨by simp only [rC, hb1, hb2, gK, mU, bl, c1, c2, aK, aH, gU], hG.put S.no _ (aB _)⟩
  | false =>
   simp only [SXa, reduceCtorEq, Nat.reduceEqDiff, Nat.reduceAdd, P181, t0, t2, hsl, wV, stW, hz, lF, nB, aE, aX, aD, aB, aF]
   exact ⟨by simp only [rC, hb1, hb2, gK, mU, bl, c1, c2, aK, gU, nD], hG.put S.no _ (aB _)⟩
theorem vV (may : Int → Bool) (s : ByteArray) : ∀ (n pos : Nat), s.size - pos ≤ n → eZ may s (dV s pos) ≤ s.size
 | 0, pos, h => by
  rw [qB (by omega)]; exact aB _
 | n + 1, pos, h => by
  by_cases hp : pos < s.size
  · have hw := Lib.width_pos s pos
    rw [rY hp]
    unfold eZ
    cases may ((Utf8.decode s pos).1 : Nat) with
    | true => exact vV may s n _ (by omega)
    | false => exact oV hp
  · rw [qB hp]; exact aB _
theorem km4 (s : ByteArray) : Ans E 177 [.sc (.string s)] (.agg (gK (kM s))) := bU fun S hS => by
 refine ev177 rfl ?_
 have hG := (Grow.refl hS aA).born 212 zW
 have ho : (S.born 212 zW).obj S.no = some zW := by simp [bE]
 have hno : S.no < (S.born 212 zW).no := bJ _
 have hle := vV fF s s.size 0 (by omega)
 have hsl := fun S => qZ (E := E) nM s (vL hle) S
 simp only [SXa, reduceCtorEq, Nat.reduceEqDiff, Nat.reduceAdd, P177, wS]
 generalize S.born 212 zW = S1 at hG ho hno
 refine aT (ki3 fF 197 kb7 rfl s) hG (fun S2 g2 hG => ?_)
 have ho := g2.objs ho hno
 have hno2 : S.no < S2.no := aU hno g2.no
 have hne : S.no ≠ S2.no := by omega
 have hne' : (S.no = S2.no) = False := by simp [hne]
 have hG3 := (hG.born 212 zW).put S2.no (.cells [.sc (.int .i64 2), .sc (.string (s.extract 0 (eZ fF s (dV s 0)))), .sc (.int .i64 0), .sc (.int .i64 0)]) (oV hno2)
 have h3 : ((S2.born 212 zW).put S2.no (.cells [.sc (.int .i64 2), .sc (.string (s.extract 0 (eZ fF s (dV s 0)))), .sc (.int .i64 0), .sc (.int .i64 0)])).obj S2.no = some [.sc (.int .i64 2), .sc (.string (s.extract 0 (eZ fF s (dV s 0)))), .sc (.int .i64 0), .sc (.int .i64 0)] := by simp [aX]
 have ho3 : ((S2.born 212 zW).put S2.no (.cells [.sc (.int .i64 2), .sc (.string (s.extract 0 (eZ fF s (dV s 0)))), .sc (.int .i64 0), .sc (.int .i64 0)])).obj S.no = some zW := by simp [aX, bE, hne, ho]
 have hn3 : S2.no < ((S2.born 212 zW).put S2.no (.cells [.sc (.int .i64 2), .sc (.string (s.extract 0 (eZ fF s (dV s 0)))), .sc (.int .i64 0), .sc (.int .i64 0)])).no := bJ _
 simp only [zW] at hG3 h3 ho3 hn3
 simp only [SXa, reduceCtorEq, Nat.reduceEqDiff, Nat.reduceAdd, P177, hsl, lF, wV, wS, stW, bE, aD, zW, dM, aF, aB]
 generalize ((S2.born 212 [.sc (.int .i64 0), .sc (.string ⟨#[]⟩), .sc (.int .i64 0), .sc (.int .i64 0)]).put S2.no (.cells [.sc (.int .i64 2), .sc (.string (s.extract 0 (eZ fF s (dV s 0)))), .sc (.int .i64 0), .sc (.int .i64 0)])) = S3 at hG3 h3 ho3 hn3
 refine aT (wy0 s) hG3 (fun S4 g4 hG4 => ?_)
 have h4 := g4.objs h3 hn3
 have ho4 := g4.objs ho3 (by omega)
 have hn4 : S2.no < S4.no := aU hn3 g4.no
 cases hu : tL s with
 | true =>
  simp only [SXa, reduceCtorEq, Nat.reduceEqDiff, Nat.reduceAdd, P177, fldW0, aG, jC, h4, ho4, stW, nB, aE, aX, hne', aD, aM, fS, Nat.zero_lt_succ, aB, dM, aF]
  exact ⟨by simp only [kM, hu, aH, gK, nD], (hG4.put S2.no _ (oV hno2)).put S.no _ (aB _)⟩
 | false =>
  simp only [SXa, reduceCtorEq, Nat.reduceEqDiff, P177, fldW1, aG, h4, aE, aD, aF]
  refine aT (ko5 _) hG4 (fun S5 g5 hG5 => ?_)
  have h5 := g5.objs h4 hn4
  have ho5 := g5.objs ho4 (by omega)
  cases hk : sN (s.extract 0 (eZ fF s (dV s 0))) with
  | true =>
   simp only [SXa, reduceCtorEq, Nat.reduceEqDiff, Nat.reduceAdd, P177, fldW0, aG, jC, h5, ho5, stW, nB, aE, aX, hne', aD, aM, fS, Nat.zero_lt_succ, aB, dM, aF]
   exact ⟨by simp only [kM, hu, hk, aH, aK, gK, nD], (hG5.put S2.no _ (oV hno2)).put S.no _ (aB _)⟩
  | false =>
   simp only [SXa, reduceCtorEq, Nat.reduceEqDiff, Nat.reduceAdd, P177, h5, ho5, stW, nB, aE, aX, aD, aB, dM, aF]
   exact ⟨by simp only [kM, hu, hk, aK, gK, nD], hG5.put S.no _ (aB _)⟩
open Go.Abs
theorem xn9 (s : ByteArray) : -2147483648 ≤ eB s ∧ eB s ≤ 2147483647 := by
 have h2 := Lib.rune_le s 0
 unfold eB Lib.decodeGo
 split
 · decide
 · constructor <;> omega
theorem wp5 : (eC 65533 == 4) = false := by kernel_rfl
theorem ja4 (s : ByteArray) (h : (eC (eB s) == 4) = true) : 0 < s.size := by
 rcases Nat.eq_zero_or_pos s.size with h0 | h0
 · have : eB s = 65533 := by
    unfold eB Lib.decodeGo
    rw [bN h0]; rfl
   rw [this, wp5] at h
   cases h
 · exact h0
theorem stWa (l : Nat) (w : WordV) (S : St) : gZ 4 (.ptr l 0) (.agg (gK w)) S = (S.obj l).bind fun cs => if 4 ≤ cs.length then some (dB, S.put l (.cells (gK w ++ cs.drop 4))) else none :=
 qV 4 l _ rfl
theorem cutW (w : WordV) (cs : List AV) (S : St) (l : Nat) (h : S.obj l = some (gK w ++ cs)) : jY true 4 (.ptr l 0) S = some (.agg (gK w), S) := by
 rw [aE, h]
 simp only [aD, cut_t, gK, nS, mL, aY, aF, cJ, List.take_succ_cons, List.take_zero]
 rw [bN (by omega)]
 rfl
theorem kw6 (s : ByteArray) : Ans E 155 [.sc (.string s)] (.agg (gK (iW s))) := bU fun S hS => by
 refine ev155 rfl ?_
 have hG := (Grow.refl hS aA).born 212 zW
 have ho : (S.born 212 zW).obj S.no = some zW := by simp [bE]
 have hno : S.no < (S.born 212 zW).no := bJ _
 obtain ⟨f1, f2⟩ := xn9 s
 simp only [SXa, reduceCtorEq, Nat.reduceEqDiff, Nat.reduceAdd, P155, wS]
 generalize S.born 212 zW = S1 at hG ho hno
 refine aT (dec_ans s) hG (fun S2 g2 hG => ?_)
 have ho := g2.objs ho hno
 have hno := aU hno g2.no
 simp only [SXa, reduceCtorEq, Nat.reduceEqDiff, P155]
 refine aT (xp3 _ f1 f2) hG (fun S3 g3 hG => ?_)
 have ho := g3.objs ho hno
 have hno := aU hno g3.no
 simp only [zW] at ho
 cases c1 : (eC (eB s) == 1) with
 | true =>
  cases c5 : (eB s != 39) with
  | true =>
   simp only [SXa, reduceCtorEq, Nat.reduceEqDiff, P155, c1, c5]
   refine aT (km4 s) hG (fun S4 g4 hG4 => ?_)
   have ho4 := g4.objs ho hno
   simp only [SXa, reduceCtorEq, Nat.reduceEqDiff, Nat.reduceAdd, P155, stWa, ho4, nB, aD, aB, dM, dK]
   rw [cutW (kM s) [] _ _ (by simp [aX])]
   exact ⟨by simp only [iW, c1, c5, aH, pack1], hG4.put S.no _ (aB _)⟩
  | false =>
   simp only [SXa, reduceCtorEq, Nat.reduceEqDiff, Nat.reduceAdd, P155, c1, c5, lF, wW, zW, stW, ho, nB, aE, aX, aD, aB, dM]
   exact ⟨by simp only [iW, c1, c5, aH, aK, gK, mU], hG.put S.no _ (aB _)⟩
 | false =>
 cases c2 : (eC (eB s) == 2) with
 | true =>
  have hle := vV tI s s.size 0 (by omega)
  have hsl := fun S => qZ (E := E) nM s (vL hle) S
  simp only [SXa, reduceCtorEq, Nat.reduceEqDiff, P155, c1, c2]
  refine aT (ki3 tI 179 kt4 rfl s) hG (fun S4 g4 hG4 => ?_)
  have ho4 := g4.objs ho hno
  have hno4 := aU hno g4.no
  simp only [SXa, reduceCtorEq, Nat.reduceEqDiff, P155, hsl]
  refine aT (kg2 _) hG4 (fun S5 g5 hG5 => ?_)
  have ho5 := g5.objs ho4 hno4
  cases c6 : (qF 0 (dV (s.extract 0 (eZ tI s (dV s 0))) 0)).isSome with
  | true =>
   simp only [SXa, reduceCtorEq, Nat.reduceEqDiff, Nat.reduceAdd, P155, hsl, lF, wV, stW, ho5, nB, aE, aX, aD, aB, dM]
   exact ⟨by simp only [iW, c1, c2, c6, nD, aH, aK, gK], hG5.put S.no _ (aB _)⟩
  | false =>
   simp only [SXa, reduceCtorEq, Nat.reduceEqDiff, Nat.reduceAdd, P155, lF, wW, zW, stW, ho5, nB, aE, aX, aD, aB, dM]
   exact ⟨by simp only [iW, c1, c2, c6, nD, aH, aK, gK, mU], hG5.put S.no _ (aB _)⟩
 | false =>
 cases c4 : (eC (eB s) == 4) with
 | true =>
  simp only [SXa, reduceCtorEq, Nat.reduceEqDiff, P155, c1, c2, c4]
  refine aT (kb2 s (ja4 s c4)) hG (fun S4 g4 hG4 => ?_)
  have ho4 := g4.objs ho hno
  simp only [SXa, reduceCtorEq, Nat.reduceEqDiff, Nat.reduceAdd, P155, stWa, ho4, nB, aD, aB, dM, dK]
  rw [cutW (rC s) [] _ _ (by simp [aX])]
  exact ⟨by simp only [iW, c1, c2, c4, aH, aK, pack1], hG4.put S.no _ (aB _)⟩
 | false =>
  simp only [SXa, reduceCtorEq, Nat.reduceEqDiff, Nat.reduceAdd, P155, c1, c2, c4, lF, wW, zW, stW, ho, nB, aE, aX, aD, aB, dM]
  exact ⟨by simp only [iW, c1, c2, c4, aK, gK, mU], hG.put S.no _ (aB _)⟩
theorem wt9 (s : ByteArray) (kind : Int) : Ans E 134 [.sc (.string s), .sc (.int .i64 kind)] (.sc (.bool (lO s kind))) := bU fun S hS => by
 refine ev134 rfl ?_
 have hG := Grow.refl hS aA
 cases c1 : (s.toList == (⟨#[]⟩ : ByteArray).toList) with
 | true =>
  simp only [SXa, reduceCtorEq, Nat.reduceEqDiff, Nat.reduceAdd, P134, c1]
  exact ⟨by simp only [lO, c1, cA, aH], hG⟩
 | false =>
 cases c2 : decide ((4000 : Int) < (s.size : Int)) with
 | true =>
  have c3 : decide (4000 < s.size) = true := by simp only [bZ] at c2 ⊢; omega
  simp only [SXa, reduceCtorEq, Nat.reduceEqDiff, Nat.reduceAdd, P134, c1, c2, eJ, eL]
  exact ⟨by simp only [lO, c1, c3, cR, aH], hG⟩
 | false =>
  have c3 : decide (4000 < s.size) = false := by simp only [dP] at c2 ⊢; omega
  simp only [SXa, reduceCtorEq, Nat.reduceEqDiff, Nat.reduceAdd, P134, c1, c2, eJ, eL]
  refine aT (kw6 s) hG (fun S2 g2 hG => ?_)
  have hG3 := (hG.born 212 zW).put S2.no (.cells (gK (iW s))) g2.no
  have h3 : ((S2.born 212 zW).put S2.no (.cells (gK (iW s)))).obj S2.no = some (gK (iW s)) := by simp [aX]
  simp only [SXa, reduceCtorEq, Nat.reduceEqDiff, Nat.reduceAdd, P134, wS, stWa, bE, aD, zW, dM, dK, aF, aB]
  simp only [zW] at hG3 h3
  generalize ((S2.born 212 [.sc (.int .i64 0), .sc (.string ⟨#[]⟩), .sc (.int .i64 0), .sc (.int .i64 0)]).put S2.no (.cells (gK (iW s)))) = S3 at hG3 h3
  simp only [gK] at h3
  simp only [SXa, reduceCtorEq, Nat.reduceEqDiff, P134, fldW0, aG, aE, h3, aD, aM]
  cases c4 : ((iW s).kind == kind) with
  | true =>
   simp only [SXa, reduceCtorEq, Nat.reduceEqDiff, P134, fldW1, aG, aE, h3, aD, aF]
   exact ⟨by simp only [lO, c1, c3, c4, dD, aK, cI], hG3⟩
  | false =>
   simp only [SXa, reduceCtorEq, Nat.reduceEqDiff]
   exact ⟨by simp only [lO, c1, c3, c4, dD, aK, bK], hG3⟩
theorem vF (s : ByteArray) : Ans E 97 [.sc (.string s)] (.sc (.bool (gX s))) := bU fun S hS => by
 refine ev97 rfl ?_
 cases c1 : (s.toList != (⟨#[95]⟩ : ByteArray).toList) with
 | true =>
  simp only [SXa, reduceCtorEq, Nat.reduceEqDiff, Nat.reduceAdd, P97, mN, c1]
  refine aT (wt9 s 2) (Grow.refl hS aA) (fun S2 g2 hG => ?_)
  simp only [SXa, reduceCtorEq, Nat.reduceEqDiff]
  exact ⟨by simp only [gX, c1, aH], hG⟩
 | false =>
  simp only [SXa, reduceCtorEq, Nat.reduceEqDiff, Nat.reduceAdd, P97, mN, c1]
  exact ⟨by simp only [gX, c1, aK], Grow.refl hS aA⟩
theorem wf8 (s : ByteArray) : Ans E 99 [.sc (.string s)] (.sc (.bool (lZ s))) := bU fun S hS => by
 refine ev99 rfl ?_
 simp only [SXa, reduceCtorEq, Nat.reduceEqDiff, Nat.reduceAdd, P99]
 refine aT (wt9 s 3) (Grow.refl hS aA) (fun S2 g2 hG => ?_)
 simp only [SXa, reduceCtorEq, Nat.reduceEqDiff]
 exact ⟨rfl, hG⟩
end Go.Proofs.YthjaoinieikjdaaGreatDoor
namespace Go.Abs
def fO (ks : List ByteArray) : List (Value × AV) := ks.map fun k => (.string k, .sc (.bool true))
def inB (s : ByteArray) (ks : List ByteArray) : Bool := ks.any fun y => s == y
theorem xa8 (ks : List ByteArray) : (fO ks).all (fun e => fH .string e.1) = true := by
 induction ks with
 | nil => rfl
 | cons k r ih => simp only [fO, cF, lA, aS] at ih ⊢; exact ⟨rfl, ih⟩
theorem xv5 (s : ByteArray) : ∀ ks, pK .string (.string s) (fO ks) = some (bif inB s ks then some (.sc (.bool true)) else none)
 | [] => rfl
 | k :: r => by
  have ih := xv5 s r
  simp only [fO, cF, pK, Instr.sameNow, inB, nU] at ih ⊢
  cases h : (s == k) with
  | true => rfl
  | false => rw [gU]; exact ih
theorem xj5 (s : ByteArray) : ∀ ks, inB s ks = false → qE .string (.string s) (.sc (.bool true)) (fO ks) = fO (ks ++ [s])
 | [], _ => rfl
 | k :: r, h => by
  simp only [inB, nU, oQ] at h
  have ih := xj5 s r h.2
  simp only [fO, cF, nS, qE, Instr.sameNow, h.1] at ih ⊢
  rw [ih]
section
variable {E : Env} {tm : PM AV} {S : St} {d : Option Tmp}
noncomputable def St.IsSet (S : St) (l : Nat) (ks : List ByteArray) : Prop := S.objs.get l = some (.mp (fO ks))
theorem xp7 : S.bornMap.IsSet S.no [] := by
 simp [St.IsSet, St.bornMap, St.bearNext, St.bear, PM.get_set, fO]
theorem zJ (l : Nat) (ks : List ByteArray) : (S.put l (.mp (fO ks))).IsSet l ks := by
 simp [St.IsSet, St.put, PM.get_set]
theorem Grow.isSet {S2 : St} {x : AV} (g : Grow S S2 x) {l : Nat} {ks : List ByteArray} (h : S.IsSet l ks) (hl : l < S.no) : S2.IsSet l ks := by
 unfold St.IsSet at h ⊢
 rw [g.obj l hl]
 exact h
theorem xt0 {t kt et : TypeId} (ht : E.und t = some (.map kt et)) (hk : E.und kt = some .string) {l : Nat} {ks : List ByteArray} (h : S.IsSet l ks) (s : ByteArray) (hn : inB s ks = false) :
 oY E t (.mp l) (.sc (.string s)) (.sc (.bool true)) S = some (dB, S.put l (.mp (fO (ks ++ [s])))) := by
 have h1 : S.map l = some (fO ks) := by unfold St.IsSet at h; simp only [St.map, h]
 have h2 : fH .string (.string s) = true := rfl
 simp only [oY, ht, hk, keyOf, h1, h2, xa8, bY, aH, xj5 s ks hn]
theorem wy8 {t kt et : TypeId} (ht : E.und t = some (.map kt et)) (hk : E.und kt = some .string) (hz : kf6 E et = some (.bool false)) {l : Nat} {ks : List ByteArray} (h : S.IsSet l ks) (s : ByteArray) :
 iT E t (.mp l) (.sc (.string s)) false S = some (.sc (.bool (inB s ks)), S) := by
 have h1 : S.map l = some (fO ks) := by unfold St.IsSet at h; simp only [St.map, h]
 have h2 : fH .string (.string s) = true := rfl
 simp only [iT, ht, hk, keyOf, h1, h2, xa8, iC, aK, aH, xv5]
 cases inB s ks with
 | true => rfl
 | false =>
  unfold kf6 at hz
  split at hz
  · rename_i i hi
    simp only [hi, hz, aK]
    rfl
  · cases hz
end
def sV (E : Env) (H : St → Prop) (f : FuncId) (args : List AV) (r : AV) : Prop := ∀ S : St, S.Fresh → H S → ∃ S', EvA E f args S r S' ∧ Grow S S' aA
theorem zF {E : Env} {H : St → Prop} {f : FuncId} {args : List AV} {v : AV} (h : ∀ S : St, S.Fresh → H S → ∃ r S', EvA E f args S r S' ∧ r = v ∧ Grow S S' aA) : sV E H f args v := fun S hS hH => by
 obtain ⟨r, S', h1, rfl, g⟩ := h S hS hH
 exact ⟨S', h1, g⟩
section
variable {E : Env} {nt : Nat} {k : List KI} {tm : PM AV} {S S0 : St} {Q : kW}
theorem yW {H : St → Prop} {f : FuncId} {args : List AV} {d : Option Tmp} {r : List POp} {v : AV} (h : sV E H f args v) (hH : H S) (G : Grow S0 S aA) (h2 : ∀ S1, Grow S S1 aA → Grow S0 S1 aA → aV E nt (.c (.reg r) :: k) .nrm (iE tm d v) S1 Q) : rJ E nt f args d r k tm S Q := by
 obtain ⟨S1, h1, g⟩ := h S G.fresh hH
 exact cC h1 (h2 S1 g (G.two g))
end
end Go.Abs
