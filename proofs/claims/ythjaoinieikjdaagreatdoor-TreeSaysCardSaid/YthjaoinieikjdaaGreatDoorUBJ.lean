/-
  The document's own words: the walks (a text's words, names).
-/
import Derived.Test.YthjaoinieikjdaaGreatDoorUBI
import Derived.Test.YthjaoinieikjdaaGreatDoorUBG
set_option maxHeartbeats 32000000
set_option linter.unusedSimpArgs false
set_option linter.unusedVariables false
set_option maxRecDepth 100000
namespace Go.Proofs.YthjaoinieikjdaaGreatDoor
open Go.Abs
abbrev iX := Int × ByteArray × Int × Int
def wA (w : iX) : List AV := hJ w.1 w.2.1 w.2.2.1 w.2.2.2
def iL (l : List iX) : List AV := l.map fun w => .agg (wA w)
theorem wx8 (a b : List iX) : iL a ++ iL b = iL (a ++ b) := by simp [iL]
theorem xI (l : List iX) : (iL l).length = l.length := by simp [iL]
theorem bslW (k : Int) (t : ByteArray) (a b : Int) (S : St) : gE E 131 1 [(0, .agg [.sc (.int .i64 k), .sc (.string t), .sc (.int .i64 a), .sc (.int .i64 b)])] S = some (.vec 1 4 (iL [(k, t, a, b)]), S) := by kernel_rfl
theorem kv1 {S S0 : St} {X : AV} {xs : List iX} (w : iX) (hX : OwnV S 141 4 X (iL xs)) (hN : cY S0 X) (G : Grow S0 S aA) (hb : xs.length ≤ 1000000) :
 ∃ Z S1, bD E false .append [131, 131] [X, .vec 1 4 (iL [w])] S = some (Z, S1) ∧ OwnV S1 141 4 Z (iL (xs ++ [w])) ∧ cY S0 Z ∧ Grow S0 S1 aA ∧ S1.no = S.no ∧ (∀ l, S1.obj l = S.obj l) ∧ Grow S S1 X := by
 rw [← wx8]
 exact wG el131 und131 hX hN G (IsV.vec 1 4 _) rfl (by rw [xI, xI]; simp only [aY, bH]; omega)
theorem kz0 (s : ByteArray) : bI s 0 = s := by simp [bI]
noncomputable def nO (s : ByteArray) : Nat := eZ fF s (dV s 0)
theorem ki4 (s : ByteArray) : nO s ≤ s.size := vV fF s s.size 0 (by omega)
theorem ja0 {s : ByteArray} (h : fI s = false) : (iW s).kind ≠ 2 ∧ (iW s).kind ≠ 3 := by
 unfold fI at h
 unfold iW
 cases c1 : (eC (eB s) == 1) with
 | true =>
  rw [c1, cI] at h
  rw [h]; simp [mU]
 | false =>
  simp only [aK]
  cases (eC (eB s) == 2) with
  | true =>
   simp only [aH]
   cases (qF 0 (dV (nD s (eZ tI s (dV s 0))) 0)).isSome
   · simp [mU]
   · simp
  | false =>
   simp only [aK]
   cases (eC (eB s) == 4) with
   | true =>
    simp only [aH, rC]
    repeat' (first | (simp only [bB]; done) | split)
    all_goals first
     | decide
     | (cases oI s ⟨#[58, 61]⟩ <;> cases oI s ⟨#[45, 62]⟩ <;> cases ((bl s).getD 0 0 == 62 || (bl s).getD 0 0 == 58) <;> simp [mU])
   | false => simp [mU]
theorem wn1 {s : ByteArray} {K : Int} (hK : K = 2 ∨ K = 3) (h : fI s = false) : lO s K = false := by
 have hw := ja0 h
 have e : ((iW s).kind == K) = false := by rw [nE]; omega
 unfold lO
 rw [e, bK]
 cases (s.toList == (⟨#[]⟩ : ByteArray).toList || decide (4000 < s.size)) <;> rfl
theorem zH {a b : ByteArray} (h : a.size ≠ b.size) : (a.toList == b.toList) = false := by
 rw [nE]
 intro e
 have := congrArg List.length e
 rw [toL, toL] at this
 simp only [gR, jA] at this
 exact h this
theorem wt8 {s : ByteArray} {K : Int} (h0 : 0 < s.size) (h4 : s.size ≤ 4000) (h : fI s = true) : lO s K = ((kM s).kind == K && decide (nO s = s.size)) := by
 have hw : iW s = kM s := by
  unfold fI at h
  simp only [aS] at h
  unfold iW
  rw [h.1, h.2]; rfl
 have e1 : (s.toList == (⟨#[]⟩ : ByteArray).toList) = false := zH (by have : (⟨#[]⟩ : ByteArray).size = 0 := rfl; omega)
 have e2 : decide (4000 < s.size) = false := by simp; omega
 have e3 : (kM s).text = s.extract 0 (nO s) := rfl
 unfold lO
 rw [e1, e2, hw, e3]
 simp only [dD, aK]
 congr 1
 by_cases hn : nO s = s.size
 · have e4 : s.extract 0 (nO s) = s := by rw [hn]; simp
   simp [hn]
 · have : (s.extract 0 (nO s)).size ≠ s.size := by
    have := ki4 s
    rw [ByteArray.size_extract]; omega
   rw [zH this]
   simp [hn]
def oM (s : ByteArray) (a : Nat) : List iX → Prop
 | [] => a = 0 ∨ fI s = false
 | w :: r => (fI s = false → (w.1 ≠ 2 ∧ w.1 ≠ 3) ∨ w.2.1.size ≠ s.size) ∧ (fI s = true → w.1 = (kM s).kind ∧ w.2.1 = s.extract 0 (nO s) ∧ (nO s = s.size → r = [] ∧ a = s.size))
theorem kb6 {s : ByteArray} {a b : Nat} {k : Int} {t : ByteArray} : ∀ {ws : List iX}, oM s a ws → a < s.size → (fI (bI s a) = true → k = (kM (bI s a)).kind ∧ b = a + nO (bI s a)) → (fI (bI s a) = false → k ≠ 2 ∧ k ≠ 3) → (a < b ∧ b ≤ s.size ∧ t = s.extract a b) → oM s b (ws ++ [((k, t, ((a : Nat) : Int), ((b : Nat) : Int)) : iX)])
 | [], h, ha, p1, p2, p3 => by
  obtain ⟨q1, q2, rfl⟩ := p3
  by_cases ha0 : a = 0
  · subst ha0
    rw [kz0] at p1 p2
    refine ⟨fun hl => .inl (p2 hl), fun hl => ⟨(p1 hl).1, ?_, fun hn => ⟨rfl, ?_⟩⟩⟩
    · have := (p1 hl).2
      rw [aF] at this
      rw [this]
    · have := (p1 hl).2
      omega
  · have hl : fI s = false := h.resolve_left ha0
    exact ⟨fun _ => .inr (by simp only [ByteArray.size_extract]; omega), fun h => by rw [hl] at h; cases h⟩
 | w :: r, h, ha, p1, p2, p3 => ⟨h.1, fun hl => ⟨(h.2 hl).1, (h.2 hl).2.1, fun hn => by have := ((h.2 hl).2.2 hn).2; omega⟩⟩
theorem xu5 {s : ByteArray} {a b : Nat} (hl : fI (bI s a) = false) (ha : a < s.size) : ∀ {ws : List iX}, oM s a ws → oM s b ws
 | [], h => by
  rcases h with rfl | h
  · rw [kz0] at hl; exact .inr hl
  · exact .inr h
 | w :: r, h => ⟨h.1, fun hl => ⟨(h.2 hl).1, (h.2 hl).2.1, fun hn => by have := ((h.2 hl).2.2 hn).2; omega⟩⟩
def qM (ws : List iX) (K : Int) (s : ByteArray) : Bool := match ws with
 | w :: _ => w.1 == K && w.2.1.toList == s.toList
 | [] => false
def LexR (s : ByteArray) (r : AV) : Prop := ∃ (lv : AV) (ws : List iX) (e p : Int), r = .tup [lv, .sc (.int .i64 e), .sc (.int .i64 p)] ∧ IsV 4 lv (iL ws) ∧ ∀ K : Int, (K = 2 ∨ K = 3) → (e == 0 && (((ws.length : Nat) : Int) == 1 && qM ws K s)) = lO s K
theorem wm9 {s : ByteArray} {a : Nat} {ws : List iX} {e p : Int} (h : oM s a ws) (ha : a < s.size) (h4 : s.size ≤ 4000) (hw : fI s = true → ws ≠ []) (he : e ≠ 0) : LexR s (.tup [aA, .sc (.int .i64 e), .sc (.int .i64 p)]) := by
 refine ⟨_, [], e, p, rfl, IsV.nil 4, fun K hK => ?_⟩
 have e0 : (e == 0) = false := by rw [nE]; exact he
 rw [e0, bK]
 cases hl : fI s with
 | false => rw [wn1 hK hl]
 | true =>
  match ws, hw hl, h with
  | w :: r, _, h =>
   have hn : nO s ≠ s.size := fun hn => by have := ((h.2 hl).2.2 hn).2; omega
   rw [wt8 (by omega) h4 hl]
   simp [hn]
theorem lex_end {s : ByteArray} {a : Nat} {ws : List iX} {lv : AV} (h : oM s a ws) (ha : ¬ a < s.size) (h4 : s.size ≤ 4000) (hv : IsV 4 lv (iL ws)) : LexR s (.tup [lv, .sc (.int .i64 0), .sc (.int .i64 0)]) := by
 refine ⟨lv, ws, 0, 0, rfl, hv, fun K hK => ?_⟩
 have e0 : ((0 : Int) == 0) = true := rfl
 rw [e0, cI]
 match ws, h with
 | [], h =>
  have : lO s K = false := by
   rcases h with rfl | h
   · have e1 : (s.toList == (⟨#[]⟩ : ByteArray).toList) = true := by
      have hz : s.data.size = 0 := by have : s.size = s.data.size := rfl; omega
      have : s = ⟨#[]⟩ := by
       cases s with
       | mk d => simp only [ByteArray.mk.injEq]; exact Array.eq_empty_of_size_eq_zero hz
      rw [this, beq_self_eq_true]
     unfold lO
     rw [e1]; rfl
   · exact wn1 hK h
  rw [this]; rfl
 | w :: r, h =>
  cases hl : fI s with
  | false =>
   rw [wn1 hK hl]
   have hb : qM (w :: r) K s = false := by
    rcases h.1 hl with ⟨h1, h2⟩ | h1
    · have : (w.1 == K) = false := by rw [nE]; omega
      simp only [qM, this, bK]
    · simp only [qM, zH h1, dY]
   rw [hb, dY]
  | true =>
   obtain ⟨h1, h2, h3⟩ := h.2 hl
   by_cases h0 : 0 < s.size
   · rw [wt8 h0 h4 hl]
     by_cases hn : nO s = s.size
     · obtain ⟨rfl, _⟩ := h3 hn
       have e4 : s.extract 0 (nO s) = s := by rw [hn]; simp
       simp [qM, h1, h2, hn]
     · have : (s.extract 0 (nO s)).size ≠ s.size := by
        have := ki4 s
        rw [ByteArray.size_extract]; omega
       simp only [qM, h2, zH this, dY, hn, decide_false]
   · have hs0 : s.size = 0 := by omega
     have hz : s = ⟨#[]⟩ := by
      cases s with
      | mk d => simp only [ByteArray.mk.injEq]; exact Array.eq_empty_of_size_eq_zero hs0
     exfalso
     subst hz
     revert hl
     have : fI ⟨#[]⟩ = false := by kernel_rfl
     rw [this]; simp
theorem class40 : eC 40 = 4 := by kernel_rfl
theorem ja7 (s : ByteArray) (a : Nat) (ha : a < s.size) (h4 : s.size ≤ 4000) (ws : List iX) (Y : AV) (hL : oM s a ws) (hwl : ws.length ≤ a) (S0 S : St) (tm : PM AV) (Q : kW) (hY : OwnV S 141 4 Y (iL ws)) (hN : cY S0 Y) (hG : Grow S0 S aA)
 (t0 : getT tm 0 = .sc (.string s)) (t5 : getT tm 5 = Y) (t6 : getT tm 6 = .sc (.int .i64 (a : Nat)))
 (h1 : ∀ tm' S' b w Z, a < b → b ≤ s.size → oM s b (ws ++ [w]) → OwnV S' 141 4 Z (iL (ws ++ [w])) → cY S0 Z → Grow S0 S' aA → getT tm' 0 = .sc (.string s) → getT tm' 5 = Z → getT tm' 6 = .sc (.int .i64 (b : Nat)) → Q .nrm tm' S')
 (h2 : ∀ tm' S' e p, LexR s (.tup [aA, .sc (.int .i64 e), .sc (.int .i64 p)]) → Grow S0 S' aA → getT tm' 2 = aA → getT tm' 3 = .sc (.int .i64 e) → getT tm' 4 = .sc (.int .i64 p) → Q .ret tm' S') :
 aV E 75 [.c (.seq (.reg r77_14) (.seq (.seq (.reg r77_15) (.cond (.tmp 62) (.seq (.reg r77_16) .ret) .skip)) (.seq (.seq (.reg r77_17) (.cond (.tmp 66) (.seq (.reg r77_18) .ret) .skip)) (.seq (.reg r77_19) (.reg r77_20))))), .blk 1] .nrm tm S Q := by
 obtain ⟨r, S2, e2, ⟨ok, k, t, b, rfl, p1, p2, p3⟩, g2⟩ := ky3 s a ha (by omega) S hG.fresh
 have hG2 := hG.two g2
 simp only [SXa, Nat.reduceEqDiff, P77, t0, t6]
 refine cC e2 ?_
 have hG3 := (hG2.born 141 zW).put S2.no (.cells (hJ k t (a : Nat) (b : Nat))) hG2.no
 have hW3 : ((S2.born 141 zW).put S2.no (.cells (hJ k t (a : Nat) (b : Nat)))).obj S2.no = some (hJ k t (a : Nat) (b : Nat)) := by simp [aX]
 have gr3 : Grow S2 ((S2.born 141 zW).put S2.no (.cells (hJ k t (a : Nat) (b : Nat)))) aA := ((Grow.refl hG2.fresh aA).born _ _).put S2.no _ (aB _)
 have zl : (zW.length = 4) := rfl
 have zd : zW.drop 4 = [] := rfl
 have hz : fI s = true → ok = false → ws ≠ [] := fun hl hok e => by
  subst e
  rcases hL with rfl | h
  · rw [kz0] at p1
    rw [(p1 hl).1] at hok; cases hok
  · rw [h] at hl; cases hl
 cases ok with
 | false =>
  simp only [SXa, Nat.reduceEqDiff, P77, t6, wT, stV, bE, aD, zl, zd, dK, aB]
  exact h2 _ _ 3 ((a : Nat) : Int) (wm9 hL ha h4 (fun hl => hz hl rfl) (by decide)) hG3 (by simp [aO]) (by simp [aO]) (by simp [aO])
 | true =>
  have hY3 := (hY.keep g2).keep gr3
  have hl5 : ∀ S', iF Y S' = some (.sc (.int .i64 (ws.length : Nat)), S') := fun S' => by rw [hY.is.len, xI]
  have hne : (((ws.length : Nat) : Int) == 2000) = decide (ws.length = 2000) := by
   rw [pV]; simp; omega
  obtain ⟨q1, q2, q3⟩ := p3 rfl
  have hst := kb6 (k := k) hL ha (fun h => (p1 h).2) p2 ⟨q1, q2, q3⟩
  cases hw2 : decide (ws.length = 2000) with
  | true =>
   rw [hw2] at hne
   have hwn : ws ≠ [] := fun e => by subst e; cases hw2
   simp only [SXa, Nat.reduceEqDiff, P77, t5, t6, wT, stV, bE, aD, zl, zd, dK, aB, hl5, hne]
   exact h2 _ _ 2 ((a : Nat) : Int) (wm9 hL ha h4 (fun hl => hwn) (by decide)) hG3 (by simp [aO]) (by simp [aO]) (by simp [aO])
  | false =>
   rw [hw2] at hne
   simp only [SXa, Nat.reduceEqDiff, P77, t5, wT, stV, bE, aD, zl, zd, dK, aB, hl5, hne]
   generalize (S2.born 141 zW).put S2.no (.cells (hJ k t (a : Nat) (b : Nat))) = S3 at hG3 hW3 hY3
   obtain ⟨Z, S4, ap, hZ, hNZ, hG4, no4, ob4, g4⟩ := kv1 (k, t, ((a : Nat) : Int), ((b : Nat) : Int)) hY3 hN hG3 (by omega)
   have hW4 : S4.obj S2.no = some (hJ k t (a : Nat) (b : Nat)) := by rw [ob4]; exact hW3
   simp only [hJ] at hW3 hW4
   simp only [SXa, Nat.reduceEqDiff, Nat.reduceAdd, P77, aE, hW3, hW4, bslW, ap, lL, aG, aD, aF, aB]
   exact h1 _ _ b _ Z q1 q2 hst hZ hNZ hG4 (by simp [aO, t0]) (by simp [aO]) (by simp [aO])
theorem kj0 (s : ByteArray) (h4 : s.size ≤ 4000) (S : St) (hS : S.Fresh) : ∃ r S', EvA E 77 [.sc (.string s)] S r S' ∧ LexR s r ∧ Grow S S' aA := by
 have c0 : decide ((4000 : Int) < ((s.size : Nat) : Int)) = false := by simp; omega
 refine ev77 rfl ?_
 simp only [SXa, reduceCtorEq, Nat.reduceEqDiff, Nat.reduceAdd, P77, eJ, eL, c0]
 refine bX (fun tm S' N => ∃ (a : Nat) (ws : List iX) (Y : AV), a ≤ s.size ∧ N = s.size - a ∧ oM s a ws ∧ ws.length ≤ a ∧ OwnV S' 141 4 Y (iL ws) ∧ cY S Y ∧ Grow S S' aA ∧ getT tm 0 = .sc (.string s) ∧ getT tm 5 = Y ∧ getT tm 6 = .sc (.int .i64 (a : Nat))) s.size
  ⟨0, [], aA, by omega, by omega, .inl rfl, aB _, OwnV.nil' _ _ _, .inl rfl, Grow.refl hS aA, by simp [aO]⟩ ?_
 rintro tm S1 N ⟨a, ws, Y, ha, rfl, hL, hwl, hY, hN, hG, t0, t5, t6⟩
 by_cases hlt : a < s.size
 case neg =>
  simp only [SXa, reduceCtorEq, Nat.reduceEqDiff, b77_21, P77, t0, t5, t6, eJ, eL, bO hlt]
  exact ⟨lex_end hL hlt h4 hY.is, hG⟩
 case pos =>
 unfold b77_21
 generalize hT : (PC.seq (.reg r77_14) (.seq (.seq (.reg r77_15) (.cond (.tmp 62) (.seq (.reg r77_16) .ret) .skip)) (.seq (.seq (.reg r77_17) (.cond (.tmp 66) (.seq (.reg r77_18) .ret) .skip)) (.seq (.reg r77_19) (.reg r77_20))))) = T
 have hsl : ∀ S, fN E 9 (.sc (.string s)) (some (.sc (.int .i64 (a : Nat)))) none S = some (.sc (.string (bI s a)), S) := fun S => qZ (E := E) nM s (xp6 (a := a) (oV hlt)) S
 have hrs := wd9 (oV hlt)
 have h0 : 0 < (bI s a).size := by omega
 obtain ⟨f1, f2⟩ := xn9 (bI s a)
 have hfn : gQ (bI s a) ≤ (bI s a).size ∧ 0 < gQ (bI s a) := by
  have := Lib.width_pos (bI s a) 0
  unfold gQ
  split <;> omega
 have wn : IntKind.i64.wrap ((a : Int) + (gQ (bI s a) : Nat)) = ((a + gQ (bI s a) : Nat) : Int) := by rw [wrap_i64 (by omega) (by omega)]; omega
 have wk := cG hlt (by omega)
 simp only [SXa, reduceCtorEq, Nat.reduceEqDiff, P77, t0, t6, eJ, eL, bL hlt, hsl]
 refine aT (xt4 (bI s a) h0) hG (fun S2 g2 hG2 => ?_)
 simp only [SXa, Nat.reduceEqDiff, P77]
 refine aT (xa0 _ f1 f2) hG2 (fun S3 g3 hG3 => ?_)
 have hY3 := (hY.keep g2).keep g3
 cases c3 : (eC (eB (bI s a)) == 3) with
 | true =>
  have hl : fI (bI s a) = false := by
   have : eC (eB (bI s a)) = 3 := by simpa using c3
   unfold fI; rw [this]; rfl
  simp only [SXa, reduceCtorEq, Nat.reduceEqDiff, c3, t0, t5, t6, wn]
  exact ⟨s.size - (a + gQ (bI s a)), by omega, a + gQ (bI s a), ws, Y, by omega, rfl, xu5 hl hlt hL, by omega, hY3, hN, hG3, by simp []⟩
 | false =>
 have word : ∀ (tm' : PM AV) (Q : kW), getT tm' 0 = .sc (.string s) → getT tm' 5 = Y → getT tm' 6 = .sc (.int .i64 (a : Nat)) →
  (∀ tm' S' b w Z, a < b → b ≤ s.size → oM s b (ws ++ [w]) → OwnV S' 141 4 Z (iL (ws ++ [w])) → cY S Z → Grow S S' aA → getT tm' 0 = .sc (.string s) → getT tm' 5 = Z → getT tm' 6 = .sc (.int .i64 (b : Nat)) → Q .nrm tm' S') →
  (∀ tm' S' e p, LexR s (.tup [aA, .sc (.int .i64 e), .sc (.int .i64 p)]) → Grow S S' aA → getT tm' 2 = aA → getT tm' 3 = .sc (.int .i64 e) → getT tm' 4 = .sc (.int .i64 p) → Q .ret tm' S') → aV E 75 [.c T, .blk 1] .nrm tm' S3 Q := fun tm' Q u0 u5 u6 k1 k2 => by
  rw [← hT]
  exact ja7 s a hlt h4 ws Y hL hwl S S3 tm' Q hY3 hN hG3 u0 u5 u6 k1 k2
 have k1 : ∀ (tm' : PM AV) (S' : St) (b : Nat) (w : iX) (Z : AV), a < b → b ≤ s.size → oM s b (ws ++ [w]) → OwnV S' 141 4 Z (iL (ws ++ [w])) → cY S Z → Grow S S' aA → getT tm' 0 = .sc (.string s) → getT tm' 5 = Z → getT tm' 6 = .sc (.int .i64 (b : Nat)) →
  ∃ m, m < s.size - a ∧ ∃ (a : Nat) (ws : List iX) (Y : AV), a ≤ s.size ∧ m = s.size - a ∧ oM s a ws ∧ ws.length ≤ a ∧ OwnV S' 141 4 Y (iL ws) ∧ cY S Y ∧ Grow S S' aA ∧ getT tm' 0 = .sc (.string s) ∧ getT tm' 5 = Y ∧ getT tm' 6 = .sc (.int .i64 (a : Nat)) :=
  fun tm' S' b w Z h1 h2 h3 h4 h5 h6 u0 u5 u6 => ⟨s.size - b, by omega, b, ws ++ [w], Z, h2, rfl, h3, by rw [dL]; simp only [aY, bH]; omega, h4, h5, h6, u0, u5, u6⟩
 cases c40 : (eB (bI s a) == 40) with
 | false =>
  simp only [SXa, Nat.reduceEqDiff, c3, c40]
  refine word _ _ (by simp [aO, t0]) (by simp [aO, t5]) (by simp [aO, t6]) k1 (fun tm' S' e p g1 g2 u2 u3 u4 => ?_)
  simp only [SXa, u2, u3, u4]
  exact ⟨g1, g2⟩
 | true =>
  have hr : eB (bI s a) = 40 := by simpa using c40
  have hl : fI (bI s a) = false := by unfold fI; rw [hr, class40]; rfl
  by_cases hk : a + 1 < s.size
  case neg =>
   simp only [SXa, reduceCtorEq, Nat.reduceEqDiff, c3, c40, t0, t6, eJ, eL, wk, bO hk]
   refine word _ _ (by simp [aO, t0]) (by simp [aO, t5]) (by simp [aO, t6]) k1 (fun tm' S' e p g1 g2 u2 u3 u4 => ?_)
   simp only [SXa, u2, u3, u4]
   exact ⟨g1, g2⟩
  case pos =>
  have i1 := uV s (a + 1) hk
  cases c42 : ((((s.data.toList.getD (a + 1) 0).toNat : Nat) : Int) == 42) with
  | false =>
   simp only [SXa, reduceCtorEq, Nat.reduceEqDiff, c3, c40, t0, t6, eJ, eL, wk, bL hk, i1, c42]
   refine word _ _ (by simp [aO, t0]) (by simp [aO, t5]) (by simp [aO, t6]) k1 (fun tm' S' e p g1 g2 u2 u3 u4 => ?_)
   simp only [SXa, u2, u3, u4]
   exact ⟨g1, g2⟩
  | true =>
   obtain ⟨r, S4, e4, hr4, g4⟩ := wz7 s a (by omega) (by omega) S3 hG3.fresh
   have hG4 := hG3.two g4
   simp only [SXa, reduceCtorEq, Nat.reduceEqDiff, P77, c3, c40, t0, t6, eJ, eL, wk, bL hk, i1, c42]
   refine cC e4 ?_
   rcases hr4 with rfl | ⟨z, z1, z2, rfl⟩
   · simp only [SXa, Nat.reduceEqDiff, Int.reduceLT, t6]
     refine ⟨wm9 hL hlt h4 (fun hl2 e => ?_) (by decide), hG4⟩
     subst e
     rcases hL with rfl | h
     · rw [kz0] at hl
       rw [hl] at hl2; cases hl2
     · rw [h] at hl2; cases hl2
   · have zn : decide (((z : Nat) : Int) < 0) = false := by simp
     simp only [SXa, reduceCtorEq, Nat.reduceEqDiff, t0, t5, t6, zn]
     exact ⟨s.size - z, by omega, z, ws, Y, z2, rfl, xu5 hl hlt hL, by omega, hY3.keep g4, hN, hG4, by simp []⟩
theorem lenW {x : AV} {l : List iX} (h : IsV 4 x (iL l)) (S : St) : iF x S = some (.sc (.int .i64 (l.length : Nat)), S) := by rw [h.len, xI]
theorem idxW {x : AV} {l : List iX} (h : IsV 4 x (iL l)) {k : Nat} (hk : k < l.length) (S : St) : bT 4 x (some (k : Int)) S = some (.eptr (wA l[k]) 0, S) := h.idx (v := .agg (wA l[k])) (by simp [iL, hk]) rfl S
theorem ki7 (s : ByteArray) (h4 : s.size ≤ 4000) : Ans E 138 [.sc (.string s)] (.sc (.bool (lO s 2))) := bU fun S hS => by
 obtain ⟨r, S1, e1, ⟨lv, ws, e, p, rfl, hv, hj⟩, g1⟩ := kj0 s h4 S hS
 have hj := hj 2 (.inl rfl)
 refine ev138 rfl ?_
 simp only [SXa, reduceCtorEq, Nat.reduceEqDiff, Nat.reduceAdd, P138]
 refine cC e1 ?_
 cases ce : (e == 0) with
 | false =>
  rw [ce, bK] at hj
  simp only [SXa, reduceCtorEq, Nat.reduceEqDiff, ce]
  exact ⟨by rw [← hj], g1⟩
 | true =>
 rw [ce, cI] at hj
 cases cl : (((ws.length : Nat) : Int) == 1) with
 | false =>
  rw [cl, bK] at hj
  simp only [SXa, reduceCtorEq, Nat.reduceEqDiff, P138, ce, lenW hv, cl]
  exact ⟨by rw [← hj], g1⟩
 | true =>
 rw [cl, cI] at hj
 match ws, hv, hj, cl with
 | w :: r, hv, hj, cl =>
  have hl1 : ∀ S, iF lv S = some (.sc (.int .i64 1), S) := fun S => by rw [lenW hv, eq_of_beq cl]
  have hi : ∀ S, bT 4 lv (some 0) S = some (.eptr (wA w) 0, S) := fun S => idxW hv (k := 0) (by simp) S
  cases ck : (w.1 == 2) with
  | false =>
   simp only [qM, ck, bK] at hj
   simp only [SXa, reduceCtorEq, Nat.reduceEqDiff, Int.reduceBEq, P138, ce, hl1, hi, mB, dN, wA, hJ, aF, ck]
   exact ⟨by rw [← hj], g1⟩
  | true =>
   simp only [qM, ck, cI] at hj
   simp only [SXa, reduceCtorEq, Nat.reduceEqDiff, Int.reduceBEq, P138, ce, hl1, hi, mB, kS, dN, wA, hJ, aF, ck, hj]
   exact g1
theorem we0 (s : ByteArray) (h4 : s.size ≤ 4000) : Ans E 106 [.sc (.string s)] (.sc (.bool (lZ s))) := bU fun S hS => by
 obtain ⟨r, S1, e1, ⟨lv, ws, e, p, rfl, hv, hj⟩, g1⟩ := kj0 s h4 S hS
 have hj := hj 3 (.inr rfl)
 refine ev106 rfl ?_
 simp only [SXa, reduceCtorEq, Nat.reduceEqDiff, Nat.reduceAdd, P106]
 refine cC e1 ?_
 unfold lZ
 cases ce : (e == 0) with
 | false =>
  rw [ce, bK] at hj
  simp only [SXa, reduceCtorEq, Nat.reduceEqDiff, ce]
  exact ⟨by rw [← hj], g1⟩
 | true =>
 rw [ce, cI] at hj
 cases cl : (((ws.length : Nat) : Int) == 1) with
 | false =>
  rw [cl, bK] at hj
  simp only [SXa, reduceCtorEq, Nat.reduceEqDiff, P106, ce, lenW hv, cl]
  exact ⟨by rw [← hj], g1⟩
 | true =>
 rw [cl, cI] at hj
 match ws, hv, hj, cl with
 | w :: r, hv, hj, cl =>
  have hl1 : ∀ S, iF lv S = some (.sc (.int .i64 1), S) := fun S => by rw [lenW hv, eq_of_beq cl]
  have hi : ∀ S, bT 4 lv (some 0) S = some (.eptr (wA w) 0, S) := fun S => idxW hv (k := 0) (by simp) S
  cases ck : (w.1 == 3) with
  | false =>
   simp only [qM, ck, bK] at hj
   simp only [SXa, reduceCtorEq, Nat.reduceEqDiff, Int.reduceBEq, P106, ce, hl1, hi, mB, dN, wA, hJ, aF, ck]
   exact ⟨by rw [← hj], g1⟩
  | true =>
   simp only [qM, ck, cI] at hj
   simp only [SXa, reduceCtorEq, Nat.reduceEqDiff, Int.reduceBEq, P106, ce, hl1, hi, mB, kS, dN, wA, hJ, aF, ck, hj]
   exact g1
theorem xx4 (s : ByteArray) (h4 : s.size ≤ 4000) : Ans E 105 [.sc (.string s)] (.sc (.bool (gX s))) := bU fun S hS => by
 refine ev105 rfl ?_
 simp only [SXa, reduceCtorEq, Nat.reduceEqDiff, Nat.reduceAdd, P105]
 refine aT (ki7 s h4) (Grow.refl hS aA) (fun S1 _ hG => ?_)
 cases cj : lO s 2 with
 | false =>
  simp only [SXa, reduceCtorEq, Nat.reduceEqDiff]
  exact ⟨by simp [gX, cj], hG⟩
 | true =>
  simp only [SXa, reduceCtorEq, Nat.reduceEqDiff, mN]
  exact ⟨by simp only [gX, cj]; cases (s.toList != (⟨#[95]⟩ : ByteArray).toList) <;> rfl, hG⟩
theorem ki8 : Ans E 139 [] (.sc (.int .i64 4611686018427387903)) := bU fun S hS => by
 refine ev139 rfl ?_
 simp only [SXa, P139]
 exact Grow.refl hS aA
open Go.Abs
section
variable {w w' : Bool → Nat → Option Nat} {pat m : Bool}
theorem pY {k : Int} {r : List Int} {i nx z : Nat} (h : bV w pat m (k :: r) i nx = some z) : k = ((nx : Nat) : Int) ∧ ∃ q, w (pat || (m && cN ((i : Nat) : Int))) nx = some q ∧ bV w pat m r (i + 1) q = some z := by
 unfold bV at h
 simp only [bB] at h
 split at h
 · rename_i hk
   split at h
   · rename_i q hq
     exact ⟨by simpa using hk, q, hq, h⟩
   · cases h
 · cases h
theorem jb4 {k : Int} {r : List Int} {i nx q z : Nat} (hk : k = ((nx : Nat) : Int)) (hq : w (pat || (m && cN ((i : Nat) : Int))) nx = some q) (h : bV w pat m r (i + 1) q = some z) : bV w pat m (k :: r) i nx = some z := by
 subst hk
 simp only [bV, hq, beq_self_eq_true, aH]
 exact h
theorem tJ (hw : ∀ p a z, w p a = some z → a < z) : ∀ (l : List Int) (i nx z : Nat), bV w pat m l i nx = some z → nx ≤ z
 | [], i, nx, z, h => by simp only [bV, aI] at h; omega
 | k :: r, i, nx, z, h => by
  obtain ⟨_, q, hq, h⟩ := pY h
  have := hw _ _ _ hq
  have := tJ hw r (i + 1) q z h
  omega
theorem xa6 (hw : ∀ p a z, w p a = some z → a < z) : ∀ (l : List Int) (i nx z : Nat), bV w pat m l i nx = some z → ∀ e, nx ≤ e → e < z → ∃ j, ∃ hj : j < l.length, ∃ q q1, l[j] = ((q : Nat) : Int) ∧ nx ≤ q ∧ q ≤ e ∧ e < q1 ∧ q1 ≤ z ∧ w (pat || (m && cN ((i + j : Nat) : Int))) q = some q1
 | [], i, nx, z, h, e, h1, h2 => by simp only [bV, aI] at h; omega
 | k :: r, i, nx, z, h, e, h1, h2 => by
  obtain ⟨hk, q, hq, h⟩ := pY h
  have hlt := hw _ _ _ hq
  have hle := tJ hw r (i + 1) q z h
  by_cases he : e < q
  · exact ⟨0, by simp, nx, q, hk, aB _, h1, he, hle, hq⟩
  · obtain ⟨j, hj, a, b, k1, k2, k3, k4, k5, k6⟩ := xa6 hw r (i + 1) q z h e (by omega) h2
    refine ⟨j + 1, by simp; omega, a, b, by simpa using k1, by omega, k3, k4, k5, ?_⟩
    rw [show i + (j + 1) = i + 1 + j by omega]; exact k6
theorem vS (hw : ∀ p a z, w p a = some z → a < z) : ∀ (l : List Int) (i nx z : Nat), bV w pat m l i nx = some z → ∀ j (hj : j < l.length), ∃ q q1, l[j] = ((q : Nat) : Int) ∧ nx ≤ q ∧ q1 ≤ z ∧ w (pat || (m && cN ((i + j : Nat) : Int))) q = some q1
 | k :: r, i, nx, z, h, 0, hj => by
  obtain ⟨hk, q, hq, h⟩ := pY h
  exact ⟨nx, q, hk, aB _, tJ hw r (i + 1) q z h, hq⟩
 | k :: r, i, nx, z, h, j + 1, hj => by
  obtain ⟨hk, q, hq, h⟩ := pY h
  have hlt := hw _ _ _ hq
  obtain ⟨a, b, k1, k2, k3, k4⟩ := vS hw r (i + 1) q z h j (by simpa using hj)
  refine ⟨a, b, by simpa using k1, by omega, k3, ?_⟩
  rw [show i + (j + 1) = i + 1 + j by omega]; exact k4
theorem xa7 (hw : ∀ p a z, w p a = some z → a < z) (lo hi : Nat) (h : ∀ p q q1, lo ≤ q → q1 ≤ hi → w p q = some q1 → (p = (pat || m && true) ∨ p = pat) → w' p q = some q1) : ∀ (l : List Int) (i nx z : Nat), lo ≤ nx → z ≤ hi → bV w pat m l i nx = some z → bV w' pat m l i nx = some z
 | [], i, nx, z, h1, h2, hk => by simpa [bV] using hk
 | k :: r, i, nx, z, h1, h2, hk => by
  obtain ⟨hk, q, hq, hr⟩ := pY hk
  have hlt := hw _ _ _ hq
  have hle := tJ hw r (i + 1) q z hr
  refine jb4 hk (h _ _ _ h1 (by omega) hq ?_) (xa7 hw lo hi h r (i + 1) q z (by omega) h2 hr)
  cases cN ((i : Nat) : Int) with
  | true => exact .inl rfl
  | false => exact .inr (by simp)
end
theorem tK (ns : List NodeV) (ds : List DeclV) (d : Nat) : ∀ p a z, bC ns ds d p a = some z → a < z := fun p a z h => (cT ns ds d p a z h).1
theorem oZ {ns : List NodeV} {ds : List DeclV} {d : Nat} {pat : Bool} {a z : Nat} (h : bC ns ds (d + 1) pat a = some z) : ∃ hlt : a < ns.length, gM ns[a].kind = pat ∧ eT ds ns[a] = true ∧ bV (bC ns ds d) pat (ns[a].kind == 11) ns[a].kids 0 (a + 1) = some z := by
 have hbd := cT _ _ _ _ _ _ h
 have hlt : a < ns.length := by omega
 refine ⟨hlt, ?_⟩
 unfold bC at h
 rw [cX hlt] at h
 simp only [bB] at h
 split at h
 · cases h
 · rename_i h2
   simp only [eF, jB, not_or, Bool.not_eq_false, bne_iff_ne, ne_eq, Decidable.not_not] at h2
   exact ⟨h2.1, h2.2, h⟩
theorem walk_mk {ns : List NodeV} {ds : List DeclV} {d : Nat} {pat : Bool} {a z : Nat} (hlt : a < ns.length) (h1 : gM ns[a].kind = pat) (h2 : eT ds ns[a] = true) (h : bV (bC ns ds d) pat (ns[a].kind == 11) ns[a].kids 0 (a + 1) = some z) : bC ns ds (d + 1) pat a = some z := by
 have e1 : (gM ns[a].kind != pat) = false := by rw [h1]; cases pat <;> rfl
 unfold bC
 rw [cX hlt]
 simp only [e1, h2, iC, dD, aK]
 exact h
theorem xp8 {ns : List NodeV} {g g' : Nat → List ByteArray} {w : Bool → Nat → Option Nat} (ih : ∀ p a z, w p a = some z → g a = g' a) {pat m : Bool} : ∀ (l : List Int) (i nx z : Nat), bV w pat m l i nx = some z → (l.flatMap fun k => g k.toNat) = l.flatMap fun k => g' k.toNat
 | [], i, nx, z, h => rfl
 | k :: r, i, nx, z, h => by
  obtain ⟨rfl, q, hq, h⟩ := pY h
  rw [jN, jN, gN, ih _ _ _ hq, xp8 (ns := ns) ih r (i + 1) q z h]
theorem xp9 (ns : List NodeV) (ds : List DeclV) : ∀ (d f f' : Nat), d ≤ f → d ≤ f' → ∀ (pat : Bool) (a z : Nat), bC ns ds d pat a = some z → cV ns f a = cV ns f' a
 | 0, f, f', h1, h2, pat, a, z, h => by cases h
 | d + 1, 0, f', h1, h2, pat, a, z, h => by omega
 | d + 1, f + 1, 0, h1, h2, pat, a, z, h => by omega
 | d + 1, f + 1, f' + 1, h1, h2, pat, a, z, h => by
  obtain ⟨hlt, _, _, hk⟩ := oZ h
  rw [cV, cV, cX hlt]
  simp only [xp8 (ns := ns) (g := cV ns f) (g' := cV ns f') (xp9 ns ds d f f' (by omega) (by omega)) _ 0 (a + 1) z hk]
theorem xx9 {ds : List DeclV} {x : NodeV} (hp : gM x.kind = true) (ha : eT ds x = true) (h0 : 0 < x.kids.length) : x.kind = 26 := by
 unfold eT at ha
 simp only [bB] at ha
 split at ha
 · cases ha
 · split at ha
   · cases ha
   · rename_i h2
     simp only [gM, aS, bZ] at hp
     have hk : x.kind = 21 ∨ x.kind = 22 ∨ x.kind = 23 ∨ x.kind = 24 ∨ x.kind = 25 ∨ x.kind = 26 := by omega
     rcases hk with hk | hk | hk | hk | hk | hk
     all_goals first
      | exact hk
      | (exfalso
         simp only [lM, hk, Int.reduceBEq, dD, aK, bK, fU, eF, bZ, not_or] at h2
         omega)
theorem wj7 (ns : List NodeV) (ds : List DeclV) : ∀ (d : Nat) (a z : Nat), bC ns ds d true a = some z → ∀ f, d ≤ f → ∀ i, a ≤ i → i < z → (cV ns f i).Sublist (cV ns f a)
 | 0, a, z, h, f, hf, i, h1, h2 => by cases h
 | d + 1, a, z, h, 0, hf, i, h1, h2 => by omega
 | d + 1, a, z, h, f + 1, hf, i, h1, h2 => by
  by_cases hi : i = a
  · subst hi; exact List.Sublist.refl _
  · obtain ⟨hlt, hp, ha, hk⟩ := oZ h
    obtain ⟨j, hj, q, q1, e, k2, k3, k4, k5, k6⟩ := xa6 (tK ns ds d) _ 0 (a + 1) z hk i (by omega) h2
    rw [cA] at k6
    have h26 := xx9 hp ha (by omega)
    have ih := wj7 ns ds d q q1 k6 f (by omega) i k3 k4
    obtain ⟨d', p', z', g1, g2⟩ := vO ns ds d true q q1 k6 i k3 k4
    rw [xp9 ns ds d' (f + 1) f (by omega) (by omega) p' i z' g2]
    have eb : cV ns (f + 1) a = ns[a].kids.flatMap fun k => cV ns f k.toNat := by
     rw [cV, cX hlt]
     simp only [h26, Int.reduceBEq, aH, aK]
    rw [eb]
    refine ih.trans ?_
    have hm : ns[a].kids[j] ∈ ns[a].kids := fE hj
    rw [e] at hm
    obtain ⟨l1, l2, hl⟩ := List.append_of_mem hm
    rw [hl, List.flatMap_append, jN, gN]
    exact (List.sublist_append_left _ _).trans (List.sublist_append_right _ _)
theorem wc2 : ∀ (l had : List ByteArray), eA had l = false ↔ l.Nodup ∧ ∀ s ∈ l, s ∉ had
 | [], had => by simp [eA]
 | s :: r, had => by
  unfold eA
  cases hb : inB s had with
  | true =>
   have := inB_mem.1 hb
   simp only [aH, Bool.true_eq_false, false_iff]
   rintro ⟨_, h⟩
   exact h s (jL ..) this
  | false =>
   have hn := inB_false.1 hb
   rw [aK, wc2 r (had ++ [s]), List.nodup_cons]
   constructor
   · rintro ⟨h1, h2⟩
     refine ⟨⟨fun hs => h2 s hs (by simp), h1⟩, fun x hx => ?_⟩
     rcases List.mem_cons.1 hx with rfl | hx
     · exact hn
     · exact fun hh => h2 x hx (qU _ hh)
   · rintro ⟨⟨h1, h2⟩, h3⟩
     refine ⟨h2, fun x hx hh => ?_⟩
     rcases List.mem_append.1 hh with hh | hh
     · exact h3 x (kZ _ hx) hh
     · simp only [List.mem_singleton] at hh
       subst hh
       exact h1 hx
theorem kg5 {a b : List ByteArray} (h : a.Sublist b) (hb : eA [] b = false) : eA [] a = false := by
 rw [wc2] at hb ⊢
 exact ⟨h.nodup hb.1, fun s _ => by simp⟩
def jU (ns : List NodeV) : List Int → Nat → Bool
 | [], _ => false
 | k :: r, i => (cN ((i : Nat) : Int) && eA [] (cV ns 60 k.toNat)) || jU ns r (i + 1)
noncomputable def fW (ns : List NodeV) (ds : List DeclV) : Nat → Bool → Nat → Option Nat
 | 0, _, _ => none
 | d + 1, pat, a => match ns[a]? with
  | some x => bif (gM x.kind != pat) || !eT ds x then none else
   match bV (fW ns ds d) pat (x.kind == 11) x.kids 0 (a + 1) with
   | some z => bif x.kind == 11 && jU ns x.kids 0 then none else some z
   | none => none
  | none => none
theorem yz7 {ns : List NodeV} {ds : List DeclV} {d : Nat} {pat : Bool} {a z : Nat} (h : fW ns ds (d + 1) pat a = some z) : ∃ hlt : a < ns.length, gM ns[a].kind = pat ∧ eT ds ns[a] = true ∧ bV (fW ns ds d) pat (ns[a].kind == 11) ns[a].kids 0 (a + 1) = some z ∧ (ns[a].kind == 11 && jU ns ns[a].kids 0) = false := by
 unfold fW at h
 cases hx : ns[a]? with
 | none => rw [hx] at h; cases h
 | some x =>
  obtain ⟨hlt, rfl⟩ := List.getElem?_eq_some_iff.1 hx
  rw [hx] at h
  simp only [bB] at h
  split at h
  · cases h
  · rename_i h2
    simp only [eF, jB, not_or, Bool.not_eq_false, bne_iff_ne, ne_eq, Decidable.not_not] at h2
    split at h
    · rename_i z1 hz
      split at h
      · cases h
      · rename_i h3
        simp only [aI] at h
        subst h
        rw [sX] at h3
        exact ⟨hlt, h2.1, h2.2, hz, h3⟩
    · cases h
theorem ky4 {ns : List NodeV} {ds : List DeclV} {d : Nat} {pat : Bool} {a z : Nat} (hlt : a < ns.length) (h1 : gM ns[a].kind = pat) (h2 : eT ds ns[a] = true) (h : bV (fW ns ds d) pat (ns[a].kind == 11) ns[a].kids 0 (a + 1) = some z) (h3 : (ns[a].kind == 11 && jU ns ns[a].kids 0) = false) : fW ns ds (d + 1) pat a = some z := by
 have e1 : (gM ns[a].kind != pat) = false := by rw [h1]; cases pat <;> rfl
 unfold fW
 rw [cX hlt]
 simp only [e1, h2, iC, dD, aK, h, h3]
theorem yJ (ns : List NodeV) (ds : List DeclV) : ∀ (d : Nat) p a z, fW ns ds d p a = some z → a < z
 | 0, p, a, z, h => by cases h
 | d + 1, p, a, z, h => by
  obtain ⟨_, _, _, hk, _⟩ := yz7 h
  have := tJ (yJ ns ds d) _ 0 (a + 1) z hk
  omega
theorem tB (ns : List NodeV) (ds : List DeclV) : ∀ (d : Nat) p a z, fW ns ds d p a = some z → bC ns ds d p a = some z
 | 0, p, a, z, h => by cases h
 | d + 1, p, a, z, h => by
  obtain ⟨hlt, h1, h2, hk, _⟩ := yz7 h
  exact walk_mk hlt h1 h2 (xa7 (yJ ns ds d) 0 z (fun p q q1 _ _ hw _ => tB ns ds d p q q1 hw) _ 0 (a + 1) z (jR _) (aB _) hk)
theorem xw5 (ns : List NodeV) : ∀ (l : List Int) (i : Nat), jU ns l i = false → ∀ j (hj : j < l.length), cN ((i + j : Nat) : Int) = true → eA [] (cV ns 60 l[j].toNat) = false
 | k :: r, i, h, 0, hj, ha => by
  simp only [jU, oQ] at h
  rw [aM] at ha
  rw [ha, cI] at h
  exact h.1
 | k :: r, i, h, j + 1, hj, ha => by
  simp only [jU, oQ] at h
  exact xw5 ns r (i + 1) h.2 j (by simpa using hj) (by rw [show i + 1 + j = i + (j + 1) by omega]; exact ha)
theorem xw4 (ns : List NodeV) : ∀ (l : List Int) (i : Nat), (∀ j (hj : j < l.length), cN ((i + j : Nat) : Int) = true → eA [] (cV ns 60 l[j].toNat) = false) → jU ns l i = false
 | [], i, h => rfl
 | k :: r, i, h => by
  simp only [jU, oQ]
  refine ⟨?_, xw4 ns r (i + 1) fun j hj ha => ?_⟩
  · cases ha : cN ((i : Nat) : Int) with
    | false => rfl
    | true => exact h 0 (by simp) ha
  · exact h (j + 1) (by simpa using hj) (by rw [show i + (j + 1) = i + 1 + j by omega]; exact ha)
theorem ku5 {ns : List NodeV} {i : Nat} (hlt : i < ns.length) : badP ns i = (gM ns[i].kind && eA [] (cV ns 60 i)) := by
 unfold badP
 rw [cX hlt]
theorem wr5 (ns : List NodeV) (ds : List DeclV) : ∀ (d : Nat), d ≤ 60 → ∀ a z, fW ns ds d false a = some z → ∀ i, a ≤ i → i < z → badP ns i = false
 | 0, hd, a, z, h, i, h1, h2 => by cases h
 | d + 1, hd, a, z, h, i, h1, h2 => by
  obtain ⟨hlt, hp, ha, hk, hb⟩ := yz7 h
  by_cases hi : i = a
  · subst hi
    rw [ku5 hlt, hp]; rfl
  · obtain ⟨j, hj, q, q1, e, k2, k3, k4, k5, k6⟩ := xa6 (yJ ns ds d) _ 0 (a + 1) z hk i (by omega) h2
    rw [gU, aF] at k6
    cases hm : (ns[a].kind == 11 && cN ((j : Nat) : Int)) with
    | false =>
     rw [hm] at k6
     exact wr5 ns ds d (by omega) q q1 k6 i k3 k4
    | true =>
     rw [hm] at k6
     simp only [aS] at hm
     rw [hm.1, cI] at hb
     have ht := xw5 ns _ 0 hb j hj (by rw [aF]; exact hm.2)
     rw [e, gN] at ht
     have hw := tB _ _ _ _ _ _ k6
     have hs := wj7 ns ds d q q1 hw 60 (by omega) i k3 k4
     have hbd := cT _ _ _ _ _ _ hw
     rw [ku5 (by omega), kg5 hs ht, dY]
theorem xs4 (ns : List NodeV) (ds : List DeclV) : ∀ (d : Nat), d ≤ 60 → ∀ p a z, bC ns ds d p a = some z → (p = true ∨ ∀ i, a ≤ i → i < z → badP ns i = false) → fW ns ds d p a = some z
 | 0, hd, p, a, z, h, hb => by cases h
 | d + 1, hd, p, a, z, h, hb => by
  obtain ⟨hlt, h1, h2, hk⟩ := oZ h
  have hle := fun p q q1 (hw : bC ns ds d p q = some q1) => cT ns ds d p q q1 hw
  refine ky4 hlt h1 h2 (xa7 (tK ns ds d) (a + 1) z (fun p' q q1 k1 k2 hw hp => xs4 ns ds d (by omega) p' q q1 hw ?_) _ 0 (a + 1) z (aB _) (aB _) hk) ?_
  · rcases hb with rfl | hb
    · rcases hp with rfl | rfl
      · exact .inl (by simp)
      · exact .inl rfl
    · exact .inr fun i k3 k4 => hb i (by omega) (by omega)
  · cases hm : (ns[a].kind == 11) with
    | false => rfl
    | true =>
     rw [cI]
     have hpf : p = false := by
      have : ns[a].kind = 11 := by simpa using hm
      rw [this] at h1
      rw [← h1]; rfl
     subst hpf
     rcases hb with hb | hb
     · cases hb
     · refine xw4 ns _ 0 fun j hj harm => ?_
       obtain ⟨q, q1, e, k2, k3, k4⟩ := vS (tK ns ds d) _ 0 (a + 1) z hk j hj
       rw [hm, harm] at k4
       have hbd := cT _ _ _ _ _ _ k4
       have hq := hb q (by omega) (by omega)
       rw [ku5 (by omega)] at hq
       have hpat : gM (ns[q]'(by omega)).kind = true := by
        cases d with
        | zero => cases k4
        | succ d => exact (oZ k4).2.1
       rw [hpat, cI] at hq
       rw [e, gN]; exact hq
theorem xx8 (ns : List NodeV) : ∀ (m k : Nat), nL ns m k = true ↔ ∀ i, k ≤ i → i < k + m → badP ns i = false
 | 0, k => by
  simp only [nL, true_iff]
  intro i h1 h2; omega
 | m + 1, k => by
  unfold nL
  cases hb : badP ns k with
  | true =>
   simp only [aH, Bool.false_eq_true, false_iff]
   intro h
   rw [h k (aB _) (by omega)] at hb
   cases hb
  | false =>
   rw [aK, xx8 ns m (k + 1)]
   constructor
   · intro h i h1 h2
     by_cases hi : i = k
     · subst hi; exact hb
     · exact h i (by omega) (by omega)
   · intro h i h1 h2
     exact h i (by omega) (by omega)
noncomputable def uQ (t : TreeV) : Bool := decide (1 ≤ t.nodes.length) && decide (t.nodes.length ≤ 1000) && iM t.types &&
 (match fW t.nodes t.types 60 false 0 with | some z => ((z : Int) == (t.nodes.length : Int)) | none => false)
theorem ky6 (t : TreeV) : uQ t = fJ t := by
 unfold uQ fJ
 cases h0 : (decide (1 ≤ t.nodes.length) && decide (t.nodes.length ≤ 1000) && iM t.types) with
 | false => simp
 | true =>
  rw [cI, cI]
  cases hw : bC t.nodes t.types 60 false 0 with
  | none =>
   cases hr : fW t.nodes t.types 60 false 0 with
   | none => rfl
   | some z => rw [tB _ _ _ _ _ _ hr] at hw; cases hw
  | some z =>
   cases hz : ((z : Int) == (t.nodes.length : Int)) with
   | false =>
    simp only [hz, bK]
    cases hr : fW t.nodes t.types 60 false 0 with
    | none => rfl
    | some z1 =>
     have := tB _ _ _ _ _ _ hr
     rw [hw, aI] at this
     subst this
     exact hz
   | true =>
    have hzn : z = t.nodes.length := by
     have := eq_of_beq hz
     omega
    simp only [hz, cI]
    cases hp : nL t.nodes t.nodes.length 0 with
    | true =>
     rw [xx8] at hp
     rw [xs4 _ _ 60 (aB _) false 0 z hw (.inr fun i h1 h2 => hp i h1 (by omega))]
     exact hz
    | false =>
     cases hr : fW t.nodes t.types 60 false 0 with
     | none => rfl
     | some z1 =>
      exfalso
      have h1 := tB _ _ _ _ _ _ hr
      rw [hw, aI] at h1
      subst h1
      have := (xx8 t.nodes t.nodes.length 0).2 fun i k1 k2 => wr5 _ _ 60 (aB _) 0 z hr i k1 (by omega)
      rw [hp] at this
      cases this
end Go.Proofs.YthjaoinieikjdaaGreatDoor
