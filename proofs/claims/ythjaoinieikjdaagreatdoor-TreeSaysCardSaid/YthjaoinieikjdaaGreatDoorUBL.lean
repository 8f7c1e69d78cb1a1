/-
  A strings.Builder in the calculus: WriteString, String.
-/
import Derived.Test.YthjaoinieikjdaaGreatDoorUBG
import Derived.Test.YthjaoinieikjdaaGreatDoorUBK
set_option linter.unusedSimpArgs false
set_option linter.unusedVariables false
set_option maxRecDepth 100000
namespace Go.Proofs.YthjaoinieikjdaaGreatDoor
open Go.Abs
theorem ev_shp {f : FuncId} {args : List AV} {S : St} {r : AV} {S' : St} {x : AV} (h : EvA E f args S r S') (g : Grow S S' x) {l : Nat} (hl : l < S.no) : S'.shp.get l = S.shp.get l := by
 obtain ⟨N, h⟩ := h
 have e := zO noX.evo N N f args S r S' (h N N (aB _) (aB _))
 exact (e.obj l hl (g.ver l hl).symm).2
def BufIs (S : St) (B : AV) (bs : List UInt8) : Prop := (B = aA ∧ bs = []) ∨ ∃ id, B = .vec id 1 (cO bs) ∧ bs ≠ [] ∧ S.live id = true ∧ S.ityIs id 5 = true
structure Bld (S0 S : St) (l : Nat) (bs : List UInt8) : Prop where
 lt : l < S.no
 shp : S.shp.get l = some (112, 2)
 at_ : ∃ A B, S.obj l = some [A, B] ∧ (A = .sc (.pointer none) ∨ A = .ptr l 0) ∧ BufIs S B bs ∧ cY S0 B
theorem kn1 {S : St} {id : Nat} (h : S.live id = true) : 2 < id := by
 simp only [St.live, aS] at h
 exact bW h.1.1
theorem BufIs.own {S : St} {B : AV} {bs : List UInt8} (h : BufIs S B bs) : OwnV S 5 1 B (cO bs) := by
 rcases h with ⟨rfl, rfl⟩ | ⟨id, rfl, _, h1, h2⟩
 · exact .inl ⟨rfl, rfl⟩
 · exact .inr ⟨id, rfl, .inr (.inr ⟨h1, h2⟩)⟩
theorem BufIs.keep {S S' : St} {B : AV} {bs : List UInt8} (h : BufIs S B bs) (g : Grow S S' aA) : BufIs S' B bs := by
 have ho := h.own.keep g
 rcases h with h | ⟨id, rfl, h0, h1, h2⟩
 · exact .inl h
 · refine .inr ⟨id, rfl, h0, ?_⟩
   have hlt := kn1 h1
   rcases ho with ⟨h, _⟩ | ⟨i, h, h3⟩
   · cases h
   · simp only [AV.vec.injEq, and_true] at h
     obtain rfl := h
     rcases h3 with h3 | h3 | h3
     · omega
     · omega
     · exact h3
theorem Bld.keep {S0 S S' : St} {l : Nat} {bs : List UInt8} (h : Bld S0 S l bs) (g : Grow S S' aA) (hs : S'.shp.get l = S.shp.get l) : Bld S0 S' l bs := by
 obtain ⟨h1, h2, A, B, h3, h4, h5, h6⟩ := h
 exact ⟨aU h1 g.no, hs.trans h2, A, B, g.objs h3 h1, h4, h5.keep g, h6⟩
theorem Bld.after {S0 S S' : St} {l : Nat} {bs : List UInt8} (h : Bld S0 S l bs) {f : FuncId} {args : List AV} {r : AV} (he : EvA E f args S r S') (g : Grow S S' aA) : Bld S0 S' l bs := h.keep g (ev_shp he g h.lt)
theorem allocB {tm : PM AV} {S : St} {d : Option Tmp} : opV E tm d (.alloc 112) S = some (.ptr S.no 0, S.born 112 [.sc (.pointer none), .sc (.slice none 0 0)]) := oA (by kernel_rfl)
theorem fldB0 {tm : PM AV} {S : St} {d : Option Tmp} (x : Operand) : opV E tm d (.fieldAddr 112 x 0) S = eD 0 (E.ev tm x) S := eR 112 0 0 (by kernel_rfl) x
theorem fldB1 {tm : PM AV} {S : St} {d : Option Tmp} (x : Operand) : opV E tm d (.fieldAddr 112 x 1) S = eD 1 (E.ev tm x) S := eR 112 1 1 (by kernel_rfl) x
theorem kr5 {tm : PM AV} : E.ev tm (.const (.pointer none)) = .sc (.pointer none) := rfl
theorem kw9 : E.und 109 = some (.pointer 112) := by kernel_rfl
theorem undUP : E.und 198 = some .unsafePointer := by kernel_rfl
theorem b_eqnn {S : St} (x y : Operand) : cQ E .eql 109 x y (.sc (.pointer none)) (.sc (.pointer none)) S = some (.sc (.bool true), S) := by kernel_rfl
theorem b_eqpn {S : St} (x y : Operand) (l o : Nat) : cQ E .eql 109 x y (.ptr l o) (.sc (.pointer none)) S = some (.sc (.bool false), S) := by
 have h : iZ (.ptr l o) = none := rfl
 simp only [cQ, h, kw9, vA, aH]
theorem infB : (E.inf 112).isSome = true := by kernel_rfl
theorem b_nepp {S : St} (x y : Operand) (l : Nat) : cQ E .neq 109 x y (.ptr l 0) (.ptr l 0) S = some (.sc (.bool false), S) := by
 have h : iZ (.ptr l 0) = none := rfl
 simp only [cQ, h, kw9, vA, lB, infB, bY, aH, iC]
theorem cvU {S : St} (mu : Bool) (l : Nat) {A B : AV} (h : S.obj l = some [A, B]) : gH E mu 109 198 (.ptr l 0) S = some (.ptr l 0, S) := by
 have h1 : pZ E 109 198 = false := by kernel_rfl
 obtain ⟨i, hi, hs⟩ : ∃ i, E.inf 112 = some i ∧ Nat.blt 0 i.size = true := by
  have h2 : (match E.inf 112 with | some i => Nat.blt 0 i.size | none => false) = true := by kernel_rfl
  cases hq : E.inf 112 with
  | none => rw [hq] at h2; cases h2
  | some i => rw [hq] at h2; exact ⟨i, rfl, h2⟩
 have h3 : Nat.blt 0 2 = true := rfl
 simp only [gH, h1, aK, kw9, undUP, h, hi, hs, aY, bH, aF, h3, bY, aH]
theorem cvP {S : St} (mu : Bool) (l : Nat) {A B : AV} (h : S.obj l = some [A, B]) (hs : S.shp.get l = some (112, 2)) : gH E mu 198 109 (.ptr l 0) S = some (.ptr l 0, S) := by
 have h1 : pZ E 198 109 = false := by kernel_rfl
 have h3 : Nat.blt 0 2 = true := rfl
 have h4 : liesAt E.P E.P.depth 112 (2 / E.P.cellsOf 112) 0 112 1 = true := by kernel_rfl
 obtain ⟨i, hi⟩ : ∃ i, E.inf 112 = some i := Option.isSome_iff_exists.1 infB
 simp only [gH, h1, aK, kw9, undUP, h, hi, hs, aY, bH, aF, h3, h4, bY, aH]
theorem extN : E.ext 140 = some wD := by kernel_rfl
theorem wj0 {S0 S : St} {l : Nat} {bs : List UInt8} (h : Bld S0 S l bs) (hG : Grow S0 S aA) (hl : S0.no ≤ l) :
 ∃ r S', EvA E 109 [.ptr l 0] S r S' ∧ Bld S0 S' l bs ∧ Grow S0 S' aA ∧ S'.no = S.no ∧ (∀ k, k ≠ l → S'.obj k = S.obj k) := by
 obtain ⟨h1, h2, A, B, h3, h4, h5, h6⟩ := h
 refine ev109 rfl ?_
 simp only [SXa, reduceCtorEq, Nat.reduceEqDiff, P109, mM, mY, fldB0, aG, aE, h3, aD, aF, aM]
 rcases h4 with rfl | rfl
 · simp only [SXa, reduceCtorEq, Nat.reduceEqDiff, kr5, b_eqnn, cvU _ l h3]
   rw [e_ext (some 10) 140 _ _ _ extN (v := .ptr l 0) (by simp [wD, ev_tmp, aO])]
   simp only [SXa, reduceCtorEq, Nat.reduceEqDiff, Nat.reduceAdd, P109, cvP _ l h3 h2, mM, mY, fldB0, aG, aM, qC _ _ _ (show cellsOf (.ptr l 0) = some [.ptr l 0] from rfl) (show cB (.ptr l 0) = true from rfl), h3, aD, fS, Nat.zero_lt_succ]
   have g2 := (Grow.refl hG.fresh aA)
   refine ⟨⟨h1, h2, .ptr l 0, B, by rw [aX, bN rfl], .inr rfl, ?_, h6⟩, hG.put l _ hl, rfl, fun k hk => by rw [aX, aR hk]⟩
   exact h5
 · simp only [SXa, reduceCtorEq, Nat.reduceEqDiff, P109, kr5, b_eqpn, mM, mY, fldB0, aG, aE, h3, aD, aM, b_nepp]
   refine ⟨⟨h1, h2, .ptr l 0, B, h3, .inr rfl, h5, h6⟩, hG, ?_⟩
   simp
theorem elB : kA E 110 5 false 1 1 = true := el110
theorem wj5 (a b : List UInt8) : cO a ++ cO b = cO (a ++ b) := by simp [cO]
theorem yp0 (a : List UInt8) : (cO a).length = a.length := by simp [cO]
theorem kv2 {e : TypeId} {S : St} {X : AV} {xs zs : List AV} {sz : Nat} (hS : S.Fresh) (h : OwnV S e sz X xs) : (fL e S X).live S.nid = true ∧ (fL e S X).ityIs S.nid e = true := by
 have hn := hS.1
 rcases zA (zs := zs) hS h with ⟨h, _⟩ | ⟨id, h, h2⟩
 · cases h
 · simp only [AV.vec.injEq, and_true] at h
   obtain rfl := h
   rcases h2 with h2 | h2 | h2
   · omega
   · omega
   · exact h2
theorem jh5 (e : TypeId) (S : St) (X : AV) : (fL e S X).shp = S.shp := by
 unfold fL
 split
 · cases (_ || _) <;> rfl
 · rfl
theorem kf7 {S0 S : St} {l : Nat} {bs : List UInt8} (s : ByteArray) (h : Bld S0 S l bs) (hG : Grow S0 S aA) (hl : S0.no ≤ l) (hsz : bs.length + s.size ≤ 2 ^ 40) :
 ∃ r S', EvA E 62 [.ptr l 0, .sc (.string s)] S r S' ∧ Bld S0 S' l (bs ++ s.data.toList) ∧ Grow S0 S' aA ∧ S'.no = S.no ∧ (∀ k, k ≠ l → S'.obj k = S.obj k) := by
 obtain ⟨r1, S1, e1, hB1, hG1, no1, ob1⟩ := wj0 h hG hl
 obtain ⟨h1, h2, A, B, h3, h4, h5, h6⟩ := hB1
 refine ev62 rfl ?_
 simp only [SXa, reduceCtorEq, Nat.reduceEqDiff, Nat.reduceAdd, P62]
 refine cC e1 ?_
 have hcase : ∃ Z S2, bD E false .append [110, 9] [B, .sc (.string s)] S1 = some (Z, S2) ∧ BufIs S2 Z (bs ++ s.data.toList) ∧ cY S0 Z ∧ Grow S0 S2 aA ∧ S2.no = S1.no ∧ (∀ k, S2.obj k = S1.obj k) ∧ S2.shp = S1.shp := by
  by_cases hne : s.data.toList = []
  · refine ⟨B, S1, ?_, by rw [hne, dK]; exact h5, h6, hG1, rfl, fun _ => rfl, rfl⟩
    have hs : s = ⟨#[]⟩ := by
     obtain ⟨d⟩ := s
     have : d = #[] := by
      apply Array.ext'
      exact hne
     rw [this]
    subst hs
    have ht := elB
    unfold kA at ht
    split at ht
    · rename_i e' de i hd hde hi
      simp only [aS, gD] at ht
      obtain ⟨⟨⟨⟨⟨k1, k2⟩, k3⟩, k4⟩, k5⟩, k6⟩ := ht
      have k1 := bA k1
      subst k1
      have hst : E.und 9 = some .string := by kernel_rfl
      rcases h5 with ⟨rfl, _⟩ | ⟨id, rfl, _⟩
      · simp only [bD, hd, hst, hi, lH, fG, gY, kH]; rfl
      · simp only [bD, hd, hst, hi, lH, fG, gY, kH]; rfl
    · simp at ht
  · have ho := h5.own
    refine ⟨_, _, app_str elB (by kernel_rfl) hG1.fresh ho hne (by rw [yp0]; have : s.data.toList.length = s.size := (by rw [jA]; rfl); omega), ?_, .inr (.inr ⟨_, _, _, rfl, hG1.nid⟩), hG1.app2 ho h6, zB _ _ _, yF _ _ _, jh5 _ _ _⟩
    rw [wj5]
    exact .inr ⟨_, rfl, by simp [hne], kv2 (zs := []) hG1.fresh ho⟩
 obtain ⟨Z, S2, ap, hZ, hNZ, hG2, no2, ob2, shp2⟩ := hcase
 have h32 : S2.obj l = some [A, B] := by rw [ob2]; exact h3
 obtain ⟨hZc, hZo⟩ : cellsOf Z = some [Z] ∧ cB Z = true := by
  rcases hZ with ⟨rfl, _⟩ | ⟨id, rfl, _⟩ <;> exact ⟨rfl, rfl⟩
 have hlt1 : 1 < [A, B].length := by simp
 simp only [SXa, reduceCtorEq, Nat.reduceEqDiff, Nat.reduceAdd, P62, mM, mY, fldB1, aG, aE, h3, aD, aF, ap, qC _ _ _ hZc hZo, h32, kY, fS, eJ, eL, bJ]
 refine ⟨⟨by show l < S2.no; rw [no2]; exact h1, by show S2.shp.get l = _; rw [shp2]; exact h2, A, Z, by rw [aX, bN rfl], h4, hZ, hNZ⟩, hG2.put l _ hl, by show S2.no = _; rw [no2, no1], fun k hk => by rw [aX, aR hk, ob2, ob1 k hk]⟩
theorem xe0 : ∀ l : List UInt8, jT (cO l) = some l
 | [] => rfl
 | b :: r => by
  have := xe0 r
  simp only [cO, cF] at this ⊢
  simp [jT, this]
theorem ww3 : ∀ l : List UInt8, (cO l).all uU = true
 | [] => rfl
 | b :: r => by
  have := ww3 r
  simp only [cO, cF, lA] at this ⊢
  have h : uU (.sc (.int .u8 (b.toNat : Int))) = true := by
   have := b.toNat_lt
   simp [uU]
   omega
  rw [h, this]; rfl
theorem op_usd {tm : PM AV} {S : St} {d : Option Tmp} (x : Operand) (t : TypeId) : opV E tm d (.call (Call.mk (.builtin .unsafeSliceData) #[x] #[t])) S = bD E false .unsafeSliceData [t] [E.ev tm x] S := rfl
theorem kl4 {tm : PM AV} {S : St} {d : Option Tmp} (x y : Operand) (t u : TypeId) : opV E tm d (.call (Call.mk (.builtin .unsafeString) #[x, y] #[t, u])) S = bD E false .unsafeString [t, u] [E.ev tm x, E.ev tm y] S := rfl
theorem kh2 {S0 S : St} {l : Nat} {bs : List UInt8} (h : Bld S0 S l bs) (hG : Grow S0 S aA) (hsz : bs.length ≤ 2 ^ 40) :
 ∃ r S', EvA E 65 [.ptr l 0] S r S' ∧ r = .sc (.string ⟨bs.toArray⟩) ∧ Grow S0 S' aA := by
 obtain ⟨h1, h2, A, B, h3, h4, h5, h6⟩ := h
 have gr : ∀ n, Grow S (S.raise n) aA := fun n => Grow.raise hG.fresh n aA
 refine ev65 rfl ?_
 simp only [SXa, Nat.reduceAdd, P65]
 refine kK noX jf5 ?_
 have h3' : ∀ n, (S.raise n).obj l = some [A, B] := fun n => h3
 rcases h5 with ⟨rfl, rfl⟩ | ⟨id, rfl, hne, hlv, hity⟩
 · have u1 : ∀ S1, bD E false .unsafeSliceData [110] [aA] S1 = some (.sc (.pointer none), S1) := fun _ => rfl
   have u2 : ∀ S1, bD E false .unsafeString [173, 3] [.sc (.pointer none), .sc (.int .i64 ((0 : Nat) : Int))] S1 = some (.sc (.string .empty), S1) := fun _ => rfl
   simp only [SXa, reduceCtorEq, Nat.reduceEqDiff, P65, mM, mY, fldB1, aG, aE, h3', aD, aF, op_usd, kl4, u1, u2, gF, gG, lE h1 (gr 12), vI, bY]
   exact ⟨rfl, hG.two (gr _)⟩
 · have u1 : ∀ S1, bD E false .unsafeSliceData [110] [.vec id 1 (cO bs)] S1 = some (.udat id (cO bs), S1) := fun S1 => by
    have hb : Nat.blt 2 id = true := fT (kn1 hlv)
    cases hq : cO bs with
    | nil => exact absurd hq (by simp [cO, hne])
    | cons y ys => simp only [bD, hb, lB, bY, aH]
   have hcell : Nat.beq (E.P.cellsOf 5) 1 = true := by kernel_rfl
   have hpu : E.und 173 = some (.pointer 5) := by kernel_rfl
   obtain ⟨T, hT, hTe⟩ : ∃ T, S.ity.get id = some T ∧ Nat.beq T 5 = true := by
    unfold St.ityIs at hity
    split at hity
    · rename_i T hT
      exact ⟨T, hT, hity⟩
    · cases hity
   have u2 : ∀ n, bD E false .unsafeString [173, 3] [.udat id (cO bs), .sc (.int .i64 (bs.length : Nat))] (S.raise n) = some (.sc (.string ⟨bs.toArray⟩), S.raise n) := fun n => by
    have hT' : (S.raise n).ity.get id = some T := hT
    have hd : decide (((bs.length : Nat) : Int) = (((cO bs).length : Nat) : Int)) = true := by rw [yp0]; simp
    have hle : Nat.ble (cO bs).length (2 ^ 62) = true := fT (by rw [yp0]; omega)
    simp only [bD, hpu, hT', xe0, hTe, hcell, hd, ww3, hle, bY, aH]
   simp only [SXa, reduceCtorEq, Nat.reduceEqDiff, P65, mM, mY, fldB1, aG, aE, h3', aD, aF, op_usd, kl4, u1, u2, gF, gG, lE h1 (gr 12), ky2, bY]
   exact hG.two (gr _)
def tW (d : DeclV) : Prop := d.cons.length ≤ 6 ∧ d.name.size ≤ 60 ∧ ∀ c ∈ d.cons, c.name.size ≤ 60 ∧ c.args.length ≤ 4 ∧ ∀ s ∈ c.args, s.size ≤ 60
theorem kg9 {l : List ByteArray} {n : Nat} (h : ∀ s ∈ l, s.size ≤ n) : dI l ≤ l.length * (n + 10) := by
 induction l with
 | nil => simp [dI]
 | cons a r ih =>
  have h1 := ih fun s hs => h s (kZ _ hs)
  have h2 := h a (jL ..)
  rw [qA, aY, lC]
  omega
theorem wp3 {c : ConV} (h : c.name.size ≤ 60 ∧ c.args.length ≤ 4 ∧ ∀ s ∈ c.args, s.size ≤ 60) : dI c.args ≤ 280 ∧ (fK c).size ≤ 350 := by
 obtain ⟨h1, h2, h3⟩ := h
 have h4 := kg9 h3
 have h5 : c.args.length * (60 + 10) ≤ 4 * 70 := Nat.mul_le_mul h2 (aB _)
 refine ⟨by omega, ?_⟩
 unfold fK
 split
 · omega
 · rename_i a r e
   have hj := qD (a :: r) (⟨#[44, 32]⟩ : ByteArray) (by decide)
   rw [← e] at hj ⊢
   simp only [dQ, dE, aY, bH]
   omega
theorem wa6 {d : DeclV} (h : tW d) : dI (d.cons.map fK) ≤ 2160 := by
 have h1 := kg9 (l := d.cons.map fK) (n := 350) (fun s hs => by
  obtain ⟨c, hc, rfl⟩ := List.mem_map.1 hs
  exact (wp3 (h.2.2 c hc)).2)
 rw [eE] at h1
 have h2 : d.cons.length * (350 + 10) ≤ 6 * 360 := Nat.mul_le_mul h.1 (aB _)
 omega
theorem wv7 {d : DeclV} (h : tW d) : (pM d).size ≤ 2300 := by
 have h1 := qD (d.cons.map fK) (⟨#[32, 124, 32]⟩ : ByteArray) (by decide)
 have h2 := wa6 h
 have h3 := h.2.1
 simp only [pM, dQ, dE, aY, bH]
 omega
def zC : List AV := [.sc (.string ⟨#[]⟩), .sc (.slice none 0 0)]
set_option maxHeartbeats 16000000 in
theorem wi4 (d : DeclV) (h : tW d) : Ans E 63 [.agg (dC d)] (.sc (.string (pM d))) := bU fun S hS => by
 obtain ⟨hcl, hdn, hcs⟩ := id h
 refine ev63 rfl ?_
 have hG := (Grow.refl hS aA).born 75 (dC d)
 have h0 : (S.born 75 (dC d)).obj S.no = some (dC d) := by simp [bE]
 have hn0 : S.no < (S.born 75 (dC d)).no := bJ _
 simp only [SXa, Nat.reduceAdd, P63, dT, dZ]
 generalize S.born 75 (dC d) = S0 at hG h0 hn0
 simp only [dC] at h0
 simp only [SXa, reduceCtorEq, Nat.reduceEqDiff, P63, aE, h0, mW, aG, aD, aF, qK]
 refine bX (fun tm S' N => ∃ (j : Nat) (Y : AV), j ≤ d.cons.length ∧ N = d.cons.length - j ∧ OwnV S' 9 1 Y (aN ((d.cons.take j).map fK)) ∧ cY S Y ∧ S'.obj S.no = some [.sc (.string d.name), kT d] ∧ Grow S S' aA ∧ S.no < S'.no ∧ getT tm 1 = .ptr S.no 0 ∧ getT tm 3 = Y ∧ getT tm 8 = kT d ∧ getT tm 9 = .sc (.int .i64 (d.cons.length : Nat)) ∧ getT tm 10 = .sc (.int .i64 (j : Int))) d.cons.length
  ⟨0, aA, by omega, by omega, OwnV.nil' _ _ _, .inl rfl, h0, hG, hn0, by simp [aO]⟩ ?_
 clear hG h0 hn0
 rintro tm S1 N ⟨j, Y, hj, rfl, hY, hN, hD, hG, hn, t1, t3, t8, t9, t10⟩
 by_cases hjt : j < d.cons.length
 case neg =>
  have hje : j = d.cons.length := by omega
  rw [hje, oU] at hY
  have hs := wa6 h
  have hjl := qD (d.cons.map fK) (⟨#[32, 124, 32]⟩ : ByteArray) (by decide)
  have gr := Grow.raise hG.fresh 9 aA
  have hjn := zL (S := S1.raise 9) (.inl hY.is) (⟨#[32, 124, 32]⟩ : ByteArray) (by rw [eE]; omega) (by omega)
  have a1 : ((⟨#[116, 121, 112, 101, 32]⟩ : ByteArray)).size + d.name.size ≤ 2 ^ 62 := by simp only [dE, aY, bH]; omega
  have a2 : ((⟨#[116, 121, 112, 101, 32]⟩ : ByteArray) ++ d.name).size + ((⟨#[32, 61, 32]⟩ : ByteArray)).size ≤ 2 ^ 62 := by simp only [dQ, dE, aY, bH]; omega
  have a3 : (((⟨#[116, 121, 112, 101, 32]⟩ : ByteArray) ++ d.name) ++ (⟨#[32, 61, 32]⟩ : ByteArray)).size + (eO (d.cons.map fK) (⟨#[32, 124, 32]⟩ : ByteArray)).size ≤ 2 ^ 62 := by simp only [dQ, dE, aY, bH]; omega
  have a4 : ((((⟨#[116, 121, 112, 101, 32]⟩ : ByteArray) ++ d.name) ++ (⟨#[32, 61, 32]⟩ : ByteArray)) ++ eO (d.cons.map fK) (⟨#[32, 124, 32]⟩ : ByteArray)).size + ((⟨#[32, 105, 110, 32]⟩ : ByteArray)).size ≤ 2 ^ 62 := by simp only [dQ, dE, aY, bH]; omega
  simp only [SXa, b63_10, t9, t10, bO hjt]
  refine kK noX jf6 ?_
  simp only [SXa, Nat.reduceEqDiff, P63, t1, t3, aE, eG, hD, uK, aG, aD, aM, cS _ _ _ _ _ a1, cS _ _ _ _ _ a2]
  refine cC hjn ?_
  simp only [SXa, Nat.reduceEqDiff, cS _ _ _ _ _ a3, cS _ _ _ _ _ a4, gF, gG, lE hn gr, bY]
  exact ⟨rfl, hG.two gr⟩
 case pos =>
 have wj := cG hjt (by omega)
 have hc := hcs _ (fE hjt)
 obtain ⟨l1, l2⟩ := wp3 hc
 have hG4 := (hG.born 78 zC).put S1.no (.cells (cH d.cons[j])) hG.no
 have h4 : ((S1.born 78 zC).put S1.no (.cells (cH d.cons[j]))).obj S1.no = some (cH d.cons[j]) := by simp [aX]
 have hD4 : ((S1.born 78 zC).put S1.no (.cells (cH d.cons[j]))).obj S.no = some [.sc (.string d.name), kT d] := by
  have : S.no ≠ S1.no := by omega
  simp [aX, bE, this, hD]
 have gr4 : Grow S1 ((S1.born 78 zC).put S1.no (.cells (cH d.cons[j]))) aA := ((Grow.refl hG.fresh aA).born _ _).put S1.no _ (aB _)
 simp only [cH, zC] at hG4 h4 hD4 gr4
 simp only [SXa, Nat.reduceEqDiff, Nat.reduceAdd, b63_10, P63, t8, t9, t10, bL hjt, rO hjt, cH, wx0, stC, bE, aD, aF, aB, dM]
 generalize ((S1.born 78 [.sc (.string ⟨#[]⟩), .sc (.slice none 0 0)]).put S1.no (.cells [.sc (.string d.cons[j].name), (kV d.cons[j])])) = S4 at hG4 h4 hD4 gr4
 have hn4 := aU hn gr4.no
 have etk : (d.cons.take j).map fK ++ [fK d.cons[j]] = (d.cons.take (j + 1)).map fK := by
  rw [qS hjt, lR, cF, jQ]
 simp only [SXa, Nat.reduceEqDiff, P63, aE, h4, uL, oE, aG, aD, aM, aF, mD]
 obtain ⟨Z, S5, ap, hZ, hNZ, hG5, no5, ob5, _⟩ := mO (hY.keep gr4) hN hG4 (pN (fK d.cons[j])) (by rw [eE, eW, aY, bH]; omega)
 rw [etk] at hZ
 have hD5 : S5.obj S.no = some [.sc (.string d.name), kT d] := by rw [ob5]; exact hD4
 have hn5 : S.no < S5.no := by rw [no5]; exact hn4
 cases ha : d.cons[j].args with
 | nil =>
  have ec : fK d.cons[j] = d.cons[j].name := by simp only [fK, ha]
  rw [ec] at ap
  have c0 : decide ((0 : Int) < ((0 : Nat) : Int)) = false := rfl
  simp only [SXa, Nat.reduceEqDiff, Nat.reduceBEq, P63, t1, t3, t8, t9, t10, c0, kX, ap, wj]
  exact ⟨d.cons.length - (j + 1), by omega, j + 1, Z, by omega, rfl, hZ, hNZ, hD5, hG5, hn5, by simp []⟩
 | cons a r =>
  have ec : fK d.cons[j] = d.cons[j].name ++ ((⟨#[32, 111, 102, 32]⟩ : ByteArray) ++ eO d.cons[j].args (⟨#[44, 32]⟩ : ByteArray)) := by simp only [fK, ha]
  have hjl := qD d.cons[j].args (⟨#[44, 32]⟩ : ByteArray) (by decide)
  have hjn := zL (S := S4) (.inl (isAr d.cons[j])) (⟨#[44, 32]⟩ : ByteArray) (by omega) (by omega)
  have a1 : ((⟨#[32, 111, 102, 32]⟩ : ByteArray)).size + (eO d.cons[j].args (⟨#[44, 32]⟩ : ByteArray)).size ≤ 2 ^ 62 := by simp only [dE, aY, bH]; omega
  have a2 : d.cons[j].name.size + ((⟨#[32, 111, 102, 32]⟩ : ByteArray) ++ eO d.cons[j].args (⟨#[44, 32]⟩ : ByteArray)).size ≤ 2 ^ 62 := by simp only [dQ, dE, aY, bH]; omega
  rw [ec] at ap
  have c0 : decide ((0 : Int) < (((a :: r).length : Nat) : Int)) = true := by
   rw [bZ]
   simp only [aY]; omega
  generalize (a :: r).length = q at c0
  simp only [SXa, Nat.reduceEqDiff, P63, c0, aE, h4, oE, aG, aD, aF]
  refine cC hjn ?_
  simp only [SXa, Nat.reduceEqDiff, Nat.reduceBEq, P63, t1, t3, t8, t9, t10, cS _ _ _ _ _ a1, cS _ _ _ _ _ a2, kX, ap, wj]
  exact ⟨d.cons.length - (j + 1), by omega, j + 1, Z, by omega, rfl, hZ, hNZ, hD5, hG5, hn5, by simp []⟩
end Go.Proofs.YthjaoinieikjdaaGreatDoor
