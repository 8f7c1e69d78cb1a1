/-
  The document's own trees in plain terms: what is free.
-/
import Derived.Test.YthjaoinieikjdaaGreatDoorUBJ
import Derived.Test.YthjaoinieikjdaaGreatDoorUBG
import Derived.Test.YthjaoinieikjdaaGreatDoorUBN
import Derived.Test.YthjaoinieikjdaaGreatDoorUBK
set_option maxHeartbeats 32000000
set_option linter.unusedSimpArgs false
set_option linter.unusedVariables false
set_option maxRecDepth 100000
namespace Go.Proofs.YthjaoinieikjdaaGreatDoor
open Go.Abs
theorem zZ : ∀ a : List UInt8, Op.bytesLess a a = false
 | [] => rfl
 | x :: r => by
  have := zZ r
  simp [Op.bytesLess, this]
theorem wb0 : ∀ {a b c : List UInt8}, Op.bytesLess a b = true → Op.bytesLess b c = true → Op.bytesLess a c = true
 | [], [], c, h1, h2 => by cases h1
 | [], y :: b, [], h1, h2 => by cases h2
 | [], y :: b, z :: c, h1, h2 => rfl
 | x :: a, [], c, h1, h2 => by cases h1
 | x :: a, y :: b, [], h1, h2 => by cases h2
 | x :: a, y :: b, z :: c, h1, h2 => by
  simp only [Op.bytesLess, eF, bZ, aS, gD, UInt8.lt_iff_toNat_lt] at h1 h2 ⊢
  rcases h1 with h1 | ⟨rfl, h1⟩
  · rcases h2 with h2 | ⟨rfl, h2⟩
    · exact .inl (by omega)
    · exact .inl h1
  · rcases h2 with h2 | ⟨rfl, h2⟩
    · exact .inl h2
    · exact .inr ⟨rfl, wb0 h1 h2⟩
theorem bl_tri : ∀ {a b : List UInt8}, Op.bytesLess a b = false → a ≠ b → Op.bytesLess b a = true
 | [], [], h, hne => absurd rfl hne
 | [], y :: b, h, hne => by cases h
 | x :: a, [], h, hne => rfl
 | x :: a, y :: b, h, hne => by
  simp only [Op.bytesLess, oQ, dP, Bool.and_eq_false_iff, nE, UInt8.lt_iff_toNat_lt] at h
  simp only [Op.bytesLess, eF, bZ, aS, gD, UInt8.lt_iff_toNat_lt]
  obtain ⟨h1, h2⟩ := h
  by_cases hxy : x = y
  · subst hxy
    rcases h2 with h2 | h2
    · exact absurd rfl h2
    · exact .inr ⟨rfl, bl_tri h2 fun e => hne (by rw [e])⟩
  · refine .inl ?_
    have : x.toNat ≠ y.toNat := fun e => hxy (UInt8.toNat_inj.1 e)
    omega
def qR (l : List ByteArray) : Prop := l.Pairwise fun a b => Op.bytesLess a.toList b.toList = true
theorem wr8 : ∀ {a b : List ByteArray}, qR a → qR b → (∀ s, s ∈ a ↔ s ∈ b) → a = b
 | [], [], _, _, _ => rfl
 | [], y :: b, _, _, h => by have := (h y).2 (jL ..); cases this
 | x :: a, [], _, _, h => by have := (h x).1 (jL ..); cases this
 | x :: a, y :: b, h1, h2, h => by
  obtain ⟨p1, q1⟩ := List.pairwise_cons.1 h1
  obtain ⟨p2, q2⟩ := List.pairwise_cons.1 h2
  have hxy : x = y := by
   rcases List.mem_cons.1 ((h x).1 (jL ..)) with e | e
   · exact e
   · rcases List.mem_cons.1 ((h y).2 (jL ..)) with e2 | e2
     · exact e2.symm
     · have := wb0 (p2 x e) (p1 y e2)
       rw [zZ] at this
       cases this
  subst hxy
  rw [wr8 q1 q2 fun s => ?_]
  constructor
  · intro hs
    rcases List.mem_cons.1 ((h s).1 (kZ _ hs)) with e | e
    · subst e
      have := p1 s hs
      rw [zZ] at this
      cases this
    · exact e
  · intro hs
    rcases List.mem_cons.1 ((h s).2 (kZ _ hs)) with e | e
    · subst e
      have := p2 s hs
      rw [zZ] at this
      cases this
    · exact e
def jZ (s : ByteArray) : List ByteArray → Nat
 | [] => 0
 | x :: r => bif Op.bytesLess x.toList s.toList then jZ s r + 1 else 0
theorem ko9 (s : ByteArray) : ∀ l : List ByteArray, jZ s l ≤ l.length
 | [] => aB _
 | x :: r => by
  have := ko9 s r
  unfold jZ
  cases Op.bytesLess x.toList s.toList <;> simp <;> omega
def jF (s : ByteArray) (l : List ByteArray) : List ByteArray :=
 bif (match l[jZ s l]? with | some y => y.toList == s.toList | none => false) then l else (l.take (jZ s l) ++ [s]) ++ l.drop (jZ s l)
theorem xm6 (s : ByteArray) : jF s [] = [s] := rfl
theorem xd2 (s x : ByteArray) (r : List ByteArray) : jF s (x :: r) = bif Op.bytesLess x.toList s.toList then x :: jF s r else bif x.toList == s.toList then x :: r else s :: x :: r := by
 unfold jF
 cases h : Op.bytesLess x.toList s.toList with
 | true =>
  have e : jZ s (x :: r) = jZ s r + 1 := by rw [jZ, h]; rfl
  rw [e]
  simp only [List.getElem?_cons_succ, List.take_succ_cons, rQ, nS, aH]
  cases (match r[jZ s r]? with | some y => y.toList == s.toList | none => false) <;> rfl
 | false =>
  have e : jZ s (x :: r) = 0 := by rw [jZ, h]; rfl
  rw [e]
  simp only [List.getElem?_cons_zero, List.take_zero, cJ, mL, aK, nS]
theorem mem_insertF {s y : ByteArray} : ∀ {l : List ByteArray}, y ∈ jF s l ↔ y = s ∨ y ∈ l
 | [] => by rw [xm6]; simp
 | x :: r => by
  rw [xd2]
  cases Op.bytesLess x.toList s.toList with
  | true =>
   rw [aH, jP, mem_insertF (l := r), jP]
   constructor
   · rintro (h | h | h)
     · exact .inr (.inl h)
     · exact .inl h
     · exact .inr (.inr h)
   · rintro (h | h | h)
     · exact .inr (.inl h)
     · exact .inl h
     · exact .inr (.inr h)
  | false =>
   rw [aK]
   cases hb : (x.toList == s.toList) with
   | true =>
    have : x = s := beq_b.1 (by rw [← eqL]; exact hb)
    subst this
    rw [aH]
    constructor
    · exact .inr
    · rintro (rfl | h)
      · exact jL ..
      · exact h
   | false => rw [aK, jP]
theorem xc3 (s : ByteArray) : ∀ {l : List ByteArray}, qR l → qR (jF s l)
 | [], h => by rw [xm6]; exact List.pairwise_singleton _ _
 | x :: r, h => by
  obtain ⟨p, q⟩ := List.pairwise_cons.1 h
  rw [xd2]
  cases hb : Op.bytesLess x.toList s.toList with
  | true =>
   rw [aH]
   refine List.pairwise_cons.2 ⟨fun y hy => ?_, xc3 s q⟩
   rcases mem_insertF.1 hy with rfl | hy
   · exact hb
   · exact p y hy
  | false =>
   rw [aK]
   cases he : (x.toList == s.toList) with
   | true => exact h
   | false =>
    rw [aK]
    have hsx := bl_tri hb (by simpa using he)
    refine List.pairwise_cons.2 ⟨fun y hy => ?_, h⟩
    rcases List.mem_cons.1 hy with rfl | hy
    · exact hsx
    · exact wb0 hsx (p y hy)
theorem wn3 (s : ByteArray) (l : List ByteArray) : (jF s l).length ≤ l.length + 1 := by
 have := ko9 s l
 unfold jF
 cases (match l[jZ s l]? with | some y => y.toList == s.toList | none => false)
 · simp only [aK, dL, eW, mK, aY, bH]; omega
 · simp
def mT (g : Nat → List ByteArray → List ByteArray → List ByteArray) (b : Nat → List ByteArray) (bd : List ByteArray) : List Int → Nat → List ByteArray → List ByteArray
 | [], _, l => l
 | k :: r, i, l => mT g b bd r (i + 1) (g k.toNat (bd ++ b i) l)
def lX (ns : List NodeV) : Nat → Nat → List ByteArray → List ByteArray → List ByteArray
 | 0, _, _, l => l
 | f + 1, a, bd, l => match ns[a]? with
  | some x => bif x.kind == 4 then (bif fD bd x.name then l else jF x.name l) else mT (lX ns f) (dU ns x) bd x.kids 0 l
  | none => l
theorem hasF_mem {l : List ByteArray} {s : ByteArray} : fD l s = true ↔ s ∈ l := by
 simp only [fD, eqL, List.any_eq_true, beq_b]
 constructor
 · rintro ⟨x, hx, rfl⟩; exact hx
 · intro h; exact ⟨s, h, rfl⟩
theorem wt2 {s y : ByteArray} : ∀ {ks : List ByteArray}, ks.Nodup → (y ∈ nQ s ks ↔ y ∈ ks ∧ y ≠ s)
 | [], h => by simp [nQ]
 | k :: r, h => by
  obtain ⟨h1, h2⟩ := List.nodup_cons.1 h
  unfold nQ
  cases hb : (s == k) with
  | true =>
   have := beq_b.1 hb
   subst this
   rw [aH, jP]
   constructor
   · intro hy
     exact ⟨.inr hy, fun e => h1 (e ▸ hy)⟩
   · rintro ⟨hy | hy, hne⟩
     · exact absurd hy hne
     · exact hy
  | false =>
   have hne : s ≠ k := fun e => by rw [← beq_b, hb] at e; cases e
   rw [aK, jP, wt2 h2, jP]
   constructor
   · rintro (rfl | ⟨hy, hn⟩)
     · exact ⟨.inl rfl, fun e => hne e.symm⟩
     · exact ⟨.inr hy, hn⟩
   · rintro ⟨rfl | hy, hn⟩
     · exact .inl rfl
     · exact .inr ⟨hy, hn⟩
theorem we9 {y : ByteArray} : ∀ (l : List ByteArray) {ks : List ByteArray}, ks.Nodup → (y ∈ mE l ks ↔ y ∈ ks ∧ y ∉ l)
 | [], ks, h => by simp [mE]
 | s :: r, ks, h => by
  have e : mE (s :: r) ks = mE r (nQ s ks) := rfl
  rw [e, we9 r ((yE s ks).nodup h), wt2 h, jP]
  constructor
  · rintro ⟨⟨h1, h2⟩, h3⟩
    exact ⟨h1, fun hh => hh.elim h2 h3⟩
  · rintro ⟨h1, h2⟩
    exact ⟨⟨h1, fun e => h2 (.inl e)⟩, fun e => h2 (.inr e)⟩
theorem yx0 {fr b : Nat → List ByteArray} (hf : ∀ a, (fr a).Nodup) {s : ByteArray} : ∀ (l : List Int) (i : Nat) (out : List ByteArray), s ∈ jI fr b l i out ↔ s ∈ out ∨ ∃ j, ∃ hj : j < l.length, s ∈ fr l[j].toNat ∧ s ∉ b (i + j)
 | [], i, out => by simp [jI]
 | k :: r, i, out => by
  rw [jI, yx0 hf r (i + 1), mem_unionB, we9 _ (hf _)]
  constructor
  · rintro ((h | ⟨h1, h2⟩) | ⟨j, hj, h1, h2⟩)
    · exact .inl h
    · exact .inr ⟨0, by simp, h1, h2⟩
    · exact .inr ⟨j + 1, by simp; omega, by simpa using h1, by rw [show i + (j + 1) = i + 1 + j by omega]; exact h2⟩
  · rintro (h | ⟨j, hj, h1, h2⟩)
    · exact .inl (.inl h)
    · cases j with
      | zero => exact .inl (.inr ⟨h1, h2⟩)
      | succ j => exact .inr ⟨j, by simpa using hj, by simpa using h1, by rw [show i + 1 + j = i + (j + 1) by omega]; exact h2⟩
structure FreeOk (fr : List ByteArray) (g : List ByteArray → List ByteArray → List ByteArray) (n : Nat) : Prop where
 mem : ∀ bd l s, s ∈ g bd l ↔ s ∈ l ∨ (s ∈ fr ∧ s ∉ bd)
 rise : ∀ bd l, qR l → qR (g bd l)
 len : ∀ bd l, (g bd l).length ≤ l.length + n
theorem wd8 {w : Bool → Nat → Option Nat} {fr : Nat → List ByteArray} {g : Nat → List ByteArray → List ByteArray → List ByteArray} (b : Nat → List ByteArray) (hw : ∀ p a z, w p a = some z → a < z) (ih : ∀ p a z, w p a = some z → FreeOk (fr a) (g a) (z - a)) {pat m : Bool} (bd : List ByteArray) :
 ∀ (l : List Int) (i nx z : Nat), bV w pat m l i nx = some z → ∀ o : List ByteArray,
  (∀ s, s ∈ mT g b bd l i o ↔ s ∈ o ∨ ∃ j, ∃ hj : j < l.length, s ∈ fr l[j].toNat ∧ s ∉ b (i + j) ∧ s ∉ bd) ∧ (qR o → qR (mT g b bd l i o)) ∧ (mT g b bd l i o).length ≤ o.length + (z - nx)
 | [], i, nx, z, h, o => by simp [mT]
 | k :: r, i, nx, z, h, o => by
  obtain ⟨rfl, q, hq, h⟩ := pY h
  have hlt := hw _ _ _ hq
  have hle := tJ hw r (i + 1) q z h
  obtain ⟨m1, m2, m3⟩ := ih _ _ _ hq
  obtain ⟨n1, n2, n3⟩ := wd8 b hw ih bd r (i + 1) q z h (g nx (bd ++ b i) o)
  rw [mT, gN]
  refine ⟨fun s => ?_, fun ho => n2 (m2 _ _ ho), ?_⟩
  · rw [n1, m1, nF]
    constructor
    · rintro ((h | ⟨h1, h2⟩) | ⟨j, hj, h1, h2, h3⟩)
      · exact .inl h
      · exact .inr ⟨0, by simp, h1, fun e => h2 (.inr e), fun e => h2 (.inl e)⟩
      · exact .inr ⟨j + 1, by simp; omega, by simpa using h1, by rw [show i + (j + 1) = i + 1 + j by omega]; exact h2, h3⟩
    · rintro (h | ⟨j, hj, h1, h2, h3⟩)
      · exact .inl (.inl h)
      · cases j with
        | zero => exact .inl (.inr ⟨h1, fun e => e.elim h3 h2⟩)
        | succ j => exact .inr ⟨j, by simpa using hj, by simpa using h1, by rw [show i + 1 + j = i + (j + 1) by omega]; exact h2, h3⟩
  · have := m3 (bd ++ b i) o
    omega
theorem kw7 {ds : List DeclV} {x : NodeV} (hk : x.kind = 4) (ha : eT ds x = true) : x.kids = [] := by
 unfold eT at ha
 simp only [bB] at ha
 split at ha
 · cases ha
 · split at ha
   · cases ha
   · rename_i h2
     simp only [lM, hk, Int.reduceBEq, dD, aK, bK, fU, eF, bZ, not_or] at h2
     exact List.length_eq_zero_iff.1 (by omega)
theorem xk4 (ns : List NodeV) (ds : List DeclV) : ∀ (d f : Nat), d ≤ f → ∀ (pat : Bool) (a z : Nat), bC ns ds d pat a = some z → FreeOk (gL ns f a) (lX ns f a) (z - a)
 | 0, f, h1, pat, a, z, h => by cases h
 | d + 1, 0, h1, pat, a, z, h => by omega
 | d + 1, f + 1, h1, pat, a, z, h => by
  obtain ⟨hlt, hp, ha, hk⟩ := oZ h
  have hbd := cT _ _ _ _ _ _ h
  have ih := fun p a z hw => xk4 ns ds d f (by omega) p a z hw
  have e1 : gL ns (f + 1) a = jI (gL ns f) (dU ns ns[a]) ns[a].kids 0 (bif ns[a].kind == 4 then [ns[a].name] else []) := by rw [gL, cX hlt]
  have e2 : ∀ bd l, lX ns (f + 1) a bd l = bif ns[a].kind == 4 then (bif fD bd ns[a].name then l else jF ns[a].name l) else mT (lX ns f) (dU ns ns[a]) bd ns[a].kids 0 l := fun bd l => by rw [lX, cX hlt]
  cases c : (ns[a].kind == 4) with
  | true =>
   have hk4 : ns[a].kind = 4 := by simpa using c
   rw [c, kw7 hk4 ha] at e1
   have e1 : gL ns (f + 1) a = [ns[a].name] := e1
   have e2 : ∀ bd l, lX ns (f + 1) a bd l = bif fD bd ns[a].name then l else jF ns[a].name l := fun bd l => by rw [e2, c, aH]
   rw [e1]
   refine ⟨fun bd l s => ?_, fun bd l hl => ?_, fun bd l => ?_⟩
   · rw [e2, List.mem_singleton]
     cases hb : fD bd ns[a].name with
     | true =>
      have := hasF_mem.1 hb
      rw [aH]
      constructor
      · exact .inl
      · rintro (h | ⟨rfl, h⟩)
        · exact h
        · exact absurd this h
     | false =>
      have hn : ns[a].name ∉ bd := fun e => by rw [← hasF_mem, hb] at e; cases e
      rw [aK, mem_insertF]
      constructor
      · rintro (rfl | h)
        · exact .inr ⟨rfl, hn⟩
        · exact .inl h
      · rintro (h | ⟨rfl, _⟩)
        · exact .inr h
        · exact .inl rfl
   · rw [e2]
     cases fD bd ns[a].name with
     | true => exact hl
     | false => exact xc3 _ hl
   · rw [e2]
     have := wn3 ns[a].name l
     cases fD bd ns[a].name
     · simp only [aK]; omega
     · simp
  | false =>
   rw [c, aK] at e1
   have e2 : ∀ bd l, lX ns (f + 1) a bd l = mT (lX ns f) (dU ns ns[a]) bd ns[a].kids 0 l := fun bd l => by rw [e2, c, aK]
   have hh := fun bd o => wd8 (dU ns ns[a]) (tK ns ds d) ih bd _ 0 (a + 1) z hk o
   refine ⟨fun bd l s => ?_, fun bd l hl => ?_, fun bd l => ?_⟩
   · rw [e2, (hh bd l).1, e1, yx0 (yu0 ns f)]
     constructor
     · rintro (h | ⟨j, hj, h1, h2, h3⟩)
       · exact .inl h
       · exact .inr ⟨.inr ⟨j, hj, h1, h2⟩, h3⟩
     · rintro (h | ⟨h | ⟨j, hj, h1, h2⟩, h3⟩)
       · exact .inl h
       · cases h
       · exact .inr ⟨j, hj, h1, h2, h3⟩
   · rw [e2]; exact (hh bd l).2.1 hl
   · rw [e2]
     have := (hh bd l).2.2
     omega
theorem wy7 {ks : List ByteArray} (h : ks.Nodup) : qR (pH ks) := by
 have hs := wd0 ks
 have hn : (pH ks).Nodup := (yz5 ks).symm.nodup h
 unfold qR
 refine List.pairwise_iff_getElem.2 fun i j hi hj hij => ?_
 rw [toL, toL]
 refine xe1 (List.pairwise_iff_getElem.1 hs i j hi hj hij) fun e => ?_
 exact List.pairwise_iff_getElem.1 hn i j hi hj hij (xb5 e)
theorem ky7 {ns : List NodeV} {ds : List DeclV} {d : Nat} {pat : Bool} {a z : Nat} (hd : d ≤ 60) (h : bC ns ds d pat a = some z) : lX ns 60 a [] [] = pH (gL ns 60 a) := by
 obtain ⟨m1, m2, _⟩ := xk4 ns ds d 60 hd pat a z h
 refine wr8 (m2 [] [] List.Pairwise.nil) (wy7 (yu0 ns 60 a)) fun s => ?_
 rw [m1, km7]
 simp
theorem ku6 {S : St} (t : TypeId) (x y : Operand) (a b : ByteArray) : cQ E .lss t x y (.sc (.string a)) (.sc (.string b)) S = some (.sc (.bool (Op.bytesLess a.toList b.toList)), S) := rfl
theorem bsl0 (S : St) : gE E 31 0 [] S = some (.vec 1 1 (aN []), S) := by kernel_rfl
theorem own0 (S : St) : OwnV S 9 1 (.vec 1 1 (aN [])) (aN []) := .inr ⟨1, rfl, .inl rfl⟩
theorem new0 (S : St) : cY S (.vec 1 1 (aN [])) := .inr (.inl ⟨_, _, rfl⟩)
theorem cut_hi {x : AV} {l : List ByteArray} (h : IsV 1 x (aN l)) {k : Nat} (hk : k ≤ l.length) (S : St) : fN E 31 x none (some (.sc (.int .i64 (k : Nat)))) S = some (rL x 0 k, S) := h.slice sl31 (by rw [lS]; exact vL hk) S
theorem cut_lo {x : AV} {l : List ByteArray} (h : IsV 1 x (aN l)) {k : Nat} (hk : k ≤ l.length) (S : St) : fN E 31 x (some (.sc (.int .i64 (k : Nat)))) none S = some (rL x k l.length, S) := h.slice sl31 (by rw [lS]; exact xp6 hk) S
theorem is_hi {x : AV} {l : List ByteArray} (h : IsV 1 x (aN l)) {k : Nat} (hk : k ≤ l.length) : IsV 1 (rL x 0 k) (aN (l.take k)) := by
 have := h.sub 0 k (by rw [lS]; exact hk)
 simpa [aN] using this
theorem is_lo {x : AV} {l : List ByteArray} (h : IsV 1 x (aN l)) {k : Nat} (hk : k ≤ l.length) : IsV 1 (rL x k l.length) (aN (l.drop k)) := by
 have := h.sub k l.length (by rw [lS]; exact aB _)
 rw [qT (by rw [mK, lS]; exact aB _)] at this
 simpa [aN] using this
theorem wz8 (l : List ByteArray) (x : AV) (hx : IsV 1 x (aN l)) (hl : l.length ≤ 2 ^ 30) (s : ByteArray) (S : St) (hS : S.Fresh) : ∃ r S', EvA E 121 [x, .sc (.string s)] S r S' ∧ IsV 1 r (aN (jF s l)) ∧ Grow S S' aA := by
 refine ev121 rfl ?_
 have fin : ∀ (tm : PM AV) (k : Nat), k ≤ l.length → jZ s l = k → getT tm 0 = x → getT tm 1 = .sc (.string s) → getT tm 5 = .sc (.int .i64 (k : Int)) → aV E 45 [.c (PC.seq (.seq (.reg r121_5) (.cond (.tmp 31) (.seq (.reg r121_6) .ret) .skip)) (.seq (.draw d121_0) .ret))] .nrm tm S (kB E [.tmp 4] fun r S' => IsV 1 r (aN (jF s l)) ∧ Grow S S' aA) := fun tm k hk hK t0 t1 t5 => by
  have draw : ∀ tm : PM AV, (match l[k]? with | some y => y.toList == s.toList | none => false) = false → getT tm 0 = x → getT tm 1 = .sc (.string s) → getT tm 5 = .sc (.int .i64 (k : Int)) → aV E 45 [.c (.draw d121_0), .c .ret] .nrm tm S (kB E [.tmp 4] fun r S' => IsV 1 r (aN (jF s l)) ∧ Grow S S' aA) := fun tm hm t0 t1 t5 => by
   have e : jF s l = (l.take k ++ [s]) ++ l.drop k := by
    unfold jF
    rw [hK]
    cases hq : l[k]? with
    | none => rfl
    | some y =>
     have hm : (y.toList == s.toList) = false := by rw [hq] at hm; exact hm
     simp only [hm, aK]
   rw [e]
   refine kK noX kt0 ?_
   have hG := rH (Grow.refl hS aA) 13
   obtain ⟨Z1, S1, a1, o1, n1, g1, _, _, _⟩ := mO (own0 (S.raise 13)) (new0 S) hG (is_hi hx hk) (by rw [eW]; simp only [bH]; omega)
   rw [mL] at o1
   obtain ⟨Z2, S2, a2, o2, n2, g2, _, _, _⟩ := mO o1 n1 g1 (pN s) (by rw [eW]; simp only [aY, bH]; omega)
   obtain ⟨Z3, S3, a3, o3, n3, g3, _, _, _⟩ := mO o2 n2 g2 (is_lo hx hk) (by simp only [dL, eW, mK, aY, bH]; omega)
   simp only [SXa, reduceCtorEq, Nat.reduceEqDiff, Nat.reduceBEq, P121, t0, t1, t5, bsl0, cut_hi hx hk, a1, kX, a2, cut_lo hx hk, a3, gF, gG, ki1 hx, bY]
   exact ⟨o3.is, g3⟩
  by_cases hlt : k < l.length
  · cases hb : (l[k].toList == s.toList) with
    | true =>
     have e : jF s l = l := by
      unfold jF
      rw [hK, cX hlt]
      simp only [hb, aH]
     simp only [SXa, reduceCtorEq, Nat.reduceEqDiff, P121, t0, t1, t5, iG hx, bL hlt, iY hx hlt, hb]
     exact ⟨by rw [e]; exact hx, Grow.refl hS _⟩
    | false =>
     simp only [SXa, reduceCtorEq, Nat.reduceEqDiff, P121, t0, t1, t5, iG hx, bL hlt, iY hx hlt, hb]
     exact draw _ (by rw [cX hlt]; simp only [hb]) (by simp [aO, t0]) (by simp [aO, t1]) (by simp [aO, t5])
  · simp only [SXa, reduceCtorEq, Nat.reduceEqDiff, P121, t0, t5, iG hx, bO hlt]
    exact draw _ (by rw [mJ (by omega)]) (by simp [aO, t0]) (by simp [aO, t1]) (by simp [aO, t5])
 unfold p121
 generalize hT : (PC.seq (.seq (.reg r121_5) (.cond (.tmp 31) (.seq (.reg r121_6) .ret) .skip)) (.seq (.draw d121_0) .ret)) = T at fin ⊢
 simp only [SXa, Nat.reduceAdd]
 refine bX (fun tm S' N => S' = S ∧ ∃ k : Nat, k ≤ l.length ∧ N = l.length - k ∧ jZ s l = k + jZ s (l.drop k) ∧ getT tm 0 = x ∧ getT tm 1 = .sc (.string s) ∧ getT tm 5 = .sc (.int .i64 (k : Int))) l.length ⟨rfl, 0, by omega, by omega, by rw [cJ]; omega, by simp [aO]⟩ ?_
 rintro tm S' N ⟨rfl, k, hk, rfl, hK, t0, t1, t5⟩
 by_cases hlt : k < l.length
 · have wk := cG hlt (by omega)
   rw [dJ hlt, jZ] at hK
   cases hb : Op.bytesLess l[k].toList s.toList with
   | true =>
    rw [hb, aH] at hK
    simp only [SXa, reduceCtorEq, Nat.reduceEqDiff, b121_4, P121, t0, t1, t5, iG hx, bL hlt, iY hx hlt, ku6, hb, wk]
    exact ⟨l.length - (k + 1), by omega, k + 1, by omega, rfl, by omega, by simp []⟩
   | false =>
    rw [hb, aK] at hK
    simp only [SXa, reduceCtorEq, Nat.reduceEqDiff, b121_4, P121, t0, t1, t5, iG hx, bL hlt, iY hx hlt, ku6, hb]
    exact fin _ k hk hK (by simp [aO, t0]) (by simp [aO, t1]) (by simp [aO, t5])
 · have hke : k = l.length := by omega
   have hK : jZ s l = k := by rw [hK, rP (by omega)]; rfl
   simp only [SXa, reduceCtorEq, Nat.reduceEqDiff, b121_4, P121, t0, t5, iG hx, bO hlt]
   exact fin _ k hk hK (by simp [aO, t0]) (by simp [aO, t1]) (by simp [aO, t5])
theorem wv5 (i : Nat) : (((i : Nat) : Int).tmod 2 == 0) = !cN ((i : Nat) : Int) := by
 have : ((i : Nat) : Int).tmod 2 = ((i % 2 : Nat) : Int) := rfl
 rw [pV]
 simp only [cN, this, gD, jB, nE]
 omega
theorem kz1 (t : TreeV) (nx tx : AV) (ht : RIs nx tx t) (d : Nat) (hd : d ≤ 60) (pat : Bool) (a z i : Nat) (x : NodeV) (hx : x ∈ t.nodes) (hw : bV (bC t.nodes t.types d) pat (x.kind == 11) x.kids 0 (a + 1) = some z) (hi : i < x.kids.length) (S : St) (hS : S.Fresh) :
 ∃ r S', EvA E 92 [.agg [nx, tx], .agg (aL x), .sc (.int .i64 (i : Nat))] S r S' ∧ IsV 1 r (aN (dU t.nodes x i)) ∧ Grow S S' aA := by
 have hkl := ht.lk x hx
 refine ev92 rfl ?_
 have hG := ((Grow.refl hS aA).born 52 [nx, tx]).born 69 (aL x)
 have hN : ((S.born 52 [nx, tx]).born 69 (aL x)).obj (S.no + 1) = some (aL x) := by simp [bE, lG]
 have hT : ((S.born 52 [nx, tx]).born 69 (aL x)).obj S.no = some [nx, tx] := by simp [bE, lG]
 have hn : S.no + 1 < ((S.born 52 [nx, tx]).born 69 (aL x)).no := by simp only [lG]; omega
 simp only [SXa, reduceCtorEq, Nat.reduceEqDiff, Nat.reduceAdd, P92, dT, dZ, lG]
 generalize (S.born 52 [nx, tx]).born 69 (aL x) = S0 at hG hN hT hn
 simp only [aL] at hN
 have hpos : decide (0 < ((i : Nat) : Int)) = true → 0 < i := fun h => by simpa using h
 have wi : 0 < i → IntKind.i64.wrap ((i : Int) - 1) = ((i - 1 : Nat) : Int) := fun h => by rw [wrap_i64 (by omega) (by omega)]; omega
 cases k6 : (x.kind == 6) <;> cases k20 : (x.kind == 20) <;> cases k8 : (x.kind == 8) <;> cases k9 : (x.kind == 9) <;> cases k11 : (x.kind == 11) <;> cases ci : (((i : Nat) : Int) == 1) <;> cases cp : decide (0 < ((i : Nat) : Int))
 all_goals simp only [SXa, reduceCtorEq, Nat.reduceEqDiff, Nat.reduceBEq, P92, hN, aE, bP, aG, aD, aM, aF, kX, bsl2, hrem, wv5, k6, k20, k8, k9, k11, ci, cp]
 all_goals try (first
  | exact ⟨by simp only [dU, cR, fU, cI, bK, jK, dY, aH, aK, k6, k20, k8, k9, k11, ci, cp]; exact IsV.nil 1, hG⟩
  | exact ⟨by simp only [dU, cR, fU, cI, bK, jK, dY, aH, aK, k6, k20, k8, k9, k11, ci, cp]; exact IsV.vec 1 1 _, hG⟩)
 all_goals
  have hp := hpos cp
  cases c9 : cN ((i : Nat) : Int) with
  | true =>
   simp only [SXa, reduceCtorEq, Nat.reduceEqDiff]
   exact ⟨by simp only [dU, c9, iC, fU, jK, dY, aK, k6, k20, k8, k9, k11, ci, cp]; exact IsV.nil 1, hG⟩
  | false =>
   obtain ⟨q, q1, a1, a2, a3, a4⟩ := vS (tK t.nodes t.types d) _ 0 (a + 1) z hw (i - 1) (by omega)
   have harm : cN ((0 + (i - 1) : Nat) : Int) = true := by
    have h1 := wv5 i
    have : ((i : Nat) : Int).tmod 2 = ((i % 2 : Nat) : Int) := rfl
    rw [c9, this] at h1
    simp only [kC, gD] at h1
    have h2 : (0 + (i - 1)) % 2 = 1 := by omega
    have h3 : ((0 + (i - 1) : Nat) : Int).tmod 2 = (((0 + (i - 1)) % 2 : Nat) : Int) := rfl
    rw [cN, h3, h2]; rfl
   rw [k11, harm, cI, cR] at a4
   have hgd : x.kids.getD (i - 1) 0 = ((q : Nat) : Int) := by
    have hlt : i - 1 < x.kids.length := by omega
    rw [← a1]
    simp [List.getD, hlt]
   have gr := Grow.raise hG.fresh 9 aA
   have hG3 := hG.two gr
   obtain ⟨r4, S4, e4, ⟨hY, _⟩, g4⟩ := xW t nx tx ht d 60 hd q q1 a4 (S0.raise 9) hG3.fresh
   simp only [SXa, reduceCtorEq, Nat.reduceEqDiff, Nat.reduceAdd, P92, eG, hN, hT, aE, bP, aG, aD, aF, aB, wi hp, iQ (x := x) (k := i - 1) (by omega), a1]
   refine cC e4 ?_
   simp only [SXa, reduceCtorEq, Nat.reduceEqDiff]
   exact ⟨by simp only [dU, c9, hgd, gN, kC, fU, jK, dY, aH, aK, k6, k20, k8, k9, k11, ci, cp]; exact hY.is, hG3.two g4⟩
theorem wr9 (t : TreeV) (nx tx : AV) (ht : RIs nx tx t) (ho : FewOk t) : ∀ (d f : Nat), d ≤ f → d ≤ 60 → ∀ (pat : Bool) (a z : Nat), bC t.nodes t.types d pat a = some z → ∀ (bd l : List ByteArray) (X Y : AV), IsV 1 X (aN bd) → IsV 1 Y (aN l) → bd.length + d * 2000 ≤ 1000000 → l.length + (z - a) ≤ 1000000 → ∀ (S : St), S.Fresh →
 ∃ r S', EvA E 72 [.agg [nx, tx], .sc (.int .i64 (a : Nat)), X, Y] S r S' ∧ IsV 1 r (aN (lX t.nodes f a bd l)) ∧ Grow S S' aA
 | 0, f, hf, hd, pat, a, z, h, bd, l, X, Y, hX, hY, hb, hl, S, hS => by cases h
 | d + 1, 0, hf, hd, pat, a, z, h, bd, l, X, Y, hX, hY, hb, hl, S, hS => by omega
 | d + 1, f + 1, hf, hd, pat, a, z, h, bd, l, X, Y, hX, hY, hb, hl, S, hS => by
  have hbd := cT _ _ _ _ _ _ h
  obtain ⟨hlt, hpat, hal, hw⟩ := oZ h
  have hxm := fE hlt
  obtain ⟨_, _, hkl⟩ := ho.nm _ hxm
  have hln := ho.ln
  have eb : lX t.nodes (f + 1) a bd l = bif t.nodes[a].kind == 4 then (bif fD bd t.nodes[a].name then l else jF t.nodes[a].name l) else mT (lX t.nodes f) (dU t.nodes t.nodes[a]) bd t.nodes[a].kids 0 l := by rw [lX, cX hlt]
  rw [eb]
  refine ev72 rfl ?_
  have hb1 := (Grow.refl hS aA).born 52 [nx, tx]
  have hT1 : (S.born 52 [nx, tx]).obj S.no = some [nx, tx] := by simp [bE]
  have hn1 : S.no < (S.born 52 [nx, tx]).no := bJ _
  simp only [SXa, reduceCtorEq, Nat.reduceAdd, P72, dT, dZ]
  generalize S.born 52 [nx, tx] = S1 at hb1 hT1 hn1
  have hb2 := (hb1.born 69 zN).put S1.no (.cells (aL t.nodes[a])) hb1.no
  have hN2 : ((S1.born 69 zN).put S1.no (.cells (aL t.nodes[a]))).obj S1.no = some (aL t.nodes[a]) := by simp [aX]
  have hT2 : ((S1.born 69 zN).put S1.no (.cells (aL t.nodes[a]))).obj S.no = some [nx, tx] := by
   have : S.no ≠ S1.no := by omega
   simp [aX, bE, this, hT1]
  have hn2 : S1.no < ((S1.born 69 zN).put S1.no (.cells (aL t.nodes[a]))).no := bJ _
  simp only [SXa, reduceCtorEq, Nat.reduceEqDiff, P72, hT1, aE, bP, dA, aG, aD, aM, aF, aB, iB ht.nodes hlt, lU, lT, zQ, stN, bE, oF, oB, dK]
  generalize (S1.born 69 zN).put S1.no (.cells (aL t.nodes[a])) = S2 at hb2 hN2 hT2 hn2
  have hN2' := hN2
  simp only [aL] at hN2
  simp only [SXa, reduceCtorEq, Nat.reduceEqDiff, hN2, aD]
  cases c4 : (t.nodes[a].kind == 4) with
  | true =>
   simp only [SXa, reduceCtorEq, Nat.reduceEqDiff, P72, hN2, aE, bP, aG, aD, aF]
   refine aT (kj1 bd X hX (by omega) t.nodes[a].name) hb2 (fun S3 g3 hG3 => ?_)
   have hN3 := g3.objs hN2 hn2
   cases ch : fD bd t.nodes[a].name with
   | true =>
    simp only [SXa, reduceCtorEq, Nat.reduceEqDiff]
    exact ⟨hY, hG3⟩
   | false =>
    obtain ⟨r4, S4, e4, hr4, g4⟩ := wz8 l Y hY (by omega) t.nodes[a].name S3 hG3.fresh
    simp only [SXa, reduceCtorEq, Nat.reduceEqDiff, P72, hN3, aE, bP, aG, aD, aF]
    refine cC e4 ?_
    simp only [SXa, reduceCtorEq, Nat.reduceEqDiff]
    exact ⟨hr4, hG3.two g4⟩
  | false =>
  rw [aK]
  simp only [SXa]
  refine bX (fun tm S' N => ∃ (i q : Nat) (o : List ByteArray) (W : AV), i ≤ t.nodes[a].kids.length ∧ N = t.nodes[a].kids.length - i ∧ bV (bC t.nodes t.types d) pat (t.nodes[a].kind == 11) (t.nodes[a].kids.drop i) i q = some z ∧ a < q ∧ q ≤ z ∧
   mT (lX t.nodes f) (dU t.nodes t.nodes[a]) bd (t.nodes[a].kids.drop i) i o = mT (lX t.nodes f) (dU t.nodes t.nodes[a]) bd t.nodes[a].kids 0 l ∧ IsV 1 W (aN o) ∧ o.length + (z - q) ≤ l.length + (z - a) ∧
   S'.obj S.no = some [nx, tx] ∧ S'.obj S1.no = some (aL t.nodes[a]) ∧ Grow S S' aA ∧ S1.no < S'.no ∧ getT tm 1 = .sc (.int .i64 (a : Nat)) ∧ getT tm 2 = X ∧ getT tm 3 = W ∧ getT tm 4 = .ptr S.no 0 ∧ getT tm 9 = .ptr S1.no 0 ∧ getT tm 10 = .sc (.int .i64 (i : Int))) t.nodes[a].kids.length
   ⟨0, a + 1, l, Y, by omega, by omega, by rw [cJ]; exact hw, by omega, by omega, by rw [cJ], hY, by omega, hT2, hN2', hb2, hn2, by simp [aO]⟩ ?_
  clear hN2 hN2'
  rintro tm S3 N ⟨i, q, o, W, hi, rfl, hq, haq, hqz, hfl, hW, hol, hT3, hN3', hb3, hn3, t1, t2, t3, t4, t9, t10⟩
  have hN3 := hN3'
  simp only [aL] at hN3
  by_cases hit : i < t.nodes[a].kids.length
  case neg =>
   have hie : i = t.nodes[a].kids.length := by omega
   rw [hie, fA, mT] at hfl
   simp only [SXa, Nat.reduceEqDiff, b72_11, P72, t3, t9, t10, hN3, aE, bP, aG, aD, aF, dO, bO hit]
   exact ⟨by rw [← hfl]; exact hW, hb3⟩
  case pos =>
  have wi := cG hit (by omega)
  rw [dJ hit] at hq hfl
  obtain ⟨hk, q1, hw2, hq⟩ := pY hq
  have hbq := cT _ _ _ _ _ _ hw2
  have hqz1 := tJ (tK t.nodes t.types d) _ _ _ _ hq
  rw [mT, hk, gN] at hfl
  have hbl := xw2 t.nodes t.types d (by omega) pat a z i t.nodes[a] hw hbd.2 hit
  have gr := Grow.raise hb3.fresh 17 aA
  obtain ⟨Z1, S4, a1, o1, n1, g34, no4, ob4, _⟩ := mO (own0 (S3.raise 17)) (new0 S3) gr hX (by simp only [bH]; omega)
  rw [mL] at o1
  have hT4 := g34.objs hT3 (by omega)
  have hN4' := g34.objs hN3' hn3
  obtain ⟨r5, S5, e5, hr5, g5⟩ := kz1 t nx tx ht d (by omega) pat a z i t.nodes[a] hxm hw hit S4 g34.fresh
  have g35 := g34.two g5
  obtain ⟨Z2, S6, a2, o2, n2, g36, no6, ob6, _⟩ := mO (o1.keep g5) n1 g35 hr5 (by omega)
  have hlen2 : (bd ++ dU t.nodes t.nodes[a] i).length + d * 2000 ≤ 1000000 := by rw [dL]; omega
  obtain ⟨r7, S7, e7, hr7, g7⟩ := wr9 t nx tx ht ho d f (by omega) (by omega) _ q q1 hw2 _ o Z2 W o2.is hW hlen2 (by omega) S6 g36.fresh
  have g37 := g36.two g7
  have hlen := (xk4 t.nodes t.types d f (by omega) _ q q1 hw2).len (bd ++ dU t.nodes t.nodes[a] i) o
  have hsm : S.no < S3.no := by omega
  simp only [SXa, Nat.reduceEqDiff, b72_11, P72, t9, t10, hN3, aE, bP, aG, aD, aF, dO, bL hit]
  refine kK noX jf1 ?_
  simp only [SXa, Nat.reduceEqDiff, Nat.reduceAdd, Nat.reduceBEq, P72, t2, t4, t9, t10, eG, hT3, hN3, aE, bP, aG, aD, aF, aB, iQ hit, hk, bsl0, a1, hN4', hT4, lU, lT]
  refine cC e5 ?_
  simp only [SXa, Nat.reduceEqDiff, Nat.reduceBEq, P72, t3, t4, t9, a2, gF, gG, xU, lE hsm g36, lE hn3 g36, bY]
  refine cC e7 ?_
  simp only [SXa, Nat.reduceEqDiff, t1, t2, t4, t9, t10, wi]
  exact ⟨t.nodes[a].kids.length - (i + 1), by omega, i + 1, q1, _, r7, by omega, rfl, hq, by omega, hqz1, hfl, hr7, by omega, g37.objs hT3 hsm, g37.objs hN3' hn3, hb3.two g37, aU hn3 g37.no, by simp []⟩
theorem xv6 (n : Int) (h : -9223372036854775808 ≤ n ∧ n ≤ 9223372036854775807) : (lW n).size ≤ 21 := by
 unfold lW
 rw [dE]
 exact Lib.itoa_length_le n h.1 h.2
theorem jX (a b : List UInt8) : (⟨a.toArray⟩ : ByteArray) ++ ⟨b.toArray⟩ = ⟨(a ++ b).toArray⟩ := by
 apply ByteArray.ext
 show ((⟨a.toArray⟩ : ByteArray) ++ ⟨b.toArray⟩).data = _
 rw [ByteArray.data_append]
 simp
theorem wi5 {u : Nat} (h : u < 10) : Lib.decDigits u = [UInt8.ofNat (48 + u)] := by rw [Lib.decDigits, dif_pos h]
theorem dec_big {u : Nat} (h : ¬ u < 10) : Lib.decDigits u = Lib.decDigits (u / 10) ++ Lib.decDigits (u % 10) := by
 rw [Lib.decDigits, dif_neg h, wi5 (u := u % 10) (by omega)]
theorem yR (u : Nat) : Lib.itoa ((u : Nat) : Int) = Lib.decDigits u := by
 unfold Lib.itoa
 rw [aR (by omega), gN]
theorem wa2 {u : Nat} (h : u < 10) : lW ((u : Nat) : Int) = ⟨#[UInt8.ofNat (48 + u)]⟩ := by unfold lW; rw [yR, wi5 h]
theorem wo8 {u : Nat} (h : ¬ u < 10) : lW ((u : Nat) : Int) = lW ((u / 10 : Nat) : Int) ++ lW ((u % 10 : Nat) : Int) := by
 unfold lW; rw [yR, yR, yR, dec_big h, jX]
theorem bs1 (v : Int) (S : St) : gE E 110 1 [(0, .sc (.int .u8 v))] S = some (.vec 1 1 [.sc (.int .u8 v)], S) := by kernel_rfl
theorem str1 (mu : Bool) (u : UInt8) (S : St) : gH E mu 110 9 (.vec 1 1 [.sc (.int .u8 (u.toNat : Int))]) S = some (.sc (.string ⟨#[u]⟩), S) := by
 have h1 : pZ E 110 9 = false := by kernel_rfl
 have h2 : E.und 9 = some .string := by kernel_rfl
 have h3 : rN (E.und 5) = true := by kernel_rfl
 have h4 : jT [.sc (.int .u8 (u.toNat : Int))] = some [u] := by simp [jT]
 simp only [gH, h1, aK, und110, h2, h3, cI, show Nat.beq 1 1 = true from rfl, aH, h4, iH]
theorem wo9 : ∀ (k u : Nat), u < k → u ≤ 9223372036854775807 → Ans E 115 [.sc (.int .i64 ((u : Nat) : Int))] (.sc (.string (lW ((u : Nat) : Int))))
 | 0, u, h, _ => absurd h (Nat.not_lt_zero _)
 | k + 1, u, h, hu => bU fun S hS => by
  have c0 : decide (((u : Nat) : Int) < 0) = false := by simp
  refine ev115 rfl ?_
  by_cases hs : u < 10
  · have c1 : decide (((u : Nat) : Int) < 10) = true := by simp; omega
    have w1 : IntKind.i64.wrap (48 + ((u : Nat) : Int)) = ((48 + u : Nat) : Int) := by rw [wrap_i64 (by omega) (by omega)]; omega
    have w2 : IntKind.u8.wrap ((48 + u : Nat) : Int) = ((UInt8.ofNat (48 + u)).toNat : Int) := lowByte (by omega)
    simp only [SXa, reduceCtorEq, Nat.reduceEqDiff, Nat.reduceAdd, P115, c0, c1, w1, w2, bs1, str1]
    exact ⟨by rw [wa2 hs], Grow.refl hS _⟩
  · have c1 : decide (((u : Nat) : Int) < 10) = false := by simp; omega
    have w1 : IntKind.i64.wrap (((u : Nat) : Int).tdiv 10) = ((u / 10 : Nat) : Int) := by
     rw [Int.tdiv_eq_ediv_of_nonneg (by omega), wrap_i64 (by omega) (by omega)]; omega
    have w2 : ((u : Nat) : Int).tmod 10 = ((u % 10 : Nat) : Int) := rfl
    have q1 : ∀ (t : TypeId) (x y : Operand) (S : St), cQ E .quo t x y (.sc (.int .i64 ((u : Nat) : Int))) (.sc (.int .i64 10)) S = some (.sc (.int .i64 ((u / 10 : Nat) : Int)), S) := fun t x y S => by rw [b_quo t x y _ _ _ (by decide), w1]
    have q2 : ∀ (t : TypeId) (x y : Operand) (S : St), cQ E .rem t x y (.sc (.int .i64 ((u : Nat) : Int))) (.sc (.int .i64 10)) S = some (.sc (.int .i64 ((u % 10 : Nat) : Int)), S) := fun t x y S => by rw [jh1 t x y _ _ _ (by decide), w2]
    have z1 := xv6 ((u / 10 : Nat) : Int) (by omega)
    have z2 := xv6 ((u % 10 : Nat) : Int) (by omega)
    simp only [SXa, reduceCtorEq, Nat.reduceEqDiff, Nat.reduceAdd, P115, c0, c1, q1]
    refine aT (wo9 k (u / 10) (by omega) (by omega)) (Grow.refl hS _) (fun S1 g1 hG1 => ?_)
    simp only [SXa, reduceCtorEq, Nat.reduceEqDiff, P115, q2]
    refine aT (wo9 k (u % 10) (by omega) (by omega)) hG1 (fun S2 g2 hG2 => ?_)
    simp only [SXa, reduceCtorEq, Nat.reduceEqDiff, cS _ _ _ _ _ (show (lW ((u / 10 : Nat) : Int)).size + (lW ((u % 10 : Nat) : Int)).size ≤ 2 ^ 62 by omega)]
    exact ⟨by rw [wo8 hs], hG2⟩
theorem zP (s : ByteArray) : (⟨s.data.toList.toArray⟩ : ByteArray) = s := by
 cases s; simp
theorem ko4 (a sep : ByteArray) : eO [a] sep = a := by
 unfold eO
 rw [cF, jQ, Lib.join_one, zP]
theorem kc0 (a : ByteArray) (r : List ByteArray) (y sep : ByteArray) : eO ((a :: r) ++ [y]) sep = (eO (a :: r) sep ++ sep) ++ y := by
 have e : ∀ x : ByteArray, x = ⟨x.data.toList.toArray⟩ := fun x => (zP x).symm
 rw [e sep, e y]
 unfold eO
 rw [jX, jX]
 simp only [nS, cF, lR, jQ, Lib.join_cons, Lib.joinTail, List.flatten_append, List.flatten_cons, List.flatten_nil, dK, pT]
theorem ks2 (a : ByteArray) : (⟨#[]⟩ : ByteArray) ++ a = a := by
 apply ByteArray.ext
 rw [ByteArray.data_append]
 simp
theorem kg8 {l : List ByteArray} (k : Nat) : dI (l.take k) ≤ dI l := by
 induction l generalizing k with
 | nil => simp
 | cons a r ih =>
  cases k with
  | zero => simp [dI]
  | succ k =>
   have := ih k
   rw [List.take_succ_cons, qA, qA]
   omega
theorem xG (l : List ByteArray) (x : AV) (hx : IsV 1 x (aN l)) (hl : l.length ≤ 2 ^ 30) (hs : dI l ≤ 2 ^ 40) (sep : ByteArray) (hp : sep.size ≤ 10) : Ans E 66 [x, .sc (.string sep)] (.sc (.string (eO l sep))) := bU fun S hS => by
 refine ev66 rfl ?_
 simp only [SXa, Nat.reduceAdd, P66]
 refine bX (fun tm S' N => S' = S ∧ ∃ k : Nat, k ≤ l.length ∧ N = l.length - k ∧ getT tm 0 = x ∧ getT tm 1 = .sc (.string sep) ∧ getT tm 5 = .sc (.string (eO (l.take k) sep)) ∧ getT tm 6 = .sc (.int .i64 (k : Int))) l.length ⟨rfl, 0, by omega, by omega, by simp [aO]; rfl⟩ ?_
 rintro tm S' N ⟨rfl, k, hk, rfl, t0, t1, t5, t6⟩
 by_cases hlt : k < l.length
 case neg =>
  have hke : k = l.length := by omega
  rw [hke, oU] at t5
  simp only [SXa, reduceCtorEq, Nat.reduceEqDiff, b66_8, P66, t0, t5, t6, iG hx, bO hlt]
  exact Grow.refl hS _
 have wk := cG hlt (by omega)
 have s1 := wI hs hlt
 have hj := qD (l.take k) sep hp
 have hj2 := kg8 (l := l) k
 have etk : l.take (k + 1) = l.take k ++ [l[k]] := qS hlt
 by_cases h0 : k = 0
 · subst h0
   have d0 : decide ((0 : Int) < ((0 : Nat) : Int)) = false := by decide
   have t5 : getT tm 5 = .sc (.string ⟨#[]⟩) := t5
   have a1 : (⟨#[]⟩ : ByteArray).size + l[0].size ≤ 2 ^ 62 := by have : (⟨#[]⟩ : ByteArray).size = 0 := rfl; omega
   have e1 : l[0] = eO (l.take (0 + 1)) sep := by
    rw [etk, List.take_zero, mL, ko4]
   simp only [SXa, reduceCtorEq, Nat.reduceEqDiff, Nat.reduceAdd, b66_8, P66, t0, t1, t5, t6, iG hx, bL hlt, d0, iY hx hlt, cS _ _ _ _ _ a1, ks2, wk]
   exact ⟨l.length - (0 + 1), by omega, 0 + 1, by omega, rfl, by simp only []; simp; exact e1⟩
 · have d0 : decide ((0 : Int) < ((k : Nat) : Int)) = true := by simp; omega
   have a0 : (eO (l.take k) sep).size + sep.size ≤ 2 ^ 62 := by omega
   have a1 : (eO (l.take k) sep ++ sep).size + l[k].size ≤ 2 ^ 62 := by rw [dQ]; omega
   have e1 : (eO (l.take k) sep ++ sep) ++ l[k] = eO (l.take (k + 1)) sep := by
    rw [etk]
    cases hq : l.take k with
    | nil =>
     have := congrArg List.length hq
     rw [eW] at this
     simp only [bH] at this
     omega
    | cons a r => rw [kc0]
   simp only [SXa, reduceCtorEq, Nat.reduceEqDiff, b66_8, P66, t0, t1, t5, t6, iG hx, bL hlt, d0, iY hx hlt, cS _ _ _ _ _ a0, cS _ _ _ _ _ a1, e1, wk]
   exact ⟨l.length - (k + 1), by omega, k + 1, by omega, rfl, by simp []⟩
end Go.Proofs.YthjaoinieikjdaaGreatDoor
