/-
  Trees in plain terms, and what the program tells of them.
-/
import Derived.Test.YthjaoinieikjdaaGreatDoorUAT
import Derived.Test.YthjaoinieikjdaaGreatDoorUAY
set_option maxHeartbeats 16000000
set_option linter.unusedSimpArgs false
set_option linter.unusedVariables false
set_option maxRecDepth 100000
namespace Go.Proofs.YthjaoinieikjdaaGreatDoor
open Go.Abs
structure NodeV where
 kind : Int
 n : Int
 name : ByteArray
 param : ByteArray
 kidsO : Option (List Int)
 frm : Int
 to : Int
def NodeV.kids (x : NodeV) : List Int := x.kidsO.getD []
structure ConV where
 name : ByteArray
 argsO : Option (List ByteArray)
def ConV.args (c : ConV) : List ByteArray := c.argsO.getD []
structure DeclV where
 name : ByteArray
 consO : Option (List ConV)
def DeclV.cons (d : DeclV) : List ConV := d.consO.getD []
structure TreeV where
 nodes : List NodeV
 types : List DeclV
def cE (l : List Int) : List AV := l.map fun z => .sc (.int .i64 z)
def aN (l : List ByteArray) : List AV := l.map fun s => .sc (.string s)
def nA (sz : Nat) (o : Option (List AV)) : AV := match o with
 | none => .sc (.slice none 0 0)
 | some l => .vec 0 sz l
theorem vW {α : Type} (sz : Nat) (f : List α → List AV) (h : f [] = []) (o : Option (List α)) : IsV sz (nA sz (o.map f)) (f (o.getD [])) := by
 cases o with
 | none => exact .inl ⟨rfl, h⟩
 | some l => exact .inr ⟨0, rfl⟩
theorem uN (sz : Nat) (o : Option (List AV)) : cB (nA sz o) = true := by cases o <;> rfl
def lN (x : NodeV) : AV := nA 1 (x.kidsO.map cE)
def kV (c : ConV) : AV := nA 1 (c.argsO.map aN)
def aL (x : NodeV) : List AV := [.sc (.int .i64 x.kind), .sc (.int .i64 x.n), .sc (.string x.name), .sc (.string x.param), lN x, .sc (.int .i64 x.frm), .sc (.int .i64 x.to)]
def cH (c : ConV) : List AV := [.sc (.string c.name), kV c]
def gT (l : List ConV) : List AV := l.map fun c => .agg (cH c)
def kT (d : DeclV) : AV := nA 2 (d.consO.map gT)
def dC (d : DeclV) : List AV := [.sc (.string d.name), kT d]
def jW (l : List NodeV) : List AV := l.map fun x => .agg (aL x)
def sH (l : List DeclV) : List AV := l.map fun d => .agg (dC d)
theorem isK (x : NodeV) : IsV 1 (lN x) (cE x.kids) := vW 1 cE rfl x.kidsO
theorem isAr (c : ConV) : IsV 1 (kV c) (aN c.args) := vW 1 aN rfl c.argsO
theorem isCv (d : DeclV) : IsV 2 (kT d) (gT d.cons) := vW 2 gT rfl d.consO
theorem dO (x : NodeV) (S : St) : iF (lN x) S = some (.sc (.int .i64 (x.kids.length : Nat)), S) := by rw [(isK x).len]; simp [cE]
theorem mD (c : ConV) (S : St) : iF (kV c) S = some (.sc (.int .i64 (c.args.length : Nat)), S) := by rw [(isAr c).len]; simp [aN]
theorem qK (d : DeclV) (S : St) : iF (kT d) S = some (.sc (.int .i64 (d.cons.length : Nat)), S) := by rw [(isCv d).len]; simp [gT]
def nZ (s : ByteArray) : Bool := s.toList == (⟨#[]⟩ : ByteArray).toList
def iK (x : NodeV) : Bool :=
 bif x.kind == 1 || x.kind == 23 then decide (0 ≤ x.n) && decide (x.n ≤ 4611686018427387903)
 else bif x.kind == 2 || x.kind == 24 then x.n == 0 || x.n == 1 else x.n == 0
def fD (l : List ByteArray) (s : ByteArray) : Bool := l.any fun y => s.toList == y.toList
def uY : List ByteArray := [⟨#[43]⟩, ⟨#[45]⟩, ⟨#[42]⟩, ⟨#[60]⟩, ⟨#[61]⟩]
noncomputable def tP (x : NodeV) : Bool :=
 bif x.kind == 4 || x.kind == 8 || x.kind == 22 then gX x.name && nZ x.param
 else bif x.kind == 9 then gX x.name && gX x.param
 else bif x.kind == 6 || x.kind == 20 then nZ x.name && gX x.param
 else bif x.kind == 5 || x.kind == 26 then lZ x.name && nZ x.param
 else bif x.kind == 14 then fD uY x.name && nZ x.param else nZ x.name && nZ x.param
def lM (k : Int) : Int × Int :=
 bif k == 5 || k == 26 then (0, 3) else bif k == 11 then (3, 1000) else bif k == 6 || k == 15 || k == 16 || k == 17 || k == 19 then (1, 1)
 else bif k == 7 || k == 8 || k == 9 || k == 12 || k == 13 || k == 14 || k == 20 then (2, 2) else bif k == 10 then (3, 3) else (0, 0)
def cN (k : Int) : Bool := k.tmod 2 == 1
def gM (k : Int) : Bool := decide (21 ≤ k) && decide (k ≤ 26)
def sQ (k : Int) : Bool := k == 7 || k == 8 || k == 9 || k == 10 || k == 11 || k == 13 || k == 17 || k == 18 || k == 19 || k == 20
def mG (name : ByteArray) : List ConV → Nat → Option Nat
 | [], _ => none
 | c :: r, k => bif c.name.toList == name.toList then some k else mG name r (k + 1)
def ofF (name : ByteArray) : List DeclV → Nat → Option (Nat × Nat)
 | [], _ => none
 | d :: r, k => match mG name d.cons 0 with
  | some c => some (k, c)
  | none => ofF name r (k + 1)
def mV (ds : List DeclV) (d c : Nat) : Nat := (((ds[d]?).bind fun d => d.cons[c]?).map fun c => c.args.length).getD 0
noncomputable def eT (ds : List DeclV) (x : NodeV) : Bool :=
 bif decide (x.kind < 1) || decide (26 < x.kind) || !iK x || !tP x then false
 else bif decide ((x.kids.length : Int) < (lM x.kind).1) || decide ((lM x.kind).2 < (x.kids.length : Int)) || (x.kind == 11 && !cN (x.kids.length : Int)) then false
 else bif x.kind != 5 && x.kind != 26 then true
 else match ofF x.name ds 0 with
  | some (d, c) => (((mV ds d c : Nat) : Int) == (x.kids.length : Int))
  | none => false
def idxF (v : ByteArray) : List ByteArray → Nat → Int
 | [], _ => -1
 | y :: r, k => bif v.toList == y.toList then (k : Int) else idxF v r (k + 1)
theorem kp2 (v : ByteArray) : ∀ (l : List ByteArray) (k : Nat), decide (0 ≤ idxF v l k) = fD l v
 | [], k => rfl
 | y :: r, k => by
  have ih := kp2 v r (k + 1)
  unfold fD at ih ⊢
  rw [idxF, nU]
  by_cases h : (v.toList == y.toList) = true
  · rw [h]; simp
  · rw [sX] at h
    rw [h, gU]; exact ih
def idxP (p : ByteArray → Bool) : List ByteArray → Nat → Int
 | [], _ => -1
 | y :: r, k => bif p y then (k : Int) else idxP p r (k + 1)
theorem wu5 (p : ByteArray → Bool) : ∀ (l : List ByteArray) (k : Nat), decide (0 ≤ idxP p l k) = l.any p
 | [], k => rfl
 | y :: r, k => by
  have ih := wu5 p r (k + 1)
  rw [idxP, nU]
  by_cases h : p y = true
  · rw [h]; simp
  · rw [sX] at h
    rw [h, gU]; exact ih
def oG (s : ByteArray) : Bool := s.toList == (⟨#[105, 110, 116]⟩ : ByteArray).toList || s.toList == (⟨#[98, 111, 111, 108]⟩ : ByteArray).toList || s.toList == (⟨#[117, 110, 105, 116]⟩ : ByteArray).toList
noncomputable def okC (c : ConV) : Bool := lZ c.name && decide (c.args.length ≤ 3)
noncomputable def okD (d : DeclV) : Bool := gX d.name && !oG d.name && decide (1 ≤ d.cons.length) && decide (d.cons.length ≤ 20) && d.cons.all okC
def cL (ds : List DeclV) : List ByteArray := ds.map fun d => d.name
def gA (ds : List DeclV) : List ByteArray := ds.flatMap fun d => d.cons.map fun c => c.name
def jH (ds : List DeclV) : List ByteArray := ds.flatMap fun d => d.cons.flatMap fun c => c.args
noncomputable def bV (w : Bool → Nat → Option Nat) (pat m : Bool) : List Int → Nat → Nat → Option Nat
 | [], _, nx => some nx
 | k :: r, i, nx => bif k == ((nx : Nat) : Int) then match w (pat || (m && cN ((i : Nat) : Int))) nx with
  | some z => bV w pat m r (i + 1) z
  | none => none
  else none
noncomputable def bC (ns : List NodeV) (ds : List DeclV) : Nat → Bool → Nat → Option Nat
 | 0, _, _ => none
 | d + 1, pat, a => match ns[a]? with
  | some x => bif (gM x.kind != pat) || !eT ds x then none else bV (bC ns ds d) pat (x.kind == 11) x.kids 0 (a + 1)
  | none => none
def cV (ns : List NodeV) : Nat → Nat → List ByteArray
 | 0, _ => []
 | f + 1, a => match ns[a]? with
  | some x => bif x.kind == 22 then [x.name] else bif x.kind == 26 then x.kids.flatMap fun k => cV ns f k.toNat else []
  | none => []
def eA (had : List ByteArray) : List ByteArray → Bool
 | [] => false
 | s :: r => bif inB s had then true else eA (had ++ [s]) r
def lY (names : List ByteArray) (s : ByteArray) : Bool := !(oG s || fD names s)
noncomputable def iM (ds : List DeclV) : Bool := ds.all okD && (decide (ds.length ≤ 20) && !eA [] (cL ds) && !eA [] (gA ds) && !(jH ds).any (lY (cL ds)))
noncomputable def badP (ns : List NodeV) (i : Nat) : Bool := match ns[i]? with
 | some x => gM x.kind && eA [] (cV ns 60 i)
 | none => false
noncomputable def nL (ns : List NodeV) : Nat → Nat → Bool
 | 0, _ => true
 | m + 1, k => bif badP ns k then false else nL ns m (k + 1)
noncomputable def fJ (t : TreeV) : Bool := decide (1 ≤ t.nodes.length) && decide (t.nodes.length ≤ 1000) && iM t.types &&
 (match bC t.nodes t.types 60 false 0 with | some z => ((z : Int) == (t.nodes.length : Int)) | none => false) && nL t.nodes t.nodes.length 0
structure Light (t : TreeV) : Prop where
 ln : t.nodes.length ≤ 60
 lt : t.types.length ≤ 4
 ln2 : ∀ x ∈ t.nodes, x.name.size ≤ 60 ∧ x.param.size ≤ 60 ∧ x.kids.length ≤ 20
 lt2 : ∀ d ∈ t.types, d.cons.length ≤ 6 ∧ d.name.size ≤ 60 ∧ ∀ c ∈ d.cons, c.name.size ≤ 60 ∧ c.args.length ≤ 4 ∧ ∀ s ∈ c.args, s.size ≤ 60
def lI : List NodeV → Nat → List Int
 | [], _ => []
 | x :: r, k => bif sQ x.kind then ((k : Nat) : Int) :: lI r (k + 1) else lI r (k + 1)
theorem bS {tm : PM AV} {S : St} {d : Option Tmp} (x : Operand) : (opV E tm d (.fieldAddr 36 x 0) S = eD 0 (E.ev tm x) S) ∧ (opV E tm d (.fieldAddr 36 x 1) S = eD 1 (E.ev tm x) S) ∧ (opV E tm d (.fieldAddr 36 x 2) S = eD 2 (E.ev tm x) S) ∧
 (opV E tm d (.fieldAddr 36 x 3) S = eD 3 (E.ev tm x) S) ∧ (opV E tm d (.fieldAddr 36 x 4) S = eD 4 (E.ev tm x) S) ∧ (opV E tm d (.fieldAddr 36 x 5) S = eD 5 (E.ev tm x) S) ∧ (opV E tm d (.fieldAddr 36 x 6) S = eD 6 (E.ev tm x) S) :=
 ⟨eR 36 0 0 (by kernel_rfl) x, eR 36 1 1 (by kernel_rfl) x, eR 36 2 2 (by kernel_rfl) x, eR 36 3 3 (by kernel_rfl) x, eR 36 4 4 (by kernel_rfl) x, eR 36 5 5 (by kernel_rfl) x, eR 36 6 6 (by kernel_rfl) x⟩
theorem kl0 (k : Int) : Ans E 57 [.sc (.int .i64 k)] (.sc (.bool (gM k))) := bU fun S hS => by
 refine ev57 rfl ?_
 have hG := Grow.refl hS aA
 simp only [SXa, reduceCtorEq, Nat.reduceEqDiff, Nat.reduceAdd, P57]
 repeat' (first
  | (refine gP (fun h => ?_) (fun h => ?_) <;> simp only [SXa, reduceCtorEq, Nat.reduceEqDiff, Nat.reduceAdd, Nat.reduceSub, Nat.reduceMul, Nat.reduceBEq, Int.reduceLT, Int.reduceLE, Int.reduceToNat, Int.reduceBEq, Int.reduceBNe, reduceIte, P57, h])
  | (refine gO (fun h => ?_) (fun h => ?_) <;> simp only [SXa, reduceCtorEq, Nat.reduceEqDiff, h]))
 all_goals exact ⟨by simp only [gM, cI, bK, *], hG⟩
theorem kx6 (k : Int) : Ans E 74 [.sc (.int .i64 k)] (.sc (.bool (sQ k))) := bU fun S hS => by
 refine ev74 rfl ?_
 have hG := Grow.refl hS aA
 simp only [SXa, reduceCtorEq, Nat.reduceEqDiff, Nat.reduceAdd, P74]
 repeat' (first
  | (refine gP (fun h => ?_) (fun h => ?_) <;> simp only [SXa, reduceCtorEq, Nat.reduceEqDiff, h])
  | (refine gO (fun h => ?_) (fun h => ?_) <;> simp only [SXa, reduceCtorEq, Nat.reduceEqDiff, Nat.reduceAdd, Nat.reduceSub, Nat.reduceMul, Nat.reduceBEq, Int.reduceLT, Int.reduceLE, Int.reduceToNat, Int.reduceBEq, Int.reduceBNe, reduceIte, P74, h]))
 all_goals exact ⟨by simp only [sQ, cA, cR, fU, *], hG⟩
theorem jh1 {E : Env} {S : St} (t : TypeId) (x y : Operand) (k : IntKind) (a b : Int) (h : b ≠ 0) : cQ E .rem t x y (.sc (.int k a)) (.sc (.int k b)) S = some (.sc (.int k (a.tmod b)), S) := by
 have h2 : (b == 0) = false := by simpa using h
 simp only [cQ, iZ, binOp, Op.intDiv, h, dG, ne_eq, not_true_eq_false]
 first | rfl | (simp [h]; rfl)
theorem wp9 (k : Int) : Ans E 104 [.sc (.int .i64 k)] (.sc (.bool (cN k))) := bU fun S hS => by
 refine ev104 rfl ?_
 have hq : ∀ (a : Int) (t : TypeId) (x y : Operand) (S : St), cQ E .rem t x y (.sc (.int .i64 a)) (.sc (.int .i64 2)) S = some (.sc (.int .i64 (a.tmod 2)), S) := fun a t x y S => jh1 t x y _ _ _ (by decide)
 simp only [SXa, reduceCtorEq, Nat.reduceEqDiff, Nat.reduceAdd, P104, hq]
 exact ⟨rfl, Grow.refl hS _⟩
theorem jb3 (k : Int) : Ans E 137 [.sc (.int .i64 k)] (.tup [.sc (.int .i64 (lM k).1), .sc (.int .i64 (lM k).2)]) := bU fun S hS => by
 refine ev137 rfl ?_
 have hG := Grow.refl hS aA
 simp only [SXa, reduceCtorEq, Nat.reduceEqDiff, Nat.reduceAdd, P137]
 repeat' (first
  | (refine gP (fun h => ?_) (fun h => ?_) <;> simp only [SXa, reduceCtorEq, Nat.reduceEqDiff, h])
  | (refine gO (fun h => ?_) (fun h => ?_) <;> simp only [SXa, reduceCtorEq, Nat.reduceEqDiff, Nat.reduceAdd, Nat.reduceSub, Nat.reduceMul, Nat.reduceBEq, Int.reduceLT, Int.reduceLE, Int.reduceToNat, Int.reduceBEq, Int.reduceBNe, reduceIte, P137, h]))
 all_goals exact ⟨by simp only [lM, cA, cR, fU, aH, aK, *], hG⟩
theorem basic_x (s : ByteArray) : ∃ b, Ans E 98 [.sc (.string s)] (.sc (.bool b)) ∧ b = (s.toList == (⟨#[105, 110, 116]⟩ : ByteArray).toList || s.toList == (⟨#[98, 111, 111, 108]⟩ : ByteArray).toList || s.toList == (⟨#[117, 110, 105, 116]⟩ : ByteArray).toList) := ⟨_, bU fun S hS => by
 refine ev98 rfl ?_
 have hG := Grow.refl hS aA
 simp only [SXa, reduceCtorEq, Nat.reduceEqDiff, Nat.reduceAdd, P98]
 repeat' (first
  | (refine gP (fun h => ?_) (fun h => ?_) <;> simp only [SXa, reduceCtorEq, Nat.reduceEqDiff, Nat.reduceAdd, Nat.reduceSub, Nat.reduceMul, Nat.reduceBEq, Int.reduceLT, Int.reduceLE, Int.reduceToNat, Int.reduceBEq, Int.reduceBNe, reduceIte, P98, h])
  | (refine gO (fun h => ?_) (fun h => ?_) <;> simp only [SXa, reduceCtorEq, Nat.reduceEqDiff, h]))
 all_goals exact ⟨by simp only [cA, cR, fU, gU, *], hG⟩, rfl⟩
theorem ka7 (x : NodeV) : Ans E 135 [.agg (aL x)] (.sc (.bool (iK x))) := bU fun S hS => by
 refine ev135 rfl ?_
 have hG := (Grow.refl hS aA).born 36 (aL x)
 have h0 : (S.born 36 (aL x)).obj S.no = some (aL x) := by simp [bE]
 simp only [SXa, Nat.reduceAdd, P135, dT, dZ]
 generalize S.born 36 (aL x) = S0 at hG h0
 simp only [aL] at h0
 simp only [SXa, reduceCtorEq, Nat.reduceEqDiff, P135, aE, h0, bS, aG, aD, aM]
 repeat' (first
  | (refine gP (fun h => ?_) (fun h => ?_) <;> simp only [SXa, reduceCtorEq, Nat.reduceEqDiff, P135, h, aE, h0, bS, aG, aD, aF])
  | (refine gO (fun h => ?_) (fun h => ?_) <;> simp only [SXa, reduceCtorEq, Nat.reduceEqDiff, P135, h, aE, h0, bS, aG, aD, aF]))
 all_goals exact ⟨by simp only [iK, cA, cR, fU, gU, cI, bK, aH, aK, *], hG⟩
theorem cG {k n : Nat} (h : k < n) (hn : n ≤ 2 ^ 63 - 1) : IntKind.i64.wrap ((k : Int) + 1) = ((k + 1 : Nat) : Int) := by
 rw [wrap_i64 (by omega) (by omega)]; omega
theorem iG {x : AV} {l : List ByteArray} (h : IsV 1 x (aN l)) (S : St) : iF x S = some (.sc (.int .i64 (l.length : Nat)), S) := by rw [h.len]; simp [aN]
theorem iY {x : AV} {l : List ByteArray} (h : IsV 1 x (aN l)) {k : Nat} (hk : k < l.length) (S : St) : bT 1 x (some (k : Int)) S = some (.eptr [.sc (.string l[k])] 0, S) := h.idx (v := .sc (.string l[k])) (by simp [aN, hk]) rfl S
theorem kp0 (l : List ByteArray) (x : AV) (hx : IsV 1 x (aN l)) (hl : l.length ≤ 2 ^ 40) (v : ByteArray) : Ans E 89 [x, .sc (.string v)] (.sc (.int .i64 (idxF v l 0))) := bU fun S hS => by
 refine ev89 rfl ?_
 simp only [SXa, reduceCtorEq, Nat.reduceEqDiff, Nat.reduceAdd, P89, iG hx]
 refine bX (fun tm S' N => ∃ k : Nat, k ≤ l.length ∧ N = l.length - k ∧ idxF v (l.drop k) k = idxF v l 0 ∧ Grow S S' aA ∧ getT tm 0 = x ∧ getT tm 1 = .sc (.string v) ∧ getT tm 7 = .sc (.int .i64 (l.length : Nat)) ∧ getT tm 8 = .sc (.int .i64 (k : Int))) l.length ⟨0, by omega, by omega, by rw [cJ], Grow.refl hS _, by simp [aO]⟩ ?_
 rintro tm S' N ⟨k, hk, rfl, hr, hG, t0, t1, t7, t8⟩
 by_cases hlt : k < l.length
 · have wk := cG hlt (by omega)
   rw [dJ hlt, idxF] at hr
   simp only [SXa, reduceCtorEq, Nat.reduceEqDiff, b89_7, P89, t0, t1, t7, t8, bL hlt, iY hx hlt]
   cases hb : (v.toList == l[k].toList) with
   | true =>
    rw [hb, aH] at hr
    simp only [SXa, Nat.reduceEqDiff]
    exact ⟨by rw [← hr], hG⟩
   | false =>
    rw [hb, aK] at hr
    simp only [SXa, reduceCtorEq, Nat.reduceEqDiff, t0, t1, t7, t8, wk]
    exact ⟨l.length - (k + 1), by omega, k + 1, by omega, rfl, hr, hG, by simp []⟩
 · have hke : k = l.length := by omega
   rw [hke, fA] at hr
   simp only [SXa, Nat.reduceEqDiff, b89_7, t7, t8, bO hlt]
   exact ⟨by rw [← hr]; rfl, hG⟩
theorem xd9 (l : List ByteArray) (x : AV) (hx : IsV 1 x (aN l)) (hl : l.length ≤ 2 ^ 40) (v : ByteArray) : Ans E 53 [x, .sc (.string v)] (.sc (.bool (fD l v))) := bU fun S hS => by
 refine ev53 rfl ?_
 simp only [SXa, reduceCtorEq, Nat.reduceEqDiff, Nat.reduceAdd, P53]
 refine aT (kp0 l x hx hl v) (Grow.refl hS aA) (fun S2 g2 hG => ?_)
 simp only [SXa, reduceCtorEq, Nat.reduceEqDiff, kp2]
 exact hG
theorem kc2 (H : St → Prop) (hst : ∀ S S', H S → Grow S S' aA → H S') (g : FuncId) (cap : List AV) (p : ByteArray → Bool) (hg : ∀ s, sV E H g ([.sc (.string s)] ++ cap) (.sc (.bool (p s)))) (hx0 : E.ext g = none)
 (l : List ByteArray) (x : AV) (hx : IsV 1 x (aN l)) (hl : l.length ≤ 2 ^ 40) : sV E H 131 [x, .fn (.func g) [] cap] (.sc (.int .i64 (idxP p l 0))) := zF fun S hS hH => by
 refine ev131 rfl ?_
 simp only [SXa, reduceCtorEq, Nat.reduceEqDiff, Nat.reduceAdd, P131, iG hx]
 refine bX (fun tm S' N => ∃ k : Nat, k ≤ l.length ∧ N = l.length - k ∧ idxP p (l.drop k) k = idxP p l 0 ∧ Grow S S' aA ∧ getT tm 0 = x ∧ getT tm 1 = .fn (.func g) [] cap ∧ getT tm 7 = .sc (.int .i64 (l.length : Nat)) ∧ getT tm 8 = .sc (.int .i64 (k : Int))) l.length ⟨0, by omega, by omega, by rw [cJ], Grow.refl hS _, by simp [aO]⟩ ?_
 rintro tm S' N ⟨k, hk, rfl, hr, hG, t0, t1, t7, t8⟩
 by_cases hlt : k < l.length
 · have wk := cG hlt (by omega)
   rw [dJ hlt, idxP] at hr
   simp only [SXa, reduceCtorEq, Nat.reduceEqDiff, b131_7, P131, t0, t1, t7, t8, bL hlt, iY hx hlt]
   rw [wo7 _ _ _ _ _ (g := g) (first := []) (cap := cap) (by simp only [SXa, Nat.reduceEqDiff]; rfl) hx0]
   simp only [SXa, Nat.reduceEqDiff, mL]
   refine yW (hg l[k]) (hst _ _ hH hG) hG (fun S2 g2 hG2 => ?_)
   cases hb : p l[k] with
   | true =>
    rw [hb, aH] at hr
    simp only [SXa, Nat.reduceEqDiff]
    exact ⟨by rw [← hr], hG2⟩
   | false =>
    rw [hb, aK] at hr
    simp only [SXa, reduceCtorEq, Nat.reduceEqDiff, t0, t1, t7, t8, wk]
    exact ⟨l.length - (k + 1), by omega, k + 1, by omega, rfl, hr, hG2, by simp []⟩
 · have hke : k = l.length := by omega
   rw [hke, fA] at hr
   simp only [SXa, Nat.reduceEqDiff, b131_7, t7, t8, bO hlt]
   exact ⟨by rw [← hr]; rfl, hG⟩
theorem wa5 (H : St → Prop) (hst : ∀ S S', H S → Grow S S' aA → H S') (g : FuncId) (cap : List AV) (p : ByteArray → Bool) (hg : ∀ s, sV E H g ([.sc (.string s)] ++ cap) (.sc (.bool (p s)))) (hx0 : E.ext g = none)
 (l : List ByteArray) (x : AV) (hx : IsV 1 x (aN l)) (hl : l.length ≤ 2 ^ 40) : sV E H 102 [x, .fn (.func g) [] cap] (.sc (.bool (l.any p))) := zF fun S hS hH => by
 refine ev102 rfl ?_
 simp only [SXa, reduceCtorEq, Nat.reduceEqDiff, Nat.reduceAdd, P102]
 refine yW (kc2 H hst g cap p hg hx0 l x hx hl) hH (Grow.refl hS aA) (fun S2 g2 hG => ?_)
 simp only [SXa, reduceCtorEq, Nat.reduceEqDiff, wu5]
 exact hG
theorem xi6 (l : List ByteArray) (x : AV) (hx : IsV 1 x (aN l)) (hl : l.length ≤ 2 ^ 40) : Ans E 58 [x] (.sc (.bool (eA [] l))) := bU fun S hS => by
 refine ev58 rfl ?_
 have hM := xp7 (S := S)
 have hG := (Grow.refl hS aA).bornMap
 have hno : S.no < S.bornMap.no := bJ _
 simp only [SXa, reduceCtorEq, Nat.reduceEqDiff, Nat.reduceAdd, P58, xt9, iG hx]
 generalize S.bornMap = S1 at hM hG hno
 have mt : E.und 126 = some (.map 9 4) := by kernel_rfl
 have kt : E.und 9 = some .string := by kernel_rfl
 have zt : kf6 E 4 = some (.bool false) := by kernel_rfl
 refine bX (fun tm S' N => ∃ k had, k ≤ l.length ∧ N = l.length - k ∧ eA had (l.drop k) = eA [] l ∧ S'.IsSet S.no had ∧ Grow S S' aA ∧ S.no < S'.no ∧ getT tm 3 = .mp S.no ∧ getT tm 7 = x ∧ getT tm 8 = .sc (.int .i64 (l.length : Nat)) ∧ getT tm 9 = .sc (.int .i64 (k : Int))) l.length ⟨0, [], by omega, by omega, by rw [cJ], hM, hG, hno, by simp [aO]⟩ ?_
 rintro tm S' N ⟨k, had, hk, rfl, hr, hM, hG, hno, t3, t7, t8, t9⟩
 by_cases hlt : k < l.length
 · have wk := cG hlt (by omega)
   rw [dJ hlt, eA] at hr
   simp only [SXa, Nat.reduceEqDiff, b58_9, P58, t3, t7, t8, t9, bL hlt, iY hx hlt, kl6, wy8 mt kt zt hM]
   cases hb : inB l[k] had with
   | true =>
    rw [hb, aH] at hr
    simp only [SXa, Nat.reduceEqDiff]
    exact ⟨by rw [← hr], hG⟩
   | false =>
    rw [hb, aK] at hr
    simp only [SXa, Nat.reduceEqDiff, t3, t7, t8, t9, wk, xc5, xt0 mt kt hM _ hb]
    exact ⟨l.length - (k + 1), by omega, k + 1, had ++ [l[k]], by omega, rfl, hr, zJ _ _, hG.put S.no _ (aB _), hno, by simp []⟩
 · have hke : k = l.length := by omega
   rw [hke, fA] at hr
   simp only [SXa, Nat.reduceEqDiff, b58_9, t8, t9, bO hlt]
   exact ⟨by rw [← hr]; rfl, hG⟩
theorem eG (S : St) (n l : Nat) : (S.raise n).obj l = S.obj l := rfl
theorem yK (S : St) (n : Nat) : (S.raise n).no = S.no + n := rfl
theorem xcase {f : FuncId} {g : List AV → St → Option (AV × St)} (h : E.X f = some g) : (f = 172 ∧ g = gB pL) ∨ (f = 175 ∧ g = gB decF) ∨ (f = 17 ∧ g = oJ (.bool true)) ∨ (f = 120 ∧ g = mF) ∨ (f = 111 ∧ g = gB fmtF) ∨ (f = 110 ∧ g = oL) ∨ (f = 69 ∧ g = nI 118) := by
 change (bif Nat.beq f 172 then some (gB pL) else bif Nat.beq f 175 then some (gB decF) else bif Nat.beq f 17 then some (oJ (.bool true)) else bif Nat.beq f 120 then some (mF) else bif Nat.beq f 111 then some (gB fmtF) else bif Nat.beq f 110 then some (oL) else bif Nat.beq f 69 then some (nI 118) else none) = some g at h
 cases hb : Nat.beq f 172 with
 | true =>
  rw [hb] at h
  exact (.inl (⟨bA hb, (cZ h).symm⟩))
 | false =>
  rw [hb] at h
  clear hb
  cases hb : Nat.beq f 175 with
  | true =>
   rw [hb] at h
   exact (.inr (.inl (⟨bA hb, (cZ h).symm⟩)))
  | false =>
   rw [hb] at h
   clear hb
   cases hb : Nat.beq f 17 with
   | true =>
    rw [hb] at h
    exact (.inr (.inr (.inl (⟨bA hb, (cZ h).symm⟩))))
   | false =>
    rw [hb] at h
    clear hb
    cases hb : Nat.beq f 120 with
    | true =>
     rw [hb] at h
     exact (.inr (.inr (.inr (.inl (⟨bA hb, (cZ h).symm⟩)))))
    | false =>
     rw [hb] at h
     clear hb
     cases hb : Nat.beq f 111 with
     | true =>
      rw [hb] at h
      exact (.inr (.inr (.inr (.inr (.inl (⟨bA hb, (cZ h).symm⟩))))))
     | false =>
      rw [hb] at h
      clear hb
      cases hb : Nat.beq f 110 with
      | true =>
       rw [hb] at h
       exact (.inr (.inr (.inr (.inr (.inr (.inl (⟨bA hb, (cZ h).symm⟩)))))))
      | false =>
       rw [hb] at h
       clear hb
       cases hb : Nat.beq f 69 with
       | true =>
        rw [hb] at h
        exact (.inr (.inr (.inr (.inr (.inr (.inr (⟨bA hb, (cZ h).symm⟩)))))))
       | false =>
        rw [hb] at h
        cases h
theorem noX : EvoX E := ⟨fun f g h args S r S' hg => by
 rcases xcase h with ⟨_, rfl⟩ | ⟨_, rfl⟩ | ⟨_, rfl⟩ | ⟨_, rfl⟩ | ⟨_, rfl⟩ | ⟨_, rfl⟩ | ⟨_, rfl⟩
 · exact xk8 hg
 · exact xk8 hg
 · exact km6 hg
 · exact wi8 hg
 · exact xk8 hg
 · exact ko3 hg
 · exact wl6 hg⟩
theorem frmX : FrmX E := ⟨fun f g h D A X args r A' k hg => by
 rcases xcase h with ⟨_, rfl⟩ | ⟨_, rfl⟩ | ⟨_, rfl⟩ | ⟨_, rfl⟩ | ⟨_, rfl⟩ | ⟨_, rfl⟩ | ⟨_, rfl⟩
 · exact xk7 k hg
 · exact xk7 k hg
 · exact km5 k hg
 · exact wi7 k hg
 · exact xk7 k hg
 · exact ko2 k hg
 · exact wl5 k hg⟩
theorem bsl5 (a b c d e : ByteArray) (S : St) : gE E 31 5 [(0, .sc (.string a)), (1, .sc (.string b)), (2, .sc (.string c)), (3, .sc (.string d)), (4, .sc (.string e))] S = some (.vec 1 1 [.sc (.string a), .sc (.string b), .sc (.string c), .sc (.string d), .sc (.string e)], S) := by kernel_rfl
theorem kl3 (s : ByteArray) : Ans E 53 [.vec 1 1 [.sc (.string ⟨#[43]⟩), .sc (.string ⟨#[45]⟩), .sc (.string ⟨#[42]⟩), .sc (.string ⟨#[60]⟩), .sc (.string ⟨#[61]⟩)], .sc (.string s)] (.sc (.bool (fD uY s))) := xd9 uY _ (IsV.vec 1 1 _) (by decide) s
theorem kg6 (x : NodeV) : Ans E 136 [.agg (aL x)] (.sc (.bool (tP x))) := bU fun S hS => by
 refine ev136 rfl ?_
 have hG := (Grow.refl hS aA).born 36 (aL x)
 have h0 : (S.born 36 (aL x)).obj S.no = some (aL x) := by simp [bE]
 have hno : S.no < (S.born 36 (aL x)).no := bJ _
 simp only [SXa, Nat.reduceAdd, P136, dT, dZ]
 generalize S.born 36 (aL x) = S0 at hG h0 hno
 simp only [aL] at h0
 have hG1 := hG.two (Grow.raise hG.fresh 8 aA)
 have h1 : (S0.raise 8).obj S.no = _ := h0
 have n1 : S.no < (S0.raise 8).no := by rw [yK]; omega
 simp only [SXa, reduceCtorEq, Nat.reduceEqDiff, P136, aE, h1, bS, aG, aD, aM, aF]
 generalize S0.raise 8 = S1 at hG1 h1 n1
 repeat' (first
  | (refine gP (fun h => ?_) (fun h => ?_) <;> simp only [SXa, reduceCtorEq, Nat.reduceEqDiff, Nat.reduceBEq, P136, h, aE, h1, bS, aG, aD, aF, bsl5])
  | (refine gO (fun h => ?_) (fun h => ?_) <;> simp only [SXa, reduceCtorEq, Nat.reduceEqDiff, h]))
 all_goals first
  | (refine aT (vF x.name) hG1 (fun S2 g2 hG2 => ?_); simp only [SXa, reduceCtorEq, Nat.reduceEqDiff])
  | (refine aT (vF x.param) hG1 (fun S2 g2 hG2 => ?_); simp only [SXa, reduceCtorEq, Nat.reduceEqDiff])
  | (refine aT (wf8 x.name) hG1 (fun S2 g2 hG2 => ?_); simp only [SXa, reduceCtorEq, Nat.reduceEqDiff])
  | (refine aT (kl3 x.name) hG1 (fun S2 g2 hG2 => ?_); simp only [SXa, reduceCtorEq, Nat.reduceEqDiff])
  | (refine kK noX ks9 ?_
     have g3 := Grow.raise hG1.fresh 8 aA
     simp only [SXa, reduceCtorEq, Nat.reduceEqDiff, P136, eG, aE, h1, bS, aG, aD, aF]
     refine aT (vF x.name) (hG1.two g3) (fun S2 g2 hG2 => ?_)
     simp only [SXa, reduceCtorEq, Nat.reduceEqDiff, P136, gF, gG, lE n1 (g3.two g2), bY, aE, (g3.two g2).objs h1 n1, bS, aG, aD, aF]
     refine aT (vF x.param) hG2 (fun S3 g3 hG3 => ?_)
     simp only [SXa, reduceCtorEq, Nat.reduceEqDiff])
  | skip
 repeat' (first
  | (refine gP (fun h => ?_) (fun h => ?_) <;> simp only [SXa, reduceCtorEq, Nat.reduceEqDiff, Nat.reduceAdd, Nat.reduceSub, Nat.reduceMul, Nat.reduceBEq, Int.reduceLT, Int.reduceLE, Int.reduceToNat, Int.reduceBEq, Int.reduceBNe, reduceIte, P136, h])
  | (refine gO (fun h => ?_) (fun h => ?_) <;> simp only [SXa, reduceCtorEq, Nat.reduceEqDiff, h]))
 all_goals exact ⟨by simp only [tP, nZ, cA, cR, fU, cI, bK, aH, aK, *], by assumption⟩
structure TreeIs (nx tx : AV) (t : TreeV) : Prop where
 nodes : IsV 7 nx (jW t.nodes)
 types : IsV 2 tx (sH t.types)
 ln : t.nodes.length ≤ 2 ^ 40
 lt : t.types.length ≤ 1000
 lk : ∀ x ∈ t.nodes, x.kids.length ≤ 2 ^ 40
 lc : ∀ d ∈ t.types, d.cons.length ≤ 2 ^ 40
theorem kv5 {tm : PM AV} {S : St} {d : Option Tmp} : opV E tm d (.alloc 75) S = some (.ptr S.no 0, S.born 75 [.sc (.string ⟨#[]⟩), .sc (.slice none 0 0)]) := oA (by kernel_rfl)
theorem wx0 {tm : PM AV} {S : St} {d : Option Tmp} : opV E tm d (.alloc 78) S = some (.ptr S.no 0, S.born 78 [.sc (.string ⟨#[]⟩), .sc (.slice none 0 0)]) := oA (by kernel_rfl)
theorem stD (l : Nat) (d : DeclV) (S : St) : gZ 2 (.ptr l 0) (.agg [.sc (.string d.name), kT d]) S = (S.obj l).bind fun cs => if 2 ≤ cs.length then some (dB, S.put l (.cells (.sc (.string d.name) :: kT d :: cs.drop 2))) else none :=
 qV 2 l _ (by simp only [lA, List.all_nil, kT, uN]; rfl)
theorem stC (l : Nat) (c : ConV) (S : St) : gZ 2 (.ptr l 0) (.agg [.sc (.string c.name), kV c]) S = (S.obj l).bind fun cs => if 2 ≤ cs.length then some (dB, S.put l (.cells (.sc (.string c.name) :: kV c :: cs.drop 2))) else none :=
 qV 2 l _ (by simp only [lA, List.all_nil, kV, uN]; rfl)
theorem uK {tm : PM AV} {S : St} {d : Option Tmp} (x : Operand) : opV E tm d (.fieldAddr 75 x 0) S = eD 0 (E.ev tm x) S := eR 75 0 0 (by kernel_rfl) x
theorem mW {tm : PM AV} {S : St} {d : Option Tmp} (x : Operand) : opV E tm d (.fieldAddr 75 x 1) S = eD 1 (E.ev tm x) S := eR 75 1 1 (by kernel_rfl) x
theorem uL {tm : PM AV} {S : St} {d : Option Tmp} (x : Operand) : opV E tm d (.fieldAddr 78 x 0) S = eD 0 (E.ev tm x) S := eR 78 0 0 (by kernel_rfl) x
theorem oE {tm : PM AV} {S : St} {d : Option Tmp} (x : Operand) : opV E tm d (.fieldAddr 78 x 1) S = eD 1 (E.ev tm x) S := eR 78 1 1 (by kernel_rfl) x
theorem gS {tm : PM AV} {S : St} {d : Option Tmp} (x : Operand) : opV E tm d (.fieldAddr 26 x 0) S = eD 0 (E.ev tm x) S := eR 26 0 0 (by kernel_rfl) x
theorem kQ {tm : PM AV} {S : St} {d : Option Tmp} (x : Operand) : opV E tm d (.fieldAddr 26 x 1) S = eD 1 (E.ev tm x) S := eR 26 1 1 (by kernel_rfl) x
theorem rM {x : AV} {l : List DeclV} (h : IsV 2 x (sH l)) (S : St) : iF x S = some (.sc (.int .i64 (l.length : Nat)), S) := by rw [h.len]; simp [sH]
theorem nC {x : AV} {l : List DeclV} (h : IsV 2 x (sH l)) {k : Nat} (hk : k < l.length) (S : St) : bT 2 x (some (k : Int)) S = some (.eptr (dC l[k]) 0, S) := h.idx (v := .agg (dC l[k])) (by simp [sH, hk]) rfl S
theorem rO {d : DeclV} {k : Nat} (hk : k < d.cons.length) (S : St) : bT 2 (kT d) (some (k : Int)) S = some (.eptr (cH d.cons[k]) 0, S) := (isCv d).idx (v := .agg (cH d.cons[k])) (by simp [gT, hk]) rfl S
theorem xv9 (name : ByteArray) {l : List ConV} {k : Nat} (hk : k < l.length) : mG name (l.drop k) k = bif l[k].name.toList == name.toList then some k else mG name (l.drop (k + 1)) (k + 1) := by rw [dJ hk, mG]
theorem ws9 (name : ByteArray) {l : List DeclV} {k : Nat} (hk : k < l.length) : ofF name (l.drop k) k = match mG name l[k].cons 0 with | some c => some (k, c) | none => ofF name (l.drop (k + 1)) (k + 1) := by rw [dJ hk, ofF] <;> rfl
theorem yd2 (l : List ConV) : (gT l).length = l.length := by simp [gT]
def ofA (r : Option (Nat × Nat)) : AV := match r with
 | some (d, c) => .tup [.sc (.int .i64 (d : Nat)), .sc (.int .i64 (c : Nat)), .sc (.bool true)]
 | none => .tup [.sc (.int .i64 0), .sc (.int .i64 0), .sc (.bool false)]
theorem wL (t : TreeV) (nx tx : AV) (ht : TreeIs nx tx t) (name : ByteArray) : Ans E 20 [.agg [nx, tx], .sc (.string name)] (ofA (ofF name t.types 0)) := bU fun S hS => by
 refine ev20 rfl ?_
 have hG := (Grow.refl hS aA).born 26 [nx, tx]
 have h0 : (S.born 26 [nx, tx]).obj S.no = some [nx, tx] := by simp [bE]
 simp only [SXa, reduceCtorEq, Nat.reduceAdd, P20, dT, dZ]
 generalize S.born 26 [nx, tx] = S0 at hG h0
 simp only [SXa, reduceCtorEq, Nat.reduceEqDiff, P20, aE, h0, kQ, aG, aD, aF, rM ht.types]
 refine bX (fun tm S' N => ∃ k : Nat, k ≤ t.types.length ∧ N = t.types.length - k ∧ ofF name (t.types.drop k) k = ofF name t.types 0 ∧ Grow S S' aA ∧ getT tm 1 = .sc (.string name) ∧ getT tm 12 = tx ∧ getT tm 13 = .sc (.int .i64 (t.types.length : Nat)) ∧ getT tm 14 = .sc (.int .i64 (k : Int))) t.types.length ⟨0, by omega, by omega, by rw [cJ], hG, by simp [aO]⟩ ?_
 rintro tm S1 N ⟨k, hk, rfl, hr, hG1, t1, t12, t13, t14⟩
 have hlt' := ht.lt
 by_cases hlt : k < t.types.length
 · have wk := cG hlt (by omega)
   have hlc := ht.lc _ (fE hlt)
   rw [ws9 name hlt] at hr
   have hG2 := (hG1.born 75 [.sc (.string ⟨#[]⟩), .sc (.slice none 0 0)]).put S1.no (.cells (dC t.types[k])) hG1.no
   have h2 : ((S1.born 75 [.sc (.string ⟨#[]⟩), .sc (.slice none 0 0)]).put S1.no (.cells (dC t.types[k]))).obj S1.no = some (dC t.types[k]) := by simp [aX]
   simp only [dC] at hG2 h2
   simp only [SXa, Nat.reduceEqDiff, Nat.reduceAdd, b20_12, P20, t12, t13, t14, bL hlt, nC ht.types hlt, dC, kv5, stD, bE, aD, aF, aB, dM]
   generalize ((S1.born 75 [.sc (.string ⟨#[]⟩), .sc (.slice none 0 0)]).put S1.no (.cells [.sc (.string t.types[k].name), (kT t.types[k])])) = S2 at hG2 h2
   simp only [SXa, Nat.reduceEqDiff, P20, aE, h2, mW, aG, aD, aF, qK]
   refine bX (fun tm S' N => ∃ j : Nat, j ≤ t.types[k].cons.length ∧ N = t.types[k].cons.length - j ∧ mG name (t.types[k].cons.drop j) j = mG name t.types[k].cons 0 ∧ Grow S S' aA ∧ getT tm 1 = .sc (.string name) ∧ getT tm 7 = .sc (.int .i64 (k : Int)) ∧ getT tm 12 = tx ∧ getT tm 13 = .sc (.int .i64 (t.types.length : Nat)) ∧ getT tm 14 = .sc (.int .i64 (k : Int)) ∧ getT tm 20 = (kT t.types[k]) ∧ getT tm 21 = .sc (.int .i64 (t.types[k].cons.length : Nat)) ∧ getT tm 22 = .sc (.int .i64 (j : Int))) t.types[k].cons.length ⟨0, by omega, by omega, by rw [cJ], hG2, by simp [aO, t1, t12, t13, t14]⟩ ?_
   rintro tm S3 N ⟨j, hj, rfl, hq, hG3, t1, t7, t12, t13, t14, t20, t21, t22⟩
   by_cases hjt : j < t.types[k].cons.length
   · have wj := cG hjt (by omega)
     rw [xv9 name hjt] at hq
     have hG4 := (hG3.born 78 [.sc (.string ⟨#[]⟩), .sc (.slice none 0 0)]).put S3.no (.cells (cH t.types[k].cons[j])) hG3.no
     have h4 : ((S3.born 78 [.sc (.string ⟨#[]⟩), .sc (.slice none 0 0)]).put S3.no (.cells (cH t.types[k].cons[j]))).obj S3.no = some (cH t.types[k].cons[j]) := by simp [aX]
     simp only [cH] at hG4 h4
     simp only [SXa, Nat.reduceEqDiff, Nat.reduceAdd, b20_10, P20, t20, t21, t22, bL hjt, rO hjt, cH, wx0, stC, bE, aD, aF, aB, dM]
     generalize ((S3.born 78 [.sc (.string ⟨#[]⟩), .sc (.slice none 0 0)]).put S3.no (.cells [.sc (.string t.types[k].cons[j].name), (kV t.types[k].cons[j])])) = S4 at hG4 h4
     simp only [SXa, Nat.reduceEqDiff, P20, t1, aE, h4, uL, aG, aD, aM]
     cases hb : (t.types[k].cons[j].name.toList == name.toList) with
     | true =>
      rw [hb, aH] at hq
      rw [← hq] at hr
      simp only [SXa, Nat.reduceEqDiff, t7]
      exact ⟨by rw [← hr]; rfl, hG4⟩
     | false =>
      rw [hb, aK] at hq
      simp only [SXa, Nat.reduceEqDiff, t1, t7, t12, t13, t14, t20, t21, t22, wj]
      exact ⟨t.types[k].cons.length - (j + 1), by omega, j + 1, by omega, rfl, hq, hG4, by simp []⟩
   · have hje : j = t.types[k].cons.length := by omega
     rw [hje, fA, mG] at hq
     rw [← hq] at hr
     simp only [SXa, reduceCtorEq, Nat.reduceEqDiff, b20_10, t1, t12, t13, t14, t21, t22, bO hjt, wk]
     exact ⟨t.types.length - (k + 1), by omega, k + 1, by omega, rfl, hr, hG3, by simp []⟩
 · have hke : k = t.types.length := by omega
   rw [hke, fA, ofF] at hr
   simp only [SXa, Nat.reduceEqDiff, b20_12, t13, t14, bO hlt]
   exact ⟨by rw [← hr]; rfl, hG1⟩
end Go.Proofs.YthjaoinieikjdaaGreatDoor
