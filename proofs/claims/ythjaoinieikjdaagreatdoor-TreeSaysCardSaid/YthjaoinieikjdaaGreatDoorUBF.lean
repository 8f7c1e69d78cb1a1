/-
  More of the calculus: sets of texts: taking out, laying one into another, the texts sorted.
-/
import Derived.Test.YthjaoinieikjdaaGreatDoorUAY
import Derived.Test.YthjaoinieikjdaaGreatDoorUAV
import Derived.Test.YthjaoinieikjdaaGreatDoorUBC
import Derived.Lib.Join
import Derived.Lib.ItoaLen
import Derived.Test.YthjaoinieikjdaaGreatDoorUBA
set_option maxHeartbeats 16000000
set_option linter.unusedSimpArgs false
set_option linter.unusedVariables false
set_option maxRecDepth 100000
namespace Go.Abs
open Go.Proofs (encStr)
def gR (s : ByteArray) : List UInt8 := s.data.toList
theorem xb5 {a b : ByteArray} (h : gR a = gR b) : a = b := by
 cases a; cases b
 simp only [gR] at h
 rw [Array.toList_inj.1 h]
theorem kh7 (ks : List ByteArray) : mI (ks.map gR) = fO ks := by
 simp only [mI, fO, iJ]
 rfl
theorem beq_b {a b : ByteArray} : (a == b) = true ↔ a = b := by
 cases a; cases b
 simp only [ByteArray.mk.injEq]
 exact gD (α := Array UInt8)
theorem inB_mem {s : ByteArray} {ks : List ByteArray} : inB s ks = true ↔ s ∈ ks := by
 simp only [inB, List.any_eq_true, beq_b]
 constructor
 · rintro ⟨x, hx, rfl⟩; exact hx
 · intro h; exact ⟨s, h, rfl⟩
theorem inB_false {s : ByteArray} {ks : List ByteArray} : inB s ks = false ↔ s ∉ ks := by
 rw [← inB_mem, sX]
def nQ (s : ByteArray) : List ByteArray → List ByteArray
 | [] => []
 | k :: r => bif s == k then r else k :: nQ s r
theorem yE (s : ByteArray) : ∀ ks : List ByteArray, (nQ s ks).Sublist ks
 | [] => List.Sublist.refl _
 | k :: r => by
  unfold nQ
  cases (s == k) with
  | true => exact List.sublist_cons_self _ _
  | false => exact (yE s r).cons_cons k
theorem xo5 (s : ByteArray) : ∀ ks, pD .string (.string s) (fO ks) = fO (nQ s ks)
 | [] => rfl
 | k :: r => by
  have ih := xo5 s r
  simp only [fO, cF, pD, nQ, Instr.sameNow] at ih ⊢
  cases (s == k) with
  | true => rfl
  | false => simp only [aK, cF, ih]
section
variable {E : Env} {S : St}
theorem zI {l : Nat} {ks : List ByteArray} (h : S.IsSet l ks) : S.map l = some (fO ks) := by unfold St.IsSet at h; simp only [St.map, h]
theorem wy9 {t kt et u : TypeId} (ht : E.und t = some (.map kt et)) (hk : E.und kt = some .string) {l : Nat} {ks : List ByteArray} (h : S.IsSet l ks) (s : ByteArray) :
 bD E false .delete [t, u] [.mp l, .sc (.string s)] S = some (dB, S.put l (.mp (fO (nQ s ks)))) := by
 have h2 : fH .string (.string s) = true := rfl
 simp only [bD, sD, ht, hk, keyOf, zI h, h2, xa8, bY, aH, xo5]
end
theorem yk8 : ∀ ks : List ByteArray, (∀ s ∈ ks, s.size ≤ 1000000) → rW (fO ks) = some (ks.map gR)
 | [], _ => rfl
 | k :: r, h => by
  have ih := yk8 r fun s hs => h s (kZ _ hs)
  have hk : Nat.ble k.size 1000000 = true := fT (h k (jL ..))
  simp only [fO, cF, rW, hk, aH] at ih ⊢
  rw [ih]; rfl
theorem xm3 : ∀ ks : List ByteArray, (∀ s ∈ ks, s.size ≤ 1000000) → sK (fO ks) = some (ks.map gR)
 | [], _ => rfl
 | k :: r, h => by
  have ih := xm3 r fun s hs => h s (kZ _ hs)
  have hk : Nat.ble k.size 1000000 = true := fT (h k (jL ..))
  simp only [fO, cF, sK, hk, aH] at ih ⊢
  rw [ih]; rfl
def nK (ks js : List ByteArray) : List ByteArray := ks ++ js.filter fun s => !inB s ks
theorem wk2 (s : ByteArray) : ∀ ks : List ByteArray, (ks.map gR).any (fun t => t == gR s) = inB s ks
 | [] => rfl
 | k :: r => by
  have ih := wk2 s r
  simp only [inB] at ih
  simp only [cF, nU, inB, ih]
  congr 1
  rw [pV, gD, beq_b]
  exact ⟨fun h => (xb5 h).symm, fun h => by rw [h]⟩
theorem xd4 (ks : List ByteArray) : ∀ js : List ByteArray, (js.map gR).filter (fun s => !(ks.map gR).any fun t => t == s) = (js.filter fun s => !inB s ks).map gR
 | [] => rfl
 | j :: r => by
  have ih := xd4 ks r
  simp only [cF, List.filter_cons, wk2] at ih ⊢
  cases inB j ks with
  | true => simpa using ih
  | false => simpa using ih
theorem wk9 (ks js : List ByteArray) : sG (ks.map gR) (js.map gR) = (nK ks js).map gR := by
 simp only [sG, nK, lR, xd4]
theorem mem_unionB {ks js : List ByteArray} {s : ByteArray} : s ∈ nK ks js ↔ s ∈ ks ∨ s ∈ js := by
 simp only [nK, nF, List.mem_filter, jB, inB_false]
 constructor
 · rintro (h | ⟨h, _⟩)
   · exact .inl h
   · exact .inr h
 · rintro (h | h)
   · exact .inl h
   · by_cases hk : s ∈ ks
     · exact .inl hk
     · exact .inr ⟨h, hk⟩
theorem we7 {ks js : List ByteArray} (h1 : ks.Nodup) (h2 : js.Nodup) : (nK ks js).Nodup := by
 refine List.nodup_append.2 ⟨h1, h2.filter _, fun a ha b hb e => ?_⟩
 subst e
 simp only [List.mem_filter, jB, inB_false] at hb
 exact hb.2 ha
theorem xu6 (ks js : List ByteArray) : (nK ks js).length ≤ ks.length + js.length := by
 simp only [nK, dL]
 have := List.length_filter_le (fun s => !inB s ks) js
 omega
theorem jg0 {S : St} {l m : Nat} {ks js : List ByteArray} (hne : l ≠ m) (h1 : S.IsSet l ks) (h2 : S.IsSet m js) (b1 : ks.length ≤ 1000000) (b2 : js.length ≤ 1000000) (s1 : ∀ s ∈ ks, s.size ≤ 1000000) (s2 : ∀ s ∈ js, s.size ≤ 1000000) :
 mF [.mp l, .mp m] S = some (.tup [], S.put l (.mp (fO (nK ks js)))) := by
 have hb : Nat.beq l m = false := by
  cases h : Nat.beq l m with
  | false => rfl
  | true => exact absurd (bA h) hne
 have e1 : Nat.ble (ks.map gR).length 1000000 = true := fT (by simpa using b1)
 have e2 : Nat.ble (js.map gR).length 1000000 = true := fT (by simpa using b2)
 simp only [mF, hb, aK, zI h1, zI h2, yk8 ks s1, yk8 js s2, e1, e2, bY, aH, wk9, kh7]
noncomputable def pH (ks : List ByteArray) : List ByteArray := (pG (ks.map gR)).map fun l => ⟨l.toArray⟩
theorem yz5 (ks : List ByteArray) : (pH ks).Perm ks := by
 have h := (vD (ks.map gR)).map fun l => (⟨l.toArray⟩ : ByteArray)
 refine h.trans ?_
 rw [iJ]
 have : (fun l => (⟨l.toArray⟩ : ByteArray)) ∘ gR = id := by funext s; rfl
 rw [this, List.map_id]
theorem kx7 {S : St} {g bx l : Nat} {sh : TypeId × Nat} {ks : List ByteArray} (h1 : S.IsSet l ks) (hs : S.shp.get bx = some sh) (ho : S.obj bx = some [.mp l]) (b1 : ks.length ≤ 1000000) (s1 : ∀ s ∈ ks, s.size ≤ 1000000) :
 ∃ r, nI g [.fn (.func g) [] [.ptr bx 0]] S = some (r, S) ∧ IsV 1 r ((pH ks).map fun s => .sc (.string s)) := by
 have e1 : Nat.ble (fO ks).length 1000000 = true := fT (by simpa [fO] using b1)
 have e2 : Nat.beq g g = true := lB g
 simp only [nI, hs, ho, zI h1, e1, e2, bY, aH, xm3 ks s1]
 cases h : pG (ks.map gR) with
 | nil => exact ⟨_, rfl, .inl ⟨rfl, by simp [pH, h]⟩⟩
 | cons k r =>
  refine ⟨_, rfl, .inr ⟨0, ?_⟩⟩
  simp only [pH, h, iJ]
  rfl
end Go.Abs
namespace Go.Proofs.YthjaoinieikjdaaGreatDoor
open Go.Abs
def gI (ns : List NodeV) : Nat → Nat → Nat
 | 0, _ => 0
 | f + 1, a => match ns[a]? with
  | some x => (x.kids.map fun k => gI ns f k.toNat).foldl max 0 + 1
  | none => 0
theorem max_int (a b : Int) (t u : TypeId) (S : St) : bD E false .max [t, u] [.sc (.int .i64 a), .sc (.int .i64 b)] S = some (.sc (.int .i64 (if b > a then b else a)), S) := rfl
theorem op_max {tm : PM AV} {S : St} {d : Option Tmp} (x y : Operand) (t u : TypeId) : opV E tm d (.call (Call.mk (.builtin .max) #[x, y] #[t, u])) S = bD E false .max [t, u] [E.ev tm x, E.ev tm y] S := rfl
theorem xN {ns : List NodeV} {f d : Nat} {ds : List DeclV} (ih : ∀ p a z, bC ns ds d p a = some z → gI ns f a ≤ d) (pat m : Bool) : ∀ (l : List Int) (i nx z n : Nat), bV (bC ns ds d) pat m l i nx = some z → n ≤ d → (l.map fun k => gI ns f k.toNat).foldl max n ≤ d
 | [], i, nx, z, n, h, hn => by simpa using hn
 | k :: r, i, nx, z, n, h, hn => by
  unfold bV at h
  cases hb : (k == ((nx : Nat) : Int)) with
  | false => rw [hb] at h; cases h
  | true =>
   rw [hb, aH] at h
   have hk : k = ((nx : Nat) : Int) := by simpa using hb
   cases hq : bC ns ds d (pat || (m && cN ((i : Nat) : Int))) nx with
   | none => rw [hq] at h; cases h
   | some z1 =>
    rw [hq] at h
    have h1 := ih _ _ _ hq
    simp only [cF, List.foldl_cons, hk, gN]
    exact xN ih pat m r (i + 1) z1 z _ h (by omega)
theorem uE {ns : List NodeV} {ds : List DeclV} {d : Nat} {pat : Bool} {a z : Nat} (h : bC ns ds (d + 1) pat a = some z) (hlt : a < ns.length) : bV (bC ns ds d) pat (ns[a].kind == 11) ns[a].kids 0 (a + 1) = some z := by
 have hx : ns[a]? = some ns[a] := cX hlt
 unfold bC at h
 rw [hx] at h
 simp only [bB] at h
 split at h
 · cases h
 · exact h
theorem yV (ns : List NodeV) (ds : List DeclV) : ∀ (d f : Nat), d ≤ f → ∀ (pat : Bool) (a z : Nat), bC ns ds d pat a = some z → gI ns f a ≤ d
 | 0, f, hf, pat, a, z, h => by cases h
 | d + 1, 0, hf, pat, a, z, h => by omega
 | d + 1, f + 1, hf, pat, a, z, h => by
  have hbd := cT _ _ _ _ _ _ h
  have hlt : a < ns.length := by omega
  have hk := uE h hlt
  rw [gI, cX hlt]
  have := xN (f := f) (yV ns ds d f (by omega)) pat _ _ 0 (a + 1) z 0 hk (by omega)
  simp only
  omega
theorem wi2 (t : TreeV) (nx tx : AV) (ht : TreeIs nx tx t) : ∀ (d f : Nat), d ≤ f → d ≤ 100 → ∀ (pat : Bool) (a z : Nat), bC t.nodes t.types d pat a = some z → Ans E 75 [.agg [nx, tx], .sc (.int .i64 (a : Nat))] (.sc (.int .i64 (gI t.nodes f a : Nat)))
 | 0, f, hf, hd, pat, a, z, h => by cases h
 | d + 1, 0, hf, hd, pat, a, z, h => by omega
 | d + 1, f + 1, hf, hd, pat, a, z, h => bU fun S hS => by
  have hbd := cT _ _ _ _ _ _ h
  have hlt : a < t.nodes.length := by omega
  have hkl := ht.lk _ (fE hlt)
  have hw := uE h hlt
  have hle := xN (f := f) (yV t.nodes t.types d f (by omega)) pat _ _ 0 (a + 1) z 0 hw (by omega)
  have eb : gI t.nodes (f + 1) a = (t.nodes[a].kids.map fun k => gI t.nodes f k.toNat).foldl max 0 + 1 := by
   rw [gI, cX hlt]
  rw [eb]
  refine ev75 rfl ?_
  have hb1 := (Grow.refl hS aA).born 26 [nx, tx]
  have hT1 : (S.born 26 [nx, tx]).obj S.no = some [nx, tx] := by simp [bE]
  have hn1 : S.no < (S.born 26 [nx, tx]).no := bJ _
  simp only [SXa, reduceCtorEq, Nat.reduceAdd, P75, dT, dZ]
  generalize S.born 26 [nx, tx] = S1 at hb1 hT1 hn1
  simp only [SXa, reduceCtorEq, Nat.reduceEqDiff, P75, gS, bS, aG, dN, aE, hT1, aD, aF, aM, iB ht.nodes hlt, aL, dO]
  refine bX (fun tm S' N => ∃ (i q n : Nat), i ≤ t.nodes[a].kids.length ∧ N = t.nodes[a].kids.length - i ∧ bV (bC t.nodes t.types d) pat (t.nodes[a].kind == 11) (t.nodes[a].kids.drop i) i q = some z ∧
   ((t.nodes[a].kids.drop i).map fun k => gI t.nodes f k.toNat).foldl max n = (t.nodes[a].kids.map fun k => gI t.nodes f k.toNat).foldl max 0 ∧
   S'.obj S.no = some [nx, tx] ∧ Grow S S' aA ∧ S.no < S'.no ∧ getT tm 2 = .ptr S.no 0 ∧ getT tm 5 = .sc (.int .i64 (n : Int)) ∧ getT tm 13 = (lN t.nodes[a]) ∧ getT tm 14 = .sc (.int .i64 (t.nodes[a].kids.length : Nat)) ∧ getT tm 15 = .sc (.int .i64 (i : Int))) t.nodes[a].kids.length
   ⟨0, a + 1, 0, by omega, by omega, by rw [cJ]; exact hw, by rw [cJ], hT1, hb1, by omega, by simp [aO]⟩ ?_
  rintro tm S3 N ⟨i, q, n, hi, rfl, hq, hfl, hT3, hb3, hn3, t2, t5, t13, t14, t15⟩
  have hln := ht.ln
  by_cases hit : i < t.nodes[a].kids.length
  case neg =>
   have hie : i = t.nodes[a].kids.length := by omega
   rw [hie, fA] at hfl
   simp only [jQ, List.foldl_nil] at hfl
   have wn : IntKind.i64.wrap ((n : Int) + 1) = ((n + 1 : Nat) : Int) := by rw [wrap_i64 (by omega) (by omega)]; omega
   simp only [SXa, Nat.reduceEqDiff, b75_7, t5, t14, t15, bO hit, wn]
   rw [← hfl]
   exact ⟨rfl, hb3⟩
  case pos =>
  have wi := cG hit (by omega)
  rw [tE _ _ _ hit] at hq
  cases c6 : (t.nodes[a].kids[i] == ((q : Nat) : Int)) with
  | false => rw [c6] at hq; cases hq
  | true =>
  rw [c6, aH] at hq
  have hk : t.nodes[a].kids[i] = ((q : Nat) : Int) := by simpa using c6
  cases hw2 : bC t.nodes t.types d (pat || (t.nodes[a].kind == 11 && cN ((i : Nat) : Int))) q with
  | none => rw [hw2] at hq; cases hq
  | some q1 =>
  rw [hw2] at hq
  have hm : (if ((gI t.nodes f q : Nat) : Int) > (n : Int) then ((gI t.nodes f q : Nat) : Int) else (n : Int)) = ((max n (gI t.nodes f q) : Nat) : Int) := by split <;> omega
  rw [dJ hit, cF, List.foldl_cons, hk, gN] at hfl
  simp only [SXa, Nat.reduceEqDiff, Nat.reduceAdd, b75_7, P75, t2, t5, t13, t14, t15, bL hit, iQ hit, hk, aE, hT3, aD, aF, aB]
  refine aT (wi2 t nx tx ht d f (by omega) (by omega) _ q q1 hw2) hb3 (fun S4 g4 hb4 => ?_)
  have hT4 := g4.objs hT3 hn3
  have hn4 := aU hn3 g4.no
  simp only [SXa, Nat.reduceEqDiff, t2, t5, t13, t14, t15, wi, op_max, max_int, hm]
  exact ⟨t.nodes[a].kids.length - (i + 1), by omega, i + 1, q1, _, by omega, rfl, hq, hfl, hT4, hb4, hn4, by simp []⟩
noncomputable def dW (t : TreeV) (i : Int) : Bool := decide (0 ≤ i) && decide (i < (t.nodes.length : Int)) && fJ t
theorem wn5 (t : TreeV) (nx tx : AV) (ht : TreeIs nx tx t) (i : Int) : Ans E 68 [.agg [nx, tx], .sc (.int .i64 i)] (.sc (.bool (dW t i))) := bU fun S hS => by
 refine ev68 rfl ?_
 have hG := (Grow.refl hS aA).born 26 [nx, tx]
 have hT : (S.born 26 [nx, tx]).obj S.no = some [nx, tx] := by simp [bE]
 have hn : S.no < (S.born 26 [nx, tx]).no := bJ _
 simp only [SXa, reduceCtorEq, Nat.reduceEqDiff, Nat.reduceAdd, P68, dT, dZ]
 generalize S.born 26 [nx, tx] = S0 at hG hT hn
 cases c1 : decide (0 ≤ i) with
 | false =>
  simp only [SXa, reduceCtorEq, Nat.reduceEqDiff]
  exact ⟨by simp only [dW, c1, bK], hG⟩
 | true =>
 simp only [SXa, reduceCtorEq, Nat.reduceEqDiff, P68, aE, hT, gS, aG, aD, aM, eY ht.nodes]
 cases c2 : decide (i < (t.nodes.length : Int)) with
 | false =>
  simp only [SXa, reduceCtorEq, Nat.reduceEqDiff]
  exact ⟨by simp only [dW, c1, c2, dY, bK], hG⟩
 | true =>
 simp only [SXa, reduceCtorEq, Nat.reduceEqDiff, Nat.reduceAdd, P68, aE, hT, aD, aF, aB]
 refine aT (yU t nx tx ht) hG (fun S1 g1 hG1 => ?_)
 simp only [SXa, reduceCtorEq, Nat.reduceEqDiff]
 exact ⟨by simp only [dW, c1, c2, cI], hG1⟩
open Go.Abs
def eO (l : List ByteArray) (sep : ByteArray) : ByteArray := ⟨(Lib.join (l.map (·.data.toList)) sep.data.toList).toArray⟩
def lW (n : Int) : ByteArray := ⟨(Lib.itoa n).toArray⟩
def kd (k : List ByteArray) (i : Nat) : ByteArray := k.getD i ⟨#[]⟩
def kI (name : ByteArray) (k : List ByteArray) : ByteArray := match k with
 | [] => name
 | a :: r => ((name ++ (⟨#[32, 40]⟩ : ByteArray)) ++ eO (a :: r) (⟨#[44, 32]⟩ : ByteArray)) ++ (⟨#[41]⟩ : ByteArray)
def iN : List ByteArray → List ByteArray
 | a :: b :: r => ((a ++ (⟨#[32, 45, 62, 32]⟩ : ByteArray)) ++ b) :: iN r
 | _ => []
def fX (x : NodeV) (k : List ByteArray) : ByteArray :=
 bif x.kind == 6 then (((⟨#[102, 117, 110, 32]⟩ : ByteArray) ++ x.param) ++ (⟨#[32, 45, 62, 32]⟩ : ByteArray)) ++ kd k 0
 else bif x.kind == 7 then (kd k 0 ++ (⟨#[32]⟩ : ByteArray)) ++ kd k 1
 else bif x.kind == 8 then (((((⟨#[108, 101, 116, 32]⟩ : ByteArray) ++ x.name) ++ (⟨#[32, 61, 32]⟩ : ByteArray)) ++ kd k 0) ++ (⟨#[32, 105, 110, 32]⟩ : ByteArray)) ++ kd k 1
 else bif x.kind == 9 then (((((((⟨#[108, 101, 116, 32, 114, 101, 99, 32]⟩ : ByteArray) ++ x.name) ++ (⟨#[32]⟩ : ByteArray)) ++ x.param) ++ (⟨#[32, 61, 32]⟩ : ByteArray)) ++ kd k 0) ++ (⟨#[32, 105, 110, 32]⟩ : ByteArray)) ++ kd k 1
 else bif x.kind == 10 then (((((⟨#[105, 102, 32]⟩ : ByteArray) ++ kd k 0) ++ (⟨#[32, 116, 104, 101, 110, 32]⟩ : ByteArray)) ++ kd k 1) ++ (⟨#[32, 101, 108, 115, 101, 32]⟩ : ByteArray)) ++ kd k 2
 else bif x.kind == 11 then ((((⟨#[109, 97, 116, 99, 104, 32]⟩ : ByteArray) ++ kd k 0) ++ (⟨#[32, 119, 105, 116, 104, 32]⟩ : ByteArray)) ++ eO (iN (k.drop 1)) (⟨#[32, 124, 32]⟩ : ByteArray)) ++ (⟨#[32, 101, 110, 100]⟩ : ByteArray)
 else bif x.kind == 12 then (kd k 0 ++ (⟨#[32, 59, 32]⟩ : ByteArray)) ++ kd k 1
 else bif x.kind == 13 then (kd k 0 ++ (⟨#[32, 58, 61, 32]⟩ : ByteArray)) ++ kd k 1
 else bif x.kind == 14 then (((kd k 0 ++ (⟨#[32]⟩ : ByteArray)) ++ x.name) ++ (⟨#[32]⟩ : ByteArray)) ++ kd k 1
 else bif x.kind == 15 then (⟨#[114, 101, 102, 32]⟩ : ByteArray) ++ kd k 0
 else bif x.kind == 16 then (⟨#[33, 32]⟩ : ByteArray) ++ kd k 0
 else bif x.kind == 17 then (⟨#[112, 114, 105, 110, 116, 32]⟩ : ByteArray) ++ kd k 0
 else bif x.kind == 19 then (⟨#[114, 97, 105, 115, 101, 32]⟩ : ByteArray) ++ kd k 0
 else ((((((⟨#[116, 114, 121, 32]⟩ : ByteArray) ++ kd k 0) ++ (⟨#[32, 119, 105, 116, 104, 32]⟩ : ByteArray)) ++ x.param) ++ (⟨#[32, 45, 62, 32]⟩ : ByteArray)) ++ kd k 1) ++ (⟨#[32, 101, 110, 100]⟩ : ByteArray)
def kU (ns : List NodeV) (x : NodeV) : Bool := x.kind == 7 && match ns[(x.kids.getD 0 0).toNat]? with
 | some y => y.kind == 5 && ((y.kids.length : Nat) : Int) == 0
 | none => false
def brk (ns : List NodeV) (x : NodeV) (k : List ByteArray) : List ByteArray := bif kU ns x then k.set 0 (((⟨#[40]⟩ : ByteArray) ++ kd k 0) ++ (⟨#[41]⟩ : ByteArray)) else k
def fC (ns : List NodeV) (x : NodeV) (k : List ByteArray) : ByteArray :=
 bif x.kind == 1 || x.kind == 23 then lW x.n
 else bif x.kind == 2 || x.kind == 24 then (bif x.n == 1 then (⟨#[116, 114, 117, 101]⟩ : ByteArray) else (⟨#[102, 97, 108, 115, 101]⟩ : ByteArray))
 else bif x.kind == 3 || x.kind == 25 then (⟨#[40, 41]⟩ : ByteArray)
 else bif x.kind == 4 || x.kind == 22 then x.name
 else bif x.kind == 21 then (⟨#[95]⟩ : ByteArray)
 else bif x.kind == 18 then (⟨#[114, 101, 97, 100]⟩ : ByteArray)
 else bif x.kind == 5 || x.kind == 26 then kI x.name k
 else ((⟨#[40]⟩ : ByteArray) ++ fX x (brk ns x k)) ++ (⟨#[41]⟩ : ByteArray)
def eM (ns : List NodeV) : Nat → Nat → ByteArray
 | 0, _ => ⟨#[]⟩
 | f + 1, a => match ns[a]? with
  | some x => fC ns x (x.kids.map fun k => eM ns f k.toNat)
  | none => ⟨#[]⟩
def fK (c : ConV) : ByteArray := match c.args with
 | [] => c.name
 | a :: r => c.name ++ ((⟨#[32, 111, 102, 32]⟩ : ByteArray) ++ eO (a :: r) (⟨#[44, 32]⟩ : ByteArray))
def pM (d : DeclV) : ByteArray := ((((⟨#[116, 121, 112, 101, 32]⟩ : ByteArray) ++ d.name) ++ (⟨#[32, 61, 32]⟩ : ByteArray)) ++ eO (d.cons.map fK) (⟨#[32, 124, 32]⟩ : ByteArray)) ++ (⟨#[32, 105, 110, 32]⟩ : ByteArray)
noncomputable def sU (t : TreeV) : ByteArray := bif fJ t then ⟨((t.types.flatMap fun d => (pM d).data.toList) ++ (eM t.nodes 60 0).data.toList).toArray⟩ else ⟨#[]⟩
def dI (k : List ByteArray) : Nat := (k.map fun s => s.size + 10).sum
theorem dE (l : List UInt8) : (⟨l.toArray⟩ : ByteArray).size = l.length := pU
theorem sz_bif {b : Bool} {x y : ByteArray} {n : Nat} (h1 : x.size ≤ n) (h2 : y.size ≤ n) : (bif b then x else y).size ≤ n := by cases b <;> assumption
theorem qA (a : ByteArray) (r : List ByteArray) : dI (a :: r) = a.size + 10 + dI r := rfl
theorem zV (k : List ByteArray) : (kd k 0).size + (kd k 1).size + (kd k 2).size ≤ dI k := by
 have e : (⟨#[]⟩ : ByteArray).size = 0 := rfl
 match k with
 | [] => simp [kd, dI, e]
 | [a] => simp [kd, dI, e]
 | [a, b] => simp [kd, dI, e]; omega
 | a :: b :: c :: r => simp [kd, dI]; omega
theorem wf6 (l : List ByteArray) (sep : ByteArray) : (eO l sep).size ≤ (l.map fun s => s.size + sep.size).sum := by
 unfold eO
 rw [dE]
 cases l with
 | nil => simp [Lib.join_nil]
 | cons a r =>
  rw [cF, Lib.join_length]
  have : ∀ l : List ByteArray, sep.data.toList.length * l.length + Lib.lens (l.map (·.data.toList)) = (l.map fun s => s.size + sep.size).sum := by
   intro l
   induction l with
   | nil => rfl
   | cons b s ih =>
    have e1 : b.data.toList.length = b.size := by rw [jA]; rfl
    have e2 : sep.data.toList.length = sep.size := by rw [jA]; rfl
    simp only [aY, cF, List.sum_cons, Lib.lens, Nat.mul_add, e1, e2] at ih ⊢
    omega
  have h := this (a :: r)
  simp only [aY, cF, List.sum_cons, eE] at h ⊢
  have e2 : sep.data.toList.length = sep.size := by rw [jA]; rfl
  rw [e2] at h ⊢
  have : sep.size * r.length ≤ sep.size * (r.length + 1) := Nat.mul_le_mul_left _ (by omega)
  omega
theorem sum_le {l : List ByteArray} {f g : ByteArray → Nat} (h : ∀ s, f s ≤ g s) : (l.map f).sum ≤ (l.map g).sum := by
 induction l with
 | nil => simp
 | cons a r ih => simp only [cF, List.sum_cons]; have := h a; omega
theorem qD (l : List ByteArray) (sep : ByteArray) (h : sep.size ≤ 10) : (eO l sep).size ≤ dI l :=
 cK (wf6 l sep) (sum_le fun s => by omega)
theorem ku9 : ∀ k : List ByteArray, ((iN k).map fun s => s.size + 3).sum ≤ dI k
 | [] => by simp [iN]
 | [a] => by simp [iN]
 | a :: b :: r => by
  have := ku9 r
  have e : ((⟨#[32, 45, 62, 32]⟩ : ByteArray)).size = 4 := rfl
  simp only [iN, cF, List.sum_cons, qA, dQ, e] at this ⊢
  omega
theorem yZ (k : List ByteArray) : (eO (iN k) (⟨#[32, 124, 32]⟩ : ByteArray)).size ≤ dI k := cK (wf6 _ _) (ku9 k)
theorem xi8 (k : List ByteArray) : (kd k 0).size + dI (k.drop 1) ≤ dI k := by
 cases k with
 | nil => exact aB _
 | cons a r => simp [kd, dI]
theorem wu2 (x : NodeV) (k : List ByteArray) : (fX x k).size ≤ x.name.size + x.param.size + 25 + dI k := by
 have h := zV k
 have h2 := yZ (k.drop 1)
 have h3 := xi8 k
 unfold fX
 repeat' refine sz_bif ?_ ?_
 all_goals
  try simp only [dQ]
  have e1 : ((⟨#[102, 117, 110, 32]⟩ : ByteArray)).size = 4 := rfl
  have e2 : ((⟨#[32, 45, 62, 32]⟩ : ByteArray)).size = 4 := rfl
  have e3 : ((⟨#[32]⟩ : ByteArray)).size = 1 := rfl
  have e4 : ((⟨#[108, 101, 116, 32]⟩ : ByteArray)).size = 4 := rfl
  have e5 : ((⟨#[32, 61, 32]⟩ : ByteArray)).size = 3 := rfl
  have e6 : ((⟨#[32, 105, 110, 32]⟩ : ByteArray)).size = 4 := rfl
  have e7 : ((⟨#[108, 101, 116, 32, 114, 101, 99, 32]⟩ : ByteArray)).size = 8 := rfl
  have e8 : ((⟨#[105, 102, 32]⟩ : ByteArray)).size = 3 := rfl
  have e9 : ((⟨#[32, 116, 104, 101, 110, 32]⟩ : ByteArray)).size = 6 := rfl
  have e10 : ((⟨#[32, 101, 108, 115, 101, 32]⟩ : ByteArray)).size = 6 := rfl
  have e11 : ((⟨#[109, 97, 116, 99, 104, 32]⟩ : ByteArray)).size = 6 := rfl
  have e12 : ((⟨#[32, 119, 105, 116, 104, 32]⟩ : ByteArray)).size = 6 := rfl
  have e13 : ((⟨#[32, 101, 110, 100]⟩ : ByteArray)).size = 4 := rfl
  have e14 : ((⟨#[32, 59, 32]⟩ : ByteArray)).size = 3 := rfl
  have e15 : ((⟨#[32, 58, 61, 32]⟩ : ByteArray)).size = 4 := rfl
  have e16 : ((⟨#[114, 101, 102, 32]⟩ : ByteArray)).size = 4 := rfl
  have e17 : ((⟨#[33, 32]⟩ : ByteArray)).size = 2 := rfl
  have e18 : ((⟨#[112, 114, 105, 110, 116, 32]⟩ : ByteArray)).size = 6 := rfl
  have e19 : ((⟨#[114, 97, 105, 115, 101, 32]⟩ : ByteArray)).size = 6 := rfl
  have e20 : ((⟨#[116, 114, 121, 32]⟩ : ByteArray)).size = 4 := rfl
  omega
theorem brk_le (ns : List NodeV) (x : NodeV) (k : List ByteArray) : dI (brk ns x k) ≤ dI k + 2 := by
 unfold brk
 cases kU ns x with
 | false => simp
 | true =>
  cases k with
  | nil => simp [dI]
  | cons a r =>
   have e1 : ((⟨#[40]⟩ : ByteArray)).size = 1 := rfl
   have e2 : ((⟨#[41]⟩ : ByteArray)).size = 1 := rfl
   simp only [aH, fS, qA, dQ, kd, List.getD_cons_zero, e1, e2]
   omega
theorem brk_len (ns : List NodeV) (x : NodeV) (k : List ByteArray) : (brk ns x k).length = k.length := by
 unfold brk
 cases kU ns x <;> simp
theorem kg1 (name : ByteArray) (k : List ByteArray) : (kI name k).size ≤ name.size + 3 + dI k := by
 cases k with
 | nil => simp [kI]; omega
 | cons a r =>
  have h := qD (a :: r) (⟨#[44, 32]⟩ : ByteArray) (by decide)
  have e1 : ((⟨#[32, 40]⟩ : ByteArray)).size = 2 := rfl
  have e2 : ((⟨#[41]⟩ : ByteArray)).size = 1 := rfl
  simp only [kI, dQ, e1, e2]
  omega
theorem kt3 (n : Int) (h : -9223372036854775808 ≤ n ∧ n ≤ 9223372036854775807) : (lW n).size ≤ 21 := by
 unfold lW
 rw [dE]
 exact Lib.itoa_length_le n h.1 h.2
theorem kx9 (ns : List NodeV) (x : NodeV) (k : List ByteArray) (hn : -9223372036854775808 ≤ x.n ∧ x.n ≤ 9223372036854775807) : (fC ns x k).size ≤ x.name.size + x.param.size + 30 + dI k := by
 have h1 := kt3 x.n hn
 have h2 := kg1 x.name k
 have h3 := wu2 x (brk ns x k)
 have h4 := brk_le ns x k
 unfold fC
 repeat' refine sz_bif ?_ ?_
 all_goals
  try simp only [dQ]
  have e1 : ((⟨#[40]⟩ : ByteArray)).size = 1 := rfl
  have e2 : ((⟨#[41]⟩ : ByteArray)).size = 1 := rfl
  have e3 : ((⟨#[116, 114, 117, 101]⟩ : ByteArray)).size = 4 := rfl
  have e4 : ((⟨#[102, 97, 108, 115, 101]⟩ : ByteArray)).size = 5 := rfl
  have e5 : ((⟨#[40, 41]⟩ : ByteArray)).size = 2 := rfl
  have e6 : ((⟨#[95]⟩ : ByteArray)).size = 1 := rfl
  have e7 : ((⟨#[114, 101, 97, 100]⟩ : ByteArray)).size = 4 := rfl
  omega
theorem yA {ns : List NodeV} {ds : List DeclV} {f d : Nat} (ih : ∀ p a z, bC ns ds d p a = some z → (eM ns f a).size + 10 ≤ 200 * (z - a)) (pat m : Bool) : ∀ (l : List Int) (i nx z : Nat), bV (bC ns ds d) pat m l i nx = some z → dI (l.map fun k => eM ns f k.toNat) ≤ 200 * (z - nx)
 | [], i, nx, z, h => by simp [dI]
 | k :: r, i, nx, z, h => by
  unfold bV at h
  cases hb : (k == ((nx : Nat) : Int)) with
  | false => rw [hb] at h; cases h
  | true =>
   rw [hb, aH] at h
   have hk : k = ((nx : Nat) : Int) := by simpa using hb
   cases hq : bC ns ds d (pat || (m && cN ((i : Nat) : Int))) nx with
   | none => rw [hq] at h; cases h
   | some z1 =>
    rw [hq] at h
    have h1 := ih _ _ _ hq
    have h3 := cT _ _ _ _ _ _ hq
    have h4 := (rZ (n := ns.length) (cT ns ds d) pat m r (i + 1) z1 z h3.2 h).1
    have h5 := yA ih pat m r (i + 1) z1 z h
    rw [cF, qA, hk, gN]
    omega
theorem vU (ns : List NodeV) (ds : List DeclV) (hn : ∀ x ∈ ns, x.name.size ≤ 60 ∧ x.param.size ≤ 60 ∧ -9223372036854775808 ≤ x.n ∧ x.n ≤ 9223372036854775807) : ∀ (d f : Nat), d ≤ f → ∀ (pat : Bool) (a z : Nat), bC ns ds d pat a = some z → (eM ns f a).size + 10 ≤ 200 * (z - a)
 | 0, f, hf, pat, a, z, h => by cases h
 | d + 1, 0, hf, pat, a, z, h => by omega
 | d + 1, f + 1, hf, pat, a, z, h => by
  have hbd := cT _ _ _ _ _ _ h
  have hlt : a < ns.length := by omega
  have hk := uE h hlt
  have h4 := (rZ (n := ns.length) (cT ns ds d) pat _ _ 0 (a + 1) z (by omega) hk).1
  obtain ⟨n1, n2, n3⟩ := hn _ (fE hlt)
  rw [eM, cX hlt]
  have h1 := yA (f := f) (vU ns ds hn d f (by omega)) pat _ _ 0 (a + 1) z hk
  have h2 := kx9 ns ns[a] (ns[a].kids.map fun k => eM ns f k.toNat) n3
  simp only
  omega
open Go.Abs
section
variable {S : St}
theorem xL (S : St) (cs : List AV) (k : Nat) : (S.newObj cs).obj k = if k = S.no then some cs else S.obj k := by
 simp only [St.newObj, St.newRaw, St.obj, PM.get_set]
 by_cases h : k = S.no
 · simp [h]
 · simp [h]
theorem ka9 (S : St) (cs : List AV) (k : Nat) (h : k ≠ S.no) : (S.newObj cs).objs.get k = S.objs.get k := by
 simp only [St.newObj, St.newRaw, PM.get_set, h, dG]
theorem xn0 {S0 : St} {x : AV} (g : Grow S0 S x) (cs : List AV) : Grow S0 (S.newObj cs) x :=
 ⟨g.nid, g.sp, g.ity, Nat.le_succ_of_le g.no, fun l hl => by
  rw [ka9 _ _ _ (by have := g.no; omega)]
  exact g.obj l hl, g.fresh, g.ver⟩
theorem wq8 {l : List ByteArray} {k : Nat} (h : k < l.length) : (aN l)[k]? = some (.sc (.string l[k])) := by simp [aN, h]
def RdS (S : St) (X : AV) (l : List ByteArray) : Prop := IsV 1 X (aN l) ∨ ∃ o off room, X = .osl o 1 off l.length room ∧ o < S.no ∧ l.length ≤ room ∧ ∃ cs, S.obj o = some cs ∧ (cs.drop off).take l.length = aN l
theorem RdS.len {X : AV} {l : List ByteArray} (h : RdS S X l) (S1 : St) : iF X S1 = some (.sc (.int .i64 (l.length : Nat)), S1) := by
 rcases h with h | ⟨o, off, room, rfl, _⟩
 · rw [h.len]; simp [aN]
 · rfl
theorem RdS.idx {X : AV} {l : List ByteArray} (h : RdS S X l) {k : Nat} (hk : k < l.length) : ∃ P, (∀ S1, bT 1 X (some (k : Int)) S1 = some (P, S1)) ∧ (∀ S1 : St, RdS S1 X l → jY false 1 P S1 = some (.sc (.string l[k]), S1)) ∧ ∀ S1 S2 : St, RdS S1 X l → Grow S1 S2 aA → mC S1 S2 P = true := by
 rcases h with h | ⟨o, off, room, rfl, ho, hr, cs, h1, h2⟩
 · exact ⟨_, fun S1 => h.idx (v := .sc (.string l[k])) (wq8 hk) rfl S1, fun S1 _ => by simp [wf4, cut_f], fun _ _ _ _ => rfl⟩
 · refine ⟨.ptr o (off + k), fun S1 => ?_, fun S1 h => ?_, fun S1 S2 h g => ?_⟩
   · simp [bT, hk]
   rotate_left
   · rcases h with (⟨h, _⟩ | ⟨id, h⟩) | ⟨o', off', room', e, ho', _⟩
     · cases h
     · cases h
     · simp only [AV.osl.injEq] at e
       obtain ⟨rfl, _⟩ := e
       exact lE ho' g _
   · rcases h with (⟨h, _⟩ | ⟨id, h⟩) | ⟨o', off', room', e, _, _, cs', h3, h4⟩
     · cases h
     · cases h
     · simp only [AV.osl.injEq] at e
       obtain ⟨rfl, _, rfl, _, rfl⟩ := e
       have : cs'[off + k]? = some (.sc (.string l[k])) := by
        have e := congrArg (fun q => q[k]?) h4
        simp only [oR, bN hk, jM, wq8 hk] at e
        exact e
       simp [aE, h3, cut_f, this]
theorem RdS.grow {S' : St} {X x : AV} {l : List ByteArray} (h : RdS S X l) (g : Grow S S' x) : RdS S' X l := by
 rcases h with h | ⟨o, off, room, rfl, ho, hr, cs, h1, h2⟩
 · exact .inl h
 · exact .inr ⟨o, off, room, rfl, aU ho g.no, hr, cs, g.objs h1 ho, h2⟩
theorem RdS.tail {X : AV} {l : List ByteArray} (h : RdS S X l) (h0 : 0 < l.length) (S1 : St) : ∃ Y, fN E 31 X (some (.sc (.int .i64 1))) none S1 = some (Y, S1) ∧ RdS S Y (l.drop 1) := by
 have hu : E.und 31 = some (.slice 9) := und31
 obtain ⟨i, hi, hs⟩ : ∃ i, E.inf 9 = some i ∧ Nat.beq i.size 1 = true := by
  have := sl31
  unfold slIs at this
  rw [hu] at this
  simp only at this
  split at this
  · rename_i i hi
    exact ⟨i, hi, this⟩
  · cases this
 rcases h with (⟨rfl, h⟩ | ⟨id, rfl⟩) | ⟨o, off, room, rfl, ho, hr, cs, h1, h2⟩
 · have := congrArg List.length h
   simp [aN] at this
   subst this
   simp at h0
 · refine ⟨.vec 0 1 (aN (l.drop 1)), ?_, .inl (.inr ⟨0, rfl⟩)⟩
   have hb : gJ (aN l).length (some (.sc (.int .i64 1))) none = some (1, l.length) := by
    have : (1 : Int) ≤ (l.length : Int) := by omega
    simp [gJ, eU, lS, this]
   have hl1 : List.take (l.length - 1) (List.drop 1 (aN l)) = aN (l.drop 1) := by
    rw [qT (by simp [lS])]
    simp [aN]
   have e10 : Nat.beq 1 0 = false := rfl
   simp only [fN, hu, hb, hi, hs, aH, e10, bK, aK, hl1]
 · refine ⟨.osl o 1 (off + 1) (l.length - 1) (room - 1), ?_, .inr ⟨o, off + 1, room - 1, by simp, ho, by rw [mK]; omega, cs, h1, ?_⟩⟩
   · have hb : gJ room (some (.sc (.int .i64 1))) (some (.sc (.int .i64 (l.length : Nat)))) = some (1, l.length) := by
      have a1 : (1 : Int) ≤ (l.length : Int) := by omega
      have a2 : (l.length : Int) ≤ (room : Int) := by omega
      simp [gJ, eU, a1, a2]
     simp only [fN, hu, hb, hi, hs, aH, Nat.one_mul]
   · have e := congrArg (fun q => q.drop 1) h2
     simp only [List.drop_take, nT] at e
     rw [mK, e]
     simp [aN]
theorem ys9 : ∀ l : List ByteArray, rE (aN l) = some l
 | [] => rfl
 | s :: r => by
  have := ys9 r
  simp only [aN, cF] at this ⊢
  simp [rE, this]
theorem xn1 : ∀ (n : Nat) (l : List ByteArray), n = l.length → kO false 1 n (aN l) = aN l
 | 0, l, h => by
  have : l = [] := List.length_eq_zero_iff.1 h.symm
  subst this; rfl
 | n + 1, [], h => by simp at h
 | n + 1, s :: r, h => by
  have := xn1 n r (by simpa using h)
  simp only [aN, cF, kO, aK, List.headD_cons, rQ, cJ] at this ⊢
  rw [this]
theorem kz9 (l : List ByteArray) : (aN l).all cB = true := by
 simp [aN, cB]
theorem RdS.elems {X : AV} {l : List ByteArray} (h : RdS S X l) : (tF S X).bind rE = some l := by
 rcases h with (⟨rfl, h⟩ | ⟨id, rfl⟩) | ⟨o, off, room, rfl, ho, hr, cs, h1, h2⟩
 · have := congrArg List.length h
   simp [aN] at this
   subst this
   rfl
 · exact ys9 l
 · have e1 : Nat.beq 1 1 = true := rfl
   have e2 : Nat.beq (aN l).length l.length = true := by rw [lS]; exact lB _
   simp only [tF, e1, aH, St.oslElems, h1, Nat.mul_one, h2, e2, kz9, bY, xn1 _ l rfl, aD, ys9]
theorem zL {X : AV} {l : List ByteArray} (h : RdS S X l) (sep : ByteArray) (h1 : l.length ≤ 1000000) (h2 : (eO l sep).size ≤ 1000000) : EvA E 110 [X, .sc (.string sep)] S (.sc (.string (eO l sep))) S := by
 refine ev_x (E := E) (f := 110) (fn := Tryz.f110) (g := oL) (by kernel_rfl) rfl ?_
 have h2' : (Lib.join (l.map (·.data.toList)) sep.data.toList).length ≤ 1000000 := by
  unfold eO at h2
  rw [dE] at h2
  exact h2
 have b1 := fT h1
 have b2 := fT h2'
 simp only [oL, h.elems, b1, b2, bY, aH]
 rfl
def MutS (b : Nat) (S : St) (X : AV) (out : List ByteArray) : Prop := (X = aA ∧ out = []) ∨ ∃ l, X = .osl l 1 0 out.length out.length ∧ b ≤ l ∧ l < S.no ∧ S.obj l = some (aN out) ∧ out ≠ []
theorem MutS.rd {b : Nat} {X : AV} {out : List ByteArray} (h : MutS b S X out) : RdS S X out := by
 rcases h with ⟨rfl, rfl⟩ | ⟨l, rfl, _, h1, h2, _⟩
 · exact .inl (.nil 1)
 · exact .inr ⟨l, 0, _, rfl, h1, aB _, _, h2, by rw [cJ, qT (by rw [lS]; exact aB _)]⟩
theorem MutS.grow {b : Nat} {S' : St} {X x : AV} {out : List ByteArray} (h : MutS b S X out) (g : Grow S S' x) : MutS b S' X out := by
 rcases h with h | ⟨l, rfl, hb, h1, h2, h3⟩
 · exact .inl h
 · exact .inr ⟨l, rfl, hb, aU h1 g.no, g.objs h2 h1, h3⟩
theorem MutS.app {b : Nat} {X : AV} {out : List ByteArray} (h : MutS b S X out) (hb : b ≤ S.no) (hl : out.length ≤ 2 ^ 40) (c : ByteArray) :
 ∃ Y S2, bD E true .append [31, 31] [X, .vec 1 1 [.sc (.string c)]] S = some (Y, S2) ∧ MutS b S2 Y (out ++ [c]) ∧ S2.no = S.no + 1 ∧ (∀ S0, Grow S0 S aA → S0.no ≤ b → Grow S0 S2 aA) ∧ (∀ k, k < b → S2.obj k = S.obj k) := by
 have hlen : (out ++ [c]).length = out.length + 1 := by simp
 have ht := el31
 unfold kA at ht
 split at ht
 · rename_i e' de i hd hde hi
   simp only [aS, gD] at ht
   obtain ⟨⟨⟨⟨⟨k1, k2⟩, k3⟩, k4⟩, k5⟩, k6⟩ := ht
   have k1 := bA k1
   have k3 := bA k3
   have k4 := bA k4
   subst k1
   have hsz : iO 1 [AV.sc (.string c)] = true := rfl
   have hfl : bR 1 [AV.sc (.string c)] = some [AV.sc (.string c)] := rfl
   rcases h with ⟨rfl, rfl⟩ | ⟨l, rfl, hbl, h1, h2, h3⟩
   · refine ⟨.osl S.no 1 0 1 1, S.newObj [.sc (.string c)], ?_, .inr ⟨S.no, rfl, hb, bJ _, by rw [xL]; simp [aN], by simp⟩, rfl, fun S0 g _ => xn0 g _, fun k hk => by rw [xL, aR (by omega)]⟩
     have hbb : Nat.ble (1 * (16 + 1)) (2 ^ 46) = true := by decide
     have k6' : Nat.blt 0 1 = true := by decide
     simp only [bD, hd, hde, hi, lH, fG, gY, k3, kH, hsz, k5, k6', bY, aH, k4, aY, bH, aF, hbb, nG, hfl]
   · have hbl1 : Nat.ble ((out.length + 1) * (16 + 1)) (2 ^ 46) = true := fT (by omega)
     have hr : Nat.ble (out.length + 1) out.length = false := by
      cases e : Nat.ble (out.length + 1) out.length
      · rfl
      · have := bW e; omega
     refine ⟨.osl S.no 1 0 (out.length + 1) (out.length + 1), (S.put l .dead).newObj (aN (out ++ [c])), ?_, .inr ⟨S.no, by rw [hlen], hb, bJ _, by rw [xL, put_no, bN rfl], by simp⟩, rfl, fun S0 g hb0 => xn0 (g.put l .dead (by omega)) _, fun k hk => ?_⟩
     · have k6' : Nat.blt 0 1 = true := by decide
       simp only [bD, hd, hde, hi, lH, fG, gY, k3, kH, hsz, k5, k6', bY, aH, k4, aY, bH, aF, hbl1, lB, rV, h2, hfl, hr, bK, aK]
       have hq' : Nat.beq (out.length * 1) (aN out).length = true := by rw [lS, Nat.mul_one]; exact lB _
       simp only [hq', aH, cJ]
       have : aN out ++ [AV.sc (.string c)] = aN (out ++ [c]) := by simp [aN]
       rw [this]
     · have : k ≠ l := by omega
       rw [xL, put_no, aR (by omega)]
       simp only [St.obj, St.put, PM.get_set, this, dG]
 · simp at ht
theorem kh1 (l : List ByteArray) (k : Nat) (v : ByteArray) : (aN l).set k (.sc (.string v)) = aN (l.set k v) := by simp [aN]
theorem MutS.set0 {b : Nat} {X : AV} {out : List ByteArray} (h : MutS b S X out) (h0 : 0 < out.length) (v : ByteArray) : ∃ P S2, (∀ S1, bT 1 X (some 0) S1 = some (P, S1)) ∧ gZ 1 P (.sc (.string v)) S = some (dB, S2) ∧ MutS b S2 X (out.set 0 v) ∧ S2.no = S.no ∧ (∀ S0, Grow S0 S aA → S0.no ≤ b → Grow S0 S2 aA) ∧ (∀ k, k < b → S2.obj k = S.obj k) := by
 rcases h with ⟨rfl, rfl⟩ | ⟨l, rfl, hbl, h1, h2, h3⟩
 · simp at h0
 · refine ⟨.ptr l 0, S.put l (.cells (aN (out.set 0 v))), fun S1 => ?_, ?_, .inr ⟨l, by rw [List.length_set], hbl, h1, by rw [aX, bN rfl], ?_⟩, rfl, fun S0 g hb0 => g.put l _ (by omega), fun k hk => by rw [aX, aR (by omega)]⟩
   · have a2 : decide (0 < out.length) = true := iI h0
     simp [bT, a2]
   · rw [qC _ _ _ rfl rfl, h2]
     have : 0 < (aN out).length := by rw [lS]; exact h0
     simp only [aD, this, fM, kh1]
   · intro e
     have := congrArg List.length e
     rw [List.length_set] at this
     simp at this
     exact h3 this
end
end Go.Proofs.YthjaoinieikjdaaGreatDoor
