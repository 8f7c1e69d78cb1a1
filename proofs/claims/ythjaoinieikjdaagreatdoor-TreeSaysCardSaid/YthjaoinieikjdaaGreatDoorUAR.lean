/-
  Rewriting rules for the evaluator's operations.
-/
import Derived.Test.YthjaoinieikjdaaGreatDoorUAQ
set_option linter.unusedSimpArgs false
set_option linter.unusedVariables false
namespace Go.Abs
noncomputable def rI (op : BinOp) (k : IntKind) (a b : Int) : Int :=
 let x := BitVec.ofInt k.bits a
 let y := BitVec.ofInt k.bits b
 k.wrap (match op with
  | .and => (x &&& y).toNat
  | .or => (x ||| y).toNat
  | .xor => (x ^^^ y).toNat
  | _ => (x &&& ~~~y).toNat : Nat)
noncomputable def intV (op : BinOp) (k : IntKind) (a b : Int) : Option AV :=
 match op with
 | .add => some (.sc (.int k (k.wrap (a + b))))
 | .sub => some (.sc (.int k (k.wrap (a - b))))
 | .mul => some (.sc (.int k (k.wrap (a * b))))
 | .and => some (.sc (.int k (rI .and k a b)))
 | .or => some (.sc (.int k (rI .or k a b)))
 | .xor => some (.sc (.int k (rI .xor k a b)))
 | .andNot => some (.sc (.int k (rI .andNot k a b)))
 | .eql => some (.sc (.bool (a == b)))
 | .neq => some (.sc (.bool (a != b)))
 | .lss => some (.sc (.bool (decide (a < b))))
 | .leq => some (.sc (.bool (decide (a ≤ b))))
 | .gtr => some (.sc (.bool (decide (b < a))))
 | .geq => some (.sc (.bool (decide (b ≤ a))))
 | _ => none
noncomputable def cQ (E : Env) (op : BinOp) (t : TypeId) (x y : Operand) (X Y : AV) (S : St) : Option (AV × St) :=
 match iZ X, iZ Y with
  | some a, some b => (cP E.P (do eqGuard op t x y a b; binOp op t a b)).map fun v => (ofV v, S)
  | _, _ => match E.und t with
   | some d => match op, vA E d X Y with
    | .eql, some r => some (.sc (.bool r), S)
    | .neq, some r => some (.sc (.bool (!r)), S)
    | _, _ => none
   | none => none
section
variable {E : Env} {tm : PM AV} {S : St} {d : Option Tmp}
theorem op_bin (op : BinOp) (t : TypeId) (x y : Operand) (u : TypeId) : opV E tm d (.binOp op t x y u) S = cQ E op t x y (E.ev tm x) (E.ev tm y) S := rfl
theorem nJ (op : BinOp) (h : op ≠ .shl ∧ op ≠ .shr ∧ op ≠ .quo ∧ op ≠ .rem) (t : TypeId) (x y : Operand) (k : IntKind) (a b : Int) {r : AV} (hr : intV op k a b = some r) :
 cQ E op t x y (.sc (.int k a)) (.sc (.int k b)) S = some (r, S) := by
 have h1 : cP E.P (do eqGuard op t x y (.int k a) (.int k b); binOp op t (.int k a) (.int k b)) = cP E.P (binOp op t (.int k a) (.int k b)) := by
  cases op <;> rfl
 simp only [cQ, iZ, h1]
 cases op <;> simp only [intV, aI, reduceCtorEq] at hr <;> first | (subst hr; simp only [binOp, ne_eq, not_true_eq_false, dG]; rfl) | simp_all
theorem b_add (t : TypeId) (x y : Operand) (k : IntKind) (a b : Int) : cQ E .add t x y (.sc (.int k a)) (.sc (.int k b)) S = some (.sc (.int k (k.wrap (a + b))), S) := nJ .add (by decide) t x y k a b rfl
theorem b_sub (t : TypeId) (x y : Operand) (k : IntKind) (a b : Int) : cQ E .sub t x y (.sc (.int k a)) (.sc (.int k b)) S = some (.sc (.int k (k.wrap (a - b))), S) := nJ .sub (by decide) t x y k a b rfl
theorem b_mul (t : TypeId) (x y : Operand) (k : IntKind) (a b : Int) : cQ E .mul t x y (.sc (.int k a)) (.sc (.int k b)) S = some (.sc (.int k (k.wrap (a * b))), S) := nJ .mul (by decide) t x y k a b rfl
theorem b_and (t : TypeId) (x y : Operand) (k : IntKind) (a b : Int) : cQ E .and t x y (.sc (.int k a)) (.sc (.int k b)) S = some (.sc (.int k (rI .and k a b)), S) := nJ .and (by decide) t x y k a b rfl
theorem b_or (t : TypeId) (x y : Operand) (k : IntKind) (a b : Int) : cQ E .or t x y (.sc (.int k a)) (.sc (.int k b)) S = some (.sc (.int k (rI .or k a b)), S) := nJ .or (by decide) t x y k a b rfl
theorem b_xor (t : TypeId) (x y : Operand) (k : IntKind) (a b : Int) : cQ E .xor t x y (.sc (.int k a)) (.sc (.int k b)) S = some (.sc (.int k (rI .xor k a b)), S) := nJ .xor (by decide) t x y k a b rfl
theorem jh2 (t : TypeId) (x y : Operand) (k : IntKind) (a b : Int) : cQ E .andNot t x y (.sc (.int k a)) (.sc (.int k b)) S = some (.sc (.int k (rI .andNot k a b)), S) := nJ .andNot (by decide) t x y k a b rfl
theorem b_eql (t : TypeId) (x y : Operand) (k : IntKind) (a b : Int) : cQ E .eql t x y (.sc (.int k a)) (.sc (.int k b)) S = some (.sc (.bool (a == b)), S) := nJ .eql (by decide) t x y k a b rfl
theorem b_neq (t : TypeId) (x y : Operand) (k : IntKind) (a b : Int) : cQ E .neq t x y (.sc (.int k a)) (.sc (.int k b)) S = some (.sc (.bool (a != b)), S) := nJ .neq (by decide) t x y k a b rfl
theorem b_lss (t : TypeId) (x y : Operand) (k : IntKind) (a b : Int) : cQ E .lss t x y (.sc (.int k a)) (.sc (.int k b)) S = some (.sc (.bool (decide (a < b))), S) := nJ .lss (by decide) t x y k a b rfl
theorem b_leq (t : TypeId) (x y : Operand) (k : IntKind) (a b : Int) : cQ E .leq t x y (.sc (.int k a)) (.sc (.int k b)) S = some (.sc (.bool (decide (a ≤ b))), S) := nJ .leq (by decide) t x y k a b rfl
theorem b_gtr (t : TypeId) (x y : Operand) (k : IntKind) (a b : Int) : cQ E .gtr t x y (.sc (.int k a)) (.sc (.int k b)) S = some (.sc (.bool (decide (b < a))), S) := nJ .gtr (by decide) t x y k a b rfl
theorem b_geq (t : TypeId) (x y : Operand) (k : IntKind) (a b : Int) : cQ E .geq t x y (.sc (.int k a)) (.sc (.int k b)) S = some (.sc (.bool (decide (b ≤ a))), S) := nJ .geq (by decide) t x y k a b rfl
theorem b_shl (t : TypeId) (x y : Operand) (k k' : IntKind) (a b : Int) (h : 0 ≤ b) : cQ E .shl t x y (.sc (.int k a)) (.sc (.int k' b)) S = some (.sc (.int k (k.wrap (a * 2 ^ min b.toNat k.bits))), S) := by
 have h2 : ¬ b < 0 := by omega
 simp only [cQ, iZ, binOp, Op.shift, h2, dG]
 rfl
theorem b_shr (t : TypeId) (x y : Operand) (k k' : IntKind) (a b : Int) (h : 0 ≤ b) : cQ E .shr t x y (.sc (.int k a)) (.sc (.int k' b)) S = some (.sc (.int k (a.fdiv (2 ^ min b.toNat k.bits))), S) := by
 have h2 : ¬ b < 0 := by omega
 simp only [cQ, iZ, binOp, Op.shift, h2, dG]
 rfl
theorem b_eqstr (t : TypeId) (x y : Operand) (a b : ByteArray) : cQ E .eql t x y (.sc (.string a)) (.sc (.string b)) S = some (.sc (.bool (a.toList == b.toList)), S) := rfl
theorem op_move (x : Operand) : opV E tm d (.move x) S = some (E.ev tm x, S) := rfl
theorem kl8 (x : Operand) : opV E tm d (.assign x) S = some (E.ev tm x, S) := rfl
noncomputable def pickV (c a b : AV) (S : St) : Option (AV × St) := match c with
 | .sc (.bool t) => some (bif t then a else b, S)
 | _ => none
theorem op_pick (c x y : Operand) : opV E tm d (.pick c x y) S = pickV (E.ev tm c) (E.ev tm x) (E.ev tm y) S := by
 simp only [opV, eV, fP, cD, aK, aW, pickV]
 rfl
theorem kk9 (t : Bool) (a b : AV) : pickV (.sc (.bool t)) a b S = some (bif t then a else b, S) := rfl
noncomputable def wv3 (t : AV) (ix : Nat) (S : St) : Option (AV × St) := match t with
 | .tup vs => (vs[ix]?).map (·, S)
 | _ => none
theorem ka3 (t : Operand) (ix : Nat) : opV E tm d (.extract t ix) S = wv3 (E.ev tm t) ix S := rfl
theorem wo1 (vs : List AV) (ix : Nat) : wv3 (.tup vs) ix S = (vs[ix]?).map (·, S) := rfl
noncomputable def unV (E : Env) (op : UnOp) (x : AV) (S : St) : Option (AV × St) := match x with
 | .sc v => (cP E.P (Op.unary op v)).map fun r => (ofV r, S)
 | _ => none
theorem op_un (op : UnOp) (t : TypeId) (x : Operand) : opV E tm d (.unOp op t x) S = unV E op (E.ev tm x) S := rfl
theorem un_not (b : Bool) : unV E .not (.sc (.bool b)) S = some (.sc (.bool (!b)), S) := rfl
noncomputable def jY (agg : Bool) (size : Nat) (x : AV) (S : St) : Option (AV × St) :=
 match x with
  | .ptr l off => match S.obj l with
   | some cs => (cut agg size cs off).map (·, S)
   | none => none
  | .eptr cs off => (cut agg size cs off).map (·, S)
  | _ => none
theorem ja6 {t : TypeId} {de : TypeDesc} {i : TypeInfo} (hd : E.und t = some de) (hi : E.inf t = some i) {b : Bool} {n : Nat} (hb : iV de = b) (hn : i.size = n) (x : AV) : mX E t x S = jY b n x S := by
 have hc : ∀ cs off, E.cutAt t cs off = cut b n cs off := fun cs off => by simp only [Env.cutAt, hd, hi, hb, hn]
 cases x <;> simp only [mX, jY, hc] <;> rfl
noncomputable def tyIs (E : Env) (t : TypeId) (b : Bool) (n : Nat) : Bool := match E.und t, E.inf t with
 | some d, some i => (iV d == b) && Nat.beq i.size n
 | _, _ => false
theorem fZ (t : TypeId) (b : Bool) (n : Nat) (h : tyIs E t b n = true) (x : Operand) : opV E tm d (.load t x) S = jY b n (E.ev tm x) S := by
 unfold tyIs at h
 split at h
 · rename_i de i hd hi
   simp only [aS, gD] at h
   exact ja6 hd hi h.1 (bA h.2) (E.ev tm x)
 · simp at h
theorem wf4 (b : Bool) (n : Nat) (cs : List AV) (off : Nat) : jY b n (.eptr cs off) S = (cut b n cs off).map (·, S) := rfl
noncomputable def gZ (size : Nat) (x y : AV) (S : St) : Option (AV × St) :=
 match x, cellsOf y with
  | .ptr l off, some vs => match S.obj l with
   | some cs => bif Nat.beq vs.length size && Nat.ble (off + vs.length) cs.length && vs.all cB then
    some (dB, S.put l (.cells (jV cs off vs))) else none
   | none => none
  | _, _ => none
theorem jS {b : Bool} (t : TypeId) (n : Nat) (h : tyIs E t b n = true) (x y : Operand) : opV E tm d (.store t x y) S = gZ n (E.ev tm x) (E.ev tm y) S := by
 unfold tyIs at h
 split at h
 · rename_i de i hd hi
   simp only [aS, gD] at h
   have hn := bA h.2
   subst hn
   show rF E t (E.ev tm x) (E.ev tm y) S = _
   generalize E.ev tm x = X
   generalize E.ev tm y = Y
   cases X <;> simp only [rF, gZ, hi]
   cases cellsOf Y <;> rfl
 · simp at h
noncomputable def bT (sz : Nat) (x : AV) (i : Option Int) (S : St) : Option (AV × St) :=
 match x, i with
 | .vec _ sz' xs, some i => bif decide (0 ≤ i) && Nat.beq sz sz' then
  match xs[i.toNat]? with
  | some v => (cellsOf v).map fun cs => (.eptr cs 0, S)
  | none => none
  else none
 | .osl l sz' off len _, some i => bif decide (0 ≤ i) && decide (i < (len : Int)) && Nat.beq sz sz' then some (.ptr l (off + i.toNat * sz'), S) else none
 | _, _ => none
theorem kz7 {t e : TypeId} {i : TypeInfo} (hd : E.und t = some (.slice e)) (hi : E.inf e = some i) {n : Nat} (hn : i.size = n) (x y : Operand) : opV E tm d (.indexAddr t x y) S = bT n (E.ev tm x) (eU (E.ev tm y)) S := by
 simp only [opV, eV, fP, cD, aK, aW, hd, bT]
 generalize E.ev tm x = X
 generalize eU (E.ev tm y) = Y
 cases X <;> cases Y <;> simp only [hi, hn] <;> rfl
noncomputable def slIs (E : Env) (t : TypeId) (n : Nat) : Bool := match E.und t with
 | some (.slice e) => match E.inf e with
  | some i => Nat.beq i.size n
  | none => false
 | _ => false
theorem qY (t : TypeId) (n : Nat) (h : slIs E t n = true) (x y : Operand) : opV E tm d (.indexAddr t x y) S = bT n (E.ev tm x) (eU (E.ev tm y)) S := by
 unfold slIs at h
 split at h
 · rename_i e hd
   split at h
   · rename_i i hi
     exact kz7 hd hi (bA h) x y
   · simp at h
 · simp at h
noncomputable def iF (x : AV) (S : St) : Option (AV × St) := (nP x).map fun n : Nat => (AV.sc (.int .i64 (n : Int)), S)
theorem qG {t e : TypeId} (hd : E.und t = some (.slice e)) (x : Operand) : opV E tm d (.call { callee := .builtin .len, args := #[x], argTypes := #[t] }) S = iF (E.ev tm x) S := by
 simp only [opV, eV, fP, cD, aK, aW, mZ, bD, cF, jQ, hd, iF]
noncomputable def minV (x y : AV) (S : St) : Option (AV × St) := match x, y with
 | .sc (.int k a), .sc (.int _ b) => some (.sc (.int k (if b < a then b else a)), S)
 | _, _ => none
theorem op_min (x y : Operand) (ats : Array TypeId) : opV E tm d (.call { callee := .builtin .min, args := #[x, y], argTypes := ats }) S = minV (E.ev tm x) (E.ev tm y) S := by
 simp only [opV, eV, fP, cD, aK, aW, mZ, bD, cF, jQ, minV]
 generalize E.ev tm x = X
 generalize E.ev tm y = Y
 cases X with
 | sc v => cases v with
  | int k a => cases Y with
   | sc w => cases w <;> rfl
   | _ => rfl
  | _ => cases Y <;> rfl
 | _ => cases Y <;> rfl
theorem kz6 (t : TypeId) (x : Operand) (lo hi : Option Operand) : opV E tm d (.slice t x lo hi none) S = fN E t (E.ev tm x) (lo.map (E.ev tm)) (hi.map (E.ev tm)) S := rfl
theorem jc5 (t : PM AV) (n m : Nat) (v : AV) : getT (t.set n v) m = if m = n then v else getT t m := by unfold getT; rw [PM.get_set]; split <;> rfl
theorem aO (t : PM AV) (n m : Nat) (v : AV) : getT (iE t (some n) v) m = if m = n then v else getT t m := jc5 t n m v
theorem kh8 (t : PM AV) (v : AV) : iE t none v = t := rfl
theorem kq2 (m : Nat) : getT .leaf m = .undef := by unfold getT; rw [PM.get_leaf]; rfl
theorem kc1 (i : Nat) (tm : PM AV) : mR i [] tm = tm := rfl
theorem wn4 (i : Nat) (a : AV) (l : List AV) (tm : PM AV) : mR i (a :: l) tm = mR (i + 1) l (iE tm (some i) a) := rfl
theorem ev_tmp (t : Nat) : E.ev tm (.tmp t) = getT tm t := rfl
theorem ev_int (k : IntKind) (n : Int) : E.ev tm (.const (.int k n)) = .sc (.int k n) := rfl
theorem ev_bool (b : Bool) : E.ev tm (.const (.bool b)) = .sc (.bool b) := rfl
theorem ev_str (b : ByteArray) : E.ev tm (.const (.string b)) = .sc (.string b) := rfl
theorem wo4 : E.ev tm (.const (.slice none 0 0)) = .sc (.slice none 0 0) := rfl
theorem int_int (k : IntKind) (n : Int) : eU (.sc (.int k n)) = some n := rfl
theorem res_nil : fB E tm S [] = some [] := rfl
theorem res_tmp (t : Nat) (l : List ResultVar) : fB E tm S (.tmp t :: l) = (fB E tm S l).map (getT tm t :: ·) := by
 simp only [fB, qP]
 cases fB E tm S l <;> rfl
end
theorem wrap_i64 {n : Int} (h0 : -9223372036854775808 ≤ n) (h1 : n ≤ 9223372036854775807) : IntKind.i64.wrap n = n := by
 simp [IntKind.wrap, IntKind.bits, IntKind.signed]
 omega
end Go.Abs
namespace Go.Abs
section
variable {E : Env} {tm : PM AV} {S : St} {d : Option Tmp}
theorem ka4 (a b : TypeId) (x : Operand) : opV E tm d (.convert a b x) S = gH E (E.hp b d) a b (E.ev tm x) S := rfl
theorem uI {mu : Bool} (a b : TypeId) (k k' : IntKind) (n : Int) (h1 : pZ E a b = false) (h2 : cP E.P (convert a b (.int k n)) = some (.int k' (k'.wrap n))) : gH E mu a b (.sc (.int k n)) S = some (.sc (.int k' (k'.wrap n)), S) := by
 simp only [gH, h1, aK, h2, iH]
 rfl
end
end Go.Abs
namespace Go.Abs
noncomputable def RetV (P : AV → St → Prop) (S : St) : Option (List AV) → Prop
 | some vs => P (pI vs) S
 | none => False
noncomputable def kB (E : Env) (rvs : List ResultVar) (P : AV → St → Prop) : kW := fun o tm S => match o with
 | .exit _ => False
 | _ => RetV P S (fB E tm S rvs)
section
variable {E : Env} {tm : PM AV} {S : St} {P : AV → St → Prop} {rvs : List ResultVar}
theorem ret_ret : kB E rvs P .ret tm S = RetV P S (fB E tm S rvs) := rfl
theorem ret_nrm : kB E rvs P .nrm tm S = RetV P S (fB E tm S rvs) := rfl
theorem kj4 (vs : List AV) : RetV P S (some vs) = P (pI vs) S := rfl
theorem pack1 (v : AV) : pI [v] = v := rfl
theorem pack2 (v w : AV) (l : List AV) : pI (v :: w :: l) = .tup (v :: w :: l) := rfl
theorem ev_ends {f : FuncId} {fn : Func} {p : PC} {nt : Nat} {args : List AV} (hf : E.fn f = some fn) (hX : E.X f = none) (hp : (fn.body.map (eH E fn.ntmps)) = some p) (hnt : fn.ntmps = nt) (hr : fn.results.toList = rvs) (hn : Nat.ble args.length nt = true)
 (h : aV E nt [.c p] .nrm (mR 0 args .leaf) S (kB E rvs P)) : ∃ r S', EvA E f args S r S' ∧ P r S' := by
 subst hnt; subst hr
 simp only [dR] at hp
 obtain ⟨c, h1, h2⟩ := hp
 obtain ⟨N, o', tm', S1, h3, h4⟩ := h
 have key : (∀ j, o' ≠ .exit j) ∧ ∃ vs, fB E tm' S1 fn.results.toList = some vs ∧ P (pI vs) S1 := by
  unfold kB at h4
  cases o' with
  | exit j => exact h4.elim
  | _ =>
   refine ⟨fun j => by simp, ?_⟩
   simp only [RetV] at h4
   split at h4
   · rename_i vs hv; exact ⟨vs, hv, h4⟩
   · exact h4.elim
 obtain ⟨k1, vs, k2, k3⟩ := key
 exact ⟨pI vs, S1, ev_of hf hX h1 h2 hn ⟨N, o', tm', S1, h3, k1, vs, k2, rfl, rfl⟩, k3⟩
end
end Go.Abs
namespace Go.Abs
section
variable {S : St}
theorem len_vec (id sz : Nat) (xs : List AV) : iF (.vec id sz xs) S = some (.sc (.int .i64 (xs.length : Nat)), S) := rfl
theorem len_nil (c : Nat) : iF (.sc (.slice none 0 c)) S = some (.sc (.int .i64 (0 : Nat)), S) := rfl
theorem yo9 (l : List UInt8) : (cO l).length = l.length := by simp [cO]
theorem bL {a b : Nat} (h : a < b) : decide ((a : Int) < (b : Int)) = true := by simp; omega
theorem bO {a b : Nat} (h : ¬ a < b) : decide ((a : Int) < (b : Int)) = false := by simp; omega
end
end Go.Abs
namespace Go.Abs
theorem cut_f (cs : List AV) (off : Nat) : cut false 1 cs off = cs[off]? := by
 simp only [cut, bB]
 by_cases h : off < cs.length
 · have : Nat.ble (off + 1) cs.length = true := fT h
   simp [this]
 · have : Nat.ble (off + 1) cs.length = false := by
    cases hb : Nat.ble (off + 1) cs.length with
    | false => rfl
    | true => exact absurd (bW hb) (by omega)
   simp [this]; omega
theorem cut_t (n : Nat) (cs : List AV) (off : Nat) : cut true n cs off = if off + n ≤ cs.length then some (.agg ((cs.drop off).take n)) else none := by
 simp only [cut, bB]
 by_cases h : off + n ≤ cs.length
 · have : Nat.ble (off + n) cs.length = true := fT h
   simp [this, h]
 · have : Nat.ble (off + n) cs.length = false := by
    cases hb : Nat.ble (off + n) cs.length with
    | false => rfl
    | true => exact absurd (bW hb) h
   simp [this, h]
end Go.Abs
namespace Go.Abs
section
variable {E : Env} {S : St}
theorem b_shl' (t : TypeId) (x y : Operand) (k k' : IntKind) (a b : Int) : cQ E .shl t x y (.sc (.int k a)) (.sc (.int k' b)) S = if b < 0 then none else some (.sc (.int k (k.wrap (a * 2 ^ min b.toNat k.bits))), S) := by
 split
 · rename_i h
   simp only [cQ, iZ, binOp, Op.shift, h, fM]
   rfl
 · rename_i h
   exact b_shl t x y k k' a b (by omega)
theorem b_shr' (t : TypeId) (x y : Operand) (k k' : IntKind) (a b : Int) : cQ E .shr t x y (.sc (.int k a)) (.sc (.int k' b)) S = if b < 0 then none else some (.sc (.int k (a.fdiv (2 ^ min b.toNat k.bits))), S) := by
 split
 · rename_i h
   simp only [cQ, iZ, binOp, Op.shift, h, fM]
   rfl
 · rename_i h
   exact b_shr t x y k k' a b (by omega)
end
end Go.Abs
namespace Go.Abs
theorem min_int {S : St} (k k2 : IntKind) (a b : Int) : minV (.sc (.int k a)) (.sc (.int k2 b)) S = some (.sc (.int k (if b < a then b else a)), S) := rfl
noncomputable def IsV (sz : Nat) (x : AV) (xs : List AV) : Prop := (x = .sc (.slice none 0 0) ∧ xs = []) ∨ ∃ id, x = .vec id sz xs
theorem IsV.vec (id sz : Nat) (xs : List AV) : IsV sz (.vec id sz xs) xs := .inr ⟨id, rfl⟩
theorem IsV.nil (sz : Nat) : IsV sz (.sc (.slice none 0 0)) [] := .inl ⟨rfl, rfl⟩
noncomputable def rL (x : AV) (a b : Nat) : AV := match x with
 | .vec id sz xs => bif Nat.beq a 0 && Nat.beq b xs.length then .vec id sz xs else .vec 0 sz ((xs.drop a).take (b - a))
 | x => x
section
variable {E : Env} {S : St} {sz : Nat} {x : AV} {xs : List AV} {tm : PM AV} {d : Option Tmp}
theorem IsV.len (h : IsV sz x xs) (S : St) : iF x S = some (.sc (.int .i64 (xs.length : Nat)), S) := by
 rcases h with ⟨rfl, rfl⟩ | ⟨id, rfl⟩ <;> rfl
theorem IsV.idx (h : IsV sz x xs) {k : Nat} {v : AV} {cs : List AV} (hk : xs[k]? = some v) (hc : cellsOf v = some cs) (S : St) : bT sz x (some (k : Int)) S = some (.eptr cs 0, S) := by
 rcases h with ⟨rfl, rfl⟩ | ⟨id, rfl⟩
 · simp at hk
 · simp [bT, hk, hc]
theorem IsV.sub (h : IsV sz x xs) (a b : Nat) (hb : b ≤ xs.length) : IsV sz (rL x a b) ((xs.drop a).take (b - a)) := by
 rcases h with ⟨rfl, rfl⟩ | ⟨id, rfl⟩
 · exact .inl ⟨rfl, by simp⟩
 · simp only [rL, bB]
   split
   · rename_i hc
     simp only [aS] at hc
     have h1 := bA hc.1
     have h2 := bA hc.2
     subst h1
     rw [cJ, h2, Nat.sub_zero, oU]
     exact IsV.vec _ _ _
   · exact IsV.vec _ _ _
theorem IsV.slice (h : IsV sz x xs) {t : TypeId} (ht : slIs E t sz = true) {lo hi : Option AV} {a b : Nat} (hb : gJ xs.length lo hi = some (a, b)) (S : St) : fN E t x lo hi S = some (rL x a b, S) := by
 unfold slIs at ht
 split at ht
 · rename_i e hd
   split at ht
   · rename_i i hi
     have hsz := bA ht
     rcases h with ⟨rfl, rfl⟩ | ⟨id, rfl⟩
     · simp at hb
       simp [fN, hd, hb, hi, rL]
     · simp only [fN, hd, hb, hi, hsz, lB, aH, rL]
       cases (Nat.beq a 0 && Nat.beq b xs.length) <;> rfl
   · simp at ht
 · simp at ht
theorem xp6 {n a : Nat} (h : a ≤ n) : gJ n (some (.sc (.int .i64 (a : Int)))) none = some (a, n) := by simp [gJ, eU, h]
theorem vL {n b : Nat} (h : b ≤ n) : gJ n none (some (.sc (.int .i64 (b : Int)))) = some (0, b) := by simp [gJ, eU, h]
theorem yv0 {n a b : Nat} (h : b ≤ n) (h2 : a ≤ b) : gJ n (some (.sc (.int .i64 (a : Int)))) (some (.sc (.int .i64 (b : Int)))) = some (a, b) := by simp [gJ, eU, h, h2]
noncomputable def OwnV (S : St) (e : TypeId) (sz : Nat) (x : AV) (xs : List AV) : Prop :=
 (x = .sc (.slice none 0 0) ∧ xs = []) ∨ ∃ id, x = .vec id sz xs ∧ (id = 1 ∨ id = 2 ∨ (S.live id = true ∧ S.ityIs id e = true))
theorem OwnV.is {e : TypeId} (h : OwnV S e sz x xs) : IsV sz x xs := by
 rcases h with h | ⟨id, h, _⟩
 · exact .inl h
 · exact .inr ⟨id, h⟩
noncomputable def St.Fresh (S : St) : Prop := 2 < S.nid ∧ ∀ i, S.nid ≤ i → S.spent.get i = none
noncomputable def fL (e : TypeId) (S : St) (x : AV) : St := match x with
 | .vec id _ _ => bif Nat.beq id 1 || Nat.beq id 2 then S.newId e else { S.newId e with spent := S.spent.set id () }
 | _ => S.newId e
theorem zE (e : TypeId) (S : St) (x : AV) : (fL e S x).nid = S.nid + 1 := by
 unfold fL
 split
 · cases (_ || _) <;> rfl
 · rfl
theorem xw6 {e : TypeId} {x : AV} {xs : List AV} (hS : S.Fresh) (h : OwnV S e sz x xs) : (fL e S x).Fresh := by
 refine ⟨by rw [zE]; have := hS.1; omega, fun i hi => ?_⟩
 rw [zE] at hi
 rcases h with ⟨rfl, _⟩ | ⟨id, rfl, hid⟩
 · exact hS.2 i (by omega)
 · simp only [fL, bB]
   split
   · exact hS.2 i (by omega)
   · rename_i hb
     simp only [eF, not_or, sX] at hb
     rcases hid with rfl | rfl | ⟨hl, _⟩
     · simp at hb
     · simp at hb
     · simp only [St.live, aS] at hl
       have : id < S.nid := bW hl.1.2
       show (S.spent.set id ()).get i = none
       rw [PM.get_set, aR (by omega)]
       exact hS.2 i (by omega)
theorem zA {e : TypeId} {x : AV} {xs zs : List AV} (hS : S.Fresh) (h : OwnV S e sz x xs) : OwnV (fL e S x) e sz (.vec S.nid sz zs) zs := by
 have hf := xw6 hS h
 have hn := zE e S x
 refine .inr ⟨S.nid, rfl, .inr (.inr ⟨?_, ?_⟩)⟩
 · simp only [St.live, aS]
   refine ⟨⟨fT hS.1, fT (by rw [hn]; exact aB _)⟩, ?_⟩
   have : (fL e S x).spent.get S.nid = none := by
    rcases h with ⟨rfl, _⟩ | ⟨id, rfl, hid⟩
    · exact hS.2 _ (aB _)
    · simp only [fL, bB]
      split
      · exact hS.2 _ (aB _)
      · rename_i hb
        simp only [eF, not_or, sX] at hb
        rcases hid with rfl | rfl | ⟨hl, _⟩
        · simp at hb
        · simp at hb
        · simp only [St.live, aS] at hl
          have : id < S.nid := bW hl.1.2
          show (S.spent.set id ()).get S.nid = none
          rw [PM.get_set, aR (by omega)]
          exact hS.2 _ (aB _)
   simp [this]
 · have : (fL e S x).ity.get S.nid = some e := by
    unfold fL
    split
    · cases (_ || _) <;> simp [St.newId, PM.get_set]
    · simp [St.newId, PM.get_set]
   simp [St.ityIs, this]
noncomputable def kA (E : Env) (t e : TypeId) (agg : Bool) (sz bytes : Nat) : Bool := match E.und t, E.und e, E.inf e with
 | some (.slice e'), some de, some i => Nat.beq e' e && (iV de == agg) && Nat.beq i.size sz && Nat.beq i.bytes bytes && wH i && Nat.blt 0 i.size
 | _, _, _ => false
theorem app_xs {e : TypeId} {ti : TypeInfo} {ys : List AV} (hS : S.Fresh) (h1 : ti.size = sz) (h2 : wH ti = true) (h3 : 0 < ti.size) (hx : OwnV S e sz x xs) (hne : ys ≠ []) (hsz : iO sz ys = true) (hb : (xs.length + ys.length) * (ti.bytes + 1) ≤ 2 ^ 46) :
 kH false e ti x ys S = some (.vec S.nid sz (xs ++ ys), fL e S x) := by
 subst h1
 cases ys with
 | nil => exact absurd rfl hne
 | cons y ys =>
  have h3' : Nat.blt 0 ti.size = true := fT h3
  simp only [kH, hsz, h2, h3', bY, aH, nG, aK]
  rcases hx with ⟨rfl, rfl⟩ | ⟨id, rfl, hid⟩
  · have : Nat.ble ((y :: ys).length * (ti.bytes + 1)) (2 ^ 46) = true := fT (by simpa using hb)
    simp only [this, aH, mL, fL]
  · have : Nat.ble ((xs.length + (y :: ys).length) * (ti.bytes + 1)) (2 ^ 46) = true := fT hb
    simp only [lB, this, bY, fL, bB]
    by_cases hc : (Nat.beq id 1 || Nat.beq id 2) = true
    · simp only [hc, fM]
    · rw [aR hc, aR hc]
      rcases hid with rfl | rfl | ⟨hl, hi⟩
      · simp at hc
      · simp at hc
      · simp [hl, hi]
theorem wq1 {t t1 e e1 : TypeId} {agg : Bool} {bytes : Nat} {X Y : AV} {ys : List AV} (ht : kA E t e agg sz bytes = true) (ht1 : E.und t1 = some (.slice e1)) (hS : S.Fresh) (hx : OwnV S e sz X xs) (hy : IsV sz Y ys) (hne : ys ≠ [])
 (hsz : iO sz ys = true) (hb : (xs.length + ys.length) * (bytes + 1) ≤ 2 ^ 46) : bD E false .append [t, t1] [X, Y] S = some (.vec S.nid sz (xs ++ ys), fL e S X) := by
 unfold kA at ht
 split at ht
 · rename_i e' de i hd hde hi
   simp only [aS, gD] at ht
   obtain ⟨⟨⟨⟨⟨k1, k2⟩, k3⟩, k4⟩, k5⟩, k6⟩ := ht
   have k1 := bA k1
   have k3 := bA k3
   have k4 := bA k4
   have k6 : 0 < i.size := bW k6
   subst k1
   rcases hy with ⟨rfl, rfl⟩ | ⟨id, rfl⟩
   · exact absurd rfl hne
   · simp only [bD, hd, ht1, hde, hi, lH, fG, gY]
     exact app_xs hS k3 k5 k6 hx hne hsz (by rw [k4]; exact hb)
 · simp at ht
theorem app_str {t t1 e : TypeId} {agg : Bool} {bytes : Nat} {X : AV} {b : ByteArray} (ht : kA E t e agg 1 bytes = true) (ht1 : E.und t1 = some .string) (hS : S.Fresh) (hx : OwnV S e 1 X xs) (hne : b.data.toList ≠ [])
 (hb : (xs.length + b.data.toList.length) * (bytes + 1) ≤ 2 ^ 46) : bD E false .append [t, t1] [X, .sc (.string b)] S = some (.vec S.nid 1 (xs ++ cO b.data.toList), fL e S X) := by
 unfold kA at ht
 split at ht
 · rename_i e' de i hd hde hi
   simp only [aS, gD] at ht
   obtain ⟨⟨⟨⟨⟨k1, k2⟩, k3⟩, k4⟩, k5⟩, k6⟩ := ht
   have k1 := bA k1
   have k3 := bA k3
   have k4 := bA k4
   have k6 : 0 < i.size := bW k6
   subst k1
   have hone : ∀ l : List UInt8, iO 1 (cO l) = true := fun l => by
    induction l with
    | nil => rfl
    | cons c l ih => simp only [cO, cF, iO, aS]; exact ⟨rfl, ih⟩
   simp only [bD, hd, ht1, hi, lH, fG, gY]
   exact app_xs hS k3 k5 k6 hx (by simpa [cO] using hne) (hone _) (by rw [k4]; simpa [cO] using hb)
 · simp at ht
structure Grow (S S' : St) (x : AV) : Prop where
 nid : S.nid ≤ S'.nid
 sp : ∀ id, id < S.nid → (∀ sz xs, x ≠ .vec id sz xs) → S'.spent.get id = S.spent.get id
 ity : ∀ id, id < S.nid → S'.ity.get id = S.ity.get id
 no : S.no ≤ S'.no
 obj : ∀ l, l < S.no → S'.objs.get l = S.objs.get l
 fresh : S'.Fresh
 ver : ∀ l, l < S.no → S'.ver l = S.ver l
abbrev aA : AV := .sc (.slice none 0 0)
theorem Grow.refl (h : S.Fresh) (x : AV) : Grow S S x := ⟨aB _, fun _ _ _ => rfl, fun _ _ => rfl, aB _, fun _ _ => rfl, h, fun _ _ => rfl⟩
theorem Grow.trans {S1 S2 : St} {y : AV} (h : Grow S S1 x) (k : Grow S1 S2 y) (hy : y = x ∨ y = aA ∨ ∃ id sz xs, y = .vec id sz xs ∧ S.nid ≤ id) : Grow S S2 x := by
 refine ⟨cK h.nid k.nid, fun id hid hne => ?_, fun id hid => (k.ity id (aU hid h.nid)).trans (h.ity id hid), cK h.no k.no, fun l hl => (k.obj l (aU hl h.no)).trans (h.obj l hl), k.fresh, fun l hl => (k.ver l (aU hl h.no)).trans (h.ver l hl)⟩
 refine (k.sp id (aU hid h.nid) fun sz xs e => ?_).trans (h.sp id hid hne)
 rcases hy with rfl | rfl | ⟨id2, sz2, xs2, rfl, h2⟩
 · exact hne _ _ e
 · cases e
 · cases e; omega
theorem Grow.two {S S1 S2 : St} (h : Grow S S1 aA) (k : Grow S1 S2 aA) : Grow S S2 aA := h.trans k (.inl rfl)
theorem Grow.app {e : TypeId} {x : AV} {xs : List AV} (hS : S.Fresh) (h : OwnV S e sz x xs) : Grow S (fL e S x) x := by
 refine ⟨by rw [zE]; omega, fun id hid hne => ?_, fun id hid => ?_, ?_, fun l _ => ?_, xw6 hS h, fun l _ => ?_⟩
 · rcases h with ⟨rfl, _⟩ | ⟨i, rfl, _⟩
   · rfl
   · simp only [fL]
     cases (Nat.beq i 1 || Nat.beq i 2) with
     | true => rfl
     | false =>
      show (S.spent.set i ()).get id = _
      rw [PM.get_set, aR (fun e => hne _ _ (by rw [e]))]
 · have : ∀ S' : St, S'.ity = S.ity.set S.nid e → S'.ity.get id = S.ity.get id := fun S' h => by rw [h, PM.get_set, aR (by omega)]
   refine this _ ?_
   unfold fL
   split
   · cases (_ || _) <;> rfl
   · rfl
 · unfold fL
   split
   · cases (_ || _) <;> exact aB _
   · exact aB _
 · unfold fL
   split
   · cases (_ || _) <;> rfl
   · rfl
 · unfold fL
   split
   · cases (_ || _) <;> rfl
   · rfl
theorem Grow.raise (h : S.Fresh) (n : Nat) (x : AV) : Grow S (S.raise n) x := ⟨aB _, fun _ _ _ => rfl, fun _ _ => rfl, oS _ _, fun _ _ => rfl, h, fun _ _ => rfl⟩
theorem OwnV.grow {S' : St} {e : TypeId} {x y : AV} {xs : List AV} (h : OwnV S e sz x xs) (g : Grow S S' y) (hne : ∀ id sz1 xs1 sz2 xs2, x = .vec id sz1 xs1 → y = .vec id sz2 xs2 → id ≤ 2) : OwnV S' e sz x xs := by
 rcases h with h | ⟨id, rfl, hid⟩
 · exact .inl h
 · refine .inr ⟨id, rfl, ?_⟩
   rcases hid with h | h | ⟨h1, h2⟩
   · exact .inl h
   · exact .inr (.inl h)
   · have hlt : 2 < id ∧ id < S.nid ∧ S.spent.get id = none := by
      simp only [St.live, aS] at h1
      exact ⟨bW h1.1.1, bW h1.1.2, by simpa using h1.2⟩
     refine .inr (.inr ⟨?_, ?_⟩)
     · simp only [St.live, aS]
       refine ⟨⟨fT hlt.1, fT (aU hlt.2.1 g.nid)⟩, ?_⟩
       rw [g.sp id hlt.2.1 (fun sz1 xs1 e => by have := hne id _ _ _ _ rfl e; omega), hlt.2.2]
       rfl
     · have := g.ity id hlt.2.1
       simp only [St.ityIs, this] at h2 ⊢
       exact h2
end
noncomputable def isDst : Option Tmp → Nat → Bool
 | some k, n => k == n
 | none, _ => false
noncomputable def nN : Op → Option Operand
 | .load _ a => some a
 | .convert _ _ a => some a
 | .slice _ a _ _ _ => some a
 | .lookup _ a _ _ => some a
 | .call c => match c.callee with
  | .builtin .len => c.args.toList.head?
  | _ => none
 | _ => none
section
variable {E : Env} {call : eS} {nt : Nat}
noncomputable def kl9 : Operand → Option Tmp → Bool
 | .tmp t, some d => !Nat.beq t d
 | _, _ => true
noncomputable def iU (a : Operand) : List Oper → Bool
 | [] => true
 | o :: r => kl9 a o.dst && iU a r
noncomputable def wg6 (E : Env) (m : PM Nat) (all : List Oper) : Nat → List Oper → Option (List Operand)
 | _, [] => some []
 | i, o :: r => match wg6 E m all (i + 1) r with
  | none => none
  | some l => bif !gW o.op || mQ E m i o 0 all then some l else match nN o.op with
   | some a => bif iU a (o :: r) then some (a :: l) else none
   | none => none
theorem vP {tm tm1 : PM AV} {dst : Option Tmp} {v : AV} {a : Operand} (h : gC nt dst v tm = some tm1) (hn : kl9 a dst = true) : E.ev tm1 a = E.ev tm a := by
 cases dst with
 | none => simp only [gC, aI] at h; rw [h]
 | some d =>
  simp only [gC] at h
  cases hb : Nat.blt d nt with
  | false => rw [hb] at h; simp at h
  | true =>
   rw [hb] at h
   simp only [aH, aI] at h
   subst h
   cases a with
   | tmp t =>
    have hne : t ≠ d := fun e => by subst e; simp [kl9] at hn
    simp only [Env.ev, getT, PM.get_set, hne, dG]
   | _ => rfl
theorem yH {ops : Array Oper} {a : Operand} : ∀ (l : List Oper) (tm : PM AV) (S : St) (tm' : PM AV) (S' : St), eP E call nt ops l tm S = some (tm', S') → iU a l = true → E.ev tm' a = E.ev tm a
 | [], tm, S, tm', S', h, _ => by
  simp only [eP, aI, aJ] at h
  rw [h.1]
 | o :: l, tm, S, tm', S', h, hn => by
  simp only [iU, aS] at hn
  simp only [eP] at h
  split at h
  · simp at h
  · split at h
    · rename_i tm1 hp
      rw [yH l _ _ _ _ h hn.2, vP hp hn.1]
    · simp at h
  · split at h
    · simp at h
    · split at h
      · rename_i tm1 hp
        rw [yH l _ _ _ _ h hn.2, vP hp hn.1]
      · simp at h
structure DrawIs (E : Env) (nt : Nat) (ops : Array Oper) (n : Nat) (l : List POp) (az : List Operand) : Prop where
 size : ops.size = n
 pops : lJ nt ops ops.toList = some l
 pairs : mP E ops (eN 0 ops.toList .leaf) 0 ops.toList = true
 nomk : ops.toList.all (fun o => !cD E o) = true
 loads : wg6 E (eN 0 ops.toList .leaf) ops.toList 0 ops.toList = some az
noncomputable def PC.draws : PC → List (Array Oper)
 | .draw ops => [ops]
 | .seq a b => a.draws ++ b.draws
 | .cond _ a b => a.draws ++ b.draws
 | .block _ a => a.draws
 | .loop a => a.draws
 | _ => []
end
noncomputable def rG : AV → Option Nat
 | .ptr l _ => some l
 | .osl l _ _ _ _ => some l
 | .mp l => some l
 | _ => none
section
variable {E : Env} {call : eS} {nt : Nat}
theorem xy4 {tm : PM AV} {o : Oper} {l : Nat} (h : eQ E tm o = some l) : ∃ a, nN o.op = some a ∧ rG (E.ev tm a) = some l := by
 obtain ⟨dst, op, ty, pos, after, guard⟩ := o
 cases op with
 | load t a =>
  refine ⟨a, rfl, ?_⟩
  simp only [eQ] at h
  split at h
  · rename_i e; rw [e]; exact h
  · cases h
 | convert t u a =>
  refine ⟨a, rfl, ?_⟩
  simp only [eQ] at h
  split at h
  · rename_i e; rw [e]; exact h
  · rename_i e; rw [e]; exact h
  · cases h
 | slice t a lo hi mx =>
  refine ⟨a, rfl, ?_⟩
  cases mx with
  | some m => simp only [eQ] at h; cases h
  | none =>
   simp only [eQ] at h
   split at h
   · rename_i e; rw [e]; exact h
   · cases h
 | lookup t a i ok =>
  refine ⟨a, rfl, ?_⟩
  simp only [eQ] at h
  split at h
  · rename_i e; rw [e]; exact h
  · cases h
 | call c =>
  obtain ⟨callee, args, ats⟩ := c
  cases callee with
  | builtin b =>
   cases b <;> simp only [eQ] at h <;> try cases h
   split at h
   · rename_i l' e
     cases ha : args.toList with
     | nil => rw [ha] at e; cases e
     | cons a r =>
      rw [ha] at e
      simp only [cF, List.cons.injEq] at e
      refine ⟨a, by simp only [nN, ha]; rfl, ?_⟩
      rw [e.1]; exact h
   · cases h
  | _ => simp only [eQ] at h; cases h
 | _ => simp only [eQ] at h; cases h
theorem yo5 (hc : gV call) {ops : Array Oper} {m : PM Nat} {b0 : Nat} (hmk : ops.toList.all (fun o => !cD E o) = true) : ∀ (l : List Oper) (i : Nat) (tm : PM AV) (S : St) (tm' : PM AV) (S' : St), ops.toList.drop i = l → eP E call nt ops l tm S = some (tm', S') →
 ∃ hist ls, eX E call nt ops m b0 i l tm S = some (tm', S', hist, ls) ∧ (∀ h ∈ hist, ∃ o, ops[h.1]? = some o ∧ eK E o.op = true ∧ Evo S h.2.1 ∧ Evo h.2.1 h.2.2 ∧ Evo h.2.2 S') ∧
  (∀ p ∈ ls, ∃ o, ops[p.1]? = some o ∧ gW o.op = true ∧ ∃ a, nN o.op = some a ∧ (iU a (ops.toList.drop p.1) = true → rG (E.ev tm' a) = some p.2.1))
 | [], i, tm, S, tm', S', _, h => by
  simp only [eP, aI, aJ] at h
  obtain ⟨rfl, rfl⟩ := h
  exact ⟨[], [], rfl, by simp, by simp⟩
 | o :: l, i, tm, S, tm', S', hd, h => by
  have hwhole := h
  have hko : ops[i]? = some o := by
   have h0 : (ops.toList.drop i)[0]? = some o := by rw [hd]; rfl
   rw [jM] at h0
   simpa using h0
  have hrest : ops.toList.drop (i + 1) = l := by rw [← nT, hd]; rfl
  have hmo : cD E o = false := by
   have := List.all_eq_true.1 hmk o (by simpa using Array.mem_of_getElem? hko)
   simpa using this
  have hm0 := fun k => vR hmk k
  simp only [eP] at h
  simp only [eX]
  split at h
  · simp at h
  · split at h
    · rename_i tm1 hp
      exact yo5 hc hmk l (i + 1) _ _ _ _ hrest h
    · simp at h
  · simp only [eV, hmo, aK] at h ⊢
    split at h
    · simp at h
    · rename_i v S1 hev
      split at h
      · rename_i tm1 hp
        have hev1 : Evo S S1 := qX hc o hmo hev
        have hev2 : Evo S1 S' := vN hc _ _ _ _ _ h
        obtain ⟨hist, ls, hgo, h1, h2⟩ := yo5 hc hmk l (i + 1) _ _ _ _ hrest h
        have h1' : ∀ h ∈ hist, ∃ o, ops[h.1]? = some o ∧ eK E o.op = true ∧ Evo S h.2.1 ∧ Evo h.2.1 h.2.2 ∧ Evo h.2.2 S' := fun x hx => by
         obtain ⟨o2, a1, a2, a3, a4⟩ := h1 x hx
         exact ⟨o2, a1, a2, hev1.trans a3, a4⟩
        cases hq : eK E o.op with
        | true =>
         have e1 : S.masked (dF E ops) m b0 i = S := by
          unfold St.masked; rw [xZ hm0]
         have e2 : S1.unmasked S (dF E ops) m b0 i = S1 := by
          unfold St.unmasked; rw [xF hm0]
         simp only [aH, e1, hev, hp, e2]
         rw [hgo]
         refine ⟨_, _, rfl, fun x hx => ?_, h2⟩
         rcases List.mem_cons.1 hx with rfl | hx
         · exact ⟨o, hko, hq, Evo.refl _, hev1, hev2⟩
         · exact h1' x hx
        | false =>
         simp only [aK]
         rw [hgo]
         refine ⟨_, _, rfl, h1', fun x hx => ?_⟩
         cases hld : eQ E tm o with
         | none => rw [hld] at hx; exact h2 x hx
         | some b =>
          rw [hld] at hx
          rcases List.mem_cons.1 hx with rfl | hx
          · obtain ⟨a, ha, hob⟩ := xy4 hld
            refine ⟨o, hko, ?_, a, ha, fun hn => ?_⟩
            · cases hml : gW o.op with
              | true => rfl
              | false => rw [xB hml] at hld; simp at hld
            · simp only [hd] at hn
              rw [yH _ _ _ _ _ hwhole hn]
              exact hob
          · exact h2 x hx
      · simp at h
noncomputable def mC (S S' : St) (x : AV) : Bool := match rG x with
 | none => true
 | some l => Nat.blt l S.no && Nat.beq (S.ver l) (S'.ver l)
noncomputable def uM (E : Env) (S S' : St) (tm : PM AV) (az : List Operand) : Bool := az.all fun a => mC S S' (E.ev tm a)
theorem gG (S S' : St) (tm : PM AV) : uM E S S' tm [] = true := rfl
theorem gF (S S' : St) (tm : PM AV) (a : Operand) (r : List Operand) : uM E S S' tm (a :: r) = (mC S S' (E.ev tm a) && uM E S S' tm r) := by simp [uM]
theorem xU (S S' : St) (cs : List AV) (o : Nat) : mC S S' (.eptr cs o) = true := rfl
theorem ky2 (S S' : St) (id sz : Nat) (xs : List AV) : mC S S' (.vec id sz xs) = true := rfl
theorem vI (S S' : St) (v : Value) : mC S S' (.sc v) = true := rfl
theorem sY (S S' : St) : mC S S' dB = true := rfl
theorem yh3 (S S' : St) (cs : List AV) : mC S S' (.agg cs) = true := rfl
theorem ki1 {S S' : St} {x : AV} {sz : Nat} {xs : List AV} (h : IsV sz x xs) : mC S S' x = true := by
 rcases h with ⟨rfl, _⟩ | ⟨id, rfl⟩ <;> rfl
theorem lE {S S' : St} {y : AV} {l : Nat} (hl : l < S.no) (g : Grow S S' y) (off : Nat) : mC S S' (.ptr l off) = true := by
 have h1 : Nat.blt l S.no = true := fT hl
 simp only [mC, rG, h1, g.ver l hl, lB, bY]
end
end Go.Abs
