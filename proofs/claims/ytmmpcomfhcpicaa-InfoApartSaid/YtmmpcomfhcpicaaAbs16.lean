/-
  Rewriting rules for the evaluator's operations.
-/
import Derived.Test.YtmmpcomfhcpicaaAbs15
set_option linter.unusedSimpArgs false
set_option linter.unusedVariables false
namespace Go.Abs

def bitsV (op : BinOp) (k : IntKind) (a b : Int) : Int :=
  let x := BitVec.ofInt k.bits a
  let y := BitVec.ofInt k.bits b
  k.wrap (match op with
    | .and => (x &&& y).toNat
    | .or => (x ||| y).toNat
    | .xor => (x ^^^ y).toNat
    | _ => (x &&& ~~~y).toNat : Nat)

/-- Two numbers of one kind. -/
def intV (op : BinOp) (k : IntKind) (a b : Int) : Option AV :=
  match op with
  | .add => some (.sc (.int k (k.wrap (a + b))))
  | .sub => some (.sc (.int k (k.wrap (a - b))))
  | .mul => some (.sc (.int k (k.wrap (a * b))))
  | .and => some (.sc (.int k (bitsV .and k a b)))
  | .or => some (.sc (.int k (bitsV .or k a b)))
  | .xor => some (.sc (.int k (bitsV .xor k a b)))
  | .andNot => some (.sc (.int k (bitsV .andNot k a b)))
  | .eql => some (.sc (.bool (a == b)))
  | .neq => some (.sc (.bool (a != b)))
  | .lss => some (.sc (.bool (decide (a < b))))
  | .leq => some (.sc (.bool (decide (a ≤ b))))
  | .gtr => some (.sc (.bool (decide (b < a))))
  | .geq => some (.sc (.bool (decide (b ≤ a))))
  | _ => none

/-- What stands where neither rule of numbers serves. -/
def binGen (E : Env) (op : BinOp) (t : TypeId) (x y : Operand) (X Y : AV) (S : St) : Option (AV × St) :=
  match conc X, conc Y with
    | some a, some b => (peek E.P (do eqGuard op t x y a b; binOp op t a b)).map fun v => (ofV v, S)
    | _, _ => match E.und t with
      | some d => match op, eqNil E d X Y with
        | .eql, some r => some (.sc (.bool r), S)
        | .neq, some r => some (.sc (.bool (!r)), S)
        | _, _ => none
      | none => none

section
variable {E : Env} {tm : PM AV} {S : St} {d : Option Tmp}

theorem op_bin (op : BinOp) (t : TypeId) (x y : Operand) (u : TypeId) : opV E tm d (.binOp op t x y u) S = binGen E op t x y (E.ev tm x) (E.ev tm y) S := rfl

theorem bin_int (op : BinOp) (h : op ≠ .shl ∧ op ≠ .shr ∧ op ≠ .quo ∧ op ≠ .rem) (t : TypeId) (x y : Operand) (k : IntKind) (a b : Int) {r : AV} (hr : intV op k a b = some r) :
    binGen E op t x y (.sc (.int k a)) (.sc (.int k b)) S = some (r, S) := by
  have h1 : peek E.P (do eqGuard op t x y (.int k a) (.int k b); binOp op t (.int k a) (.int k b)) = peek E.P (binOp op t (.int k a) (.int k b)) := by
    cases op <;> rfl
  simp only [binGen, conc, h1]
  cases op <;> simp only [intV, Option.some.injEq, reduceCtorEq] at hr <;> first | (subst hr; simp only [binOp, ne_eq, not_true_eq_false, if_false]; rfl) | simp_all

theorem b_add (t : TypeId) (x y : Operand) (k : IntKind) (a b : Int) : binGen E .add t x y (.sc (.int k a)) (.sc (.int k b)) S = some (.sc (.int k (k.wrap (a + b))), S) := bin_int .add (by decide) t x y k a b rfl
theorem b_sub (t : TypeId) (x y : Operand) (k : IntKind) (a b : Int) : binGen E .sub t x y (.sc (.int k a)) (.sc (.int k b)) S = some (.sc (.int k (k.wrap (a - b))), S) := bin_int .sub (by decide) t x y k a b rfl
theorem b_mul (t : TypeId) (x y : Operand) (k : IntKind) (a b : Int) : binGen E .mul t x y (.sc (.int k a)) (.sc (.int k b)) S = some (.sc (.int k (k.wrap (a * b))), S) := bin_int .mul (by decide) t x y k a b rfl
theorem b_and (t : TypeId) (x y : Operand) (k : IntKind) (a b : Int) : binGen E .and t x y (.sc (.int k a)) (.sc (.int k b)) S = some (.sc (.int k (bitsV .and k a b)), S) := bin_int .and (by decide) t x y k a b rfl
theorem b_or (t : TypeId) (x y : Operand) (k : IntKind) (a b : Int) : binGen E .or t x y (.sc (.int k a)) (.sc (.int k b)) S = some (.sc (.int k (bitsV .or k a b)), S) := bin_int .or (by decide) t x y k a b rfl
theorem b_xor (t : TypeId) (x y : Operand) (k : IntKind) (a b : Int) : binGen E .xor t x y (.sc (.int k a)) (.sc (.int k b)) S = some (.sc (.int k (bitsV .xor k a b)), S) := bin_int .xor (by decide) t x y k a b rfl
theorem b_andNot (t : TypeId) (x y : Operand) (k : IntKind) (a b : Int) : binGen E .andNot t x y (.sc (.int k a)) (.sc (.int k b)) S = some (.sc (.int k (bitsV .andNot k a b)), S) := bin_int .andNot (by decide) t x y k a b rfl
theorem b_eql (t : TypeId) (x y : Operand) (k : IntKind) (a b : Int) : binGen E .eql t x y (.sc (.int k a)) (.sc (.int k b)) S = some (.sc (.bool (a == b)), S) := bin_int .eql (by decide) t x y k a b rfl
theorem b_neq (t : TypeId) (x y : Operand) (k : IntKind) (a b : Int) : binGen E .neq t x y (.sc (.int k a)) (.sc (.int k b)) S = some (.sc (.bool (a != b)), S) := bin_int .neq (by decide) t x y k a b rfl
theorem b_lss (t : TypeId) (x y : Operand) (k : IntKind) (a b : Int) : binGen E .lss t x y (.sc (.int k a)) (.sc (.int k b)) S = some (.sc (.bool (decide (a < b))), S) := bin_int .lss (by decide) t x y k a b rfl
theorem b_leq (t : TypeId) (x y : Operand) (k : IntKind) (a b : Int) : binGen E .leq t x y (.sc (.int k a)) (.sc (.int k b)) S = some (.sc (.bool (decide (a ≤ b))), S) := bin_int .leq (by decide) t x y k a b rfl
theorem b_gtr (t : TypeId) (x y : Operand) (k : IntKind) (a b : Int) : binGen E .gtr t x y (.sc (.int k a)) (.sc (.int k b)) S = some (.sc (.bool (decide (b < a))), S) := bin_int .gtr (by decide) t x y k a b rfl
theorem b_geq (t : TypeId) (x y : Operand) (k : IntKind) (a b : Int) : binGen E .geq t x y (.sc (.int k a)) (.sc (.int k b)) S = some (.sc (.bool (decide (b ≤ a))), S) := bin_int .geq (by decide) t x y k a b rfl
theorem b_shl (t : TypeId) (x y : Operand) (k k' : IntKind) (a b : Int) (h : 0 ≤ b) : binGen E .shl t x y (.sc (.int k a)) (.sc (.int k' b)) S = some (.sc (.int k (k.wrap (a * 2 ^ min b.toNat k.bits))), S) := by
  have h2 : ¬ b < 0 := by omega
  simp only [binGen, conc, binOp, Op.shift, h2, if_false]
  rfl
theorem b_shr (t : TypeId) (x y : Operand) (k k' : IntKind) (a b : Int) (h : 0 ≤ b) : binGen E .shr t x y (.sc (.int k a)) (.sc (.int k' b)) S = some (.sc (.int k (a.fdiv (2 ^ min b.toNat k.bits))), S) := by
  have h2 : ¬ b < 0 := by omega
  simp only [binGen, conc, binOp, Op.shift, h2, if_false]
  rfl
theorem b_eqstr (t : TypeId) (x y : Operand) (a b : ByteArray) : binGen E .eql t x y (.sc (.string a)) (.sc (.string b)) S = some (.sc (.bool (a.toList == b.toList)), S) := rfl

theorem op_move (x : Operand) : opV E tm d (.move x) S = some (E.ev tm x, S) := rfl
theorem op_assign (x : Operand) : opV E tm d (.assign x) S = some (E.ev tm x, S) := rfl
def pickV (c a b : AV) (S : St) : Option (AV × St) := match c with
  | .sc (.bool t) => some (bif t then a else b, S)
  | _ => none
theorem op_pick (c x y : Operand) : opV E tm d (.pick c x y) S = pickV (E.ev tm c) (E.ev tm x) (E.ev tm y) S := by
  simp only [opV, evOp, opOf, isMk, cond_false, evPlain, pickV]
  rfl
theorem pick_bool (t : Bool) (a b : AV) : pickV (.sc (.bool t)) a b S = some (bif t then a else b, S) := rfl
def extractV (t : AV) (ix : Nat) (S : St) : Option (AV × St) := match t with
  | .tup vs => (vs[ix]?).map (·, S)
  | _ => none
theorem op_extract (t : Operand) (ix : Nat) : opV E tm d (.extract t ix) S = extractV (E.ev tm t) ix S := rfl
theorem extract_tup (vs : List AV) (ix : Nat) : extractV (.tup vs) ix S = (vs[ix]?).map (·, S) := rfl
def unV (E : Env) (op : UnOp) (x : AV) (S : St) : Option (AV × St) := match x with
  | .sc v => (peek E.P (Op.unary op v)).map fun r => (ofV r, S)
  | _ => none
theorem op_un (op : UnOp) (t : TypeId) (x : Operand) : opV E tm d (.unOp op t x) S = unV E op (E.ev tm x) S := rfl
theorem un_not (b : Bool) : unV E .not (.sc (.bool b)) S = some (.sc (.bool (!b)), S) := rfl

theorem op_load (t : TypeId) (x : Operand) : opV E tm d (.load t x) S = loadA E t (E.ev tm x) S := rfl
def loadC (agg : Bool) (size : Nat) (x : AV) (S : St) : Option (AV × St) :=
  match x with
    | .ptr l off => match S.obj l with
      | some cs => (cut agg size cs off).map (·, S)
      | none => none
    | .eptr cs off => (cut agg size cs off).map (·, S)
    | _ => none
theorem loadA_of {t : TypeId} {de : TypeDesc} {i : TypeInfo} (hd : E.und t = some de) (hi : E.inf t = some i) {b : Bool} {n : Nat} (hb : isAggD de = b) (hn : i.size = n) (x : AV) : loadA E t x S = loadC b n x S := by
  have hc : ∀ cs off, E.cutAt t cs off = cut b n cs off := fun cs off => by simp only [Env.cutAt, hd, hi, hb, hn]
  cases x <;> simp only [loadA, loadC, hc] <;> rfl
def tyIs (E : Env) (t : TypeId) (b : Bool) (n : Nat) : Bool := match E.und t, E.inf t with
  | some d, some i => (isAggD d == b) && Nat.beq i.size n
  | _, _ => false
theorem load_chk (t : TypeId) (b : Bool) (n : Nat) (h : tyIs E t b n = true) (x : Operand) : opV E tm d (.load t x) S = loadC b n (E.ev tm x) S := by
  unfold tyIs at h
  split at h
  · rename_i de i hd hi
    simp only [Bool.and_eq_true, beq_iff_eq] at h
    exact loadA_of hd hi h.1 (Nat.eq_of_beq_eq_true h.2) (E.ev tm x)
  · simp at h
theorem load_e1 (v : AV) : loadC false 1 (.eptr [v] 0) S = some (v, S) := rfl
theorem load_e (b : Bool) (n : Nat) (cs : List AV) (off : Nat) : loadC b n (.eptr cs off) S = (cut b n cs off).map (·, S) := rfl
theorem load_p {b : Bool} {n l off : Nat} {cs : List AV} (h : S.obj l = some cs) : loadC b n (.ptr l off) S = (cut b n cs off).map (·, S) := by simp only [loadC, h]
def storeC (size : Nat) (x y : AV) (S : St) : Option (AV × St) :=
  match x, cellsOf y with
    | .ptr l off, some vs => match S.obj l with
      | some cs => bif Nat.beq vs.length size && Nat.ble (off + vs.length) cs.length && vs.all okCell then
          some (passed, S.put l (.cells (splice cs off vs))) else none
      | none => none
    | _, _ => none
theorem store_chk {b : Bool} (t : TypeId) (n : Nat) (h : tyIs E t b n = true) (x y : Operand) : opV E tm d (.store t x y) S = storeC n (E.ev tm x) (E.ev tm y) S := by
  unfold tyIs at h
  split at h
  · rename_i de i hd hi
    simp only [Bool.and_eq_true, beq_iff_eq] at h
    have hn := Nat.eq_of_beq_eq_true h.2
    subst hn
    show storeA E t (E.ev tm x) (E.ev tm y) S = _
    generalize E.ev tm x = X
    generalize E.ev tm y = Y
    cases X <;> simp only [storeA, storeC, hi]
    cases cellsOf Y <;> rfl
  · simp at h

def idxV (sz : Nat) (x : AV) (i : Option Int) (S : St) : Option (AV × St) :=
  match x, i with
  | .vec _ sz' xs, some i => bif decide (0 ≤ i) && Nat.beq sz sz' then
      match xs[i.toNat]? with
      | some v => (cellsOf v).map fun cs => (.eptr cs 0, S)
      | none => none
    else none
  | .osl l sz' off len _, some i => bif decide (0 ≤ i) && decide (i < (len : Int)) && Nat.beq sz sz' then some (.ptr l (off + i.toNat * sz'), S) else none
  | _, _ => none
theorem op_index {t e : TypeId} {i : TypeInfo} (hd : E.und t = some (.slice e)) (hi : E.inf e = some i) {n : Nat} (hn : i.size = n) (x y : Operand) : opV E tm d (.indexAddr t x y) S = idxV n (E.ev tm x) (int? (E.ev tm y)) S := by
  simp only [opV, evOp, opOf, isMk, cond_false, evPlain, hd, idxV]
  generalize E.ev tm x = X
  generalize int? (E.ev tm y) = Y
  cases X <;> cases Y <;> simp only [hi, hn] <;> rfl
def slIs (E : Env) (t : TypeId) (n : Nat) : Bool := match E.und t with
  | some (.slice e) => match E.inf e with
    | some i => Nat.beq i.size n
    | none => false
  | _ => false
theorem index_chk (t : TypeId) (n : Nat) (h : slIs E t n = true) (x y : Operand) : opV E tm d (.indexAddr t x y) S = idxV n (E.ev tm x) (int? (E.ev tm y)) S := by
  unfold slIs at h
  split at h
  · rename_i e hd
    split at h
    · rename_i i hi
      exact op_index hd hi (Nat.eq_of_beq_eq_true h) x y
    · simp at h
  · simp at h
def lenV (x : AV) (S : St) : Option (AV × St) := (lenS x).map fun n : Nat => (AV.sc (.int .i64 (n : Int)), S)
theorem op_len {t e : TypeId} (hd : E.und t = some (.slice e)) (x : Operand) : opV E tm d (.call { callee := .builtin .len, args := #[x], argTypes := #[t] }) S = lenV (E.ev tm x) S := by
  simp only [opV, evOp, opOf, isMk, cond_false, evPlain, callA, builtinA, List.map_cons, List.map_nil, hd, lenV]
def minV (x y : AV) (S : St) : Option (AV × St) := match x, y with
  | .sc (.int k a), .sc (.int _ b) => some (.sc (.int k (if b < a then b else a)), S)
  | _, _ => none
theorem op_min (x y : Operand) (ats : Array TypeId) : opV E tm d (.call { callee := .builtin .min, args := #[x, y], argTypes := ats }) S = minV (E.ev tm x) (E.ev tm y) S := by
  simp only [opV, evOp, opOf, isMk, cond_false, evPlain, callA, builtinA, List.map_cons, List.map_nil, minV]
  generalize E.ev tm x = X
  generalize E.ev tm y = Y
  cases X with
  | sc v => cases v with
    | int k a => cases Y with
      | sc w => cases w <;> rfl
      | _ => rfl
    | _ => cases Y <;> rfl
  | _ => cases Y <;> rfl
theorem op_slice (t : TypeId) (x : Operand) (lo hi : Option Operand) : opV E tm d (.slice t x lo hi none) S = sliceA E t (E.ev tm x) (lo.map (E.ev tm)) (hi.map (E.ev tm)) S := rfl

theorem getT_set (t : PM AV) (n m : Nat) (v : AV) : getT (t.set n v) m = if m = n then v else getT t m := by unfold getT; rw [PM.get_set]; split <;> rfl
theorem getT_setD (t : PM AV) (n m : Nat) (v : AV) : getT (setD t (some n) v) m = if m = n then v else getT t m := getT_set t n m v
theorem setD_none (t : PM AV) (v : AV) : setD t none v = t := rfl
theorem getT_leaf (m : Nat) : getT .leaf m = .undef := rfl
theorem initTm_nil (i : Nat) (tm : PM AV) : initTm i [] tm = tm := rfl
theorem initTm_cons (i : Nat) (a : AV) (l : List AV) (tm : PM AV) : initTm i (a :: l) tm = initTm (i + 1) l (setD tm (some i) a) := rfl
theorem ev_tmp (t : Nat) : E.ev tm (.tmp t) = getT tm t := rfl
theorem ev_int (k : IntKind) (n : Int) : E.ev tm (.const (.int k n)) = .sc (.int k n) := rfl
theorem ev_bool (b : Bool) : E.ev tm (.const (.bool b)) = .sc (.bool b) := rfl
theorem ev_str (b : ByteArray) : E.ev tm (.const (.string b)) = .sc (.string b) := rfl
theorem ev_nilslice : E.ev tm (.const (.slice none 0 0)) = .sc (.slice none 0 0) := rfl
theorem int_int (k : IntKind) (n : Int) : int? (.sc (.int k n)) = some n := rfl
theorem res_nil : resAll E tm S [] = some [] := rfl
theorem res_tmp (t : Nat) (l : List ResultVar) : resAll E tm S (.tmp t :: l) = (resAll E tm S l).map (getT tm t :: ·) := by
  simp only [resAll, resA]
  cases resAll E tm S l <;> rfl
end

theorem wrap_i64 {n : Int} (h0 : -9223372036854775808 ≤ n) (h1 : n ≤ 9223372036854775807) : IntKind.i64.wrap n = n := by
  simp [IntKind.wrap, IntKind.bits, IntKind.signed]
  omega
theorem wrap_u64 {n : Int} (h0 : 0 ≤ n) (h1 : n ≤ 18446744073709551615) : IntKind.u64.wrap n = n := by
  simp [IntKind.wrap, IntKind.bits, IntKind.signed]
  omega
theorem wrap_u8 {n : Int} (h0 : 0 ≤ n) (h1 : n ≤ 255) : IntKind.u8.wrap n = n := by
  simp [IntKind.wrap, IntKind.bits, IntKind.signed]
  omega

end Go.Abs
namespace Go.Abs
section
variable {E : Env} {tm : PM AV} {S : St} {d : Option Tmp}
theorem op_convert (a b : TypeId) (x : Operand) : opV E tm d (.convert a b x) S = convertA E (E.hp b d) a b (E.ev tm x) S := rfl
/-- A number of one kind as another. -/
theorem conv_chk {mu : Bool} (a b : TypeId) (k k' : IntKind) (n : Int) (h1 : isStrBytes E a b = false) (h2 : peek E.P (convert a b (.int k n)) = some (.int k' (k'.wrap n))) : convertA E mu a b (.sc (.int k n)) S = some (.sc (.int k' (k'.wrap n)), S) := by
  simp only [convertA, h1, cond_false, h2, Option.map_some]
  rfl
end
end Go.Abs
namespace Go.Abs
/-- At a function's end. -/
def RetV (P : AV → St → Prop) (S : St) : Option (List AV) → Prop
  | some vs => P (packA vs) S
  | none => False
def RetQ (E : Env) (rvs : List ResultVar) (P : AV → St → Prop) : PostA := fun o tm S => match o with
  | .exit _ => False
  | _ => RetV P S (resAll E tm S rvs)
section
variable {E : Env} {tm : PM AV} {S : St} {P : AV → St → Prop} {rvs : List ResultVar}
theorem ret_ret : RetQ E rvs P .ret tm S = RetV P S (resAll E tm S rvs) := rfl
theorem ret_nrm : RetQ E rvs P .nrm tm S = RetV P S (resAll E tm S rvs) := rfl
theorem retV_some (vs : List AV) : RetV P S (some vs) = P (packA vs) S := rfl
theorem pack1 (v : AV) : packA [v] = v := rfl
theorem pack2 (v w : AV) (l : List AV) : packA (v :: w :: l) = .tup (v :: w :: l) := rfl
theorem ev_ends {f : FuncId} {fn : Func} {p : PC} {nt : Nat} {args : List AV} (hf : E.fn f = some fn) (hX : E.X f = none) (hp : (fn.body.map (comp E fn.ntmps)) = some p) (hnt : fn.ntmps = nt) (hr : fn.results.toList = rvs) (hn : Nat.ble args.length nt = true)
    (h : EndsA E nt [.c p] .nrm (initTm 0 args .leaf) S (RetQ E rvs P)) : ∃ r S', EvA E f args S r S' ∧ P r S' := by
  subst hnt; subst hr
  simp only [Option.map_eq_some_iff] at hp
  obtain ⟨c, h1, h2⟩ := hp
  obtain ⟨N, o', tm', S1, h3, h4⟩ := h
  have key : (∀ j, o' ≠ .exit j) ∧ ∃ vs, resAll E tm' S1 fn.results.toList = some vs ∧ P (packA vs) S1 := by
    unfold RetQ at h4
    cases o' with
    | exit j => exact h4.elim
    | _ =>
      refine ⟨fun j => by simp, ?_⟩
      simp only [RetV] at h4
      split at h4
      · rename_i vs hv; exact ⟨vs, hv, h4⟩
      · exact h4.elim
  obtain ⟨k1, vs, k2, k3⟩ := key
  exact ⟨packA vs, S1, ev_of hf hX h1 h2 hn ⟨N, o', tm', S1, h3, k1, vs, k2, rfl, rfl⟩, k3⟩
end
end Go.Abs

namespace Go.Abs
section
variable {S : St}
theorem len_vec (id sz : Nat) (xs : List AV) : lenV (.vec id sz xs) S = some (.sc (.int .i64 (xs.length : Nat)), S) := rfl
theorem len_nil (c : Nat) : lenV (.sc (.slice none 0 c)) S = some (.sc (.int .i64 (0 : Nat)), S) := rfl
theorem byteVals_length (l : List UInt8) : (byteVals l).length = l.length := by simp [byteVals]
theorem idx_bytes {l : List UInt8} {k : Nat} (id : Nat) (h : k < l.length) : idxV 1 (.vec id 1 (byteVals l)) (some (k : Int)) S = some (.eptr [.sc (.int .u8 l[k].toNat)] 0, S) := by
  have : (byteVals l)[k]? = some (.sc (.int .u8 l[k].toNat)) := by simp [byteVals, h]
  simp [idxV, this, cellsOf]
theorem dec_lt {a b : Nat} (h : a < b) : decide ((a : Int) < (b : Int)) = true := by simp; omega
theorem dec_nlt {a b : Nat} (h : ¬ a < b) : decide ((a : Int) < (b : Int)) = false := by simp; omega
end
end Go.Abs

namespace Go.Abs
theorem cut_f (cs : List AV) (off : Nat) : cut false 1 cs off = cs[off]? := by
  simp only [cut, cond_eq_ite]
  by_cases h : off < cs.length
  · have : Nat.ble (off + 1) cs.length = true := Nat.ble_eq_true_of_le h
    simp [this]
  · have : Nat.ble (off + 1) cs.length = false := by
      cases hb : Nat.ble (off + 1) cs.length with
      | false => rfl
      | true => exact absurd (Nat.le_of_ble_eq_true hb) (by omega)
    simp [this]; omega
theorem cut_t (n : Nat) (cs : List AV) (off : Nat) : cut true n cs off = if off + n ≤ cs.length then some (.agg ((cs.drop off).take n)) else none := by
  simp only [cut, cond_eq_ite]
  by_cases h : off + n ≤ cs.length
  · have : Nat.ble (off + n) cs.length = true := Nat.ble_eq_true_of_le h
    simp [this, h]
  · have : Nat.ble (off + n) cs.length = false := by
      cases hb : Nat.ble (off + n) cs.length with
      | false => rfl
      | true => exact absurd (Nat.le_of_ble_eq_true hb) h
    simp [this, h]
end Go.Abs

namespace Go.Abs
section
variable {E : Env} {S : St}
theorem b_shl' (t : TypeId) (x y : Operand) (k k' : IntKind) (a b : Int) : binGen E .shl t x y (.sc (.int k a)) (.sc (.int k' b)) S = if b < 0 then none else some (.sc (.int k (k.wrap (a * 2 ^ min b.toNat k.bits))), S) := by
  split
  · rename_i h
    simp only [binGen, conc, binOp, Op.shift, h, if_true]
    rfl
  · rename_i h
    exact b_shl t x y k k' a b (by omega)
theorem b_shr' (t : TypeId) (x y : Operand) (k k' : IntKind) (a b : Int) : binGen E .shr t x y (.sc (.int k a)) (.sc (.int k' b)) S = if b < 0 then none else some (.sc (.int k (a.fdiv (2 ^ min b.toNat k.bits))), S) := by
  split
  · rename_i h
    simp only [binGen, conc, binOp, Op.shift, h, if_true]
    rfl
  · rename_i h
    exact b_shr t x y k k' a b (by omega)
end
end Go.Abs
namespace Go.Abs
theorem min_int {S : St} (k k2 : IntKind) (a b : Int) : minV (.sc (.int k a)) (.sc (.int k2 b)) S = some (.sc (.int k (if b < a then b else a)), S) := rfl
end Go.Abs
