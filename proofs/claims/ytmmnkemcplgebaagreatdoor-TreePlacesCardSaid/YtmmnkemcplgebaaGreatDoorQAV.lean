/-
  Rewriting rules for the evaluator's operations.
  Slices by value, as the calculus meets them: read, cut, grown.
  Regions of open order in the calculus: what is loaded out of order comes from no object.
-/
import Derived.Test.YtmmnkemcplgebaaGreatDoorQAU
section
section
set_option linter.unusedSimpArgs false
set_option linter.unusedVariables false
namespace Go.Abs
noncomputable def bitsV (op : BinOp) (k : IntKind) (a b : Int) : Int :=
 let x := BitVec.ofInt k.bits a
 let y := BitVec.ofInt k.bits b
 k.wrap (match op with
  | .and => (x &&& y).toNat
  | .or => (x ||| y).toNat
  | .xor => (x ^^^ y).toNat
  | _ => (x &&& ~~~y).toNat : Nat)
noncomputable def intV (op : BinOp) (k : IntKind) (a b : Int) : Option AV :=
 match op with
 | .add => some (.sc (.int k (k.wrap (a + b))))
 | .sub => some (.sc (.int k (k.wrap (a - b))))
 | .mul => some (.sc (.int k (k.wrap (a * b))))
 | .and => some (.sc (.int k (bitsV .and k a b)))
 | .or => some (.sc (.int k (bitsV .or k a b)))
 | .xor => some (.sc (.int k (bitsV .xor k a b)))
 | .andNot => some (.sc (.int k (bitsV .andNot k a b)))
 | .eql => some (.sc (.bool (a == b)))
 | .neq => some (.sc (.bool (a != b)))
 | .lss => some (.sc (.bool (decide (a < b))))
 | .leq => some (.sc (.bool (decide (a ≤ b))))
 | .gtr => some (.sc (.bool (decide (b < a))))
 | .geq => some (.sc (.bool (decide (b ≤ a))))
 | _ => none
noncomputable def binGen (E : Env) (op : BinOp) (t : TypeId) (x y : Operand) (X Y : AV) (S : St) : Option (AV × St) :=
 match conc X, conc Y with
  | some a, some b => (peek E.P (do eqGuard op t x y a b; binOp op t a b)).map fun v => (ofV v, S)
  | _, _ => match E.und t with
   | some d => match op, eqNil E d X Y with
    | .eql, some r => some (.sc (.bool r), S)
    | .neq, some r => some (.sc (.bool (!r)), S)
    | _, _ => none
   | none => none
section
variable {E : Env} {tm : PM AV} {S : St} {d : Option Tmp}
theorem op_bin (op : BinOp) (t : TypeId) (x y : Operand) (u : TypeId) : opV E tm d (.binOp op t x y u) S = binGen E op t x y (E.ev tm x) (E.ev tm y) S := rfl
theorem bin_int (op : BinOp) (h : op ≠ .shl ∧ op ≠ .shr ∧ op ≠ .quo ∧ op ≠ .rem) (t : TypeId) (x y : Operand) (k : IntKind) (a b : Int) {r : AV} (hr : intV op k a b = some r) :
 binGen E op t x y (.sc (.int k a)) (.sc (.int k b)) S = some (r, S) := by
 have h1 : peek E.P (do eqGuard op t x y (.int k a) (.int k b); binOp op t (.int k a) (.int k b)) = peek E.P (binOp op t (.int k a) (.int k b)) := by
  cases op <;> rfl
 simp only [binGen, conc, h1]
 cases op <;> simp only [intV, Option.some.injEq, reduceCtorEq] at hr <;> first | (subst hr; simp only [binOp, ne_eq, not_true_eq_false, if_false]; rfl) | simp_all
theorem b_add (t : TypeId) (x y : Operand) (k : IntKind) (a b : Int) : binGen E .add t x y (.sc (.int k a)) (.sc (.int k b)) S = some (.sc (.int k (k.wrap (a + b))), S) := bin_int .add (by decide) t x y k a b rfl
theorem b_sub (t : TypeId) (x y : Operand) (k : IntKind) (a b : Int) : binGen E .sub t x y (.sc (.int k a)) (.sc (.int k b)) S = some (.sc (.int k (k.wrap (a - b))), S) := bin_int .sub (by decide) t x y k a b rfl
theorem b_mul (t : TypeId) (x y : Operand) (k : IntKind) (a b : Int) : binGen E .mul t x y (.sc (.int k a)) (.sc (.int k b)) S = some (.sc (.int k (k.wrap (a * b))), S) := bin_int .mul (by decide) t x y k a b rfl
theorem b_and (t : TypeId) (x y : Operand) (k : IntKind) (a b : Int) : binGen E .and t x y (.sc (.int k a)) (.sc (.int k b)) S = some (.sc (.int k (bitsV .and k a b)), S) := bin_int .and (by decide) t x y k a b rfl
theorem b_or (t : TypeId) (x y : Operand) (k : IntKind) (a b : Int) : binGen E .or t x y (.sc (.int k a)) (.sc (.int k b)) S = some (.sc (.int k (bitsV .or k a b)), S) := bin_int .or (by decide) t x y k a b rfl
theorem b_xor (t : TypeId) (x y : Operand) (k : IntKind) (a b : Int) : binGen E .xor t x y (.sc (.int k a)) (.sc (.int k b)) S = some (.sc (.int k (bitsV .xor k a b)), S) := bin_int .xor (by decide) t x y k a b rfl
theorem b_andNot (t : TypeId) (x y : Operand) (k : IntKind) (a b : Int) : binGen E .andNot t x y (.sc (.int k a)) (.sc (.int k b)) S = some (.sc (.int k (bitsV .andNot k a b)), S) := bin_int .andNot (by decide) t x y k a b rfl
theorem b_eql (t : TypeId) (x y : Operand) (k : IntKind) (a b : Int) : binGen E .eql t x y (.sc (.int k a)) (.sc (.int k b)) S = some (.sc (.bool (a == b)), S) := bin_int .eql (by decide) t x y k a b rfl
theorem b_neq (t : TypeId) (x y : Operand) (k : IntKind) (a b : Int) : binGen E .neq t x y (.sc (.int k a)) (.sc (.int k b)) S = some (.sc (.bool (a != b)), S) := bin_int .neq (by decide) t x y k a b rfl
theorem b_lss (t : TypeId) (x y : Operand) (k : IntKind) (a b : Int) : binGen E .lss t x y (.sc (.int k a)) (.sc (.int k b)) S = some (.sc (.bool (decide (a < b))), S) := bin_int .lss (by decide) t x y k a b rfl
theorem b_leq (t : TypeId) (x y : Operand) (k : IntKind) (a b : Int) : binGen E .leq t x y (.sc (.int k a)) (.sc (.int k b)) S = some (.sc (.bool (decide (a ≤ b))), S) := bin_int .leq (by decide) t x y k a b rfl
theorem b_gtr (t : TypeId) (x y : Operand) (k : IntKind) (a b : Int) : binGen E .gtr t x y (.sc (.int k a)) (.sc (.int k b)) S = some (.sc (.bool (decide (b < a))), S) := bin_int .gtr (by decide) t x y k a b rfl
theorem b_geq (t : TypeId) (x y : Operand) (k : IntKind) (a b : Int) : binGen E .geq t x y (.sc (.int k a)) (.sc (.int k b)) S = some (.sc (.bool (decide (b ≤ a))), S) := bin_int .geq (by decide) t x y k a b rfl
theorem b_shl (t : TypeId) (x y : Operand) (k k' : IntKind) (a b : Int) (h : 0 ≤ b) : binGen E .shl t x y (.sc (.int k a)) (.sc (.int k' b)) S = some (.sc (.int k (k.wrap (a * 2 ^ min b.toNat k.bits))), S) := by
 have h2 : ¬ b < 0 := by omega
 simp only [binGen, conc, binOp, Op.shift, h2, if_false]
 rfl
theorem b_shr (t : TypeId) (x y : Operand) (k k' : IntKind) (a b : Int) (h : 0 ≤ b) : binGen E .shr t x y (.sc (.int k a)) (.sc (.int k' b)) S = some (.sc (.int k (a.fdiv (2 ^ min b.toNat k.bits))), S) := by
 have h2 : ¬ b < 0 := by omega
 simp only [binGen, conc, binOp, Op.shift, h2, if_false]
 rfl
theorem b_eqstr (t : TypeId) (x y : Operand) (a b : ByteArray) : binGen E .eql t x y (.sc (.string a)) (.sc (.string b)) S = some (.sc (.bool (a.toList == b.toList)), S) := rfl
theorem op_move (x : Operand) : opV E tm d (.move x) S = some (E.ev tm x, S) := rfl
theorem op_assign (x : Operand) : opV E tm d (.assign x) S = some (E.ev tm x, S) := rfl
noncomputable def pickV (c a b : AV) (S : St) : Option (AV × St) := match c with
 | .sc (.bool t) => some (bif t then a else b, S)
 | _ => none
theorem op_pick (c x y : Operand) : opV E tm d (.pick c x y) S = pickV (E.ev tm c) (E.ev tm x) (E.ev tm y) S := by
 simp only [opV, evOp, opOf, isMk, cond_false, evPlain, pickV]
 rfl
theorem pick_bool (t : Bool) (a b : AV) : pickV (.sc (.bool t)) a b S = some (bif t then a else b, S) := rfl
noncomputable def extractV (t : AV) (ix : Nat) (S : St) : Option (AV × St) := match t with
 | .tup vs => (vs[ix]?).map (·, S)
 | _ => none
theorem op_extract (t : Operand) (ix : Nat) : opV E tm d (.extract t ix) S = extractV (E.ev tm t) ix S := rfl
theorem extract_tup (vs : List AV) (ix : Nat) : extractV (.tup vs) ix S = (vs[ix]?).map (·, S) := rfl
noncomputable def unV (E : Env) (op : UnOp) (x : AV) (S : St) : Option (AV × St) := match x with
 | .sc v => (peek E.P (Op.unary op v)).map fun r => (ofV r, S)
 | _ => none
theorem op_un (op : UnOp) (t : TypeId) (x : Operand) : opV E tm d (.unOp op t x) S = unV E op (E.ev tm x) S := rfl
theorem un_not (b : Bool) : unV E .not (.sc (.bool b)) S = some (.sc (.bool (!b)), S) := rfl
noncomputable def loadC (agg : Bool) (size : Nat) (x : AV) (S : St) : Option (AV × St) :=
 match x with
  | .ptr l off => match S.obj l with
   | some cs => (cut agg size cs off).map (·, S)
   | none => none
  | .eptr cs off => (cut agg size cs off).map (·, S)
  | _ => none
theorem loadA_of {t : TypeId} {de : TypeDesc} {i : TypeInfo} (hd : E.und t = some de) (hi : E.inf t = some i) {b : Bool} {n : Nat} (hb : isAggD de = b) (hn : i.size = n) (x : AV) : loadA E t x S = loadC b n x S := by
 have hc : ∀ cs off, E.cutAt t cs off = cut b n cs off := fun cs off => by simp only [Env.cutAt, hd, hi, hb, hn]
 cases x <;> simp only [loadA, loadC, hc] <;> rfl
noncomputable def tyIs (E : Env) (t : TypeId) (b : Bool) (n : Nat) : Bool := match E.und t, E.inf t with
 | some d, some i => (isAggD d == b) && Nat.beq i.size n
 | _, _ => false
theorem load_chk (t : TypeId) (b : Bool) (n : Nat) (h : tyIs E t b n = true) (x : Operand) : opV E tm d (.load t x) S = loadC b n (E.ev tm x) S := by
 unfold tyIs at h
 split at h
 · rename_i de i hd hi
   simp only [Bool.and_eq_true, beq_iff_eq] at h
   exact loadA_of hd hi h.1 (Nat.eq_of_beq_eq_true h.2) (E.ev tm x)
 · simp at h
theorem load_e (b : Bool) (n : Nat) (cs : List AV) (off : Nat) : loadC b n (.eptr cs off) S = (cut b n cs off).map (·, S) := rfl
noncomputable def storeC (size : Nat) (x y : AV) (S : St) : Option (AV × St) :=
 match x, cellsOf y with
  | .ptr l off, some vs => match S.obj l with
   | some cs => bif Nat.beq vs.length size && Nat.ble (off + vs.length) cs.length && vs.all okCell then
    some (passed, S.put l (.cells (splice cs off vs))) else none
   | none => none
  | _, _ => none
theorem store_chk {b : Bool} (t : TypeId) (n : Nat) (h : tyIs E t b n = true) (x y : Operand) : opV E tm d (.store t x y) S = storeC n (E.ev tm x) (E.ev tm y) S := by
 unfold tyIs at h
 split at h
 · rename_i de i hd hi
   simp only [Bool.and_eq_true, beq_iff_eq] at h
   have hn := Nat.eq_of_beq_eq_true h.2
   subst hn
   show storeA E t (E.ev tm x) (E.ev tm y) S = _
   generalize E.ev tm x = X
   generalize E.ev tm y = Y
   cases X <;> simp only [storeA, storeC, hi]
   cases cellsOf Y <;> rfl
 · simp at h
noncomputable def idxV (sz : Nat) (x : AV) (i : Option Int) (S : St) : Option (AV × St) :=
 match x, i with
 | .vec _ sz' xs, some i => bif decide (0 ≤ i) && Nat.beq sz sz' then
  match xs[i.toNat]? with
  | some v => (cellsOf v).map fun cs => (.eptr cs 0, S)
  | none => none
  else none
 | .osl l sz' off len _, some i => bif decide (0 ≤ i) && decide (i < (len : Int)) && Nat.beq sz sz' then some (.ptr l (off + i.toNat * sz'), S) else none
 | _, _ => none
theorem op_index {t e : TypeId} {i : TypeInfo} (hd : E.und t = some (.slice e)) (hi : E.inf e = some i) {n : Nat} (hn : i.size = n) (x y : Operand) : opV E tm d (.indexAddr t x y) S = idxV n (E.ev tm x) (int? (E.ev tm y)) S := by
 simp only [opV, evOp, opOf, isMk, cond_false, evPlain, hd, idxV]
 generalize E.ev tm x = X
 generalize int? (E.ev tm y) = Y
 cases X <;> cases Y <;> simp only [hi, hn] <;> rfl
noncomputable def slIs (E : Env) (t : TypeId) (n : Nat) : Bool := match E.und t with
 | some (.slice e) => match E.inf e with
  | some i => Nat.beq i.size n
  | none => false
 | _ => false
theorem index_chk (t : TypeId) (n : Nat) (h : slIs E t n = true) (x y : Operand) : opV E tm d (.indexAddr t x y) S = idxV n (E.ev tm x) (int? (E.ev tm y)) S := by
 unfold slIs at h
 split at h
 · rename_i e hd
   split at h
   · rename_i i hi
     exact op_index hd hi (Nat.eq_of_beq_eq_true h) x y
   · simp at h
 · simp at h
noncomputable def lenV (x : AV) (S : St) : Option (AV × St) := (lenS x).map fun n : Nat => (AV.sc (.int .i64 (n : Int)), S)
theorem op_len {t e : TypeId} (hd : E.und t = some (.slice e)) (x : Operand) : opV E tm d (.call { callee := .builtin .len, args := #[x], argTypes := #[t] }) S = lenV (E.ev tm x) S := by
 simp only [opV, evOp, opOf, isMk, cond_false, evPlain, callA, builtinA, List.map_cons, List.map_nil, hd, lenV]
noncomputable def minV (x y : AV) (S : St) : Option (AV × St) := match x, y with
 | .sc (.int k a), .sc (.int _ b) => some (.sc (.int k (if b < a then b else a)), S)
 | _, _ => none
theorem op_min (x y : Operand) (ats : Array TypeId) : opV E tm d (.call { callee := .builtin .min, args := #[x, y], argTypes := ats }) S = minV (E.ev tm x) (E.ev tm y) S := by
 simp only [opV, evOp, opOf, isMk, cond_false, evPlain, callA, builtinA, List.map_cons, List.map_nil, minV]
 generalize E.ev tm x = X
 generalize E.ev tm y = Y
 cases X with
 | sc v => cases v with
  | int k a => cases Y with
   | sc w => cases w <;> rfl
   | _ => rfl
  | _ => cases Y <;> rfl
 | _ => cases Y <;> rfl
theorem op_slice (t : TypeId) (x : Operand) (lo hi : Option Operand) : opV E tm d (.slice t x lo hi none) S = sliceA E t (E.ev tm x) (lo.map (E.ev tm)) (hi.map (E.ev tm)) S := rfl
theorem getT_set (t : PM AV) (n m : Nat) (v : AV) : getT (t.set n v) m = if m = n then v else getT t m := by unfold getT; rw [PM.get_set]; split <;> rfl
theorem getT_setD (t : PM AV) (n m : Nat) (v : AV) : getT (setD t (some n) v) m = if m = n then v else getT t m := getT_set t n m v
theorem setD_none (t : PM AV) (v : AV) : setD t none v = t := rfl
theorem getT_leaf (m : Nat) : getT .leaf m = .undef := by unfold getT; rw [PM.get_leaf]; rfl
theorem initTm_nil (i : Nat) (tm : PM AV) : initTm i [] tm = tm := rfl
theorem initTm_cons (i : Nat) (a : AV) (l : List AV) (tm : PM AV) : initTm i (a :: l) tm = initTm (i + 1) l (setD tm (some i) a) := rfl
theorem ev_tmp (t : Nat) : E.ev tm (.tmp t) = getT tm t := rfl
theorem ev_int (k : IntKind) (n : Int) : E.ev tm (.const (.int k n)) = .sc (.int k n) := rfl
theorem ev_bool (b : Bool) : E.ev tm (.const (.bool b)) = .sc (.bool b) := rfl
theorem ev_str (b : ByteArray) : E.ev tm (.const (.string b)) = .sc (.string b) := rfl
theorem ev_nilslice : E.ev tm (.const (.slice none 0 0)) = .sc (.slice none 0 0) := rfl
theorem int_int (k : IntKind) (n : Int) : int? (.sc (.int k n)) = some n := rfl
theorem res_nil : resAll E tm S [] = some [] := rfl
theorem res_tmp (t : Nat) (l : List ResultVar) : resAll E tm S (.tmp t :: l) = (resAll E tm S l).map (getT tm t :: ·) := by
 simp only [resAll, resA]
 cases resAll E tm S l <;> rfl
end
theorem wrap_i64 {n : Int} (h0 : -9223372036854775808 ≤ n) (h1 : n ≤ 9223372036854775807) : IntKind.i64.wrap n = n := by
 simp [IntKind.wrap, IntKind.bits, IntKind.signed]
 omega
end Go.Abs
namespace Go.Abs
section
variable {E : Env} {tm : PM AV} {S : St} {d : Option Tmp}
theorem op_convert (a b : TypeId) (x : Operand) : opV E tm d (.convert a b x) S = convertA E (E.hp b d) a b (E.ev tm x) S := rfl
theorem conv_chk {mu : Bool} (a b : TypeId) (k k' : IntKind) (n : Int) (h1 : isStrBytes E a b = false) (h2 : peek E.P (convert a b (.int k n)) = some (.int k' (k'.wrap n))) : convertA E mu a b (.sc (.int k n)) S = some (.sc (.int k' (k'.wrap n)), S) := by
 simp only [convertA, h1, cond_false, h2, Option.map_some]
 rfl
end
end Go.Abs
namespace Go.Abs
noncomputable def RetV (P : AV → St → Prop) (S : St) : Option (List AV) → Prop
 | some vs => P (packA vs) S
 | none => False
noncomputable def RetQ (E : Env) (rvs : List ResultVar) (P : AV → St → Prop) : PostA := fun o tm S => match o with
 | .exit _ => False
 | _ => RetV P S (resAll E tm S rvs)
section
variable {E : Env} {tm : PM AV} {S : St} {P : AV → St → Prop} {rvs : List ResultVar}
theorem ret_ret : RetQ E rvs P .ret tm S = RetV P S (resAll E tm S rvs) := rfl
theorem ret_nrm : RetQ E rvs P .nrm tm S = RetV P S (resAll E tm S rvs) := rfl
theorem retV_some (vs : List AV) : RetV P S (some vs) = P (packA vs) S := rfl
theorem pack1 (v : AV) : packA [v] = v := rfl
theorem pack2 (v w : AV) (l : List AV) : packA (v :: w :: l) = .tup (v :: w :: l) := rfl
theorem ev_ends {f : FuncId} {fn : Func} {p : PC} {nt : Nat} {args : List AV} (hf : E.fn f = some fn) (hX : E.X f = none) (hp : (fn.body.map (comp E fn.ntmps)) = some p) (hnt : fn.ntmps = nt) (hr : fn.results.toList = rvs) (hn : Nat.ble args.length nt = true)
 (h : EndsA E nt [.c p] .nrm (initTm 0 args .leaf) S (RetQ E rvs P)) : ∃ r S', EvA E f args S r S' ∧ P r S' := by
 subst hnt; subst hr
 simp only [Option.map_eq_some_iff] at hp
 obtain ⟨c, h1, h2⟩ := hp
 obtain ⟨N, o', tm', S1, h3, h4⟩ := h
 have key : (∀ j, o' ≠ .exit j) ∧ ∃ vs, resAll E tm' S1 fn.results.toList = some vs ∧ P (packA vs) S1 := by
  unfold RetQ at h4
  cases o' with
  | exit j => exact h4.elim
  | _ =>
   refine ⟨fun j => by simp, ?_⟩
   simp only [RetV] at h4
   split at h4
   · rename_i vs hv; exact ⟨vs, hv, h4⟩
   · exact h4.elim
 obtain ⟨k1, vs, k2, k3⟩ := key
 exact ⟨packA vs, S1, ev_of hf hX h1 h2 hn ⟨N, o', tm', S1, h3, k1, vs, k2, rfl, rfl⟩, k3⟩
end
end Go.Abs
namespace Go.Abs
section
variable {S : St}
theorem len_vec (id sz : Nat) (xs : List AV) : lenV (.vec id sz xs) S = some (.sc (.int .i64 (xs.length : Nat)), S) := rfl
theorem len_nil (c : Nat) : lenV (.sc (.slice none 0 c)) S = some (.sc (.int .i64 (0 : Nat)), S) := rfl
theorem byteVals_length (l : List UInt8) : (byteVals l).length = l.length := by simp [byteVals]
theorem dec_lt {a b : Nat} (h : a < b) : decide ((a : Int) < (b : Int)) = true := by simp; omega
theorem dec_nlt {a b : Nat} (h : ¬ a < b) : decide ((a : Int) < (b : Int)) = false := by simp; omega
end
end Go.Abs
namespace Go.Abs
theorem cut_f (cs : List AV) (off : Nat) : cut false 1 cs off = cs[off]? := by
 simp only [cut, cond_eq_ite]
 by_cases h : off < cs.length
 · have : Nat.ble (off + 1) cs.length = true := Nat.ble_eq_true_of_le h
   simp [this]
 · have : Nat.ble (off + 1) cs.length = false := by
    cases hb : Nat.ble (off + 1) cs.length with
    | false => rfl
    | true => exact absurd (Nat.le_of_ble_eq_true hb) (by omega)
   simp [this]; omega
theorem cut_t (n : Nat) (cs : List AV) (off : Nat) : cut true n cs off = if off + n ≤ cs.length then some (.agg ((cs.drop off).take n)) else none := by
 simp only [cut, cond_eq_ite]
 by_cases h : off + n ≤ cs.length
 · have : Nat.ble (off + n) cs.length = true := Nat.ble_eq_true_of_le h
   simp [this, h]
 · have : Nat.ble (off + n) cs.length = false := by
    cases hb : Nat.ble (off + n) cs.length with
    | false => rfl
    | true => exact absurd (Nat.le_of_ble_eq_true hb) h
   simp [this, h]
end Go.Abs
namespace Go.Abs
section
variable {E : Env} {S : St}
theorem b_shl' (t : TypeId) (x y : Operand) (k k' : IntKind) (a b : Int) : binGen E .shl t x y (.sc (.int k a)) (.sc (.int k' b)) S = if b < 0 then none else some (.sc (.int k (k.wrap (a * 2 ^ min b.toNat k.bits))), S) := by
 split
 · rename_i h
   simp only [binGen, conc, binOp, Op.shift, h, if_true]
   rfl
 · rename_i h
   exact b_shl t x y k k' a b (by omega)
theorem b_shr' (t : TypeId) (x y : Operand) (k k' : IntKind) (a b : Int) : binGen E .shr t x y (.sc (.int k a)) (.sc (.int k' b)) S = if b < 0 then none else some (.sc (.int k (a.fdiv (2 ^ min b.toNat k.bits))), S) := by
 split
 · rename_i h
   simp only [binGen, conc, binOp, Op.shift, h, if_true]
   rfl
 · rename_i h
   exact b_shr t x y k k' a b (by omega)
end
end Go.Abs
namespace Go.Abs
theorem min_int {S : St} (k k2 : IntKind) (a b : Int) : minV (.sc (.int k a)) (.sc (.int k2 b)) S = some (.sc (.int k (if b < a then b else a)), S) := rfl
end Go.Abs
end
end

section
section
set_option linter.unusedSimpArgs false
set_option linter.unusedVariables false
namespace Go.Abs
noncomputable def IsV (sz : Nat) (x : AV) (xs : List AV) : Prop := (x = .sc (.slice none 0 0) ∧ xs = []) ∨ ∃ id, x = .vec id sz xs
theorem IsV.vec (id sz : Nat) (xs : List AV) : IsV sz (.vec id sz xs) xs := .inr ⟨id, rfl⟩
theorem IsV.nil (sz : Nat) : IsV sz (.sc (.slice none 0 0)) [] := .inl ⟨rfl, rfl⟩
noncomputable def subV (x : AV) (a b : Nat) : AV := match x with
 | .vec id sz xs => bif Nat.beq a 0 && Nat.beq b xs.length then .vec id sz xs else .vec 0 sz ((xs.drop a).take (b - a))
 | x => x
section
variable {E : Env} {S : St} {sz : Nat} {x : AV} {xs : List AV} {tm : PM AV} {d : Option Tmp}
theorem IsV.len (h : IsV sz x xs) (S : St) : lenV x S = some (.sc (.int .i64 (xs.length : Nat)), S) := by
 rcases h with ⟨rfl, rfl⟩ | ⟨id, rfl⟩ <;> rfl
theorem IsV.idx (h : IsV sz x xs) {k : Nat} {v : AV} {cs : List AV} (hk : xs[k]? = some v) (hc : cellsOf v = some cs) (S : St) : idxV sz x (some (k : Int)) S = some (.eptr cs 0, S) := by
 rcases h with ⟨rfl, rfl⟩ | ⟨id, rfl⟩
 · simp at hk
 · simp [idxV, hk, hc]
theorem bounds_hi {n b : Nat} (h : b ≤ n) : bounds n none (some (.sc (.int .i64 (b : Int)))) = some (0, b) := by simp [bounds, int?, h]
noncomputable def OwnV (S : St) (e : TypeId) (sz : Nat) (x : AV) (xs : List AV) : Prop :=
 (x = .sc (.slice none 0 0) ∧ xs = []) ∨ ∃ id, x = .vec id sz xs ∧ (id = 1 ∨ id = 2 ∨ (S.live id = true ∧ S.ityIs id e = true))
theorem OwnV.is {e : TypeId} (h : OwnV S e sz x xs) : IsV sz x xs := by
 rcases h with h | ⟨id, h, _⟩
 · exact .inl h
 · exact .inr ⟨id, h⟩
noncomputable def St.Fresh (S : St) : Prop := 2 < S.nid ∧ ∀ i, S.nid ≤ i → S.spent.get i = none
noncomputable def appS (e : TypeId) (S : St) (x : AV) : St := match x with
 | .vec id _ _ => bif Nat.beq id 1 || Nat.beq id 2 then S.newId e else { S.newId e with spent := S.spent.set id () }
 | _ => S.newId e
theorem appS_nid (e : TypeId) (S : St) (x : AV) : (appS e S x).nid = S.nid + 1 := by
 unfold appS
 split
 · cases (_ || _) <;> rfl
 · rfl
theorem appS_fresh {e : TypeId} {x : AV} {xs : List AV} (hS : S.Fresh) (h : OwnV S e sz x xs) : (appS e S x).Fresh := by
 refine ⟨by rw [appS_nid]; have := hS.1; omega, fun i hi => ?_⟩
 rw [appS_nid] at hi
 rcases h with ⟨rfl, _⟩ | ⟨id, rfl, hid⟩
 · exact hS.2 i (by omega)
 · simp only [appS, cond_eq_ite]
   split
   · exact hS.2 i (by omega)
   · rename_i hb
     simp only [Bool.or_eq_true, not_or, Bool.not_eq_true] at hb
     rcases hid with rfl | rfl | ⟨hl, _⟩
     · simp at hb
     · simp at hb
     · simp only [St.live, Bool.and_eq_true] at hl
       have : id < S.nid := Nat.le_of_ble_eq_true hl.1.2
       show (S.spent.set id ()).get i = none
       rw [PM.get_set, if_neg (by omega)]
       exact hS.2 i (by omega)
theorem appS_own {e : TypeId} {x : AV} {xs zs : List AV} (hS : S.Fresh) (h : OwnV S e sz x xs) : OwnV (appS e S x) e sz (.vec S.nid sz zs) zs := by
 have hf := appS_fresh hS h
 have hn := appS_nid e S x
 refine .inr ⟨S.nid, rfl, .inr (.inr ⟨?_, ?_⟩)⟩
 · simp only [St.live, Bool.and_eq_true]
   refine ⟨⟨Nat.ble_eq_true_of_le hS.1, Nat.ble_eq_true_of_le (by rw [hn]; exact Nat.le_refl _)⟩, ?_⟩
   have : (appS e S x).spent.get S.nid = none := by
    rcases h with ⟨rfl, _⟩ | ⟨id, rfl, hid⟩
    · exact hS.2 _ (Nat.le_refl _)
    · simp only [appS, cond_eq_ite]
      split
      · exact hS.2 _ (Nat.le_refl _)
      · rename_i hb
        simp only [Bool.or_eq_true, not_or, Bool.not_eq_true] at hb
        rcases hid with rfl | rfl | ⟨hl, _⟩
        · simp at hb
        · simp at hb
        · simp only [St.live, Bool.and_eq_true] at hl
          have : id < S.nid := Nat.le_of_ble_eq_true hl.1.2
          show (S.spent.set id ()).get S.nid = none
          rw [PM.get_set, if_neg (by omega)]
          exact hS.2 _ (Nat.le_refl _)
   simp [this]
 · have : (appS e S x).ity.get S.nid = some e := by
    unfold appS
    split
    · cases (_ || _) <;> simp [St.newId, PM.get_set]
    · simp [St.newId, PM.get_set]
   simp [St.ityIs, this]
noncomputable def elIs (E : Env) (t e : TypeId) (agg : Bool) (sz bytes : Nat) : Bool := match E.und t, E.und e, E.inf e with
 | some (.slice e'), some de, some i => Nat.beq e' e && (isAggD de == agg) && Nat.beq i.size sz && Nat.beq i.bytes bytes && zeroOk i && Nat.blt 0 i.size
 | _, _, _ => false
theorem app_xs {e : TypeId} {ti : TypeInfo} {ys : List AV} (hS : S.Fresh) (h1 : ti.size = sz) (h2 : zeroOk ti = true) (h3 : 0 < ti.size) (hx : OwnV S e sz x xs) (hne : ys ≠ []) (hsz : allSz sz ys = true) (hb : (xs.length + ys.length) * (ti.bytes + 1) ≤ 2 ^ 46) :
 appendXs false e ti x ys S = some (.vec S.nid sz (xs ++ ys), appS e S x) := by
 subst h1
 cases ys with
 | nil => exact absurd rfl hne
 | cons y ys =>
  have h3' : Nat.blt 0 ti.size = true := Nat.ble_eq_true_of_le h3
  simp only [appendXs, hsz, h2, h3', Bool.and_self, cond_true, newSlice, cond_false]
  rcases hx with ⟨rfl, rfl⟩ | ⟨id, rfl, hid⟩
  · have : Nat.ble ((y :: ys).length * (ti.bytes + 1)) (2 ^ 46) = true := Nat.ble_eq_true_of_le (by simpa using hb)
    simp only [this, cond_true, List.nil_append, appS]
  · have : Nat.ble ((xs.length + (y :: ys).length) * (ti.bytes + 1)) (2 ^ 46) = true := Nat.ble_eq_true_of_le hb
    simp only [Nat.beq_refl, this, Bool.and_self, appS, cond_eq_ite]
    by_cases hc : (Nat.beq id 1 || Nat.beq id 2) = true
    · simp only [hc, if_true]
    · rw [if_neg hc, if_neg hc]
      rcases hid with rfl | rfl | ⟨hl, hi⟩
      · simp at hc
      · simp at hc
      · simp [hl, hi]
theorem app_own {t t1 e e1 : TypeId} {agg : Bool} {bytes : Nat} {X Y : AV} {ys : List AV} (ht : elIs E t e agg sz bytes = true) (ht1 : E.und t1 = some (.slice e1)) (hS : S.Fresh) (hx : OwnV S e sz X xs) (hy : IsV sz Y ys) (hne : ys ≠ [])
 (hsz : allSz sz ys = true) (hb : (xs.length + ys.length) * (bytes + 1) ≤ 2 ^ 46) : builtinA E false .append [t, t1] [X, Y] S = some (.vec S.nid sz (xs ++ ys), appS e S X) := by
 unfold elIs at ht
 split at ht
 · rename_i e' de i hd hde hi
   simp only [Bool.and_eq_true, beq_iff_eq] at ht
   obtain ⟨⟨⟨⟨⟨k1, k2⟩, k3⟩, k4⟩, k5⟩, k6⟩ := ht
   have k1 := Nat.eq_of_beq_eq_true k1
   have k3 := Nat.eq_of_beq_eq_true k3
   have k4 := Nat.eq_of_beq_eq_true k4
   have k6 : 0 < i.size := Nat.le_of_ble_eq_true k6
   subst k1
   rcases hy with ⟨rfl, rfl⟩ | ⟨id, rfl⟩
   · exact absurd rfl hne
   · simp only [builtinA, hd, ht1, hde, hi, appendA, elemsS, elemsOf]
     exact app_xs hS k3 k5 k6 hx hne hsz (by rw [k4]; exact hb)
 · simp at ht
theorem app_str {t t1 e : TypeId} {agg : Bool} {bytes : Nat} {X : AV} {b : ByteArray} (ht : elIs E t e agg 1 bytes = true) (ht1 : E.und t1 = some .string) (hS : S.Fresh) (hx : OwnV S e 1 X xs) (hne : b.data.toList ≠ [])
 (hb : (xs.length + b.data.toList.length) * (bytes + 1) ≤ 2 ^ 46) : builtinA E false .append [t, t1] [X, .sc (.string b)] S = some (.vec S.nid 1 (xs ++ byteVals b.data.toList), appS e S X) := by
 unfold elIs at ht
 split at ht
 · rename_i e' de i hd hde hi
   simp only [Bool.and_eq_true, beq_iff_eq] at ht
   obtain ⟨⟨⟨⟨⟨k1, k2⟩, k3⟩, k4⟩, k5⟩, k6⟩ := ht
   have k1 := Nat.eq_of_beq_eq_true k1
   have k3 := Nat.eq_of_beq_eq_true k3
   have k4 := Nat.eq_of_beq_eq_true k4
   have k6 : 0 < i.size := Nat.le_of_ble_eq_true k6
   subst k1
   have hone : ∀ l : List UInt8, allSz 1 (byteVals l) = true := fun l => by
    induction l with
    | nil => rfl
    | cons c l ih => simp only [byteVals, List.map_cons, allSz, Bool.and_eq_true]; exact ⟨rfl, ih⟩
   simp only [builtinA, hd, ht1, hi, appendA, elemsS, elemsOf]
   exact app_xs hS k3 k5 k6 hx (by simpa [byteVals] using hne) (hone _) (by rw [k4]; simpa [byteVals] using hb)
 · simp at ht
structure Grow (S S' : St) (x : AV) : Prop where
 nid : S.nid ≤ S'.nid
 sp : ∀ id, id < S.nid → (∀ sz xs, x ≠ .vec id sz xs) → S'.spent.get id = S.spent.get id
 ity : ∀ id, id < S.nid → S'.ity.get id = S.ity.get id
 no : S.no ≤ S'.no
 obj : ∀ l, l < S.no → S'.objs.get l = S.objs.get l
 fresh : S'.Fresh
 ver : ∀ l, l < S.no → S'.ver l = S.ver l
abbrev nilV : AV := .sc (.slice none 0 0)
theorem Grow.refl (h : S.Fresh) (x : AV) : Grow S S x := ⟨Nat.le_refl _, fun _ _ _ => rfl, fun _ _ => rfl, Nat.le_refl _, fun _ _ => rfl, h, fun _ _ => rfl⟩
theorem Grow.trans {S1 S2 : St} {y : AV} (h : Grow S S1 x) (k : Grow S1 S2 y) (hy : y = x ∨ y = nilV ∨ ∃ id sz xs, y = .vec id sz xs ∧ S.nid ≤ id) : Grow S S2 x := by
 refine ⟨Nat.le_trans h.nid k.nid, fun id hid hne => ?_, fun id hid => (k.ity id (Nat.lt_of_lt_of_le hid h.nid)).trans (h.ity id hid), Nat.le_trans h.no k.no, fun l hl => (k.obj l (Nat.lt_of_lt_of_le hl h.no)).trans (h.obj l hl), k.fresh, fun l hl => (k.ver l (Nat.lt_of_lt_of_le hl h.no)).trans (h.ver l hl)⟩
 refine (k.sp id (Nat.lt_of_lt_of_le hid h.nid) fun sz xs e => ?_).trans (h.sp id hid hne)
 rcases hy with rfl | rfl | ⟨id2, sz2, xs2, rfl, h2⟩
 · exact hne _ _ e
 · cases e
 · cases e; omega
theorem Grow.two {S S1 S2 : St} (h : Grow S S1 nilV) (k : Grow S1 S2 nilV) : Grow S S2 nilV := h.trans k (.inl rfl)
theorem Grow.app {e : TypeId} {x : AV} {xs : List AV} (hS : S.Fresh) (h : OwnV S e sz x xs) : Grow S (appS e S x) x := by
 refine ⟨by rw [appS_nid]; omega, fun id hid hne => ?_, fun id hid => ?_, ?_, fun l _ => ?_, appS_fresh hS h, fun l _ => ?_⟩
 · rcases h with ⟨rfl, _⟩ | ⟨i, rfl, _⟩
   · rfl
   · simp only [appS]
     cases (Nat.beq i 1 || Nat.beq i 2) with
     | true => rfl
     | false =>
      show (S.spent.set i ()).get id = _
      rw [PM.get_set, if_neg (fun e => hne _ _ (by rw [e]))]
 · have : ∀ S' : St, S'.ity = S.ity.set S.nid e → S'.ity.get id = S.ity.get id := fun S' h => by rw [h, PM.get_set, if_neg (by omega)]
   refine this _ ?_
   unfold appS
   split
   · cases (_ || _) <;> rfl
   · rfl
 · unfold appS
   split
   · cases (_ || _) <;> exact Nat.le_refl _
   · exact Nat.le_refl _
 · unfold appS
   split
   · cases (_ || _) <;> rfl
   · rfl
 · unfold appS
   split
   · cases (_ || _) <;> rfl
   · rfl
theorem Grow.raise (h : S.Fresh) (n : Nat) (x : AV) : Grow S (S.raise n) x := ⟨Nat.le_refl _, fun _ _ _ => rfl, fun _ _ => rfl, Nat.le_add_right _ _, fun _ _ => rfl, h, fun _ _ => rfl⟩
theorem OwnV.grow {S' : St} {e : TypeId} {x y : AV} {xs : List AV} (h : OwnV S e sz x xs) (g : Grow S S' y) (hne : ∀ id sz1 xs1 sz2 xs2, x = .vec id sz1 xs1 → y = .vec id sz2 xs2 → id ≤ 2) : OwnV S' e sz x xs := by
 rcases h with h | ⟨id, rfl, hid⟩
 · exact .inl h
 · refine .inr ⟨id, rfl, ?_⟩
   rcases hid with h | h | ⟨h1, h2⟩
   · exact .inl h
   · exact .inr (.inl h)
   · have hlt : 2 < id ∧ id < S.nid ∧ S.spent.get id = none := by
      simp only [St.live, Bool.and_eq_true] at h1
      exact ⟨Nat.le_of_ble_eq_true h1.1.1, Nat.le_of_ble_eq_true h1.1.2, by simpa using h1.2⟩
     refine .inr (.inr ⟨?_, ?_⟩)
     · simp only [St.live, Bool.and_eq_true]
       refine ⟨⟨Nat.ble_eq_true_of_le hlt.1, Nat.ble_eq_true_of_le (Nat.lt_of_lt_of_le hlt.2.1 g.nid)⟩, ?_⟩
       rw [g.sp id hlt.2.1 (fun sz1 xs1 e => by have := hne id _ _ _ _ rfl e; omega), hlt.2.2]
       rfl
     · have := g.ity id hlt.2.1
       simp only [St.ityIs, this] at h2 ⊢
       exact h2
end
end Go.Abs
end
end

section
section
set_option linter.unusedSimpArgs false
set_option linter.unusedVariables false
namespace Go.Abs
noncomputable def isDst : Option Tmp → Nat → Bool
 | some k, n => k == n
 | none, _ => false
noncomputable def opdOf : Op → Option Operand
 | .load _ a => some a
 | .convert _ _ a => some a
 | .slice _ a _ _ _ => some a
 | .lookup _ a _ _ => some a
 | .call c => match c.callee with
  | .builtin .len => c.args.toList.head?
  | _ => none
 | _ => none
section
variable {E : Env} {call : CallFn} {nt : Nat}
noncomputable def offDst : Operand → Option Tmp → Bool
 | .tmp t, some d => !Nat.beq t d
 | _, _ => true
noncomputable def notDst (a : Operand) : List Oper → Bool
 | [] => true
 | o :: r => offDst a o.dst && notDst a r
noncomputable def freeLoads (E : Env) (m : PM Nat) (all : List Oper) : Nat → List Oper → Option (List Operand)
 | _, [] => some []
 | i, o :: r => match freeLoads E m all (i + 1) r with
  | none => none
  | some l => bif !mayLoad o.op || loadsIn E m i o 0 all then some l else match opdOf o.op with
   | some a => bif notDst a (o :: r) then some (a :: l) else none
   | none => none
theorem put_keep {tm tm1 : PM AV} {dst : Option Tmp} {v : AV} {a : Operand} (h : putA nt dst v tm = some tm1) (hn : offDst a dst = true) : E.ev tm1 a = E.ev tm a := by
 cases dst with
 | none => simp only [putA, Option.some.injEq] at h; rw [h]
 | some d =>
  simp only [putA] at h
  cases hb : Nat.blt d nt with
  | false => rw [hb] at h; simp at h
  | true =>
   rw [hb] at h
   simp only [cond_true, Option.some.injEq] at h
   subst h
   cases a with
   | tmp t =>
    have hne : t ≠ d := fun e => by subst e; simp [offDst] at hn
    simp only [Env.ev, getT, PM.get_set, hne, if_false]
   | _ => rfl
theorem seq_keep {ops : Array Oper} {a : Operand} : ∀ (l : List Oper) (tm : PM AV) (S : St) (tm' : PM AV) (S' : St), evSeq E call nt ops l tm S = some (tm', S') → notDst a l = true → E.ev tm' a = E.ev tm a
 | [], tm, S, tm', S', h, _ => by
  simp only [evSeq, Option.some.injEq, Prod.mk.injEq] at h
  rw [h.1]
 | o :: l, tm, S, tm', S', h, hn => by
  simp only [notDst, Bool.and_eq_true] at hn
  simp only [evSeq] at h
  split at h
  · simp at h
  · split at h
    · rename_i tm1 hp
      rw [seq_keep l _ _ _ _ h hn.2, put_keep hp hn.1]
    · simp at h
  · split at h
    · simp at h
    · split at h
      · rename_i tm1 hp
        rw [seq_keep l _ _ _ _ h hn.2, put_keep hp hn.1]
      · simp at h
structure DrawIs (E : Env) (nt : Nat) (ops : Array Oper) (n : Nat) (l : List POp) (az : List Operand) : Prop where
 size : ops.size = n
 pops : popsOf nt ops ops.toList = some l
 pairs : allPairs E ops (masks 0 ops.toList .leaf) 0 ops.toList = true
 nomk : ops.toList.all (fun o => !isMk E o) = true
 loads : freeLoads E (masks 0 ops.toList .leaf) ops.toList 0 ops.toList = some az
noncomputable def PC.draws : PC → List (Array Oper)
 | .draw ops => [ops]
 | .seq a b => a.draws ++ b.draws
 | .cond _ a b => a.draws ++ b.draws
 | .block _ a => a.draws
 | .loop a => a.draws
 | _ => []
end
end Go.Abs
end
end
