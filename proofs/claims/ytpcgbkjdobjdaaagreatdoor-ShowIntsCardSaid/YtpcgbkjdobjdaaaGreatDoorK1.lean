/-
  Bits of numbers, as plain arithmetic.
  More of the calculus.
  More of the calculus: objects, fields.
  More of the calculus: structs stored, built, answered.
  More of the calculus: maps whose keys and values are numbers.
  More of the calculus: maps whose keys are numbers, with any values.
  What goes on from a state while one older object is written.
-/
import Derived.Test.YtpcgbkjdobjdaaaGreatDoorAbsH
import Derived.Test.YtpcgbkjdobjdaaaGreatDoorAbsI
set_option linter.unusedSimpArgs false
set_option linter.unusedVariables false
set_option maxRecDepth 100000
namespace Go.Abs

theorem low7 : ∀ m : Fin 256, bitsV .andNot .u8 (m.val : Int) 128 = ((m.val % 128 : Nat) : Int) := by decide +kernel
theorem low7' : ∀ m : Fin 256, bitsV .and .u8 (m.val : Int) 127 = ((m.val % 128 : Nat) : Int) := by decide +kernel
theorem top1 : ∀ m : Fin 256, (bitsV .and .u8 (m.val : Int) 128 == 0) = decide (m.val < 128) := by decide +kernel
theorem or128 : ∀ m : Fin 256, bitsV .or .u8 (m.val : Int) 128 = ((UInt8.ofNat (m.val % 128 + 128)).toNat : Int) := by decide +kernel
theorem low7_u8 (c : UInt8) : bitsV .andNot .u8 (c.toNat : Int) 128 = ((c.toNat % 128 : Nat) : Int) := low7 ⟨c.toNat, c.toNat_lt⟩
theorem and127_u8 (c : UInt8) : bitsV .and .u8 (c.toNat : Int) 127 = ((c.toNat % 128 : Nat) : Int) := low7' ⟨c.toNat, c.toNat_lt⟩
theorem top1_u8 (c : UInt8) : (bitsV .and .u8 (c.toNat : Int) 128 == 0) = decide (c.toNat < 128) := top1 ⟨c.toNat, c.toNat_lt⟩
theorem wrap_u8' (n : Nat) : IntKind.u8.wrap (n : Int) = ((n % 256 : Nat) : Int) := by simp [IntKind.wrap, IntKind.bits, IntKind.signed]
theorem orMore (n : Nat) : bitsV .or .u8 (IntKind.u8.wrap (n : Int)) 128 = ((UInt8.ofNat (n % 128 + 128)).toNat : Int) := by
  have := or128 ⟨n % 256, Nat.mod_lt _ (by decide)⟩
  rw [wrap_u8', this]
  simp only
  rw [show n % 256 % 128 = n % 128 by omega]
theorem lowByte {n : Nat} (h : n < 256) : IntKind.u8.wrap (n : Int) = ((UInt8.ofNat n).toNat : Int) := by
  rw [wrap_u8']; simp
theorem ofInt_nat (a : Nat) : BitVec.ofInt 64 (a : Int) = BitVec.ofNat 64 a := by
  apply BitVec.eq_of_toNat_eq
  simp [BitVec.toNat_ofInt]
theorem or_u64 (a b : Nat) (ha : a < 2 ^ 64) (hb : b < 2 ^ 64) : bitsV .or .u64 (a : Int) (b : Int) = ((a ||| b : Nat) : Int) := by
  have h : a ||| b < 2 ^ 64 := Nat.or_lt_two_pow ha hb
  have e : bitsV .or .u64 (a : Int) (b : Int) = IntKind.u64.wrap (((BitVec.ofInt 64 (a : Int) ||| BitVec.ofInt 64 (b : Int)).toNat : Nat) : Int) := rfl
  rw [e, ofInt_nat, ofInt_nat, BitVec.toNat_or, BitVec.toNat_ofNat, BitVec.toNat_ofNat, Nat.mod_eq_of_lt ha, Nat.mod_eq_of_lt hb]
  exact wrap_u64 (by omega) (by omega)
theorem or_disj {v m k : Nat} (h : v < 2 ^ k) : v ||| m * 2 ^ k = v + m * 2 ^ k := by
  have := Nat.two_pow_add_eq_or_of_lt h m
  rw [Nat.or_comm, Nat.mul_comm, ← this, Nat.add_comm, Nat.mul_comm]
theorem pow128 (k : Nat) : 128 ^ k = 2 ^ (7 * k) := by
  rw [Nat.pow_mul]
/-- One group more of a number. -/
theorem group_step {v m k : Nat} (hv : v < 128 ^ k) (hm : m < 128) (hk : k < 9) : bitsV .or .u64 (v : Int) (IntKind.u64.wrap ((m : Int) * 2 ^ min (7 * (k : Int)).toNat IntKind.u64.bits)) = ((v + m * 128 ^ k : Nat) : Int) := by
  have e1 : min (7 * (k : Int)).toNat IntKind.u64.bits = 7 * k := by simp [IntKind.bits]; omega
  have h1 : 128 ^ k ≤ 128 ^ 8 := Nat.pow_le_pow_right (by decide) (by omega)
  have h2 : m * 128 ^ k ≤ 127 * 128 ^ 8 := Nat.mul_le_mul (by omega) h1
  have h3 : (128 : Nat) ^ 8 = 72057594037927936 := by decide
  rw [e1]
  have e2 : (m : Int) * 2 ^ (7 * k) = ((m * 128 ^ k : Nat) : Int) := by rw [pow128]; simp
  rw [e2, wrap_u64 (by omega) (by omega), or_u64 _ _ (by omega) (by omega), pow128]
  rw [pow128] at hv
  rw [or_disj hv]
theorem group_lt {v m k : Nat} (hv : v < 128 ^ k) (hm : m < 128) : v + m * 128 ^ k < 128 ^ (k + 1) := by
  rw [Nat.pow_succ]
  have : m * 128 ^ k ≤ 127 * 128 ^ k := Nat.mul_le_mul_right _ (by omega)
  omega
end Go.Abs

namespace Go.Abs
/-- What is known of the temporaries here is enough. -/
theorem ends_base {E : Env} {nt : Nat} {k : List KI} {o : Out} {tm : PM AV} {S : St} {Q : PostA} (F : PM AV → Prop) (h : F tm) (h2 : ∀ tm, F tm → EndsA E nt k o tm S Q) : EndsA E nt k o tm S Q := h2 tm h
end Go.Abs
namespace Go.Abs
theorem group_step' {v m k : Nat} (hv : v < 128 ^ k) (hk : k ≤ 9) (hm : m * 128 ^ k < 2 ^ 64) : bitsV .or .u64 (v : Int) (IntKind.u64.wrap ((m : Int) * 2 ^ min (7 * (k : Int)).toNat IntKind.u64.bits)) = ((v + m * 128 ^ k : Nat) : Int) := by
  have e1 : min (7 * (k : Int)).toNat IntKind.u64.bits = 7 * k := by simp [IntKind.bits]; omega
  have h1 : 128 ^ k ≤ 128 ^ 9 := Nat.pow_le_pow_right (by decide) hk
  have h3 : (128 : Nat) ^ 9 = 9223372036854775808 := by decide
  rw [e1]
  have e2 : (m : Int) * 2 ^ (7 * k) = ((m * 128 ^ k : Nat) : Int) := by rw [pow128]; simp
  rw [e2, wrap_u64 (by omega) (by omega), or_u64 _ _ (by omega) hm, pow128]
  rw [pow128] at hv
  rw [or_disj hv]
end Go.Abs

namespace Go.Abs
section
variable {E : Env} {tm : PM AV} {S : St} {d : Option Tmp}
noncomputable def St.born (S : St) (e : TypeId) (cs : List AV) : St := S.bearNext ⟨.cells cs, some (e, cs.length), fun n => .ptr n 0⟩
theorem op_box (e : TypeId) (x : Operand) : opV E tm d (.box e x) S = (cellsOf (E.ev tm x)).map fun cs => (.ptr S.no 0, S.born e cs) := by
  have h : isMk E (opOf d (.box e x)) = true := rfl
  have h2 : mkOp E tm (opOf d (.box e x)) = (cellsOf (E.ev tm x)).map fun cs => (⟨.cells cs, some (e, cs.length), fun n => .ptr n 0⟩ : Mk) := by
    show (match cellsOf (E.ev tm x) with | some cs => some (⟨.cells cs, some (e, cs.length), fun n => .ptr n 0⟩ : Mk) | none => none) = _
    cases cellsOf (E.ev tm x) <;> rfl
  simp only [opV, evOp, h, cond_true, h2, Option.map_map]
  rfl
theorem cells_agg (cs : List AV) : cellsOf (.agg cs) = some cs := rfl
theorem cells_int (k : IntKind) (n : Int) : cellsOf (.sc (.int k n)) = some [.sc (.int k n)] := rfl
def zeroIs (E : Env) (e : TypeId) (zs : List Value) : Bool := match E.inf e with
  | some i => match i.zero with
    | some z => (peek E.P (pure (Value.tuple z.cells))).isSome && Nat.beq z.cells.size zs.length
    | none => false
  | none => false
theorem alloc_of {e : TypeId} {cs : List AV} (h : mkOp E tm (opOf d (.alloc e)) = some ⟨.cells cs, some (e, cs.length), fun n => .ptr n 0⟩) : opV E tm d (.alloc e) S = some (.ptr S.no 0, S.born e cs) := by
  have h1 : isMk E (opOf d (.alloc e)) = true := rfl
  simp only [opV, evOp, h1, cond_true, h, Option.map_some]
  rfl
theorem born_obj (e : TypeId) (cs : List AV) (l : Nat) : (S.born e cs).obj l = if l = S.no then some cs else S.obj l := by
  simp only [St.born, St.bearNext, St.bear, St.obj, PM.get_set]
  by_cases h : l = S.no
  · simp [h]
  · simp [h]
theorem born_no (e : TypeId) (cs : List AV) : (S.born e cs).no = S.no + 1 := rfl
theorem born_nid (e : TypeId) (cs : List AV) : (S.born e cs).nid = S.nid := rfl
theorem born_fresh (e : TypeId) (cs : List AV) (h : S.Fresh) : (S.born e cs).Fresh := h
theorem put_obj (l m : Nat) (cs : List AV) : (S.put l (.cells cs)).obj m = if m = l then some cs else S.obj m := by
  simp only [St.put, St.obj, PM.get_set]
  by_cases h : m = l
  · simp [h]
  · simp [h]
theorem put_no (l : Nat) (o : AObj) : (S.put l o).no = S.no := rfl
theorem put_fresh (l : Nat) (o : AObj) (h : S.Fresh) : (S.put l o).Fresh := h
theorem Grow.born {S0 : St} {x : AV} (g : Grow S0 S x) (e : TypeId) (cs : List AV) : Grow S0 (S.born e cs) x :=
  ⟨g.nid, g.sp, g.ity, Nat.le_succ_of_le g.no, fun l hl => by
    have : l ≠ S.no := by have := g.no; omega
    simp only [St.born, St.bearNext, St.bear, PM.get_set, this, if_false]
    exact g.obj l hl, g.fresh, g.ver⟩
theorem Grow.put {S0 : St} {x : AV} (g : Grow S0 S x) (l : Nat) (o : AObj) (h : S0.no ≤ l) : Grow S0 (S.put l o) x :=
  ⟨g.nid, g.sp, g.ity, g.no, fun m hm => by
    have : m ≠ l := by omega
    simp only [St.put, PM.get_set, this, if_false]
    exact g.obj m hm, g.fresh, fun m hm => by
    have : m ≠ l := by omega
    have := g.ver m hm
    simp only [St.ver, St.put, PM.get_set] at this ⊢
    rw [if_neg (by omega)]
    exact this⟩
theorem Grow.objs {S2 : St} {x : AV} (g : Grow S S2 x) {l : Nat} {cs : List AV} (h : S.obj l = some cs) (hl : l < S.no) : S2.obj l = some cs := by
  unfold St.obj at h ⊢
  rw [g.obj l hl]
  exact h
theorem load_pb (b : Bool) (n l off : Nat) : loadC b n (.ptr l off) S = (S.obj l).bind fun cs => (cut b n cs off).map (·, S) := by
  simp only [loadC]
  cases S.obj l <;> rfl
theorem store_1 (l off : Nat) (v : AV) (hc : cellsOf v = some [v]) (h : okCell v = true) : storeC 1 (.ptr l off) v S = (S.obj l).bind fun cs => if off < cs.length then some (passed, S.put l (.cells (cs.set off v))) else none := by
  simp only [storeC, hc]
  cases S.obj l with
  | none => rfl
  | some cs =>
    simp only [Option.bind_some, List.length_cons, List.length_nil, List.all_cons, List.all_nil, h, Bool.and_true]
    by_cases hlt : off < cs.length
    · have : Nat.ble (off + 1) cs.length = true := Nat.ble_eq_true_of_le hlt
      simp only [Nat.zero_add, this, show Nat.beq 1 1 = true from rfl, Bool.and_self, cond_true, hlt, if_true, Option.some.injEq, Prod.mk.injEq, true_and]
      congr 2
      apply List.ext_getElem
      · simp [splice]; omega
      · intro i h1 h2
        simp only [splice, List.getElem_set]
        simp only [splice, List.length_append, List.length_take, List.length_cons, List.length_nil, List.length_drop] at h1
        by_cases e : off = i
        · subst e
          simp [List.getElem_append, hlt, Nat.min_eq_left (Nat.le_of_lt hlt)]
        · rw [if_neg e]
          by_cases e2 : i < off
          · rw [List.getElem_append_left (by simp; omega), List.getElem_append_left (by simp; omega)]
            simp
          · rw [List.getElem_append_right (by simp; omega)]
            simp only [List.length_append, List.length_take, List.length_cons, List.length_nil, List.getElem_drop]
            congr 1
            omega
    · have : Nat.ble (off + 1) cs.length = false := by
        cases e : Nat.ble (off + 1) cs.length
        · rfl
        · have := Nat.le_of_ble_eq_true e; omega
      simp only [Nat.zero_add, this, Bool.and_false, cond_false, hlt, if_false]
/-- A field lies so many cells on. -/
def fldIs (E : Env) (t : TypeId) (f off : Nat) : Bool := match E.und t with
  | some (.struct fs) => match fs[f]? with
    | some g => match E.inf g.type with
      | some i => !Nat.beq i.size 0 && Nat.beq g.offset off
      | none => false
    | none => false
  | _ => false
noncomputable def fldV (off : Nat) (x : AV) (S : St) : Option (AV × St) := match x with
  | .ptr l o => some (.ptr l (o + off), S)
  | .eptr cs o => some (.eptr cs (o + off), S)
  | _ => none
theorem field_chk (t : TypeId) (f off : Nat) (h : fldIs E t f off = true) (x : Operand) : opV E tm d (.fieldAddr t x f) S = fldV off (E.ev tm x) S := by
  unfold fldIs at h
  split at h
  · rename_i fs hd
    split at h
    · rename_i g hg
      split at h
      · rename_i i hi
        simp only [Bool.and_eq_true] at h
        have h2 := Nat.eq_of_beq_eq_true h.2
        have h1 : Nat.beq i.size 0 = false := by simpa using h.1
        subst h2
        show evPlain E (fun _ _ _ => none) tm (opOf d (.fieldAddr t x f)) S = _
        simp only [evPlain, opOf, hd]
        cases E.ev tm x <;> first | rfl | simp only [hg, hi, h1, cond_false, fldV]
      · cases h
    · cases h
  · cases h
theorem store_int (l off : Nat) (k : IntKind) (n : Int) : storeC 1 (.ptr l off) (.sc (.int k n)) S = (S.obj l).bind fun cs => if off < cs.length then some (passed, S.put l (.cells (cs.set off (.sc (.int k n))))) else none := store_1 l off _ rfl rfl
theorem fld_p (off l o : Nat) : fldV off (.ptr l o) S = some (.ptr l (o + off), S) := rfl
theorem fld_e (off : Nat) (cs : List AV) (o : Nat) : fldV off (.eptr cs o) S = some (.eptr cs (o + off), S) := rfl
theorem un_neg (k : IntKind) (n : Int) : unV E .neg (.sc (.int k n)) S = some (.sc (.int k (k.wrap (0 - n))), S) := rfl
theorem un_xor (k : IntKind) (n : Int) : unV E .xor (.sc (.int k n)) S = some (.sc (.int k (bitsV .xor k (if k.signed then -1 else k.max) n)), S) := rfl
theorem eq_vecnil {t e : TypeId} (h : E.und t = some (.slice e)) (x y : Operand) (id sz : Nat) (xs : List AV) : binGen E .eql t x y (.vec id sz xs) (.sc (.slice none 0 0)) S = some (.sc (.bool false), S) := by
  simp only [binGen, conc, h]
  rfl
end
end Go.Abs

namespace Go.Abs
section
variable {E : Env} {tm : PM AV} {S : St} {d : Option Tmp}
theorem op_build (t : TypeId) (ps : Array (Nat × Operand)) : opV E tm d (.build t ps) S = buildA E t (ps.toList.map fun p => (p.1, E.ev tm p.2)) S := rfl
theorem store_agg (n l : Nat) (vs : List AV) (h : (Nat.beq vs.length n && vs.all okCell) = true) : storeC n (.ptr l 0) (.agg vs) S = (S.obj l).bind fun cs => if n ≤ cs.length then some (passed, S.put l (.cells (vs ++ cs.drop n))) else none := by
  simp only [Bool.and_eq_true] at h
  have hn := Nat.eq_of_beq_eq_true h.1
  subst hn
  simp only [storeC, cellsOf]
  cases S.obj l with
  | none => rfl
  | some cs =>
    simp only [Option.bind_some, h.2, Bool.and_true, Nat.zero_add]
    have hb : Nat.beq vs.length vs.length = true := Nat.beq_refl _
    simp only [hb, Bool.true_and]
    by_cases hle : vs.length ≤ cs.length
    · have : Nat.ble vs.length cs.length = true := Nat.ble_eq_true_of_le hle
      simp only [this, cond_true, hle, if_true, splice, List.take_zero, List.nil_append, Nat.zero_add]
    · have : Nat.ble vs.length cs.length = false := by
        cases e : Nat.ble vs.length cs.length
        · rfl
        · exact absurd (Nat.le_of_ble_eq_true e) hle
      simp only [this, cond_false, hle, if_false]
noncomputable def chkV (x : AV) (S : St) : Option (AV × St) := match x with
  | .ptr l off => some (.ptr l off, S)
  | .eptr cs off => some (.eptr cs off, S)
  | .fn (.func f) a b => some (.fn (.func f) a b, S)
  | .ifc t a => some (.ifc t a, S)
  | .sc (.func (.func f) a b) => some (.sc (.func (.func f) a b), S)
  | _ => none
theorem op_nilCheck (x : Operand) : opV E tm d (.nilCheck x) S = chkV (E.ev tm x) S := rfl
theorem chk_p (l off : Nat) : chkV (.ptr l off) S = some (.ptr l off, S) := rfl
theorem idx_agg (sz id k : Nat) (xs : List AV) (cs : List AV) (h : xs[k]? = some (.agg cs)) : idxV sz (.vec id sz xs) (some (k : Int)) S = some (.eptr cs 0, S) := by
  have h1 : decide (0 ≤ (k : Int)) = true := by simp
  simp only [idxV, h1, Nat.beq_refl, Bool.and_self, cond_true, Int.toNat_natCast, h, cellsOf, Option.map_some]
theorem res_cell (t : Nat) (ty : TypeId) (l : List ResultVar) {de : TypeDesc} {i : TypeInfo} (hd : E.und ty = some de) (hi : E.inf ty = some i) {b : Bool} {n : Nat} (hb : isAggD de = b) (hn : i.size = n) :
    resAll E tm S (.cell t ty :: l) = (loadC b n (getT tm t) S).bind fun q => (resAll E tm S l).map (q.1 :: ·) := by
  have h1 : resA E tm S (.cell t ty) = (loadC b n (getT tm t) S).map (·.1) := by
    subst hb; subst hn
    simp only [resA, loadC, Env.cutAt, hd, hi]
    cases getT tm t with
    | ptr l off => rcases h : S.obj l with _ | cs <;> simp [h, Option.map_map, Function.comp_def]
    | eptr cs off => simp [Option.map_map, Function.comp_def]
    | _ => rfl
  simp only [resAll, h1]
  cases loadC b n (getT tm t) S with
  | none => rfl
  | some q => cases resAll E tm S l <;> rfl
end
end Go.Abs

namespace Go.Abs
def mapIs (kvs : List (Int × Int)) : List (Value × AV) := kvs.map fun p => (Value.int .i64 p.1, AV.sc (.int .i64 p.2))
def setI (k x : Int) : List (Int × Int) → List (Int × Int)
  | [] => [(k, x)]
  | e :: es => if k = e.1 then (k, x) :: es else e :: setI k x es
def findI (k : Int) : List (Int × Int) → Option Int
  | [] => none
  | e :: es => if k = e.1 then some e.2 else findI k es
theorem find_set (c k x : Int) : ∀ es, findI c (setI k x es) = if c = k then some x else findI c es
  | [] => rfl
  | e :: es => by
    have ih := find_set c k x es
    simp only [setI]
    by_cases h : k = e.1
    · rw [if_pos h]
      simp only [findI]
      by_cases h2 : c = k
      · rw [if_pos h2, if_pos h2]
      · rw [if_neg h2, if_neg h2, if_neg (by rw [← h]; exact h2)]
    · rw [if_neg h]
      simp only [findI]
      by_cases h2 : c = e.1
      · rw [if_pos h2, if_pos h2, if_neg (by rw [h2]; exact fun e => h e.symm)]
      · rw [if_neg h2, if_neg h2, ih]
theorem isKey_mapIs (kvs : List (Int × Int)) : (mapIs kvs).all (fun e => isKey (.int .i64) e.1) = true := by
  simp [mapIs, isKey]
theorem setKey_mapIs (k x : Int) : ∀ kvs, setKey (.int .i64) (.int .i64 k) (.sc (.int .i64 x)) (mapIs kvs) = mapIs (setI k x kvs)
  | [] => rfl
  | e :: es => by
    have ih := setKey_mapIs k x es
    simp only [mapIs, List.map_cons, setKey, Instr.sameNow, if_true, setI] at ih ⊢
    by_cases h : k = e.1
    · rw [if_pos h]
      simp [h]
    · rw [if_neg h]
      have : (k == e.1) = false := by simpa using h
      simp only [this, ih, List.map_cons]
theorem findA_mapIs (k : Int) : ∀ kvs, findA (.int .i64) (.int .i64 k) (mapIs kvs) = some ((findI k kvs).map fun v => .sc (.int .i64 v))
  | [] => rfl
  | e :: es => by
    have ih := findA_mapIs k es
    simp only [mapIs, List.map_cons, findA, Instr.sameNow, if_true, findI] at ih ⊢
    by_cases h : k = e.1
    · rw [if_pos h]
      simp [h]
    · rw [if_neg h]
      have : (k == e.1) = false := by simpa using h
      simp only [this, ih]
section
variable {E : Env} {tm : PM AV} {S : St} {d : Option Tmp}
noncomputable def St.bornMap (S : St) : St := S.bearNext ⟨.mp [], none, .mp⟩
noncomputable def St.IsMap (S : St) (l : Nat) (kvs : List (Int × Int)) : Prop := S.objs.get l = some (.mp (mapIs kvs))
theorem op_makeMap (t : TypeId) : opV E tm d (.makeMap t none) S = some (.mp S.no, S.bornMap) := rfl
theorem op_makeMapI (t : TypeId) (x : Operand) (h : (match E.und t with | some (.map _ _) => true | _ => false) = true) (k : IntKind) (n : Int) (hx : E.ev tm x = .sc (.int k n)) : opV E tm d (.makeMap t (some x)) S = some (.mp S.no, S.bornMap) := by
  have h1 : isMk E (opOf d (.makeMap t (some x))) = true := rfl
  have h2 : mkOp E tm (opOf d (.makeMap t (some x))) = some ⟨.mp [], none, .mp⟩ := by
    show (match E.und t, int? (E.ev tm x) with | some (.map _ _), some _ => some (⟨.mp [], none, .mp⟩ : Mk) | _, _ => none) = _
    rw [hx]
    split at h
    · rename_i h3; rw [h3]; rfl
    · cases h
  simp only [opV, evOp, h1, cond_true, h2, Option.map_some]
  rfl
theorem op_mapUpdate (t : TypeId) (x y z : Operand) : opV E tm d (.mapUpdate t x y z) S = mapUpdateA E t (E.ev tm x) (E.ev tm y) (E.ev tm z) S := rfl
theorem op_lookup (t : TypeId) (x y : Operand) (b : Bool) : opV E tm d (.lookup t x y b) S = lookupA E t (E.ev tm x) (E.ev tm y) b S := rfl
theorem eo_insert {nt : Nat} {k : List KI} {Q : Out → PM AV → St → Prop} {r : List POp} (t : TypeId) (x y z : Operand) : EndsA E nt (.c (.reg (⟨d, (.insert t x y z), none⟩ :: r)) :: k) .nrm tm S Q = OpK E nt d r k tm Q (opV E tm d (.insert t x y z) S) := e_op d _ r rfl
theorem op_insert (t : TypeId) (x y z : Operand) : opV E tm d (.insert t x y z) S = mapUpdateA E t (E.ev tm x) (E.ev tm y) (E.ev tm z) S := rfl
theorem bornMap_is : S.bornMap.IsMap S.no [] := by
  simp [St.IsMap, St.bornMap, St.bearNext, St.bear, PM.get_set, mapIs]
theorem bornMap_no : S.bornMap.no = S.no + 1 := rfl
theorem put_is (l : Nat) (kvs : List (Int × Int)) : (S.put l (.mp (mapIs kvs))).IsMap l kvs := by
  simp [St.IsMap, St.put, PM.get_set]
theorem Grow.isMap {S2 : St} {x : AV} (g : Grow S S2 x) {l : Nat} {kvs : List (Int × Int)} (h : S.IsMap l kvs) (hl : l < S.no) : S2.IsMap l kvs := by
  unfold St.IsMap at h ⊢
  rw [g.obj l hl]
  exact h
theorem mapI_update {t kt et : TypeId} (ht : E.und t = some (.map kt et)) (hk : E.und kt = some (.int .i64)) {l : Nat} {kvs : List (Int × Int)} (h : S.IsMap l kvs) (k x : Int) :
    mapUpdateA E t (.mp l) (.sc (.int .i64 k)) (.sc (.int .i64 x)) S = some (passed, S.put l (.mp (mapIs (setI k x kvs)))) := by
  have h1 : S.map l = some (mapIs kvs) := by unfold St.IsMap at h; simp only [St.map, h]
  have h2 : isKey (.int .i64) (.int .i64 k) = true := by simp [isKey]
  simp only [mapUpdateA, ht, hk, keyOf, h1, h2, isKey_mapIs, Bool.and_self, cond_true, setKey_mapIs]
def zeroOf (E : Env) (t : TypeId) : Option Value := match E.inf t with
  | some i => i.zero
  | none => none
theorem mapI_lookup {t kt et : TypeId} (ht : E.und t = some (.map kt et)) (hk : E.und kt = some (.int .i64)) (hz : zeroOf E et = some (.int .i64 0)) {l : Nat} {kvs : List (Int × Int)} (h : S.IsMap l kvs) (k : Int) :
    lookupA E t (.mp l) (.sc (.int .i64 k)) true S = some (match findI k kvs with | some v => .tup [.sc (.int .i64 v), .sc (.bool true)] | none => .tup [.sc (.int .i64 0), .sc (.bool false)], S) := by
  have h1 : S.map l = some (mapIs kvs) := by unfold St.IsMap at h; simp only [St.map, h]
  have h2 : isKey (.int .i64) (.int .i64 k) = true := by simp [isKey]
  simp only [lookupA, ht, hk, keyOf, h1, h2, isKey_mapIs, Bool.not_true, cond_false, cond_true, findA_mapIs]
  cases findI k kvs with
  | some v => rfl
  | none =>
    unfold zeroOf at hz
    split at hz
    · rename_i i hi; simp only [Option.map_none, hi, hz]; rfl
    · cases hz
end
end Go.Abs

namespace Go.Abs
def mapVs (kvs : List (Int × AV)) : List (Value × AV) := kvs.map fun p => (Value.int .i64 p.1, p.2)
def setM (k : Int) (x : AV) : List (Int × AV) → List (Int × AV)
  | [] => [(k, x)]
  | e :: es => if k = e.1 then (k, x) :: es else e :: setM k x es
def findM (k : Int) : List (Int × AV) → Option AV
  | [] => none
  | e :: es => if k = e.1 then some e.2 else findM k es
theorem findM_set (c k : Int) (x : AV) : ∀ es, findM c (setM k x es) = if c = k then some x else findM c es
  | [] => rfl
  | e :: es => by
    have ih := findM_set c k x es
    simp only [setM]
    by_cases h : k = e.1
    · rw [if_pos h]
      simp only [findM]
      by_cases h2 : c = k
      · rw [if_pos h2, if_pos h2]
      · rw [if_neg h2, if_neg h2, if_neg (by rw [← h]; exact h2)]
    · rw [if_neg h]
      simp only [findM]
      by_cases h2 : c = e.1
      · rw [if_pos h2, if_pos h2, if_neg (by rw [h2]; exact fun e => h e.symm)]
      · rw [if_neg h2, if_neg h2, ih]
theorem isKey_mapVs (kvs : List (Int × AV)) : (mapVs kvs).all (fun e => isKey (.int .i64) e.1) = true := by
  simp [mapVs, isKey]
theorem setKey_mapVs (k : Int) (x : AV) : ∀ kvs, setKey (.int .i64) (.int .i64 k) x (mapVs kvs) = mapVs (setM k x kvs)
  | [] => rfl
  | e :: es => by
    have ih := setKey_mapVs k x es
    simp only [mapVs, List.map_cons, setKey, Instr.sameNow, if_true, setM] at ih ⊢
    by_cases h : k = e.1
    · rw [if_pos h]
      simp [h]
    · rw [if_neg h]
      have : (k == e.1) = false := by simpa using h
      simp only [this, ih, List.map_cons]
theorem findA_mapVs (k : Int) : ∀ kvs, findA (.int .i64) (.int .i64 k) (mapVs kvs) = some (findM k kvs)
  | [] => rfl
  | e :: es => by
    have ih := findA_mapVs k es
    simp only [mapVs, List.map_cons, findA, Instr.sameNow, if_true, findM] at ih ⊢
    by_cases h : k = e.1
    · rw [if_pos h]
      simp [h]
    · rw [if_neg h]
      have : (k == e.1) = false := by simpa using h
      simp only [this, ih]
section
variable {E : Env} {tm : PM AV} {S : St} {d : Option Tmp}
noncomputable def St.IsMp (S : St) (l : Nat) (kvs : List (Int × AV)) : Prop := S.objs.get l = some (.mp (mapVs kvs))
theorem bornMap_mp : S.bornMap.IsMp S.no [] := by
  simp [St.IsMp, St.bornMap, St.bearNext, St.bear, PM.get_set, mapVs]
theorem put_mp (l : Nat) (kvs : List (Int × AV)) : (S.put l (.mp (mapVs kvs))).IsMp l kvs := by
  simp [St.IsMp, St.put, PM.get_set]
theorem put_mp_ne (l m : Nat) (o : AObj) (kvs : List (Int × AV)) (h : S.IsMp m kvs) (hne : m ≠ l) : (S.put l o).IsMp m kvs := by
  unfold St.IsMp at h ⊢
  simp only [St.put, PM.get_set, hne, if_false]
  exact h
theorem Grow.isMp {S2 : St} {x : AV} (g : Grow S S2 x) {l : Nat} {kvs : List (Int × AV)} (h : S.IsMp l kvs) (hl : l < S.no) : S2.IsMp l kvs := by
  unfold St.IsMp at h ⊢
  rw [g.obj l hl]
  exact h
theorem bornMap_obj (l : Nat) (hl : l < S.no) : S.bornMap.obj l = S.obj l := by
  have : l ≠ S.no := by omega
  simp only [St.bornMap, St.bearNext, St.bear, St.obj, PM.get_set, this, if_false]
theorem born_mp (e : TypeId) (cs : List AV) (l : Nat) (kvs : List (Int × AV)) (h : S.IsMp l kvs) (hl : l < S.no) : (S.born e cs).IsMp l kvs := by
  have : l ≠ S.no := by omega
  unfold St.IsMp at h ⊢
  simp only [St.born, St.bearNext, St.bear, PM.get_set, this, if_false]
  exact h
theorem Grow.bornMap {S0 : St} {x : AV} (g : Grow S0 S x) : Grow S0 S.bornMap x :=
  ⟨g.nid, g.sp, g.ity, Nat.le_succ_of_le g.no, fun l hl => by
    have : l ≠ S.no := by have := g.no; omega
    simp only [St.bornMap, St.bearNext, St.bear, PM.get_set, this, if_false]
    exact g.obj l hl, g.fresh, g.ver⟩
theorem mapV_update {t kt et : TypeId} (ht : E.und t = some (.map kt et)) (hk : E.und kt = some (.int .i64)) {l : Nat} {kvs : List (Int × AV)} (h : S.IsMp l kvs) (k : Int) (x : AV) :
    mapUpdateA E t (.mp l) (.sc (.int .i64 k)) x S = some (passed, S.put l (.mp (mapVs (setM k x kvs)))) := by
  have h1 : S.map l = some (mapVs kvs) := by unfold St.IsMp at h; simp only [St.map, h]
  have h2 : isKey (.int .i64) (.int .i64 k) = true := by simp [isKey]
  simp only [mapUpdateA, ht, hk, keyOf, h1, h2, isKey_mapVs, Bool.and_self, cond_true, setKey_mapVs]
theorem mapV_lookup {t kt et : TypeId} {z : AV} (ht : E.und t = some (.map kt et)) (hk : E.und kt = some (.int .i64)) (hz : (zeroOf E et).map ofV = some z) {l : Nat} {kvs : List (Int × AV)} (h : S.IsMp l kvs) (k : Int) :
    lookupA E t (.mp l) (.sc (.int .i64 k)) true S = some (match findM k kvs with | some v => .tup [v, .sc (.bool true)] | none => .tup [z, .sc (.bool false)], S) := by
  have h1 : S.map l = some (mapVs kvs) := by unfold St.IsMp at h; simp only [St.map, h]
  have h2 : isKey (.int .i64) (.int .i64 k) = true := by simp [isKey]
  simp only [lookupA, ht, hk, keyOf, h1, h2, isKey_mapVs, Bool.not_true, cond_false, cond_true, findA_mapVs]
  cases findM k kvs with
  | some v => rfl
  | none =>
    unfold zeroOf at hz
    split at hz
    · rename_i i hi
      simp only [Option.map_eq_some_iff] at hz
      obtain ⟨v, hv, rfl⟩ := hz
      simp only [hi, hv]
    · cases hz
theorem mapV_lookup1 {t kt et : TypeId} {z : AV} (ht : E.und t = some (.map kt et)) (hk : E.und kt = some (.int .i64)) (hz : (zeroOf E et).map ofV = some z) {l : Nat} {kvs : List (Int × AV)} (h : S.IsMp l kvs) (k : Int) :
    lookupA E t (.mp l) (.sc (.int .i64 k)) false S = some ((findM k kvs).getD z, S) := by
  have h1 : S.map l = some (mapVs kvs) := by unfold St.IsMp at h; simp only [St.map, h]
  have h2 : isKey (.int .i64) (.int .i64 k) = true := by simp [isKey]
  simp only [lookupA, ht, hk, keyOf, h1, h2, isKey_mapVs, Bool.not_true, cond_false, cond_true, findA_mapVs]
  cases findM k kvs with
  | some v => rfl
  | none =>
    unfold zeroOf at hz
    split at hz
    · rename_i i hi
      simp only [Option.map_eq_some_iff] at hz
      obtain ⟨v, hv, rfl⟩ := hz
      simp only [hi, hv]
      rfl
    · cases hz
end
end Go.Abs

namespace Go.Abs
/-- What has gone on from a state, but for one object. -/
structure GrowB (p : Nat) (S S' : St) : Prop where
  nid : S.nid ≤ S'.nid
  sp : ∀ id, id < S.nid → S'.spent.get id = S.spent.get id
  ity : ∀ id, id < S.nid → S'.ity.get id = S.ity.get id
  no : S.no ≤ S'.no
  obj : ∀ l, l < S.no → l ≠ p → S'.objs.get l = S.objs.get l
  fresh : S'.Fresh
  ver : ∀ l, l < S.no → l ≠ p → S'.ver l = S.ver l
theorem Grow.toB {S S' : St} (g : Grow S S' nilV) (p : Nat) : GrowB p S S' := ⟨g.nid, fun id h => g.sp id h (fun _ _ e => by cases e), g.ity, g.no, fun l h _ => g.obj l h, g.fresh, fun l h _ => g.ver l h⟩
theorem GrowB.two {p : Nat} {S S1 S2 : St} (h : GrowB p S S1) (k : GrowB p S1 S2) : GrowB p S S2 :=
  ⟨Nat.le_trans h.nid k.nid, fun id hid => (k.sp id (Nat.lt_of_lt_of_le hid h.nid)).trans (h.sp id hid), fun id hid => (k.ity id (Nat.lt_of_lt_of_le hid h.nid)).trans (h.ity id hid), Nat.le_trans h.no k.no,
    fun l hl hp => (k.obj l (Nat.lt_of_lt_of_le hl h.no) hp).trans (h.obj l hl hp), k.fresh, fun l hl hp => (k.ver l (Nat.lt_of_lt_of_le hl h.no) hp).trans (h.ver l hl hp)⟩
theorem GrowB.put {p : Nat} {S S1 : St} (h : GrowB p S S1) (o : AObj) : GrowB p S (S1.put p o) :=
  ⟨h.nid, h.sp, h.ity, h.no, fun l hl hp => by
    simp only [St.put, PM.get_set, hp, if_false]
    exact h.obj l hl hp, h.fresh, fun l hl hp => by
    have := h.ver l hl hp
    simp only [St.ver, St.put, PM.get_set] at this ⊢
    rw [if_neg hp]
    exact this⟩
theorem Grow.but {p : Nat} {S0 S S' : St} {x : AV} (g : Grow S0 S x) (h : GrowB p S S') (hp : S0.no ≤ p) : Grow S0 S' x :=
  ⟨Nat.le_trans g.nid h.nid, fun id hid hne => (h.sp id (Nat.lt_of_lt_of_le hid g.nid)).trans (g.sp id hid hne), fun id hid => (h.ity id (Nat.lt_of_lt_of_le hid g.nid)).trans (g.ity id hid), Nat.le_trans g.no h.no,
    fun l hl => (h.obj l (Nat.lt_of_lt_of_le hl g.no) (by omega)).trans (g.obj l hl), h.fresh, fun l hl => (h.ver l (Nat.lt_of_lt_of_le hl g.no) (by omega)).trans (g.ver l hl)⟩
theorem GrowB.objs {p : Nat} {S S2 : St} (g : GrowB p S S2) {l : Nat} {cs : List AV} (h : S.obj l = some cs) (hl : l < S.no) (hp : l ≠ p) : S2.obj l = some cs := by
  unfold St.obj at h ⊢
  rw [g.obj l hl hp]
  exact h
theorem GrowB.isMp {p : Nat} {S S2 : St} (g : GrowB p S S2) {l : Nat} {kvs : List (Int × AV)} (h : S.IsMp l kvs) (hl : l < S.no) (hp : l ≠ p) : S2.IsMp l kvs := by
  unfold St.IsMp at h ⊢
  rw [g.obj l hl hp]
  exact h
theorem OwnV.growB {p : Nat} {S S' : St} {e : TypeId} {sz : Nat} {x : AV} {xs : List AV} (h : OwnV S e sz x xs) (g : GrowB p S S') : OwnV S' e sz x xs := by
  rcases h with h | ⟨id, rfl, hid⟩
  · exact .inl h
  · refine .inr ⟨id, rfl, ?_⟩
    rcases hid with h | h | ⟨h1, h2⟩
    · exact .inl h
    · exact .inr (.inl h)
    · have hlt : 2 < id ∧ id < S.nid ∧ S.spent.get id = none := by
        simp only [St.live, Bool.and_eq_true] at h1
        exact ⟨Nat.le_of_ble_eq_true h1.1.1, Nat.le_of_ble_eq_true h1.1.2, by simpa using h1.2⟩
      refine .inr (.inr ⟨?_, ?_⟩)
      · simp only [St.live, Bool.and_eq_true]
        refine ⟨⟨Nat.ble_eq_true_of_le hlt.1, Nat.ble_eq_true_of_le (Nat.lt_of_lt_of_le hlt.2.1 g.nid)⟩, ?_⟩
        rw [g.sp id hlt.2.1, hlt.2.2]
        rfl
      · have := g.ity id hlt.2.1
        simp only [St.ityIs, this] at h2 ⊢
        exact h2

theorem GrowB.putN {p : Nat} {S S1 : St} (h : GrowB p S S1) (l : Nat) (o : AObj) (hl : S.no ≤ l) : GrowB p S (S1.put l o) :=
  ⟨h.nid, h.sp, h.ity, h.no, fun k hk hp => by
    have : k ≠ l := by omega
    simp only [St.put, PM.get_set, this, if_false]
    exact h.obj k hk hp, h.fresh, fun k hk hp => by
    have := h.ver k hk hp
    simp only [St.ver, St.put, PM.get_set] at this ⊢
    rw [if_neg (by omega)]
    exact this⟩
theorem safe_growB {p : Nat} {S S' : St} {l : Nat} (hl : l < S.no) (hp : l ≠ p) (g : GrowB p S S') (off : Nat) : safeA S S' (.ptr l off) = true := by
  have h1 : Nat.blt l S.no = true := Nat.ble_eq_true_of_le hl
  simp only [safeA, objId, h1, g.ver l hl hp, Nat.beq_refl, Bool.and_self]
theorem bear_obj {S : St} (l k : Nat) (cs : List AV) (sh : Option (TypeId × Nat)) (f : Nat → AV) : (S.bear l ⟨.cells cs, sh, f⟩).obj k = if k = l then some cs else S.obj k := by
  simp only [St.bear, St.obj, PM.get_set]
  by_cases h : k = l
  · simp [h]
  · simp [h]
theorem bear_no {S : St} (l : Nat) (m : Mk) : (S.bear l m).no = S.no := rfl
theorem Grow.bear {S0 S : St} {x : AV} (g : Grow S0 S x) (l : Nat) (m : Mk) (h : S0.no ≤ l) : Grow S0 (S.bear l m) x :=
  ⟨g.nid, g.sp, g.ity, g.no, fun k hk => by
    have : k ≠ l := by omega
    simp only [St.bear, PM.get_set, this, if_false]
    exact g.obj k hk, g.fresh, g.ver⟩
end Go.Abs
/-! The rules of the calculus, together. -/
namespace Go.Abs
theorem SXa : type_of% (And.intro @e_nil <| And.intro @e_skip <| And.intro @e_exit <| And.intro @e_ret <| And.intro @e_c_exit <| And.intro @e_blk_nrm <| And.intro @e_blk_exit <| And.intro @e_pop_ret <| And.intro @e_seq <| And.intro @e_block <| And.intro @e_reg_nil <| And.intro @e_regD <| And.intro @e_cond <| And.intro @condK_true <| And.intro @condK_false <| And.intro @eo_move <| And.intro @eo_assign <| And.intro @eo_pick <| And.intro @eo_alloc <| And.intro @eo_box <| And.intro @eo_build <| And.intro @eo_buildSlice <| And.intro @eo_load <| And.intro @eo_store <| And.intro @eo_nilCheck <| And.intro @eo_bin <| And.intro @eo_un <| And.intro @eo_convert <| And.intro @eo_slice <| And.intro @eo_makeSlice <| And.intro @eo_lookup <| And.intro @eo_mapUpdate <| And.intro @eo_makeMap <| And.intro @eo_range <| And.intro @eo_next <| And.intro @eo_fieldAddr <| And.intro @eo_field <| And.intro @eo_indexAddr <| And.intro @eo_index <| And.intro @eo_extract <| And.intro @eo_makeFunc <| And.intro @eo_makeInterface <| And.intro @eo_builtin <| And.intro @opK_some <| And.intro @e_guard <| And.intro @guardK_same <| And.intro @guardK_tf <| And.intro @guardK_ft <| And.intro @guardK_passed <| And.intro @eq_self.{1} <| And.intro @true_and <| And.intro @and_true <| And.intro @op_bin <| And.intro @b_add <| And.intro @b_sub <| And.intro @b_mul <| And.intro @b_and <| And.intro @b_or <| And.intro @b_xor <| And.intro @b_andNot <| And.intro @b_eql <| And.intro @b_neq <| And.intro @b_lss <| And.intro @b_leq <| And.intro @b_gtr <| And.intro @b_geq <| And.intro @b_eqstr <| And.intro @b_shl' <| And.intro @b_shr' <| And.intro @List.map_cons.{0,0} <| And.intro @List.map_nil.{0,0} <| And.intro @op_move <| And.intro @op_assign <| And.intro @op_pick <| And.intro @pick_bool <| And.intro @op_extract <| And.intro @extract_tup <| And.intro @op_un <| And.intro @un_not <| And.intro @Bool.not_false <| And.intro @Bool.not_true <| And.intro @load_e <| And.intro @cut_f <| And.intro @cut_t <| And.intro @List.getElem?_cons_zero.{0} <| And.intro @List.getElem?_cons_succ.{0} <| And.intro @List.length_cons.{0} <| And.intro @List.length_nil.{0} <| And.intro @List.drop_zero.{0} <| And.intro @List.drop_succ_cons.{0} <| And.intro @List.take_succ_cons.{0} <| And.intro @List.take_zero.{0} <| And.intro @op_min <| And.intro @min_int <| And.intro @op_slice <| And.intro @op_convert <| And.intro @len_vec <| And.intro @len_nil <| And.intro @byteVals_length <| And.intro @ret_ret <| And.intro @ret_nrm <| And.intro @retV_some <| And.intro @pack1 <| And.intro @pack2 <| And.intro @res_nil <| And.intro @res_tmp <| And.intro @getT_setD <| And.intro @setD_none <| And.intro @getT_leaf <| And.intro @initTm_nil <| And.intro @initTm_cons <| And.intro @ev_tmp <| And.intro @ev_int <| And.intro @ev_bool <| And.intro @ev_str <| And.intro @ev_nilslice <| And.intro @int_int <| And.intro @Option.map_some.{0,0} <| And.intro @Option.map_none.{0,0} <| And.intro @cond_true.{1} <| And.intro @cond_false.{1} <| And.intro @if_true.{1} <| And.intro @if_false.{1} <| And.intro @decide_true <| @decide_false) := And.intro @e_nil <| And.intro @e_skip <| And.intro @e_exit <| And.intro @e_ret <| And.intro @e_c_exit <| And.intro @e_blk_nrm <| And.intro @e_blk_exit <| And.intro @e_pop_ret <| And.intro @e_seq <| And.intro @e_block <| And.intro @e_reg_nil <| And.intro @e_regD <| And.intro @e_cond <| And.intro @condK_true <| And.intro @condK_false <| And.intro @eo_move <| And.intro @eo_assign <| And.intro @eo_pick <| And.intro @eo_alloc <| And.intro @eo_box <| And.intro @eo_build <| And.intro @eo_buildSlice <| And.intro @eo_load <| And.intro @eo_store <| And.intro @eo_nilCheck <| And.intro @eo_bin <| And.intro @eo_un <| And.intro @eo_convert <| And.intro @eo_slice <| And.intro @eo_makeSlice <| And.intro @eo_lookup <| And.intro @eo_mapUpdate <| And.intro @eo_makeMap <| And.intro @eo_range <| And.intro @eo_next <| And.intro @eo_fieldAddr <| And.intro @eo_field <| And.intro @eo_indexAddr <| And.intro @eo_index <| And.intro @eo_extract <| And.intro @eo_makeFunc <| And.intro @eo_makeInterface <| And.intro @eo_builtin <| And.intro @opK_some <| And.intro @e_guard <| And.intro @guardK_same <| And.intro @guardK_tf <| And.intro @guardK_ft <| And.intro @guardK_passed <| And.intro @eq_self.{1} <| And.intro @true_and <| And.intro @and_true <| And.intro @op_bin <| And.intro @b_add <| And.intro @b_sub <| And.intro @b_mul <| And.intro @b_and <| And.intro @b_or <| And.intro @b_xor <| And.intro @b_andNot <| And.intro @b_eql <| And.intro @b_neq <| And.intro @b_lss <| And.intro @b_leq <| And.intro @b_gtr <| And.intro @b_geq <| And.intro @b_eqstr <| And.intro @b_shl' <| And.intro @b_shr' <| And.intro @List.map_cons.{0,0} <| And.intro @List.map_nil.{0,0} <| And.intro @op_move <| And.intro @op_assign <| And.intro @op_pick <| And.intro @pick_bool <| And.intro @op_extract <| And.intro @extract_tup <| And.intro @op_un <| And.intro @un_not <| And.intro @Bool.not_false <| And.intro @Bool.not_true <| And.intro @load_e <| And.intro @cut_f <| And.intro @cut_t <| And.intro @List.getElem?_cons_zero.{0} <| And.intro @List.getElem?_cons_succ.{0} <| And.intro @List.length_cons.{0} <| And.intro @List.length_nil.{0} <| And.intro @List.drop_zero.{0} <| And.intro @List.drop_succ_cons.{0} <| And.intro @List.take_succ_cons.{0} <| And.intro @List.take_zero.{0} <| And.intro @op_min <| And.intro @min_int <| And.intro @op_slice <| And.intro @op_convert <| And.intro @len_vec <| And.intro @len_nil <| And.intro @byteVals_length <| And.intro @ret_ret <| And.intro @ret_nrm <| And.intro @retV_some <| And.intro @pack1 <| And.intro @pack2 <| And.intro @res_nil <| And.intro @res_tmp <| And.intro @getT_setD <| And.intro @setD_none <| And.intro @getT_leaf <| And.intro @initTm_nil <| And.intro @initTm_cons <| And.intro @ev_tmp <| And.intro @ev_int <| And.intro @ev_bool <| And.intro @ev_str <| And.intro @ev_nilslice <| And.intro @int_int <| And.intro @Option.map_some.{0,0} <| And.intro @Option.map_none.{0,0} <| And.intro @cond_true.{1} <| And.intro @cond_false.{1} <| And.intro @if_true.{1} <| And.intro @if_false.{1} <| And.intro @decide_true <| @decide_false
end Go.Abs
