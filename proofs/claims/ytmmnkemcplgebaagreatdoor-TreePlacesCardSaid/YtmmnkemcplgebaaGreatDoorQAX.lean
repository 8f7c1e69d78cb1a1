/-
  Bits of numbers, as plain arithmetic.
  More of the calculus.
  More of the calculus: objects, fields.
  More of the calculus: structs stored, built, answered.
  More of the calculus: maps whose keys and values are numbers.
  More of the calculus: maps whose keys are numbers, with any values.
  What goes on from a state while one older object is written.
  Ranges over texts, in the calculus; functions that answer the same whatever the state.
  Words of a text: what the program's functions answer, in plain terms.
  The library's contracts of runes, laid at this program.
-/
import Derived.Test.YtmmnkemcplgebaaGreatDoorQAV
import Derived.Test.YtmmnkemcplgebaaGreatDoorQAW
import Derived.Lib.TrimU
import Derived.Lib.RangeT
import Derived.Lib.IsU
import Derived.Lib.Props
import Derived.Shelf.Unicode.DecodeSlow
import Derived.Test.YtmmnkemcplgebaaGreatDoorProg
import Derived.Shelf.Unicode.ExclAny
import Derived.Shelf.Unicode.DecodeAny
section
section
set_option linter.unusedSimpArgs false
set_option linter.unusedVariables false
set_option maxRecDepth 100000
namespace Go.Abs
end Go.Abs
namespace Go.Abs
end Go.Abs
namespace Go.Abs
end Go.Abs
namespace Go.Abs
section
variable {E : Env} {tm : PM AV} {S : St} {d : Option Tmp}
noncomputable def St.born (S : St) (e : TypeId) (cs : List AV) : St := S.bearNext ⟨.cells cs, some (e, cs.length), fun n => .ptr n 0⟩
theorem op_box (e : TypeId) (x : Operand) : opV E tm d (.box e x) S = (cellsOf (E.ev tm x)).map fun cs => (.ptr S.no 0, S.born e cs) := by
 have h : isMk E (opOf d (.box e x)) = true := rfl
 have h2 : mkOp E tm (opOf d (.box e x)) = (cellsOf (E.ev tm x)).map fun cs => (⟨.cells cs, some (e, cs.length), fun n => .ptr n 0⟩ : Mk) := by
  show (match cellsOf (E.ev tm x) with | some cs => some (⟨.cells cs, some (e, cs.length), fun n => .ptr n 0⟩ : Mk) | none => none) = _
  cases cellsOf (E.ev tm x) <;> rfl
 simp only [opV, evOp, h, cond_true, h2, Option.map_map]
 rfl
theorem cells_agg (cs : List AV) : cellsOf (.agg cs) = some cs := rfl
def zeroIs (E : Env) (e : TypeId) (zs : List Value) : Bool := match E.inf e with
 | some i => match i.zero with
  | some z => (peek E.P (pure (Value.tuple z.cells))).isSome && Nat.beq z.cells.size zs.length
  | none => false
 | none => false
theorem alloc_of {e : TypeId} {cs : List AV} (h : mkOp E tm (opOf d (.alloc e)) = some ⟨.cells cs, some (e, cs.length), fun n => .ptr n 0⟩) : opV E tm d (.alloc e) S = some (.ptr S.no 0, S.born e cs) := by
 have h1 : isMk E (opOf d (.alloc e)) = true := rfl
 simp only [opV, evOp, h1, cond_true, h, Option.map_some]
 rfl
theorem born_obj (e : TypeId) (cs : List AV) (l : Nat) : (S.born e cs).obj l = if l = S.no then some cs else S.obj l := by
 simp only [St.born, St.bearNext, St.bear, St.obj, PM.get_set]
 by_cases h : l = S.no
 · simp [h]
 · simp [h]
theorem born_no (e : TypeId) (cs : List AV) : (S.born e cs).no = S.no + 1 := rfl
theorem put_obj (l m : Nat) (cs : List AV) : (S.put l (.cells cs)).obj m = if m = l then some cs else S.obj m := by
 simp only [St.put, St.obj, PM.get_set]
 by_cases h : m = l
 · simp [h]
 · simp [h]
theorem put_no (l : Nat) (o : AObj) : (S.put l o).no = S.no := rfl
theorem Grow.born {S0 : St} {x : AV} (g : Grow S0 S x) (e : TypeId) (cs : List AV) : Grow S0 (S.born e cs) x :=
 ⟨g.nid, g.sp, g.ity, Nat.le_succ_of_le g.no, fun l hl => by
  have : l ≠ S.no := by have := g.no; omega
  simp only [St.born, St.bearNext, St.bear, PM.get_set, this, if_false]
  exact g.obj l hl, g.fresh, g.ver⟩
theorem Grow.put {S0 : St} {x : AV} (g : Grow S0 S x) (l : Nat) (o : AObj) (h : S0.no ≤ l) : Grow S0 (S.put l o) x :=
 ⟨g.nid, g.sp, g.ity, g.no, fun m hm => by
  have : m ≠ l := by omega
  simp only [St.put, PM.get_set, this, if_false]
  exact g.obj m hm, g.fresh, fun m hm => by
  have : m ≠ l := by omega
  have := g.ver m hm
  simp only [St.ver, St.put, PM.get_set] at this ⊢
  rw [if_neg (by omega)]
  exact this⟩
theorem Grow.objs {S2 : St} {x : AV} (g : Grow S S2 x) {l : Nat} {cs : List AV} (h : S.obj l = some cs) (hl : l < S.no) : S2.obj l = some cs := by
 unfold St.obj at h ⊢
 rw [g.obj l hl]
 exact h
theorem load_pb (b : Bool) (n l off : Nat) : loadC b n (.ptr l off) S = (S.obj l).bind fun cs => (cut b n cs off).map (·, S) := by
 simp only [loadC]
 cases S.obj l <;> rfl
theorem store_1 (l off : Nat) (v : AV) (hc : cellsOf v = some [v]) (h : okCell v = true) : storeC 1 (.ptr l off) v S = (S.obj l).bind fun cs => if off < cs.length then some (passed, S.put l (.cells (cs.set off v))) else none := by
 simp only [storeC, hc]
 cases S.obj l with
 | none => rfl
 | some cs =>
  simp only [Option.bind_some, List.length_cons, List.length_nil, List.all_cons, List.all_nil, h, Bool.and_true]
  by_cases hlt : off < cs.length
  · have : Nat.ble (off + 1) cs.length = true := Nat.ble_eq_true_of_le hlt
    simp only [Nat.zero_add, this, show Nat.beq 1 1 = true from rfl, Bool.and_self, cond_true, hlt, if_true, Option.some.injEq, Prod.mk.injEq, true_and]
    congr 2
    apply List.ext_getElem
    · simp [splice]; omega
    · intro i h1 h2
      simp only [splice, List.getElem_set]
      simp only [splice, List.length_append, List.length_take, List.length_cons, List.length_nil, List.length_drop] at h1
      by_cases e : off = i
      · subst e
        simp [Nat.min_eq_left (Nat.le_of_lt hlt)]
      · rw [if_neg e]
        by_cases e2 : i < off
        · rw [List.getElem_append_left (by simp; omega), List.getElem_append_left (by simp; omega)]
          simp
        · rw [List.getElem_append_right (by simp; omega)]
          simp only [List.length_append, List.length_take, List.length_cons, List.length_nil, List.getElem_drop]
          congr 1
          omega
  · have : Nat.ble (off + 1) cs.length = false := by
     cases e : Nat.ble (off + 1) cs.length
     · rfl
     · have := Nat.le_of_ble_eq_true e; omega
    simp only [Nat.zero_add, this, Bool.and_false, cond_false, hlt, if_false]
def fldIs (E : Env) (t : TypeId) (f off : Nat) : Bool := match E.und t with
 | some (.struct fs) => match fs[f]? with
  | some g => match E.inf g.type with
   | some i => !Nat.beq i.size 0 && Nat.beq g.offset off
   | none => false
  | none => false
 | _ => false
noncomputable def fldV (off : Nat) (x : AV) (S : St) : Option (AV × St) := match x with
 | .ptr l o => some (.ptr l (o + off), S)
 | .eptr cs o => some (.eptr cs (o + off), S)
 | _ => none
theorem field_chk (t : TypeId) (f off : Nat) (h : fldIs E t f off = true) (x : Operand) : opV E tm d (.fieldAddr t x f) S = fldV off (E.ev tm x) S := by
 unfold fldIs at h
 split at h
 · rename_i fs hd
   split at h
   · rename_i g hg
     split at h
     · rename_i i hi
       simp only [Bool.and_eq_true] at h
       have h2 := Nat.eq_of_beq_eq_true h.2
       have h1 : Nat.beq i.size 0 = false := by simpa using h.1
       subst h2
       show evPlain E (fun _ _ _ => none) tm (opOf d (.fieldAddr t x f)) S = _
       simp only [evPlain, opOf, hd]
       cases E.ev tm x <;> first | rfl | simp only [hg, hi, h1, cond_false, fldV]
     · cases h
   · cases h
 · cases h
theorem store_int (l off : Nat) (k : IntKind) (n : Int) : storeC 1 (.ptr l off) (.sc (.int k n)) S = (S.obj l).bind fun cs => if off < cs.length then some (passed, S.put l (.cells (cs.set off (.sc (.int k n))))) else none := store_1 l off _ rfl rfl
theorem fld_p (off l o : Nat) : fldV off (.ptr l o) S = some (.ptr l (o + off), S) := rfl
theorem fld_e (off : Nat) (cs : List AV) (o : Nat) : fldV off (.eptr cs o) S = some (.eptr cs (o + off), S) := rfl
end
end Go.Abs
namespace Go.Abs
section
variable {E : Env} {tm : PM AV} {S : St} {d : Option Tmp}
theorem op_build (t : TypeId) (ps : Array (Nat × Operand)) : opV E tm d (.build t ps) S = buildA E t (ps.toList.map fun p => (p.1, E.ev tm p.2)) S := rfl
theorem store_agg (n l : Nat) (vs : List AV) (h : (Nat.beq vs.length n && vs.all okCell) = true) : storeC n (.ptr l 0) (.agg vs) S = (S.obj l).bind fun cs => if n ≤ cs.length then some (passed, S.put l (.cells (vs ++ cs.drop n))) else none := by
 simp only [Bool.and_eq_true] at h
 have hn := Nat.eq_of_beq_eq_true h.1
 subst hn
 simp only [storeC, cellsOf]
 cases S.obj l with
 | none => rfl
 | some cs =>
  simp only [Option.bind_some, h.2, Bool.and_true, Nat.zero_add]
  have hb : Nat.beq vs.length vs.length = true := Nat.beq_refl _
  simp only [hb, Bool.true_and]
  by_cases hle : vs.length ≤ cs.length
  · have : Nat.ble vs.length cs.length = true := Nat.ble_eq_true_of_le hle
    simp only [this, cond_true, hle, if_true, splice, List.take_zero, List.nil_append, Nat.zero_add]
  · have : Nat.ble vs.length cs.length = false := by
     cases e : Nat.ble vs.length cs.length
     · rfl
     · exact absurd (Nat.le_of_ble_eq_true e) hle
    simp only [this, cond_false, hle, if_false]
noncomputable def chkV (x : AV) (S : St) : Option (AV × St) := match x with
 | .ptr l off => some (.ptr l off, S)
 | .eptr cs off => some (.eptr cs off, S)
 | .fn (.func f) a b => some (.fn (.func f) a b, S)
 | .ifc t a => some (.ifc t a, S)
 | .sc (.func (.func f) a b) => some (.sc (.func (.func f) a b), S)
 | _ => none
theorem op_nilCheck (x : Operand) : opV E tm d (.nilCheck x) S = chkV (E.ev tm x) S := rfl
theorem chk_p (l off : Nat) : chkV (.ptr l off) S = some (.ptr l off, S) := rfl
theorem res_cell (t : Nat) (ty : TypeId) (l : List ResultVar) {de : TypeDesc} {i : TypeInfo} (hd : E.und ty = some de) (hi : E.inf ty = some i) {b : Bool} {n : Nat} (hb : isAggD de = b) (hn : i.size = n) :
 resAll E tm S (.cell t ty :: l) = (loadC b n (getT tm t) S).bind fun q => (resAll E tm S l).map (q.1 :: ·) := by
 have h1 : resA E tm S (.cell t ty) = (loadC b n (getT tm t) S).map (·.1) := by
  subst hb; subst hn
  simp only [resA, loadC, Env.cutAt, hd, hi]
  cases getT tm t with
  | ptr l off => rcases h : S.obj l with _ | cs <;> simp [h, Option.map_map, Function.comp_def]
  | eptr cs off => simp [Option.map_map, Function.comp_def]
  | _ => rfl
 simp only [resAll, h1]
 cases loadC b n (getT tm t) S with
 | none => rfl
 | some q => cases resAll E tm S l <;> rfl
end
end Go.Abs
namespace Go.Abs
section
variable {E : Env} {tm : PM AV} {S : St} {d : Option Tmp}
noncomputable def St.bornMap (S : St) : St := S.bearNext ⟨.mp [], none, .mp⟩
theorem op_makeMap (t : TypeId) : opV E tm d (.makeMap t none) S = some (.mp S.no, S.bornMap) := rfl
theorem op_mapUpdate (t : TypeId) (x y z : Operand) : opV E tm d (.mapUpdate t x y z) S = mapUpdateA E t (E.ev tm x) (E.ev tm y) (E.ev tm z) S := rfl
theorem op_lookup (t : TypeId) (x y : Operand) (b : Bool) : opV E tm d (.lookup t x y b) S = lookupA E t (E.ev tm x) (E.ev tm y) b S := rfl
def zeroOf (E : Env) (t : TypeId) : Option Value := match E.inf t with
 | some i => i.zero
 | none => none
end
end Go.Abs
namespace Go.Abs
section
variable {E : Env} {tm : PM AV} {S : St} {d : Option Tmp}
theorem Grow.bornMap {S0 : St} {x : AV} (g : Grow S0 S x) : Grow S0 S.bornMap x :=
 ⟨g.nid, g.sp, g.ity, Nat.le_succ_of_le g.no, fun l hl => by
  have : l ≠ S.no := by have := g.no; omega
  simp only [St.bornMap, St.bearNext, St.bear, PM.get_set, this, if_false]
  exact g.obj l hl, g.fresh, g.ver⟩
end
end Go.Abs
namespace Go.Abs
structure GrowB (p : Nat) (S S' : St) : Prop where
 nid : S.nid ≤ S'.nid
 sp : ∀ id, id < S.nid → S'.spent.get id = S.spent.get id
 ity : ∀ id, id < S.nid → S'.ity.get id = S.ity.get id
 no : S.no ≤ S'.no
 obj : ∀ l, l < S.no → l ≠ p → S'.objs.get l = S.objs.get l
 fresh : S'.Fresh
 ver : ∀ l, l < S.no → l ≠ p → S'.ver l = S.ver l
theorem Grow.toB {S S' : St} (g : Grow S S' nilV) (p : Nat) : GrowB p S S' := ⟨g.nid, fun id h => g.sp id h (fun _ _ e => by cases e), g.ity, g.no, fun l h _ => g.obj l h, g.fresh, fun l h _ => g.ver l h⟩
theorem GrowB.two {p : Nat} {S S1 S2 : St} (h : GrowB p S S1) (k : GrowB p S1 S2) : GrowB p S S2 :=
 ⟨Nat.le_trans h.nid k.nid, fun id hid => (k.sp id (Nat.lt_of_lt_of_le hid h.nid)).trans (h.sp id hid), fun id hid => (k.ity id (Nat.lt_of_lt_of_le hid h.nid)).trans (h.ity id hid), Nat.le_trans h.no k.no,
  fun l hl hp => (k.obj l (Nat.lt_of_lt_of_le hl h.no) hp).trans (h.obj l hl hp), k.fresh, fun l hl hp => (k.ver l (Nat.lt_of_lt_of_le hl h.no) hp).trans (h.ver l hl hp)⟩
theorem GrowB.put {p : Nat} {S S1 : St} (h : GrowB p S S1) (o : AObj) : GrowB p S (S1.put p o) :=
 ⟨h.nid, h.sp, h.ity, h.no, fun l hl hp => by
  simp only [St.put, PM.get_set, hp, if_false]
  exact h.obj l hl hp, h.fresh, fun l hl hp => by
  have := h.ver l hl hp
  simp only [St.ver, St.put, PM.get_set] at this ⊢
  rw [if_neg hp]
  exact this⟩
theorem Grow.but {p : Nat} {S0 S S' : St} {x : AV} (g : Grow S0 S x) (h : GrowB p S S') (hp : S0.no ≤ p) : Grow S0 S' x :=
 ⟨Nat.le_trans g.nid h.nid, fun id hid hne => (h.sp id (Nat.lt_of_lt_of_le hid g.nid)).trans (g.sp id hid hne), fun id hid => (h.ity id (Nat.lt_of_lt_of_le hid g.nid)).trans (g.ity id hid), Nat.le_trans g.no h.no,
  fun l hl => (h.obj l (Nat.lt_of_lt_of_le hl g.no) (by omega)).trans (g.obj l hl), h.fresh, fun l hl => (h.ver l (Nat.lt_of_lt_of_le hl g.no) (by omega)).trans (g.ver l hl)⟩
theorem GrowB.objs {p : Nat} {S S2 : St} (g : GrowB p S S2) {l : Nat} {cs : List AV} (h : S.obj l = some cs) (hl : l < S.no) (hp : l ≠ p) : S2.obj l = some cs := by
 unfold St.obj at h ⊢
 rw [g.obj l hl hp]
 exact h
end Go.Abs
namespace Go.Abs
theorem SXa : type_of% (And.intro @e_nil <| And.intro @e_skip <| And.intro @e_exit <| And.intro @e_ret <| And.intro @e_c_exit <| And.intro @e_blk_nrm <| And.intro @e_blk_exit <| And.intro @e_pop_ret <| And.intro @e_seq <| And.intro @e_block <| And.intro @e_reg_nil <| And.intro @e_regD <| And.intro @e_cond <| And.intro @condK_true <| And.intro @condK_false <| And.intro @eo_move <| And.intro @eo_assign <| And.intro @eo_pick <| And.intro @eo_alloc <| And.intro @eo_box <| And.intro @eo_build <| And.intro @eo_buildSlice <| And.intro @eo_load <| And.intro @eo_store <| And.intro @eo_nilCheck <| And.intro @eo_bin <| And.intro @eo_un <| And.intro @eo_convert <| And.intro @eo_slice <| And.intro @eo_makeSlice <| And.intro @eo_lookup <| And.intro @eo_mapUpdate <| And.intro @eo_makeMap <| And.intro @eo_range <| And.intro @eo_next <| And.intro @eo_fieldAddr <| And.intro @eo_field <| And.intro @eo_indexAddr <| And.intro @eo_index <| And.intro @eo_extract <| And.intro @eo_makeFunc <| And.intro @eo_makeInterface <| And.intro @eo_builtin <| And.intro @opK_some <| And.intro @e_guard <| And.intro @guardK_same <| And.intro @guardK_tf <| And.intro @guardK_ft <| And.intro @guardK_passed <| And.intro @eq_self.{1} <| And.intro @true_and <| And.intro @and_true <| And.intro @op_bin <| And.intro @b_add <| And.intro @b_sub <| And.intro @b_mul <| And.intro @b_and <| And.intro @b_or <| And.intro @b_xor <| And.intro @b_andNot <| And.intro @b_eql <| And.intro @b_neq <| And.intro @b_lss <| And.intro @b_leq <| And.intro @b_gtr <| And.intro @b_geq <| And.intro @b_eqstr <| And.intro @b_shl' <| And.intro @b_shr' <| And.intro @List.map_cons.{0,0} <| And.intro @List.map_nil.{0,0} <| And.intro @op_move <| And.intro @op_assign <| And.intro @op_pick <| And.intro @pick_bool <| And.intro @op_extract <| And.intro @extract_tup <| And.intro @op_un <| And.intro @un_not <| And.intro @Bool.not_false <| And.intro @Bool.not_true <| And.intro @load_e <| And.intro @cut_f <| And.intro @cut_t <| And.intro @List.getElem?_cons_zero.{0} <| And.intro @List.getElem?_cons_succ.{0} <| And.intro @List.length_cons.{0} <| And.intro @List.length_nil.{0} <| And.intro @List.drop_zero.{0} <| And.intro @List.drop_succ_cons.{0} <| And.intro @List.take_succ_cons.{0} <| And.intro @List.take_zero.{0} <| And.intro @op_min <| And.intro @min_int <| And.intro @op_slice <| And.intro @op_convert <| And.intro @len_vec <| And.intro @len_nil <| And.intro @byteVals_length <| And.intro @ret_ret <| And.intro @ret_nrm <| And.intro @retV_some <| And.intro @pack1 <| And.intro @pack2 <| And.intro @res_nil <| And.intro @res_tmp <| And.intro @getT_setD <| And.intro @setD_none <| And.intro @getT_leaf <| And.intro @initTm_nil <| And.intro @initTm_cons <| And.intro @ev_tmp <| And.intro @ev_int <| And.intro @ev_bool <| And.intro @ev_str <| And.intro @ev_nilslice <| And.intro @int_int <| And.intro @Option.map_some.{0,0} <| And.intro @Option.map_none.{0,0} <| And.intro @cond_true.{1} <| And.intro @cond_false.{1} <| And.intro @if_true.{1} <| And.intro @if_false.{1} <| And.intro @decide_true <| @decide_false) := And.intro @e_nil <| And.intro @e_skip <| And.intro @e_exit <| And.intro @e_ret <| And.intro @e_c_exit <| And.intro @e_blk_nrm <| And.intro @e_blk_exit <| And.intro @e_pop_ret <| And.intro @e_seq <| And.intro @e_block <| And.intro @e_reg_nil <| And.intro @e_regD <| And.intro @e_cond <| And.intro @condK_true <| And.intro @condK_false <| And.intro @eo_move <| And.intro @eo_assign <| And.intro @eo_pick <| And.intro @eo_alloc <| And.intro @eo_box <| And.intro @eo_build <| And.intro @eo_buildSlice <| And.intro @eo_load <| And.intro @eo_store <| And.intro @eo_nilCheck <| And.intro @eo_bin <| And.intro @eo_un <| And.intro @eo_convert <| And.intro @eo_slice <| And.intro @eo_makeSlice <| And.intro @eo_lookup <| And.intro @eo_mapUpdate <| And.intro @eo_makeMap <| And.intro @eo_range <| And.intro @eo_next <| And.intro @eo_fieldAddr <| And.intro @eo_field <| And.intro @eo_indexAddr <| And.intro @eo_index <| And.intro @eo_extract <| And.intro @eo_makeFunc <| And.intro @eo_makeInterface <| And.intro @eo_builtin <| And.intro @opK_some <| And.intro @e_guard <| And.intro @guardK_same <| And.intro @guardK_tf <| And.intro @guardK_ft <| And.intro @guardK_passed <| And.intro @eq_self.{1} <| And.intro @true_and <| And.intro @and_true <| And.intro @op_bin <| And.intro @b_add <| And.intro @b_sub <| And.intro @b_mul <| And.intro @b_and <| And.intro @b_or <| And.intro @b_xor <| And.intro @b_andNot <| And.intro @b_eql <| And.intro @b_neq <| And.intro @b_lss <| And.intro @b_leq <| And.intro @b_gtr <| And.intro @b_geq <| And.intro @b_eqstr <| And.intro @b_shl' <| And.intro @b_shr' <| And.intro @List.map_cons.{0,0} <| And.intro @List.map_nil.{0,0} <| And.intro @op_move <| And.intro @op_assign <| And.intro @op_pick <| And.intro @pick_bool <| And.intro @op_extract <| And.intro @extract_tup <| And.intro @op_un <| And.intro @un_not <| And.intro @Bool.not_false <| And.intro @Bool.not_true <| And.intro @load_e <| And.intro @cut_f <| And.intro @cut_t <| And.intro @List.getElem?_cons_zero.{0} <| And.intro @List.getElem?_cons_succ.{0} <| And.intro @List.length_cons.{0} <| And.intro @List.length_nil.{0} <| And.intro @List.drop_zero.{0} <| And.intro @List.drop_succ_cons.{0} <| And.intro @List.take_succ_cons.{0} <| And.intro @List.take_zero.{0} <| And.intro @op_min <| And.intro @min_int <| And.intro @op_slice <| And.intro @op_convert <| And.intro @len_vec <| And.intro @len_nil <| And.intro @byteVals_length <| And.intro @ret_ret <| And.intro @ret_nrm <| And.intro @retV_some <| And.intro @pack1 <| And.intro @pack2 <| And.intro @res_nil <| And.intro @res_tmp <| And.intro @getT_setD <| And.intro @setD_none <| And.intro @getT_leaf <| And.intro @initTm_nil <| And.intro @initTm_cons <| And.intro @ev_tmp <| And.intro @ev_int <| And.intro @ev_bool <| And.intro @ev_str <| And.intro @ev_nilslice <| And.intro @int_int <| And.intro @Option.map_some.{0,0} <| And.intro @Option.map_none.{0,0} <| And.intro @cond_true.{1} <| And.intro @cond_false.{1} <| And.intro @if_true.{1} <| And.intro @if_false.{1} <| And.intro @decide_true <| @decide_false
end Go.Abs
end
end

section
section
set_option linter.unusedSimpArgs false
set_option linter.unusedVariables false
set_option maxRecDepth 100000
namespace Go.Abs
section
variable {E : Env} {tm : PM AV} {S : St} {d : Option Tmp}
noncomputable def St.bornIt (S : St) (s : ByteArray) : St := S.bearNext ⟨.siter s 0, none, fun n => .ptr n 0⟩
noncomputable def St.IsIt (S : St) (l : Nat) (s : ByteArray) (pos : Nat) : Prop := S.objs.get l = some (.siter s pos)
def isStrT (E : Env) (t : TypeId) : Bool := match E.und t with
 | some .string => true
 | _ => false
noncomputable def rangeS (x : AV) (S : St) : Option (AV × St) := match x with
 | .sc (.string s) => some (.ptr S.no 0, S.bornIt s)
 | _ => none
theorem op_rangeS (t : TypeId) (x : Operand) (h : isStrT E t = true) : opV E tm d (.range t x) S = rangeS (E.ev tm x) S := by
 have h1 : isMk E (opOf d (.range t x)) = true := rfl
 have hu : E.und t = some .string := by
  unfold isStrT at h
  split at h
  · assumption
  · cases h
 have h2 : mkOp E tm (opOf d (.range t x)) = (match E.ev tm x with | .sc (.string s) => some ⟨.siter s 0, none, fun n => .ptr n 0⟩ | _ => none) := by
  show (match E.und t, E.ev tm x with | some .string, .sc (.string s) => some (⟨.siter s 0, none, fun n => .ptr n 0⟩ : Mk) | _, _ => none) = _
  rw [hu]
  split
  · rename_i h3 h4; rw [h4]
  · rename_i h3
    split
    · rename_i s h4; exact absurd h4 (fun e => h3 s rfl e)
    · rfl
 simp only [opV, evOp, h1, cond_true, h2, rangeS]
 split <;> rfl
theorem op_next (x : Operand) (b : Bool) : opV E tm d (.next x b) S = nextA (E.ev tm x) b S := rfl
theorem next_it {l : Nat} {s : ByteArray} {pos : Nat} (h : S.IsIt l s pos) : nextA (.ptr l 0) true S = if pos < s.size then some (.tup [.sc (.bool true), .sc (.int .i64 (pos : Nat)), .sc (.int .i32 ((Utf8.decode s pos).1 : Nat))], S.put l (.siter s (pos + (Utf8.decode s pos).2))) else some (.tup [.sc (.bool false)], S) := by
 unfold St.IsIt at h
 simp only [nextA, h, PM.blt_eq, cond_eq_ite, decide_eq_true_eq]
theorem bornIt_is (s : ByteArray) : (S.bornIt s).IsIt S.no s 0 := by
 simp [St.IsIt, St.bornIt, St.bearNext, St.bear, PM.get_set]
theorem put_it (l : Nat) (s : ByteArray) (pos : Nat) : (S.put l (.siter s pos)).IsIt l s pos := by
 simp [St.IsIt, St.put, PM.get_set]
theorem Grow.isIt {S2 : St} {x : AV} (g : Grow S S2 x) {l : Nat} {s : ByteArray} {pos : Nat} (h : S.IsIt l s pos) (hl : l < S.no) : S2.IsIt l s pos := by
 unfold St.IsIt at h ⊢
 rw [g.obj l hl]
 exact h
theorem Grow.bornIt {S0 : St} {x : AV} (g : Grow S0 S x) (s : ByteArray) : Grow S0 (S.bornIt s) x :=
 ⟨g.nid, g.sp, g.ity, Nat.le_succ_of_le g.no, fun l hl => by
  have : l ≠ S.no := by have := g.no; omega
  simp only [St.bornIt, St.bearNext, St.bear, PM.get_set, this, if_false]
  exact g.obj l hl, g.fresh, g.ver⟩
end
section
variable {E : Env} {tm : PM AV} {S : St} {d : Option Tmp}
theorem lenStr {t : TypeId} (h : isStrT E t = true) (mu : Bool) (s : ByteArray) (S : St) : builtinA E mu .len [t] [.sc (.string s)] S = some (.sc (.int .i64 (s.size : Nat)), S) := by
 unfold isStrT at h
 split at h
 · rename_i h3
   simp only [builtinA, h3]
 · cases h
theorem sliceStr {t : TypeId} (h : isStrT E t = true) (s : ByteArray) {lo hi : Option AV} {a b : Nat} (hb : bounds s.size lo hi = some (a, b)) (S : St) : sliceA E t (.sc (.string s)) lo hi S = some (.sc (.string (s.extract a b)), S) := by
 unfold isStrT at h
 split at h
 · rename_i h3
   simp only [sliceA, h3, hb]
 · cases h
theorem peek_bindS {α β : Type} {P : Program} (s : Sem α) (k : α → Sem β) : peek P (s >>= k) = (peek P s).bind fun a => peek P (k a) := by
 show peek P (Sem.bind s k) = _
 induction s with
 | pure a => rfl
 | program k' ih => simp only [Sem.bind, peek]; exact ih P
 | mark m k' ih => simp only [Sem.bind, peek]; exact ih
 | _ => rfl
noncomputable def idxS (x : AV) (i : Option Int) (S : St) : Option (AV × St) := match x, i with
 | .sc (.string s), some i => if 0 ≤ i ∧ i.toNat < s.size then some (.sc (.int .u8 ((s.data.toList.getD i.toNat 0).toNat : Nat)), S) else none
 | _, _ => none
theorem indexStr {t : TypeId} (h : isStrT E t = true) (hu : E.P.underlying t = some .string) (x y : Operand) (s : ByteArray) (i : Int) (hx : E.ev tm x = .sc (.string s)) (hy : E.ev tm y = .sc (.int .i64 i)) (hi : 0 ≤ i) (hl : i.toNat < s.size) :
 opV E tm d (.index t x y) S = some (.sc (.int .u8 ((s.data.toList.getD i.toNat 0).toNat : Nat)), S) := by
 have e : opV E tm d (.index t x y) S = (peek E.P (Instr.index t (.string s) (.int .i64 i))).map fun v => (ofV v, S) := by
  simp only [opV, evOp, opOf, isMk, cond_false, evPlain, hx, hy]
 have h2 : s[i.toNat]? = some s[i.toNat] := by simp [hl]
 have h3 : peek E.P (Instr.index t (.string s) (.int .i64 i)) = some (.int .u8 (s[i.toNat]).toNat) := by
  have hq : peek E.P program = some E.P := rfl
  have hu2 : peek E.P (underlying t) = some .string := by
   simp only [underlying, peek_bindS, hq, Option.bind_some, hu]
   rfl
  have hp : peek E.P (pure (IntKind.i64, i) : Sem (IntKind × Int)) = some (.i64, i) := rfl
  simp only [Instr.index, asIntOf, peek_bindS, hu2, hp, Option.bind_some, hi, if_true, h2]
  rfl
 rw [e, h3]
 have h4 : s.data.toList.getD i.toNat 0 = s[i.toNat] := by
  have : i.toNat < s.data.toList.length := by simpa using hl
  have h5 : s.data.toList[i.toNat]? = some (s.data.toList[i.toNat]) := List.getElem?_eq_getElem this
  rw [List.getD, h5]
  rfl
 rw [h4]
 rfl
end
def runes (s : ByteArray) (pos : Nat) : List (Nat × Nat) := if h : pos < s.size then (pos, (Utf8.decode s pos).1) :: runes s (pos + (Utf8.decode s pos).2) else []
termination_by s.size - pos
decreasing_by have := Lib.width_pos s pos; omega
theorem runes_lt {s : ByteArray} {pos : Nat} (h : pos < s.size) : runes s pos = (pos, (Utf8.decode s pos).1) :: runes s (pos + (Utf8.decode s pos).2) := by
 rw [runes, dif_pos h]
theorem runes_ge {s : ByteArray} {pos : Nat} (h : ¬ pos < s.size) : runes s pos = [] := by
 rw [runes, dif_neg h]
theorem b_quo {E : Env} {S : St} (t : TypeId) (x y : Operand) (k : IntKind) (a b : Int) (h : b ≠ 0) : binGen E .quo t x y (.sc (.int k a)) (.sc (.int k b)) S = some (.sc (.int k (k.wrap (a.tdiv b))), S) := by
 have h2 : (b == 0) = false := by simpa using h
 simp only [binGen, conc, binOp, Op.intDiv, h, if_false, ne_eq, not_true_eq_false]
 first | rfl | (simp [h]; rfl)
theorem b_nestr {E : Env} {S : St} (t : TypeId) (x y : Operand) (a b : ByteArray) : binGen E .neq t x y (.sc (.string a)) (.sc (.string b)) S = some (.sc (.bool (a.toList != b.toList)), S) := rfl
theorem eqIn_bool {P : Program} {t : TypeId} (h : P.underlying t = some .bool) (d : Nat) (a b : Bool) : peek P (Op.equalIn (d + 1) t (.bool a) (.bool b)) = some (a == b) := by
 have hq : peek P program = some P := rfl
 have hu2 : peek P (underlying t) = some .bool := by
  simp only [underlying, peek_bindS, hq, Option.bind_some, h]
  rfl
 simp only [Op.equalIn, peek_bindS, hu2, Option.bind_some]
 rfl
theorem eq_bool {P : Program} {t : TypeId} (h : P.underlying t = some .bool) (a b : Bool) : peek P (Op.equal t (.bool a) (.bool b)) = some (a == b) := eqIn_bool h 9999 a b
theorem b_eqbool {E : Env} {S : St} (t : TypeId) (h : E.P.underlying t = some .bool) (x y : Operand) (a b : Bool) : binGen E .eql t x y (.sc (.bool a)) (.sc (.bool b)) S = some (.sc (.bool (a == b)), S) := by
 have h1 : peek E.P (do eqGuard .eql t x y (.bool a) (.bool b); binOp .eql t (.bool a) (.bool b)) = some (.bool (a == b)) := by
  have hg : peek E.P (eqGuard .eql t x y (.bool a) (.bool b)) = some () := rfl
  rw [peek_bindS, hg]
  show peek E.P (Op.equal t (.bool a) (.bool b) >>= fun r => pure (Value.bool r)) = _
  rw [peek_bindS, eq_bool h]
  rfl
 simp only [binGen, conc, h1]
 rfl
theorem b_nebool {E : Env} {S : St} (t : TypeId) (h : E.P.underlying t = some .bool) (x y : Operand) (a b : Bool) : binGen E .neq t x y (.sc (.bool a)) (.sc (.bool b)) S = some (.sc (.bool (a != b)), S) := by
 have h1 : peek E.P (do eqGuard .neq t x y (.bool a) (.bool b); binOp .neq t (.bool a) (.bool b)) = some (.bool (a != b)) := by
  have hg : peek E.P (eqGuard .neq t x y (.bool a) (.bool b)) = some () := rfl
  rw [peek_bindS, hg]
  show peek E.P (Op.equal t (.bool a) (.bool b) >>= fun r => pure (Value.bool (!r))) = _
  rw [peek_bindS, eq_bool h]
  rfl
 simp only [binGen, conc, h1]
 rfl
def Ans (E : Env) (f : FuncId) (args : List AV) (r : AV) : Prop := ∀ S : St, S.Fresh → ∃ S', EvA E f args S r S' ∧ Grow S S' nilV
section
variable {E : Env} {nt : Nat} {k : List KI} {tm : PM AV} {S S0 : St} {Q : PostA}
theorem callK_ans {f : FuncId} {args : List AV} {d : Option Tmp} {r : List POp} {v : AV} (h : Ans E f args v) (G : Grow S0 S nilV) (h2 : ∀ S1, Grow S S1 nilV → Grow S0 S1 nilV → EndsA E nt (.c (.reg r) :: k) .nrm (setD tm d v) S1 Q) : CallK E nt f args d r k tm S Q := by
 obtain ⟨S1, h1, g⟩ := h S G.fresh
 exact callK_of h1 (h2 S1 g (G.two g))
end
theorem ev_x {E : Env} {f : FuncId} {fn : Func} {g : List AV → St → Option (AV × St)} {args : List AV} {S : St} {r : AV} {S' : St} (hf : E.fn f = some fn) (hX : E.X f = some g) (hg : g args S = some (r, S')) : EvA E f args S r S' := ⟨1, fun lf n _ hn => by
 cases n with
 | zero => omega
 | succ n => simp only [evF, hf, hX, hg]⟩
theorem condK_split {E : Env} {nt : Nat} {k : List KI} {tm : PM AV} {S : St} {Q : PostA} {b : Bool} {x y : PC} (h1 : b = true → CondK E nt (.sc (.bool true)) x y k tm S Q) (h2 : b = false → CondK E nt (.sc (.bool false)) x y k tm S Q) : CondK E nt (.sc (.bool b)) x y k tm S Q := by
 cases b with
 | true => exact h1 rfl
 | false => exact h2 rfl
theorem guardK_split {E : Env} {nt : Nat} {k : List KI} {tm : PM AV} {S : St} {Q : PostA} {b want : Bool} {d : Option Tmp} {op : Op} {r : List POp} (h1 : b = true → GuardK E nt (.sc (.bool true)) want d op r k tm S Q) (h2 : b = false → GuardK E nt (.sc (.bool false)) want d op r k tm S Q) : GuardK E nt (.sc (.bool b)) want d op r k tm S Q := by
 cases b with
 | true => exact h1 rfl
 | false => exact h2 rfl
theorem ans_of {E : Env} {f : FuncId} {args : List AV} {v : AV} (h : ∀ S : St, S.Fresh → ∃ r S', EvA E f args S r S' ∧ r = v ∧ Grow S S' nilV) : Ans E f args v := fun S hS => by
 obtain ⟨r, S', h1, rfl, g⟩ := h S hS
 exact ⟨S', h1, g⟩
end Go.Abs
end
end

section
section
set_option linter.unusedSimpArgs false
set_option linter.unusedVariables false
set_option maxRecDepth 100000
namespace Go.Proofs.YtmmnkemcplgebaaGreatDoor
open Go.Abs
abbrev bl (s : ByteArray) : List UInt8 := s.data.toList
def keyL : List ByteArray := [⟨#[116, 121, 112, 101]⟩, ⟨#[111, 102]⟩, ⟨#[108, 101, 116]⟩, ⟨#[114, 101, 99]⟩, ⟨#[105, 110]⟩, ⟨#[102, 117, 110]⟩, ⟨#[105, 102]⟩, ⟨#[116, 104, 101, 110]⟩, ⟨#[101, 108, 115, 101]⟩, ⟨#[109, 97, 116, 99, 104]⟩, ⟨#[119, 105, 116, 104]⟩, ⟨#[101, 110, 100]⟩, ⟨#[114, 101, 102]⟩, ⟨#[112, 114, 105, 110, 116]⟩, ⟨#[114, 101, 97, 100]⟩, ⟨#[114, 97, 105, 115, 101]⟩, ⟨#[116, 114, 121]⟩, ⟨#[116, 114, 117, 101]⟩, ⟨#[102, 97, 108, 115, 101]⟩]
def isKeyF (s : ByteArray) : Bool := keyL.any fun k => s.toList == k.toList
noncomputable def propB (r : Int) : Int := bitsV .and .u8 (Lib.propertiesTab.getD (IntKind.u8.wrap r).toNat 0) 96
noncomputable def letterF (r : Int) : Bool := bif decide (IntKind.u32.wrap r ≤ 255) then propB r != 0 else Lib.exclGo Lib.letterT r
noncomputable def upperF (r : Int) : Bool := bif decide (IntKind.u32.wrap r ≤ 255) then propB r == 32 else Lib.exclGo Lib.upperT r
noncomputable def classF (r : Int) : Int :=
 bif r == 95 || r == 39 || letterF r then 1
 else bif decide (48 ≤ r) && decide (r ≤ 57) then 2
 else bif r == 32 || r == 9 || r == 10 || r == 13 then 3
 else bif r == 40 || r == 41 || r == 44 || r == 59 || r == 61 || r == 60 || r == 62 || r == 43 || r == 45 || r == 42 || r == 124 || r == 33 || r == 58 then 4 else 0
def cutB (s : ByteArray) (n : Nat) : ByteArray := s.extract 0 n
def prefF (s p : ByteArray) : Bool := bif decide (p.size ≤ s.size) then (cutB s p.size).toList == p.toList else false
def runF (may : Int → Bool) (s : ByteArray) : List (Nat × Nat) → Nat
 | [] => s.size
 | (i, r) :: l => bif may r then runF may s l else i
noncomputable def upperTF (s : ByteArray) : Bool := match runes s 0 with
 | [] => false
 | (_, r) :: _ => upperF r
def valueF : Int → List (Nat × Nat) → Option Int
 | n, [] => some n
 | n, (_, r) :: l => 
  bif decide (n ≤ IntKind.i64.wrap ((IntKind.i64.wrap (4611686018427387903 - IntKind.i64.wrap (IntKind.i32.wrap ((r : Int) - 48)))).tdiv 10)) then valueF (IntKind.i64.wrap (IntKind.i64.wrap (10 * n) + IntKind.i64.wrap (IntKind.i32.wrap ((r : Int) - 48)))) l else none
structure WordV where
 kind : Int
 text : ByteArray
def noWord : WordV := ⟨0, ⟨#[]⟩⟩
noncomputable def mayNamed (r : Int) : Bool := classF r == 1 || classF r == 2
noncomputable def mayDigit (r : Int) : Bool := classF r == 2
noncomputable def namedF (s : ByteArray) : WordV := 
 let t := cutB s (runF mayNamed s (runes s 0))
 ⟨bif upperTF s then 3 else bif isKeyF t then 4 else 2, t⟩
def markedF (s : ByteArray) : WordV :=
 bif prefF s ⟨#[58, 61]⟩ then ⟨5, ⟨#[58, 61]⟩⟩ else bif prefF s ⟨#[45, 62]⟩ then ⟨5, ⟨#[45, 62]⟩⟩
 else bif (bl s).getD 0 0 == 62 || (bl s).getD 0 0 == 58 then noWord else ⟨5, cutB s 1⟩
def firstF (s : ByteArray) : Int := (Lib.decodeGo s).1
noncomputable def wordF (s : ByteArray) : WordV :=
 bif classF (firstF s) == 1 then (bif firstF s != 39 then namedF s else noWord)
 else bif classF (firstF s) == 2 then (bif (valueF 0 (runes (cutB s (runF mayDigit s (runes s 0))) 0)).isSome then ⟨1, cutB s (runF mayDigit s (runes s 0))⟩ else noWord)
 else bif classF (firstF s) == 4 then markedF s else noWord
noncomputable def justF (s : ByteArray) (kind : Int) : Bool :=
 bif (s.toList == (⟨#[]⟩ : ByteArray).toList) || decide (4000 < s.size) then false else (wordF s).kind == kind && (wordF s).text.toList == s.toList
noncomputable def isNameF (s : ByteArray) : Bool := bif s.toList != (⟨#[95]⟩ : ByteArray).toList then justF s 2 else false
noncomputable def isConF (s : ByteArray) : Bool := justF s 3
end Go.Proofs.YtmmnkemcplgebaaGreatDoor
end
end

section
section
set_option linter.unusedSimpArgs false
set_option linter.unusedVariables false
namespace Go.Proofs.YtmmnkemcplgebaaGreatDoor
open Go.Shelf Go
def exclLays_ren : Go.Shelf.Ren := ⟨fun | 261 => 145 | 311 => 147 | 312 => 148 | n => n, fun | 141 => 176 | 21 => 21 | 4 => 4 | 0 => 0 | 196 => 185 | 193 => 182 | 3 => 3 | 51 => 145 | 198 => 188 | 49 => 186 | 194 => 183 | 201 => 191 | 226 => 193 | 46 => 120 | 227 => 194 | n => n, fun | n => n⟩
theorem exclLays : Go.Proofs.Lays.n261 Tryz.prog exclLays_ren := {
 mixed := by kernel_rfl,
 f261 := Tryz.func145.trans (congrArg some (by kernel_rfl)),
 f311 := Tryz.func147.trans (congrArg some (by kernel_rfl)),
 f312 := Tryz.func148.trans (congrArg some (by kernel_rfl)),
 t0 := Tryz.underlying0,
 a0 := Tryz.isAgg0,
 z0 := Tryz.sizeOf0,
 v0 := Tryz.zeroValue0,
 t3 := Tryz.underlying3,
 a3 := Tryz.isAgg3,
 z3 := Tryz.sizeOf3,
 v3 := Tryz.zeroValue3,
 t4 := Tryz.underlying4,
 a4 := Tryz.isAgg4,
 z4 := Tryz.sizeOf4,
 v4 := Tryz.zeroValue4,
 t21 := Tryz.underlying21,
 a21 := Tryz.isAgg21,
 z21 := Tryz.sizeOf21,
 v21 := Tryz.zeroValue21,
 t46 := Tryz.underlying120,
 a46 := Tryz.isAgg120,
 z46 := Tryz.sizeOf120,
 v46 := Tryz.zeroValue120,
 t49 := Tryz.underlying186,
 a49 := Tryz.isAgg186,
 z49 := Tryz.sizeOf186,
 v49 := Tryz.zeroValue186,
 t51 := Tryz.underlying145,
 a51 := Tryz.isAgg145,
 z51 := Tryz.sizeOf145,
 v51 := Tryz.zeroValue145,
 t141 := Tryz.underlying176,
 a141 := Tryz.isAgg176,
 z141 := Tryz.sizeOf176,
 v141 := Tryz.zeroValue176,
 t193 := Tryz.underlying182,
 a193 := Tryz.isAgg182,
 z193 := Tryz.sizeOf182,
 v193 := Tryz.zeroValue182,
 t194 := Tryz.underlying183,
 a194 := Tryz.isAgg183,
 z194 := Tryz.sizeOf183,
 v194 := Tryz.zeroValue183,
 t196 := Tryz.underlying185,
 a196 := Tryz.isAgg185,
 z196 := Tryz.sizeOf185,
 v196 := Tryz.zeroValue185,
 t198 := Tryz.underlying188,
 a198 := Tryz.isAgg188,
 z198 := Tryz.sizeOf188,
 v198 := Tryz.zeroValue188,
 t201 := Tryz.underlying191,
 a201 := Tryz.isAgg191,
 z201 := Tryz.sizeOf191,
 v201 := Tryz.zeroValue191,
 t226 := Tryz.underlying193,
 a226 := Tryz.isAgg193,
 z226 := Tryz.sizeOf193,
 v226 := Tryz.zeroValue193,
 t227 := Tryz.underlying194,
 a227 := Tryz.isAgg194,
 z227 := Tryz.sizeOf194,
 v227 := Tryz.zeroValue194 }
def decLays_ren : Go.Shelf.Ren := ⟨fun | 197 => 115 | 260 => 137 | n => n, fun | 9 => 9 | 21 => 21 | 3 => 3 | 4 => 4 | 5 => 5 | 105 => 151 | 119 => 174 | 0 => 0 | 46 => 120 | 139 => 179 | 138 => 178 | n => n, fun | 3 => 5 | 4 => 6 | n => n⟩
theorem decLays : Go.Proofs.Lays.n197 Tryz.prog decLays_ren := {
 mixed := by kernel_rfl,
 f197 := Tryz.func115.trans (congrArg some (by kernel_rfl)),
 f260 := Tryz.func137.trans (congrArg some (by kernel_rfl)),
 t0 := Tryz.underlying0,
 a0 := Tryz.isAgg0,
 z0 := Tryz.sizeOf0,
 v0 := Tryz.zeroValue0,
 t3 := Tryz.underlying3,
 a3 := Tryz.isAgg3,
 z3 := Tryz.sizeOf3,
 v3 := Tryz.zeroValue3,
 t4 := Tryz.underlying4,
 a4 := Tryz.isAgg4,
 z4 := Tryz.sizeOf4,
 v4 := Tryz.zeroValue4,
 t5 := Tryz.underlying5,
 a5 := Tryz.isAgg5,
 z5 := Tryz.sizeOf5,
 v5 := Tryz.zeroValue5,
 t9 := Tryz.underlying9,
 a9 := Tryz.isAgg9,
 z9 := Tryz.sizeOf9,
 v9 := Tryz.zeroValue9,
 t21 := Tryz.underlying21,
 a21 := Tryz.isAgg21,
 z21 := Tryz.sizeOf21,
 v21 := Tryz.zeroValue21,
 t46 := Tryz.underlying120,
 a46 := Tryz.isAgg120,
 z46 := Tryz.sizeOf120,
 v46 := Tryz.zeroValue120,
 t105 := Tryz.underlying151,
 a105 := Tryz.isAgg151,
 z105 := Tryz.sizeOf151,
 v105 := Tryz.zeroValue151,
 t119 := Tryz.underlying174,
 a119 := Tryz.isAgg174,
 z119 := Tryz.sizeOf174,
 t138 := Tryz.underlying178,
 a138 := Tryz.isAgg178,
 z138 := Tryz.sizeOf178,
 v138 := Tryz.zeroValue178,
 t139 := Tryz.underlying179,
 a139 := Tryz.isAgg179,
 z139 := Tryz.sizeOf179,
 v139 := Tryz.zeroValue179,
 g3 := by kernel_rfl,
 g4 := by kernel_rfl }
end Go.Proofs.YtmmnkemcplgebaaGreatDoor
end
end
