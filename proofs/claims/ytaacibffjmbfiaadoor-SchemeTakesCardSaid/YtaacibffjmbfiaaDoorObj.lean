/-
  More of the calculus: objects, fields.
-/
import Derived.Test.YtaacibffjmbfiaaDoorBits2
set_option linter.unusedSimpArgs false
set_option linter.unusedVariables false
set_option maxRecDepth 100000
namespace Go.Abs
section
variable {E : Env} {tm : PM AV} {S : St} {d : Option Tmp}
def St.born (S : St) (e : TypeId) (cs : List AV) : St := S.bearNext ⟨.cells cs, some (e, cs.length), fun n => .ptr n 0⟩
theorem op_box (e : TypeId) (x : Operand) : opV E tm d (.box e x) S = (cellsOf (E.ev tm x)).map fun cs => (.ptr S.no 0, S.born e cs) := by
  have h : isMk E (opOf d (.box e x)) = true := rfl
  have h2 : mkOp E tm (opOf d (.box e x)) = (cellsOf (E.ev tm x)).map fun cs => (⟨.cells cs, some (e, cs.length), fun n => .ptr n 0⟩ : Mk) := by
    show (match cellsOf (E.ev tm x) with | some cs => some (⟨.cells cs, some (e, cs.length), fun n => .ptr n 0⟩ : Mk) | none => none) = _
    cases cellsOf (E.ev tm x) <;> rfl
  simp only [opV, evOp, h, cond_true, h2, Option.map_map]
  rfl
theorem cells_agg (cs : List AV) : cellsOf (.agg cs) = some cs := rfl
theorem cells_int (k : IntKind) (n : Int) : cellsOf (.sc (.int k n)) = some [.sc (.int k n)] := rfl
def zeroIs (E : Env) (e : TypeId) (zs : List Value) : Bool := match E.inf e with
  | some i => match i.zero with
    | some z => (peek E.P (pure (Value.tuple z.cells))).isSome && Nat.beq z.cells.size zs.length
    | none => false
  | none => false
theorem alloc_of {e : TypeId} {cs : List AV} (h : mkOp E tm (opOf d (.alloc e)) = some ⟨.cells cs, some (e, cs.length), fun n => .ptr n 0⟩) : opV E tm d (.alloc e) S = some (.ptr S.no 0, S.born e cs) := by
  have h1 : isMk E (opOf d (.alloc e)) = true := rfl
  simp only [opV, evOp, h1, cond_true, h, Option.map_some]
  rfl
theorem born_obj (e : TypeId) (cs : List AV) (l : Nat) : (S.born e cs).obj l = if l = S.no then some cs else S.obj l := by
  simp only [St.born, St.bearNext, St.bear, St.obj, PM.get_set]
  by_cases h : l = S.no
  · simp [h]
  · simp [h]
theorem born_no (e : TypeId) (cs : List AV) : (S.born e cs).no = S.no + 1 := rfl
theorem born_nid (e : TypeId) (cs : List AV) : (S.born e cs).nid = S.nid := rfl
theorem born_fresh (e : TypeId) (cs : List AV) (h : S.Fresh) : (S.born e cs).Fresh := h
theorem put_obj (l m : Nat) (cs : List AV) : (S.put l (.cells cs)).obj m = if m = l then some cs else S.obj m := by
  simp only [St.put, St.obj, PM.get_set]
  by_cases h : m = l
  · simp [h]
  · simp [h]
theorem put_no (l : Nat) (o : AObj) : (S.put l o).no = S.no := rfl
theorem put_fresh (l : Nat) (o : AObj) (h : S.Fresh) : (S.put l o).Fresh := h
theorem Grow.born {S0 : St} {x : AV} (g : Grow S0 S x) (e : TypeId) (cs : List AV) : Grow S0 (S.born e cs) x :=
  ⟨g.nid, g.sp, g.ity, Nat.le_succ_of_le g.no, fun l hl => by
    have : l ≠ S.no := by have := g.no; omega
    simp only [St.born, St.bearNext, St.bear, PM.get_set, this, if_false]
    exact g.obj l hl, g.fresh, g.ver⟩
theorem Grow.put {S0 : St} {x : AV} (g : Grow S0 S x) (l : Nat) (o : AObj) (h : S0.no ≤ l) : Grow S0 (S.put l o) x :=
  ⟨g.nid, g.sp, g.ity, g.no, fun m hm => by
    have : m ≠ l := by omega
    simp only [St.put, PM.get_set, this, if_false]
    exact g.obj m hm, g.fresh, fun m hm => by
    have : m ≠ l := by omega
    have := g.ver m hm
    simp only [St.ver, St.put, PM.get_set] at this ⊢
    rw [if_neg (by omega)]
    exact this⟩
theorem Grow.objs {S2 : St} {x : AV} (g : Grow S S2 x) {l : Nat} {cs : List AV} (h : S.obj l = some cs) (hl : l < S.no) : S2.obj l = some cs := by
  unfold St.obj at h ⊢
  rw [g.obj l hl]
  exact h
theorem load_pb (b : Bool) (n l off : Nat) : loadC b n (.ptr l off) S = (S.obj l).bind fun cs => (cut b n cs off).map (·, S) := by
  simp only [loadC]
  cases S.obj l <;> rfl
theorem store_1 (l off : Nat) (v : AV) (hc : cellsOf v = some [v]) (h : okCell v = true) : storeC 1 (.ptr l off) v S = (S.obj l).bind fun cs => if off < cs.length then some (passed, S.put l (.cells (cs.set off v))) else none := by
  simp only [storeC, hc]
  cases S.obj l with
  | none => rfl
  | some cs =>
    simp only [Option.bind_some, List.length_cons, List.length_nil, List.all_cons, List.all_nil, h, Bool.and_true]
    by_cases hlt : off < cs.length
    · have : Nat.ble (off + 1) cs.length = true := Nat.ble_eq_true_of_le hlt
      simp only [Nat.zero_add, this, show Nat.beq 1 1 = true from rfl, Bool.and_self, cond_true, hlt, if_true, Option.some.injEq, Prod.mk.injEq, true_and]
      congr 2
      apply List.ext_getElem
      · simp [splice]; omega
      · intro i h1 h2
        simp only [splice, List.getElem_set]
        simp only [splice, List.length_append, List.length_take, List.length_cons, List.length_nil, List.length_drop] at h1
        by_cases e : off = i
        · subst e
          simp [List.getElem_append, hlt, Nat.min_eq_left (Nat.le_of_lt hlt)]
        · rw [if_neg e]
          by_cases e2 : i < off
          · rw [List.getElem_append_left (by simp; omega), List.getElem_append_left (by simp; omega)]
            simp
          · rw [List.getElem_append_right (by simp; omega)]
            simp only [List.length_append, List.length_take, List.length_cons, List.length_nil, List.getElem_drop]
            congr 1
            omega
    · have : Nat.ble (off + 1) cs.length = false := by
        cases e : Nat.ble (off + 1) cs.length
        · rfl
        · have := Nat.le_of_ble_eq_true e; omega
      simp only [Nat.zero_add, this, Bool.and_false, cond_false, hlt, if_false]
/-- A field lies so many cells on. -/
def fldIs (E : Env) (t : TypeId) (f off : Nat) : Bool := match E.und t with
  | some (.struct fs) => match fs[f]? with
    | some g => match E.inf g.type with
      | some i => !Nat.beq i.size 0 && Nat.beq g.offset off
      | none => false
    | none => false
  | _ => false
def fldV (off : Nat) (x : AV) (S : St) : Option (AV × St) := match x with
  | .ptr l o => some (.ptr l (o + off), S)
  | .eptr cs o => some (.eptr cs (o + off), S)
  | _ => none
theorem field_chk (t : TypeId) (f off : Nat) (h : fldIs E t f off = true) (x : Operand) : opV E tm d (.fieldAddr t x f) S = fldV off (E.ev tm x) S := by
  unfold fldIs at h
  split at h
  · rename_i fs hd
    split at h
    · rename_i g hg
      split at h
      · rename_i i hi
        simp only [Bool.and_eq_true] at h
        have h2 := Nat.eq_of_beq_eq_true h.2
        have h1 : Nat.beq i.size 0 = false := by simpa using h.1
        subst h2
        show evPlain E (fun _ _ _ => none) tm (opOf d (.fieldAddr t x f)) S = _
        simp only [evPlain, opOf, hd]
        cases E.ev tm x <;> first | rfl | simp only [hg, hi, h1, cond_false, fldV]
      · cases h
    · cases h
  · cases h
theorem store_int (l off : Nat) (k : IntKind) (n : Int) : storeC 1 (.ptr l off) (.sc (.int k n)) S = (S.obj l).bind fun cs => if off < cs.length then some (passed, S.put l (.cells (cs.set off (.sc (.int k n))))) else none := store_1 l off _ rfl rfl
theorem fld_p (off l o : Nat) : fldV off (.ptr l o) S = some (.ptr l (o + off), S) := rfl
theorem fld_e (off : Nat) (cs : List AV) (o : Nat) : fldV off (.eptr cs o) S = some (.eptr cs (o + off), S) := rfl
theorem un_neg (k : IntKind) (n : Int) : unV E .neg (.sc (.int k n)) S = some (.sc (.int k (k.wrap (0 - n))), S) := rfl
theorem un_xor (k : IntKind) (n : Int) : unV E .xor (.sc (.int k n)) S = some (.sc (.int k (bitsV .xor k (if k.signed then -1 else k.max) n)), S) := rfl
theorem eq_vecnil {t e : TypeId} (h : E.und t = some (.slice e)) (x y : Operand) (id sz : Nat) (xs : List AV) : binGen E .eql t x y (.vec id sz xs) (.sc (.slice none 0 0)) S = some (.sc (.bool false), S) := by
  simp only [binGen, conc, h]
  rfl
end
end Go.Abs
