/-
  More of the calculus: maps whose keys and values are numbers.
-/
import Derived.Test.YtaacibffjmbfiaaDoorObj2
set_option linter.unusedSimpArgs false
set_option linter.unusedVariables false
set_option maxRecDepth 100000
namespace Go.Abs
def mapIs (kvs : List (Int × Int)) : List (Value × AV) := kvs.map fun p => (Value.int .i64 p.1, AV.sc (.int .i64 p.2))
def setI (k x : Int) : List (Int × Int) → List (Int × Int)
  | [] => [(k, x)]
  | e :: es => if k = e.1 then (k, x) :: es else e :: setI k x es
def findI (k : Int) : List (Int × Int) → Option Int
  | [] => none
  | e :: es => if k = e.1 then some e.2 else findI k es
theorem find_set (c k x : Int) : ∀ es, findI c (setI k x es) = if c = k then some x else findI c es
  | [] => rfl
  | e :: es => by
    have ih := find_set c k x es
    simp only [setI]
    by_cases h : k = e.1
    · rw [if_pos h]
      simp only [findI]
      by_cases h2 : c = k
      · rw [if_pos h2, if_pos h2]
      · rw [if_neg h2, if_neg h2, if_neg (by rw [← h]; exact h2)]
    · rw [if_neg h]
      simp only [findI]
      by_cases h2 : c = e.1
      · rw [if_pos h2, if_pos h2, if_neg (by rw [h2]; exact fun e => h e.symm)]
      · rw [if_neg h2, if_neg h2, ih]
theorem isKey_mapIs (kvs : List (Int × Int)) : (mapIs kvs).all (fun e => isKey (.int .i64) e.1) = true := by
  simp [mapIs, isKey]
theorem setKey_mapIs (k x : Int) : ∀ kvs, setKey (.int .i64) (.int .i64 k) (.sc (.int .i64 x)) (mapIs kvs) = mapIs (setI k x kvs)
  | [] => rfl
  | e :: es => by
    have ih := setKey_mapIs k x es
    simp only [mapIs, List.map_cons, setKey, Instr.sameNow, if_true, setI] at ih ⊢
    by_cases h : k = e.1
    · rw [if_pos h]
      simp [h]
    · rw [if_neg h]
      have : (k == e.1) = false := by simpa using h
      simp only [this, ih, List.map_cons]
theorem findA_mapIs (k : Int) : ∀ kvs, findA (.int .i64) (.int .i64 k) (mapIs kvs) = some ((findI k kvs).map fun v => .sc (.int .i64 v))
  | [] => rfl
  | e :: es => by
    have ih := findA_mapIs k es
    simp only [mapIs, List.map_cons, findA, Instr.sameNow, if_true, findI] at ih ⊢
    by_cases h : k = e.1
    · rw [if_pos h]
      simp [h]
    · rw [if_neg h]
      have : (k == e.1) = false := by simpa using h
      simp only [this, ih]
section
variable {E : Env} {tm : PM AV} {S : St} {d : Option Tmp}
def St.bornMap (S : St) : St := S.bearNext ⟨.mp [], none, .mp⟩
def St.IsMap (S : St) (l : Nat) (kvs : List (Int × Int)) : Prop := S.objs.get l = some (.mp (mapIs kvs))
theorem op_makeMap (t : TypeId) : opV E tm d (.makeMap t none) S = some (.mp S.no, S.bornMap) := rfl
theorem op_makeMapI (t : TypeId) (x : Operand) (h : (match E.und t with | some (.map _ _) => true | _ => false) = true) (k : IntKind) (n : Int) (hx : E.ev tm x = .sc (.int k n)) : opV E tm d (.makeMap t (some x)) S = some (.mp S.no, S.bornMap) := by
  have h1 : isMk E (opOf d (.makeMap t (some x))) = true := rfl
  have h2 : mkOp E tm (opOf d (.makeMap t (some x))) = some ⟨.mp [], none, .mp⟩ := by
    show (match E.und t, int? (E.ev tm x) with | some (.map _ _), some _ => some (⟨.mp [], none, .mp⟩ : Mk) | _, _ => none) = _
    rw [hx]
    split at h
    · rename_i h3; rw [h3]; rfl
    · cases h
  simp only [opV, evOp, h1, cond_true, h2, Option.map_some]
  rfl
theorem op_mapUpdate (t : TypeId) (x y z : Operand) : opV E tm d (.mapUpdate t x y z) S = mapUpdateA E t (E.ev tm x) (E.ev tm y) (E.ev tm z) S := rfl
theorem op_lookup (t : TypeId) (x y : Operand) (b : Bool) : opV E tm d (.lookup t x y b) S = lookupA E t (E.ev tm x) (E.ev tm y) b S := rfl
theorem eo_insert {nt : Nat} {k : List KI} {Q : Out → PM AV → St → Prop} {r : List POp} (t : TypeId) (x y z : Operand) : EndsA E nt (.c (.reg (⟨d, (.insert t x y z), none⟩ :: r)) :: k) .nrm tm S Q = OpK E nt d r k tm Q (opV E tm d (.insert t x y z) S) := e_op d _ r rfl
theorem op_insert (t : TypeId) (x y z : Operand) : opV E tm d (.insert t x y z) S = mapUpdateA E t (E.ev tm x) (E.ev tm y) (E.ev tm z) S := rfl
theorem bornMap_is : S.bornMap.IsMap S.no [] := by
  simp [St.IsMap, St.bornMap, St.bearNext, St.bear, PM.get_set, mapIs]
theorem bornMap_no : S.bornMap.no = S.no + 1 := rfl
theorem put_is (l : Nat) (kvs : List (Int × Int)) : (S.put l (.mp (mapIs kvs))).IsMap l kvs := by
  simp [St.IsMap, St.put, PM.get_set]
theorem Grow.isMap {S2 : St} {x : AV} (g : Grow S S2 x) {l : Nat} {kvs : List (Int × Int)} (h : S.IsMap l kvs) (hl : l < S.no) : S2.IsMap l kvs := by
  unfold St.IsMap at h ⊢
  rw [g.obj l hl]
  exact h
theorem mapI_update {t kt et : TypeId} (ht : E.und t = some (.map kt et)) (hk : E.und kt = some (.int .i64)) {l : Nat} {kvs : List (Int × Int)} (h : S.IsMap l kvs) (k x : Int) :
    mapUpdateA E t (.mp l) (.sc (.int .i64 k)) (.sc (.int .i64 x)) S = some (passed, S.put l (.mp (mapIs (setI k x kvs)))) := by
  have h1 : S.map l = some (mapIs kvs) := by unfold St.IsMap at h; simp only [St.map, h]
  have h2 : isKey (.int .i64) (.int .i64 k) = true := by simp [isKey]
  simp only [mapUpdateA, ht, hk, keyOf, h1, h2, isKey_mapIs, Bool.and_self, cond_true, setKey_mapIs]
def zeroOf (E : Env) (t : TypeId) : Option Value := match E.inf t with
  | some i => i.zero
  | none => none
theorem mapI_lookup {t kt et : TypeId} (ht : E.und t = some (.map kt et)) (hk : E.und kt = some (.int .i64)) (hz : zeroOf E et = some (.int .i64 0)) {l : Nat} {kvs : List (Int × Int)} (h : S.IsMap l kvs) (k : Int) :
    lookupA E t (.mp l) (.sc (.int .i64 k)) true S = some (match findI k kvs with | some v => .tup [.sc (.int .i64 v), .sc (.bool true)] | none => .tup [.sc (.int .i64 0), .sc (.bool false)], S) := by
  have h1 : S.map l = some (mapIs kvs) := by unfold St.IsMap at h; simp only [St.map, h]
  have h2 : isKey (.int .i64) (.int .i64 k) = true := by simp [isKey]
  simp only [lookupA, ht, hk, keyOf, h1, h2, isKey_mapIs, Bool.not_true, cond_false, cond_true, findA_mapIs]
  cases findI k kvs with
  | some v => rfl
  | none =>
    unfold zeroOf at hz
    split at hz
    · rename_i i hi; simp only [Option.map_none, hi, hz]; rfl
    · cases hz
end
end Go.Abs
