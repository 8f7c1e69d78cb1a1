/-
  More of the calculus: maps whose keys are numbers, with any values.
-/
import Derived.Test.YtaacibffjmbfiaaDoorMaps
set_option linter.unusedSimpArgs false
set_option linter.unusedVariables false
set_option maxRecDepth 100000
namespace Go.Abs
def mapVs (kvs : List (Int × AV)) : List (Value × AV) := kvs.map fun p => (Value.int .i64 p.1, p.2)
def setM (k : Int) (x : AV) : List (Int × AV) → List (Int × AV)
  | [] => [(k, x)]
  | e :: es => if k = e.1 then (k, x) :: es else e :: setM k x es
def findM (k : Int) : List (Int × AV) → Option AV
  | [] => none
  | e :: es => if k = e.1 then some e.2 else findM k es
theorem findM_set (c k : Int) (x : AV) : ∀ es, findM c (setM k x es) = if c = k then some x else findM c es
  | [] => rfl
  | e :: es => by
    have ih := findM_set c k x es
    simp only [setM]
    by_cases h : k = e.1
    · rw [if_pos h]
      simp only [findM]
      by_cases h2 : c = k
      · rw [if_pos h2, if_pos h2]
      · rw [if_neg h2, if_neg h2, if_neg (by rw [← h]; exact h2)]
    · rw [if_neg h]
      simp only [findM]
      by_cases h2 : c = e.1
      · rw [if_pos h2, if_pos h2, if_neg (by rw [h2]; exact fun e => h e.symm)]
      · rw [if_neg h2, if_neg h2, ih]
theorem isKey_mapVs (kvs : List (Int × AV)) : (mapVs kvs).all (fun e => isKey (.int .i64) e.1) = true := by
  simp [mapVs, isKey]
theorem setKey_mapVs (k : Int) (x : AV) : ∀ kvs, setKey (.int .i64) (.int .i64 k) x (mapVs kvs) = mapVs (setM k x kvs)
  | [] => rfl
  | e :: es => by
    have ih := setKey_mapVs k x es
    simp only [mapVs, List.map_cons, setKey, Instr.sameNow, if_true, setM] at ih ⊢
    by_cases h : k = e.1
    · rw [if_pos h]
      simp [h]
    · rw [if_neg h]
      have : (k == e.1) = false := by simpa using h
      simp only [this, ih, List.map_cons]
theorem findA_mapVs (k : Int) : ∀ kvs, findA (.int .i64) (.int .i64 k) (mapVs kvs) = some (findM k kvs)
  | [] => rfl
  | e :: es => by
    have ih := findA_mapVs k es
    simp only [mapVs, List.map_cons, findA, Instr.sameNow, if_true, findM] at ih ⊢
    by_cases h : k = e.1
    · rw [if_pos h]
      simp [h]
    · rw [if_neg h]
      have : (k == e.1) = false := by simpa using h
      simp only [this, ih]
section
variable {E : Env} {tm : PM AV} {S : St} {d : Option Tmp}
def St.IsMp (S : St) (l : Nat) (kvs : List (Int × AV)) : Prop := S.objs.get l = some (.mp (mapVs kvs))
theorem bornMap_mp : S.bornMap.IsMp S.no [] := by
  simp [St.IsMp, St.bornMap, St.bearNext, St.bear, PM.get_set, mapVs]
theorem put_mp (l : Nat) (kvs : List (Int × AV)) : (S.put l (.mp (mapVs kvs))).IsMp l kvs := by
  simp [St.IsMp, St.put, PM.get_set]
theorem put_mp_ne (l m : Nat) (o : AObj) (kvs : List (Int × AV)) (h : S.IsMp m kvs) (hne : m ≠ l) : (S.put l o).IsMp m kvs := by
  unfold St.IsMp at h ⊢
  simp only [St.put, PM.get_set, hne, if_false]
  exact h
theorem Grow.isMp {S2 : St} {x : AV} (g : Grow S S2 x) {l : Nat} {kvs : List (Int × AV)} (h : S.IsMp l kvs) (hl : l < S.no) : S2.IsMp l kvs := by
  unfold St.IsMp at h ⊢
  rw [g.obj l hl]
  exact h
theorem bornMap_obj (l : Nat) (hl : l < S.no) : S.bornMap.obj l = S.obj l := by
  have : l ≠ S.no := by omega
  simp only [St.bornMap, St.bearNext, St.bear, St.obj, PM.get_set, this, if_false]
theorem born_mp (e : TypeId) (cs : List AV) (l : Nat) (kvs : List (Int × AV)) (h : S.IsMp l kvs) (hl : l < S.no) : (S.born e cs).IsMp l kvs := by
  have : l ≠ S.no := by omega
  unfold St.IsMp at h ⊢
  simp only [St.born, St.bearNext, St.bear, PM.get_set, this, if_false]
  exact h
theorem Grow.bornMap {S0 : St} {x : AV} (g : Grow S0 S x) : Grow S0 S.bornMap x :=
  ⟨g.nid, g.sp, g.ity, Nat.le_succ_of_le g.no, fun l hl => by
    have : l ≠ S.no := by have := g.no; omega
    simp only [St.bornMap, St.bearNext, St.bear, PM.get_set, this, if_false]
    exact g.obj l hl, g.fresh, g.ver⟩
theorem mapV_update {t kt et : TypeId} (ht : E.und t = some (.map kt et)) (hk : E.und kt = some (.int .i64)) {l : Nat} {kvs : List (Int × AV)} (h : S.IsMp l kvs) (k : Int) (x : AV) :
    mapUpdateA E t (.mp l) (.sc (.int .i64 k)) x S = some (passed, S.put l (.mp (mapVs (setM k x kvs)))) := by
  have h1 : S.map l = some (mapVs kvs) := by unfold St.IsMp at h; simp only [St.map, h]
  have h2 : isKey (.int .i64) (.int .i64 k) = true := by simp [isKey]
  simp only [mapUpdateA, ht, hk, keyOf, h1, h2, isKey_mapVs, Bool.and_self, cond_true, setKey_mapVs]
theorem mapV_lookup {t kt et : TypeId} {z : AV} (ht : E.und t = some (.map kt et)) (hk : E.und kt = some (.int .i64)) (hz : (zeroOf E et).map ofV = some z) {l : Nat} {kvs : List (Int × AV)} (h : S.IsMp l kvs) (k : Int) :
    lookupA E t (.mp l) (.sc (.int .i64 k)) true S = some (match findM k kvs with | some v => .tup [v, .sc (.bool true)] | none => .tup [z, .sc (.bool false)], S) := by
  have h1 : S.map l = some (mapVs kvs) := by unfold St.IsMp at h; simp only [St.map, h]
  have h2 : isKey (.int .i64) (.int .i64 k) = true := by simp [isKey]
  simp only [lookupA, ht, hk, keyOf, h1, h2, isKey_mapVs, Bool.not_true, cond_false, cond_true, findA_mapVs]
  cases findM k kvs with
  | some v => rfl
  | none =>
    unfold zeroOf at hz
    split at hz
    · rename_i i hi
      simp only [Option.map_eq_some_iff] at hz
      obtain ⟨v, hv, rfl⟩ := hz
      simp only [hi, hv]
    · cases hz
theorem mapV_lookup1 {t kt et : TypeId} {z : AV} (ht : E.und t = some (.map kt et)) (hk : E.und kt = some (.int .i64)) (hz : (zeroOf E et).map ofV = some z) {l : Nat} {kvs : List (Int × AV)} (h : S.IsMp l kvs) (k : Int) :
    lookupA E t (.mp l) (.sc (.int .i64 k)) false S = some ((findM k kvs).getD z, S) := by
  have h1 : S.map l = some (mapVs kvs) := by unfold St.IsMp at h; simp only [St.map, h]
  have h2 : isKey (.int .i64) (.int .i64 k) = true := by simp [isKey]
  simp only [lookupA, ht, hk, keyOf, h1, h2, isKey_mapVs, Bool.not_true, cond_false, cond_true, findA_mapVs]
  cases findM k kvs with
  | some v => rfl
  | none =>
    unfold zeroOf at hz
    split at hz
    · rename_i i hi
      simp only [Option.map_eq_some_iff] at hz
      obtain ⟨v, hv, rfl⟩ := hz
      simp only [hi, hv]
      rfl
    · cases hz
end
end Go.Abs
