/-
  More of the calculus: structs stored, built, answered.
-/
import Derived.Test.YtaacibffjmbfiaaDoorObj
set_option linter.unusedSimpArgs false
set_option linter.unusedVariables false
set_option maxRecDepth 100000
namespace Go.Abs
section
variable {E : Env} {tm : PM AV} {S : St} {d : Option Tmp}
theorem op_build (t : TypeId) (ps : Array (Nat × Operand)) : opV E tm d (.build t ps) S = buildA E t (ps.toList.map fun p => (p.1, E.ev tm p.2)) S := rfl
theorem store_agg (n l : Nat) (vs : List AV) (h : (Nat.beq vs.length n && vs.all okCell) = true) : storeC n (.ptr l 0) (.agg vs) S = (S.obj l).bind fun cs => if n ≤ cs.length then some (passed, S.put l (.cells (vs ++ cs.drop n))) else none := by
  simp only [Bool.and_eq_true] at h
  have hn := Nat.eq_of_beq_eq_true h.1
  subst hn
  simp only [storeC, cellsOf]
  cases S.obj l with
  | none => rfl
  | some cs =>
    simp only [Option.bind_some, h.2, Bool.and_true, Nat.zero_add]
    have hb : Nat.beq vs.length vs.length = true := Nat.beq_refl _
    simp only [hb, Bool.true_and]
    by_cases hle : vs.length ≤ cs.length
    · have : Nat.ble vs.length cs.length = true := Nat.ble_eq_true_of_le hle
      simp only [this, cond_true, hle, if_true, splice, List.take_zero, List.nil_append, Nat.zero_add]
    · have : Nat.ble vs.length cs.length = false := by
        cases e : Nat.ble vs.length cs.length
        · rfl
        · exact absurd (Nat.le_of_ble_eq_true e) hle
      simp only [this, cond_false, hle, if_false]
def chkV (x : AV) (S : St) : Option (AV × St) := match x with
  | .ptr l off => some (.ptr l off, S)
  | .eptr cs off => some (.eptr cs off, S)
  | .fn (.func f) a b => some (.fn (.func f) a b, S)
  | .ifc t a => some (.ifc t a, S)
  | .sc (.func (.func f) a b) => some (.sc (.func (.func f) a b), S)
  | _ => none
theorem op_nilCheck (x : Operand) : opV E tm d (.nilCheck x) S = chkV (E.ev tm x) S := rfl
theorem chk_p (l off : Nat) : chkV (.ptr l off) S = some (.ptr l off, S) := rfl
theorem idx_agg (sz id k : Nat) (xs : List AV) (cs : List AV) (h : xs[k]? = some (.agg cs)) : idxV sz (.vec id sz xs) (some (k : Int)) S = some (.eptr cs 0, S) := by
  have h1 : decide (0 ≤ (k : Int)) = true := by simp
  simp only [idxV, h1, Nat.beq_refl, Bool.and_self, cond_true, Int.toNat_natCast, h, cellsOf, Option.map_some]
theorem res_cell (t : Nat) (ty : TypeId) (l : List ResultVar) {de : TypeDesc} {i : TypeInfo} (hd : E.und ty = some de) (hi : E.inf ty = some i) {b : Bool} {n : Nat} (hb : isAggD de = b) (hn : i.size = n) :
    resAll E tm S (.cell t ty :: l) = (loadC b n (getT tm t) S).bind fun q => (resAll E tm S l).map (q.1 :: ·) := by
  have h1 : resA E tm S (.cell t ty) = (loadC b n (getT tm t) S).map (·.1) := by
    subst hb; subst hn
    simp only [resA, loadC, Env.cutAt, hd, hi]
    cases getT tm t with
    | ptr l off => rcases h : S.obj l with _ | cs <;> simp [h, Option.map_map, Function.comp_def]
    | eptr cs off => simp [Option.map_map, Function.comp_def]
    | _ => rfl
  simp only [resAll, h1]
  cases loadC b n (getT tm t) S with
  | none => rfl
  | some q => cases resAll E tm S l <;> rfl
end
end Go.Abs
