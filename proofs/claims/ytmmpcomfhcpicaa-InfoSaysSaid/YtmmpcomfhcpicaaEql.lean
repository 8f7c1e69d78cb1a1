/-
  Two structs told apart: what the model's '==' of structs gives, peeked.
-/
import Derived.Test.YtmmpcomfhcpicaaAbsD
import Derived.Laws.StructEq
set_option linter.unusedSimpArgs false
set_option linter.unusedVariables false
set_option maxRecDepth 100000
namespace Go.Abs
theorem peek_bind {α β : Type} {P : Program} (s : Sem α) (k : α → Sem β) : peek P (s >>= k) = (peek P s).bind fun a => peek P (k a) := by
  show peek P (Sem.bind s k) = _
  induction s with
  | pure a => rfl
  | program k' ih => simp only [Sem.bind, peek]; exact ih P
  | mark m k' ih => simp only [Sem.bind, peek]; exact ih
  | _ => rfl
theorem peek_pure {α : Type} {P : Program} (a : α) : peek P (Pure.pure a) = some a := rfl
theorem peek_ite {α : Type} {P : Program} (c : Prop) [Decidable c] (a b : Sem α) : peek P (if c then a else b) = if c then peek P a else peek P b := by split <;> rfl
theorem peek_equalIn_struct {P : Program} (d : Nat) (t : TypeId) (xs ys : Array Value) (ht : P.underlying t = some (.struct (P.fieldsOf t))) (hp : P.stoodInHeld t = false) :
    peek P (Op.equalIn (d + 1) t (.agg xs) (.agg ys)) = peek P (Op.eqFields d xs ys (P.fieldsOf t).toList) := by
  have hu : peek P (underlying t) = some (.struct (P.fieldsOf t)) := by
    have hq : peek P program = some P := rfl
    simp only [underlying, peek_bind, hq, Option.bind_some, ht]
    rfl
  have hq : peek P program = some P := rfl
  simp only [Op.equalIn, peek_bind, hu, hq, Option.bind_some, hp, Bool.false_eq_true, if_false]
  rw [← Array.forIn_toList]
  generalize (P.fieldsOf t).toList = fs
  clear ht hu
  induction fs with
  | nil => rfl
  | cons f fs ih =>
    simp only [List.forIn_cons, Op.eqFields, peek_bind, peek_ite]
    split
    · cases peek P (part f.type xs f.offset) with
      | none => rfl
      | some a =>
        simp only [Option.bind_some]
        cases peek P (part f.type ys f.offset) with
        | none => rfl
        | some b =>
          simp only [Option.bind_some]
          cases peek P (Op.equalIn d f.type a b) with
          | none => rfl
          | some r =>
            cases r
            · rfl
            · simp only [Option.bind_some, Bool.not_true, Bool.false_eq_true, if_false, peek_pure]
              exact ih
    · simp only [peek_pure, Option.bind_some]
      exact ih
theorem peek_underlying {P : Program} {t : TypeId} {d : TypeDesc} (h : P.underlying t = some d) : peek P (underlying t) = some d := by
  have hq : peek P program = some P := rfl
  simp only [underlying, peek_bind, hq, Option.bind_some, h]
  rfl
theorem peek_equalIn_int {P : Program} (d : Nat) (t : TypeId) (k k' : IntKind) (a b : Int) (h : P.underlying t = some (.int k')) : peek P (Op.equalIn (d + 1) t (.int k a) (.int k b)) = some (a == b) := by
  simp only [Op.equalIn, peek_bind, peek_underlying h, Option.bind_some, if_true]
  rfl
theorem peek_equalIn_string {P : Program} (d : Nat) (t : TypeId) (a b : ByteArray) (h : P.underlying t = some .string) : peek P (Op.equalIn (d + 1) t (.string a) (.string b)) = some (a.toList == b.toList) := by
  simp only [Op.equalIn, peek_bind, peek_underlying h, Option.bind_some]
  rw [beq_toListBytes]; rfl
theorem eqF_nil {P : Program} (d : Nat) (xs ys : Array Value) : peek P (Op.eqFields d xs ys []) = some true := rfl
theorem eqF_cons {P : Program} {d : Nat} {xs ys : Array Value} {f : Field} {fs : List Field} {a b : Value} {r : Bool} (hn : f.name ≠ "_") (ha : peek P (part f.type xs f.offset) = some a) (hb : peek P (part f.type ys f.offset) = some b)
    (h : peek P (Op.equalIn d f.type a b) = some r) : peek P (Op.eqFields d xs ys (f :: fs)) = if r then peek P (Op.eqFields d xs ys fs) else some false := by
  simp only [Op.eqFields, hn, ne_eq, not_false_eq_true, if_true, peek_bind, ha, hb, h, Option.bind_some, peek_ite]
  cases r <;> rfl
theorem b_neagg {E : Env} {S : St} {t : TypeId} (x y : Operand) {X Y : AV} {xs ys : Array Value} {b : Bool} (hx : conc X = some (.agg xs)) (hy : conc Y = some (.agg ys)) (hm : E.P.eqGuardType E.P.depth t = false) (h : peek E.P (Op.equalIn 10000 t (.agg xs) (.agg ys)) = some b) :
    binGen E .neq t x y X Y S = some (.sc (.bool (!b)), S) := by
  have hq : peek E.P program = some E.P := rfl
  have hg : peek E.P (eqGuard .neq t x y (.agg xs) (.agg ys)) = some () := by
    simp only [eqGuard]
    simp [peek_ite, peek_bind, hq, hm, peek_pure]
  have hb : peek E.P (binOp .neq t (.agg xs) (.agg ys)) = some (.bool (!b)) := by
    simp only [binOp, Op.equal, Op.maxDepth, peek_bind, h, Option.bind_some, peek_pure]
  simp only [binGen, hx, hy, peek_bind, hg, hb, Option.bind_some, Option.map_some]
  rfl
end Go.Abs
