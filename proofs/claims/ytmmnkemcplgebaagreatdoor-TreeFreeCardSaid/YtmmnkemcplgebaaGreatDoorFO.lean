/-
  More of the calculus: arrays.
-/
import Derived.Test.YtmmnkemcplgebaaGreatDoorFJ
section
set_option linter.unusedSimpArgs false
set_option linter.unusedVariables false
set_option maxRecDepth 100000
namespace Go.Abs
section
variable {E : Env} {tm : PM AV} {S : St} {d : Option Tmp}
def arrIs (E : Env) (t : TypeId) (n sz : Nat) : Bool := match E.und t with
  | some (.array m e) => match E.inf e with
    | some ie => Nat.beq m n && Nat.beq ie.size sz
    | none => false
  | _ => false
def arrV (n sz : Nat) (x : AV) (i : Option Int) (S : St) : Option (AV × St) := match x, i with
  | .ptr l off, some i => bif decide (0 ≤ i) && decide (i < (n : Int)) then some (.ptr l (off + i.toNat * sz), S) else none
  | .eptr cs off, some i => bif decide (0 ≤ i) && decide (i < (n : Int)) then some (.eptr cs (off + i.toNat * sz), S) else none
  | _, _ => none
theorem arr_chk (t : TypeId) (n sz : Nat) (h : arrIs E t n sz = true) (x y : Operand) : opV E tm d (.indexAddr t x y) S = arrV n sz (E.ev tm x) (int? (E.ev tm y)) S := by
  unfold arrIs at h
  split at h
  · rename_i m e hd
    split at h
    · rename_i ie hi
      simp only [Bool.and_eq_true] at h
      have h1 := Nat.eq_of_beq_eq_true h.1
      have h2 := Nat.eq_of_beq_eq_true h.2
      subst h1; subst h2
      show evPlain E (fun _ _ _ => none) tm (opOf d (.indexAddr t x y)) S = _
      simp only [evPlain, opOf, hd]
      cases E.ev tm x <;> cases int? (E.ev tm y) <;> first | rfl | simp only [hi, arrV]
    · cases h
  · cases h
end
end Go.Abs
end
