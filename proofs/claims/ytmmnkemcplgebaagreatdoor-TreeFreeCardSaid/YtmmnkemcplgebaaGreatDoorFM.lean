/-
  Regions of open order in which two things are made, in the calculus.
-/
import Derived.Test.YtmmnkemcplgebaaGreatDoorFI
section
set_option linter.unusedSimpArgs false
set_option linter.unusedVariables false
namespace Go.Abs
section
variable {E : Env} {nt : Nat}
/-- What is asked of a region of open order in which two things are made. -/
structure DrawMk2 (E : Env) (nt : Nat) (ops : Array Oper) (n : Nat) (l1 : List POp) (i : Nat) (d : Option Tmp) (op : Op) (l2 : List POp) (j : Nat) (d2 : Option Tmp) (op2 : Op) (l3 : List POp) (as : List Operand) : Prop where
  size : ops.size = n
  parts : ∃ p o q o2 r, ops.toList = p ++ o :: (q ++ o2 :: r) ∧ p.length = i ∧ o.dst = d ∧ o.op = op ∧ o.guard = none ∧ dstOk nt d = true ∧ isMk E o = true ∧ i + 1 + q.length = j ∧ o2.dst = d2 ∧ o2.op = op2 ∧ o2.guard = none ∧ dstOk nt d2 = true ∧ isMk E o2 = true ∧ popsOf nt ops p = some l1 ∧ popsOf nt ops q = some l2 ∧ popsOf nt ops r = some l3 ∧ p.all (fun o => !isMk E o) = true ∧ q.all (fun o => !isMk E o) = true ∧ r.all (fun o => !isMk E o) = true
  pairs : allPairs E ops (masks 0 ops.toList .leaf) 0 ops.toList = true
  seen : seenAll E ops (masks 0 ops.toList .leaf) 0 ops.toList = true
  loads : allLoads ops.toList = some as
end
end Go.Abs
end
