/-
  ShowInts: the evaluator's environment at this program.
-/
import Derived.Test.YtpcgbkjdobjdaaaGreatDoorProg
import Derived.Test.YtpcgbkjdobjdaaaGreatDoorAbsM
set_option linter.unusedSimpArgs false
set_option linter.unusedVariables false
namespace Go.Proofs.YtpcgbkjdobjdaaaGreatDoor.showInts
open Go
/-- Tables of the library. -/
def props : List Int := [1, 1, 1, 1, 1, 1, 1, 1, 1, 1, 1, 1, 1, 1, 1, 1, 1, 1, 1, 1, 1, 1, 1, 1, 1, 1, 1, 1, 1, 1, 1, 1, 144, 130, 130, 130, 136, 130, 130, 130, 130, 130, 130, 136, 130, 130, 130, 130, 132, 132, 132, 132, 132, 132, 132, 132, 132, 132, 130, 130, 136, 136, 136, 130, 130, 160, 160, 160, 160, 160, 160, 160, 160, 160, 160, 160, 160, 160, 160, 160, 160, 160, 160, 160, 160, 160, 160, 160, 160, 160, 160, 130, 130, 130, 136, 130, 136, 192, 192, 192, 192, 192, 192, 192, 192, 192, 192, 192, 192, 192, 192, 192, 192, 192, 192, 192, 192, 192, 192, 192, 192, 192, 192, 130, 136, 130, 136, 1, 1, 1, 1, 1, 1, 1, 1, 1, 1, 1, 1, 1, 1, 1, 1, 1, 1, 1, 1, 1, 1, 1, 1, 1, 1, 1, 1, 1, 1, 1, 1, 1, 16, 130, 136, 136, 136, 136, 136, 130, 136, 136, 224, 130, 136, 0, 136, 136, 136, 136, 132, 132, 136, 192, 130, 130, 136, 132, 224, 130, 132, 132, 132, 130, 160, 160, 160, 160, 160, 160, 160, 160, 160, 160, 160, 160, 160, 160, 160, 160, 160, 160, 160, 160, 160, 160, 160, 136, 160, 160, 160, 160, 160, 160, 160, 192, 192, 192, 192, 192, 192, 192, 192, 192, 192, 192, 192, 192, 192, 192, 192, 192, 192, 192, 192, 192, 192, 192, 192, 136, 192, 192, 192, 192, 192, 192, 192, 192]
def pow10 : List Int := [1, 10, 100, 1000, 10000, 100000, 1000000, 10000000, 100000000, 1000000000, 10000000000, 100000000000, 1000000000000, 10000000000000, 100000000000000, 1000000000000000, 10000000000000000, 100000000000000000, 1000000000000000000, 10000000000000000000]
noncomputable def tabs (g : Nat) : Option (List Abs.AV) := bif Nat.beq g 2 then some (props.map fun z => .sc (.int .u8 z)) else bif Nat.beq g 0 then some (pow10.map fun z => .sc (.int .u64 z)) else none
noncomputable def hps (t : Nat) : Bool := Nat.beq t 27 || Nat.beq t 23 || Nat.beq t 209 || Nat.beq t 96 || Nat.beq t 102 || Nat.beq t 103
noncomputable def envX (X : FuncId → Option (List Abs.AV → Abs.St → Option (Abs.AV × Abs.St))) : Abs.Env := { P := Tryz.prog, G := tabs, fn := fun f => Tryz.prog.funcs[f]?, und := Tryz.prog.underlying, inf := Tryz.prog.info?, hp := fun t _ => hps t, meth := fun _ _ => none, ext := Abs.extOf [] [], X := X }
/-- Contracts by tables of values. -/
noncomputable def XT : List (Nat × List (List Abs.AV × Abs.AV)) → FuncId → Option (List Abs.AV → Abs.St → Option (Abs.AV × Abs.St))
  | [], _ => none
  | e :: r, f => bif Nat.beq f e.1 then some (Abs.memoV e.2) else XT r f
noncomputable def envT (ts : List (Nat × List (List Abs.AV × Abs.AV))) : Abs.Env := envX (XT ts)
/-- Whether the evaluator answers this, by value. -/
noncomputable def gives (v : Abs.AV) (x : Option (Abs.AV × Abs.St)) : Bool := match x with
  | some (r, S) => match Abs.rdV S true 40 r with
    | some y => Abs.eqA 40 y v
    | none => false
  | none => false
end Go.Proofs.YtpcgbkjdobjdaaaGreatDoor.showInts
