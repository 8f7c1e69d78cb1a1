/-
  SlotKnown: the evaluator's environment at this program.
-/
import Derived.Test.YtfilcgomgnccjaaGreatDoorProg
import Derived.Test.YtfilcgomgnccjaaGreatDoorAbsM
import Derived.Test.YtfilcgomgnccjaaGreatDoorAbs26
import Derived.Test.YtfilcgomgnccjaaGreatDoorAbsV
set_option linter.unusedSimpArgs false
set_option linter.unusedVariables false
namespace Go.Proofs.YtfilcgomgnccjaaGreatDoor.slotKnown
open Go
/-- Tables of the library. -/
def props : List Int := [1, 1, 1, 1, 1, 1, 1, 1, 1, 1, 1, 1, 1, 1, 1, 1, 1, 1, 1, 1, 1, 1, 1, 1, 1, 1, 1, 1, 1, 1, 1, 1, 144, 130, 130, 130, 136, 130, 130, 130, 130, 130, 130, 136, 130, 130, 130, 130, 132, 132, 132, 132, 132, 132, 132, 132, 132, 132, 130, 130, 136, 136, 136, 130, 130, 160, 160, 160, 160, 160, 160, 160, 160, 160, 160, 160, 160, 160, 160, 160, 160, 160, 160, 160, 160, 160, 160, 160, 160, 160, 160, 130, 130, 130, 136, 130, 136, 192, 192, 192, 192, 192, 192, 192, 192, 192, 192, 192, 192, 192, 192, 192, 192, 192, 192, 192, 192, 192, 192, 192, 192, 192, 192, 130, 136, 130, 136, 1, 1, 1, 1, 1, 1, 1, 1, 1, 1, 1, 1, 1, 1, 1, 1, 1, 1, 1, 1, 1, 1, 1, 1, 1, 1, 1, 1, 1, 1, 1, 1, 1, 16, 130, 136, 136, 136, 136, 136, 130, 136, 136, 224, 130, 136, 0, 136, 136, 136, 136, 132, 132, 136, 192, 130, 130, 136, 132, 224, 130, 132, 132, 132, 130, 160, 160, 160, 160, 160, 160, 160, 160, 160, 160, 160, 160, 160, 160, 160, 160, 160, 160, 160, 160, 160, 160, 160, 136, 160, 160, 160, 160, 160, 160, 160, 192, 192, 192, 192, 192, 192, 192, 192, 192, 192, 192, 192, 192, 192, 192, 192, 192, 192, 192, 192, 192, 192, 192, 192, 136, 192, 192, 192, 192, 192, 192, 192, 192]
noncomputable def tabs (g : Nat) : Option (List Abs.AV) := bif Nat.beq g 0 then some (props.map fun z => .sc (.int .u8 z)) else none
noncomputable def hps (t : Nat) : Bool := Nat.beq t 69 || Nat.beq t 43
noncomputable def envX (X : FuncId → Option (List Abs.AV → Abs.St → Option (Abs.AV × Abs.St))) : Abs.Env := { P := Tryz.prog, G := tabs, fn := fun f => Tryz.prog.funcs[f]?, und := Tryz.prog.underlying, inf := Tryz.prog.info?, hp := fun t _ => hps t, meth := fun _ _ => none, ext := Abs.extOf [] [], X := X }
/-- Contracts by tables of values. -/
noncomputable def XT : List (Nat × List (List Abs.AV × Abs.AV)) → FuncId → Option (List Abs.AV → Abs.St → Option (Abs.AV × Abs.St))
  | [], f => bif Nat.beq f 65 then some (Abs.sortedX 89) else bif Nat.beq f 68 then some (Abs.varsX (envX fun _ => none) 3000 20 68) else none
  | e :: r, f => bif Nat.beq f e.1 then some (Abs.memoV e.2) else XT r f
noncomputable def envT (ts : List (Nat × List (List Abs.AV × Abs.AV))) : Abs.Env := envX (XT ts)
/-- Whether the evaluator answers this, by value. -/
noncomputable def gives (v : Abs.AV) (x : Option (Abs.AV × Abs.St)) : Bool := match x with
  | some (r, S) => match Abs.rdV S true 40 r with
    | some y => Abs.eqA 40 y v
    | none => false
  | none => false
end Go.Proofs.YtfilcgomgnccjaaGreatDoor.slotKnown
