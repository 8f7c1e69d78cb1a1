/-
  InferKnown: the evaluator's environment at this program.
-/
import Derived.Test.YtkmlbchfeiminaaGreatDoorProg
import Derived.Test.YtkmlbchfeiminaaGreatDoorAbs29
set_option linter.unusedSimpArgs false
set_option linter.unusedVariables false
namespace Go.Proofs.YtkmlbchfeiminaaGreatDoor.inferKnown
open Go
/-- The library's table unicode.properties. -/
def props : List Int := [1, 1, 1, 1, 1, 1, 1, 1, 1, 1, 1, 1, 1, 1, 1, 1, 1, 1, 1, 1, 1, 1, 1, 1, 1, 1, 1, 1, 1, 1, 1, 1, 144, 130, 130, 130, 136, 130, 130, 130, 130, 130, 130, 136, 130, 130, 130, 130, 132, 132, 132, 132, 132, 132, 132, 132, 132, 132, 130, 130, 136, 136, 136, 130, 130, 160, 160, 160, 160, 160, 160, 160, 160, 160, 160, 160, 160, 160, 160, 160, 160, 160, 160, 160, 160, 160, 160, 160, 160, 160, 160, 130, 130, 130, 136, 130, 136, 192, 192, 192, 192, 192, 192, 192, 192, 192, 192, 192, 192, 192, 192, 192, 192, 192, 192, 192, 192, 192, 192, 192, 192, 192, 192, 130, 136, 130, 136, 1, 1, 1, 1, 1, 1, 1, 1, 1, 1, 1, 1, 1, 1, 1, 1, 1, 1, 1, 1, 1, 1, 1, 1, 1, 1, 1, 1, 1, 1, 1, 1, 1, 16, 130, 136, 136, 136, 136, 136, 130, 136, 136, 224, 130, 136, 0, 136, 136, 136, 136, 132, 132, 136, 192, 130, 130, 136, 132, 224, 130, 132, 132, 132, 130, 160, 160, 160, 160, 160, 160, 160, 160, 160, 160, 160, 160, 160, 160, 160, 160, 160, 160, 160, 160, 160, 160, 160, 136, 160, 160, 160, 160, 160, 160, 160, 192, 192, 192, 192, 192, 192, 192, 192, 192, 192, 192, 192, 192, 192, 192, 192, 192, 192, 192, 192, 192, 192, 192, 192, 136, 192, 192, 192, 192, 192, 192, 192, 192]
noncomputable def envX (X : FuncId → Option (List Abs.AV → Abs.St → Option (Abs.AV × Abs.St))) : Abs.Env := { P := Tryz.prog, G := fun g => bif Nat.beq g 0 then some (props.map fun z => .sc (.int .u8 z)) else none, fn := fun f => Tryz.prog.funcs[f]?, und := Tryz.prog.underlying, inf := Tryz.prog.info?, hp := fun t _ => Nat.beq t 38 || Nat.beq t 29, meth := fun _ _ => none, ext := Abs.extOf [] [], X := X }
noncomputable def env0 : Abs.Env := envX fun _ => none
/-- Whether the evaluator answers this text. -/
noncomputable def says (t : List UInt8) (x : Option (Abs.AV × Abs.St)) : Bool := match x with
  | some (.sc (.string b), _) => decide (b.data.toList = t)
  | _ => false
end Go.Proofs.YtkmlbchfeiminaaGreatDoor.inferKnown
