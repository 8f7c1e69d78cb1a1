/-
  VmKnown: the law's own run in parts: what is run.
-/
import Derived.Test.YtgfaeilkkmjkoaaGreatDoorKnF
import Derived.Test.YtgfaeilkkmjkoaaGreatDoorAbsC
import Derived.Test.YtgfaeilkkmjkoaaGreatDoorKnVB1
import Derived.Test.YtgfaeilkkmjkoaaGreatDoorKnVB2
import Derived.Test.YtgfaeilkkmjkoaaGreatDoorKnVB3
import Derived.Test.YtgfaeilkkmjkoaaGreatDoorKnVB4
import Derived.Test.YtgfaeilkkmjkoaaGreatDoorKnVA
set_option linter.unusedSimpArgs false
set_option linter.unusedVariables false
namespace Go.Proofs.YtgfaeilkkmjkoaaGreatDoor.vmKnown
open Go Go.Abs
noncomputable def ts : List (Nat × List (List AV × AV)) := [(13, [(argsB1, valB1), (argsB2, valB2), (argsB3, valB3), (argsB4, valB4)]), (4, [(argsA, valA)])]
theorem all : AllTold ts := (.cons 13 _ _ (Told.mem1 toldB1 (Told.mem1 toldB2 (Told.mem1 toldB3 (Told.mem1 toldB4 (fun _ _ h => by cases h))))) (fun fn hfn => by obtain rfl : fn = Tryz.f13 := (Option.some.inj (Tryz.func13.symm.trans hfn)).symm; kernel_rfl) (.cons 4 _ _ (Told.mem1 toldA (fun _ _ h => by cases h)) (fun fn hfn => by obtain rfl : fn = Tryz.f4 := (Option.some.inj (Tryz.func4.symm.trans hfn)).symm; kernel_rfl) .nil))
theorem fine : Fine (envT ts) := fineT all
noncomputable def code : Code := Tryz.f3.body.getD .skip
noncomputable def atLoop : Code := dropSeq 9 code
noncomputable def loopB : Code → Code
  | .seq (.seq _ (.block _ (.loop c))) _ => c
  | _ => .skip
noncomputable def loopH : Code → Code
  | .seq (.seq i _) _ => i
  | _ => .skip
noncomputable def loopR : Code → Code
  | .seq _ r => r
  | _ => .skip
noncomputable def loopI : Code → Nat
  | .seq (.seq _ (.block b _)) _ => b
  | _ => 0
noncomputable def E : Env := envT ts
noncomputable def C : CallFn := evFK E 3000 59
noncomputable def M := mac1K E C 3000 Tryz.f3.ntmps
noncomputable def body : CodeF := evCK M E C 3000 Tryz.f3.ntmps (loopB atLoop)
noncomputable def rest : Run := evCK M E C 3000 Tryz.f3.ntmps (loopR atLoop) kN kE kR
end Go.Proofs.YtgfaeilkkmjkoaaGreatDoor.vmKnown
