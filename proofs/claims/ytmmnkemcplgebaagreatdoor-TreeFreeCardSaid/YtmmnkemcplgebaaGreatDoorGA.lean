/-
  Trees: the walks (where one can stop; the law TreeStops).
-/
import Derived.Test.YtmmnkemcplgebaaGreatDoorFY
import Derived.Test.YtmmnkemcplgebaaGreatDoorFZ
section
set_option linter.unusedSimpArgs false
set_option linter.unusedVariables false
set_option maxRecDepth 100000
namespace Go.Proofs.YtmmnkemcplgebaaGreatDoor
open Go.Abs
theorem awake_ans : Ans E 7 [] (.sc (.bool true)) := fun S hS => ⟨S, ev_x (E := E) (f := 7) (fn := Tryz.f7) (g := memoX (.bool true)) (by kernel_rfl) rfl rfl, Grow.refl hS _⟩
end Go.Proofs.YtmmnkemcplgebaaGreatDoor
end
