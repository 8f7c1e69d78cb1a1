/-
  More of the calculus: a loop with one exit, a part of the code.
-/
import Derived.Test.YtmmnkemcplgebaaGreatDoorFH
section
set_option linter.unusedSimpArgs false
set_option linter.unusedVariables false
set_option maxRecDepth 100000
namespace Go.Abs
end Go.Abs
namespace Go.Abs
end Go.Abs
end
