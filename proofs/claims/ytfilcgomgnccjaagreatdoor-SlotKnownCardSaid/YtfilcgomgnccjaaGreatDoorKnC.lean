/-
  SlotKnown: what the call comes to.
-/
import Derived.Test.YtfilcgomgnccjaaGreatDoorProg
import Derived.Test.YtfilcgomgnccjaaGreatDoorRowF
set_option linter.unusedSimpArgs false
set_option linter.unusedVariables false
namespace Go.Proofs.YtfilcgomgnccjaaGreatDoor.slotKnown
open Go
theorem clos : Tryz.prog.closure 3 = [3, 4, 5, 12, 24, 44, 45, 69, 93, 102, 103, 46, 47, 70, 71, 72, 25, 48, 73, 27, 49, 50, 26, 51, 74, 94, 104, 123, 135, 139, 136, 78, 140, 142, 141, 143, 146, 144, 145, 147, 52, 28, 29, 53, 75, 95, 76, 77, 54, 79, 96, 80, 81, 7, 17, 13, 30, 55, 82, 97, 105, 124, 106, 107, 108, 125, 126, 127, 109, 110, 111, 128, 137, 56, 57, 58, 22, 40, 59, 33, 60, 63, 31, 32, 61, 83, 84, 85, 62, 86, 34, 19, 41, 18, 21, 42, 68, 92, 101, 20, 23, 43, 15, 14, 35, 39, 16, 37, 64, 67, 90, 91, 66, 89, 65, 87, 98, 88, 100, 121, 122, 99, 112, 118, 134, 113, 129, 114, 130, 131, 115, 132, 133, 138, 116, 117, 119, 120, 38, 36, 6, 9, 11, 8, 10] := RowF.closure_of (by kernel_rfl)
end Go.Proofs.YtfilcgomgnccjaaGreatDoor.slotKnown
