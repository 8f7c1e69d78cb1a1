/-
  The library's contract of strings.Join, at this program: laid by program (the kit's table of numbers), the kernel compares each body.
-/
import Derived.Test.YteiaalgdmigpiaaGreatDoorRows
import Derived.Test.YteiaalgdmigpiaaGreatDoorAbs27
import Derived.Shelf.Strings.OnBuilder
set_option linter.unusedSimpArgs false
set_option linter.unusedVariables false
namespace Go.Proofs.YteiaalgdmigpiaaGreatDoor
open Go.Shelf Go
def joinLays_ren : Go.Shelf.Ren := ⟨fun | 156 => 73 | 165 => 101 | 166 => 40 | 169 => 43 | 240 => 72 | 241 => 123 | 276 => 100 | 277 => 151 | n => n, fun | 31 => 37 | 9 => 9 | 3 => 3 | 4 => 4 | 0 => 0 | 20 => 20 | 72 => 96 | 76 => 99 | 70 => 93 | 37 => 94 | 75 => 98 | 127 => 144 | 164 => 167 | 5 => 5 | 80 => 103 | n => n, fun | n => n⟩
theorem joinLays : Go.Proofs.Lays.n156 Tryz.prog joinLays_ren := {
  mixed := by kernel_rfl,
  f156 := Tryz.func73.trans (congrArg some (by kernel_rfl)),
  f165 := Tryz.func101.trans (congrArg some (by kernel_rfl)),
  f166 := Tryz.func40.trans (congrArg some (by kernel_rfl)),
  f169 := Tryz.func43.trans (congrArg some (by kernel_rfl)),
  f240 := Tryz.func72.trans (congrArg some (by kernel_rfl)),
  f241 := Tryz.func123.trans (congrArg some (by kernel_rfl)),
  f276 := Tryz.func100.trans (congrArg some (by kernel_rfl)),
  f277 := Tryz.func151.trans (congrArg some (by kernel_rfl)),
  t0 := Tryz.underlying0,
  a0 := Tryz.isAgg0,
  z0 := Tryz.sizeOf0,
  v0 := Tryz.zeroValue0,
  t3 := Tryz.underlying3,
  a3 := Tryz.isAgg3,
  z3 := Tryz.sizeOf3,
  v3 := Tryz.zeroValue3,
  t4 := Tryz.underlying4,
  a4 := Tryz.isAgg4,
  z4 := Tryz.sizeOf4,
  v4 := Tryz.zeroValue4,
  t9 := Tryz.underlying9,
  a9 := Tryz.isAgg9,
  z9 := Tryz.sizeOf9,
  v9 := Tryz.zeroValue9,
  t20 := Tryz.underlying20,
  a20 := Tryz.isAgg20,
  z20 := Tryz.sizeOf20,
  v20 := Tryz.zeroValue20,
  t31 := Tryz.underlying37,
  a31 := Tryz.isAgg37,
  z31 := Tryz.sizeOf37,
  v31 := Tryz.zeroValue37,
  t37 := Tryz.underlying94,
  a37 := Tryz.isAgg94,
  z37 := Tryz.sizeOf94,
  v37 := Tryz.zeroValue94,
  t70 := Tryz.underlying93,
  a70 := Tryz.isAgg93,
  z70 := Tryz.sizeOf93,
  v70 := Tryz.zeroValue93,
  t72 := Tryz.underlying96,
  a72 := Tryz.isAgg96,
  z72 := Tryz.sizeOf96,
  v72 := Tryz.zeroValue96,
  t75 := Tryz.underlying98,
  a75 := Tryz.isAgg98,
  z75 := Tryz.sizeOf98,
  v75 := Tryz.zeroValue98,
  t76 := Tryz.underlying99,
  a76 := Tryz.isAgg99,
  z76 := Tryz.sizeOf99,
  v76 := Tryz.zeroValue99,
  t127 := Tryz.underlying144,
  a127 := Tryz.isAgg144,
  z127 := Tryz.sizeOf144,
  v127 := Tryz.zeroValue144,
  t164 := Tryz.underlying167,
  a164 := Tryz.isAgg167,
  z164 := Tryz.sizeOf167,
  v164 := Tryz.zeroValue167 }
theorem joinEx : Go.Proofs.Builder.Extra Tryz.prog joinLays_ren := {
  sizeBuilder := by kernel_rfl,
  liesBuilder := by kernel_rfl,
  t5 := Tryz.underlying5,
  a5 := Tryz.isAgg5,
  z5 := Tryz.sizeOf5,
  v5 := Tryz.zeroValue5,
  infoByte := by kernel_rfl,
  cellsByte := by kernel_rfl,
  sizeByte := by kernel_rfl,
  neB5 := by decide }
theorem joinC : Abs.JoinC Tryz.prog 73 :=
  ⟨fun a c sep w => Go.Proofs.Any.strings_Join_none joinLays joinEx a c sep w, fun bk o c xs sep w h1 h2 h3 h4 h5 => Go.Proofs.Any.strings_Join joinLays joinEx bk o c xs sep w h1 h2 h3 h4 h5⟩
end Go.Proofs.YteiaalgdmigpiaaGreatDoor
