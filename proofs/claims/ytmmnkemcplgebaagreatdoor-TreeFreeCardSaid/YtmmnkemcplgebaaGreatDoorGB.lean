/-
  maps.Copy at this seat's program.
  The library's contract of slices.Sorted on what maps.Keys hands back, at this program: laid by program (the kit's table of numbers), the kernel compares each body.
-/
import Derived.Test.YtmmnkemcplgebaaGreatDoorProg
import Derived.Shelf.SlMaps.Copy
import Derived.Test.YtmmnkemcplgebaaGreatDoorRows
import Derived.Test.YtmmnkemcplgebaaGreatDoorF2
import Derived.Shelf.SlIter.Sorted
import Derived.Shelf.SortM.Plain
import Derived.Shelf.SortM.SortNone
section
set_option linter.unusedSimpArgs false
set_option linter.unusedVariables false
namespace Go.Proofs.YtmmnkemcplgebaaGreatDoor
open Go.Shelf Go
def copyLays_ren : Go.Shelf.Ren := ⟨fun | 5 => 62 | n => n, fun | 23 => 71 | 24 => 71 | 26 => 9 | 27 => 4 | 0 => 0 | 4 => 4 | n => n, fun | n => n⟩
theorem copyLays : Go.Proofs.SlLaysX.n5 Tryz.prog copyLays_ren := {
  mixed := by kernel_rfl,
  f5 := ⟨ "maps.Copy[map[string]bool,map[string]bool,string,bool]", by decide, Tryz.func62.trans (congrArg some (by kernel_rfl))⟩,
  t0 := Tryz.underlying0,
  a0 := Tryz.isAgg0,
  z0 := Tryz.sizeOf0,
  v0 := Tryz.zeroValue0,
  t4 := Tryz.underlying4,
  a4 := Tryz.isAgg4,
  z4 := Tryz.sizeOf4,
  v4 := Tryz.zeroValue4,
  t23 := Tryz.underlying71,
  a23 := Tryz.isAgg71,
  z23 := Tryz.sizeOf71,
  v23 := Tryz.zeroValue71,
  t24 := Tryz.underlying71,
  a24 := Tryz.isAgg71,
  z24 := Tryz.sizeOf71,
  v24 := Tryz.zeroValue71,
  a26 := Tryz.isAgg9,
  z26 := Tryz.sizeOf9,
  a27 := Tryz.isAgg4,
  z27 := Tryz.sizeOf4 }
end Go.Proofs.YtmmnkemcplgebaaGreatDoor
end

section
set_option linter.unusedSimpArgs false
set_option linter.unusedVariables false
namespace Go.Proofs.YtmmnkemcplgebaaGreatDoor
open Go.RowKit Go.Maps Go.Sort Go.Shelf Go
def keysLays_ren : Go.Shelf.Ren := ⟨fun | 10 => 60 | n => n, fun | 33 => 95 | 23 => 71 | 0 => 0 | 4 => 4 | 26 => 9 | 3 => 4 | n => n, fun | n => n⟩
theorem keysLays : Go.Proofs.SlLaysZ.n10 Tryz.prog keysLays_ren := {
  mixed := by kernel_rfl,
  f10 := ⟨ "maps.Keys[map[string]bool,string,bool]$1", by decide, Tryz.func60.trans (congrArg some (by kernel_rfl))⟩,
  t0 := Tryz.underlying0,
  a0 := Tryz.isAgg0,
  z0 := Tryz.sizeOf0,
  v0 := Tryz.zeroValue0,
  t4 := Tryz.underlying4,
  a4 := Tryz.isAgg4,
  z4 := Tryz.sizeOf4,
  v4 := Tryz.zeroValue4,
  t23 := Tryz.underlying71,
  a23 := Tryz.isAgg71,
  z23 := Tryz.sizeOf71,
  v23 := Tryz.zeroValue71,
  t26 := Tryz.underlying9,
  a26 := Tryz.isAgg9,
  z26 := Tryz.sizeOf9,
  v26 := Tryz.zeroValue9,
  t33 := Tryz.underlying95,
  a33 := Tryz.isAgg95,
  z33 := Tryz.sizeOf95,
  v33 := Tryz.zeroValue95 }
def sortedLays_ren : Go.Shelf.Ren := ⟨fun | 6 => 33 | 8 => 58 | 9 => 59 | 11 => 83 | 13 => 85 | 12 => 84 | 23 => 104 | 24 => 105 | 14 => 95 | 15 => 96 | 16 => 97 | 17 => 98 | 18 => 99 | 19 => 100 | 20 => 101 | 21 => 102 | 22 => 103 | 25 => 122 | 26 => 123 | 27 => 124 | 28 => 125 | 29 => 126 | 30 => 127 | 31 => 142 | n => n, fun | 26 => 9 | 28 => 69 | 24 => 31 | 0 => 0 | 3 => 3 | 37 => 120 | 48 => 145 | 50 => 132 | 4 => 4 | 40 => 137 | 39 => 136 | 45 => 142 | 5 => 5 | 9 => 9 | 51 => 161 | 55 => 165 | 57 => 172 | 58 => 115 | 33 => 95 | n => n, fun | n => n⟩
theorem sortedLays : Go.Proofs.SlLaysZ.n6 Tryz.prog sortedLays_ren := {
  mixed := by kernel_rfl,
  f6 := ⟨ "slices.Sorted[string]", by decide, Tryz.func33.trans (congrArg some (by kernel_rfl))⟩,
  f8 := ⟨ "slices.Collect[string]", by decide, Tryz.func58.trans (congrArg some (by kernel_rfl))⟩,
  f11 := ⟨ "slices.AppendSeq[[]string,string]", by decide, Tryz.func83.trans (congrArg some (by kernel_rfl))⟩,
  t0 := Tryz.underlying0,
  a0 := Tryz.isAgg0,
  z0 := Tryz.sizeOf0,
  v0 := Tryz.zeroValue0,
  t24 := Tryz.underlying31,
  a24 := Tryz.isAgg31,
  z24 := Tryz.sizeOf31,
  v24 := Tryz.zeroValue31,
  t26 := Tryz.underlying9,
  a26 := Tryz.isAgg9,
  z26 := Tryz.sizeOf9,
  v26 := Tryz.zeroValue9,
  t28 := Tryz.underlying69,
  a28 := Tryz.isAgg69,
  z28 := Tryz.sizeOf69,
  v28 := Tryz.zeroValue69,
  i26 := by kernel_rfl }
def sortLays_ren : Go.Shelf.Ren := ⟨fun | 6 => 59 | 8 => 85 | 9 => 84 | 19 => 104 | 20 => 105 | 21 => 95 | 22 => 96 | 23 => 97 | 24 => 98 | 25 => 99 | 26 => 100 | 27 => 101 | 28 => 102 | 29 => 103 | 36 => 122 | 31 => 123 | 32 => 124 | 37 => 125 | 38 => 126 | 39 => 127 | 41 => 142 | n => n, fun | 27 => 31 | 29 => 9 | 3 => 3 | 32 => 120 | 26 => 31 | 0 => 0 | 44 => 145 | 46 => 132 | 4 => 4 | 36 => 137 | 35 => 136 | 41 => 142 | 5 => 5 | 9 => 9 | 53 => 161 | 57 => 165 | 63 => 172 | 64 => 115 | n => n, fun | n => n⟩
theorem sortLays : Go.Proofs.SlLaysM.n6 Tryz.prog sortLays_ren := {
  mixed := by kernel_rfl,
  f6 := ⟨ "slices.Sort[[]string,string]", by decide, Tryz.func59.trans (congrArg some (by kernel_rfl))⟩,
  f8 := Tryz.func85.trans (congrArg some (by kernel_rfl)),
  f9 := ⟨ "slices.pdqsortOrdered[string]", by decide, Tryz.func84.trans (congrArg some (by kernel_rfl))⟩,
  f19 := Tryz.func104.trans (congrArg some (by kernel_rfl)),
  f20 := Tryz.func105.trans (congrArg some (by kernel_rfl)),
  f21 := ⟨ "slices.insertionSortOrdered[string]", by decide, Tryz.func95.trans (congrArg some (by kernel_rfl))⟩,
  f22 := ⟨ "slices.heapSortOrdered[string]", by decide, Tryz.func96.trans (congrArg some (by kernel_rfl))⟩,
  f23 := ⟨ "slices.breakPatternsOrdered[string]", by decide, Tryz.func97.trans (congrArg some (by kernel_rfl))⟩,
  f24 := ⟨ "slices.choosePivotOrdered[string]", by decide, Tryz.func98.trans (congrArg some (by kernel_rfl))⟩,
  f25 := ⟨ "slices.reverseRangeOrdered[string]", by decide, Tryz.func99.trans (congrArg some (by kernel_rfl))⟩,
  f26 := ⟨ "slices.partialInsertionSortOrdered[string]", by decide, Tryz.func100.trans (congrArg some (by kernel_rfl))⟩,
  f27 := ⟨ "cmp.Less[string]", by decide, Tryz.func101.trans (congrArg some (by kernel_rfl))⟩,
  f28 := ⟨ "slices.partitionEqualOrdered[string]", by decide, Tryz.func102.trans (congrArg some (by kernel_rfl))⟩,
  f29 := ⟨ "slices.partitionOrdered[string]", by decide, Tryz.func103.trans (congrArg some (by kernel_rfl))⟩,
  f31 := Tryz.func123.trans (congrArg some (by kernel_rfl)),
  f32 := Tryz.func124.trans (congrArg some (by kernel_rfl)),
  f36 := ⟨ "slices.siftDownOrdered[string]", by decide, Tryz.func122.trans (congrArg some (by kernel_rfl))⟩,
  f37 := ⟨ "slices.medianAdjacentOrdered[string]", by decide, Tryz.func125.trans (congrArg some (by kernel_rfl))⟩,
  f38 := ⟨ "slices.medianOrdered[string]", by decide, Tryz.func126.trans (congrArg some (by kernel_rfl))⟩,
  f39 := ⟨ "cmp.isNaN[string]", by decide, Tryz.func127.trans (congrArg some (by kernel_rfl))⟩,
  f41 := ⟨ "slices.order2Ordered[string]", by decide, Tryz.func142.trans (congrArg some (by kernel_rfl))⟩,
  t0 := Tryz.underlying0,
  a0 := Tryz.isAgg0,
  z0 := Tryz.sizeOf0,
  v0 := Tryz.zeroValue0,
  t3 := Tryz.underlying3,
  a3 := Tryz.isAgg3,
  z3 := Tryz.sizeOf3,
  v3 := Tryz.zeroValue3,
  t4 := Tryz.underlying4,
  a4 := Tryz.isAgg4,
  z4 := Tryz.sizeOf4,
  v4 := Tryz.zeroValue4,
  t5 := Tryz.underlying5,
  a5 := Tryz.isAgg5,
  z5 := Tryz.sizeOf5,
  v5 := Tryz.zeroValue5,
  t9 := Tryz.underlying9,
  a9 := Tryz.isAgg9,
  z9 := Tryz.sizeOf9,
  v9 := Tryz.zeroValue9,
  t26 := Tryz.underlying31,
  a26 := Tryz.isAgg31,
  z26 := Tryz.sizeOf31,
  v26 := Tryz.zeroValue31,
  t27 := Tryz.underlying31,
  a27 := Tryz.isAgg31,
  z27 := Tryz.sizeOf31,
  v27 := Tryz.zeroValue31,
  t29 := Tryz.underlying9,
  a29 := Tryz.isAgg9,
  z29 := Tryz.sizeOf9,
  v29 := Tryz.zeroValue9,
  t32 := Tryz.underlying120,
  a32 := Tryz.isAgg120,
  z32 := Tryz.sizeOf120,
  v32 := Tryz.zeroValue120,
  t35 := Tryz.underlying136,
  a35 := Tryz.isAgg136,
  z35 := Tryz.sizeOf136,
  v35 := Tryz.zeroValue136,
  t36 := Tryz.underlying137,
  a36 := Tryz.isAgg137,
  z36 := Tryz.sizeOf137,
  v36 := Tryz.zeroValue137,
  t41 := Tryz.underlying142,
  a41 := Tryz.isAgg142,
  z41 := Tryz.sizeOf142,
  v41 := Tryz.zeroValue142,
  t44 := Tryz.underlying145,
  a44 := Tryz.isAgg145,
  z44 := Tryz.sizeOf145,
  v44 := Tryz.zeroValue145,
  t46 := Tryz.underlying132,
  a46 := Tryz.isAgg132,
  z46 := Tryz.sizeOf132,
  v46 := Tryz.zeroValue132,
  t53 := Tryz.underlying161,
  a53 := Tryz.isAgg161,
  z53 := Tryz.sizeOf161,
  v53 := Tryz.zeroValue161,
  t57 := Tryz.underlying165,
  a57 := Tryz.isAgg165,
  z57 := Tryz.sizeOf165,
  v57 := Tryz.zeroValue165,
  t63 := Tryz.underlying172,
  a63 := Tryz.isAgg172,
  z63 := Tryz.sizeOf172,
  v63 := Tryz.zeroValue172,
  t64 := Tryz.underlying115,
  a64 := Tryz.isAgg115,
  z64 := Tryz.sizeOf115,
  v64 := Tryz.zeroValue115 }
theorem sorts (m : Nat) : AnyZ.SortsIn Tryz.prog sortedLays_ren Fence.wide m :=
  ⟨fun blk off cap ss W hH hblk hsz => callsIn_wide.2 (AnyM.slices_Sort_string sortLays blk off cap ss W hH hblk hsz),
   fun p cap W => callsIn_wide.2 (AnyM.slices_Sort_string_none sortLays p cap W)⟩
set_option maxHeartbeats 1000000 in
theorem sortedC : Abs.SortedC Tryz.prog 33 60 9 := by
  intro bx b nn D0 R w hbx hcell hown hmax hbytes
  have hseq : SeqGives Fence.wide 2 Tryz.prog 60 #[.pointer (some ⟨bx, 0, none⟩)] encStr (fun ss => ss.Perm (strKeys D0)) (Maps.size D0) w :=
    AnyZ.keys_gives (ρ := keysLays_ren) keysLays Fence.wide _ trivial rfl (by omega) bx b nn D0 w hbx hcell hown
  exact callsIn_wide.1 (AnyZ.sorted_in sortedLays Fence.wide 5 trivial trivial trivial trivial rfl (by omega) (sorts _) (enters_of Tryz.func59 (by kernel_rfl) rfl) 60 #[.pointer (some ⟨bx, 0, none⟩)] trivial (enters_of Tryz.func60 (by kernel_rfl) rfl) _ _ hmax hbytes w hseq)
end Go.Proofs.YtmmnkemcplgebaaGreatDoor
end
