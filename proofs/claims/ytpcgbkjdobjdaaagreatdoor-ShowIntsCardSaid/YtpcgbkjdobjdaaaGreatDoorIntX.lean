/-
  ShowInts: the environment of its walks: what the kernel has run as contracts, strconv.FormatInt by the library's contract.
-/
import Derived.Test.YtpcgbkjdobjdaaaGreatDoorKnVA
import Derived.Test.YtpcgbkjdobjdaaaGreatDoorKnVB2
import Derived.Test.YtpcgbkjdobjdaaaGreatDoorAbsR
import Derived.Test.YtpcgbkjdobjdaaaGreatDoorUniX
import Derived.Test.YtpcgbkjdobjdaaaGreatDoorItoT
import Derived.Lib.AppendIntMem
set_option linter.unusedSimpArgs false
set_option linter.unusedVariables false
set_option maxRecDepth 100000
namespace Go.Proofs.YtpcgbkjdobjdaaaGreatDoor
open Go.Abs Go.RowKit
noncomputable def powV : List Value := Lib.pow10Tab.map fun z => .int .u64 z
noncomputable def fmtF : List AV → Option AV
  | [.sc (.int .i64 n), .sc (.int .i64 b)] => bif decide (-9223372036854775808 ≤ n) && decide (n ≤ 9223372036854775807) && decide (b = 10) then some (.sc (.string ⟨(Lib.itoa n).toArray⟩)) else none
  | _ => none
noncomputable def awX : List AV → St → Option (AV × St) := memoV [(showInts.argsA, showInts.valA)]
theorem allB : showInts.AllTold [(12, [(showInts.argsB2, showInts.valB2)])] := .cons _ _ _ (showInts.Told.mem1 showInts.toldB2 (fun _ _ h => by cases h)) (fun fn hfn => by
  have hfn : Tryz.prog.funcs[12]? = some fn := hfn
  obtain rfl : fn = Tryz.f12 := (Option.some.inj (Tryz.func12.symm.trans hfn)).symm
  show Tryz.f12.body.isNone = false
  kernel_rfl) .nil
noncomputable def envB : Env := showInts.envT [(12, [(showInts.argsB2, showInts.valB2)])]
theorem fineB : showInts.Fine envB := showInts.fineT allB
noncomputable def buX : List AV → St → Option (AV × St) := runX envB 3000 60 5
noncomputable def env0 : Env := showInts.envT []
theorem fine0 : showInts.Fine env0 := showInts.fineT .nil
noncomputable def newX : List AV → St → Option (AV × St) := runX env0 3000 60 6
/-- An environment over this program with these tables. -/
structure Here (E : Env) : Prop where
  P : E.P = Tryz.prog
  G : E.G = showInts.tabs
theorem tabs_pow : showInts.tabs 0 = some (powV.map .sc) := by kernel_rfl
theorem powV_len : powV.length = 20 := by simp [powV, Lib.pow10Tab_length]
theorem pow_of {E : Env} (hE : Here E) {C : Ctx} {S : St} {w : World} (hw : WR E C S w) : Lib.TabIs Tryz.prog w "internal/strconv.uint64pow10" .u64 Lib.pow10Tab := by
  have k := hw.glob 0 (powV.map .sc) (by rw [hE.G]; exact tabs_pow)
  have kc := cells_of k.vr
  obtain ⟨c, T, fz, h1, h2⟩ := k.whole (by rw [List.length_map, powV_len]; decide) (by rw [List.length_map, powV_len]; decide)
  rw [List.length_map] at h2
  have hg : Tryz.prog.globalNamed "internal/strconv.uint64pow10" = some 0 := by kernel_rfl
  have hc : c = powV.toArray := by
    apply Array.ext
    · rw [h2, List.size_toArray]
    · intro i a1 a2
      rw [List.size_toArray] at a2
      have := kc i powV[i] (List.getElem?_eq_getElem a2)
      rw [cell_block h1, Array.getElem?_eq_getElem a1] at this
      simpa using this
  show w.var? Tryz.prog "internal/strconv.uint64pow10" = some powV.toArray
  simp only [World.var?, hg, Option.bind_some, h1, hc]
theorem fmt_ok {E : Env} (hE : Here E) {args : List AV} {S : St} {r : AV} {S' : St} (hm : pureX fmtF args S = some (r, S')) {C : Ctx} {w : World} {vs : Array Value} (hw : WR E C S w) (hl : LR C w args vs.toList) :
    Calls E.P 35 vs w (fun e w' => ∃ u C', e = .returned u ∧ WR E C' S' w' ∧ Ext C w C' w' ∧ VR C' w' r u) := by
  refine pureX_ok hm hw fun hF => ?_
  obtain ⟨vs⟩ := vs
  unfold fmtF at hF
  split at hF
  · rename_i n b
    match vs, hl with
    | [v0, v1], hl =>
    rw [hl.head.sc_inv, hl.tail.head.sc_inv, hE.P]
    simp only [cond_eq_ite] at hF
    split at hF
    · rename_i hb
      simp only [Bool.and_eq_true, decide_eq_true_eq] at hb
      obtain ⟨⟨b1, b2⟩, rfl⟩ := hb
      simp only [Option.some.injEq] at hF
      subst hF
      refine ⟨_, (Any.strconv_FormatInt_10 fmtLays n b1 b2 w (pow_of hE hw)).mono ?_, fun C w => .sc _⟩
      rintro e w' ⟨rfl, k, os, rfl⟩
      exact ⟨rfl, Lib.below_grow _ _ (Nat.le_refl _) _ _⟩
    · cases hF
  · cases hF
end Go.Proofs.YtpcgbkjdobjdaaaGreatDoor
