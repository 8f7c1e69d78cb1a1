/-
  SlotKnown: the walk, of any world that has the tables.
-/
import Derived.Test.YtfilcgomgnccjaaGreatDoorRows
import Derived.Test.YtfilcgomgnccjaaGreatDoorKnRun
import Derived.ProofKit
import Derived.OpenShut
import Derived.ChangeOld
import Derived.LaidMore
import Derived.LaidOnce
import Derived.Lay
import Derived.Lib.LaidU8
set_option linter.unusedSimpArgs false
set_option linter.unusedVariables false
namespace Go.Proofs.YtfilcgomgnccjaaGreatDoor.slotKnown
open Go.ChangeShapes Go.WideShapes Go.ChangeAt Go.RowKit
theorem props_eq : (Rows.laid_unicode_properties : DataW Unit) = Lib.tabData .u8 props := by kernel_rfl
/-- A table of numbers, as the row lays it. -/
theorem tabVR {W : World} {name : String} {d : DataW Unit} {g t e : Nat} {k : IntKind} {zs : List Int} {n : Nat} (hn : zs.length = n) (h : Lib.VarReads Tryz.prog W name d) (hd : d = Lib.tabData k zs) (hg : Tryz.prog.globalNamed name = some g) (ht : (Tryz.prog.globals[g]?).map (·.type) = some t)
    (hu : Tryz.prog.underlying t = some (.array n e)) (he : Tryz.prog.underlying e = some (.int k)) (c1 : Tryz.prog.cellsOf e = 1) (c2 : Tryz.prog.cellsOf t = n) : Abs.GlobR (Abs.C0 W) W g (zs.map fun z => .sc (.int k z)) := by
  obtain ⟨g', t', c, fuel, p, k1, k2, k3, k4⟩ := h
  obtain rfl : g' = g := (Option.some.inj (hg.symm.trans k1)).symm
  obtain rfl : t' = t := (Option.some.inj (ht.symm.trans k2)).symm
  rw [hd] at k4
  have hc := Lib.cells_of_tab (e := e) (n := n) hu he c1 c2 k4
  obtain ⟨T, fz, hh⟩ : ∃ T fz, W.heap[g']? = some (.cells c T fz) := by
    have k3 : (Tryz.prog.globalNamed name).bind (fun g => match W.heap[g]? with | some (.cells cs _ _) => some cs | _ => none) = some c := k3
    rw [k1] at k3
    simp only [Option.bind_some] at k3
    split at k3
    · rename_i cs' T fz hh
      simp only [Option.some.injEq] at k3
      subst k3
      exact ⟨T, fz, hh⟩
    · cases k3
  have hsz : c.size = zs.length := by rw [← Array.length_toList, hc, List.length_map]
  refine ⟨?_, (Array.getElem?_eq_some_iff.1 hh).1, fun _ _ => ⟨c, T, fz, hh, by rw [hsz, List.length_map]⟩⟩
  refine .eptr _ 0 g' 0 (fun i => c.getD i Go.undef) (Array.getElem?_eq_some_iff.1 hh).1 (Abs.C0.free W _) ?_ (fun i hi => ?_) (fun i x hx => ?_)
  · simp only [List.length_map, Nat.zero_add]
    show _ ≤ (match W.heap[g']? with | some (.cells c _ _) => c.size | _ => 0)
    rw [hh]
    exact Nat.le_of_eq hsz.symm
  · rw [Abs.cell_block hh, Nat.zero_add]
    have hi' : i < c.size := by rw [hsz]; simpa using hi
    simp [hi']
  · rw [List.getElem?_map] at hx
    obtain ⟨z, hz, rfl⟩ := Option.map_eq_some_iff.1 hx
    have : c.toList[i]? = some (.int k z) := by rw [hc, List.getElem?_map, hz]; rfl
    have hv : c.getD i Go.undef = .int k z := by
      rw [Array.getElem?_toList] at this
      simp [Array.getD_eq_getD_getElem?, this]
    simp only [hv]
    exact .sc _
/-- The library's tables, as the row lays them. -/
theorem glob {W : World} (q0 : Lib.VarReads Tryz.prog W "unicode.properties" Rows.laid_unicode_properties) : ∀ g cs, (envT ts).G g = some cs → Abs.GlobR (Abs.C0 W) W g cs := by
  intro g cs hg
  have hg : tabs g = some cs := hg
  unfold tabs at hg
  cases h0 : Nat.beq g 0 with
  | true =>
    rw [h0] at hg
    have hcs := (Option.some.inj hg).symm
    have e := Nat.eq_of_beq_eq_true h0
    subst e
    subst hcs
    exact tabVR (n := 256) (by kernel_rfl) q0 props_eq (by kernel_rfl) (show (Tryz.prog.globals[0]?).map (·.type) = some 156 by kernel_rfl) (show Tryz.prog.underlying 156 = some (.array 256 5) by kernel_rfl) (show Tryz.prog.underlying 5 = some (.int .u8) by kernel_rfl) (by kernel_rfl) (by kernel_rfl)
  | false =>
    rw [h0] at hg
    cases hg
theorem walk (w : World) (hG : ∀ g cs, (envT ts).G g = some cs → Abs.GlobR (Abs.C0 w) w g cs) : Calls Tryz.prog 3 #[] w fun e w' => e = .returned (.bool true) ∧ Below w.heap.size w w' := by
  obtain ⟨S', h⟩ := Abs.saysTrue_eq run
  exact Abs.run_law (E := envT ts) (okP _) fine.x fine.e fine.f hG (Abs.LR.nil _ _) h
end Go.Proofs.YtfilcgomgnccjaaGreatDoor.slotKnown
