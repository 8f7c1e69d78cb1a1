/-
  The library's tables of this seat, out of the readings: what the evaluator wants of them.
-/
import Derived.Test.YtmmnkemcplgebaaGreatDoorFL
import Derived.Lib.LaidRTab
import Derived.Lib.LaidU8
section
set_option linter.unusedSimpArgs false
set_option linter.unusedVariables false
set_option maxRecDepth 100000
namespace Go.Proofs.YtmmnkemcplgebaaGreatDoor
open Go.Abs Go.Lib Go.ChangeShapes Go.WideShapes Go.RowKit
/-- As the kit's 'rvar_of_reads', with both capacities. -/
theorem rvar2_of {P : Program} {ρ : Go.Shelf.Ren} (L : Go.Proofs.Lays.n261 P ρ) (X : Go.Proofs.RExtra P ρ) {name : String} {g : Nat} (hn : P.globalNamed name = some g) (hy : (P.globals[g]?).map (·.type) = some (ρ.t 141)) {T : RTab} (n16 : 0 < T.r16.size) (n32 : 0 < T.r32.size) {w : World} (h : VarReads P w name (rtabData T)) : RVar2 g T w := by
  obtain ⟨g', t, cs, fuel, p, hg, hty, hvar, hd⟩ := h
  obtain rfl := Option.some.inj (hn.symm.trans hg)
  obtain rfl := Option.some.inj (hy.symm.trans hty)
  rcases DataW.trod_pointer L.t141 hd with ⟨_, hx⟩ | ⟨a, cs', y, n, rfl, hcs, hx, hcells, hy'⟩
  · cases hx
  have hy1 : y.1 = .agg [rgSlice .u16 T.r16, rgSlice .u32 T.r32, .lit (.int .i64 T.off)] := by
    have := congrArg Prod.fst hx
    simpa [rtabData] using this.symm
  rw [X.c196] at hcells
  obtain ⟨_, hl', hc'⟩ := World.cells?_some hcells
  obtain ⟨xs, n', rfl, hxs, _, hxl, hall⟩ := DataW.trod_struct L.t196 hy'
  have hx3 : xs.map (·.1) = [rgSlice .u16 T.r16, rgSlice .u32 T.r32, .lit (.int .i64 T.off)] := by
    rw [hxs] at hy1
    simpa using hy1
  obtain ⟨x0, x1, x2, rfl⟩ : ∃ x0 x1 x2, xs = [x0, x1, x2] := by
    match xs, hx3 with
    | [x0, x1, x2], _ => exact ⟨x0, x1, x2, rfl⟩
  simp only [List.map_cons, List.map_nil, List.cons.injEq, and_true] at hx3
  obtain ⟨e0, e1, e2⟩ := hx3
  have f0 := hall 0 _ rfl
  have f1 := hall 1 _ rfl
  have f2 := hall 2 _ rfl
  change DataW.trod _ _ _ _ _ _ _ (ρ.t 193) ((cs'.drop 0).take (P.cellsOf (ρ.t 193))) = some x0 at f0
  change DataW.trod _ _ _ _ _ _ _ (ρ.t 194) ((cs'.drop 1).take (P.cellsOf (ρ.t 194))) = some x1 at f1
  change DataW.trod _ _ _ _ _ _ _ (ρ.t 3) ((cs'.drop 2).take (P.cellsOf (ρ.t 3))) = some x2 at f2
  rw [X.c193] at f0
  rw [X.c194] at f1
  rw [X.c3] at f2
  obtain ⟨a16, R16, o16, c16, q16, ha16, t16, hc16⟩ := Go.Proofs.rgTab_of_trod_u16 L X f0 e0
  obtain ⟨a32, R32, o32, c32, q32, ha32, t32, hc32⟩ := Go.Proofs.rgTab_of_trod_u32 L X f1 e1
  have q2 : (cs'.drop 2).take 1 = [.int .i64 T.off] := by
    obtain ⟨z, hz, hx', _⟩ := DataW.trod_int L.t3 f2
    rw [hx'] at e2
    cases e2
    exact hz
  have atk : ∀ {k : Nat} {v : Value}, (cs'.drop k).take 1 = [v] → cs'[k]? = some v := fun {k v} hh => by
    have := congrArg (·[0]?) hh
    simpa [List.getElem?_take, List.getElem?_drop] using this
  obtain ⟨Tb, oT, sT⟩ := a
  have k0 := (hc' 0 (by omega)).trans (atk q16)
  obtain rfl : sT = none := by
    have : (Addr.add ⟨Tb, oT, sT⟩ 0) = ⟨Tb, oT, sT⟩ := by simp [Addr.add]
    rw [this] at k0
    exact World.cell?_spot k0
  have k1 := (hc' 1 (by omega)).trans (atk q32)
  have k2 := (hc' 2 (by omega)).trans (atk q2)
  rw [add_plain] at k0 k1 k2
  rw [ha16 n16] at k0
  rw [ha32 n32] at k1
  refine ⟨Tb, oT, R16, o16, c16, R32, o32, c32, ?_, by simpa using k0, k1, k2, t16, t32, hc16, hc32⟩
  rw [World.var?_cell hg hvar 0, ← Array.getElem?_toList, hcs]
  rfl
theorem rX : Go.Proofs.RExtra Tryz.prog exclLays_ren := ⟨by kernel_rfl, by kernel_rfl, by kernel_rfl, by kernel_rfl, by kernel_rfl, by kernel_rfl, by kernel_rfl, by kernel_rfl⟩
theorem uX : Go.Proofs.U8Extra Tryz.prog decLays_ren := ⟨by kernel_rfl, by kernel_rfl, by kernel_rfl, by kernel_rfl, by kernel_rfl, by kernel_rfl, by kernel_rfl⟩
theorem letter_eq : Rows.laid_unicode_Letter = rtabData letterT := by kernel_rfl
theorem upper_eq : Rows.laid_unicode_Upper = rtabData upperT := by kernel_rfl
theorem first_eq : Rows.laid_unicode_utf8_first = firstData := by kernel_rfl
theorem accept_eq : (Rows.laid_unicode_utf8_acceptRanges : DataW Unit) = acceptData := by kernel_rfl
theorem props_eq : (Rows.laid_unicode_properties : DataW Unit) = tabData .u8 propertiesTab := by kernel_rfl
theorem utf8_reads {w : World} (h3 : VarReads Tryz.prog w "unicode/utf8.first" Rows.laid_unicode_utf8_first) (h4 : VarReads Tryz.prog w "unicode/utf8.acceptRanges" Rows.laid_unicode_utf8_acceptRanges) : Utf8Tabs 5 6 w := by
  rw [first_eq] at h3
  rw [accept_eq] at h4
  exact Go.Proofs.utf8Tabs_of_reads { decLays with } uX h3 h4
theorem firstVR {w : World} (h : Utf8Tabs 5 6 w) : VR (C0 w) w (.eptr (firstV.map .sc) 0) (.pointer (some ⟨5, 0, none⟩)) := by
  refine of_cells firstV (by simp [firstV]) fun i z hz => ?_
  have hi : i < 256 := by
    have := (List.getElem?_eq_some_iff.1 hz).1
    simpa [firstV] using this
  simp only [firstV, List.getElem?_map, List.getElem?_range hi, Option.map_some, Option.some.injEq] at hz
  rw [← hz]
  exact h.1 i hi
theorem acceptVR {w : World} (h : Utf8Tabs 5 6 w) : VR (C0 w) w (.eptr (acceptV.map .sc) 0) (.pointer (some ⟨6, 0, none⟩)) := by
  refine of_cells acceptV (by simp [acceptV]) fun i z hz => ?_
  have hi : i < 32 := by
    have := (List.getElem?_eq_some_iff.1 hz).1
    simpa [acceptV] using this
  simp only [acceptV, List.getElem?_map, List.getElem?_range hi, Option.map_some, Option.some.injEq] at hz
  rw [← hz]
  obtain ⟨k1, k2⟩ := h.2 (i / 2) (by omega)
  rcases Nat.mod_two_eq_zero_or_one i with e | e
  · have : 2 * (i / 2) = i := by omega
    rw [this] at k1
    rw [k1, e]; rfl
  · have : 2 * (i / 2) + 1 = i := by omega
    rw [this] at k2
    rw [k2, e]; rfl
theorem tabVR {W : World} {name : String} {d : DataW Unit} {g t e : Nat} {k : IntKind} {zs : List Int} {n : Nat} (h0 : zs ≠ []) (h : VarReads Tryz.prog W name d) (hd : d = tabData k zs) (hg : Tryz.prog.globalNamed name = some g) (ht : (Tryz.prog.globals[g]?).map (·.type) = some t)
    (hu : Tryz.prog.underlying t = some (.array n e)) (he : Tryz.prog.underlying e = some (.int k)) (c1 : Tryz.prog.cellsOf e = 1) (c2 : Tryz.prog.cellsOf t = n) : VR (C0 W) W (.eptr (zs.map fun z => .sc (.int k z)) 0) (.pointer (some ⟨g, 0, none⟩)) := by
  obtain ⟨g', t', c, fuel, p, k1, k2, k3, k4⟩ := h
  obtain rfl : g' = g := (Option.some.inj (hg.symm.trans k1)).symm
  obtain rfl : t' = t := (Option.some.inj (ht.symm.trans k2)).symm
  rw [hd] at k4
  have hc := Lib.cells_of_tab (e := e) (n := n) hu he c1 c2 k4
  have := of_cells (w := W) (g := g') (zs.map fun z => Value.int k z) (by simpa using h0) (fun i z hz => by
    rw [World.var?_cell k1 k3 i, ← Array.getElem?_toList, hc]
    exact hz)
  rw [List.map_map] at this
  exact this
/-- The tables are there. -/
theorem tabs_ok {W : World} (h1 : VarReads Tryz.prog W "unicode.properties" Rows.laid_unicode_properties) (h2 : VarReads Tryz.prog W "unicode.Letter" Rows.laid_unicode_Letter) (h3 : VarReads Tryz.prog W "unicode.Upper" Rows.laid_unicode_Upper)
    (h4 : VarReads Tryz.prog W "unicode/utf8.first" Rows.laid_unicode_utf8_first) (h5 : VarReads Tryz.prog W "unicode/utf8.acceptRanges" Rows.laid_unicode_utf8_acceptRanges) : ∀ g cs, tabs g = some cs → VR (C0 W) W (.eptr cs 0) (.pointer (some ⟨g, 0, none⟩)) := by
  intro g cs hg
  have hu := utf8_reads h4 h5
  unfold tabs at hg
  simp only [cond_eq_ite] at hg
  split at hg
  · rename_i hb
    obtain rfl := Nat.eq_of_beq_eq_true hb
    obtain rfl := Option.some.inj hg
    have : propsV.map AV.sc = propertiesTab.map fun z => AV.sc (.int .u8 z) := by unfold propsV; rw [List.map_map]; rfl
    rw [this]
    exact tabVR (n := 256) (t := 174) (e := 5) (by decide) h1 props_eq (by kernel_rfl) (by kernel_rfl) (by kernel_rfl) (by kernel_rfl) (by kernel_rfl) (by kernel_rfl)
  split at hg
  · rename_i hb
    obtain rfl := Nat.eq_of_beq_eq_true hb
    obtain rfl := Option.some.inj hg
    rw [letter_eq] at h2
    exact of_rvar (of_decide_eq_true (by kernel_rfl)) (of_decide_eq_true (by kernel_rfl)) (rvar2_of exclLays rX (by kernel_rfl) (by kernel_rfl) (of_decide_eq_true (by kernel_rfl)) (of_decide_eq_true (by kernel_rfl)) h2)
  split at hg
  · rename_i hb
    obtain rfl := Nat.eq_of_beq_eq_true hb
    obtain rfl := Option.some.inj hg
    rw [upper_eq] at h3
    exact of_rvar (of_decide_eq_true (by kernel_rfl)) (of_decide_eq_true (by kernel_rfl)) (rvar2_of exclLays rX (by kernel_rfl) (by kernel_rfl) (of_decide_eq_true (by kernel_rfl)) (of_decide_eq_true (by kernel_rfl)) h3)
  split at hg
  · rename_i hb
    obtain rfl := Nat.eq_of_beq_eq_true hb
    obtain rfl := Option.some.inj hg
    exact firstVR hu
  split at hg
  · rename_i hb
    obtain rfl := Nat.eq_of_beq_eq_true hb
    obtain rfl := Option.some.inj hg
    exact acceptVR hu
  cases hg
end Go.Proofs.YtmmnkemcplgebaaGreatDoor
end
