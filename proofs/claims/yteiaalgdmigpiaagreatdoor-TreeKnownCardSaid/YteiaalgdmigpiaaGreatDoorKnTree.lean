/-
  The law TreeKnown answers true, whatever the memory and the tape; nothing that was there is turned. No conditions.
-/
import Derived.Test.YteiaalgdmigpiaaGreatDoorTie
import Derived.Test.YteiaalgdmigpiaaGreatDoorCards
import Derived.Test.YteiaalgdmigpiaaGreatDoorAbs28
import Derived.Test.YteiaalgdmigpiaaGreatDoorJoinT
import Derived.Test.YteiaalgdmigpiaaGreatDoorSortT
import Derived.ProofKit
import Derived.OpenShut
import Derived.ChangeOld
import Derived.LaidMore
import Derived.LaidOnce
import Derived.Lay
import Derived.Lib.LaidU8
import Derived.SevenTiedAt
set_option linter.unusedSimpArgs false
set_option linter.unusedVariables false
namespace Go.Proofs.YteiaalgdmigpiaaGreatDoor.treeKnown
open Go.ChangeShapes Go.WideShapes Go.ChangeAt Go.RowKit

theorem own : ownKnob Tryz.prog.godebug = none := by kernel_rfl
theorem names : Tryz.prog.funcs.toList.all (fun x => x.name != "runtime.NumGoroutine") = true := by kernel_rfl
theorem mixed : Tryz.prog.follows .mixedOrders = true := by kernel_rfl
theorem ent100 (x : Value) (w : World) : (callFunc 100 #[x]).run Tryz.prog w = .ok (.value x) w := by kernel_rfl
theorem ty9 : Tryz.prog.underlying 9 = some .string := by kernel_rfl

/-- The numbers of a table. -/
def tabOf : DataW Unit → List Int
  | .agg ds => ds.map fun d => match d with | .lit (.int _ z) => z | _ => 0
  | _ => []
def props : List Int := tabOf Rows.laid_unicode_properties
theorem props_eq : (Rows.laid_unicode_properties : DataW Unit) = Lib.tabData .u8 props := by kernel_rfl

noncomputable def envX (X : FuncId → Option (List Abs.AV → Abs.St → Option (Abs.AV × Abs.St))) : Abs.Env := { P := Tryz.prog, G := fun g => bif Nat.beq g 0 then some (props.map fun z => .sc (.int .u8 z)) else none, fn := fun f => Tryz.prog.funcs[f]?, und := Tryz.prog.underlying, inf := Tryz.prog.info?, hp := fun t _ => Nat.beq t 23 || Nat.beq t 48, meth := fun _ _ => none, ext := Abs.extOf [] [100], X := X }
/-- The library's contracts. -/
noncomputable def xLib (f : FuncId) : Option (List Abs.AV → Abs.St → Option (Abs.AV × Abs.St)) := bif Nat.beq f 45 then some (Abs.sortedX 80) else bif Nat.beq f 73 then some Abs.joinX else none
noncomputable def env0 : Abs.Env := envX xLib
/-- The law's first part, by itself. -/
theorem run0 : Abs.saysTrue (Abs.evF env0 200 60 13 [] Abs.S0) = true := by kernel_rfl
noncomputable def env : Abs.Env := envX fun f => bif Nat.beq f 13 then some (Abs.memoX (.bool true)) else xLib f
theorem run : Abs.saysTrue (Abs.evF env 200 60 4 [] Abs.S0) = true := by kernel_rfl

theorem okP (X : FuncId → Option (List Abs.AV → Abs.St → Option (Abs.AV × Abs.St))) : (envX X).Ok := by
  have ok := Abs.plainEnv_ok (P := Tryz.prog) (hp := (envX X).hp) (meth := fun _ _ => none) (ext := Abs.extOf [] [100]) names mixed (fun _ _ _ h => nomatch h) (Abs.extOf_ok (fun g hg => nomatch hg) (fun g hg => by have := List.mem_singleton.1 hg; subst this; exact ent100))
  exact ⟨ok.fn, ok.und, ok.inf, ok.mixed, ok.meth, ok.ext⟩
theorem x_cases {f : FuncId} {g : List Abs.AV → Abs.St → Option (Abs.AV × Abs.St)} (h : xLib f = some g) : (f = 45 ∧ g = Abs.sortedX 80) ∨ (f = 73 ∧ g = Abs.joinX) := by
  unfold xLib at h
  cases h1 : Nat.beq f 45 with
  | true =>
    rw [h1] at h
    exact .inl ⟨Nat.eq_of_beq_eq_true h1, (Option.some.inj h).symm⟩
  | false =>
    rw [h1] at h
    cases h2 : Nat.beq f 73 with
    | true =>
      rw [h2] at h
      exact .inr ⟨Nat.eq_of_beq_eq_true h2, (Option.some.inj h).symm⟩
    | false => rw [h2] at h; cases h
theorem okLib (X : FuncId → Option (List Abs.AV → Abs.St → Option (Abs.AV × Abs.St))) {f : FuncId} {g : List Abs.AV → Abs.St → Option (Abs.AV × Abs.St)} {fn : Func} (h : xLib f = some g) (hfn : Tryz.prog.funcs[f]? = some fn) : fn.body.isNone = false ∧ ∀ args S r S', g args S = some (r, S') → ∀ C w (vs : Array Value), Abs.WR (envX X) C S w → Abs.LR C w args vs.toList →
    Calls Tryz.prog f vs w (fun e w' => ∃ u C', e = .returned u ∧ Abs.WR (envX X) C' S' w' ∧ Abs.Ext C w C' w' ∧ Abs.VR C' w' r u) := by
  rcases x_cases h with ⟨rfl, rfl⟩ | ⟨rfl, rfl⟩
  · obtain rfl : fn = Tryz.f45 := (Option.some.inj (Tryz.func45.symm.trans hfn)).symm
    exact ⟨by kernel_rfl, fun args S r S' hx C w vs hw hl => Abs.sortedX_ok (E := envX X) ty9 sortedC hx hw hl⟩
  · obtain rfl : fn = Tryz.f73 := (Option.some.inj (Tryz.func73.symm.trans hfn)).symm
    exact ⟨by kernel_rfl, fun args S r S' hx C w vs hw hl => Abs.joinX_ok (E := envX X) joinC hx hw hl⟩
theorem evoLib {f : FuncId} {g : List Abs.AV → Abs.St → Option (Abs.AV × Abs.St)} (h : xLib f = some g) : ∀ args S r S', g args S = some (r, S') → Abs.Evo S S' := fun args S r S' hx => by
  rcases x_cases h with ⟨rfl, rfl⟩ | ⟨rfl, rfl⟩
  · exact Abs.sortedX_evo hx
  · exact Abs.joinX_evo hx
theorem frmLib {f : FuncId} {g : List Abs.AV → Abs.St → Option (Abs.AV × Abs.St)} (h : xLib f = some g) : ∀ (D : Nat → Prop) A X args r A', Abs.Frm D A X → g args A = some (r, A') → Abs.Does D A X r A' (g args X) := fun D A X args r A' k hx => by
  rcases x_cases h with ⟨rfl, rfl⟩ | ⟨rfl, rfl⟩
  · exact Abs.sortedX_frm k hx
  · exact Abs.joinX_frm k hx
theorem scG : ∀ g cs, env0.G g = some cs → ∀ x ∈ cs, ∃ v, x = .sc v := by
  intro g cs hg x hx
  have hg : (bif Nat.beq g 0 then some (props.map fun z => Abs.AV.sc (.int .u8 z)) else none) = some cs := hg
  cases h1 : Nat.beq g 0 with
  | false => rw [h1] at hg; cases hg
  | true =>
    rw [h1] at hg
    have hcs := (Option.some.inj hg).symm
    subst hcs
    obtain ⟨z, _, rfl⟩ := List.mem_map.1 hx
    exact ⟨_, rfl⟩
theorem x_split {f : FuncId} {g : List Abs.AV → Abs.St → Option (Abs.AV × Abs.St)} (h : env.X f = some g) : (f = 13 ∧ g = Abs.memoX (.bool true)) ∨ xLib f = some g := by
  have h : (bif Nat.beq f 13 then some (Abs.memoX (.bool true)) else xLib f) = some g := h
  cases h1 : Nat.beq f 13 with
  | true =>
    rw [h1] at h
    exact .inl ⟨Nat.eq_of_beq_eq_true h1, (Option.some.inj h).symm⟩
  | false => rw [h1] at h; exact .inr h
theorem ok : env.Ok := okP _
theorem okX0 : Abs.XOk env0 := ⟨fun f g fn h hfn => okLib xLib h hfn⟩
theorem okX : Abs.XOk env := ⟨fun f g fn h hfn => by
  rcases x_split h with ⟨rfl, rfl⟩ | h
  · have hfn : Tryz.prog.funcs[13]? = some fn := hfn
    obtain rfl : fn = Tryz.f13 := (Option.some.inj (Tryz.func13.symm.trans hfn)).symm
    obtain ⟨S1, h1⟩ := Abs.saysTrue_eq run0
    exact ⟨by kernel_rfl, fun args S r S' hx C w vs hw hl => Abs.memo_ok (E := env) (E0 := env0) rfl rfl scG (okP _) okX0 ⟨fun f g h => evoLib h⟩ ⟨fun f g h => frmLib h⟩ h1 hx hw hl⟩
  · exact okLib _ h hfn⟩
theorem noX : Abs.EvoX env := ⟨fun f g h => by
  rcases x_split h with ⟨rfl, rfl⟩ | h
  · exact fun args S r S' hx => Abs.memoX_evo hx
  · exact evoLib h⟩
theorem frmX : Abs.FrmX env := ⟨fun f g h => by
  rcases x_split h with ⟨rfl, rfl⟩ | h
  · exact fun D A X args r A' k hx => Abs.memoX_frm k hx
  · exact frmLib h⟩

/-- The library's table, as the row lays it. -/
theorem glob {W : World} (h : Lib.VarReads Tryz.prog W "unicode.properties" Rows.laid_unicode_properties) : ∀ g cs, env.G g = some cs → Abs.VR (Abs.C0 W) W (.eptr cs 0) (.pointer (some ⟨g, 0, none⟩)) := by
  intro g cs hg
  have hg : (bif Nat.beq g 0 then some (props.map fun z => Abs.AV.sc (.int .u8 z)) else none) = some cs := hg
  cases h1 : Nat.beq g 0 with
  | false => rw [h1] at hg; cases hg
  | true =>
    rw [h1] at hg
    have hcs := (Option.some.inj hg).symm
    have e := Nat.eq_of_beq_eq_true h1
    subst e
    subst hcs
    obtain ⟨g', t, c, fuel, p, k1, k2, k3, k4⟩ := h
    obtain rfl : g' = 0 := (Option.some.inj ((show Tryz.prog.globalNamed "unicode.properties" = some 0 by kernel_rfl).symm.trans k1)).symm
    obtain rfl : t = 202 := (Option.some.inj ((show (Tryz.prog.globals[0]?).map (·.type) = some 202 by kernel_rfl).symm.trans k2)).symm
    rw [props_eq] at k4
    have hc := Lib.cells_of_tab (e := 5) (n := 256) (show Tryz.prog.underlying 202 = some (.array 256 5) by kernel_rfl) (show Tryz.prog.underlying 5 = some (.int .u8) by kernel_rfl) (by kernel_rfl) (by kernel_rfl) k4
    obtain ⟨T, fz, hh⟩ : ∃ T fz, W.heap[0]? = some (.cells c T fz) := by
      have k3 : (Tryz.prog.globalNamed "unicode.properties").bind (fun g => match W.heap[g]? with | some (.cells cs _ _) => some cs | _ => none) = some c := k3
      rw [k1] at k3
      simp only [Option.bind_some] at k3
      split at k3
      · rename_i cs' T fz hh
        simp only [Option.some.injEq] at k3
        subst k3
        exact ⟨T, fz, hh⟩
      · cases k3
    have hsz : c.size = props.length := by rw [← Array.length_toList, hc, List.length_map]
    refine .eptr _ 0 0 0 (fun i => c.getD i Go.undef) (Array.getElem?_eq_some_iff.1 hh).1 (Abs.C0.free W _) ?_ (fun i hi => ?_) (fun i x hx => ?_)
    · simp only [List.length_map, Nat.zero_add]
      show _ ≤ (match W.heap[0]? with | some (.cells c _ _) => c.size | _ => 0)
      rw [hh]
      exact Nat.le_of_eq hsz.symm
    · rw [Abs.cell_block hh, Nat.zero_add]
      have hi' : i < c.size := by rw [hsz]; simpa using hi
      simp [hi']
    · rw [List.getElem?_map] at hx
      obtain ⟨z, hz, rfl⟩ := Option.map_eq_some_iff.1 hx
      have : c.toList[i]? = some (.int .u8 z) := by rw [hc, List.getElem?_map, hz]; rfl
      have hv : c.getD i Go.undef = .int .u8 z := by
        rw [Array.getElem?_toList] at this
        simp [Array.getD_eq_getD_getElem?, this]
      simp only [hv]
      exact .sc _

theorem walk (w : World) (hG : ∀ g cs, env.G g = some cs → Abs.VR (Abs.C0 w) w (.eptr cs 0) (.pointer (some ⟨g, 0, none⟩))) : Calls Tryz.prog 4 #[] w fun e w' => e = .returned (.bool true) ∧ Below w.heap.size w w' := by
  obtain ⟨S', h⟩ := Abs.saysTrue_eq run
  exact Abs.run_law (E := env) ok okX noX frmX hG (Abs.LR.nil _ _) h

noncomputable def laid : List (String × DataW Unit) := [("math/bits.deBruijn32tab", Rows.laid_math_bits_deBruijn32tab), ("math/bits.deBruijn64tab", Rows.laid_math_bits_deBruijn64tab), ("internal/strconv.uint64pow10", Rows.laid_internal_strconv_uint64pow10), ("unicode/utf8.acceptRanges", Rows.laid_unicode_utf8_acceptRanges), ("unicode.properties", Rows.laid_unicode_properties), ("unicode.Letter", Rows.laid_unicode_Letter), ("unicode.Upper", Rows.laid_unicode_Upper), ("unicode/utf8.first", Rows.laid_unicode_utf8_first)]
set_option maxRecDepth 100000 in
theorem lifted (os : Os) (started : os.Started) (H : Type) (enc : TypeId × Value → H) :
    ReturnsInHanded {} Tryz.checked os 4 .any (fun w args => (Rows.treeKnownSpec.pre enc Tryz.prog Tryz.f4 [] false w args ∧ laidMetH Tryz.prog laid w) ∧ sizedMet enc Tryz.prog Tryz.f4 (OpenSpec.ofChange Rows.treeKnownSpec) false w args)
      (Rows.treeKnownSpec.post enc Tryz.prog Tryz.f4 false true false false) := by
  refine returnsInHanded_of_change_and (C := Tryz.checked) (X := fun w _ => laidMetH Tryz.prog laid w) (fun _ _ _ hh h => h.of_heap hh) own started (by kernel_rfl) Tryz.func4
    (ChangeSpec.witness_shaped (enc := enc) (C := Tryz.checked) (os := os) (X := fun w _ => laidMetH Tryz.prog laid w) false (World.laidAll Tryz.prog os laid) #[] 8 (World.laidAll_os _ _ _)
      (World.shaped_of_ZipB (by kernel_rfl) (by kernel_rfl)) (by kernel_rfl) (by kernel_rfl) (by kernel_rfl)
      (by rw [MakeChecks.laidMetH_plain _ _ _ (by kernel_rfl)]; exact laidMet_laidAll _ (by kernel_rfl) (by kernel_rfl))) ?_
  intro W base args ds gs before hval0 hW _ _ hL _
  have hW' := hW
  obtain ⟨p, q, hA0, hV, rfl, _, _⟩ := hW
  have hA : DataW.TrodAll enc Tryz.prog W 0 (fun _ => true) true Tryz.f4.params.toList args.toList ds p := hA0
  rw [Tryz.params4] at hA
  obtain ⟨rfl, rfl, rfl⟩ := trodAll_none hA
  obtain ⟨rfl, rfl⟩ := trodVars_none hV
  clear hA0 hval0
  rw [MakeChecks.laidMetH_plain _ _ _ (by kernel_rfl)] at hL
  have hR : Lib.VarReads Tryz.prog W "unicode.properties" Rows.laid_unicode_properties := Lib.laidMet.reads hL (by simp [laid])
  refine (walk W (glob hR)).mono fun e W' ⟨he, bel⟩ => ?_
  subst he
  exact ⟨_, rfl, _, _, _, [], _, [], hW', trodAll_mk1 (shut_bool Tryz.underlying4 _), trodAll_mk0, rfl, bel.frame _, fun h => by cases h⟩
theorem over : Rows.TreeKnownSaid :=
  OpenClaim.holds_of_wide 4 Tryz.f4 rfl rfl rfl rfl rfl rfl rfl ⟨rfl, rfl, rfl, rfl, rfl⟩ rfl rfl rfl rfl rfl (by kernel_rfl) Tryz.func4 (by kernel_rfl)
    (of_decide_eq_true (by kernel_rfl)) (by unfold Func.isWrapper; first | (rw [if_pos (by decide +kernel)]; kernel_rfl) | (rw [if_neg (by decide +kernel)]; exact ⟨rfl, rfl⟩))
    (fun os started H enc _ => lifted os started H enc)
/-- The statement. -/
theorem proved : Rows.TreeKnownCardSaid :=
  Claim7.holds_tied_plain_at .later [] [.data, .data, .data, .data, .data, .pinned, .pinned, .pinned] true (true, "c63e864a3845fc14fc56a25b5a356006397714fe317c81ca0fa1abe4497d4463") false
    over (fun _ h => by cases h) (by kernel_rfl) (fun _ h => by cases h) treeKnown_row_tie rfl ⟨rfl, rfl⟩ (by kernel_rfl) rfl
    (fun f fn hf hfn => by
      obtain rfl : f = 4 := Option.some.inj ((show Tryz.prog.funcNamed "hindsight/hindsightlaw3.TreeKnown" = some 4 by kernel_rfl).symm.trans hf) |>.symm
      obtain rfl : fn = Tryz.f4 := (Option.some.inj (Tryz.func4.symm.trans hfn)).symm
      exact ⟨by kernel_rfl, fun j t ht => by
        rw [Tryz.params4] at ht
        simp at ht⟩)
    (by kernel_rfl)
#print axioms proved
end Go.Proofs.YteiaalgdmigpiaaGreatDoor.treeKnown
