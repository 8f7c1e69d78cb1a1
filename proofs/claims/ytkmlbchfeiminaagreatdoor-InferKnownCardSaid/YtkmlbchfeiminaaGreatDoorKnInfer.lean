/-
  The law InferKnown answers true, whatever the memory and the tape; nothing that was there is turned. No conditions.
-/
import Derived.Test.YtkmlbchfeiminaaGreatDoorTie
import Derived.Test.YtkmlbchfeiminaaGreatDoorCards
import Derived.Test.YtkmlbchfeiminaaGreatDoorKnInfF
import Derived.Test.YtkmlbchfeiminaaGreatDoorKnMa1
import Derived.Test.YtkmlbchfeiminaaGreatDoorKnMa2
import Derived.Test.YtkmlbchfeiminaaGreatDoorKnM1
import Derived.Test.YtkmlbchfeiminaaGreatDoorKnM2
import Derived.Test.YtkmlbchfeiminaaGreatDoorKnM3
import Derived.Test.YtkmlbchfeiminaaGreatDoorKnM4
import Derived.Test.YtkmlbchfeiminaaGreatDoorKnM5
import Derived.Test.YtkmlbchfeiminaaGreatDoorKnM6
import Derived.Test.YtkmlbchfeiminaaGreatDoorKnM7
import Derived.Test.YtkmlbchfeiminaaGreatDoorKnM8
import Derived.Test.YtkmlbchfeiminaaGreatDoorKnM9
import Derived.Test.YtkmlbchfeiminaaGreatDoorKnM10
import Derived.Test.YtkmlbchfeiminaaGreatDoorKnM11
import Derived.Test.YtkmlbchfeiminaaGreatDoorKnM12
import Derived.ProofKit
import Derived.OpenShut
import Derived.ChangeOld
import Derived.LaidMore
import Derived.LaidOnce
import Derived.Lay
import Derived.Lib.LaidU8
import Derived.SevenTiedAt
set_option linter.unusedSimpArgs false
set_option linter.unusedVariables false
namespace Go.Proofs.YtkmlbchfeiminaaGreatDoor.inferKnown
open Go.ChangeShapes Go.WideShapes Go.ChangeAt Go.RowKit

theorem own : ownKnob Tryz.prog.godebug = none := by kernel_rfl
/-- The numbers of a table. -/
def tabOf : DataW Unit → List Int
  | .agg ds => ds.map fun d => match d with | .lit (.int _ z) => z | _ => 0
  | _ => []
theorem props_eq : (Rows.laid_unicode_properties : DataW Unit) = Lib.tabData .u8 props := by kernel_rfl

theorem body5 : Tryz.f5.body.isNone = false := by kernel_rfl
/-- What 'main' answers of the law's texts. -/
def tab : List (ByteArray × Value) := [(txta1, .string ⟨#[69, 53]⟩), (txta2, .string ⟨#[40, 39, 97, 32, 45, 62, 32, 39, 97, 41]⟩), (txt1, .string ⟨#[40, 40, 39, 97, 32, 45, 62, 32, 39, 97, 41, 32, 45, 62, 32, 40, 39, 97, 32, 45, 62, 32, 39, 97, 41, 41]⟩), (txt2, .string ⟨#[40, 105, 110, 116, 32, 45, 62, 32, 105, 110, 116, 41]⟩), (txt3, .string ⟨#[40, 40, 105, 110, 116, 32, 45, 62, 32, 105, 110, 116, 41, 32, 114, 101, 102, 41]⟩), (txt4, .string ⟨#[105, 110, 116]⟩), (txt5, .string ⟨#[40, 108, 32, 45, 62, 32, 105, 110, 116, 41]⟩), (txt6, .string ⟨#[69, 53]⟩), (txt7, .string ⟨#[69, 54]⟩), (txt8, .string ⟨#[105, 110, 116]⟩), (txt9, .string ⟨#[39, 97]⟩), (txt10, .string ⟨#[40, 39, 97, 32, 45, 62, 32, 39, 97, 41]⟩), (txt11, .string ⟨#[117, 110, 105, 116]⟩), (txt12, .string ⟨#[69, 53]⟩)]
theorem tab_told : ∀ b v, (b, v) ∈ tab → Told b v := by
  intro b v h
  unfold tab at h
  simp only [List.mem_cons, List.mem_nil_iff, or_false, Prod.mk.injEq] at h
  rcases h with ⟨rfl, rfl⟩ | ⟨rfl, rfl⟩ | ⟨rfl, rfl⟩ | ⟨rfl, rfl⟩ | ⟨rfl, rfl⟩ | ⟨rfl, rfl⟩ | ⟨rfl, rfl⟩ | ⟨rfl, rfl⟩ | ⟨rfl, rfl⟩ | ⟨rfl, rfl⟩ | ⟨rfl, rfl⟩ | ⟨rfl, rfl⟩ | ⟨rfl, rfl⟩ | ⟨rfl, rfl⟩
  · exact told fine0 maina1
  · exact told fine0 maina2
  · exact told fine0 main1
  · exact told (fineL fine0 5 Tryz.func5 body5 made2) main2
  · exact told (fineL fine0 5 Tryz.func5 body5 made3) main3
  · exact told fine0 main4
  · exact told (fineL fine0 5 Tryz.func5 body5 made5) main5
  · exact told fine0 main6
  · exact told fine0 main7
  · exact told fine0 main8
  · exact told fine0 main9
  · exact told fine0 main10
  · exact told fine0 main11
  · exact told fine0 main12
theorem body7 : Tryz.f7.body.isNone = false := by kernel_rfl
noncomputable def env : Abs.Env := envX fun g => bif Nat.beq g 7 then some (Abs.memoT tab) else none
theorem fine : Fine env := fineT tab_told Tryz.func7 body7
theorem runK : Abs.saysTrue (Abs.evFK env 300 60 3 [] Abs.S0) = true := by kernel_rfl
theorem run : Abs.saysTrue (Abs.evF env 300 60 3 [] Abs.S0) = true := Abs.saysTrueK runK

/-- The library's table, as the row lays it. -/
theorem glob {W : World} (h : Lib.VarReads Tryz.prog W "unicode.properties" Rows.laid_unicode_properties) : ∀ g cs, env.G g = some cs → Abs.VR (Abs.C0 W) W (.eptr cs 0) (.pointer (some ⟨g, 0, none⟩)) := by
  intro g cs hg
  have hg : (bif Nat.beq g 0 then some (props.map fun z => Abs.AV.sc (.int .u8 z)) else none) = some cs := hg
  cases h1 : Nat.beq g 0 with
  | false => rw [h1] at hg; cases hg
  | true =>
    rw [h1] at hg
    have hcs := (Option.some.inj hg).symm
    have e := Nat.eq_of_beq_eq_true h1
    subst e
    subst hcs
    obtain ⟨g', t, c, fuel, p, k1, k2, k3, k4⟩ := h
    obtain rfl : g' = 0 := (Option.some.inj ((show Tryz.prog.globalNamed "unicode.properties" = some 0 by kernel_rfl).symm.trans k1)).symm
    obtain rfl : t = 171 := (Option.some.inj ((show (Tryz.prog.globals[0]?).map (·.type) = some 171 by kernel_rfl).symm.trans k2)).symm
    rw [props_eq] at k4
    have hc := Lib.cells_of_tab (e := 5) (n := 256) (show Tryz.prog.underlying 171 = some (.array 256 5) by kernel_rfl) (show Tryz.prog.underlying 5 = some (.int .u8) by kernel_rfl) (by kernel_rfl) (by kernel_rfl) k4
    obtain ⟨T, fz, hh⟩ : ∃ T fz, W.heap[0]? = some (.cells c T fz) := by
      have k3 : (Tryz.prog.globalNamed "unicode.properties").bind (fun g => match W.heap[g]? with | some (.cells cs _ _) => some cs | _ => none) = some c := k3
      rw [k1] at k3
      simp only [Option.bind_some] at k3
      split at k3
      · rename_i cs' T fz hh
        simp only [Option.some.injEq] at k3
        subst k3
        exact ⟨T, fz, hh⟩
      · cases k3
    have hsz : c.size = props.length := by rw [← Array.length_toList, hc, List.length_map]
    refine .eptr _ 0 0 0 (fun i => c.getD i Go.undef) (Array.getElem?_eq_some_iff.1 hh).1 (Abs.C0.free W _) ?_ (fun i hi => ?_) (fun i x hx => ?_)
    · simp only [List.length_map, Nat.zero_add]
      show _ ≤ (match W.heap[0]? with | some (.cells c _ _) => c.size | _ => 0)
      rw [hh]
      exact Nat.le_of_eq hsz.symm
    · rw [Abs.cell_block hh, Nat.zero_add]
      have hi' : i < c.size := by rw [hsz]; simpa using hi
      simp [hi']
    · rw [List.getElem?_map] at hx
      obtain ⟨z, hz, rfl⟩ := Option.map_eq_some_iff.1 hx
      have : c.toList[i]? = some (.int .u8 z) := by rw [hc, List.getElem?_map, hz]; rfl
      have hv : c.getD i Go.undef = .int .u8 z := by
        rw [Array.getElem?_toList] at this
        simp [Array.getD_eq_getD_getElem?, this]
      simp only [hv]
      exact .sc _

theorem walk (w : World) (hG : ∀ g cs, env.G g = some cs → Abs.VR (Abs.C0 w) w (.eptr cs 0) (.pointer (some ⟨g, 0, none⟩))) : Calls Tryz.prog 3 #[] w fun e w' => e = .returned (.bool true) ∧ Below w.heap.size w w' := by
  obtain ⟨S', h⟩ := Abs.saysTrue_eq run
  exact Abs.run_law (E := env) (okP _) fine.x fine.e fine.f hG (Abs.LR.nil _ _) h

noncomputable def laid : List (String × DataW Unit) := [("math/bits.deBruijn32tab", Rows.laid_math_bits_deBruijn32tab), ("math/bits.deBruijn64tab", Rows.laid_math_bits_deBruijn64tab), ("internal/strconv.uint64pow10", Rows.laid_internal_strconv_uint64pow10), ("unicode/utf8.acceptRanges", Rows.laid_unicode_utf8_acceptRanges), ("unicode.properties", Rows.laid_unicode_properties), ("unicode.Letter", Rows.laid_unicode_Letter), ("unicode.Upper", Rows.laid_unicode_Upper), ("unicode/utf8.first", Rows.laid_unicode_utf8_first)]
set_option maxRecDepth 100000 in
theorem lifted (os : Os) (started : os.Started) (H : Type) (enc : TypeId × Value → H) :
    ReturnsInHanded {} Tryz.checked os 3 .any (fun w args => (Rows.inferKnownSpec.pre enc Tryz.prog Tryz.f3 [] false w args ∧ laidMetH Tryz.prog laid w) ∧ sizedMet enc Tryz.prog Tryz.f3 (OpenSpec.ofChange Rows.inferKnownSpec) false w args)
      (Rows.inferKnownSpec.post enc Tryz.prog Tryz.f3 false true false false) := by
  refine returnsInHanded_of_change_and (C := Tryz.checked) (X := fun w _ => laidMetH Tryz.prog laid w) (fun _ _ _ hh h => h.of_heap hh) own started (by kernel_rfl) Tryz.func3
    (ChangeSpec.witness_shaped (enc := enc) (C := Tryz.checked) (os := os) (X := fun w _ => laidMetH Tryz.prog laid w) false (World.laidAll Tryz.prog os laid) #[] 8 (World.laidAll_os _ _ _)
      (World.shaped_of_ZipB (by kernel_rfl) (by kernel_rfl)) (by kernel_rfl) (by kernel_rfl) (by kernel_rfl)
      (by rw [MakeChecks.laidMetH_plain _ _ _ (by kernel_rfl)]; exact laidMet_laidAll _ (by kernel_rfl) (by kernel_rfl))) ?_
  intro W base args ds gs before hval0 hW _ _ hL _
  have hW' := hW
  obtain ⟨p, q, hA0, hV, rfl, _, _⟩ := hW
  have hA : DataW.TrodAll enc Tryz.prog W 0 (fun _ => true) true Tryz.f3.params.toList args.toList ds p := hA0
  rw [Tryz.params3] at hA
  obtain ⟨rfl, rfl, rfl⟩ := trodAll_none hA
  obtain ⟨rfl, rfl⟩ := trodVars_none hV
  clear hA0 hval0
  rw [MakeChecks.laidMetH_plain _ _ _ (by kernel_rfl)] at hL
  have hR : Lib.VarReads Tryz.prog W "unicode.properties" Rows.laid_unicode_properties := Lib.laidMet.reads hL (by simp [laid])
  refine (walk W (glob hR)).mono fun e W' ⟨he, bel⟩ => ?_
  subst he
  exact ⟨_, rfl, _, _, _, [], _, [], hW', trodAll_mk1 (shut_bool Tryz.underlying4 _), trodAll_mk0, rfl, bel.frame _, fun h => by cases h⟩
theorem over : Rows.InferKnownSaid :=
  OpenClaim.holds_of_wide 3 Tryz.f3 rfl rfl rfl rfl rfl rfl rfl ⟨rfl, rfl, rfl, rfl, rfl⟩ rfl rfl rfl rfl rfl (by kernel_rfl) Tryz.func3 (by kernel_rfl)
    (of_decide_eq_true (by kernel_rfl)) (by unfold Func.isWrapper; first | (rw [if_pos (by decide +kernel)]; kernel_rfl) | (rw [if_neg (by decide +kernel)]; exact ⟨rfl, rfl⟩))
    (fun os started H enc _ => lifted os started H enc)
/-- The statement. -/
theorem proved : Rows.InferKnownCardSaid :=
  Claim7.holds_tied_plain_at .later [] [.data, .data, .data, .data, .data, .pinned, .pinned, .pinned] true (true, "c11245d2744b4fcd0ce7aa29ab179566827e5951103895216ac4c734bdb3cd6e") false
    over (fun _ h => by cases h) (by kernel_rfl) (fun _ h => by cases h) inferKnown_row_tie rfl ⟨rfl, rfl⟩ (by kernel_rfl) rfl
    (fun f fn hf hfn => by
      obtain rfl : f = 3 := Option.some.inj ((show Tryz.prog.funcNamed "hindsight/hindsightlaw7.InferKnown" = some 3 by kernel_rfl).symm.trans hf) |>.symm
      obtain rfl : fn = Tryz.f3 := (Option.some.inj (Tryz.func3.symm.trans hfn)).symm
      exact ⟨by kernel_rfl, fun j t ht => by
        rw [Tryz.params3] at ht
        simp at ht⟩)
    (by kernel_rfl)
#print axioms proved
end Go.Proofs.YtkmlbchfeiminaaGreatDoor.inferKnown
