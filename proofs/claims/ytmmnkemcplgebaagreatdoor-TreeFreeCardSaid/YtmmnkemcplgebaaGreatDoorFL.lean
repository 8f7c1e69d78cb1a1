/-
  The library's functions of letters and runes, laid at this program by program.
  The tables and contracts of this seat's environment: letters, the first rune of a text.
-/
import Derived.Test.YtmmnkemcplgebaaGreatDoorProg
import Derived.Shelf.Unicode.ExclAny
import Derived.Shelf.Unicode.DecodeAny
import Derived.Test.YtmmnkemcplgebaaGreatDoorRows
import Derived.Test.YtmmnkemcplgebaaGreatDoorFG
import Derived.Test.YtmmnkemcplgebaaGreatDoorFK
import Derived.Test.YtmmnkemcplgebaaGreatDoorF2
section
set_option linter.unusedSimpArgs false
set_option linter.unusedVariables false
namespace Go.Proofs.YtmmnkemcplgebaaGreatDoor
open Go.Shelf Go
def exclLays_ren : Go.Shelf.Ren := ⟨fun | 261 => 145 | 311 => 147 | 312 => 148 | n => n, fun | 141 => 176 | 21 => 21 | 4 => 4 | 0 => 0 | 196 => 185 | 193 => 182 | 3 => 3 | 51 => 145 | 198 => 188 | 49 => 186 | 194 => 183 | 201 => 191 | 226 => 193 | 46 => 120 | 227 => 194 | n => n, fun | n => n⟩
theorem exclLays : Go.Proofs.Lays.n261 Tryz.prog exclLays_ren := {
  mixed := by kernel_rfl,
  f261 := Tryz.func145.trans (congrArg some (by kernel_rfl)),
  f311 := Tryz.func147.trans (congrArg some (by kernel_rfl)),
  f312 := Tryz.func148.trans (congrArg some (by kernel_rfl)),
  t0 := Tryz.underlying0,
  a0 := Tryz.isAgg0,
  z0 := Tryz.sizeOf0,
  v0 := Tryz.zeroValue0,
  t3 := Tryz.underlying3,
  a3 := Tryz.isAgg3,
  z3 := Tryz.sizeOf3,
  v3 := Tryz.zeroValue3,
  t4 := Tryz.underlying4,
  a4 := Tryz.isAgg4,
  z4 := Tryz.sizeOf4,
  v4 := Tryz.zeroValue4,
  t21 := Tryz.underlying21,
  a21 := Tryz.isAgg21,
  z21 := Tryz.sizeOf21,
  v21 := Tryz.zeroValue21,
  t46 := Tryz.underlying120,
  a46 := Tryz.isAgg120,
  z46 := Tryz.sizeOf120,
  v46 := Tryz.zeroValue120,
  t49 := Tryz.underlying186,
  a49 := Tryz.isAgg186,
  z49 := Tryz.sizeOf186,
  v49 := Tryz.zeroValue186,
  t51 := Tryz.underlying145,
  a51 := Tryz.isAgg145,
  z51 := Tryz.sizeOf145,
  v51 := Tryz.zeroValue145,
  t141 := Tryz.underlying176,
  a141 := Tryz.isAgg176,
  z141 := Tryz.sizeOf176,
  v141 := Tryz.zeroValue176,
  t193 := Tryz.underlying182,
  a193 := Tryz.isAgg182,
  z193 := Tryz.sizeOf182,
  v193 := Tryz.zeroValue182,
  t194 := Tryz.underlying183,
  a194 := Tryz.isAgg183,
  z194 := Tryz.sizeOf183,
  v194 := Tryz.zeroValue183,
  t196 := Tryz.underlying185,
  a196 := Tryz.isAgg185,
  z196 := Tryz.sizeOf185,
  v196 := Tryz.zeroValue185,
  t198 := Tryz.underlying188,
  a198 := Tryz.isAgg188,
  z198 := Tryz.sizeOf188,
  v198 := Tryz.zeroValue188,
  t201 := Tryz.underlying191,
  a201 := Tryz.isAgg191,
  z201 := Tryz.sizeOf191,
  v201 := Tryz.zeroValue191,
  t226 := Tryz.underlying193,
  a226 := Tryz.isAgg193,
  z226 := Tryz.sizeOf193,
  v226 := Tryz.zeroValue193,
  t227 := Tryz.underlying194,
  a227 := Tryz.isAgg194,
  z227 := Tryz.sizeOf194,
  v227 := Tryz.zeroValue194 }
def decLays_ren : Go.Shelf.Ren := ⟨fun | 197 => 115 | 260 => 137 | n => n, fun | 9 => 9 | 21 => 21 | 3 => 3 | 4 => 4 | 5 => 5 | 105 => 151 | 119 => 174 | 0 => 0 | 46 => 120 | 139 => 179 | 138 => 178 | n => n, fun | 3 => 5 | 4 => 6 | n => n⟩
theorem decLays : Go.Proofs.Lays.n197 Tryz.prog decLays_ren := {
  mixed := by kernel_rfl,
  f197 := Tryz.func115.trans (congrArg some (by kernel_rfl)),
  f260 := Tryz.func137.trans (congrArg some (by kernel_rfl)),
  t0 := Tryz.underlying0,
  a0 := Tryz.isAgg0,
  z0 := Tryz.sizeOf0,
  v0 := Tryz.zeroValue0,
  t3 := Tryz.underlying3,
  a3 := Tryz.isAgg3,
  z3 := Tryz.sizeOf3,
  v3 := Tryz.zeroValue3,
  t4 := Tryz.underlying4,
  a4 := Tryz.isAgg4,
  z4 := Tryz.sizeOf4,
  v4 := Tryz.zeroValue4,
  t5 := Tryz.underlying5,
  a5 := Tryz.isAgg5,
  z5 := Tryz.sizeOf5,
  v5 := Tryz.zeroValue5,
  t9 := Tryz.underlying9,
  a9 := Tryz.isAgg9,
  z9 := Tryz.sizeOf9,
  v9 := Tryz.zeroValue9,
  t21 := Tryz.underlying21,
  a21 := Tryz.isAgg21,
  z21 := Tryz.sizeOf21,
  v21 := Tryz.zeroValue21,
  t46 := Tryz.underlying120,
  a46 := Tryz.isAgg120,
  z46 := Tryz.sizeOf120,
  v46 := Tryz.zeroValue120,
  t105 := Tryz.underlying151,
  a105 := Tryz.isAgg151,
  z105 := Tryz.sizeOf151,
  v105 := Tryz.zeroValue151,
  t119 := Tryz.underlying174,
  a119 := Tryz.isAgg174,
  z119 := Tryz.sizeOf174,
  t138 := Tryz.underlying178,
  a138 := Tryz.isAgg178,
  z138 := Tryz.sizeOf178,
  v138 := Tryz.zeroValue178,
  t139 := Tryz.underlying179,
  a139 := Tryz.isAgg179,
  z139 := Tryz.sizeOf179,
  v139 := Tryz.zeroValue179,
  g3 := by kernel_rfl,
  g4 := by kernel_rfl }
end Go.Proofs.YtmmnkemcplgebaaGreatDoor
end

section
set_option linter.unusedSimpArgs false
set_option linter.unusedVariables false
set_option maxRecDepth 100000
namespace Go.Proofs.YtmmnkemcplgebaaGreatDoor
open Go.Abs Go.RowKit
noncomputable def propsV : List Value := Lib.propertiesTab.map fun z => .int .u8 z
noncomputable def firstV : List Value := (List.range 256).map fun c => .int .u8 (Lib.firstT c)
noncomputable def acceptV : List Value := (List.range 32).map fun i => .int .u8 (bif Nat.beq (i % 2) 0 then Lib.accLo (i / 2) else Lib.accHi (i / 2))
noncomputable def tabs (g : Nat) : Option (List AV) :=
  bif Nat.beq g 2 then some (propsV.map .sc) else bif Nat.beq g 3 then some [rtabA Lib.letterT] else bif Nat.beq g 4 then some [rtabA Lib.upperT]
  else bif Nat.beq g 5 then some (firstV.map .sc) else bif Nat.beq g 6 then some (acceptV.map .sc) else none
noncomputable def decF : List AV → Option AV
  | [.sc (.string s)] => some (.tup [.sc (.int .i32 (firstF s)), .sc (.int .i64 ((Lib.decodeGo s).2 : Nat))])
  | _ => none
noncomputable def isTab (T : Lib.RTab) : AV → Bool
  | .eptr [a, b, c] 0 => eqA 40 a (.vec 0 3 (rgA .u16 T.r16.toList)) && eqA 40 b (.vec 0 3 (rgA .u32 T.r32.toList)) && eqA 40 c (.sc (.int .i64 T.off))
  | _ => false
theorem isTab_eq {T : Lib.RTab} {t : AV} (h : isTab T t = true) : t = rtabA T := by
  unfold isTab at h
  split at h
  · simp only [Bool.and_eq_true] at h
    rw [eqA_eq 40 _ _ h.1.1, eqA_eq 40 _ _ h.1.2, eqA_eq 40 _ _ h.2]
    rfl
  · cases h
noncomputable def exclF : List AV → Option AV
  | [t, .sc (.int .i32 r)] => bif decide (-2147483648 ≤ r) && decide (r ≤ 2147483647) then
      (bif isTab Lib.letterT t then some (.sc (.bool (Lib.exclGo Lib.letterT r))) else bif isTab Lib.upperT t then some (.sc (.bool (Lib.exclGo Lib.upperT r))) else none) else none
  | _ => none
theorem eq_ll : isTab Lib.letterT (rtabA Lib.letterT) = true := by kernel_rfl
theorem eq_ul : isTab Lib.letterT (rtabA Lib.upperT) = false := by kernel_rfl
theorem eq_uu : isTab Lib.upperT (rtabA Lib.upperT) = true := by kernel_rfl
theorem excl_l (r : Int) (h1 : -2147483648 ≤ r) (h2 : r ≤ 2147483647) : exclF [rtabA Lib.letterT, .sc (.int .i32 r)] = some (.sc (.bool (Lib.exclGo Lib.letterT r))) := by
  simp only [exclF, decide_eq_true h1, decide_eq_true h2, eq_ll, Bool.and_self, cond_true]
theorem excl_u (r : Int) (h1 : -2147483648 ≤ r) (h2 : r ≤ 2147483647) : exclF [rtabA Lib.upperT, .sc (.int .i32 r)] = some (.sc (.bool (Lib.exclGo Lib.upperT r))) := by
  simp only [exclF, decide_eq_true h1, decide_eq_true h2, eq_ul, eq_uu, Bool.and_self, cond_true, cond_false]
/-- An environment over this program with these tables. -/
structure Here (E : Env) : Prop where
  P : E.P = Tryz.prog
  G : E.G = tabs
theorem excl_ok {E : Env} (hE : Here E) {args : List AV} {S : St} {r : AV} {S' : St} (hm : pureX exclF args S = some (r, S')) {C : Ctx} {w : World} {vs : Array Value} (hw : WR E C S w) (hl : LR C w args vs.toList) :
    Calls E.P 145 vs w (fun e w' => ∃ u C', e = .returned u ∧ WR E C' S' w' ∧ Ext C w C' w' ∧ VR C' w' r u) := by
  refine pureX_ok hm hw fun hF => ?_
  obtain ⟨vs⟩ := vs
  unfold exclF at hF
  split at hF
  · rename_i t z
    simp only [cond_eq_ite] at hF
    split at hF
    · rename_i hr
      simp only [Bool.and_eq_true, decide_eq_true_eq] at hr
      match vs, hl with
      | [v0, v1], hl =>
      have h0 := hl.head
      have h1 := hl.tail.head.sc_inv
      have fin : ∀ T, t = rtabA T → Lib.RTabOk T → ∃ u, Calls E.P 145 #[v0, v1] w (fun e w' => e = .returned u ∧ Below w.heap.size w w') ∧ u = .bool (Lib.exclGo T z) := fun T ht hT => by
        subst ht
        obtain ⟨Tb, oT, rfl, hA⟩ := rtab_of h0
        rw [h1, hE.P]
        exact ⟨_, Any.unicode_isExcludingLatin_any exclLays Tb oT T z w hr.1 hr.2 hA hT, rfl⟩
      split at hF
      · rename_i he
        obtain ⟨u, k1, k2⟩ := fin _ (isTab_eq he) Lib.letterT_ok
        simp only [Option.some.injEq] at hF
        subst hF
        rw [k2] at k1
        exact ⟨_, k1, fun _ _ => .sc _⟩
      · split at hF
        · rename_i he
          obtain ⟨u, k1, k2⟩ := fin _ (isTab_eq he) Lib.upperT_ok
          simp only [Option.some.injEq] at hF
          subst hF
          rw [k2] at k1
          exact ⟨_, k1, fun _ _ => .sc _⟩
        · cases hF
    · cases hF
  · cases hF
theorem tabs_first : tabs 5 = some (firstV.map .sc) := by kernel_rfl
theorem tabs_accept : tabs 6 = some (acceptV.map .sc) := by kernel_rfl
theorem utf8_of {E : Env} (hE : Here E) {C : Ctx} {S : St} {w : World} (hw : WR E C S w) : Lib.Utf8Tabs 5 6 w := by
  have k1 := cells_of (hw.glob _ _ (by rw [hE.G]; exact tabs_first))
  have k2 := cells_of (hw.glob _ _ (by rw [hE.G]; exact tabs_accept))
  refine ⟨fun c hc => k1 c _ (by simp [firstV, hc]), fun i hi => ⟨k2 (2 * i) _ ?_, k2 (2 * i + 1) _ ?_⟩⟩
  · have h : 2 * i < 32 := by omega
    have e : 2 * i % 2 = 0 := by omega
    have d : 2 * i / 2 = i := by omega
    simp [acceptV, h, e, d]
  · have h : 2 * i + 1 < 32 := by omega
    have e : (2 * i + 1) % 2 = 1 := by omega
    have d : (2 * i + 1) / 2 = i := by omega
    have b : Nat.beq 1 0 = false := rfl
    simp [acceptV, h, e, d, b]
theorem dec_ok {E : Env} (hE : Here E) {args : List AV} {S : St} {r : AV} {S' : St} (hm : pureX decF args S = some (r, S')) {C : Ctx} {w : World} {vs : Array Value} (hw : WR E C S w) (hl : LR C w args vs.toList) :
    Calls E.P 115 vs w (fun e w' => ∃ u C', e = .returned u ∧ WR E C' S' w' ∧ Ext C w C' w' ∧ VR C' w' r u) := by
  refine pureX_ok hm hw fun hF => ?_
  obtain ⟨vs⟩ := vs
  unfold decF at hF
  split at hF
  · rename_i s
    match vs, hl with
    | [v0], hl =>
    rw [hl.head.sc_inv, hE.P]
    simp only [Option.some.injEq] at hF
    subst hF
    refine ⟨_, Any.utf8_DecodeRuneInString decLays s w (utf8_of hE hw), fun C w => ?_⟩
    · refine .tup _ _ rfl fun i x hx => ?_
      match i, hx with
      | 0, hx => simp at hx; subst hx; exact .sc _
      | 1, hx => simp at hx; subst hx; exact .sc _
      | i + 2, hx => simp at hx
  · cases hF
end Go.Proofs.YtmmnkemcplgebaaGreatDoor
end
