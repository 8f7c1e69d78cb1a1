/-
  doc
-/
import Derived.Test.YthjaoinieikjdaaGreatDoorUAA
import Derived.Test.YthjaoinieikjdaaGreatDoorProg
import Derived.Shelf.Strconv.Itoa4
import Derived.Test.YthjaoinieikjdaaGreatDoorRows
import Derived.Test.YthjaoinieikjdaaGreatDoorUAP
import Derived.Test.YthjaoinieikjdaaGreatDoorUAT
import Derived.Test.YthjaoinieikjdaaGreatDoorUAV
import Derived.Lib.AppendIntMem
import Derived.Test.YthjaoinieikjdaaGreatDoorUAS
set_option linter.unusedSimpArgs false
set_option linter.unusedVariables false
set_option maxRecDepth 100000
namespace Go.Proofs.YthjaoinieikjdaaGreatDoor
open Go.Shelf Go
def wo0 : Go.Shelf.Ren := ⟨fun | 173 => 111 | 246 => 142 | 283 => 157 | 284 => 158 | 285 => 159 | 286 => 160 | 129 => 171 | 317 => 183 | 318 => 184 | 319 => 185 | 320 => 186 | 337 => 201 | 338 => 202 | n => n, fun | 2 => 2 | 3 => 3 | 9 => 9 | 4 => 4 | 171 => 214 | 0 => 0 | 53 => 202 | 37 => 110 | 5 => 5 | 173 => 217 | 212 => 238 | 51 => 228 | 20 => 20 | 213 => 239 | 46 => 206 | 232 => 264 | 233 => 265 | n => n, fun | 17 => 3 | 18 => 7 | 19 => 8 | n => n⟩
theorem fmtLays : Go.Proofs.LaysM.n173 Tryz.prog wo0 := {
 mixed := by kernel_rfl,
 f129 := Tryz.func171.trans (congrArg some (by kernel_rfl)),
 f173 := Tryz.func111.trans (congrArg some (by kernel_rfl)),
 f246 := Tryz.func142.trans (congrArg some (by kernel_rfl)),
 f283 := Tryz.func157.trans (congrArg some (by kernel_rfl)),
 f284 := Tryz.func158.trans (congrArg some (by kernel_rfl)),
 f285 := Tryz.func159.trans (congrArg some (by kernel_rfl)),
 f286 := Tryz.func160.trans (congrArg some (by kernel_rfl)),
 f317 := Tryz.func183.trans (congrArg some (by kernel_rfl)),
 f318 := Tryz.func184.trans (congrArg some (by kernel_rfl)),
 f319 := Tryz.func185.trans (congrArg some (by kernel_rfl)),
 f320 := Tryz.func186.trans (congrArg some (by kernel_rfl)),
 f337 := Tryz.func201.trans (congrArg some (by kernel_rfl)),
 f338 := Tryz.func202.trans (congrArg some (by kernel_rfl)),
 t0 := Tryz.underlying0,
 a0 := Tryz.isAgg0,
 z0 := Tryz.sizeOf0,
 v0 := Tryz.zeroValue0,
 t2 := Tryz.underlying2,
 a2 := Tryz.isAgg2,
 z2 := Tryz.sizeOf2,
 v2 := Tryz.zeroValue2,
 t3 := Tryz.underlying3,
 a3 := Tryz.isAgg3,
 z3 := Tryz.sizeOf3,
 v3 := Tryz.zeroValue3,
 t4 := Tryz.underlying4,
 a4 := Tryz.isAgg4,
 z4 := Tryz.sizeOf4,
 v4 := Tryz.zeroValue4,
 t5 := Tryz.underlying5,
 a5 := Tryz.isAgg5,
 z5 := Tryz.sizeOf5,
 v5 := Tryz.zeroValue5,
 t9 := Tryz.underlying9,
 a9 := Tryz.isAgg9,
 z9 := Tryz.sizeOf9,
 v9 := Tryz.zeroValue9,
 t20 := Tryz.underlying20,
 a20 := Tryz.isAgg20,
 z20 := Tryz.sizeOf20,
 v20 := Tryz.zeroValue20,
 t37 := Tryz.underlying110,
 a37 := Tryz.isAgg110,
 z37 := Tryz.sizeOf110,
 v37 := Tryz.zeroValue110,
 t46 := Tryz.underlying206,
 a46 := Tryz.isAgg206,
 z46 := Tryz.sizeOf206,
 v46 := Tryz.zeroValue206,
 t51 := Tryz.underlying228,
 a51 := Tryz.isAgg228,
 z51 := Tryz.sizeOf228,
 v51 := Tryz.zeroValue228,
 t53 := Tryz.underlying202,
 a53 := Tryz.isAgg202,
 z53 := Tryz.sizeOf202,
 v53 := Tryz.zeroValue202,
 t171 := Tryz.underlying214,
 a171 := Tryz.isAgg214,
 z171 := Tryz.sizeOf214,
 v171 := Tryz.zeroValue214,
 t173 := Tryz.underlying217,
 a173 := Tryz.isAgg217,
 z173 := Tryz.sizeOf217,
 v173 := Tryz.zeroValue217,
 t212 := Tryz.underlying238,
 a212 := Tryz.isAgg238,
 z212 := Tryz.sizeOf238,
 v212 := Tryz.zeroValue238,
 t213 := Tryz.underlying239,
 a213 := Tryz.isAgg239,
 z213 := Tryz.sizeOf239,
 t232 := Tryz.underlying264,
 a232 := Tryz.isAgg264,
 z232 := Tryz.sizeOf264,
 v232 := Tryz.zeroValue264,
 t233 := Tryz.underlying265,
 a233 := Tryz.isAgg265,
 z233 := Tryz.sizeOf265,
 v233 := Tryz.zeroValue265,
 g17 := by kernel_rfl,
 g18 := by kernel_rfl,
 g19 := by kernel_rfl,
 i0 := by kernel_rfl,
 i2 := by kernel_rfl,
 i3 := by kernel_rfl,
 i4 := by kernel_rfl,
 i5 := by kernel_rfl,
 i9 := by kernel_rfl,
 i20 := by kernel_rfl,
 i37 := by kernel_rfl,
 i46 := by kernel_rfl,
 i51 := by kernel_rfl,
 i53 := by kernel_rfl,
 i171 := by kernel_rfl,
 i173 := by kernel_rfl,
 i212 := by kernel_rfl,
 i232 := by kernel_rfl,
 i233 := by kernel_rfl,
 m17 := by kernel_rfl,
 m18 := by kernel_rfl,
 m19 := by kernel_rfl }
open Go.Abs Go.RowKit
noncomputable def propsV : List Value := Lib.propertiesTab.map fun z => .int .u8 z
noncomputable def firstV : List Value := (List.range 256).map fun c => .int .u8 (Lib.firstT c)
noncomputable def acceptV : List Value := (List.range 32).map fun i => .int .u8 (bif Nat.beq (i % 2) 0 then Lib.accLo (i / 2) else Lib.accHi (i / 2))
noncomputable def powV : List Value := Lib.pow10Tab.map fun z => .int .u64 z
noncomputable def pP (g : Nat) : Option (List AV) :=
 bif Nat.beq g 0 then some (propsV.map .sc) else bif Nat.beq g 1 then some [kR Lib.letterT] else bif Nat.beq g 2 then some [kR Lib.upperT]
 else bif Nat.beq g 5 then some (firstV.map .sc) else bif Nat.beq g 6 then some (acceptV.map .sc) else bif Nat.beq g 3 then some (powV.map .sc) else none
noncomputable def decF : List AV → Option AV
 | [.sc (.string s)] => some (.tup [.sc (.int .i32 (eB s)), .sc (.int .i64 ((Lib.decodeGo s).2 : Nat))])
 | _ => none
noncomputable def tY (T : Lib.RTab) : AV → Bool
 | .eptr [a, b, c] 0 => eqA 40 a (.vec 0 3 (rgA .u16 T.r16.toList)) && eqA 40 b (.vec 0 3 (rgA .u32 T.r32.toList)) && eqA 40 c (.sc (.int .i64 T.off))
 | _ => false
theorem wu1 {T : Lib.RTab} {t : AV} (h : tY T t = true) : t = kR T := by
 unfold tY at h
 split at h
 · simp only [aS] at h
   rw [wP 40 _ _ h.1.1, wP 40 _ _ h.1.2, wP 40 _ _ h.2]
   rfl
 · cases h
noncomputable def pL : List AV → Option AV
 | [t, .sc (.int .i32 r)] => bif decide (-2147483648 ≤ r) && decide (r ≤ 2147483647) then
  (bif tY Lib.letterT t then some (.sc (.bool (Lib.exclGo Lib.letterT r))) else bif tY Lib.upperT t then some (.sc (.bool (Lib.exclGo Lib.upperT r))) else none) else none
 | _ => none
theorem eq_ll : tY Lib.letterT (kR Lib.letterT) = true := by kernel_rfl
theorem eq_ul : tY Lib.letterT (kR Lib.upperT) = false := by kernel_rfl
theorem eq_uu : tY Lib.upperT (kR Lib.upperT) = true := by kernel_rfl
theorem excl_l (r : Int) (h1 : -2147483648 ≤ r) (h2 : r ≤ 2147483647) : pL [kR Lib.letterT, .sc (.int .i32 r)] = some (.sc (.bool (Lib.exclGo Lib.letterT r))) := by
 simp only [pL, iI h1, iI h2, eq_ll, bY, aH]
theorem excl_u (r : Int) (h1 : -2147483648 ≤ r) (h2 : r ≤ 2147483647) : pL [kR Lib.upperT, .sc (.int .i32 r)] = some (.sc (.bool (Lib.exclGo Lib.upperT r))) := by
 simp only [pL, iI h1, iI h2, eq_ul, eq_uu, bY, aH, aK]
structure Here (E : Env) : Prop where
 P : E.P = Tryz.prog
 G : E.G = pP
theorem excl_ok {E : Env} (hE : Here E) {args : List AV} {S : St} {r : AV} {S' : St} (hm : gB pL args S = some (r, S')) {C : Ctx} {w : World} {vs : Array Value} (hw : WR E C S w) (hl : LR C w args vs.toList) :
 Calls E.P 172 vs w (fun e w' => ∃ u C', e = .returned u ∧ WR E C' S' w' ∧ Ext C w C' w' ∧ VR C' w' r u) := by
 refine xx7 hm hw fun hF => ?_
 obtain ⟨vs⟩ := vs
 unfold pL at hF
 split at hF
 · rename_i t z
   simp only [bB] at hF
   split at hF
   · rename_i hr
     simp only [aS, bZ] at hr
     match vs, hl with
     | [v0, v1], hl =>
     have h0 := hl.head
     have h1 := hl.tail.head.sc_inv
     have fin : ∀ T, t = kR T → Lib.RTabOk T → ∃ u, Calls E.P 172 #[v0, v1] w (fun e w' => e = .returned u ∧ Below w.heap.size w w') ∧ u = .bool (Lib.exclGo T z) := fun T ht hT => by
      subst ht
      obtain ⟨Tb, oT, rfl, hA⟩ := rtab_of h0
      rw [h1, hE.P]
      exact ⟨_, Any.unicode_isExcludingLatin_any xz8 Tb oT T z w hr.1 hr.2 hA hT, rfl⟩
     split at hF
     · rename_i he
       obtain ⟨u, k1, k2⟩ := fin _ (wu1 he) Lib.letterT_ok
       simp only [aI] at hF
       subst hF
       rw [k2] at k1
       exact ⟨_, k1, fun _ _ => .sc _⟩
     · split at hF
       · rename_i he
         obtain ⟨u, k1, k2⟩ := fin _ (wu1 he) Lib.upperT_ok
         simp only [aI] at hF
         subst hF
         rw [k2] at k1
         exact ⟨_, k1, fun _ _ => .sc _⟩
       · cases hF
   · cases hF
 · cases hF
theorem wy2 : pP 5 = some (firstV.map .sc) := by kernel_rfl
theorem wl0 : pP 6 = some (acceptV.map .sc) := by kernel_rfl
theorem utf8_of {E : Env} (hE : Here E) {C : Ctx} {S : St} {w : World} (hw : WR E C S w) : Lib.Utf8Tabs 5 6 w := by
 have k1 := wa8 (hw.glob _ _ (by rw [hE.G]; exact wy2)).vr
 have k2 := wa8 (hw.glob _ _ (by rw [hE.G]; exact wl0)).vr
 refine ⟨fun c hc => k1 c _ (by simp [firstV, hc]), fun i hi => ⟨k2 (2 * i) _ ?_, k2 (2 * i + 1) _ ?_⟩⟩
 · have h : 2 * i < 32 := by omega
   have e : 2 * i % 2 = 0 := by omega
   have d : 2 * i / 2 = i := by omega
   simp [acceptV, h, e, d]
 · have h : 2 * i + 1 < 32 := by omega
   have e : (2 * i + 1) % 2 = 1 := by omega
   have d : (2 * i + 1) / 2 = i := by omega
   have b : Nat.beq 1 0 = false := rfl
   simp [acceptV, h, e, d, b]
theorem dec_ok {E : Env} (hE : Here E) {args : List AV} {S : St} {r : AV} {S' : St} (hm : gB decF args S = some (r, S')) {C : Ctx} {w : World} {vs : Array Value} (hw : WR E C S w) (hl : LR C w args vs.toList) :
 Calls E.P 175 vs w (fun e w' => ∃ u C', e = .returned u ∧ WR E C' S' w' ∧ Ext C w C' w' ∧ VR C' w' r u) := by
 refine xx7 hm hw fun hF => ?_
 obtain ⟨vs⟩ := vs
 unfold decF at hF
 split at hF
 · rename_i s
   match vs, hl with
   | [v0], hl =>
   rw [hl.head.sc_inv, hE.P]
   simp only [aI] at hF
   subst hF
   refine ⟨_, Any.utf8_DecodeRuneInString kt7 s w (utf8_of hE hw), fun C w => ?_⟩
   · refine .tup _ _ rfl fun i x hx => ?_
     match i, hx with
     | 0, hx => simp at hx; subst hx; exact .sc _
     | 1, hx => simp at hx; subst hx; exact .sc _
     | i + 2, hx => simp at hx
 · cases hF
noncomputable def fmtF : List AV → Option AV
 | [.sc (.int .i64 n), .sc (.int .i64 b)] => bif decide (-9223372036854775808 ≤ n) && decide (n ≤ 9223372036854775807) && decide (b = 10) then some (.sc (.string ⟨(Lib.itoa n).toArray⟩)) else none
 | _ => none
theorem kx2 : pP 3 = some (powV.map .sc) := by kernel_rfl
theorem ws4 : powV.length = 20 := by simp [powV, Lib.pow10Tab_length]
theorem pow_of {E : Env} (hE : Here E) {C : Ctx} {S : St} {w : World} (hw : WR E C S w) : Lib.TabIs Tryz.prog w "internal/strconv.uint64pow10" .u64 Lib.pow10Tab := by
 have k := hw.glob 3 (powV.map .sc) (by rw [hE.G]; exact kx2)
 have kc := wa8 k.vr
 obtain ⟨c, T, fz, h1, h2⟩ := k.whole (by rw [eE, ws4]; decide) (by rw [eE, ws4]; decide)
 rw [eE] at h2
 have hg : Tryz.prog.globalNamed "internal/strconv.uint64pow10" = some 3 := by kernel_rfl
 have hc : c = powV.toArray := by
  apply Array.ext
  · rw [h2, pU]
  · intro i a1 a2
    rw [pU] at a2
    have := kc i powV[i] (cX a2)
    rw [lD h1, Array.getElem?_eq_getElem a1] at this
    simpa using this
 show w.var? Tryz.prog "internal/strconv.uint64pow10" = some powV.toArray
 simp only [World.var?, hg, aD, h1, hc]
theorem fmt_ok {E : Env} (hE : Here E) {args : List AV} {S : St} {r : AV} {S' : St} (hm : gB fmtF args S = some (r, S')) {C : Ctx} {w : World} {vs : Array Value} (hw : WR E C S w) (hl : LR C w args vs.toList) :
 Calls E.P 111 vs w (fun e w' => ∃ u C', e = .returned u ∧ WR E C' S' w' ∧ Ext C w C' w' ∧ VR C' w' r u) := by
 refine xx7 hm hw fun hF => ?_
 obtain ⟨vs⟩ := vs
 unfold fmtF at hF
 split at hF
 · rename_i n b
   match vs, hl with
   | [v0, v1], hl =>
   rw [hl.head.sc_inv, hl.tail.head.sc_inv, hE.P]
   simp only [bB] at hF
   split at hF
   · rename_i hb
     simp only [aS, bZ] at hb
     obtain ⟨⟨b1, b2⟩, rfl⟩ := hb
     simp only [aI] at hF
     subst hF
     refine ⟨_, (Any.strconv_FormatInt_10 fmtLays n b1 b2 w (pow_of hE hw)).mono ?_, fun C w => .sc _⟩
     rintro e w' ⟨rfl, k, os, rfl⟩
     exact ⟨rfl, Lib.below_grow _ _ (aB _) _ _⟩
   · cases hF
 · cases hF
end Go.Proofs.YthjaoinieikjdaaGreatDoor
namespace Go.Abs
section
variable {E : Env} {nt : Nat}
structure DrawMk2 (E : Env) (nt : Nat) (ops : Array Oper) (n : Nat) (l1 : List POp) (i : Nat) (d : Option Tmp) (op : Op) (l2 : List POp) (j : Nat) (d2 : Option Tmp) (op2 : Op) (l3 : List POp) (az : List Operand) : Prop where
 size : ops.size = n
 parts : ∃ p o q o2 r, ops.toList = p ++ o :: (q ++ o2 :: r) ∧ p.length = i ∧ o.dst = d ∧ o.op = op ∧ o.guard = none ∧ sS nt d = true ∧ cD E o = true ∧ i + 1 + q.length = j ∧ o2.dst = d2 ∧ o2.op = op2 ∧ o2.guard = none ∧ sS nt d2 = true ∧ cD E o2 = true ∧ lJ nt ops p = some l1 ∧ lJ nt ops q = some l2 ∧ lJ nt ops r = some l3 ∧ p.all (fun o => !cD E o) = true ∧ q.all (fun o => !cD E o) = true ∧ r.all (fun o => !cD E o) = true
 pairs : mP E ops (eN 0 ops.toList .leaf) 0 ops.toList = true
 seen : tM E ops (eN 0 ops.toList .leaf) 0 ops.toList = true
 loads : uJ ops.toList = some az
end
end Go.Abs
