/-
  A contract: strings.Join.
  The library's contract of strconv.FormatInt, laid at this program.
  The tables and contracts of this seat's environment: letters, the first rune of a text.
  Regions of open order in which two things are made, in the calculus.
-/
import Derived.Test.YtmmnkemcplgebaaGreatDoorQAZ
import Derived.Test.YtmmnkemcplgebaaGreatDoorProg
import Derived.Shelf.Strconv.Itoa4
import Derived.Test.YtmmnkemcplgebaaGreatDoorRows
import Derived.Test.YtmmnkemcplgebaaGreatDoorQAS
import Derived.Test.YtmmnkemcplgebaaGreatDoorQAX
import Derived.Lib.AppendIntMem
import Derived.Test.YtmmnkemcplgebaaGreatDoorQAW
section
section
set_option linter.unusedSimpArgs false
set_option linter.unusedVariables false
namespace Go.Abs
open Go.RowKit
noncomputable def joinElems (S : St) : AV → Option (List AV)
 | .sc (.slice none 0 0) => some []
 | .vec _ _ xs => some xs
 | .osl l sz off len _ => bif Nat.beq sz 1 then S.oslElems false l 1 off len else none
 | _ => none
noncomputable def strsOf : List AV → Option (List ByteArray)
 | [] => some []
 | .sc (.string s) :: r => (strsOf r).map (s :: ·)
 | _ => none
theorem strsOf_eq : ∀ {l : List AV} {ss : List ByteArray}, strsOf l = some ss → l = ss.map fun s => .sc (.string s)
 | [], ss, h => by simp [strsOf] at h; subst h; rfl
 | x :: r, ss, h => by
  unfold strsOf at h
  split at h
  · rename_i e; cases e
  · rename_i s r' e
    simp only [List.cons.injEq] at e
    obtain ⟨rfl, rfl⟩ := e
    simp only [Option.map_eq_some_iff] at h
    obtain ⟨ss', h1, rfl⟩ := h
    simp [strsOf_eq h1]
  · cases h
noncomputable def joinX (args : List AV) (S : St) : Option (AV × St) := match args with
 | [x, .sc (.string sep)] => match (joinElems S x).bind strsOf with
  | some ss => bif Nat.ble ss.length 1000000 && Nat.ble (Lib.join (ss.map (·.data.toList)) sep.data.toList).length 1000000 then
   some (.sc (.string ⟨(Lib.join (ss.map (·.data.toList)) sep.data.toList).toArray⟩), S)
   else none
  | none => none
 | _ => none
noncomputable def JoinC (P : Program) (f : FuncId) : Prop :=
 (∀ (a : Option Addr) (c : Nat) (sep : ByteArray) (w : World), Calls P f #[.slice a 0 c, .string sep] w fun e w' => e = .returned (.string ⟨#[]⟩) ∧ w' = w) ∧
 ∀ (bk o c : Nat) (xs : List ByteArray) (sep : ByteArray) (w : World), (∀ (j : Nat) x, xs[j]? = some x → w.cell? ⟨bk, o + j, none⟩ = some (.string x)) → bk < w.heap.size → xs.length ≤ 140737488355328 → xs.length ≤ c →
  (Lib.join (xs.map (·.data.toList)) sep.data.toList).length ≤ 140737488355328 →
  Calls P f #[.slice (some ⟨bk, o, none⟩) xs.length c, .string sep] w fun e w' => e = .returned (.string ⟨(Lib.join (xs.map (·.data.toList)) sep.data.toList).toArray⟩) ∧ Below w.heap.size w w'
theorem flat1_strs : ∀ ss : List ByteArray, flat? 1 (ss.map fun s => AV.sc (.string s)) = some (ss.map fun s => .sc (.string s))
 | [] => rfl
 | s :: r => by
  have ih := flat1_strs r
  simp only [List.map_cons]
  simp [flat?, ih, cellsOf, okCell]
theorem flatJ {sz : Nat} {ss : List ByteArray} {fl : List AV} (h : flat? sz (ss.map fun s => AV.sc (.string s)) = some fl) (hne : ss ≠ []) : sz = 1 ∧ fl = ss.map fun s => .sc (.string s) := by
 have h1 : sz = 1 := by
  cases ss with
  | nil => exact absurd rfl hne
  | cons s r =>
   simp only [List.map_cons] at h
   unfold flat? at h
   split at h
   · rename_i cs r' hc hr
     split at h
     · rename_i hb
       have : cs = [.sc (.string s)] := by
        have : cellsOf (.sc (.string s)) = some [.sc (.string s)] := rfl
        rw [this] at hc
        exact (Option.some.inj hc).symm
       rw [this] at hb
       exact hb.1.symm
     · cases h
   · cases h
 subst h1
 rw [flat1_strs] at h
 exact ⟨rfl, (Option.some.inj h).symm⟩
theorem join_nil' (sep : ByteArray) : Lib.join (([] : List ByteArray).map (·.data.toList)) sep.data.toList = [] := Lib.join_nil _
theorem joinX_ok {E : Env} {f : FuncId} (hc : JoinC E.P f) {args : List AV} {S : St} {r : AV} {S' : St} (h : joinX args S = some (r, S')) {C : Ctx} {w : World} {vs : Array Value} (hw : WR E C S w) (hl : LR C w args vs.toList) :
 Calls E.P f vs w (fun e w' => ∃ u C', e = .returned u ∧ WR E C' S' w' ∧ Ext C w C' w' ∧ VR C' w' r u) := by
 obtain ⟨vs⟩ := vs
 unfold joinX at h
 split at h
 · rename_i x sep
   split at h
   · rename_i ss hss
     simp only [cond_eq_ite] at h
     split at h
     · rename_i hb
       simp only [Bool.and_eq_true] at hb
       have b1 := Nat.le_of_ble_eq_true hb.1
       have b2 := Nat.le_of_ble_eq_true hb.2
       simp only [Option.some.injEq, Prod.mk.injEq] at h
       obtain ⟨rfl, rfl⟩ := h
       match vs, hl with
       | [v, v2], hl =>
       have h2 := hl.tail.head.sc_inv
       subst h2
       have hv := hl.head
       obtain ⟨xs, hxs, hst⟩ := Option.bind_eq_some_iff.1 hss
       have hxe := strsOf_eq hst
       have fin0 : ∀ (a : Option Addr) (c : Nat), ss = [] → Calls E.P f #[.slice a 0 c, .string sep] w (fun e w' => ∃ u C', e = .returned u ∧ WR E C' S w' ∧ Ext C w C' w' ∧ VR C' w' (.sc (.string ⟨(Lib.join (ss.map (·.data.toList)) sep.data.toList).toArray⟩)) u) := fun a c e0 => by
        refine (hc.1 a c sep w).mono ?_
        rintro e w' ⟨rfl, rfl⟩
        refine ⟨_, C, rfl, hw, Ext.refl _ _, ?_⟩
        rw [e0, join_nil']
        exact .sc _
       have fin1 : ∀ (bk o c : Nat), (∀ (j : Nat) x, ss[j]? = some x → w.cell? ⟨bk, o + j, none⟩ = some (.string x)) → bk < w.heap.size → ss.length ≤ c → Calls E.P f #[.slice (some ⟨bk, o, none⟩) ss.length c, .string sep] w (fun e w' => ∃ u C', e = .returned u ∧ WR E C' S w' ∧ Ext C w C' w' ∧ VR C' w' (.sc (.string ⟨(Lib.join (ss.map (·.data.toList)) sep.data.toList).toArray⟩)) u) := fun bk o c h1 h2 h3 => by
        refine (hc.2 bk o c ss sep w h1 h2 (by omega) h3 (by omega)).mono ?_
        rintro e w' ⟨rfl, hbel⟩
        exact ⟨_, C, rfl, hw.later hbel, Ext.later hw hbel, .sc _⟩
       unfold joinElems at hxs
       split at hxs
       · simp only [Option.some.injEq] at hxs
         subst hxs
         have : ss = [] := by cases ss with | nil => rfl | cons a b => simp at hxe
         rw [hv.sc_inv]
         exact fin0 none 0 this
       · rename_i id sz ys _
         simp only [Option.some.injEq] at hxs
         subst hxs
         cases hv with
         | vec0 _ a c =>
          have : ss = [] := by cases ss with | nil => rfl | cons a b => simp at hxe
          exact fin0 _ _ this
         | vec _ _ _ fl b o cap u hs hlc hfl hbh hf ht hcell hr hid hx1 hx2 =>
          by_cases hne : ss = []
          · have h0 : ys = [] := by rw [hxe, hne]; rfl
            subst h0
            exact fin0 _ _ hne
          · rw [hxe] at hfl
            obtain ⟨rfl, rfl⟩ := flatJ hfl hne
            have hlen : ys.length = ss.length := by rw [hxe, List.length_map]
            rw [hlen] at hlc ⊢
            refine fin1 b o cap (fun j x hx => ?_) hbh hlc
            have hj : j < ss.length := (List.getElem?_eq_some_iff.1 hx).1
            rw [hcell j (by simpa using hj)]
            have := (hr j (.sc (.string x)) (by rw [List.getElem?_map, hx]; rfl)).sc_inv
            rw [this]
       · rename_i l sz off len room _
         simp only [cond_eq_ite] at hxs
         split at hxs
         · rename_i hsz
           have hsz := Nat.eq_of_beq_eq_true hsz
           subst hsz
           obtain ⟨cs, k1, k2, k3, k4⟩ := osl_elems hxs
           rw [Nat.mul_one] at k2 k3 k4
           obtain ⟨g1, g2⟩ := flat_groups false 1 (.inr rfl) len _ (by rw [k2, Nat.mul_one]) k3
           rw [← k4] at g1 g2
           have hlen : ss.length = len := by rw [← g2, hxe, List.length_map]
           rw [hxe, flat1_strs] at g1
           have g1 := Option.some.inj g1
           cases hv with
           | osl _ _ _ _ _ a cap hbn hs' hlr hrc hro hcl ha =>
            by_cases hne : ss = []
            · have h0 : len = 0 := by rw [← hlen, hne]; rfl
              subst h0
              exact fin0 _ _ hne
            · have hpos : 0 < len := by rw [← hlen]; exact List.length_pos_iff.2 hne
              obtain rfl := ha (by omega)
              obtain ⟨us, q1, q2⟩ := seg_shift (obj_seg hw hbn k1) off len
              rw [← hlen]
              refine fin1 _ _ _ (fun j x hx => ?_) (hw.mub l hbn).2 (by omega)
              have hx' : ((cs.drop off).take len)[j]? = some (.sc (.string x)) := by rw [← g1, List.getElem?_map, hx]; rfl
              obtain ⟨v, h3, h4⟩ := q1.get hx'
              have := q2 j v h3
              rw [h4.sc_inv] at this
              exact this
         · cases hxs
       · cases hxs
     · cases h
   · cases h
 · cases h
theorem joinX_evo {args : List AV} {S : St} {r : AV} {S' : St} (h : joinX args S = some (r, S')) : Evo S S' := by
 unfold joinX at h
 split at h
 · split at h
   · simp only [cond_eq_ite] at h
     split at h
     · simp only [Option.some.injEq, Prod.mk.injEq] at h
       obtain ⟨_, rfl⟩ := h
       exact Evo.refl _
     · cases h
   · cases h
 · cases h
theorem joinX_frm {D : Nat → Prop} {A X : St} {args : List AV} {r : AV} {A' : St} (k : Frm D A X) (h : joinX args A = some (r, A')) : Does D A X r A' (joinX args X) := by
 unfold joinX at h ⊢
 split at h
 · rename_i x sep
   split at h
   · rename_i ss hss
     obtain ⟨xs, hxs, hst⟩ := Option.bind_eq_some_iff.1 hss
     have hX : joinElems X x = some xs := by
      unfold joinElems at hxs ⊢
      split at hxs
      · exact hxs
      · exact hxs
      · simp only [cond_eq_ite] at hxs ⊢
        split at hxs
        · rename_i hb
          rw [if_pos hb]
          exact osl_frm k hxs
        · cases hxs
      · cases hxs
     have hss' : (joinElems X x).bind strsOf = some ss := by rw [hX]; exact hst
     simp only [hss']
     simp only [cond_eq_ite] at h ⊢
     split at h
     · rename_i hb
       rw [if_pos hb]
       simp only [Option.some.injEq, Prod.mk.injEq] at h
       obtain ⟨rfl, rfl⟩ := h
       exact ⟨X, rfl, Stp.refl k⟩
     · cases h
   · cases h
 · cases h
end Go.Abs
end
end

section
section
set_option linter.unusedSimpArgs false
set_option linter.unusedVariables false
namespace Go.Proofs.YtmmnkemcplgebaaGreatDoor
open Go.Shelf Go
def fmtLays_ren : Go.Shelf.Ren := ⟨fun | 173 => 65 | 246 => 88 | 283 => 107 | 284 => 108 | 285 => 109 | 286 => 110 | 129 => 105 | 317 => 129 | 318 => 130 | 319 => 131 | 320 => 132 | 337 => 143 | 338 => 144 | n => n, fun | 2 => 2 | 3 => 3 | 9 => 9 | 4 => 4 | 171 => 147 | 0 => 0 | 53 => 132 | 37 => 74 | 5 => 5 | 173 => 149 | 212 => 169 | 51 => 145 | 20 => 20 | 213 => 170 | 46 => 120 | 232 => 180 | 233 => 181 | n => n, fun | 17 => 0 | 18 => 7 | 19 => 8 | n => n⟩
theorem fmtLays : Go.Proofs.LaysM.n173 Tryz.prog fmtLays_ren := {
 mixed := by kernel_rfl,
 f129 := Tryz.func105.trans (congrArg some (by kernel_rfl)),
 f173 := Tryz.func65.trans (congrArg some (by kernel_rfl)),
 f246 := Tryz.func88.trans (congrArg some (by kernel_rfl)),
 f283 := Tryz.func107.trans (congrArg some (by kernel_rfl)),
 f284 := Tryz.func108.trans (congrArg some (by kernel_rfl)),
 f285 := Tryz.func109.trans (congrArg some (by kernel_rfl)),
 f286 := Tryz.func110.trans (congrArg some (by kernel_rfl)),
 f317 := Tryz.func129.trans (congrArg some (by kernel_rfl)),
 f318 := Tryz.func130.trans (congrArg some (by kernel_rfl)),
 f319 := Tryz.func131.trans (congrArg some (by kernel_rfl)),
 f320 := Tryz.func132.trans (congrArg some (by kernel_rfl)),
 f337 := Tryz.func143.trans (congrArg some (by kernel_rfl)),
 f338 := Tryz.func144.trans (congrArg some (by kernel_rfl)),
 t0 := Tryz.underlying0,
 a0 := Tryz.isAgg0,
 z0 := Tryz.sizeOf0,
 v0 := Tryz.zeroValue0,
 t2 := Tryz.underlying2,
 a2 := Tryz.isAgg2,
 z2 := Tryz.sizeOf2,
 v2 := Tryz.zeroValue2,
 t3 := Tryz.underlying3,
 a3 := Tryz.isAgg3,
 z3 := Tryz.sizeOf3,
 v3 := Tryz.zeroValue3,
 t4 := Tryz.underlying4,
 a4 := Tryz.isAgg4,
 z4 := Tryz.sizeOf4,
 v4 := Tryz.zeroValue4,
 t5 := Tryz.underlying5,
 a5 := Tryz.isAgg5,
 z5 := Tryz.sizeOf5,
 v5 := Tryz.zeroValue5,
 t9 := Tryz.underlying9,
 a9 := Tryz.isAgg9,
 z9 := Tryz.sizeOf9,
 v9 := Tryz.zeroValue9,
 t20 := Tryz.underlying20,
 a20 := Tryz.isAgg20,
 z20 := Tryz.sizeOf20,
 v20 := Tryz.zeroValue20,
 t37 := Tryz.underlying74,
 a37 := Tryz.isAgg74,
 z37 := Tryz.sizeOf74,
 v37 := Tryz.zeroValue74,
 t46 := Tryz.underlying120,
 a46 := Tryz.isAgg120,
 z46 := Tryz.sizeOf120,
 v46 := Tryz.zeroValue120,
 t51 := Tryz.underlying145,
 a51 := Tryz.isAgg145,
 z51 := Tryz.sizeOf145,
 v51 := Tryz.zeroValue145,
 t53 := Tryz.underlying132,
 a53 := Tryz.isAgg132,
 z53 := Tryz.sizeOf132,
 v53 := Tryz.zeroValue132,
 t171 := Tryz.underlying147,
 a171 := Tryz.isAgg147,
 z171 := Tryz.sizeOf147,
 v171 := Tryz.zeroValue147,
 t173 := Tryz.underlying149,
 a173 := Tryz.isAgg149,
 z173 := Tryz.sizeOf149,
 v173 := Tryz.zeroValue149,
 t212 := Tryz.underlying169,
 a212 := Tryz.isAgg169,
 z212 := Tryz.sizeOf169,
 v212 := Tryz.zeroValue169,
 t213 := Tryz.underlying170,
 a213 := Tryz.isAgg170,
 z213 := Tryz.sizeOf170,
 t232 := Tryz.underlying180,
 a232 := Tryz.isAgg180,
 z232 := Tryz.sizeOf180,
 v232 := Tryz.zeroValue180,
 t233 := Tryz.underlying181,
 a233 := Tryz.isAgg181,
 z233 := Tryz.sizeOf181,
 v233 := Tryz.zeroValue181,
 g17 := by kernel_rfl,
 g18 := by kernel_rfl,
 g19 := by kernel_rfl,
 i0 := by kernel_rfl,
 i2 := by kernel_rfl,
 i3 := by kernel_rfl,
 i4 := by kernel_rfl,
 i5 := by kernel_rfl,
 i9 := by kernel_rfl,
 i20 := by kernel_rfl,
 i37 := by kernel_rfl,
 i46 := by kernel_rfl,
 i51 := by kernel_rfl,
 i53 := by kernel_rfl,
 i171 := by kernel_rfl,
 i173 := by kernel_rfl,
 i212 := by kernel_rfl,
 i232 := by kernel_rfl,
 i233 := by kernel_rfl,
 m17 := by kernel_rfl,
 m18 := by kernel_rfl,
 m19 := by kernel_rfl }
end Go.Proofs.YtmmnkemcplgebaaGreatDoor
end
end

section
section
set_option linter.unusedSimpArgs false
set_option linter.unusedVariables false
set_option maxRecDepth 100000
namespace Go.Proofs.YtmmnkemcplgebaaGreatDoor
open Go.Abs Go.RowKit
noncomputable def propsV : List Value := Lib.propertiesTab.map fun z => .int .u8 z
noncomputable def firstV : List Value := (List.range 256).map fun c => .int .u8 (Lib.firstT c)
noncomputable def acceptV : List Value := (List.range 32).map fun i => .int .u8 (bif Nat.beq (i % 2) 0 then Lib.accLo (i / 2) else Lib.accHi (i / 2))
noncomputable def powV : List Value := Lib.pow10Tab.map fun z => .int .u64 z
noncomputable def tabs (g : Nat) : Option (List AV) :=
 bif Nat.beq g 2 then some (propsV.map .sc) else bif Nat.beq g 3 then some [rtabA Lib.letterT] else bif Nat.beq g 4 then some [rtabA Lib.upperT]
 else bif Nat.beq g 5 then some (firstV.map .sc) else bif Nat.beq g 6 then some (acceptV.map .sc) else bif Nat.beq g 0 then some (powV.map .sc) else none
noncomputable def decF : List AV → Option AV
 | [.sc (.string s)] => some (.tup [.sc (.int .i32 (firstF s)), .sc (.int .i64 ((Lib.decodeGo s).2 : Nat))])
 | _ => none
noncomputable def isTab (T : Lib.RTab) : AV → Bool
 | .eptr [a, b, c] 0 => eqA 40 a (.vec 0 3 (rgA .u16 T.r16.toList)) && eqA 40 b (.vec 0 3 (rgA .u32 T.r32.toList)) && eqA 40 c (.sc (.int .i64 T.off))
 | _ => false
theorem isTab_eq {T : Lib.RTab} {t : AV} (h : isTab T t = true) : t = rtabA T := by
 unfold isTab at h
 split at h
 · simp only [Bool.and_eq_true] at h
   rw [eqA_eq 40 _ _ h.1.1, eqA_eq 40 _ _ h.1.2, eqA_eq 40 _ _ h.2]
   rfl
 · cases h
noncomputable def exclF : List AV → Option AV
 | [t, .sc (.int .i32 r)] => bif decide (-2147483648 ≤ r) && decide (r ≤ 2147483647) then
  (bif isTab Lib.letterT t then some (.sc (.bool (Lib.exclGo Lib.letterT r))) else bif isTab Lib.upperT t then some (.sc (.bool (Lib.exclGo Lib.upperT r))) else none) else none
 | _ => none
theorem eq_ll : isTab Lib.letterT (rtabA Lib.letterT) = true := by kernel_rfl
theorem eq_ul : isTab Lib.letterT (rtabA Lib.upperT) = false := by kernel_rfl
theorem eq_uu : isTab Lib.upperT (rtabA Lib.upperT) = true := by kernel_rfl
theorem excl_l (r : Int) (h1 : -2147483648 ≤ r) (h2 : r ≤ 2147483647) : exclF [rtabA Lib.letterT, .sc (.int .i32 r)] = some (.sc (.bool (Lib.exclGo Lib.letterT r))) := by
 simp only [exclF, decide_eq_true h1, decide_eq_true h2, eq_ll, Bool.and_self, cond_true]
theorem excl_u (r : Int) (h1 : -2147483648 ≤ r) (h2 : r ≤ 2147483647) : exclF [rtabA Lib.upperT, .sc (.int .i32 r)] = some (.sc (.bool (Lib.exclGo Lib.upperT r))) := by
 simp only [exclF, decide_eq_true h1, decide_eq_true h2, eq_ul, eq_uu, Bool.and_self, cond_true, cond_false]
structure Here (E : Env) : Prop where
 P : E.P = Tryz.prog
 G : E.G = tabs
theorem excl_ok {E : Env} (hE : Here E) {args : List AV} {S : St} {r : AV} {S' : St} (hm : pureX exclF args S = some (r, S')) {C : Ctx} {w : World} {vs : Array Value} (hw : WR E C S w) (hl : LR C w args vs.toList) :
 Calls E.P 145 vs w (fun e w' => ∃ u C', e = .returned u ∧ WR E C' S' w' ∧ Ext C w C' w' ∧ VR C' w' r u) := by
 refine pureX_ok hm hw fun hF => ?_
 obtain ⟨vs⟩ := vs
 unfold exclF at hF
 split at hF
 · rename_i t z
   simp only [cond_eq_ite] at hF
   split at hF
   · rename_i hr
     simp only [Bool.and_eq_true, decide_eq_true_eq] at hr
     match vs, hl with
     | [v0, v1], hl =>
     have h0 := hl.head
     have h1 := hl.tail.head.sc_inv
     have fin : ∀ T, t = rtabA T → Lib.RTabOk T → ∃ u, Calls E.P 145 #[v0, v1] w (fun e w' => e = .returned u ∧ Below w.heap.size w w') ∧ u = .bool (Lib.exclGo T z) := fun T ht hT => by
      subst ht
      obtain ⟨Tb, oT, rfl, hA⟩ := rtab_of h0
      rw [h1, hE.P]
      exact ⟨_, Any.unicode_isExcludingLatin_any exclLays Tb oT T z w hr.1 hr.2 hA hT, rfl⟩
     split at hF
     · rename_i he
       obtain ⟨u, k1, k2⟩ := fin _ (isTab_eq he) Lib.letterT_ok
       simp only [Option.some.injEq] at hF
       subst hF
       rw [k2] at k1
       exact ⟨_, k1, fun _ _ => .sc _⟩
     · split at hF
       · rename_i he
         obtain ⟨u, k1, k2⟩ := fin _ (isTab_eq he) Lib.upperT_ok
         simp only [Option.some.injEq] at hF
         subst hF
         rw [k2] at k1
         exact ⟨_, k1, fun _ _ => .sc _⟩
       · cases hF
   · cases hF
 · cases hF
theorem tabs_first : tabs 5 = some (firstV.map .sc) := by kernel_rfl
theorem tabs_accept : tabs 6 = some (acceptV.map .sc) := by kernel_rfl
theorem utf8_of {E : Env} (hE : Here E) {C : Ctx} {S : St} {w : World} (hw : WR E C S w) : Lib.Utf8Tabs 5 6 w := by
 have k1 := cells_of (hw.glob _ _ (by rw [hE.G]; exact tabs_first)).vr
 have k2 := cells_of (hw.glob _ _ (by rw [hE.G]; exact tabs_accept)).vr
 refine ⟨fun c hc => k1 c _ (by simp [firstV, hc]), fun i hi => ⟨k2 (2 * i) _ ?_, k2 (2 * i + 1) _ ?_⟩⟩
 · have h : 2 * i < 32 := by omega
   have e : 2 * i % 2 = 0 := by omega
   have d : 2 * i / 2 = i := by omega
   simp [acceptV, h, e, d]
 · have h : 2 * i + 1 < 32 := by omega
   have e : (2 * i + 1) % 2 = 1 := by omega
   have d : (2 * i + 1) / 2 = i := by omega
   have b : Nat.beq 1 0 = false := rfl
   simp [acceptV, h, e, d, b]
theorem dec_ok {E : Env} (hE : Here E) {args : List AV} {S : St} {r : AV} {S' : St} (hm : pureX decF args S = some (r, S')) {C : Ctx} {w : World} {vs : Array Value} (hw : WR E C S w) (hl : LR C w args vs.toList) :
 Calls E.P 115 vs w (fun e w' => ∃ u C', e = .returned u ∧ WR E C' S' w' ∧ Ext C w C' w' ∧ VR C' w' r u) := by
 refine pureX_ok hm hw fun hF => ?_
 obtain ⟨vs⟩ := vs
 unfold decF at hF
 split at hF
 · rename_i s
   match vs, hl with
   | [v0], hl =>
   rw [hl.head.sc_inv, hE.P]
   simp only [Option.some.injEq] at hF
   subst hF
   refine ⟨_, Any.utf8_DecodeRuneInString decLays s w (utf8_of hE hw), fun C w => ?_⟩
   · refine .tup _ _ rfl fun i x hx => ?_
     match i, hx with
     | 0, hx => simp at hx; subst hx; exact .sc _
     | 1, hx => simp at hx; subst hx; exact .sc _
     | i + 2, hx => simp at hx
 · cases hF
noncomputable def fmtF : List AV → Option AV
 | [.sc (.int .i64 n), .sc (.int .i64 b)] => bif decide (-9223372036854775808 ≤ n) && decide (n ≤ 9223372036854775807) && decide (b = 10) then some (.sc (.string ⟨(Lib.itoa n).toArray⟩)) else none
 | _ => none
theorem tabs_pow : tabs 0 = some (powV.map .sc) := by kernel_rfl
theorem powV_len : powV.length = 20 := by simp [powV, Lib.pow10Tab_length]
theorem pow_of {E : Env} (hE : Here E) {C : Ctx} {S : St} {w : World} (hw : WR E C S w) : Lib.TabIs Tryz.prog w "internal/strconv.uint64pow10" .u64 Lib.pow10Tab := by
 have k := hw.glob 0 (powV.map .sc) (by rw [hE.G]; exact tabs_pow)
 have kc := cells_of k.vr
 obtain ⟨c, T, fz, h1, h2⟩ := k.whole (by rw [List.length_map, powV_len]; decide) (by rw [List.length_map, powV_len]; decide)
 rw [List.length_map] at h2
 have hg : Tryz.prog.globalNamed "internal/strconv.uint64pow10" = some 0 := by kernel_rfl
 have hc : c = powV.toArray := by
  apply Array.ext
  · rw [h2, List.size_toArray]
  · intro i a1 a2
    rw [List.size_toArray] at a2
    have := kc i powV[i] (List.getElem?_eq_getElem a2)
    rw [cell_block h1, Array.getElem?_eq_getElem a1] at this
    simpa using this
 show w.var? Tryz.prog "internal/strconv.uint64pow10" = some powV.toArray
 simp only [World.var?, hg, Option.bind_some, h1, hc]
theorem fmt_ok {E : Env} (hE : Here E) {args : List AV} {S : St} {r : AV} {S' : St} (hm : pureX fmtF args S = some (r, S')) {C : Ctx} {w : World} {vs : Array Value} (hw : WR E C S w) (hl : LR C w args vs.toList) :
 Calls E.P 65 vs w (fun e w' => ∃ u C', e = .returned u ∧ WR E C' S' w' ∧ Ext C w C' w' ∧ VR C' w' r u) := by
 refine pureX_ok hm hw fun hF => ?_
 obtain ⟨vs⟩ := vs
 unfold fmtF at hF
 split at hF
 · rename_i n b
   match vs, hl with
   | [v0, v1], hl =>
   rw [hl.head.sc_inv, hl.tail.head.sc_inv, hE.P]
   simp only [cond_eq_ite] at hF
   split at hF
   · rename_i hb
     simp only [Bool.and_eq_true, decide_eq_true_eq] at hb
     obtain ⟨⟨b1, b2⟩, rfl⟩ := hb
     simp only [Option.some.injEq] at hF
     subst hF
     refine ⟨_, (Any.strconv_FormatInt_10 fmtLays n b1 b2 w (pow_of hE hw)).mono ?_, fun C w => .sc _⟩
     rintro e w' ⟨rfl, k, os, rfl⟩
     exact ⟨rfl, Lib.below_grow _ _ (Nat.le_refl _) _ _⟩
   · cases hF
 · cases hF
end Go.Proofs.YtmmnkemcplgebaaGreatDoor
end
end

section
section
set_option linter.unusedSimpArgs false
set_option linter.unusedVariables false
namespace Go.Abs
section
variable {E : Env} {nt : Nat}
structure DrawMk2 (E : Env) (nt : Nat) (ops : Array Oper) (n : Nat) (l1 : List POp) (i : Nat) (d : Option Tmp) (op : Op) (l2 : List POp) (j : Nat) (d2 : Option Tmp) (op2 : Op) (l3 : List POp) (az : List Operand) : Prop where
 size : ops.size = n
 parts : ∃ p o q o2 r, ops.toList = p ++ o :: (q ++ o2 :: r) ∧ p.length = i ∧ o.dst = d ∧ o.op = op ∧ o.guard = none ∧ dstOk nt d = true ∧ isMk E o = true ∧ i + 1 + q.length = j ∧ o2.dst = d2 ∧ o2.op = op2 ∧ o2.guard = none ∧ dstOk nt d2 = true ∧ isMk E o2 = true ∧ popsOf nt ops p = some l1 ∧ popsOf nt ops q = some l2 ∧ popsOf nt ops r = some l3 ∧ p.all (fun o => !isMk E o) = true ∧ q.all (fun o => !isMk E o) = true ∧ r.all (fun o => !isMk E o) = true
 pairs : allPairs E ops (masks 0 ops.toList .leaf) 0 ops.toList = true
 seen : seenAll E ops (masks 0 ops.toList .leaf) 0 ops.toList = true
 loads : allLoads ops.toList = some az
end
end Go.Abs
end
end
