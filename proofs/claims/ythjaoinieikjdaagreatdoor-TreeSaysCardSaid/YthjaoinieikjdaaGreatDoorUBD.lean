/-
  The library's tables of this seat, out of the readings: what the evaluator wants of them.
-/
import Derived.Test.YthjaoinieikjdaaGreatDoorUAW
import Derived.Lib.LaidRTab
import Derived.Lib.LaidU8
import Derived.Test.YthjaoinieikjdaaGreatDoorUAP
import Derived.Deep.Slices
import Derived.Test.YthjaoinieikjdaaGreatDoorUBC
import Derived.ProofKit
import Derived.OpenShut
import Derived.ChangeOld
import Derived.Deep.Strs
set_option linter.unusedSimpArgs false
set_option linter.unusedVariables false
set_option maxRecDepth 100000
namespace Go.Proofs.YthjaoinieikjdaaGreatDoor
open Go.Abs Go.Lib Go.ChangeShapes Go.WideShapes Go.RowKit
theorem wr6 {P : Program} {ρ : Go.Shelf.Ren} (L : Go.Proofs.Lays.n261 P ρ) (X : Go.Proofs.RExtra P ρ) {name : String} {g : Nat} (hn : P.globalNamed name = some g) (hy : (P.globals[g]?).map (·.type) = some (ρ.t 141)) {T : RTab} (n16 : 0 < T.r16.size) (n32 : 0 < T.r32.size) {w : World} (h : VarReads P w name (rtabData T)) : RVar2 g T w := by
 obtain ⟨g', t, cs, fuel, p, hg, hty, hvar, hd⟩ := h
 obtain rfl := cZ (hn.symm.trans hg)
 obtain rfl := cZ (hy.symm.trans hty)
 rcases DataW.trod_pointer L.t141 hd with ⟨_, hx⟩ | ⟨a, cs', y, n, rfl, hcs, hx, hcells, hy'⟩
 · cases hx
 have hy1 : y.1 = .agg [rgSlice .u16 T.r16, rgSlice .u32 T.r32, .lit (.int .i64 T.off)] := by
  have := congrArg Prod.fst hx
  simpa [rtabData] using this.symm
 rw [X.c196] at hcells
 obtain ⟨_, hl', hc'⟩ := World.cells?_some hcells
 obtain ⟨xs, n', rfl, hxs, _, hxl, hall⟩ := DataW.trod_struct L.t196 hy'
 have hx3 : xs.map (·.1) = [rgSlice .u16 T.r16, rgSlice .u32 T.r32, .lit (.int .i64 T.off)] := by
  rw [hxs] at hy1
  simpa using hy1
 obtain ⟨x0, x1, x2, rfl⟩ : ∃ x0 x1 x2, xs = [x0, x1, x2] := by
  match xs, hx3 with
  | [x0, x1, x2], _ => exact ⟨x0, x1, x2, rfl⟩
 simp only [cF, jQ, List.cons.injEq, and_true] at hx3
 obtain ⟨e0, e1, e2⟩ := hx3
 have f0 := hall 0 _ rfl
 have f1 := hall 1 _ rfl
 have f2 := hall 2 _ rfl
 change DataW.trod _ _ _ _ _ _ _ (ρ.t 193) ((cs'.drop 0).take (P.cellsOf (ρ.t 193))) = some x0 at f0
 change DataW.trod _ _ _ _ _ _ _ (ρ.t 194) ((cs'.drop 1).take (P.cellsOf (ρ.t 194))) = some x1 at f1
 change DataW.trod _ _ _ _ _ _ _ (ρ.t 3) ((cs'.drop 2).take (P.cellsOf (ρ.t 3))) = some x2 at f2
 rw [X.c193] at f0
 rw [X.c194] at f1
 rw [X.c3] at f2
 obtain ⟨a16, R16, o16, c16, q16, ha16, t16, hc16⟩ := Go.Proofs.rgTab_of_trod_u16 L X f0 e0
 obtain ⟨a32, R32, o32, c32, q32, ha32, t32, hc32⟩ := Go.Proofs.rgTab_of_trod_u32 L X f1 e1
 have q2 : (cs'.drop 2).take 1 = [.int .i64 T.off] := by
  obtain ⟨z, hz, hx', _⟩ := DataW.trod_int L.t3 f2
  rw [hx'] at e2
  cases e2
  exact hz
 have atk : ∀ {k : Nat} {v : Value}, (cs'.drop k).take 1 = [v] → cs'[k]? = some v := fun {k v} hh => by
  have := congrArg (·[0]?) hh
  simpa [oR, jM] using this
 obtain ⟨Tb, oT, sT⟩ := a
 have k0 := (hc' 0 (by omega)).trans (atk q16)
 obtain rfl : sT = none := by
  have : (Addr.add ⟨Tb, oT, sT⟩ 0) = ⟨Tb, oT, sT⟩ := by simp [Addr.add]
  rw [this] at k0
  exact World.cell?_spot k0
 have k1 := (hc' 1 (by omega)).trans (atk q32)
 have k2 := (hc' 2 (by omega)).trans (atk q2)
 rw [WideShapes.add_plain] at k0 k1 k2
 rw [ha16 n16] at k0
 rw [ha32 n32] at k1
 refine ⟨Tb, oT, R16, o16, c16, R32, o32, c32, ?_, by simpa using k0, k1, k2, t16, t32, hc16, hc32⟩
 rw [World.var?_cell hg hvar 0, ← Array.getElem?_toList, hcs]
 rfl
theorem rX : Go.Proofs.RExtra Tryz.prog xd6 := ⟨by kernel_rfl, by kernel_rfl, by kernel_rfl, by kernel_rfl, by kernel_rfl, by kernel_rfl, by kernel_rfl, by kernel_rfl⟩
theorem uX : Go.Proofs.U8Extra Tryz.prog xo8 := ⟨by kernel_rfl, by kernel_rfl, by kernel_rfl, by kernel_rfl, by kernel_rfl, by kernel_rfl, by kernel_rfl⟩
theorem kn3 : Rows.laid_unicode_Letter = rtabData letterT := by kernel_rfl
theorem kw8 : Rows.laid_unicode_Upper = rtabData upperT := by kernel_rfl
theorem jc8 : Rows.laid_unicode_utf8_first = firstData := by kernel_rfl
theorem kv7 : (Rows.laid_unicode_utf8_acceptRanges : DataW Unit) = acceptData := by kernel_rfl
theorem kz3 : (Rows.laid_unicode_properties : DataW Unit) = tabData .u8 propertiesTab := by kernel_rfl
theorem pow_eq : (Rows.laid_internal_strconv_uint64pow10 : DataW Unit) = tabData .u64 pow10Tab := by kernel_rfl
theorem kk8 {W : World} (h : VarReads Tryz.prog W "internal/strconv.uint64pow10" Rows.laid_internal_strconv_uint64pow10) : ∃ c T fz, W.heap[3]? = some (.cells c T fz) ∧ c.size = (powV.map AV.sc).length := by
 obtain ⟨g', t', c, fuel, p, k1, k2, k3, k4⟩ := h
 have hg : Tryz.prog.globalNamed "internal/strconv.uint64pow10" = some 3 := by kernel_rfl
 have ht : (Tryz.prog.globals[3]?).map (·.type) = some 238 := by kernel_rfl
 obtain rfl : g' = 3 := (cZ (hg.symm.trans k1)).symm
 obtain rfl : t' = 238 := (cZ (ht.symm.trans k2)).symm
 rw [pow_eq] at k4
 have hc := Lib.cells_of_tab (e := 202) (n := 20) (show Tryz.prog.underlying 238 = some (.array 20 202) by kernel_rfl) (show Tryz.prog.underlying 202 = some (.int .u64) by kernel_rfl) (by kernel_rfl) (by kernel_rfl) k4
 simp only [World.var?, k1, aD] at k3
 split at k3
 · rename_i c' T fz hh
   obtain rfl := cZ k3
   refine ⟨_, T, fz, hh, ?_⟩
   rw [← jA, hc]
   simp [powV]
 · cases k3
theorem wx9 {w : World} (h3 : VarReads Tryz.prog w "unicode/utf8.first" Rows.laid_unicode_utf8_first) (h4 : VarReads Tryz.prog w "unicode/utf8.acceptRanges" Rows.laid_unicode_utf8_acceptRanges) : Utf8Tabs 5 6 w := by
 rw [jc8] at h3
 rw [kv7] at h4
 exact Go.Proofs.utf8Tabs_of_reads { kt7 with } uX h3 h4
theorem firstVR {w : World} (h : Utf8Tabs 5 6 w) : VR (C0 w) w (.eptr (firstV.map .sc) 0) (.pointer (some ⟨5, 0, none⟩)) := by
 refine xy1 firstV (by simp [firstV]) fun i z hz => ?_
 have hi : i < 256 := by
  have := (List.getElem?_eq_some_iff.1 hz).1
  simpa [firstV] using this
 simp only [firstV, List.getElem?_map, List.getElem?_range hi, iH, aI] at hz
 rw [← hz]
 exact h.1 i hi
theorem jh7 {w : World} (h : Utf8Tabs 5 6 w) : VR (C0 w) w (.eptr (acceptV.map .sc) 0) (.pointer (some ⟨6, 0, none⟩)) := by
 refine xy1 acceptV (by simp [acceptV]) fun i z hz => ?_
 have hi : i < 32 := by
  have := (List.getElem?_eq_some_iff.1 hz).1
  simpa [acceptV] using this
 simp only [acceptV, List.getElem?_map, List.getElem?_range hi, iH, aI] at hz
 rw [← hz]
 obtain ⟨k1, k2⟩ := h.2 (i / 2) (by omega)
 rcases Nat.mod_two_eq_zero_or_one i with e | e
 · have : 2 * (i / 2) = i := by omega
   rw [this] at k1
   rw [k1, e]; rfl
 · have : 2 * (i / 2) + 1 = i := by omega
   rw [this] at k2
   rw [k2, e]; rfl
theorem tabVR {W : World} {name : String} {d : DataW Unit} {g t e : Nat} {k : IntKind} {zs : List Int} {n : Nat} (h0 : zs ≠ []) (h : VarReads Tryz.prog W name d) (hd : d = tabData k zs) (hg : Tryz.prog.globalNamed name = some g) (ht : (Tryz.prog.globals[g]?).map (·.type) = some t)
 (hu : Tryz.prog.underlying t = some (.array n e)) (he : Tryz.prog.underlying e = some (.int k)) (c1 : Tryz.prog.cellsOf e = 1) (c2 : Tryz.prog.cellsOf t = n) : VR (C0 W) W (.eptr (zs.map fun z => .sc (.int k z)) 0) (.pointer (some ⟨g, 0, none⟩)) := by
 obtain ⟨g', t', c, fuel, p, k1, k2, k3, k4⟩ := h
 obtain rfl : g' = g := (cZ (hg.symm.trans k1)).symm
 obtain rfl : t' = t := (cZ (ht.symm.trans k2)).symm
 rw [hd] at k4
 have hc := Lib.cells_of_tab (e := e) (n := n) hu he c1 c2 k4
 have := xy1 (w := W) (g := g') (zs.map fun z => Value.int k z) (by simpa using h0) (fun i z hz => by
  rw [World.var?_cell k1 k3 i, ← Array.getElem?_toList, hc]
  exact hz)
 rw [iJ] at this
 exact this
theorem tabs_ok {W : World} (h1 : VarReads Tryz.prog W "unicode.properties" Rows.laid_unicode_properties) (h2 : VarReads Tryz.prog W "unicode.Letter" Rows.laid_unicode_Letter) (h3 : VarReads Tryz.prog W "unicode.Upper" Rows.laid_unicode_Upper)
 (h4 : VarReads Tryz.prog W "unicode/utf8.first" Rows.laid_unicode_utf8_first) (h5 : VarReads Tryz.prog W "unicode/utf8.acceptRanges" Rows.laid_unicode_utf8_acceptRanges) (h6 : VarReads Tryz.prog W "internal/strconv.uint64pow10" Rows.laid_internal_strconv_uint64pow10) : ∀ g cs, pP g = some cs → GlobR (C0 W) W g cs := by
 intro g cs hg
 have hu := wx9 h4 h5
 unfold pP at hg
 simp only [bB] at hg
 split at hg
 · rename_i hb
   obtain rfl := bA hb
   obtain rfl := cZ hg
   have : propsV.map AV.sc = propertiesTab.map fun z => AV.sc (.int .u8 z) := by unfold propsV; rw [iJ]; rfl
   rw [this]
   refine wC ?_ (by rw [eE]; decide)
   exact tabVR (n := 256) (t := 229) (e := 5) (by decide) h1 kz3 (by kernel_rfl) (by kernel_rfl) (by kernel_rfl) (by kernel_rfl) (by kernel_rfl) (by kernel_rfl)
 split at hg
 · rename_i hb
   obtain rfl := bA hb
   obtain rfl := cZ hg
   rw [kn3] at h2
   refine wC ?_ (.inl (aB _))
   exact km0 (lQ (by kernel_rfl)) (lQ (by kernel_rfl)) (wr6 xz8 rX (by kernel_rfl) (by kernel_rfl) (lQ (by kernel_rfl)) (lQ (by kernel_rfl)) h2)
 split at hg
 · rename_i hb
   obtain rfl := bA hb
   obtain rfl := cZ hg
   rw [kw8] at h3
   refine wC ?_ (.inl (aB _))
   exact km0 (lQ (by kernel_rfl)) (lQ (by kernel_rfl)) (wr6 xz8 rX (by kernel_rfl) (by kernel_rfl) (lQ (by kernel_rfl)) (lQ (by kernel_rfl)) h3)
 split at hg
 · rename_i hb
   obtain rfl := bA hb
   obtain rfl := cZ hg
   exact wC (firstVR hu) (.inr (by simp [firstV]))
 split at hg
 · rename_i hb
   obtain rfl := bA hb
   obtain rfl := cZ hg
   exact wC (jh7 hu) (.inr (by simp [acceptV]))
 split at hg
 · rename_i hb
   obtain rfl := bA hb
   obtain rfl := cZ hg
   have e : powV.map AV.sc = Lib.pow10Tab.map fun z => AV.sc (.int .u64 z) := by unfold powV; rw [iJ]; rfl
   have hv : VR (C0 W) W (.eptr (powV.map AV.sc) 0) (.pointer (some ⟨3, 0, none⟩)) := by
    rw [e]
    exact tabVR (n := 20) (t := 238) (e := 202) (by decide) h6 pow_eq (by kernel_rfl) (by kernel_rfl) (by kernel_rfl) (by kernel_rfl) (by kernel_rfl) (by kernel_rfl)
   refine ⟨hv, ?_, fun _ _ => ?_⟩
   · obtain ⟨b, o, hU, hb, _⟩ := hv.eptr_inv
     have hU' : b = 3 ∧ o = 0 := by
      simp only [Value.pointer.injEq, aI, Addr.mk.injEq] at hU
      omega
     obtain ⟨rfl, rfl⟩ := hU'
     exact hb
   · exact kk8 h6
 cases hg
end Go.Proofs.YthjaoinieikjdaaGreatDoor
namespace Go.Abs
open Go.ChangeShapes Go.WideShapes
theorem yy5 {w : World} {a : Addr} {v : Value} (h : w.cell? a = some v) : a.block < w.heap.size := by
 unfold World.cell? at h
 split at h
 · rename_i hb; exact (Array.getElem?_eq_some_iff.1 hb).1
 · cases h
theorem kq6 {sz : Nat} (Cs : Nat → List AV) : ∀ n, (∀ i, i < n → (Cs i).length = sz ∧ (Cs i).all cB = true) → bR sz ((List.range n).map fun i => .agg (Cs i)) = some ((List.range n).flatMap Cs) := by
 suffices h : ∀ l : List Nat, (∀ i ∈ l, (Cs i).length = sz ∧ (Cs i).all cB = true) → bR sz (l.map fun i => .agg (Cs i)) = some (l.flatMap Cs) from
  fun n hn => h _ fun i hi => hn i (by simpa using hi)
 intro l
 induction l with
 | nil => intro _; rfl
 | cons a r ih =>
  intro h
  have ha := h a (jL ..)
  have := ih fun i hi => h i (kZ _ hi)
  simp only [cF, bR, this, cellsOf, ha.1, ha.2, and_self, fM, jN]
theorem yu3 {sz : Nat} (Cs : Nat → List AV) : ∀ n, (∀ i, i < n → (Cs i).length = sz) → ((List.range n).flatMap Cs).length = n * sz
 | 0, _ => by simp
 | n + 1, h => by
  have ih := yu3 Cs n fun i hi => h i (by omega)
  simp only [List.range_succ, List.flatMap_append, dL, ih, jN, List.flatMap_nil, dK, h n (by omega)]
  rw [Nat.succ_mul]
theorem xv3 {sz : Nat} (Cs : Nat → List AV) : ∀ n, (∀ i, i < n → (Cs i).length = sz) → ∀ k x, ((List.range n).flatMap Cs)[k]? = some x → ∃ i r, i < n ∧ r < sz ∧ k = i * sz + r ∧ (Cs i)[r]? = some x
 | 0, _, k, x, h => by simp at h
 | n + 1, hl, k, x, h => by
  have hlen := yu3 Cs n fun i hi => hl i (by omega)
  simp only [List.range_succ, List.flatMap_append, jN, List.flatMap_nil, dK] at h
  by_cases hk : k < n * sz
  · rw [List.getElem?_append_left (by omega)] at h
    obtain ⟨i, r, h1, h2, h3, h4⟩ := xv3 Cs n (fun i hi => hl i (by omega)) k x h
    exact ⟨i, r, by omega, h2, h3, h4⟩
  · rw [List.getElem?_append_right (by omega), hlen] at h
    have hr : k - n * sz < sz := by
     have := (List.getElem?_eq_some_iff.1 h).1
     rwa [hl n (by omega)] at this
    exact ⟨n, k - n * sz, by omega, hr, by omega, h⟩
theorem vr_vec {W : World} {a : Addr} {len cap sz : Nat} (hsz : 0 < sz) (hlc : len ≤ cap) (Cs : Nat → List AV) (Vs : Nat → List Value) (hC : ∀ i, i < len → (Cs i).length = sz ∧ (Cs i).all cB = true ∧ LR (C0 W) W (Cs i) (Vs i))
 (hW : ∀ i, i < len → W.cells? 0 (a.add (i * sz)) sz = some (Vs i)) : VR (C0 W) W (.vec 0 sz ((List.range len).map fun i => .agg (Cs i))) (.slice (some a) len cap) := by
 by_cases h0 : len = 0
 · subst h0
   exact .vec0 sz a cap
 · have hcell : ∀ i, i < len → ∀ r, r < sz → W.cell? (a.add (i * sz + r)) = (Vs i)[r]? := fun i hi r hr => by
    have := (World.cells?_some (hW i hi)).2.2 r hr
    rwa [Go.Deep.add_add] at this
   have hVl : ∀ i, i < len → (Vs i).length = sz := fun i hi => (World.cells?_some (hW i hi)).2.1
   obtain ⟨b, off, spot⟩ := a
   have hc0 := hcell 0 (by omega) 0 hsz
   rw [cX (by rw [hVl 0 (by omega)]; exact hsz)] at hc0
   have hspot : spot = none := by simpa [Addr.add] using World.cell?_spot hc0
   subst hspot
   have hb : b < W.heap.size := by simpa [Addr.add] using yy5 hc0
   have hcl : ∀ i, i < len → ∀ r, r < sz → W.cell? ⟨b, off + (i * sz + r), none⟩ = (Vs i)[r]? := fun i hi r hr => by
    have := hcell i hi r hr
    rwa [add_plain] at this
   have hfl := kq6 (sz := sz) Cs len fun i hi => ⟨(hC i hi).1, (hC i hi).2.1⟩
   have hfn := yu3 (sz := sz) Cs len fun i hi => (hC i hi).1
   have hat := xv3 (sz := sz) Cs len fun i hi => (hC i hi).1
   have hex : ∀ k, k < ((List.range len).flatMap Cs).length → ∃ v, W.cell? ⟨b, off + k, none⟩ = some v := fun k hk => by
    obtain ⟨i, r, h1, h2, rfl, h4⟩ := hat k _ (cX hk)
    have := hcl i h1 r h2
    rw [cX (by rw [hVl i h1]; exact h2)] at this
    exact ⟨_, this⟩
   have hlast : off + len * sz ≤ (C0 W).top b := by
    have h1 : (len - 1) * sz + (sz - 1) = len * sz - 1 := by
     have : len * sz = (len - 1) * sz + sz := by
      have := Nat.succ_mul (len - 1) sz
      rwa [show (len - 1).succ = len by omega] at this
     omega
    have hpos : 0 < len * sz := Nat.mul_pos (by omega) hsz
    have := hcl (len - 1) (by omega) (sz - 1) (by omega)
    rw [cX (by rw [hVl _ (by omega)]; omega)] at this
    simp only [C0]
    unfold World.cell? at this
    split at this
    · rename_i c _ _ hh
      simp only at hh
      rw [hh]
      simp only
      have := (Array.getElem?_eq_some_iff.1 this).1
      simp only at this
      omega
    · cases this
   have key := VR.vec (C := C0 W) (w := W) 0 sz ((List.range len).map fun i => .agg (Cs i)) ((List.range len).flatMap Cs) b off cap (fun k => (W.cell? ⟨b, off + k, none⟩).getD undef) hsz (by simpa using hlc) hfl hb (C0.free W b)
    (by rw [hfn]; exact hlast)
    (fun k hk => by
     obtain ⟨v, hv⟩ := hex k hk
     rw [hv]; rfl)
    (fun k x hk => by
     obtain ⟨i, r, h1, h2, rfl, h4⟩ := hat k x hk
     have h5 := hcl i h1 r h2
     obtain ⟨v, h6, h7⟩ := (hC i h1).2.2.get h4
     rw [h5, h6]
     exact h7)
    (fun h => by omega) (fun h => by omega) (fun h => by omega)
   simpa using key
end Go.Abs
namespace Go.Proofs.YthjaoinieikjdaaGreatDoor
open Go.Abs Go.ChangeShapes Go.WideShapes Go.ChangeAt Go.RowKit
theorem jc1 : Here E := ⟨rfl, rfl⟩
theorem own : ownKnob Tryz.prog.godebug = none := by kernel_rfl
theorem wn0 : laidOutB Tryz.prog = true := by kernel_rfl
theorem jc9 : Tryz.f172.body.isNone = false := by kernel_rfl
theorem decBody : Tryz.f175.body.isNone = false := by kernel_rfl
theorem ku8 : Tryz.f17.body.isNone = false := by kernel_rfl
theorem fmtBody : Tryz.f111.body.isNone = false := by kernel_rfl
theorem jb8 : Tryz.f110.body.isNone = false := by kernel_rfl
theorem wa3 : Tryz.f120.body.isNone = false := by kernel_rfl
theorem kx8 : Tryz.f69.body.isNone = false := by kernel_rfl
theorem okX : XOk E := ⟨fun f g fn h hf => by
 have hf : Tryz.prog.funcs[f]? = some fn := hf
 rcases xcase h with ⟨rfl, rfl⟩ | ⟨rfl, rfl⟩ | ⟨rfl, rfl⟩ | ⟨rfl, rfl⟩ | ⟨rfl, rfl⟩ | ⟨rfl, rfl⟩ | ⟨rfl, rfl⟩
 · obtain rfl := cZ (Tryz.func172.symm.trans hf)
   exact ⟨jc9, fun args S r S' hr C w vs hw hl => excl_ok jc1 hr hw hl⟩
 · obtain rfl := cZ (Tryz.func175.symm.trans hf)
   exact ⟨decBody, fun args S r S' hr C w vs hw hl => dec_ok jc1 hr hw hl⟩
 · obtain rfl := cZ (Tryz.func17.symm.trans hf)
   exact ⟨ku8, fun args S r S' hr C w vs hw hl => jh3 jc1 hr hw hl⟩
 · obtain rfl := cZ (Tryz.func120.symm.trans hf)
   exact ⟨wa3, fun args S r S' hr C w vs hw hl => wv9 (E := E) tyS copyC hr hw hl⟩
 · obtain rfl := cZ (Tryz.func111.symm.trans hf)
   exact ⟨fmtBody, fun args S r S' hr C w vs hw hl => fmt_ok jc1 hr hw hl⟩
 · obtain rfl := cZ (Tryz.func110.symm.trans hf)
   exact ⟨jb8, fun args S r S' hr C w vs hw hl => jb7 (E := E) joinC hr hw hl⟩
 · obtain rfl := cZ (Tryz.func69.symm.trans hf)
   exact ⟨kx8, fun args S r S' hr C w vs hw hl => wy5 (E := E) tyS kh3 hr hw hl⟩⟩
theorem jh9 : Abs.S0.Fresh := ⟨by decide, fun i _ => PM.get_leaf i⟩
theorem run_ev {f : FuncId} {args : List AV} {vs : Array Value} {w : World} {r : AV} {S' : St} {u : Value} (hG : ∀ g cs, pP g = some cs → GlobR (C0 w) w g cs) (hl : LR (C0 w) w args vs.toList) (h : EvA E f args Abs.S0 r S') (hr : r = .sc u) : Calls Tryz.prog f vs w fun e w' => e = .returned u ∧ Below w.heap.size w w' := by
 obtain ⟨N, h⟩ := h
 subst hr
 have ok := xl0 (P := Tryz.prog) (hp := E.hp) (meth := fun _ _ => none) (ext := uZ [] [140]) names mixed (fun _ _ _ h => nomatch h) (wv4 (fun g hg => nomatch hg) (fun g hg => by have := List.mem_singleton.1 hg; subst this; exact entNo))
 exact ki2 (E := E) ⟨ok.fn, ok.und, ok.inf, ok.mixed, ok.meth, ok.ext⟩ okX noX frmX (fun g cs h => hG g cs h) hl (h N N (aB _) (aB _))
noncomputable def cM (t k : Nat) : Field := match Tryz.prog.underlying t with
 | some (.struct fs) => fs.getD k default
 | _ => default
theorem tyB : Tryz.prog.underlying 4 = some .bool := by kernel_rfl
theorem tyI : Tryz.prog.underlying 3 = some (.int .i64) := by kernel_rfl
theorem tyI64 : Tryz.prog.underlying 2 = some (.int .i64) := by kernel_rfl
theorem tyIs : Tryz.prog.underlying 34 = some (.slice 3) := by kernel_rfl
theorem tySs : Tryz.prog.underlying 31 = some (.slice 9) := by kernel_rfl
theorem tyNs : Tryz.prog.underlying 23 = some (.slice 36) := by kernel_rfl
theorem tyDs : Tryz.prog.underlying 24 = some (.slice 75) := by kernel_rfl
theorem tyCs : Tryz.prog.underlying 73 = some (.slice 78) := by kernel_rfl
theorem tyT : Tryz.prog.underlying 26 = some (.struct #[cM 26 0, cM 26 1]) := by kernel_rfl
theorem tyD : Tryz.prog.underlying 75 = some (.struct #[cM 75 0, cM 75 1]) := by kernel_rfl
theorem tyC : Tryz.prog.underlying 78 = some (.struct #[cM 78 0, cM 78 1]) := by kernel_rfl
theorem tyN : Tryz.prog.underlying 36 = some (.struct #[cM 36 0, cM 36 1, cM 36 2, cM 36 3, cM 36 4, cM 36 5, cM 36 6]) := by kernel_rfl
theorem offT : (cM 26 0).offset = 0 ∧ (cM 26 1).offset = 1 := ⟨by kernel_rfl, by kernel_rfl⟩
theorem ftyT : (cM 26 0).type = 23 ∧ (cM 26 1).type = 24 := ⟨by kernel_rfl, by kernel_rfl⟩
theorem offD : (cM 75 0).offset = 0 ∧ (cM 75 1).offset = 1 := ⟨by kernel_rfl, by kernel_rfl⟩
theorem ftyD : (cM 75 0).type = 9 ∧ (cM 75 1).type = 73 := ⟨by kernel_rfl, by kernel_rfl⟩
theorem offC : (cM 78 0).offset = 0 ∧ (cM 78 1).offset = 1 := ⟨by kernel_rfl, by kernel_rfl⟩
theorem ftyC : (cM 78 0).type = 9 ∧ (cM 78 1).type = 31 := ⟨by kernel_rfl, by kernel_rfl⟩
theorem offN : (cM 36 0).offset = 0 ∧ (cM 36 1).offset = 1 ∧ (cM 36 2).offset = 2 ∧ (cM 36 3).offset = 3 ∧ (cM 36 4).offset = 4 ∧ (cM 36 5).offset = 5 ∧ (cM 36 6).offset = 6 := ⟨by kernel_rfl, by kernel_rfl, by kernel_rfl, by kernel_rfl, by kernel_rfl, by kernel_rfl, by kernel_rfl⟩
theorem ftyN : (cM 36 0).type = 3 ∧ (cM 36 1).type = 2 ∧ (cM 36 2).type = 9 ∧ (cM 36 3).type = 9 ∧ (cM 36 4).type = 34 ∧ (cM 36 5).type = 3 ∧ (cM 36 6).type = 3 := ⟨by kernel_rfl, by kernel_rfl, by kernel_rfl, by kernel_rfl, by kernel_rfl, by kernel_rfl, by kernel_rfl⟩
theorem zY : Tryz.prog.cellsOf 3 = 1 := by kernel_rfl
theorem jg6 : Tryz.prog.cellsOf 2 = 1 := by kernel_rfl
theorem wR : Tryz.prog.cellsOf 9 = 1 := by kernel_rfl
theorem cellsIs : Tryz.prog.cellsOf 34 = 1 := by kernel_rfl
theorem cellsSs : Tryz.prog.cellsOf 31 = 1 := by kernel_rfl
theorem cellsNs : Tryz.prog.cellsOf 23 = 1 := by kernel_rfl
theorem cellsDs : Tryz.prog.cellsOf 24 = 1 := by kernel_rfl
theorem cellsCs : Tryz.prog.cellsOf 73 = 1 := by kernel_rfl
theorem cellsT : Tryz.prog.cellsOf 26 = 2 := by kernel_rfl
theorem cellsD : Tryz.prog.cellsOf 75 = 2 := by kernel_rfl
theorem cellsC : Tryz.prog.cellsOf 78 = 2 := by kernel_rfl
theorem cellsN : Tryz.prog.cellsOf 36 = 7 := by kernel_rfl
section
variable {H : Type} {enc : TypeId × Value → H} {W : World} {spare : Nat → Bool} {held : Bool}
theorem xk2 {α : Type} [Inhabited α] {t e : TypeId} {sz : Nat} (ht : Tryz.prog.underlying t = some (.slice e)) (hc : Tryz.prog.cellsOf e = sz) (hp : 0 < sz) (A : α → List AV) (hA : ∀ a, (A a).length = sz ∧ (A a).all cB = true)
 (he : ∀ (fuel : Nat) (cs : List Value) (x : DataW H × List MemPlace), DataW.trod enc Tryz.prog W 0 spare held fuel e cs = some x → ∃ a, LR (C0 W) W (A a) cs) {fuel : Nat} {c : Value} {x : DataW H × List MemPlace} (h : DataW.trod enc Tryz.prog W 0 spare held fuel t [c] = some x) :
 ∃ o : Option (List α), VR (C0 W) W (nA sz (o.map fun l => l.map fun a => AV.agg (A a))) c := by
 rcases DataW.trod_slice ht h with ⟨hcs, _⟩ | ⟨a, len, cap, elems, rest, n', rfl, hcs, _, _, hlc, hcm, hel, hev, _, _⟩
 · simp at hcs
   subst hcs
   exact ⟨none, .sc _⟩
 · simp at hcs
   subst hcs
   haveI : Inhabited (α × List Value) := ⟨(default, [])⟩
   obtain ⟨I, hI⟩ := Go.Deep.choose_lt (α := α × List Value) (n := len) (p := fun i q => LR (C0 W) W (A q.1) q.2 ∧ W.cells? 0 (a.add (i * sz)) sz = some q.2) (fun i hi => by
    have h1 := hev i hi
    rw [hc, cX (by omega)] at h1
    obtain ⟨cs, hc, h2⟩ := Option.bind_eq_some_iff.1 h1
    obtain ⟨y, hy⟩ := he _ _ _ h2
    exact ⟨(y, cs), hy, hc⟩)
   have hvr := vr_vec (W := W) (a := a) (sz := sz) hp hlc (fun i => A (I i).1) (fun i => (I i).2) (fun i hi => ⟨(hA _).1, (hA _).2, (hI i hi).1⟩) (fun i hi => (hI i hi).2)
   refine ⟨some ((List.range len).map fun i => (I i).1), ?_⟩
   simp only [iH, nA, iJ, Function.comp_def]
   exact hvr
theorem wv2 : ∀ l : List Value, (∀ z ∈ l, cellsOf (.sc z) = some [.sc z] ∧ cB (.sc z) = true) → bR 1 (l.map AV.sc) = some (l.map AV.sc)
 | [], _ => rfl
 | z :: r, h => by
  have ih := wv2 r fun y hy => h y (kZ _ hy)
  have hz := h z (jL ..)
  simp only [cF, bR, ih, hz.1, hz.2, lA, List.all_nil, aY, bH, bY, and_self, aF, fM, nS, mL]
theorem vr_scs {a : Addr} {len cap : Nat} (hlc : len ≤ cap) (Z : Nat → Value) (hZ : ∀ i, cellsOf (.sc (Z i)) = some [.sc (Z i)] ∧ cB (.sc (Z i)) = true) (hW : ∀ i, i < len → W.cell? (a.add i) = some (Z i)) :
 VR (C0 W) W (.vec 0 1 (((List.range len).map Z).map AV.sc)) (.slice (some a) len cap) := by
 by_cases h0 : len = 0
 · subst h0
   exact .vec0 1 a cap
 · obtain ⟨b, off, spot⟩ := a
   have hc0 := hW 0 (by omega)
   have hspot : spot = none := by simpa [Addr.add] using World.cell?_spot hc0
   subst hspot
   have hb : b < W.heap.size := by simpa [Addr.add] using yy5 hc0
   have hcl : ∀ i, i < len → W.cell? ⟨b, off + i, none⟩ = some (Z i) := fun i hi => by
    have := hW i hi
    rwa [add_plain] at this
   have key := VR.vec (C := C0 W) (w := W) 0 1 (((List.range len).map Z).map AV.sc) (((List.range len).map Z).map AV.sc) b off cap Z (by decide) (by simp; omega) (wv2 _ fun z hz => by obtain ⟨i, _, rfl⟩ := List.mem_map.1 hz; exact hZ i) hb (C0.free W b)
    (by
     have := hcl (len - 1) (by omega)
     simp only [C0, eE, List.length_range]
     unfold World.cell? at this
     split at this
     · rename_i c _ _ hh
       simp only at hh
       rw [hh]
       simp only
       have := (Array.getElem?_eq_some_iff.1 this).1
       simp only at this
       omega
     · cases this)
    (fun i hi => hcl i (by simpa using hi))
    (fun i x hix => by
     have hi : i < len := by
      have := (List.getElem?_eq_some_iff.1 hix).1
      simpa using this
     simp [hi] at hix
     rw [← hix]
     exact .sc _)
    (fun h => by omega) (fun h => by omega) (fun h => by omega)
   simpa using key
theorem wr3 {α : Type} [Inhabited α] {t e : TypeId} (ht : Tryz.prog.underlying t = some (.slice e)) (hc : Tryz.prog.cellsOf e = 1) (V : α → Value) (hV : ∀ a, cellsOf (.sc (V a)) = some [.sc (V a)] ∧ cB (.sc (V a)) = true)
 (he : ∀ (fuel : Nat) (c : Value) (x : DataW H × List MemPlace), DataW.trod enc Tryz.prog W 0 spare held fuel e [c] = some x → ∃ a, c = V a) {fuel : Nat} {c : Value} {x : DataW H × List MemPlace} (h : DataW.trod enc Tryz.prog W 0 spare held fuel t [c] = some x) :
 ∃ o : Option (List α), VR (C0 W) W (nA 1 (o.map fun l => l.map fun a => AV.sc (V a))) c := by
 rcases DataW.trod_slice ht h with ⟨hcs, _⟩ | ⟨a, len, cap, elems, rest, n', rfl, hcs, _, _, hlc, hcm, hel, hev, _, _⟩
 · simp at hcs
   subst hcs
   exact ⟨none, .sc _⟩
 · simp at hcs
   subst hcs
   obtain ⟨I, hI⟩ := Go.Deep.choose_lt (α := α) (n := len) (p := fun i z => W.cell? (a.add i) = some (V z)) (fun i hi => by
    have h1 := hev i hi
    rw [hc, cX (by omega), Nat.mul_one] at h1
    obtain ⟨cs, hc, h2⟩ := Option.bind_eq_some_iff.1 h1
    have hk := World.cells?_some hc
    have hl := hk.2.1
    match cs, hl with
    | [c0], _ =>
    obtain ⟨z, rfl⟩ := he _ _ _ h2
    have := hk.2.2 0 (by omega)
    rw [Go.Deep.add_add] at this
    exact ⟨z, by simpa using this⟩)
   refine ⟨some ((List.range len).map I), ?_⟩
   have := vr_scs (W := W) hlc (fun i => V (I i)) (fun i => hV _) hI
   simp only [iJ, Function.comp_def] at this
   simp only [iH, nA, iJ, Function.comp_def]
   exact this
theorem ko6 {fuel : Nat} {c : Value} {x : DataW H × List MemPlace} (h : DataW.trod enc Tryz.prog W 0 spare held fuel 34 [c] = some x) : ∃ o : Option (List Int), VR (C0 W) W (nA 1 (o.map cE)) c :=
 wr3 tyIs zY (fun z => Value.int .i64 z) (fun _ => ⟨rfl, rfl⟩) (fun fuel c x h => by
  obtain ⟨z, e, _, _⟩ := DataW.trod_int tyI h
  exact ⟨z, by simpa using e⟩) h
theorem kh0 {fuel : Nat} {c : Value} {x : DataW H × List MemPlace} (h : DataW.trod enc Tryz.prog W 0 spare held fuel 31 [c] = some x) : ∃ o : Option (List ByteArray), VR (C0 W) W (nA 1 (o.map aN)) c := by
 haveI : Inhabited ByteArray := ⟨⟨#[]⟩⟩
 exact wr3 tySs wR (fun z => Value.string z) (fun _ => ⟨rfl, rfl⟩) (fun fuel c x h => by
  obtain ⟨z, e, _⟩ := DataW.trod_string tyS h
  exact ⟨z, by simpa using e⟩) h
theorem conOk (c : ConV) : (cH c).all cB = true := by
 show (true && (cB (nA 1 _) && true)) = true
 rw [uN]; rfl
theorem declOk (c : DeclV) : (dC c).all cB = true := by
 show (true && (cB (nA 2 _) && true)) = true
 rw [uN]; rfl
theorem nodeOk (c : NodeV) : (aL c).all cB = true := by
 show (true && (true && (true && (true && (cB (nA 1 _) && (true && (true && true))))))) = true
 rw [uN]; rfl
theorem jg2 {fuel : Nat} {cs : List Value} {x : DataW H × List MemPlace} (h : DataW.trod enc Tryz.prog W 0 spare held fuel 78 cs = some x) : ∃ c : ConV, LR (C0 W) W (cH c) cs := by
 obtain ⟨xs, n, rfl, rfl, hl, hlen, hf⟩ := DataW.trod_struct tyC h
 rw [cellsC] at hl
 have k0 := hf 0 (cM 78 0) rfl
 have k1 := hf 1 (cM 78 1) rfl
 rw [offC.1, ftyC.1, wR] at k0
 rw [offC.2, ftyC.2, cellsSs] at k1
 simp only [pU, aY, bH] at hlen
 match xs, hlen with
 | [x0, x1], _ =>
 match cs, hl with
 | [c0, c1], _ =>
 simp at k0 k1
 obtain ⟨a0, e0, _⟩ := DataW.trod_string tyS k0
 obtain ⟨o, ho⟩ := kh0 k1
 simp at e0
 subst e0
 exact ⟨⟨a0, o⟩, .cons (.sc _) (.cons ho (.nil _ _))⟩
theorem kt6 {fuel : Nat} {cs : List Value} {x : DataW H × List MemPlace} (h : DataW.trod enc Tryz.prog W 0 spare held fuel 75 cs = some x) : ∃ c : DeclV, LR (C0 W) W (dC c) cs := by
 obtain ⟨xs, n, rfl, rfl, hl, hlen, hf⟩ := DataW.trod_struct tyD h
 rw [cellsD] at hl
 have k0 := hf 0 (cM 75 0) rfl
 have k1 := hf 1 (cM 75 1) rfl
 rw [offD.1, ftyD.1, wR] at k0
 rw [offD.2, ftyD.2, cellsCs] at k1
 simp only [pU, aY, bH] at hlen
 match xs, hlen with
 | [x0, x1], _ =>
 match cs, hl with
 | [c0, c1], _ =>
 simp at k0 k1
 obtain ⟨a0, e0, _⟩ := DataW.trod_string tyS k0
 haveI : Inhabited ConV := ⟨⟨⟨#[]⟩, none⟩⟩
 obtain ⟨o, ho⟩ := xk2 tyCs cellsC (by decide) cH (fun c => ⟨rfl, conOk c⟩) (fun _ _ _ h => jg2 h) k1
 simp at e0
 subst e0
 exact ⟨⟨a0, o⟩, .cons (.sc _) (.cons ho (.nil _ _))⟩
theorem km3 {fuel : Nat} {cs : List Value} {x : DataW H × List MemPlace} (h : DataW.trod enc Tryz.prog W 0 spare held fuel 36 cs = some x) : ∃ c : NodeV, LR (C0 W) W (aL c) cs := by
 obtain ⟨xs, n, rfl, rfl, hl, hlen, hf⟩ := DataW.trod_struct tyN h
 rw [cellsN] at hl
 have k0 := hf 0 (cM 36 0) rfl
 have k1 := hf 1 (cM 36 1) rfl
 have k2 := hf 2 (cM 36 2) rfl
 have k3 := hf 3 (cM 36 3) rfl
 have k4 := hf 4 (cM 36 4) rfl
 have k5 := hf 5 (cM 36 5) rfl
 have k6 := hf 6 (cM 36 6) rfl
 rw [offN.1, ftyN.1, zY] at k0
 rw [offN.2.1, ftyN.2.1, jg6] at k1
 rw [offN.2.2.1, ftyN.2.2.1, wR] at k2
 rw [offN.2.2.2.1, ftyN.2.2.2.1, wR] at k3
 rw [offN.2.2.2.2.1, ftyN.2.2.2.2.1, cellsIs] at k4
 rw [offN.2.2.2.2.2.1, ftyN.2.2.2.2.2.1, zY] at k5
 rw [offN.2.2.2.2.2.2, ftyN.2.2.2.2.2.2, zY] at k6
 simp only [pU, aY, bH] at hlen
 match xs, hlen with
 | [x0, x1, x2, x3, x4, x5, x6], _ =>
 match cs, hl with
 | [c0, c1, c2, c3, c4, c5, c6], _ =>
 simp at k0 k1 k2 k3 k4 k5 k6
 obtain ⟨a0, e0, _, _⟩ := DataW.trod_int tyI k0
 obtain ⟨a1, e1, _, _⟩ := DataW.trod_int tyI64 k1
 obtain ⟨a2, e2, _⟩ := DataW.trod_string tyS k2
 obtain ⟨a3, e3, _⟩ := DataW.trod_string tyS k3
 obtain ⟨o, ho⟩ := ko6 k4
 obtain ⟨a5, e5, _, _⟩ := DataW.trod_int tyI k5
 obtain ⟨a6, e6, _, _⟩ := DataW.trod_int tyI k6
 simp at e0 e1 e2 e3 e5 e6
 subst e0; subst e1; subst e2; subst e3; subst e5; subst e6
 exact ⟨⟨a0, a1, a2, a3, o, a5, a6⟩, .cons (.sc _) (.cons (.sc _) (.cons (.sc _) (.cons (.sc _) (.cons ho (.cons (.sc _) (.cons (.sc _) (.nil _ _)))))))⟩
end
theorem kx0 {H : Type} {enc : TypeId × Value → H} {W : World} {v : Value} {d : DataW H} {p : List MemPlace} (hv : Value.okWide Tryz.prog W .any 0 26 v) (h : DataW.Trod enc Tryz.prog W 0 (fun _ => true) true 26 v d p) :
 ∃ (t : TreeV) (nx tx : AV), RawIs nx tx t ∧ VR (C0 W) W (.agg [nx, tx]) v := by
 obtain ⟨cs, rfl, hsz⟩ := okWide_struct tyT hv
 obtain ⟨fuel, hf⟩ := h
 obtain ⟨xs, n, hx, hfu, hl, hlen, hf⟩ := DataW.trod_struct tyT hf
 rw [cellsT] at hl
 have k0 := hf 0 (cM 26 0) rfl
 have k1 := hf 1 (cM 26 1) rfl
 rw [offT.1, ftyT.1, cellsNs] at k0
 rw [offT.2, ftyT.2, cellsDs] at k1
 simp only [pU, aY, bH] at hlen
 match xs, hlen with
 | [x0, x1], _ =>
 obtain ⟨cs⟩ := cs
 simp only [Value.cells] at hl k0 k1
 match cs, hl with
 | [c0, c1], _ =>
 simp at k0 k1
 haveI : Inhabited NodeV := ⟨⟨0, 0, ⟨#[]⟩, ⟨#[]⟩, none, 0, 0⟩⟩
 haveI : Inhabited DeclV := ⟨⟨⟨#[]⟩, none⟩⟩
 obtain ⟨o1, h1⟩ := xk2 tyNs cellsN (by decide) aL (fun c => ⟨rfl, nodeOk c⟩) (fun _ _ _ h => km3 h) k0
 obtain ⟨o2, h2⟩ := xk2 tyDs cellsD (by decide) dC (fun c => ⟨rfl, declOk c⟩) (fun _ _ _ h => kt6 h) k1
 exact ⟨⟨o1.getD [], o2.getD []⟩, _, _, ⟨vW 7 jW rfl o1, vW 2 sH rfl o2⟩, LR.agg (.cons h1 (.cons h2 (.nil _ _)))⟩
theorem readT {H : Type} {enc : TypeId × Value → H} {W W' : World} {v : Value} {d : DataW H} {p : List MemPlace} (h : DataW.Trod enc Tryz.prog W 0 (fun _ => true) true 26 v d p) (hb : Below W.heap.size W W') (hlt : ∀ x ∈ p, x.block < W.heap.size) :
 DataW.Trod enc Tryz.prog W' 0 (fun b => decide (b < W.heap.size)) true 26 v d p := Below.trod wn0 (by kernel_rfl) (lQ (by kernel_rfl)) h hb hlt
theorem readI {H : Type} {enc : TypeId × Value → H} {W W' : World} {v : Value} {d : DataW H} {p : List MemPlace} (h : DataW.Trod enc Tryz.prog W 0 (fun _ => true) true 3 v d p) (hb : Below W.heap.size W W') (hlt : ∀ x ∈ p, x.block < W.heap.size) :
 DataW.Trod enc Tryz.prog W' 0 (fun b => decide (b < W.heap.size)) true 3 v d p := Below.trod wn0 (by kernel_rfl) (lQ (by kernel_rfl)) h hb hlt
noncomputable def pR : List (String × DataW Unit) := [("math/bits.deBruijn32tab", Rows.laid_math_bits_deBruijn32tab), ("math/bits.deBruijn64tab", Rows.laid_math_bits_deBruijn64tab), ("internal/strconv.uint64pow10", Rows.laid_internal_strconv_uint64pow10), ("unicode/utf8.acceptRanges", Rows.laid_unicode_utf8_acceptRanges), ("unicode.properties", Rows.laid_unicode_properties), ("unicode.Letter", Rows.laid_unicode_Letter), ("unicode.Upper", Rows.laid_unicode_Upper), ("unicode/utf8.first", Rows.laid_unicode_utf8_first)]
theorem globs {W : World} (hL : laidMet Tryz.prog pR W) : ∀ g cs, pP g = some cs → GlobR (C0 W) W g cs :=
 tabs_ok (Lib.laidMet.reads hL (by simp [pR])) (Lib.laidMet.reads hL (by simp [pR])) (Lib.laidMet.reads hL (by simp [pR])) (Lib.laidMet.reads hL (by simp [pR])) (Lib.laidMet.reads hL (by simp [pR])) (Lib.laidMet.reads hL (by simp [pR]))
end Go.Proofs.YthjaoinieikjdaaGreatDoor
