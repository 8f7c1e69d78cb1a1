/-
  An argument that is a slice of bytes, as the evaluator's value.
  Arguments: a slice of structs, by value.
  Types of the small ML, plain.
  Types of the small ML, plain: their variables, what they are with some variables as others.
-/
import Derived.Test.YtaacibffjmbfiaaDoorAbs17
import Derived.Test.YtaacibffjmbfiaaDoorAbs13
import Derived.ChangeSlices
import Derived.ChangeSame
import Derived.Carry
import Derived.Deep.Slices
set_option linter.unusedSimpArgs false
set_option linter.unusedVariables false
set_option maxRecDepth 100000
namespace Go.Abs
open Go.ChangeShapes Go.WideShapes

theorem cell_block_lt {w : World} {a : Addr} {v : Value} (h : w.cell? a = some v) : a.block < w.heap.size := by
  unfold World.cell? at h
  split at h
  · rename_i hb; exact (Array.getElem?_eq_some_iff.1 hb).1
  · cases h

theorem bytes_of_ints : ∀ (zs : List Int), (∀ n ∈ zs, (Lit.int .u8 n).wf = true) → ∃ l : List UInt8, l.length = zs.length ∧ byteVals l = zs.map (fun n => AV.sc (.int .u8 n))
  | [], _ => ⟨[], rfl, rfl⟩
  | n :: r, h => by
    obtain ⟨l, h1, h2⟩ := bytes_of_ints r (fun m hm => h m (List.mem_cons_of_mem _ hm))
    have hn := h n (List.mem_cons_self ..)
    have a1 : IntKind.u8.min = 0 := rfl
    have a2 : IntKind.u8.max = 255 := rfl
    simp only [Lit.wf, Bool.and_eq_true, decide_eq_true_eq] at hn
    refine ⟨UInt8.ofNat n.toNat :: l, by simp [h1], ?_⟩
    simp only [byteVals, List.map_cons] at h2 ⊢
    rw [h2]
    congr 3
    have : (UInt8.ofNat n.toNat).toNat = n.toNat := by simp; omega
    rw [this]; omega

theorem bytes_arg {H : Type} {enc : TypeId × Value → H} {P : Program} {W : World} {t e : TypeId} {v : Value} {d : DataW H} {p : List MemPlace} (ht : P.underlying t = some (.slice e)) (he : P.underlying e = some (.int .u8)) (hc : P.cellsOf e = 1)
    (hv : Value.okWide P W .any 0 t v) (h : DataW.Trod enc P W 0 (fun _ => true) true t v d p) :
    ∃ (x : AV) (l : List UInt8), IsV 1 x (byteVals l) ∧ VR (C0 W) W x v ∧ ((d = .nil ∧ l = []) ∨ ∃ zs rest, d = .slice (lits .u8 zs) rest ∧ byteVals l = zs.map (fun n => AV.sc (.int .u8 n))) := by
  obtain ⟨a0, len, cap, rfl⟩ := okWide_slice ht hv
  obtain ⟨fuel, hf⟩ := h
  rcases open_ints ht he hc hf with ⟨hcs, hx⟩ | ⟨a, len', cap', zs, hcs, _, hl, hm, hz, hx, hcell, hwz⟩
  · simp [Value.cells] at hcs
    obtain ⟨rfl, rfl, rfl⟩ := hcs
    simp only [Prod.mk.injEq] at hx
    exact ⟨.sc (.slice none 0 0), [], .nil 1, .sc _, .inl ⟨hx.1, rfl⟩⟩
  · simp [Value.cells] at hcs
    obtain ⟨rfl, rfl, rfl⟩ := hcs
    simp only [Prod.mk.injEq] at hx
    obtain ⟨rfl, rfl⟩ := hx
    simp only [if_true] at hz
    obtain ⟨l, h1, h2⟩ := bytes_of_ints (zs.take len) (fun n hn => hwz n (List.mem_of_mem_take hn))
    have hlt : (zs.take len).length = len := by simp; omega
    refine ⟨.vec 0 1 (byteVals l), l, .vec 0 1 _, ?_, .inr ⟨_, _, rfl, h2⟩⟩
    have hbl : (byteVals l).length = len := by rw [byteVals_length]; omega
    by_cases h0 : len = 0
    · subst h0
      have : byteVals l = [] := List.eq_nil_of_length_eq_zero hbl
      rw [this]
      exact .vec0 1 a cap
    · have hc0 := hcell 0 (by omega)
      obtain ⟨b, off, spot⟩ := a
      have hspot : spot = none := by simpa [Addr.add] using World.cell?_spot hc0
      subst hspot
      have hb : b < W.heap.size := by simpa [Addr.add] using cell_block_lt hc0
      have hcl : ∀ i, i < len → W.cell? ⟨b, off + i, none⟩ = some (.int .u8 (zs.getD i 0)) := fun i hi => by
        have := hcell i (by omega)
        rwa [add_plain] at this
      have key := VR.vec (C := C0 W) (w := W) 0 1 (byteVals l) (byteVals l) b off cap (fun i => .int .u8 (zs.getD i 0)) (by decide) (by omega) (byteVals_flat l) hb (C0.free W b)
        (by
          have := hcl (len - 1) (by omega)
          rw [hbl]
          simp only [C0]
          unfold World.cell? at this
          split at this
          · rename_i c _ _ hh
            simp only at hh
            rw [hh]
            simp only
            have := (Array.getElem?_eq_some_iff.1 this).1
            simp only at this
            omega
          · cases this)
        (fun i hi => hcl i (by omega))
        (fun i x hix => by
          rw [h2, List.getElem?_map] at hix
          have hi : i < len := by
            have := (List.getElem?_eq_some_iff.1 (by rw [h2, List.getElem?_map]; exact hix : (byteVals l)[i]? = some x)).1
            omega
          rw [List.getElem?_take_of_lt hi] at hix
          rw [List.getD_eq_getElem?_getD]
          cases hzi : zs[i]? with
          | none => rw [hzi] at hix; cases hix
          | some n => rw [hzi] at hix; simp at hix; subst hix; exact .sc _)
        (fun h => by omega) (fun h => by omega) (fun h => by omega)
      rw [hbl] at key
      exact key
end Go.Abs

namespace Go.Abs
open Go.ChangeShapes Go.WideShapes
theorem flat_aggs {sz : Nat} (Cs : Nat → List AV) : ∀ n, (∀ i, i < n → (Cs i).length = sz ∧ (Cs i).all okCell = true) → flat? sz ((List.range n).map fun i => .agg (Cs i)) = some ((List.range n).flatMap Cs) := by
  suffices h : ∀ l : List Nat, (∀ i ∈ l, (Cs i).length = sz ∧ (Cs i).all okCell = true) → flat? sz (l.map fun i => .agg (Cs i)) = some (l.flatMap Cs) from
    fun n hn => h _ fun i hi => hn i (by simpa using hi)
  intro l
  induction l with
  | nil => intro _; rfl
  | cons a r ih =>
    intro h
    have ha := h a (List.mem_cons_self ..)
    have := ih fun i hi => h i (List.mem_cons_of_mem _ hi)
    simp only [List.map_cons, flat?, this, cellsOf, ha.1, ha.2, and_self, if_true, List.flatMap_cons]
theorem flatMap_len {sz : Nat} (Cs : Nat → List AV) : ∀ n, (∀ i, i < n → (Cs i).length = sz) → ((List.range n).flatMap Cs).length = n * sz
  | 0, _ => by simp
  | n + 1, h => by
    have ih := flatMap_len Cs n fun i hi => h i (by omega)
    simp only [List.range_succ, List.flatMap_append, List.length_append, ih, List.flatMap_cons, List.flatMap_nil, List.append_nil, h n (by omega)]
    rw [Nat.succ_mul]
theorem flatMap_at {sz : Nat} (Cs : Nat → List AV) : ∀ n, (∀ i, i < n → (Cs i).length = sz) → ∀ k x, ((List.range n).flatMap Cs)[k]? = some x → ∃ i r, i < n ∧ r < sz ∧ k = i * sz + r ∧ (Cs i)[r]? = some x
  | 0, _, k, x, h => by simp at h
  | n + 1, hl, k, x, h => by
    have hlen := flatMap_len Cs n fun i hi => hl i (by omega)
    simp only [List.range_succ, List.flatMap_append, List.flatMap_cons, List.flatMap_nil, List.append_nil] at h
    by_cases hk : k < n * sz
    · rw [List.getElem?_append_left (by omega)] at h
      obtain ⟨i, r, h1, h2, h3, h4⟩ := flatMap_at Cs n (fun i hi => hl i (by omega)) k x h
      exact ⟨i, r, by omega, h2, h3, h4⟩
    · rw [List.getElem?_append_right (by omega), hlen] at h
      have hr : k - n * sz < sz := by
        have := (List.getElem?_eq_some_iff.1 h).1
        rwa [hl n (by omega)] at this
      exact ⟨n, k - n * sz, by omega, hr, by omega, h⟩
theorem vr_vec {W : World} {a : Addr} {len cap sz : Nat} (hsz : 0 < sz) (hlc : len ≤ cap) (Cs : Nat → List AV) (Vs : Nat → List Value) (hC : ∀ i, i < len → (Cs i).length = sz ∧ (Cs i).all okCell = true ∧ LR (C0 W) W (Cs i) (Vs i))
    (hW : ∀ i, i < len → W.cells? 0 (a.add (i * sz)) sz = some (Vs i)) : VR (C0 W) W (.vec 0 sz ((List.range len).map fun i => .agg (Cs i))) (.slice (some a) len cap) := by
  by_cases h0 : len = 0
  · subst h0
    exact .vec0 sz a cap
  · have hcell : ∀ i, i < len → ∀ r, r < sz → W.cell? (a.add (i * sz + r)) = (Vs i)[r]? := fun i hi r hr => by
      have := (World.cells?_some (hW i hi)).2.2 r hr
      rwa [Go.Deep.add_add] at this
    have hVl : ∀ i, i < len → (Vs i).length = sz := fun i hi => (World.cells?_some (hW i hi)).2.1
    obtain ⟨b, off, spot⟩ := a
    have hc0 := hcell 0 (by omega) 0 hsz
    rw [List.getElem?_eq_getElem (by rw [hVl 0 (by omega)]; exact hsz)] at hc0
    have hspot : spot = none := by simpa [Addr.add] using World.cell?_spot hc0
    subst hspot
    have hb : b < W.heap.size := by simpa [Addr.add] using cell_block_lt hc0
    have hcl : ∀ i, i < len → ∀ r, r < sz → W.cell? ⟨b, off + (i * sz + r), none⟩ = (Vs i)[r]? := fun i hi r hr => by
      have := hcell i hi r hr
      rwa [add_plain] at this
    have hfl := flat_aggs (sz := sz) Cs len fun i hi => ⟨(hC i hi).1, (hC i hi).2.1⟩
    have hfn := flatMap_len (sz := sz) Cs len fun i hi => (hC i hi).1
    have hat := flatMap_at (sz := sz) Cs len fun i hi => (hC i hi).1
    have hex : ∀ k, k < ((List.range len).flatMap Cs).length → ∃ v, W.cell? ⟨b, off + k, none⟩ = some v := fun k hk => by
      obtain ⟨i, r, h1, h2, rfl, h4⟩ := hat k _ (List.getElem?_eq_getElem hk)
      have := hcl i h1 r h2
      rw [List.getElem?_eq_getElem (by rw [hVl i h1]; exact h2)] at this
      exact ⟨_, this⟩
    have hlast : off + len * sz ≤ (C0 W).top b := by
      have h1 : (len - 1) * sz + (sz - 1) = len * sz - 1 := by
        have : len * sz = (len - 1) * sz + sz := by
          have := Nat.succ_mul (len - 1) sz
          rwa [show (len - 1).succ = len by omega] at this
        omega
      have hpos : 0 < len * sz := Nat.mul_pos (by omega) hsz
      have := hcl (len - 1) (by omega) (sz - 1) (by omega)
      rw [List.getElem?_eq_getElem (by rw [hVl _ (by omega)]; omega)] at this
      simp only [C0]
      unfold World.cell? at this
      split at this
      · rename_i c _ _ hh
        simp only at hh
        rw [hh]
        simp only
        have := (Array.getElem?_eq_some_iff.1 this).1
        simp only at this
        omega
      · cases this
    have key := VR.vec (C := C0 W) (w := W) 0 sz ((List.range len).map fun i => .agg (Cs i)) ((List.range len).flatMap Cs) b off cap (fun k => (W.cell? ⟨b, off + k, none⟩).getD undef) hsz (by simpa using hlc) hfl hb (C0.free W b)
      (by rw [hfn]; exact hlast)
      (fun k hk => by
        obtain ⟨v, hv⟩ := hex k hk
        rw [hv]; rfl)
      (fun k x hk => by
        obtain ⟨i, r, h1, h2, rfl, h4⟩ := hat k x hk
        have h5 := hcl i h1 r h2
        obtain ⟨v, h6, h7⟩ := (hC i h1).2.2.get h4
        rw [h5, h6]
        exact h7)
      (fun h => by omega) (fun h => by omega) (fun h => by omega)
    simpa using key
end Go.Abs

namespace Go.Proofs.YtaacibffjmbfiaaDoor
open Go.Abs
inductive Ty where
  | mk (kind : Int) (name : ByteArray) (var : Int) (args : List Ty)
namespace Ty
def kind : Ty → Int | .mk k _ _ _ => k
def name : Ty → ByteArray | .mk _ n _ _ => n
def var : Ty → Int | .mk _ _ v _ => v
def args : Ty → List Ty | .mk _ _ _ a => a
end Ty
mutual
def szT : Ty → Nat
  | .mk _ _ _ as => szL as + 1
def szL : List Ty → Nat
  | [] => 0
  | a :: r => szT a + szL r
end
theorem szL_mem {a : Ty} : ∀ {l : List Ty}, a ∈ l → szT a ≤ szL l
  | b :: r, h => by
    simp only [szL]
    rcases List.mem_cons.1 h with rfl | h
    · omega
    · have := szL_mem h; omega
theorem sz_arg {a t : Ty} (h : a ∈ t.args) : szT a < szT t := by
  obtain ⟨k, n, v, as⟩ := t
  have := szL_mem h
  simp only [szT, Ty.args] at this ⊢
  omega
theorem ty_ind {P : Ty → Prop} (h : ∀ t, (∀ a ∈ t.args, P a) → P t) : ∀ t, P t := by
  suffices key : ∀ n t, szT t ≤ n → P t from fun t => key _ t (Nat.le_refl _)
  intro n
  induction n with
  | zero => intro t ht; obtain ⟨k, m, v, as⟩ := t; simp [szT] at ht
  | succ n ih => intro t ht; exact h t fun a ha => ih a (by have := sz_arg ha; omega)
mutual
def TyC : Ty → List AV → Prop
  | .mk k n v as, cs => ∃ x ys, cs = [.sc (.int .i64 k), .sc (.string n), .sc (.int .i64 v), x] ∧ IsV 4 x ys ∧ TysC as ys ∧ as.length ≤ 2 ^ 63 - 1
def TysC : List Ty → List AV → Prop
  | [], ys => ys = []
  | a :: r, ys => ∃ cs ys', ys = .agg cs :: ys' ∧ TyC a cs ∧ TysC r ys'
end
theorem TysC.len : ∀ {as : List Ty} {ys : List AV}, TysC as ys → ys.length = as.length
  | [], ys, h => by simp only [TysC] at h; subst h; rfl
  | a :: r, ys, h => by
    simp only [TysC] at h
    obtain ⟨cs, ys', rfl, _, h2⟩ := h
    simp [TysC.len h2]
theorem TysC.at : ∀ {as : List Ty} {ys : List AV}, TysC as ys → ∀ (i : Nat) (h : i < as.length), ∃ cs, ys[i]? = some (.agg cs) ∧ TyC as[i] cs
  | a :: r, ys, h, 0, _ => by
    simp only [TysC] at h
    obtain ⟨cs, ys', rfl, h1, h2⟩ := h
    exact ⟨cs, rfl, h1⟩
  | a :: r, ys, h, i + 1, hi => by
    simp only [TysC] at h
    obtain ⟨cs, ys', rfl, h1, h2⟩ := h
    obtain ⟨cs', h3, h4⟩ := TysC.at h2 i (by simpa using hi)
    exact ⟨cs', by simpa using h3, h4⟩
theorem TysC.snoc : ∀ {as : List Ty} {ys : List AV} {a : Ty} {cs : List AV}, TysC as ys → TyC a cs → TysC (as ++ [a]) (ys ++ [.agg cs])
  | [], ys, a, cs, h, ha => by
    simp only [TysC] at h; subst h
    exact ⟨cs, [], rfl, ha, rfl⟩
  | b :: r, ys, a, cs, h, ha => by
    simp only [TysC] at h
    obtain ⟨cb, ys', rfl, h1, h2⟩ := h
    exact ⟨cb, ys' ++ [.agg cs], rfl, h1, TysC.snoc h2 ha⟩
theorem TysC.of : ∀ {ar : List Ty} {f : Nat → List AV}, (∀ (i : Nat) (h : i < ar.length), TyC ar[i] (f i)) → TysC ar ((List.range ar.length).map fun i => .agg (f i))
  | [], f, h => rfl
  | a :: r, f, h => by
    have ih := TysC.of (ar := r) (f := fun i => f (i + 1)) (fun i hi => h (i + 1) (by simpa using hi))
    refine ⟨f 0, _, ?_, h 0 (by simp), ih⟩
    simp [List.range_succ_eq_map, List.map_map, Function.comp_def]

/-! What the functions answer. -/
mutual
def measF : Ty → Nat → Nat
  | .mk _ _ _ as, n => min (measL as (n + 1)) 501
def measL : List Ty → Nat → Nat
  | [], n => n
  | a :: r, n => if 500 < n then n else measL r (measF a n)
end
theorem measF_eq (t : Ty) (n : Nat) : measF t n = min (measL t.args (n + 1)) 501 := by obtain ⟨k, m, v, as⟩ := t; rfl
def argsF (k : Int) : Int := if k = 5 then 2 else if k = 6 then 1 else 0
mutual
def aloneF : Ty → Bool
  | .mk k n v as => decide (1 ≤ k ∧ k ≤ 7) && decide ((as.length : Int) = argsF k) && ((n.toList != []) == (k == 4)) && decide (0 ≤ v ∧ v ≤ 1999) && (v == 0 || k == 7) && aloneL as
def aloneL : List Ty → Bool
  | [] => true
  | a :: r => aloneF a && aloneL r
end
def goodF (t : Ty) : Bool := decide (measF t 0 ≤ 500) && aloneF t
mutual
def smallF : Ty → Int → Bool
  | .mk _ n _ as, m => decide (0 < m) && decide (as.length ≤ 4) && decide (n.size ≤ 60) && smallL as (m.tdiv 2)
def smallL : List Ty → Int → Bool
  | [], _ => true
  | a :: r, m => smallF a m && smallL r m
end
end Go.Proofs.YtaacibffjmbfiaaDoor

namespace Go.Proofs.YtaacibffjmbfiaaDoor
open Go.Abs
theorem measL_eq : ∀ (l : List Ty), (∀ a ∈ l, ∀ n, n ≤ 500 → measF a n = min (n + szT a) 501) → ∀ n, n ≤ 501 → measL l n = min (n + szL l) 501
  | [], _, n, hn => by simp only [measL, szL]; omega
  | a :: r, h, n, hn => by
    simp only [measL, szL]
    by_cases hc : 500 < n
    · rw [if_pos hc]; omega
    · rw [if_neg hc, h a (List.mem_cons_self ..) n (by omega), measL_eq r (fun b hb => h b (List.mem_cons_of_mem _ hb)) _ (by omega)]
      omega
theorem meas_eq : ∀ t : Ty, ∀ n, n ≤ 500 → measF t n = min (n + szT t) 501 := by
  refine ty_ind fun t ih n hn => ?_
  rw [measF_eq, measL_eq t.args ih (n + 1) (by omega)]
  obtain ⟨k, m, v, l⟩ := t
  simp only [szT, Ty.args]
  omega
theorem good_sz {t : Ty} (h : goodF t = true) : szT t ≤ 500 := by
  simp only [goodF, Bool.and_eq_true, decide_eq_true_eq] at h
  have := h.1
  rw [meas_eq t 0 (by omega)] at this
  omega
mutual
def varsF : Ty → List Int → List Int
  | .mk k _ v as, l => if k = 7 then (if v ∈ l then l else l ++ [v]) else varsL as l
def varsL : List Ty → List Int → List Int
  | [], l => l
  | a :: r, l => varsL r (varsF a l)
end
theorem varsF_eq (t : Ty) (l : List Int) : varsF t l = if t.kind = 7 then (if t.var ∈ l then l else l ++ [t.var]) else varsL t.args l := by obtain ⟨k, n, v, as⟩ := t; rfl
theorem varsL_len : ∀ (as : List Ty), (∀ a ∈ as, ∀ l, (varsF a l).length ≤ l.length + szT a) → ∀ l, (varsL as l).length ≤ l.length + szL as
  | [], _, l => by simp [varsL, szL]
  | a :: r, h, l => by
    have h1 := h a (List.mem_cons_self ..) l
    have h2 := varsL_len r (fun b hb => h b (List.mem_cons_of_mem _ hb)) (varsF a l)
    simp only [varsL, szL]
    omega
theorem szT_eq (t : Ty) : szT t = szL t.args + 1 := by obtain ⟨k, m, v, as⟩ := t; rfl
theorem vars_len : ∀ t : Ty, ∀ l, (varsF t l).length ≤ l.length + szT t := by
  refine ty_ind fun t ih l => ?_
  rw [varsF_eq, szT_eq]
  have h1 := varsL_len t.args ih l
  by_cases hk : t.kind = 7
  · rw [if_pos hk]
    by_cases hv : t.var ∈ l
    · rw [if_pos hv]; omega
    · rw [if_neg hv]; simp
  · rw [if_neg hk]; omega
theorem varsL_drop {as : List Ty} {k : Nat} (h : k < as.length) (l : List Int) : varsL (as.drop k) l = varsL (as.drop (k + 1)) (varsF as[k] l) := by
  rw [List.drop_eq_getElem_cons h]; rfl
theorem szL_drop {as : List Ty} {k : Nat} (h : k < as.length) : szL (as.drop k) = szT as[k] + szL (as.drop (k + 1)) := by
  rw [List.drop_eq_getElem_cons h]; rfl
mutual
def renF (f : Int → Option Ty) : Ty → Ty
  | .mk k n v as => if k = 7 then (match f v with | some x => x | none => .mk k n v as) else .mk k n v (renL f as)
def renL (f : Int → Option Ty) : List Ty → List Ty
  | [] => []
  | a :: r => renF f a :: renL f r
end
theorem renF_eq (f : Int → Option Ty) (t : Ty) : renF f t = if t.kind = 7 then (match f t.var with | some x => x | none => t) else .mk t.kind t.name t.var (renL f t.args) := by obtain ⟨k, n, v, as⟩ := t; rfl
theorem renL_len (f : Int → Option Ty) : ∀ l : List Ty, (renL f l).length = l.length
  | [] => rfl
  | a :: r => by simp [renL, renL_len f r]
theorem renL_at (f : Int → Option Ty) : ∀ (l : List Ty) (k : Nat) (h : k < l.length), (renL f l)[k]'(by rw [renL_len]; exact h) = renF f l[k]
  | a :: r, 0, _ => rfl
  | a :: r, k + 1, h => by
    simp only [renL, List.getElem_cons_succ]
    exact renL_at f r k (by simpa using h)
theorem renL_take (f : Int → Option Ty) (l : List Ty) (k : Nat) (h : k < l.length) : (renL f l).take (k + 1) = (renL f l).take k ++ [renF f l[k]] := by
  rw [List.take_add_one, List.getElem?_eq_getElem (by rw [renL_len]; exact h), renL_at f l k h]
  rfl
theorem ren_none (t : Ty) : renF (fun _ => none) t = t := by
  revert t
  refine ty_ind fun t ih => ?_
  rw [renF_eq]
  split
  · rfl
  · have : ∀ l : List Ty, (∀ a ∈ l, renF (fun _ => none) a = a) → renL (fun _ => none) l = l := by
      intro l
      induction l with
      | nil => intro _; rfl
      | cons a r ihl => intro h; simp only [renL]; rw [h a (List.mem_cons_self ..), ihl fun b hb => h b (List.mem_cons_of_mem _ hb)]
    rw [this _ ih]
    obtain ⟨k, n, v, as⟩ := t; rfl
end Go.Proofs.YtaacibffjmbfiaaDoor
