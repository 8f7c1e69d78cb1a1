/-
  Slices by value, as the calculus meets them: read, cut, grown.
-/
import Derived.Test.YtmmpcomfhcpicaaAbs16
set_option linter.unusedSimpArgs false
set_option linter.unusedVariables false
namespace Go.Abs

/-- The slice x holds xs: nil, or by value. -/
def IsV (sz : Nat) (x : AV) (xs : List AV) : Prop := (x = .sc (.slice none 0 0) ∧ xs = []) ∨ ∃ id, x = .vec id sz xs

theorem IsV.vec (id sz : Nat) (xs : List AV) : IsV sz (.vec id sz xs) xs := .inr ⟨id, rfl⟩
theorem IsV.nil (sz : Nat) : IsV sz (.sc (.slice none 0 0)) [] := .inl ⟨rfl, rfl⟩

/-- A part of a slice. -/
def subV (x : AV) (a b : Nat) : AV := match x with
  | .vec id sz xs => bif Nat.beq a 0 && Nat.beq b xs.length then .vec id sz xs else .vec 0 sz ((xs.drop a).take (b - a))
  | x => x

section
variable {E : Env} {S : St} {sz : Nat} {x : AV} {xs : List AV} {tm : PM AV} {d : Option Tmp}

theorem IsV.len (h : IsV sz x xs) (S : St) : lenV x S = some (.sc (.int .i64 (xs.length : Nat)), S) := by
  rcases h with ⟨rfl, rfl⟩ | ⟨id, rfl⟩ <;> rfl
theorem IsV.idx (h : IsV sz x xs) {k : Nat} {v : AV} {cs : List AV} (hk : xs[k]? = some v) (hc : cellsOf v = some cs) (S : St) : idxV sz x (some (k : Int)) S = some (.eptr cs 0, S) := by
  rcases h with ⟨rfl, rfl⟩ | ⟨id, rfl⟩
  · simp at hk
  · simp [idxV, hk, hc]
theorem IsV.idxB {l : List UInt8} (h : IsV 1 x (byteVals l)) {k : Nat} (hk : k < l.length) (S : St) : idxV 1 x (some (k : Int)) S = some (.eptr [.sc (.int .u8 l[k].toNat)] 0, S) :=
  h.idx (v := .sc (.int .u8 l[k].toNat)) (by simp [byteVals, hk]) rfl S
theorem IsV.sub (h : IsV sz x xs) (a b : Nat) (hb : b ≤ xs.length) : IsV sz (subV x a b) ((xs.drop a).take (b - a)) := by
  rcases h with ⟨rfl, rfl⟩ | ⟨id, rfl⟩
  · exact .inl ⟨rfl, by simp⟩
  · simp only [subV, cond_eq_ite]
    split
    · rename_i hc
      simp only [Bool.and_eq_true] at hc
      have h1 := Nat.eq_of_beq_eq_true hc.1
      have h2 := Nat.eq_of_beq_eq_true hc.2
      subst h1
      rw [List.drop_zero, h2, Nat.sub_zero, List.take_length]
      exact IsV.vec _ _ _
    · exact IsV.vec _ _ _
theorem byteVals_sub (l : List UInt8) (a n : Nat) : ((byteVals l).drop a).take n = byteVals ((l.drop a).take n) := by simp [byteVals, List.map_drop, List.map_take]
theorem IsV.subB {l : List UInt8} (h : IsV 1 x (byteVals l)) (a b : Nat) (hb : b ≤ l.length) : IsV 1 (subV x a b) (byteVals ((l.drop a).take (b - a))) := by
  rw [← byteVals_sub]; exact h.sub a b (by simpa [byteVals] using hb)
theorem IsV.slice (h : IsV sz x xs) {t : TypeId} (ht : slIs E t sz = true) {lo hi : Option AV} {a b : Nat} (hb : bounds xs.length lo hi = some (a, b)) (S : St) : sliceA E t x lo hi S = some (subV x a b, S) := by
  unfold slIs at ht
  split at ht
  · rename_i e hd
    split at ht
    · rename_i i hi
      have hsz := Nat.eq_of_beq_eq_true ht
      rcases h with ⟨rfl, rfl⟩ | ⟨id, rfl⟩
      · simp at hb
        simp [sliceA, hd, hb, hi, subV]
      · simp only [sliceA, hd, hb, hi, hsz, Nat.beq_refl, cond_true, subV]
        cases (Nat.beq a 0 && Nat.beq b xs.length) <;> rfl
    · simp at ht
  · simp at ht
theorem bounds_lo {n a : Nat} (h : a ≤ n) : bounds n (some (.sc (.int .i64 (a : Int)))) none = some (a, n) := by simp [bounds, int?, h]
theorem bounds_hi {n b : Nat} (h : b ≤ n) : bounds n none (some (.sc (.int .i64 (b : Int)))) = some (0, b) := by simp [bounds, int?, h]
theorem bounds_lohi {n a b : Nat} (h : b ≤ n) (h2 : a ≤ b) : bounds n (some (.sc (.int .i64 (a : Int)))) (some (.sc (.int .i64 (b : Int)))) = some (a, b) := by simp [bounds, int?, h, h2]

/-- A slice that may grow. -/
def OwnV (S : St) (e : TypeId) (sz : Nat) (x : AV) (xs : List AV) : Prop :=
  (x = .sc (.slice none 0 0) ∧ xs = []) ∨ ∃ id, x = .vec id sz xs ∧ (id = 1 ∨ id = 2 ∨ (S.live id = true ∧ S.ityIs id e = true))
theorem OwnV.is {e : TypeId} (h : OwnV S e sz x xs) : IsV sz x xs := by
  rcases h with h | ⟨id, h, _⟩
  · exact .inl h
  · exact .inr ⟨id, h⟩
/-- No number to come is spent. -/
def St.Fresh (S : St) : Prop := 2 < S.nid ∧ ∀ i, S.nid ≤ i → S.spent.get i = none
/-- The state behind an append. -/
def appS (e : TypeId) (S : St) (x : AV) : St := match x with
  | .vec id _ _ => bif Nat.beq id 1 || Nat.beq id 2 then S.newId e else { S.newId e with spent := S.spent.set id () }
  | _ => S.newId e
theorem appS_nid (e : TypeId) (S : St) (x : AV) : (appS e S x).nid = S.nid + 1 := by
  unfold appS
  split
  · cases (_ || _) <;> rfl
  · rfl
theorem appS_fresh {e : TypeId} {x : AV} {xs : List AV} (hS : S.Fresh) (h : OwnV S e sz x xs) : (appS e S x).Fresh := by
  refine ⟨by rw [appS_nid]; have := hS.1; omega, fun i hi => ?_⟩
  rw [appS_nid] at hi
  rcases h with ⟨rfl, _⟩ | ⟨id, rfl, hid⟩
  · exact hS.2 i (by omega)
  · simp only [appS, cond_eq_ite]
    split
    · exact hS.2 i (by omega)
    · rename_i hb
      simp only [Bool.or_eq_true, not_or, Bool.not_eq_true] at hb
      rcases hid with rfl | rfl | ⟨hl, _⟩
      · simp at hb
      · simp at hb
      · simp only [St.live, Bool.and_eq_true] at hl
        have : id < S.nid := Nat.le_of_ble_eq_true hl.1.2
        show (S.spent.set id ()).get i = none
        rw [PM.get_set, if_neg (by omega)]
        exact hS.2 i (by omega)
theorem appS_own {e : TypeId} {x : AV} {xs zs : List AV} (hS : S.Fresh) (h : OwnV S e sz x xs) : OwnV (appS e S x) e sz (.vec S.nid sz zs) zs := by
  have hf := appS_fresh hS h
  have hn := appS_nid e S x
  refine .inr ⟨S.nid, rfl, .inr (.inr ⟨?_, ?_⟩)⟩
  · simp only [St.live, Bool.and_eq_true]
    refine ⟨⟨Nat.ble_eq_true_of_le hS.1, Nat.ble_eq_true_of_le (by rw [hn]; exact Nat.le_refl _)⟩, ?_⟩
    have : (appS e S x).spent.get S.nid = none := by
      rcases h with ⟨rfl, _⟩ | ⟨id, rfl, hid⟩
      · exact hS.2 _ (Nat.le_refl _)
      · simp only [appS, cond_eq_ite]
        split
        · exact hS.2 _ (Nat.le_refl _)
        · rename_i hb
          simp only [Bool.or_eq_true, not_or, Bool.not_eq_true] at hb
          rcases hid with rfl | rfl | ⟨hl, _⟩
          · simp at hb
          · simp at hb
          · simp only [St.live, Bool.and_eq_true] at hl
            have : id < S.nid := Nat.le_of_ble_eq_true hl.1.2
            show (S.spent.set id ()).get S.nid = none
            rw [PM.get_set, if_neg (by omega)]
            exact hS.2 _ (Nat.le_refl _)
    simp [this]
  · have : (appS e S x).ity.get S.nid = some e := by
      unfold appS
      split
      · cases (_ || _) <;> simp [St.newId, PM.get_set]
      · simp [St.newId, PM.get_set]
    simp [St.ityIs, this]

/-- What is asked of an element's type. -/
def elIs (E : Env) (t e : TypeId) (agg : Bool) (sz bytes : Nat) : Bool := match E.und t, E.und e, E.inf e with
  | some (.slice e'), some de, some i => Nat.beq e' e && (isAggD de == agg) && Nat.beq i.size sz && Nat.beq i.bytes bytes && zeroOk i && Nat.blt 0 i.size
  | _, _, _ => false
theorem op_append (x y : Operand) (t t1 : TypeId) : opV E tm d (.call { callee := .builtin .append, args := #[x, y], argTypes := #[t, t1] }) S = builtinA E (E.hp t d) .append [t, t1] [E.ev tm x, E.ev tm y] S := rfl
theorem app_xs {e : TypeId} {ti : TypeInfo} {ys : List AV} (hS : S.Fresh) (h1 : ti.size = sz) (h2 : zeroOk ti = true) (h3 : 0 < ti.size) (hx : OwnV S e sz x xs) (hne : ys ≠ []) (hsz : allSz sz ys = true) (hb : (xs.length + ys.length) * (ti.bytes + 1) ≤ 2 ^ 46) :
    appendXs false e ti x ys S = some (.vec S.nid sz (xs ++ ys), appS e S x) := by
  subst h1
  cases ys with
  | nil => exact absurd rfl hne
  | cons y ys =>
    have h3' : Nat.blt 0 ti.size = true := Nat.ble_eq_true_of_le h3
    simp only [appendXs, hsz, h2, h3', Bool.and_self, cond_true, newSlice, cond_false]
    rcases hx with ⟨rfl, rfl⟩ | ⟨id, rfl, hid⟩
    · have : Nat.ble ((y :: ys).length * (ti.bytes + 1)) (2 ^ 46) = true := Nat.ble_eq_true_of_le (by simpa using hb)
      simp only [this, cond_true, List.nil_append, appS]
    · have : Nat.ble ((xs.length + (y :: ys).length) * (ti.bytes + 1)) (2 ^ 46) = true := Nat.ble_eq_true_of_le hb
      simp only [Nat.beq_refl, this, Bool.and_self, cond_true, appS, cond_eq_ite]
      by_cases hc : (Nat.beq id 1 || Nat.beq id 2) = true
      · simp only [hc, if_true]
      · rw [if_neg hc, if_neg hc]
        rcases hid with rfl | rfl | ⟨hl, hi⟩
        · simp at hc
        · simp at hc
        · simp [hl, hi]
theorem app_own {t t1 e e1 : TypeId} {agg : Bool} {bytes : Nat} {X Y : AV} {ys : List AV} (ht : elIs E t e agg sz bytes = true) (ht1 : E.und t1 = some (.slice e1)) (hS : S.Fresh) (hx : OwnV S e sz X xs) (hy : IsV sz Y ys) (hne : ys ≠ [])
    (hsz : allSz sz ys = true) (hb : (xs.length + ys.length) * (bytes + 1) ≤ 2 ^ 46) : builtinA E false .append [t, t1] [X, Y] S = some (.vec S.nid sz (xs ++ ys), appS e S X) := by
  unfold elIs at ht
  split at ht
  · rename_i e' de i hd hde hi
    simp only [Bool.and_eq_true, beq_iff_eq] at ht
    obtain ⟨⟨⟨⟨⟨k1, k2⟩, k3⟩, k4⟩, k5⟩, k6⟩ := ht
    have k1 := Nat.eq_of_beq_eq_true k1
    have k3 := Nat.eq_of_beq_eq_true k3
    have k4 := Nat.eq_of_beq_eq_true k4
    have k6 : 0 < i.size := Nat.le_of_ble_eq_true k6
    subst k1
    rcases hy with ⟨rfl, rfl⟩ | ⟨id, rfl⟩
    · exact absurd rfl hne
    · simp only [builtinA, hd, ht1, hde, hi, appendA, elemsS, elemsOf]
      exact app_xs hS k3 k5 k6 hx hne hsz (by rw [k4]; exact hb)
  · simp at ht
theorem app_str {t t1 e : TypeId} {agg : Bool} {bytes : Nat} {X : AV} {b : ByteArray} (ht : elIs E t e agg 1 bytes = true) (ht1 : E.und t1 = some .string) (hS : S.Fresh) (hx : OwnV S e 1 X xs) (hne : b.data.toList ≠ [])
    (hb : (xs.length + b.data.toList.length) * (bytes + 1) ≤ 2 ^ 46) : builtinA E false .append [t, t1] [X, .sc (.string b)] S = some (.vec S.nid 1 (xs ++ byteVals b.data.toList), appS e S X) := by
  unfold elIs at ht
  split at ht
  · rename_i e' de i hd hde hi
    simp only [Bool.and_eq_true, beq_iff_eq] at ht
    obtain ⟨⟨⟨⟨⟨k1, k2⟩, k3⟩, k4⟩, k5⟩, k6⟩ := ht
    have k1 := Nat.eq_of_beq_eq_true k1
    have k3 := Nat.eq_of_beq_eq_true k3
    have k4 := Nat.eq_of_beq_eq_true k4
    have k6 : 0 < i.size := Nat.le_of_ble_eq_true k6
    subst k1
    have hone : ∀ l : List UInt8, allSz 1 (byteVals l) = true := fun l => by
      induction l with
      | nil => rfl
      | cons c l ih => simp only [byteVals, List.map_cons, allSz, Bool.and_eq_true]; exact ⟨rfl, ih⟩
    simp only [builtinA, hd, ht1, hi, appendA, elemsS, elemsOf]
    exact app_xs hS k3 k5 k6 hx (by simpa [byteVals] using hne) (hone _) (by rw [k4]; simpa [byteVals] using hb)
  · simp at ht
theorem allSz_bytes : ∀ l : List UInt8, allSz 1 (byteVals l) = true
  | [] => rfl
  | c :: l => by simp only [byteVals, List.map_cons, allSz, Bool.and_eq_true]; exact ⟨rfl, allSz_bytes l⟩
theorem byteVals_app (a b : List UInt8) : byteVals a ++ byteVals b = byteVals (a ++ b) := by simp [byteVals]

/-- A state that has gone on from another, leaving what owns slice x (nil: nothing). -/
structure Grow (S S' : St) (x : AV) : Prop where
  nid : S.nid ≤ S'.nid
  sp : ∀ id, id < S.nid → (∀ sz xs, x ≠ .vec id sz xs) → S'.spent.get id = S.spent.get id
  ity : ∀ id, id < S.nid → S'.ity.get id = S.ity.get id
  no : S.no ≤ S'.no
  obj : ∀ l, l < S.no → S'.objs.get l = S.objs.get l
  fresh : S'.Fresh
  ver : ∀ l, l < S.no → S'.ver l = S.ver l
/-- No slice. -/
abbrev nilV : AV := .sc (.slice none 0 0)
theorem Grow.refl (h : S.Fresh) (x : AV) : Grow S S x := ⟨Nat.le_refl _, fun _ _ _ => rfl, fun _ _ => rfl, Nat.le_refl _, fun _ _ => rfl, h, fun _ _ => rfl⟩
theorem Grow.trans {S1 S2 : St} {y : AV} (h : Grow S S1 x) (k : Grow S1 S2 y) (hy : y = x ∨ y = nilV ∨ ∃ id sz xs, y = .vec id sz xs ∧ S.nid ≤ id) : Grow S S2 x := by
  refine ⟨Nat.le_trans h.nid k.nid, fun id hid hne => ?_, fun id hid => (k.ity id (Nat.lt_of_lt_of_le hid h.nid)).trans (h.ity id hid), Nat.le_trans h.no k.no, fun l hl => (k.obj l (Nat.lt_of_lt_of_le hl h.no)).trans (h.obj l hl), k.fresh, fun l hl => (k.ver l (Nat.lt_of_lt_of_le hl h.no)).trans (h.ver l hl)⟩
  refine (k.sp id (Nat.lt_of_lt_of_le hid h.nid) fun sz xs e => ?_).trans (h.sp id hid hne)
  rcases hy with rfl | rfl | ⟨id2, sz2, xs2, rfl, h2⟩
  · exact hne _ _ e
  · cases e
  · cases e; omega
theorem Grow.two {S S1 S2 : St} (h : Grow S S1 nilV) (k : Grow S1 S2 nilV) : Grow S S2 nilV := h.trans k (.inl rfl)
theorem Grow.app {e : TypeId} {x : AV} {xs : List AV} (hS : S.Fresh) (h : OwnV S e sz x xs) : Grow S (appS e S x) x := by
  refine ⟨by rw [appS_nid]; omega, fun id hid hne => ?_, fun id hid => ?_, ?_, fun l _ => ?_, appS_fresh hS h, fun l _ => ?_⟩
  · rcases h with ⟨rfl, _⟩ | ⟨i, rfl, _⟩
    · rfl
    · simp only [appS]
      cases (Nat.beq i 1 || Nat.beq i 2) with
      | true => rfl
      | false =>
        show (S.spent.set i ()).get id = _
        rw [PM.get_set, if_neg (fun e => hne _ _ (by rw [e]))]
  · have : ∀ S' : St, S'.ity = S.ity.set S.nid e → S'.ity.get id = S.ity.get id := fun S' h => by rw [h, PM.get_set, if_neg (by omega)]
    refine this _ ?_
    unfold appS
    split
    · cases (_ || _) <;> rfl
    · rfl
  · unfold appS
    split
    · cases (_ || _) <;> exact Nat.le_refl _
    · exact Nat.le_refl _
  · unfold appS
    split
    · cases (_ || _) <;> rfl
    · rfl
  · unfold appS
    split
    · cases (_ || _) <;> rfl
    · rfl
theorem Grow.raise (h : S.Fresh) (n : Nat) (x : AV) : Grow S (S.raise n) x := ⟨Nat.le_refl _, fun _ _ _ => rfl, fun _ _ => rfl, Nat.le_add_right _ _, fun _ _ => rfl, h, fun _ _ => rfl⟩
/-- What a slice may grow, if another one has grown. -/
theorem OwnV.grow {S' : St} {e : TypeId} {x y : AV} {xs : List AV} (h : OwnV S e sz x xs) (g : Grow S S' y) (hne : ∀ id sz1 xs1 sz2 xs2, x = .vec id sz1 xs1 → y = .vec id sz2 xs2 → id ≤ 2) : OwnV S' e sz x xs := by
  rcases h with h | ⟨id, rfl, hid⟩
  · exact .inl h
  · refine .inr ⟨id, rfl, ?_⟩
    rcases hid with h | h | ⟨h1, h2⟩
    · exact .inl h
    · exact .inr (.inl h)
    · have hlt : 2 < id ∧ id < S.nid ∧ S.spent.get id = none := by
        simp only [St.live, Bool.and_eq_true] at h1
        exact ⟨Nat.le_of_ble_eq_true h1.1.1, Nat.le_of_ble_eq_true h1.1.2, by simpa using h1.2⟩
      refine .inr (.inr ⟨?_, ?_⟩)
      · simp only [St.live, Bool.and_eq_true]
        refine ⟨⟨Nat.ble_eq_true_of_le hlt.1, Nat.ble_eq_true_of_le (Nat.lt_of_lt_of_le hlt.2.1 g.nid)⟩, ?_⟩
        rw [g.sp id hlt.2.1 (fun sz1 xs1 e => by have := hne id _ _ _ _ rfl e; omega), hlt.2.2]
        rfl
      · have := g.ity id hlt.2.1
        simp only [St.ityIs, this] at h2 ⊢
        exact h2
theorem splice_all {cs vs : List AV} (h : vs.length = cs.length) : splice cs 0 vs = vs := by
  simp [splice, h]
theorem bs_one {t e : TypeId} {agg : Bool} {bytes : Nat} {v : AV} {cs : List AV} (ht : elIs E t e agg sz bytes = true) (h1 : (agg || Nat.beq sz 1) = true) (h2 : sz ≤ 2 ^ 24) (hv : cellsOf v = some cs) (hl : cs.length = sz) (hok : cs.all okCell = true)
    (hag : v = (bif agg then .agg cs else cs.headD .undef)) : buildSliceA E t 1 [(0, v)] S = some (.vec 1 sz [v], S) := by
  unfold elIs at ht
  split at ht
  · rename_i e' de i hd hde hi
    simp only [Bool.and_eq_true, beq_iff_eq] at ht
    obtain ⟨⟨⟨⟨⟨k1, k2⟩, k3⟩, k4⟩, k5⟩, k6⟩ := ht
    have k1 := Nat.eq_of_beq_eq_true k1
    have k3 := Nat.eq_of_beq_eq_true k3
    subst k1; subst k3
    unfold zeroOk at k5
    split at k5
    · rename_i z hz
      have e1 : Nat.ble (1 * i.size) (2 ^ 24) = true := Nat.ble_eq_true_of_le (by omega)
      have e2 : fillA (fun j => some (j * i.size, i.size)) ((List.range (1 * i.size)).map fun j => AV.sc (z.cells.getD (j % i.size) default)) [(0, v)] = some cs := by
        have e3 : (Nat.beq cs.length i.size && Nat.ble (0 + cs.length) ((List.range (1 * i.size)).map fun j => AV.sc (z.cells.getD (j % i.size) default)).length) = true := by
          simp only [Bool.and_eq_true]
          exact ⟨by rw [hl]; exact Nat.beq_refl _, Nat.ble_eq_true_of_le (by simp; omega)⟩
        simp only [fillA, hv, Nat.zero_mul, e3, cond_true]
        rw [splice_all (by simp; omega)]
      have e4 : (Nat.blt 0 i.size && Nat.beq z.cells.size i.size && Nat.ble (1 * i.size) (2 ^ 24) && (isAggD de || Nat.beq i.size 1)) = true := by
        rw [k2, h1, e1, k5]
        simp [k6]
      simp only [buildSliceA, buildCells, hd, hde, hi, hz, e4, cond_true, e2, hok]
      have e5 : groups (isAggD de) i.size 1 cs = [v] := by
        simp only [groups]
        rw [k2, hag, ← hl, List.take_length]
      rw [e5]
    · simp at k5
  · simp at ht
theorem bs_byte {t e : TypeId} {bytes : Nat} (ht : elIs E t e false 1 bytes = true) (n : Int) : buildSliceA E t 1 [(0, .sc (.int .u8 n))] S = some (.vec 1 1 [.sc (.int .u8 n)], S) :=
  bs_one ht rfl (by decide) rfl rfl rfl rfl
end
end Go.Abs
