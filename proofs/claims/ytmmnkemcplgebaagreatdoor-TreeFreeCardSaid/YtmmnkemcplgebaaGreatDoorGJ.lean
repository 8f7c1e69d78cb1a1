/-
  Trees: the plain law of what is free, of depths.
  Trees: the law TreeFree.
-/
import Derived.Test.YtmmnkemcplgebaaGreatDoorGI
import Derived.Test.YtmmnkemcplgebaaGreatDoorGA
import Derived.Lib.Strings
section
set_option linter.unusedSimpArgs false
set_option linter.unusedVariables false
set_option maxRecDepth 100000
namespace Go.Proofs.YtmmnkemcplgebaaGreatDoor
open Go.Abs
theorem freeW_congr {ns : List NodeV} {fr fr' b : Nat → List ByteArray} {d : Nat} {ds : List DeclV} (ih : ∀ p a z, walkF ns ds d p a = some z → fr a = fr' a) (pat m : Bool) : ∀ (l : List Int) (i nx z : Nat) (out : List ByteArray), kidsW (walkF ns ds d) pat m l i nx = some z → freeW fr b l i out = freeW fr' b l i out
  | [], i, nx, z, out, h => rfl
  | k :: r, i, nx, z, out, h => by
    unfold kidsW at h
    cases hb : (k == ((nx : Nat) : Int)) with
    | false => rw [hb] at h; cases h
    | true =>
      rw [hb, cond_true] at h
      have hk : k = ((nx : Nat) : Int) := by simpa using hb
      cases hq : walkF ns ds d (pat || (m && armF ((i : Nat) : Int))) nx with
      | none => rw [hq] at h; cases h
      | some z1 =>
        rw [hq] at h
        rw [freeW, freeW, hk, Int.toNat_natCast, ih _ _ _ hq]
        exact freeW_congr ih pat m r (i + 1) z1 z _ h
theorem freeF_fuel (ns : List NodeV) (ds : List DeclV) : ∀ (d f f' : Nat), d ≤ f → d ≤ f' → ∀ (pat : Bool) (a z : Nat), walkF ns ds d pat a = some z → freeF ns f a = freeF ns f' a
  | 0, f, f', h1, h2, pat, a, z, h => by cases h
  | d + 1, 0, f', h1, h2, pat, a, z, h => by omega
  | d + 1, f + 1, 0, h1, h2, pat, a, z, h => by omega
  | d + 1, f + 1, f' + 1, h1, h2, pat, a, z, h => by
    have hbd := walk_bd _ _ _ _ _ _ h
    have hlt : a < ns.length := by omega
    have hk := walk_kids h hlt
    rw [freeF, freeF, List.getElem?_eq_getElem hlt]
    exact freeW_congr (freeF_fuel ns ds d f f' (by omega) (by omega)) pat _ _ 0 (a + 1) z _ hk
theorem depth_congr {ns : List NodeV} {g g' : Nat → Nat} {d : Nat} {ds : List DeclV} (ih : ∀ p a z, walkF ns ds d p a = some z → g a = g' a) (pat m : Bool) : ∀ (l : List Int) (i nx z : Nat), kidsW (walkF ns ds d) pat m l i nx = some z → (l.map fun k => g k.toNat) = l.map fun k => g' k.toNat
  | [], i, nx, z, h => rfl
  | k :: r, i, nx, z, h => by
    unfold kidsW at h
    cases hb : (k == ((nx : Nat) : Int)) with
    | false => rw [hb] at h; cases h
    | true =>
      rw [hb, cond_true] at h
      have hk : k = ((nx : Nat) : Int) := by simpa using hb
      cases hq : walkF ns ds d (pat || (m && armF ((i : Nat) : Int))) nx with
      | none => rw [hq] at h; cases h
      | some z1 =>
        rw [hq] at h
        rw [List.map_cons, List.map_cons, hk, Int.toNat_natCast, ih _ _ _ hq, depth_congr ih pat m r (i + 1) z1 z h]
theorem depthF_fuel (ns : List NodeV) (ds : List DeclV) : ∀ (d f f' : Nat), d ≤ f → d ≤ f' → ∀ (pat : Bool) (a z : Nat), walkF ns ds d pat a = some z → depthF ns f a = depthF ns f' a
  | 0, f, f', h1, h2, pat, a, z, h => by cases h
  | d + 1, 0, f', h1, h2, pat, a, z, h => by omega
  | d + 1, f + 1, 0, h1, h2, pat, a, z, h => by omega
  | d + 1, f + 1, f' + 1, h1, h2, pat, a, z, h => by
    have hbd := walk_bd _ _ _ _ _ _ h
    have hlt : a < ns.length := by omega
    have hk := walk_kids h hlt
    rw [depthF, depthF, List.getElem?_eq_getElem hlt]
    simp only [depth_congr (g := depthF ns f) (g' := depthF ns f') (depthF_fuel ns ds d f f' (by omega) (by omega)) pat _ _ 0 (a + 1) z hk]
/-- What a walk tells of a node and its kids. -/
theorem node_kids {t : TreeV} {i : Nat} (h : hasAt t (i : Int) = true) : ∃ (hlt : i < t.nodes.length) (d : Nat) (p : Bool) (z : Nat), d ≤ 59 ∧ kidsW (walkF t.nodes t.types d) p (t.nodes[i].kind == 11) t.nodes[i].kids 0 (i + 1) = some z ∧ z ≤ t.nodes.length ∧
    ∀ j (hj : j < t.nodes[i].kids.length), hasAt t t.nodes[i].kids[j] = true ∧ ∃ p q, walkF t.nodes t.types d p t.nodes[i].kids[j].toNat = some q := by
  obtain ⟨d, p, z, k1, k2, k3, k4, k5⟩ := at_walk h
  rw [Int.toNat_natCast] at k2
  have hbd := walk_bd _ _ _ _ _ _ k2
  have hlt : i < t.nodes.length := by omega
  match d, k1, k2 with
  | 0, _, k2 => cases k2
  | d + 1, k1, k2 =>
    have hk := walk_kids k2 hlt
    refine ⟨hlt, d, p, z, by omega, hk, hbd.2, fun j hj => ?_⟩
    obtain ⟨p', q, q1, a1, a2, a3, a4⟩ := kids_get p _ _ 0 (i + 1) z hk j hj
    have hb2 := walk_bd _ _ _ _ _ _ a4
    rw [a3]
    refine ⟨?_, p', q1, by rw [Int.toNat_natCast]; exact a4⟩
    simp only [hasAt, k4, Bool.and_true, Bool.and_eq_true, decide_eq_true_eq]
    omega
theorem depth_law {t : TreeV} {i : Nat} (h : hasAt t (i : Int) = true) (hlt : i < t.nodes.length) : DepthF t (i : Int) = (t.nodes[i].kids.map fun k => DepthF t k).foldl max 0 + 1 := by
  obtain ⟨_, d, p, z, k1, k2, k3, k4⟩ := node_kids h
  have e : DepthF t (i : Int) = depthF t.nodes 60 i := by simp only [DepthF, h, cond_true, Int.toNat_natCast]
  rw [e, depthF, List.getElem?_eq_getElem hlt]
  simp only
  congr 2
  refine List.map_congr_left fun k hk => ?_
  obtain ⟨j, hj, rfl⟩ := List.getElem_of_mem hk
  obtain ⟨a1, p', q, a2⟩ := k4 j hj
  simp only [DepthF, a1, cond_true]
  exact depthF_fuel _ _ d 59 60 (by omega) (by omega) _ _ _ a2
theorem mem_freeW {fr b : Nat → List ByteArray} {s : ByteArray} : ∀ (l : List Int) (i : Nat) (out : List ByteArray), s ∈ freeW fr b l i out → s ∈ out ∨ ∃ k ∈ l, s ∈ fr k.toNat
  | [], i, out, h => .inl h
  | k :: r, i, out, h => by
    rcases mem_freeW r (i + 1) _ h with h | ⟨k', h1, h2⟩
    · rcases mem_unionB.1 h with h | h
      · exact .inl h
      · exact .inr ⟨k, List.mem_cons_self .., (delsB_list _ _).subset h⟩
    · exact .inr ⟨k', List.mem_cons_of_mem _ h1, h2⟩
theorem mem_sortB {s : ByteArray} {ks : List ByteArray} : s ∈ sortB ks ↔ s ∈ ks := (sortB_perm ks).mem_iff
theorem free_law {t : TreeV} {i : Nat} (h : hasAt t (i : Int) = true) (hlt : i < t.nodes.length) {s : ByteArray} (hs : s ∈ FreeF t (i : Int)) : (t.nodes[i].kind == 4) = true ∧ s = t.nodes[i].name ∨ ∃ k ∈ t.nodes[i].kids, s ∈ FreeF t k := by
  obtain ⟨_, d, p, z, k1, k2, k3, k4⟩ := node_kids h
  simp only [FreeF, h, cond_true, Int.toNat_natCast, mem_sortB] at hs
  rw [freeF, List.getElem?_eq_getElem hlt] at hs
  rcases mem_freeW _ _ _ hs with hs | ⟨k, hk, hs⟩
  · cases c : (t.nodes[i].kind == 4) with
    | false => rw [c] at hs; cases hs
    | true =>
      rw [c, cond_true, List.mem_singleton] at hs
      exact .inl ⟨rfl, hs⟩
  · refine .inr ⟨k, hk, ?_⟩
    obtain ⟨j, hj, rfl⟩ := List.getElem_of_mem hk
    obtain ⟨a1, p', q, a2⟩ := k4 j hj
    simp only [FreeF, a1, cond_true, mem_sortB]
    rw [freeF_fuel _ _ d 60 59 (by omega) (by omega) _ _ _ a2]
    exact hs
theorem freeW_nodup {fr b : Nat → List ByteArray} (hf : ∀ a, (fr a).Nodup) : ∀ (l : List Int) (i : Nat) (out : List ByteArray), out.Nodup → (freeW fr b l i out).Nodup
  | [], i, out, h => h
  | k :: r, i, out, h => freeW_nodup hf r (i + 1) _ (nodup_unionB h ((delsB_list _ _).nodup (hf _)))
theorem freeF_nodup (ns : List NodeV) : ∀ (f a : Nat), (freeF ns f a).Nodup
  | 0, a => List.nodup_nil
  | f + 1, a => by
    unfold freeF
    cases hx : ns[a]? with
    | none => exact List.nodup_nil
    | some x =>
      refine freeW_nodup (freeF_nodup ns f) _ _ _ ?_
      cases (x.kind == 4) <;> simp
theorem FreeF_nodup (t : TreeV) (i : Int) : (FreeF t i).Nodup := by
  unfold FreeF
  cases hasAt t i with
  | false => exact List.nodup_nil
  | true => exact (sortB_perm _).symm.nodup (freeF_nodup _ _ _)
theorem bytesLess_lt : ∀ {a b : List UInt8}, a ≤ b → a ≠ b → Op.bytesLess a b = true
  | a, [], h, hne => by
    exfalso
    cases a with
    | nil => exact hne rfl
    | cons x r => exact absurd h (by simp)
  | [], y :: s, h, hne => rfl
  | x :: r, y :: s, h, hne => by
    rw [Op.bytesLess]
    rcases List.cons_le_cons_iff.1 h with h2 | ⟨rfl, h2⟩
    · simp [h2]
    · have : r ≠ s := fun e => hne (by rw [e])
      simp [bytesLess_lt h2 this]
end Go.Proofs.YtmmnkemcplgebaaGreatDoor
end

section
set_option linter.unusedSimpArgs false
set_option linter.unusedVariables false
set_option maxRecDepth 100000
namespace Go.Proofs.YtmmnkemcplgebaaGreatDoor
open Go.Abs
theorem toL (s : ByteArray) : s.toList = bytesL s := ByteArray.toList_eq s
theorem eqL (a b : ByteArray) : (a.toList == b.toList) = (a == b) := by
  rw [toL, toL, Bool.eq_iff_iff, beq_iff_eq, beq_b]
  exact ⟨bytesL_inj, fun h => by rw [h]⟩
theorem sortB_sorted (ks : List ByteArray) : (sortB ks).Pairwise fun a b => bytesL a ≤ bytesL b := by
  unfold sortB
  rw [List.pairwise_map]
  exact (sortS_sorted _).imp fun h => h
theorem FreeF_rise (t : TreeV) (i : Int) {q : Nat} (hq : q < (FreeF t i).length) (h0 : 0 < q) : Op.bytesLess ((FreeF t i)[q - 1]'(by omega)).toList (FreeF t i)[q].toList = true := by
  have hs : (FreeF t i).Pairwise fun a b => bytesL a ≤ bytesL b := by
    unfold FreeF
    cases hasAt t i with
    | false => exact List.Pairwise.nil
    | true => exact sortB_sorted _
  have hn := FreeF_nodup t i
  rw [toL, toL]
  refine bytesLess_lt (List.pairwise_iff_getElem.1 hs _ _ _ hq (by omega)) fun e => ?_
  have := List.pairwise_iff_getElem.1 hn (q - 1) q (by omega) hq (by omega)
  exact this (bytesL_inj e)
theorem FreeF_len (t : TreeV) (i : Int) : (FreeF t i).length ≤ 1000 := by
  unfold FreeF
  cases h : hasAt t i with
  | false => simp
  | true =>
    obtain ⟨d, p, z, k1, k2, k3, k4, k5⟩ := at_walk h
    have h1 := freeF_len _ _ d 60 k1 p _ z k2
    have h2 := walk_bd _ _ _ _ _ _ k2
    simp only [cond_true, (sortB_perm _).length_eq]
    omega
theorem DepthF_le (t : TreeV) (i : Int) : DepthF t i ≤ 60 := by
  unfold DepthF
  cases h : hasAt t i with
  | false => simp
  | true =>
    obtain ⟨d, p, z, k1, k2, k3, k4, k5⟩ := at_walk h
    have h1 := depth_le _ _ d 60 k1 p _ z k2
    simp only [cond_true]
    omega
theorem flat_drop {l : List Int} {q : Nat} (hq : q < l.length) (g : Int → List ByteArray) : (l.drop q).flatMap g = g l[q] ++ (l.drop (q + 1)).flatMap g := by rw [List.drop_eq_getElem_cons hq, List.flatMap_cons]
theorem max_drop {l : List Int} {q : Nat} (hq : q < l.length) (g : Int → Nat) (n : Nat) : ((l.drop q).map g).foldl max n = ((l.drop (q + 1)).map g).foldl max (max n (g l[q])) := by rw [List.drop_eq_getElem_cons hq, List.map_cons, List.foldl_cons]
theorem any_drop {l : List ByteArray} {q : Nat} (hq : q < l.length) (s : ByteArray) : (l.drop q).any (fun y => y == s) = (l[q] == s || (l.drop (q + 1)).any fun y => y == s) := by rw [List.drop_eq_getElem_cons hq, List.any_cons]
set_option maxHeartbeats 64000000 in
theorem law_free (t : TreeV) (nx tx : AV) (ht : RawIs nx tx t) (S : St) (hS : S.Fresh) : ∃ r S', EvA E 3 [.agg [nx, tx]] S r S' ∧ r = .sc (.bool true) := by
  refine ev3 rfl ?_
  have hG := (Grow.refl hS nilV).born 25 [nx, tx]
  have hT : (S.born 25 [nx, tx]).obj S.no = some [nx, tx] := by simp [born_obj]
  have hn : S.no < (S.born 25 [nx, tx]).no := Nat.lt_succ_self _
  simp only [SXa, reduceCtorEq, Nat.reduceEqDiff, Nat.reduceAdd, Nat.reduceSub, Nat.reduceMul, Nat.reduceBEq, Int.reduceLT, Int.reduceLE, Int.reduceToNat, Int.reduceBEq, Int.reduceBNe, reduceIte, load3, load9, load22, index22, len22, load25, load28, index28, len28, app31, index31, len31, call7, call8, call9, call10, call11, r3_0, r3_1, r3_2, r3_3, r3_4, r3_5, r3_6, r3_7, r3_8, r3_9, r3_10, r3_11, r3_12, r3_13, r3_14, r3_15, r3_16, r3_18, r3_19, r3_20, r3_21, r3_22, r3_23, r3_24, r3_25, r3_27, r3_28, r3_29, r3_31, r3_32, r3_33, r3_35, p3, op_box, cells_agg]
  generalize S.born 25 [nx, tx] = S0 at hG hT hn
  refine callK_ans awake_ans hG (fun S1 g1 hG1 => ?_)
  have hT1 := g1.objs hT hn
  have hn1 := Nat.lt_of_lt_of_le hn g1.no
  simp only [SXa, reduceCtorEq, Nat.reduceEqDiff, Nat.reduceAdd, Nat.reduceSub, Nat.reduceMul, Nat.reduceBEq, Int.reduceLT, Int.reduceLE, Int.reduceToNat, Int.reduceBEq, Int.reduceBNe, reduceIte, load3, load9, load22, index22, len22, load25, load28, index28, len28, app31, index31, len31, call7, call8, call9, call10, call11, r3_0, r3_1, r3_2, r3_3, r3_4, r3_5, r3_6, r3_7, r3_8, r3_9, r3_10, r3_11, r3_12, r3_13, r3_14, r3_15, r3_16, r3_18, r3_19, r3_20, r3_21, r3_22, r3_23, r3_24, r3_25, r3_27, r3_28, r3_29, r3_31, r3_32, r3_33, r3_35, p3, load_pb, hT1, Option.bind_some, Nat.zero_add, Nat.le_refl]
  obtain ⟨r2, S2, e2, ⟨b, rfl, hb⟩, g2⟩ := heavy_ok t nx tx ht S1 hG1.fresh
  have hG2 := hG1.two g2
  have hT2 := g2.objs hT1 hn1
  have hn2 := Nat.lt_of_lt_of_le hn1 g2.no
  refine callK_of e2 ?_
  cases b with
  | true => simp only [SXa, reduceCtorEq, Nat.reduceEqDiff, Nat.reduceAdd, Nat.reduceSub, Nat.reduceMul, Nat.reduceBEq, Int.reduceLT, Int.reduceLE, Int.reduceToNat, Int.reduceBEq, Int.reduceBNe, reduceIte, load3, load9, load22, index22, len22, load25, load28, index28, len28, app31, index31, len31, call7, call8, call9, call10, call11, r3_0, r3_1, r3_2, r3_3, r3_4, r3_5, r3_6, r3_7, r3_8, r3_9, r3_10, r3_11, r3_12, r3_13, r3_14, r3_15, r3_16, r3_18, r3_19, r3_20, r3_21, r3_22, r3_23, r3_24, r3_25, r3_27, r3_28, r3_29, r3_31, r3_32, r3_33, r3_35, p3]
  | false =>
  have hl := hb rfl
  have hti := ht.light hl
  have hnm : ∀ x ∈ t.nodes, x.name.size ≤ 60 := fun x hx => (hl.ln2 x hx).1
  simp only [SXa, reduceCtorEq, Nat.reduceEqDiff, Nat.reduceAdd, Nat.reduceSub, Nat.reduceMul, Nat.reduceBEq, Int.reduceLT, Int.reduceLE, Int.reduceToNat, Int.reduceBEq, Int.reduceBNe, reduceIte, load3, load9, load22, index22, len22, load25, load28, index28, len28, app31, index31, len31, call7, call8, call9, call10, call11, r3_0, r3_1, r3_2, r3_3, r3_4, r3_5, r3_6, r3_7, r3_8, r3_9, r3_10, r3_11, r3_12, r3_13, r3_14, r3_15, r3_16, r3_18, r3_19, r3_20, r3_21, r3_22, r3_23, r3_24, r3_25, r3_27, r3_28, r3_29, r3_31, r3_32, r3_33, r3_35, p3, load_pb, hT2, Option.bind_some, Nat.zero_add, Nat.le_refl]
  refine callK_ans (good_ans t nx tx hti) hG2 (fun S3 g3 hG3 => ?_)
  have hT3 := g3.objs hT2 hn2
  have hn3 := Nat.lt_of_lt_of_le hn2 g3.no
  cases hg : goodF t with
  | false => simp only [SXa, reduceCtorEq, Nat.reduceEqDiff, Nat.reduceAdd, Nat.reduceSub, Nat.reduceMul, Nat.reduceBEq, Int.reduceLT, Int.reduceLE, Int.reduceToNat, Int.reduceBEq, Int.reduceBNe, reduceIte, load3, load9, load22, index22, len22, load25, load28, index28, len28, app31, index31, len31, call7, call8, call9, call10, call11, r3_0, r3_1, r3_2, r3_3, r3_4, r3_5, r3_6, r3_7, r3_8, r3_9, r3_10, r3_11, r3_12, r3_13, r3_14, r3_15, r3_16, r3_18, r3_19, r3_20, r3_21, r3_22, r3_23, r3_24, r3_25, r3_27, r3_28, r3_29, r3_31, r3_32, r3_33, r3_35, p3]
  | true =>
  have hat : ∀ i, i < t.nodes.length → hasAt t ((i : Nat) : Int) = true := fun i hi => by
    simp only [hasAt, hg, Bool.and_true, Bool.and_eq_true, decide_eq_true_eq]; omega
  simp only [SXa, reduceCtorEq, Nat.reduceEqDiff, Nat.reduceAdd, Nat.reduceSub, Nat.reduceMul, Nat.reduceBEq, Int.reduceLT, Int.reduceLE, Int.reduceToNat, Int.reduceBEq, Int.reduceBNe, reduceIte, load3, load9, load22, index22, len22, load25, load28, index28, len28, app31, index31, len31, call7, call8, call9, call10, call11, r3_0, r3_1, r3_2, r3_3, r3_4, r3_5, r3_6, r3_7, r3_8, r3_9, r3_10, r3_11, r3_12, r3_13, r3_14, r3_15, r3_16, r3_18, r3_19, r3_20, r3_21, r3_22, r3_23, r3_24, r3_25, r3_27, r3_28, r3_29, r3_31, r3_32, r3_33, r3_35, p3]
  have hln := hl.ln
  refine e_loop (fun tm S' N => ∃ (i : Nat), i ≤ t.nodes.length ∧ N = t.nodes.length - i ∧ S'.obj S.no = some [nx, tx] ∧ Grow S S' nilV ∧ S.no < S'.no ∧ getT tm 1 = .ptr S.no 0 ∧ getT tm 3 = .sc (.int .i64 (i : Int))) t.nodes.length
    ⟨0, by omega, by omega, hT3, hG3, hn3, by simp [getT_setD]⟩ ?_
  clear hT hn hT1 hn1 hT2 hn2 hT3 hn3 hG hG1 hG2 hG3 g1 g2 g3 e2 hb
  rintro tm S4 N ⟨i, hi, rfl, hT, hG, hn, t1, t3⟩
  by_cases hlt : i < t.nodes.length
  case neg => simp only [SXa, reduceCtorEq, Nat.reduceEqDiff, Nat.reduceAdd, Nat.reduceSub, Nat.reduceMul, Nat.reduceBEq, Int.reduceLT, Int.reduceLE, Int.reduceToNat, Int.reduceBEq, Int.reduceBNe, reduceIte, load3, load9, load22, index22, len22, load25, load28, index28, len28, app31, index31, len31, call7, call8, call9, call10, call11, b3_34, r3_0, r3_1, r3_2, r3_3, r3_4, r3_5, r3_6, r3_7, r3_8, r3_9, r3_10, r3_11, r3_12, r3_13, r3_14, r3_15, r3_16, r3_18, r3_19, r3_20, r3_21, r3_22, r3_23, r3_24, r3_25, r3_27, r3_28, r3_29, r3_31, r3_32, r3_33, r3_35, p3, t1, t3, load_pb, hT, fldT0, fld_p, Option.bind_some, Nat.add_zero, Nat.zero_add, lenN ht.nodes, dec_nlt hlt]
  case pos =>
  have wi := wrapK hlt (by omega)
  have hi1 := hat i hlt
  obtain ⟨_, dd, pp, zz, kd, kw, kz, kk⟩ := node_kids hi1
  have hk20 := (hl.ln2 _ (List.getElem_mem hlt)).2.2
  simp only [SXa, reduceCtorEq, Nat.reduceEqDiff, Nat.reduceAdd, Nat.reduceSub, Nat.reduceMul, Nat.reduceBEq, Int.reduceLT, Int.reduceLE, Int.reduceToNat, Int.reduceBEq, Int.reduceBNe, reduceIte, load3, load9, load22, index22, len22, load25, load28, index28, len28, app31, index31, len31, call7, call8, call9, call10, call11, b3_34, r3_0, r3_1, r3_2, r3_3, r3_4, r3_5, r3_6, r3_7, r3_8, r3_9, r3_10, r3_11, r3_12, r3_13, r3_14, r3_15, r3_16, r3_18, r3_19, r3_20, r3_21, r3_22, r3_23, r3_24, r3_25, r3_27, r3_28, r3_29, r3_31, r3_32, r3_33, r3_35, p3, t1, t3, load_pb, hT, fldT0, fldN, fld_p, fld_e, Option.bind_some, Nat.add_zero, Nat.zero_add, lenN ht.nodes, dec_lt hlt, idxN ht.nodes hlt, nodeA]
  refine e_loop (fun tm S' N => ∃ (q n : Nat) (X : AV) (ws : List ByteArray), q ≤ t.nodes[i].kids.length ∧ N = t.nodes[i].kids.length - q ∧ ws ++ (t.nodes[i].kids.drop q).flatMap (FreeF t) = t.nodes[i].kids.flatMap (FreeF t) ∧
    ((t.nodes[i].kids.drop q).map (DepthF t)).foldl max n = (t.nodes[i].kids.map (DepthF t)).foldl max 0 ∧ ws.length ≤ 1000 * q ∧ n ≤ 60 ∧ OwnV S' 9 1 X (strsA ws) ∧ Newish S X ∧ S'.obj S.no = some [nx, tx] ∧ Grow S S' nilV ∧ S.no < S'.no ∧
    getT tm 1 = .ptr S.no 0 ∧ getT tm 3 = .sc (.int .i64 (i : Int)) ∧ getT tm 4 = kidsA t.nodes[i] ∧ getT tm 5 = X ∧ getT tm 6 = .sc (.int .i64 (n : Int)) ∧ getT tm 7 = .sc (.int .i64 (q : Int))) t.nodes[i].kids.length
    ⟨0, 0, nilV, [], by omega, by omega, by rw [List.drop_zero]; rfl, by rw [List.drop_zero], by simp, by omega, OwnV.nil' _ _ _, .inl rfl, hT, hG, hn, by simp [getT_setD, t1, t3]⟩ ?_
  clear hT hG hn t1 t3
  rintro tm S5 N ⟨q, n, X, ws, hq, rfl, hw, hm, hwl, hnb, hX, hNw, hT, hG, hn, t1, t3, t4, t5, t6, t7⟩
  by_cases hqt : q < t.nodes[i].kids.length
  case pos =>
    have wq := wrapK hqt (by omega)
    rw [flat_drop hqt, ← List.append_assoc] at hw
    rw [max_drop hqt] at hm
    have gr := Grow.raise hG.fresh 9 nilV
    obtain ⟨r6, S6, e6, hv6, g6⟩ := Free_ok t nx tx hti hnm t.nodes[i].kids[q] (S5.raise 9) gr.fresh
    have hfl := FreeF_len t t.nodes[i].kids[q]
    have hdl := DepthF_le t t.nodes[i].kids[q]
    have g56 := gr.two g6
    have hG6 := hG.two g56
    obtain ⟨Z, S7, ap, hZ, hNZ, hG7, no7, ob7, g7⟩ := app_strs (hX.keep g56) hNw hG6 hv6 (by omega)
    have hT7 : S7.obj S.no = some [nx, tx] := by rw [ob7]; exact g56.objs hT hn
    have hn7 : S.no < S7.no := by rw [no7]; exact Nat.lt_of_lt_of_le hn g56.no
    simp only [SXa, reduceCtorEq, Nat.reduceEqDiff, Nat.reduceAdd, Nat.reduceSub, Nat.reduceMul, Nat.reduceBEq, Int.reduceLT, Int.reduceLE, Int.reduceToNat, Int.reduceBEq, Int.reduceBNe, reduceIte, load3, load9, load22, index22, len22, load25, load28, index28, len28, app31, index31, len31, call7, call8, call9, call10, call11, b3_17, r3_0, r3_1, r3_2, r3_3, r3_4, r3_5, r3_6, r3_7, r3_8, r3_9, r3_10, r3_11, r3_12, r3_13, r3_14, r3_15, r3_16, r3_18, r3_19, r3_20, r3_21, r3_22, r3_23, r3_24, r3_25, r3_27, r3_28, r3_29, r3_31, r3_32, r3_33, r3_35, p3, t1, t3, t4, t5, t6, t7, lenK, dec_lt hqt, raise_obj, load_pb, hT, Option.bind_some, Nat.zero_add, Nat.le_refl, idxI hqt]
    refine callK_of e6 ?_
    simp only [SXa, reduceCtorEq, Nat.reduceEqDiff, Nat.reduceAdd, Nat.reduceSub, Nat.reduceMul, Nat.reduceBEq, Int.reduceLT, Int.reduceLE, Int.reduceToNat, Int.reduceBEq, Int.reduceBNe, reduceIte, load3, load9, load22, index22, len22, load25, load28, index28, len28, app31, index31, len31, call7, call8, call9, call10, call11, r3_0, r3_1, r3_2, r3_3, r3_4, r3_5, r3_6, r3_7, r3_8, r3_9, r3_10, r3_11, r3_12, r3_13, r3_14, r3_15, r3_16, r3_18, r3_19, r3_20, r3_21, r3_22, r3_23, r3_24, r3_25, r3_27, r3_28, r3_29, r3_31, r3_32, r3_33, r3_35, p3, t1, t3, t4, t5, t6, t7, ap, raise_obj, load_pb, hT7, Option.bind_some, Nat.zero_add, Nat.le_refl, idxI hqt]
    have gr8 := Grow.raise hG7.fresh 7 nilV
    refine callK_ans (Depth_ans t nx tx hti t.nodes[i].kids[q]) (hG7.two gr8) (fun S9 g9 hG9 => ?_)
    have g79 := gr8.two g9
    have hT9 := g79.objs hT7 hn7
    have hn9 := Nat.lt_of_lt_of_le hn7 g79.no
    have hX9 := hZ.keep g79
    simp only [SXa, reduceCtorEq, Nat.reduceEqDiff, Nat.reduceAdd, Nat.reduceSub, Nat.reduceMul, Nat.reduceBEq, Int.reduceLT, Int.reduceLE, Int.reduceToNat, Int.reduceBEq, Int.reduceBNe, reduceIte, load3, load9, load22, index22, len22, load25, load28, index28, len28, app31, index31, len31, call7, call8, call9, call10, call11, r3_0, r3_1, r3_2, r3_3, r3_4, r3_5, r3_6, r3_7, r3_8, r3_9, r3_10, r3_11, r3_12, r3_13, r3_14, r3_15, r3_16, r3_18, r3_19, r3_20, r3_21, r3_22, r3_23, r3_24, r3_25, r3_27, r3_28, r3_29, r3_31, r3_32, r3_33, r3_35, p3, t1, t3, t4, t5, t6, t7]
    cases cd : decide ((n : Int) < ((DepthF t t.nodes[i].kids[q] : Nat) : Int)) with
    | true =>
      have hmx : max n (DepthF t t.nodes[i].kids[q]) = DepthF t t.nodes[i].kids[q] := by simp only [decide_eq_true_eq] at cd; omega
      rw [hmx] at hm
      simp only [SXa, reduceCtorEq, Nat.reduceEqDiff, Nat.reduceAdd, Nat.reduceSub, Nat.reduceMul, Nat.reduceBEq, Int.reduceLT, Int.reduceLE, Int.reduceToNat, Int.reduceBEq, Int.reduceBNe, reduceIte, load3, load9, load22, index22, len22, load25, load28, index28, len28, app31, index31, len31, call7, call8, call9, call10, call11, r3_0, r3_1, r3_2, r3_3, r3_4, r3_5, r3_6, r3_7, r3_8, r3_9, r3_10, r3_11, r3_12, r3_13, r3_14, r3_15, r3_16, r3_18, r3_19, r3_20, r3_21, r3_22, r3_23, r3_24, r3_25, r3_27, r3_28, r3_29, r3_31, r3_32, r3_33, r3_35, p3, t1, t3, t4, t5, t6, t7, wq]
      exact ⟨t.nodes[i].kids.length - (q + 1), by omega, q + 1, _, Z, _, by omega, rfl, hw, hm, by rw [List.length_append]; omega, hdl, hX9, hNZ, hT9, hG9, hn9, by simp [t1, t3, t4]⟩
    | false =>
      have hmx : max n (DepthF t t.nodes[i].kids[q]) = n := by simp only [decide_eq_false_iff_not] at cd; omega
      rw [hmx] at hm
      simp only [SXa, reduceCtorEq, Nat.reduceEqDiff, Nat.reduceAdd, Nat.reduceSub, Nat.reduceMul, Nat.reduceBEq, Int.reduceLT, Int.reduceLE, Int.reduceToNat, Int.reduceBEq, Int.reduceBNe, reduceIte, load3, load9, load22, index22, len22, load25, load28, index28, len28, app31, index31, len31, call7, call8, call9, call10, call11, r3_0, r3_1, r3_2, r3_3, r3_4, r3_5, r3_6, r3_7, r3_8, r3_9, r3_10, r3_11, r3_12, r3_13, r3_14, r3_15, r3_16, r3_18, r3_19, r3_20, r3_21, r3_22, r3_23, r3_24, r3_25, r3_27, r3_28, r3_29, r3_31, r3_32, r3_33, r3_35, p3, t1, t3, t4, t5, t6, t7, wq]
      exact ⟨t.nodes[i].kids.length - (q + 1), by omega, q + 1, _, Z, _, by omega, rfl, hw, hm, by rw [List.length_append]; omega, hnb, hX9, hNZ, hT9, hG9, hn9, by simp [t1, t3, t4, t6]⟩
  case neg =>
  have hqe : q = t.nodes[i].kids.length := by omega
  rw [hqe, List.drop_length] at hw hm
  simp only [List.flatMap_nil, List.append_nil, List.map_nil, List.foldl_nil] at hw hm
  simp only [SXa, reduceCtorEq, Nat.reduceEqDiff, Nat.reduceAdd, Nat.reduceSub, Nat.reduceMul, Nat.reduceBEq, Int.reduceLT, Int.reduceLE, Int.reduceToNat, Int.reduceBEq, Int.reduceBNe, reduceIte, load3, load9, load22, index22, len22, load25, load28, index28, len28, app31, index31, len31, call7, call8, call9, call10, call11, b3_17, r3_0, r3_1, r3_2, r3_3, r3_4, r3_5, r3_6, r3_7, r3_8, r3_9, r3_10, r3_11, r3_12, r3_13, r3_14, r3_15, r3_16, r3_18, r3_19, r3_20, r3_21, r3_22, r3_23, r3_24, r3_25, r3_27, r3_28, r3_29, r3_31, r3_32, r3_33, r3_35, p3, t1, t3, t4, t5, t6, t7, lenK, dec_nlt hqt, load_pb, hT, Option.bind_some, Nat.zero_add, Nat.le_refl]
  obtain ⟨Fv, S6, e6, hF, g6⟩ := Free_ok t nx tx hti hnm ((i : Nat) : Int) S5 hG.fresh
  have hFl := FreeF_len t ((i : Nat) : Int)
  have hT6 := g6.objs hT hn
  have hG6 := hG.two g6
  have hn6 := Nat.lt_of_lt_of_le hn g6.no
  refine callK_of e6 ?_
  have hXi := hX.is
  simp only [SXa, reduceCtorEq, Nat.reduceEqDiff, Nat.reduceAdd, Nat.reduceSub, Nat.reduceMul, Nat.reduceBEq, Int.reduceLT, Int.reduceLE, Int.reduceToNat, Int.reduceBEq, Int.reduceBNe, reduceIte, load3, load9, load22, index22, len22, load25, load28, index28, len28, app31, index31, len31, call7, call8, call9, call10, call11, r3_0, r3_1, r3_2, r3_3, r3_4, r3_5, r3_6, r3_7, r3_8, r3_9, r3_10, r3_11, r3_12, r3_13, r3_14, r3_15, r3_16, r3_18, r3_19, r3_20, r3_21, r3_22, r3_23, r3_24, r3_25, r3_27, r3_28, r3_29, r3_31, r3_32, r3_33, r3_35, p3, t1, t3, t4, t5, t6, t7]
  refine e_loop (fun tm S' N => ∃ (q : Nat), q ≤ (FreeF t ((i : Nat) : Int)).length ∧ N = (FreeF t ((i : Nat) : Int)).length - q ∧ S'.obj S.no = some [nx, tx] ∧ Grow S S' nilV ∧ S.no < S'.no ∧
    getT tm 1 = .ptr S.no 0 ∧ getT tm 3 = .sc (.int .i64 (i : Int)) ∧ getT tm 5 = X ∧ getT tm 6 = .sc (.int .i64 (n : Int)) ∧ getT tm 9 = Fv ∧ getT tm 10 = .sc (.int .i64 (q : Int))) (FreeF t ((i : Nat) : Int)).length
    ⟨0, by omega, by omega, hT6, hG6, hn6, by simp [getT_setD, t1, t3, t5, t6]⟩ ?_
  clear hT hG hn t1 t3 t4 t5 t6 t7 hT6 hG6 hn6 g6 e6 hX
  rintro tm S7 N ⟨k, hk, rfl, hT, hG, hn, t1, t3, t5, t6, t9, t10⟩
  by_cases hkt : k < (FreeF t ((i : Nat) : Int)).length
  case neg =>
    simp only [SXa, reduceCtorEq, Nat.reduceEqDiff, Nat.reduceAdd, Nat.reduceSub, Nat.reduceMul, Nat.reduceBEq, Int.reduceLT, Int.reduceLE, Int.reduceToNat, Int.reduceBEq, Int.reduceBNe, reduceIte, load3, load9, load22, index22, len22, load25, load28, index28, len28, app31, index31, len31, call7, call8, call9, call10, call11, b3_30, r3_0, r3_1, r3_2, r3_3, r3_4, r3_5, r3_6, r3_7, r3_8, r3_9, r3_10, r3_11, r3_12, r3_13, r3_14, r3_15, r3_16, r3_18, r3_19, r3_20, r3_21, r3_22, r3_23, r3_24, r3_25, r3_27, r3_28, r3_29, r3_31, r3_32, r3_33, r3_35, p3, t1, t3, t5, t6, t9, t10, lenS hF, dec_nlt hkt, load_pb, hT, Option.bind_some, Nat.zero_add, Nat.le_refl]
    refine callK_ans (Depth_ans t nx tx hti ((i : Nat) : Int)) hG (fun S9 g9 hG9 => ?_)
    have hT9 := g9.objs hT hn
    have hn9 := Nat.lt_of_lt_of_le hn g9.no
    have wn : IntKind.i64.wrap ((n : Int) + 1) = ((n + 1 : Nat) : Int) := by rw [wrap_i64 (by omega) (by omega)]; omega
    have hdl : DepthF t ((i : Nat) : Int) = n + 1 := by rw [depth_law hi1 hlt, hm]
    have hne : (((n + 1 : Nat) : Int) != ((n + 1 : Nat) : Int)) = false := by simp
    simp only [SXa, reduceCtorEq, Nat.reduceEqDiff, Nat.reduceAdd, Nat.reduceSub, Nat.reduceMul, Nat.reduceBEq, Int.reduceLT, Int.reduceLE, Int.reduceToNat, Int.reduceBEq, Int.reduceBNe, reduceIte, load3, load9, load22, index22, len22, load25, load28, index28, len28, app31, index31, len31, call7, call8, call9, call10, call11, r3_0, r3_1, r3_2, r3_3, r3_4, r3_5, r3_6, r3_7, r3_8, r3_9, r3_10, r3_11, r3_12, r3_13, r3_14, r3_15, r3_16, r3_18, r3_19, r3_20, r3_21, r3_22, r3_23, r3_24, r3_25, r3_27, r3_28, r3_29, r3_31, r3_32, r3_33, r3_35, p3, t1, t3, t5, t6, t9, t10, wn, hdl, hne, wi]
    exact ⟨t.nodes.length - (i + 1), by omega, i + 1, by omega, rfl, hT9, hG9, hn9, by simp [t1]⟩
  case pos =>
  have wk := wrapK hkt (by omega)
  have hin := free_law hi1 hlt (List.getElem_mem hkt)
  have hlaw : ((t.nodes[i].kind == 4) && ((FreeF t ((i : Nat) : Int))[k] == t.nodes[i].name) || ws.any fun y => y == (FreeF t ((i : Nat) : Int))[k]) = true := by
    rw [Bool.or_eq_true, Bool.and_eq_true, beq_b, List.any_eq_true]
    rcases hin with h | ⟨kd, h1, h2⟩
    · exact .inl h
    · refine .inr ⟨_, ?_, beq_b.2 rfl⟩
      rw [hw]
      exact List.mem_flatMap.2 ⟨kd, h1, h2⟩
  have gr8 := Grow.raise hG.fresh 21 nilV
  have hG8 := hG.two gr8
  have hT8 : (S7.raise 21).obj S.no = some [nx, tx] := hT
  have hn8 : S.no < (S7.raise 21).no := by rw [raise_no]; omega
  cases c4 : (t.nodes[i].kind == 4) with
  | true =>
    rw [c4] at hlaw
    simp only [Bool.true_and, Bool.false_and, Bool.false_or] at hlaw
    simp only [SXa, reduceCtorEq, Nat.reduceEqDiff, Nat.reduceAdd, Nat.reduceSub, Nat.reduceMul, Nat.reduceBEq, Int.reduceLT, Int.reduceLE, Int.reduceToNat, Int.reduceBEq, Int.reduceBNe, reduceIte, load3, load9, load22, index22, len22, load25, load28, index28, len28, app31, index31, len31, call7, call8, call9, call10, call11, b3_30, r3_0, r3_1, r3_2, r3_3, r3_4, r3_5, r3_6, r3_7, r3_8, r3_9, r3_10, r3_11, r3_12, r3_13, r3_14, r3_15, r3_16, r3_18, r3_19, r3_20, r3_21, r3_22, r3_23, r3_24, r3_25, r3_27, r3_28, r3_29, r3_31, r3_32, r3_33, r3_35, p3, t1, t3, t5, t6, t9, t10, lenS hF, dec_lt hkt, raise_obj, load_pb, hT, fldT0, fldN, fld_p, fld_e, Option.bind_some, Nat.zero_add, Nat.add_zero, Nat.le_refl, idxN ht.nodes hlt, nodeA, c4, idxS hF hkt, eqL]
    refine e_loop (fun tm S' N => ∃ (m : Nat) (bb : Bool), m ≤ ws.length ∧ N = ws.length - m ∧ (bb || (ws.drop m).any fun y => y == (FreeF t ((i : Nat) : Int))[k]) = true ∧ S'.obj S.no = some [nx, tx] ∧ Grow S S' nilV ∧ S.no < S'.no ∧
      getT tm 1 = .ptr S.no 0 ∧ getT tm 3 = .sc (.int .i64 (i : Int)) ∧ getT tm 5 = X ∧ getT tm 6 = .sc (.int .i64 (n : Int)) ∧ getT tm 9 = Fv ∧ getT tm 10 = .sc (.int .i64 (k : Int)) ∧ getT tm 11 = .sc (.bool bb) ∧ getT tm 12 = .sc (.int .i64 (m : Int))) ws.length
      ⟨0, ((FreeF t ((i : Nat) : Int))[k] == t.nodes[i].name), by omega, by omega, by rw [List.drop_zero]; exact hlaw, hT8, hG8, hn8, by simp [getT_setD, t1, t3, t5, t6, t9, t10]⟩ ?_
    clear hT hG hn t1 t3 t5 t6 t9 t10 hT8 hG8 hn8 gr8
    rintro tm S8 N ⟨m, bb, hm', rfl, hbb, hT, hG, hn, t1, t3, t5, t6, t9, t10, t11, t12⟩
    by_cases hmt : m < ws.length
    case pos =>
      have wm := wrapK hmt (by omega)
      rw [any_drop hmt] at hbb
      have gr9 := Grow.raise hG.fresh 13 nilV
      have hG9 := hG.two gr9
      have hT9 : (S8.raise 13).obj S.no = some [nx, tx] := hT
      have hn9 : S.no < (S8.raise 13).no := by rw [raise_no]; omega
      cases bb with
      | true =>
        simp only [SXa, reduceCtorEq, Nat.reduceEqDiff, Nat.reduceAdd, Nat.reduceSub, Nat.reduceMul, Nat.reduceBEq, Int.reduceLT, Int.reduceLE, Int.reduceToNat, Int.reduceBEq, Int.reduceBNe, reduceIte, load3, load9, load22, index22, len22, load25, load28, index28, len28, app31, index31, len31, call7, call8, call9, call10, call11, b3_26, r3_0, r3_1, r3_2, r3_3, r3_4, r3_5, r3_6, r3_7, r3_8, r3_9, r3_10, r3_11, r3_12, r3_13, r3_14, r3_15, r3_16, r3_18, r3_19, r3_20, r3_21, r3_22, r3_23, r3_24, r3_25, r3_27, r3_28, r3_29, r3_31, r3_32, r3_33, r3_35, p3, t1, t3, t5, t6, t9, t10, t11, t12, lenS hXi, dec_lt hmt, wm]
        exact ⟨ws.length - (m + 1), by omega, m + 1, true, by omega, rfl, by simp, hT9, hG9, hn9, by simp [t1, t3, t5, t6, t9, t10]⟩
      | false =>
        simp only [SXa, reduceCtorEq, Nat.reduceEqDiff, Nat.reduceAdd, Nat.reduceSub, Nat.reduceMul, Nat.reduceBEq, Int.reduceLT, Int.reduceLE, Int.reduceToNat, Int.reduceBEq, Int.reduceBNe, reduceIte, load3, load9, load22, index22, len22, load25, load28, index28, len28, app31, index31, len31, call7, call8, call9, call10, call11, b3_26, r3_0, r3_1, r3_2, r3_3, r3_4, r3_5, r3_6, r3_7, r3_8, r3_9, r3_10, r3_11, r3_12, r3_13, r3_14, r3_15, r3_16, r3_18, r3_19, r3_20, r3_21, r3_22, r3_23, r3_24, r3_25, r3_27, r3_28, r3_29, r3_31, r3_32, r3_33, r3_35, p3, t1, t3, t5, t6, t9, t10, t11, t12, lenS hXi, dec_lt hmt, wm, idxS hXi hmt, idxS hF hkt, eqL]
        exact ⟨ws.length - (m + 1), by omega, m + 1, _, by omega, rfl, by rw [Bool.false_or] at hbb; exact hbb, hT9, hG9, hn9, by simp [t1, t3, t5, t6, t9, t10]⟩
    case neg =>
      have hme : m = ws.length := by omega
      rw [hme, List.drop_length, List.any_nil, Bool.or_false] at hbb
      subst hbb
      have gr9 := Grow.raise hG.fresh 18 nilV
      have hG9 := hG.two gr9
      have hT9 : (S8.raise 18).obj S.no = some [nx, tx] := hT
      have hn9 : S.no < (S8.raise 18).no := by rw [raise_no]; omega
      cases ck : decide ((0 : Int) < ((k : Nat) : Int)) with
      | false =>
        simp only [SXa, reduceCtorEq, Nat.reduceEqDiff, Nat.reduceAdd, Nat.reduceSub, Nat.reduceMul, Nat.reduceBEq, Int.reduceLT, Int.reduceLE, Int.reduceToNat, Int.reduceBEq, Int.reduceBNe, reduceIte, load3, load9, load22, index22, len22, load25, load28, index28, len28, app31, index31, len31, call7, call8, call9, call10, call11, b3_26, r3_0, r3_1, r3_2, r3_3, r3_4, r3_5, r3_6, r3_7, r3_8, r3_9, r3_10, r3_11, r3_12, r3_13, r3_14, r3_15, r3_16, r3_18, r3_19, r3_20, r3_21, r3_22, r3_23, r3_24, r3_25, r3_27, r3_28, r3_29, r3_31, r3_32, r3_33, r3_35, p3, t1, t3, t5, t6, t9, t10, t11, t12, lenS hXi, dec_nlt hmt, ck, wk]
        exact ⟨(FreeF t ((i : Nat) : Int)).length - (k + 1), by omega, k + 1, by omega, rfl, hT9, hG9, hn9, by simp [t1, t3, t5, t6, t9]⟩
      | true =>
        have hk0 : 0 < k := by simpa using ck
        have wk1 : IntKind.i64.wrap ((k : Int) - 1) = ((k - 1 : Nat) : Int) := by rw [wrap_i64 (by omega) (by omega)]; omega
        have hrise := FreeF_rise t ((i : Nat) : Int) hkt hk0
        simp only [SXa, reduceCtorEq, Nat.reduceEqDiff, Nat.reduceAdd, Nat.reduceSub, Nat.reduceMul, Nat.reduceBEq, Int.reduceLT, Int.reduceLE, Int.reduceToNat, Int.reduceBEq, Int.reduceBNe, reduceIte, load3, load9, load22, index22, len22, load25, load28, index28, len28, app31, index31, len31, call7, call8, call9, call10, call11, b3_26, r3_0, r3_1, r3_2, r3_3, r3_4, r3_5, r3_6, r3_7, r3_8, r3_9, r3_10, r3_11, r3_12, r3_13, r3_14, r3_15, r3_16, r3_18, r3_19, r3_20, r3_21, r3_22, r3_23, r3_24, r3_25, r3_27, r3_28, r3_29, r3_31, r3_32, r3_33, r3_35, p3, t1, t3, t5, t6, t9, t10, t11, t12, lenS hXi, dec_nlt hmt, ck, wk, wk1, idxS hF hkt, idxS hF (k := k - 1) (by omega), b_geqstr, hrise]
        exact ⟨(FreeF t ((i : Nat) : Int)).length - (k + 1), by omega, k + 1, by omega, rfl, hT9, hG9, hn9, by simp [t1, t3, t5, t6, t9]⟩
  | false =>
    rw [c4] at hlaw
    simp only [Bool.true_and, Bool.false_and, Bool.false_or] at hlaw
    simp only [SXa, reduceCtorEq, Nat.reduceEqDiff, Nat.reduceAdd, Nat.reduceSub, Nat.reduceMul, Nat.reduceBEq, Int.reduceLT, Int.reduceLE, Int.reduceToNat, Int.reduceBEq, Int.reduceBNe, reduceIte, load3, load9, load22, index22, len22, load25, load28, index28, len28, app31, index31, len31, call7, call8, call9, call10, call11, b3_30, r3_0, r3_1, r3_2, r3_3, r3_4, r3_5, r3_6, r3_7, r3_8, r3_9, r3_10, r3_11, r3_12, r3_13, r3_14, r3_15, r3_16, r3_18, r3_19, r3_20, r3_21, r3_22, r3_23, r3_24, r3_25, r3_27, r3_28, r3_29, r3_31, r3_32, r3_33, r3_35, p3, t1, t3, t5, t6, t9, t10, lenS hF, dec_lt hkt, raise_obj, load_pb, hT, fldT0, fldN, fld_p, fld_e, Option.bind_some, Nat.zero_add, Nat.add_zero, Nat.le_refl, idxN ht.nodes hlt, nodeA, c4, idxS hF hkt, eqL]
    refine e_loop (fun tm S' N => ∃ (m : Nat) (bb : Bool), m ≤ ws.length ∧ N = ws.length - m ∧ (bb || (ws.drop m).any fun y => y == (FreeF t ((i : Nat) : Int))[k]) = true ∧ S'.obj S.no = some [nx, tx] ∧ Grow S S' nilV ∧ S.no < S'.no ∧
      getT tm 1 = .ptr S.no 0 ∧ getT tm 3 = .sc (.int .i64 (i : Int)) ∧ getT tm 5 = X ∧ getT tm 6 = .sc (.int .i64 (n : Int)) ∧ getT tm 9 = Fv ∧ getT tm 10 = .sc (.int .i64 (k : Int)) ∧ getT tm 11 = .sc (.bool bb) ∧ getT tm 12 = .sc (.int .i64 (m : Int))) ws.length
      ⟨0, false, by omega, by omega, by rw [List.drop_zero]; rw [Bool.false_or]; exact hlaw, hT8, hG8, hn8, by simp [getT_setD, t1, t3, t5, t6, t9, t10]⟩ ?_
    clear hT hG hn t1 t3 t5 t6 t9 t10 hT8 hG8 hn8 gr8
    rintro tm S8 N ⟨m, bb, hm', rfl, hbb, hT, hG, hn, t1, t3, t5, t6, t9, t10, t11, t12⟩
    by_cases hmt : m < ws.length
    case pos =>
      have wm := wrapK hmt (by omega)
      rw [any_drop hmt] at hbb
      have gr9 := Grow.raise hG.fresh 13 nilV
      have hG9 := hG.two gr9
      have hT9 : (S8.raise 13).obj S.no = some [nx, tx] := hT
      have hn9 : S.no < (S8.raise 13).no := by rw [raise_no]; omega
      cases bb with
      | true =>
        simp only [SXa, reduceCtorEq, Nat.reduceEqDiff, Nat.reduceAdd, Nat.reduceSub, Nat.reduceMul, Nat.reduceBEq, Int.reduceLT, Int.reduceLE, Int.reduceToNat, Int.reduceBEq, Int.reduceBNe, reduceIte, load3, load9, load22, index22, len22, load25, load28, index28, len28, app31, index31, len31, call7, call8, call9, call10, call11, b3_26, r3_0, r3_1, r3_2, r3_3, r3_4, r3_5, r3_6, r3_7, r3_8, r3_9, r3_10, r3_11, r3_12, r3_13, r3_14, r3_15, r3_16, r3_18, r3_19, r3_20, r3_21, r3_22, r3_23, r3_24, r3_25, r3_27, r3_28, r3_29, r3_31, r3_32, r3_33, r3_35, p3, t1, t3, t5, t6, t9, t10, t11, t12, lenS hXi, dec_lt hmt, wm]
        exact ⟨ws.length - (m + 1), by omega, m + 1, true, by omega, rfl, by simp, hT9, hG9, hn9, by simp [t1, t3, t5, t6, t9, t10]⟩
      | false =>
        simp only [SXa, reduceCtorEq, Nat.reduceEqDiff, Nat.reduceAdd, Nat.reduceSub, Nat.reduceMul, Nat.reduceBEq, Int.reduceLT, Int.reduceLE, Int.reduceToNat, Int.reduceBEq, Int.reduceBNe, reduceIte, load3, load9, load22, index22, len22, load25, load28, index28, len28, app31, index31, len31, call7, call8, call9, call10, call11, b3_26, r3_0, r3_1, r3_2, r3_3, r3_4, r3_5, r3_6, r3_7, r3_8, r3_9, r3_10, r3_11, r3_12, r3_13, r3_14, r3_15, r3_16, r3_18, r3_19, r3_20, r3_21, r3_22, r3_23, r3_24, r3_25, r3_27, r3_28, r3_29, r3_31, r3_32, r3_33, r3_35, p3, t1, t3, t5, t6, t9, t10, t11, t12, lenS hXi, dec_lt hmt, wm, idxS hXi hmt, idxS hF hkt, eqL]
        exact ⟨ws.length - (m + 1), by omega, m + 1, _, by omega, rfl, by rw [Bool.false_or] at hbb; exact hbb, hT9, hG9, hn9, by simp [t1, t3, t5, t6, t9, t10]⟩
    case neg =>
      have hme : m = ws.length := by omega
      rw [hme, List.drop_length, List.any_nil, Bool.or_false] at hbb
      subst hbb
      have gr9 := Grow.raise hG.fresh 18 nilV
      have hG9 := hG.two gr9
      have hT9 : (S8.raise 18).obj S.no = some [nx, tx] := hT
      have hn9 : S.no < (S8.raise 18).no := by rw [raise_no]; omega
      cases ck : decide ((0 : Int) < ((k : Nat) : Int)) with
      | false =>
        simp only [SXa, reduceCtorEq, Nat.reduceEqDiff, Nat.reduceAdd, Nat.reduceSub, Nat.reduceMul, Nat.reduceBEq, Int.reduceLT, Int.reduceLE, Int.reduceToNat, Int.reduceBEq, Int.reduceBNe, reduceIte, load3, load9, load22, index22, len22, load25, load28, index28, len28, app31, index31, len31, call7, call8, call9, call10, call11, b3_26, r3_0, r3_1, r3_2, r3_3, r3_4, r3_5, r3_6, r3_7, r3_8, r3_9, r3_10, r3_11, r3_12, r3_13, r3_14, r3_15, r3_16, r3_18, r3_19, r3_20, r3_21, r3_22, r3_23, r3_24, r3_25, r3_27, r3_28, r3_29, r3_31, r3_32, r3_33, r3_35, p3, t1, t3, t5, t6, t9, t10, t11, t12, lenS hXi, dec_nlt hmt, ck, wk]
        exact ⟨(FreeF t ((i : Nat) : Int)).length - (k + 1), by omega, k + 1, by omega, rfl, hT9, hG9, hn9, by simp [t1, t3, t5, t6, t9]⟩
      | true =>
        have hk0 : 0 < k := by simpa using ck
        have wk1 : IntKind.i64.wrap ((k : Int) - 1) = ((k - 1 : Nat) : Int) := by rw [wrap_i64 (by omega) (by omega)]; omega
        have hrise := FreeF_rise t ((i : Nat) : Int) hkt hk0
        simp only [SXa, reduceCtorEq, Nat.reduceEqDiff, Nat.reduceAdd, Nat.reduceSub, Nat.reduceMul, Nat.reduceBEq, Int.reduceLT, Int.reduceLE, Int.reduceToNat, Int.reduceBEq, Int.reduceBNe, reduceIte, load3, load9, load22, index22, len22, load25, load28, index28, len28, app31, index31, len31, call7, call8, call9, call10, call11, b3_26, r3_0, r3_1, r3_2, r3_3, r3_4, r3_5, r3_6, r3_7, r3_8, r3_9, r3_10, r3_11, r3_12, r3_13, r3_14, r3_15, r3_16, r3_18, r3_19, r3_20, r3_21, r3_22, r3_23, r3_24, r3_25, r3_27, r3_28, r3_29, r3_31, r3_32, r3_33, r3_35, p3, t1, t3, t5, t6, t9, t10, t11, t12, lenS hXi, dec_nlt hmt, ck, wk, wk1, idxS hF hkt, idxS hF (k := k - 1) (by omega), b_geqstr, hrise]
        exact ⟨(FreeF t ((i : Nat) : Int)).length - (k + 1), by omega, k + 1, by omega, rfl, hT9, hG9, hn9, by simp [t1, t3, t5, t6, t9]⟩
end Go.Proofs.YtmmnkemcplgebaaGreatDoor
end
