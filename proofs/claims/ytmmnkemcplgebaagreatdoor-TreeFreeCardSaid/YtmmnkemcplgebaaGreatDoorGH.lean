/-
  Trees: how deep a node is (the walks of depth, has, Depth).
  Trees: what a node binds in a kid (the walk of bound).
-/
import Derived.Test.YtmmnkemcplgebaaGreatDoorFY
import Derived.Test.YtmmnkemcplgebaaGreatDoorGG
section
set_option linter.unusedSimpArgs false
set_option linter.unusedVariables false
set_option maxRecDepth 100000
namespace Go.Proofs.YtmmnkemcplgebaaGreatDoor
open Go.Abs
/-- How deep a node is. -/
def depthF (ns : List NodeV) : Nat → Nat → Nat
  | 0, _ => 0
  | f + 1, a => match ns[a]? with
    | some x => (x.kids.map fun k => depthF ns f k.toNat).foldl max 0 + 1
    | none => 0
theorem max_int (a b : Int) (t u : TypeId) (S : St) : builtinA E false .max [t, u] [.sc (.int .i64 a), .sc (.int .i64 b)] S = some (.sc (.int .i64 (if b > a then b else a)), S) := rfl
theorem op_max {tm : PM AV} {S : St} {d : Option Tmp} (x y : Operand) (t u : TypeId) : opV E tm d (.call (Call.mk (.builtin .max) #[x, y] #[t, u])) S = builtinA E false .max [t, u] [E.ev tm x, E.ev tm y] S := rfl
theorem kids_depth {ns : List NodeV} {f d : Nat} {ds : List DeclV} (ih : ∀ p a z, walkF ns ds d p a = some z → depthF ns f a ≤ d) (pat m : Bool) : ∀ (l : List Int) (i nx z n : Nat), kidsW (walkF ns ds d) pat m l i nx = some z → n ≤ d → (l.map fun k => depthF ns f k.toNat).foldl max n ≤ d
  | [], i, nx, z, n, h, hn => by simpa using hn
  | k :: r, i, nx, z, n, h, hn => by
    unfold kidsW at h
    cases hb : (k == ((nx : Nat) : Int)) with
    | false => rw [hb] at h; cases h
    | true =>
      rw [hb, cond_true] at h
      have hk : k = ((nx : Nat) : Int) := by simpa using hb
      cases hq : walkF ns ds d (pat || (m && armF ((i : Nat) : Int))) nx with
      | none => rw [hq] at h; cases h
      | some z1 =>
        rw [hq] at h
        have h1 := ih _ _ _ hq
        simp only [List.map_cons, List.foldl_cons, hk, Int.toNat_natCast]
        exact kids_depth ih pat m r (i + 1) z1 z _ h (by omega)
theorem walk_kids {ns : List NodeV} {ds : List DeclV} {d : Nat} {pat : Bool} {a z : Nat} (h : walkF ns ds (d + 1) pat a = some z) (hlt : a < ns.length) : kidsW (walkF ns ds d) pat (ns[a].kind == 11) ns[a].kids 0 (a + 1) = some z := by
  have hx : ns[a]? = some ns[a] := List.getElem?_eq_getElem hlt
  unfold walkF at h
  rw [hx] at h
  simp only [cond_eq_ite] at h
  split at h
  · cases h
  · exact h
theorem depth_le (ns : List NodeV) (ds : List DeclV) : ∀ (d f : Nat), d ≤ f → ∀ (pat : Bool) (a z : Nat), walkF ns ds d pat a = some z → depthF ns f a ≤ d
  | 0, f, hf, pat, a, z, h => by cases h
  | d + 1, 0, hf, pat, a, z, h => by omega
  | d + 1, f + 1, hf, pat, a, z, h => by
    have hbd := walk_bd _ _ _ _ _ _ h
    have hlt : a < ns.length := by omega
    have hk := walk_kids h hlt
    rw [depthF, List.getElem?_eq_getElem hlt]
    have := kids_depth (f := f) (depth_le ns ds d f (by omega)) pat _ _ 0 (a + 1) z 0 hk (by omega)
    simp only
    omega
set_option maxHeartbeats 16000000 in
theorem depth_ans (t : TreeV) (nx tx : AV) (ht : TreeIs nx tx t) : ∀ (d f : Nat), d ≤ f → d ≤ 100 → ∀ (pat : Bool) (a z : Nat), walkF t.nodes t.types d pat a = some z → Ans E 36 [.agg [nx, tx], .sc (.int .i64 (a : Nat))] (.sc (.int .i64 (depthF t.nodes f a : Nat)))
  | 0, f, hf, hd, pat, a, z, h => by cases h
  | d + 1, 0, hf, hd, pat, a, z, h => by omega
  | d + 1, f + 1, hf, hd, pat, a, z, h => ans_of fun S hS => by
    have hbd := walk_bd _ _ _ _ _ _ h
    have hlt : a < t.nodes.length := by omega
    have hkl := ht.lk _ (List.getElem_mem hlt)
    have hw := walk_kids h hlt
    have hle := kids_depth (f := f) (depth_le t.nodes t.types d f (by omega)) pat _ _ 0 (a + 1) z 0 hw (by omega)
    have eb : depthF t.nodes (f + 1) a = (t.nodes[a].kids.map fun k => depthF t.nodes f k.toNat).foldl max 0 + 1 := by
      rw [depthF, List.getElem?_eq_getElem hlt]
    rw [eb]
    refine ev36 rfl ?_
    have hb1 := (Grow.refl hS nilV).born 25 [nx, tx]
    have hT1 : (S.born 25 [nx, tx]).obj S.no = some [nx, tx] := by simp [born_obj]
    have hn1 : S.no < (S.born 25 [nx, tx]).no := Nat.lt_succ_self _
    simp only [SXa, reduceCtorEq, Nat.reduceEqDiff, Nat.reduceAdd, Nat.reduceSub, Nat.reduceMul, Nat.reduceBEq, Int.reduceLT, Int.reduceLE, Int.reduceToNat, Int.reduceBEq, Int.reduceBNe, reduceIte, load3, load22, index22, load25, load28, index28, len28, call36, r36_0, r36_1, r36_2, r36_3, r36_4, r36_5, r36_6, r36_8, p36, op_box, cells_agg]
    generalize S.born 25 [nx, tx] = S1 at hb1 hT1 hn1
    simp only [SXa, reduceCtorEq, Nat.reduceEqDiff, Nat.reduceAdd, Nat.reduceSub, Nat.reduceMul, Nat.reduceBEq, Int.reduceLT, Int.reduceLE, Int.reduceToNat, Int.reduceBEq, Int.reduceBNe, reduceIte, load3, load22, index22, load25, load28, index28, len28, call36, r36_0, r36_1, r36_2, r36_3, r36_4, r36_5, r36_6, r36_8, p36, fldT0, fldN, fld_p, fld_e, load_pb, hT1, Option.bind_some, Nat.zero_add, Nat.add_zero, idxN ht.nodes hlt, nodeA, lenK]
    refine e_loop (fun tm S' N => ∃ (i q n : Nat), i ≤ t.nodes[a].kids.length ∧ N = t.nodes[a].kids.length - i ∧ kidsW (walkF t.nodes t.types d) pat (t.nodes[a].kind == 11) (t.nodes[a].kids.drop i) i q = some z ∧
      ((t.nodes[a].kids.drop i).map fun k => depthF t.nodes f k.toNat).foldl max n = (t.nodes[a].kids.map fun k => depthF t.nodes f k.toNat).foldl max 0 ∧
      S'.obj S.no = some [nx, tx] ∧ Grow S S' nilV ∧ S.no < S'.no ∧ getT tm 2 = .ptr S.no 0 ∧ getT tm 5 = .sc (.int .i64 (n : Int)) ∧ getT tm 13 = (kidsA t.nodes[a]) ∧ getT tm 14 = .sc (.int .i64 (t.nodes[a].kids.length : Nat)) ∧ getT tm 15 = .sc (.int .i64 (i : Int))) t.nodes[a].kids.length
      ⟨0, a + 1, 0, by omega, by omega, by rw [List.drop_zero]; exact hw, by rw [List.drop_zero], hT1, hb1, by omega, by simp [getT_setD]⟩ ?_
    rintro tm S3 N ⟨i, q, n, hi, rfl, hq, hfl, hT3, hb3, hn3, t2, t5, t13, t14, t15⟩
    have hln := ht.ln
    by_cases hit : i < t.nodes[a].kids.length
    case neg =>
      have hie : i = t.nodes[a].kids.length := by omega
      rw [hie, List.drop_length] at hfl
      simp only [List.map_nil, List.foldl_nil] at hfl
      have wn : IntKind.i64.wrap ((n : Int) + 1) = ((n + 1 : Nat) : Int) := by rw [wrap_i64 (by omega) (by omega)]; omega
      simp only [SXa, reduceCtorEq, Nat.reduceEqDiff, Nat.reduceAdd, Nat.reduceSub, Nat.reduceMul, Nat.reduceBEq, Int.reduceLT, Int.reduceLE, Int.reduceToNat, Int.reduceBEq, Int.reduceBNe, reduceIte, load3, load22, index22, load25, load28, index28, len28, call36, b36_7, r36_0, r36_1, r36_2, r36_3, r36_4, r36_5, r36_6, r36_8, p36, t2, t5, t13, t14, t15, dec_nlt hit, wn]
      rw [← hfl]
      exact ⟨rfl, hb3⟩
    case pos =>
    have wi := wrapK hit (by omega)
    rw [kidsW_drop _ _ _ hit] at hq
    cases c6 : (t.nodes[a].kids[i] == ((q : Nat) : Int)) with
    | false => rw [c6] at hq; cases hq
    | true =>
    rw [c6, cond_true] at hq
    have hk : t.nodes[a].kids[i] = ((q : Nat) : Int) := by simpa using c6
    cases hw2 : walkF t.nodes t.types d (pat || (t.nodes[a].kind == 11 && armF ((i : Nat) : Int))) q with
    | none => rw [hw2] at hq; cases hq
    | some q1 =>
    rw [hw2] at hq
    have hm : (if ((depthF t.nodes f q : Nat) : Int) > (n : Int) then ((depthF t.nodes f q : Nat) : Int) else (n : Int)) = ((max n (depthF t.nodes f q) : Nat) : Int) := by split <;> omega
    rw [List.drop_eq_getElem_cons hit, List.map_cons, List.foldl_cons, hk, Int.toNat_natCast] at hfl
    simp only [SXa, reduceCtorEq, Nat.reduceEqDiff, Nat.reduceAdd, Nat.reduceSub, Nat.reduceMul, Nat.reduceBEq, Int.reduceLT, Int.reduceLE, Int.reduceToNat, Int.reduceBEq, Int.reduceBNe, reduceIte, load3, load22, index22, load25, load28, index28, len28, call36, b36_7, r36_0, r36_1, r36_2, r36_3, r36_4, r36_5, r36_6, r36_8, p36, t2, t5, t13, t14, t15, dec_lt hit, idxI hit, hk, load_pb, hT3, Option.bind_some, Nat.zero_add, Nat.le_refl]
    refine callK_ans (depth_ans t nx tx ht d f (by omega) (by omega) _ q q1 hw2) hb3 (fun S4 g4 hb4 => ?_)
    have hT4 := g4.objs hT3 hn3
    have hn4 := Nat.lt_of_lt_of_le hn3 g4.no
    simp only [SXa, reduceCtorEq, Nat.reduceEqDiff, Nat.reduceAdd, Nat.reduceSub, Nat.reduceMul, Nat.reduceBEq, Int.reduceLT, Int.reduceLE, Int.reduceToNat, Int.reduceBEq, Int.reduceBNe, reduceIte, load3, load22, index22, load25, load28, index28, len28, call36, r36_0, r36_1, r36_2, r36_3, r36_4, r36_5, r36_6, r36_8, p36, t2, t5, t13, t14, t15, wi, op_max, max_int, hm]
    exact ⟨t.nodes[a].kids.length - (i + 1), by omega, i + 1, q1, _, by omega, rfl, hq, hfl, hT4, hb4, hn4, by simp [t2, t13, t14]⟩
/-- Is a place one of a tree that may be? -/
noncomputable def hasAt (t : TreeV) (i : Int) : Bool := decide (0 ≤ i) && decide (i < (t.nodes.length : Int)) && goodF t
set_option maxHeartbeats 16000000 in
theorem has_ans (t : TreeV) (nx tx : AV) (ht : TreeIs nx tx t) (i : Int) : Ans E 32 [.agg [nx, tx], .sc (.int .i64 i)] (.sc (.bool (hasAt t i))) := ans_of fun S hS => by
  refine ev32 rfl ?_
  have hG := (Grow.refl hS nilV).born 25 [nx, tx]
  have hT : (S.born 25 [nx, tx]).obj S.no = some [nx, tx] := by simp [born_obj]
  have hn : S.no < (S.born 25 [nx, tx]).no := Nat.lt_succ_self _
  simp only [SXa, reduceCtorEq, Nat.reduceEqDiff, Nat.reduceAdd, Nat.reduceSub, Nat.reduceMul, Nat.reduceBEq, Int.reduceLT, Int.reduceLE, Int.reduceToNat, Int.reduceBEq, Int.reduceBNe, reduceIte, load22, len22, load25, call9, r32_0, r32_1, p32, op_box, cells_agg]
  generalize S.born 25 [nx, tx] = S0 at hG hT hn
  cases c1 : decide (0 ≤ i) with
  | false =>
    simp only [SXa, reduceCtorEq, Nat.reduceEqDiff, Nat.reduceAdd, Nat.reduceSub, Nat.reduceMul, Nat.reduceBEq, Int.reduceLT, Int.reduceLE, Int.reduceToNat, Int.reduceBEq, Int.reduceBNe, reduceIte, load22, len22, load25, call9, r32_0, r32_1, p32]
    exact ⟨by simp only [hasAt, c1, Bool.false_and], hG⟩
  | true =>
  simp only [SXa, reduceCtorEq, Nat.reduceEqDiff, Nat.reduceAdd, Nat.reduceSub, Nat.reduceMul, Nat.reduceBEq, Int.reduceLT, Int.reduceLE, Int.reduceToNat, Int.reduceBEq, Int.reduceBNe, reduceIte, load22, len22, load25, call9, r32_0, r32_1, p32, load_pb, hT, fldT0, fld_p, Option.bind_some, Nat.add_zero, Nat.zero_add, Nat.le_refl, lenN ht.nodes]
  cases c2 : decide (i < (t.nodes.length : Int)) with
  | false =>
    simp only [SXa, reduceCtorEq, Nat.reduceEqDiff, Nat.reduceAdd, Nat.reduceSub, Nat.reduceMul, Nat.reduceBEq, Int.reduceLT, Int.reduceLE, Int.reduceToNat, Int.reduceBEq, Int.reduceBNe, reduceIte, load22, len22, load25, call9, r32_0, r32_1, p32]
    exact ⟨by simp only [hasAt, c1, c2, Bool.and_false, Bool.false_and], hG⟩
  | true =>
  simp only [SXa, reduceCtorEq, Nat.reduceEqDiff, Nat.reduceAdd, Nat.reduceSub, Nat.reduceMul, Nat.reduceBEq, Int.reduceLT, Int.reduceLE, Int.reduceToNat, Int.reduceBEq, Int.reduceBNe, reduceIte, load22, len22, load25, call9, r32_0, r32_1, p32, load_pb, hT, fldT0, fld_p, Option.bind_some, Nat.add_zero, Nat.zero_add, Nat.le_refl, lenN ht.nodes]
  refine callK_ans (good_ans t nx tx ht) hG (fun S1 g1 hG1 => ?_)
  simp only [SXa, reduceCtorEq, Nat.reduceEqDiff, Nat.reduceAdd, Nat.reduceSub, Nat.reduceMul, Nat.reduceBEq, Int.reduceLT, Int.reduceLE, Int.reduceToNat, Int.reduceBEq, Int.reduceBNe, reduceIte, load22, len22, load25, call9, r32_0, r32_1, p32]
  exact ⟨by simp only [hasAt, c1, c2, Bool.true_and], hG1⟩
end Go.Proofs.YtmmnkemcplgebaaGreatDoor
end

section
set_option linter.unusedSimpArgs false
set_option linter.unusedVariables false
set_option maxRecDepth 100000
namespace Go.Proofs.YtmmnkemcplgebaaGreatDoor
open Go.Abs
/-- What a node binds in a kid. -/
def boundF (ns : List NodeV) (x : NodeV) (i : Nat) : List ByteArray :=
  bif x.kind == 6 || (x.kind == 20 && ((i : Nat) : Int) == 1) then [x.param]
  else bif (x.kind == 8 && ((i : Nat) : Int) == 1) || (x.kind == 9 && ((i : Nat) : Int) == 1) then [x.name]
  else bif x.kind == 9 then [x.name, x.param]
  else bif x.kind == 11 && decide (0 < ((i : Nat) : Int)) && !armF ((i : Nat) : Int) then bindsF ns 60 (x.kids.getD (i - 1) 0).toNat else []
theorem kids_get {ns : List NodeV} {ds : List DeclV} {d : Nat} (pat m : Bool) : ∀ (l : List Int) (i nx z : Nat), kidsW (walkF ns ds d) pat m l i nx = some z → ∀ j (hj : j < l.length), ∃ p q q1, nx ≤ q ∧ q1 ≤ z ∧ l[j] = ((q : Nat) : Int) ∧ walkF ns ds d p q = some q1
  | [], i, nx, z, h, j, hj => by simp at hj
  | k :: r, i, nx, z, h, j, hj => by
    unfold kidsW at h
    cases hb : (k == ((nx : Nat) : Int)) with
    | false => rw [hb] at h; cases h
    | true =>
      rw [hb, cond_true] at h
      have hk : k = ((nx : Nat) : Int) := by simpa using hb
      cases hq : walkF ns ds d (pat || (m && armF ((i : Nat) : Int))) nx with
      | none => rw [hq] at h; cases h
      | some z1 =>
        rw [hq] at h
        have h3 := walk_bd _ _ _ _ _ _ hq
        have h4 := (kidsW_bd (n := ns.length) (walk_bd ns ds d) pat m r (i + 1) z1 z h3.2 h).1
        match j, hj with
        | 0, _ => exact ⟨_, nx, z1, Nat.le_refl _, h4, hk, hq⟩
        | j + 1, hj =>
          obtain ⟨p, q, q1, a1, a2, a3, a4⟩ := kids_get pat m r (i + 1) z1 z h j (by simpa using hj)
          exact ⟨p, q, q1, by omega, a2, a3, a4⟩
set_option maxHeartbeats 16000000 in
theorem bound_ok (t : TreeV) (nx tx : AV) (ht : TreeIs nx tx t) (d : Nat) (hd : d ≤ 60) (pat : Bool) (a z i : Nat) (x : NodeV) (hx : x ∈ t.nodes) (hw : kidsW (walkF t.nodes t.types d) pat (x.kind == 11) x.kids 0 (a + 1) = some z) (hi : i < x.kids.length) (S : St) (hS : S.Fresh) :
    ∃ r S', EvA E 61 [.agg [nx, tx], .agg (nodeA x), .sc (.int .i64 (i : Nat))] S r S' ∧ IsV 1 r (strsA (boundF t.nodes x i)) ∧ Grow S S' nilV := by
  have hkl := ht.lk x hx
  refine ev61 rfl ?_
  have hG := ((Grow.refl hS nilV).born 25 [nx, tx]).born 30 (nodeA x)
  have hN : ((S.born 25 [nx, tx]).born 30 (nodeA x)).obj (S.no + 1) = some (nodeA x) := by simp [born_obj, born_no]
  have hT : ((S.born 25 [nx, tx]).born 30 (nodeA x)).obj S.no = some [nx, tx] := by simp [born_obj, born_no]
  have hn : S.no + 1 < ((S.born 25 [nx, tx]).born 30 (nodeA x)).no := by simp only [born_no]; omega
  simp only [SXa, reduceCtorEq, Nat.reduceEqDiff, Nat.reduceAdd, Nat.reduceSub, Nat.reduceMul, Nat.reduceBEq, Int.reduceLT, Int.reduceLE, Int.reduceToNat, Int.reduceBEq, Int.reduceBNe, reduceIte, load3, load9, load25, load28, index28, bs31, call31, call57, r61_0, r61_1, r61_2, r61_3, r61_4, r61_5, r61_6, r61_7, r61_8, r61_9, r61_10, r61_11, p61, op_box, cells_agg, born_no]
  generalize (S.born 25 [nx, tx]).born 30 (nodeA x) = S0 at hG hN hT hn
  simp only [nodeA] at hN
  have hpos : decide (0 < ((i : Nat) : Int)) = true → 0 < i := fun h => by simpa using h
  have wi : 0 < i → IntKind.i64.wrap ((i : Int) - 1) = ((i - 1 : Nat) : Int) := fun h => by rw [wrap_i64 (by omega) (by omega)]; omega
  cases k6 : (x.kind == 6) <;> cases k20 : (x.kind == 20) <;> cases k8 : (x.kind == 8) <;> cases k9 : (x.kind == 9) <;> cases k11 : (x.kind == 11) <;> cases ci : (((i : Nat) : Int) == 1) <;> cases cp : decide (0 < ((i : Nat) : Int))
  all_goals simp only [SXa, reduceCtorEq, Nat.reduceEqDiff, Nat.reduceAdd, Nat.reduceSub, Nat.reduceMul, Nat.reduceBEq, Int.reduceLT, Int.reduceLE, Int.reduceToNat, Int.reduceBEq, Int.reduceBNe, reduceIte, load3, load9, load25, load28, index28, bs31, call31, call57, r61_0, r61_1, r61_2, r61_3, r61_4, r61_5, r61_6, r61_7, r61_8, r61_9, r61_10, r61_11, p61, load_pb, hN, fldN, fld_p, Option.bind_some, Nat.add_zero, Nat.zero_add, bsl1, bsl2, k6, k20, k8, k9, k11, ci, cp]
  all_goals try (first
    | exact ⟨by simp only [boundF, Bool.not_true, Bool.not_false, Bool.true_or, Bool.or_true, Bool.or_false, Bool.false_or, Bool.true_and, Bool.false_and, Bool.and_true, Bool.and_false, cond_true, cond_false, k6, k20, k8, k9, k11, ci, cp]; exact IsV.nil 1, hG⟩
    | exact ⟨by simp only [boundF, Bool.not_true, Bool.not_false, Bool.true_or, Bool.or_true, Bool.or_false, Bool.false_or, Bool.true_and, Bool.false_and, Bool.and_true, Bool.and_false, cond_true, cond_false, k6, k20, k8, k9, k11, ci, cp]; exact IsV.vec 1 1 _, hG⟩)
  all_goals
    have hp := hpos cp
    obtain ⟨p, q, q1, a1, a2, a3, a4⟩ := kids_get pat _ _ 0 (a + 1) z hw (i - 1) (by omega)
    have hgd : x.kids.getD (i - 1) 0 = ((q : Nat) : Int) := by
      have hlt : i - 1 < x.kids.length := by omega
      rw [← a3]
      simp [List.getD, hlt]
    refine callK_ans (arm_ans _) hG (fun S2 g2 hG2 => ?_)
    have hN2 := g2.objs hN hn
    have hT2 := g2.objs hT (by omega)
    cases c9 : armF ((i : Nat) : Int) with
    | true =>
      simp only [SXa, reduceCtorEq, Nat.reduceEqDiff, Nat.reduceAdd, Nat.reduceSub, Nat.reduceMul, Nat.reduceBEq, Int.reduceLT, Int.reduceLE, Int.reduceToNat, Int.reduceBEq, Int.reduceBNe, reduceIte, load3, load9, load25, load28, index28, bs31, call31, call57, r61_0, r61_1, r61_2, r61_3, r61_4, r61_5, r61_6, r61_7, r61_8, r61_9, r61_10, r61_11, p61]
      exact ⟨by simp only [boundF, c9, Bool.not_true, Bool.not_false, Bool.true_or, Bool.or_true, Bool.or_false, Bool.false_or, Bool.true_and, Bool.false_and, Bool.and_true, Bool.and_false, cond_true, cond_false, k6, k20, k8, k9, k11, ci, cp]; exact IsV.nil 1, hG2⟩
    | false =>
      have gr := Grow.raise hG2.fresh 9 nilV
      have hG3 := hG2.two gr
      obtain ⟨r4, S4, e4, ⟨hY, _⟩, g4⟩ := binds_ok t nx tx ht d 60 hd p q q1 a4 (S2.raise 9) hG3.fresh
      simp only [SXa, reduceCtorEq, Nat.reduceEqDiff, Nat.reduceAdd, Nat.reduceSub, Nat.reduceMul, Nat.reduceBEq, Int.reduceLT, Int.reduceLE, Int.reduceToNat, Int.reduceBEq, Int.reduceBNe, reduceIte, load3, load9, load25, load28, index28, bs31, call31, call57, r61_0, r61_1, r61_2, r61_3, r61_4, r61_5, r61_6, r61_7, r61_8, r61_9, r61_10, r61_11, p61, raise_obj, load_pb, hN2, hT2, fldN, fld_p, Option.bind_some, Nat.add_zero, Nat.zero_add, Nat.le_refl, wi hp, idxI (x := x) (k := i - 1) (by omega), a3]
      refine callK_of e4 ?_
      simp only [SXa, reduceCtorEq, Nat.reduceEqDiff, Nat.reduceAdd, Nat.reduceSub, Nat.reduceMul, Nat.reduceBEq, Int.reduceLT, Int.reduceLE, Int.reduceToNat, Int.reduceBEq, Int.reduceBNe, reduceIte, load3, load9, load25, load28, index28, bs31, call31, call57, r61_0, r61_1, r61_2, r61_3, r61_4, r61_5, r61_6, r61_7, r61_8, r61_9, r61_10, r61_11, p61]
      exact ⟨by simp only [boundF, c9, hgd, Int.toNat_natCast, Bool.not_true, Bool.not_false, Bool.true_or, Bool.or_true, Bool.or_false, Bool.false_or, Bool.true_and, Bool.false_and, Bool.and_true, Bool.and_false, cond_true, cond_false, k6, k20, k8, k9, k11, ci, cp]; exact hY.is, hG3.two g4⟩
end Go.Proofs.YtmmnkemcplgebaaGreatDoor
end
