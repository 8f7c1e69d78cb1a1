/-
  Trees: the walks (what a pattern binds).
-/
import Derived.Test.YtmmnkemcplgebaaGreatDoorFU
import Derived.Test.YtmmnkemcplgebaaGreatDoorFV
section
set_option linter.unusedSimpArgs false
set_option linter.unusedVariables false
set_option maxRecDepth 100000
namespace Go.Proofs.YtmmnkemcplgebaaGreatDoor
open Go.Abs
theorem allSz_strs : ∀ l : List ByteArray, allSz 1 (strsA l) = true
  | [] => rfl
  | s :: l => by simp only [strsA, List.map_cons, allSz, Bool.and_eq_true]; exact ⟨rfl, allSz_strs l⟩
theorem strsA_app (a b : List ByteArray) : strsA a ++ strsA b = strsA (a ++ b) := by simp [strsA]
theorem bsl1 (a : ByteArray) (S : St) : buildSliceA E 31 1 [(0, .sc (.string a))] S = some (.vec 1 1 [.sc (.string a)], S) := by kernel_rfl
/-- Appending texts. -/
theorem app_strs {S S0 : St} {X Y : AV} {xs ys : List ByteArray} (hX : OwnV S 9 1 X (strsA xs)) (hN : Newish S0 X) (G : Grow S0 S nilV) (hY : IsV 1 Y (strsA ys)) (hb : xs.length + ys.length ≤ 2 ^ 40) :
    ∃ Z S1, builtinA E false .append [31, 31] [X, Y] S = some (Z, S1) ∧ OwnV S1 9 1 Z (strsA (xs ++ ys)) ∧ Newish S0 Z ∧ Grow S0 S1 nilV ∧ S1.no = S.no ∧ (∀ l, S1.obj l = S.obj l) ∧ Grow S S1 X := by
  rw [← strsA_app]
  exact app_any el31 und31 hX hN G hY (allSz_strs _) (by rw [strsA_len, strsA_len]; omega)
theorem kid_len {ns : List NodeV} {f : Nat} {d : Nat} {ds : List DeclV} (ih : ∀ p a z, walkF ns ds d p a = some z → (bindsF ns f a).length ≤ z - a) (pat m : Bool) : ∀ (l : List Int) (i nx z : Nat), kidsW (walkF ns ds d) pat m l i nx = some z → (l.flatMap fun k => bindsF ns f k.toNat).length ≤ z - nx
  | [], i, nx, z, h => by simp
  | k :: r, i, nx, z, h => by
    unfold kidsW at h
    cases hb : (k == ((nx : Nat) : Int)) with
    | false => rw [hb] at h; cases h
    | true =>
      rw [hb, cond_true] at h
      have hk : k = ((nx : Nat) : Int) := by simpa using hb
      cases hq : walkF ns ds d (pat || (m && armF ((i : Nat) : Int))) nx with
      | none => rw [hq] at h; cases h
      | some z1 =>
        rw [hq] at h
        have h1 := ih _ _ _ hq
        have h2 := kid_len ih pat m r (i + 1) z1 z h
        have h3 := walk_bd _ _ _ _ _ _ hq
        have h4 := (kidsW_bd (n := ns.length) (walk_bd ns ds d) pat m r (i + 1) z1 z h3.2 h).1
        rw [List.flatMap_cons, List.length_append, hk, Int.toNat_natCast]
        omega
theorem binds_len (ns : List NodeV) (ds : List DeclV) : ∀ (d f : Nat), d ≤ f → ∀ (pat : Bool) (a z : Nat), walkF ns ds d pat a = some z → (bindsF ns f a).length ≤ z - a
  | 0, f, hf, pat, a, z, h => by cases h
  | d + 1, 0, hf, pat, a, z, h => by omega
  | d + 1, f + 1, hf, pat, a, z, h => by
    have hbd := walk_bd _ _ _ _ _ _ h
    unfold walkF at h
    cases hx : ns[a]? with
    | none => rw [hx] at h; cases h
    | some x =>
      rw [hx] at h
      simp only [cond_eq_ite] at h
      split at h
      · cases h
      · unfold bindsF
        rw [hx]
        simp only [cond_eq_ite]
        split
        · simp only [List.length_cons, List.length_nil]; omega
        · split
          · have := kid_len (binds_len ns ds d f (by omega)) pat (x.kind == 11) x.kids 0 (a + 1) z h
            omega
          · simp
set_option maxHeartbeats 16000000 in
theorem binds_ok (t : TreeV) (nx tx : AV) (ht : TreeIs nx tx t) : ∀ (d f : Nat), d ≤ f → ∀ (pat : Bool) (a z : Nat), walkF t.nodes t.types d pat a = some z → ∀ (S : St), S.Fresh →
    ∃ r S', EvA E 31 [.agg [nx, tx], .sc (.int .i64 (a : Nat))] S r S' ∧ (OwnV S' 9 1 r (strsA (bindsF t.nodes f a)) ∧ Newish S r) ∧ Grow S S' nilV
  | 0, f, hf, pat, a, z, h, S, hS => by cases h
  | d + 1, 0, hf, pat, a, z, h, S, hS => by omega
  | d + 1, f + 1, hf, pat, a, z, h, S, hS => by
    have hbd := walk_bd _ _ _ _ _ _ h
    have hlt : a < t.nodes.length := by omega
    have hx : t.nodes[a]? = some t.nodes[a] := List.getElem?_eq_getElem hlt
    have hkl := ht.lk _ (List.getElem_mem hlt)
    have hw : kidsW (walkF t.nodes t.types d) pat (t.nodes[a].kind == 11) t.nodes[a].kids 0 (a + 1) = some z := by
      unfold walkF at h
      rw [hx] at h
      simp only [cond_eq_ite] at h
      split at h
      · cases h
      · exact h
    have eb : bindsF t.nodes (f + 1) a = bif t.nodes[a].kind == 22 then [t.nodes[a].name] else bif t.nodes[a].kind == 26 then t.nodes[a].kids.flatMap fun k => bindsF t.nodes f k.toNat else [] := by
      rw [bindsF, hx]
    rw [eb]
    refine ev31 rfl ?_
    have hb1 := (Grow.refl hS nilV).born 25 [nx, tx]
    have hT1 : (S.born 25 [nx, tx]).obj S.no = some [nx, tx] := by simp [born_obj]
    have hn1 : S.no < (S.born 25 [nx, tx]).no := Nat.lt_succ_self _
    simp only [SXa, reduceCtorEq, Nat.reduceEqDiff, Nat.reduceAdd, Nat.reduceSub, Nat.reduceMul, Nat.reduceBEq, Int.reduceLT, Int.reduceLE, Int.reduceToNat, Int.reduceBEq, Int.reduceBNe, reduceIte, load3, load9, load22, index22, load25, load28, index28, len28, load30, store30, bs31, app31, call31, r31_0, r31_1, r31_2, r31_3, r31_4, r31_5, r31_6, r31_7, r31_8, r31_9, r31_10, r31_12, p31, op_box, cells_agg]
    generalize S.born 25 [nx, tx] = S1 at hb1 hT1 hn1
    have hb2 := (hb1.born 30 zN).put S1.no (.cells (nodeA t.nodes[a])) hb1.no
    have hN2 : ((S1.born 30 zN).put S1.no (.cells (nodeA t.nodes[a]))).obj S1.no = some (nodeA t.nodes[a]) := by simp [put_obj]
    have hT2 : ((S1.born 30 zN).put S1.no (.cells (nodeA t.nodes[a]))).obj S.no = some [nx, tx] := by
      have : S.no ≠ S1.no := by omega
      simp [put_obj, born_obj, this, hT1]
    have hn2 : S1.no < ((S1.born 30 zN).put S1.no (.cells (nodeA t.nodes[a]))).no := Nat.lt_succ_self _
    simp only [SXa, reduceCtorEq, Nat.reduceEqDiff, Nat.reduceAdd, Nat.reduceSub, Nat.reduceMul, Nat.reduceBEq, Int.reduceLT, Int.reduceLE, Int.reduceToNat, Int.reduceBEq, Int.reduceBNe, reduceIte, load3, load9, load22, index22, load25, load28, index28, len28, load30, store30, bs31, app31, call31, r31_0, r31_1, r31_2, r31_3, r31_4, r31_5, r31_6, r31_7, r31_8, r31_9, r31_10, r31_12, p31, fldT0, fld_p, load_pb, hT1, Option.bind_some, Nat.zero_add, Nat.add_zero, idxN ht.nodes hlt, nodeA_len, nodeA_take, allocN, stN, born_obj, zN_len, zN_drop, List.append_nil, Nat.le_refl]
    generalize (S1.born 30 zN).put S1.no (.cells (nodeA t.nodes[a])) = S2 at hb2 hN2 hT2 hn2
    simp only [nodeA] at hN2
    simp only [SXa, reduceCtorEq, Nat.reduceEqDiff, Nat.reduceAdd, Nat.reduceSub, Nat.reduceMul, Nat.reduceBEq, Int.reduceLT, Int.reduceLE, Int.reduceToNat, Int.reduceBEq, Int.reduceBNe, reduceIte, load3, load9, load22, index22, load25, load28, index28, len28, load30, store30, bs31, app31, call31, r31_0, r31_1, r31_2, r31_3, r31_4, r31_5, r31_6, r31_7, r31_8, r31_9, r31_10, r31_12, p31, load_pb, hN2, fldN, fld_p, Option.bind_some, Nat.add_zero, Nat.zero_add]
    cases c1 : (t.nodes[a].kind == 22) with
    | true =>
      simp only [SXa, reduceCtorEq, Nat.reduceEqDiff, Nat.reduceAdd, Nat.reduceSub, Nat.reduceMul, Nat.reduceBEq, Int.reduceLT, Int.reduceLE, Int.reduceToNat, Int.reduceBEq, Int.reduceBNe, reduceIte, load3, load9, load22, index22, load25, load28, index28, len28, load30, store30, bs31, app31, call31, r31_0, r31_1, r31_2, r31_3, r31_4, r31_5, r31_6, r31_7, r31_8, r31_9, r31_10, r31_12, p31, load_pb, hN2, fldN, fld_p, Option.bind_some, Nat.add_zero, Nat.zero_add, bsl1]
      exact ⟨⟨.inr ⟨1, rfl, .inl rfl⟩, .inr (.inl ⟨_, _, rfl⟩)⟩, hb2⟩
    | false =>
    simp only [SXa, reduceCtorEq, Nat.reduceEqDiff, Nat.reduceAdd, Nat.reduceSub, Nat.reduceMul, Nat.reduceBEq, Int.reduceLT, Int.reduceLE, Int.reduceToNat, Int.reduceBEq, Int.reduceBNe, reduceIte, load3, load9, load22, index22, load25, load28, index28, len28, load30, store30, bs31, app31, call31, r31_0, r31_1, r31_2, r31_3, r31_4, r31_5, r31_6, r31_7, r31_8, r31_9, r31_10, r31_12, p31, load_pb, hN2, fldN, fld_p, Option.bind_some, Nat.add_zero, Nat.zero_add]
    cases c2 : (t.nodes[a].kind == 26) with
    | false =>
      simp only [SXa, reduceCtorEq, Nat.reduceEqDiff, Nat.reduceAdd, Nat.reduceSub, Nat.reduceMul, Nat.reduceBEq, Int.reduceLT, Int.reduceLE, Int.reduceToNat, Int.reduceBEq, Int.reduceBNe, reduceIte, load3, load9, load22, index22, load25, load28, index28, len28, load30, store30, bs31, app31, call31, r31_0, r31_1, r31_2, r31_3, r31_4, r31_5, r31_6, r31_7, r31_8, r31_9, r31_10, r31_12, p31]
      exact ⟨⟨OwnV.nil' _ _ _, .inl rfl⟩, hb2⟩
    | true =>
    simp only [SXa, reduceCtorEq, Nat.reduceEqDiff, Nat.reduceAdd, Nat.reduceSub, Nat.reduceMul, Nat.reduceBEq, Int.reduceLT, Int.reduceLE, Int.reduceToNat, Int.reduceBEq, Int.reduceBNe, reduceIte, load3, load9, load22, index22, load25, load28, index28, len28, load30, store30, bs31, app31, call31, r31_0, r31_1, r31_2, r31_3, r31_4, r31_5, r31_6, r31_7, r31_8, r31_9, r31_10, r31_12, p31, load_pb, hN2, fldN, fld_p, Option.bind_some, Nat.add_zero, Nat.zero_add, lenK]
    refine e_loop (fun tm S' N => ∃ (i q : Nat) (X : AV) (ws : List ByteArray), i ≤ t.nodes[a].kids.length ∧ N = t.nodes[a].kids.length - i ∧ kidsW (walkF t.nodes t.types d) pat (t.nodes[a].kind == 11) (t.nodes[a].kids.drop i) i q = some z ∧ q ≤ t.nodes.length ∧ ws.length ≤ q ∧
      ws ++ ((t.nodes[a].kids.drop i).flatMap fun k => bindsF t.nodes f k.toNat) = (t.nodes[a].kids.flatMap fun k => bindsF t.nodes f k.toNat) ∧ OwnV S' 9 1 X (strsA ws) ∧ Newish S X ∧
      S'.obj S.no = some [nx, tx] ∧ Grow S S' nilV ∧ S.no < S'.no ∧ getT tm 2 = .ptr S.no 0 ∧ getT tm 6 = X ∧ getT tm 24 = (kidsA t.nodes[a]) ∧ getT tm 25 = .sc (.int .i64 (t.nodes[a].kids.length : Nat)) ∧ getT tm 26 = .sc (.int .i64 (i : Int))) t.nodes[a].kids.length
      ⟨0, a + 1, nilV, [], by omega, by omega, by rw [List.drop_zero]; exact hw, by omega, by simp, by simp, OwnV.nil' _ _ _, .inl rfl, hT2, hb2, by omega, by simp [getT_setD]⟩ ?_
    rintro tm S3 N ⟨i, q, X, ws, hi, rfl, hq, hqn, hwl, hfl, hX, hNw, hT3, hb3, hn3, t2, t6, t24, t25, t26⟩
    have hln := ht.ln
    by_cases hit : i < t.nodes[a].kids.length
    case neg =>
      have hie : i = t.nodes[a].kids.length := by omega
      rw [hie, List.drop_length] at hfl
      simp only [List.flatMap_nil, List.append_nil] at hfl
      simp only [SXa, reduceCtorEq, Nat.reduceEqDiff, Nat.reduceAdd, Nat.reduceSub, Nat.reduceMul, Nat.reduceBEq, Int.reduceLT, Int.reduceLE, Int.reduceToNat, Int.reduceBEq, Int.reduceBNe, reduceIte, load3, load9, load22, index22, load25, load28, index28, len28, load30, store30, bs31, app31, call31, b31_11, r31_0, r31_1, r31_2, r31_3, r31_4, r31_5, r31_6, r31_7, r31_8, r31_9, r31_10, r31_12, p31, t2, t6, t24, t25, t26, dec_nlt hit]
      rw [← hfl]
      exact ⟨⟨hX, hNw⟩, hb3⟩
    case pos =>
    have wi := wrapK hit (by omega)
    rw [kidsW_drop _ _ _ hit] at hq
    cases c6 : (t.nodes[a].kids[i] == ((q : Nat) : Int)) with
    | false => rw [c6] at hq; cases hq
    | true =>
    rw [c6, cond_true] at hq
    have hk : t.nodes[a].kids[i] = ((q : Nat) : Int) := by simpa using c6
    cases hw2 : walkF t.nodes t.types d (pat || (t.nodes[a].kind == 11 && armF ((i : Nat) : Int))) q with
    | none => rw [hw2] at hq; cases hq
    | some q1 =>
    rw [hw2] at hq
    have hbq := walk_bd _ _ _ _ _ _ hw2
    have hlq := binds_len _ _ d f (by omega) _ _ _ hw2
    obtain ⟨r4, S4, e4, ⟨hY, _⟩, g4⟩ := binds_ok t nx tx ht d f (by omega) _ q q1 hw2 S3 hb3.fresh
    have hT4 := g4.objs hT3 hn3
    have hb4 := hb3.two g4
    have hn4 := Nat.lt_of_lt_of_le hn3 g4.no
    obtain ⟨Z, S5, ap, hZ, hNZ, hb5, no5, ob5, _⟩ := app_strs (hX.keep g4) hNw hb4 hY.is (by omega)
    rw [List.drop_eq_getElem_cons hit, List.flatMap_cons, hk, Int.toNat_natCast, ← List.append_assoc] at hfl
    simp only [SXa, reduceCtorEq, Nat.reduceEqDiff, Nat.reduceAdd, Nat.reduceSub, Nat.reduceMul, Nat.reduceBEq, Int.reduceLT, Int.reduceLE, Int.reduceToNat, Int.reduceBEq, Int.reduceBNe, reduceIte, load3, load9, load22, index22, load25, load28, index28, len28, load30, store30, bs31, app31, call31, b31_11, r31_0, r31_1, r31_2, r31_3, r31_4, r31_5, r31_6, r31_7, r31_8, r31_9, r31_10, r31_12, p31, t2, t6, t24, t25, t26, dec_lt hit, idxI hit, hk, load_pb, hT3, Option.bind_some, Nat.zero_add, Nat.le_refl]
    refine callK_of e4 ?_
    simp only [SXa, reduceCtorEq, Nat.reduceEqDiff, Nat.reduceAdd, Nat.reduceSub, Nat.reduceMul, Nat.reduceBEq, Int.reduceLT, Int.reduceLE, Int.reduceToNat, Int.reduceBEq, Int.reduceBNe, reduceIte, load3, load9, load22, index22, load25, load28, index28, len28, load30, store30, bs31, app31, call31, r31_0, r31_1, r31_2, r31_3, r31_4, r31_5, r31_6, r31_7, r31_8, r31_9, r31_10, r31_12, p31, t2, t6, t24, t25, t26, wi, ap]
    exact ⟨t.nodes[a].kids.length - (i + 1), by omega, i + 1, q1, Z, ws ++ bindsF t.nodes f q, by omega, rfl, hq, hbq.2, by rw [List.length_append]; omega, hfl, hZ, hNZ, by rw [ob5]; exact hT4, hb5, by rw [no5]; exact hn4, by simp [t2, t24, t25]⟩
end Go.Proofs.YtmmnkemcplgebaaGreatDoor
end
