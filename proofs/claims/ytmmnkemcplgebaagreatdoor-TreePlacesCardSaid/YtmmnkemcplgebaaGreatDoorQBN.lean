/-
  Trees: the walk of Show.
  Trees: what is told of them does not look at where their nodes stand.
  Trees: the law TreePlaces.
-/
import Derived.Test.YtmmnkemcplgebaaGreatDoorQBM
import Derived.Test.YtmmnkemcplgebaaGreatDoorQBH
section
section
set_option linter.unusedSimpArgs false
set_option linter.unusedVariables false
set_option maxRecDepth 100000
namespace Go.Proofs.YtmmnkemcplgebaaGreatDoor
open Go.Abs
theorem born_shp_ne (S : St) (e : TypeId) (cs : List AV) {l : Nat} (h : l ≠ S.no) : (S.born e cs).shp.get l = S.shp.get l := by
 simp [St.born, St.bearNext, St.bear, PM.get_set, h]
theorem put_shp (S : St) (l : Nat) (o : AObj) : (S.put l o).shp = S.shp := rfl
def zD : List AV := [.sc (.string ⟨#[]⟩), .sc (.slice none 0 0)]
def outF (ds : List DeclV) : List UInt8 := ds.flatMap fun d => (declF d).data.toList
theorem outF_take {ds : List DeclV} {i : Nat} (h : i < ds.length) : outF (ds.take i) ++ (declF ds[i]).data.toList = outF (ds.take (i + 1)) := by
 rw [List.take_succ_eq_append_getElem h, outF, outF, List.flatMap_append]
 simp
theorem outF_le {ds : List DeclV} (h : ∀ d ∈ ds, LightD d) : (outF ds).length ≤ 2300 * ds.length := by
 induction ds with
 | nil => simp [outF]
 | cons d r ih =>
  have h1 := ih fun d hd => h d (List.mem_cons_of_mem _ hd)
  have h2 := declF_le (h d (List.mem_cons_self ..))
  have h3 : (declF d).data.toList.length = (declF d).size := by rw [Array.length_toList]; rfl
  simp only [outF, List.flatMap_cons, List.length_append, List.length_cons] at h1 ⊢
  omega
theorem number_i64 {ds : List DeclV} {x : NodeV} (h : aloneF ds x = true) : -9223372036854775808 ≤ x.n ∧ x.n ≤ 9223372036854775807 := by
 unfold aloneF at h
 simp only [cond_eq_ite] at h
 split at h
 · cases h
 · rename_i h1
   simp only [Bool.or_eq_true, decide_eq_true_eq, not_or, Bool.not_eq_true', Bool.not_eq_false] at h1
   obtain ⟨⟨_, h2⟩, _⟩ := h1
   unfold numberF at h2
   simp only [cond_eq_ite] at h2
   split at h2
   · simp only [Bool.and_eq_true, decide_eq_true_eq] at h2; omega
   · split at h2
     · simp only [Bool.or_eq_true, beq_iff_eq] at h2; omega
     · simp only [beq_iff_eq] at h2; omega
theorem good_show {t : TreeV} (hl : Light t) (h : goodF t = true) : ShowOk t := by
 obtain ⟨hw, _⟩ := good_walk h
 refine ⟨fun x hx => ?_, by have := hl.ln; omega, fun x hx => by have := (hl.ln2 x hx).2.2; omega⟩
 obtain ⟨h1, h2, _⟩ := hl.ln2 x hx
 obtain ⟨i, hi, rfl⟩ := List.getElem_of_mem hx
 obtain ⟨d, p, z, _, k⟩ := walk_sub _ _ _ _ _ _ hw i (Nat.zero_le _) hi
 refine ⟨h1, h2, ?_⟩
 cases d with
 | zero => cases k
 | succ d => exact number_i64 (walk_alone k hi)
set_option maxHeartbeats 16000000 in
theorem Show_ans (t : TreeV) (nx tx : AV) (ht : TreeIs nx tx t) (ho : goodF t = true → ShowOk t) (hd4 : t.types.length ≤ 100) (hd : ∀ d ∈ t.types, LightD d) : Ans E 13 [.agg [nx, tx]] (.sc (.string (ShowF t))) := ans_of fun S hS => by
 refine ev13 rfl ?_
 have hG := (Grow.refl hS nilV).born 25 [nx, tx]
 have hT : (S.born 25 [nx, tx]).obj S.no = some [nx, tx] := by simp [born_obj]
 have hn : S.no < (S.born 25 [nx, tx]).no := Nat.lt_succ_self _
 simp only [SXa, reduceCtorEq, Nat.reduceEqDiff, Nat.reduceAdd, load25, r13_0, r13_1, r13_2, r13_3, r13_4, r13_10, r13_11, p13, op_box, cells_agg]
 generalize S.born 25 [nx, tx] = S0 at hG hT hn
 simp only [SXa, reduceCtorEq, Nat.reduceEqDiff, Nat.reduceAdd, call9, load_pb, hT, Option.bind_some, Nat.zero_add, Nat.le_refl]
 refine callK_ans (good_ans t nx tx ht) hG (fun S1 g1 hG1 => ?_)
 have hT1 := g1.objs hT hn
 have hn1 := Nat.lt_of_lt_of_le hn g1.no
 cases hg : goodF t with
 | false =>
  simp only [SXa, reduceCtorEq, Nat.reduceEqDiff]
  exact ⟨by simp only [ShowF, hg, cond_false], hG1⟩
 | true =>
 obtain ⟨hw, _⟩ := good_walk hg
 have ho := ho hg
 have hG2 := hG1.born 76 [.sc (.pointer none), .sc (.slice none 0 0)]
 have hT2 : (S1.born 76 [.sc (.pointer none), .sc (.slice none 0 0)]).obj S.no = some [nx, tx] := by
  have : S.no ≠ S1.no := by omega
  simp [born_obj, this, hT1]
 have hB2 : Bld S (S1.born 76 [.sc (.pointer none), .sc (.slice none 0 0)]) S1.no [] := ⟨Nat.lt_succ_self _, born_shp _ _ _, .sc (.pointer none), nilV, by simp [born_obj], .inl rfl, .inl ⟨rfl, rfl⟩, .inl rfl⟩
 simp only [SXa, reduceCtorEq, Nat.reduceEqDiff, allocB]
 generalize S1.born 76 [.sc (.pointer none), .sc (.slice none 0 0)] = S2 at hG2 hT2 hB2
 simp only [SXa, reduceCtorEq, Nat.reduceEqDiff, load23, len23, load_pb, hT2, fldT1, fld_p, Option.bind_some, Nat.zero_add, lenD ht.types]
 refine e_loop (fun tm S' N => ∃ (i : Nat), i ≤ t.types.length ∧ N = t.types.length - i ∧ Bld S S' S1.no (outF (t.types.take i)) ∧ S'.obj S.no = some [nx, tx] ∧ Grow S S' nilV ∧ getT tm 1 = .ptr S.no 0 ∧ getT tm 3 = .ptr S1.no 0 ∧ getT tm 10 = tx ∧ getT tm 11 = .sc (.int .i64 (t.types.length : Nat)) ∧ getT tm 12 = .sc (.int .i64 (i : Int))) t.types.length
  ⟨0, by omega, by omega, hB2, hT2, hG2, by simp [getT_setD]⟩ ?_
 clear hG2 hT2 hB2
 rintro tm S3 N ⟨i, hi, rfl, hB, hT3, hG3, t1, t3, t10, t11, t12⟩
 have hol := outF_le (ds := t.types.take i) fun d hd' => hd d (List.mem_of_mem_take hd')
 rw [List.length_take] at hol
 by_cases hit : i < t.types.length
 case pos =>
  have wi := wrapK hit (by omega)
  have hdi := hd _ (List.getElem_mem hit)
  have hsz := declF_le hdi
  have hb1 : S1.no ≠ S3.no := by have := hB.lt; omega
  have hG4 := (hG3.born 56 zD).put S3.no (.cells (declA t.types[i])) hG3.no
  have h4 : ((S3.born 56 zD).put S3.no (.cells (declA t.types[i]))).obj S3.no = some (declA t.types[i]) := by simp [put_obj]
  have gr4 : Grow S3 ((S3.born 56 zD).put S3.no (.cells (declA t.types[i]))) nilV := ((Grow.refl hG3.fresh nilV).born _ _).put S3.no _ (Nat.le_refl _)
  have hB4 : Bld S ((S3.born 56 zD).put S3.no (.cells (declA t.types[i]))) S1.no (outF (t.types.take i)) := hB.keep gr4 (by rw [put_shp, born_shp_ne _ _ _ hb1])
  simp only [declA, zD] at hG4 h4 gr4 hB4
  simp only [SXa, Nat.reduceEqDiff, Nat.reduceAdd, index23, load56, store56, b13_9, r13_5, r13_6, r13_7, r13_8, t10, t11, t12, dec_lt hit, idxD ht.types hit, declA, allocD, stD, born_obj, Option.bind_some, Nat.zero_add, Nat.le_refl, List.drop_nil]
  generalize ((S3.born 56 [.sc (.string ⟨#[]⟩), .sc (.slice none 0 0)]).put S3.no (.cells [.sc (.string t.types[i].name), (consV t.types[i])])) = S4 at hG4 h4 gr4 hB4
  obtain ⟨S5, e5, g5⟩ := declared_ans t.types[i] hdi S4 hG4.fresh
  have hB5 := hB4.after e5 g5
  have g35 := gr4.two g5
  obtain ⟨r6, S6, e6, hB6, hG6, no6, ob6⟩ := wstr_ok (declF t.types[i]) hB5 (hG3.two g35) hG1.no (by omega)
  rw [outF_take hit] at hB6
  have hT6 : S6.obj S.no = some [nx, tx] := by rw [ob6 _ (by omega)]; exact g35.objs hT3 (by have := hB.lt; omega)
  simp only [SXa, Nat.reduceEqDiff, Nat.reduceAdd, call39, load_pb, h4, Option.bind_some, Nat.zero_add, Nat.le_refl]
  refine callK_of e5 ?_
  simp only [SXa, Nat.reduceEqDiff, call38, t3]
  refine callK_of e6 ?_
  simp only [SXa, Nat.reduceEqDiff, t1, t3, t10, t11, t12, wi]
  exact ⟨t.types.length - (i + 1), by omega, i + 1, by omega, rfl, hB6, hT6, hG6, by simp []⟩
 case neg =>
 have hie : i = t.types.length := by omega
 rw [hie, List.take_length] at hB
 have hs : Ans E 40 [.agg [nx, tx], .sc (.int .i64 0)] (.sc (.string (showF t.nodes 60 0))) := show_ans t nx tx ht ho 60 60 (Nat.le_refl _) (by omega) false 0 _ hw
 have hss := show_le t.nodes t.types ho.nm 60 60 (Nat.le_refl _) _ _ _ hw
 have hln := ho.ln
 obtain ⟨S5, e5, g5⟩ := hs S3 hG3.fresh
 have hB5 := hB.after e5 g5
 have hol2 := outF_le hd
 obtain ⟨r6, S6, e6, hB6, hG6, no6, ob6⟩ := wstr_ok (showF t.nodes 60 0) hB5 (hG3.two g5) hG1.no (by omega)
 obtain ⟨r7, S7, e7, rfl, hG7⟩ := string_ok hB6 hG6 (by rw [List.length_append]; have h3 : (showF t.nodes 60 0).data.toList.length = (showF t.nodes 60 0).size := (by rw [Array.length_toList]; rfl); omega)
 simp only [SXa, Nat.reduceEqDiff, Nat.reduceAdd, load25, call40, b13_9, r13_5, r13_6, r13_7, r13_8, t1, t11, t12, dec_nlt hit, load_pb, hT3, Option.bind_some, Nat.zero_add, Nat.le_refl]
 refine callK_of e5 ?_
 simp only [SXa, Nat.reduceEqDiff, call38, t3]
 refine callK_of e6 ?_
 simp only [SXa, Nat.reduceEqDiff, call41, t3]
 refine callK_of e7 ?_
 simp only [SXa, Nat.reduceEqDiff]
 exact ⟨by simp only [ShowF, hg, cond_true, outF], hG7⟩
end Go.Proofs.YtmmnkemcplgebaaGreatDoor
end
end

section
section
set_option linter.unusedSimpArgs false
set_option linter.unusedVariables false
set_option maxRecDepth 100000
namespace Go.Proofs.YtmmnkemcplgebaaGreatDoor
open Go.Abs
def reN (f g : Int) (x : NodeV) : NodeV := { x with frm := f, to := g }
def reT (f g : Int) (t : TreeV) : TreeV := ⟨t.nodes.map (reN f g), t.types⟩
section
variable (f g : Int)
theorem re_get (ns : List NodeV) (a : Nat) : (ns.map (reN f g))[a]? = (ns[a]?).map (reN f g) := List.getElem?_map ..
theorem re_walk (ns : List NodeV) (ds : List DeclV) : ∀ d, walkF (ns.map (reN f g)) ds d = walkF ns ds d
 | 0 => rfl
 | d + 1 => by
  funext pat a
  simp only [walkF, re_get, re_walk ns ds d]
  cases ns[a]? <;> rfl
theorem re_binds (ns : List NodeV) : ∀ n, bindsF (ns.map (reN f g)) n = bindsF ns n
 | 0 => rfl
 | n + 1 => by
  funext a
  simp only [bindsF, re_get, re_binds ns n]
  cases ns[a]? <;> rfl
theorem re_bad (ns : List NodeV) (i : Nat) : badP (ns.map (reN f g)) i = badP ns i := by
 simp only [badP, re_get, re_binds]
 cases ns[i]? <;> rfl
theorem re_pats (ns : List NodeV) : ∀ m k, patsOk (ns.map (reN f g)) m k = patsOk ns m k
 | 0, _ => rfl
 | m + 1, k => by simp only [patsOk, re_bad, re_pats ns m]
theorem re_good (t : TreeV) : goodF (reT f g t) = goodF t := by
 simp only [goodF, reT, List.length_map, re_walk, re_pats]
theorem re_stops : ∀ (ns : List NodeV) (k : Nat), stopsF (ns.map (reN f g)) k = stopsF ns k
 | [], _ => rfl
 | x :: r, k => by
  simp only [List.map_cons, stopsF, re_stops r]
  rfl
theorem re_depth (ns : List NodeV) : ∀ n a, depthF (ns.map (reN f g)) n a = depthF ns n a
 | 0, _ => rfl
 | n + 1, a => by
  simp only [depthF, re_get, re_depth ns n]
  cases ns[a]? <;> rfl
theorem re_has (t : TreeV) (i : Int) : hasAt (reT f g t) i = hasAt t i := by
 simp only [hasAt, re_good]
 simp only [reT, List.length_map]
theorem re_Depth (t : TreeV) (i : Int) : DepthF (reT f g t) i = DepthF t i := by
 simp only [DepthF, re_has]
 simp only [reT, re_depth]
theorem re_bound (ns : List NodeV) (x : NodeV) : boundF (ns.map (reN f g)) (reN f g x) = boundF ns x := by
 funext i
 simp only [boundF, re_binds]
 rfl
theorem re_free (ns : List NodeV) : ∀ n, freeF (ns.map (reN f g)) n = freeF ns n
 | 0 => rfl
 | n + 1 => by
  funext a
  simp only [freeF, re_get, re_free ns n]
  cases ns[a]? with
  | none => rfl
  | some x => simp only [Option.map_some, re_bound]; rfl
theorem re_Free (t : TreeV) (i : Int) : FreeF (reT f g t) i = FreeF t i := by
 simp only [FreeF, re_has]
 simp only [reT, re_free]
theorem re_bare (ns : List NodeV) (x : NodeV) : bareF (ns.map (reN f g)) (reN f g x) = bareF ns x := by
 simp only [bareF, re_get]
 cases h : ns[((reN f g x).kids.getD 0 0).toNat]? with
 | none =>
  have h' : ns[(x.kids.getD 0 0).toNat]? = none := h
  rw [h']; rfl
 | some y =>
  have h' : ns[(x.kids.getD 0 0).toNat]? = some y := h
  rw [h']; rfl
theorem re_showN (ns : List NodeV) (x : NodeV) (k : List ByteArray) : showN (ns.map (reN f g)) (reN f g x) k = showN ns x k := by
 simp only [showN, brk, re_bare]
 rfl
theorem re_show (ns : List NodeV) : ∀ n a, showF (ns.map (reN f g)) n a = showF ns n a
 | 0, _ => rfl
 | n + 1, a => by
  simp only [showF, re_get, re_show ns n]
  cases ns[a]? with
  | none => rfl
  | some x => simp only [Option.map_some, re_showN]; rfl
theorem re_Show (t : TreeV) : ShowF (reT f g t) = ShowF t := by
 simp only [ShowF, re_good]
 simp only [reT, re_show]
theorem re_light {t : TreeV} (h : Light t) : Light (reT f g t) :=
 ⟨by simp only [reT, List.length_map]; exact h.ln, h.lt, fun x hx => by
  obtain ⟨y, hy, rfl⟩ := List.mem_map.1 hx
  exact h.ln2 y hy, h.lt2⟩
end
set_option maxHeartbeats 4000000 in
theorem texts_same (l : List ByteArray) (X Y : AV) (hX : IsV 1 X (strsA l)) (hY : IsV 1 Y (strsA l)) (hl : l.length ≤ 2 ^ 40) : Ans E 14 [X, Y] (.sc (.bool true)) := ans_of fun S hS => by
 refine ev14 rfl ?_
 have hne : (((l.length : Nat) : Int) != ((l.length : Nat) : Int)) = false := by simp
 simp only [SXa, reduceCtorEq, Nat.reduceEqDiff, Nat.reduceAdd, len31, r14_0, r14_1, r14_2, r14_3, r14_9, p14, lenS hX, lenS hY, hne]
 refine e_loop (fun tm S' N => ∃ (i : Nat), i ≤ l.length ∧ N = l.length - i ∧ Grow S S' nilV ∧ getT tm 0 = X ∧ getT tm 1 = Y ∧ getT tm 5 = .sc (.int .i64 (i : Int))) l.length
  ⟨0, by omega, by omega, Grow.refl hS _, by simp [getT_setD]⟩ ?_
 rintro tm S1 N ⟨i, hi, rfl, hG, t0, t1, t5⟩
 by_cases hit : i < l.length
 case neg =>
  simp only [SXa, reduceCtorEq, Nat.reduceEqDiff, len31, b14_8, r14_4, r14_5, r14_6, r14_7, t0, t5, lenS hX, dec_nlt hit]
  exact hG
 case pos =>
  have wi := wrapK hit (by omega)
  have gr := Grow.raise hG.fresh 9 nilV
  have hn2 : (l[i].toList != l[i].toList) = false := by simp
  simp only [SXa, reduceCtorEq, Nat.reduceEqDiff, load9, index31, len31, b14_8, r14_4, r14_5, r14_6, r14_7, t0, t1, t5, lenS hX, dec_lt hit, idxS hX hit, idxS hY hit, b_nestr, hn2, wi]
  exact ⟨l.length - (i + 1), by omega, i + 1, by omega, rfl, hG.two gr, by simp []⟩
theorem lenI1 {x : AV} {l : List Int} (h : IsV 1 x (intsA l)) (S : St) : lenV x S = some (.sc (.int .i64 (l.length : Nat)), S) := by rw [h.len]; simp [intsA]
theorem idxI1 {x : AV} {l : List Int} (h : IsV 1 x (intsA l)) {k : Nat} (hk : k < l.length) (S : St) : idxV 1 x (some (k : Int)) S = some (.eptr [.sc (.int .i64 l[k])] 0, S) := h.idx (v := .sc (.int .i64 l[k])) (by simp [intsA, hk]) rfl S
set_option maxHeartbeats 4000000 in
theorem ints_same (l : List Int) (X Y : AV) (hX : IsV 1 X (intsA l)) (hY : IsV 1 Y (intsA l)) (hl : l.length ≤ 2 ^ 40) : Ans E 15 [X, Y] (.sc (.bool true)) := ans_of fun S hS => by
 refine ev15 rfl ?_
 have hne : (((l.length : Nat) : Int) != ((l.length : Nat) : Int)) = false := by simp
 simp only [SXa, reduceCtorEq, Nat.reduceEqDiff, Nat.reduceAdd, len28, r15_0, r15_1, r15_2, r15_3, r15_9, p15, lenI1 hX, lenI1 hY, hne]
 refine e_loop (fun tm S' N => ∃ (i : Nat), i ≤ l.length ∧ N = l.length - i ∧ Grow S S' nilV ∧ getT tm 0 = X ∧ getT tm 1 = Y ∧ getT tm 5 = .sc (.int .i64 (i : Int))) l.length
  ⟨0, by omega, by omega, Grow.refl hS _, by simp [getT_setD]⟩ ?_
 rintro tm S1 N ⟨i, hi, rfl, hG, t0, t1, t5⟩
 by_cases hit : i < l.length
 case neg =>
  simp only [SXa, reduceCtorEq, Nat.reduceEqDiff, len28, b15_8, r15_4, r15_5, r15_6, r15_7, t0, t5, lenI1 hX, dec_nlt hit]
  exact hG
 case pos =>
  have wi := wrapK hit (by omega)
  have gr := Grow.raise hG.fresh 9 nilV
  have hn2 : (l[i] != l[i]) = false := by simp
  simp only [SXa, reduceCtorEq, Nat.reduceEqDiff, load3, index28, len28, b15_8, r15_4, r15_5, r15_6, r15_7, t0, t1, t5, lenI1 hX, dec_lt hit, idxI1 hX hit, idxI1 hY hit, hn2, wi]
  exact ⟨l.length - (i + 1), by omega, i + 1, by omega, rfl, hG.two gr, by simp []⟩
end Go.Proofs.YtmmnkemcplgebaaGreatDoor
end
end

section
section
set_option linter.unusedSimpArgs false
set_option linter.unusedVariables false
set_option maxRecDepth 100000
namespace Go.Proofs.YtmmnkemcplgebaaGreatDoor
open Go.Abs
theorem bldT1 {tx : AV} {ys : List AV} (h : IsV 2 tx ys) (S : St) : buildA E 25 [(1, tx)] S = some (.agg [nilV, tx], S) := by
 rcases h with ⟨rfl, _⟩ | ⟨i, rfl⟩ <;> kernel_rfl
theorem allocT {tm : PM AV} {S : St} {d : Option Tmp} : opV E tm d (.alloc 25) S = some (.ptr S.no 0, S.born 25 [nilV, nilV]) := alloc_of (by kernel_rfl)
theorem isv_ok {sz : Nat} {x : AV} {xs : List AV} (h : IsV sz x xs) : okCell x = true := by
 rcases h with ⟨rfl, _⟩ | ⟨i, rfl⟩ <;> rfl
theorem stT {a b : AV} {n m : Nat} {xs ys : List AV} (h1 : IsV n a xs) (h2 : IsV m b ys) (l : Nat) (S : St) : storeC 2 (.ptr l 0) (.agg [a, b]) S = (S.obj l).bind fun cs => if 2 ≤ cs.length then some (passed, S.put l (.cells (a :: b :: cs.drop 2))) else none :=
 store_agg 2 l _ (by simp only [List.all_cons, List.all_nil, isv_ok h1, isv_ok h2]; rfl)
theorem bsN1 (x : NodeV) (S : St) : buildSliceA E 22 1 [(0, .agg (nodeA x))] S = some (.vec 1 7 [.agg (nodeA x)], S) := by
 obtain ⟨k, n, nm, p, ko, f, t⟩ := x
 cases ko <;> kernel_rfl
theorem nodes1 (x : NodeV) : IsV 7 (.vec 1 7 [.agg (nodeA x)]) (nodesA [x]) := IsV.vec 1 7 _
theorem allSz_node (x : NodeV) : allSz 7 (nodesA [x]) = true := by
 obtain ⟨k, n, nm, p, ko, f, t⟩ := x
 cases ko <;> rfl
theorem undBool : E.P.underlying 4 = some .bool := by kernel_rfl
theorem isv_cells {sz : Nat} {x : AV} {xs : List AV} (h : IsV sz x xs) : cellsOf x = some [x] := by
 rcases h with ⟨rfl, _⟩ | ⟨i, rfl⟩ <;> rfl
theorem FreeF_few (t : TreeV) (i : Int) : (FreeF t i).length ≤ 2 ^ 40 := by
 unfold FreeF
 cases h : hasAt t i with
 | false => simp
 | true =>
  obtain ⟨d, p, z, k1, k2, k3, k4, k5⟩ := at_walk h
  have h1 := freeF_len _ _ d 60 k1 p _ z k2
  have h2 := walk_bd _ _ _ _ _ _ k2
  simp only [cond_true, (sortB_perm _).length_eq]
  omega
set_option maxHeartbeats 64000000 in
theorem law_places (t : TreeV) (nx tx : AV) (ht : RawIs nx tx t) (f g a : Int) (S : St) (hS : S.Fresh) : ∃ r S', EvA E 5 [.agg [nx, tx], .sc (.int .i64 f), .sc (.int .i64 g), .sc (.int .i64 a)] S r S' ∧ r = .sc (.bool true) := by
 refine ev5 rfl ?_
 have hG := (Grow.refl hS nilV).born 25 [nx, tx]
 have hT : (S.born 25 [nx, tx]).obj S.no = some [nx, tx] := by simp [born_obj]
 have hn : S.no < (S.born 25 [nx, tx]).no := Nat.lt_succ_self _
 simp only [SXa, reduceCtorEq, Nat.reduceAdd, call7, r5_0, r5_1, r5_2, r5_3, r5_4, r5_5, r5_6, p5, op_box, cells_agg]
 generalize S.born 25 [nx, tx] = S0 at hG hT hn
 refine callK_ans awake_ans hG (fun S1 g1 hG1 => ?_)
 have hT1 := g1.objs hT hn
 have hn1 := Nat.lt_of_lt_of_le hn g1.no
 simp only [SXa, reduceCtorEq, Nat.reduceEqDiff, Nat.reduceAdd, load25, call8, load_pb, hT1, Option.bind_some, Nat.zero_add, Nat.le_refl]
 obtain ⟨r2, S2, e2, ⟨b, rfl, hb⟩, g2⟩ := heavy_ok t nx tx ht S1 hG1.fresh
 have hG2 := hG1.two g2
 have hT2 := g2.objs hT1 hn1
 have hn2 := Nat.lt_of_lt_of_le hn1 g2.no
 refine callK_of e2 ?_
 cases b with
 | true => simp only [SXa, reduceCtorEq, Nat.reduceEqDiff]
 | false =>
 have hl := hb rfl
 have hti := ht.light hl
 have hln := hl.ln
 have hG3 := (hG2.born 25 [nilV, nilV]).put S2.no (.cells [nilV, tx]) hG2.no
 have hU3 : ((S2.born 25 [nilV, nilV]).put S2.no (.cells [nilV, tx])).obj S2.no = some [nilV, tx] := by simp [put_obj]
 have hT3 : ((S2.born 25 [nilV, nilV]).put S2.no (.cells [nilV, tx])).obj S.no = some [nx, tx] := by
  have : S.no ≠ S2.no := by omega
  simp [put_obj, born_obj, this, hT2]
 have hn3 : S2.no < ((S2.born 25 [nilV, nilV]).put S2.no (.cells [nilV, tx])).no := Nat.lt_succ_self _
 simp only [SXa, reduceCtorEq, Nat.reduceEqDiff, Nat.reduceAdd, load23, store25, load_pb, hT2, fldT1, fld_p, Option.bind_some, Nat.zero_add, Nat.le_refl, op_build, bldT1 ht.types, allocT, stT (IsV.nil 7) ht.types, born_obj, List.drop_nil]
 generalize (S2.born 25 [nilV, nilV]).put S2.no (.cells [nilV, tx]) = S3 at hG3 hU3 hT3 hn3
 refine e_loop (fun tm S' N => ∃ (i : Nat) (Y : AV), i ≤ t.nodes.length ∧ N = t.nodes.length - i ∧ OwnV S' 30 7 Y (nodesA ((t.nodes.take i).map (reN f g))) ∧ Newish S Y ∧ S'.obj S.no = some [nx, tx] ∧ S'.obj S2.no = some [Y, tx] ∧ Grow S S' nilV ∧ S2.no < S'.no ∧
  getT tm 1 = .sc (.int .i64 f) ∧ getT tm 2 = .sc (.int .i64 g) ∧ getT tm 3 = .sc (.int .i64 a) ∧ getT tm 4 = .ptr S.no 0 ∧ getT tm 9 = .ptr S2.no 0 ∧ getT tm 10 = .sc (.int .i64 (i : Int))) t.nodes.length
  ⟨0, nilV, by omega, by omega, OwnV.nil' _ _ _, .inl rfl, hT3, hU3, hG3, hn3, by simp [getT_setD]⟩ ?_
 clear hG3 hU3 hT3 hn3
 rintro tm S4 N ⟨i, Y, hi, rfl, hY, hN, hT4, hU4, hG4, hn4, t1, t2, t3, t4, t9, t10⟩
 by_cases hit : i < t.nodes.length
 case pos =>
  have wi := wrapK hit (by omega)
  have hSU : S.no ≠ S2.no := by omega
  have hG5 := (hG4.born 30 zN).put S4.no (.cells (nodeA t.nodes[i])) hG4.no
  have gr5 : Grow S4 ((S4.born 30 zN).put S4.no (.cells (nodeA t.nodes[i]))) nilV := ((Grow.refl hG4.fresh nilV).born _ _).put S4.no _ (Nat.le_refl _)
  have hN5 : ((S4.born 30 zN).put S4.no (.cells (nodeA t.nodes[i]))).obj S4.no = some (nodeA t.nodes[i]) := by simp [put_obj]
  have hn5 : S4.no < ((S4.born 30 zN).put S4.no (.cells (nodeA t.nodes[i]))).no := Nat.lt_succ_self _
  simp only [SXa, Nat.reduceEqDiff, load22, index22, len22, load30, store30, b5_12, r5_7, r5_8, r5_9, r5_10, r5_11, t1, t2, t4, t10, load_pb, hT4, fldT0, fld_p, Option.bind_some, Nat.add_zero, Nat.zero_add, lenN ht.nodes, dec_lt hit, idxN ht.nodes hit, nodeA_len, nodeA_take, allocN, stN, born_obj, zN_len, zN_drop, List.append_nil, Nat.le_refl]
  generalize (S4.born 30 zN).put S4.no (.cells (nodeA t.nodes[i])) = S5 at hG5 gr5 hN5 hn5
  have hT5 := gr5.objs hT4 (by omega)
  have hU5 := gr5.objs hU4 hn4
  have st5 : storeC 1 (.ptr S4.no 5) (.sc (.int .i64 f)) S5 = some (passed, S5.put S4.no (.cells (nodeA { t.nodes[i] with frm := f }))) := by
   rw [store_int, hN5]; rfl
  have hG6 := hG5.put S4.no (.cells (nodeA { t.nodes[i] with frm := f })) hG4.no
  have hN6 : (S5.put S4.no (.cells (nodeA { t.nodes[i] with frm := f }))).obj S4.no = some (nodeA { t.nodes[i] with frm := f }) := by rw [put_obj, if_pos rfl]
  have hT6 : (S5.put S4.no (.cells (nodeA { t.nodes[i] with frm := f }))).obj S.no = some [nx, tx] := by rw [put_obj, if_neg (by omega)]; exact hT5
  have hU6 : (S5.put S4.no (.cells (nodeA { t.nodes[i] with frm := f }))).obj S2.no = some [Y, tx] := by rw [put_obj, if_neg (by omega)]; exact hU5
  have gr6 := gr5.put S4.no (.cells (nodeA { t.nodes[i] with frm := f })) (Nat.le_refl _)
  simp only [SXa, Nat.reduceEqDiff, store3, fldN, fld_p, Nat.zero_add, st5]
  generalize S5.put S4.no (.cells (nodeA { t.nodes[i] with frm := f })) = S6 at hG6 hN6 hT6 hU6 gr6
  have st7 : storeC 1 (.ptr S4.no 6) (.sc (.int .i64 g)) S6 = some (passed, S6.put S4.no (.cells (nodeA (reN f g t.nodes[i])))) := by
   rw [store_int, hN6]; rfl
  have hG7 := hG6.put S4.no (.cells (nodeA (reN f g t.nodes[i]))) hG4.no
  have hN7 : (S6.put S4.no (.cells (nodeA (reN f g t.nodes[i])))).obj S4.no = some (nodeA (reN f g t.nodes[i])) := by rw [put_obj, if_pos rfl]
  have hT7 : (S6.put S4.no (.cells (nodeA (reN f g t.nodes[i])))).obj S.no = some [nx, tx] := by rw [put_obj, if_neg (by omega)]; exact hT6
  have hU7 : (S6.put S4.no (.cells (nodeA (reN f g t.nodes[i])))).obj S2.no = some [Y, tx] := by rw [put_obj, if_neg (by omega)]; exact hU6
  have gr7 := gr6.put S4.no (.cells (nodeA (reN f g t.nodes[i]))) (Nat.le_refl _)
  simp only [SXa, st7]
  generalize S6.put S4.no (.cells (nodeA (reN f g t.nodes[i]))) = S7 at hG7 hN7 hT7 hU7 gr7
  have etk : (t.nodes.take i).map (reN f g) ++ [reN f g t.nodes[i]] = (t.nodes.take (i + 1)).map (reN f g) := by
   rw [List.take_succ_eq_append_getElem hit, List.map_append, List.map_cons, List.map_nil]
  obtain ⟨Z, S8, ap, hZ, hNZ, hG8, no8, ob8, g8⟩ := app_any el22 und22 (hY.keep gr7) hN hG7 (nodes1 (reN f g t.nodes[i])) (allSz_node _) (by simp only [nodesA, List.length_map, List.length_take, List.length_cons, List.length_nil]; omega)
  have eap : nodesA ((t.nodes.take i).map (reN f g)) ++ nodesA [reN f g t.nodes[i]] = nodesA ((t.nodes.take (i + 1)).map (reN f g)) := by rw [← etk]; simp [nodesA]
  rw [eap] at hZ
  have hU8 : S8.obj S2.no = some [Y, tx] := by rw [ob8]; exact hU7
  have hT8 : S8.obj S.no = some [nx, tx] := by rw [ob8]; exact hT7
  have hlt0 : 0 < [Y, tx].length := by simp
  have hG9 := hG8.put S2.no (.cells [Z, tx]) (by omega)
  have hU9 : (S8.put S2.no (.cells [Z, tx])).obj S2.no = some [Z, tx] := by rw [put_obj, if_pos rfl]
  have hT9 : (S8.put S2.no (.cells [Z, tx])).obj S.no = some [nx, tx] := by rw [put_obj, if_neg hSU]; exact hT8
  have hno8 : S2.no < S8.no := by rw [no8]; have := gr7.no; omega
  have hZ9 : OwnV (S8.put S2.no (.cells [Z, tx])) 30 7 Z (nodesA ((t.nodes.take (i + 1)).map (reN f g))) := hZ
  simp only [SXa, Nat.reduceEqDiff, Nat.reduceAdd, load22, store22, bs22, app22, load30, t1, t2, t3, t4, t9, t10, load_pb, hU7, hN7, fldT0, fld_p, Option.bind_some, Nat.add_zero, Nat.zero_add, Nat.le_refl, nodeA_len, nodeA_take, bsN1, ap, store_1 _ _ _ (isv_cells hZ.is) (isv_ok hZ.is), hU8, List.set_cons_zero, Nat.zero_lt_succ, wi]
  exact ⟨t.nodes.length - (i + 1), by omega, i + 1, Z, by omega, rfl, hZ9, hNZ, hT9, hU9, hG9, hno8, by simp []⟩
 case neg =>
 have hie : i = t.nodes.length := by omega
 rw [hie, List.take_length] at hY
 have hul := re_light f g hl
 have hur : RawIs Y tx (reT f g t) := ⟨hY.is, ht.types⟩
 have hui := hur.light hul
 have hnm : ∀ x ∈ t.nodes, x.name.size ≤ 60 := fun x hx => (hl.ln2 x hx).1
 have hnu : ∀ x ∈ (reT f g t).nodes, x.name.size ≤ 60 := fun x hx => (hul.ln2 x hx).1
 have hgood := re_good f g t
 have hshow := re_Show f g t
 have hfree := re_Free f g t a
 have hdep := re_Depth f g t a
 have hstop : (bif goodF (reT f g t) then stopsF (reT f g t).nodes 0 else []) = (bif goodF t then stopsF t.nodes 0 else []) := by rw [hgood]; simp only [reT, re_stops]
 simp only [SXa, Nat.reduceEqDiff, load22, len22, b5_12, r5_7, r5_8, r5_9, r5_10, r5_11, t4, t10, load_pb, hT4, fldT0, fld_p, Option.bind_some, Nat.add_zero, lenN ht.nodes, dec_nlt hit]
 refine e_drawC noX draw5_0 ?_
 have gr := Grow.raise hG4.fresh 38 nilV
 have hnT : S.no < S4.no := by omega
 simp only [SXa, Nat.reduceEqDiff, Nat.reduceAdd, load25, call9, r5_13, r5_14, t4, load_pb, raise_obj, hT4, Option.bind_some, Nat.zero_add, Nat.le_refl]
 refine callK_ans (good_ans t nx tx hti) gr (fun S5 g5 h5 => ?_)
 have hT5 := h5.objs hT4 hnT
 have hU5 := h5.objs hU4 hn4
 simp only [SXa, Nat.reduceEqDiff, Nat.reduceAdd, load25, call9, t9, load_pb, hU5, Option.bind_some, Nat.zero_add, Nat.le_refl]
 refine callK_ans (good_ans (reT f g t) Y tx hui) h5 (fun S6 g6 h6 => ?_)
 have hT6 := h6.objs hT4 hnT
 have hU6 := h6.objs hU4 hn4
 have q1 : (goodF t == goodF t) = true := by simp
 simp only [SXa, Nat.reduceEqDiff, Nat.reduceAdd, load25, call13, t4, load_pb, hT6, Option.bind_some, Nat.zero_add, Nat.le_refl, hgood, b_eqbool 4 undBool, q1]
 refine callK_ans (Show_ans t nx tx hti (good_show hl) (by have := hl.lt; omega) hl.lt2) h6 (fun S7 g7 h7 => ?_)
 have hT7 := h7.objs hT4 hnT
 have hU7 := h7.objs hU4 hn4
 simp only [SXa, Nat.reduceEqDiff, Nat.reduceAdd, load25, call13, t9, load_pb, hU7, Option.bind_some, Nat.zero_add, Nat.le_refl]
 refine callK_ans (Show_ans (reT f g t) Y tx hui (good_show hul) (by have := hl.lt; exact (by omega : t.types.length ≤ 100)) hul.lt2) h7 (fun S8 g8 h8 => ?_)
 have hT8 := h8.objs hT4 hnT
 have hU8 := h8.objs hU4 hn4
 have q2 : ((ShowF t).toList == (ShowF t).toList) = true := by simp
 simp only [SXa, Nat.reduceEqDiff, Nat.reduceAdd, load25, call10, t3, t4, load_pb, hT8, Option.bind_some, Nat.zero_add, Nat.le_refl, hshow, q2]
 obtain ⟨F1, S9, e9, hF1, g9⟩ := Free_ok t nx tx hti hnm a S8 h8.fresh
 have h9 := h8.two g9
 have hT9 := h9.objs hT4 hnT
 have hU9 := h9.objs hU4 hn4
 refine callK_of e9 ?_
 simp only [SXa, Nat.reduceEqDiff, Nat.reduceAdd, load25, call10, t3, t9, load_pb, hU9, Option.bind_some, Nat.zero_add, Nat.le_refl]
 obtain ⟨F2, S10, e10, hF2, g10⟩ := Free_ok (reT f g t) Y tx hui hnu a S9 h9.fresh
 have h10 := h9.two g10
 have hT10 := h10.objs hT4 hnT
 have hU10 := h10.objs hU4 hn4
 refine callK_of e10 ?_
 rw [hfree] at hF2
 simp only [SXa, Nat.reduceEqDiff, call14]
 refine callK_ans (texts_same _ F1 F2 hF1 hF2 (FreeF_few t a)) h10 (fun S11 g11 h11 => ?_)
 have hT11 := h11.objs hT4 hnT
 have hU11 := h11.objs hU4 hn4
 simp only [SXa, Nat.reduceEqDiff, Nat.reduceAdd, load25, call12, t4, load_pb, hT11, Option.bind_some, Nat.zero_add, Nat.le_refl]
 obtain ⟨P1, S12, e12, hP1, g12⟩ := stops_ok t nx tx hti S11 h11.fresh
 have h12 := h11.two g12
 have hT12 := h12.objs hT4 hnT
 have hU12 := h12.objs hU4 hn4
 refine callK_of e12 ?_
 simp only [SXa, Nat.reduceEqDiff, Nat.reduceAdd, load25, call12, t9, load_pb, hU12, Option.bind_some, Nat.zero_add, Nat.le_refl]
 obtain ⟨P2, S13, e13, hP2, g13⟩ := stops_ok (reT f g t) Y tx hui S12 h12.fresh
 have h13 := h12.two g13
 have hT13 := h13.objs hT4 hnT
 have hU13 := h13.objs hU4 hn4
 refine callK_of e13 ?_
 rw [hstop] at hP2
 simp only [SXa, Nat.reduceEqDiff, call15]
 refine callK_ans (ints_same _ P1 P2 hP1 hP2 (by have := stopsF_len t.nodes 0; cases goodF t <;> simp <;> omega)) h13 (fun S14 g14 h14 => ?_)
 have hT14 := h14.objs hT4 hnT
 have hU14 := h14.objs hU4 hn4
 simp only [SXa, Nat.reduceEqDiff, Nat.reduceAdd, load25, call11, t3, t4, load_pb, hT14, Option.bind_some, Nat.zero_add, Nat.le_refl]
 refine callK_ans (Depth_ans t nx tx hti a) h14 (fun S15 g15 h15 => ?_)
 have hT15 := h15.objs hT4 hnT
 have hU15 := h15.objs hU4 hn4
 simp only [SXa, Nat.reduceEqDiff, Nat.reduceAdd, load25, call11, t3, t9, load_pb, hU15, Option.bind_some, Nat.zero_add, Nat.le_refl, safe_cons, safe_nil, safe_grow hn4 h15, Bool.and_self]
 refine callK_ans (Depth_ans (reT f g t) Y tx hui a) h15 (fun S16 g16 h16 => ?_)
 have hT16 := h16.objs hT4 hnT
 have hU16 := h16.objs hU4 hn4
 have q3 : (((DepthF t a : Nat) : Int) == ((DepthF t a : Nat) : Int)) = true := by simp
 simp only [SXa, Nat.reduceEqDiff, hdep, q3]
end Go.Proofs.YtmmnkemcplgebaaGreatDoor
end
end
