/-
  Trees: the walks of declared and Show.
  Trees: what is free in a node (the walk of free).
  Trees: the walks of Depth and Free.
-/
import Derived.Test.YtmmnkemcplgebaaGreatDoorQBL
import Derived.Test.YtmmnkemcplgebaaGreatDoorQBK
import Derived.Test.YtmmnkemcplgebaaGreatDoorQBH
section
section
set_option linter.unusedSimpArgs false
set_option linter.unusedVariables false
set_option maxRecDepth 100000
namespace Go.Proofs.YtmmnkemcplgebaaGreatDoor
open Go.Abs
def LightD (d : DeclV) : Prop := d.cons.length ≤ 6 ∧ d.name.size ≤ 60 ∧ ∀ c ∈ d.cons, c.name.size ≤ 60 ∧ c.args.length ≤ 4 ∧ ∀ s ∈ c.args, s.size ≤ 60
theorem sumF_le {l : List ByteArray} {n : Nat} (h : ∀ s ∈ l, s.size ≤ n) : sumF l ≤ l.length * (n + 10) := by
 induction l with
 | nil => simp [sumF]
 | cons a r ih =>
  have h1 := ih fun s hs => h s (List.mem_cons_of_mem _ hs)
  have h2 := h a (List.mem_cons_self ..)
  rw [sumF_cons, List.length_cons, Nat.add_mul]
  omega
theorem conF_le {c : ConV} (h : c.name.size ≤ 60 ∧ c.args.length ≤ 4 ∧ ∀ s ∈ c.args, s.size ≤ 60) : sumF c.args ≤ 280 ∧ (conF c).size ≤ 350 := by
 obtain ⟨h1, h2, h3⟩ := h
 have h4 := sumF_le h3
 have h5 : c.args.length * (60 + 10) ≤ 4 * 70 := Nat.mul_le_mul h2 (Nat.le_refl _)
 refine ⟨by omega, ?_⟩
 unfold conF
 split
 · omega
 · rename_i a r e
   have hj := join_le (a :: r) (⟨#[44, 32]⟩ : ByteArray) (by decide)
   rw [← e] at hj ⊢
   simp only [ByteArray.size_append, sz_lit, List.length_cons, List.length_nil]
   omega
theorem consS_le {d : DeclV} (h : LightD d) : sumF (d.cons.map conF) ≤ 2160 := by
 have h1 := sumF_le (l := d.cons.map conF) (n := 350) (fun s hs => by
  obtain ⟨c, hc, rfl⟩ := List.mem_map.1 hs
  exact (conF_le (h.2.2 c hc)).2)
 rw [List.length_map] at h1
 have h2 : d.cons.length * (350 + 10) ≤ 6 * 360 := Nat.mul_le_mul h.1 (Nat.le_refl _)
 omega
theorem declF_le {d : DeclV} (h : LightD d) : (declF d).size ≤ 2300 := by
 have h1 := join_le (d.cons.map conF) (⟨#[32, 124, 32]⟩ : ByteArray) (by decide)
 have h2 := consS_le h
 have h3 := h.2.1
 simp only [declF, ByteArray.size_append, sz_lit, List.length_cons, List.length_nil]
 omega
def zC : List AV := [.sc (.string ⟨#[]⟩), .sc (.slice none 0 0)]
set_option maxHeartbeats 16000000 in
theorem declared_ans (d : DeclV) (h : LightD d) : Ans E 39 [.agg (declA d)] (.sc (.string (declF d))) := ans_of fun S hS => by
 obtain ⟨hcl, hdn, hcs⟩ := id h
 refine ev39 rfl ?_
 have hG := (Grow.refl hS nilV).born 56 (declA d)
 have h0 : (S.born 56 (declA d)).obj S.no = some (declA d) := by simp [born_obj]
 have hn0 : S.no < (S.born 56 (declA d)).no := Nat.lt_succ_self _
 simp only [SXa, Nat.reduceAdd, r39_0, r39_1, r39_2, p39, op_box, cells_agg]
 generalize S.born 56 (declA d) = S0 at hG h0 hn0
 simp only [declA] at h0
 simp only [SXa, reduceCtorEq, Nat.reduceEqDiff, load54, len54, load_pb, h0, fldD1, fld_p, Option.bind_some, Nat.zero_add, lenCv]
 refine e_loop (fun tm S' N => ∃ (j : Nat) (Y : AV), j ≤ d.cons.length ∧ N = d.cons.length - j ∧ OwnV S' 9 1 Y (strsA ((d.cons.take j).map conF)) ∧ Newish S Y ∧ S'.obj S.no = some [.sc (.string d.name), consV d] ∧ Grow S S' nilV ∧ S.no < S'.no ∧ getT tm 1 = .ptr S.no 0 ∧ getT tm 3 = Y ∧ getT tm 8 = consV d ∧ getT tm 9 = .sc (.int .i64 (d.cons.length : Nat)) ∧ getT tm 10 = .sc (.int .i64 (j : Int))) d.cons.length
  ⟨0, nilV, by omega, by omega, OwnV.nil' _ _ _, .inl rfl, h0, hG, hn0, by simp [getT_setD]⟩ ?_
 clear hG h0 hn0
 rintro tm S1 N ⟨j, Y, hj, rfl, hY, hN, hD, hG, hn, t1, t3, t8, t9, t10⟩
 by_cases hjt : j < d.cons.length
 case neg =>
  have hje : j = d.cons.length := by omega
  rw [hje, List.take_length] at hY
  have hs := consS_le h
  have hjl := join_le (d.cons.map conF) (⟨#[32, 124, 32]⟩ : ByteArray) (by decide)
  have gr := Grow.raise hG.fresh 9 nilV
  have hjn := join_ev (S := S1.raise 9) (.inl hY.is) (⟨#[32, 124, 32]⟩ : ByteArray) (by rw [List.length_map]; omega) (by omega)
  have a1 : ((⟨#[116, 121, 112, 101, 32]⟩ : ByteArray)).size + d.name.size ≤ 2 ^ 62 := by simp only [sz_lit, List.length_cons, List.length_nil]; omega
  have a2 : ((⟨#[116, 121, 112, 101, 32]⟩ : ByteArray) ++ d.name).size + ((⟨#[32, 61, 32]⟩ : ByteArray)).size ≤ 2 ^ 62 := by simp only [ByteArray.size_append, sz_lit, List.length_cons, List.length_nil]; omega
  have a3 : (((⟨#[116, 121, 112, 101, 32]⟩ : ByteArray) ++ d.name) ++ (⟨#[32, 61, 32]⟩ : ByteArray)).size + (joinF (d.cons.map conF) (⟨#[32, 124, 32]⟩ : ByteArray)).size ≤ 2 ^ 62 := by simp only [ByteArray.size_append, sz_lit, List.length_cons, List.length_nil]; omega
  have a4 : ((((⟨#[116, 121, 112, 101, 32]⟩ : ByteArray) ++ d.name) ++ (⟨#[32, 61, 32]⟩ : ByteArray)) ++ joinF (d.cons.map conF) (⟨#[32, 124, 32]⟩ : ByteArray)).size + ((⟨#[32, 105, 110, 32]⟩ : ByteArray)).size ≤ 2 ^ 62 := by simp only [ByteArray.size_append, sz_lit, List.length_cons, List.length_nil]; omega
  simp only [SXa, b39_10, r39_3, r39_4, r39_5, r39_6, r39_7, r39_8, r39_9, t9, t10, dec_nlt hjt]
  refine e_drawC noX draw39_0 ?_
  simp only [SXa, Nat.reduceEqDiff, load9, call64, r39_11, r39_12, t1, t3, load_pb, raise_obj, hD, fldD0, fld_p, Option.bind_some, Nat.add_zero, b_addstr _ _ _ _ _ a1, b_addstr _ _ _ _ _ a2]
  refine callK_of hjn ?_
  simp only [SXa, Nat.reduceEqDiff, b_addstr _ _ _ _ _ a3, b_addstr _ _ _ _ _ a4, safe_cons, safe_nil, safe_grow hn gr, Bool.and_self]
  exact ⟨rfl, hG.two gr⟩
 case pos =>
 have wj := wrapK hjt (by omega)
 have hc := hcs _ (List.getElem_mem hjt)
 obtain ⟨l1, l2⟩ := conF_le hc
 have hG4 := (hG.born 58 zC).put S1.no (.cells (conA d.cons[j])) hG.no
 have h4 : ((S1.born 58 zC).put S1.no (.cells (conA d.cons[j]))).obj S1.no = some (conA d.cons[j]) := by simp [put_obj]
 have hD4 : ((S1.born 58 zC).put S1.no (.cells (conA d.cons[j]))).obj S.no = some [.sc (.string d.name), consV d] := by
  have : S.no ≠ S1.no := by omega
  simp [put_obj, born_obj, this, hD]
 have gr4 : Grow S1 ((S1.born 58 zC).put S1.no (.cells (conA d.cons[j]))) nilV := ((Grow.refl hG.fresh nilV).born _ _).put S1.no _ (Nat.le_refl _)
 simp only [conA, zC] at hG4 h4 hD4 gr4
 simp only [SXa, Nat.reduceEqDiff, Nat.reduceAdd, index54, load58, store58, b39_10, r39_3, r39_4, r39_5, r39_6, r39_7, r39_8, r39_9, t8, t9, t10, dec_lt hjt, idxC hjt, conA, allocC, stC, born_obj, Option.bind_some, Nat.zero_add, Nat.le_refl, List.drop_nil]
 generalize ((S1.born 58 [.sc (.string ⟨#[]⟩), .sc (.slice none 0 0)]).put S1.no (.cells [.sc (.string d.cons[j].name), (argsA d.cons[j])])) = S4 at hG4 h4 hD4 gr4
 have hn4 := Nat.lt_of_lt_of_le hn gr4.no
 have etk : (d.cons.take j).map conF ++ [conF d.cons[j]] = (d.cons.take (j + 1)).map conF := by
  rw [List.take_succ_eq_append_getElem hjt, List.map_append, List.map_cons, List.map_nil]
 simp only [SXa, Nat.reduceEqDiff, load9, load31, len31, load_pb, h4, fldC0, fldC1, fld_p, Option.bind_some, Nat.add_zero, Nat.zero_add, lenAr]
 obtain ⟨Z, S5, ap, hZ, hNZ, hG5, no5, ob5, _⟩ := app_strs (hY.keep gr4) hN hG4 (bsl1' (conF d.cons[j])) (by rw [List.length_map, List.length_take, List.length_cons, List.length_nil]; omega)
 rw [etk] at hZ
 have hD5 : S5.obj S.no = some [.sc (.string d.name), consV d] := by rw [ob5]; exact hD4
 have hn5 : S.no < S5.no := by rw [no5]; exact hn4
 cases ha : d.cons[j].args with
 | nil =>
  have ec : conF d.cons[j] = d.cons[j].name := by simp only [conF, ha]
  rw [ec] at ap
  have c0 : decide ((0 : Int) < ((0 : Nat) : Int)) = false := rfl
  simp only [SXa, Nat.reduceEqDiff, Nat.reduceBEq, bs31, app31, t1, t3, t8, t9, t10, c0, bsl1, ap, wj]
  exact ⟨d.cons.length - (j + 1), by omega, j + 1, Z, by omega, rfl, hZ, hNZ, hD5, hG5, hn5, by simp []⟩
 | cons a r =>
  have ec : conF d.cons[j] = d.cons[j].name ++ ((⟨#[32, 111, 102, 32]⟩ : ByteArray) ++ joinF d.cons[j].args (⟨#[44, 32]⟩ : ByteArray)) := by simp only [conF, ha]
  have hjl := join_le d.cons[j].args (⟨#[44, 32]⟩ : ByteArray) (by decide)
  have hjn := join_ev (S := S4) (.inl (isAr d.cons[j])) (⟨#[44, 32]⟩ : ByteArray) (by omega) (by omega)
  have a1 : ((⟨#[32, 111, 102, 32]⟩ : ByteArray)).size + (joinF d.cons[j].args (⟨#[44, 32]⟩ : ByteArray)).size ≤ 2 ^ 62 := by simp only [sz_lit, List.length_cons, List.length_nil]; omega
  have a2 : d.cons[j].name.size + ((⟨#[32, 111, 102, 32]⟩ : ByteArray) ++ joinF d.cons[j].args (⟨#[44, 32]⟩ : ByteArray)).size ≤ 2 ^ 62 := by simp only [ByteArray.size_append, sz_lit, List.length_cons, List.length_nil]; omega
  rw [ec] at ap
  have c0 : decide ((0 : Int) < (((a :: r).length : Nat) : Int)) = true := by
   rw [decide_eq_true_eq]
   simp only [List.length_cons]; omega
  generalize (a :: r).length = q at c0
  simp only [SXa, Nat.reduceEqDiff, load31, call64, c0, load_pb, h4, fldC1, fld_p, Option.bind_some, Nat.zero_add]
  refine callK_of hjn ?_
  simp only [SXa, Nat.reduceEqDiff, Nat.reduceBEq, bs31, app31, t1, t3, t8, t9, t10, b_addstr _ _ _ _ _ a1, b_addstr _ _ _ _ _ a2, bsl1, ap, wj]
  exact ⟨d.cons.length - (j + 1), by omega, j + 1, Z, by omega, rfl, hZ, hNZ, hD5, hG5, hn5, by simp []⟩
end Go.Proofs.YtmmnkemcplgebaaGreatDoor
end
end

section
section
set_option linter.unusedSimpArgs false
set_option linter.unusedVariables false
set_option maxRecDepth 100000
namespace Go.Proofs.YtmmnkemcplgebaaGreatDoor
open Go.Abs
def delsB (l ks : List ByteArray) : List ByteArray := l.foldl (fun ks s => delB s ks) ks
def freeW (fr b : Nat → List ByteArray) : List Int → Nat → List ByteArray → List ByteArray
 | [], _, out => out
 | k :: r, i, out => freeW fr b r (i + 1) (unionB out (delsB (b i) (fr k.toNat)))
def freeF (ns : List NodeV) : Nat → Nat → List ByteArray
 | 0, _ => []
 | f + 1, a => match ns[a]? with
  | some x => freeW (freeF ns f) (boundF ns x) x.kids 0 (bif x.kind == 4 then [x.name] else [])
  | none => []
theorem delsB_list : ∀ (l ks : List ByteArray), (delsB l ks).Sublist ks
 | [], ks => List.Sublist.refl _
 | s :: r, ks => (delsB_list r (delB s ks)).trans (delB_list s ks)
theorem free_len {ns : List NodeV} {fr b : Nat → List ByteArray} {d : Nat} {ds : List DeclV} (ih : ∀ p a z, walkF ns ds d p a = some z → (fr a).length ≤ z - a) (pat m : Bool) : ∀ (l : List Int) (i nx z : Nat) (out : List ByteArray), kidsW (walkF ns ds d) pat m l i nx = some z → (freeW fr b l i out).length ≤ out.length + (z - nx)
 | [], i, nx, z, out, h => by simp [freeW]
 | k :: r, i, nx, z, out, h => by
  unfold kidsW at h
  cases hb : (k == ((nx : Nat) : Int)) with
  | false => rw [hb] at h; cases h
  | true =>
   rw [hb, cond_true] at h
   have hk : k = ((nx : Nat) : Int) := by simpa using hb
   cases hq : walkF ns ds d (pat || (m && armF ((i : Nat) : Int))) nx with
   | none => rw [hq] at h; cases h
   | some z1 =>
    rw [hq] at h
    have h1 := ih _ _ _ hq
    have h2 := free_len (b := b) ih pat m r (i + 1) z1 z (unionB out (delsB (b i) (fr k.toNat))) h
    have h3 := walk_bd _ _ _ _ _ _ hq
    have h4 := (kidsW_bd (n := ns.length) (walk_bd ns ds d) pat m r (i + 1) z1 z h3.2 h).1
    have h5 := len_unionB out (delsB (b i) (fr k.toNat))
    have h6 := (delsB_list (b i) (fr k.toNat)).length_le
    rw [hk, Int.toNat_natCast] at h2 h5 h6
    rw [freeW, hk, Int.toNat_natCast]
    omega
theorem freeF_len (ns : List NodeV) (ds : List DeclV) : ∀ (d f : Nat), d ≤ f → ∀ (pat : Bool) (a z : Nat), walkF ns ds d pat a = some z → (freeF ns f a).length ≤ z - a
 | 0, f, hf, pat, a, z, h => by cases h
 | d + 1, 0, hf, pat, a, z, h => by omega
 | d + 1, f + 1, hf, pat, a, z, h => by
  have hbd := walk_bd _ _ _ _ _ _ h
  have hlt : a < ns.length := by omega
  have hk := walk_kids h hlt
  have h4 := (kidsW_bd (n := ns.length) (walk_bd ns ds d) pat _ _ 0 (a + 1) z (by omega) hk).1
  rw [freeF, List.getElem?_eq_getElem hlt]
  have := free_len (b := boundF ns ns[a]) (freeF_len ns ds d f (by omega)) pat _ _ 0 (a + 1) z (bif ns[a].kind == 4 then [ns[a].name] else []) hk
  have h1 : (bif ns[a].kind == 4 then [ns[a].name] else []).length ≤ 1 := by cases (ns[a].kind == 4) <;> simp
  simp only
  omega
theorem freeW_all {P : ByteArray → Prop} {fr b : Nat → List ByteArray} (hf : ∀ a, ∀ s ∈ fr a, P s) : ∀ (l : List Int) (i : Nat) (out : List ByteArray), (∀ s ∈ out, P s) → ∀ s ∈ freeW fr b l i out, P s
 | [], i, out, h => h
 | k :: r, i, out, h => freeW_all hf r (i + 1) _ fun s hs => by
  rcases mem_unionB.1 hs with hs | hs
  · exact h s hs
  · exact hf _ s ((delsB_list _ _).subset hs)
theorem freeF_all {P : ByteArray → Prop} {ns : List NodeV} (hn : ∀ x ∈ ns, P x.name) : ∀ (f a : Nat), ∀ s ∈ freeF ns f a, P s
 | 0, a => fun s hs => by cases hs
 | f + 1, a => by
  unfold freeF
  cases hx : ns[a]? with
  | none => intro s hs; cases hs
  | some x =>
   refine freeW_all (freeF_all hn f) _ _ _ fun s hs => ?_
   cases hk : (x.kind == 4) with
   | false => rw [hk] at hs; cases hs
   | true =>
    rw [hk, cond_true, List.mem_singleton] at hs
    subst hs
    exact hn x (List.mem_of_getElem? hx)
section
variable {S : St}
theorem putM_obj (l m : Nat) (es : List (Value × AV)) (h : m ≠ l) : (S.put l (.mp es)).obj m = S.obj m := by
 simp only [St.obj, St.put, PM.get_set, h, if_false]
theorem bornMap_obj' (l : Nat) (h : l ≠ S.no) : S.bornMap.obj l = S.obj l := by
 simp only [St.bornMap, St.obj, St.bearNext, St.bear, PM.get_set, h, if_false]
end
theorem mt : E.und 71 = some (.map 9 4) := by kernel_rfl
theorem kt : E.und 9 = some .string := by kernel_rfl
theorem op_delete {tm : PM AV} {S : St} {d : Option Tmp} (x y : Operand) (t u : TypeId) : opV E tm d (.call (Call.mk (.builtin .delete) #[x, y] #[t, u])) S = builtinA E false .delete [t, u] [E.ev tm x, E.ev tm y] S := rfl
theorem freeW_drop {fr b : Nat → List ByteArray} {l : List Int} {i : Nat} (hi : i < l.length) (out : List ByteArray) : freeW fr b (l.drop i) i out = freeW fr b (l.drop (i + 1)) (i + 1) (unionB out (delsB (b i) (fr l[i].toNat))) := by
 rw [List.drop_eq_getElem_cons hi, freeW]
theorem delsB_drop {l : List ByteArray} {j : Nat} (hj : j < l.length) (ks : List ByteArray) : delsB (l.drop j) ks = delsB (l.drop (j + 1)) (delB l[j] ks) := by
 rw [List.drop_eq_getElem_cons hj, delsB, List.foldl_cons]; rfl
theorem lenS {x : AV} {l : List ByteArray} (h : IsV 1 x (strsA l)) (S : St) : lenV x S = some (.sc (.int .i64 (l.length : Nat)), S) := by rw [h.len]; simp [strsA]
theorem idxS {x : AV} {l : List ByteArray} (h : IsV 1 x (strsA l)) {k : Nat} (hk : k < l.length) (S : St) : idxV 1 x (some (k : Int)) S = some (.eptr [.sc (.string l[k])] 0, S) := h.idx (v := .sc (.string l[k])) (by simp [strsA, hk]) rfl S
theorem boundF_len (ns : List NodeV) (ds : List DeclV) (d : Nat) (hd : d ≤ 60) (pat : Bool) (a z i : Nat) (x : NodeV) (hw : kidsW (walkF ns ds d) pat (x.kind == 11) x.kids 0 (a + 1) = some z) (hz : z ≤ ns.length) (hi : i < x.kids.length) : (boundF ns x i).length ≤ ns.length + 2 := by
 unfold boundF
 simp only [cond_eq_ite]
 split
 · simp
 split
 · simp
 split
 · simp
 split
 · rename_i h
   simp only [Bool.and_eq_true, decide_eq_true_eq] at h
   obtain ⟨p, q, q1, a1, a2, a3, a4⟩ := kids_get pat _ _ 0 (a + 1) z hw (i - 1) (by omega)
   have hgd : x.kids.getD (i - 1) 0 = ((q : Nat) : Int) := by
    have hlt : i - 1 < x.kids.length := by omega
    rw [← a3]
    simp [List.getD, hlt]
   have := binds_len _ _ d 60 hd _ _ _ a4
   rw [hgd, Int.toNat_natCast]
   omega
 · simp
set_option maxHeartbeats 32000000 in
theorem free_ok (t : TreeV) (nx tx : AV) (ht : TreeIs nx tx t) (hnm : ∀ x ∈ t.nodes, x.name.size ≤ 60) (hnl : t.nodes.length ≤ 1000) : ∀ (d f : Nat), d ≤ f → d ≤ 60 → ∀ (pat : Bool) (a z : Nat), walkF t.nodes t.types d pat a = some z → ∀ (S : St), S.Fresh →
 ∃ r S', EvA E 35 [.agg [nx, tx], .sc (.int .i64 (a : Nat))] S r S' ∧ (∃ l, r = .mp l ∧ S.no ≤ l ∧ l < S'.no ∧ S'.IsSet l (freeF t.nodes f a)) ∧ Grow S S' nilV
 | 0, f, hf, hd, pat, a, z, h, S, hS => by cases h
 | d + 1, 0, hf, hd, pat, a, z, h, S, hS => by omega
 | d + 1, f + 1, hf, hd, pat, a, z, h, S, hS => by
  have hbd := walk_bd _ _ _ _ _ _ h
  have hlt : a < t.nodes.length := by omega
  have hxm := List.getElem_mem hlt
  have hkl := ht.lk _ hxm
  have hw := walk_kids h hlt
  have eb : freeF t.nodes (f + 1) a = freeW (freeF t.nodes f) (boundF t.nodes t.nodes[a]) t.nodes[a].kids 0 (bif t.nodes[a].kind == 4 then [t.nodes[a].name] else []) := by
   rw [freeF, List.getElem?_eq_getElem hlt]
  rw [eb]
  refine ev35 rfl ?_
  unfold p35
  generalize hTl : (PC.seq (.seq (.reg r35_5) (.block 0 (.loop b35_17))) (.seq (.reg r35_18) .ret)) = Tl
  have hb1 := (Grow.refl hS nilV).born 25 [nx, tx]
  have hT1 : (S.born 25 [nx, tx]).obj S.no = some [nx, tx] := by simp [born_obj]
  have hn1 : S.no < (S.born 25 [nx, tx]).no := Nat.lt_succ_self _
  simp only [SXa, reduceCtorEq, Nat.reduceAdd, r35_0, r35_1, r35_2, r35_3, r35_4, op_box, cells_agg]
  generalize S.born 25 [nx, tx] = S1 at hb1 hT1 hn1
  have hb2 := (hb1.born 30 zN).put S1.no (.cells (nodeA t.nodes[a])) hb1.no
  have hN2 : ((S1.born 30 zN).put S1.no (.cells (nodeA t.nodes[a]))).obj S1.no = some (nodeA t.nodes[a]) := by simp [put_obj]
  have hT2 : ((S1.born 30 zN).put S1.no (.cells (nodeA t.nodes[a]))).obj S.no = some [nx, tx] := by
   have : S.no ≠ S1.no := by omega
   simp [put_obj, born_obj, this, hT1]
  have hn2 : S1.no < ((S1.born 30 zN).put S1.no (.cells (nodeA t.nodes[a]))).no := Nat.lt_succ_self _
  simp only [SXa, reduceCtorEq, Nat.reduceEqDiff, load22, index22, load30, store30, fldT0, fld_p, load_pb, hT1, Option.bind_some, Nat.zero_add, Nat.add_zero, idxN ht.nodes hlt, nodeA_len, nodeA_take, allocN, stN, born_obj, zN_len, zN_drop, List.append_nil, Nat.le_refl, op_makeMap]
  generalize (S1.born 30 zN).put S1.no (.cells (nodeA t.nodes[a])) = S2 at hb2 hN2 hT2 hn2
  have hb3 := hb2.bornMap
  have hM3 := bornMap_set (S := S2)
  have hN3 : S2.bornMap.obj S1.no = some (nodeA t.nodes[a]) := by rw [bornMap_obj' _ (by omega)]; exact hN2
  have hT3 : S2.bornMap.obj S.no = some [nx, tx] := by rw [bornMap_obj' _ (by omega)]; exact hT2
  have hn3 : S2.no < S2.bornMap.no := Nat.lt_succ_self _
  generalize hm : S2.no = m at hM3 hn3
  have hmS : S.no ≤ m := by omega
  have hm1 : S1.no < m := by omega
  generalize S2.bornMap = S3 at hb3 hM3 hN3 hT3 hn3
  have hN3' := hN3
  have rest : ∀ (tm : PM AV) (S3 : St) (out0 : List ByteArray), out0.length ≤ 1 → (∀ s ∈ out0, s.size ≤ 60) → S3.IsSet m out0 → S3.obj S1.no = some (nodeA t.nodes[a]) → S3.obj S.no = some [nx, tx] → Grow S S3 nilV → m < S3.no → getT tm 2 = .ptr S.no 0 → getT tm 5 = .ptr S1.no 0 → getT tm 6 = .mp m →
   EndsA E 52 [.c (.seq (.seq (.reg r35_5) (.block 0 (.loop b35_17))) (.seq (.reg r35_18) .ret))] .nrm tm S3 (RetQ E [.tmp 4] fun r S' => (∃ l, r = .mp l ∧ S.no ≤ l ∧ l < S'.no ∧ S'.IsSet l (freeW (freeF t.nodes f) (boundF t.nodes t.nodes[a]) t.nodes[a].kids 0 out0)) ∧ Grow S S' nilV) := by
   clear hM3 hN3 hT3 hb3 hn3
   intro tm S3 out0 ho1 ho2 hM3 hN3' hT3 hb3 hn3 t2 t5 t6
   have hN3 := hN3'
   simp only [nodeA] at hN3
   simp only [SXa, Nat.reduceEqDiff, load28, len28, r35_5, r35_18, t5, load_pb, hN3, fldN, fld_p, Option.bind_some, Nat.zero_add, lenK]
   refine e_loop (fun tm S' N => ∃ (i q : Nat) (out : List ByteArray), i ≤ t.nodes[a].kids.length ∧ N = t.nodes[a].kids.length - i ∧ kidsW (walkF t.nodes t.types d) pat (t.nodes[a].kind == 11) (t.nodes[a].kids.drop i) i q = some z ∧ q ≤ t.nodes.length ∧ out.length ≤ q ∧ (∀ s ∈ out, s.size ≤ 60) ∧
    freeW (freeF t.nodes f) (boundF t.nodes t.nodes[a]) (t.nodes[a].kids.drop i) i out = freeW (freeF t.nodes f) (boundF t.nodes t.nodes[a]) t.nodes[a].kids 0 out0 ∧
    S'.IsSet m out ∧ S'.obj S1.no = some (nodeA t.nodes[a]) ∧ S'.obj S.no = some [nx, tx] ∧ Grow S S' nilV ∧ m < S'.no ∧ getT tm 2 = .ptr S.no 0 ∧ getT tm 5 = .ptr S1.no 0 ∧ getT tm 6 = .mp m ∧ getT tm 25 = (kidsA t.nodes[a]) ∧ getT tm 26 = .sc (.int .i64 (t.nodes[a].kids.length : Nat)) ∧ getT tm 27 = .sc (.int .i64 (i : Int))) t.nodes[a].kids.length
    ⟨0, a + 1, out0, by omega, by omega, by rw [List.drop_zero]; exact hw, by omega, by omega, ho2, by rw [List.drop_zero], hM3, hN3', hT3, hb3, hn3, by simp [getT_setD, t2, t5, t6]⟩ ?_
   clear hM3 hN3 hN3' hT3 hb3 hn3 t2 t5 t6
   rintro tm S3 N ⟨i, q, out, hi, rfl, hq, hqn, hol, hos, hfl, hM3, hN3', hT3, hb3, hn3, t2, t5, t6, t25, t26, t27⟩
   have hN3 := hN3'
   simp only [nodeA] at hN3
   by_cases hit : i < t.nodes[a].kids.length
   case neg =>
    have hie : i = t.nodes[a].kids.length := by omega
    rw [hie, List.drop_length, freeW] at hfl
    simp only [SXa, Nat.reduceEqDiff, b35_17, r35_6, r35_7, r35_8, r35_9, r35_15, r35_16, t6, t26, t27, dec_nlt hit]
    rw [← hfl]
    exact ⟨⟨m, rfl, hmS, hn3, hM3⟩, hb3⟩
   case pos =>
   have wi := wrapK hit (by omega)
   have hq0 := hq
   rw [kidsW_drop _ _ _ hit] at hq
   cases c6 : (t.nodes[a].kids[i] == ((q : Nat) : Int)) with
   | false => rw [c6] at hq; cases hq
   | true =>
   rw [c6, cond_true] at hq
   have hk : t.nodes[a].kids[i] = ((q : Nat) : Int) := by simpa using c6
   cases hw2 : walkF t.nodes t.types d (pat || (t.nodes[a].kind == 11 && armF ((i : Nat) : Int))) q with
   | none => rw [hw2] at hq; cases hq
   | some q1 =>
   rw [hw2] at hq
   have hbq := walk_bd _ _ _ _ _ _ hw2
   have hlq := freeF_len _ _ d f (by omega) _ _ _ hw2
   have hsq := freeF_all (P := fun s => s.size ≤ 60) hnm f q
   obtain ⟨r4, S4, e4, ⟨l4, rfl, hl4, hl4', hM4⟩, g4⟩ := free_ok t nx tx ht hnm hnl d f (by omega) (by omega) _ q q1 hw2 S3 hb3.fresh
   have hT4 := g4.objs hT3 (by omega)
   have hN4 := g4.objs hN3 (by omega)
   obtain ⟨X, S5, e5, hX, g5⟩ := bound_ok t nx tx ht d (by omega) pat a z i t.nodes[a] hxm hw hit S4 g4.fresh
   have hlb := boundF_len _ _ d (by omega) pat a z i t.nodes[a] hw (by omega) hit
   have hM5 := g5.isSet hM4 hl4'
   have g35 := g4.two g5
   rw [freeW_drop hit, hk, Int.toNat_natCast] at hfl
   simp only [SXa, Nat.reduceEqDiff, Nat.reduceAdd, load3, load25, index28, call35, b35_17, r35_6, r35_7, r35_8, r35_9, r35_15, r35_16, t2, t25, t26, t27, dec_lt hit, idxI hit, hk, load_pb, hT3, Option.bind_some, Nat.zero_add, Nat.le_refl]
   refine callK_of e4 ?_
   simp only [SXa, Nat.reduceEqDiff, Nat.reduceAdd, load25, load30, call61, t2, t5, load_pb, hT4, hN4, Option.bind_some, Nat.zero_add, Nat.le_refl]
   refine callK_of e5 ?_
   simp only [SXa, Nat.reduceEqDiff, len31, lenS hX]
   refine e_loop (fun tm S' N => ∃ (j : Nat) (ks : List ByteArray), j ≤ (boundF t.nodes t.nodes[a] i).length ∧ N = (boundF t.nodes t.nodes[a] i).length - j ∧ delsB ((boundF t.nodes t.nodes[a] i).drop j) ks = delsB (boundF t.nodes t.nodes[a] i) (freeF t.nodes f q) ∧ ks.Sublist (freeF t.nodes f q) ∧
    S'.IsSet l4 ks ∧ Grow S3 S' nilV ∧ l4 < S'.no ∧ getT tm 2 = .ptr S.no 0 ∧ getT tm 5 = .ptr S1.no 0 ∧ getT tm 6 = .mp m ∧ getT tm 9 = .mp l4 ∧ getT tm 25 = (kidsA t.nodes[a]) ∧ getT tm 26 = .sc (.int .i64 (t.nodes[a].kids.length : Nat)) ∧ getT tm 27 = .sc (.int .i64 (i : Int)) ∧
    getT tm 38 = X ∧ getT tm 39 = .sc (.int .i64 ((boundF t.nodes t.nodes[a] i).length : Nat)) ∧ getT tm 40 = .sc (.int .i64 (j : Int))) (boundF t.nodes t.nodes[a] i).length
    ⟨0, freeF t.nodes f q, by omega, by omega, by rw [List.drop_zero], List.Sublist.refl _, hM5, g35, Nat.lt_of_lt_of_le hl4' g5.no, by simp [getT_setD, t2, t5, t6, t25, t26, t27]⟩ ?_
   clear t2 t5 t6 t25 t26 t27
   rintro tm S6 N ⟨j, ks, hj, rfl, hdl, hsub, hM6, g6, hn6, t2, t5, t6, t9, t25, t26, t27, t38, t39, t40⟩
   by_cases hjt : j < (boundF t.nodes t.nodes[a] i).length
   case pos =>
    have wj := wrapK hjt (by omega)
    rw [delsB_drop hjt] at hdl
    simp only [SXa, Nat.reduceEqDiff, load9, index31, b35_14, r35_10, r35_11, r35_12, r35_13, t2, t5, t6, t9, t25, t26, t27, t38, t39, t40, dec_lt hjt, idxS hX hjt, wj, op_delete, set_delete mt kt hM6]
    exact ⟨(boundF t.nodes t.nodes[a] i).length - (j + 1), by omega, j + 1, _, by omega, rfl, hdl, (delB_list _ _).trans hsub, put_set _ _, g6.put _ _ hl4, hn6, by simp []⟩
   case neg =>
    have hje : j = (boundF t.nodes t.nodes[a] i).length := by omega
    rw [hje, List.drop_length] at hdl
    have hks : ks = delsB (boundF t.nodes t.nodes[a] i) (freeF t.nodes f q) := hdl
    have hlm : m ≠ l4 := by omega
    have hM7 : S6.IsSet m out := g6.isSet hM3 hn3
    have hlk := hsub.length_le
    have cp := copy_set hlm hM7 hM6 (by omega) (by omega) (fun s hs => by have := hos s hs; omega) (fun s hs => by have := hsq s (hsub.subset hs); omega)
    have e7 : EvA E 62 [.mp m, .mp l4] S6 (.tup []) (S6.put m (.mp (setA (unionB out ks)))) := ev_x (E := E) (f := 62) (fn := Tryz.f62) (g := copyX) (by kernel_rfl) rfl cp
    simp only [SXa, reduceCtorEq, Nat.reduceEqDiff, call62, b35_14, r35_10, r35_11, r35_12, r35_13, t2, t5, t6, t9, t25, t26, t27, t39, t40, dec_nlt hjt]
    refine callK_of e7 ?_
    simp only [SXa, Nat.reduceEqDiff, t2, t5, t6, t25, t26, t27, wi]
    rw [← hks] at hfl
    have hT7 := g6.objs hT3 (by omega)
    have hN7 := g6.objs hN3' (by omega)
    have hlu := len_unionB out ks
    exact ⟨t.nodes[a].kids.length - (i + 1), by omega, i + 1, q1, unionB out ks, by omega, rfl, hq, hbq.2, by omega, (fun s hs => by
     rcases mem_unionB.1 hs with hs | hs
     · exact hos s hs
     · exact hsq s (hsub.subset hs)), hfl, put_set _ _, by rw [putM_obj _ _ _ (by omega)]; exact hN7, by rw [putM_obj _ _ _ (by omega)]; exact hT7, (hb3.two g6).put _ _ hmS, Nat.lt_of_lt_of_le hn3 g6.no, by simp []⟩
  rw [hTl] at rest
  cases c1 : (t.nodes[a].kind == 4) with
  | true =>
   simp only [nodeA] at hN3
   simp only [SXa, reduceCtorEq, Nat.reduceEqDiff, load3, load9, load_pb, hN3, fldN, fld_p, Option.bind_some, Nat.add_zero, Nat.zero_add, op_mapUpdate, set_update mt kt hM3 _ (show inB t.nodes[a].name [] = false from rfl), List.nil_append, c1]
   refine rest _ _ [t.nodes[a].name] (by simp) (fun s hs => by rw [List.mem_singleton] at hs; subst hs; exact hnm _ hxm) (put_set _ _) (by rw [putM_obj _ _ _ (by omega)]; exact hN3') (by rw [putM_obj _ _ _ (by omega)]; exact hT3) (hb3.put _ _ hmS) hn3 ?_ ?_ ?_
   all_goals simp [getT_setD]
  | false =>
   simp only [nodeA] at hN3
   simp only [SXa, reduceCtorEq, Nat.reduceEqDiff, load3, load_pb, hN3, fldN, fld_p, Option.bind_some, Nat.add_zero, c1]
   refine rest _ _ [] (by simp) (fun s hs => by cases hs) hM3 hN3' hT3 hb3 hn3 ?_ ?_ ?_
   all_goals simp [getT_setD]
end Go.Proofs.YtmmnkemcplgebaaGreatDoor
end
end

section
section
set_option linter.unusedSimpArgs false
set_option linter.unusedVariables false
set_option maxRecDepth 100000
namespace Go.Proofs.YtmmnkemcplgebaaGreatDoor
open Go.Abs
theorem good_walk {t : TreeV} (h : goodF t = true) : walkF t.nodes t.types 60 false 0 = some t.nodes.length ∧ t.nodes.length ≤ 1000 := by
 unfold goodF at h
 simp only [Bool.and_eq_true] at h
 obtain ⟨⟨⟨⟨_, h2⟩, _⟩, h3⟩, _⟩ := h
 cases hw : walkF t.nodes t.types 60 false 0 with
 | none => rw [hw] at h3; cases h3
 | some z =>
  rw [hw] at h3
  simp only [beq_iff_eq] at h3
  have : z = t.nodes.length := by omega
  exact ⟨by rw [this], by simpa using h2⟩
theorem at_walk {t : TreeV} {i : Int} (h : hasAt t i = true) : ∃ (d : Nat) (p : Bool) (z : Nat), d ≤ 60 ∧ walkF t.nodes t.types d p i.toNat = some z ∧ i = ((i.toNat : Nat) : Int) ∧ goodF t = true ∧ t.nodes.length ≤ 1000 := by
 unfold hasAt at h
 simp only [Bool.and_eq_true, decide_eq_true_eq] at h
 obtain ⟨⟨h1, h2⟩, h3⟩ := h
 obtain ⟨k1, k2⟩ := good_walk h3
 obtain ⟨d', p', z', a1, a2⟩ := walk_sub _ _ _ _ _ _ k1 i.toNat (by omega) (by omega)
 exact ⟨d', p', z', a1, a2, by omega, h3, k2⟩
noncomputable def DepthF (t : TreeV) (i : Int) : Nat := bif hasAt t i then depthF t.nodes 60 i.toNat else 0
noncomputable def FreeF (t : TreeV) (i : Int) : List ByteArray := bif hasAt t i then sortB (freeF t.nodes 60 i.toNat) else []
set_option maxHeartbeats 16000000 in
theorem Depth_ans (t : TreeV) (nx tx : AV) (ht : TreeIs nx tx t) (i : Int) : Ans E 11 [.agg [nx, tx], .sc (.int .i64 i)] (.sc (.int .i64 (DepthF t i : Nat))) := ans_of fun S hS => by
 refine ev11 rfl ?_
 have hG := (Grow.refl hS nilV).born 25 [nx, tx]
 have hT : (S.born 25 [nx, tx]).obj S.no = some [nx, tx] := by simp [born_obj]
 have hn : S.no < (S.born 25 [nx, tx]).no := Nat.lt_succ_self _
 simp only [SXa, reduceCtorEq, Nat.reduceEqDiff, Nat.reduceAdd, load25, r11_0, r11_1, r11_2, r11_3, p11, op_box, cells_agg]
 generalize S.born 25 [nx, tx] = S0 at hG hT hn
 simp only [SXa, reduceCtorEq, Nat.reduceEqDiff, Nat.reduceAdd, call32, load_pb, hT, Option.bind_some, Nat.zero_add, Nat.le_refl]
 refine callK_ans (has_ans t nx tx ht i) hG (fun S1 g1 hG1 => ?_)
 have hT1 := g1.objs hT hn
 cases hg : hasAt t i with
 | false =>
  simp only [SXa, reduceCtorEq, Nat.reduceEqDiff]
  exact ⟨by simp only [DepthF, hg, cond_false]; rfl, hG1⟩
 | true =>
 obtain ⟨d, p, z, k1, k2, k3, _, _⟩ := at_walk hg
 simp only [SXa, reduceCtorEq, Nat.reduceEqDiff, Nat.reduceAdd, load25, call36, load_pb, hT1, Option.bind_some, Nat.zero_add, Nat.le_refl]
 have hd := depth_ans t nx tx ht d 60 k1 (by omega) p i.toNat z k2
 rw [← k3] at hd
 refine callK_ans hd hG1 (fun S2 g2 hG2 => ?_)
 simp only [SXa, reduceCtorEq, Nat.reduceEqDiff]
 exact ⟨by simp only [DepthF, hg, cond_true], hG2⟩
theorem op_mkf {tm : PM AV} {S : St} {d : Option Tmp} (f : FuncId) (x : Operand) : opV E tm d (.makeFunc (.func f) #[] #[x]) S = some (.fn (.func f) [] [E.ev tm x], S) := rfl
theorem cells_mp (l : Nat) : cellsOf (.mp l) = some [.mp l] := rfl
theorem keys_ev (l : Nat) (S : St) : ∃ r S', EvA E 34 [.mp l] S r S' ∧ r = .fn (.func 60) [] [.ptr S.no 0] ∧ S' = S.born 71 [.mp l] := by
 refine ev34 rfl ?_
 simp only [SXa, reduceCtorEq, Nat.reduceEqDiff, Nat.reduceAdd, r34_0, r34_1, p34, op_box, cells_mp, op_mkf]
theorem born_shp (S : St) (e : TypeId) (cs : List AV) : (S.born e cs).shp.get S.no = some (e, cs.length) := by
 simp [St.born, St.bearNext, St.bear, PM.get_set]
theorem born_set {S : St} (e : TypeId) (cs : List AV) {l : Nat} {ks : List ByteArray} (h : S.IsSet l ks) (hl : l ≠ S.no) : (S.born e cs).IsSet l ks := by
 unfold St.IsSet at h ⊢
 simp only [St.born, St.bearNext, St.bear, PM.get_set, hl, if_false]
 exact h
set_option maxHeartbeats 16000000 in
theorem Free_ok (t : TreeV) (nx tx : AV) (ht : TreeIs nx tx t) (hnm : ∀ x ∈ t.nodes, x.name.size ≤ 60) (i : Int) (S : St) (hS : S.Fresh) : ∃ r S', EvA E 10 [.agg [nx, tx], .sc (.int .i64 i)] S r S' ∧ IsV 1 r (strsA (FreeF t i)) ∧ Grow S S' nilV := by
 refine ev10 rfl ?_
 have hG := (Grow.refl hS nilV).born 25 [nx, tx]
 have hT : (S.born 25 [nx, tx]).obj S.no = some [nx, tx] := by simp [born_obj]
 have hn : S.no < (S.born 25 [nx, tx]).no := Nat.lt_succ_self _
 simp only [SXa, reduceCtorEq, Nat.reduceEqDiff, Nat.reduceAdd, load25, r10_0, r10_1, r10_2, r10_3, p10, op_box, cells_agg]
 generalize S.born 25 [nx, tx] = S0 at hG hT hn
 simp only [SXa, reduceCtorEq, Nat.reduceEqDiff, Nat.reduceAdd, call32, load_pb, hT, Option.bind_some, Nat.zero_add, Nat.le_refl]
 refine callK_ans (has_ans t nx tx ht i) hG (fun S1 g1 hG1 => ?_)
 have hT1 := g1.objs hT hn
 cases hg : hasAt t i with
 | false =>
  simp only [SXa, reduceCtorEq, Nat.reduceEqDiff]
  exact ⟨by simp only [FreeF, hg, cond_false]; exact IsV.nil 1, hG1⟩
 | true =>
 obtain ⟨d, p, z, k1, k2, k3, k4, k5⟩ := at_walk hg
 have hbd := walk_bd _ _ _ _ _ _ k2
 simp only [SXa, reduceCtorEq, Nat.reduceEqDiff, Nat.reduceAdd, load25, call35, load_pb, hT1, Option.bind_some, Nat.zero_add, Nat.le_refl]
 obtain ⟨r2, S2, e2, ⟨l, rfl, hl, hl', hM⟩, g2⟩ := free_ok t nx tx ht hnm k5 d 60 k1 k1 p i.toNat z k2 S1 hG1.fresh
 rw [← k3] at e2
 refine callK_of e2 ?_
 have hG2 := hG1.two g2
 simp only [SXa, reduceCtorEq, Nat.reduceEqDiff, call34]
 obtain ⟨r3, S3, e3, rfl, rfl⟩ := keys_ev l S2
 refine callK_of e3 ?_
 have hG3 := hG2.born 71 [.mp l]
 simp only [SXa, reduceCtorEq, Nat.reduceEqDiff, call33]
 have hlen := freeF_len _ _ d 60 k1 p _ z k2
 have hsz := freeF_all (P := fun s => s.size ≤ 60) hnm 60 i.toNat
 obtain ⟨r4, hs4, hv4⟩ := sort_set (g := 60) (born_set 71 [.mp l] hM (by omega)) (born_shp S2 71 [.mp l]) (show (S2.born 71 [.mp l]).obj S2.no = some [.mp l] by simp [born_obj]) (by omega) (fun s hs => by have := hsz s hs; omega)
 have e4 : EvA E 33 [.fn (.func 60) [] [.ptr S2.no 0]] (S2.born 71 [.mp l]) r4 (S2.born 71 [.mp l]) := ev_x (E := E) (f := 33) (fn := Tryz.f33) (g := sortedV 60) (by kernel_rfl) rfl hs4
 refine callK_of e4 ?_
 simp only [SXa, reduceCtorEq, Nat.reduceEqDiff]
 exact ⟨by simp only [FreeF, hg, cond_true]; exact hv4, hG3⟩
end Go.Proofs.YtmmnkemcplgebaaGreatDoor
end
end
