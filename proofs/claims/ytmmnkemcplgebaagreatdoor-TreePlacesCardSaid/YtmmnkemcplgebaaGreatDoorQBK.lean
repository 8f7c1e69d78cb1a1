/-
  Trees: rows of texts, by value or written in place; a text that is joined.
  Trees: the walks (a constructor's values, the arms of a match, what stands in brackets, as texts).
  Trees: what a node binds in a kid (the walk of bound).
-/
import Derived.Test.YtmmnkemcplgebaaGreatDoorQBJ
import Derived.Test.YtmmnkemcplgebaaGreatDoorQBH
import Derived.Test.YtmmnkemcplgebaaGreatDoorQBF
section
section
set_option linter.unusedSimpArgs false
set_option linter.unusedVariables false
set_option maxRecDepth 100000
namespace Go.Proofs.YtmmnkemcplgebaaGreatDoor
open Go.Abs
section
variable {S : St}
theorem newObj_obj (S : St) (cs : List AV) (k : Nat) : (S.newObj cs).obj k = if k = S.no then some cs else S.obj k := by
 simp only [St.newObj, St.newRaw, St.obj, PM.get_set]
 by_cases h : k = S.no
 · simp [h]
 · simp [h]
theorem newObj_get (S : St) (cs : List AV) (k : Nat) (h : k ≠ S.no) : (S.newObj cs).objs.get k = S.objs.get k := by
 simp only [St.newObj, St.newRaw, PM.get_set, h, if_false]
theorem grow_newObj {S0 : St} {x : AV} (g : Grow S0 S x) (cs : List AV) : Grow S0 (S.newObj cs) x :=
 ⟨g.nid, g.sp, g.ity, Nat.le_succ_of_le g.no, fun l hl => by
  rw [newObj_get _ _ _ (by have := g.no; omega)]
  exact g.obj l hl, g.fresh, g.ver⟩
theorem strsA_at {l : List ByteArray} {k : Nat} (h : k < l.length) : (strsA l)[k]? = some (.sc (.string l[k])) := by simp [strsA, h]
def RdS (S : St) (X : AV) (l : List ByteArray) : Prop := IsV 1 X (strsA l) ∨ ∃ o off room, X = .osl o 1 off l.length room ∧ o < S.no ∧ l.length ≤ room ∧ ∃ cs, S.obj o = some cs ∧ (cs.drop off).take l.length = strsA l
theorem RdS.len {X : AV} {l : List ByteArray} (h : RdS S X l) (S1 : St) : lenV X S1 = some (.sc (.int .i64 (l.length : Nat)), S1) := by
 rcases h with h | ⟨o, off, room, rfl, _⟩
 · rw [h.len]; simp [strsA]
 · rfl
theorem RdS.idx {X : AV} {l : List ByteArray} (h : RdS S X l) {k : Nat} (hk : k < l.length) : ∃ P, (∀ S1, idxV 1 X (some (k : Int)) S1 = some (P, S1)) ∧ (∀ S1 : St, RdS S1 X l → loadC false 1 P S1 = some (.sc (.string l[k]), S1)) ∧ ∀ S1 S2 : St, RdS S1 X l → Grow S1 S2 nilV → safeA S1 S2 P = true := by
 rcases h with h | ⟨o, off, room, rfl, ho, hr, cs, h1, h2⟩
 · exact ⟨_, fun S1 => h.idx (v := .sc (.string l[k])) (strsA_at hk) rfl S1, fun S1 _ => by simp [load_e, cut_f], fun _ _ _ _ => rfl⟩
 · refine ⟨.ptr o (off + k), fun S1 => ?_, fun S1 h => ?_, fun S1 S2 h g => ?_⟩
   · simp [idxV, hk]
   rotate_left
   · rcases h with (⟨h, _⟩ | ⟨id, h⟩) | ⟨o', off', room', e, ho', _⟩
     · cases h
     · cases h
     · simp only [AV.osl.injEq] at e
       obtain ⟨rfl, _⟩ := e
       exact safe_grow ho' g _
   · rcases h with (⟨h, _⟩ | ⟨id, h⟩) | ⟨o', off', room', e, _, _, cs', h3, h4⟩
     · cases h
     · cases h
     · simp only [AV.osl.injEq] at e
       obtain ⟨rfl, _, rfl, _, rfl⟩ := e
       have : cs'[off + k]? = some (.sc (.string l[k])) := by
        have e := congrArg (fun q => q[k]?) h4
        simp only [List.getElem?_take, if_pos hk, List.getElem?_drop, strsA_at hk] at e
        exact e
       simp [load_pb, h3, cut_f, this]
theorem RdS.grow {S' : St} {X x : AV} {l : List ByteArray} (h : RdS S X l) (g : Grow S S' x) : RdS S' X l := by
 rcases h with h | ⟨o, off, room, rfl, ho, hr, cs, h1, h2⟩
 · exact .inl h
 · exact .inr ⟨o, off, room, rfl, Nat.lt_of_lt_of_le ho g.no, hr, cs, g.objs h1 ho, h2⟩
theorem RdS.tail {X : AV} {l : List ByteArray} (h : RdS S X l) (h0 : 0 < l.length) (S1 : St) : ∃ Y, sliceA E 31 X (some (.sc (.int .i64 1))) none S1 = some (Y, S1) ∧ RdS S Y (l.drop 1) := by
 have hu : E.und 31 = some (.slice 9) := und31
 obtain ⟨i, hi, hs⟩ : ∃ i, E.inf 9 = some i ∧ Nat.beq i.size 1 = true := by
  have := sl31
  unfold slIs at this
  rw [hu] at this
  simp only at this
  split at this
  · rename_i i hi
    exact ⟨i, hi, this⟩
  · cases this
 rcases h with (⟨rfl, h⟩ | ⟨id, rfl⟩) | ⟨o, off, room, rfl, ho, hr, cs, h1, h2⟩
 · have := congrArg List.length h
   simp [strsA] at this
   subst this
   simp at h0
 · refine ⟨.vec 0 1 (strsA (l.drop 1)), ?_, .inl (.inr ⟨0, rfl⟩)⟩
   have hb : bounds (strsA l).length (some (.sc (.int .i64 1))) none = some (1, l.length) := by
    have : (1 : Int) ≤ (l.length : Int) := by omega
    simp [bounds, int?, strsA_len, this]
   have hl1 : List.take (l.length - 1) (List.drop 1 (strsA l)) = strsA (l.drop 1) := by
    rw [List.take_of_length_le (by simp [strsA_len])]
    simp [strsA]
   have e10 : Nat.beq 1 0 = false := rfl
   simp only [sliceA, hu, hb, hi, hs, cond_true, e10, Bool.false_and, cond_false, hl1]
 · refine ⟨.osl o 1 (off + 1) (l.length - 1) (room - 1), ?_, .inr ⟨o, off + 1, room - 1, by simp, ho, by rw [List.length_drop]; omega, cs, h1, ?_⟩⟩
   · have hb : bounds room (some (.sc (.int .i64 1))) (some (.sc (.int .i64 (l.length : Nat)))) = some (1, l.length) := by
      have a1 : (1 : Int) ≤ (l.length : Int) := by omega
      have a2 : (l.length : Int) ≤ (room : Int) := by omega
      simp [bounds, int?, a1, a2]
     simp only [sliceA, hu, hb, hi, hs, cond_true, Nat.one_mul]
   · have e := congrArg (fun q => q.drop 1) h2
     simp only [List.drop_take, List.drop_drop] at e
     rw [List.length_drop, e]
     simp [strsA]
theorem strsOf_strs : ∀ l : List ByteArray, strsOf (strsA l) = some l
 | [] => rfl
 | s :: r => by
  have := strsOf_strs r
  simp only [strsA, List.map_cons] at this ⊢
  simp [strsOf, this]
theorem groups_strs : ∀ (n : Nat) (l : List ByteArray), n = l.length → groups false 1 n (strsA l) = strsA l
 | 0, l, h => by
  have : l = [] := List.length_eq_zero_iff.1 h.symm
  subst this; rfl
 | n + 1, [], h => by simp at h
 | n + 1, s :: r, h => by
  have := groups_strs n r (by simpa using h)
  simp only [strsA, List.map_cons, groups, cond_false, List.headD_cons, List.drop_succ_cons, List.drop_zero] at this ⊢
  rw [this]
theorem okc_strs (l : List ByteArray) : (strsA l).all okCell = true := by
 simp [strsA, okCell]
theorem RdS.elems {X : AV} {l : List ByteArray} (h : RdS S X l) : (joinElems S X).bind strsOf = some l := by
 rcases h with (⟨rfl, h⟩ | ⟨id, rfl⟩) | ⟨o, off, room, rfl, ho, hr, cs, h1, h2⟩
 · have := congrArg List.length h
   simp [strsA] at this
   subst this
   rfl
 · exact strsOf_strs l
 · have e1 : Nat.beq 1 1 = true := rfl
   have e2 : Nat.beq (strsA l).length l.length = true := by rw [strsA_len]; exact Nat.beq_refl _
   simp only [joinElems, e1, cond_true, St.oslElems, h1, Nat.mul_one, h2, e2, okc_strs, Bool.and_self, groups_strs _ l rfl, Option.bind_some, strsOf_strs]
theorem join_ev {X : AV} {l : List ByteArray} (h : RdS S X l) (sep : ByteArray) (h1 : l.length ≤ 1000000) (h2 : (joinF l sep).size ≤ 1000000) : EvA E 64 [X, .sc (.string sep)] S (.sc (.string (joinF l sep))) S := by
 refine ev_x (E := E) (f := 64) (fn := Tryz.f64) (g := joinX) (by kernel_rfl) rfl ?_
 have h2' : (Lib.join (l.map (·.data.toList)) sep.data.toList).length ≤ 1000000 := by
  unfold joinF at h2
  rw [sz_lit] at h2
  exact h2
 have b1 := Nat.ble_eq_true_of_le h1
 have b2 := Nat.ble_eq_true_of_le h2'
 simp only [joinX, h.elems, b1, b2, Bool.and_self, cond_true]
 rfl
def MutS (b : Nat) (S : St) (X : AV) (out : List ByteArray) : Prop := (X = nilV ∧ out = []) ∨ ∃ l, X = .osl l 1 0 out.length out.length ∧ b ≤ l ∧ l < S.no ∧ S.obj l = some (strsA out) ∧ out ≠ []
theorem MutS.rd {b : Nat} {X : AV} {out : List ByteArray} (h : MutS b S X out) : RdS S X out := by
 rcases h with ⟨rfl, rfl⟩ | ⟨l, rfl, _, h1, h2, _⟩
 · exact .inl (.nil 1)
 · exact .inr ⟨l, 0, _, rfl, h1, Nat.le_refl _, _, h2, by rw [List.drop_zero, List.take_of_length_le (by rw [strsA_len]; exact Nat.le_refl _)]⟩
theorem MutS.grow {b : Nat} {S' : St} {X x : AV} {out : List ByteArray} (h : MutS b S X out) (g : Grow S S' x) : MutS b S' X out := by
 rcases h with h | ⟨l, rfl, hb, h1, h2, h3⟩
 · exact .inl h
 · exact .inr ⟨l, rfl, hb, Nat.lt_of_lt_of_le h1 g.no, g.objs h2 h1, h3⟩
theorem MutS.app {b : Nat} {X : AV} {out : List ByteArray} (h : MutS b S X out) (hb : b ≤ S.no) (hl : out.length ≤ 2 ^ 40) (c : ByteArray) :
 ∃ Y S2, builtinA E true .append [31, 31] [X, .vec 1 1 [.sc (.string c)]] S = some (Y, S2) ∧ MutS b S2 Y (out ++ [c]) ∧ S2.no = S.no + 1 ∧ (∀ S0, Grow S0 S nilV → S0.no ≤ b → Grow S0 S2 nilV) ∧ (∀ k, k < b → S2.obj k = S.obj k) := by
 have hlen : (out ++ [c]).length = out.length + 1 := by simp
 have ht := el31
 unfold elIs at ht
 split at ht
 · rename_i e' de i hd hde hi
   simp only [Bool.and_eq_true, beq_iff_eq] at ht
   obtain ⟨⟨⟨⟨⟨k1, k2⟩, k3⟩, k4⟩, k5⟩, k6⟩ := ht
   have k1 := Nat.eq_of_beq_eq_true k1
   have k3 := Nat.eq_of_beq_eq_true k3
   have k4 := Nat.eq_of_beq_eq_true k4
   subst k1
   have hsz : allSz 1 [AV.sc (.string c)] = true := rfl
   have hfl : flat? 1 [AV.sc (.string c)] = some [AV.sc (.string c)] := rfl
   rcases h with ⟨rfl, rfl⟩ | ⟨l, rfl, hbl, h1, h2, h3⟩
   · refine ⟨.osl S.no 1 0 1 1, S.newObj [.sc (.string c)], ?_, .inr ⟨S.no, rfl, hb, Nat.lt_succ_self _, by rw [newObj_obj]; simp [strsA], by simp⟩, rfl, fun S0 g _ => grow_newObj g _, fun k hk => by rw [newObj_obj, if_neg (by omega)]⟩
     have hbb : Nat.ble (1 * (16 + 1)) (2 ^ 46) = true := by decide
     have k6' : Nat.blt 0 1 = true := by decide
     simp only [builtinA, hd, hde, hi, appendA, elemsS, elemsOf, k3, appendXs, hsz, k5, k6', Bool.and_self, cond_true, k4, List.length_cons, List.length_nil, Nat.zero_add, hbb, newSlice, hfl]
   · have hbl1 : Nat.ble ((out.length + 1) * (16 + 1)) (2 ^ 46) = true := Nat.ble_eq_true_of_le (by omega)
     have hr : Nat.ble (out.length + 1) out.length = false := by
      cases e : Nat.ble (out.length + 1) out.length
      · rfl
      · have := Nat.le_of_ble_eq_true e; omega
     refine ⟨.osl S.no 1 0 (out.length + 1) (out.length + 1), (S.put l .dead).newObj (strsA (out ++ [c])), ?_, .inr ⟨S.no, by rw [hlen], hb, Nat.lt_succ_self _, by rw [newObj_obj, put_no, if_pos rfl], by simp⟩, rfl, fun S0 g hb0 => grow_newObj (g.put l .dead (by omega)) _, fun k hk => ?_⟩
     · have k6' : Nat.blt 0 1 = true := by decide
       simp only [builtinA, hd, hde, hi, appendA, elemsS, elemsOf, k3, appendXs, hsz, k5, k6', Bool.and_self, cond_true, k4, List.length_cons, List.length_nil, Nat.zero_add, hbl1, Nat.beq_refl, appendOsl, h2, hfl, hr, Bool.false_and, cond_false]
       have hq' : Nat.beq (out.length * 1) (strsA out).length = true := by rw [strsA_len, Nat.mul_one]; exact Nat.beq_refl _
       simp only [hq', cond_true, List.drop_zero]
       have : strsA out ++ [AV.sc (.string c)] = strsA (out ++ [c]) := by simp [strsA]
       rw [this]
     · have : k ≠ l := by omega
       rw [newObj_obj, put_no, if_neg (by omega)]
       simp only [St.obj, St.put, PM.get_set, this, if_false]
 · simp at ht
theorem strsA_set (l : List ByteArray) (k : Nat) (v : ByteArray) : (strsA l).set k (.sc (.string v)) = strsA (l.set k v) := by simp [strsA]
theorem MutS.set0 {b : Nat} {X : AV} {out : List ByteArray} (h : MutS b S X out) (h0 : 0 < out.length) (v : ByteArray) : ∃ P S2, (∀ S1, idxV 1 X (some 0) S1 = some (P, S1)) ∧ storeC 1 P (.sc (.string v)) S = some (passed, S2) ∧ MutS b S2 X (out.set 0 v) ∧ S2.no = S.no ∧ (∀ S0, Grow S0 S nilV → S0.no ≤ b → Grow S0 S2 nilV) ∧ (∀ k, k < b → S2.obj k = S.obj k) := by
 rcases h with ⟨rfl, rfl⟩ | ⟨l, rfl, hbl, h1, h2, h3⟩
 · simp at h0
 · refine ⟨.ptr l 0, S.put l (.cells (strsA (out.set 0 v))), fun S1 => ?_, ?_, .inr ⟨l, by rw [List.length_set], hbl, h1, by rw [put_obj, if_pos rfl], ?_⟩, rfl, fun S0 g hb0 => g.put l _ (by omega), fun k hk => by rw [put_obj, if_neg (by omega)]⟩
   · have a2 : decide (0 < out.length) = true := decide_eq_true h0
     simp [idxV, a2]
   · rw [store_1 _ _ _ rfl rfl, h2]
     have : 0 < (strsA out).length := by rw [strsA_len]; exact h0
     simp only [Option.bind_some, this, if_true, strsA_set]
   · intro e
     have := congrArg List.length e
     rw [List.length_set] at this
     simp at this
     exact h3 this
end
end Go.Proofs.YtmmnkemcplgebaaGreatDoor
end
end

section
section
set_option linter.unusedSimpArgs false
set_option linter.unusedVariables false
set_option maxRecDepth 100000
namespace Go.Proofs.YtmmnkemcplgebaaGreatDoor
open Go.Abs
theorem b_addstr {S : St} (t : TypeId) (x y : Operand) (a b : ByteArray) (h : a.size + b.size ≤ 2 ^ 62) : binGen E .add t x y (.sc (.string a)) (.sc (.string b)) S = some (.sc (.string (a ++ b)), S) := by
 have h2 : ¬ ((a.size + b.size : Nat) : Int) > IntKind.i64.max := by
  have : IntKind.i64.max = 9223372036854775807 := rfl
  rw [this]; omega
 simp only [binGen, conc, binOp, Op.stringOp, if_neg h2]
 rfl
theorem sz_get {l : List ByteArray} {n : Nat} (h : sumF l ≤ n) {k : Nat} (hk : k < l.length) : l[k].size ≤ n := by
 have : ∀ (l : List ByteArray) (s : ByteArray), s ∈ l → s.size ≤ sumF l := by
  intro l
  induction l with
  | nil => intro s hs; cases hs
  | cons a r ih =>
   intro s hs
   rw [sumF_cons]
   rcases List.mem_cons.1 hs with rfl | hs
   · omega
   · have := ih s hs; omega
 exact Nat.le_trans (this l _ (List.getElem_mem hk)) h
theorem kd_get {l : List ByteArray} {k : Nat} (hk : k < l.length) : kd l k = l[k] := by simp [kd, List.getD, hk]
theorem armsF_drop {l : List ByteArray} {j : Nat} (h1 : j < l.length) (h2 : j + 1 < l.length) : armsF (l.drop j) = ((l[j] ++ (⟨#[32, 45, 62, 32]⟩ : ByteArray)) ++ l[j + 1]) :: armsF (l.drop (j + 2)) := by
 rw [List.drop_eq_getElem_cons h1, List.drop_eq_getElem_cons h2, armsF]
set_option maxHeartbeats 8000000 in
theorem values_ok (name : ByteArray) (ks : List ByteArray) (X : AV) (S : St) (hS : S.Fresh) (hX : RdS S X ks) (hl : ks.length ≤ 1000) (hn : name.size ≤ 1000) (hs : sumF ks ≤ 100000) :
 ∃ r S', EvA E 67 [.sc (.string name), X] S r S' ∧ r = .sc (.string (valuesF name ks)) ∧ Grow S S' nilV := by
 refine ev67 rfl ?_
 have hj := join_le ks (⟨#[44, 32]⟩ : ByteArray) (by decide)
 have je := join_ev hX (⟨#[44, 32]⟩ : ByteArray) (by omega) (by omega)
 cases ks with
 | nil =>
  have c0 : (((0 : Nat) : Int) == 0) = true := rfl
  simp only [SXa, reduceCtorEq, Nat.reduceEqDiff, Nat.reduceAdd, len31, r67_0, r67_1, r67_2, r67_3, p67, hX.len, c0]
  exact ⟨rfl, Grow.refl hS _⟩
 | cons a r =>
  have c0 : ((((a :: r).length : Nat) : Int) == 0) = false := by
   rw [beq_eq_false_iff_ne]
   simp only [List.length_cons]; omega
  have a1 : name.size + ((⟨#[32, 40]⟩ : ByteArray)).size ≤ 2 ^ 62 := by simp only [sz_lit, List.length_cons, List.length_nil]; omega
  have a2 : (name ++ (⟨#[32, 40]⟩ : ByteArray)).size + (joinF (a :: r) (⟨#[44, 32]⟩ : ByteArray)).size ≤ 2 ^ 62 := by simp only [ByteArray.size_append, sz_lit, List.length_cons, List.length_nil]; omega
  have a3 : ((name ++ (⟨#[32, 40]⟩ : ByteArray)) ++ joinF (a :: r) (⟨#[44, 32]⟩ : ByteArray)).size + ((⟨#[41]⟩ : ByteArray)).size ≤ 2 ^ 62 := by simp only [ByteArray.size_append, sz_lit, List.length_cons, List.length_nil]; omega
  have hlen := hX.len
  generalize hq : (a :: r).length = q at hlen c0
  simp only [SXa, reduceCtorEq, Nat.reduceEqDiff, Nat.reduceAdd, len31, call64, r67_0, r67_1, r67_2, r67_3, p67, hlen, c0, b_addstr _ _ _ _ _ a1]
  refine callK_of je ?_
  simp only [SXa, reduceCtorEq, Nat.reduceEqDiff, b_addstr _ _ _ _ _ a2, b_addstr _ _ _ _ _ a3]
  exact ⟨rfl, Grow.refl hS _⟩
set_option maxHeartbeats 8000000 in
theorem arms_ok (l : List ByteArray) (X : AV) (S : St) (hS : S.Fresh) (hX : RdS S X l) (hev : l.length % 2 = 0) (hl : l.length ≤ 1000) (hs : sumF l ≤ 100000) :
 ∃ r S', EvA E 90 [X] S r S' ∧ r = .sc (.string (joinF (armsF l) (⟨#[32, 124, 32]⟩ : ByteArray))) ∧ Grow S S' nilV := by
 refine ev90 rfl ?_
 simp only [SXa, Nat.reduceAdd, r90_0, r90_1, r90_2, r90_7, p90]
 refine e_loop (fun tm S' N => ∃ (j : Nat) (Y : AV) (ws : List ByteArray), j ≤ l.length ∧ N = l.length - j ∧ (l.length - j) % 2 = 0 ∧ ws ++ armsF (l.drop j) = armsF l ∧ ws.length ≤ j ∧ OwnV S' 9 1 Y (strsA ws) ∧ Newish S Y ∧ Grow S S' nilV ∧ getT tm 0 = X ∧ getT tm 3 = Y ∧ getT tm 4 = .sc (.int .i64 (j : Int))) l.length
  ⟨0, nilV, [], by omega, by omega, by omega, rfl, by simp, OwnV.nil' _ _ _, .inl rfl, Grow.refl hS nilV, by simp [getT_setD]⟩ ?_
 rintro tm S1 N ⟨j, Y, ws, hj, rfl, hp, hw, hwl, hY, hN, hG, t0, t3, t4⟩
 by_cases hjt : j < l.length
 case neg =>
  have hje : j = l.length := by omega
  rw [hje, List.drop_length] at hw
  simp only [armsF, List.append_nil] at hw
  have hjn := join_ev (S := S1) (.inl hY.is) (⟨#[32, 124, 32]⟩ : ByteArray) (by omega) (by rw [hw]; have := armsJ_le l; omega)
  simp only [SXa, reduceCtorEq, Nat.reduceEqDiff, len31, call64, b90_6, r90_3, r90_4, r90_5, t0, t3, t4, hX.len, dec_nlt hjt]
  refine callK_of hjn ?_
  simp only [SXa, Nat.reduceEqDiff]
  exact ⟨by rw [hw], hG⟩
 case pos =>
 have hj1 : j + 1 < l.length := by omega
 have gr := Grow.raise hG.fresh 15 nilV
 have hG2 := hG.two gr
 have hX2 := hX.grow hG2
 obtain ⟨P, p1, p2, _⟩ := hX.idx hjt
 obtain ⟨Q, q1, q2, _⟩ := hX.idx hj1
 have l1 := p2 _ hX2
 have l2 := q2 _ hX2
 have wj : IntKind.i64.wrap ((j : Int) + 1) = ((j + 1 : Nat) : Int) := by rw [wrap_i64 (by omega) (by omega)]; omega
 have wj2 : IntKind.i64.wrap ((j : Int) + 2) = ((j + 2 : Nat) : Int) := by rw [wrap_i64 (by omega) (by omega)]; omega
 have s1 := sz_get hs hjt
 have s2 := sz_get hs hj1
 have a1 : l[j].size + ((⟨#[32, 45, 62, 32]⟩ : ByteArray)).size ≤ 2 ^ 62 := by simp only [sz_lit, List.length_cons, List.length_nil]; omega
 have a2 : (l[j] ++ (⟨#[32, 45, 62, 32]⟩ : ByteArray)).size + l[j + 1].size ≤ 2 ^ 62 := by simp only [ByteArray.size_append, sz_lit, List.length_cons, List.length_nil]; omega
 obtain ⟨Z, S3, ap, hZ, hNZ, hG3, no3, ob3, g3⟩ := app_strs (hY.keep gr) hN hG2 (bsl1' ((l[j] ++ (⟨#[32, 45, 62, 32]⟩ : ByteArray)) ++ l[j + 1])) (by simp only [List.length_cons, List.length_nil]; omega)
 rw [armsF_drop hjt hj1] at hw
 simp only [SXa, reduceCtorEq, Nat.reduceEqDiff, Nat.reduceBEq, load9, bs31, app31, index31, len31, b90_6, r90_3, r90_4, r90_5, t0, t3, t4, hX.len, dec_lt hjt, p1, l1, wj, q1, l2, b_addstr _ _ _ _ _ a1, b_addstr _ _ _ _ _ a2, bsl1, ap, wj2]
 exact ⟨l.length - (j + 2), by omega, j + 2, Z, _, by omega, rfl, by omega, by rw [List.append_assoc]; exact hw, by rw [List.length_append]; simp only [List.length_cons, List.length_nil]; omega, hZ, hNZ, hG3, by simp []⟩
def fitsF (x : NodeV) (n : Nat) : Prop :=
 ((x.kind = 6 ∨ x.kind = 15 ∨ x.kind = 16 ∨ x.kind = 17 ∨ x.kind = 19) ∧ n = 1) ∨ ((x.kind = 7 ∨ x.kind = 8 ∨ x.kind = 9 ∨ x.kind = 12 ∨ x.kind = 13 ∨ x.kind = 14 ∨ x.kind = 20) ∧ n = 2) ∨ (x.kind = 10 ∧ n = 3) ∨ (x.kind = 11 ∧ 3 ≤ n ∧ n % 2 = 1)
set_option maxHeartbeats 64000000 in
theorem inner_ok (x : NodeV) (ks : List ByteArray) (X : AV) (S : St) (hS : S.Fresh) (hX : RdS S X ks) (hf : fitsF x ks.length) (hl : ks.length ≤ 1000) (hn : x.name.size ≤ 1000) (hp : x.param.size ≤ 1000) (hs : sumF ks ≤ 100000) :
 ∃ r S', EvA E 68 [.agg (nodeA x), X] S r S' ∧ r = .sc (.string (innerF x ks)) ∧ Grow S S' nilV := by
 refine ev68 rfl ?_
 have hG := (Grow.refl hS nilV).born 30 (nodeA x)
 have hN : (S.born 30 (nodeA x)).obj S.no = some (nodeA x) := by simp [born_obj]
 simp only [SXa, reduceCtorEq, Nat.reduceAdd, r68_0, r68_1, r68_2, r68_3, r68_4, r68_5, r68_6, r68_7, r68_8, r68_9, r68_10, r68_11, r68_12, r68_15, r68_16, r68_17, r68_18, r68_19, r68_20, r68_21, r68_22, r68_23, r68_24, r68_25, r68_26, r68_27, r68_28, r68_29, p68, op_box, cells_agg]
 generalize S.born 30 (nodeA x) = S0 at hG hN
 simp only [nodeA] at hN
 have hX0 := hX.grow hG
 have hGr : ∀ n, Grow S (S0.raise n) nilV := fun n => hG.two (Grow.raise hG.fresh n nilV)
 have hXr : ∀ n, RdS (S0.raise n) X ks := fun n => hX.grow (hGr n)
 have z0 : (kd ks 0).size + (kd ks 1).size + (kd ks 2).size ≤ 100000 := Nat.le_trans (kd_sum ks) hs
 have h0 : 0 < ks.length := by
  rcases hf with ⟨_, h⟩ | ⟨_, h⟩ | ⟨_, h⟩ | ⟨_, h, _⟩ <;> omega
 obtain ⟨P, p1, p2, p3⟩ := hX.idx h0
 rw [← kd_get h0] at p2
 have m0 := p2 S0 hX0
 have r0 := fun n => p2 _ (hXr n)
 have p1 : ∀ S1, idxV 1 X (some 0) S1 = some (P, S1) := p1
 rcases hf with ⟨hk, h⟩ | ⟨hk, h⟩ | ⟨hk, h⟩ | ⟨hk, h, ho⟩
 · rcases hk with hk | hk | hk | hk | hk
   all_goals
    simp (maxSteps := 3000000) (disch := first | rfl | (simp only [ByteArray.size_append, sz_lit, List.length_cons, List.length_nil]; omega)) only [SXa, reduceCtorEq, Nat.reduceEqDiff, Int.reduceBEq, load3, load9, index31, load_pb, raise_obj, hN, fldN, fld_p, hk, Option.bind_some, Nat.add_zero, Nat.zero_add, p1, m0, r0, b_addstr]
    first
     | exact ⟨by simp only [innerF, hk, Int.reduceBEq, cond_true, cond_false], hGr _⟩
     | exact ⟨by simp only [innerF, hk, Int.reduceBEq, cond_true, cond_false], hG⟩
 · obtain ⟨Q, q1, q2, q3⟩ := hX.idx (k := 1) (by omega)
   rw [← kd_get (k := 1) (by omega)] at q2
   have q1 : ∀ S1, idxV 1 X (some 1) S1 = some (Q, S1) := q1
   have r1 := fun n => q2 _ (hXr n)
   rcases hk with hk | hk | hk | hk | hk | hk | hk
   all_goals
    simp (maxSteps := 3000000) (disch := first | rfl | (simp only [ByteArray.size_append, sz_lit, List.length_cons, List.length_nil]; omega)) only [SXa, reduceCtorEq, Nat.reduceEqDiff, Int.reduceBEq, load3, load9, index31, load_pb, raise_obj, hN, fldN, fld_p, hk, Option.bind_some, Nat.add_zero, Nat.zero_add, p1, q1, r0, r1, b_addstr]
    exact ⟨by simp only [innerF, hk, Int.reduceBEq, cond_true, cond_false], hGr _⟩
 · obtain ⟨Q, q1, q2, q3⟩ := hX.idx (k := 1) (by omega)
   rw [← kd_get (k := 1) (by omega)] at q2
   have q1 : ∀ S1, idxV 1 X (some 1) S1 = some (Q, S1) := q1
   have r1 := fun n => q2 _ (hXr n)
   obtain ⟨R, u1, u2, u3⟩ := hX.idx (k := 2) (by omega)
   rw [← kd_get (k := 2) (by omega)] at u2
   have u1 : ∀ S1, idxV 1 X (some 2) S1 = some (R, S1) := u1
   have r2 := fun n => u2 _ (hXr n)
   simp (maxSteps := 3000000) (disch := first | rfl | (simp only [ByteArray.size_append, sz_lit, List.length_cons, List.length_nil]; omega)) only [SXa, reduceCtorEq, Nat.reduceEqDiff, Int.reduceBEq, load3, load9, index31, load_pb, hN, fldN, fld_p, hk, Option.bind_some, Nat.add_zero, p1, q1, u1, r0, r1, r2, b_addstr]
   exact ⟨by simp only [innerF, hk, Int.reduceBEq, cond_true, cond_false], hGr _⟩
 · simp only [SXa, reduceCtorEq, Nat.reduceEqDiff, Int.reduceBEq, load3, load_pb, hN, fldN, fld_p, hk, Option.bind_some, Nat.add_zero]
   refine e_drawC noX draw68_0 ?_
   obtain ⟨Y, y1, y2⟩ := (hXr 11).tail h0 (S0.raise 11)
   have sd := sumF_drop ks
   have aj := armsJ_le (ks.drop 1)
   obtain ⟨r4, S4, e4, rfl, g4⟩ := arms_ok (ks.drop 1) Y (S0.raise 11) (hGr 11).fresh y2 (by rw [List.length_drop]; omega) (by rw [List.length_drop]; omega) (by omega)
   have hX4 := hX.grow ((hGr 11).two g4)
   have m4 := p2 _ hX4
   have sf := p3 _ _ hX0 ((Grow.raise hG.fresh 11 nilV).two g4)
   simp (maxSteps := 3000000) (disch := first | rfl | (simp only [ByteArray.size_append, sz_lit, List.length_cons, List.length_nil]; omega)) only [SXa, reduceCtorEq, Nat.reduceEqDiff, load9, index31, call90, r68_13, r68_14, p1, r0, b_addstr, y1]
   refine callK_of e4 ?_
   simp (maxSteps := 3000000) (disch := first | rfl | (simp only [ByteArray.size_append, sz_lit, List.length_cons, List.length_nil]; omega)) only [SXa, reduceCtorEq, Nat.reduceEqDiff, b_addstr, safe_cons, safe_nil, sf, Bool.and_self]
   exact ⟨by simp only [innerF, hk, Int.reduceBEq, cond_true, cond_false], (hGr 11).two g4⟩
end Go.Proofs.YtmmnkemcplgebaaGreatDoor
end
end

section
section
set_option linter.unusedSimpArgs false
set_option linter.unusedVariables false
set_option maxRecDepth 100000
namespace Go.Proofs.YtmmnkemcplgebaaGreatDoor
open Go.Abs
def boundF (ns : List NodeV) (x : NodeV) (i : Nat) : List ByteArray :=
 bif x.kind == 6 || (x.kind == 20 && ((i : Nat) : Int) == 1) then [x.param]
 else bif (x.kind == 8 && ((i : Nat) : Int) == 1) || (x.kind == 9 && ((i : Nat) : Int) == 1) then [x.name]
 else bif x.kind == 9 then [x.name, x.param]
 else bif x.kind == 11 && decide (0 < ((i : Nat) : Int)) && !armF ((i : Nat) : Int) then bindsF ns 60 (x.kids.getD (i - 1) 0).toNat else []
theorem kids_get {ns : List NodeV} {ds : List DeclV} {d : Nat} (pat m : Bool) : ∀ (l : List Int) (i nx z : Nat), kidsW (walkF ns ds d) pat m l i nx = some z → ∀ j (hj : j < l.length), ∃ p q q1, nx ≤ q ∧ q1 ≤ z ∧ l[j] = ((q : Nat) : Int) ∧ walkF ns ds d p q = some q1
 | [], i, nx, z, h, j, hj => by simp at hj
 | k :: r, i, nx, z, h, j, hj => by
  unfold kidsW at h
  cases hb : (k == ((nx : Nat) : Int)) with
  | false => rw [hb] at h; cases h
  | true =>
   rw [hb, cond_true] at h
   have hk : k = ((nx : Nat) : Int) := by simpa using hb
   cases hq : walkF ns ds d (pat || (m && armF ((i : Nat) : Int))) nx with
   | none => rw [hq] at h; cases h
   | some z1 =>
    rw [hq] at h
    have h3 := walk_bd _ _ _ _ _ _ hq
    have h4 := (kidsW_bd (n := ns.length) (walk_bd ns ds d) pat m r (i + 1) z1 z h3.2 h).1
    match j, hj with
    | 0, _ => exact ⟨_, nx, z1, Nat.le_refl _, h4, hk, hq⟩
    | j + 1, hj =>
     obtain ⟨p, q, q1, a1, a2, a3, a4⟩ := kids_get pat m r (i + 1) z1 z h j (by simpa using hj)
     exact ⟨p, q, q1, by omega, a2, a3, a4⟩
set_option maxHeartbeats 16000000 in
theorem bound_ok (t : TreeV) (nx tx : AV) (ht : TreeIs nx tx t) (d : Nat) (hd : d ≤ 60) (pat : Bool) (a z i : Nat) (x : NodeV) (hx : x ∈ t.nodes) (hw : kidsW (walkF t.nodes t.types d) pat (x.kind == 11) x.kids 0 (a + 1) = some z) (hi : i < x.kids.length) (S : St) (hS : S.Fresh) :
 ∃ r S', EvA E 61 [.agg [nx, tx], .agg (nodeA x), .sc (.int .i64 (i : Nat))] S r S' ∧ IsV 1 r (strsA (boundF t.nodes x i)) ∧ Grow S S' nilV := by
 have hkl := ht.lk x hx
 refine ev61 rfl ?_
 have hG := ((Grow.refl hS nilV).born 25 [nx, tx]).born 30 (nodeA x)
 have hN : ((S.born 25 [nx, tx]).born 30 (nodeA x)).obj (S.no + 1) = some (nodeA x) := by simp [born_obj, born_no]
 have hT : ((S.born 25 [nx, tx]).born 30 (nodeA x)).obj S.no = some [nx, tx] := by simp [born_obj, born_no]
 have hn : S.no + 1 < ((S.born 25 [nx, tx]).born 30 (nodeA x)).no := by simp only [born_no]; omega
 simp only [SXa, reduceCtorEq, Nat.reduceEqDiff, Nat.reduceAdd, r61_0, r61_1, r61_2, r61_3, r61_4, r61_5, r61_6, r61_7, r61_8, r61_9, r61_10, r61_11, p61, op_box, cells_agg, born_no]
 generalize (S.born 25 [nx, tx]).born 30 (nodeA x) = S0 at hG hN hT hn
 simp only [nodeA] at hN
 have hpos : decide (0 < ((i : Nat) : Int)) = true → 0 < i := fun h => by simpa using h
 have wi : 0 < i → IntKind.i64.wrap ((i : Int) - 1) = ((i - 1 : Nat) : Int) := fun h => by rw [wrap_i64 (by omega) (by omega)]; omega
 cases k6 : (x.kind == 6) <;> cases k20 : (x.kind == 20) <;> cases k8 : (x.kind == 8) <;> cases k9 : (x.kind == 9) <;> cases k11 : (x.kind == 11) <;> cases ci : (((i : Nat) : Int) == 1) <;> cases cp : decide (0 < ((i : Nat) : Int))
 all_goals simp only [SXa, reduceCtorEq, Nat.reduceEqDiff, Nat.reduceBEq, load3, load9, bs31, call57, load_pb, hN, fldN, fld_p, Option.bind_some, Nat.add_zero, Nat.zero_add, bsl1, bsl2, k6, k20, k8, k9, k11, ci, cp]
 all_goals try (first
  | exact ⟨by simp only [boundF, Bool.or_true, Bool.or_false, Bool.true_and, Bool.false_and, Bool.and_true, Bool.and_false, cond_true, cond_false, k6, k20, k8, k9, k11, ci, cp]; exact IsV.nil 1, hG⟩
  | exact ⟨by simp only [boundF, Bool.or_true, Bool.or_false, Bool.true_and, Bool.false_and, Bool.and_true, Bool.and_false, cond_true, cond_false, k6, k20, k8, k9, k11, ci, cp]; exact IsV.vec 1 1 _, hG⟩)
 all_goals
  have hp := hpos cp
  obtain ⟨p, q, q1, a1, a2, a3, a4⟩ := kids_get pat _ _ 0 (a + 1) z hw (i - 1) (by omega)
  have hgd : x.kids.getD (i - 1) 0 = ((q : Nat) : Int) := by
   have hlt : i - 1 < x.kids.length := by omega
   rw [← a3]
   simp [List.getD, hlt]
  refine callK_ans (arm_ans _) hG (fun S2 g2 hG2 => ?_)
  have hN2 := g2.objs hN hn
  have hT2 := g2.objs hT (by omega)
  cases c9 : armF ((i : Nat) : Int) with
  | true =>
   simp only [SXa, reduceCtorEq, Nat.reduceEqDiff]
   exact ⟨by simp only [boundF, c9, Bool.not_true, Bool.or_false, Bool.and_true, Bool.and_false, cond_false, k6, k20, k8, k9, k11, ci, cp]; exact IsV.nil 1, hG2⟩
  | false =>
   have gr := Grow.raise hG2.fresh 9 nilV
   have hG3 := hG2.two gr
   obtain ⟨r4, S4, e4, ⟨hY, _⟩, g4⟩ := binds_ok t nx tx ht d 60 hd p q q1 a4 (S2.raise 9) hG3.fresh
   simp only [SXa, reduceCtorEq, Nat.reduceEqDiff, Nat.reduceAdd, load3, load25, load28, index28, call31, raise_obj, load_pb, hN2, hT2, fldN, fld_p, Option.bind_some, Nat.zero_add, Nat.le_refl, wi hp, idxI (x := x) (k := i - 1) (by omega), a3]
   refine callK_of e4 ?_
   simp only [SXa, reduceCtorEq, Nat.reduceEqDiff]
   exact ⟨by simp only [boundF, c9, hgd, Int.toNat_natCast, Bool.not_false, Bool.or_false, Bool.and_true, Bool.and_false, cond_true, cond_false, k6, k20, k8, k9, k11, ci, cp]; exact hY.is, hG3.two g4⟩
end Go.Proofs.YtmmnkemcplgebaaGreatDoor
end
end
