/-
  More of the calculus: sets of texts: taking out, laying one into another, the texts sorted.
  Trees: how deep a node is (the walks of depth, has, Depth).
  Trees as texts, in plain terms, and how long these are.
-/
import Derived.Test.YtmmnkemcplgebaaGreatDoorQBD
import Derived.Test.YtmmnkemcplgebaaGreatDoorQAZ
import Derived.Test.YtmmnkemcplgebaaGreatDoorQBH
import Derived.Lib.Join
import Derived.Lib.ItoaLen
section
section
set_option linter.unusedSimpArgs false
set_option linter.unusedVariables false
set_option maxRecDepth 100000
namespace Go.Abs
open Go.Proofs (encStr)
def bytesL (s : ByteArray) : List UInt8 := s.data.toList
theorem bytesL_inj {a b : ByteArray} (h : bytesL a = bytesL b) : a = b := by
 cases a; cases b
 simp only [bytesL] at h
 rw [Array.toList_inj.1 h]
theorem setL_setA (ks : List ByteArray) : setL (ks.map bytesL) = setA ks := by
 simp only [setL, setA, List.map_map]
 rfl
theorem beq_b {a b : ByteArray} : (a == b) = true ↔ a = b := by
 cases a; cases b
 simp only [ByteArray.mk.injEq]
 exact beq_iff_eq (α := Array UInt8)
theorem inB_mem {s : ByteArray} {ks : List ByteArray} : inB s ks = true ↔ s ∈ ks := by
 simp only [inB, List.any_eq_true, beq_b]
 constructor
 · rintro ⟨x, hx, rfl⟩; exact hx
 · intro h; exact ⟨s, h, rfl⟩
theorem inB_false {s : ByteArray} {ks : List ByteArray} : inB s ks = false ↔ s ∉ ks := by
 rw [← inB_mem, Bool.not_eq_true]
def delB (s : ByteArray) : List ByteArray → List ByteArray
 | [] => []
 | k :: r => bif s == k then r else k :: delB s r
theorem delB_list (s : ByteArray) : ∀ ks : List ByteArray, (delB s ks).Sublist ks
 | [] => List.Sublist.refl _
 | k :: r => by
  unfold delB
  cases (s == k) with
  | true => exact List.sublist_cons_self _ _
  | false => exact (delB_list s r).cons_cons k
theorem delKey_setA (s : ByteArray) : ∀ ks, delKey .string (.string s) (setA ks) = setA (delB s ks)
 | [] => rfl
 | k :: r => by
  have ih := delKey_setA s r
  simp only [setA, List.map_cons, delKey, delB, Instr.sameNow] at ih ⊢
  cases (s == k) with
  | true => rfl
  | false => simp only [cond_false, List.map_cons, ih]
section
variable {E : Env} {S : St}
theorem set_map {l : Nat} {ks : List ByteArray} (h : S.IsSet l ks) : S.map l = some (setA ks) := by unfold St.IsSet at h; simp only [St.map, h]
theorem set_delete {t kt et u : TypeId} (ht : E.und t = some (.map kt et)) (hk : E.und kt = some .string) {l : Nat} {ks : List ByteArray} (h : S.IsSet l ks) (s : ByteArray) :
 builtinA E false .delete [t, u] [.mp l, .sc (.string s)] S = some (passed, S.put l (.mp (setA (delB s ks)))) := by
 have h2 : isKey .string (.string s) = true := rfl
 simp only [builtinA, deleteA, ht, hk, keyOf, set_map h, h2, isKey_setA, Bool.and_self, cond_true, delKey_setA]
end
theorem trueKeys_setA : ∀ ks : List ByteArray, (∀ s ∈ ks, s.size ≤ 1000000) → trueKeys (setA ks) = some (ks.map bytesL)
 | [], _ => rfl
 | k :: r, h => by
  have ih := trueKeys_setA r fun s hs => h s (List.mem_cons_of_mem _ hs)
  have hk : Nat.ble k.size 1000000 = true := Nat.ble_eq_true_of_le (h k (List.mem_cons_self ..))
  simp only [setA, List.map_cons, trueKeys, hk, cond_true] at ih ⊢
  rw [ih]; rfl
theorem keysOf_setA : ∀ ks : List ByteArray, (∀ s ∈ ks, s.size ≤ 1000000) → keysOf (setA ks) = some (ks.map bytesL)
 | [], _ => rfl
 | k :: r, h => by
  have ih := keysOf_setA r fun s hs => h s (List.mem_cons_of_mem _ hs)
  have hk : Nat.ble k.size 1000000 = true := Nat.ble_eq_true_of_le (h k (List.mem_cons_self ..))
  simp only [setA, List.map_cons, keysOf, hk, cond_true] at ih ⊢
  rw [ih]; rfl
def unionB (ks js : List ByteArray) : List ByteArray := ks ++ js.filter fun s => !inB s ks
theorem any_bytes (s : ByteArray) : ∀ ks : List ByteArray, (ks.map bytesL).any (fun t => t == bytesL s) = inB s ks
 | [] => rfl
 | k :: r => by
  have ih := any_bytes s r
  simp only [inB] at ih
  simp only [List.map_cons, List.any_cons, inB, ih]
  congr 1
  rw [Bool.eq_iff_iff, beq_iff_eq, beq_b]
  exact ⟨fun h => (bytesL_inj h).symm, fun h => by rw [h]⟩
theorem filter_bytes (ks : List ByteArray) : ∀ js : List ByteArray, (js.map bytesL).filter (fun s => !(ks.map bytesL).any fun t => t == s) = (js.filter fun s => !inB s ks).map bytesL
 | [] => rfl
 | j :: r => by
  have ih := filter_bytes ks r
  simp only [List.map_cons, List.filter_cons, any_bytes] at ih ⊢
  cases inB j ks with
  | true => simpa using ih
  | false => simpa using ih
theorem union_bytes (ks js : List ByteArray) : unionS (ks.map bytesL) (js.map bytesL) = (unionB ks js).map bytesL := by
 simp only [unionS, unionB, List.map_append, filter_bytes]
theorem mem_unionB {ks js : List ByteArray} {s : ByteArray} : s ∈ unionB ks js ↔ s ∈ ks ∨ s ∈ js := by
 simp only [unionB, List.mem_append, List.mem_filter, Bool.not_eq_true', inB_false]
 constructor
 · rintro (h | ⟨h, _⟩)
   · exact .inl h
   · exact .inr h
 · rintro (h | h)
   · exact .inl h
   · by_cases hk : s ∈ ks
     · exact .inl hk
     · exact .inr ⟨h, hk⟩
theorem len_unionB (ks js : List ByteArray) : (unionB ks js).length ≤ ks.length + js.length := by
 simp only [unionB, List.length_append]
 have := List.length_filter_le (fun s => !inB s ks) js
 omega
theorem copy_set {S : St} {l m : Nat} {ks js : List ByteArray} (hne : l ≠ m) (h1 : S.IsSet l ks) (h2 : S.IsSet m js) (b1 : ks.length ≤ 1000000) (b2 : js.length ≤ 1000000) (s1 : ∀ s ∈ ks, s.size ≤ 1000000) (s2 : ∀ s ∈ js, s.size ≤ 1000000) :
 copyX [.mp l, .mp m] S = some (.tup [], S.put l (.mp (setA (unionB ks js)))) := by
 have hb : Nat.beq l m = false := by
  cases h : Nat.beq l m with
  | false => rfl
  | true => exact absurd (Nat.eq_of_beq_eq_true h) hne
 have e1 : Nat.ble (ks.map bytesL).length 1000000 = true := Nat.ble_eq_true_of_le (by simpa using b1)
 have e2 : Nat.ble (js.map bytesL).length 1000000 = true := Nat.ble_eq_true_of_le (by simpa using b2)
 simp only [copyX, hb, cond_false, set_map h1, set_map h2, trueKeys_setA ks s1, trueKeys_setA js s2, e1, e2, Bool.and_self, cond_true, union_bytes, setL_setA]
noncomputable def sortB (ks : List ByteArray) : List ByteArray := (sortS (ks.map bytesL)).map fun l => ⟨l.toArray⟩
theorem sortB_perm (ks : List ByteArray) : (sortB ks).Perm ks := by
 have h := (sortS_perm (ks.map bytesL)).map fun l => (⟨l.toArray⟩ : ByteArray)
 refine h.trans ?_
 rw [List.map_map]
 have : (fun l => (⟨l.toArray⟩ : ByteArray)) ∘ bytesL = id := by funext s; rfl
 rw [this, List.map_id]
theorem sort_set {S : St} {g bx l : Nat} {sh : TypeId × Nat} {ks : List ByteArray} (h1 : S.IsSet l ks) (hs : S.shp.get bx = some sh) (ho : S.obj bx = some [.mp l]) (b1 : ks.length ≤ 1000000) (s1 : ∀ s ∈ ks, s.size ≤ 1000000) :
 ∃ r, sortedV g [.fn (.func g) [] [.ptr bx 0]] S = some (r, S) ∧ IsV 1 r ((sortB ks).map fun s => .sc (.string s)) := by
 have e1 : Nat.ble (setA ks).length 1000000 = true := Nat.ble_eq_true_of_le (by simpa [setA] using b1)
 have e2 : Nat.beq g g = true := Nat.beq_refl g
 simp only [sortedV, hs, ho, set_map h1, e1, e2, Bool.and_self, cond_true, keysOf_setA ks s1]
 cases h : sortS (ks.map bytesL) with
 | nil => exact ⟨_, rfl, .inl ⟨rfl, by simp [sortB, h]⟩⟩
 | cons k r =>
  refine ⟨_, rfl, .inr ⟨0, ?_⟩⟩
  simp only [sortB, h, List.map_map]
  rfl
end Go.Abs
end
end

section
section
set_option linter.unusedSimpArgs false
set_option linter.unusedVariables false
set_option maxRecDepth 100000
namespace Go.Proofs.YtmmnkemcplgebaaGreatDoor
open Go.Abs
def depthF (ns : List NodeV) : Nat → Nat → Nat
 | 0, _ => 0
 | f + 1, a => match ns[a]? with
  | some x => (x.kids.map fun k => depthF ns f k.toNat).foldl max 0 + 1
  | none => 0
theorem max_int (a b : Int) (t u : TypeId) (S : St) : builtinA E false .max [t, u] [.sc (.int .i64 a), .sc (.int .i64 b)] S = some (.sc (.int .i64 (if b > a then b else a)), S) := rfl
theorem op_max {tm : PM AV} {S : St} {d : Option Tmp} (x y : Operand) (t u : TypeId) : opV E tm d (.call (Call.mk (.builtin .max) #[x, y] #[t, u])) S = builtinA E false .max [t, u] [E.ev tm x, E.ev tm y] S := rfl
theorem kids_depth {ns : List NodeV} {f d : Nat} {ds : List DeclV} (ih : ∀ p a z, walkF ns ds d p a = some z → depthF ns f a ≤ d) (pat m : Bool) : ∀ (l : List Int) (i nx z n : Nat), kidsW (walkF ns ds d) pat m l i nx = some z → n ≤ d → (l.map fun k => depthF ns f k.toNat).foldl max n ≤ d
 | [], i, nx, z, n, h, hn => by simpa using hn
 | k :: r, i, nx, z, n, h, hn => by
  unfold kidsW at h
  cases hb : (k == ((nx : Nat) : Int)) with
  | false => rw [hb] at h; cases h
  | true =>
   rw [hb, cond_true] at h
   have hk : k = ((nx : Nat) : Int) := by simpa using hb
   cases hq : walkF ns ds d (pat || (m && armF ((i : Nat) : Int))) nx with
   | none => rw [hq] at h; cases h
   | some z1 =>
    rw [hq] at h
    have h1 := ih _ _ _ hq
    simp only [List.map_cons, List.foldl_cons, hk, Int.toNat_natCast]
    exact kids_depth ih pat m r (i + 1) z1 z _ h (by omega)
theorem walk_kids {ns : List NodeV} {ds : List DeclV} {d : Nat} {pat : Bool} {a z : Nat} (h : walkF ns ds (d + 1) pat a = some z) (hlt : a < ns.length) : kidsW (walkF ns ds d) pat (ns[a].kind == 11) ns[a].kids 0 (a + 1) = some z := by
 have hx : ns[a]? = some ns[a] := List.getElem?_eq_getElem hlt
 unfold walkF at h
 rw [hx] at h
 simp only [cond_eq_ite] at h
 split at h
 · cases h
 · exact h
theorem depth_le (ns : List NodeV) (ds : List DeclV) : ∀ (d f : Nat), d ≤ f → ∀ (pat : Bool) (a z : Nat), walkF ns ds d pat a = some z → depthF ns f a ≤ d
 | 0, f, hf, pat, a, z, h => by cases h
 | d + 1, 0, hf, pat, a, z, h => by omega
 | d + 1, f + 1, hf, pat, a, z, h => by
  have hbd := walk_bd _ _ _ _ _ _ h
  have hlt : a < ns.length := by omega
  have hk := walk_kids h hlt
  rw [depthF, List.getElem?_eq_getElem hlt]
  have := kids_depth (f := f) (depth_le ns ds d f (by omega)) pat _ _ 0 (a + 1) z 0 hk (by omega)
  simp only
  omega
set_option maxHeartbeats 16000000 in
theorem depth_ans (t : TreeV) (nx tx : AV) (ht : TreeIs nx tx t) : ∀ (d f : Nat), d ≤ f → d ≤ 100 → ∀ (pat : Bool) (a z : Nat), walkF t.nodes t.types d pat a = some z → Ans E 36 [.agg [nx, tx], .sc (.int .i64 (a : Nat))] (.sc (.int .i64 (depthF t.nodes f a : Nat)))
 | 0, f, hf, hd, pat, a, z, h => by cases h
 | d + 1, 0, hf, hd, pat, a, z, h => by omega
 | d + 1, f + 1, hf, hd, pat, a, z, h => ans_of fun S hS => by
  have hbd := walk_bd _ _ _ _ _ _ h
  have hlt : a < t.nodes.length := by omega
  have hkl := ht.lk _ (List.getElem_mem hlt)
  have hw := walk_kids h hlt
  have hle := kids_depth (f := f) (depth_le t.nodes t.types d f (by omega)) pat _ _ 0 (a + 1) z 0 hw (by omega)
  have eb : depthF t.nodes (f + 1) a = (t.nodes[a].kids.map fun k => depthF t.nodes f k.toNat).foldl max 0 + 1 := by
   rw [depthF, List.getElem?_eq_getElem hlt]
  rw [eb]
  refine ev36 rfl ?_
  have hb1 := (Grow.refl hS nilV).born 25 [nx, tx]
  have hT1 : (S.born 25 [nx, tx]).obj S.no = some [nx, tx] := by simp [born_obj]
  have hn1 : S.no < (S.born 25 [nx, tx]).no := Nat.lt_succ_self _
  simp only [SXa, reduceCtorEq, Nat.reduceAdd, r36_0, r36_1, r36_2, r36_8, p36, op_box, cells_agg]
  generalize S.born 25 [nx, tx] = S1 at hb1 hT1 hn1
  simp only [SXa, reduceCtorEq, Nat.reduceEqDiff, load22, index22, load28, len28, fldT0, fldN, fld_p, fld_e, load_pb, hT1, Option.bind_some, Nat.zero_add, Nat.add_zero, idxN ht.nodes hlt, nodeA, lenK]
  refine e_loop (fun tm S' N => ∃ (i q n : Nat), i ≤ t.nodes[a].kids.length ∧ N = t.nodes[a].kids.length - i ∧ kidsW (walkF t.nodes t.types d) pat (t.nodes[a].kind == 11) (t.nodes[a].kids.drop i) i q = some z ∧
   ((t.nodes[a].kids.drop i).map fun k => depthF t.nodes f k.toNat).foldl max n = (t.nodes[a].kids.map fun k => depthF t.nodes f k.toNat).foldl max 0 ∧
   S'.obj S.no = some [nx, tx] ∧ Grow S S' nilV ∧ S.no < S'.no ∧ getT tm 2 = .ptr S.no 0 ∧ getT tm 5 = .sc (.int .i64 (n : Int)) ∧ getT tm 13 = (kidsA t.nodes[a]) ∧ getT tm 14 = .sc (.int .i64 (t.nodes[a].kids.length : Nat)) ∧ getT tm 15 = .sc (.int .i64 (i : Int))) t.nodes[a].kids.length
   ⟨0, a + 1, 0, by omega, by omega, by rw [List.drop_zero]; exact hw, by rw [List.drop_zero], hT1, hb1, by omega, by simp [getT_setD]⟩ ?_
  rintro tm S3 N ⟨i, q, n, hi, rfl, hq, hfl, hT3, hb3, hn3, t2, t5, t13, t14, t15⟩
  have hln := ht.ln
  by_cases hit : i < t.nodes[a].kids.length
  case neg =>
   have hie : i = t.nodes[a].kids.length := by omega
   rw [hie, List.drop_length] at hfl
   simp only [List.map_nil, List.foldl_nil] at hfl
   have wn : IntKind.i64.wrap ((n : Int) + 1) = ((n + 1 : Nat) : Int) := by rw [wrap_i64 (by omega) (by omega)]; omega
   simp only [SXa, Nat.reduceEqDiff, b36_7, r36_3, r36_4, r36_5, r36_6, t5, t14, t15, dec_nlt hit, wn]
   rw [← hfl]
   exact ⟨rfl, hb3⟩
  case pos =>
  have wi := wrapK hit (by omega)
  rw [kidsW_drop _ _ _ hit] at hq
  cases c6 : (t.nodes[a].kids[i] == ((q : Nat) : Int)) with
  | false => rw [c6] at hq; cases hq
  | true =>
  rw [c6, cond_true] at hq
  have hk : t.nodes[a].kids[i] = ((q : Nat) : Int) := by simpa using c6
  cases hw2 : walkF t.nodes t.types d (pat || (t.nodes[a].kind == 11 && armF ((i : Nat) : Int))) q with
  | none => rw [hw2] at hq; cases hq
  | some q1 =>
  rw [hw2] at hq
  have hm : (if ((depthF t.nodes f q : Nat) : Int) > (n : Int) then ((depthF t.nodes f q : Nat) : Int) else (n : Int)) = ((max n (depthF t.nodes f q) : Nat) : Int) := by split <;> omega
  rw [List.drop_eq_getElem_cons hit, List.map_cons, List.foldl_cons, hk, Int.toNat_natCast] at hfl
  simp only [SXa, Nat.reduceEqDiff, Nat.reduceAdd, load3, load25, index28, call36, b36_7, r36_3, r36_4, r36_5, r36_6, t2, t5, t13, t14, t15, dec_lt hit, idxI hit, hk, load_pb, hT3, Option.bind_some, Nat.zero_add, Nat.le_refl]
  refine callK_ans (depth_ans t nx tx ht d f (by omega) (by omega) _ q q1 hw2) hb3 (fun S4 g4 hb4 => ?_)
  have hT4 := g4.objs hT3 hn3
  have hn4 := Nat.lt_of_lt_of_le hn3 g4.no
  simp only [SXa, Nat.reduceEqDiff, t2, t5, t13, t14, t15, wi, op_max, max_int, hm]
  exact ⟨t.nodes[a].kids.length - (i + 1), by omega, i + 1, q1, _, by omega, rfl, hq, hfl, hT4, hb4, hn4, by simp []⟩
noncomputable def hasAt (t : TreeV) (i : Int) : Bool := decide (0 ≤ i) && decide (i < (t.nodes.length : Int)) && goodF t
set_option maxHeartbeats 16000000 in
theorem has_ans (t : TreeV) (nx tx : AV) (ht : TreeIs nx tx t) (i : Int) : Ans E 32 [.agg [nx, tx], .sc (.int .i64 i)] (.sc (.bool (hasAt t i))) := ans_of fun S hS => by
 refine ev32 rfl ?_
 have hG := (Grow.refl hS nilV).born 25 [nx, tx]
 have hT : (S.born 25 [nx, tx]).obj S.no = some [nx, tx] := by simp [born_obj]
 have hn : S.no < (S.born 25 [nx, tx]).no := Nat.lt_succ_self _
 simp only [SXa, reduceCtorEq, Nat.reduceEqDiff, Nat.reduceAdd, r32_0, r32_1, p32, op_box, cells_agg]
 generalize S.born 25 [nx, tx] = S0 at hG hT hn
 cases c1 : decide (0 ≤ i) with
 | false =>
  simp only [SXa, reduceCtorEq, Nat.reduceEqDiff]
  exact ⟨by simp only [hasAt, c1, Bool.false_and], hG⟩
 | true =>
 simp only [SXa, reduceCtorEq, Nat.reduceEqDiff, load22, len22, load_pb, hT, fldT0, fld_p, Option.bind_some, Nat.add_zero, lenN ht.nodes]
 cases c2 : decide (i < (t.nodes.length : Int)) with
 | false =>
  simp only [SXa, reduceCtorEq, Nat.reduceEqDiff]
  exact ⟨by simp only [hasAt, c1, c2, Bool.and_false, Bool.false_and], hG⟩
 | true =>
 simp only [SXa, reduceCtorEq, Nat.reduceEqDiff, Nat.reduceAdd, load25, call9, load_pb, hT, Option.bind_some, Nat.zero_add, Nat.le_refl]
 refine callK_ans (good_ans t nx tx ht) hG (fun S1 g1 hG1 => ?_)
 simp only [SXa, reduceCtorEq, Nat.reduceEqDiff]
 exact ⟨by simp only [hasAt, c1, c2, Bool.true_and], hG1⟩
end Go.Proofs.YtmmnkemcplgebaaGreatDoor
end
end

section
section
set_option linter.unusedSimpArgs false
set_option linter.unusedVariables false
set_option maxRecDepth 100000
namespace Go.Proofs.YtmmnkemcplgebaaGreatDoor
open Go.Abs
def joinF (l : List ByteArray) (sep : ByteArray) : ByteArray := ⟨(Lib.join (l.map (·.data.toList)) sep.data.toList).toArray⟩
def digitsF (n : Int) : ByteArray := ⟨(Lib.itoa n).toArray⟩
def kd (k : List ByteArray) (i : Nat) : ByteArray := k.getD i ⟨#[]⟩
def valuesF (name : ByteArray) (k : List ByteArray) : ByteArray := match k with
 | [] => name
 | a :: r => ((name ++ (⟨#[32, 40]⟩ : ByteArray)) ++ joinF (a :: r) (⟨#[44, 32]⟩ : ByteArray)) ++ (⟨#[41]⟩ : ByteArray)
def armsF : List ByteArray → List ByteArray
 | a :: b :: r => ((a ++ (⟨#[32, 45, 62, 32]⟩ : ByteArray)) ++ b) :: armsF r
 | _ => []
def innerF (x : NodeV) (k : List ByteArray) : ByteArray :=
 bif x.kind == 6 then (((⟨#[102, 117, 110, 32]⟩ : ByteArray) ++ x.param) ++ (⟨#[32, 45, 62, 32]⟩ : ByteArray)) ++ kd k 0
 else bif x.kind == 7 then (kd k 0 ++ (⟨#[32]⟩ : ByteArray)) ++ kd k 1
 else bif x.kind == 8 then (((((⟨#[108, 101, 116, 32]⟩ : ByteArray) ++ x.name) ++ (⟨#[32, 61, 32]⟩ : ByteArray)) ++ kd k 0) ++ (⟨#[32, 105, 110, 32]⟩ : ByteArray)) ++ kd k 1
 else bif x.kind == 9 then (((((((⟨#[108, 101, 116, 32, 114, 101, 99, 32]⟩ : ByteArray) ++ x.name) ++ (⟨#[32]⟩ : ByteArray)) ++ x.param) ++ (⟨#[32, 61, 32]⟩ : ByteArray)) ++ kd k 0) ++ (⟨#[32, 105, 110, 32]⟩ : ByteArray)) ++ kd k 1
 else bif x.kind == 10 then (((((⟨#[105, 102, 32]⟩ : ByteArray) ++ kd k 0) ++ (⟨#[32, 116, 104, 101, 110, 32]⟩ : ByteArray)) ++ kd k 1) ++ (⟨#[32, 101, 108, 115, 101, 32]⟩ : ByteArray)) ++ kd k 2
 else bif x.kind == 11 then ((((⟨#[109, 97, 116, 99, 104, 32]⟩ : ByteArray) ++ kd k 0) ++ (⟨#[32, 119, 105, 116, 104, 32]⟩ : ByteArray)) ++ joinF (armsF (k.drop 1)) (⟨#[32, 124, 32]⟩ : ByteArray)) ++ (⟨#[32, 101, 110, 100]⟩ : ByteArray)
 else bif x.kind == 12 then (kd k 0 ++ (⟨#[32, 59, 32]⟩ : ByteArray)) ++ kd k 1
 else bif x.kind == 13 then (kd k 0 ++ (⟨#[32, 58, 61, 32]⟩ : ByteArray)) ++ kd k 1
 else bif x.kind == 14 then (((kd k 0 ++ (⟨#[32]⟩ : ByteArray)) ++ x.name) ++ (⟨#[32]⟩ : ByteArray)) ++ kd k 1
 else bif x.kind == 15 then (⟨#[114, 101, 102, 32]⟩ : ByteArray) ++ kd k 0
 else bif x.kind == 16 then (⟨#[33, 32]⟩ : ByteArray) ++ kd k 0
 else bif x.kind == 17 then (⟨#[112, 114, 105, 110, 116, 32]⟩ : ByteArray) ++ kd k 0
 else bif x.kind == 19 then (⟨#[114, 97, 105, 115, 101, 32]⟩ : ByteArray) ++ kd k 0
 else ((((((⟨#[116, 114, 121, 32]⟩ : ByteArray) ++ kd k 0) ++ (⟨#[32, 119, 105, 116, 104, 32]⟩ : ByteArray)) ++ x.param) ++ (⟨#[32, 45, 62, 32]⟩ : ByteArray)) ++ kd k 1) ++ (⟨#[32, 101, 110, 100]⟩ : ByteArray)
def bareF (ns : List NodeV) (x : NodeV) : Bool := x.kind == 7 && match ns[(x.kids.getD 0 0).toNat]? with
 | some y => y.kind == 5 && ((y.kids.length : Nat) : Int) == 0
 | none => false
def brk (ns : List NodeV) (x : NodeV) (k : List ByteArray) : List ByteArray := bif bareF ns x then k.set 0 (((⟨#[40]⟩ : ByteArray) ++ kd k 0) ++ (⟨#[41]⟩ : ByteArray)) else k
def showN (ns : List NodeV) (x : NodeV) (k : List ByteArray) : ByteArray :=
 bif x.kind == 1 || x.kind == 23 then digitsF x.n
 else bif x.kind == 2 || x.kind == 24 then (bif x.n == 1 then (⟨#[116, 114, 117, 101]⟩ : ByteArray) else (⟨#[102, 97, 108, 115, 101]⟩ : ByteArray))
 else bif x.kind == 3 || x.kind == 25 then (⟨#[40, 41]⟩ : ByteArray)
 else bif x.kind == 4 || x.kind == 22 then x.name
 else bif x.kind == 21 then (⟨#[95]⟩ : ByteArray)
 else bif x.kind == 18 then (⟨#[114, 101, 97, 100]⟩ : ByteArray)
 else bif x.kind == 5 || x.kind == 26 then valuesF x.name k
 else ((⟨#[40]⟩ : ByteArray) ++ innerF x (brk ns x k)) ++ (⟨#[41]⟩ : ByteArray)
def showF (ns : List NodeV) : Nat → Nat → ByteArray
 | 0, _ => ⟨#[]⟩
 | f + 1, a => match ns[a]? with
  | some x => showN ns x (x.kids.map fun k => showF ns f k.toNat)
  | none => ⟨#[]⟩
def conF (c : ConV) : ByteArray := match c.args with
 | [] => c.name
 | a :: r => c.name ++ ((⟨#[32, 111, 102, 32]⟩ : ByteArray) ++ joinF (a :: r) (⟨#[44, 32]⟩ : ByteArray))
def declF (d : DeclV) : ByteArray := ((((⟨#[116, 121, 112, 101, 32]⟩ : ByteArray) ++ d.name) ++ (⟨#[32, 61, 32]⟩ : ByteArray)) ++ joinF (d.cons.map conF) (⟨#[32, 124, 32]⟩ : ByteArray)) ++ (⟨#[32, 105, 110, 32]⟩ : ByteArray)
noncomputable def ShowF (t : TreeV) : ByteArray := bif goodF t then ⟨((t.types.flatMap fun d => (declF d).data.toList) ++ (showF t.nodes 60 0).data.toList).toArray⟩ else ⟨#[]⟩
def sumF (k : List ByteArray) : Nat := (k.map fun s => s.size + 10).sum
theorem sz_lit (l : List UInt8) : (⟨l.toArray⟩ : ByteArray).size = l.length := List.size_toArray
theorem sz_bif {b : Bool} {x y : ByteArray} {n : Nat} (h1 : x.size ≤ n) (h2 : y.size ≤ n) : (bif b then x else y).size ≤ n := by cases b <;> assumption
theorem sumF_cons (a : ByteArray) (r : List ByteArray) : sumF (a :: r) = a.size + 10 + sumF r := rfl
theorem kd_sum (k : List ByteArray) : (kd k 0).size + (kd k 1).size + (kd k 2).size ≤ sumF k := by
 have e : (⟨#[]⟩ : ByteArray).size = 0 := rfl
 match k with
 | [] => simp [kd, sumF, e]
 | [a] => simp [kd, sumF, e]
 | [a, b] => simp [kd, sumF, e]; omega
 | a :: b :: c :: r => simp [kd, sumF]; omega
theorem join_size (l : List ByteArray) (sep : ByteArray) : (joinF l sep).size ≤ (l.map fun s => s.size + sep.size).sum := by
 unfold joinF
 rw [sz_lit]
 cases l with
 | nil => simp [Lib.join_nil]
 | cons a r =>
  rw [List.map_cons, Lib.join_length]
  have : ∀ l : List ByteArray, sep.data.toList.length * l.length + Lib.lens (l.map (·.data.toList)) = (l.map fun s => s.size + sep.size).sum := by
   intro l
   induction l with
   | nil => rfl
   | cons b s ih =>
    have e1 : b.data.toList.length = b.size := by rw [Array.length_toList]; rfl
    have e2 : sep.data.toList.length = sep.size := by rw [Array.length_toList]; rfl
    simp only [List.length_cons, List.map_cons, List.sum_cons, Lib.lens, Nat.mul_add, e1, e2] at ih ⊢
    omega
  have h := this (a :: r)
  simp only [List.length_cons, List.map_cons, List.sum_cons, List.length_map] at h ⊢
  have e2 : sep.data.toList.length = sep.size := by rw [Array.length_toList]; rfl
  rw [e2] at h ⊢
  have : sep.size * r.length ≤ sep.size * (r.length + 1) := Nat.mul_le_mul_left _ (by omega)
  omega
theorem sum_le {l : List ByteArray} {f g : ByteArray → Nat} (h : ∀ s, f s ≤ g s) : (l.map f).sum ≤ (l.map g).sum := by
 induction l with
 | nil => simp
 | cons a r ih => simp only [List.map_cons, List.sum_cons]; have := h a; omega
theorem join_le (l : List ByteArray) (sep : ByteArray) (h : sep.size ≤ 10) : (joinF l sep).size ≤ sumF l :=
 Nat.le_trans (join_size l sep) (sum_le fun s => by omega)
theorem arms_le : ∀ k : List ByteArray, ((armsF k).map fun s => s.size + 3).sum ≤ sumF k
 | [] => by simp [armsF]
 | [a] => by simp [armsF]
 | a :: b :: r => by
  have := arms_le r
  have e : ((⟨#[32, 45, 62, 32]⟩ : ByteArray)).size = 4 := rfl
  simp only [armsF, List.map_cons, List.sum_cons, sumF_cons, ByteArray.size_append, e] at this ⊢
  omega
theorem armsJ_le (k : List ByteArray) : (joinF (armsF k) (⟨#[32, 124, 32]⟩ : ByteArray)).size ≤ sumF k := Nat.le_trans (join_size _ _) (arms_le k)
theorem sumF_drop (k : List ByteArray) : (kd k 0).size + sumF (k.drop 1) ≤ sumF k := by
 cases k with
 | nil => exact Nat.le_refl _
 | cons a r => simp [kd, sumF]
theorem inner_le (x : NodeV) (k : List ByteArray) : (innerF x k).size ≤ x.name.size + x.param.size + 25 + sumF k := by
 have h := kd_sum k
 have h2 := armsJ_le (k.drop 1)
 have h3 := sumF_drop k
 unfold innerF
 repeat' refine sz_bif ?_ ?_
 all_goals
  try simp only [ByteArray.size_append]
  have e1 : ((⟨#[102, 117, 110, 32]⟩ : ByteArray)).size = 4 := rfl
  have e2 : ((⟨#[32, 45, 62, 32]⟩ : ByteArray)).size = 4 := rfl
  have e3 : ((⟨#[32]⟩ : ByteArray)).size = 1 := rfl
  have e4 : ((⟨#[108, 101, 116, 32]⟩ : ByteArray)).size = 4 := rfl
  have e5 : ((⟨#[32, 61, 32]⟩ : ByteArray)).size = 3 := rfl
  have e6 : ((⟨#[32, 105, 110, 32]⟩ : ByteArray)).size = 4 := rfl
  have e7 : ((⟨#[108, 101, 116, 32, 114, 101, 99, 32]⟩ : ByteArray)).size = 8 := rfl
  have e8 : ((⟨#[105, 102, 32]⟩ : ByteArray)).size = 3 := rfl
  have e9 : ((⟨#[32, 116, 104, 101, 110, 32]⟩ : ByteArray)).size = 6 := rfl
  have e10 : ((⟨#[32, 101, 108, 115, 101, 32]⟩ : ByteArray)).size = 6 := rfl
  have e11 : ((⟨#[109, 97, 116, 99, 104, 32]⟩ : ByteArray)).size = 6 := rfl
  have e12 : ((⟨#[32, 119, 105, 116, 104, 32]⟩ : ByteArray)).size = 6 := rfl
  have e13 : ((⟨#[32, 101, 110, 100]⟩ : ByteArray)).size = 4 := rfl
  have e14 : ((⟨#[32, 59, 32]⟩ : ByteArray)).size = 3 := rfl
  have e15 : ((⟨#[32, 58, 61, 32]⟩ : ByteArray)).size = 4 := rfl
  have e16 : ((⟨#[114, 101, 102, 32]⟩ : ByteArray)).size = 4 := rfl
  have e17 : ((⟨#[33, 32]⟩ : ByteArray)).size = 2 := rfl
  have e18 : ((⟨#[112, 114, 105, 110, 116, 32]⟩ : ByteArray)).size = 6 := rfl
  have e19 : ((⟨#[114, 97, 105, 115, 101, 32]⟩ : ByteArray)).size = 6 := rfl
  have e20 : ((⟨#[116, 114, 121, 32]⟩ : ByteArray)).size = 4 := rfl
  omega
theorem brk_le (ns : List NodeV) (x : NodeV) (k : List ByteArray) : sumF (brk ns x k) ≤ sumF k + 2 := by
 unfold brk
 cases bareF ns x with
 | false => simp
 | true =>
  cases k with
  | nil => simp [sumF]
  | cons a r =>
   have e1 : ((⟨#[40]⟩ : ByteArray)).size = 1 := rfl
   have e2 : ((⟨#[41]⟩ : ByteArray)).size = 1 := rfl
   simp only [cond_true, List.set_cons_zero, sumF_cons, ByteArray.size_append, kd, List.getD_cons_zero, e1, e2]
   omega
theorem brk_len (ns : List NodeV) (x : NodeV) (k : List ByteArray) : (brk ns x k).length = k.length := by
 unfold brk
 cases bareF ns x <;> simp
theorem values_le (name : ByteArray) (k : List ByteArray) : (valuesF name k).size ≤ name.size + 3 + sumF k := by
 cases k with
 | nil => simp [valuesF]; omega
 | cons a r =>
  have h := join_le (a :: r) (⟨#[44, 32]⟩ : ByteArray) (by decide)
  have e1 : ((⟨#[32, 40]⟩ : ByteArray)).size = 2 := rfl
  have e2 : ((⟨#[41]⟩ : ByteArray)).size = 1 := rfl
  simp only [valuesF, ByteArray.size_append, e1, e2]
  omega
theorem digits_le (n : Int) (h : -9223372036854775808 ≤ n ∧ n ≤ 9223372036854775807) : (digitsF n).size ≤ 21 := by
 unfold digitsF
 rw [sz_lit]
 exact Lib.itoa_length_le n h.1 h.2
theorem showN_le (ns : List NodeV) (x : NodeV) (k : List ByteArray) (hn : -9223372036854775808 ≤ x.n ∧ x.n ≤ 9223372036854775807) : (showN ns x k).size ≤ x.name.size + x.param.size + 30 + sumF k := by
 have h1 := digits_le x.n hn
 have h2 := values_le x.name k
 have h3 := inner_le x (brk ns x k)
 have h4 := brk_le ns x k
 unfold showN
 repeat' refine sz_bif ?_ ?_
 all_goals
  try simp only [ByteArray.size_append]
  have e1 : ((⟨#[40]⟩ : ByteArray)).size = 1 := rfl
  have e2 : ((⟨#[41]⟩ : ByteArray)).size = 1 := rfl
  have e3 : ((⟨#[116, 114, 117, 101]⟩ : ByteArray)).size = 4 := rfl
  have e4 : ((⟨#[102, 97, 108, 115, 101]⟩ : ByteArray)).size = 5 := rfl
  have e5 : ((⟨#[40, 41]⟩ : ByteArray)).size = 2 := rfl
  have e6 : ((⟨#[95]⟩ : ByteArray)).size = 1 := rfl
  have e7 : ((⟨#[114, 101, 97, 100]⟩ : ByteArray)).size = 4 := rfl
  omega
theorem kids_show {ns : List NodeV} {ds : List DeclV} {f d : Nat} (ih : ∀ p a z, walkF ns ds d p a = some z → (showF ns f a).size + 10 ≤ 200 * (z - a)) (pat m : Bool) : ∀ (l : List Int) (i nx z : Nat), kidsW (walkF ns ds d) pat m l i nx = some z → sumF (l.map fun k => showF ns f k.toNat) ≤ 200 * (z - nx)
 | [], i, nx, z, h => by simp [sumF]
 | k :: r, i, nx, z, h => by
  unfold kidsW at h
  cases hb : (k == ((nx : Nat) : Int)) with
  | false => rw [hb] at h; cases h
  | true =>
   rw [hb, cond_true] at h
   have hk : k = ((nx : Nat) : Int) := by simpa using hb
   cases hq : walkF ns ds d (pat || (m && armF ((i : Nat) : Int))) nx with
   | none => rw [hq] at h; cases h
   | some z1 =>
    rw [hq] at h
    have h1 := ih _ _ _ hq
    have h3 := walk_bd _ _ _ _ _ _ hq
    have h4 := (kidsW_bd (n := ns.length) (walk_bd ns ds d) pat m r (i + 1) z1 z h3.2 h).1
    have h5 := kids_show ih pat m r (i + 1) z1 z h
    rw [List.map_cons, sumF_cons, hk, Int.toNat_natCast]
    omega
theorem show_le (ns : List NodeV) (ds : List DeclV) (hn : ∀ x ∈ ns, x.name.size ≤ 60 ∧ x.param.size ≤ 60 ∧ -9223372036854775808 ≤ x.n ∧ x.n ≤ 9223372036854775807) : ∀ (d f : Nat), d ≤ f → ∀ (pat : Bool) (a z : Nat), walkF ns ds d pat a = some z → (showF ns f a).size + 10 ≤ 200 * (z - a)
 | 0, f, hf, pat, a, z, h => by cases h
 | d + 1, 0, hf, pat, a, z, h => by omega
 | d + 1, f + 1, hf, pat, a, z, h => by
  have hbd := walk_bd _ _ _ _ _ _ h
  have hlt : a < ns.length := by omega
  have hk := walk_kids h hlt
  have h4 := (kidsW_bd (n := ns.length) (walk_bd ns ds d) pat _ _ 0 (a + 1) z (by omega) hk).1
  obtain ⟨n1, n2, n3⟩ := hn _ (List.getElem_mem hlt)
  rw [showF, List.getElem?_eq_getElem hlt]
  have h1 := kids_show (f := f) (show_le ns ds hn d f (by omega)) pat _ _ 0 (a + 1) z hk
  have h2 := showN_le ns ns[a] (ns[a].kids.map fun k => showF ns f k.toNat) n3
  simp only
  omega
end Go.Proofs.YtmmnkemcplgebaaGreatDoor
end
end
