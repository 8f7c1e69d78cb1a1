/-
  More of the calculus: sets of texts: taking out, laying one into another, the texts sorted.
-/
import Derived.Test.YtmmnkemcplgebaaGreatDoorFS
import Derived.Test.YtmmnkemcplgebaaGreatDoorF2
section
set_option linter.unusedSimpArgs false
set_option linter.unusedVariables false
set_option maxRecDepth 100000
namespace Go.Abs
open Go.Proofs (encStr)
def bytesL (s : ByteArray) : List UInt8 := s.data.toList
theorem bytesL_inj {a b : ByteArray} (h : bytesL a = bytesL b) : a = b := by
  cases a; cases b
  simp only [bytesL] at h
  rw [Array.toList_inj.1 h]
theorem setL_setA (ks : List ByteArray) : setL (ks.map bytesL) = setA ks := by
  simp only [setL, setA, List.map_map]
  rfl
theorem beq_b {a b : ByteArray} : (a == b) = true ↔ a = b := by
  cases a; cases b
  simp only [ByteArray.mk.injEq]
  exact beq_iff_eq (α := Array UInt8)
theorem inB_mem {s : ByteArray} {ks : List ByteArray} : inB s ks = true ↔ s ∈ ks := by
  simp only [inB, List.any_eq_true, beq_b]
  constructor
  · rintro ⟨x, hx, rfl⟩; exact hx
  · intro h; exact ⟨s, h, rfl⟩
theorem inB_false {s : ByteArray} {ks : List ByteArray} : inB s ks = false ↔ s ∉ ks := by
  rw [← inB_mem, Bool.not_eq_true]
/-- A text taken out. -/
def delB (s : ByteArray) : List ByteArray → List ByteArray
  | [] => []
  | k :: r => bif s == k then r else k :: delB s r
theorem delB_list (s : ByteArray) : ∀ ks : List ByteArray, (delB s ks).Sublist ks
  | [] => List.Sublist.refl _
  | k :: r => by
    unfold delB
    cases (s == k) with
    | true => exact List.sublist_cons_self _ _
    | false => exact (delB_list s r).cons_cons k
theorem delKey_setA (s : ByteArray) : ∀ ks, delKey .string (.string s) (setA ks) = setA (delB s ks)
  | [] => rfl
  | k :: r => by
    have ih := delKey_setA s r
    simp only [setA, List.map_cons, delKey, delB, Instr.sameNow] at ih ⊢
    cases (s == k) with
    | true => rfl
    | false => simp only [cond_false, List.map_cons, ih]
section
variable {E : Env} {S : St}
theorem set_map {l : Nat} {ks : List ByteArray} (h : S.IsSet l ks) : S.map l = some (setA ks) := by unfold St.IsSet at h; simp only [St.map, h]
theorem set_delete {t kt et u : TypeId} (ht : E.und t = some (.map kt et)) (hk : E.und kt = some .string) {l : Nat} {ks : List ByteArray} (h : S.IsSet l ks) (s : ByteArray) :
    builtinA E false .delete [t, u] [.mp l, .sc (.string s)] S = some (passed, S.put l (.mp (setA (delB s ks)))) := by
  have h2 : isKey .string (.string s) = true := rfl
  simp only [builtinA, deleteA, ht, hk, keyOf, set_map h, h2, isKey_setA, Bool.and_self, cond_true, delKey_setA]
end
theorem trueKeys_setA : ∀ ks : List ByteArray, (∀ s ∈ ks, s.size ≤ 1000000) → trueKeys (setA ks) = some (ks.map bytesL)
  | [], _ => rfl
  | k :: r, h => by
    have ih := trueKeys_setA r fun s hs => h s (List.mem_cons_of_mem _ hs)
    have hk : Nat.ble k.size 1000000 = true := Nat.ble_eq_true_of_le (h k (List.mem_cons_self ..))
    simp only [setA, List.map_cons, trueKeys, hk, cond_true] at ih ⊢
    rw [ih]; rfl
theorem keysOf_setA : ∀ ks : List ByteArray, (∀ s ∈ ks, s.size ≤ 1000000) → keysOf (setA ks) = some (ks.map bytesL)
  | [], _ => rfl
  | k :: r, h => by
    have ih := keysOf_setA r fun s hs => h s (List.mem_cons_of_mem _ hs)
    have hk : Nat.ble k.size 1000000 = true := Nat.ble_eq_true_of_le (h k (List.mem_cons_self ..))
    simp only [setA, List.map_cons, keysOf, hk, cond_true] at ih ⊢
    rw [ih]; rfl
/-- Two sets of texts in one. -/
def unionB (ks js : List ByteArray) : List ByteArray := ks ++ js.filter fun s => !inB s ks
theorem any_bytes (s : ByteArray) : ∀ ks : List ByteArray, (ks.map bytesL).any (fun t => t == bytesL s) = inB s ks
  | [] => rfl
  | k :: r => by
    have ih := any_bytes s r
    simp only [inB] at ih
    simp only [List.map_cons, List.any_cons, inB, ih]
    congr 1
    rw [Bool.eq_iff_iff, beq_iff_eq, beq_b]
    exact ⟨fun h => (bytesL_inj h).symm, fun h => by rw [h]⟩
theorem filter_bytes (ks : List ByteArray) : ∀ js : List ByteArray, (js.map bytesL).filter (fun s => !(ks.map bytesL).any fun t => t == s) = (js.filter fun s => !inB s ks).map bytesL
  | [] => rfl
  | j :: r => by
    have ih := filter_bytes ks r
    simp only [List.map_cons, List.filter_cons, any_bytes] at ih ⊢
    cases inB j ks with
    | true => simpa using ih
    | false => simpa using ih
theorem union_bytes (ks js : List ByteArray) : unionS (ks.map bytesL) (js.map bytesL) = (unionB ks js).map bytesL := by
  simp only [unionS, unionB, List.map_append, filter_bytes]
theorem mem_unionB {ks js : List ByteArray} {s : ByteArray} : s ∈ unionB ks js ↔ s ∈ ks ∨ s ∈ js := by
  simp only [unionB, List.mem_append, List.mem_filter, Bool.not_eq_true', inB_false]
  constructor
  · rintro (h | ⟨h, _⟩)
    · exact .inl h
    · exact .inr h
  · rintro (h | h)
    · exact .inl h
    · by_cases hk : s ∈ ks
      · exact .inl hk
      · exact .inr ⟨h, hk⟩
theorem nodup_unionB {ks js : List ByteArray} (h1 : ks.Nodup) (h2 : js.Nodup) : (unionB ks js).Nodup := by
  refine List.nodup_append.2 ⟨h1, h2.filter _, fun a ha b hb e => ?_⟩
  subst e
  simp only [List.mem_filter, Bool.not_eq_true', inB_false] at hb
  exact hb.2 ha
theorem len_unionB (ks js : List ByteArray) : (unionB ks js).length ≤ ks.length + js.length := by
  simp only [unionB, List.length_append]
  have := List.length_filter_le (fun s => !inB s ks) js
  omega
theorem copy_set {S : St} {l m : Nat} {ks js : List ByteArray} (hne : l ≠ m) (h1 : S.IsSet l ks) (h2 : S.IsSet m js) (b1 : ks.length ≤ 1000000) (b2 : js.length ≤ 1000000) (s1 : ∀ s ∈ ks, s.size ≤ 1000000) (s2 : ∀ s ∈ js, s.size ≤ 1000000) :
    copyX [.mp l, .mp m] S = some (.tup [], S.put l (.mp (setA (unionB ks js)))) := by
  have hb : Nat.beq l m = false := by
    cases h : Nat.beq l m with
    | false => rfl
    | true => exact absurd (Nat.eq_of_beq_eq_true h) hne
  have e1 : Nat.ble (ks.map bytesL).length 1000000 = true := Nat.ble_eq_true_of_le (by simpa using b1)
  have e2 : Nat.ble (js.map bytesL).length 1000000 = true := Nat.ble_eq_true_of_le (by simpa using b2)
  simp only [copyX, hb, cond_false, set_map h1, set_map h2, trueKeys_setA ks s1, trueKeys_setA js s2, e1, e2, Bool.and_self, cond_true, union_bytes, setL_setA]
/-- Texts, sorted. -/
noncomputable def sortB (ks : List ByteArray) : List ByteArray := (sortS (ks.map bytesL)).map fun l => ⟨l.toArray⟩
theorem sortB_perm (ks : List ByteArray) : (sortB ks).Perm ks := by
  have h := (sortS_perm (ks.map bytesL)).map fun l => (⟨l.toArray⟩ : ByteArray)
  refine h.trans ?_
  rw [List.map_map]
  have : (fun l => (⟨l.toArray⟩ : ByteArray)) ∘ bytesL = id := by funext s; rfl
  rw [this, List.map_id]
theorem sort_set {S : St} {g bx l : Nat} {sh : TypeId × Nat} {ks : List ByteArray} (h1 : S.IsSet l ks) (hs : S.shp.get bx = some sh) (ho : S.obj bx = some [.mp l]) (b1 : ks.length ≤ 1000000) (s1 : ∀ s ∈ ks, s.size ≤ 1000000) :
    ∃ r, sortedV g [.fn (.func g) [] [.ptr bx 0]] S = some (r, S) ∧ IsV 1 r ((sortB ks).map fun s => .sc (.string s)) := by
  have e1 : Nat.ble (setA ks).length 1000000 = true := Nat.ble_eq_true_of_le (by simpa [setA] using b1)
  have e2 : Nat.beq g g = true := Nat.beq_refl g
  simp only [sortedV, hs, ho, set_map h1, e1, e2, Bool.and_self, cond_true, keysOf_setA ks s1]
  cases h : sortS (ks.map bytesL) with
  | nil => exact ⟨_, rfl, .inl ⟨rfl, by simp [sortB, h]⟩⟩
  | cons k r =>
    refine ⟨_, rfl, .inr ⟨0, ?_⟩⟩
    simp only [sortB, h, List.map_map]
    rfl
theorem b_geqstr {E : Env} {S : St} (t : TypeId) (x y : Operand) (a b : ByteArray) : binGen E .geq t x y (.sc (.string a)) (.sc (.string b)) S = some (.sc (.bool (!Op.bytesLess a.toList b.toList)), S) := rfl
end Go.Abs
end
