/-
  More of the calculus: sets of texts (maps from texts to truths).
  Trees in plain terms, and what the program tells of them.
-/
import Derived.Test.YtmmnkemcplgebaaGreatDoorFJ
import Derived.Test.YtmmnkemcplgebaaGreatDoorFK
section
set_option linter.unusedSimpArgs false
set_option linter.unusedVariables false
set_option maxRecDepth 100000
namespace Go.Abs
def setA (ks : List ByteArray) : List (Value × AV) := ks.map fun k => (.string k, .sc (.bool true))
def inB (s : ByteArray) (ks : List ByteArray) : Bool := ks.any fun y => s == y
theorem isKey_setA (ks : List ByteArray) : (setA ks).all (fun e => isKey .string e.1) = true := by
  induction ks with
  | nil => rfl
  | cons k r ih => simp only [setA, List.map_cons, List.all_cons, Bool.and_eq_true] at ih ⊢; exact ⟨rfl, ih⟩
theorem findA_setA (s : ByteArray) : ∀ ks, findA .string (.string s) (setA ks) = some (bif inB s ks then some (.sc (.bool true)) else none)
  | [] => rfl
  | k :: r => by
    have ih := findA_setA s r
    simp only [setA, List.map_cons, findA, Instr.sameNow, inB, List.any_cons] at ih ⊢
    cases h : (s == k) with
    | true => rfl
    | false => rw [Bool.false_or]; exact ih
theorem setKey_setA (s : ByteArray) : ∀ ks, inB s ks = false → setKey .string (.string s) (.sc (.bool true)) (setA ks) = setA (ks ++ [s])
  | [], _ => rfl
  | k :: r, h => by
    simp only [inB, List.any_cons, Bool.or_eq_false_iff] at h
    have ih := setKey_setA s r h.2
    simp only [setA, List.map_cons, List.cons_append, setKey, Instr.sameNow, h.1] at ih ⊢
    rw [ih]
section
variable {E : Env} {tm : PM AV} {S : St} {d : Option Tmp}
noncomputable def St.IsSet (S : St) (l : Nat) (ks : List ByteArray) : Prop := S.objs.get l = some (.mp (setA ks))
theorem bornMap_set : S.bornMap.IsSet S.no [] := by
  simp [St.IsSet, St.bornMap, St.bearNext, St.bear, PM.get_set, setA]
theorem put_set (l : Nat) (ks : List ByteArray) : (S.put l (.mp (setA ks))).IsSet l ks := by
  simp [St.IsSet, St.put, PM.get_set]
theorem Grow.isSet {S2 : St} {x : AV} (g : Grow S S2 x) {l : Nat} {ks : List ByteArray} (h : S.IsSet l ks) (hl : l < S.no) : S2.IsSet l ks := by
  unfold St.IsSet at h ⊢
  rw [g.obj l hl]
  exact h
theorem set_update {t kt et : TypeId} (ht : E.und t = some (.map kt et)) (hk : E.und kt = some .string) {l : Nat} {ks : List ByteArray} (h : S.IsSet l ks) (s : ByteArray) (hn : inB s ks = false) :
    mapUpdateA E t (.mp l) (.sc (.string s)) (.sc (.bool true)) S = some (passed, S.put l (.mp (setA (ks ++ [s])))) := by
  have h1 : S.map l = some (setA ks) := by unfold St.IsSet at h; simp only [St.map, h]
  have h2 : isKey .string (.string s) = true := rfl
  simp only [mapUpdateA, ht, hk, keyOf, h1, h2, isKey_setA, Bool.and_self, cond_true, setKey_setA s ks hn]
theorem set_lookup {t kt et : TypeId} (ht : E.und t = some (.map kt et)) (hk : E.und kt = some .string) (hz : zeroOf E et = some (.bool false)) {l : Nat} {ks : List ByteArray} (h : S.IsSet l ks) (s : ByteArray) :
    lookupA E t (.mp l) (.sc (.string s)) false S = some (.sc (.bool (inB s ks)), S) := by
  have h1 : S.map l = some (setA ks) := by unfold St.IsSet at h; simp only [St.map, h]
  have h2 : isKey .string (.string s) = true := rfl
  simp only [lookupA, ht, hk, keyOf, h1, h2, isKey_setA, Bool.not_true, cond_false, cond_true, findA_setA]
  cases inB s ks with
  | true => rfl
  | false =>
    unfold zeroOf at hz
    split at hz
    · rename_i i hi
      simp only [hi, hz, cond_false]
      rfl
    · cases hz
end
/-- Whatever the state, where H holds of it, this is answered, and nothing that was there is turned. -/
def AnsIn (E : Env) (H : St → Prop) (f : FuncId) (args : List AV) (r : AV) : Prop := ∀ S : St, S.Fresh → H S → ∃ S', EvA E f args S r S' ∧ Grow S S' nilV
theorem ansIn_of {E : Env} {H : St → Prop} {f : FuncId} {args : List AV} {v : AV} (h : ∀ S : St, S.Fresh → H S → ∃ r S', EvA E f args S r S' ∧ r = v ∧ Grow S S' nilV) : AnsIn E H f args v := fun S hS hH => by
  obtain ⟨r, S', h1, rfl, g⟩ := h S hS hH
  exact ⟨S', h1, g⟩
section
variable {E : Env} {nt : Nat} {k : List KI} {tm : PM AV} {S S0 : St} {Q : PostA}
theorem callK_in {H : St → Prop} {f : FuncId} {args : List AV} {d : Option Tmp} {r : List POp} {v : AV} (h : AnsIn E H f args v) (hH : H S) (G : Grow S0 S nilV) (h2 : ∀ S1, Grow S S1 nilV → Grow S0 S1 nilV → EndsA E nt (.c (.reg r) :: k) .nrm (setD tm d v) S1 Q) : CallK E nt f args d r k tm S Q := by
  obtain ⟨S1, h1, g⟩ := h S G.fresh hH
  exact callK_of h1 (h2 S1 g (G.two g))
end
end Go.Abs
end

section
set_option linter.unusedSimpArgs false
set_option linter.unusedVariables false
set_option maxRecDepth 100000
namespace Go.Proofs.YtmmnkemcplgebaaGreatDoor
open Go.Abs
structure NodeV where
  kind : Int
  n : Int
  name : ByteArray
  param : ByteArray
  kidsO : Option (List Int)
  frm : Int
  to : Int
def NodeV.kids (x : NodeV) : List Int := x.kidsO.getD []
structure ConV where
  name : ByteArray
  argsO : Option (List ByteArray)
def ConV.args (c : ConV) : List ByteArray := c.argsO.getD []
structure DeclV where
  name : ByteArray
  consO : Option (List ConV)
def DeclV.cons (d : DeclV) : List ConV := d.consO.getD []
structure TreeV where
  nodes : List NodeV
  types : List DeclV
def intsA (l : List Int) : List AV := l.map fun z => .sc (.int .i64 z)
def strsA (l : List ByteArray) : List AV := l.map fun s => .sc (.string s)
/-- A slice by value, or none. -/
def rowV (sz : Nat) (o : Option (List AV)) : AV := match o with
  | none => .sc (.slice none 0 0)
  | some l => .vec 0 sz l
theorem rowV_is {α : Type} (sz : Nat) (f : List α → List AV) (h : f [] = []) (o : Option (List α)) : IsV sz (rowV sz (o.map f)) (f (o.getD [])) := by
  cases o with
  | none => exact .inl ⟨rfl, h⟩
  | some l => exact .inr ⟨0, rfl⟩
theorem rowV_ok (sz : Nat) (o : Option (List AV)) : okCell (rowV sz o) = true := by cases o <;> rfl
def kidsA (x : NodeV) : AV := rowV 1 (x.kidsO.map intsA)
def argsA (c : ConV) : AV := rowV 1 (c.argsO.map strsA)
/-- A node's cells. -/
def nodeA (x : NodeV) : List AV := [.sc (.int .i64 x.kind), .sc (.int .i64 x.n), .sc (.string x.name), .sc (.string x.param), kidsA x, .sc (.int .i64 x.frm), .sc (.int .i64 x.to)]
def conA (c : ConV) : List AV := [.sc (.string c.name), argsA c]
def consA (l : List ConV) : List AV := l.map fun c => .agg (conA c)
def consV (d : DeclV) : AV := rowV 2 (d.consO.map consA)
def declA (d : DeclV) : List AV := [.sc (.string d.name), consV d]
def nodesA (l : List NodeV) : List AV := l.map fun x => .agg (nodeA x)
def typesA (l : List DeclV) : List AV := l.map fun d => .agg (declA d)
theorem isK (x : NodeV) : IsV 1 (kidsA x) (intsA x.kids) := rowV_is 1 intsA rfl x.kidsO
theorem isAr (c : ConV) : IsV 1 (argsA c) (strsA c.args) := rowV_is 1 strsA rfl c.argsO
theorem isCv (d : DeclV) : IsV 2 (consV d) (consA d.cons) := rowV_is 2 consA rfl d.consO
theorem lenK (x : NodeV) (S : St) : lenV (kidsA x) S = some (.sc (.int .i64 (x.kids.length : Nat)), S) := by rw [(isK x).len]; simp [intsA]
theorem lenAr (c : ConV) (S : St) : lenV (argsA c) S = some (.sc (.int .i64 (c.args.length : Nat)), S) := by rw [(isAr c).len]; simp [strsA]
theorem lenCv (d : DeclV) (S : St) : lenV (consV d) S = some (.sc (.int .i64 (d.cons.length : Nat)), S) := by rw [(isCv d).len]; simp [consA]
def isEmptyF (s : ByteArray) : Bool := s.toList == (⟨#[]⟩ : ByteArray).toList
def numberF (x : NodeV) : Bool :=
  bif x.kind == 1 || x.kind == 23 then decide (0 ≤ x.n) && decide (x.n ≤ 4611686018427387903)
  else bif x.kind == 2 || x.kind == 24 then x.n == 0 || x.n == 1 else x.n == 0
/-- Does a row have this text? -/
def hasF (l : List ByteArray) (s : ByteArray) : Bool := l.any fun y => s.toList == y.toList
def opers : List ByteArray := [⟨#[43]⟩, ⟨#[45]⟩, ⟨#[42]⟩, ⟨#[60]⟩, ⟨#[61]⟩]
noncomputable def textsF (x : NodeV) : Bool :=
  bif x.kind == 4 || x.kind == 8 || x.kind == 22 then isNameF x.name && isEmptyF x.param
  else bif x.kind == 9 then isNameF x.name && isNameF x.param
  else bif x.kind == 6 || x.kind == 20 then isEmptyF x.name && isNameF x.param
  else bif x.kind == 5 || x.kind == 26 then isConF x.name && isEmptyF x.param
  else bif x.kind == 14 then hasF opers x.name && isEmptyF x.param else isEmptyF x.name && isEmptyF x.param
def kidsF (k : Int) : Int × Int :=
  bif k == 5 || k == 26 then (0, 3) else bif k == 11 then (3, 1000) else bif k == 6 || k == 15 || k == 16 || k == 17 || k == 19 then (1, 1)
  else bif k == 7 || k == 8 || k == 9 || k == 12 || k == 13 || k == 14 || k == 20 then (2, 2) else bif k == 10 then (3, 3) else (0, 0)
def armF (k : Int) : Bool := k.tmod 2 == 1
def patF (k : Int) : Bool := decide (21 ≤ k) && decide (k ≤ 26)
/-- Where a row of constructors has a name. -/
def conAt (name : ByteArray) : List ConV → Nat → Option Nat
  | [], _ => none
  | c :: r, k => bif c.name.toList == name.toList then some k else conAt name r (k + 1)
def ofF (name : ByteArray) : List DeclV → Nat → Option (Nat × Nat)
  | [], _ => none
  | d :: r, k => match conAt name d.cons 0 with
    | some c => some (k, c)
    | none => ofF name r (k + 1)
/-- How many values a constructor has. -/
def argsAt (ds : List DeclV) (d c : Nat) : Nat := (((ds[d]?).bind fun d => d.cons[c]?).map fun c => c.args.length).getD 0
noncomputable def aloneF (ds : List DeclV) (x : NodeV) : Bool :=
  bif decide (x.kind < 1) || decide (26 < x.kind) || !numberF x || !textsF x then false
  else bif decide ((x.kids.length : Int) < (kidsF x.kind).1) || decide ((kidsF x.kind).2 < (x.kids.length : Int)) || (x.kind == 11 && !armF (x.kids.length : Int)) then false
  else bif x.kind != 5 && x.kind != 26 then true
  else match ofF x.name ds 0 with
    | some (d, c) => (((argsAt ds d c : Nat) : Int) == (x.kids.length : Int))
    | none => false
def idxF (v : ByteArray) : List ByteArray → Nat → Int
  | [], _ => -1
  | y :: r, k => bif v.toList == y.toList then (k : Int) else idxF v r (k + 1)
theorem idx_has (v : ByteArray) : ∀ (l : List ByteArray) (k : Nat), decide (0 ≤ idxF v l k) = hasF l v
  | [], k => rfl
  | y :: r, k => by
    have ih := idx_has v r (k + 1)
    unfold hasF at ih ⊢
    rw [idxF, List.any_cons]
    by_cases h : (v.toList == y.toList) = true
    · rw [h]; simp
    · rw [Bool.not_eq_true] at h
      rw [h, Bool.false_or]; exact ih
def idxP (p : ByteArray → Bool) : List ByteArray → Nat → Int
  | [], _ => -1
  | y :: r, k => bif p y then (k : Int) else idxP p r (k + 1)
theorem idxP_any (p : ByteArray → Bool) : ∀ (l : List ByteArray) (k : Nat), decide (0 ≤ idxP p l k) = l.any p
  | [], k => rfl
  | y :: r, k => by
    have ih := idxP_any p r (k + 1)
    rw [idxP, List.any_cons]
    by_cases h : p y = true
    · rw [h]; simp
    · rw [Bool.not_eq_true] at h
      rw [h, Bool.false_or]; exact ih
def basicF (s : ByteArray) : Bool := s.toList == (⟨#[105, 110, 116]⟩ : ByteArray).toList || s.toList == (⟨#[98, 111, 111, 108]⟩ : ByteArray).toList || s.toList == (⟨#[117, 110, 105, 116]⟩ : ByteArray).toList
noncomputable def okC (c : ConV) : Bool := isConF c.name && decide (c.args.length ≤ 3)
noncomputable def okD (d : DeclV) : Bool := isNameF d.name && !basicF d.name && decide (1 ≤ d.cons.length) && decide (d.cons.length ≤ 20) && d.cons.all okC
def namesOf (ds : List DeclV) : List ByteArray := ds.map fun d => d.name
def consOf (ds : List DeclV) : List ByteArray := ds.flatMap fun d => d.cons.map fun c => c.name
def argsOf (ds : List DeclV) : List ByteArray := ds.flatMap fun d => d.cons.flatMap fun c => c.args
/-- The kids, one by one: each stands where the one before has ended. -/
noncomputable def kidsW (w : Bool → Nat → Option Nat) (pat m : Bool) : List Int → Nat → Nat → Option Nat
  | [], _, nx => some nx
  | k :: r, i, nx => bif k == ((nx : Nat) : Int) then match w (pat || (m && armF ((i : Nat) : Int))) nx with
      | some z => kidsW w pat m r (i + 1) z
      | none => none
    else none
/-- Nodes in preorder from a place on: where they end. -/
noncomputable def walkF (ns : List NodeV) (ds : List DeclV) : Nat → Bool → Nat → Option Nat
  | 0, _, _ => none
  | d + 1, pat, a => match ns[a]? with
    | some x => bif (patF x.kind != pat) || !aloneF ds x then none else kidsW (walkF ns ds d) pat (x.kind == 11) x.kids 0 (a + 1)
    | none => none
/-- What a pattern binds. -/
def bindsF (ns : List NodeV) : Nat → Nat → List ByteArray
  | 0, _ => []
  | f + 1, a => match ns[a]? with
    | some x => bif x.kind == 22 then [x.name] else bif x.kind == 26 then x.kids.flatMap fun k => bindsF ns f k.toNat else []
    | none => []
/-- Does a row have something twice? -/
def twiceF (had : List ByteArray) : List ByteArray → Bool
  | [] => false
  | s :: r => bif inB s had then true else twiceF (had ++ [s]) r
/-- Is a name that of no type? -/
def otherF (names : List ByteArray) (s : ByteArray) : Bool := !(basicF s || hasF names s)
noncomputable def declsF (ds : List DeclV) : Bool := ds.all okD && (decide (ds.length ≤ 20) && !twiceF [] (namesOf ds) && !twiceF [] (consOf ds) && !(argsOf ds).any (otherF (namesOf ds)))
/-- Does a pattern bind a name twice? -/
noncomputable def badP (ns : List NodeV) (i : Nat) : Bool := match ns[i]? with
  | some x => patF x.kind && twiceF [] (bindsF ns 60 i)
  | none => false
noncomputable def patsOk (ns : List NodeV) : Nat → Nat → Bool
  | 0, _ => true
  | m + 1, k => bif badP ns k then false else patsOk ns m (k + 1)
/-- May a tree be? -/
noncomputable def goodF (t : TreeV) : Bool := decide (1 ≤ t.nodes.length) && decide (t.nodes.length ≤ 1000) && declsF t.types &&
  (match walkF t.nodes t.types 60 false 0 with | some z => ((z : Int) == (t.nodes.length : Int)) | none => false) && patsOk t.nodes t.nodes.length 0
/-- What is asked of here. -/
structure Light (t : TreeV) : Prop where
  ln : t.nodes.length ≤ 60
  lt : t.types.length ≤ 4
  ln2 : ∀ x ∈ t.nodes, x.name.size ≤ 60 ∧ x.param.size ≤ 60 ∧ x.kids.length ≤ 20
  lt2 : ∀ d ∈ t.types, d.cons.length ≤ 6 ∧ d.name.size ≤ 60 ∧ ∀ c ∈ d.cons, c.name.size ≤ 60 ∧ c.args.length ≤ 4 ∧ ∀ s ∈ c.args, s.size ≤ 60
end Go.Proofs.YtmmnkemcplgebaaGreatDoor
end
