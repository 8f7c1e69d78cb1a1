/-
  An evaluator of its own over the program's form: values by value, memory as a list of objects; no tape, no capacities. This text: the definitions.
  How the evaluator's values and state stand to the model's: the relation, and that it is kept where memory grows.
  The evaluator's operations, one by one: what each gives stands to what the model's operation gives.
  Rows of cells that are written; values that are built of parts.
  The evaluator's operations stand to the model's: each kind of operation.
  append: in place or anew.
-/
import Derived.Orders
import Derived.Below
import Derived.Scope
import Derived.MapKept
import Derived.Deep.AppendSrc
import Derived.Deep.MidRow
import Derived.Laws.BytesArg
import Derived.Laws.MakeOwn
section
set_option linter.unusedSimpArgs false
set_option linter.unusedVariables false
namespace Go.Abs

theorem beqF {a b : Nat} (h : ¬ a = b) : Nat.beq a b = false := by
  cases e : Nat.beq a b with
  | false => rfl
  | true => exact absurd (Nat.eq_of_beq_eq_true e) h
theorem beqT {a b : Nat} (h : a = b) : Nat.beq a b = true := by
  subst h; exact Nat.beq_refl a

/-- A map from numbers, as a tree. -/
inductive PM (α : Type) where
  | leaf
  | node (l : PM α) (v : Option α) (r : PM α)

namespace PM
variable {α : Type}
def get : PM α → Nat → Option α
  | .leaf, _ => none
  | .node l v r, n => bif Nat.beq n 0 then v else bif Nat.beq (n % 2) 1 then l.get (n / 2) else r.get (n / 2 - 1)
def sing : Nat → Nat → α → PM α
  | 0, _, _ => .leaf
  | f + 1, n, v => bif Nat.beq n 0 then .node .leaf (some v) .leaf else bif Nat.beq (n % 2) 1 then .node (sing f (n / 2) v) none .leaf else .node .leaf none (sing f (n / 2 - 1) v)
def set : PM α → Nat → α → PM α
  | .leaf, n, v => sing (n + 1) n v
  | .node l x r, n, v => bif Nat.beq n 0 then .node l (some v) r else bif Nat.beq (n % 2) 1 then .node (l.set (n / 2) v) x r else .node l x (r.set (n / 2 - 1) v)

@[simp] theorem get_leaf (n : Nat) : (leaf : PM α).get n = none := rfl
theorem get_node (l : PM α) (v : Option α) (r : PM α) (n : Nat) :
    (node l v r).get n = if n = 0 then v else if n % 2 = 1 then l.get (n / 2) else r.get (n / 2 - 1) := by
  simp only [get]
  by_cases h : n = 0
  · simp [h]
  · by_cases h2 : n % 2 = 1
    · have e1 : Nat.beq n 0 = false := beqF h
      simp [h, h2, e1]
    · have e1 : Nat.beq n 0 = false := beqF h
      have e2 : Nat.beq (n % 2) 1 = false := beqF h2
      simp [h, h2, e1, e2]
theorem get_sing (f : Nat) : ∀ (n m : Nat) (v : α), n < f → (sing f n v).get m = if m = n then some v else none := by
  induction f with
  | zero => intro n m v h; omega
  | succ f ih =>
    intro n m v h
    simp only [sing]
    by_cases h0 : n = 0
    · have e1 : Nat.beq n 0 = true := beqT h0
      subst h0
      simp only [e1, cond_true, get_node]
      by_cases hm : m = 0
      · simp [hm]
      · simp [hm]
    · have e1 : Nat.beq n 0 = false := beqF h0
      by_cases h2 : n % 2 = 1
      · have e2 : Nat.beq (n % 2) 1 = true := beqT h2
        simp only [e1, e2, cond_true, cond_false, get_node]
        rw [ih _ _ _ (by omega)]
        by_cases hm : m = 0
        · have : m ≠ n := by omega
          simp [hm]; omega
        · by_cases hm2 : m % 2 = 1
          · simp only [hm, hm2, if_false, if_true]
            by_cases e : m = n
            · subst e; simp
            · rw [if_neg (by omega), if_neg e]
          · simp only [hm, hm2, if_false]
            rw [if_neg (by intro e; subst e; exact hm2 h2)]
            rfl
      · have e2 : Nat.beq (n % 2) 1 = false := beqF h2
        simp only [e1, e2, cond_false, get_node]
        rw [ih _ _ _ (by omega)]
        by_cases hm : m = 0
        · have : m ≠ n := by omega
          simp [hm]; omega
        · by_cases hm2 : m % 2 = 1
          · simp only [hm, hm2, if_false, if_true]
            rw [if_neg (by intro e; subst e; exact h2 hm2)]
            rfl
          · simp only [hm, hm2, if_false]
            by_cases e : m = n
            · subst e; simp
            · rw [if_neg (by omega), if_neg e]
theorem get_set (t : PM α) : ∀ (n m : Nat) (v : α), (t.set n v).get m = if m = n then some v else t.get m := by
  induction t with
  | leaf => intro n m v; simp only [set, get_leaf]; exact get_sing (n + 1) n m v (by omega)
  | node l x r ihl ihr =>
    intro n m v
    simp only [set]
    by_cases h0 : n = 0
    · have e1 : Nat.beq n 0 = true := beqT h0
      subst h0
      simp only [e1, cond_true, get_node]
      by_cases hm : m = 0 <;> simp [hm]
    · have e1 : Nat.beq n 0 = false := beqF h0
      by_cases h2 : n % 2 = 1
      · have e2 : Nat.beq (n % 2) 1 = true := beqT h2
        simp only [e1, e2, cond_true, cond_false, get_node, ihl]
        by_cases hm : m = 0
        · rw [if_pos hm, if_neg (by omega), if_pos hm]
        · by_cases hm2 : m % 2 = 1
          · simp only [hm, hm2, if_false, if_true]
            by_cases e : m = n
            · subst e; simp
            · rw [if_neg (by omega), if_neg e]
          · simp only [hm, hm2, if_false]
            rw [if_neg (by intro e; subst e; exact hm2 h2)]
      · have e2 : Nat.beq (n % 2) 1 = false := beqF h2
        simp only [e1, e2, cond_false, get_node, ihr]
        by_cases hm : m = 0
        · rw [if_pos hm, if_neg (by omega), if_pos hm]
        · by_cases hm2 : m % 2 = 1
          · simp only [hm, hm2, if_false, if_true]
            rw [if_neg (by intro e; subst e; exact h2 hm2)]
          · simp only [hm, hm2, if_false]
            by_cases e : m = n
            · subst e; simp
            · rw [if_neg (by omega), if_neg e]
end PM

/-- A value, by value. 'sc': a value of the model's own without memory of ours; 'ptr': into object l; 'eptr': into an element of a slice by value; 'vec': a slice by value (its number, the cells of an element, the elements; number 1: a literal's own row; 2: its capacity is its length; 0: nothing is known of it); 'osl': a slice of object l (cells of an element, offset, length, room known); 'mp': the map that is object l; 'udat': where the bytes of a slice by value lie. -/
inductive AV where
  | undef
  | sc (v : Value)
  | ptr (l off : Nat)
  | eptr (cells : List AV) (off : Nat)
  | vec (id sz : Nat) (xs : List AV)
  | osl (l sz off len room : Nat)
  | mp (l : Nat)
  | udat (id : Nat) (xs : List AV)
  | agg (cs : List AV)
  | tup (vs : List AV)
  | fn (f : Fn) (first captured : List AV)
  | ifc (t : TypeId) (v : AV)

instance : Inhabited AV := ⟨.undef⟩

/-- What stands at an operation that was passed by. -/
def passed : AV := .sc (.tuple #[])

inductive AObj where
  | cells (cs : List AV)
  | siter (s : ByteArray) (pos : Nat)
  | mp (es : List (Value × AV))
  | dead

structure St where
  objs : PM AObj
  no : Nat
  nid : Nat
  spent : PM Unit
  wr : PM Nat
  shp : PM (TypeId × Nat)
  ity : PM TypeId

/-- How often an object has been written. -/
def St.ver (S : St) (l : Nat) : Nat := (S.wr.get l).getD 0

structure Env where
  P : Program
  G : Nat → Option (List AV)
  fn : FuncId → Option Func
  und : TypeId → Option TypeDesc
  inf : TypeId → Option TypeInfo
  hp : TypeId → Option Tmp → Bool
  meth : TypeId → String → Option FuncId
  ext : FuncId → Option (List AV → Option AV)
  X : FuncId → Option (List AV → St → Option (AV × St))

/-- What an operation of the model comes to where it touches no memory. -/
def peek {α : Type} (P : Program) : Sem α → Option α
  | .pure a => some a
  | .program k => peek P (k P)
  | .mark _ k => peek P k
  | _ => none

theorem peek_run {α : Type} {P : Program} (s : Sem α) : ∀ {a : α}, peek P s = some a → ∀ w, s.run P w = .ok a w := by
  induction s with
  | pure a => intro b h w; simp only [peek, Option.some.injEq] at h; subst h; rfl
  | program k ih => intro b h w; simp only [peek] at h; simp only [Sem.run]; exact ih P h w
  | mark m k ih => intro b h w; simp only [peek] at h; simp only [Sem.run]; exact ih h w
  | load m a k ih => intro b h; simp [peek] at h
  | store m a v k ih => intro b h; simp [peek] at h
  | new o k ih => intro b h; simp [peek] at h
  | shape r k ih => intro b h; simp [peek] at h
  | freeze a n k ih => intro b h; simp [peek] at h
  | frozen a k ih => intro b h; simp [peek] at h
  | getObj r k ih => intro b h; simp [peek] at h
  | setObj r o k ih => intro b h; simp [peek] at h
  | choose q k ih => intro b h; simp [peek] at h
  | sys c k ih => intro b h; simp [peek] at h
  | halt h => intro b h; simp [peek] at h

/-- A cell of the model's as a value by value. -/
def ofCell : Value → AV
  | .agg cs => .agg (cs.toList.map .sc)
  | v => .sc v
def ofV : Value → AV
  | .agg cs => .agg (cs.toList.map .sc)
  | .tuple vs => bif vs.isEmpty then .sc (.tuple #[]) else .tup (vs.toList.map ofCell)
  | v => .sc v

def concCell : AV → Option Value
  | .sc v => some v
  | _ => none
def concAll : List AV → Option (List Value)
  | [] => some []
  | a :: l => match concCell a, concAll l with
    | some v, some vs => some (v :: vs)
    | _, _ => none
/-- The model's own value, where it bears no memory of ours. -/
def conc : AV → Option Value
  | .sc v => some v
  | .agg cs => (concAll cs).map fun vs => .agg vs.toArray
  | _ => none

/-- The cells of a value; none where they are not known. -/
def cellsOf : AV → Option (List AV)
  | .undef | .tup _ | .sc (.agg _) | .sc (.tuple _) => none
  | .agg cs => some cs
  | a => some [a]
def okCell : AV → Bool
  | .undef | .tup _ | .sc (.agg _) | .sc (.tuple _) | .agg _ => false
  | _ => true

def getT (tm : PM AV) (t : Nat) : AV := (tm.get t).getD .undef

def Env.ev (E : Env) (tm : PM AV) : Operand → AV
  | .tmp t => getT tm t
  | .const v => ofV v
  | .global g => match E.G g with
    | some cs => .eptr cs 0
    | none => .undef
  | .func f => .sc (.func (.func f) #[] #[])

def isAggD : TypeDesc → Bool
  | .struct _ | .array _ _ => true
  | _ => false

/-- A part of cells as a value of a type. -/
def cut (agg : Bool) (size : Nat) (cs : List AV) (off : Nat) : Option AV :=
  bif Nat.ble (off + size) cs.length then
    (bif agg then some (.agg ((cs.drop off).take size)) else bif Nat.beq size 1 then cs[off]? else none)
  else none

def Env.cutAt (E : Env) (t : TypeId) (cs : List AV) (off : Nat) : Option AV :=
  match E.und t, E.inf t with
  | some d, some i => cut (isAggD d) i.size cs off
  | _, _ => none

def St.obj (S : St) (l : Nat) : Option (List AV) :=
  match S.objs.get l with
  | some (.cells cs) => some cs
  | _ => none

def St.newRaw (S : St) (o : AObj) : St := { S with objs := S.objs.set S.no o, no := S.no + 1 }
abbrev St.newObj (S : St) (cs : List AV) : St := S.newRaw (.cells cs)
/-- Object l holds something else. -/
def St.put (S : St) (l : Nat) (o : AObj) : St := { S with objs := S.objs.set l o, wr := S.wr.set l (S.ver l + 1) }
def St.newId (S : St) (T : TypeId) : St := { S with nid := S.nid + 1, ity := S.ity.set S.nid T }
/-- A number for a row that is no plain one. -/
def St.newIdX (S : St) : St := { S with nid := S.nid + 1 }
/-- What makes an object: what it holds, the shape of its block where that is known, what stands for it under its number. -/
structure Mk where
  obj : AObj
  sh : Option (TypeId × Nat)
  val : Nat → AV
def St.bear (S : St) (n : Nat) (m : Mk) : St :=
  { S with objs := S.objs.set n m.obj, shp := match m.sh with | some p => S.shp.set n p | none => S.shp }
def St.bearNext (S : St) (m : Mk) : St := { S.bear S.no m with no := S.no + 1 }

/-- 'vs' laid into 'cs' from 'off' on. -/
def splice (cs : List AV) (off : Nat) (vs : List AV) : List AV := cs.take off ++ vs ++ cs.drop (off + vs.length)

def fillA (place : Nat → Option (Nat × Nat)) (cells : List AV) : List (Nat × AV) → Option (List AV)
  | [] => some cells
  | (i, v) :: rest =>
    match place i, cellsOf v with
    | some (off, size), some vs => bif Nat.beq vs.length size && Nat.ble (off + vs.length) cells.length then fillA place (splice cells off vs) rest else none
    | _, _ => none

/-- Cells, n at a time. -/
def groups (agg : Bool) (sz : Nat) : Nat → List AV → List AV
  | 0, _ => []
  | n + 1, cs => (bif agg then .agg (cs.take sz) else cs.headD .undef) :: groups agg sz n (cs.drop sz)

def int? : AV → Option Int
  | .sc (.int _ n) => some n
  | _ => none

def elemOf? : Option TypeDesc → Option TypeId
  | some (.slice e) => some e
  | _ => none

/-- The bounds of a slice expression, on a slice or string of length n. -/
def bounds (n : Nat) (lo hi : Option AV) : Option (Nat × Nat) :=
  match (match hi with | none => some (n : Int) | some h => int? h), (match lo with | none => some 0 | some l => int? l) with
  | some h, some l => bif decide (0 ≤ l) && decide (l ≤ h) && decide (h ≤ (n : Int)) then some (l.toNat, h.toNat) else none
  | _, _ => none

def bytesOf? : List AV → Option (List UInt8)
  | [] => some []
  | .sc (.int .u8 n) :: l => (bytesOf? l).map (UInt8.ofNat n.toNat :: ·)
  | _ :: _ => none

def byteVals (l : List UInt8) : List AV := l.map fun b => .sc (.int .u8 b.toNat)

def inByte : AV → Bool
  | .sc (.int .u8 n) => decide (0 ≤ n) && decide (n < 256)
  | _ => false

def isNilC : AV → Bool
  | .sc (.slice none _ _) | .sc (.pointer none) | .sc .nilFunc | .sc .nilIface | .sc (.map none) => true
  | _ => false
/-- '==' between what is not nil and the literal nil. -/
def eqNil (E : Env) (d : TypeDesc) : AV → AV → Option Bool
  | .vec .., .sc (.slice none _ _) => bif (match d with | .slice _ => true | _ => false) then some false else none
  | .osl .., .sc (.slice none _ _) => bif (match d with | .slice _ => true | _ => false) then some false else none
  | .ptr l o, .ptr l' o' => bif Nat.beq l l' && Nat.beq o o' && (match d with | .pointer e => (E.inf e).isSome | _ => false) then some true else none
  | .ifc .., .sc .nilIface => bif (match d with | .interface _ => true | _ => false) then some false else none
  | .ptr .., .sc (.pointer none) => bif (match d with | .pointer _ => true | _ => false) then some false else none
  | _, _ => none

/-- append's elements: how many, which. -/
def elemsOf : AV → Option (List AV)
  | .sc (.slice none 0 0) => some []
  | .vec _ _ xs => some xs
  | .sc (.string s) => some (byteVals s.data.toList)
  | _ => none

def allSz (sz : Nat) : List AV → Bool
  | [] => true
  | x :: l => (match cellsOf x with | some cs => Nat.beq cs.length sz && cs.all okCell | none => false) && allSz sz l

/-- The cells of elements, each of sz cells. -/
def flat? (sz : Nat) : List AV → Option (List AV)
  | [] => some []
  | x :: l => match cellsOf x, flat? sz l with
    | some cs, some r => if cs.length = sz ∧ cs.all okCell = true then some (cs ++ r) else none
    | _, _ => none

/-- The elements of a slice of an object. -/
def St.oslElems (S : St) (agg : Bool) (l sz off len : Nat) : Option (List AV) :=
  match S.obj l with
  | some cs => bif Nat.beq ((cs.drop off).take (len * sz)).length (len * sz) && ((cs.drop off).take (len * sz)).all okCell then some (groups agg sz len ((cs.drop off).take (len * sz))) else none
  | none => none
def elemsS (S : St) (agg : Bool) (size : Nat) : AV → Option (List AV)
  | .osl l sz off len _ => bif Nat.beq sz size && (agg || Nat.beq sz 1) then S.oslElems agg l sz off len else none
  | x => elemsOf x

def St.live (S : St) (id : Nat) : Bool := Nat.blt 2 id && Nat.blt id S.nid && (S.spent.get id).isNone

def St.ityIs (S : St) (id : Nat) (e : TypeId) : Bool := match S.ity.get id with | some T => Nat.beq T e | none => false

def zeroOk (ti : TypeInfo) : Bool := match ti.zero with | some z => Nat.beq z.cells.size ti.size | none => false

/-- n elements' worth of zeros. -/
def zerosA (z : Value) (n : Nat) : List AV := (List.range (n * z.cells.size)).map fun j => .sc (z.cells.getD (j % z.cells.size) default)

def newSlice (mu : Bool) (e : TypeId) (sz : Nat) (xs : List AV) (S : St) : Option (AV × St) :=
  bif mu then (match flat? sz xs with
    | some fl => some (.osl S.no sz 0 xs.length xs.length, S.newObj fl)
    | none => none)
  else some (.vec S.nid sz xs, S.newId e)

def appendOsl (sz l off len room : Nat) (ys : List AV) (S : St) : Option (AV × St) :=
  match S.obj l, flat? sz ys with
  | some cs, some fl =>
    bif Nat.ble (len + ys.length) room && Nat.ble (off + (len + ys.length) * sz) cs.length then
      some (.osl l sz off (len + ys.length) room, S.put l (.cells (splice cs (off + len * sz) fl)))
    else bif Nat.beq (off + len * sz) cs.length then
      some (.osl S.no sz 0 (len + ys.length) (len + ys.length), (S.put l .dead).newObj (cs.drop off ++ fl))
    else none
  | _, _ => none

def appendXs (mu : Bool) (e : TypeId) (ti : TypeInfo) (s : AV) (ys : List AV) (S : St) : Option (AV × St) :=
  match ys with
  | [] => (match s with
    | .sc (.slice none 0 0) => some (s, S)
    | .vec _ _ _ => some (s, S)
    | .osl .. => some (s, S)
    | _ => none)
  | y :: ys =>
      bif allSz ti.size (y :: ys) && Nat.blt 0 ti.size && zeroOk ti then
        match s with
        | .sc (.slice none 0 0) => bif Nat.ble (((y :: ys).length) * (ti.bytes + 1)) (2 ^ 46) then newSlice mu e ti.size (y :: ys) S else none
        | .vec id sz' xs =>
          bif Nat.beq ti.size sz' && Nat.ble ((xs.length + (y :: ys).length) * (ti.bytes + 1)) (2 ^ 46) then
            bif Nat.beq id 1 || Nat.beq id 2 then newSlice mu e ti.size (xs ++ (y :: ys)) S
            else bif S.live id && S.ityIs id e then
              some (.vec S.nid ti.size (xs ++ (y :: ys)), { S.newId e with spent := S.spent.set id () })
            else none
          else none
        | .osl l sz' off len room =>
          bif Nat.beq ti.size sz' && Nat.ble ((len + (y :: ys).length) * (ti.bytes + 1)) (2 ^ 46) then appendOsl ti.size l off len room (y :: ys) S else none
        | _ => none
      else none

def appendA (mu agg : Bool) (e : TypeId) (ti : TypeInfo) (s x : AV) (S : St) : Option (AV × St) :=
  match elemsS S agg ti.size x with
  | none => none
  | some ys => appendXs mu e ti s ys S

abbrev CallFn := FuncId → List AV → St → Option (AV × St)

def isStr : Option TypeDesc → Bool
  | some .string => true
  | _ => false
def isU8 : Option TypeDesc → Bool
  | some (.int .u8) => true
  | _ => false

/-- Does a conversion make bytes of a string? -/
def isStrBytes (E : Env) (src dst : TypeId) : Bool :=
  match E.und src, E.und dst with
  | some .string, some (.slice _) => true
  | _, _ => false

def convertA (E : Env) (mu : Bool) (src dst : TypeId) (x : AV) (S : St) : Option (AV × St) :=
  bif isStrBytes E src dst then
    match E.und dst, x with
    | some (.slice e), .sc (.string s) => bif isU8 (E.und e) && Nat.ble s.size (2 ^ 40) && !mu then some (.vec S.nid 1 (byteVals s.data.toList), S.newIdX) else none
    | _, _ => none
  else match x with
  | .sc v => (peek E.P (convert src dst v)).map fun r => (ofV r, S)
  | .vec id sz xs =>
    match E.und src, E.und dst with
    | some (.slice e), some .string => bif isU8 (E.und e) && Nat.beq sz 1 then (bytesOf? xs).map fun bs => (.sc (.string ⟨bs.toArray⟩), S) else none
    | some (.slice _), some (.slice e) => bif Nat.beq src dst && isU8 (E.und e) && Nat.beq id 1 then some (x, S) else none
    | _, _ => none
  | .ptr l off =>
    match E.und src, E.und dst, S.obj l with
    | some (.pointer t), some .unsafePointer, some cs => match E.inf t with
      | some i => bif Nat.blt 0 i.size && Nat.blt off cs.length then some (x, S) else none
      | none => none
    | some .unsafePointer, some (.pointer u), some cs => match E.inf u, S.shp.get l with
      | some i, some (T, n) => bif Nat.blt off cs.length && liesAt E.P E.P.depth T (n / E.P.cellsOf T) off u 1 then some (x, S) else none
      | _, _ => none
    | _, _, _ => none
  | .osl l sz off len _ =>
    match E.und src, E.und dst with
    | some (.slice e), some .string => bif isU8 (E.und e) && Nat.beq sz 1 then (match S.oslElems false l sz off len with
        | some xs => (bytesOf? xs).map fun bs => (.sc (.string ⟨bs.toArray⟩), S)
        | none => none) else none
    | _, _ => none
  | _ => none

/-- A function value: whose, with what it has caught. -/
def fnOf : AV → Option (FuncId × List AV × List AV)
  | .sc (.func (.func g) f c) => bif f.isEmpty && c.isEmpty then some (g, [], []) else none
  | .fn (.func g) f c => some (g, f, c)
  | _ => none

def lenS : AV → Option Nat
  | .sc (.slice none 0 _) => some 0
  | .vec _ _ xs => some xs.length
  | .osl _ _ _ len _ => some len
  | _ => none

/-- Where a key is found. -/
def findA (d : TypeDesc) (k : Value) : List (Value × AV) → Option (Option AV)
  | [] => some none
  | e :: es => match Instr.sameNow d k e.1 with
    | some true => some (some e.2)
    | some false => findA d k es
    | none => none
def keyD : TypeDesc → Bool
  | .int _ | .string | .bool => true
  | _ => false
def isKey : TypeDesc → Value → Bool
  | .int k, .int k' _ => k == k'
  | .string, .string _ => true
  | .bool, .bool _ => true
  | _, _ => false
def setKey (d : TypeDesc) (k : Value) (x : AV) : List (Value × AV) → List (Value × AV)
  | [] => [(k, x)]
  | e :: es => match Instr.sameNow d k e.1 with
    | some true => (k, x) :: es
    | _ => e :: setKey d k x es
def delKey (d : TypeDesc) (k : Value) : List (Value × AV) → List (Value × AV)
  | [] => []
  | e :: es => match Instr.sameNow d k e.1 with
    | some true => es
    | _ => e :: delKey d k es
def St.map (S : St) (l : Nat) : Option (List (Value × AV)) :=
  match S.objs.get l with
  | some (.mp es) => some es
  | _ => none
def keyOf : AV → Option Value
  | .sc v => some v
  | _ => none

def lookupA (E : Env) (t : TypeId) (x ix : AV) (commaOk : Bool) (S : St) : Option (AV × St) :=
  match E.und t, keyOf ix with
  | some (.map kt et), some k => match E.und kt with
    | some d => bif isKey d k then
        match (match x with | .sc (.map none) => some [] | .mp l => S.map l | _ => none) with
        | some es => bif !es.all (fun e => isKey d e.1) then none else match findA d k es with
          | some (some v) => some (bif commaOk then .tup [v, .sc (.bool true)] else v, S)
          | some none => match E.inf et with
            | some i => match i.zero with
              | some z => some (bif commaOk then .tup [ofV z, .sc (.bool false)] else ofV z, S)
              | none => none
            | none => none
          | none => none
        | none => none
      else none
    | none => none
  | _, _ => none

def mapUpdateA (E : Env) (t : TypeId) (m k x : AV) (S : St) : Option (AV × St) :=
  match E.und t, m, keyOf k with
  | some (.map kt _), .mp l, some kv => match E.und kt, S.map l with
    | some d, some es => bif isKey d kv && es.all (fun e => isKey d e.1) then some (passed, S.put l (.mp (setKey d kv x es))) else none
    | _, _ => none
  | _, _, _ => none

def deleteA (E : Env) (ats : List TypeId) (xs : List AV) (S : St) : Option (AV × St) :=
  match ats, xs with
  | [t, _], [.mp l, k] => match E.und t, keyOf k with
    | some (.map kt _), some kv => match E.und kt, S.map l with
      | some d, some es => bif isKey d kv && es.all (fun e => isKey d e.1) then some (passed, S.put l (.mp (delKey d kv es))) else none
      | _, _ => none
    | _, _ => none
  | _, _ => none

def makeCells (E : Env) (t : TypeId) (len cap : AV) : Option (TypeId × Bool × Nat × Nat × Nat × List AV) :=
  match E.und t, int? len, int? cap with
  | some (.slice e), some n, some c => match E.und e, E.inf e with
    | some d, some i => match i.zero with
      | some z => bif decide (0 ≤ n) && decide (n ≤ c) && Nat.ble (c.toNat * (i.bytes + 1)) (2 ^ 46) && Nat.blt 0 i.size && Nat.beq z.cells.size i.size && (isAggD d || Nat.beq i.size 1) && (zerosA z n.toNat).all okCell then
          some (e, isAggD d, i.size, n.toNat, c.toNat, zerosA z n.toNat)
        else none
      | none => none
    | _, _ => none
  | _, _, _ => none
def makeSliceA (E : Env) (t : TypeId) (len cap : AV) (S : St) : Option (AV × St) :=
  match makeCells E t len cap with
  | some (e, agg, sz, n, _, cs) => some (.vec S.nid sz (groups agg sz n cs), S.newId e)
  | none => none

/-- The first n elements' cells of what is copied. -/
def srcCells (S : St) (sz n : Nat) : AV → Option (List AV)
  | .vec _ _ xs => flat? sz (xs.take n)
  | .osl l sz' off _ _ => match S.obj l with
    | some cs => bif Nat.beq sz' sz && Nat.ble (off + n * sz) cs.length && ((cs.drop off).take (n * sz)).all okCell then some ((cs.drop off).take (n * sz)) else none
    | none => none
  | .sc (.slice none 0 0) => bif Nat.beq n 0 then some [] else none
  | _ => none

def copyA (E : Env) (ats : List TypeId) (xs : List AV) (S : St) : Option (AV × St) :=
  match ats, xs with
  | [t, t1], [.osl l sz off len _, x] => match E.und t, E.und t1, lenS x with
    | some (.slice e), some (.slice _), some m => match E.inf e, srcCells S sz (Nat.min m len) x, S.obj l with
      | some i, some vs, some cs => bif Nat.beq i.size sz && Nat.ble (off + vs.length) cs.length && Nat.beq vs.length (Nat.min m len * sz) then
          some (.sc (.int .i64 (Nat.min m len : Nat)), S.put l (.cells (splice cs off vs))) else none
      | _, _, _ => none
    | _, _, _ => none
  | _, _ => none

def clearA (E : Env) (ats : List TypeId) (xs : List AV) (S : St) : Option (AV × St) :=
  match ats, xs with
  | [t], [.osl l sz off len _] => match E.und t with
    | some (.slice e) => match E.inf e, S.obj l with
      | some i, some cs => match i.zero with
        | some z => bif Nat.beq i.size sz && Nat.beq z.cells.size sz && Nat.ble (off + len * sz) cs.length && (zerosA z len).all okCell then
            some (passed, S.put l (.cells (splice cs off (zerosA z len)))) else none
        | none => none
      | _, _ => none
    | _ => none
  | _, _ => none

def builtinA (E : Env) (mu : Bool) (b : Builtin) (ats : List TypeId) (xs : List AV) (S : St) : Option (AV × St) :=
  match b with
  | .len => match ats, xs with
    | [t], [x] => match E.und t with
      | some (.slice _) => (lenS x).map fun n : Nat => (AV.sc (.int .i64 (n : Int)), S)
      | some .string => match x with
        | .sc (.string s) => some (.sc (.int .i64 s.size), S)
        | _ => none
      | some (.array n _) => some (.sc (.int .i64 n), S)
      | some (.map _ _) => match x with
        | .mp l => (S.map l).map fun es => (AV.sc (.int .i64 (es.length : Nat)), S)
        | .sc (.map none) => some (.sc (.int .i64 0), S)
        | _ => none
      | _ => none
    | _, _ => none
  | .append => match ats, xs with
    | [t, t1], [s, x] => match E.und t, E.und t1 with
      | some (.slice e), some (.slice _) => match E.und e, E.inf e, x with
        | some d, some i, .vec .. | some d, some i, .sc (.slice ..) | some d, some i, .osl .. => appendA mu (isAggD d) e i s x S
        | _, _, _ => none
      | some (.slice e), some .string => match E.inf e, x with
        | some i, .sc (.string _) => appendA mu false e i s x S
        | _, _ => none
      | some (.slice e), some (.int _) => match E.und e, E.inf e, x with
        | some d, some i, .sc (.int k n) => match i.zero with
          | some z => bif decide (0 ≤ n) && decide (n < 2 ^ 46) && (isAggD d || Nat.beq i.size 1) && Nat.beq z.cells.size i.size && Nat.ble (n.toNat * (i.bytes + 1)) (2 ^ 46) && (zerosA z n.toNat).all okCell then appendXs mu e i s (groups (isAggD d) i.size n.toNat (zerosA z n.toNat)) S else none
          | none => none
        | _, _, _ => none
      | _, _ => none
    | _, _ => none
  | .copy => copyA E ats xs S
  | .clear => clearA E ats xs S
  | .delete => deleteA E ats xs S
  | .unsafeSliceData => match xs with
    | [.sc (.slice none 0 0)] => some (.sc (.pointer none), S)
    | [.vec id sz (y :: ys)] => bif Nat.blt 2 id && Nat.beq sz 1 then some (.udat id (y :: ys), S) else none
    | _ => none
  | .unsafeString => match ats, xs with
    | [pt, _], [.udat id ys, .sc (.int .i64 n)] => match E.und pt, S.ity.get id, bytesOf? ys with
      | some (.pointer u), some T, some bs => bif Nat.beq T u && Nat.beq (E.P.cellsOf u) 1 && decide (n = (ys.length : Int)) && ys.all inByte && Nat.ble ys.length (2 ^ 62) then some (.sc (.string ⟨bs.toArray⟩), S) else none
      | _, _, _ => none
    | [_, _], [.sc (.pointer none), .sc (.int .i64 0)] => some (.sc (.string .empty), S)
    | _, _ => none
  | .cap => match ats, xs with
    | [t], [.sc (.slice none 0 0)] => match E.und t with
      | some (.slice _) => some (.sc (.int .i64 0), S)
      | _ => none
    | _, _ => none
  | .min => match xs with
    | [.sc (.int k a), .sc (.int _ b)] => some (.sc (.int k (if b < a then b else a)), S)
    | _ => none
  | .max => match xs with
    | [.sc (.int k a), .sc (.int k' b)] => (peek E.P (Builtin.max2 (.int k a) (.int k' b))).map fun v => (ofV v, S)
    | _ => none
  | _ => none

def callA (E : Env) (mu : Bool) (call : CallFn) (tm : PM AV) (c : Call) (S : St) : Option (AV × St) :=
  match c.callee with
  | .value f => match fnOf (E.ev tm f) with
    | some (g, first, cap) => match E.ext g with
      | some h => (h (first ++ c.args.toList.map (E.ev tm) ++ cap)).map fun v => (v, S)
      | none => call g (first ++ c.args.toList.map (E.ev tm) ++ cap) S
    | none => none
  | .builtin b => builtinA E mu b c.argTypes.toList (c.args.toList.map (E.ev tm)) S
  | .invoke recv name => match E.ev tm recv with
    | .ifc t x => match E.meth t name with
      | some g => match E.ext g with
        | some _ => none
        | none => call g (x :: c.args.toList.map (E.ev tm)) S
      | none => none
    | _ => none

def placesA (E : Env) : List Field → Option (List (Nat × Nat))
  | [] => some []
  | f :: r => match E.inf f.type, placesA E r with
    | some i, some l => some ((f.offset, i.size) :: l)
    | _, _ => none

def buildA (E : Env) (t : TypeId) (ps : List (Nat × AV)) (S : St) : Option (AV × St) :=
  match E.und t, E.inf t with
    | some (.struct fs), some i => match i.zero, placesA E fs.toList with
      | some z, some pl => (fillA (fun j => pl[j]?) (z.cells.toList.map .sc)
          ps).map fun cs => (.agg cs, S)
      | _, _ => none
    | some (.array _ e), some i => match i.zero, E.inf e with
      | some z, some ie => (fillA (fun j => some (j * ie.size, ie.size)) (z.cells.toList.map .sc)
          ps).map fun cs => (.agg cs, S)
      | _, _ => none
    | _, _ => none

/-- The elements of a literal slice. -/
def buildCells (E : Env) (t : TypeId) (len : Nat) (ps : List (Nat × AV)) : Option (Bool × Nat × List AV) :=
  match E.und t with
    | some (.slice e) => match E.und e, E.inf e with
      | some d, some i => match i.zero with
        | some z =>
          bif Nat.blt 0 i.size && Nat.beq z.cells.size i.size && Nat.ble (len * i.size) (2 ^ 24) && (isAggD d || Nat.beq i.size 1) then
            match fillA (fun j => some (j * i.size, i.size)) ((List.range (len * i.size)).map fun j => .sc (z.cells.getD (j % i.size) default)) ps with
            | some cs => bif cs.all okCell then some (isAggD d, i.size, cs) else none
            | none => none
          else none
        | none => none
      | _, _ => none
    | _ => none
def buildSliceA (E : Env) (t : TypeId) (len : Nat) (ps : List (Nat × AV)) (S : St) : Option (AV × St) :=
  match buildCells E t len ps with
  | some (agg, sz, cs) => some (.vec 1 sz (groups agg sz len cs), S)
  | none => none

def loadA (E : Env) (t : TypeId) (x : AV) (S : St) : Option (AV × St) :=
  match x with
    | .ptr l off => match S.obj l with
      | some cs => (E.cutAt t cs off).map (·, S)
      | none => none
    | .eptr cs off => (E.cutAt t cs off).map (·, S)
    | _ => none

def storeA (E : Env) (t : TypeId) (x y : AV) (S : St) : Option (AV × St) :=
  match x, cellsOf y, E.inf t with
    | .ptr l off, some vs, some i => match S.obj l with
      | some cs => bif Nat.beq vs.length i.size && Nat.ble (off + vs.length) cs.length && vs.all okCell then
          some (passed, S.put l (.cells (splice cs off vs))) else none
      | none => none
    | _, _, _ => none

def sliceA (E : Env) (t : TypeId) (x : AV) (lo hi : Option AV) (S : St) : Option (AV × St) :=
  match x with
    | .vec id sz xs => match E.und t, bounds xs.length lo hi with
      | some (.slice e), some (l, h) => match E.inf e with
        | some i => bif Nat.beq i.size sz then
            (bif Nat.beq l 0 && Nat.beq h xs.length then some (.vec id sz xs, S) else some (.vec 0 sz ((xs.drop l).take (h - l)), S)) else none
        | none => none
      | _, _ => none
    | .osl l sz off len room => match E.und t, bounds room (lo) (match hi with | some h => some h | none => some (.sc (.int .i64 len))) with
      | some (.slice e), some (b, h) => match E.inf e with
        | some i => bif Nat.beq i.size sz then some (.osl l sz (off + b * sz) (h - b) (room - b), S) else none
        | none => none
      | _, _ => none
    | .ptr l off => match E.und t with
      | some (.pointer arr) => match E.und arr, S.obj l with
        | some (.array n e), some cs => match E.inf e, bounds n lo hi with
          | some i, some (b, h) => bif Nat.blt 0 i.size && Nat.ble (off + n * i.size) cs.length then some (.osl l i.size (off + b * i.size) (h - b) (n - b), S) else none
          | _, _ => none
        | _, _ => none
      | _ => none
    | .sc (.slice none 0 0) => match E.und t, bounds 0 lo hi with
      | some (.slice e), some _ => match E.inf e with
        | some _ => some (.sc (.slice none 0 0), S)
        | none => none
      | _, _ => none
    | .sc (.string s) => match E.und t, bounds s.size lo hi with
      | some .string, some (l, h) => some (.sc (.string (s.extract l h)), S)
      | _, _ => none
    | _ => none

/-- A full slice expression. -/
def slice3A (E : Env) (t : TypeId) (x : AV) (lo : Option AV) (hi mx : AV) (S : St) : Option (AV × St) :=
  match x with
    | .vec id sz xs => match E.und t, bounds xs.length lo (some hi), int? mx, int? hi with
      | some (.slice e), some (l, h), some m, some hh => match E.inf e with
        | some i => bif Nat.beq i.size sz && decide (m = hh) && Nat.beq l 0 && Nat.blt 0 h then some (.vec 2 sz (xs.take h), S) else none
        | none => none
      | _, _, _, _ => none
    | .osl l sz off len room => match E.und t, int? mx with
      | some (.slice e), some m => match bounds m.toNat lo (some hi), E.inf e with
        | some (b, h), some i => bif decide (0 ≤ m) && Nat.ble m.toNat room && Nat.beq i.size sz then some (.osl l sz (off + b * sz) (h - b) (m.toNat - b), S) else none
        | _, _ => none
      | _, _ => none
    | .sc (.slice none 0 0) => match E.und t, bounds 0 lo (some hi), int? mx with
      | some (.slice e), some _, some 0 => match E.inf e with
        | some _ => some (.sc (.slice none 0 0), S)
        | none => none
      | _, _, _ => none
    | _ => none

def nextA (x : AV) (isString : Bool) (S : St) : Option (AV × St) :=
  match x, isString with
  | .ptr l 0, true => match S.objs.get l with
    | some (.siter s pos) => bif Nat.blt pos s.size then
        some (.tup [.sc (.bool true), .sc (.int .i64 (pos : Nat)), .sc (.int .i32 (Utf8.decode s pos).1)], S.put l (.siter s (pos + (Utf8.decode s pos).2)))
      else some (.tup [.sc (.bool false)], S)
    | _ => none
  | _, _ => none

/-- Does the operation make an object? -/
def isMk (E : Env) (o : Oper) : Bool :=
  match o.op with
  | .alloc _ | .box .. | .makeMap .. | .range .. => true
  | .makeSlice t _ _ | .buildSlice t _ _ => E.hp t o.dst
  | _ => false
def mkOp (E : Env) (tm : PM AV) (o : Oper) : Option Mk :=
  match o.op with
  | .alloc e => match E.inf e with
    | some i => match i.zero with
      | some z => some ⟨.cells (z.cells.toList.map .sc), some (e, z.cells.size), fun n => .ptr n 0⟩
      | none => none
    | none => none
  | .box e x => match cellsOf (E.ev tm x) with
    | some cs => some ⟨.cells cs, some (e, cs.length), fun n => .ptr n 0⟩
    | none => none
  | .makeMap _ none => some ⟨.mp [], none, .mp⟩
  | .makeMap t (some r) => match E.und t, int? (E.ev tm r) with
    | some (.map _ _), some _ => some ⟨.mp [], none, .mp⟩
    | _, _ => none
  | .range t x => match E.und t, E.ev tm x with
    | some .string, .sc (.string s) => some ⟨.siter s 0, none, fun n => .ptr n 0⟩
    | _, _ => none
  | .makeSlice t l c => match makeCells E t (E.ev tm l) (E.ev tm c) with
    | some (_, _, sz, n, _, cs) => some ⟨.cells cs, none, fun k => .osl k sz 0 n n⟩
    | none => none
  | .buildSlice t len parts => match buildCells E t len (parts.toList.map fun p => (p.1, E.ev tm p.2)) with
    | some (_, sz, cs) => some ⟨.cells cs, none, fun k => .osl k sz 0 len len⟩
    | none => none
  | _ => none

/-- An operation that makes no object. -/
def evPlain (E : Env) (call : CallFn) (tm : PM AV) (o : Oper) (S : St) : Option (AV × St) :=
  match o.op with
  | .move x | .assign x => some (E.ev tm x, S)
  | .pick c a b => match E.ev tm c with
    | .sc (.bool t) => some (bif t then E.ev tm a else E.ev tm b, S)
    | _ => none
  | .build t parts => buildA E t (parts.toList.map fun p => (p.1, E.ev tm p.2)) S
  | .buildSlice t len parts => buildSliceA E t len (parts.toList.map fun p => (p.1, E.ev tm p.2)) S
  | .load t a => loadA E t (E.ev tm a) S
  | .store t a x => storeA E t (E.ev tm a) (E.ev tm x) S
  | .nilCheck x => match E.ev tm x with
    | .ptr l off => some (.ptr l off, S)
    | .eptr cs off => some (.eptr cs off, S)
    | .fn (.func f) a b => some (.fn (.func f) a b, S)
    | .ifc t a => some (.ifc t a, S)
    | .sc (.func (.func f) a b) => some (.sc (.func (.func f) a b), S)
    | _ => none
  | .binOp op t x y _ => match conc (E.ev tm x), conc (E.ev tm y) with
    | some a, some b => (peek E.P (do eqGuard op t x y a b; binOp op t a b)).map fun v => (ofV v, S)
    | _, _ => match E.und t with
      | some d => match op, eqNil E d (E.ev tm x) (E.ev tm y) with
        | .eql, some r => some (.sc (.bool r), S)
        | .neq, some r => some (.sc (.bool (!r)), S)
        | _, _ => none
      | none => none
  | .unOp op _ x => match E.ev tm x with
    | .sc v => (peek E.P (Op.unary op v)).map fun r => (ofV r, S)
    | _ => none
  | .convert src dst x => convertA E (E.hp dst o.dst) src dst (E.ev tm x) S
  | .slice t x lo hi none => sliceA E t (E.ev tm x) (lo.map (E.ev tm)) (hi.map (E.ev tm)) S
  | .slice t x lo (some hi) (some mx) => slice3A E t (E.ev tm x) (lo.map (E.ev tm)) (E.ev tm hi) (E.ev tm mx) S
  | .makeSlice t l c => makeSliceA E t (E.ev tm l) (E.ev tm c) S
  | .lookup t x ix ok => lookupA E t (E.ev tm x) (E.ev tm ix) ok S
  | .mapUpdate t m k x | .insert t m k x => mapUpdateA E t (E.ev tm m) (E.ev tm k) (E.ev tm x) S
  | .next it isString => nextA (E.ev tm it) isString S
  | .fieldAddr t x f => match E.und t, E.ev tm x with
    | some (.struct fs), .ptr l off => match fs[f]? with
      | some g => match E.inf g.type with
        | some i => bif Nat.beq i.size 0 then none else some (.ptr l (off + g.offset), S)
        | none => none
      | none => none
    | some (.struct fs), .eptr cs off => match fs[f]? with
      | some g => match E.inf g.type with
        | some i => bif Nat.beq i.size 0 then none else some (.eptr cs (off + g.offset), S)
        | none => none
      | none => none
    | _, _ => none
  | .field t x f => match E.und t, E.ev tm x with
    | some (.struct fs), .agg cs => match fs[f]? with
      | some g => (E.cutAt g.type cs g.offset).map (·, S)
      | none => none
    | _, _ => none
  | .indexAddr t x ix => match E.und t, E.ev tm x, int? (E.ev tm ix) with
    | some (.slice e), .vec _ sz xs, some i => match E.inf e with
      | some ie => bif decide (0 ≤ i) && Nat.beq ie.size sz then
          match xs[i.toNat]? with
          | some v => (cellsOf v).map fun cs => (.eptr cs 0, S)
          | none => none
        else none
      | none => none
    | some (.slice e), .osl l sz off len _, some i => match E.inf e with
      | some ie => bif decide (0 ≤ i) && decide (i < (len : Int)) && Nat.beq ie.size sz then some (.ptr l (off + i.toNat * sz), S) else none
      | none => none
    | some (.array n e), .ptr l off, some i => match E.inf e with
      | some ie => bif decide (0 ≤ i) && decide (i < (n : Int)) then some (.ptr l (off + i.toNat * ie.size), S) else none
      | none => none
    | some (.array n e), .eptr cs off, some i => match E.inf e with
      | some ie => bif decide (0 ≤ i) && decide (i < (n : Int)) then some (.eptr cs (off + i.toNat * ie.size), S) else none
      | none => none
    | _, _, _ => none
  | .index t x ix => match E.ev tm x, E.ev tm ix with
    | .sc (.string s), .sc i => (peek E.P (Instr.index t (.string s) i)).map fun v => (ofV v, S)
    | .agg cs, .sc (.int _ i) => match E.und t with
      | some (.array n e) => match E.inf e with
        | some ie => bif decide (0 ≤ i) && decide (i < (n : Int)) then (E.cutAt e cs (i.toNat * ie.size)).map (·, S) else none
        | none => none
      | _ => none
    | _, _ => none
  | .extract t ix => match E.ev tm t with
    | .tup vs => (vs[ix]?).map (·, S)
    | _ => none
  | .makeFunc f first cap => some (.fn f (first.toList.map (E.ev tm)) (cap.toList.map (E.ev tm)), S)
  | .makeInterface t x => match E.und t with
    | some (.interface _) => none
    | some _ => some (.ifc t (E.ev tm x), S)
    | none => none
  | .call c => callA E (E.hp (c.argTypes.getD 0 0) o.dst) call tm c S
  | _ => none

/-- One operation. -/
def evOp (E : Env) (call : CallFn) (tm : PM AV) (o : Oper) (S : St) : Option (AV × St) :=
  bif isMk E o then (mkOp E tm o).map fun m => (m.val S.no, S.bearNext m) else evPlain E call tm o S

/-- Does the operation come up? -/
def wantedA (ops : Array Oper) (tm : PM AV) (o : Oper) : Option Bool :=
  match o.guard with
  | none => some true
  | some (j, want) => match (ops[j]?).bind (·.dst) with
    | none => none
    | some t => match getT tm t with
      | .sc (.bool b) => some (b == want)
      | .sc (.tuple _) => some false
      | _ => none

def putA (nt : Nat) (dst : Option Tmp) (v : AV) (tm : PM AV) : Option (PM AV) :=
  match dst with
  | none => some tm
  | some d => bif Nat.blt d nt then some (tm.set d v) else none

/-- The operations of a region one after the other. -/
def evSeq (E : Env) (call : CallFn) (nt : Nat) (ops : Array Oper) : List Oper → PM AV → St → Option (PM AV × St)
  | [], tm, S => some (tm, S)
  | o :: rest, tm, S => match wantedA ops tm o with
    | none => none
    | some false => match putA nt o.dst passed tm with
      | some tm' => evSeq E call nt ops rest tm' S
      | none => none
    | some true => match evOp E call tm o S with
      | none => none
      | some (v, S') => match putA nt o.dst v tm with
        | some tm' => evSeq E call nt ops rest tm' S'
        | none => none

inductive Out where
  | nrm
  | exit (id : Nat)
  | ret

def iter (body : PM AV → St → Option (Out × PM AV × St)) : Nat → PM AV → St → Option (Out × PM AV × St)
  | 0, _, _ => none
  | k + 1, tm, S => match body tm S with
    | none => none
    | some (.nrm, tm', S') => iter body k tm' S'
    | some (.exit id, tm', S') => some (.exit id, tm', S')
    | some (.ret, tm', S') => some (.ret, tm', S')

def loudOp (E : Env) : Op → Bool
  | .store .. | .makeSlice .. | .mapUpdate .. | .insert .. | .next .. => true
  | .convert src dst _ => isStrBytes E src dst
  | .call { callee := .builtin .len, .. } | .call { callee := .builtin .min, .. } | .call { callee := .builtin .max, .. } => false
  | .call _ => true
  | _ => false
def loud (E : Env) (o : Oper) : Bool := !isMk E o && loudOp E o.op

/-- Which operations come ahead of which, as bits. -/
def maskOf (acc : PM Nat) : List Edge → Nat
  | [] => 0
  | e :: r => bif Region.binds .any e then (2 ^ e.on ||| (acc.get e.on).getD 0) ||| maskOf acc r else maskOf acc r
def masks : Nat → List Oper → PM Nat → PM Nat
  | _, [], acc => acc
  | i, o :: r, acc => masks (i + 1) r (acc.set i (maskOf acc o.after.toList))
def bit (m : PM Nat) (i d : Nat) : Bool := ((m.get i).getD 0).testBit d

/-- The temporaries that an operation names: its operands and its guard. -/
def namesOf (ops : Array Oper) (o : Oper) : List Tmp := o.looksAt ops

def pairOk (E : Env) (ops : Array Oper) (m : PM Nat) (i : Nat) (x : Oper) (j : Nat) (y : Oper) : Bool :=
  -- i < j: 'y' names what 'x' writes, or 'x' names what 'y' writes: then they are in order; two that are loud are in order; no two write the same
  (match x.dst with
   | some d => (bit m j i || !(namesOf ops y).contains d) && (match y.dst with | some d' => !Nat.beq d d' | none => true)
   | none => true) &&
  (match y.dst with
   | some d => bit m j i || !(namesOf ops x).contains d
   | none => true) &&
  (bit m j i || !(loud E x && loud E y))

def pairsOk (E : Env) (ops : Array Oper) (m : PM Nat) (i : Nat) (x : Oper) : Nat → List Oper → Bool
  | _, [] => true
  | j, y :: r => pairOk E ops m i x j y && pairsOk E ops m i x (j + 1) r
def allPairs (E : Env) (ops : Array Oper) (m : PM Nat) : Nat → List Oper → Bool
  | _, [] => true
  | i, x :: r => x.after.toList.all (fun e => !Region.binds .any e || Nat.blt e.on i) && pairsOk E ops m i x (i + 1) r && allPairs E ops m (i + 1) r

def loadsFrom (E : Env) (tm : PM AV) (o : Oper) : Option Nat :=
  match o.op with
  | .load _ a => match E.ev tm a with
    | .ptr l _ => some l
    | _ => none
  | .convert _ _ a => match E.ev tm a with
    | .osl l _ _ _ _ => some l
    | .ptr l _ => some l
    | _ => none
  | .slice _ a _ _ none => match E.ev tm a with
    | .ptr l _ => some l
    | _ => none
  | .lookup _ a _ _ => match E.ev tm a with
    | .mp l => some l
    | _ => none
  | .call { callee := .builtin .len, args, .. } => match args.toList.map (E.ev tm) with
    | [.mp l] => some l
    | _ => none
  | _ => none

def mkAt (E : Env) (ops : Array Oper) (k : Nat) : Bool := match ops[k]? with
  | some o => isMk E o
  | none => false
def hid (mk : Nat → Bool) (m : PM Nat) (j k : Nat) : Bool := mk k && !bit m j k
/-- The objects made in the region that are not ordered ahead of operation j, out of sight. -/
def maskF (mk : Nat → Bool) (m : PM Nat) (b0 j : Nat) (S0 : St) : Nat → PM AObj
  | 0 => S0.objs
  | k + 1 => bif !hid mk m j k || (S0.objs.get (b0 + k)).isNone then maskF mk m b0 j S0 k else (maskF mk m b0 j S0 k).set (b0 + k) .dead
/-- And back, as they were. -/
def unmaskF (mk : Nat → Bool) (m : PM Nat) (b0 j : Nat) (S0 : St) (os : PM AObj) : Nat → PM AObj
  | 0 => os
  | k + 1 => bif !hid mk m j k then unmaskF mk m b0 j S0 os k else match S0.objs.get (b0 + k) with
    | none => unmaskF mk m b0 j S0 os k
    | some o => (unmaskF mk m b0 j S0 os k).set (b0 + k) o
def St.masked (S : St) (mk : Nat → Bool) (m : PM Nat) (b0 j : Nat) : St := { S with objs := maskF mk m b0 j S j }
def St.unmasked (S' : St) (S : St) (mk : Nat → Bool) (m : PM Nat) (b0 j : Nat) : St := { S' with objs := unmaskF mk m b0 j S S'.objs j }

/-- The lexical walk of a region whose order is open; 'hist': the loud operations that came up, with the states ahead and behind; 'ls': what was loaded from, by whom. -/
def evDrawGo (E : Env) (call : CallFn) (nt : Nat) (ops : Array Oper) (m : PM Nat) (b0 : Nat) : Nat → List Oper → PM AV → St → Option (PM AV × St × List (Nat × St × St) × List (Nat × Nat))
  | _, [], tm, S => some (tm, S, [], [])
  | i, o :: rest, tm, S => match wantedA ops tm o with
    | none => none
    | some false => match putA nt o.dst passed tm with
      | some tm' => evDrawGo E call nt ops m b0 (i + 1) rest tm' S
      | none => none
    | some true =>
      bif isMk E o then
        match mkOp E tm o with
        | none => none
        | some k => match putA nt o.dst (k.val (b0 + i)) tm with
          | some tm' => evDrawGo E call nt ops m b0 (i + 1) rest tm' (S.bear (b0 + i) k)
          | none => none
      else bif loudOp E o.op then
        match evPlain E call tm o (S.masked (mkAt E ops) m b0 i) with
        | none => none
        | some (v, S') => match putA nt o.dst v tm with
          | some tm' => match evDrawGo E call nt ops m b0 (i + 1) rest tm' (S'.unmasked S (mkAt E ops) m b0 i) with
            | some (tm2, S2, hist, ls) => some (tm2, S2, (i, S, S'.unmasked S (mkAt E ops) m b0 i) :: hist, ls)
            | none => none
          | none => none
      else
        match evPlain E call tm o S with
        | none => none
        | some (v, S') => match putA nt o.dst v tm with
          | some tm' => match evDrawGo E call nt ops m b0 (i + 1) rest tm' S' with
            | some (tm2, S2, hist, ls) => some (tm2, S2, hist, (match loadsFrom E tm o with | some l => (i, l) :: ls | none => ls))
            | none => none
          | none => none

def loadOk (E : Env) (ops : Array Oper) (m : PM Nat) (b0 n : Nat) (hist : List (Nat × St × St)) (p : Nat × Nat) : Bool :=
  (hist.all fun h => bit m p.1 h.1 || bit m h.1 p.1 || (Nat.blt p.2 h.2.1.no && Nat.beq (h.2.1.ver p.2) (h.2.2.ver p.2))) &&
  (Nat.blt p.2 b0 || Nat.ble (b0 + n) p.2 || !mkAt E ops (p.2 - b0) || bit m p.1 (p.2 - b0))

def evDraw (E : Env) (call : CallFn) (nt : Nat) (ops : Array Oper) (tm : PM AV) (S : St) : Option (PM AV × St) :=
  bif allPairs E ops (masks 0 ops.toList .leaf) 0 ops.toList then
    match evDrawGo E call nt ops (masks 0 ops.toList .leaf) S.no 0 ops.toList tm { S with no := S.no + ops.size } with
    | some (tm', S', hist, ls) => bif ls.all (loadOk E ops (masks 0 ops.toList .leaf) S.no ops.size hist) then some (tm', S') else none
    | none => none
  else none

/-- The code of a function. -/
def evC (E : Env) (call : CallFn) (lf nt : Nat) : Code → PM AV → St → Option (Out × PM AV × St)
  | .skip, tm, S => some (.nrm, tm, S)
  | .label _, tm, S => some (.nrm, tm, S)
  | .region _ ops false, tm, S => match evSeq E call nt ops ops.toList tm S with
    | some (tm', S') => some (.nrm, tm', S')
    | none => none
  | .region _ ops true, tm, S => match evDraw E call nt ops tm S with
    | some (tm', S') => some (.nrm, tm', S')
    | none => none
  | .seq x y, tm, S => match evC E call lf nt x tm S with
    | some (.nrm, tm', S') => evC E call lf nt y tm' S'
    | r => r
  | .cond c x y, tm, S => match E.ev tm c with
    | .sc (.bool true) => evC E call lf nt x tm S
    | .sc (.bool false) => evC E call lf nt y tm S
    | _ => none
  | .block id c, tm, S => match evC E call lf nt c tm S with
    | some (.exit j, tm', S') => bif Nat.beq j id then some (.nrm, tm', S') else some (.exit j, tm', S')
    | r => r
  | .loop c, tm, S => iter (evC E call lf nt c) lf tm S
  | .scope c, tm, S => evC E call lf nt c tm S
  | .exit id, tm, S => some (.exit id, tm, S)
  | .ret, tm, S => some (.ret, tm, S)
  | _, _, _ => none

def initTm : Nat → List AV → PM AV → PM AV
  | _, [], tm => tm
  | i, a :: l, tm => initTm (i + 1) l (tm.set i a)

def resA (E : Env) (tm : PM AV) (S : St) : ResultVar → Option AV
  | .tmp t => some (getT tm t)
  | .cell x t => match getT tm x with
    | .ptr l off => match S.obj l with
      | some cs => E.cutAt t cs off
      | none => none
    | .eptr cs off => E.cutAt t cs off
    | _ => none
def resAll (E : Env) (tm : PM AV) (S : St) : List ResultVar → Option (List AV)
  | [] => some []
  | r :: l => match resA E tm S r, resAll E tm S l with
    | some v, some vs => some (v :: vs)
    | _, _ => none
def packA : List AV → AV
  | [v] => v
  | [] => passed
  | vs => .tup vs

def evF (E : Env) (lf : Nat) : Nat → CallFn
  | 0 => fun _ _ _ => none
  | n + 1 => fun f args S =>
    match E.fn f with
    | none => none
    | some fn => match E.X f with
      | some g => g args S
      | none => match fn.body with
        | none => none
        | some c => bif Nat.ble args.length fn.ntmps then
            match evC E (evF E lf n) lf fn.ntmps c (initTm 0 args .leaf) S with
            | some (.exit _, _, _) => none
            | some (_, tm, S') => (resAll E tm S' fn.results.toList).map fun vs => (packA vs, S')
            | none => none
          else none

end Go.Abs
end

section
set_option linter.unusedSimpArgs false
set_option linter.unusedVariables false
namespace Go.Abs
open Go.RowKit

structure Hdr where
  b : Nat
  off : Nat
  len : Nat
  cap : Nat
  sz : Nat

structure Ctx where
  no : Nat
  born : Nat → Prop
  nid : Nat
  mu : Nat → Nat
  bs : Nat → Nat
  ol : Nat → Nat
  lim : Nat → Nat
  io : Nat → Hdr
  top : Nat → Nat
  base : Nat

/-- Block b is no object's. -/
def Ctx.free (C : Ctx) (b : Nat) : Prop := ∀ l, C.born l → C.mu l ≠ b

inductive VR (C : Ctx) (w : World) : AV → Value → Prop
  | undef (v : Value) : VR C w .undef v
  | sc (v : Value) : VR C w (.sc v) v
  | ptr (l off : Nat) (h : C.born l) : VR C w (.ptr l off) (.pointer (some ⟨C.mu l, C.bs l + off, none⟩))
  | osl (l sz off len room : Nat) (a : Addr) (cap : Nat) (h : C.born l) (hs : 0 < sz) (hlr : len ≤ room) (hrc : room ≤ cap) (hro : off + room * sz ≤ C.ol l) (hcl : off + cap * sz ≤ C.lim l)
      (ha : 0 < cap → a = ⟨C.mu l, C.bs l + off, none⟩) : VR C w (.osl l sz off len room) (.slice (some a) len cap)
  | mp (l : Nat) (h : C.born l) : VR C w (.mp l) (.map (some (C.mu l)))
  | eptr (cs : List AV) (off b o : Nat) (u : Nat → Value) (hb : b < w.heap.size) (hf : C.free b) (ht : o + cs.length ≤ C.top b)
      (hc : ∀ i, i < cs.length → w.cell? ⟨b, o + i, none⟩ = some (u i)) (hr : ∀ i x, cs[i]? = some x → VR C w x (u i)) :
      VR C w (.eptr cs off) (.pointer (some ⟨b, o + off, none⟩))
  | vec0 (sz : Nat) (a : Addr) (cap : Nat) : VR C w (.vec 0 sz []) (.slice (some a) 0 cap)
  | vec (id sz : Nat) (xs fl : List AV) (b o cap : Nat) (u : Nat → Value) (hs : 0 < sz) (hlc : xs.length ≤ cap) (hfl : flat? sz xs = some fl) (hb : b < w.heap.size) (hf : C.free b)
      (ht : o + fl.length ≤ C.top b) (hc : ∀ i, i < fl.length → w.cell? ⟨b, o + i, none⟩ = some (u i)) (hr : ∀ i x, fl[i]? = some x → VR C w x (u i))
      (hid : 2 < id → id < C.nid ∧ C.io id = ⟨b, o, xs.length, cap, sz⟩) (hx1 : id = 1 ∨ id = 2 → cap = xs.length) (hx2 : id = 1 → C.base ≤ b ∧ ∀ i, 2 < i → i < C.nid → (C.io i).b ≠ b) :
      VR C w (.vec id sz xs) (.slice (some ⟨b, o, none⟩) xs.length cap)
  | udat (id : Nat) (xs fl : List AV) (b o cap : Nat) (u : Nat → Value) (hfl : flat? 1 xs = some fl) (hb : b < w.heap.size) (hf : C.free b)
      (ht : o + fl.length ≤ C.top b) (hc : ∀ i, i < fl.length → w.cell? ⟨b, o + i, none⟩ = some (u i)) (hr : ∀ i x, fl[i]? = some x → VR C w x (u i))
      (hid : 2 < id ∧ id < C.nid ∧ C.io id = ⟨b, o, xs.length, cap, 1⟩) :
      VR C w (.udat id xs) (.pointer (some ⟨b, o, none⟩))
  | agg (cs : List AV) (vs : Array Value) (hl : cs.length = vs.size) (hr : ∀ i x, cs[i]? = some x → VR C w x (vs.getD i undef)) : VR C w (.agg cs) (.agg vs)
  | tup (cs : List AV) (vs : Array Value) (hl : cs.length = vs.size) (hr : ∀ i x, cs[i]? = some x → VR C w x (vs.getD i undef)) : VR C w (.tup cs) (.tuple vs)
  | fn (f : Fn) (c1 c2 : List AV) (v1 v2 : Array Value) (hl1 : c1.length = v1.size) (hr1 : ∀ i x, c1[i]? = some x → VR C w x (v1.getD i undef))
      (hl2 : c2.length = v2.size) (hr2 : ∀ i x, c2[i]? = some x → VR C w x (v2.getD i undef)) : VR C w (.fn f c1 c2) (.func f v1 v2)
  | ifc (t : TypeId) (a : AV) (v : Value) (h : VR C w a v) : VR C w (.ifc t a) (.iface t v)

/-- The values of a list, one by one. -/
def LR (C : Ctx) (w : World) (cs : List AV) (vs : List Value) : Prop :=
  cs.length = vs.length ∧ ∀ i x, cs[i]? = some x → VR C w x (vs.getD i undef)

theorem LR.nil (C : Ctx) (w : World) : LR C w [] [] := ⟨rfl, fun i x h => by simp at h⟩
theorem LR.cons {C : Ctx} {w : World} {a : AV} {v : Value} {cs : List AV} {vs : List Value} (h : VR C w a v) (hl : LR C w cs vs) : LR C w (a :: cs) (v :: vs) := by
  refine ⟨by simp [hl.1], fun i x hx => ?_⟩
  cases i with
  | zero => simp at hx; subst hx; simpa using h
  | succ i => simp at hx; simpa using hl.2 i x hx
theorem LR.head {C : Ctx} {w : World} {a : AV} {v : Value} {cs : List AV} {vs : List Value} (h : LR C w (a :: cs) (v :: vs)) : VR C w a v := by
  simpa using h.2 0 a (by simp)
theorem LR.tail {C : Ctx} {w : World} {a : AV} {v : Value} {cs : List AV} {vs : List Value} (h : LR C w (a :: cs) (v :: vs)) : LR C w cs vs :=
  ⟨by simpa using h.1, fun i x hx => by simpa using h.2 (i + 1) x (by simpa using hx)⟩
theorem LR.append {C : Ctx} {w : World} : ∀ {a : List AV} {va : List Value} {b : List AV} {vb : List Value}, LR C w a va → LR C w b vb → LR C w (a ++ b) (va ++ vb)
  | [], [], _, _, _, hb => hb
  | [], _ :: _, _, _, ha, _ => absurd ha.1 (by simp)
  | _ :: _, [], _, _, ha, _ => absurd ha.1 (by simp)
  | _ :: _, _ :: _, _, _, ha, hb => LR.cons ha.head (LR.append ha.tail hb)
theorem LR.get {C : Ctx} {w : World} {cs : List AV} {vs : List Value} (h : LR C w cs vs) {i : Nat} {x : AV} (hx : cs[i]? = some x) : ∃ v, vs[i]? = some v ∧ VR C w x v := by
  have hi : i < cs.length := by
    rcases Nat.lt_or_ge i cs.length with h' | h'
    · exact h'
    · simp [List.getElem?_eq_none h'] at hx
  have hi2 : i < vs.length := h.1 ▸ hi
  refine ⟨vs[i], by simp [hi2], ?_⟩
  have := h.2 i x hx
  simpa [hi2] using this
theorem LR.scs {C : Ctx} {w : World} (l : List Value) : LR C w (l.map .sc) l := by
  induction l with
  | nil => exact LR.nil _ _
  | cons v l ih => exact LR.cons (.sc v) ih
theorem LR.drop {C : Ctx} {w : World} : ∀ (n : Nat) {cs : List AV} {vs : List Value}, LR C w cs vs → LR C w (cs.drop n) (vs.drop n)
  | 0, _, _, h => by simpa using h
  | n + 1, [], [], h => by simpa using h
  | n + 1, [], _ :: _, h => absurd h.1 (by simp)
  | n + 1, _ :: _, [], h => absurd h.1 (by simp)
  | n + 1, _ :: _, _ :: _, h => by simpa using LR.drop n h.tail
theorem LR.take {C : Ctx} {w : World} : ∀ (n : Nat) {cs : List AV} {vs : List Value}, LR C w cs vs → LR C w (cs.take n) (vs.take n)
  | 0, _, _, _ => by simpa using LR.nil _ _
  | n + 1, [], [], h => by simpa using h
  | n + 1, [], _ :: _, h => absurd h.1 (by simp)
  | n + 1, _ :: _, [], h => absurd h.1 (by simp)
  | n + 1, _ :: _, _ :: _, h => by simpa using LR.cons h.head (LR.take n h.tail)
theorem LR.agg {C : Ctx} {w : World} {cs : List AV} {vs : Array Value} (h : LR C w cs vs.toList) : VR C w (.agg cs) (.agg vs) :=
  .agg cs vs (by simpa using h.1) (fun i x hx => by simpa using h.2 i x hx)
theorem LR.tup {C : Ctx} {w : World} {cs : List AV} {vs : Array Value} (h : LR C w cs vs.toList) : VR C w (.tup cs) (.tuple vs) :=
  .tup cs vs (by simpa using h.1) (fun i x hx => by simpa using h.2 i x hx)
theorem VR.agg_inv {C : Ctx} {w : World} {cs : List AV} {v : Value} (h : VR C w (.agg cs) v) : ∃ vs, v = .agg vs ∧ LR C w cs vs.toList := by
  cases h with
  | agg _ vs hl hr => exact ⟨vs, rfl, by simpa using hl, fun i x hx => by simpa using hr i x hx⟩
theorem VR.tup_inv {C : Ctx} {w : World} {cs : List AV} {v : Value} (h : VR C w (.tup cs) v) : ∃ vs, v = .tuple vs ∧ LR C w cs vs.toList := by
  cases h with
  | tup _ vs hl hr => exact ⟨vs, rfl, by simpa using hl, fun i x hx => by simpa using hr i x hx⟩
theorem VR.sc_inv {C : Ctx} {w : World} {v u : Value} (h : VR C w (.sc v) u) : u = v := by cases h; rfl

/-- What stands below B is as it was; no draw has been taken back. -/
structure Bel (B : Nat) (w w' : World) : Prop where
  b : Below B w w'
  d : w.drawn ≤ w'.drawn
theorem Bel.refl (B : Nat) (w : World) : Bel B w w := ⟨Below.refl B w, Nat.le_refl _⟩
theorem Bel.trans {B : Nat} {a b c : World} (h : Bel B a b) (k : Bel B b c) : Bel B a c := ⟨h.b.trans k.b, Nat.le_trans h.d k.d⟩
theorem Bel.drew {B : Nat} {a w : World} (h : Bel B a w) : Bel B a w.drew := ⟨h.b.drew, Nat.le_trans h.d (Nat.le_succ _)⟩
theorem Bel.alloc {B : Nat} {a w : World} (h : Bel B a w) (hB : B ≤ w.heap.size) (o : Obj) : Bel B a (w.alloc o) := ⟨h.b.alloc hB o, h.d⟩
theorem Bel.setCell {B : Nat} {a w : World} (h : Bel B a w) {p : Addr} (hp : B ≤ p.block) (v : Value) : Bel B a (w.setCell p v) := ⟨h.b.setCell hp v, h.d⟩
structure ExtW (C : Ctx) (w : World) (C' : Ctx) (w' : World) : Prop where
  born : ∀ l, C.born l → C'.born l ∧ C'.mu l = C.mu l ∧ C'.bs l = C.bs l ∧ C'.ol l = C.ol l ∧ C'.lim l = C.lim l
  nid : C.nid ≤ C'.nid
  io : ∀ i, i < C.nid → C'.io i = C.io i
  ion : ∀ i, C.nid ≤ i → i < C'.nid → w.heap.size ≤ (C'.io i).b ∨ ∃ j, 2 < j ∧ j < C.nid ∧ (C'.io i).b = (C.io j).b
  fresh : ∀ l, ¬ C.born l → C'.born l → w.heap.size ≤ C'.mu l ∨ ∃ l0, C.born l0 ∧ C.mu l0 = C'.mu l
  size : w.heap.size ≤ w'.heap.size
  top : ∀ b, b < w.heap.size → C.top b ≤ C'.top b
  cell : ∀ b o, b < w.heap.size → C.free b → o < C.top b → w'.cell? ⟨b, o, none⟩ = w.cell? ⟨b, o, none⟩
  base : C'.base = C.base
  below : Bel C.base w w'
  shape : ∀ b x, w.shape? b = some x → w'.shape? b = some x

/-- The same, and what is new bears a new number. -/
structure Ext (C : Ctx) (w : World) (C' : Ctx) (w' : World) : Prop extends ExtW C w C' w' where
  no : C.no ≤ C'.no
  newer : ∀ l, ¬ C.born l → C'.born l → C.no ≤ l

instance (C : Ctx) (w : World) (C' : Ctx) (w' : World) : Coe (Ext C w C' w') (ExtW C w C' w') := ⟨Ext.toExtW⟩

theorem ExtW.free {C C' : Ctx} {w w' : World} (h : ExtW C w C' w') {b : Nat} (hb : b < w.heap.size) (hf : C.free b) : C'.free b := by
  intro l hl e
  by_cases hlt : C.born l
  · exact hf l hlt ((h.born l hlt).2.1.symm.trans e)
  · rcases h.fresh l hlt hl with h1 | ⟨l0, h1, h2⟩
    · omega
    · exact hf l0 h1 (h2.trans e)

theorem ExtW.refl (C : Ctx) (w : World) : ExtW C w C w :=
  ⟨fun _ h => ⟨h, rfl, rfl, rfl, rfl⟩, Nat.le_refl _, fun _ _ => rfl, fun i h1 h2 => absurd h2 (by omega), fun l h1 h2 => absurd h2 h1, Nat.le_refl _, fun _ _ => Nat.le_refl _, fun _ _ _ _ _ => rfl, rfl, Bel.refl _ _, fun _ _ h => h⟩

theorem ExtW.trans {C C1 C2 : Ctx} {w w1 w2 : World} (h : ExtW C w C1 w1) (k : ExtW C1 w1 C2 w2) : ExtW C w C2 w2 where
  born := fun l hl => by
    obtain ⟨a1, a2, a3, a4, a5⟩ := h.born l hl
    obtain ⟨b1, b2, b3, b4, b5⟩ := k.born l a1
    exact ⟨b1, b2.trans a2, b3.trans a3, b4.trans a4, b5.trans a5⟩
  nid := Nat.le_trans h.nid k.nid
  io := fun i hi => (k.io i (Nat.lt_of_lt_of_le hi h.nid)).trans (h.io i hi)
  ion := fun i h1 h2 => by
    by_cases hi : i < C1.nid
    · rw [k.io i hi]; exact h.ion i h1 hi
    · rcases k.ion i (by omega) h2 with h3 | ⟨j, h3, h4, h5⟩
      · exact .inl (Nat.le_trans h.size h3)
      · by_cases hj : j < C.nid
        · exact .inr ⟨j, h3, hj, by rw [h5, h.io j hj]⟩
        · rw [h5]; exact h.ion j (by omega) h4
  fresh := fun l h1 h2 => by
    by_cases hl : C1.born l
    · rw [(k.born l hl).2.1]; exact h.fresh l h1 hl
    · rcases k.fresh l hl h2 with h3 | ⟨l0, h3, h4⟩
      · exact .inl (Nat.le_trans h.size h3)
      · by_cases hl0 : C.born l0
        · exact .inr ⟨l0, hl0, by rw [← h4, (h.born l0 hl0).2.1]⟩
        · rw [← h4]; exact h.fresh l0 hl0 h3
  size := Nat.le_trans h.size k.size
  top := fun b hb => Nat.le_trans (h.top b hb) (k.top b (Nat.lt_of_lt_of_le hb h.size))
  cell := fun b o hb hf ho => (k.cell b o (Nat.lt_of_lt_of_le hb h.size) (h.free hb hf) (Nat.lt_of_lt_of_le ho (h.top b hb))).trans (h.cell b o hb hf ho)
  base := k.base.trans h.base
  below := h.below.trans (h.base ▸ k.below)
  shape := fun b x hx => k.shape b x (h.shape b x hx)

theorem Ext.refl (C : Ctx) (w : World) : Ext C w C w := ⟨ExtW.refl C w, Nat.le_refl _, fun _ h1 h2 => absurd h2 h1⟩
theorem Ext.trans {C C1 C2 : Ctx} {w w1 w2 : World} (h : Ext C w C1 w1) (k : Ext C1 w1 C2 w2) : Ext C w C2 w2 :=
  ⟨h.toExtW.trans k.toExtW, Nat.le_trans h.no k.no, fun l h1 h2 => by
    by_cases hl : C1.born l
    · exact h.newer l h1 hl
    · exact Nat.le_trans h.no (k.newer l hl h2)⟩
theorem Ext.free {C C' : Ctx} {w w' : World} (h : Ext C w C' w') {b : Nat} (hb : b < w.heap.size) (hf : C.free b) : C'.free b := h.toExtW.free hb hf

theorem VR.ext {C C' : Ctx} {w w' : World} (e : ExtW C w C' w') {a : AV} {v : Value} (h : VR C w a v) : VR C' w' a v := by
  induction h with
  | undef v => exact .undef v
  | sc v => exact .sc v
  | ptr l off h =>
    obtain ⟨b1, b2, b3, b4, b5⟩ := e.born l h
    rw [← b2, ← b3]; exact .ptr l off b1
  | osl l sz off len room a cap h hs hlr hrc hro hcl ha =>
    obtain ⟨b1, b2, b3, b4, b5⟩ := e.born l h
    exact .osl l sz off len room a cap b1 hs hlr hrc (by rw [b4]; exact hro) (by rw [b5]; exact hcl) (fun hp => by rw [b2, b3]; exact ha hp)
  | mp l h =>
    obtain ⟨b1, b2, b3, b4, b5⟩ := e.born l h
    rw [← b2]; exact .mp l b1
  | eptr cs off b o u hb hf ht hc _ ih =>
    exact .eptr cs off b o u (Nat.lt_of_lt_of_le hb e.size) (e.free hb hf) (Nat.le_trans ht (e.top b hb))
      (fun i hi => (e.cell b (o + i) hb hf (by omega)).trans (hc i hi)) ih
  | vec0 sz a cap => exact .vec0 sz a cap
  | vec id sz xs fl b o cap u hs hlc hfl hb hf ht hc _ hid hx1 hx2 ih =>
    exact .vec id sz xs fl b o cap u hs hlc hfl (Nat.lt_of_lt_of_le hb e.size) (e.free hb hf) (Nat.le_trans ht (e.top b hb))
      (fun i hi => (e.cell b (o + i) hb hf (by omega)).trans (hc i hi)) ih
      (fun h0 => let ⟨h1, h2⟩ := hid h0; ⟨Nat.lt_of_lt_of_le h1 e.nid, (e.io id h1).trans h2⟩) hx1
      (fun h0 => let ⟨h1, h2⟩ := hx2 h0; ⟨by rw [e.base]; exact h1, fun i hi1 hi2 he => by
        by_cases hi : i < C.nid
        · rw [e.io i hi] at he; exact h2 i hi1 hi he
        · rcases e.ion i (by omega) hi2 with h3 | ⟨j, h3, h4, h5⟩
          · omega
          · rw [h5] at he; exact h2 j h3 h4 he⟩)
  | udat id xs fl b o cap u hfl hb hf ht hc _ hid ih =>
    exact .udat id xs fl b o cap u hfl (Nat.lt_of_lt_of_le hb e.size) (e.free hb hf) (Nat.le_trans ht (e.top b hb))
      (fun i hi => (e.cell b (o + i) hb hf (by omega)).trans (hc i hi)) ih
      (let ⟨h0, h1, h2⟩ := hid; ⟨h0, Nat.lt_of_lt_of_le h1 e.nid, (e.io id h1).trans h2⟩)
  | agg cs vs hl _ ih => exact .agg cs vs hl ih
  | tup cs vs hl _ ih => exact .tup cs vs hl ih
  | fn f c1 c2 v1 v2 hl1 _ hl2 _ ih1 ih2 => exact .fn f c1 c2 v1 v2 hl1 ih1 hl2 ih2
  | ifc t a v _ ih => exact .ifc t a v ih
theorem LR.ext {C C' : Ctx} {w w' : World} (e : ExtW C w C' w') {cs : List AV} {vs : List Value} (h : LR C w cs vs) : LR C' w' cs vs :=
  ⟨h.1, fun i x hx => (h.2 i x hx).ext e⟩

def unfrozen (c : Array Value) (fz : Nat × Nat) : Prop := fz.1 = fz.2 ∨ c.size ≤ fz.1
theorem unfrozen.at {c : Array Value} {fz : Nat × Nat} (h : unfrozen c fz) (i : Nat) (hi : i < c.size) : ¬ (fz.1 ≤ i ∧ i < fz.2) := by
  rcases h with h | h <;> omega

/-- A map: the keys once each, the entries in any order. -/
structure MapR (C : Ctx) (w : World) (es : List (Value × AV)) (ents : List MapEntry) : Prop where
  len : es.length = ents.length
  nd : (es.map (·.1)).Nodup
  nd' : (ents.map (·.key)).Nodup
  key : ∀ e ∈ ents, ∃ x, (e.key, x) ∈ es
  val : ∀ k x, (k, x) ∈ es → ∃ e ∈ ents, e.key = k ∧ VR C w x e.val

def ObjR (C : Ctx) (w : World) (l : Nat) : Option AObj → Option Obj → Prop
  | some (.cells cs), o => ∃ c T fz, o = some (.cells c T fz) ∧ LR C w cs ((c.toList.drop (C.bs l)).take cs.length) ∧ cs.length = C.ol l ∧ C.ol l ≤ C.lim l ∧ C.bs l + C.lim l ≤ c.size ∧ unfrozen c fz
  | some (.siter s p), o => o = some (.stringIter s p) ∧ C.bs l = 0
  | some (.mp es), o => ∃ ents clock, o = some (.map ents clock) ∧ MapR C w es ents.toList
  | some .dead, _ => True
  | none, _ => False

/-- Nothing can be read or written there. -/
def inacc (o : Option AObj) : Prop := o = none ∨ o = some .dead

structure IdR (C : Ctx) (w : World) (sp : Bool) (h : Hdr) : Prop where
  base : C.base ≤ h.b ∧ h.off = 0
  lt : h.b < w.heap.size
  free : C.free h.b
  sz : 0 < h.sz
  lc : h.len ≤ h.cap
  row : ∃ c T fz, w.heap[h.b]? = some (.cells c T fz) ∧ (∀ i, C.top h.b ≤ i → i < c.size → ¬ (fz.1 ≤ i ∧ i < fz.2)) ∧ h.off + h.cap * h.sz ≤ c.size
  top : h.off + h.len * h.sz ≤ C.top h.b
  at_top : sp = false → C.top h.b = h.off + h.len * h.sz

def St.isSpent (S : St) (i : Nat) : Bool := (S.spent.get i).isSome

/-- A row that nothing but its cells below the top is frozen of. -/
def plainRow (w : World) (tp : Nat) (T : TypeId) (b : Nat) : Prop := ∃ c fz, w.heap[b]? = some (.cells c T fz) ∧ (fz.1 = fz.2 ∨ (fz.1 ≤ fz.2 ∧ fz.2 ≤ tp))

structure WR (E : Env) (C : Ctx) (S : St) (w : World) : Prop where
  no : C.no = S.no
  unb : ∀ l, S.no ≤ l → ¬ C.born l
  nid : C.nid = S.nid
  nid1 : 2 < S.nid
  bs : C.base ≤ w.heap.size
  inj : ∀ l l', C.born l → C.born l' → ¬ inacc (S.objs.get l) → ¬ inacc (S.objs.get l') → C.mu l = C.mu l' → l = l'
  mub : ∀ l, C.born l → C.base ≤ C.mu l ∧ C.mu l < w.heap.size
  objs : ∀ l, C.born l → ObjR C w l (S.objs.get l) (w.heap[C.mu l]?)
  unob : ∀ l, ¬ C.born l → inacc (S.objs.get l)
  ids : ∀ i, 2 < i → i < C.nid → IdR C w (S.isSpent i) (C.io i)
  idi : ∀ i j, 2 < i → i < C.nid → 2 < j → j < C.nid → S.isSpent i = false → S.isSpent j = false → (C.io i).b = (C.io j).b → i = j
  glob : ∀ g cs, E.G g = some cs → VR C w (.eptr cs 0) (.pointer (some ⟨g, 0, none⟩))
  fresh : ∀ i, S.nid ≤ i → S.isSpent i = false ∧ S.ity.get i = none
  shp : ∀ l x, C.born l → S.shp.get l = some x → C.bs l = 0 ∧ w.shape? (C.mu l) = some x
  shu : ∀ l, ¬ C.born l → S.shp.get l = none
  ity : ∀ i T, 2 < i → i < C.nid → S.ity.get i = some T → plainRow w (C.top (C.io i).b) T (C.io i).b

theorem MapR.ext {C C' : Ctx} {w w' : World} (e : ExtW C w C' w') {es : List (Value × AV)} {ents : List MapEntry} (h : MapR C w es ents) : MapR C' w' es ents :=
  ⟨h.len, h.nd, h.nd', h.key, fun k x hx => let ⟨y, h1, h2, h3⟩ := h.val k x hx; ⟨y, h1, h2, h3.ext e⟩⟩
theorem ObjR.ext {C C' : Ctx} {w w' : World} (e : ExtW C w C' w') {l : Nat} (hb : C.born l) {a : Option AObj} {o : Option Obj} (h : ObjR C w l a o) : ObjR C' w' l a o := by
  obtain ⟨b1, b2, b3, b4, b5⟩ := e.born l hb
  match a, h with
  | some (.cells cs), ⟨c, T, fz, h1, h2, h3, h4, h5, h6⟩ => exact ⟨c, T, fz, h1, by rw [b3]; exact h2.ext e, by rw [b4]; exact h3, by rw [b4, b5]; exact h4, by rw [b3, b5]; exact h5, h6⟩
  | some (.siter s p), h => exact ⟨h.1, by rw [b3]; exact h.2⟩
  | some (.mp es), ⟨ents, clock, h1, h2⟩ => exact ⟨ents, clock, h1, h2.ext e⟩
  | some .dead, _ => trivial

theorem heap_alloc_lt (w : World) (o : Obj) {b : Nat} (h : b < w.heap.size) : (w.alloc o).heap[b]? = w.heap[b]? := by
  show (w.heap.push o)[b]? = _
  rw [Array.getElem?_push, if_neg (by omega)]
theorem heap_alloc_at (w : World) (o : Obj) : (w.alloc o).heap[w.heap.size]? = some o := by
  show (w.heap.push o)[w.heap.size]? = _
  rw [Array.getElem?_push, if_pos rfl]
theorem cell_alloc_lt (w : World) (o : Obj) {b : Nat} (p : Nat) (h : b < w.heap.size) : (w.alloc o).cell? ⟨b, p, none⟩ = w.cell? ⟨b, p, none⟩ := by
  simp only [World.cell?, heap_alloc_lt w o h]
theorem cell_block {w : World} {b : Nat} {c : Array Value} {T : TypeId} {fz : Nat × Nat} (h : w.heap[b]? = some (.cells c T fz)) (p : Nat) : w.cell? ⟨b, p, none⟩ = c[p]? := by
  simp [World.cell?, h]


/-- A draw turns nothing. -/
theorem Ext.drew (C : Ctx) (w : World) : Ext C w C w.drew :=
  ⟨⟨fun _ h => ⟨h, rfl, rfl, rfl, rfl⟩, Nat.le_refl _, fun _ _ => rfl, fun i h1 h2 => absurd h2 (by omega), fun l h1 h2 => absurd h2 h1, Nat.le_refl _, fun _ _ => Nat.le_refl _, fun _ _ _ _ _ => rfl, rfl, (Bel.refl _ _).drew, fun _ _ h => h⟩, Nat.le_refl _, fun _ h1 h2 => absurd h2 h1⟩
theorem IdR.same {C : Ctx} {w w' : World} (hs : w.heap.size ≤ w'.heap.size) {sp : Bool} {h : Hdr} (hh : w'.heap[h.b]? = w.heap[h.b]?) (k : IdR C w sp h) : IdR C w' sp h := by
  obtain ⟨h1, h2, h3, h4, h5, ⟨c, T, fz, r1, r2, r3⟩, h7, h8⟩ := k
  exact ⟨h1, by omega, h3, h4, h5, ⟨c, T, fz, by rw [hh]; exact r1, r2, r3⟩, h7, h8⟩
theorem WR.drew {E : Env} {C : Ctx} {S : St} {w : World} (h : WR E C S w) : WR E C S w.drew where
  no := h.no
  unb := h.unb
  nid := h.nid
  nid1 := h.nid1
  bs := h.bs
  inj := h.inj
  mub := h.mub
  objs := fun l hl => (h.objs l hl).ext (Ext.drew C w).toExtW hl
  unob := h.unob
  ids := fun i h0 hi => IdR.same (w := w) (w' := w.drew) (Nat.le_refl _) rfl (h.ids i h0 hi)
  idi := h.idi
  glob := fun g cs hg => (h.glob g cs hg).ext (Ext.drew C w)
  fresh := h.fresh
  shp := h.shp
  shu := h.shu
  ity := h.ity

theorem shape_alloc (w : World) (o : Obj) {b : Nat} {x : TypeId × Nat} (h : w.shape? b = some x) : (w.alloc o).shape? b = some x := by
  have hb : b < w.heap.size := by
    rcases Nat.lt_or_ge b w.heap.size with h' | h'
    · exact h'
    · simp [World.shape?, Array.getElem?_eq_none h'] at h
  simp only [World.shape?, heap_alloc_lt w o hb]
  exact h
theorem shape_block {w : World} {b : Nat} {c : Array Value} {T : TypeId} {fz : Nat × Nat} (h : w.heap[b]? = some (.cells c T fz)) : w.shape? b = some (T, c.size) := by
  simp [World.shape?, h]

/-- A new object. -/
def Ctx.bear (C : Ctx) (n b o len lim no' : Nat) : Ctx :=
  { C with no := no', born := fun l => C.born l ∨ l = n, mu := fun l => if l = n then b else C.mu l, bs := fun l => if l = n then o else C.bs l, ol := fun l => if l = n then len else C.ol l, lim := fun l => if l = n then lim else C.lim l }
section
variable {C : Ctx} {n b o len lim no' : Nat}
theorem Ctx.bear_at : (C.bear n b o len lim no').mu n = b ∧ (C.bear n b o len lim no').bs n = o ∧ (C.bear n b o len lim no').ol n = len ∧ (C.bear n b o len lim no').lim n = lim := by simp [Ctx.bear]
theorem Ctx.bear_ne {l : Nat} (h : l ≠ n) : (C.bear n b o len lim no').mu l = C.mu l ∧ (C.bear n b o len lim no').bs l = C.bs l ∧ (C.bear n b o len lim no').ol l = C.ol l ∧ (C.bear n b o len lim no').lim l = C.lim l := by simp [Ctx.bear, h]
end

theorem ExtW.bear {E : Env} {C : Ctx} {S : St} {w : World} (h : WR E C S w) {n : Nat} (hn : ¬ C.born n) (ob : Obj) (len lim no' : Nat) : ExtW C w (C.bear n w.heap.size 0 len lim no') (w.alloc ob) where
  born := fun l hl => by
    have hne : l ≠ n := fun e => hn (e ▸ hl)
    obtain ⟨h1, h2, h3, h4⟩ := C.bear_ne (b := w.heap.size) (o := 0) (len := len) (lim := lim) (no' := no') hne
    exact ⟨.inl hl, h1, h2, h3, h4⟩
  nid := Nat.le_refl _
  io := fun _ _ => rfl
  ion := fun i h1 h2 => absurd h2 (by show ¬ i < C.nid; omega)
  fresh := fun l h1 h2 => by
    have : l = n := h2.resolve_left h1
    rw [this, Ctx.bear_at.1]; exact .inl (Nat.le_refl _)
  size := by simp
  top := fun _ _ => Nat.le_refl _
  cell := fun b p hb _ _ => cell_alloc_lt w ob p hb
  base := rfl
  below := (Bel.refl _ _).alloc h.bs ob
  shape := fun b x hx => shape_alloc w ob hx

theorem WR.bear {E : Env} {C : Ctx} {S : St} {w : World} (h : WR E C S w) {n no' : Nat} (hn : ¬ C.born n) (h1 : S.no ≤ no') (h2 : n < no') (m : Mk) {ob : Obj} {len lim : Nat}
    (hob : ObjR (C.bear n w.heap.size 0 len lim no') (w.alloc ob) n (some m.obj) (some ob)) (hsh : ∀ x, m.sh = some x → (w.alloc ob).shape? w.heap.size = some x) :
    WR E (C.bear n w.heap.size 0 len lim no') { S.bear n m with no := no' } (w.alloc ob) := by
  have e : ExtW C w (C.bear n w.heap.size 0 len lim no') (w.alloc ob) := ExtW.bear h hn ob len lim no'
  have hget : ∀ l, l ≠ n → ({ S.bear n m with no := no' } : St).objs.get l = S.objs.get l := fun l hl => by
    show (S.objs.set n m.obj).get l = _
    rw [PM.get_set, if_neg hl]
  have hat : ({ S.bear n m with no := no' } : St).objs.get n = some m.obj := by
    show (S.objs.set n m.obj).get n = _
    rw [PM.get_set, if_pos rfl]
  refine ⟨rfl, fun l hl hb => ?_, h.nid, h.nid1, by have := h.bs; simp [Ctx.bear]; omega, ?_, ?_, ?_, fun l hl => ?_, ?_, h.idi, fun g cs hg => (h.glob g cs hg).ext e, h.fresh, fun l x hl hx => ?_, fun l hl => ?_, fun i T h0 hi hT => ?_⟩
  · have hl' : no' ≤ l := hl
    rcases hb with hb | hb
    · exact h.unb l (by omega) hb
    · omega
  · intro l l' hl hl' ha ha' heq
    by_cases e1 : l = n
    · by_cases e2 : l' = n
      · omega
      · have hb' := hl'.resolve_right e2
        rw [e1, Ctx.bear_at.1, (Ctx.bear_ne e2).1] at heq
        have := (h.mub l' hb').2; omega
    · have hb := hl.resolve_right e1
      by_cases e2 : l' = n
      · rw [e2, Ctx.bear_at.1, (Ctx.bear_ne e1).1] at heq
        have := (h.mub l hb).2; omega
      · have hb' := hl'.resolve_right e2
        rw [(Ctx.bear_ne e1).1, (Ctx.bear_ne e2).1] at heq
        rw [hget l e1] at ha
        rw [hget l' e2] at ha'
        exact h.inj l l' hb hb' ha ha' heq
  · intro l hl
    by_cases e1 : l = n
    · rw [e1, Ctx.bear_at.1]; have := h.bs; exact ⟨this, by simp⟩
    · rw [(Ctx.bear_ne e1).1]
      have := h.mub l (hl.resolve_right e1)
      exact ⟨this.1, by simp; omega⟩
  · intro l hl
    by_cases e1 : l = n
    · rw [e1, hat, Ctx.bear_at.1, heap_alloc_at]; exact hob
    · rw [hget l e1, (Ctx.bear_ne e1).1, heap_alloc_lt _ _ (h.mub l (hl.resolve_right e1)).2]
      exact (h.objs l (hl.resolve_right e1)).ext e (hl.resolve_right e1)
  · have hne : l ≠ n := fun e => hl (.inr e)
    rw [hget l hne]
    exact h.unob l (fun hb => hl (.inl hb))
  · intro i h0 hi
    have k := h.ids i h0 hi
    obtain ⟨h1, h2, h3, h4, h5, ⟨c', T', fz, r1, r2, r3⟩, h7, h8⟩ := k
    exact ⟨h1, by show (C.io i).b < _; simp; omega, e.free h2 h3, h4, h5, ⟨c', T', fz, by show (w.alloc _).heap[(C.io i).b]? = _; rw [heap_alloc_lt _ _ h2]; exact r1, r2, r3⟩, h7, h8⟩
  · have hx' : (match m.sh with | some p => S.shp.set n p | none => S.shp).get l = some x := hx
    by_cases e1 : l = n
    · rw [e1, Ctx.bear_at.1, Ctx.bear_at.2.1]
      refine ⟨rfl, ?_⟩
      cases hm : m.sh with
      | none =>
        rw [hm, e1, h.shu n hn] at hx'
        cases hx'
      | some p =>
        rw [hm] at hx'
        simp only [PM.get_set, e1, if_true, Option.some.injEq] at hx'
        rw [← hx']
        exact hsh p hm
    · have hb := hl.resolve_right e1
      rw [(Ctx.bear_ne e1).1, (Ctx.bear_ne e1).2.1]
      have hx2 : S.shp.get l = some x := by
        cases hm : m.sh with
        | none => rw [hm] at hx'; exact hx'
        | some p => rw [hm] at hx'; simp only [PM.get_set, e1, if_false] at hx'; exact hx'
      obtain ⟨k1, k2⟩ := h.shp l x hb hx2
      exact ⟨k1, e.shape _ _ k2⟩
  · have hne : l ≠ n := fun e => hl (.inr e)
    have h0 : S.shp.get l = none := h.shu l (fun hb => hl (.inl hb))
    show (match m.sh with | some p => S.shp.set n p | none => S.shp).get l = none
    cases hm : m.sh with
    | none => exact h0
    | some p => simp only [PM.get_set, hne, if_false]; exact h0
  · obtain ⟨c', fz', k1, k2⟩ := h.ity i T h0 hi hT
    exact ⟨c', fz', by show (w.alloc _).heap[(C.io i).b]? = _; rw [heap_alloc_lt _ _ (h.ids i h0 hi).lt]; exact k1, k2⟩

/-- A new object that is a row of cells. -/
theorem WR.bearRow {E : Env} {C : Ctx} {S : St} {w : World} (h : WR E C S w) {n no' : Nat} (hn : ¬ C.born n) (h1 : S.no ≤ no') (h2 : n < no') (m : Mk) {cs : List AV} (hm : m.obj = .cells cs) {c : Array Value} {T : TypeId} {lim : Nat}
    (hl : LR C w cs (c.toList.take cs.length)) (hlim : cs.length ≤ lim) (hsz : lim ≤ c.size) (hsh : ∀ x, m.sh = some x → x = (T, c.size)) :
    WR E (C.bear n w.heap.size 0 cs.length lim no') { S.bear n m with no := no' } (w.alloc (.cells c T)) := by
  refine h.bear hn h1 h2 m ?_ (fun x hx => ?_)
  · rw [hm]
    refine ⟨c, T, (0, 0), rfl, ?_, ?_, ?_, ?_, .inl rfl⟩
    · rw [Ctx.bear_at.2.1, List.drop_zero]; exact hl.ext (ExtW.bear h hn _ _ _ _)
    · rw [Ctx.bear_at.2.2.1]
    · rw [Ctx.bear_at.2.2.1, Ctx.bear_at.2.2.2]; exact hlim
    · rw [Ctx.bear_at.2.1, Ctx.bear_at.2.2.2]; omega
  · rw [hsh x hx]; exact shape_block (heap_alloc_at w _)

/-- A new row that a slice by value lies in. -/
def Ctx.newId (C : Ctx) (hd : Hdr) (tp : Nat) : Ctx := { C with nid := C.nid + 1, io := fun i => if i = C.nid then hd else C.io i, top := fun b => if b = hd.b then tp else C.top b }
theorem Ext.newRow {E : Env} {C : Ctx} {S : St} {w : World} (h : WR E C S w) (o : Obj) (len cap sz tp : Nat) : Ext C w (C.newId ⟨w.heap.size, 0, len, cap, sz⟩ tp) (w.alloc o) where
  born := fun _ h => ⟨h, rfl, rfl, rfl, rfl⟩
  nid := Nat.le_succ _
  io := fun i hi => by simp only [Ctx.newId]; rw [if_neg (by omega)]
  ion := fun i h1 h2 => .inl (by
    have : i = C.nid := by simp only [Ctx.newId] at h2; omega
    simp only [Ctx.newId]; rw [if_pos this]; exact Nat.le_refl _)
  fresh := fun l h1 h2 => absurd h2 h1
  size := by simp
  top := fun b hb => by simp only [Ctx.newId]; rw [if_neg (by omega)]; exact Nat.le_refl _
  cell := fun b p hb _ _ => cell_alloc_lt w o p hb
  base := rfl
  below := (Bel.refl _ _).alloc h.bs o
  shape := fun b x hx => shape_alloc w o hx
  no := Nat.le_refl _
  newer := fun _ h1 h2 => absurd h2 h1

/-- A row without a number of its own: nothing but the world grows. -/
def Ctx.row (C : Ctx) (b tp : Nat) : Ctx := { C with top := fun k => if k = b then tp else C.top k }
theorem Ext.row {E : Env} {C : Ctx} {S : St} {w : World} (h : WR E C S w) (o : Obj) (tp : Nat) : Ext C w (C.row w.heap.size tp) (w.alloc o) where
  born := fun _ h => ⟨h, rfl, rfl, rfl, rfl⟩
  nid := Nat.le_refl _
  io := fun i hi => rfl
  ion := fun i h1 h2 => absurd h2 (by show ¬ i < C.nid; omega)
  fresh := fun l h1 h2 => absurd h2 h1
  size := by simp
  top := fun b hb => by simp only [Ctx.row]; rw [if_neg (by omega)]; exact Nat.le_refl _
  cell := fun b p hb _ _ => cell_alloc_lt w o p hb
  base := rfl
  below := (Bel.refl _ _).alloc h.bs o
  shape := fun b x hx => shape_alloc w o hx
  no := Nat.le_refl _
  newer := fun _ h1 h2 => absurd h2 h1
theorem WR.row {E : Env} {C : Ctx} {S : St} {w : World} (h : WR E C S w) (o : Obj) (tp : Nat) : WR E (C.row w.heap.size tp) S (w.alloc o) := by
  have e := Ext.row h o tp
  refine ⟨h.no, h.unb, h.nid, h.nid1, by have := h.bs; simp [Ctx.row]; omega, h.inj, fun l hl => ⟨(h.mub l hl).1, by have := (h.mub l hl).2; simp [Ctx.row]; omega⟩, fun l hl => ?_, h.unob, fun i h0 hi => ?_, h.idi, fun g cs hg => (h.glob g cs hg).ext e, h.fresh, fun l x hl hx => ?_, h.shu, fun i T h0 hi hT => ?_⟩
  · show ObjR _ _ l (S.objs.get l) ((w.alloc _).heap[C.mu l]?)
    rw [heap_alloc_lt _ _ (h.mub l hl).2]
    exact (h.objs l hl).ext e.toExtW hl
  · obtain ⟨k1, k2, k3, k4, k5, ⟨c', T', fz', r1, r2, r3⟩, k7, k8⟩ := h.ids i h0 hi
    have ht : (C.row w.heap.size tp).top (C.io i).b = C.top (C.io i).b := by simp only [Ctx.row]; rw [if_neg (by omega)]
    exact ⟨k1, by show (C.io i).b < _; simp; omega, k3, k4, k5, ⟨c', T', fz', by show (w.alloc _).heap[(C.io i).b]? = _; rw [heap_alloc_lt _ _ k2]; exact r1, by show ∀ i', Ctx.top _ (C.io i).b ≤ i' → _; rw [ht]; exact r2, r3⟩, by show _ ≤ Ctx.top _ (C.io i).b; rw [ht]; exact k7, fun hsp => by show Ctx.top _ (C.io i).b = _; rw [ht]; exact k8 hsp⟩
  · obtain ⟨k1, k2⟩ := h.shp l x hl hx
    exact ⟨k1, e.shape _ _ k2⟩
  · obtain ⟨c', fz', k1, k2⟩ := h.ity i T h0 hi hT
    exact ⟨c', fz', by show (w.alloc _).heap[(C.io i).b]? = _; rw [heap_alloc_lt _ _ (h.ids i h0 hi).lt]; exact k1, by
      have ht : (C.row w.heap.size tp).top (C.io i).b = C.top (C.io i).b := by simp only [Ctx.row]; rw [if_neg (by have := (h.ids i h0 hi).lt; omega)]
      show _ ∨ (_ ∧ _ ≤ Ctx.top _ (C.io i).b); rw [ht]; exact k2⟩

theorem WR.newRow {E : Env} {C : Ctx} {S : St} {w : World} (h : WR E C S w) {c : Array Value} (T : TypeId) (fz : Nat × Nat) (len cap sz : Nat) (hs : 0 < sz) (hlc : len ≤ cap)
    (hsz : cap * sz ≤ c.size) (hfz : unfrozen c fz) (hpl : fz.1 = fz.2 ∨ (fz.1 ≤ fz.2 ∧ fz.2 ≤ (C.newId ⟨w.heap.size, 0, len, cap, sz⟩ (len * sz)).top w.heap.size)) :
    WR E (C.newId ⟨w.heap.size, 0, len, cap, sz⟩ (len * sz)) (S.newId T) (w.alloc (.cells c T fz)) := by
  have e : Ext C w (C.newId ⟨w.heap.size, 0, len, cap, sz⟩ (len * sz)) (w.alloc (.cells c T fz)) := Ext.newRow h _ _ _ _ _
  have hfree : (C.newId ⟨w.heap.size, 0, len, cap, sz⟩ (len * sz)).free w.heap.size := fun l hl => by
    have := (h.mub l hl).2
    show C.mu l ≠ _; omega
  refine ⟨h.no, h.unb, by simp [Ctx.newId, St.newId, h.nid], by have := h.nid1; simp [St.newId]; omega, by have := h.bs; simp [Ctx.newId]; omega, h.inj, fun l hl => ⟨(h.mub l hl).1, by have := (h.mub l hl).2; simp [Ctx.newId]; omega⟩, ?_, h.unob, ?_, ?_,
    fun g cs hg => (h.glob g cs hg).ext e, fun i hi => ⟨(h.fresh i (by simp only [St.newId] at hi; omega)).1, by
      have hi' : S.nid + 1 ≤ i := hi
      show (S.ity.set S.nid T).get i = none
      rw [PM.get_set, if_neg (by omega)]
      exact (h.fresh i (by omega)).2⟩, fun l x hl hx => ?_, h.shu, fun i T' h0 hi hT => ?_⟩
  · intro l hl
    show ObjR _ _ l (S.objs.get l) ((w.alloc _).heap[C.mu l]?)
    rw [heap_alloc_lt _ _ (h.mub l hl).2]
    exact (h.objs l hl).ext e.toExtW hl
  · intro i h0 hi
    simp only [Ctx.newId] at hi
    by_cases h1 : i = C.nid
    · have hh : (C.newId ⟨w.heap.size, 0, len, cap, sz⟩ (len * sz)).io i = ⟨w.heap.size, 0, len, cap, sz⟩ := by simp only [Ctx.newId]; rw [if_pos h1]
      have ht : (C.newId ⟨w.heap.size, 0, len, cap, sz⟩ (len * sz)).top w.heap.size = len * sz := by simp [Ctx.newId]
      rw [hh]
      exact ⟨⟨h.bs, rfl⟩, by simp, hfree, hs, hlc, ⟨c, T, fz, heap_alloc_at _ _, fun j _ hj => hfz.at j hj, by simpa using hsz⟩, by show 0 + len * sz ≤ _; rw [ht]; omega, fun _ => by show Ctx.top _ w.heap.size = 0 + len * sz; rw [ht]; omega⟩
    · have hh : (C.newId ⟨w.heap.size, 0, len, cap, sz⟩ (len * sz)).io i = C.io i := by simp only [Ctx.newId]; rw [if_neg h1]
      obtain ⟨k1, k2, k3, k4, k5, ⟨c', T', fz', r1, r2, r3⟩, k7, k8⟩ := h.ids i h0 (by omega)
      have ht : (C.newId ⟨w.heap.size, 0, len, cap, sz⟩ (len * sz)).top (C.io i).b = C.top (C.io i).b := by simp only [Ctx.newId]; rw [if_neg (by omega)]
      rw [hh]
      exact ⟨k1, by simp; omega, e.free k2 k3, k4, k5, ⟨c', T', fz', by rw [heap_alloc_lt _ _ k2]; exact r1, by rw [ht]; exact r2, r3⟩, by rw [ht]; exact k7, fun hsp => by rw [ht]; exact k8 hsp⟩
  · intro i j h0 hi h0' hj hsi hsj heq
    simp only [Ctx.newId] at hi hj heq
    by_cases h1 : i = C.nid
    · by_cases h2 : j = C.nid
      · omega
      · rw [if_pos h1, if_neg h2] at heq
        have := (h.ids j h0' (by omega)).lt
        simp only at heq; omega
    · by_cases h2 : j = C.nid
      · rw [if_neg h1, if_pos h2] at heq
        have := (h.ids i h0 (by omega)).lt
        simp only at heq; omega
      · rw [if_neg h1, if_neg h2] at heq
        exact h.idi i j h0 (by omega) h0' (by omega) hsi hsj heq
  · obtain ⟨k1, k2⟩ := h.shp l x hl hx
    exact ⟨k1, e.shape _ _ k2⟩
  · have hT' : (S.ity.set S.nid T).get i = some T' := hT
    rw [PM.get_set] at hT'
    have hi' : i < C.nid + 1 := hi
    by_cases h1 : i = S.nid
    · rw [if_pos h1] at hT'
      simp only [Option.some.injEq] at hT'
      have hh : (C.newId ⟨w.heap.size, 0, len, cap, sz⟩ (len * sz)).io i = ⟨w.heap.size, 0, len, cap, sz⟩ := by simp only [Ctx.newId]; rw [if_pos (by rw [h.nid]; exact h1)]
      rw [hh, ← hT']
      exact ⟨c, fz, heap_alloc_at w _, hpl⟩
    · rw [if_neg h1] at hT'
      have h2 : i < C.nid := by have := h.nid; omega
      have hh : (C.newId ⟨w.heap.size, 0, len, cap, sz⟩ (len * sz)).io i = C.io i := by simp only [Ctx.newId]; rw [if_neg (by omega)]
      obtain ⟨c', fz', k1, k2⟩ := h.ity i T' h0 h2 hT'
      have hlt := (h.ids i h0 h2).lt
      have ht : (C.newId ⟨w.heap.size, 0, len, cap, sz⟩ (len * sz)).top (C.io i).b = C.top (C.io i).b := by simp only [Ctx.newId]; rw [if_neg (by omega)]
      rw [hh]
      exact ⟨c', fz', by rw [heap_alloc_lt _ _ hlt]; exact k1, by rw [ht]; exact k2⟩

/-- A world that differs from another in the block of one living object alone. -/
theorem WR.put {E : Env} {C : Ctx} {S : St} {w w' : World} (h : WR E C S w) {l : Nat} (hl : C.born l) (hal : ¬ inacc (S.objs.get l)) {a : AObj} {o : Obj}
    (hb : w'.heap[C.mu l]? = some o) (ho : ∀ b, b ≠ C.mu l → w'.heap[b]? = w.heap[b]?) (hsz : w'.heap.size = w.heap.size) (hbel : Bel C.base w w') (hsh : ∀ x, w.shape? (C.mu l) = some x → w'.shape? (C.mu l) = some x)
    (hr : ObjR C w l (some a) (some o)) : WR E C (S.put l a) w' ∧ Ext C w C w' := by
  have e : Ext C w C w' := ⟨⟨fun _ h => ⟨h, rfl, rfl, rfl, rfl⟩, Nat.le_refl _, fun _ _ => rfl, fun i h1 h2 => absurd h2 (by omega), fun l h1 h2 => absurd h2 h1, by omega, fun _ _ => Nat.le_refl _,
    fun b o hb hf _ => by simp only [World.cell?, ho b (fun e => hf l hl e.symm)], rfl, hbel, fun b x hx => by
      by_cases hbb : b = C.mu l
      · rw [hbb] at hx ⊢; exact hsh x hx
      · simp only [World.shape?, ho b hbb] at hx ⊢; exact hx⟩, Nat.le_refl _, fun _ h1 h2 => absurd h2 h1⟩
  have hget : ∀ k, (S.put l a).objs.get k = if k = l then some a else S.objs.get k := fun k => by
    show (S.objs.set l a).get k = _
    rw [PM.get_set]
  refine ⟨⟨h.no, h.unb, h.nid, h.nid1, by have := h.bs; omega, fun k k' hk hk' ha ha' heq => ?_, fun l hl => ⟨(h.mub l hl).1, by have := (h.mub l hl).2; omega⟩, fun k hk => ?_, fun k hk => ?_, fun i h0 hi => ?_, h.idi, fun g cs hg => (h.glob g cs hg).ext e, h.fresh, fun k x hk hx => ?_, h.shu, fun i T h0 hi hT => ?_⟩, e⟩
  · have old : ∀ k, C.born k → ¬ inacc ((S.put l a).objs.get k) → ¬ inacc (S.objs.get k) := fun k _ ha => by
      rw [hget] at ha
      by_cases h1 : k = l
      · rw [h1]; exact hal
      · rw [if_neg h1] at ha; exact ha
    exact h.inj k k' hk hk' (old k hk ha) (old k' hk' ha') heq
  · rw [hget]
    by_cases h1 : k = l
    · rw [if_pos h1, h1, hb]; exact hr.ext e.toExtW hl
    · rw [if_neg h1]
      have hk0 := h.objs k hk
      by_cases h2 : C.mu k = C.mu l
      · -- two numbers for one block: the other is dead
        have hd : inacc (S.objs.get k) := Classical.byContradiction fun hc => h1 (h.inj k l hk hl hc hal h2)
        rcases hd with hd | hd
        · rw [hd] at hk0; exact hk0.elim
        · rw [hd]; trivial
      · rw [ho _ h2]; exact hk0.ext e.toExtW hk
  · have h1 : k ≠ l := fun e => hk (e ▸ hl)
    rw [hget, if_neg h1]; exact h.unob k hk
  · have k := h.ids i h0 hi
    exact k.same (by omega) (ho _ (fun e => k.free l hl e.symm))
  · obtain ⟨k1, k2⟩ := h.shp k x hk hx
    exact ⟨k1, e.shape _ _ k2⟩
  · obtain ⟨c', fz', k1, k2⟩ := h.ity i T h0 hi hT
    exact ⟨c', fz', by rw [ho _ (fun e => (h.ids i h0 hi).free l hl e.symm)]; exact k1, k2⟩

/-- An object dies. -/
theorem WR.kill {E : Env} {C : Ctx} {S : St} {w : World} (h : WR E C S w) {l : Nat} (hl : C.born l) : WR E C (S.put l .dead) w := by
  have hget : ∀ k, (S.put l .dead).objs.get k = if k = l then some .dead else S.objs.get k := fun k => by
    show (S.objs.set l .dead).get k = _
    rw [PM.get_set]
  refine ⟨h.no, h.unb, h.nid, h.nid1, h.bs, fun k k' hk hk' ha ha' heq => ?_, h.mub, fun k hk => ?_, fun k hk => ?_, h.ids, h.idi, h.glob, h.fresh, h.shp, h.shu, h.ity⟩
  · have old : ∀ k, ¬ inacc ((S.put l .dead).objs.get k) → ¬ inacc (S.objs.get k) := fun k ha => by
      rw [hget] at ha
      by_cases h1 : k = l
      · rw [if_pos h1] at ha; exact absurd (.inr rfl) ha
      · rw [if_neg h1] at ha; exact ha
    exact h.inj k k' hk hk' (old k ha) (old k' ha') heq
  · rw [hget]
    by_cases h1 : k = l
    · rw [if_pos h1]; trivial
    · rw [if_neg h1]; exact h.objs k hk
  · have h1 : k ≠ l := fun e => hk (e ▸ hl)
    rw [hget, if_neg h1]; exact h.unob k hk

/-- What an environment says is so. -/
structure Env.Ok (E : Env) : Prop where
  fn : ∀ f x, E.fn f = some x → E.P.funcs[f]? = some x ∧ x.name ≠ "runtime.NumGoroutine"
  und : ∀ t x, E.und t = some x → E.P.underlying t = some x
  inf : ∀ t x, E.inf t = some x → E.P.info? t = some x
  mixed : E.P.follows .mixedOrders = true
  meth : ∀ t name f, E.meth t name = some f → ∀ v w, (method (E.P.types.size + Made.depth) t v name).run E.P w = .ok (f, v) w
  ext : ∀ g h args r, E.ext g = some h → h args = some r → ∀ C w (vs : Array Value), LR C w args vs.toList → ∃ u, (callFunc g vs).run E.P w = .ok (.value u) w ∧ VR C w r u

end Go.Abs
end

section
set_option linter.unusedSimpArgs false
set_option linter.unusedVariables false
namespace Go.Abs
open Go.RowKit

/-- The cells of block b from o on stand for 'cs'. -/
def Seg (C : Ctx) (w : World) (b o : Nat) (cs : List AV) : Prop := ∃ vs, LR C w cs vs ∧ w.rangeAt b o vs

theorem Seg.of_fun {C : Ctx} {w : World} {b o : Nat} {cs : List AV} {u : Nat → Value} (hc : ∀ i, i < cs.length → w.cell? ⟨b, o + i, none⟩ = some (u i)) (hr : ∀ i x, cs[i]? = some x → VR C w x (u i)) : Seg C w b o cs := by
  refine ⟨(List.range cs.length).map u, ⟨by simp, fun i x hx => ?_⟩, fun j v hv => ?_⟩
  · have hi : i < cs.length := by
      rcases Nat.lt_or_ge i cs.length with h' | h'
      · exact h'
      · simp [List.getElem?_eq_none h'] at hx
    simpa [hi] using hr i x hx
  · have hj : j < cs.length := by
      rcases Nat.lt_or_ge j cs.length with h' | h'
      · exact h'
      · simp [h'] at hv
    simp [hj] at hv
    subst hv
    exact hc j hj
theorem Seg.fun {C : Ctx} {w : World} {b o : Nat} {cs : List AV} (h : Seg C w b o cs) : ∃ u : Nat → Value, (∀ i, i < cs.length → w.cell? ⟨b, o + i, none⟩ = some (u i)) ∧ (∀ i x, cs[i]? = some x → VR C w x (u i)) := by
  obtain ⟨vs, hl, hr⟩ := h
  exact ⟨fun i => vs.getD i undef, fun i hi => by
    have : i < vs.length := hl.1 ▸ hi
    exact hr i _ (by simp [this]), hl.2⟩
theorem VR.eptr_mk {C : Ctx} {w : World} {cs : List AV} {b o : Nat} (off : Nat) (hb : b < w.heap.size) (hf : C.free b) (ht : o + cs.length ≤ C.top b) (hs : Seg C w b o cs) :
    VR C w (.eptr cs off) (.pointer (some ⟨b, o + off, none⟩)) := by
  obtain ⟨u, h1, h2⟩ := hs.fun
  exact .eptr cs off b o u hb hf ht h1 h2
theorem VR.eptr_inv {C : Ctx} {w : World} {cs : List AV} {off : Nat} {v : Value} (h : VR C w (.eptr cs off) v) :
    ∃ b o, v = .pointer (some ⟨b, o + off, none⟩) ∧ b < w.heap.size ∧ C.free b ∧ o + cs.length ≤ C.top b ∧ Seg C w b o cs := by
  cases h with
  | eptr _ _ b o u hb hf ht hc hr => exact ⟨b, o, rfl, hb, hf, ht, Seg.of_fun hc hr⟩

structure VecAt (C : Ctx) (w : World) (id sz : Nat) (xs : List AV) (fl : List AV) (b o cap : Nat) : Prop where
  szpos : 0 < sz
  lc : xs.length ≤ cap
  flat : flat? sz xs = some fl
  lt : b < w.heap.size
  free : C.free b
  top : o + fl.length ≤ C.top b
  seg : Seg C w b o fl
  hd : 2 < id → id < C.nid ∧ C.io id = ⟨b, o, xs.length, cap, sz⟩
  x1 : id = 1 ∨ id = 2 → cap = xs.length
  x2 : id = 1 → C.base ≤ b ∧ ∀ i, 2 < i → i < C.nid → (C.io i).b ≠ b
theorem VecAt.mk' {C : Ctx} {w : World} {id sz : Nat} {xs fl : List AV} {b o cap : Nat} (h : VecAt C w id sz xs fl b o cap) : VR C w (.vec id sz xs) (.slice (some ⟨b, o, none⟩) xs.length cap) := by
  obtain ⟨u, h1, h2⟩ := h.seg.fun
  exact .vec id sz xs fl b o cap u h.szpos h.lc h.flat h.lt h.free h.top h1 h2 h.hd h.x1 h.x2
theorem VR.vec_inv {C : Ctx} {w : World} {id sz : Nat} {xs : List AV} {v : Value} (h : VR C w (.vec id sz xs) v) :
    (id = 0 ∧ xs = [] ∧ ∃ a cap, v = .slice (some a) 0 cap) ∨ (∃ fl b o cap, v = .slice (some ⟨b, o, none⟩) xs.length cap ∧ VecAt C w id sz xs fl b o cap) := by
  cases h with
  | vec0 _ a cap => exact .inl ⟨rfl, rfl, a, cap, rfl⟩
  | vec _ _ _ fl b o cap u hs hlc hfl hb hf ht hc hr hid hx1 hx2 => exact .inr ⟨fl, b, o, cap, rfl, ⟨hs, hlc, hfl, hb, hf, ht, Seg.of_fun hc hr, hid, hx1, hx2⟩⟩
theorem VR.vec_slice {C : Ctx} {w : World} {id sz : Nat} {xs : List AV} {v : Value} (h : VR C w (.vec id sz xs) v) : ∃ a cap, v = .slice (some a) xs.length cap := by
  rcases h.vec_inv with ⟨_, rfl, a, cap, rfl⟩ | ⟨fl, b, o, cap, rfl, _⟩
  · exact ⟨a, cap, rfl⟩
  · exact ⟨_, cap, rfl⟩

theorem vr_ofCell (C : Ctx) (w : World) (v : Value) : VR C w (ofCell v) v := by
  cases v with
  | agg cs => exact LR.agg (LR.scs _)
  | _ => exact .sc _
theorem lr_ofCells {C : Ctx} {w : World} (l : List Value) : LR C w (l.map ofCell) l := by
  induction l with
  | nil => exact LR.nil _ _
  | cons v l ih => exact LR.cons (vr_ofCell _ _ v) ih
theorem vr_ofV (C : Ctx) (w : World) (v : Value) : VR C w (ofV v) v := by
  cases v with
  | agg cs => exact LR.agg (LR.scs _)
  | tuple vs =>
    simp only [ofV]
    by_cases h : vs.isEmpty = true
    · have : vs = #[] := by simpa using h
      subst this; exact .sc _
    · have h' : vs.isEmpty = false := by simpa using h
      rw [h', cond_false]
      exact LR.tup (lr_ofCells _)
  | _ => exact .sc _

theorem concAll_eq {C : Ctx} {w : World} : ∀ {cs : List AV} {vs us : List Value}, LR C w cs vs → concAll cs = some us → us = vs
  | [], [], us, _, h => by simpa [concAll] using h.symm
  | [], _ :: _, _, h, _ => absurd h.1 (by simp)
  | _ :: _, [], _, h, _ => absurd h.1 (by simp)
  | a :: cs, v :: vs, us, h, hc => by
    simp only [concAll] at hc
    split at hc
    · rename_i v' vs' h1 h2
      simp only [Option.some.injEq] at hc
      subst hc
      have h3 := concAll_eq h.tail h2
      cases a with
      | sc x =>
        simp [concCell] at h1; subst h1
        have := h.head.sc_inv
        rw [h3, this]
      | _ => simp [concCell] at h1
    · simp at hc
theorem conc_eq {C : Ctx} {w : World} {a : AV} {v u : Value} (h : VR C w a v) (hc : conc a = some u) : u = v := by
  cases a with
  | sc x => simp [conc] at hc; subst hc; exact h.sc_inv.symm
  | agg cs =>
    obtain ⟨vs, rfl, hl⟩ := h.agg_inv
    simp only [conc, Option.map_eq_some_iff] at hc
    obtain ⟨us, h1, rfl⟩ := hc
    rw [concAll_eq hl h1]
  | _ => simp [conc] at hc

/-- The temporaries. -/
def TR (C : Ctx) (w : World) (tm : PM AV) (ts : Array Value) : Prop := ∀ i x, tm.get i = some x → VR C w x (ts.getD i undef)
theorem TR.ext {C C' : Ctx} {w w' : World} {tm : PM AV} {ts : Array Value} (h : TR C w tm ts) (e : Ext C w C' w') : TR C' w' tm ts := fun i x hx => (h i x hx).ext e
theorem TR.getT {C : Ctx} {w : World} {tm : PM AV} {ts : Array Value} (h : TR C w tm ts) (t : Nat) : VR C w (getT tm t) (ts.getD t undef) := by
  unfold Abs.getT
  cases hg : tm.get t with
  | none => exact .undef _
  | some x => exact h t x hg
theorem TR.put {C : Ctx} {w : World} {tm tm' : PM AV} {a : Act} {nt : Nat} {dst : Option Tmp} {v : AV} {u : Value} (h : TR C w tm a.tmps) (hn : a.tmps.size = nt) (hv : VR C w v u) (hp : putA nt dst v tm = some tm') :
    TR C w tm' (a.put dst u).tmps ∧ (a.put dst u).tmps.size = nt := by
  cases dst with
  | none => simp [putA] at hp; subst hp; exact ⟨h, hn⟩
  | some d =>
    simp only [putA] at hp
    cases hb : Nat.blt d nt with
    | false => rw [hb] at hp; simp at hp
    | true =>
      rw [hb] at hp
      simp at hp
      subst hp
      have hd : d < a.tmps.size := by rw [hn]; exact Nat.le_of_ble_eq_true hb
      refine ⟨fun i x hx => ?_, by simp [Act.put, hn]⟩
      rw [PM.get_set] at hx
      simp only [Act.put]
      by_cases hi : i = d
      · subst hi; simp at hx; subst hx; simpa [hd] using hv
      · rw [if_neg hi] at hx
        have := h i x hx
        simpa [Array.getElem?_setIfInBounds, Ne.symm hi] using this

theorem ev_rel {E : Env} {C : Ctx} {S : St} {w : World} {tm : PM AV} {a : Act} (hw : WR E C S w) (ht : TR C w tm a.tmps) (x : Operand) : VR C w (E.ev tm x) (a.eval x) := by
  cases x with
  | tmp t => exact ht.getT t
  | const v => exact vr_ofV _ _ v
  | func f => exact .sc _
  | global g =>
    simp only [Env.ev]
    cases hg : E.G g with
    | none => exact .undef _
    | some cs => exact hw.glob g cs hg
theorem evs_rel {E : Env} {C : Ctx} {S : St} {w : World} {tm : PM AV} {a : Act} (hw : WR E C S w) (ht : TR C w tm a.tmps) (l : List Operand) : LR C w (l.map (E.ev tm)) (l.map a.eval) := by
  induction l with
  | nil => exact LR.nil _ _
  | cons x l ih => exact LR.cons (ev_rel hw ht x) ih

/-- What an operation comes to. -/
def Good (E : Env) (C : Ctx) (w : World) (r : Sem Next) (v : AV) (S' : St) : Prop :=
  (∃ u C' w', r.run E.P w = .ok (.value u) w' ∧ WR E C' S' w' ∧ Ext C w C' w' ∧ VR C' w' v u) ∨
  (∃ C' w', r.run E.P w = .ok .skip w' ∧ v = passed ∧ WR E C' S' w' ∧ Ext C w C' w') ∨
  (∃ f args, r.run E.P w = .ok (.enter f args) w ∧ Calls E.P f args w (fun e w' => ∃ u C', e = .returned u ∧ WR E C' S' w' ∧ Ext C w C' w' ∧ VR C' w' v u))

theorem Good.val {E : Env} {C : Ctx} {S : St} {w : World} {r : Sem Next} {v : AV} {u : Value} (hw : WR E C S w) (h : r.run E.P w = .ok (.value u) w) (hv : VR C w v u) : Good E C w r v S :=
  .inl ⟨u, C, w, h, hw, Ext.refl _ _, hv⟩
theorem run_v {P : Program} {w w' : World} {s : Sem Value} {u : Value} (h : s.run P w = .ok u w') : (do pure (Next.value (← s)) : Sem Next).run P w = .ok (.value u) w' := by
  rw [Sem.run_bind, h]; rfl

theorem Good.wp {E : Env} {C : Ctx} {w : World} {o : Oper} {a : Act} {v : AV} {S' : St} {K : Act → World → Prop} {Q : Exit → Act → World → Prop}
    (h : Good E C w (execOp a.eval o) v S') (hk : ∀ u C' w', WR E C' S' w' → Ext C w C' w' → VR C' w' v u → K (a.put o.dst u) w') : o.wp E.P a w K Q := by
  unfold Oper.wp
  rcases h with ⟨u, C', w', h1, h2, h3, h4⟩ | ⟨C', w', h1, rfl, h2, h3⟩ | ⟨f, args, h1, h2⟩
  · rw [h1]; exact hk u C' w' h2 h3 h4
  · rw [h1]; exact hk Go.undef C' w' h2 h3 (.sc _)
  · rw [h1]
    exact h2.mono fun e w' ⟨u, C', he, k1, k2, k3⟩ => by subst he; exact hk u C' w' k1 k2 k3

/-- A load. -/
theorem load_cells {E : Env} (ok : E.Ok) {C : Ctx} {w : World} {t : TypeId} {cs : List AV} {off : Nat} {v : AV} (h : E.cutAt t cs off = some v) {b o : Nat} (hs : Seg C w b o cs) :
    ∃ x, (loadVar t ⟨b, o + off, none⟩).run E.P w = .ok x w ∧ VR C w v x := by
  unfold Env.cutAt at h
  cases hd : E.und t with
  | none => simp [hd] at h
  | some d => cases hi : E.inf t with
    | none => simp [hd, hi] at h
    | some i =>
      simp only [hd, hi, cut] at h
      cases hb : Nat.ble (off + i.size) cs.length with
      | false => rw [hb] at h; simp at h
      | true =>
        have hle : off + i.size ≤ cs.length := Nat.le_of_ble_eq_true hb
        rw [hb] at h
        simp only [cond_true] at h
        obtain ⟨vs, hl, hr⟩ := hs
        have hu := ok.und t d hd
        have hin := ok.inf t i hi
        cases ha : isAggD d with
        | true =>
          rw [ha] at h
          simp only [cond_true, Option.some.injEq] at h
          subst h
          have hlen : ((vs.drop off).take i.size).length = i.size := by rw [List.length_take, List.length_drop, ← hl.1]; omega
          refine ⟨.agg ((vs.drop off).take i.size).toArray, run_loadVar_mid w b (o + off) t _ d ?_ hu (by cases d <;> simp_all [isAggD]) (by rw [hin]; simp [hlen]), LR.agg (by simpa using (hl.drop off).take i.size)⟩
          intro j x hx
          rw [List.getElem?_take] at hx
          split at hx
          · rw [List.getElem?_drop] at hx
            have := hr _ _ hx
            rwa [← Nat.add_assoc] at this
          · cases hx
        | false =>
          rw [ha] at h
          simp only [cond_false] at h
          cases hz : Nat.beq i.size 1 with
          | false => rw [hz] at h; simp at h
          | true =>
            rw [hz] at h
            simp only [cond_true] at h
            obtain ⟨x, hx, hv⟩ := hl.get h
            refine ⟨x, ?_, hv⟩
            have hagg : (isAgg t).run E.P w = .ok false w := by
              unfold isAgg
              rw [Sem.run_bind, run_underlying hu w]
              cases d <;> simp_all [isAggD]
            have hcell := hr _ _ hx
            simp [loadVar, hagg, load, Sem.run, hcell]

/-- A part of a value. -/
theorem part_cells {E : Env} (ok : E.Ok) {C : Ctx} {w : World} {t : TypeId} {cs : List AV} {off : Nat} {v : AV} (h : E.cutAt t cs off = some v) {vs : Array Value} (hl : LR C w cs vs.toList) :
    ∃ x, (part t vs off).run E.P w = .ok x w ∧ VR C w v x := by
  unfold Env.cutAt at h
  cases hd : E.und t with
  | none => simp [hd] at h
  | some d => cases hi : E.inf t with
    | none => simp [hd, hi] at h
    | some i =>
      simp only [hd, hi, cut] at h
      cases hb : Nat.ble (off + i.size) cs.length with
      | false => rw [hb] at h; simp at h
      | true =>
        have hle : off + i.size ≤ cs.length := Nat.le_of_ble_eq_true hb
        rw [hb] at h
        simp only [cond_true] at h
        have hu := ok.und t d hd
        have hin := ok.inf t i hi
        cases ha : isAggD d with
        | true =>
          rw [ha] at h
          simp only [cond_true, Option.some.injEq] at h
          subst h
          have hagg : (isAgg t).run E.P w = .ok true w := by
            unfold isAgg
            rw [Sem.run_bind, run_underlying hu w]
            cases d <;> simp_all [isAggD]
          refine ⟨.agg (vs.extract off (off + i.size)), by simp [part, hagg, sizeOf, typeInfo, hin], LR.agg ?_⟩
          have := (hl.drop off).take i.size
          simpa [Array.toList_extract, List.extract_eq_take_drop, Nat.add_sub_cancel_left] using this
        | false =>
          rw [ha] at h
          simp only [cond_false] at h
          cases hz : Nat.beq i.size 1 with
          | false => rw [hz] at h; simp at h
          | true =>
            rw [hz] at h
            simp only [cond_true] at h
            obtain ⟨x, hx, hv⟩ := hl.get h
            refine ⟨x, ?_, hv⟩
            have hagg : (isAgg t).run E.P w = .ok false w := by
              unfold isAgg
              rw [Sem.run_bind, run_underlying hu w]
              cases d <;> simp_all [isAggD]
            have hx' : vs[off]? = some x := by simpa using hx
            simp [part, hagg, hx']

theorem cellsOf_rel {C : Ctx} {w : World} {a : AV} {v : Value} {cs : List AV} (h : VR C w a v) (hc : cellsOf a = some cs) : LR C w cs v.cells.toList := by
  cases h with
  | undef v => simp [cellsOf] at hc
  | sc v =>
    cases v <;> simp [cellsOf] at hc <;> subst hc <;> exact LR.cons (.sc _) (LR.nil _ _)
  | ptr l off hl => simp [cellsOf] at hc; subst hc; exact LR.cons (.ptr l off hl) (LR.nil _ _)
  | eptr cs off b o u hb hf ht hcc hr => simp [cellsOf] at hc; subst hc; exact LR.cons (.eptr cs off b o u hb hf ht hcc hr) (LR.nil _ _)
  | vec0 sz a cap => simp [cellsOf] at hc; subst hc; exact LR.cons (.vec0 sz a cap) (LR.nil _ _)
  | vec id sz xs fl b o cap u hs hlc hfl hb hf ht hcc hr hid hx1 hx2 => simp [cellsOf] at hc; subst hc; exact LR.cons (.vec id sz xs fl b o cap u hs hlc hfl hb hf ht hcc hr hid hx1 hx2) (LR.nil _ _)
  | udat id xs fl b o cap u hfl hb hf ht hcc hr hid => simp [cellsOf] at hc; subst hc; exact LR.cons (.udat id xs fl b o cap u hfl hb hf ht hcc hr hid) (LR.nil _ _)
  | osl l sz off len room a cap h hs hlr hrc hro hcl ha => simp [cellsOf] at hc; subst hc; exact LR.cons (.osl l sz off len room a cap h hs hlr hrc hro hcl ha) (LR.nil _ _)
  | mp l h => simp [cellsOf] at hc; subst hc; exact LR.cons (.mp l h) (LR.nil _ _)
  | agg cs' vs hl hr => simp [cellsOf] at hc; subst hc; exact ⟨by simpa [Value.cells] using hl, fun i x hx => by simpa [Value.cells] using hr i x hx⟩
  | tup cs' vs hl hr => simp [cellsOf] at hc
  | fn f c1 c2 v1 v2 h1 h2 h3 h4 => simp [cellsOf] at hc; subst hc; exact LR.cons (.fn f c1 c2 v1 v2 h1 h2 h3 h4) (LR.nil _ _)
  | ifc t a v h => simp [cellsOf] at hc; subst hc; exact LR.cons (.ifc t a v h) (LR.nil _ _)

theorem okCell_one {C : Ctx} {w : World} {a : AV} {v : Value} (h : VR C w a v) (hc : okCell a = true) : v.oneCell' = true := by
  cases h with
  | sc v => cases v <;> first | rfl | simp [okCell] at hc
  | undef v => simp [okCell] at hc
  | agg cs vs hl hr => simp [okCell] at hc
  | tup cs vs hl hr => simp [okCell] at hc
  | _ => rfl

theorem okCells_one {C : Ctx} {w : World} {cs : List AV} {vs : List Value} (h : LR C w cs vs) (hc : cs.all okCell = true) : ∀ u ∈ vs, u.oneCell' = true := by
  intro u hu
  obtain ⟨i, hi, rfl⟩ := List.mem_iff_getElem.1 hu
  have hi' : i < cs.length := by rw [h.1]; exact hi
  have h1 := h.2 i cs[i] (by simp [hi'])
  simp [hi] at h1
  exact okCell_one h1 (List.all_eq_true.1 hc _ (List.getElem_mem hi'))

end Go.Abs
end

section
set_option linter.unusedSimpArgs false
set_option linter.unusedVariables false
namespace Go.Abs
open Go.RowKit

def setAll : Array Value → Nat → List Value → Array Value
  | c, _, [] => c
  | c, o, v :: r => setAll (c.setIfInBounds o v) (o + 1) r

theorem setAll_size : ∀ (vs : List Value) (c : Array Value) (o : Nat), (setAll c o vs).size = c.size
  | [], _, _ => rfl
  | v :: r, c, o => by simp [setAll, setAll_size r]
theorem setAll_toList : ∀ (vs : List Value) (c : Array Value) (o : Nat), o + vs.length ≤ c.size → (setAll c o vs).toList = c.toList.take o ++ vs ++ c.toList.drop (o + vs.length)
  | [], c, o, _ => by simp [setAll]
  | v :: r, c, o, h => by
    have h' : o + (r.length + 1) ≤ c.size := by simpa using h
    rw [setAll, setAll_toList r _ _ (by simp; omega)]
    have := list_seg_step c.toList o v r (by simpa using h')
    simpa using this
theorem setAll_get_out : ∀ (vs : List Value) (c : Array Value) (o i : Nat), (i < o ∨ o + vs.length ≤ i) → (setAll c o vs)[i]? = c[i]?
  | [], _, _, _, _ => rfl
  | v :: r, c, o, i, h => by
    rw [setAll, setAll_get_out r _ _ i (by simp at h; omega), Array.getElem?_setIfInBounds]
    have : o ≠ i := by simp at h; omega
    simp [this]

theorem heap_setCell {w : World} {b : Nat} {c : Array Value} {T : TypeId} {fz : Nat × Nat} (h : w.heap[b]? = some (.cells c T fz)) (o : Nat) (v : Value) :
    (w.setCell ⟨b, o, none⟩ v).heap[b]? = some (.cells (c.setIfInBounds o v) T fz) := by
  simp [World.setCell, Array.getElem?_modify, h]
theorem heap_setCells {b : Nat} {T : TypeId} {fz : Nat × Nat} : ∀ (vs : List Value) (w : World) (c : Array Value) (o : Nat), w.heap[b]? = some (.cells c T fz) →
    (w.setCells b o vs).heap[b]? = some (.cells (setAll c o vs) T fz)
  | [], _, _, _, h => h
  | v :: r, w, c, o, h => by
    rw [World.setCells, setAll]
    exact heap_setCells r _ _ _ (heap_setCell h o v)
theorem heap_setCells_ne {b : Nat} : ∀ (vs : List Value) (w : World) (o : Nat) (k : Nat), k ≠ b → (w.setCells b o vs).heap[k]? = w.heap[k]?
  | [], _, _, _, _ => rfl
  | v :: r, w, o, k, h => by
    rw [World.setCells, heap_setCells_ne r _ _ k h]
    exact Below.heap_setCell w ⟨b, o, none⟩ v k h
theorem size_setCells {b : Nat} : ∀ (vs : List Value) (w : World) (o : Nat), (w.setCells b o vs).heap.size = w.heap.size
  | [], _, _ => rfl
  | v :: r, w, o => by rw [World.setCells, size_setCells r]; simp
theorem below_setCells {b B : Nat} (hB : B ≤ b) : ∀ (vs : List Value) (w : World) (o : Nat), Bel B w (w.setCells b o vs)
  | [], w, _ => Bel.refl _ _
  | v :: r, w, o => by
    rw [World.setCells]
    exact ((Bel.refl B w).setCell (p := ⟨b, o, none⟩) hB v).trans (below_setCells hB r _ _)

theorem splice_rel {C : Ctx} {w : World} {cs vs : List AV} {c : Array Value} {us : List Value} (h : LR C w cs c.toList) (hv : LR C w vs us) {o : Nat} (hb : o + vs.length ≤ cs.length) :
    LR C w (splice cs o vs) (setAll c o us).toList := by
  have h1 : c.size = cs.length := by simpa using h.1.symm
  rw [setAll_toList _ _ _ (by rw [← hv.1]; omega)]
  have := ((h.take o).append hv).append (h.drop (o + us.length))
  simpa [splice, hv.1] using this
theorem splice_length {cs vs : List AV} {o : Nat} (hb : o + vs.length ≤ cs.length) : (splice cs o vs).length = cs.length := by
  simp [splice]; omega
theorem seg_splice {α : Type} (L us : List α) (b off n : Nat) (h : off + us.length ≤ n) (h2 : b + n ≤ L.length) :
    ((L.take (b + off) ++ us ++ L.drop (b + off + us.length)).drop b).take n = ((L.drop b).take n).take off ++ us ++ ((L.drop b).take n).drop (off + us.length) := by
  apply List.ext_getElem?
  intro i
  simp only [List.getElem?_take, List.getElem?_drop, List.getElem?_append, List.length_append, List.length_take, List.length_drop]
  by_cases hi : i < n
  · by_cases h3 : i < off
    · have e1 : b + i < min (b + off) L.length + us.length := by omega
      have e2 : b + i < min (b + off) L.length := by omega
      have e3 : i < min off (min n (L.length - b)) + us.length := by omega
      have e4 : i < min off (min n (L.length - b)) := by omega
      have e5 : b + i < b + off := by omega
      simp [hi, e1, e2, e3, e4, e5, h3]
    · by_cases h4 : i < off + us.length
      · have e1 : b + i < min (b + off) L.length + us.length := by omega
        have e2 : ¬ b + i < min (b + off) L.length := by omega
        have e3 : i < min off (min n (L.length - b)) + us.length := by omega
        have e4 : ¬ i < min off (min n (L.length - b)) := by omega
        simp only [hi, e1, e2, e3, e4, if_true, if_false]
        congr 1; omega
      · have e1 : ¬ b + i < min (b + off) L.length + us.length := by omega
        have e3 : ¬ i < min off (min n (L.length - b)) + us.length := by omega
        have e5 : off + us.length + (i - (min off (min n (L.length - b)) + us.length)) < n := by omega
        simp only [hi, e1, e3, e5, if_true, if_false]
        congr 1; omega
  · have e3 : ¬ i < min off (min n (L.length - b)) + us.length := by omega
    have e5 : ¬ off + us.length + (i - (min off (min n (L.length - b)) + us.length)) < n := by omega
    simp [hi, e3, e5]

theorem obj_inv {S : St} {l : Nat} {cs : List AV} (h : S.obj l = some cs) : S.objs.get l = some (.cells cs) := by
  unfold St.obj at h
  split at h
  · rename_i x hx; simp at h; subst h; exact hx
  · simp at h
theorem acc_cells {S : St} {l : Nat} {cs : List AV} (h : S.objs.get l = some (.cells cs)) : ¬ inacc (S.objs.get l) := by
  rw [h]; rintro (h | h) <;> cases h

/-- Cells of an object are written. -/
theorem write_cells {E : Env} {C : Ctx} {S : St} {w : World} (hw : WR E C S w) {l off : Nat} {cs vs : List AV} {us : List Value}
    (hl : C.born l) (ho : S.obj l = some cs) (hv : LR C w vs us) (hb : off + vs.length ≤ cs.length) :
    (∀ j, j < us.length → (w.cell? ⟨C.mu l, C.bs l + off + j, none⟩).isSome = true) ∧ (∀ j, j < us.length → w.frozen? ⟨C.mu l, C.bs l + off + j, none⟩ = false) ∧
    WR E C (S.put l (.cells (splice cs off vs))) (w.setCells (C.mu l) (C.bs l + off) us) ∧ Ext C w C (w.setCells (C.mu l) (C.bs l + off) us) := by
  have hobj := hw.objs l hl
  have hg := obj_inv ho
  rw [hg] at hobj
  obtain ⟨c, T, fz, hh, hlr, h3, h4, h5, hfz⟩ := hobj
  have hcl : us.length = vs.length := hv.1.symm
  have hb' : C.base ≤ C.mu l := (hw.mub l hl).1
  refine ⟨fun j hj => ?_, fun j hj => ?_, ?_⟩
  · rw [cell_block hh]
    have : C.bs l + off + j < c.size := by omega
    simp [this]
  · have hj' : C.bs l + off + j < c.size := by omega
    have hnf := hfz.at _ hj'
    simp [World.frozen?, hh]
    intro h1
    by_cases h2 : C.bs l + off + j < fz.2
    · exact absurd ⟨h1, h2⟩ hnf
    · omega
  · have hat := heap_setCells us w c (C.bs l + off) hh
    refine hw.put hl (acc_cells hg) hat (fun b hb => heap_setCells_ne _ w _ b hb) (size_setCells _ _ _) (below_setCells hb' _ _ _) (fun x hx => ?_) ⟨_, T, fz, rfl, ?_, by rw [splice_length hb]; exact h3, h4, by rw [setAll_size]; exact h5, by unfold unfrozen at *; rw [setAll_size]; exact hfz⟩
    · rw [shape_block hh] at hx
      rw [shape_block hat, setAll_size]; exact hx
    · rw [splice_length hb, setAll_toList _ _ _ (by omega), seg_splice _ _ _ _ _ (by omega) (by simp; omega)]
      have := ((hlr.take off).append hv).append (hlr.drop (off + us.length))
      simpa [splice, hcl] using this

/-- A store into an object. -/
theorem store_cells {E : Env} (ok : E.Ok) {C : Ctx} {S : St} {w : World} (hw : WR E C S w) {t : TypeId} {i : TypeInfo} (hi : E.inf t = some i) {l off : Nat} {cs vs : List AV} {v : Value} {a : AV}
    (hl : C.born l) (ho : S.obj l = some cs) (hv : VR C w a v) (hc : cellsOf a = some vs) (hn : vs.length = i.size) (hb : off + vs.length ≤ cs.length) (hok : vs.all okCell = true) :
    ∃ w', (Instr.storeAt t (.pointer (some ⟨C.mu l, C.bs l + off, none⟩)) v).run E.P w = .ok () w' ∧ WR E C (S.put l (.cells (splice cs off vs))) w' ∧ Ext C w C w' := by
  have hcl := cellsOf_rel hv hc
  have hvl : v.cells.toList.length = vs.length := hcl.1.symm
  have hvs : v.cells.size = i.size := by have := hvl; simp at this; omega
  obtain ⟨k1, k2, k3⟩ := write_cells hw hl ho hcl hb
  refine ⟨_, ?_, k3⟩
  have := run_storeCells_cells (P := E.P) (C.mu l) (C.bs l + off) v.cells.toList 0 w (by simpa using k1) (by simpa using k2) (okCells_one hcl hok)
  simp only [Nat.add_zero] at this
  simp [Instr.storeAt, Instr.sureAddr, storeVar, sizeOf, typeInfo, ok.inf t i hi, hvs, this]

theorem foldl_zip (off : Nat) : ∀ (l : List Value) (k : Nat) (c : Array Value), (l.zipIdx k).foldl (fun cs (p : Value × Nat) => cs.setIfInBounds (off + p.2) p.1) c = setAll c (off + k) l
  | [], _, _ => rfl
  | v :: r, k, c => by
    simp only [List.zipIdx_cons, List.foldl_cons, setAll]
    rw [foldl_zip off r (k + 1)]
    rw [Nat.add_assoc]

/-- The parts that stand to each other. -/
inductive PR (C : Ctx) (w : World) : List (Nat × AV) → List (Nat × Value) → Prop
  | nil : PR C w [] []
  | cons (i : Nat) (a : AV) (v : Value) (l : List (Nat × AV)) (m : List (Nat × Value)) (h : VR C w a v) (hl : PR C w l m) : PR C w ((i, a) :: l) ((i, v) :: m)

theorem fill_rel {C : Ctx} {w : World} {place : Nat → Option (Nat × Nat)} {l : List (Nat × AV)} {m : List (Nat × Value)} (hp : PR C w l m) :
    ∀ {cs out : List AV} {c : Array Value}, LR C w cs c.toList → fillA place cs l = some out → ∃ r, Instr.fill place c m = some r ∧ LR C w out r.toList := by
  induction hp with
  | nil => intro cs out c h hf; simp [fillA] at hf; subst hf; exact ⟨c, rfl, h⟩
  | cons i a v l m hv _ ih =>
    intro cs out c h hf
    simp only [fillA] at hf
    split at hf
    · rename_i off size vs hpl hc
      cases hb : (Nat.beq vs.length size && Nat.ble (off + vs.length) cs.length) with
      | false => rw [hb] at hf; simp at hf
      | true =>
        rw [hb] at hf
        simp only [cond_true] at hf
        simp only [Bool.and_eq_true] at hb
        have h1 := Nat.eq_of_beq_eq_true hb.1
        have h2 := Nat.le_of_ble_eq_true hb.2
        have hcl := cellsOf_rel hv hc
        have hvl : v.cells.size = vs.length := by simpa using hcl.1.symm
        have hsz : c.size = cs.length := by simpa using h.1.symm
        obtain ⟨r, k1, k2⟩ := ih (splice_rel h hcl h2) hf
        refine ⟨r, ?_, k2⟩
        rw [Instr.fill]
        simp only [hpl]
        rw [if_neg (by simp; omega)]
        rw [← k1]
        congr 1
        rw [← Array.foldl_toList]
        have := foldl_zip off v.cells.toList 0 c
        simp only [Nat.add_zero] at this
        simpa using this
    · simp at hf

theorem parts_rel {E : Env} {C : Ctx} {S : St} {w : World} {tm : PM AV} {a : Act} (hw : WR E C S w) (ht : TR C w tm a.tmps) : ∀ (l : List (Nat × Operand)),
    PR C w (l.map fun p => (p.1, E.ev tm p.2)) (l.map fun p => (p.1, a.eval p.2))
  | [] => .nil
  | p :: l => .cons _ _ _ _ _ (ev_rel hw ht p.2) (parts_rel hw ht l)

end Go.Abs
end

section
set_option linter.unusedSimpArgs false
set_option linter.unusedVariables false
namespace Go.Abs
open Go.RowKit

theorem run_und {E : Env} (ok : E.Ok) {t : TypeId} {d : TypeDesc} (h : E.und t = some d) (w : World) : (underlying t).run E.P w = .ok d w := run_underlying (ok.und t d h) w
theorem run_size {E : Env} (ok : E.Ok) {t : TypeId} {i : TypeInfo} (h : E.inf t = some i) (w : World) : (sizeOf t).run E.P w = .ok i.size w := by
  simp [sizeOf, typeInfo, ok.inf t i h]
theorem run_zero {E : Env} (ok : E.Ok) {t : TypeId} {i : TypeInfo} {z : Value} (h : E.inf t = some i) (hz : i.zero = some z) (w : World) : (zeroValue t).run E.P w = .ok z w := by
  simp [zeroValue, typeInfo, ok.inf t i h, hz]

section
variable {E : Env} {C : Ctx} {S S' : St} {w : World} {tm : PM AV} {a : Act} {v : AV}

/-- What an operation that makes an object comes to, whatever its number. -/
def GoodMk (E : Env) (C : Ctx) (S : St) (w : World) (r : Sem Next) (m : Mk) : Prop :=
  ∀ n no', ¬ C.born n → S.no ≤ no' → n < no' → ∃ u C' w', r.run E.P w = .ok (.value u) w' ∧ WR E C' { S.bear n m with no := no' } w' ∧ ExtW C w C' w' ∧ VR C' w' (m.val n) u ∧ C'.no = no' ∧ (∀ l, C'.born l → C.born l ∨ l = n)

theorem GoodMk.row (hw : WR E C S w) {m : Mk} {cs : List AV} (hm : m.obj = .cells cs) {c : Array Value} {T : TypeId} {lim : Nat}
    (hl : LR C w cs (c.toList.take cs.length)) (hlim : cs.length ≤ lim) (hsz : lim ≤ c.size) (hsh : ∀ x, m.sh = some x → x = (T, c.size)) {r : Sem Next} {u : Value}
    (hr : r.run E.P w = .ok (.value u) (w.alloc (.cells c T))) (hv : ∀ n no', VR (C.bear n w.heap.size 0 cs.length lim no') (w.alloc (.cells c T)) (m.val n) u) : GoodMk E C S w r m :=
  fun n no' hn h1 h2 => ⟨u, _, _, hr, hw.bearRow hn h1 h2 m hm hl hlim hsz hsh, ExtW.bear hw hn _ _ _ _, hv n no', rfl, fun _ h => h⟩

theorem vr_newPtr {C : Ctx} {n b len lim no' : Nat} {w : World} : VR (C.bear n b 0 len lim no') w (.ptr n 0) (.pointer (some ⟨b, 0, none⟩)) := by
  have := VR.ptr (C := C.bear n b 0 len lim no') (w := w) n 0 (.inr rfl)
  rwa [Ctx.bear_at.1, Ctx.bear_at.2.1, Nat.add_zero] at this
theorem vr_newOsl {C : Ctx} {n b sz len cap lim no' : Nat} {w : World} (hs : 0 < sz) (hlc : len ≤ cap) (hcl : cap * sz ≤ lim) : VR (C.bear n b 0 (len * sz) lim no') w (.osl n sz 0 len len) (.slice (some ⟨b, 0, none⟩) len cap) := by
  refine .osl n sz 0 len len _ cap (.inr rfl) hs (Nat.le_refl _) hlc ?_ ?_ (fun _ => ?_)
  · rw [Ctx.bear_at.2.2.1]; omega
  · rw [Ctx.bear_at.2.2.2]; omega
  · rw [Ctx.bear_at.1, Ctx.bear_at.2.1]

theorem good_alloc (ok : E.Ok) (hw : WR E C S w) {e : TypeId} {i : TypeInfo} {z : Value} (hi : E.inf e = some i) (hz : i.zero = some z) :
    GoodMk E C S w (do pure (.value (← Instr.alloc e true (.tuple #[])))) ⟨.cells (z.cells.toList.map .sc), some (e, z.cells.size), fun n => .ptr n 0⟩ := by
  refine GoodMk.row hw rfl (c := z.cells) (T := e) (lim := z.cells.size) ?_ (by simp) (Nat.le_refl _) (fun x hx => by simpa using hx.symm) (run_v (u := .pointer (some ⟨w.heap.size, 0, none⟩)) ?_) (fun n no' => vr_newPtr)
  · rw [List.take_of_length_le (by simp)]; exact LR.scs _
  · simp [Instr.alloc, run_zero ok hi hz, newVar, newRow]

theorem good_box (hw : WR E C S w) {e : TypeId} {x : AV} {u : Value} {cs : List AV} (hx : VR C w x u) (hc : cellsOf x = some cs) :
    GoodMk E C S w (do pure (.value (← Instr.box e u))) ⟨.cells cs, some (e, cs.length), fun n => .ptr n 0⟩ := by
  have hcl := cellsOf_rel hx hc
  have hlen : cs.length = u.cells.size := by simpa using hcl.1
  refine GoodMk.row hw rfl (c := u.cells) (T := e) (lim := u.cells.size) ?_ (by omega) (Nat.le_refl _) (fun x hx => by simp only [Option.some.injEq] at hx; rw [← hx, hlen]) (run_v (u := .pointer (some ⟨w.heap.size, 0, none⟩)) ?_) (fun n no' => vr_newPtr)
  · rw [List.take_of_length_le (by simp; omega)]; exact hcl
  · simp [Instr.box, newVar, newRow]

theorem good_makeMap (hw : WR E C S w) {r : Sem Next} (hr : r.run E.P w = .ok (.value (.map (some w.heap.size))) (w.alloc (.map #[] 0))) :
    GoodMk E C S w r ⟨.mp [], none, .mp⟩ := by
  intro n no' hn h1 h2
  refine ⟨_, _, _, hr, hw.bear hn h1 h2 _ (len := 0) (lim := 0) ⟨#[], 0, rfl, ⟨rfl, by simp, by simp, fun e h => by simp at h, fun k x h => by simp at h⟩⟩ (fun x hx => by simp at hx), ExtW.bear hw hn _ _ _ _, ?_, rfl, fun _ h => h⟩
  have := VR.mp (C := C.bear n w.heap.size 0 0 0 no') (w := w.alloc (.map #[] 0)) n (.inr rfl)
  rwa [Ctx.bear_at.1] at this
theorem good_range (ok : E.Ok) (hw : WR E C S w) {t : TypeId} {s : ByteArray} (hd : E.und t = some .string) :
    GoodMk E C S w (do pure (.value (← Instr.range t (.string s)))) ⟨.siter s 0, none, fun n => .ptr n 0⟩ := by
  intro n no' hn h1 h2
  refine ⟨.pointer (some ⟨w.heap.size, 0, none⟩), _, _, run_v (w' := w.alloc (.stringIter s 0)) ?_, hw.bear hn h1 h2 _ (len := 0) (lim := 0) ⟨rfl, ?_⟩ (fun x hx => by simp at hx), ExtW.bear hw hn _ _ _ _, vr_newPtr, rfl, fun _ h => h⟩
  · simp [Instr.range, run_und ok hd, newObj, Sem.run]
  · exact Ctx.bear_at.2.1

theorem obj_seg (hw : WR E C S w) {l : Nat} {cs : List AV} (hl : C.born l) (h : S.obj l = some cs) : Seg C w (C.mu l) (C.bs l) cs := by
  have hobj := hw.objs l hl
  rw [obj_inv h] at hobj
  obtain ⟨c, T, fz, hh, hlr, _, _, _, hfz⟩ := hobj
  refine ⟨_, hlr, fun j x hx => ?_⟩
  rw [cell_block hh]
  rw [List.getElem?_take] at hx
  split at hx
  · rw [List.getElem?_drop] at hx
    simpa using hx
  · cases hx

theorem good_load (ok : E.Ok) (hw : WR E C S w) {t : TypeId} {x : AV} {u : Value} (hx : VR C w x u)
    (h : loadA E t x S = some (v, S')) : Good E C w (do pure (.value (← Instr.loadAt t u))) v S' := by
  unfold loadA at h
  cases x with
  | ptr l off =>
    cases hx with
    | ptr _ _ hl =>
      cases ho : S.obj l with
      | none => simp [ho] at h
      | some cs =>
        simp only [ho, Option.map_eq_some_iff, Prod.mk.injEq] at h
        obtain ⟨v', h1, rfl, rfl⟩ := h
        obtain ⟨y, k1, k2⟩ := load_cells ok h1 (obj_seg hw hl ho)
        exact Good.val hw (run_v (by simpa [Instr.loadAt, Instr.sureAddr] using k1)) k2
  | eptr cs off =>
    obtain ⟨b, o, rfl, hb, hf, ht, hs⟩ := hx.eptr_inv
    simp only [Option.map_eq_some_iff, Prod.mk.injEq] at h
    obtain ⟨v', h1, rfl, rfl⟩ := h
    obtain ⟨y, k1, k2⟩ := load_cells ok h1 hs
    exact Good.val hw (run_v (by simpa [Instr.loadAt, Instr.sureAddr] using k1)) k2
  | _ => simp at h

theorem good_store (ok : E.Ok) (hw : WR E C S w) {t : TypeId} {x y : AV} {ux uy : Value} (hx : VR C w x ux) (hy : VR C w y uy)
    (h : storeA E t x y S = some (v, S')) : Good E C w (do Instr.storeAt t ux uy; pure .skip) v S' := by
  unfold storeA at h
  cases x with
  | ptr l off =>
    cases hx with
    | ptr _ _ hl =>
      cases hc : cellsOf y with
      | none => simp [hc] at h
      | some vs => cases hi : E.inf t with
        | none => simp [hc, hi] at h
        | some i => cases ho : S.obj l with
          | none => simp [hc, hi, ho] at h
          | some cs =>
            simp only [hc, hi, ho] at h
            cases hb : (Nat.beq vs.length i.size && Nat.ble (off + vs.length) cs.length && vs.all okCell) with
            | false => rw [hb] at h; simp at h
            | true =>
              rw [hb] at h
              simp only [cond_true, Option.some.injEq, Prod.mk.injEq] at h
              obtain ⟨rfl, rfl⟩ := h
              simp only [Bool.and_eq_true] at hb
              obtain ⟨⟨h1, h2⟩, h3⟩ := hb
              obtain ⟨w', k1, k2, k3⟩ := store_cells ok hw hi hl ho hy hc (Nat.eq_of_beq_eq_true h1) (Nat.le_of_ble_eq_true h2) h3
              exact .inr (.inl ⟨C, w', by rw [Sem.run_bind, k1]; rfl, rfl, k2, k3⟩)
  | _ => simp at h

theorem places_run (ok : E.Ok) : ∀ (fs : List Field) (pl : List (Nat × Nat)), placesA E fs = some pl →
    (fs.mapM (fun f => do pure (f.offset, ← sizeOf f.type) : Field → Sem (Nat × Nat))).run E.P w = .ok pl w
  | [], pl, h => by simp [placesA] at h; subst h; rfl
  | f :: r, pl, h => by
    simp only [placesA] at h
    split at h
    · rename_i i l hi hl
      simp at h; subst h
      rw [List.mapM_cons]
      simp only [Sem.run_bind, run_size ok hi, Result.andThen_ok, Sem.run_pure, places_run ok r l hl]
    · simp at h

theorem good_build (ok : E.Ok) (hw : WR E C S w) {t : TypeId} {ps : List (Nat × AV)} {us : Array (Nat × Value)} (hp : PR C w ps us.toList)
    (h : buildA E t ps S = some (v, S')) : Good E C w (do pure (.value (← Instr.build t us))) v S' := by
  unfold buildA at h
  split at h
  · rename_i fs i hd hi
    split at h
    · rename_i z pl hz hpl
      simp only [Option.map_eq_some_iff, Prod.mk.injEq] at h
      obtain ⟨cs, h1, rfl, rfl⟩ := h
      obtain ⟨r, k1, k2⟩ := fill_rel hp (LR.scs z.cells.toList) h1
      refine Good.val hw (u := .agg r) (run_v ?_) (LR.agg k2)
      have hm := places_run ok (w := w) fs.toList pl hpl
      have hm2 : (fs.mapM (fun f => do pure (f.offset, ← sizeOf f.type) : Field → Sem (Nat × Nat))).run E.P w = .ok pl.toArray w := by
        rw [Array.mapM_eq_mapM_toList, Sem.run_map, hm]; rfl
      simp only [Instr.build, Sem.run_bind, run_zero ok hi hz, Result.andThen_ok, run_und ok hd, hm2]
      simp [k1]
    · simp at h
  · rename_i n e i hd hi
    split at h
    · rename_i z ie hz hie
      simp only [Option.map_eq_some_iff, Prod.mk.injEq] at h
      obtain ⟨cs, h1, rfl, rfl⟩ := h
      obtain ⟨r, k1, k2⟩ := fill_rel hp (LR.scs z.cells.toList) h1
      refine Good.val hw (u := .agg r) (run_v ?_) (LR.agg k2)
      simp [Instr.build, run_zero ok hi hz, run_und ok hd, run_size ok hie, k1]
    · simp at h
  · simp at h

theorem fillA_length {place : Nat → Option (Nat × Nat)} : ∀ {l : List (Nat × AV)} {cs out : List AV}, fillA place cs l = some out → out.length = cs.length
  | [], cs, out, h => by simp [fillA] at h; subst h; rfl
  | (i, x) :: l, cs, out, h => by
    simp only [fillA] at h
    split at h
    · rename_i off size vs hp hc
      cases hb : (Nat.beq vs.length size && Nat.ble (off + vs.length) cs.length) with
      | false => rw [hb] at h; simp at h
      | true =>
        rw [hb] at h
        simp only [cond_true] at h
        simp only [Bool.and_eq_true] at hb
        rw [fillA_length h, splice_length (Nat.le_of_ble_eq_true hb.2)]
    · simp at h

theorem okCell_cellsOf {x : AV} (h : okCell x = true) : cellsOf x = some [x] := by
  cases x with
  | sc v => cases v <;> simp_all [okCell, cellsOf]
  | _ => simp_all [okCell, cellsOf]

theorem flat_groups (agg : Bool) (sz : Nat) (h1 : agg = true ∨ sz = 1) : ∀ (n : Nat) (cs : List AV), cs.length = n * sz → cs.all okCell = true → flat? sz (groups agg sz n cs) = some cs ∧ (groups agg sz n cs).length = n
  | 0, cs, hl, _ => by
    have : cs = [] := List.eq_nil_of_length_eq_zero (by simpa using hl)
    subst this; simp [groups, flat?]
  | n + 1, cs, hl, hok => by
    have hl' : cs.length = n * sz + sz := by rw [hl, Nat.succ_mul]
    have hd : (cs.drop sz).length = n * sz := by rw [List.length_drop]; omega
    have hall : (cs.drop sz).all okCell = true := List.all_eq_true.2 fun x hx => List.all_eq_true.1 hok x (List.mem_of_mem_drop hx)
    have htk : (cs.take sz).all okCell = true := List.all_eq_true.2 fun x hx => List.all_eq_true.1 hok x (List.mem_of_mem_take hx)
    obtain ⟨ih1, ih2⟩ := flat_groups agg sz h1 n (cs.drop sz) hd hall
    refine ⟨?_, by simp [groups, ih2]⟩
    simp only [groups, flat?, ih1]
    cases agg with
    | true =>
      simp only [cond_true, cellsOf]
      rw [if_pos ⟨by rw [List.length_take]; omega, htk⟩, List.take_append_drop]
    | false =>
      have hs : sz = 1 := by simpa using h1
      subst hs
      match cs, hl' with
      | c :: r, _ =>
        have hc : okCell c = true := List.all_eq_true.1 hok c (by simp)
        simp only [cond_false, List.headD_cons, okCell_cellsOf hc, List.drop_succ_cons, List.drop_zero]
        rw [if_pos ⟨rfl, by simp [hc]⟩]
        rfl

theorem good_newRow (hw : WR E C S w) {sz : Nat} {xs fl : List AV} {c : Array Value} {T : TypeId} {cap : Nat} (hs : 0 < sz) (hfl : flat? sz xs = some fl) (hxl : fl.length = xs.length * sz)
    (hseg : ∃ vs : List Value, LR C w fl vs ∧ ∀ (j : Nat) (u : Value), vs[j]? = some u → c[j]? = some u) (hcap : xs.length ≤ cap) (hsz : cap * sz ≤ c.size) {w1 : World} (hw1 : w1 = w ∨ w1 = w.drew) {r : Sem Next}
    (hr : r.run E.P w = .ok (.value (.slice (some ⟨w.heap.size, 0, none⟩) xs.length cap)) (w1.alloc (.cells c T))) : Good E C w r (.vec S.nid sz xs) (S.newId T) := by
  have base : ∀ w1 : World, WR E C S w1 → w1.heap.size = w.heap.size → (∃ vs : List Value, LR C w1 fl vs ∧ ∀ (j : Nat) (u : Value), vs[j]? = some u → c[j]? = some u) →
      WR E (C.newId ⟨w1.heap.size, 0, xs.length, cap, sz⟩ (xs.length * sz)) (S.newId T) (w1.alloc (.cells c T)) ∧ Ext C w1 (C.newId ⟨w1.heap.size, 0, xs.length, cap, sz⟩ (xs.length * sz)) (w1.alloc (.cells c T)) ∧
      VR (C.newId ⟨w1.heap.size, 0, xs.length, cap, sz⟩ (xs.length * sz)) (w1.alloc (.cells c T)) (.vec S.nid sz xs) (.slice (some ⟨w1.heap.size, 0, none⟩) xs.length cap) := by
    intro w1 hw h1 ⟨vs, hl, hc⟩
    have e := Ext.newRow hw (.cells c T) xs.length cap sz (xs.length * sz)
    have h3 := hw.nid1
    refine ⟨hw.newRow T (0, 0) xs.length cap sz hs hcap hsz (.inl rfl) (.inl rfl), e, VecAt.mk' (fl := fl) ⟨hs, hcap, hfl, by simp, fun l hl => ?_, ?_, ⟨vs, hl.ext e, fun j u hu => ?_⟩, fun _ => ⟨?_, ?_⟩, fun h => by omega, fun h => by omega⟩⟩
    · have := (hw.mub l hl).2
      show C.mu l ≠ _; omega
    · simp [Ctx.newId, hxl]
    · rw [Nat.zero_add, cell_block (heap_alloc_at w1 _)]; exact hc j u hu
    · simp [Ctx.newId, hw.nid]
    · simp [Ctx.newId, hw.nid]
  obtain ⟨vs, hl, hc⟩ := hseg
  rcases hw1 with rfl | rfl
  · obtain ⟨k1, k2, k3⟩ := base w1 hw rfl ⟨vs, hl, hc⟩
    exact .inl ⟨_, _, _, hr, k1, k2, k3⟩
  · obtain ⟨k1, k2, k3⟩ := base w.drew hw.drew rfl ⟨vs, hl.ext (Ext.drew C w), hc⟩
    exact .inl ⟨_, _, _, hr, k1, (Ext.drew C w).trans k2, k3⟩

/-- A row whose capacity is its length. -/
theorem good_exactRow (hw : WR E C S w) {sz : Nat} {xs fl : List AV} {c : Array Value} {T : TypeId} {fz : Nat × Nat} (hs : 0 < sz) (hfl : flat? sz xs = some fl) (hxl : fl.length = xs.length * sz)
    (hseg : ∃ vs : List Value, LR C w fl vs ∧ ∀ (j : Nat) (u : Value), vs[j]? = some u → c[j]? = some u) {r : Sem Next}
    (hr : r.run E.P w = .ok (.value (.slice (some ⟨w.heap.size, 0, none⟩) xs.length xs.length)) (w.alloc (.cells c T fz))) : Good E C w r (.vec 1 sz xs) S := by
  have e := Ext.row hw (.cells c T fz) (xs.length * sz)
  obtain ⟨vs, hl, hc⟩ := hseg
  refine .inl ⟨_, _, _, hr, hw.row _ (xs.length * sz), e, VecAt.mk' (fl := fl) ⟨hs, Nat.le_refl _, hfl, by simp, fun l hl => ?_, ?_, ⟨vs, hl.ext e, fun j u hu => ?_⟩, fun h => by omega, fun _ => rfl, fun _ => ⟨hw.bs, fun i h0 hi => ?_⟩⟩⟩
  · have := (hw.mub l hl).2
    show C.mu l ≠ _; omega
  · simp [Ctx.row, hxl]
  · rw [Nat.zero_add, cell_block (heap_alloc_at w _)]; exact hc j u hu
  · have := (hw.ids i h0 hi).lt
    show (C.io i).b ≠ _; omega

theorem build_cells (ok : E.Ok) {t : TypeId} {len : Nat} {ps : List (Nat × AV)} {us : Array (Nat × Value)} (hp : PR C w ps us.toList) {agg : Bool} {sz : Nat} {cs : List AV}
    (h : buildCells E t len ps = some (agg, sz, cs)) : ∃ (r : Array Value) (e : TypeId), LR C w cs r.toList ∧ cs.length = len * sz ∧ 0 < sz ∧ cs.all okCell = true ∧ (agg = true ∨ sz = 1) ∧
      (Instr.buildSlice t len us).run E.P w = .ok (.slice (some ⟨w.heap.size, 0, none⟩) len len) (w.alloc (.cells r e)) := by
  unfold buildCells at h
  split at h
  · rename_i e hd
    split at h
    · rename_i d i hde hi
      split at h
      · rename_i z hz
        cases hb : (Nat.blt 0 i.size && Nat.beq z.cells.size i.size && Nat.ble (len * i.size) (2 ^ 24) && (isAggD d || Nat.beq i.size 1)) with
        | false => rw [hb] at h; simp at h
        | true =>
          rw [hb] at h
          simp only [cond_true] at h
          simp only [Bool.and_eq_true, Bool.or_eq_true] at hb
          obtain ⟨⟨⟨h1, h2⟩, h3⟩, h4⟩ := hb
          have h1 : 0 < i.size := Nat.le_of_ble_eq_true h1
          have h2 := Nat.eq_of_beq_eq_true h2
          have h3 := Nat.le_of_ble_eq_true h3
          split at h
          · rename_i cs' hf
            cases hok : cs'.all okCell with
            | false => rw [hok] at h; simp at h
            | true =>
              rw [hok] at h
              simp only [cond_true, Option.some.injEq, Prod.mk.injEq] at h
              obtain ⟨rfl, rfl, rfl⟩ := h
              have hinit : LR C w ((List.range (len * i.size)).map fun j => .sc (z.cells.getD (j % i.size) default)) (((Array.range (len * i.size)).map fun j => z.cells.getD (j % i.size) default).toList) := by
                have := LR.scs (C := C) (w := w) ((List.range (len * i.size)).map fun j => z.cells.getD (j % i.size) default)
                simpa [Function.comp_def] using this
              obtain ⟨r, k1, k2⟩ := fill_rel hp hinit hf
              have hcl : cs'.length = len * i.size := by rw [fillA_length hf]; simp
              refine ⟨r, e, k2, hcl, h1, hok, h4.imp id Nat.eq_of_beq_eq_true, ?_⟩
              have hnb : ¬ (2 ^ 24 < len * i.size) := by omega
              by_cases h0 : len * i.size = 0
              · have k1' : Instr.fill (fun j => some (j * i.size, i.size)) #[] us.toList = some r := by
                  rw [← k1]; congr 1; simp [h0]
                have hr0 : Array.range 0 = #[] := rfl
                simp [Instr.buildSlice, run_und ok hd, run_size ok hi, h0, newRow, hr0, k1']
              · have k1' : Instr.fill (fun j => some (j * i.size, i.size)) (Array.map (fun x => z.cells[x % z.cells.size]!) (Array.range (len * i.size))) us.toList = some r := by
                  rw [← k1]; congr 1
                  apply Array.map_congr_left
                  intro j _
                  rw [h2, Array.getElem!_eq_getD]
                simp [Instr.buildSlice, run_und ok hd, run_size ok hi, hnb, h0, run_zero ok hi hz, newRow, k1']
          · simp at h
      · simp at h
    · simp at h
  · simp at h

theorem good_buildSlice (ok : E.Ok) (hw : WR E C S w) {t : TypeId} {len : Nat} {ps : List (Nat × AV)} {us : Array (Nat × Value)} (hp : PR C w ps us.toList)
    (h : buildSliceA E t len ps S = some (v, S')) : Good E C w (do pure (.value (← Instr.buildSlice t len us))) v S' := by
  unfold buildSliceA at h
  split at h
  · rename_i agg sz cs hc
    simp only [Option.some.injEq, Prod.mk.injEq] at h
    obtain ⟨rfl, rfl⟩ := h
    obtain ⟨r, e, k1, k2, k3, k4, k5, k6⟩ := build_cells ok hp hc
    obtain ⟨g1, g2⟩ := flat_groups agg sz k5 len cs k2 k4
    refine good_exactRow hw k3 g1 (by rw [g2]; exact k2) ⟨r.toList, k1, fun j u hu => by simpa using hu⟩ (T := e) (fz := (0, 0)) (run_v ?_)
    rw [g2]; exact k6
  · simp at h
theorem good_buildOsl (ok : E.Ok) (hw : WR E C S w) {t : TypeId} {len : Nat} {ps : List (Nat × AV)} {us : Array (Nat × Value)} (hp : PR C w ps us.toList) {agg : Bool} {sz : Nat} {cs : List AV}
    (h : buildCells E t len ps = some (agg, sz, cs)) : GoodMk E C S w (do pure (.value (← Instr.buildSlice t len us))) ⟨.cells cs, none, fun k => .osl k sz 0 len len⟩ := by
  obtain ⟨r, e, k1, k2, k3, k4, k5, k6⟩ := build_cells ok hp h
  have hrs : r.size = cs.length := by have := k1.1; simp at this; omega
  refine GoodMk.row hw rfl (c := r) (T := e) (lim := cs.length) ?_ (Nat.le_refl _) (by omega) (fun x hx => by simp at hx) (run_v k6) (fun n no' => ?_)
  · rw [List.take_of_length_le (by simp; omega)]; exact k1
  · have := vr_newOsl (C := C) (n := n) (b := w.heap.size) (sz := sz) (len := len) (cap := len) (lim := len * sz) (no' := no') (w := w.alloc (.cells r e)) k3 (Nat.le_refl _) (Nat.le_refl _)
    rw [k2]; exact this

theorem zerosA_length (z : Value) (n : Nat) : (zerosA z n).length = n * z.cells.size := by simp [zerosA]
theorem zeros_rel (C : Ctx) (w : World) (z : Value) (n : Nat) : LR C w (zerosA z n) ((List.range (n * z.cells.size)).map fun j => z.cells.getD (j % z.cells.size) default) := by
  have := LR.scs (C := C) (w := w) ((List.range (n * z.cells.size)).map fun j => z.cells.getD (j % z.cells.size) default)
  simpa [zerosA, Function.comp_def] using this

theorem int_inv' {x : AV} {u : Value} {k : Int} (hx : int? x = some k) (hv : VR C w x u) : ∃ kk, u = .int kk k := by
  unfold int? at hx
  split at hx
  · rename_i kk m
    simp at hx; subst hx
    exact ⟨kk, hv.sc_inv⟩
  · simp at hx

theorem make_cells (ok : E.Ok) {t : TypeId} {x y : AV} {ux uy : Value} (hx : VR C w x ux) (hy : VR C w y uy) {e : TypeId} {agg : Bool} {sz n k : Nat} {cs : List AV}
    (h : makeCells E t x y = some (e, agg, sz, n, k, cs)) : ∃ (c : Array Value), LR C w cs (c.toList.take cs.length) ∧ cs.length = n * sz ∧ n ≤ k ∧ k * sz ≤ c.size ∧ 0 < sz ∧ cs.all okCell = true ∧ (agg = true ∨ sz = 1) ∧
      (Instr.makeSlice t ux uy).run E.P w = .ok (.slice (some ⟨w.heap.size, 0, none⟩) n k) (w.alloc (.cells c e)) := by
  unfold makeCells at h
  split at h
  · rename_i e' n' c' hd hn hc
    split at h
    · rename_i d i hde hi
      split at h
      · rename_i z hz
        simp only [cond_eq_ite] at h
        split at h
        · rename_i hb
          simp only [Option.some.injEq, Prod.mk.injEq] at h
          obtain ⟨rfl, rfl, rfl, rfl, rfl, rfl⟩ := h
          simp only [Bool.and_eq_true, Bool.or_eq_true, decide_eq_true_eq] at hb
          obtain ⟨⟨⟨⟨⟨⟨b1, b2⟩, b3⟩, b4⟩, b5⟩, b6⟩, b7⟩ := hb
          have b3 := Nat.le_of_ble_eq_true b3
          have b4 : 0 < i.size := Nat.le_of_ble_eq_true b4
          have b5 := Nat.eq_of_beq_eq_true b5
          obtain ⟨kk1, rfl⟩ := int_inv' hn hx
          obtain ⟨kk2, rfl⟩ := int_inv' hc hy
          have e1 : (c'.toNat : Int) = c' := Int.toNat_of_nonneg (by omega)
          have e2 : (n'.toNat : Int) = n' := Int.toNat_of_nonneg b1
          have hle : c'.toNat ≤ 2 ^ 46 := Nat.le_trans (Nat.le_mul_of_pos_right _ (Nat.succ_pos _)) b3
          have hby : c'.toNat * i.bytes ≤ 2 ^ 46 := Nat.le_trans (Nat.mul_le_mul_left _ (Nat.le_succ _)) b3
          have hby2 : (i.bytes : Int) * c' ≤ 281474976710656 := by
            have h1 : ((c'.toNat * i.bytes : Nat) : Int) ≤ 281474976710656 := by
              have : (2 : Nat) ^ 46 ≤ 281474976710656 := by decide
              omega
            rw [Int.natCast_mul, e1, Int.mul_comm] at h1; exact h1
          have hrun := run_make (P := E.P) w t e' i z (ok.und _ _ hd) (ok.inf _ _ hi) hz kk1 kk2 n' c' b1 b2 hby2 (by
            have : (2 : Nat) ^ 46 ≤ 9223372036854775807 := by decide
            omega)
          have hsize : (madeCells z.cells (c'.toNat * i.size)).size = c'.toNat * i.size := size_madeCells _ _
          have hlen : (zerosA z n'.toNat).length = n'.toNat * i.size := by rw [zerosA_length, b5]
          have hnc : n'.toNat * i.size ≤ c'.toNat * i.size := Nat.mul_le_mul_right _ (by omega)
          refine ⟨madeCells z.cells (c'.toNat * i.size), ?_, hlen, by omega, by omega, b4, b7, b6.imp id Nat.eq_of_beq_eq_true, hrun⟩
          have hz := zeros_rel C w z n'.toNat
          have he : (madeCells z.cells (c'.toNat * i.size)).toList.take (zerosA z n'.toNat).length = (List.range (n'.toNat * z.cells.size)).map fun j => z.cells.getD (j % z.cells.size) default := by
            apply List.ext_getElem?
            intro j
            rw [hlen, List.getElem?_take]
            by_cases hj : j < n'.toNat * i.size
            · have hj2 : j < c'.toNat * i.size := by omega
              have hj3 : j < n'.toNat * z.cells.size := by rw [b5]; exact hj
              simp [hj, hj2, hj3, madeCells, Array.getElem!_eq_getD]
            · have hj3 : ¬ j < n'.toNat * z.cells.size := by rw [b5]; exact hj
              simp [hj, hj3]
          rw [he]; exact hz
        · simp at h
      · simp at h
    · simp at h
  · simp at h

theorem good_makeSlice (ok : E.Ok) (hw : WR E C S w) {t : TypeId} {x y : AV} {ux uy : Value} (hx : VR C w x ux) (hy : VR C w y uy)
    (h : makeSliceA E t x y S = some (v, S')) : Good E C w (do pure (.value (← Instr.makeSlice t ux uy))) v S' := by
  unfold makeSliceA at h
  split at h
  · rename_i e agg sz n k cs hc
    simp only [Option.some.injEq, Prod.mk.injEq] at h
    obtain ⟨rfl, rfl⟩ := h
    obtain ⟨c, k1, k2, k3, k4, k5, k6, k7, k8⟩ := make_cells ok hx hy hc
    obtain ⟨g1, g2⟩ := flat_groups agg sz k7 n cs k2 k6
    refine good_newRow hw k5 g1 (by rw [g2]; exact k2) ⟨_, k1, fun j u hu => ?_⟩ (T := e) (cap := k) (by rw [g2]; exact k3) k4 (.inl rfl) (run_v ?_)
    · rw [List.getElem?_take] at hu
      split at hu
      · simpa using hu
      · cases hu
    · rw [g2]; exact k8
  · simp at h
theorem good_makeOsl (ok : E.Ok) (hw : WR E C S w) {t : TypeId} {x y : AV} {ux uy : Value} (hx : VR C w x ux) (hy : VR C w y uy) {e : TypeId} {agg : Bool} {sz n k : Nat} {cs : List AV}
    (h : makeCells E t x y = some (e, agg, sz, n, k, cs)) : GoodMk E C S w (do pure (.value (← Instr.makeSlice t ux uy))) ⟨.cells cs, none, fun k => .osl k sz 0 n n⟩ := by
  obtain ⟨c, k1, k2, k3, k4, k5, k6, k7, k8⟩ := make_cells ok hx hy h
  have hm : n * sz ≤ k * sz := Nat.mul_le_mul_right _ k3
  refine GoodMk.row hw rfl (c := c) (T := e) (lim := k * sz) k1 (by omega) k4 (fun x hx => by simp at hx) (run_v k8) (fun j no' => ?_)
  have := vr_newOsl (C := C) (n := j) (b := w.heap.size) (sz := sz) (len := n) (cap := k) (lim := k * sz) (no' := no') (w := w.alloc (.cells c e)) k5 k3 (Nat.le_refl _)
  rw [k2]; exact this

end
end Go.Abs
end

section
set_option linter.unusedSimpArgs false
set_option linter.unusedVariables false
namespace Go.Abs
open Go.RowKit

theorem flat_cons {sz : Nat} {x : AV} {l fl : List AV} (h : flat? sz (x :: l) = some fl) : ∃ cs r, cellsOf x = some cs ∧ flat? sz l = some r ∧ cs.length = sz ∧ cs.all okCell = true ∧ fl = cs ++ r := by
  simp only [flat?] at h
  split at h
  · rename_i cs r h1 h2
    split at h
    · rename_i h3
      simp only [Option.some.injEq] at h
      exact ⟨cs, r, h1, h2, h3.1, h3.2, h.symm⟩
    · simp at h
  · simp at h
theorem flat_mk {sz : Nat} {x : AV} {l cs r : List AV} (h1 : cellsOf x = some cs) (h2 : flat? sz l = some r) (h3 : cs.length = sz) (h4 : cs.all okCell = true) : flat? sz (x :: l) = some (cs ++ r) := by
  simp only [flat?, h1, h2]
  rw [if_pos ⟨h3, h4⟩]
theorem flat_length {sz : Nat} : ∀ {l fl : List AV}, flat? sz l = some fl → fl.length = l.length * sz
  | [], fl, h => by simp [flat?] at h; subst h; simp
  | x :: l, fl, h => by
    obtain ⟨cs, r, _, h2, h3, _, rfl⟩ := flat_cons h
    rw [List.length_append, h3, flat_length h2, List.length_cons, Nat.succ_mul]; omega
theorem flat_all {sz : Nat} : ∀ {l fl : List AV}, flat? sz l = some fl → fl.all okCell = true
  | [], fl, h => by simp [flat?] at h; subst h; rfl
  | x :: l, fl, h => by
    obtain ⟨cs, r, _, h2, _, h4, rfl⟩ := flat_cons h
    rw [List.all_append, h4, flat_all h2]; rfl
theorem flat_append {sz : Nat} : ∀ {a b fa fb : List AV}, flat? sz a = some fa → flat? sz b = some fb → flat? sz (a ++ b) = some (fa ++ fb)
  | [], b, fa, fb, ha, hb => by simp [flat?] at ha; subst ha; exact hb
  | x :: l, b, fa, fb, ha, hb => by
    obtain ⟨cs, r, h1, h2, h3, h4, rfl⟩ := flat_cons ha
    rw [List.append_assoc]
    exact flat_mk h1 (flat_append h2 hb) h3 h4
theorem flat_drop {sz : Nat} : ∀ (n : Nat) {a fa : List AV}, flat? sz a = some fa → flat? sz (a.drop n) = some (fa.drop (n * sz))
  | 0, _, _, h => by simpa using h
  | n + 1, [], fa, h => by simp [flat?] at h; subst h; simp [flat?]
  | n + 1, x :: l, fa, h => by
    obtain ⟨cs, r, h1, h2, h3, h4, rfl⟩ := flat_cons h
    rw [List.drop_succ_cons, Nat.succ_mul, Nat.add_comm, ← List.drop_drop, ← h3, List.drop_left, h3]
    exact flat_drop n h2
theorem flat_take {sz : Nat} : ∀ (n : Nat) {a fa : List AV}, flat? sz a = some fa → flat? sz (a.take n) = some (fa.take (n * sz))
  | 0, _, _, h => by simp [flat?]
  | n + 1, [], fa, h => by simp [flat?] at h; subst h; simp [flat?]
  | n + 1, x :: l, fa, h => by
    obtain ⟨cs, r, h1, h2, h3, h4, rfl⟩ := flat_cons h
    rw [List.take_succ_cons, Nat.succ_mul]
    have : (cs ++ r).take (n * sz + sz) = cs ++ r.take (n * sz) := by
      rw [← h3, List.take_append, List.take_of_length_le (by omega)]
      congr 2; omega
    rw [this]
    exact flat_mk h1 (flat_take n h2) h3 h4
theorem flat_get {sz : Nat} {a fa : List AV} (h : flat? sz a = some fa) {i : Nat} {x : AV} (hx : a[i]? = some x) : ∃ cs, cellsOf x = some cs ∧ cs.length = sz ∧ cs.all okCell = true ∧ (fa.drop (i * sz)).take sz = cs := by
  have h1 := flat_drop i h
  have hi : i < a.length := by
    rcases Nat.lt_or_ge i a.length with h' | h'
    · exact h'
    · simp [List.getElem?_eq_none h'] at hx
  have hx' : a[i] = x := by simpa [hi] using hx
  rw [List.drop_eq_getElem_cons hi, hx'] at h1
  obtain ⟨cs, r, k1, k2, k3, k4, k5⟩ := flat_cons h1
  refine ⟨cs, k1, k3, k4, ?_⟩
  rw [k5, ← k3, List.take_left]
theorem flat_allSz {sz : Nat} : ∀ {l : List AV}, allSz sz l = true → ∃ fl, flat? sz l = some fl
  | [], _ => ⟨[], rfl⟩
  | x :: l, h => by
    simp only [allSz, Bool.and_eq_true] at h
    obtain ⟨h1, h2⟩ := h
    cases hc : cellsOf x with
    | none => simp [hc] at h1
    | some cs =>
      simp only [hc, Bool.and_eq_true] at h1
      obtain ⟨r, hr⟩ := flat_allSz h2
      exact ⟨cs ++ r, flat_mk hc hr (Nat.eq_of_beq_eq_true h1.1) h1.2⟩

theorem byteVals_flat (l : List UInt8) : flat? 1 (byteVals l) = some (byteVals l) := by
  induction l with
  | nil => rfl
  | cons b l ih => exact flat_mk (cs := [.sc (.int .u8 b.toNat)]) rfl ih rfl rfl
theorem byteVals_rel (C : Ctx) (w : World) (l : List UInt8) : LR C w (byteVals l) (l.map fun b => Value.int .u8 b.toNat) := by
  induction l with
  | nil => exact LR.nil _ _
  | cons b l ih => exact LR.cons (.sc _) ih

section
variable {E : Env} {C : Ctx} {S S' : St} {w : World} {v : AV}

theorem seg_shift {b o : Nat} {cs : List AV} (h : Seg C w b o cs) (k n : Nat) : Seg C w b (o + k) ((cs.drop k).take n) := by
  obtain ⟨vs, k1, k2⟩ := h
  refine ⟨(vs.drop k).take n, (k1.drop _).take _, fun j u hu => ?_⟩
  rw [List.getElem?_take] at hu
  split at hu
  · rw [List.getElem?_drop] at hu
    have := k2 _ _ hu
    rwa [← Nat.add_assoc] at this
  · cases hu
theorem seg_at {b o : Nat} {cs : List AV} (h : Seg C w b o cs) : ∃ vs, LR C w cs vs ∧ ∀ j u, vs[j]? = some u → w.cell? ((⟨b, o, none⟩ : Addr).add j) = some u := by
  obtain ⟨vs, h1, h2⟩ := h
  exact ⟨vs, h1, fun j u hu => by rw [Addr.add_mid]; exact h2 j u hu⟩

/-- What is appended. -/
theorem src_rel {x : AV} {ux : Value} {ys : List AV} {sz : Nat} {t1 : TypeId} {agg : Bool} (hw : WR E C S w) (hx : VR C w x ux) (hy : elemsS S agg sz x = some ys) (hz : 0 < sz) (hs : allSz sz ys = true)
    (hk : (∃ e', E.P.underlying t1 = some (.slice e')) ∧ (∀ s, x ≠ .sc (.string s)) ∨ E.P.underlying t1 = some .string ∧ (∃ s, x = .sc (.string s)) ∨ ys = []) (hne : ys ≠ []) :
    ∃ fl news, flat? sz ys = some fl ∧ LR C w fl news ∧ Src E.P sz t1 ux ys.length news w := by
  obtain ⟨fl, hfl⟩ := flat_allSz hs
  cases x with
  | osl l sz' off len room =>
    simp only [elemsS, cond_eq_ite] at hy
    split at hy
    · rename_i hb
      simp only [Bool.and_eq_true, Bool.or_eq_true] at hb
      have hsz := Nat.eq_of_beq_eq_true hb.1
      subst hsz
      unfold St.oslElems at hy
      split at hy
      · rename_i cs ho
        simp only [cond_eq_ite] at hy
        split at hy
        · rename_i hb2
          simp only [Bool.and_eq_true] at hb2
          have hlen := Nat.eq_of_beq_eq_true hb2.1
          simp only [Option.some.injEq] at hy
          obtain ⟨g1, g2⟩ := flat_groups agg sz' (hb.2.imp id Nat.eq_of_beq_eq_true) len _ hlen hb2.2
          rw [hy] at g1 g2
          rw [g1] at hfl; simp at hfl; subst hfl
          rcases hk with ⟨⟨e', hk⟩, _⟩ | ⟨_, s, h⟩ | h
          · cases hx with
            | osl _ _ _ _ _ a cap hbn hs' hlr hrc hro hcl ha =>
              have hseg := seg_shift (obj_seg hw hbn ho) off (len * sz')
              obtain ⟨vs, k1, k2⟩ := seg_at hseg
              have hpos : 0 < cap := by
                have : 0 < ys.length := List.length_pos_iff.2 hne
                omega
              have ha' := ha hpos
              subst ha'
              refine ⟨_, vs, g1, k1, ?_⟩
              rw [g2]
              exact Src.ofSlice w hk _ _ _ vs (by rw [← k1.1, hlen]) k2 (okCells_one k1 hb2.2)
          · simp at h
          · exact absurd h hne
        · simp at hy
      · simp at hy
    · simp at hy
  | vec id sz' xs =>
    simp only [elemsS, elemsOf, Option.some.injEq] at hy
    subst hy
    rcases hk with ⟨⟨e', hk⟩, _⟩ | ⟨_, s, h⟩ | h
    · rcases hx.vec_inv with ⟨_, rfl, _⟩ | ⟨fl', b, o, cap, rfl, hv⟩
      · exact absurd rfl hne
      · have heq : sz' = sz := by
          match xs, hne with
          | y :: l, _ =>
            obtain ⟨cs, _, h1, _, h3, _, _⟩ := flat_cons hv.flat
            obtain ⟨cs2, _, h4, _, h5, _, _⟩ := flat_cons hfl
            rw [h1] at h4; simp at h4; subst h4; omega
        subst heq
        rw [hv.flat] at hfl; simp at hfl; subst hfl
        obtain ⟨vs, k1, k2⟩ := seg_at hv.seg
        refine ⟨fl', vs, hv.flat, k1, Src.ofSlice w hk _ _ _ vs ?_ k2 (okCells_one k1 (flat_all hv.flat))⟩
        rw [← k1.1, flat_length hv.flat]
    · simp at h
    · exact absurd h hne
  | sc u =>
    have hu := hx.sc_inv
    subst hu
    cases ux with
    | string s =>
      simp only [elemsS, elemsOf, Option.some.injEq] at hy
      subst hy
      rcases hk with ⟨_, h⟩ | ⟨hk, _⟩ | h
      · exact absurd rfl (h s)
      · have h1 : sz = 1 := by
          match hl : byteVals s.data.toList, hne with
          | y :: l, _ =>
            rw [hl] at hfl
            obtain ⟨cs2, _, h4, _, h5, _, _⟩ := flat_cons hfl
            have : y ∈ byteVals s.data.toList := by rw [hl]; simp
            simp only [byteVals, List.mem_map] at this
            obtain ⟨b, _, rfl⟩ := this
            simp [cellsOf] at h4; subst h4; simpa using h5.symm
        subst h1
        refine ⟨_, byteCells s, byteVals_flat _, ?_, ?_⟩
        · exact byteVals_rel C w s.data.toList
        · have := Src.ofString (P := E.P) w hk s
          have hlen : (byteVals s.data.toList).length = s.size := by simp [byteVals]
          rw [hlen]; exact this
      · exact absurd h hne
    | slice a n c =>
      cases a with
      | none =>
        match n, c with
        | 0, 0 => simp [elemsS, elemsOf] at hy; exact absurd hy.symm (by simpa using hne)
        | 0, _ + 1 => simp [elemsS, elemsOf] at hy
        | _ + 1, _ => simp [elemsS, elemsOf] at hy
      | some _ => simp [elemsS, elemsOf] at hy
    | _ => simp [elemsS, elemsOf] at hy
  | _ => simp [elemsS, elemsOf] at hy

theorem isSpent_set {S : St} {id i : Nat} (sp : PM Unit) : ({ S with spent := sp.set id () } : St).isSpent i = (decide (i = id) || (sp.get i).isSome) := by
  simp only [St.isSpent, PM.get_set]
  by_cases h : i = id <;> simp [h]

theorem WR.spend (h : WR E C S w) {id : Nat} (hid : id < S.nid) : WR E C { S with spent := S.spent.set id () } w := by
  have hs : ∀ i, ({ S with spent := S.spent.set id () } : St).isSpent i = false → i ≠ id ∧ S.isSpent i = false := fun i hi => by
    rw [isSpent_set] at hi
    simp only [Bool.or_eq_false_iff, decide_eq_false_iff_not] at hi
    exact ⟨hi.1, hi.2⟩
  refine ⟨h.no, h.unb, h.nid, h.nid1, h.bs, h.inj, h.mub, h.objs, h.unob, fun i h0 hi => ?_, fun i j h0 hi h0' hj hsi hsj heq => h.idi i j h0 hi h0' hj (hs i hsi).2 (hs j hsj).2 heq, h.glob, fun i hi => ?_, h.shp, h.shu, h.ity⟩
  · obtain ⟨k1, k2, k3, k4, k5, k6, k7, k8⟩ := h.ids i h0 hi
    exact ⟨k1, k2, k3, k4, k5, k6, k7, fun hsp => k8 (hs i hsp).2⟩
  · rw [isSpent_set]
    refine ⟨?_, (h.fresh i hi).2⟩
    have h1 := (h.fresh i hi).1
    simp only [St.isSpent] at h1
    simp only [h1, Bool.or_false, decide_eq_false_iff_not]
    intro e
    have : S.nid ≤ i := hi
    omega

theorem Good.upd {r : Sem Next} {S1 S2 : St} (h : ∃ u C' w', r.run E.P w = .ok (.value u) w' ∧ WR E C' S1 w' ∧ Ext C w C' w' ∧ VR C' w' v u) (hs : ∀ C w, WR E C S1 w → WR E C S2 w) : Good E C w r v S2 := by
  obtain ⟨u, C', w', h1, h2, h3, h4⟩ := h
  exact .inl ⟨u, C', w', h1, hs _ _ h2, h3, h4⟩

/-- append, in place. -/
theorem good_room (hw : WR E C S w) {e : TypeId} {id sz : Nat} {xs ys fl fy : List AV} {news : List Value} {b o cap : Nat} (hid : 2 < id) (hlive : S.isSpent id = false) (hv : VecAt C w id sz xs fl b o cap)
    (hfy : flat? sz ys = some fy) (hl : LR C w fy news) (hroom : xs.length + ys.length ≤ cap) (hne : ys ≠ []) (hit : plainRow w (C.top b) e b) {r : Sem Next}
    (hr : (∀ j, j < news.length → (w.cell? ⟨b, o + xs.length * sz + j, none⟩).isSome = true) → (∀ j, j < news.length → w.frozen? ⟨b, o + xs.length * sz + j, none⟩ = false) →
      r.run E.P w = .ok (.value (.slice (some ⟨b, o, none⟩) (xs.length + ys.length) cap)) (w.setCells b (o + xs.length * sz) news)) :
    Good E C w r (.vec S.nid sz (xs ++ ys)) { S.newId e with spent := S.spent.set id () } := by
  obtain ⟨hlt, hio⟩ := hv.hd hid
  have hI := hw.ids id hid hlt
  rw [hio] at hI
  obtain ⟨i1, i2, i3, i4, i5, ⟨c, T, fz, r1, r2, r3⟩, i7, i8⟩ := hI
  simp only at i1 i2 i3 i4 i5 r1 r2 r3 i7 i8
  have htop := i8 hlive
  have hfl := flat_length hv.flat
  have hfyl := flat_length hfy
  have hnl : news.length = ys.length * sz := by rw [← hl.1, hfyl]
  have hcapsz : (xs.length + ys.length) * sz ≤ cap * sz := Nat.mul_le_mul_right _ hroom
  rw [Nat.add_mul] at hcapsz
  have hrun := hr (fun j hj => by
      rw [cell_block r1]
      have : o + xs.length * sz + j < c.size := by omega
      simp [this])
    (fun j hj => by
      have hj' : o + xs.length * sz + j < c.size := by omega
      have hnf := r2 (o + xs.length * sz + j) (by omega) hj'
      simp [World.frozen?, r1]
      intro h1
      by_cases h2 : o + xs.length * sz + j < fz.2
      · exact absurd ⟨h1, h2⟩ hnf
      · omega)
  have hheap := heap_setCells news w c (o + xs.length * sz) r1
  have hne' : ∀ k, k ≠ b → (w.setCells b (o + xs.length * sz) news).heap[k]? = w.heap[k]? := fun k hk => heap_setCells_ne news w _ k hk
  have hsz := size_setCells (b := b) news w (o + xs.length * sz)
  let hd : Hdr := ⟨b, o, xs.length + ys.length, cap, sz⟩
  have e0 : Ext C w (C.newId hd (o + (xs.length + ys.length) * sz)) (w.setCells b (o + xs.length * sz) news) := by
    refine ⟨⟨fun _ h => ⟨h, rfl, rfl, rfl, rfl⟩, Nat.le_succ _, fun i hi => by simp only [Ctx.newId]; rw [if_neg (by omega)], fun i h1 h2 => .inr ⟨id, hid, hlt, by
        have : i = C.nid := by simp only [Ctx.newId] at h2; omega
        simp only [Ctx.newId]; rw [if_pos this, hio]⟩, fun l h1 h2 => absurd h2 h1, by omega, fun b' hb' => ?_, fun b' o' hb' hf' ho' => ?_, rfl, below_setCells i1.1 _ _ _, fun b' x hx => ?_⟩, Nat.le_refl _, fun _ h1 h2 => absurd h2 h1⟩
    · simp only [Ctx.newId]
      by_cases hbb : b' = hd.b
      · rw [if_pos hbb]
        have : b' = b := hbb
        subst this
        rw [htop, Nat.add_mul]; omega
      · rw [if_neg hbb]; exact Nat.le_refl _
    · by_cases hbb : b' = b
      · subst hbb
        refine World.cell?_setCells_out b' news _ w _ (fun _ _ => .inl ?_)
        show o' < _
        omega
      · simp only [World.cell?, hne' b' hbb]
    · by_cases hbb : b' = b
      · subst hbb
        rw [shape_block r1] at hx
        rw [shape_block hheap, setAll_size]; exact hx
      · simp only [World.shape?, hne' b' hbb] at hx ⊢; exact hx
  have hnid : C.nid = S.nid := hw.nid
  have hnewio : (C.newId hd (o + (xs.length + ys.length) * sz)).io S.nid = hd := by simp [Ctx.newId, hnid]
  have hnewtop : (C.newId hd (o + (xs.length + ys.length) * sz)).top b = o + (xs.length + ys.length) * sz := by simp [Ctx.newId, hd]
  have hfresh : S.isSpent S.nid = false := (hw.fresh _ (Nat.le_refl _)).1
  have hs : ∀ i, ({ S.newId e with spent := S.spent.set id () } : St).isSpent i = (decide (i = id) || S.isSpent i) := fun i => isSpent_set (S := S.newId e) S.spent
  have hn1 := hw.nid1
  have hsn : ({ S.newId e with spent := S.spent.set id () } : St).isSpent S.nid = false := by
    rw [hs, hfresh]
    simp; omega
  refine .inl ⟨_, C.newId hd (o + (xs.length + ys.length) * sz), _, hrun, ⟨hw.no, hw.unb, by simp [Ctx.newId, St.newId, hw.nid], by simp [St.newId]; omega, by rw [hsz]; exact hw.bs, hw.inj, fun l hl => by rw [hsz]; exact hw.mub l hl, fun l hl => ?_, hw.unob, fun i h0 hi => ?_, fun i j h0 hi h0' hj hsi hsj heq => ?_,
    fun g cs hg => (hw.glob g cs hg).ext e0, fun i hi => ?_, fun l x hl hx => ?_, hw.shu, fun i T' h0 hi hT => ?_⟩, e0, ?_⟩
  · show ObjR _ _ l (S.objs.get l) ((w.setCells b _ news).heap[C.mu l]?)
    rw [hne' _ (hv.free l hl)]
    exact (hw.objs l hl).ext e0.toExtW hl
  · simp only [Ctx.newId] at hi
    by_cases h1 : i = S.nid
    · subst h1
      rw [hnewio]
      exact ⟨i1, by rw [hsz]; exact i2, e0.free i2 i3, i4, hroom, ⟨_, T, fz, hheap, by
        show ∀ i, Ctx.top _ b ≤ i → _
        rw [setAll_size, hnewtop, Nat.add_mul]
        intro i hi1 hi2
        exact r2 i (by omega) hi2, by rw [setAll_size]; exact r3⟩, by show o + _ ≤ Ctx.top _ b; rw [hnewtop]; exact Nat.le_refl _, fun _ => by show Ctx.top _ b = _; rw [hnewtop]⟩
    · have hi' : i < C.nid := by omega
      have hio' : (C.newId hd (o + (xs.length + ys.length) * sz)).io i = C.io i := by simp only [Ctx.newId]; rw [if_neg (by omega)]
      rw [hio']
      obtain ⟨k1, k2, k3, k4, k5, ⟨c', T', fz', q1, q2, q3⟩, k7, k8⟩ := hw.ids i h0 hi'
      by_cases hbb : (C.io i).b = b
      · rw [hbb] at q1
        rw [r1] at q1
        simp only [Option.some.injEq, Obj.cells.injEq] at q1
        obtain ⟨rfl, rfl, rfl⟩ := q1
        refine ⟨k1, by rw [hsz]; exact k2, e0.free k2 k3, k4, k5, ⟨_, T, fz, by rw [hbb]; exact hheap, ?_, by rw [setAll_size]; exact q3⟩, ?_, fun hsp => ?_⟩
        · rw [hbb, hnewtop, setAll_size, Nat.add_mul]
          intro i hi1 hi2
          exact r2 i (by omega) hi2
        · rw [hbb] at k7 ⊢
          rw [hnewtop, Nat.add_mul]
          omega
        · rw [hs] at hsp
          simp only [Bool.or_eq_false_iff, decide_eq_false_iff_not] at hsp
          exact absurd (hw.idi i id h0 hi' hid hlt hsp.2 hlive (by rw [hbb, hio])) hsp.1
      · have ht' : (C.newId hd (o + (xs.length + ys.length) * sz)).top (C.io i).b = C.top (C.io i).b := by simp only [Ctx.newId]; rw [if_neg hbb]
        refine ⟨k1, by rw [hsz]; exact k2, e0.free k2 k3, k4, k5, ⟨c', T', fz', by rw [hne' _ hbb]; exact q1, by rw [ht']; exact q2, q3⟩, by rw [ht']; exact k7, fun hsp => ?_⟩
        rw [hs] at hsp
        simp only [Bool.or_eq_false_iff] at hsp
        rw [ht']; exact k8 hsp.2
  · simp only [Ctx.newId] at hi hj
    rw [hs] at hsi hsj
    simp only [Bool.or_eq_false_iff, decide_eq_false_iff_not] at hsi hsj
    have old : ∀ k, k ≠ S.nid → (C.newId hd (o + (xs.length + ys.length) * sz)).io k = C.io k := fun k hk => by simp only [Ctx.newId]; rw [if_neg (by omega)]
    by_cases h1 : i = S.nid
    · by_cases h2 : j = S.nid
      · omega
      · rw [h1, hnewio, old j h2] at heq
        exact absurd (hw.idi j id h0' (by omega) hid hlt hsj.2 hlive (by rw [← heq, hio])) hsj.1
    · by_cases h2 : j = S.nid
      · rw [h2, hnewio, old i h1] at heq
        exact absurd (hw.idi i id h0 (by omega) hid hlt hsi.2 hlive (by rw [heq, hio])) hsi.1
      · rw [old i h1, old j h2] at heq
        exact hw.idi i j h0 (by omega) h0' (by omega) hsi.2 hsj.2 heq
  · rw [hs]
    have h1 : S.nid + 1 ≤ i := hi
    refine ⟨?_, ?_⟩
    · rw [(hw.fresh i (by omega)).1]
      simp; omega
    · show (S.ity.set S.nid e).get i = none
      rw [PM.get_set, if_neg (by omega)]
      exact (hw.fresh i (by omega)).2
  · obtain ⟨k1, k2⟩ := hw.shp l x hl hx
    exact ⟨k1, e0.shape _ _ k2⟩
  · have hT' : (S.ity.set S.nid e).get i = some T' := hT
    rw [PM.get_set] at hT'
    have hi' : i < C.nid + 1 := hi
    have conv : ∀ T1 tp, (∃ c' fz', w.heap[b]? = some (.cells c' T1 fz') ∧ (fz'.1 = fz'.2 ∨ (fz'.1 ≤ fz'.2 ∧ fz'.2 ≤ C.top b))) → C.top b ≤ tp → plainRow (w.setCells b (o + xs.length * sz) news) tp T1 b := by
      intro T1 tp ⟨c', fz', k1, k2⟩ hle
      exact ⟨_, fz', heap_setCells news w c' _ k1, k2.imp (fun h => h) fun ⟨a, b⟩ => ⟨a, by omega⟩⟩
    have htp : C.top b ≤ o + (xs.length + ys.length) * sz := by rw [htop, Nat.add_mul]; omega
    by_cases h1 : i = S.nid
    · rw [if_pos h1] at hT'
      simp only [Option.some.injEq] at hT'
      rw [h1, hnewio, ← hT']
      show plainRow _ (Ctx.top _ b) e b
      rw [hnewtop]
      exact conv e _ hit htp
    · rw [if_neg h1] at hT'
      have h2 : i < C.nid := by omega
      have hio' : (C.newId hd (o + (xs.length + ys.length) * sz)).io i = C.io i := by simp only [Ctx.newId]; rw [if_neg (by omega)]
      have hk := hw.ity i T' h0 h2 hT'
      rw [hio']
      by_cases hbb : (C.io i).b = b
      · rw [hbb] at hk ⊢
        rw [hnewtop]
        exact conv T' _ hk htp
      · have ht' : (C.newId hd (o + (xs.length + ys.length) * sz)).top (C.io i).b = C.top (C.io i).b := by simp only [Ctx.newId]; rw [if_neg hbb]
        obtain ⟨c', fz', k1, k2⟩ := hk
        exact ⟨c', fz', by rw [hne' _ hbb]; exact k1, by rw [ht']; exact k2⟩
  · suffices hV : VecAt (C.newId hd (o + (xs.length + ys.length) * sz)) (w.setCells b (o + xs.length * sz) news) S.nid sz (xs ++ ys) (fl ++ fy) b o cap by
      have := hV.mk'
      rwa [List.length_append] at this
    refine ⟨hv.szpos, by simpa using hroom, flat_append hv.flat hfy, by rw [hsz]; exact i2, e0.free i2 i3, by show _ ≤ Ctx.top _ b; rw [hnewtop, List.length_append, hfl, hfyl, Nat.add_mul]; omega, ?_, fun _ => ⟨by simp [Ctx.newId, hnid], by simp [hnewio, hd]⟩, fun h => by omega, fun h => by omega⟩
    obtain ⟨vs, k1, k2⟩ := hv.seg
    refine ⟨vs ++ news, (k1.ext e0).append (hl.ext e0), fun j u hu => ?_⟩
    have hvl : vs.length = xs.length * sz := by rw [← k1.1, hfl]
    rw [List.getElem?_append] at hu
    split at hu
    · rename_i hj
      rw [← k2 j u hu]
      refine World.cell?_setCells_out b news _ w _ (fun _ _ => .inl ?_)
      show o + j < _
      omega
    · rename_i hj
      have hj2 : j - vs.length < news.length := by
        rcases Nat.lt_or_ge (j - vs.length) news.length with h' | h'
        · exact h'
        · simp [List.getElem?_eq_none h'] at hu
      have := World.cell?_setCells_in b news (o + xs.length * sz) w (fun j' hj' => by
        rw [cell_block r1]
        have : o + xs.length * sz + j' < c.size := by omega
        simp [this]) (j - vs.length) hj2
      rw [show o + j = o + xs.length * sz + (j - vs.length) by omega, this]
      simpa [hj2] using hu

end
end Go.Abs
end
