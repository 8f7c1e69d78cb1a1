/-
  An evaluator of its own over the program's form: values by value, memory as a list of objects; no tape, no capacities. This text: the definitions.
-/
import Derived.Orders
import Derived.Below
import Derived.Scope
namespace Go.Abs

theorem beqF {a b : Nat} (h : ¬ a = b) : Nat.beq a b = false := by
  cases e : Nat.beq a b with
  | false => rfl
  | true => exact absurd (Nat.eq_of_beq_eq_true e) h
theorem beqT {a b : Nat} (h : a = b) : Nat.beq a b = true := by
  subst h; exact Nat.beq_refl a

/-- A map from numbers, as a tree. -/
inductive PM (α : Type) where
  | leaf
  | node (l : PM α) (v : Option α) (r : PM α)

namespace PM
variable {α : Type}
def get : PM α → Nat → Option α
  | .leaf, _ => none
  | .node l v r, n => bif Nat.beq n 0 then v else bif Nat.beq (n % 2) 1 then l.get (n / 2) else r.get (n / 2 - 1)
def sing : Nat → Nat → α → PM α
  | 0, _, _ => .leaf
  | f + 1, n, v => bif Nat.beq n 0 then .node .leaf (some v) .leaf else bif Nat.beq (n % 2) 1 then .node (sing f (n / 2) v) none .leaf else .node .leaf none (sing f (n / 2 - 1) v)
def set : PM α → Nat → α → PM α
  | .leaf, n, v => sing (n + 1) n v
  | .node l x r, n, v => bif Nat.beq n 0 then .node l (some v) r else bif Nat.beq (n % 2) 1 then .node (l.set (n / 2) v) x r else .node l x (r.set (n / 2 - 1) v)

@[simp] theorem get_leaf (n : Nat) : (leaf : PM α).get n = none := rfl
theorem get_node (l : PM α) (v : Option α) (r : PM α) (n : Nat) :
    (node l v r).get n = if n = 0 then v else if n % 2 = 1 then l.get (n / 2) else r.get (n / 2 - 1) := by
  simp only [get]
  by_cases h : n = 0
  · simp [h]
  · by_cases h2 : n % 2 = 1
    · have e1 : Nat.beq n 0 = false := beqF h
      simp [h, h2, e1]
    · have e1 : Nat.beq n 0 = false := beqF h
      have e2 : Nat.beq (n % 2) 1 = false := beqF h2
      simp [h, h2, e1, e2]
theorem get_sing (f : Nat) : ∀ (n m : Nat) (v : α), n < f → (sing f n v).get m = if m = n then some v else none := by
  induction f with
  | zero => intro n m v h; omega
  | succ f ih =>
    intro n m v h
    simp only [sing]
    by_cases h0 : n = 0
    · have e1 : Nat.beq n 0 = true := beqT h0
      subst h0
      simp only [e1, cond_true, get_node]
      by_cases hm : m = 0
      · simp [hm]
      · simp [hm]
    · have e1 : Nat.beq n 0 = false := beqF h0
      by_cases h2 : n % 2 = 1
      · have e2 : Nat.beq (n % 2) 1 = true := beqT h2
        simp only [e1, e2, cond_true, cond_false, get_node]
        rw [ih _ _ _ (by omega)]
        by_cases hm : m = 0
        · have : m ≠ n := by omega
          simp [hm]; omega
        · by_cases hm2 : m % 2 = 1
          · simp only [hm, hm2, if_false, if_true]
            by_cases e : m = n
            · subst e; simp
            · rw [if_neg (by omega), if_neg e]
          · simp only [hm, hm2, if_false]
            rw [if_neg (by intro e; subst e; exact hm2 h2)]
            rfl
      · have e2 : Nat.beq (n % 2) 1 = false := beqF h2
        simp only [e1, e2, cond_false, get_node]
        rw [ih _ _ _ (by omega)]
        by_cases hm : m = 0
        · have : m ≠ n := by omega
          simp [hm]; omega
        · by_cases hm2 : m % 2 = 1
          · simp only [hm, hm2, if_false, if_true]
            rw [if_neg (by intro e; subst e; exact h2 hm2)]
            rfl
          · simp only [hm, hm2, if_false]
            by_cases e : m = n
            · subst e; simp
            · rw [if_neg (by omega), if_neg e]
theorem get_set (t : PM α) : ∀ (n m : Nat) (v : α), (t.set n v).get m = if m = n then some v else t.get m := by
  induction t with
  | leaf => intro n m v; simp only [set, get_leaf]; exact get_sing (n + 1) n m v (by omega)
  | node l x r ihl ihr =>
    intro n m v
    simp only [set]
    by_cases h0 : n = 0
    · have e1 : Nat.beq n 0 = true := beqT h0
      subst h0
      simp only [e1, cond_true, get_node]
      by_cases hm : m = 0 <;> simp [hm]
    · have e1 : Nat.beq n 0 = false := beqF h0
      by_cases h2 : n % 2 = 1
      · have e2 : Nat.beq (n % 2) 1 = true := beqT h2
        simp only [e1, e2, cond_true, cond_false, get_node, ihl]
        by_cases hm : m = 0
        · rw [if_pos hm, if_neg (by omega), if_pos hm]
        · by_cases hm2 : m % 2 = 1
          · simp only [hm, hm2, if_false, if_true]
            by_cases e : m = n
            · subst e; simp
            · rw [if_neg (by omega), if_neg e]
          · simp only [hm, hm2, if_false]
            rw [if_neg (by intro e; subst e; exact hm2 h2)]
      · have e2 : Nat.beq (n % 2) 1 = false := beqF h2
        simp only [e1, e2, cond_false, get_node, ihr]
        by_cases hm : m = 0
        · rw [if_pos hm, if_neg (by omega), if_pos hm]
        · by_cases hm2 : m % 2 = 1
          · simp only [hm, hm2, if_false, if_true]
            rw [if_neg (by intro e; subst e; exact h2 hm2)]
          · simp only [hm, hm2, if_false]
            by_cases e : m = n
            · subst e; simp
            · rw [if_neg (by omega), if_neg e]
end PM

/-- A value, by value. 'sc': a value of the model's own without memory of ours; 'ptr': into object l; 'eptr': into an element of a slice by value; 'vec': a slice by value (its number, the cells of an element, the elements). -/
inductive AV where
  | undef
  | sc (v : Value)
  | ptr (l off : Nat)
  | eptr (cells : List AV) (off : Nat)
  | vec (id sz : Nat) (xs : List AV)
  | agg (cs : List AV)
  | tup (vs : List AV)
  | fn (f : Fn) (first captured : List AV)
  | ifc (t : TypeId) (v : AV)

instance : Inhabited AV := ⟨.undef⟩

/-- What stands at an operation that was passed by. -/
def passed : AV := .sc (.tuple #[])

inductive AObj where
  | cells (cs : List AV)
  | siter (s : ByteArray) (pos : Nat)

structure St where
  objs : PM AObj
  no : Nat
  nid : Nat
  spent : PM Unit
  wr : PM Nat

/-- How often an object has been written. -/
def St.ver (S : St) (l : Nat) : Nat := (S.wr.get l).getD 0

structure Env where
  P : Program
  G : Nat → Option (List AV)
  fn : FuncId → Option Func
  und : TypeId → Option TypeDesc
  inf : TypeId → Option TypeInfo
  X : FuncId → Option (List AV → St → Option (AV × St))

structure Env.Ok (E : Env) : Prop where
  fn : ∀ f x, E.fn f = some x → E.P.funcs[f]? = some x ∧ x.name ≠ "runtime.NumGoroutine"
  und : ∀ t x, E.und t = some x → E.P.underlying t = some x
  inf : ∀ t x, E.inf t = some x → E.P.info? t = some x
  mixed : E.P.follows .mixedOrders = true

/-- What an operation of the model comes to where it touches no memory. -/
def peek {α : Type} (P : Program) : Sem α → Option α
  | .pure a => some a
  | .program k => peek P (k P)
  | .mark _ k => peek P k
  | _ => none

theorem peek_run {α : Type} {P : Program} (s : Sem α) : ∀ {a : α}, peek P s = some a → ∀ w, s.run P w = .ok a w := by
  induction s with
  | pure a => intro b h w; simp only [peek, Option.some.injEq] at h; subst h; rfl
  | program k ih => intro b h w; simp only [peek] at h; simp only [Sem.run]; exact ih P h w
  | mark m k ih => intro b h w; simp only [peek] at h; simp only [Sem.run]; exact ih h w
  | load m a k ih => intro b h; simp [peek] at h
  | store m a v k ih => intro b h; simp [peek] at h
  | new o k ih => intro b h; simp [peek] at h
  | shape r k ih => intro b h; simp [peek] at h
  | freeze a n k ih => intro b h; simp [peek] at h
  | frozen a k ih => intro b h; simp [peek] at h
  | getObj r k ih => intro b h; simp [peek] at h
  | setObj r o k ih => intro b h; simp [peek] at h
  | choose q k ih => intro b h; simp [peek] at h
  | sys c k ih => intro b h; simp [peek] at h
  | halt h => intro b h; simp [peek] at h

/-- A cell of the model's as a value by value. -/
def ofCell : Value → AV
  | .agg cs => .agg (cs.toList.map .sc)
  | v => .sc v
def ofV : Value → AV
  | .agg cs => .agg (cs.toList.map .sc)
  | .tuple vs => bif vs.isEmpty then .sc (.tuple #[]) else .tup (vs.toList.map ofCell)
  | v => .sc v

def concCell : AV → Option Value
  | .sc v => some v
  | _ => none
def concAll : List AV → Option (List Value)
  | [] => some []
  | a :: l => match concCell a, concAll l with
    | some v, some vs => some (v :: vs)
    | _, _ => none
/-- The model's own value, where it bears no memory of ours. -/
def conc : AV → Option Value
  | .sc v => some v
  | .agg cs => (concAll cs).map fun vs => .agg vs.toArray
  | _ => none

/-- The cells of a value; none where they are not known. -/
def cellsOf : AV → Option (List AV)
  | .undef | .tup _ | .sc (.agg _) | .sc (.tuple _) => none
  | .agg cs => some cs
  | a => some [a]
def okCell : AV → Bool
  | .undef | .tup _ | .sc (.agg _) | .sc (.tuple _) | .agg _ => false
  | _ => true

def getT (tm : PM AV) (t : Nat) : AV := (tm.get t).getD .undef

def Env.ev (E : Env) (tm : PM AV) : Operand → AV
  | .tmp t => getT tm t
  | .const v => ofV v
  | .global g => match E.G g with
    | some cs => .eptr cs 0
    | none => .undef
  | .func f => .sc (.func (.func f) #[] #[])

def isAggD : TypeDesc → Bool
  | .struct _ | .array _ _ => true
  | _ => false

/-- A part of cells as a value of a type. -/
def cut (agg : Bool) (size : Nat) (cs : List AV) (off : Nat) : Option AV :=
  bif Nat.ble (off + size) cs.length then
    (bif agg then some (.agg ((cs.drop off).take size)) else bif Nat.beq size 1 then cs[off]? else none)
  else none

def Env.cutAt (E : Env) (t : TypeId) (cs : List AV) (off : Nat) : Option AV :=
  match E.und t, E.inf t with
  | some d, some i => cut (isAggD d) i.size cs off
  | _, _ => none

def St.obj (S : St) (l : Nat) : Option (List AV) :=
  match S.objs.get l with
  | some (.cells cs) => some cs
  | _ => none

def St.newObj (S : St) (cs : List AV) : St := { S with objs := S.objs.set S.no (.cells cs), no := S.no + 1 }
def St.newId (S : St) : St := { S with nid := S.nid + 1 }

/-- 'vs' laid into 'cs' from 'off' on. -/
def splice (cs : List AV) (off : Nat) (vs : List AV) : List AV := cs.take off ++ vs ++ cs.drop (off + vs.length)

def fillA (place : Nat → Option (Nat × Nat)) (cells : List AV) : List (Nat × AV) → Option (List AV)
  | [] => some cells
  | (i, v) :: rest =>
    match place i, cellsOf v with
    | some (off, size), some vs => bif Nat.beq vs.length size && Nat.ble (off + vs.length) cells.length then fillA place (splice cells off vs) rest else none
    | _, _ => none

/-- Cells, n at a time. -/
def groups (agg : Bool) (sz : Nat) : Nat → List AV → List AV
  | 0, _ => []
  | n + 1, cs => (bif agg then .agg (cs.take sz) else cs.headD .undef) :: groups agg sz n (cs.drop sz)

def int? : AV → Option Int
  | .sc (.int _ n) => some n
  | _ => none

def elemOf? : Option TypeDesc → Option TypeId
  | some (.slice e) => some e
  | _ => none

/-- The bounds of a slice expression, on a slice or string of length n. -/
def bounds (n : Nat) (lo hi : Option AV) : Option (Nat × Nat) :=
  match (match hi with | none => some (n : Int) | some h => int? h), (match lo with | none => some 0 | some l => int? l) with
  | some h, some l => bif decide (0 ≤ l) && decide (l ≤ h) && decide (h ≤ (n : Int)) then some (l.toNat, h.toNat) else none
  | _, _ => none

def bytesOf? : List AV → Option (List UInt8)
  | [] => some []
  | .sc (.int .u8 n) :: l => (bytesOf? l).map (UInt8.ofNat n.toNat :: ·)
  | _ :: _ => none

def byteVals (l : List UInt8) : List AV := l.map fun b => .sc (.int .u8 b.toNat)

def isNilC : AV → Bool
  | .sc (.slice none _ _) | .sc (.pointer none) | .sc .nilFunc | .sc .nilIface | .sc (.map none) => true
  | _ => false
/-- '==' between what is not nil and the literal nil. -/
def eqNil (d : TypeDesc) : AV → AV → Option Bool
  | .vec .., .sc (.slice none _ _) => bif (match d with | .slice _ => true | _ => false) then some false else none
  | .ptr .., .sc (.pointer none) => bif (match d with | .pointer _ => true | _ => false) then some false else none
  | _, _ => none

/-- append's elements: how many, which. -/
def elemsOf : AV → Option (List AV)
  | .sc (.slice none 0 0) => some []
  | .vec _ _ xs => some xs
  | .sc (.string s) => some (byteVals s.data.toList)
  | _ => none

def allSz (sz : Nat) : List AV → Bool
  | [] => true
  | x :: l => (match cellsOf x with | some cs => Nat.beq cs.length sz && cs.all okCell | none => false) && allSz sz l

def St.live (S : St) (id : Nat) : Bool := Nat.blt 0 id && (S.spent.get id).isNone

def zeroOk (ti : TypeInfo) : Bool := match ti.zero with | some z => Nat.beq z.cells.size ti.size | none => false

def appendA (ti : TypeInfo) (s x : AV) (S : St) : Option (AV × St) :=
  match elemsOf x with
  | none => none
  | some [] => (match s with
    | .sc (.slice none 0 0) => some (s, S)
    | .vec _ _ _ => some (s, S)
    | _ => none)
  | some (y :: ys) =>
      bif allSz ti.size (y :: ys) && Nat.blt 0 ti.size && zeroOk ti then
        match s with
        | .sc (.slice none 0 0) => bif Nat.ble (((y :: ys).length) * (ti.bytes + 1)) (2 ^ 46) then some (.vec S.nid ti.size (y :: ys), S.newId) else none
        | .vec id sz' xs =>
          bif S.live id && Nat.beq ti.size sz' && Nat.ble ((xs.length + (y :: ys).length) * (ti.bytes + 1)) (2 ^ 46) then
            some (.vec S.nid ti.size (xs ++ (y :: ys)), { S.newId with spent := S.spent.set id () })
          else none
        | _ => none
      else none

abbrev CallFn := FuncId → List AV → St → Option (AV × St)

def isStr : Option TypeDesc → Bool
  | some .string => true
  | _ => false
def isU8 : Option TypeDesc → Bool
  | some (.int .u8) => true
  | _ => false

def convertA (E : Env) (src dst : TypeId) (x : AV) (S : St) : Option (AV × St) :=
  match x with
  | .sc v => (peek E.P (convert src dst v)).map fun r => (ofV r, S)
  | .vec id sz xs =>
    match E.und src, E.und dst with
    | some (.slice e), some .string => bif isU8 (E.und e) && Nat.beq sz 1 then (bytesOf? xs).map fun bs => (.sc (.string ⟨bs.toArray⟩), S) else none
    | some (.slice _), some (.slice e) => bif Nat.beq src dst && isU8 (E.und e) && Nat.blt 0 id then some (x, S) else none
    | _, _ => none
  | _ => none

/-- A function value: whose, with what it has caught. -/
def fnOf : AV → Option (FuncId × List AV × List AV)
  | .sc (.func (.func g) f c) => bif f.isEmpty && c.isEmpty then some (g, [], []) else none
  | .fn (.func g) f c => some (g, f, c)
  | _ => none

def lenS : AV → Option Nat
  | .sc (.slice none 0 _) => some 0
  | .vec _ _ xs => some xs.length
  | _ => none

def builtinA (E : Env) (b : Builtin) (ats : List TypeId) (xs : List AV) (S : St) : Option (AV × St) :=
  match b with
  | .len => match ats, xs with
    | [t], [x] => match E.und t with
      | some (.slice _) => (lenS x).map fun n : Nat => (AV.sc (.int .i64 (n : Int)), S)
      | some .string => match x with
        | .sc (.string s) => some (.sc (.int .i64 s.size), S)
        | _ => none
      | some (.array n _) => some (.sc (.int .i64 n), S)
      | _ => none
    | _, _ => none
  | .append => match ats, xs with
    | [t, t1], [s, x] => match E.und t, E.und t1 with
      | some (.slice e), some (.slice _) => match E.inf e, x with
        | some i, .vec .. | some i, .sc (.slice ..) => appendA i s x S
        | _, _ => none
      | some (.slice e), some .string => match E.inf e, x with
        | some i, .sc (.string _) => appendA i s x S
        | _, _ => none
      | _, _ => none
    | _, _ => none
  | .min => match xs with
    | [.sc (.int k a), .sc (.int _ b)] => some (.sc (.int k (if b < a then b else a)), S)
    | _ => none
  | .max => match xs with
    | [.sc (.int k a), .sc (.int k' b)] => (peek E.P (Builtin.max2 (.int k a) (.int k' b))).map fun v => (ofV v, S)
    | _ => none
  | _ => none

def callA (E : Env) (call : CallFn) (tm : PM AV) (c : Call) (S : St) : Option (AV × St) :=
  match c.callee with
  | .value f => match fnOf (E.ev tm f) with
    | some (g, first, cap) => call g (first ++ c.args.toList.map (E.ev tm) ++ cap) S
    | none => none
  | .builtin b => builtinA E b c.argTypes.toList (c.args.toList.map (E.ev tm)) S
  | _ => none

def placesA (E : Env) : List Field → Option (List (Nat × Nat))
  | [] => some []
  | f :: r => match E.inf f.type, placesA E r with
    | some i, some l => some ((f.offset, i.size) :: l)
    | _, _ => none

def buildA (E : Env) (t : TypeId) (ps : List (Nat × AV)) (S : St) : Option (AV × St) :=
  match E.und t, E.inf t with
    | some (.struct fs), some i => match i.zero, placesA E fs.toList with
      | some z, some pl => (fillA (fun j => pl[j]?) (z.cells.toList.map .sc)
          ps).map fun cs => (.agg cs, S)
      | _, _ => none
    | some (.array _ e), some i => match i.zero, E.inf e with
      | some z, some ie => (fillA (fun j => some (j * ie.size, ie.size)) (z.cells.toList.map .sc)
          ps).map fun cs => (.agg cs, S)
      | _, _ => none
    | _, _ => none

def buildSliceA (E : Env) (t : TypeId) (len : Nat) (ps : List (Nat × AV)) (S : St) : Option (AV × St) :=
  match E.und t with
    | some (.slice e) => match E.und e, E.inf e with
      | some d, some i => match i.zero with
        | some z =>
          bif Nat.blt 0 i.size && Nat.beq z.cells.size i.size && Nat.ble (len * i.size) (2 ^ 24) && (isAggD d || Nat.beq i.size 1) then
            match fillA (fun j => some (j * i.size, i.size)) ((List.range (len * i.size)).map fun j => .sc (z.cells.getD (j % i.size) default)) ps with
            | some cs => bif cs.all okCell then some (.vec S.nid i.size (groups (isAggD d) i.size len cs), S.newId) else none
            | none => none
          else none
        | none => none
      | _, _ => none
    | _ => none

def loadA (E : Env) (t : TypeId) (x : AV) (S : St) : Option (AV × St) :=
  match x with
    | .ptr l off => match S.obj l with
      | some cs => (E.cutAt t cs off).map (·, S)
      | none => none
    | .eptr cs off => (E.cutAt t cs off).map (·, S)
    | _ => none

def storeA (E : Env) (t : TypeId) (x y : AV) (S : St) : Option (AV × St) :=
  match x, cellsOf y, E.inf t with
    | .ptr l off, some vs, some i => match S.obj l with
      | some cs => bif Nat.beq vs.length i.size && Nat.ble (off + vs.length) cs.length && vs.all okCell then
          some (passed, { S with objs := S.objs.set l (.cells (splice cs off vs)), wr := S.wr.set l (S.ver l + 1) }) else none
      | none => none
    | _, _, _ => none

def sliceA (E : Env) (t : TypeId) (x : AV) (lo hi : Option AV) (S : St) : Option (AV × St) :=
  match x with
    | .vec id sz xs => match E.und t, bounds xs.length lo hi with
      | some (.slice e), some (l, h) => match E.inf e with
        | some i => bif Nat.beq i.size sz then
            (bif Nat.beq l 0 && Nat.beq h xs.length then some (.vec id sz xs, S) else some (.vec 0 sz ((xs.drop l).take (h - l)), S)) else none
        | none => none
      | _, _ => none
    | .sc (.slice none 0 0) => match E.und t, bounds 0 lo hi with
      | some (.slice e), some _ => match E.inf e with
        | some _ => some (.sc (.slice none 0 0), S)
        | none => none
      | _, _ => none
    | .sc (.string s) => match E.und t, bounds s.size lo hi with
      | some .string, some (l, h) => some (.sc (.string (s.extract l h)), S)
      | _, _ => none
    | _ => none

/-- One operation. -/
def evOp (E : Env) (call : CallFn) (tm : PM AV) (o : Oper) (S : St) : Option (AV × St) :=
  match o.op with
  | .move x | .assign x => some (E.ev tm x, S)
  | .pick c a b => match E.ev tm c with
    | .sc (.bool t) => some (bif t then E.ev tm a else E.ev tm b, S)
    | _ => none
  | .alloc e => match E.inf e with
    | some i => match i.zero with
      | some z => some (.ptr S.no 0, S.newObj (z.cells.toList.map .sc))
      | none => none
    | none => none
  | .box _ x => match cellsOf (E.ev tm x) with
    | some cs => some (.ptr S.no 0, S.newObj cs)
    | none => none
  | .build t parts => buildA E t (parts.toList.map fun p => (p.1, E.ev tm p.2)) S
  | .buildSlice t len parts => buildSliceA E t len (parts.toList.map fun p => (p.1, E.ev tm p.2)) S
  | .load t a => loadA E t (E.ev tm a) S
  | .store t a x => storeA E t (E.ev tm a) (E.ev tm x) S
  | .nilCheck x => match E.ev tm x with
    | .ptr l off => some (.ptr l off, S)
    | .eptr cs off => some (.eptr cs off, S)
    | .fn (.func f) a b => some (.fn (.func f) a b, S)
    | .sc (.func (.func f) a b) => some (.sc (.func (.func f) a b), S)
    | _ => none
  | .binOp op t x y _ => match conc (E.ev tm x), conc (E.ev tm y) with
    | some a, some b => (peek E.P (do eqGuard op t x y a b; binOp op t a b)).map fun v => (ofV v, S)
    | _, _ => match E.und t with
      | some d => match op, eqNil d (E.ev tm x) (E.ev tm y) with
        | .eql, some r => some (.sc (.bool r), S)
        | .neq, some r => some (.sc (.bool (!r)), S)
        | _, _ => none
      | none => none
  | .unOp op _ x => match E.ev tm x with
    | .sc v => (peek E.P (Op.unary op v)).map fun r => (ofV r, S)
    | _ => none
  | .convert src dst x => convertA E src dst (E.ev tm x) S
  | .slice t x lo hi none => sliceA E t (E.ev tm x) (lo.map (E.ev tm)) (hi.map (E.ev tm)) S
  | .fieldAddr t x f => match E.und t, E.ev tm x with
    | some (.struct fs), .ptr l off => match fs[f]? with
      | some g => match E.inf g.type with
        | some i => bif Nat.beq i.size 0 then none else some (.ptr l (off + g.offset), S)
        | none => none
      | none => none
    | some (.struct fs), .eptr cs off => match fs[f]? with
      | some g => match E.inf g.type with
        | some i => bif Nat.beq i.size 0 then none else some (.eptr cs (off + g.offset), S)
        | none => none
      | none => none
    | _, _ => none
  | .field t x f => match E.und t, E.ev tm x with
    | some (.struct fs), .agg cs => match fs[f]? with
      | some g => (E.cutAt g.type cs g.offset).map (·, S)
      | none => none
    | _, _ => none
  | .indexAddr t x ix => match E.und t, E.ev tm x, int? (E.ev tm ix) with
    | some (.slice e), .vec _ sz xs, some i => match E.inf e with
      | some ie => bif decide (0 ≤ i) && Nat.beq ie.size sz then
          match xs[i.toNat]? with
          | some v => (cellsOf v).map fun cs => (.eptr cs 0, S)
          | none => none
        else none
      | none => none
    | some (.array n e), .ptr l off, some i => match E.inf e with
      | some ie => bif decide (0 ≤ i) && decide (i < (n : Int)) then some (.ptr l (off + i.toNat * ie.size), S) else none
      | none => none
    | some (.array n e), .eptr cs off, some i => match E.inf e with
      | some ie => bif decide (0 ≤ i) && decide (i < (n : Int)) then some (.eptr cs (off + i.toNat * ie.size), S) else none
      | none => none
    | _, _, _ => none
  | .index t x ix => match E.ev tm x, E.ev tm ix with
    | .sc (.string s), .sc i => (peek E.P (Instr.index t (.string s) i)).map fun v => (ofV v, S)
    | .agg cs, .sc (.int _ i) => match E.und t with
      | some (.array n e) => match E.inf e with
        | some ie => bif decide (0 ≤ i) && decide (i < (n : Int)) then (E.cutAt e cs (i.toNat * ie.size)).map (·, S) else none
        | none => none
      | _ => none
    | _, _ => none
  | .extract t ix => match E.ev tm t with
    | .tup vs => (vs[ix]?).map (·, S)
    | _ => none
  | .makeFunc f first cap => some (.fn f (first.toList.map (E.ev tm)) (cap.toList.map (E.ev tm)), S)
  | .makeInterface t x => match E.und t with
    | some (.interface _) => none
    | some _ => some (.ifc t (E.ev tm x), S)
    | none => none
  | .call c => callA E call tm c S
  | _ => none

/-- Does the operation come up? -/
def wantedA (ops : Array Oper) (tm : PM AV) (o : Oper) : Option Bool :=
  match o.guard with
  | none => some true
  | some (j, want) => match (ops[j]?).bind (·.dst) with
    | none => none
    | some t => match getT tm t with
      | .sc (.bool b) => some (b == want)
      | .sc (.tuple _) => some false
      | _ => none

def putA (nt : Nat) (dst : Option Tmp) (v : AV) (tm : PM AV) : Option (PM AV) :=
  match dst with
  | none => some tm
  | some d => bif Nat.blt d nt then some (tm.set d v) else none

/-- The operations of a region one after the other. -/
def evSeq (E : Env) (call : CallFn) (nt : Nat) (ops : Array Oper) : List Oper → PM AV → St → Option (PM AV × St)
  | [], tm, S => some (tm, S)
  | o :: rest, tm, S => match wantedA ops tm o with
    | none => none
    | some false => match putA nt o.dst passed tm with
      | some tm' => evSeq E call nt ops rest tm' S
      | none => none
    | some true => match evOp E call tm o S with
      | none => none
      | some (v, S') => match putA nt o.dst v tm with
        | some tm' => evSeq E call nt ops rest tm' S'
        | none => none

inductive Out where
  | nrm
  | exit (id : Nat)
  | ret

def iter (body : PM AV → St → Option (Out × PM AV × St)) : Nat → PM AV → St → Option (Out × PM AV × St)
  | 0, _, _ => none
  | k + 1, tm, S => match body tm S with
    | none => none
    | some (.nrm, tm', S') => iter body k tm' S'
    | some (.exit id, tm', S') => some (.exit id, tm', S')
    | some (.ret, tm', S') => some (.ret, tm', S')

def loud : Op → Bool
  | .alloc _ | .box .. | .buildSlice .. | .store .. => true
  | .call { callee := .builtin .len, .. } | .call { callee := .builtin .min, .. } | .call { callee := .builtin .max, .. } => false
  | .call _ => true
  | _ => false

/-- Which operations come ahead of which, as bits. -/
def maskOf (acc : PM Nat) : List Edge → Nat
  | [] => 0
  | e :: r => bif Region.binds .any e then (2 ^ e.on ||| (acc.get e.on).getD 0) ||| maskOf acc r else maskOf acc r
def masks : Nat → List Oper → PM Nat → PM Nat
  | _, [], acc => acc
  | i, o :: r, acc => masks (i + 1) r (acc.set i (maskOf acc o.after.toList))
def bit (m : PM Nat) (i d : Nat) : Bool := ((m.get i).getD 0).testBit d

/-- The temporaries that an operation names: its operands and its guard. -/
def namesOf (ops : Array Oper) (o : Oper) : List Tmp := o.looksAt ops

def pairOk (ops : Array Oper) (m : PM Nat) (i : Nat) (x : Oper) (j : Nat) (y : Oper) : Bool :=
  -- i < j: 'y' names what 'x' writes, or 'x' names what 'y' writes: then they are in order; two that are loud are in order; no two write the same
  (match x.dst with
   | some d => (bit m j i || !(namesOf ops y).contains d) && (match y.dst with | some d' => !Nat.beq d d' | none => true)
   | none => true) &&
  (match y.dst with
   | some d => bit m j i || !(namesOf ops x).contains d
   | none => true) &&
  (bit m j i || !(loud x.op && loud y.op))

def pairsOk (ops : Array Oper) (m : PM Nat) (i : Nat) (x : Oper) : Nat → List Oper → Bool
  | _, [] => true
  | j, y :: r => pairOk ops m i x j y && pairsOk ops m i x (j + 1) r
def allPairs (ops : Array Oper) (m : PM Nat) : Nat → List Oper → Bool
  | _, [] => true
  | i, x :: r => x.after.toList.all (fun e => !Region.binds .any e || Nat.blt e.on i) && pairsOk ops m i x (i + 1) r && allPairs ops m (i + 1) r

def loadsFrom (E : Env) (tm : PM AV) (o : Oper) : Option Nat :=
  match o.op with
  | .load _ a => match E.ev tm a with
    | .ptr l _ => some l
    | _ => none
  | _ => none

/-- The lexical walk of a region whose order is open; 'hist': the loud operations that came up, with the states ahead and behind; 'ls': what was loaded from, by whom. -/
def evDrawGo (E : Env) (call : CallFn) (nt : Nat) (ops : Array Oper) : Nat → List Oper → PM AV → St → Option (PM AV × St × List (Nat × St × St) × List (Nat × Nat))
  | _, [], tm, S => some (tm, S, [], [])
  | i, o :: rest, tm, S => match wantedA ops tm o with
    | none => none
    | some false => match putA nt o.dst passed tm with
      | some tm' => evDrawGo E call nt ops (i + 1) rest tm' S
      | none => none
    | some true => match evOp E call tm o S with
      | none => none
      | some (v, S') => match putA nt o.dst v tm with
        | some tm' => match evDrawGo E call nt ops (i + 1) rest tm' S' with
          | some (tm2, S2, hist, ls) => some (tm2, S2, (bif loud o.op then (i, S, S') :: hist else hist), (match loadsFrom E tm o with | some l => (i, l) :: ls | none => ls))
          | none => none
        | none => none

def loadOk (m : PM Nat) (hist : List (Nat × St × St)) (p : Nat × Nat) : Bool :=
  hist.all fun h => bit m p.1 h.1 || bit m h.1 p.1 || (Nat.blt p.2 h.2.1.no && Nat.beq (h.2.1.ver p.2) (h.2.2.ver p.2))

def evDraw (E : Env) (call : CallFn) (nt : Nat) (ops : Array Oper) (tm : PM AV) (S : St) : Option (PM AV × St) :=
  bif allPairs ops (masks 0 ops.toList .leaf) 0 ops.toList then
    match evDrawGo E call nt ops 0 ops.toList tm S with
    | some (tm', S', hist, ls) => bif ls.all (loadOk (masks 0 ops.toList .leaf) hist) then some (tm', S') else none
    | none => none
  else none

/-- The code of a function. -/
def evC (E : Env) (call : CallFn) (lf nt : Nat) : Code → PM AV → St → Option (Out × PM AV × St)
  | .skip, tm, S => some (.nrm, tm, S)
  | .label _, tm, S => some (.nrm, tm, S)
  | .region _ ops false, tm, S => match evSeq E call nt ops ops.toList tm S with
    | some (tm', S') => some (.nrm, tm', S')
    | none => none
  | .region _ ops true, tm, S => match evDraw E call nt ops tm S with
    | some (tm', S') => some (.nrm, tm', S')
    | none => none
  | .seq x y, tm, S => match evC E call lf nt x tm S with
    | some (.nrm, tm', S') => evC E call lf nt y tm' S'
    | r => r
  | .cond c x y, tm, S => match E.ev tm c with
    | .sc (.bool true) => evC E call lf nt x tm S
    | .sc (.bool false) => evC E call lf nt y tm S
    | _ => none
  | .block id c, tm, S => match evC E call lf nt c tm S with
    | some (.exit j, tm', S') => bif Nat.beq j id then some (.nrm, tm', S') else some (.exit j, tm', S')
    | r => r
  | .loop c, tm, S => iter (evC E call lf nt c) lf tm S
  | .scope c, tm, S => evC E call lf nt c tm S
  | .exit id, tm, S => some (.exit id, tm, S)
  | .ret, tm, S => some (.ret, tm, S)
  | _, _, _ => none

def initTm : Nat → List AV → PM AV → PM AV
  | _, [], tm => tm
  | i, a :: l, tm => initTm (i + 1) l (tm.set i a)

def resA (E : Env) (tm : PM AV) (S : St) : ResultVar → Option AV
  | .tmp t => some (getT tm t)
  | .cell x t => match getT tm x with
    | .ptr l off => match S.obj l with
      | some cs => E.cutAt t cs off
      | none => none
    | .eptr cs off => E.cutAt t cs off
    | _ => none
def resAll (E : Env) (tm : PM AV) (S : St) : List ResultVar → Option (List AV)
  | [] => some []
  | r :: l => match resA E tm S r, resAll E tm S l with
    | some v, some vs => some (v :: vs)
    | _, _ => none
def packA : List AV → AV
  | [v] => v
  | [] => passed
  | vs => .tup vs

def evF (E : Env) (lf : Nat) : Nat → CallFn
  | 0 => fun _ _ _ => none
  | n + 1 => fun f args S =>
    match E.fn f with
    | none => none
    | some fn => match E.X f with
      | some g => g args S
      | none => match fn.body with
        | none => none
        | some c => bif Nat.ble args.length fn.ntmps then
            match evC E (evF E lf n) lf fn.ntmps c (initTm 0 args .leaf) S with
            | some (.exit _, _, _) => none
            | some (_, tm, S') => (resAll E tm S' fn.results.toList).map fun vs => (packA vs, S')
            | none => none
          else none

end Go.Abs
