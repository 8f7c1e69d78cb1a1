/-
  The evaluator in a form that is lighter for the kernel: the same function.
-/
import Derived.Test.YtkmlbchfeiminaaGreatDoorAbs28
set_option linter.unusedSimpArgs false
set_option linter.unusedVariables false
namespace Go.Abs
noncomputable section
/-- Does the operation make an object? -/
def isMkF (op : Op) : Env → Option Tmp → Bool :=
  match op with
  | .alloc _ | .box .. | .makeMap .. | .range .. => fun _ _ => true
  | .makeSlice t _ _ | .buildSlice t _ _ => fun E d => E.hp t d
  | _ => fun _ _ => false
def mkAlloc (E : Env) (e : TypeId) : Option Mk := match E.inf e with
    | some i => match i.zero with
      | some z => some ⟨.cells (z.cells.toList.map .sc), some (e, z.cells.size), fun n => .ptr n 0⟩
      | none => none
    | none => none
def mkBox (e : TypeId) (x : AV) : Option Mk := match cellsOf x with
    | some cs => some ⟨.cells cs, some (e, cs.length), fun n => .ptr n 0⟩
    | none => none
def mkMap (E : Env) (t : TypeId) (x : AV) : Option Mk := match E.und t, int? x with
    | some (.map _ _), some _ => some ⟨.mp [], none, .mp⟩
    | _, _ => none
def mkRange (E : Env) (t : TypeId) (x : AV) : Option Mk := match E.und t, x with
    | some .string, .sc (.string s) => some ⟨.siter s 0, none, fun n => .ptr n 0⟩
    | _, _ => none
def mkSl (E : Env) (t : TypeId) (l c : AV) : Option Mk := match makeCells E t l c with
    | some (_, _, sz, n, _, cs) => some ⟨.cells cs, none, fun k => .osl k sz 0 n n⟩
    | none => none
def mkBs (E : Env) (t : TypeId) (len : Nat) (ps : List (Nat × AV)) : Option Mk := match buildCells E t len ps with
    | some (_, sz, cs) => some ⟨.cells cs, none, fun k => .osl k sz 0 len len⟩
    | none => none
def mkOpF (op : Op) : Env → PM AV → Option Mk :=
  match op with
  | .alloc e => fun E _ => mkAlloc E e
  | .box e x => fun E tm => mkBox e (E.ev tm x)
  | .makeMap _ none => fun _ _ => some ⟨.mp [], none, .mp⟩
  | .makeMap t (some r) => fun E tm => mkMap E t (E.ev tm r)
  | .range t x => fun E tm => mkRange E t (E.ev tm x)
  | .makeSlice t l c => fun E tm => mkSl E t (E.ev tm l) (E.ev tm c)
  | .buildSlice t len parts => fun E tm => mkBs E t len (parts.toList.map fun p => (p.1, E.ev tm p.2))
  | _ => fun _ _ => none
def evPick (c a b : AV) (S : St) : Option (AV × St) := match c with
  | .sc (.bool t) => some (bif t then a else b, S)
  | _ => none
def evNil (x : AV) (S : St) : Option (AV × St) := match x with
    | .ptr l off => some (.ptr l off, S)
    | .eptr cs off => some (.eptr cs off, S)
    | .fn (.func f) a b => some (.fn (.func f) a b, S)
    | .ifc t a => some (.ifc t a, S)
    | .sc (.func (.func f) a b) => some (.sc (.func (.func f) a b), S)
    | _ => none
def evBin (E : Env) (op : BinOp) (t : TypeId) (x y : Operand) (tm : PM AV) (S : St) : Option (AV × St) :=
  match conc (E.ev tm x), conc (E.ev tm y) with
    | some a, some b => (peek E.P (do eqGuard op t x y a b; binOp op t a b)).map fun v => (ofV v, S)
    | _, _ => match E.und t with
      | some d => match op, eqNil E d (E.ev tm x) (E.ev tm y) with
        | .eql, some r => some (.sc (.bool r), S)
        | .neq, some r => some (.sc (.bool (!r)), S)
        | _, _ => none
      | none => none
def evUn (E : Env) (op : UnOp) (x : AV) (S : St) : Option (AV × St) := match x with
    | .sc v => (peek E.P (Op.unary op v)).map fun r => (ofV r, S)
    | _ => none
def evFieldAddr (E : Env) (t : TypeId) (x : AV) (f : Nat) (S : St) : Option (AV × St) := match E.und t, x with
    | some (.struct fs), .ptr l off => match fs[f]? with
      | some g => match E.inf g.type with
        | some i => bif Nat.beq i.size 0 then none else some (.ptr l (off + g.offset), S)
        | none => none
      | none => none
    | some (.struct fs), .eptr cs off => match fs[f]? with
      | some g => match E.inf g.type with
        | some i => bif Nat.beq i.size 0 then none else some (.eptr cs (off + g.offset), S)
        | none => none
      | none => none
    | _, _ => none
def evField (E : Env) (t : TypeId) (x : AV) (f : Nat) (S : St) : Option (AV × St) := match E.und t, x with
    | some (.struct fs), .agg cs => match fs[f]? with
      | some g => (E.cutAt g.type cs g.offset).map (·, S)
      | none => none
    | _, _ => none
def evIndexAddr (E : Env) (t : TypeId) (x ix : AV) (S : St) : Option (AV × St) := match E.und t, x, int? ix with
    | some (.slice e), .vec _ sz xs, some i => match E.inf e with
      | some ie => bif decide (0 ≤ i) && Nat.beq ie.size sz then
          match xs[i.toNat]? with
          | some v => (cellsOf v).map fun cs => (.eptr cs 0, S)
          | none => none
        else none
      | none => none
    | some (.slice e), .osl l sz off len _, some i => match E.inf e with
      | some ie => bif decide (0 ≤ i) && decide (i < (len : Int)) && Nat.beq ie.size sz then some (.ptr l (off + i.toNat * sz), S) else none
      | none => none
    | some (.array n e), .ptr l off, some i => match E.inf e with
      | some ie => bif decide (0 ≤ i) && decide (i < (n : Int)) then some (.ptr l (off + i.toNat * ie.size), S) else none
      | none => none
    | some (.array n e), .eptr cs off, some i => match E.inf e with
      | some ie => bif decide (0 ≤ i) && decide (i < (n : Int)) then some (.eptr cs (off + i.toNat * ie.size), S) else none
      | none => none
    | _, _, _ => none
def evIndex (E : Env) (t : TypeId) (x ix : AV) (S : St) : Option (AV × St) := match x, ix with
    | .sc (.string s), .sc i => (peek E.P (Instr.index t (.string s) i)).map fun v => (ofV v, S)
    | .agg cs, .sc (.int _ i) => match E.und t with
      | some (.array n e) => match E.inf e with
        | some ie => bif decide (0 ≤ i) && decide (i < (n : Int)) then (E.cutAt e cs (i.toNat * ie.size)).map (·, S) else none
        | none => none
      | _ => none
    | _, _ => none
def evExtract (t : AV) (ix : Nat) (S : St) : Option (AV × St) := match t with
    | .tup vs => (vs[ix]?).map (·, S)
    | _ => none
def evIface (E : Env) (t : TypeId) (x : AV) (S : St) : Option (AV × St) := match E.und t with
    | some (.interface _) => none
    | some _ => some (.ifc t x, S)
    | none => none

/-- Numbers of one kind, reckoned at once. -/
def intF (op : BinOp) (k : IntKind) (a b : Int) : Option AV := match op with
  | .add => some (.sc (.int k (k.wrap (a + b))))
  | .sub => some (.sc (.int k (k.wrap (a - b))))
  | .eql => some (.sc (.bool (a == b)))
  | .neq => some (.sc (.bool (a != b)))
  | .lss => some (.sc (.bool (decide (a < b))))
  | .leq => some (.sc (.bool (decide (a ≤ b))))
  | .gtr => some (.sc (.bool (decide (b < a))))
  | .geq => some (.sc (.bool (decide (b ≤ a))))
  | _ => none
def sameK (k k' : IntKind) : Bool := Nat.beq k.ctorIdx k'.ctorIdx
def evBinK (E : Env) (op : BinOp) (t : TypeId) (x y : Operand) (tm : PM AV) (S : St) : Option (AV × St) := match E.ev tm x, E.ev tm y with
  | .sc (.int k a), .sc (.int k' b) => bif sameK k k' then (match intF op k a b with
    | some v => some (v, S)
    | none => evBin E op t x y tm S) else evBin E op t x y tm S
  | _, _ => evBin E op t x y tm S
theorem sameK_eq {k k' : IntKind} (h : sameK k k' = true) : k = k' := by
  cases k <;> cases k' <;> first | rfl | cases h
theorem evBinK_eq (E : Env) (op : BinOp) (t : TypeId) (x y : Operand) (tm : PM AV) (S : St) : evBinK E op t x y tm S = evBin E op t x y tm S := by
  unfold evBinK
  split
  · rename_i k a k' b hx hy
    cases hk : sameK k k' with
    | false => rfl
    | true =>
      have := sameK_eq hk
      subst this
      rw [cond_true]
      split
      · rename_i v hv
        have h1 : peek E.P (do eqGuard op t x y (.int k a) (.int k b); binOp op t (.int k a) (.int k b)) = peek E.P (binOp op t (.int k a) (.int k b)) := by
          cases op <;> rfl
        unfold evBin
        rw [hx, hy]
        simp only [conc, h1]
        cases op <;> simp only [intF, Option.some.injEq, reduceCtorEq] at hv <;> (subst hv; simp only [binOp, ne_eq, not_true_eq_false, if_false]; rfl)
      · rfl
  · rfl

/-- A part of a text, off its list. -/
def cutS (s : ByteArray) (l h : Nat) : ByteArray := ⟨⟨bif Nat.beq h s.data.toList.length then s.data.toList.drop l else (s.data.toList.drop l).take (h - l)⟩⟩
theorem cutS_eq (s : ByteArray) (l h : Nat) : cutS s l h = s.extract l h := by
  have h1 : (s.extract l h).data.toList = (s.data.toList.drop l).take (h - l) := by
    rw [ByteArray.data_extract, Array.toList_extract, List.extract_eq_take_drop]
  have h2 : (cutS s l h).data.toList = (s.data.toList.drop l).take (h - l) := by
    unfold cutS
    cases hb : Nat.beq h s.data.toList.length with
    | false => rfl
    | true =>
      have := Nat.eq_of_beq_eq_true hb
      show s.data.toList.drop l = _
      rw [List.take_of_length_le]
      rw [List.length_drop]
      omega
  have h3 : (cutS s l h).data = (s.extract l h).data := Array.toList_inj.1 (h2.trans h1.symm)
  cases hx : cutS s l h with
  | mk d1 => cases hy : s.extract l h with
    | mk d2 => rw [hx, hy] at h3; exact congrArg _ h3
def sliceK (E : Env) (t : TypeId) (x : AV) (lo hi : Option AV) (S : St) : Option (AV × St) := match x with
  | .sc (.string s) => match E.und t, bounds s.size lo hi with
    | some .string, some (l, h) => some (.sc (.string (cutS s l h)), S)
    | _, _ => none
  | _ => sliceA E t x lo hi S
theorem sliceK_eq (E : Env) (t : TypeId) (x : AV) (lo hi : Option AV) (S : St) : sliceK E t x lo hi S = sliceA E t x lo hi S := by
  unfold sliceK
  split
  · simp only [cutS_eq]
    rfl
  · rfl
def evPlainF (op : Op) : Env → CallFn → PM AV → Option Tmp → St → Option (AV × St) :=
  match op with
  | .move x | .assign x => fun E _ tm _ S => some (E.ev tm x, S)
  | .pick c a b => fun E _ tm _ S => evPick (E.ev tm c) (E.ev tm a) (E.ev tm b) S
  | .build t parts => fun E _ tm _ S => buildA E t (parts.toList.map fun p => (p.1, E.ev tm p.2)) S
  | .buildSlice t len parts => fun E _ tm _ S => buildSliceA E t len (parts.toList.map fun p => (p.1, E.ev tm p.2)) S
  | .load t a => fun E _ tm _ S => loadA E t (E.ev tm a) S
  | .store t a x => fun E _ tm _ S => storeA E t (E.ev tm a) (E.ev tm x) S
  | .nilCheck x => fun E _ tm _ S => evNil (E.ev tm x) S
  | .binOp op t x y _ => fun E _ tm _ S => evBinK E op t x y tm S
  | .unOp op _ x => fun E _ tm _ S => evUn E op (E.ev tm x) S
  | .convert src dst x => fun E _ tm d S => convertA E (E.hp dst d) src dst (E.ev tm x) S
  | .slice t x lo hi none => fun E _ tm _ S => sliceK E t (E.ev tm x) (lo.map (E.ev tm)) (hi.map (E.ev tm)) S
  | .slice t x lo (some hi) (some mx) => fun E _ tm _ S => slice3A E t (E.ev tm x) (lo.map (E.ev tm)) (E.ev tm hi) (E.ev tm mx) S
  | .makeSlice t l c => fun E _ tm _ S => makeSliceA E t (E.ev tm l) (E.ev tm c) S
  | .lookup t x ix ok => fun E _ tm _ S => lookupA E t (E.ev tm x) (E.ev tm ix) ok S
  | .mapUpdate t m k x | .insert t m k x => fun E _ tm _ S => mapUpdateA E t (E.ev tm m) (E.ev tm k) (E.ev tm x) S
  | .next it isString => fun E _ tm _ S => nextA (E.ev tm it) isString S
  | .fieldAddr t x f => fun E _ tm _ S => evFieldAddr E t (E.ev tm x) f S
  | .field t x f => fun E _ tm _ S => evField E t (E.ev tm x) f S
  | .indexAddr t x ix => fun E _ tm _ S => evIndexAddr E t (E.ev tm x) (E.ev tm ix) S
  | .index t x ix => fun E _ tm _ S => evIndex E t (E.ev tm x) (E.ev tm ix) S
  | .extract t ix => fun E _ tm _ S => evExtract (E.ev tm t) ix S
  | .makeFunc f first cap => fun E _ tm _ S => some (.fn f (first.toList.map (E.ev tm)) (cap.toList.map (E.ev tm)), S)
  | .makeInterface t x => fun E _ tm _ S => evIface E t (E.ev tm x) S
  | .call c => fun E call tm d S => callA E (E.hp (c.argTypes.getD 0 0) d) call tm c S
  | _ => fun _ _ _ _ _ => none

theorem isMkF_eq (E : Env) (o : Oper) : isMkF o.op E o.dst = isMk E o := by
  obtain ⟨dst, op, ty, pos, after, guard⟩ := o
  cases op <;> rfl
theorem mkOpF_eq (E : Env) (tm : PM AV) (o : Oper) : mkOpF o.op E tm = mkOp E tm o := by
  obtain ⟨dst, op, ty, pos, after, guard⟩ := o
  cases op with
  | makeMap t r => cases r <;> rfl
  | _ => rfl
theorem evPlainF_eq (E : Env) (call : CallFn) (tm : PM AV) (o : Oper) (S : St) : evPlainF o.op E call tm o.dst S = evPlain E call tm o S := by
  obtain ⟨dst, op, ty, pos, after, guard⟩ := o
  cases op with
  | slice t x lo hi mx =>
    cases mx with
    | none => exact sliceK_eq E t _ _ _ S
    | some m => cases hi <;> rfl
  | binOp op t x y u => exact evBinK_eq E op t x y tm S
  | _ => rfl

def seqStep (E : Env) (call : CallFn) (nt : Nat) (ops : Array Oper) (o : Oper) (ih : PM AV → St → Option (PM AV × St)) (tm : PM AV) (S : St) : Option (PM AV × St) :=
  match wantedA ops tm o with
  | none => none
  | some false => match putA nt o.dst passed tm with
    | some tm' => ih tm' S
    | none => none
  | some true => match (bif isMkF o.op E o.dst then (mkOpF o.op E tm).map fun m => (m.val S.no, S.bearNext m) else evPlainF o.op E call tm o.dst S) with
    | none => none
    | some (v, S') => match putA nt o.dst v tm with
      | some tm' => ih tm' S'
      | none => none
def evSeqK (E : Env) (call : CallFn) (nt : Nat) (ops : Array Oper) (l : List Oper) : PM AV → St → Option (PM AV × St) :=
  List.rec (motive := fun _ => PM AV → St → Option (PM AV × St)) (fun tm S => some (tm, S)) (fun o _ ih => seqStep E call nt ops o ih) l
theorem evSeqK_eq (E : Env) (call : CallFn) (nt : Nat) (ops : Array Oper) : ∀ (l : List Oper) (tm : PM AV) (S : St), evSeqK E call nt ops l tm S = evSeq E call nt ops l tm S
  | [], _, _ => rfl
  | o :: r, tm, S => by
    have ih := evSeqK_eq E call nt ops r
    show seqStep E call nt ops o (evSeqK E call nt ops r) tm S = _
    have : evSeqK E call nt ops r = evSeq E call nt ops r := funext fun tm => funext fun S => ih tm S
    rw [this]
    unfold seqStep
    rw [isMkF_eq, mkOpF_eq, evPlainF_eq, evSeq]
    rfl

def seqC (M : Code → Option Run) (x y : Code) (ihx ihy : Run) : Run := fun tm S => match M (.seq x y) with
  | some r => r tm S
  | none => match ihx tm S with
    | some (.nrm, tm', S') => ihy tm' S'
    | r => r
def condC (E : Env) (c : Operand) (ihx ihy : Run) : Run := fun tm S => match E.ev tm c with
  | .sc (.bool true) => ihx tm S
  | .sc (.bool false) => ihy tm S
  | _ => none
def blockC (id : Nat) (ih : Run) : Run := fun tm S => match ih tm S with
  | some (.exit j, tm', S') => bif Nat.beq j id then some (.nrm, tm', S') else some (.exit j, tm', S')
  | r => r
def iterStep (body ih : Run) : Run := fun tm S => match body tm S with
  | none => none
  | some (.nrm, tm', S') => ih tm' S'
  | some (.exit id, tm', S') => some (.exit id, tm', S')
  | some (.ret, tm', S') => some (.ret, tm', S')
def iterK (body : Run) (k : Nat) : Run := Nat.rec (motive := fun _ => Run) (fun _ _ => none) (fun _ ih => iterStep body ih) k
theorem iterK_eq (body : Run) : ∀ k, iterK body k = iter body k
  | 0 => rfl
  | k + 1 => by
    funext tm S
    show iterStep body (iterK body k) tm S = _
    rw [iterK_eq body k]
    unfold iterStep
    rw [iter]
    rfl
def regC (E : Env) (call : CallFn) (nt : Nat) (ops : Array Oper) (draw : Bool) : Run := match draw with
  | false => fun tm S => match evSeqK E call nt ops ops.toList tm S with
    | some (tm', S') => some (.nrm, tm', S')
    | none => none
  | true => fun tm S => match evDraw E call nt ops tm S with
    | some (tm', S') => some (.nrm, tm', S')
    | none => none
def evCK (M : Code → Option Run) (E : Env) (call : CallFn) (lf nt : Nat) (c : Code) : Run :=
  Code.rec (motive := fun _ => Run)
    (fun tm S => some (.nrm, tm, S))
    (fun _ ops draw => regC E call nt ops draw)
    (fun x y ihx ihy => seqC M x y ihx ihy)
    (fun c _ _ ihx ihy => condC E c ihx ihy)
    (fun id _ ih => blockC id ih)
    (fun _ ih => iterK ih lf)
    (fun _ _ _ _ _ _ _ _ => none)
    (fun id tm S => some (.exit id, tm, S))
    (fun _ ih => ih)
    (fun _ tm S => some (.nrm, tm, S))
    (fun _ _ _ => none)
    (fun tm S => some (.ret, tm, S))
    (fun _ _ _ => none) c
theorem evCK_eq (M : Code → Option Run) (E : Env) (call : CallFn) (lf nt : Nat) : ∀ c : Code, evCK M E call lf nt c = evC M E call lf nt c := by
  intro c
  induction c with
  | region id ops draw =>
    funext tm S
    cases draw with
    | false =>
      show (match evSeqK E call nt ops ops.toList tm S with | some (tm', S') => some (Out.nrm, tm', S') | none => none) = _
      rw [evSeqK_eq, evC]
      rfl
    | true => rw [evC]; rfl
  | seq x y ihx ihy =>
    funext tm S
    show seqC M x y (evCK M E call lf nt x) (evCK M E call lf nt y) tm S = _
    rw [ihx, ihy, evC]
    rfl
  | cond c x y ihx ihy =>
    funext tm S
    show condC E c (evCK M E call lf nt x) (evCK M E call lf nt y) tm S = _
    rw [ihx, ihy, evC]
    rfl
  | block id c ih =>
    funext tm S
    show blockC id (evCK M E call lf nt c) tm S = _
    rw [ih, evC]
    rfl
  | loop c ih =>
    funext tm S
    show iterK (evCK M E call lf nt c) lf tm S = _
    rw [ih, iterK_eq, evC]
  | scope c ih =>
    funext tm S
    show evCK M E call lf nt c tm S = _
    rw [ih, evC]
  | _ => funext tm S; first | rfl | (rw [evC]; rfl) | simp [evC, evCK]
def mac1K (E : Env) (call : CallFn) (lf nt : Nat) (s : Code) : Option Run := match mapStmt s with
  | some m => some (macA E call nt m (evCK mac0 E call lf nt m.body))
  | none => none
theorem mac1K_eq (E : Env) (call : CallFn) (lf nt : Nat) : mac1K E call lf nt = mac1 E call lf nt := by
  funext s
  unfold mac1K mac1
  simp only [evCK_eq]
  rfl
def fnStep (E : Env) (lf : Nat) (call : CallFn) : CallFn := fun f args S =>
    match E.fn f with
    | none => none
    | some fn => match E.X f with
      | some g => g args S
      | none => match fn.body with
        | none => none
        | some c => bif Nat.ble args.length fn.ntmps then
            match evCK (mac1K E call lf fn.ntmps) E call lf fn.ntmps c (initTm 0 args .leaf) S with
            | some (.exit _, _, _) => none
            | some (_, tm, S') => (resAll E tm S' fn.results.toList).map fun vs => (packA vs, S')
            | none => none
          else none
def evFK (E : Env) (lf : Nat) (n : Nat) : CallFn := Nat.rec (motive := fun _ => CallFn) (fun _ _ _ => none) (fun _ ih => fnStep E lf ih) n
theorem evFK_eq (E : Env) (lf : Nat) : ∀ n, evFK E lf n = evF E lf n
  | 0 => by funext f args S; rfl
  | n + 1 => by
    funext f args S
    show fnStep E lf (evFK E lf n) f args S = _
    rw [evFK_eq E lf n]
    unfold fnStep
    rw [evF]
    simp only [mac1K_eq, evCK_eq]
    rfl
theorem saysTrueK {E : Env} {lf n : Nat} {f : FuncId} {args : List AV} {S : St} (h : saysTrue (evFK E lf n f args S) = true) : saysTrue (evF E lf n f args S) = true := by rw [← evFK_eq]; exact h
end
end Go.Abs
