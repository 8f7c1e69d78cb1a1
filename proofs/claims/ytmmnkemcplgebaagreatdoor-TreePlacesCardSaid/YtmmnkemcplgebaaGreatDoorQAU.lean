/-
  A calculus to prove what a function answers, whatever its arguments: the code is run by rewriting.
-/
import Derived.Test.YtmmnkemcplgebaaGreatDoorQAT
section
section
set_option linter.unusedSimpArgs false
set_option linter.unusedVariables false
namespace Go.Abs
noncomputable def EvA (E : Env) (f : FuncId) (args : List AV) (S : St) (r : AV) (S' : St) : Prop := ∃ N, ∀ lf n, N ≤ lf → N ≤ n → evF E lf n f args S = some (r, S')
inductive KI where
 | c (p : PC)
 | blk (id : Nat)
noncomputable def runK (E : Env) (call : CallFn) (lf nt : Nat) : List KI → Out → PM AV → St → Option (Out × PM AV × St)
 | [], o, tm, S => some (o, tm, S)
 | .c p :: k, .nrm, tm, S => match evP E call lf nt p tm S with
  | some (o, tm', S') => runK E call lf nt k o tm' S'
  | none => none
 | .c _ :: k, .exit j, tm, S => runK E call lf nt k (.exit j) tm S
 | .c _ :: k, .ret, tm, S => runK E call lf nt k .ret tm S
 | .blk _ :: k, .nrm, tm, S => runK E call lf nt k .nrm tm S
 | .blk id :: k, .exit j, tm, S => bif Nat.beq j id then runK E call lf nt k .nrm tm S else runK E call lf nt k (.exit j) tm S
 | .blk _ :: k, .ret, tm, S => runK E call lf nt k .ret tm S
abbrev PostA := Out → PM AV → St → Prop
noncomputable def EndsA (E : Env) (nt : Nat) (k : List KI) (o : Out) (tm : PM AV) (S : St) (Q : PostA) : Prop :=
 ∃ N o' tm' S', (∀ lf n, N ≤ lf → N ≤ n → runK E (evF E lf n) lf nt k o tm S = some (o', tm', S')) ∧ Q o' tm' S'
section
variable {E : Env} {nt : Nat} {k : List KI} {tm : PM AV} {S : St} {Q : PostA} {o : Out}
theorem ends_congr {k2 : List KI} {o2 : Out} {tm2 : PM AV} {S2 : St} (h : ∀ call lf, runK E call lf nt k o tm S = runK E call lf nt k2 o2 tm2 S2) : EndsA E nt k o tm S Q = EndsA E nt k2 o2 tm2 S2 Q := by
 simp only [EndsA, h]
theorem e_nil : EndsA E nt [] o tm S Q = Q o tm S := by
 refine propext ⟨?_, fun h => ⟨0, o, tm, S, fun _ _ _ _ => rfl, h⟩⟩
 rintro ⟨N, o', tm', S', h, hq⟩
 have := h N N (Nat.le_refl _) (Nat.le_refl _)
 simp only [runK, Option.some.injEq, Prod.mk.injEq] at this
 obtain ⟨rfl, rfl, rfl⟩ := this
 exact hq
theorem e_skip : EndsA E nt (.c .skip :: k) .nrm tm S Q = EndsA E nt k .nrm tm S Q := ends_congr fun _ _ => rfl
theorem e_exit (j : Nat) : EndsA E nt (.c (.exit j) :: k) .nrm tm S Q = EndsA E nt k (.exit j) tm S Q := ends_congr fun _ _ => rfl
theorem e_ret : EndsA E nt (.c .ret :: k) .nrm tm S Q = EndsA E nt k .ret tm S Q := ends_congr fun _ _ => rfl
theorem e_c_exit (p : PC) (j : Nat) : EndsA E nt (.c p :: k) (.exit j) tm S Q = EndsA E nt k (.exit j) tm S Q := ends_congr fun _ _ => rfl
theorem e_blk_nrm (j : Nat) : EndsA E nt (.blk j :: k) .nrm tm S Q = EndsA E nt k .nrm tm S Q := ends_congr fun _ _ => rfl
theorem e_blk_exit (id j : Nat) : EndsA E nt (.blk id :: k) (.exit j) tm S Q = if j = id then EndsA E nt k .nrm tm S Q else EndsA E nt k (.exit j) tm S Q := by
 by_cases h : j = id
 · rw [if_pos h]; exact ends_congr fun _ _ => by simp [runK, h]
 · rw [if_neg h]; exact ends_congr fun _ _ => by simp [runK, beqF h]
theorem e_pop_ret : EndsA E nt k .ret tm S Q = Q .ret tm S := by
 induction k with
 | nil => exact e_nil
 | cons a k ih => cases a <;> (rw [← ih]; exact ends_congr fun _ _ => rfl)
theorem e_seq (a b : PC) : EndsA E nt (.c (.seq a b) :: k) .nrm tm S Q = EndsA E nt (.c a :: .c b :: k) .nrm tm S Q := by
 refine ends_congr fun call lf => ?_
 simp only [runK, evP]
 cases evP E call lf nt a tm S with
 | none => rfl
 | some r =>
  obtain ⟨o, tm', S'⟩ := r
  cases o <;> rfl
theorem e_block (id : Nat) (a : PC) : EndsA E nt (.c (.block id a) :: k) .nrm tm S Q = EndsA E nt (.c a :: .blk id :: k) .nrm tm S Q := by
 refine ends_congr fun call lf => ?_
 simp only [runK, evP]
 cases evP E call lf nt a tm S with
 | none => rfl
 | some r =>
  obtain ⟨o, tm', S'⟩ := r
  cases o with
  | exit j => simp only [runK]; cases Nat.beq j id <;> rfl
  | _ => rfl
theorem e_reg_nil : EndsA E nt (.c (.reg []) :: k) .nrm tm S Q = EndsA E nt k .nrm tm S Q := ends_congr fun _ _ => rfl
theorem e_regD (n : Nat) (l : List POp) : EndsA E nt (.c (.regD n l) :: k) .nrm tm S Q = EndsA E nt (.c (.reg l) :: k) .nrm tm (S.raise n) Q := ends_congr fun _ _ => rfl
noncomputable def CondK (E : Env) (nt : Nat) (v : AV) (a b : PC) (k : List KI) (tm : PM AV) (S : St) (Q : PostA) : Prop :=
 match v with
 | .sc (.bool true) => EndsA E nt (.c a :: k) .nrm tm S Q
 | .sc (.bool false) => EndsA E nt (.c b :: k) .nrm tm S Q
 | _ => False
theorem not_ends_none (h : ∀ call lf, runK E call lf nt k o tm S = none) : EndsA E nt k o tm S Q = False := by
 refine propext ⟨?_, False.elim⟩
 rintro ⟨N, o', tm', S', h1, _⟩
 have := h1 N N (Nat.le_refl _) (Nat.le_refl _)
 rw [h] at this; cases this
theorem e_cond (c : Operand) (a b : PC) : EndsA E nt (.c (.cond c a b) :: k) .nrm tm S Q = CondK E nt (E.ev tm c) a b k tm S Q := by
 unfold CondK
 split
 · rename_i h; exact ends_congr fun _ _ => by simp only [runK, evP, h]
 · rename_i h; exact ends_congr fun _ _ => by simp only [runK, evP, h]
 · rename_i h1 h2
   refine not_ends_none fun call lf => ?_
   have : evP E call lf nt (.cond c a b) tm S = none := by
    simp only [evP]
   simp only [runK, this]
theorem condK_true (a b : PC) : CondK E nt (.sc (.bool true)) a b k tm S Q = EndsA E nt (.c a :: k) .nrm tm S Q := rfl
theorem condK_false (a b : PC) : CondK E nt (.sc (.bool false)) a b k tm S Q = EndsA E nt (.c b :: k) .nrm tm S Q := rfl
noncomputable def OpK (E : Env) (nt : Nat) (d : Option Tmp) (r : List POp) (k : List KI) (tm : PM AV) (Q : PostA) (v : Option (AV × St)) : Prop :=
 match v with
 | some (v, S) => EndsA E nt (.c (.reg r) :: k) .nrm (setD tm d v) S Q
 | none => False
theorem opK_some (d : Option Tmp) (r : List POp) (v : AV) : OpK E nt d r k tm Q (some (v, S)) = EndsA E nt (.c (.reg r) :: k) .nrm (setD tm d v) S Q := rfl
noncomputable def notCall : Op → Bool
 | .call { callee := .builtin _, .. } => true
 | .call _ => false
 | _ => true
noncomputable def opV (E : Env) (tm : PM AV) (d : Option Tmp) (op : Op) (S : St) : Option (AV × St) := evOp E (fun _ _ _ => none) tm (opOf d op) S
theorem opV_eq (call : CallFn) (d : Option Tmp) (op : Op) (h : notCall op = true) : evOp E call tm (opOf d op) S = opV E tm d op S := by
 unfold opV
 cases op with
 | call c =>
  obtain ⟨callee, args, ats⟩ := c
  cases callee with
  | builtin b => rfl
  | _ => simp [notCall] at h
 | slice t x lo hi mx => cases hi <;> cases mx <;> rfl
 | _ => rfl
theorem e_op (d : Option Tmp) (op : Op) (r : List POp) (h : notCall op = true) : EndsA E nt (.c (.reg (⟨d, op, none⟩ :: r)) :: k) .nrm tm S Q = OpK E nt d r k tm Q (opV E tm d op S) := by
 unfold OpK
 split
 · rename_i v S' hv
   exact ends_congr fun call lf => by simp only [runK, evP, evL, guardOf, opV_eq call d op h, hv]
 · rename_i hv
   exact not_ends_none fun call lf => by simp only [runK, evP, evL, guardOf, opV_eq call d op h, hv]
theorem eo_move {d : Option Tmp} {r : List POp} (x : Operand) : EndsA E nt (.c (.reg (⟨d, (.move x), none⟩ :: r)) :: k) .nrm tm S Q = OpK E nt d r k tm Q (opV E tm d (.move x) S) := e_op d _ r rfl
theorem eo_assign {d : Option Tmp} {r : List POp} (x : Operand) : EndsA E nt (.c (.reg (⟨d, (.assign x), none⟩ :: r)) :: k) .nrm tm S Q = OpK E nt d r k tm Q (opV E tm d (.assign x) S) := e_op d _ r rfl
theorem eo_pick {d : Option Tmp} {r : List POp} (x y z : Operand) : EndsA E nt (.c (.reg (⟨d, (.pick x y z), none⟩ :: r)) :: k) .nrm tm S Q = OpK E nt d r k tm Q (opV E tm d (.pick x y z) S) := e_op d _ r rfl
theorem eo_alloc {d : Option Tmp} {r : List POp} (t : TypeId) : EndsA E nt (.c (.reg (⟨d, (.alloc t), none⟩ :: r)) :: k) .nrm tm S Q = OpK E nt d r k tm Q (opV E tm d (.alloc t) S) := e_op d _ r rfl
theorem eo_box {d : Option Tmp} {r : List POp} (t : TypeId) (x : Operand) : EndsA E nt (.c (.reg (⟨d, (.box t x), none⟩ :: r)) :: k) .nrm tm S Q = OpK E nt d r k tm Q (opV E tm d (.box t x) S) := e_op d _ r rfl
theorem eo_build {d : Option Tmp} {r : List POp} (t : TypeId) (p : Array (Nat × Operand)) : EndsA E nt (.c (.reg (⟨d, (.build t p), none⟩ :: r)) :: k) .nrm tm S Q = OpK E nt d r k tm Q (opV E tm d (.build t p) S) := e_op d _ r rfl
theorem eo_buildSlice {d : Option Tmp} {r : List POp} (t : TypeId) (n : Nat) (p : Array (Nat × Operand)) : EndsA E nt (.c (.reg (⟨d, (.buildSlice t n p), none⟩ :: r)) :: k) .nrm tm S Q = OpK E nt d r k tm Q (opV E tm d (.buildSlice t n p) S) := e_op d _ r rfl
theorem eo_load {d : Option Tmp} {r : List POp} (t : TypeId) (x : Operand) : EndsA E nt (.c (.reg (⟨d, (.load t x), none⟩ :: r)) :: k) .nrm tm S Q = OpK E nt d r k tm Q (opV E tm d (.load t x) S) := e_op d _ r rfl
theorem eo_store {d : Option Tmp} {r : List POp} (t : TypeId) (x y : Operand) : EndsA E nt (.c (.reg (⟨d, (.store t x y), none⟩ :: r)) :: k) .nrm tm S Q = OpK E nt d r k tm Q (opV E tm d (.store t x y) S) := e_op d _ r rfl
theorem eo_nilCheck {d : Option Tmp} {r : List POp} (x : Operand) : EndsA E nt (.c (.reg (⟨d, (.nilCheck x), none⟩ :: r)) :: k) .nrm tm S Q = OpK E nt d r k tm Q (opV E tm d (.nilCheck x) S) := e_op d _ r rfl
theorem eo_bin {d : Option Tmp} {r : List POp} (b : BinOp) (t : TypeId) (x y : Operand) (u : TypeId) : EndsA E nt (.c (.reg (⟨d, (.binOp b t x y u), none⟩ :: r)) :: k) .nrm tm S Q = OpK E nt d r k tm Q (opV E tm d (.binOp b t x y u) S) := e_op d _ r rfl
theorem eo_un {d : Option Tmp} {r : List POp} (b : UnOp) (t : TypeId) (x : Operand) : EndsA E nt (.c (.reg (⟨d, (.unOp b t x), none⟩ :: r)) :: k) .nrm tm S Q = OpK E nt d r k tm Q (opV E tm d (.unOp b t x) S) := e_op d _ r rfl
theorem eo_convert {d : Option Tmp} {r : List POp} (t u : TypeId) (x : Operand) : EndsA E nt (.c (.reg (⟨d, (.convert t u x), none⟩ :: r)) :: k) .nrm tm S Q = OpK E nt d r k tm Q (opV E tm d (.convert t u x) S) := e_op d _ r rfl
theorem eo_slice {d : Option Tmp} {r : List POp} (t : TypeId) (x : Operand) (a b c : Option Operand) : EndsA E nt (.c (.reg (⟨d, (.slice t x a b c), none⟩ :: r)) :: k) .nrm tm S Q = OpK E nt d r k tm Q (opV E tm d (.slice t x a b c) S) := e_op d _ r rfl
theorem eo_makeSlice {d : Option Tmp} {r : List POp} (t : TypeId) (x y : Operand) : EndsA E nt (.c (.reg (⟨d, (.makeSlice t x y), none⟩ :: r)) :: k) .nrm tm S Q = OpK E nt d r k tm Q (opV E tm d (.makeSlice t x y) S) := e_op d _ r rfl
theorem eo_lookup {d : Option Tmp} {r : List POp} (t : TypeId) (x y : Operand) (b : Bool) : EndsA E nt (.c (.reg (⟨d, (.lookup t x y b), none⟩ :: r)) :: k) .nrm tm S Q = OpK E nt d r k tm Q (opV E tm d (.lookup t x y b) S) := e_op d _ r rfl
theorem eo_mapUpdate {d : Option Tmp} {r : List POp} (t : TypeId) (x y z : Operand) : EndsA E nt (.c (.reg (⟨d, (.mapUpdate t x y z), none⟩ :: r)) :: k) .nrm tm S Q = OpK E nt d r k tm Q (opV E tm d (.mapUpdate t x y z) S) := e_op d _ r rfl
theorem eo_makeMap {d : Option Tmp} {r : List POp} (t : TypeId) (x : Option Operand) : EndsA E nt (.c (.reg (⟨d, (.makeMap t x), none⟩ :: r)) :: k) .nrm tm S Q = OpK E nt d r k tm Q (opV E tm d (.makeMap t x) S) := e_op d _ r rfl
theorem eo_range {d : Option Tmp} {r : List POp} (t : TypeId) (x : Operand) : EndsA E nt (.c (.reg (⟨d, (.range t x), none⟩ :: r)) :: k) .nrm tm S Q = OpK E nt d r k tm Q (opV E tm d (.range t x) S) := e_op d _ r rfl
theorem eo_next {d : Option Tmp} {r : List POp} (x : Operand) (b : Bool) : EndsA E nt (.c (.reg (⟨d, (.next x b), none⟩ :: r)) :: k) .nrm tm S Q = OpK E nt d r k tm Q (opV E tm d (.next x b) S) := e_op d _ r rfl
theorem eo_fieldAddr {d : Option Tmp} {r : List POp} (t : TypeId) (x : Operand) (f : Nat) : EndsA E nt (.c (.reg (⟨d, (.fieldAddr t x f), none⟩ :: r)) :: k) .nrm tm S Q = OpK E nt d r k tm Q (opV E tm d (.fieldAddr t x f) S) := e_op d _ r rfl
theorem eo_field {d : Option Tmp} {r : List POp} (t : TypeId) (x : Operand) (f : Nat) : EndsA E nt (.c (.reg (⟨d, (.field t x f), none⟩ :: r)) :: k) .nrm tm S Q = OpK E nt d r k tm Q (opV E tm d (.field t x f) S) := e_op d _ r rfl
theorem eo_indexAddr {d : Option Tmp} {r : List POp} (t : TypeId) (x y : Operand) : EndsA E nt (.c (.reg (⟨d, (.indexAddr t x y), none⟩ :: r)) :: k) .nrm tm S Q = OpK E nt d r k tm Q (opV E tm d (.indexAddr t x y) S) := e_op d _ r rfl
theorem eo_index {d : Option Tmp} {r : List POp} (t : TypeId) (x y : Operand) : EndsA E nt (.c (.reg (⟨d, (.index t x y), none⟩ :: r)) :: k) .nrm tm S Q = OpK E nt d r k tm Q (opV E tm d (.index t x y) S) := e_op d _ r rfl
theorem eo_extract {d : Option Tmp} {r : List POp} (x : Operand) (f : Nat) : EndsA E nt (.c (.reg (⟨d, (.extract x f), none⟩ :: r)) :: k) .nrm tm S Q = OpK E nt d r k tm Q (opV E tm d (.extract x f) S) := e_op d _ r rfl
theorem eo_makeFunc {d : Option Tmp} {r : List POp} (f : Fn) (x y : Array Operand) : EndsA E nt (.c (.reg (⟨d, (.makeFunc f x y), none⟩ :: r)) :: k) .nrm tm S Q = OpK E nt d r k tm Q (opV E tm d (.makeFunc f x y) S) := e_op d _ r rfl
theorem eo_makeInterface {d : Option Tmp} {r : List POp} (t : TypeId) (x : Operand) : EndsA E nt (.c (.reg (⟨d, (.makeInterface t x), none⟩ :: r)) :: k) .nrm tm S Q = OpK E nt d r k tm Q (opV E tm d (.makeInterface t x) S) := e_op d _ r rfl
theorem eo_builtin {d : Option Tmp} {r : List POp} (b : Builtin) (x : Array Operand) (a : Array TypeId) : EndsA E nt (.c (.reg (⟨d, (.call { callee := .builtin b, args := x, argTypes := a }), none⟩ :: r)) :: k) .nrm tm S Q = OpK E nt d r k tm Q (opV E tm d (.call { callee := .builtin b, args := x, argTypes := a }) S) := e_op d _ r rfl
noncomputable def GuardK (E : Env) (nt : Nat) (g : AV) (want : Bool) (d : Option Tmp) (op : Op) (r : List POp) (k : List KI) (tm : PM AV) (S : St) (Q : PostA) : Prop :=
 match g with
 | .sc (.bool b) => if b = want then EndsA E nt (.c (.reg (⟨d, op, none⟩ :: r)) :: k) .nrm tm S Q else EndsA E nt (.c (.reg r) :: k) .nrm (setD tm d passed) S Q
 | .sc (.tuple _) => EndsA E nt (.c (.reg r) :: k) .nrm (setD tm d passed) S Q
 | _ => False
theorem e_guard (d : Option Tmp) (op : Op) (t : Tmp) (want : Bool) (r : List POp) : EndsA E nt (.c (.reg (⟨d, op, some (t, want)⟩ :: r)) :: k) .nrm tm S Q = GuardK E nt (getT tm t) want d op r k tm S Q := by
 unfold GuardK
 split
 · rename_i b hb
   split
   · rename_i h
     refine ends_congr fun call lf => ?_
     have : (b == want) = true := by simp [h]
     simp only [runK, evP, evL, guardOf, hb, this]
   · rename_i h
     refine ends_congr fun call lf => ?_
     have : (b == want) = false := by simpa using h
     simp only [runK, evP, evL, guardOf, hb, this]
 · rename_i hb
   exact ends_congr fun call lf => by simp only [runK, evP, evL, guardOf, hb]
 · rename_i h1 h2
   refine not_ends_none fun call lf => ?_
   have : guardOf tm (some (t, want)) = none := by
    simp only [guardOf]
   simp only [runK, evP, evL, this]
theorem guardK_same (b : Bool) (d : Option Tmp) (op : Op) (r : List POp) : GuardK E nt (.sc (.bool b)) b d op r k tm S Q = EndsA E nt (.c (.reg (⟨d, op, none⟩ :: r)) :: k) .nrm tm S Q := by simp [GuardK]
theorem guardK_tf (d : Option Tmp) (op : Op) (r : List POp) : GuardK E nt (.sc (.bool true)) false d op r k tm S Q = EndsA E nt (.c (.reg r) :: k) .nrm (setD tm d passed) S Q := by simp [GuardK]
theorem guardK_ft (d : Option Tmp) (op : Op) (r : List POp) : GuardK E nt (.sc (.bool false)) true d op r k tm S Q = EndsA E nt (.c (.reg r) :: k) .nrm (setD tm d passed) S Q := by simp [GuardK]
theorem guardK_passed (w : Bool) (d : Option Tmp) (op : Op) (r : List POp) : GuardK E nt passed w d op r k tm S Q = EndsA E nt (.c (.reg r) :: k) .nrm (setD tm d passed) S Q := rfl
noncomputable def CallK (E : Env) (nt : Nat) (f : FuncId) (args : List AV) (d : Option Tmp) (r : List POp) (k : List KI) (tm : PM AV) (S : St) (Q : PostA) : Prop :=
 ∃ N o' tm' S', (∀ lf n, N ≤ lf → N ≤ n → (match evF E lf n f args S with | some (v, S1) => runK E (evF E lf n) lf nt (.c (.reg r) :: k) .nrm (setD tm d v) S1 | none => none) = some (o', tm', S')) ∧ Q o' tm' S'
theorem callK_of {f : FuncId} {args : List AV} {d : Option Tmp} {r : List POp} {v : AV} {S1 : St} (h : EvA E f args S v S1) (h2 : EndsA E nt (.c (.reg r) :: k) .nrm (setD tm d v) S1 Q) : CallK E nt f args d r k tm S Q := by
 obtain ⟨N1, h1⟩ := h
 obtain ⟨N2, o', tm', S', h2, hq⟩ := h2
 refine ⟨max N1 N2, o', tm', S', fun lf n hl hn => ?_, hq⟩
 rw [h1 lf n (by omega) (by omega)]
 exact h2 lf n (by omega) (by omega)
theorem e_call (d : Option Tmp) (f : FuncId) (xs : Array Operand) (ats : Array TypeId) (r : List POp) (hx : E.ext f = none) : EndsA E nt (.c (.reg (⟨d, .call { callee := .value (.func f), args := xs, argTypes := ats }, none⟩ :: r)) :: k) .nrm tm S Q = CallK E nt f (xs.toList.map (E.ev tm)) d r k tm S Q := by
 have h : ∀ call lf, runK E call lf nt (.c (.reg (⟨d, .call { callee := .value (.func f), args := xs, argTypes := ats }, none⟩ :: r)) :: k) .nrm tm S =
  (match call f (xs.toList.map (E.ev tm)) S with | some (v, S1) => runK E call lf nt (.c (.reg r) :: k) .nrm (setD tm d v) S1 | none => none) := fun call lf => by
  have e : evOp E call tm (opOf d (.call { callee := .value (.func f), args := xs, argTypes := ats })) S = call f (xs.toList.map (E.ev tm)) S := by
   simp only [evOp, opOf, isMk, cond_false, evPlain, callA, Env.ev, fnOf, Array.isEmpty_empty, Bool.and_self, cond_true, hx, List.nil_append, List.append_nil]
  simp only [runK, evP, evL, guardOf, e]
  cases call f (xs.toList.map (E.ev tm)) S with
  | none => rfl
  | some r => rfl
 simp only [EndsA, CallK, h]
theorem e_callv (d : Option Tmp) (x : Operand) (xs : Array Operand) (ats : Array TypeId) (r : List POp) {g : FuncId} {first cap : List AV} (hf : fnOf (E.ev tm x) = some (g, first, cap)) (hx : E.ext g = none) :
 EndsA E nt (.c (.reg (⟨d, .call { callee := .value x, args := xs, argTypes := ats }, none⟩ :: r)) :: k) .nrm tm S Q = CallK E nt g (first ++ xs.toList.map (E.ev tm) ++ cap) d r k tm S Q := by
 have h : ∀ call lf, runK E call lf nt (.c (.reg (⟨d, .call { callee := .value x, args := xs, argTypes := ats }, none⟩ :: r)) :: k) .nrm tm S =
  (match call g (first ++ xs.toList.map (E.ev tm) ++ cap) S with | some (v, S1) => runK E call lf nt (.c (.reg r) :: k) .nrm (setD tm d v) S1 | none => none) := fun call lf => by
  have e : evOp E call tm (opOf d (.call { callee := .value x, args := xs, argTypes := ats })) S = call g (first ++ xs.toList.map (E.ev tm) ++ cap) S := by
   simp only [evOp, opOf, isMk, cond_false, evPlain, callA, hf, hx]
  simp only [runK, evP, evL, guardOf, e]
  cases call g (first ++ xs.toList.map (E.ev tm) ++ cap) S with
  | none => rfl
  | some r => rfl
 simp only [EndsA, CallK, h]
theorem e_ext (d : Option Tmp) (f : FuncId) (xs : Array Operand) (ats : Array TypeId) (r : List POp) {h : List AV → Option AV} {v : AV} (hx : E.ext f = some h) (hv : h (xs.toList.map (E.ev tm)) = some v) :
 EndsA E nt (.c (.reg (⟨d, .call { callee := .value (.func f), args := xs, argTypes := ats }, none⟩ :: r)) :: k) .nrm tm S Q = EndsA E nt (.c (.reg r) :: k) .nrm (setD tm d v) S Q := by
 refine ends_congr fun call lf => ?_
 have e : evOp E call tm (opOf d (.call { callee := .value (.func f), args := xs, argTypes := ats })) S = some (v, S) := by
  simp only [evOp, opOf, isMk, cond_false, evPlain, callA, Env.ev, fnOf, Array.isEmpty_empty, Bool.and_self, cond_true, hx, List.nil_append, List.append_nil, hv, Option.map_some]
 simp only [runK, evP, evL, guardOf, e]
theorem e_loop {c : PC} (I : PM AV → St → Nat → Prop) (n : Nat) (h0 : I tm S n)
 (hs : ∀ tm S n, I tm S n → EndsA E nt [.c c] .nrm tm S fun o tm' S' => match o with | .nrm => ∃ m, m < n ∧ I tm' S' m | o => EndsA E nt k o tm' S' Q) : EndsA E nt (.c (.loop c) :: k) .nrm tm S Q := by
 suffices key : ∃ N o2 tm2 S2, (∀ lf m r, N ≤ lf → N ≤ m → N ≤ r → (match iter (evP E (evF E lf m) lf nt c) r tm S with | some (o, tm', S') => runK E (evF E lf m) lf nt k o tm' S' | none => none) = some (o2, tm2, S2)) ∧ Q o2 tm2 S2 by
  obtain ⟨N, o2, tm2, S2, h1, hq⟩ := key
  exact ⟨N, o2, tm2, S2, fun lf n hl hn => h1 lf n lf hl hn hl, hq⟩
 induction n using Nat.strongRecOn generalizing tm S with
 | _ n ih =>
  obtain ⟨N, o', tm', S', h1, h2⟩ := hs tm S n h0
  have step : ∀ lf m, N ≤ lf → N ≤ m → evP E (evF E lf m) lf nt c tm S = some (o', tm', S') := fun lf m hl hm => by
   have := h1 lf m hl hm
   simp only [runK] at this
   revert this
   cases evP E (evF E lf m) lf nt c tm S with
   | none => intro h; cases h
   | some r => obtain ⟨a1, a2, a3⟩ := r; intro h; exact h
  cases o' with
  | nrm =>
   obtain ⟨m, hm, hI⟩ := h2
   obtain ⟨N2, o2, tm2, S2, h3, hq⟩ := ih m hm hI
   refine ⟨max N N2 + 1, o2, tm2, S2, fun lf n r hl hn hr => ?_, hq⟩
   obtain ⟨r', rfl⟩ : ∃ r', r = r' + 1 := ⟨r - 1, by omega⟩
   simp only [iter, step lf n (by omega) (by omega)]
   exact h3 lf n r' (by omega) (by omega) (by omega)
  | exit j =>
   obtain ⟨N2, o2, tm2, S2, h3, hq⟩ := h2
   refine ⟨max N N2 + 1, o2, tm2, S2, fun lf n r hl hn hr => ?_, hq⟩
   obtain ⟨r', rfl⟩ : ∃ r', r = r' + 1 := ⟨r - 1, by omega⟩
   simp only [iter, step lf n (by omega) (by omega)]
   exact h3 lf n (by omega) (by omega)
  | ret =>
   obtain ⟨N2, o2, tm2, S2, h3, hq⟩ := h2
   refine ⟨max N N2 + 1, o2, tm2, S2, fun lf n r hl hn hr => ?_, hq⟩
   obtain ⟨r', rfl⟩ : ∃ r', r = r' + 1 := ⟨r - 1, by omega⟩
   simp only [iter, step lf n (by omega) (by omega)]
   exact h3 lf n (by omega) (by omega)
theorem ev_of {f : FuncId} {fn : Func} {c : Code} {p : PC} {args : List AV} {r : AV} {S' : St} (hf : E.fn f = some fn) (hX : E.X f = none) (hb : fn.body = some c) (hp : comp E fn.ntmps c = p) (hn : Nat.ble args.length fn.ntmps = true)
 (h : EndsA E fn.ntmps [.c p] .nrm (initTm 0 args .leaf) S fun o tm S1 => (∀ j, o ≠ .exit j) ∧ ∃ vs, resAll E tm S1 fn.results.toList = some vs ∧ packA vs = r ∧ S1 = S') :
 EvA E f args S r S' := by
 obtain ⟨N, o', tm', S1, h1, ho, vs, h2, h3, h4⟩ := h
 subst h4
 refine ⟨N + 1, fun lf n hl hn' => ?_⟩
 obtain ⟨n', rfl⟩ : ∃ n', n = n' + 1 := ⟨n - 1, by omega⟩
 have h1 := h1 lf n' (by omega) (by omega)
 have he : evP E (evF E lf n') lf fn.ntmps p (initTm 0 args .leaf) S = some (o', tm', S1) := by
  simp only [runK] at h1
  revert h1
  cases evP E (evF E lf n') lf fn.ntmps p (initTm 0 args .leaf) S with
  | none => intro h; cases h
  | some r => obtain ⟨a1, a2, a3⟩ := r; intro h; exact h
 have hc := he
 rw [← hp] at hc
 have hc := comp_ok c _ _ _ hc
 simp only [evF, hf, hX, hb, hn, cond_true, hc]
 cases o' with
 | exit j => exact absurd rfl (ho j)
 | nrm => simp only [h2, Option.map_some, h3]
 | ret => simp only [h2, Option.map_some, h3]
end
end Go.Abs
end
end
