/-
  Ranges over texts, in the calculus; functions that answer the same whatever the state.
-/
import Derived.Test.YtpcgbkjdobjdaaaGreatDoorK1
import Derived.Lib.TrimU
set_option linter.unusedSimpArgs false
set_option linter.unusedVariables false
set_option maxRecDepth 100000
namespace Go.Abs
section
variable {E : Env} {tm : PM AV} {S : St} {d : Option Tmp}
noncomputable def St.bornIt (S : St) (s : ByteArray) : St := S.bearNext ⟨.siter s 0, none, fun n => .ptr n 0⟩
noncomputable def St.IsIt (S : St) (l : Nat) (s : ByteArray) (pos : Nat) : Prop := S.objs.get l = some (.siter s pos)
def isStrT (E : Env) (t : TypeId) : Bool := match E.und t with
  | some .string => true
  | _ => false
/-- A range over a text. -/
noncomputable def rangeS (x : AV) (S : St) : Option (AV × St) := match x with
  | .sc (.string s) => some (.ptr S.no 0, S.bornIt s)
  | _ => none
theorem op_rangeS (t : TypeId) (x : Operand) (h : isStrT E t = true) : opV E tm d (.range t x) S = rangeS (E.ev tm x) S := by
  have h1 : isMk E (opOf d (.range t x)) = true := rfl
  have hu : E.und t = some .string := by
    unfold isStrT at h
    split at h
    · assumption
    · cases h
  have h2 : mkOp E tm (opOf d (.range t x)) = (match E.ev tm x with | .sc (.string s) => some ⟨.siter s 0, none, fun n => .ptr n 0⟩ | _ => none) := by
    show (match E.und t, E.ev tm x with | some .string, .sc (.string s) => some (⟨.siter s 0, none, fun n => .ptr n 0⟩ : Mk) | _, _ => none) = _
    rw [hu]
    split
    · rename_i h3 h4; rw [h4]
    · rename_i h3
      split
      · rename_i s h4; exact absurd h4 (fun e => h3 s rfl e)
      · rfl
  simp only [opV, evOp, h1, cond_true, h2, rangeS]
  split <;> rfl
theorem op_next (x : Operand) (b : Bool) : opV E tm d (.next x b) S = nextA (E.ev tm x) b S := rfl
theorem next_it {l : Nat} {s : ByteArray} {pos : Nat} (h : S.IsIt l s pos) : nextA (.ptr l 0) true S = if pos < s.size then some (.tup [.sc (.bool true), .sc (.int .i64 (pos : Nat)), .sc (.int .i32 ((Utf8.decode s pos).1 : Nat))], S.put l (.siter s (pos + (Utf8.decode s pos).2))) else some (.tup [.sc (.bool false)], S) := by
  unfold St.IsIt at h
  simp only [nextA, h, PM.blt_eq, cond_eq_ite, decide_eq_true_eq]
theorem bornIt_is (s : ByteArray) : (S.bornIt s).IsIt S.no s 0 := by
  simp [St.IsIt, St.bornIt, St.bearNext, St.bear, PM.get_set]
theorem bornIt_no (s : ByteArray) : (S.bornIt s).no = S.no + 1 := rfl
theorem bornIt_obj (s : ByteArray) (l : Nat) (hl : l < S.no) : (S.bornIt s).obj l = S.obj l := by
  have : l ≠ S.no := by omega
  simp only [St.bornIt, St.bearNext, St.bear, St.obj, PM.get_set, this, if_false]
theorem put_it (l : Nat) (s : ByteArray) (pos : Nat) : (S.put l (.siter s pos)).IsIt l s pos := by
  simp [St.IsIt, St.put, PM.get_set]
theorem Grow.isIt {S2 : St} {x : AV} (g : Grow S S2 x) {l : Nat} {s : ByteArray} {pos : Nat} (h : S.IsIt l s pos) (hl : l < S.no) : S2.IsIt l s pos := by
  unfold St.IsIt at h ⊢
  rw [g.obj l hl]
  exact h
theorem Grow.bornIt {S0 : St} {x : AV} (g : Grow S0 S x) (s : ByteArray) : Grow S0 (S.bornIt s) x :=
  ⟨g.nid, g.sp, g.ity, Nat.le_succ_of_le g.no, fun l hl => by
    have : l ≠ S.no := by have := g.no; omega
    simp only [St.bornIt, St.bearNext, St.bear, PM.get_set, this, if_false]
    exact g.obj l hl, g.fresh, g.ver⟩
theorem put_obj_it (l m : Nat) (s : ByteArray) (pos : Nat) (h : m ≠ l) : (S.put l (.siter s pos)).obj m = S.obj m := by
  simp only [St.put, St.obj, PM.get_set, h, if_false]
end
section
variable {E : Env} {tm : PM AV} {S : St} {d : Option Tmp}
theorem lenStr {t : TypeId} (h : isStrT E t = true) (mu : Bool) (s : ByteArray) (S : St) : builtinA E mu .len [t] [.sc (.string s)] S = some (.sc (.int .i64 (s.size : Nat)), S) := by
  unfold isStrT at h
  split at h
  · rename_i h3
    simp only [builtinA, h3]
  · cases h
theorem sliceStr {t : TypeId} (h : isStrT E t = true) (s : ByteArray) {lo hi : Option AV} {a b : Nat} (hb : bounds s.size lo hi = some (a, b)) (S : St) : sliceA E t (.sc (.string s)) lo hi S = some (.sc (.string (s.extract a b)), S) := by
  unfold isStrT at h
  split at h
  · rename_i h3
    simp only [sliceA, h3, hb]
  · cases h
theorem peek_bindS {α β : Type} {P : Program} (s : Sem α) (k : α → Sem β) : peek P (s >>= k) = (peek P s).bind fun a => peek P (k a) := by
  show peek P (Sem.bind s k) = _
  induction s with
  | pure a => rfl
  | program k' ih => simp only [Sem.bind, peek]; exact ih P
  | mark m k' ih => simp only [Sem.bind, peek]; exact ih
  | _ => rfl
/-- A byte of a text. -/
noncomputable def idxS (x : AV) (i : Option Int) (S : St) : Option (AV × St) := match x, i with
  | .sc (.string s), some i => if 0 ≤ i ∧ i.toNat < s.size then some (.sc (.int .u8 ((s.data.toList.getD i.toNat 0).toNat : Nat)), S) else none
  | _, _ => none
theorem indexStr {t : TypeId} (h : isStrT E t = true) (hu : E.P.underlying t = some .string) (x y : Operand) (s : ByteArray) (i : Int) (hx : E.ev tm x = .sc (.string s)) (hy : E.ev tm y = .sc (.int .i64 i)) (hi : 0 ≤ i) (hl : i.toNat < s.size) :
    opV E tm d (.index t x y) S = some (.sc (.int .u8 ((s.data.toList.getD i.toNat 0).toNat : Nat)), S) := by
  have e : opV E tm d (.index t x y) S = (peek E.P (Instr.index t (.string s) (.int .i64 i))).map fun v => (ofV v, S) := by
    simp only [opV, evOp, opOf, isMk, cond_false, evPlain, hx, hy]
  have h2 : s[i.toNat]? = some s[i.toNat] := by simp [hl]
  have h3 : peek E.P (Instr.index t (.string s) (.int .i64 i)) = some (.int .u8 (s[i.toNat]).toNat) := by
    have hq : peek E.P program = some E.P := rfl
    have hu2 : peek E.P (underlying t) = some .string := by
      simp only [underlying, peek_bindS, hq, Option.bind_some, hu]
      rfl
    have hp : peek E.P (pure (IntKind.i64, i) : Sem (IntKind × Int)) = some (.i64, i) := rfl
    simp only [Instr.index, asIntOf, peek_bindS, hu2, hp, Option.bind_some, hi, if_true, h2]
    rfl
  rw [e, h3]
  have h4 : s.data.toList.getD i.toNat 0 = s[i.toNat] := by
    have : i.toNat < s.data.toList.length := by simpa using hl
    have h5 : s.data.toList[i.toNat]? = some (s.data.toList[i.toNat]) := List.getElem?_eq_getElem this
    rw [List.getD, h5]
    rfl
  rw [h4]
  rfl
end
/-- The runes of a text, from a place on: where each stands, what it is. -/
def runes (s : ByteArray) (pos : Nat) : List (Nat × Nat) := if h : pos < s.size then (pos, (Utf8.decode s pos).1) :: runes s (pos + (Utf8.decode s pos).2) else []
termination_by s.size - pos
decreasing_by have := Lib.width_pos s pos; omega
theorem runes_lt {s : ByteArray} {pos : Nat} (h : pos < s.size) : runes s pos = (pos, (Utf8.decode s pos).1) :: runes s (pos + (Utf8.decode s pos).2) := by
  rw [runes, dif_pos h]
theorem runes_ge {s : ByteArray} {pos : Nat} (h : ¬ pos < s.size) : runes s pos = [] := by
  rw [runes, dif_neg h]
theorem b_quo {E : Env} {S : St} (t : TypeId) (x y : Operand) (k : IntKind) (a b : Int) (h : b ≠ 0) : binGen E .quo t x y (.sc (.int k a)) (.sc (.int k b)) S = some (.sc (.int k (k.wrap (a.tdiv b))), S) := by
  have h2 : (b == 0) = false := by simpa using h
  simp only [binGen, conc, binOp, Op.intDiv, h, h2, if_false, ne_eq, not_true_eq_false]
  first | rfl | (simp [h]; rfl)
theorem b_nestr {E : Env} {S : St} (t : TypeId) (x y : Operand) (a b : ByteArray) : binGen E .neq t x y (.sc (.string a)) (.sc (.string b)) S = some (.sc (.bool (a.toList != b.toList)), S) := rfl
theorem eqIn_bool {P : Program} {t : TypeId} (h : P.underlying t = some .bool) (d : Nat) (a b : Bool) : peek P (Op.equalIn (d + 1) t (.bool a) (.bool b)) = some (a == b) := by
  have hq : peek P program = some P := rfl
  have hu2 : peek P (underlying t) = some .bool := by
    simp only [underlying, peek_bindS, hq, Option.bind_some, h]
    rfl
  simp only [Op.equalIn, peek_bindS, hu2, Option.bind_some]
  rfl
theorem eq_bool {P : Program} {t : TypeId} (h : P.underlying t = some .bool) (a b : Bool) : peek P (Op.equal t (.bool a) (.bool b)) = some (a == b) := eqIn_bool h 9999 a b
theorem b_eqbool {E : Env} {S : St} (t : TypeId) (h : E.P.underlying t = some .bool) (x y : Operand) (a b : Bool) : binGen E .eql t x y (.sc (.bool a)) (.sc (.bool b)) S = some (.sc (.bool (a == b)), S) := by
  have h1 : peek E.P (do eqGuard .eql t x y (.bool a) (.bool b); binOp .eql t (.bool a) (.bool b)) = some (.bool (a == b)) := by
    have hg : peek E.P (eqGuard .eql t x y (.bool a) (.bool b)) = some () := rfl
    rw [peek_bindS, hg]
    show peek E.P (Op.equal t (.bool a) (.bool b) >>= fun r => pure (Value.bool r)) = _
    rw [peek_bindS, eq_bool h]
    rfl
  simp only [binGen, conc, h1]
  rfl
theorem b_nebool {E : Env} {S : St} (t : TypeId) (h : E.P.underlying t = some .bool) (x y : Operand) (a b : Bool) : binGen E .neq t x y (.sc (.bool a)) (.sc (.bool b)) S = some (.sc (.bool (a != b)), S) := by
  have h1 : peek E.P (do eqGuard .neq t x y (.bool a) (.bool b); binOp .neq t (.bool a) (.bool b)) = some (.bool (a != b)) := by
    have hg : peek E.P (eqGuard .neq t x y (.bool a) (.bool b)) = some () := rfl
    rw [peek_bindS, hg]
    show peek E.P (Op.equal t (.bool a) (.bool b) >>= fun r => pure (Value.bool (!r))) = _
    rw [peek_bindS, eq_bool h]
    rfl
  simp only [binGen, conc, h1]
  rfl
/-- Whatever the state, this is answered, and nothing that was there is turned. -/
def Ans (E : Env) (f : FuncId) (args : List AV) (r : AV) : Prop := ∀ S : St, S.Fresh → ∃ S', EvA E f args S r S' ∧ Grow S S' nilV
section
variable {E : Env} {nt : Nat} {k : List KI} {tm : PM AV} {S S0 : St} {Q : PostA}
theorem callK_ans {f : FuncId} {args : List AV} {d : Option Tmp} {r : List POp} {v : AV} (h : Ans E f args v) (G : Grow S0 S nilV) (h2 : ∀ S1, Grow S S1 nilV → Grow S0 S1 nilV → EndsA E nt (.c (.reg r) :: k) .nrm (setD tm d v) S1 Q) : CallK E nt f args d r k tm S Q := by
  obtain ⟨S1, h1, g⟩ := h S G.fresh
  exact callK_of h1 (h2 S1 g (G.two g))
end
/-- A function that a contract answers. -/
theorem ev_x {E : Env} {f : FuncId} {fn : Func} {g : List AV → St → Option (AV × St)} {args : List AV} {S : St} {r : AV} {S' : St} (hf : E.fn f = some fn) (hX : E.X f = some g) (hg : g args S = some (r, S')) : EvA E f args S r S' := ⟨1, fun lf n _ hn => by
  cases n with
  | zero => omega
  | succ n => simp only [evF, hf, hX, hg]⟩
theorem condK_split {E : Env} {nt : Nat} {k : List KI} {tm : PM AV} {S : St} {Q : PostA} {b : Bool} {x y : PC} (h1 : b = true → CondK E nt (.sc (.bool true)) x y k tm S Q) (h2 : b = false → CondK E nt (.sc (.bool false)) x y k tm S Q) : CondK E nt (.sc (.bool b)) x y k tm S Q := by
  cases b with
  | true => exact h1 rfl
  | false => exact h2 rfl
theorem guardK_split {E : Env} {nt : Nat} {k : List KI} {tm : PM AV} {S : St} {Q : PostA} {b want : Bool} {d : Option Tmp} {op : Op} {r : List POp} (h1 : b = true → GuardK E nt (.sc (.bool true)) want d op r k tm S Q) (h2 : b = false → GuardK E nt (.sc (.bool false)) want d op r k tm S Q) : GuardK E nt (.sc (.bool b)) want d op r k tm S Q := by
  cases b with
  | true => exact h1 rfl
  | false => exact h2 rfl
/-- A function's answer out of its code. -/
theorem ans_of {E : Env} {f : FuncId} {args : List AV} {v : AV} (h : ∀ S : St, S.Fresh → ∃ r S', EvA E f args S r S' ∧ r = v ∧ Grow S S' nilV) : Ans E f args v := fun S hS => by
  obtain ⟨r, S', h1, rfl, g⟩ := h S hS
  exact ⟨S', h1, g⟩
end Go.Abs
