/-
  Variables of tables, plain: how two are held against each other.
-/
import Derived.Test.YtmmpcomfhcpicaaAbsC
import Derived.Lib.Bytealg
set_option linter.unusedSimpArgs false
set_option linter.unusedVariables false
set_option maxRecDepth 100000
namespace Go.Proofs.Ytmmpcomfhcpicaa
structure VarV where
  frm : Int
  to : Int
  name : ByteArray
  kind : Int
  n : Int
  typ : ByteArray
instance : Inhabited VarV := ⟨⟨0, 0, ⟨#[]⟩, 0, 0, ⟨#[]⟩⟩⟩
def encV (v : VarV) : List Value := [.int .i64 v.frm, .int .i64 v.to, .string v.name, .int .i64 v.kind, .int .i64 v.n, .string v.typ]
def varA (v : VarV) : List Abs.AV := [.sc (.int .i64 v.frm), .sc (.int .i64 v.to), .sc (.string v.name), .sc (.int .i64 v.kind), .sc (.int .i64 v.n), .sc (.string v.typ)]
theorem varA_eq (v : VarV) : varA v = (encV v).map .sc := rfl
def parseV : List Abs.AV → Option VarV
  | [.sc (.int .i64 a), .sc (.int .i64 b), .sc (.string c), .sc (.int .i64 d), .sc (.int .i64 e), .sc (.string f)] => some ⟨a, b, c, d, e, f⟩
  | _ => none
theorem parseV_eq (cs : List Abs.AV) (x : VarV) (h : parseV cs = some x) : cs = (encV x).map .sc := by
  unfold parseV at h
  split at h
  · simp only [Option.some.injEq] at h
    subst h
    rfl
  · cases h
theorem parseV_varA (x : VarV) : parseV (varA x) = some x := rfl
structure StopV where
  pc : Int
  at_ : Int
  line : Int
  col : Int
instance : Inhabited StopV := ⟨⟨0, 0, 0, 0⟩⟩
def stopA (s : StopV) : List Abs.AV := [.sc (.int .i64 s.pc), .sc (.int .i64 s.at_), .sc (.int .i64 s.line), .sc (.int .i64 s.col)]
def inB (n a b : Int) : Bool := decide (a ≤ n) && decide (n ≤ b)
def stopB (s : StopV) : Bool := inB s.pc 0 2147483647 && inB s.at_ 0 2147483647 && inB s.line 1 2147483647 && inB s.col 1 2147483647
def GoodStops (l : List StopV) : Prop := (∀ k (h : k < l.length), stopB l[k] = true ∧ (0 < k → l[k - 1].pc < l[k].pc)) ∧ l.length ≤ 10000
def varB (v : VarV) : Bool := inB v.frm 0 2147483647 && inB v.to 0 2147483647 && decide (v.frm < v.to) && inB v.name.size 1 4000 && inB v.kind 1 3 && inB v.n 0 65535 && decide (v.typ.size ≤ 4000000)
def GoodSorted (l : List VarV) : Prop := ∀ k (h : k < l.length), varB l[k] = true ∧ (0 < k → ¬ (l[k - 1].name.toList = l[k].name.toList ∧ l[k].frm < l[k - 1].to))
def cmpN (a b : ByteArray) : Int := Extern.BytealgCompare.cmp a b
def cmpI (a b : Int) : Int := if a < b then -1 else if b < a then 1 else 0
def cmpV (x y : VarV) : Int := if cmpN x.name y.name = 0 then cmpI x.frm y.frm else cmpN x.name y.name
theorem compareBytes_lt : ∀ a b : List UInt8, Lib.compareBytes a b = if a < b then -1 else if b < a then 1 else 0
  | [], [] => by simp [Lib.compareBytes]
  | [], _ :: _ => by simp [Lib.compareBytes]
  | _ :: _, [] => by simp [Lib.compareBytes]
  | x :: a, y :: b => by
    rw [Lib.compareBytes, compareBytes_lt a b]
    by_cases h1 : x < y
    · rw [if_pos h1, if_pos (List.cons_lt_cons_iff.2 (.inl h1))]
    · rw [if_neg h1]
      by_cases h2 : y < x
      · rw [if_pos h2, if_neg, if_pos (List.cons_lt_cons_iff.2 (.inl h2))]
        intro h
        rcases List.cons_lt_cons_iff.1 h with h | ⟨h, _⟩
        · exact h1 h
        · subst h; exact UInt8.lt_irrefl _ h2
      · rw [if_neg h2]
        have e : x = y := UInt8.le_antisymm (UInt8.not_lt.1 h2) (UInt8.not_lt.1 h1)
        subst e
        have e1 : (x :: a < x :: b) ↔ a < b := by
          rw [List.cons_lt_cons_iff]
          exact ⟨fun h => h.elim (fun h => absurd h h1) (·.2), fun h => .inr ⟨rfl, h⟩⟩
        have e2 : (x :: b < x :: a) ↔ b < a := by
          rw [List.cons_lt_cons_iff]
          exact ⟨fun h => h.elim (fun h => absurd h h1) (·.2), fun h => .inr ⟨rfl, h⟩⟩
        simp only [e1, e2]
theorem cmpN_lt (a b : ByteArray) : cmpN a b = if a.data.toList < b.data.toList then -1 else if b.data.toList < a.data.toList then 1 else 0 := by
  rw [cmpN, Lib.cmp_eq, compareBytes_lt]
end Go.Proofs.Ytmmpcomfhcpicaa
