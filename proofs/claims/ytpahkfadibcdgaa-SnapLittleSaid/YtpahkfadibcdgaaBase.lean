/-
  What every law of this seat wants: slices cut, strings, the way from the evaluator to the model.
-/
import Derived.Test.YtpahkfadibcdgaaSnap1
import Derived.Test.YtpahkfadibcdgaaBits2
import Derived.Test.YtpahkfadibcdgaaArgB
import Derived.ProofKit
import Derived.OpenShut
import Derived.ChangeOld
set_option linter.unusedSimpArgs false
set_option linter.unusedVariables false
namespace Go.Proofs.Ytpahkfadibcdgaa
section
open Go.Abs
theorem bounds_loK {n a : Nat} (k : IntKind) (h : a ≤ n) : bounds n (some (.sc (.int k (a : Int)))) none = some (a, n) := by simp [bounds, int?, h]
theorem bounds_hiK {n b : Nat} (k : IntKind) (h : b ≤ n) : bounds n none (some (.sc (.int k (b : Int)))) = some (0, b) := by simp [bounds, int?, h]

theorem tailB {x : AV} {l : List UInt8} (h : IsV 1 x (byteVals l)) (k : IntKind) (a : Nat) (ha : a ≤ l.length) : (∀ S, sliceA E 22 x (some (.sc (.int k (a : Int)))) none S = some (subV x a l.length, S)) ∧ IsV 1 (subV x a l.length) (byteVals (l.drop a)) := by
  refine ⟨fun S => h.slice sl22 (by rw [bounds_loK k (by rw [byteVals_length]; exact ha), byteVals_length]) S, ?_⟩
  have := h.subB a l.length (Nat.le_refl _)
  rwa [List.take_of_length_le (by simp)] at this
theorem headB {x : AV} {l : List UInt8} (h : IsV 1 x (byteVals l)) (k : IntKind) (a : Nat) (ha : a ≤ l.length) : (∀ S, sliceA E 22 x none (some (.sc (.int k (a : Int)))) S = some (subV x 0 a, S)) ∧ IsV 1 (subV x 0 a) (byteVals (l.take a)) := by
  refine ⟨fun S => h.slice sl22 (bounds_hiK k (by rw [byteVals_length]; exact ha)) S, ?_⟩
  have := h.subB 0 a ha
  simpa using this

theorem bytesOf_vals : ∀ l : List UInt8, bytesOf? (byteVals l) = some l
  | [] => rfl
  | c :: r => by
    have := bytesOf_vals r
    simp only [byteVals, List.map_cons] at this ⊢
    simp [bytesOf?, this]
theorem nilStr (mu : Bool) (S : St) : convertA E mu 22 9 (.sc (.slice none 0 0)) S = some (.sc (.string ⟨#[]⟩), S) := by kernel_rfl
theorem strB {y : AV} {l : List UInt8} (h : IsV 1 y (byteVals l)) (mu : Bool) (S : St) : convertA E mu 22 9 y S = some (.sc (.string ⟨l.toArray⟩), S) := by
  rcases h with ⟨rfl, e⟩ | ⟨id, rfl⟩
  · cases l with
    | nil => exact nilStr mu S
    | cons c r => simp [byteVals] at e
  · have h1 : isStrBytes E 22 9 = false := by kernel_rfl
    have h2 : E.und 9 = some .string := by kernel_rfl
    have h3 : isU8 (E.und 5) = true := by kernel_rfl
    simp only [convertA, h1, cond_false, und22, h2, h3, Bool.true_and, show Nat.beq 1 1 = true from rfl, cond_true, bytesOf_vals, Option.map_some]
end
open Go.ChangeShapes Go.WideShapes Go.ChangeAt Go.RowKit
theorem own : ownKnob Try.prog.godebug = none := by kernel_rfl
theorem names : Try.prog.funcs.toList.all (fun x => x.name != "runtime.NumGoroutine") = true := by kernel_rfl
theorem mixed : Try.prog.follows .mixedOrders = true := by kernel_rfl
theorem laidOut : laidOutB Try.prog = true := by kernel_rfl
theorem ty22 : Try.prog.underlying 22 = some (.slice 5) := by kernel_rfl
theorem ty5 : Try.prog.underlying 5 = some (.int .u8) := by kernel_rfl
theorem ty4 : Try.prog.underlying 4 = some .bool := by kernel_rfl
theorem cells5 : Try.prog.cellsOf 5 = 1 := by kernel_rfl
theorem run_ev {f : FuncId} {args : List Abs.AV} {vs : Array Value} {w : World} {r : Abs.AV} {S' : Abs.St} {u : Value} (hl : Abs.LR (Abs.C0 w) w args vs.toList) (h : Abs.EvA E f args Abs.S0 r S') (hr : r = .sc u) : Calls Try.prog f vs w fun e w' => e = .returned u ∧ Below w.heap.size w w' := by
  obtain ⟨N, h⟩ := h
  subst hr
  exact Abs.run_law (E := E) (Abs.plainEnv_ok names mixed (fun _ _ _ h => by cases h) ⟨fun g h args r hg => by cases hg⟩) (Abs.plainEnv_x _ _ _ _) (Abs.plainEnv_e _ _ _ _) (Abs.plainEnv_f _ _ _ _) (fun g cs h => by cases h) hl (h N N (Nat.le_refl _) (Nat.le_refl _))
theorem S0_fresh : Abs.S0.Fresh := ⟨by decide, fun _ _ => rfl⟩
theorem read22 {H : Type} {enc : TypeId × Value → H} {W W' : World} {v : Value} {d : DataW H} {p : List MemPlace} (h : DataW.Trod enc Try.prog W 0 (fun _ => true) true 22 v d p) (hb : Below W.heap.size W W') (hlt : ∀ x ∈ p, x.block < W.heap.size) :
    DataW.Trod enc Try.prog W' 0 (fun b => decide (b < W.heap.size)) true 22 v d p := Below.trod laidOut (by kernel_rfl) (of_decide_eq_true (by kernel_rfl)) h hb hlt

end Go.Proofs.Ytpahkfadibcdgaa
