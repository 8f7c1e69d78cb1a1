/-
  slot.variables at a node without kids: walked by the kit's laws of a range over a function.
-/
import Derived.Test.YtfilcgomgnccjaaGreatDoorProg
import Derived.Test.YtfilcgomgnccjaaGreatDoorAbsV
import Derived.RangeFuncBox
import Derived.RangeFuncLeaves
import Derived.Shelf.Abstract
import Derived.WalkKit
import Derived.OwnWalkIn
import Derived.TacticsInMore
import Derived.LoopNIn
import Derived.LoopIn
import Derived.Maps.AppendAt
set_option linter.unusedSimpArgs false
set_option linter.unusedVariables false
set_option maxRecDepth 100000
namespace Go.Proofs.YtfilcgomgnccjaaGreatDoor
open Go.Proofs Go.RowKit Go.Shelf
attribute [local go_sem] Oper.semAt_some
set_option maxRecDepth 100000 in
set_option maxHeartbeats 1000000 in
/-- slices.Backward's closure at the nil slice: no round. -/
theorem back1_nil_in (F : Fence) (n : Nat) (h7 : F.fn 101) (hro : F.round = none) (l Bs : Nat) (J : List (Int × Int) → World → Prop) (W : World) (ka : Option Addr) (kc : Nat) (hBs : W.cell? ⟨Bs, 0, none⟩ = some (.slice ka 0 kc)) (h0 : J [] W) :
    CallsIn F n Tryz.prog 101 #[.func (.yield l) #[] #[], .pointer (some ⟨Bs, 0, none⟩)] W fun e W' => (∃ v, e = .returned v) ∧ J [] W' := by
  refine callsIn_of_wp Tryz.func101 rfl h7 ?_ hro
  simp only [Tryz.ntmps101, List.size_toArray, List.length_cons, List.length_nil, Nat.reduceAdd, Nat.reduceSub, Array.replicate_succ, Array.replicate_zero, List.push_toArray, List.append_toArray, List.nil_append, List.cons_append]
  gi_wp2
  gi_loopw [3] (fun i wr => i = .int .i64 (-1) ∧ J [] wr) (fun _ _ => 0)
  case atStart => exact ⟨rfl, h0⟩
  case round =>
    obtain ⟨rfl, hJs⟩ := hrel
    gi_wp2
    go_end0
    exact ⟨⟨_, rfl⟩, hJs⟩
set_option maxHeartbeats 1000000 in
theorem back_in (F : Fence) (n : Nat) (h5 : F.fn 92) (hro : F.round = none) (a : Option Addr) (len cap : Nat) (w : World) :
    CallsIn F n Tryz.prog 92 #[.slice a len cap] w fun e w' => e = .returned (.func (.func 101) #[] #[.pointer (some ⟨w.heap.size, 0, none⟩)]) ∧ w' = w.alloc (.cells #[.slice a len cap] 50) := by
  refine callsIn_of_wp Tryz.func92 rfl h5 ?_ hro
  simp only [Tryz.ntmps92, List.size_toArray, List.length_cons, List.length_nil, Nat.reduceAdd, Nat.reduceSub, Array.replicate_succ, Array.replicate_zero, List.push_toArray, List.append_toArray, List.nil_append, List.cons_append]
  gi_wp2
  go_ret
  exact ⟨rfl, rfl⟩
theorem back_stops (F : Fence) (n : Nat) (h7 : F.fn 101) (hro : F.round = none) (hn : 1 ≤ n) (Bs n₀ : Nat) (w : World) (hBs : Bs < w.heap.size) (ka : Option Addr) (kc : Nat) (hc : w.cell? ⟨Bs, 0, none⟩ = some (.slice ka 0 kc)) :
    SeqStopsK F n Tryz.prog 101 #[.pointer (some ⟨Bs, 0, none⟩)] (fun x : Int × Int => #[Value.int .i64 x.1, Value.int .i64 x.2]) (Below n₀) (fun ys => ys = []) (fun pre => False) 0 w := fun l J Jx W hW _ _ hY h0 => by
  have hc' := (hW.cell (p := ⟨Bs, 0, none⟩) hBs).trans hc
  exact (back1_nil_in F n h7 hro l Bs J W ka kc hc' h0).mono fun e W' ⟨he, hj⟩ => ⟨he, .inl ⟨_, rfl, hj⟩⟩
set_option maxRecDepth 100000 in
set_option maxHeartbeats 4000000 in
/-- slot.variables at a node that is no variable and has no kids. -/
theorem vars_in (F : Fence) (n : Nat) (h3 : F.fn 68) (h4 : F.fn 92) (h5 : F.fn 101) (hro : F.round = none) (hn : 3 ≤ n) (b o len cap : Nat) (tv : Value) (i : Nat) (k : Int) (m1 m5 m6 : Int) (ka : Option Addr) (kc : Nat) (s2 s3 : ByteArray) (w : World)
    (hi : i < len) (hk : k ≠ 22) (hb : b < w.heap.size)
    (c0 : w.cell? ⟨b, o + i * 7, none⟩ = some (.int .i64 k)) (c1 : w.cell? ⟨b, o + i * 7 + 1, none⟩ = some (.int .i64 m1)) (c2 : w.cell? ⟨b, o + i * 7 + 2, none⟩ = some (.string s2)) (c3 : w.cell? ⟨b, o + i * 7 + 3, none⟩ = some (.string s3))
    (c4 : w.cell? ⟨b, o + i * 7 + 4, none⟩ = some (.slice ka 0 kc)) (c5 : w.cell? ⟨b, o + i * 7 + 5, none⟩ = some (.int .i64 m5)) (c6 : w.cell? ⟨b, o + i * 7 + 6, none⟩ = some (.int .i64 m6)) :
    CallsIn F n Tryz.prog 68 #[.agg #[.slice (some ⟨b, o, none⟩) len cap, tv], .int .i64 (i : Int)] w fun e W' => e = .returned (.slice none 0 0) ∧ Below w.heap.size w W' := by
  have h1 : 1 ≤ n := by omega
  refine callsIn_of_wp_marks Tryz.func68 rfl h3 ?_ hro
  simp only [Tryz.ntmps68, List.size_toArray, List.length_cons, List.length_nil, Nat.reduceAdd, Nat.reduceSub, Array.replicate_succ, Array.replicate_zero, List.push_toArray, List.append_toArray, List.nil_append, List.cons_append]
  gi_wp2_with (gi_at_call 92; refine (back_in F (n - 1) h4 hro _ _ _ _).mono ?_; rintro e w' ⟨rfl, rfl⟩)
  obtain ⟨W4, hW4⟩ : ∃ W4, ((((w.alloc (Obj.cells #[Value.slice (some ⟨b, o, none⟩) len cap, tv] 26)).alloc (Obj.cells #[Value.int IntKind.i64 k, Value.int IntKind.i64 m1, Value.string s2, Value.string s3, Value.slice ka 0 kc, Value.int IntKind.i64 m5, Value.int IntKind.i64 m6] 53)).alloc (Obj.cells #[Value.slice none 0 0] 75)).alloc (Obj.cells #[Value.slice ka 0 kc] 50)) = W4 := ⟨_, rfl⟩
  have hsz : W4.heap.size = w.heap.size + 1 + 1 + 1 + 1 := by rw [← hW4]; simp
  have hB0 : Below w.heap.size w W4 := by rw [← hW4]; exact ((((Below.refl _ w).alloc (Nat.le_refl _) _).alloc (by simp) _).alloc (by simp; omega) _).alloc (by simp; omega) _
  have hbx : W4.cell? ⟨w.heap.size + 1 + 1, 0, none⟩ = some (.slice none 0 0) := by
    rw [← hW4]; refine (((Below.refl _ _).alloc (Nat.le_refl _) _).cell (by simp)).trans ?_
    have := (Boxed.new ((w.alloc (Obj.cells #[Value.slice (some ⟨b, o, none⟩) len cap, tv] 26)).alloc (Obj.cells #[Value.int IntKind.i64 k, Value.int IntKind.i64 m1, Value.string s2, Value.string s3, Value.slice ka 0 kc, Value.int IntKind.i64 m5, Value.int IntKind.i64 m6] 53)) 75 (.slice none 0 0)).cell
    simpa using this
  have hbk : W4.cell? ⟨w.heap.size + 1 + 1 + 1, 0, none⟩ = some (.slice ka 0 kc) := by
    rw [← hW4]
    have := (Boxed.new (((w.alloc (Obj.cells #[Value.slice (some ⟨b, o, none⟩) len cap, tv] 26)).alloc (Obj.cells #[Value.int IntKind.i64 k, Value.int IntKind.i64 m1, Value.string s2, Value.string s3, Value.slice ka 0 kc, Value.int IntKind.i64 m5, Value.int IntKind.i64 m6] 53)).alloc (Obj.cells #[Value.slice none 0 0] 75)) 50 (.slice ka 0 kc)).cell
    simpa using this
  rw [hW4]
  refine wpIn_rangeFunc_ownG hro h1 (gf := 101) (lb := #[.pointer (some ⟨w.heap.size + 1 + 1 + 1, 0, none⟩)]) rfl h5 (enters_of Tryz.func101 (by kernel_rfl) rfl)
    (back_stops F (n - 1) h5 hro (by omega) (w.heap.size + 1 + 1 + 1) W4.heap.size W4 (by omega) ka kc hbk) belowK_t (belowK_b (Nat.le_refl _)) (Below.refl _ _) (fun _ => rfl)
    (fun pre W => Below W4.heap.size W4 W) (fun _ _ _ => False)
    (ownFrom_below (Nat.le_refl _) (Nat.le_refl _)) (fun _ _ _ _ _ hs _ _ => hs) (Below.refl _ _) (fun x => { tmps := #[.agg #[.slice (some ⟨b, o, none⟩) len cap, tv], .int .i64 (i : Int), .pointer (some ⟨w.heap.size, 0, none⟩), undef, .slice none 0 0, .pointer (some ⟨w.heap.size + 1, 0, none⟩), .pointer (some ⟨w.heap.size + 1 + 1, 0, none⟩), undef, .int .i64 x.2, .pointer (some ⟨w.heap.size, 0, none⟩), .slice (some ⟨b, o, none⟩) len cap, .int .i64 (i : Int), .pointer (some ⟨b, o + i * 7, none⟩), .agg #[.int .i64 k, .int .i64 m1, .string s2, .string s3, .slice ka 0 kc, .int .i64 m5, .int .i64 m6], .pointer (some ⟨w.heap.size + 1, 0, none⟩), .int .i64 k, .bool false, undef, undef, undef, undef, undef, undef, .pointer (some ⟨w.heap.size + 1, 4, none⟩), .slice ka 0 kc, .func (.func 101) #[] #[.pointer (some ⟨w.heap.size + 1 + 1 + 1, 0, none⟩)], .int .i64 x.1, .int .i64 x.2, undef, undef, undef, undef, undef, undef], defers := [] }) ?assign ?body ?done ?stop
  case assign =>
    intro l x W K hK
    gi_wp2
    exact hK
  case body =>
    rintro l pre x W hB hlt
    omega
  case done =>
    rintro D ys W hD rfl hB hK
    have hc := (hB.cell (p := ⟨w.heap.size + 1 + 1, 0, none⟩) (by simp; omega)).trans hbx
    gi_wp2
    refine ⟨by simp, .inl ⟨_, _, rfl, run_takeDeferred hK, ?_⟩⟩
    exact ⟨_, results_tmp rfl _ _ _, rfl, hB0.trans ((hB.mono (by omega)).trans (belowK_b (w := W4) (by omega) W D _ _ hD hK rfl rfl))⟩
  case stop =>
    rintro D c pre W _ _ h _
    exact h.elim
/-- slot.variables, at any node without kids that is no variable. -/
theorem leafC : Go.Abs.LeafC Tryz.prog 68 := fun b o len cap i kc tv k m1 m5 m6 ka s2 s3 w hi hk hb c0 c1 c2 c3 c4 c5 c6 =>
  callsIn_wide.1 (vars_in Fence.wide 3 trivial trivial trivial rfl (Nat.le_refl _) b o len cap tv i k m1 m5 m6 ka kc s2 s3 w hi hk hb c0 c1 c2 c3 c4 c5 c6)
end Go.Proofs.YtfilcgomgnccjaaGreatDoor
