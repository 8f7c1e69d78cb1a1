/-
  An evaluator of its own over the program's form: values by value, memory az a list of objects; no tape, no capacities. This text: the definitions.
-/
import Derived.Test.YthjaoinieikjdaaGreatDoorUAA
import Derived.Orders
import Derived.Below
import Derived.Scope
import Derived.MapKept
set_option linter.unusedSimpArgs false
set_option linter.unusedVariables false
namespace Go.Abs
theorem beqF {a b : Nat} (h : ¬ a = b) : Nat.beq a b = false := by
 cases e : Nat.beq a b with
 | false => rfl
 | true => exact absurd (bA e) h
theorem beqT {a b : Nat} (h : a = b) : Nat.beq a b = true := by
 subst h; exact lB a
structure T8 (α : Type) where
 f0 : α
 f1 : α
 f2 : α
 f3 : α
 f4 : α
 f5 : α
 f6 : α
 f7 : α
structure Sel where
 get : {α : Type} → T8 α → α
 upd : {α : Type} → T8 α → (α → α) → T8 α
noncomputable def sel0 : Sel := ⟨fun t => t.f0, fun {α} t g => T8.rec (motive := fun _ => T8 α) (fun f0 f1 f2 f3 f4 f5 f6 f7 => ⟨g f0, f1, f2, f3, f4, f5, f6, f7⟩) t⟩
noncomputable def sel1 : Sel := ⟨fun t => t.f1, fun {α} t g => T8.rec (motive := fun _ => T8 α) (fun f0 f1 f2 f3 f4 f5 f6 f7 => ⟨f0, g f1, f2, f3, f4, f5, f6, f7⟩) t⟩
noncomputable def sel2 : Sel := ⟨fun t => t.f2, fun {α} t g => T8.rec (motive := fun _ => T8 α) (fun f0 f1 f2 f3 f4 f5 f6 f7 => ⟨f0, f1, g f2, f3, f4, f5, f6, f7⟩) t⟩
noncomputable def sel3 : Sel := ⟨fun t => t.f3, fun {α} t g => T8.rec (motive := fun _ => T8 α) (fun f0 f1 f2 f3 f4 f5 f6 f7 => ⟨f0, f1, f2, g f3, f4, f5, f6, f7⟩) t⟩
noncomputable def sel4 : Sel := ⟨fun t => t.f4, fun {α} t g => T8.rec (motive := fun _ => T8 α) (fun f0 f1 f2 f3 f4 f5 f6 f7 => ⟨f0, f1, f2, f3, g f4, f5, f6, f7⟩) t⟩
noncomputable def sel5 : Sel := ⟨fun t => t.f5, fun {α} t g => T8.rec (motive := fun _ => T8 α) (fun f0 f1 f2 f3 f4 f5 f6 f7 => ⟨f0, f1, f2, f3, f4, g f5, f6, f7⟩) t⟩
noncomputable def sel6 : Sel := ⟨fun t => t.f6, fun {α} t g => T8.rec (motive := fun _ => T8 α) (fun f0 f1 f2 f3 f4 f5 f6 f7 => ⟨f0, f1, f2, f3, f4, f5, g f6, f7⟩) t⟩
noncomputable def sel7 : Sel := ⟨fun t => t.f7, fun {α} t g => T8.rec (motive := fun _ => T8 α) (fun f0 f1 f2 f3 f4 f5 f6 f7 => ⟨f0, f1, f2, f3, f4, f5, f6, g f7⟩) t⟩
noncomputable def sel (i : Nat) : Sel := bif Nat.beq i 0 then sel0 else bif Nat.beq i 1 then sel1 else bif Nat.beq i 2 then sel2 else bif Nat.beq i 3 then sel3 else bif Nat.beq i 4 then sel4 else bif Nat.beq i 5 then sel5 else bif Nat.beq i 6 then sel6 else sel7
theorem lt8 {i : Nat} (h : i < 8) : i = 0 ∨ i = 1 ∨ i = 2 ∨ i = 3 ∨ i = 4 ∨ i = 5 ∨ i = 6 ∨ i = 7 := by omega
theorem kh9 {α : Type} {i j : Nat} (hi : i < 8) (hj : j < 8) (t : T8 α) (g : α → α) : (sel j).get ((sel i).upd t g) = if j = i then g ((sel j).get t) else (sel j).get t := by
 rcases lt8 hi with rfl | rfl | rfl | rfl | rfl | rfl | rfl | rfl <;> rcases lt8 hj with rfl | rfl | rfl | rfl | rfl | rfl | rfl | rfl <;> rfl
abbrev L1 (α : Type) := Option (T8 (Option α))
abbrev L2 (α : Type) := Option (T8 (L1 α))
abbrev L3 (α : Type) := Option (T8 (L2 α))
abbrev L4 (α : Type) := Option (T8 (L3 α))
abbrev L5 (α : Type) := Option (T8 (L4 α))
structure PM (α : Type) where
 a : L1 α
 b : L2 α
 c : L3 α
 d : L4 α
 e : L5 α
 o : List (Nat × α)
inductive Way where
 | w1 (s1 : Sel)
 | w2 (s1 s2 : Sel)
 | w3 (s1 s2 s3 : Sel)
 | w4 (s1 s2 s3 s4 : Sel)
 | w5 (s1 s2 s3 s4 s5 : Sel)
 | far
namespace PM
variable {α : Type}
noncomputable def way (n : Nat) : Way :=
 bif Nat.blt n 8 then .w1 (sel n)
 else bif Nat.blt n 72 then .w2 (sel ((n - 8) / 8)) (sel ((n - 8) % 8))
 else bif Nat.blt n 584 then .w3 (sel ((n - 72) / 64)) (sel ((n - 72) / 8 % 8)) (sel ((n - 72) % 8))
 else bif Nat.blt n 4680 then .w4 (sel ((n - 584) / 512)) (sel ((n - 584) / 64 % 8)) (sel ((n - 584) / 8 % 8)) (sel ((n - 584) % 8))
 else bif Nat.blt n 37448 then .w5 (sel ((n - 4680) / 4096)) (sel ((n - 4680) / 512 % 8)) (sel ((n - 4680) / 64 % 8)) (sel ((n - 4680) / 8 % 8)) (sel ((n - 4680) % 8))
 else .far
noncomputable def g1 (s : Sel) (x : L1 α) : Option α := Option.rec (motive := fun _ => Option α) none s.get x
noncomputable def g2t (s1 s2 : Sel) (t : T8 (L1 α)) : Option α := g1 s2 (s1.get t)
noncomputable def g2 (s1 s2 : Sel) (x : L2 α) : Option α := Option.rec (motive := fun _ => Option α) none (g2t s1 s2) x
noncomputable def g3t (s1 s2 s3 : Sel) (t : T8 (L2 α)) : Option α := g2 s2 s3 (s1.get t)
noncomputable def g3 (s1 s2 s3 : Sel) (x : L3 α) : Option α := Option.rec (motive := fun _ => Option α) none (g3t s1 s2 s3) x
noncomputable def g4t (s1 s2 s3 s4 : Sel) (t : T8 (L3 α)) : Option α := g3 s2 s3 s4 (s1.get t)
noncomputable def g4 (s1 s2 s3 s4 : Sel) (x : L4 α) : Option α := Option.rec (motive := fun _ => Option α) none (g4t s1 s2 s3 s4) x
noncomputable def g5 (s1 s2 s3 s4 s5 : Sel) (x : L5 α) : Option α := Option.rec (motive := fun _ => Option α) none (fun t => g4 s2 s3 s4 s5 (s1.get t)) x
noncomputable def e8 {β : Type} (y : β) : T8 β := ⟨y, y, y, y, y, y, y, y⟩
noncomputable def un {β : Type} (x : Option (T8 (Option β))) : T8 (Option β) := Option.rec (motive := fun _ => T8 (Option β)) (e8 none) (fun t => t) x
noncomputable def kv (v : α) (_ : Option α) : Option α := some v
noncomputable def u1 (s : Sel) (v : α) (x : L1 α) : L1 α := some (s.upd (un x) (kv v))
noncomputable def u2 (s1 s2 : Sel) (v : α) (x : L2 α) : L2 α := some (s1.upd (un x) (u1 s2 v))
noncomputable def u3 (s1 s2 s3 : Sel) (v : α) (x : L3 α) : L3 α := some (s1.upd (un x) (u2 s2 s3 v))
noncomputable def u4 (s1 s2 s3 s4 : Sel) (v : α) (x : L4 α) : L4 α := some (s1.upd (un x) (u3 s2 s3 s4 v))
noncomputable def u5 (s1 s2 s3 s4 s5 : Sel) (v : α) (x : L5 α) : L5 α := some (s1.upd (un x) (u4 s2 s3 s4 s5 v))
noncomputable def getO (n : Nat) : List (Nat × α) → Option α
 | [] => none
 | e :: r => bif Nat.beq n e.1 then some e.2 else getO n r
noncomputable def leaf : PM α := ⟨none, none, none, none, none, []⟩
noncomputable def qa (t : PM α) (s : Sel) : Option α := g1 s t.a
noncomputable def qb (t : PM α) (s1 s2 : Sel) : Option α := g2 s1 s2 t.b
noncomputable def qc (t : PM α) (s1 s2 s3 : Sel) : Option α := g3 s1 s2 s3 t.c
noncomputable def qd (t : PM α) (s1 s2 s3 s4 : Sel) : Option α := g4 s1 s2 s3 s4 t.d
noncomputable def qe (t : PM α) (s1 s2 s3 s4 s5 : Sel) : Option α := g5 s1 s2 s3 s4 s5 t.e
noncomputable def getW (w : Way) (n : Nat) (t : PM α) : Option α := Way.rec (motive := fun _ => Option α) (qa t) (qb t) (qc t) (qd t) (qe t) (getO n t.o) w
noncomputable def ma (s : Sel) (v : α) (a : L1 α) (b : L2 α) (c : L3 α) (d : L4 α) (e : L5 α) (o : List (Nat × α)) : PM α := ⟨u1 s v a, b, c, d, e, o⟩
noncomputable def mb (s1 s2 : Sel) (v : α) (a : L1 α) (b : L2 α) (c : L3 α) (d : L4 α) (e : L5 α) (o : List (Nat × α)) : PM α := ⟨a, u2 s1 s2 v b, c, d, e, o⟩
noncomputable def mc (s1 s2 s3 : Sel) (v : α) (a : L1 α) (b : L2 α) (c : L3 α) (d : L4 α) (e : L5 α) (o : List (Nat × α)) : PM α := ⟨a, b, u3 s1 s2 s3 v c, d, e, o⟩
noncomputable def md (s1 s2 s3 s4 : Sel) (v : α) (a : L1 α) (b : L2 α) (c : L3 α) (d : L4 α) (e : L5 α) (o : List (Nat × α)) : PM α := ⟨a, b, c, u4 s1 s2 s3 s4 v d, e, o⟩
noncomputable def me (s1 s2 s3 s4 s5 : Sel) (v : α) (a : L1 α) (b : L2 α) (c : L3 α) (d : L4 α) (e : L5 α) (o : List (Nat × α)) : PM α := ⟨a, b, c, d, u5 s1 s2 s3 s4 s5 v e, o⟩
noncomputable def mo (n : Nat) (v : α) (a : L1 α) (b : L2 α) (c : L3 α) (d : L4 α) (e : L5 α) (o : List (Nat × α)) : PM α := ⟨a, b, c, d, e, (n, v) :: o⟩
noncomputable def pa (v : α) (t : PM α) (s : Sel) : PM α := PM.rec (motive := fun _ => PM α) (ma s v) t
noncomputable def pb (v : α) (t : PM α) (s1 s2 : Sel) : PM α := PM.rec (motive := fun _ => PM α) (mb s1 s2 v) t
noncomputable def pc (v : α) (t : PM α) (s1 s2 s3 : Sel) : PM α := PM.rec (motive := fun _ => PM α) (mc s1 s2 s3 v) t
noncomputable def pd (v : α) (t : PM α) (s1 s2 s3 s4 : Sel) : PM α := PM.rec (motive := fun _ => PM α) (md s1 s2 s3 s4 v) t
noncomputable def pe (v : α) (t : PM α) (s1 s2 s3 s4 s5 : Sel) : PM α := PM.rec (motive := fun _ => PM α) (me s1 s2 s3 s4 s5 v) t
noncomputable def po (n : Nat) (v : α) (t : PM α) : PM α := PM.rec (motive := fun _ => PM α) (mo n v) t
noncomputable def setW (w : Way) (n : Nat) (v : α) (t : PM α) : PM α := Way.rec (motive := fun _ => PM α) (pa v t) (pb v t) (pc v t) (pd v t) (pe v t) (po n v t) w
noncomputable def get (t : PM α) (n : Nat) : Option α := getW (way n) n t
noncomputable def set (t : PM α) (n : Nat) (v : α) : PM α := setW (way n) n v t
theorem g1_u1 {i j : Nat} (hi : i < 8) (hj : j < 8) (v : α) (x : L1 α) : g1 (sel j) (u1 (sel i) v x) = if j = i then some v else g1 (sel j) x := by
 show (sel j).get ((sel i).upd (un x) _) = _
 rw [kh9 hi hj]
 split
 · rfl
 · cases x with
   | none => rcases lt8 hj with rfl | rfl | rfl | rfl | rfl | rfl | rfl | rfl <;> rfl
   | some t => rfl
theorem un_get {β : Type} {j : Nat} (hj : j < 8) (x : Option (T8 (Option β))) : (sel j).get (un x) = (x.bind fun t => (sel j).get t) := by
 cases x with
 | none => rcases lt8 hj with rfl | rfl | rfl | rfl | rfl | rfl | rfl | rfl <;> rfl
 | some t => rfl
theorem g2_eq (s1 s2 : Sel) (x : L2 α) : g2 s1 s2 x = g1 s2 (x.bind fun t => s1.get t) := by cases x <;> rfl
theorem g3_eq (s1 s2 s3 : Sel) (x : L3 α) : g3 s1 s2 s3 x = g2 s2 s3 (x.bind fun t => s1.get t) := by cases x <;> rfl
theorem g4_eq (s1 s2 s3 s4 : Sel) (x : L4 α) : g4 s1 s2 s3 s4 x = g3 s2 s3 s4 (x.bind fun t => s1.get t) := by cases x <;> rfl
theorem g5_eq (s1 s2 s3 s4 s5 : Sel) (x : L5 α) : g5 s1 s2 s3 s4 s5 x = g4 s2 s3 s4 s5 (x.bind fun t => s1.get t) := by cases x <;> rfl
theorem zR {β : Type} {i j : Nat} (hi : i < 8) (hj : j < 8) (x : Option (T8 (Option β))) (f : Option β → Option β) : ((some ((sel i).upd (un x) f)).bind fun t => (sel j).get t) = if j = i then f (x.bind fun t => (sel j).get t) else x.bind fun t => (sel j).get t := by
 show (sel j).get ((sel i).upd (un x) f) = _
 rw [kh9 hi hj, un_get hj]
theorem g2_u2 {i1 i2 j1 j2 : Nat} (h1 : i1 < 8) (h2 : i2 < 8) (k1 : j1 < 8) (k2 : j2 < 8) (v : α) (x : L2 α) : g2 (sel j1) (sel j2) (u2 (sel i1) (sel i2) v x) = if j1 = i1 ∧ j2 = i2 then some v else g2 (sel j1) (sel j2) x := by
 rw [g2_eq, g2_eq, u2, zR h1 k1]
 by_cases e : j1 = i1
 · rw [bN e, g1_u1 h2 k2]
   by_cases e2 : j2 = i2
   · rw [bN e2, bN ⟨e, e2⟩]
   · rw [aR e2, aR (fun h => e2 h.2)]
 · rw [aR e, aR (fun h => e h.1)]
theorem g3_u3 {i1 i2 i3 j1 j2 j3 : Nat} (h1 : i1 < 8) (h2 : i2 < 8) (h3 : i3 < 8) (k1 : j1 < 8) (k2 : j2 < 8) (k3 : j3 < 8) (v : α) (x : L3 α) : g3 (sel j1) (sel j2) (sel j3) (u3 (sel i1) (sel i2) (sel i3) v x) = if j1 = i1 ∧ j2 = i2 ∧ j3 = i3 then some v else g3 (sel j1) (sel j2) (sel j3) x := by
 rw [g3_eq, g3_eq, u3, zR h1 k1]
 by_cases e : j1 = i1
 · rw [bN e, g2_u2 h2 h3 k2 k3]
   by_cases e2 : j2 = i2 ∧ j3 = i3
   · rw [bN e2, bN ⟨e, e2⟩]
   · rw [aR e2, aR (fun h => e2 h.2)]
 · rw [aR e, aR (fun h => e h.1)]
theorem g4_u4 {i1 i2 i3 i4 j1 j2 j3 j4 : Nat} (h1 : i1 < 8) (h2 : i2 < 8) (h3 : i3 < 8) (h4 : i4 < 8) (k1 : j1 < 8) (k2 : j2 < 8) (k3 : j3 < 8) (k4 : j4 < 8) (v : α) (x : L4 α) : g4 (sel j1) (sel j2) (sel j3) (sel j4) (u4 (sel i1) (sel i2) (sel i3) (sel i4) v x) = if j1 = i1 ∧ j2 = i2 ∧ j3 = i3 ∧ j4 = i4 then some v else g4 (sel j1) (sel j2) (sel j3) (sel j4) x := by
 rw [g4_eq, g4_eq, u4, zR h1 k1]
 by_cases e : j1 = i1
 · rw [bN e, g3_u3 h2 h3 h4 k2 k3 k4]
   by_cases e2 : j2 = i2 ∧ j3 = i3 ∧ j4 = i4
   · rw [bN e2, bN ⟨e, e2⟩]
   · rw [aR e2, aR (fun h => e2 h.2)]
 · rw [aR e, aR (fun h => e h.1)]
theorem g5_u5 {i1 i2 i3 i4 i5 j1 j2 j3 j4 j5 : Nat} (h1 : i1 < 8) (h2 : i2 < 8) (h3 : i3 < 8) (h4 : i4 < 8) (h5 : i5 < 8) (k1 : j1 < 8) (k2 : j2 < 8) (k3 : j3 < 8) (k4 : j4 < 8) (k5 : j5 < 8) (v : α) (x : L5 α) : g5 (sel j1) (sel j2) (sel j3) (sel j4) (sel j5) (u5 (sel i1) (sel i2) (sel i3) (sel i4) (sel i5) v x) = if j1 = i1 ∧ j2 = i2 ∧ j3 = i3 ∧ j4 = i4 ∧ j5 = i5 then some v else g5 (sel j1) (sel j2) (sel j3) (sel j4) (sel j5) x := by
 rw [g5_eq, g5_eq, u5, zR h1 k1]
 by_cases e : j1 = i1
 · rw [bN e, g4_u4 h2 h3 h4 h5 k2 k3 k4 k5]
   by_cases e2 : j2 = i2 ∧ j3 = i3 ∧ j4 = i4 ∧ j5 = i5
   · rw [bN e2, bN ⟨e, e2⟩]
   · rw [aR e2, aR (fun h => e2 h.2)]
 · rw [aR e, aR (fun h => e h.1)]
theorem zM {β : Type} {p q : Prop} [Decidable p] [Decidable q] (h : p ↔ q) {x y : β} : (if p then x else y) = if q then x else y := by
 by_cases hp : p
 · rw [bN hp, bN (h.1 hp)]
 · rw [aR hp, aR (fun e => hp (h.2 e))]
theorem blt_eq (n k : Nat) : Nat.blt n k = decide (n < k) := by
 by_cases h : n < k
 · rw [iI h]; exact fT h
 · rw [jO h]
   cases hb : Nat.blt n k with
   | false => rfl
   | true => exact absurd (bW hb) h
theorem yv4 (n : Nat) :
 (n < 8 ∧ way n = .w1 (sel n)) ∨
 (8 ≤ n ∧ n < 72 ∧ way n = .w2 (sel ((n - 8) / 8)) (sel ((n - 8) % 8))) ∨
 (72 ≤ n ∧ n < 584 ∧ way n = .w3 (sel ((n - 72) / 64)) (sel ((n - 72) / 8 % 8)) (sel ((n - 72) % 8))) ∨
 (584 ≤ n ∧ n < 4680 ∧ way n = .w4 (sel ((n - 584) / 512)) (sel ((n - 584) / 64 % 8)) (sel ((n - 584) / 8 % 8)) (sel ((n - 584) % 8))) ∨
 (4680 ≤ n ∧ n < 37448 ∧ way n = .w5 (sel ((n - 4680) / 4096)) (sel ((n - 4680) / 512 % 8)) (sel ((n - 4680) / 64 % 8)) (sel ((n - 4680) / 8 % 8)) (sel ((n - 4680) % 8))) ∨
 (37448 ≤ n ∧ way n = .far) := by
 by_cases h1 : n < 8
 · exact .inl ⟨h1, by unfold way; rw [blt_eq, iI h1]; rfl⟩
 · by_cases h2 : n < 72
   · exact .inr (.inl ⟨by omega, h2, by unfold way; rw [blt_eq, jO h1, blt_eq, iI h2]; rfl⟩)
   · by_cases h3 : n < 584
     · exact .inr (.inr (.inl ⟨by omega, h3, by unfold way; rw [blt_eq, jO h1, blt_eq, jO h2, blt_eq, iI h3]; rfl⟩))
     · by_cases h4 : n < 4680
       · exact .inr (.inr (.inr (.inl ⟨by omega, h4, by unfold way; rw [blt_eq, jO h1, blt_eq, jO h2, blt_eq, jO h3, blt_eq, iI h4]; rfl⟩)))
       · by_cases h5 : n < 37448
         · exact .inr (.inr (.inr (.inr (.inl ⟨by omega, h5, by unfold way; rw [blt_eq, jO h1, blt_eq, jO h2, blt_eq, jO h3, blt_eq, jO h4, blt_eq, iI h5]; rfl⟩))))
         · exact .inr (.inr (.inr (.inr (.inr ⟨by omega, by unfold way; rw [blt_eq, jO h1, blt_eq, jO h2, blt_eq, jO h3, blt_eq, jO h4, blt_eq, jO h5]; rfl⟩))))
@[simp] theorem get_leaf (n : Nat) : (leaf : PM α).get n = none := by
 unfold get
 rcases yv4 n with ⟨_, h⟩ | ⟨_, _, h⟩ | ⟨_, _, h⟩ | ⟨_, _, h⟩ | ⟨_, _, h⟩ | ⟨_, h⟩ <;> rw [h] <;> rfl
theorem get_set (t : PM α) (n m : Nat) (v : α) : (t.set n v).get m = if m = n then some v else t.get m := by
 obtain ⟨a, b, c, d, e, o⟩ := t
 unfold get set
 rcases yv4 n with ⟨n1, hn⟩ | ⟨n1, n2, hn⟩ | ⟨n1, n2, hn⟩ | ⟨n1, n2, hn⟩ | ⟨n1, n2, hn⟩ | ⟨n1, hn⟩ <;>
 rcases yv4 m with ⟨m1, hm⟩ | ⟨m1, m2, hm⟩ | ⟨m1, m2, hm⟩ | ⟨m1, m2, hm⟩ | ⟨m1, m2, hm⟩ | ⟨m1, hm⟩ <;>
 rw [hn, hm]
 all_goals first
 | (rw [aR (by omega)]; rfl)
 | skip
 · exact (g1_u1 n1 m1 v a).trans rfl
 · show g2 _ _ (u2 _ _ v b) = if m = n then some v else g2 _ _ b
   rw [g2_u2 (by omega) (by omega) (by omega) (by omega)]
   exact zM (by constructor <;> (intro h; omega))
 · show g3 _ _ _ (u3 _ _ _ v c) = if m = n then some v else g3 _ _ _ c
   rw [g3_u3 (by omega) (by omega) (by omega) (by omega) (by omega) (by omega)]
   exact zM (by constructor <;> (intro h; omega))
 · show g4 _ _ _ _ (u4 _ _ _ _ v d) = if m = n then some v else g4 _ _ _ _ d
   rw [g4_u4 (by omega) (by omega) (by omega) (by omega) (by omega) (by omega) (by omega) (by omega)]
   exact zM (by constructor <;> (intro h; omega))
 · show g5 _ _ _ _ _ (u5 _ _ _ _ _ v e) = if m = n then some v else g5 _ _ _ _ _ e
   rw [g5_u5 (by omega) (by omega) (by omega) (by omega) (by omega) (by omega) (by omega) (by omega) (by omega) (by omega)]
   exact zM (by constructor <;> (intro h; omega))
 · show getO m ((n, v) :: o) = if m = n then some v else getO m o
   show (bif Nat.beq m n then some v else getO m o) = _
   by_cases h : m = n
   · rw [bN h, beqT h]; rfl
   · rw [aR h, beqF h]; rfl
def all8 {β : Type} (q : Nat → β → Bool) (t : T8 β) : Bool := q 0 t.f0 && q 1 t.f1 && q 2 t.f2 && q 3 t.f3 && q 4 t.f4 && q 5 t.f5 && q 6 t.f6 && q 7 t.f7
def all1 (p : Nat → Bool) (k : Nat) (x : L1 α) : Bool := match x with
 | none => true
 | some t => all8 (fun i y => y.isNone || p (k + i)) t
def all2 (p : Nat → Bool) (k : Nat) (x : L2 α) : Bool := match x with
 | none => true
 | some t => all8 (fun i y => all1 p (k + 8 * i) y) t
def all3 (p : Nat → Bool) (k : Nat) (x : L3 α) : Bool := match x with
 | none => true
 | some t => all8 (fun i y => all2 p (k + 64 * i) y) t
def all4 (p : Nat → Bool) (k : Nat) (x : L4 α) : Bool := match x with
 | none => true
 | some t => all8 (fun i y => all3 p (k + 512 * i) y) t
def all5 (p : Nat → Bool) (k : Nat) (x : L5 α) : Bool := match x with
 | none => true
 | some t => all8 (fun i y => all4 p (k + 4096 * i) y) t
def allKeys (t : PM α) (p : Nat → Bool) : Bool := all1 p 0 t.a && all2 p 8 t.b && all3 p 72 t.c && all4 p 584 t.d && all5 p 4680 t.e && t.o.all fun e => p e.1
end PM
noncomputable section
inductive AV where
 | undef
 | sc (v : Value)
 | ptr (l off : Nat)
 | eptr (cells : List AV) (off : Nat)
 | vec (id sz : Nat) (xs : List AV)
 | osl (l sz off len room : Nat)
 | mp (l : Nat)
 | udat (id : Nat) (xs : List AV)
 | agg (cs : List AV)
 | tup (vs : List AV)
 | fn (f : Fn) (first captured : List AV)
 | ifc (t : TypeId) (v : AV)
instance : Inhabited AV := ⟨.undef⟩
def dB : AV := .sc (.tuple #[])
inductive AObj where
 | cells (cs : List AV)
 | siter (s : ByteArray) (pos : Nat)
 | mp (es : List (Value × AV))
 | mpx (es : List (Value × AV))
 | raw
 | dead
structure St where
 objs : PM AObj
 no : Nat
 nid : Nat
 spent : PM Unit
 wr : PM Nat
 shp : PM (TypeId × Nat)
 ity : PM TypeId
def St.ver (S : St) (l : Nat) : Nat := (S.wr.get l).getD 0
structure Env where
 P : Program
 G : Nat → Option (List AV)
 fn : FuncId → Option Func
 und : TypeId → Option TypeDesc
 inf : TypeId → Option TypeInfo
 hp : TypeId → Option Tmp → Bool
 meth : TypeId → String → Option FuncId
 ext : FuncId → Option (List AV → Option AV)
 X : FuncId → Option (List AV → St → Option (AV × St))
def cP {α : Type} (P : Program) : Sem α → Option α
 | .pure a => some a
 | .program k => cP P (k P)
 | .mark _ k => cP P k
 | _ => none
theorem vQ {α : Type} {P : Program} (s : Sem α) : ∀ {a : α}, cP P s = some a → ∀ w, s.run P w = .ok a w := by
 induction s with
 | pure a => intro b h w; simp only [cP, aI] at h; subst h; rfl
 | program k ih => intro b h w; simp only [cP] at h; simp only [Sem.run]; exact ih P h w
 | mark m k ih => intro b h w; simp only [cP] at h; simp only [Sem.run]; exact ih h w
 | load m a k ih => intro b h; simp [cP] at h
 | store m a v k ih => intro b h; simp [cP] at h
 | new o k ih => intro b h; simp [cP] at h
 | shape r k ih => intro b h; simp [cP] at h
 | freeze a n k ih => intro b h; simp [cP] at h
 | frozen a k ih => intro b h; simp [cP] at h
 | getObj r k ih => intro b h; simp [cP] at h
 | setObj r o k ih => intro b h; simp [cP] at h
 | choose q k ih => intro b h; simp [cP] at h
 | sys c k ih => intro b h; simp [cP] at h
 | halt h => intro b h; simp [cP] at h
def km1 : Value → AV
 | .agg cs => .agg (cs.toList.map .sc)
 | v => .sc v
def ofV : Value → AV
 | .agg cs => .agg (cs.toList.map .sc)
 | .tuple vs => bif vs.isEmpty then .sc (.tuple #[]) else .tup (vs.toList.map km1)
 | v => .sc v
def wa7 : AV → Option Value
 | .sc v => some v
 | _ => none
def wE : List AV → Option (List Value)
 | [] => some []
 | a :: l => match wa7 a, wE l with
  | some v, some vs => some (v :: vs)
  | _, _ => none
def iZ : AV → Option Value
 | .sc v => some v
 | .agg cs => (wE cs).map fun vs => .agg vs.toArray
 | _ => none
def cellsOf : AV → Option (List AV)
 | .undef | .tup _ | .sc (.agg _) | .sc (.tuple _) => none
 | .agg cs => some cs
 | a => some [a]
def cB : AV → Bool
 | .undef | .tup _ | .sc (.agg _) | .sc (.tuple _) | .agg _ => false
 | _ => true
def getT (tm : PM AV) (t : Nat) : AV := (tm.get t).getD .undef
def Env.ev (E : Env) (tm : PM AV) : Operand → AV
 | .tmp t => getT tm t
 | .const v => ofV v
 | .global g => match E.G g with
  | some cs => .eptr cs 0
  | none => .undef
 | .func f => .sc (.func (.func f) #[] #[])
def iV : TypeDesc → Bool
 | .struct _ | .array _ _ => true
 | _ => false
def cut (agg : Bool) (size : Nat) (cs : List AV) (off : Nat) : Option AV :=
 bif Nat.ble (off + size) cs.length then
  (bif agg then some (.agg ((cs.drop off).take size)) else bif Nat.beq size 1 then cs[off]? else none)
 else none
def Env.cutAt (E : Env) (t : TypeId) (cs : List AV) (off : Nat) : Option AV :=
 match E.und t, E.inf t with
 | some d, some i => cut (iV d) i.size cs off
 | _, _ => none
def St.obj (S : St) (l : Nat) : Option (List AV) :=
 match S.objs.get l with
 | some (.cells cs) => some cs
 | _ => none
def St.newRaw (S : St) (o : AObj) : St := { S with objs := S.objs.set S.no o, no := S.no + 1 }
abbrev St.newObj (S : St) (cs : List AV) : St := S.newRaw (.cells cs)
def St.put (S : St) (l : Nat) (o : AObj) : St := { S with objs := S.objs.set l o, wr := S.wr.set l (S.ver l + 1) }
def St.newId (S : St) (T : TypeId) : St := { S with nid := S.nid + 1, ity := S.ity.set S.nid T }
def St.newIdX (S : St) : St := { S with nid := S.nid + 1 }
structure Mk where
 obj : AObj
 sh : Option (TypeId × Nat)
 val : Nat → AV
def St.bear (S : St) (n : Nat) (m : Mk) : St :=
 { S with objs := S.objs.set n m.obj, shp := match m.sh with | some p => S.shp.set n p | none => S.shp }
def St.bearNext (S : St) (m : Mk) : St := { S.bear S.no m with no := S.no + 1 }
def jV (cs : List AV) (off : Nat) (vs : List AV) : List AV := cs.take off ++ vs ++ cs.drop (off + vs.length)
def qN (place : Nat → Option (Nat × Nat)) (cells : List AV) : List (Nat × AV) → Option (List AV)
 | [] => some cells
 | (i, v) :: rest =>
  match place i, cellsOf v with
  | some (off, size), some vs => bif Nat.beq vs.length size && Nat.ble (off + vs.length) cells.length then qN place (jV cells off vs) rest else none
  | _, _ => none
def kO (agg : Bool) (sz : Nat) : Nat → List AV → List AV
 | 0, _ => []
 | n + 1, cs => (bif agg then .agg (cs.take sz) else cs.headD .undef) :: kO agg sz n (cs.drop sz)
def eU : AV → Option Int
 | .sc (.int _ n) => some n
 | _ => none
def elemOf? : Option TypeDesc → Option TypeId
 | some (.slice e) => some e
 | _ => none
def gJ (n : Nat) (lo hi : Option AV) : Option (Nat × Nat) :=
 match (match hi with | none => some (n : Int) | some h => eU h), (match lo with | none => some 0 | some l => eU l) with
 | some h, some l => bif decide (0 ≤ l) && decide (l ≤ h) && decide (h ≤ (n : Int)) then some (l.toNat, h.toNat) else none
 | _, _ => none
def jT : List AV → Option (List UInt8)
 | [] => some []
 | .sc (.int .u8 n) :: l => (jT l).map (UInt8.ofNat n.toNat :: ·)
 | _ :: _ => none
def cO (l : List UInt8) : List AV := l.map fun b => .sc (.int .u8 b.toNat)
def uU : AV → Bool
 | .sc (.int .u8 n) => decide (0 ≤ n) && decide (n < 256)
 | _ => false
def isNilC : AV → Bool
 | .sc (.slice none _ _) | .sc (.pointer none) | .sc .nilFunc | .sc .nilIface | .sc (.map none) => true
 | _ => false
def vA (E : Env) (d : TypeDesc) : AV → AV → Option Bool
 | .vec .., .sc (.slice none _ _) => bif (match d with | .slice _ => true | _ => false) then some false else none
 | .osl .., .sc (.slice none _ _) => bif (match d with | .slice _ => true | _ => false) then some false else none
 | .ptr l o, .ptr l' o' => bif Nat.beq l l' && Nat.beq o o' && (match d with | .pointer e => (E.inf e).isSome | _ => false) then some true else none
 | .ifc .., .sc .nilIface => bif (match d with | .interface _ => true | _ => false) then some false else none
 | .ptr .., .sc (.pointer none) => bif (match d with | .pointer _ => true | _ => false) then some false else none
 | _, _ => none
def gY : AV → Option (List AV)
 | .sc (.slice none 0 0) => some []
 | .vec _ _ xs => some xs
 | .sc (.string s) => some (cO s.data.toList)
 | _ => none
def iO (sz : Nat) : List AV → Bool
 | [] => true
 | x :: l => (match cellsOf x with | some cs => Nat.beq cs.length sz && cs.all cB | none => false) && iO sz l
def bR (sz : Nat) : List AV → Option (List AV)
 | [] => some []
 | x :: l => match cellsOf x, bR sz l with
  | some cs, some r => if cs.length = sz ∧ cs.all cB = true then some (cs ++ r) else none
  | _, _ => none
def St.oslElems (S : St) (agg : Bool) (l sz off len : Nat) : Option (List AV) :=
 match S.obj l with
 | some cs => bif Nat.beq ((cs.drop off).take (len * sz)).length (len * sz) && ((cs.drop off).take (len * sz)).all cB then some (kO agg sz len ((cs.drop off).take (len * sz))) else none
 | none => none
def fG (S : St) (agg : Bool) (size : Nat) : AV → Option (List AV)
 | .osl l sz off len _ => bif Nat.beq sz size && (agg || Nat.beq sz 1) then S.oslElems agg l sz off len else none
 | x => gY x
def St.live (S : St) (id : Nat) : Bool := Nat.blt 2 id && Nat.blt id S.nid && (S.spent.get id).isNone
def St.ityIs (S : St) (id : Nat) (e : TypeId) : Bool := match S.ity.get id with | some T => Nat.beq T e | none => false
def wH (ti : TypeInfo) : Bool := match ti.zero with | some z => Nat.beq z.cells.size ti.size | none => false
def mS (z : Value) (n : Nat) : List AV := (List.range (n * z.cells.size)).map fun j => .sc (z.cells.getD (j % z.cells.size) default)
def nG (mu : Bool) (e : TypeId) (sz : Nat) (xs : List AV) (S : St) : Option (AV × St) :=
 bif mu then (match bR sz xs with
  | some fl => some (.osl S.no sz 0 xs.length xs.length, S.newObj fl)
  | none => none)
 else some (.vec S.nid sz xs, S.newId e)
def rV (sz l off len room : Nat) (ys : List AV) (S : St) : Option (AV × St) :=
 match S.obj l, bR sz ys with
 | some cs, some fl =>
  bif Nat.ble (len + ys.length) room && Nat.ble (off + (len + ys.length) * sz) cs.length then
   some (.osl l sz off (len + ys.length) room, S.put l (.cells (jV cs (off + len * sz) fl)))
  else bif Nat.beq (off + len * sz) cs.length then
   some (.osl S.no sz 0 (len + ys.length) (len + ys.length), (S.put l .dead).newObj (cs.drop off ++ fl))
  else none
 | _, _ => none
def kH (mu : Bool) (e : TypeId) (ti : TypeInfo) (s : AV) (ys : List AV) (S : St) : Option (AV × St) :=
 match ys with
 | [] => (match s with
  | .sc (.slice none 0 0) => some (s, S)
  | .vec _ _ _ => some (s, S)
  | .osl .. => some (s, S)
  | _ => none)
 | y :: ys =>
  bif iO ti.size (y :: ys) && Nat.blt 0 ti.size && wH ti then
   match s with
   | .sc (.slice none 0 0) => bif Nat.ble (((y :: ys).length) * (ti.bytes + 1)) (2 ^ 46) then nG mu e ti.size (y :: ys) S else none
   | .vec id sz' xs =>
    bif Nat.beq ti.size sz' && Nat.ble ((xs.length + (y :: ys).length) * (ti.bytes + 1)) (2 ^ 46) then
     bif Nat.beq id 1 || Nat.beq id 2 then nG mu e ti.size (xs ++ (y :: ys)) S
     else bif S.live id && S.ityIs id e then
      some (.vec S.nid ti.size (xs ++ (y :: ys)), { S.newId e with spent := S.spent.set id () })
     else none
    else none
   | .osl l sz' off len room =>
    bif Nat.beq ti.size sz' && Nat.ble ((len + (y :: ys).length) * (ti.bytes + 1)) (2 ^ 46) then rV ti.size l off len room (y :: ys) S else none
   | _ => none
  else none
def lH (mu agg : Bool) (e : TypeId) (ti : TypeInfo) (s x : AV) (S : St) : Option (AV × St) :=
 match fG S agg ti.size x with
 | none => none
 | some ys => kH mu e ti s ys S
abbrev eS := FuncId → List AV → St → Option (AV × St)
def isStr : Option TypeDesc → Bool
 | some .string => true
 | _ => false
def rN : Option TypeDesc → Bool
 | some (.int .u8) => true
 | _ => false
def pZ (E : Env) (src dst : TypeId) : Bool :=
 match E.und src, E.und dst with
 | some .string, some (.slice _) => true
 | _, _ => false
def gH (E : Env) (mu : Bool) (src dst : TypeId) (x : AV) (S : St) : Option (AV × St) :=
 bif pZ E src dst then
  match E.und dst, x with
  | some (.slice e), .sc (.string s) => bif rN (E.und e) && Nat.ble s.size (2 ^ 40) && !mu then some (.vec S.nid 1 (cO s.data.toList), S.newIdX) else none
  | _, _ => none
 else match x with
 | .sc v => (cP E.P (convert src dst v)).map fun r => (ofV r, S)
 | .vec id sz xs =>
  match E.und src, E.und dst with
  | some (.slice e), some .string => bif rN (E.und e) && Nat.beq sz 1 then (jT xs).map fun bs => (.sc (.string ⟨bs.toArray⟩), S) else none
  | some (.slice _), some (.slice e) => bif Nat.beq src dst && rN (E.und e) && Nat.beq id 1 then some (x, S) else none
  | _, _ => none
 | .ptr l off =>
  match E.und src, E.und dst, S.obj l with
  | some (.pointer t), some .unsafePointer, some cs => match E.inf t with
   | some i => bif Nat.blt 0 i.size && Nat.blt off cs.length then some (x, S) else none
   | none => none
  | some .unsafePointer, some (.pointer u), some cs => match E.inf u, S.shp.get l with
   | some i, some (T, n) => bif Nat.blt off cs.length && liesAt E.P E.P.depth T (n / E.P.cellsOf T) off u 1 then some (x, S) else none
   | _, _ => none
  | _, _, _ => none
 | .osl l sz off len _ =>
  match E.und src, E.und dst with
  | some (.slice e), some .string => bif rN (E.und e) && Nat.beq sz 1 then (match S.oslElems false l sz off len with
   | some xs => (jT xs).map fun bs => (.sc (.string ⟨bs.toArray⟩), S)
   | none => none) else none
  | _, _ => none
 | _ => none
def fnOf : AV → Option (FuncId × List AV × List AV)
 | .sc (.func (.func g) f c) => bif f.isEmpty && c.isEmpty then some (g, [], []) else none
 | .fn (.func g) f c => some (g, f, c)
 | _ => none
def nP : AV → Option Nat
 | .sc (.slice none 0 _) => some 0
 | .vec _ _ xs => some xs.length
 | .osl _ _ _ len _ => some len
 | _ => none
def pK (d : TypeDesc) (k : Value) : List (Value × AV) → Option (Option AV)
 | [] => some none
 | e :: es => match Instr.sameNow d k e.1 with
  | some true => some (some e.2)
  | some false => pK d k es
  | none => none
def keyD : TypeDesc → Bool
 | .int _ | .string | .bool => true
 | _ => false
def fH : TypeDesc → Value → Bool
 | .int k, .int k' _ => k == k'
 | .string, .string _ => true
 | .bool, .bool _ => true
 | _, _ => false
def qE (d : TypeDesc) (k : Value) (x : AV) : List (Value × AV) → List (Value × AV)
 | [] => [(k, x)]
 | e :: es => match Instr.sameNow d k e.1 with
  | some true => (k, x) :: es
  | _ => e :: qE d k x es
def pD (d : TypeDesc) (k : Value) : List (Value × AV) → List (Value × AV)
 | [] => []
 | e :: es => match Instr.sameNow d k e.1 with
  | some true => es
  | _ => e :: pD d k es
def St.map (S : St) (l : Nat) : Option (List (Value × AV)) :=
 match S.objs.get l with
 | some (.mp es) => some es
 | some (.mpx es) => some es
 | _ => none
def keyOf : AV → Option Value
 | .sc v => some v
 | _ => none
def iT (E : Env) (t : TypeId) (x ix : AV) (commaOk : Bool) (S : St) : Option (AV × St) :=
 match E.und t, keyOf ix with
 | some (.map kt et), some k => match E.und kt with
  | some d => bif fH d k then
   match (match x with | .sc (.map none) => some [] | .mp l => S.map l | _ => none) with
   | some es => bif !es.all (fun e => fH d e.1) then none else match pK d k es with
    | some (some v) => some (bif commaOk then .tup [v, .sc (.bool true)] else v, S)
    | some none => match E.inf et with
     | some i => match i.zero with
      | some z => some (bif commaOk then .tup [ofV z, .sc (.bool false)] else ofV z, S)
      | none => none
     | none => none
    | none => none
   | none => none
   else none
  | none => none
 | _, _ => none
def oY (E : Env) (t : TypeId) (m k x : AV) (S : St) : Option (AV × St) :=
 match E.und t, m, keyOf k with
 | some (.map kt _), .mp l, some kv => match E.und kt, S.map l with
  | some d, some es => bif fH d kv && es.all (fun e => fH d e.1) then some (dB, S.put l (.mp (qE d kv x es))) else none
  | _, _ => none
 | _, _, _ => none
def sD (E : Env) (ats : List TypeId) (xs : List AV) (S : St) : Option (AV × St) :=
 match ats, xs with
 | [t, _], [.mp l, k] => match E.und t, keyOf k with
  | some (.map kt _), some kv => match E.und kt, S.map l with
   | some d, some es => bif fH d kv && es.all (fun e => fH d e.1) then some (dB, S.put l (.mp (pD d kv es))) else none
   | _, _ => none
  | _, _ => none
 | _, _ => none
def vJ (E : Env) (t : TypeId) (len cap : AV) : Option (TypeId × Bool × Nat × Nat × Nat × List AV) :=
 match E.und t, eU len, eU cap with
 | some (.slice e), some n, some c => match E.und e, E.inf e with
  | some d, some i => match i.zero with
   | some z => bif decide (0 ≤ n) && decide (n ≤ c) && Nat.ble (c.toNat * (i.bytes + 1)) (2 ^ 46) && Nat.blt 0 i.size && Nat.beq z.cells.size i.size && (iV d || Nat.beq i.size 1) && (mS z n.toNat).all cB then
    some (e, iV d, i.size, n.toNat, c.toNat, mS z n.toNat)
    else none
   | none => none
  | _, _ => none
 | _, _, _ => none
def tD (E : Env) (t : TypeId) (len cap : AV) (S : St) : Option (AV × St) :=
 match vJ E t len cap with
 | some (e, agg, sz, n, _, cs) => some (.vec S.nid sz (kO agg sz n cs), S.newId e)
 | none => none
def uH (S : St) (sz n : Nat) : AV → Option (List AV)
 | .vec _ _ xs => bR sz (xs.take n)
 | .osl l sz' off _ _ => match S.obj l with
  | some cs => bif Nat.beq sz' sz && Nat.ble (off + n * sz) cs.length && ((cs.drop off).take (n * sz)).all cB then some ((cs.drop off).take (n * sz)) else none
  | none => none
 | .sc (.slice none 0 0) => bif Nat.beq n 0 then some [] else none
 | _ => none
def tZ (E : Env) (ats : List TypeId) (xs : List AV) (S : St) : Option (AV × St) :=
 match ats, xs with
 | [t, t1], [.osl l sz off len _, x] => match E.und t, E.und t1, nP x with
  | some (.slice e), some (.slice _), some m => match E.inf e, uH S sz (Nat.min m len) x, S.obj l with
   | some i, some vs, some cs => bif Nat.beq i.size sz && Nat.ble (off + vs.length) cs.length && Nat.beq vs.length (Nat.min m len * sz) then
    some (.sc (.int .i64 (Nat.min m len : Nat)), S.put l (.cells (jV cs off vs))) else none
   | _, _, _ => none
  | _, _, _ => none
 | _, _ => none
def tU (E : Env) (ats : List TypeId) (xs : List AV) (S : St) : Option (AV × St) :=
 match ats, xs with
 | [t], [.osl l sz off len _] => match E.und t with
  | some (.slice e) => match E.inf e, S.obj l with
   | some i, some cs => match i.zero with
    | some z => bif Nat.beq i.size sz && Nat.beq z.cells.size sz && Nat.ble (off + len * sz) cs.length && (mS z len).all cB then
     some (dB, S.put l (.cells (jV cs off (mS z len)))) else none
    | none => none
   | _, _ => none
  | _ => none
 | _, _ => none
def bD (E : Env) (mu : Bool) (b : Builtin) (ats : List TypeId) (xs : List AV) (S : St) : Option (AV × St) :=
 match b with
 | .len => match ats, xs with
  | [t], [x] => match E.und t with
   | some (.slice _) => (nP x).map fun n : Nat => (AV.sc (.int .i64 (n : Int)), S)
   | some .string => match x with
    | .sc (.string s) => some (.sc (.int .i64 s.size), S)
    | _ => none
   | some (.array n _) => some (.sc (.int .i64 n), S)
   | some (.map _ _) => match x with
    | .mp l => (S.map l).map fun es => (AV.sc (.int .i64 (es.length : Nat)), S)
    | .sc (.map none) => some (.sc (.int .i64 0), S)
    | _ => none
   | _ => none
  | _, _ => none
 | .append => match ats, xs with
  | [t, t1], [s, x] => match E.und t, E.und t1 with
   | some (.slice e), some (.slice _) => match E.und e, E.inf e, x with
    | some d, some i, .vec .. | some d, some i, .sc (.slice ..) | some d, some i, .osl .. => lH mu (iV d) e i s x S
    | _, _, _ => none
   | some (.slice e), some .string => match E.inf e, x with
    | some i, .sc (.string _) => lH mu false e i s x S
    | _, _ => none
   | some (.slice e), some (.int _) => match E.und e, E.inf e, x with
    | some d, some i, .sc (.int k n) => match i.zero with
     | some z => bif decide (0 ≤ n) && decide (n < 2 ^ 46) && (iV d || Nat.beq i.size 1) && Nat.beq z.cells.size i.size && Nat.ble (n.toNat * (i.bytes + 1)) (2 ^ 46) && (mS z n.toNat).all cB then kH mu e i s (kO (iV d) i.size n.toNat (mS z n.toNat)) S else none
     | none => none
    | _, _, _ => none
   | _, _ => none
  | _, _ => none
 | .copy => tZ E ats xs S
 | .clear => tU E ats xs S
 | .delete => sD E ats xs S
 | .unsafeSliceData => match xs with
  | [.sc (.slice none 0 0)] => some (.sc (.pointer none), S)
  | [.vec id sz (y :: ys)] => bif Nat.blt 2 id && Nat.beq sz 1 then some (.udat id (y :: ys), S) else none
  | _ => none
 | .unsafeString => match ats, xs with
  | [pt, _], [.udat id ys, .sc (.int .i64 n)] => match E.und pt, S.ity.get id, jT ys with
   | some (.pointer u), some T, some bs => bif Nat.beq T u && Nat.beq (E.P.cellsOf u) 1 && decide (n = (ys.length : Int)) && ys.all uU && Nat.ble ys.length (2 ^ 62) then some (.sc (.string ⟨bs.toArray⟩), S) else none
   | _, _, _ => none
  | [_, _], [.sc (.pointer none), .sc (.int .i64 0)] => some (.sc (.string .empty), S)
  | _, _ => none
 | .cap => match ats, xs with
  | [t], [.sc (.slice none 0 0)] => match E.und t with
   | some (.slice _) => some (.sc (.int .i64 0), S)
   | _ => none
  | _, _ => none
 | .min => match xs with
  | [.sc (.int k a), .sc (.int _ b)] => some (.sc (.int k (if b < a then b else a)), S)
  | _ => none
 | .max => match xs with
  | [.sc (.int k a), .sc (.int k' b)] => (cP E.P (Builtin.max2 (.int k a) (.int k' b))).map fun v => (ofV v, S)
  | _ => none
 | _ => none
def mZ (E : Env) (mu : Bool) (call : eS) (tm : PM AV) (c : Call) (S : St) : Option (AV × St) :=
 match c.callee with
 | .value f => match fnOf (E.ev tm f) with
  | some (g, first, cap) => match E.ext g with
   | some h => (h (first ++ c.args.toList.map (E.ev tm) ++ cap)).map fun v => (v, S)
   | none => call g (first ++ c.args.toList.map (E.ev tm) ++ cap) S
  | none => none
 | .builtin b => bD E mu b c.argTypes.toList (c.args.toList.map (E.ev tm)) S
 | .invoke recv name => match E.ev tm recv with
  | .ifc t x => match E.meth t name with
   | some g => match E.ext g with
    | some _ => none
    | none => call g (x :: c.args.toList.map (E.ev tm)) S
   | none => none
  | _ => none
def vY (E : Env) : List Field → Option (List (Nat × Nat))
 | [] => some []
 | f :: r => match E.inf f.type, vY E r with
  | some i, some l => some ((f.offset, i.size) :: l)
  | _, _ => none
def jG (E : Env) (t : TypeId) (ps : List (Nat × AV)) (S : St) : Option (AV × St) :=
 match E.und t, E.inf t with
  | some (.struct fs), some i => match i.zero, vY E fs.toList with
   | some z, some pl => (qN (fun j => pl[j]?) (z.cells.toList.map .sc)
    ps).map fun cs => (.agg cs, S)
   | _, _ => none
  | some (.array _ e), some i => match i.zero, E.inf e with
   | some z, some ie => (qN (fun j => some (j * ie.size, ie.size)) (z.cells.toList.map .sc)
    ps).map fun cs => (.agg cs, S)
   | _, _ => none
  | _, _ => none
def vH (E : Env) (t : TypeId) (len : Nat) (ps : List (Nat × AV)) : Option (Bool × Nat × List AV) :=
 match E.und t with
  | some (.slice e) => match E.und e, E.inf e with
   | some d, some i => match i.zero with
    | some z =>
     bif Nat.blt 0 i.size && Nat.beq z.cells.size i.size && Nat.ble (len * i.size) (2 ^ 24) && (iV d || Nat.beq i.size 1) then
      match qN (fun j => some (j * i.size, i.size)) ((List.range (len * i.size)).map fun j => .sc (z.cells.getD (j % i.size) default)) ps with
      | some cs => bif cs.all cB then some (iV d, i.size, cs) else none
      | none => none
     else none
    | none => none
   | _, _ => none
  | _ => none
def gE (E : Env) (t : TypeId) (len : Nat) (ps : List (Nat × AV)) (S : St) : Option (AV × St) :=
 match vH E t len ps with
 | some (agg, sz, cs) => some (.vec 1 sz (kO agg sz len cs), S)
 | none => none
def mX (E : Env) (t : TypeId) (x : AV) (S : St) : Option (AV × St) :=
 match x with
  | .ptr l off => match S.obj l with
   | some cs => (E.cutAt t cs off).map (·, S)
   | none => none
  | .eptr cs off => (E.cutAt t cs off).map (·, S)
  | _ => none
def rF (E : Env) (t : TypeId) (x y : AV) (S : St) : Option (AV × St) :=
 match x, cellsOf y, E.inf t with
  | .ptr l off, some vs, some i => match S.obj l with
   | some cs => bif Nat.beq vs.length i.size && Nat.ble (off + vs.length) cs.length && vs.all cB then
    some (dB, S.put l (.cells (jV cs off vs))) else none
   | none => none
  | _, _, _ => none
def arrOf (E : Env) (t : TypeId) : Option (Nat × TypeId) := match E.und t with
 | some (.pointer arr) => match E.und arr with
  | some (.array n e) => some (n, e)
  | _ => none
 | some (.array n e) => some (n, e)
 | _ => none
def fN (E : Env) (t : TypeId) (x : AV) (lo hi : Option AV) (S : St) : Option (AV × St) :=
 match x with
  | .vec id sz xs => match E.und t, gJ xs.length lo hi with
   | some (.slice e), some (l, h) => match E.inf e with
    | some i => bif Nat.beq i.size sz then
     (bif Nat.beq l 0 && Nat.beq h xs.length then some (.vec id sz xs, S) else some (.vec 0 sz ((xs.drop l).take (h - l)), S)) else none
    | none => none
   | _, _ => none
  | .osl l sz off len room => match E.und t, gJ room (lo) (match hi with | some h => some h | none => some (.sc (.int .i64 len))) with
   | some (.slice e), some (b, h) => match E.inf e with
    | some i => bif Nat.beq i.size sz then some (.osl l sz (off + b * sz) (h - b) (room - b), S) else none
    | none => none
   | _, _ => none
  | .ptr l off => match arrOf E t, S.obj l with
   | some (n, e), some cs => match E.inf e, gJ n lo hi with
    | some i, some (b, h) => bif Nat.blt 0 i.size && Nat.ble (off + n * i.size) cs.length then some (.osl l i.size (off + b * i.size) (h - b) (n - b), S) else none
    | _, _ => none
   | _, _ => none
  | .sc (.slice none 0 0) => match E.und t, gJ 0 lo hi with
   | some (.slice e), some _ => match E.inf e with
    | some _ => some (.sc (.slice none 0 0), S)
    | none => none
   | _, _ => none
  | .sc (.string s) => match E.und t, gJ s.size lo hi with
   | some .string, some (l, h) => some (.sc (.string (s.extract l h)), S)
   | _, _ => none
  | _ => none
def rB (E : Env) (t : TypeId) (x : AV) (lo : Option AV) (hi mx : AV) (S : St) : Option (AV × St) :=
 match x with
  | .vec id sz xs => match E.und t, gJ xs.length lo (some hi), eU mx, eU hi with
   | some (.slice e), some (l, h), some m, some hh => match E.inf e with
    | some i => bif Nat.beq i.size sz && decide (m = hh) && Nat.beq l 0 && Nat.blt 0 h then some (.vec 2 sz (xs.take h), S) else none
    | none => none
   | _, _, _, _ => none
  | .osl l sz off len room => match E.und t, eU mx with
   | some (.slice e), some m => match gJ m.toNat lo (some hi), E.inf e with
    | some (b, h), some i => bif decide (0 ≤ m) && Nat.ble m.toNat room && Nat.beq i.size sz then some (.osl l sz (off + b * sz) (h - b) (m.toNat - b), S) else none
    | _, _ => none
   | _, _ => none
  | .sc (.slice none 0 0) => match E.und t, gJ 0 lo (some hi), eU mx with
   | some (.slice e), some _, some 0 => match E.inf e with
    | some _ => some (.sc (.slice none 0 0), S)
    | none => none
   | _, _, _ => none
  | _ => none
def qI (x : AV) (isString : Bool) (S : St) : Option (AV × St) :=
 match x, isString with
 | .ptr l 0, true => match S.objs.get l with
  | some (.siter s pos) => bif Nat.blt pos s.size then
   some (.tup [.sc (.bool true), .sc (.int .i64 (pos : Nat)), .sc (.int .i32 (Utf8.decode s pos).1)], S.put l (.siter s (pos + (Utf8.decode s pos).2)))
   else some (.tup [.sc (.bool false)], S)
  | _ => none
 | _, _ => none
def cD (E : Env) (o : Oper) : Bool :=
 match o.op with
 | .alloc _ | .box .. | .makeMap .. | .range .. => true
 | .makeSlice t _ _ | .buildSlice t _ _ => E.hp t o.dst
 | _ => false
def fQ (E : Env) (tm : PM AV) (o : Oper) : Option Mk :=
 match o.op with
 | .alloc e => match E.inf e with
  | some i => match i.zero with
   | some z => some ⟨.cells (z.cells.toList.map .sc), some (e, z.cells.size), fun n => .ptr n 0⟩
   | none => none
  | none => none
 | .box e x => match cellsOf (E.ev tm x) with
  | some cs => some ⟨.cells cs, some (e, cs.length), fun n => .ptr n 0⟩
  | none => none
 | .makeMap _ none => some ⟨.mp [], none, .mp⟩
 | .makeMap t (some r) => match E.und t, eU (E.ev tm r) with
  | some (.map _ _), some _ => some ⟨.mp [], none, .mp⟩
  | _, _ => none
 | .range t x => match E.und t, E.ev tm x with
  | some .string, .sc (.string s) => some ⟨.siter s 0, none, fun n => .ptr n 0⟩
  | _, _ => none
 | .makeSlice t l c => match vJ E t (E.ev tm l) (E.ev tm c) with
  | some (_, _, sz, n, _, cs) => some ⟨.cells cs, none, fun k => .osl k sz 0 n n⟩
  | none => none
 | .buildSlice t len parts => match vH E t len (parts.toList.map fun p => (p.1, E.ev tm p.2)) with
  | some (_, sz, cs) => some ⟨.cells cs, none, fun k => .osl k sz 0 len len⟩
  | none => none
 | _ => none
def aW (E : Env) (call : eS) (tm : PM AV) (o : Oper) (S : St) : Option (AV × St) :=
 match o.op with
 | .move x | .assign x => some (E.ev tm x, S)
 | .pick c a b => match E.ev tm c with
  | .sc (.bool t) => some (bif t then E.ev tm a else E.ev tm b, S)
  | _ => none
 | .build t parts => jG E t (parts.toList.map fun p => (p.1, E.ev tm p.2)) S
 | .buildSlice t len parts => gE E t len (parts.toList.map fun p => (p.1, E.ev tm p.2)) S
 | .load t a => mX E t (E.ev tm a) S
 | .store t a x => rF E t (E.ev tm a) (E.ev tm x) S
 | .nilCheck x => match E.ev tm x with
  | .ptr l off => some (.ptr l off, S)
  | .eptr cs off => some (.eptr cs off, S)
  | .fn (.func f) a b => some (.fn (.func f) a b, S)
  | .ifc t a => some (.ifc t a, S)
  | .sc (.func (.func f) a b) => some (.sc (.func (.func f) a b), S)
  | _ => none
 | .binOp op t x y _ => match iZ (E.ev tm x), iZ (E.ev tm y) with
  | some a, some b => (cP E.P (do eqGuard op t x y a b; binOp op t a b)).map fun v => (ofV v, S)
  | _, _ => match E.und t with
   | some d => match op, vA E d (E.ev tm x) (E.ev tm y) with
    | .eql, some r => some (.sc (.bool r), S)
    | .neq, some r => some (.sc (.bool (!r)), S)
    | _, _ => none
   | none => none
 | .unOp op _ x => match E.ev tm x with
  | .sc v => (cP E.P (Op.unary op v)).map fun r => (ofV r, S)
  | _ => none
 | .convert src dst x => gH E (E.hp dst o.dst) src dst (E.ev tm x) S
 | .slice t x lo hi none => fN E t (E.ev tm x) (lo.map (E.ev tm)) (hi.map (E.ev tm)) S
 | .slice t x lo (some hi) (some mx) => rB E t (E.ev tm x) (lo.map (E.ev tm)) (E.ev tm hi) (E.ev tm mx) S
 | .makeSlice t l c => tD E t (E.ev tm l) (E.ev tm c) S
 | .lookup t x ix ok => iT E t (E.ev tm x) (E.ev tm ix) ok S
 | .mapUpdate t m k x | .insert t m k x => oY E t (E.ev tm m) (E.ev tm k) (E.ev tm x) S
 | .next it isString => qI (E.ev tm it) isString S
 | .fieldAddr t x f => match E.und t, E.ev tm x with
  | some (.struct fs), .ptr l off => match fs[f]? with
   | some g => match E.inf g.type with
    | some i => bif Nat.beq i.size 0 then none else some (.ptr l (off + g.offset), S)
    | none => none
   | none => none
  | some (.struct fs), .eptr cs off => match fs[f]? with
   | some g => match E.inf g.type with
    | some i => bif Nat.beq i.size 0 then none else some (.eptr cs (off + g.offset), S)
    | none => none
   | none => none
  | _, _ => none
 | .field t x f => match E.und t, E.ev tm x with
  | some (.struct fs), .agg cs => match fs[f]? with
   | some g => (E.cutAt g.type cs g.offset).map (·, S)
   | none => none
  | _, _ => none
 | .indexAddr t x ix => match E.und t, E.ev tm x, eU (E.ev tm ix) with
  | some (.slice e), .vec _ sz xs, some i => match E.inf e with
   | some ie => bif decide (0 ≤ i) && Nat.beq ie.size sz then
    match xs[i.toNat]? with
    | some v => (cellsOf v).map fun cs => (.eptr cs 0, S)
    | none => none
    else none
   | none => none
  | some (.slice e), .osl l sz off len _, some i => match E.inf e with
   | some ie => bif decide (0 ≤ i) && decide (i < (len : Int)) && Nat.beq ie.size sz then some (.ptr l (off + i.toNat * sz), S) else none
   | none => none
  | some (.array n e), .ptr l off, some i => match E.inf e with
   | some ie => bif decide (0 ≤ i) && decide (i < (n : Int)) then some (.ptr l (off + i.toNat * ie.size), S) else none
   | none => none
  | some (.array n e), .eptr cs off, some i => match E.inf e with
   | some ie => bif decide (0 ≤ i) && decide (i < (n : Int)) then some (.eptr cs (off + i.toNat * ie.size), S) else none
   | none => none
  | _, _, _ => none
 | .index t x ix => match E.ev tm x, E.ev tm ix with
  | .sc (.string s), .sc i => (cP E.P (Instr.index t (.string s) i)).map fun v => (ofV v, S)
  | .agg cs, .sc (.int _ i) => match E.und t with
   | some (.array n e) => match E.inf e with
    | some ie => bif decide (0 ≤ i) && decide (i < (n : Int)) then (E.cutAt e cs (i.toNat * ie.size)).map (·, S) else none
    | none => none
   | _ => none
  | _, _ => none
 | .extract t ix => match E.ev tm t with
  | .tup vs => (vs[ix]?).map (·, S)
  | _ => none
 | .makeFunc f first cap => some (.fn f (first.toList.map (E.ev tm)) (cap.toList.map (E.ev tm)), S)
 | .makeInterface t x => match E.und t with
  | some (.interface _) => none
  | some _ => some (.ifc t (E.ev tm x), S)
  | none => none
 | .call c => mZ E (E.hp (c.argTypes.getD 0 0) o.dst) call tm c S
 | _ => none
def eV (E : Env) (call : eS) (tm : PM AV) (o : Oper) (S : St) : Option (AV × St) :=
 bif cD E o then (fQ E tm o).map fun m => (m.val S.no, S.bearNext m) else aW E call tm o S
def iD (ops : Array Oper) (tm : PM AV) (o : Oper) : Option Bool :=
 match o.guard with
 | none => some true
 | some (j, want) => match (ops[j]?).bind (·.dst) with
  | none => none
  | some t => match getT tm t with
   | .sc (.bool b) => some (b == want)
   | .sc (.tuple _) => some false
   | _ => none
def gC (nt : Nat) (dst : Option Tmp) (v : AV) (tm : PM AV) : Option (PM AV) :=
 match dst with
 | none => some tm
 | some d => bif Nat.blt d nt then some (tm.set d v) else none
def eP (E : Env) (call : eS) (nt : Nat) (ops : Array Oper) : List Oper → PM AV → St → Option (PM AV × St)
 | [], tm, S => some (tm, S)
 | o :: rest, tm, S => match iD ops tm o with
  | none => none
  | some false => match gC nt o.dst dB tm with
   | some tm' => eP E call nt ops rest tm' S
   | none => none
  | some true => match eV E call tm o S with
   | none => none
   | some (v, S') => match gC nt o.dst v tm with
    | some tm' => eP E call nt ops rest tm' S'
    | none => none
inductive Out where
 | nrm
 | exit (id : Nat)
 | ret
def iP (body : PM AV → St → Option (Out × PM AV × St)) : Nat → PM AV → St → Option (Out × PM AV × St)
 | 0, _, _ => none
 | k + 1, tm, S => match body tm S with
  | none => none
  | some (.nrm, tm', S') => iP body k tm' S'
  | some (.exit id, tm', S') => some (.exit id, tm', S')
  | some (.ret, tm', S') => some (.ret, tm', S')
def eK (E : Env) : Op → Bool
 | .store .. | .makeSlice .. | .mapUpdate .. | .insert .. | .next .. => true
 | .convert src dst _ => pZ E src dst
 | .call { callee := .builtin .len, .. } | .call { callee := .builtin .min, .. } | .call { callee := .builtin .max, .. } => false
 | .call _ => true
 | _ => false
def loud (E : Env) (o : Oper) : Bool := !cD E o && eK E o.op
def uT (acc : PM Nat) : List Edge → Nat
 | [] => 0
 | e :: r => bif Region.binds .any e then (2 ^ e.on ||| (acc.get e.on).getD 0) ||| uT acc r else uT acc r
def eN : Nat → List Oper → PM Nat → PM Nat
 | _, [], acc => acc
 | i, o :: r, acc => eN (i + 1) r (acc.set i (uT acc o.after.toList))
def bit (m : PM Nat) (i d : Nat) : Bool := ((m.get i).getD 0).testBit d
def cL (ops : Array Oper) (o : Oper) : List Tmp := o.looksAt ops
def zU (E : Env) (ops : Array Oper) (m : PM Nat) (i : Nat) (x : Oper) (j : Nat) (y : Oper) : Bool :=
 (match x.dst with
  | some d => (bit m j i || !(cL ops y).contains d) && (match y.dst with | some d' => !Nat.beq d d' | none => true)
  | none => true) &&
 (match y.dst with
  | some d => bit m j i || !(cL ops x).contains d
  | none => true) &&
 (bit m j i || !(loud E x && loud E y))
def zK (E : Env) (ops : Array Oper) (m : PM Nat) (i : Nat) (x : Oper) : Nat → List Oper → Bool
 | _, [] => true
 | j, y :: r => zU E ops m i x j y && zK E ops m i x (j + 1) r
def mP (E : Env) (ops : Array Oper) (m : PM Nat) : Nat → List Oper → Bool
 | _, [] => true
 | i, x :: r => x.after.toList.all (fun e => !Region.binds .any e || Nat.blt e.on i) && zK E ops m i x (i + 1) r && mP E ops m (i + 1) r
def eQ (E : Env) (tm : PM AV) (o : Oper) : Option Nat :=
 match o.op with
 | .load _ a => match E.ev tm a with
  | .ptr l _ => some l
  | _ => none
 | .convert _ _ a => match E.ev tm a with
  | .osl l _ _ _ _ => some l
  | .ptr l _ => some l
  | _ => none
 | .slice _ a _ _ none => match E.ev tm a with
  | .ptr l _ => some l
  | _ => none
 | .lookup _ a _ _ => match E.ev tm a with
  | .mp l => some l
  | _ => none
 | .call { callee := .builtin .len, args, .. } => match args.toList.map (E.ev tm) with
  | [.mp l] => some l
  | _ => none
 | _ => none
def oC (E : Env) (tm : PM AV) (o : Oper) : Option (TypeId × Nat) :=
 match o.op with
 | .load t a => match E.ev tm a with
  | .ptr _ off => some (t, off)
  | _ => none
 | _ => none
def dF (E : Env) (ops : Array Oper) (k : Nat) : Bool := match ops[k]? with
 | some o => cD E o
 | none => false
def hid (mk : Nat → Bool) (m : PM Nat) (j k : Nat) : Bool := mk k && !bit m j k
def oK (mk : Nat → Bool) (m : PM Nat) (b0 j : Nat) (S0 : St) : Nat → PM AObj
 | 0 => S0.objs
 | k + 1 => bif !hid mk m j k || (S0.objs.get (b0 + k)).isNone then oK mk m b0 j S0 k else (oK mk m b0 j S0 k).set (b0 + k) .dead
def nH (mk : Nat → Bool) (m : PM Nat) (b0 j : Nat) (S0 : St) (os : PM AObj) : Nat → PM AObj
 | 0 => os
 | k + 1 => bif !hid mk m j k then nH mk m b0 j S0 os k else match S0.objs.get (b0 + k) with
  | none => nH mk m b0 j S0 os k
  | some o => (nH mk m b0 j S0 os k).set (b0 + k) o
def St.masked (S : St) (mk : Nat → Bool) (m : PM Nat) (b0 j : Nat) : St := { S with objs := oK mk m b0 j S j }
def St.unmasked (S' : St) (S : St) (mk : Nat → Bool) (m : PM Nat) (b0 j : Nat) : St := { S' with objs := nH mk m b0 j S S'.objs j }
def eX (E : Env) (call : eS) (nt : Nat) (ops : Array Oper) (m : PM Nat) (b0 : Nat) : Nat → List Oper → PM AV → St → Option (PM AV × St × List (Nat × St × St) × List (Nat × Nat × Option (TypeId × Nat)))
 | _, [], tm, S => some (tm, S, [], [])
 | i, o :: rest, tm, S => match iD ops tm o with
  | none => none
  | some false => match gC nt o.dst dB tm with
   | some tm' => eX E call nt ops m b0 (i + 1) rest tm' S
   | none => none
  | some true =>
   bif cD E o then
    match fQ E tm o with
    | none => none
    | some k => match gC nt o.dst (k.val (b0 + i)) tm with
     | some tm' => eX E call nt ops m b0 (i + 1) rest tm' (S.bear (b0 + i) k)
     | none => none
   else bif eK E o.op then
    match aW E call tm o (S.masked (dF E ops) m b0 i) with
    | none => none
    | some (v, S') => match gC nt o.dst v tm with
     | some tm' => match eX E call nt ops m b0 (i + 1) rest tm' (S'.unmasked S (dF E ops) m b0 i) with
      | some (tm2, S2, hist, ls) => some (tm2, S2, (i, S, S'.unmasked S (dF E ops) m b0 i) :: hist, ls)
      | none => none
     | none => none
   else
    match aW E call tm o S with
    | none => none
    | some (v, S') => match gC nt o.dst v tm with
     | some tm' => match eX E call nt ops m b0 (i + 1) rest tm' S' with
      | some (tm2, S2, hist, ls) => some (tm2, S2, hist, (match eQ E tm o with | some l => (i, l, oC E tm o) :: ls | none => ls))
      | none => none
     | none => none
def eqVal (a b : Value) : Bool := match a, b with
 | .int k a, .int k' b => decide (k = k') && decide (a = b)
 | .string a, .string b => decide (a.data.toList = b.data.toList)
 | .bool a, .bool b => a == b
 | .slice none a b, .slice none a' b' => Nat.beq a a' && Nat.beq b b'
 | .pointer none, .pointer none => true
 | .map none, .map none => true
 | .nilFunc, .nilFunc => true
 | .nilIface, .nilIface => true
 | _, _ => false
theorem jd9 {a b : Value} (h : eqVal a b = true) : a = b := by
 unfold eqVal at h
 split at h
 · simp only [aS] at h
   rw [lQ h.1, lQ h.2]
 · rename_i a b
   have hd := lQ h
   have : a.data = b.data := Array.toList_inj.1 hd
   cases a; cases b; simp_all
 · rw [eq_of_beq h]
 · simp only [aS] at h
   rw [bA h.1, bA h.2]
 · rfl
 · rfl
 · rfl
 · rfl
 · cases h
def eqL (f : AV → AV → Bool) : List AV → List AV → Bool
 | [], [] => true
 | x :: l, y :: r => f x y && eqL f l r
 | _, _ => false
theorem zX {f : AV → AV → Bool} (hf : ∀ x y, f x y = true → x = y) : ∀ {l r : List AV}, eqL f l r = true → l = r
 | [], [], _ => rfl
 | x :: l, y :: r, h => by
  simp only [eqL, aS] at h
  rw [hf _ _ h.1, zX hf h.2]
 | [], _ :: _, h => by cases h
 | _ :: _, [], h => by cases h
def eqA (n : Nat) : AV → AV → Bool := match n with
 | 0 => fun _ _ => false
 | n + 1 => fun a b => match a, b with
  | .undef, .undef => true
  | .sc a, .sc b => eqVal a b
  | .vec i s xs, .vec i' s' ys => Nat.beq i i' && Nat.beq s s' && eqL (eqA n) xs ys
  | .agg xs, .agg ys => eqL (eqA n) xs ys
  | .tup xs, .tup ys => eqL (eqA n) xs ys
  | .ifc t x, .ifc t' y => Nat.beq t t' && eqA n x y
  | .ptr l o, .ptr l' o' => Nat.beq l l' && Nat.beq o o'
  | .mp l, .mp l' => Nat.beq l l'
  | .osl l s o n r, .osl l' s' o' n' r' => Nat.beq l l' && Nat.beq s s' && Nat.beq o o' && Nat.beq n n' && Nat.beq r r'
  | _, _ => false
theorem wP : ∀ (n : Nat) (a b : AV), eqA n a b = true → a = b
 | 0, a, b, h => by cases h
 | n + 1, a, b, h => by
  have ih := wP n
  unfold eqA at h
  split at h
  · rfl
  · rw [jd9 h]
  · simp only [aS] at h
    rw [bA h.1.1, bA h.1.2, zX ih h.2]
  · rw [zX ih h]
  · rw [zX ih h]
  · simp only [aS] at h
    rw [bA h.1, ih _ _ h.2]
  · simp only [aS] at h
    rw [bA h.1, bA h.2]
  · rw [bA h]
  · simp only [aS] at h
    rw [bA h.1.1.1.1, bA h.1.1.1.2, bA h.1.1.2, bA h.1.2, bA h.2]
  · cases h
def sI (E : Env) (q : Option (TypeId × Nat)) (l : Nat) (S S' : St) : Bool := match q with
 | some (t, off) => match S.obj l, S'.obj l with
  | some c1, some c2 => match E.cutAt t c1 off, E.cutAt t c2 off with
   | some a, some b => eqA 20 a b
   | _, _ => false
  | _, _ => false
 | none => false
def kN (E : Env) (ops : Array Oper) (m : PM Nat) (b0 n : Nat) (hist : List (Nat × St × St)) (p : Nat × Nat × Option (TypeId × Nat)) : Bool :=
 (hist.all fun h => bit m p.1 h.1 || bit m h.1 p.1 || (Nat.blt p.2.1 h.2.1.no && Nat.beq (h.2.1.ver p.2.1) (h.2.2.ver p.2.1)) || sI E p.2.2 p.2.1 h.2.1 h.2.2) &&
 (Nat.blt p.2.1 b0 || Nat.ble (b0 + n) p.2.1 || !dF E ops (p.2.1 - b0) || bit m p.1 (p.2.1 - b0))
def lK (E : Env) (call : eS) (nt : Nat) (ops : Array Oper) (tm : PM AV) (S : St) : Option (PM AV × St) :=
 bif mP E ops (eN 0 ops.toList .leaf) 0 ops.toList then
  match eX E call nt ops (eN 0 ops.toList .leaf) S.no 0 ops.toList tm { S with no := S.no + ops.size } with
  | some (tm', S', hist, ls) => bif ls.all (kN E ops (eN 0 ops.toList .leaf) S.no ops.size hist) then some (tm', S') else none
  | none => none
 else none
abbrev Run := PM AV → St → Option (Out × PM AV × St)
def evC (M : Code → Option Run) (E : Env) (call : eS) (lf nt : Nat) : Code → PM AV → St → Option (Out × PM AV × St)
 | .skip, tm, S => some (.nrm, tm, S)
 | .label _, tm, S => some (.nrm, tm, S)
 | .region _ ops false, tm, S => match eP E call nt ops ops.toList tm S with
  | some (tm', S') => some (.nrm, tm', S')
  | none => none
 | .region _ ops true, tm, S => match lK E call nt ops tm S with
  | some (tm', S') => some (.nrm, tm', S')
  | none => none
 | .seq x y, tm, S => match M (.seq x y) with
  | some r => r tm S
  | none => match evC M E call lf nt x tm S with
   | some (.nrm, tm', S') => evC M E call lf nt y tm' S'
   | r => r
 | .cond c x y, tm, S => match E.ev tm c with
  | .sc (.bool true) => evC M E call lf nt x tm S
  | .sc (.bool false) => evC M E call lf nt y tm S
  | _ => none
 | .block id c, tm, S => match evC M E call lf nt c tm S with
  | some (.exit j, tm', S') => bif Nat.beq j id then some (.nrm, tm', S') else some (.exit j, tm', S')
  | r => r
 | .loop c, tm, S => iP (evC M E call lf nt c) lf tm S
 | .scope c, tm, S => evC M E call lf nt c tm S
 | .exit id, tm, S => some (.exit id, tm, S)
 | .ret, tm, S => some (.ret, tm, S)
 | _, _, _ => none
structure MapLoop where
 ops : Array Oper
 T : TypeId
 x : Operand
 it : Tmp
 nops : Array Oper
 nd : Tmp
 c : Tmp
 b : Nat
 b2 : Nat
 eops : Array Oper
 ed : Tmp
 body : Code
def still (S S' : St) : Bool := S'.wr.allKeys (fun n => Nat.ble S.no n) && Nat.beq S'.nid S.nid
def updOp : Option Oper → Option (TypeId × Operand × Operand × Operand)
 | some { op := .mapUpdate T mo ko vo, dst := none, guard := none, .. } => some (T, mo, ko, vo)
 | _ => none
def wa3 : Code → Option (Array Oper × TypeId × Operand × Operand × Operand)
 | .region _ ops false => match updOp ops.toList.getLast? with
  | some (T, mo, ko, vo) => some (ops, T, mo, ko, vo)
  | none => none
 | _ => none
def there (S : St) (l : Nat) : Bool := match S.objs.get l with
 | none => false
 | some .dead => false
 | some _ => true
def pQ (_ : Env) (_ : eS) (_ _ : Nat) : Code → Option Run := fun _ => none
def mR : Nat → List AV → PM AV → PM AV
 | _, [], tm => tm
 | i, a :: l, tm => mR (i + 1) l (tm.set i a)
def qP (E : Env) (tm : PM AV) (S : St) : ResultVar → Option AV
 | .tmp t => some (getT tm t)
 | .cell x t => match getT tm x with
  | .ptr l off => match S.obj l with
   | some cs => E.cutAt t cs off
   | none => none
  | .eptr cs off => E.cutAt t cs off
  | _ => none
def fB (E : Env) (tm : PM AV) (S : St) : List ResultVar → Option (List AV)
 | [] => some []
 | r :: l => match qP E tm S r, fB E tm S l with
  | some v, some vs => some (v :: vs)
  | _, _ => none
def pI : List AV → AV
 | [v] => v
 | [] => dB
 | vs => .tup vs
def evF (E : Env) (lf : Nat) : Nat → eS
 | 0 => fun _ _ _ => none
 | n + 1 => fun f args S =>
  match E.fn f with
  | none => none
  | some fn => match E.X f with
   | some g => g args S
   | none => match fn.body with
    | none => none
    | some c => bif Nat.ble args.length fn.ntmps then
     match evC (pQ E (evF E lf n) lf fn.ntmps) E (evF E lf n) lf fn.ntmps c (mR 0 args .leaf) S with
     | some (.exit _, _, _) => none
     | some (_, tm, S') => (fB E tm S' fn.results.toList).map fun vs => (pI vs, S')
     | none => none
     else none
end
end Go.Abs
