/-
  What the kernel has run, in the calculus.
-/
import Derived.Test.YtmmpcomfhcpicaaK1
import Derived.Test.YtmmpcomfhcpicaaAbsD
set_option linter.unusedSimpArgs false
set_option linter.unusedVariables false
set_option maxRecDepth 100000
namespace Go.Abs
def PM.allB {α : Type} : (Nat → Bool) → PM α → Bool
  | _, .leaf => true
  | p, .node l v r => (match v with | none => true | some _ => p 0) && PM.allB (fun k => p (2 * k + 1)) l && PM.allB (fun k => p (2 * k + 2)) r
theorem PM.allB_get {α : Type} : ∀ (t : PM α) (p : Nat → Bool) (n : Nat) (v : α), PM.allB p t = true → t.get n = some v → p n = true
  | .leaf, p, n, v, _, h => by cases h
  | .node l x r, p, n, v, ha, h => by
    simp only [PM.allB, Bool.and_eq_true] at ha
    rw [PM.get_node] at h
    by_cases h0 : n = 0
    · rw [if_pos h0] at h
      subst h0; subst h
      exact ha.1.1
    · rw [if_neg h0] at h
      by_cases h1 : n % 2 = 1
      · rw [if_pos h1] at h
        have := PM.allB_get l _ _ _ ha.1.2 h
        have e : 2 * (n / 2) + 1 = n := by omega
        rwa [e] at this
      · rw [if_neg h1] at h
        have := PM.allB_get r _ _ _ ha.2 h
        have e : 2 * (n / 2 - 1) + 2 = n := by omega
        rwa [e] at this
/-- Has a run left one object and the first three numbers alone? -/
def ranB (S' : St) : Bool := Nat.blt 2 S'.nid && PM.allB (fun k => Nat.blt k S'.nid) S'.spent && Nat.beq (S'.ver 0) 0 &&
  (S'.spent.get 0).isNone && (S'.spent.get 1).isNone && (S'.spent.get 2).isNone && (S'.ity.get 0).isNone && (S'.ity.get 1).isNone && (S'.ity.get 2).isNone
def ranTrue (r : Option (AV × St)) : Bool := match r with
  | some (.sc (.bool true), S') => ranB S'
  | _ => false
theorem of_ranTrue {E : Env} (hX : EvoX E) {lf n : Nat} {f : FuncId} {args : List AV} {S : St} (h1 : S.no = 1) (h2 : S.nid = 3) (h3 : S.spent = .leaf) (h4 : S.ity = .leaf) (h5 : S.wr = .leaf) (h : ranTrue (evF E lf n f args S) = true) :
    ∃ S', EvA E f args S (.sc (.bool true)) S' ∧ Grow S S' nilV := by
  unfold ranTrue at h
  split at h
  · rename_i S' he
    have hev := evF_evo hX.evo lf n f args S _ S' he
    refine ⟨S', ev_run he, ?_⟩
    simp only [ranB, Bool.and_eq_true] at h
    obtain ⟨⟨⟨⟨⟨⟨⟨⟨k1, k2⟩, k3⟩, a0⟩, a1⟩, a2⟩, b0⟩, b1⟩, b2⟩ := h
    have k1 : 2 < S'.nid := Nat.le_of_ble_eq_true k1
    have k3 := Nat.eq_of_beq_eq_true k3
    have v0 : ∀ l, S.ver l = 0 := fun l => by simp [St.ver, h5]
    have hver : ∀ l, l < S.no → S'.ver l = S.ver l := fun l hl => by
      have : l = 0 := by omega
      subst this
      rw [k3, v0]
    refine ⟨by omega, fun id hid _ => ?_, fun id hid => ?_, hev.no, fun l hl => (hev.obj l hl (hver l hl).symm).1, ⟨k1, fun i hi => ?_⟩, hver⟩
    · rw [h3]
      match id, (by omega : id < 3) with
      | 0, _ => simpa using a0
      | 1, _ => simpa using a1
      | 2, _ => simpa using a2
    · rw [h4]
      match id, (by omega : id < 3) with
      | 0, _ => simpa using b0
      | 1, _ => simpa using b1
      | 2, _ => simpa using b2
    · cases hg : S'.spent.get i with
      | none => rfl
      | some u =>
        have := PM.allB_get _ _ _ _ k2 hg
        have : i < S'.nid := Nat.le_of_ble_eq_true this
        omega
  · cases h
end Go.Abs
