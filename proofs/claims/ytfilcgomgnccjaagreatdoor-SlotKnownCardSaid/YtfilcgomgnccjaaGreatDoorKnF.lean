/-
  SlotKnown: what the environment asks for; contracts that the kernel has run.
-/
import Derived.Test.YtfilcgomgnccjaaGreatDoorKnE
import Derived.Test.YtfilcgomgnccjaaGreatDoorKnS
import Derived.Test.YtfilcgomgnccjaaGreatDoorSlB
set_option linter.unusedSimpArgs false
set_option linter.unusedVariables false
namespace Go.Proofs.YtfilcgomgnccjaaGreatDoor.slotKnown
open Go Go.Abs Go.RowKit
theorem names : Tryz.prog.funcs.toList.all (fun x => x.name != "runtime.NumGoroutine") = true := by kernel_rfl
theorem mixed : Tryz.prog.follows .mixedOrders = true := by kernel_rfl
theorem okP (X : FuncId → Option (List AV → St → Option (AV × St))) : (envX X).Ok := by
  have ok := plainEnv_ok (P := Tryz.prog) (hp := (envX X).hp) (meth := fun _ _ => none) (ext := extOf [] []) names mixed (fun _ _ _ h => nomatch h) (extOf_ok (fun g hg => nomatch hg) (fun g hg => nomatch hg))
  exact ⟨ok.fn, ok.und, ok.inf, ok.mixed, ok.meth, ok.ext⟩
theorem scG : ∀ g cs, tabs g = some cs → ∀ x ∈ cs, ∃ v, x = .sc v := by
  intro g cs hg x hx
  unfold tabs at hg
  cases h1 : Nat.beq g 0 with
  | true =>
    rw [h1] at hg
    have hcs := (Option.some.inj hg).symm
    subst hcs
    obtain ⟨z, _, rfl⟩ := List.mem_map.1 hx
    exact ⟨_, rfl⟩
  | false =>
    rw [h1] at hg
    cases hg
/-- All that is asked of an environment. -/
structure Fine (E : Env) : Prop where
  x : XOk E
  e : EvoX E
  f : FrmX E
theorem gives_eq {v : AV} {x : Option (AV × St)} (h : gives v x = true) : ∃ r S, x = some (r, S) ∧ rdV S true 40 r = some v := by
  unfold gives at h
  split at h
  · rename_i r S
    split at h
    · rename_i y hy
      exact ⟨r, S, rfl, by rw [hy, eqA_eq 40 y v h]⟩
    · cases h
  · cases h
/-- What is asked of an entry of a table. -/
def Told (f : Nat) (xs : List AV) (v : AV) : Prop := ∃ X0 lf n S1 r1, Fine (envX X0) ∧ evF (envX X0) lf n f xs S0 = some (r1, S1) ∧ rdV S1 true 40 r1 = some v
theorem told {X0 : FuncId → Option (List AV → St → Option (AV × St))} (h0 : Fine (envX X0)) {lf n f : Nat} {xs : List AV} {v : AV} (h : gives v (evFK (envX X0) lf n f xs S0) = true) : Told f xs v := by
  rw [evFK_eq] at h
  obtain ⟨r, S, h1, h2⟩ := gives_eq h
  exact ⟨X0, lf, n, S, r, h0, h1, h2⟩
/-- Tables, each of whose entries has been told. -/
inductive AllTold : List (Nat × List (List AV × AV)) → Prop
  | nil : AllTold []
  | cons (f : Nat) (tab : List (List AV × AV)) (ts : List (Nat × List (List AV × AV))) (h : ∀ xs v, (xs, v) ∈ tab → Told f xs v) (hb : ∀ fn, Tryz.prog.funcs[f]? = some fn → fn.body.isNone = false) (ht : AllTold ts) : AllTold ((f, tab) :: ts)
theorem AllTold.at {ts : List (Nat × List (List AV × AV))} (h : AllTold ts) : ∀ {f : Nat} {g : List AV → St → Option (AV × St)}, XT ts f = some g → (∃ tab, g = memoV tab ∧ (∀ xs v, (xs, v) ∈ tab → Told f xs v) ∧ ∀ fn, Tryz.prog.funcs[f]? = some fn → fn.body.isNone = false) ∨ (f = 65 ∧ g = sortedX 89) ∨ (f = 68 ∧ g = varsX (envX fun _ => none) 3000 20 68) := by
  induction h with
  | nil =>
    intro f g hg
    unfold XT at hg
    cases hf : Nat.beq f 65 with
    | true =>
      rw [hf] at hg
      exact .inr (.inl ⟨Nat.eq_of_beq_eq_true hf, (Option.some.inj hg).symm⟩)
    | false =>
      rw [hf] at hg
      cases hf2 : Nat.beq f 68 with
      | true =>
        rw [hf2] at hg
        exact .inr (.inr ⟨Nat.eq_of_beq_eq_true hf2, (Option.some.inj hg).symm⟩)
      | false => rw [hf2] at hg; cases hg
  | cons f' tab ts h hb ht ih =>
    intro f g hg
    unfold XT at hg
    cases hf : Nat.beq f f' with
    | true =>
      rw [hf] at hg
      have e := Nat.eq_of_beq_eq_true hf
      subst e
      exact .inl ⟨tab, (Option.some.inj hg).symm, h, hb⟩
    | false => rw [hf] at hg; exact ih hg
theorem tyS : Tryz.prog.underlying 9 = some .string := by kernel_rfl
theorem fine0 : Fine (envX fun _ => none) := ⟨⟨fun f g fn h => by cases h⟩, ⟨fun f g h => by cases h⟩, ⟨fun f g h => by cases h⟩⟩
theorem fineT {ts : List (Nat × List (List AV × AV))} (ht : AllTold ts) : Fine (envT ts) := by
  refine ⟨⟨fun f g fn hx hfn => ?_⟩, ⟨fun f g hx => ?_⟩, ⟨fun f g hx => ?_⟩⟩
  · rcases ht.at hx with ⟨tab, rfl, h1, h2⟩ | ⟨rfl, rfl⟩ | ⟨rfl, rfl⟩
    · refine ⟨h2 fn hfn, fun args S r S' hm C w vs hw hl => memoV_ok (E := envT ts) (f := f) (fun xs v hbv => ?_) hm hw hl⟩
      obtain ⟨X0, lf, n, S1, r1, h0, h3, h4⟩ := h1 xs v hbv
      exact ⟨envX X0, lf, n, S1, r1, ⟨rfl, rfl, scG, okP _, h0.x, h0.e, h0.f⟩, h3, h4⟩
    · have hfn : Tryz.prog.funcs[65]? = some fn := hfn
      obtain rfl : fn = Tryz.f65 := (Option.some.inj (Tryz.func65.symm.trans hfn)).symm
      exact ⟨by kernel_rfl, fun args S r S' hx C w vs hw hl => sortedX_ok (E := envT ts) tyS sortedC hx hw hl⟩
    · have hfn : Tryz.prog.funcs[68]? = some fn := hfn
      obtain rfl : fn = Tryz.f68 := (Option.some.inj (Tryz.func68.symm.trans hfn)).symm
      exact ⟨by kernel_rfl, fun args S r S' hx C w vs hw hl => varsX_ok (E := envT ts) (E0 := envX fun _ => none) ⟨rfl, rfl, scG, okP _, fine0.x, fine0.e, fine0.f⟩ leafC hx hw hl⟩
  · rcases ht.at hx with ⟨tab, rfl, _, _⟩ | ⟨rfl, rfl⟩ | ⟨rfl, rfl⟩
    · exact fun args S r S' hm => memoV_evo hm
    · exact fun args S r S' hm => sortedX_evo hm
    · exact fun args S r S' hm => varsX_evo fine0.e hm
  · rcases ht.at hx with ⟨tab, rfl, _, _⟩ | ⟨rfl, rfl⟩ | ⟨rfl, rfl⟩
    · exact fun D A X args r A' k hm => memoV_frm k hm
    · exact fun D A X args r A' k hm => sortedX_frm k hm
    · exact fun D A X args r A' k hm => varsX_frm fine0.f k hm
theorem Told.mem1 {f : Nat} {xs : List AV} {v : AV} {tab : List (List AV × AV)} (h : Told f xs v) (ht : ∀ xs v, (xs, v) ∈ tab → Told f xs v) : ∀ ys u, (ys, u) ∈ (xs, v) :: tab → Told f ys u := by
  intro ys u hm
  rcases List.mem_cons.1 hm with e | hm
  · simp only [Prod.mk.injEq] at e
    rw [e.1, e.2]; exact h
  · exact ht ys u hm
end Go.Proofs.YtfilcgomgnccjaaGreatDoor.slotKnown
