/-
  InferKnown: what the environment asks for; contracts that the kernel has run.
-/
import Derived.Test.YtkmlbchfeiminaaGreatDoorKnInfE
set_option linter.unusedSimpArgs false
set_option linter.unusedVariables false
namespace Go.Proofs.YtkmlbchfeiminaaGreatDoor.inferKnown
open Go Go.Abs Go.RowKit
theorem names : Tryz.prog.funcs.toList.all (fun x => x.name != "runtime.NumGoroutine") = true := by kernel_rfl
theorem mixed : Tryz.prog.follows .mixedOrders = true := by kernel_rfl
theorem okP (X : FuncId → Option (List AV → St → Option (AV × St))) : (envX X).Ok := by
  have ok := plainEnv_ok (P := Tryz.prog) (hp := (envX X).hp) (meth := fun _ _ => none) (ext := extOf [] []) names mixed (fun _ _ _ h => nomatch h) (extOf_ok (fun g hg => nomatch hg) (fun g hg => nomatch hg))
  exact ⟨ok.fn, ok.und, ok.inf, ok.mixed, ok.meth, ok.ext⟩
theorem scG : ∀ g cs, env0.G g = some cs → ∀ x ∈ cs, ∃ v, x = .sc v := by
  intro g cs hg x hx
  have hg : (bif Nat.beq g 0 then some (props.map fun z => AV.sc (.int .u8 z)) else none) = some cs := hg
  cases h1 : Nat.beq g 0 with
  | false => rw [h1] at hg; cases hg
  | true =>
    rw [h1] at hg
    have hcs := (Option.some.inj hg).symm
    subst hcs
    obtain ⟨z, _, rfl⟩ := List.mem_map.1 hx
    exact ⟨_, rfl⟩
/-- All that is asked of an environment. -/
structure Fine (E : Env) : Prop where
  x : XOk E
  e : EvoX E
  f : FrmX E
theorem fine0 : Fine env0 := ⟨⟨fun f g fn h _ => nomatch h⟩, ⟨fun f g h => nomatch h⟩, ⟨fun f g h => nomatch h⟩⟩
theorem one {f g' : Nat} {g a : List AV → St → Option (AV × St)} (h : (bif Nat.beq g' f then some a else none) = some g) : g' = f ∧ g = a := by
  cases h1 : Nat.beq g' f with
  | true => rw [h1] at h; exact ⟨Nat.eq_of_beq_eq_true h1, (Option.some.inj h).symm⟩
  | false => rw [h1] at h; cases h
/-- A call of a text at the very beginning, by a literal. -/
theorem fineL {X0 : FuncId → Option (List AV → St → Option (AV × St))} (h0 : Fine (envX X0)) (f : Nat) {fn : Func} (hfn : Tryz.prog.funcs[f]? = some fn) (hb : fn.body.isNone = false) {lf n : Nat} {s : ByteArray} {v : AV} {S1 : St}
    (h : evFK (envX X0) lf n f [.sc (.string s)] S0 = some (v, S1)) : Fine (envX fun g => bif Nat.beq g f then some (memoL s v S1) else none) := by
  rw [evFK_eq] at h
  refine ⟨⟨fun f' g fn' hx hfn' => ?_⟩, ⟨fun f' g hx => ?_⟩, ⟨fun f' g hx => ?_⟩⟩
  · obtain ⟨rfl, rfl⟩ := one hx
    have hfn' : Tryz.prog.funcs[f']? = some fn' := hfn'
    obtain rfl : fn' = fn := Option.some.inj (hfn'.symm.trans hfn)
    exact ⟨hb, fun args S r S' hm C w vs hw hl => memoL_ok (E := envX fun g => bif Nat.beq g f' then some (memoL s v S1) else none) (E0 := envX X0) rfl rfl (okP _) h0.x h0.e h0.f h hm hw hl⟩
  · obtain ⟨rfl, rfl⟩ := one hx
    exact fun args S r S' hm => memoL_evo hm
  · obtain ⟨rfl, rfl⟩ := one hx
    exact fun D A X args r A' k hm => memoL_frm k hm
/-- What is asked of an entry of the table. -/
def Told (b : ByteArray) (v : Value) : Prop := ∃ X0 lf n S1, Fine (envX X0) ∧ evF (envX X0) lf n 7 [.sc (.string b)] S0 = some (.sc v, S1)
theorem told {X0 : FuncId → Option (List AV → St → Option (AV × St))} (h0 : Fine (envX X0)) {lf n : Nat} {s : ByteArray} {t : List UInt8} (h : says t (evFK (envX X0) lf n 7 [.sc (.string s)] S0) = true) : Told s (.string ⟨t.toArray⟩) := by
  rw [evFK_eq] at h
  unfold says at h
  split at h
  · rename_i b S1 hv
    have hd := of_decide_eq_true h
    refine ⟨X0, lf, n, S1, h0, ?_⟩
    rw [hv]
    cases b with
    | mk d => cases d with
      | mk l => subst hd; rfl
  · cases h
/-- The table as main's contract. -/
theorem fineT {tab : List (ByteArray × Value)} (ht : ∀ b v, (b, v) ∈ tab → Told b v) {fn : Func} (hfn : Tryz.prog.funcs[7]? = some fn) (hb : fn.body.isNone = false) : Fine (envX fun g => bif Nat.beq g 7 then some (memoT tab) else none) := by
  refine ⟨⟨fun f' g fn' hx hfn' => ?_⟩, ⟨fun f' g hx => ?_⟩, ⟨fun f' g hx => ?_⟩⟩
  · obtain ⟨rfl, rfl⟩ := one hx
    have hfn' : Tryz.prog.funcs[7]? = some fn' := hfn'
    obtain rfl : fn' = fn := Option.some.inj (hfn'.symm.trans hfn)
    refine ⟨hb, fun args S r S' hm C w vs hw hl => memoT_ok (E := envX _) (f := 7) (fun b v hbv => ?_) hm hw hl⟩
    obtain ⟨X0, lf, n, S1, h0, h1⟩ := ht b v hbv
    exact ⟨envX X0, lf, n, S1, ⟨rfl, rfl, scG, okP _, h0.x, h0.e, h0.f⟩, h1⟩
  · obtain ⟨rfl, rfl⟩ := one hx
    exact fun args S r S' hm => memoT_evo hm
  · obtain ⟨rfl, rfl⟩ := one hx
    exact fun D A X args r A' k hm => memoT_frm k hm
end Go.Proofs.YtkmlbchfeiminaaGreatDoor.inferKnown
