/-
  Chapter 16's law InfoSays: the walk, as far as what is read and written.
-/
import Derived.Test.YtmmpcomfhcpicaaRef8
import Derived.Test.YtmmpcomfhcpicaaRef5
import Derived.Test.YtmmpcomfhcpicaaInf9
import Derived.Test.YtmmpcomfhcpicaaInf13s
set_option linter.unusedSimpArgs false
set_option linter.unusedVariables false
set_option maxRecDepth 100000
namespace Go.Proofs.Ytmmpcomfhcpicaa
open Go.Abs
theorem ne_str (t : TypeId) (x y : Operand) (a b : ByteArray) (S : St) : binGen E .neq 9 x y (.sc (.string a)) (.sc (.string b)) S = some (.sc (.bool (!(a.toList == b.toList))), S) := rfl
theorem ne_bool {S : St} (x y : Operand) (a b : Bool) : binGen E .neq 4 x y (.sc (.bool a)) (.sc (.bool b)) S = some (.sc (.bool (a != b)), S) := by
  cases a <;> cases b <;> kernel_rfl
theorem read_same {b : List UInt8} {X1 X2 Y1 Y2 : AV} {err : Int} {ok : Bool}
    (hR : (OkR b ∧ err = 0 ∧ IsV 4 X1 (stopsA (getR b).1) ∧ IsV 6 X2 (varsA (getR b).2.1)) ∨ (¬ OkR b ∧ err = 3 ∧ X1 = nilV ∧ X2 = nilV))
    (hQ : (OkQ b ∧ ok = true ∧ IsV 4 Y1 (stopsA (getQ b).1) ∧ IsV 6 Y2 (varsA (getQ b).2.1)) ∨ (¬ OkQ b ∧ ok = false ∧ Y1 = nilV ∧ Y2 = nilV)) :
    ∃ sx vx, IsV 4 X1 (stopsA sx) ∧ IsV 6 X2 (varsA vx) ∧ IsV 4 Y1 (stopsA sx) ∧ IsV 6 Y2 (varsA vx) ∧ sx.length ≤ 10000 ∧ vx.length ≤ 10000 ∧ ((err = 0 ∧ ok = true) ∨ (err = 3 ∧ ok = false)) := by
  have hk := okRQ goodTQ b
  rcases hR with ⟨h1, h2, h3, h4⟩ | ⟨h1, h2, h3, h4⟩
  · rcases hQ with ⟨k1, k2, k3, k4⟩ | ⟨k1, _⟩
    · rw [okR_Q goodTQ h1] at k3 k4
      exact ⟨_, _, h3, h4, k3, k4, h1.2.2.1.2, h1.2.2.2.1, .inl ⟨h2, k2⟩⟩
    · exact absurd (hk.1 h1) k1
  · rcases hQ with ⟨k1, _⟩ | ⟨k1, k2, k3, k4⟩
    · exact absurd (hk.2 k1) h1
    · subst h3; subst h4; subst k3; subst k4
      exact ⟨[], [], .inl ⟨rfl, rfl⟩, .inl ⟨rfl, rfl⟩, .inl ⟨rfl, rfl⟩, .inl ⟨rfl, rfl⟩, by simp, by simp, .inr ⟨h2, k2⟩⟩
theorem put_same {ss : List StopV} {vs : List VarV} {r5 r6 : AV} (h5 : (GoodT ss vs ∧ IsV 1 r5 (byteVals (putF ss vs))) ∨ (¬ GoodT ss vs ∧ r5 = nilV)) (h6 : (GoodQ ss vs ∧ IsV 1 r6 (byteVals (putF ss vs))) ∨ (¬ GoodQ ss vs ∧ r6 = nilV)) :
    ∃ w, IsV 1 r5 (byteVals w) ∧ IsV 1 r6 (byteVals w) := by
  rcases h5 with ⟨h1, h2⟩ | ⟨h1, rfl⟩
  · rcases h6 with ⟨k1, k2⟩ | ⟨k1, _⟩
    · exact ⟨_, h2, k2⟩
    · exact absurd ((goodTQ ss vs).1 h1) k1
  · rcases h6 with ⟨k1, _⟩ | ⟨_, rfl⟩
    · exact absurd ((goodTQ ss vs).2 k1) h1
    · exact ⟨[], .inl ⟨rfl, rfl⟩, .inl ⟨rfl, rfl⟩⟩
theorem stopAV_is (o : Option StopV) : ∃ (s : StopV) (p : Bool), stopAV o = .tup [.agg [.sc (.int .i64 s.pc), .sc (.int .i64 s.at_), .sc (.int .i64 s.line), .sc (.int .i64 s.col)], .sc (.bool p)] := by
  cases o with
  | none => exact ⟨⟨0, 0, 0, 0⟩, false, rfl⟩
  | some s => exact ⟨s, true, rfl⟩
end Go.Proofs.Ytmmpcomfhcpicaa
