/-
  Package info: which stops, which variables may be: the walks.
-/
import Derived.Test.YtmmpcomfhcpicaaPc
import Derived.Test.YtmmpcomfhcpicaaK1
import Derived.Test.YtmmpcomfhcpicaaLp
import Derived.Test.YtmmpcomfhcpicaaRun
import Derived.Test.YtmmpcomfhcpicaaSortF
set_option linter.unusedSimpArgs false
set_option linter.unusedVariables false
set_option maxRecDepth 100000
namespace Go.Proofs.Ytmmpcomfhcpicaa
open Go.Abs
theorem xcase {f : FuncId} {g : List AV → St → Option (AV × St)} (h : E.X f = some g) : (f = 26 ∧ g = sortFX 27 6 parseV encV srtV) ∨ (f = 43 ∧ g = sortX) := by
  change (bif Nat.beq f 26 then some (sortFX 27 6 parseV encV srtV) else bif Nat.beq f 43 then some sortX else none) = some g at h
  cases hb : Nat.beq f 26 with
  | true =>
    rw [hb] at h
    simp only [cond_true, Option.some.injEq] at h
    exact .inl ⟨Nat.eq_of_beq_eq_true hb, h.symm⟩
  | false =>
    rw [hb] at h
    cases hc : Nat.beq f 43 with
    | true =>
      rw [hc] at h
      simp only [cond_false, cond_true, Option.some.injEq] at h
      exact .inr ⟨Nat.eq_of_beq_eq_true hc, h.symm⟩
    | false => rw [hc] at h; cases h
theorem noX : EvoX E := ⟨fun f g h args S r S' hg => by
  rcases xcase h with ⟨_, rfl⟩ | ⟨_, rfl⟩
  · exact sortFX_evo hg
  · exact sortX_evo hg⟩
theorem frmX : FrmX E := ⟨fun f g h D A X args r A' k hg => by
  rcases xcase h with ⟨_, rfl⟩ | ⟨_, rfl⟩
  · exact sortFX_frm k hg
  · exact sortX_frm k hg⟩
theorem okX : XOk E := ⟨fun f g fn h hf => by
  rcases xcase h with ⟨rfl, rfl⟩ | ⟨rfl, rfl⟩
  · have hfn : E.fn 26 = some Try.f26 := by kernel_rfl
    obtain rfl := Option.some.inj (hfn.symm.trans hf)
    exact ⟨by kernel_rfl, fun args S r S' hr C w vs hw hl => sortFX_ok (E := E) (k := 6) sortFC (fun _ => rfl) (show 0 < 6 by decide) parseV_eq srtV_len hr hw hl⟩
  · have hfn : E.fn 43 = some Try.f43 := by kernel_rfl
    obtain rfl := Option.some.inj (hfn.symm.trans hf)
    exact ⟨by kernel_rfl, fun args S r S' hr C w vs hw hl => sortX_ok (E := E) sortC hr hw hl⟩⟩
theorem in_ok (n a b : Int) (S : St) : ∃ r S', EvA E 44 [.sc (.int .i64 n), .sc (.int .i64 a), .sc (.int .i64 b)] S r S' ∧ r = .sc (.bool (inB n a b)) ∧ S' = S := by
  refine ev44 rfl ?_
  by_cases h1 : a ≤ n
  · have c1 : decide (a ≤ n) = true := by simpa using h1
    simp only [SXa, reduceCtorEq, Nat.reduceEqDiff, Nat.reduceAdd, r44_0, r44_1, p44, c1]
    simp [inB, h1]
  · have c1 : decide (a ≤ n) = false := by simpa using h1
    simp only [SXa, reduceCtorEq, Nat.reduceEqDiff, Nat.reduceAdd, r44_0, r44_1, p44, c1]
    simp [inB, h1]
theorem inE (n a b : Int) (S : St) : EvA E 44 [.sc (.int .i64 n), .sc (.int .i64 a), .sc (.int .i64 b)] S (.sc (.bool (inB n a b))) S := by
  obtain ⟨r, S', h, h1, h2⟩ := in_ok n a b S
  subst h1; subst h2
  exact h
theorem fld41_0 {tm : PM AV} {S : St} {d : Option Tmp} (x : Operand) : opV E tm d (.fieldAddr 41 x 0) S = fldV 0 (E.ev tm x) S := field_chk 41 0 0 (by kernel_rfl) x
theorem fld41_1 {tm : PM AV} {S : St} {d : Option Tmp} (x : Operand) : opV E tm d (.fieldAddr 41 x 1) S = fldV 1 (E.ev tm x) S := field_chk 41 1 1 (by kernel_rfl) x
theorem fld41_2 {tm : PM AV} {S : St} {d : Option Tmp} (x : Operand) : opV E tm d (.fieldAddr 41 x 2) S = fldV 2 (E.ev tm x) S := field_chk 41 2 2 (by kernel_rfl) x
theorem fld41_3 {tm : PM AV} {S : St} {d : Option Tmp} (x : Operand) : opV E tm d (.fieldAddr 41 x 3) S = fldV 3 (E.ev tm x) S := field_chk 41 3 3 (by kernel_rfl) x
theorem fld43_0 {tm : PM AV} {S : St} {d : Option Tmp} (x : Operand) : opV E tm d (.fieldAddr 43 x 0) S = fldV 0 (E.ev tm x) S := field_chk 43 0 0 (by kernel_rfl) x
theorem fld43_1 {tm : PM AV} {S : St} {d : Option Tmp} (x : Operand) : opV E tm d (.fieldAddr 43 x 1) S = fldV 1 (E.ev tm x) S := field_chk 43 1 1 (by kernel_rfl) x
theorem fld43_2 {tm : PM AV} {S : St} {d : Option Tmp} (x : Operand) : opV E tm d (.fieldAddr 43 x 2) S = fldV 2 (E.ev tm x) S := field_chk 43 2 2 (by kernel_rfl) x
theorem fld43_3 {tm : PM AV} {S : St} {d : Option Tmp} (x : Operand) : opV E tm d (.fieldAddr 43 x 3) S = fldV 3 (E.ev tm x) S := field_chk 43 3 3 (by kernel_rfl) x
theorem fld43_4 {tm : PM AV} {S : St} {d : Option Tmp} (x : Operand) : opV E tm d (.fieldAddr 43 x 4) S = fldV 4 (E.ev tm x) S := field_chk 43 4 4 (by kernel_rfl) x
theorem fld43_5 {tm : PM AV} {S : St} {d : Option Tmp} (x : Operand) : opV E tm d (.fieldAddr 43 x 5) S = fldV 5 (E.ev tm x) S := field_chk 43 5 5 (by kernel_rfl) x
theorem fld25_0 {tm : PM AV} {S : St} {d : Option Tmp} (x : Operand) : opV E tm d (.fieldAddr 25 x 0) S = fldV 0 (E.ev tm x) S := field_chk 25 0 0 (by kernel_rfl) x
theorem fld25_1 {tm : PM AV} {S : St} {d : Option Tmp} (x : Operand) : opV E tm d (.fieldAddr 25 x 1) S = fldV 1 (E.ev tm x) S := field_chk 25 1 1 (by kernel_rfl) x
def z41 : List AV := [.sc (.int .i64 0), .sc (.int .i64 0), .sc (.int .i64 0), .sc (.int .i64 0)]
def z43 : List AV := [.sc (.int .i64 0), .sc (.int .i64 0), .sc (.string ⟨#[]⟩), .sc (.int .i64 0), .sc (.int .i64 0), .sc (.string ⟨#[]⟩)]
theorem alloc41 {tm : PM AV} {S : St} {d : Option Tmp} : opV E tm d (.alloc 41) S = some (.ptr S.no 0, S.born 41 z41) := alloc_of (by kernel_rfl)
theorem alloc43 {tm : PM AV} {S : St} {d : Option Tmp} : opV E tm d (.alloc 43) S = some (.ptr S.no 0, S.born 43 z43) := alloc_of (by kernel_rfl)
theorem st41 (l : Nat) (a b c e : Int) (S : St) : storeC 4 (.ptr l 0) (.agg [.sc (.int .i64 a), .sc (.int .i64 b), .sc (.int .i64 c), .sc (.int .i64 e)]) S = (S.obj l).bind fun cs => if 4 ≤ cs.length then some (passed, S.put l (.cells (.sc (.int .i64 a) :: .sc (.int .i64 b) :: .sc (.int .i64 c) :: .sc (.int .i64 e) :: cs.drop 4))) else none :=
  store_agg 4 l _ rfl
theorem st43 (l : Nat) (a b : Int) (c : ByteArray) (e f : Int) (g : ByteArray) (S : St) : storeC 6 (.ptr l 0) (.agg [.sc (.int .i64 a), .sc (.int .i64 b), .sc (.string c), .sc (.int .i64 e), .sc (.int .i64 f), .sc (.string g)]) S = (S.obj l).bind fun cs => if 6 ≤ cs.length then some (passed, S.put l (.cells (.sc (.int .i64 a) :: .sc (.int .i64 b) :: .sc (.string c) :: .sc (.int .i64 e) :: .sc (.int .i64 f) :: .sc (.string g) :: cs.drop 6))) else none :=
  store_agg 6 l _ rfl
theorem wrapK {k n : Nat} (h : k < n) (hn : n ≤ 2 ^ 63 - 1) : IntKind.i64.wrap ((k : Int) + 1) = ((k + 1 : Nat) : Int) := by
  rw [wrap_i64 (by omega) (by omega)]; omega
def stopsA (l : List StopV) : List AV := l.map fun s => .agg (stopA s)
theorem lenS_ {x : AV} {l : List StopV} (h : IsV 4 x (stopsA l)) (S : St) : lenV x S = some (.sc (.int .i64 (l.length : Nat)), S) := by rw [h.len]; simp [stopsA]
theorem idxS_ {x : AV} {l : List StopV} (h : IsV 4 x (stopsA l)) {k : Nat} (hk : k < l.length) (S : St) : idxV 4 x (some (k : Int)) S = some (.eptr (stopA l[k]) 0, S) := h.idx (v := .agg (stopA l[k])) (by simp [stopsA, hk]) rfl S
set_option maxHeartbeats 16000000 in
theorem stops_ok (l : List StopV) (x : AV) (hx : IsV 4 x (stopsA l)) (hl : l.length ≤ 2 ^ 63 - 1) (S : St) (hS : S.Fresh) : ∃ r S', EvA E 24 [x] S r S' ∧ (∃ b, r = .sc (.bool b) ∧ (b = true ↔ GoodStops l)) ∧ Grow S S' nilV := by
  refine ev24 rfl ?_
  simp only [SXa, reduceCtorEq, Nat.reduceEqDiff, Nat.reduceAdd, len22, r24_0, r24_1, r24_8, p24, lenS_ hx]
  refine e_loop (fun tm S' N => ∃ k : Nat, k ≤ l.length ∧ N = l.length - k ∧ (∀ j (h : j < l.length), j < k → stopB l[j] = true ∧ (0 < j → l[j - 1].pc < l[j].pc)) ∧ Grow S S' nilV ∧ getT tm 0 = x ∧ getT tm 5 = x ∧ getT tm 6 = .sc (.int .i64 (l.length : Nat)) ∧ getT tm 7 = .sc (.int .i64 (k : Int))) l.length
    ⟨0, by omega, by omega, fun j _ h => by omega, Grow.refl hS _, by simp [getT_setD]⟩ ?_
  rintro tm S' N ⟨k, hk, rfl, hP, hG, t0, t5, t6, t7⟩
  by_cases hlt : k < l.length
  case neg =>
    have hke : k = l.length := by omega
    by_cases hm : l.length ≤ 10000
    · have c1 : decide (((l.length : Nat) : Int) ≤ 10000) = true := by simp only [decide_eq_true_eq]; omega
      simp only [SXa, reduceCtorEq, Nat.reduceEqDiff, len22, b24_7, r24_2, r24_3, r24_4, r24_5, r24_6, t0, t6, t7, dec_nlt hlt, lenS_ hx, c1]
      exact ⟨⟨true, rfl, by simp only [true_iff]; exact ⟨fun j hj => hP j hj (by omega), hm⟩⟩, hG⟩
    · have c1 : decide (((l.length : Nat) : Int) ≤ 10000) = false := by simp only [decide_eq_false_iff_not]; omega
      simp only [SXa, reduceCtorEq, Nat.reduceEqDiff, len22, b24_7, r24_2, r24_3, r24_4, r24_5, r24_6, t0, t6, t7, dec_nlt hlt, lenS_ hx, c1]
      exact ⟨⟨false, rfl, by simp only [Bool.false_eq_true, false_iff]; exact fun h => hm h.2⟩, hG⟩
  case pos =>
    have gb := (hG.born 41 z41).put S'.no (.cells (stopA l[k])) hG.no
    have gr := Grow.raise gb.fresh 37 nilV
    have hsv : ((S'.born 41 z41).put S'.no (.cells (stopA l[k]))).obj S'.no = some (stopA l[k]) := by simp [put_obj]
    have hn : S'.no < ((S'.born 41 z41).put S'.no (.cells (stopA l[k]))).no := Nat.lt_succ_self _
    have ho := gr.objs hsv hn
    have g2 := gb.two gr
    have wk := wrapK hlt hl
    have hbad : ∀ b, stopB l[k] = b → b = false → ¬ GoodStops l := fun b h1 h2 hg => by
      have := (hg.1 k hlt).1
      rw [h1, h2] at this; cases this
    simp only [z41, stopA] at gb gr ho g2
    simp only [SXa, Nat.reduceEqDiff, Nat.reduceAdd, index22, load41, store41, b24_7, r24_2, r24_3, r24_4, r24_5, r24_6, t5, t6, t7, dec_lt hlt, idxS_ hx hlt, alloc41, z41, stopA, st41, born_obj, Option.bind_some, Nat.le_refl, List.drop_nil, Nat.zero_add]
    generalize ((S'.born 41 [.sc (.int .i64 0), .sc (.int .i64 0), .sc (.int .i64 0), .sc (.int .i64 0)]).put S'.no (.cells [.sc (.int .i64 l[k].pc), .sc (.int .i64 l[k].at_), .sc (.int .i64 l[k].line), .sc (.int .i64 l[k].col)])).raise 37 = S1 at gr ho g2
    simp only [SXa, Nat.reduceEqDiff, load3, call44, load_pb, ho, fld41_0, fld_p, Option.bind_some, Nat.add_zero]
    refine callK_of (inE _ _ _ _) ?_
    cases h1 : inB l[k].pc 0 2147483647 with
    | false =>
      simp only [SXa, Nat.reduceEqDiff]
      exact ⟨⟨false, rfl, by simp only [Bool.false_eq_true, false_iff]; exact hbad _ rfl (by simp [stopB, h1])⟩, g2⟩
    | true =>
    simp only [SXa, Nat.reduceEqDiff, Nat.reduceAdd, load3, call44, load_pb, ho, fld41_1, fld_p, Option.bind_some]
    refine callK_of (inE _ _ _ _) ?_
    cases h2 : inB l[k].at_ 0 2147483647 with
    | false =>
      simp only [SXa, Nat.reduceEqDiff]
      exact ⟨⟨false, rfl, by simp only [Bool.false_eq_true, false_iff]; exact hbad _ rfl (by simp [stopB, h2])⟩, g2⟩
    | true =>
    simp only [SXa, Nat.reduceEqDiff, Nat.reduceAdd, load3, call44, load_pb, ho, fld41_2, fld_p, Option.bind_some]
    refine callK_of (inE _ _ _ _) ?_
    cases h3 : inB l[k].line 1 2147483647 with
    | false =>
      simp only [SXa, Nat.reduceEqDiff]
      exact ⟨⟨false, rfl, by simp only [Bool.false_eq_true, false_iff]; exact hbad _ rfl (by simp [stopB, h3])⟩, g2⟩
    | true =>
    simp only [SXa, Nat.reduceEqDiff, Nat.reduceAdd, load3, call44, load_pb, ho, fld41_3, fld_p, Option.bind_some]
    refine callK_of (inE _ _ _ _) ?_
    cases h4 : inB l[k].col 1 2147483647 with
    | false =>
      simp only [SXa, Nat.reduceEqDiff]
      exact ⟨⟨false, rfl, by simp only [Bool.false_eq_true, false_iff]; exact hbad _ rfl (by simp [stopB, h4])⟩, g2⟩
    | true =>
    have hsb : stopB l[k] = true := by simp [stopB, h1, h2, h3, h4]
    by_cases hk0 : k = 0
    · have c2 : decide ((0 : Int) < (k : Int)) = false := by simp [hk0]
      simp only [SXa, reduceCtorEq, Nat.reduceEqDiff, t0, t5, t6, t7, c2, wk]
      refine ⟨l.length - (k + 1), by omega, k + 1, by omega, rfl, fun j hj hjk => ?_, g2, by simp []⟩
      have : j = k := by omega
      subst this
      exact ⟨hsb, fun h => by omega⟩
    · have c2 : decide ((0 : Int) < (k : Int)) = true := by simp; omega
      have wm : IntKind.i64.wrap ((k : Int) - 1) = ((k - 1 : Nat) : Int) := by rw [wrap_i64 (by omega) (by omega)]; omega
      have hix : ∀ S, idxV 4 x (some (((k - 1 : Nat)) : Int)) S = some (.eptr (stopA l[k - 1]) 0, S) := fun S => idxS_ hx (by omega) S
      by_cases ha : l[k - 1].pc < l[k].pc
      · have c3 : decide (l[k].pc ≤ l[k - 1].pc) = false := by simpa using ha
        simp only [SXa, reduceCtorEq, Nat.reduceEqDiff, load3, index22, t0, t5, t6, t7, c2, wk, wm, hix, stopA, fld41_0, fld_e, fld_p, load_pb, ho, Option.bind_some, Nat.add_zero, c3]
        refine ⟨l.length - (k + 1), by omega, k + 1, by omega, rfl, fun j hj hjk => ?_, g2, by simp []⟩
        by_cases hjk2 : j < k
        · exact hP j hj hjk2
        · have : j = k := by omega
          subst this
          exact ⟨hsb, fun _ => ha⟩
      · have c3 : decide (l[k].pc ≤ l[k - 1].pc) = true := by simpa using ha
        simp only [SXa, reduceCtorEq, Nat.reduceEqDiff, load3, index22, t0, c2, wm, hix, stopA, fld41_0, fld_e, fld_p, load_pb, ho, Option.bind_some, Nat.add_zero, c3]
        exact ⟨⟨false, rfl, by simp only [Bool.false_eq_true, false_iff]; exact fun h => ha ((h.1 k hlt).2 (by omega))⟩, g2⟩
end Go.Proofs.Ytmmpcomfhcpicaa
