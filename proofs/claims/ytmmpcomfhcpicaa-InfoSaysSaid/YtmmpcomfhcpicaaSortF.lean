/-
  The library's contract of slices.SortFunc at a table's variables, at this program: laid by program (the kit's table of numbers), the kernel compares each body.
-/
import Derived.Test.YtmmpcomfhcpicaaRows
import Derived.Test.YtmmpcomfhcpicaaAbsE
import Derived.Test.YtmmpcomfhcpicaaInfC0
set_option linter.unusedSimpArgs false
set_option linter.unusedVariables false
set_option maxRecDepth 100000
namespace Go.Proofs.Ytmmpcomfhcpicaa
open Go.Shelf Go Go.Sort Go.RowKit
def sortFLays_ren : Go.Shelf.Ren := ⟨fun | 6 => 26 | 15 => 46 | 14 => 45 | 28 => 60 | 29 => 61 | 20 => 52 | 21 => 53 | 22 => 54 | 23 => 55 | 24 => 56 | 25 => 57 | 26 => 58 | 27 => 59 | 46 => 73 | 47 => 74 | 48 => 75 | 49 => 76 | 50 => 77 | 57 => 82 | n => n, fun | 22 => 23 | 24 => 43 | 25 => 69 | 3 => 3 | 39 => 90 | 0 => 0 | 53 => 104 | 55 => 85 | 4 => 4 | 46 => 97 | 45 => 96 | 50 => 101 | 5 => 5 | 9 => 9 | 66 => 112 | 70 => 116 | 76 => 120 | 77 => 121 | n => n, fun | n => n⟩
theorem sortFLays : Go.Proofs.SlLaysF0.n6 Try.prog sortFLays_ren := {
  mixed := by kernel_rfl,
  f6 := ⟨Try.f26.name, by decide, Try.func26.trans (congrArg some (by kernel_rfl))⟩,
  f14 := ⟨Try.f45.name, by decide, Try.func45.trans (congrArg some (by kernel_rfl))⟩,
  f15 := Try.func46.trans (congrArg some (by kernel_rfl)),
  f20 := ⟨Try.f52.name, by decide, Try.func52.trans (congrArg some (by kernel_rfl))⟩,
  f21 := ⟨Try.f53.name, by decide, Try.func53.trans (congrArg some (by kernel_rfl))⟩,
  f22 := ⟨Try.f54.name, by decide, Try.func54.trans (congrArg some (by kernel_rfl))⟩,
  f23 := ⟨Try.f55.name, by decide, Try.func55.trans (congrArg some (by kernel_rfl))⟩,
  f24 := ⟨Try.f56.name, by decide, Try.func56.trans (congrArg some (by kernel_rfl))⟩,
  f25 := ⟨Try.f57.name, by decide, Try.func57.trans (congrArg some (by kernel_rfl))⟩,
  f26 := ⟨Try.f58.name, by decide, Try.func58.trans (congrArg some (by kernel_rfl))⟩,
  f27 := ⟨Try.f59.name, by decide, Try.func59.trans (congrArg some (by kernel_rfl))⟩,
  f28 := Try.func60.trans (congrArg some (by kernel_rfl)),
  f29 := Try.func61.trans (congrArg some (by kernel_rfl)),
  f46 := ⟨Try.f73.name, by decide, Try.func73.trans (congrArg some (by kernel_rfl))⟩,
  f47 := Try.func74.trans (congrArg some (by kernel_rfl)),
  f48 := Try.func75.trans (congrArg some (by kernel_rfl)),
  f49 := ⟨Try.f76.name, by decide, Try.func76.trans (congrArg some (by kernel_rfl))⟩,
  f50 := ⟨Try.f77.name, by decide, Try.func77.trans (congrArg some (by kernel_rfl))⟩,
  f57 := ⟨Try.f82.name, by decide, Try.func82.trans (congrArg some (by kernel_rfl))⟩,
  t0 := Try.underlying0,
  a0 := Try.isAgg0,
  z0 := Try.sizeOf0,
  v0 := Try.zeroValue0,
  t3 := Try.underlying3,
  a3 := Try.isAgg3,
  z3 := Try.sizeOf3,
  v3 := Try.zeroValue3,
  t4 := Try.underlying4,
  a4 := Try.isAgg4,
  z4 := Try.sizeOf4,
  v4 := Try.zeroValue4,
  t5 := Try.underlying5,
  a5 := Try.isAgg5,
  z5 := Try.sizeOf5,
  v5 := Try.zeroValue5,
  t9 := Try.underlying9,
  a9 := Try.isAgg9,
  z9 := Try.sizeOf9,
  v9 := Try.zeroValue9,
  t22 := Try.underlying23,
  a22 := Try.isAgg23,
  z22 := Try.sizeOf23,
  v22 := Try.zeroValue23,
  t25 := Try.underlying69,
  a25 := Try.isAgg69,
  z25 := Try.sizeOf69,
  v25 := Try.zeroValue69,
  t39 := Try.underlying90,
  a39 := Try.isAgg90,
  z39 := Try.sizeOf90,
  v39 := Try.zeroValue90,
  t45 := Try.underlying96,
  a45 := Try.isAgg96,
  z45 := Try.sizeOf96,
  v45 := Try.zeroValue96,
  t46 := Try.underlying97,
  a46 := Try.isAgg97,
  z46 := Try.sizeOf97,
  v46 := Try.zeroValue97,
  t50 := Try.underlying101,
  a50 := Try.isAgg101,
  z50 := Try.sizeOf101,
  v50 := Try.zeroValue101,
  t53 := Try.underlying104,
  a53 := Try.isAgg104,
  z53 := Try.sizeOf104,
  v53 := Try.zeroValue104,
  t55 := Try.underlying85,
  a55 := Try.isAgg85,
  z55 := Try.sizeOf85,
  v55 := Try.zeroValue85,
  t66 := Try.underlying112,
  a66 := Try.isAgg112,
  z66 := Try.sizeOf112,
  v66 := Try.zeroValue112,
  t70 := Try.underlying116,
  a70 := Try.isAgg116,
  z70 := Try.sizeOf116,
  v70 := Try.zeroValue116,
  t76 := Try.underlying120,
  a76 := Try.isAgg120,
  z76 := Try.sizeOf120,
  v76 := Try.zeroValue120,
  t77 := Try.underlying121,
  a77 := Try.isAgg121,
  z77 := Try.sizeOf121,
  v77 := Try.zeroValue121 }
theorem tri (a b : List UInt8) : a < b ∨ a = b ∨ b < a := by
  by_cases h1 : a < b
  · exact .inl h1
  · by_cases h2 : b < a
    · exact .inr (.inr h2)
    · exact .inr (.inl (List.le_antisymm (List.not_lt.1 h2) (List.not_lt.1 h1)))
theorem ltV_iff (x y : VarV) : ltOf cmpV x y = true ↔ x.name.data.toList < y.name.data.toList ∨ (x.name.data.toList = y.name.data.toList ∧ x.frm < y.frm) := by
  unfold ltOf cmpV
  rw [decide_eq_true_eq, cmpN_lt]
  by_cases h1 : x.name.data.toList < y.name.data.toList
  · simp [h1]
  · by_cases h2 : y.name.data.toList < x.name.data.toList
    · have h3 : x.name.data.toList ≠ y.name.data.toList := fun e => by rw [e] at h2; exact List.lt_irrefl _ h2
      simp [h1, h2, h3]
    · have h3 : x.name.data.toList = y.name.data.toList := List.le_antisymm (List.not_lt.1 h2) (List.not_lt.1 h1)
      simp only [h3, if_false, if_true, false_or, true_and, List.lt_irrefl]
      unfold cmpI
      by_cases h4 : x.frm < y.frm
      · simp [h4]
      · by_cases h5 : y.frm < x.frm <;> simp [h4, h5]
theorem swoV : SWO (ltOf cmpV) where
  irrefl x := by
    rw [← Bool.not_eq_true, ltV_iff]
    rintro (h | ⟨_, h⟩)
    · exact List.lt_irrefl _ h
    · omega
  trans x y z h1 h2 := by
    rw [ltV_iff] at h1 h2 ⊢
    rcases h1 with h1 | ⟨e1, h1⟩
    · rcases h2 with h2 | ⟨e2, h2⟩
      · exact .inl (List.lt_trans h1 h2)
      · exact .inl (e2 ▸ h1)
    · rcases h2 with h2 | ⟨e2, h2⟩
      · exact .inl (e1 ▸ h2)
      · exact .inr ⟨e1.trans e2, by omega⟩
  ntrans x y z h1 h2 := by
    rw [← Bool.not_eq_true, ltV_iff] at h1 h2 ⊢
    intro h
    rcases tri x.name.data.toList y.name.data.toList with a | a | a
    · exact h1 (.inl a)
    · rcases tri y.name.data.toList z.name.data.toList with b | b | b
      · exact h2 (.inl b)
      · rcases h with h | ⟨_, h⟩
        · rw [a, b] at h; exact List.lt_irrefl _ h
        · have g1 : ¬ x.frm < y.frm := fun q => h1 (.inr ⟨a, q⟩)
          have g2 : ¬ y.frm < z.frm := fun q => h2 (.inr ⟨b, q⟩)
          omega
      · rcases h with h | ⟨h, _⟩
        · rw [a] at h; exact List.lt_irrefl _ (List.lt_trans h b)
        · rw [← a, h] at b; exact List.lt_irrefl _ b
    · rcases tri y.name.data.toList z.name.data.toList with b | b | b
      · exact h2 (.inl b)
      · rcases h with h | ⟨h, _⟩
        · rw [b] at a; exact List.lt_irrefl _ (List.lt_trans h a)
        · rw [h, b] at a; exact List.lt_irrefl _ a
      · rcases h with h | ⟨h, _⟩
        · exact List.lt_irrefl _ (List.lt_trans h (List.lt_trans b a))
        · have := List.lt_trans b a; rw [h] at this; exact List.lt_irrefl _ this
def srtV : List VarV → List VarV
  | [] => []
  | [x] => [x]
  | x :: y :: r => (pdq (ltOf cmpV) (x :: y :: r).toArray 0 (x :: y :: r).length (Lib.bitLen (x :: y :: r).length) true true).toList
theorem srtV_eq (xs : List VarV) : (srtV xs).toArray = pdq (ltOf cmpV) xs.toArray 0 xs.toArray.size (Lib.bitLen xs.toArray.size) true true := by
  have h := (pdq_sorts (ltOf cmpV) swoV xs.toArray 0 xs.toArray.size (Lib.bitLen xs.toArray.size) true true (Nat.zero_le _) (Nat.le_refl _) (Or.inl rfl)).1
  match xs, h with
  | [], h => exact (Array.eq_empty_of_size_eq_zero h.1).symm
  | [x], h =>
    obtain ⟨h1, _, h3⟩ := h
    generalize pdq (ltOf cmpV) [x].toArray 0 [x].toArray.size (Lib.bitLen [x].toArray.size) true true = d at h1 h3
    obtain ⟨d⟩ := d
    match d, h1 with
    | [y], _ =>
      have : [y].Perm [x] := by simpa using h3
      have := List.singleton_perm_singleton.1 this
      subst this
      rfl
  | x :: y :: r, h => simp [srtV]
theorem srtV_perm (xs : List VarV) : (srtV xs).Perm xs := by
  have h := (pdq_sorts (ltOf cmpV) swoV xs.toArray 0 xs.toArray.size (Lib.bitLen xs.toArray.size) true true (Nat.zero_le _) (Nat.le_refl _) (Or.inl rfl)).1
  rw [← srtV_eq] at h
  obtain ⟨h1, _, h3⟩ := h
  have e1 : ((srtV xs).toArray.extract 0 xs.toArray.size).toList = srtV xs := by
    rw [← h1]; simp
  have e2 : (xs.toArray.extract 0 xs.toArray.size).toList = xs := by simp
  rw [e1, e2] at h3
  exact h3
theorem srtV_len (xs : List VarV) : (srtV xs).length = xs.length := (srtV_perm xs).length_eq
theorem encV_one (x : VarV) : ∀ v ∈ encV x, v.oneCell' = true := by
  intro v hv
  simp [encV] at hv
  rcases hv with rfl | rfl | rfl | rfl | rfl | rfl <;> rfl
theorem sortFC : Abs.SortFC Try.prog 26 27 6 encV srtV :=
  ⟨fun w => (AnyF.slices_SortFunc_none sortFLays none 0 _ w).mono fun e w' ⟨h1, h2⟩ => ⟨h1, 0, #[], by rw [h2]; simp [Sort.grow, Sort.ahead]⟩,
   fun blk off cap xs w hH hb hs => by
    have eg : ∀ args w, (callFunc 27 args).run Try.prog w = .ok (.enter 27 args) w := enters_of Try.func27 (by kernel_rfl) rfl
    have key := AnyQ.slices_SortFunc_eq sortFLays 6 Try.isAgg43 Try.sizeOf43 encV (fun _ => rfl) encV_one cmpV swoV 27 #[] blk off cap xs.toArray w eg (fun _ _ _ _ x y => Cmp0.closure27 x y _) hH hb (by simpa using hs)
    rw [← srtV_eq] at key
    exact key.mono fun e w' ⟨h1, h2⟩ => ⟨h1, h2⟩⟩
end Go.Proofs.Ytmmpcomfhcpicaa
