/-
  The law TreePlaces answers true, whatever the tree; the input reads as it did. No conditions.
-/
import Derived.Test.YtmmnkemcplgebaaGreatDoorQBI
import Derived.Test.YtmmnkemcplgebaaGreatDoorQBN
import Derived.Carry
import Derived.Test.YtmmnkemcplgebaaGreatDoorTie
import Derived.Test.YtmmnkemcplgebaaGreatDoorCards
import Derived.LaidMore
import Derived.LaidOnce
import Derived.Lay
import Derived.SevenTiedAt
section
section
set_option linter.unusedSimpArgs false
set_option linter.unusedVariables false
set_option maxRecDepth 100000
namespace Go.Proofs.YtmmnkemcplgebaaGreatDoor
open Go.ChangeShapes Go.WideShapes Go.ChangeAt Go.RowKit
namespace treePlaces
set_option maxRecDepth 100000 in
theorem lifted (os : Os) (started : os.Started) (H : Type) (enc : TypeId × Value → H) :
 ReturnsInHanded {} Tryz.checked os 5 .any (fun w args => (Rows.treePlacesSpec.pre enc Tryz.prog Tryz.f5 [] false w args ∧ laidMetH Tryz.prog laid w) ∧ sizedMet enc Tryz.prog Tryz.f5 (OpenSpec.ofChange Rows.treePlacesSpec) false w args)
  (Rows.treePlacesSpec.post enc Tryz.prog Tryz.f5 false true false false) := by
 refine returnsInHanded_of_change_and (C := Tryz.checked) (X := fun w _ => laidMetH Tryz.prog laid w) (fun _ _ _ hh h => h.of_heap hh) own started (by kernel_rfl) Tryz.func5
  (ChangeSpec.witness_shaped (enc := enc) (C := Tryz.checked) (os := os) (X := fun w _ => laidMetH Tryz.prog laid w) false (World.laidAll Tryz.prog os laid) #[.agg #[.slice none 0 0, .slice none 0 0], .int .i64 0, .int .i64 0, .int .i64 0] 8 (World.laidAll_os _ _ _)
   (World.shaped_of_ZipB (by kernel_rfl) (by kernel_rfl)) (by kernel_rfl) (by kernel_rfl) (by kernel_rfl)
   (by rw [MakeChecks.laidMetH_plain _ _ _ (by kernel_rfl)]; exact laidMet_laidAll _ (by kernel_rfl) (by kernel_rfl))) ?_
 intro W base args ds gs before hval0 hW _ _ hL _
 have hval : ∀ (j : Nat) t v, Tryz.f5.params[j]? = some t → args[j]? = some v → Value.okWide Tryz.prog W .any base t v := hval0
 have hW' := hW
 obtain ⟨p, q, hA0, hV, rfl, hfz, hnd⟩ := hW
 have hA : DataW.TrodAll enc Tryz.prog W 0 (fun _ => true) true Tryz.f5.params.toList args.toList ds p := hA0
 rw [Tryz.params5] at hA hval
 obtain ⟨v0, v1, v2, v3, d0, d1, d2, d3, p0, p1, p2, p3, rfl, rfl, rfl, h0, h1, h2, h3⟩ := trodAll_four hA
 obtain ⟨rfl, rfl⟩ := trodVars_none hV
 simp only [List.append_nil] at hW'
 have hlt : ∀ x ∈ p0 ++ p1 ++ p2 ++ p3, x.block < W.heap.size := fun x hx => by simpa using hW'.lt x hx
 obtain ⟨t, nx, tx, ht, r0⟩ := tree_arg (hval 0 25 v0 rfl rfl) h0
 obtain ⟨c1, rfl⟩ := okWide_int tyI (hval 1 3 v1 rfl rfl)
 obtain ⟨c2, rfl⟩ := okWide_int tyI (hval 2 3 v2 rfl rfl)
 obtain ⟨c3, rfl⟩ := okWide_int tyI (hval 3 3 v3 rfl rfl)
 clear hA0 hval0
 rw [MakeChecks.laidMetH_plain _ _ _ (by kernel_rfl)] at hL
 obtain ⟨r, S', hev, hr⟩ := law_places t nx tx ht c1 c2 c3 Abs.S0 S0_fresh
 refine (run_ev (globs hL) (.cons r0 (.cons (.sc _) (.cons (.sc _) (.cons (.sc _) (.nil _ _))))) hev hr).mono fun e W' ⟨he, bel⟩ => ?_
 subst he
 exact ⟨_, rfl, _, _, _, [], p0 ++ p1 ++ p2 ++ p3, [], hW', trodAll_mk1 (shut_bool tyB _), (by rw [List.append_assoc, List.append_assoc]; exact trodAll_mk4 (readT h0 bel (fun x hx => hlt x (List.mem_append_left _ (List.mem_append_left _ (List.mem_append_left _ hx))))) (readI h1 bel (fun x hx => hlt x (List.mem_append_left _ (List.mem_append_left _ (List.mem_append_right _ hx))))) (readI h2 bel (fun x hx => hlt x (List.mem_append_left _ (List.mem_append_right _ hx)))) (readI h3 bel (fun x hx => hlt x (List.mem_append_right _ hx)))), rfl, bel.frame _, fun h => by cases h⟩
theorem over : Rows.TreePlacesSaid :=
 OpenClaim.holds_of_wide 5 Tryz.f5 rfl rfl rfl rfl rfl rfl rfl ⟨rfl, rfl, rfl, rfl, rfl⟩ rfl rfl rfl rfl rfl (by kernel_rfl) Tryz.func5 (by kernel_rfl)
  (of_decide_eq_true (by kernel_rfl)) (by unfold Func.isWrapper; first | (rw [if_pos (by decide +kernel)]; kernel_rfl) | (rw [if_neg (by decide +kernel)]; exact ⟨rfl, rfl⟩))
  (fun os started H enc _ => lifted os started H enc)
theorem proved : Rows.TreePlacesCardSaid :=
 Claim7.holds_tied_plain_at .later [] [.data, .data, .data, .data, .data, .pinned, .pinned, .pinned] true (true, "c18a1c4f1cb4e7cd5f97f4068ec765be9d4da339ed64ab5ab60a0f329d1dc634") false
  over (fun _ h => by cases h) (by kernel_rfl) (fun _ h => by cases h) treePlaces_row_tie rfl ⟨rfl, rfl⟩ (by kernel_rfl) rfl
  (fun f fn hf hfn => by
   obtain rfl : f = 5 := Option.some.inj ((show Tryz.prog.funcNamed "hindsight/hindsightlaw3.TreePlaces" = some 5 by kernel_rfl).symm.trans hf) |>.symm
   obtain rfl : fn = Tryz.f5 := (Option.some.inj (Tryz.func5.symm.trans hfn)).symm
   exact ⟨by kernel_rfl, fun j t ht => by
    rw [Tryz.params5] at ht
    have h3 : t = 25 ∨ t = 3 := by
     rcases j with _ | _ | _ | _ | j
     · exact .inl (by simpa using ht.symm)
     · exact .inr (by simpa using ht.symm)
     · exact .inr (by simpa using ht.symm)
     · exact .inr (by simpa using ht.symm)
     · simp at ht
    rcases h3 with rfl | rfl
    · exact (show Tryz.prog.wantsStandIn 25 = false by kernel_rfl)
    · exact (show Tryz.prog.wantsStandIn 3 = false by kernel_rfl)⟩)
  (by kernel_rfl)
#print axioms proved
end treePlaces
end Go.Proofs.YtmmnkemcplgebaaGreatDoor
end
end
