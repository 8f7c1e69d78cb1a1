/-
  The law TreeSays answers true, whatever the tree, the place and the name; the input reads az it did. No conditions.
-/
import Derived.Test.YthjaoinieikjdaaGreatDoorUBD
import Derived.Test.YthjaoinieikjdaaGreatDoorUBQ
import Derived.Carry
import Derived.Test.YthjaoinieikjdaaGreatDoorTie
import Derived.Test.YthjaoinieikjdaaGreatDoorCards
import Derived.LaidMore
import Derived.LaidOnce
import Derived.Lay
import Derived.SevenTiedAt
set_option linter.unusedSimpArgs false
set_option linter.unusedVariables false
set_option maxRecDepth 100000
namespace Go.Proofs.YthjaoinieikjdaaGreatDoor
open Go.ChangeShapes Go.WideShapes Go.ChangeAt Go.RowKit
theorem readS {H : Type} {enc : TypeId × Value → H} {W W' : World} {v : Value} {d : DataW H} {p : List MemPlace} (h : DataW.Trod enc Tryz.prog W 0 (fun _ => true) true 9 v d p) (hb : Below W.heap.size W W') (hlt : ∀ x ∈ p, x.block < W.heap.size) :
 DataW.Trod enc Tryz.prog W' 0 (fun b => decide (b < W.heap.size)) true 9 v d p := Below.trod wn0 (by kernel_rfl) (lQ (by kernel_rfl)) h hb hlt
namespace treeSays
set_option maxRecDepth 100000 in
theorem lifted (os : Os) (started : os.Started) (H : Type) (enc : TypeId × Value → H) :
 ReturnsInHanded {} Tryz.checked os 7 .any (fun w args => (Rows.treeSaysSpec.pre enc Tryz.prog Tryz.f7 [] false w args ∧ laidMetH Tryz.prog pR w) ∧ sizedMet enc Tryz.prog Tryz.f7 (OpenSpec.ofChange Rows.treeSaysSpec) false w args)
  (Rows.treeSaysSpec.post enc Tryz.prog Tryz.f7 false true false false) := by
 refine returnsInHanded_of_change_and (C := Tryz.checked) (X := fun w _ => laidMetH Tryz.prog pR w) (fun _ _ _ hh h => h.of_heap hh) own started (by kernel_rfl) Tryz.func7
  (ChangeSpec.witness_shaped (enc := enc) (C := Tryz.checked) (os := os) (X := fun w _ => laidMetH Tryz.prog pR w) false (World.laidAll Tryz.prog os pR) #[.agg #[.slice none 0 0, .slice none 0 0], .int .i64 0, .string ⟨#[]⟩] 8 (World.laidAll_os _ _ _)
   (World.shaped_of_ZipB (by kernel_rfl) (by kernel_rfl)) (by kernel_rfl) (by kernel_rfl) (by kernel_rfl)
   (by rw [MakeChecks.laidMetH_plain _ _ _ (by kernel_rfl)]; exact laidMet_laidAll _ (by kernel_rfl) (by kernel_rfl))) ?_
 intro W base args ds gs before hval0 hW _ _ hL _
 have hval : ∀ (j : Nat) t v, Tryz.f7.params[j]? = some t → args[j]? = some v → Value.okWide Tryz.prog W .any base t v := hval0
 have hW' := hW
 obtain ⟨p, q, hA0, hV, rfl, hfz, hnd⟩ := hW
 have hA : DataW.TrodAll enc Tryz.prog W 0 (fun _ => true) true Tryz.f7.params.toList args.toList ds p := hA0
 rw [Tryz.params7] at hA hval
 obtain ⟨v0, v1, v2, d0, d1, d2, p0, p1, p2, rfl, rfl, rfl, h0, h1, h2⟩ := trodAll_three hA
 obtain ⟨rfl, rfl⟩ := trodVars_none hV
 simp only [dK] at hW'
 have hlt : ∀ x ∈ p0 ++ p1 ++ p2, x.block < W.heap.size := fun x hx => by simpa using hW'.lt x hx
 obtain ⟨t, nx, tx, ht, r0⟩ := kx0 (hval 0 26 v0 rfl rfl) h0
 obtain ⟨c1, rfl⟩ := okWide_int tyI (hval 1 3 v1 rfl rfl)
 obtain ⟨c2, rfl⟩ := okWide_string tyS (hval 2 9 v2 rfl rfl)
 clear hA0 hval0
 rw [MakeChecks.laidMetH_plain _ _ _ (by kernel_rfl)] at hL
 obtain ⟨r, S', hev, hr⟩ := jb1 t nx tx ht c1 c2 Abs.S0 jh9
 refine (run_ev (globs hL) (.cons r0 (.cons (.sc _) (.cons (.sc _) (.nil _ _)))) hev hr).mono fun e W' ⟨he, bel⟩ => ?_
 subst he
 exact ⟨_, rfl, _, _, _, [], p0 ++ p1 ++ p2, [], hW', trodAll_mk1 (shut_bool tyB _), (by rw [pT]; exact trodAll_mk3 (readT h0 bel (fun x hx => hlt x (qU _ (qU _ hx)))) (readI h1 bel (fun x hx => hlt x (qU _ (List.mem_append_right _ hx)))) (readS h2 bel (fun x hx => hlt x (List.mem_append_right _ hx)))), rfl, bel.frame _, fun h => by cases h⟩
theorem over : Rows.TreeSaysSaid :=
 OpenClaim.holds_of_wide 7 Tryz.f7 rfl rfl rfl rfl rfl rfl rfl ⟨rfl, rfl, rfl, rfl, rfl⟩ rfl rfl rfl rfl rfl (by kernel_rfl) Tryz.func7 (by kernel_rfl)
  (lQ (by kernel_rfl)) (by unfold Func.isWrapper; first | (rw [bN (by decide +kernel)]; kernel_rfl) | (rw [aR (by decide +kernel)]; exact ⟨rfl, rfl⟩))
  (fun os started H enc _ => lifted os started H enc)
theorem proved : Rows.TreeSaysCardSaid :=
 Claim7.holds_tied_plain_at .later [] [.data, .data, .data, .data, .data, .pinned, .pinned, .pinned] true (true, "aadbce135cdd32214bb237f262ea06d942474da2484e97b9936f5af1d2e8ec18") false
  over (fun _ h => by cases h) (by kernel_rfl) (fun _ h => by cases h) treeSays_row_tie rfl ⟨rfl, rfl⟩ (by kernel_rfl) rfl
  (fun f fn hf hfn => by
   obtain rfl : f = 7 := cZ ((show Tryz.prog.funcNamed "hindsight/hindsightlaw3.TreeSays" = some 7 by kernel_rfl).symm.trans hf) |>.symm
   obtain rfl : fn = Tryz.f7 := (cZ (Tryz.func7.symm.trans hfn)).symm
   exact ⟨by kernel_rfl, fun j t ht => by
    rw [Tryz.params7] at ht
    have h3 : t = 26 ∨ t = 3 ∨ t = 9 := by
     rcases j with _ | _ | _ | j
     · exact .inl (by simpa using ht.symm)
     · exact .inr (.inl (by simpa using ht.symm))
     · exact .inr (.inr (by simpa using ht.symm))
     · simp at ht
    rcases h3 with rfl | rfl | rfl
    · exact (show Tryz.prog.wantsStandIn 26 = false by kernel_rfl)
    · exact (show Tryz.prog.wantsStandIn 3 = false by kernel_rfl)
    · exact (show Tryz.prog.wantsStandIn 9 = false by kernel_rfl)⟩)
  (by kernel_rfl)
#print axioms proved
end treeSays
end Go.Proofs.YthjaoinieikjdaaGreatDoor
