/-
  Contracts: a library function that sorts the numbers of a slice in place, by what it does. What the model does beside (blocks of its own, draws) turns nothing.
  Contracts: a library function that sorts the records of a slice in place by a function of the program.
-/
import Derived.Test.YtmmpcomfhcpicaaAbsD
import Derived.Shelf.Sort.Plain
import Derived.Shelf.Slices.In.SortNone
import Derived.Shelf.SlSortCmp.WholeK
import Derived.Shelf.SlSortCmp.NoneTotal
section
set_option linter.unusedSimpArgs false
set_option linter.unusedVariables false
namespace Go.Abs
open Go.RowKit
section
variable {E : Env} {C : Ctx} {S : St} {w : World}
theorem WR.ahead (h : WR E C S w) : ∀ n, WR E C S (Sort.ahead w n) ∧ Ext C w C (Sort.ahead w n)
  | 0 => ⟨h, Ext.refl C w⟩
  | n + 1 => by
    obtain ⟨k1, k2⟩ := WR.ahead h n
    rw [← Sort.ahead_drew]
    exact ⟨k1.drew, k2.trans (Ext.drew C _)⟩
theorem WR.grown : ∀ (os : List Obj) {C : Ctx} {w : World}, WR E C S w → ∃ C', WR E C' S (Sort.grow w os.toArray) ∧ Ext C w C' (Sort.grow w os.toArray) ∧ C'.mu = C.mu ∧ C'.bs = C.bs
  | [], C, w, h => ⟨C, by simpa using h, by simpa using Ext.refl C w, rfl, rfl⟩
  | o :: r, C, w, h => by
    obtain ⟨C', k1, k2, k3, k4⟩ := WR.grown r (h.row o 0)
    have e : Sort.grow (w.alloc o) r.toArray = Sort.grow w (o :: r).toArray := by
      rw [Sort.alloc_eq_grow, Sort.grow_grow]
      congr 1
      simp
    rw [e] at k1 k2
    exact ⟨C', k1, (Ext.row h o 0).trans k2, k3, k4⟩
theorem setCells_eq (b : Nat) : ∀ (vs : List Value) (w : World) (o : Nat), w.setCells b o vs = { w with heap := (w.setCells b o vs).heap }
  | [], _, _ => rfl
  | v :: r, w, o => by
    rw [World.setCells, setCells_eq b r]
    rfl
theorem putRow_setCells {w : World} {b off : Nat} {c : Array Value} {T : TypeId} {fz : Nat × Nat} (h : w.heap[b]? = some (.cells c T fz)) (d : Array Int) (hb : off + d.size ≤ c.size) :
    Sort.putRow (Value.int .i64) w b off d = w.setCells b off (d.toList.map (Value.int .i64)) := by
  rw [setCells_eq]
  unfold Sort.putRow Sort.mapBlock
  congr 1
  apply Array.ext_getElem?
  intro k
  rw [Array.getElem?_modify]
  by_cases hk : b = k
  · subst hk
    rw [if_pos rfl, h, heap_setCells _ _ _ _ h]
    simp only [Option.map_some, Sort.onCells, Option.some.injEq, Obj.cells.injEq, and_true]
    apply Array.ext_getElem?
    intro i
    by_cases hi : off ≤ i ∧ i < off + d.size
    · have h1 : (setAll c off (d.toList.map (Value.int .i64))).toList[i]? = (d.toList.map (Value.int .i64))[i - off]? := by
        rw [setAll_toList _ _ _ (by simpa using hb)]
        rw [List.append_assoc, List.getElem?_append_right (by simp; omega), List.getElem?_append_left (by simp; omega)]
        congr 1
        simp
        omega
      rw [← Array.getElem?_toList, ← Array.getElem?_toList, h1]
      simp only [Sort.putCells, Array.toList_mapIdx, List.getElem?_mapIdx, Array.getElem?_toList]
      have hc : i < c.size := by omega
      rw [Array.getElem?_eq_getElem hc, Option.map_some, if_pos hi, List.getElem?_map, Array.getElem?_toList, Array.getElem?_eq_getElem (by omega), Option.map_some, getElem!_pos d (i - off) (by omega)]
    · rw [setAll_get_out _ _ _ _ (by simp; omega)]
      simp only [Sort.putCells, Array.getElem?_mapIdx, if_neg hi]
      cases c[i]? <;> rfl
  · rw [if_neg hk, heap_setCells_ne _ _ _ _ (fun e => hk e.symm)]
end
/-- The numbers of cells. -/
def intsOf : List AV → Option (List Int)
  | [] => some []
  | .sc (.int .i64 z) :: r => (intsOf r).map (z :: ·)
  | _ => none
theorem intsOf_eq : ∀ {l : List AV} {zs : List Int}, intsOf l = some zs → l = zs.map fun z => .sc (.int .i64 z)
  | [], zs, h => by simp [intsOf] at h; subst h; rfl
  | x :: r, zs, h => by
    unfold intsOf at h
    split at h
    · rename_i e; cases e
    · rename_i z r' e
      simp only [List.cons.injEq] at e
      obtain ⟨rfl, rfl⟩ := e
      simp only [Option.map_eq_some_iff] at h
      obtain ⟨zs', h1, rfl⟩ := h
      simp [intsOf_eq h1]
    · cases h
/-- Numbers, sorted: as the kernel can reckon it. -/
def insI (z : Int) : List Int → List Int
  | [] => [z]
  | y :: r => bif decide (z ≤ y) then z :: y :: r else y :: insI z r
def sortI : List Int → List Int
  | [] => []
  | z :: r => insI z (sortI r)
theorem insI_perm (z : Int) : ∀ l, (insI z l).Perm (z :: l)
  | [] => List.Perm.refl _
  | y :: r => by
    unfold insI
    cases decide (z ≤ y) with
    | true => exact List.Perm.refl _
    | false => exact ((insI_perm z r).cons y).trans (List.Perm.swap z y r)
theorem insI_sorted (z : Int) : ∀ l : List Int, l.Pairwise (· ≤ ·) → (insI z l).Pairwise (· ≤ ·)
  | [], _ => by simp [insI]
  | y :: r, h => by
    unfold insI
    rw [List.pairwise_cons] at h
    by_cases hd : z ≤ y
    · rw [decide_eq_true hd, cond_true, List.pairwise_cons]
      refine ⟨fun a ha => ?_, List.pairwise_cons.2 h⟩
      rcases List.mem_cons.1 ha with rfl | ha
      · exact hd
      · exact Int.le_trans hd (h.1 a ha)
    · rw [decide_eq_false hd, cond_false, List.pairwise_cons]
      refine ⟨fun a ha => ?_, insI_sorted z r h.2⟩
      rcases List.mem_cons.1 ((insI_perm z r).mem_iff.1 ha) with rfl | ha
      · omega
      · exact h.1 a ha
theorem sortI_perm : ∀ l, (sortI l).Perm l
  | [] => List.Perm.refl _
  | z :: r => (insI_perm z (sortI r)).trans ((sortI_perm r).cons z)
theorem sortI_sorted : ∀ l, (sortI l).Pairwise (· ≤ ·)
  | [] => List.Pairwise.nil
  | z :: r => insI_sorted z _ (sortI_sorted r)
theorem sortI_merge (l : List Int) : l.mergeSort (fun x y => decide (x ≤ y)) = sortI l := by
  refine List.Perm.eq_of_pairwise (le := fun a b : Int => a ≤ b) (fun a b _ _ h1 h2 => Int.le_antisymm h1 h2) ?_ (sortI_sorted l) ((List.mergeSort_perm l _).trans (sortI_perm l).symm)
  have := List.pairwise_mergeSort (le := fun x y : Int => decide (x ≤ y)) (fun a b c h1 h2 => by simp at h1 h2 ⊢; omega) (fun a b => by simp; omega) l
  exact this.imp (fun h => by simpa using h)
theorem sortI_len (l : List Int) : (sortI l).length = l.length := (sortI_perm l).length_eq
/-- What slices.Sort does to an object's numbers. -/
def sortX (args : List AV) (S : St) : Option (AV × St) := match args with
  | [.sc (.slice none 0 0)] => some (.sc (.tuple #[]), S)
  | [.osl l 1 off len _] => match S.obj l with
    | some cs => bif Nat.blt 0 len && Nat.ble (off + len) cs.length && Nat.ble len (2 ^ 60) then
        match intsOf ((cs.drop off).take len) with
        | some zs => some (.sc (.tuple #[]), S.put l (.cells (splice cs off ((sortI zs).map fun z => .sc (.int .i64 z)))))
        | none => none
      else none
    | none => none
  | _ => none
/-- The library's contract, at a program. -/
def SortC (P : Program) (f : FuncId) : Prop := (∀ w, Calls P f #[.slice none 0 0] w fun e w' => e = .returned (.tuple #[]) ∧ w' = w) ∧
  ∀ (blk off cap : Nat) (zs : List Int) (w : World), Sort.Holds (Value.int .i64) w blk off zs.toArray → blk < w.heap.size → zs.length < 4611686018427387904 →
    Calls P f #[.slice (some ⟨blk, off, none⟩) zs.length cap] w fun e w' =>
      e = .returned (.tuple #[]) ∧ ∃ n os, w' = Sort.grow (Sort.putRow (Value.int .i64) (Sort.ahead w n) blk off (zs.mergeSort fun x y => decide (x ≤ y)).toArray) os
theorem sortX_ok {E : Env} {f : FuncId} (hc : SortC E.P f) {args : List AV} {S : St} {r : AV} {S' : St} (h : sortX args S = some (r, S')) {C : Ctx} {w : World} {vs : Array Value} (hw : WR E C S w) (hl : LR C w args vs.toList) :
    Calls E.P f vs w (fun e w' => ∃ u C', e = .returned u ∧ WR E C' S' w' ∧ Ext C w C' w' ∧ VR C' w' r u) := by
  obtain ⟨vs⟩ := vs
  unfold sortX at h
  split at h
  · simp only [Option.some.injEq, Prod.mk.injEq] at h
    obtain ⟨rfl, rfl⟩ := h
    match vs, hl with
    | [v], hl =>
      obtain rfl := hl.head.sc_inv
      refine (hc.1 w).mono ?_
      rintro e w' ⟨rfl, rfl⟩
      exact ⟨_, C, rfl, hw, Ext.refl C _, .sc _⟩
  · rename_i l off len room
    split at h
    · rename_i cs ho
      simp only [cond_eq_ite] at h
      split at h
      · rename_i hcd
        simp only [Bool.and_eq_true] at hcd
        have h0 : 0 < len := Nat.le_of_ble_eq_true hcd.1.1
        have h1 : off + len ≤ cs.length := Nat.le_of_ble_eq_true hcd.1.2
        have h2 : len ≤ 2 ^ 60 := Nat.le_of_ble_eq_true hcd.2
        split at h
        · rename_i zs hz
          simp only [Option.some.injEq, Prod.mk.injEq] at h
          obtain ⟨rfl, rfl⟩ := h
          have hzs := intsOf_eq hz
          have hzl : zs.length = len := by
            have := congrArg List.length hzs
            simp at this
            omega
          match vs, hl with
          | [v], hl =>
            cases hl.head with
            | osl _ _ _ _ _ a cap hb hs hlr hrc hro hcl ha =>
              obtain rfl := ha (by omega)
              have hobj := hw.objs l hb
              rw [obj_inv ho] at hobj
              obtain ⟨c, T, fz, hh, hlr2, k3, k4, k5, hfz⟩ := hobj
              have hsz : C.bs l + off + len ≤ c.size := by omega
              have hcell : ∀ j, j < len → c[C.bs l + off + j]? = some (.int .i64 (zs[j]!)) := by
                intro j hj
                have e1 : cs[off + j]? = some (.sc (.int .i64 zs[j]!)) := by
                  have := congrArg (fun l => l[j]?) hzs
                  simp only [List.getElem?_take, List.getElem?_drop, List.getElem?_map, if_pos hj] at this
                  rw [this, List.getElem?_eq_getElem (by omega), getElem!_pos zs j (by omega)]
                  rfl
                obtain ⟨u, h3, h4⟩ := hlr2.get e1
                have := h4.sc_inv
                subst this
                rw [List.getElem?_take, if_pos (by omega), List.getElem?_drop] at h3
                simpa [Nat.add_assoc] using h3
              have hH : Sort.Holds (Value.int .i64) w (C.mu l) (C.bs l + off) zs.toArray := by
                intro j hj
                have hj' : j < len := by simpa [hzl] using hj
                refine ⟨?_, ?_⟩
                · rw [cell_block hh, hcell j hj', getElem!_pos zs j (by omega), getElem!_pos zs.toArray j (by simpa using (by omega : j < zs.length))]
                  simp
                · have hnf := hfz.at (C.bs l + off + j) (by omega)
                  simp [World.frozen?, hh]
                  intro h1
                  by_cases h2 : C.bs l + off + j < fz.2
                  · exact absurd ⟨h1, h2⟩ hnf
                  · omega
              have key := hc.2 (C.mu l) (C.bs l + off) cap zs w hH (hw.mub l hb).2 (by omega)
              rw [hzl] at key
              refine key.mono ?_
              rintro e w' ⟨rfl, n, os, rfl⟩
              obtain ⟨w1, e1⟩ := hw.ahead n
              have hh1 : (Sort.ahead w n).heap[C.mu l]? = some (.cells c T fz) := hh
              rw [putRow_setCells hh1 _ (by rw [List.size_toArray, List.length_mergeSort]; omega), sortI_merge]
              obtain ⟨_, _, w2, e2⟩ := write_cells (off := off) (vs := (sortI zs).map fun z => .sc (.int .i64 z)) (us := (sortI zs).map (Value.int .i64)) w1 hb ho (by
                have := LR.scs (C := C) (w := Sort.ahead w n) ((sortI zs).map (Value.int .i64))
                simpa [List.map_map, Function.comp_def] using this) (by simp [sortI_len]; omega)
              obtain ⟨os⟩ := os
              obtain ⟨C', w3, e3, _, _⟩ := WR.grown os w2
              exact ⟨_, C', rfl, w3, (e1.trans e2).trans e3, .sc _⟩
        · cases h
      · cases h
    · cases h
  · cases h
theorem sortX_evo {args : List AV} {S : St} {r : AV} {S' : St} (h : sortX args S = some (r, S')) : Evo S S' := by
  unfold sortX at h
  split at h
  · simp only [Option.some.injEq, Prod.mk.injEq] at h
    obtain ⟨_, rfl⟩ := h
    exact Evo.refl _
  · split at h
    · simp only [cond_eq_ite] at h
      split at h
      · split at h
        · simp only [Option.some.injEq, Prod.mk.injEq] at h
          obtain ⟨_, rfl⟩ := h
          exact Evo.put _ _ _
        · cases h
      · cases h
    · cases h
  · cases h
theorem sortX_frm {D : Nat → Prop} {A X : St} {args : List AV} {r : AV} {A' : St} (k : Frm D A X) (h : sortX args A = some (r, A')) : Does D A X r A' (sortX args X) := by
  unfold sortX at h ⊢
  split at h
  · simp only [Option.some.injEq, Prod.mk.injEq] at h
    obtain ⟨rfl, rfl⟩ := h
    exact ⟨X, rfl, Stp.refl k⟩
  · rename_i l off len room
    split at h
    · rename_i cs ho
      obtain ⟨hd, hx⟩ := k.objc ho
      simp only [hx]
      simp only [cond_eq_ite] at h ⊢
      split at h
      · rename_i hcd
        rw [if_pos hcd]
        cases hz : intsOf ((cs.drop off).take len) with
        | none => rw [hz] at h; cases h
        | some zs =>
          rw [hz] at h
          simp only [Option.some.injEq, Prod.mk.injEq] at h
          obtain ⟨rfl, rfl⟩ := h
          exact ⟨_, rfl, Stp.put k hd _⟩
      · cases h
    · cases h
  · cases h
end Go.Abs
end

section
set_option linter.unusedSimpArgs false
set_option linter.unusedVariables false
set_option linter.unusedSectionVars false
namespace Go.Abs
open Go.RowKit
section
variable {α : Type} [Inhabited α] {enc : α → List Value} {k : Nat}
theorem flatMap_get (hk : ∀ x, (enc x).length = k) (k0 : 0 < k) : ∀ (xs : List α) (t : Nat), t < xs.length * k → (xs.flatMap enc)[t]? = (enc xs[t / k]!)[t % k]?
  | [], t, h => by simp at h
  | x :: r, t, h => by
    rw [List.flatMap_cons]
    by_cases ht : t < k
    · rw [List.getElem?_append_left (by rw [hk]; exact ht), Nat.div_eq_of_lt ht, Nat.mod_eq_of_lt ht]
      rfl
    · rw [List.getElem?_append_right (by rw [hk]; omega), hk, flatMap_get hk k0 r (t - k) (by
        simp only [List.length_cons] at h
        rw [Nat.succ_mul] at h
        omega)]
      have e1 : t / k = (t - k) / k + 1 := by
        rw [Nat.div_eq_sub_div k0 (by omega)]
      have e2 : t % k = (t - k) % k := Nat.mod_eq_sub_mod (by omega)
      rw [e1, e2]
      rfl
theorem flatMap_len2 (hk : ∀ x, (enc x).length = k) : ∀ xs : List α, (xs.flatMap enc).length = xs.length * k
  | [] => by simp
  | x :: r => by rw [List.flatMap_cons, List.length_append, hk, flatMap_len2 hk r, List.length_cons, Nat.succ_mul]; omega
theorem flatK_list (hk : ∀ x, (enc x).length = k) (k0 : 0 < k) (xs : List α) : (Sort.flatK enc k xs.toArray).toList = xs.flatMap enc := by
  apply List.ext_getElem?
  intro t
  rw [Array.getElem?_toList]
  by_cases ht : t < xs.length * k
  · have h1 : t < (Sort.flatK enc k xs.toArray).size := by rw [Sort.size_flatK]; simpa using ht
    rw [Array.getElem?_eq_getElem h1, flatMap_get hk k0 xs t ht]
    have h2 := Sort.get_flatK enc k xs.toArray t (by simpa using ht)
    rw [getElem!_pos _ t h1] at h2
    rw [h2]
    have h3 : t % k < (enc xs.toArray[t / k]!).length := by rw [hk]; exact Nat.mod_lt _ k0
    have e : xs.toArray[t / k]! = xs[t / k]! := by simp
    rw [e] at h3 ⊢
    rw [getElem!_pos (enc xs[t / k]!) (t % k) h3, List.getElem?_eq_getElem h3]
  · rw [Array.getElem?_eq_none (by rw [Sort.size_flatK]; simp; omega), List.getElem?_eq_none (by rw [flatMap_len2 hk]; omega)]
theorem putRow_setCells' {β : Type} [Inhabited β] {en : β → Value} {w : World} {b off : Nat} {c : Array Value} {T : TypeId} {fz : Nat × Nat} (h : w.heap[b]? = some (.cells c T fz)) (d : Array β) (hb : off + d.size ≤ c.size) :
    Sort.putRow en w b off d = w.setCells b off (d.toList.map en) := by
  rw [setCells_eq]
  unfold Sort.putRow Sort.mapBlock
  congr 1
  apply Array.ext_getElem?
  intro k
  rw [Array.getElem?_modify]
  by_cases hk : b = k
  · subst hk
    rw [if_pos rfl, h, heap_setCells _ _ _ _ h]
    simp only [Option.map_some, Sort.onCells, Option.some.injEq, Obj.cells.injEq, and_true]
    apply Array.ext_getElem?
    intro i
    by_cases hi : off ≤ i ∧ i < off + d.size
    · have h1 : (setAll c off (d.toList.map en)).toList[i]? = (d.toList.map en)[i - off]? := by
        rw [setAll_toList _ _ _ (by simpa using hb)]
        rw [List.append_assoc, List.getElem?_append_right (by simp; omega), List.getElem?_append_left (by simp; omega)]
        congr 1
        simp
        omega
      rw [← Array.getElem?_toList, ← Array.getElem?_toList, h1]
      simp only [Sort.putCells, Array.toList_mapIdx, List.getElem?_mapIdx, Array.getElem?_toList]
      have hc : i < c.size := by omega
      rw [Array.getElem?_eq_getElem hc, Option.map_some, if_pos hi, List.getElem?_map, Array.getElem?_toList, Array.getElem?_eq_getElem (by omega), Option.map_some, getElem!_pos d (i - off) (by omega)]
    · rw [setAll_get_out _ _ _ _ (by simp; omega)]
      simp only [Sort.putCells, Array.getElem?_mapIdx, if_neg hi]
      cases c[i]? <;> rfl
  · rw [if_neg hk, heap_setCells_ne _ _ _ _ (fun e => hk e.symm)]
/-- So many records, read off cells. -/
def recsOf (parse : List AV → Option α) (k : Nat) : Nat → List AV → Option (List α)
  | 0, _ => some []
  | n + 1, cs => match parse (cs.take k), recsOf parse k n (cs.drop k) with
    | some x, some l => some (x :: l)
    | _, _ => none
theorem recsOf_eq {parse : List AV → Option α} (hp : ∀ cs x, parse cs = some x → cs = (enc x).map .sc) : ∀ (n : Nat) (cs : List AV) (xs : List α), recsOf parse k n cs = some xs → cs.take (n * k) = (xs.flatMap enc).map .sc ∧ xs.length = n
  | 0, cs, xs, h => by
    simp only [recsOf, Option.some.injEq] at h
    subst h
    simp
  | n + 1, cs, xs, h => by
    simp only [recsOf] at h
    split at h
    · rename_i x l h1 h2
      simp only [Option.some.injEq] at h
      subst h
      obtain ⟨e1, e2⟩ := recsOf_eq hp n _ _ h2
      have e3 := hp _ _ h1
      refine ⟨?_, by simp [e2]⟩
      rw [Nat.succ_mul, Nat.add_comm (n * k) k, List.take_add, e3, e1, List.flatMap_cons, List.map_append]
    · cases h
/-- What sorting by a function of the program does to an object's records. -/
def sortFX (g k : Nat) (parse : List AV → Option α) (enc : α → List Value) (srt : List α → List α) (args : List AV) (S : St) : Option (AV × St) := match args with
  | [.sc (.slice none 0 0), .sc (.func (.func g') f c)] => bif Nat.beq g' g && f.isEmpty && c.isEmpty then some (.sc (.tuple #[]), S) else none
  | [.vec id _ [], .sc (.func (.func g') f c)] => bif Nat.beq g' g && f.isEmpty && c.isEmpty && !Nat.beq id 0 then some (.sc (.tuple #[]), S) else none
  | [.osl l sz off len _, .sc (.func (.func g') f c)] => match S.obj l with
    | some cs => bif Nat.beq g' g && f.isEmpty && c.isEmpty && Nat.beq sz k && Nat.blt 0 len && Nat.ble (off + len * k) cs.length && Nat.ble len (2 ^ 50) then
        match recsOf parse k len (cs.drop off) with
        | some xs => some (.sc (.tuple #[]), S.put l (.cells (splice cs off (((srt xs).flatMap enc).map .sc))))
        | none => none
      else none
    | none => none
  | _ => none
/-- The library's contract, at a program. -/
def SortFC (P : Program) (f g k : Nat) (enc : α → List Value) (srt : List α → List α) : Prop :=
  (∀ w, Calls P f #[.slice none 0 0, .func (.func g) #[] #[]] w fun e w' => e = .returned (.tuple #[]) ∧ ∃ n os, w' = Sort.grow (Sort.ahead w n) os) ∧
  ∀ (blk off cap : Nat) (xs : List α) (w : World), Sort.HoldsK enc k w blk off xs.toArray → blk < w.heap.size → xs.length < 4611686018427387904 →
    Calls P f #[.slice (some ⟨blk, off, none⟩) xs.length cap, .func (.func g) #[] #[]] w fun e w' => e = .returned (.tuple #[]) ∧ ∃ n os, w' = Go.Proofs.sortWorldK enc k w blk off n (srt xs).toArray os
theorem sortFX_ok {E : Env} {f g : Nat} {parse : List AV → Option α} {srt : List α → List α} (hc : SortFC E.P f g k enc srt) (hk : ∀ x, (enc x).length = k) (k0 : 0 < k) (hp : ∀ cs x, parse cs = some x → cs = (enc x).map .sc) (hs : ∀ xs, (srt xs).length = xs.length)
    {args : List AV} {S : St} {r : AV} {S' : St} (h : sortFX g k parse enc srt args S = some (r, S')) {C : Ctx} {w : World} {vs : Array Value} (hw : WR E C S w) (hl : LR C w args vs.toList) :
    Calls E.P f vs w (fun e w' => ∃ u C', e = .returned u ∧ WR E C' S' w' ∧ Ext C w C' w' ∧ VR C' w' r u) := by
  obtain ⟨vs⟩ := vs
  unfold sortFX at h
  split at h
  · rename_i g' ff cc
    simp only [cond_eq_ite] at h
    split at h
    · rename_i hcd
      simp only [Bool.and_eq_true] at hcd
      have e1 := Nat.eq_of_beq_eq_true hcd.1.1
      have e2 : ff = #[] := by simpa using hcd.1.2
      have e3 : cc = #[] := by simpa using hcd.2
      subst e1; subst e2; subst e3
      simp only [Option.some.injEq, Prod.mk.injEq] at h
      obtain ⟨rfl, rfl⟩ := h
      match vs, hl with
      | [v, v2], hl =>
        obtain rfl := hl.head.sc_inv
        obtain rfl := hl.tail.head.sc_inv
        refine (hc.1 w).mono ?_
        rintro e w' ⟨rfl, n, os, rfl⟩
        obtain ⟨w1, x1⟩ := hw.ahead n
        obtain ⟨os⟩ := os
        obtain ⟨C', w3, x3, _, _⟩ := WR.grown os w1
        exact ⟨_, C', rfl, w3, x1.trans x3, .sc _⟩
    · cases h
  · rename_i id sz g' ff cc
    simp only [cond_eq_ite] at h
    split at h
    · rename_i hcd
      simp only [Bool.and_eq_true] at hcd
      have e1 := Nat.eq_of_beq_eq_true hcd.1.1.1
      have e2 : ff = #[] := by simpa using hcd.1.1.2
      have e3 : cc = #[] := by simpa using hcd.1.2
      have e4 : id ≠ 0 := by
        intro e
        subst e
        simp at hcd
      subst e1; subst e2; subst e3
      simp only [Option.some.injEq, Prod.mk.injEq] at h
      obtain ⟨rfl, rfl⟩ := h
      match vs, hl with
      | [v, v2], hl =>
        obtain rfl := hl.tail.head.sc_inv
        have he : (#[] : Array α).size = 0 := rfl
        generalize hxs : ([] : List AV) = xs0 at hl
        cases hl.head with
        | vec0 => exact absurd rfl e4
        | vec _ _ _ fl b o cap u hsp hlc hfl hb hf ht hcc hr hid hx1 hx2 =>
          subst hxs
          have key := hc.2 b o cap [] w (fun j hj => by rw [Sort.size_flatK] at hj; simp at hj) hb (by simp)
          have hlen : (srt []).toArray = #[] := by
            have := hs []
            rw [List.length_nil] at this
            rw [List.length_eq_zero_iff.1 this]
          refine key.mono ?_
          rintro e w' ⟨rfl, n, os, rfl⟩
          obtain ⟨w1, x1⟩ := hw.ahead n
          have hput : Sort.putRowK enc k (Sort.ahead w n) b o (srt []).toArray = Sort.ahead w n := by
            rw [hlen]
            unfold Sort.putRowK Sort.putRow
            refine Sort.mapBlock_id _ _ _ fun c e fr _ => ?_
            apply Array.ext_getElem?
            intro i
            simp only [Sort.putCells, Array.getElem?_mapIdx, Sort.size_flatK]
            have : ¬ (o ≤ i ∧ i < o + (#[] : Array α).size * k) := by simp
            cases c[i]? with
            | none => rfl
            | some x => simp only [Option.map_some, if_neg this]
          unfold Go.Proofs.sortWorldK
          rw [hput]
          obtain ⟨os⟩ := os
          obtain ⟨C', w3, x3, _, _⟩ := WR.grown os w1
          exact ⟨_, C', rfl, w3, x1.trans x3, .sc _⟩
    · cases h
  · rename_i l sz off len room g' ff cc
    split at h
    · rename_i cs ho
      simp only [cond_eq_ite] at h
      split at h
      · rename_i hcd
        simp only [Bool.and_eq_true] at hcd
        obtain ⟨⟨⟨⟨⟨⟨d1, d2⟩, d3⟩, d4⟩, d5⟩, d6⟩, d7⟩ := hcd
        have e1 := Nat.eq_of_beq_eq_true d1
        have e2 : ff = #[] := by simpa using d2
        have e3 : cc = #[] := by simpa using d3
        have e4 := Nat.eq_of_beq_eq_true d4
        have h0 : 0 < len := Nat.le_of_ble_eq_true d5
        have h1 : off + len * k ≤ cs.length := Nat.le_of_ble_eq_true d6
        have h2 : len ≤ 2 ^ 50 := Nat.le_of_ble_eq_true d7
        subst e1; subst e2; subst e3; subst e4
        split at h
        · rename_i xs hz
          simp only [Option.some.injEq, Prod.mk.injEq] at h
          obtain ⟨rfl, rfl⟩ := h
          obtain ⟨hxs, hxl⟩ := recsOf_eq hp _ _ _ hz
          have hfl := flatMap_len2 hk xs
          match vs, hl with
          | [v, v2], hl =>
            obtain rfl := hl.tail.head.sc_inv
            cases hl.head with
            | osl _ _ _ _ _ a cap hb hsp hlr hrc hro hcl ha =>
              obtain rfl := ha (by omega)
              have hobj := hw.objs l hb
              rw [obj_inv ho] at hobj
              obtain ⟨c, T, fz, hh, hlr2, k3, k4, k5, hfz⟩ := hobj
              have hsz : C.bs l + off + len * sz ≤ c.size := by omega
              have hcell : ∀ j, j < len * sz → c[C.bs l + off + j]? = (xs.flatMap enc)[j]? := by
                intro j hj
                have hjl : j < (xs.flatMap enc).length := by rw [hfl, hxl]; exact hj
                have e1 : cs[off + j]? = some (.sc (xs.flatMap enc)[j]) := by
                  have := congrArg (fun l => l[j]?) hxs
                  simp only [List.getElem?_take, List.getElem?_drop, List.getElem?_map, if_pos hj] at this
                  rw [this, List.getElem?_eq_getElem hjl]
                  rfl
                obtain ⟨u, h3, h4⟩ := hlr2.get e1
                have := h4.sc_inv
                subst this
                rw [List.getElem?_take, if_pos (by omega), List.getElem?_drop] at h3
                rw [List.getElem?_eq_getElem hjl]
                simpa [Nat.add_assoc] using h3
              have hfk := flatK_list hk k0 xs
              have hsk : (Sort.flatK enc sz xs.toArray).size = len * sz := by rw [Sort.size_flatK]; simp [hxl]
              have hH : Sort.HoldsK enc sz w (C.mu l) (C.bs l + off) xs.toArray := by
                intro j hj
                rw [hsk] at hj
                refine ⟨?_, ?_⟩
                · rw [cell_block hh, hcell j hj, ← hfk, Array.getElem?_toList, Array.getElem?_eq_getElem (by rw [hsk]; exact hj), getElem!_pos _ j (by rw [hsk]; exact hj)]
                  rfl
                · have hnf := hfz.at (C.bs l + off + j) (by omega)
                  simp [World.frozen?, hh]
                  intro h1
                  by_cases h2 : C.bs l + off + j < fz.2
                  · exact absurd ⟨h1, h2⟩ hnf
                  · omega
              have key := hc.2 (C.mu l) (C.bs l + off) cap xs w hH (hw.mub l hb).2 (by omega)
              rw [hxl] at key
              refine key.mono ?_
              rintro e w' ⟨rfl, n, os, rfl⟩
              obtain ⟨w1, x1⟩ := hw.ahead n
              have hh1 : (Sort.ahead w n).heap[C.mu l]? = some (.cells c T fz) := hh
              have hsk2 : (Sort.flatK enc sz (srt xs).toArray).size = len * sz := by rw [Sort.size_flatK]; simp [hxl, hs]
              have hfk2 := flatK_list hk k0 (srt xs)
              unfold Go.Proofs.sortWorldK Sort.putRowK
              rw [putRow_setCells' hh1 _ (by rw [hsk2]; omega), hfk2, List.map_id]
              have hl3 : ((srt xs).flatMap enc).length = len * sz := by rw [flatMap_len2 hk, hs, hxl]
              obtain ⟨_, _, w2, x2⟩ := write_cells (off := off) (vs := ((srt xs).flatMap enc).map .sc) (us := (srt xs).flatMap enc) w1 hb ho (LR.scs _) (by rw [List.length_map, hl3]; exact h1)
              obtain ⟨os⟩ := os
              obtain ⟨C', w3, x3, _, _⟩ := WR.grown os w2
              exact ⟨_, C', rfl, w3, (x1.trans x2).trans x3, .sc _⟩
        · cases h
      · cases h
    · cases h
  · cases h
theorem sortFX_evo {g : Nat} {parse : List AV → Option α} {srt : List α → List α} {args : List AV} {S : St} {r : AV} {S' : St} (h : sortFX g k parse enc srt args S = some (r, S')) : Evo S S' := by
  unfold sortFX at h
  split at h
  · simp only [cond_eq_ite] at h
    split at h
    · simp only [Option.some.injEq, Prod.mk.injEq] at h
      obtain ⟨_, rfl⟩ := h
      exact Evo.refl _
    · cases h
  · simp only [cond_eq_ite] at h
    split at h
    · simp only [Option.some.injEq, Prod.mk.injEq] at h
      obtain ⟨_, rfl⟩ := h
      exact Evo.refl _
    · cases h
  · split at h
    · simp only [cond_eq_ite] at h
      split at h
      · split at h
        · simp only [Option.some.injEq, Prod.mk.injEq] at h
          obtain ⟨_, rfl⟩ := h
          exact Evo.put _ _ _
        · cases h
      · cases h
    · cases h
  · cases h
theorem sortFX_frm {g : Nat} {parse : List AV → Option α} {srt : List α → List α} {D : Nat → Prop} {A X : St} {args : List AV} {r : AV} {A' : St} (q : Frm D A X) (h : sortFX g k parse enc srt args A = some (r, A')) : Does D A X r A' (sortFX g k parse enc srt args X) := by
  unfold sortFX at h ⊢
  split at h
  · simp only [cond_eq_ite] at h ⊢
    split at h
    · rename_i hcd
      rw [if_pos hcd]
      simp only [Option.some.injEq, Prod.mk.injEq] at h
      obtain ⟨rfl, rfl⟩ := h
      exact ⟨X, rfl, Stp.refl q⟩
    · cases h
  · simp only [cond_eq_ite] at h ⊢
    split at h
    · rename_i hcd
      rw [if_pos hcd]
      simp only [Option.some.injEq, Prod.mk.injEq] at h
      obtain ⟨rfl, rfl⟩ := h
      exact ⟨X, rfl, Stp.refl q⟩
    · cases h
  · rename_i l sz off len room g' ff cc
    split at h
    · rename_i cs ho
      obtain ⟨hd, hx⟩ := q.objc ho
      simp only [hx]
      simp only [cond_eq_ite] at h ⊢
      split at h
      · rename_i hcd
        rw [if_pos hcd]
        cases hz : recsOf parse k len (cs.drop off) with
        | none => rw [hz] at h; cases h
        | some xs =>
          rw [hz] at h
          simp only [Option.some.injEq, Prod.mk.injEq] at h
          obtain ⟨rfl, rfl⟩ := h
          exact ⟨_, rfl, Stp.put q hd _⟩
      · cases h
    · cases h
  · cases h
end
end Go.Abs
end
