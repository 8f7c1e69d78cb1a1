/-
  Later worlds, in which nothing that was there has turned.
-/
import Derived.Test.YtfgdhcomldidlaaGreatDoorAbs13
set_option linter.unusedSimpArgs false
set_option linter.unusedVariables false
namespace Go.Abs
open Go.RowKit Go.MapKept

section
variable {E : Env} {C : Ctx} {S : St} {w w' : World}
theorem shape_same {b : Nat} (h : w'.heap[b]? = w.heap[b]?) : w'.shape? b = w.shape? b := by simp only [World.shape?, h]
theorem shape_lt {b : Nat} {x : TypeId × Nat} (h : w.shape? b = some x) : b < w.heap.size := by
  rcases Nat.lt_or_ge b w.heap.size with h' | h'
  · exact h'
  · simp [World.shape?, Array.getElem?_eq_none h'] at h
/-- Later, nothing that was there having turned. -/
theorem Ext.later (hw : WR E C S w) (hb : Below w.heap.size w w') : Ext C w C w' :=
  ⟨⟨fun _ h => ⟨h, rfl, rfl, rfl, rfl⟩, Nat.le_refl _, fun _ _ => rfl, fun i h1 h2 => absurd h2 (by omega), fun l h1 h2 => absurd h2 h1, hb.size, fun _ _ => Nat.le_refl _,
    fun b o h _ _ => by simp only [World.cell?, hb.block b h], rfl, ⟨hb.mono hw.bs, trivial⟩, fun b x hx => by rw [shape_same (hb.block b (shape_lt hx))]; exact hx, rfl⟩, Nat.le_refl _, fun l h1 h2 => absurd h2 h1⟩
theorem WR.later (hw : WR E C S w) (hb : Below w.heap.size w w') : WR E C S w' := by
  have e := Ext.later hw hb
  refine ⟨hw.no, hw.unb, hw.nid, hw.nid1, by have := hw.bs; have := hb.size; omega, hw.inj, fun l hl => ⟨(hw.mub l hl).1, by have := (hw.mub l hl).2; have := hb.size; omega⟩, fun l hl => ?_, hw.unob, fun i h0 hi => ?_, hw.idi, fun g cs hg => (hw.glob g cs hg).ext e, hw.fresh, fun l x hl hx => ?_, hw.shu, fun i T h0 hi hT => ?_⟩
  · rw [hb.block _ (hw.mub l hl).2]
    exact (hw.objs l hl).ext e.toExtW hl
  · have k := hw.ids i h0 hi
    exact k.same hb.size (hb.block _ k.lt)
  · obtain ⟨k1, k2⟩ := hw.shp l x hl hx
    exact ⟨k1, by rw [shape_same (hb.block _ (hw.mub l hl).2)]; exact k2⟩
  · obtain ⟨c, fz, k1, k2⟩ := hw.ity i T h0 hi hT
    exact ⟨c, fz, by rw [hb.block _ (hw.ids i h0 hi).lt]; exact k1, k2⟩

/-- A new object in a block that has come meanwhile. -/
theorem WR.laterBear (hw : WR E C S w) (hb : Below w.heap.size w w') {gb : Nat} (h1 : w.heap.size ≤ gb) (h2 : gb < w'.heap.size) {cs : List AV} {c : Array Value} {T : TypeId} {lim : Nat} (hg : w'.heap[gb]? = some (.cells c T (0, 0)))
    (hl : ∀ C', LR C' w' cs (c.toList.take cs.length)) (hlim : cs.length ≤ lim) (hsz : lim ≤ c.size) :
    WR E (C.bear S.no gb 0 cs.length lim (S.no + 1)) (S.newObj cs) w' ∧ Ext C w (C.bear S.no gb 0 cs.length lim (S.no + 1)) w' := by
  have hn : ¬ C.born S.no := hw.unb _ (Nat.le_refl _)
  have e : Ext C w (C.bear S.no gb 0 cs.length lim (S.no + 1)) w' := by
    refine ⟨⟨fun l hl' => ?_, Nat.le_refl _, fun _ _ => rfl, fun i h1 h2 => absurd h2 (by show ¬ i < C.nid; omega), fun l h1' h2' => ?_, hb.size, fun _ _ => Nat.le_refl _, fun b o h _ _ => by simp only [World.cell?, hb.block b h], rfl, ⟨hb.mono hw.bs, trivial⟩, fun b x hx => by rw [shape_same (hb.block b (shape_lt hx))]; exact hx, rfl⟩, by show C.no ≤ S.no + 1; rw [hw.no]; exact Nat.le_succ _, fun l h1' h2' => ?_⟩
    · have hne : l ≠ S.no := fun e => hn (e ▸ hl')
      obtain ⟨a1, a2, a3, a4⟩ := C.bear_ne (b := gb) (o := 0) (len := cs.length) (lim := lim) (no' := S.no + 1) hne
      exact ⟨.inl hl', a1, a2, a3, a4⟩
    · have : l = S.no := h2'.resolve_left h1'
      rw [this, Ctx.bear_at.1]; exact .inl h1
    · have : l = S.no := h2'.resolve_left h1'
      rw [this, hw.no]; exact Nat.le_refl _
  have hget : ∀ l, (S.newObj cs).objs.get l = if l = S.no then some (.cells cs) else S.objs.get l := fun l => by
    show (S.objs.set S.no _).get l = _
    rw [PM.get_set]
  refine ⟨⟨rfl, fun l hl' hb' => ?_, hw.nid, hw.nid1, by have := hw.bs; have := hb.size; simp [Ctx.bear]; omega, fun l l' hl' hl'' ha ha' heq => ?_, fun l hl' => ?_, fun l hl' => ?_, fun l hl' => ?_, fun i h0 hi => ?_, hw.idi, fun g cs hG => (hw.glob g cs hG).ext e, hw.fresh, fun l x hl' hx => ?_, fun l hl' => ?_, fun i T' h0 hi hT => ?_⟩, e⟩
  · have hl' : S.no + 1 ≤ l := hl'
    rcases hb' with hb' | hb'
    · exact hw.unb l (by omega) hb'
    · omega
  · by_cases q1 : l = S.no
    · by_cases q2 : l' = S.no
      · rw [q1, q2]
      · have b2 := hl''.resolve_right q2
        rw [q1, Ctx.bear_at.1, (Ctx.bear_ne q2).1] at heq
        have := (hw.mub l' b2).2; omega
    · have b1 := hl'.resolve_right q1
      by_cases q2 : l' = S.no
      · rw [q2, Ctx.bear_at.1, (Ctx.bear_ne q1).1] at heq
        have := (hw.mub l b1).2; omega
      · have b2 := hl''.resolve_right q2
        rw [(Ctx.bear_ne q1).1, (Ctx.bear_ne q2).1] at heq
        rw [hget, if_neg q1] at ha
        rw [hget, if_neg q2] at ha'
        exact hw.inj l l' b1 b2 ha ha' heq
  · by_cases q : l = S.no
    · rw [q, Ctx.bear_at.1]; have := hw.bs; exact ⟨by show C.base ≤ gb; omega, h2⟩
    · rw [(Ctx.bear_ne q).1]
      have h3 := hw.mub l (hl'.resolve_right q)
      have h4 := hb.size
      exact ⟨h3.1, by omega⟩
  · rw [hget]
    by_cases q : l = S.no
    · rw [if_pos q, q, Ctx.bear_at.1, hg]
      refine ⟨c, T, (0, 0), rfl, ?_, ?_, ?_, ?_, .inl rfl⟩
      · rw [Ctx.bear_at.2.1, List.drop_zero]; exact hl _
      · rw [Ctx.bear_at.2.2.1]
      · rw [Ctx.bear_at.2.2.1, Ctx.bear_at.2.2.2]; exact hlim
      · rw [Ctx.bear_at.2.1, Ctx.bear_at.2.2.2]; omega
    · rw [if_neg q, (Ctx.bear_ne q).1, hb.block _ (hw.mub l (hl'.resolve_right q)).2]
      exact (hw.objs l (hl'.resolve_right q)).ext e.toExtW (hl'.resolve_right q)
  · have hne : l ≠ S.no := fun e => hl' (.inr e)
    rw [hget, if_neg hne]
    exact hw.unob l (fun h => hl' (.inl h))
  · obtain ⟨k1, k2, k3, k4, k5, ⟨c', T', fz, r1, r2, r3⟩, k7, k8⟩ := hw.ids i h0 hi
    refine ⟨k1, by show (C.io i).b < _; have := hb.size; omega, fun l hl' => ?_, k4, k5, ⟨c', T', fz, by show w'.heap[(C.io i).b]? = _; rw [hb.block _ k2]; exact r1, r2, r3⟩, k7, k8⟩
    by_cases q : l = S.no
    · rw [q, Ctx.bear_at.1]; show gb ≠ (C.io i).b; omega
    · rw [(Ctx.bear_ne q).1]; exact k3 l (hl'.resolve_right q)
  · have hx : S.shp.get l = some x := hx
    by_cases q : l = S.no
    · rw [q, hw.shu _ hn] at hx; cases hx
    · obtain ⟨k1, k2⟩ := hw.shp l x (hl'.resolve_right q) hx
      rw [(Ctx.bear_ne q).1, (Ctx.bear_ne q).2.1]
      exact ⟨k1, e.shape _ _ k2⟩
  · exact hw.shu l (fun h => hl' (.inl h))
  · obtain ⟨c', fz, k1, k2⟩ := hw.ity i T' h0 hi hT
    exact ⟨c', fz, by show w'.heap[(C.io i).b]? = _; rw [hb.block _ (hw.ids i h0 hi).lt]; exact k1, k2⟩
end
end Go.Abs
