/-
  Conversions and calls.
-/
import Derived.Test.YtpahkfadibcdgaaAbs7
namespace Go.Abs
open Go.RowKit

/-- What a call that the evaluator carries out comes to. -/
def CallOk (E : Env) (call : CallFn) : Prop := ∀ g args S r S', call g args S = some (r, S') →
  (∃ fn, E.P.funcs[g]? = some fn ∧ fn.body.isNone = false ∧ fn.name ≠ "runtime.NumGoroutine") ∧
  ∀ C w (vs : Array Value), WR E C S w → LR C w args vs.toList → Calls E.P g vs w (fun e w' => ∃ u C', e = .returned u ∧ WR E C' S' w' ∧ Ext C w C' w' ∧ VR C' w' r u)


theorem foldl_push : ∀ (bs : List UInt8) (acc : Array UInt8), bs.foldl (fun r b => ByteArray.push r b) ⟨acc⟩ = ⟨acc ++ bs.toArray⟩
  | [], acc => by simp
  | b :: r, acc => by
    rw [List.foldl_cons]
    have := foldl_push r (acc.push b)
    rw [show (ByteArray.mk acc).push b = ⟨acc.push b⟩ from rfl, this]
    simp

theorem bytes_vals {C : Ctx} {w : World} : ∀ {xs fl : List AV} {bs : List UInt8} {vs : List Value}, bytesOf? xs = some bs → flat? 1 xs = some fl → LR C w fl vs →
    ∃ ns : List Int, vs = ns.map (Value.int .u8) ∧ bs = ns.map fun n => UInt8.ofNat n.toNat
  | [], fl, bs, vs, hb, hf, hl => by
    simp [bytesOf?] at hb; simp [flat?] at hf; subst hb; subst hf
    have : vs = [] := List.eq_nil_of_length_eq_zero hl.1.symm
    exact ⟨[], by simp [this], rfl⟩
  | x :: l, fl, bs, vs, hb, hf, hl => by
    unfold bytesOf? at hb
    split at hb
    · rename_i heq; simp at heq
    · rename_i n l' heq
      simp only [List.cons.injEq] at heq
      obtain ⟨rfl, rfl⟩ := heq
      simp only [Option.map_eq_some_iff] at hb
      obtain ⟨bs', h1, rfl⟩ := hb
      obtain ⟨cs, r, h2, h3, h4, h5, rfl⟩ := flat_cons hf
      simp [cellsOf] at h2; subst h2
      match vs, hl with
      | [], hl => exact absurd hl.1 (by simp)
      | u :: us, hl =>
        have hu : u = .int .u8 n := (LR.head hl).sc_inv
        obtain ⟨ns, k1, k2⟩ := bytes_vals h1 h3 (LR.tail hl)
        exact ⟨n :: ns, by simp [hu, k1], by simp [k2]⟩
    · simp at hb

section
variable {E : Env} {C : Ctx} {S S' : St} {w : World} {v : AV} {tm : PM AV} {a : Act} {call : CallFn}

theorem isU8_inv {d : Option TypeDesc} (h : isU8 d = true) : d = some (.int .u8) := by
  unfold isU8 at h
  split at h
  · rfl
  · simp at h

theorem WR.freezeAt (hw : WR E C S w) {b : Nat} (hb : C.base ≤ b) {c : Array Value} {T : TypeId} {fz : Nat × Nat} (hh : w.heap[b]? = some (.cells c T fz)) (hfz : unfrozen c fz) :
    WR E C S (w.freeze ⟨b, c.size, none⟩ 1) ∧ Ext C w C (w.freeze ⟨b, c.size, none⟩ 1) := by
  have hsz : (w.freeze ⟨b, c.size, none⟩ 1).heap.size = w.heap.size := by simp [World.freeze]
  have hne : ∀ k, k ≠ b → (w.freeze ⟨b, c.size, none⟩ 1).heap[k]? = w.heap[k]? := fun k hk => by
    simp only [World.freeze, Nat.one_ne_zero, if_false, Array.getElem?_modify]
    rw [if_neg (fun e => hk e.symm)]
  obtain ⟨fz', hat, hfz'⟩ : ∃ fz', (w.freeze ⟨b, c.size, none⟩ 1).heap[b]? = some (.cells c T fz') ∧ unfrozen c fz' := by
    obtain ⟨lo, hi⟩ := fz
    refine ⟨_, by simp [World.freeze, Array.getElem?_modify, hh]; rfl, ?_⟩
    unfold unfrozen at hfz ⊢
    by_cases he : lo = hi
    · simp [he]
    · simp only [he, false_or] at hfz
      simp [he]; right; omega
  have hcell : ∀ k o, (w.freeze ⟨b, c.size, none⟩ 1).cell? ⟨k, o, none⟩ = w.cell? ⟨k, o, none⟩ := fun k o => by
    by_cases hk : k = b
    · subst hk; rw [cell_block hat, cell_block hh]
    · simp only [World.cell?, hne k hk]
  have e : Ext C w C (w.freeze ⟨b, c.size, none⟩ 1) := ⟨Nat.le_refl _, Nat.le_refl _, fun _ _ => rfl, fun _ _ => rfl, fun l h1 h2 => by omega, by omega, fun _ _ => Nat.le_refl _, fun k o _ _ _ => hcell k o, rfl,
    ⟨by simp [World.freeze], by simp [World.freeze], by simp [World.freeze], by omega, fun k hk => hne k (by omega)⟩⟩
  refine ⟨⟨hw.no, hw.nid, hw.nid1, by rw [hsz]; exact hw.bs, hw.inj, fun l hl => by rw [hsz]; exact hw.mub l hl, fun l hl => ?_, fun i h0 hi => ?_, hw.idi, fun g cs hg => (hw.glob g cs hg).ext e, hw.fresh⟩, e⟩
  · have k := hw.objs l hl
    by_cases hk : C.mu l = b
    · rw [hk] at k ⊢
      rw [hat]
      rw [hh] at k
      match hS : S.objs.get l with
      | some (.cells cs) =>
        rw [hS] at k
        obtain ⟨c', T', fz'', h1, h2, h3⟩ := k
        simp only [Option.some.injEq, Obj.cells.injEq] at h1
        obtain ⟨rfl, rfl, rfl⟩ := h1
        exact ⟨c, T, fz', rfl, h2.ext e, hfz'⟩
      | some (.siter s p) => rw [hS] at k; simp [ObjR] at k
      | none => rw [hS] at k; exact k.elim
    · rw [hne _ hk]; exact k.ext e
  · obtain ⟨h1, h2, h3, h4, h5, ⟨c', T', fz'', r1, r2, r3⟩, h7, h8⟩ := hw.ids i h0 hi
    refine ⟨h1, by rw [hsz]; exact h2, h3, h4, h5, ?_, h7, h8⟩
    by_cases hk : (C.io i).b = b
    · rw [hk] at r1 ⊢
      rw [hh] at r1
      simp only [Option.some.injEq, Obj.cells.injEq] at r1
      obtain ⟨rfl, rfl, rfl⟩ := r1
      exact ⟨c, T, fz', hat, hfz', r3⟩
    · exact ⟨c', T', fz'', by rw [hne _ hk]; exact r1, r2, r3⟩

theorem good_convert (ok : E.Ok) (hw : WR E C S w) {src dst : TypeId} {x : AV} {ux : Value} (hx : VR C w x ux) (h : convertA E src dst x S = some (v, S')) :
    Good E C w (do pure (.value (← convert src dst ux))) v S' := by
  unfold convertA at h
  cases x with
  | sc u =>
    have := hx.sc_inv; subst this
    simp only [Option.map_eq_some_iff, Prod.mk.injEq] at h
    obtain ⟨r, h1, rfl, rfl⟩ := h
    exact Good.val hw (run_v (peek_run _ h1 w)) (vr_ofV _ _ _)
  | vec id sz xs =>
    simp only at h
    split at h
    · rename_i e hs hd
      cases hb : (isU8 (E.und e) && Nat.beq sz 1) with
      | false => rw [hb] at h; simp at h
      | true =>
        rw [hb] at h
        simp only [cond_true, Option.map_eq_some_iff, Prod.mk.injEq] at h
        obtain ⟨bs, h1, rfl, rfl⟩ := h
        simp only [Bool.and_eq_true] at hb
        have hu8 := isU8_inv hb.1
        have hsz := Nat.eq_of_beq_eq_true hb.2
        subst hsz
        rcases hx.vec_inv with ⟨_, rfl, p, cap, rfl⟩ | ⟨fl, b, o, cap, rfl, hv⟩
        · simp [bytesOf?] at h1; subst h1
          refine Good.val hw (run_v ?_) (.sc _)
          rw [run_convert_bytes_string w src dst e _ 0 cap (ok.und _ _ hs) (ok.und _ _ hu8) (ok.und _ _ hd)]
          rw [run_bytesToString w p 0 cap [] (by simp [loadCells, loadCellsFrom])]
          rfl
        · obtain ⟨vs, k1, k2⟩ := seg_at hv.seg
          obtain ⟨ns, n1, n2⟩ := bytes_vals h1 hv.flat k1
          have hfl := flat_length hv.flat
          refine Good.val hw (run_v ?_) (.sc _)
          rw [run_convert_bytes_string w src dst e _ xs.length cap (ok.und _ _ hs) (ok.und _ _ hu8) (ok.und _ _ hd)]
          have hl := run_loadCells_list (P := E.P) w ⟨b, o, none⟩ vs k2
          have hvl : vs.length = xs.length := by rw [← k1.1, hfl]; omega
          rw [hvl, n1] at hl
          rw [run_bytesToString w _ _ cap ns hl, n2]
          congr 2
          have := foldl_push (ns.map fun n => UInt8.ofNat n.toNat) #[]
          rw [List.foldl_map] at this
          have e0 : ByteArray.empty = ⟨#[]⟩ := rfl
          rw [e0, this]
          simp
    · rename_i e1 e hs hd
      cases hb : (Nat.beq src dst && isU8 (E.und e) && Nat.blt 0 id) with
      | false => rw [hb] at h; simp at h
      | true =>
        rw [hb] at h
        simp only [cond_true, Option.some.injEq, Prod.mk.injEq] at h
        obtain ⟨rfl, rfl⟩ := h
        simp only [Bool.and_eq_true] at hb
        have hsd := Nat.eq_of_beq_eq_true hb.1.1
        subst hsd
        have hu8 := isU8_inv hb.1.2
        have hid : 0 < id := Nat.le_of_ble_eq_true hb.2
        rcases hx.vec_inv with ⟨h0, _⟩ | ⟨fl, b, o, cap, hU, hv⟩
        · omega
        · obtain ⟨hlt, hio⟩ := hv.hd (by omega)
          have hI := hw.ids id hid hlt
          rw [hio] at hI
          obtain ⟨i1, i2, i3, i4, i5, ⟨c, T, fz, r1, r2, r3⟩, i7, i8⟩ := hI
          simp only at i1 r1
          obtain ⟨k1, k2⟩ := hw.freezeAt i1 r1 r2
          refine .inl ⟨ux, C, _, run_v (w' := w.freeze ⟨b, c.size, none⟩ 1) ?_, k1, k2, hx.ext k2⟩
          have hs1 := run_und ok hs
          have he1 := run_und ok hu8
          rw [hs] at hd
          simp only [Option.some.injEq, TypeDesc.slice.injEq] at hd
          subst hd
          have hm : (markStringish ⟨b, o, none⟩).run E.P w = .ok () (w.freeze ⟨b, c.size, none⟩ 1) := by
            simp [markStringish, shape, Sem.run, World.shape?, r1, freeze]
          simp [convert, hs1, he1, hU, hm]
    · simp at h
  | _ => simp at h

theorem callFunc_run {g : FuncId} {fn : Func} (h1 : E.P.funcs[g]? = some fn) (h2 : fn.body.isNone = false) (h3 : fn.name ≠ "runtime.NumGoroutine") (args : Array Value) (w : World) :
    (callFunc g args).run E.P w = .ok (.enter g args) w := by
  have h2' : fn.body ≠ none := fun e => by simp [e] at h2
  simp [callFunc, program, Sem.run, h1, h2', h3]

theorem good_enter (hcall : CallOk E call) (hw : WR E C S w) {g : FuncId} {args : List AV} {vs : Array Value} (hl : LR C w args vs.toList) (h : call g args S = some (v, S')) {r : Sem Next}
    (hr : r.run E.P w = (callFunc g vs).run E.P w) : Good E C w r v S' := by
  obtain ⟨⟨fn, h1, h2, h3⟩, h4⟩ := hcall g args S v S' h
  exact .inr (.inr ⟨g, vs, by rw [hr, callFunc_run h1 h2 h3], h4 C w vs hw hl⟩)

theorem lr_of_fn {cs : List AV} {vs : Array Value} (hl : cs.length = vs.size) (hr : ∀ i x, cs[i]? = some x → VR C w x (vs.getD i Go.undef)) : LR C w cs vs.toList :=
  ⟨by simpa using hl, fun i x hx => by simpa using hr i x hx⟩

theorem good_len (ok : E.Ok) (hw : WR E C S w) {t ty : TypeId} {x : AV} {ux : Value} {cs : Array Bool} (hx : VR C w x ux) (h : builtinA E .len [t] [x] S = some (v, S')) :
    Good E C w (invoke (.builtin .len #[t] ty cs) #[ux]) v S' := by
  simp only [builtinA] at h
  split at h
  · rename_i e hd
    simp only [Option.map_eq_some_iff, Prod.mk.injEq] at h
    obtain ⟨n, h1, rfl, rfl⟩ := h
    refine Good.val hw (u := .int .i64 n) ?_ (.sc _)
    unfold lenS at h1
    split at h1
    · have := hx.sc_inv; subst this
      simp at h1; subst h1
      simp [invoke, builtin, Builtin.len_, run_und ok hd, goInt]
    · obtain ⟨p, cap, rfl⟩ := hx.vec_slice
      simp at h1; subst h1
      simp [invoke, builtin, Builtin.len_, run_und ok hd, goInt]
    · simp at h1
  · rename_i hd
    split at h
    · have := hx.sc_inv; subst this
      simp only [Option.some.injEq, Prod.mk.injEq] at h
      obtain ⟨rfl, rfl⟩ := h
      refine Good.val hw ?_ (.sc _)
      simp [invoke, builtin, Builtin.len_, run_und ok hd, goInt]
    · simp at h
  · rename_i n e hd
    simp only [Option.some.injEq, Prod.mk.injEq] at h
    obtain ⟨rfl, rfl⟩ := h
    refine Good.val hw (u := .int .i64 n) ?_ (.sc _)
    simp [invoke, builtin, Builtin.len_, run_und ok hd, goInt]
  · simp at h

theorem good_appendB (ok : E.Ok) (hw : WR E C S w) {t t1 ty : TypeId} {s x : AV} {us ux : Value} {cs : Array Bool} (hs : VR C w s us) (hx : VR C w x ux) (h : builtinA E .append [t, t1] [s, x] S = some (v, S')) :
    Good E C w (invoke (.builtin .append #[t, t1] ty cs) #[us, ux]) v S' := by
  simp only [builtinA] at h
  split at h
  · rename_i e e' hd hd1
    split at h
    · rename_i i id sz xs hi
      exact good_append ok hw (e := e) hd hi (.inl ⟨_, ok.und _ _ hd1⟩) (fun _ e => by simp at e) (fun _ => ⟨_, ok.und _ _ hd1⟩) hs hx h
    · rename_i i a n c hi
      exact good_append ok hw (e := e) hd hi (.inl ⟨_, ok.und _ _ hd1⟩) (fun _ e => by simp at e) (fun _ => ⟨_, ok.und _ _ hd1⟩) hs hx h
    · simp at h
  · rename_i e hd hd1
    split at h
    · rename_i i str hi
      exact good_append ok hw (e := e) hd hi (.inr (ok.und _ _ hd1)) (fun _ _ => ok.und _ _ hd1) (fun hn => absurd rfl (hn str)) hs hx h
    · simp at h
  · simp at h

theorem arr1 {α : Type} {xs : Array α} {x : α} (h : xs.toList = [x]) : xs = #[x] := by rw [← Array.toArray_toList (xs := xs), h]
theorem arr2 {α : Type} {xs : Array α} {x y : α} (h : xs.toList = [x, y]) : xs = #[x, y] := by rw [← Array.toArray_toList (xs := xs), h]
theorem lr1 {x : AV} {vs : Array Value} (h : LR C w [x] vs.toList) : ∃ u, vs = #[u] ∧ VR C w x u := by
  match hv : vs.toList, h with
  | [], h => exact absurd h.1 (by simp)
  | [u], h => exact ⟨u, arr1 hv, h.head⟩
  | _ :: _ :: _, h => exact absurd h.1 (by simp)
theorem lr2 {x y : AV} {vs : Array Value} (h : LR C w [x, y] vs.toList) : ∃ u u', vs = #[u, u'] ∧ VR C w x u ∧ VR C w y u' := by
  match hv : vs.toList, h with
  | [], h => exact absurd h.1 (by simp)
  | [u], h => exact absurd h.1 (by simp)
  | [u, u'], h => exact ⟨u, u', arr2 hv, h.head, h.tail.head⟩
  | _ :: _ :: _ :: _, h => exact absurd h.1 (by simp)

theorem good_builtin (ok : E.Ok) (hw : WR E C S w) {b : Builtin} {ats : Array TypeId} {ty : TypeId} {xs : List AV} {vs : Array Value} {cs : Array Bool} (hl : LR C w xs vs.toList)
    (h : builtinA E b ats.toList xs S = some (v, S')) : Good E C w (invoke (.builtin b ats ty cs) vs) v S' := by
  cases b with
  | len =>
    match ha : ats.toList, xs, h, hl with
    | [t], [x], h, hl =>
      obtain ⟨u, rfl, hx⟩ := lr1 hl
      rw [arr1 ha]
      exact good_len ok hw hx h
    | [], _, h, _ => simp [builtinA] at h
    | [_], [], h, _ => simp [builtinA] at h
    | [_], _ :: _ :: _, h, _ => simp [builtinA] at h
    | _ :: _ :: _, _, h, _ => simp [builtinA] at h
  | append =>
    match ha : ats.toList, xs, h, hl with
    | [t, t1], [s, x], h, hl =>
      obtain ⟨us, ux, rfl, hs, hx⟩ := lr2 hl
      rw [arr2 ha]
      exact good_appendB ok hw hs hx h
    | [], _, h, _ => simp [builtinA] at h
    | [_], _, h, _ => simp [builtinA] at h
    | [_, _], [], h, _ => simp [builtinA] at h
    | [_, _], [_], h, _ => simp [builtinA] at h
    | [_, _], _ :: _ :: _ :: _, h, _ => simp [builtinA] at h
    | _ :: _ :: _ :: _, _, h, _ => simp [builtinA] at h
  | min =>
    simp only [builtinA] at h
    split at h
    · obtain ⟨us, ux, rfl, hs, hx⟩ := lr2 hl
      simp only [Option.some.injEq, Prod.mk.injEq] at h
      obtain ⟨rfl, rfl⟩ := h
      have e1 := hs.sc_inv
      have e2 := hx.sc_inv
      subst e1; subst e2
      refine Good.val hw ?_ (.sc _)
      simp [invoke, builtin, Builtin.min_, Builtin.min2]
    · simp at h
  | max =>
    simp only [builtinA] at h
    split at h
    · obtain ⟨us, ux, rfl, hs, hx⟩ := lr2 hl
      simp only [Option.map_eq_some_iff, Prod.mk.injEq] at h
      obtain ⟨r, h1, rfl, rfl⟩ := h
      have e1 := hs.sc_inv
      have e2 := hx.sc_inv
      subst e1; subst e2
      refine Good.val hw (u := r) ?_ (vr_ofV _ _ _)
      have hr := peek_run _ h1 w
      simp [invoke, builtin, Builtin.max_, hr]
    · simp at h
  | _ => simp [builtinA] at h

theorem good_call (ok : E.Ok) (hcall : CallOk E call) (hw : WR E C S w) (ht : TR C w tm a.tmps) {c : Call} {ty : TypeId} (h : callA E call tm c S = some (v, S')) :
    Good E C w (do let d ← resolve a.eval c ty; invoke d.target d.args) v S' := by
  have hargs := evs_rel (E := E) (a := a) hw ht c.args.toList
  obtain ⟨callee, args, argTypes⟩ := c
  unfold callA at h
  simp only at h hargs
  cases callee with
  | value f =>
    simp only at h
    have hf := ev_rel (E := E) (a := a) hw ht f
    generalize E.ev tm f = F at h hf
    generalize hU : a.eval f = U at hf
    split at h
    · rename_i g first cap hF
      unfold fnOf at hF
      split at hF
      · rename_i g' f' c'
        cases hb : (f'.isEmpty && c'.isEmpty) with
        | false => rw [hb] at hF; simp at hF
        | true =>
          rw [hb] at hF
          simp only [cond_true, Option.some.injEq, Prod.mk.injEq] at hF
          obtain ⟨rfl, rfl, rfl⟩ := hF
          have := hf.sc_inv
          subst this
          simp only [Bool.and_eq_true, Array.isEmpty_iff] at hb
          obtain ⟨rfl, rfl⟩ := hb
          refine good_enter hcall hw (vs := args.map a.eval) (by simpa using hargs) h ?_
          simp [resolve, hU, Deferred.ofValue, invoke]
      · simp only [Option.some.injEq, Prod.mk.injEq] at hF
        obtain ⟨rfl, rfl, rfl⟩ := hF
        cases hf with
        | fn _ _ _ v1 v2 hl1 hr1 hl2 hr2 =>
          have L := ((lr_of_fn hl1 hr1).append hargs).append (lr_of_fn hl2 hr2)
          refine good_enter hcall hw (vs := v1 ++ args.map a.eval ++ v2) (by simpa using L) h ?_
          simp [resolve, hU, Deferred.ofValue, invoke]
      · simp at hF
    · simp at h
  | invoke r m => simp at h
  | builtin b =>
    simp only at h
    show Good E C w (invoke (.builtin b argTypes ty _) (args.map a.eval)) v S'
    exact good_builtin (vs := args.map a.eval) ok hw (by simpa using hargs) h

end
end Go.Abs
