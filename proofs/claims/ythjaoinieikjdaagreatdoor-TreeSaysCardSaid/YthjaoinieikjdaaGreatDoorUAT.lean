/-
  Bits of numbers, az plain arithmetic.
-/
import Derived.Test.YthjaoinieikjdaaGreatDoorUAR
import Derived.Test.YthjaoinieikjdaaGreatDoorUAS
import Derived.Lib.TrimU
import Derived.Lib.RangeT
import Derived.Lib.IsU
import Derived.Lib.Props
import Derived.Shelf.Unicode.DecodeSlow
import Derived.Test.YthjaoinieikjdaaGreatDoorUAA
import Derived.Test.YthjaoinieikjdaaGreatDoorProg
import Derived.Shelf.Unicode.ExclAny
import Derived.Shelf.Unicode.DecodeAny
set_option linter.unusedSimpArgs false
set_option linter.unusedVariables false
set_option maxRecDepth 100000
namespace Go.Abs
theorem kw5 (n : Nat) : IntKind.u8.wrap (n : Int) = ((n % 256 : Nat) : Int) := by simp [IntKind.wrap, IntKind.bits, IntKind.signed]
theorem lowByte {n : Nat} (h : n < 256) : IntKind.u8.wrap (n : Int) = ((UInt8.ofNat n).toNat : Int) := by
 rw [kw5]; simp
end Go.Abs
namespace Go.Abs
end Go.Abs
namespace Go.Abs
end Go.Abs
namespace Go.Abs
section
variable {E : Env} {tm : PM AV} {S : St} {d : Option Tmp}
noncomputable def St.born (S : St) (e : TypeId) (cs : List AV) : St := S.bearNext ⟨.cells cs, some (e, cs.length), fun n => .ptr n 0⟩
theorem dT (e : TypeId) (x : Operand) : opV E tm d (.box e x) S = (cellsOf (E.ev tm x)).map fun cs => (.ptr S.no 0, S.born e cs) := by
 have h : cD E (fP d (.box e x)) = true := rfl
 have h2 : fQ E tm (fP d (.box e x)) = (cellsOf (E.ev tm x)).map fun cs => (⟨.cells cs, some (e, cs.length), fun n => .ptr n 0⟩ : Mk) := by
  show (match cellsOf (E.ev tm x) with | some cs => some (⟨.cells cs, some (e, cs.length), fun n => .ptr n 0⟩ : Mk) | none => none) = _
  cases cellsOf (E.ev tm x) <;> rfl
 simp only [opV, eV, h, aH, h2, Option.map_map]
 rfl
theorem dZ (cs : List AV) : cellsOf (.agg cs) = some cs := rfl
def zeroIs (E : Env) (e : TypeId) (zs : List Value) : Bool := match E.inf e with
 | some i => match i.zero with
  | some z => (cP E.P (pure (Value.tuple z.cells))).isSome && Nat.beq z.cells.size zs.length
  | none => false
 | none => false
theorem oA {e : TypeId} {cs : List AV} (h : fQ E tm (fP d (.alloc e)) = some ⟨.cells cs, some (e, cs.length), fun n => .ptr n 0⟩) : opV E tm d (.alloc e) S = some (.ptr S.no 0, S.born e cs) := by
 have h1 : cD E (fP d (.alloc e)) = true := rfl
 simp only [opV, eV, h1, aH, h, iH]
 rfl
theorem bE (e : TypeId) (cs : List AV) (l : Nat) : (S.born e cs).obj l = if l = S.no then some cs else S.obj l := by
 simp only [St.born, St.bearNext, St.bear, St.obj, PM.get_set]
 by_cases h : l = S.no
 · simp [h]
 · simp [h]
theorem lG (e : TypeId) (cs : List AV) : (S.born e cs).no = S.no + 1 := rfl
theorem aX (l m : Nat) (cs : List AV) : (S.put l (.cells cs)).obj m = if m = l then some cs else S.obj m := by
 simp only [St.put, St.obj, PM.get_set]
 by_cases h : m = l
 · simp [h]
 · simp [h]
theorem put_no (l : Nat) (o : AObj) : (S.put l o).no = S.no := rfl
theorem Grow.born {S0 : St} {x : AV} (g : Grow S0 S x) (e : TypeId) (cs : List AV) : Grow S0 (S.born e cs) x :=
 ⟨g.nid, g.sp, g.ity, Nat.le_succ_of_le g.no, fun l hl => by
  have : l ≠ S.no := by have := g.no; omega
  simp only [St.born, St.bearNext, St.bear, PM.get_set, this, dG]
  exact g.obj l hl, g.fresh, g.ver⟩
theorem Grow.put {S0 : St} {x : AV} (g : Grow S0 S x) (l : Nat) (o : AObj) (h : S0.no ≤ l) : Grow S0 (S.put l o) x :=
 ⟨g.nid, g.sp, g.ity, g.no, fun m hm => by
  have : m ≠ l := by omega
  simp only [St.put, PM.get_set, this, dG]
  exact g.obj m hm, g.fresh, fun m hm => by
  have : m ≠ l := by omega
  have := g.ver m hm
  simp only [St.ver, St.put, PM.get_set] at this ⊢
  rw [aR (by omega)]
  exact this⟩
theorem Grow.objs {S2 : St} {x : AV} (g : Grow S S2 x) {l : Nat} {cs : List AV} (h : S.obj l = some cs) (hl : l < S.no) : S2.obj l = some cs := by
 unfold St.obj at h ⊢
 rw [g.obj l hl]
 exact h
theorem aE (b : Bool) (n l off : Nat) : jY b n (.ptr l off) S = (S.obj l).bind fun cs => (cut b n cs off).map (·, S) := by
 simp only [jY]
 cases S.obj l <;> rfl
theorem qC (l off : Nat) (v : AV) (hc : cellsOf v = some [v]) (h : cB v = true) : gZ 1 (.ptr l off) v S = (S.obj l).bind fun cs => if off < cs.length then some (dB, S.put l (.cells (cs.set off v))) else none := by
 simp only [gZ, hc]
 cases S.obj l with
 | none => rfl
 | some cs =>
  simp only [aD, aY, bH, lA, List.all_nil, h, jK]
  by_cases hlt : off < cs.length
  · have : Nat.ble (off + 1) cs.length = true := fT hlt
    simp only [aF, this, show Nat.beq 1 1 = true from rfl, bY, aH, hlt, fM, aI, aJ, true_and]
    congr 2
    apply List.ext_getElem
    · simp [jV]; omega
    · intro i h1 h2
      simp only [jV, List.getElem_set]
      simp only [jV, dL, eW, aY, bH, mK] at h1
      by_cases e : off = i
      · subst e
        simp [Nat.min_eq_left (oV hlt)]
      · rw [aR e]
        by_cases e2 : i < off
        · rw [List.getElem_append_left (by simp; omega), List.getElem_append_left (by simp; omega)]
          simp
        · rw [List.getElem_append_right (by simp; omega)]
          simp only [dL, eW, aY, bH, List.getElem_drop]
          congr 1
          omega
  · have : Nat.ble (off + 1) cs.length = false := by
     cases e : Nat.ble (off + 1) cs.length
     · rfl
     · have := bW e; omega
    simp only [aF, this, dY, aK, hlt, dG]
def fldIs (E : Env) (t : TypeId) (f off : Nat) : Bool := match E.und t with
 | some (.struct fs) => match fs[f]? with
  | some g => match E.inf g.type with
   | some i => !Nat.beq i.size 0 && Nat.beq g.offset off
   | none => false
  | none => false
 | _ => false
noncomputable def eD (off : Nat) (x : AV) (S : St) : Option (AV × St) := match x with
 | .ptr l o => some (.ptr l (o + off), S)
 | .eptr cs o => some (.eptr cs (o + off), S)
 | _ => none
theorem eR (t : TypeId) (f off : Nat) (h : fldIs E t f off = true) (x : Operand) : opV E tm d (.fieldAddr t x f) S = eD off (E.ev tm x) S := by
 unfold fldIs at h
 split at h
 · rename_i fs hd
   split at h
   · rename_i g hg
     split at h
     · rename_i i hi
       simp only [aS] at h
       have h2 := bA h.2
       have h1 : Nat.beq i.size 0 = false := by simpa using h.1
       subst h2
       show aW E (fun _ _ _ => none) tm (fP d (.fieldAddr t x f)) S = _
       simp only [aW, fP, hd]
       cases E.ev tm x <;> first | rfl | simp only [hg, hi, h1, aK, eD]
     · cases h
   · cases h
 · cases h
theorem jC (l off : Nat) (k : IntKind) (n : Int) : gZ 1 (.ptr l off) (.sc (.int k n)) S = (S.obj l).bind fun cs => if off < cs.length then some (dB, S.put l (.cells (cs.set off (.sc (.int k n))))) else none := qC l off _ rfl rfl
theorem aG (off l o : Nat) : eD off (.ptr l o) S = some (.ptr l (o + off), S) := rfl
theorem dN (off : Nat) (cs : List AV) (o : Nat) : eD off (.eptr cs o) S = some (.eptr cs (o + off), S) := rfl
end
end Go.Abs
namespace Go.Abs
section
variable {E : Env} {tm : PM AV} {S : St} {d : Option Tmp}
theorem lF (t : TypeId) (ps : Array (Nat × Operand)) : opV E tm d (.build t ps) S = jG E t (ps.toList.map fun p => (p.1, E.ev tm p.2)) S := rfl
theorem qV (n l : Nat) (vs : List AV) (h : (Nat.beq vs.length n && vs.all cB) = true) : gZ n (.ptr l 0) (.agg vs) S = (S.obj l).bind fun cs => if n ≤ cs.length then some (dB, S.put l (.cells (vs ++ cs.drop n))) else none := by
 simp only [aS] at h
 have hn := bA h.1
 subst hn
 simp only [gZ, cellsOf]
 cases S.obj l with
 | none => rfl
 | some cs =>
  simp only [aD, h.2, jK, aF]
  have hb : Nat.beq vs.length vs.length = true := lB _
  simp only [hb, cI]
  by_cases hle : vs.length ≤ cs.length
  · have : Nat.ble vs.length cs.length = true := fT hle
    simp only [this, aH, hle, fM, jV, List.take_zero, mL, aF]
  · have : Nat.ble vs.length cs.length = false := by
     cases e : Nat.ble vs.length cs.length
     · rfl
     · exact absurd (bW e) hle
    simp only [this, aK, hle, dG]
noncomputable def chkV (x : AV) (S : St) : Option (AV × St) := match x with
 | .ptr l off => some (.ptr l off, S)
 | .eptr cs off => some (.eptr cs off, S)
 | .fn (.func f) a b => some (.fn (.func f) a b, S)
 | .ifc t a => some (.ifc t a, S)
 | .sc (.func (.func f) a b) => some (.sc (.func (.func f) a b), S)
 | _ => none
theorem mM (x : Operand) : opV E tm d (.nilCheck x) S = chkV (E.ev tm x) S := rfl
theorem mY (l off : Nat) : chkV (.ptr l off) S = some (.ptr l off, S) := rfl
theorem xx5 (t : Nat) (ty : TypeId) (l : List ResultVar) {de : TypeDesc} {i : TypeInfo} (hd : E.und ty = some de) (hi : E.inf ty = some i) {b : Bool} {n : Nat} (hb : iV de = b) (hn : i.size = n) :
 fB E tm S (.cell t ty :: l) = (jY b n (getT tm t) S).bind fun q => (fB E tm S l).map (q.1 :: ·) := by
 have h1 : qP E tm S (.cell t ty) = (jY b n (getT tm t) S).map (·.1) := by
  subst hb; subst hn
  simp only [qP, jY, Env.cutAt, hd, hi]
  cases getT tm t with
  | ptr l off => rcases h : S.obj l with _ | cs <;> simp [h, Option.map_map, Function.comp_def]
  | eptr cs off => simp [Option.map_map, Function.comp_def]
  | _ => rfl
 simp only [fB, h1]
 cases jY b n (getT tm t) S with
 | none => rfl
 | some q => cases fB E tm S l <;> rfl
end
end Go.Abs
namespace Go.Abs
section
variable {E : Env} {tm : PM AV} {S : St} {d : Option Tmp}
noncomputable def St.bornMap (S : St) : St := S.bearNext ⟨.mp [], none, .mp⟩
theorem xt9 (t : TypeId) : opV E tm d (.makeMap t none) S = some (.mp S.no, S.bornMap) := rfl
theorem xc5 (t : TypeId) (x y z : Operand) : opV E tm d (.mapUpdate t x y z) S = oY E t (E.ev tm x) (E.ev tm y) (E.ev tm z) S := rfl
theorem kl6 (t : TypeId) (x y : Operand) (b : Bool) : opV E tm d (.lookup t x y b) S = iT E t (E.ev tm x) (E.ev tm y) b S := rfl
def kf6 (E : Env) (t : TypeId) : Option Value := match E.inf t with
 | some i => i.zero
 | none => none
end
end Go.Abs
namespace Go.Abs
section
variable {E : Env} {tm : PM AV} {S : St} {d : Option Tmp}
theorem Grow.bornMap {S0 : St} {x : AV} (g : Grow S0 S x) : Grow S0 S.bornMap x :=
 ⟨g.nid, g.sp, g.ity, Nat.le_succ_of_le g.no, fun l hl => by
  have : l ≠ S.no := by have := g.no; omega
  simp only [St.bornMap, St.bearNext, St.bear, PM.get_set, this, dG]
  exact g.obj l hl, g.fresh, g.ver⟩
end
end Go.Abs
namespace Go.Abs
structure GrowB (p : Nat) (S S' : St) : Prop where
 nid : S.nid ≤ S'.nid
 sp : ∀ id, id < S.nid → S'.spent.get id = S.spent.get id
 ity : ∀ id, id < S.nid → S'.ity.get id = S.ity.get id
 no : S.no ≤ S'.no
 obj : ∀ l, l < S.no → l ≠ p → S'.objs.get l = S.objs.get l
 fresh : S'.Fresh
 ver : ∀ l, l < S.no → l ≠ p → S'.ver l = S.ver l
theorem Grow.toB {S S' : St} (g : Grow S S' aA) (p : Nat) : GrowB p S S' := ⟨g.nid, fun id h => g.sp id h (fun _ _ e => by cases e), g.ity, g.no, fun l h _ => g.obj l h, g.fresh, fun l h _ => g.ver l h⟩
theorem GrowB.two {p : Nat} {S S1 S2 : St} (h : GrowB p S S1) (k : GrowB p S1 S2) : GrowB p S S2 :=
 ⟨cK h.nid k.nid, fun id hid => (k.sp id (aU hid h.nid)).trans (h.sp id hid), fun id hid => (k.ity id (aU hid h.nid)).trans (h.ity id hid), cK h.no k.no,
  fun l hl hp => (k.obj l (aU hl h.no) hp).trans (h.obj l hl hp), k.fresh, fun l hl hp => (k.ver l (aU hl h.no) hp).trans (h.ver l hl hp)⟩
theorem GrowB.put {p : Nat} {S S1 : St} (h : GrowB p S S1) (o : AObj) : GrowB p S (S1.put p o) :=
 ⟨h.nid, h.sp, h.ity, h.no, fun l hl hp => by
  simp only [St.put, PM.get_set, hp, dG]
  exact h.obj l hl hp, h.fresh, fun l hl hp => by
  have := h.ver l hl hp
  simp only [St.ver, St.put, PM.get_set] at this ⊢
  rw [aR hp]
  exact this⟩
theorem Grow.but {p : Nat} {S0 S S' : St} {x : AV} (g : Grow S0 S x) (h : GrowB p S S') (hp : S0.no ≤ p) : Grow S0 S' x :=
 ⟨cK g.nid h.nid, fun id hid hne => (h.sp id (aU hid g.nid)).trans (g.sp id hid hne), fun id hid => (h.ity id (aU hid g.nid)).trans (g.ity id hid), cK g.no h.no,
  fun l hl => (h.obj l (aU hl g.no) (by omega)).trans (g.obj l hl), h.fresh, fun l hl => (h.ver l (aU hl g.no) (by omega)).trans (g.ver l hl)⟩
theorem GrowB.objs {p : Nat} {S S2 : St} (g : GrowB p S S2) {l : Nat} {cs : List AV} (h : S.obj l = some cs) (hl : l < S.no) (hp : l ≠ p) : S2.obj l = some cs := by
 unfold St.obj at h ⊢
 rw [g.obj l hl hp]
 exact h
theorem jh0 {S : St} (l k : Nat) (cs : List AV) (sh : Option (TypeId × Nat)) (f : Nat → AV) : (S.bear l ⟨.cells cs, sh, f⟩).obj k = if k = l then some cs else S.obj k := by
 simp only [St.bear, St.obj, PM.get_set]
 by_cases h : k = l
 · simp [h]
 · simp [h]
theorem Grow.bear {S0 S : St} {x : AV} (g : Grow S0 S x) (l : Nat) (m : Mk) (h : S0.no ≤ l) : Grow S0 (S.bear l m) x :=
 ⟨g.nid, g.sp, g.ity, g.no, fun k hk => by
  have : k ≠ l := by omega
  simp only [St.bear, PM.get_set, this, dG]
  exact g.obj k hk, g.fresh, g.ver⟩
end Go.Abs
namespace Go.Abs
theorem An {a b : Prop} (x : a) (y : b) : a ∧ b := ⟨x, y⟩
theorem B6 {a b c d e f g : Prop} (x : a) (y : b) (z : c) (u : d) (v : e) (w : f) (r : g) : a ∧ b ∧ c ∧ d ∧ e ∧ f ∧ g := ⟨x, y, z, u, v, w, r⟩
abbrev LP := List POp
def mv (d x : Nat) : POp := ⟨some d, .move (.tmp x), none⟩
def ag (d x : Nat) : POp := ⟨some d, .assign (.tmp x), none⟩
def ai (d : Nat) (v : Int) : POp := ⟨some d, .assign (.const (.int .i64 v)), none⟩
def ab (d : Nat) (b : Bool) : POp := ⟨some d, .assign (.const (.bool b)), none⟩
def an (d : Nat) : POp := ⟨some d, .assign (.const (.slice none 0 0)), none⟩
def ld (d t x : Nat) : POp := ⟨some d, .load t (.tmp x), none⟩
def sto (t x y : Nat) : POp := ⟨none, .store t (.tmp x) (.tmp y), none⟩
def fa (d t x k : Nat) : POp := ⟨some d, .fieldAddr t (.tmp x) k, none⟩
def ia (d t x y : Nat) : POp := ⟨some d, .indexAddr t (.tmp x) (.tmp y), none⟩
def ik (d t x : Nat) (v : Int) : POp := ⟨some d, .indexAddr t (.tmp x) (.const (.int .i64 v)), none⟩
def bo (d : Nat) (o : BinOp) (t x y : Nat) : POp := ⟨some d, .binOp o t (.tmp x) (.tmp y) t, none⟩
def bi (d : Nat) (o : BinOp) (t x : Nat) (v : Int) : POp := ⟨some d, .binOp o t (.tmp x) (.const (.int .i64 v)) t, none⟩
def bz (d : Nat) (o : BinOp) (t x : Nat) (s : ByteArray) : POp := ⟨some d, .binOp o t (.tmp x) (.const (.string s)) t, none⟩
def zb (d : Nat) (o : BinOp) (t : Nat) (s : ByteArray) (y : Nat) : POp := ⟨some d, .binOp o t (.const (.string s)) (.tmp y) t, none⟩
def pf (d x y : Nat) : POp := ⟨some d, .pick (.tmp x) (.tmp y) (.const (.bool false)), none⟩
def pt (d x y : Nat) : POp := ⟨some d, .pick (.tmp x) (.const (.bool true)) (.tmp y), none⟩
def ln (d x t : Nat) : POp := ⟨some d, .call (Call.mk (.builtin .len) #[.tmp x] #[t]), none⟩
def ap (d x y t : Nat) : POp := ⟨some d, .call (Call.mk (.builtin .append) #[.tmp x, .tmp y] #[t, t]), none⟩
def ex (d x k : Nat) : POp := ⟨some d, .extract (.tmp x) k, none⟩
def cl (d f : Nat) (a : Array Operand) (t : Array TypeId) : POp := ⟨some d, .call (Call.mk (.value (.func f)) a t), none⟩
def nt (d t x : Nat) : POp := ⟨some d, .unOp .not t (.tmp x), none⟩
def bx (d t x : Nat) : POp := ⟨some d, .box t (.tmp x), none⟩
def al (d t : Nat) : POp := ⟨some d, .alloc t, none⟩
def sz (d : Nat) (s : ByteArray) : POp := ⟨some d, .assign (.const (.string s)), none⟩
def b1 (d t x : Nat) : POp := ⟨some d, .buildSlice t 1 #[(0, (.tmp x))], none⟩
def bu (d t x : Nat) (v : Int) : POp := ⟨some d, .binOp .eql t (.tmp x) (.const (.int .u8 v)) t, none⟩
def nk (d x : Nat) : POp := ⟨some d, .nilCheck (.tmp x), none⟩
def ix (d t x y : Nat) : POp := ⟨some d, .index t (.tmp x) (.tmp y), none⟩
def cv (d t u x : Nat) : POp := ⟨some d, .convert t u (.tmp x), none⟩
def gd : POp → Nat → Bool → POp
 | ⟨d, o, _⟩, t, b => ⟨d, o, some (t, b)⟩
theorem gd_eq (d : Option Tmp) (o : Op) (g : Option (Tmp × Bool)) (t : Nat) (b : Bool) : gd ⟨d, o, g⟩ t b = ⟨d, o, some (t, b)⟩ := rfl
theorem SXa : type_of% (B6 nt.eq_1 bx.eq_1 al.eq_1 sz.eq_1 b1.eq_1 bu.eq_1 <| B6 nk.eq_1 ix.eq_1 cv.eq_1 @gd_eq @mv.eq_1 @ag.eq_1 <| B6 @ai.eq_1 @ab.eq_1 @an.eq_1 @ld.eq_1 @sto.eq_1 @fa.eq_1 <| B6 @ia.eq_1 @ik.eq_1 @bo.eq_1 @bi.eq_1 @bz.eq_1 @zb.eq_1 <| B6 @pf.eq_1 @pt.eq_1 @ln.eq_1 @ap.eq_1 @ex.eq_1 @cl.eq_1 <| B6 @e_nil @e_skip @e_exit @e_ret @je8 @ks5 <| B6 @ke4 @ks4 @e_seq @e_block @ks3 @e_regD <| B6 @e_cond @ke9 @wp2 @eo_move @ks1 @eo_pick <| B6 @je6 @eo_box @je5 @wa1 @eo_load @je0 <| B6 @wo5 @eo_bin @eo_un @ke1 @je1 @wh6 <| B6 @ks0 @wh5 @kd9 @je2 @eo_next @wh8 <| B6 @je4 @wh7 @je3 @ke0 @wo6 @xf4 <| B6 @ke2 @kz8 @e_guard @wn6 @kp4 @kp5 <| B6 @xz0 @eq_self.{1} @true_and @and_true @op_bin @b_add <| B6 @b_sub @b_mul @b_and @b_or @b_xor @jh2 <| B6 @b_eql @b_neq @b_lss @b_leq @b_gtr @b_geq <| B6 @b_eqstr @b_shl' @b_shr' @cF.{0,0} @jQ.{0,0} @op_move <| B6 @kl8 @op_pick @kk9 @ka3 @wo1 @op_un <| B6 @un_not @kC @iC @wf4 @cut_f @cut_t <| B6 @List.getElem?_cons_zero.{0} @List.getElem?_cons_succ.{0} @aY.{0} @bH.{0} @cJ.{0} @rQ.{0} <| B6 @List.take_succ_cons.{0} @List.take_zero.{0} @op_min @min_int @kz6 @ka4 <| B6 @len_vec @len_nil @yo9 @ret_ret @ret_nrm @kj4 <| B6 @pack1 @pack2 @res_nil @res_tmp @aO @kh8 <| B6 @kq2 @kc1 @wn4 @ev_tmp @ev_int @ev_bool <| B6 @ev_str @wo4 @int_int @iH.{0,0} @Option.map_none.{0,0} @aH.{1} <| An @aK.{1} <| An @fM.{1} <| An @dG.{1} <| An @decide_true <| @decide_false) := B6 nt.eq_1 bx.eq_1 al.eq_1 sz.eq_1 b1.eq_1 bu.eq_1 <| B6 nk.eq_1 ix.eq_1 cv.eq_1 @gd_eq @mv.eq_1 @ag.eq_1 <| B6 @ai.eq_1 @ab.eq_1 @an.eq_1 @ld.eq_1 @sto.eq_1 @fa.eq_1 <| B6 @ia.eq_1 @ik.eq_1 @bo.eq_1 @bi.eq_1 @bz.eq_1 @zb.eq_1 <| B6 @pf.eq_1 @pt.eq_1 @ln.eq_1 @ap.eq_1 @ex.eq_1 @cl.eq_1 <| B6 @e_nil @e_skip @e_exit @e_ret @je8 @ks5 <| B6 @ke4 @ks4 @e_seq @e_block @ks3 @e_regD <| B6 @e_cond @ke9 @wp2 @eo_move @ks1 @eo_pick <| B6 @je6 @eo_box @je5 @wa1 @eo_load @je0 <| B6 @wo5 @eo_bin @eo_un @ke1 @je1 @wh6 <| B6 @ks0 @wh5 @kd9 @je2 @eo_next @wh8 <| B6 @je4 @wh7 @je3 @ke0 @wo6 @xf4 <| B6 @ke2 @kz8 @e_guard @wn6 @kp4 @kp5 <| B6 @xz0 @eq_self.{1} @true_and @and_true @op_bin @b_add <| B6 @b_sub @b_mul @b_and @b_or @b_xor @jh2 <| B6 @b_eql @b_neq @b_lss @b_leq @b_gtr @b_geq <| B6 @b_eqstr @b_shl' @b_shr' @cF.{0,0} @jQ.{0,0} @op_move <| B6 @kl8 @op_pick @kk9 @ka3 @wo1 @op_un <| B6 @un_not @kC @iC @wf4 @cut_f @cut_t <| B6 @List.getElem?_cons_zero.{0} @List.getElem?_cons_succ.{0} @aY.{0} @bH.{0} @cJ.{0} @rQ.{0} <| B6 @List.take_succ_cons.{0} @List.take_zero.{0} @op_min @min_int @kz6 @ka4 <| B6 @len_vec @len_nil @yo9 @ret_ret @ret_nrm @kj4 <| B6 @pack1 @pack2 @res_nil @res_tmp @aO @kh8 <| B6 @kq2 @kc1 @wn4 @ev_tmp @ev_int @ev_bool <| B6 @ev_str @wo4 @int_int @iH.{0,0} @Option.map_none.{0,0} @aH.{1} <| An @aK.{1} <| An @fM.{1} <| An @dG.{1} <| An @decide_true <| @decide_false
section
variable {E : Env} {tm : PM AV} {S : St} {d : Option Tmp}
noncomputable def St.bornIt (S : St) (s : ByteArray) : St := S.bearNext ⟨.siter s 0, none, fun n => .ptr n 0⟩
noncomputable def St.IsIt (S : St) (l : Nat) (s : ByteArray) (pos : Nat) : Prop := S.objs.get l = some (.siter s pos)
def sM (E : Env) (t : TypeId) : Bool := match E.und t with
 | some .string => true
 | _ => false
noncomputable def sJ (x : AV) (S : St) : Option (AV × St) := match x with
 | .sc (.string s) => some (.ptr S.no 0, S.bornIt s)
 | _ => none
theorem kl5 (t : TypeId) (x : Operand) (h : sM E t = true) : opV E tm d (.range t x) S = sJ (E.ev tm x) S := by
 have h1 : cD E (fP d (.range t x)) = true := rfl
 have hu : E.und t = some .string := by
  unfold sM at h
  split at h
  · assumption
  · cases h
 have h2 : fQ E tm (fP d (.range t x)) = (match E.ev tm x with | .sc (.string s) => some ⟨.siter s 0, none, fun n => .ptr n 0⟩ | _ => none) := by
  show (match E.und t, E.ev tm x with | some .string, .sc (.string s) => some (⟨.siter s 0, none, fun n => .ptr n 0⟩ : Mk) | _, _ => none) = _
  rw [hu]
  split
  · rename_i h3 h4; rw [h4]
  · rename_i h3
    split
    · rename_i s h4; exact absurd h4 (fun e => h3 s rfl e)
    · rfl
 simp only [opV, eV, h1, aH, h2, sJ]
 split <;> rfl
theorem pB (x : Operand) (b : Bool) : opV E tm d (.next x b) S = qI (E.ev tm x) b S := rfl
theorem vZ {l : Nat} {s : ByteArray} {pos : Nat} (h : S.IsIt l s pos) : qI (.ptr l 0) true S = if pos < s.size then some (.tup [.sc (.bool true), .sc (.int .i64 (pos : Nat)), .sc (.int .i32 ((Utf8.decode s pos).1 : Nat))], S.put l (.siter s (pos + (Utf8.decode s pos).2))) else some (.tup [.sc (.bool false)], S) := by
 unfold St.IsIt at h
 simp only [qI, h, PM.blt_eq, bB, bZ]
theorem vM (s : ByteArray) : (S.bornIt s).IsIt S.no s 0 := by
 simp [St.IsIt, St.bornIt, St.bearNext, St.bear, PM.get_set]
theorem zT (l : Nat) (s : ByteArray) (pos : Nat) : (S.put l (.siter s pos)).IsIt l s pos := by
 simp [St.IsIt, St.put, PM.get_set]
theorem Grow.isIt {S2 : St} {x : AV} (g : Grow S S2 x) {l : Nat} {s : ByteArray} {pos : Nat} (h : S.IsIt l s pos) (hl : l < S.no) : S2.IsIt l s pos := by
 unfold St.IsIt at h ⊢
 rw [g.obj l hl]
 exact h
theorem Grow.bornIt {S0 : St} {x : AV} (g : Grow S0 S x) (s : ByteArray) : Grow S0 (S.bornIt s) x :=
 ⟨g.nid, g.sp, g.ity, Nat.le_succ_of_le g.no, fun l hl => by
  have : l ≠ S.no := by have := g.no; omega
  simp only [St.bornIt, St.bearNext, St.bear, PM.get_set, this, dG]
  exact g.obj l hl, g.fresh, g.ver⟩
end
section
variable {E : Env} {tm : PM AV} {S : St} {d : Option Tmp}
theorem lenStr {t : TypeId} (h : sM E t = true) (mu : Bool) (s : ByteArray) (S : St) : bD E mu .len [t] [.sc (.string s)] S = some (.sc (.int .i64 (s.size : Nat)), S) := by
 unfold sM at h
 split at h
 · rename_i h3
   simp only [bD, h3]
 · cases h
theorem qZ {t : TypeId} (h : sM E t = true) (s : ByteArray) {lo hi : Option AV} {a b : Nat} (hb : gJ s.size lo hi = some (a, b)) (S : St) : fN E t (.sc (.string s)) lo hi S = some (.sc (.string (s.extract a b)), S) := by
 unfold sM at h
 split at h
 · rename_i h3
   simp only [fN, h3, hb]
 · cases h
theorem rU {α β : Type} {P : Program} (s : Sem α) (k : α → Sem β) : cP P (s >>= k) = (cP P s).bind fun a => cP P (k a) := by
 show cP P (Sem.bind s k) = _
 induction s with
 | pure a => rfl
 | program k' ih => simp only [Sem.bind, cP]; exact ih P
 | mark m k' ih => simp only [Sem.bind, cP]; exact ih
 | _ => rfl
noncomputable def idxS (x : AV) (i : Option Int) (S : St) : Option (AV × St) := match x, i with
 | .sc (.string s), some i => if 0 ≤ i ∧ i.toNat < s.size then some (.sc (.int .u8 ((s.data.toList.getD i.toNat 0).toNat : Nat)), S) else none
 | _, _ => none
theorem wu4 {t : TypeId} (h : sM E t = true) (hu : E.P.underlying t = some .string) (x y : Operand) (s : ByteArray) (i : Int) (hx : E.ev tm x = .sc (.string s)) (hy : E.ev tm y = .sc (.int .i64 i)) (hi : 0 ≤ i) (hl : i.toNat < s.size) :
 opV E tm d (.index t x y) S = some (.sc (.int .u8 ((s.data.toList.getD i.toNat 0).toNat : Nat)), S) := by
 have e : opV E tm d (.index t x y) S = (cP E.P (Instr.index t (.string s) (.int .i64 i))).map fun v => (ofV v, S) := by
  simp only [opV, eV, fP, cD, aK, aW, hx, hy]
 have h2 : s[i.toNat]? = some s[i.toNat] := by simp [hl]
 have h3 : cP E.P (Instr.index t (.string s) (.int .i64 i)) = some (.int .u8 (s[i.toNat]).toNat) := by
  have hq : cP E.P program = some E.P := rfl
  have hu2 : cP E.P (underlying t) = some .string := by
   simp only [underlying, rU, hq, aD, hu]
   rfl
  have hp : cP E.P (pure (IntKind.i64, i) : Sem (IntKind × Int)) = some (.i64, i) := rfl
  simp only [Instr.index, asIntOf, rU, hu2, hp, aD, hi, fM, h2]
  rfl
 rw [e, h3]
 have h4 : s.data.toList.getD i.toNat 0 = s[i.toNat] := by
  have : i.toNat < s.data.toList.length := by simpa using hl
  have h5 : s.data.toList[i.toNat]? = some (s.data.toList[i.toNat]) := cX this
  rw [List.getD, h5]
  rfl
 rw [h4]
 rfl
end
def dV (s : ByteArray) (pos : Nat) : List (Nat × Nat) := if h : pos < s.size then (pos, (Utf8.decode s pos).1) :: dV s (pos + (Utf8.decode s pos).2) else []
termination_by s.size - pos
decreasing_by have := Lib.width_pos s pos; omega
theorem rY {s : ByteArray} {pos : Nat} (h : pos < s.size) : dV s pos = (pos, (Utf8.decode s pos).1) :: dV s (pos + (Utf8.decode s pos).2) := by
 rw [dV, dif_pos h]
theorem qB {s : ByteArray} {pos : Nat} (h : ¬ pos < s.size) : dV s pos = [] := by
 rw [dV, dif_neg h]
theorem b_quo {E : Env} {S : St} (t : TypeId) (x y : Operand) (k : IntKind) (a b : Int) (h : b ≠ 0) : cQ E .quo t x y (.sc (.int k a)) (.sc (.int k b)) S = some (.sc (.int k (k.wrap (a.tdiv b))), S) := by
 have h2 : (b == 0) = false := by simpa using h
 simp only [cQ, iZ, binOp, Op.intDiv, h, dG, ne_eq, not_true_eq_false]
 first | rfl | (simp [h]; rfl)
theorem mN {E : Env} {S : St} (t : TypeId) (x y : Operand) (a b : ByteArray) : cQ E .neq t x y (.sc (.string a)) (.sc (.string b)) S = some (.sc (.bool (a.toList != b.toList)), S) := rfl
theorem kr9 {P : Program} {t : TypeId} (h : P.underlying t = some .bool) (d : Nat) (a b : Bool) : cP P (Op.equalIn (d + 1) t (.bool a) (.bool b)) = some (a == b) := by
 have hq : cP P program = some P := rfl
 have hu2 : cP P (underlying t) = some .bool := by
  simp only [underlying, rU, hq, aD, h]
  rfl
 simp only [Op.equalIn, rU, hu2, aD]
 rfl
theorem kr8 {P : Program} {t : TypeId} (h : P.underlying t = some .bool) (a b : Bool) : cP P (Op.equal t (.bool a) (.bool b)) = some (a == b) := kr9 h 9999 a b
theorem ww7 {E : Env} {S : St} (t : TypeId) (h : E.P.underlying t = some .bool) (x y : Operand) (a b : Bool) : cQ E .eql t x y (.sc (.bool a)) (.sc (.bool b)) S = some (.sc (.bool (a == b)), S) := by
 have h1 : cP E.P (do eqGuard .eql t x y (.bool a) (.bool b); binOp .eql t (.bool a) (.bool b)) = some (.bool (a == b)) := by
  have hg : cP E.P (eqGuard .eql t x y (.bool a) (.bool b)) = some () := rfl
  rw [rU, hg]
  show cP E.P (Op.equal t (.bool a) (.bool b) >>= fun r => pure (Value.bool r)) = _
  rw [rU, kr8 h]
  rfl
 simp only [cQ, iZ, h1]
 rfl
theorem yY {E : Env} {S : St} (t : TypeId) (h : E.P.underlying t = some .bool) (x y : Operand) (a b : Bool) : cQ E .neq t x y (.sc (.bool a)) (.sc (.bool b)) S = some (.sc (.bool (a != b)), S) := by
 have h1 : cP E.P (do eqGuard .neq t x y (.bool a) (.bool b); binOp .neq t (.bool a) (.bool b)) = some (.bool (a != b)) := by
  have hg : cP E.P (eqGuard .neq t x y (.bool a) (.bool b)) = some () := rfl
  rw [rU, hg]
  show cP E.P (Op.equal t (.bool a) (.bool b) >>= fun r => pure (Value.bool (!r))) = _
  rw [rU, kr8 h]
  rfl
 simp only [cQ, iZ, h1]
 rfl
def Ans (E : Env) (f : FuncId) (args : List AV) (r : AV) : Prop := ∀ S : St, S.Fresh → ∃ S', EvA E f args S r S' ∧ Grow S S' aA
section
variable {E : Env} {nt : Nat} {k : List KI} {tm : PM AV} {S S0 : St} {Q : kW}
theorem aT {f : FuncId} {args : List AV} {d : Option Tmp} {r : List POp} {v : AV} (h : Ans E f args v) (G : Grow S0 S aA) (h2 : ∀ S1, Grow S S1 aA → Grow S0 S1 aA → aV E nt (.c (.reg r) :: k) .nrm (iE tm d v) S1 Q) : rJ E nt f args d r k tm S Q := by
 obtain ⟨S1, h1, g⟩ := h S G.fresh
 exact cC h1 (h2 S1 g (G.two g))
end
theorem ev_x {E : Env} {f : FuncId} {fn : Func} {g : List AV → St → Option (AV × St)} {args : List AV} {S : St} {r : AV} {S' : St} (hf : E.fn f = some fn) (hX : E.X f = some g) (hg : g args S = some (r, S')) : EvA E f args S r S' := ⟨1, fun lf n _ hn => by
 cases n with
 | zero => omega
 | succ n => simp only [evF, hf, hX, hg]⟩
theorem gP {E : Env} {nt : Nat} {k : List KI} {tm : PM AV} {S : St} {Q : kW} {b : Bool} {x y : PC} (h1 : b = true → uA E nt (.sc (.bool true)) x y k tm S Q) (h2 : b = false → uA E nt (.sc (.bool false)) x y k tm S Q) : uA E nt (.sc (.bool b)) x y k tm S Q := by
 cases b with
 | true => exact h1 rfl
 | false => exact h2 rfl
theorem gO {E : Env} {nt : Nat} {k : List KI} {tm : PM AV} {S : St} {Q : kW} {b want : Bool} {d : Option Tmp} {op : Op} {r : List POp} (h1 : b = true → oH E nt (.sc (.bool true)) want d op r k tm S Q) (h2 : b = false → oH E nt (.sc (.bool false)) want d op r k tm S Q) : oH E nt (.sc (.bool b)) want d op r k tm S Q := by
 cases b with
 | true => exact h1 rfl
 | false => exact h2 rfl
theorem bU {E : Env} {f : FuncId} {args : List AV} {v : AV} (h : ∀ S : St, S.Fresh → ∃ r S', EvA E f args S r S' ∧ r = v ∧ Grow S S' aA) : Ans E f args v := fun S hS => by
 obtain ⟨r, S', h1, rfl, g⟩ := h S hS
 exact ⟨S', h1, g⟩
end Go.Abs
namespace Go.Proofs.YthjaoinieikjdaaGreatDoor
open Go.Abs
abbrev bl (s : ByteArray) : List UInt8 := s.data.toList
def keyL : List ByteArray := [⟨#[116, 121, 112, 101]⟩, ⟨#[111, 102]⟩, ⟨#[108, 101, 116]⟩, ⟨#[114, 101, 99]⟩, ⟨#[105, 110]⟩, ⟨#[102, 117, 110]⟩, ⟨#[105, 102]⟩, ⟨#[116, 104, 101, 110]⟩, ⟨#[101, 108, 115, 101]⟩, ⟨#[109, 97, 116, 99, 104]⟩, ⟨#[119, 105, 116, 104]⟩, ⟨#[101, 110, 100]⟩, ⟨#[114, 101, 102]⟩, ⟨#[112, 114, 105, 110, 116]⟩, ⟨#[114, 101, 97, 100]⟩, ⟨#[114, 97, 105, 115, 101]⟩, ⟨#[116, 114, 121]⟩, ⟨#[116, 114, 117, 101]⟩, ⟨#[102, 97, 108, 115, 101]⟩]
def sN (s : ByteArray) : Bool := keyL.any fun k => s.toList == k.toList
noncomputable def kz4 (r : Int) : Int := rI .and .u8 (Lib.propertiesTab.getD (IntKind.u8.wrap r).toNat 0) 96
noncomputable def wB (r : Int) : Bool := bif decide (IntKind.u32.wrap r ≤ 255) then kz4 r != 0 else Lib.exclGo Lib.letterT r
noncomputable def tO (r : Int) : Bool := bif decide (IntKind.u32.wrap r ≤ 255) then kz4 r == 32 else Lib.exclGo Lib.upperT r
noncomputable def eC (r : Int) : Int :=
 bif r == 95 || r == 39 || wB r then 1
 else bif decide (48 ≤ r) && decide (r ≤ 57) then 2
 else bif r == 32 || r == 9 || r == 10 || r == 13 then 3
 else bif r == 40 || r == 41 || r == 44 || r == 59 || r == 61 || r == 60 || r == 62 || r == 43 || r == 45 || r == 42 || r == 124 || r == 33 || r == 58 then 4 else 0
def nD (s : ByteArray) (n : Nat) : ByteArray := s.extract 0 n
def oI (s p : ByteArray) : Bool := bif decide (p.size ≤ s.size) then (nD s p.size).toList == p.toList else false
def eZ (may : Int → Bool) (s : ByteArray) : List (Nat × Nat) → Nat
 | [] => s.size
 | (i, r) :: l => bif may r then eZ may s l else i
noncomputable def tL (s : ByteArray) : Bool := match dV s 0 with
 | [] => false
 | (_, r) :: _ => tO r
def qF : Int → List (Nat × Nat) → Option Int
 | n, [] => some n
 | n, (_, r) :: l =>
  bif decide (n ≤ IntKind.i64.wrap ((IntKind.i64.wrap (4611686018427387903 - IntKind.i64.wrap (IntKind.i32.wrap ((r : Int) - 48)))).tdiv 10)) then qF (IntKind.i64.wrap (IntKind.i64.wrap (10 * n) + IntKind.i64.wrap (IntKind.i32.wrap ((r : Int) - 48)))) l else none
structure WordV where
 kind : Int
 text : ByteArray
def mU : WordV := ⟨0, ⟨#[]⟩⟩
noncomputable def fF (r : Int) : Bool := eC r == 1 || eC r == 2
noncomputable def tI (r : Int) : Bool := eC r == 2
noncomputable def kM (s : ByteArray) : WordV :=
 let t := nD s (eZ fF s (dV s 0))
 ⟨bif tL s then 3 else bif sN t then 4 else 2, t⟩
def rC (s : ByteArray) : WordV :=
 bif oI s ⟨#[58, 61]⟩ then ⟨5, ⟨#[58, 61]⟩⟩ else bif oI s ⟨#[45, 62]⟩ then ⟨5, ⟨#[45, 62]⟩⟩
 else bif (bl s).getD 0 0 == 62 || (bl s).getD 0 0 == 58 then mU else ⟨5, nD s 1⟩
def eB (s : ByteArray) : Int := (Lib.decodeGo s).1
noncomputable def iW (s : ByteArray) : WordV :=
 bif eC (eB s) == 1 then (bif eB s != 39 then kM s else mU)
 else bif eC (eB s) == 2 then (bif (qF 0 (dV (nD s (eZ tI s (dV s 0))) 0)).isSome then ⟨1, nD s (eZ tI s (dV s 0))⟩ else mU)
 else bif eC (eB s) == 4 then rC s else mU
noncomputable def lO (s : ByteArray) (kind : Int) : Bool :=
 bif (s.toList == (⟨#[]⟩ : ByteArray).toList) || decide (4000 < s.size) then false else (iW s).kind == kind && (iW s).text.toList == s.toList
noncomputable def gX (s : ByteArray) : Bool := bif s.toList != (⟨#[95]⟩ : ByteArray).toList then lO s 2 else false
noncomputable def lZ (s : ByteArray) : Bool := lO s 3
open Go.Shelf Go
def xd6 : Go.Shelf.Ren := ⟨fun | 261 => 172 | 311 => 193 | 312 => 194 | n => n, fun | 141 => 231 | 21 => 21 | 4 => 4 | 0 => 0 | 196 => 249 | 193 => 246 | 3 => 3 | 51 => 228 | 198 => 252 | 49 => 250 | 194 => 247 | 201 => 255 | 226 => 259 | 46 => 206 | 227 => 260 | n => n, fun | n => n⟩
theorem xz8 : Go.Proofs.Lays.n261 Tryz.prog xd6 := {
 mixed := by kernel_rfl,
 f261 := Tryz.func172.trans (congrArg some (by kernel_rfl)),
 f311 := Tryz.func193.trans (congrArg some (by kernel_rfl)),
 f312 := Tryz.func194.trans (congrArg some (by kernel_rfl)),
 t0 := Tryz.underlying0,
 a0 := Tryz.isAgg0,
 z0 := Tryz.sizeOf0,
 v0 := Tryz.zeroValue0,
 t3 := Tryz.underlying3,
 a3 := Tryz.isAgg3,
 z3 := Tryz.sizeOf3,
 v3 := Tryz.zeroValue3,
 t4 := Tryz.underlying4,
 a4 := Tryz.isAgg4,
 z4 := Tryz.sizeOf4,
 v4 := Tryz.zeroValue4,
 t21 := Tryz.underlying21,
 a21 := Tryz.isAgg21,
 z21 := Tryz.sizeOf21,
 v21 := Tryz.zeroValue21,
 t46 := Tryz.underlying206,
 a46 := Tryz.isAgg206,
 z46 := Tryz.sizeOf206,
 v46 := Tryz.zeroValue206,
 t49 := Tryz.underlying250,
 a49 := Tryz.isAgg250,
 z49 := Tryz.sizeOf250,
 v49 := Tryz.zeroValue250,
 t51 := Tryz.underlying228,
 a51 := Tryz.isAgg228,
 z51 := Tryz.sizeOf228,
 v51 := Tryz.zeroValue228,
 t141 := Tryz.underlying231,
 a141 := Tryz.isAgg231,
 z141 := Tryz.sizeOf231,
 v141 := Tryz.zeroValue231,
 t193 := Tryz.underlying246,
 a193 := Tryz.isAgg246,
 z193 := Tryz.sizeOf246,
 v193 := Tryz.zeroValue246,
 t194 := Tryz.underlying247,
 a194 := Tryz.isAgg247,
 z194 := Tryz.sizeOf247,
 v194 := Tryz.zeroValue247,
 t196 := Tryz.underlying249,
 a196 := Tryz.isAgg249,
 z196 := Tryz.sizeOf249,
 v196 := Tryz.zeroValue249,
 t198 := Tryz.underlying252,
 a198 := Tryz.isAgg252,
 z198 := Tryz.sizeOf252,
 v198 := Tryz.zeroValue252,
 t201 := Tryz.underlying255,
 a201 := Tryz.isAgg255,
 z201 := Tryz.sizeOf255,
 v201 := Tryz.zeroValue255,
 t226 := Tryz.underlying259,
 a226 := Tryz.isAgg259,
 z226 := Tryz.sizeOf259,
 v226 := Tryz.zeroValue259,
 t227 := Tryz.underlying260,
 a227 := Tryz.isAgg260,
 z227 := Tryz.sizeOf260,
 v227 := Tryz.zeroValue260 }
def xo8 : Go.Shelf.Ren := ⟨fun | 197 => 175 | 260 => 196 | n => n, fun | 9 => 9 | 21 => 21 | 3 => 3 | 4 => 4 | 5 => 5 | 105 => 179 | 119 => 229 | 0 => 0 | 46 => 206 | 139 => 263 | 138 => 262 | n => n, fun | 3 => 5 | 4 => 6 | n => n⟩
theorem kt7 : Go.Proofs.Lays.n197 Tryz.prog xo8 := {
 mixed := by kernel_rfl,
 f197 := Tryz.func175.trans (congrArg some (by kernel_rfl)),
 f260 := Tryz.func196.trans (congrArg some (by kernel_rfl)),
 t0 := Tryz.underlying0,
 a0 := Tryz.isAgg0,
 z0 := Tryz.sizeOf0,
 v0 := Tryz.zeroValue0,
 t3 := Tryz.underlying3,
 a3 := Tryz.isAgg3,
 z3 := Tryz.sizeOf3,
 v3 := Tryz.zeroValue3,
 t4 := Tryz.underlying4,
 a4 := Tryz.isAgg4,
 z4 := Tryz.sizeOf4,
 v4 := Tryz.zeroValue4,
 t5 := Tryz.underlying5,
 a5 := Tryz.isAgg5,
 z5 := Tryz.sizeOf5,
 v5 := Tryz.zeroValue5,
 t9 := Tryz.underlying9,
 a9 := Tryz.isAgg9,
 z9 := Tryz.sizeOf9,
 v9 := Tryz.zeroValue9,
 t21 := Tryz.underlying21,
 a21 := Tryz.isAgg21,
 z21 := Tryz.sizeOf21,
 v21 := Tryz.zeroValue21,
 t46 := Tryz.underlying206,
 a46 := Tryz.isAgg206,
 z46 := Tryz.sizeOf206,
 v46 := Tryz.zeroValue206,
 t105 := Tryz.underlying179,
 a105 := Tryz.isAgg179,
 z105 := Tryz.sizeOf179,
 v105 := Tryz.zeroValue179,
 t119 := Tryz.underlying229,
 a119 := Tryz.isAgg229,
 z119 := Tryz.sizeOf229,
 t138 := Tryz.underlying262,
 a138 := Tryz.isAgg262,
 z138 := Tryz.sizeOf262,
 v138 := Tryz.zeroValue262,
 t139 := Tryz.underlying263,
 a139 := Tryz.isAgg263,
 z139 := Tryz.sizeOf263,
 v139 := Tryz.zeroValue263,
 g3 := by kernel_rfl,
 g4 := by kernel_rfl }
end Go.Proofs.YthjaoinieikjdaaGreatDoor
