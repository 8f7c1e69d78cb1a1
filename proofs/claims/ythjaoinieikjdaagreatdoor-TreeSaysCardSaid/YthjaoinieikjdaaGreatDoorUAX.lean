/-
  The compiled code of functions of this seat's program, and facts on its types: written by program (wip/GenPC.lean); the kernel checks each row.
-/
import Derived.Test.YthjaoinieikjdaaGreatDoorRows
import Derived.Test.YthjaoinieikjdaaGreatDoorUAW
set_option linter.unusedSimpArgs false
set_option linter.unusedVariables false
set_option maxRecDepth 100000
namespace Go.Proofs.YthjaoinieikjdaaGreatDoor
open Go.Abs
noncomputable def E : Env := { ws5 Tryz.prog (fun t d => (Nat.beq t 31 && isDst d 26)) (fun _ _ => none) (uZ [] [140]) with G := pP, X := fun f => bif Nat.beq f 172 then some (gB pL) else bif Nat.beq f 175 then some (gB decF) else bif Nat.beq f 17 then some (oJ (.bool true)) else bif Nat.beq f 120 then some mF else bif Nat.beq f 111 then some (gB fmtF) else bif Nat.beq f 110 then some oL else bif Nat.beq f 69 then some (nI 118) else none }
abbrev Ld (t : Nat) (b : Bool) (n : Nat) : Prop := ∀ {tm : PM AV} {S : St} {d : Option Tmp} (x : Operand), opV E tm d (.load t x) S = jY b n (E.ev tm x) S
abbrev Sto (t n : Nat) : Prop := ∀ {tm : PM AV} {S : St} {d : Option Tmp} (x y : Operand), opV E tm d (.store t x y) S = gZ n (E.ev tm x) (E.ev tm y) S
abbrev Ixc (t n : Nat) : Prop := ∀ {tm : PM AV} {S : St} {d : Option Tmp} (x y : Operand), opV E tm d (.indexAddr t x y) S = bT n (E.ev tm x) (eU (E.ev tm y)) S
abbrev Lnc (t : Nat) : Prop := ∀ {tm : PM AV} {S : St} {d : Option Tmp} (x : Operand), opV E tm d (.call (Call.mk (.builtin .len) #[x] #[t])) S = iF (E.ev tm x) S
abbrev Bsc (t : Nat) : Prop := ∀ {tm : PM AV} {S : St} {d : Option Tmp} (n : Nat) (ps : Array (Nat × Operand)), opV E tm d (.buildSlice t n ps) S = gE E t n (ps.toList.map fun p => (p.1, E.ev tm p.2)) S
abbrev Apc (t : Nat) : Prop := ∀ {tm : PM AV} {S : St} {d : Option Tmp} (x y : Operand) (t1 : TypeId), opV E tm d (.call (Call.mk (.builtin .append) #[x, y] #[t, t1])) S = bD E false .append [t, t1] [E.ev tm x, E.ev tm y] S
theorem bF (i : FuncId) (hx : E.ext i = none) {nt : Nat} {k : List KI} {tm : PM AV} {S : St} {Q : kW} (d : Option Tmp) (xs : Array Operand) (ats : Array TypeId) (r : List POp) : aV E nt (.c (.reg (⟨d, .call (Call.mk (.value (.func i)) xs ats), none⟩ :: r)) :: k) .nrm tm S Q = rJ E nt i (xs.toList.map (E.ev tm)) d r k tm S Q := e_call d i xs ats r hx
abbrev EvC (i nt : Nat) (p : PC) (rv : List ResultVar) : Prop := ∀ {args : List AV} {S : St} {P : AV → St → Prop}, Nat.ble args.length nt = true → aV E nt [.c p] .nrm (mR 0 args .leaf) S (kB E rv P) → ∃ r S', EvA E i args S r S' ∧ P r S'
theorem bG {i nt : Nat} {p : PC} {rv : List ResultVar} (fn : Func) (e : (E.fn i, E.X i, (fn.body.map (eH E fn.ntmps)), fn.ntmps, fn.results.toList) = (some fn, none, some p, nt, rv)) : EvC i nt p rv := fun hn h => ev_ends (congrArg (·.1) e) (congrArg (·.2.1) e) (congrArg (·.2.2.1) e) (congrArg (·.2.2.2.1) e) (congrArg (·.2.2.2.2) e) hn h
theorem load2 : Ld 2 false 1 := fZ 2 false 1 (by kernel_rfl)
theorem load3 : Ld 3 false 1 := fZ 3 false 1 (by kernel_rfl)
theorem store3 : Sto 3 1 := jS (b := false) 3 1 (by kernel_rfl)
theorem load5 : Ld 5 false 1 := fZ 5 false 1 (by kernel_rfl)
theorem load9 : Ld 9 false 1 := fZ 9 false 1 (by kernel_rfl)
theorem store9 : Sto 9 1 := jS (b := false) 9 1 (by kernel_rfl)
theorem load23 : Ld 23 false 1 := fZ 23 false 1 (by kernel_rfl)
theorem index23 : Ixc 23 7 := qY 23 7 (by kernel_rfl)
theorem len23 : Lnc 23 := qG (t := 23) (e := 36) (by kernel_rfl)
theorem load24 : Ld 24 false 1 := fZ 24 false 1 (by kernel_rfl)
theorem index24 : Ixc 24 2 := qY 24 2 (by kernel_rfl)
theorem len24 : Lnc 24 := qG (t := 24) (e := 75) (by kernel_rfl)
theorem load26 : Ld 26 true 2 := fZ 26 true 2 (by kernel_rfl)
theorem load31 : Ld 31 false 1 := fZ 31 false 1 (by kernel_rfl)
theorem store31 : Sto 31 1 := jS (b := false) 31 1 (by kernel_rfl)
theorem und31 : E.und 31 = some (.slice 9) := by kernel_rfl
theorem sl31 : slIs E 31 1 = true := by kernel_rfl
theorem el31 : kA E 31 9 false 1 16 = true := by kernel_rfl
theorem hp31 {k : Nat} (hk26 : (k == 26) = false) : E.hp 31 (some k) = false := by
 show isDst (some k) 26 = false
 simp only [isDst] at *
 simp [hk26]
theorem bs31 {tm : PM AV} {S : St} {k : Nat} (hk26 : (k == 26) = false) (n : Nat) (ps : Array (Nat × Operand)) : opV E tm (some k) (.buildSlice 31 n ps) S = gE E 31 n (ps.toList.map fun p => (p.1, E.ev tm p.2)) S := by
 have h1 : cD E (fP (some k) (.buildSlice 31 n ps)) = false := hp31 hk26
 simp only [opV, eV, h1, aK]; rfl
theorem app31 {tm : PM AV} {S : St} {k : Nat} (hk26 : (k == 26) = false) (x y : Operand) (t1 : TypeId) : opV E tm (some k) (.call (Call.mk (.builtin .append) #[x, y] #[31, t1])) S = bD E false .append [31, t1] [E.ev tm x, E.ev tm y] S := by
 have h : opV E tm (some k) (.call (Call.mk (.builtin .append) #[x, y] #[31, t1])) S = bD E (E.hp 31 (some k)) .append [31, t1] [E.ev tm x, E.ev tm y] S := rfl
 rw [h, hp31 hk26]
theorem app31m {tm : PM AV} {S : St} (x y : Operand) (t1 : TypeId) : opV E tm (some 26) (.call (Call.mk (.builtin .append) #[x, y] #[31, t1])) S = bD E true .append [31, t1] [E.ev tm x, E.ev tm y] S := rfl
theorem index31 : Ixc 31 1 := qY 31 1 (by kernel_rfl)
theorem len31 : Lnc 31 := qG (t := 31) (e := 9) (by kernel_rfl)
theorem load34 : Ld 34 false 1 := fZ 34 false 1 (by kernel_rfl)
theorem und34 : E.und 34 = some (.slice 3) := by kernel_rfl
theorem el34 : kA E 34 3 false 1 8 = true := by kernel_rfl
theorem bs34 : Bsc 34 := fun _ _ => rfl
theorem app34 : Apc 34 := fun _ _ _ => rfl
theorem index34 : Ixc 34 1 := qY 34 1 (by kernel_rfl)
theorem len34 : Lnc 34 := qG (t := 34) (e := 3) (by kernel_rfl)
theorem load36 : Ld 36 true 7 := fZ 36 true 7 (by kernel_rfl)
theorem store36 : Sto 36 7 := jS (b := true) 36 7 (by kernel_rfl)
theorem load49 : Ld 49 false 1 := fZ 49 false 1 (by kernel_rfl)
theorem store49 : Sto 49 1 := jS (b := false) 49 1 (by kernel_rfl)
theorem und49 : E.und 49 = some (.slice 69) := by kernel_rfl
theorem el49 : kA E 49 69 true 7 88 = true := by kernel_rfl
theorem bs49 : Bsc 49 := fun _ _ => rfl
theorem app49 : Apc 49 := fun _ _ _ => rfl
theorem index49 : Ixc 49 7 := qY 49 7 (by kernel_rfl)
theorem len49 : Lnc 49 := qG (t := 49) (e := 69) (by kernel_rfl)
theorem load50 : Ld 50 false 1 := fZ 50 false 1 (by kernel_rfl)
theorem store50 : Sto 50 1 := jS (b := false) 50 1 (by kernel_rfl)
theorem und50 : E.und 50 = some (.slice 72) := by kernel_rfl
theorem el50 : kA E 50 72 true 2 40 = true := by kernel_rfl
theorem bs50 : Bsc 50 := fun _ _ => rfl
theorem app50 : Apc 50 := fun _ _ _ => rfl
theorem index50 : Ixc 50 2 := qY 50 2 (by kernel_rfl)
theorem len50 : Lnc 50 := qG (t := 50) (e := 72) (by kernel_rfl)
theorem load52 : Ld 52 true 2 := fZ 52 true 2 (by kernel_rfl)
theorem store52 : Sto 52 2 := jS (b := true) 52 2 (by kernel_rfl)
theorem load69 : Ld 69 true 7 := fZ 69 true 7 (by kernel_rfl)
theorem store69 : Sto 69 7 := jS (b := true) 69 7 (by kernel_rfl)
theorem load70 : Ld 70 false 1 := fZ 70 false 1 (by kernel_rfl)
theorem store70 : Sto 70 1 := jS (b := false) 70 1 (by kernel_rfl)
theorem und70 : E.und 70 = some (.slice 77) := by kernel_rfl
theorem el70 : kA E 70 77 true 2 40 = true := by kernel_rfl
theorem bs70 : Bsc 70 := fun _ _ => rfl
theorem app70 : Apc 70 := fun _ _ _ => rfl
theorem index70 : Ixc 70 2 := qY 70 2 (by kernel_rfl)
theorem len70 : Lnc 70 := qG (t := 70) (e := 77) (by kernel_rfl)
theorem load72 : Ld 72 true 2 := fZ 72 true 2 (by kernel_rfl)
theorem store72 : Sto 72 2 := jS (b := true) 72 2 (by kernel_rfl)
theorem load73 : Ld 73 false 1 := fZ 73 false 1 (by kernel_rfl)
theorem index73 : Ixc 73 2 := qY 73 2 (by kernel_rfl)
theorem len73 : Lnc 73 := qG (t := 73) (e := 78) (by kernel_rfl)
theorem load75 : Ld 75 true 2 := fZ 75 true 2 (by kernel_rfl)
theorem store75 : Sto 75 2 := jS (b := true) 75 2 (by kernel_rfl)
theorem load77 : Ld 77 true 2 := fZ 77 true 2 (by kernel_rfl)
theorem store77 : Sto 77 2 := jS (b := true) 77 2 (by kernel_rfl)
theorem load78 : Ld 78 true 2 := fZ 78 true 2 (by kernel_rfl)
theorem store78 : Sto 78 2 := jS (b := true) 78 2 (by kernel_rfl)
theorem load109 : Ld 109 false 1 := fZ 109 false 1 (by kernel_rfl)
theorem store109 : Sto 109 1 := jS (b := false) 109 1 (by kernel_rfl)
theorem load110 : Ld 110 false 1 := fZ 110 false 1 (by kernel_rfl)
theorem store110 : Sto 110 1 := jS (b := false) 110 1 (by kernel_rfl)
theorem und110 : E.und 110 = some (.slice 5) := by kernel_rfl
theorem el110 : kA E 110 5 false 1 1 = true := by kernel_rfl
theorem bs110 : Bsc 110 := fun _ _ => rfl
theorem app110 : Apc 110 := fun _ _ _ => rfl
theorem len110 : Lnc 110 := qG (t := 110) (e := 5) (by kernel_rfl)
theorem und131 : E.und 131 = some (.slice 141) := by kernel_rfl
theorem el131 : kA E 131 141 true 4 40 = true := by kernel_rfl
theorem bs131 : Bsc 131 := fun _ _ => rfl
theorem app131 : Apc 131 := fun _ _ _ => rfl
theorem index131 : Ixc 131 4 := qY 131 4 (by kernel_rfl)
theorem len131 : Lnc 131 := qG (t := 131) (e := 141) (by kernel_rfl)
theorem load141 : Ld 141 true 4 := fZ 141 true 4 (by kernel_rfl)
theorem store141 : Sto 141 4 := jS (b := true) 141 4 (by kernel_rfl)
theorem load212 : Ld 212 true 4 := fZ 212 true 4 (by kernel_rfl)
theorem store212 : Sto 212 4 := jS (b := true) 212 4 (by kernel_rfl)
theorem load231 : Ld 231 false 1 := fZ 231 false 1 (by kernel_rfl)
theorem yu7 {S : St} (mu : Bool) (n : Int) : gH E mu 2 5 (.sc (.int .i64 n)) S = some (.sc (.int .u8 (IntKind.wrap .u8 n)), S) := uI 2 5 .i64 .u8 n (by kernel_rfl) (by kernel_rfl)
theorem zy0 {S : St} (mu : Bool) (n : Int) : gH E mu 5 21 (.sc (.int .u8 n)) S = some (.sc (.int .i32 (IntKind.wrap .i32 n)), S) := uI 5 21 .u8 .i32 n (by kernel_rfl) (by kernel_rfl)
theorem yg5 {S : St} (mu : Bool) (n : Int) : gH E mu 5 202 (.sc (.int .u8 n)) S = some (.sc (.int .u64 (IntKind.wrap .u64 n)), S) := uI 5 202 .u8 .u64 n (by kernel_rfl) (by kernel_rfl)
theorem ym5 {S : St} (mu : Bool) (n : Int) : gH E mu 21 2 (.sc (.int .i32 n)) S = some (.sc (.int .i64 (IntKind.wrap .i64 n)), S) := uI 21 2 .i32 .i64 n (by kernel_rfl) (by kernel_rfl)
theorem yi0 {S : St} (mu : Bool) (n : Int) : gH E mu 21 5 (.sc (.int .i32 n)) S = some (.sc (.int .u8 (IntKind.wrap .u8 n)), S) := uI 21 5 .i32 .u8 n (by kernel_rfl) (by kernel_rfl)
theorem zz8 {S : St} (mu : Bool) (n : Int) : gH E mu 21 228 (.sc (.int .i32 n)) S = some (.sc (.int .u32 (IntKind.wrap .u32 n)), S) := uI 21 228 .i32 .u32 n (by kernel_rfl) (by kernel_rfl)
theorem call17 : type_of% (@bF 17 rfl) := @bF 17 rfl
theorem call18 : type_of% (@bF 18 rfl) := @bF 18 rfl
theorem call19 : type_of% (@bF 19 rfl) := @bF 19 rfl
theorem call20 : type_of% (@bF 20 rfl) := @bF 20 rfl
theorem call21 : type_of% (@bF 21 rfl) := @bF 21 rfl
theorem call22 : type_of% (@bF 22 rfl) := @bF 22 rfl
theorem call23 : type_of% (@bF 23 rfl) := @bF 23 rfl
theorem call24 : type_of% (@bF 24 rfl) := @bF 24 rfl
theorem call25 : type_of% (@bF 25 rfl) := @bF 25 rfl
theorem call26 : type_of% (@bF 26 rfl) := @bF 26 rfl
theorem call27 : type_of% (@bF 27 rfl) := @bF 27 rfl
theorem call28 : type_of% (@bF 28 rfl) := @bF 28 rfl
theorem call29 : type_of% (@bF 29 rfl) := @bF 29 rfl
theorem call30 : type_of% (@bF 30 rfl) := @bF 30 rfl
theorem call31 : type_of% (@bF 31 rfl) := @bF 31 rfl
theorem call32 : type_of% (@bF 32 rfl) := @bF 32 rfl
theorem call33 : type_of% (@bF 33 rfl) := @bF 33 rfl
theorem call34 : type_of% (@bF 34 rfl) := @bF 34 rfl
theorem call35 : type_of% (@bF 35 rfl) := @bF 35 rfl
theorem call53 : type_of% (@bF 53 rfl) := @bF 53 rfl
theorem call55 : type_of% (@bF 55 rfl) := @bF 55 rfl
theorem call56 : type_of% (@bF 56 rfl) := @bF 56 rfl
theorem call57 : type_of% (@bF 57 rfl) := @bF 57 rfl
theorem call58 : type_of% (@bF 58 rfl) := @bF 58 rfl
theorem call59 : type_of% (@bF 59 rfl) := @bF 59 rfl
theorem call60 : type_of% (@bF 60 rfl) := @bF 60 rfl
theorem call61 : type_of% (@bF 61 rfl) := @bF 61 rfl
theorem call62 : type_of% (@bF 62 rfl) := @bF 62 rfl
theorem call63 : type_of% (@bF 63 rfl) := @bF 63 rfl
theorem call64 : type_of% (@bF 64 rfl) := @bF 64 rfl
theorem call65 : type_of% (@bF 65 rfl) := @bF 65 rfl
theorem call66 : type_of% (@bF 66 rfl) := @bF 66 rfl
theorem call67 : type_of% (@bF 67 rfl) := @bF 67 rfl
theorem call68 : type_of% (@bF 68 rfl) := @bF 68 rfl
theorem call69 : type_of% (@bF 69 rfl) := @bF 69 rfl
theorem call70 : type_of% (@bF 70 rfl) := @bF 70 rfl
theorem call71 : type_of% (@bF 71 rfl) := @bF 71 rfl
theorem call72 : type_of% (@bF 72 rfl) := @bF 72 rfl
theorem call73 : type_of% (@bF 73 rfl) := @bF 73 rfl
theorem call74 : type_of% (@bF 74 rfl) := @bF 74 rfl
theorem call75 : type_of% (@bF 75 rfl) := @bF 75 rfl
theorem call76 : type_of% (@bF 76 rfl) := @bF 76 rfl
theorem call77 : type_of% (@bF 77 rfl) := @bF 77 rfl
theorem call89 : type_of% (@bF 89 rfl) := @bF 89 rfl
theorem call92 : type_of% (@bF 92 rfl) := @bF 92 rfl
theorem call96 : type_of% (@bF 96 rfl) := @bF 96 rfl
theorem call97 : type_of% (@bF 97 rfl) := @bF 97 rfl
theorem call98 : type_of% (@bF 98 rfl) := @bF 98 rfl
theorem call99 : type_of% (@bF 99 rfl) := @bF 99 rfl
theorem call102 : type_of% (@bF 102 rfl) := @bF 102 rfl
theorem call103 : type_of% (@bF 103 rfl) := @bF 103 rfl
theorem call104 : type_of% (@bF 104 rfl) := @bF 104 rfl
theorem call105 : type_of% (@bF 105 rfl) := @bF 105 rfl
theorem call106 : type_of% (@bF 106 rfl) := @bF 106 rfl
theorem call107 : type_of% (@bF 107 rfl) := @bF 107 rfl
theorem call108 : type_of% (@bF 108 rfl) := @bF 108 rfl
theorem call109 : type_of% (@bF 109 rfl) := @bF 109 rfl
theorem call110 : type_of% (@bF 110 rfl) := @bF 110 rfl
theorem call111 : type_of% (@bF 111 rfl) := @bF 111 rfl
theorem call112 : type_of% (@bF 112 rfl) := @bF 112 rfl
theorem call113 : type_of% (@bF 113 rfl) := @bF 113 rfl
theorem call114 : type_of% (@bF 114 rfl) := @bF 114 rfl
theorem call115 : type_of% (@bF 115 rfl) := @bF 115 rfl
theorem call119 : type_of% (@bF 119 rfl) := @bF 119 rfl
theorem call120 : type_of% (@bF 120 rfl) := @bF 120 rfl
theorem call121 : type_of% (@bF 121 rfl) := @bF 121 rfl
theorem call122 : type_of% (@bF 122 rfl) := @bF 122 rfl
theorem call123 : type_of% (@bF 123 rfl) := @bF 123 rfl
theorem call124 : type_of% (@bF 124 rfl) := @bF 124 rfl
theorem call125 : type_of% (@bF 125 rfl) := @bF 125 rfl
theorem call131 : type_of% (@bF 131 rfl) := @bF 131 rfl
theorem call134 : type_of% (@bF 134 rfl) := @bF 134 rfl
theorem call135 : type_of% (@bF 135 rfl) := @bF 135 rfl
theorem call136 : type_of% (@bF 136 rfl) := @bF 136 rfl
theorem call137 : type_of% (@bF 137 rfl) := @bF 137 rfl
theorem call138 : type_of% (@bF 138 rfl) := @bF 138 rfl
theorem call143 : type_of% (@bF 143 rfl) := @bF 143 rfl
theorem call144 : type_of% (@bF 144 rfl) := @bF 144 rfl
theorem call148 : type_of% (@bF 148 rfl) := @bF 148 rfl
theorem call149 : type_of% (@bF 149 rfl) := @bF 149 rfl
theorem call150 : type_of% (@bF 150 rfl) := @bF 150 rfl
theorem call151 : type_of% (@bF 151 rfl) := @bF 151 rfl
theorem call155 : type_of% (@bF 155 rfl) := @bF 155 rfl
theorem call172 : type_of% (@bF 172 rfl) := @bF 172 rfl
theorem call175 : type_of% (@bF 175 rfl) := @bF 175 rfl
theorem call176 : type_of% (@bF 176 rfl) := @bF 176 rfl
theorem call177 : type_of% (@bF 177 rfl) := @bF 177 rfl
theorem call178 : type_of% (@bF 178 rfl) := @bF 178 rfl
theorem call180 : type_of% (@bF 180 rfl) := @bF 180 rfl
theorem call181 : type_of% (@bF 181 rfl) := @bF 181 rfl
theorem call198 : type_of% (@bF 198 rfl) := @bF 198 rfl
theorem call199 : type_of% (@bF 199 rfl) := @bF 199 rfl
theorem call200 : type_of% (@bF 200 rfl) := @bF 200 rfl
theorem call205 : type_of% (@bF 205 rfl) := @bF 205 rfl
noncomputable def b24_9 : PC := (.seq (.reg [bo 13 .lss 3 12 11]) (.seq (.cond (.tmp 13) .skip (.exit 0)) (.seq (.block 1 (.seq (.reg [ia 14 24 10 12, ld 15 75 14, al 5 75, sto 75 5 15]) (.reg [ld 16 75 5, cl 17 63 #[.tmp 16] #[75], cl 18 62 #[.tmp 3, .tmp 17] #[112, 9]]))) (.reg [bi 19 .add 3 12 1, mv 12 19]))))
noncomputable def p24 : PC := (.seq (.reg [bx 1 26 0, sz 2 ⟨#[]⟩]) (.seq (.seq (.reg [ld 6 26 1, cl 7 22 #[.tmp 6] #[26], nt 8 4 7]) (.cond (.tmp 8) (.seq (.reg [sz 2 ⟨#[]⟩]) .ret) .skip)) (.seq (.reg [al 3 112]) (.seq (.seq (.reg [fa 9 26 1 1, ld 10 24 9, ln 11 10 24, ⟨some 12, .move (.const (.int .i64 0)), none⟩]) (.block 0 (.loop b24_9))) (.seq (.reg [ld 20 26 1, cl 21 64 #[.tmp 20, (.const (.int .i64 0))] #[26, 3], cl 22 62 #[.tmp 3, .tmp 21] #[112, 9]]) (.seq (.reg [cl 23 65 #[.tmp 3] #[112], ag 2 23]) .ret))))))
theorem ev24 : EvC 24 24 p24 [.tmp 2] := bG Tryz.f24 (by kernel_rfl)
theorem P24 : type_of% (B6 p24.eq_1 @load24 @index24 @len24 @load26 @load75 <| An @store75 <| An @call22 <| An @call62 <| An @call63 <| An @call64 <| @call65) := B6 p24.eq_1 @load24 @index24 @len24 @load26 @load75 <| An @store75 <| An @call22 <| An @call62 <| An @call63 <| An @call64 <| @call65
noncomputable def b64_8 : PC := (.seq (.reg [bo 18 .lss 3 17 16]) (.seq (.cond (.tmp 18) .skip (.exit 0)) (.seq (.block 1 (.seq (.reg [ia 19 34 15 17, ld 20 3 19, ag 8 20]) (.reg [mv 21 6, ld 22 26 2, mv 23 8, cl 24 64 #[.tmp 22, .tmp 23] #[26, 3], b1 25 31 24, ap 26 21 25 31, ag 6 26]))) (.reg [bi 27 .add 3 17 1, mv 17 27]))))
def r64_29 : LP := [
 fa 62 36 5 0,
 ld 63 3 62,
 bi 64 .eql 3 63 7,
 mv 65 64,
 gd (fa 66 26 2 0) 65 true,
 gd (ld 67 23 66) 65 true,
 gd (fa 68 36 5 4) 65 true,
 gd (ld 69 34 68) 65 true,
 gd (ik 70 34 69 0) 65 true,
 gd (ld 71 3 70) 65 true,
 gd (ia 72 23 67 71) 65 true,
 gd (fa 73 36 72 0) 65 true,
 gd (ld 74 3 73) 65 true,
 gd (bi 75 .eql 3 74 5) 65 true,
 pf 76 65 75,
 mv 77 76,
 gd (fa 78 26 2 0) 77 true,
 gd (ld 79 23 78) 77 true,
 gd (fa 80 36 5 4) 77 true,
 gd (ld 81 34 80) 77 true,
 gd (ik 82 34 81 0) 77 true,
 gd (ld 83 3 82) 77 true,
 gd (ia 84 23 79 83) 77 true,
 gd (fa 85 36 84 4) 77 true,
 gd (ld 86 34 85) 77 true,
 gd (ln 87 86 34) 77 true,
 gd (bi 88 .eql 3 87 0) 77 true,
 pf 89 77 88]
def r64_30 : LP := [
 mv 90 6,
 mv 91 6,
 ik 92 31 91 0,
 ld 93 9 92,
 zb 94 .add 9 ⟨#[40]⟩ 93,
 bz 95 .add 9 94 ⟨#[41]⟩,
 ik 96 31 90 0,
 sto 9 96 95]
def r64_31 : LP := [
 ld 97 36 5,
 mv 98 6,
 cl 99 114 #[.tmp 97, .tmp 98] #[36, 31],
 zb 100 .add 9 ⟨#[40]⟩ 99,
 bz 101 .add 9 100 ⟨#[41]⟩,
 ag 4 101]
noncomputable def p64 : PC := (.seq (.reg [bx 2 26 0, sz 4 ⟨#[]⟩]) (.seq (.reg [fa 9 26 2 0, ld 10 23 9, mv 11 1, ia 12 23 10 11, ld 13 36 12, al 5 36, sto 36 5 13]) (.seq (.reg [an 6]) (.seq (.seq (.reg [fa 14 36 5 4, ld 15 34 14, ln 16 15 34, ⟨some 17, .move (.const (.int .i64 0)), none⟩]) (.block 0 (.loop b64_8))) (.seq (.seq (.reg [fa 28 36 5 0, ld 29 3 28]) (.block 2 (.seq (.seq (.reg [bi 31 .eql 3 29 1, ag 30 31]) (.cond (.tmp 30) .skip (.reg [bi 32 .eql 3 29 23, ag 30 32]))) (.cond (.tmp 30) (.seq (.reg [fa 33 36 5 1, ld 34 2 33, cl 35 111 #[.tmp 34, (.const (.int .i64 10))] #[2, 3], ag 4 35]) .ret) (.seq (.seq (.reg [bi 37 .eql 3 29 2, ag 36 37]) (.cond (.tmp 36) .skip (.reg [bi 38 .eql 3 29 24, ag 36 38]))) (.cond (.tmp 36) (.seq (.reg [fa 39 36 5 1, ld 40 2 39, bi 41 .eql 2 40 1, cl 42 112 #[.tmp 41] #[4], ag 4 42]) .ret) (.seq (.seq (.reg [bi 44 .eql 3 29 3, ag 43 44]) (.cond (.tmp 43) .skip (.reg [bi 45 .eql 3 29 25, ag 43 45]))) (.cond (.tmp 43) (.seq (.reg [sz 4 ⟨#[40, 41]⟩]) .ret) (.seq (.seq (.reg [bi 47 .eql 3 29 4, ag 46 47]) (.cond (.tmp 46) .skip (.reg [bi 48 .eql 3 29 22, ag 46 48]))) (.cond (.tmp 46) (.seq (.reg [fa 49 36 5 2, ld 50 9 49, ag 4 50]) .ret) (.seq (.reg [bi 52 .eql 3 29 21, ag 51 52]) (.cond (.tmp 51) (.seq (.reg [sz 4 ⟨#[95]⟩]) .ret) (.seq (.reg [bi 54 .eql 3 29 18, ag 53 54]) (.cond (.tmp 53) (.seq (.reg [sz 4 ⟨#[114, 101, 97, 100]⟩]) .ret) (.seq (.seq (.reg [bi 56 .eql 3 29 5, ag 55 56]) (.cond (.tmp 55) .skip (.reg [bi 57 .eql 3 29 26, ag 55 57]))) (.cond (.tmp 55) (.seq (.reg [fa 58 36 5 2, ld 59 9 58, mv 60 6, cl 61 113 #[.tmp 59, .tmp 60] #[9, 31], ag 4 61]) .ret) .skip)))))))))))))))) (.seq (.seq (.regD 28 r64_29) (.cond (.tmp 89) (.reg r64_30) .skip)) (.seq (.reg r64_31) .ret)))))))
theorem ev64 : EvC 64 102 p64 [.tmp 4] := bG Tryz.f64 (by kernel_rfl)
theorem P64 : type_of% (B6 r64_29.eq_1 r64_30.eq_1 r64_31.eq_1 p64.eq_1 @load2 @load3 <| B6 @load9 @store9 @load23 @index23 @load26 @bs31 <| B6 @app31 @index31 @load34 @index34 @len34 @load36 <| An @store36 <| An @call64 <| An @call111 <| An @call112 <| An @call113 <| @call114) := B6 r64_29.eq_1 r64_30.eq_1 r64_31.eq_1 p64.eq_1 @load2 @load3 <| B6 @load9 @store9 @load23 @index23 @load26 @bs31 <| B6 @app31 @index31 @load34 @index34 @len34 @load36 <| An @store36 <| An @call64 <| An @call111 <| An @call112 <| An @call113 <| @call114
noncomputable def p113 : PC := (.seq (.reg [sz 4 ⟨#[]⟩]) (.seq (.seq (.reg [mv 5 1, ln 6 5 31, bi 7 .eql 3 6 0]) (.cond (.tmp 7) (.seq (.reg [mv 8 0, ag 4 8]) .ret) .skip)) (.seq (.reg [mv 9 0, bz 10 .add 9 9 ⟨#[32, 40]⟩, mv 11 1, cl 12 110 #[.tmp 11, (.const (.string ⟨#[44, 32]⟩))] #[31, 9], bo 13 .add 9 10 12, bz 14 .add 9 13 ⟨#[41]⟩, ag 4 14]) .ret)))
theorem ev113 : EvC 113 15 p113 [.tmp 4] := bG Tryz.f113 (by kernel_rfl)
theorem P113 : type_of% (An p113.eq_1 <| An @len31 <| @call110) := An p113.eq_1 <| An @len31 <| @call110
def r114_3 : LP := [
 fa 9 36 2 3,
 ld 10 9 9,
 zb 11 .add 9 ⟨#[102, 117, 110, 32]⟩ 10,
 bz 12 .add 9 11 ⟨#[32, 45, 62, 32]⟩,
 mv 13 1,
 ik 14 31 13 0,
 ld 15 9 14,
 bo 16 .add 9 12 15,
 ag 4 16]
def r114_5 : LP := [
 mv 19 1,
 ik 20 31 19 0,
 ld 21 9 20,
 bz 22 .add 9 21 ⟨#[32]⟩,
 mv 23 1,
 ik 24 31 23 1,
 ld 25 9 24,
 bo 26 .add 9 22 25,
 ag 4 26]
def r114_7 : LP := [
 fa 29 36 2 2,
 ld 30 9 29,
 zb 31 .add 9 ⟨#[108, 101, 116, 32]⟩ 30,
 bz 32 .add 9 31 ⟨#[32, 61, 32]⟩,
 mv 33 1,
 ik 34 31 33 0,
 ld 35 9 34,
 bo 36 .add 9 32 35,
 bz 37 .add 9 36 ⟨#[32, 105, 110, 32]⟩,
 mv 38 1,
 ik 39 31 38 1,
 ld 40 9 39,
 bo 41 .add 9 37 40,
 ag 4 41]
def r114_9 : LP := [
 fa 44 36 2 2,
 ld 45 9 44,
 zb 46 .add 9 ⟨#[108, 101, 116, 32, 114, 101, 99, 32]⟩ 45,
 bz 47 .add 9 46 ⟨#[32]⟩,
 fa 48 36 2 3,
 ld 49 9 48,
 bo 50 .add 9 47 49,
 bz 51 .add 9 50 ⟨#[32, 61, 32]⟩,
 mv 52 1,
 ik 53 31 52 0,
 ld 54 9 53,
 bo 55 .add 9 51 54,
 bz 56 .add 9 55 ⟨#[32, 105, 110, 32]⟩,
 mv 57 1,
 ik 58 31 57 1,
 ld 59 9 58,
 bo 60 .add 9 56 59,
 ag 4 60]
def r114_11 : LP := [
 mv 63 1,
 ik 64 31 63 0,
 ld 65 9 64,
 zb 66 .add 9 ⟨#[105, 102, 32]⟩ 65,
 bz 67 .add 9 66 ⟨#[32, 116, 104, 101, 110, 32]⟩,
 mv 68 1,
 ik 69 31 68 1,
 ld 70 9 69,
 bo 71 .add 9 67 70,
 bz 72 .add 9 71 ⟨#[32, 101, 108, 115, 101, 32]⟩,
 mv 73 1,
 ik 74 31 73 2,
 ld 75 9 74,
 bo 76 .add 9 72 75,
 ag 4 76]
def r114_13 : LP := [
 mv 79 1,
 ik 80 31 79 0,
 ld 81 9 80,
 zb 82 .add 9 ⟨#[109, 97, 116, 99, 104, 32]⟩ 81,
 bz 83 .add 9 82 ⟨#[32, 119, 105, 116, 104, 32]⟩,
 mv 84 1,
 ⟨some 85, .slice 31 (.tmp 84) (some (.const (.int .i64 1))) none none, none⟩,
 cl 86 144 #[.tmp 85] #[31]]
def r114_14 : LP := [
 bo 87 .add 9 83 86,
 bz 88 .add 9 87 ⟨#[32, 101, 110, 100]⟩,
 ag 4 88]
noncomputable def d114_0 : Array Oper := match Tryz.f114.body.map (eH E Tryz.f114.ntmps) with | some p => p.draws.getD 0 #[] | none => #[]
theorem kt1 : DrawC E 161 d114_0 11 8 r114_13 r114_14 [(.tmp 80)] := ⟨by kernel_rfl, by decide, by kernel_rfl, by kernel_rfl, by kernel_rfl, by kernel_rfl, by kernel_rfl⟩
def r114_16 : LP := [
 mv 91 1,
 ik 92 31 91 0,
 ld 93 9 92,
 bz 94 .add 9 93 ⟨#[32, 59, 32]⟩,
 mv 95 1,
 ik 96 31 95 1,
 ld 97 9 96,
 bo 98 .add 9 94 97,
 ag 4 98]
def r114_18 : LP := [
 mv 101 1,
 ik 102 31 101 0,
 ld 103 9 102,
 bz 104 .add 9 103 ⟨#[32, 58, 61, 32]⟩,
 mv 105 1,
 ik 106 31 105 1,
 ld 107 9 106,
 bo 108 .add 9 104 107,
 ag 4 108]
def r114_20 : LP := [
 mv 111 1,
 ik 112 31 111 0,
 ld 113 9 112,
 bz 114 .add 9 113 ⟨#[32]⟩,
 fa 115 36 2 2,
 ld 116 9 115,
 bo 117 .add 9 114 116,
 bz 118 .add 9 117 ⟨#[32]⟩,
 mv 119 1,
 ik 120 31 119 1,
 ld 121 9 120,
 bo 122 .add 9 118 121,
 ag 4 122]
def r114_29 : LP := [
 mv 147 1,
 ik 148 31 147 0,
 ld 149 9 148,
 zb 150 .add 9 ⟨#[116, 114, 121, 32]⟩ 149,
 bz 151 .add 9 150 ⟨#[32, 119, 105, 116, 104, 32]⟩,
 fa 152 36 2 3,
 ld 153 9 152,
 bo 154 .add 9 151 153,
 bz 155 .add 9 154 ⟨#[32, 45, 62, 32]⟩,
 mv 156 1,
 ik 157 31 156 1,
 ld 158 9 157,
 bo 159 .add 9 155 158,
 bz 160 .add 9 159 ⟨#[32, 101, 110, 100]⟩,
 ag 4 160]
noncomputable def p114 : PC := (.seq (.reg [bx 2 36 0, sz 4 ⟨#[]⟩]) (.seq (.seq (.reg [fa 5 36 2 0, ld 6 3 5]) (.block 0 (.seq (.reg [bi 8 .eql 3 6 6, ag 7 8]) (.cond (.tmp 7) (.seq (.regD 9 r114_3) .ret) (.seq (.reg [bi 18 .eql 3 6 7, ag 17 18]) (.cond (.tmp 17) (.seq (.regD 9 r114_5) .ret) (.seq (.reg [bi 28 .eql 3 6 8, ag 27 28]) (.cond (.tmp 27) (.seq (.regD 14 r114_7) .ret) (.seq (.reg [bi 43 .eql 3 6 9, ag 42 43]) (.cond (.tmp 42) (.seq (.regD 18 r114_9) .ret) (.seq (.reg [bi 62 .eql 3 6 10, ag 61 62]) (.cond (.tmp 61) (.seq (.regD 15 r114_11) .ret) (.seq (.reg [bi 78 .eql 3 6 11, ag 77 78]) (.cond (.tmp 77) (.seq (.draw d114_0) .ret) (.seq (.reg [bi 90 .eql 3 6 12, ag 89 90]) (.cond (.tmp 89) (.seq (.regD 9 r114_16) .ret) (.seq (.reg [bi 100 .eql 3 6 13, ag 99 100]) (.cond (.tmp 99) (.seq (.regD 9 r114_18) .ret) (.seq (.reg [bi 110 .eql 3 6 14, ag 109 110]) (.cond (.tmp 109) (.seq (.regD 13 r114_20) .ret) (.seq (.reg [bi 124 .eql 3 6 15, ag 123 124]) (.cond (.tmp 123) (.seq (.reg [mv 125 1, ik 126 31 125 0, ld 127 9 126, zb 128 .add 9 ⟨#[114, 101, 102, 32]⟩ 127, ag 4 128]) .ret) (.seq (.reg [bi 130 .eql 3 6 16, ag 129 130]) (.cond (.tmp 129) (.seq (.reg [mv 131 1, ik 132 31 131 0, ld 133 9 132, zb 134 .add 9 ⟨#[33, 32]⟩ 133, ag 4 134]) .ret) (.seq (.reg [bi 136 .eql 3 6 17, ag 135 136]) (.cond (.tmp 135) (.seq (.reg [mv 137 1, ik 138 31 137 0, ld 139 9 138, zb 140 .add 9 ⟨#[112, 114, 105, 110, 116, 32]⟩ 139, ag 4 140]) .ret) (.seq (.reg [bi 142 .eql 3 6 19, ag 141 142]) (.cond (.tmp 141) (.seq (.reg [mv 143 1, ik 144 31 143 0, ld 145 9 144, zb 146 .add 9 ⟨#[114, 97, 105, 115, 101, 32]⟩ 145, ag 4 146]) .ret) .skip)))))))))))))))))))))))))))) (.seq (.regD 15 r114_29) .ret)))
theorem ev114 : EvC 114 161 p114 [.tmp 4] := bG Tryz.f114 (by kernel_rfl)
theorem P114 : type_of% (B6 r114_3.eq_1 r114_5.eq_1 r114_7.eq_1 r114_9.eq_1 r114_11.eq_1 r114_13.eq_1 <| B6 r114_14.eq_1 r114_16.eq_1 r114_18.eq_1 r114_20.eq_1 r114_29.eq_1 p114.eq_1 <| An @load3 <| An @load9 <| An @index31 <| @call144) := B6 r114_3.eq_1 r114_5.eq_1 r114_7.eq_1 r114_9.eq_1 r114_11.eq_1 r114_13.eq_1 <| B6 r114_14.eq_1 r114_16.eq_1 r114_18.eq_1 r114_20.eq_1 r114_29.eq_1 p114.eq_1 <| An @load3 <| An @load9 <| An @index31 <| @call144
def r144_4 : LP := [
 mv 11 3,
 mv 12 0,
 mv 13 4,
 ia 14 31 12 13,
 ld 15 9 14,
 bz 16 .add 9 15 ⟨#[32, 45, 62, 32]⟩,
 mv 17 0,
 mv 18 4,
 bi 19 .add 3 18 1,
 ia 20 31 17 19,
 ld 21 9 20,
 bo 22 .add 9 16 21,
 b1 23 31 22,
 ap 24 11 23 31,
 ag 3 24]
noncomputable def b144_6 : PC := (.seq (.seq (.reg [mv 5 4, mv 6 0, ln 7 6 31, bo 8 .lss 3 5 7]) (.cond (.tmp 8) .skip (.exit 0))) (.seq (.block 1 (.regD 15 r144_4)) (.reg [mv 9 4, bi 10 .add 3 9 2, ag 4 10])))
noncomputable def p144 : PC := (.seq (.reg [sz 2 ⟨#[]⟩]) (.seq (.reg [an 3]) (.seq (.seq (.reg [ai 4 0]) (.block 0 (.loop b144_6))) (.seq (.reg [mv 25 3, cl 26 110 #[.tmp 25, (.const (.string ⟨#[32, 124, 32]⟩))] #[31, 9], ag 2 26]) .ret))))
theorem ev144 : EvC 144 27 p144 [.tmp 2] := bG Tryz.f144 (by kernel_rfl)
theorem P144 : type_of% (B6 r144_4.eq_1 p144.eq_1 @load9 @bs31 @app31 @index31 <| An @len31 <| @call110) := B6 r144_4.eq_1 p144.eq_1 @load9 @bs31 @app31 @index31 <| An @len31 <| @call110
noncomputable def b63_10 : PC := (.seq (.reg [bo 11 .lss 3 10 9]) (.seq (.cond (.tmp 11) .skip (.exit 0)) (.seq (.block 1 (.seq (.reg [ia 12 73 8 10, ld 13 78 12, al 5 78, sto 78 5 13]) (.seq (.reg [fa 14 78 5 0, ld 15 9 14, ag 6 15]) (.seq (.seq (.reg [fa 16 78 5 1, ld 17 31 16, ln 18 17 31, bi 19 .gtr 3 18 0]) (.cond (.tmp 19) (.reg [mv 20 6, fa 21 78 5 1, ld 22 31 21, cl 23 110 #[.tmp 22, (.const (.string ⟨#[44, 32]⟩))] #[31, 9], zb 24 .add 9 ⟨#[32, 111, 102, 32]⟩ 23, bo 25 .add 9 20 24, ag 6 25]) .skip)) (.reg [mv 26 3, mv 27 6, b1 28 31 27, ap 29 26 28 31, ag 3 29]))))) (.reg [bi 30 .add 3 10 1, mv 10 30]))))
def r63_11 : LP := [
 fa 31 75 1 0,
 ld 32 9 31,
 zb 33 .add 9 ⟨#[116, 121, 112, 101, 32]⟩ 32,
 bz 34 .add 9 33 ⟨#[32, 61, 32]⟩,
 mv 35 3,
 cl 36 110 #[.tmp 35, (.const (.string ⟨#[32, 124, 32]⟩))] #[31, 9]]
def r63_12 : LP := [
 bo 37 .add 9 34 36,
 bz 38 .add 9 37 ⟨#[32, 105, 110, 32]⟩,
 ag 2 38]
noncomputable def d63_0 : Array Oper := match Tryz.f63.body.map (eH E Tryz.f63.ntmps) with | some p => p.draws.getD 0 #[] | none => #[]
theorem jf6 : DrawC E 39 d63_0 9 6 r63_11 r63_12 [(.tmp 31)] := ⟨by kernel_rfl, by decide, by kernel_rfl, by kernel_rfl, by kernel_rfl, by kernel_rfl, by kernel_rfl⟩
noncomputable def p63 : PC := (.seq (.reg [bx 1 75 0, sz 2 ⟨#[]⟩]) (.seq (.reg [an 3]) (.seq (.seq (.reg [fa 7 75 1 1, ld 8 73 7, ln 9 8 73, ⟨some 10, .move (.const (.int .i64 0)), none⟩]) (.block 0 (.loop b63_10))) (.seq (.draw d63_0) .ret))))
theorem ev63 : EvC 63 39 p63 [.tmp 2] := bG Tryz.f63 (by kernel_rfl)
theorem P63 : type_of% (B6 r63_11.eq_1 r63_12.eq_1 p63.eq_1 @load9 @load31 @bs31 <| B6 @app31 @len31 @load73 @index73 @len73 @load78 <| An @store78 <| @call110) := B6 r63_11.eq_1 r63_12.eq_1 p63.eq_1 @load9 @load31 @bs31 <| B6 @app31 @len31 @load73 @index73 @len73 @load78 <| An @store78 <| @call110
def r26_5 : LP := [
 mv 17 0,
 mv 18 5,
 ia 19 31 17 18,
 ld 20 9 19,
 mv 21 1,
 mv 22 5,
 ia 23 31 21 22,
 ld 24 9 23,
 bo 25 .neq 9 20 24]
noncomputable def b26_8 : PC := (.seq (.seq (.reg [mv 11 5, mv 12 0, ln 13 12 31, bo 14 .lss 3 11 13]) (.cond (.tmp 14) .skip (.exit 0))) (.seq (.block 1 (.seq (.regD 9 r26_5) (.cond (.tmp 25) (.seq (.reg [ab 4 false]) .ret) .skip))) (.reg [mv 15 5, bi 16 .add 3 15 1, ag 5 16])))
noncomputable def p26 : PC := (.seq (.reg [ab 4 false]) (.seq (.seq (.reg [mv 6 0, ln 7 6 31, mv 8 1, ln 9 8 31, bo 10 .neq 3 7 9]) (.cond (.tmp 10) (.seq (.reg [ab 4 false]) .ret) .skip)) (.seq (.seq (.reg [ai 5 0]) (.block 0 (.loop b26_8))) (.seq (.reg [ab 4 true]) .ret))))
theorem ev26 : EvC 26 26 p26 [.tmp 4] := bG Tryz.f26 (by kernel_rfl)
theorem P26 : type_of% (An r26_5.eq_1 <| An p26.eq_1 <| An @load9 <| An @index31 <| @len31) := An r26_5.eq_1 <| An p26.eq_1 <| An @load9 <| An @index31 <| @len31
def r31_5 : LP := [
 mv 17 0,
 mv 18 5,
 ia 19 34 17 18,
 ld 20 3 19,
 mv 21 1,
 mv 22 5,
 ia 23 34 21 22,
 ld 24 3 23,
 bo 25 .neq 3 20 24]
noncomputable def b31_8 : PC := (.seq (.seq (.reg [mv 11 5, mv 12 0, ln 13 12 34, bo 14 .lss 3 11 13]) (.cond (.tmp 14) .skip (.exit 0))) (.seq (.block 1 (.seq (.regD 9 r31_5) (.cond (.tmp 25) (.seq (.reg [ab 4 false]) .ret) .skip))) (.reg [mv 15 5, bi 16 .add 3 15 1, ag 5 16])))
noncomputable def p31 : PC := (.seq (.reg [ab 4 false]) (.seq (.seq (.reg [mv 6 0, ln 7 6 34, mv 8 1, ln 9 8 34, bo 10 .neq 3 7 9]) (.cond (.tmp 10) (.seq (.reg [ab 4 false]) .ret) .skip)) (.seq (.seq (.reg [ai 5 0]) (.block 0 (.loop b31_8))) (.seq (.reg [ab 4 true]) .ret))))
theorem ev31 : EvC 31 26 p31 [.tmp 4] := bG Tryz.f31 (by kernel_rfl)
theorem P31 : type_of% (An r31_5.eq_1 <| An p31.eq_1 <| An @load3 <| An @index34 <| @len34) := An r31_5.eq_1 <| An p31.eq_1 <| An @load3 <| An @index34 <| @len34
noncomputable def p62 : PC := (.seq (.reg [ai 4 0, ⟨some 5, .assign (.const .nilIface), none⟩]) (.seq (.reg [mv 6 0, cl 7 109 #[.tmp 6] #[109]]) (.seq (.reg [mv 8 0, mv 9 0, nk 10 9, fa 11 112 10 1, ld 12 110 11, mv 13 1, ⟨some 14, .call { callee := .builtin .append, args := #[(.tmp 12), (.tmp 13)], argTypes := #[110, 9] }, none⟩, nk 15 8, fa 16 112 15 1, sto 110 16 14]) (.seq (.reg [mv 17 1, ln 18 17 9, ag 4 18, ⟨some 5, .assign (.const .nilIface), none⟩]) .ret))))
theorem ev62 : EvC 62 19 p62 [.tmp 4, .tmp 5] := bG Tryz.f62 (by kernel_rfl)
theorem P62 : type_of% (An p62.eq_1 <| An @load110 <| An @store110 <| An @app110 <| @call109) := An p62.eq_1 <| An @load110 <| An @store110 <| An @app110 <| @call109
def r65_1 : LP := [
 mv 3 0,
 nk 4 3,
 fa 5 112 4 1,
 ld 6 110 5,
 ⟨some 7, .call { callee := .builtin .unsafeSliceData, args := #[(.tmp 6)], argTypes := #[110] }, none⟩,
 mv 8 0,
 nk 9 8,
 fa 10 112 9 1,
 ld 11 110 10,
 ln 12 11 110]
def r65_2 : LP := [
 ⟨some 13, .call { callee := .builtin .unsafeString, args := #[(.tmp 7), (.tmp 12)], argTypes := #[173, 3] }, none⟩,
 ag 2 13]
noncomputable def d65_0 : Array Oper := match Tryz.f65.body.map (eH E Tryz.f65.ntmps) with | some p => p.draws.getD 0 #[] | none => #[]
theorem jf5 : DrawC E 14 d65_0 12 10 r65_1 r65_2 [(.tmp 10), (.tmp 11)] := ⟨by kernel_rfl, by decide, by kernel_rfl, by kernel_rfl, by kernel_rfl, by kernel_rfl, by kernel_rfl⟩
noncomputable def p65 : PC := (.seq (.reg [sz 2 ⟨#[]⟩]) (.seq (.draw d65_0) .ret))
theorem ev65 : EvC 65 14 p65 [.tmp 2] := bG Tryz.f65 (by kernel_rfl)
theorem P65 : type_of% (An r65_1.eq_1 <| An r65_2.eq_1 <| An p65.eq_1 <| An @load110 <| @len110) := An r65_1.eq_1 <| An r65_2.eq_1 <| An p65.eq_1 <| An @load110 <| @len110
noncomputable def p109 : PC := (.seq (.reg [mv 2 0, nk 3 2, fa 4 112 3 0, ld 5 109 4, ⟨some 6, .binOp .eql 109 (.tmp 5) (.const (.pointer none)) 109, none⟩]) (.cond (.tmp 6) (.reg [mv 7 0, mv 8 0, cv 9 109 198 8, cl 10 140 #[.tmp 9] #[198], cv 11 198 109 10, nk 12 7, fa 13 112 12 0, sto 109 13 11]) (.seq (.reg [mv 14 0, nk 15 14, fa 16 112 15 0, ld 17 109 16, mv 18 0, bo 19 .neq 109 17 18]) (.cond (.tmp 19) .bad .skip))))
theorem ev109 : EvC 109 20 p109 [] := bG Tryz.f109 (by kernel_rfl)
theorem P109 : type_of% (An p109.eq_1 <| An @load109 <| @store109) := An p109.eq_1 <| An @load109 <| @store109
noncomputable def p112 : PC := (.seq (.reg [sz 2 ⟨#[]⟩]) (.seq (.reg [mv 3 0, cl 4 143 #[.tmp 3] #[4], ag 2 4]) .ret))
theorem ev112 : EvC 112 5 p112 [.tmp 2] := bG Tryz.f112 (by kernel_rfl)
theorem P112 : type_of% (An p112.eq_1 <| @call143) := An p112.eq_1 <| @call143
noncomputable def p143 : PC := (.seq (.reg [sz 2 ⟨#[]⟩]) (.seq (.seq (.reg [mv 3 0]) (.cond (.tmp 3) (.seq (.reg [sz 2 ⟨#[116, 114, 117, 101]⟩]) .ret) .skip)) (.seq (.reg [sz 2 ⟨#[102, 97, 108, 115, 101]⟩]) .ret)))
theorem ev143 : EvC 143 4 p143 [.tmp 2] := bG Tryz.f143 (by kernel_rfl)
theorem P143 : type_of% (p143.eq_1) := p143.eq_1
noncomputable def p27 : PC := (.seq (.reg [bx 2 26 0, an 4]) (.seq (.seq (.reg [ld 5 26 2, mv 6 1, cl 7 68 #[.tmp 5, .tmp 6] #[26, 3], nt 8 4 7]) (.cond (.tmp 8) (.seq (.reg [an 4]) .ret) .skip)) (.seq (.reg [ld 9 26 2, mv 10 1, cl 11 71 #[.tmp 9, .tmp 10] #[26, 3], cl 12 70 #[.tmp 11] #[126], cl 13 69 #[.tmp 12] #[124], ag 4 13]) .ret)))
theorem ev27 : EvC 27 14 p27 [.tmp 4] := bG Tryz.f27 (by kernel_rfl)
theorem P27 : type_of% (An p27.eq_1 <| An @load26 <| An @call68 <| An @call69 <| An @call70 <| @call71) := An p27.eq_1 <| An @load26 <| An @call68 <| An @call69 <| An @call70 <| @call71
def r71_5 : LP := [
 fa 24 36 5 4,
 ld 25 34 24,
 ln 26 25 34,
 ⟨some 27, .move (.const (.int .i64 0)), none⟩]
noncomputable def b71_14 : PC := (.seq (.reg [bo 41 .lss 3 40 39]) (.seq (.cond (.tmp 41) .skip (.exit 2)) (.seq (.block 3 (.seq (.reg [ia 42 31 38 40, ld 43 9 42, ag 11 43]) (.reg [mv 44 9, mv 45 11, ⟨none, .call { callee := .builtin .delete, args := #[(.tmp 44), (.tmp 45)], argTypes := #[126, 9] }, none⟩]))) (.reg [bi 46 .add 3 40 1, mv 40 46]))))
noncomputable def b71_17 : PC := (.seq (.reg [bo 28 .lss 3 27 26]) (.seq (.cond (.tmp 28) .skip (.exit 0)) (.seq (.block 1 (.seq (.reg [mv 29 27, ia 30 34 25 27, ld 31 3 30, ag 7 29, ag 8 31]) (.seq (.reg [ld 32 26 2, mv 33 8, cl 34 71 #[.tmp 32, .tmp 33] #[26, 3], ag 9 34]) (.seq (.seq (.reg [ld 35 26 2, ld 36 36 5, mv 37 7, cl 38 119 #[.tmp 35, .tmp 36, .tmp 37] #[26, 36, 3], ln 39 38 31, ⟨some 40, .move (.const (.int .i64 0)), none⟩]) (.block 2 (.loop b71_14))) (.reg [mv 47 6, mv 48 9, cl 49 120 #[.tmp 47, .tmp 48] #[126, 126]]))))) (.reg [bi 50 .add 3 27 1, mv 27 50]))))
def r71_18 : LP := [
 mv 51 6,
 ag 4 51]
noncomputable def p71 : PC := (.seq (.reg [bx 2 26 0, ⟨some 4, .assign (.const (.map none)), none⟩]) (.seq (.reg [fa 12 26 2 0, ld 13 23 12, mv 14 1, ia 15 23 13 14, ld 16 36 15, al 5 36, sto 36 5 16]) (.seq (.reg [⟨some 17, .makeMap 126 none, none⟩, ag 6 17]) (.seq (.seq (.reg [fa 18 36 5 0, ld 19 3 18, bi 20 .eql 3 19 4]) (.cond (.tmp 20) (.reg [mv 21 6, fa 22 36 5 2, ld 23 9 22, ⟨none, .mapUpdate 126 (.tmp 21) (.tmp 23) (.const (.bool true)), none⟩]) .skip)) (.seq (.seq (.reg r71_5) (.block 0 (.loop b71_17))) (.seq (.reg r71_18) .ret))))))
theorem ev71 : EvC 71 52 p71 [.tmp 4] := bG Tryz.f71 (by kernel_rfl)
theorem P71 : type_of% (B6 r71_5.eq_1 r71_18.eq_1 p71.eq_1 @load3 @load9 @load23 <| B6 @index23 @load26 @index31 @len31 @load34 @index34 <| An @len34 <| An @load36 <| An @store36 <| An @call71 <| An @call119 <| @call120) := B6 r71_5.eq_1 r71_18.eq_1 p71.eq_1 @load3 @load9 @load23 <| B6 @index23 @load26 @index31 @len31 @load34 @index34 <| An @len34 <| An @load36 <| An @store36 <| An @call71 <| An @call119 <| @call120
def r119_10 : LP := [
 ld 61 26 3,
 fa 62 36 4 4,
 ld 63 34 62,
 mv 64 2,
 bi 65 .sub 3 64 1,
 ia 66 34 63 65,
 ld 67 3 66,
 cl 68 59 #[.tmp 61, .tmp 67] #[26, 3],
 ag 6 68]
noncomputable def p119 : PC := (.seq (.reg [bx 3 26 0, bx 4 36 1, an 6]) (.seq (.block 0 (.seq (.seq (.reg [fa 8 36 4 0, ld 9 3 8, bi 10 .eql 3 9 6, ag 7 10]) (.cond (.tmp 7) .skip (.reg [fa 11 36 4 0, ld 12 3 11, bi 13 .eql 3 12 20, mv 14 13, gd (mv 15 2) 14 true, gd (bi 16 .eql 3 15 1) 14 true, pf 17 14 16, ag 7 17]))) (.cond (.tmp 7) (.seq (.reg [fa 18 36 4 3, ld 19 9 18, b1 20 31 19, ag 6 20]) .ret) (.seq (.seq (.reg [fa 22 36 4 0, ld 23 3 22, bi 24 .eql 3 23 8, mv 25 24, gd (mv 26 2) 25 true, gd (bi 27 .eql 3 26 1) 25 true, pf 28 25 27, ag 21 28]) (.cond (.tmp 21) .skip (.reg [fa 29 36 4 0, ld 30 3 29, bi 31 .eql 3 30 9, mv 32 31, gd (mv 33 2) 32 true, gd (bi 34 .eql 3 33 1) 32 true, pf 35 32 34, ag 21 35]))) (.cond (.tmp 21) (.seq (.reg [fa 36 36 4 2, ld 37 9 36, b1 38 31 37, ag 6 38]) .ret) (.seq (.reg [fa 40 36 4 0, ld 41 3 40, bi 42 .eql 3 41 9, ag 39 42]) (.cond (.tmp 39) (.seq (.reg [fa 43 36 4 2, ld 44 9 43, fa 45 36 4 3, ld 46 9 45, ⟨some 47, .buildSlice 31 2 #[(0, (.tmp 44)), (1, (.tmp 46))], none⟩, ag 6 47]) .ret) (.seq (.reg [fa 49 36 4 0, ld 50 3 49, bi 51 .eql 3 50 11, mv 52 51, gd (mv 53 2) 52 true, gd (bi 54 .gtr 3 53 0) 52 true, pf 55 52 54, mv 56 55, gd (mv 57 2) 56 true, gd (cl 58 104 #[.tmp 57] #[3]) 56 true, gd (nt 59 4 58) 56 true, pf 60 56 59, ag 48 60]) (.cond (.tmp 48) (.seq (.regD 9 r119_10) .ret) .skip))))))))) (.seq (.reg [an 6]) .ret)))
theorem ev119 : EvC 119 69 p119 [.tmp 6] := bG Tryz.f119 (by kernel_rfl)
theorem P119 : type_of% (B6 r119_10.eq_1 p119.eq_1 @load3 @load9 @load26 @bs31 <| An @load34 <| An @index34 <| An @call59 <| @call104) := B6 r119_10.eq_1 p119.eq_1 @load3 @load9 @load26 @bs31 <| An @load34 <| An @index34 <| An @call59 <| @call104
noncomputable def p68 : PC := (.seq (.reg [bx 2 26 0, ab 4 false]) (.seq (.reg [mv 5 1, bi 6 .geq 3 5 0, mv 7 6, gd (mv 8 1) 7 true, gd (fa 9 26 2 0) 7 true, gd (ld 10 23 9) 7 true, gd (ln 11 10 23) 7 true, gd (bo 12 .lss 3 8 11) 7 true, pf 13 7 12, mv 14 13, gd (ld 15 26 2) 14 true, gd (cl 16 22 #[.tmp 15] #[26]) 14 true, pf 17 14 16, ag 4 17]) .ret))
theorem ev68 : EvC 68 18 p68 [.tmp 4] := bG Tryz.f68 (by kernel_rfl)
theorem P68 : type_of% (An p68.eq_1 <| An @load23 <| An @len23 <| An @load26 <| @call22) := An p68.eq_1 <| An @load23 <| An @len23 <| An @load26 <| @call22
noncomputable def b75_7 : PC := (.seq (.reg [bo 16 .lss 3 15 14]) (.seq (.cond (.tmp 16) .skip (.exit 0)) (.seq (.block 1 (.seq (.reg [ia 17 34 13 15, ld 18 3 17, ag 7 18]) (.reg [mv 19 5, ld 20 26 2, mv 21 7, cl 22 75 #[.tmp 20, .tmp 21] #[26, 3], ⟨some 23, .call { callee := .builtin .max, args := #[(.tmp 19), (.tmp 22)], argTypes := #[3, 3] }, none⟩, ag 5 23]))) (.reg [bi 24 .add 3 15 1, mv 15 24]))))
noncomputable def p75 : PC := (.seq (.reg [bx 2 26 0, ai 4 0]) (.seq (.reg [ai 5 0]) (.seq (.seq (.reg [fa 8 26 2 0, ld 9 23 8, mv 10 1, ia 11 23 9 10, fa 12 36 11 4, ld 13 34 12, ln 14 13 34, ⟨some 15, .move (.const (.int .i64 0)), none⟩]) (.block 0 (.loop b75_7))) (.seq (.reg [mv 25 5, bi 26 .add 3 25 1, ag 4 26]) .ret))))
theorem ev75 : EvC 75 27 p75 [.tmp 4] := bG Tryz.f75 (by kernel_rfl)
theorem P75 : type_of% (B6 p75.eq_1 @load3 @load23 @index23 @load26 @load34 <| An @index34 <| An @len34 <| @call75) := B6 p75.eq_1 @load3 @load23 @index23 @load26 @load34 <| An @index34 <| An @len34 <| @call75
noncomputable def p34 : PC := (.seq (.reg [bx 2 26 0, ai 4 0]) (.seq (.seq (.reg [ld 5 26 2, mv 6 1, cl 7 68 #[.tmp 5, .tmp 6] #[26, 3], nt 8 4 7]) (.cond (.tmp 8) (.seq (.reg [ai 4 0]) .ret) .skip)) (.seq (.reg [ld 9 26 2, mv 10 1, cl 11 75 #[.tmp 9, .tmp 10] #[26, 3], ag 4 11]) .ret)))
theorem ev34 : EvC 34 12 p34 [.tmp 4] := bG Tryz.f34 (by kernel_rfl)
theorem P34 : type_of% (An p34.eq_1 <| An @load26 <| An @call68 <| @call75) := An p34.eq_1 <| An @load26 <| An @call68 <| @call75
noncomputable def p70 : PC := (.seq (.reg [bx 1 126 0, ⟨some 2, .assign (.const .nilFunc), none⟩]) (.seq (.reg [⟨some 3, .makeFunc (.func 118) #[] #[(.tmp 1)], none⟩, ag 2 3]) .ret))
theorem ev70 : EvC 70 4 p70 [.tmp 2] := bG Tryz.f70 (by kernel_rfl)
theorem P70 : type_of% (p70.eq_1) := p70.eq_1
noncomputable def b18_8 : PC := (.seq (.seq (.reg [mv 18 3, fa 19 26 1 0, ld 20 23 19, ln 21 20 23, bo 22 .lss 3 18 21]) (.cond (.tmp 22) .skip (.exit 0))) (.seq (.block 1 (.seq (.reg [fa 25 26 1 0, ld 26 23 25, mv 27 3, ia 28 23 26 27, fa 29 36 28 2, ld 30 9 29, ln 31 30 9, bi 32 .gtr 3 31 60, mv 33 32, gd (fa 34 26 1 0) 33 false, gd (ld 35 23 34) 33 false, gd (mv 36 3) 33 false, gd (ia 37 23 35 36) 33 false, gd (fa 38 36 37 3) 33 false, gd (ld 39 9 38) 33 false, gd (ln 40 39 9) 33 false, gd (bi 41 .gtr 3 40 60) 33 false, pt 42 33 41, mv 43 42, gd (fa 44 26 1 0) 43 false, gd (ld 45 23 44) 43 false, gd (mv 46 3) 43 false, gd (ia 47 23 45 46) 43 false, gd (fa 48 36 47 4) 43 false, gd (ld 49 34 48) 43 false, gd (ln 50 49 34) 43 false, gd (bi 51 .gtr 3 50 20) 43 false, pt 52 43 51]) (.cond (.tmp 52) (.seq (.reg [ab 2 true]) .ret) .skip))) (.reg [mv 23 3, bi 24 .add 3 23 1, ag 3 24])))
noncomputable def b18_23 : PC := (.seq (.seq (.reg [mv 108 7, fa 109 78 6 1, ld 110 31 109, ln 111 110 31, bo 112 .lss 3 108 111]) (.cond (.tmp 112) .skip (.exit 6))) (.seq (.block 7 (.seq (.reg [fa 115 78 6 1, ld 116 31 115, mv 117 7, ia 118 31 116 117, ld 119 9 118, ln 120 119 9, bi 121 .gtr 3 120 60]) (.cond (.tmp 121) (.seq (.reg [ab 2 true]) .ret) .skip))) (.reg [mv 113 7, bi 114 .add 3 113 1, ag 7 114])))
noncomputable def b18_25 : PC := (.seq (.seq (.reg [mv 78 5, fa 79 26 1 1, ld 80 24 79, mv 81 4, ia 82 24 80 81, fa 83 75 82 1, ld 84 73 83, ln 85 84 73, bo 86 .lss 3 78 85]) (.cond (.tmp 86) .skip (.exit 4))) (.seq (.block 5 (.seq (.reg [fa 89 26 1 1, ld 90 24 89, mv 91 4, ia 92 24 90 91, fa 93 75 92 1, ld 94 73 93, mv 95 5, ia 96 73 94 95, ld 97 78 96, al 6 78, sto 78 6 97]) (.seq (.seq (.reg [fa 98 78 6 0, ld 99 9 98, ln 100 99 9, bi 101 .gtr 3 100 60, mv 102 101, gd (fa 103 78 6 1) 102 false, gd (ld 104 31 103) 102 false, gd (ln 105 104 31) 102 false, gd (bi 106 .gtr 3 105 4) 102 false, pt 107 102 106]) (.cond (.tmp 107) (.seq (.reg [ab 2 true]) .ret) .skip)) (.seq (.reg [ai 7 0]) (.block 6 (.loop b18_23)))))) (.reg [mv 87 5, bi 88 .add 3 87 1, ag 5 88])))
noncomputable def b18_27 : PC := (.seq (.seq (.reg [mv 53 4, fa 54 26 1 1, ld 55 24 54, ln 56 55 24, bo 57 .lss 3 53 56]) (.cond (.tmp 57) .skip (.exit 2))) (.seq (.block 3 (.seq (.seq (.reg [fa 60 26 1 1, ld 61 24 60, mv 62 4, ia 63 24 61 62, fa 64 75 63 1, ld 65 73 64, ln 66 65 73, bi 67 .gtr 3 66 6, mv 68 67, gd (fa 69 26 1 1) 68 false, gd (ld 70 24 69) 68 false, gd (mv 71 4) 68 false, gd (ia 72 24 70 71) 68 false, gd (fa 73 75 72 0) 68 false, gd (ld 74 9 73) 68 false, gd (ln 75 74 9) 68 false, gd (bi 76 .gtr 3 75 60) 68 false, pt 77 68 76]) (.cond (.tmp 77) (.seq (.reg [ab 2 true]) .ret) .skip)) (.seq (.reg [ai 5 0]) (.block 4 (.loop b18_25))))) (.reg [mv 58 4, bi 59 .add 3 58 1, ag 4 59])))
noncomputable def p18 : PC := (.seq (.reg [bx 1 26 0, ab 2 false]) (.seq (.seq (.reg [fa 8 26 1 0, ld 9 23 8, ln 10 9 23, bi 11 .gtr 3 10 60, mv 12 11, gd (fa 13 26 1 1) 12 false, gd (ld 14 24 13) 12 false, gd (ln 15 14 24) 12 false, gd (bi 16 .gtr 3 15 4) 12 false, pt 17 12 16]) (.cond (.tmp 17) (.seq (.reg [ab 2 true]) .ret) .skip)) (.seq (.seq (.reg [ai 3 0]) (.block 0 (.loop b18_8))) (.seq (.seq (.reg [ai 4 0]) (.block 2 (.loop b18_27))) (.seq (.reg [ab 2 false]) .ret)))))
theorem ev18 : EvC 18 122 p18 [.tmp 2] := bG Tryz.f18 (by kernel_rfl)
theorem P18 : type_of% (B6 p18.eq_1 @load9 @load23 @index23 @len23 @load24 <| B6 @index24 @len24 @load31 @index31 @len31 @load34 <| An @len34 <| An @load73 <| An @index73 <| An @len73 <| An @load78 <| @store78) := B6 p18.eq_1 @load9 @load23 @index23 @len23 @load24 <| B6 @index24 @len24 @load31 @index31 @len31 @load34 <| An @len34 <| An @load73 <| An @index73 <| An @len73 <| An @load78 <| @store78
def r22_4 : LP := [
 mv 25 3,
 cl 26 56 #[.tmp 25, (.const (.bool false)), (.const (.int .i64 0))] #[103, 4, 3],
 nt 27 4 26,
 mv 28 27,
 gd (mv 29 3) 28 false,
 gd (nk 30 29) 28 false,
 gd (fa 31 105 30 1) 28 false,
 gd (ld 32 3 31) 28 false,
 gd (fa 33 26 1 0) 28 false,
 gd (ld 34 23 33) 28 false,
 gd (ln 35 34 23) 28 false,
 gd (bo 36 .neq 3 32 35) 28 false,
 pt 37 28 36]
noncomputable def b22_12 : PC := (.seq (.reg [bo 42 .lss 3 41 40]) (.seq (.cond (.tmp 42) .skip (.exit 0)) (.seq (.block 1 (.seq (.reg [mv 43 41, ia 44 23 39 41, ld 45 36 44, al 5 36, ag 4 43, sto 36 5 45]) (.seq (.reg [fa 46 36 5 0, ld 47 3 46, cl 48 57 #[.tmp 47] #[3], mv 49 48, gd (ld 50 26 1) 49 true, gd (mv 51 4) 49 true, gd (cl 52 59 #[.tmp 50, .tmp 51] #[26, 3]) 49 true, gd (cl 53 58 #[.tmp 52] #[31]) 49 true, pf 54 49 53]) (.cond (.tmp 54) (.seq (.reg [ab 2 false]) .ret) .skip)))) (.reg [bi 55 .add 3 41 1, mv 41 55]))))
noncomputable def p22 : PC := (.seq (.reg [bx 1 26 0, ab 2 false]) (.seq (.seq (.reg [fa 6 26 1 0, ld 7 23 6, ln 8 7 23, bi 9 .lss 3 8 1, mv 10 9, gd (fa 11 26 1 0) 10 false, gd (ld 12 23 11) 10 false, gd (ln 13 12 23) 10 false, gd (bi 14 .gtr 3 13 1000) 10 false, pt 15 10 14, mv 16 15, gd (fa 17 26 1 1) 16 false, gd (ld 18 24 17) 16 false, gd (cl 19 55 #[.tmp 18] #[24]) 16 false, gd (nt 20 4 19) 16 false, pt 21 16 20]) (.cond (.tmp 21) (.seq (.reg [ab 2 false]) .ret) .skip)) (.seq (.reg [ld 22 26 1, ⟨some 23, .build 105 #[(0, (.tmp 22))], none⟩, bx 24 105 23, ag 3 24]) (.seq (.seq (.regD 13 r22_4) (.cond (.tmp 37) (.seq (.reg [ab 2 false]) .ret) .skip)) (.seq (.seq (.reg [fa 38 26 1 0, ld 39 23 38, ln 40 39 23, ⟨some 41, .move (.const (.int .i64 0)), none⟩]) (.block 0 (.loop b22_12))) (.seq (.reg [ab 2 true]) .ret))))))
theorem ev22 : EvC 22 56 p22 [.tmp 2] := bG Tryz.f22 (by kernel_rfl)
theorem P22 : type_of% (B6 r22_4.eq_1 p22.eq_1 @load3 @load23 @index23 @len23 <| B6 @load24 @load26 @load36 @store36 @call55 @call56 <| An @call57 <| An @call58 <| @call59) := B6 r22_4.eq_1 p22.eq_1 @load3 @load23 @index23 @len23 <| B6 @load24 @load26 @load36 @store36 @call55 @call56 <| An @call57 <| An @call58 <| @call59
noncomputable def b32_10 : PC := (.seq (.reg [bo 13 .lss 3 12 11]) (.seq (.cond (.tmp 13) .skip (.exit 0)) (.seq (.block 1 (.seq (.reg [mv 14 12, ia 15 23 10 12, ld 16 36 15, al 5 36, ag 4 14, sto 36 5 16]) (.seq (.reg [fa 17 36 5 0, ld 18 3 17, cl 19 74 #[.tmp 18] #[3]]) (.cond (.tmp 19) (.reg [mv 20 3, mv 21 4, b1 22 34 21, ap 23 20 22 34, ag 3 23]) .skip)))) (.reg [bi 24 .add 3 12 1, mv 12 24]))))
noncomputable def p32 : PC := (.seq (.reg [bx 1 26 0, an 2]) (.seq (.seq (.reg [ld 6 26 1, cl 7 22 #[.tmp 6] #[26], nt 8 4 7]) (.cond (.tmp 8) (.seq (.reg [an 2]) .ret) .skip)) (.seq (.reg [an 3]) (.seq (.seq (.reg [fa 9 26 1 0, ld 10 23 9, ln 11 10 23, ⟨some 12, .move (.const (.int .i64 0)), none⟩]) (.block 0 (.loop b32_10))) (.seq (.reg [mv 25 3, ag 2 25]) .ret)))))
theorem ev32 : EvC 32 26 p32 [.tmp 2] := bG Tryz.f32 (by kernel_rfl)
theorem P32 : type_of% (B6 p32.eq_1 @load3 @load23 @index23 @len23 @load26 <| An @bs34 <| An @app34 <| An @load36 <| An @store36 <| An @call22 <| @call74) := B6 p32.eq_1 @load3 @load23 @index23 @len23 @load26 <| An @bs34 <| An @app34 <| An @load36 <| An @store36 <| An @call22 <| @call74
noncomputable def b55_16 : PC := (.seq (.reg [bo 48 .lss 3 47 46]) (.seq (.cond (.tmp 48) .skip (.exit 2)) (.seq (.block 3 (.seq (.reg [ia 49 73 45 47, ld 50 78 49, al 9 78, sto 78 9 50]) (.seq (.seq (.reg [fa 51 78 9 0, ld 52 9 51, cl 53 99 #[.tmp 52] #[9], nt 54 4 53, mv 55 54, gd (fa 56 78 9 1) 55 false, gd (ld 57 31 56) 55 false, gd (ln 58 57 31) 55 false, gd (bi 59 .gtr 3 58 3) 55 false, pt 60 55 59]) (.cond (.tmp 60) (.seq (.reg [ab 2 false]) .ret) .skip)) (.seq (.reg [mv 61 4, fa 62 78 9 0, ld 63 9 62, b1 64 31 63, ap 65 61 64 31, ag 4 65]) (.reg [mv 66 5, fa 67 78 9 1, ld 68 31 67, ap 69 66 68 31, ag 5 69]))))) (.reg [bi 70 .add 3 47 1, mv 47 70]))))
noncomputable def b55_18 : PC := (.seq (.reg [bo 15 .lss 3 14 13]) (.seq (.cond (.tmp 15) .skip (.exit 0)) (.seq (.block 1 (.seq (.reg [ia 16 24 12 14, ld 17 75 16, al 7 75, sto 75 7 17]) (.seq (.seq (.reg [fa 18 75 7 0, ld 19 9 18, cl 20 97 #[.tmp 19] #[9], nt 21 4 20, mv 22 21, gd (fa 23 75 7 0) 22 false, gd (ld 24 9 23) 22 false, gd (cl 25 98 #[.tmp 24] #[9]) 22 false, pt 26 22 25, mv 27 26, gd (fa 28 75 7 1) 27 false, gd (ld 29 73 28) 27 false, gd (ln 30 29 73) 27 false, gd (bi 31 .lss 3 30 1) 27 false, pt 32 27 31, mv 33 32, gd (fa 34 75 7 1) 33 false, gd (ld 35 73 34) 33 false, gd (ln 36 35 73) 33 false, gd (bi 37 .gtr 3 36 20) 33 false, pt 38 33 37]) (.cond (.tmp 38) (.seq (.reg [ab 2 false]) .ret) .skip)) (.seq (.reg [ld 39 31 3, fa 40 75 7 0, ld 41 9 40, b1 42 31 41, ap 43 39 42 31, sto 31 3 43]) (.seq (.reg [fa 44 75 7 1, ld 45 73 44, ln 46 45 73, ⟨some 47, .move (.const (.int .i64 0)), none⟩]) (.block 2 (.loop b55_16))))))) (.reg [bi 71 .add 3 14 1, mv 14 71]))))
noncomputable def p55 : PC := (.seq (.reg [ab 2 false]) (.seq (.reg [al 3 31, an 4, an 5]) (.seq (.seq (.reg [mv 12 0, ln 13 12 24, ⟨some 14, .move (.const (.int .i64 0)), none⟩]) (.block 0 (.loop b55_18))) (.seq (.reg [⟨some 72, .makeFunc (.func 100) #[] #[(.tmp 3)], none⟩, al 10 44, sto 44 10 72]) (.seq (.reg [⟨some 73, .makeFunc (.func 101) #[] #[(.tmp 10)], none⟩, ag 11 73]) (.seq (.reg [mv 74 0, ln 75 74 24, bi 76 .leq 3 75 20, mv 77 76, gd (ld 78 31 3) 77 true, gd (cl 79 58 #[.tmp 78] #[31]) 77 true, gd (nt 80 4 79) 77 true, pf 81 77 80, mv 82 81, gd (mv 83 4) 82 true, gd (cl 84 58 #[.tmp 83] #[31]) 82 true, gd (nt 85 4 84) 82 true, pf 86 82 85, mv 87 86, gd (mv 88 5) 87 true, gd (mv 89 11) 87 true, gd (cl 90 102 #[.tmp 88, .tmp 89] #[31, 44]) 87 true, gd (nt 91 4 90) 87 true, pf 92 87 91, ag 2 92]) .ret))))))
theorem ev55 : EvC 55 93 p55 [.tmp 2] := bG Tryz.f55 (by kernel_rfl)
theorem P55 : type_of% (B6 p55.eq_1 @load9 @index24 @len24 @load31 @store31 <| B6 @bs31 @app31 @len31 @load73 @index73 @len73 <| B6 @load75 @store75 @load78 @store78 @call58 @call97 <| An @call98 <| An @call99 <| @call102) := B6 p55.eq_1 @load9 @index24 @len24 @load31 @store31 <| B6 @bs31 @app31 @len31 @load73 @index73 @len73 <| B6 @load75 @store75 @load78 @store78 @call58 @call97 <| An @call98 <| An @call99 <| @call102
def r56_5 : LP := [
 fa 35 36 8 0,
 ld 36 3 35,
 cl 37 57 #[.tmp 36] #[3],
 mv 38 1,
 bo 39 .neq 4 37 38,
 mv 40 39,
 gd (mv 41 0) 40 false,
 gd (nk 42 41) 40 false,
 gd (fa 43 105 42 0) 40 false,
 gd (ld 44 26 43) 40 false,
 gd (ld 45 36 8) 40 false,
 gd (cl 46 103 #[.tmp 44, .tmp 45] #[26, 36]) 40 false,
 gd (nt 47 4 46) 40 false,
 pt 48 40 47]
noncomputable def b56_14 : PC := (.seq (.reg [bo 60 .lss 3 59 58]) (.seq (.cond (.tmp 60) .skip (.exit 0)) (.seq (.block 1 (.seq (.reg [mv 61 59, ia 62 34 57 59, ld 63 3 62, ag 9 61, ag 10 63]) (.seq (.reg [mv 64 10, mv 65 0, nk 66 65, fa 67 105 66 1, ld 68 3 67, bo 69 .neq 3 64 68, mv 70 69, gd (mv 71 0) 70 false, gd (mv 72 1) 70 false, gd (mv 73 72) 70 false, gd (fa 74 36 8 0) 73 false, gd (ld 75 3 74) 73 false, gd (bi 76 .eql 3 75 11) 73 false, gd (mv 77 76) 73 false, gd (mv 78 9) 77 true, gd (cl 79 104 #[.tmp 78] #[3]) 77 true, gd (pf 80 77 79) 73 false, gd (pt 81 73 80) 70 false, gd (mv 82 2) 70 false, gd (bi 83 .add 3 82 1) 70 false, gd (cl 84 56 #[.tmp 71, .tmp 81, .tmp 83] #[103, 4, 3]) 70 false, gd (nt 85 4 84) 70 false, pt 86 70 85]) (.cond (.tmp 86) (.seq (.reg [ab 6 false]) .ret) .skip)))) (.reg [bi 87 .add 3 59 1, mv 59 87]))))
noncomputable def p56 : PC := (.seq (.reg [ab 6 false]) (.seq (.reg [mv 11 0, nk 12 11, fa 13 105 12 1, ld 14 3 13, ag 7 14]) (.seq (.seq (.reg [mv 15 7, mv 16 0, nk 17 16, fa 18 105 17 0, fa 19 26 18 0, ld 20 23 19, ln 21 20 23, bo 22 .geq 3 15 21, mv 23 22, gd (mv 24 2) 23 false, gd (bi 25 .geq 3 24 60) 23 false, pt 26 23 25]) (.cond (.tmp 26) (.seq (.reg [ab 6 false]) .ret) .skip)) (.seq (.reg [mv 27 0, nk 28 27, fa 29 105 28 0, fa 30 26 29 0, ld 31 23 30, mv 32 7, ia 33 23 31 32, ld 34 36 33, al 8 36, sto 36 8 34]) (.seq (.seq (.regD 14 r56_5) (.cond (.tmp 48) (.seq (.reg [ab 6 false]) .ret) .skip)) (.seq (.reg [mv 49 0, nk 50 49, fa 51 105 50 1, ld 52 3 51, bi 53 .add 3 52 1, nk 54 49, fa 55 105 54 1, sto 3 55 53]) (.seq (.seq (.reg [fa 56 36 8 4, ld 57 34 56, ln 58 57 34, ⟨some 59, .move (.const (.int .i64 0)), none⟩]) (.block 0 (.loop b56_14))) (.seq (.reg [ab 6 true]) .ret))))))))
theorem ev56 : EvC 56 88 p56 [.tmp 6] := bG Tryz.f56 (by kernel_rfl)
theorem P56 : type_of% (B6 r56_5.eq_1 p56.eq_1 @load3 @store3 @load23 @index23 <| B6 @len23 @load26 @load34 @index34 @len34 @load36 <| An @store36 <| An @call56 <| An @call57 <| An @call103 <| @call104) := B6 r56_5.eq_1 p56.eq_1 @load3 @store3 @load23 @index23 <| B6 @len23 @load26 @load34 @index34 @len34 @load36 <| An @store36 <| An @call56 <| An @call57 <| An @call103 <| @call104
noncomputable def p57 : PC := (.seq (.reg [ab 2 false]) (.seq (.reg [mv 3 0, bi 4 .geq 3 3 21, mv 5 4, gd (mv 6 0) 5 true, gd (bi 7 .leq 3 6 26) 5 true, pf 8 5 7, ag 2 8]) .ret))
theorem ev57 : EvC 57 9 p57 [.tmp 2] := bG Tryz.f57 (by kernel_rfl)
theorem P57 : type_of% (p57.eq_1) := p57.eq_1
noncomputable def b58_9 : PC := (.seq (.reg [bo 10 .lss 3 9 8]) (.seq (.cond (.tmp 10) .skip (.exit 0)) (.seq (.block 1 (.seq (.reg [ia 11 31 7 9, ld 12 9 11, ag 5 12]) (.seq (.seq (.reg [mv 13 3, mv 14 5, ⟨some 15, .lookup 126 (.tmp 13) (.tmp 14) false, none⟩]) (.cond (.tmp 15) (.seq (.reg [ab 2 true]) .ret) .skip)) (.reg [mv 16 3, mv 17 5, ⟨none, .mapUpdate 126 (.tmp 16) (.tmp 17) (.const (.bool true)), none⟩])))) (.reg [bi 18 .add 3 9 1, mv 9 18]))))
noncomputable def p58 : PC := (.seq (.reg [ab 2 false]) (.seq (.reg [⟨some 6, .makeMap 126 none, none⟩, ag 3 6]) (.seq (.seq (.reg [mv 7 0, ln 8 7 31, ⟨some 9, .move (.const (.int .i64 0)), none⟩]) (.block 0 (.loop b58_9))) (.seq (.reg [ab 2 false]) .ret))))
theorem ev58 : EvC 58 19 p58 [.tmp 2] := bG Tryz.f58 (by kernel_rfl)
theorem P58 : type_of% (An p58.eq_1 <| An @load9 <| An @index31 <| @len31) := An p58.eq_1 <| An @load9 <| An @index31 <| @len31
noncomputable def b59_11 : PC := (.seq (.reg [bo 27 .lss 3 26 25]) (.seq (.cond (.tmp 27) .skip (.exit 0)) (.seq (.block 1 (.seq (.reg [ia 28 34 24 26, ld 29 3 28, ag 8 29]) (.reg [mv 30 6, ld 31 26 2, mv 32 8, cl 33 59 #[.tmp 31, .tmp 32] #[26, 3], ap 34 30 33 31, ag 6 34]))) (.reg [bi 35 .add 3 26 1, mv 26 35]))))
noncomputable def p59 : PC := (.seq (.reg [bx 2 26 0, an 4]) (.seq (.reg [fa 9 26 2 0, ld 10 23 9, mv 11 1, ia 12 23 10 11, ld 13 36 12, al 5 36, sto 36 5 13]) (.seq (.seq (.reg [fa 14 36 5 0, ld 15 3 14, bi 16 .eql 3 15 22]) (.cond (.tmp 16) (.seq (.reg [fa 17 36 5 2, ld 18 9 17, b1 19 31 18, ag 4 19]) .ret) .skip)) (.seq (.reg [an 6]) (.seq (.seq (.reg [fa 20 36 5 0, ld 21 3 20, bi 22 .eql 3 21 26]) (.cond (.tmp 22) (.seq (.reg [fa 23 36 5 4, ld 24 34 23, ln 25 24 34, ⟨some 26, .move (.const (.int .i64 0)), none⟩]) (.block 0 (.loop b59_11))) .skip)) (.seq (.reg [mv 36 6, ag 4 36]) .ret))))))
theorem ev59 : EvC 59 37 p59 [.tmp 4] := bG Tryz.f59 (by kernel_rfl)
theorem P59 : type_of% (B6 p59.eq_1 @load3 @load9 @load23 @index23 @load26 <| B6 @bs31 @app31 @load34 @index34 @len34 @load36 <| An @store36 <| @call59) := B6 p59.eq_1 @load3 @load9 @load23 @index23 @load26 <| B6 @bs31 @app31 @load34 @index34 @len34 @load36 <| An @store36 <| @call59
noncomputable def p74 : PC := (.seq (.reg [ab 2 false]) (.seq (.seq (.reg [mv 3 0]) (.block 0 (.seq (.seq (.reg [bi 5 .eql 3 3 7, ag 4 5]) (.cond (.tmp 4) .skip (.seq (.reg [bi 6 .eql 3 3 8, ag 4 6]) (.cond (.tmp 4) .skip (.seq (.reg [bi 7 .eql 3 3 9, ag 4 7]) (.cond (.tmp 4) .skip (.seq (.reg [bi 8 .eql 3 3 10, ag 4 8]) (.cond (.tmp 4) .skip (.seq (.reg [bi 9 .eql 3 3 11, ag 4 9]) (.cond (.tmp 4) .skip (.seq (.reg [bi 10 .eql 3 3 13, ag 4 10]) (.cond (.tmp 4) .skip (.seq (.reg [bi 11 .eql 3 3 17, ag 4 11]) (.cond (.tmp 4) .skip (.seq (.reg [bi 12 .eql 3 3 18, ag 4 12]) (.cond (.tmp 4) .skip (.seq (.reg [bi 13 .eql 3 3 19, ag 4 13]) (.cond (.tmp 4) .skip (.reg [bi 14 .eql 3 3 20, ag 4 14]))))))))))))))))))) (.cond (.tmp 4) (.seq (.reg [ab 2 true]) .ret) .skip)))) (.seq (.reg [ab 2 false]) .ret)))
theorem ev74 : EvC 74 15 p74 [.tmp 2] := bG Tryz.f74 (by kernel_rfl)
theorem P74 : type_of% (p74.eq_1) := p74.eq_1
noncomputable def p97 : PC := (.seq (.reg [ab 2 false]) (.seq (.reg [mv 3 0, bz 4 .neq 9 3 ⟨#[95]⟩, mv 5 4, gd (mv 6 0) 5 true, gd (cl 7 134 #[.tmp 6, (.const (.int .i64 2))] #[9, 3]) 5 true, pf 8 5 7, ag 2 8]) .ret))
theorem ev97 : EvC 97 9 p97 [.tmp 2] := bG Tryz.f97 (by kernel_rfl)
theorem P97 : type_of% (An p97.eq_1 <| @call134) := An p97.eq_1 <| @call134
noncomputable def p98 : PC := (.seq (.reg [ab 2 false]) (.seq (.reg [mv 3 0, bz 4 .eql 9 3 ⟨#[105, 110, 116]⟩, mv 5 4, gd (mv 6 0) 5 false, gd (bz 7 .eql 9 6 ⟨#[98, 111, 111, 108]⟩) 5 false, pt 8 5 7, mv 9 8, gd (mv 10 0) 9 false, gd (bz 11 .eql 9 10 ⟨#[117, 110, 105, 116]⟩) 9 false, pt 12 9 11, ag 2 12]) .ret))
theorem ev98 : EvC 98 13 p98 [.tmp 2] := bG Tryz.f98 (by kernel_rfl)
theorem P98 : type_of% (p98.eq_1) := p98.eq_1
noncomputable def p99 : PC := (.seq (.reg [ab 2 false]) (.seq (.reg [mv 3 0, cl 4 134 #[.tmp 3, (.const (.int .i64 3))] #[9, 3], ag 2 4]) .ret))
theorem ev99 : EvC 99 5 p99 [.tmp 2] := bG Tryz.f99 (by kernel_rfl)
theorem P99 : type_of% (An p99.eq_1 <| @call134) := An p99.eq_1 <| @call134
noncomputable def p100 : PC := (.seq (.reg [ab 3 false]) (.seq (.reg [mv 4 0, cl 5 98 #[.tmp 4] #[9], mv 6 5, gd (ld 7 31 1) 6 false, gd (mv 8 0) 6 false, gd (cl 9 53 #[.tmp 7, .tmp 8] #[31, 9]) 6 false, pt 10 6 9, ag 3 10]) .ret))
theorem ev100 : EvC 100 11 p100 [.tmp 3] := bG Tryz.f100 (by kernel_rfl)
theorem P100 : type_of% (An p100.eq_1 <| An @load31 <| An @call53 <| @call98) := An p100.eq_1 <| An @load31 <| An @call53 <| @call98
noncomputable def p53 : PC := (.seq (.reg [ab 4 false]) (.seq (.reg [mv 5 0, mv 6 1, cl 7 89 #[.tmp 5, .tmp 6] #[31, 9], bi 8 .geq 3 7 0, ag 4 8]) .ret))
theorem ev53 : EvC 53 9 p53 [.tmp 4] := bG Tryz.f53 (by kernel_rfl)
theorem P53 : type_of% (An p53.eq_1 <| @call89) := An p53.eq_1 <| @call89
noncomputable def p101 : PC := (.seq (.reg [ab 3 false]) (.seq (.reg [ld 4 44 1, mv 5 0, ⟨some 6, .call { callee := .value (.tmp 4), args := #[(.tmp 5)], argTypes := #[9] }, none⟩, nt 7 4 6, ag 3 7]) .ret))
theorem ev101 : EvC 101 8 p101 [.tmp 3] := bG Tryz.f101 (by kernel_rfl)
theorem P101 : type_of% (p101.eq_1) := p101.eq_1
noncomputable def p102 : PC := (.seq (.reg [ab 4 false]) (.seq (.reg [mv 5 0, mv 6 1, cl 7 131 #[.tmp 5, .tmp 6] #[31, 44], bi 8 .geq 3 7 0, ag 4 8]) .ret))
theorem ev102 : EvC 102 9 p102 [.tmp 4] := bG Tryz.f102 (by kernel_rfl)
theorem P102 : type_of% (An p102.eq_1 <| @call131) := An p102.eq_1 <| @call131
def r103_9 : LP := [
 mv 74 9,
 mv 75 74,
 gd (fa 76 26 2 1) 75 true,
 gd (ld 77 24 76) 75 true,
 gd (mv 78 7) 75 true,
 gd (ia 79 24 77 78) 75 true,
 gd (fa 80 75 79 1) 75 true,
 gd (ld 81 73 80) 75 true,
 gd (mv 82 8) 75 true,
 gd (ia 83 73 81 82) 75 true,
 gd (fa 84 78 83 1) 75 true,
 gd (ld 85 31 84) 75 true,
 gd (ln 86 85 31) 75 true,
 gd (fa 87 36 3 4) 75 true,
 gd (ld 88 34 87) 75 true,
 gd (ln 89 88 34) 75 true,
 gd (bo 90 .eql 3 86 89) 75 true,
 pf 91 75 90,
 ag 4 91]
noncomputable def p103 : PC := (.seq (.reg [bx 2 26 0, bx 3 36 1, ab 4 false]) (.seq (.seq (.reg [fa 10 36 3 0, ld 11 3 10, bi 12 .lss 3 11 1, mv 13 12, gd (fa 14 36 3 0) 13 false, gd (ld 15 3 14) 13 false, gd (bi 16 .gtr 3 15 26) 13 false, pt 17 13 16, mv 18 17, gd (ld 19 36 3) 18 false, gd (cl 20 135 #[.tmp 19] #[36]) 18 false, gd (nt 21 4 20) 18 false, pt 22 18 21, mv 23 22, gd (ld 24 36 3) 23 false, gd (cl 25 136 #[.tmp 24] #[36]) 23 false, gd (nt 26 4 25) 23 false, pt 27 23 26]) (.cond (.tmp 27) (.seq (.reg [ab 4 false]) .ret) .skip)) (.seq (.reg [fa 29 36 3 0, ld 30 3 29, cl 31 137 #[.tmp 30] #[3], mv 28 31, ex 32 28 0, ex 33 28 1, ag 5 32, ag 6 33]) (.seq (.seq (.reg [fa 34 36 3 4, ld 35 34 34, ln 36 35 34, mv 37 5, bo 38 .lss 3 36 37, mv 39 38, gd (fa 40 36 3 4) 39 false, gd (ld 41 34 40) 39 false, gd (ln 42 41 34) 39 false, gd (mv 43 6) 39 false, gd (bo 44 .gtr 3 42 43) 39 false, pt 45 39 44, mv 46 45, gd (fa 47 36 3 0) 46 false, gd (ld 48 3 47) 46 false, gd (bi 49 .eql 3 48 11) 46 false, gd (mv 50 49) 46 false, gd (fa 51 36 3 4) 50 true, gd (ld 52 34 51) 50 true, gd (ln 53 52 34) 50 true, gd (cl 54 104 #[.tmp 53] #[3]) 50 true, gd (nt 55 4 54) 50 true, gd (pf 56 50 55) 46 false, pt 57 46 56]) (.cond (.tmp 57) (.seq (.reg [ab 4 false]) .ret) .skip)) (.seq (.seq (.reg [fa 58 36 3 0, ld 59 3 58, bi 60 .neq 3 59 5, mv 61 60, gd (fa 62 36 3 0) 61 true, gd (ld 63 3 62) 61 true, gd (bi 64 .neq 3 63 26) 61 true, pf 65 61 64]) (.cond (.tmp 65) (.seq (.reg [ab 4 true]) .ret) .skip)) (.seq (.reg [ld 67 26 2, fa 68 36 3 2, ld 69 9 68, cl 70 20 #[.tmp 67, .tmp 69] #[26, 9], mv 66 70, ex 71 66 0, ex 72 66 1, ex 73 66 2, ag 7 71, ag 8 72, ag 9 73]) (.seq (.regD 19 r103_9) .ret)))))))
theorem ev103 : EvC 103 92 p103 [.tmp 4] := bG Tryz.f103 (by kernel_rfl)
theorem P103 : type_of% (B6 r103_9.eq_1 p103.eq_1 @load3 @load9 @load24 @index24 <| B6 @load26 @load31 @len31 @load34 @len34 @load36 <| B6 @load73 @index73 @call20 @call104 @call135 @call136 <| @call137) := B6 r103_9.eq_1 p103.eq_1 @load3 @load9 @load24 @index24 <| B6 @load26 @load31 @len31 @load34 @len34 @load36 <| B6 @load73 @index73 @call20 @call104 @call135 @call136 <| @call137
noncomputable def p104 : PC := (.seq (.reg [ab 2 false]) (.seq (.reg [mv 3 0, bi 4 .rem 3 3 2, bi 5 .eql 3 4 1, ag 2 5]) .ret))
theorem ev104 : EvC 104 6 p104 [.tmp 2] := bG Tryz.f104 (by kernel_rfl)
theorem P104 : type_of% (p104.eq_1) := p104.eq_1
noncomputable def p134 : PC := (.seq (.reg [ab 4 false]) (.seq (.seq (.reg [mv 6 0, bz 7 .eql 9 6 ⟨#[]⟩, mv 8 7, gd (mv 9 0) 8 false, gd (ln 10 9 9) 8 false, gd (bi 11 .gtr 3 10 4000) 8 false, pt 12 8 11]) (.cond (.tmp 12) (.seq (.reg [ab 4 false]) .ret) .skip)) (.seq (.reg [mv 13 0, cl 14 155 #[.tmp 13] #[9], al 5 212, sto 212 5 14]) (.seq (.reg [fa 15 212 5 0, ld 16 3 15, mv 17 1, bo 18 .eql 3 16 17, mv 19 18, gd (fa 20 212 5 1) 19 true, gd (ld 21 9 20) 19 true, gd (mv 22 0) 19 true, gd (bo 23 .eql 9 21 22) 19 true, pf 24 19 23, ag 4 24]) .ret))))
theorem ev134 : EvC 134 25 p134 [.tmp 4] := bG Tryz.f134 (by kernel_rfl)
theorem P134 : type_of% (An p134.eq_1 <| An @load3 <| An @load9 <| An @store212 <| @call155) := An p134.eq_1 <| An @load3 <| An @load9 <| An @store212 <| @call155
noncomputable def b89_7 : PC := (.seq (.reg [bo 9 .lss 3 8 7]) (.seq (.cond (.tmp 9) .skip (.exit 0)) (.seq (.block 1 (.seq (.reg [mv 10 8, ag 5 10]) (.seq (.reg [mv 11 1, mv 12 0, mv 13 5, ia 14 31 12 13, ld 15 9 14, bo 16 .eql 9 11 15]) (.cond (.tmp 16) (.seq (.reg [mv 17 5, ag 4 17]) .ret) .skip)))) (.reg [bi 18 .add 3 8 1, mv 8 18]))))
noncomputable def p89 : PC := (.seq (.reg [ai 4 0]) (.seq (.seq (.reg [mv 6 0, ln 7 6 31, ⟨some 8, .move (.const (.int .i64 0)), none⟩]) (.block 0 (.loop b89_7))) (.seq (.reg [ai 4 (-1)]) .ret)))
theorem ev89 : EvC 89 19 p89 [.tmp 4] := bG Tryz.f89 (by kernel_rfl)
theorem P89 : type_of% (An p89.eq_1 <| An @load9 <| An @index31 <| @len31) := An p89.eq_1 <| An @load9 <| An @index31 <| @len31
noncomputable def b131_7 : PC := (.seq (.reg [bo 9 .lss 3 8 7]) (.seq (.cond (.tmp 9) .skip (.exit 0)) (.seq (.block 1 (.seq (.reg [mv 10 8, ag 5 10]) (.seq (.reg [mv 11 1, mv 12 0, mv 13 5, ia 14 31 12 13, ld 15 9 14, ⟨some 16, .call { callee := .value (.tmp 11), args := #[(.tmp 15)], argTypes := #[9] }, none⟩]) (.cond (.tmp 16) (.seq (.reg [mv 17 5, ag 4 17]) .ret) .skip)))) (.reg [bi 18 .add 3 8 1, mv 8 18]))))
noncomputable def p131 : PC := (.seq (.reg [ai 4 0]) (.seq (.seq (.reg [mv 6 0, ln 7 6 31, ⟨some 8, .move (.const (.int .i64 0)), none⟩]) (.block 0 (.loop b131_7))) (.seq (.reg [ai 4 (-1)]) .ret)))
theorem ev131 : EvC 131 19 p131 [.tmp 4] := bG Tryz.f131 (by kernel_rfl)
theorem P131 : type_of% (An p131.eq_1 <| An @load9 <| An @index31 <| @len31) := An p131.eq_1 <| An @load9 <| An @index31 <| @len31
noncomputable def p135 : PC := (.seq (.reg [bx 1 36 0, ab 2 false]) (.seq (.seq (.reg [fa 3 36 1 0, ld 4 3 3]) (.block 0 (.seq (.seq (.reg [bi 6 .eql 3 4 1, ag 5 6]) (.cond (.tmp 5) .skip (.reg [bi 7 .eql 3 4 23, ag 5 7]))) (.cond (.tmp 5) (.seq (.reg [fa 8 36 1 1, ld 9 2 8, bi 10 .geq 2 9 0, mv 11 10, gd (fa 12 36 1 1) 11 true, gd (ld 13 2 12) 11 true, gd (bi 14 .leq 2 13 4611686018427387903) 11 true, pf 15 11 14, ag 2 15]) .ret) (.seq (.seq (.reg [bi 17 .eql 3 4 2, ag 16 17]) (.cond (.tmp 16) .skip (.reg [bi 18 .eql 3 4 24, ag 16 18]))) (.cond (.tmp 16) (.seq (.reg [fa 19 36 1 1, ld 20 2 19, bi 21 .eql 2 20 0, mv 22 21, gd (fa 23 36 1 1) 22 false, gd (ld 24 2 23) 22 false, gd (bi 25 .eql 2 24 1) 22 false, pt 26 22 25, ag 2 26]) .ret) .skip)))))) (.seq (.reg [fa 27 36 1 1, ld 28 2 27, bi 29 .eql 2 28 0, ag 2 29]) .ret)))
theorem ev135 : EvC 135 30 p135 [.tmp 2] := bG Tryz.f135 (by kernel_rfl)
theorem P135 : type_of% (An p135.eq_1 <| An @load2 <| @load3) := An p135.eq_1 <| An @load2 <| @load3
def r136_1 : LP := [
 fa 5 36 1 2,
 ld 6 9 5,
 bz 7 .eql 9 6 ⟨#[]⟩,
 fa 8 36 1 3,
 ld 9 9 8,
 bz 10 .eql 9 9 ⟨#[]⟩,
 ag 3 7,
 ag 4 10]
def r136_8 : LP := [
 fa 22 36 1 2,
 ld 23 9 22,
 cl 24 97 #[.tmp 23] #[9],
 fa 25 36 1 3,
 ld 26 9 25]
def r136_9 : LP := [
 cl 27 97 #[.tmp 26] #[9],
 ag 3 24,
 ag 4 27]
noncomputable def d136_0 : Array Oper := match Tryz.f136.body.map (eH E Tryz.f136.ntmps) with | some p => p.draws.getD 0 #[] | none => #[]
theorem ks9 : DrawC E 50 d136_0 8 5 r136_8 r136_9 [(.tmp 25)] := ⟨by kernel_rfl, by decide, by kernel_rfl, by kernel_rfl, by kernel_rfl, by kernel_rfl, by kernel_rfl⟩
noncomputable def p136 : PC := (.seq (.reg [bx 1 36 0, ab 2 false]) (.seq (.regD 8 r136_1) (.seq (.seq (.reg [fa 11 36 1 0, ld 12 3 11]) (.block 0 (.seq (.seq (.reg [bi 14 .eql 3 12 4, ag 13 14]) (.cond (.tmp 13) .skip (.seq (.reg [bi 15 .eql 3 12 8, ag 13 15]) (.cond (.tmp 13) .skip (.reg [bi 16 .eql 3 12 22, ag 13 16]))))) (.cond (.tmp 13) (.reg [fa 17 36 1 2, ld 18 9 17, cl 19 97 #[.tmp 18] #[9], ag 3 19]) (.seq (.reg [bi 21 .eql 3 12 9, ag 20 21]) (.cond (.tmp 20) (.draw d136_0) (.seq (.seq (.reg [bi 29 .eql 3 12 6, ag 28 29]) (.cond (.tmp 28) .skip (.reg [bi 30 .eql 3 12 20, ag 28 30]))) (.cond (.tmp 28) (.reg [fa 31 36 1 3, ld 32 9 31, cl 33 97 #[.tmp 32] #[9], ag 4 33]) (.seq (.seq (.reg [bi 35 .eql 3 12 5, ag 34 35]) (.cond (.tmp 34) .skip (.reg [bi 36 .eql 3 12 26, ag 34 36]))) (.cond (.tmp 34) (.reg [fa 37 36 1 2, ld 38 9 37, cl 39 99 #[.tmp 38] #[9], ag 3 39]) (.seq (.reg [bi 41 .eql 3 12 14, ag 40 41]) (.cond (.tmp 40) (.reg [⟨some 42, .buildSlice 31 5 #[(0, (.const (.string ⟨#[43]⟩))), (1, (.const (.string ⟨#[45]⟩))), (2, (.const (.string ⟨#[42]⟩))), (3, (.const (.string ⟨#[60]⟩))), (4, (.const (.string ⟨#[61]⟩)))], none⟩, fa 43 36 1 2, ld 44 9 43, cl 45 53 #[.tmp 42, .tmp 44] #[31, 9], ag 3 45]) .skip)))))))))))) (.seq (.reg [mv 46 3, mv 47 46, gd (mv 48 4) 47 true, pf 49 47 48, ag 2 49]) .ret))))
theorem ev136 : EvC 136 50 p136 [.tmp 2] := bG Tryz.f136 (by kernel_rfl)
theorem P136 : type_of% (B6 r136_1.eq_1 r136_8.eq_1 r136_9.eq_1 p136.eq_1 @load3 @load9 <| An @bs31 <| An @call53 <| An @call97 <| @call99) := B6 r136_1.eq_1 r136_8.eq_1 r136_9.eq_1 p136.eq_1 @load3 @load9 <| An @bs31 <| An @call53 <| An @call97 <| @call99
noncomputable def p137 : PC := (.seq (.reg [ai 2 0, ai 3 0]) (.seq (.seq (.reg [mv 4 0]) (.block 0 (.seq (.seq (.reg [bi 6 .eql 3 4 5, ag 5 6]) (.cond (.tmp 5) .skip (.reg [bi 7 .eql 3 4 26, ag 5 7]))) (.cond (.tmp 5) (.seq (.reg [ai 2 0, ai 3 3]) .ret) (.seq (.reg [bi 9 .eql 3 4 11, ag 8 9]) (.cond (.tmp 8) (.seq (.reg [ai 2 3, ai 3 1000]) .ret) (.seq (.seq (.reg [bi 11 .eql 3 4 6, ag 10 11]) (.cond (.tmp 10) .skip (.seq (.reg [bi 12 .eql 3 4 15, ag 10 12]) (.cond (.tmp 10) .skip (.seq (.reg [bi 13 .eql 3 4 16, ag 10 13]) (.cond (.tmp 10) .skip (.seq (.reg [bi 14 .eql 3 4 17, ag 10 14]) (.cond (.tmp 10) .skip (.reg [bi 15 .eql 3 4 19, ag 10 15]))))))))) (.cond (.tmp 10) (.seq (.reg [ai 2 1, ai 3 1]) .ret) (.seq (.seq (.reg [bi 17 .eql 3 4 7, ag 16 17]) (.cond (.tmp 16) .skip (.seq (.reg [bi 18 .eql 3 4 8, ag 16 18]) (.cond (.tmp 16) .skip (.seq (.reg [bi 19 .eql 3 4 9, ag 16 19]) (.cond (.tmp 16) .skip (.seq (.reg [bi 20 .eql 3 4 12, ag 16 20]) (.cond (.tmp 16) .skip (.seq (.reg [bi 21 .eql 3 4 13, ag 16 21]) (.cond (.tmp 16) .skip (.seq (.reg [bi 22 .eql 3 4 14, ag 16 22]) (.cond (.tmp 16) .skip (.reg [bi 23 .eql 3 4 20, ag 16 23]))))))))))))) (.cond (.tmp 16) (.seq (.reg [ai 2 2, ai 3 2]) .ret) (.seq (.reg [bi 25 .eql 3 4 10, ag 24 25]) (.cond (.tmp 24) (.seq (.reg [ai 2 3, ai 3 3]) .ret) .skip)))))))))))) (.seq (.reg [ai 2 0, ai 3 0]) .ret)))
theorem ev137 : EvC 137 26 p137 [.tmp 2, .tmp 3] := bG Tryz.f137 (by kernel_rfl)
theorem P137 : type_of% (p137.eq_1) := p137.eq_1
noncomputable def b20_10 : PC := (.seq (.reg [bo 23 .lss 3 22 21]) (.seq (.cond (.tmp 23) .skip (.exit 2)) (.seq (.block 3 (.seq (.reg [mv 24 22, ia 25 73 20 22, ld 26 78 25, al 10 78, ag 9 24, sto 78 10 26]) (.seq (.reg [fa 27 78 10 0, ld 28 9 27, mv 29 1, bo 30 .eql 9 28 29]) (.cond (.tmp 30) (.seq (.reg [mv 31 7, mv 32 9, ag 4 31, ag 5 32, ab 6 true]) .ret) .skip)))) (.reg [bi 33 .add 3 22 1, mv 22 33]))))
noncomputable def b20_12 : PC := (.seq (.reg [bo 15 .lss 3 14 13]) (.seq (.cond (.tmp 15) .skip (.exit 0)) (.seq (.block 1 (.seq (.reg [mv 16 14, ia 17 24 12 14, ld 18 75 17, al 8 75, ag 7 16, sto 75 8 18]) (.seq (.reg [fa 19 75 8 1, ld 20 73 19, ln 21 20 73, ⟨some 22, .move (.const (.int .i64 0)), none⟩]) (.block 2 (.loop b20_10))))) (.reg [bi 34 .add 3 14 1, mv 14 34]))))
noncomputable def p20 : PC := (.seq (.reg [bx 2 26 0, ai 4 0, ai 5 0, ab 6 false]) (.seq (.seq (.reg [fa 11 26 2 1, ld 12 24 11, ln 13 12 24, ⟨some 14, .move (.const (.int .i64 0)), none⟩]) (.block 0 (.loop b20_12))) (.seq (.reg [ai 4 0, ai 5 0, ab 6 false]) .ret)))
theorem ev20 : EvC 20 35 p20 [.tmp 4, .tmp 5, .tmp 6] := bG Tryz.f20 (by kernel_rfl)
theorem P20 : type_of% (B6 p20.eq_1 @load9 @load24 @index24 @len24 @load73 <| An @index73 <| An @len73 <| An @load75 <| An @store75 <| An @load78 <| @store78) := B6 p20.eq_1 @load9 @load24 @index24 @len24 @load73 <| An @index73 <| An @len73 <| An @load75 <| An @store75 <| An @load78 <| @store78
noncomputable def p155 : PC := (.seq (.reg [al 2 212]) (.seq (.reg [mv 9 0, cl 10 175 #[.tmp 9] #[9], mv 8 10, ex 11 8 0, ex 12 8 1, ag 3 11, ag 4 12]) (.seq (.seq (.reg [mv 13 3, cl 14 176 #[.tmp 13] #[21]]) (.block 0 (.seq (.reg [bi 16 .eql 3 14 1, ag 15 16]) (.cond (.tmp 15) (.seq (.reg [mv 17 3, ⟨some 18, .binOp .neq 21 (.tmp 17) (.const (.int .i32 39)) 21, none⟩]) (.cond (.tmp 18) (.seq (.reg [mv 19 0, cl 20 177 #[.tmp 19] #[9], sto 212 2 20]) .ret) .skip)) (.seq (.reg [bi 22 .eql 3 14 2, ag 21 22]) (.cond (.tmp 21) (.seq (.reg [mv 23 0, cl 24 178 #[.tmp 23, (.func 179)] #[9, 207], ag 5 24]) (.seq (.reg [mv 26 0, mv 27 5, ⟨some 28, .slice 9 (.tmp 26) none (some (.tmp 27)) none, none⟩, cl 29 180 #[.tmp 28] #[9], mv 25 29, ex 30 25 0, ex 31 25 1, ag 6 30, ag 7 31]) (.seq (.reg [mv 32 7]) (.cond (.tmp 32) (.seq (.reg [mv 33 0, mv 34 5, ⟨some 35, .slice 9 (.tmp 33) none (some (.tmp 34)) none, none⟩, ⟨some 36, .build 212 #[(0, (.const (.int .i64 1))), (1, (.tmp 35))], none⟩, sto 212 2 36]) .ret) .skip)))) (.seq (.reg [bi 38 .eql 3 14 4, ag 37 38]) (.cond (.tmp 37) (.seq (.reg [mv 39 0, cl 40 181 #[.tmp 39] #[9], sto 212 2 40]) .ret) .skip)))))))) (.seq (.reg [⟨some 41, .build 212 #[], none⟩, sto 212 2 41]) .ret))))
theorem ev155 : EvC 155 42 p155 [.cell 2 212] := bG Tryz.f155 (by kernel_rfl)
theorem P155 : type_of% (B6 p155.eq_1 @store212 @call175 @call176 @call177 @call178 <| An @call180 <| @call181) := B6 p155.eq_1 @store212 @call175 @call176 @call177 @call178 <| An @call180 <| @call181
noncomputable def p176 : PC := (.seq (.reg [ai 2 0]) (.seq (.block 0 (.seq (.reg [mv 4 0, ⟨some 5, .binOp .eql 21 (.tmp 4) (.const (.int .i32 95)) 21, none⟩, mv 6 5, gd (mv 7 0) 6 false, ⟨some 8, .binOp .eql 21 (.tmp 7) (.const (.int .i32 39)) 21, some (6, false)⟩, pt 9 6 8, mv 10 9, gd (mv 11 0) 10 false, gd (cl 12 148 #[.tmp 11] #[21]) 10 false, pt 13 10 12, ag 3 13]) (.cond (.tmp 3) (.seq (.reg [ai 2 1]) .ret) (.seq (.reg [mv 15 0, ⟨some 16, .binOp .geq 21 (.tmp 15) (.const (.int .i32 48)) 21, none⟩, mv 17 16, gd (mv 18 0) 17 true, ⟨some 19, .binOp .leq 21 (.tmp 18) (.const (.int .i32 57)) 21, some (17, true)⟩, pf 20 17 19, ag 14 20]) (.cond (.tmp 14) (.seq (.reg [ai 2 2]) .ret) .skip))))) (.seq (.seq (.reg [mv 21 0]) (.block 1 (.seq (.seq (.reg [⟨some 23, .binOp .eql 21 (.tmp 21) (.const (.int .i32 32)) 21, none⟩, ag 22 23]) (.cond (.tmp 22) .skip (.seq (.reg [⟨some 24, .binOp .eql 21 (.tmp 21) (.const (.int .i32 9)) 21, none⟩, ag 22 24]) (.cond (.tmp 22) .skip (.seq (.reg [⟨some 25, .binOp .eql 21 (.tmp 21) (.const (.int .i32 10)) 21, none⟩, ag 22 25]) (.cond (.tmp 22) .skip (.reg [⟨some 26, .binOp .eql 21 (.tmp 21) (.const (.int .i32 13)) 21, none⟩, ag 22 26]))))))) (.cond (.tmp 22) (.seq (.reg [ai 2 3]) .ret) (.seq (.seq (.reg [⟨some 28, .binOp .eql 21 (.tmp 21) (.const (.int .i32 40)) 21, none⟩, ag 27 28]) (.cond (.tmp 27) .skip (.seq (.reg [⟨some 29, .binOp .eql 21 (.tmp 21) (.const (.int .i32 41)) 21, none⟩, ag 27 29]) (.cond (.tmp 27) .skip (.seq (.reg [⟨some 30, .binOp .eql 21 (.tmp 21) (.const (.int .i32 44)) 21, none⟩, ag 27 30]) (.cond (.tmp 27) .skip (.seq (.reg [⟨some 31, .binOp .eql 21 (.tmp 21) (.const (.int .i32 59)) 21, none⟩, ag 27 31]) (.cond (.tmp 27) .skip (.seq (.reg [⟨some 32, .binOp .eql 21 (.tmp 21) (.const (.int .i32 61)) 21, none⟩, ag 27 32]) (.cond (.tmp 27) .skip (.seq (.reg [⟨some 33, .binOp .eql 21 (.tmp 21) (.const (.int .i32 60)) 21, none⟩, ag 27 33]) (.cond (.tmp 27) .skip (.seq (.reg [⟨some 34, .binOp .eql 21 (.tmp 21) (.const (.int .i32 62)) 21, none⟩, ag 27 34]) (.cond (.tmp 27) .skip (.seq (.reg [⟨some 35, .binOp .eql 21 (.tmp 21) (.const (.int .i32 43)) 21, none⟩, ag 27 35]) (.cond (.tmp 27) .skip (.seq (.reg [⟨some 36, .binOp .eql 21 (.tmp 21) (.const (.int .i32 45)) 21, none⟩, ag 27 36]) (.cond (.tmp 27) .skip (.seq (.reg [⟨some 37, .binOp .eql 21 (.tmp 21) (.const (.int .i32 42)) 21, none⟩, ag 27 37]) (.cond (.tmp 27) .skip (.seq (.reg [⟨some 38, .binOp .eql 21 (.tmp 21) (.const (.int .i32 124)) 21, none⟩, ag 27 38]) (.cond (.tmp 27) .skip (.seq (.reg [⟨some 39, .binOp .eql 21 (.tmp 21) (.const (.int .i32 33)) 21, none⟩, ag 27 39]) (.cond (.tmp 27) .skip (.reg [⟨some 40, .binOp .eql 21 (.tmp 21) (.const (.int .i32 58)) 21, none⟩, ag 27 40]))))))))))))))))))))))))) (.cond (.tmp 27) (.seq (.reg [ai 2 4]) .ret) .skip)))))) (.seq (.reg [ai 2 0]) .ret))))
theorem ev176 : EvC 176 41 p176 [.tmp 2] := bG Tryz.f176 (by kernel_rfl)
theorem P176 : type_of% (An p176.eq_1 <| @call148) := An p176.eq_1 <| @call148
noncomputable def p177 : PC := (.seq (.reg [al 2 212]) (.seq (.reg [mv 5 0, cl 6 178 #[.tmp 5, (.func 197)] #[9, 207], ag 3 6]) (.seq (.reg [mv 7 0, mv 8 3, ⟨some 9, .slice 9 (.tmp 7) none (some (.tmp 8)) none, none⟩, ⟨some 10, .build 212 #[(0, (.const (.int .i64 2))), (1, (.tmp 9))], none⟩, al 4 212, sto 212 4 10]) (.seq (.block 0 (.seq (.reg [mv 12 0, cl 13 198 #[.tmp 12] #[9], ag 11 13]) (.cond (.tmp 11) (.reg [fa 14 212 4 0, ⟨none, .store 3 (.tmp 14) (.const (.int .i64 3)), none⟩]) (.seq (.reg [fa 16 212 4 1, ld 17 9 16, cl 18 199 #[.tmp 17] #[9], ag 15 18]) (.cond (.tmp 15) (.reg [fa 19 212 4 0, ⟨none, .store 3 (.tmp 19) (.const (.int .i64 4)), none⟩]) .skip))))) (.seq (.reg [ld 20 212 4, sto 212 2 20]) .ret)))))
theorem ev177 : EvC 177 21 p177 [.cell 2 212] := bG Tryz.f177 (by kernel_rfl)
theorem P177 : type_of% (B6 p177.eq_1 @store3 @load9 @load212 @store212 @call178 <| An @call198 <| @call199) := B6 p177.eq_1 @store3 @load9 @load212 @store212 @call178 <| An @call198 <| @call199
noncomputable def b178_6 : PC := (.seq (.reg [⟨some 9, .next (.tmp 8) true, none⟩, ex 10 9 0]) (.seq (.cond (.tmp 10) .skip (.exit 0)) (.block 1 (.seq (.reg [ex 11 9 1, ex 12 9 2, ag 5 11, ag 6 12]) (.seq (.reg [mv 13 1, mv 14 6, ⟨some 15, .call { callee := .value (.tmp 13), args := #[(.tmp 14)], argTypes := #[21] }, none⟩, nt 16 4 15]) (.cond (.tmp 16) (.seq (.reg [mv 17 5, ag 4 17]) .ret) .skip))))))
noncomputable def p178 : PC := (.seq (.reg [ai 4 0]) (.seq (.seq (.reg [mv 7 0, ⟨some 8, .range 9 (.tmp 7), none⟩]) (.block 0 (.loop b178_6))) (.seq (.reg [mv 18 0, ln 19 18 9, ag 4 19]) .ret)))
theorem ev178 : EvC 178 20 p178 [.tmp 4] := bG Tryz.f178 (by kernel_rfl)
theorem P178 : type_of% (p178.eq_1) := p178.eq_1
noncomputable def p179 : PC := (.seq (.reg [ab 2 false]) (.seq (.reg [mv 3 0, cl 4 176 #[.tmp 3] #[21], bi 5 .eql 3 4 2, ag 2 5]) .ret))
theorem ev179 : EvC 179 6 p179 [.tmp 2] := bG Tryz.f179 (by kernel_rfl)
theorem P179 : type_of% (An p179.eq_1 <| @call176) := An p179.eq_1 <| @call176
noncomputable def b180_9 : PC := (.seq (.reg [⟨some 10, .next (.tmp 9) true, none⟩, ex 11 10 0]) (.seq (.cond (.tmp 11) .skip (.exit 0)) (.block 1 (.seq (.reg [ex 12 10 2, ag 6 12]) (.seq (.reg [mv 13 6, ⟨some 14, .binOp .sub 21 (.tmp 13) (.const (.int .i32 48)) 21, none⟩, cv 15 21 2 14, ag 7 15]) (.seq (.seq (.reg [mv 16 4, mv 17 7, ⟨some 18, .binOp .sub 2 (.const (.int .i64 4611686018427387903)) (.tmp 17) 2, none⟩, bi 19 .quo 2 18 10, bo 20 .gtr 2 16 19]) (.cond (.tmp 20) (.seq (.reg [ai 2 0, ab 3 false]) .ret) .skip)) (.reg [mv 21 4, ⟨some 22, .binOp .mul 2 (.const (.int .i64 10)) (.tmp 21) 2, none⟩, mv 23 7, bo 24 .add 2 22 23, ag 4 24])))))))
noncomputable def p180 : PC := (.seq (.reg [ai 2 0, ab 3 false]) (.seq (.reg [ai 4 0]) (.seq (.seq (.reg [mv 8 0, ⟨some 9, .range 9 (.tmp 8), none⟩]) (.block 0 (.loop b180_9))) (.seq (.reg [mv 25 4, ag 2 25, ab 3 true]) .ret))))
theorem ev180 : EvC 180 26 p180 [.tmp 2, .tmp 3] := bG Tryz.f180 (by kernel_rfl)
theorem P180 : type_of% (An p180.eq_1 <| @ym5) := An p180.eq_1 <| @ym5
noncomputable def b181_7 : PC := (.seq (.reg [bo 8 .lss 3 7 6]) (.seq (.cond (.tmp 8) .skip (.exit 0)) (.seq (.block 1 (.seq (.reg [ia 9 31 5 7, ld 10 9 9, ag 4 10]) (.seq (.reg [mv 11 0, mv 12 4, cl 13 200 #[.tmp 11, .tmp 12] #[9, 9]]) (.cond (.tmp 13) (.seq (.reg [mv 14 4, ⟨some 15, .build 212 #[(0, (.const (.int .i64 5))), (1, (.tmp 14))], none⟩, sto 212 2 15]) .ret) .skip)))) (.reg [bi 16 .add 3 7 1, mv 7 16]))))
noncomputable def p181 : PC := (.seq (.reg [al 2 212]) (.seq (.seq (.reg [⟨some 5, .buildSlice 31 2 #[(0, (.const (.string ⟨#[58, 61]⟩))), (1, (.const (.string ⟨#[45, 62]⟩)))], none⟩, ln 6 5 31, ⟨some 7, .move (.const (.int .i64 0)), none⟩]) (.block 0 (.loop b181_7))) (.seq (.seq (.reg [mv 17 0, ⟨some 18, .index 9 (.tmp 17) (.const (.int .i64 0)), none⟩, bu 19 5 18 62, mv 20 19, gd (mv 21 0) 20 false, ⟨some 22, .index 9 (.tmp 21) (.const (.int .i64 0)), some (20, false)⟩, gd (bu 23 5 22 58) 20 false, pt 24 20 23]) (.cond (.tmp 24) (.seq (.reg [⟨some 25, .build 212 #[], none⟩, sto 212 2 25]) .ret) .skip)) (.seq (.reg [mv 26 0, ⟨some 27, .slice 9 (.tmp 26) none (some (.const (.int .i64 1))) none, none⟩, ⟨some 28, .build 212 #[(0, (.const (.int .i64 5))), (1, (.tmp 27))], none⟩, sto 212 2 28]) .ret))))
theorem ev181 : EvC 181 29 p181 [.cell 2 212] := bG Tryz.f181 (by kernel_rfl)
theorem P181 : type_of% (B6 p181.eq_1 @load9 @bs31 @index31 @len31 @store212 <| @call200) := B6 p181.eq_1 @load9 @bs31 @index31 @len31 @store212 <| @call200
noncomputable def p148 : PC := (.seq (.reg [ab 2 false]) (.seq (.seq (.reg [mv 3 0, cv 4 21 228 3, ⟨some 5, .binOp .leq 228 (.tmp 4) (.const (.int .u32 255)) 228, none⟩]) (.cond (.tmp 5) (.seq (.reg [mv 6 0, cv 7 21 5 6, ⟨some 8, .indexAddr 229 (.global 0) (.tmp 7), none⟩, ld 9 5 8, ⟨some 10, .binOp .and 5 (.tmp 9) (.const (.int .u8 96)) 5, none⟩, ⟨some 11, .binOp .neq 5 (.tmp 10) (.const (.int .u8 0)) 5, none⟩, ag 2 11]) .ret) .skip)) (.seq (.reg [⟨some 12, .load 231 (.global 1), none⟩, mv 13 0, cl 14 172 #[.tmp 12, .tmp 13] #[231, 21], ag 2 14]) .ret)))
theorem ev148 : EvC 148 15 p148 [.tmp 2] := bG Tryz.f148 (by kernel_rfl)
theorem P148 : type_of% (An p148.eq_1 <| An @load5 <| An @load231 <| An @yi0 <| An @zz8 <| @call172) := An p148.eq_1 <| An @load5 <| An @load231 <| An @yi0 <| An @zz8 <| @call172
noncomputable def p150 : PC := (.seq (.reg [ab 2 false]) (.seq (.seq (.reg [mv 3 0, cv 4 21 228 3, ⟨some 5, .binOp .leq 228 (.tmp 4) (.const (.int .u32 255)) 228, none⟩]) (.cond (.tmp 5) (.seq (.reg [mv 6 0, cv 7 21 5 6, ⟨some 8, .indexAddr 229 (.global 0) (.tmp 7), none⟩, ld 9 5 8, ⟨some 10, .binOp .and 5 (.tmp 9) (.const (.int .u8 96)) 5, none⟩, bu 11 5 10 32, ag 2 11]) .ret) .skip)) (.seq (.reg [⟨some 12, .load 231 (.global 2), none⟩, mv 13 0, cl 14 172 #[.tmp 12, .tmp 13] #[231, 21], ag 2 14]) .ret)))
theorem ev150 : EvC 150 15 p150 [.tmp 2] := bG Tryz.f150 (by kernel_rfl)
theorem P150 : type_of% (An p150.eq_1 <| An @load5 <| An @load231 <| An @yi0 <| An @zz8 <| @call172) := An p150.eq_1 <| An @load5 <| An @load231 <| An @yi0 <| An @zz8 <| @call172
noncomputable def p197 : PC := (.seq (.reg [ab 2 false]) (.seq (.reg [mv 4 0, cl 5 176 #[.tmp 4] #[21], ag 3 5]) (.seq (.reg [mv 6 3, bi 7 .eql 3 6 1, mv 8 7, gd (mv 9 3) 8 false, gd (bi 10 .eql 3 9 2) 8 false, pt 11 8 10, ag 2 11]) .ret)))
theorem ev197 : EvC 197 12 p197 [.tmp 2] := bG Tryz.f197 (by kernel_rfl)
theorem P197 : type_of% (An p197.eq_1 <| @call176) := An p197.eq_1 <| @call176
noncomputable def b198_5 : PC := (.seq (.reg [⟨some 7, .next (.tmp 6) true, none⟩, ex 8 7 0]) (.seq (.cond (.tmp 8) .skip (.exit 0)) (.block 1 (.seq (.reg [ex 9 7 2, ag 4 9]) (.seq (.reg [mv 10 4, cl 11 150 #[.tmp 10] #[21], ag 2 11]) .ret)))))
noncomputable def p198 : PC := (.seq (.reg [ab 2 false]) (.seq (.seq (.reg [mv 5 0, ⟨some 6, .range 9 (.tmp 5), none⟩]) (.block 0 (.loop b198_5))) (.seq (.reg [ab 2 false]) .ret)))
theorem ev198 : EvC 198 12 p198 [.tmp 2] := bG Tryz.f198 (by kernel_rfl)
theorem P198 : type_of% (An p198.eq_1 <| @call150) := An p198.eq_1 <| @call150
noncomputable def p199 : PC := (.seq (.reg [ab 2 false]) (.seq (.seq (.reg [mv 3 0]) (.block 0 (.seq (.seq (.reg [bz 5 .eql 9 3 ⟨#[116, 121, 112, 101]⟩, ag 4 5]) (.cond (.tmp 4) .skip (.seq (.reg [bz 6 .eql 9 3 ⟨#[111, 102]⟩, ag 4 6]) (.cond (.tmp 4) .skip (.seq (.reg [bz 7 .eql 9 3 ⟨#[108, 101, 116]⟩, ag 4 7]) (.cond (.tmp 4) .skip (.seq (.reg [bz 8 .eql 9 3 ⟨#[114, 101, 99]⟩, ag 4 8]) (.cond (.tmp 4) .skip (.seq (.reg [bz 9 .eql 9 3 ⟨#[105, 110]⟩, ag 4 9]) (.cond (.tmp 4) .skip (.seq (.reg [bz 10 .eql 9 3 ⟨#[102, 117, 110]⟩, ag 4 10]) (.cond (.tmp 4) .skip (.seq (.reg [bz 11 .eql 9 3 ⟨#[105, 102]⟩, ag 4 11]) (.cond (.tmp 4) .skip (.seq (.reg [bz 12 .eql 9 3 ⟨#[116, 104, 101, 110]⟩, ag 4 12]) (.cond (.tmp 4) .skip (.seq (.reg [bz 13 .eql 9 3 ⟨#[101, 108, 115, 101]⟩, ag 4 13]) (.cond (.tmp 4) .skip (.seq (.reg [bz 14 .eql 9 3 ⟨#[109, 97, 116, 99, 104]⟩, ag 4 14]) (.cond (.tmp 4) .skip (.seq (.reg [bz 15 .eql 9 3 ⟨#[119, 105, 116, 104]⟩, ag 4 15]) (.cond (.tmp 4) .skip (.seq (.reg [bz 16 .eql 9 3 ⟨#[101, 110, 100]⟩, ag 4 16]) (.cond (.tmp 4) .skip (.seq (.reg [bz 17 .eql 9 3 ⟨#[114, 101, 102]⟩, ag 4 17]) (.cond (.tmp 4) .skip (.seq (.reg [bz 18 .eql 9 3 ⟨#[112, 114, 105, 110, 116]⟩, ag 4 18]) (.cond (.tmp 4) .skip (.seq (.reg [bz 19 .eql 9 3 ⟨#[114, 101, 97, 100]⟩, ag 4 19]) (.cond (.tmp 4) .skip (.seq (.reg [bz 20 .eql 9 3 ⟨#[114, 97, 105, 115, 101]⟩, ag 4 20]) (.cond (.tmp 4) .skip (.seq (.reg [bz 21 .eql 9 3 ⟨#[116, 114, 121]⟩, ag 4 21]) (.cond (.tmp 4) .skip (.seq (.reg [bz 22 .eql 9 3 ⟨#[116, 114, 117, 101]⟩, ag 4 22]) (.cond (.tmp 4) .skip (.reg [bz 23 .eql 9 3 ⟨#[102, 97, 108, 115, 101]⟩, ag 4 23]))))))))))))))))))))))))))))))))))))) (.cond (.tmp 4) (.seq (.reg [ab 2 true]) .ret) .skip)))) (.seq (.reg [ab 2 false]) .ret)))
theorem ev199 : EvC 199 24 p199 [.tmp 2] := bG Tryz.f199 (by kernel_rfl)
theorem P199 : type_of% (p199.eq_1) := p199.eq_1
noncomputable def p200 : PC := (.seq (.reg [ab 4 false]) (.seq (.reg [mv 5 0, mv 6 1, cl 7 205 #[.tmp 5, .tmp 6] #[9, 9], ag 4 7]) .ret))
theorem ev200 : EvC 200 8 p200 [.tmp 4] := bG Tryz.f200 (by kernel_rfl)
theorem P200 : type_of% (An p200.eq_1 <| @call205) := An p200.eq_1 <| @call205
noncomputable def p205 : PC := (.seq (.reg [ab 4 false]) (.seq (.reg [mv 5 0, ln 6 5 9, mv 7 1, ln 8 7 9, bo 9 .geq 3 6 8, mv 10 9, gd (mv 11 0) 10 true, gd (mv 12 1) 10 true, gd (ln 13 12 9) 10 true, ⟨some 14, .slice 9 (.tmp 11) none (some (.tmp 13)) none, some (10, true)⟩, gd (mv 15 1) 10 true, gd (bo 16 .eql 9 14 15) 10 true, pf 17 10 16, ag 4 17]) .ret))
theorem ev205 : EvC 205 18 p205 [.tmp 4] := bG Tryz.f205 (by kernel_rfl)
theorem P205 : type_of% (p205.eq_1) := p205.eq_1
end Go.Proofs.YthjaoinieikjdaaGreatDoor
