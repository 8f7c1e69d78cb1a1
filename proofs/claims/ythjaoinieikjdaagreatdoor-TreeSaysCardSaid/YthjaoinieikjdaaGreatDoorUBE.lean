/-
  The compiled code of functions of this seat's program: written by program (wip/GenPC.lean); the kernel checks each row.
-/
import Derived.Test.YthjaoinieikjdaaGreatDoorUAX
set_option linter.unusedSimpArgs false
set_option linter.unusedVariables false
set_option maxRecDepth 100000
namespace Go.Proofs.YthjaoinieikjdaaGreatDoor
open Go.Abs
def r7_8 : LP := [
 ld 39 26 3,
 cl 40 22 #[.tmp 39] #[26],
 ld 41 52 7,
 cl 42 23 #[.tmp 41] #[52],
 bo 43 .eql 4 40 42,
 mv 44 43,
 gd (ld 45 26 3) 44 true,
 gd (cl 46 24 #[.tmp 45] #[26]) 44 true,
 gd (ld 47 52 7) 44 true,
 gd (cl 48 25 #[.tmp 47] #[52]) 44 true,
 gd (bo 49 .eql 9 46 48) 44 true,
 pf 50 44 49,
 mv 51 50,
 gd (ld 52 26 3) 51 true,
 gd (mv 53 1) 51 true,
 gd (cl 54 27 #[.tmp 52, .tmp 53] #[26, 3]) 51 true,
 gd (ld 55 52 7) 51 true,
 gd (mv 56 1) 51 true,
 gd (cl 57 28 #[.tmp 55, .tmp 56] #[52, 3]) 51 true,
 gd (cl 58 26 #[.tmp 54, .tmp 57] #[31, 31]) 51 true,
 pf 59 51 58,
 mv 60 59,
 gd (ld 61 26 3) 60 true,
 gd (mv 62 1) 60 true,
 gd (cl 63 29 #[.tmp 61, .tmp 62] #[26, 3]) 60 true,
 gd (ld 64 52 7) 60 true,
 gd (mv 65 1) 60 true,
 gd (cl 66 30 #[.tmp 64, .tmp 65] #[52, 3]) 60 true,
 gd (cl 67 26 #[.tmp 63, .tmp 66] #[31, 31]) 60 true,
 pf 68 60 67,
 mv 69 68,
 gd (ld 70 26 3) 69 true,
 gd (cl 71 32 #[.tmp 70] #[26]) 69 true,
 gd (ld 72 52 7) 69 true,
 gd (cl 73 33 #[.tmp 72] #[52]) 69 true,
 gd (cl 74 31 #[.tmp 71, .tmp 73] #[34, 34]) 69 true,
 pf 75 69 74,
 mv 76 75,
 gd (ld 77 26 3) 76 true,
 gd (mv 78 1) 76 true,
 gd (cl 79 34 #[.tmp 77, .tmp 78] #[26, 3]) 76 true,
 gd (ld 80 52 7) 76 true]
def r7_9 : LP := [
 gd (mv 81 1) 76 true,
 gd (cl 82 35 #[.tmp 80, .tmp 81] #[52, 3]) 76 true,
 gd (bo 83 .eql 3 79 82) 76 true,
 pf 84 76 83,
 mv 85 84,
 gd (mv 86 8) 85 true,
 gd (mv 87 11) 85 true,
 gd (bo 88 .eql 3 86 87) 85 true,
 pf 89 85 88,
 mv 90 89,
 gd (mv 91 9) 90 true,
 gd (mv 92 12) 90 true,
 gd (bo 93 .eql 3 91 92) 90 true,
 pf 94 90 93,
 mv 95 94,
 gd (mv 96 10) 95 true,
 gd (mv 97 13) 95 true,
 gd (bo 98 .eql 4 96 97) 95 true,
 pf 99 95 98,
 ag 6 99]
noncomputable def d7_0 : Array Oper := match Tryz.f7.body.map (eH E Tryz.f7.ntmps) with | some p => p.draws.getD 0 #[] | none => #[]
theorem draw7_0 : DrawC E 100 d7_0 62 42 r7_8 r7_9 [(.tmp 7), (.tmp 7), (.tmp 7), (.tmp 7), (.tmp 7), (.tmp 7)] := ⟨by kernel_rfl, by decide, by kernel_rfl, by kernel_rfl, by kernel_rfl, by kernel_rfl, by kernel_rfl⟩
noncomputable def p7 : PC := (.seq (.reg [bx 3 26 0, ab 6 false]) (.seq (.seq (.reg [cl 14 17 #[] #[], nt 15 4 14]) (.cond (.tmp 15) (.seq (.reg [ab 6 false]) .ret) .skip)) (.seq (.seq (.reg [ld 16 26 3, cl 17 18 #[.tmp 16] #[26], mv 18 17, gd (mv 19 2) 18 false, gd (ln 20 19 9) 18 false, gd (bi 21 .gtr 3 20 60) 18 false, pt 22 18 21]) (.cond (.tmp 22) (.seq (.reg [ab 6 true]) .ret) .skip)) (.seq (.reg [ld 23 26 3, cl 24 19 #[.tmp 23] #[26], al 7 52, sto 52 7 24]) (.seq (.reg [ld 26 26 3, mv 27 2, cl 28 20 #[.tmp 26, .tmp 27] #[26, 9], mv 25 28, ex 29 25 0, ex 30 25 1, ex 31 25 2, ag 8 29, ag 9 30, ag 10 31]) (.seq (.reg [ld 33 52 7, mv 34 2, cl 35 21 #[.tmp 33, .tmp 34] #[52, 9], mv 32 35, ex 36 32 0, ex 37 32 1, ex 38 32 2, ag 11 36, ag 12 37, ag 13 38]) (.seq (.draw d7_0) .ret)))))))
theorem ev7 : EvC 7 100 p7 [.tmp 6] := bG Tryz.f7 (by kernel_rfl)
theorem P7 : type_of% (B6 r7_8.eq_1 r7_9.eq_1 p7.eq_1 @load26 @load52 @store52 <| B6 @call17 @call18 @call19 @call20 @call21 @call22 <| B6 @call23 @call24 @call25 @call26 @call27 @call28 <| B6 @call29 @call30 @call31 @call32 @call33 @call34 <| @call35) := B6 r7_8.eq_1 r7_9.eq_1 p7.eq_1 @load26 @load52 @store52 <| B6 @call17 @call18 @call19 @call20 @call21 @call22 <| B6 @call23 @call24 @call25 @call26 @call27 @call28 <| B6 @call29 @call30 @call31 @call32 @call33 @call34 <| @call35
noncomputable def b19_7 : PC := (.seq (.seq (.reg [mv 10 4, fa 11 26 1 0, ld 12 23 11, ln 13 12 23, bo 14 .lss 3 10 13]) (.cond (.tmp 14) .skip (.exit 0))) (.seq (.block 1 (.seq (.reg [fa 17 26 1 0, ld 18 23 17, mv 19 4, ia 20 23 18 19, ld 21 36 20, al 5 36, sto 36 5 21]) (.reg [fa 22 52 3 0, ld 23 49 22, fa 24 36 5 0, ld 25 3 24, fa 26 36 5 1, ld 27 2 26, fa 28 36 5 2, ld 29 9 28, fa 30 36 5 3, ld 31 9 30, fa 32 36 5 4, ld 33 34 32, fa 34 36 5 5, ld 35 3 34, fa 36 36 5 6, ld 37 3 36, ⟨some 38, .build 69 #[(0, (.tmp 25)), (1, (.tmp 27)), (2, (.tmp 29)), (3, (.tmp 31)), (4, (.tmp 33)), (5, (.tmp 35)), (6, (.tmp 37))], none⟩, b1 39 49 38, ap 40 23 39 49, fa 41 52 3 0, sto 49 41 40]))) (.reg [mv 15 4, bi 16 .add 3 15 1, ag 4 16])))
def r19_13 : LP := [
 fa 67 72 7 1,
 ld 68 70 67,
 fa 69 26 1 1,
 ld 70 24 69,
 mv 71 6,
 ia 72 24 70 71,
 fa 73 75 72 1,
 ld 74 73 73,
 mv 75 8,
 ia 76 73 74 75,
 fa 77 78 76 0,
 ld 78 9 77,
 fa 79 26 1 1,
 ld 80 24 79,
 mv 81 6,
 ia 82 24 80 81,
 fa 83 75 82 1,
 ld 84 73 83,
 mv 85 8,
 ia 86 73 84 85,
 fa 87 78 86 1,
 ld 88 31 87,
 ⟨some 89, .build 77 #[(0, (.tmp 78)), (1, (.tmp 88))], none⟩,
 b1 90 70 89,
 ap 91 68 90 70,
 fa 92 72 7 1,
 sto 70 92 91]
noncomputable def b19_15 : PC := (.seq (.seq (.reg [mv 56 8, fa 57 26 1 1, ld 58 24 57, mv 59 6, ia 60 24 58 59, fa 61 75 60 1, ld 62 73 61, ln 63 62 73, bo 64 .lss 3 56 63]) (.cond (.tmp 64) .skip (.exit 4))) (.seq (.block 5 (.regD 27 r19_13)) (.reg [mv 65 8, bi 66 .add 3 65 1, ag 8 66])))
noncomputable def b19_18 : PC := (.seq (.seq (.reg [mv 42 6, fa 43 26 1 1, ld 44 24 43, ln 45 44 24, bo 46 .lss 3 42 45]) (.cond (.tmp 46) .skip (.exit 2))) (.seq (.block 3 (.seq (.reg [fa 49 26 1 1, ld 50 24 49, mv 51 6, ia 52 24 50 51, fa 53 75 52 0, ld 54 9 53, ⟨some 55, .build 72 #[(0, (.tmp 54))], none⟩, al 7 72, sto 72 7 55]) (.seq (.seq (.reg [ai 8 0]) (.block 4 (.loop b19_15))) (.reg [fa 93 52 3 1, ld 94 50 93, ld 95 72 7, b1 96 50 95, ap 97 94 96 50, fa 98 52 3 1, sto 50 98 97])))) (.reg [mv 47 6, bi 48 .add 3 47 1, ag 6 48])))
noncomputable def p19 : PC := (.seq (.reg [bx 1 26 0, al 2 52]) (.seq (.reg [⟨some 9, .build 52 #[], none⟩, al 3 52, sto 52 3 9]) (.seq (.seq (.reg [ai 4 0]) (.block 0 (.loop b19_7))) (.seq (.seq (.reg [ai 6 0]) (.block 2 (.loop b19_18))) (.seq (.reg [ld 99 52 3, sto 52 2 99]) .ret)))))
theorem ev19 : EvC 19 100 p19 [.cell 2 52] := bG Tryz.f19 (by kernel_rfl)
theorem P19 : type_of% (B6 r19_13.eq_1 p19.eq_1 @load2 @load3 @load9 @load23 <| B6 @index23 @len23 @load24 @index24 @len24 @load31 <| B6 @load34 @load36 @store36 @load49 @store49 @bs49 <| B6 @app49 @load50 @store50 @bs50 @app50 @load52 <| B6 @store52 @load70 @store70 @bs70 @app70 @load72 <| An @store72 <| An @load73 <| An @index73 <| @len73) := B6 r19_13.eq_1 p19.eq_1 @load2 @load3 @load9 @load23 <| B6 @index23 @len23 @load24 @index24 @len24 @load31 <| B6 @load34 @load36 @store36 @load49 @store49 @bs49 <| B6 @app49 @load50 @store50 @bs50 @app50 @load52 <| B6 @store52 @load70 @store70 @bs70 @app70 @load72 <| An @store72 <| An @load73 <| An @index73 <| @len73
noncomputable def p29 : PC := (.seq (.reg [bx 2 26 0, an 4]) (.seq (.seq (.reg [ld 5 26 2, mv 6 1, cl 7 68 #[.tmp 5, .tmp 6] #[26, 3], nt 8 4 7]) (.cond (.tmp 8) (.seq (.reg [an 4]) .ret) .skip)) (.seq (.reg [ld 9 26 2, mv 10 1, cl 11 59 #[.tmp 9, .tmp 10] #[26, 3], ag 4 11]) .ret)))
theorem ev29 : EvC 29 12 p29 [.tmp 4] := bG Tryz.f29 (by kernel_rfl)
theorem P29 : type_of% (An p29.eq_1 <| An @load26 <| An @call59 <| @call68) := An p29.eq_1 <| An @load26 <| An @call59 <| @call68
def r23_1 : LP := [
 fa 3 52 1 0,
 ld 4 49 3,
 ln 5 4 49,
 bi 6 .geq 3 5 1,
 mv 7 6,
 gd (fa 8 52 1 0) 7 true,
 gd (ld 9 49 8) 7 true,
 gd (ln 10 9 49) 7 true,
 gd (bi 11 .leq 3 10 1000) 7 true,
 pf 12 7 11,
 mv 13 12,
 gd (ld 14 52 1) 13 true,
 gd (cl 15 60 #[.tmp 14] #[52]) 13 true,
 pf 16 13 15,
 mv 17 16,
 gd (ld 18 52 1) 17 true,
 gd (cl 19 61 #[.tmp 18, (.const (.int .i64 0)), (.const (.bool false)), (.const (.int .i64 1))] #[52, 3, 4, 3]) 17 true,
 gd (fa 20 52 1 0) 17 true,
 gd (ld 21 49 20) 17 true,
 gd (ln 22 21 49) 17 true]
def r23_2 : LP := [
 gd (bo 23 .eql 3 19 22) 17 true,
 pf 24 17 23,
 ag 2 24]
noncomputable def d23_0 : Array Oper := match Tryz.f23.body.map (eH E Tryz.f23.ntmps) with | some p => p.draws.getD 0 #[] | none => #[]
theorem jf9 : DrawC E 25 d23_0 23 20 r23_1 r23_2 [(.tmp 20), (.tmp 21)] := ⟨by kernel_rfl, by decide, by kernel_rfl, by kernel_rfl, by kernel_rfl, by kernel_rfl, by kernel_rfl⟩
noncomputable def p23 : PC := (.seq (.reg [bx 1 52 0, ab 2 false]) (.seq (.draw d23_0) .ret))
theorem ev23 : EvC 23 25 p23 [.tmp 2] := bG Tryz.f23 (by kernel_rfl)
theorem P23 : type_of% (B6 r23_1.eq_1 r23_2.eq_1 p23.eq_1 @load49 @len49 @load52 <| An @call60 <| @call61) := B6 r23_1.eq_1 r23_2.eq_1 p23.eq_1 @load49 @len49 @load52 <| An @call60 <| @call61
def r25_11 : LP := [
 mv 42 5,
 fa 43 77 7 0,
 ld 44 9 43,
 bz 45 .add 9 44 ⟨#[32, 111, 102, 32]⟩,
 fa 46 77 7 1,
 ld 47 31 46,
 cl 48 66 #[.tmp 47, (.const (.string ⟨#[44, 32]⟩))] #[31, 9]]
def r25_12 : LP := [
 bo 49 .add 9 45 48,
 b1 50 31 49,
 ap 51 42 50 31,
 ag 5 51]
noncomputable def d25_0 : Array Oper := match Tryz.f25.body.map (eH E Tryz.f25.ntmps) with | some p => p.draws.getD 0 #[] | none => #[]
theorem jf8 : DrawC E 75 d25_0 11 7 r25_11 r25_12 [(.tmp 43)] := ⟨by kernel_rfl, by decide, by kernel_rfl, by kernel_rfl, by kernel_rfl, by kernel_rfl, by kernel_rfl⟩
noncomputable def b25_15 : PC := (.seq (.seq (.reg [mv 18 6, fa 19 52 1 1, ld 20 50 19, mv 21 4, ia 22 50 20 21, fa 23 72 22 1, ld 24 70 23, ln 25 24 70, bo 26 .lss 3 18 25]) (.cond (.tmp 26) .skip (.exit 2))) (.seq (.block 3 (.seq (.reg [fa 29 52 1 1, ld 30 50 29, mv 31 4, ia 32 50 30 31, fa 33 72 32 1, ld 34 70 33, mv 35 6, ia 36 70 34 35, ld 37 77 36, al 7 77, sto 77 7 37]) (.seq (.reg [fa 38 77 7 1, ld 39 31 38, ln 40 39 31, bi 41 .gtr 3 40 0]) (.cond (.tmp 41) (.draw d25_0) (.reg [mv 52 5, fa 53 77 7 0, ld 54 9 53, b1 55 31 54, ap 56 52 55 31, ag 5 56]))))) (.reg [mv 27 6, bi 28 .add 3 27 1, ag 6 28])))
def r25_16 : LP := [
 mv 57 3,
 bz 58 .add 9 57 ⟨#[116, 121, 112, 101, 32]⟩,
 fa 59 52 1 1,
 ld 60 50 59,
 mv 61 4,
 ia 62 50 60 61,
 fa 63 72 62 0,
 ld 64 9 63,
 bo 65 .add 9 58 64,
 bz 66 .add 9 65 ⟨#[32, 61, 32]⟩,
 mv 67 5,
 cl 68 66 #[.tmp 67, (.const (.string ⟨#[32, 124, 32]⟩))] #[31, 9]]
def r25_17 : LP := [
 bo 69 .add 9 66 68,
 bz 70 .add 9 69 ⟨#[32, 105, 110, 32]⟩,
 ag 3 70]
noncomputable def d25_1 : Array Oper := match Tryz.f25.body.map (eH E Tryz.f25.ntmps) with | some p => p.draws.getD 1 #[] | none => #[]
theorem jf7 : DrawC E 75 d25_1 15 12 r25_16 r25_17 [(.tmp 59), (.tmp 63)] := ⟨by kernel_rfl, by decide, by kernel_rfl, by kernel_rfl, by kernel_rfl, by kernel_rfl, by kernel_rfl⟩
noncomputable def b25_19 : PC := (.seq (.seq (.reg [mv 11 4, fa 12 52 1 1, ld 13 50 12, ln 14 13 50, bo 15 .lss 3 11 14]) (.cond (.tmp 15) .skip (.exit 0))) (.seq (.block 1 (.seq (.reg [an 5]) (.seq (.seq (.reg [ai 6 0]) (.block 2 (.loop b25_15))) (.draw d25_1)))) (.reg [mv 16 4, bi 17 .add 3 16 1, ag 4 17])))
noncomputable def p25 : PC := (.seq (.reg [bx 1 52 0, sz 2 ⟨#[]⟩]) (.seq (.seq (.reg [ld 8 52 1, cl 9 23 #[.tmp 8] #[52], nt 10 4 9]) (.cond (.tmp 10) (.seq (.reg [sz 2 ⟨#[]⟩]) .ret) .skip)) (.seq (.reg [sz 3 ⟨#[]⟩]) (.seq (.seq (.reg [ai 4 0]) (.block 0 (.loop b25_19))) (.seq (.reg [mv 71 3, ld 72 52 1, cl 73 67 #[.tmp 72, (.const (.int .i64 0))] #[52, 3], bo 74 .add 9 71 73, ag 2 74]) .ret)))))
theorem ev25 : EvC 25 75 p25 [.tmp 2] := bG Tryz.f25 (by kernel_rfl)
theorem P25 : type_of% (B6 r25_11.eq_1 r25_12.eq_1 r25_16.eq_1 r25_17.eq_1 p25.eq_1 @load9 <| B6 @load31 @bs31 @app31 @len31 @load50 @index50 <| B6 @len50 @load52 @load70 @index70 @len70 @load77 <| An @store77 <| An @call23 <| An @call66 <| @call67) := B6 r25_11.eq_1 r25_12.eq_1 r25_16.eq_1 r25_17.eq_1 p25.eq_1 @load9 <| B6 @load31 @bs31 @app31 @len31 @load50 @index50 <| B6 @len50 @load52 @load70 @index70 @len70 @load77 <| An @store77 <| An @call23 <| An @call66 <| @call67
noncomputable def p28 : PC := (.seq (.reg [bx 2 52 0, an 4]) (.seq (.seq (.reg [ld 5 52 2, cl 6 23 #[.tmp 5] #[52], nt 7 4 6, mv 8 7, gd (mv 9 1) 8 false, gd (bi 10 .lss 3 9 0) 8 false, pt 11 8 10, mv 12 11, gd (mv 13 1) 12 false, gd (fa 14 52 2 0) 12 false, gd (ld 15 49 14) 12 false, gd (ln 16 15 49) 12 false, gd (bo 17 .geq 3 13 16) 12 false, pt 18 12 17]) (.cond (.tmp 18) (.seq (.reg [an 4]) .ret) .skip)) (.seq (.reg [ld 19 52 2, mv 20 1, cl 21 72 #[.tmp 19, .tmp 20, (.const (.slice none 0 0)), (.const (.slice none 0 0))] #[52, 3, 31, 31], ag 4 21]) .ret)))
theorem ev28 : EvC 28 22 p28 [.tmp 4] := bG Tryz.f28 (by kernel_rfl)
theorem P28 : type_of% (An p28.eq_1 <| An @load49 <| An @len49 <| An @load52 <| An @call23 <| @call72) := An p28.eq_1 <| An @load49 <| An @len49 <| An @load52 <| An @call23 <| @call72
noncomputable def p30 : PC := (.seq (.reg [bx 2 52 0, an 4]) (.seq (.seq (.reg [ld 5 52 2, cl 6 23 #[.tmp 5] #[52], nt 7 4 6, mv 8 7, gd (mv 9 1) 8 false, gd (bi 10 .lss 3 9 0) 8 false, pt 11 8 10, mv 12 11, gd (mv 13 1) 12 false, gd (fa 14 52 2 0) 12 false, gd (ld 15 49 14) 12 false, gd (ln 16 15 49) 12 false, gd (bo 17 .geq 3 13 16) 12 false, pt 18 12 17, mv 19 18, gd (fa 20 52 2 0) 19 false, gd (ld 21 49 20) 19 false, gd (mv 22 1) 19 false, gd (ia 23 49 21 22) 19 false, gd (fa 24 69 23 0) 19 false, gd (ld 25 3 24) 19 false, gd (bi 26 .lss 3 25 21) 19 false, pt 27 19 26]) (.cond (.tmp 27) (.seq (.reg [an 4]) .ret) .skip)) (.seq (.reg [ld 28 52 2, mv 29 1, cl 30 73 #[.tmp 28, .tmp 29] #[52, 3], ag 4 30]) .ret)))
theorem ev30 : EvC 30 31 p30 [.tmp 4] := bG Tryz.f30 (by kernel_rfl)
theorem P30 : type_of% (B6 p30.eq_1 @load3 @load49 @index49 @len49 @load52 <| An @call23 <| @call73) := B6 p30.eq_1 @load3 @load49 @index49 @len49 @load52 <| An @call23 <| @call73
noncomputable def b33_10 : PC := (.seq (.seq (.reg [mv 9 4, fa 10 52 1 0, ld 11 49 10, ln 12 11 49, bo 13 .lss 3 9 12]) (.cond (.tmp 13) .skip (.exit 0))) (.seq (.block 1 (.seq (.reg [fa 16 52 1 0, ld 17 49 16, mv 18 4, ia 19 49 17 18, fa 20 69 19 0, ld 21 3 20, ag 5 21]) (.seq (.reg [mv 22 5, bi 23 .geq 3 22 7, mv 24 23, gd (mv 25 5) 24 true, gd (bi 26 .leq 3 25 11) 24 true, pf 27 24 26, mv 28 27, gd (mv 29 5) 28 false, gd (bi 30 .eql 3 29 13) 28 false, pt 31 28 30, mv 32 31, gd (mv 33 5) 32 false, gd (bi 34 .geq 3 33 17) 32 false, gd (mv 35 34) 32 false, gd (mv 36 5) 35 true, gd (bi 37 .leq 3 36 20) 35 true, gd (pf 38 35 37) 32 false, pt 39 32 38]) (.cond (.tmp 39) (.reg [mv 40 3, mv 41 4, b1 42 34 41, ap 43 40 42 34, ag 3 43]) .skip)))) (.reg [mv 14 4, bi 15 .add 3 14 1, ag 4 15])))
noncomputable def p33 : PC := (.seq (.reg [bx 1 52 0, an 2]) (.seq (.seq (.reg [ld 6 52 1, cl 7 23 #[.tmp 6] #[52], nt 8 4 7]) (.cond (.tmp 8) (.seq (.reg [an 2]) .ret) .skip)) (.seq (.reg [an 3]) (.seq (.seq (.reg [ai 4 0]) (.block 0 (.loop b33_10))) (.seq (.reg [mv 44 3, ag 2 44]) .ret)))))
theorem ev33 : EvC 33 45 p33 [.tmp 2] := bG Tryz.f33 (by kernel_rfl)
theorem P33 : type_of% (B6 p33.eq_1 @load3 @bs34 @app34 @load49 @index49 <| An @len49 <| An @load52 <| @call23) := B6 p33.eq_1 @load3 @bs34 @app34 @load49 @index49 <| An @len49 <| An @load52 <| @call23
noncomputable def p35 : PC := (.seq (.reg [bx 2 52 0, ai 4 0]) (.seq (.seq (.reg [ld 5 52 2, cl 6 23 #[.tmp 5] #[52], nt 7 4 6, mv 8 7, gd (mv 9 1) 8 false, gd (bi 10 .lss 3 9 0) 8 false, pt 11 8 10, mv 12 11, gd (mv 13 1) 12 false, gd (fa 14 52 2 0) 12 false, gd (ld 15 49 14) 12 false, gd (ln 16 15 49) 12 false, gd (bo 17 .geq 3 13 16) 12 false, pt 18 12 17]) (.cond (.tmp 18) (.seq (.reg [ai 4 0]) .ret) .skip)) (.seq (.reg [ld 19 52 2, mv 20 1, cl 21 76 #[.tmp 19, .tmp 20] #[52, 3], ag 4 21]) .ret)))
theorem ev35 : EvC 35 22 p35 [.tmp 4] := bG Tryz.f35 (by kernel_rfl)
theorem P35 : type_of% (An p35.eq_1 <| An @load49 <| An @len49 <| An @load52 <| An @call23 <| @call76) := An p35.eq_1 <| An @load49 <| An @len49 <| An @load52 <| An @call23 <| @call76
noncomputable def b21_8 : PC := (.seq (.seq (.reg [mv 16 8, fa 17 52 2 1, ld 18 50 17, mv 19 7, ia 20 50 18 19, fa 21 72 20 1, ld 22 70 21, ln 23 22 70, bo 24 .lss 3 16 23]) (.cond (.tmp 24) .skip (.exit 2))) (.seq (.block 3 (.seq (.reg [fa 27 52 2 1, ld 28 50 27, mv 29 7, ia 30 50 28 29, fa 31 72 30 1, ld 32 70 31, mv 33 8, ia 34 70 32 33, fa 35 77 34 0, ld 36 9 35, mv 37 1, bo 38 .eql 9 36 37]) (.cond (.tmp 38) (.seq (.reg [mv 39 7, mv 40 8, ag 4 39, ag 5 40, ab 6 true]) .ret) .skip))) (.reg [mv 25 8, bi 26 .add 3 25 1, ag 8 26])))
noncomputable def b21_10 : PC := (.seq (.seq (.reg [mv 9 7, fa 10 52 2 1, ld 11 50 10, ln 12 11 50, bo 13 .lss 3 9 12]) (.cond (.tmp 13) .skip (.exit 0))) (.seq (.block 1 (.seq (.reg [ai 8 0]) (.block 2 (.loop b21_8)))) (.reg [mv 14 7, bi 15 .add 3 14 1, ag 7 15])))
noncomputable def p21 : PC := (.seq (.reg [bx 2 52 0, ai 4 0, ai 5 0, ab 6 false]) (.seq (.seq (.reg [ai 7 0]) (.block 0 (.loop b21_10))) (.seq (.reg [ai 4 0, ai 5 0, ab 6 false]) .ret)))
theorem ev21 : EvC 21 41 p21 [.tmp 4, .tmp 5, .tmp 6] := bG Tryz.f21 (by kernel_rfl)
theorem P21 : type_of% (B6 p21.eq_1 @load9 @load50 @index50 @len50 @load70 <| An @index70 <| @len70) := B6 p21.eq_1 @load9 @load50 @index50 @len50 @load70 <| An @index70 <| @len70
noncomputable def b60_14 : PC := (.seq (.seq (.reg [mv 60 7, fa 61 72 6 1, ld 62 70 61, ln 63 62 70, bo 64 .lss 3 60 63]) (.cond (.tmp 64) .skip (.exit 2))) (.seq (.block 3 (.seq (.seq (.reg [fa 67 72 6 1, ld 68 70 67, mv 69 7, ia 70 70 68 69, fa 71 77 70 0, ld 72 9 71, cl 73 106 #[.tmp 72] #[9], nt 74 4 73, mv 75 74, gd (fa 76 72 6 1) 75 false, gd (ld 77 70 76) 75 false, gd (mv 78 7) 75 false, gd (ia 79 70 77 78) 75 false, gd (fa 80 77 79 1) 75 false, gd (ld 81 31 80) 75 false, gd (ln 82 81 31) 75 false, gd (bi 83 .gtr 3 82 3) 75 false, pt 84 75 83]) (.cond (.tmp 84) (.seq (.reg [ab 2 false]) .ret) .skip)) (.reg [mv 85 4, fa 86 72 6 1, ld 87 70 86, mv 88 7, ia 89 70 87 88, fa 90 77 89 0, ld 91 9 90, b1 92 31 91, ap 93 85 92 31, ag 4 93]))) (.reg [mv 65 7, bi 66 .add 3 65 1, ag 7 66])))
noncomputable def b60_16 : PC := (.seq (.seq (.reg [mv 12 5, fa 13 52 1 1, ld 14 50 13, ln 15 14 50, bo 16 .lss 3 12 15]) (.cond (.tmp 16) .skip (.exit 0))) (.seq (.block 1 (.seq (.reg [fa 19 52 1 1, ld 20 50 19, mv 21 5, ia 22 50 20 21, ld 23 72 22, al 6 72, sto 72 6 23]) (.seq (.seq (.reg [fa 24 72 6 0, ld 25 9 24, cl 26 105 #[.tmp 25] #[9], nt 27 4 26, mv 28 27, gd (fa 29 72 6 0) 28 false, gd (ld 30 9 29) 28 false, gd (bz 31 .eql 9 30 ⟨#[105, 110, 116]⟩) 28 false, pt 32 28 31, mv 33 32, gd (fa 34 72 6 0) 33 false, gd (ld 35 9 34) 33 false, gd (bz 36 .eql 9 35 ⟨#[98, 111, 111, 108]⟩) 33 false, pt 37 33 36, mv 38 37, gd (fa 39 72 6 0) 38 false, gd (ld 40 9 39) 38 false, gd (bz 41 .eql 9 40 ⟨#[117, 110, 105, 116]⟩) 38 false, pt 42 38 41, mv 43 42, gd (fa 44 72 6 1) 43 false, gd (ld 45 70 44) 43 false, gd (ln 46 45 70) 43 false, gd (bi 47 .lss 3 46 1) 43 false, pt 48 43 47, mv 49 48, gd (fa 50 72 6 1) 49 false, gd (ld 51 70 50) 49 false, gd (ln 52 51 70) 49 false, gd (bi 53 .gtr 3 52 20) 49 false, pt 54 49 53]) (.cond (.tmp 54) (.seq (.reg [ab 2 false]) .ret) .skip)) (.seq (.reg [mv 55 3, fa 56 72 6 0, ld 57 9 56, b1 58 31 57, ap 59 55 58 31, ag 3 59]) (.seq (.reg [ai 7 0]) (.block 2 (.loop b60_14))))))) (.reg [mv 17 5, bi 18 .add 3 17 1, ag 5 18])))
def r60_17 : LP := [
 fa 94 52 1 1,
 ld 95 50 94,
 ln 96 95 50,
 bi 97 .gtr 3 96 20,
 mv 98 97,
 gd (mv 99 3) 98 false,
 gd (cl 100 107 #[.tmp 99] #[31]) 98 false,
 pt 101 98 100,
 mv 102 101,
 gd (mv 103 4) 102 false,
 gd (cl 104 107 #[.tmp 103] #[31]) 102 false,
 pt 105 102 104]
def r60_18 : LP := [
 ab 2 false]
def r60_19 : LP := [
 mv 106 3,
 ⟨some 107, .buildSlice 31 3 #[(0, (.const (.string ⟨#[105, 110, 116]⟩))), (1, (.const (.string ⟨#[98, 111, 111, 108]⟩))), (2, (.const (.string ⟨#[117, 110, 105, 116]⟩)))], none⟩,
 ap 108 106 107 31,
 ag 3 108]
def r60_20 : LP := [
 ai 8 0]
noncomputable def b60_30 : PC := (.seq (.seq (.reg [mv 137 11, mv 138 10, ln 139 138 31, bo 140 .lss 3 137 139]) (.cond (.tmp 140) .skip (.exit 8))) (.seq (.block 9 (.seq (.reg [mv 143 3, mv 144 10, mv 145 11, ia 146 31 144 145, ld 147 9 146, cl 148 96 #[.tmp 143, .tmp 147] #[31, 9], nt 149 4 148]) (.cond (.tmp 149) (.seq (.reg [ab 2 false]) .ret) .skip))) (.reg [mv 141 11, bi 142 .add 3 141 1, ag 11 142])))
noncomputable def b60_32 : PC := (.seq (.seq (.reg [mv 116 9, fa 117 52 1 1, ld 118 50 117, mv 119 8, ia 120 50 118 119, fa 121 72 120 1, ld 122 70 121, ln 123 122 70, bo 124 .lss 3 116 123]) (.cond (.tmp 124) .skip (.exit 6))) (.seq (.block 7 (.seq (.reg [fa 127 52 1 1, ld 128 50 127, mv 129 8, ia 130 50 128 129, fa 131 72 130 1, ld 132 70 131, mv 133 9, ia 134 70 132 133, fa 135 77 134 1, ld 136 31 135, ag 10 136]) (.seq (.reg [ai 11 0]) (.block 8 (.loop b60_30))))) (.reg [mv 125 9, bi 126 .add 3 125 1, ag 9 126])))
noncomputable def b60_34 : PC := (.seq (.seq (.reg [mv 109 8, fa 110 52 1 1, ld 111 50 110, ln 112 111 50, bo 113 .lss 3 109 112]) (.cond (.tmp 113) .skip (.exit 4))) (.seq (.block 5 (.seq (.reg [ai 9 0]) (.block 6 (.loop b60_32)))) (.reg [mv 114 8, bi 115 .add 3 114 1, ag 8 115])))
def r60_35 : LP := [
 ab 2 true]
noncomputable def p60 : PC := (.seq (.reg [bx 1 52 0, ab 2 false]) (.seq (.reg [an 3, an 4]) (.seq (.seq (.reg [ai 5 0]) (.block 0 (.loop b60_16))) (.seq (.seq (.reg r60_17) (.cond (.tmp 105) (.seq (.reg r60_18) .ret) .skip)) (.seq (.reg r60_19) (.seq (.seq (.reg r60_20) (.block 4 (.loop b60_34))) (.seq (.reg r60_35) .ret)))))))
theorem ev60 : EvC 60 150 p60 [.tmp 2] := bG Tryz.f60 (by kernel_rfl)
theorem P60 : type_of% (B6 r60_17.eq_1 r60_18.eq_1 r60_19.eq_1 r60_20.eq_1 r60_35.eq_1 p60.eq_1 <| B6 @load9 @load31 @bs31 @app31 @index31 @len31 <| B6 @load50 @index50 @len50 @load70 @index70 @len70 <| An @load72 <| An @store72 <| An @call96 <| An @call105 <| An @call106 <| @call107) := B6 r60_17.eq_1 r60_18.eq_1 r60_19.eq_1 r60_20.eq_1 r60_35.eq_1 p60.eq_1 <| B6 @load9 @load31 @bs31 @app31 @index31 @len31 <| B6 @load50 @index50 @len50 @load70 @index70 @len70 <| An @load72 <| An @store72 <| An @call96 <| An @call105 <| An @call106 <| @call107
def r61_7 : LP := [
 ld 49 52 4,
 fa 50 69 9 2,
 ld 51 9 50,
 cl 52 21 #[.tmp 49, .tmp 51] #[52, 9],
 mv 48 52,
 ex 53 48 0,
 ex 54 48 1,
 ex 55 48 2,
 ag 10 53,
 ag 11 54,
 ag 12 55]
def r61_8 : LP := [
 mv 56 12,
 nt 57 4 56,
 mv 58 57,
 gd (fa 59 52 4 1) 58 false,
 gd (ld 60 50 59) 58 false,
 gd (mv 61 10) 58 false,
 gd (ia 62 50 60 61) 58 false,
 gd (fa 63 72 62 1) 58 false,
 gd (ld 64 70 63) 58 false,
 gd (mv 65 11) 58 false,
 gd (ia 66 70 64 65) 58 false,
 gd (fa 67 77 66 1) 58 false,
 gd (ld 68 31 67) 58 false,
 gd (ln 69 68 31) 58 false,
 gd (fa 70 69 9 4) 58 false,
 gd (ld 71 34 70) 58 false,
 gd (ln 72 71 34) 58 false,
 gd (bo 73 .neq 3 69 72) 58 false,
 pt 74 58 73]
def r61_9 : LP := [
 ai 8 (-1)]
def r61_10 : LP := [
 mv 75 1,
 bi 76 .add 3 75 1,
 ag 13 76]
def r61_11 : LP := [
 ai 14 0]
noncomputable def b61_19 : PC := (.seq (.seq (.reg [mv 77 14, fa 78 69 9 4, ld 79 34 78, ln 80 79 34, bo 81 .lss 3 77 80]) (.cond (.tmp 81) .skip (.exit 0))) (.seq (.block 1 (.seq (.seq (.reg [fa 84 69 9 4, ld 85 34 84, mv 86 14, ia 87 34 85 86, ld 88 3 87, mv 89 13, bo 90 .neq 3 88 89]) (.cond (.tmp 90) (.seq (.reg [ai 8 (-1)]) .ret) .skip)) (.seq (.reg [ld 91 52 4, mv 92 13, mv 93 2, mv 94 93, gd (fa 95 69 9 0) 94 false, gd (ld 96 3 95) 94 false, gd (bi 97 .eql 3 96 11) 94 false, gd (mv 98 97) 94 false, gd (mv 99 14) 98 true, gd (bi 100 .rem 3 99 2) 98 true, gd (bi 101 .eql 3 100 1) 98 true, gd (pf 102 98 101) 94 false, pt 103 94 102, mv 104 3, bi 105 .add 3 104 1, cl 106 61 #[.tmp 91, .tmp 92, .tmp 103, .tmp 105] #[52, 3, 4, 3], ag 13 106]) (.seq (.reg [mv 107 13, bi 108 .lss 3 107 0]) (.cond (.tmp 108) (.seq (.reg [ai 8 (-1)]) .ret) .skip))))) (.reg [mv 82 14, bi 83 .add 3 82 1, ag 14 83])))
def r61_20 : LP := [
 fa 109 69 9 0,
 ld 110 3 109,
 bi 111 .eql 3 110 11]
def r61_21 : LP := [
 ai 15 1]
def r61_23 : LP := [
 ld 119 52 4,
 fa 120 69 9 4,
 ld 121 34 120,
 mv 122 15,
 ia 123 34 121 122,
 ld 124 3 123,
 cl 125 73 #[.tmp 119, .tmp 124] #[52, 3],
 cl 126 107 #[.tmp 125] #[31]]
noncomputable def b61_26 : PC := (.seq (.seq (.reg [mv 112 15, fa 113 69 9 4, ld 114 34 113, ln 115 114 34, bo 116 .lss 3 112 115]) (.cond (.tmp 116) .skip (.exit 2))) (.seq (.block 3 (.seq (.regD 8 r61_23) (.cond (.tmp 126) (.seq (.reg [ai 8 (-1)]) .ret) .skip))) (.reg [mv 117 15, bi 118 .add 3 117 2, ag 15 118])))
def r61_27 : LP := [
 mv 127 13,
 ag 8 127]
noncomputable def p61 : PC := (.seq (.reg [bx 4 52 0, ai 8 0]) (.seq (.seq (.reg [mv 16 1, fa 17 52 4 0, ld 18 49 17, ln 19 18 49, bo 20 .geq 3 16 19, mv 21 20, gd (mv 22 3) 21 false, gd (bi 23 .gtr 3 22 60) 21 false, pt 24 21 23]) (.cond (.tmp 24) (.seq (.reg [ai 8 (-1)]) .ret) .skip)) (.seq (.reg [fa 25 52 4 0, ld 26 49 25, mv 27 1, ia 28 49 26 27, ld 29 69 28, al 9 69, sto 69 9 29]) (.seq (.seq (.reg [ld 30 69 9, cl 31 108 #[.tmp 30] #[69], nt 32 4 31, mv 33 32, gd (fa 34 69 9 0) 33 false, gd (ld 35 3 34) 33 false, gd (bi 36 .gtr 3 35 20) 33 false, gd (mv 37 2) 33 false, gd (bo 38 .neq 4 36 37) 33 false, pt 39 33 38]) (.cond (.tmp 39) (.seq (.reg [ai 8 (-1)]) .ret) .skip)) (.seq (.seq (.reg [fa 40 69 9 0, ld 41 3 40, bi 42 .eql 3 41 5, mv 43 42, gd (fa 44 69 9 0) 43 false, gd (ld 45 3 44) 43 false, gd (bi 46 .eql 3 45 26) 43 false, pt 47 43 46]) (.cond (.tmp 47) (.seq (.reg r61_7) (.seq (.regD 19 r61_8) (.cond (.tmp 74) (.seq (.reg r61_9) .ret) .skip))) .skip)) (.seq (.reg r61_10) (.seq (.seq (.reg r61_11) (.block 0 (.loop b61_19))) (.seq (.seq (.reg r61_20) (.cond (.tmp 111) (.seq (.reg r61_21) (.block 2 (.loop b61_26))) .skip)) (.seq (.reg r61_27) .ret)))))))))
theorem ev61 : EvC 61 128 p61 [.tmp 8] := bG Tryz.f61 (by kernel_rfl)
theorem P61 : type_of% (B6 r61_7.eq_1 r61_8.eq_1 r61_9.eq_1 r61_10.eq_1 r61_11.eq_1 r61_20.eq_1 <| B6 r61_21.eq_1 r61_23.eq_1 r61_27.eq_1 p61.eq_1 @load3 @load9 <| B6 @load31 @len31 @load34 @index34 @len34 @load49 <| B6 @index49 @len49 @load50 @index50 @load52 @load69 <| B6 @store69 @load70 @index70 @call21 @call61 @call73 <| An @call107 <| @call108) := B6 r61_7.eq_1 r61_8.eq_1 r61_9.eq_1 r61_10.eq_1 r61_11.eq_1 r61_20.eq_1 <| B6 r61_21.eq_1 r61_23.eq_1 r61_27.eq_1 p61.eq_1 @load3 @load9 <| B6 @load31 @len31 @load34 @index34 @len34 @load49 <| B6 @index49 @len49 @load50 @index50 @load52 @load69 <| B6 @store69 @load70 @index70 @call21 @call61 @call73 <| An @call107 <| @call108
def r67_5 : LP := [
 mv 23 6,
 ld 24 52 2,
 fa 25 69 5 4,
 ld 26 34 25,
 mv 27 7,
 ia 28 34 26 27,
 ld 29 3 28,
 cl 30 67 #[.tmp 24, .tmp 29] #[52, 3],
 b1 31 31 30,
 ap 32 23 31 31,
 ag 6 32]
noncomputable def b67_7 : PC := (.seq (.seq (.reg [mv 16 7, fa 17 69 5 4, ld 18 34 17, ln 19 18 34, bo 20 .lss 3 16 19]) (.cond (.tmp 20) .skip (.exit 0))) (.seq (.block 1 (.regD 11 r67_5)) (.reg [mv 21 7, bi 22 .add 3 21 1, ag 7 22])))
def r67_8 : LP := [
 fa 33 69 5 0,
 ld 34 3 33]
def r67_9 : LP := [
 bi 36 .eql 3 34 1,
 ag 35 36]
def r67_10 : LP := [
 bi 37 .eql 3 34 23,
 ag 35 37]
def r67_11 : LP := [
 fa 38 69 5 1,
 ld 39 2 38,
 cl 40 115 #[.tmp 39] #[2],
 ag 4 40]
def r67_12 : LP := [
 bi 42 .eql 3 34 2,
 ag 41 42]
def r67_13 : LP := [
 bi 43 .eql 3 34 24,
 ag 41 43]
def r67_14 : LP := [
 fa 44 69 5 1,
 ld 45 2 44,
 bi 46 .eql 2 45 1]
def r67_15 : LP := [
 sz 4 ⟨#[116, 114, 117, 101]⟩]
def r67_16 : LP := [
 sz 4 ⟨#[102, 97, 108, 115, 101]⟩]
def r67_17 : LP := [
 bi 48 .eql 3 34 3,
 ag 47 48]
def r67_18 : LP := [
 bi 49 .eql 3 34 25,
 ag 47 49]
def r67_19 : LP := [
 sz 4 ⟨#[40, 41]⟩]
def r67_20 : LP := [
 bi 51 .eql 3 34 4,
 ag 50 51]
def r67_21 : LP := [
 bi 52 .eql 3 34 22,
 ag 50 52]
def r67_22 : LP := [
 fa 53 69 5 2,
 ld 54 9 53,
 ag 4 54]
def r67_23 : LP := [
 bi 56 .eql 3 34 5,
 ag 55 56]
def r67_24 : LP := [
 bi 57 .eql 3 34 26,
 ag 55 57]
def r67_25 : LP := [
 mv 58 6,
 ln 59 58 31,
 bi 60 .eql 3 59 0]
def r67_26 : LP := [
 fa 61 69 5 2,
 ld 62 9 61,
 ag 4 62]
def r67_27 : LP := [
 fa 63 69 5 2,
 ld 64 9 63,
 bz 65 .add 9 64 ⟨#[32, 40]⟩,
 mv 66 6,
 cl 67 66 #[.tmp 66, (.const (.string ⟨#[44, 32]⟩))] #[31, 9]]
def r67_28 : LP := [
 bo 68 .add 9 65 67,
 bz 69 .add 9 68 ⟨#[41]⟩,
 ag 4 69]
noncomputable def d67_0 : Array Oper := match Tryz.f67.body.map (eH E Tryz.f67.ntmps) with | some p => p.draws.getD 0 #[] | none => #[]
theorem jf4 : DrawC E 290 d67_0 8 5 r67_27 r67_28 [(.tmp 63)] := ⟨by kernel_rfl, by decide, by kernel_rfl, by kernel_rfl, by kernel_rfl, by kernel_rfl, by kernel_rfl⟩
def r67_29 : LP := [
 bi 71 .eql 3 34 6,
 ag 70 71]
def r67_30 : LP := [
 fa 72 69 5 3,
 ld 73 9 72,
 zb 74 .add 9 ⟨#[40, 102, 117, 110, 32]⟩ 73,
 bz 75 .add 9 74 ⟨#[32, 45, 62, 32]⟩,
 mv 76 6,
 ik 77 31 76 0,
 ld 78 9 77,
 bo 79 .add 9 75 78,
 bz 80 .add 9 79 ⟨#[41]⟩,
 ag 4 80]
def r67_31 : LP := [
 bi 82 .eql 3 34 7,
 ag 81 82]
def r67_32 : LP := [
 fa 83 52 2 0,
 ld 84 49 83,
 fa 85 69 5 4,
 ld 86 34 85,
 ik 87 34 86 0,
 ld 88 3 87,
 ia 89 49 84 88,
 ld 90 69 89]
def r67_33 : LP := [
 sto 69 8 90]
noncomputable def d67_1 : Array Oper := match Tryz.f67.body.map (eH E Tryz.f67.ntmps) with | some p => p.draws.getD 1 #[] | none => #[]
theorem jf3 : DrawMk E 290 d67_1 10 r67_32 8 (some 8) (.alloc 69) r67_33 [(.tmp 83), (.tmp 85), (.tmp 87), (.tmp 89)] := ks7 (by kernel_rfl) (by kernel_rfl) (by kernel_rfl) (by kernel_rfl) (by kernel_rfl)
def r67_34 : LP := [
 fa 91 69 8 0,
 ld 92 3 91,
 bi 93 .eql 3 92 5,
 mv 94 93,
 gd (fa 95 69 8 4) 94 true,
 gd (ld 96 34 95) 94 true,
 gd (ln 97 96 34) 94 true,
 gd (bi 98 .eql 3 97 0) 94 true,
 pf 99 94 98]
def r67_35 : LP := [
 mv 100 6,
 ik 101 31 100 0,
 ld 102 9 101,
 zb 103 .add 9 ⟨#[40, 40]⟩ 102,
 bz 104 .add 9 103 ⟨#[41, 32]⟩,
 mv 105 6,
 ik 106 31 105 1,
 ld 107 9 106,
 bo 108 .add 9 104 107,
 bz 109 .add 9 108 ⟨#[41]⟩,
 ag 4 109]
def r67_36 : LP := [
 mv 110 6,
 ik 111 31 110 0,
 ld 112 9 111,
 zb 113 .add 9 ⟨#[40]⟩ 112,
 bz 114 .add 9 113 ⟨#[32]⟩,
 mv 115 6,
 ik 116 31 115 1,
 ld 117 9 116,
 bo 118 .add 9 114 117,
 bz 119 .add 9 118 ⟨#[41]⟩,
 ag 4 119]
def r67_37 : LP := [
 bi 121 .eql 3 34 8,
 ag 120 121]
def r67_38 : LP := [
 fa 122 69 5 2,
 ld 123 9 122,
 zb 124 .add 9 ⟨#[40, 108, 101, 116, 32]⟩ 123,
 bz 125 .add 9 124 ⟨#[32, 61, 32]⟩,
 mv 126 6,
 ik 127 31 126 0,
 ld 128 9 127,
 bo 129 .add 9 125 128,
 bz 130 .add 9 129 ⟨#[32, 105, 110, 32]⟩,
 mv 131 6,
 ik 132 31 131 1,
 ld 133 9 132,
 bo 134 .add 9 130 133,
 bz 135 .add 9 134 ⟨#[41]⟩,
 ag 4 135]
def r67_39 : LP := [
 bi 137 .eql 3 34 9,
 ag 136 137]
def r67_40 : LP := [
 fa 138 69 5 2,
 ld 139 9 138,
 zb 140 .add 9 ⟨#[40, 108, 101, 116, 32, 114, 101, 99, 32]⟩ 139,
 bz 141 .add 9 140 ⟨#[32]⟩,
 fa 142 69 5 3,
 ld 143 9 142,
 bo 144 .add 9 141 143,
 bz 145 .add 9 144 ⟨#[32, 61, 32]⟩,
 mv 146 6,
 ik 147 31 146 0,
 ld 148 9 147,
 bo 149 .add 9 145 148,
 bz 150 .add 9 149 ⟨#[32, 105, 110, 32]⟩,
 mv 151 6,
 ik 152 31 151 1,
 ld 153 9 152,
 bo 154 .add 9 150 153,
 bz 155 .add 9 154 ⟨#[41]⟩,
 ag 4 155]
def r67_41 : LP := [
 bi 157 .eql 3 34 10,
 ag 156 157]
def r67_42 : LP := [
 mv 158 6,
 ik 159 31 158 0,
 ld 160 9 159,
 zb 161 .add 9 ⟨#[40, 105, 102, 32]⟩ 160,
 bz 162 .add 9 161 ⟨#[32, 116, 104, 101, 110, 32]⟩,
 mv 163 6,
 ik 164 31 163 1,
 ld 165 9 164,
 bo 166 .add 9 162 165,
 bz 167 .add 9 166 ⟨#[32, 101, 108, 115, 101, 32]⟩,
 mv 168 6,
 ik 169 31 168 2,
 ld 170 9 169,
 bo 171 .add 9 167 170,
 bz 172 .add 9 171 ⟨#[41]⟩,
 ag 4 172]
def r67_43 : LP := [
 bi 174 .eql 3 34 11,
 ag 173 174]
def r67_44 : LP := [
 an 9]
def r67_45 : LP := [
 ai 10 1]
def r67_47 : LP := [
 mv 181 9,
 mv 182 6,
 mv 183 10,
 ia 184 31 182 183,
 ld 185 9 184,
 bz 186 .add 9 185 ⟨#[32, 45, 62, 32]⟩,
 mv 187 6,
 mv 188 10,
 bi 189 .add 3 188 1,
 ia 190 31 187 189,
 ld 191 9 190,
 bo 192 .add 9 186 191,
 b1 193 31 192,
 ap 194 181 193 31,
 ag 9 194]
noncomputable def b67_49 : PC := (.seq (.seq (.reg [mv 175 10, mv 176 6, ln 177 176 31, bo 178 .lss 3 175 177]) (.cond (.tmp 178) .skip (.exit 3))) (.seq (.block 4 (.regD 15 r67_47)) (.reg [mv 179 10, bi 180 .add 3 179 2, ag 10 180])))
def r67_50 : LP := [
 mv 195 6,
 ik 196 31 195 0,
 ld 197 9 196,
 zb 198 .add 9 ⟨#[40, 109, 97, 116, 99, 104, 32]⟩ 197,
 bz 199 .add 9 198 ⟨#[32, 119, 105, 116, 104, 32]⟩,
 mv 200 9,
 cl 201 66 #[.tmp 200, (.const (.string ⟨#[32, 124, 32]⟩))] #[31, 9]]
def r67_51 : LP := [
 bo 202 .add 9 199 201,
 bz 203 .add 9 202 ⟨#[32, 101, 110, 100, 41]⟩,
 ag 4 203]
noncomputable def d67_2 : Array Oper := match Tryz.f67.body.map (eH E Tryz.f67.ntmps) with | some p => p.draws.getD 2 #[] | none => #[]
theorem jf2 : DrawC E 290 d67_2 10 7 r67_50 r67_51 [(.tmp 196)] := ⟨by kernel_rfl, by decide, by kernel_rfl, by kernel_rfl, by kernel_rfl, by kernel_rfl, by kernel_rfl⟩
def r67_52 : LP := [
 bi 205 .eql 3 34 12,
 ag 204 205]
def r67_53 : LP := [
 mv 206 6,
 ik 207 31 206 0,
 ld 208 9 207,
 zb 209 .add 9 ⟨#[40]⟩ 208,
 bz 210 .add 9 209 ⟨#[32, 59, 32]⟩,
 mv 211 6,
 ik 212 31 211 1,
 ld 213 9 212,
 bo 214 .add 9 210 213,
 bz 215 .add 9 214 ⟨#[41]⟩,
 ag 4 215]
def r67_54 : LP := [
 bi 217 .eql 3 34 13,
 ag 216 217]
def r67_55 : LP := [
 mv 218 6,
 ik 219 31 218 0,
 ld 220 9 219,
 zb 221 .add 9 ⟨#[40]⟩ 220,
 bz 222 .add 9 221 ⟨#[32, 58, 61, 32]⟩,
 mv 223 6,
 ik 224 31 223 1,
 ld 225 9 224,
 bo 226 .add 9 222 225,
 bz 227 .add 9 226 ⟨#[41]⟩,
 ag 4 227]
def r67_56 : LP := [
 bi 229 .eql 3 34 14,
 ag 228 229]
def r67_57 : LP := [
 mv 230 6,
 ik 231 31 230 0,
 ld 232 9 231,
 zb 233 .add 9 ⟨#[40]⟩ 232,
 bz 234 .add 9 233 ⟨#[32]⟩,
 fa 235 69 5 2,
 ld 236 9 235,
 bo 237 .add 9 234 236,
 bz 238 .add 9 237 ⟨#[32]⟩,
 mv 239 6,
 ik 240 31 239 1,
 ld 241 9 240,
 bo 242 .add 9 238 241,
 bz 243 .add 9 242 ⟨#[41]⟩,
 ag 4 243]
def r67_58 : LP := [
 bi 245 .eql 3 34 15,
 ag 244 245]
def r67_59 : LP := [
 mv 246 6,
 ik 247 31 246 0,
 ld 248 9 247,
 zb 249 .add 9 ⟨#[40, 114, 101, 102, 32]⟩ 248,
 bz 250 .add 9 249 ⟨#[41]⟩,
 ag 4 250]
def r67_60 : LP := [
 bi 252 .eql 3 34 16,
 ag 251 252]
def r67_61 : LP := [
 mv 253 6,
 ik 254 31 253 0,
 ld 255 9 254,
 zb 256 .add 9 ⟨#[40, 33, 32]⟩ 255,
 bz 257 .add 9 256 ⟨#[41]⟩,
 ag 4 257]
def r67_62 : LP := [
 bi 259 .eql 3 34 17,
 ag 258 259]
def r67_63 : LP := [
 mv 260 6,
 ik 261 31 260 0,
 ld 262 9 261,
 zb 263 .add 9 ⟨#[40, 112, 114, 105, 110, 116, 32]⟩ 262,
 bz 264 .add 9 263 ⟨#[41]⟩,
 ag 4 264]
def r67_64 : LP := [
 bi 266 .eql 3 34 18,
 ag 265 266]
def r67_65 : LP := [
 sz 4 ⟨#[114, 101, 97, 100]⟩]
def r67_66 : LP := [
 bi 268 .eql 3 34 19,
 ag 267 268]
def r67_67 : LP := [
 mv 269 6,
 ik 270 31 269 0,
 ld 271 9 270,
 zb 272 .add 9 ⟨#[40, 114, 97, 105, 115, 101, 32]⟩ 271,
 bz 273 .add 9 272 ⟨#[41]⟩,
 ag 4 273]
def r67_68 : LP := [
 bi 275 .eql 3 34 20,
 ag 274 275]
def r67_69 : LP := [
 mv 276 6,
 ik 277 31 276 0,
 ld 278 9 277,
 zb 279 .add 9 ⟨#[40, 116, 114, 121, 32]⟩ 278,
 bz 280 .add 9 279 ⟨#[32, 119, 105, 116, 104, 32]⟩,
 fa 281 69 5 3,
 ld 282 9 281,
 bo 283 .add 9 280 282,
 bz 284 .add 9 283 ⟨#[32, 45, 62, 32]⟩,
 mv 285 6,
 ik 286 31 285 1,
 ld 287 9 286,
 bo 288 .add 9 284 287,
 bz 289 .add 9 288 ⟨#[32, 101, 110, 100, 41]⟩,
 ag 4 289]
def r67_70 : LP := [
 sz 4 ⟨#[95]⟩]
noncomputable def p67 : PC := (.seq (.reg [bx 2 52 0, sz 4 ⟨#[]⟩]) (.seq (.reg [fa 11 52 2 0, ld 12 49 11, mv 13 1, ia 14 49 12 13, ld 15 69 14, al 5 69, sto 69 5 15]) (.seq (.reg [an 6]) (.seq (.seq (.reg [ai 7 0]) (.block 0 (.loop b67_7))) (.seq (.seq (.reg r67_8) (.block 2 (.seq (.seq (.reg r67_9) (.cond (.tmp 35) .skip (.reg r67_10))) (.cond (.tmp 35) (.seq (.reg r67_11) .ret) (.seq (.seq (.reg r67_12) (.cond (.tmp 41) .skip (.reg r67_13))) (.cond (.tmp 41) (.seq (.seq (.reg r67_14) (.cond (.tmp 46) (.seq (.reg r67_15) .ret) .skip)) (.seq (.reg r67_16) .ret)) (.seq (.seq (.reg r67_17) (.cond (.tmp 47) .skip (.reg r67_18))) (.cond (.tmp 47) (.seq (.reg r67_19) .ret) (.seq (.seq (.reg r67_20) (.cond (.tmp 50) .skip (.reg r67_21))) (.cond (.tmp 50) (.seq (.reg r67_22) .ret) (.seq (.seq (.reg r67_23) (.cond (.tmp 55) .skip (.reg r67_24))) (.cond (.tmp 55) (.seq (.seq (.reg r67_25) (.cond (.tmp 60) (.seq (.reg r67_26) .ret) .skip)) (.seq (.draw d67_0) .ret)) (.seq (.reg r67_29) (.cond (.tmp 70) (.seq (.regD 10 r67_30) .ret) (.seq (.reg r67_31) (.cond (.tmp 81) (.seq (.seq (.draw d67_1) (.seq (.reg r67_34) (.cond (.tmp 99) (.seq (.regD 11 r67_35) .ret) .skip))) (.seq (.regD 11 r67_36) .ret)) (.seq (.reg r67_37) (.cond (.tmp 120) (.seq (.regD 15 r67_38) .ret) (.seq (.reg r67_39) (.cond (.tmp 136) (.seq (.regD 19 r67_40) .ret) (.seq (.reg r67_41) (.cond (.tmp 156) (.seq (.regD 16 r67_42) .ret) (.seq (.reg r67_43) (.cond (.tmp 173) (.seq (.reg r67_44) (.seq (.seq (.reg r67_45) (.block 3 (.loop b67_49))) (.seq (.draw d67_2) .ret))) (.seq (.reg r67_52) (.cond (.tmp 204) (.seq (.regD 11 r67_53) .ret) (.seq (.reg r67_54) (.cond (.tmp 216) (.seq (.regD 11 r67_55) .ret) (.seq (.reg r67_56) (.cond (.tmp 228) (.seq (.regD 15 r67_57) .ret) (.seq (.reg r67_58) (.cond (.tmp 244) (.seq (.reg r67_59) .ret) (.seq (.reg r67_60) (.cond (.tmp 251) (.seq (.reg r67_61) .ret) (.seq (.reg r67_62) (.cond (.tmp 258) (.seq (.reg r67_63) .ret) (.seq (.reg r67_64) (.cond (.tmp 265) (.seq (.reg r67_65) .ret) (.seq (.reg r67_66) (.cond (.tmp 267) (.seq (.reg r67_67) .ret) (.seq (.reg r67_68) (.cond (.tmp 274) (.seq (.regD 15 r67_69) .ret) .skip)))))))))))))))))))))))))))))))))))))))))) (.seq (.reg r67_70) .ret))))))
theorem ev67 : EvC 67 290 p67 [.tmp 4] := bG Tryz.f67 (by kernel_rfl)
theorem P67 : type_of% (B6 r67_5.eq_1 r67_8.eq_1 r67_9.eq_1 r67_10.eq_1 r67_11.eq_1 r67_12.eq_1 <| B6 r67_13.eq_1 r67_14.eq_1 r67_15.eq_1 r67_16.eq_1 r67_17.eq_1 r67_18.eq_1 <| B6 r67_19.eq_1 r67_20.eq_1 r67_21.eq_1 r67_22.eq_1 r67_23.eq_1 r67_24.eq_1 <| B6 r67_25.eq_1 r67_26.eq_1 r67_27.eq_1 r67_28.eq_1 r67_29.eq_1 r67_30.eq_1 <| B6 r67_31.eq_1 r67_32.eq_1 r67_33.eq_1 r67_34.eq_1 r67_35.eq_1 r67_36.eq_1 <| B6 r67_37.eq_1 r67_38.eq_1 r67_39.eq_1 r67_40.eq_1 r67_41.eq_1 r67_42.eq_1 <| B6 r67_43.eq_1 r67_44.eq_1 r67_45.eq_1 r67_47.eq_1 r67_50.eq_1 r67_51.eq_1 <| B6 r67_52.eq_1 r67_53.eq_1 r67_54.eq_1 r67_55.eq_1 r67_56.eq_1 r67_57.eq_1 <| B6 r67_58.eq_1 r67_59.eq_1 r67_60.eq_1 r67_61.eq_1 r67_62.eq_1 r67_63.eq_1 <| B6 r67_64.eq_1 r67_65.eq_1 r67_66.eq_1 r67_67.eq_1 r67_68.eq_1 r67_69.eq_1 <| B6 r67_70.eq_1 p67.eq_1 @load2 @load3 @load9 @bs31 <| B6 @app31 @index31 @len31 @load34 @index34 @len34 <| B6 @load49 @index49 @load52 @load69 @store69 @call66 <| An @call67 <| @call115) := B6 r67_5.eq_1 r67_8.eq_1 r67_9.eq_1 r67_10.eq_1 r67_11.eq_1 r67_12.eq_1 <| B6 r67_13.eq_1 r67_14.eq_1 r67_15.eq_1 r67_16.eq_1 r67_17.eq_1 r67_18.eq_1 <| B6 r67_19.eq_1 r67_20.eq_1 r67_21.eq_1 r67_22.eq_1 r67_23.eq_1 r67_24.eq_1 <| B6 r67_25.eq_1 r67_26.eq_1 r67_27.eq_1 r67_28.eq_1 r67_29.eq_1 r67_30.eq_1 <| B6 r67_31.eq_1 r67_32.eq_1 r67_33.eq_1 r67_34.eq_1 r67_35.eq_1 r67_36.eq_1 <| B6 r67_37.eq_1 r67_38.eq_1 r67_39.eq_1 r67_40.eq_1 r67_41.eq_1 r67_42.eq_1 <| B6 r67_43.eq_1 r67_44.eq_1 r67_45.eq_1 r67_47.eq_1 r67_50.eq_1 r67_51.eq_1 <| B6 r67_52.eq_1 r67_53.eq_1 r67_54.eq_1 r67_55.eq_1 r67_56.eq_1 r67_57.eq_1 <| B6 r67_58.eq_1 r67_59.eq_1 r67_60.eq_1 r67_61.eq_1 r67_62.eq_1 r67_63.eq_1 <| B6 r67_64.eq_1 r67_65.eq_1 r67_66.eq_1 r67_67.eq_1 r67_68.eq_1 r67_69.eq_1 <| B6 r67_70.eq_1 p67.eq_1 @load2 @load3 @load9 @bs31 <| B6 @app31 @index31 @len31 @load34 @index34 @len34 <| B6 @load49 @index49 @load52 @load69 @store69 @call66 <| An @call67 <| @call115
def r72_8 : LP := [
 ld 35 52 4,
 fa 36 69 9 4,
 ld 37 34 36,
 mv 38 10,
 ia 39 34 37 38,
 ld 40 3 39,
 ⟨some 41, .buildSlice 31 0 #[], none⟩,
 mv 42 2,
 ap 43 41 42 31,
 ld 44 52 4,
 ld 45 69 9,
 mv 46 10,
 cl 47 92 #[.tmp 44, .tmp 45, .tmp 46] #[52, 69, 3],
 ap 48 43 47 31]
def r72_9 : LP := [
 mv 49 3,
 cl 50 72 #[.tmp 35, .tmp 40, .tmp 48, .tmp 49] #[52, 3, 31, 31],
 ag 3 50]
noncomputable def d72_0 : Array Oper := match Tryz.f72.body.map (eH E Tryz.f72.ntmps) with | some p => p.draws.getD 0 #[] | none => #[]
theorem jf1 : DrawC E 52 d72_0 17 14 r72_8 r72_9 [(.tmp 4), (.tmp 36), (.tmp 39), (.tmp 4), (.tmp 9)] := ⟨by kernel_rfl, by decide, by kernel_rfl, by kernel_rfl, by kernel_rfl, by kernel_rfl, by kernel_rfl⟩
noncomputable def b72_11 : PC := (.seq (.seq (.reg [mv 28 10, fa 29 69 9 4, ld 30 34 29, ln 31 30 34, bo 32 .lss 3 28 31]) (.cond (.tmp 32) .skip (.exit 0))) (.seq (.block 1 (.draw d72_0)) (.reg [mv 33 10, bi 34 .add 3 33 1, ag 10 34])))
noncomputable def p72 : PC := (.seq (.reg [bx 4 52 0, an 8]) (.seq (.reg [fa 11 52 4 0, ld 12 49 11, mv 13 1, ia 14 49 12 13, ld 15 69 14, al 9 69, sto 69 9 15]) (.seq (.seq (.reg [fa 16 69 9 0, ld 17 3 16, bi 18 .eql 3 17 4]) (.cond (.tmp 18) (.seq (.seq (.reg [mv 19 2, fa 20 69 9 2, ld 21 9 20, cl 22 96 #[.tmp 19, .tmp 21] #[31, 9]]) (.cond (.tmp 22) (.seq (.reg [mv 23 3, ag 8 23]) .ret) .skip)) (.seq (.reg [mv 24 3, fa 25 69 9 2, ld 26 9 25, cl 27 121 #[.tmp 24, .tmp 26] #[31, 9], ag 8 27]) .ret)) .skip)) (.seq (.seq (.reg [ai 10 0]) (.block 0 (.loop b72_11))) (.seq (.reg [mv 51 3, ag 8 51]) .ret)))))
theorem ev72 : EvC 72 52 p72 [.tmp 8] := bG Tryz.f72 (by kernel_rfl)
theorem P72 : type_of% (B6 r72_8.eq_1 r72_9.eq_1 p72.eq_1 @load3 @load9 @bs31 <| B6 @app31 @load34 @index34 @len34 @load49 @index49 <| B6 @load52 @load69 @store69 @call72 @call92 @call96 <| @call121) := B6 r72_8.eq_1 r72_9.eq_1 p72.eq_1 @load3 @load9 @bs31 <| B6 @app31 @load34 @index34 @len34 @load49 @index49 <| B6 @load52 @load69 @store69 @call72 @call92 @call96 <| @call121
def r92_10 : LP := [
 ld 61 52 3,
 fa 62 69 4 4,
 ld 63 34 62,
 mv 64 2,
 bi 65 .sub 3 64 1,
 ia 66 34 63 65,
 ld 67 3 66,
 cl 68 73 #[.tmp 61, .tmp 67] #[52, 3],
 ag 6 68]
noncomputable def p92 : PC := (.seq (.reg [bx 3 52 0, bx 4 69 1, an 6]) (.seq (.block 0 (.seq (.seq (.reg [fa 8 69 4 0, ld 9 3 8, bi 10 .eql 3 9 6, ag 7 10]) (.cond (.tmp 7) .skip (.reg [fa 11 69 4 0, ld 12 3 11, bi 13 .eql 3 12 20, mv 14 13, gd (mv 15 2) 14 true, gd (bi 16 .eql 3 15 1) 14 true, pf 17 14 16, ag 7 17]))) (.cond (.tmp 7) (.seq (.reg [fa 18 69 4 3, ld 19 9 18, b1 20 31 19, ag 6 20]) .ret) (.seq (.seq (.reg [fa 22 69 4 0, ld 23 3 22, bi 24 .eql 3 23 8, mv 25 24, gd (mv 26 2) 25 true, gd (bi 27 .eql 3 26 1) 25 true, pf 28 25 27, ag 21 28]) (.cond (.tmp 21) .skip (.reg [fa 29 69 4 0, ld 30 3 29, bi 31 .eql 3 30 9, mv 32 31, gd (mv 33 2) 32 true, gd (bi 34 .eql 3 33 1) 32 true, pf 35 32 34, ag 21 35]))) (.cond (.tmp 21) (.seq (.reg [fa 36 69 4 2, ld 37 9 36, b1 38 31 37, ag 6 38]) .ret) (.seq (.reg [fa 40 69 4 0, ld 41 3 40, bi 42 .eql 3 41 9, ag 39 42]) (.cond (.tmp 39) (.seq (.reg [fa 43 69 4 2, ld 44 9 43, fa 45 69 4 3, ld 46 9 45, ⟨some 47, .buildSlice 31 2 #[(0, (.tmp 44)), (1, (.tmp 46))], none⟩, ag 6 47]) .ret) (.seq (.reg [fa 49 69 4 0, ld 50 3 49, bi 51 .eql 3 50 11, mv 52 51, gd (mv 53 2) 52 true, gd (bi 54 .gtr 3 53 0) 52 true, pf 55 52 54, mv 56 55, gd (mv 57 2) 56 true, gd (bi 58 .rem 3 57 2) 56 true, gd (bi 59 .eql 3 58 0) 56 true, pf 60 56 59, ag 48 60]) (.cond (.tmp 48) (.seq (.regD 9 r92_10) .ret) .skip))))))))) (.seq (.reg [an 6]) .ret)))
theorem ev92 : EvC 92 69 p92 [.tmp 6] := bG Tryz.f92 (by kernel_rfl)
theorem P92 : type_of% (B6 r92_10.eq_1 p92.eq_1 @load3 @load9 @bs31 @load34 <| An @index34 <| An @load52 <| @call73) := B6 r92_10.eq_1 p92.eq_1 @load3 @load9 @bs31 @load34 <| An @index34 <| An @load52 <| @call73
def r73_7 : LP := [
 fa 26 69 5 4,
 ld 27 34 26,
 mv 28 7,
 ia 29 34 27 28,
 ld 30 3 29,
 mv 31 1,
 bo 32 .gtr 3 30 31,
 mv 33 32,
 gd (fa 34 69 5 4) 33 true,
 gd (ld 35 34 34) 33 true,
 gd (mv 36 7) 33 true,
 gd (ia 37 34 35 36) 33 true,
 gd (ld 38 3 37) 33 true,
 gd (fa 39 52 2 0) 33 true,
 gd (ld 40 49 39) 33 true,
 gd (ln 41 40 49) 33 true,
 gd (bo 42 .lss 3 38 41) 33 true,
 pf 43 33 42,
 mv 44 43,
 gd (fa 45 69 5 0) 44 true,
 gd (ld 46 3 45) 44 true,
 gd (bi 47 .eql 3 46 26) 44 true,
 pf 48 44 47]
def r73_8 : LP := [
 mv 49 6,
 ld 50 52 2,
 fa 51 69 5 4,
 ld 52 34 51,
 mv 53 7,
 ia 54 34 52 53,
 ld 55 3 54,
 cl 56 73 #[.tmp 50, .tmp 55] #[52, 3],
 ap 57 49 56 31,
 ag 6 57]
noncomputable def b73_10 : PC := (.seq (.seq (.reg [mv 19 7, fa 20 69 5 4, ld 21 34 20, ln 22 21 34, bo 23 .lss 3 19 22]) (.cond (.tmp 23) .skip (.exit 0))) (.seq (.block 1 (.seq (.regD 23 r73_7) (.cond (.tmp 48) (.regD 10 r73_8) .skip))) (.reg [mv 24 7, bi 25 .add 3 24 1, ag 7 25])))
noncomputable def p73 : PC := (.seq (.reg [bx 2 52 0, an 4]) (.seq (.reg [fa 8 52 2 0, ld 9 49 8, mv 10 1, ia 11 49 9 10, ld 12 69 11, al 5 69, sto 69 5 12]) (.seq (.seq (.reg [fa 13 69 5 0, ld 14 3 13, bi 15 .eql 3 14 22]) (.cond (.tmp 15) (.seq (.reg [fa 16 69 5 2, ld 17 9 16, b1 18 31 17, ag 4 18]) .ret) .skip)) (.seq (.reg [an 6]) (.seq (.seq (.reg [ai 7 0]) (.block 0 (.loop b73_10))) (.seq (.reg [mv 58 6, ag 4 58]) .ret))))))
theorem ev73 : EvC 73 59 p73 [.tmp 4] := bG Tryz.f73 (by kernel_rfl)
theorem P73 : type_of% (B6 r73_7.eq_1 r73_8.eq_1 p73.eq_1 @load3 @load9 @bs31 <| B6 @app31 @load34 @index34 @len34 @load49 @index49 <| An @len49 <| An @load52 <| An @load69 <| An @store69 <| @call73) := B6 r73_7.eq_1 r73_8.eq_1 p73.eq_1 @load3 @load9 @bs31 <| B6 @app31 @load34 @index34 @len34 @load49 @index49 <| An @len49 <| An @load52 <| An @load69 <| An @store69 <| @call73
def r76_4 : LP := [
 ld 19 52 2,
 fa 20 52 2 0,
 ld 21 49 20,
 mv 22 1,
 ia 23 49 21 22,
 fa 24 69 23 4,
 ld 25 34 24,
 mv 26 6,
 ia 27 34 25 26,
 ld 28 3 27,
 cl 29 76 #[.tmp 19, .tmp 28] #[52, 3],
 ag 7 29]
noncomputable def b76_8 : PC := (.seq (.seq (.reg [mv 8 6, fa 9 52 2 0, ld 10 49 9, mv 11 1, ia 12 49 10 11, fa 13 69 12 4, ld 14 34 13, ln 15 14 34, bo 16 .lss 3 8 15]) (.cond (.tmp 16) .skip (.exit 0))) (.seq (.block 1 (.seq (.regD 12 r76_4) (.seq (.reg [mv 30 7, mv 31 5, bo 32 .gtr 3 30 31]) (.cond (.tmp 32) (.reg [mv 33 7, ag 5 33]) .skip)))) (.reg [mv 17 6, bi 18 .add 3 17 1, ag 6 18])))
noncomputable def p76 : PC := (.seq (.reg [bx 2 52 0, ai 4 0]) (.seq (.reg [ai 5 0]) (.seq (.seq (.reg [ai 6 0]) (.block 0 (.loop b76_8))) (.seq (.reg [mv 34 5, bi 35 .add 3 34 1, ag 4 35]) .ret))))
theorem ev76 : EvC 76 36 p76 [.tmp 4] := bG Tryz.f76 (by kernel_rfl)
theorem P76 : type_of% (B6 r76_4.eq_1 p76.eq_1 @load3 @load34 @index34 @len34 <| An @load49 <| An @index49 <| An @load52 <| @call76) := B6 r76_4.eq_1 p76.eq_1 @load3 @load34 @index34 @len34 <| An @load49 <| An @index49 <| An @load52 <| @call76
noncomputable def b66_8 : PC := (.seq (.seq (.reg [mv 7 6, mv 8 0, ln 9 8 31, bo 10 .lss 3 7 9]) (.cond (.tmp 10) .skip (.exit 0))) (.seq (.block 1 (.seq (.seq (.reg [mv 13 6, bi 14 .gtr 3 13 0]) (.cond (.tmp 14) (.reg [mv 15 5, mv 16 1, bo 17 .add 9 15 16, ag 5 17]) .skip)) (.reg [mv 18 5, mv 19 0, mv 20 6, ia 21 31 19 20, ld 22 9 21, bo 23 .add 9 18 22, ag 5 23]))) (.reg [mv 11 6, bi 12 .add 3 11 1, ag 6 12])))
noncomputable def p66 : PC := (.seq (.reg [sz 4 ⟨#[]⟩]) (.seq (.reg [sz 5 ⟨#[]⟩]) (.seq (.seq (.reg [ai 6 0]) (.block 0 (.loop b66_8))) (.seq (.reg [mv 24 5, ag 4 24]) .ret))))
theorem ev66 : EvC 66 25 p66 [.tmp 4] := bG Tryz.f66 (by kernel_rfl)
theorem P66 : type_of% (An p66.eq_1 <| An @load9 <| An @index31 <| @len31) := An p66.eq_1 <| An @load9 <| An @index31 <| @len31
noncomputable def b121_4 : PC := (.seq (.seq (.reg [mv 6 5, mv 7 0, ln 8 7 31, bo 9 .lss 3 6 8, mv 10 9, gd (mv 11 0) 10 true, gd (mv 12 5) 10 true, gd (ia 13 31 11 12) 10 true, gd (ld 14 9 13) 10 true, gd (mv 15 1) 10 true, gd (bo 16 .lss 9 14 15) 10 true, pf 17 10 16]) (.cond (.tmp 17) .skip (.exit 0))) (.block 1 (.reg [mv 18 5, bi 19 .add 3 18 1, ag 5 19])))
def r121_5 : LP := [
 mv 20 5,
 mv 21 0,
 ln 22 21 31,
 bo 23 .lss 3 20 22,
 mv 24 23,
 gd (mv 25 0) 24 true,
 gd (mv 26 5) 24 true,
 gd (ia 27 31 25 26) 24 true,
 gd (ld 28 9 27) 24 true,
 gd (mv 29 1) 24 true,
 gd (bo 30 .eql 9 28 29) 24 true,
 pf 31 24 30]
def r121_6 : LP := [
 mv 32 0,
 ag 4 32]
def r121_7 : LP := [
 ⟨some 33, .buildSlice 31 0 #[], none⟩,
 mv 34 0,
 mv 35 5,
 ⟨some 36, .slice 31 (.tmp 34) none (some (.tmp 35)) none, none⟩,
 ap 37 33 36 31,
 mv 38 1,
 b1 39 31 38,
 ap 40 37 39 31,
 mv 41 0,
 mv 42 5,
 ⟨some 43, .slice 31 (.tmp 41) (some (.tmp 42)) none none, none⟩]
def r121_8 : LP := [
 ap 44 40 43 31,
 ag 4 44]
noncomputable def d121_0 : Array Oper := match Tryz.f121.body.map (eH E Tryz.f121.ntmps) with | some p => p.draws.getD 0 #[] | none => #[]
theorem kt0 : DrawC E 45 d121_0 13 11 r121_7 r121_8 [(.tmp 41)] := ⟨by kernel_rfl, by decide, by kernel_rfl, by kernel_rfl, by kernel_rfl, by kernel_rfl, by kernel_rfl⟩
noncomputable def p121 : PC := (.seq (.reg [an 4]) (.seq (.reg [ai 5 0]) (.seq (.block 0 (.loop b121_4)) (.seq (.seq (.reg r121_5) (.cond (.tmp 31) (.seq (.reg r121_6) .ret) .skip)) (.seq (.draw d121_0) .ret)))))
theorem ev121 : EvC 121 45 p121 [.tmp 4] := bG Tryz.f121 (by kernel_rfl)
theorem P121 : type_of% (B6 r121_5.eq_1 r121_6.eq_1 r121_7.eq_1 r121_8.eq_1 p121.eq_1 @load9 <| An @bs31 <| An @app31 <| An @index31 <| @len31) := B6 r121_5.eq_1 r121_6.eq_1 r121_7.eq_1 r121_8.eq_1 p121.eq_1 @load9 <| An @bs31 <| An @app31 <| An @index31 <| @len31
noncomputable def b96_6 : PC := (.seq (.seq (.reg [mv 6 5, mv 7 0, ln 8 7 31, bo 9 .lss 3 6 8]) (.cond (.tmp 9) .skip (.exit 0))) (.seq (.block 1 (.seq (.reg [mv 12 0, mv 13 5, ia 14 31 12 13, ld 15 9 14, mv 16 1, bo 17 .eql 9 15 16]) (.cond (.tmp 17) (.seq (.reg [ab 4 true]) .ret) .skip))) (.reg [mv 10 5, bi 11 .add 3 10 1, ag 5 11])))
noncomputable def p96 : PC := (.seq (.reg [ab 4 false]) (.seq (.seq (.reg [ai 5 0]) (.block 0 (.loop b96_6))) (.seq (.reg [ab 4 false]) .ret)))
theorem ev96 : EvC 96 18 p96 [.tmp 4] := bG Tryz.f96 (by kernel_rfl)
theorem P96 : type_of% (An p96.eq_1 <| An @load9 <| An @index31 <| @len31) := An p96.eq_1 <| An @load9 <| An @index31 <| @len31
def r107_5 : LP := [
 mv 16 0,
 mv 17 3,
 ia 18 31 16 17,
 ld 19 9 18,
 mv 20 0,
 mv 21 4,
 ia 22 31 20 21,
 ld 23 9 22,
 bo 24 .eql 9 19 23]
noncomputable def b107_8 : PC := (.seq (.seq (.reg [mv 11 4, mv 12 3, bo 13 .lss 3 11 12]) (.cond (.tmp 13) .skip (.exit 2))) (.seq (.block 3 (.seq (.regD 9 r107_5) (.cond (.tmp 24) (.seq (.reg [ab 2 true]) .ret) .skip))) (.reg [mv 14 4, bi 15 .add 3 14 1, ag 4 15])))
noncomputable def b107_10 : PC := (.seq (.seq (.reg [mv 5 3, mv 6 0, ln 7 6 31, bo 8 .lss 3 5 7]) (.cond (.tmp 8) .skip (.exit 0))) (.seq (.block 1 (.seq (.reg [ai 4 0]) (.block 2 (.loop b107_8)))) (.reg [mv 9 3, bi 10 .add 3 9 1, ag 3 10])))
noncomputable def p107 : PC := (.seq (.reg [ab 2 false]) (.seq (.seq (.reg [ai 3 0]) (.block 0 (.loop b107_10))) (.seq (.reg [ab 2 false]) .ret)))
theorem ev107 : EvC 107 25 p107 [.tmp 2] := bG Tryz.f107 (by kernel_rfl)
theorem P107 : type_of% (An r107_5.eq_1 <| An p107.eq_1 <| An @load9 <| An @index31 <| @len31) := An r107_5.eq_1 <| An p107.eq_1 <| An @load9 <| An @index31 <| @len31
def r108_14 : LP := [
 fa 42 69 1 0,
 ld 43 3 42]
def r108_15 : LP := [
 bi 48 .eql 3 43 1,
 ag 47 48]
def r108_16 : LP := [
 bi 49 .eql 3 43 23,
 ag 47 49]
def r108_17 : LP := [
 fa 50 69 1 1,
 ld 51 2 50,
 bi 52 .lss 2 51 0,
 mv 53 52,
 gd (fa 54 69 1 1) 53 false,
 gd (ld 55 2 54) 53 false,
 gd (cl 56 139 #[] #[]) 53 false]
def r108_18 : LP := [
 gd (bo 57 .gtr 2 55 56) 53 false,
 pt 58 53 57]
noncomputable def d108_0 : Array Oper := match Tryz.f108.body.map (eH E Tryz.f108.ntmps) with | some p => p.draws.getD 0 #[] | none => #[]
theorem kt2 : DrawC E 135 d108_0 9 7 r108_17 r108_18 [(.tmp 54)] := ⟨by kernel_rfl, by decide, by kernel_rfl, by kernel_rfl, by kernel_rfl, by kernel_rfl, by kernel_rfl⟩
def r108_19 : LP := [
 ab 2 false]
def r108_20 : LP := [
 bi 60 .eql 3 43 2,
 ag 59 60]
def r108_21 : LP := [
 bi 61 .eql 3 43 24,
 ag 59 61]
def r108_22 : LP := [
 fa 62 69 1 1,
 ld 63 2 62,
 bi 64 .neq 2 63 0,
 mv 65 64,
 gd (fa 66 69 1 1) 65 true,
 gd (ld 67 2 66) 65 true,
 gd (bi 68 .neq 2 67 1) 65 true,
 pf 69 65 68]
def r108_23 : LP := [
 ab 2 false]
def r108_24 : LP := [
 fa 44 69 1 1,
 ld 45 2 44,
 bi 46 .neq 2 45 0]
def r108_25 : LP := [
 ab 2 false]
def r108_26 : LP := [
 fa 70 69 1 0,
 ld 71 3 70]
def r108_27 : LP := [
 bi 76 .eql 3 71 4,
 ag 75 76]
def r108_28 : LP := [
 bi 77 .eql 3 71 8,
 ag 75 77]
def r108_29 : LP := [
 bi 78 .eql 3 71 9,
 ag 75 78]
def r108_30 : LP := [
 bi 79 .eql 3 71 22,
 ag 75 79]
def r108_31 : LP := [
 fa 80 69 1 2,
 ld 81 9 80,
 cl 82 105 #[.tmp 81] #[9],
 nt 83 4 82]
def r108_32 : LP := [
 ab 2 false]
def r108_33 : LP := [
 bi 85 .eql 3 71 5,
 ag 84 85]
def r108_34 : LP := [
 bi 86 .eql 3 71 26,
 ag 84 86]
def r108_35 : LP := [
 fa 87 69 1 2,
 ld 88 9 87,
 cl 89 106 #[.tmp 88] #[9],
 nt 90 4 89]
def r108_36 : LP := [
 ab 2 false]
def r108_37 : LP := [
 bi 92 .eql 3 71 14,
 ag 91 92]
def r108_38 : LP := [
 fa 93 69 1 2,
 ld 94 9 93,
 bz 95 .neq 9 94 ⟨#[43]⟩,
 mv 96 95,
 gd (fa 97 69 1 2) 96 true,
 gd (ld 98 9 97) 96 true,
 gd (bz 99 .neq 9 98 ⟨#[45]⟩) 96 true,
 pf 100 96 99,
 mv 101 100,
 gd (fa 102 69 1 2) 101 true,
 gd (ld 103 9 102) 101 true,
 gd (bz 104 .neq 9 103 ⟨#[42]⟩) 101 true,
 pf 105 101 104,
 mv 106 105,
 gd (fa 107 69 1 2) 106 true,
 gd (ld 108 9 107) 106 true,
 gd (bz 109 .neq 9 108 ⟨#[60]⟩) 106 true,
 pf 110 106 109,
 mv 111 110,
 gd (fa 112 69 1 2) 111 true,
 gd (ld 113 9 112) 111 true,
 gd (bz 114 .neq 9 113 ⟨#[61]⟩) 111 true,
 pf 115 111 114]
def r108_39 : LP := [
 ab 2 false]
def r108_40 : LP := [
 fa 72 69 1 2,
 ld 73 9 72,
 bz 74 .neq 9 73 ⟨#[]⟩]
def r108_41 : LP := [
 ab 2 false]
def r108_42 : LP := [
 fa 116 69 1 0,
 ld 117 3 116,
 bi 118 .eql 3 117 6,
 mv 119 118,
 gd (fa 120 69 1 0) 119 false,
 gd (ld 121 3 120) 119 false,
 gd (bi 122 .eql 3 121 9) 119 false,
 pt 123 119 122,
 mv 124 123,
 gd (fa 125 69 1 0) 124 false,
 gd (ld 126 3 125) 124 false,
 gd (bi 127 .eql 3 126 20) 124 false,
 pt 128 124 127]
def r108_43 : LP := [
 fa 129 69 1 3,
 ld 130 9 129,
 cl 131 105 #[.tmp 130] #[9],
 ag 2 131]
def r108_44 : LP := [
 fa 132 69 1 3,
 ld 133 9 132,
 bz 134 .eql 9 133 ⟨#[]⟩,
 ag 2 134]
noncomputable def p108 : PC := (.seq (.reg [bx 1 69 0, ab 2 false]) (.seq (.reg [⟨some 5, .buildSlice 34 27 #[(0, (.const (.int .i64 (-1)))), (1, (.const (.int .i64 0))), (2, (.const (.int .i64 0))), (3, (.const (.int .i64 0))), (4, (.const (.int .i64 0))), (5, (.const (.int .i64 (-2)))), (6, (.const (.int .i64 1))), (7, (.const (.int .i64 2))), (8, (.const (.int .i64 2))), (9, (.const (.int .i64 2))), (10, (.const (.int .i64 3))), (11, (.const (.int .i64 (-3)))), (12, (.const (.int .i64 2))), (13, (.const (.int .i64 2))), (14, (.const (.int .i64 2))), (15, (.const (.int .i64 1))), (16, (.const (.int .i64 1))), (17, (.const (.int .i64 1))), (18, (.const (.int .i64 0))), (19, (.const (.int .i64 1))), (20, (.const (.int .i64 2))), (21, (.const (.int .i64 0))), (22, (.const (.int .i64 0))), (23, (.const (.int .i64 0))), (24, (.const (.int .i64 0))), (25, (.const (.int .i64 0))), (26, (.const (.int .i64 (-2))))], none⟩, ag 3 5]) (.seq (.seq (.reg [fa 6 69 1 0, ld 7 3 6, bi 8 .lss 3 7 1, mv 9 8, gd (fa 10 69 1 0) 9 false, gd (ld 11 3 10) 9 false, gd (bi 12 .gtr 3 11 26) 9 false, pt 13 9 12]) (.cond (.tmp 13) (.seq (.reg [ab 2 false]) .ret) .skip)) (.seq (.reg [fa 14 69 1 4, ld 15 34 14, ln 16 15 34, ag 4 16]) (.seq (.seq (.reg [mv 17 3, fa 18 69 1 0, ld 19 3 18, ia 20 34 17 19, ld 21 3 20]) (.block 0 (.seq (.reg [bi 30 .eql 3 21 (-2), ag 29 30]) (.cond (.tmp 29) (.seq (.reg [mv 31 4, bi 32 .gtr 3 31 3]) (.cond (.tmp 32) (.seq (.reg [ab 2 false]) .ret) .skip)) (.seq (.reg [bi 34 .eql 3 21 (-3), ag 33 34]) (.cond (.tmp 33) (.seq (.reg [mv 35 4, bi 36 .lss 3 35 3, mv 37 36, gd (mv 38 4) 37 false, gd (bi 39 .rem 3 38 2) 37 false, gd (bi 40 .eql 3 39 0) 37 false, pt 41 37 40]) (.cond (.tmp 41) (.seq (.reg [ab 2 false]) .ret) .skip)) (.seq (.reg [mv 22 4, mv 23 3, fa 24 69 1 0, ld 25 3 24, ia 26 34 23 25, ld 27 3 26, bo 28 .neq 3 22 27]) (.cond (.tmp 28) (.seq (.reg [ab 2 false]) .ret) .skip)))))))) (.seq (.seq (.reg r108_14) (.block 1 (.seq (.seq (.reg r108_15) (.cond (.tmp 47) .skip (.reg r108_16))) (.cond (.tmp 47) (.seq (.draw d108_0) (.cond (.tmp 58) (.seq (.reg r108_19) .ret) .skip)) (.seq (.seq (.reg r108_20) (.cond (.tmp 59) .skip (.reg r108_21))) (.cond (.tmp 59) (.seq (.reg r108_22) (.cond (.tmp 69) (.seq (.reg r108_23) .ret) .skip)) (.seq (.reg r108_24) (.cond (.tmp 46) (.seq (.reg r108_25) .ret) .skip)))))))) (.seq (.seq (.reg r108_26) (.block 2 (.seq (.seq (.reg r108_27) (.cond (.tmp 75) .skip (.seq (.reg r108_28) (.cond (.tmp 75) .skip (.seq (.reg r108_29) (.cond (.tmp 75) .skip (.reg r108_30))))))) (.cond (.tmp 75) (.seq (.reg r108_31) (.cond (.tmp 83) (.seq (.reg r108_32) .ret) .skip)) (.seq (.seq (.reg r108_33) (.cond (.tmp 84) .skip (.reg r108_34))) (.cond (.tmp 84) (.seq (.reg r108_35) (.cond (.tmp 90) (.seq (.reg r108_36) .ret) .skip)) (.seq (.reg r108_37) (.cond (.tmp 91) (.seq (.reg r108_38) (.cond (.tmp 115) (.seq (.reg r108_39) .ret) .skip)) (.seq (.reg r108_40) (.cond (.tmp 74) (.seq (.reg r108_41) .ret) .skip)))))))))) (.seq (.seq (.reg r108_42) (.cond (.tmp 128) (.seq (.reg r108_43) .ret) .skip)) (.seq (.reg r108_44) .ret)))))))))
theorem ev108 : EvC 108 135 p108 [.tmp 2] := bG Tryz.f108 (by kernel_rfl)
theorem P108 : type_of% (B6 r108_14.eq_1 r108_15.eq_1 r108_16.eq_1 r108_17.eq_1 r108_18.eq_1 r108_19.eq_1 <| B6 r108_20.eq_1 r108_21.eq_1 r108_22.eq_1 r108_23.eq_1 r108_24.eq_1 r108_25.eq_1 <| B6 r108_26.eq_1 r108_27.eq_1 r108_28.eq_1 r108_29.eq_1 r108_30.eq_1 r108_31.eq_1 <| B6 r108_32.eq_1 r108_33.eq_1 r108_34.eq_1 r108_35.eq_1 r108_36.eq_1 r108_37.eq_1 <| B6 r108_38.eq_1 r108_39.eq_1 r108_40.eq_1 r108_41.eq_1 r108_42.eq_1 r108_43.eq_1 <| B6 r108_44.eq_1 p108.eq_1 @load2 @load3 @load9 @load34 <| An @bs34 <| An @index34 <| An @len34 <| An @call105 <| @call106) := B6 r108_14.eq_1 r108_15.eq_1 r108_16.eq_1 r108_17.eq_1 r108_18.eq_1 r108_19.eq_1 <| B6 r108_20.eq_1 r108_21.eq_1 r108_22.eq_1 r108_23.eq_1 r108_24.eq_1 r108_25.eq_1 <| B6 r108_26.eq_1 r108_27.eq_1 r108_28.eq_1 r108_29.eq_1 r108_30.eq_1 r108_31.eq_1 <| B6 r108_32.eq_1 r108_33.eq_1 r108_34.eq_1 r108_35.eq_1 r108_36.eq_1 r108_37.eq_1 <| B6 r108_38.eq_1 r108_39.eq_1 r108_40.eq_1 r108_41.eq_1 r108_42.eq_1 r108_43.eq_1 <| B6 r108_44.eq_1 p108.eq_1 @load2 @load3 @load9 @load34 <| An @bs34 <| An @index34 <| An @len34 <| An @call105 <| @call106
noncomputable def p105 : PC := (.seq (.reg [ab 2 false]) (.seq (.reg [mv 3 0, cl 4 138 #[.tmp 3] #[9], mv 5 4, gd (mv 6 0) 5 true, gd (bz 7 .neq 9 6 ⟨#[95]⟩) 5 true, pf 8 5 7, ag 2 8]) .ret))
theorem ev105 : EvC 105 9 p105 [.tmp 2] := bG Tryz.f105 (by kernel_rfl)
theorem P105 : type_of% (An p105.eq_1 <| @call138) := An p105.eq_1 <| @call138
noncomputable def p139 : PC := (.seq (.reg [ai 0 0]) (.seq (.reg [ai 0 4611686018427387903]) .ret))
theorem ev139 : EvC 139 1 p139 [.tmp 0] := bG Tryz.f139 (by kernel_rfl)
theorem P139 : type_of% (p139.eq_1) := p139.eq_1
noncomputable def p138 : PC := (.seq (.reg [ab 2 false]) (.seq (.reg [mv 7 0, cl 8 77 #[.tmp 7] #[9], mv 6 8, ex 9 6 0, ex 10 6 1, ex 11 6 2, ag 3 9, ag 4 10, ag 5 11]) (.seq (.reg [mv 12 4, bi 13 .eql 66 12 0, mv 14 13, gd (mv 15 3) 14 true, gd (ln 16 15 131) 14 true, gd (bi 17 .eql 3 16 1) 14 true, pf 18 14 17, mv 19 18, gd (mv 20 3) 19 true, gd (ik 21 131 20 0) 19 true, gd (fa 22 141 21 0) 19 true, gd (ld 23 3 22) 19 true, gd (bi 24 .eql 3 23 2) 19 true, pf 25 19 24, mv 26 25, gd (mv 27 3) 26 true, gd (ik 28 131 27 0) 26 true, gd (fa 29 141 28 1) 26 true, gd (ld 30 9 29) 26 true, gd (mv 31 0) 26 true, gd (bo 32 .eql 9 30 31) 26 true, pf 33 26 32, ag 2 33]) .ret)))
theorem ev138 : EvC 138 34 p138 [.tmp 2] := bG Tryz.f138 (by kernel_rfl)
theorem P138 : type_of% (An p138.eq_1 <| An @load3 <| An @load9 <| An @index131 <| An @len131 <| @call77) := An p138.eq_1 <| An @load3 <| An @load9 <| An @index131 <| An @len131 <| @call77
noncomputable def p106 : PC := (.seq (.reg [ab 2 false]) (.seq (.reg [mv 7 0, cl 8 77 #[.tmp 7] #[9], mv 6 8, ex 9 6 0, ex 10 6 1, ex 11 6 2, ag 3 9, ag 4 10, ag 5 11]) (.seq (.reg [mv 12 4, bi 13 .eql 66 12 0, mv 14 13, gd (mv 15 3) 14 true, gd (ln 16 15 131) 14 true, gd (bi 17 .eql 3 16 1) 14 true, pf 18 14 17, mv 19 18, gd (mv 20 3) 19 true, gd (ik 21 131 20 0) 19 true, gd (fa 22 141 21 0) 19 true, gd (ld 23 3 22) 19 true, gd (bi 24 .eql 3 23 3) 19 true, pf 25 19 24, mv 26 25, gd (mv 27 3) 26 true, gd (ik 28 131 27 0) 26 true, gd (fa 29 141 28 1) 26 true, gd (ld 30 9 29) 26 true, gd (mv 31 0) 26 true, gd (bo 32 .eql 9 30 31) 26 true, pf 33 26 32, ag 2 33]) .ret)))
theorem ev106 : EvC 106 34 p106 [.tmp 2] := bG Tryz.f106 (by kernel_rfl)
theorem P106 : type_of% (An p106.eq_1 <| An @load3 <| An @load9 <| An @index131 <| An @len131 <| @call77) := An p106.eq_1 <| An @load3 <| An @load9 <| An @index131 <| An @len131 <| @call77
def r77_14 : LP := [
 mv 56 0,
 mv 57 6,
 cl 58 125 #[.tmp 56, .tmp 57] #[9, 3],
 mv 55 58,
 ex 59 55 0,
 ex 60 55 1,
 al 10 141,
 sto 141 10 59,
 ag 11 60]
def r77_15 : LP := [
 mv 61 11,
 nt 62 4 61]
def r77_16 : LP := [
 mv 63 6,
 an 2,
 ai 3 3,
 ag 4 63]
def r77_17 : LP := [
 mv 64 5,
 ln 65 64 131,
 bi 66 .eql 3 65 2000]
def r77_18 : LP := [
 mv 67 6,
 an 2,
 ai 3 2,
 ag 4 67]
def r77_19 : LP := [
 mv 68 5,
 ld 69 141 10,
 b1 70 131 69,
 ap 71 68 70 131,
 ag 5 71]
def r77_20 : LP := [
 fa 72 141 10 3,
 ld 73 3 72,
 ag 6 73]
noncomputable def b77_21 : PC := (.seq (.seq (.reg [mv 15 6, mv 16 0, ln 17 16 9, bo 18 .lss 3 15 17]) (.cond (.tmp 18) .skip (.exit 0))) (.block 1 (.seq (.reg [mv 20 0, mv 21 6, ⟨some 22, .slice 9 (.tmp 20) (some (.tmp 21)) none none, none⟩, cl 23 122 #[.tmp 22] #[9], mv 19 23, ex 24 19 0, ex 25 19 1, ag 7 24, ag 8 25]) (.seq (.seq (.reg [mv 26 7, cl 27 123 #[.tmp 26] #[21], bi 28 .eql 3 27 3]) (.cond (.tmp 28) (.seq (.reg [mv 29 6, mv 30 8, bo 31 .add 3 29 30, ag 6 31]) (.exit 1)) .skip)) (.seq (.seq (.reg [mv 32 7, ⟨some 33, .binOp .eql 21 (.tmp 32) (.const (.int .i32 40)) 21, none⟩, mv 34 33, gd (mv 35 6) 34 true, gd (bi 36 .add 3 35 1) 34 true, gd (mv 37 0) 34 true, gd (ln 38 37 9) 34 true, gd (bo 39 .lss 3 36 38) 34 true, pf 40 34 39, mv 41 40, gd (mv 42 0) 41 true, gd (mv 43 6) 41 true, gd (bi 44 .add 3 43 1) 41 true, gd (ix 45 9 42 44) 41 true, gd (bu 46 5 45 42) 41 true, pf 47 41 46]) (.cond (.tmp 47) (.seq (.reg [mv 48 0, mv 49 6, cl 50 124 #[.tmp 48, .tmp 49] #[9, 3], ag 9 50]) (.seq (.seq (.reg [mv 51 9, bi 52 .lss 3 51 0]) (.cond (.tmp 52) (.seq (.reg [mv 53 6, an 2, ai 3 3, ag 4 53]) .ret) .skip)) (.seq (.reg [mv 54 9, ag 6 54]) (.exit 1)))) .skip)) (.seq (.reg r77_14) (.seq (.seq (.reg r77_15) (.cond (.tmp 62) (.seq (.reg r77_16) .ret) .skip)) (.seq (.seq (.reg r77_17) (.cond (.tmp 66) (.seq (.reg r77_18) .ret) .skip)) (.seq (.reg r77_19) (.reg r77_20))))))))))
noncomputable def p77 : PC := (.seq (.reg [an 2, ai 3 0, ai 4 0]) (.seq (.seq (.reg [mv 12 0, ln 13 12 9, bi 14 .gtr 3 13 4000]) (.cond (.tmp 14) (.seq (.reg [an 2, ai 3 2, ai 4 0]) .ret) .skip)) (.seq (.reg [an 5]) (.seq (.reg [ai 6 0]) (.seq (.block 0 (.loop b77_21)) (.seq (.reg [mv 74 5, ag 2 74, ai 3 0, ai 4 0]) .ret))))))
theorem ev77 : EvC 77 75 p77 [.tmp 2, .tmp 3, .tmp 4] := bG Tryz.f77 (by kernel_rfl)
theorem P77 : type_of% (B6 r77_14.eq_1 r77_15.eq_1 r77_16.eq_1 r77_17.eq_1 r77_18.eq_1 r77_19.eq_1 <| B6 r77_20.eq_1 p77.eq_1 @load3 @bs131 @app131 @len131 <| An @load141 <| An @store141 <| An @call122 <| An @call123 <| An @call124 <| @call125) := B6 r77_14.eq_1 r77_15.eq_1 r77_16.eq_1 r77_17.eq_1 r77_18.eq_1 r77_19.eq_1 <| B6 r77_20.eq_1 p77.eq_1 @load3 @bs131 @app131 @len131 <| An @load141 <| An @store141 <| An @call122 <| An @call123 <| An @call124 <| @call125
noncomputable def b125_25 : PC := (.seq (.seq (.reg [fa 57 141 8 3, ld 58 3 57, mv 59 0, ln 60 59 9, bo 61 .lss 3 58 60, mv 62 61, gd (mv 63 0) 62 true, gd (fa 64 141 8 3) 62 true, gd (ld 65 3 64) 62 true, gd (ix 66 9 63 65) 62 true, ⟨some 67, .binOp .geq 5 (.tmp 66) (.const (.int .u8 48)) 5, some (62, true)⟩, pf 68 62 67, mv 69 68, gd (mv 70 0) 69 true, gd (fa 71 141 8 3) 69 true, gd (ld 72 3 71) 69 true, gd (ix 73 9 70 72) 69 true, ⟨some 74, .binOp .leq 5 (.tmp 73) (.const (.int .u8 57)) 5, some (69, true)⟩, pf 75 69 74]) (.cond (.tmp 75) .skip (.exit 2))) (.seq (.block 3 (.seq (.seq (.reg [mv 80 9, ⟨some 81, .binOp .gtr 202 (.tmp 80) (.const (.int .u64 461168601842738790)) 202, none⟩]) (.cond (.tmp 81) (.seq (.reg [ld 82 141 8, sto 141 4 82, ab 5 false]) .ret) .skip)) (.seq (.reg [mv 83 9, ⟨some 84, .binOp .mul 202 (.tmp 83) (.const (.int .u64 10)) 202, none⟩, mv 85 0, fa 86 141 8 3, ld 87 3 86, ix 88 9 85 87, ⟨some 89, .binOp .sub 5 (.tmp 88) (.const (.int .u8 48)) 5, none⟩, cv 90 5 202 89, bo 91 .add 202 84 90, ag 9 91]) (.seq (.reg [mv 92 9, ⟨some 93, .binOp .gtr 202 (.tmp 92) (.const (.int .u64 4611686018427387903)) 202, none⟩]) (.cond (.tmp 93) (.seq (.reg [ld 94 141 8, sto 141 4 94, ab 5 false]) .ret) .skip))))) (.reg [fa 76 141 8 3, ld 77 3 76, bi 78 .add 3 77 1, fa 79 141 8 3, sto 3 79 78])))
def r125_26 : LP := [
 mv 95 0,
 mv 96 1,
 fa 97 141 8 3,
 ld 98 3 97,
 ⟨some 99, .slice 9 (.tmp 95) (some (.tmp 96)) (some (.tmp 98)) none, none⟩,
 fa 100 141 8 0,
 ⟨none, .store 3 (.tmp 100) (.const (.int .i64 1)), none⟩]
def r125_27 : LP := [
 fa 101 141 8 1,
 sto 9 101 99]
noncomputable def d125_0 : Array Oper := match Tryz.f125.body.map (eH E Tryz.f125.ntmps) with | some p => p.draws.getD 0 #[] | none => #[]
theorem wi1 : DrawC E 156 d125_0 9 7 r125_26 r125_27 [(.tmp 95)] := ⟨by kernel_rfl, by decide, by kernel_rfl, by kernel_rfl, by kernel_rfl, by kernel_rfl, by kernel_rfl⟩
def r125_34 : LP := [
 ld 146 141 8,
 fa 147 141 8 1,
 ld 148 9 147,
 bz 149 .neq 9 148 ⟨#[62]⟩,
 mv 150 149,
 gd (fa 151 141 8 1) 150 true,
 gd (ld 152 9 151) 150 true,
 gd (bz 153 .neq 9 152 ⟨#[58]⟩) 150 true,
 pf 154 150 153,
 sto 141 4 146]
def r125_35 : LP := [
 ag 5 154]
noncomputable def d125_1 : Array Oper := match Tryz.f125.body.map (eH E Tryz.f125.ntmps) with | some p => p.draws.getD 1 #[] | none => #[]
theorem wi0 : DrawC E 156 d125_1 11 10 r125_34 r125_35 [(.tmp 151)] := ⟨by kernel_rfl, by decide, by kernel_rfl, by kernel_rfl, by kernel_rfl, by kernel_rfl, by kernel_rfl⟩
noncomputable def p125 : PC := (.seq (.reg [al 4 141, ab 5 false]) (.seq (.reg [mv 11 0, mv 12 1, ⟨some 13, .slice 9 (.tmp 11) (some (.tmp 12)) none none, none⟩, cl 14 122 #[.tmp 13] #[9], mv 10 14, ex 15 10 0, ex 16 10 1, ag 6 15, ag 7 16]) (.seq (.reg [mv 17 1, mv 18 1, mv 19 7, bo 20 .add 3 18 19, ⟨some 21, .build 141 #[(2, (.tmp 17)), (3, (.tmp 20))], none⟩, al 8 141, sto 141 8 21]) (.seq (.seq (.reg [mv 22 6, cl 23 123 #[.tmp 22] #[21]]) (.block 0 (.seq (.reg [bi 25 .eql 3 23 1, ag 24 25]) (.cond (.tmp 24) (.seq (.seq (.reg [mv 26 6, ⟨some 27, .binOp .eql 21 (.tmp 26) (.const (.int .i32 39)) 21, none⟩]) (.cond (.tmp 27) (.seq (.reg [ld 28 141 8, sto 141 4 28, ab 5 false]) .ret) .skip)) (.seq (.reg [mv 29 1, mv 30 0, mv 31 1, ⟨some 32, .slice 9 (.tmp 30) (some (.tmp 31)) none none, none⟩, cl 33 149 #[.tmp 32] #[9], bo 34 .add 3 29 33, fa 35 141 8 3, sto 3 35 34]) (.seq (.reg [mv 36 0, mv 37 1, fa 38 141 8 3, ld 39 3 38, ⟨some 40, .slice 9 (.tmp 36) (some (.tmp 37)) (some (.tmp 39)) none, none⟩, fa 41 141 8 1, sto 9 41 40]) (.seq (.block 1 (.seq (.reg [mv 44 6, cl 45 150 #[.tmp 44] #[21], ag 43 45]) (.cond (.tmp 43) (.reg [fa 46 141 8 0, ⟨none, .store 3 (.tmp 46) (.const (.int .i64 3)), none⟩]) (.seq (.reg [fa 48 141 8 1, ld 49 9 48, cl 50 151 #[.tmp 49] #[9], ag 47 50]) (.cond (.tmp 47) (.reg [fa 51 141 8 0, ⟨none, .store 3 (.tmp 51) (.const (.int .i64 4)), none⟩]) (.reg [fa 42 141 8 0, ⟨none, .store 3 (.tmp 42) (.const (.int .i64 2)), none⟩])))))) (.seq (.reg [ld 52 141 8, sto 141 4 52, ab 5 true]) .ret))))) (.seq (.reg [bi 54 .eql 3 23 2, ag 53 54]) (.cond (.tmp 53) (.seq (.reg [⟨some 9, .assign (.const (.int .u64 0)), none⟩]) (.seq (.seq (.reg [mv 55 1, fa 56 141 8 3, sto 3 56 55]) (.block 2 (.loop b125_25))) (.seq (.draw d125_0) (.seq (.reg [ld 102 141 8, sto 141 4 102, ab 5 true]) .ret)))) (.seq (.reg [bi 104 .eql 3 23 4, ag 103 104]) (.cond (.tmp 103) (.seq (.reg [fa 105 141 8 0, ⟨none, .store 3 (.tmp 105) (.const (.int .i64 5)), none⟩]) (.seq (.seq (.reg [mv 106 1, bi 107 .add 3 106 1, mv 108 0, ln 109 108 9, bo 110 .lss 3 107 109, mv 111 110, gd (mv 112 0) 111 true, gd (mv 113 1) 111 true, gd (ix 114 9 112 113) 111 true, gd (bu 115 5 114 58) 111 true, gd (mv 116 115) 111 true, gd (mv 117 0) 116 true, gd (mv 118 1) 116 true, gd (bi 119 .add 3 118 1) 116 true, gd (ix 120 9 117 119) 116 true, gd (bu 121 5 120 61) 116 true, gd (pf 122 116 121) 111 true, gd (mv 123 122) 111 true, gd (mv 124 0) 123 false, gd (mv 125 1) 123 false, gd (ix 126 9 124 125) 123 false, gd (bu 127 5 126 45) 123 false, gd (mv 128 127) 123 false, gd (mv 129 0) 128 true, gd (mv 130 1) 128 true, gd (bi 131 .add 3 130 1) 128 true, gd (ix 132 9 129 131) 128 true, gd (bu 133 5 132 62) 128 true, gd (pf 134 128 133) 123 false, gd (pt 135 123 134) 111 true, pf 136 111 135]) (.cond (.tmp 136) (.reg [mv 137 1, bi 138 .add 3 137 2, fa 139 141 8 3, sto 3 139 138]) .skip)) (.seq (.reg [mv 140 0, mv 141 1, fa 142 141 8 3, ld 143 3 142, ⟨some 144, .slice 9 (.tmp 140) (some (.tmp 141)) (some (.tmp 143)) none, none⟩, fa 145 141 8 1, sto 9 145 144]) (.seq (.draw d125_1) .ret)))) .skip)))))))) (.seq (.reg [ld 155 141 8, sto 141 4 155, ab 5 false]) .ret)))))
theorem ev125 : EvC 125 156 p125 [.cell 4 141, .tmp 5] := bG Tryz.f125 (by kernel_rfl)
theorem P125 : type_of% (B6 r125_26.eq_1 r125_27.eq_1 r125_34.eq_1 r125_35.eq_1 p125.eq_1 @load3 <| B6 @store3 @load9 @store9 @load141 @store141 @yg5 <| An @call122 <| An @call123 <| An @call149 <| An @call150 <| @call151) := B6 r125_26.eq_1 r125_27.eq_1 r125_34.eq_1 r125_35.eq_1 p125.eq_1 @load3 <| B6 @store3 @load9 @store9 @load141 @store141 @yg5 <| An @call122 <| An @call123 <| An @call149 <| An @call150 <| @call151
noncomputable def b124_12 : PC := (.seq (.seq (.reg [mv 6 1, mv 7 0, ln 8 7 9, bo 9 .lss 3 6 8]) (.cond (.tmp 9) .skip (.exit 0))) (.block 1 (.block 2 (.seq (.reg [mv 13 1, bi 14 .add 3 13 1, mv 15 0, ln 16 15 9, bo 17 .lss 3 14 16, mv 18 17, gd (mv 19 0) 18 true, gd (mv 20 1) 18 true, gd (ix 21 9 19 20) 18 true, gd (bu 22 5 21 40) 18 true, pf 23 18 22, mv 24 23, gd (mv 25 0) 24 true, gd (mv 26 1) 24 true, gd (bi 27 .add 3 26 1) 24 true, gd (ix 28 9 25 27) 24 true, gd (bu 29 5 28 42) 24 true, pf 30 24 29, ag 12 30]) (.cond (.tmp 12) (.seq (.reg [mv 31 5, bi 32 .add 3 31 1, ag 5 32]) (.reg [mv 33 1, bi 34 .add 3 33 2, ag 1 34])) (.seq (.reg [mv 36 1, bi 37 .add 3 36 1, mv 38 0, ln 39 38 9, bo 40 .lss 3 37 39, mv 41 40, gd (mv 42 0) 41 true, gd (mv 43 1) 41 true, gd (ix 44 9 42 43) 41 true, gd (bu 45 5 44 42) 41 true, pf 46 41 45, mv 47 46, gd (mv 48 0) 47 true, gd (mv 49 1) 47 true, gd (bi 50 .add 3 49 1) 47 true, gd (ix 51 9 48 50) 47 true, gd (bu 52 5 51 41) 47 true, pf 53 47 52, ag 35 53]) (.cond (.tmp 35) (.seq (.reg [mv 54 5, bi 55 .sub 3 54 1, ag 5 55]) (.seq (.reg [mv 56 1, bi 57 .add 3 56 2, ag 1 57]) (.seq (.reg [mv 58 5, bi 59 .eql 3 58 0]) (.cond (.tmp 59) (.seq (.reg [mv 60 1, ag 4 60]) .ret) .skip)))) (.reg [mv 10 1, bi 11 .add 3 10 1, ag 1 11]))))))))
noncomputable def p124 : PC := (.seq (.reg [ai 4 0]) (.seq (.reg [ai 5 0]) (.seq (.block 0 (.loop b124_12)) (.seq (.reg [ai 4 (-1)]) .ret))))
theorem ev124 : EvC 124 61 p124 [.tmp 4] := bG Tryz.f124 (by kernel_rfl)
theorem P124 : type_of% (p124.eq_1) := p124.eq_1
noncomputable def b122_12 : PC := (.seq (.reg [⟨some 13, .next (.tmp 12) true, none⟩, ex 14 13 0]) (.seq (.cond (.tmp 14) .skip (.exit 0)) (.block 1 (.seq (.reg [ex 15 13 1, ex 16 13 2, ag 7 15, ag 8 16]) (.seq (.seq (.reg [mv 17 6, bi 18 .eql 3 17 0]) (.cond (.tmp 18) (.reg [mv 19 8, ag 5 19]) .skip)) (.seq (.seq (.reg [mv 20 6, bi 21 .eql 3 20 1]) (.cond (.tmp 21) (.seq (.reg [mv 22 7, ag 4 22]) (.exit 0)) .skip)) (.reg [mv 23 6, bi 24 .add 3 23 1, ag 6 24])))))))
noncomputable def p122 : PC := (.seq (.reg [⟨some 2, .assign (.const (.int .i32 0)), none⟩, ai 3 0]) (.seq (.reg [mv 9 0, ln 10 9 9, ag 4 10]) (.seq (.reg [⟨some 5, .assign (.const (.int .i32 0)), none⟩]) (.seq (.reg [ai 6 0]) (.seq (.seq (.reg [mv 11 0, ⟨some 12, .range 9 (.tmp 11), none⟩]) (.block 0 (.loop b122_12))) (.seq (.reg [mv 25 5, mv 26 4, ag 2 25, ag 3 26]) .ret))))))
theorem ev122 : EvC 122 27 p122 [.tmp 2, .tmp 3] := bG Tryz.f122 (by kernel_rfl)
theorem P122 : type_of% (p122.eq_1) := p122.eq_1
noncomputable def b149_7 : PC := (.seq (.reg [⟨some 8, .next (.tmp 7) true, none⟩, ex 9 8 0]) (.seq (.cond (.tmp 9) .skip (.exit 0)) (.block 1 (.seq (.reg [ex 10 8 1, ex 11 8 2, ag 3 10, ag 4 11]) (.seq (.reg [mv 12 4, cl 13 123 #[.tmp 12] #[21], ag 5 13]) (.seq (.reg [mv 14 5, bi 15 .neq 3 14 1, mv 16 15, gd (mv 17 5) 16 true, gd (bi 18 .neq 3 17 2) 16 true, pf 19 16 18]) (.cond (.tmp 19) (.seq (.reg [mv 20 3, ag 2 20]) .ret) .skip)))))))
noncomputable def p149 : PC := (.seq (.reg [ai 2 0]) (.seq (.seq (.reg [mv 6 0, ⟨some 7, .range 9 (.tmp 6), none⟩]) (.block 0 (.loop b149_7))) (.seq (.reg [mv 21 0, ln 22 21 9, ag 2 22]) .ret)))
theorem ev149 : EvC 149 23 p149 [.tmp 2] := bG Tryz.f149 (by kernel_rfl)
theorem P149 : type_of% (An p149.eq_1 <| @call123) := An p149.eq_1 <| @call123
noncomputable def b151_7 : PC := (.seq (.seq (.reg [mv 6 4, mv 7 3, ln 8 7 31, bo 9 .lss 3 6 8]) (.cond (.tmp 9) .skip (.exit 0))) (.seq (.block 1 (.seq (.reg [mv 12 3, mv 13 4, ia 14 31 12 13, ld 15 9 14, mv 16 0, bo 17 .eql 9 15 16]) (.cond (.tmp 17) (.seq (.reg [ab 2 true]) .ret) .skip))) (.reg [mv 10 4, bi 11 .add 3 10 1, ag 4 11])))
noncomputable def p151 : PC := (.seq (.reg [ab 2 false]) (.seq (.reg [⟨some 5, .buildSlice 31 19 #[(0, (.const (.string ⟨#[116, 121, 112, 101]⟩))), (1, (.const (.string ⟨#[111, 102]⟩))), (2, (.const (.string ⟨#[108, 101, 116]⟩))), (3, (.const (.string ⟨#[114, 101, 99]⟩))), (4, (.const (.string ⟨#[105, 110]⟩))), (5, (.const (.string ⟨#[102, 117, 110]⟩))), (6, (.const (.string ⟨#[105, 102]⟩))), (7, (.const (.string ⟨#[116, 104, 101, 110]⟩))), (8, (.const (.string ⟨#[101, 108, 115, 101]⟩))), (9, (.const (.string ⟨#[109, 97, 116, 99, 104]⟩))), (10, (.const (.string ⟨#[119, 105, 116, 104]⟩))), (11, (.const (.string ⟨#[101, 110, 100]⟩))), (12, (.const (.string ⟨#[114, 101, 102]⟩))), (13, (.const (.string ⟨#[112, 114, 105, 110, 116]⟩))), (14, (.const (.string ⟨#[114, 101, 97, 100]⟩))), (15, (.const (.string ⟨#[114, 97, 105, 115, 101]⟩))), (16, (.const (.string ⟨#[116, 114, 121]⟩))), (17, (.const (.string ⟨#[116, 114, 117, 101]⟩))), (18, (.const (.string ⟨#[102, 97, 108, 115, 101]⟩)))], none⟩, ag 3 5]) (.seq (.seq (.reg [ai 4 0]) (.block 0 (.loop b151_7))) (.seq (.reg [ab 2 false]) .ret))))
theorem ev151 : EvC 151 18 p151 [.tmp 2] := bG Tryz.f151 (by kernel_rfl)
theorem P151 : type_of% (An p151.eq_1 <| An @load9 <| An @bs31 <| An @index31 <| @len31) := An p151.eq_1 <| An @load9 <| An @bs31 <| An @index31 <| @len31
def r123_0 : LP := [
 ai 2 0]
def r123_1 : LP := [
 mv 6 0,
 ⟨some 7, .binOp .eql 21 (.tmp 6) (.const (.int .i32 95)) 21, none⟩,
 mv 8 7,
 gd (mv 9 0) 8 false,
 ⟨some 10, .binOp .eql 21 (.tmp 9) (.const (.int .i32 39)) 21, some (8, false)⟩,
 pt 11 8 10,
 mv 12 11,
 gd (mv 13 0) 12 false,
 gd (cl 14 148 #[.tmp 13] #[21]) 12 false,
 pt 15 12 14,
 ag 5 15]
def r123_2 : LP := [
 ai 2 1]
def r123_3 : LP := [
 mv 17 0,
 ⟨some 18, .binOp .geq 21 (.tmp 17) (.const (.int .i32 48)) 21, none⟩,
 mv 19 18,
 gd (mv 20 0) 19 true,
 ⟨some 21, .binOp .leq 21 (.tmp 20) (.const (.int .i32 57)) 21, some (19, true)⟩,
 pf 22 19 21,
 ag 16 22]
def r123_4 : LP := [
 ai 2 2]
def r123_5 : LP := [
 mv 24 0,
 ⟨some 25, .binOp .eql 21 (.tmp 24) (.const (.int .i32 32)) 21, none⟩,
 mv 26 25,
 gd (mv 27 0) 26 false,
 ⟨some 28, .binOp .eql 21 (.tmp 27) (.const (.int .i32 9)) 21, some (26, false)⟩,
 pt 29 26 28,
 mv 30 29,
 gd (mv 31 0) 30 false,
 ⟨some 32, .binOp .eql 21 (.tmp 31) (.const (.int .i32 10)) 21, some (30, false)⟩,
 pt 33 30 32,
 mv 34 33,
 gd (mv 35 0) 34 false,
 ⟨some 36, .binOp .eql 21 (.tmp 35) (.const (.int .i32 13)) 21, some (34, false)⟩,
 pt 37 34 36,
 ag 23 37]
def r123_6 : LP := [
 ai 2 3]
def r123_7 : LP := [
 sz 3 ⟨#[40, 41, 44, 59, 61, 60, 62, 43, 45, 42, 124, 33, 58]⟩]
def r123_8 : LP := [
 ai 4 0]
def r123_9 : LP := [
 mv 38 4,
 mv 39 3,
 ln 40 39 9,
 bo 41 .lss 3 38 40]
def r123_10 : LP := [
 mv 44 0,
 mv 45 3,
 mv 46 4,
 ix 47 9 45 46,
 cv 48 5 21 47,
 bo 49 .eql 21 44 48]
def r123_11 : LP := [
 ai 2 4]
def r123_12 : LP := [
 mv 42 4,
 bi 43 .add 3 42 1,
 ag 4 43]
noncomputable def b123_13 : PC := (.seq (.seq (.reg r123_9) (.cond (.tmp 41) .skip (.exit 1))) (.seq (.block 2 (.seq (.reg r123_10) (.cond (.tmp 49) (.seq (.reg r123_11) .ret) .skip))) (.reg r123_12)))
def r123_14 : LP := [
 ai 2 0]
noncomputable def p123 : PC := (.seq (.reg r123_0) (.seq (.block 0 (.seq (.reg r123_1) (.cond (.tmp 5) (.seq (.reg r123_2) .ret) (.seq (.reg r123_3) (.cond (.tmp 16) (.seq (.reg r123_4) .ret) (.seq (.reg r123_5) (.cond (.tmp 23) (.seq (.reg r123_6) .ret) .skip))))))) (.seq (.reg r123_7) (.seq (.seq (.reg r123_8) (.block 1 (.loop b123_13))) (.seq (.reg r123_14) .ret)))))
theorem ev123 : EvC 123 50 p123 [.tmp 2] := bG Tryz.f123 (by kernel_rfl)
theorem P123 : type_of% (B6 r123_0.eq_1 r123_1.eq_1 r123_2.eq_1 r123_3.eq_1 r123_4.eq_1 r123_5.eq_1 <| B6 r123_6.eq_1 r123_7.eq_1 r123_8.eq_1 r123_9.eq_1 r123_10.eq_1 r123_11.eq_1 <| An r123_12.eq_1 <| An r123_14.eq_1 <| An p123.eq_1 <| An @zy0 <| @call148) := B6 r123_0.eq_1 r123_1.eq_1 r123_2.eq_1 r123_3.eq_1 r123_4.eq_1 r123_5.eq_1 <| B6 r123_6.eq_1 r123_7.eq_1 r123_8.eq_1 r123_9.eq_1 r123_10.eq_1 r123_11.eq_1 <| An r123_12.eq_1 <| An r123_14.eq_1 <| An p123.eq_1 <| An @zy0 <| @call148
noncomputable def p115 : PC := (.seq (.reg [sz 2 ⟨#[]⟩]) (.seq (.seq (.reg [mv 4 0, bi 5 .lss 2 4 0]) (.cond (.tmp 5) (.seq (.reg [mv 6 0, ⟨some 7, .unOp .neg 2 (.tmp 6), none⟩, cv 8 2 202 7, ag 3 8]) (.seq (.seq (.reg [mv 9 3, ⟨some 10, .binOp .geq 202 (.tmp 9) (.const (.int .u64 10)) 202, none⟩]) (.cond (.tmp 10) (.seq (.reg [mv 11 3, ⟨some 12, .binOp .quo 202 (.tmp 11) (.const (.int .u64 10)) 202, none⟩, cv 13 202 2 12, cl 14 115 #[.tmp 13] #[2], zb 15 .add 9 ⟨#[45]⟩ 14, mv 16 3, ⟨some 17, .binOp .rem 202 (.tmp 16) (.const (.int .u64 10)) 202, none⟩, cv 18 202 2 17, cl 19 115 #[.tmp 18] #[2], bo 20 .add 9 15 19, ag 2 20]) .ret) .skip)) (.seq (.reg [mv 21 3, cv 22 202 2 21, cl 23 115 #[.tmp 22] #[2], zb 24 .add 9 ⟨#[45]⟩ 23, ag 2 24]) .ret))) .skip)) (.seq (.seq (.reg [mv 25 0, bi 26 .lss 2 25 10]) (.cond (.tmp 26) (.seq (.reg [mv 27 0, ⟨some 28, .binOp .add 2 (.const (.int .i64 48)) (.tmp 27) 2, none⟩, cv 29 2 5 28, b1 30 110 29, cv 31 110 9 30, ag 2 31]) .ret) .skip)) (.seq (.reg [mv 32 0, bi 33 .quo 2 32 10, cl 34 115 #[.tmp 33] #[2], mv 35 0, bi 36 .rem 2 35 10, cl 37 115 #[.tmp 36] #[2], bo 38 .add 9 34 37, ag 2 38]) .ret))))
theorem ev115 : EvC 115 39 p115 [.tmp 2] := bG Tryz.f115 (by kernel_rfl)
theorem P115 : type_of% (An p115.eq_1 <| An @bs110 <| An @yu7 <| @call115) := An p115.eq_1 <| An @bs110 <| An @yu7 <| @call115
end Go.Proofs.YthjaoinieikjdaaGreatDoor
