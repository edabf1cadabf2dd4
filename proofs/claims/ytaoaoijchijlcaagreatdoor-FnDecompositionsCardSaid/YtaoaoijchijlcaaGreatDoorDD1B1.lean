/-
  DD1B1: a part of a proof of this seat: the value-level semantics of Go code without maps, its walk rules, the frame of a row, facts of types, schedules, walks, plain lemmas (Facts1 Sched1 H0 HP1 HP2 H1 HP3 P1 P1b Q1 Q2 Q3 D1 D2 D3 W1 W3 Y1 Y2 Y3 Y4 Y5 Y6 Y7 QA QC QB). It holds of every program and state that its hypotheses name.
-/
import Derived.Test.YtaoaoijchijlcaaGreatDoorDD1A5
import Derived.Test.YtaoaoijchijlcaaGreatDoorProg
import Derived.KernelRfl
set_option linter.unusedSimpArgs false
set_option linter.unusedVariables false
set_option linter.unnecessarySimpa false
namespace Go.Proofs.YtaoaoijchijlcaaGreatDoor
open Go.Vs Go.Proofs
theorem gcs0 : gcs Tryz.prog 0 = [1, 1] := by kernel_rfl
theorem gis0 : ((gdat Tryz.prog).lookup 0).isSome = true := by kernel_rfl
theorem tsz3 : tsz Tryz.prog 3 = some 1 := by kernel_rfl
theorem tsz4 : tsz Tryz.prog 4 = some 1 := by kernel_rfl
theorem tsz5 : tsz Tryz.prog 5 = some 1 := by kernel_rfl
theorem tsz9 : tsz Tryz.prog 9 = some 1 := by kernel_rfl
theorem tsz22 : tsz Tryz.prog 22 = some 1 := by kernel_rfl
theorem tsz24 : tsz Tryz.prog 24 = some 1 := by kernel_rfl
theorem tsz25 : tsz Tryz.prog 25 = some 1 := by kernel_rfl
theorem tsz27 : tsz Tryz.prog 27 = some 3 := by kernel_rfl
theorem tsz29 : tsz Tryz.prog 29 = some 1 := by kernel_rfl
theorem tsz31 : tsz Tryz.prog 31 = some 2 := by kernel_rfl
theorem tsz33 : tsz Tryz.prog 33 = some 2 := by kernel_rfl
theorem tsz48 : tsz Tryz.prog 48 = some 1 := by kernel_rfl
theorem tsz59 : tsz Tryz.prog 59 = some 2 := by kernel_rfl
theorem tsz78 : tsz Tryz.prog 78 = some 1 := by kernel_rfl
theorem tsz80 : tsz Tryz.prog 80 = some 3 := by kernel_rfl
theorem tsz88 : tsz Tryz.prog 88 = some 1 := by kernel_rfl
theorem tsz130 : tsz Tryz.prog 130 = some 1 := by kernel_rfl
theorem tagg3 : tagg Tryz.prog 3 = some false := by kernel_rfl
theorem tagg4 : tagg Tryz.prog 4 = some false := by kernel_rfl
theorem tagg5 : tagg Tryz.prog 5 = some false := by kernel_rfl
theorem tagg9 : tagg Tryz.prog 9 = some false := by kernel_rfl
theorem tagg22 : tagg Tryz.prog 22 = some false := by kernel_rfl
theorem tagg24 : tagg Tryz.prog 24 = some false := by kernel_rfl
theorem tagg25 : tagg Tryz.prog 25 = some false := by kernel_rfl
theorem tagg27 : tagg Tryz.prog 27 = some true := by kernel_rfl
theorem tagg29 : tagg Tryz.prog 29 = some false := by kernel_rfl
theorem tagg31 : tagg Tryz.prog 31 = some true := by kernel_rfl
theorem tagg33 : tagg Tryz.prog 33 = some true := by kernel_rfl
theorem tagg48 : tagg Tryz.prog 48 = some false := by kernel_rfl
theorem tagg59 : tagg Tryz.prog 59 = some true := by kernel_rfl
theorem tagg78 : tagg Tryz.prog 78 = some false := by kernel_rfl
theorem tagg80 : tagg Tryz.prog 80 = some true := by kernel_rfl
theorem tagg88 : tagg Tryz.prog 88 = some true := by kernel_rfl
theorem tagg130 : tagg Tryz.prog 130 = some false := by kernel_rfl
theorem tzero3 : tzero Tryz.prog 3 = some [.int .i64 0] := by kernel_rfl
theorem tzero4 : tzero Tryz.prog 4 = some [.bool false] := by kernel_rfl
theorem tzero25 : tzero Tryz.prog 25 = some [.sl none none []] := by kernel_rfl
theorem tzero27 : tzero Tryz.prog 27 = some [.int .i64 0, .sl none none [], .sl none none []] := by kernel_rfl
theorem tzero31 : tzero Tryz.prog 31 = some [.sl none none [], .sl none none []] := by kernel_rfl
theorem tzero33 : tzero Tryz.prog 33 = some [.int .i64 0, .int .i64 0] := by kernel_rfl
theorem tzero48 : tzero Tryz.prog 48 = some [.sl none none []] := by kernel_rfl
theorem tzero59 : tzero Tryz.prog 59 = some [.str [], .sl none none []] := by kernel_rfl
theorem tzero78 : tzero Tryz.prog 78 = some [.sl none none []] := by kernel_rfl
theorem tzero80 : tzero Tryz.prog 80 = some [.sl none none [], .sl none none [], .sl none none []] := by kernel_rfl
theorem tzero88 : tzero Tryz.prog 88 = some [.sl none none []] := by kernel_rfl
theorem tzero96 : tzero Tryz.prog 96 = some [.sl none none [], .int .i64 0, .int .i64 0] := by kernel_rfl
theorem tzeroN130 : (tzero Tryz.prog 130).isSome = false := by kernel_rfl
theorem zfn130 : zfn Tryz.prog 130 = true := by kernel_rfl
theorem tslice22 : tslice Tryz.prog 22 = some (5, 1, 1) := by kernel_rfl
theorem telem22 : telem Tryz.prog 22 = some 5 := by kernel_rfl
theorem tslice24 : tslice Tryz.prog 24 = some (59, 2, 40) := by kernel_rfl
theorem telem24 : telem Tryz.prog 24 = some 59 := by kernel_rfl
theorem tslice25 : tslice Tryz.prog 25 = some (3, 1, 8) := by kernel_rfl
theorem telem25 : telem Tryz.prog 25 = some 3 := by kernel_rfl
theorem tslice29 : tslice Tryz.prog 29 = some (25, 1, 24) := by kernel_rfl
theorem telem29 : telem Tryz.prog 29 = some 25 := by kernel_rfl
theorem tslice48 : tslice Tryz.prog 48 = some (33, 2, 16) := by kernel_rfl
theorem telem48 : telem Tryz.prog 48 = some 33 := by kernel_rfl
theorem tslice64 : tslice Tryz.prog 64 = some (4, 1, 1) := by kernel_rfl
theorem telem64 : telem Tryz.prog 64 = some 4 := by kernel_rfl
theorem tslice74 : tslice Tryz.prog 74 = some (9, 1, 16) := by kernel_rfl
theorem telem74 : telem Tryz.prog 74 = some 9 := by kernel_rfl
theorem tslice78 : tslice Tryz.prog 78 = some (48, 1, 24) := by kernel_rfl
theorem telem78 : telem Tryz.prog 78 = some 48 := by kernel_rfl
theorem tstr9 : tstr Tryz.prog 9 = some true := by kernel_rfl
theorem tstr22 : tstr Tryz.prog 22 = some false := by kernel_rfl
theorem tstr24 : tstr Tryz.prog 24 = some false := by kernel_rfl
theorem tstr25 : tstr Tryz.prog 25 = some false := by kernel_rfl
theorem tstr29 : tstr Tryz.prog 29 = some false := by kernel_rfl
theorem tstr48 : tstr Tryz.prog 48 = some false := by kernel_rfl
theorem tstr64 : tstr Tryz.prog 64 = some false := by kernel_rfl
theorem tstr74 : tstr Tryz.prog 74 = some false := by kernel_rfl
theorem tstr78 : tstr Tryz.prog 78 = some false := by kernel_rfl
theorem tfld27 : tfld Tryz.prog 27 = true := by kernel_rfl
theorem tfld31 : tfld Tryz.prog 31 = true := by kernel_rfl
theorem tfld33 : tfld Tryz.prog 33 = true := by kernel_rfl
theorem tfld59 : tfld Tryz.prog 59 = true := by kernel_rfl
theorem tfld80 : tfld Tryz.prog 80 = true := by kernel_rfl
theorem tfld88 : tfld Tryz.prog 88 = true := by kernel_rfl
theorem tfld96 : tfld Tryz.prog 96 = true := by kernel_rfl
theorem foff27_0 : foff Tryz.prog 27 0 = some (0, 1) := by kernel_rfl
theorem foff27_1 : foff Tryz.prog 27 1 = some (1, 1) := by kernel_rfl
theorem foff27_2 : foff Tryz.prog 27 2 = some (2, 1) := by kernel_rfl
theorem foff31_0 : foff Tryz.prog 31 0 = some (0, 1) := by kernel_rfl
theorem foff31_1 : foff Tryz.prog 31 1 = some (1, 1) := by kernel_rfl
theorem foff33_0 : foff Tryz.prog 33 0 = some (0, 1) := by kernel_rfl
theorem foff33_1 : foff Tryz.prog 33 1 = some (1, 1) := by kernel_rfl
theorem foff59_0 : foff Tryz.prog 59 0 = some (0, 1) := by kernel_rfl
theorem foff59_1 : foff Tryz.prog 59 1 = some (1, 1) := by kernel_rfl
theorem foff80_0 : foff Tryz.prog 80 0 = some (0, 1) := by kernel_rfl
theorem foff80_1 : foff Tryz.prog 80 1 = some (1, 1) := by kernel_rfl
theorem foff80_2 : foff Tryz.prog 80 2 = some (2, 1) := by kernel_rfl
theorem foff88_0 : foff Tryz.prog 88 0 = some (0, 1) := by kernel_rfl
theorem foff96_0 : foff Tryz.prog 96 0 = some (0, 1) := by kernel_rfl
theorem foff96_1 : foff Tryz.prog 96 1 = some (1, 1) := by kernel_rfl
theorem foff96_2 : foff Tryz.prog 96 2 = some (2, 1) := by kernel_rfl
theorem teqk33 : tEqK Tryz.prog 33 = some [.int, .int] := by kernel_rfl
attribute [simp] gcs0 gis0 tsz3 tsz4 tsz5 tsz9 tsz22 tsz24 tsz25 tsz27 tsz29 tsz31 tsz33 tsz48 tsz59 tsz78 tsz80 tsz88 tsz130 tagg3 tagg4 tagg5 tagg9 tagg22 tagg24 tagg25 tagg27 tagg29 tagg31 tagg33 tagg48 tagg59 tagg78 tagg80 tagg88 tagg130 tzero3 tzero4 tzero25 tzero27 tzero31 tzero33 tzero48 tzero59 tzero78 tzero80 tzero88 tzero96 tzeroN130 zfn130 tslice22 telem22 tslice24 telem24 tslice25 telem25 tslice29 telem29 tslice48 telem48 tslice64 telem64 tslice74 telem74 tslice78 telem78 tstr9 tstr22 tstr24 tstr25 tstr29 tstr48 tstr64 tstr74 tstr78 tfld27 tfld31 tfld33 tfld59 tfld80 tfld88 tfld96 foff27_0 foff27_1 foff27_2 foff31_0 foff31_1 foff33_0 foff33_1 foff59_0 foff59_1 foff80_0 foff80_1 foff80_2 foff88_0 foff96_0 foff96_1 foff96_2 teqk33
end Go.Proofs.YtaoaoijchijlcaaGreatDoor
namespace Go.Proofs.YtaoaoijchijlcaaGreatDoor
open Go.Vs Go.Proofs Go
def E : Md := ⟨fun f => [24, 27, 64, 66, 67, 77, 89, 90, 94, 102, 107, 124, 128].contains f, false⟩
def EP : Md := ⟨E.e, true⟩
@[simp] theorem E_p : E.p = false := Eq.trans rfl rfl
@[simp] theorem EP_p : EP.p = true := Eq.trans rfl rfl
theorem E64 : E 64 = true := rfl
theorem E66 : E 66 = true := rfl
theorem E67 : E 67 = true := rfl
theorem E77 : E 77 = true := rfl
theorem E89 : E 89 = true := rfl
theorem E90 : E 90 = true := rfl
theorem E94 : E 94 = true := rfl
theorem E102 : E 102 = true := rfl
theorem E107 : E 107 = true := rfl
theorem E124 : E 124 = true := rfl
theorem E128 : E 128 = true := rfl
def s3 (i : Nat) : Tr := if i = 11 then .seq [0, 1, 2, 4, 5] (.both (.seq [3, 6, 7, 8] (.both (.seq [9, 10, 11, 12, 13, 14, 15] .nil) (.seq [13, 9, 10, 11, 12, 14, 15] .nil))) (.seq [13, 3, 6, 7, 8, 9, 10, 11, 12, 14, 15] .nil)) else .nil
def s4 (i : Nat) : Tr := if i = 6 then .seq [0, 1, 2, 3, 4, 6, 5, 7, 8, 9] .nil else .nil
theorem s4_6 : s4 6 = .seq [0, 1, 2, 3, 4, 6, 5, 7, 8, 9] .nil := rfl
theorem s4_ok : okCode E 108 s4 (Tryz.f4.body.getD .skip) = true := by kernel_rfl
def s5 (_ : Nat) : Tr := .nil
theorem s5_ok : okCode E 6 s5 (Tryz.f5.body.getD .skip) = true := by kernel_rfl
def s9 (i : Nat) : Tr := if i = 11 then .seq [0, 1, 2, 3, 4, 5, 6, 7, 8, 9, 10, 11, 12, 13] .nil else if i = 26 then .seq [0, 1, 2, 3, 4, 5, 6, 7, 8, 9, 10, 11, 12, 13, 14, 15, 16, 17, 18, 19, 20, 21, 22] .nil else .nil
theorem s9_11 : s9 11 = .seq [0, 1, 2, 3, 4, 5, 6, 7, 8, 9, 10, 11, 12, 13] .nil := rfl
theorem s9_26 : s9 26 = .seq [0, 1, 2, 3, 4, 5, 6, 7, 8, 9, 10, 11, 12, 13, 14, 15, 16, 17, 18, 19, 20, 21, 22] .nil := rfl
theorem s9_ok : okCode E 134 s9 (Tryz.f9.body.getD .skip) = true := by kernel_rfl
def s11 (i : Nat) : Tr := if i = 31 then .seq [0, 1, 2, 3, 4, 5, 6, 7, 8, 9, 10, 11, 12, 13, 14, 15, 16, 17, 18, 19, 20, 21, 22, 23, 24, 25, 26, 27, 28, 29, 30, 31, 32] .nil else .nil
theorem s11_31 : s11 31 = .seq [0, 1, 2, 3, 4, 5, 6, 7, 8, 9, 10, 11, 12, 13, 14, 15, 16, 17, 18, 19, 20, 21, 22, 23, 24, 25, 26, 27, 28, 29, 30, 31, 32] .nil := rfl
theorem s11_ok : okCode E 150 s11 (Tryz.f11.body.getD .skip) = true := by kernel_rfl
def s13 (_ : Nat) : Tr := .nil
theorem s13_ok : okCode E 41 s13 (Tryz.f13.body.getD .skip) = true := by kernel_rfl
def s14 (_ : Nat) : Tr := .nil
theorem s14_ok : okCode E 20 s14 (Tryz.f14.body.getD .skip) = true := by kernel_rfl
def s16 (_ : Nat) : Tr := .nil
theorem s16_ok : okCode E 8 s16 (Tryz.f16.body.getD .skip) = true := by kernel_rfl
def s17 (i : Nat) : Tr := if i = 14 then .seq [0, 1, 2, 3, 4, 5, 6, 7, 8, 9] .nil else if i = 15 then .seq [0, 1, 2, 4, 3, 5, 6, 7, 8, 9] .nil else .nil
theorem s17_14 : s17 14 = .seq [0, 1, 2, 3, 4, 5, 6, 7, 8, 9] .nil := rfl
theorem s17_15 : s17 15 = .seq [0, 1, 2, 4, 3, 5, 6, 7, 8, 9] .nil := rfl
theorem s17_ok : okCode E 109 s17 (Tryz.f17.body.getD .skip) = true := by kernel_rfl
def s18 (_ : Nat) : Tr := .nil
theorem s18_ok : okCode E 49 s18 (Tryz.f18.body.getD .skip) = true := by kernel_rfl
def s19 (_ : Nat) : Tr := .nil
theorem s19_ok : okCode E 48 s19 (Tryz.f19.body.getD .skip) = true := by kernel_rfl
def s20 (_ : Nat) : Tr := .nil
theorem s20_ok : okCode E 12 s20 (Tryz.f20.body.getD .skip) = true := by kernel_rfl
def s21 (i : Nat) : Tr := if i = 5 then .seq [0, 1, 2, 3, 4, 5] .nil else .nil
theorem s21_5 : s21 5 = .seq [0, 1, 2, 3, 4, 5] .nil := rfl
theorem s21_ok : okCode E 28 s21 (Tryz.f21.body.getD .skip) = true := by kernel_rfl
def s22 (i : Nat) : Tr := if i = 17 then .seq [0, 1, 2, 4, 7, 3, 5, 6, 8, 9, 10, 11, 12] .nil else .nil
theorem s22_17 : s22 17 = .seq [0, 1, 2, 4, 7, 3, 5, 6, 8, 9, 10, 11, 12] .nil := rfl
theorem s22_ok : okCode E 88 s22 (Tryz.f22.body.getD .skip) = true := by kernel_rfl
def s23 (i : Nat) : Tr := if i = 8 then .seq [0, 1, 2, 3, 4, 5, 6, 7, 8, 9, 10, 11, 12, 13, 14, 15, 16, 17, 18, 19, 20, 21, 22, 23, 24, 25, 26] .nil else if i = 17 then .seq [0, 1, 2, 3, 4, 5, 6, 7, 8, 9, 10, 11, 12, 13, 14] .nil else if i = 27 then .seq [0, 1, 2, 3, 4, 5, 6, 7, 8, 9, 10, 11, 12, 13, 14, 15, 16, 17, 18, 19, 20, 21, 22, 23, 24, 25, 26, 27, 28, 29] .nil else .nil
theorem s23_8 : s23 8 = .seq [0, 1, 2, 3, 4, 5, 6, 7, 8, 9, 10, 11, 12, 13, 14, 15, 16, 17, 18, 19, 20, 21, 22, 23, 24, 25, 26] .nil := rfl
theorem s23_17 : s23 17 = .seq [0, 1, 2, 3, 4, 5, 6, 7, 8, 9, 10, 11, 12, 13, 14] .nil := rfl
theorem s23_27 : s23 27 = .seq [0, 1, 2, 3, 4, 5, 6, 7, 8, 9, 10, 11, 12, 13, 14, 15, 16, 17, 18, 19, 20, 21, 22, 23, 24, 25, 26, 27, 28, 29] .nil := rfl
theorem s23_ok : okCode E 148 s23 (Tryz.f23.body.getD .skip) = true := by kernel_rfl
def s25 (_ : Nat) : Tr := .nil
theorem s25_ok : okCode E 32 s25 (Tryz.f25.body.getD .skip) = true := by kernel_rfl
def s28 (_ : Nat) : Tr := .nil
theorem s28_ok : okCode E 31 s28 (Tryz.f28.body.getD .skip) = true := by kernel_rfl
def s29 (_ : Nat) : Tr := .nil
theorem s29_ok : okCode E 15 s29 (Tryz.f29.body.getD .skip) = true := by kernel_rfl
def s30 (_ : Nat) : Tr := .nil
theorem s30_ok : okCode E 23 s30 (Tryz.f30.body.getD .skip) = true := by kernel_rfl
def s31 (_ : Nat) : Tr := .nil
theorem s31_ok : okCode E 20 s31 (Tryz.f31.body.getD .skip) = true := by kernel_rfl
def s32 (_ : Nat) : Tr := .nil
theorem s32_ok : okCode E 19 s32 (Tryz.f32.body.getD .skip) = true := by kernel_rfl
def s34 (_ : Nat) : Tr := .nil
theorem s34_ok : okCode E 18 s34 (Tryz.f34.body.getD .skip) = true := by kernel_rfl
def s35 (_ : Nat) : Tr := .nil
theorem s35_ok : okCode E 39 s35 (Tryz.f35.body.getD .skip) = true := by kernel_rfl
def s36 (_ : Nat) : Tr := .nil
theorem s36_ok : okCode E 29 s36 (Tryz.f36.body.getD .skip) = true := by kernel_rfl
def s37 (_ : Nat) : Tr := .nil
theorem s37_ok : okCode E 11 s37 (Tryz.f37.body.getD .skip) = true := by kernel_rfl
def s38 (_ : Nat) : Tr := .nil
theorem s38_ok : okCode E 13 s38 (Tryz.f38.body.getD .skip) = true := by kernel_rfl
def s40 (i : Nat) : Tr := if i = 3 then .seq [1, 2] (.both (.seq [0, 3, 4, 5] .nil) (.seq [3, 0, 4, 5] .nil)) else .nil
theorem s40_3 : s40 3 = .seq [1, 2] (.both (.seq [0, 3, 4, 5] .nil) (.seq [3, 0, 4, 5] .nil)) := rfl
theorem s40_ok : okCode E 14 s40 (Tryz.f40.body.getD .skip) = true := by kernel_rfl
def s41 (_ : Nat) : Tr := .nil
theorem s41_ok : okCode E 20 s41 (Tryz.f41.body.getD .skip) = true := by kernel_rfl
def s42 (_ : Nat) : Tr := .nil
theorem s42_ok : okCode E 29 s42 (Tryz.f42.body.getD .skip) = true := by kernel_rfl
def s43 (_ : Nat) : Tr := .nil
theorem s43_ok : okCode E 23 s43 (Tryz.f43.body.getD .skip) = true := by kernel_rfl
def s44 (i : Nat) : Tr := if i = 9 then .seq [0, 1, 2, 4, 7, 8, 9] (.both (.seq [3, 5, 6, 10, 11] .nil) (.seq [5, 3, 6, 10, 11] .nil)) else .nil
theorem s44_9 : s44 9 = .seq [0, 1, 2, 4, 7, 8, 9] (.both (.seq [3, 5, 6, 10, 11] .nil) (.seq [5, 3, 6, 10, 11] .nil)) := rfl
theorem s44_ok : okCode E 56 s44 (Tryz.f44.body.getD .skip) = true := by kernel_rfl
def s45 (_ : Nat) : Tr := .nil
theorem s45_ok : okCode E 23 s45 (Tryz.f45.body.getD .skip) = true := by kernel_rfl
def s46 (_ : Nat) : Tr := .nil
theorem s46_ok : okCode E 9 s46 (Tryz.f46.body.getD .skip) = true := by kernel_rfl
def s47 (_ : Nat) : Tr := .nil
theorem s47_ok : okCode E 18 s47 (Tryz.f47.body.getD .skip) = true := by kernel_rfl
def s48 (_ : Nat) : Tr := .nil
theorem s48_ok : okCode E 30 s48 (Tryz.f48.body.getD .skip) = true := by kernel_rfl
def s49 (_ : Nat) : Tr := .nil
theorem s49_ok : okCode E 25 s49 (Tryz.f49.body.getD .skip) = true := by kernel_rfl
def s50 (_ : Nat) : Tr := .nil
theorem s50_ok : okCode E 20 s50 (Tryz.f50.body.getD .skip) = true := by kernel_rfl
def s51 (i : Nat) : Tr := if i = 7 then .seq [0, 1, 3, 4, 5, 6] (.both (.seq [2, 7, 8, 9, 10] .nil) (.seq [7, 8, 2, 9, 10] .nil)) else .nil
theorem s51_7 : s51 7 = .seq [0, 1, 3, 4, 5, 6] (.both (.seq [2, 7, 8, 9, 10] .nil) (.seq [7, 8, 2, 9, 10] .nil)) := rfl
theorem s51_ok : okCode E 38 s51 (Tryz.f51.body.getD .skip) = true := by kernel_rfl
def s52 (_ : Nat) : Tr := .nil
theorem s52_ok : okCode E 76 s52 (Tryz.f52.body.getD .skip) = true := by kernel_rfl
def s53 (_ : Nat) : Tr := .nil
theorem s53_ok : okCode E 19 s53 (Tryz.f53.body.getD .skip) = true := by kernel_rfl
def s54 (_ : Nat) : Tr := .nil
theorem s54_ok : okCode E 67 s54 (Tryz.f54.body.getD .skip) = true := by kernel_rfl
def s55 (i : Nat) : Tr := if i = 4 then .seq [0, 1, 2, 3, 4, 5] .nil else .nil
theorem s55_4 : s55 4 = .seq [0, 1, 2, 3, 4, 5] .nil := rfl
theorem s55_ok : okCode E 28 s55 (Tryz.f55.body.getD .skip) = true := by kernel_rfl
def s56 (_ : Nat) : Tr := .nil
theorem s56_ok : okCode E 51 s56 (Tryz.f56.body.getD .skip) = true := by kernel_rfl
def s57 (_ : Nat) : Tr := .nil
theorem s57_ok : okCode E 18 s57 (Tryz.f57.body.getD .skip) = true := by kernel_rfl
def s58 (_ : Nat) : Tr := .nil
theorem s58_ok : okCode E 17 s58 (Tryz.f58.body.getD .skip) = true := by kernel_rfl
def s59 (_ : Nat) : Tr := .nil
theorem s59_ok : okCode E 43 s59 (Tryz.f59.body.getD .skip) = true := by kernel_rfl
def s60 (_ : Nat) : Tr := .nil
theorem s60_ok : okCode E 22 s60 (Tryz.f60.body.getD .skip) = true := by kernel_rfl
def s61 (_ : Nat) : Tr := .nil
theorem s61_ok : okCode E 31 s61 (Tryz.f61.body.getD .skip) = true := by kernel_rfl
def s62 (i : Nat) : Tr := if i = 4 then .seq [0, 1, 2, 3, 4, 5, 6, 7, 8, 9, 10, 11, 12, 13, 14, 15, 16, 17, 18, 19, 20, 21, 22, 23, 24] .nil else .nil
theorem s62_4 : s62 4 = .seq [0, 1, 2, 3, 4, 5, 6, 7, 8, 9, 10, 11, 12, 13, 14, 15, 16, 17, 18, 19, 20, 21, 22, 23, 24] .nil := rfl
theorem s62_ok : okCode E 40 s62 (Tryz.f62.body.getD .skip) = true := by kernel_rfl
def s63 (_ : Nat) : Tr := .nil
theorem s63_ok : okCode E 21 s63 (Tryz.f63.body.getD .skip) = true := by kernel_rfl
def s64 (i : Nat) : Tr := if i = 14 then .seq [0, 2, 3, 4] (.both (.seq [1, 5, 6, 7, 8, 9] .nil) (.seq [5, 1, 6, 7, 8, 9] .nil)) else .nil
theorem s64_14 : s64 14 = .seq [0, 2, 3, 4] (.both (.seq [1, 5, 6, 7, 8, 9] .nil) (.seq [5, 1, 6, 7, 8, 9] .nil)) := rfl
theorem s64_ok : okCode E 83 s64 (Tryz.f64.body.getD .skip) = true := by kernel_rfl
def s65 (i : Nat) : Tr := if i = 10 then .seq [0, 1, 2, 3, 4, 5, 6, 7, 8, 9, 10, 11, 12, 13, 14] .nil else if i = 17 then .seq [0, 2, 3, 4, 5, 6, 7, 8, 9, 1, 10] .nil else .nil
theorem s65_10 : s65 10 = .seq [0, 1, 2, 3, 4, 5, 6, 7, 8, 9, 10, 11, 12, 13, 14] .nil := rfl
theorem s65_17 : s65 17 = .seq [0, 2, 3, 4, 5, 6, 7, 8, 9, 1, 10] .nil := rfl
theorem s65_ok : okCode E 90 s65 (Tryz.f65.body.getD .skip) = true := by kernel_rfl
def s66 (_ : Nat) : Tr := .nil
theorem s66_ok : okCode E 9 s66 (Tryz.f66.body.getD .skip) = true := by kernel_rfl
def s67 (i : Nat) : Tr := if i = 6 then .seq [0, 2] (.both (.seq [1] (.both (.seq [3] (.both (.seq [4, 5, 6, 7, 8, 9, 10] .nil) (.seq [5, 4, 6, 7, 8, 9, 10] .nil))) (.seq [5, 3, 4, 6, 7, 8, 9, 10] .nil))) (.both (.seq [3] (.both (.seq [1] (.both (.seq [4, 5, 6, 7, 8, 9, 10] .nil) (.seq [5, 4, 6, 7, 8, 9, 10] .nil))) (.both (.seq [4, 1, 5, 6, 7, 8, 9, 10] .nil) (.seq [5] (.both (.seq [1, 4, 6, 7, 8, 9, 10] .nil) (.seq [4, 1, 6, 7, 8, 9, 10] .nil)))))) (.seq [5] (.both (.seq [1, 3, 4, 6, 7, 8, 9, 10] .nil) (.seq [3] (.both (.seq [1, 4, 6, 7, 8, 9, 10] .nil) (.seq [4, 1, 6, 7, 8, 9, 10] .nil))))))) else if i = 8 then .seq [0, 2] (.both (.seq [1, 3, 4, 5, 6, 7, 8] .nil) (.seq [3, 1, 4, 5, 6, 7, 8] .nil)) else if i = 12 then .seq [0, 5] (.both (.seq [1, 2, 3] (.both (.seq [4, 6, 7, 8, 9] .nil) (.seq [6] (.both (.seq [4, 7, 8, 9] .nil) (.seq [7, 4, 8, 9] .nil))))) (.seq [6] (.both (.seq [1, 2, 3] (.both (.seq [4, 7, 8, 9] .nil) (.seq [7, 4, 8, 9] .nil))) (.seq [7, 1, 2, 3, 4, 8, 9] .nil)))) else .nil
theorem s67_6 : s67 6 = .seq [0, 2] (.both (.seq [1] (.both (.seq [3] (.both (.seq [4, 5, 6, 7, 8, 9, 10] .nil) (.seq [5, 4, 6, 7, 8, 9, 10] .nil))) (.seq [5, 3, 4, 6, 7, 8, 9, 10] .nil))) (.both (.seq [3] (.both (.seq [1] (.both (.seq [4, 5, 6, 7, 8, 9, 10] .nil) (.seq [5, 4, 6, 7, 8, 9, 10] .nil))) (.both (.seq [4, 1, 5, 6, 7, 8, 9, 10] .nil) (.seq [5] (.both (.seq [1, 4, 6, 7, 8, 9, 10] .nil) (.seq [4, 1, 6, 7, 8, 9, 10] .nil)))))) (.seq [5] (.both (.seq [1, 3, 4, 6, 7, 8, 9, 10] .nil) (.seq [3] (.both (.seq [1, 4, 6, 7, 8, 9, 10] .nil) (.seq [4, 1, 6, 7, 8, 9, 10] .nil))))))) := rfl
theorem s67_8 : s67 8 = .seq [0, 2] (.both (.seq [1, 3, 4, 5, 6, 7, 8] .nil) (.seq [3, 1, 4, 5, 6, 7, 8] .nil)) := rfl
theorem s67_12 : s67 12 = .seq [0, 5] (.both (.seq [1, 2, 3] (.both (.seq [4, 6, 7, 8, 9] .nil) (.seq [6] (.both (.seq [4, 7, 8, 9] .nil) (.seq [7, 4, 8, 9] .nil))))) (.seq [6] (.both (.seq [1, 2, 3] (.both (.seq [4, 7, 8, 9] .nil) (.seq [7, 4, 8, 9] .nil))) (.seq [7, 1, 2, 3, 4, 8, 9] .nil)))) := rfl
theorem s67_ok : okCode E 57 s67 (Tryz.f67.body.getD .skip) = true := by kernel_rfl
def s68 (_ : Nat) : Tr := .nil
theorem s68_ok : okCode E 6 s68 (Tryz.f68.body.getD .skip) = true := by kernel_rfl
def s70 (_ : Nat) : Tr := .nil
theorem s70_ok : okCode E 23 s70 (Tryz.f70.body.getD .skip) = true := by kernel_rfl
def s71 (i : Nat) : Tr := if i = 4 then .seq [0, 1, 2, 3, 4, 5, 6, 7, 8, 9, 10, 11, 12, 13, 14, 15, 16, 17, 18, 19] .nil else .nil
theorem s71_4 : s71 4 = .seq [0, 1, 2, 3, 4, 5, 6, 7, 8, 9, 10, 11, 12, 13, 14, 15, 16, 17, 18, 19] .nil := rfl
theorem s71_ok : okCode E 33 s71 (Tryz.f71.body.getD .skip) = true := by kernel_rfl
def s72 (_ : Nat) : Tr := .nil
theorem s72_ok : okCode E 57 s72 (Tryz.f72.body.getD .skip) = true := by kernel_rfl
def s73 (_ : Nat) : Tr := .nil
theorem s73_ok : okCode E 28 s73 (Tryz.f73.body.getD .skip) = true := by kernel_rfl
def s74 (_ : Nat) : Tr := .nil
theorem s74_ok : okCode E 59 s74 (Tryz.f74.body.getD .skip) = true := by kernel_rfl
def s75 (i : Nat) : Tr := if i = 1 then .seq [0, 1, 2, 3, 4, 5, 6, 7, 8, 9, 10, 12, 13, 11, 14, 15, 16, 17] .nil else .nil
theorem s75_1 : s75 1 = .seq [0, 1, 2, 3, 4, 5, 6, 7, 8, 9, 10, 12, 13, 11, 14, 15, 16, 17] .nil := rfl
theorem s75_ok : okCode E 20 s75 (Tryz.f75.body.getD .skip) = true := by kernel_rfl
def s77 (_ : Nat) : Tr := .nil
theorem s77_ok : okCode E 24 s77 (Tryz.f77.body.getD .skip) = true := by kernel_rfl
def s78 (_ : Nat) : Tr := .nil
theorem s78_ok : okCode E 27 s78 (Tryz.f78.body.getD .skip) = true := by kernel_rfl
def s79 (_ : Nat) : Tr := .nil
theorem s79_ok : okCode E 9 s79 (Tryz.f79.body.getD .skip) = true := by kernel_rfl
def s80 (_ : Nat) : Tr := .nil
theorem s80_ok : okCode E 19 s80 (Tryz.f80.body.getD .skip) = true := by kernel_rfl
def s81 (_ : Nat) : Tr := .nil
theorem s81_ok : okCode E 10 s81 (Tryz.f81.body.getD .skip) = true := by kernel_rfl
def s82 (_ : Nat) : Tr := .nil
theorem s82_ok : okCode E 10 s82 (Tryz.f82.body.getD .skip) = true := by kernel_rfl
def s83 (_ : Nat) : Tr := .nil
theorem s83_ok : okCode E 15 s83 (Tryz.f83.body.getD .skip) = true := by kernel_rfl
def s84 (_ : Nat) : Tr := .nil
theorem s84_ok : okCode E 5 s84 (Tryz.f84.body.getD .skip) = true := by kernel_rfl
def s85 (_ : Nat) : Tr := .nil
theorem s85_ok : okCode E 38 s85 (Tryz.f85.body.getD .skip) = true := by kernel_rfl
def s86 (_ : Nat) : Tr := .nil
theorem s86_ok : okCode E 16 s86 (Tryz.f86.body.getD .skip) = true := by kernel_rfl
def s87 (i : Nat) : Tr := if i = 8 then .seq [0, 1, 2, 3, 4, 5] (.both (.seq [6, 7, 8, 9, 10, 11, 12] .nil) (.seq [10, 6, 7, 8, 9, 11, 12] .nil)) else if i = 13 then .seq [0, 1, 2, 3, 4, 5] .nil else .nil
theorem s87_8 : s87 8 = .seq [0, 1, 2, 3, 4, 5] (.both (.seq [6, 7, 8, 9, 10, 11, 12] .nil) (.seq [10, 6, 7, 8, 9, 11, 12] .nil)) := rfl
theorem s87_13 : s87 13 = .seq [0, 1, 2, 3, 4, 5] .nil := rfl
theorem s87_ok : okCode E 56 s87 (Tryz.f87.body.getD .skip) = true := by kernel_rfl
def s88 (i : Nat) : Tr := if i = 4 then .seq [0, 1, 2, 3, 4, 5, 6, 7, 8, 9] .nil else .nil
theorem s88_4 : s88 4 = .seq [0, 1, 2, 3, 4, 5, 6, 7, 8, 9] .nil := rfl
theorem s88_ok : okCode E 20 s88 (Tryz.f88.body.getD .skip) = true := by kernel_rfl
def s89 (_ : Nat) : Tr := .nil
theorem s89_ok : okCode E 12 s89 (Tryz.f89.body.getD .skip) = true := by kernel_rfl
def s90 (_ : Nat) : Tr := .nil
theorem s90_ok : okCode E 37 s90 (Tryz.f90.body.getD .skip) = true := by kernel_rfl
def s91 (_ : Nat) : Tr := .nil
theorem s91_ok : okCode E 35 s91 (Tryz.f91.body.getD .skip) = true := by kernel_rfl
def s92 (i : Nat) : Tr := if i = 8 then .seq [0, 2, 3, 4, 5, 6, 1, 7] .nil else .nil
theorem s92_8 : s92 8 = .seq [0, 2, 3, 4, 5, 6, 1, 7] .nil := rfl
theorem s92_ok : okCode E 30 s92 (Tryz.f92.body.getD .skip) = true := by kernel_rfl
def s93 (i : Nat) : Tr := if i = 9 then .seq [0, 1, 2, 3, 4, 5, 6, 7, 8, 9, 10, 11, 12, 13, 14, 15, 16] .nil else .nil
theorem s93_9 : s93 9 = .seq [0, 1, 2, 3, 4, 5, 6, 7, 8, 9, 10, 11, 12, 13, 14, 15, 16] .nil := rfl
theorem s93_ok : okCode E 40 s93 (Tryz.f93.body.getD .skip) = true := by kernel_rfl
def s94 (_ : Nat) : Tr := .nil
theorem s94_ok : okCode E 12 s94 (Tryz.f94.body.getD .skip) = true := by kernel_rfl
def s95 (_ : Nat) : Tr := .nil
theorem s95_ok : okCode E 14 s95 (Tryz.f95.body.getD .skip) = true := by kernel_rfl
def s96 (_ : Nat) : Tr := .nil
theorem s96_ok : okCode E 57 s96 (Tryz.f96.body.getD .skip) = true := by kernel_rfl
def s97 (i : Nat) : Tr := if i = 9 then .seq [0, 1, 2, 3, 4] .nil else if i = 11 then .seq [0, 1, 2, 3, 4, 5] .nil else .nil
theorem s97_9 : s97 9 = .seq [0, 1, 2, 3, 4] .nil := rfl
theorem s97_11 : s97 11 = .seq [0, 1, 2, 3, 4, 5] .nil := rfl
theorem s97_ok : okCode E 48 s97 (Tryz.f97.body.getD .skip) = true := by kernel_rfl
def s98 (_ : Nat) : Tr := .nil
theorem s98_ok : okCode E 4 s98 (Tryz.f98.body.getD .skip) = true := by kernel_rfl
def s99 (i : Nat) : Tr := if i = 2 then .seq [0, 1, 2, 3, 4, 5] .nil else .nil
theorem s99_2 : s99 2 = .seq [0, 1, 2, 3, 4, 5] .nil := rfl
theorem s99_ok : okCode E 12 s99 (Tryz.f99.body.getD .skip) = true := by kernel_rfl
def s100 (_ : Nat) : Tr := .nil
theorem s100_ok : okCode E 7 s100 (Tryz.f100.body.getD .skip) = true := by kernel_rfl
def s102 (_ : Nat) : Tr := .nil
theorem s102_ok : okCode E 28 s102 (Tryz.f102.body.getD .skip) = true := by kernel_rfl
def s103 (_ : Nat) : Tr := .nil
theorem s103_ok : okCode E 31 s103 (Tryz.f103.body.getD .skip) = true := by kernel_rfl
def s104 (_ : Nat) : Tr := .nil
theorem s104_ok : okCode E 40 s104 (Tryz.f104.body.getD .skip) = true := by kernel_rfl
def s105 (_ : Nat) : Tr := .nil
theorem s105_ok : okCode E 130 s105 (Tryz.f105.body.getD .skip) = true := by kernel_rfl
def s106 (i : Nat) : Tr := if i = 7 then .seq [0, 1, 2, 3, 4, 5, 6, 7] (.both (.seq [8, 9, 10, 11, 12, 13, 14] .nil) (.seq [12, 8, 9, 10, 11, 13, 14] .nil)) else .nil
theorem s106_7 : s106 7 = .seq [0, 1, 2, 3, 4, 5, 6, 7] (.both (.seq [8, 9, 10, 11, 12, 13, 14] .nil) (.seq [12, 8, 9, 10, 11, 13, 14] .nil)) := rfl
theorem s106_ok : okCode E 48 s106 (Tryz.f106.body.getD .skip) = true := by kernel_rfl
def s107 (i : Nat) : Tr := if i = 2 then .seq [0, 1, 2, 3, 4, 5, 6, 7, 8, 9, 10, 11, 12] .nil else if i = 3 then .seq [0, 1, 2, 3, 4, 5, 6, 7, 8, 9] .nil else if i = 4 then .seq [0, 1, 2, 3, 4, 5, 6, 7, 8, 9, 10, 11, 12, 13, 14] .nil else .nil
theorem s107_2 : s107 2 = .seq [0, 1, 2, 3, 4, 5, 6, 7, 8, 9, 10, 11, 12] .nil := rfl
theorem s107_3 : s107 3 = .seq [0, 1, 2, 3, 4, 5, 6, 7, 8, 9] .nil := rfl
theorem s107_4 : s107 4 = .seq [0, 1, 2, 3, 4, 5, 6, 7, 8, 9, 10, 11, 12, 13, 14] .nil := rfl
theorem s107_ok : okCode E 58 s107 (Tryz.f107.body.getD .skip) = true := by kernel_rfl
def s108 (_ : Nat) : Tr := .nil
theorem s108_ok : okCode E 15 s108 (Tryz.f108.body.getD .skip) = true := by kernel_rfl
def s109 (_ : Nat) : Tr := .nil
theorem s109_ok : okCode E 54 s109 (Tryz.f109.body.getD .skip) = true := by kernel_rfl
def s110 (i : Nat) : Tr := if i = 7 then .seq [0, 1, 2, 3, 4, 5, 6, 7] (.both (.seq [8, 9, 10, 11, 12, 13, 14] .nil) (.seq [12, 8, 9, 10, 11, 13, 14] .nil)) else .nil
theorem s110_7 : s110 7 = .seq [0, 1, 2, 3, 4, 5, 6, 7] (.both (.seq [8, 9, 10, 11, 12, 13, 14] .nil) (.seq [12, 8, 9, 10, 11, 13, 14] .nil)) := rfl
theorem s110_ok : okCode E 52 s110 (Tryz.f110.body.getD .skip) = true := by kernel_rfl
def s111 (_ : Nat) : Tr := .nil
theorem s111_ok : okCode E 47 s111 (Tryz.f111.body.getD .skip) = true := by kernel_rfl
def s112 (i : Nat) : Tr := if i = 10 then .seq [0, 2, 3, 4, 5, 7, 8, 9, 10] (.both (.seq [1] (.both (.app 6 [50] (.seq [11, 12, 13, 14, 15] .nil)) (.seq [11] (.app 6 [50] (.seq [12, 13, 14, 15] .nil))))) (.seq [11, 1] (.app 6 [50] (.seq [12, 13, 14, 15] .nil)))) else if i = 28 then .seq [0, 1, 2, 3, 4, 5, 6, 7, 8, 9, 10, 11, 12, 13] (.both (.seq [14, 15, 16, 17, 18, 19, 20] .nil) (.seq [18, 14, 15, 16, 17, 19, 20] .nil)) else .nil
theorem s112_10 : s112 10 = .seq [0, 2, 3, 4, 5, 7, 8, 9, 10] (.both (.seq [1] (.both (.app 6 [50] (.seq [11, 12, 13, 14, 15] .nil)) (.seq [11] (.app 6 [50] (.seq [12, 13, 14, 15] .nil))))) (.seq [11, 1] (.app 6 [50] (.seq [12, 13, 14, 15] .nil)))) := rfl
theorem s112_28 : s112 28 = .seq [0, 1, 2, 3, 4, 5, 6, 7, 8, 9, 10, 11, 12, 13] (.both (.seq [14, 15, 16, 17, 18, 19, 20] .nil) (.seq [18, 14, 15, 16, 17, 19, 20] .nil)) := rfl
theorem s112_ok : okCode E 134 s112 (Tryz.f112.body.getD .skip) = true := by kernel_rfl
def s113 (i : Nat) : Tr := if i = 12 then .seq [0, 1, 2, 3, 4, 5, 6, 7, 8, 10, 9, 11, 12] .nil else .nil
theorem s113_12 : s113 12 = .seq [0, 1, 2, 3, 4, 5, 6, 7, 8, 10, 9, 11, 12] .nil := rfl
theorem s113_ok : okCode E 69 s113 (Tryz.f113.body.getD .skip) = true := by kernel_rfl
def s114 (i : Nat) : Tr := if i = 6 then .seq [0, 1, 2, 3, 4, 5, 6, 7, 8] .nil else .nil
theorem s114_6 : s114 6 = .seq [0, 1, 2, 3, 4, 5, 6, 7, 8] .nil := rfl
theorem s114_ok : okCode E 26 s114 (Tryz.f114.body.getD .skip) = true := by kernel_rfl
def s115 (_ : Nat) : Tr := .nil
theorem s115_ok : okCode E 33 s115 (Tryz.f115.body.getD .skip) = true := by kernel_rfl
def s116 (_ : Nat) : Tr := .nil
theorem s116_ok : okCode E 39 s116 (Tryz.f116.body.getD .skip) = true := by kernel_rfl
def s117 (_ : Nat) : Tr := .nil
theorem s117_ok : okCode E 6 s117 (Tryz.f117.body.getD .skip) = true := by kernel_rfl
def s118 (i : Nat) : Tr := if i = 4 then .seq [0, 1, 2, 3, 5] (.both (.seq [4, 6] (.app 7 [4] (.seq [8] .nil))) (.seq [6, 4] (.app 7 [4] (.seq [8] .nil)))) else .nil
theorem s118_4 : s118 4 = .seq [0, 1, 2, 3, 5] (.both (.seq [4, 6] (.app 7 [4] (.seq [8] .nil))) (.seq [6, 4] (.app 7 [4] (.seq [8] .nil)))) := rfl
theorem s118_ok : okCode E 90 s118 (Tryz.f118.body.getD .skip) = true := by kernel_rfl
def s119 (i : Nat) : Tr := if i = 10 then .seq [0, 1, 3, 4, 5, 6] (.both (.seq [2, 7, 8, 9, 10, 11] .nil) (.seq [7, 2, 8, 9, 10, 11] .nil)) else if i = 20 then .seq [0, 1, 2, 3, 4, 5, 6, 7, 8, 9, 10, 11, 12, 13, 14, 15] .nil else if i = 24 then .seq [0, 1, 2, 3, 4, 5, 6, 7, 8, 9, 10, 11, 12, 13, 14, 15, 16, 17, 18, 19, 20, 21, 22, 23, 24, 25, 26] .nil else if i = 30 then .seq [0, 1, 2, 3, 4, 5, 6, 7, 8, 9, 10, 11, 12, 13] (.both (.seq [14, 15, 16, 17, 18, 19, 20] .nil) (.seq [18, 14, 15, 16, 17, 19, 20] .nil)) else .nil
theorem s119_10 : s119 10 = .seq [0, 1, 3, 4, 5, 6] (.both (.seq [2, 7, 8, 9, 10, 11] .nil) (.seq [7, 2, 8, 9, 10, 11] .nil)) := rfl
theorem s119_20 : s119 20 = .seq [0, 1, 2, 3, 4, 5, 6, 7, 8, 9, 10, 11, 12, 13, 14, 15] .nil := rfl
theorem s119_24 : s119 24 = .seq [0, 1, 2, 3, 4, 5, 6, 7, 8, 9, 10, 11, 12, 13, 14, 15, 16, 17, 18, 19, 20, 21, 22, 23, 24, 25, 26] .nil := rfl
theorem s119_30 : s119 30 = .seq [0, 1, 2, 3, 4, 5, 6, 7, 8, 9, 10, 11, 12, 13] (.both (.seq [14, 15, 16, 17, 18, 19, 20] .nil) (.seq [18, 14, 15, 16, 17, 19, 20] .nil)) := rfl
theorem s119_ok : okCode E 161 s119 (Tryz.f119.body.getD .skip) = true := by kernel_rfl
def s120 (i : Nat) : Tr := if i = 15 then .seq [0, 1, 2, 3, 4, 5, 6, 7, 8, 9] .nil else .nil
theorem s120_15 : s120 15 = .seq [0, 1, 2, 3, 4, 5, 6, 7, 8, 9] .nil := rfl
theorem s120_ok : okCode E 66 s120 (Tryz.f120.body.getD .skip) = true := by kernel_rfl
def s121 (i : Nat) : Tr := if i = 6 then .seq [0, 1, 2, 3, 4, 5, 6, 7, 8] .nil else .nil
theorem s121_6 : s121 6 = .seq [0, 1, 2, 3, 4, 5, 6, 7, 8] .nil := rfl
theorem s121_ok : okCode E 26 s121 (Tryz.f121.body.getD .skip) = true := by kernel_rfl
def s122 (_ : Nat) : Tr := .nil
theorem s122_ok : okCode E 24 s122 (Tryz.f122.body.getD .skip) = true := by kernel_rfl
def s123 (_ : Nat) : Tr := .nil
theorem s123_ok : okCode E 30 s123 (Tryz.f123.body.getD .skip) = true := by kernel_rfl
def s124 (i : Nat) : Tr := if i = 5 then .seq [0, 1, 2, 3, 4, 5, 6, 7, 8, 9, 10, 11, 12, 13] (.both (.seq [14, 15, 16, 17, 18, 19, 20] .nil) (.seq [18, 14, 15, 16, 17, 19, 20] .nil)) else if i = 9 then .seq [0, 1, 2, 3, 4, 5, 6, 7] (.both (.seq [8, 9, 10, 11, 12, 13, 14] .nil) (.seq [12, 8, 9, 10, 11, 13, 14] .nil)) else if i = 10 then .seq [0, 1, 2, 3, 4, 5, 6, 7] (.both (.seq [8, 9, 10, 11, 12, 13, 14] .nil) (.seq [12, 8, 9, 10, 11, 13, 14] .nil)) else if i = 12 then .seq [0, 1, 2, 3, 4, 5, 6, 7] .nil else .nil
theorem s124_5 : s124 5 = .seq [0, 1, 2, 3, 4, 5, 6, 7, 8, 9, 10, 11, 12, 13] (.both (.seq [14, 15, 16, 17, 18, 19, 20] .nil) (.seq [18, 14, 15, 16, 17, 19, 20] .nil)) := rfl
theorem s124_9 : s124 9 = .seq [0, 1, 2, 3, 4, 5, 6, 7] (.both (.seq [8, 9, 10, 11, 12, 13, 14] .nil) (.seq [12, 8, 9, 10, 11, 13, 14] .nil)) := rfl
theorem s124_10 : s124 10 = .seq [0, 1, 2, 3, 4, 5, 6, 7] (.both (.seq [8, 9, 10, 11, 12, 13, 14] .nil) (.seq [12, 8, 9, 10, 11, 13, 14] .nil)) := rfl
theorem s124_12 : s124 12 = .seq [0, 1, 2, 3, 4, 5, 6, 7] .nil := rfl
theorem s124_ok : okCode E 101 s124 (Tryz.f124.body.getD .skip) = true := by kernel_rfl
def s125 (_ : Nat) : Tr := .nil
theorem s125_ok : okCode E 33 s125 (Tryz.f125.body.getD .skip) = true := by kernel_rfl
def s126 (_ : Nat) : Tr := .nil
theorem s126_ok : okCode E 34 s126 (Tryz.f126.body.getD .skip) = true := by kernel_rfl
def s127 (i : Nat) : Tr := if i = 8 then .seq [0, 1, 2, 3, 4, 5, 6, 7, 8] .nil else .nil
theorem s127_8 : s127 8 = .seq [0, 1, 2, 3, 4, 5, 6, 7, 8] .nil := rfl
theorem s127_ok : okCode E 52 s127 (Tryz.f127.body.getD .skip) = true := by kernel_rfl
def s128 (i : Nat) : Tr := if i = 1 then .seq [0, 1, 2, 3, 4, 5, 6, 7] (.both (.seq [8, 9, 10, 11, 12, 13, 14] .nil) (.seq [12, 8, 9, 10, 11, 13, 14] .nil)) else if i = 7 then .seq [0, 1, 2, 3, 4] (.both (.seq [5, 6, 7, 8, 9, 10, 11] .nil) (.seq [9, 5, 6, 7, 8, 10, 11] .nil)) else if i = 8 then .seq [0, 1, 2, 3, 4] (.both (.seq [5, 6, 7, 8, 9, 10, 11] .nil) (.seq [9, 5, 6, 7, 8, 10, 11] .nil)) else .nil
theorem s128_1 : s128 1 = .seq [0, 1, 2, 3, 4, 5, 6, 7] (.both (.seq [8, 9, 10, 11, 12, 13, 14] .nil) (.seq [12, 8, 9, 10, 11, 13, 14] .nil)) := rfl
theorem s128_7 : s128 7 = .seq [0, 1, 2, 3, 4] (.both (.seq [5, 6, 7, 8, 9, 10, 11] .nil) (.seq [9, 5, 6, 7, 8, 10, 11] .nil)) := rfl
theorem s128_8 : s128 8 = .seq [0, 1, 2, 3, 4] (.both (.seq [5, 6, 7, 8, 9, 10, 11] .nil) (.seq [9, 5, 6, 7, 8, 10, 11] .nil)) := rfl
theorem s128_ok : okCode E 63 s128 (Tryz.f128.body.getD .skip) = true := by kernel_rfl
def s129 (_ : Nat) : Tr := .nil
theorem s129_ok : okCode E 29 s129 (Tryz.f129.body.getD .skip) = true := by kernel_rfl
def s130 (_ : Nat) : Tr := .nil
theorem s130_ok : okCode E 31 s130 (Tryz.f130.body.getD .skip) = true := by kernel_rfl
def s131 (i : Nat) : Tr := if i = 6 then .seq [0, 1, 2, 3, 4, 5, 6, 7, 8] .nil else .nil
theorem s131_6 : s131 6 = .seq [0, 1, 2, 3, 4, 5, 6, 7, 8] .nil := rfl
theorem s131_ok : okCode E 43 s131 (Tryz.f131.body.getD .skip) = true := by kernel_rfl
def s132 (_ : Nat) : Tr := .nil
theorem s132_ok : okCode E 25 s132 (Tryz.f132.body.getD .skip) = true := by kernel_rfl
def s133 (_ : Nat) : Tr := .nil
theorem s133_ok : okCode E 15 s133 (Tryz.f133.body.getD .skip) = true := by kernel_rfl
end Go.Proofs.YtaoaoijchijlcaaGreatDoor
namespace Go.Proofs.YtaoaoijchijlcaaGreatDoor
open Go.Vs Go.Proofs Go
set_option maxRecDepth 100000
set_option maxHeartbeats 1000000
attribute [simp] plI_id plStr_id map_plI map_plStr pS cP cI cStr cU8 cB
theorem w_impl_within (n lo hi : Int) : VC Tryz.prog 83 [.d (.int .i64 n), .d (.int .i64 lo), .d (.int .i64 hi)] (fun _ r => r = .d (.bool (inR n lo hi))) := by
 refine VC.ofL EP s83 (by kernel_rfl) Tryz.func83 (by rfl) (by kernel_rfl) (by simp [Tryz.f83]) (by simp [Tryz.f83]) s83_ok fun B hl => ?_
 by_cases h : lo <= n
 ·simp [Tryz.f83, inR, h]
 ·simp [Tryz.f83, inR, h]
theorem w_spec_l1In (n lo hi : Int) : VC Tryz.prog 29 [.d (.int .i64 n), .d (.int .i64 lo), .d (.int .i64 hi)] (fun _ r => r = .d (.bool (inR n lo hi))) := by
 refine VC.ofL EP s29 (by kernel_rfl) Tryz.func29 (by rfl) (by kernel_rfl) (by simp [Tryz.f29]) (by simp [Tryz.f29]) s29_ok fun B hl => ?_
 by_cases h : lo <= n
 ·simp [Tryz.f29, inR, h]
 ·simp [Tryz.f29, inR, h]
end Go.Proofs.YtaoaoijchijlcaaGreatDoor
namespace Go.Proofs.YtaoaoijchijlcaaGreatDoor
open Go.Vs Go.Proofs Go
set_option maxRecDepth 100000
set_option maxHeartbeats 1000000
theorem w_impl_compareInts (x y : Int) : VC Tryz.prog 38 [.d (.int .i64 x), .d (.int .i64 y)] (fun _ r => r = .d (.int .i64 (if x < y then -1 else if y < x then 1 else 0))) := by
 refine VC.ofL EP s38 (by kernel_rfl) Tryz.func38 (by rfl) (by kernel_rfl) (by simp [Tryz.f38]) (by simp [Tryz.f38]) s38_ok fun B hl => ?_
 by_cases h1 : x < y
 ·simp [Tryz.f38, h1]
 ·by_cases h2 : y < x <;> simp [Tryz.f38, h1, h2]
end Go.Proofs.YtaoaoijchijlcaaGreatDoor
namespace Go.Proofs.YtaoaoijchijlcaaGreatDoor
open Go.Vs Go.Proofs Go
set_option maxRecDepth 100000
set_option maxHeartbeats 1000000
section
attribute [local simp] plI_id plStr_id map_plI map_plStr pS cP cI cStr cU8 cB
theorem w_spec_l7Find (l : List Int) (v : Int) : VC Tryz.prog 32 [.d (pS cI l), .d (.int .i64 v)] (fun _ r => r = .d (.int .i64 (idxL l v))) := by
 refine VC.ofL EP s32 (by kernel_rfl) Tryz.func32 (by rfl) (by kernel_rfl) (by simp [Tryz.f32]) (by simp [Tryz.f32]) s32_ok fun B hl => ?_
 simp [pS, maxLen] at hl
 simp [Tryz.f32, ]
 refine loop_rule (X := Nat) (fun i => i <= l.length /\ AllTo (fun x => !(x == v)) l i) (fun i => [(0, .d (.pl (l.map cI))), (1, .d (.int .i64 v)), (5, .d (.int .i64 i))]) (fun _ => []) (fun i => l.length - i) 0 ⟨by simp, allTo_zero⟩ (by simp) (by simp) ?_
 intro i hs t m hi hh
 by_cases hlt : i < l.length
 ·have hwi := wr1 (i := i) (by omega)
  by_cases he : l[i] = v
  ·have hx := idxL_at hi.2 hlt he
   simp [hlt, he, hx, ]
  ·simp [hlt, he, hwi, ]
   exact back (i + 1) ⟨by omega, allTo_step hi.2 hlt (by simp [he])⟩ (by omega) rfl (by simp <;> omega) (by simp) (by simp)
 ·have hx := (idxL_no (allTo_done hi.2 (by omega))).2
  simp [hlt, hx]
theorem w_impl_indexOf (l : List Int) (v : Int) : VC Tryz.prog 80 [.d (pS cI l), .d (.int .i64 v)] (fun _ r => r = .d (.int .i64 (idxL l v))) := by
 refine VC.ofL EP s80 (by kernel_rfl) Tryz.func80 (by rfl) (by kernel_rfl) (by simp [Tryz.f80]) (by simp [Tryz.f80]) s80_ok fun B hl => ?_
 simp [pS, maxLen] at hl
 simp [Tryz.f80, ]
 refine loop_rule (X := Nat) (fun i => i <= l.length /\ AllTo (fun x => !(x == v)) l i) (fun i => [(1, .d (.int .i64 v)), (7, .d (.pl (l.map cI))), (8, .d (.int .i64 l.length)), (9, .d (.int .i64 i))]) (fun _ => []) (fun i => l.length - i) 0 ⟨by simp, allTo_zero⟩ (by simp) (by simp) ?_
 intro i hs t m hi hh
 by_cases hlt : i < l.length
 ·have hwi := wr1 (i := i) (by omega)
  by_cases he : l[i] = v
  ·have hx := idxL_at hi.2 hlt he
   simp [hlt, he, hx, ]
  ·simp [hlt, he, hwi, ]
   exact back (i + 1) ⟨by omega, allTo_step hi.2 hlt (by simp [he])⟩ (by omega) rfl (by simp <;> omega) (by simp) (by simp)
 ·have hx := (idxL_no (allTo_done hi.2 (by omega))).2
  simp [hlt, hx]
theorem w_impl_hasInt (l : List Int) (v : Int) : VC Tryz.prog 46 [.d (pS cI l), .d (.int .i64 v)] (fun _ r => r = .d (.bool (l.contains v))) := by
 refine VC.ofL EP s46 (by kernel_rfl) Tryz.func46 (by rfl) (by kernel_rfl) (by simp [Tryz.f46]) (by simp [Tryz.f46]) s46_ok fun B hl => ?_
 rw [<- idxL_ge]
 simp [Tryz.f46, ]
 refine call_f (w_impl_indexOf l v) (by simp) rfl fun hs1 hh1 => ?_
 simp
theorem w_spec_ContainsVariable (a : PAtom) (v : Int) : VC Tryz.prog 31 [.agg ((eAtom a).map V.d), .d (.int .i64 v)] (fun _ r => r = .d (.bool (a.vars.contains v))) := by
 refine VC.ofL EP s31 (by kernel_rfl) Tryz.func31 (by rfl) (by kernel_rfl) (by simp [Tryz.f31]) (by simp [Tryz.f31]) s31_ok fun B hl => ?_
 obtain ⟨nm, l⟩ := a
 simp [pS, maxLen, eAtom] at hl
 simp [Tryz.f31, eAtom]
 refine loop_rule (X := Nat) (fun i => i <= l.length /\ AllTo (fun x => !(x == v)) l i) (fun i => [(1, .d (.int .i64 v)), (2, .ptr 2 0 0), (5, .d (.int .i64 i))]) (fun _ => [(2, some (.box [.d (.str nm), .d (.pl (l.map cI))]))]) (fun i => l.length - i) 0 ⟨by simp, allTo_zero⟩ (by simp) (by simp) ?_
 intro i hs t m hi hh
 by_cases hlt : i < l.length
 ·have hwi := wr1 (i := i) (by omega)
  by_cases he : l[i] = v
  ·have hx : v ∈ l := he ▸ List.getElem_mem hlt
   simp [hlt, he, hx, ]
  ·simp [hlt, he, hwi, ]
   exact back (i + 1) ⟨by omega, allTo_step hi.2 hlt (by simp [he])⟩ (by omega) rfl (by simp <;> omega) (by simp) (by simp)
 ·have hx := (idxL_no (allTo_done hi.2 (by omega))).1
  simp [hlt, hx]
theorem w_impl_ContainsVariable (a : PAtom) (v : Int) : VC Tryz.prog 79 [.agg ((eAtom a).map V.d), .d (.int .i64 v)] (fun _ r => r = .d (.bool (a.vars.contains v))) := by
 refine VC.ofL EP s79 (by kernel_rfl) Tryz.func79 (by rfl) (by kernel_rfl) (by simp [Tryz.f79]) (by simp [Tryz.f79]) s79_ok fun B hl => ?_
 simp [Tryz.f79, eAtom]
 refine call_f (w_impl_hasInt a.vars v) (by simp) rfl fun hs1 hh1 => ?_
 simp
theorem w_impl_isLetters (s : List UInt8) : VC Tryz.prog 103 [.d (.str s), .d (.int .i64 4)] (fun _ r => r = .d (.bool (nameOk s))) := by
 refine VC.ofL EP s103 (by kernel_rfl) Tryz.func103 (by rfl) (by kernel_rfl) (by simp [Tryz.f103]) (by simp [Tryz.f103]) s103_ok fun B hl => ?_
 by_cases h1 : (s.length : Int) < 1
 ·have : s = [] := List.length_eq_zero_iff.1 (by omega)
  subst this
  simp [Tryz.f103, nameOk_len]
 by_cases h4 : (4 : Int) < s.length
 ·have : nameOk s = false := nameOk_len (by omega)
  simp [Tryz.f103, h1, h4, this]
 have hlen : 1 <= s.length /\ s.length <= 4 := by omega
 simp [Tryz.f103, h1, h4]
 refine loop_rule (X := Nat) (fun i => i <= s.length /\ AllTo lowB s i) (fun i => [(0, .d (.str s)), (5, .d (.int .i64 i))]) (fun _ => []) (fun i => s.length - i) 0 ⟨by simp, allTo_zero⟩ (by simp) (by simp) ?_
 intro i hs t m hi hh
 by_cases hlt : i < s.length
 ·have hwi := wr1 (i := i) (by omega)
  by_cases ha : ((s[i]).toNat : Int) < 97
  ·have hbad := nameOk_bad (all_bad (p := lowB) hlt (lowB_lo ha))
   simp [hlt, ha, hbad, ]
  ·by_cases hz : (122 : Int) < ((s[i]).toNat : Int)
   ·have hbad := nameOk_bad (all_bad (p := lowB) hlt (lowB_hi hz))
    simp [hlt, ha, hz, hbad, ]
   ·simp [hlt, ha, hz, hwi, ]
    exact back (i + 1) ⟨by omega, allTo_step hi.2 hlt (lowB_ok ha hz)⟩ (by omega) rfl (by simp <;> omega) (by simp) (by simp)
 ·have hd := allTo_done hi.2 (by omega)
  have hd2 : nameOk s = true := by rw [nameOk_ok hd, decide_eq_true hlen]
  simp [hlt, hd2]
theorem w_impl_IsValidName (s : List UInt8) : VC Tryz.prog 84 [.d (.str s)] (fun _ r => r = .d (.bool (nameOk s))) := by
 refine VC.ofL EP s84 (by kernel_rfl) Tryz.func84 (by rfl) (by kernel_rfl) (by simp [Tryz.f84]) (by simp [Tryz.f84]) s84_ok fun B hl => ?_
 simp [Tryz.f84, ]
 refine call_f (w_impl_isLetters s) (by simp) rfl fun hs1 hh1 => ?_
 simp
theorem w_spec_IsValidName (s : List UInt8) (hb : s.length <= maxLen) : VC Tryz.prog 30 [.d (.str s)] (fun _ r => r = .d (.bool (nameOk s))) := by
 refine VC.ofL EP s30 (by kernel_rfl) Tryz.func30 (by rfl) (by kernel_rfl) (by simp [Tryz.f30]) (by simp [Tryz.f30]) s30_ok fun B hl => ?_
 simp only [maxLen] at hb
 simp [Tryz.f30, ]
 refine loop_rule (X := Nat) (fun i => i <= s.length /\ AllTo lowB s i) (fun i => [(0, .d (.str s)), (3, .d (.int .i64 i))]) (fun _ => []) (fun i => s.length - i) 0 ⟨by simp, allTo_zero⟩ (by simp) (by simp) ?_
 intro i hs t m hi hh
 by_cases hlt : i < s.length
 ·have hwi := wr1 (i := i) (by omega)
  by_cases ha : ((s[i]).toNat : Int) < 97
  ·have hbad := nameOk_bad (all_bad (p := lowB) hlt (lowB_lo ha))
   simp [hlt, ha, hbad, ]
  ·by_cases hz : (122 : Int) < ((s[i]).toNat : Int)
   ·have hbad := nameOk_bad (all_bad (p := lowB) hlt (lowB_hi hz))
    simp [hlt, ha, hz, hbad, ]
   ·simp [hlt, ha, hz, hwi, ]
    exact back (i + 1) ⟨by omega, allTo_step hi.2 hlt (lowB_ok ha hz)⟩ (by omega) rfl (by simp <;> omega) (by simp) (by simp)
 ·have hd := allTo_done hi.2 (by omega)
  simp [hlt, ]
  refine call_f (w_spec_l1In s.length 1 4) (by simp) rfl fun hs1 hh1 => ?_
  have e : inR (s.length : Int) 1 4 = decide (1 ≤ s.length ∧ s.length ≤ 4) := by
   simp only [inR, <- Bool.decide_and]; congr 1; apply propext; omega
  rw [e, nameOk_ok hd]
  simp
theorem w_impl_isSetOf (l : List Int) (n : Int) : VC Tryz.prog 78 [.d (pS cI l), .d (.int .i64 n)] (fun _ r => r = .d (.bool (setOf l n))) := by
 refine VC.ofL EP s78 (by kernel_rfl) Tryz.func78 (by rfl) (by kernel_rfl) (by simp [Tryz.f78]) (by simp [Tryz.f78]) s78_ok fun B hl => ?_
 simp [pS, maxLen] at hl
 simp [Tryz.f78, ]
 refine loop_rule (X := Nat) (SetTo l n) (fun i => [(0, .d (.pl (l.map cI))), (1, .d (.int .i64 n)), (7, .d (.pl (l.map cI))), (8, .d (.int .i64 l.length)), (9, .d (.int .i64 i))]) (fun _ => []) (fun i => l.length - i) 0 .zero (by simp) (by simp) ?_
 intro i hs t m hi hh
 have hil := hi.le
 by_cases hlt : i < l.length
 ·have hwi := wr1 (i := i) (by omega)
  simp [hlt, ]
  refine call_f (w_impl_within l[i] 0 (IntKind.i64.wrap (n - 1))) (by simp) rfl fun hs1 hh1 => ?_
  simp at hh1
  cases h1 : inR l[i] 0 (IntKind.i64.wrap (n - 1))
  ·simp [setOf_bad1 hlt h1]
  simp [hil, <- List.map_take, ]
  refine call_f (w_impl_hasInt (l.take i) l[i]) (by simp) rfl fun hs2 hh2 => ?_
  simp at hh2
  by_cases h2 : l[i] ∈ l.take i
  ·simp [h2, setOf_bad2 hlt h2]
  simp [h2, hwi, ]
  exact back (i + 1) (hi.step hlt h1 h2) (by omega) rfl (by simp <;> omega) (by simp) (by simp)
 ·have hd := hi.done (by omega)
  simp [hlt, hd]
end
end Go.Proofs.YtaoaoijchijlcaaGreatDoor
namespace Go.Proofs.YtaoaoijchijlcaaGreatDoor
open Go.Vs Go.Proofs Go
set_option maxRecDepth 100000
set_option maxHeartbeats 1000000
section
attribute [local simp] plI_id plStr_id map_plI map_plStr pS cP cI cStr cU8 cB eAtom
theorem w_spec_IsValidQuery (q : PQuery) (hst : ∀ a ∈ q.atoms, a.rel.length <= maxLen) : VC Tryz.prog 9 [.agg ((eQuery q).map V.d)] (fun _ r => r = .d (.bool (queryOk q))) := by
 refine VC.ofL EP s9 (by kernel_rfl) Tryz.func9 (by rfl) (by kernel_rfl) (by simp [Tryz.f9]) (by simp [Tryz.f9]) s9_ok fun B hl => ?_
 obtain ⟨n, ats, out⟩ := q
 simp only at hst
 simp [pS, maxLen, eQuery] at hl
 simp [Tryz.f9, s9_11, s9_26, s9_11, s9_26, eQuery]
 refine call_f (w_spec_l1In n 1 5) (by simp) rfl fun hs1 hh1 => ?_
 simp at hh1
 cases h1 : inR n 1 5
 ·simp [queryOk_n (q := ⟨n, ats, out⟩) h1]
 have hn : 1 <= n /\ n <= 5 := by simpa [inR] using h1
 simp [s9_11, s9_26, eQuery]
 refine call_f (w_spec_l1In ats.length 1 4) (by simp) rfl fun hs2 hh2 => ?_
 simp at hh2
 cases h2 : inR (ats.length : Int) 1 4
 ·simp [queryOk_a (q := ⟨n, ats, out⟩) h2]
 have ha4 : ats.length <= 4 := by simp [inR] at h2; omega
 by_cases h3 : n < out.length
 ·have hso : setOf out n = false := by
   cases hs : setOf out n
   ·rfl
   ·have := setOf_len hn hs; omega
  simp [h3, queryOk_o (q := ⟨n, ats, out⟩) hso]
 have hrw : ∀ i (h : i < ats.length), ats[i].rel.length <= maxLen := fun i h => hst _ (List.getElem_mem h)
 have hvl : ∀ i (h : i < ats.length), ats[i].vars.length <= 9223372036854775807 := fun i h => (hl.1.2 _ (List.getElem_mem h))
 simp [h3]
 refine loop_rule (X := Nat) (AtI n ats) (fun i => [(1, .ptr 1 0 0), (3, .d (.int .i64 i))]) (fun _ => [(1, some (.box [.d (.int .i64 n), .d (.pl (ats.map eAtom)), .d (.pl (out.map cI))]))]) (fun i => ats.length - i) 0 .zero (by simp) (by simp) ?_
 intro i hs t m hi hh
 have hil := hi.le
 by_cases hlt : i < ats.length
 ·have hwi := wr1 (i := i) (by omega)
  have hbad : atomOk n ats[i] = false -> queryOk ⟨n, ats, out⟩ = false := fun h => queryOk_at (q := ⟨n, ats, out⟩) hlt h
  simp [hlt, s9_11, s9_26, ]
  refine call_f (w_spec_IsValidName ats[i].rel (hrw i hlt)) (by simp) rfl fun hs3 hh3 => ?_
  simp at hh3
  cases h4 : nameOk ats[i].rel
  ·simp [hbad (by simp only [atomOk, h4, Bool.false_and])]
  simp [hlt, s9_11, s9_26, ]
  refine call_f (w_spec_l1In ats[i].vars.length 1 5) (by simp) rfl fun hs4 hh4 => ?_
  simp at hh4
  cases h5 : inR (ats[i].vars.length : Int) 1 5
  ·simp [hbad (by simp only [atomOk, h5, Bool.false_and, Bool.and_false])]
  simp [s9_11, s9_26, ]
  refine loop_rule (X := Nat) (AtK n ats[i].vars) (fun k => [(1, .ptr 1 0 0), (3, .d (.int .i64 i)), (4, .d (.int .i64 k))]) (fun _ => [(1, some (.box [.d (.int .i64 n), .d (.pl (ats.map eAtom)), .d (.pl (out.map cI))]))]) (fun k => ats[i].vars.length - k) 0 .zero (by simp) (by simp) ?_
  intro k hs t m hk hh
  have hkl := hk.le
  have hvi := hvl i hlt
  by_cases hkt : k < ats[i].vars.length
  ·have hwk := wr1 (i := k) (by omega)
   cases h6 : inR ats[i].vars[k] 0 (IntKind.i64.wrap (n - 1))
   ·have hq := hbad (atomOk_bad hkt h6)
    simp [hlt, hkt, s9_11, s9_26, ]
    refine call_f (VC.to (w_spec_l1In ats[i].vars[k] 0 (IntKind.i64.wrap (n - 1))) (show _ = V.d (.bool false) by rw [h6])) (by simp) rfl fun hs5 hh5 => ?_
    simp [hq]
   ·refine anyQ fun Q => ?_
    simp [hlt, hkt, s9_11, s9_26, ]
    refine call_f (VC.to (w_spec_l1In ats[i].vars[k] 0 (IntKind.i64.wrap (n - 1))) (show _ = V.d (.bool true) by rw [h6])) (by simp) rfl fun hs5 hh5 => ?_
    simp at hh5
    simp [hwk, s9_11, s9_26, ]
    exact back (k + 1) (hk.step hkt h6) (by omega) rfl (by simp <;> omega) (by simp) (by simp)
  ·have hao := atomOk_done hk (by omega) h4 h5
   simp [hlt, hkt, hwi, s9_11, s9_26, ]
   exact back (i + 1) (hi.step hlt hao) (by omega) rfl (by simp <;> omega) (by simp) (by simp)
 have hall := allTo_done hi.ok (by omega)
 simp [hlt, s9_11, s9_26, ]
 refine loop_rule (X := Nat) (UsTo n ats) (fun v => [(1, .ptr 1 0 0), (5, .d (.int .i64 v))]) (fun _ => [(1, some (.box [.d (.int .i64 n), .d (.pl (ats.map eAtom)), .d (.pl (out.map cI))]))]) (fun v => n.toNat - v) 0 .zero (by simp) (by simp) ?_
 intro v hs t m hv hh
 have hvn := hv.le
 by_cases hvt : v < n.toNat
 ·have hwv := wr1 (i := v) (by omega)
  have hvt' : (v : Int) < n := by omega
  simp [hvt', s9_11, s9_26, ]
  refine loop_rule (X := Nat) (fun i => i <= ats.length) (fun i => [(1, .ptr 1 0 0), (5, .d (.int .i64 v)), (6, .d (.bool (hasTo ats v i))), (7, .d (.int .i64 i))]) (fun _ => [(1, some (.box [.d (.int .i64 n), .d (.pl (ats.map eAtom)), .d (.pl (out.map cI))]))]) (fun i => ats.length - i) 0 (by simp) (by simp [hasTo_zero]) (by simp) ?_
  intro i hs t m hi hh
  by_cases hlt : i < ats.length
  ·have hwi := wr1 (i := i) (by omega)
   have hst := hasTo_step (v := (v : Int)) hlt
   refine anyQ fun Q => ?_
   cases h6 : hasTo ats v i
   ·rw [h6, Bool.false_or] at hst
    simp [hlt, s9_11, s9_26, ]
    refine call_f (w_spec_ContainsVariable ats[i] v) (by simp) rfl fun hs5 hh5 => ?_
    simp at hh5
    simp only [List.contains_eq_mem] at hst
    simp [hwi, s9_11, s9_26, ]
    exact back (i + 1) (by omega) (by omega) rfl (by simp <;> omega) (by simp [hst]) (by simp)
   ·rw [h6, Bool.true_or] at hst
    simp [hlt, hwi, s9_11, s9_26, ]
    exact back (i + 1) (by omega) (by omega) rfl (by simp <;> omega) (by simp [hst]) (by simp)
  ·have hha := hasTo_all (l := ats) (v := (v : Int)) (i := i) (by omega)
   cases h7 : (varsIn ats).contains (v : Int)
   ·rw [h7] at hha
    simp [hlt, hha, queryOk_u (q := ⟨n, ats, out⟩) (usesAll_bad hvt h7), s9_11, s9_26, ]
   ·rw [h7] at hha
    simp [hlt, hha, hwv, s9_11, s9_26, ]
    exact back (v + 1) (hv.step hvt h7) (by omega) rfl (by simp <;> omega) (by simp) (by simp)
 have hus := hv.done (by omega)
 have hvt' : ¬ (v : Int) < n := by omega
 simp [hvt', s9_11, s9_26, ]
 refine loop_rule (X := Nat) (SetTo out n) (fun i => [(1, .ptr 1 0 0), (8, .d (.int .i64 i))]) (fun _ => [(1, some (.box [.d (.int .i64 n), .d (.pl (ats.map eAtom)), .d (.pl (out.map cI))]))]) (fun i => out.length - i) 0 .zero (by simp) (by simp) ?_
 intro i hs t m hi hh
 have hil := hi.le
 by_cases hlt : i < out.length
 ·have hwi := wr1 (i := i) (by omega)
  simp [hlt, s9_11, s9_26, ]
  refine call_f (w_spec_l1In out[i] 0 (IntKind.i64.wrap (n - 1))) (by simp) rfl fun hs5 hh5 => ?_
  simp at hh5
  cases h6 : inR out[i] 0 (IntKind.i64.wrap (n - 1))
  ·simp [queryOk_o (q := ⟨n, ats, out⟩) (setOf_bad1 hlt h6)]
  simp [hil, hlt, <- List.map_take, s9_11, s9_26, ]
  refine call_f (w_spec_l7Find (out.take i) out[i]) (by simp) rfl fun hs6 hh6 => ?_
  simp at hh6
  have hge := idxL_ge (out.take i) out[i]
  by_cases h7 : out[i] ∈ out.take i
  ·have h8 : 0 ≤ idxL (out.take i) out[i] := by simpa [h7] using hge
   simp [h8, queryOk_o (q := ⟨n, ats, out⟩) (setOf_bad2 hlt h7)]
  ·have h8 : ¬ 0 ≤ idxL (out.take i) out[i] := by simpa [h7] using hge
   simp [h8, hwi, s9_11, s9_26, ]
   exact back (i + 1) (hi.step hlt h6 h7) (by omega) rfl (by simp <;> omega) (by simp) (by simp)
 ·have hd := hi.done (by omega)
  simp [hlt, queryOk_all (q := ⟨n, ats, out⟩) h1 h2 hd hall hus]
end
end Go.Proofs.YtaoaoijchijlcaaGreatDoor
namespace Go.Proofs.YtaoaoijchijlcaaGreatDoor
open Go.Vs Go.Proofs Go
set_option maxRecDepth 100000
set_option maxHeartbeats 1000000
section
attribute [local simp] plI_id plStr_id map_plI map_plStr pS cP cI cStr cU8 cB eAtom
theorem w_impl_IsValidQuery (q : PQuery) : VC Tryz.prog 52 [.agg ((eQuery q).map V.d)] (fun _ r => r = .d (.bool (queryOk q))) := by
 refine VC.ofL EP s52 (by kernel_rfl) Tryz.func52 (by rfl) (by kernel_rfl) (by simp [Tryz.f52]) (by simp [Tryz.f52]) s52_ok fun B hl => ?_
 obtain ⟨n, ats, out⟩ := q
 simp [pS, maxLen, eQuery] at hl
 simp [Tryz.f52, eQuery]
 refine call_f (w_impl_within n 1 5) (by simp) rfl fun hs1 hh1 => ?_
 simp at hh1
 cases h1 : inR n 1 5
 ·simp [queryOk_n (q := ⟨n, ats, out⟩) h1]
 have hn : 1 <= n /\ n <= 5 := by simpa [inR] using h1
 obtain ⟨N, rfl⟩ : ∃ N : Nat, n = (N : Int) := ⟨n.toNat, by omega⟩
 simp [eQuery]
 refine call_f (w_impl_within ats.length 1 4) (by simp) rfl fun hs2 hh2 => ?_
 simp at hh2
 cases h2 : inR (ats.length : Int) 1 4
 ·simp [queryOk_a (q := ⟨N, ats, out⟩) h2]
 have ha4 : ats.length <= 4 := by simp [inR] at h2; omega
 simp [eQuery]
 refine call_f (w_impl_isSetOf out N) (by simp) rfl fun hs3 hh3 => ?_
 simp at hh3
 cases h3 : setOf out N
 ·simp [queryOk_o (q := ⟨N, ats, out⟩) h3]
 have hvl : ∀ i (h : i < ats.length), ats[i].vars.length <= 9223372036854775807 := fun i h => (hl.1.2 _ (List.getElem_mem h))
 have hL : LenOk 1 N := ⟨by omega, by simp only [maxLen]; omega⟩
 have hwN : IntKind.i64.wrap ((N : Int) - 1) = N - 1 := wrap64_of (by omega) (by omega)
 simp [hL, ]
 refine loop_rule (X := Nat) (AtI N ats) (fun i => [(3, .d (.int .i64 N)), (4, .own 31 0 N), (33, .d (.pl (ats.map eAtom))), (34, .d (.int .i64 ats.length)), (35, .d (.int .i64 i))])
  (fun i => [(31, some (.row 4 1 ((usedL N (varsIn (ats.take i))).map cB)))]) (fun i => ats.length - i) 0 .zero (by simp) (by simp [usedL_nil, varsIn]) ?_
 intro i hs t m hi hh
 have hil := hi.le
 by_cases hlt : i < ats.length
 ·have hwi := wr1 (i := i) (by omega)
  have hbad : atomOk N ats[i] = false -> queryOk ⟨N, ats, out⟩ = false := fun h => queryOk_at (q := ⟨N, ats, out⟩) hlt h
  have hvs : varsIn (ats.take (i + 1)) = varsIn (ats.take i) ++ ats[i].vars := by
   rw [varsIn, List.take_succ_eq_append_getElem hlt, List.flatMap_append]; simp only [varsIn, List.flatMap_cons, List.flatMap_nil, List.append_nil]
  simp [hlt, ]
  refine call_f (w_impl_IsValidName ats[i].rel) (by simp) rfl fun hs3 hh3 => ?_
  simp at hh3
  cases h4 : nameOk ats[i].rel
  ·simp [hbad (by simp only [atomOk, h4, Bool.false_and])]
  simp []
  refine call_f (w_impl_within ats[i].vars.length 1 5) (by simp) rfl fun hs4 hh4 => ?_
  simp at hh4
  cases h5 : inR (ats[i].vars.length : Int) 1 5
  ·simp [hbad (by simp only [atomOk, h5, Bool.false_and, Bool.and_false])]
  simp []
  obtain ⟨us, hus⟩ : ∃ us, us = varsIn (ats.take i) := ⟨_, rfl⟩
  rw [<- hus] at hvs ⊢
  obtain ⟨vs, hvse⟩ : ∃ vs, vs = ats[i].vars := ⟨_, rfl⟩
  have hvi := hvl i hlt
  rw [<- hvse] at hvs hvi h5
  refine loop_rule (X := Nat) (AtK N vs) (fun k => [(3, .d (.int .i64 N)), (4, .own 31 0 N), (33, .d (.pl (ats.map eAtom))), (34, .d (.int .i64 ats.length)), (35, .d (.int .i64 i)), (51, .d (.pl (vs.map cI))), (52, .d (.int .i64 vs.length)), (53, .d (.int .i64 k))])
   (fun k => [(31, some (.row 4 1 ((usedL N (us ++ vs.take k)).map cB)))]) (fun k => vs.length - k) 0 .zero (by simp [hvse]) (by simp [hus]) ?_
  intro k hs t m hk hh
  have hkl := hk.le
  by_cases hkt : k < vs.length
  ·have hwk := wr1 (i := k) (by omega)
   simp [hkt, ]
   refine call_f (w_impl_within vs[k] 0 (IntKind.i64.wrap ((N : Int) - 1))) (by simp) rfl fun hs5 hh5 => ?_
   simp at hh5
   cases h6 : inR vs[k] 0 (IntKind.i64.wrap ((N : Int) - 1))
   ·have hq := hbad (atomOk_bad (k := k) (by rw [← hvse]; exact hkt) (by simpa only [← hvse] using h6))
    simp [hq]
   ·have hst := hk.step hkt h6
    rw [hwN] at h6
    simp only [inR, Bool.and_eq_true, decide_eq_true_eq] at h6
    obtain ⟨p, hp⟩ : ∃ p : Nat, vs[k] = (p : Int) := ⟨vs[k].toNat, by omega⟩
    have hpN : p < N := by omega
    have hset : usedL N (us ++ vs.take (k + 1)) = (usedL N (us ++ vs.take k)).set p true := by
     rw [usedL_snoc hpN, List.append_assoc, List.take_succ_eq_append_getElem hkt, hp]
    simp [hp, hpN, hwk, ]
    exact back (k + 1) hst (by omega) rfl (by simp <;> omega) (by simp) (by simp [hset])
  ·have hao := atomOk_done (n := N) (a := ats[i]) (k := k) (by rw [← hvse]; exact hk) (by rw [← hvse]; omega) h4 (by rw [← hvse]; exact h5)
   have hd : vs.take k = vs := List.take_of_length_le (by omega)
   simp [hkt, hwi, hd, ]
   exact back (i + 1) (hi.step hlt hao) (by omega) rfl (by simp <;> omega) (by simp) (by simp [hvs])
 have hall := allTo_done hi.ok (by omega)
 have hd : ats.take i = ats := List.take_of_length_le (by omega)
 rw [hd]
 simp [hlt, ]
 have hu := usesAll_iff (n := (N : Int)) (l := ats)
 rw [Int.toNat_natCast] at hu
 refine loop_rule (X := Nat) (fun j => j <= N /\ AllTo id (usedL N (varsIn ats)) j) (fun j => [(67, .own 31 0 N), (68, .d (.int .i64 N)), (69, .d (.int .i64 j))]) (fun _ => [(31, some (.row 4 1 ((usedL N (varsIn ats)).map cB)))]) (fun j => N - j) 0 ⟨by simp, allTo_zero⟩ (by simp) (by simp) ?_
 intro j hs t m hj hh
 by_cases hjt : j < N
 ·have hwj := wr1 (i := j) (by omega)
  have hjl : j < (usedL N (varsIn ats)).length := by simpa using hjt
  cases h6 : (usedL N (varsIn ats))[j]
  ·have hq : queryOk ⟨N, ats, out⟩ = false := queryOk_u (q := ⟨N, ats, out⟩) (by rw [hu]; exact all_bad (p := id) hjl h6)
   simp [hjt, h6, hq, ]
  ·simp [hjt, h6, hwj, ]
   exact back (j + 1) ⟨by omega, allTo_step hj.2 hjl h6⟩ (by omega) rfl (by simp <;> omega) (by simp) (by simp)
 ·have hus : usesAll N ats = true := by rw [hu]; exact allTo_done hj.2 (by simp; omega)
  simp [hjt, queryOk_all (q := ⟨N, ats, out⟩) h1 h2 h3 hall hus]
end
end Go.Proofs.YtaoaoijchijlcaaGreatDoor
namespace Go.Proofs.YtaoaoijchijlcaaGreatDoor
open Go.Vs Go.Proofs Go
set_option maxRecDepth 100000
set_option maxHeartbeats 1000000
section
attribute [local simp] plI_id plStr_id map_plI map_plStr pS cP cI cStr cU8 cB
theorem w_impl_IsStrictlyAscending (b : List Int) : VC Tryz.prog 88 [.d (pS cI b)] (fun _ r => r = .d (.bool (ascB b))) := by
 refine VC.ofL EP s88 (by kernel_rfl) Tryz.func88 (by rfl) (by kernel_rfl) (by simp [Tryz.f88]) (by simp [Tryz.f88]) s88_ok fun B hl => ?_
 simp [pS, maxLen] at hl
 simp [Tryz.f88, s88_4, s88_4, ]
 refine loop_rule (X := Nat) (AscI b) (fun i => [(0, .d (.pl (b.map cI))), (3, .d (.int .i64 i))]) (fun _ => []) (fun i => b.length + 1 - i) 1 .one (by simp) (by simp) ?_
 intro i hs t m hi hh
 have hle := hi.le
 by_cases hlt : i < b.length
 ·have hwi := wr1 (i := i) (by omega)
  have hw : IntKind.i64.wrap ((i : Int) - 1) = ((i - 1 : Nat) : Int) := by rw [wrap64_of (by omega) (by omega)]; omega
  have hl1 : i - 1 < b.length := by omega
  by_cases he : b[i - 1] < b[i]
  ·simp [hlt, hw, hl1, he, show ¬ b[i] ≤ b[i - 1] by omega, hwi, s88_4, ]
   exact back (i + 1) (hi.step hlt he) (by omega) rfl (by simp <;> omega) (by simp) (by simp)
  ·simp [hlt, hw, hl1, show b[i] <= b[i - 1] by omega, asc_bad hle.1 hlt he, s88_4, ]
 ·simp [hlt, hi.done (by omega)]
theorem w_impl_isBag (q : PQuery) (b : List Int) : VC Tryz.prog 57 [.agg ((eQuery q).map V.d), .d (pS cI b)] (fun _ r => r = .d (.bool (bagI q.n b))) := by
 refine VC.ofL EP s57 (by kernel_rfl) Tryz.func57 (by rfl) (by kernel_rfl) (by simp [Tryz.f57]) (by simp [Tryz.f57]) s57_ok fun B hl => ?_
 by_cases h0 : b.length = 0
 ·have : b = [] := List.length_eq_zero_iff.1 h0
  subst this
  simp [Tryz.f57, eQuery, bagI]
 have h1 : 0 < b.length := by omega
 simp [Tryz.f57, eQuery, h1]
 refine call_f (w_impl_IsStrictlyAscending b) (by simp) rfl fun hs1 hh1 => ?_
 simp at hh1
 cases h2 : ascB b
 ·simp [bagI, h2]
 simp []
 refine call_f (w_impl_isSetOf b q.n) (by simp) rfl fun hs2 hh2 => ?_
 simp [bagI, h1, h2]
theorem w_impl_common (l b : List Int) (hb : l.length <= 4294967296) : VC Tryz.prog 43 [.d (pS cI l), .d (pS cI b)] (fun _ r => r = .d (pS cI (commL l b))) := by
 refine VC.ofL EP s43 (by kernel_rfl) Tryz.func43 (by rfl) (by kernel_rfl) (by simp [Tryz.f43]) (by simp [Tryz.f43]) s43_ok fun B hl => ?_
 simp [Tryz.f43, ]
 refine loop_ruleL (X := Nat) (fun i _ => i <= l.length) (fun i => [(1, .d (.pl (b.map cI))), (5, .own 20 0 (commL (l.take i) b).length), (8, .d (.pl (l.map cI))), (9, .d (.int .i64 l.length)), (10, .d (.int .i64 i))]) (fun i => [(20, some (.row 3 1 ((commL (l.take i) b).map cI)))]) (fun i => l.length - i) ?_ ?_
 ·refine (lead_slot 5 20 3 1 (by omega) (by omega) (by simp)).bind ?_
  rintro _ rfl
  exact Lead.of ⟨0, by omega, rfl, rfl, Nat.le_refl _, by simp [commL], by simp [commL]⟩
 intro i hs t m hi hh
 by_cases hlt : i < l.length
 ·have hwi := wr1 (i := i) (by omega)
  have hst := comm_step (b := b) hlt
  have hcl := List.length_filter_le (fun v => b.contains v) (l.take i)
  rw [List.length_take] at hcl
  have hL : LenOk 8 ((commL (l.take i) b).length + 1) := ⟨by simp only [commL]; omega, by simp only [maxLen, commL]; omega⟩
  simp [hlt, ]
  refine call_f (w_impl_hasInt b l[i]) (by simp) rfl fun hs1 hh1 => ?_
  simp at hh1
  by_cases h1 : l[i] ∈ b
  ·have e : b.contains l[i] = true := by simpa using h1
   rw [e] at hst
   simp only [if_true] at hst
   simp [h1, hwi, hL, ]
   exact back2 (i + 1) (by omega) (by omega) rfl (by simp <;> omega) (by simp [hst]) (by simp [hst])
  ·have e : b.contains l[i] = false := by simpa using h1
   rw [e] at hst
   simp only [Bool.false_eq_true, if_false, List.append_nil] at hst
   simp [h1, hwi, ]
   exact back2 (i + 1) (by omega) (by omega) rfl (by simp <;> omega) (by simp [hst]) (by simp [hst])
 ·have hn : i = l.length := by omega
  subst hn
  simp [List.take_of_length_le]
theorem w_impl_AtomVariables (a : PAtom) : VC Tryz.prog 58 [.agg ((eAtom a).map V.d)] (fun _ r => r = .d (pS cI (avars a))) := by
 refine VC.ofL EP s58 (by kernel_rfl) Tryz.func58 (by rfl) (by kernel_rfl) (by simp [Tryz.f58]) (by simp [Tryz.f58]) s58_ok fun B hl => ?_
 simp [Tryz.f58, eAtom]
 refine loop_ruleL (X := Nat) (fun i _ => i <= 5) (fun i => [(1, .ptr 1 0 0), (3, .own 15 0 (avTo a i).length), (4, .d (.int .i64 i))]) (fun i => [(1, some (.box [.d (.str a.rel), .d (.pl (a.vars.map cI))])), (15, some (.row 3 1 ((avTo a i).map cI)))]) (fun i => 5 - i) ?_ ?_
 ·refine (lead_slot 3 15 3 1 (by omega) (by omega) (by simp)).bind ?_
  rintro _ rfl
  exact Lead.of ⟨0, by omega, rfl, rfl, Nat.le_refl _, by simp [avTo, rangeI_zero], by simp [avTo, rangeI_zero]⟩
 intro i hs t m hi hh
 by_cases hlt : i < 5
 ·have hwi := wr1 (i := i) (by omega)
  have hst := avTo_step a i
  have hal := avTo_len a i
  have hL : LenOk 8 ((avTo a i).length + 1) := ⟨by omega, by simp only [maxLen]; omega⟩
  have hlt' : (i : Int) < 5 := by omega
  simp [hlt', ]
  refine call_f (w_impl_ContainsVariable a i) (by simp [eAtom]) rfl fun hs1 hh1 => ?_
  simp at hh1
  by_cases h1 : (i : Int) ∈ a.vars
  ·have e : a.vars.contains (i : Int) = true := by simpa using h1
   rw [e] at hst
   simp only [if_true] at hst
   simp [h1, hwi, hL, ]
   exact back2 (i + 1) (by omega) (by omega) rfl (by simp <;> omega) (by simp [hst]) (by simp [hst])
  ·have e : a.vars.contains (i : Int) = false := by simpa using h1
   rw [e] at hst
   simp only [Bool.false_eq_true, if_false, List.append_nil] at hst
   simp [h1, hwi, ]
   exact back2 (i + 1) (by omega) (by omega) rfl (by simp <;> omega) (by simp [hst]) (by simp [hst])
 ·have hn : i = 5 := by omega
  subst hn
  have : avTo a 5 = avars a := rfl
  simp [this, List.take_of_length_le, ]
theorem w_spec_l30Within (a : PAtom) (b : List Int) : VC Tryz.prog 63 [.agg ((eAtom a).map V.d), .d (pS cI b)] (fun _ r => r = .d (.bool (insD a b))) := by
 refine VC.ofL EP s63 (by kernel_rfl) Tryz.func63 (by rfl) (by kernel_rfl) (by simp [Tryz.f63]) (by simp [Tryz.f63]) s63_ok fun B hl => ?_
 obtain ⟨nm, l⟩ := a
 simp [pS, maxLen, eAtom] at hl
 simp [Tryz.f63, eAtom]
 refine loop_rule (X := Nat) (InTo b ⟨nm, l⟩) (fun i => [(1, .d (.pl (b.map cI))), (2, .ptr 2 0 0), (5, .d (.int .i64 i))]) (fun _ => [(2, some (.box [.d (.str nm), .d (.pl (l.map cI))]))]) (fun i => l.length - i) 0 .zero (by simp) (by simp) ?_
 intro i hs t m hi hh
 have hle : i <= l.length := hi.le
 by_cases hlt : i < l.length
 ·have hwi := wr1 (i := i) (by omega)
  have hge := idxL_ge b l[i]
  simp [hlt, ]
  refine call_f (w_spec_l7Find b l[i]) (by simp) rfl fun hs1 hh1 => ?_
  simp at hh1
  by_cases h1 : l[i] ∈ b
  ·have h8 : ¬ idxL b l[i] < 0 := by have : 0 ≤ idxL b l[i] := by simpa [h1] using hge
                                     omega
   simp [h8, hwi, ]
   exact back (i + 1) (hi.step hlt h1) (by omega) rfl (by simp <;> omega) (by simp) (by simp)
  ·have h8 : idxL b l[i] < 0 := by have : ¬ 0 ≤ idxL b l[i] := by simpa [h1] using hge
                                   omega
   have hb : insD ⟨nm, l⟩ b = false := ins_bad (a := ⟨nm, l⟩) hlt h1
   simp [h8, hb]
 ·have hd : insD ⟨nm, l⟩ b = true := hi.done (by show l.length ≤ i; omega)
  simp [hlt, hd]
theorem w_spec_l30Bag (q : PQuery) (b : List Int) : VC Tryz.prog 62 [.agg ((eQuery q).map V.d), .d (pS cI b)] (fun _ r => r = .d (.bool (bagS q.n b))) := by
 refine VC.ofL EP s62 (by kernel_rfl) Tryz.func62 (by rfl) (by kernel_rfl) (by simp [Tryz.f62]) (by simp [Tryz.f62]) s62_ok fun B hl => ?_
 simp [pS, maxLen] at hl
 simp [Tryz.f62, s62_4, eQuery]
 refine loop_rule (X := Nat) (BagI q.n b) (fun i => [(1, .d (.pl (b.map cI))), (2, .ptr 2 0 0), (5, .d (.int .i64 i))]) (fun _ => [(2, some (.box [.d (.int .i64 q.n), .d (.pl (q.atoms.map eAtom)), .d (.pl (q.out.map cI))]))]) (fun i => b.length - i) 0 .zero (by simp) (by simp) ?_
 intro i hs t m hi hh
 have hle := hi.le
 by_cases hlt : i < b.length
 ·have hwi := wr1 (i := i) (by omega)
  simp [hlt, s62_4, ]
  refine call_f (w_spec_l1In b[i] 0 (IntKind.i64.wrap (q.n - 1))) (by simp) rfl fun hs1 hh1 => ?_
  simp at hh1
  cases h1 : inR b[i] 0 (IntKind.i64.wrap (q.n - 1))
  ·have hb : bagS q.n b = false := bagS_bad hlt (by rw [bagAt, getD_el _ hlt, h1, Bool.false_and])
   simp [hb, s62_4, ]
  by_cases h0 : i = 0
  ·subst h0
   have hwi0 : IntKind.i64.wrap 1 = 1 := by simpa using hwi
   have hok : bagAt q.n b 0 = true := by rw [bagAt, getD_el _ hlt, h1, Bool.true_and]; simp [ascAt]
   simp [hwi0, s62_4, ]
   exact back 1 (hi.step hlt hok) (by omega) rfl (by simp <;> omega) (by simp) (by simp)
  ·have h0' : 0 < i := by omega
   have hw : IntKind.i64.wrap ((i : Int) - 1) = ((i - 1 : Nat) : Int) := by rw [wrap64_of (by omega) (by omega)]; omega
   have hl1 : i - 1 < b.length := by omega
   have hat := ascAt_eq (b := b) (by omega) hlt
   by_cases he : b[i - 1] < b[i]
   ·have hok : bagAt q.n b i = true := by rw [bagAt, getD_el _ hlt, h1, Bool.true_and, hat]; simpa using he
    simp [h0', hlt, hw, hl1, show ¬ b[i] <= b[i - 1] by omega, hwi, s62_4, ]
    exact back (i + 1) (hi.step hlt hok) (by omega) rfl (by simp <;> omega) (by simp) (by simp)
   ·have hb : bagS q.n b = false := bagS_bad hlt (by rw [bagAt, getD_el _ hlt, h1, Bool.true_and, hat]; simpa using he)
    simp [h0', hlt, hw, hl1, show b[i] <= b[i - 1] by omega, hb, s62_4, ]
 ·have hd := hi.done (by omega)
  simp [hlt, hd]
end
end Go.Proofs.YtaoaoijchijlcaaGreatDoor
namespace Go.Proofs.YtaoaoijchijlcaaGreatDoor
open Go.Vs Go.Proofs Go
set_option maxRecDepth 100000
set_option maxHeartbeats 1000000
section
attribute [local simp] plI_id plStr_id map_plI map_plStr pS cP cI cStr cU8 cB
theorem w_impl_isTree (ps : List Int) (hb : ps.length <= 4294967296) : VC Tryz.prog 56 [.d (pS cI ps)] (fun _ r => r = .d (.bool (treeB ps))) := by
 refine VC.ofL EP s56 (by kernel_rfl) Tryz.func56 (by rfl) (by kernel_rfl) (by simp [Tryz.f56]) (by simp [Tryz.f56]) s56_ok fun B hl => ?_
 simp [pS, maxLen] at hl
 simp [Tryz.f56, ]
 refine loop_rule (X := Nat) (TreI ps) (fun i => [(0, .d (.pl (ps.map cI))), (3, .d (.int .i64 (rootsTo ps i))), (8, .d (.pl (ps.map cI))), (9, .d (.int .i64 ps.length)), (10, .d (.int .i64 i))]) (fun _ => []) (fun i => ps.length - i) 0 .zero (by simp [rootsTo]) (by simp) ?_
 intro i hs t m hi hh
 have hle := hi.le
 by_cases hlt : i < ps.length
 case neg =>
  have hd := hi.done (by omega)
  simp [hlt, hd]
  omega
 have hwi := wr1 (i := i) (by omega)
 have hw1 : IntKind.i64.wrap ((ps.length : Int) - 1) = ps.length - 1 := wrap64_of (by omega) (by omega)
 have hbad : treeAt ps i = false -> treeB ps = false := treeB_bad hlt
 have hri := rootsTo_le ps i
 have hst := rootsTo_step hlt
 have hwr : IntKind.i64.wrap ((rootsTo ps i : Int) + 1) = rootsTo ps i + 1 := wrap64_of (by omega) (by omega)
 simp [hlt, hw1, ]
 refine call_f (w_impl_within ps[i] (-1) (ps.length - 1)) (by simp) rfl fun hs1 hh1 => ?_
 simp at hh1
 cases h1 : inR ps[i] (-1) (ps.length - 1)
 ·have hb := hbad (by rw [treeAt, nxP_at hlt, h1, Bool.false_and])
  simp [hb]
 have hend : treeAt ps i = endNeg (upI ps (ps.length + 1) i) := by rw [treeAt, nxP_at hlt, h1, Bool.true_and]
 obtain ⟨R, hR⟩ : ∃ R : Nat, R = rootsTo ps (i + 1) := ⟨_, rfl⟩
 by_cases h2 : ps[i] < 0
 ·rw [if_pos h2] at hst
  simp [h2, hwr, ]
  refine loop_rule (X := Nat × Int) (UpT ps i) (fun p => [(0, .d (.pl (ps.map cI))), (3, .d (.int .i64 R)), (6, .d (.int .i64 p.2)), (7, .d (.int .i64 p.1)), (8, .d (.pl (ps.map cI))), (9, .d (.int .i64 ps.length)), (10, .d (.int .i64 i))]) (fun _ => []) (fun p => ps.length + 1 - p.1) (0, (i : Int)) ⟨by simp, by simp only; omega, rfl⟩ (by simp [hR, hst]) (by simp) ?_
  rintro ⟨k, a⟩ hs t m hk hh
  have hkl := hk.le
  have hka := hk.at_
  simp only at hkl hka
  by_cases hc : k <= ps.length /\ 0 <= a
  ·obtain ⟨hc1, hc2⟩ := hc
   obtain ⟨A, rfl⟩ : ∃ A : Nat, a = (A : Int) := ⟨a.toNat, by omega⟩
   have hA : A < ps.length := by omega
   have hwk := wr1 (i := k) (by omega)
   cases h3 : inR ps[A] (-1) (ps.length - 1)
   ·have hb := hbad (hk.bad hc1 hc2 (nxP_at hA) h3)
    simp [hc1, hA, hw1, ]
    refine call_f (VC.to (w_impl_within ps[A] (-1) (ps.length - 1)) (show _ = V.d (.bool false) by rw [h3])) (by simp) rfl fun hs3 hh3 => ?_
    simp [hb]
   ·refine anyQ fun Q => ?_
    simp [hc1, hA, hw1, ]
    refine call_f (VC.to (w_impl_within ps[A] (-1) (ps.length - 1)) (show _ = V.d (.bool true) by rw [h3])) (by simp) rfl fun hs3 hh3 => ?_
    simp at hh3
    simp [hwk, ]
    exact back (k + 1, ps[A]) (hk.step hc1 hc2 (nxP_at hA) h3) (by simp only; omega) rfl (by simp <;> omega) (by simp) (by simp)
  have hfin := hk.fin hc
  by_cases ha : a < 0
  ·have hok : treeAt ps i = true := by rw [hend, hfin]; simpa using ha
   have ha' : ¬ 0 <= a := by omega
   by_cases hk2 : k <= ps.length
   ·simp [hk2, ha, ha', hwi, ]
    exact back (i + 1) (hi.step hlt hok) (by omega) rfl (by simp <;> omega) (by simp [hR]) (by simp)
   ·simp [hk2, ha, ha', hwi, ]
    exact back (i + 1) (hi.step hlt hok) (by omega) rfl (by simp <;> omega) (by simp [hR]) (by simp)
  ·have hb := hbad (by rw [hend, hfin]; simpa using ha)
   have hk2 : ¬ k <= ps.length := fun h => hc ⟨h, by omega⟩
   simp [hk2, show 0 <= a by omega, hb, ]
 ·rw [if_neg h2] at hst
  simp [h2, ]
  refine loop_rule (X := Nat × Int) (UpT ps i) (fun p => [(0, .d (.pl (ps.map cI))), (3, .d (.int .i64 R)), (6, .d (.int .i64 p.2)), (7, .d (.int .i64 p.1)), (8, .d (.pl (ps.map cI))), (9, .d (.int .i64 ps.length)), (10, .d (.int .i64 i))]) (fun _ => []) (fun p => ps.length + 1 - p.1) (0, (i : Int)) ⟨by simp, by simp only; omega, rfl⟩ (by simp [hR, hst]) (by simp) ?_
  rintro ⟨k, a⟩ hs t m hk hh
  have hkl := hk.le
  have hka := hk.at_
  simp only at hkl hka
  by_cases hc : k <= ps.length /\ 0 <= a
  ·obtain ⟨hc1, hc2⟩ := hc
   obtain ⟨A, rfl⟩ : ∃ A : Nat, a = (A : Int) := ⟨a.toNat, by omega⟩
   have hA : A < ps.length := by omega
   have hwk := wr1 (i := k) (by omega)
   cases h3 : inR ps[A] (-1) (ps.length - 1)
   ·have hb := hbad (hk.bad hc1 hc2 (nxP_at hA) h3)
    simp [hc1, hA, hw1, ]
    refine call_f (VC.to (w_impl_within ps[A] (-1) (ps.length - 1)) (show _ = V.d (.bool false) by rw [h3])) (by simp) rfl fun hs3 hh3 => ?_
    simp [hb]
   ·refine anyQ fun Q => ?_
    simp [hc1, hA, hw1, ]
    refine call_f (VC.to (w_impl_within ps[A] (-1) (ps.length - 1)) (show _ = V.d (.bool true) by rw [h3])) (by simp) rfl fun hs3 hh3 => ?_
    simp at hh3
    simp [hwk, ]
    exact back (k + 1, ps[A]) (hk.step hc1 hc2 (nxP_at hA) h3) (by simp only; omega) rfl (by simp <;> omega) (by simp) (by simp)
  have hfin := hk.fin hc
  by_cases ha : a < 0
  ·have hok : treeAt ps i = true := by rw [hend, hfin]; simpa using ha
   have ha' : ¬ 0 <= a := by omega
   by_cases hk2 : k <= ps.length
   ·simp [hk2, ha, ha', hwi, ]
    exact back (i + 1) (hi.step hlt hok) (by omega) rfl (by simp <;> omega) (by simp [hR]) (by simp)
   ·simp [hk2, ha, ha', hwi, ]
    exact back (i + 1) (hi.step hlt hok) (by omega) rfl (by simp <;> omega) (by simp [hR]) (by simp)
  ·have hb := hbad (by rw [hend, hfin]; simpa using ha)
   have hk2 : ¬ k <= ps.length := fun h => hc ⟨h, by omega⟩
   simp [hk2, show 0 <= a by omega, hb, ]
theorem w_spec_JoinTreeRoot (ps : List Int) : VC Tryz.prog 60 [.agg [.d (pS cI ps)]] (fun _ r => r = .d (.int .i64 (rootS ps))) := by
 refine VC.ofL EP s60 (by kernel_rfl) Tryz.func60 (by rfl) (by kernel_rfl) (by simp [Tryz.f60]) (by simp [Tryz.f60]) s60_ok fun B hl => ?_
 simp [pS, maxLen] at hl
 simp [Tryz.f60, ]
 refine loop_rule (X := Nat × Int) (RootI ps) (fun p => [(1, .ptr 1 0 0), (3, .d (.int .i64 p.2)), (4, .d (.int .i64 p.1))]) (fun _ => [(1, some (.box [.d (.pl (ps.map cI))]))]) (fun p => ps.length - p.1) (0, -1) .zero (by simp) (by simp) ?_
 rintro ⟨i, o⟩ hs t m hI hh
 have hle := hI.le
 simp only at hle
 by_cases hlt : i < ps.length
 ·have hwi := wr1 (i := i) (by omega)
  by_cases h1 : ps[i] = -1
  ·by_cases h2 : 0 ≤ o
   ·simp [hlt, h1, h2, hI.two h2 hlt h1, ]
   ·simp [hlt, h1, h2, hwi, ]
    exact back (i + 1, (i : Int)) (hI.put (by omega) hlt h1) (by simp only; omega) rfl (by simp <;> omega) (by simp) (by simp)
  ·simp [hlt, h1, hwi, ]
   exact back (i + 1, o) (hI.skip hlt h1) (by simp only; omega) rfl (by simp <;> omega) (by simp) (by simp)
 ·simp [hlt, hI.done (by omega)]
theorem w_spec_l10Path (ps : List Int) (k0 : Int) (hb : ps.length <= 4294967296) : VC Tryz.prog 61 [.agg [.d (pS cI ps)], .d (.int .i64 k0)] (fun _ r => r = .d (pS cI (pathS ps (ps.length + 1) k0))) := by
 refine VC.ofL EP s61 (by kernel_rfl) Tryz.func61 (by rfl) (by kernel_rfl) (by simp [Tryz.f61]) (by simp [Tryz.f61]) s61_ok fun B hl => ?_
 have hw1 : IntKind.i64.wrap ((ps.length : Int) - 1) = ps.length - 1 := wrap64_of (by omega) (by omega)
 simp [Tryz.f61, ]
 refine loop_rule (X := Int × List Int) (PathI ps k0) (fun p => [(1, .d (.int .i64 p.1)), (2, .ptr 2 0 0), (5, .own 6 0 p.2.length)]) (fun p => [(2, some (.box [.d (.pl (ps.map cI))])), (6, some (.row 3 1 (p.2.map cI)))]) (fun p => ps.length + 1 - p.2.length) (k0, []) .zero (by simp) (by simp) ?_
 rintro ⟨k, o⟩ hs t m hI hh
 have hle := hI.le
 simp only at hle
 simp [hw1, ]
 refine call_f (w_spec_l1In k 0 (ps.length - 1)) (by simp) rfl fun hs3 hh3 => ?_
 simp at hh3
 cases h1 : inR k 0 (ps.length - 1)
 ·have hd := hI.done (by simp [h1])
  simp [hd, List.take_of_length_le, ]
 by_cases h2 : o.length <= ps.length
 ·have h1' := h1
  simp only [inR, Bool.and_eq_true, decide_eq_true_eq] at h1'
  have hst := hI.step h1 h2
  obtain ⟨K, rfl⟩ : ∃ K : Nat, k = (K : Int) := ⟨k.toNat, by omega⟩
  have hK : K < ps.length := by omega
  rw [nxP_at hK] at hst
  have hL : LenOk 8 (o.length + 1) := ⟨by omega, by simp only [maxLen]; omega⟩
  simp [h2, hK, hL, ]
  exact back (ps[K], o ++ [(K : Int)]) hst (by simp; omega) rfl (by simp <;> omega) (by simp) (by simp)
 ·have hd := hI.done (by simp [h2])
  simp [h2, hd, List.take_of_length_le, ]
theorem w_impl_topsOf (bags : List (List Int)) (ps : List Int) (v : Int) (hl2 : bags.length = ps.length) (hp : ∀ i (h : i < ps.length), -1 <= ps[i] /\ ps[i] < ps.length) : VC Tryz.prog 59 [.d (pS (cP cI) bags), .d (pS cI ps), .d (.int .i64 v)] (fun _ r => r = .d (.int .i64 (topN bags ps v bags.length))) := by
 refine VC.ofL EP s59 (by kernel_rfl) Tryz.func59 (by rfl) (by kernel_rfl) (by simp [Tryz.f59]) (by simp [Tryz.f59]) s59_ok fun B hl => ?_
 simp [pS, maxLen] at hl
 simp [Tryz.f59, ]
 refine loop_rule (X := Nat) (fun i => i <= bags.length) (fun i => [(0, .d (.pl (bags.map (cP cI)))), (1, .d (.pl (ps.map cI))), (2, .d (.int .i64 v)), (7, .d (.int .i64 (topN bags ps v i))), (10, .d (.pl (bags.map (cP cI)))), (11, .d (.int .i64 bags.length)), (12, .d (.int .i64 i))]) (fun _ => []) (fun i => bags.length - i) 0 (by simp) (by simp [topN]) (by simp) ?_
 intro i hs t m hi hh
 by_cases hlt : i < bags.length
 ·have hwi := wr1 (i := i) (by omega)
  have hlp : i < ps.length := by omega
  have hst := topN_step bags ps v i
  have htl := topN_le bags ps v i
  have hwt : IntKind.i64.wrap ((topN bags ps v i : Int) + 1) = topN bags ps v i + 1 := wrap64_of (by omega) (by omega)
  have hpi := hp i hlp
  simp [hlt, ]
  refine call_f (w_impl_hasInt bags[i] v) (by simp) rfl fun hs3 hh3 => ?_
  simp at hh3
  by_cases h1 : v ∈ bags[i]
  case neg =>
   have e : topIs bags ps v i = false := by rw [topIs, getD_el _ hlt]; simp [h1]
   rw [e] at hst
   simp only [Bool.false_eq_true, if_false, Nat.add_zero] at hst
   simp [h1, hwi, ]
   exact back (i + 1) (by omega) (by omega) rfl (by simp <;> omega) (by simp [hst]) (by simp)
  by_cases h2 : ps[i] < 0
  ·have e : topIs bags ps v i = true := by rw [topIs, getD_el _ hlt, getD_el _ hlp]; simp [h1, h2]
   rw [e] at hst
   simp only [if_true] at hst
   simp [h1, h2, hlp, hwi, hwt, ]
   exact back (i + 1) (by omega) (by omega) rfl (by simp <;> omega) (by simp [hst]) (by simp)
  obtain ⟨A, hA⟩ : ∃ A : Nat, ps[i] = (A : Int) := ⟨ps[i].toNat, by omega⟩
  have hAl : A < bags.length := by omega
  have h2' : ¬ (A : Int) < 0 := by omega
  simp [h1, hA, hAl, hlp, ]
  refine call_f (w_impl_hasInt bags[A] v) (by simp) rfl fun hs4 hh4 => ?_
  simp at hh4
  by_cases h3 : v ∈ bags[A]
  ·have e : topIs bags ps v i = false := by rw [topIs, getD_el _ hlt, getD_el _ hlp, hA, Int.toNat_natCast, getD_el _ hAl]; simp [h1, h3]
   rw [e] at hst
   simp only [Bool.false_eq_true, if_false, Nat.add_zero] at hst
   simp [h3, h2', hwi, ]
   exact back (i + 1) (by omega) (by omega) rfl (by simp <;> omega) (by simp [hst]) (by simp)
  ·have e : topIs bags ps v i = true := by rw [topIs, getD_el _ hlt, getD_el _ hlp, hA, Int.toNat_natCast, getD_el _ hAl]; simp [h1, h3]
   rw [e] at hst
   simp only [if_true] at hst
   simp [h3, h2', hwi, hwt, ]
   exact back (i + 1) (by omega) (by omega) rfl (by simp <;> omega) (by simp [hst]) (by simp)
 ·have hn : i = bags.length := by omega
  subst hn
  simp
end
end Go.Proofs.YtaoaoijchijlcaaGreatDoor
namespace Go.Proofs.YtaoaoijchijlcaaGreatDoor
open Go.Vs Go.Proofs Go
set_option maxRecDepth 100000
set_option maxHeartbeats 1000000
section
attribute [local simp] plI_id plStr_id map_plI map_plStr pS cP cI cStr cU8 cB
theorem w_impl_IsValidDecomposition (q : PQuery) (d : PDec) (hb : d.par.length <= 4294967296) : VC Tryz.prog 22 [.agg ((eQuery q).map V.d), .agg ((eDec d).map V.d)] (fun _ r => r = .d (.bool (decOk q d))) := by
 refine VC.ofL EP s22 (by kernel_rfl) Tryz.func22 (by rfl) (by kernel_rfl) (by simp [Tryz.f22]) (by simp [Tryz.f22]) s22_ok fun B hl => ?_
 obtain ⟨bags, ps⟩ := d
 simp only at hb
 simp [Tryz.f22, s22_17, s22_17, eQuery, eDec]
 refine call_f (w_impl_IsValidQuery q) (by simp [eQuery]) rfl fun hs1 hh1 => ?_
 simp at hh1
 cases h1 : queryOk q
 ·simp [decOk_q (d := ⟨bags, ps⟩) h1]
 have hn := queryOk_n5 h1
 by_cases h2 : bags.length = ps.length
 case neg => simp [h2, decOk_l (q := q) (d := ⟨bags, ps⟩) h2, s22_17, ]
 simp [h2, s22_17, ]
 refine call_f (w_impl_isTree ps hb) (by simp) rfl fun hs2 hh2 => ?_
 simp at hh2
 cases h3 : treeB ps
 ·simp [decOk_t (q := q) (d := ⟨bags, ps⟩) h3]
 have hpar := tree_par h3
 simp [h2, s22_17, ]
 refine loop_rule (X := Nat) (ToI (bagI q.n) bags) (fun i => [(2, .ptr 2 0 0), (5, .ptr 5 0 0), (34, .d (.pl (bags.map (cP cI)))), (35, .d (.int .i64 ps.length)), (36, .d (.int .i64 i))])
  (fun _ => [(2, some (.box [.d (.int .i64 q.n), .d (.pl (q.atoms.map eAtom)), .d (.pl (q.out.map cI))])), (5, some (.box [.d (.pl (bags.map (cP cI))), .d (.pl (ps.map cI))]))]) (fun i => bags.length - i) 0 .zero (by simp [eAtom]) (by simp) ?_
 intro i hs t m hi hh
 have hle := hi.le
 by_cases hlt : i < bags.length
 ·have hltp : i < ps.length := by omega
  have hwi := wr1 (i := i) (by omega)
  simp [hlt, hltp, s22_17, ]
  refine call_f (w_impl_isBag q bags[i]) (by simp [eQuery]) rfl fun hs3 hh3 => ?_
  simp at hh3
  cases h4 : bagI q.n bags[i]
  ·simp [decOk_b (q := q) (d := ⟨bags, ps⟩) hlt h4]
  simp [hwi, s22_17, ]
  exact back (i + 1) (hi.step hlt h4) (by omega) rfl (by simp <;> omega) (by simp) (by simp)
 have hbags := hi.done (by omega)
 have hlp : ¬ i < ps.length := by omega
 simp [hlt, hlp, s22_17, ]
 refine loop_rule (X := Nat) (ToI (anyIn bags) q.atoms) (fun i => [(2, .ptr 2 0 0), (5, .ptr 5 0 0), (46, .d (.pl (q.atoms.map eAtom))), (47, .d (.int .i64 q.atoms.length)), (48, .d (.int .i64 i))])
  (fun _ => [(2, some (.box [.d (.int .i64 q.n), .d (.pl (q.atoms.map eAtom)), .d (.pl (q.out.map cI))])), (5, some (.box [.d (.pl (bags.map (cP cI))), .d (.pl (ps.map cI))]))]) (fun i => q.atoms.length - i) 0 .zero (by simp) (by simp) ?_
 intro i hs t m hi hh
 have hle := hi.le
 have hat4 : q.atoms.length ≤ 4 := by
  cases h2 : inR (q.atoms.length : Int) 1 4
  ·rw [queryOk_a h2] at h1; cases h1
  ·simp only [inR, Bool.and_eq_true, decide_eq_true_eq] at h2; omega
 by_cases hlt : i < q.atoms.length
 ·have hwi := wr1 (i := i) (by omega)
  obtain ⟨nm, vs, hT⟩ : ∃ nm vs, q.atoms[i] = ⟨nm, vs⟩ := ⟨_, _, rfl⟩
  have hav : (avars ⟨nm, vs⟩).length <= 5 := avTo_len ⟨nm, vs⟩ 5
  have hall : anyTo (inAB ⟨nm, vs⟩) bags bags.length = anyIn bags q.atoms[i] := by rw [anyTo_all (Nat.le_refl _), hT]; rfl
  simp [hlt, hT, eAtom, s22_17, ]
  refine loop_rule (X := Nat) (fun j => j ≤ bags.length) (fun j => [(2, .ptr 2 0 0), (5, .ptr 5 0 0), (9, .ptr 9 0 0), (10, .d (.bool (anyTo (inAB ⟨nm, vs⟩) bags j))), (46, .d (.pl (q.atoms.map eAtom))), (47, .d (.int .i64 q.atoms.length)), (48, .d (.int .i64 i)), (53, .d (.pl (bags.map (cP cI)))), (54, .d (.int .i64 bags.length)), (55, .d (.int .i64 j))])
   (fun _ => [(2, some (.box [.d (.int .i64 q.n), .d (.pl (q.atoms.map eAtom)), .d (.pl (q.out.map cI))])), (5, some (.box [.d (.pl (bags.map (cP cI))), .d (.pl (ps.map cI))])), (9, some (.box [.d (.str nm), .d (.pl (vs.map cI))]))]) (fun j => bags.length - j) 0 (by simp) (by simp [anyTo_zero]) (by simp) ?_
  intro j hs t m hj hh
  by_cases hjt : j < bags.length
  ·have hwj := wr1 (i := j) (by omega)
   have hst := anyTo_step (f := inAB ⟨nm, vs⟩) hjt
   refine anyQ fun Q => ?_
   cases h6 : anyTo (inAB ⟨nm, vs⟩) bags j
   ·rw [h6, Bool.false_or] at hst
    simp [hjt, s22_17, ]
    refine call_p (w_impl_AtomVariables ⟨nm, vs⟩) (by simp [eAtom]) fun hs5 hh5 hl5 => ?_
    simp at hh5
    simp [s22_17, ]
    refine call_p (w_impl_common (avars ⟨nm, vs⟩) bags[j] (by omega)) (by simp) fun hs6 hh6 hl6 => ?_
    simp at hh6
    simp [s22_17, ]
    refine call_p (w_impl_AtomVariables ⟨nm, vs⟩) (by simp [eAtom]) fun hs7 hh7 hl7 => ?_
    simp at hh7
    by_cases h7 : (commL (avars ⟨nm, vs⟩) bags[j]).length = (avars ⟨nm, vs⟩).length
    ·have e : inAB ⟨nm, vs⟩ bags[j] = true := by rw [inAB, decide_eq_true h7]
     rw [e] at hst
     simp [h7, hwj, s22_17, ]
     exact back (j + 1) (by omega) (by omega) rfl (by simp <;> omega) (by simp [hst]) (by simp)
    ·have e : inAB ⟨nm, vs⟩ bags[j] = false := by rw [inAB, decide_eq_false h7]
     rw [e] at hst
     simp [h7, hwj, s22_17, ]
     exact back (j + 1) (by omega) (by omega) rfl (by simp <;> omega) (by simp [hst]) (by simp)
   ·rw [h6, Bool.true_or] at hst
    simp [hjt, hwj, s22_17, ]
    exact back (j + 1) (by omega) (by omega) rfl (by simp <;> omega) (by simp [hst]) (by simp)
  ·have hjn : j = bags.length := by omega
   subst hjn
   cases h7 : anyIn bags q.atoms[i]
   ·rw [h7] at hall
    simp [hall, decOk_a (q := q) (d := ⟨bags, ps⟩) hlt h7, s22_17, ]
   ·rw [h7] at hall
    simp [hall, hwi, s22_17, ]
    exact back (i + 1) (hi.step hlt h7) (by omega) rfl (by simp <;> omega) (by simp) (by simp)
 have hats := hi.done (by omega)
 simp [hlt, s22_17, ]
 refine loop_rule (X := Nat) (VarI ⟨bags, ps⟩ q.n.toNat) (fun v => [(2, .ptr 2 0 0), (5, .ptr 5 0 0), (13, .d (.int .i64 v))]) (fun _ => [(2, some (.box [.d (.int .i64 q.n), .d (.pl (q.atoms.map eAtom)), .d (.pl (q.out.map cI))])), (5, some (.box [.d (.pl (bags.map (cP cI))), .d (.pl (ps.map cI))]))]) (fun v => q.n.toNat - v) 0 .zero (by simp) (by simp) ?_
 intro v hs t m hv hh
 have hvn := hv.le
 by_cases hvt : v < q.n.toNat
 ·have hwv := wr1 (i := v) (by omega)
  have hvt' : (v : Int) < q.n := by omega
  simp [hvt', s22_17, ]
  refine call_f (w_impl_topsOf bags ps v h2 hpar) (by simp) rfl fun hs5 hh5 => ?_
  simp at hh5
  by_cases h7 : topN bags ps (v : Int) bags.length = 1
  ·simp [h7, hwv, s22_17, ]
   exact back (v + 1) (hv.step hvt h7) (by omega) rfl (by simp <;> omega) (by simp) (by simp)
  ·have h7' : ¬ (topN bags ps (v : Int) bags.length : Int) = 1 := by omega
   simp [h7', h7, decOk_v (q := q) (d := ⟨bags, ps⟩) hvt h7, s22_17, ]
 ·have hvs := hv.done (by omega)
  have hvt' : ¬ (v : Int) < q.n := by omega
  simp [hvt', decOk_all (q := q) (d := ⟨bags, ps⟩) h1 h2 h3 hbags hats hvs, s22_17, ]
theorem w_spec_IsValidDecomposition (q : PQuery) (d : PDec) (hst : ∀ a ∈ q.atoms, a.rel.length <= maxLen) (hb : d.par.length <= 4294967296) : VC Tryz.prog 23 [.agg ((eQuery q).map V.d), .agg ((eDec d).map V.d)] (fun _ r => r = .d (.bool (decOk q d))) := by
 refine VC.ofL EP s23 (by kernel_rfl) Tryz.func23 (by rfl) (by kernel_rfl) (by simp [Tryz.f23]) (by simp [Tryz.f23]) s23_ok fun B hl => ?_
 obtain ⟨bags, ps⟩ := d
 simp only at hb
 simp [Tryz.f23, s23_8, s23_17, s23_27, s23_8, s23_17, s23_27, eQuery, eDec]
 refine call_f (w_spec_IsValidQuery q hst) (by simp [eQuery]) rfl fun hs1 hh1 => ?_
 simp at hh1
 cases h1 : queryOk q
 ·simp [decOk_q (d := ⟨bags, ps⟩) h1, s23_8, s23_17, s23_27, ]
 have hn := queryOk_n5 h1
 by_cases h2 : bags.length = ps.length
 case neg => simp [show ¬ ps.length = bags.length from fun h => h2 h.symm, decOk_l (q := q) (d := ⟨bags, ps⟩) h2, s23_8, s23_17, s23_27, ]
 have h2' : ps.length = bags.length := h2.symm
 simp [h2', s23_8, s23_17, s23_27, ]
 refine call_f (w_spec_JoinTreeRoot ps) (by simp) rfl fun hs2 hh2 => ?_
 simp at hh2
 by_cases h3 : rootS ps < 0
 ·simp [h3, decOk_r (q := q) (d := ⟨bags, ps⟩) h3, s23_8, s23_17, s23_27, ]
 simp [h3, s23_8, s23_17, s23_27, ]
 refine loop_rule (X := Nat) (PlI q ⟨bags, ps⟩) (fun i => [(2, .ptr 2 0 0), (3, .ptr 3 0 0), (5, .ptr 5 0 0), (6, .d (.int .i64 i))]) (fun _ => [(2, some (.box [.d (.int .i64 q.n), .d (.pl (q.atoms.map eAtom)), .d (.pl (q.out.map cI))])), (3, some (.box [.d (.pl (bags.map (cP cI))), .d (.pl (ps.map cI))])), (5, some (.box [.d (.pl (ps.map cI))]))]) (fun i => bags.length - i) 0 .zero (by simp) (by simp) ?_
 intro i hs t m hi hh
 have hle : i <= bags.length := hi.le
 by_cases hlt : i < bags.length
 ·have hltp : i < ps.length := by omega
  have hwi := wr1 (i := i) (by omega)
  have hbad : placeOk q ⟨bags, ps⟩ i = false -> decOk q ⟨bags, ps⟩ = false := decOk_p (d := ⟨bags, ps⟩) h2 hlt
  have hpo : placeOk q ⟨bags, ps⟩ i = (bagS q.n bags[i] && pathOk ps i) := by rw [placeOk]; simp only; rw [getD_el _ hlt]
  obtain ⟨P, hP⟩ : ∃ P, P = pathS ps (ps.length + 1) i := ⟨_, rfl⟩
  have hPl : 0 < P.length := by rw [hP]; exact path_ne hltp
  have hPo : pathOk ps i = (decide (P.length <= ps.length) && decide (lastZ P = rootS ps)) := by rw [pathOk, <- hP]
  have hPle : P.length ≤ ps.length + 1 := by
   have hx : ∀ (m : Nat) (k : Int), (pathS ps m k).length ≤ m := fun m => by
    induction m with
    | zero => intro k; simp [pathS]
    | succ m ih =>
      intro k
      by_cases hc : inR k 0 (ps.length - 1) = true
      ·rw [path_yes hc]; have := ih (nxP ps k); simp; omega
      ·rw [path_out hc]; simp
   rw [hP]; exact hx _ _
  simp [hlt, s23_8, s23_17, s23_27, ]
  refine call_p (w_spec_l10Path ps i hb) (by simp) fun hs3 hh3 hl3 => ?_
  simp at hh3
  rw [<- hP]
  simp [hlt, s23_8, s23_17, s23_27, ]
  refine call_f (w_spec_l30Bag q bags[i]) (by simp [eQuery]) rfl fun hs4 hh4 => ?_
  simp at hh4
  cases h4 : bagS q.n bags[i]
  ·simp [hbad (by rw [hpo, h4, Bool.false_and]), s23_8, s23_17, s23_27, ]
  by_cases h5 : ps.length < P.length
  ·have h5' : ¬ P.length ≤ ps.length := by omega
   simp [h5, <- h2', hbad (by rw [hpo, hPo, decide_eq_false h5']; simp), s23_8, s23_17, s23_27, ]
  have h5' : P.length <= ps.length := by omega
  have hwl : IntKind.i64.wrap ((P.length : Int) - 1) = ((P.length - 1 : Nat) : Int) := by rw [wrap64_of (by omega) (by omega)]; omega
  have hll : P.length - 1 < P.length := by omega
  have hla : lastZ P = P[P.length - 1] := by rw [lastZ, getD_el _ hll]
  simp [h5, <- h2', hwl, hll, s23_8, s23_17, s23_27, ]
  refine call_f (w_spec_JoinTreeRoot ps) (by simp) rfl fun hs5 hh5 => ?_
  simp at hh5
  by_cases h6 : P[P.length - 1] = rootS ps
  ·have hok : placeOk q ⟨bags, ps⟩ i = true := by rw [hpo, hPo, h4, decide_eq_true h5', hla, decide_eq_true h6]; rfl
   simp [h6, hwi, s23_8, s23_17, s23_27, ]
   exact back (i + 1) (hi.step hlt hok) (by omega) rfl (by simp <;> omega) (by simp) (by simp)
  ·simp [h6, hbad (by rw [hpo, hPo, hla, decide_eq_false h6]; simp), s23_8, s23_17, s23_27, ]
 obtain ⟨h3t, hbags⟩ := places (q := q) (d := ⟨bags, ps⟩) h2 (by show 0 <= rootS ps; omega) (hi.done (by show bags.length <= i; omega))
 simp only at h3t hbags
 have hpar := tree_par h3t
 simp [hlt, s23_8, s23_17, s23_27, ]
 refine loop_rule (X := Nat) (ToI (anyIn bags) q.atoms) (fun i => [(2, .ptr 2 0 0), (3, .ptr 3 0 0), (5, .ptr 5 0 0), (8, .d (.int .i64 i))]) (fun _ => [(2, some (.box [.d (.int .i64 q.n), .d (.pl (q.atoms.map eAtom)), .d (.pl (q.out.map cI))])), (3, some (.box [.d (.pl (bags.map (cP cI))), .d (.pl (ps.map cI))])), (5, some (.box [.d (.pl (ps.map cI))]))]) (fun i => q.atoms.length - i) 0 .zero (by simp) (by simp) ?_
 intro i hs t m hi hh
 have hle := hi.le
 have hat4 : q.atoms.length ≤ 4 := by
  cases h2 : inR (q.atoms.length : Int) 1 4
  ·rw [queryOk_a h2] at h1; cases h1
  ·simp only [inR, Bool.and_eq_true, decide_eq_true_eq] at h2; omega
 by_cases hlt : i < q.atoms.length
 ·have hwi := wr1 (i := i) (by omega)
  obtain ⟨nm, vs, hT⟩ : ∃ nm vs, q.atoms[i] = ⟨nm, vs⟩ := ⟨_, _, rfl⟩
  have hall : anyTo (insD ⟨nm, vs⟩) bags bags.length = anyIn bags q.atoms[i] := by
   rw [anyTo_all (Nat.le_refl _), <- any_ins h1 (List.getElem_mem hlt), hT]
  simp [hlt, s23_8, s23_17, s23_27, ]
  refine loop_rule (X := Nat) (fun j => j <= bags.length) (fun j => [(2, .ptr 2 0 0), (3, .ptr 3 0 0), (5, .ptr 5 0 0), (8, .d (.int .i64 i)), (9, .d (.bool (anyTo (insD ⟨nm, vs⟩) bags j))), (10, .d (.int .i64 j))]) (fun _ => [(2, some (.box [.d (.int .i64 q.n), .d (.pl (q.atoms.map eAtom)), .d (.pl (q.out.map cI))])), (3, some (.box [.d (.pl (bags.map (cP cI))), .d (.pl (ps.map cI))])), (5, some (.box [.d (.pl (ps.map cI))]))]) (fun j => bags.length - j) 0 (by simp) (by simp [anyTo_zero]) (by simp) ?_
  intro j hs t m hj hh
  by_cases hjt : j < bags.length
  ·have hwj := wr1 (i := j) (by omega)
   have hst := anyTo_step (f := insD ⟨nm, vs⟩) hjt
   refine anyQ fun Q => ?_
   cases h6 : anyTo (insD ⟨nm, vs⟩) bags j
   ·rw [h6, Bool.false_or] at hst
    simp [hjt, hlt, hT, eAtom, s23_8, s23_17, s23_27, ]
    refine call_f (w_spec_l30Within ⟨nm, vs⟩ bags[j]) (by simp [eAtom]) rfl fun hs5 hh5 => ?_
    simp at hh5
    simp [hwj, s23_8, s23_17, s23_27, ]
    exact back (j + 1) (by omega) (by omega) rfl (by simp <;> omega) (by simp [hst]) (by simp)
   ·rw [h6, Bool.true_or] at hst
    simp [hjt, hwj, s23_8, s23_17, s23_27, ]
    exact back (j + 1) (by omega) (by omega) rfl (by simp <;> omega) (by simp [hst]) (by simp)
  ·have hjn : j = bags.length := by omega
   subst hjn
   cases h7 : anyIn bags q.atoms[i]
   ·rw [h7] at hall
    simp [hall, decOk_a (q := q) (d := ⟨bags, ps⟩) hlt h7, s23_8, s23_17, s23_27, ]
   ·rw [h7] at hall
    simp [hall, hwi, s23_8, s23_17, s23_27, ]
    exact back (i + 1) (hi.step hlt h7) (by omega) rfl (by simp <;> omega) (by simp) (by simp)
 have hats := hi.done (by omega)
 simp [hlt, s23_8, s23_17, s23_27, ]
 refine loop_rule (X := Nat) (VarI ⟨bags, ps⟩ q.n.toNat) (fun v => [(2, .ptr 2 0 0), (3, .ptr 3 0 0), (5, .ptr 5 0 0), (11, .d (.int .i64 v))]) (fun _ => [(2, some (.box [.d (.int .i64 q.n), .d (.pl (q.atoms.map eAtom)), .d (.pl (q.out.map cI))])), (3, some (.box [.d (.pl (bags.map (cP cI))), .d (.pl (ps.map cI))])), (5, some (.box [.d (.pl (ps.map cI))]))]) (fun v => q.n.toNat - v) 0 .zero (by simp) (by simp) ?_
 intro v hs t m hv hh
 have hvn := hv.le
 by_cases hvt : v < q.n.toNat
 case neg =>
  have hvs := hv.done (by omega)
  have hvt' : ¬ (v : Int) < q.n := by omega
  simp [hvt', decOk_all (q := q) (d := ⟨bags, ps⟩) h1 h2 h3t hbags hats hvs, s23_8, s23_17, s23_27, ]
 have hwv := wr1 (i := v) (by omega)
 have hvt' : (v : Int) < q.n := by omega
 simp [hvt', s23_8, s23_17, s23_27, ]
 refine loop_rule (X := Nat) (fun j => j <= bags.length) (fun j => [(2, .ptr 2 0 0), (3, .ptr 3 0 0), (5, .ptr 5 0 0), (11, .d (.int .i64 v)), (12, .d (.int .i64 (topN bags ps v j))), (13, .d (.int .i64 j))]) (fun _ => [(2, some (.box [.d (.int .i64 q.n), .d (.pl (q.atoms.map eAtom)), .d (.pl (q.out.map cI))])), (3, some (.box [.d (.pl (bags.map (cP cI))), .d (.pl (ps.map cI))])), (5, some (.box [.d (.pl (ps.map cI))]))]) (fun j => bags.length - j) 0 (by simp) (by simp [topN]) (by simp) ?_
 intro j hs t m hj hh
 by_cases hjt : j < bags.length
 ·have hwj := wr1 (i := j) (by omega)
  have hlp : j < ps.length := by omega
  have hst := topN_step bags ps v j
  have htl := topN_le bags ps v j
  have hwt : IntKind.i64.wrap ((topN bags ps v j : Int) + 1) = topN bags ps v j + 1 := wrap64_of (by omega) (by omega)
  have hpi := hpar j hlp
  have hg1 := idxL_ge bags[j] (v : Int)
  refine anyQ fun Q => ?_
  simp [hjt, s23_8, s23_17, s23_27, ]
  refine call_f (w_spec_l7Find bags[j] v) (by simp) rfl fun hs3 hh3 => ?_
  simp at hh3
  by_cases g1 : (v : Int) ∈ bags[j]
  case neg =>
   have e : topIs bags ps v j = false := by rw [topIs, getD_el _ hjt]; simp [g1]
   rw [e] at hst
   simp only [Bool.false_eq_true, if_false, Nat.add_zero] at hst
   have g2 : ¬ 0 <= idxL bags[j] (v : Int) := by simpa [g1] using hg1
   simp [g2, hwj, s23_8, s23_17, s23_27, ]
   exact back (j + 1) (by omega) (by omega) rfl (by simp <;> omega) (by simp [hst]) (by simp)
  have g2 : 0 <= idxL bags[j] (v : Int) := by simpa [g1] using hg1
  by_cases g3 : ps[j] = -1
  ·have e : topIs bags ps v j = true := by rw [topIs, getD_el _ hjt, getD_el _ hlp]; simp [g1, g3]
   rw [e] at hst
   simp only [if_true] at hst
   simp [g2, g3, hlp, hwj, hwt, s23_8, s23_17, s23_27, ]
   exact back (j + 1) (by omega) (by omega) rfl (by simp <;> omega) (by simp [hst]) (by simp)
  obtain ⟨A, hA⟩ : ∃ A : Nat, ps[j] = (A : Int) := ⟨ps[j].toNat, by omega⟩
  have hAl : A < bags.length := by omega
  have hA1 : ¬ (A : Int) = -1 := by omega
  have hA2 : ¬ (A : Int) < 0 := by omega
  have hg4 := idxL_ge bags[A] (v : Int)
  simp [g2, hA, hA1, hAl, hlp, hjt, s23_8, s23_17, s23_27, ]
  refine call_f (w_spec_l7Find bags[A] v) (by simp) rfl fun hs4 hh4 => ?_
  simp at hh4
  by_cases g4 : (v : Int) ∈ bags[A]
  ·have e : topIs bags ps v j = false := by rw [topIs, getD_el _ hjt, getD_el _ hlp, hA, Int.toNat_natCast, getD_el _ hAl]; simp [g1, g4]
   rw [e] at hst
   simp only [Bool.false_eq_true, if_false, Nat.add_zero] at hst
   have g5 : ¬ idxL bags[A] (v : Int) < 0 := by have : 0 ≤ idxL bags[A] (v : Int) := by simpa [g4] using hg4
                                                omega
   simp [g5, hA1, hwj, s23_8, s23_17, s23_27, ]
   exact back (j + 1) (by omega) (by omega) rfl (by simp <;> omega) (by simp [hst]) (by simp)
  ·have e : topIs bags ps v j = true := by rw [topIs, getD_el _ hjt, getD_el _ hlp, hA, Int.toNat_natCast, getD_el _ hAl]; simp [g1, g4]
   rw [e] at hst
   simp only [if_true] at hst
   have g5 : idxL bags[A] (v : Int) < 0 := by have : ¬ 0 ≤ idxL bags[A] (v : Int) := by simpa [g4] using hg4
                                              omega
   simp [g5, hA1, hwj, hwt, s23_8, s23_17, s23_27, ]
   exact back (j + 1) (by omega) (by omega) rfl (by simp <;> omega) (by simp [hst]) (by simp)
 ·have hjn : j = bags.length := by omega
  subst hjn
  by_cases h7 : topN bags ps (v : Int) bags.length = 1
  ·simp [h7, hwv, s23_8, s23_17, s23_27, ]
   exact back (v + 1) (hv.step hvt h7) (by omega) rfl (by simp <;> omega) (by simp) (by simp)
  ·have h7' : ¬ (topN bags ps (v : Int) bags.length : Int) = 1 := by omega
   simp [h7', h7, decOk_v (q := q) (d := ⟨bags, ps⟩) hvt h7, s23_8, s23_17, s23_27, ]
end
end Go.Proofs.YtaoaoijchijlcaaGreatDoor
namespace Go.Proofs.YtaoaoijchijlcaaGreatDoor
open Go.Vs Go.Proofs Go
set_option maxRecDepth 100000
set_option maxHeartbeats 1000000
theorem erI (l : List Int) : erLL (l.map cI) = l.map cI := by
 have := erLL_map er_cI l
 simpa [plI_id, map_plI] using this
@[simp] theorem start5 (a b c d e : V) (B : Nat) : St.start [a, b, c, d, e] B = ⟨B, B, [], upd (upd (upd (upd (upd (fun _ => .tup []) 4 e) 3 d) 2 c) 1 b) 0 a, fun _ => none⟩ := by
  simp only [St.start, St.mk.injEq, true_and, and_true]
  funext i; match i with | 0 => rfl | 1 => rfl | 2 => rfl | 3 => rfl | 4 => rfl | _ + 5 => rfl
section
attribute [local simp] plI_id plStr_id map_plI map_plStr pS cP cI
theorem e_copyIntsT (l : List Int) (hb : l.length <= 4294967296) :
  VC Tryz.prog 68 [.d (pS cI l)] (fun n r => ∃ g : Option Nat, r = .d (.sl g (some (3, 1)) (l.map cI)) /\ (l = [] -> True) /\ (∀ k, g = some k -> n <= k) /\ (g = none -> l = [])) := by
 refine VC.of E s68 (by kernel_rfl) Tryz.func68 (by rfl) (by kernel_rfl) (by simp [Tryz.f68]) (by simp [Tryz.f68]) s68_ok fun B => ?_
 have hL : LenOk 8 l.length := ⟨by omega, by simp only [maxLen]; omega⟩
 have hp : hpLL (l.map cI) = false := hpLL_mapI l
 simp [Tryz.f68, hL, hp, List.take_of_length_le]
 intro γ hs' h1 hg
 obtain ⟨q1, q2⟩ := gam_at hg (k := 3) (T := 3) (sz := 1) (es := l.map cI) (by simp)
 clear hg
 refine ⟨fun k hk => (q1 k hk).1, fun h => ?_⟩
 exact Classical.byContradiction fun hl => q2 (by simpa using hl) h
def avI (vs : List Int) (i : Nat) : List Int := (rangeI i).filter fun v => vs.contains v
theorem avI_zero (vs : List Int) : avI vs 0 = [] := rfl
theorem w_impl_AtomVariablesA (a : PAtom) : VC Tryz.prog 58 [.agg ((eAtom a).map V.d)] (fun _ r => r = .d (pS cI (aVars a.vars))) := by
 obtain ⟨nm, vs⟩ := a
 refine VC.ofL EP s58 (by kernel_rfl) Tryz.func58 (by rfl) (by kernel_rfl) (by simp [Tryz.f58]) (by simp [Tryz.f58]) s58_ok fun B hl => ?_
 simp [Tryz.f58, eAtom, cStr]
 refine loop_ruleL (X := Nat) (fun i _ => i <= 5) (fun i => [(1, .ptr 1 0 0), (3, .own 15 0 (avI vs i).length), (4, .d (.int .i64 i))]) (fun i => [(1, some (.box [.d (.str nm), .d (.pl (vs.map cI))])), (15, some (.row 3 1 ((avI vs i).map cI)))]) (fun i => 5 - i) ?_ ?_
 ·refine (lead_slot 3 15 3 1 (by omega) (by omega) (by simp)).bind ?_
  rintro _ rfl
  exact Lead.of ⟨0, by omega, rfl, rfl, Nat.le_refl _, by simp [avI_zero], by simp [avI_zero]⟩
 intro i hs t m hi hh
 by_cases hlt : i < 5
 ·have hwi := wr1 (i := i) (by omega)
  have hlz : (i : Int) < 5 := by omega
  have hlen : (avI vs i).length ≤ i := by
   have := List.length_filter_le (fun v => vs.contains v) (rangeI i)
   rw [rangeI_len] at this
   exact this
  have hL : LenOk 8 ((avI vs i).length + 1) := ⟨by omega, by simp only [maxLen]; omega⟩
  have hs' : avI vs (i + 1) = avI vs i ++ if vs.contains (i : Int) then [(i : Int)] else [] := by
   rw [avI, avI, rangeI_succ, List.filter_append]
   cases h : vs.contains (i : Int) <;> simp only [List.filter_cons, List.filter_nil, h] <;> rfl
  obtain ⟨L, hLd⟩ : ∃ L, L = avI vs i := ⟨_, rfl⟩
  rw [<- hLd] at hL hs' hlen ⊢
  refine anyQ2 fun Q => ?_
  simp [hlz, ]
  refine call_f (w_impl_ContainsVariable ⟨nm, vs⟩ i) (by simp [eAtom, cStr]) rfl fun hs1 hh1 => ?_
  simp at hh1
  cases hc : vs.contains (i : Int)
  ·rw [hc] at hs'
   simp only [Bool.false_eq_true, if_false, List.append_nil] at hs'
   simp [hwi, ]
   refine back2 (i + 1) (by omega) (by omega) rfl (by simp <;> omega) ?_ ?_
   ·rw [hs']; simp
   ·rw [hs']; simp
  ·rw [hc] at hs'
   simp only [if_true] at hs'
   simp [hwi, hL, List.take_of_length_le, ]
   refine back2 (i + 1) (by omega) (by omega) rfl (by simp <;> omega) ?_ ?_
   ·rw [hs']; simp
   ·rw [hs']; simp
 ·have hn : i = 5 := by omega
  subst hn
  have e : avI vs 5 = aVars vs := rfl
  rw [e]
  simp [List.take_of_length_le, ]
end
section
attribute [local simp] plI_id plStr_id map_plI map_plStr pS cP cI dSl
theorem uniL_snoc {a b : List Int} {i : Nat} (h : i < b.length) : uniL a (b.take (i + 1)) = insI (uniL a (b.take i)) b[i] := by
 rw [List.take_succ_eq_append_getElem h, uniL, List.foldl_append]; rfl
theorem insI_len (l : List Int) (n : Int) : (insI l n).length <= l.length + 1 := by
 rw [insI]
 split
 ·omega
 ·simp only [List.length_append, List.length_take, List.length_cons, List.length_drop]; omega
theorem uniL_len (a : List Int) : ∀ (b : List Int), (uniL a b).length <= a.length + b.length := by
 intro b
 induction b generalizing a with
 | nil => simp [uniL]
 | cons x r ih =>
   have h1 := ih (insI a x)
   have h2 := insI_len a x
   have : uniL a (x :: r) = uniL (insI a x) r := rfl
   rw [this, List.length_cons]; omega
theorem t_impl_unite (a b : Ints) (hl : a.xs.length + b.xs.length <= 1000) : VC Tryz.prog 44 [.d (dSl cI a), .d (dSl cI b)] (fun n r => ∃ y : Ints, r = .d (dSl cI y) /\ y.xs = uniL a.xs b.xs /\ okS okI y /\ Good (cS cI y) (whS whI y) n) := by
 refine VC.ofB E s44 (by kernel_rfl) Tryz.func44 (by rfl) (by kernel_rfl) (by simp [Tryz.f44]) (by simp [Tryz.f44]) s44_ok fun B hB => ?_
 obtain ⟨aid, aT, al⟩ := a
 obtain ⟨bid, bT, bl⟩ := b
 simp only at hl
 have hbB : ∀ g, bid = some g -> g < B := fun g h => hB g (by simp [idsVL, V.ids, D.ids, h])
 simp [Tryz.f44, s44_9]
 refine call_some ((e_copyIntsT al (by omega)).er (As := [.d (dSl cI ⟨aid, aT, al⟩)]) (by simp [erI])) (by simp) (by simp) fun n1 hs1 r1 hn1 hm1 hp1 hr1 => ?_
 obtain ⟨g1, rfl, _, hg1, hg1n⟩ := hp1
 have hi1 : ∀ k, g1 = some k -> k < hs1 := fun k hk => hr1 k (by simp [V.ids, D.ids, hk])
 simp at hn1
 simp [s44_9, ]
 refine loop_ruleL (X := Nat × Option Nat) (fun p h => p.1 <= bl.length /\ (∀ g, p.2 = some g -> B <= g /\ g < h) /\ (p.2 = none -> uniL al (bl.take p.1) = [])) (fun p => [(5, .d (.sl p.2 (some (3, 1)) ((uniL al (bl.take p.1)).map cI))), (11, .d (.sl bid bT (bl.map cI))), (12, .d (.int .i64 bl.length)), (13, .d (.int .i64 p.1))]) (fun _ => []) (fun p => bl.length - p.1) ?_ ?_
 ·exact Lead.of ⟨(0, g1), ⟨by simp, fun g hg => ⟨by have := hg1 g hg; omega, hi1 g hg⟩, fun h => by simpa [uniL] using hg1n h⟩, rfl, rfl, Nat.le_refl _, by simp [uniL], by simp⟩
 rintro ⟨i, id⟩ hs t m ⟨hi, hid, hnone⟩ hh
 simp only at hi hid hnone
 by_cases hlt : i < bl.length
 ·have hwi := wr1 (i := i) (by omega)
  have hst := uniL_snoc (a := al) hlt
  have hul := uniL_len al (bl.take i)
  rw [List.length_take] at hul
  obtain ⟨l, hld⟩ : ∃ l, l = uniL al (bl.take i) := ⟨_, rfl⟩
  obtain ⟨n, hn⟩ : ∃ n, n = bl[i] := ⟨_, rfl⟩
  rw [<- hld, <- hn] at hst
  rw [<- hld] at hul hnone ⊢
  refine anyQ2 fun Q => ?_
  simp [hlt, <- hn, s44_9, ]
  refine loop_rule (X := Nat) (fun k => k <= l.length /\ AllTo (fun x => decide (x < n)) l k) (fun k => [(5, .d (.sl id (some (3, 1)) (l.map cI))), (7, .d (.int .i64 n)), (8, .d (.int .i64 k)), (11, .d (.sl bid bT (bl.map cI))), (12, .d (.int .i64 bl.length)), (13, .d (.int .i64 i))]) (fun _ => []) (fun k => l.length - k) 0 ⟨by simp, allTo_zero⟩ (by simp) (by simp) ?_
  rintro k hs2 t2 m2 ⟨hk, hal⟩ hh2
  by_cases hkl : k < l.length
  ·by_cases hless : l[k] < n
   ·have hwk := wr1 (i := k) (by omega)
    refine anyQ fun Q => ?_
    simp [hkl, hless, hwk, s44_9, ]
    exact back (k + 1) ⟨by omega, allTo_step hal hkl (by simp [hless])⟩ (by omega) rfl (by simp <;> omega) (by simp) (by simp)
   have hK : (l.takeWhile fun x => decide (x < n)).length = k := takeWhile_at hal hk fun h => by simp [hless]
   by_cases heq : l[k] = n
   ·have hins : insI l n = l := by rw [insI, hK, getD_el _ hkl, if_pos heq]
    simp [hkl, hless, heq, hwi, show ¬ (k : Int) = l.length by omega, s44_9, ]
    refine back2 (i + 1, id) ⟨by simp only; omega, fun g hg => ?_, fun h => ?_⟩ (by simp only; omega) rfl (by simp <;> omega) (by simp [hst, hins]) (by simp)
    ·have := hid g hg; exact ⟨this.1, by simp; omega⟩
    ·rw [hst, hins]; exact hnone h
   ·have hins : insI l n = l.take k ++ n :: l.drop k := by rw [insI, hK, getD_el _ hkl, if_neg heq]
    simp [hkl, hless, heq, hwi, show ¬ (k : Int) = l.length by omega, show k <= l.length by omega, s44_9, ]
    have hki : k <= l.length := hk
    have L1 : LenOk 8 (k + 1) := ⟨by omega, by simp only [maxLen]; omega⟩
    have L1' : LenOk 8 1 := ⟨by omega, by simp only [maxLen]; omega⟩
    have L2 : LenOk 8 (k + 1 + (l.length - k)) := ⟨by omega, by simp only [maxLen]; omega⟩
    have L2' : LenOk 8 (1 + l.length) := ⟨by omega, by simp only [maxLen]; omega⟩
    have hmn : min k l.length = k := by omega
    have hpl : ∀ L : List Int, hpLL (L.map cI) = false := fun L => hpLL_mapI L
    repeat' apply And.intro
    all_goals
     refine call_some ((e_copyIntsT (l.take k) (by simp; omega)).er (by simp only [<- List.map_take]; simp [-List.map_take, erI])) (by simp) (by simp) fun n2 hs3 r2 hn2 hm2 hp2 hr2 => ?_
     obtain ⟨g2, rfl, _, hg2, hg2n⟩ := hp2
     have hn2' : hs2 <= n2 := hn2
     have hins2 : l.take k ++ n :: l.drop k = insI l n := hins.symm
     cases g2 with
     | none =>
       have hk0 : k = 0 := by
        have := congrArg List.length (hg2n rfl)
        simp only [List.length_take, List.length_nil] at this
        by_cases h : l.length = 0
        ·omega
        ·omega
       subst hk0
       have hins3 : insI l n = n :: l := by simpa using hins
       simp [L1', L2', hwi, List.take_of_length_le, s44_9, ]
       refine Back2.lead (lead_frz 49 (T := 3) (sz := 1) (es := (n :: l).map cI) (by simp)) ?_
       rintro _ ⟨γ, hs', h2, hg, rfl⟩
       obtain ⟨q1, q2⟩ := gam_at hg (k := 49) (T := 3) (sz := 1) (es := (n :: l).map cI) (by simp)
       clear hg
       simp only at h2 q1
       have hp0 := hpl (n :: l)
       have hp1 := hpl l
       refine back2 (i + 1, γ 49) ⟨by simp only; omega, fun g hg => ?_, fun h => absurd h (q2 (by simp))⟩ (by simp only; omega) rfl (by simp <;> omega) (by simp [hst, hins3, hp0, hp1, Vs.frz, St.frz, Nat.add_comm 1, List.take_of_length_le]) (by simp)
       exact ⟨(q1 g hg).1, by simpa using (q1 g hg).2⟩
     | some g =>
       have hgn := hg2 g rfl
       have kg : ∀ j, j < n2 -> kphi (some g) j = none := fun j hj => by simp only [kphi]; rw [if_neg (by simp; omega)]
       have e5 : reV (kphi (some g)) (.d (.sl id (some (3, 1)) (l.map cI))) = .d (.sl id (some (3, 1)) (l.map cI)) := reV_id (.d (dSl cI ⟨id, some (3, 1), l⟩)) fun j hj => kg j (by
        rcases mem_sl_ids.1 hj with h | h
        ·have := (hid j h).2; omega
        ·simp at h)
       have eD : ∀ (T0 : Option (TypeId × Nat)) (L : List Int), reV (kphi (some g)) (.d (.sl id T0 (L.map cI))) = .d (.sl id T0 (L.map cI)) := fun T0 L => reV_id (.d (dSl cI ⟨id, T0, L⟩)) fun j hj => kg j (by
        rcases mem_sl_ids.1 hj with h | h
        ·have := (hid j h).2; omega
        ·simp at h)
       have e11 : reV (kphi (some g)) (.d (.sl bid bT (bl.map cI))) = .d (.sl bid bT (bl.map cI)) := reV_id (.d (dSl cI ⟨bid, bT, bl⟩)) fun j hj => kg j (by
        rcases mem_sl_ids.1 hj with h | h
        ·have := hbB j h; omega
        ·simp at h)
       have hgB : B <= g := by omega
       have hids : ∀ L : List Int, g ∉ idsLL (L.map cI) := fun L => by simp
       simp [hgB, L1, L2, hmn, hwi, St.kill, e5, e11, eD, <- List.map_take, <- List.map_drop, List.take_of_length_le, s44_9, ]
       refine ⟨by simp [idsLL, idsL, D.ids], ?_⟩
       have a1 : k + 1 + (l.length - k) = l.length + 1 := by omega
       have hil : (insI l n).length = l.length + 1 := by rw [hins]; simp; omega
       refine Back2.lead (lead_frz 49 (T := 3) (sz := 1) (es := (insI l n).map cI) (by rw [hins]; simp [List.map_take, List.map_drop])) ?_
       rintro _ ⟨γ, hs', h2, hg, rfl⟩
       obtain ⟨q1, q2⟩ := gam_at hg (k := 49) (T := 3) (sz := 1) (es := (insI l n).map cI) (by rw [hins]; simp [List.map_take, List.map_drop])
       clear hg
       simp only at h2 q1
       have hp0 := hpl (insI l n)
       refine back2 (i + 1, γ 49) ⟨by simp only; omega, fun g hg => ?_, fun h => absurd h (q2 (by rw [hins]; simp))⟩ (by simp only; omega) rfl (by simp <;> omega) ?_ (by simp)
       ·exact ⟨(q1 g hg).1, by simpa using (q1 g hg).2⟩
       ·simp [hst, hp0, hil, a1, Vs.frz, St.frz, List.take_of_length_le]
  ·have hkn : k = l.length := by omega
   subst hkn
   have hK : (l.takeWhile fun x => decide (x < n)).length = l.length := takeWhile_at hal hk fun h => absurd h hkl
   have hins : insI l n = l ++ [n] := by
    have h0 : l.getD l.length (n + 1) ≠ n := by simp [List.getD]; omega
    rw [insI, hK, if_neg h0]; simp
   simp [hwi, s44_9, ]
   have L1 : LenOk 8 (l.length + 1) := ⟨by omega, by simp only [maxLen]; omega⟩
   have L1' : LenOk 8 1 := ⟨by omega, by simp only [maxLen]; omega⟩
   have hpl : ∀ L : List Int, hpLL (L.map cI) = false := fun L => hpLL_mapI L
   repeat' apply And.intro
   all_goals
    refine call_some ((e_copyIntsT l (by omega)).er (by simp [erI, List.take_of_length_le])) (by simp) (by simp) fun n2 hs3 r2 hn2 hm2 hp2 hr2 => ?_
    obtain ⟨g2, rfl, _, hg2, hg2n⟩ := hp2
    have hn2' : hs2 <= n2 := hn2
    cases g2 with
    | none =>
      have hl0 : l = [] := hg2n rfl
      subst hl0
      have hins3 : insI [] n = [n] := by simpa using hins
      simp [L1', hwi, List.take_of_length_le, s44_9, ]
      refine Back2.lead (lead_frz 49 (T := 3) (sz := 1) (es := [n].map cI) (by simp)) ?_
      rintro _ ⟨γ, hs', h2, hg, rfl⟩
      obtain ⟨q1, q2⟩ := gam_at hg (k := 49) (T := 3) (sz := 1) (es := [n].map cI) (by simp)
      clear hg
      simp only at h2 q1
      have hp0 := hpl [n]
      refine back2 (i + 1, γ 49) ⟨by simp only; omega, fun g hg => ?_, fun h => absurd h (q2 (by simp))⟩ (by simp only; omega) rfl (by simp <;> omega) (by simp [hst, hins3, hp0, Vs.frz, St.frz, List.take_of_length_le]) (by simp)
      exact ⟨(q1 g hg).1, by simpa using (q1 g hg).2⟩
    | some g =>
      have hgn := hg2 g rfl
      have kg : ∀ j, j < n2 -> kphi (some g) j = none := fun j hj => by simp only [kphi]; rw [if_neg (by simp; omega)]
      have eD : ∀ (T0 : Option (TypeId × Nat)) (L : List Int), reV (kphi (some g)) (.d (.sl id T0 (L.map cI))) = .d (.sl id T0 (L.map cI)) := fun T0 L => reV_id (.d (dSl cI ⟨id, T0, L⟩)) fun j hj => kg j (by
       rcases mem_sl_ids.1 hj with h | h
       ·have := (hid j h).2; omega
       ·simp at h)
      have e11 : reV (kphi (some g)) (.d (.sl bid bT (bl.map cI))) = .d (.sl bid bT (bl.map cI)) := reV_id (.d (dSl cI ⟨bid, bT, bl⟩)) fun j hj => kg j (by
       rcases mem_sl_ids.1 hj with h | h
       ·have := hbB j h; omega
       ·simp at h)
      have eD0 : ∀ (T0 : Option (TypeId × Nat)), reV (kphi (some g)) (.d (.sl id T0 [])) = .d (.sl id T0 []) := fun T0 => eD T0 []
      have hgB : B <= g := by omega
      simp [hgB, L1, hwi, St.kill, eD, eD0, e11, List.take_of_length_le, s44_9, ]
      refine ⟨by simp [idsLL, idsL, D.ids], ?_⟩
      refine Back2.lead (lead_frz 49 (T := 3) (sz := 1) (es := (insI l n).map cI) (by rw [hins]; simp)) ?_
      rintro _ ⟨γ, hs', h2, hg, rfl⟩
      obtain ⟨q1, q2⟩ := gam_at hg (k := 49) (T := 3) (sz := 1) (es := (insI l n).map cI) (by rw [hins]; simp)
      clear hg
      simp only at h2 q1
      have hp0 := hpl (insI l n)
      have hil : (insI l n).length = l.length + 1 := by rw [hins]; simp
      refine back2 (i + 1, γ 49) ⟨by simp only; omega, fun g hg => ?_, fun h => absurd h (q2 (by rw [hins]; simp))⟩ (by simp only; omega) rfl (by simp <;> omega) ?_ (by simp)
      ·exact ⟨(q1 g hg).1, by simpa using (q1 g hg).2⟩
      ·simp [hst, hp0, hil, Vs.frz, St.frz, List.take_of_length_le]
 ·have hn : i = bl.length := by omega
  subst hn
  simp [hlt, List.take_of_length_le, s44_9, ]
  have hul := uniL_len al bl
  exact ⟨⟨id, some (3, 1), uniL al bl⟩, ⟨rfl, rfl, rfl⟩, rfl, ⟨by simp only [maxLen]; omega, by simp [okI]⟩, good_ints (fun g hg => (hid g hg).1) (fun h hn => h (by simpa using hnone hn))⟩
end
end Go.Proofs.YtaoaoijchijlcaaGreatDoor
namespace Go.Proofs.YtaoaoijchijlcaaGreatDoor
open Go.Vs Go.Proofs Go
set_option maxRecDepth 100000
set_option maxHeartbeats 1000000
section
attribute [local simp] plI_id plStr_id map_plI map_plStr pS cP cI
theorem e_impl_unite (a b : List Int) (hl : a.length + b.length <= 1000) : VC Tryz.prog 44 [.d (pS cI a), .d (pS cI b)] (fun n r => ∃ y : Ints, r = .d (dSl cI y) /\ y.xs = uniL a b /\ okS okI y /\ Good (cS cI y) (whS whI y) n) := by
 refine VC.untrack (t_impl_unite ⟨none, none, []⟩ ⟨none, none, []⟩ (by simp)) (by simp [pnVL, V.pn, D.pn]) fun As h1 h2 h3 => ?_
 obtain ⟨x, y, rfl, ⟨hx, tx, _⟩, hy, ty, _⟩ := rp_args2 h1 h2 h3
 obtain ⟨s, rfl, e1⟩ := rp_sl tk_I hx tx
 obtain ⟨t, rfl, e2⟩ := rp_sl tk_I hy ty
 simp [plS] at e1 e2
 have := t_impl_unite s t (by rw [e1, e2]; exact hl)
 rw [e1, e2] at this
 exact this
theorem p_impl_unite (a b : List Int) (hl : a.length + b.length <= 1000) : VC Tryz.prog 44 [.d (pS cI a), .d (pS cI b)] (fun _ r => r = .d (pS cI (uniL a b))) := by
 refine VC.plain (e_impl_unite a b hl) (fun n r h => ?_) (by rw [pS]; rfl)
 obtain ⟨y, rfl, e1, _, _⟩ := h
 have e := er_cS (c := cI) (e := cI) (pl := plI) er_cI y
 simp [plS, e1, cS, erL] at e
 simp only [rp, e, pS]
end
end Go.Proofs.YtaoaoijchijlcaaGreatDoor
namespace Go.Proofs.YtaoaoijchijlcaaGreatDoor
open Go.Vs Go.Proofs Go
set_option maxRecDepth 100000
set_option maxHeartbeats 1000000
theorem flt_step {p : Int -> Bool} {l : List Int} {i : Nat} (h : i < l.length) : (l.take (i + 1)).filter p = (l.take i).filter p ++ if p l[i] then [l[i]] else [] := by
 rw [List.take_succ_eq_append_getElem h, List.filter_append]
 cases e : p l[i] <;> simp [e]
section
attribute [local simp] plI_id plStr_id map_plI map_plStr pS cP cI cU8 cB
theorem p_impl_common (l b : List Int) (hb : l.length <= 4294967296) : VC Tryz.prog 43 [.d (pS cI l), .d (pS cI b)] (fun _ r => r = .d (pS cI (comL l b))) := by
 refine VC.ofL EP s43 (by kernel_rfl) Tryz.func43 (by rfl) (by kernel_rfl) (by simp [Tryz.f43]) (by simp [Tryz.f43]) s43_ok fun B hl => ?_
 simp [Tryz.f43, ]
 refine loop_ruleL (X := Nat) (fun i _ => i <= l.length) (fun i => [(1, .d (.pl (b.map cI))), (5, .own 20 0 (comL (l.take i) b).length), (8, .d (.pl (l.map cI))), (9, .d (.int .i64 l.length)), (10, .d (.int .i64 i))]) (fun i => [(20, some (.row 3 1 ((comL (l.take i) b).map cI)))]) (fun i => l.length - i) ?_ ?_
 ·refine (lead_slot 5 20 3 1 (by omega) (by omega) (by simp)).bind ?_
  rintro _ rfl
  exact Lead.of ⟨0, by omega, rfl, rfl, Nat.le_refl _, by simp [comL], by simp [comL]⟩
 intro i hs t m hi hh
 by_cases hlt : i < l.length
 ·have hwi := wr1 (i := i) (by omega)
  have hst : comL (l.take (i + 1)) b = comL (l.take i) b ++ if b.contains l[i] then [l[i]] else [] := flt_step hlt
  have hcl := List.length_filter_le (fun v => b.contains v) (l.take i)
  rw [List.length_take] at hcl
  have hL : LenOk 8 ((comL (l.take i) b).length + 1) := ⟨by simp only [comL]; omega, by simp only [maxLen, comL]; omega⟩
  simp [hlt, ]
  refine call_f (w_impl_hasInt b l[i]) (by simp) rfl fun hs1 hh1 => ?_
  simp at hh1
  by_cases h1 : l[i] ∈ b
  ·have e : b.contains l[i] = true := by simpa using h1
   rw [e] at hst
   simp only [if_true] at hst
   simp [h1, hwi, hL, ]
   exact back2 (i + 1) (by omega) (by omega) rfl (by simp <;> omega) (by simp [hst]) (by simp [hst])
  ·have e : b.contains l[i] = false := by simpa using h1
   rw [e] at hst
   simp only [Bool.false_eq_true, if_false, List.append_nil] at hst
   simp [h1, hwi, ]
   exact back2 (i + 1) (by omega) (by omega) rfl (by simp <;> omega) (by simp [hst]) (by simp [hst])
 ·have hn : i = l.length := by omega
  subst hn
  simp [List.take_of_length_le]
theorem p_impl_without (l : List Int) (v : Int) (hb : l.length <= 4294967296) : VC Tryz.prog 45 [.d (pS cI l), .d (.int .i64 v)] (fun _ r => r = .d (pS cI (l.filter fun x => !(decide (x = v))))) := by
 refine VC.ofL EP s45 (by kernel_rfl) Tryz.func45 (by rfl) (by kernel_rfl) (by simp [Tryz.f45]) (by simp [Tryz.f45]) s45_ok fun B hl => ?_
 simp [Tryz.f45, ]
 obtain ⟨p, hp⟩ : ∃ p : Int -> Bool, p = fun x => !(decide (x = v)) := ⟨_, rfl⟩
 rw [<- hp]
 refine loop_ruleL (X := Nat) (fun i _ => i <= l.length) (fun i => [(1, .d (.int .i64 v)), (5, .own 20 0 ((l.take i).filter p).length), (8, .d (.pl (l.map cI))), (9, .d (.int .i64 l.length)), (10, .d (.int .i64 i))]) (fun i => [(20, some (.row 3 1 (((l.take i).filter p).map cI)))]) (fun i => l.length - i) ?_ ?_
 ·refine (lead_slot 5 20 3 1 (by omega) (by omega) (by simp)).bind ?_
  rintro _ rfl
  exact Lead.of ⟨0, by omega, rfl, rfl, Nat.le_refl _, by simp, by simp⟩
 intro i hs t m hi hh
 by_cases hlt : i < l.length
 ·have hwi := wr1 (i := i) (by omega)
  have hst := flt_step (p := p) hlt
  have hcl := List.length_filter_le p (l.take i)
  rw [List.length_take] at hcl
  have hL : LenOk 8 (((l.take i).filter p).length + 1) := ⟨by omega, by simp only [maxLen]; omega⟩
  by_cases h1 : l[i] = v
  ·have e : p l[i] = false := by rw [hp]; simp [h1]
   rw [e] at hst
   simp only [Bool.false_eq_true, if_false, List.append_nil] at hst
   simp [hlt, h1, hwi, ]
   exact back2 (i + 1) (by omega) (by omega) rfl (by simp <;> omega) (by simp [hst]) (by simp [hst])
  ·have e : p l[i] = true := by rw [hp]; simp [h1]
   rw [e] at hst
   simp only [if_true] at hst
   simp [hlt, h1, hwi, hL, ]
   exact back2 (i + 1) (by omega) (by omega) rfl (by simp <;> omega) (by simp [hst]) (by simp [hst])
 ·have hn : i = l.length := by omega
  subst hn
  simp [List.take_of_length_le]
theorem w_impl_IsValidOrder (q : PQuery) (o : List Int) : VC Tryz.prog 41 [.agg ((eQuery q).map V.d), .d (pS cI o)] (fun _ r => r = .d (.bool (ordOk q o))) := by
 have hqe : (eQuery q).map V.d = [V.d (.int .i64 q.n), V.d (.pl (q.atoms.map eAtom)), V.d (.pl (q.out.map cI))] := by simp [eQuery]
 refine VC.ofL EP s41 (by kernel_rfl) Tryz.func41 (by rfl) (by kernel_rfl) (by simp [Tryz.f41]) (by simp [Tryz.f41]) s41_ok fun B hl => ?_
 simp [Tryz.f41, hqe, ordOk]
 refine call_f (w_impl_IsValidQuery q) (by simp [hqe]) rfl fun hs1 hh1 => ?_
 simp at hh1
 cases hq : queryOk q
 ·simp []
 by_cases hn : (o.length : Int) = q.n
 ·simp [hn, ]
  refine call_f (w_impl_isSetOf o q.n) (by simp) rfl fun hs2 hh2 => ?_
  simp
 ·simp [hn, ]
end
end Go.Proofs.YtaoaoijchijlcaaGreatDoor
namespace Go.Proofs.YtaoaoijchijlcaaGreatDoor
open Go.Vs Go.Proofs Go
set_option maxRecDepth 100000
set_option maxHeartbeats 1000000
section
attribute [local simp] plI_id plStr_id map_plI map_plStr pS cP cI cU8 cB
theorem p_impl_Neighbors (q : PQuery) (v : Int) : VC Tryz.prog 42 [.agg ((eQuery q).map V.d), .d (.int .i64 v)] (fun _ r => r = .d (pS cI (nbrL q v))) := by
 have hqe : (eQuery q).map V.d = [V.d (.int .i64 q.n), V.d (.pl (q.atoms.map eAtom)), V.d (.pl (q.out.map cI))] := by simp [eQuery]
 refine VC.ofL EP s42 (by kernel_rfl) Tryz.func42 (by rfl) (by kernel_rfl) (by simp [Tryz.f42]) (by simp [Tryz.f42]) s42_ok fun B hl => ?_
 simp [Tryz.f42, hqe]
 refine call_f (w_impl_IsValidQuery q) (by simp [hqe]) rfl fun hs1 hh1 => ?_
 simp at hh1
 cases hq : queryOk q
 ·simp [nbrL, hq]
 have hln := queryOk_a4 hq
 obtain ⟨l, hl⟩ : ∃ l, l = q.atoms := ⟨_, rfl⟩
 have hok := nbr_ok hq v
 rw [<- hl] at hln hok
 simp [<- hl, ]
 refine loop_ruleL (X := Nat) (fun i _ => i <= l.length) (fun i => [(1, .d (.int .i64 v)), (5, .d (.pl ((nbF v (l.take i)).map cI))), (12, .d (.pl (l.map eAtom))), (13, .d (.int .i64 l.length)), (14, .d (.int .i64 i))]) (fun i => []) (fun i => l.length - i) ?_ ?_
 ·refine (lead_er 5 (x := .sl none none []) (by simp)).bind ?_
  rintro _ rfl
  exact Lead.of ⟨0, by omega, rfl, rfl, Nat.le_refl _, by simp [nbF, D.er, erLL], by simp⟩
 intro i hs t m hi hh
 by_cases hlt : i < l.length
 ·have hwi := wr1 (i := i) (by omega)
  have hsn := nbF_snoc v hlt
  have hbl := nbF_len v (l.take i)
  obtain ⟨⟨nm, vs⟩, ha⟩ : ∃ a, a = l[i] := ⟨_, rfl⟩
  obtain ⟨L, hL⟩ : ∃ L, L = nbF v (l.take i) := ⟨_, rfl⟩
  rw [<- ha, <- hL] at hsn
  rw [<- hL] at hbl ⊢
  have hav := aVars_len5 vs
  simp [hlt, <- ha, eAtom, cStr]
  refine call_f (w_impl_ContainsVariable ⟨nm, vs⟩ v) (by simp [eAtom, cStr]) rfl fun hs2 hh2 => ?_
  simp at hh2
  cases hc : vs.contains v
  ·rw [hc] at hsn
   simp only [Bool.false_eq_true, if_false] at hsn
   simp [hwi, ]
   exact back2 (i + 1) (by omega) (by omega) rfl (by simp <;> omega) (by simp [hsn]) (by simp)
  ·rw [hc] at hsn
   simp only [if_true] at hsn
   simp []
   refine call_p (w_impl_AtomVariablesA ⟨nm, vs⟩) (by simp [eAtom, cStr]) fun hs3 hh3 hl3 => ?_
   simp at hh3
   simp []
   refine call_p (p_impl_unite L (aVars vs) (by omega)) (by simp) fun hs4 hh4 hl4 => ?_
   simp at hh4
   simp [hwi, ]
   exact back2 (i + 1) (by omega) (by omega) rfl (by simp <;> omega) (by simp [hsn]) (by simp)
 ·have hn : i = l.length := by omega
  subst hn
  have hfl := nbF_len v l
  simp []
  refine call_p (p_impl_without (nbF v l) v (by omega)) (by simp) fun hs5 hh5 hl5 => ?_
  rw [hok]
  simp
end
section
attribute [local simp] plI_id plStr_id map_plI map_plStr pS cP cI cU8 cB
theorem w_spec_IsPermutation (l : List Int) : VC Tryz.prog 71 [.d (pS cI l)] (fun _ r => r = .d (.bool (setOf l l.length && decide (l.length <= 5)))) := by
 refine VC.ofL EP s71 (by kernel_rfl) Tryz.func71 (by rfl) (by kernel_rfl) (by simp [Tryz.f71]) (by simp [Tryz.f71]) s71_ok fun B hl => ?_
 simp [pS, maxLen] at hl
 simp [Tryz.f71, s71_4, s71_4, ]
 refine loop_rule (X := Nat) (SetTo l l.length) (fun i => [(0, .d (.pl (l.map cI))), (3, .d (.int .i64 i))]) (fun _ => []) (fun i => l.length - i) 0 .zero (by simp) (by simp) ?_
 intro i hs t m hi hh
 have hil := hi.le
 by_cases hlt : i < l.length
 ·have hwi := wr1 (i := i) (by omega)
  simp [hlt, s71_4, ]
  refine call_f (w_spec_l1In l[i] 0 (IntKind.i64.wrap (l.length - 1))) (by simp) rfl fun hs1 hh1 => ?_
  simp at hh1
  cases h1 : inR l[i] 0 (IntKind.i64.wrap (l.length - 1))
  ·simp [setOf_bad1 hlt h1]
  simp [hil, hlt, <- List.map_take, s71_4, ]
  refine call_f (w_spec_l7Find (l.take i) l[i]) (by simp) rfl fun hs2 hh2 => ?_
  simp at hh2
  have hge := idxL_ge (l.take i) l[i]
  by_cases h2 : l[i] ∈ l.take i
  ·have e : 0 ≤ idxL (l.take i) l[i] := by simpa [h2] using hge
   simp [e, setOf_bad2 hlt h2]
  have e : ¬ 0 <= idxL (l.take i) l[i] := by simpa [h2] using hge
  simp [e, hwi, s71_4, ]
  exact back (i + 1) (hi.step hlt h1 h2) (by omega) rfl (by simp <;> omega) (by simp) (by simp)
 ·have hd := hi.done (by omega)
  simp [hlt, hd, s71_4, ]
  omega
theorem w_spec_IsValidOrder (q : PQuery) (o : List Int) (hst : ∀ a ∈ q.atoms, a.rel.length <= maxLen) : VC Tryz.prog 34 [.agg ((eQuery q).map V.d), .d (pS cI o)] (fun _ r => r = .d (.bool (ordOk q o))) := by
 have hqe : (eQuery q).map V.d = [V.d (.int .i64 q.n), V.d (.pl (q.atoms.map eAtom)), V.d (.pl (q.out.map cI))] := by simp [eQuery]
 refine VC.ofL EP s34 (by kernel_rfl) Tryz.func34 (by rfl) (by kernel_rfl) (by simp [Tryz.f34]) (by simp [Tryz.f34]) s34_ok fun B hl => ?_
 simp [Tryz.f34, hqe, ordOk]
 refine call_f (w_spec_IsValidQuery q hst) (by simp [hqe]) rfl fun hs1 hh1 => ?_
 simp at hh1
 cases hq : queryOk q
 ·simp []
 have h5 := queryOk_n5 hq
 by_cases hn : (o.length : Int) = q.n
 ·simp [hn, ]
  refine call_f (w_spec_IsPermutation o) (by simp) rfl fun hs2 hh2 => ?_
  simp [hn]
  omega
 ·simp [hn, ]
end
end Go.Proofs.YtaoaoijchijlcaaGreatDoor
namespace Go.Proofs.YtaoaoijchijlcaaGreatDoor
open Go.Vs Go.Proofs Go
set_option maxRecDepth 100000
set_option maxHeartbeats 1000000
theorem any_step {α : Type} {p : α -> Bool} {l : List α} {i : Nat} (h : i < l.length) : (l.take (i + 1)).any p = ((l.take i).any p || p l[i]) := by
 rw [List.take_succ_eq_append_getElem h, List.any_append]; simp
def nbT (v w : Int) (l : List PAtom) (j : Nat) : Bool := !(decide (w = v)) && (l.take j).any fun a => a.vars.contains v && a.vars.contains w
theorem nbT_zero (v w : Int) (l : List PAtom) : nbT v w l 0 = false := by simp [nbT]
theorem nbT_all (q : PQuery) (v w : Int) : nbT v w q.atoms q.atoms.length = nbrB q v w := by simp only [nbT, nbrB, List.take_length]
theorem nbT_succ {v w : Int} {l : List PAtom} {j : Nat} (h : j < l.length) : nbT v w l (j + 1) = (nbT v w l j || (!(decide (w = v)) && (l[j].vars.contains v && l[j].vars.contains w))) := by
 rw [nbT, any_step h, nbT]; cases decide (w = v) <;> simp
section
attribute [local simp] plI_id plStr_id map_plI map_plStr pS cP cI cU8 cB
theorem w_spec_Neighbors (q : PQuery) (v : Int) (hst : ∀ a ∈ q.atoms, a.rel.length <= maxLen) : VC Tryz.prog 72 [.agg ((eQuery q).map V.d), .d (.int .i64 v)] (fun _ r => r = .d (pS cI (nbrL q v))) := by
 have hqe : (eQuery q).map V.d = [V.d (.int .i64 q.n), V.d (.pl (q.atoms.map eAtom)), V.d (.pl (q.out.map cI))] := by simp [eQuery]
 refine VC.ofL EP s72 (by kernel_rfl) Tryz.func72 (by rfl) (by kernel_rfl) (by simp [Tryz.f72]) (by simp [Tryz.f72]) s72_ok fun B hl => ?_
 simp [Tryz.f72, hqe, ]
 clear hl
 refine loop_rule (X := Nat) (OrdI q) (fun i => [(1, .d (.int .i64 v)), (2, .ptr 2 0 0), (5, .own 9 0 ((rangeI i).filter (nbrB q v)).length), (6, .d (.int .i64 i))]) (fun i => [(2, some (.box [.d (.int .i64 q.n), .d (.pl (q.atoms.map eAtom)), .d (.pl (q.out.map cI))])), (9, some (.row 3 1 (((rangeI i).filter (nbrB q v)).map cI)))]) (fun i => q.n.toNat - i) 0 ⟨by omega, fun h => by omega⟩ (by simp [rangeI_zero]) (by simp [rangeI_zero]) ?_
 intro i hs t m ⟨hi, hi0⟩ hh
 by_cases hlt : (i : Int) < q.n
 ·cases h1 : queryOk q
  ·have h0 : i = 0 := by by_cases h : 0 < i; rw [hi0 h] at h1; cases h1; omega
   subst h0
   simp [show (0 : Int) < q.n by omega, ]
   refine call_f (w_spec_IsValidQuery q hst) (by simp [hqe]) rfl fun hs1 hh1 => ?_
   simp [nbrL, h1, rangeI_zero, ]
  have hn := queryOk_n5 h1
  have hwi := wr1 (i := i) (by omega)
  have hal := queryOk_a4 h1
  have hln := List.length_filter_le (nbrB q v) (rangeI i)
  rw [rangeI_len] at hln
  have hL : LenOk 8 (((rangeI i).filter (nbrB q v)).length + 1) := ⟨by omega, by simp only [maxLen]; omega⟩
  have hsn : (rangeI (i + 1)).filter (nbrB q v) = (rangeI i).filter (nbrB q v) ++ if nbrB q v i then [(i : Int)] else [] := by
   rw [rangeI_succ, List.filter_append]; cases e : nbrB q v i <;> simp [e]
  obtain ⟨F, hF⟩ : ∃ F, F = (rangeI i).filter (nbrB q v) := ⟨_, rfl⟩
  rw [<- hF] at hsn hL ⊢
  obtain ⟨l, hl⟩ : ∃ l, l = q.atoms := ⟨_, rfl⟩
  have hst' : ∀ a ∈ l, a.rel.length <= maxLen := hl ▸ hst
  have hnb : nbT v i l l.length = nbrB q v i := by rw [hl]; exact nbT_all q v i
  rw [<- hl] at hal ⊢
  refine anyQ fun Q => ?_
  simp [hlt, ]
  refine call_f (w_spec_IsValidQuery q hst) (by simp [hqe, <- hl]) rfl fun hs1 hh1 => ?_
  simp at hh1
  simp [h1, ]
  refine loop_rule (X := Nat) (fun j => j <= l.length) (fun j => [(1, .d (.int .i64 v)), (2, .ptr 2 0 0), (5, .own 9 0 F.length), (6, .d (.int .i64 i)), (7, .d (.bool (nbT v i l j))), (8, .d (.int .i64 j))]) (fun j => [(2, some (.box [.d (.int .i64 q.n), .d (.pl (l.map eAtom)), .d (.pl (q.out.map cI))])), (9, some (.row 3 1 (F.map cI)))]) (fun j => l.length - j) 0 (by omega) (by simp [nbT_zero]) (by simp) ?_
  intro j hs2 t2 m2 hj hh2
  by_cases hjl : j < l.length
  ·have hwj := wr1 (i := j) (by omega)
   have hN' := nbT_succ (v := v) (w := i) hjl
   have hax := hst' _ (List.getElem_mem hjl)
   obtain ⟨⟨nm, vs⟩, ha⟩ : ∃ a, a = l[j] := ⟨_, rfl⟩
   rw [<- ha] at hN' hax
   simp only at hN'
   obtain ⟨N, hN⟩ : ∃ N, N = nbT v i l j := ⟨_, rfl⟩
   rw [<- hN] at hN' ⊢
   cases N with
   | true =>
     simp [hjl, hwj, ]
     simp only [Bool.true_or] at hN'
     exact back (j + 1) (by omega) (by omega) rfl (by simp <;> omega) (by simp [hN']) (by simp)
   | false =>
     by_cases hiv : (i : Int) = v
     ·simp [hjl, hwj, eq_true hiv, ]
      have hN2 : nbT v i l (j + 1) = false := by rw [hN']; simp [eq_true hiv]
      exact back (j + 1) (by omega) (by omega) rfl (by simp <;> omega) (by simp [hN2]) (by simp)
     simp [hjl, eq_false hiv, <- ha, eAtom, cStr]
     refine call_f (w_spec_ContainsVariable ⟨nm, vs⟩ v) (by simp [eAtom, cStr]) rfl fun hs3 hh3 => ?_
     simp at hh3
     cases hc : vs.contains v
     ·rw [hc] at hN'
      simp [hwj, ]
      have hN2 : nbT v i l (j + 1) = false := by rw [hN']; simp
      exact back (j + 1) (by omega) (by omega) rfl (by simp <;> omega) (by simp [hN2]) (by simp)
     rw [hc] at hN'
     simp [hjl, <- ha, eAtom, cStr]
     refine call_f (w_spec_ContainsVariable ⟨nm, vs⟩ i) (by simp [eAtom, cStr]) rfl fun hs4 hh4 => ?_
     simp at hh4
     simp [hwj, ]
     have hN2 : nbT v i l (j + 1) = vs.contains (i : Int) := by rw [hN']; simp [eq_false hiv]
     exact back (j + 1) (by omega) (by omega) rfl (by simp <;> omega) (by simp [hN2]) (by simp)
  ·have hn : j = l.length := by omega
   subst hn
   rw [hnb]
   cases hb : nbrB q v i
   ·rw [hb] at hsn
    simp only [Bool.false_eq_true, if_false, List.append_nil] at hsn
    simp [hwi, ]
    exact back (i + 1) ⟨by omega, fun _ => h1⟩ (by omega) rfl (by simp <;> omega) (by simp [hsn]) (by simp [hsn])
   ·rw [hb] at hsn
    simp only [if_true] at hsn
    simp [hwi, hL, ]
    exact back (i + 1) ⟨by omega, fun _ => h1⟩ (by omega) rfl (by simp <;> omega) (by simp [hsn]) (by simp [hsn])
 ·have hd : (rangeI i).filter (nbrB q v) = nbrL q v := by
   cases h1 : queryOk q
   ·have h0 : i = 0 := by by_cases h : 0 < i; rw [hi0 h] at h1; cases h1; omega
    subst h0; simp [nbrL, h1, rangeI_zero]
   ·have hn := queryOk_n5 h1
    have : i = q.n.toNat := by omega
    subst this; simp [nbrL, h1]
  simp [hlt, hd, List.take_of_length_le, ]
end
end Go.Proofs.YtaoaoijchijlcaaGreatDoor
namespace Go.Proofs.YtaoaoijchijlcaaGreatDoor
open Go.Vs Go.Proofs Go
set_option maxRecDepth 100000
set_option maxHeartbeats 1000000
theorem hpLL_B : ∀ l : List Bool, hpLL (l.map cB) = false
 | [] => rfl
 | b :: l => by simp [hpLL, hpL, D.hp, cB, hpLL_B l]
section
attribute [local simp] plI_id plStr_id map_plI map_plStr pS cP cI
theorem e_spec_l30Joined (q : PQuery) (N : Nat) (hN : q.n = (N : Int)) (hq : queryOk q = true) (hst : ∀ a ∈ q.atoms, a.rel.length <= maxLen) : VC Tryz.prog 35 [.agg ((eQuery q).map V.d)]
  (fun n r => ∃ g : Nat, r = .d (.sl (some g) (some (4, 1)) ((mtx N (nbrB q)).map cB)) /\ n <= g) := by
 have hn5 := queryOk_n5 hq
 rw [hN] at hn5
 have h15 : 1 <= N /\ N <= 5 := by omega
 have hqe : (eQuery q).map V.d = [V.d (.int .i64 N), V.d (.pl (q.atoms.map eAtom)), V.d (.pl (q.out.map cI))] := by simp [eQuery, hN]
 refine VC.of E s35 (by kernel_rfl) Tryz.func35 (by rfl) (by kernel_rfl) (by simp [Tryz.f35]) (by simp [Tryz.f35]) s35_ok fun B => ?_
 have hsq := mx_sq h15.2
 obtain ⟨S, hS⟩ : ∃ S, S = N * N := ⟨_, rfl⟩
 rw [<- hS] at hsq
 have hS0 : 0 < S := by rw [hS]; exact Nat.mul_pos h15.1 h15.1
 have hwS : IntKind.i64.wrap ((N : Int) * (N : Int)) = (S : Int) := by
  rw [hS, wrap64_of (by rw [<- Int.natCast_mul, <- hS]; omega) (by rw [<- Int.natCast_mul, <- hS]; omega), Int.natCast_mul]
 have hLS : LenOk 1 S := ⟨by omega, by simp only [maxLen]; omega⟩
 have hrep := jn_rep q hS
 have hml : ∀ f, (mtx N f).length = S := fun f => by rw [mtx_len, hS]
 simp [Tryz.f35, hqe, hwS, hLS, hrep, -mtx_len, ]
 refine loop_rule (X := Nat) (fun i => i <= N) (fun i => [(1, .ptr 1 0 0), (3, .d (.int .i64 N)), (4, .own 13 0 S), (5, .d (.int .i64 i))]) (fun i => [(1, some (.box [.d (.int .i64 N), .d (.pl (q.atoms.map eAtom)), .d (.pl (q.out.map cI))])), (13, some (.row 4 1 ((mtx N (jnA q i)).map cB)))]) (fun i => N - i) 0 (by omega) (by simp) (by simp) ?_
 intro i hs t m hi hh
 by_cases hlt : i < N
 ·have hwi := wr1 (i := i) (by omega)
  have hall := jnB_all hq hN hlt
  have hnl : ∀ x ∈ nbrL q i, 0 ≤ x ∧ x < N := fun x hx => by
   rw [nbrL, if_pos hq, List.mem_filter, rangeI_mem] at hx
   have := hx.1; rw [hN] at this; omega
  have hnk : (nbrL q i).length ≤ 5 := by
   rw [nbrL, if_pos hq]
   have := List.length_filter_le (nbrB q i) (rangeI q.n.toNat)
   rw [rangeI_len] at this; omega
  obtain ⟨l, hl⟩ : ∃ l, l = nbrL q i := ⟨_, rfl⟩
  rw [<- hl] at hall hnl hnk
  refine anyQ fun Q => ?_
  simp [hlt, ]
  refine call_p (w_spec_Neighbors q i hst) (by simp [hqe]) fun hs1 hh1 hl1 => ?_
  simp at hh1
  rw [<- hl]
  simp []
  refine loop_rule (X := Nat) (fun j => j <= l.length) (fun j => [(1, .ptr 1 0 0), (3, .d (.int .i64 N)), (4, .own 13 0 S), (5, .d (.int .i64 i)), (6, .d (.pl (l.map cI))), (7, .d (.int .i64 j))]) (fun j => [(1, some (.box [.d (.int .i64 N), .d (.pl (q.atoms.map eAtom)), .d (.pl (q.out.map cI))])), (13, some (.row 4 1 ((mtx N (jnB q i l j)).map cB)))]) (fun j => l.length - j) 0 (by omega) (by simp) (by simp [jnB_zero]) ?_
  intro j hs2 t2 m2 hj hh2
  by_cases hjl : j < l.length
  ·have hwj := wr1 (i := j) (by omega)
   have hr := hnl _ (List.getElem_mem hjl)
   obtain ⟨b, hb⟩ : ∃ b : Nat, l[j] = (b : Int) := ⟨l[j].toNat, by omega⟩
   have hbN : b < N := by omega
   have hix := mx_ix h15.2 hlt hbN
   have hset := jnB_step (q := q) (i := i) (n := N) hjl hb hbN
   rw [<- hS] at hix
   obtain ⟨R, hR⟩ : ∃ R, R = i * N := ⟨_, rfl⟩
   rw [<- hR] at hix hset
   obtain ⟨K, hK⟩ : ∃ K, K = R + b := ⟨_, rfl⟩
   rw [<- hK] at hix hset
   have hw1 : IntKind.i64.wrap ((i : Int) * (N : Int)) = (R : Int) := by
    rw [wrap64_of (by rw [<- Int.natCast_mul, <- hR]; omega) (by rw [<- Int.natCast_mul, <- hR]; omega), <- Int.natCast_mul, <- hR]
   have hw2 : IntKind.i64.wrap ((R : Int) + (b : Int)) = (K : Int) := by rw [wrap64_of (by omega) (by omega)]; omega
   have hKS := hix.1
   have hset2 : ((mtx N (jnB q i l j)).map cB).set K [D.bool true] = (mtx N (jnB q i l (j + 1))).map cB := by
    rw [<- hset, List.map_set]; rfl
   simp [hjl, hb, hw1, hw2, hKS, hwj, hml, -mtx_len, -List.map_set, ]
   exact back (j + 1) (by omega) (by omega) rfl (by simp <;> omega) (by simp) (by simp [hset2, -mtx_len, -List.map_set])
  ·have hn : j = l.length := by omega
   subst hn
   simp [hwi, ]
   exact back (i + 1) (by omega) (by omega) rfl (by simp <;> omega) (by simp) (by simp [hall])
 ·have hn : i = N := by omega
  subst hn
  have hfin : mtx i (jnA q i) = mtx i (nbrB q) := jnA_all q [] i
  have hlen := hml (nbrB q)
  rw [hfin]
  simp []
  intro γ hs' h1 hg
  obtain ⟨q1, q2⟩ := gam_at hg (k := 13) (T := 4) (sz := 1) (es := (mtx i (nbrB q)).map cB) (by simp)
  clear hg
  have hne : γ 13 ≠ none := q2 fun h => by
   have h3 : ((mtx i (nbrB q)).map cB).length = S := by rw [List.length_map, hlen]
   rw [h] at h3; simp at h3; omega
  cases hg : γ 13 with
  | none => exact absurd hg hne
  | some g =>
    refine ⟨_, ?_, g, rfl, (q1 g hg).1⟩
    simp [List.take_of_length_le, hpLL_B]
    exact ⟨Nat.le_of_eq hS, hS, List.take_of_length_le (by simp [hS])⟩
end
end Go.Proofs.YtaoaoijchijlcaaGreatDoor
namespace Go.Proofs.YtaoaoijchijlcaaGreatDoor
open Go.Vs Go.Proofs Go
set_option maxRecDepth 100000
set_option maxHeartbeats 1000000
section
attribute [local simp] plI_id plStr_id map_plI map_plStr pS cP cI
theorem w_spec_DecompositionFromOrder (q : PQuery) (o : List Int) (hst : ∀ a ∈ q.atoms, a.rel.length <= maxLen) : VC Tryz.prog 11 [.agg ((eQuery q).map V.d), .d (pS cI o)]
  (fun _ r => r = .tup [.agg ((eDec (dcP q o)).map V.d), .d (.bool (ordOk q o))]) := by
 have hqe : (eQuery q).map V.d = [V.d (.int .i64 q.n), V.d (.pl (q.atoms.map eAtom)), V.d (.pl (q.out.map cI))] := by simp [eQuery]
 refine VC.ofL EP s11 (by kernel_rfl) Tryz.func11 (by rfl) (by kernel_rfl) (by simp [Tryz.f11]) (by simp [Tryz.f11]) s11_ok fun B hl => ?_
 clear hl
 simp [Tryz.f11, s11_31, hqe, s11_31, ]
 refine call_f (w_spec_IsValidOrder q o hst) (by simp [hqe]) rfl fun hs1 hh1 => ?_
 simp at hh1
 cases hok : ordOk q o
 ·simp [dcP, hok, eDec, s11_31, ]
 have od := od_of hok
 have h5 := od.n5
 obtain ⟨N, hN⟩ : ∃ N : Nat, q.n = (N : Int) := ⟨q.n.toNat, by omega⟩
 have hol : o.length = N := by have := od.len; omega
 rw [hN] at h5
 have h15 : 1 <= N /\ N <= 5 := by omega
 have hqe2 : (eQuery q).map V.d = [V.d (.int .i64 N), V.d (.pl (q.atoms.map eAtom)), V.d (.pl (q.out.map cI))] := by simp [eQuery, hN]
 have hsq := mx_sq h15.2
 obtain ⟨S, hS⟩ : ∃ S, S = N * N := ⟨_, rfl⟩
 rw [<- hS] at hsq
 have hml : ∀ f, (mtx N f).length = S := fun f => by rw [mtx_len, hS]
 have hwN : IntKind.i64.wrap ((N : Int) - 1) = ((N - 1 : Nat) : Int) := by rw [wrap64_of (by omega) (by omega)]; omega
 simp [hN, s11_31, ]
 refine call_o (e_spec_l30Joined q N hN od.qok hst) (by simp [hqe2]) fun r2 n2 hs2 hn2 hm2 hp2 => ?_
 obtain ⟨g2, rfl, hg2⟩ := hp2
 refine ⟨4, 1, (mtx N (nbrB q)).map cB, by omega, .inr ⟨g2, rfl, hg2, by simp [ids_B]⟩, ?_⟩
 simp at hn2
 simp [s11_31, hml, -mtx_len]
 refine loop_ruleL (X := Nat) (fun i _ => i <= N) (fun i => [(1, .d (.pl (o.map cI))), (4, .ptr 4 0 0), (6, .d (.int .i64 N)), (7, .own 25 0 S), (8, .ptr 8 0 0), (9, .d (.int .i64 i))]) (fun i => [(4, some (.box [.d (.sl none none []), .d (.sl none none [])])), (8, some (.box [.own 901 0 i, .own 902 0 i])), (25, some (.row 4 1 ((mtx N (dcM q o i)).map cB))), (901, some (.row 25 1 (((List.range i).map (dcBag q o)).map (cP cI)))), (902, some (.row 3 1 (((List.range i).map (dcUp q o)).map cI)))]) (fun i => N - i) ?_ ?_
 ·refine (lead_box 8 0 901 25 1 [.d (.sl none none []), .d (.sl none none [])] (by omega) (by omega) (by omega) (by simp) rfl).bind ?_
  rintro _ rfl
  refine (lead_box 8 1 902 3 1 [.own 901 0 0, .d (.sl none none [])] (by omega) (by omega) (by omega) (by simp) rfl).bind ?_
  rintro _ rfl
  exact Lead.of ⟨0, by omega, rfl, rfl, Nat.le_refl _, by simp, by simp [dcM0]⟩
 intro i hs t m hi hh
 by_cases hlt : i < N
 ·have hwi := wr1 (i := i) (by omega)
  have hio : i < o.length := by omega
  obtain ⟨BS, hBS⟩ : ∃ BS, BS = (List.range i).map (dcBag q o) := ⟨_, rfl⟩
  obtain ⟨US, hUS⟩ : ∃ US, US = (List.range i).map (dcUp q o) := ⟨_, rfl⟩
  have hBl : BS.length = i := by rw [hBS]; simp
  have hUl : US.length = i := by rw [hUS]; simp
  have hB1 : (List.range (i + 1)).map (dcBag q o) = BS ++ [dcBag q o i] := by rw [hBS, List.range_succ, List.map_append]; rfl
  have hU1 : (List.range (i + 1)).map (dcUp q o) = US ++ [dcUp q o i] := by rw [hUS, List.range_succ, List.map_append]; rfl
  rw [<- hBS, <- hUS]
  have hoi := od.rng _ (List.getElem_mem hio)
  obtain ⟨c, hc⟩ : ∃ c : Nat, o[i] = (c : Int) := ⟨o[i].toNat, by omega⟩
  have hcN : c < N := by omega
  have hgd : o.getD i 0 = (c : Int) := by rw [getD_el _ hio, hc]
  have hbd : dcBag q o i = (rangeI N).filter (dcI q o i) := by rw [dcBag, hN]; rfl
  have hbgl : (dcBag q o i).length ≤ N := by
   have := List.length_filter_le (dcI q o i) (rangeI N)
   rw [rangeI_len] at this; rw [hbd]; exact this
  have hbgm : ∀ x ∈ dcBag q o i, 0 ≤ x ∧ x < N := fun x hx => by
   rw [hbd, List.mem_filter, rangeI_mem] at hx; omega
  have hbgn : (dcBag q o i).Nodup := pw_nodup filter_pw
  have hfA := ffA_all (q := q) (o := o) (n := N) (i := i) hN
  have hup := dcUp_eq q o i
  obtain ⟨bag, hbag⟩ : ∃ bag, bag = dcBag q o i := ⟨_, rfl⟩
  obtain ⟨f, hf⟩ : ∃ f, f = dcM q o i := ⟨_, rfl⟩
  obtain ⟨U, hU⟩ : ∃ U, U = dcUp q o i := ⟨_, rfl⟩
  rw [<- hbag] at hB1 hbd hbgl hbgm hbgn hfA hup
  rw [<- hU] at hU1 hup
  rw [<- hf] at hfA ⊢
  refine anyQ2 fun Q => ?_
  simp [hlt, s11_31, ]
  refine loop_rule (X := Nat) (fun k => k <= N) (fun k => [(1, .d (.pl (o.map cI))), (4, .ptr 4 0 0), (6, .d (.int .i64 N)), (7, .own 25 0 S), (8, .ptr 8 0 0), (9, .d (.int .i64 i)), (10, .own 32 0 ((rangeI k).filter (dcI q o i)).length), (11, .d (.int .i64 ((i + 1 : Nat) : Int))), (12, .d (.bool true)), (13, .d (.int .i64 k))]) (fun k => [(4, some (.box [.d (.sl none none []), .d (.sl none none [])])), (8, some (.box [.own 901 0 i, .own 902 0 i])), (25, some (.row 4 1 ((mtx N (f)).map cB))), (901, some (.row 25 1 (BS.map (cP cI)))), (902, some (.row 3 1 (US.map cI))), (32, some (.row 3 1 (((rangeI k).filter (dcI q o i)).map cI)))]) (fun k => N - k) 0 (by omega) (by simp [rangeI_zero, hwi]) (by simp [rangeI_zero]) ?_
  intro k hs3 t3 m3 hk hh3
  by_cases hkN : k < N
  ·have hwk := wr1 (i := k) (by omega)
   have hix := mx_ix h15.2 hcN hkN
   rw [<- hS] at hix
   have hLk : (mtx N f).length = S := hml f
   obtain ⟨R, hR⟩ : ∃ R, R = c * N := ⟨_, rfl⟩
   rw [<- hR] at hix
   obtain ⟨K, hK⟩ : ∃ K, K = R + k := ⟨_, rfl⟩
   rw [<- hK] at hix
   have hw1 : IntKind.i64.wrap ((c : Int) * (N : Int)) = (R : Int) := by
    rw [wrap64_of (by rw [<- Int.natCast_mul, <- hR]; omega) (by rw [<- Int.natCast_mul, <- hR]; omega), <- Int.natCast_mul, <- hR]
   have hw2 : IntKind.i64.wrap ((R : Int) + (k : Int)) = (K : Int) := by rw [wrap64_of (by omega) (by omega)]; omega
   have hKS := hix.1
   have hget : (mtx N f)[K]'(by omega) = f c k := by
    subst hK; subst hR; exact mtx_get hkN _
   obtain ⟨L, hL⟩ : ∃ L, L = mtx N f := ⟨_, rfl⟩
   simp only [<- hL] at hget hLk ⊢
   have hst2 : (rangeI (k + 1)).filter (dcI q o i) = (rangeI k).filter (dcI q o i) ++ if dcI q o i k then [(k : Int)] else [] := by
    rw [rangeI_succ, List.filter_append]; cases e : dcI q o i k <;> simp [e]
   have hfl := List.length_filter_le (dcI q o i) (rangeI k)
   rw [rangeI_len] at hfl
   have hLL : LenOk 8 (((rangeI k).filter (dcI q o i)).length + 1) := ⟨by omega, by simp only [maxLen]; omega⟩
   have hdI : dcI q o i k = (decide ((k : Int) = c) || (f c k && !(o.take i).contains (k : Int))) := by rw [dcI, hgd, hf]
   obtain ⟨W, hW⟩ : ∃ W, W = (rangeI k).filter (dcI q o i) := ⟨_, rfl⟩
   rw [<- hW] at hst2 hLL ⊢
   by_cases hkc : k = c
   ·have e : dcI q o i k = true := by rw [hdI, decide_eq_true (by omega)]; rfl
    rw [e, if_pos rfl] at hst2
    simp [hkN, hio, hc, eq_true hkc, hwk, hLL, s11_31, ]
    exact back (k + 1) (by omega) (by omega) rfl (by simp <;> omega) (by simp [hst2, hwi]) (by simp [hst2])
   have hkc2 : ¬ (k : Int) = c := by omega
   cases hfv : f c k
   ·have e : dcI q o i k = false := by rw [hdI, hfv, decide_eq_false hkc2]; rfl
    rw [e, if_neg (by simp), List.append_nil] at hst2
    rw [hfv] at hget
    simp [hkN, hio, hc, eq_false hkc, hw1, hw2, hKS, hLk, hget, hwk, cB, s11_31, ]
    exact back (k + 1) (by omega) (by omega) rfl (by simp <;> omega) (by simp [hst2, hwi]) (by simp [hst2])
   have e2 : dcI q o i k = !(o.take i).contains (k : Int) := by rw [hdI, hfv, decide_eq_false hkc2]; simp
   rw [hfv] at hget
   simp [hkN, hio, hc, eq_false hkc, hw1, hw2, hKS, hLk, hget, show i <= o.length by omega, <- List.map_take, cB, s11_31, ]
   refine call_f (w_spec_l7Find (o.take i) k) (by simp) rfl fun hs4 hh4 => ?_
   simp at hh4
   have hge := idxL_ge (o.take i) k
   cases hct : (o.take i).contains (k : Int)
   ·have hi0 : idxL (o.take i) k < 0 := by rw [hct, decide_eq_false_iff_not] at hge; omega
    have e3 : dcI q o i k = true := by rw [e2, hct]; rfl
    rw [e3, if_pos rfl] at hst2
    simp [hi0, hwk, hLL, s11_31, ]
    exact back (k + 1) (by omega) (by omega) rfl (by simp <;> omega) (by simp [hst2, hwi]) (by simp [hst2])
   ·have hi0 : ¬ idxL (o.take i) k < 0 := by rw [hct, decide_eq_true_eq] at hge; omega
    have e3 : dcI q o i k = false := by rw [e2, hct]; rfl
    rw [e3, if_neg (by simp), List.append_nil] at hst2
    simp [hi0, hwk, s11_31, ]
    exact back (k + 1) (by omega) (by omega) rfl (by simp <;> omega) (by simp [hst2, hwi]) (by simp [hst2])
  have hkn : k = N := by omega
  subst hkn
  rw [<- hbd]
  simp [s11_31, ]
  refine loop_ruleL (X := Nat × Bool × Nat) (fun p _ => UpI o bag i p) (fun p => [(1, .d (.pl (o.map cI))), (4, .ptr 4 0 0), (6, .d (.int .i64 k)), (7, .own 25 0 S), (8, .ptr 8 0 0), (9, .d (.int .i64 i)), (10, .d (.pl (bag.map cI))), (11, .d (.int .i64 p.1)), (12, .d (.bool p.2.1)), (14, .d (.int .i64 p.2.2))]) (fun p => [(4, some (.box [.d (.sl none none []), .d (.sl none none [])])), (8, some (.box [.own 901 0 i, .own 902 0 i])), (25, some (.row 4 1 ((mtx k (f)).map cB))), (901, some (.row 25 1 (BS.map (cP cI)))), (902, some (.row 3 1 (US.map cI)))]) (fun p => k + 1 - p.2.2) ?_ ?_
  ·refine (lead_frp 32 (T := 3) (sz := 1) (es := bag.map cI) (by simp)).bind ?_
   rintro _ rfl
   exact Lead.of ⟨(i + 1, true, i + 1), .zero hio, rfl, rfl, Nat.le_refl _, by simp [hwi, List.take_of_length_le], by simp⟩
  rintro ⟨u, s, k2⟩ hs5 t5 m5 hI hh5
  have hle := hI.le
  simp only at hle
  by_cases hgo : k2 < k /\ s = true
  ·obtain ⟨hk2, rfl⟩ := hgo
   have hk2o : k2 < o.length := by omega
   have hwk2 := wr1 (i := k2) (by omega)
   simp [hk2, hk2o, s11_31, ]
   refine call_f (w_spec_l7Find bag o[k2]) (by simp) rfl fun hs6 hh6 => ?_
   simp at hh6
   have hge := idxL_ge bag o[k2]
   cases hct : bag.contains o[k2]
   ·have hi0 : ¬ 0 ≤ idxL bag o[k2] := by rw [hct, decide_eq_false_iff_not] at hge; exact hge
    simp [hi0, hwk2, s11_31, ]
    exact back2 (u, true, k2 + 1) (hI.miss hk2o hct) (by simp only; omega) rfl (by simp <;> omega) (by simp) (by simp)
   ·have hi0 : 0 ≤ idxL bag o[k2] := by rw [hct, decide_eq_true_eq] at hge; exact hge
    simp [hi0, hwk2, s11_31, ]
    exact back2 (k2, false, k2 + 1) (hI.hit hk2o hct) (by simp only; omega) rfl (by simp <;> omega) (by simp) (by simp)
  have hdone : u = upV o bag i := hI.done fun h => hgo ⟨by omega, h.2⟩
  rw [<- hdone] at hup
  have hcase : ((i = k - 1) = True ∧ U = -1) ∨ ((i = k - 1) = False ∧ U = (u : Int)) := by
   by_cases e : i + 1 = o.length
   ·rw [if_pos e] at hup; exact .inl ⟨eq_true (by omega), hup⟩
   ·rw [if_neg e] at hup; exact .inr ⟨eq_false (by omega), hup⟩
  have hcond : ((k2 < k) = True ∧ s = false) ∨ ((k2 < k) = False) := by
   by_cases e : k2 < k
   ·exact .inl ⟨eq_true e, by cases s; rfl; exact absurd ⟨e, rfl⟩ hgo⟩
   ·exact .inr (eq_false e)
  have hB2 : (List.range (i + 1)).map (cP cI ∘ dcBag q o) = BS.map (cP cI) ++ [[D.pl (bag.map cI)]] := by rw [<- List.map_map, hB1, List.map_append]; simp
  have hU2 : (List.range (i + 1)).map (cI ∘ dcUp q o) = US.map cI ++ [[D.int IntKind.i64 U]] := by rw [<- List.map_map, hU1, List.map_append]; simp
  have hLB : LenOk 24 (i + 1) := ⟨by omega, by simp only [maxLen]; omega⟩
  have hLU : LenOk 8 (i + 1) := ⟨by omega, by simp only [maxLen]; omega⟩
  have hf0 := ffA_zero bag f k
  rcases hcond with ⟨hc1, rfl⟩ | hc1
  all_goals rcases hcase with ⟨hc2, hup2⟩ | ⟨hc2, hup2⟩
  all_goals
   simp [hc1, hc2, hwN, s11_31, ]
   refine loop_rule (X := Nat) (fun a => a <= bag.length) (fun a => [(1, .d (.pl (o.map cI))), (4, .ptr 4 0 0), (6, .d (.int .i64 k)), (7, .own 25 0 S), (8, .ptr 8 0 0), (9, .d (.int .i64 i)), (10, .d (.pl (bag.map cI))), (11, .d (.int .i64 U)), (15, .d (.int .i64 a))]) (fun a => [(4, some (.box [.d (.sl none none []), .d (.sl none none [])])), (8, some (.box [.own 901 0 i, .own 902 0 i])), (25, some (.row 4 1 ((mtx k (ffA bag f a)).map cB))), (901, some (.row 25 1 (BS.map (cP cI)))), (902, some (.row 3 1 (US.map cI)))]) (fun a => bag.length - a) 0 (by omega) (by simp [hup2]) (by simp [hf0]) ?_
   intro a hs7 t7 m7 ha hh7
   by_cases hal : a < bag.length
   ·have hwa := wr1 (i := a) (by omega)
    have hba := hbgm _ (List.getElem_mem hal)
    obtain ⟨x, hx⟩ : ∃ x : Nat, bag[a] = (x : Int) := ⟨bag[a].toNat, by omega⟩
    have hxN : x < k := by omega
    have hB0 := ffB_zero bag f k a
    have hBa := ffB_all f k hal
    refine anyQ fun Q => ?_
    simp [hal, s11_31, ]
    refine loop_rule (X := Nat) (fun b => b <= bag.length) (fun b => [(1, .d (.pl (o.map cI))), (4, .ptr 4 0 0), (6, .d (.int .i64 k)), (7, .own 25 0 S), (8, .ptr 8 0 0), (9, .d (.int .i64 i)), (10, .d (.pl (bag.map cI))), (11, .d (.int .i64 U)), (15, .d (.int .i64 a)), (16, .d (.int .i64 b))]) (fun b => [(4, some (.box [.d (.sl none none []), .d (.sl none none [])])), (8, some (.box [.own 901 0 i, .own 902 0 i])), (25, some (.row 4 1 ((mtx k (ffB bag f a b)).map cB))), (901, some (.row 25 1 (BS.map (cP cI)))), (902, some (.row 3 1 (US.map cI)))]) (fun b => bag.length - b) 0 (by omega) (by simp) (by simp [hB0]) ?_
    intro b hs8 t8 m8 hb hh8
    by_cases hbl : b < bag.length
    ·have hwb := wr1 (i := b) (by omega)
     have hbb := hbgm _ (List.getElem_mem hbl)
     obtain ⟨y, hy⟩ : ∃ y : Nat, bag[b] = (y : Int) := ⟨bag[b].toNat, by omega⟩
     have hyN : y < k := by omega
     have hix := mx_ix h15.2 hxN hyN
     rw [<- hS] at hix
     obtain ⟨R, hR⟩ : ∃ R, R = x * k := ⟨_, rfl⟩
     rw [<- hR] at hix
     obtain ⟨K, hK⟩ : ∃ K, K = R + y := ⟨_, rfl⟩
     rw [<- hK] at hix
     have hw1 : IntKind.i64.wrap ((x : Int) * (k : Int)) = (R : Int) := by
      rw [wrap64_of (by rw [<- Int.natCast_mul, <- hR]; omega) (by rw [<- Int.natCast_mul, <- hR]; omega), <- Int.natCast_mul, <- hR]
     have hw2 : IntKind.i64.wrap ((R : Int) + (y : Int)) = (K : Int) := by rw [wrap64_of (by omega) (by omega)]; omega
     have hKS := hix.1
     have hLk : (mtx k (ffB bag f a b)).length = S := hml _
     have hget : (mtx k (ffB bag f a b))[K]'(by omega) = ffB bag f a b x y := by
      subst hK; subst hR; exact mtx_get hyN _
     have hstep := ffB_step hbgn f (n := k) hal hbl hx hy hyN rfl
     rw [<- hR, <- hK] at hstep
     obtain ⟨L, hL⟩ : ∃ L, L = mtx k (ffB bag f a b) := ⟨_, rfl⟩
     obtain ⟨L', hL'⟩ : ∃ L', L' = mtx k (ffB bag f a (b + 1)) := ⟨_, rfl⟩
     obtain ⟨v, hv⟩ : ∃ v, v = ffB bag f a b x y := ⟨_, rfl⟩
     rw [<- hv] at hget hstep
     rw [<- hL, <- hL'] at hstep
     simp only [<- hL] at hget hLk ⊢
     have hset : ∀ z, z = (v || !(decide (a = b))) -> (L.map cB).set K [D.bool z] = L'.map cB := fun z hz => by rw [<- hstep, List.map_set, hz]; rfl
     cases v with
     | true =>
       have hset2 := hset true rfl
       simp [hal, hbl, hx, hy, hw1, hw2, hKS, hLk, hget, hwb, cB, -List.map_set, s11_31, ]
       exact back (b + 1) (by omega) (by omega) rfl (by simp <;> omega) (by simp) (by simp [<- hL', hset2, -List.map_set])
     | false =>
       by_cases hab : a = b
       ·have hset2 := hset false (by simp [hab])
        simp [hal, hbl, hx, hy, hw1, hw2, hKS, hLk, hget, hwb, eq_true hab, cB, -List.map_set, s11_31, ]
        exact back (b + 1) (by omega) (by omega) rfl (by simp <;> omega) (by simp) (by simp [<- hL', hset2, -List.map_set])
       ·have hset2 := hset true (by simp [hab])
        simp [hal, hbl, hx, hy, hw1, hw2, hKS, hLk, hget, hwb, eq_false hab, cB, -List.map_set, s11_31, ]
        exact back (b + 1) (by omega) (by omega) rfl (by simp <;> omega) (by simp) (by simp [<- hL', hset2, -List.map_set])
    ·have hbn : b = bag.length := by omega
     subst hbn
     simp [hwa, s11_31, ]
     exact back (a + 1) (by omega) (by omega) rfl (by simp <;> omega) (by simp) (by simp [hBa])
   ·have han : a = bag.length := by omega
    subst han
    simp [hwi, hBl, hUl, hLB, hLU, List.take_of_length_le, s11_31, ]
    exact back2 (i + 1) (by omega) (by omega) rfl (by simp <;> omega) (by simp) (by simp [hB2, hU2, hfA])
 ·have hn : i = N := by omega
  subst hn
  simp [dcP, hok, hol, eDec, List.take_of_length_le, s11_31, ]
end
end Go.Proofs.YtaoaoijchijlcaaGreatDoor
namespace Go.Proofs.YtaoaoijchijlcaaGreatDoor
open Go.Vs Go.Proofs Go
set_option maxRecDepth 100000
set_option maxHeartbeats 1000000
section
attribute [local simp] plI_id plStr_id map_plI map_plStr pS cP cI
theorem e_impl_DecompositionFromOrder (q : PQuery) (o : List Int) : VC Tryz.prog 17 [.agg ((eQuery q).map V.d), .d (pS cI o)]
  (fun n r => ∃ y : Dec, r = .tup [.agg ((cDec y).map V.d), .d (.bool (ordOk q o))] /\ plDec y = dcP q o /\ okDec y /\ Good (cDec y) (whDec y) n) := by
 have hqe : (eQuery q).map V.d = [V.d (.int .i64 q.n), V.d (.pl (q.atoms.map eAtom)), V.d (.pl (q.out.map cI))] := by simp [eQuery]
 refine VC.of E s17 (by kernel_rfl) Tryz.func17 (by rfl) (by kernel_rfl) (by simp [Tryz.f17]) (by simp [Tryz.f17]) s17_ok fun B => ?_
 simp [Tryz.f17, s17_14, s17_15, hqe, s17_14, s17_15, ]
 refine call_f (w_impl_IsValidOrder q o) (by simp [hqe]) rfl fun hs1 hh1 => ?_
 simp at hh1
 cases hok : ordOk q o
 ·simp [s17_14, s17_15, ]
  exact ⟨⟨nilS, nilS⟩, by simp [cDec, nilS, cS, dSl], by simp [dcP, hok, plDec, nilS, plS], ⟨ok_nilS, ok_nilS⟩, good_Dec0 B⟩
 have od := od_of hok
 have h5 := od.n5
 have hN : q.n = (o.length : Int) := od.len.symm
 rw [hN] at h5
 have h15 : 1 <= o.length /\ o.length <= 5 := by omega
 have hqe2 : (eQuery q).map V.d = [V.d (.int .i64 o.length), V.d (.pl (q.atoms.map eAtom)), V.d (.pl (q.out.map cI))] := by simp [eQuery, hN]
 have hwN : IntKind.i64.wrap ((o.length : Int) - 1) = ((o.length - 1 : Nat) : Int) := by rw [wrap64_of (by omega) (by omega)]; omega
 have hL0 : LenOk 24 o.length := ⟨by omega, by simp only [maxLen]; omega⟩
 have hz0 : erLL (List.replicate o.length [D.sl none none []]) = (nbI q o.length 0).map (cP cI) := by
  rw [nbI_zero]
  have : ∀ k, erLL (List.replicate k [D.sl none none []]) = (List.replicate k ([] : List Int)).map (cP cI) := by
   intro k
   induction k with
   | zero => rfl
   | succ k ih => rw [List.replicate_succ, List.replicate_succ, List.map_cons, <- ih]; rfl
  exact this _
 simp [hN, hL0, s17_14, s17_15, ]
 refine loop_ruleL (X := Nat) (fun i _ => i <= o.length) (fun i => [(1, .d (.pl (o.map cI))), (2, .ptr 2 0 0), (4, .ptr 4 0 0), (6, .d (.int .i64 o.length)), (7, .own 25 0 o.length), (27, .d (.int .i64 o.length)), (28, .d (.int .i64 i))]) (fun i => [(2, some (.box [.d (.int .i64 o.length), .d (.pl (q.atoms.map eAtom)), .d (.pl (q.out.map cI))])), (4, some (.box [.d (.sl none none []), .d (.sl none none [])])), (25, some (.row 25 1 ((nbI q o.length i).map (cP cI))))]) (fun i => o.length - i) ?_ ?_
 ·refine (lead_rowE 25 (T := 25) (sz := 1) (es := List.replicate o.length [D.sl none none []]) (by simp)).bind ?_
  rintro _ rfl
  exact Lead.of ⟨0, by omega, rfl, rfl, Nat.le_refl _, by simp, by simp [hz0]⟩
 intro i hs t m hi hh
 by_cases hlt : i < o.length
 ·have hwi := wr1 (i := i) (by omega)
  have hset : ((nbI q o.length i).map (cP cI)).set i [D.pl ((nbrL q i).map cI)] = (nbI q o.length (i + 1)).map (cP cI) := by rw [<- nbI_set q hlt, List.map_set]; simp
  simp [hlt, s17_14, s17_15, ]
  refine call_p (p_impl_Neighbors q i) (by simp [hqe2]) fun hs2 hh2 hl2 => ?_
  simp at hh2
  simp [hlt, hwi, -List.map_set, s17_14, s17_15, ]
  exact back2 (i + 1) (by omega) (by omega) rfl (by simp <;> omega) (by simp) (by simp [hset, -List.map_set])
 have hin : i = o.length := by omega
 subst hin
 rw [nbI_all od.qok o]
 simp [s17_14, s17_15, ]
 clear hi hlt
 refine loop_ruleL (X := Nat × List Ints) (fun p h => CopI (cS cI) (whS whI) (okS okI) (plS plI) ((List.range o.length).map (dcBag q o)) B p h) (fun p => [(1, .d (.pl (o.map cI))), (4, .ptr 4 0 0), (6, .d (.int .i64 o.length)), (7, .own 25 0 o.length), (9, .ptr 9 0 0), (38, .d (.pl (o.map cI))), (39, .d (.int .i64 o.length)), (40, .d (.int .i64 p.1))]) (fun p => [(4, some (.box [.d (.sl none none []), .d (.sl none none [])])), (9, some (.box [.own 901 0 (p.1), .own 902 0 p.1])), (25, some (.row 25 1 ((nrI q o o.length p.1).map (cP cI)))), (901, some (.row 25 1 ((p.2).map (cS cI)))), (902, some (.row 3 1 (((List.range p.1).map (dcUp q o)).map cI)))]) (fun p => o.length - p.1) ?_ ?_
 ·refine (lead_box 9 0 901 25 1 [.d (.sl none none []), .d (.sl none none [])] (by omega) (by omega) (by omega) (by simp) rfl).bind ?_
  rintro _ rfl
  refine (lead_box 9 1 902 3 1 [.own 901 0 0, .d (.sl none none [])] (by omega) (by omega) (by omega) (by simp) rfl).bind ?_
  rintro _ rfl
  exact Lead.of ⟨(0, []), .zero, rfl, rfl, Nat.le_refl _, by simp, by simp⟩
 rintro ⟨i, ys⟩ hs3 t3 m3 hI hh3
 have hle := hI.le
 have hyl := hI.len
 simp only [List.length_map, List.length_range] at hle
 simp only
 by_cases hlt : i < o.length
 ·have hwi := wr1 (i := i) (by omega)
  obtain ⟨US, hUS⟩ : ∃ US, US = (List.range i).map (dcUp q o) := ⟨_, rfl⟩
  have hUl : US.length = i := by rw [hUS]; simp
  have hU1 : (List.range (i + 1)).map (dcUp q o) = US ++ [dcUp q o i] := by rw [hUS, List.range_succ, List.map_append]; rfl
  have hU2 : (List.range (i + 1)).map (cI ∘ dcUp q o) = US.map cI ++ [[D.int IntKind.i64 (dcUp q o i)]] := by rw [<- List.map_map, hU1, List.map_append]; simp
  rw [<- hUS]
  have hoi := od.rng _ (List.getElem_mem hlt)
  rw [hN] at hoi
  obtain ⟨c, hc⟩ : ∃ c : Nat, o[i] = (c : Int) := ⟨o[i].toNat, by omega⟩
  have hcN : c < o.length := by omega
  have hlat := df_lat (q := q) (o := o) hlt
  have hbg := df_bag od hlt
  have hAl : ∀ z, (dcNear q o i z).length ≤ o.length := fun z => by
   have := List.length_filter_le (dcM q o i z) (rangeI q.n.toNat)
   rw [rangeI_len] at this
   simp only [dcNear]; omega
  have hll : (dcLat q o i).length ≤ o.length := by
   have := List.length_filter_le (fun v => dcM q o i (o.getD i 0) v && (o.drop (i + 1)).contains v) (rangeI q.n.toNat)
   rw [rangeI_len] at this
   simp only [dcLat]; omega
  have hlm : ∀ x ∈ dcLat q o i, 0 ≤ x ∧ x < o.length := fun x hx => by
   have := (lat_mem od hlt x).1 hx; omega
  have hnear : ∀ x ∈ dcLat q o i, ((uniL (dcNear q o i x) (dcLat q o i)).filter fun y => !(decide (y = x))) = dcNear q o (i + 1) x := fun x hx => df_near od hlt hx
  have hget : ∀ (h : c < (nrI q o o.length i).length), (nrI q o o.length i)[c] = dcNear q o i (c : Nat) := fun h => nrI_get h
  have hgJ : ∀ {j x : Nat}, (hj : j < (dcLat q o i).length) -> (dcLat q o i)[j] = (x : Int) -> (h : x < (nrJ q o o.length i j).length) -> (nrJ q o o.length i j)[x] = dcNear q o i (x : Nat) := fun hj hx h => nrJ_get hj hx h
  have hsJ : ∀ {j x : Nat}, (hj : j < (dcLat q o i).length) -> (dcLat q o i)[j] = (x : Int) -> (nrJ q o o.length i j).set x (dcNear q o (i + 1) (x : Nat)) = nrJ q o o.length i (j + 1) := fun hj hx => nrJ_set hj hx
  have hJ0 := nrJ_zero q o o.length i
  have hJa := nrJ_all od hN hlt
  have htop := upR_top (o := o) (l := dcLat q o i) hlt
  have hend := upR_end od hlt
  rw [hc] at hlat hbg
  obtain ⟨l, hl⟩ : ∃ l, l = dcLat q o i := ⟨_, rfl⟩
  obtain ⟨A, hA⟩ : ∃ A, A = dcNear q o i (c : Nat) := ⟨_, rfl⟩
  have hAlc := hAl c
  simp only [<- hl, <- hA] at hlat hbg hll hlm hnear hget hgJ hsJ hJa htop hend hAlc
  have hD : o.drop (i + 1) = o.drop (i + 1) := rfl
  have hLB : LenOk 24 (i + 1) := ⟨by omega, by simp only [maxLen]; omega⟩
  have hLU : LenOk 8 (i + 1) := ⟨by omega, by simp only [maxLen]; omega⟩
  have hL1 : LenOk 8 1 := ⟨by omega, by simp only [maxLen]; omega⟩
  have hbg' : (dcBag q o i) = ((List.range o.length).map (dcBag q o))[i]'(by simpa using hlt) := by simp
  refine anyQ2 fun Q => ?_
  simp [hlt, hc, hcN, hget, hwi, show i + 1 <= o.length by omega, <- List.map_drop, s17_14, s17_15, ]
  repeat' apply And.intro
  all_goals first | omega | skip
  all_goals
   refine call_p (p_impl_common A (o.drop (i + 1)) (by omega)) (by simp [<- List.map_drop, List.take_of_length_le]) fun hs4 hh4 hl4 => ?_
   simp at hh4
   rw [hlat]
   simp [hL1, s17_14, s17_15, ]
   repeat' apply And.intro
   all_goals
    refine call_own (by simp) (fun γ n hn hg => ⟨[.d (.sl (γ 57) (some (3, 1)) [[D.int .i64 c]]), .d (.pl (l.map cI))], by simp [List.take_of_length_le], (e_impl_unite [(c : Int)] l (by simp only [List.length_singleton]; omega)).er (by simp [pS, cI, erLL, erL, D.er])⟩) (fun n r h => by
     obtain ⟨y, rfl, _, _, G⟩ := h
     exact ⟨fun g hg => G.lo g (by simpa [V.ids, idsL_cS] using hg), by simp [V.hp, dSl, D.hp]⟩) fun n5 hs5 r5 hn5 hm5 hp5 hr5 => ?_
    obtain ⟨y, rfl, py, oy, Gy⟩ := hp5
    simp at hn5
    have hry : ∀ g ∈ idsL (cS cI y), g < hs5 := fun g hg => hr5 g (by rw [idsL_cS] at hg; simpa [V.ids] using hg)
    simp [cS, dSl, hyl, hLB, s17_14, s17_15, ]
    refine loop_rule (X := Nat) (fun j => j <= l.length) (fun j => [(1, .d (.pl (o.map cI))), (4, .ptr 4 0 0), (6, .d (.int .i64 o.length)), (7, .own 25 0 o.length), (9, .ptr 9 0 0), (38, .d (.pl (o.map cI))), (39, .d (.int .i64 o.length)), (40, .d (.int .i64 i)), (10, .d (.int .i64 i)), (12, .d (.pl (l.map cI))), (63, .d (.pl (l.map cI))), (64, .d (.int .i64 l.length)), (65, .d (.int .i64 j))]) (fun j => [(4, some (.box [.d (.sl none none []), .d (.sl none none [])])), (9, some (.box [.own 901 0 (i + 1), .own 902 0 i])), (25, some (.row 25 1 ((nrJ q o o.length i j).map (cP cI)))), (901, some (.row 25 1 ((ys ++ [y]).map (cS cI)))), (902, some (.row 3 1 (US.map cI)))]) (fun j => l.length - j) 0 (by omega) (by simp) (by simp [hJ0, cS, dSl, hyl]) ?_
    intro j hs6 t6 m6 hj hh6
    by_cases hjl : j < l.length
    ·have hwj := wr1 (i := j) (by omega)
     have hx0 := hlm _ (List.getElem_mem hjl)
     obtain ⟨x, hx⟩ : ∃ x : Nat, l[j] = (x : Int) := ⟨l[j].toNat, by omega⟩
     have hxN : x < o.length := by omega
     have hg := hgJ hjl hx
     have hs := hsJ hjl hx
     have hnr := hnear _ (List.getElem_mem hjl)
     rw [hx] at hnr
     have hAx := hAl x
     obtain ⟨E, hE⟩ : ∃ E, E = dcNear q o i (x : Nat) := ⟨_, rfl⟩
     obtain ⟨E', hE'⟩ : ∃ E', E' = dcNear q o (i + 1) (x : Nat) := ⟨_, rfl⟩
     obtain ⟨J, hJ⟩ : ∃ J, J = nrJ q o o.length i j := ⟨_, rfl⟩
     obtain ⟨J', hJ'⟩ : ∃ J', J' = nrJ q o o.length i (j + 1) := ⟨_, rfl⟩
     have hJl : J.length = o.length := by rw [hJ]; simp
     simp only [<- hE, <- hE', <- hJ, <- hJ'] at hg hs hnr hAx ⊢
     have hset : (J.map (cP cI)).set x [D.pl (E'.map cI)] = J'.map (cP cI) := by rw [<- hs, List.map_set]; simp
     have hul := uniL_len E l
     simp [hjl, hx, hxN, hJl, hg, s17_14, s17_15, ]
     refine call_p (p_impl_unite E l (by omega)) (by simp) fun hs7 hh7 hl7 => ?_
     simp at hh7
     simp [s17_14, s17_15, ]
     refine call_p (p_impl_without (uniL E l) x (by omega)) (by simp) fun hs8 hh8 hl8 => ?_
     simp at hh8
     rw [hnr]
     simp [hxN, hJl, hwj, -List.map_set, s17_14, s17_15, ]
     exact back (j + 1) (by omega) (by omega) rfl (by simp <;> omega) (by simp) (by simp [<- hJ', hset, -List.map_set])
    have hjn : j = l.length := by omega
    subst hjn
    rw [hJa]
    clear hjl hj
    have hcase : ((i < o.length - 1) = True ∧ upR o l i (o.length - 1) = ((i + 1 : Nat) : Int)) ∨ ((i < o.length - 1) = False ∧ upR o l i (o.length - 1) = -1) := by
     by_cases e : i + 1 = o.length
     ·rw [if_pos e] at htop; exact .inr ⟨eq_false (by omega), htop⟩
     ·rw [if_neg e] at htop; exact .inl ⟨eq_true (by omega), htop⟩
    rcases hcase with ⟨hc2, hup2⟩ | ⟨hc2, hup2⟩
    all_goals
     simp [hwN, hc2, hwi, s17_14, s17_15, ]
     refine loop_rule (X := Nat) (fun k => i <= k /\ k < o.length) (fun k => [(1, .d (.pl (o.map cI))), (4, .ptr 4 0 0), (6, .d (.int .i64 o.length)), (7, .own 25 0 o.length), (9, .ptr 9 0 0), (38, .d (.pl (o.map cI))), (39, .d (.int .i64 o.length)), (40, .d (.int .i64 i)), (10, .d (.int .i64 i)), (12, .d (.pl (l.map cI))), (15, .d (.int .i64 (upR o l i k))), (16, .d (.int .i64 k))]) (fun k => [(4, some (.box [.d (.sl none none []), .d (.sl none none [])])), (9, some (.box [.own 901 0 (i + 1), .own 902 0 i])), (25, some (.row 25 1 ((nrI q o o.length (i + 1)).map (cP cI)))), (901, some (.row 25 1 ((ys ++ [y]).map (cS cI)))), (902, some (.row 3 1 (US.map cI)))]) (fun k => k) (o.length - 1) (by omega) (by simp [hup2]) (by simp) ?_
     intro k hs9 t9 m9 hk hh9
     by_cases hki : i < k
     ·have hst := upR_step (o := o) (l := l) (i := i) hk.2 (by omega)
      have hwk : IntKind.i64.wrap ((k : Int) - 1) = ((k - 1 : Nat) : Int) := by rw [wrap64_of (by omega) (by omega)]; omega
      have hk2 := hk.2
      refine anyQ fun Q => ?_
      simp [hki, hk2, s17_14, s17_15, ]
      refine call_f (w_impl_hasInt l o[k]) (by simp) rfl fun hs10 hh10 => ?_
      simp at hh10
      cases hct : l.contains o[k]
      ·rw [hct, if_neg (by simp)] at hst
       simp [hwk, s17_14, s17_15, ]
       exact back (k - 1) (by omega) (by omega) rfl (by simp <;> omega) (by simp [hst]) (by simp)
      ·rw [hct, if_pos rfl] at hst
       simp [hwk, s17_14, s17_15, ]
       exact back (k - 1) (by omega) (by omega) rfl (by simp <;> omega) (by simp [hst]) (by simp)
     have hkn : k = i := by omega
     subst hkn
     rw [hend]
     simp [hwi, hUl, hLU, List.take_of_length_le, s17_14, s17_15, ]
     exact back2 (k + 1, ys ++ [y]) (hI.snoc (by simpa using hlt) (by rw [<- hbg', <- hbg]; simpa [plS] using py) oy ⟨by omega, by omega⟩ (by simp <;> omega) Gy (fun g hg => by have := hry g hg; simp; omega)) (by simp only; omega) rfl (by simp <;> omega) (by simp) (by simp [hU2, cS, dSl])
 ·have hin : i = o.length := by omega
  subst hin
  have hall := hI.all (by simp)
  simp [s17_14, s17_15, ]
  intro γ hs' h2 hg
  obtain ⟨US, hUS⟩ : ∃ US, US = (List.range o.length).map (dcUp q o) := ⟨_, rfl⟩
  have hUl : US.length = o.length := by rw [hUS]; simp
  obtain ⟨q1, q2⟩ := gam_at hg (k := 901) (T := 25) (sz := 1) (es := ys.map (cS cI)) (by simp)
  obtain ⟨q3, q4⟩ := gam_at hg (k := 902) (T := 3) (sz := 1) (es := US.map cI) (by simp [hUS])
  have r1 := gam_row hg (k := 901) (T := 25) (sz := 1) (es := ys.map (cS cI)) (by simp)
  have r2 := gam_row2 hg (k := 902) (T := 3) (sz := 1) (es := US.map cI) (k2 := 901) (T2 := 25) (sz2 := 1) (es2 := ys.map (cS cI)) (by simp [hUS]) (by simp)
  have r3 : ∀ g, γ 901 = some g → γ 902 = some g → False := fun g h h' => by
   have := hg.ne 901 902 (.row 25 1 (ys.map (cS cI))) (.row 3 1 (US.map cI)) g (by simp) (by simp [hUS]) h h'
   omega
  clear hg
  have hp : hpLL (ys.map (cS cI)) = false := hpLL_mapS ys
  have hp2 : hpLL (US.map cI) = false := hpLL_mapI US
  have hcm : (List.range o.length).map (cI ∘ dcUp q o) = US.map cI := by rw [hUS, List.map_map]
  have ht1 : (ys.map (cS cI)).take o.length = ys.map (cS cI) := List.take_of_length_le (by simp [hyl])
  have ht2 : (US.map cI).take o.length = US.map cI := List.take_of_length_le (by simp [hUl])
  simp [hp, hcm, hp2, ht1, ht2, hyl]
  refine ⟨⟨⟨γ 901, some (25, 1), ys⟩, ⟨γ 902, some (3, 1), US⟩⟩, ?_, ?_, ⟨⟨by simp only [maxLen]; show ys.length <= _; omega, hI.ok⟩, ⟨by simp only [maxLen]; show US.length <= _; omega, fun _ _ => trivial⟩⟩, ?_⟩
  ·simp [cDec, cS, dSl]
  ·rw [dcP, if_pos hok, <- hall, <- hUS]; simp [plDec, plS, map_plI]
  ·exact good_Dec2 hI.good.nd hI.good.lo hI.good.wh (fun g h => ⟨(q1 g h).1, r1 g h⟩) (fun h => q2 (by simpa using h)) (fun g h => ⟨(q3 g h).1, r2 g h⟩) (fun h => q4 (by simpa using h)) r3
end
end Go.Proofs.YtaoaoijchijlcaaGreatDoor
namespace Go.Proofs.YtaoaoijchijlcaaGreatDoor
open Go.Vs Go.Proofs Go
set_option maxRecDepth 100000
set_option maxHeartbeats 1000000
theorem t_impl_DecompositionFromOrder (q : Query) (o : Ints) : VC Tryz.prog 17 [.agg ((cQuery q).map V.d), .d (dSl cI o)]
  (fun n r => ∃ y : Dec, r = .tup [.agg ((cDec y).map V.d), .d (.bool (ordOk (plQuery q) (plS plI o)))] /\ plDec y = dcP (plQuery q) (plS plI o) /\ okDec y /\ Good (cDec y) (whDec y) n) :=
 (e_impl_DecompositionFromOrder (plQuery q) (plS plI o)).er (by simp only [rpL, rp, rp_agg_d, rpL_d, Option.map_some, er_cQuery, er_SI, er_I, D.er])
section
theorem w_impl_gcd (a b : Nat) (ha : a <= 4000000000000000000) (hb : b <= 4000000000000000000) : VC Tryz.prog 99 [.d (.int .i64 a), .d (.int .i64 b)] (fun _ r => r = .d (.int .i64 (Nat.gcd a b : Nat))) := by
 refine VC.ofL EP s99 (by kernel_rfl) Tryz.func99 (by rfl) (by kernel_rfl) (by simp [Tryz.f99]) (by simp [Tryz.f99]) s99_ok fun B hl => ?_
 simp [Tryz.f99, s99_2, s99_2, ]
 refine loop_rule (X := Nat × Nat) (fun p => p.1 <= 4000000000000000000 /\ p.2 <= 4000000000000000000 /\ Nat.gcd p.1 p.2 = Nat.gcd a b) (fun p => [(0, .d (.int .i64 p.1)), (1, .d (.int .i64 p.2))]) (fun _ => []) (fun p => p.2) (a, b) ⟨ha, hb, rfl⟩ (by simp) (by simp) ?_
 rintro ⟨x, y⟩ hs t m ⟨h1, h2, h3⟩ hh
 simp only at h1 h2 h3
 by_cases hy : y = 0
 ·subst hy
  rw [Nat.gcd_zero_right] at h3
  simp [s99_2, h3]
 ·have hm := Nat.mod_lt x (show 0 < y by omega)
  have h4 : Nat.gcd y (x % y) = Nat.gcd a b := by rw [<- h3, Nat.gcd_comm x y, Nat.gcd_rec y x, Nat.gcd_comm]
  simp [s99_2, hy, tmod_nat]
  exact back (y, x % y) ⟨h2, by simp only; omega, h4⟩ (by simp only; omega) rfl (by simp <;> omega) (by simp) (by simp)
theorem w_impl_abs (n : Int) (h : n.natAbs <= 4000000000000000000) : VC Tryz.prog 100 [.d (.int .i64 n)] (fun _ r => r = .d (.int .i64 (n.natAbs : Nat))) := by
 refine VC.ofL EP s100 (by kernel_rfl) Tryz.func100 (by rfl) (by kernel_rfl) (by simp [Tryz.f100]) (by simp [Tryz.f100]) s100_ok fun B hl => ?_
 have hw : IntKind.i64.wrap (-n) = -n := wrap64_of (by omega) (by omega)
 by_cases h0 : n < -n
 ·simp [Tryz.f100, hw, h0]
  omega
 ·simp [Tryz.f100, hw, h0]
  omega
theorem w_impl_IsValidRational (q : _root_.Rat) (h : smQ q) : VC Tryz.prog 75 [.agg [.d (.int .i64 q.num), .d (.int .i64 (q.den : Int))]] (fun _ r => r = .d (.bool true)) := by
 obtain ⟨i1, i2, i3, i4⟩ := sm_i h
 have e1 : inR (q.den : Int) 1 1000000000 = true := by simp [inR]; omega
 have e2 : inR q.num (-1000000000) 1000000000 = true := by simp [inR]; omega
 have e3 := sm_gcd q
 refine VC.ofL EP s75 (by kernel_rfl) Tryz.func75 (by rfl) (by kernel_rfl) (by simp [Tryz.f75]) (by simp [Tryz.f75]) s75_ok fun B hl => ?_
 simp [Tryz.f75, s75_1, s75_1, ]
 refine call_f (w_impl_within q.den 1 1000000000) (by simp) rfl fun hs0 hh0 => ?_
 simp [e1]
 refine call_f (w_impl_within q.num (-1000000000) 1000000000) (by simp) rfl fun hs1 hh1 => ?_
 simp [e2]
 refine call_f (w_impl_abs q.num (by omega)) (by simp) rfl fun hs2 hh2 => ?_
 simp
 refine call_f (w_impl_gcd q.num.natAbs q.den (by omega) (by omega)) (by simp) rfl fun hs3 hh3 => ?_
 simp [e3]
theorem w_impl_NewRational (n d : Int) (q : _root_.Rat) (hq : q = _root_.Rat.divInt n d) (hd : d ≠ 0) (hn4 : n.natAbs <= 4000000000000000000) (hd4 : d.natAbs <= 4000000000000000000) (h : smQ q) :
  VC Tryz.prog 131 [.d (.int .i64 n), .d (.int .i64 d)] (fun _ r => r = .tup [.agg [.d (.int .i64 q.num), .d (.int .i64 (q.den : Int))], .d (.bool true)]) := by
 have e1 : inR n (-4000000000000000000) 4000000000000000000 = true := by simp [inR]; omega
 have e2 : inR d (-4000000000000000000) 4000000000000000000 = true := by simp [inR]; omega
 have wn : IntKind.i64.wrap (-n) = -n := wrap64_of (by omega) (by omega)
 have wd : IntKind.i64.wrap (-d) = -d := wrap64_of (by omega) (by omega)
 obtain ⟨i1, i2, i3, i4⟩ := sm_i h
 have wq : IntKind.i64.wrap q.num = q.num := wrap64_of (by omega) (by omega)
 have wr : IntKind.i64.wrap (q.den : Int) = q.den := wrap64_of (by omega) (by omega)
 refine VC.ofL EP s131 (by kernel_rfl) Tryz.func131 (by rfl) (by kernel_rfl) (by simp [Tryz.f131]) (by simp [Tryz.f131]) s131_ok fun B hl => ?_
 simp [Tryz.f131, s131_6, s131_6, hd]
 refine call_f (w_impl_within n (-4000000000000000000) 4000000000000000000) (by simp) rfl fun hs0 hh0 => ?_
 simp [e1]
 refine call_f (w_impl_within d (-4000000000000000000) 4000000000000000000) (by simp) rfl fun hs1 hh1 => ?_
 simp [e2]
 by_cases h0 : d < 0
 ·have hp : 0 < -d := by omega
  obtain ⟨a1, a2⟩ := norm_num (n := -n) (d := -d) (q := q) (by rw [hq, q_flip]) hp
  obtain ⟨b1, b2⟩ := gcd_le (n := -n) hp
  have b3 : Nat.gcd (-n).natAbs (-d).natAbs ≠ 0 := by omega
  have hdn : ((-d).natAbs : Int) = -d := by omega
  simp [h0, wn, wd]
  refine call_f (w_impl_abs (-n) (by omega)) (by simp) rfl fun hs2 hh2 => ?_
  simp [-Int.natAbs_neg]
  refine call_f (w_impl_gcd (-n).natAbs (-d).natAbs (by omega) (by omega)) (by simp [-Int.natAbs_neg, hdn]) rfl fun hs3 hh3 => ?_
  simp [-Int.natAbs_neg, b3, a1, a2, wq, wr, s131_6, ]
  refine call_f (w_impl_IsValidRational q h) (by simp) rfl fun hs4 hh4 => ?_
  simp
 ·have hp : 0 < d := by omega
  obtain ⟨a1, a2⟩ := norm_num (n := n) (d := d) (q := q) hq hp
  obtain ⟨b1, b2⟩ := gcd_le (n := n) hp
  have b3 : Nat.gcd n.natAbs d.natAbs ≠ 0 := by omega
  have hdn : (d.natAbs : Int) = d := by omega
  simp [h0]
  refine call_f (w_impl_abs n (by omega)) (by simp) rfl fun hs2 hh2 => ?_
  simp
  refine call_f (w_impl_gcd n.natAbs d.natAbs (by omega) (by omega)) (by simp [hdn]) rfl fun hs3 hh3 => ?_
  simp [b3, a1, a2, wq, wr, s131_6, ]
  refine call_f (w_impl_IsValidRational q h) (by simp) rfl fun hs4 hh4 => ?_
  simp
theorem w_impl_bothValid (a b : _root_.Rat) (ha : smQ a) (hb : smQ b) : VC Tryz.prog 37 [.agg [.d (.int .i64 a.num), .d (.int .i64 (a.den : Int))], .agg [.d (.int .i64 b.num), .d (.int .i64 (b.den : Int))]] (fun _ r => r = .d (.bool true)) := by
 refine VC.ofL EP s37 (by kernel_rfl) Tryz.func37 (by rfl) (by kernel_rfl) (by simp [Tryz.f37]) (by simp [Tryz.f37]) s37_ok fun B hl => ?_
 simp [Tryz.f37, ]
 refine call_f (w_impl_IsValidRational a ha) (by simp) rfl fun hs0 hh0 => ?_
 simp
 refine call_f (w_impl_IsValidRational b hb) (by simp) rfl fun hs1 hh1 => ?_
 simp
theorem w_impl_AddRational (a b : _root_.Rat) (ha : smQ a) (hb : smQ b) (h : smQ (a + b)) : VC Tryz.prog 123 [.agg [.d (.int .i64 a.num), .d (.int .i64 (a.den : Int))], .agg [.d (.int .i64 b.num), .d (.int .i64 (b.den : Int))]]
  (fun _ r => r = .tup [.agg [.d (.int .i64 (a + b).num), .d (.int .i64 ((a + b).den : Int))], .d (.bool true)]) := by
 obtain ⟨m1, m2, m3, m4, m5⟩ := sm_mul ha hb
 have w1 : IntKind.i64.wrap (a.num * b.den) = a.num * b.den := wrap64_of (by omega) (by omega)
 have w2 : IntKind.i64.wrap (b.num * a.den) = b.num * a.den := wrap64_of (by omega) (by omega)
 have w3 : IntKind.i64.wrap (a.num * b.den + b.num * a.den) = a.num * b.den + b.num * a.den := wrap64_of (by omega) (by omega)
 have w4 : IntKind.i64.wrap ((a.den : Int) * b.den) = (a.den : Int) * b.den := wrap64_of (by omega) (by omega)
 have hp : (0 : Int) < (a.den : Int) * b.den := den_mul
 refine VC.ofL EP s123 (by kernel_rfl) Tryz.func123 (by rfl) (by kernel_rfl) (by simp [Tryz.f123]) (by simp [Tryz.f123]) s123_ok fun B hl => ?_
 simp [Tryz.f123, ]
 refine call_f (w_impl_bothValid a b ha hb) (by simp) rfl fun hs0 hh0 => ?_
 simp [w1, w2, w3, w4]
 refine call_f (w_impl_NewRational (a.num * b.den + b.num * a.den) ((a.den : Int) * b.den) (a + b) (q_add a b) (by omega) (by omega) (by omega) h) (by simp) rfl fun hs1 hh1 => ?_
 simp
theorem w_impl_SubRational (a b : _root_.Rat) (ha : smQ a) (hb : smQ b) (h : smQ (a - b)) : VC Tryz.prog 133 [.agg [.d (.int .i64 a.num), .d (.int .i64 (a.den : Int))], .agg [.d (.int .i64 b.num), .d (.int .i64 (b.den : Int))]]
  (fun _ r => r = .tup [.agg [.d (.int .i64 (a - b).num), .d (.int .i64 ((a - b).den : Int))], .d (.bool true)]) := by
 obtain ⟨i1, i2, i3, i4⟩ := sm_i hb
 have w1 : IntKind.i64.wrap (-b.num) = (-b).num := by rw [(q_neg b).1]; exact wrap64_of (by omega) (by omega)
 have e2 : (b.den : Int) = ((-b).den : Int) := by rw [(q_neg b).2]
 have e3 : a - b = a + -b := q_sub a b
 rw [e3] at h ⊢
 refine VC.ofL EP s133 (by kernel_rfl) Tryz.func133 (by rfl) (by kernel_rfl) (by simp [Tryz.f133]) (by simp [Tryz.f133]) s133_ok fun B hl => ?_
 simp [Tryz.f133, w1]
 refine call_f (w_impl_AddRational a (-b) ha (sm_neg hb) h) (by simp [(q_neg b).2]) rfl fun hs0 hh0 => ?_
 simp
theorem w_impl_MulRational (a b : _root_.Rat) (ha : smQ a) (hb : smQ b) (h : smQ (a * b)) : VC Tryz.prog 122 [.agg [.d (.int .i64 a.num), .d (.int .i64 (a.den : Int))], .agg [.d (.int .i64 b.num), .d (.int .i64 (b.den : Int))]]
  (fun _ r => r = .tup [.agg [.d (.int .i64 (a * b).num), .d (.int .i64 ((a * b).den : Int))], .d (.bool true)]) := by
 obtain ⟨m1, m2, m3, m4, m5⟩ := sm_mul ha hb
 have w3 : IntKind.i64.wrap (a.num * b.num) = a.num * b.num := wrap64_of (by omega) (by omega)
 have w4 : IntKind.i64.wrap ((a.den : Int) * b.den) = (a.den : Int) * b.den := wrap64_of (by omega) (by omega)
 have hp : (0 : Int) < (a.den : Int) * b.den := den_mul
 refine VC.ofL EP s122 (by kernel_rfl) Tryz.func122 (by rfl) (by kernel_rfl) (by simp [Tryz.f122]) (by simp [Tryz.f122]) s122_ok fun B hl => ?_
 simp [Tryz.f122, ]
 refine call_f (w_impl_bothValid a b ha hb) (by simp) rfl fun hs0 hh0 => ?_
 simp [w3, w4]
 refine call_f (w_impl_NewRational (a.num * b.num) ((a.den : Int) * b.den) (a * b) (q_mul a b) (by omega) (by omega) (by omega) h) (by simp) rfl fun hs1 hh1 => ?_
 simp
theorem w_impl_DivRational (a b : _root_.Rat) (ha : smQ a) (hb : smQ b) (hne : b ≠ 0) (h : smQ (a / b)) : VC Tryz.prog 129 [.agg [.d (.int .i64 a.num), .d (.int .i64 (a.den : Int))], .agg [.d (.int .i64 b.num), .d (.int .i64 (b.den : Int))]]
  (fun _ r => r = .tup [.agg [.d (.int .i64 (a / b).num), .d (.int .i64 ((a / b).den : Int))], .d (.bool true)]) := by
 obtain ⟨m1, m2, m3, m4, m5⟩ := sm_mul ha hb
 have hbn := num_ne hne
 have w3 : IntKind.i64.wrap (a.num * b.den) = a.num * b.den := wrap64_of (by omega) (by omega)
 have w4 : IntKind.i64.wrap ((a.den : Int) * b.num) = (a.den : Int) * b.num := wrap64_of (by omega) (by omega)
 have hp : (a.den : Int) * b.num ≠ 0 := Int.mul_ne_zero (by have := sm_pos (q := a); omega) hbn
 refine VC.ofL EP s129 (by kernel_rfl) Tryz.func129 (by rfl) (by kernel_rfl) (by simp [Tryz.f129]) (by simp [Tryz.f129]) s129_ok fun B hl => ?_
 simp [Tryz.f129, ]
 refine call_f (w_impl_bothValid a b ha hb) (by simp) rfl fun hs0 hh0 => ?_
 simp [w3, w4, hbn]
 refine call_f (w_impl_NewRational (a.num * b.den) ((a.den : Int) * b.num) (a / b) (q_div a b) hp (by omega) (by omega) h) (by simp) rfl fun hs1 hh1 => ?_
 simp
theorem w_impl_CompareRationals (a b : _root_.Rat) (ha : smQ a) (hb : smQ b) : VC Tryz.prog 14 [.agg [.d (.int .i64 a.num), .d (.int .i64 (a.den : Int))], .agg [.d (.int .i64 b.num), .d (.int .i64 (b.den : Int))]]
  (fun _ r => r = .d (.int .i64 (cmpQ a b))) := by
 obtain ⟨m1, m2, m3, m4, m5⟩ := sm_mul ha hb
 have w1 : IntKind.i64.wrap (a.num * b.den) = a.num * b.den := wrap64_of (by omega) (by omega)
 have w2 : IntKind.i64.wrap (b.num * a.den) = b.num * a.den := wrap64_of (by omega) (by omega)
 refine VC.ofL EP s14 (by kernel_rfl) Tryz.func14 (by rfl) (by kernel_rfl) (by simp [Tryz.f14]) (by simp [Tryz.f14]) s14_ok fun B hl => ?_
 simp [Tryz.f14, ]
 refine call_f (w_impl_bothValid a b ha hb) (by simp) rfl fun hs0 hh0 => ?_
 simp [w1, w2]
 refine call_f (w_impl_compareInts (a.num * b.den) (b.num * a.den)) (by simp) rfl fun hs1 hh1 => ?_
 simp [cmpQ_eq]
end
section
theorem w_spec_l2Gcd (a b : Nat) (ha : a <= 4000000000000000000) (hb : b <= 4000000000000000000) : VC Tryz.prog 95 [.d (.int .i64 a), .d (.int .i64 b)] (fun _ r => r = .d (.int .i64 (Nat.gcd a b : Nat))) := by
 refine VC.ofL EP s95 (by kernel_rfl) Tryz.func95 (by rfl) (by kernel_rfl) (by simp [Tryz.f95]) (by simp [Tryz.f95]) s95_ok fun B hl => ?_
 simp [Tryz.f95, ]
 refine loop_rule (X := Nat × Nat) (fun p => p.1 <= 4000000000000000000 /\ p.2 <= 4000000000000000000 /\ Nat.gcd p.1 p.2 = Nat.gcd a b) (fun p => [(0, .d (.int .i64 p.1)), (1, .d (.int .i64 p.2))]) (fun _ => []) (fun p => p.2) (a, b) ⟨ha, hb, rfl⟩ (by simp) (by simp) ?_
 rintro ⟨x, y⟩ hs t m ⟨h1, h2, h3⟩ hh
 simp only at h1 h2 h3
 by_cases hy : y = 0
 ·subst hy
  rw [Nat.gcd_zero_right] at h3
  simp [h3]
 ·have hm := Nat.mod_lt x (show 0 < y by omega)
  have h4 : Nat.gcd y (x % y) = Nat.gcd a b := by rw [<- h3, Nat.gcd_comm x y, Nat.gcd_rec y x, Nat.gcd_comm]
  simp [hy, tmod_nat]
  exact back (y, x % y) ⟨h2, by simp only; omega, h4⟩ (by simp only; omega) rfl (by simp <;> omega) (by simp) (by simp)
theorem w_spec_IsValidRational (q : _root_.Rat) (h : smQ q) : VC Tryz.prog 70 [.agg [.d (.int .i64 q.num), .d (.int .i64 (q.den : Int))]] (fun _ r => r = .d (.bool true)) := by
 obtain ⟨i1, i2, i3, i4⟩ := sm_i h
 have e1 : inR (q.den : Int) 1 1000000000 = true := by simp [inR]; omega
 have e2 : inR q.num (-1000000000) 1000000000 = true := by simp [inR]; omega
 have e3 := sm_gcd q
 have hw : IntKind.i64.wrap (-q.num) = -q.num := wrap64_of (by omega) (by omega)
 refine VC.ofL EP s70 (by kernel_rfl) Tryz.func70 (by rfl) (by kernel_rfl) (by simp [Tryz.f70]) (by simp [Tryz.f70]) s70_ok fun B hl => ?_
 simp [Tryz.f70, ]
 refine call_f (w_spec_l1In q.den 1 1000000000) (by simp) rfl fun hs0 hh0 => ?_
 simp [e1]
 refine call_f (w_spec_l1In q.num (-1000000000) 1000000000) (by simp) rfl fun hs1 hh1 => ?_
 simp [e2, hw]
 refine call_f (w_spec_l2Gcd q.num.natAbs q.den (by omega) (by omega)) (by simp; omega) rfl fun hs3 hh3 => ?_
 simp [e3]
theorem w_spec_NewRational (n d : Int) (q : _root_.Rat) (hq : q = _root_.Rat.divInt n d) (hd : d ≠ 0) (hn4 : n.natAbs <= 4000000000000000000) (hd4 : d.natAbs <= 4000000000000000000) (h : smQ q) :
  VC Tryz.prog 127 [.d (.int .i64 n), .d (.int .i64 d)] (fun _ r => r = .tup [.agg [.d (.int .i64 q.num), .d (.int .i64 (q.den : Int))], .d (.bool true)]) := by
 have e1 : inR n (-4000000000000000000) 4000000000000000000 = true := by simp [inR]; omega
 have e2 : inR d (-4000000000000000000) 4000000000000000000 = true := by simp [inR]; omega
 have wm : IntKind.i64.wrap (-4000000000000000000) = -4000000000000000000 := wrap64_of (by omega) (by omega)
 have wn : IntKind.i64.wrap (-n) = -n := wrap64_of (by omega) (by omega)
 have wd : IntKind.i64.wrap (-d) = -d := wrap64_of (by omega) (by omega)
 obtain ⟨i1, i2, i3, i4⟩ := sm_i h
 have wq : IntKind.i64.wrap q.num = q.num := wrap64_of (by omega) (by omega)
 have wr : IntKind.i64.wrap (q.den : Int) = q.den := wrap64_of (by omega) (by omega)
 refine VC.ofL EP s127 (by kernel_rfl) Tryz.func127 (by rfl) (by kernel_rfl) (by simp [Tryz.f127]) (by simp [Tryz.f127]) s127_ok fun B hl => ?_
 simp [Tryz.f127, s127_8, s127_8, hd, wm]
 refine call_f (w_spec_l1In n (-4000000000000000000) 4000000000000000000) (by simp) rfl fun hs0 hh0 => ?_
 simp [e1, wm]
 refine call_f (w_spec_l1In d (-4000000000000000000) 4000000000000000000) (by simp) rfl fun hs1 hh1 => ?_
 simp [e2]
 by_cases h0 : d < 0
 ·have hp : 0 < -d := by omega
  obtain ⟨a1, a2⟩ := norm_num (n := -n) (d := -d) (q := q) (by rw [hq, q_flip]) hp
  obtain ⟨b1, b2⟩ := gcd_le (n := -n) hp
  have b3 : Nat.gcd (-n).natAbs (-d).natAbs ≠ 0 := by omega
  have hdn : ((-d).natAbs : Int) = -d := by omega
  have wn2 : IntKind.i64.wrap n = n := wrap64_of (by omega) (by omega)
  simp [h0, wn, wd, wn2]
  refine call_f (w_spec_l2Gcd (-n).natAbs (-d).natAbs (by omega) (by omega)) (by simp [-Int.natAbs_neg, hdn]; omega) rfl fun hs3 hh3 => ?_
  simp [-Int.natAbs_neg, b3, a1, a2, wq, wr, s127_8, ]
  refine call_f (w_spec_IsValidRational q h) (by simp) rfl fun hs4 hh4 => ?_
  simp
 ·have hp : 0 < d := by omega
  obtain ⟨a1, a2⟩ := norm_num (n := n) (d := d) (q := q) hq hp
  obtain ⟨b1, b2⟩ := gcd_le (n := n) hp
  have b3 : Nat.gcd n.natAbs d.natAbs ≠ 0 := by omega
  have hdn : (d.natAbs : Int) = d := by omega
  simp [h0, wn]
  refine call_f (w_spec_l2Gcd n.natAbs d.natAbs (by omega) (by omega)) (by simp [hdn]; omega) rfl fun hs3 hh3 => ?_
  simp [b3, a1, a2, wq, wr, s127_8, ]
  refine call_f (w_spec_IsValidRational q h) (by simp) rfl fun hs4 hh4 => ?_
  simp
theorem w_spec_AddRational (a b : _root_.Rat) (ha : smQ a) (hb : smQ b) (h : smQ (a + b)) : VC Tryz.prog 116 [.agg [.d (.int .i64 a.num), .d (.int .i64 (a.den : Int))], .agg [.d (.int .i64 b.num), .d (.int .i64 (b.den : Int))]]
  (fun _ r => r = .tup [.agg [.d (.int .i64 (a + b).num), .d (.int .i64 ((a + b).den : Int))], .d (.bool true)]) := by
 obtain ⟨m1, m2, m3, m4, m5⟩ := sm_mul ha hb
 have w1 : IntKind.i64.wrap (a.num * b.den) = a.num * b.den := wrap64_of (by omega) (by omega)
 have w2 : IntKind.i64.wrap (b.num * a.den) = b.num * a.den := wrap64_of (by omega) (by omega)
 have w3 : IntKind.i64.wrap (a.num * b.den + b.num * a.den) = a.num * b.den + b.num * a.den := wrap64_of (by omega) (by omega)
 have w4 : IntKind.i64.wrap ((a.den : Int) * b.den) = (a.den : Int) * b.den := wrap64_of (by omega) (by omega)
 have hp : (0 : Int) < (a.den : Int) * b.den := den_mul
 refine VC.ofL EP s116 (by kernel_rfl) Tryz.func116 (by rfl) (by kernel_rfl) (by simp [Tryz.f116]) (by simp [Tryz.f116]) s116_ok fun B hl => ?_
 simp [Tryz.f116, ]
 refine call_f (w_spec_IsValidRational a ha) (by simp) rfl fun hs0 hh0 => ?_
 simp
 refine call_f (w_spec_IsValidRational b hb) (by simp) rfl fun hs1 hh1 => ?_
 simp [w1, w2, w3, w4]
 refine call_f (w_spec_NewRational (a.num * b.den + b.num * a.den) ((a.den : Int) * b.den) (a + b) (q_add a b) (by omega) (by omega) (by omega) h) (by simp) rfl fun hs2 hh2 => ?_
 simp
theorem w_spec_SubRational (a b : _root_.Rat) (ha : smQ a) (hb : smQ b) (h : smQ (a - b)) : VC Tryz.prog 132 [.agg [.d (.int .i64 a.num), .d (.int .i64 (a.den : Int))], .agg [.d (.int .i64 b.num), .d (.int .i64 (b.den : Int))]]
  (fun _ r => r = .tup [.agg [.d (.int .i64 (a - b).num), .d (.int .i64 ((a - b).den : Int))], .d (.bool true)]) := by
 obtain ⟨i1, i2, i3, i4⟩ := sm_i hb
 have w1 : IntKind.i64.wrap (-b.num) = (-b).num := by rw [(q_neg b).1]; exact wrap64_of (by omega) (by omega)
 have e3 : a - b = a + -b := q_sub a b
 rw [e3] at h ⊢
 refine VC.ofL EP s132 (by kernel_rfl) Tryz.func132 (by rfl) (by kernel_rfl) (by simp [Tryz.f132]) (by simp [Tryz.f132]) s132_ok fun B hl => ?_
 simp [Tryz.f132, ]
 refine call_f (w_spec_IsValidRational b hb) (by simp) rfl fun hs0 hh0 => ?_
 simp [w1]
 refine call_f (w_spec_AddRational a (-b) ha (sm_neg hb) h) (by simp [(q_neg b).2]) rfl fun hs0 hh0 => ?_
 simp
theorem w_spec_MulRational (a b : _root_.Rat) (ha : smQ a) (hb : smQ b) (h : smQ (a * b)) : VC Tryz.prog 115 [.agg [.d (.int .i64 a.num), .d (.int .i64 (a.den : Int))], .agg [.d (.int .i64 b.num), .d (.int .i64 (b.den : Int))]]
  (fun _ r => r = .tup [.agg [.d (.int .i64 (a * b).num), .d (.int .i64 ((a * b).den : Int))], .d (.bool true)]) := by
 obtain ⟨m1, m2, m3, m4, m5⟩ := sm_mul ha hb
 have w3 : IntKind.i64.wrap (a.num * b.num) = a.num * b.num := wrap64_of (by omega) (by omega)
 have w4 : IntKind.i64.wrap ((a.den : Int) * b.den) = (a.den : Int) * b.den := wrap64_of (by omega) (by omega)
 have hp : (0 : Int) < (a.den : Int) * b.den := den_mul
 refine VC.ofL EP s115 (by kernel_rfl) Tryz.func115 (by rfl) (by kernel_rfl) (by simp [Tryz.f115]) (by simp [Tryz.f115]) s115_ok fun B hl => ?_
 simp [Tryz.f115, ]
 refine call_f (w_spec_IsValidRational a ha) (by simp) rfl fun hs0 hh0 => ?_
 simp
 refine call_f (w_spec_IsValidRational b hb) (by simp) rfl fun hs1 hh1 => ?_
 simp [w3, w4]
 refine call_f (w_spec_NewRational (a.num * b.num) ((a.den : Int) * b.den) (a * b) (q_mul a b) (by omega) (by omega) (by omega) h) (by simp) rfl fun hs2 hh2 => ?_
 simp
theorem w_spec_DivRational (a b : _root_.Rat) (ha : smQ a) (hb : smQ b) (hne : b ≠ 0) (h : smQ (a / b)) : VC Tryz.prog 125 [.agg [.d (.int .i64 a.num), .d (.int .i64 (a.den : Int))], .agg [.d (.int .i64 b.num), .d (.int .i64 (b.den : Int))]]
  (fun _ r => r = .tup [.agg [.d (.int .i64 (a / b).num), .d (.int .i64 ((a / b).den : Int))], .d (.bool true)]) := by
 obtain ⟨m1, m2, m3, m4, m5⟩ := sm_mul ha hb
 have hbn := num_ne hne
 have w3 : IntKind.i64.wrap (a.num * b.den) = a.num * b.den := wrap64_of (by omega) (by omega)
 have w4 : IntKind.i64.wrap ((a.den : Int) * b.num) = (a.den : Int) * b.num := wrap64_of (by omega) (by omega)
 have hp : (a.den : Int) * b.num ≠ 0 := Int.mul_ne_zero (by have := sm_pos (q := a); omega) hbn
 refine VC.ofL EP s125 (by kernel_rfl) Tryz.func125 (by rfl) (by kernel_rfl) (by simp [Tryz.f125]) (by simp [Tryz.f125]) s125_ok fun B hl => ?_
 simp [Tryz.f125, ]
 refine call_f (w_spec_IsValidRational a ha) (by simp) rfl fun hs0 hh0 => ?_
 simp
 refine call_f (w_spec_IsValidRational b hb) (by simp) rfl fun hs1 hh1 => ?_
 simp [w3, w4]
 refine call_f (w_spec_NewRational (a.num * b.den) ((a.den : Int) * b.num) (a / b) (q_div a b) hp (by omega) (by omega) h) (by simp) rfl fun hs2 hh2 => ?_
 simp
theorem w_spec_CompareRationals (a b : _root_.Rat) (ha : smQ a) (hb : smQ b) : VC Tryz.prog 28 [.agg [.d (.int .i64 a.num), .d (.int .i64 (a.den : Int))], .agg [.d (.int .i64 b.num), .d (.int .i64 (b.den : Int))]]
  (fun _ r => r = .d (.int .i64 (cmpQ a b))) := by
 obtain ⟨m1, m2, m3, m4, m5⟩ := sm_mul ha hb
 have w1 : IntKind.i64.wrap (a.num * b.den) = a.num * b.den := wrap64_of (by omega) (by omega)
 have w2 : IntKind.i64.wrap (b.num * a.den) = b.num * a.den := wrap64_of (by omega) (by omega)
 refine VC.ofL EP s28 (by kernel_rfl) Tryz.func28 (by rfl) (by kernel_rfl) (by simp [Tryz.f28]) (by simp [Tryz.f28]) s28_ok fun B hl => ?_
 simp [Tryz.f28, ]
 refine call_f (w_spec_IsValidRational a ha) (by simp) rfl fun hs0 hh0 => ?_
 simp
 refine call_f (w_spec_IsValidRational b hb) (by simp) rfl fun hs1 hh1 => ?_
 simp [w1, w2]
 rw [cmpQ_eq]
 by_cases h1 : a.num * b.den < b.num * a.den
 ·simp [h1]
 ·by_cases h2 : b.num * a.den < a.num * b.den <;> simp [h1, h2]
end
end Go.Proofs.YtaoaoijchijlcaaGreatDoor
namespace Go.Proofs.YtaoaoijchijlcaaGreatDoor
open Go.Vs Go.Proofs Go
set_option maxRecDepth 100000
set_option maxHeartbeats 1000000
section
attribute [local simp] pS cP eQ_def
theorem w_impl_allValid (l : List _root_.Rat) (h : ∀ q ∈ l, smQ q) : VC Tryz.prog 108 [.d (pS eQ l)] (fun _ r => r = .d (.bool true)) := by
 refine VC.ofL EP s108 (by kernel_rfl) Tryz.func108 (by rfl) (by kernel_rfl) (by simp [Tryz.f108]) (by simp [Tryz.f108]) s108_ok fun B hl => ?_
 simp [maxLen] at hl
 simp [Tryz.f108, ]
 refine loop_rule (X := Nat) (fun i => i <= l.length) (fun i => [(5, .d (.pl (l.map eQ))), (6, .d (.int .i64 l.length)), (7, .d (.int .i64 i))]) (fun _ => []) (fun i => l.length - i) 0 (by simp) (by simp) (by simp) ?_
 intro i hs t m hi hh
 by_cases hlt : i < l.length
 ·have hwi := wr1 (i := i) (by omega)
  simp [hlt, ]
  refine call_f (w_impl_IsValidRational l[i] (h _ (List.getElem_mem hlt))) (by simp) rfl fun hs1 hh1 => ?_
  try simp at hh1
  simp [hwi]
  exact back (i + 1) (by omega) (by omega) rfl (by simp <;> omega) (by simp) (by simp)
 ·simp [hlt]
theorem e_impl_copyRationals (l : List _root_.Rat) (hb : l.length <= 4294967296) :
  VC Tryz.prog 117 [.d (pS eQ l)] (fun n r => ∃ g : Option Nat, r = .d (.sl g (some (33, 2)) (l.map eQ)) /\ (∀ k, g = some k -> n <= k) /\ (g = none -> l = [])) := by
 refine VC.of E s117 (by kernel_rfl) Tryz.func117 (by rfl) (by kernel_rfl) (by simp [Tryz.f117]) (by simp [Tryz.f117]) s117_ok fun B => ?_
 have hL : LenOk 16 l.length := ⟨by omega, by simp only [maxLen]; omega⟩
 have hp : hpLL (l.map eQ) = false := hp_eQs l
 simp [Tryz.f117, hL, hp, List.take_of_length_le]
 intro γ hs' h1 hg
 obtain ⟨q1, q2⟩ := gam_at hg (k := 3) (T := 33) (sz := 2) (es := l.map eQ) (by simp)
 clear hg
 refine ⟨fun k hk => (q1 k hk).1, fun h => ?_⟩
 exact Classical.byContradiction fun hl => q2 (by simpa using hl) h
theorem w_impl_DotProduct (u v : List _root_.Rat) (hlen : u.length = v.length) (h : DotS u.length (fnL u) (fnL v)) :
  VC Tryz.prog 110 [.d (pS eQ u), .d (pS eQ v)] (fun _ r => r = .tup [.agg [.d (.int .i64 (dotF u.length (fnL u) (fnL v)).num), .d (.int .i64 ((dotF u.length (fnL u) (fnL v)).den : Int))], .d (.bool true)]) := by
 refine VC.ofL EP s110 (by kernel_rfl) Tryz.func110 (by rfl) (by kernel_rfl) (by simp [Tryz.f110]) (by simp [Tryz.f110]) s110_ok fun B hl => ?_
 simp [maxLen] at hl
 simp [Tryz.f110, s110_7, s110_7, hlen]
 refine loop_rule (X := Nat) (fun i => i <= v.length) (fun i => [(0, .d (.pl (u.map eQ))), (1, .d (.pl (v.map eQ))), (4, .ptr 4 0 0), (6, .ptr 6 0 0), (20, .d (.int .i64 v.length)), (21, .d (.int .i64 i))]) (fun i => [(4, some (.box [.d (.int .i64 0), .d (.int .i64 0)])), (6, some (.box [.d (.int .i64 (dotF i (fnL u) (fnL v)).num), .d (.int .i64 ((dotF i (fnL u) (fnL v)).den : Int))]))]) (fun i => v.length - i) 0 (by simp) (by simp) (by simp [dotF]) ?_
 intro i hs t m hi hh
 by_cases hlt : i < v.length
 ·have hwi := wr1 (i := i) (by omega)
  have hlu : i < u.length := by omega
  have a1 := h.sa i hlu
  have a2 := h.sx i hlu
  have a3 := h.sm i hlu
  have a4 := h.ss i (by omega)
  have a5 := h.ss (i + 1) (by omega)
  have e : dotF (i + 1) (fnL u) (fnL v) = dotF i (fnL u) (fnL v) + u[i] * v[i] := by rw [dotF, fnL_at hlu, fnL_at hlt]
  rw [fnL_at hlu] at a1 a3
  rw [fnL_at hlt] at a2 a3
  rw [e] at a5
  simp [hlt, hlu, s110_7, ]
  refine ⟨?_, ?_⟩
  all_goals
   refine call_f (w_impl_MulRational u[i] v[i] a1 a2 a3) (by simp) rfl fun hs1 hh1 => ?_
   try simp at hh1
   simp [s110_7, ]
   refine call_f (w_impl_AddRational (dotF i (fnL u) (fnL v)) (u[i] * v[i]) a4 a3 a5) (by simp) rfl fun hs2 hh2 => ?_
   try simp at hh2
   simp [hwi, s110_7, ]
   exact back (i + 1) (by omega) (by omega) rfl (by simp <;> omega) (by simp) (by simp [e])
 ·have hn : i = v.length := by omega
  simp [hlt, hn, s110_7, ]
theorem w_impl_MatrixVectorProduct (A : List (List _root_.Rat)) (x : List _root_.Rat) (hb : A.length <= 4294967296) (hr : ∀ r ∈ A, r.length = x.length) (h : ∀ r ∈ A, DotS x.length (fnL r) (fnL x)) :
  VC Tryz.prog 130 [.d (pS (cP eQ) A), .d (pS eQ x)] (fun _ r => r = .tup [.d (pS eQ (A.map fun r => dotF x.length (fnL r) (fnL x))), .d (.bool true)]) := by
 refine VC.ofL EP s130 (by kernel_rfl) Tryz.func130 (by rfl) (by kernel_rfl) (by simp [Tryz.f130]) (by simp [Tryz.f130]) s130_ok fun B hl => ?_
 clear hl
 simp [Tryz.f130, ]
 obtain ⟨F, hF⟩ : ∃ F : List _root_.Rat -> _root_.Rat, F = fun r => dotF x.length (fnL r) (fnL x) := ⟨_, rfl⟩
 refine loop_ruleL (X := Nat) (fun i _ => i <= A.length) (fun i => [(1, .d (.pl (x.map eQ))), (6, .own 900 0 i), (11, .d (.pl (A.map (cP eQ)))), (12, .d (.int .i64 A.length)), (13, .d (.int .i64 i))]) (fun i => [(900, some (.row 33 2 (((A.take i).map F).map eQ)))]) (fun i => A.length - i) ?_ ?_
 ·refine (lead_slot 6 900 33 2 (by omega) (by omega) (by simp)).bind ?_
  rintro _ rfl
  exact Lead.of ⟨0, by omega, rfl, rfl, Nat.le_refl _, by simp, by simp⟩
 intro i hs t m hi hh
 by_cases hlt : i < A.length
 ·have hwi := wr1 (i := i) (by omega)
  have hL : LenOk 16 (i + 1) := ⟨by omega, by simp only [maxLen]; omega⟩
  have hm := List.getElem_mem hlt
  have hd := h _ hm
  have hrl := hr _ hm
  have hst : (A.map (eQ ∘ F)).take (i + 1) = (A.map (eQ ∘ F)).take i ++ [eQ (F A[i])] := by rw [List.take_succ_eq_append_getElem (by simpa using hlt)]; simp
  have hFi : F A[i] = dotF A[i].length (fnL A[i]) (fnL x) := by rw [hF, hrl]
  simp [hlt, ]
  refine call_f (w_impl_DotProduct A[i] x hrl (by rw [hrl]; exact hd)) (by simp) rfl fun hs1 hh1 => ?_
  try simp at hh1
  rw [<- hFi]
  have hmin : min i A.length = i := by omega
  simp [hwi, hL, hmin, ]
  exact back (i + 1) (by omega) (by omega) rfl (by simp <;> omega) (by simp) (by simp [hst])
 ·have hn : i = A.length := by omega
  subst hn
  simp [List.take_of_length_le, hF]
theorem w_impl_IsValidLinearProgram (A : List (List _root_.Rat)) (n : Nat) (h : LPok A n) :
  VC Tryz.prog 96 [.agg [.d (pS (cP eQ) A), .d (pS eQ (List.replicate A.length 1)), .d (pS eQ (List.replicate n 1))]] (fun _ r => r = .d (.bool true)) := by
 have h1 := h.n1
 have h2 := h.n4
 have h3 := h.m1
 have h4 := h.m5
 have e1 : inR (n : Int) 1 5 = true := by simp [inR]; omega
 have e2 : inR (A.length : Int) 1 5 = true := by simp [inR]; omega
 refine VC.ofL EP s96 (by kernel_rfl) Tryz.func96 (by rfl) (by kernel_rfl) (by simp [Tryz.f96]) (by simp [Tryz.f96]) s96_ok fun B hl => ?_
 clear hl
 simp [Tryz.f96, ]
 refine call_f (w_impl_within n 1 5) (by simp) rfl fun hs0 hh0 => ?_
 simp [e1]
 refine call_f (w_impl_within A.length 1 5) (by simp) rfl fun hs1 hh1 => ?_
 simp [e2]
 refine call_f (w_impl_allValid (List.replicate A.length 1) rep_sm) (by simp) rfl fun hs2 hh2 => ?_
 simp
 refine call_f (w_impl_allValid (List.replicate n 1) rep_sm) (by simp) rfl fun hs3 hh3 => ?_
 simp
 refine loop_rule (X := Nat) (fun i => i <= A.length) (fun i => [(3, .d (.int .i64 n)), (41, .d (.pl (A.map (cP eQ)))), (42, .d (.int .i64 A.length)), (43, .d (.int .i64 i))]) (fun _ => []) (fun i => A.length - i) 0 (by simp) (by simp) (by simp) ?_
 intro i hs t m hi hh
 by_cases hlt : i < A.length
 ·have hwi := wr1 (i := i) (by omega)
  have hm := List.getElem_mem hlt
  have hrl := h.m01.len _ hm
  simp [hlt, hrl, ]
  refine call_f (w_impl_allValid A[i] (h.sm hm)) (by simp) rfl fun hs1 hh1 => ?_
  try simp at hh1
  simp [hwi]
  exact back (i + 1) (by omega) (by omega) rfl (by simp <;> omega) (by simp) (by simp)
 ·simp [hlt]
theorem w_impl_EqualRationals (a b : List _root_.Rat) : VC Tryz.prog 121 [.d (pS eQ a), .d (pS eQ b)] (fun _ r => r = .d (.bool (decide (a = b)))) := by
 refine VC.ofL EP s121 (by kernel_rfl) Tryz.func121 (by rfl) (by kernel_rfl) (by simp [Tryz.f121]) (by simp [Tryz.f121]) s121_ok fun B hl => ?_
 simp [maxLen] at hl
 by_cases hlen : a.length = b.length
 case neg =>
  have : a ≠ b := fun e => hlen (by rw [e])
  simp [Tryz.f121, s121_6, s121_6, hlen, this]
 simp [Tryz.f121, s121_6, s121_6, hlen]
 refine loop_rule (X := Nat) (fun i => i <= b.length /\ a.take i = b.take i) (fun i => [(0, .d (.pl (a.map eQ))), (1, .d (.pl (b.map eQ))), (12, .d (.int .i64 b.length)), (13, .d (.int .i64 i))]) (fun _ => []) (fun i => b.length - i) 0 (by simp) (by simp) (by simp) ?_
 intro i hs t m hi hh
 by_cases hlt : i < b.length
 ·have hwi := wr1 (i := i) (by omega)
  have hla : i < a.length := by omega
  have hst := eq_step hla hlt hi.2
  have hq : a[i] = b[i] ↔ (a[i].num = b[i].num ∧ (a[i].den : Int) = b[i].den) := by
   rw [<- qR_inj, PRat.eq_iff]; rfl
  by_cases he : a[i] = b[i]
  ·simp [hlt, hla, he, hwi, s121_6, ]
   exact back (i + 1) ⟨by omega, hst.1 he⟩ (by omega) rfl (by simp <;> omega) (by simp) (by simp)
  ·have hab : a ≠ b := fun e => he (by subst e; rfl)
   rw [hq] at he
   by_cases h1 : a[i].num = b[i].num
   ·have h2 : ¬ a[i].den = b[i].den := fun e => he ⟨h1, by rw [e]⟩
    simp [hlt, hla, h1, h2, hab, s121_6, ]
   ·simp [hlt, hla, h1, hab, s121_6, ]
 ·have hab : a = b := eq_all (by omega) hlen hi.2
  simp [hlt, hab, s121_6, ]
theorem w_impl_feasible (A : List (List _root_.Rat)) (n : Nat) (x : List _root_.Rat) (h : LPok A n) (hx : SolB n x) :
  VC Tryz.prog 120 [.agg [.d (pS (cP eQ) A), .d (pS eQ (List.replicate A.length 1)), .d (pS eQ (List.replicate n 1))], .d (pS eQ x), .d (.int .i64 1)] (fun _ r => r = .d (.bool (feasQ A x))) := by
 have hxl := hx.len
 have hn4 := h.n4
 have hm5 := h.m5
 refine VC.ofL EP s120 (by kernel_rfl) Tryz.func120 (by rfl) (by kernel_rfl) (by simp [Tryz.f120]) (by simp [Tryz.f120]) s120_ok fun B hl => ?_
 clear hl
 simp [Tryz.f120, s120_15, s120_15, ]
 refine call_f (w_impl_IsValidLinearProgram A n h) (by simp) rfl fun hs0 hh0 => ?_
 simp [hxl]
 refine call_f (w_impl_allValid x (sol_sm hx h.n4)) (by simp) rfl fun hs1 hh1 => ?_
 try simp at hh1
 simp
 refine loop_rule (X := Nat) (fun i => i ≤ x.length ∧ ∀ q ∈ x.take i, 0 ≤ q) (fun i => [(1, .d (.pl (x.map eQ))), (2, .d (.int .i64 1)), (3, .ptr 3 0 0), (29, .d (.pl (x.map eQ))), (30, .d (.int .i64 x.length)), (31, .d (.int .i64 i))])
  (fun _ => [(3, some (.box [.d (.pl (A.map (cP eQ))), .d (.pl ((List.replicate A.length (1 : _root_.Rat)).map eQ)), .d (.pl ((List.replicate n (1 : _root_.Rat)).map eQ))]))]) (fun i => x.length - i) 0 (by simp) (by simp [hxl]) (by simp) ?_
 intro i hs t m hi hh
 by_cases hlt : i < x.length
 ·have hwi := wr1 (i := i) (by omega)
  by_cases hneg : x[i].num < 0
  ·have hf : feasQ A x = false := by
    have : ¬ 0 <= x[i] := by rw [nneg_num]; omega
    rw [feasQ, Bool.and_eq_false_iff]
    left
    rw [List.all_eq_false]
    exact ⟨x[i], List.getElem_mem hlt, by simp [this]⟩
   simp [hlt, hneg, hf, s120_15, ]
  ·have h0 : 0 ≤ x[i] := by rw [nneg_num]; omega
   simp [hlt, hneg, hwi, s120_15, ]
   refine back (i + 1) ⟨by omega, fun q hq => ?_⟩ (by omega) rfl (by simp <;> omega) (by simp) (by simp)
   rw [List.take_succ_eq_append_getElem hlt] at hq
   rcases List.mem_append.1 hq with hq | hq
   ·exact hi.2 q hq
   ·rw [List.mem_singleton.1 hq]; exact h0
 have hin : i = x.length := by omega
 obtain ⟨F, hF⟩ : ∃ F : List _root_.Rat -> _root_.Rat, F = fun r => dotF x.length (fnL r) (fnL x) := ⟨_, rfl⟩
 have hall : x.all (fun q => decide (0 ≤ q)) = true := by
  rw [List.all_eq_true]; intro q hq
  exact decide_eq_true (hi.2 q (by rw [hin, List.take_of_length_le (Nat.le_refl _)]; exact hq))
 simp [hlt, s120_15, ]
 refine call_pq (post := fun _ r => r = .tup [.d (pS eQ (A.map F)), .d (.bool true)]) (by rw [hF]; exact w_impl_MatrixVectorProduct A x (by omega) (fun r hr => by rw [h.m01.len r hr, hxl]) (fun r hr => by rw [hxl]; exact h.dots hx hr)) (by simp) fun r2 n2 hs2 hn2 hm2 hp2 hl2 => ?_
 subst hp2
 try simp at hn2
 simp [s120_15, ]
 refine loop_rule (X := Nat) (fun j => j ≤ A.length ∧ ∀ r ∈ A.take j, 1 ≤ F r) (fun j => [(2, .d (.int .i64 1)), (3, .ptr 3 0 0), (48, .d (.pl ((A.map F).map eQ))), (49, .d (.int .i64 A.length)), (50, .d (.int .i64 j))])
  (fun _ => [(3, some (.box [.d (.pl (A.map (cP eQ))), .d (.pl ((List.replicate A.length (1 : _root_.Rat)).map eQ)), .d (.pl ((List.replicate n (1 : _root_.Rat)).map eQ))]))]) (fun j => A.length - j) 0 (by simp) (by simp) (by simp) ?_
 intro j hs3 t3 m3 hj hh3
 by_cases hlj : j < A.length
 ·have hwj := wr1 (i := j) (by omega)
  have hm := List.getElem_mem hlj
  have hs := (h.dots hx hm).ss n (Nat.le_refl _)
  have hFj : smQ (F A[j]) := by rw [hF]; simp only [hxl]; exact hs
  have hw1 : ∀ z : Int, -1 <= z -> z <= 1 -> IntKind.i64.wrap z = z := fun z h1 h2 => wrap64_of (by omega) (by omega)
  have hcb : -1 <= cmpQ (F A[j]) 1 /\ cmpQ (F A[j]) 1 <= 1 := by unfold cmpQ; split <;> (try split) <;> omega
  simp [hlj, s120_15, ]
  refine call_f (w_impl_CompareRationals (F A[j]) 1 hFj sm_one) (by simp) rfl fun hs4 hh4 => ?_
  try simp at hh4
  simp [hw1 _ hcb.1 hcb.2, hwj]
  by_cases hlt1 : F A[j] < 1
  ·have hf : feasQ A x = false := by
    rw [feasQ, Bool.and_eq_false_iff]
    right
    rw [List.all_eq_false]
    refine ⟨A[j], hm, ?_⟩
    have : ¬ 1 <= dotF x.length (fnL A[j]) (fnL x) := by rw [hF] at hlt1; simp only at hlt1; grind
    simp [this]
   simp [cmpQ_lt.2 hlt1, hf]
  ·have h0 : 1 ≤ F A[j] := by grind
   have hc : ¬ cmpQ (F A[j]) 1 < 0 := fun e => hlt1 (cmpQ_lt.1 e)
   simp [hc]
   refine back (j + 1) ⟨by omega, fun q hq => ?_⟩ (by omega) rfl (by simp <;> omega) (by simp) (by simp)
   rw [List.take_succ_eq_append_getElem hlj] at hq
   rcases List.mem_append.1 hq with hq | hq
   ·exact hj.2 q hq
   ·rw [List.mem_singleton.1 hq]; exact h0
 ·have hf : feasQ A x = true := by
   rw [feasQ, hall, Bool.true_and, List.all_eq_true]
   intro r hr
   have := hj.2 r (by rw [List.take_of_length_le (by omega)]; exact hr)
   rw [hF] at this
   exact decide_eq_true this
  simp [hlj, hf]
theorem w_impl_bit (b : Bool) : VC Tryz.prog 98 [.d (.bool b)] (fun _ r => r = .d (.int .i64 (if b then 1 else 0))) := by
 refine VC.ofL EP s98 (by kernel_rfl) Tryz.func98 (by rfl) (by kernel_rfl) (by simp [Tryz.f98]) (by simp [Tryz.f98]) s98_ok fun B hl => ?_
 cases b <;> simp [Tryz.f98, ]
end
end Go.Proofs.YtaoaoijchijlcaaGreatDoor
