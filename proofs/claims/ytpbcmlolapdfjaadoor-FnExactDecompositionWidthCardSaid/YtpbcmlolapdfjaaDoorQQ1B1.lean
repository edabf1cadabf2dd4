/-
  QQ1B1: a part of a proof of this seat: the value-level semantics of Go code without maps, its walk rules, the frame of a row, facts of types, schedules, walks, plain lemmas (Facts1 Sched1 H0 HP1 HP2 H1 HP3 P1 P1b Q1 Q2 Q3 D1 D2 D3 QA QC QB QD QE QF QG). It holds of every program and state that its hypotheses name.
-/
import Derived.Test.YtpbcmlolapdfjaaDoorQQ1A4
import Derived.Test.YtpbcmlolapdfjaaDoorProg
import Derived.KernelRfl
set_option linter.unusedSimpArgs false
set_option linter.unusedVariables false
set_option linter.unnecessarySimpa false
namespace Go.Proofs.YtpbcmlolapdfjaaDoor
open Go.Vs Go.Proofs

theorem gcs0 : gcs Tryd.prog 0 = [1, 1] := by kernel_rfl
theorem gis0 : ((gdat Tryd.prog).lookup 0).isSome = true := by kernel_rfl
theorem tsz3 : tsz Tryd.prog 3 = some 1 := by kernel_rfl
theorem tsz4 : tsz Tryd.prog 4 = some 1 := by kernel_rfl
theorem tsz9 : tsz Tryd.prog 9 = some 1 := by kernel_rfl
theorem tsz22 : tsz Tryd.prog 22 = some 1 := by kernel_rfl
theorem tsz23 : tsz Tryd.prog 23 = some 1 := by kernel_rfl
theorem tsz25 : tsz Tryd.prog 25 = some 3 := by kernel_rfl
theorem tsz28 : tsz Tryd.prog 28 = some 2 := by kernel_rfl
theorem tsz31 : tsz Tryd.prog 31 = some 1 := by kernel_rfl
theorem tsz33 : tsz Tryd.prog 33 = some 3 := by kernel_rfl
theorem tsz40 : tsz Tryd.prog 40 = some 1 := by kernel_rfl
theorem tsz42 : tsz Tryd.prog 42 = some 2 := by kernel_rfl
theorem tsz45 : tsz Tryd.prog 45 = some 2 := by kernel_rfl
theorem tsz53 : tsz Tryd.prog 53 = some 1 := by kernel_rfl
theorem tsz54 : tsz Tryd.prog 54 = some 1 := by kernel_rfl
theorem tsz56 : tsz Tryd.prog 56 = some 3 := by kernel_rfl
theorem tsz59 : tsz Tryd.prog 59 = some 2 := by kernel_rfl
theorem tsz71 : tsz Tryd.prog 71 = some 2 := by kernel_rfl
theorem tsz84 : tsz Tryd.prog 84 = some 1 := by kernel_rfl
theorem tsz104 : tsz Tryd.prog 104 = some 1 := by kernel_rfl
theorem tagg3 : tagg Tryd.prog 3 = some false := by kernel_rfl
theorem tagg4 : tagg Tryd.prog 4 = some false := by kernel_rfl
theorem tagg9 : tagg Tryd.prog 9 = some false := by kernel_rfl
theorem tagg22 : tagg Tryd.prog 22 = some false := by kernel_rfl
theorem tagg23 : tagg Tryd.prog 23 = some false := by kernel_rfl
theorem tagg25 : tagg Tryd.prog 25 = some true := by kernel_rfl
theorem tagg28 : tagg Tryd.prog 28 = some true := by kernel_rfl
theorem tagg31 : tagg Tryd.prog 31 = some false := by kernel_rfl
theorem tagg33 : tagg Tryd.prog 33 = some true := by kernel_rfl
theorem tagg40 : tagg Tryd.prog 40 = some false := by kernel_rfl
theorem tagg42 : tagg Tryd.prog 42 = some true := by kernel_rfl
theorem tagg45 : tagg Tryd.prog 45 = some true := by kernel_rfl
theorem tagg53 : tagg Tryd.prog 53 = some false := by kernel_rfl
theorem tagg54 : tagg Tryd.prog 54 = some false := by kernel_rfl
theorem tagg56 : tagg Tryd.prog 56 = some true := by kernel_rfl
theorem tagg59 : tagg Tryd.prog 59 = some true := by kernel_rfl
theorem tagg71 : tagg Tryd.prog 71 = some true := by kernel_rfl
theorem tagg84 : tagg Tryd.prog 84 = some true := by kernel_rfl
theorem tagg104 : tagg Tryd.prog 104 = some false := by kernel_rfl
theorem tzero3 : tzero Tryd.prog 3 = some [.int .i64 0] := by kernel_rfl
theorem tzero4 : tzero Tryd.prog 4 = some [.bool false] := by kernel_rfl
theorem tzero23 : tzero Tryd.prog 23 = some [.sl none none []] := by kernel_rfl
theorem tzero28 : tzero Tryd.prog 28 = some [.int .i64 0, .int .i64 0] := by kernel_rfl
theorem tzero33 : tzero Tryd.prog 33 = some [.int .i64 0, .sl none none [], .sl none none []] := by kernel_rfl
theorem tzero45 : tzero Tryd.prog 45 = some [.sl none none [], .sl none none []] := by kernel_rfl
theorem tzero53 : tzero Tryd.prog 53 = some [.sl none none []] := by kernel_rfl
theorem tzero54 : tzero Tryd.prog 54 = some [.sl none none []] := by kernel_rfl
theorem tzero56 : tzero Tryd.prog 56 = some [.sl none none [], .sl none none [], .sl none none []] := by kernel_rfl
theorem tzero59 : tzero Tryd.prog 59 = some [.str [], .sl none none []] := by kernel_rfl
theorem tzero84 : tzero Tryd.prog 84 = some [.sl none none []] := by kernel_rfl
theorem tzeroN104 : (tzero Tryd.prog 104).isSome = false := by kernel_rfl
theorem zfn104 : zfn Tryd.prog 104 = true := by kernel_rfl
theorem tslice22 : tslice Tryd.prog 22 = some (71, 2, 40) := by kernel_rfl
theorem telem22 : telem Tryd.prog 22 = some 71 := by kernel_rfl
theorem tslice23 : tslice Tryd.prog 23 = some (3, 1, 8) := by kernel_rfl
theorem telem23 : telem Tryd.prog 23 = some 3 := by kernel_rfl
theorem tslice31 : tslice Tryd.prog 31 = some (59, 2, 40) := by kernel_rfl
theorem telem31 : telem Tryd.prog 31 = some 59 := by kernel_rfl
theorem tslice40 : tslice Tryd.prog 40 = some (23, 1, 24) := by kernel_rfl
theorem telem40 : telem Tryd.prog 40 = some 23 := by kernel_rfl
theorem tslice53 : tslice Tryd.prog 53 = some (54, 1, 24) := by kernel_rfl
theorem telem53 : telem Tryd.prog 53 = some 54 := by kernel_rfl
theorem tslice54 : tslice Tryd.prog 54 = some (28, 2, 16) := by kernel_rfl
theorem telem54 : telem Tryd.prog 54 = some 28 := by kernel_rfl
theorem tslice79 : tslice Tryd.prog 79 = some (4, 1, 1) := by kernel_rfl
theorem telem79 : telem Tryd.prog 79 = some 4 := by kernel_rfl
theorem tstr9 : tstr Tryd.prog 9 = some true := by kernel_rfl
theorem tstr22 : tstr Tryd.prog 22 = some false := by kernel_rfl
theorem tstr23 : tstr Tryd.prog 23 = some false := by kernel_rfl
theorem tstr31 : tstr Tryd.prog 31 = some false := by kernel_rfl
theorem tstr40 : tstr Tryd.prog 40 = some false := by kernel_rfl
theorem tstr53 : tstr Tryd.prog 53 = some false := by kernel_rfl
theorem tstr54 : tstr Tryd.prog 54 = some false := by kernel_rfl
theorem tstr79 : tstr Tryd.prog 79 = some false := by kernel_rfl
theorem tfld28 : tfld Tryd.prog 28 = true := by kernel_rfl
theorem tfld33 : tfld Tryd.prog 33 = true := by kernel_rfl
theorem tfld45 : tfld Tryd.prog 45 = true := by kernel_rfl
theorem tfld56 : tfld Tryd.prog 56 = true := by kernel_rfl
theorem tfld59 : tfld Tryd.prog 59 = true := by kernel_rfl
theorem tfld84 : tfld Tryd.prog 84 = true := by kernel_rfl
theorem foff25_0 : foff Tryd.prog 25 0 = some (0, 1) := by kernel_rfl
theorem foff25_1 : foff Tryd.prog 25 1 = some (1, 1) := by kernel_rfl
theorem foff25_2 : foff Tryd.prog 25 2 = some (2, 1) := by kernel_rfl
theorem foff28_0 : foff Tryd.prog 28 0 = some (0, 1) := by kernel_rfl
theorem foff28_1 : foff Tryd.prog 28 1 = some (1, 1) := by kernel_rfl
theorem foff33_0 : foff Tryd.prog 33 0 = some (0, 1) := by kernel_rfl
theorem foff33_1 : foff Tryd.prog 33 1 = some (1, 1) := by kernel_rfl
theorem foff33_2 : foff Tryd.prog 33 2 = some (2, 1) := by kernel_rfl
theorem foff42_0 : foff Tryd.prog 42 0 = some (0, 1) := by kernel_rfl
theorem foff42_1 : foff Tryd.prog 42 1 = some (1, 1) := by kernel_rfl
theorem foff45_0 : foff Tryd.prog 45 0 = some (0, 1) := by kernel_rfl
theorem foff45_1 : foff Tryd.prog 45 1 = some (1, 1) := by kernel_rfl
theorem foff56_0 : foff Tryd.prog 56 0 = some (0, 1) := by kernel_rfl
theorem foff56_1 : foff Tryd.prog 56 1 = some (1, 1) := by kernel_rfl
theorem foff56_2 : foff Tryd.prog 56 2 = some (2, 1) := by kernel_rfl
theorem foff59_0 : foff Tryd.prog 59 0 = some (0, 1) := by kernel_rfl
theorem foff59_1 : foff Tryd.prog 59 1 = some (1, 1) := by kernel_rfl
theorem foff71_0 : foff Tryd.prog 71 0 = some (0, 1) := by kernel_rfl
theorem foff71_1 : foff Tryd.prog 71 1 = some (1, 1) := by kernel_rfl
theorem foff84_0 : foff Tryd.prog 84 0 = some (0, 1) := by kernel_rfl
theorem teqk28 : tEqK Tryd.prog 28 = some [.int, .int] := by kernel_rfl
attribute [simp] gcs0 gis0 tsz3 tsz4 tsz9 tsz22 tsz23 tsz25 tsz28 tsz31 tsz33 tsz40 tsz42 tsz45 tsz53 tsz54 tsz56 tsz59 tsz71 tsz84 tsz104 tagg3 tagg4 tagg9 tagg22 tagg23 tagg25 tagg28 tagg31 tagg33 tagg40 tagg42 tagg45 tagg53 tagg54 tagg56 tagg59 tagg71 tagg84 tagg104 tzero3 tzero4 tzero23 tzero28 tzero33 tzero45 tzero53 tzero54 tzero56 tzero59 tzero84 tzeroN104 zfn104 tslice22 telem22 tslice23 telem23 tslice31 telem31 tslice40 telem40 tslice53 telem53 tslice54 telem54 tslice79 telem79 tstr9 tstr22 tstr23 tstr31 tstr40 tstr53 tstr54 tstr79 tfld28 tfld33 tfld45 tfld56 tfld59 tfld84 foff25_0 foff25_1 foff25_2 foff28_0 foff28_1 foff33_0 foff33_1 foff33_2 foff42_0 foff42_1 foff45_0 foff45_1 foff56_0 foff56_1 foff56_2 foff59_0 foff59_1 foff71_0 foff71_1 foff84_0 teqk28
end Go.Proofs.YtpbcmlolapdfjaaDoor


namespace Go.Proofs.YtpbcmlolapdfjaaDoor
open Go.Vs Go.Proofs Go

/-- the functions that write what they are handed -/
def E : Md := ⟨fun f => [91, 95].contains f, false⟩
/-- as E; slices are known by elements only -/
def EP : Md := ⟨E.e, true⟩
@[simp] theorem E_p : E.p = false := Eq.trans rfl rfl
@[simp] theorem EP_p : EP.p = true := Eq.trans rfl rfl

theorem E91 : E 91 = true := rfl
theorem E95 : E 95 = true := rfl
/-- the orders of laws.FnExactBagCoverWidth -/
def s3 (i : Nat) : Tr := if i = 13 then .seq [0, 1, 2, 3, 4] .nil else .nil
theorem s3_13 : s3 13 = .seq [0, 1, 2, 3, 4] .nil := rfl
theorem s3_ok : okCode E 57 s3 (Tryd.f3.body.getD .skip) = true := by kernel_rfl
/-- the orders of laws.FnExactDecompositionWidth -/
def s4 (i : Nat) : Tr := if i = 8 then .seq [0, 2] (.both (.seq [1] (.both (.seq [3] (.both (.seq [4, 5, 6, 7, 8, 9, 10] .nil) (.seq [8, 4, 5, 6, 7, 9, 10] .nil))) (.seq [8, 3, 4, 5, 6, 7, 9, 10] .nil))) (.seq [8, 1, 3, 4, 5, 6, 7, 9, 10] .nil)) else if i = 14 then .seq [0, 1, 2, 3, 4] .nil else if i = 16 then .seq [0, 1, 2, 3, 4] .nil else .nil
theorem s4_8 : s4 8 = .seq [0, 2] (.both (.seq [1] (.both (.seq [3] (.both (.seq [4, 5, 6, 7, 8, 9, 10] .nil) (.seq [8, 4, 5, 6, 7, 9, 10] .nil))) (.seq [8, 3, 4, 5, 6, 7, 9, 10] .nil))) (.seq [8, 1, 3, 4, 5, 6, 7, 9, 10] .nil)) := rfl
theorem s4_14 : s4 14 = .seq [0, 1, 2, 3, 4] .nil := rfl
theorem s4_16 : s4 16 = .seq [0, 1, 2, 3, 4] .nil := rfl
theorem s4_ok : okCode E 59 s4 (Tryd.f4.body.getD .skip) = true := by kernel_rfl
/-- the orders of laws.szQuery -/
def s5 (_ : Nat) : Tr := .nil
theorem s5_ok : okCode E 18 s5 (Tryd.f5.body.getD .skip) = true := by kernel_rfl
/-- the orders of spec.BagCoverWidth -/
def s6 (i : Nat) : Tr := if i = 12 then .seq [0, 1, 2, 3, 4, 5, 6, 7, 8, 9] .nil else .nil
theorem s6_12 : s6 12 = .seq [0, 1, 2, 3, 4, 5, 6, 7, 8, 9] .nil := rfl
theorem s6_ok : okCode E 88 s6 (Tryd.f6.body.getD .skip) = true := by kernel_rfl
/-- the orders of laws.toQuery -/
def s7 (_ : Nat) : Tr := .nil
theorem s7_ok : okCode E 16 s7 (Tryd.f7.body.getD .skip) = true := by kernel_rfl
/-- the orders of laws.toIntS -/
def s8 (_ : Nat) : Tr := .nil
theorem s8_ok : okCode E 22 s8 (Tryd.f8.body.getD .skip) = true := by kernel_rfl
/-- the orders of impl.BagCoverWidth -/
def s9 (_ : Nat) : Tr := .nil
theorem s9_ok : okCode E 29 s9 (Tryd.f9.body.getD .skip) = true := by kernel_rfl
/-- the orders of laws.eqRational -/
def s10 (_ : Nat) : Tr := .nil
theorem s10_ok : okCode E 15 s10 (Tryd.f10.body.getD .skip) = true := by kernel_rfl
/-- the orders of laws.eqQuery -/
def s11 (_ : Nat) : Tr := .nil
theorem s11_ok : okCode E 22 s11 (Tryd.f11.body.getD .skip) = true := by kernel_rfl
/-- the orders of laws.eqIntS -/
def s12 (i : Nat) : Tr := if i = 6 then .seq [0, 1, 2, 3, 4, 5, 6, 7, 8] .nil else .nil
theorem s12_6 : s12 6 = .seq [0, 1, 2, 3, 4, 5, 6, 7, 8] .nil := rfl
theorem s12_ok : okCode E 26 s12 (Tryd.f12.body.getD .skip) = true := by kernel_rfl
/-- the orders of laws.szDecomposition -/
def s13 (_ : Nat) : Tr := .nil
theorem s13_ok : okCode E 18 s13 (Tryd.f13.body.getD .skip) = true := by kernel_rfl
/-- the orders of spec.DecompositionWidth -/
def s14 (i : Nat) : Tr := if i = 7 then .seq [0, 1, 2, 3, 4, 5] (.both (.seq [6, 7, 8, 9, 10, 11, 12] .nil) (.seq [10, 6, 7, 8, 9, 11, 12] .nil)) else .nil
theorem s14_7 : s14 7 = .seq [0, 1, 2, 3, 4, 5] (.both (.seq [6, 7, 8, 9, 10, 11, 12] .nil) (.seq [10, 6, 7, 8, 9, 11, 12] .nil)) := rfl
theorem s14_ok : okCode E 42 s14 (Tryd.f14.body.getD .skip) = true := by kernel_rfl
/-- the orders of laws.toDecomposition -/
def s15 (_ : Nat) : Tr := .nil
theorem s15_ok : okCode E 13 s15 (Tryd.f15.body.getD .skip) = true := by kernel_rfl
/-- the orders of impl.DecompositionWidth -/
def s16 (_ : Nat) : Tr := .nil
theorem s16_ok : okCode E 41 s16 (Tryd.f16.body.getD .skip) = true := by kernel_rfl
/-- the orders of laws.eqDecomposition -/
def s17 (_ : Nat) : Tr := .nil
theorem s17_ok : okCode E 17 s17 (Tryd.f17.body.getD .skip) = true := by kernel_rfl
/-- the orders of laws.szAtomS -/
def s18 (_ : Nat) : Tr := .nil
theorem s18_ok : okCode E 27 s18 (Tryd.f18.body.getD .skip) = true := by kernel_rfl
/-- the orders of laws.szIntS -/
def s19 (_ : Nat) : Tr := .nil
theorem s19_ok : okCode E 12 s19 (Tryd.f19.body.getD .skip) = true := by kernel_rfl
/-- the orders of spec.IsValidQuery -/
def s20 (i : Nat) : Tr := if i = 11 then .seq [0, 1, 2, 3, 4, 5, 6, 7, 8, 9, 10, 11, 12, 13] .nil else if i = 26 then .seq [0, 1, 2, 3, 4, 5, 6, 7, 8, 9, 10, 11, 12, 13, 14, 15, 16, 17, 18, 19, 20, 21, 22] .nil else .nil
theorem s20_11 : s20 11 = .seq [0, 1, 2, 3, 4, 5, 6, 7, 8, 9, 10, 11, 12, 13] .nil := rfl
theorem s20_26 : s20 26 = .seq [0, 1, 2, 3, 4, 5, 6, 7, 8, 9, 10, 11, 12, 13, 14, 15, 16, 17, 18, 19, 20, 21, 22] .nil := rfl
theorem s20_ok : okCode E 134 s20 (Tryd.f20.body.getD .skip) = true := by kernel_rfl
/-- the orders of spec.l30Bag -/
def s21 (i : Nat) : Tr := if i = 4 then .seq [0, 1, 2, 3, 4, 5, 6, 7, 8, 9, 10, 11, 12, 13, 14, 15, 16, 17, 18, 19, 20, 21, 22, 23, 24] .nil else .nil
theorem s21_4 : s21 4 = .seq [0, 1, 2, 3, 4, 5, 6, 7, 8, 9, 10, 11, 12, 13, 14, 15, 16, 17, 18, 19, 20, 21, 22, 23, 24] .nil := rfl
theorem s21_ok : okCode E 40 s21 (Tryd.f21.body.getD .skip) = true := by kernel_rfl
/-- the orders of spec.ContainsVariable -/
def s22 (_ : Nat) : Tr := .nil
theorem s22_ok : okCode E 20 s22 (Tryd.f22.body.getD .skip) = true := by kernel_rfl
/-- the orders of spec.Minimize -/
def s23 (i : Nat) : Tr := if i = 4 then .seq [0, 1, 2, 3, 4, 5] .nil else .nil
theorem s23_4 : s23 4 = .seq [0, 1, 2, 3, 4, 5] .nil := rfl
theorem s23_ok : okCode E 28 s23 (Tryd.f23.body.getD .skip) = true := by kernel_rfl
/-- the orders of laws.toAtomS -/
def s24 (_ : Nat) : Tr := .nil
theorem s24_ok : okCode E 23 s24 (Tryd.f24.body.getD .skip) = true := by kernel_rfl
/-- the orders of impl.IsValidQuery -/
def s25 (_ : Nat) : Tr := .nil
theorem s25_ok : okCode E 76 s25 (Tryd.f25.body.getD .skip) = true := by kernel_rfl
/-- the orders of impl.isBag -/
def s26 (_ : Nat) : Tr := .nil
theorem s26_ok : okCode E 18 s26 (Tryd.f26.body.getD .skip) = true := by kernel_rfl
/-- the orders of impl.Minimize -/
def s27 (_ : Nat) : Tr := .nil
theorem s27_ok : okCode E 28 s27 (Tryd.f27.body.getD .skip) = true := by kernel_rfl
/-- the orders of impl.coverOf -/
def s28 (_ : Nat) : Tr := .nil
theorem s28_ok : okCode E 59 s28 (Tryd.f28.body.getD .skip) = true := by kernel_rfl
/-- the orders of laws.eqAtomS -/
def s29 (i : Nat) : Tr := if i = 6 then .seq [0, 1, 2, 3, 4, 5, 6, 7, 8, 9] .nil else .nil
theorem s29_6 : s29 6 = .seq [0, 1, 2, 3, 4, 5, 6, 7, 8, 9] .nil := rfl
theorem s29_ok : okCode E 27 s29 (Tryd.f29.body.getD .skip) = true := by kernel_rfl
/-- the orders of laws.szIntSS -/
def s30 (_ : Nat) : Tr := .nil
theorem s30_ok : okCode E 27 s30 (Tryd.f30.body.getD .skip) = true := by kernel_rfl
/-- the orders of spec.IsValidDecomposition -/
def s31 (i : Nat) : Tr := if i = 8 then .seq [0, 1, 2, 3, 4, 5, 6, 7, 8, 9, 10, 11, 12, 13, 14, 15, 16, 17, 18, 19, 20, 21, 22, 23, 24, 25, 26] .nil else if i = 17 then .seq [0, 1, 2, 3, 4, 5, 6, 7, 8, 9, 10, 11, 12, 13, 14] .nil else if i = 27 then .seq [0, 1, 2, 3, 4, 5, 6, 7, 8, 9, 10, 11, 12, 13, 14, 15, 16, 17, 18, 19, 20, 21, 22, 23, 24, 25, 26, 27, 28, 29] .nil else .nil
theorem s31_8 : s31 8 = .seq [0, 1, 2, 3, 4, 5, 6, 7, 8, 9, 10, 11, 12, 13, 14, 15, 16, 17, 18, 19, 20, 21, 22, 23, 24, 25, 26] .nil := rfl
theorem s31_17 : s31 17 = .seq [0, 1, 2, 3, 4, 5, 6, 7, 8, 9, 10, 11, 12, 13, 14] .nil := rfl
theorem s31_27 : s31 27 = .seq [0, 1, 2, 3, 4, 5, 6, 7, 8, 9, 10, 11, 12, 13, 14, 15, 16, 17, 18, 19, 20, 21, 22, 23, 24, 25, 26, 27, 28, 29] .nil := rfl
theorem s31_ok : okCode E 148 s31 (Tryd.f31.body.getD .skip) = true := by kernel_rfl
/-- the orders of spec.CompareRationals -/
def s32 (_ : Nat) : Tr := .nil
theorem s32_ok : okCode E 31 s32 (Tryd.f32.body.getD .skip) = true := by kernel_rfl
/-- the orders of laws.toIntSS -/
def s33 (_ : Nat) : Tr := .nil
theorem s33_ok : okCode E 23 s33 (Tryd.f33.body.getD .skip) = true := by kernel_rfl
/-- the orders of impl.IsValidDecomposition -/
def s34 (i : Nat) : Tr := if i = 17 then .seq [0, 1, 2, 4, 7, 3, 5, 6, 8, 9, 10, 11, 12] .nil else .nil
theorem s34_17 : s34 17 = .seq [0, 1, 2, 4, 7, 3, 5, 6, 8, 9, 10, 11, 12] .nil := rfl
theorem s34_ok : okCode E 88 s34 (Tryd.f34.body.getD .skip) = true := by kernel_rfl
/-- the orders of impl.CompareRationals -/
def s35 (_ : Nat) : Tr := .nil
theorem s35_ok : okCode E 20 s35 (Tryd.f35.body.getD .skip) = true := by kernel_rfl
/-- the orders of laws.eqIntSS -/
def s36 (i : Nat) : Tr := if i = 6 then .seq [0, 1, 2, 3, 4, 5, 6, 7, 8, 9] .nil else .nil
theorem s36_6 : s36 6 = .seq [0, 1, 2, 3, 4, 5, 6, 7, 8, 9] .nil := rfl
theorem s36_ok : okCode E 27 s36 (Tryd.f36.body.getD .skip) = true := by kernel_rfl
/-- the orders of laws.szAtom -/
def s37 (_ : Nat) : Tr := .nil
theorem s37_ok : okCode E 19 s37 (Tryd.f37.body.getD .skip) = true := by kernel_rfl
/-- the orders of spec.l1In -/
def s38 (_ : Nat) : Tr := .nil
theorem s38_ok : okCode E 15 s38 (Tryd.f38.body.getD .skip) = true := by kernel_rfl
/-- the orders of spec.IsValidName -/
def s39 (_ : Nat) : Tr := .nil
theorem s39_ok : okCode E 23 s39 (Tryd.f39.body.getD .skip) = true := by kernel_rfl
/-- the orders of spec.l7Find -/
def s40 (_ : Nat) : Tr := .nil
theorem s40_ok : okCode E 19 s40 (Tryd.f40.body.getD .skip) = true := by kernel_rfl
/-- the orders of spec.IsValidLinearProgram -/
def s41 (_ : Nat) : Tr := .nil
theorem s41_ok : okCode E 38 s41 (Tryd.f41.body.getD .skip) = true := by kernel_rfl
/-- the orders of spec.l14Plus -/
def s42 (_ : Nat) : Tr := .nil
theorem s42_ok : okCode E 16 s42 (Tryd.f42.body.getD .skip) = true := by kernel_rfl
/-- the orders of spec.l14Best -/
def s43 (i : Nat) : Tr := if i = 8 then .seq [0, 1, 2, 3, 4, 5] (.both (.seq [6, 7, 8, 9, 10, 11, 12] .nil) (.seq [10, 6, 7, 8, 9, 11, 12] .nil)) else if i = 13 then .seq [0, 1, 2, 3, 4, 5] .nil else .nil
theorem s43_8 : s43 8 = .seq [0, 1, 2, 3, 4, 5] (.both (.seq [6, 7, 8, 9, 10, 11, 12] .nil) (.seq [10, 6, 7, 8, 9, 11, 12] .nil)) := rfl
theorem s43_13 : s43 13 = .seq [0, 1, 2, 3, 4, 5] .nil := rfl
theorem s43_ok : okCode E 56 s43 (Tryd.f43.body.getD .skip) = true := by kernel_rfl
/-- the orders of laws.toAtom -/
def s44 (_ : Nat) : Tr := .nil
theorem s44_ok : okCode E 12 s44 (Tryd.f44.body.getD .skip) = true := by kernel_rfl
/-- the orders of impl.within -/
def s45 (_ : Nat) : Tr := .nil
theorem s45_ok : okCode E 15 s45 (Tryd.f45.body.getD .skip) = true := by kernel_rfl
/-- the orders of impl.isSetOf -/
def s46 (_ : Nat) : Tr := .nil
theorem s46_ok : okCode E 27 s46 (Tryd.f46.body.getD .skip) = true := by kernel_rfl
/-- the orders of impl.IsValidName -/
def s47 (_ : Nat) : Tr := .nil
theorem s47_ok : okCode E 5 s47 (Tryd.f47.body.getD .skip) = true := by kernel_rfl
/-- the orders of impl.IsStrictlyAscending -/
def s48 (i : Nat) : Tr := if i = 4 then .seq [0, 1, 2, 3, 4, 5, 6, 7, 8, 9] .nil else .nil
theorem s48_4 : s48 4 = .seq [0, 1, 2, 3, 4, 5, 6, 7, 8, 9] .nil := rfl
theorem s48_ok : okCode E 20 s48 (Tryd.f48.body.getD .skip) = true := by kernel_rfl
/-- the orders of impl.IsValidLinearProgram -/
def s49 (_ : Nat) : Tr := .nil
theorem s49_ok : okCode E 57 s49 (Tryd.f49.body.getD .skip) = true := by kernel_rfl
/-- the orders of impl.best -/
def s50 (i : Nat) : Tr := if i = 9 then .seq [0, 1, 2, 3, 4] .nil else if i = 11 then .seq [0, 1, 2, 3, 4, 5] .nil else .nil
theorem s50_9 : s50 9 = .seq [0, 1, 2, 3, 4] .nil := rfl
theorem s50_11 : s50 11 = .seq [0, 1, 2, 3, 4, 5] .nil := rfl
theorem s50_ok : okCode E 48 s50 (Tryd.f50.body.getD .skip) = true := by kernel_rfl
/-- the orders of impl.bit -/
def s51 (_ : Nat) : Tr := .nil
theorem s51_ok : okCode E 4 s51 (Tryd.f51.body.getD .skip) = true := by kernel_rfl
/-- the orders of impl.ContainsVariable -/
def s52 (_ : Nat) : Tr := .nil
theorem s52_ok : okCode E 9 s52 (Tryd.f52.body.getD .skip) = true := by kernel_rfl
/-- the orders of laws.eqAtom -/
def s53 (_ : Nat) : Tr := .nil
theorem s53_ok : okCode E 16 s53 (Tryd.f53.body.getD .skip) = true := by kernel_rfl
/-- the orders of spec.JoinTreeRoot -/
def s54 (_ : Nat) : Tr := .nil
theorem s54_ok : okCode E 22 s54 (Tryd.f54.body.getD .skip) = true := by kernel_rfl
/-- the orders of spec.l10Path -/
def s55 (_ : Nat) : Tr := .nil
theorem s55_ok : okCode E 31 s55 (Tryd.f55.body.getD .skip) = true := by kernel_rfl
/-- the orders of spec.l30Within -/
def s56 (_ : Nat) : Tr := .nil
theorem s56_ok : okCode E 21 s56 (Tryd.f56.body.getD .skip) = true := by kernel_rfl
/-- the orders of spec.IsValidRational -/
def s57 (_ : Nat) : Tr := .nil
theorem s57_ok : okCode E 23 s57 (Tryd.f57.body.getD .skip) = true := by kernel_rfl
/-- the orders of impl.isTree -/
def s58 (_ : Nat) : Tr := .nil
theorem s58_ok : okCode E 51 s58 (Tryd.f58.body.getD .skip) = true := by kernel_rfl
/-- the orders of impl.common -/
def s59 (_ : Nat) : Tr := .nil
theorem s59_ok : okCode E 23 s59 (Tryd.f59.body.getD .skip) = true := by kernel_rfl
/-- the orders of impl.AtomVariables -/
def s60 (_ : Nat) : Tr := .nil
theorem s60_ok : okCode E 17 s60 (Tryd.f60.body.getD .skip) = true := by kernel_rfl
/-- the orders of impl.topsOf -/
def s61 (_ : Nat) : Tr := .nil
theorem s61_ok : okCode E 43 s61 (Tryd.f61.body.getD .skip) = true := by kernel_rfl
/-- the orders of impl.bothValid -/
def s62 (_ : Nat) : Tr := .nil
theorem s62_ok : okCode E 11 s62 (Tryd.f62.body.getD .skip) = true := by kernel_rfl
/-- the orders of impl.compareInts -/
def s63 (_ : Nat) : Tr := .nil
theorem s63_ok : okCode E 13 s63 (Tryd.f63.body.getD .skip) = true := by kernel_rfl
/-- the orders of spec.l13Square -/
def s64 (_ : Nat) : Tr := .nil
theorem s64_ok : okCode E 40 s64 (Tryd.f64.body.getD .skip) = true := by kernel_rfl
/-- the orders of spec.l14Points -/
def s65 (_ : Nat) : Tr := .nil
theorem s65_ok : okCode E 130 s65 (Tryd.f65.body.getD .skip) = true := by kernel_rfl
/-- the orders of spec.DotProduct -/
def s66 (i : Nat) : Tr := if i = 7 then .seq [0, 1, 2, 3, 4, 5, 6, 7] (.both (.seq [8, 9, 10, 11, 12, 13, 14] .nil) (.seq [12, 8, 9, 10, 11, 13, 14] .nil)) else .nil
theorem s66_7 : s66 7 = .seq [0, 1, 2, 3, 4, 5, 6, 7] (.both (.seq [8, 9, 10, 11, 12, 13, 14] .nil) (.seq [12, 8, 9, 10, 11, 13, 14] .nil)) := rfl
theorem s66_ok : okCode E 48 s66 (Tryd.f66.body.getD .skip) = true := by kernel_rfl
/-- the orders of impl.hasInt -/
def s67 (_ : Nat) : Tr := .nil
theorem s67_ok : okCode E 9 s67 (Tryd.f67.body.getD .skip) = true := by kernel_rfl
/-- the orders of impl.isLetters -/
def s68 (_ : Nat) : Tr := .nil
theorem s68_ok : okCode E 31 s68 (Tryd.f68.body.getD .skip) = true := by kernel_rfl
/-- the orders of impl.allValid -/
def s69 (_ : Nat) : Tr := .nil
theorem s69_ok : okCode E 15 s69 (Tryd.f69.body.getD .skip) = true := by kernel_rfl
/-- the orders of impl.vertices -/
def s70 (_ : Nat) : Tr := .nil
theorem s70_ok : okCode E 54 s70 (Tryd.f70.body.getD .skip) = true := by kernel_rfl
/-- the orders of impl.DotProduct -/
def s71 (i : Nat) : Tr := if i = 7 then .seq [0, 1, 2, 3, 4, 5, 6, 7] (.both (.seq [8, 9, 10, 11, 12, 13, 14] .nil) (.seq [12, 8, 9, 10, 11, 13, 14] .nil)) else .nil
theorem s71_7 : s71 7 = .seq [0, 1, 2, 3, 4, 5, 6, 7] (.both (.seq [8, 9, 10, 11, 12, 13, 14] .nil) (.seq [12, 8, 9, 10, 11, 13, 14] .nil)) := rfl
theorem s71_ok : okCode E 52 s71 (Tryd.f71.body.getD .skip) = true := by kernel_rfl
/-- the orders of spec.l2Gcd -/
def s72 (_ : Nat) : Tr := .nil
theorem s72_ok : okCode E 14 s72 (Tryd.f72.body.getD .skip) = true := by kernel_rfl
/-- the orders of impl.IsValidRational -/
def s73 (i : Nat) : Tr := if i = 1 then .seq [0, 1, 2, 3, 4, 5, 6, 7, 8, 9, 10, 12, 13, 11, 14, 15, 16, 17] .nil else .nil
theorem s73_1 : s73 1 = .seq [0, 1, 2, 3, 4, 5, 6, 7, 8, 9, 10, 12, 13, 11, 14, 15, 16, 17] .nil := rfl
theorem s73_ok : okCode E 20 s73 (Tryd.f73.body.getD .skip) = true := by kernel_rfl
/-- the orders of spec.l14Pick -/
def s74 (_ : Nat) : Tr := .nil
theorem s74_ok : okCode E 47 s74 (Tryd.f74.body.getD .skip) = true := by kernel_rfl
/-- the orders of spec.SolveLinearSystem -/
def s75 (i : Nat) : Tr := if i = 10 then .seq [0, 2, 3, 4, 5, 7, 8, 9, 10] (.both (.seq [1] (.both (.app 6 [50] (.seq [11, 12, 13, 14, 15] .nil)) (.seq [11] (.app 6 [50] (.seq [12, 13, 14, 15] .nil))))) (.seq [11, 1] (.app 6 [50] (.seq [12, 13, 14, 15] .nil)))) else if i = 28 then .seq [0, 1, 2, 3, 4, 5, 6, 7, 8, 9, 10, 11, 12, 13] (.both (.seq [14, 15, 16, 17, 18, 19, 20] .nil) (.seq [18, 14, 15, 16, 17, 19, 20] .nil)) else .nil
theorem s75_10 : s75 10 = .seq [0, 2, 3, 4, 5, 7, 8, 9, 10] (.both (.seq [1] (.both (.app 6 [50] (.seq [11, 12, 13, 14, 15] .nil)) (.seq [11] (.app 6 [50] (.seq [12, 13, 14, 15] .nil))))) (.seq [11, 1] (.app 6 [50] (.seq [12, 13, 14, 15] .nil)))) := rfl
theorem s75_28 : s75 28 = .seq [0, 1, 2, 3, 4, 5, 6, 7, 8, 9, 10, 11, 12, 13] (.both (.seq [14, 15, 16, 17, 18, 19, 20] .nil) (.seq [18, 14, 15, 16, 17, 19, 20] .nil)) := rfl
theorem s75_ok : okCode E 134 s75 (Tryd.f75.body.getD .skip) = true := by kernel_rfl
/-- the orders of spec.l14Side -/
def s76 (i : Nat) : Tr := if i = 12 then .seq [0, 1, 2, 3, 4, 5, 6, 7, 8, 10, 9, 11, 12] .nil else .nil
theorem s76_12 : s76 12 = .seq [0, 1, 2, 3, 4, 5, 6, 7, 8, 10, 9, 11, 12] .nil := rfl
theorem s76_ok : okCode E 69 s76 (Tryd.f76.body.getD .skip) = true := by kernel_rfl
/-- the orders of spec.EqualRationals -/
def s77 (i : Nat) : Tr := if i = 6 then .seq [0, 1, 2, 3, 4, 5, 6, 7, 8] .nil else .nil
theorem s77_6 : s77 6 = .seq [0, 1, 2, 3, 4, 5, 6, 7, 8] .nil := rfl
theorem s77_ok : okCode E 26 s77 (Tryd.f77.body.getD .skip) = true := by kernel_rfl
/-- the orders of spec.MulRational -/
def s78 (_ : Nat) : Tr := .nil
theorem s78_ok : okCode E 33 s78 (Tryd.f78.body.getD .skip) = true := by kernel_rfl
/-- the orders of spec.AddRational -/
def s79 (_ : Nat) : Tr := .nil
theorem s79_ok : okCode E 39 s79 (Tryd.f79.body.getD .skip) = true := by kernel_rfl
/-- the orders of impl.indexOf -/
def s80 (_ : Nat) : Tr := .nil
theorem s80_ok : okCode E 19 s80 (Tryd.f80.body.getD .skip) = true := by kernel_rfl
/-- the orders of impl.copyRationals -/
def s81 (_ : Nat) : Tr := .nil
theorem s81_ok : okCode E 6 s81 (Tryd.f81.body.getD .skip) = true := by kernel_rfl
/-- the orders of impl.vertices$1 -/
def s82 (i : Nat) : Tr := if i = 4 then .seq [0, 1, 2, 3, 5] (.both (.seq [4, 6] (.app 7 [4] (.seq [8] .nil))) (.seq [6, 4] (.app 7 [4] (.seq [8] .nil)))) else .nil
theorem s82_4 : s82 4 = .seq [0, 1, 2, 3, 5] (.both (.seq [4, 6] (.app 7 [4] (.seq [8] .nil))) (.seq [6, 4] (.app 7 [4] (.seq [8] .nil)))) := rfl
theorem s82_ok : okCode E 90 s82 (Tryd.f82.body.getD .skip) = true := by kernel_rfl
/-- the orders of impl.copyInts -/
def s83 (_ : Nat) : Tr := .nil
theorem s83_ok : okCode E 6 s83 (Tryd.f83.body.getD .skip) = true := by kernel_rfl
/-- the orders of impl.SolveLinearSystem -/
def s84 (i : Nat) : Tr := if i = 10 then .seq [0, 1, 3, 4, 5, 6] (.both (.seq [2, 7, 8, 9, 10, 11] .nil) (.seq [7, 2, 8, 9, 10, 11] .nil)) else if i = 20 then .seq [0, 1, 2, 3, 4, 5, 6, 7, 8, 9, 10, 11, 12, 13, 14, 15] .nil else if i = 24 then .seq [0, 1, 2, 3, 4, 5, 6, 7, 8, 9, 10, 11, 12, 13, 14, 15, 16, 17, 18, 19, 20, 21, 22, 23, 24, 25, 26] .nil else if i = 30 then .seq [0, 1, 2, 3, 4, 5, 6, 7, 8, 9, 10, 11, 12, 13] (.both (.seq [14, 15, 16, 17, 18, 19, 20] .nil) (.seq [18, 14, 15, 16, 17, 19, 20] .nil)) else .nil
theorem s84_10 : s84 10 = .seq [0, 1, 3, 4, 5, 6] (.both (.seq [2, 7, 8, 9, 10, 11] .nil) (.seq [7, 2, 8, 9, 10, 11] .nil)) := rfl
theorem s84_20 : s84 20 = .seq [0, 1, 2, 3, 4, 5, 6, 7, 8, 9, 10, 11, 12, 13, 14, 15] .nil := rfl
theorem s84_24 : s84 24 = .seq [0, 1, 2, 3, 4, 5, 6, 7, 8, 9, 10, 11, 12, 13, 14, 15, 16, 17, 18, 19, 20, 21, 22, 23, 24, 25, 26] .nil := rfl
theorem s84_30 : s84 30 = .seq [0, 1, 2, 3, 4, 5, 6, 7, 8, 9, 10, 11, 12, 13] (.both (.seq [14, 15, 16, 17, 18, 19, 20] .nil) (.seq [18, 14, 15, 16, 17, 19, 20] .nil)) := rfl
theorem s84_ok : okCode E 161 s84 (Tryd.f84.body.getD .skip) = true := by kernel_rfl
/-- the orders of impl.feasible -/
def s85 (i : Nat) : Tr := if i = 15 then .seq [0, 1, 2, 3, 4, 5, 6, 7, 8, 9] .nil else .nil
theorem s85_15 : s85 15 = .seq [0, 1, 2, 3, 4, 5, 6, 7, 8, 9] .nil := rfl
theorem s85_ok : okCode E 66 s85 (Tryd.f85.body.getD .skip) = true := by kernel_rfl
/-- the orders of impl.EqualRationals -/
def s86 (i : Nat) : Tr := if i = 6 then .seq [0, 1, 2, 3, 4, 5, 6, 7, 8] .nil else .nil
theorem s86_6 : s86 6 = .seq [0, 1, 2, 3, 4, 5, 6, 7, 8] .nil := rfl
theorem s86_ok : okCode E 26 s86 (Tryd.f86.body.getD .skip) = true := by kernel_rfl
/-- the orders of impl.MulRational -/
def s87 (_ : Nat) : Tr := .nil
theorem s87_ok : okCode E 24 s87 (Tryd.f87.body.getD .skip) = true := by kernel_rfl
/-- the orders of impl.AddRational -/
def s88 (_ : Nat) : Tr := .nil
theorem s88_ok : okCode E 30 s88 (Tryd.f88.body.getD .skip) = true := by kernel_rfl
/-- the orders of impl.gcd -/
def s89 (i : Nat) : Tr := if i = 2 then .seq [0, 1, 2, 3, 4, 5] .nil else .nil
theorem s89_2 : s89 2 = .seq [0, 1, 2, 3, 4, 5] .nil := rfl
theorem s89_ok : okCode E 12 s89 (Tryd.f89.body.getD .skip) = true := by kernel_rfl
/-- the orders of impl.abs -/
def s90 (_ : Nat) : Tr := .nil
theorem s90_ok : okCode E 7 s90 (Tryd.f90.body.getD .skip) = true := by kernel_rfl
/-- the orders of spec.l13Step -/
def s91 (i : Nat) : Tr := if i = 5 then .seq [0, 1, 2, 3, 4, 5, 6, 7, 8, 9, 10, 11, 12, 13] (.both (.seq [14, 15, 16, 17, 18, 19, 20] .nil) (.seq [18, 14, 15, 16, 17, 19, 20] .nil)) else if i = 9 then .seq [0, 1, 2, 3, 4, 5, 6, 7] (.both (.seq [8, 9, 10, 11, 12, 13, 14] .nil) (.seq [12, 8, 9, 10, 11, 13, 14] .nil)) else if i = 10 then .seq [0, 1, 2, 3, 4, 5, 6, 7] (.both (.seq [8, 9, 10, 11, 12, 13, 14] .nil) (.seq [12, 8, 9, 10, 11, 13, 14] .nil)) else if i = 12 then .seq [0, 1, 2, 3, 4, 5, 6, 7] .nil else .nil
theorem s91_5 : s91 5 = .seq [0, 1, 2, 3, 4, 5, 6, 7, 8, 9, 10, 11, 12, 13] (.both (.seq [14, 15, 16, 17, 18, 19, 20] .nil) (.seq [18, 14, 15, 16, 17, 19, 20] .nil)) := rfl
theorem s91_9 : s91 9 = .seq [0, 1, 2, 3, 4, 5, 6, 7] (.both (.seq [8, 9, 10, 11, 12, 13, 14] .nil) (.seq [12, 8, 9, 10, 11, 13, 14] .nil)) := rfl
theorem s91_10 : s91 10 = .seq [0, 1, 2, 3, 4, 5, 6, 7] (.both (.seq [8, 9, 10, 11, 12, 13, 14] .nil) (.seq [12, 8, 9, 10, 11, 13, 14] .nil)) := rfl
theorem s91_12 : s91 12 = .seq [0, 1, 2, 3, 4, 5, 6, 7] .nil := rfl
theorem s91_ok : okCode E 101 s91 (Tryd.f91.body.getD .skip) = true := by kernel_rfl
/-- the orders of spec.DivRational -/
def s92 (_ : Nat) : Tr := .nil
theorem s92_ok : okCode E 33 s92 (Tryd.f92.body.getD .skip) = true := by kernel_rfl
/-- the orders of spec.MatrixVectorProduct -/
def s93 (_ : Nat) : Tr := .nil
theorem s93_ok : okCode E 34 s93 (Tryd.f93.body.getD .skip) = true := by kernel_rfl
/-- the orders of spec.NewRational -/
def s94 (i : Nat) : Tr := if i = 8 then .seq [0, 1, 2, 3, 4, 5, 6, 7, 8] .nil else .nil
theorem s94_8 : s94 8 = .seq [0, 1, 2, 3, 4, 5, 6, 7, 8] .nil := rfl
theorem s94_ok : okCode E 52 s94 (Tryd.f94.body.getD .skip) = true := by kernel_rfl
/-- the orders of impl.eliminate -/
def s95 (i : Nat) : Tr := if i = 1 then .seq [0, 1, 2, 3, 4, 5, 6, 7] (.both (.seq [8, 9, 10, 11, 12, 13, 14] .nil) (.seq [12, 8, 9, 10, 11, 13, 14] .nil)) else if i = 7 then .seq [0, 1, 2, 3, 4] (.both (.seq [5, 6, 7, 8, 9, 10, 11] .nil) (.seq [9, 5, 6, 7, 8, 10, 11] .nil)) else if i = 8 then .seq [0, 1, 2, 3, 4] (.both (.seq [5, 6, 7, 8, 9, 10, 11] .nil) (.seq [9, 5, 6, 7, 8, 10, 11] .nil)) else .nil
theorem s95_1 : s95 1 = .seq [0, 1, 2, 3, 4, 5, 6, 7] (.both (.seq [8, 9, 10, 11, 12, 13, 14] .nil) (.seq [12, 8, 9, 10, 11, 13, 14] .nil)) := rfl
theorem s95_7 : s95 7 = .seq [0, 1, 2, 3, 4] (.both (.seq [5, 6, 7, 8, 9, 10, 11] .nil) (.seq [9, 5, 6, 7, 8, 10, 11] .nil)) := rfl
theorem s95_8 : s95 8 = .seq [0, 1, 2, 3, 4] (.both (.seq [5, 6, 7, 8, 9, 10, 11] .nil) (.seq [9, 5, 6, 7, 8, 10, 11] .nil)) := rfl
theorem s95_ok : okCode E 63 s95 (Tryd.f95.body.getD .skip) = true := by kernel_rfl
/-- the orders of impl.DivRational -/
def s96 (_ : Nat) : Tr := .nil
theorem s96_ok : okCode E 29 s96 (Tryd.f96.body.getD .skip) = true := by kernel_rfl
/-- the orders of impl.MatrixVectorProduct -/
def s97 (_ : Nat) : Tr := .nil
theorem s97_ok : okCode E 31 s97 (Tryd.f97.body.getD .skip) = true := by kernel_rfl
/-- the orders of impl.NewRational -/
def s98 (i : Nat) : Tr := if i = 6 then .seq [0, 1, 2, 3, 4, 5, 6, 7, 8] .nil else .nil
theorem s98_6 : s98 6 = .seq [0, 1, 2, 3, 4, 5, 6, 7, 8] .nil := rfl
theorem s98_ok : okCode E 43 s98 (Tryd.f98.body.getD .skip) = true := by kernel_rfl
/-- the orders of spec.SubRational -/
def s99 (_ : Nat) : Tr := .nil
theorem s99_ok : okCode E 25 s99 (Tryd.f99.body.getD .skip) = true := by kernel_rfl
/-- the orders of impl.SubRational -/
def s100 (_ : Nat) : Tr := .nil
theorem s100_ok : okCode E 15 s100 (Tryd.f100.body.getD .skip) = true := by kernel_rfl
end Go.Proofs.YtpbcmlolapdfjaaDoor


namespace Go.Proofs.YtpbcmlolapdfjaaDoor
open Go.Vs Go.Proofs Go
set_option maxRecDepth 100000
set_option maxHeartbeats 1000000


end Go.Proofs.YtpbcmlolapdfjaaDoor


namespace Go.Proofs.YtpbcmlolapdfjaaDoor
open Go.Vs Go.Proofs Go
set_option maxRecDepth 100000
set_option maxHeartbeats 1000000

theorem w_laws_szIntS (a : Sl (Int)) (left : Int) (h0 : 0 ≤ left) (h1 : left ≤ 1048576) (ha : okS okI a) :
   VC Tryd.prog 19 [.d (dSl cI a), .d (.int .i64 left)] (fun _ r => r = .d (.int .i64 (szv left (swS swI a)))) := by
  refine VC.of E s19 (by kernel_rfl) Tryd.func19 (by rfl) (by kernel_rfl) (by simp [Tryd.f19]) (by simp [Tryd.f19]) s19_ok fun B => ?_
  have ha1 := ha.1
  simp only [maxLen] at ha1
  have hw1 : IntKind.i64.wrap (left - (a.xs.length : Int)) = left - a.xs.length := wrap64_of (by omega) (by omega)
  have hwt : swS swI a = a.xs.length + sumW swI a.xs := rfl
  simp [Tryd.f19, dSl, hw1]
  have hz : sumW swI a.xs = 0 := by
    generalize a.xs = l
    induction l with
    | nil => rfl
    | cons b r ih => simp [swI, ih]
  refine ⟨fun h => ?_, fun h => ?_⟩
  · rw [szv_neg (by omega)]
  · rw [szv_pos (by omega)]; omega
theorem w_laws_eqIntS (a b : Sl (Int)) (ha : okS okI a) :
   VC Tryd.prog 12 [.d (dSl cI a), .d (dSl cI b)] (fun _ r => r = .d (.bool (plS plI a == plS plI b))) := by
  refine VC.of E s12 (by kernel_rfl) Tryd.func12 (by rfl) (by kernel_rfl) (by simp [Tryd.f12]) (by simp [Tryd.f12]) s12_ok fun B => ?_
  have ha1 := ha.1
  simp only [maxLen] at ha1
  simp [Tryd.f12, s12_6, dSl, plS]
  refine ⟨fun h e => h (by have := congrArg List.length e; simp at this; omega), fun hl => ?_⟩
  have hl' : a.xs.length = b.xs.length := by omega
  refine loop_rule (X := Nat) (fun i => i ≤ a.xs.length ∧ (a.xs.map plI).take i = (b.xs.map plI).take i) (fun i => [(0, .d (.sl a.id a.T (a.xs.map cI))), (1, .d (.sl b.id b.T (b.xs.map cI))), (5, .d (.int .i64 i))]) (fun _ => []) (fun i => a.xs.length - i) 0 (by simp) (by simp) (by simp) ?_
  intro i hs t m hi hh
  by_cases hlt : i < a.xs.length
  · have hwi := wr1 (i := i) (by omega)
    have hlb : i < b.xs.length := by omega
    have hst := eqm_step plI hlt hlb hi.2
    simp [cI, hlt, hlb, hwi, s12_6, ]
    simp only [plI] at hst
    refine ⟨fun hne he => hne (hst.2 (by rw [he])), fun heq => ?_⟩
    exact back (i + 1) ⟨by omega, hst.1 heq⟩ (by omega) rfl (by simp) (by simp) (by simp)
  · have := eq_all (a := a.xs.map plI) (b := b.xs.map plI) (by simpa using Nat.le_of_not_lt hlt) (by simpa using hl') hi.2
    have hlb : ¬ i < b.xs.length := by omega
    simp [hlt, hlb, this]
theorem w_laws_szIntSS (a : Sl (Sl (Int))) (left : Int) (h0 : 0 ≤ left) (h1 : left ≤ 1048576) (ha : okS (okS okI) a) :
   VC Tryd.prog 30 [.d (dSl (cS cI) a), .d (.int .i64 left)] (fun _ r => r = .d (.int .i64 (szv left (swS (swS swI) a)))) := by
  refine VC.of E s30 (by kernel_rfl) Tryd.func30 (by rfl) (by kernel_rfl) (by simp [Tryd.f30]) (by simp [Tryd.f30]) s30_ok fun B => ?_
  have ha1 := ha.1
  simp only [maxLen] at ha1
  have hw1 : IntKind.i64.wrap (left - (a.xs.length : Int)) = left - a.xs.length := wrap64_of (by omega) (by omega)
  have hwt : swS (swS swI) a = a.xs.length + sumW (swS swI) a.xs := rfl
  simp [Tryd.f30, dSl, hw1]
  refine ⟨fun h => ?_, fun h => ?_⟩
  · rw [szv_neg (by omega)]
  · refine loop_rule (X := Nat) (fun i => i ≤ a.xs.length ∧ 0 ≤ left - a.xs.length - sumW (swS swI) (a.xs.take i)) (fun i => [(0, .d (.sl a.id a.T (a.xs.map (cS cI)))), (1, .d (.int .i64 (left - a.xs.length - sumW (swS swI) (a.xs.take i)))), (5, .d (.int .i64 i))]) (fun _ => []) (fun i => a.xs.length - i) 0 ?_ ?_ (by simp) ?_
    · simp; omega
    · simp
    · intro i hs t m hi hh
      by_cases hlt : i < a.xs.length
      · simp [cS, hlt]
        refine call_pure (w_laws_szIntS a.xs[i] _ (by omega) (by omega) (ha.2 _ (List.getElem_mem _))) rfl (by simp) rfl fun hs' hh' => ?_
        have e1 := sumW_succ (swS swI) hlt
        have e2 := sumW_le (swS swI) a.xs (i + 1)
        have hwi := wr1 (i := i) (by omega)
        by_cases hc : (swS swI a.xs[i] : Int) ≤ left - a.xs.length - sumW (swS swI) (a.xs.take i)
        · rw [szv_pos hc]
          have hn : ¬ left - a.xs.length - sumW (swS swI) (a.xs.take i) - swS swI a.xs[i] < 0 := by omega
          simp [hwi, hn]
          refine back (i + 1) ⟨by omega, by omega⟩ (by omega) rfl (by simp at hh' ⊢; omega) ?_ (by simp)
          simp
          omega
        · rw [szv_neg (by omega)]
          simp
          rw [szv_neg (by omega)]
          all_goals exact fun h => absurd h (by decide)
      · have : i = a.xs.length := by omega
        subst this
        simp
        rw [szv_pos] <;> (simp at hi ⊢; omega)
theorem w_laws_eqIntSS (a b : Sl (Sl (Int))) (ha : okS (okS okI) a) :
   VC Tryd.prog 36 [.d (dSl (cS cI) a), .d (dSl (cS cI) b)] (fun _ r => r = .d (.bool (plS (plS plI) a == plS (plS plI) b))) := by
  refine VC.of E s36 (by kernel_rfl) Tryd.func36 (by rfl) (by kernel_rfl) (by simp [Tryd.f36]) (by simp [Tryd.f36]) s36_ok fun B => ?_
  have ha1 := ha.1
  simp only [maxLen] at ha1
  simp [Tryd.f36, s36_6, dSl, plS]
  refine ⟨fun h e => h (by have := congrArg List.length e; simp at this; omega), fun hl => ?_⟩
  have hl' : a.xs.length = b.xs.length := by omega
  refine loop_rule (X := Nat) (fun i => i ≤ a.xs.length ∧ (a.xs.map (plS plI)).take i = (b.xs.map (plS plI)).take i) (fun i => [(0, .d (.sl a.id a.T (a.xs.map (cS cI)))), (1, .d (.sl b.id b.T (b.xs.map (cS cI)))), (5, .d (.int .i64 i))]) (fun _ => []) (fun i => a.xs.length - i) 0 (by simp) (by simp) (by simp) ?_
  intro i hs t m hi hh
  by_cases hlt : i < a.xs.length
  · have hwi := wr1 (i := i) (by omega)
    have hlb : i < b.xs.length := by omega
    have hst := eqm_step (plS plI) hlt hlb hi.2
    simp [cS, hlt, hlb, s36_6, ]
    refine call_pure (w_laws_eqIntS a.xs[i] b.xs[i] (ha.2 _ (List.getElem_mem _))) rfl (by simp) rfl fun hs' hh' => ?_
    simp at hh'
    simp [hwi]
    refine ⟨fun hne he => hne (hst.2 (by rw [he])), fun heq => ?_⟩
    exact back (i + 1) ⟨by omega, hst.1 heq⟩ (by omega) rfl (by simp; omega) (by simp) (by simp)
  · have := eq_all (a := a.xs.map (plS plI)) (b := b.xs.map (plS plI)) (by simpa using Nat.le_of_not_lt hlt) (by simpa using hl') hi.2
    have hlb : ¬ i < b.xs.length := by omega
    simp [hlt, hlb, this]
theorem w_laws_szAtom (a : Atom) (left : Int) (h0 : 0 ≤ left) (h1 : left ≤ 1048576) (ha : okAtom a) :
   VC Tryd.prog 37 [.agg ((cAtom a).map V.d), .d (.int .i64 left)] (fun _ r => r = .d (.int .i64 (szv left (swAtom a)))) := by
  refine VC.of E s37 (by kernel_rfl) Tryd.func37 (by rfl) (by kernel_rfl) (by simp [Tryd.f37]) (by simp [Tryd.f37]) s37_ok fun B => ?_
  have hwt : swAtom a = swStr a.rel + swS swI a.vars := rfl
  have hc0 : (0 : Int) ≤ left := h0
  have hs0 : a.rel.length ≤ 9223372036854775807 := ha.1
  have hw0 : IntKind.i64.wrap (left - (a.rel.length : Int)) = left - a.rel.length := wrap64_of (by omega) (by omega)
  have hq0 : swStr a.rel = a.rel.length := rfl
  simp [Tryd.f37, cAtom, cS, cStr, dSl, hw0]
  refine ⟨fun hneg => ?_, fun hpos => ?_⟩
  · rw [szv_neg (by omega)]
  · skip
    refine call_pure (w_laws_szIntS a.vars _ (by omega) (by omega) ha.2) rfl (by simp) rfl fun hs' hh' => ?_
    by_cases hb1 : (swS swI a.vars : Int) ≤ left - a.rel.length
    · rw [szv_pos hb1]
      have hn1 : ¬ left - a.rel.length - swS swI a.vars < 0 := by omega
      simp [hn1]
      rw [szv_pos (by omega)]; omega
    · rw [szv_neg (by omega)]
      simp
      try rw [szv_neg (by omega)]
      all_goals exact fun h => absurd h (by decide)
theorem w_laws_eqAtom (a b : Atom) (ha : okAtom a) :
   VC Tryd.prog 53 [.agg ((cAtom a).map V.d), .agg ((cAtom b).map V.d)] (fun _ r => r = .d (.bool (plAtom a == plAtom b))) := by
  refine VC.of E s53 (by kernel_rfl) Tryd.func53 (by rfl) (by kernel_rfl) (by simp [Tryd.f53]) (by simp [Tryd.f53]) s53_ok fun B => ?_
  simp [Tryd.f53, cAtom, cS, cStr, dSl, plAtom, plI, plStr]
  by_cases e0 : a.rel = b.rel
  case neg => simp [e0]
  simp [e0]
  refine call_pure (w_laws_eqIntS a.vars b.vars ha.2) rfl (by simp) rfl fun hs1 hh1 => ?_
  by_cases e1 : plS plI a.vars = plS plI b.vars
  case neg => simp [e1]
  simp [e1]
theorem w_laws_szAtomS (a : Sl (Atom)) (left : Int) (h0 : 0 ≤ left) (h1 : left ≤ 1048576) (ha : okS okAtom a) :
   VC Tryd.prog 18 [.d (dSl cAtom a), .d (.int .i64 left)] (fun _ r => r = .d (.int .i64 (szv left (swS swAtom a)))) := by
  refine VC.of E s18 (by kernel_rfl) Tryd.func18 (by rfl) (by kernel_rfl) (by simp [Tryd.f18]) (by simp [Tryd.f18]) s18_ok fun B => ?_
  have ha1 := ha.1
  simp only [maxLen] at ha1
  have hw1 : IntKind.i64.wrap (left - (a.xs.length : Int)) = left - a.xs.length := wrap64_of (by omega) (by omega)
  have hwt : swS swAtom a = a.xs.length + sumW swAtom a.xs := rfl
  simp [Tryd.f18, dSl, hw1]
  refine ⟨fun h => ?_, fun h => ?_⟩
  · rw [szv_neg (by omega)]
  · refine loop_rule (X := Nat) (fun i => i ≤ a.xs.length ∧ 0 ≤ left - a.xs.length - sumW swAtom (a.xs.take i)) (fun i => [(0, .d (.sl a.id a.T (a.xs.map cAtom))), (1, .d (.int .i64 (left - a.xs.length - sumW swAtom (a.xs.take i)))), (5, .d (.int .i64 i))]) (fun _ => []) (fun i => a.xs.length - i) 0 ?_ ?_ (by simp) ?_
    · simp; omega
    · simp
    · intro i hs t m hi hh
      by_cases hlt : i < a.xs.length
      · simp [cAtom, cS, cStr, hlt]
        refine call_pure (w_laws_szAtom a.xs[i] _ (by omega) (by omega) (ha.2 _ (List.getElem_mem _))) rfl (by simp) rfl fun hs' hh' => ?_
        have e1 := sumW_succ swAtom hlt
        have e2 := sumW_le swAtom a.xs (i + 1)
        have hwi := wr1 (i := i) (by omega)
        by_cases hc : (swAtom a.xs[i] : Int) ≤ left - a.xs.length - sumW swAtom (a.xs.take i)
        · rw [szv_pos hc]
          have hn : ¬ left - a.xs.length - sumW swAtom (a.xs.take i) - swAtom a.xs[i] < 0 := by omega
          simp [hwi, hn]
          refine back (i + 1) ⟨by omega, by omega⟩ (by omega) rfl (by simp at hh' ⊢; omega) ?_ (by simp)
          simp
          omega
        · rw [szv_neg (by omega)]
          simp
          rw [szv_neg (by omega)]
          all_goals exact fun h => absurd h (by decide)
      · have : i = a.xs.length := by omega
        subst this
        simp
        rw [szv_pos] <;> (simp at hi ⊢; omega)
theorem w_laws_eqAtomS (a b : Sl (Atom)) (ha : okS okAtom a) :
   VC Tryd.prog 29 [.d (dSl cAtom a), .d (dSl cAtom b)] (fun _ r => r = .d (.bool (plS plAtom a == plS plAtom b))) := by
  refine VC.of E s29 (by kernel_rfl) Tryd.func29 (by rfl) (by kernel_rfl) (by simp [Tryd.f29]) (by simp [Tryd.f29]) s29_ok fun B => ?_
  have ha1 := ha.1
  simp only [maxLen] at ha1
  simp [Tryd.f29, s29_6, dSl, plS]
  refine ⟨fun h e => h (by have := congrArg List.length e; simp at this; omega), fun hl => ?_⟩
  have hl' : a.xs.length = b.xs.length := by omega
  refine loop_rule (X := Nat) (fun i => i ≤ a.xs.length ∧ (a.xs.map plAtom).take i = (b.xs.map plAtom).take i) (fun i => [(0, .d (.sl a.id a.T (a.xs.map cAtom))), (1, .d (.sl b.id b.T (b.xs.map cAtom))), (5, .d (.int .i64 i))]) (fun _ => []) (fun i => a.xs.length - i) 0 (by simp) (by simp) (by simp) ?_
  intro i hs t m hi hh
  by_cases hlt : i < a.xs.length
  · have hwi := wr1 (i := i) (by omega)
    have hlb : i < b.xs.length := by omega
    have hst := eqm_step plAtom hlt hlb hi.2
    simp [cAtom, cS, cStr, hlt, hlb, s29_6, ]
    refine call_pure (w_laws_eqAtom a.xs[i] b.xs[i] (ha.2 _ (List.getElem_mem _))) rfl (by simp) rfl fun hs' hh' => ?_
    simp at hh'
    simp [hwi]
    refine ⟨fun hne he => hne (hst.2 (by rw [he])), fun heq => ?_⟩
    exact back (i + 1) ⟨by omega, hst.1 heq⟩ (by omega) rfl (by simp; omega) (by simp) (by simp)
  · have := eq_all (a := a.xs.map plAtom) (b := b.xs.map plAtom) (by simpa using Nat.le_of_not_lt hlt) (by simpa using hl') hi.2
    have hlb : ¬ i < b.xs.length := by omega
    simp [hlt, hlb, this]
theorem w_laws_szQuery (a : Query) (left : Int) (h0 : 0 ≤ left) (h1 : left ≤ 1048576) (ha : okQuery a) :
   VC Tryd.prog 5 [.agg ((cQuery a).map V.d), .d (.int .i64 left)] (fun _ r => r = .d (.int .i64 (szv left (swQuery a)))) := by
  refine VC.of E s5 (by kernel_rfl) Tryd.func5 (by rfl) (by kernel_rfl) (by simp [Tryd.f5]) (by simp [Tryd.f5]) s5_ok fun B => ?_
  have hwt : swQuery a = swS swAtom a.atoms + swS swI a.out := rfl
  have hc0 : (0 : Int) ≤ left := h0
  simp [Tryd.f5, cI, cQuery, cS, dSl]
  refine call_pure (w_laws_szAtomS a.atoms _ (by omega) (by omega) ha.2.1) rfl (by simp) rfl fun hs' hh' => ?_
  by_cases hb0 : (swS swAtom a.atoms : Int) ≤ left
  · rw [szv_pos hb0]
    have hn0 : ¬ left - swS swAtom a.atoms < 0 := by omega
    simp [hn0]
    refine call_pure (w_laws_szIntS a.out _ (by omega) (by omega) ha.2.2) rfl (by simp) rfl fun hs' hh' => ?_
    by_cases hb1 : (swS swI a.out : Int) ≤ left - swS swAtom a.atoms
    · rw [szv_pos hb1]
      have hn1 : ¬ left - swS swAtom a.atoms - swS swI a.out < 0 := by omega
      simp [hn1]
      rw [szv_pos (by omega)]; omega
    · rw [szv_neg (by omega)]
      simp
      try rw [szv_neg (by omega)]
      all_goals exact fun h => absurd h (by decide)
  · rw [szv_neg (by omega)]
    simp
    try rw [szv_neg (by omega)]
    all_goals exact fun h => absurd h (by decide)
theorem w_laws_eqQuery (a b : Query) (ha : okQuery a) :
   VC Tryd.prog 11 [.agg ((cQuery a).map V.d), .agg ((cQuery b).map V.d)] (fun _ r => r = .d (.bool (plQuery a == plQuery b))) := by
  refine VC.of E s11 (by kernel_rfl) Tryd.func11 (by rfl) (by kernel_rfl) (by simp [Tryd.f11]) (by simp [Tryd.f11]) s11_ok fun B => ?_
  simp [Tryd.f11, cI, cQuery, cS, dSl, plQuery, plI, plStr]
  by_cases e0 : a.n = b.n
  case neg => simp [e0]
  simp [e0]
  refine call_pure (w_laws_eqAtomS a.atoms b.atoms ha.2.1) rfl (by simp) rfl fun hs1 hh1 => ?_
  by_cases e1 : plS plAtom a.atoms = plS plAtom b.atoms
  case neg => simp [e1]
  simp [e1]
  refine call_pure (w_laws_eqIntS a.out b.out ha.2.2) rfl (by simp) rfl fun hs2 hh2 => ?_
  by_cases e2 : plS plI a.out = plS plI b.out
  case neg => simp [e2]
  simp [e2]
theorem w_laws_szDecomposition (a : Dec) (left : Int) (h0 : 0 ≤ left) (h1 : left ≤ 1048576) (ha : okDec a) :
   VC Tryd.prog 13 [.agg ((cDec a).map V.d), .d (.int .i64 left)] (fun _ r => r = .d (.int .i64 (szv left (swDec a)))) := by
  refine VC.of E s13 (by kernel_rfl) Tryd.func13 (by rfl) (by kernel_rfl) (by simp [Tryd.f13]) (by simp [Tryd.f13]) s13_ok fun B => ?_
  have hwt : swDec a = swS (swS swI) a.bags + swS swI a.par := rfl
  have hc0 : (0 : Int) ≤ left := h0
  simp [Tryd.f13, cDec, cS, dSl]
  refine call_pure (w_laws_szIntSS a.bags _ (by omega) (by omega) ha.1) rfl (by simp) rfl fun hs' hh' => ?_
  by_cases hb0 : (swS (swS swI) a.bags : Int) ≤ left
  · rw [szv_pos hb0]
    have hn0 : ¬ left - swS (swS swI) a.bags < 0 := by omega
    simp [hn0]
    refine call_pure (w_laws_szIntS a.par _ (by omega) (by omega) ha.2) rfl (by simp) rfl fun hs' hh' => ?_
    by_cases hb1 : (swS swI a.par : Int) ≤ left - swS (swS swI) a.bags
    · rw [szv_pos hb1]
      have hn1 : ¬ left - swS (swS swI) a.bags - swS swI a.par < 0 := by omega
      simp [hn1]
      rw [szv_pos (by omega)]; omega
    · rw [szv_neg (by omega)]
      simp
      try rw [szv_neg (by omega)]
      all_goals exact fun h => absurd h (by decide)
  · rw [szv_neg (by omega)]
    simp
    try rw [szv_neg (by omega)]
    all_goals exact fun h => absurd h (by decide)
theorem w_laws_eqDecomposition (a b : Dec) (ha : okDec a) :
   VC Tryd.prog 17 [.agg ((cDec a).map V.d), .agg ((cDec b).map V.d)] (fun _ r => r = .d (.bool (plDec a == plDec b))) := by
  refine VC.of E s17 (by kernel_rfl) Tryd.func17 (by rfl) (by kernel_rfl) (by simp [Tryd.f17]) (by simp [Tryd.f17]) s17_ok fun B => ?_
  simp [Tryd.f17, cDec, cS, dSl, plDec, plI, plStr]
  refine call_pure (w_laws_eqIntSS a.bags b.bags ha.1) rfl (by simp) rfl fun hs0 hh0 => ?_
  by_cases e0 : plS (plS plI) a.bags = plS (plS plI) b.bags
  case neg => simp [e0]
  simp [e0]
  refine call_pure (w_laws_eqIntS a.par b.par ha.2) rfl (by simp) rfl fun hs1 hh1 => ?_
  by_cases e1 : plS plI a.par = plS plI b.par
  case neg => simp [e1]
  simp [e1]
theorem w_laws_eqRational (a b : Go.Vs.Rat) (ha : okRat a) :
   VC Tryd.prog 10 [.agg ((cRat a).map V.d), .agg ((cRat b).map V.d)] (fun _ r => r = .d (.bool (plRat a == plRat b))) := by
  refine VC.of E s10 (by kernel_rfl) Tryd.func10 (by rfl) (by kernel_rfl) (by simp [Tryd.f10]) (by simp [Tryd.f10]) s10_ok fun B => ?_
  simp [Tryd.f10, cI, cRat, dSl, plRat, plI, plStr]
  by_cases e0 : a.num = b.num <;> by_cases e1 : a.den = b.den <;> simp [e0, e1]

end Go.Proofs.YtpbcmlolapdfjaaDoor


namespace Go.Proofs.YtpbcmlolapdfjaaDoor
open Go.Vs Go.Proofs Go
set_option maxRecDepth 100000
set_option maxHeartbeats 1000000

theorem w_laws_toIntS (a : Sl (Int)) (ha : okS okI a) (hb : a.xs.length ≤ 1048576) :
   VC Tryd.prog 8 [.d (dSl cI a)] (fun n r => ∃ y : Sl (Int), r = .d (dSl cI y) ∧ plS plI y = plS plI a ∧ okS okI y ∧ Good (cS cI y) (whS whI y) n) := by
  refine VC.of E s8 (by kernel_rfl) Tryd.func8 (by rfl) (by kernel_rfl) (by simp [Tryd.f8]) (by simp [Tryd.f8]) s8_ok fun B => ?_
  simp [Tryd.f8, dSl]
  refine ⟨⟨by omega, by simp only [maxLen]; omega⟩, ?_⟩
  refine loop_rule (X := Nat) (fun i => i ≤ a.xs.length) (fun i => [(0, .d (.sl a.id a.T (a.xs.map cI))), (3, .own 7 0 a.xs.length), (4, .d (.int .i64 i))]) (fun i => [(7, some (.row 3 1 (fill [.int .i64 0] (a.xs.map cI) i)))]) (fun i => a.xs.length - i) 0 (by simp) (by simp) (by simp) ?_
  intro i hs t m hi hh
  by_cases hlt : i < a.xs.length
  · have hwi := wr1 (i := i) (by omega)
    simp [cI, hlt, hwi]
    refine back (i + 1) (by omega) (by omega) rfl (by simp) (by simp) ?_
    have := fill_set (z := [.int .i64 0]) (l := a.xs.map cI) (i := i) (by simpa using hlt) (by simp [hlt]; rfl)
    simp only [cI] at this ⊢
    simp [this]
  · have hn : i = a.xs.length := by omega
    subst hn
    have hf : fill [.int .i64 0] (a.xs.map cI) a.xs.length = a.xs.map cI := fill_all (by simp)
    simp [hf]
    intro γ hs' h1 hg
    obtain ⟨q1, q2⟩ := gam_at hg (k := 7) (T := 3) (sz := 1) (es := a.xs.map cI) (by simp)
    have q3 := gam_row hg (k := 7) (T := 3) (sz := 1) (es := a.xs.map cI) (by simp)
    clear hg
    refine ⟨⟨γ 7, some (3, 1), a.xs⟩, ⟨⟨rfl, rfl, List.take_of_length_le (by simp)⟩, rfl, ha, good_row (fun g hg => (q1 g hg).1) (by simpa using q2) q3 ⟨by simp, by simp⟩ (by simp [whI, whStr])⟩⟩
theorem w_laws_toIntSS (a : Sl (Sl (Int))) (ha : okS (okS okI) a) (hb : swS (swS swI) a ≤ 1048576) :
   VC Tryd.prog 33 [.d (dSl (cS cI) a)] (fun n r => ∃ y : Sl (Sl (Int)), r = .d (dSl (cS cI) y) ∧ plS (plS plI) y = plS (plS plI) a ∧ okS (okS okI) y ∧ Good (cS (cS cI) y) (whS (whS whI) y) n) := by
  refine VC.of E s33 (by kernel_rfl) Tryd.func33 (by rfl) (by kernel_rfl) (by simp [Tryd.f33]) (by simp [Tryd.f33]) s33_ok fun B => ?_
  have hwt : swS (swS swI) a = a.xs.length + sumW (swS swI) a.xs := rfl
  simp [Tryd.f33, dSl]
  refine ⟨⟨by omega, by simp only [maxLen]; omega⟩, ?_⟩
  refine loop_rule2 (X := Nat × List (Sl (Int))) (fun p h => p.1 ≤ a.xs.length ∧ p.2.length = p.1 ∧ p.2.map (plS plI) = (a.xs.map (plS plI)).take p.1 ∧ (∀ y ∈ p.2, okS okI y) ∧ GoodL (cS cI) (whS whI) B h p.2) (fun p => [(0, .d (.sl a.id a.T (a.xs.map (cS cI)))), (3, .own 7 0 a.xs.length), (4, .d (.int .i64 p.1))]) (fun p => [(7, some (.row 23 1 (p.2.map (cS cI) ++ List.replicate (a.xs.length - p.1) [.sl none none []])))]) (fun p => a.xs.length - p.1) (0, []) ⟨by simp, rfl, by simp, by simp, GoodL.nil⟩ (by simp) (by simp) ?_
  rintro ⟨i, ys⟩ hs t m ⟨hi, hyl, hpl, hok, hgd⟩ hh
  simp only at hi hyl hpl hok hgd
  by_cases hlt : i < a.xs.length
  · have hwi := wr1 (i := i) (by omega)
    have hmem : a.xs[i] ∈ a.xs := List.getElem_mem _
    have hsw := sumW_mem (swS swI) hmem
    simp [cS, hlt]
    refine call_some (w_laws_toIntS a.xs[i] (ha.2 _ hmem) (by simp only [swS] at hsw; omega)) rfl (by simp) fun n hs' r hn hn' hp hr => ?_
    obtain ⟨y, rfl, hy1, hy2, hy3⟩ := hp
    simp at hn
    have hr' : ∀ g ∈ idsL (cS cI y), g < hs' := fun g hg => hr g (by first | (simp [cS, V.ids, idsVL, idsL] at hg; done) | simpa [cS, V.ids, idsVL, idsL] using hg)
    have hyi : ys.length = i := hyl
    simp [cS, hlt, hwi, hyi, show i + (a.xs.length - i) = a.xs.length by omega, dSl]
    refine back2 (i + 1, ys ++ [y]) ⟨by omega, by simp [hyi], ?_, ?_, ?_⟩ (by simp <;> omega) rfl (by simp <;> omega) (by simp) ?_
    · simp only [List.map_append, hpl, List.map_cons, List.map_nil, hy1]
      rw [List.take_succ_eq_append_getElem (by simpa using hlt)]; simp
    · intro y' hy'
      rcases List.mem_append.1 hy' with h | h
      · exact hok y' h
      · rw [List.mem_singleton.1 h]; exact hy2
    · exact GoodL.snoc hgd (by omega) hn' hy3 hr'
    · simp [rep_set0 hlt, cS, dSl]
  · have hn : i = a.xs.length := by omega
    subst hn
    simp
    intro γ hs' h1 hg
    obtain ⟨q1, q2⟩ := gam_at hg (k := 7) (T := 23) (sz := 1) (es := ys.map (cS cI)) (by simp [upd])
    have q3 := gam_row hg (k := 7) (T := 23) (sz := 1) (es := ys.map (cS cI)) (by simp [upd])
    clear hg
    refine ⟨_, ⟨by omega, rfl⟩, ⟨γ 7, some (23, 1), ys⟩, ?_, by rw [List.take_of_length_le (by simp)] at hpl; exact hpl, ⟨by simp only [maxLen]; show ys.length ≤ _; omega, hok⟩, good_row (fun g hg => (q1 g hg).1) (by simpa using q2) q3 ⟨hgd.nd, hgd.lo⟩ hgd.wh⟩
    rw [if_pos hyl.symm, List.take_of_length_le (by simp [hyl])]
theorem w_laws_toAtom (a : Atom) (ha : okAtom a) (hb : swAtom a ≤ 1048576) :
   VC Tryd.prog 44 [.agg ((cAtom a).map V.d)] (fun n r => ∃ y : Atom, r = .agg ((cAtom y).map V.d) ∧ plAtom y = plAtom a ∧ okAtom y ∧ Good (cAtom y) (whAtom y) n) := by
  refine VC.of E s44 (by kernel_rfl) Tryd.func44 (by rfl) (by kernel_rfl) (by simp [Tryd.f44]) (by simp [Tryd.f44]) s44_ok fun B => ?_
  have hwt : swAtom a = swStr a.rel + swS swI a.vars := rfl
  simp [Tryd.f44, cAtom, cS, cStr, dSl]
  refine call_some (w_laws_toIntS a.vars ha.2 (by have := hwt; simp only [swS] at this; omega)) rfl (by simp) fun n0 hs0 r0 hn0 hm0 hp0 hr0 => ?_
  obtain ⟨y0, rfl, hy0, hk0, hg0⟩ := hp0
  have hl0 : ∀ g ∈ idsL (cS cI y0), g < hs0 := fun g hg => hr0 g (by first | (simp [cS, V.ids, idsVL, idsL] at hg; done) | simpa [cS, V.ids, idsVL, idsL] using hg)
  simp at hn0
  simp [cS, dSl]
  refine ⟨⟨a.rel, y0⟩, ?_⟩
  refine ⟨by simp [cAtom, cS, cStr, dSl], by simp only [plAtom, hy0], ⟨ha.1, hk0⟩, ?_⟩
  have G0 : Good (cStr a.rel) (whStr a.rel) B := good_Str B a.rel
  have G1 : Good (cS cI y0) (whS whI y0) B := hg0.le (by omega)
  have U0 : ∀ g ∈ idsL (cStr a.rel), g < B := by simp [cStr, idsL, D.ids]
  have K1 : Good (cStr a.rel ++ cS cI y0) ((whStr a.rel) ∧ whS whI y0) B := Good.app G0 G1 (fun g h h' => by have h1 := U0 g h; have h2 := hg0.lo g h'; omega)
  have U1 : ∀ g ∈ idsL (cStr a.rel ++ cS cI y0), g < hs0 := fun g h => by rw [idsL_app] at h; rcases List.mem_append.1 h with h | h; (have h1 := U0 g h; omega); exact hl0 g h
  exact ⟨K1.nd, K1.lo, by have h := K1.wh; exact ⟨h.1, h.2⟩⟩
theorem w_laws_toAtomS (a : Sl (Atom)) (ha : okS okAtom a) (hb : swS swAtom a ≤ 1048576) :
   VC Tryd.prog 24 [.d (dSl cAtom a)] (fun n r => ∃ y : Sl (Atom), r = .d (dSl cAtom y) ∧ plS plAtom y = plS plAtom a ∧ okS okAtom y ∧ Good (cS cAtom y) (whS whAtom y) n) := by
  refine VC.of E s24 (by kernel_rfl) Tryd.func24 (by rfl) (by kernel_rfl) (by simp [Tryd.f24]) (by simp [Tryd.f24]) s24_ok fun B => ?_
  have hwt : swS swAtom a = a.xs.length + sumW swAtom a.xs := rfl
  simp [Tryd.f24, dSl]
  refine ⟨⟨by omega, by simp only [maxLen]; omega⟩, ?_⟩
  refine loop_rule2 (X := Nat × List (Atom)) (fun p h => p.1 ≤ a.xs.length ∧ p.2.length = p.1 ∧ p.2.map plAtom = (a.xs.map plAtom).take p.1 ∧ (∀ y ∈ p.2, okAtom y) ∧ GoodL cAtom whAtom B h p.2) (fun p => [(0, .d (.sl a.id a.T (a.xs.map cAtom))), (3, .own 7 0 a.xs.length), (4, .d (.int .i64 p.1))]) (fun p => [(7, some (.row 59 2 (p.2.map cAtom ++ List.replicate (a.xs.length - p.1) [.str [], .sl none none []])))]) (fun p => a.xs.length - p.1) (0, []) ⟨by simp, rfl, by simp, by simp, GoodL.nil⟩ (by simp) (by simp) ?_
  rintro ⟨i, ys⟩ hs t m ⟨hi, hyl, hpl, hok, hgd⟩ hh
  simp only at hi hyl hpl hok hgd
  by_cases hlt : i < a.xs.length
  · have hwi := wr1 (i := i) (by omega)
    have hmem : a.xs[i] ∈ a.xs := List.getElem_mem _
    have hsw := sumW_mem swAtom hmem
    simp [cAtom, cS, cStr, hlt]
    refine call_some (w_laws_toAtom a.xs[i] (ha.2 _ hmem) (by omega)) rfl (by simp) fun n hs' r hn hn' hp hr => ?_
    obtain ⟨y, rfl, hy1, hy2, hy3⟩ := hp
    simp at hn
    have hr' : ∀ g ∈ idsL (cAtom y), g < hs' := fun g hg => hr g (by first | (simp [cAtom, cS, cStr, V.ids, idsVL, idsL] at hg; done) | simpa [cAtom, cS, cStr, V.ids, idsVL, idsL] using hg)
    have hyi : ys.length = i := hyl
    simp [cAtom, cS, cStr, hlt, hwi, hyi, show i + (a.xs.length - i) = a.xs.length by omega, dSl]
    refine back2 (i + 1, ys ++ [y]) ⟨by omega, by simp [hyi], ?_, ?_, ?_⟩ (by simp <;> omega) rfl (by simp <;> omega) (by simp) ?_
    · simp only [List.map_append, hpl, List.map_cons, List.map_nil, hy1]
      rw [List.take_succ_eq_append_getElem (by simpa using hlt)]; simp
    · intro y' hy'
      rcases List.mem_append.1 hy' with h | h
      · exact hok y' h
      · rw [List.mem_singleton.1 h]; exact hy2
    · exact GoodL.snoc hgd (by omega) hn' hy3 hr'
    · simp [rep_set0 hlt, cAtom, cS, cStr, dSl]
  · have hn : i = a.xs.length := by omega
    subst hn
    simp
    intro γ hs' h1 hg
    obtain ⟨q1, q2⟩ := gam_at hg (k := 7) (T := 59) (sz := 2) (es := ys.map cAtom) (by simp [upd])
    have q3 := gam_row hg (k := 7) (T := 59) (sz := 2) (es := ys.map cAtom) (by simp [upd])
    clear hg
    refine ⟨_, ⟨by omega, rfl⟩, ⟨γ 7, some (59, 2), ys⟩, ?_, by rw [List.take_of_length_le (by simp)] at hpl; exact hpl, ⟨by simp only [maxLen]; show ys.length ≤ _; omega, hok⟩, good_row (fun g hg => (q1 g hg).1) (by simpa using q2) q3 ⟨hgd.nd, hgd.lo⟩ hgd.wh⟩
    rw [if_pos hyl.symm, List.take_of_length_le (by simp [hyl])]
theorem w_laws_toQuery (a : Query) (ha : okQuery a) (hb : swQuery a ≤ 1048576) :
   VC Tryd.prog 7 [.agg ((cQuery a).map V.d)] (fun n r => ∃ y : Query, r = .agg ((cQuery y).map V.d) ∧ plQuery y = plQuery a ∧ okQuery y ∧ Good (cQuery y) (whQuery y) n) := by
  refine VC.of E s7 (by kernel_rfl) Tryd.func7 (by rfl) (by kernel_rfl) (by simp [Tryd.f7]) (by simp [Tryd.f7]) s7_ok fun B => ?_
  have hwt : swQuery a = swS swAtom a.atoms + swS swI a.out := rfl
  simp [Tryd.f7, cI, cQuery, cS, dSl]
  refine call_some (w_laws_toAtomS a.atoms ha.2.1 (by have := hwt; omega)) rfl (by simp) fun n0 hs0 r0 hn0 hm0 hp0 hr0 => ?_
  obtain ⟨y0, rfl, hy0, hk0, hg0⟩ := hp0
  have hl0 : ∀ g ∈ idsL (cS cAtom y0), g < hs0 := fun g hg => hr0 g (by first | (simp [cS, V.ids, idsVL, idsL] at hg; done) | simpa [cS, V.ids, idsVL, idsL] using hg)
  simp at hn0
  simp [cS, dSl]
  refine call_some (w_laws_toIntS a.out ha.2.2 (by have := hwt; simp only [swS] at this; omega)) rfl (by simp) fun n1 hs1 r1 hn1 hm1 hp1 hr1 => ?_
  obtain ⟨y1, rfl, hy1, hk1, hg1⟩ := hp1
  have hl1 : ∀ g ∈ idsL (cS cI y1), g < hs1 := fun g hg => hr1 g (by first | (simp [cS, V.ids, idsVL, idsL] at hg; done) | simpa [cS, V.ids, idsVL, idsL] using hg)
  simp at hn1
  simp [cS, dSl]
  refine ⟨⟨a.n, y0, y1⟩, ?_⟩
  refine ⟨by simp [cI, cQuery, cS, dSl], by simp only [plQuery, hy0, hy1], ⟨ha.1, hk0, hk1⟩, ?_⟩
  have G0 : Good (cI a.n) (whI a.n) B := good_I B a.n
  have G1 : Good (cS cAtom y0) (whS whAtom y0) B := hg0.le (by omega)
  have G2 : Good (cS cI y1) (whS whI y1) B := hg1.le (by omega)
  have U0 : ∀ g ∈ idsL (cI a.n), g < B := by simp [cI, idsL, D.ids]
  have K1 : Good (cI a.n ++ cS cAtom y0) ((whI a.n) ∧ whS whAtom y0) B := Good.app G0 G1 (fun g h h' => by have h1 := U0 g h; have h2 := hg0.lo g h'; omega)
  have U1 : ∀ g ∈ idsL (cI a.n ++ cS cAtom y0), g < hs0 := fun g h => by rw [idsL_app] at h; rcases List.mem_append.1 h with h | h; (have h1 := U0 g h; omega); exact hl0 g h
  have K2 : Good (cI a.n ++ cS cAtom y0 ++ cS cI y1) (((whI a.n) ∧ whS whAtom y0) ∧ whS whI y1) B := Good.app K1 G2 (fun g h h' => by have h1 := U1 g h; have h2 := hg1.lo g h'; omega)
  have U2 : ∀ g ∈ idsL (cI a.n ++ cS cAtom y0 ++ cS cI y1), g < hs1 := fun g h => by rw [idsL_app] at h; rcases List.mem_append.1 h with h | h; (have h1 := U1 g h; omega); exact hl1 g h
  exact ⟨K2.nd, K2.lo, by have h := K2.wh; exact ⟨h.1.1, h.1.2, h.2⟩⟩
theorem w_laws_toDecomposition (a : Dec) (ha : okDec a) (hb : swDec a ≤ 1048576) :
   VC Tryd.prog 15 [.agg ((cDec a).map V.d)] (fun n r => ∃ y : Dec, r = .agg ((cDec y).map V.d) ∧ plDec y = plDec a ∧ okDec y ∧ Good (cDec y) (whDec y) n) := by
  refine VC.of E s15 (by kernel_rfl) Tryd.func15 (by rfl) (by kernel_rfl) (by simp [Tryd.f15]) (by simp [Tryd.f15]) s15_ok fun B => ?_
  have hwt : swDec a = swS (swS swI) a.bags + swS swI a.par := rfl
  simp [Tryd.f15, cDec, cS, dSl]
  refine call_some (w_laws_toIntSS a.bags ha.1 (by have := hwt; omega)) rfl (by simp) fun n0 hs0 r0 hn0 hm0 hp0 hr0 => ?_
  obtain ⟨y0, rfl, hy0, hk0, hg0⟩ := hp0
  have hl0 : ∀ g ∈ idsL (cS (cS cI) y0), g < hs0 := fun g hg => hr0 g (by first | (simp [cS, V.ids, idsVL, idsL] at hg; done) | simpa [cS, V.ids, idsVL, idsL] using hg)
  simp at hn0
  simp [cS, dSl]
  refine call_some (w_laws_toIntS a.par ha.2 (by have := hwt; simp only [swS] at this; omega)) rfl (by simp) fun n1 hs1 r1 hn1 hm1 hp1 hr1 => ?_
  obtain ⟨y1, rfl, hy1, hk1, hg1⟩ := hp1
  have hl1 : ∀ g ∈ idsL (cS cI y1), g < hs1 := fun g hg => hr1 g (by first | (simp [cS, V.ids, idsVL, idsL] at hg; done) | simpa [cS, V.ids, idsVL, idsL] using hg)
  simp at hn1
  simp [cS, dSl]
  refine ⟨⟨y0, y1⟩, ?_⟩
  refine ⟨by simp [cDec, cS, dSl], by simp only [plDec, hy0, hy1], ⟨hk0, hk1⟩, ?_⟩
  have G0 : Good (cS (cS cI) y0) (whS (whS whI) y0) B := hg0.le (by omega)
  have G1 : Good (cS cI y1) (whS whI y1) B := hg1.le (by omega)
  have U0 : ∀ g ∈ idsL (cS (cS cI) y0), g < hs0 := hl0
  have K1 : Good (cS (cS cI) y0 ++ cS cI y1) ((whS (whS whI) y0) ∧ whS whI y1) B := Good.app G0 G1 (fun g h h' => by have h1 := U0 g h; have h2 := hg1.lo g h'; omega)
  have U1 : ∀ g ∈ idsL (cS (cS cI) y0 ++ cS cI y1), g < hs1 := fun g h => by rw [idsL_app] at h; rcases List.mem_append.1 h with h | h; (have h1 := U0 g h; omega); exact hl1 g h
  exact ⟨K1.nd, K1.lo, by have h := K1.wh; exact ⟨h.1, h.2⟩⟩

end Go.Proofs.YtpbcmlolapdfjaaDoor


namespace Go.Proofs.YtpbcmlolapdfjaaDoor
open Go.Vs Go.Proofs Go
set_option maxRecDepth 100000
set_option maxHeartbeats 1000000



end Go.Proofs.YtpbcmlolapdfjaaDoor


namespace Go.Proofs.YtpbcmlolapdfjaaDoor
open Go.Vs Go.Proofs Go
set_option maxRecDepth 100000
set_option maxHeartbeats 1000000


end Go.Proofs.YtpbcmlolapdfjaaDoor


namespace Go.Proofs.YtpbcmlolapdfjaaDoor
open Go.Vs Go.Proofs Go
set_option maxRecDepth 100000
set_option maxHeartbeats 1000000

attribute [simp] plI_id plStr_id map_plI map_plStr pS cP cI cStr cU8 cB
theorem w_impl_within (n lo hi : Int) : VC Tryd.prog 45 [.d (.int .i64 n), .d (.int .i64 lo), .d (.int .i64 hi)] (fun _ r => r = .d (.bool (inR n lo hi))) := by
  refine VC.ofL EP s45 (by kernel_rfl) Tryd.func45 (by rfl) (by kernel_rfl) (by simp [Tryd.f45]) (by simp [Tryd.f45]) s45_ok fun B hl => ?_
  by_cases h : lo ≤ n
  · simp [Tryd.f45, inR, h]
  · simp [Tryd.f45, inR, h]
theorem w_spec_l1In (n lo hi : Int) : VC Tryd.prog 38 [.d (.int .i64 n), .d (.int .i64 lo), .d (.int .i64 hi)] (fun _ r => r = .d (.bool (inR n lo hi))) := by
  refine VC.ofL EP s38 (by kernel_rfl) Tryd.func38 (by rfl) (by kernel_rfl) (by simp [Tryd.f38]) (by simp [Tryd.f38]) s38_ok fun B hl => ?_
  by_cases h : lo ≤ n
  · simp [Tryd.f38, inR, h]
  · simp [Tryd.f38, inR, h]

end Go.Proofs.YtpbcmlolapdfjaaDoor


namespace Go.Proofs.YtpbcmlolapdfjaaDoor
open Go.Vs Go.Proofs Go
set_option maxRecDepth 100000
set_option maxHeartbeats 1000000

theorem w_impl_compareInts (x y : Int) : VC Tryd.prog 63 [.d (.int .i64 x), .d (.int .i64 y)] (fun _ r => r = .d (.int .i64 (if x < y then -1 else if y < x then 1 else 0))) := by
  refine VC.ofL EP s63 (by kernel_rfl) Tryd.func63 (by rfl) (by kernel_rfl) (by simp [Tryd.f63]) (by simp [Tryd.f63]) s63_ok fun B hl => ?_
  by_cases h1 : x < y
  · simp [Tryd.f63, h1]
  · by_cases h2 : y < x <;> simp [Tryd.f63, h1, h2]

end Go.Proofs.YtpbcmlolapdfjaaDoor


namespace Go.Proofs.YtpbcmlolapdfjaaDoor
open Go.Vs Go.Proofs Go
set_option maxRecDepth 100000
set_option maxHeartbeats 1000000

section
attribute [local simp] plI_id plStr_id map_plI map_plStr pS cP cI cStr cU8 cB
theorem w_spec_l7Find (l : List Int) (v : Int) : VC Tryd.prog 40 [.d (pS cI l), .d (.int .i64 v)] (fun _ r => r = .d (.int .i64 (idxL l v))) := by
  refine VC.ofL EP s40 (by kernel_rfl) Tryd.func40 (by rfl) (by kernel_rfl) (by simp [Tryd.f40]) (by simp [Tryd.f40]) s40_ok fun B hl => ?_
  simp [pS, maxLen] at hl
  simp [Tryd.f40, ]
  refine loop_rule (X := Nat) (fun i => i ≤ l.length ∧ AllTo (fun x => !(x == v)) l i) (fun i => [(0, .d (.pl (l.map cI))), (1, .d (.int .i64 v)), (5, .d (.int .i64 i))]) (fun _ => []) (fun i => l.length - i) 0 ⟨by simp, allTo_zero⟩ (by simp) (by simp) ?_
  intro i hs t m hi hh
  by_cases hlt : i < l.length
  · have hwi := wr1 (i := i) (by omega)
    by_cases he : l[i] = v
    · have hx := idxL_at hi.2 hlt he
      simp [hlt, he, hx, ]
    · simp [hlt, he, hwi, ]
      exact back (i + 1) ⟨by omega, allTo_step hi.2 hlt (by simp [he])⟩ (by omega) rfl (by simp <;> omega) (by simp) (by simp)
  · have hx := (idxL_no (allTo_done hi.2 (by omega))).2
    simp [hlt, hx]
theorem w_impl_indexOf (l : List Int) (v : Int) : VC Tryd.prog 80 [.d (pS cI l), .d (.int .i64 v)] (fun _ r => r = .d (.int .i64 (idxL l v))) := by
  refine VC.ofL EP s80 (by kernel_rfl) Tryd.func80 (by rfl) (by kernel_rfl) (by simp [Tryd.f80]) (by simp [Tryd.f80]) s80_ok fun B hl => ?_
  simp [pS, maxLen] at hl
  simp [Tryd.f80, ]
  refine loop_rule (X := Nat) (fun i => i ≤ l.length ∧ AllTo (fun x => !(x == v)) l i) (fun i => [(1, .d (.int .i64 v)), (7, .d (.pl (l.map cI))), (8, .d (.int .i64 l.length)), (9, .d (.int .i64 i))]) (fun _ => []) (fun i => l.length - i) 0 ⟨by simp, allTo_zero⟩ (by simp) (by simp) ?_
  intro i hs t m hi hh
  by_cases hlt : i < l.length
  · have hwi := wr1 (i := i) (by omega)
    by_cases he : l[i] = v
    · have hx := idxL_at hi.2 hlt he
      simp [hlt, he, hx, ]
    · simp [hlt, he, hwi, ]
      exact back (i + 1) ⟨by omega, allTo_step hi.2 hlt (by simp [he])⟩ (by omega) rfl (by simp <;> omega) (by simp) (by simp)
  · have hx := (idxL_no (allTo_done hi.2 (by omega))).2
    simp [hlt, hx]
theorem w_impl_hasInt (l : List Int) (v : Int) : VC Tryd.prog 67 [.d (pS cI l), .d (.int .i64 v)] (fun _ r => r = .d (.bool (l.contains v))) := by
  refine VC.ofL EP s67 (by kernel_rfl) Tryd.func67 (by rfl) (by kernel_rfl) (by simp [Tryd.f67]) (by simp [Tryd.f67]) s67_ok fun B hl => ?_
  rw [← idxL_ge]
  simp [Tryd.f67, ]
  refine call_f (w_impl_indexOf l v) (by simp) rfl fun hs1 hh1 => ?_
  simp
theorem w_spec_ContainsVariable (a : PAtom) (v : Int) : VC Tryd.prog 22 [.agg ((eAtom a).map V.d), .d (.int .i64 v)] (fun _ r => r = .d (.bool (a.vars.contains v))) := by
  refine VC.ofL EP s22 (by kernel_rfl) Tryd.func22 (by rfl) (by kernel_rfl) (by simp [Tryd.f22]) (by simp [Tryd.f22]) s22_ok fun B hl => ?_
  obtain ⟨nm, l⟩ := a
  simp [pS, maxLen, eAtom] at hl
  simp [Tryd.f22, eAtom]
  refine loop_rule (X := Nat) (fun i => i ≤ l.length ∧ AllTo (fun x => !(x == v)) l i) (fun i => [(1, .d (.int .i64 v)), (2, .ptr 2 0 0), (5, .d (.int .i64 i))]) (fun _ => [(2, some (.box [.d (.str nm), .d (.pl (l.map cI))]))]) (fun i => l.length - i) 0 ⟨by simp, allTo_zero⟩ (by simp) (by simp) ?_
  intro i hs t m hi hh
  by_cases hlt : i < l.length
  · have hwi := wr1 (i := i) (by omega)
    by_cases he : l[i] = v
    · have hx : v ∈ l := he ▸ List.getElem_mem hlt
      simp [hlt, he, hx, ]
    · simp [hlt, he, hwi, ]
      exact back (i + 1) ⟨by omega, allTo_step hi.2 hlt (by simp [he])⟩ (by omega) rfl (by simp <;> omega) (by simp) (by simp)
  · have hx := (idxL_no (allTo_done hi.2 (by omega))).1
    simp [hlt, hx]
theorem w_impl_ContainsVariable (a : PAtom) (v : Int) : VC Tryd.prog 52 [.agg ((eAtom a).map V.d), .d (.int .i64 v)] (fun _ r => r = .d (.bool (a.vars.contains v))) := by
  refine VC.ofL EP s52 (by kernel_rfl) Tryd.func52 (by rfl) (by kernel_rfl) (by simp [Tryd.f52]) (by simp [Tryd.f52]) s52_ok fun B hl => ?_
  simp [Tryd.f52, eAtom]
  refine call_f (w_impl_hasInt a.vars v) (by simp) rfl fun hs1 hh1 => ?_
  simp
theorem w_impl_isLetters (s : List UInt8) : VC Tryd.prog 68 [.d (.str s), .d (.int .i64 4)] (fun _ r => r = .d (.bool (nameOk s))) := by
  refine VC.ofL EP s68 (by kernel_rfl) Tryd.func68 (by rfl) (by kernel_rfl) (by simp [Tryd.f68]) (by simp [Tryd.f68]) s68_ok fun B hl => ?_
  by_cases h1 : (s.length : Int) < 1
  · have : s = [] := List.length_eq_zero_iff.1 (by omega)
    subst this
    simp [Tryd.f68, nameOk_len]
  by_cases h4 : (4 : Int) < s.length
  · have : nameOk s = false := nameOk_len (by omega)
    simp [Tryd.f68, h1, h4, this]
  have hlen : 1 ≤ s.length ∧ s.length ≤ 4 := by omega
  simp [Tryd.f68, h1, h4]
  refine loop_rule (X := Nat) (fun i => i ≤ s.length ∧ AllTo lowB s i) (fun i => [(0, .d (.str s)), (5, .d (.int .i64 i))]) (fun _ => []) (fun i => s.length - i) 0 ⟨by simp, allTo_zero⟩ (by simp) (by simp) ?_
  intro i hs t m hi hh
  by_cases hlt : i < s.length
  · have hwi := wr1 (i := i) (by omega)
    by_cases ha : ((s[i]).toNat : Int) < 97
    · have hbad := nameOk_bad (all_bad (p := lowB) hlt (lowB_lo ha))
      simp [hlt, ha, hbad, ]
    · by_cases hz : (122 : Int) < ((s[i]).toNat : Int)
      · have hbad := nameOk_bad (all_bad (p := lowB) hlt (lowB_hi hz))
        simp [hlt, ha, hz, hbad, ]
      · simp [hlt, ha, hz, hwi, ]
        exact back (i + 1) ⟨by omega, allTo_step hi.2 hlt (lowB_ok ha hz)⟩ (by omega) rfl (by simp <;> omega) (by simp) (by simp)
  · have hd := allTo_done hi.2 (by omega)
    have hd2 : nameOk s = true := by rw [nameOk_ok hd, decide_eq_true hlen]
    simp [hlt, hd2]
theorem w_impl_IsValidName (s : List UInt8) : VC Tryd.prog 47 [.d (.str s)] (fun _ r => r = .d (.bool (nameOk s))) := by
  refine VC.ofL EP s47 (by kernel_rfl) Tryd.func47 (by rfl) (by kernel_rfl) (by simp [Tryd.f47]) (by simp [Tryd.f47]) s47_ok fun B hl => ?_
  simp [Tryd.f47, ]
  refine call_f (w_impl_isLetters s) (by simp) rfl fun hs1 hh1 => ?_
  simp
theorem w_spec_IsValidName (s : List UInt8) (hb : s.length ≤ maxLen) : VC Tryd.prog 39 [.d (.str s)] (fun _ r => r = .d (.bool (nameOk s))) := by
  refine VC.ofL EP s39 (by kernel_rfl) Tryd.func39 (by rfl) (by kernel_rfl) (by simp [Tryd.f39]) (by simp [Tryd.f39]) s39_ok fun B hl => ?_
  simp only [maxLen] at hb
  simp [Tryd.f39, ]
  refine loop_rule (X := Nat) (fun i => i ≤ s.length ∧ AllTo lowB s i) (fun i => [(0, .d (.str s)), (3, .d (.int .i64 i))]) (fun _ => []) (fun i => s.length - i) 0 ⟨by simp, allTo_zero⟩ (by simp) (by simp) ?_
  intro i hs t m hi hh
  by_cases hlt : i < s.length
  · have hwi := wr1 (i := i) (by omega)
    by_cases ha : ((s[i]).toNat : Int) < 97
    · have hbad := nameOk_bad (all_bad (p := lowB) hlt (lowB_lo ha))
      simp [hlt, ha, hbad, ]
    · by_cases hz : (122 : Int) < ((s[i]).toNat : Int)
      · have hbad := nameOk_bad (all_bad (p := lowB) hlt (lowB_hi hz))
        simp [hlt, ha, hz, hbad, ]
      · simp [hlt, ha, hz, hwi, ]
        exact back (i + 1) ⟨by omega, allTo_step hi.2 hlt (lowB_ok ha hz)⟩ (by omega) rfl (by simp <;> omega) (by simp) (by simp)
  · have hd := allTo_done hi.2 (by omega)
    simp [hlt, ]
    refine call_f (w_spec_l1In s.length 1 4) (by simp) rfl fun hs1 hh1 => ?_
    have e : inR (s.length : Int) 1 4 = decide (1 ≤ s.length ∧ s.length ≤ 4) := by
      simp only [inR, ← Bool.decide_and]; congr 1; apply propext; omega
    rw [e, nameOk_ok hd]
    simp
theorem w_impl_isSetOf (l : List Int) (n : Int) : VC Tryd.prog 46 [.d (pS cI l), .d (.int .i64 n)] (fun _ r => r = .d (.bool (setOf l n))) := by
  refine VC.ofL EP s46 (by kernel_rfl) Tryd.func46 (by rfl) (by kernel_rfl) (by simp [Tryd.f46]) (by simp [Tryd.f46]) s46_ok fun B hl => ?_
  simp [pS, maxLen] at hl
  simp [Tryd.f46, ]
  refine loop_rule (X := Nat) (SetTo l n) (fun i => [(0, .d (.pl (l.map cI))), (1, .d (.int .i64 n)), (7, .d (.pl (l.map cI))), (8, .d (.int .i64 l.length)), (9, .d (.int .i64 i))]) (fun _ => []) (fun i => l.length - i) 0 .zero (by simp) (by simp) ?_
  intro i hs t m hi hh
  have hil := hi.le
  by_cases hlt : i < l.length
  · have hwi := wr1 (i := i) (by omega)
    simp [hlt, ]
    refine call_f (w_impl_within l[i] 0 (IntKind.i64.wrap (n - 1))) (by simp) rfl fun hs1 hh1 => ?_
    simp at hh1
    cases h1 : inR l[i] 0 (IntKind.i64.wrap (n - 1))
    · simp [setOf_bad1 hlt h1]
    simp [hil, ← List.map_take, ]
    refine call_f (w_impl_hasInt (l.take i) l[i]) (by simp) rfl fun hs2 hh2 => ?_
    simp at hh2
    by_cases h2 : l[i] ∈ l.take i
    · simp [h2, setOf_bad2 hlt h2]
    simp [h2, hwi, ]
    exact back (i + 1) (hi.step hlt h1 h2) (by omega) rfl (by simp <;> omega) (by simp) (by simp)
  · have hd := hi.done (by omega)
    simp [hlt, hd]
end

end Go.Proofs.YtpbcmlolapdfjaaDoor


namespace Go.Proofs.YtpbcmlolapdfjaaDoor
open Go.Vs Go.Proofs Go
set_option maxRecDepth 100000
set_option maxHeartbeats 1000000

section
attribute [local simp] plI_id plStr_id map_plI map_plStr pS cP cI cStr cU8 cB eAtom
theorem w_spec_IsValidQuery (q : PQuery) (hst : ∀ a ∈ q.atoms, a.rel.length ≤ maxLen) : VC Tryd.prog 20 [.agg ((eQuery q).map V.d)] (fun _ r => r = .d (.bool (queryOk q))) := by
  refine VC.ofL EP s20 (by kernel_rfl) Tryd.func20 (by rfl) (by kernel_rfl) (by simp [Tryd.f20]) (by simp [Tryd.f20]) s20_ok fun B hl => ?_
  obtain ⟨n, ats, out⟩ := q
  simp only at hst
  simp [pS, maxLen, eQuery] at hl
  simp [Tryd.f20, s20_11, s20_26, s20_11, s20_26, eQuery]
  refine call_f (w_spec_l1In n 1 5) (by simp) rfl fun hs1 hh1 => ?_
  simp at hh1
  cases h1 : inR n 1 5
  · simp [queryOk_n (q := ⟨n, ats, out⟩) h1]
  have hn : 1 ≤ n ∧ n ≤ 5 := by simpa [inR] using h1
  simp [s20_11, s20_26, eQuery]
  refine call_f (w_spec_l1In ats.length 1 4) (by simp) rfl fun hs2 hh2 => ?_
  simp at hh2
  cases h2 : inR (ats.length : Int) 1 4
  · simp [queryOk_a (q := ⟨n, ats, out⟩) h2]
  have ha4 : ats.length ≤ 4 := by simp [inR] at h2; omega
  by_cases h3 : n < out.length
  · have hso : setOf out n = false := by
      cases hs : setOf out n
      · rfl
      · have := setOf_len hn hs; omega
    simp [h3, queryOk_o (q := ⟨n, ats, out⟩) hso]
  have hrw : ∀ i (h : i < ats.length), ats[i].rel.length ≤ maxLen := fun i h => hst _ (List.getElem_mem h)
  have hvl : ∀ i (h : i < ats.length), ats[i].vars.length ≤ 9223372036854775807 := fun i h => (hl.1.2 _ (List.getElem_mem h))
  simp [h3]
  refine loop_rule (X := Nat) (AtI n ats) (fun i => [(1, .ptr 1 0 0), (3, .d (.int .i64 i))]) (fun _ => [(1, some (.box [.d (.int .i64 n), .d (.pl (ats.map eAtom)), .d (.pl (out.map cI))]))]) (fun i => ats.length - i) 0 .zero (by simp) (by simp) ?_
  intro i hs t m hi hh
  have hil := hi.le
  by_cases hlt : i < ats.length
  · have hwi := wr1 (i := i) (by omega)
    have hbad : atomOk n ats[i] = false → queryOk ⟨n, ats, out⟩ = false := fun h => queryOk_at (q := ⟨n, ats, out⟩) hlt h
    simp [hlt, s20_11, s20_26, ]
    refine call_f (w_spec_IsValidName ats[i].rel (hrw i hlt)) (by simp) rfl fun hs3 hh3 => ?_
    simp at hh3
    cases h4 : nameOk ats[i].rel
    · simp [hbad (by simp only [atomOk, h4, Bool.false_and])]
    simp [hlt, s20_11, s20_26, ]
    refine call_f (w_spec_l1In ats[i].vars.length 1 5) (by simp) rfl fun hs4 hh4 => ?_
    simp at hh4
    cases h5 : inR (ats[i].vars.length : Int) 1 5
    · simp [hbad (by simp only [atomOk, h5, Bool.false_and, Bool.and_false])]
    simp [s20_11, s20_26, ]
    refine loop_rule (X := Nat) (AtK n ats[i].vars) (fun k => [(1, .ptr 1 0 0), (3, .d (.int .i64 i)), (4, .d (.int .i64 k))]) (fun _ => [(1, some (.box [.d (.int .i64 n), .d (.pl (ats.map eAtom)), .d (.pl (out.map cI))]))]) (fun k => ats[i].vars.length - k) 0 .zero (by simp) (by simp) ?_
    intro k hs t m hk hh
    have hkl := hk.le
    have hvi := hvl i hlt
    by_cases hkt : k < ats[i].vars.length
    · have hwk := wr1 (i := k) (by omega)
      cases h6 : inR ats[i].vars[k] 0 (IntKind.i64.wrap (n - 1))
      · have hq := hbad (atomOk_bad hkt h6)
        simp [hlt, hkt, s20_11, s20_26, ]
        refine call_f (VC.to (w_spec_l1In ats[i].vars[k] 0 (IntKind.i64.wrap (n - 1))) (show _ = V.d (.bool false) by rw [h6])) (by simp) rfl fun hs5 hh5 => ?_
        simp [hq]
      · refine anyQ fun Q => ?_
        simp [hlt, hkt, s20_11, s20_26, ]
        refine call_f (VC.to (w_spec_l1In ats[i].vars[k] 0 (IntKind.i64.wrap (n - 1))) (show _ = V.d (.bool true) by rw [h6])) (by simp) rfl fun hs5 hh5 => ?_
        simp at hh5
        simp [hwk, s20_11, s20_26, ]
        exact back (k + 1) (hk.step hkt h6) (by omega) rfl (by simp <;> omega) (by simp) (by simp)
    · have hao := atomOk_done hk (by omega) h4 h5
      simp [hlt, hkt, hwi, s20_11, s20_26, ]
      exact back (i + 1) (hi.step hlt hao) (by omega) rfl (by simp <;> omega) (by simp) (by simp)
  have hall := allTo_done hi.ok (by omega)
  simp [hlt, s20_11, s20_26, ]
  refine loop_rule (X := Nat) (UsTo n ats) (fun v => [(1, .ptr 1 0 0), (5, .d (.int .i64 v))]) (fun _ => [(1, some (.box [.d (.int .i64 n), .d (.pl (ats.map eAtom)), .d (.pl (out.map cI))]))]) (fun v => n.toNat - v) 0 .zero (by simp) (by simp) ?_
  intro v hs t m hv hh
  have hvn := hv.le
  by_cases hvt : v < n.toNat
  · have hwv := wr1 (i := v) (by omega)
    have hvt' : (v : Int) < n := by omega
    simp [hvt', s20_11, s20_26, ]
    refine loop_rule (X := Nat) (fun i => i ≤ ats.length) (fun i => [(1, .ptr 1 0 0), (5, .d (.int .i64 v)), (6, .d (.bool (hasTo ats v i))), (7, .d (.int .i64 i))]) (fun _ => [(1, some (.box [.d (.int .i64 n), .d (.pl (ats.map eAtom)), .d (.pl (out.map cI))]))]) (fun i => ats.length - i) 0 (by simp) (by simp [hasTo_zero]) (by simp) ?_
    intro i hs t m hi hh
    by_cases hlt : i < ats.length
    · have hwi := wr1 (i := i) (by omega)
      have hst := hasTo_step (v := (v : Int)) hlt
      refine anyQ fun Q => ?_
      cases h6 : hasTo ats v i
      · rw [h6, Bool.false_or] at hst
        simp [hlt, s20_11, s20_26, ]
        refine call_f (w_spec_ContainsVariable ats[i] v) (by simp) rfl fun hs5 hh5 => ?_
        simp at hh5
        simp only [List.contains_eq_mem] at hst
        simp [hwi, s20_11, s20_26, ]
        exact back (i + 1) (by omega) (by omega) rfl (by simp <;> omega) (by simp [hst]) (by simp)
      · rw [h6, Bool.true_or] at hst
        simp [hlt, hwi, s20_11, s20_26, ]
        exact back (i + 1) (by omega) (by omega) rfl (by simp <;> omega) (by simp [hst]) (by simp)
    · have hha := hasTo_all (l := ats) (v := (v : Int)) (i := i) (by omega)
      cases h7 : (varsIn ats).contains (v : Int)
      · rw [h7] at hha
        simp [hlt, hha, queryOk_u (q := ⟨n, ats, out⟩) (usesAll_bad hvt h7), s20_11, s20_26, ]
      · rw [h7] at hha
        simp [hlt, hha, hwv, s20_11, s20_26, ]
        exact back (v + 1) (hv.step hvt h7) (by omega) rfl (by simp <;> omega) (by simp) (by simp)
  have hus := hv.done (by omega)
  have hvt' : ¬ (v : Int) < n := by omega
  simp [hvt', s20_11, s20_26, ]
  refine loop_rule (X := Nat) (SetTo out n) (fun i => [(1, .ptr 1 0 0), (8, .d (.int .i64 i))]) (fun _ => [(1, some (.box [.d (.int .i64 n), .d (.pl (ats.map eAtom)), .d (.pl (out.map cI))]))]) (fun i => out.length - i) 0 .zero (by simp) (by simp) ?_
  intro i hs t m hi hh
  have hil := hi.le
  by_cases hlt : i < out.length
  · have hwi := wr1 (i := i) (by omega)
    simp [hlt, s20_11, s20_26, ]
    refine call_f (w_spec_l1In out[i] 0 (IntKind.i64.wrap (n - 1))) (by simp) rfl fun hs5 hh5 => ?_
    simp at hh5
    cases h6 : inR out[i] 0 (IntKind.i64.wrap (n - 1))
    · simp [queryOk_o (q := ⟨n, ats, out⟩) (setOf_bad1 hlt h6)]
    simp [hil, hlt, ← List.map_take, s20_11, s20_26, ]
    refine call_f (w_spec_l7Find (out.take i) out[i]) (by simp) rfl fun hs6 hh6 => ?_
    simp at hh6
    have hge := idxL_ge (out.take i) out[i]
    by_cases h7 : out[i] ∈ out.take i
    · have h8 : 0 ≤ idxL (out.take i) out[i] := by simpa [h7] using hge
      simp [h8, queryOk_o (q := ⟨n, ats, out⟩) (setOf_bad2 hlt h7)]
    · have h8 : ¬ 0 ≤ idxL (out.take i) out[i] := by simpa [h7] using hge
      simp [h8, hwi, s20_11, s20_26, ]
      exact back (i + 1) (hi.step hlt h6 h7) (by omega) rfl (by simp <;> omega) (by simp) (by simp)
  · have hd := hi.done (by omega)
    simp [hlt, queryOk_all (q := ⟨n, ats, out⟩) h1 h2 hd hall hus]
end

end Go.Proofs.YtpbcmlolapdfjaaDoor


namespace Go.Proofs.YtpbcmlolapdfjaaDoor
open Go.Vs Go.Proofs Go
set_option maxRecDepth 100000
set_option maxHeartbeats 1000000

section
attribute [local simp] plI_id plStr_id map_plI map_plStr pS cP cI cStr cU8 cB eAtom
theorem w_impl_IsValidQuery (q : PQuery) : VC Tryd.prog 25 [.agg ((eQuery q).map V.d)] (fun _ r => r = .d (.bool (queryOk q))) := by
  refine VC.ofL EP s25 (by kernel_rfl) Tryd.func25 (by rfl) (by kernel_rfl) (by simp [Tryd.f25]) (by simp [Tryd.f25]) s25_ok fun B hl => ?_
  obtain ⟨n, ats, out⟩ := q
  simp [pS, maxLen, eQuery] at hl
  simp [Tryd.f25, eQuery]
  refine call_f (w_impl_within n 1 5) (by simp) rfl fun hs1 hh1 => ?_
  simp at hh1
  cases h1 : inR n 1 5
  · simp [queryOk_n (q := ⟨n, ats, out⟩) h1]
  have hn : 1 ≤ n ∧ n ≤ 5 := by simpa [inR] using h1
  obtain ⟨N, rfl⟩ : ∃ N : Nat, n = (N : Int) := ⟨n.toNat, by omega⟩
  simp [eQuery]
  refine call_f (w_impl_within ats.length 1 4) (by simp) rfl fun hs2 hh2 => ?_
  simp at hh2
  cases h2 : inR (ats.length : Int) 1 4
  · simp [queryOk_a (q := ⟨N, ats, out⟩) h2]
  have ha4 : ats.length ≤ 4 := by simp [inR] at h2; omega
  simp [eQuery]
  refine call_f (w_impl_isSetOf out N) (by simp) rfl fun hs3 hh3 => ?_
  simp at hh3
  cases h3 : setOf out N
  · simp [queryOk_o (q := ⟨N, ats, out⟩) h3]
  have hvl : ∀ i (h : i < ats.length), ats[i].vars.length ≤ 9223372036854775807 := fun i h => (hl.1.2 _ (List.getElem_mem h))
  have hL : LenOk 1 N := ⟨by omega, by simp only [maxLen]; omega⟩
  have hwN : IntKind.i64.wrap ((N : Int) - 1) = N - 1 := wrap64_of (by omega) (by omega)
  simp [hL, ]
  refine loop_rule (X := Nat) (AtI N ats) (fun i => [(3, .d (.int .i64 N)), (4, .own 31 0 N), (33, .d (.pl (ats.map eAtom))), (34, .d (.int .i64 ats.length)), (35, .d (.int .i64 i))])
    (fun i => [(31, some (.row 4 1 ((usedL N (varsIn (ats.take i))).map cB)))]) (fun i => ats.length - i) 0 .zero (by simp) (by simp [usedL_nil, varsIn]) ?_
  intro i hs t m hi hh
  have hil := hi.le
  by_cases hlt : i < ats.length
  · have hwi := wr1 (i := i) (by omega)
    have hbad : atomOk N ats[i] = false → queryOk ⟨N, ats, out⟩ = false := fun h => queryOk_at (q := ⟨N, ats, out⟩) hlt h
    have hvs : varsIn (ats.take (i + 1)) = varsIn (ats.take i) ++ ats[i].vars := by
      rw [varsIn, List.take_succ_eq_append_getElem hlt, List.flatMap_append]; simp only [varsIn, List.flatMap_cons, List.flatMap_nil, List.append_nil]
    simp [hlt, ]
    refine call_f (w_impl_IsValidName ats[i].rel) (by simp) rfl fun hs3 hh3 => ?_
    simp at hh3
    cases h4 : nameOk ats[i].rel
    · simp [hbad (by simp only [atomOk, h4, Bool.false_and])]
    simp []
    refine call_f (w_impl_within ats[i].vars.length 1 5) (by simp) rfl fun hs4 hh4 => ?_
    simp at hh4
    cases h5 : inR (ats[i].vars.length : Int) 1 5
    · simp [hbad (by simp only [atomOk, h5, Bool.false_and, Bool.and_false])]
    simp []
    obtain ⟨us, hus⟩ : ∃ us, us = varsIn (ats.take i) := ⟨_, rfl⟩
    rw [← hus] at hvs ⊢
    obtain ⟨vs, hvse⟩ : ∃ vs, vs = ats[i].vars := ⟨_, rfl⟩
    have hvi := hvl i hlt
    rw [← hvse] at hvs hvi h5
    refine loop_rule (X := Nat) (AtK N vs) (fun k => [(3, .d (.int .i64 N)), (4, .own 31 0 N), (33, .d (.pl (ats.map eAtom))), (34, .d (.int .i64 ats.length)), (35, .d (.int .i64 i)), (51, .d (.pl (vs.map cI))), (52, .d (.int .i64 vs.length)), (53, .d (.int .i64 k))])
      (fun k => [(31, some (.row 4 1 ((usedL N (us ++ vs.take k)).map cB)))]) (fun k => vs.length - k) 0 .zero (by simp [hvse]) (by simp [hus]) ?_
    intro k hs t m hk hh
    have hkl := hk.le
    by_cases hkt : k < vs.length
    · have hwk := wr1 (i := k) (by omega)
      simp [hkt, ]
      refine call_f (w_impl_within vs[k] 0 (IntKind.i64.wrap ((N : Int) - 1))) (by simp) rfl fun hs5 hh5 => ?_
      simp at hh5
      cases h6 : inR vs[k] 0 (IntKind.i64.wrap ((N : Int) - 1))
      · have hq := hbad (atomOk_bad (k := k) (by rw [← hvse]; exact hkt) (by simpa only [← hvse] using h6))
        simp [hq]
      · have hst := hk.step hkt h6
        rw [hwN] at h6
        simp only [inR, Bool.and_eq_true, decide_eq_true_eq] at h6
        obtain ⟨p, hp⟩ : ∃ p : Nat, vs[k] = (p : Int) := ⟨vs[k].toNat, by omega⟩
        have hpN : p < N := by omega
        have hset : usedL N (us ++ vs.take (k + 1)) = (usedL N (us ++ vs.take k)).set p true := by
          rw [usedL_snoc hpN, List.append_assoc, List.take_succ_eq_append_getElem hkt, hp]
        simp [hp, hpN, hwk, ]
        exact back (k + 1) hst (by omega) rfl (by simp <;> omega) (by simp) (by simp [hset])
    · have hao := atomOk_done (n := N) (a := ats[i]) (k := k) (by rw [← hvse]; exact hk) (by rw [← hvse]; omega) h4 (by rw [← hvse]; exact h5)
      have hd : vs.take k = vs := List.take_of_length_le (by omega)
      simp [hkt, hwi, hd, ]
      exact back (i + 1) (hi.step hlt hao) (by omega) rfl (by simp <;> omega) (by simp) (by simp [hvs])
  have hall := allTo_done hi.ok (by omega)
  have hd : ats.take i = ats := List.take_of_length_le (by omega)
  rw [hd]
  simp [hlt, ]
  have hu := usesAll_iff (n := (N : Int)) (l := ats)
  rw [Int.toNat_natCast] at hu
  refine loop_rule (X := Nat) (fun j => j ≤ N ∧ AllTo id (usedL N (varsIn ats)) j) (fun j => [(67, .own 31 0 N), (68, .d (.int .i64 N)), (69, .d (.int .i64 j))]) (fun _ => [(31, some (.row 4 1 ((usedL N (varsIn ats)).map cB)))]) (fun j => N - j) 0 ⟨by simp, allTo_zero⟩ (by simp) (by simp) ?_
  intro j hs t m hj hh
  by_cases hjt : j < N
  · have hwj := wr1 (i := j) (by omega)
    have hjl : j < (usedL N (varsIn ats)).length := by simpa using hjt
    cases h6 : (usedL N (varsIn ats))[j]
    · have hq : queryOk ⟨N, ats, out⟩ = false := queryOk_u (q := ⟨N, ats, out⟩) (by rw [hu]; exact all_bad (p := id) hjl h6)
      simp [hjt, h6, hq, ]
    · simp [hjt, h6, hwj, ]
      exact back (j + 1) ⟨by omega, allTo_step hj.2 hjl h6⟩ (by omega) rfl (by simp <;> omega) (by simp) (by simp)
  · have hus : usesAll N ats = true := by rw [hu]; exact allTo_done hj.2 (by simp; omega)
    simp [hjt, queryOk_all (q := ⟨N, ats, out⟩) h1 h2 h3 hall hus]
end

end Go.Proofs.YtpbcmlolapdfjaaDoor


namespace Go.Proofs.YtpbcmlolapdfjaaDoor
open Go.Vs Go.Proofs Go
set_option maxRecDepth 100000
set_option maxHeartbeats 1000000

section
attribute [local simp] plI_id plStr_id map_plI map_plStr pS cP cI cStr cU8 cB
theorem w_impl_IsStrictlyAscending (b : List Int) : VC Tryd.prog 48 [.d (pS cI b)] (fun _ r => r = .d (.bool (ascB b))) := by
  refine VC.ofL EP s48 (by kernel_rfl) Tryd.func48 (by rfl) (by kernel_rfl) (by simp [Tryd.f48]) (by simp [Tryd.f48]) s48_ok fun B hl => ?_
  simp [pS, maxLen] at hl
  simp [Tryd.f48, s48_4, s48_4, ]
  refine loop_rule (X := Nat) (AscI b) (fun i => [(0, .d (.pl (b.map cI))), (3, .d (.int .i64 i))]) (fun _ => []) (fun i => b.length + 1 - i) 1 .one (by simp) (by simp) ?_
  intro i hs t m hi hh
  have hle := hi.le
  by_cases hlt : i < b.length
  · have hwi := wr1 (i := i) (by omega)
    have hw : IntKind.i64.wrap ((i : Int) - 1) = ((i - 1 : Nat) : Int) := by rw [wrap64_of (by omega) (by omega)]; omega
    have hl1 : i - 1 < b.length := by omega
    by_cases he : b[i - 1] < b[i]
    · simp [hlt, hw, hl1, he, show ¬ b[i] ≤ b[i - 1] by omega, hwi, s48_4, ]
      exact back (i + 1) (hi.step hlt he) (by omega) rfl (by simp <;> omega) (by simp) (by simp)
    · simp [hlt, hw, hl1, show b[i] ≤ b[i - 1] by omega, asc_bad hle.1 hlt he, s48_4, ]
  · simp [hlt, hi.done (by omega)]
theorem w_impl_isBag (q : PQuery) (b : List Int) : VC Tryd.prog 26 [.agg ((eQuery q).map V.d), .d (pS cI b)] (fun _ r => r = .d (.bool (bagI q.n b))) := by
  refine VC.ofL EP s26 (by kernel_rfl) Tryd.func26 (by rfl) (by kernel_rfl) (by simp [Tryd.f26]) (by simp [Tryd.f26]) s26_ok fun B hl => ?_
  by_cases h0 : b.length = 0
  · have : b = [] := List.length_eq_zero_iff.1 h0
    subst this
    simp [Tryd.f26, eQuery, bagI]
  have h1 : 0 < b.length := by omega
  simp [Tryd.f26, eQuery, h1]
  refine call_f (w_impl_IsStrictlyAscending b) (by simp) rfl fun hs1 hh1 => ?_
  simp at hh1
  cases h2 : ascB b
  · simp [bagI, h2]
  simp []
  refine call_f (w_impl_isSetOf b q.n) (by simp) rfl fun hs2 hh2 => ?_
  simp [bagI, h1, h2]
theorem w_impl_common (l b : List Int) (hb : l.length ≤ 4294967296) : VC Tryd.prog 59 [.d (pS cI l), .d (pS cI b)] (fun _ r => r = .d (pS cI (commL l b))) := by
  refine VC.ofL EP s59 (by kernel_rfl) Tryd.func59 (by rfl) (by kernel_rfl) (by simp [Tryd.f59]) (by simp [Tryd.f59]) s59_ok fun B hl => ?_
  simp [Tryd.f59, ]
  refine loop_ruleL (X := Nat) (fun i _ => i ≤ l.length) (fun i => [(1, .d (.pl (b.map cI))), (5, .own 20 0 (commL (l.take i) b).length), (8, .d (.pl (l.map cI))), (9, .d (.int .i64 l.length)), (10, .d (.int .i64 i))]) (fun i => [(20, some (.row 3 1 ((commL (l.take i) b).map cI)))]) (fun i => l.length - i) ?_ ?_
  · refine (lead_slot 5 20 3 1 (by omega) (by omega) (by simp)).bind ?_
    rintro _ rfl
    exact Lead.of ⟨0, by omega, rfl, rfl, Nat.le_refl _, by simp [commL], by simp [commL]⟩
  intro i hs t m hi hh
  by_cases hlt : i < l.length
  · have hwi := wr1 (i := i) (by omega)
    have hst := comm_step (b := b) hlt
    have hcl := List.length_filter_le (fun v => b.contains v) (l.take i)
    rw [List.length_take] at hcl
    have hL : LenOk 8 ((commL (l.take i) b).length + 1) := ⟨by simp only [commL]; omega, by simp only [maxLen, commL]; omega⟩
    simp [hlt, ]
    refine call_f (w_impl_hasInt b l[i]) (by simp) rfl fun hs1 hh1 => ?_
    simp at hh1
    by_cases h1 : l[i] ∈ b
    · have e : b.contains l[i] = true := by simpa using h1
      rw [e] at hst
      simp only [if_true] at hst
      simp [h1, hwi, hL, ]
      exact back2 (i + 1) (by omega) (by omega) rfl (by simp <;> omega) (by simp [hst]) (by simp [hst])
    · have e : b.contains l[i] = false := by simpa using h1
      rw [e] at hst
      simp only [Bool.false_eq_true, if_false, List.append_nil] at hst
      simp [h1, hwi, ]
      exact back2 (i + 1) (by omega) (by omega) rfl (by simp <;> omega) (by simp [hst]) (by simp [hst])
  · have hn : i = l.length := by omega
    subst hn
    simp [List.take_of_length_le]
theorem w_impl_AtomVariables (a : PAtom) : VC Tryd.prog 60 [.agg ((eAtom a).map V.d)] (fun _ r => r = .d (pS cI (avars a))) := by
  refine VC.ofL EP s60 (by kernel_rfl) Tryd.func60 (by rfl) (by kernel_rfl) (by simp [Tryd.f60]) (by simp [Tryd.f60]) s60_ok fun B hl => ?_
  simp [Tryd.f60, eAtom]
  refine loop_ruleL (X := Nat) (fun i _ => i ≤ 5) (fun i => [(1, .ptr 1 0 0), (3, .own 15 0 (avTo a i).length), (4, .d (.int .i64 i))]) (fun i => [(1, some (.box [.d (.str a.rel), .d (.pl (a.vars.map cI))])), (15, some (.row 3 1 ((avTo a i).map cI)))]) (fun i => 5 - i) ?_ ?_
  · refine (lead_slot 3 15 3 1 (by omega) (by omega) (by simp)).bind ?_
    rintro _ rfl
    exact Lead.of ⟨0, by omega, rfl, rfl, Nat.le_refl _, by simp [avTo, rangeI_zero], by simp [avTo, rangeI_zero]⟩
  intro i hs t m hi hh
  by_cases hlt : i < 5
  · have hwi := wr1 (i := i) (by omega)
    have hst := avTo_step a i
    have hal := avTo_len a i
    have hL : LenOk 8 ((avTo a i).length + 1) := ⟨by omega, by simp only [maxLen]; omega⟩
    have hlt' : (i : Int) < 5 := by omega
    simp [hlt', ]
    refine call_f (w_impl_ContainsVariable a i) (by simp [eAtom]) rfl fun hs1 hh1 => ?_
    simp at hh1
    by_cases h1 : (i : Int) ∈ a.vars
    · have e : a.vars.contains (i : Int) = true := by simpa using h1
      rw [e] at hst
      simp only [if_true] at hst
      simp [h1, hwi, hL, ]
      exact back2 (i + 1) (by omega) (by omega) rfl (by simp <;> omega) (by simp [hst]) (by simp [hst])
    · have e : a.vars.contains (i : Int) = false := by simpa using h1
      rw [e] at hst
      simp only [Bool.false_eq_true, if_false, List.append_nil] at hst
      simp [h1, hwi, ]
      exact back2 (i + 1) (by omega) (by omega) rfl (by simp <;> omega) (by simp [hst]) (by simp [hst])
  · have hn : i = 5 := by omega
    subst hn
    have : avTo a 5 = avars a := rfl
    simp [this, List.take_of_length_le, ]
theorem w_spec_l30Within (a : PAtom) (b : List Int) : VC Tryd.prog 56 [.agg ((eAtom a).map V.d), .d (pS cI b)] (fun _ r => r = .d (.bool (insD a b))) := by
  refine VC.ofL EP s56 (by kernel_rfl) Tryd.func56 (by rfl) (by kernel_rfl) (by simp [Tryd.f56]) (by simp [Tryd.f56]) s56_ok fun B hl => ?_
  obtain ⟨nm, l⟩ := a
  simp [pS, maxLen, eAtom] at hl
  simp [Tryd.f56, eAtom]
  refine loop_rule (X := Nat) (InTo b ⟨nm, l⟩) (fun i => [(1, .d (.pl (b.map cI))), (2, .ptr 2 0 0), (5, .d (.int .i64 i))]) (fun _ => [(2, some (.box [.d (.str nm), .d (.pl (l.map cI))]))]) (fun i => l.length - i) 0 .zero (by simp) (by simp) ?_
  intro i hs t m hi hh
  have hle : i ≤ l.length := hi.le
  by_cases hlt : i < l.length
  · have hwi := wr1 (i := i) (by omega)
    have hge := idxL_ge b l[i]
    simp [hlt, ]
    refine call_f (w_spec_l7Find b l[i]) (by simp) rfl fun hs1 hh1 => ?_
    simp at hh1
    by_cases h1 : l[i] ∈ b
    · have h8 : ¬ idxL b l[i] < 0 := by have : 0 ≤ idxL b l[i] := by simpa [h1] using hge
                                        omega
      simp [h8, hwi, ]
      exact back (i + 1) (hi.step hlt h1) (by omega) rfl (by simp <;> omega) (by simp) (by simp)
    · have h8 : idxL b l[i] < 0 := by have : ¬ 0 ≤ idxL b l[i] := by simpa [h1] using hge
                                      omega
      have hb : insD ⟨nm, l⟩ b = false := ins_bad (a := ⟨nm, l⟩) hlt h1
      simp [h8, hb]
  · have hd : insD ⟨nm, l⟩ b = true := hi.done (by show l.length ≤ i; omega)
    simp [hlt, hd]
theorem w_spec_l30Bag (q : PQuery) (b : List Int) : VC Tryd.prog 21 [.agg ((eQuery q).map V.d), .d (pS cI b)] (fun _ r => r = .d (.bool (bagS q.n b))) := by
  refine VC.ofL EP s21 (by kernel_rfl) Tryd.func21 (by rfl) (by kernel_rfl) (by simp [Tryd.f21]) (by simp [Tryd.f21]) s21_ok fun B hl => ?_
  simp [pS, maxLen] at hl
  simp [Tryd.f21, s21_4, eQuery]
  refine loop_rule (X := Nat) (BagI q.n b) (fun i => [(1, .d (.pl (b.map cI))), (2, .ptr 2 0 0), (5, .d (.int .i64 i))]) (fun _ => [(2, some (.box [.d (.int .i64 q.n), .d (.pl (q.atoms.map eAtom)), .d (.pl (q.out.map cI))]))]) (fun i => b.length - i) 0 .zero (by simp) (by simp) ?_
  intro i hs t m hi hh
  have hle := hi.le
  by_cases hlt : i < b.length
  · have hwi := wr1 (i := i) (by omega)
    simp [hlt, s21_4, ]
    refine call_f (w_spec_l1In b[i] 0 (IntKind.i64.wrap (q.n - 1))) (by simp) rfl fun hs1 hh1 => ?_
    simp at hh1
    cases h1 : inR b[i] 0 (IntKind.i64.wrap (q.n - 1))
    · have hb : bagS q.n b = false := bagS_bad hlt (by rw [bagAt, getD_el _ hlt, h1, Bool.false_and])
      simp [hb, s21_4, ]
    by_cases h0 : i = 0
    · subst h0
      have hwi0 : IntKind.i64.wrap 1 = 1 := by simpa using hwi
      have hok : bagAt q.n b 0 = true := by rw [bagAt, getD_el _ hlt, h1, Bool.true_and]; simp [ascAt]
      simp [hwi0, s21_4, ]
      exact back 1 (hi.step hlt hok) (by omega) rfl (by simp <;> omega) (by simp) (by simp)
    · have h0' : 0 < i := by omega
      have hw : IntKind.i64.wrap ((i : Int) - 1) = ((i - 1 : Nat) : Int) := by rw [wrap64_of (by omega) (by omega)]; omega
      have hl1 : i - 1 < b.length := by omega
      have hat := ascAt_eq (b := b) (by omega) hlt
      by_cases he : b[i - 1] < b[i]
      · have hok : bagAt q.n b i = true := by rw [bagAt, getD_el _ hlt, h1, Bool.true_and, hat]; simpa using he
        simp [h0', hlt, hw, hl1, show ¬ b[i] ≤ b[i - 1] by omega, hwi, s21_4, ]
        exact back (i + 1) (hi.step hlt hok) (by omega) rfl (by simp <;> omega) (by simp) (by simp)
      · have hb : bagS q.n b = false := bagS_bad hlt (by rw [bagAt, getD_el _ hlt, h1, Bool.true_and, hat]; simpa using he)
        simp [h0', hlt, hw, hl1, show b[i] ≤ b[i - 1] by omega, hb, s21_4, ]
  · have hd := hi.done (by omega)
    simp [hlt, hd]
end

end Go.Proofs.YtpbcmlolapdfjaaDoor


namespace Go.Proofs.YtpbcmlolapdfjaaDoor
open Go.Vs Go.Proofs Go
set_option maxRecDepth 100000
set_option maxHeartbeats 1000000

section
attribute [local simp] plI_id plStr_id map_plI map_plStr pS cP cI cStr cU8 cB
theorem w_impl_isTree (ps : List Int) (hb : ps.length ≤ 4294967296) : VC Tryd.prog 58 [.d (pS cI ps)] (fun _ r => r = .d (.bool (treeB ps))) := by
  refine VC.ofL EP s58 (by kernel_rfl) Tryd.func58 (by rfl) (by kernel_rfl) (by simp [Tryd.f58]) (by simp [Tryd.f58]) s58_ok fun B hl => ?_
  simp [pS, maxLen] at hl
  simp [Tryd.f58, ]
  refine loop_rule (X := Nat) (TreI ps) (fun i => [(0, .d (.pl (ps.map cI))), (3, .d (.int .i64 (rootsTo ps i))), (8, .d (.pl (ps.map cI))), (9, .d (.int .i64 ps.length)), (10, .d (.int .i64 i))]) (fun _ => []) (fun i => ps.length - i) 0 .zero (by simp [rootsTo]) (by simp) ?_
  intro i hs t m hi hh
  have hle := hi.le
  by_cases hlt : i < ps.length
  case neg =>
    have hd := hi.done (by omega)
    simp [hlt, hd]
    omega
  have hwi := wr1 (i := i) (by omega)
  have hw1 : IntKind.i64.wrap ((ps.length : Int) - 1) = ps.length - 1 := wrap64_of (by omega) (by omega)
  have hbad : treeAt ps i = false → treeB ps = false := treeB_bad hlt
  have hri := rootsTo_le ps i
  have hst := rootsTo_step hlt
  have hwr : IntKind.i64.wrap ((rootsTo ps i : Int) + 1) = rootsTo ps i + 1 := wrap64_of (by omega) (by omega)
  simp [hlt, hw1, ]
  refine call_f (w_impl_within ps[i] (-1) (ps.length - 1)) (by simp) rfl fun hs1 hh1 => ?_
  simp at hh1
  cases h1 : inR ps[i] (-1) (ps.length - 1)
  · have hb := hbad (by rw [treeAt, nxP_at hlt, h1, Bool.false_and])
    simp [hb]
  have hend : treeAt ps i = endNeg (upI ps (ps.length + 1) i) := by rw [treeAt, nxP_at hlt, h1, Bool.true_and]
  obtain ⟨R, hR⟩ : ∃ R : Nat, R = rootsTo ps (i + 1) := ⟨_, rfl⟩
  by_cases h2 : ps[i] < 0
  · rw [if_pos h2] at hst
    simp [h2, hwr, ]
    refine loop_rule (X := Nat × Int) (UpT ps i) (fun p => [(0, .d (.pl (ps.map cI))), (3, .d (.int .i64 R)), (6, .d (.int .i64 p.2)), (7, .d (.int .i64 p.1)), (8, .d (.pl (ps.map cI))), (9, .d (.int .i64 ps.length)), (10, .d (.int .i64 i))]) (fun _ => []) (fun p => ps.length + 1 - p.1) (0, (i : Int)) ⟨by simp, by simp only; omega, rfl⟩ (by simp [hR, hst]) (by simp) ?_
    rintro ⟨k, a⟩ hs t m hk hh
    have hkl := hk.le
    have hka := hk.at_
    simp only at hkl hka
    by_cases hc : k ≤ ps.length ∧ 0 ≤ a
    · obtain ⟨hc1, hc2⟩ := hc
      obtain ⟨A, rfl⟩ : ∃ A : Nat, a = (A : Int) := ⟨a.toNat, by omega⟩
      have hA : A < ps.length := by omega
      have hwk := wr1 (i := k) (by omega)
      cases h3 : inR ps[A] (-1) (ps.length - 1)
      · have hb := hbad (hk.bad hc1 hc2 (nxP_at hA) h3)
        simp [hc1, hA, hw1, ]
        refine call_f (VC.to (w_impl_within ps[A] (-1) (ps.length - 1)) (show _ = V.d (.bool false) by rw [h3])) (by simp) rfl fun hs3 hh3 => ?_
        simp [hb]
      · refine anyQ fun Q => ?_
        simp [hc1, hA, hw1, ]
        refine call_f (VC.to (w_impl_within ps[A] (-1) (ps.length - 1)) (show _ = V.d (.bool true) by rw [h3])) (by simp) rfl fun hs3 hh3 => ?_
        simp at hh3
        simp [hwk, ]
        exact back (k + 1, ps[A]) (hk.step hc1 hc2 (nxP_at hA) h3) (by simp only; omega) rfl (by simp <;> omega) (by simp) (by simp)
    have hfin := hk.fin hc
    by_cases ha : a < 0
    · have hok : treeAt ps i = true := by rw [hend, hfin]; simpa using ha
      have ha' : ¬ 0 ≤ a := by omega
      by_cases hk2 : k ≤ ps.length
      · simp [hk2, ha, ha', hwi, ]
        exact back (i + 1) (hi.step hlt hok) (by omega) rfl (by simp <;> omega) (by simp [hR]) (by simp)
      · simp [hk2, ha, ha', hwi, ]
        exact back (i + 1) (hi.step hlt hok) (by omega) rfl (by simp <;> omega) (by simp [hR]) (by simp)
    · have hb := hbad (by rw [hend, hfin]; simpa using ha)
      have hk2 : ¬ k ≤ ps.length := fun h => hc ⟨h, by omega⟩
      simp [hk2, show 0 ≤ a by omega, hb, ]
  · rw [if_neg h2] at hst
    simp [h2, ]
    refine loop_rule (X := Nat × Int) (UpT ps i) (fun p => [(0, .d (.pl (ps.map cI))), (3, .d (.int .i64 R)), (6, .d (.int .i64 p.2)), (7, .d (.int .i64 p.1)), (8, .d (.pl (ps.map cI))), (9, .d (.int .i64 ps.length)), (10, .d (.int .i64 i))]) (fun _ => []) (fun p => ps.length + 1 - p.1) (0, (i : Int)) ⟨by simp, by simp only; omega, rfl⟩ (by simp [hR, hst]) (by simp) ?_
    rintro ⟨k, a⟩ hs t m hk hh
    have hkl := hk.le
    have hka := hk.at_
    simp only at hkl hka
    by_cases hc : k ≤ ps.length ∧ 0 ≤ a
    · obtain ⟨hc1, hc2⟩ := hc
      obtain ⟨A, rfl⟩ : ∃ A : Nat, a = (A : Int) := ⟨a.toNat, by omega⟩
      have hA : A < ps.length := by omega
      have hwk := wr1 (i := k) (by omega)
      cases h3 : inR ps[A] (-1) (ps.length - 1)
      · have hb := hbad (hk.bad hc1 hc2 (nxP_at hA) h3)
        simp [hc1, hA, hw1, ]
        refine call_f (VC.to (w_impl_within ps[A] (-1) (ps.length - 1)) (show _ = V.d (.bool false) by rw [h3])) (by simp) rfl fun hs3 hh3 => ?_
        simp [hb]
      · refine anyQ fun Q => ?_
        simp [hc1, hA, hw1, ]
        refine call_f (VC.to (w_impl_within ps[A] (-1) (ps.length - 1)) (show _ = V.d (.bool true) by rw [h3])) (by simp) rfl fun hs3 hh3 => ?_
        simp at hh3
        simp [hwk, ]
        exact back (k + 1, ps[A]) (hk.step hc1 hc2 (nxP_at hA) h3) (by simp only; omega) rfl (by simp <;> omega) (by simp) (by simp)
    have hfin := hk.fin hc
    by_cases ha : a < 0
    · have hok : treeAt ps i = true := by rw [hend, hfin]; simpa using ha
      have ha' : ¬ 0 ≤ a := by omega
      by_cases hk2 : k ≤ ps.length
      · simp [hk2, ha, ha', hwi, ]
        exact back (i + 1) (hi.step hlt hok) (by omega) rfl (by simp <;> omega) (by simp [hR]) (by simp)
      · simp [hk2, ha, ha', hwi, ]
        exact back (i + 1) (hi.step hlt hok) (by omega) rfl (by simp <;> omega) (by simp [hR]) (by simp)
    · have hb := hbad (by rw [hend, hfin]; simpa using ha)
      have hk2 : ¬ k ≤ ps.length := fun h => hc ⟨h, by omega⟩
      simp [hk2, show 0 ≤ a by omega, hb, ]
theorem w_spec_JoinTreeRoot (ps : List Int) : VC Tryd.prog 54 [.agg [.d (pS cI ps)]] (fun _ r => r = .d (.int .i64 (rootS ps))) := by
  refine VC.ofL EP s54 (by kernel_rfl) Tryd.func54 (by rfl) (by kernel_rfl) (by simp [Tryd.f54]) (by simp [Tryd.f54]) s54_ok fun B hl => ?_
  simp [pS, maxLen] at hl
  simp [Tryd.f54, ]
  refine loop_rule (X := Nat × Int) (RootI ps) (fun p => [(1, .ptr 1 0 0), (3, .d (.int .i64 p.2)), (4, .d (.int .i64 p.1))]) (fun _ => [(1, some (.box [.d (.pl (ps.map cI))]))]) (fun p => ps.length - p.1) (0, -1) .zero (by simp) (by simp) ?_
  rintro ⟨i, o⟩ hs t m hI hh
  have hle := hI.le
  simp only at hle
  by_cases hlt : i < ps.length
  · have hwi := wr1 (i := i) (by omega)
    by_cases h1 : ps[i] = -1
    · by_cases h2 : 0 ≤ o
      · simp [hlt, h1, h2, hI.two h2 hlt h1, ]
      · simp [hlt, h1, h2, hwi, ]
        exact back (i + 1, (i : Int)) (hI.put (by omega) hlt h1) (by simp only; omega) rfl (by simp <;> omega) (by simp) (by simp)
    · simp [hlt, h1, hwi, ]
      exact back (i + 1, o) (hI.skip hlt h1) (by simp only; omega) rfl (by simp <;> omega) (by simp) (by simp)
  · simp [hlt, hI.done (by omega)]
theorem w_spec_l10Path (ps : List Int) (k0 : Int) (hb : ps.length ≤ 4294967296) : VC Tryd.prog 55 [.agg [.d (pS cI ps)], .d (.int .i64 k0)] (fun _ r => r = .d (pS cI (pathS ps (ps.length + 1) k0))) := by
  refine VC.ofL EP s55 (by kernel_rfl) Tryd.func55 (by rfl) (by kernel_rfl) (by simp [Tryd.f55]) (by simp [Tryd.f55]) s55_ok fun B hl => ?_
  have hw1 : IntKind.i64.wrap ((ps.length : Int) - 1) = ps.length - 1 := wrap64_of (by omega) (by omega)
  simp [Tryd.f55, ]
  refine loop_rule (X := Int × List Int) (PathI ps k0) (fun p => [(1, .d (.int .i64 p.1)), (2, .ptr 2 0 0), (5, .own 6 0 p.2.length)]) (fun p => [(2, some (.box [.d (.pl (ps.map cI))])), (6, some (.row 3 1 (p.2.map cI)))]) (fun p => ps.length + 1 - p.2.length) (k0, []) .zero (by simp) (by simp) ?_
  rintro ⟨k, o⟩ hs t m hI hh
  have hle := hI.le
  simp only at hle
  simp [hw1, ]
  refine call_f (w_spec_l1In k 0 (ps.length - 1)) (by simp) rfl fun hs3 hh3 => ?_
  simp at hh3
  cases h1 : inR k 0 (ps.length - 1)
  · have hd := hI.done (by simp [h1])
    simp [hd, List.take_of_length_le, ]
  by_cases h2 : o.length ≤ ps.length
  · have h1' := h1
    simp only [inR, Bool.and_eq_true, decide_eq_true_eq] at h1'
    have hst := hI.step h1 h2
    obtain ⟨K, rfl⟩ : ∃ K : Nat, k = (K : Int) := ⟨k.toNat, by omega⟩
    have hK : K < ps.length := by omega
    rw [nxP_at hK] at hst
    have hL : LenOk 8 (o.length + 1) := ⟨by omega, by simp only [maxLen]; omega⟩
    simp [h2, hK, hL, ]
    exact back (ps[K], o ++ [(K : Int)]) hst (by simp; omega) rfl (by simp <;> omega) (by simp) (by simp)
  · have hd := hI.done (by simp [h2])
    simp [h2, hd, List.take_of_length_le, ]
theorem w_impl_topsOf (bags : List (List Int)) (ps : List Int) (v : Int) (hl2 : bags.length = ps.length) (hp : ∀ i (h : i < ps.length), -1 ≤ ps[i] ∧ ps[i] < ps.length) : VC Tryd.prog 61 [.d (pS (cP cI) bags), .d (pS cI ps), .d (.int .i64 v)] (fun _ r => r = .d (.int .i64 (topN bags ps v bags.length))) := by
  refine VC.ofL EP s61 (by kernel_rfl) Tryd.func61 (by rfl) (by kernel_rfl) (by simp [Tryd.f61]) (by simp [Tryd.f61]) s61_ok fun B hl => ?_
  simp [pS, maxLen] at hl
  simp [Tryd.f61, ]
  refine loop_rule (X := Nat) (fun i => i ≤ bags.length) (fun i => [(0, .d (.pl (bags.map (cP cI)))), (1, .d (.pl (ps.map cI))), (2, .d (.int .i64 v)), (7, .d (.int .i64 (topN bags ps v i))), (10, .d (.pl (bags.map (cP cI)))), (11, .d (.int .i64 bags.length)), (12, .d (.int .i64 i))]) (fun _ => []) (fun i => bags.length - i) 0 (by simp) (by simp [topN]) (by simp) ?_
  intro i hs t m hi hh
  by_cases hlt : i < bags.length
  · have hwi := wr1 (i := i) (by omega)
    have hlp : i < ps.length := by omega
    have hst := topN_step bags ps v i
    have htl := topN_le bags ps v i
    have hwt : IntKind.i64.wrap ((topN bags ps v i : Int) + 1) = topN bags ps v i + 1 := wrap64_of (by omega) (by omega)
    have hpi := hp i hlp
    simp [hlt, ]
    refine call_f (w_impl_hasInt bags[i] v) (by simp) rfl fun hs3 hh3 => ?_
    simp at hh3
    by_cases h1 : v ∈ bags[i]
    case neg =>
      have e : topIs bags ps v i = false := by rw [topIs, getD_el _ hlt]; simp [h1]
      rw [e] at hst
      simp only [Bool.false_eq_true, if_false, Nat.add_zero] at hst
      simp [h1, hwi, ]
      exact back (i + 1) (by omega) (by omega) rfl (by simp <;> omega) (by simp [hst]) (by simp)
    by_cases h2 : ps[i] < 0
    · have e : topIs bags ps v i = true := by rw [topIs, getD_el _ hlt, getD_el _ hlp]; simp [h1, h2]
      rw [e] at hst
      simp only [if_true] at hst
      simp [h1, h2, hlp, hwi, hwt, ]
      exact back (i + 1) (by omega) (by omega) rfl (by simp <;> omega) (by simp [hst]) (by simp)
    obtain ⟨A, hA⟩ : ∃ A : Nat, ps[i] = (A : Int) := ⟨ps[i].toNat, by omega⟩
    have hAl : A < bags.length := by omega
    have h2' : ¬ (A : Int) < 0 := by omega
    simp [h1, hA, hAl, hlp, ]
    refine call_f (w_impl_hasInt bags[A] v) (by simp) rfl fun hs4 hh4 => ?_
    simp at hh4
    by_cases h3 : v ∈ bags[A]
    · have e : topIs bags ps v i = false := by rw [topIs, getD_el _ hlt, getD_el _ hlp, hA, Int.toNat_natCast, getD_el _ hAl]; simp [h1, h3]
      rw [e] at hst
      simp only [Bool.false_eq_true, if_false, Nat.add_zero] at hst
      simp [h3, h2', hwi, ]
      exact back (i + 1) (by omega) (by omega) rfl (by simp <;> omega) (by simp [hst]) (by simp)
    · have e : topIs bags ps v i = true := by rw [topIs, getD_el _ hlt, getD_el _ hlp, hA, Int.toNat_natCast, getD_el _ hAl]; simp [h1, h3]
      rw [e] at hst
      simp only [if_true] at hst
      simp [h3, h2', hwi, hwt, ]
      exact back (i + 1) (by omega) (by omega) rfl (by simp <;> omega) (by simp [hst]) (by simp)
  · have hn : i = bags.length := by omega
    subst hn
    simp
end

end Go.Proofs.YtpbcmlolapdfjaaDoor


namespace Go.Proofs.YtpbcmlolapdfjaaDoor
open Go.Vs Go.Proofs Go
set_option maxRecDepth 100000
set_option maxHeartbeats 1000000

section
attribute [local simp] plI_id plStr_id map_plI map_plStr pS cP cI cStr cU8 cB
theorem w_impl_IsValidDecomposition (q : PQuery) (d : PDec) (hb : d.par.length ≤ 4294967296) : VC Tryd.prog 34 [.agg ((eQuery q).map V.d), .agg ((eDec d).map V.d)] (fun _ r => r = .d (.bool (decOk q d))) := by
  refine VC.ofL EP s34 (by kernel_rfl) Tryd.func34 (by rfl) (by kernel_rfl) (by simp [Tryd.f34]) (by simp [Tryd.f34]) s34_ok fun B hl => ?_
  obtain ⟨bags, ps⟩ := d
  simp only at hb
  simp [Tryd.f34, s34_17, s34_17, eQuery, eDec]
  refine call_f (w_impl_IsValidQuery q) (by simp [eQuery]) rfl fun hs1 hh1 => ?_
  simp at hh1
  cases h1 : queryOk q
  · simp [decOk_q (d := ⟨bags, ps⟩) h1]
  have hn := queryOk_n5 h1
  by_cases h2 : bags.length = ps.length
  case neg => simp [h2, decOk_l (q := q) (d := ⟨bags, ps⟩) h2, s34_17, ]
  simp [h2, s34_17, ]
  refine call_f (w_impl_isTree ps hb) (by simp) rfl fun hs2 hh2 => ?_
  simp at hh2
  cases h3 : treeB ps
  · simp [decOk_t (q := q) (d := ⟨bags, ps⟩) h3]
  have hpar := tree_par h3
  simp [h2, s34_17, ]
  refine loop_rule (X := Nat) (ToI (bagI q.n) bags) (fun i => [(2, .ptr 2 0 0), (5, .ptr 5 0 0), (34, .d (.pl (bags.map (cP cI)))), (35, .d (.int .i64 ps.length)), (36, .d (.int .i64 i))])
    (fun _ => [(2, some (.box [.d (.int .i64 q.n), .d (.pl (q.atoms.map eAtom)), .d (.pl (q.out.map cI))])), (5, some (.box [.d (.pl (bags.map (cP cI))), .d (.pl (ps.map cI))]))]) (fun i => bags.length - i) 0 .zero (by simp [eAtom]) (by simp) ?_
  intro i hs t m hi hh
  have hle := hi.le
  by_cases hlt : i < bags.length
  · have hltp : i < ps.length := by omega
    have hwi := wr1 (i := i) (by omega)
    simp [hlt, hltp, s34_17, ]
    refine call_f (w_impl_isBag q bags[i]) (by simp [eQuery]) rfl fun hs3 hh3 => ?_
    simp at hh3
    cases h4 : bagI q.n bags[i]
    · simp [decOk_b (q := q) (d := ⟨bags, ps⟩) hlt h4]
    simp [hwi, s34_17, ]
    exact back (i + 1) (hi.step hlt h4) (by omega) rfl (by simp <;> omega) (by simp) (by simp)
  have hbags := hi.done (by omega)
  have hlp : ¬ i < ps.length := by omega
  simp [hlt, hlp, s34_17, ]
  refine loop_rule (X := Nat) (ToI (anyIn bags) q.atoms) (fun i => [(2, .ptr 2 0 0), (5, .ptr 5 0 0), (46, .d (.pl (q.atoms.map eAtom))), (47, .d (.int .i64 q.atoms.length)), (48, .d (.int .i64 i))])
    (fun _ => [(2, some (.box [.d (.int .i64 q.n), .d (.pl (q.atoms.map eAtom)), .d (.pl (q.out.map cI))])), (5, some (.box [.d (.pl (bags.map (cP cI))), .d (.pl (ps.map cI))]))]) (fun i => q.atoms.length - i) 0 .zero (by simp) (by simp) ?_
  intro i hs t m hi hh
  have hle := hi.le
  have hat4 : q.atoms.length ≤ 4 := by
    cases h2 : inR (q.atoms.length : Int) 1 4
    · rw [queryOk_a h2] at h1; cases h1
    · simp only [inR, Bool.and_eq_true, decide_eq_true_eq] at h2; omega
  by_cases hlt : i < q.atoms.length
  · have hwi := wr1 (i := i) (by omega)
    obtain ⟨nm, vs, hT⟩ : ∃ nm vs, q.atoms[i] = ⟨nm, vs⟩ := ⟨_, _, rfl⟩
    have hav : (avars ⟨nm, vs⟩).length ≤ 5 := avTo_len ⟨nm, vs⟩ 5
    have hall : anyTo (inAB ⟨nm, vs⟩) bags bags.length = anyIn bags q.atoms[i] := by rw [anyTo_all (Nat.le_refl _), hT]; rfl
    simp [hlt, hT, eAtom, s34_17, ]
    refine loop_rule (X := Nat) (fun j => j ≤ bags.length) (fun j => [(2, .ptr 2 0 0), (5, .ptr 5 0 0), (9, .ptr 9 0 0), (10, .d (.bool (anyTo (inAB ⟨nm, vs⟩) bags j))), (46, .d (.pl (q.atoms.map eAtom))), (47, .d (.int .i64 q.atoms.length)), (48, .d (.int .i64 i)), (53, .d (.pl (bags.map (cP cI)))), (54, .d (.int .i64 bags.length)), (55, .d (.int .i64 j))])
      (fun _ => [(2, some (.box [.d (.int .i64 q.n), .d (.pl (q.atoms.map eAtom)), .d (.pl (q.out.map cI))])), (5, some (.box [.d (.pl (bags.map (cP cI))), .d (.pl (ps.map cI))])), (9, some (.box [.d (.str nm), .d (.pl (vs.map cI))]))]) (fun j => bags.length - j) 0 (by simp) (by simp [anyTo_zero]) (by simp) ?_
    intro j hs t m hj hh
    by_cases hjt : j < bags.length
    · have hwj := wr1 (i := j) (by omega)
      have hst := anyTo_step (f := inAB ⟨nm, vs⟩) hjt
      refine anyQ fun Q => ?_
      cases h6 : anyTo (inAB ⟨nm, vs⟩) bags j
      · rw [h6, Bool.false_or] at hst
        simp [hjt, s34_17, ]
        refine call_p (w_impl_AtomVariables ⟨nm, vs⟩) (by simp [eAtom]) fun hs5 hh5 hl5 => ?_
        simp at hh5
        simp [s34_17, ]
        refine call_p (w_impl_common (avars ⟨nm, vs⟩) bags[j] (by omega)) (by simp) fun hs6 hh6 hl6 => ?_
        simp at hh6
        simp [s34_17, ]
        refine call_p (w_impl_AtomVariables ⟨nm, vs⟩) (by simp [eAtom]) fun hs7 hh7 hl7 => ?_
        simp at hh7
        by_cases h7 : (commL (avars ⟨nm, vs⟩) bags[j]).length = (avars ⟨nm, vs⟩).length
        · have e : inAB ⟨nm, vs⟩ bags[j] = true := by rw [inAB, decide_eq_true h7]
          rw [e] at hst
          simp [h7, hwj, s34_17, ]
          exact back (j + 1) (by omega) (by omega) rfl (by simp <;> omega) (by simp [hst]) (by simp)
        · have e : inAB ⟨nm, vs⟩ bags[j] = false := by rw [inAB, decide_eq_false h7]
          rw [e] at hst
          simp [h7, hwj, s34_17, ]
          exact back (j + 1) (by omega) (by omega) rfl (by simp <;> omega) (by simp [hst]) (by simp)
      · rw [h6, Bool.true_or] at hst
        simp [hjt, hwj, s34_17, ]
        exact back (j + 1) (by omega) (by omega) rfl (by simp <;> omega) (by simp [hst]) (by simp)
    · have hjn : j = bags.length := by omega
      subst hjn
      cases h7 : anyIn bags q.atoms[i]
      · rw [h7] at hall
        simp [hall, decOk_a (q := q) (d := ⟨bags, ps⟩) hlt h7, s34_17, ]
      · rw [h7] at hall
        simp [hall, hwi, s34_17, ]
        exact back (i + 1) (hi.step hlt h7) (by omega) rfl (by simp <;> omega) (by simp) (by simp)
  have hats := hi.done (by omega)
  simp [hlt, s34_17, ]
  refine loop_rule (X := Nat) (VarI ⟨bags, ps⟩ q.n.toNat) (fun v => [(2, .ptr 2 0 0), (5, .ptr 5 0 0), (13, .d (.int .i64 v))]) (fun _ => [(2, some (.box [.d (.int .i64 q.n), .d (.pl (q.atoms.map eAtom)), .d (.pl (q.out.map cI))])), (5, some (.box [.d (.pl (bags.map (cP cI))), .d (.pl (ps.map cI))]))]) (fun v => q.n.toNat - v) 0 .zero (by simp) (by simp) ?_
  intro v hs t m hv hh
  have hvn := hv.le
  by_cases hvt : v < q.n.toNat
  · have hwv := wr1 (i := v) (by omega)
    have hvt' : (v : Int) < q.n := by omega
    simp [hvt', s34_17, ]
    refine call_f (w_impl_topsOf bags ps v h2 hpar) (by simp) rfl fun hs5 hh5 => ?_
    simp at hh5
    by_cases h7 : topN bags ps (v : Int) bags.length = 1
    · simp [h7, hwv, s34_17, ]
      exact back (v + 1) (hv.step hvt h7) (by omega) rfl (by simp <;> omega) (by simp) (by simp)
    · have h7' : ¬ (topN bags ps (v : Int) bags.length : Int) = 1 := by omega
      simp [h7', h7, decOk_v (q := q) (d := ⟨bags, ps⟩) hvt h7, s34_17, ]
  · have hvs := hv.done (by omega)
    have hvt' : ¬ (v : Int) < q.n := by omega
    simp [hvt', decOk_all (q := q) (d := ⟨bags, ps⟩) h1 h2 h3 hbags hats hvs, s34_17, ]
theorem w_spec_IsValidDecomposition (q : PQuery) (d : PDec) (hst : ∀ a ∈ q.atoms, a.rel.length ≤ maxLen) (hb : d.par.length ≤ 4294967296) : VC Tryd.prog 31 [.agg ((eQuery q).map V.d), .agg ((eDec d).map V.d)] (fun _ r => r = .d (.bool (decOk q d))) := by
  refine VC.ofL EP s31 (by kernel_rfl) Tryd.func31 (by rfl) (by kernel_rfl) (by simp [Tryd.f31]) (by simp [Tryd.f31]) s31_ok fun B hl => ?_
  obtain ⟨bags, ps⟩ := d
  simp only at hb
  simp [Tryd.f31, s31_8, s31_17, s31_27, s31_8, s31_17, s31_27, eQuery, eDec]
  refine call_f (w_spec_IsValidQuery q hst) (by simp [eQuery]) rfl fun hs1 hh1 => ?_
  simp at hh1
  cases h1 : queryOk q
  · simp [decOk_q (d := ⟨bags, ps⟩) h1, s31_8, s31_17, s31_27, ]
  have hn := queryOk_n5 h1
  by_cases h2 : bags.length = ps.length
  case neg => simp [show ¬ ps.length = bags.length from fun h => h2 h.symm, decOk_l (q := q) (d := ⟨bags, ps⟩) h2, s31_8, s31_17, s31_27, ]
  have h2' : ps.length = bags.length := h2.symm
  simp [h2', s31_8, s31_17, s31_27, ]
  refine call_f (w_spec_JoinTreeRoot ps) (by simp) rfl fun hs2 hh2 => ?_
  simp at hh2
  by_cases h3 : rootS ps < 0
  · simp [h3, decOk_r (q := q) (d := ⟨bags, ps⟩) h3, s31_8, s31_17, s31_27, ]
  simp [h3, s31_8, s31_17, s31_27, ]
  refine loop_rule (X := Nat) (PlI q ⟨bags, ps⟩) (fun i => [(2, .ptr 2 0 0), (3, .ptr 3 0 0), (5, .ptr 5 0 0), (6, .d (.int .i64 i))]) (fun _ => [(2, some (.box [.d (.int .i64 q.n), .d (.pl (q.atoms.map eAtom)), .d (.pl (q.out.map cI))])), (3, some (.box [.d (.pl (bags.map (cP cI))), .d (.pl (ps.map cI))])), (5, some (.box [.d (.pl (ps.map cI))]))]) (fun i => bags.length - i) 0 .zero (by simp) (by simp) ?_
  intro i hs t m hi hh
  have hle : i ≤ bags.length := hi.le
  by_cases hlt : i < bags.length
  · have hltp : i < ps.length := by omega
    have hwi := wr1 (i := i) (by omega)
    have hbad : placeOk q ⟨bags, ps⟩ i = false → decOk q ⟨bags, ps⟩ = false := decOk_p (d := ⟨bags, ps⟩) h2 hlt
    have hpo : placeOk q ⟨bags, ps⟩ i = (bagS q.n bags[i] && pathOk ps i) := by rw [placeOk]; simp only; rw [getD_el _ hlt]
    obtain ⟨P, hP⟩ : ∃ P, P = pathS ps (ps.length + 1) i := ⟨_, rfl⟩
    have hPl : 0 < P.length := by rw [hP]; exact path_ne hltp
    have hPo : pathOk ps i = (decide (P.length ≤ ps.length) && decide (lastZ P = rootS ps)) := by rw [pathOk, ← hP]
    have hPle : P.length ≤ ps.length + 1 := by
      have hx : ∀ (m : Nat) (k : Int), (pathS ps m k).length ≤ m := fun m => by
        induction m with
        | zero => intro k; simp [pathS]
        | succ m ih =>
          intro k
          by_cases hc : inR k 0 (ps.length - 1) = true
          · rw [path_yes hc]; have := ih (nxP ps k); simp; omega
          · rw [path_out hc]; simp
      rw [hP]; exact hx _ _
    simp [hlt, s31_8, s31_17, s31_27, ]
    refine call_p (w_spec_l10Path ps i hb) (by simp) fun hs3 hh3 hl3 => ?_
    simp at hh3
    rw [← hP]
    simp [hlt, s31_8, s31_17, s31_27, ]
    refine call_f (w_spec_l30Bag q bags[i]) (by simp [eQuery]) rfl fun hs4 hh4 => ?_
    simp at hh4
    cases h4 : bagS q.n bags[i]
    · simp [hbad (by rw [hpo, h4, Bool.false_and]), s31_8, s31_17, s31_27, ]
    by_cases h5 : ps.length < P.length
    · have h5' : ¬ P.length ≤ ps.length := by omega
      simp [h5, ← h2', hbad (by rw [hpo, hPo, decide_eq_false h5']; simp), s31_8, s31_17, s31_27, ]
    have h5' : P.length ≤ ps.length := by omega
    have hwl : IntKind.i64.wrap ((P.length : Int) - 1) = ((P.length - 1 : Nat) : Int) := by rw [wrap64_of (by omega) (by omega)]; omega
    have hll : P.length - 1 < P.length := by omega
    have hla : lastZ P = P[P.length - 1] := by rw [lastZ, getD_el _ hll]
    simp [h5, ← h2', hwl, hll, s31_8, s31_17, s31_27, ]
    refine call_f (w_spec_JoinTreeRoot ps) (by simp) rfl fun hs5 hh5 => ?_
    simp at hh5
    by_cases h6 : P[P.length - 1] = rootS ps
    · have hok : placeOk q ⟨bags, ps⟩ i = true := by rw [hpo, hPo, h4, decide_eq_true h5', hla, decide_eq_true h6]; rfl
      simp [h6, hwi, s31_8, s31_17, s31_27, ]
      exact back (i + 1) (hi.step hlt hok) (by omega) rfl (by simp <;> omega) (by simp) (by simp)
    · simp [h6, hbad (by rw [hpo, hPo, hla, decide_eq_false h6]; simp), s31_8, s31_17, s31_27, ]
  obtain ⟨h3t, hbags⟩ := places (q := q) (d := ⟨bags, ps⟩) h2 (by show 0 ≤ rootS ps; omega) (hi.done (by show bags.length ≤ i; omega))
  simp only at h3t hbags
  have hpar := tree_par h3t
  simp [hlt, s31_8, s31_17, s31_27, ]
  refine loop_rule (X := Nat) (ToI (anyIn bags) q.atoms) (fun i => [(2, .ptr 2 0 0), (3, .ptr 3 0 0), (5, .ptr 5 0 0), (8, .d (.int .i64 i))]) (fun _ => [(2, some (.box [.d (.int .i64 q.n), .d (.pl (q.atoms.map eAtom)), .d (.pl (q.out.map cI))])), (3, some (.box [.d (.pl (bags.map (cP cI))), .d (.pl (ps.map cI))])), (5, some (.box [.d (.pl (ps.map cI))]))]) (fun i => q.atoms.length - i) 0 .zero (by simp) (by simp) ?_
  intro i hs t m hi hh
  have hle := hi.le
  have hat4 : q.atoms.length ≤ 4 := by
    cases h2 : inR (q.atoms.length : Int) 1 4
    · rw [queryOk_a h2] at h1; cases h1
    · simp only [inR, Bool.and_eq_true, decide_eq_true_eq] at h2; omega
  by_cases hlt : i < q.atoms.length
  · have hwi := wr1 (i := i) (by omega)
    obtain ⟨nm, vs, hT⟩ : ∃ nm vs, q.atoms[i] = ⟨nm, vs⟩ := ⟨_, _, rfl⟩
    have hall : anyTo (insD ⟨nm, vs⟩) bags bags.length = anyIn bags q.atoms[i] := by
      rw [anyTo_all (Nat.le_refl _), ← any_ins h1 (List.getElem_mem hlt), hT]
    simp [hlt, s31_8, s31_17, s31_27, ]
    refine loop_rule (X := Nat) (fun j => j ≤ bags.length) (fun j => [(2, .ptr 2 0 0), (3, .ptr 3 0 0), (5, .ptr 5 0 0), (8, .d (.int .i64 i)), (9, .d (.bool (anyTo (insD ⟨nm, vs⟩) bags j))), (10, .d (.int .i64 j))]) (fun _ => [(2, some (.box [.d (.int .i64 q.n), .d (.pl (q.atoms.map eAtom)), .d (.pl (q.out.map cI))])), (3, some (.box [.d (.pl (bags.map (cP cI))), .d (.pl (ps.map cI))])), (5, some (.box [.d (.pl (ps.map cI))]))]) (fun j => bags.length - j) 0 (by simp) (by simp [anyTo_zero]) (by simp) ?_
    intro j hs t m hj hh
    by_cases hjt : j < bags.length
    · have hwj := wr1 (i := j) (by omega)
      have hst := anyTo_step (f := insD ⟨nm, vs⟩) hjt
      refine anyQ fun Q => ?_
      cases h6 : anyTo (insD ⟨nm, vs⟩) bags j
      · rw [h6, Bool.false_or] at hst
        simp [hjt, hlt, hT, eAtom, s31_8, s31_17, s31_27, ]
        refine call_f (w_spec_l30Within ⟨nm, vs⟩ bags[j]) (by simp [eAtom]) rfl fun hs5 hh5 => ?_
        simp at hh5
        simp [hwj, s31_8, s31_17, s31_27, ]
        exact back (j + 1) (by omega) (by omega) rfl (by simp <;> omega) (by simp [hst]) (by simp)
      · rw [h6, Bool.true_or] at hst
        simp [hjt, hwj, s31_8, s31_17, s31_27, ]
        exact back (j + 1) (by omega) (by omega) rfl (by simp <;> omega) (by simp [hst]) (by simp)
    · have hjn : j = bags.length := by omega
      subst hjn
      cases h7 : anyIn bags q.atoms[i]
      · rw [h7] at hall
        simp [hall, decOk_a (q := q) (d := ⟨bags, ps⟩) hlt h7, s31_8, s31_17, s31_27, ]
      · rw [h7] at hall
        simp [hall, hwi, s31_8, s31_17, s31_27, ]
        exact back (i + 1) (hi.step hlt h7) (by omega) rfl (by simp <;> omega) (by simp) (by simp)
  have hats := hi.done (by omega)
  simp [hlt, s31_8, s31_17, s31_27, ]
  refine loop_rule (X := Nat) (VarI ⟨bags, ps⟩ q.n.toNat) (fun v => [(2, .ptr 2 0 0), (3, .ptr 3 0 0), (5, .ptr 5 0 0), (11, .d (.int .i64 v))]) (fun _ => [(2, some (.box [.d (.int .i64 q.n), .d (.pl (q.atoms.map eAtom)), .d (.pl (q.out.map cI))])), (3, some (.box [.d (.pl (bags.map (cP cI))), .d (.pl (ps.map cI))])), (5, some (.box [.d (.pl (ps.map cI))]))]) (fun v => q.n.toNat - v) 0 .zero (by simp) (by simp) ?_
  intro v hs t m hv hh
  have hvn := hv.le
  by_cases hvt : v < q.n.toNat
  case neg =>
    have hvs := hv.done (by omega)
    have hvt' : ¬ (v : Int) < q.n := by omega
    simp [hvt', decOk_all (q := q) (d := ⟨bags, ps⟩) h1 h2 h3t hbags hats hvs, s31_8, s31_17, s31_27, ]
  have hwv := wr1 (i := v) (by omega)
  have hvt' : (v : Int) < q.n := by omega
  simp [hvt', s31_8, s31_17, s31_27, ]
  refine loop_rule (X := Nat) (fun j => j ≤ bags.length) (fun j => [(2, .ptr 2 0 0), (3, .ptr 3 0 0), (5, .ptr 5 0 0), (11, .d (.int .i64 v)), (12, .d (.int .i64 (topN bags ps v j))), (13, .d (.int .i64 j))]) (fun _ => [(2, some (.box [.d (.int .i64 q.n), .d (.pl (q.atoms.map eAtom)), .d (.pl (q.out.map cI))])), (3, some (.box [.d (.pl (bags.map (cP cI))), .d (.pl (ps.map cI))])), (5, some (.box [.d (.pl (ps.map cI))]))]) (fun j => bags.length - j) 0 (by simp) (by simp [topN]) (by simp) ?_
  intro j hs t m hj hh
  by_cases hjt : j < bags.length
  · have hwj := wr1 (i := j) (by omega)
    have hlp : j < ps.length := by omega
    have hst := topN_step bags ps v j
    have htl := topN_le bags ps v j
    have hwt : IntKind.i64.wrap ((topN bags ps v j : Int) + 1) = topN bags ps v j + 1 := wrap64_of (by omega) (by omega)
    have hpi := hpar j hlp
    have hg1 := idxL_ge bags[j] (v : Int)
    refine anyQ fun Q => ?_
    simp [hjt, s31_8, s31_17, s31_27, ]
    refine call_f (w_spec_l7Find bags[j] v) (by simp) rfl fun hs3 hh3 => ?_
    simp at hh3
    by_cases g1 : (v : Int) ∈ bags[j]
    case neg =>
      have e : topIs bags ps v j = false := by rw [topIs, getD_el _ hjt]; simp [g1]
      rw [e] at hst
      simp only [Bool.false_eq_true, if_false, Nat.add_zero] at hst
      have g2 : ¬ 0 ≤ idxL bags[j] (v : Int) := by simpa [g1] using hg1
      simp [g2, hwj, s31_8, s31_17, s31_27, ]
      exact back (j + 1) (by omega) (by omega) rfl (by simp <;> omega) (by simp [hst]) (by simp)
    have g2 : 0 ≤ idxL bags[j] (v : Int) := by simpa [g1] using hg1
    by_cases g3 : ps[j] = -1
    · have e : topIs bags ps v j = true := by rw [topIs, getD_el _ hjt, getD_el _ hlp]; simp [g1, g3]
      rw [e] at hst
      simp only [if_true] at hst
      simp [g2, g3, hlp, hwj, hwt, s31_8, s31_17, s31_27, ]
      exact back (j + 1) (by omega) (by omega) rfl (by simp <;> omega) (by simp [hst]) (by simp)
    obtain ⟨A, hA⟩ : ∃ A : Nat, ps[j] = (A : Int) := ⟨ps[j].toNat, by omega⟩
    have hAl : A < bags.length := by omega
    have hA1 : ¬ (A : Int) = -1 := by omega
    have hA2 : ¬ (A : Int) < 0 := by omega
    have hg4 := idxL_ge bags[A] (v : Int)
    simp [g2, hA, hA1, hAl, hlp, hjt, s31_8, s31_17, s31_27, ]
    refine call_f (w_spec_l7Find bags[A] v) (by simp) rfl fun hs4 hh4 => ?_
    simp at hh4
    by_cases g4 : (v : Int) ∈ bags[A]
    · have e : topIs bags ps v j = false := by rw [topIs, getD_el _ hjt, getD_el _ hlp, hA, Int.toNat_natCast, getD_el _ hAl]; simp [g1, g4]
      rw [e] at hst
      simp only [Bool.false_eq_true, if_false, Nat.add_zero] at hst
      have g5 : ¬ idxL bags[A] (v : Int) < 0 := by have : 0 ≤ idxL bags[A] (v : Int) := by simpa [g4] using hg4
                                                   omega
      simp [g5, hA1, hwj, s31_8, s31_17, s31_27, ]
      exact back (j + 1) (by omega) (by omega) rfl (by simp <;> omega) (by simp [hst]) (by simp)
    · have e : topIs bags ps v j = true := by rw [topIs, getD_el _ hjt, getD_el _ hlp, hA, Int.toNat_natCast, getD_el _ hAl]; simp [g1, g4]
      rw [e] at hst
      simp only [if_true] at hst
      have g5 : idxL bags[A] (v : Int) < 0 := by have : ¬ 0 ≤ idxL bags[A] (v : Int) := by simpa [g4] using hg4
                                                 omega
      simp [g5, hA1, hwj, hwt, s31_8, s31_17, s31_27, ]
      exact back (j + 1) (by omega) (by omega) rfl (by simp <;> omega) (by simp [hst]) (by simp)
  · have hjn : j = bags.length := by omega
    subst hjn
    by_cases h7 : topN bags ps (v : Int) bags.length = 1
    · simp [h7, hwv, s31_8, s31_17, s31_27, ]
      exact back (v + 1) (hv.step hvt h7) (by omega) rfl (by simp <;> omega) (by simp) (by simp)
    · have h7' : ¬ (topN bags ps (v : Int) bags.length : Int) = 1 := by omega
      simp [h7', h7, decOk_v (q := q) (d := ⟨bags, ps⟩) hvt h7, s31_8, s31_17, s31_27, ]
end

end Go.Proofs.YtpbcmlolapdfjaaDoor


namespace Go.Proofs.YtpbcmlolapdfjaaDoor
open Go.Vs Go.Proofs Go
set_option maxRecDepth 100000
set_option maxHeartbeats 1000000

section
theorem w_impl_gcd (a b : Nat) (ha : a ≤ 4000000000000000000) (hb : b ≤ 4000000000000000000) : VC Tryd.prog 89 [.d (.int .i64 a), .d (.int .i64 b)] (fun _ r => r = .d (.int .i64 (Nat.gcd a b : Nat))) := by
  refine VC.ofL EP s89 (by kernel_rfl) Tryd.func89 (by rfl) (by kernel_rfl) (by simp [Tryd.f89]) (by simp [Tryd.f89]) s89_ok fun B hl => ?_
  simp [Tryd.f89, s89_2, s89_2, ]
  refine loop_rule (X := Nat × Nat) (fun p => p.1 ≤ 4000000000000000000 ∧ p.2 ≤ 4000000000000000000 ∧ Nat.gcd p.1 p.2 = Nat.gcd a b) (fun p => [(0, .d (.int .i64 p.1)), (1, .d (.int .i64 p.2))]) (fun _ => []) (fun p => p.2) (a, b) ⟨ha, hb, rfl⟩ (by simp) (by simp) ?_
  rintro ⟨x, y⟩ hs t m ⟨h1, h2, h3⟩ hh
  simp only at h1 h2 h3
  by_cases hy : y = 0
  · subst hy
    rw [Nat.gcd_zero_right] at h3
    simp [s89_2, h3]
  · have hm := Nat.mod_lt x (show 0 < y by omega)
    have h4 : Nat.gcd y (x % y) = Nat.gcd a b := by rw [← h3, Nat.gcd_comm x y, Nat.gcd_rec y x, Nat.gcd_comm]
    simp [s89_2, hy, tmod_nat]
    exact back (y, x % y) ⟨h2, by simp only; omega, h4⟩ (by simp only; omega) rfl (by simp <;> omega) (by simp) (by simp)
theorem w_impl_abs (n : Int) (h : n.natAbs ≤ 4000000000000000000) : VC Tryd.prog 90 [.d (.int .i64 n)] (fun _ r => r = .d (.int .i64 (n.natAbs : Nat))) := by
  refine VC.ofL EP s90 (by kernel_rfl) Tryd.func90 (by rfl) (by kernel_rfl) (by simp [Tryd.f90]) (by simp [Tryd.f90]) s90_ok fun B hl => ?_
  have hw : IntKind.i64.wrap (-n) = -n := wrap64_of (by omega) (by omega)
  by_cases h0 : n < -n
  · simp [Tryd.f90, hw, h0]
    omega
  · simp [Tryd.f90, hw, h0]
    omega
theorem w_impl_IsValidRational (q : _root_.Rat) (h : smQ q) : VC Tryd.prog 73 [.agg [.d (.int .i64 q.num), .d (.int .i64 (q.den : Int))]] (fun _ r => r = .d (.bool true)) := by
  obtain ⟨i1, i2, i3, i4⟩ := sm_i h
  have e1 : inR (q.den : Int) 1 1000000000 = true := by simp [inR]; omega
  have e2 : inR q.num (-1000000000) 1000000000 = true := by simp [inR]; omega
  have e3 := sm_gcd q
  refine VC.ofL EP s73 (by kernel_rfl) Tryd.func73 (by rfl) (by kernel_rfl) (by simp [Tryd.f73]) (by simp [Tryd.f73]) s73_ok fun B hl => ?_
  simp [Tryd.f73, s73_1, s73_1, ]
  refine call_f (w_impl_within q.den 1 1000000000) (by simp) rfl fun hs0 hh0 => ?_
  simp [e1]
  refine call_f (w_impl_within q.num (-1000000000) 1000000000) (by simp) rfl fun hs1 hh1 => ?_
  simp [e2]
  refine call_f (w_impl_abs q.num (by omega)) (by simp) rfl fun hs2 hh2 => ?_
  simp
  refine call_f (w_impl_gcd q.num.natAbs q.den (by omega) (by omega)) (by simp) rfl fun hs3 hh3 => ?_
  simp [e3]
theorem w_impl_NewRational (n d : Int) (q : _root_.Rat) (hq : q = _root_.Rat.divInt n d) (hd : d ≠ 0) (hn4 : n.natAbs ≤ 4000000000000000000) (hd4 : d.natAbs ≤ 4000000000000000000) (h : smQ q) :
   VC Tryd.prog 98 [.d (.int .i64 n), .d (.int .i64 d)] (fun _ r => r = .tup [.agg [.d (.int .i64 q.num), .d (.int .i64 (q.den : Int))], .d (.bool true)]) := by
  have e1 : inR n (-4000000000000000000) 4000000000000000000 = true := by simp [inR]; omega
  have e2 : inR d (-4000000000000000000) 4000000000000000000 = true := by simp [inR]; omega
  have wn : IntKind.i64.wrap (-n) = -n := wrap64_of (by omega) (by omega)
  have wd : IntKind.i64.wrap (-d) = -d := wrap64_of (by omega) (by omega)
  obtain ⟨i1, i2, i3, i4⟩ := sm_i h
  have wq : IntKind.i64.wrap q.num = q.num := wrap64_of (by omega) (by omega)
  have wr : IntKind.i64.wrap (q.den : Int) = q.den := wrap64_of (by omega) (by omega)
  refine VC.ofL EP s98 (by kernel_rfl) Tryd.func98 (by rfl) (by kernel_rfl) (by simp [Tryd.f98]) (by simp [Tryd.f98]) s98_ok fun B hl => ?_
  simp [Tryd.f98, s98_6, s98_6, hd]
  refine call_f (w_impl_within n (-4000000000000000000) 4000000000000000000) (by simp) rfl fun hs0 hh0 => ?_
  simp [e1]
  refine call_f (w_impl_within d (-4000000000000000000) 4000000000000000000) (by simp) rfl fun hs1 hh1 => ?_
  simp [e2]
  by_cases h0 : d < 0
  · have hp : 0 < -d := by omega
    obtain ⟨a1, a2⟩ := norm_num (n := -n) (d := -d) (q := q) (by rw [hq, q_flip]) hp
    obtain ⟨b1, b2⟩ := gcd_le (n := -n) hp
    have b3 : Nat.gcd (-n).natAbs (-d).natAbs ≠ 0 := by omega
    have hdn : ((-d).natAbs : Int) = -d := by omega
    simp [h0, wn, wd]
    refine call_f (w_impl_abs (-n) (by omega)) (by simp) rfl fun hs2 hh2 => ?_
    simp [-Int.natAbs_neg]
    refine call_f (w_impl_gcd (-n).natAbs (-d).natAbs (by omega) (by omega)) (by simp [-Int.natAbs_neg, hdn]) rfl fun hs3 hh3 => ?_
    simp [-Int.natAbs_neg, b3, a1, a2, wq, wr, s98_6, ]
    refine call_f (w_impl_IsValidRational q h) (by simp) rfl fun hs4 hh4 => ?_
    simp
  · have hp : 0 < d := by omega
    obtain ⟨a1, a2⟩ := norm_num (n := n) (d := d) (q := q) hq hp
    obtain ⟨b1, b2⟩ := gcd_le (n := n) hp
    have b3 : Nat.gcd n.natAbs d.natAbs ≠ 0 := by omega
    have hdn : (d.natAbs : Int) = d := by omega
    simp [h0]
    refine call_f (w_impl_abs n (by omega)) (by simp) rfl fun hs2 hh2 => ?_
    simp
    refine call_f (w_impl_gcd n.natAbs d.natAbs (by omega) (by omega)) (by simp [hdn]) rfl fun hs3 hh3 => ?_
    simp [b3, a1, a2, wq, wr, s98_6, ]
    refine call_f (w_impl_IsValidRational q h) (by simp) rfl fun hs4 hh4 => ?_
    simp
theorem w_impl_bothValid (a b : _root_.Rat) (ha : smQ a) (hb : smQ b) : VC Tryd.prog 62 [.agg [.d (.int .i64 a.num), .d (.int .i64 (a.den : Int))], .agg [.d (.int .i64 b.num), .d (.int .i64 (b.den : Int))]] (fun _ r => r = .d (.bool true)) := by
  refine VC.ofL EP s62 (by kernel_rfl) Tryd.func62 (by rfl) (by kernel_rfl) (by simp [Tryd.f62]) (by simp [Tryd.f62]) s62_ok fun B hl => ?_
  simp [Tryd.f62, ]
  refine call_f (w_impl_IsValidRational a ha) (by simp) rfl fun hs0 hh0 => ?_
  simp
  refine call_f (w_impl_IsValidRational b hb) (by simp) rfl fun hs1 hh1 => ?_
  simp
theorem w_impl_AddRational (a b : _root_.Rat) (ha : smQ a) (hb : smQ b) (h : smQ (a + b)) : VC Tryd.prog 88 [.agg [.d (.int .i64 a.num), .d (.int .i64 (a.den : Int))], .agg [.d (.int .i64 b.num), .d (.int .i64 (b.den : Int))]]
   (fun _ r => r = .tup [.agg [.d (.int .i64 (a + b).num), .d (.int .i64 ((a + b).den : Int))], .d (.bool true)]) := by
  obtain ⟨m1, m2, m3, m4, m5⟩ := sm_mul ha hb
  have w1 : IntKind.i64.wrap (a.num * b.den) = a.num * b.den := wrap64_of (by omega) (by omega)
  have w2 : IntKind.i64.wrap (b.num * a.den) = b.num * a.den := wrap64_of (by omega) (by omega)
  have w3 : IntKind.i64.wrap (a.num * b.den + b.num * a.den) = a.num * b.den + b.num * a.den := wrap64_of (by omega) (by omega)
  have w4 : IntKind.i64.wrap ((a.den : Int) * b.den) = (a.den : Int) * b.den := wrap64_of (by omega) (by omega)
  have hp : (0 : Int) < (a.den : Int) * b.den := den_mul
  refine VC.ofL EP s88 (by kernel_rfl) Tryd.func88 (by rfl) (by kernel_rfl) (by simp [Tryd.f88]) (by simp [Tryd.f88]) s88_ok fun B hl => ?_
  simp [Tryd.f88, ]
  refine call_f (w_impl_bothValid a b ha hb) (by simp) rfl fun hs0 hh0 => ?_
  simp [w1, w2, w3, w4]
  refine call_f (w_impl_NewRational (a.num * b.den + b.num * a.den) ((a.den : Int) * b.den) (a + b) (q_add a b) (by omega) (by omega) (by omega) h) (by simp) rfl fun hs1 hh1 => ?_
  simp
theorem w_impl_SubRational (a b : _root_.Rat) (ha : smQ a) (hb : smQ b) (h : smQ (a - b)) : VC Tryd.prog 100 [.agg [.d (.int .i64 a.num), .d (.int .i64 (a.den : Int))], .agg [.d (.int .i64 b.num), .d (.int .i64 (b.den : Int))]]
   (fun _ r => r = .tup [.agg [.d (.int .i64 (a - b).num), .d (.int .i64 ((a - b).den : Int))], .d (.bool true)]) := by
  obtain ⟨i1, i2, i3, i4⟩ := sm_i hb
  have w1 : IntKind.i64.wrap (-b.num) = (-b).num := by rw [(q_neg b).1]; exact wrap64_of (by omega) (by omega)
  have e2 : (b.den : Int) = ((-b).den : Int) := by rw [(q_neg b).2]
  have e3 : a - b = a + -b := q_sub a b
  rw [e3] at h ⊢
  refine VC.ofL EP s100 (by kernel_rfl) Tryd.func100 (by rfl) (by kernel_rfl) (by simp [Tryd.f100]) (by simp [Tryd.f100]) s100_ok fun B hl => ?_
  simp [Tryd.f100, w1]
  refine call_f (w_impl_AddRational a (-b) ha (sm_neg hb) h) (by simp [(q_neg b).2]) rfl fun hs0 hh0 => ?_
  simp
theorem w_impl_MulRational (a b : _root_.Rat) (ha : smQ a) (hb : smQ b) (h : smQ (a * b)) : VC Tryd.prog 87 [.agg [.d (.int .i64 a.num), .d (.int .i64 (a.den : Int))], .agg [.d (.int .i64 b.num), .d (.int .i64 (b.den : Int))]]
   (fun _ r => r = .tup [.agg [.d (.int .i64 (a * b).num), .d (.int .i64 ((a * b).den : Int))], .d (.bool true)]) := by
  obtain ⟨m1, m2, m3, m4, m5⟩ := sm_mul ha hb
  have w3 : IntKind.i64.wrap (a.num * b.num) = a.num * b.num := wrap64_of (by omega) (by omega)
  have w4 : IntKind.i64.wrap ((a.den : Int) * b.den) = (a.den : Int) * b.den := wrap64_of (by omega) (by omega)
  have hp : (0 : Int) < (a.den : Int) * b.den := den_mul
  refine VC.ofL EP s87 (by kernel_rfl) Tryd.func87 (by rfl) (by kernel_rfl) (by simp [Tryd.f87]) (by simp [Tryd.f87]) s87_ok fun B hl => ?_
  simp [Tryd.f87, ]
  refine call_f (w_impl_bothValid a b ha hb) (by simp) rfl fun hs0 hh0 => ?_
  simp [w3, w4]
  refine call_f (w_impl_NewRational (a.num * b.num) ((a.den : Int) * b.den) (a * b) (q_mul a b) (by omega) (by omega) (by omega) h) (by simp) rfl fun hs1 hh1 => ?_
  simp
theorem w_impl_DivRational (a b : _root_.Rat) (ha : smQ a) (hb : smQ b) (hne : b ≠ 0) (h : smQ (a / b)) : VC Tryd.prog 96 [.agg [.d (.int .i64 a.num), .d (.int .i64 (a.den : Int))], .agg [.d (.int .i64 b.num), .d (.int .i64 (b.den : Int))]]
   (fun _ r => r = .tup [.agg [.d (.int .i64 (a / b).num), .d (.int .i64 ((a / b).den : Int))], .d (.bool true)]) := by
  obtain ⟨m1, m2, m3, m4, m5⟩ := sm_mul ha hb
  have hbn := num_ne hne
  have w3 : IntKind.i64.wrap (a.num * b.den) = a.num * b.den := wrap64_of (by omega) (by omega)
  have w4 : IntKind.i64.wrap ((a.den : Int) * b.num) = (a.den : Int) * b.num := wrap64_of (by omega) (by omega)
  have hp : (a.den : Int) * b.num ≠ 0 := Int.mul_ne_zero (by have := sm_pos (q := a); omega) hbn
  refine VC.ofL EP s96 (by kernel_rfl) Tryd.func96 (by rfl) (by kernel_rfl) (by simp [Tryd.f96]) (by simp [Tryd.f96]) s96_ok fun B hl => ?_
  simp [Tryd.f96, ]
  refine call_f (w_impl_bothValid a b ha hb) (by simp) rfl fun hs0 hh0 => ?_
  simp [w3, w4, hbn]
  refine call_f (w_impl_NewRational (a.num * b.den) ((a.den : Int) * b.num) (a / b) (q_div a b) hp (by omega) (by omega) h) (by simp) rfl fun hs1 hh1 => ?_
  simp
theorem w_impl_CompareRationals (a b : _root_.Rat) (ha : smQ a) (hb : smQ b) : VC Tryd.prog 35 [.agg [.d (.int .i64 a.num), .d (.int .i64 (a.den : Int))], .agg [.d (.int .i64 b.num), .d (.int .i64 (b.den : Int))]]
   (fun _ r => r = .d (.int .i64 (cmpQ a b))) := by
  obtain ⟨m1, m2, m3, m4, m5⟩ := sm_mul ha hb
  have w1 : IntKind.i64.wrap (a.num * b.den) = a.num * b.den := wrap64_of (by omega) (by omega)
  have w2 : IntKind.i64.wrap (b.num * a.den) = b.num * a.den := wrap64_of (by omega) (by omega)
  refine VC.ofL EP s35 (by kernel_rfl) Tryd.func35 (by rfl) (by kernel_rfl) (by simp [Tryd.f35]) (by simp [Tryd.f35]) s35_ok fun B hl => ?_
  simp [Tryd.f35, ]
  refine call_f (w_impl_bothValid a b ha hb) (by simp) rfl fun hs0 hh0 => ?_
  simp [w1, w2]
  refine call_f (w_impl_compareInts (a.num * b.den) (b.num * a.den)) (by simp) rfl fun hs1 hh1 => ?_
  simp [cmpQ_eq]
end

end Go.Proofs.YtpbcmlolapdfjaaDoor


namespace Go.Proofs.YtpbcmlolapdfjaaDoor
open Go.Vs Go.Proofs Go
set_option maxRecDepth 100000
set_option maxHeartbeats 1000000

section
theorem w_spec_l2Gcd (a b : Nat) (ha : a ≤ 4000000000000000000) (hb : b ≤ 4000000000000000000) : VC Tryd.prog 72 [.d (.int .i64 a), .d (.int .i64 b)] (fun _ r => r = .d (.int .i64 (Nat.gcd a b : Nat))) := by
  refine VC.ofL EP s72 (by kernel_rfl) Tryd.func72 (by rfl) (by kernel_rfl) (by simp [Tryd.f72]) (by simp [Tryd.f72]) s72_ok fun B hl => ?_
  simp [Tryd.f72, ]
  refine loop_rule (X := Nat × Nat) (fun p => p.1 ≤ 4000000000000000000 ∧ p.2 ≤ 4000000000000000000 ∧ Nat.gcd p.1 p.2 = Nat.gcd a b) (fun p => [(0, .d (.int .i64 p.1)), (1, .d (.int .i64 p.2))]) (fun _ => []) (fun p => p.2) (a, b) ⟨ha, hb, rfl⟩ (by simp) (by simp) ?_
  rintro ⟨x, y⟩ hs t m ⟨h1, h2, h3⟩ hh
  simp only at h1 h2 h3
  by_cases hy : y = 0
  · subst hy
    rw [Nat.gcd_zero_right] at h3
    simp [h3]
  · have hm := Nat.mod_lt x (show 0 < y by omega)
    have h4 : Nat.gcd y (x % y) = Nat.gcd a b := by rw [← h3, Nat.gcd_comm x y, Nat.gcd_rec y x, Nat.gcd_comm]
    simp [hy, tmod_nat]
    exact back (y, x % y) ⟨h2, by simp only; omega, h4⟩ (by simp only; omega) rfl (by simp <;> omega) (by simp) (by simp)
theorem w_spec_IsValidRational (q : _root_.Rat) (h : smQ q) : VC Tryd.prog 57 [.agg [.d (.int .i64 q.num), .d (.int .i64 (q.den : Int))]] (fun _ r => r = .d (.bool true)) := by
  obtain ⟨i1, i2, i3, i4⟩ := sm_i h
  have e1 : inR (q.den : Int) 1 1000000000 = true := by simp [inR]; omega
  have e2 : inR q.num (-1000000000) 1000000000 = true := by simp [inR]; omega
  have e3 := sm_gcd q
  have hw : IntKind.i64.wrap (-q.num) = -q.num := wrap64_of (by omega) (by omega)
  refine VC.ofL EP s57 (by kernel_rfl) Tryd.func57 (by rfl) (by kernel_rfl) (by simp [Tryd.f57]) (by simp [Tryd.f57]) s57_ok fun B hl => ?_
  simp [Tryd.f57, ]
  refine call_f (w_spec_l1In q.den 1 1000000000) (by simp) rfl fun hs0 hh0 => ?_
  simp [e1]
  refine call_f (w_spec_l1In q.num (-1000000000) 1000000000) (by simp) rfl fun hs1 hh1 => ?_
  simp [e2, hw]
  refine call_f (w_spec_l2Gcd q.num.natAbs q.den (by omega) (by omega)) (by simp; omega) rfl fun hs3 hh3 => ?_
  simp [e3]
theorem w_spec_NewRational (n d : Int) (q : _root_.Rat) (hq : q = _root_.Rat.divInt n d) (hd : d ≠ 0) (hn4 : n.natAbs ≤ 4000000000000000000) (hd4 : d.natAbs ≤ 4000000000000000000) (h : smQ q) :
   VC Tryd.prog 94 [.d (.int .i64 n), .d (.int .i64 d)] (fun _ r => r = .tup [.agg [.d (.int .i64 q.num), .d (.int .i64 (q.den : Int))], .d (.bool true)]) := by
  have e1 : inR n (-4000000000000000000) 4000000000000000000 = true := by simp [inR]; omega
  have e2 : inR d (-4000000000000000000) 4000000000000000000 = true := by simp [inR]; omega
  have wm : IntKind.i64.wrap (-4000000000000000000) = -4000000000000000000 := wrap64_of (by omega) (by omega)
  have wn : IntKind.i64.wrap (-n) = -n := wrap64_of (by omega) (by omega)
  have wd : IntKind.i64.wrap (-d) = -d := wrap64_of (by omega) (by omega)
  obtain ⟨i1, i2, i3, i4⟩ := sm_i h
  have wq : IntKind.i64.wrap q.num = q.num := wrap64_of (by omega) (by omega)
  have wr : IntKind.i64.wrap (q.den : Int) = q.den := wrap64_of (by omega) (by omega)
  refine VC.ofL EP s94 (by kernel_rfl) Tryd.func94 (by rfl) (by kernel_rfl) (by simp [Tryd.f94]) (by simp [Tryd.f94]) s94_ok fun B hl => ?_
  simp [Tryd.f94, s94_8, s94_8, hd, wm]
  refine call_f (w_spec_l1In n (-4000000000000000000) 4000000000000000000) (by simp) rfl fun hs0 hh0 => ?_
  simp [e1, wm]
  refine call_f (w_spec_l1In d (-4000000000000000000) 4000000000000000000) (by simp) rfl fun hs1 hh1 => ?_
  simp [e2]
  by_cases h0 : d < 0
  · have hp : 0 < -d := by omega
    obtain ⟨a1, a2⟩ := norm_num (n := -n) (d := -d) (q := q) (by rw [hq, q_flip]) hp
    obtain ⟨b1, b2⟩ := gcd_le (n := -n) hp
    have b3 : Nat.gcd (-n).natAbs (-d).natAbs ≠ 0 := by omega
    have hdn : ((-d).natAbs : Int) = -d := by omega
    have wn2 : IntKind.i64.wrap n = n := wrap64_of (by omega) (by omega)
    simp [h0, wn, wd, wn2]
    refine call_f (w_spec_l2Gcd (-n).natAbs (-d).natAbs (by omega) (by omega)) (by simp [-Int.natAbs_neg, hdn]; omega) rfl fun hs3 hh3 => ?_
    simp [-Int.natAbs_neg, b3, a1, a2, wq, wr, s94_8, ]
    refine call_f (w_spec_IsValidRational q h) (by simp) rfl fun hs4 hh4 => ?_
    simp
  · have hp : 0 < d := by omega
    obtain ⟨a1, a2⟩ := norm_num (n := n) (d := d) (q := q) hq hp
    obtain ⟨b1, b2⟩ := gcd_le (n := n) hp
    have b3 : Nat.gcd n.natAbs d.natAbs ≠ 0 := by omega
    have hdn : (d.natAbs : Int) = d := by omega
    simp [h0, wn]
    refine call_f (w_spec_l2Gcd n.natAbs d.natAbs (by omega) (by omega)) (by simp [hdn]; omega) rfl fun hs3 hh3 => ?_
    simp [b3, a1, a2, wq, wr, s94_8, ]
    refine call_f (w_spec_IsValidRational q h) (by simp) rfl fun hs4 hh4 => ?_
    simp
theorem w_spec_AddRational (a b : _root_.Rat) (ha : smQ a) (hb : smQ b) (h : smQ (a + b)) : VC Tryd.prog 79 [.agg [.d (.int .i64 a.num), .d (.int .i64 (a.den : Int))], .agg [.d (.int .i64 b.num), .d (.int .i64 (b.den : Int))]]
   (fun _ r => r = .tup [.agg [.d (.int .i64 (a + b).num), .d (.int .i64 ((a + b).den : Int))], .d (.bool true)]) := by
  obtain ⟨m1, m2, m3, m4, m5⟩ := sm_mul ha hb
  have w1 : IntKind.i64.wrap (a.num * b.den) = a.num * b.den := wrap64_of (by omega) (by omega)
  have w2 : IntKind.i64.wrap (b.num * a.den) = b.num * a.den := wrap64_of (by omega) (by omega)
  have w3 : IntKind.i64.wrap (a.num * b.den + b.num * a.den) = a.num * b.den + b.num * a.den := wrap64_of (by omega) (by omega)
  have w4 : IntKind.i64.wrap ((a.den : Int) * b.den) = (a.den : Int) * b.den := wrap64_of (by omega) (by omega)
  have hp : (0 : Int) < (a.den : Int) * b.den := den_mul
  refine VC.ofL EP s79 (by kernel_rfl) Tryd.func79 (by rfl) (by kernel_rfl) (by simp [Tryd.f79]) (by simp [Tryd.f79]) s79_ok fun B hl => ?_
  simp [Tryd.f79, ]
  refine call_f (w_spec_IsValidRational a ha) (by simp) rfl fun hs0 hh0 => ?_
  simp
  refine call_f (w_spec_IsValidRational b hb) (by simp) rfl fun hs1 hh1 => ?_
  simp [w1, w2, w3, w4]
  refine call_f (w_spec_NewRational (a.num * b.den + b.num * a.den) ((a.den : Int) * b.den) (a + b) (q_add a b) (by omega) (by omega) (by omega) h) (by simp) rfl fun hs2 hh2 => ?_
  simp
theorem w_spec_SubRational (a b : _root_.Rat) (ha : smQ a) (hb : smQ b) (h : smQ (a - b)) : VC Tryd.prog 99 [.agg [.d (.int .i64 a.num), .d (.int .i64 (a.den : Int))], .agg [.d (.int .i64 b.num), .d (.int .i64 (b.den : Int))]]
   (fun _ r => r = .tup [.agg [.d (.int .i64 (a - b).num), .d (.int .i64 ((a - b).den : Int))], .d (.bool true)]) := by
  obtain ⟨i1, i2, i3, i4⟩ := sm_i hb
  have w1 : IntKind.i64.wrap (-b.num) = (-b).num := by rw [(q_neg b).1]; exact wrap64_of (by omega) (by omega)
  have e3 : a - b = a + -b := q_sub a b
  rw [e3] at h ⊢
  refine VC.ofL EP s99 (by kernel_rfl) Tryd.func99 (by rfl) (by kernel_rfl) (by simp [Tryd.f99]) (by simp [Tryd.f99]) s99_ok fun B hl => ?_
  simp [Tryd.f99, ]
  refine call_f (w_spec_IsValidRational b hb) (by simp) rfl fun hs0 hh0 => ?_
  simp [w1]
  refine call_f (w_spec_AddRational a (-b) ha (sm_neg hb) h) (by simp [(q_neg b).2]) rfl fun hs0 hh0 => ?_
  simp
theorem w_spec_MulRational (a b : _root_.Rat) (ha : smQ a) (hb : smQ b) (h : smQ (a * b)) : VC Tryd.prog 78 [.agg [.d (.int .i64 a.num), .d (.int .i64 (a.den : Int))], .agg [.d (.int .i64 b.num), .d (.int .i64 (b.den : Int))]]
   (fun _ r => r = .tup [.agg [.d (.int .i64 (a * b).num), .d (.int .i64 ((a * b).den : Int))], .d (.bool true)]) := by
  obtain ⟨m1, m2, m3, m4, m5⟩ := sm_mul ha hb
  have w3 : IntKind.i64.wrap (a.num * b.num) = a.num * b.num := wrap64_of (by omega) (by omega)
  have w4 : IntKind.i64.wrap ((a.den : Int) * b.den) = (a.den : Int) * b.den := wrap64_of (by omega) (by omega)
  have hp : (0 : Int) < (a.den : Int) * b.den := den_mul
  refine VC.ofL EP s78 (by kernel_rfl) Tryd.func78 (by rfl) (by kernel_rfl) (by simp [Tryd.f78]) (by simp [Tryd.f78]) s78_ok fun B hl => ?_
  simp [Tryd.f78, ]
  refine call_f (w_spec_IsValidRational a ha) (by simp) rfl fun hs0 hh0 => ?_
  simp
  refine call_f (w_spec_IsValidRational b hb) (by simp) rfl fun hs1 hh1 => ?_
  simp [w3, w4]
  refine call_f (w_spec_NewRational (a.num * b.num) ((a.den : Int) * b.den) (a * b) (q_mul a b) (by omega) (by omega) (by omega) h) (by simp) rfl fun hs2 hh2 => ?_
  simp
theorem w_spec_DivRational (a b : _root_.Rat) (ha : smQ a) (hb : smQ b) (hne : b ≠ 0) (h : smQ (a / b)) : VC Tryd.prog 92 [.agg [.d (.int .i64 a.num), .d (.int .i64 (a.den : Int))], .agg [.d (.int .i64 b.num), .d (.int .i64 (b.den : Int))]]
   (fun _ r => r = .tup [.agg [.d (.int .i64 (a / b).num), .d (.int .i64 ((a / b).den : Int))], .d (.bool true)]) := by
  obtain ⟨m1, m2, m3, m4, m5⟩ := sm_mul ha hb
  have hbn := num_ne hne
  have w3 : IntKind.i64.wrap (a.num * b.den) = a.num * b.den := wrap64_of (by omega) (by omega)
  have w4 : IntKind.i64.wrap ((a.den : Int) * b.num) = (a.den : Int) * b.num := wrap64_of (by omega) (by omega)
  have hp : (a.den : Int) * b.num ≠ 0 := Int.mul_ne_zero (by have := sm_pos (q := a); omega) hbn
  refine VC.ofL EP s92 (by kernel_rfl) Tryd.func92 (by rfl) (by kernel_rfl) (by simp [Tryd.f92]) (by simp [Tryd.f92]) s92_ok fun B hl => ?_
  simp [Tryd.f92, ]
  refine call_f (w_spec_IsValidRational a ha) (by simp) rfl fun hs0 hh0 => ?_
  simp
  refine call_f (w_spec_IsValidRational b hb) (by simp) rfl fun hs1 hh1 => ?_
  simp [w3, w4]
  refine call_f (w_spec_NewRational (a.num * b.den) ((a.den : Int) * b.num) (a / b) (q_div a b) hp (by omega) (by omega) h) (by simp) rfl fun hs2 hh2 => ?_
  simp
theorem w_spec_CompareRationals (a b : _root_.Rat) (ha : smQ a) (hb : smQ b) : VC Tryd.prog 32 [.agg [.d (.int .i64 a.num), .d (.int .i64 (a.den : Int))], .agg [.d (.int .i64 b.num), .d (.int .i64 (b.den : Int))]]
   (fun _ r => r = .d (.int .i64 (cmpQ a b))) := by
  obtain ⟨m1, m2, m3, m4, m5⟩ := sm_mul ha hb
  have w1 : IntKind.i64.wrap (a.num * b.den) = a.num * b.den := wrap64_of (by omega) (by omega)
  have w2 : IntKind.i64.wrap (b.num * a.den) = b.num * a.den := wrap64_of (by omega) (by omega)
  refine VC.ofL EP s32 (by kernel_rfl) Tryd.func32 (by rfl) (by kernel_rfl) (by simp [Tryd.f32]) (by simp [Tryd.f32]) s32_ok fun B hl => ?_
  simp [Tryd.f32, ]
  refine call_f (w_spec_IsValidRational a ha) (by simp) rfl fun hs0 hh0 => ?_
  simp
  refine call_f (w_spec_IsValidRational b hb) (by simp) rfl fun hs1 hh1 => ?_
  simp [w1, w2]
  rw [cmpQ_eq]
  by_cases h1 : a.num * b.den < b.num * a.den
  · simp [h1]
  · by_cases h2 : b.num * a.den < a.num * b.den <;> simp [h1, h2]
end

end Go.Proofs.YtpbcmlolapdfjaaDoor


namespace Go.Proofs.YtpbcmlolapdfjaaDoor
open Go.Vs Go.Proofs Go
set_option maxRecDepth 100000
set_option maxHeartbeats 1000000

section
attribute [local simp] pS cP eQ_def
theorem w_impl_allValid (l : List _root_.Rat) (h : ∀ q ∈ l, smQ q) : VC Tryd.prog 69 [.d (pS eQ l)] (fun _ r => r = .d (.bool true)) := by
  refine VC.ofL EP s69 (by kernel_rfl) Tryd.func69 (by rfl) (by kernel_rfl) (by simp [Tryd.f69]) (by simp [Tryd.f69]) s69_ok fun B hl => ?_
  simp [maxLen] at hl
  simp [Tryd.f69, ]
  refine loop_rule (X := Nat) (fun i => i ≤ l.length) (fun i => [(5, .d (.pl (l.map eQ))), (6, .d (.int .i64 l.length)), (7, .d (.int .i64 i))]) (fun _ => []) (fun i => l.length - i) 0 (by simp) (by simp) (by simp) ?_
  intro i hs t m hi hh
  by_cases hlt : i < l.length
  · have hwi := wr1 (i := i) (by omega)
    simp [hlt, ]
    refine call_f (w_impl_IsValidRational l[i] (h _ (List.getElem_mem hlt))) (by simp) rfl fun hs1 hh1 => ?_
    try simp at hh1
    simp [hwi]
    exact back (i + 1) (by omega) (by omega) rfl (by simp <;> omega) (by simp) (by simp)
  · simp [hlt]
theorem e_impl_copyRationals (l : List _root_.Rat) (hb : l.length ≤ 4294967296) :
   VC Tryd.prog 81 [.d (pS eQ l)] (fun n r => ∃ g : Option Nat, r = .d (.sl g (some (28, 2)) (l.map eQ)) ∧ (∀ k, g = some k → n ≤ k) ∧ (g = none → l = [])) := by
  refine VC.of E s81 (by kernel_rfl) Tryd.func81 (by rfl) (by kernel_rfl) (by simp [Tryd.f81]) (by simp [Tryd.f81]) s81_ok fun B => ?_
  have hL : LenOk 16 l.length := ⟨by omega, by simp only [maxLen]; omega⟩
  have hp : hpLL (l.map eQ) = false := hp_eQs l
  simp [Tryd.f81, hL, hp, List.take_of_length_le]
  intro γ hs' h1 hg
  obtain ⟨q1, q2⟩ := gam_at hg (k := 3) (T := 28) (sz := 2) (es := l.map eQ) (by simp)
  clear hg
  refine ⟨fun k hk => (q1 k hk).1, fun h => ?_⟩
  exact Classical.byContradiction fun hl => q2 (by simpa using hl) h
theorem w_impl_DotProduct (u v : List _root_.Rat) (hlen : u.length = v.length) (h : DotS u.length (fnL u) (fnL v)) :
   VC Tryd.prog 71 [.d (pS eQ u), .d (pS eQ v)] (fun _ r => r = .tup [.agg [.d (.int .i64 (dotF u.length (fnL u) (fnL v)).num), .d (.int .i64 ((dotF u.length (fnL u) (fnL v)).den : Int))], .d (.bool true)]) := by
  refine VC.ofL EP s71 (by kernel_rfl) Tryd.func71 (by rfl) (by kernel_rfl) (by simp [Tryd.f71]) (by simp [Tryd.f71]) s71_ok fun B hl => ?_
  simp [maxLen] at hl
  simp [Tryd.f71, s71_7, s71_7, hlen]
  refine loop_rule (X := Nat) (fun i => i ≤ v.length) (fun i => [(0, .d (.pl (u.map eQ))), (1, .d (.pl (v.map eQ))), (4, .ptr 4 0 0), (6, .ptr 6 0 0), (20, .d (.int .i64 v.length)), (21, .d (.int .i64 i))]) (fun i => [(4, some (.box [.d (.int .i64 0), .d (.int .i64 0)])), (6, some (.box [.d (.int .i64 (dotF i (fnL u) (fnL v)).num), .d (.int .i64 ((dotF i (fnL u) (fnL v)).den : Int))]))]) (fun i => v.length - i) 0 (by simp) (by simp) (by simp [dotF]) ?_
  intro i hs t m hi hh
  by_cases hlt : i < v.length
  · have hwi := wr1 (i := i) (by omega)
    have hlu : i < u.length := by omega
    have a1 := h.sa i hlu
    have a2 := h.sx i hlu
    have a3 := h.sm i hlu
    have a4 := h.ss i (by omega)
    have a5 := h.ss (i + 1) (by omega)
    have e : dotF (i + 1) (fnL u) (fnL v) = dotF i (fnL u) (fnL v) + u[i] * v[i] := by rw [dotF, fnL_at hlu, fnL_at hlt]
    rw [fnL_at hlu] at a1 a3
    rw [fnL_at hlt] at a2 a3
    rw [e] at a5
    simp [hlt, hlu, s71_7, ]
    refine ⟨?_, ?_⟩
    all_goals
      refine call_f (w_impl_MulRational u[i] v[i] a1 a2 a3) (by simp) rfl fun hs1 hh1 => ?_
      try simp at hh1
      simp [s71_7, ]
      refine call_f (w_impl_AddRational (dotF i (fnL u) (fnL v)) (u[i] * v[i]) a4 a3 a5) (by simp) rfl fun hs2 hh2 => ?_
      try simp at hh2
      simp [hwi, s71_7, ]
      exact back (i + 1) (by omega) (by omega) rfl (by simp <;> omega) (by simp) (by simp [e])
  · have hn : i = v.length := by omega
    simp [hlt, hn, s71_7, ]
theorem w_impl_MatrixVectorProduct (A : List (List _root_.Rat)) (x : List _root_.Rat) (hb : A.length ≤ 4294967296) (hr : ∀ r ∈ A, r.length = x.length) (h : ∀ r ∈ A, DotS x.length (fnL r) (fnL x)) :
   VC Tryd.prog 97 [.d (pS (cP eQ) A), .d (pS eQ x)] (fun _ r => r = .tup [.d (pS eQ (A.map fun r => dotF x.length (fnL r) (fnL x))), .d (.bool true)]) := by
  refine VC.ofL EP s97 (by kernel_rfl) Tryd.func97 (by rfl) (by kernel_rfl) (by simp [Tryd.f97]) (by simp [Tryd.f97]) s97_ok fun B hl => ?_
  clear hl
  simp [Tryd.f97, ]
  obtain ⟨F, hF⟩ : ∃ F : List _root_.Rat → _root_.Rat, F = fun r => dotF x.length (fnL r) (fnL x) := ⟨_, rfl⟩
  refine loop_ruleL (X := Nat) (fun i _ => i ≤ A.length) (fun i => [(1, .d (.pl (x.map eQ))), (6, .own 900 0 i), (11, .d (.pl (A.map (cP eQ)))), (12, .d (.int .i64 A.length)), (13, .d (.int .i64 i))]) (fun i => [(900, some (.row 28 2 (((A.take i).map F).map eQ)))]) (fun i => A.length - i) ?_ ?_
  · refine (lead_slot 6 900 28 2 (by omega) (by omega) (by simp)).bind ?_
    rintro _ rfl
    exact Lead.of ⟨0, by omega, rfl, rfl, Nat.le_refl _, by simp, by simp⟩
  intro i hs t m hi hh
  by_cases hlt : i < A.length
  · have hwi := wr1 (i := i) (by omega)
    have hL : LenOk 16 (i + 1) := ⟨by omega, by simp only [maxLen]; omega⟩
    have hm := List.getElem_mem hlt
    have hd := h _ hm
    have hrl := hr _ hm
    have hst : (A.map (eQ ∘ F)).take (i + 1) = (A.map (eQ ∘ F)).take i ++ [eQ (F A[i])] := by rw [List.take_succ_eq_append_getElem (by simpa using hlt)]; simp
    have hFi : F A[i] = dotF A[i].length (fnL A[i]) (fnL x) := by rw [hF, hrl]
    simp [hlt, ]
    refine call_f (w_impl_DotProduct A[i] x hrl (by rw [hrl]; exact hd)) (by simp) rfl fun hs1 hh1 => ?_
    try simp at hh1
    rw [← hFi]
    have hmin : min i A.length = i := by omega
    simp [hwi, hL, hmin, ]
    exact back (i + 1) (by omega) (by omega) rfl (by simp <;> omega) (by simp) (by simp [hst])
  · have hn : i = A.length := by omega
    subst hn
    simp [List.take_of_length_le, hF]
theorem w_impl_IsValidLinearProgram (A : List (List _root_.Rat)) (n : Nat) (h : LPok A n) :
   VC Tryd.prog 49 [.agg [.d (pS (cP eQ) A), .d (pS eQ (List.replicate A.length 1)), .d (pS eQ (List.replicate n 1))]] (fun _ r => r = .d (.bool true)) := by
  have h1 := h.n1
  have h2 := h.n4
  have h3 := h.m1
  have h4 := h.m5
  have e1 : inR (n : Int) 1 5 = true := by simp [inR]; omega
  have e2 : inR (A.length : Int) 1 5 = true := by simp [inR]; omega
  refine VC.ofL EP s49 (by kernel_rfl) Tryd.func49 (by rfl) (by kernel_rfl) (by simp [Tryd.f49]) (by simp [Tryd.f49]) s49_ok fun B hl => ?_
  clear hl
  simp [Tryd.f49, ]
  refine call_f (w_impl_within n 1 5) (by simp) rfl fun hs0 hh0 => ?_
  simp [e1]
  refine call_f (w_impl_within A.length 1 5) (by simp) rfl fun hs1 hh1 => ?_
  simp [e2]
  refine call_f (w_impl_allValid (List.replicate A.length 1) rep_sm) (by simp) rfl fun hs2 hh2 => ?_
  simp
  refine call_f (w_impl_allValid (List.replicate n 1) rep_sm) (by simp) rfl fun hs3 hh3 => ?_
  simp
  refine loop_rule (X := Nat) (fun i => i ≤ A.length) (fun i => [(3, .d (.int .i64 n)), (41, .d (.pl (A.map (cP eQ)))), (42, .d (.int .i64 A.length)), (43, .d (.int .i64 i))]) (fun _ => []) (fun i => A.length - i) 0 (by simp) (by simp) (by simp) ?_
  intro i hs t m hi hh
  by_cases hlt : i < A.length
  · have hwi := wr1 (i := i) (by omega)
    have hm := List.getElem_mem hlt
    have hrl := h.m01.len _ hm
    simp [hlt, hrl, ]
    refine call_f (w_impl_allValid A[i] (h.sm hm)) (by simp) rfl fun hs1 hh1 => ?_
    try simp at hh1
    simp [hwi]
    exact back (i + 1) (by omega) (by omega) rfl (by simp <;> omega) (by simp) (by simp)
  · simp [hlt]
theorem w_impl_EqualRationals (a b : List _root_.Rat) : VC Tryd.prog 86 [.d (pS eQ a), .d (pS eQ b)] (fun _ r => r = .d (.bool (decide (a = b)))) := by
  refine VC.ofL EP s86 (by kernel_rfl) Tryd.func86 (by rfl) (by kernel_rfl) (by simp [Tryd.f86]) (by simp [Tryd.f86]) s86_ok fun B hl => ?_
  simp [maxLen] at hl
  by_cases hlen : a.length = b.length
  case neg =>
    have : a ≠ b := fun e => hlen (by rw [e])
    simp [Tryd.f86, s86_6, s86_6, hlen, this]
  simp [Tryd.f86, s86_6, s86_6, hlen]
  refine loop_rule (X := Nat) (fun i => i ≤ b.length ∧ a.take i = b.take i) (fun i => [(0, .d (.pl (a.map eQ))), (1, .d (.pl (b.map eQ))), (12, .d (.int .i64 b.length)), (13, .d (.int .i64 i))]) (fun _ => []) (fun i => b.length - i) 0 (by simp) (by simp) (by simp) ?_
  intro i hs t m hi hh
  by_cases hlt : i < b.length
  · have hwi := wr1 (i := i) (by omega)
    have hla : i < a.length := by omega
    have hst := eq_step hla hlt hi.2
    have hq : a[i] = b[i] ↔ (a[i].num = b[i].num ∧ (a[i].den : Int) = b[i].den) := by
      rw [← qR_inj, PRat.eq_iff]; rfl
    by_cases he : a[i] = b[i]
    · simp [hlt, hla, he, hwi, s86_6, ]
      exact back (i + 1) ⟨by omega, hst.1 he⟩ (by omega) rfl (by simp <;> omega) (by simp) (by simp)
    · have hab : a ≠ b := fun e => he (by subst e; rfl)
      rw [hq] at he
      by_cases h1 : a[i].num = b[i].num
      · have h2 : ¬ a[i].den = b[i].den := fun e => he ⟨h1, by rw [e]⟩
        simp [hlt, hla, h1, h2, hab, s86_6, ]
      · simp [hlt, hla, h1, hab, s86_6, ]
  · have hab : a = b := eq_all (by omega) hlen hi.2
    simp [hlt, hab, s86_6, ]
theorem w_impl_feasible (A : List (List _root_.Rat)) (n : Nat) (x : List _root_.Rat) (h : LPok A n) (hx : SolB n x) :
   VC Tryd.prog 85 [.agg [.d (pS (cP eQ) A), .d (pS eQ (List.replicate A.length 1)), .d (pS eQ (List.replicate n 1))], .d (pS eQ x), .d (.int .i64 1)] (fun _ r => r = .d (.bool (feasQ A x))) := by
  have hxl := hx.len
  have hn4 := h.n4
  have hm5 := h.m5
  refine VC.ofL EP s85 (by kernel_rfl) Tryd.func85 (by rfl) (by kernel_rfl) (by simp [Tryd.f85]) (by simp [Tryd.f85]) s85_ok fun B hl => ?_
  clear hl
  simp [Tryd.f85, s85_15, s85_15, ]
  refine call_f (w_impl_IsValidLinearProgram A n h) (by simp) rfl fun hs0 hh0 => ?_
  simp [hxl]
  refine call_f (w_impl_allValid x (sol_sm hx h.n4)) (by simp) rfl fun hs1 hh1 => ?_
  try simp at hh1
  simp
  refine loop_rule (X := Nat) (fun i => i ≤ x.length ∧ ∀ q ∈ x.take i, 0 ≤ q) (fun i => [(1, .d (.pl (x.map eQ))), (2, .d (.int .i64 1)), (3, .ptr 3 0 0), (29, .d (.pl (x.map eQ))), (30, .d (.int .i64 x.length)), (31, .d (.int .i64 i))])
    (fun _ => [(3, some (.box [.d (.pl (A.map (cP eQ))), .d (.pl ((List.replicate A.length (1 : _root_.Rat)).map eQ)), .d (.pl ((List.replicate n (1 : _root_.Rat)).map eQ))]))]) (fun i => x.length - i) 0 (by simp) (by simp [hxl]) (by simp) ?_
  intro i hs t m hi hh
  by_cases hlt : i < x.length
  · have hwi := wr1 (i := i) (by omega)
    by_cases hneg : x[i].num < 0
    · have hf : feasQ A x = false := by
        have : ¬ 0 ≤ x[i] := by rw [nneg_num]; omega
        rw [feasQ, Bool.and_eq_false_iff]
        left
        rw [List.all_eq_false]
        exact ⟨x[i], List.getElem_mem hlt, by simp [this]⟩
      simp [hlt, hneg, hf, s85_15, ]
    · have h0 : 0 ≤ x[i] := by rw [nneg_num]; omega
      simp [hlt, hneg, hwi, s85_15, ]
      refine back (i + 1) ⟨by omega, fun q hq => ?_⟩ (by omega) rfl (by simp <;> omega) (by simp) (by simp)
      rw [List.take_succ_eq_append_getElem hlt] at hq
      rcases List.mem_append.1 hq with hq | hq
      · exact hi.2 q hq
      · rw [List.mem_singleton.1 hq]; exact h0
  have hin : i = x.length := by omega
  obtain ⟨F, hF⟩ : ∃ F : List _root_.Rat → _root_.Rat, F = fun r => dotF x.length (fnL r) (fnL x) := ⟨_, rfl⟩
  have hall : x.all (fun q => decide (0 ≤ q)) = true := by
    rw [List.all_eq_true]; intro q hq
    exact decide_eq_true (hi.2 q (by rw [hin, List.take_of_length_le (Nat.le_refl _)]; exact hq))
  simp [hlt, s85_15, ]
  refine call_pq (post := fun _ r => r = .tup [.d (pS eQ (A.map F)), .d (.bool true)]) (by rw [hF]; exact w_impl_MatrixVectorProduct A x (by omega) (fun r hr => by rw [h.m01.len r hr, hxl]) (fun r hr => by rw [hxl]; exact h.dots hx hr)) (by simp) fun r2 n2 hs2 hn2 hm2 hp2 hl2 => ?_
  subst hp2
  try simp at hn2
  simp [s85_15, ]
  refine loop_rule (X := Nat) (fun j => j ≤ A.length ∧ ∀ r ∈ A.take j, 1 ≤ F r) (fun j => [(2, .d (.int .i64 1)), (3, .ptr 3 0 0), (48, .d (.pl ((A.map F).map eQ))), (49, .d (.int .i64 A.length)), (50, .d (.int .i64 j))])
    (fun _ => [(3, some (.box [.d (.pl (A.map (cP eQ))), .d (.pl ((List.replicate A.length (1 : _root_.Rat)).map eQ)), .d (.pl ((List.replicate n (1 : _root_.Rat)).map eQ))]))]) (fun j => A.length - j) 0 (by simp) (by simp) (by simp) ?_
  intro j hs3 t3 m3 hj hh3
  by_cases hlj : j < A.length
  · have hwj := wr1 (i := j) (by omega)
    have hm := List.getElem_mem hlj
    have hs := (h.dots hx hm).ss n (Nat.le_refl _)
    have hFj : smQ (F A[j]) := by rw [hF]; simp only [hxl]; exact hs
    have hw1 : ∀ z : Int, -1 ≤ z → z ≤ 1 → IntKind.i64.wrap z = z := fun z h1 h2 => wrap64_of (by omega) (by omega)
    have hcb : -1 ≤ cmpQ (F A[j]) 1 ∧ cmpQ (F A[j]) 1 ≤ 1 := by unfold cmpQ; split <;> (try split) <;> omega
    simp [hlj, s85_15, ]
    refine call_f (w_impl_CompareRationals (F A[j]) 1 hFj sm_one) (by simp) rfl fun hs4 hh4 => ?_
    try simp at hh4
    simp [hw1 _ hcb.1 hcb.2, hwj]
    by_cases hlt1 : F A[j] < 1
    · have hf : feasQ A x = false := by
        rw [feasQ, Bool.and_eq_false_iff]
        right
        rw [List.all_eq_false]
        refine ⟨A[j], hm, ?_⟩
        have : ¬ 1 ≤ dotF x.length (fnL A[j]) (fnL x) := by rw [hF] at hlt1; simp only at hlt1; grind
        simp [this]
      simp [cmpQ_lt.2 hlt1, hf]
    · have h0 : 1 ≤ F A[j] := by grind
      have hc : ¬ cmpQ (F A[j]) 1 < 0 := fun e => hlt1 (cmpQ_lt.1 e)
      simp [hc]
      refine back (j + 1) ⟨by omega, fun q hq => ?_⟩ (by omega) rfl (by simp <;> omega) (by simp) (by simp)
      rw [List.take_succ_eq_append_getElem hlj] at hq
      rcases List.mem_append.1 hq with hq | hq
      · exact hj.2 q hq
      · rw [List.mem_singleton.1 hq]; exact h0
  · have hf : feasQ A x = true := by
      rw [feasQ, hall, Bool.true_and, List.all_eq_true]
      intro r hr
      have := hj.2 r (by rw [List.take_of_length_le (by omega)]; exact hr)
      rw [hF] at this
      exact decide_eq_true this
    simp [hlj, hf]
theorem w_impl_bit (b : Bool) : VC Tryd.prog 51 [.d (.bool b)] (fun _ r => r = .d (.int .i64 (if b then 1 else 0))) := by
  refine VC.ofL EP s51 (by kernel_rfl) Tryd.func51 (by rfl) (by kernel_rfl) (by simp [Tryd.f51]) (by simp [Tryd.f51]) s51_ok fun B hl => ?_
  cases b <;> simp [Tryd.f51, ]
end

end Go.Proofs.YtpbcmlolapdfjaaDoor


namespace Go.Proofs.YtpbcmlolapdfjaaDoor
open Go.Vs Go.Proofs Go
set_option maxRecDepth 100000
set_option maxHeartbeats 1000000

section
attribute [local simp] pS cP eQ_def
theorem w_spec_l13Square (A : List (List _root_.Rat)) (n m : Nat) (hb : A.length ≤ 4294967296) (hm : m ≤ 4294967296) (hr : ∀ r ∈ A, r.length = m) (hs : ∀ r ∈ A, ∀ q ∈ r, smQ q) :
   VC Tryd.prog 64 [.d (pS (cP eQ) A), .d (.int .i64 n), .d (.int .i64 m)] (fun _ r => r = .d (.bool (decide (A.length = n)))) := by
  refine VC.ofL EP s64 (by kernel_rfl) Tryd.func64 (by rfl) (by kernel_rfl) (by simp [Tryd.f64]) (by simp [Tryd.f64]) s64_ok fun B hl => ?_
  clear hl
  simp [Tryd.f64, ]
  refine loop_rule (X := Nat) (fun i => i ≤ A.length) (fun i => [(0, .d (.pl (A.map (cP eQ)))), (1, .d (.int .i64 n)), (2, .d (.int .i64 m)), (7, .d (.int .i64 i))]) (fun _ => []) (fun i => A.length - i) 0 (by simp) (by simp) (by simp) ?_
  intro i hs0 t m0 hi hh
  by_cases hlt : i < A.length
  · have hwi := wr1 (i := i) (by omega)
    have hAm := List.getElem_mem hlt
    have hrl := hr _ hAm
    simp [hlt, hrl, ]
    refine loop_rule (X := Nat) (fun k => k ≤ m) (fun k => [(0, .d (.pl (A.map (cP eQ)))), (1, .d (.int .i64 n)), (2, .d (.int .i64 m)), (7, .d (.int .i64 i)), (8, .d (.int .i64 k))]) (fun _ => []) (fun k => m - k) 0 (by simp) (by simp) (by simp) ?_
    intro k hs1 t1 m1 hk hh1
    by_cases hkm : k < m
    · have hwk := wr1 (i := k) (by omega)
      have hkl : k < A[i].length := by omega
      refine anyQ fun Q => ?_
      simp [hlt, hkm, hkl, ]
      refine call_f (w_spec_IsValidRational A[i][k] (hs _ hAm _ (List.getElem_mem hkl))) (by simp) rfl fun hs2 hh2 => ?_
      try simp at hh2
      simp [hwk]
      exact back (k + 1) (by omega) (by omega) rfl (by simp <;> omega) (by simp) (by simp)
    · simp [hkm, hwi, ]
      exact back (i + 1) (by omega) (by omega) rfl (by simp <;> omega) (by simp) (by simp)
  · have hn : i = A.length := by omega
    subst hn
    simp
theorem w_spec_IsValidLinearProgram (A : List (List _root_.Rat)) (n : Nat) (h : LPok A n) :
   VC Tryd.prog 41 [.agg [.d (pS (cP eQ) A), .d (pS eQ (List.replicate A.length 1)), .d (pS eQ (List.replicate n 1))]] (fun _ r => r = .d (.bool true)) := by
  have h1 := h.n1
  have h2 := h.n4
  have h3 := h.m1
  have h4 := h.m5
  have e1 : inR (n : Int) 1 5 = true := by simp [inR]; omega
  have e2 : inR (A.length : Int) 1 5 = true := by simp [inR]; omega
  refine VC.ofL EP s41 (by kernel_rfl) Tryd.func41 (by rfl) (by kernel_rfl) (by simp [Tryd.f41]) (by simp [Tryd.f41]) s41_ok fun B hl => ?_
  clear hl
  simp [Tryd.f41, ]
  refine call_f (w_spec_l1In n 1 5) (by simp) rfl fun hs0 hh0 => ?_
  simp [e1]
  refine call_f (w_spec_l1In A.length 1 5) (by simp) rfl fun hs1 hh1 => ?_
  simp [e2]
  refine call_f (w_spec_l13Square A A.length n (by omega) (by omega) h.m01.len (fun r hr => h.sm hr)) (by simp) rfl fun hs2 hh2 => ?_
  simp
  refine call_f (w_spec_l13Square [List.replicate n 1] 1 n (by simp) (by omega) (by simp) (by simp [sm_one])) (by simp) rfl fun hs3 hh3 => ?_
  simp
  refine call_f (w_spec_l13Square [List.replicate A.length 1] 1 A.length (by simp) (by omega) (by simp) (by simp [sm_one])) (by simp) rfl fun hs3 hh3 => ?_
  simp
theorem w_spec_l14Plus (n : Nat) (hb : n ≤ 4294967296) : VC Tryd.prog 42 [.d (pS eQ (List.replicate n 1))] (fun _ r => r = .d (.bool true)) := by
  refine VC.ofL EP s42 (by kernel_rfl) Tryd.func42 (by rfl) (by kernel_rfl) (by simp [Tryd.f42]) (by simp [Tryd.f42]) s42_ok fun B hl => ?_
  clear hl
  simp [Tryd.f42, ]
  refine loop_rule (X := Nat) (fun i => i ≤ n) (fun i => [(0, .d (.pl ((List.replicate n (1 : _root_.Rat)).map eQ))), (3, .d (.int .i64 i))]) (fun _ => []) (fun i => n - i) 0 (by simp) (by simp) (by simp) ?_
  intro i hs t m hi hh
  by_cases hlt : i < n
  · have hwi := wr1 (i := i) (by omega)
    simp [hlt, hwi, ]
    exact back (i + 1) (by omega) (by omega) rfl (by simp <;> omega) (by simp) (by simp)
  · simp [hlt]
theorem w_spec_DotProduct (u v : List _root_.Rat) (hlen : u.length = v.length) (h : DotS u.length (fnL u) (fnL v)) :
   VC Tryd.prog 66 [.d (pS eQ u), .d (pS eQ v)] (fun _ r => r = .tup [.agg [.d (.int .i64 (dotF u.length (fnL u) (fnL v)).num), .d (.int .i64 ((dotF u.length (fnL u) (fnL v)).den : Int))], .d (.bool true)]) := by
  refine VC.ofL EP s66 (by kernel_rfl) Tryd.func66 (by rfl) (by kernel_rfl) (by simp [Tryd.f66]) (by simp [Tryd.f66]) s66_ok fun B hl => ?_
  simp [maxLen] at hl
  simp [Tryd.f66, s66_7, s66_7, hlen]
  refine loop_rule (X := Nat) (fun i => i ≤ v.length) (fun i => [(0, .d (.pl (u.map eQ))), (1, .d (.pl (v.map eQ))), (4, .ptr 4 0 0), (6, .ptr 6 0 0), (7, .d (.int .i64 i))]) (fun i => [(4, some (.box [.d (.int .i64 0), .d (.int .i64 0)])), (6, some (.box [.d (.int .i64 (dotF i (fnL u) (fnL v)).num), .d (.int .i64 ((dotF i (fnL u) (fnL v)).den : Int))]))]) (fun i => v.length - i) 0 (by simp) (by simp) (by simp [dotF]) ?_
  intro i hs t m hi hh
  by_cases hlt : i < v.length
  · have hwi := wr1 (i := i) (by omega)
    have hlu : i < u.length := by omega
    have a1 := h.sa i hlu
    have a2 := h.sx i hlu
    have a3 := h.sm i hlu
    have a4 := h.ss i (by omega)
    have a5 := h.ss (i + 1) (by omega)
    have e : dotF (i + 1) (fnL u) (fnL v) = dotF i (fnL u) (fnL v) + u[i] * v[i] := by rw [dotF, fnL_at hlu, fnL_at hlt]
    rw [fnL_at hlu] at a1 a3
    rw [fnL_at hlt] at a2 a3
    rw [e] at a5
    simp [hlt, hlu, hlen, s66_7, ]
    refine ⟨?_, ?_⟩
    all_goals
      refine call_f (w_spec_MulRational u[i] v[i] a1 a2 a3) (by simp) rfl fun hs1 hh1 => ?_
      try simp at hh1
      simp [s66_7, ]
      refine call_f (w_spec_AddRational (dotF i (fnL u) (fnL v)) (u[i] * v[i]) a4 a3 a5) (by simp) rfl fun hs2 hh2 => ?_
      try simp at hh2
      simp [hwi, s66_7, ]
      exact back (i + 1) (by omega) (by omega) rfl (by simp <;> omega) (by simp) (by simp [e])
  · have hn : i = v.length := by omega
    simp [hlt, hn, hlen, s66_7, ]
theorem w_spec_MatrixVectorProduct (A : List (List _root_.Rat)) (x : List _root_.Rat) (hb : A.length ≤ 4294967296) (hr : ∀ r ∈ A, r.length = x.length) (h : ∀ r ∈ A, DotS x.length (fnL r) (fnL x)) :
   VC Tryd.prog 93 [.d (pS (cP eQ) A), .d (pS eQ x)] (fun _ r => r = .tup [.d (pS eQ (A.map fun r => dotF x.length (fnL r) (fnL x))), .d (.bool true)]) := by
  refine VC.ofL EP s93 (by kernel_rfl) Tryd.func93 (by rfl) (by kernel_rfl) (by simp [Tryd.f93]) (by simp [Tryd.f93]) s93_ok fun B hl => ?_
  clear hl
  simp [Tryd.f93, ]
  obtain ⟨F, hF⟩ : ∃ F : List _root_.Rat → _root_.Rat, F = fun r => dotF x.length (fnL r) (fnL x) := ⟨_, rfl⟩
  refine loop_rule (X := Nat) (fun i => i ≤ A.length) (fun i => [(0, .d (.pl (A.map (cP eQ)))), (1, .d (.pl (x.map eQ))), (6, .own 10 0 i), (7, .d (.int .i64 i))]) (fun i => [(10, some (.row 28 2 (((A.take i).map F).map eQ)))]) (fun i => A.length - i) 0 (by simp) (by simp) (by simp) ?_
  intro i hs t m hi hh
  by_cases hlt : i < A.length
  · have hwi := wr1 (i := i) (by omega)
    have hL : LenOk 16 (i + 1) := ⟨by omega, by simp only [maxLen]; omega⟩
    have hm := List.getElem_mem hlt
    have hd := h _ hm
    have hrl := hr _ hm
    have hst : (A.map (eQ ∘ F)).take (i + 1) = (A.map (eQ ∘ F)).take i ++ [eQ (F A[i])] := by rw [List.take_succ_eq_append_getElem (by simpa using hlt)]; simp
    have hFi : F A[i] = dotF A[i].length (fnL A[i]) (fnL x) := by rw [hF, hrl]
    have hmin : min i A.length = i := by omega
    simp [hlt, ]
    refine call_f (w_spec_DotProduct A[i] x hrl (by rw [hrl]; exact hd)) (by simp) rfl fun hs1 hh1 => ?_
    try simp at hh1
    rw [← hFi]
    simp [hwi, hL, hmin, ]
    exact back (i + 1) (by omega) (by omega) rfl (by simp <;> omega) (by simp) (by simp [hst])
  · have hn : i = A.length := by omega
    subst hn
    simp [List.take_of_length_le, hF]
theorem w_spec_EqualRationals (a b : List _root_.Rat) : VC Tryd.prog 77 [.d (pS eQ a), .d (pS eQ b)] (fun _ r => r = .d (.bool (decide (a = b)))) := by
  refine VC.ofL EP s77 (by kernel_rfl) Tryd.func77 (by rfl) (by kernel_rfl) (by simp [Tryd.f77]) (by simp [Tryd.f77]) s77_ok fun B hl => ?_
  simp [maxLen] at hl
  by_cases hlen : a.length = b.length
  case neg =>
    have : a ≠ b := fun e => hlen (by rw [e])
    simp [Tryd.f77, s77_6, s77_6, hlen, this]
  simp [Tryd.f77, s77_6, s77_6, hlen]
  refine loop_rule (X := Nat) (fun i => i ≤ b.length ∧ a.take i = b.take i) (fun i => [(0, .d (.pl (a.map eQ))), (1, .d (.pl (b.map eQ))), (5, .d (.int .i64 i))]) (fun _ => []) (fun i => b.length - i) 0 (by simp) (by simp) (by simp) ?_
  intro i hs t m hi hh
  by_cases hlt : i < b.length
  · have hwi := wr1 (i := i) (by omega)
    have hla : i < a.length := by omega
    have hst := eq_step hla hlt hi.2
    have hq : a[i] = b[i] ↔ (a[i].num = b[i].num ∧ (a[i].den : Int) = b[i].den) := by
      rw [← qR_inj, PRat.eq_iff]; rfl
    by_cases he : a[i] = b[i]
    · simp [hlt, hla, he, hwi, hlen, s77_6, ]
      exact back (i + 1) ⟨by omega, hst.1 he⟩ (by omega) rfl (by simp <;> omega) (by simp) (by simp)
    · have hab : a ≠ b := fun e => he (by subst e; rfl)
      rw [hq] at he
      by_cases h1 : a[i].num = b[i].num
      · have h2 : ¬ a[i].den = b[i].den := fun e => he ⟨h1, by rw [e]⟩
        simp [hlt, hla, h1, h2, hab, hlen, s77_6, ]
      · simp [hlt, hla, h1, hab, hlen, s77_6, ]
  · have hab : a = b := eq_all (by omega) hlen hi.2
    simp [hlt, hab, s77_6, ]
theorem w_spec_l14Side (A : List (List _root_.Rat)) (n : Nat) (x : List _root_.Rat) (h : LPok A n) (hx : SolB n x) :
   VC Tryd.prog 76 [.agg [.d (pS (cP eQ) A), .d (pS eQ (List.replicate A.length 1)), .d (pS eQ (List.replicate n 1))], .d (pS eQ x), .d (.int .i64 1)] (fun _ r => r = .d (.bool (feasQ A x))) := by
  have hxl := hx.len
  have hn4 := h.n4
  have hm5 := h.m5
  have hxs := sol_sm hx h.n4
  refine VC.ofL EP s76 (by kernel_rfl) Tryd.func76 (by rfl) (by kernel_rfl) (by simp [Tryd.f76]) (by simp [Tryd.f76]) s76_ok fun B hl => ?_
  clear hl
  simp [Tryd.f76, s76_12, s76_12, ]
  refine call_f (w_spec_IsValidLinearProgram A n h) (by simp) rfl fun hs0 hh0 => ?_
  try simp at hh0
  simp [hxl]
  refine loop_rule (X := Nat) (fun i => i ≤ x.length ∧ ∀ q ∈ x.take i, 0 ≤ q) (fun i => [(1, .d (.pl (x.map eQ))), (2, .d (.int .i64 1)), (3, .ptr 3 0 0), (7, .d (.int .i64 i))])
    (fun _ => [(3, some (.box [.d (.pl (A.map (cP eQ))), .d (.pl ((List.replicate A.length (1 : _root_.Rat)).map eQ)), .d (.pl ((List.replicate n (1 : _root_.Rat)).map eQ))]))]) (fun i => x.length - i) 0 (by simp) (by simp) (by simp) ?_
  intro i hs t m hi hh
  by_cases hlt : i < x.length
  · have hwi := wr1 (i := i) (by omega)
    simp [hlt, s76_12, ]
    refine call_f (w_spec_IsValidRational x[i] (hxs _ (List.getElem_mem hlt))) (by simp) rfl fun hs1 hh1 => ?_
    try simp at hh1
    by_cases hneg : x[i].num < 0
    · have hf : feasQ A x = false := by
        have : ¬ 0 ≤ x[i] := by rw [nneg_num]; omega
        rw [feasQ, Bool.and_eq_false_iff]
        left
        rw [List.all_eq_false]
        exact ⟨x[i], List.getElem_mem hlt, by simp [this]⟩
      simp [hlt, hneg, hf, s76_12, ]
    · have h0 : 0 ≤ x[i] := by rw [nneg_num]; omega
      simp [hlt, hneg, hwi, s76_12, ]
      refine back (i + 1) ⟨by omega, fun q hq => ?_⟩ (by omega) rfl (by simp <;> omega) (by simp) (by simp)
      rw [List.take_succ_eq_append_getElem hlt] at hq
      rcases List.mem_append.1 hq with hq | hq
      · exact hi.2 q hq
      · rw [List.mem_singleton.1 hq]; exact h0
  have hin : i = x.length := by omega
  obtain ⟨F, hF⟩ : ∃ F : List _root_.Rat → _root_.Rat, F = fun r => dotF x.length (fnL r) (fnL x) := ⟨_, rfl⟩
  have hall : x.all (fun q => decide (0 ≤ q)) = true := by
    rw [List.all_eq_true]; intro q hq
    exact decide_eq_true (hi.2 q (by rw [hin, List.take_of_length_le (Nat.le_refl _)]; exact hq))
  simp [hlt, s76_12, ]
  refine call_pq (post := fun _ r => r = .tup [.d (pS eQ (A.map F)), .d (.bool true)]) (by rw [hF]; exact w_spec_MatrixVectorProduct A x (by omega) (fun r hr => by rw [h.m01.len r hr, hxl]) (fun r hr => by rw [hxl]; exact h.dots hx hr)) (by simp) fun r2 n2 hs2 hn2 hm2 hp2 hl2 => ?_
  subst hp2
  try simp at hn2
  simp [s76_12, ]
  refine loop_rule (X := Nat) (fun j => j ≤ A.length ∧ ∀ r ∈ A.take j, 1 ≤ F r) (fun j => [(2, .d (.int .i64 1)), (3, .ptr 3 0 0), (8, .d (.pl ((A.map F).map eQ))), (9, .d (.bool true)), (10, .d (.int .i64 j))])
    (fun _ => [(3, some (.box [.d (.pl (A.map (cP eQ))), .d (.pl ((List.replicate A.length (1 : _root_.Rat)).map eQ)), .d (.pl ((List.replicate n (1 : _root_.Rat)).map eQ))]))]) (fun j => A.length - j) 0 (by simp) (by simp) (by simp) ?_
  intro j hs3 t3 m3 hj hh3
  by_cases hlj : j < A.length
  · have hwj := wr1 (i := j) (by omega)
    have hm := List.getElem_mem hlj
    have hs := (h.dots hx hm).ss n (Nat.le_refl _)
    have hFj : smQ (F A[j]) := by rw [hF]; simp only [hxl]; exact hs
    have hw1 : ∀ z : Int, -1 ≤ z → z ≤ 1 → IntKind.i64.wrap z = z := fun z h1 h2 => wrap64_of (by omega) (by omega)
    have hcb : -1 ≤ cmpQ (F A[j]) 1 ∧ cmpQ (F A[j]) 1 ≤ 1 := by unfold cmpQ; split <;> (try split) <;> omega
    simp [hlj, s76_12, ]
    refine call_f (w_spec_CompareRationals (F A[j]) 1 hFj sm_one) (by simp) rfl fun hs4 hh4 => ?_
    try simp at hh4
    simp [hw1 _ hcb.1 hcb.2, hwj]
    by_cases hlt1 : F A[j] < 1
    · have hf : feasQ A x = false := by
        rw [feasQ, Bool.and_eq_false_iff]
        right
        rw [List.all_eq_false]
        refine ⟨A[j], hm, ?_⟩
        have : ¬ 1 ≤ dotF x.length (fnL A[j]) (fnL x) := by rw [hF] at hlt1; simp only at hlt1; grind
        simp [this]
      simp [cmpQ_lt.2 hlt1, hf]
    · have h0 : 1 ≤ F A[j] := by grind
      have hc : ¬ cmpQ (F A[j]) 1 < 0 := fun e => hlt1 (cmpQ_lt.1 e)
      simp [hc]
      refine back (j + 1) ⟨by omega, fun q hq => ?_⟩ (by omega) rfl (by simp <;> omega) (by simp) (by simp)
      rw [List.take_succ_eq_append_getElem hlj] at hq
      rcases List.mem_append.1 hq with hq | hq
      · exact hj.2 q hq
      · rw [List.mem_singleton.1 hq]; exact h0
  · have hf : feasQ A x = true := by
      rw [feasQ, hall, Bool.true_and, List.all_eq_true]
      intro r hr
      have := hj.2 r (by rw [List.take_of_length_le (by omega)]; exact hr)
      rw [hF] at this
      exact decide_eq_true this
    simp [hlj, hf]
end

end Go.Proofs.YtpbcmlolapdfjaaDoor


namespace Go.Proofs.YtpbcmlolapdfjaaDoor
open Go.Vs Go.Proofs Go
set_option maxRecDepth 100000
set_option maxHeartbeats 1000000

@[simp] theorem startX3 (a b c : V) (W : List Nat) (B : Nat) : St.startX [a, b, c] W none B = ⟨B, B, W, upd (upd (upd (fun _ => .tup []) 2 c) 1 b) 0 a, fun _ => none⟩ := by
  simp only [St.startX, St.mk.injEq, true_and]
  refine ⟨?_, startX_m W⟩
  funext i; match i with | 0 => rfl | 1 => rfl | 2 => rfl | _ + 3 => rfl
section
attribute [local simp] pS cP eQ_def
theorem x_impl_eliminate (g gp : Nat) (T : TypeId × Nat) (Tp : Option (TypeId × Nat)) (p n : Nat) (v r : List _root_.Rat) (h : ElimS n p v r) (hn : n ≤ 4) (hg : gp ≠ g) :
   VX Tryd.prog 95 [g] [.d (.sl (some g) (some T) (r.map eQ)), .d (.sl (some gp) Tp (v.map eQ)), .d (.int .i64 p)] none (fun _ res _ ws => res = .d (.bool true) ∧ ws = [.sl (some g) (some T) ((elimR p v r).map eQ)]) := by
  refine VX.of E s95 (by kernel_rfl) Tryd.func95 (by rfl) (by kernel_rfl) (by simp [Tryd.f95]) (by simp [Tryd.f95]) s95_ok ?_ ?_ fun B hB => ?_
  · exact fun q hq => .inl (by simp [idsVL, V.ids, D.ids]; simp at hq; exact .inl hq)
  · exact fun cs h => nomatch h
  have hlr := h.lr
  have hlv := h.lv
  have hp := h.hp
  have ep : fnL r p = r[p]'(by omega) := fnL_at (by omega)
  have ev : fnL v p = v[p]'(by omega) := fnL_at (by omega)
  have hf := h.f
  have hr1 := h.r p hp
  have hv1 := h.v p hp
  have hne := h.ne
  obtain ⟨f, hfd⟩ : ∃ f, f = fnL r p / fnL v p := ⟨_, rfl⟩
  rw [← hfd] at hf
  have hdiv := w_impl_DivRational (fnL r p) (fnL v p) hr1 hv1 hne (by rw [← hfd]; exact hf)
  rw [← hfd, ep, ev] at hdiv
  have hpv : ∀ d, reV (one g d) (.d (.sl (some gp) Tp (v.map eQ))) = .d (.sl (some gp) Tp (v.map eQ)) := fun d => by
    have : one g d gp = none := one_out hg
    simp [reV, reD, this]
  simp [Tryd.f95, s95_1, s95_7, s95_8, s95_1, s95_7, s95_8, show p < r.length by omega, show p < v.length by omega]
  refine ⟨?_, ?_⟩
  all_goals
    refine call_pure hdiv rfl (by simp) rfl fun hs0 hh0 => ?_
    try simp at hh0
    simp [s95_1, s95_7, s95_8, ]
    refine loop_rule (X := Nat) (fun k => p ≤ k ∧ k ≤ n + 1) (fun k => [(0, .d (.sl (some g) (some T) ((elimT p k v r).map eQ))), (1, .d (.sl (some gp) Tp (v.map eQ))), (7, .ptr 7 0 0), (9, .d (.int .i64 k))]) (fun k => [(7, some (.box [.d (.int .i64 f.num), .d (.int .i64 (f.den : Int))]))]) (fun k => n + 1 - k) p (by omega) (by simp [elimT_zero]) (by simp) ?_
    intro k hs t m hk hh
    by_cases hlt : k < n + 1
    · have hwk := wr1 (i := k) (by omega)
      have hkr : k < r.length := by omega
      have hkv : k < v.length := by omega
      have hqk := h.q k (by omega)
      have hdk := h.d k (by omega)
      have hrk := h.r k (by omega)
      have hvk := h.v k (by omega)
      have est := elimT_succ (piv := v) hk.1 hkr
      rw [← hfd, fnL_at hkv] at hqk
      rw [fnL_at hkv] at hvk
      rw [fnL_at hkr] at hrk
      rw [← hfd, fnL_at hkv, fnL_at hkr] at hdk
      rw [← hfd, fnL_at hkv] at est
      have hat := elimT_at (p := p) (piv := v) hkr
      obtain ⟨y, hy⟩ : ∃ y, y = r[k] - f * v[k] := ⟨_, rfl⟩
      have hmul := w_impl_MulRational f v[k] hf hvk hqk
      have hsub := w_impl_SubRational r[k] (f * v[k]) hrk hqk hdk
      rw [← hy] at hsub est
      obtain ⟨L, hL⟩ : ∃ L, L = elimT p k v r := ⟨_, rfl⟩
      have hLl : L.length = n + 1 := by rw [hL]; simp [hlr]
      have hLk : k < L.length := by omega
      have hat' : L[k] = r[k] := by subst hL; exact hat
      rw [← hL] at est ⊢
      have est2 : (L.map eQ).set k [.int .i64 y.num, .int .i64 (y.den : Int)] = (elimT p (k + 1) v r).map eQ := by
        rw [est, ← set_map]; rfl
      have hLl2 : (elimT p (k + 1) v r).length = L.length := by rw [est]; simp
      have hself := re_self (g := g) (T := T) hLl2
      simp [hLk, hkv, s95_1, s95_7, s95_8, ]
      refine ⟨?_, ?_⟩
      all_goals
        refine call_pure hmul rfl (by simp) rfl fun hs1 hh1 => ?_
        try simp at hh1
        simp [hLk, hat', s95_1, s95_7, s95_8, ]
        refine ⟨?_, ?_⟩
        all_goals
          refine call_pure hsub rfl (by simp) rfl fun hs2 hh2 => ?_
          try simp at hh2
          simp [hLk, est2, hpv, hself, hwk, s95_1, s95_7, s95_8, ]
          refine back (k + 1) (by omega) (by omega) rfl (by simp <;> omega) (by simp) (by simp)
    · have hkn : k = n + 1 := by omega
      subst hkn
      simp [hlr, vendX, s95_1, s95_7, s95_8, ]
      refine ⟨[0], fun γ hs' h1 h2 => ?_⟩
      simp [elimT_all (show r.length ≤ n + 1 by omega)]
end

end Go.Proofs.YtpbcmlolapdfjaaDoor


namespace Go.Proofs.YtpbcmlolapdfjaaDoor
open Go.Vs Go.Proofs Go
set_option maxRecDepth 100000
set_option maxHeartbeats 1000000

theorem w_condI {P : Program} {E : Md} {sch : Nat → Tr} {Q : Exit → St → Prop} {σ : St} (c : Operand) (x y : Code) : vwp P E sch (.cond c x y) Q σ = (isBool (σ.ev c) = true ∧ if getB (σ.ev c) = true then vwp P E sch x Q σ else vwp P E sch y Q σ) := by
  rw [w_cond]
  cases getB (σ.ev c) <;> simp
section
attribute [local simp] pS cP eQ_def
theorem x_spec_l13Step (gm : Nat) (TM : Option (TypeId × Nat)) (T : TypeId × Nat) (rows : List (Nat × List _root_.Rat)) (p n : Nat) (hn : n ≤ 4) (hl : rows.length = n) (hp : p < n) (hnd : (rows.map (·.1)).Nodup) (hgm : gm ∉ rows.map (·.1))
   (hlen : ∀ r ∈ rows, r.2.length = n + 1) (hs : ∀ i (hi : i < rows.length), ElimS n p (rows[p]'(by omega)).2 rows[i].2) :
   VX Tryd.prog 91 (rows.map (·.1)) [.d (.sl (some gm) TM (rows.map (cR T))), .d (.int .i64 p)] none
    (fun _ res _ ws => res = .d (.bool true) ∧ ∃ rows' : List (Nat × List _root_.Rat), rows'.map (·.1) = rows.map (·.1) ∧ rows'.map (·.2) = stepM p (rows.map (·.2)) ∧ ws = [.sl (some gm) TM (rows'.map (cR T))]) := by
  refine VX.of E s91 (by kernel_rfl) Tryd.func91 (by rfl) (by kernel_rfl) (by simp [Tryd.f91]) (by simp [Tryd.f91]) s91_ok ?_ ?_ fun B hB => ?_
  · exact fun q hq => .inl (by simp only [idsVL, V.ids, D.ids, List.append_nil, ids_cRs]; exact List.mem_append_right _ hq)
  · exact fun cs h => nomatch h
  obtain ⟨M, hM⟩ : ∃ M, M = rows.map (·.2) := ⟨_, rfl⟩
  obtain ⟨ids, hids⟩ : ∃ ids, ids = rows.map (·.1) := ⟨_, rfl⟩
  have hMl : M.length = n := by rw [hM]; simpa using hl
  have hil : ids.length = n := by rw [hids]; simpa using hl
  have hMi : ∀ i (hi : i < rows.length), M[i]'(by omega) = rows[i].2 := fun i hi => by subst hM; simp
  rw [← hM]
  simp [-w_condT, w_condI, Tryd.f91, s91_5, s91_9, s91_10, s91_12, s91_5, s91_9, s91_10, s91_12, ]
  refine loop_rule (X := Nat × List (Nat × List _root_.Rat)) (fun x => x.1 ≤ n ∧ x.2.map (·.1) = ids ∧ x.2.map (·.2) = stepQ p x.1 M) (fun x => [(0, .d (.sl (some gm) TM (x.2.map (cR T)))), (1, .d (.int .i64 p)), (5, .d (.int .i64 x.1))]) (fun _ => []) (fun x => n - x.1) (0, rows) ⟨by omega, hids.symm, by rw [stepQ_zero]; exact hM.symm⟩ (by simp) (by simp) ?_
  rintro ⟨i, R⟩ hs0 t m ⟨h1, h2, h3⟩ hh
  simp only at h1 h2 h3
  have hRl : R.length = n := by have := congrArg List.length h2; simpa [hil] using this
  by_cases hlt : i < n
  · have hwi := wr1 (i := i) (by omega)
    by_cases hip : i = p
    · subst hip
      simp [-w_condT, w_condI, hRl, hlt, hwi, s91_5, s91_9, s91_10, s91_12, ]
      exact back (i + 1, R) ⟨by simp only; omega, h2, by rw [h3]; exact stepQ_p.symm⟩ (by simp only; omega) rfl (by simp <;> omega) (by simp) (by simp)
    have hiR : i < R.length := by omega
    have hpR : p < R.length := by omega
    obtain ⟨gi, r, hRi⟩ : ∃ gi r, R[i] = (gi, r) := ⟨_, _, rfl⟩
    obtain ⟨gp, v, hRp⟩ : ∃ gp v, R[p] = (gp, v) := ⟨_, _, rfl⟩
    have hE := hs i (by omega)
    have er : r = rows[i].2 := by
      have a1 : (R.map (·.2))[i]'(by simpa using hiR) = r := by simp [hRi]
      have a2 : (stepQ p i M)[i]'(by simp; omega) = rows[i].2 := by rw [stepQ_at (by omega)]; exact hMi i (by omega)
      rw [← a1, ← a2]; congr 1
    have ev : v = (rows[p]'(by omega)).2 := by
      have a1 : (R.map (·.2))[p]'(by simpa using hpR) = v := by simp [hRp]
      have a2 : (stepQ p i M)[p]'(by simp; omega) = (rows[p]'(by omega)).2 := by rw [stepQ_piv (by omega)]; exact hMi p (by omega)
      rw [← a1, ← a2]; congr 1
    rw [← er, ← ev] at hE
    have hRnd : (R.map (·.1)).Nodup := by rw [h2, hids]; exact hnd
    have gi1 : (R.map (·.1))[i]? = some gi := by simp [hiR, hRi]
    have gp1 : (R.map (·.1))[p]? = some gp := by simp [hpR, hRp]
    have hgip : gp ≠ gi := fun e => hip (nd_idx hRnd gi1 (by rw [gp1, e]))
    have hgi : gi ∈ ids := by rw [← h2]; exact List.mem_of_getElem? gi1
    have hgim : gi ≠ gm := fun e => hgm (by rw [← e, ← hids]; exact hgi)
    have hlr := hE.lr
    have hlv := hE.lv
    obtain ⟨es, hes⟩ : ∃ es, es = R.map (cR T) := ⟨_, rfl⟩
    have hesl : es.length = n := by rw [hes]; simpa using hRl
    have hei : es[i]'(by omega) = [.sl (some gi) (some T) (r.map eQ)] := by subst hes; simp [hRi, cR]
    have hep : es[p]'(by omega) = [.sl (some gp) (some T) (v.map eQ)] := by subst hes; simp [hRp, cR]
    have hpr : p < r.length := by omega
    have hpv' : p < v.length := by omega
    have hst : stepQ p (i + 1) M = (stepQ p i M).set i (elimR p v r) := by
      rw [stepQ_succ (by omega) (by omega) hip]
      rw [hMi i (by omega), hMi p (by omega), ← er, ← ev]
    rw [← hes]
    by_cases hz : r[p].num = 0
    · have hz' : fnL r p = 0 := by rw [fnL_at hpr]; exact _root_.Rat.num_eq_zero.1 hz
      simp [-w_condT, w_condI, hesl, hlt, hip, hp, hei, hpr, hz, hwi, s91_5, s91_9, s91_10, s91_12, ]
      refine back (i + 1, R) ⟨by simp only; omega, h2, ?_⟩ (by simp only; omega) rfl (by simp <;> omega) (by simp [hes]) (by simp)
      rw [h3, hst, elim_zero hz']
      rw [set_same]
      rw [List.getElem?_eq_getElem (by simp; omega), stepQ_at (by omega), hMi i (by omega), ← er]
    have ep : fnL r p = r[p] := fnL_at hpr
    have ew : fnL v p = v[p] := fnL_at hpv'
    have hf := hE.f
    have hr1 := hE.r p (by omega)
    have hv1 := hE.v p (by omega)
    have hne := hE.ne
    obtain ⟨f, hfd⟩ : ∃ f, f = fnL r p / fnL v p := ⟨_, rfl⟩
    rw [← hfd] at hf
    have hdiv := w_spec_DivRational (fnL r p) (fnL v p) hr1 hv1 hne (by rw [← hfd]; exact hf)
    rw [← hfd, ep, ew] at hdiv
    simp [-w_condT, w_condI, hesl, hlt, hip, hp, hei, hep, hpr, hpv', hz, s91_5, s91_9, s91_10, s91_12, ]
    refine ⟨?_, ?_⟩
    all_goals
      refine call_pure hdiv rfl (by simp) rfl fun hs1 hh1 => ?_
      try simp at hh1
      simp [-w_condT, w_condI, s91_5, s91_9, s91_10, s91_12, ]
      refine loop_rule (X := Nat) (fun k => p ≤ k ∧ k ≤ n + 1) (fun k => [(0, .d (.sl (some gm) TM ((R.set i (gi, elimT p k v r)).map (cR T)))), (1, .d (.int .i64 p)), (5, .d (.int .i64 i)), (6, .ptr 6 0 0), (7, .d (.bool true)), (8, .d (.int .i64 k))]) (fun _ => [(6, some (.box [.d (.int .i64 f.num), .d (.int .i64 (f.den : Int))]))]) (fun k => n + 1 - k) p (by omega) ?_ (by simp) ?_
      · rw [elimT_zero, ← hRi, List.set_getElem_self]
        simp [hes]
      intro k hs2 t2 m2 hk hh2
      obtain ⟨L, hL⟩ : ∃ L, L = elimT p k v r := ⟨_, rfl⟩
      have hLl : L.length = n + 1 := by rw [hL]; simp [hlr]
      rw [← hL]
      obtain ⟨es2, hes2⟩ : ∃ es2, es2 = (R.set i (gi, L)).map (cR T) := ⟨_, rfl⟩
      have hes2l : es2.length = n := by rw [hes2]; simpa using hRl
      have hei2 : es2[i]'(by omega) = [.sl (some gi) (some T) (L.map eQ)] := by subst hes2; simp [cR]
      have hep2 : es2[p]'(by omega) = [.sl (some gp) (some T) (v.map eQ)] := by subst hes2; simp [List.getElem_set, hip, hRp, cR]
      by_cases hltk : k < n + 1
      · have hwk := wr1 (i := k) (by omega)
        have hkr : k < r.length := by omega
        have hkv : k < v.length := by omega
        have hkL : k < L.length := by omega
        have hqk := hE.q k (by omega)
        have hdk := hE.d k (by omega)
        have hrk := hE.r k (by omega)
        have hvk := hE.v k (by omega)
        have est := elimT_succ (piv := v) hk.1 hkr
        rw [← hfd, fnL_at hkv] at hqk
        rw [fnL_at hkv] at hvk
        rw [fnL_at hkr] at hrk
        rw [← hfd, fnL_at hkv, fnL_at hkr] at hdk
        rw [← hfd, fnL_at hkv] at est
        have hat := elimT_at (p := p) (piv := v) hkr
        obtain ⟨y, hy⟩ : ∃ y, y = r[k] - f * v[k] := ⟨_, rfl⟩
        have hmul := w_spec_MulRational f v[k] hf hvk hqk
        have hsub := w_spec_SubRational r[k] (f * v[k]) hrk hqk hdk
        rw [← hy] at hsub est
        have hat' : L[k] = r[k] := by subst hL; exact hat
        rw [← hL] at est
        have est2 : (L.map eQ).set k [.int .i64 y.num, .int .i64 (y.den : Int)] = (elimT p (k + 1) v r).map eQ := by
          rw [est, ← set_map]; rfl
        have hLl2 : (elimT p (k + 1) v r).length = L.length := by rw [est]; simp
        have hre : reV (one gi (.sl (some gi) (some T) ((elimT p (k + 1) v r).map eQ))) (.d (.sl (some gm) TM es2)) = .d (.sl (some gm) TM ((R.set i (gi, elimT p (k + 1) v r)).map (cR T))) := by
          have hfs : (R.set i (gi, L)).map (·.1) = R.map (·.1) := by
            rw [List.map_set]; exact set_same gi1
          have := re_rowQ (φ := one gi (.sl (some gi) (some T) ((elimT p (k + 1) v r).map eQ))) (gm := gm) (TM := TM) (T := T) (rows := R.set i (gi, L)) (i := i) (g := gi) (r := L) (r' := elimT p (k + 1) v r) (by simp [hiR]) hLl2 (by rw [hfs]; exact hRnd) (one_out (Ne.symm hgim)) (by simp [one]) (fun q _ hqg => one_out hqg)
          rw [hes2, this, List.set_set]
        rw [← hes2]
        simp [-w_condT, w_condI, hes2l, hlt, hp, hei2, hep2, hkL, hkv, s91_5, s91_9, s91_10, s91_12, ]
        refine ⟨?_, ?_⟩
        all_goals
          refine call_pure hmul rfl (by simp) rfl fun hs3 hh3 => ?_
          try simp at hh3
          simp [-w_condT, w_condI, hes2l, hlt, hei2, hkL, hat', s91_5, s91_9, s91_10, s91_12, ]
          refine ⟨?_, ?_⟩
          all_goals
            refine call_pure hsub rfl (by simp) rfl fun hs4 hh4 => ?_
            try simp at hh4
            simp [-w_condT, w_condI, hes2l, hlt, hei2, hkL, est2, hre, hwk, s91_5, s91_9, s91_10, s91_12, ]
            refine ⟨.inr ?_, ?_⟩
            · rw [hids] at hgi; simpa using hgi
            exact back (k + 1) (by omega) (by omega) rfl (by simp <;> omega) (by simp) (by simp)
      · have hkn : k = n + 1 := by omega
        have hLL : L = elimR p v r := by rw [hL]; exact elimT_all (by omega)
        rw [← hes2]
        simp [-w_condT, w_condI, hes2l, hlt, hei2, hkn, hLl, hwi, s91_5, s91_9, s91_10, s91_12, ]
        refine back (i + 1, R.set i (gi, L)) ⟨by simp only; omega, ?_, ?_⟩ (by simp only; omega) rfl (by simp <;> omega) (by simp [hes2]) (by simp)
        · simp only [List.map_set]; rw [← h2]; exact set_same gi1
        · simp only [List.map_set]; rw [h3, hst, hLL]
  · have hin : i = n := by omega
    subst hin
    simp [-w_condT, w_condI, hRl, vendX, s91_5, s91_9, s91_10, s91_12, ]
    refine ⟨[0], fun γ hs' _ _ => ?_⟩
    simp
    exact ⟨R, by rw [h2, hids], by rw [h3]; exact stepQ_all (by omega), rfl⟩
end

end Go.Proofs.YtpbcmlolapdfjaaDoor


namespace Go.Proofs.YtpbcmlolapdfjaaDoor
open Go.Vs Go.Proofs Go
set_option maxRecDepth 100000
set_option maxHeartbeats 1000000

section
attribute [local simp] pS cP eQ_def
theorem e_impl_copyRationals1 (l : List _root_.Rat) (hb : l.length ≤ 4294967296) (hne : l ≠ []) :
   VC Tryd.prog 81 [.d (pS eQ l)] (fun n r => ∃ g : Nat, r = .d (.sl (some g) (some (28, 2)) (l.map eQ)) ∧ n ≤ g) :=
  (e_impl_copyRationals l hb).weak fun n r ⟨g, h1, h2, h3⟩ => by
    cases g with
    | none => exact absurd (h3 rfl) hne
    | some g => exact ⟨g, h1, h2 g rfl⟩
/-- the rows that are laid so far -/
structure RowI (R : List (List _root_.Rat)) (B i : Nat) (rows : List (Nat × List _root_.Rat)) (hs : Nat) : Prop where
  le : i ≤ R.length
  snd : rows.map (·.2) = R.take i
  nd : (rows.map (·.1)).Nodup
  lo : ∀ g ∈ rows.map (·.1), B ≤ g
  hi : ∀ g ∈ rows.map (·.1), g < hs
theorem RowI.len {R : List (List _root_.Rat)} {B i hs : Nat} {rows : List (Nat × List _root_.Rat)} (h : RowI R B i rows hs) : rows.length = i := by
  have h1 := congrArg List.length h.snd
  have h2 := h.le
  simp only [List.length_map, List.length_take] at h1
  omega
theorem RowI.snoc {R : List (List _root_.Rat)} {B i hs hs' : Nat} {rows : List (Nat × List _root_.Rat)} (h : RowI R B i rows hs) (hi : i < R.length) {g : Nat} (h1 : B ≤ g) (h2 : g < hs') (h3 : g ∉ rows.map (·.1)) (h4 : hs ≤ hs') : RowI R B (i + 1) (rows ++ [(g, R[i])]) hs' := by
  refine ⟨hi, ?_, ?_, fun q hq => ?_, fun q hq => ?_⟩
  · rw [List.map_append, h.snd, List.take_succ_eq_append_getElem hi]; rfl
  · rw [List.map_append, List.nodup_append]
    refine ⟨h.nd, by simp, fun a ha b hb => ?_⟩
    simp at hb
    rintro rfl
    exact h3 (hb ▸ ha)
  · rw [List.map_append] at hq
    rcases List.mem_append.1 hq with hq | hq
    · exact h.lo q hq
    · simp at hq; rw [hq]; exact h1
  · rw [List.map_append] at hq
    rcases List.mem_append.1 hq with hq | hq
    · exact Nat.lt_of_lt_of_le (h.hi q hq) h4
    · simp at hq; rw [hq]; exact h2
/-- the matrix in memory where a step begins -/
structure MatI (R : List (List _root_.Rat)) (n B p gm : Nat) (rows : List (Nat × List _root_.Rat)) : Prop where
  pn : p ≤ n
  gj : gj R p = some (rows.map (·.2))
  nd : (rows.map (·.1)).Nodup
  lo : ∀ g ∈ rows.map (·.1), B ≤ g
  gB : B ≤ gm
  gN : gm ∉ rows.map (·.1)
theorem MatI.fst {R : List (List _root_.Rat)} {n B p gm : Nat} {rows rows' : List (Nat × List _root_.Rat)} (h : MatI R n B p gm rows) (hp : (rows'.map (·.1)).Perm (rows.map (·.1))) : (rows'.map (·.1)).Nodup ∧ (∀ g ∈ rows'.map (·.1), B ≤ g) ∧ gm ∉ rows'.map (·.1) :=
  ⟨hp.nodup_iff.2 h.nd, fun g hg => h.lo g (hp.mem_iff.1 hg), fun hg => h.gN (hp.mem_iff.1 hg)⟩
theorem e_impl_SolveLinearSystem (n : Nat) (R : List (List _root_.Rat)) (hn1 : 1 ≤ n) (hn : n ≤ 4) (hl0 : R.length = n) (hr : ∀ r ∈ R, r.length = n + 1) (h01 : ∀ r ∈ R, ∀ q ∈ r, q = 0 ∨ q = 1) :
   VC Tryd.prog 84 [.d (pS (cP eQ) (R.map (·.take n))), .d (pS eQ (R.map fun r => fnL r n))]
    (fun _ r => match solQ n R with
      | some x => ∃ id T, r = .tup [.d (.sl id T (x.map eQ)), .d (.bool true)]
      | none => r = .tup [.d (.sl none none []), .d (.bool false)]) := by
  have hb : Bd n 0 R := bd_01 hl0 h01
  obtain ⟨RB, hRB⟩ : ∃ RB, RB = R.map fun r => fnL r n := ⟨_, rfl⟩
  obtain ⟨MA, hMA⟩ : ∃ MA, MA = R.map (·.take n) := ⟨_, rfl⟩
  have hRBl : RB.length = n := by rw [hRB]; simpa using hl0
  have hMAl : MA.length = n := by rw [hMA]; simpa using hl0
  have hRBs : ∀ q ∈ RB, smQ q := fun q hq => by
    rw [hRB] at hq
    obtain ⟨r, hr', rfl⟩ := List.mem_map.1 hq
    have := hr r hr'
    rw [fnL_at (by omega)]
    exact sm_01 (h01 r hr' _ (List.getElem_mem _))
  have hMAi : ∀ i (hi : i < R.length), MA[i]'(by omega) = R[i].take n := fun i hi => by subst hMA; simp
  have hRBi : ∀ i (hi : i < R.length), RB[i]'(by omega) = fnL R[i] n := fun i hi => by subst hRB; simp
  rw [← hRB, ← hMA]
  refine VC.of E s84 (by kernel_rfl) Tryd.func84 (by rfl) (by kernel_rfl) (by simp [Tryd.f84]) (by simp [Tryd.f84]) s84_ok fun B => ?_
  simp [-w_condT, w_condI, Tryd.f84, s84_10, s84_20, s84_24, s84_30, s84_10, s84_20, s84_24, s84_30, hRBl, hMAl, show (n : Int) ≤ 6 by omega, show ¬ (6 : Int) < n by omega]
  refine call_pure (w_impl_allValid RB hRBs) rfl (by simp) rfl fun hs0 hh0 => ?_
  try simp at hh0
  simp [-w_condT, w_condI, s84_10, s84_20, s84_24, s84_30, hMAl]
  refine loop_ruleL (X := Nat × List (Nat × List _root_.Rat)) (fun x hs => RowI R B x.1 x.2 hs) (fun x => [(1, .d (.pl (RB.map eQ))), (6, .d (.int .i64 n)), (7, .own 700 0 x.2.length), (32, .d (.pl (MA.map (cP eQ)))), (33, .d (.int .i64 n)), (34, .d (.int .i64 x.1))])
    (fun x => [(700, some (.row 54 1 (x.2.map (cR (28, 2)))))]) (fun x => n - x.1) ?_ ?_
  · refine (lead_slot 7 700 54 1 (by omega) (by omega) (by simp)).bind ?_
    rintro _ rfl
    exact Lead.of ⟨(0, []), ⟨by simp, by simp, by simp, by simp, by simp⟩, rfl, rfl, Nat.le_refl _, by simp, by simp⟩
  rintro ⟨i, rows⟩ hs1 t m hI hh1
  simp only
  have hIl : rows.length = i := hI.len
  have hle : i ≤ R.length := hI.le
  by_cases hlt : i < n
  · have hiR : i < R.length := by omega
    have hwi := wr1 (i := i) (by omega)
    have hrm := List.getElem_mem hiR
    have hrl := hr _ hrm
    obtain ⟨a, ha⟩ : ∃ a, a = MA[i]'(by omega) := ⟨_, rfl⟩
    have ha2 : a = R[i].take n := by rw [ha]; exact hMAi i hiR
    have hal : a.length = n := by rw [ha2]; simp; omega
    have hasm : ∀ q ∈ a, smQ q := fun q hq => by rw [ha2] at hq; exact sm_01 (h01 _ hrm q (List.mem_of_mem_take hq))
    obtain ⟨b, hb'⟩ : ∃ b, b = RB[i]'(by omega) := ⟨_, rfl⟩
    have hab : a ++ [b] = R[i] := by rw [ha2, hb', hRBi i hiR]; exact app_last hrl
    refine anyQ2 fun Q => ?_
    simp [-w_condT, w_condI, hlt, hMAl, ← ha, hal, s84_10, s84_20, s84_24, s84_30, ]
    refine call_pure (w_impl_allValid a hasm) rfl (by simp) rfl fun hs2 hh2 => ?_
    try simp at hh2
    simp [-w_condT, w_condI, hRBl, hlt, ← hb', s84_10, s84_20, s84_24, s84_30, ]
    have hane : a ≠ [] := fun e => by rw [e] at hal; simp at hal; omega
    have hL1 : LenOk 16 (n + 1) := ⟨by omega, by simp only [maxLen]; omega⟩
    have hL2 : LenOk 24 (i + 1) := ⟨by omega, by simp only [maxLen]; omega⟩
    have htk : (a.map eQ ++ [eQ b]).take (n + 1) = a.map eQ ++ [eQ b] := List.take_of_length_le (by simp; omega)
    rw [eQ_def b] at htk
    refine ⟨?_, ?_⟩
    all_goals
      refine call_o (e_impl_copyRationals1 a (by omega) hane) (by simp) fun r2 n2 hs3 hn2 hm2 hp2 => ?_
      obtain ⟨g2, rfl, hg2⟩ := hp2
      refine ⟨28, 2, a.map eQ, by omega, .inr ⟨g2, rfl, hg2, by simp⟩, ?_⟩
      try simp at hn2
      simp [-w_condT, w_condI, hal, hIl, hRBl, hlt, ← hb', hL1, s84_10, s84_20, s84_24, s84_30, ]
      refine bs1 (k' := 50) (ks := []) (by simp) (by simp) fun γ hs4 h4 hg => ?_
      obtain ⟨q1, q2⟩ := gam_at hg (k := 50) (T := 28) (sz := 2) (es := (a ++ [b]).map eQ) (by simp)
      have q3 := gam_row2 hg (k := 50) (k2 := 700) (T := 28) (sz := 2) (es := (a ++ [b]).map eQ) (T2 := 54) (sz2 := 1) (es2 := rows.map (cR (28, 2))) (by simp) (by simp)
      clear hg
      obtain ⟨g, hgk⟩ := Option.ne_none_iff_exists'.1 (q2 (by simp))
      obtain ⟨q4, q5⟩ := q1 g hgk
      replace q4 : B ≤ g := q4
      have q6 := q3 g hgk
      simp only [ids_cRs] at q6
      simp at h4
      simp [-w_condT, w_condI, hal, hIl, hL2, hgk, hwi, s84_10, s84_20, s84_24, s84_30, ]
      refine back2 (i + 1, rows ++ [(g, R[i])]) (hI.snoc (hs' := hs4) hiR q4 q5 q6 (by omega)) (by simp only; omega) rfl (by simp <;> omega) (by simp [hIl]) (by simp [cR, ← hab, htk])
  have hin : i = n := by omega
  subst hin
  have hrows : rows.map (·.2) = R := by rw [hI.snd, List.take_of_length_le (by omega)]
  simp [-w_condT, w_condI, s84_10, s84_20, s84_24, s84_30, hIl]
  refine loop_ruleL (X := Nat × Nat × List (Nat × List _root_.Rat)) (fun x _ => MatI R i B x.1 x.2.1 x.2.2) (fun x => [(6, .d (.int .i64 i)), (7, .d (.sl (some x.2.1) (some (54, 1)) (x.2.2.map (cR (28, 2))))), (10, .d (.int .i64 x.1))]) (fun _ => []) (fun x => i - x.1) ?_ ?_
  · refine (lead_frz 700 (T := 54) (sz := 1) (es := rows.map (cR (28, 2))) (by simp)).bind ?_
    rintro _ ⟨γ, hs', g1, hg, rfl⟩
    obtain ⟨q1, q2⟩ := gam_at hg (k := 700) (T := 54) (sz := 1) (es := rows.map (cR (28, 2))) (by simp)
    have q3 := gam_row hg (k := 700) (T := 54) (sz := 1) (es := rows.map (cR (28, 2))) (by simp)
    clear hg
    have hne : rows.map (cR (28, 2)) ≠ [] := fun e => by have := congrArg List.length e; simp at this; subst this; simp at hIl; omega
    obtain ⟨gm, hgm⟩ := Option.ne_none_iff_exists'.1 (q2 hne)
    have q4 : B ≤ gm := (q1 gm hgm).1
    have q5 := q3 gm hgm
    simp only [ids_cRs] at q5
    have htk : (rows.map (cR (28, 2))).take i = rows.map (cR (28, 2)) := List.take_of_length_le (by simp; omega)
    exact Lead.of ⟨(0, gm, rows), ⟨by simp, by rw [hrows]; rfl, hI.nd, hI.lo, q4, q5⟩, rfl, rfl, g1, by simp [hgm, hIl, htk], by simp⟩
  rintro ⟨p, gm, S⟩ hs2 t2 m2 hM hh2
  clear hI hIl hrows
  have hpn : p ≤ i := hM.pn
  obtain ⟨TM, hTM⟩ : ∃ TM : TypeId × Nat, TM = (54, 1) := ⟨_, rfl⟩
  obtain ⟨T, hT⟩ : ∃ T : TypeId × Nat, T = (28, 2) := ⟨_, rfl⟩
  simp only [← hTM, ← hT]
  have hgj := gj_inv hl0 hr hb p hpn _ hM.gj
  have hSl : S.length = i := by have := hgj.1.len; simpa using this
  have hSr : ∀ k (hk : k < S.length), S[k].2.length = i + 1 := fun k hk => hgj.1.row _ (List.mem_map.2 ⟨_, List.getElem_mem hk, rfl⟩)
  have hSq : ∀ k (hk : k < S.length) j, rowQ (S.map (·.2)) k j = fnL S[k].2 j := fun k hk j => by rw [rowQ, gd (by simpa using hk)]; simp
  by_cases hlt2 : p < i
  · have hwp := wr1 (i := p) (by omega)
    simp [-w_condT, w_condI, hlt2, s84_10, s84_20, s84_24, s84_30, ]
    refine loop_rule (X := Nat) (fun k => p ≤ k ∧ k ≤ i ∧ ∀ j, p ≤ j → j < k → rowQ (S.map (·.2)) j p = 0) (fun k => [(6, .d (.int .i64 i)), (7, .d (.sl (some gm) (some TM) (S.map (cR T)))), (10, .d (.int .i64 p)), (11, .d (.int .i64 k))]) (fun _ => []) (fun k => i - k) p ⟨by omega, by omega, fun j h1 h2 => by omega⟩ (by simp) (by simp) ?_
    intro k hs3 t3 m3 hk hh3
    by_cases hki : k < i
    · have hwk := wr1 (i := k) (by omega)
      obtain ⟨gk, r, hSk⟩ : ∃ gk r, S[k]'(by omega) = (gk, r) := ⟨_, _, rfl⟩
      have hrl : r.length = i + 1 := by have := hSr k (by omega); rw [hSk] at this; exact this
      have hpr : p < r.length := by omega
      have hq : rowQ (S.map (·.2)) k p = r[p] := by rw [hSq k (by omega), hSk]; exact fnL_at hpr
      obtain ⟨es, hes⟩ : ∃ es, es = S.map (cR T) := ⟨_, rfl⟩
      have hesl : es.length = i := by rw [hes]; simpa using hSl
      have hek : es[k]'(by omega) = [.sl (some gk) (some T) (r.map eQ)] := by subst hes; simp [hSk, cR]
      rw [← hes]
      by_cases hz : r[p].num = 0
      · refine anyQ fun Q => ?_
        simp [-w_condT, w_condI, hki, hesl, hek, hpr, hz, hwk, s84_10, s84_20, s84_24, s84_30, ]
        refine back (k + 1) ⟨by omega, by omega, fun j h1 h2 => ?_⟩ (by omega) rfl (by simp <;> omega) (by simp [hes]) (by simp)
        by_cases e : j = k
        · subst e; rw [hq]; exact _root_.Rat.num_eq_zero.1 hz
        · exact hk.2.2 j h1 (by omega)
      have hpv : pivAt (S.map (·.2)) p = k := piv_eq hk.1 hk.2.2 (.inr ⟨by simp; omega, by rw [hq]; exact fun e => hz (by rw [e]; rfl)⟩)
      have hst := stp_of hn hl0 hr hb hM.gj hlt2 hpv hki
      obtain ⟨gp, v, hSp⟩ : ∃ gp v, S[p]'(by omega) = (gp, v) := ⟨_, _, rfl⟩
      have hep : es[p]'(by omega) = [.sl (some gp) (some T) (v.map eQ)] := by subst hes; simp [hSp, cR]
      have hgk : gk ∈ S.map (·.1) := List.mem_map.2 ⟨_, List.getElem_mem (show k < S.length by omega), by rw [hSk]⟩
      have hgp : gp ∈ S.map (·.1) := List.mem_map.2 ⟨_, List.getElem_mem (show p < S.length by omega), by rw [hSp]⟩
      have hmk : gm ≠ gk := fun e => hM.gN (e ▸ hgk)
      have hmp : gm ≠ gp := fun e => hM.gN (e ▸ hgp)
      have hpe : p < es.length := by omega
      have hgB := hM.gB
      have hn1 : gm ∉ idsLL es := by rw [hes, ids_cRs]; exact hM.gN
      obtain ⟨es1, hes1⟩ : ∃ es1, es.set p [.sl (some gk) (some T) (r.map eQ)] = es1 := ⟨_, rfl⟩
      have hes1l : es1.length = i := by rw [← hes1]; simpa using hesl
      have hn2 : gm ∉ idsLL es1 := by rw [← hes1]; exact nin_set hn1 (by simp [idsL, D.ids, hmk])
      have hek1 : ∃ c, es1[k]'(by omega) = [c] := by
        subst hes1; rw [List.getElem_set]; split
        · exact ⟨_, rfl⟩
        · exact ⟨_, hek⟩
      obtain ⟨c1, hek1⟩ := hek1
      have hre1 := re_mset (gm := gm) (TM := TM) (es := es) (i := p) (e' := [.sl (some gk) (some T) (r.map eQ)]) hpe (by rw [hep]; rfl)
      rw [hes1] at hre1
      obtain ⟨es2, hes2⟩ : ∃ es2, es1.set k [.sl (some gp) (some T) (v.map eQ)] = es2 := ⟨_, rfl⟩
      have hre2 := re_mset (gm := gm) (TM := TM) (es := es1) (i := k) (e' := [.sl (some gp) (some T) (v.map eQ)]) (by omega) (by rw [hek1]; rfl)
      rw [hes2] at hre2
      have hrk : ∀ d, reV (one gm d) (.d (.sl (some gk) (some T) (r.map eQ))) = .d (.sl (some gk) (some T) (r.map eQ)) := fun d => re_rowout (one_out (Ne.symm hmk))
      have hrp : ∀ d, reV (one gm d) (.d (.sl (some gp) (some T) (v.map eQ))) = .d (.sl (some gp) (some T) (v.map eQ)) := fun d => re_rowout (one_out (Ne.symm hmp))
      have hek1' : es1[k]? = some [c1] := by rw [List.getElem?_eq_getElem (by omega), hek1]
      simp [-w_condT, w_condI, hki, hesl, hek, hep, hpr, hz, hlt2, hgB, hn1, hn2, hmk, hmp, hes1, hre1, hes1l, hek1, hek1', hes2, hre2, hrk, hrp, show ¬ (k : Int) = i by omega, show k ≠ i by omega, s84_10, s84_20, s84_24, s84_30, ]
      have hpS : p < S.length := by omega
      have hkS : k < S.length := by omega
      obtain ⟨S2, hS2⟩ : ∃ S2, S2 = swapR S p k := ⟨_, rfl⟩
      obtain ⟨M2, hM2⟩ : ∃ M2, M2 = S2.map (·.2) := ⟨_, rfl⟩
      have hM2s : M2 = swapM (S.map (·.2)) p k := by rw [hM2, hS2, swapR_snd]
      have hS2e : es2 = S2.map (cR T) := by
        rw [hS2, swapR_set hpS hkS, ← hes2, ← hes1, hes, ← set_map, ← set_map, hSk, hSp]; rfl
      have hpm : (S2.map (·.1)).Perm (S.map (·.1)) := by rw [hS2]; exact (swapR_perm hpS hkS).map _
      obtain ⟨f1, f2, f3⟩ := hM.fst hpm
      obtain ⟨ids, hids⟩ : ∃ ids, ids = S2.map (·.1) := ⟨_, rfl⟩
      rw [← hids] at f1 f2 f3
      have hsl := hst.len
      have hsr := hst.row
      have hse := hst.safe
      have hsn := hst.ne
      have hnx := hst.nxt
      rw [← hM2s] at hsl hsr hse hsn hnx
      have hidl : ids.length = i := by rw [hids, hS2]; simp [swapR_len, hSl]
      refine loop_rule (X := Nat × List (Nat × List _root_.Rat)) (fun x => x.1 ≤ i ∧ x.2.map (·.1) = ids ∧ x.2.map (·.2) = stepQ p x.1 M2) (fun x => [(6, .d (.int .i64 i)), (7, .d (.sl (some gm) (some TM) (x.2.map (cR T)))), (10, .d (.int .i64 p)), (12, .d (.int .i64 x.1))]) (fun _ => []) (fun x => i - x.1) (0, S2) ⟨by omega, hids.symm, by rw [stepQ_zero]; exact hM2.symm⟩ (by simp [hS2e]) (by simp) ?_
      rintro ⟨j, Y⟩ hs4 t4 m4 ⟨h1, h2, h3⟩ hh4
      simp only at h1 h2 h3
      have hYl : Y.length = i := by have := congrArg List.length h2; simpa [hidl] using this
      by_cases hji : j < i
      · have hwj := wr1 (i := j) (by omega)
        refine anyQ fun Q => ?_
        by_cases hjp : j = p
        · subst hjp
          simp [-w_condT, w_condI, hji, hYl, hwj, s84_10, s84_20, s84_24, s84_30, ]
          exact back (j + 1, Y) ⟨by simp only; omega, h2, by rw [h3]; exact stepQ_p.symm⟩ (by simp only; omega) rfl (by simp <;> omega) (by simp) (by simp)
        have hjY : j < Y.length := by omega
        have hpY : p < Y.length := by omega
        obtain ⟨gj, u, hYj⟩ : ∃ gj u, Y[j] = (gj, u) := ⟨_, _, rfl⟩
        obtain ⟨gq, w, hYp⟩ : ∃ gq w, Y[p] = (gq, w) := ⟨_, _, rfl⟩
        have eu : u = M2[j]'(by omega) := by
          have a1 : (Y.map (·.2))[j]'(by simpa using hjY) = u := by simp [hYj]
          have a2 : (stepQ p j M2)[j]'(by simp; omega) = M2[j]'(by omega) := stepQ_at (by omega)
          rw [← a1, ← a2]; congr 1
        have ew : w = M2[p]'(by omega) := by
          have a1 : (Y.map (·.2))[p]'(by simpa using hpY) = w := by simp [hYp]
          have a2 : (stepQ p j M2)[p]'(by simp; omega) = M2[p]'(by omega) := stepQ_piv (by omega)
          rw [← a1, ← a2]; congr 1
        have hE := hse.elim hsl hsr hlt2 hji hsn
        rw [← eu, ← ew] at hE
        have gj1 : (Y.map (·.1))[j]? = some gj := by simp [hjY, hYj]
        have gq1 : (Y.map (·.1))[p]? = some gq := by simp [hpY, hYp]
        have hYnd : (Y.map (·.1)).Nodup := by rw [h2]; exact f1
        have hgne : gq ≠ gj := fun e => hjp (nd_idx hYnd gj1 (by rw [gq1, e]))
        have hgj : gj ∈ ids := by rw [← h2]; exact List.mem_of_getElem? gj1
        have hgjm : gj ≠ gm := fun e => f3 (e ▸ hgj)
        have hgjB := f2 _ hgj
        have hul := hE.lr
        have hpu : p < u.length := by omega
        obtain ⟨ys, hys⟩ : ∃ ys, ys = Y.map (cR T) := ⟨_, rfl⟩
        have hysl : ys.length = i := by rw [hys]; simpa using hYl
        have hyj : ys[j]'(by omega) = [.sl (some gj) (some T) (u.map eQ)] := by subst hys; simp [hYj, cR]
        have hyp : ys[p]'(by omega) = [.sl (some gq) (some T) (w.map eQ)] := by subst hys; simp [hYp, cR]
        have hst2 : stepQ p (j + 1) M2 = (stepQ p j M2).set j (elimR p w u) := by
          rw [stepQ_succ (by omega) (by omega) hjp, ← eu, ← ew]
        rw [← hys]
        by_cases hz2 : u[p].num = 0
        · have hz' : fnL u p = 0 := by rw [fnL_at hpu]; exact _root_.Rat.num_eq_zero.1 hz2
          simp [-w_condT, w_condI, hysl, hji, hjp, hyj, hpu, hz2, hwj, s84_10, s84_20, s84_24, s84_30, ]
          refine back (j + 1, Y) ⟨by simp only; omega, h2, ?_⟩ (by simp only; omega) rfl (by simp <;> omega) (by simp [hys]) (by simp)
          rw [h3, hst2, elim_zero hz', set_same]
          rw [List.getElem?_eq_getElem (by simp; omega), stepQ_at (by omega), ← eu]
        have hre : reV (one gj (.sl (some gj) (some T) ((elimR p w u).map eQ))) (.d (.sl (some gm) (some TM) ys)) = .d (.sl (some gm) (some TM) ((Y.set j (gj, elimR p w u)).map (cR T))) := by
          rw [hys]
          exact re_rowQ (φ := one gj (.sl (some gj) (some T) ((elimR p w u).map eQ))) (gm := gm) (T := T) (rows := Y) (i := j) (g := gj) (r := u) (r' := elimR p w u) (by simp [hjY, hYj]) (by simp [elimR]) hYnd (one_out (Ne.symm hgjm)) (by simp [one]) (fun q _ hqg => one_out hqg)
        simp [-w_condT, w_condI, hysl, hji, hlt2, hjp, hyj, hyp, hpu, hz2, s84_10, s84_20, s84_24, s84_30, ]
        refine call_x (E95) (by simp) (by simp) (by simp) (fun q hq => .inl (by simp at hq; rw [hq]; exact hgjB)) (x_impl_eliminate gj gq T (some T) p i w u hE hn hgne) fun n5 hs5 r5 cs5 ws5 hn5 hm5 hp5 hr5 hw5 => ?_
        obtain ⟨rfl, rfl⟩ := hp5
        try simp at hn5
        simp [-w_condT, w_condI, phi_single, hre, hwj, s84_10, s84_20, s84_24, s84_30, ]
        refine back (j + 1, Y.set j (gj, elimR p w u)) ⟨by simp only; omega, ?_, ?_⟩ (by simp only; omega) rfl (by simp <;> omega) (by simp) (by simp)
        · simp only [List.map_set]; rw [← h2]; exact set_same gj1
        · simp only [List.map_set]; rw [h3, hst2]
      · have hjn : j = i := by omega
        subst hjn
        rw [stepQ_all (by omega)] at h3
        simp [-w_condT, w_condI, hwp, s84_10, s84_20, s84_24, s84_30, ]
        refine back2 (p + 1, gm, Y) ⟨by omega, by rw [h3]; exact hnx, by rw [h2]; exact f1, by rw [h2]; exact f2, hgB, by rw [h2]; exact f3⟩ (by simp only; omega) rfl (by simp <;> omega) (by simp) (by simp)
    · have hki2 : k = i := by omega
      have hpv : pivAt (S.map (·.2)) p = k := piv_eq hk.1 hk.2.2 (.inl (by simp; omega))
      have hno := sol_none hM.gj (by rw [hpv]; simp; omega) hlt2
      rw [hno]
      simp [-w_condT, w_condI, hki, hki2, s84_10, s84_20, s84_24, s84_30, ]
  have hpi : p = i := by omega
  subst hpi
  obtain ⟨-, e2, e3, e4, e5⟩ := sol_end hn hl0 hr hb hM.gj
  rw [e3]
  obtain ⟨F, hF⟩ : ∃ F : Nat → _root_.Rat, F = fun j => rowQ (S.map (·.2)) j p / rowQ (S.map (·.2)) j j := ⟨_, rfl⟩
  have hout : outM p (S.map (·.2)) = (List.range p).map F := by rw [hF]; rfl
  rw [hout]
  simp [-w_condT, w_condI, s84_10, s84_20, s84_24, s84_30, ]
  refine loop_ruleL (X := Nat) (fun j _ => j ≤ p) (fun j => [(6, .d (.int .i64 p)), (7, .d (.sl (some gm) (some TM) (S.map (cR T)))), (13, .own 701 0 j), (14, .d (.int .i64 j))]) (fun j => [(701, some (.row 28 2 (((List.range j).map F).map eQ)))]) (fun j => p - j) ?_ ?_
  · refine (lead_slot 13 701 28 2 (by omega) (by omega) (by simp)).bind ?_
    rintro _ rfl
    exact Lead.of ⟨0, by omega, rfl, rfl, Nat.le_refl _, by simp, by simp⟩
  intro j hs6 t6 m6 hj hh6
  by_cases hjp : j < p
  · have hwj := wr1 (i := j) (by omega)
    have hjS : j < S.length := by omega
    obtain ⟨g, r, hSj⟩ : ∃ g r, S[j] = (g, r) := ⟨_, _, rfl⟩
    have hrl : r.length = p + 1 := by have := hSr j hjS; rw [hSj] at this; exact this
    have hjr : j < r.length := by omega
    have hpr : p < r.length := by omega
    have hj5 := e5 j (by simpa using hjS)
    simp only [List.getElem_map, hSj] at hj5
    obtain ⟨d1, d2, d3, d4⟩ := hj5
    have hFj : F j = fnL r p / fnL r j := by rw [hF]; simp only [hSq j hjS, hSj]
    have hdiv := w_impl_DivRational (fnL r p) (fnL r j) d3 d2 d1 d4
    rw [← hFj, fnL_at hpr, fnL_at hjr] at hdiv
    have hL : LenOk 16 (j + 1) := ⟨by omega, by simp only [maxLen]; omega⟩
    obtain ⟨es, hes⟩ : ∃ es, es = S.map (cR T) := ⟨_, rfl⟩
    have hesl : es.length = p := by rw [hes]; simpa using hSl
    have hej : es[j]'(by omega) = [.sl (some g) (some T) (r.map eQ)] := by subst hes; simp [hSj, cR]
    rw [← hes]
    refine anyQ2 fun Q => ?_
    simp [-w_condT, w_condI, hjp, hesl, hej, hjr, hpr, s84_10, s84_20, s84_24, s84_30, ]
    refine ⟨?_, ?_⟩
    all_goals
      refine call_pure hdiv rfl (by simp) rfl fun hs7 hh7 => ?_
      try simp at hh7
      simp [-w_condT, w_condI, hL, hwj, s84_10, s84_20, s84_24, s84_30, ]
      refine back2 (j + 1) (by omega) (by omega) rfl (by simp <;> omega) (by simp [hes]) (by simp [List.range_succ])
  · have hjn : j = p := by omega
    subst hjn
    simp [-w_condT, w_condI, s84_10, s84_20, s84_24, s84_30, ]
    intro γ hs' h1 hg
    clear hg
    have htk : (List.map (eQ ∘ F) (List.range j)).take j = List.map (eQ ∘ F) (List.range j) := List.take_of_length_le (by simp)
    have hpp : hpLL (List.map (eQ ∘ F) (List.range j)) = false := by rw [← List.map_map]; exact hp_eQs _
    rw [htk]
    simp [hpp]
end

end Go.Proofs.YtpbcmlolapdfjaaDoor

