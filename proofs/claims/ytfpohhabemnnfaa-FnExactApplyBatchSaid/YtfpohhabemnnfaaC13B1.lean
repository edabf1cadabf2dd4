/-
  C13B1: a part of a proof of this seat: the value-level semantics of Go code without maps, its walk rules, the frame of a row, facts of types, schedules, walks, plain lemmas (Facts1 Sched1 H0 HP1 HP2 H1 HP3 P1 P1b P1c P1d F1 F2 Q1 V1 P2 N1 N2 S3 N3 M1 P5 P5b M2 M3). It holds of every program and state that its hypotheses name.
-/
import Derived.Test.YtfpohhabemnnfaaA4
import Derived.Test.YtfpohhabemnnfaaProg
import Derived.KernelRfl
set_option linter.unusedSimpArgs false
set_option linter.unusedVariables false
set_option linter.unnecessarySimpa false
namespace Go.Proofs.Ytfpohhabemnnfaa
open Go.Vs Go.Proofs

theorem tsz3 : tsz Try.prog 3 = some 1 := by kernel_rfl
theorem tsz9 : tsz Try.prog 9 = some 1 := by kernel_rfl
theorem tsz22 : tsz Try.prog 22 = some 1 := by kernel_rfl
theorem tsz24 : tsz Try.prog 24 = some 1 := by kernel_rfl
theorem tsz28 : tsz Try.prog 28 = some 1 := by kernel_rfl
theorem tsz30 : tsz Try.prog 30 = some 1 := by kernel_rfl
theorem tsz37 : tsz Try.prog 37 = some 1 := by kernel_rfl
theorem tsz39 : tsz Try.prog 39 = some 2 := by kernel_rfl
theorem tsz41 : tsz Try.prog 41 = some 5 := by kernel_rfl
theorem tsz43 : tsz Try.prog 43 = some 2 := by kernel_rfl
theorem tsz45 : tsz Try.prog 45 = some 5 := by kernel_rfl
theorem tsz71 : tsz Try.prog 71 = some 3 := by kernel_rfl
theorem tsz74 : tsz Try.prog 74 = some 2 := by kernel_rfl
theorem tsz88 : tsz Try.prog 88 = some 1 := by kernel_rfl
theorem tsz99 : tsz Try.prog 99 = some 3 := by kernel_rfl
theorem tagg3 : tagg Try.prog 3 = some false := by kernel_rfl
theorem tagg9 : tagg Try.prog 9 = some false := by kernel_rfl
theorem tagg22 : tagg Try.prog 22 = some false := by kernel_rfl
theorem tagg24 : tagg Try.prog 24 = some true := by kernel_rfl
theorem tagg28 : tagg Try.prog 28 = some false := by kernel_rfl
theorem tagg30 : tagg Try.prog 30 = some true := by kernel_rfl
theorem tagg37 : tagg Try.prog 37 = some false := by kernel_rfl
theorem tagg39 : tagg Try.prog 39 = some true := by kernel_rfl
theorem tagg41 : tagg Try.prog 41 = some true := by kernel_rfl
theorem tagg43 : tagg Try.prog 43 = some true := by kernel_rfl
theorem tagg45 : tagg Try.prog 45 = some true := by kernel_rfl
theorem tagg71 : tagg Try.prog 71 = some true := by kernel_rfl
theorem tagg74 : tagg Try.prog 74 = some true := by kernel_rfl
theorem tagg88 : tagg Try.prog 88 = some false := by kernel_rfl
theorem tagg99 : tagg Try.prog 99 = some true := by kernel_rfl
theorem tzero3 : tzero Try.prog 3 = some [.int .i64 0] := by kernel_rfl
theorem tzero30 : tzero Try.prog 30 = some [.sl none none []] := by kernel_rfl
theorem tzero43 : tzero Try.prog 43 = some [.int .i64 0, .sl none none []] := by kernel_rfl
theorem tzero45 : tzero Try.prog 45 = some [.str [], .int .i64 0, .sl none none [], .int .i64 0, .sl none none []] := by kernel_rfl
theorem tzero71 : tzero Try.prog 71 = some [.str [], .int .i64 0, .sl none none []] := by kernel_rfl
theorem tzero74 : tzero Try.prog 74 = some [.str [], .str []] := by kernel_rfl
theorem tzero88 : tzero Try.prog 88 = some [.sl none none []] := by kernel_rfl
theorem tslice22 : tslice Try.prog 22 = some (99, 3, 48) := by kernel_rfl
theorem telem22 : telem Try.prog 22 = some 99 := by kernel_rfl
theorem tslice26 : tslice Try.prog 26 = some (74, 2, 32) := by kernel_rfl
theorem telem26 : telem Try.prog 26 = some 74 := by kernel_rfl
theorem tslice28 : tslice Try.prog 28 = some (71, 3, 48) := by kernel_rfl
theorem telem28 : telem Try.prog 28 = some 71 := by kernel_rfl
theorem tslice37 : tslice Try.prog 37 = some (88, 1, 24) := by kernel_rfl
theorem telem37 : telem Try.prog 37 = some 88 := by kernel_rfl
theorem tslice54 : tslice Try.prog 54 = some (41, 5, 80) := by kernel_rfl
theorem telem54 : telem Try.prog 54 = some 41 := by kernel_rfl
theorem tslice57 : tslice Try.prog 57 = some (45, 5, 80) := by kernel_rfl
theorem telem57 : telem Try.prog 57 = some 45 := by kernel_rfl
theorem tslice88 : tslice Try.prog 88 = some (3, 1, 8) := by kernel_rfl
theorem telem88 : telem Try.prog 88 = some 3 := by kernel_rfl
theorem tslice103 : tslice Try.prog 103 = some (5, 1, 1) := by kernel_rfl
theorem telem103 : telem Try.prog 103 = some 5 := by kernel_rfl
theorem tslice105 : tslice Try.prog 105 = some (9, 1, 16) := by kernel_rfl
theorem telem105 : telem Try.prog 105 = some 9 := by kernel_rfl
theorem tstr9 : tstr Try.prog 9 = some true := by kernel_rfl
theorem tstr22 : tstr Try.prog 22 = some false := by kernel_rfl
theorem tstr26 : tstr Try.prog 26 = some false := by kernel_rfl
theorem tstr28 : tstr Try.prog 28 = some false := by kernel_rfl
theorem tstr37 : tstr Try.prog 37 = some false := by kernel_rfl
theorem tstr54 : tstr Try.prog 54 = some false := by kernel_rfl
theorem tstr57 : tstr Try.prog 57 = some false := by kernel_rfl
theorem tstr88 : tstr Try.prog 88 = some false := by kernel_rfl
theorem tstr105 : tstr Try.prog 105 = some false := by kernel_rfl
theorem tfld30 : tfld Try.prog 30 = true := by kernel_rfl
theorem tfld43 : tfld Try.prog 43 = true := by kernel_rfl
theorem tfld45 : tfld Try.prog 45 = true := by kernel_rfl
theorem tfld71 : tfld Try.prog 71 = true := by kernel_rfl
theorem tfld74 : tfld Try.prog 74 = true := by kernel_rfl
theorem foff24_0 : foff Try.prog 24 0 = some (0, 1) := by kernel_rfl
theorem foff30_0 : foff Try.prog 30 0 = some (0, 1) := by kernel_rfl
theorem foff39_0 : foff Try.prog 39 0 = some (0, 1) := by kernel_rfl
theorem foff39_1 : foff Try.prog 39 1 = some (1, 1) := by kernel_rfl
theorem foff41_0 : foff Try.prog 41 0 = some (0, 1) := by kernel_rfl
theorem foff41_1 : foff Try.prog 41 1 = some (1, 2) := by kernel_rfl
theorem foff41_2 : foff Try.prog 41 2 = some (3, 2) := by kernel_rfl
theorem foff43_0 : foff Try.prog 43 0 = some (0, 1) := by kernel_rfl
theorem foff43_1 : foff Try.prog 43 1 = some (1, 1) := by kernel_rfl
theorem foff45_0 : foff Try.prog 45 0 = some (0, 1) := by kernel_rfl
theorem foff45_1 : foff Try.prog 45 1 = some (1, 2) := by kernel_rfl
theorem foff45_2 : foff Try.prog 45 2 = some (3, 2) := by kernel_rfl
theorem foff71_0 : foff Try.prog 71 0 = some (0, 1) := by kernel_rfl
theorem foff71_1 : foff Try.prog 71 1 = some (1, 2) := by kernel_rfl
theorem foff74_0 : foff Try.prog 74 0 = some (0, 1) := by kernel_rfl
theorem foff74_1 : foff Try.prog 74 1 = some (1, 1) := by kernel_rfl
theorem foff99_0 : foff Try.prog 99 0 = some (0, 1) := by kernel_rfl
theorem foff99_1 : foff Try.prog 99 1 = some (1, 2) := by kernel_rfl
attribute [simp] tsz3 tsz9 tsz22 tsz24 tsz28 tsz30 tsz37 tsz39 tsz41 tsz43 tsz45 tsz71 tsz74 tsz88 tsz99 tagg3 tagg9 tagg22 tagg24 tagg28 tagg30 tagg37 tagg39 tagg41 tagg43 tagg45 tagg71 tagg74 tagg88 tagg99 tzero3 tzero30 tzero43 tzero45 tzero71 tzero74 tzero88 tslice22 telem22 tslice26 telem26 tslice28 telem28 tslice37 telem37 tslice54 telem54 tslice57 telem57 tslice88 telem88 tslice103 telem103 tslice105 telem105 tstr9 tstr22 tstr26 tstr28 tstr37 tstr54 tstr57 tstr88 tstr105 tfld30 tfld43 tfld45 tfld71 tfld74 foff24_0 foff30_0 foff39_0 foff39_1 foff41_0 foff41_1 foff41_2 foff43_0 foff43_1 foff45_0 foff45_1 foff45_2 foff71_0 foff71_1 foff74_0 foff74_1 foff99_0 foff99_1
end Go.Proofs.Ytfpohhabemnnfaa

namespace Go.Proofs.Ytfpohhabemnnfaa
open Go.Vs Go.Proofs Go

/-- the functions that write what they are handed -/
def E : Md := ⟨fun f => [15, 16, 23, 35, 55, 66, 77, 101].contains f, false⟩
/-- as E; slices are known by elements only -/
def EP : Md := ⟨E.e, true⟩
@[simp] theorem E_p : E.p = false := Eq.trans rfl rfl
@[simp] theorem EP_p : EP.p = true := Eq.trans rfl rfl

theorem E15 : E 15 = true := rfl
theorem EP15 : EP 15 = true := rfl
theorem E16 : E 16 = true := rfl
theorem EP16 : EP 16 = true := rfl
theorem E23 : E 23 = true := rfl
theorem EP23 : EP 23 = true := rfl
theorem E35 : E 35 = true := rfl
theorem EP35 : EP 35 = true := rfl
theorem E55 : E 55 = true := rfl
theorem EP55 : EP 55 = true := rfl
theorem E66 : E 66 = true := rfl
theorem EP66 : EP 66 = true := rfl
theorem E77 : E 77 = true := rfl
theorem EP77 : EP 77 = true := rfl
theorem E101 : E 101 = true := rfl
theorem EP101 : EP 101 = true := rfl
/-- the orders of laws.FnExactVersionFiles -/
def s3 (i : Nat) : Tr := if i = 10 then .seq [0, 1, 2, 3, 4] .nil else .nil
theorem s3_10 : s3 10 = .seq [0, 1, 2, 3, 4] .nil := rfl
theorem s3_ok : okCode E 74 s3 (Try.f3.body.getD .skip) = true := by kernel_rfl
/-- the orders of laws.FnExactNormalizeDelta -/
def s4 (i : Nat) : Tr := if i = 8 then .seq [0, 2] (.both (.seq [1] (.both (.seq [3] (.both (.seq [4, 5, 6, 7, 8, 9, 10] .nil) (.seq [8, 4, 5, 6, 7, 9, 10] .nil))) (.seq [8, 3, 4, 5, 6, 7, 9, 10] .nil))) (.seq [8, 1, 3, 4, 5, 6, 7, 9, 10] .nil)) else if i = 14 then .seq [0, 1, 2, 3, 4] .nil else if i = 16 then .seq [0, 1, 2, 3, 4] .nil else if i = 31 then .seq [0, 2] (.both (.seq [1] (.both (.seq [3] (.both (.seq [4, 5, 6, 7, 8, 9, 10] .nil) (.seq [8, 4, 5, 6, 7, 9, 10] .nil))) (.seq [8, 3, 4, 5, 6, 7, 9, 10] .nil))) (.seq [8, 1, 3, 4, 5, 6, 7, 9, 10] .nil)) else .nil
theorem s4_8 : s4 8 = .seq [0, 2] (.both (.seq [1] (.both (.seq [3] (.both (.seq [4, 5, 6, 7, 8, 9, 10] .nil) (.seq [8, 4, 5, 6, 7, 9, 10] .nil))) (.seq [8, 3, 4, 5, 6, 7, 9, 10] .nil))) (.seq [8, 1, 3, 4, 5, 6, 7, 9, 10] .nil)) := rfl
theorem s4_14 : s4 14 = .seq [0, 1, 2, 3, 4] .nil := rfl
theorem s4_16 : s4 16 = .seq [0, 1, 2, 3, 4] .nil := rfl
theorem s4_31 : s4 31 = .seq [0, 2] (.both (.seq [1] (.both (.seq [3] (.both (.seq [4, 5, 6, 7, 8, 9, 10] .nil) (.seq [8, 4, 5, 6, 7, 9, 10] .nil))) (.seq [8, 3, 4, 5, 6, 7, 9, 10] .nil))) (.seq [8, 1, 3, 4, 5, 6, 7, 9, 10] .nil)) := rfl
theorem s4_ok : okCode E 119 s4 (Try.f4.body.getD .skip) = true := by kernel_rfl
/-- the orders of laws.FnExactApplyDelta -/
def s5 (i : Nat) : Tr := if i = 8 then .seq [0, 2] (.both (.seq [1] (.both (.seq [3] (.both (.seq [4, 5, 6, 7, 8, 9, 10] .nil) (.seq [8, 4, 5, 6, 7, 9, 10] .nil))) (.seq [8, 3, 4, 5, 6, 7, 9, 10] .nil))) (.seq [8, 1, 3, 4, 5, 6, 7, 9, 10] .nil)) else if i = 14 then .seq [0, 1, 2, 3, 4] .nil else if i = 16 then .seq [0, 1, 2, 3, 4] .nil else if i = 31 then .seq [0, 2] (.both (.seq [1] (.both (.seq [3] (.both (.seq [4, 5, 6, 7, 8, 9, 10] .nil) (.seq [8, 4, 5, 6, 7, 9, 10] .nil))) (.seq [8, 3, 4, 5, 6, 7, 9, 10] .nil))) (.seq [8, 1, 3, 4, 5, 6, 7, 9, 10] .nil)) else .nil
theorem s5_8 : s5 8 = .seq [0, 2] (.both (.seq [1] (.both (.seq [3] (.both (.seq [4, 5, 6, 7, 8, 9, 10] .nil) (.seq [8, 4, 5, 6, 7, 9, 10] .nil))) (.seq [8, 3, 4, 5, 6, 7, 9, 10] .nil))) (.seq [8, 1, 3, 4, 5, 6, 7, 9, 10] .nil)) := rfl
theorem s5_14 : s5 14 = .seq [0, 1, 2, 3, 4] .nil := rfl
theorem s5_16 : s5 16 = .seq [0, 1, 2, 3, 4] .nil := rfl
theorem s5_31 : s5 31 = .seq [0, 2] (.both (.seq [1] (.both (.seq [3] (.both (.seq [4, 5, 6, 7, 8, 9, 10] .nil) (.seq [8, 4, 5, 6, 7, 9, 10] .nil))) (.seq [8, 3, 4, 5, 6, 7, 9, 10] .nil))) (.seq [8, 1, 3, 4, 5, 6, 7, 9, 10] .nil)) := rfl
theorem s5_ok : okCode E 119 s5 (Try.f5.body.getD .skip) = true := by kernel_rfl
/-- the orders of laws.FnExactIsValidBatch -/
def s6 (i : Nat) : Tr := if i = 14 then .seq [0, 1, 2, 3, 4] .nil else .nil
theorem s6_14 : s6 14 = .seq [0, 1, 2, 3, 4] .nil := rfl
theorem s6_ok : okCode E 45 s6 (Try.f6.body.getD .skip) = true := by kernel_rfl
/-- the orders of laws.FnExactApplyBatch -/
def s7 (i : Nat) : Tr := if i = 14 then .seq [0, 1, 2, 3, 4] .nil else .nil
theorem s7_14 : s7 14 = .seq [0, 1, 2, 3, 4] .nil := rfl
theorem s7_ok : okCode E 140 s7 (Try.f7.body.getD .skip) = true := by kernel_rfl
/-- the orders of laws.FnExactInvertBatch -/
def s8 (i : Nat) : Tr := if i = 14 then .seq [0, 1, 2, 3, 4] .nil else .nil
theorem s8_14 : s8 14 = .seq [0, 1, 2, 3, 4] .nil := rfl
theorem s8_ok : okCode E 119 s8 (Try.f8.body.getD .skip) = true := by kernel_rfl
/-- the orders of laws.szDatabase -/
def s9 (_ : Nat) : Tr := .nil
theorem s9_ok : okCode E 12 s9 (Try.f9.body.getD .skip) = true := by kernel_rfl
/-- the orders of spec.VersionFiles -/
def s10 (i : Nat) : Tr := if i = 10 then .seq [0, 1, 2, 3, 4, 5, 6, 7, 8, 9, 10, 11, 12, 13, 14] .nil else .nil
theorem s10_10 : s10 10 = .seq [0, 1, 2, 3, 4, 5, 6, 7, 8, 9, 10, 11, 12, 13, 14] .nil := rfl
theorem s10_ok : okCode E 71 s10 (Try.f10.body.getD .skip) = true := by kernel_rfl
/-- the orders of laws.toDatabase -/
def s11 (_ : Nat) : Tr := .nil
theorem s11_ok : okCode E 9 s11 (Try.f11.body.getD .skip) = true := by kernel_rfl
/-- the orders of impl.VersionFiles -/
def s12 (i : Nat) : Tr := if i = 11 then .seq [0, 1, 2, 3, 4, 5, 6, 7, 8, 9, 10] .nil else .nil
theorem s12_11 : s12 11 = .seq [0, 1, 2, 3, 4, 5, 6, 7, 8, 9, 10] .nil := rfl
theorem s12_ok : okCode E 64 s12 (Try.f12.body.getD .skip) = true := by kernel_rfl
/-- the orders of laws.eqFileS -/
def s13 (i : Nat) : Tr := if i = 6 then .seq [0, 1, 2, 3, 4, 5, 6, 7, 8, 9] .nil else .nil
theorem s13_6 : s13 6 = .seq [0, 1, 2, 3, 4, 5, 6, 7, 8, 9] .nil := rfl
theorem s13_ok : okCode E 27 s13 (Try.f13.body.getD .skip) = true := by kernel_rfl
/-- the orders of laws.eqDatabase -/
def s14 (_ : Nat) : Tr := .nil
theorem s14_ok : okCode E 11 s14 (Try.f14.body.getD .skip) = true := by kernel_rfl
/-- the orders of laws.markDatabase -/
def s15 (_ : Nat) : Tr := .nil
theorem s15_ok : okCode E 10 s15 (Try.f15.body.getD .skip) = true := by kernel_rfl
/-- the orders of laws.markFileS -/
def s16 (_ : Nat) : Tr := .nil
theorem s16_ok : okCode E 29 s16 (Try.f16.body.getD .skip) = true := by kernel_rfl
/-- the orders of laws.heldFileS -/
def s17 (i : Nat) : Tr := if i = 4 then .seq [0, 1, 2, 3, 4, 5, 6, 7] .nil else if i = 7 then .seq [0, 1, 2, 3, 4, 5, 6, 7] .nil else .nil
theorem s17_4 : s17 4 = .seq [0, 1, 2, 3, 4, 5, 6, 7] .nil := rfl
theorem s17_7 : s17 7 = .seq [0, 1, 2, 3, 4, 5, 6, 7] .nil := rfl
theorem s17_ok : okCode E 33 s17 (Try.f17.body.getD .skip) = true := by kernel_rfl
/-- the orders of laws.szDelta -/
def s18 (_ : Nat) : Tr := .nil
theorem s18_ok : okCode E 25 s18 (Try.f18.body.getD .skip) = true := by kernel_rfl
/-- the orders of spec.NormalizeDelta -/
def s19 (_ : Nat) : Tr := .nil
theorem s19_ok : okCode E 60 s19 (Try.f19.body.getD .skip) = true := by kernel_rfl
/-- the orders of laws.toDelta -/
def s20 (_ : Nat) : Tr := .nil
theorem s20_ok : okCode E 16 s20 (Try.f20.body.getD .skip) = true := by kernel_rfl
/-- the orders of impl.NormalizeDelta -/
def s21 (i : Nat) : Tr := if i = 9 then .seq [0, 1, 2, 3, 4, 5, 6, 7, 8, 9] .nil else if i = 15 then .seq [0, 1, 2, 3, 4, 5, 6, 7, 8, 9] .nil else .nil
theorem s21_9 : s21 9 = .seq [0, 1, 2, 3, 4, 5, 6, 7, 8, 9] .nil := rfl
theorem s21_15 : s21 15 = .seq [0, 1, 2, 3, 4, 5, 6, 7, 8, 9] .nil := rfl
theorem s21_ok : okCode E 82 s21 (Try.f21.body.getD .skip) = true := by kernel_rfl
/-- the orders of laws.eqDelta -/
def s22 (_ : Nat) : Tr := .nil
theorem s22_ok : okCode E 22 s22 (Try.f22.body.getD .skip) = true := by kernel_rfl
/-- the orders of laws.markDelta -/
def s23 (_ : Nat) : Tr := .nil
theorem s23_ok : okCode E 14 s23 (Try.f23.body.getD .skip) = true := by kernel_rfl
/-- the orders of laws.heldDelta -/
def s24 (_ : Nat) : Tr := .nil
theorem s24_ok : okCode E 18 s24 (Try.f24.body.getD .skip) = true := by kernel_rfl
/-- the orders of spec.ApplyDelta -/
def s25 (_ : Nat) : Tr := .nil
theorem s25_ok : okCode E 61 s25 (Try.f25.body.getD .skip) = true := by kernel_rfl
/-- the orders of impl.ApplyDelta -/
def s26 (_ : Nat) : Tr := .nil
theorem s26_ok : okCode E 56 s26 (Try.f26.body.getD .skip) = true := by kernel_rfl
/-- the orders of laws.heldDatabase -/
def s27 (_ : Nat) : Tr := .nil
theorem s27_ok : okCode E 12 s27 (Try.f27.body.getD .skip) = true := by kernel_rfl
/-- the orders of laws.szDeltaS -/
def s28 (_ : Nat) : Tr := .nil
theorem s28_ok : okCode E 27 s28 (Try.f28.body.getD .skip) = true := by kernel_rfl
/-- the orders of spec.IsValidBatch -/
def s29 (_ : Nat) : Tr := .nil
theorem s29_ok : okCode E 16 s29 (Try.f29.body.getD .skip) = true := by kernel_rfl
/-- the orders of laws.toDeltaS -/
def s30 (_ : Nat) : Tr := .nil
theorem s30_ok : okCode E 23 s30 (Try.f30.body.getD .skip) = true := by kernel_rfl
/-- the orders of impl.IsValidBatch -/
def s31 (_ : Nat) : Tr := .nil
theorem s31_ok : okCode E 16 s31 (Try.f31.body.getD .skip) = true := by kernel_rfl
/-- the orders of laws.eqDeltaS -/
def s32 (i : Nat) : Tr := if i = 6 then .seq [0, 1, 2, 3, 4, 5, 6, 7, 8, 9] .nil else .nil
theorem s32_6 : s32 6 = .seq [0, 1, 2, 3, 4, 5, 6, 7, 8, 9] .nil := rfl
theorem s32_ok : okCode E 27 s32 (Try.f32.body.getD .skip) = true := by kernel_rfl
/-- the orders of spec.ApplyBatch -/
def s33 (i : Nat) : Tr := if i = 7 then .seq [0, 1, 2, 3, 4] (.both (.seq [5, 6, 7, 8, 9, 10, 11] .nil) (.seq [9, 5, 6, 7, 8, 10, 11] .nil)) else .nil
theorem s33_7 : s33 7 = .seq [0, 1, 2, 3, 4] (.both (.seq [5, 6, 7, 8, 9, 10, 11] .nil) (.seq [9, 5, 6, 7, 8, 10, 11] .nil)) := rfl
theorem s33_ok : okCode E 47 s33 (Try.f33.body.getD .skip) = true := by kernel_rfl
/-- the orders of impl.ApplyBatch -/
def s34 (_ : Nat) : Tr := .nil
theorem s34_ok : okCode E 47 s34 (Try.f34.body.getD .skip) = true := by kernel_rfl
/-- the orders of laws.markDeltaS -/
def s35 (_ : Nat) : Tr := .nil
theorem s35_ok : okCode E 53 s35 (Try.f35.body.getD .skip) = true := by kernel_rfl
/-- the orders of spec.InvertBatch -/
def s36 (i : Nat) : Tr := if i = 8 then .seq [0, 1, 2, 3, 4] (.both (.seq [5, 6, 7, 8, 9, 10, 11] .nil) (.seq [9, 5, 6, 7, 8, 10, 11] .nil)) else if i = 10 then .seq [0, 1, 2, 3, 4, 5, 6, 7, 8, 9] .nil else .nil
theorem s36_8 : s36 8 = .seq [0, 1, 2, 3, 4] (.both (.seq [5, 6, 7, 8, 9, 10, 11] .nil) (.seq [9, 5, 6, 7, 8, 10, 11] .nil)) := rfl
theorem s36_10 : s36 10 = .seq [0, 1, 2, 3, 4, 5, 6, 7, 8, 9] .nil := rfl
theorem s36_ok : okCode E 49 s36 (Try.f36.body.getD .skip) = true := by kernel_rfl
/-- the orders of impl.InvertBatch -/
def s37 (_ : Nat) : Tr := .nil
theorem s37_ok : okCode E 40 s37 (Try.f37.body.getD .skip) = true := by kernel_rfl
/-- the orders of laws.heldDeltaS -/
def s38 (i : Nat) : Tr := if i = 4 then .seq [0, 1, 2, 3, 4, 5, 6, 7] .nil else .nil
theorem s38_4 : s38 4 = .seq [0, 1, 2, 3, 4, 5, 6, 7] .nil := rfl
theorem s38_ok : okCode E 63 s38 (Try.f38.body.getD .skip) = true := by kernel_rfl
/-- the orders of laws.szTableS -/
def s39 (_ : Nat) : Tr := .nil
theorem s39_ok : okCode E 27 s39 (Try.f39.body.getD .skip) = true := by kernel_rfl
/-- the orders of spec.IsValidDatabase -/
def s40 (i : Nat) : Tr := if i = 5 then .seq [0, 1, 2, 3, 4, 5, 6, 7, 8, 9, 10, 11, 12, 13, 14, 15, 16, 17, 18, 19, 20, 21, 22, 23, 24, 25, 26, 27, 28, 29, 30, 31, 32, 33, 34, 35, 36, 37, 38] .nil else .nil
theorem s40_5 : s40 5 = .seq [0, 1, 2, 3, 4, 5, 6, 7, 8, 9, 10, 11, 12, 13, 14, 15, 16, 17, 18, 19, 20, 21, 22, 23, 24, 25, 26, 27, 28, 29, 30, 31, 32, 33, 34, 35, 36, 37, 38] .nil := rfl
theorem s40_ok : okCode E 60 s40 (Try.f40.body.getD .skip) = true := by kernel_rfl
/-- the orders of spec.l1In -/
def s41 (_ : Nat) : Tr := .nil
theorem s41_ok : okCode E 15 s41 (Try.f41.body.getD .skip) = true := by kernel_rfl
/-- the orders of spec.FormatRelation -/
def s42 (_ : Nat) : Tr := .nil
theorem s42_ok : okCode E 32 s42 (Try.f42.body.getD .skip) = true := by kernel_rfl
/-- the orders of spec.l32Run -/
def s43 (_ : Nat) : Tr := .nil
theorem s43_ok : okCode E 11 s43 (Try.f43.body.getD .skip) = true := by kernel_rfl
/-- the orders of spec.FormatInt -/
def s44 (_ : Nat) : Tr := .nil
theorem s44_ok : okCode E 31 s44 (Try.f44.body.getD .skip) = true := by kernel_rfl
/-- the orders of spec.ChecksumOf -/
def s45 (_ : Nat) : Tr := .nil
theorem s45_ok : okCode E 21 s45 (Try.f45.body.getD .skip) = true := by kernel_rfl
/-- the orders of spec.l32Head -/
def s46 (_ : Nat) : Tr := .nil
theorem s46_ok : okCode E 6 s46 (Try.f46.body.getD .skip) = true := by kernel_rfl
/-- the orders of laws.toTableS -/
def s47 (_ : Nat) : Tr := .nil
theorem s47_ok : okCode E 23 s47 (Try.f47.body.getD .skip) = true := by kernel_rfl
/-- the orders of impl.IsValidDatabase -/
def s48 (i : Nat) : Tr := if i = 6 then .seq [0, 1, 2, 3, 4, 5, 6, 7, 8, 9, 10, 11, 12, 13, 14, 15, 16, 17, 18, 19, 20, 21, 22, 23, 24, 25, 26, 27, 28, 29, 30, 31, 32, 33, 34, 35, 36, 37, 38] .nil else .nil
theorem s48_6 : s48 6 = .seq [0, 1, 2, 3, 4, 5, 6, 7, 8, 9, 10, 11, 12, 13, 14, 15, 16, 17, 18, 19, 20, 21, 22, 23, 24, 25, 26, 27, 28, 29, 30, 31, 32, 33, 34, 35, 36, 37, 38] .nil := rfl
theorem s48_ok : okCode E 57 s48 (Try.f48.body.getD .skip) = true := by kernel_rfl
/-- the orders of impl.within -/
def s49 (_ : Nat) : Tr := .nil
theorem s49_ok : okCode E 15 s49 (Try.f49.body.getD .skip) = true := by kernel_rfl
/-- the orders of impl.FormatInt -/
def s50 (_ : Nat) : Tr := .nil
theorem s50_ok : okCode E 30 s50 (Try.f50.body.getD .skip) = true := by kernel_rfl
/-- the orders of impl.FormatRelation -/
def s51 (_ : Nat) : Tr := .nil
theorem s51_ok : okCode E 31 s51 (Try.f51.body.getD .skip) = true := by kernel_rfl
/-- the orders of impl.ChecksumOf -/
def s52 (_ : Nat) : Tr := .nil
theorem s52_ok : okCode E 21 s52 (Try.f52.body.getD .skip) = true := by kernel_rfl
/-- the orders of laws.eqFile -/
def s53 (_ : Nat) : Tr := .nil
theorem s53_ok : okCode E 15 s53 (Try.f53.body.getD .skip) = true := by kernel_rfl
/-- the orders of laws.eqTableS -/
def s54 (i : Nat) : Tr := if i = 6 then .seq [0, 1, 2, 3, 4, 5, 6, 7, 8, 9] .nil else .nil
theorem s54_6 : s54 6 = .seq [0, 1, 2, 3, 4, 5, 6, 7, 8, 9] .nil := rfl
theorem s54_ok : okCode E 27 s54 (Try.f54.body.getD .skip) = true := by kernel_rfl
/-- the orders of laws.markTableS -/
def s55 (_ : Nat) : Tr := .nil
theorem s55_ok : okCode E 37 s55 (Try.f55.body.getD .skip) = true := by kernel_rfl
/-- the orders of laws.markText -/
def s56 (_ : Nat) : Tr := .nil
theorem s56_ok : okCode E 20 s56 (Try.f56.body.getD .skip) = true := by kernel_rfl
/-- the orders of laws.szRelation -/
def s57 (_ : Nat) : Tr := .nil
theorem s57_ok : okCode E 12 s57 (Try.f57.body.getD .skip) = true := by kernel_rfl
/-- the orders of spec.l26Fits -/
def s58 (_ : Nat) : Tr := .nil
theorem s58_ok : okCode E 41 s58 (Try.f58.body.getD .skip) = true := by kernel_rfl
/-- the orders of spec.LookupRelation -/
def s59 (_ : Nat) : Tr := .nil
theorem s59_ok : okCode E 34 s59 (Try.f59.body.getD .skip) = true := by kernel_rfl
/-- the orders of spec.Difference -/
def s60 (i : Nat) : Tr := if i = 7 then .seq [0, 1, 2, 3, 4, 5, 6, 7, 8, 9, 10, 11] .nil else if i = 9 then .seq [0, 1, 3, 4, 5, 6, 7, 2] (.app 8 [48] (.seq [9, 10, 11, 12] .nil)) else .nil
theorem s60_7 : s60 7 = .seq [0, 1, 2, 3, 4, 5, 6, 7, 8, 9, 10, 11] .nil := rfl
theorem s60_9 : s60 9 = .seq [0, 1, 3, 4, 5, 6, 7, 2] (.app 8 [48] (.seq [9, 10, 11, 12] .nil)) := rfl
theorem s60_ok : okCode E 61 s60 (Try.f60.body.getD .skip) = true := by kernel_rfl
/-- the orders of laws.toRelation -/
def s61 (_ : Nat) : Tr := .nil
theorem s61_ok : okCode E 12 s61 (Try.f61.body.getD .skip) = true := by kernel_rfl
/-- the orders of impl.applicable -/
def s62 (i : Nat) : Tr := if i = 3 then .seq [0, 1, 2, 3, 4, 5, 6, 7, 8, 9, 10, 11, 12, 14] (.both (.seq [13] (.both (.seq [15, 16, 17, 18, 19] .nil) (.seq [18, 15, 16, 17, 19] .nil))) (.both (.seq [15] (.both (.seq [13, 16, 17, 18, 19] .nil) (.seq [18, 13, 16, 17, 19] .nil))) (.seq [18, 13, 15, 16, 17, 19] .nil))) else .nil
theorem s62_3 : s62 3 = .seq [0, 1, 2, 3, 4, 5, 6, 7, 8, 9, 10, 11, 12, 14] (.both (.seq [13] (.both (.seq [15, 16, 17, 18, 19] .nil) (.seq [18, 15, 16, 17, 19] .nil))) (.both (.seq [15] (.both (.seq [13, 16, 17, 18, 19] .nil) (.seq [18, 13, 16, 17, 19] .nil))) (.seq [18, 13, 15, 16, 17, 19] .nil))) := rfl
theorem s62_ok : okCode E 44 s62 (Try.f62.body.getD .skip) = true := by kernel_rfl
/-- the orders of impl.ContainsRow -/
def s63 (_ : Nat) : Tr := .nil
theorem s63_ok : okCode E 19 s63 (Try.f63.body.getD .skip) = true := by kernel_rfl
/-- the orders of impl.copyInts -/
def s64 (_ : Nat) : Tr := .nil
theorem s64_ok : okCode E 6 s64 (Try.f64.body.getD .skip) = true := by kernel_rfl
/-- the orders of laws.eqRelation -/
def s65 (_ : Nat) : Tr := .nil
theorem s65_ok : okCode E 16 s65 (Try.f65.body.getD .skip) = true := by kernel_rfl
/-- the orders of laws.markRelation -/
def s66 (_ : Nat) : Tr := .nil
theorem s66_ok : okCode E 10 s66 (Try.f66.body.getD .skip) = true := by kernel_rfl
/-- the orders of laws.heldRelation -/
def s67 (_ : Nat) : Tr := .nil
theorem s67_ok : okCode E 12 s67 (Try.f67.body.getD .skip) = true := by kernel_rfl
/-- the orders of spec.l6Copy -/
def s68 (i : Nat) : Tr := if i = 6 then .seq [0, 1, 2, 3, 4, 5, 6, 7, 8, 9, 10, 11, 12, 13] .nil else .nil
theorem s68_6 : s68 6 = .seq [0, 1, 2, 3, 4, 5, 6, 7, 8, 9, 10, 11, 12, 13] .nil := rfl
theorem s68_ok : okCode E 35 s68 (Try.f68.body.getD .skip) = true := by kernel_rfl
/-- the orders of spec.Union -/
def s69 (i : Nat) : Tr := if i = 3 then .seq [0, 1, 3, 4, 6, 7] (.both (.seq [2] (.both (.app 5 [25, 31] (.both (.app 8 [25] (.both (.seq [9, 10, 11, 12, 13, 14, 15] .nil) (.seq [13, 9, 10, 11, 12, 14, 15] .nil))) (.seq [13] (.app 8 [25] (.seq [9, 10, 11, 12, 14, 15] .nil))))) (.seq [13] (.app 5 [25, 31] (.app 8 [25] (.seq [9, 10, 11, 12, 14, 15] .nil)))))) (.seq [13, 2] (.app 5 [25, 31] (.app 8 [25] (.seq [9, 10, 11, 12, 14, 15] .nil))))) else .nil
theorem s69_3 : s69 3 = .seq [0, 1, 3, 4, 6, 7] (.both (.seq [2] (.both (.app 5 [25, 31] (.both (.app 8 [25] (.both (.seq [9, 10, 11, 12, 13, 14, 15] .nil) (.seq [13, 9, 10, 11, 12, 14, 15] .nil))) (.seq [13] (.app 8 [25] (.seq [9, 10, 11, 12, 14, 15] .nil))))) (.seq [13] (.app 5 [25, 31] (.app 8 [25] (.seq [9, 10, 11, 12, 14, 15] .nil)))))) (.seq [13, 2] (.app 5 [25, 31] (.app 8 [25] (.seq [9, 10, 11, 12, 14, 15] .nil))))) := rfl
theorem s69_ok : okCode E 39 s69 (Try.f69.body.getD .skip) = true := by kernel_rfl
/-- the orders of spec.SetRelation -/
def s70 (_ : Nat) : Tr := .nil
theorem s70_ok : okCode E 73 s70 (Try.f70.body.getD .skip) = true := by kernel_rfl
/-- the orders of impl.copyDatabase -/
def s71 (i : Nat) : Tr := if i = 5 then .seq [0, 1, 2, 3, 4, 5, 6, 7, 8, 9, 10, 11] .nil else .nil
theorem s71_5 : s71 5 = .seq [0, 1, 2, 3, 4, 5, 6, 7, 8, 9, 10, 11] .nil := rfl
theorem s71_ok : okCode E 26 s71 (Try.f71.body.getD .skip) = true := by kernel_rfl
/-- the orders of impl.LookupRelation -/
def s72 (_ : Nat) : Tr := .nil
theorem s72_ok : okCode E 26 s72 (Try.f72.body.getD .skip) = true := by kernel_rfl
/-- the orders of impl.Difference -/
def s73 (i : Nat) : Tr := if i = 8 then .seq [0, 1, 2, 3, 4, 5, 6, 7] .nil else .nil
theorem s73_8 : s73 8 = .seq [0, 1, 2, 3, 4, 5, 6, 7] .nil := rfl
theorem s73_ok : okCode E 48 s73 (Try.f73.body.getD .skip) = true := by kernel_rfl
/-- the orders of impl.Union -/
def s74 (i : Nat) : Tr := if i = 3 then .seq [0, 1, 2, 3, 5, 6, 4] (.app 7 [22] (.seq [8, 9, 10, 11, 12] .nil)) else .nil
theorem s74_3 : s74 3 = .seq [0, 1, 2, 3, 5, 6, 4] (.app 7 [22] (.seq [8, 9, 10, 11, 12] .nil)) := rfl
theorem s74_ok : okCode E 33 s74 (Try.f74.body.getD .skip) = true := by kernel_rfl
/-- the orders of impl.SetRelation -/
def s75 (i : Nat) : Tr := if i = 10 then .seq [1, 2, 3, 4, 6, 9, 10, 11, 12] (.both (.seq [0] (.both (.app 5 [10, 68] (.seq [7] (.app 8 [68] (.seq [13, 14, 15] .nil)))) (.seq [7] (.app 5 [10, 68] (.app 8 [68] (.seq [13, 14, 15] .nil)))))) (.seq [7, 0] (.app 5 [10, 68] (.app 8 [68] (.seq [13, 14, 15] .nil))))) else .nil
theorem s75_10 : s75 10 = .seq [1, 2, 3, 4, 6, 9, 10, 11, 12] (.both (.seq [0] (.both (.app 5 [10, 68] (.seq [7] (.app 8 [68] (.seq [13, 14, 15] .nil)))) (.seq [7] (.app 5 [10, 68] (.app 8 [68] (.seq [13, 14, 15] .nil)))))) (.seq [7, 0] (.app 5 [10, 68] (.app 8 [68] (.seq [13, 14, 15] .nil))))) := rfl
theorem s75_ok : okCode E 80 s75 (Try.f75.body.getD .skip) = true := by kernel_rfl
/-- the orders of laws.heldTableS -/
def s76 (i : Nat) : Tr := if i = 4 then .seq [0, 1, 2, 3, 4, 5, 6, 7] .nil else .nil
theorem s76_4 : s76 4 = .seq [0, 1, 2, 3, 4, 5, 6, 7] .nil := rfl
theorem s76_ok : okCode E 43 s76 (Try.f76.body.getD .skip) = true := by kernel_rfl
/-- the orders of laws.markIntSS -/
def s77 (_ : Nat) : Tr := .nil
theorem s77_ok : okCode E 19 s77 (Try.f77.body.getD .skip) = true := by kernel_rfl
/-- the orders of spec.InvertDelta -/
def s78 (_ : Nat) : Tr := .nil
theorem s78_ok : okCode E 16 s78 (Try.f78.body.getD .skip) = true := by kernel_rfl
/-- the orders of impl.InvertDelta -/
def s79 (i : Nat) : Tr := if i = 1 then .seq [0, 1, 2, 3, 5, 6, 4, 7, 8, 9] .nil else .nil
theorem s79_1 : s79 1 = .seq [0, 1, 2, 3, 5, 6, 4, 7, 8, 9] .nil := rfl
theorem s79_ok : okCode E 12 s79 (Try.f79.body.getD .skip) = true := by kernel_rfl
/-- the orders of laws.heldIntSS -/
def s80 (_ : Nat) : Tr := .nil
theorem s80_ok : okCode E 21 s80 (Try.f80.body.getD .skip) = true := by kernel_rfl
/-- the orders of laws.szTable -/
def s81 (_ : Nat) : Tr := .nil
theorem s81_ok : okCode E 19 s81 (Try.f81.body.getD .skip) = true := by kernel_rfl
/-- the orders of spec.IsValidName -/
def s82 (_ : Nat) : Tr := .nil
theorem s82_ok : okCode E 23 s82 (Try.f82.body.getD .skip) = true := by kernel_rfl
/-- the orders of spec.IsValidRelation -/
def s83 (i : Nat) : Tr := if i = 6 then .seq [0, 1, 2, 3, 4, 5, 6, 7, 8, 9, 10, 11, 12, 13, 14, 15, 16, 17, 18, 19, 20, 21, 22, 23, 24, 25, 26, 27, 28, 29, 30, 31, 32, 33, 34, 35, 36] .nil else .nil
theorem s83_6 : s83 6 = .seq [0, 1, 2, 3, 4, 5, 6, 7, 8, 9, 10, 11, 12, 13, 14, 15, 16, 17, 18, 19, 20, 21, 22, 23, 24, 25, 26, 27, 28, 29, 30, 31, 32, 33, 34, 35, 36] .nil := rfl
theorem s83_ok : okCode E 58 s83 (Try.f83.body.getD .skip) = true := by kernel_rfl
/-- the orders of spec.l5RowText -/
def s84 (_ : Nat) : Tr := .nil
theorem s84_ok : okCode E 24 s84 (Try.f84.body.getD .skip) = true := by kernel_rfl
/-- the orders of laws.toTable -/
def s85 (_ : Nat) : Tr := .nil
theorem s85_ok : okCode E 12 s85 (Try.f85.body.getD .skip) = true := by kernel_rfl
/-- the orders of impl.IsValidName -/
def s86 (_ : Nat) : Tr := .nil
theorem s86_ok : okCode E 5 s86 (Try.f86.body.getD .skip) = true := by kernel_rfl
/-- the orders of impl.IsValidRelation -/
def s87 (_ : Nat) : Tr := .nil
theorem s87_ok : okCode E 8 s87 (Try.f87.body.getD .skip) = true := by kernel_rfl
/-- the orders of impl.formatList -/
def s88 (_ : Nat) : Tr := .nil
theorem s88_ok : okCode E 23 s88 (Try.f88.body.getD .skip) = true := by kernel_rfl
/-- the orders of impl.join -/
def s89 (_ : Nat) : Tr := .nil
theorem s89_ok : okCode E 25 s89 (Try.f89.body.getD .skip) = true := by kernel_rfl
/-- the orders of laws.eqTable -/
def s90 (_ : Nat) : Tr := .nil
theorem s90_ok : okCode E 16 s90 (Try.f90.body.getD .skip) = true := by kernel_rfl
/-- the orders of laws.szIntSS -/
def s91 (_ : Nat) : Tr := .nil
theorem s91_ok : okCode E 27 s91 (Try.f91.body.getD .skip) = true := by kernel_rfl
/-- the orders of spec.l5Copy -/
def s92 (i : Nat) : Tr := if i = 5 then .seq [0, 1, 3, 4, 5, 6, 7, 2] (.app 8 [15] (.seq [9, 10, 11, 12] .nil)) else .nil
theorem s92_5 : s92 5 = .seq [0, 1, 3, 4, 5, 6, 7, 2] (.app 8 [15] (.seq [9, 10, 11, 12] .nil)) := rfl
theorem s92_ok : okCode E 28 s92 (Try.f92.body.getD .skip) = true := by kernel_rfl
/-- the orders of spec.l5Place -/
def s93 (_ : Nat) : Tr := .nil
theorem s93_ok : okCode E 46 s93 (Try.f93.body.getD .skip) = true := by kernel_rfl
/-- the orders of laws.toIntSS -/
def s94 (_ : Nat) : Tr := .nil
theorem s94_ok : okCode E 23 s94 (Try.f94.body.getD .skip) = true := by kernel_rfl
/-- the orders of impl.place -/
def s95 (_ : Nat) : Tr := .nil
theorem s95_ok : okCode E 42 s95 (Try.f95.body.getD .skip) = true := by kernel_rfl
/-- the orders of laws.eqIntSS -/
def s96 (i : Nat) : Tr := if i = 6 then .seq [0, 1, 2, 3, 4, 5, 6, 7, 8, 9] .nil else .nil
theorem s96_6 : s96 6 = .seq [0, 1, 2, 3, 4, 5, 6, 7, 8, 9] .nil := rfl
theorem s96_ok : okCode E 27 s96 (Try.f96.body.getD .skip) = true := by kernel_rfl
/-- the orders of spec.NewRelation -/
def s97 (_ : Nat) : Tr := .nil
theorem s97_ok : okCode E 40 s97 (Try.f97.body.getD .skip) = true := by kernel_rfl
/-- the orders of impl.copyRelation -/
def s98 (i : Nat) : Tr := if i = 1 then .seq [0, 1, 2, 3, 4, 5, 6] .nil else .nil
theorem s98_1 : s98 1 = .seq [0, 1, 2, 3, 4, 5, 6] .nil := rfl
theorem s98_ok : okCode E 9 s98 (Try.f98.body.getD .skip) = true := by kernel_rfl
/-- the orders of impl.NewRelation -/
def s99 (_ : Nat) : Tr := .nil
theorem s99_ok : okCode E 35 s99 (Try.f99.body.getD .skip) = true := by kernel_rfl
/-- the orders of impl.copyRows -/
def s100 (_ : Nat) : Tr := .nil
theorem s100_ok : okCode E 19 s100 (Try.f100.body.getD .skip) = true := by kernel_rfl
/-- the orders of laws.markIntS -/
def s101 (_ : Nat) : Tr := .nil
theorem s101_ok : okCode E 19 s101 (Try.f101.body.getD .skip) = true := by kernel_rfl
/-- the orders of laws.heldIntS -/
def s102 (_ : Nat) : Tr := .nil
theorem s102_ok : okCode E 21 s102 (Try.f102.body.getD .skip) = true := by kernel_rfl
/-- the orders of spec.AreValidValues -/
def s103 (_ : Nat) : Tr := .nil
theorem s103_ok : okCode E 16 s103 (Try.f103.body.getD .skip) = true := by kernel_rfl
/-- the orders of spec.CompareRows -/
def s104 (i : Nat) : Tr := if i = 4 then .seq [0, 1, 2, 3, 4, 5, 6, 7, 8] .nil else if i = 6 then .seq [0, 1, 2, 3, 4, 5, 6, 7, 8] .nil else .nil
theorem s104_4 : s104 4 = .seq [0, 1, 2, 3, 4, 5, 6, 7, 8] .nil := rfl
theorem s104_6 : s104 6 = .seq [0, 1, 2, 3, 4, 5, 6, 7, 8] .nil := rfl
theorem s104_ok : okCode E 46 s104 (Try.f104.body.getD .skip) = true := by kernel_rfl
/-- the orders of impl.isLetters -/
def s105 (_ : Nat) : Tr := .nil
theorem s105_ok : okCode E 31 s105 (Try.f105.body.getD .skip) = true := by kernel_rfl
/-- the orders of impl.rowsValid -/
def s106 (_ : Nat) : Tr := .nil
theorem s106_ok : okCode E 46 s106 (Try.f106.body.getD .skip) = true := by kernel_rfl
/-- the orders of laws.szIntS -/
def s107 (_ : Nat) : Tr := .nil
theorem s107_ok : okCode E 12 s107 (Try.f107.body.getD .skip) = true := by kernel_rfl
/-- the orders of laws.toIntS -/
def s108 (_ : Nat) : Tr := .nil
theorem s108_ok : okCode E 22 s108 (Try.f108.body.getD .skip) = true := by kernel_rfl
/-- the orders of impl.CompareRows -/
def s109 (i : Nat) : Tr := if i = 4 then .seq [0, 1, 2, 3, 4, 5, 6, 7, 8] .nil else if i = 5 then .seq [0, 1, 2, 3, 4, 5, 6, 7, 8, 9] .nil else .nil
theorem s109_4 : s109 4 = .seq [0, 1, 2, 3, 4, 5, 6, 7, 8] .nil := rfl
theorem s109_5 : s109 5 = .seq [0, 1, 2, 3, 4, 5, 6, 7, 8, 9] .nil := rfl
theorem s109_ok : okCode E 41 s109 (Try.f109.body.getD .skip) = true := by kernel_rfl
/-- the orders of laws.eqIntS -/
def s110 (i : Nat) : Tr := if i = 6 then .seq [0, 1, 2, 3, 4, 5, 6, 7, 8] .nil else .nil
theorem s110_6 : s110 6 = .seq [0, 1, 2, 3, 4, 5, 6, 7, 8] .nil := rfl
theorem s110_ok : okCode E 26 s110 (Try.f110.body.getD .skip) = true := by kernel_rfl
/-- the orders of spec.l5Sort -/
def s111 (i : Nat) : Tr := if i = 13 then .seq [0, 1, 2, 3, 4, 5, 6, 7] .nil else .nil
theorem s111_13 : s111 13 = .seq [0, 1, 2, 3, 4, 5, 6, 7] .nil := rfl
theorem s111_ok : okCode E 80 s111 (Try.f111.body.getD .skip) = true := by kernel_rfl
/-- the orders of impl.AreValidValues -/
def s112 (_ : Nat) : Tr := .nil
theorem s112_ok : okCode E 15 s112 (Try.f112.body.getD .skip) = true := by kernel_rfl
/-- the orders of impl.sorted -/
def s113 (i : Nat) : Tr := if i = 4 then .seq [0, 1, 2, 4, 5, 6, 3, 7, 8, 9] .nil else if i = 11 then .seq [0, 1, 2, 3, 4, 5, 6, 7] .nil else .nil
theorem s113_4 : s113 4 = .seq [0, 1, 2, 4, 5, 6, 3, 7, 8, 9] .nil := rfl
theorem s113_11 : s113 11 = .seq [0, 1, 2, 3, 4, 5, 6, 7] .nil := rfl
theorem s113_ok : okCode E 68 s113 (Try.f113.body.getD .skip) = true := by kernel_rfl
/-- the orders of impl.compareInts -/
def s114 (_ : Nat) : Tr := .nil
theorem s114_ok : okCode E 13 s114 (Try.f114.body.getD .skip) = true := by kernel_rfl
end Go.Proofs.Ytfpohhabemnnfaa

namespace Go.Proofs.Ytfpohhabemnnfaa
open Go.Vs Go.Proofs Go
set_option maxRecDepth 100000
set_option maxHeartbeats 1000000


theorem w_laws_markText (k : Int) (h0 : 1 ≤ k) (h1 : k ≤ 4611686018427387904) :
   VC Try.prog 56 [.d (.int .i64 k)] (fun _ r => r = .d (.str (mtext k))) := by
  refine VC.of E s56 (by kernel_rfl) Try.func56 (by rfl) (by kernel_rfl) (by simp [Try.f56]) (by simp [Try.f56]) s56_ok fun B => ?_
  simp [Try.f56, show ¬ k ≤ 0 by omega]
  refine loop_rule (X := Nat × Int × List UInt8) (fun x => x.1 ≤ 64 ∧ 0 ≤ x.2.1 ∧ x.2.1 < 2 ^ x.1 ∧ x.2.2.length + x.1 = 64 ∧ mdig x.1 x.2.1 x.2.2 = mdig 64 k []) (fun x => [(0, .d (.int .i64 x.2.1)), (3, .d (.str x.2.2))]) (fun _ => []) (fun x => x.1) (64, k, []) ?_ (by simp) (by simp) ?_
  · simp; omega
  · rintro ⟨n, q, o⟩ hs t m ⟨hi1, hi2, hi3, hi4, hi5⟩ hh
    simp only at hi1 hi2 hi3 hi4 hi5
    by_cases hq : 0 < q
    · obtain ⟨n, rfl⟩ : ∃ n', n = n' + 1 := by
        cases n with
        | zero => simp at hi3; omega
        | succ n => exact ⟨n, rfl⟩
      have e1 : q.tmod 10 = q % 10 := Int.tmod_eq_emod_of_nonneg hi2
      have e2 : q.tdiv 10 = q / 10 := Int.tdiv_eq_ediv_of_nonneg hi2
      have hp : (2 : Int) ^ (n + 1) = 2 * 2 ^ n := by rw [Int.pow_succ]; omega
      have hb : (2 : Int) ^ n ≤ 2 ^ 63 := by
        have : n ≤ 63 := by omega
        exact_mod_cast Nat.pow_le_pow_right (by decide : 0 < 2) this
      simp only [hp] at hi3
      have e3 : IntKind.i64.wrap (48 + q.tmod 10) = 48 + q.tmod 10 := by rw [e1]; exact wrap64_of (by omega) (by omega)
      have e4 : IntKind.i64.wrap (q.tdiv 10) = q.tdiv 10 := by rw [e2]; exact wrap64_of (by omega) (by simp at hb; omega)
      simp [hq, e3, e4, isB, toB]
      refine ⟨by omega, ?_⟩
      refine back (n, q.tdiv 10, UInt8.ofNat (IntKind.u8.wrap (48 + q.tmod 10)).toNat :: o) ⟨by simp; omega, by simp [e2]; omega, by simp [e2]; omega, by simp at hi4 ⊢; omega, ?_⟩ (by simp) rfl (by simp) (by simp) (by simp)
      rw [← hi5]
      simp only [mdig, if_pos hq]
    · have hz : q = 0 := by omega
      subst hz
      have : mdig n 0 o = o := by cases n <;> simp [mdig]
      rw [this] at hi5
      simp [mtext, ← hi5]
      omega

end Go.Proofs.Ytfpohhabemnnfaa

namespace Go.Proofs.Ytfpohhabemnnfaa
open Go.Vs Go.Proofs Go
set_option maxRecDepth 100000
set_option maxHeartbeats 1000000

theorem w_laws_szIntS (a : Sl (Int)) (left : Int) (h0 : 0 ≤ left) (h1 : left ≤ 1048576) (ha : okS okI a) :
   VC Try.prog 107 [.d (dSl cI a), .d (.int .i64 left)] (fun _ r => r = .d (.int .i64 (szv left (swS swI a)))) := by
  refine VC.of E s107 (by kernel_rfl) Try.func107 (by rfl) (by kernel_rfl) (by simp [Try.f107]) (by simp [Try.f107]) s107_ok fun B => ?_
  have ha1 := ha.1
  simp only [maxLen] at ha1
  have hw1 : IntKind.i64.wrap (left - (a.xs.length : Int)) = left - a.xs.length := wrap64_of (by omega) (by omega)
  have hwt : swS swI a = a.xs.length + sumW swI a.xs := rfl
  simp [Try.f107, dSl, hw1]
  have hz : sumW swI a.xs = 0 := by
    generalize a.xs = l
    induction l with
    | nil => rfl
    | cons b r ih => simp [swI, ih]
  refine ⟨fun h => ?_, fun h => ?_⟩
  · rw [szv_neg (by omega)]
  · rw [szv_pos (by omega)]; omega
theorem w_laws_eqIntS (a b : Sl (Int)) (ha : okS okI a) :
   VC Try.prog 110 [.d (dSl cI a), .d (dSl cI b)] (fun _ r => r = .d (.bool (plS plI a == plS plI b))) := by
  refine VC.of E s110 (by kernel_rfl) Try.func110 (by rfl) (by kernel_rfl) (by simp [Try.f110]) (by simp [Try.f110]) s110_ok fun B => ?_
  have ha1 := ha.1
  simp only [maxLen] at ha1
  simp [Try.f110, s110_6, dSl, plS]
  refine ⟨fun h e => h (by have := congrArg List.length e; simp at this; omega), fun hl => ?_⟩
  have hl' : a.xs.length = b.xs.length := by omega
  refine loop_rule (X := Nat) (fun i => i ≤ a.xs.length ∧ (a.xs.map plI).take i = (b.xs.map plI).take i) (fun i => [(0, .d (.sl a.id a.T (a.xs.map cI))), (1, .d (.sl b.id b.T (b.xs.map cI))), (5, .d (.int .i64 i))]) (fun _ => []) (fun i => a.xs.length - i) 0 (by simp) (by simp) (by simp) ?_
  intro i hs t m hi hh
  by_cases hlt : i < a.xs.length
  · have hwi := wr1 (i := i) (by omega)
    have hlb : i < b.xs.length := by omega
    have hst := eqm_step plI hlt hlb hi.2
    simp [cI, hlt, hlb, hwi, s110_6, ]
    simp only [plI] at hst
    refine ⟨fun hne he => hne (hst.2 (by rw [he])), fun heq => ?_⟩
    exact back (i + 1) ⟨by omega, hst.1 heq⟩ (by omega) rfl (by simp) (by simp) (by simp)
  · have := eq_all (a := a.xs.map plI) (b := b.xs.map plI) (by simpa using Nat.le_of_not_lt hlt) (by simpa using hl') hi.2
    have hlb : ¬ i < b.xs.length := by omega
    simp [hlt, hlb, this]
theorem w_laws_szIntSS (a : Sl (Sl (Int))) (left : Int) (h0 : 0 ≤ left) (h1 : left ≤ 1048576) (ha : okS (okS okI) a) :
   VC Try.prog 91 [.d (dSl (cS cI) a), .d (.int .i64 left)] (fun _ r => r = .d (.int .i64 (szv left (swS (swS swI) a)))) := by
  refine VC.of E s91 (by kernel_rfl) Try.func91 (by rfl) (by kernel_rfl) (by simp [Try.f91]) (by simp [Try.f91]) s91_ok fun B => ?_
  have ha1 := ha.1
  simp only [maxLen] at ha1
  have hw1 : IntKind.i64.wrap (left - (a.xs.length : Int)) = left - a.xs.length := wrap64_of (by omega) (by omega)
  have hwt : swS (swS swI) a = a.xs.length + sumW (swS swI) a.xs := rfl
  simp [Try.f91, dSl, hw1]
  refine ⟨fun h => ?_, fun h => ?_⟩
  · rw [szv_neg (by omega)]
  · refine loop_rule (X := Nat) (fun i => i ≤ a.xs.length ∧ 0 ≤ left - a.xs.length - sumW (swS swI) (a.xs.take i)) (fun i => [(0, .d (.sl a.id a.T (a.xs.map (cS cI)))), (1, .d (.int .i64 (left - a.xs.length - sumW (swS swI) (a.xs.take i)))), (5, .d (.int .i64 i))]) (fun _ => []) (fun i => a.xs.length - i) 0 ?_ ?_ (by simp) ?_
    · simp; omega
    · simp
    · intro i hs t m hi hh
      by_cases hlt : i < a.xs.length
      · simp [cS, hlt]
        refine call_pure (w_laws_szIntS a.xs[i] _ (by omega) (by omega) (ha.2 _ (List.getElem_mem _))) rfl (by simp) rfl fun hs' hh' => ?_
        have e1 := sumW_succ (swS swI) hlt
        have e2 := sumW_le (swS swI) a.xs (i + 1)
        have hwi := wr1 (i := i) (by omega)
        by_cases hc : (swS swI a.xs[i] : Int) ≤ left - a.xs.length - sumW (swS swI) (a.xs.take i)
        · rw [szv_pos hc]
          have hn : ¬ left - a.xs.length - sumW (swS swI) (a.xs.take i) - swS swI a.xs[i] < 0 := by omega
          simp [hwi, hn]
          refine back (i + 1) ⟨by omega, by omega⟩ (by omega) rfl (by simp at hh' ⊢; omega) ?_ (by simp)
          simp
          omega
        · rw [szv_neg (by omega)]
          simp
          rw [szv_neg (by omega)]
          all_goals exact fun h => absurd h (by decide)
      · have : i = a.xs.length := by omega
        subst this
        simp
        rw [szv_pos] <;> (simp at hi ⊢; omega)
theorem w_laws_eqIntSS (a b : Sl (Sl (Int))) (ha : okS (okS okI) a) :
   VC Try.prog 96 [.d (dSl (cS cI) a), .d (dSl (cS cI) b)] (fun _ r => r = .d (.bool (plS (plS plI) a == plS (plS plI) b))) := by
  refine VC.of E s96 (by kernel_rfl) Try.func96 (by rfl) (by kernel_rfl) (by simp [Try.f96]) (by simp [Try.f96]) s96_ok fun B => ?_
  have ha1 := ha.1
  simp only [maxLen] at ha1
  simp [Try.f96, s96_6, dSl, plS]
  refine ⟨fun h e => h (by have := congrArg List.length e; simp at this; omega), fun hl => ?_⟩
  have hl' : a.xs.length = b.xs.length := by omega
  refine loop_rule (X := Nat) (fun i => i ≤ a.xs.length ∧ (a.xs.map (plS plI)).take i = (b.xs.map (plS plI)).take i) (fun i => [(0, .d (.sl a.id a.T (a.xs.map (cS cI)))), (1, .d (.sl b.id b.T (b.xs.map (cS cI)))), (5, .d (.int .i64 i))]) (fun _ => []) (fun i => a.xs.length - i) 0 (by simp) (by simp) (by simp) ?_
  intro i hs t m hi hh
  by_cases hlt : i < a.xs.length
  · have hwi := wr1 (i := i) (by omega)
    have hlb : i < b.xs.length := by omega
    have hst := eqm_step (plS plI) hlt hlb hi.2
    simp [cS, hlt, hlb, s96_6, ]
    refine call_pure (w_laws_eqIntS a.xs[i] b.xs[i] (ha.2 _ (List.getElem_mem _))) rfl (by simp) rfl fun hs' hh' => ?_
    simp at hh'
    simp [hwi]
    refine ⟨fun hne he => hne (hst.2 (by rw [he])), fun heq => ?_⟩
    exact back (i + 1) ⟨by omega, hst.1 heq⟩ (by omega) rfl (by simp; omega) (by simp) (by simp)
  · have := eq_all (a := a.xs.map (plS plI)) (b := b.xs.map (plS plI)) (by simpa using Nat.le_of_not_lt hlt) (by simpa using hl') hi.2
    have hlb : ¬ i < b.xs.length := by omega
    simp [hlt, hlb, this]
theorem w_laws_eqFile (a b : File) (ha : okFile a) :
   VC Try.prog 53 [.agg ((cFile a).map V.d), .agg ((cFile b).map V.d)] (fun _ r => r = .d (.bool (plFile a == plFile b))) := by
  refine VC.of E s53 (by kernel_rfl) Try.func53 (by rfl) (by kernel_rfl) (by simp [Try.f53]) (by simp [Try.f53]) s53_ok fun B => ?_
  simp [Try.f53, cFile, cStr, dSl, plFile, plI, plStr]
  by_cases e0 : a.name = b.name <;> by_cases e1 : a.data = b.data <;> simp [e0, e1]
theorem w_laws_eqFileS (a b : Sl (File)) (ha : okS okFile a) :
   VC Try.prog 13 [.d (dSl cFile a), .d (dSl cFile b)] (fun _ r => r = .d (.bool (plS plFile a == plS plFile b))) := by
  refine VC.of E s13 (by kernel_rfl) Try.func13 (by rfl) (by kernel_rfl) (by simp [Try.f13]) (by simp [Try.f13]) s13_ok fun B => ?_
  have ha1 := ha.1
  simp only [maxLen] at ha1
  simp [Try.f13, s13_6, dSl, plS]
  refine ⟨fun h e => h (by have := congrArg List.length e; simp at this; omega), fun hl => ?_⟩
  have hl' : a.xs.length = b.xs.length := by omega
  refine loop_rule (X := Nat) (fun i => i ≤ a.xs.length ∧ (a.xs.map plFile).take i = (b.xs.map plFile).take i) (fun i => [(0, .d (.sl a.id a.T (a.xs.map cFile))), (1, .d (.sl b.id b.T (b.xs.map cFile))), (5, .d (.int .i64 i))]) (fun _ => []) (fun i => a.xs.length - i) 0 (by simp) (by simp) (by simp) ?_
  intro i hs t m hi hh
  by_cases hlt : i < a.xs.length
  · have hwi := wr1 (i := i) (by omega)
    have hlb : i < b.xs.length := by omega
    have hst := eqm_step plFile hlt hlb hi.2
    simp [cFile, cStr, hlt, hlb, s13_6, ]
    refine call_pure (w_laws_eqFile a.xs[i] b.xs[i] (ha.2 _ (List.getElem_mem _))) rfl (by simp) rfl fun hs' hh' => ?_
    simp at hh'
    simp [hwi]
    refine ⟨fun hne he => hne (hst.2 (by rw [he])), fun heq => ?_⟩
    exact back (i + 1) ⟨by omega, hst.1 heq⟩ (by omega) rfl (by simp; omega) (by simp) (by simp)
  · have := eq_all (a := a.xs.map plFile) (b := b.xs.map plFile) (by simpa using Nat.le_of_not_lt hlt) (by simpa using hl') hi.2
    have hlb : ¬ i < b.xs.length := by omega
    simp [hlt, hlb, this]
theorem w_laws_szRelation (a : Reln) (left : Int) (h0 : 0 ≤ left) (h1 : left ≤ 1048576) (ha : okReln a) :
   VC Try.prog 57 [.agg ((cReln a).map V.d), .d (.int .i64 left)] (fun _ r => r = .d (.int .i64 (szv left (swReln a)))) := by
  refine VC.of E s57 (by kernel_rfl) Try.func57 (by rfl) (by kernel_rfl) (by simp [Try.f57]) (by simp [Try.f57]) s57_ok fun B => ?_
  have hwt : swReln a = swS (swS swI) a.rows := rfl
  have hc0 : (0 : Int) ≤ left := h0
  simp [Try.f57, cI, cReln, cS, dSl]
  refine call_pure (w_laws_szIntSS a.rows _ (by omega) (by omega) ha.2) rfl (by simp) rfl fun hs' hh' => ?_
  by_cases hb0 : (swS (swS swI) a.rows : Int) ≤ left
  · rw [szv_pos hb0]
    have hn0 : ¬ left - swS (swS swI) a.rows < 0 := by omega
    simp [hn0]
    rw [szv_pos (by omega)]; omega
  · rw [szv_neg (by omega)]
    simp
    try rw [szv_neg (by omega)]
    all_goals exact fun h => absurd h (by decide)
theorem w_laws_eqRelation (a b : Reln) (ha : okReln a) :
   VC Try.prog 65 [.agg ((cReln a).map V.d), .agg ((cReln b).map V.d)] (fun _ r => r = .d (.bool (plReln a == plReln b))) := by
  refine VC.of E s65 (by kernel_rfl) Try.func65 (by rfl) (by kernel_rfl) (by simp [Try.f65]) (by simp [Try.f65]) s65_ok fun B => ?_
  simp [Try.f65, cI, cReln, cS, dSl, plReln, plI, plStr]
  by_cases e0 : a.ar = b.ar
  case neg => simp [e0]
  simp [e0]
  refine call_pure (w_laws_eqIntSS a.rows b.rows ha.2) rfl (by simp) rfl fun hs1 hh1 => ?_
  by_cases e1 : plS (plS plI) a.rows = plS (plS plI) b.rows
  case neg => simp [e1]
  simp [e1]
theorem w_laws_szTable (a : Tab) (left : Int) (h0 : 0 ≤ left) (h1 : left ≤ 1048576) (ha : okTab a) :
   VC Try.prog 81 [.agg ((cTab a).map V.d), .d (.int .i64 left)] (fun _ r => r = .d (.int .i64 (szv left (swTab a)))) := by
  refine VC.of E s81 (by kernel_rfl) Try.func81 (by rfl) (by kernel_rfl) (by simp [Try.f81]) (by simp [Try.f81]) s81_ok fun B => ?_
  have hwt : swTab a = swStr a.name + swReln a.rel := rfl
  have hc0 : (0 : Int) ≤ left := h0
  have hs0 : a.name.length ≤ 9223372036854775807 := ha.1
  have hw0 : IntKind.i64.wrap (left - (a.name.length : Int)) = left - a.name.length := wrap64_of (by omega) (by omega)
  have hq0 : swStr a.name = a.name.length := rfl
  simp [Try.f81, cI, cReln, cS, cStr, cTab, dSl, hw0]
  refine ⟨fun hneg => ?_, fun hpos => ?_⟩
  · rw [szv_neg (by omega)]
  · skip
    refine call_pure (w_laws_szRelation a.rel _ (by omega) (by omega) ha.2) rfl (by simp) rfl fun hs' hh' => ?_
    by_cases hb1 : (swReln a.rel : Int) ≤ left - a.name.length
    · rw [szv_pos hb1]
      have hn1 : ¬ left - a.name.length - swReln a.rel < 0 := by omega
      simp [hn1]
      rw [szv_pos (by omega)]; omega
    · rw [szv_neg (by omega)]
      simp
      try rw [szv_neg (by omega)]
      all_goals exact fun h => absurd h (by decide)
theorem w_laws_eqTable (a b : Tab) (ha : okTab a) :
   VC Try.prog 90 [.agg ((cTab a).map V.d), .agg ((cTab b).map V.d)] (fun _ r => r = .d (.bool (plTab a == plTab b))) := by
  refine VC.of E s90 (by kernel_rfl) Try.func90 (by rfl) (by kernel_rfl) (by simp [Try.f90]) (by simp [Try.f90]) s90_ok fun B => ?_
  simp [Try.f90, cI, cReln, cS, cStr, cTab, dSl, plTab, plI, plStr]
  by_cases e0 : a.name = b.name
  case neg => simp [e0]
  simp [e0]
  refine call_pure (w_laws_eqRelation a.rel b.rel ha.2) rfl (by simp) rfl fun hs1 hh1 => ?_
  by_cases e1 : plReln a.rel = plReln b.rel
  case neg => simp [e1]
  simp [e1]
theorem w_laws_szTableS (a : Sl (Tab)) (left : Int) (h0 : 0 ≤ left) (h1 : left ≤ 1048576) (ha : okS okTab a) :
   VC Try.prog 39 [.d (dSl cTab a), .d (.int .i64 left)] (fun _ r => r = .d (.int .i64 (szv left (swS swTab a)))) := by
  refine VC.of E s39 (by kernel_rfl) Try.func39 (by rfl) (by kernel_rfl) (by simp [Try.f39]) (by simp [Try.f39]) s39_ok fun B => ?_
  have ha1 := ha.1
  simp only [maxLen] at ha1
  have hw1 : IntKind.i64.wrap (left - (a.xs.length : Int)) = left - a.xs.length := wrap64_of (by omega) (by omega)
  have hwt : swS swTab a = a.xs.length + sumW swTab a.xs := rfl
  simp [Try.f39, dSl, hw1]
  refine ⟨fun h => ?_, fun h => ?_⟩
  · rw [szv_neg (by omega)]
  · refine loop_rule (X := Nat) (fun i => i ≤ a.xs.length ∧ 0 ≤ left - a.xs.length - sumW swTab (a.xs.take i)) (fun i => [(0, .d (.sl a.id a.T (a.xs.map cTab))), (1, .d (.int .i64 (left - a.xs.length - sumW swTab (a.xs.take i)))), (5, .d (.int .i64 i))]) (fun _ => []) (fun i => a.xs.length - i) 0 ?_ ?_ (by simp) ?_
    · simp; omega
    · simp
    · intro i hs t m hi hh
      by_cases hlt : i < a.xs.length
      · simp [cI, cReln, cS, cStr, cTab, hlt]
        refine call_pure (w_laws_szTable a.xs[i] _ (by omega) (by omega) (ha.2 _ (List.getElem_mem _))) rfl (by simp) rfl fun hs' hh' => ?_
        have e1 := sumW_succ swTab hlt
        have e2 := sumW_le swTab a.xs (i + 1)
        have hwi := wr1 (i := i) (by omega)
        by_cases hc : (swTab a.xs[i] : Int) ≤ left - a.xs.length - sumW swTab (a.xs.take i)
        · rw [szv_pos hc]
          have hn : ¬ left - a.xs.length - sumW swTab (a.xs.take i) - swTab a.xs[i] < 0 := by omega
          simp [hwi, hn]
          refine back (i + 1) ⟨by omega, by omega⟩ (by omega) rfl (by simp at hh' ⊢; omega) ?_ (by simp)
          simp
          omega
        · rw [szv_neg (by omega)]
          simp
          rw [szv_neg (by omega)]
          all_goals exact fun h => absurd h (by decide)
      · have : i = a.xs.length := by omega
        subst this
        simp
        rw [szv_pos] <;> (simp at hi ⊢; omega)
theorem w_laws_eqTableS (a b : Sl (Tab)) (ha : okS okTab a) :
   VC Try.prog 54 [.d (dSl cTab a), .d (dSl cTab b)] (fun _ r => r = .d (.bool (plS plTab a == plS plTab b))) := by
  refine VC.of E s54 (by kernel_rfl) Try.func54 (by rfl) (by kernel_rfl) (by simp [Try.f54]) (by simp [Try.f54]) s54_ok fun B => ?_
  have ha1 := ha.1
  simp only [maxLen] at ha1
  simp [Try.f54, s54_6, dSl, plS]
  refine ⟨fun h e => h (by have := congrArg List.length e; simp at this; omega), fun hl => ?_⟩
  have hl' : a.xs.length = b.xs.length := by omega
  refine loop_rule (X := Nat) (fun i => i ≤ a.xs.length ∧ (a.xs.map plTab).take i = (b.xs.map plTab).take i) (fun i => [(0, .d (.sl a.id a.T (a.xs.map cTab))), (1, .d (.sl b.id b.T (b.xs.map cTab))), (5, .d (.int .i64 i))]) (fun _ => []) (fun i => a.xs.length - i) 0 (by simp) (by simp) (by simp) ?_
  intro i hs t m hi hh
  by_cases hlt : i < a.xs.length
  · have hwi := wr1 (i := i) (by omega)
    have hlb : i < b.xs.length := by omega
    have hst := eqm_step plTab hlt hlb hi.2
    simp [cI, cReln, cS, cStr, cTab, hlt, hlb, s54_6, ]
    refine call_pure (w_laws_eqTable a.xs[i] b.xs[i] (ha.2 _ (List.getElem_mem _))) rfl (by simp) rfl fun hs' hh' => ?_
    simp at hh'
    simp [hwi]
    refine ⟨fun hne he => hne (hst.2 (by rw [he])), fun heq => ?_⟩
    exact back (i + 1) ⟨by omega, hst.1 heq⟩ (by omega) rfl (by simp; omega) (by simp) (by simp)
  · have := eq_all (a := a.xs.map plTab) (b := b.xs.map plTab) (by simpa using Nat.le_of_not_lt hlt) (by simpa using hl') hi.2
    have hlb : ¬ i < b.xs.length := by omega
    simp [hlt, hlb, this]
theorem w_laws_szDatabase (a : Db) (left : Int) (h0 : 0 ≤ left) (h1 : left ≤ 1048576) (ha : okDb a) :
   VC Try.prog 9 [.agg ((cDb a).map V.d), .d (.int .i64 left)] (fun _ r => r = .d (.int .i64 (szv left (swDb a)))) := by
  refine VC.of E s9 (by kernel_rfl) Try.func9 (by rfl) (by kernel_rfl) (by simp [Try.f9]) (by simp [Try.f9]) s9_ok fun B => ?_
  have hwt : swDb a = swS swTab a.tabs := rfl
  have hc0 : (0 : Int) ≤ left := h0
  simp [Try.f9, cDb, cS, dSl]
  refine call_pure (w_laws_szTableS a.tabs _ (by omega) (by omega) ha) rfl (by simp) rfl fun hs' hh' => ?_
  by_cases hb0 : (swS swTab a.tabs : Int) ≤ left
  · rw [szv_pos hb0]
    have hn0 : ¬ left - swS swTab a.tabs < 0 := by omega
    simp [hn0]
    rw [szv_pos (by omega)]; omega
  · rw [szv_neg (by omega)]
    simp
    try rw [szv_neg (by omega)]
    all_goals exact fun h => absurd h (by decide)
theorem w_laws_eqDatabase (a b : Db) (ha : okDb a) :
   VC Try.prog 14 [.agg ((cDb a).map V.d), .agg ((cDb b).map V.d)] (fun _ r => r = .d (.bool (plDb a == plDb b))) := by
  refine VC.of E s14 (by kernel_rfl) Try.func14 (by rfl) (by kernel_rfl) (by simp [Try.f14]) (by simp [Try.f14]) s14_ok fun B => ?_
  simp [Try.f14, cDb, cS, dSl, plDb, plI, plStr]
  refine call_pure (w_laws_eqTableS a.tabs b.tabs ha) rfl (by simp) rfl fun hs0 hh0 => ?_
  by_cases e0 : plS plTab a.tabs = plS plTab b.tabs
  case neg => simp [e0]
  simp [e0]
theorem w_laws_szDelta (a : Delta) (left : Int) (h0 : 0 ≤ left) (h1 : left ≤ 1048576) (ha : okDelta a) :
   VC Try.prog 18 [.agg ((cDelta a).map V.d), .d (.int .i64 left)] (fun _ r => r = .d (.int .i64 (szv left (swDelta a)))) := by
  refine VC.of E s18 (by kernel_rfl) Try.func18 (by rfl) (by kernel_rfl) (by simp [Try.f18]) (by simp [Try.f18]) s18_ok fun B => ?_
  have hwt : swDelta a = swStr a.name + swReln a.ins + swReln a.del := rfl
  have hc0 : (0 : Int) ≤ left := h0
  have hs0 : a.name.length ≤ 9223372036854775807 := ha.1
  have hw0 : IntKind.i64.wrap (left - (a.name.length : Int)) = left - a.name.length := wrap64_of (by omega) (by omega)
  have hq0 : swStr a.name = a.name.length := rfl
  simp [Try.f18, cDelta, cI, cReln, cS, cStr, dSl, hw0]
  refine ⟨fun hneg => ?_, fun hpos => ?_⟩
  · rw [szv_neg (by omega)]
  · skip
    refine call_pure (w_laws_szRelation a.ins _ (by omega) (by omega) ha.2.1) rfl (by simp) rfl fun hs' hh' => ?_
    by_cases hb1 : (swReln a.ins : Int) ≤ left - a.name.length
    · rw [szv_pos hb1]
      have hn1 : ¬ left - a.name.length - swReln a.ins < 0 := by omega
      simp [hn1]
      refine call_pure (w_laws_szRelation a.del _ (by omega) (by omega) ha.2.2) rfl (by simp) rfl fun hs' hh' => ?_
      by_cases hb2 : (swReln a.del : Int) ≤ left - a.name.length - swReln a.ins
      · rw [szv_pos hb2]
        have hn2 : ¬ left - a.name.length - swReln a.ins - swReln a.del < 0 := by omega
        simp [hn2]
        rw [szv_pos (by omega)]; omega
      · rw [szv_neg (by omega)]
        simp
        try rw [szv_neg (by omega)]
        all_goals exact fun h => absurd h (by decide)
    · rw [szv_neg (by omega)]
      simp
      try rw [szv_neg (by omega)]
      all_goals exact fun h => absurd h (by decide)
theorem w_laws_eqDelta (a b : Delta) (ha : okDelta a) :
   VC Try.prog 22 [.agg ((cDelta a).map V.d), .agg ((cDelta b).map V.d)] (fun _ r => r = .d (.bool (plDelta a == plDelta b))) := by
  refine VC.of E s22 (by kernel_rfl) Try.func22 (by rfl) (by kernel_rfl) (by simp [Try.f22]) (by simp [Try.f22]) s22_ok fun B => ?_
  simp [Try.f22, cDelta, cI, cReln, cS, cStr, dSl, plDelta, plI, plStr]
  by_cases e0 : a.name = b.name
  case neg => simp [e0]
  simp [e0]
  refine call_pure (w_laws_eqRelation a.ins b.ins ha.2.1) rfl (by simp) rfl fun hs1 hh1 => ?_
  by_cases e1 : plReln a.ins = plReln b.ins
  case neg => simp [e1]
  simp [e1]
  refine call_pure (w_laws_eqRelation a.del b.del ha.2.2) rfl (by simp) rfl fun hs2 hh2 => ?_
  by_cases e2 : plReln a.del = plReln b.del
  case neg => simp [e2]
  simp [e2]
theorem w_laws_szDeltaS (a : Sl (Delta)) (left : Int) (h0 : 0 ≤ left) (h1 : left ≤ 1048576) (ha : okS okDelta a) :
   VC Try.prog 28 [.d (dSl cDelta a), .d (.int .i64 left)] (fun _ r => r = .d (.int .i64 (szv left (swS swDelta a)))) := by
  refine VC.of E s28 (by kernel_rfl) Try.func28 (by rfl) (by kernel_rfl) (by simp [Try.f28]) (by simp [Try.f28]) s28_ok fun B => ?_
  have ha1 := ha.1
  simp only [maxLen] at ha1
  have hw1 : IntKind.i64.wrap (left - (a.xs.length : Int)) = left - a.xs.length := wrap64_of (by omega) (by omega)
  have hwt : swS swDelta a = a.xs.length + sumW swDelta a.xs := rfl
  simp [Try.f28, dSl, hw1]
  refine ⟨fun h => ?_, fun h => ?_⟩
  · rw [szv_neg (by omega)]
  · refine loop_rule (X := Nat) (fun i => i ≤ a.xs.length ∧ 0 ≤ left - a.xs.length - sumW swDelta (a.xs.take i)) (fun i => [(0, .d (.sl a.id a.T (a.xs.map cDelta))), (1, .d (.int .i64 (left - a.xs.length - sumW swDelta (a.xs.take i)))), (5, .d (.int .i64 i))]) (fun _ => []) (fun i => a.xs.length - i) 0 ?_ ?_ (by simp) ?_
    · simp; omega
    · simp
    · intro i hs t m hi hh
      by_cases hlt : i < a.xs.length
      · simp [cDelta, cI, cReln, cS, cStr, hlt]
        refine call_pure (w_laws_szDelta a.xs[i] _ (by omega) (by omega) (ha.2 _ (List.getElem_mem _))) rfl (by simp) rfl fun hs' hh' => ?_
        have e1 := sumW_succ swDelta hlt
        have e2 := sumW_le swDelta a.xs (i + 1)
        have hwi := wr1 (i := i) (by omega)
        by_cases hc : (swDelta a.xs[i] : Int) ≤ left - a.xs.length - sumW swDelta (a.xs.take i)
        · rw [szv_pos hc]
          have hn : ¬ left - a.xs.length - sumW swDelta (a.xs.take i) - swDelta a.xs[i] < 0 := by omega
          simp [hwi, hn]
          refine back (i + 1) ⟨by omega, by omega⟩ (by omega) rfl (by simp at hh' ⊢; omega) ?_ (by simp)
          simp
          omega
        · rw [szv_neg (by omega)]
          simp
          rw [szv_neg (by omega)]
          all_goals exact fun h => absurd h (by decide)
      · have : i = a.xs.length := by omega
        subst this
        simp
        rw [szv_pos] <;> (simp at hi ⊢; omega)
theorem w_laws_eqDeltaS (a b : Sl (Delta)) (ha : okS okDelta a) :
   VC Try.prog 32 [.d (dSl cDelta a), .d (dSl cDelta b)] (fun _ r => r = .d (.bool (plS plDelta a == plS plDelta b))) := by
  refine VC.of E s32 (by kernel_rfl) Try.func32 (by rfl) (by kernel_rfl) (by simp [Try.f32]) (by simp [Try.f32]) s32_ok fun B => ?_
  have ha1 := ha.1
  simp only [maxLen] at ha1
  simp [Try.f32, s32_6, dSl, plS]
  refine ⟨fun h e => h (by have := congrArg List.length e; simp at this; omega), fun hl => ?_⟩
  have hl' : a.xs.length = b.xs.length := by omega
  refine loop_rule (X := Nat) (fun i => i ≤ a.xs.length ∧ (a.xs.map plDelta).take i = (b.xs.map plDelta).take i) (fun i => [(0, .d (.sl a.id a.T (a.xs.map cDelta))), (1, .d (.sl b.id b.T (b.xs.map cDelta))), (5, .d (.int .i64 i))]) (fun _ => []) (fun i => a.xs.length - i) 0 (by simp) (by simp) (by simp) ?_
  intro i hs t m hi hh
  by_cases hlt : i < a.xs.length
  · have hwi := wr1 (i := i) (by omega)
    have hlb : i < b.xs.length := by omega
    have hst := eqm_step plDelta hlt hlb hi.2
    simp [cDelta, cI, cReln, cS, cStr, hlt, hlb, s32_6, ]
    refine call_pure (w_laws_eqDelta a.xs[i] b.xs[i] (ha.2 _ (List.getElem_mem _))) rfl (by simp) rfl fun hs' hh' => ?_
    simp at hh'
    simp [hwi]
    refine ⟨fun hne he => hne (hst.2 (by rw [he])), fun heq => ?_⟩
    exact back (i + 1) ⟨by omega, hst.1 heq⟩ (by omega) rfl (by simp; omega) (by simp) (by simp)
  · have := eq_all (a := a.xs.map plDelta) (b := b.xs.map plDelta) (by simpa using Nat.le_of_not_lt hlt) (by simpa using hl') hi.2
    have hlb : ¬ i < b.xs.length := by omega
    simp [hlt, hlb, this]

end Go.Proofs.Ytfpohhabemnnfaa

namespace Go.Proofs.Ytfpohhabemnnfaa
open Go.Vs Go.Proofs Go
set_option maxRecDepth 100000
set_option maxHeartbeats 1000000

theorem w_laws_toIntS (a : Sl (Int)) (ha : okS okI a) (hb : a.xs.length ≤ 1048576) :
   VC Try.prog 108 [.d (dSl cI a)] (fun n r => ∃ y : Sl (Int), r = .d (dSl cI y) ∧ plS plI y = plS plI a ∧ okS okI y ∧ Good (cS cI y) (whS whI y) n) := by
  refine VC.of E s108 (by kernel_rfl) Try.func108 (by rfl) (by kernel_rfl) (by simp [Try.f108]) (by simp [Try.f108]) s108_ok fun B => ?_
  simp [Try.f108, dSl]
  refine ⟨⟨by omega, by simp only [maxLen]; omega⟩, ?_⟩
  refine loop_rule (X := Nat) (fun i => i ≤ a.xs.length) (fun i => [(0, .d (.sl a.id a.T (a.xs.map cI))), (3, .own 7 0 a.xs.length), (4, .d (.int .i64 i))]) (fun i => [(7, some (.row 3 1 (fill [.int .i64 0] (a.xs.map cI) i)))]) (fun i => a.xs.length - i) 0 (by simp) (by simp) (by simp) ?_
  intro i hs t m hi hh
  by_cases hlt : i < a.xs.length
  · have hwi := wr1 (i := i) (by omega)
    simp [cI, hlt, hwi]
    refine back (i + 1) (by omega) (by omega) rfl (by simp) (by simp) ?_
    have := fill_set (z := [.int .i64 0]) (l := a.xs.map cI) (i := i) (by simpa using hlt) (by simp [hlt]; rfl)
    simp only [cI] at this ⊢
    simp [this]
  · have hn : i = a.xs.length := by omega
    subst hn
    have hf : fill [.int .i64 0] (a.xs.map cI) a.xs.length = a.xs.map cI := fill_all (by simp)
    simp [hf]
    intro γ hs' h1 hg
    obtain ⟨q1, q2⟩ := gam_at hg (k := 7) (T := 3) (sz := 1) (es := a.xs.map cI) (by simp)
    have q3 := gam_row hg (k := 7) (T := 3) (sz := 1) (es := a.xs.map cI) (by simp)
    clear hg
    refine ⟨⟨γ 7, some (3, 1), a.xs⟩, ⟨⟨rfl, rfl, List.take_of_length_le (by simp)⟩, rfl, ha, good_row (fun g hg => (q1 g hg).1) (by simpa using q2) q3 ⟨by simp, by simp⟩ (by simp [whI, whStr])⟩⟩
theorem w_laws_heldIntS (a : Sl (Int)) (k : Int) (h0 : 1 ≤ k) (h1 : k + wtS wtI a ≤ 4611686018427387904) (ha : okS okI a) :
   VC Try.prog 102 [.d (dSl cI a), .d (.int .i64 k)] (fun _ r => r = .d (.int .i64 (hv (hlS (hlI) (wtI) a k) k (wtS wtI a)))) := by
  refine VC.of E s102 (by kernel_rfl) Try.func102 (by rfl) (by kernel_rfl) (by simp [Try.f102]) (by simp [Try.f102]) s102_ok fun B => ?_
  obtain ⟨id, T, xs⟩ := a
  have ha1 := ha.1
  simp only [maxLen] at ha1
  have hwt : wtS wtI (⟨id, T, xs⟩ : Sl (Int)) = sumW wtI xs := rfl
  have hhl : hlS (hlI) (wtI) (⟨id, T, xs⟩ : Sl (Int)) k = hlList hlI wtI xs k := rfl
  rw [hwt] at h1
  rw [hwt, hhl]
  simp [Try.f102, dSl]
  refine loop_rule (X := Nat) (fun i => i ≤ xs.length ∧ hlList hlI wtI (xs.take i) k = true) (fun i => [(0, .d (.sl id T (xs.map cI))), (1, .d (.int .i64 (k + sumW wtI (xs.take i)))), (5, .d (.int .i64 i))]) (fun _ => []) (fun i => xs.length - i) 0 (by simp [hlList]) (by simp) (by simp) ?_
  intro i hs t m hi hh
  by_cases hlt : i < xs.length
  · have hwi := wr1 (i := i) (by omega)
    have e1 := sumW_succ wtI hlt
    have e2 := sumW_le wtI xs (i + 1)
    have hmem : xs[i] ∈ xs := List.getElem_mem _
    have hstep := hlList_step (hl := hlI) (wt := wtI) (k := k) hlt
    rw [hi.2, Bool.true_and] at hstep
    have hbad := hlList_bad (hl := hlI) (wt := wtI) (k := k) hlt
    have hex : hlI xs[i] (k + sumW wtI (xs.take i)) = (xs[i] == k + sumW wtI (xs.take i)) := rfl
    have hwx : wtI xs[i] = 1 := by first | rfl | (simp only [wtTab, wtDelta, wtReln, wtStr, wtI]; omega)
    have hk0 : IntKind.i64.wrap (k + sumW wtI (xs.take i) + 1) = k + sumW wtI (xs.take i) + 1 := wrap64_of (by omega) (by omega)
    simp [cI, hlt, dSl, ]
    by_cases c0 : xs[i] = k + sumW wtI (xs.take i)
    case neg => simp [c0, hbad (by simp [hex, c0])]
    simp [c0, hk0, ]
    simp [hwi]
    refine back (i + 1) ⟨by omega, hstep.trans (hex.trans (by simp [c0]))⟩ (by omega) rfl (by simp <;> omega) ?_ (by simp)
    simp
    omega
  · have hn : i = xs.length := by omega
    subst hn
    have h2 := hi.2
    rw [List.take_length] at h2
    simp [h2]
theorem w_laws_toIntSS (a : Sl (Sl (Int))) (ha : okS (okS okI) a) (hb : swS (swS swI) a ≤ 1048576) :
   VC Try.prog 94 [.d (dSl (cS cI) a)] (fun n r => ∃ y : Sl (Sl (Int)), r = .d (dSl (cS cI) y) ∧ plS (plS plI) y = plS (plS plI) a ∧ okS (okS okI) y ∧ Good (cS (cS cI) y) (whS (whS whI) y) n) := by
  refine VC.of E s94 (by kernel_rfl) Try.func94 (by rfl) (by kernel_rfl) (by simp [Try.f94]) (by simp [Try.f94]) s94_ok fun B => ?_
  have hwt : swS (swS swI) a = a.xs.length + sumW (swS swI) a.xs := rfl
  simp [Try.f94, dSl]
  refine ⟨⟨by omega, by simp only [maxLen]; omega⟩, ?_⟩
  refine loop_rule2 (X := Nat × List (Sl (Int))) (fun p h => p.1 ≤ a.xs.length ∧ p.2.length = p.1 ∧ p.2.map (plS plI) = (a.xs.map (plS plI)).take p.1 ∧ (∀ y ∈ p.2, okS okI y) ∧ GoodL (cS cI) (whS whI) B h p.2) (fun p => [(0, .d (.sl a.id a.T (a.xs.map (cS cI)))), (3, .own 7 0 a.xs.length), (4, .d (.int .i64 p.1))]) (fun p => [(7, some (.row 88 1 (p.2.map (cS cI) ++ List.replicate (a.xs.length - p.1) [.sl none none []])))]) (fun p => a.xs.length - p.1) (0, []) ⟨by simp, rfl, by simp, by simp, GoodL.nil⟩ (by simp) (by simp) ?_
  rintro ⟨i, ys⟩ hs t m ⟨hi, hyl, hpl, hok, hgd⟩ hh
  simp only at hi hyl hpl hok hgd
  by_cases hlt : i < a.xs.length
  · have hwi := wr1 (i := i) (by omega)
    have hmem : a.xs[i] ∈ a.xs := List.getElem_mem _
    have hsw := sumW_mem (swS swI) hmem
    simp [cS, hlt]
    refine call_some (w_laws_toIntS a.xs[i] (ha.2 _ hmem) (by simp only [swS] at hsw; omega)) rfl (by simp) fun n hs' r hn hn' hp hr => ?_
    obtain ⟨y, rfl, hy1, hy2, hy3⟩ := hp
    simp at hn
    have hr' : ∀ g ∈ idsL (cS cI y), g < hs' := fun g hg => hr g (by first | (simp [cS, V.ids, idsVL, idsL] at hg; done) | simpa [cS, V.ids, idsVL, idsL] using hg)
    have hyi : ys.length = i := hyl
    simp [cS, hlt, hwi, hyi, show i + (a.xs.length - i) = a.xs.length by omega, dSl]
    refine back2 (i + 1, ys ++ [y]) ⟨by omega, by simp [hyi], ?_, ?_, ?_⟩ (by simp <;> omega) rfl (by simp <;> omega) (by simp) ?_
    · simp only [List.map_append, hpl, List.map_cons, List.map_nil, hy1]
      rw [List.take_succ_eq_append_getElem (by simpa using hlt)]; simp
    · intro y' hy'
      rcases List.mem_append.1 hy' with h | h
      · exact hok y' h
      · rw [List.mem_singleton.1 h]; exact hy2
    · exact GoodL.snoc hgd (by omega) hn' hy3 hr'
    · simp [rep_set0 hlt, cS, dSl]
  · have hn : i = a.xs.length := by omega
    subst hn
    simp
    intro γ hs' h1 hg
    obtain ⟨q1, q2⟩ := gam_at hg (k := 7) (T := 88) (sz := 1) (es := ys.map (cS cI)) (by simp [upd])
    have q3 := gam_row hg (k := 7) (T := 88) (sz := 1) (es := ys.map (cS cI)) (by simp [upd])
    clear hg
    refine ⟨_, ⟨by omega, rfl⟩, ⟨γ 7, some (88, 1), ys⟩, ?_, by rw [List.take_of_length_le (by simp)] at hpl; exact hpl, ⟨by simp only [maxLen]; show ys.length ≤ _; omega, hok⟩, good_row (fun g hg => (q1 g hg).1) (by simpa using q2) q3 ⟨hgd.nd, hgd.lo⟩ hgd.wh⟩
    rw [if_pos hyl.symm, List.take_of_length_le (by simp [hyl])]
theorem w_laws_heldIntSS (a : Sl (Sl (Int))) (k : Int) (h0 : 1 ≤ k) (h1 : k + wtS (wtS wtI) a ≤ 4611686018427387904) (ha : okS (okS okI) a) :
   VC Try.prog 80 [.d (dSl (cS cI) a), .d (.int .i64 k)] (fun _ r => r = .d (.int .i64 (hv (hlS (hlS (hlI) (wtI)) (wtS wtI) a k) k (wtS (wtS wtI) a)))) := by
  refine VC.of E s80 (by kernel_rfl) Try.func80 (by rfl) (by kernel_rfl) (by simp [Try.f80]) (by simp [Try.f80]) s80_ok fun B => ?_
  obtain ⟨id, T, xs⟩ := a
  have ha1 := ha.1
  simp only [maxLen] at ha1
  have hwt : wtS (wtS wtI) (⟨id, T, xs⟩ : Sl (Sl (Int))) = sumW (wtS wtI) xs := rfl
  have hhl : hlS (hlS (hlI) (wtI)) (wtS wtI) (⟨id, T, xs⟩ : Sl (Sl (Int))) k = hlList (hlS (hlI) (wtI)) (wtS wtI) xs k := rfl
  rw [hwt] at h1
  rw [hwt, hhl]
  simp [Try.f80, dSl]
  refine loop_rule (X := Nat) (fun i => i ≤ xs.length ∧ hlList (hlS (hlI) (wtI)) (wtS wtI) (xs.take i) k = true) (fun i => [(0, .d (.sl id T (xs.map (cS cI)))), (1, .d (.int .i64 (k + sumW (wtS wtI) (xs.take i)))), (5, .d (.int .i64 i))]) (fun _ => []) (fun i => xs.length - i) 0 (by simp [hlList]) (by simp) (by simp) ?_
  intro i hs t m hi hh
  by_cases hlt : i < xs.length
  · have hwi := wr1 (i := i) (by omega)
    have e1 := sumW_succ (wtS wtI) hlt
    have e2 := sumW_le (wtS wtI) xs (i + 1)
    have hmem : xs[i] ∈ xs := List.getElem_mem _
    have hstep := hlList_step (hl := (hlS (hlI) (wtI))) (wt := (wtS wtI)) (k := k) hlt
    rw [hi.2, Bool.true_and] at hstep
    have hbad := hlList_bad (hl := (hlS (hlI) (wtI))) (wt := (wtS wtI)) (k := k) hlt
    have hex : hlS (hlI) (wtI) xs[i] (k + sumW (wtS wtI) (xs.take i)) = (hlS (hlI) (wtI) xs[i] (k + sumW (wtS wtI) (xs.take i))) := rfl
    have hwx : wtS wtI xs[i] = wtS wtI xs[i] := by first | rfl | (simp only [wtTab, wtDelta, wtReln, wtStr, wtI]; omega)
    simp [cS, hlt, dSl, ]
    refine call_pure (w_laws_heldIntS xs[i] _ (by omega) (by omega) ((ha.2 _ hmem))) rfl (by simp) rfl fun hs0 hh0 => ?_
    simp at hh0
    by_cases c0 : hlS (hlI) (wtI) xs[i] (k + sumW (wtS wtI) (xs.take i)) = true
    case neg =>
      have c0' : hlS (hlI) (wtI) xs[i] (k + sumW (wtS wtI) (xs.take i)) = false := by simpa using c0
      simp [c0', hbad (by simp [hex, c0'])]
    have hn0 : ¬ k + sumW (wtS wtI) (xs.take i) + (wtS wtI xs[i] : Int) < 0 := by omega
    simp [c0, hn0, hlt, cS, dSl, ]
    simp [hwi]
    refine back (i + 1) ⟨by omega, hstep.trans (hex.trans (by simp [c0]))⟩ (by omega) rfl (by simp <;> omega) ?_ (by simp)
    simp
    omega
  · have hn : i = xs.length := by omega
    subst hn
    have h2 := hi.2
    rw [List.take_length] at h2
    simp [h2]
theorem w_laws_heldFileS (a : Sl (File)) (k : Int) (h0 : 1 ≤ k) (h1 : k + wtS wtFile a ≤ 4611686018427387904) (ha : okS okFile a) :
   VC Try.prog 17 [.d (dSl cFile a), .d (.int .i64 k)] (fun _ r => r = .d (.int .i64 (hv (hlS (hlFile) (wtFile) a k) k (wtS wtFile a)))) := by
  refine VC.of E s17 (by kernel_rfl) Try.func17 (by rfl) (by kernel_rfl) (by simp [Try.f17]) (by simp [Try.f17]) s17_ok fun B => ?_
  obtain ⟨id, T, xs⟩ := a
  have ha1 := ha.1
  simp only [maxLen] at ha1
  have hwt : wtS wtFile (⟨id, T, xs⟩ : Sl (File)) = sumW wtFile xs := rfl
  have hhl : hlS (hlFile) (wtFile) (⟨id, T, xs⟩ : Sl (File)) k = hlList hlFile wtFile xs k := rfl
  rw [hwt] at h1
  rw [hwt, hhl]
  simp [Try.f17, s17_4, s17_7, dSl]
  refine loop_rule (X := Nat) (fun i => i ≤ xs.length ∧ hlList hlFile wtFile (xs.take i) k = true) (fun i => [(0, .d (.sl id T (xs.map cFile))), (1, .d (.int .i64 (k + sumW wtFile (xs.take i)))), (5, .d (.int .i64 i))]) (fun _ => []) (fun i => xs.length - i) 0 (by simp [hlList]) (by simp) (by simp) ?_
  intro i hs t m hi hh
  by_cases hlt : i < xs.length
  · have hwi := wr1 (i := i) (by omega)
    have e1 := sumW_succ wtFile hlt
    have e2 := sumW_le wtFile xs (i + 1)
    have hmem : xs[i] ∈ xs := List.getElem_mem _
    have hstep := hlList_step (hl := hlFile) (wt := wtFile) (k := k) hlt
    rw [hi.2, Bool.true_and] at hstep
    have hbad := hlList_bad (hl := hlFile) (wt := wtFile) (k := k) hlt
    have h112 : ∀ x : Int, 1 + (1 + x) = 2 + x := fun x => by omega
    have hex : hlFile xs[i] (k + sumW wtFile (xs.take i)) = (xs[i].name == mtext (k + sumW wtFile (xs.take i)) && xs[i].data == mtext (k + sumW wtFile (xs.take i) + 1)) := by simp [hlFile, hlStr, wtFile, wtStr, Bool.and_assoc, Int.add_assoc, h112]
    have hwx : wtFile xs[i] = 1 + 1 := by first | rfl | (simp only [wtTab, wtDelta, wtReln, wtStr, wtI]; omega)
    have hk0 : IntKind.i64.wrap (k + sumW wtFile (xs.take i) + 1) = k + sumW wtFile (xs.take i) + 1 := wrap64_of (by omega) (by omega)
    simp [cFile, cStr, hlt, dSl, s17_4, s17_7, ]
    refine call_pure (w_laws_markText _ (by omega) (by omega)) rfl (by simp) rfl fun hs0 hh0 => ?_
    simp at hh0
    by_cases c0 : xs[i].name = mtext (k + sumW wtFile (xs.take i))
    case neg => simp [c0, hbad (by simp [hex, c0])]
    simp [c0, hk0, hlt, cFile, cStr, s17_4, s17_7, ]
    have hk1 : IntKind.i64.wrap (k + sumW wtFile (xs.take i) + 1 + 1) = k + sumW wtFile (xs.take i) + 1 + 1 := wrap64_of (by omega) (by omega)
    refine call_pure (w_laws_markText _ (by omega) (by omega)) rfl (by simp) rfl fun hs1 hh1 => ?_
    simp at hh1
    by_cases c1 : xs[i].data = mtext (k + sumW wtFile (xs.take i) + 1)
    case neg => simp [c1, hbad (by simp [hex, c1])]
    simp [c1, hk1, hlt, cFile, cStr, s17_4, s17_7, ]
    simp [hwi]
    refine back (i + 1) ⟨by omega, hstep.trans (hex.trans (by simp [c0, c1]))⟩ (by omega) rfl (by simp <;> omega) ?_ (by simp)
    simp
    omega
  · have hn : i = xs.length := by omega
    subst hn
    have h2 := hi.2
    rw [List.take_length] at h2
    simp [h2]
theorem w_laws_toRelation (a : Reln) (ha : okReln a) (hb : swReln a ≤ 1048576) :
   VC Try.prog 61 [.agg ((cReln a).map V.d)] (fun n r => ∃ y : Reln, r = .agg ((cReln y).map V.d) ∧ plReln y = plReln a ∧ okReln y ∧ Good (cReln y) (whReln y) n) := by
  refine VC.of E s61 (by kernel_rfl) Try.func61 (by rfl) (by kernel_rfl) (by simp [Try.f61]) (by simp [Try.f61]) s61_ok fun B => ?_
  have hwt : swReln a = swS (swS swI) a.rows := rfl
  simp [Try.f61, cI, cReln, cS, dSl]
  refine call_some (w_laws_toIntSS a.rows ha.2 (by have := hwt; omega)) rfl (by simp) fun n0 hs0 r0 hn0 hm0 hp0 hr0 => ?_
  obtain ⟨y0, rfl, hy0, hk0, hg0⟩ := hp0
  have hl0 : ∀ g ∈ idsL (cS (cS cI) y0), g < hs0 := fun g hg => hr0 g (by first | (simp [cS, V.ids, idsVL, idsL] at hg; done) | simpa [cS, V.ids, idsVL, idsL] using hg)
  simp at hn0
  simp [cS, dSl]
  refine ⟨⟨a.ar, y0⟩, ?_⟩
  refine ⟨by simp [cI, cReln, cS, dSl], by simp only [plReln, hy0], ⟨ha.1, hk0⟩, ?_⟩
  have G0 : Good (cI a.ar) (whI a.ar) B := good_I B a.ar
  have G1 : Good (cS (cS cI) y0) (whS (whS whI) y0) B := hg0.le (by omega)
  have U0 : ∀ g ∈ idsL (cI a.ar), g < B := by simp [cI, idsL, D.ids]
  have K1 : Good (cI a.ar ++ cS (cS cI) y0) ((whI a.ar) ∧ whS (whS whI) y0) B := Good.app G0 G1 (fun g h h' => by have h1 := U0 g h; have h2 := hg0.lo g h'; omega)
  have U1 : ∀ g ∈ idsL (cI a.ar ++ cS (cS cI) y0), g < hs0 := fun g h => by rw [idsL_app] at h; rcases List.mem_append.1 h with h | h; (have h1 := U0 g h; omega); exact hl0 g h
  exact ⟨K1.nd, K1.lo, by have h := K1.wh; exact ⟨h.1, h.2⟩⟩
theorem w_laws_heldRelation (a : Reln) (k : Int) (h0 : 1 ≤ k) (h1 : k + wtTReln a ≤ 4611686018427387904) (ha : okReln a) :
   VC Try.prog 67 [.agg ((cReln a).map V.d), .d (.int .i64 k)] (fun _ r => r = .d (.int .i64 (hv (hlTReln a k) k (wtTReln a)))) := by
  refine VC.of E s67 (by kernel_rfl) Try.func67 (by rfl) (by kernel_rfl) (by simp [Try.f67]) (by simp [Try.f67]) s67_ok fun B => ?_
  have hwt : wtTReln a = wtS (wtS wtI) a.rows := rfl
  have hex : hlTReln a k = (hlS (hlS (hlI) (wtI)) (wtS wtI) a.rows (k)) := rfl
  simp [Try.f67, cI, cReln, cS, dSl]
  refine call_pure (w_laws_heldIntSS a.rows _ (by omega) (by omega) ha.2) rfl (by simp) rfl fun hs0 hh0 => ?_
  by_cases c0 : hlS (hlS (hlI) (wtI)) (wtS wtI) a.rows (k) = true
  case neg =>
    have c0' : hlS (hlS (hlI) (wtI)) (wtS wtI) a.rows (k) = false := by simpa using c0
    simp [c0', hex]
  have hn0 : ¬ k + (wtS (wtS wtI) a.rows : Int) < 0 := by omega
  simp [c0, hn0]
  simp [hex, c0, hwt]
  try omega
theorem w_laws_toTable (a : Tab) (ha : okTab a) (hb : swTab a ≤ 1048576) :
   VC Try.prog 85 [.agg ((cTab a).map V.d)] (fun n r => ∃ y : Tab, r = .agg ((cTab y).map V.d) ∧ plTab y = plTab a ∧ okTab y ∧ Good (cTab y) (whTab y) n) := by
  refine VC.of E s85 (by kernel_rfl) Try.func85 (by rfl) (by kernel_rfl) (by simp [Try.f85]) (by simp [Try.f85]) s85_ok fun B => ?_
  have hwt : swTab a = swStr a.name + swReln a.rel := rfl
  simp [Try.f85, cI, cReln, cS, cStr, cTab, dSl]
  refine call_some (w_laws_toRelation a.rel ha.2 (by have := hwt; omega)) rfl (by simp) fun n0 hs0 r0 hn0 hm0 hp0 hr0 => ?_
  obtain ⟨y0, rfl, hy0, hk0, hg0⟩ := hp0
  have hl0 : ∀ g ∈ idsL (cReln y0), g < hs0 := fun g hg => hr0 g (by first | (simp [cI, cReln, cS, V.ids, idsVL, idsL] at hg; done) | simpa [cI, cReln, cS, V.ids, idsVL, idsL] using hg)
  simp at hn0
  simp [cI, cReln, cS, dSl]
  refine ⟨⟨a.name, y0⟩, ?_⟩
  refine ⟨by simp [cI, cReln, cS, cStr, cTab, dSl], by simp only [plTab, hy0], ⟨ha.1, hk0⟩, ?_⟩
  have G0 : Good (cStr a.name) (whStr a.name) B := good_Str B a.name
  have G1 : Good (cReln y0) (whReln y0) B := hg0.le (by omega)
  have U0 : ∀ g ∈ idsL (cStr a.name), g < B := by simp [cStr, idsL, D.ids]
  have K1 : Good (cStr a.name ++ cReln y0) ((whStr a.name) ∧ whReln y0) B := Good.app G0 G1 (fun g h h' => by have h1 := U0 g h; have h2 := hg0.lo g h'; omega)
  have U1 : ∀ g ∈ idsL (cStr a.name ++ cReln y0), g < hs0 := fun g h => by rw [idsL_app] at h; rcases List.mem_append.1 h with h | h; (have h1 := U0 g h; omega); exact hl0 g h
  exact ⟨K1.nd, K1.lo, by have h := K1.wh; exact ⟨h.1, h.2⟩⟩
theorem w_laws_toTableS (a : Sl (Tab)) (ha : okS okTab a) (hb : swS swTab a ≤ 1048576) :
   VC Try.prog 47 [.d (dSl cTab a)] (fun n r => ∃ y : Sl (Tab), r = .d (dSl cTab y) ∧ plS plTab y = plS plTab a ∧ okS okTab y ∧ Good (cS cTab y) (whS whTab y) n) := by
  refine VC.of E s47 (by kernel_rfl) Try.func47 (by rfl) (by kernel_rfl) (by simp [Try.f47]) (by simp [Try.f47]) s47_ok fun B => ?_
  have hwt : swS swTab a = a.xs.length + sumW swTab a.xs := rfl
  simp [Try.f47, dSl]
  refine ⟨⟨by omega, by simp only [maxLen]; omega⟩, ?_⟩
  refine loop_rule2 (X := Nat × List (Tab)) (fun p h => p.1 ≤ a.xs.length ∧ p.2.length = p.1 ∧ p.2.map plTab = (a.xs.map plTab).take p.1 ∧ (∀ y ∈ p.2, okTab y) ∧ GoodL cTab whTab B h p.2) (fun p => [(0, .d (.sl a.id a.T (a.xs.map cTab))), (3, .own 7 0 a.xs.length), (4, .d (.int .i64 p.1))]) (fun p => [(7, some (.row 71 3 (p.2.map cTab ++ List.replicate (a.xs.length - p.1) [.str [], .int .i64 0, .sl none none []])))]) (fun p => a.xs.length - p.1) (0, []) ⟨by simp, rfl, by simp, by simp, GoodL.nil⟩ (by simp) (by simp) ?_
  rintro ⟨i, ys⟩ hs t m ⟨hi, hyl, hpl, hok, hgd⟩ hh
  simp only at hi hyl hpl hok hgd
  by_cases hlt : i < a.xs.length
  · have hwi := wr1 (i := i) (by omega)
    have hmem : a.xs[i] ∈ a.xs := List.getElem_mem _
    have hsw := sumW_mem swTab hmem
    simp [cI, cReln, cS, cStr, cTab, hlt]
    refine call_some (w_laws_toTable a.xs[i] (ha.2 _ hmem) (by omega)) rfl (by simp) fun n hs' r hn hn' hp hr => ?_
    obtain ⟨y, rfl, hy1, hy2, hy3⟩ := hp
    simp at hn
    have hr' : ∀ g ∈ idsL (cTab y), g < hs' := fun g hg => hr g (by first | (simp [cI, cReln, cS, cStr, cTab, V.ids, idsVL, idsL] at hg; done) | simpa [cI, cReln, cS, cStr, cTab, V.ids, idsVL, idsL] using hg)
    have hyi : ys.length = i := hyl
    simp [cI, cReln, cS, cStr, cTab, hlt, hwi, hyi, show i + (a.xs.length - i) = a.xs.length by omega, dSl]
    refine back2 (i + 1, ys ++ [y]) ⟨by omega, by simp [hyi], ?_, ?_, ?_⟩ (by simp <;> omega) rfl (by simp <;> omega) (by simp) ?_
    · simp only [List.map_append, hpl, List.map_cons, List.map_nil, hy1]
      rw [List.take_succ_eq_append_getElem (by simpa using hlt)]; simp
    · intro y' hy'
      rcases List.mem_append.1 hy' with h | h
      · exact hok y' h
      · rw [List.mem_singleton.1 h]; exact hy2
    · exact GoodL.snoc hgd (by omega) hn' hy3 hr'
    · simp [rep_set0 hlt, cI, cReln, cS, cStr, cTab, dSl]
  · have hn : i = a.xs.length := by omega
    subst hn
    simp
    intro γ hs' h1 hg
    obtain ⟨q1, q2⟩ := gam_at hg (k := 7) (T := 71) (sz := 3) (es := ys.map cTab) (by simp [upd])
    have q3 := gam_row hg (k := 7) (T := 71) (sz := 3) (es := ys.map cTab) (by simp [upd])
    clear hg
    refine ⟨_, ⟨by omega, rfl⟩, ⟨γ 7, some (71, 3), ys⟩, ?_, by rw [List.take_of_length_le (by simp)] at hpl; exact hpl, ⟨by simp only [maxLen]; show ys.length ≤ _; omega, hok⟩, good_row (fun g hg => (q1 g hg).1) (by simpa using q2) q3 ⟨hgd.nd, hgd.lo⟩ hgd.wh⟩
    rw [if_pos hyl.symm, List.take_of_length_le (by simp [hyl])]
theorem w_laws_heldTableS (a : Sl (Tab)) (k : Int) (h0 : 1 ≤ k) (h1 : k + wtS wtTab a ≤ 4611686018427387904) (ha : okS okTab a) :
   VC Try.prog 76 [.d (dSl cTab a), .d (.int .i64 k)] (fun _ r => r = .d (.int .i64 (hv (hlS (hlTab) (wtTab) a k) k (wtS wtTab a)))) := by
  refine VC.of E s76 (by kernel_rfl) Try.func76 (by rfl) (by kernel_rfl) (by simp [Try.f76]) (by simp [Try.f76]) s76_ok fun B => ?_
  obtain ⟨id, T, xs⟩ := a
  have ha1 := ha.1
  simp only [maxLen] at ha1
  have hwt : wtS wtTab (⟨id, T, xs⟩ : Sl (Tab)) = sumW wtTab xs := rfl
  have hhl : hlS (hlTab) (wtTab) (⟨id, T, xs⟩ : Sl (Tab)) k = hlList hlTab wtTab xs k := rfl
  rw [hwt] at h1
  rw [hwt, hhl]
  simp [Try.f76, s76_4, dSl]
  refine loop_rule (X := Nat) (fun i => i ≤ xs.length ∧ hlList hlTab wtTab (xs.take i) k = true) (fun i => [(0, .d (.sl id T (xs.map cTab))), (1, .d (.int .i64 (k + sumW wtTab (xs.take i)))), (5, .d (.int .i64 i))]) (fun _ => []) (fun i => xs.length - i) 0 (by simp [hlList]) (by simp) (by simp) ?_
  intro i hs t m hi hh
  by_cases hlt : i < xs.length
  · have hwi := wr1 (i := i) (by omega)
    have e1 := sumW_succ wtTab hlt
    have e2 := sumW_le wtTab xs (i + 1)
    have hmem : xs[i] ∈ xs := List.getElem_mem _
    have hstep := hlList_step (hl := hlTab) (wt := wtTab) (k := k) hlt
    rw [hi.2, Bool.true_and] at hstep
    have hbad := hlList_bad (hl := hlTab) (wt := wtTab) (k := k) hlt
    have h112 : ∀ x : Int, 1 + (1 + x) = 2 + x := fun x => by omega
    have hex : hlTab xs[i] (k + sumW wtTab (xs.take i)) = (xs[i].name == mtext (k + sumW wtTab (xs.take i)) && xs[i].rel.ar == k + sumW wtTab (xs.take i) + 1 && hlS (hlS (hlI) (wtI)) (wtS wtI) xs[i].rel.rows (k + sumW wtTab (xs.take i) + 1 + 1)) := by simp [hlI, hlReln, hlStr, hlTab, wtI, wtReln, wtStr, wtTab, Bool.and_assoc, Int.add_assoc, h112]
    have hwx : wtTab xs[i] = 1 + 1 + wtS (wtS wtI) xs[i].rel.rows := by first | rfl | (simp only [wtTab, wtDelta, wtReln, wtStr, wtI]; omega)
    have hk0 : IntKind.i64.wrap (k + sumW wtTab (xs.take i) + 1) = k + sumW wtTab (xs.take i) + 1 := wrap64_of (by omega) (by omega)
    simp [cI, cReln, cS, cStr, cTab, hlt, dSl, s76_4, ]
    refine call_pure (w_laws_markText _ (by omega) (by omega)) rfl (by simp) rfl fun hs0 hh0 => ?_
    simp at hh0
    by_cases c0 : xs[i].name = mtext (k + sumW wtTab (xs.take i))
    case neg => simp [c0, hbad (by simp [hex, c0])]
    simp [c0, hk0, hlt, cI, cReln, cS, cStr, cTab, s76_4, ]
    have hk1 : IntKind.i64.wrap (k + sumW wtTab (xs.take i) + 1 + 1) = k + sumW wtTab (xs.take i) + 1 + 1 := wrap64_of (by omega) (by omega)
    by_cases c1 : xs[i].rel.ar = k + sumW wtTab (xs.take i) + 1
    case neg => simp [c1, hbad (by simp [hex, c1])]
    simp [c1, hk1, s76_4, ]
    refine call_pure (w_laws_heldIntSS xs[i].rel.rows _ (by omega) (by omega) ((ha.2 _ hmem).2.2)) rfl (by simp) rfl fun hs2 hh2 => ?_
    simp at hh2
    by_cases c2 : hlS (hlS (hlI) (wtI)) (wtS wtI) xs[i].rel.rows (k + sumW wtTab (xs.take i) + 1 + 1) = true
    case neg =>
      have c2' : hlS (hlS (hlI) (wtI)) (wtS wtI) xs[i].rel.rows (k + sumW wtTab (xs.take i) + 1 + 1) = false := by simpa using c2
      simp [c2', hbad (by simp [hex, c2'])]
    have hn2 : ¬ k + sumW wtTab (xs.take i) + 1 + 1 + (wtS (wtS wtI) xs[i].rel.rows : Int) < 0 := by omega
    simp [c2, hn2, hlt, cI, cReln, cS, cStr, cTab, dSl, s76_4, ]
    simp [hwi]
    refine back (i + 1) ⟨by omega, hstep.trans (hex.trans (by simp [c0, c1, c2]))⟩ (by omega) rfl (by simp <;> omega) ?_ (by simp)
    simp
    omega
  · have hn : i = xs.length := by omega
    subst hn
    have h2 := hi.2
    rw [List.take_length] at h2
    simp [h2]
theorem w_laws_toDatabase (a : Db) (ha : okDb a) (hb : swDb a ≤ 1048576) :
   VC Try.prog 11 [.agg ((cDb a).map V.d)] (fun n r => ∃ y : Db, r = .agg ((cDb y).map V.d) ∧ plDb y = plDb a ∧ okDb y ∧ Good (cDb y) (whDb y) n) := by
  refine VC.of E s11 (by kernel_rfl) Try.func11 (by rfl) (by kernel_rfl) (by simp [Try.f11]) (by simp [Try.f11]) s11_ok fun B => ?_
  have hwt : swDb a = swS swTab a.tabs := rfl
  simp [Try.f11, cDb, cS, dSl]
  refine call_some (w_laws_toTableS a.tabs ha (by have := hwt; omega)) rfl (by simp) fun n0 hs0 r0 hn0 hm0 hp0 hr0 => ?_
  obtain ⟨y0, rfl, hy0, hk0, hg0⟩ := hp0
  have hl0 : ∀ g ∈ idsL (cS cTab y0), g < hs0 := fun g hg => hr0 g (by first | (simp [cS, V.ids, idsVL, idsL] at hg; done) | simpa [cS, V.ids, idsVL, idsL] using hg)
  simp at hn0
  simp [cS, dSl]
  refine ⟨⟨y0⟩, ?_⟩
  refine ⟨by simp [cDb, cS, dSl], by simp only [plDb, hy0], hk0, ?_⟩
  have G0 : Good (cS cTab y0) (whS whTab y0) B := hg0.le (by omega)
  have U0 : ∀ g ∈ idsL (cS cTab y0), g < hs0 := hl0
  exact G0
theorem w_laws_heldDatabase (a : Db) (k : Int) (h0 : 1 ≤ k) (h1 : k + wtTDb a ≤ 4611686018427387904) (ha : okDb a) :
   VC Try.prog 27 [.agg ((cDb a).map V.d), .d (.int .i64 k)] (fun _ r => r = .d (.int .i64 (hv (hlTDb a k) k (wtTDb a)))) := by
  refine VC.of E s27 (by kernel_rfl) Try.func27 (by rfl) (by kernel_rfl) (by simp [Try.f27]) (by simp [Try.f27]) s27_ok fun B => ?_
  have hwt : wtTDb a = wtS wtTab a.tabs := rfl
  have hex : hlTDb a k = (hlS (hlTab) (wtTab) a.tabs (k)) := rfl
  simp [Try.f27, cDb, cS, dSl]
  refine call_pure (w_laws_heldTableS a.tabs _ (by omega) (by omega) ha) rfl (by simp) rfl fun hs0 hh0 => ?_
  by_cases c0 : hlS (hlTab) (wtTab) a.tabs (k) = true
  case neg =>
    have c0' : hlS (hlTab) (wtTab) a.tabs (k) = false := by simpa using c0
    simp [c0', hex]
  have hn0 : ¬ k + (wtS wtTab a.tabs : Int) < 0 := by omega
  simp [c0, hn0]
  simp [hex, c0, hwt]
  try omega
theorem w_laws_toDelta (a : Delta) (ha : okDelta a) (hb : swDelta a ≤ 1048576) :
   VC Try.prog 20 [.agg ((cDelta a).map V.d)] (fun n r => ∃ y : Delta, r = .agg ((cDelta y).map V.d) ∧ plDelta y = plDelta a ∧ okDelta y ∧ Good (cDelta y) (whDelta y) n) := by
  refine VC.of E s20 (by kernel_rfl) Try.func20 (by rfl) (by kernel_rfl) (by simp [Try.f20]) (by simp [Try.f20]) s20_ok fun B => ?_
  have hwt : swDelta a = swStr a.name + swReln a.ins + swReln a.del := rfl
  simp [Try.f20, cDelta, cI, cReln, cS, cStr, dSl]
  refine call_some (w_laws_toRelation a.ins ha.2.1 (by have := hwt; omega)) rfl (by simp) fun n0 hs0 r0 hn0 hm0 hp0 hr0 => ?_
  obtain ⟨y0, rfl, hy0, hk0, hg0⟩ := hp0
  have hl0 : ∀ g ∈ idsL (cReln y0), g < hs0 := fun g hg => hr0 g (by first | (simp [cI, cReln, cS, V.ids, idsVL, idsL] at hg; done) | simpa [cI, cReln, cS, V.ids, idsVL, idsL] using hg)
  simp at hn0
  simp [cI, cReln, cS, dSl]
  refine call_some (w_laws_toRelation a.del ha.2.2 (by have := hwt; omega)) rfl (by simp) fun n1 hs1 r1 hn1 hm1 hp1 hr1 => ?_
  obtain ⟨y1, rfl, hy1, hk1, hg1⟩ := hp1
  have hl1 : ∀ g ∈ idsL (cReln y1), g < hs1 := fun g hg => hr1 g (by first | (simp [cI, cReln, cS, V.ids, idsVL, idsL] at hg; done) | simpa [cI, cReln, cS, V.ids, idsVL, idsL] using hg)
  simp at hn1
  simp [cI, cReln, cS, dSl]
  refine ⟨⟨a.name, y0, y1⟩, ?_⟩
  refine ⟨by simp [cDelta, cI, cReln, cS, cStr, dSl], by simp only [plDelta, hy0, hy1], ⟨ha.1, hk0, hk1⟩, ?_⟩
  have G0 : Good (cStr a.name) (whStr a.name) B := good_Str B a.name
  have G1 : Good (cReln y0) (whReln y0) B := hg0.le (by omega)
  have G2 : Good (cReln y1) (whReln y1) B := hg1.le (by omega)
  have U0 : ∀ g ∈ idsL (cStr a.name), g < B := by simp [cStr, idsL, D.ids]
  have K1 : Good (cStr a.name ++ cReln y0) ((whStr a.name) ∧ whReln y0) B := Good.app G0 G1 (fun g h h' => by have h1 := U0 g h; have h2 := hg0.lo g h'; omega)
  have U1 : ∀ g ∈ idsL (cStr a.name ++ cReln y0), g < hs0 := fun g h => by rw [idsL_app] at h; rcases List.mem_append.1 h with h | h; (have h1 := U0 g h; omega); exact hl0 g h
  have K2 : Good (cStr a.name ++ cReln y0 ++ cReln y1) (((whStr a.name) ∧ whReln y0) ∧ whReln y1) B := Good.app K1 G2 (fun g h h' => by have h1 := U1 g h; have h2 := hg1.lo g h'; omega)
  have U2 : ∀ g ∈ idsL (cStr a.name ++ cReln y0 ++ cReln y1), g < hs1 := fun g h => by rw [idsL_app] at h; rcases List.mem_append.1 h with h | h; (have h1 := U1 g h; omega); exact hl1 g h
  exact ⟨K2.nd, K2.lo, by have h := K2.wh; exact ⟨h.1.1, h.1.2, h.2⟩⟩
theorem w_laws_heldDelta (a : Delta) (k : Int) (h0 : 1 ≤ k) (h1 : k + wtTDelta a ≤ 4611686018427387904) (ha : okDelta a) :
   VC Try.prog 24 [.agg ((cDelta a).map V.d), .d (.int .i64 k)] (fun _ r => r = .d (.int .i64 (hv (hlTDelta a k) k (wtTDelta a)))) := by
  refine VC.of E s24 (by kernel_rfl) Try.func24 (by rfl) (by kernel_rfl) (by simp [Try.f24]) (by simp [Try.f24]) s24_ok fun B => ?_
  have hwt : wtTDelta a = wtTReln a.ins + wtTReln a.del := rfl
  have hex : hlTDelta a k = (hlTReln a.ins (k) && hlTReln a.del (k + wtTReln a.ins)) := rfl
  simp [Try.f24, cDelta, cI, cReln, cS, cStr, dSl]
  refine call_pure (w_laws_heldRelation a.ins _ (by omega) (by omega) ha.2.1) rfl (by simp) rfl fun hs0 hh0 => ?_
  by_cases c0 : hlTReln a.ins (k) = true
  case neg =>
    have c0' : hlTReln a.ins (k) = false := by simpa using c0
    simp [c0', hex]
  have hn0 : ¬ k + (wtTReln a.ins : Int) < 0 := by omega
  simp [c0, hn0]
  refine call_pure (w_laws_heldRelation a.del _ (by omega) (by omega) ha.2.2) rfl (by simp) rfl fun hs1 hh1 => ?_
  by_cases c1 : hlTReln a.del (k + wtTReln a.ins) = true
  case neg =>
    have c1' : hlTReln a.del (k + wtTReln a.ins) = false := by simpa using c1
    simp [c1', hex]
  have hn1 : ¬ k + wtTReln a.ins + (wtTReln a.del : Int) < 0 := by omega
  simp [c1, hn1]
  simp [hex, c0, c1, hwt]
  try omega
theorem w_laws_toDeltaS (a : Sl (Delta)) (ha : okS okDelta a) (hb : swS swDelta a ≤ 1048576) :
   VC Try.prog 30 [.d (dSl cDelta a)] (fun n r => ∃ y : Sl (Delta), r = .d (dSl cDelta y) ∧ plS plDelta y = plS plDelta a ∧ okS okDelta y ∧ Good (cS cDelta y) (whS whDelta y) n) := by
  refine VC.of E s30 (by kernel_rfl) Try.func30 (by rfl) (by kernel_rfl) (by simp [Try.f30]) (by simp [Try.f30]) s30_ok fun B => ?_
  have hwt : swS swDelta a = a.xs.length + sumW swDelta a.xs := rfl
  simp [Try.f30, dSl]
  refine ⟨⟨by omega, by simp only [maxLen]; omega⟩, ?_⟩
  refine loop_rule2 (X := Nat × List (Delta)) (fun p h => p.1 ≤ a.xs.length ∧ p.2.length = p.1 ∧ p.2.map plDelta = (a.xs.map plDelta).take p.1 ∧ (∀ y ∈ p.2, okDelta y) ∧ GoodL cDelta whDelta B h p.2) (fun p => [(0, .d (.sl a.id a.T (a.xs.map cDelta))), (3, .own 7 0 a.xs.length), (4, .d (.int .i64 p.1))]) (fun p => [(7, some (.row 45 5 (p.2.map cDelta ++ List.replicate (a.xs.length - p.1) [.str [], .int .i64 0, .sl none none [], .int .i64 0, .sl none none []])))]) (fun p => a.xs.length - p.1) (0, []) ⟨by simp, rfl, by simp, by simp, GoodL.nil⟩ (by simp) (by simp) ?_
  rintro ⟨i, ys⟩ hs t m ⟨hi, hyl, hpl, hok, hgd⟩ hh
  simp only at hi hyl hpl hok hgd
  by_cases hlt : i < a.xs.length
  · have hwi := wr1 (i := i) (by omega)
    have hmem : a.xs[i] ∈ a.xs := List.getElem_mem _
    have hsw := sumW_mem swDelta hmem
    simp [cDelta, cI, cReln, cS, cStr, hlt]
    refine call_some (w_laws_toDelta a.xs[i] (ha.2 _ hmem) (by omega)) rfl (by simp) fun n hs' r hn hn' hp hr => ?_
    obtain ⟨y, rfl, hy1, hy2, hy3⟩ := hp
    simp at hn
    have hr' : ∀ g ∈ idsL (cDelta y), g < hs' := fun g hg => hr g (by first | (simp [cDelta, cI, cReln, cS, cStr, V.ids, idsVL, idsL] at hg; done) | simpa [cDelta, cI, cReln, cS, cStr, V.ids, idsVL, idsL] using hg)
    have hyi : ys.length = i := hyl
    simp [cDelta, cI, cReln, cS, cStr, hlt, hwi, hyi, show i + (a.xs.length - i) = a.xs.length by omega, dSl]
    refine back2 (i + 1, ys ++ [y]) ⟨by omega, by simp [hyi], ?_, ?_, ?_⟩ (by simp <;> omega) rfl (by simp <;> omega) (by simp) ?_
    · simp only [List.map_append, hpl, List.map_cons, List.map_nil, hy1]
      rw [List.take_succ_eq_append_getElem (by simpa using hlt)]; simp
    · intro y' hy'
      rcases List.mem_append.1 hy' with h | h
      · exact hok y' h
      · rw [List.mem_singleton.1 h]; exact hy2
    · exact GoodL.snoc hgd (by omega) hn' hy3 hr'
    · simp [rep_set0 hlt, cDelta, cI, cReln, cS, cStr, dSl]
  · have hn : i = a.xs.length := by omega
    subst hn
    simp
    intro γ hs' h1 hg
    obtain ⟨q1, q2⟩ := gam_at hg (k := 7) (T := 45) (sz := 5) (es := ys.map cDelta) (by simp [upd])
    have q3 := gam_row hg (k := 7) (T := 45) (sz := 5) (es := ys.map cDelta) (by simp [upd])
    clear hg
    refine ⟨_, ⟨by omega, rfl⟩, ⟨γ 7, some (45, 5), ys⟩, ?_, by rw [List.take_of_length_le (by simp)] at hpl; exact hpl, ⟨by simp only [maxLen]; show ys.length ≤ _; omega, hok⟩, good_row (fun g hg => (q1 g hg).1) (by simpa using q2) q3 ⟨hgd.nd, hgd.lo⟩ hgd.wh⟩
    rw [if_pos hyl.symm, List.take_of_length_le (by simp [hyl])]
theorem w_laws_heldDeltaS (a : Sl (Delta)) (k : Int) (h0 : 1 ≤ k) (h1 : k + wtS wtDelta a ≤ 4611686018427387904) (ha : okS okDelta a) :
   VC Try.prog 38 [.d (dSl cDelta a), .d (.int .i64 k)] (fun _ r => r = .d (.int .i64 (hv (hlS (hlDelta) (wtDelta) a k) k (wtS wtDelta a)))) := by
  refine VC.of E s38 (by kernel_rfl) Try.func38 (by rfl) (by kernel_rfl) (by simp [Try.f38]) (by simp [Try.f38]) s38_ok fun B => ?_
  obtain ⟨id, T, xs⟩ := a
  have ha1 := ha.1
  simp only [maxLen] at ha1
  have hwt : wtS wtDelta (⟨id, T, xs⟩ : Sl (Delta)) = sumW wtDelta xs := rfl
  have hhl : hlS (hlDelta) (wtDelta) (⟨id, T, xs⟩ : Sl (Delta)) k = hlList hlDelta wtDelta xs k := rfl
  rw [hwt] at h1
  rw [hwt, hhl]
  simp [Try.f38, s38_4, dSl]
  refine loop_rule (X := Nat) (fun i => i ≤ xs.length ∧ hlList hlDelta wtDelta (xs.take i) k = true) (fun i => [(0, .d (.sl id T (xs.map cDelta))), (1, .d (.int .i64 (k + sumW wtDelta (xs.take i)))), (5, .d (.int .i64 i))]) (fun _ => []) (fun i => xs.length - i) 0 (by simp [hlList]) (by simp) (by simp) ?_
  intro i hs t m hi hh
  by_cases hlt : i < xs.length
  · have hwi := wr1 (i := i) (by omega)
    have e1 := sumW_succ wtDelta hlt
    have e2 := sumW_le wtDelta xs (i + 1)
    have hmem : xs[i] ∈ xs := List.getElem_mem _
    have hstep := hlList_step (hl := hlDelta) (wt := wtDelta) (k := k) hlt
    rw [hi.2, Bool.true_and] at hstep
    have hbad := hlList_bad (hl := hlDelta) (wt := wtDelta) (k := k) hlt
    have h112 : ∀ x : Int, 1 + (1 + x) = 2 + x := fun x => by omega
    have hex : hlDelta xs[i] (k + sumW wtDelta (xs.take i)) = (xs[i].name == mtext (k + sumW wtDelta (xs.take i)) && xs[i].ins.ar == k + sumW wtDelta (xs.take i) + 1 && hlS (hlS (hlI) (wtI)) (wtS wtI) xs[i].ins.rows (k + sumW wtDelta (xs.take i) + 1 + 1) && xs[i].del.ar == k + sumW wtDelta (xs.take i) + 1 + 1 + wtS (wtS wtI) xs[i].ins.rows && hlS (hlS (hlI) (wtI)) (wtS wtI) xs[i].del.rows (k + sumW wtDelta (xs.take i) + 1 + 1 + wtS (wtS wtI) xs[i].ins.rows + 1)) := by simp [hlDelta, hlI, hlReln, hlStr, wtDelta, wtI, wtReln, wtStr, Bool.and_assoc, Int.add_assoc, h112]
    have hwx : wtDelta xs[i] = 1 + 1 + wtS (wtS wtI) xs[i].ins.rows + 1 + wtS (wtS wtI) xs[i].del.rows := by first | rfl | (simp only [wtTab, wtDelta, wtReln, wtStr, wtI]; omega)
    have hk0 : IntKind.i64.wrap (k + sumW wtDelta (xs.take i) + 1) = k + sumW wtDelta (xs.take i) + 1 := wrap64_of (by omega) (by omega)
    simp [cDelta, cI, cReln, cS, cStr, hlt, dSl, s38_4, ]
    refine call_pure (w_laws_markText _ (by omega) (by omega)) rfl (by simp) rfl fun hs0 hh0 => ?_
    simp at hh0
    by_cases c0 : xs[i].name = mtext (k + sumW wtDelta (xs.take i))
    case neg => simp [c0, hbad (by simp [hex, c0])]
    simp [c0, hk0, hlt, cDelta, cI, cReln, cS, cStr, s38_4, ]
    have hk1 : IntKind.i64.wrap (k + sumW wtDelta (xs.take i) + 1 + 1) = k + sumW wtDelta (xs.take i) + 1 + 1 := wrap64_of (by omega) (by omega)
    by_cases c1 : xs[i].ins.ar = k + sumW wtDelta (xs.take i) + 1
    case neg => simp [c1, hbad (by simp [hex, c1])]
    simp [c1, hk1, s38_4, ]
    refine call_pure (w_laws_heldIntSS xs[i].ins.rows _ (by omega) (by omega) ((ha.2 _ hmem).2.1.2)) rfl (by simp) rfl fun hs2 hh2 => ?_
    simp at hh2
    by_cases c2 : hlS (hlS (hlI) (wtI)) (wtS wtI) xs[i].ins.rows (k + sumW wtDelta (xs.take i) + 1 + 1) = true
    case neg =>
      have c2' : hlS (hlS (hlI) (wtI)) (wtS wtI) xs[i].ins.rows (k + sumW wtDelta (xs.take i) + 1 + 1) = false := by simpa using c2
      simp [c2', hbad (by simp [hex, c2'])]
    have hn2 : ¬ k + sumW wtDelta (xs.take i) + 1 + 1 + (wtS (wtS wtI) xs[i].ins.rows : Int) < 0 := by omega
    simp [c2, hn2, hlt, cDelta, cI, cReln, cS, cStr, dSl, s38_4, ]
    have hk3 : IntKind.i64.wrap (k + sumW wtDelta (xs.take i) + 1 + 1 + wtS (wtS wtI) xs[i].ins.rows + 1) = k + sumW wtDelta (xs.take i) + 1 + 1 + wtS (wtS wtI) xs[i].ins.rows + 1 := wrap64_of (by omega) (by omega)
    by_cases c3 : xs[i].del.ar = k + sumW wtDelta (xs.take i) + 1 + 1 + wtS (wtS wtI) xs[i].ins.rows
    case neg => simp [c3, hbad (by simp [hex, c3])]
    simp [c3, hk3, s38_4, ]
    refine call_pure (w_laws_heldIntSS xs[i].del.rows _ (by omega) (by omega) ((ha.2 _ hmem).2.2.2)) rfl (by simp) rfl fun hs4 hh4 => ?_
    simp at hh4
    by_cases c4 : hlS (hlS (hlI) (wtI)) (wtS wtI) xs[i].del.rows (k + sumW wtDelta (xs.take i) + 1 + 1 + wtS (wtS wtI) xs[i].ins.rows + 1) = true
    case neg =>
      have c4' : hlS (hlS (hlI) (wtI)) (wtS wtI) xs[i].del.rows (k + sumW wtDelta (xs.take i) + 1 + 1 + wtS (wtS wtI) xs[i].ins.rows + 1) = false := by simpa using c4
      simp [c4', hbad (by simp [hex, c4'])]
    have hn4 : ¬ k + sumW wtDelta (xs.take i) + 1 + 1 + wtS (wtS wtI) xs[i].ins.rows + 1 + (wtS (wtS wtI) xs[i].del.rows : Int) < 0 := by omega
    simp [c4, hn4, hlt, cDelta, cI, cReln, cS, cStr, dSl, s38_4, ]
    simp [hwi]
    refine back (i + 1) ⟨by omega, hstep.trans (hex.trans (by simp [c0, c1, c2, c3, c4]))⟩ (by omega) rfl (by simp <;> omega) ?_ (by simp)
    simp
    omega
  · have hn : i = xs.length := by omega
    subst hn
    have h2 := hi.2
    rw [List.take_length] at h2
    simp [h2]

end Go.Proofs.Ytfpohhabemnnfaa

namespace Go.Proofs.Ytfpohhabemnnfaa
open Go.Vs Go.Proofs Go
set_option maxRecDepth 100000
set_option maxHeartbeats 1000000

theorem w_laws_markIntS (a : Ints) (k : Int) (h0 : 1 ≤ k) (h1 : k + wtS wtI a ≤ 4611686018427387904) (hw : whS whI a) (hl0 : okS okI a) (hnd : (dInts a).ids.Nodup) :
   VX Try.prog 101 (dInts a).ids [.d (dInts a), .d (.int .i64 k)] none (fun _ r _ ws => r = .d (.int .i64 (k + wtS wtI a)) ∧ ws = [dInts (mkS mkI wtI a k)]) := by
  refine VX.of E s101 (by kernel_rfl) Try.func101 (by rfl) (by kernel_rfl) (by simp [Try.f101]) (by simp [Try.f101]) s101_ok (fun g hg => .inl (by simpa using hg)) (fun cs h => nomatch h) fun B hB => ?_
  have hl := hl0.1
  obtain ⟨id, T, xs⟩ := a
  have hwt : wtS wtI (⟨id, T, xs⟩ : Ints) = xs.length := sumW_one (fun _ => rfl) xs
  rw [hwt] at h1 ⊢
  simp only [maxLen] at hl
  simp [Try.f101]
  refine loop_rule (X := Nat) (fun i => i ≤ xs.length) (fun i => [(0, .d (dInts ⟨id, T, mkAt mkI wtI xs k i⟩)), (1, .d (.int .i64 (k + i))), (5, .d (.int .i64 i))]) (fun _ => []) (fun i => xs.length - i) 0 (by simp) (by simp) (by simp) ?_
  intro i hs t m hi hh
  by_cases hlt : i < xs.length
  · obtain ⟨g, hg, T', hT⟩ := hw.1.id hlt
    simp only at hg hT
    subst hg hT
    have hk := wr1 (i := i) (by omega)
    have hk2 : IntKind.i64.wrap (k + i + 1) = k + i + 1 := wrap64_of (by omega) (by omega)
    simp [dInts, dSl, hlt, hk, hk2, cI]
    refine back (i + 1) (by omega) (by omega) rfl (by simp) ?_ (by simp)
    have e1 : (List.map cI (mkAt mkI wtI xs k i)).set i [D.int IntKind.i64 (k + ↑i)] = List.map cI (mkAt mkI wtI xs k (i + 1)) := by
      rw [mkAt_succ hlt, ← set_map, show sumW wtI (List.take i xs) = _ from sumW_one (fun _ => rfl) _]
      simp [cI, mkI, Nat.min_eq_left hi]
    have e2 := re_oneSet (g := g) (T := T') (es := List.map cI (mkAt mkI wtI xs k i)) (i := i) (e' := [D.int IntKind.i64 (k + ↑i)]) (fun e he => by
      rw [List.getElem?_map] at he
      simp [hlt] at he
      rw [← he]; rfl)
    rw [e1] at e2
    simp [e1, e2]
    omega
  · have hn : i = xs.length := by omega
    subst hn
    simp [dInts, dSl, vendX]
    refine ⟨[0], fun γ hs' h1 h2 => ?_⟩
    simp [mkS, mkAt_all]

theorem w_laws_markIntSS (a : Sl Ints) (k : Int) (h0 : 1 ≤ k) (h1 : k + wtS (wtS wtI) a ≤ 4611686018427387904) (hw : whS (whS whI) a) (hl : okS (okS okI) a) (hnd : (dRows a).ids.Nodup) :
   VX Try.prog 77 (dRows a).ids [.d (dRows a), .d (.int .i64 k)] none (fun _ r _ ws => r = .d (.int .i64 (k + wtS (wtS wtI) a)) ∧ ws = [dRows (mkS (mkS mkI wtI) (wtS wtI) a k)]) := by
  refine VX.of E s77 (by kernel_rfl) Try.func77 (by rfl) (by kernel_rfl) (by simp [Try.f77]) (by simp [Try.f77]) s77_ok (fun g hg => .inl (by simpa using hg)) (fun cs h => nomatch h) fun B hB => ?_
  obtain ⟨id, T, xs⟩ := a
  have hl1 := hl.1
  simp only [maxLen] at hl1
  have hwt : wtS (wtS wtI) (⟨id, T, xs⟩ : Sl Ints) = sumW (wtS wtI) xs := rfl
  rw [hwt] at h1 ⊢
  simp [Try.f77]
  refine loop_rule (X := Nat) (fun i => i ≤ xs.length) (fun i => [(0, .d (dSl (cS cI) ⟨id, T, mkAt (mkS mkI wtI) (wtS wtI) xs k i⟩)), (1, .d (.int .i64 (k + sumW (wtS wtI) (xs.take i)))), (5, .d (.int .i64 i))]) (fun _ => []) (fun i => xs.length - i) 0 (by simp) (by simp) (by simp) ?_
  intro i hs t m hi hh
  by_cases hlt : i < xs.length
  · have hk := wr1 (i := i) (by omega)
    have e1 := sumW_succ (wtS wtI) hlt
    have e2 := sumW_le (wtS wtI) xs (i + 1)
    have hmem : xs[i] ∈ xs := List.getElem_mem _
    simp [dSl, hlt, cS]
    refine call_x (E101) (by simp [dSl]) (by simp) (by simp) (fun g hg => .inr ?_) (w_laws_markIntS xs[i] (k + sumW (wtS wtI) (xs.take i)) (by omega) (by omega) (hw.2 _ hmem) (hl.2 _ hmem) (by have := elem_nd (sl_nd hnd).1 hlt; rwa [idsL_cS] at this)) fun n hs' r cs' ws hn hn' hp hr hws => ?_
    · exact elem_ids (s := ⟨id, T, xs⟩) (c := cS cI) (i := i) hlt (by simpa [cS, idsL] using hg)
    obtain ⟨rfl, rfl⟩ := hp
    simp at hn
    have hnd' : (dSl (cS cI) (⟨id, T, mkAt (mkS mkI wtI) (wtS wtI) xs k i⟩ : Sl Ints)).ids.Nodup := by
      have : (dSl (cS cI) (⟨id, T, mkAt (mkS mkI wtI) (wtS wtI) xs k i⟩ : Sl Ints)).ids = (dRows ⟨id, T, xs⟩).ids := by
        simp only [dSl, D.ids]; rw [ids_mkAt (marksS marksI).ids]
      rw [this]; exact hnd
    have e3 := re_elem (c := cS cI) (s := ⟨id, T, mkAt (mkS mkI wtI) (wtS wtI) xs k i⟩) (i := i) (a' := mkS mkI wtI xs[i] (k + sumW (wtS wtI) (xs.take i))) (W := (dInts xs[i]).ids) (ws := [dInts (mkS mkI wtI xs[i] (k + sumW (wtS wtI) (xs.take i)))]) hnd' (by simpa using hlt)
      (fun g hg => by simpa [cS, idsL] using hg) (by simp only [mkAt_get]; exact reL_one (re_root (by simp [cI]) (hw.2 _ hmem).1 (by simp) (fun g hg => mem_slids hg) []))
    simp [dSl, cS, hk] at e3 ⊢
    refine back (i + 1) (by omega) (by omega) rfl (by simp <;> omega) ?_ (by simp)
    simp [e3, mkAt_succ hlt, e1]
    exact ⟨rfl, by omega⟩
  · have hn : i = xs.length := by omega
    subst hn
    simp [dSl, vendX]
    refine ⟨[0], fun γ hs' h1 h2 => ?_⟩
    simp [mkS, mkAt_all]

end Go.Proofs.Ytfpohhabemnnfaa

namespace Go.Proofs.Ytfpohhabemnnfaa
open Go.Vs Go.Proofs Go
set_option maxRecDepth 100000
set_option maxHeartbeats 1000000

theorem w_laws_markFileS (a : Sl (File)) (k : Int) (h0 : 1 ≤ k) (h1 : k + wtS wtFile a ≤ 4611686018427387904) (hw : whS whFile a) (hl : okS okFile a) (hnd : (dSl cFile a).ids.Nodup) :
   VX Try.prog 16 (dSl cFile a).ids [.d (dSl cFile a), .d (.int .i64 k)] none (fun _ r _ ws => r = .d (.int .i64 (k + wtS wtFile a)) ∧ ws = [dSl cFile (mkS (mkFile) (wtFile) a k)]) := by
  refine VX.of E s16 (by kernel_rfl) Try.func16 (by rfl) (by kernel_rfl) (by simp [Try.f16]) (by simp [Try.f16]) s16_ok ?_ ?_ fun B hB => ?_
  · exact fun g hg => .inl (by simpa using hg)
  · exact fun cs h => nomatch h
  obtain ⟨id, T, xs⟩ := a
  have hl1 := hl.1
  simp only [maxLen] at hl1
  have hwt : wtS wtFile (⟨id, T, xs⟩ : Sl (File)) = sumW wtFile xs := rfl
  rw [hwt] at h1 ⊢
  simp [Try.f16]
  refine loop_rule (X := Nat) (fun i => i ≤ xs.length) (fun i => [(0, .d (dSl cFile ⟨id, T, mkAt mkFile wtFile xs k i⟩)), (1, .d (.int .i64 (k + sumW wtFile (xs.take i)))), (5, .d (.int .i64 i))]) (fun _ => []) (fun i => xs.length - i) 0 (by simp) (by simp) (by simp) ?_
  intro i hs t m hi hh
  by_cases hlt : i < xs.length
  · have hwi := wr1 (i := i) (by omega)
    have e1 := sumW_succ wtFile hlt
    have e2 := sumW_le wtFile xs (i + 1)
    have hmem : xs[i] ∈ xs := List.getElem_mem _
    have hwx : wtFile xs[i] = 1 + 1 := by simp only [wtFile, wtStr] <;> omega
    obtain ⟨g, hg, T', hT⟩ := hw.1.id hlt
    simp only at hg hT
    subst hg hT
    have hnd2 := sl_nd hnd
    have hnn : g ∉ idsLL ((mkAt mkFile wtFile xs k i).map cFile) := by rw [ids_mkAt marksFile.ids]; exact hnd2.2 g rfl
    have hni : g ∉ idsL (cFile xs[i]) := fun hin => hnd2.2 g rfl (idsLL_map_mem.2 ⟨_, hmem, hin⟩)
    have hne := elem_nd hnd2.1 hlt
    have hni0 := hni
    have hne0 := hne
    have hap : ∀ W : List Nat, (∀ q ∈ W, q ∈ idsL (cFile xs[i])) → ∀ ws (j : Nat) (e : List D), j ≠ i → ((mkAt mkFile wtFile xs k i).map cFile)[j]? = some e → ∀ q ∈ idsL e, phi W ws q = none := by
      intro W hW ws
      exact nd_mapD (by rw [ids_mkAt marksFile.ids]; exact hnd2.1) (i := i) (by simpa using hlt) (by simpa using hW) ws
    simp only [cFile, cStr, idsL_app, idsL, D.ids, dSl, List.append_nil, List.nil_append, List.cons_append, List.mem_append, not_or, List.append_assoc] at hni hne
    simp [dSl, hlt]
    have hk0 : IntKind.i64.wrap (k + sumW wtFile (xs.take i) + 1) = k + sumW wtFile (xs.take i) + 1 := wrap64_of (by omega) (by omega)
    refine call_pure (w_laws_markText _ (by omega) (by omega)) rfl (by simp) rfl fun hs0 hh0 => ?_
    simp at hh0
    simp [dSl, hlt, cFile, cStr, hnn, nin_set hnn, idsL, D.ids, hni, hk0, hwi]
    have hk1 : IntKind.i64.wrap (k + sumW wtFile (xs.take i) + 1 + 1) = k + sumW wtFile (xs.take i) + 1 + 1 := wrap64_of (by omega) (by omega)
    refine call_pure (w_laws_markText _ (by omega) (by omega)) rfl (by simp) rfl fun hs1 hh1 => ?_
    simp at hh1
    simp [dSl, hlt, cFile, cStr, hnn, nin_set hnn, idsL, D.ids, hni, hk1, hwi]
    refine back (i + 1) (by omega) (by omega) rfl (by simp <;> omega) ?_ (by simp)
    simp [mkAt_succ hlt, e1, cFile, cStr, dSl]
    first
    | exact ⟨rfl, by omega⟩
    | (refine ⟨?_, by omega⟩; simp [mkFile, mkStr, wtFile, wtStr, mkS, Int.add_assoc, show ∀ x : Int, 1 + (1 + x) = 2 + x from fun x => by omega])
  · have hn : i = xs.length := by omega
    subst hn
    simp [dSl, vendX]
    refine ⟨[0], fun γ hs' h1 h2 => ?_⟩
    simp [mkS, mkAt_all]
theorem simT_Reln {a : Reln} (hw : whReln a) (k : Int) : Sim (cReln a) (cReln (mkTReln a k)) := (Sim.leaf (by simp [D.ids]) Sim.nil).app (sim_mk (marksS marksI) hw.2 (k))
theorem w_laws_markRelation (a : Reln) (k : Int) (h0 : 1 ≤ k) (h1 : k + wtTReln a ≤ 4611686018427387904) (hw : whReln a) (hl : okReln a) (hnd : (idsL (cReln a)).Nodup) :
   VX Try.prog 66 (idsL (cReln a)) [.agg ((cReln a).map V.d), .d (.int .i64 k)] none (fun _ r _ ws => r = .d (.int .i64 (k + wtTReln a)) ∧ ws = cReln (mkTReln a k)) := by
  refine VX.of E s66 (by kernel_rfl) Try.func66 (by rfl) (by kernel_rfl) (by simp [Try.f66]) (by simp [Try.f66]) s66_ok ?_ ?_ fun B hB => ?_
  · exact fun g hg => .inl (by simpa [idsVL, V.ids, idsVL_map_d] using hg)
  · exact fun cs h => nomatch h
  have hwt : wtTReln a = wtS (wtS wtI) a.rows := rfl
  have hnd0 := hnd
  simp only [cReln, idsL_app] at hnd0
  have nd0 : (idsL (cI a.ar)).Nodup := nd_left (hnd0)
  have nd1 : (idsL (cS (cS cI) a.rows)).Nodup := nd_right (hnd0)
  have dj0_1 : ∀ g ∈ idsL (cI a.ar), g ∉ idsL (cS (cS cI) a.rows) := fun g hg => nd_disj (hnd0) g (hg)
  simp [Try.f66, cI, cReln, cS]
  refine call_x (E77) (by simp) (by simp) (by simp) (fun q hq => .inr ?_) (w_laws_markIntSS a.rows (k) (by omega) (by omega) (hw.2) (hl.2) (by rw [← idsL_cS]; exact nd1)) fun n0 hs0 r cs' ws hn0 hm0 hp hr hws => ?_
  · simp only [idsL_app, idsL, List.append_nil, List.nil_append, List.append_assoc, List.mem_append, cI, cReln, cS] at hq ⊢
    first | (simp [hq]; done) | (simp [D.ids] at hq ⊢; grind)
  obtain ⟨rfl, rfl⟩ := hp
  simp at hn0
  have hre0 : reL (phi ((dSl (cS cI) a.rows).ids) [dSl (cS cI) (mkS (mkS (mkI) (wtI)) (wtS wtI) a.rows (k))]) (cS (cS cI) a.rows) = some (cS (cS cI) (mkS (mkS (mkI) (wtI)) (wtS wtI) a.rows (k))) := by
    have := re_sim (sim_mk (marksS marksI) hw.2 (k)) ((marksS (marksS marksI)).ids _ _) nd1
    rw [idsL_cS] at this
    exact this
  replace hre0 := reVL_map hre0
  simp only [cI, cReln, cS, List.cons_append, List.nil_append, List.map_cons, List.map_nil, reVL_cons, reVL_nil, List.cons.injEq, and_true, reV_int, reV_str, true_and] at hre0
  simp [hre0, cI, cReln, cS]
  simp [vendX]
  refine ⟨[0], fun γ hs' h1 h2 => ?_⟩
  simp [isD, dD, hwt, mkTReln, cI, cReln, cS, reD]
  try omega
theorem w_laws_markTableS (a : Sl (Tab)) (k : Int) (h0 : 1 ≤ k) (h1 : k + wtS wtTab a ≤ 4611686018427387904) (hw : whS whTab a) (hl : okS okTab a) (hnd : (dSl cTab a).ids.Nodup) :
   VX Try.prog 55 (dSl cTab a).ids [.d (dSl cTab a), .d (.int .i64 k)] none (fun _ r _ ws => r = .d (.int .i64 (k + wtS wtTab a)) ∧ ws = [dSl cTab (mkS (mkTab) (wtTab) a k)]) := by
  refine VX.of E s55 (by kernel_rfl) Try.func55 (by rfl) (by kernel_rfl) (by simp [Try.f55]) (by simp [Try.f55]) s55_ok ?_ ?_ fun B hB => ?_
  · exact fun g hg => .inl (by simpa using hg)
  · exact fun cs h => nomatch h
  obtain ⟨id, T, xs⟩ := a
  have hl1 := hl.1
  simp only [maxLen] at hl1
  have hwt : wtS wtTab (⟨id, T, xs⟩ : Sl (Tab)) = sumW wtTab xs := rfl
  rw [hwt] at h1 ⊢
  simp [Try.f55]
  refine loop_rule (X := Nat) (fun i => i ≤ xs.length) (fun i => [(0, .d (dSl cTab ⟨id, T, mkAt mkTab wtTab xs k i⟩)), (1, .d (.int .i64 (k + sumW wtTab (xs.take i)))), (5, .d (.int .i64 i))]) (fun _ => []) (fun i => xs.length - i) 0 (by simp) (by simp) (by simp) ?_
  intro i hs t m hi hh
  by_cases hlt : i < xs.length
  · have hwi := wr1 (i := i) (by omega)
    have e1 := sumW_succ wtTab hlt
    have e2 := sumW_le wtTab xs (i + 1)
    have hmem : xs[i] ∈ xs := List.getElem_mem _
    have hwx : wtTab xs[i] = 1 + 1 + wtS (wtS wtI) xs[i].rel.rows := by simp only [wtI, wtReln, wtStr, wtTab] <;> omega
    obtain ⟨g, hg, T', hT⟩ := hw.1.id hlt
    simp only at hg hT
    subst hg hT
    have hnd2 := sl_nd hnd
    have hnn : g ∉ idsLL ((mkAt mkTab wtTab xs k i).map cTab) := by rw [ids_mkAt marksTab.ids]; exact hnd2.2 g rfl
    have hni : g ∉ idsL (cTab xs[i]) := fun hin => hnd2.2 g rfl (idsLL_map_mem.2 ⟨_, hmem, hin⟩)
    have hne := elem_nd hnd2.1 hlt
    have hni0 := hni
    have hne0 := hne
    have hap : ∀ W : List Nat, (∀ q ∈ W, q ∈ idsL (cTab xs[i])) → ∀ ws (j : Nat) (e : List D), j ≠ i → ((mkAt mkTab wtTab xs k i).map cTab)[j]? = some e → ∀ q ∈ idsL e, phi W ws q = none := by
      intro W hW ws
      exact nd_mapD (by rw [ids_mkAt marksTab.ids]; exact hnd2.1) (i := i) (by simpa using hlt) (by simpa using hW) ws
    simp only [cI, cReln, cS, cStr, cTab, idsL_app, idsL, D.ids, dSl, List.append_nil, List.nil_append, List.cons_append, List.mem_append, not_or, List.append_assoc] at hni hne
    simp [dSl, hlt]
    have hk0 : IntKind.i64.wrap (k + sumW wtTab (xs.take i) + 1) = k + sumW wtTab (xs.take i) + 1 := wrap64_of (by omega) (by omega)
    refine call_pure (w_laws_markText _ (by omega) (by omega)) rfl (by simp) rfl fun hs0 hh0 => ?_
    simp at hh0
    simp [dSl, hlt, cI, cReln, cS, cStr, cTab, hnn, nin_set hnn, idsL, D.ids, hni, hk0, hwi, ids_mk (wt := (wtS wtI)) (marksS marksI).ids]
    have hk1 : IntKind.i64.wrap (k + sumW wtTab (xs.take i) + 1 + 1) = k + sumW wtTab (xs.take i) + 1 + 1 := wrap64_of (by omega) (by omega)
    simp [dSl, hlt, cI, cReln, cS, cStr, cTab, hnn, nin_set hnn, idsL, D.ids, hni, hk1, hwi, ids_mk (wt := (wtS wtI)) (marksS marksI).ids]
    have hx2 : dSl (cS cI) xs[i].rel.rows ∈ cTab xs[i] := by simp [cI, cReln, cS, cStr, cTab]
    refine call_x (E77) (by simp [dSl]) (by simp) (by simp) (fun q hq => .inr ?_) (w_laws_markIntSS xs[i].rel.rows (k + sumW wtTab (xs.take i) + 1 + 1) (by omega) (by omega) ((hw.2 _ hmem).2.2) ((hl.2 _ hmem).2.2) (nd_mem hne0 hx2)) fun n2 hs2 r cs' ws hn2 hm2 hp hr hws => ?_
    · exact elem_ids (s := ⟨some g, some T', xs⟩) (c := cTab) (i := i) hlt (mem_idsL hx2 hq)
    obtain ⟨rfl, rfl⟩ := hp
    simp at hn2
    have hre2 : reL (phi (dSl (cS cI) xs[i].rel.rows).ids [dSl (cS cI) (mkS (mkS (mkI) (wtI)) (wtS wtI) xs[i].rel.rows (k + sumW wtTab (xs.take i) + 1 + 1))]) [D.str (mtext (k + sumW wtTab (xs.take i))), D.int .i64 (k + sumW wtTab (xs.take i) + 1), dSl (cS cI) xs[i].rel.rows] = some [D.str (mtext (k + sumW wtTab (xs.take i))), D.int .i64 (k + sumW wtTab (xs.take i) + 1), dSl (cS cI) (mkS (mkS (mkI) (wtI)) (wtS wtI) xs[i].rel.rows (k + sumW wtTab (xs.take i) + 1 + 1))] := reL_cons_iff.2 ⟨rfl, reL_cons_iff.2 ⟨rfl, reL_cons_iff.2 ⟨re_root (marksS marksI).len ((hw.2 _ hmem).2.2).1 (by simp) (fun g hg => mem_slids hg) [], rfl⟩⟩⟩
    have hse2 := re_elemD (g := g) (T := some T') (es := (mkAt mkTab wtTab xs k i).map cTab) (phi_out (W := (dSl (cS cI) xs[i].rel.rows).ids) (ws := [dSl (cS cI) (mkS (mkS (mkI) (wtI)) (wtS wtI) xs[i].rel.rows (k + sumW wtTab (xs.take i) + 1 + 1))]) (g := g) (fun h => hni0 (mem_idsL hx2 h))) hre2 (hap _ (fun q hq => mem_idsL hx2 hq) _)
    simp [dSl, cI, cReln, cS, cStr, cTab, mkS] at hse2 ⊢
    simp [hse2, hlt, hnn, nin_set hnn, idsL, D.ids, hni, hwi, mkS, ids_mk (wt := (wtS wtI)) (marksS marksI).ids]
    refine back (i + 1) (by omega) (by omega) rfl (by simp <;> omega) ?_ (by simp)
    simp [mkAt_succ hlt, e1, cI, cReln, cS, cStr, cTab, dSl]
    first
    | exact ⟨rfl, by omega⟩
    | (refine ⟨?_, by omega⟩; simp [mkI, mkReln, mkStr, mkTab, wtI, wtReln, wtStr, wtTab, mkS, Int.add_assoc, show ∀ x : Int, 1 + (1 + x) = 2 + x from fun x => by omega])
  · have hn : i = xs.length := by omega
    subst hn
    simp [dSl, vendX]
    refine ⟨[0], fun γ hs' h1 h2 => ?_⟩
    simp [mkS, mkAt_all]
theorem simT_Db {a : Db} (hw : whDb a) (k : Int) : Sim (cDb a) (cDb (mkTDb a k)) := sim_mk marksTab hw (k)
theorem w_laws_markDatabase (a : Db) (k : Int) (h0 : 1 ≤ k) (h1 : k + wtTDb a ≤ 4611686018427387904) (hw : whDb a) (hl : okDb a) (hnd : (idsL (cDb a)).Nodup) :
   VX Try.prog 15 (idsL (cDb a)) [.agg ((cDb a).map V.d), .d (.int .i64 k)] none (fun _ r _ ws => r = .d (.int .i64 (k + wtTDb a)) ∧ ws = cDb (mkTDb a k)) := by
  refine VX.of E s15 (by kernel_rfl) Try.func15 (by rfl) (by kernel_rfl) (by simp [Try.f15]) (by simp [Try.f15]) s15_ok ?_ ?_ fun B hB => ?_
  · exact fun g hg => .inl (by simpa [idsVL, V.ids, idsVL_map_d] using hg)
  · exact fun cs h => nomatch h
  have hwt : wtTDb a = wtS wtTab a.tabs := rfl
  have hnd0 := hnd
  simp only [cDb, idsL_app] at hnd0
  have nd0 : (idsL (cS cTab a.tabs)).Nodup := hnd0
  simp [Try.f15, cDb, cS]
  refine call_x (E55) (by simp) (by simp) (by simp) (fun q hq => .inr ?_) (w_laws_markTableS a.tabs (k) (by omega) (by omega) (hw) (hl) (by rw [← idsL_cS]; exact nd0)) fun n0 hs0 r cs' ws hn0 hm0 hp hr hws => ?_
  · simp only [idsL_app, idsL, List.append_nil, List.nil_append, List.append_assoc, List.mem_append, cDb, cS] at hq ⊢
    first | (simp [hq]; done) | (simp [D.ids] at hq ⊢; grind)
  obtain ⟨rfl, rfl⟩ := hp
  simp at hn0
  have hre0 : reL (phi ((dSl cTab a.tabs).ids) [dSl cTab (mkS (mkTab) (wtTab) a.tabs (k))]) (cS cTab a.tabs) = some (cS cTab (mkS (mkTab) (wtTab) a.tabs (k))) := by
    have := re_sim (sim_mk marksTab hw (k)) ((marksS marksTab).ids _ _) nd0
    rw [idsL_cS] at this
    exact this
  replace hre0 := reVL_map hre0
  simp only [cDb, cS, List.cons_append, List.nil_append, List.map_cons, List.map_nil, reVL_cons, reVL_nil, List.cons.injEq, and_true, reV_int, reV_str, true_and] at hre0
  simp [hre0, cDb, cS]
  simp [vendX]
  refine ⟨[0], fun γ hs' h1 h2 => ?_⟩
  simp [isD, dD, hwt, mkTDb, cDb, cS, reD]
  try omega
theorem simT_Delta {a : Delta} (hw : whDelta a) (k : Int) : Sim (cDelta a) (cDelta (mkTDelta a k)) := ((Sim.leaf (by simp [D.ids]) Sim.nil).app (simT_Reln hw.2.1 (k))).app (simT_Reln hw.2.2 (k + wtTReln a.ins))
theorem w_laws_markDelta (a : Delta) (k : Int) (h0 : 1 ≤ k) (h1 : k + wtTDelta a ≤ 4611686018427387904) (hw : whDelta a) (hl : okDelta a) (hnd : (idsL (cDelta a)).Nodup) :
   VX Try.prog 23 (idsL (cDelta a)) [.agg ((cDelta a).map V.d), .d (.int .i64 k)] none (fun _ r _ ws => r = .d (.int .i64 (k + wtTDelta a)) ∧ ws = cDelta (mkTDelta a k)) := by
  refine VX.of E s23 (by kernel_rfl) Try.func23 (by rfl) (by kernel_rfl) (by simp [Try.f23]) (by simp [Try.f23]) s23_ok ?_ ?_ fun B hB => ?_
  · exact fun g hg => .inl (by simpa [idsVL, V.ids, idsVL_map_d] using hg)
  · exact fun cs h => nomatch h
  have hwt : wtTDelta a = wtTReln a.ins + wtTReln a.del := rfl
  have hnd0 := hnd
  simp only [cDelta, idsL_app] at hnd0
  have nd0 : (idsL (cStr a.name)).Nodup := nd_left (nd_left (hnd0))
  have nd1 : (idsL (cReln a.ins)).Nodup := nd_right (nd_left (hnd0))
  have nd2 : (idsL (cReln a.del)).Nodup := nd_right (hnd0)
  have dj0_1 : ∀ g ∈ idsL (cStr a.name), g ∉ idsL (cReln a.ins) := fun g hg => nd_disj (nd_left (hnd0)) g (hg)
  have dj0_2 : ∀ g ∈ idsL (cStr a.name), g ∉ idsL (cReln a.del) := fun g hg => nd_disj (hnd0) g (List.mem_append_left _ (hg))
  have dj1_2 : ∀ g ∈ idsL (cReln a.ins), g ∉ idsL (cReln a.del) := fun g hg => nd_disj (hnd0) g (List.mem_append_right _ hg)
  simp [Try.f23, cDelta, cI, cReln, cS, cStr]
  refine call_x (E66) (by simp) (by simp) (by simp) (fun q hq => .inr ?_) (w_laws_markRelation a.ins (k) (by omega) (by omega) (hw.2.1) (hl.2.1) nd1) fun n0 hs0 r cs' ws hn0 hm0 hp hr hws => ?_
  · simp only [idsL_app, idsL, List.append_nil, List.nil_append, List.append_assoc, List.mem_append, cDelta, cI, cReln, cS, cStr] at hq ⊢
    first | (simp [hq]; done) | (simp [D.ids] at hq ⊢; grind)
  obtain ⟨rfl, rfl⟩ := hp
  simp at hn0
  have hre0 : reL (phi (idsL (cReln a.ins)) (cReln (mkTReln a.ins (k)))) (cReln a.ins) = some (cReln (mkTReln a.ins (k))) := re_sim (simT_Reln hw.2.1 (k)) (marksTReln.ids _ _) nd1
  have ho0_2 : reL (phi (idsL (cReln a.ins)) (cReln (mkTReln a.ins (k)))) (cReln a.del) = some (cReln a.del) := re_same fun g hg => by
    skip
    skip
    exact dj1_2 g hg
  replace hre0 := reVL_map hre0
  replace ho0_2 := reVL_map ho0_2
  simp only [cDelta, cI, cReln, cS, cStr, List.cons_append, List.nil_append, List.map_cons, List.map_nil, reVL_cons, reVL_nil, List.cons.injEq, and_true, reV_int, reV_str, true_and, mkTReln] at hre0 ho0_2
  simp [hre0, ho0_2, cDelta, cI, cReln, cS, cStr, mkTReln]
  refine call_x (E66) (by simp) (by simp) (by simp) (fun q hq => .inr ?_) (w_laws_markRelation a.del (k + wtTReln a.ins) (by omega) (by omega) (hw.2.2) (hl.2.2) nd2) fun n1 hs1 r cs' ws hn1 hm1 hp hr hws => ?_
  · simp only [idsL_app, idsL, List.append_nil, List.nil_append, List.append_assoc, List.mem_append, cDelta, cI, cReln, cS, cStr] at hq ⊢
    first | (simp [hq]; done) | (simp [D.ids] at hq ⊢; grind)
  obtain ⟨rfl, rfl⟩ := hp
  simp at hn1
  have hre1 : reL (phi (idsL (cReln a.del)) (cReln (mkTReln a.del (k + wtTReln a.ins)))) (cReln a.del) = some (cReln (mkTReln a.del (k + wtTReln a.ins))) := re_sim (simT_Reln hw.2.2 (k + wtTReln a.ins)) (marksTReln.ids _ _) nd2
  have ho1_1 : reL (phi (idsL (cReln a.del)) (cReln (mkTReln a.del (k + wtTReln a.ins)))) (cReln (mkTReln a.ins (k))) = some (cReln (mkTReln a.ins (k))) := re_same fun g hg => by
    skip
    rw [marksTReln.ids]
    exact (fun h => dj1_2 g h hg)
  replace hre1 := reVL_map hre1
  replace ho1_1 := reVL_map ho1_1
  simp only [cDelta, cI, cReln, cS, cStr, List.cons_append, List.nil_append, List.map_cons, List.map_nil, reVL_cons, reVL_nil, List.cons.injEq, and_true, reV_int, reV_str, true_and, mkTReln] at hre1 ho1_1
  simp [hre1, ho1_1, cDelta, cI, cReln, cS, cStr, mkTReln]
  simp [vendX]
  refine ⟨[0], fun γ hs' h1 h2 => ?_⟩
  simp [isD, dD, hwt, mkTDelta, mkTReln, cDelta, cI, cReln, cS, cStr, reD]
  try omega
theorem w_laws_markDeltaS (a : Sl (Delta)) (k : Int) (h0 : 1 ≤ k) (h1 : k + wtS wtDelta a ≤ 4611686018427387904) (hw : whS whDelta a) (hl : okS okDelta a) (hnd : (dSl cDelta a).ids.Nodup) :
   VX Try.prog 35 (dSl cDelta a).ids [.d (dSl cDelta a), .d (.int .i64 k)] none (fun _ r _ ws => r = .d (.int .i64 (k + wtS wtDelta a)) ∧ ws = [dSl cDelta (mkS (mkDelta) (wtDelta) a k)]) := by
  refine VX.of E s35 (by kernel_rfl) Try.func35 (by rfl) (by kernel_rfl) (by simp [Try.f35]) (by simp [Try.f35]) s35_ok ?_ ?_ fun B hB => ?_
  · exact fun g hg => .inl (by simpa using hg)
  · exact fun cs h => nomatch h
  obtain ⟨id, T, xs⟩ := a
  have hl1 := hl.1
  simp only [maxLen] at hl1
  have hwt : wtS wtDelta (⟨id, T, xs⟩ : Sl (Delta)) = sumW wtDelta xs := rfl
  rw [hwt] at h1 ⊢
  simp [Try.f35]
  refine loop_rule (X := Nat) (fun i => i ≤ xs.length) (fun i => [(0, .d (dSl cDelta ⟨id, T, mkAt mkDelta wtDelta xs k i⟩)), (1, .d (.int .i64 (k + sumW wtDelta (xs.take i)))), (5, .d (.int .i64 i))]) (fun _ => []) (fun i => xs.length - i) 0 (by simp) (by simp) (by simp) ?_
  intro i hs t m hi hh
  by_cases hlt : i < xs.length
  · have hwi := wr1 (i := i) (by omega)
    have e1 := sumW_succ wtDelta hlt
    have e2 := sumW_le wtDelta xs (i + 1)
    have hmem : xs[i] ∈ xs := List.getElem_mem _
    have hwx : wtDelta xs[i] = 1 + 1 + wtS (wtS wtI) xs[i].ins.rows + 1 + wtS (wtS wtI) xs[i].del.rows := by simp only [wtDelta, wtI, wtReln, wtStr] <;> omega
    obtain ⟨g, hg, T', hT⟩ := hw.1.id hlt
    simp only at hg hT
    subst hg hT
    have hnd2 := sl_nd hnd
    have hnn : g ∉ idsLL ((mkAt mkDelta wtDelta xs k i).map cDelta) := by rw [ids_mkAt marksDelta.ids]; exact hnd2.2 g rfl
    have hni : g ∉ idsL (cDelta xs[i]) := fun hin => hnd2.2 g rfl (idsLL_map_mem.2 ⟨_, hmem, hin⟩)
    have hne := elem_nd hnd2.1 hlt
    have hni0 := hni
    have hne0 := hne
    have hap : ∀ W : List Nat, (∀ q ∈ W, q ∈ idsL (cDelta xs[i])) → ∀ ws (j : Nat) (e : List D), j ≠ i → ((mkAt mkDelta wtDelta xs k i).map cDelta)[j]? = some e → ∀ q ∈ idsL e, phi W ws q = none := by
      intro W hW ws
      exact nd_mapD (by rw [ids_mkAt marksDelta.ids]; exact hnd2.1) (i := i) (by simpa using hlt) (by simpa using hW) ws
    simp only [cDelta, cI, cReln, cS, cStr, idsL_app, idsL, D.ids, dSl, List.append_nil, List.nil_append, List.cons_append, List.mem_append, not_or, List.append_assoc] at hni hne
    simp [dSl, hlt]
    have hk0 : IntKind.i64.wrap (k + sumW wtDelta (xs.take i) + 1) = k + sumW wtDelta (xs.take i) + 1 := wrap64_of (by omega) (by omega)
    refine call_pure (w_laws_markText _ (by omega) (by omega)) rfl (by simp) rfl fun hs0 hh0 => ?_
    simp at hh0
    simp [dSl, hlt, cDelta, cI, cReln, cS, cStr, hnn, nin_set hnn, idsL, D.ids, hni, hk0, hwi, ids_mk (wt := (wtS wtI)) (marksS marksI).ids]
    have hk1 : IntKind.i64.wrap (k + sumW wtDelta (xs.take i) + 1 + 1) = k + sumW wtDelta (xs.take i) + 1 + 1 := wrap64_of (by omega) (by omega)
    simp [dSl, hlt, cDelta, cI, cReln, cS, cStr, hnn, nin_set hnn, idsL, D.ids, hni, hk1, hwi, ids_mk (wt := (wtS wtI)) (marksS marksI).ids]
    have hx2 : dSl (cS cI) xs[i].ins.rows ∈ cDelta xs[i] := by simp [cDelta, cI, cReln, cS, cStr]
    refine call_x (E77) (by simp [dSl]) (by simp) (by simp) (fun q hq => .inr ?_) (w_laws_markIntSS xs[i].ins.rows (k + sumW wtDelta (xs.take i) + 1 + 1) (by omega) (by omega) ((hw.2 _ hmem).2.1.2) ((hl.2 _ hmem).2.1.2) (nd_mem hne0 hx2)) fun n2 hs2 r cs' ws hn2 hm2 hp hr hws => ?_
    · exact elem_ids (s := ⟨some g, some T', xs⟩) (c := cDelta) (i := i) hlt (mem_idsL hx2 hq)
    obtain ⟨rfl, rfl⟩ := hp
    simp at hn2
    have hre2 : reL (phi (dSl (cS cI) xs[i].ins.rows).ids [dSl (cS cI) (mkS (mkS (mkI) (wtI)) (wtS wtI) xs[i].ins.rows (k + sumW wtDelta (xs.take i) + 1 + 1))]) [D.str (mtext (k + sumW wtDelta (xs.take i))), D.int .i64 (k + sumW wtDelta (xs.take i) + 1), dSl (cS cI) xs[i].ins.rows, D.int .i64 xs[i].del.ar, dSl (cS cI) xs[i].del.rows] = some [D.str (mtext (k + sumW wtDelta (xs.take i))), D.int .i64 (k + sumW wtDelta (xs.take i) + 1), dSl (cS cI) (mkS (mkS (mkI) (wtI)) (wtS wtI) xs[i].ins.rows (k + sumW wtDelta (xs.take i) + 1 + 1)), D.int .i64 xs[i].del.ar, dSl (cS cI) xs[i].del.rows] := reL_cons_iff.2 ⟨rfl, reL_cons_iff.2 ⟨rfl, reL_cons_iff.2 ⟨re_root (marksS marksI).len ((hw.2 _ hmem).2.1.2).1 (by simp) (fun g hg => mem_slids hg) [], reL_cons_iff.2 ⟨rfl, reL_cons_iff.2 ⟨reD_id _ (fun g hg => phi_out fun hin => by exact nd_pair hne0 (by simp [cDelta, cI, cReln, cS, cStr] : (cDelta xs[i])[2]? = some _) (by simp [cDelta, cI, cReln, cS, cStr] : (cDelta xs[i])[4]? = some _) (by omega) g hin hg), rfl⟩⟩⟩⟩⟩
    have hse2 := re_elemD (g := g) (T := some T') (es := (mkAt mkDelta wtDelta xs k i).map cDelta) (phi_out (W := (dSl (cS cI) xs[i].ins.rows).ids) (ws := [dSl (cS cI) (mkS (mkS (mkI) (wtI)) (wtS wtI) xs[i].ins.rows (k + sumW wtDelta (xs.take i) + 1 + 1))]) (g := g) (fun h => hni0 (mem_idsL hx2 h))) hre2 (hap _ (fun q hq => mem_idsL hx2 hq) _)
    simp [dSl, cDelta, cI, cReln, cS, cStr, mkS] at hse2 ⊢
    simp [hse2, hlt, hnn, nin_set hnn, idsL, D.ids, hni, hwi, mkS, ids_mk (wt := (wtS wtI)) (marksS marksI).ids]
    have hk3 : IntKind.i64.wrap (k + sumW wtDelta (xs.take i) + 1 + 1 + wtS (wtS wtI) xs[i].ins.rows + 1) = k + sumW wtDelta (xs.take i) + 1 + 1 + wtS (wtS wtI) xs[i].ins.rows + 1 := wrap64_of (by omega) (by omega)
    simp [dSl, hlt, cDelta, cI, cReln, cS, cStr, hnn, nin_set hnn, idsL, D.ids, hni, hk3, hwi, ids_mk (wt := (wtS wtI)) (marksS marksI).ids]
    have hx4 : dSl (cS cI) xs[i].del.rows ∈ cDelta xs[i] := by simp [cDelta, cI, cReln, cS, cStr]
    refine call_x (E77) (by simp [dSl]) (by simp) (by simp) (fun q hq => .inr ?_) (w_laws_markIntSS xs[i].del.rows (k + sumW wtDelta (xs.take i) + 1 + 1 + wtS (wtS wtI) xs[i].ins.rows + 1) (by omega) (by omega) ((hw.2 _ hmem).2.2.2) ((hl.2 _ hmem).2.2.2) (nd_mem hne0 hx4)) fun n4 hs4 r cs' ws hn4 hm4 hp hr hws => ?_
    · exact elem_ids (s := ⟨some g, some T', xs⟩) (c := cDelta) (i := i) hlt (mem_idsL hx4 hq)
    obtain ⟨rfl, rfl⟩ := hp
    simp at hn4
    have hre4 : reL (phi (dSl (cS cI) xs[i].del.rows).ids [dSl (cS cI) (mkS (mkS (mkI) (wtI)) (wtS wtI) xs[i].del.rows (k + sumW wtDelta (xs.take i) + 1 + 1 + wtS (wtS wtI) xs[i].ins.rows + 1))]) [D.str (mtext (k + sumW wtDelta (xs.take i))), D.int .i64 (k + sumW wtDelta (xs.take i) + 1), dSl (cS cI) (mkS (mkS (mkI) (wtI)) (wtS wtI) xs[i].ins.rows (k + sumW wtDelta (xs.take i) + 1 + 1)), D.int .i64 (k + sumW wtDelta (xs.take i) + 1 + 1 + wtS (wtS wtI) xs[i].ins.rows), dSl (cS cI) xs[i].del.rows] = some [D.str (mtext (k + sumW wtDelta (xs.take i))), D.int .i64 (k + sumW wtDelta (xs.take i) + 1), dSl (cS cI) (mkS (mkS (mkI) (wtI)) (wtS wtI) xs[i].ins.rows (k + sumW wtDelta (xs.take i) + 1 + 1)), D.int .i64 (k + sumW wtDelta (xs.take i) + 1 + 1 + wtS (wtS wtI) xs[i].ins.rows), dSl (cS cI) (mkS (mkS (mkI) (wtI)) (wtS wtI) xs[i].del.rows (k + sumW wtDelta (xs.take i) + 1 + 1 + wtS (wtS wtI) xs[i].ins.rows + 1))] := reL_cons_iff.2 ⟨rfl, reL_cons_iff.2 ⟨rfl, reL_cons_iff.2 ⟨reD_id _ (fun g hg => phi_out fun hin => by rw [ids_mkS (marksS marksI)] at hg; exact nd_pair hne0 (by simp [cDelta, cI, cReln, cS, cStr] : (cDelta xs[i])[2]? = some _) (by simp [cDelta, cI, cReln, cS, cStr] : (cDelta xs[i])[4]? = some _) (by omega) g hg hin), reL_cons_iff.2 ⟨rfl, reL_cons_iff.2 ⟨re_root (marksS marksI).len ((hw.2 _ hmem).2.2.2).1 (by simp) (fun g hg => mem_slids hg) [], rfl⟩⟩⟩⟩⟩
    have hse4 := re_elemD (g := g) (T := some T') (es := (mkAt mkDelta wtDelta xs k i).map cDelta) (phi_out (W := (dSl (cS cI) xs[i].del.rows).ids) (ws := [dSl (cS cI) (mkS (mkS (mkI) (wtI)) (wtS wtI) xs[i].del.rows (k + sumW wtDelta (xs.take i) + 1 + 1 + wtS (wtS wtI) xs[i].ins.rows + 1))]) (g := g) (fun h => hni0 (mem_idsL hx4 h))) hre4 (hap _ (fun q hq => mem_idsL hx4 hq) _)
    simp [dSl, cDelta, cI, cReln, cS, cStr, mkS] at hse4 ⊢
    simp [hse4, hlt, hnn, nin_set hnn, idsL, D.ids, hni, hwi, mkS, ids_mk (wt := (wtS wtI)) (marksS marksI).ids]
    refine back (i + 1) (by omega) (by omega) rfl (by simp <;> omega) ?_ (by simp)
    simp [mkAt_succ hlt, e1, cDelta, cI, cReln, cS, cStr, dSl]
    first
    | exact ⟨rfl, by omega⟩
    | (refine ⟨?_, by omega⟩; simp [mkDelta, mkI, mkReln, mkStr, wtDelta, wtI, wtReln, wtStr, mkS, Int.add_assoc, show ∀ x : Int, 1 + (1 + x) = 2 + x from fun x => by omega])
  · have hn : i = xs.length := by omega
    subst hn
    simp [dSl, vendX]
    refine ⟨[0], fun γ hs' h1 h2 => ?_⟩
    simp [mkS, mkAt_all]

end Go.Proofs.Ytfpohhabemnnfaa

namespace Go.Proofs.Ytfpohhabemnnfaa
open Go.Vs Go.Proofs Go
set_option maxRecDepth 100000
set_option maxHeartbeats 1000000

attribute [simp] plI_id plStr_id map_plI map_plStr pS cP cI cStr cU8 cB
theorem w_impl_within (n lo hi : Int) : VC Try.prog 49 [.d (.int .i64 n), .d (.int .i64 lo), .d (.int .i64 hi)] (fun _ r => r = .d (.bool (inR n lo hi))) := by
  refine VC.ofL EP s49 (by kernel_rfl) Try.func49 (by rfl) (by kernel_rfl) (by simp [Try.f49]) (by simp [Try.f49]) s49_ok fun B hl => ?_
  by_cases h : lo ≤ n
  · simp [Try.f49, inR, h]
  · simp [Try.f49, inR, h]
theorem w_spec_l1In (n lo hi : Int) : VC Try.prog 41 [.d (.int .i64 n), .d (.int .i64 lo), .d (.int .i64 hi)] (fun _ r => r = .d (.bool (inR n lo hi))) := by
  refine VC.ofL EP s41 (by kernel_rfl) Try.func41 (by rfl) (by kernel_rfl) (by simp [Try.f41]) (by simp [Try.f41]) s41_ok fun B hl => ?_
  by_cases h : lo ≤ n
  · simp [Try.f41, inR, h]
  · simp [Try.f41, inR, h]
theorem w_impl_AreValidValues (xs : List Int) : VC Try.prog 112 [.d (pS cI xs)] (fun _ r => r = .d (.bool (valsOk xs))) := by
  refine VC.ofL EP s112 (by kernel_rfl) Try.func112 (by rfl) (by kernel_rfl) (by simp [Try.f112]) (by simp [Try.f112]) s112_ok fun B hl => ?_
  simp [pS, maxLen] at hl
  simp [Try.f112, pS]
  refine loop_rule (X := Nat) (fun i => i ≤ xs.length ∧ (xs.take i).all (fun v => inR v 0 99) = true) (fun i => [(5, .d (.pl (xs.map cI))), (6, .d (.int .i64 xs.length)), (7, .d (.int .i64 i))]) (fun _ => []) (fun i => xs.length - i) 0 (by simp) (by simp) (by simp) ?_
  intro i hs t m hi hh
  by_cases hlt : i < xs.length
  · have hwi := wr1 (i := i) (by omega)
    have hst := all_step (p := fun v => inR v 0 99) hlt
    rw [hi.2, Bool.true_and] at hst
    have hbad : inR xs[i] 0 99 = false → valsOk xs = false := all_bad (p := fun v => inR v 0 99) hlt
    simp [hlt, cI]
    refine call_f (w_impl_within xs[i] 0 99) (by simp) rfl fun hs1 hh1 => ?_
    cases hc : inR xs[i] 0 99
    · simp [hbad hc]
    · simp [hwi]
      simp at hh1
      exact back (i + 1) ⟨by omega, List.all_eq_true.1 (hst.trans hc)⟩ (by omega) rfl (by simp <;> omega) (by simp) (by simp)
  · have hd : valsOk xs = true := all_done (by omega) hi.2
    simp [hlt, hd]

end Go.Proofs.Ytfpohhabemnnfaa

namespace Go.Proofs.Ytfpohhabemnnfaa
open Go.Vs Go.Proofs Go
set_option maxRecDepth 100000
set_option maxHeartbeats 1000000

theorem w_spec_AreValidValues (xs : List Int) : VC Try.prog 103 [.d (pS cI xs)] (fun _ r => r = .d (.bool (valsOk xs))) := by
  refine VC.ofL EP s103 (by kernel_rfl) Try.func103 (by rfl) (by kernel_rfl) (by simp [Try.f103]) (by simp [Try.f103]) s103_ok fun B hl => ?_
  simp [pS, maxLen] at hl
  simp [Try.f103, pS]
  refine loop_rule (X := Nat) (fun i => i ≤ xs.length ∧ (xs.take i).all (fun v => inR v 0 99) = true) (fun i => [(0, .d (.pl (xs.map cI))), (3, .d (.int .i64 i))]) (fun _ => []) (fun i => xs.length - i) 0 (by simp) (by simp) (by simp) ?_
  intro i hs t m hi hh
  by_cases hlt : i < xs.length
  · have hwi := wr1 (i := i) (by omega)
    have hst := all_step (p := fun v => inR v 0 99) hlt
    rw [hi.2, Bool.true_and] at hst
    have hbad : inR xs[i] 0 99 = false → valsOk xs = false := all_bad (p := fun v => inR v 0 99) hlt
    simp [hlt, cI]
    refine call_f (w_spec_l1In xs[i] 0 99) (by simp) rfl fun hs1 hh1 => ?_
    simp at hh1
    cases hc : inR xs[i] 0 99
    · simp [hbad hc]
    · simp [hwi]
      exact back (i + 1) ⟨by omega, List.all_eq_true.1 (hst.trans hc)⟩ (by omega) rfl (by simp <;> omega) (by simp) (by simp)
  · have hd : valsOk xs = true := all_done (by omega) hi.2
    simp [hlt, hd]
theorem w_spec_CompareRows (a b : List Int) : VC Try.prog 104 [.d (pS cI a), .d (pS cI b)] (fun _ r => r = .d (.int .i64 (cmpL a b))) := by
  refine VC.ofL EP s104 (by kernel_rfl) Try.func104 (by rfl) (by kernel_rfl) (by simp [Try.f104]) (by simp [Try.f104]) s104_ok fun B hl => ?_
  simp [pS, maxLen, cI] at hl
  simp [Try.f104, s104_4, s104_6, pS]
  refine loop_rule (X := Nat) (fun i => i ≤ a.length ∧ i ≤ b.length ∧ cmpL a b = cmpL (a.drop i) (b.drop i)) (fun i => [(0, .d (.pl (a.map cI))), (1, .d (.pl (b.map cI))), (5, .d (.int .i64 i))]) (fun _ => []) (fun i => a.length - i) 0 (by simp) (by simp) (by simp) ?_
  intro i hs t m hi hh
  by_cases hlt : i < a.length
  · by_cases hlb : i < b.length
    · have hwi := wr1 (i := i) (by omega)
      have hc := cmpL_drop hlt hlb
      rw [← hi.2.2] at hc
      by_cases h1 : a[i] < b[i]
      · simp [cI, s104_4, s104_6, hlt, hlb, h1, hc]
      · by_cases h2 : b[i] < a[i]
        · simp [cI, s104_4, s104_6, hlt, hlb, h1, h2, hc]
        · simp only [h1, h2, if_false] at hc
          simp [cI, s104_4, s104_6, hlt, hlb, h1, h2, hwi]
          exact back (i + 1) ⟨by omega, by omega, hc⟩ (by omega) rfl (by simp) (by simp) (by simp)
    · have he := cmpL_end hi.1 hi.2.1 (by omega)
      rw [← hi.2.2] at he
      by_cases h1 : a.length < b.length
      · simp [hlt, hlb, h1, he]
      · by_cases h2 : b.length < a.length <;> simp [hlt, hlb, h1, h2, he]
  · have he := cmpL_end hi.1 hi.2.1 (by omega)
    rw [← hi.2.2] at he
    by_cases h1 : a.length < b.length
    · simp [hlt, h1, he]
    · by_cases h2 : b.length < a.length <;> simp [hlt, h1, h2, he]
theorem w_impl_compareInts (x y : Int) : VC Try.prog 114 [.d (.int .i64 x), .d (.int .i64 y)] (fun _ r => r = .d (.int .i64 (if x < y then -1 else if y < x then 1 else 0))) := by
  refine VC.ofL EP s114 (by kernel_rfl) Try.func114 (by rfl) (by kernel_rfl) (by simp [Try.f114]) (by simp [Try.f114]) s114_ok fun B hl => ?_
  by_cases h1 : x < y
  · simp [Try.f114, h1]
  · by_cases h2 : y < x <;> simp [Try.f114, h1, h2]
theorem w_impl_CompareRows (a b : List Int) : VC Try.prog 109 [.d (pS cI a), .d (pS cI b)] (fun _ r => r = .d (.int .i64 (cmpL a b))) := by
  refine VC.ofL EP s109 (by kernel_rfl) Try.func109 (by rfl) (by kernel_rfl) (by simp [Try.f109]) (by simp [Try.f109]) s109_ok fun B hl => ?_
  simp [pS, maxLen, cI] at hl
  simp [Try.f109, s109_4, s109_5, pS]
  refine loop_rule (X := Nat) (fun i => i ≤ a.length ∧ i ≤ b.length ∧ cmpL a b = cmpL (a.drop i) (b.drop i)) (fun i => [(0, .d (.pl (a.map cI))), (1, .d (.pl (b.map cI))), (5, .d (.int .i64 i))]) (fun _ => []) (fun i => a.length - i) 0 (by simp) (by simp) (by simp) ?_
  intro i hs t m hi hh
  by_cases hlt : i < a.length ∧ i < b.length
  · obtain ⟨hlt, hlb⟩ := hlt
    have hwi := wr1 (i := i) (by omega)
    have hc := cmpL_drop hlt hlb
    rw [← hi.2.2] at hc
    by_cases he : a[i] = b[i]
    · rw [if_neg (by omega), if_neg (by omega)] at hc
      simp [cI, s109_4, s109_5, hlt, hlb, hwi, he]
      exact back (i + 1) ⟨by omega, by omega, hc⟩ (by omega) rfl (by simp) (by simp) (by simp)
    · simp [cI, s109_4, s109_5, hlt, hlb, hwi, he]
      refine call_f (w_impl_compareInts a[i] b[i]) (by simp) rfl fun hs1 hh1 => ?_
      have : (if a[i] < b[i] then (-1 : Int) else if b[i] < a[i] then 1 else 0) = cmpL a b := by rw [hc]; by_cases h1 : a[i] < b[i] <;> simp [h1]; omega
      simp [this]
  · have he := cmpL_end hi.1 hi.2.1 hlt
    rw [← hi.2.2] at he
    have hcm : (if (a.length : Int) < b.length then (-1 : Int) else if (b.length : Int) < a.length then 1 else 0) = cmpL a b := by rw [he]; simp
    by_cases hl1 : i < a.length
    · have hl2 : ¬ i < b.length := fun h => hlt ⟨hl1, h⟩
      simp [hl1, hl2]
      refine call_f (w_impl_compareInts a.length b.length) (by simp) rfl fun hs1 hh1 => ?_
      simp only [hcm]
      simp
    · simp [hl1]
      refine call_f (w_impl_compareInts a.length b.length) (by simp) rfl fun hs1 hh1 => ?_
      simp only [hcm]
      simp

end Go.Proofs.Ytfpohhabemnnfaa

namespace Go.Proofs.Ytfpohhabemnnfaa
open Go.Vs Go.Proofs Go
set_option maxRecDepth 100000
set_option maxHeartbeats 1000000

theorem w_impl_rowsValid (ar : Int) (l : List (List Int)) : VC Try.prog 106 [.d (.int .i64 ar), .d (pS (cP cI) l)] (fun _ r => r = .d (.bool (rowsOk ar l))) := by
  refine VC.ofL EP s106 (by kernel_rfl) Try.func106 (by rfl) (by kernel_rfl) (by simp [Try.f106]) (by simp [Try.f106]) s106_ok fun B hl => ?_
  simp [pS, cP, cI, maxLen] at hl
  simp [Try.f106, pS]
  refine call_f (w_impl_within ar 0 5) (by simp) rfl fun hs0 hh0 => ?_
  simp at hh0
  cases h1 : inR ar 0 5
  · simp [rowsOk, h1]
  by_cases h2 : (4000 : Int) < l.length
  · simp [rowsOk, h2, show ¬ l.length ≤ 4000 by omega]
  have h2' : l.length ≤ 4000 := by omega
  simp [h2]
  refine loop_rule (X := Nat) (fun i => i ≤ l.length ∧ ∀ j, j < i → rowOk ar l j = true) (fun i => [(0, .d (.int .i64 ar)), (1, .d (.pl (l.map (cP cI)))), (15, .d (.pl (l.map (cP cI)))), (16, .d (.int .i64 l.length)), (17, .d (.int .i64 i))]) (fun _ => []) (fun i => l.length - i) 0 (by simp) (by simp) (by simp) ?_
  intro i hs t m hi hh
  by_cases hlt : i < l.length
  · have hwi := wr1 (i := i) (by omega)
    have hr : rowOk ar l i = (decide ((l[i].length : Int) = ar) && valsOk l[i] && (i == 0 || decide (cmpL (l.getD (i - 1) []) l[i] < 0))) := by simp [rowOk, hlt]
    have hbad := fun h => rows_bad (ar := ar) hlt h
    have step : rowOk ar l i = true → ∀ j, j < i + 1 → rowOk ar l j = true := fun h j hj => by
      rcases Nat.lt_succ_iff_lt_or_eq.1 hj with h' | h'
      · exact hi.2 j h'
      · rw [h']; exact h
    by_cases c1 : (l[i].length : Int) = ar
    case neg => simp [hlt, cP, pS, c1, hbad (by rw [hr]; simp [c1])]
    simp [hlt, cP, pS, c1]
    refine call_f (w_impl_AreValidValues l[i]) (by simp [pS]) rfl fun hs1 hh1 => ?_
    simp at hh1
    cases c2 : valsOk l[i]
    · simp [hbad (by rw [hr]; simp [c2])]
    by_cases c3 : i = 0
    · subst c3
      simp [hwi, show IntKind.i64.wrap 1 = 1 by decide]
      exact back 1 ⟨by omega, step (by rw [hr]; simp [c1, c2])⟩ (by omega) rfl (by simp <;> omega) (by simp [cP, pS, show IntKind.i64.wrap 1 = 1 by decide]) (by simp)
    · have hw1 : IntKind.i64.wrap ((i : Int) - 1) = ((i - 1 : Nat) : Int) := by rw [wrap64_of (by omega) (by omega)]; omega
      have hip : (0 : Int) < i := by omega
      have hlt1 : i - 1 < l.length := by omega
      have hg1 : l.getD (i - 1) [] = l[i - 1] := by simp [hlt1]
      rw [hg1] at hr
      simp [hip, hw1, hlt1, cP, pS, c3, show 0 < i by omega]
      refine call_f (w_impl_CompareRows l[i - 1] l[i]) (by simp [pS]) rfl fun hs2 hh2 => ?_
      simp at hh2
      by_cases c4 : cmpL l[i - 1] l[i] < 0
      · simp [hwi, show ¬ 0 ≤ cmpL l[i - 1] l[i] by omega]
        exact back (i + 1) ⟨by omega, step (by rw [hr]; simp [c1, c2, c4])⟩ (by omega) rfl (by simp <;> omega) (by simp [cP, pS]) (by simp)
      · simp [show 0 ≤ cmpL l[i - 1] l[i] by omega, hbad (by rw [hr]; simp [c3, c4])]
  · have hn : i = l.length := by omega
    have hd := rows_done h1 h2' (hn ▸ hi.2)
    simp [hlt, hd]
theorem w_impl_IsValidRelation (r : PReln) : VC Try.prog 87 [.agg ((eReln r).map .d)] (fun _ v => v = .d (.bool (rowsOk r.ar r.rows))) := by
  refine VC.ofL EP s87 (by kernel_rfl) Try.func87 (by rfl) (by kernel_rfl) (by simp [Try.f87]) (by simp [Try.f87]) s87_ok fun B hl => ?_
  simp [Try.f87, eReln, cI, cP]
  refine call_f (w_impl_rowsValid r.ar r.rows) (by simp [pS, cP]) rfl fun hs0 hh0 => ?_
  simp
theorem w_spec_IsValidRelation (r : PReln) : VC Try.prog 83 [.agg ((eReln r).map .d)] (fun _ v => v = .d (.bool (rowsOk r.ar r.rows))) := by
  obtain ⟨ar, l⟩ := r
  refine VC.ofL EP s83 (by kernel_rfl) Try.func83 (by rfl) (by kernel_rfl) (by simp [Try.f83]) (by simp [Try.f83]) s83_ok fun B hl => ?_
  simp [eReln, pS, cP, cI, maxLen] at hl
  simp [Try.f83, s83_6, eReln, cI, cP, pS]
  refine call_f (w_spec_l1In ar 0 5) (by simp) rfl fun hs0 hh0 => ?_
  simp at hh0
  cases h1 : inR ar 0 5
  · simp [rowsOk, h1]
  by_cases h2 : (4000 : Int) < l.length
  · simp [rowsOk, h2, show ¬ l.length ≤ 4000 by omega]
  have h2' : l.length ≤ 4000 := by omega
  simp [h2]
  refine loop_rule (X := Nat) (fun i => i ≤ l.length ∧ ∀ j, j < i → rowOk ar l j = true) (fun i => [(1, .ptr 1 0 0), (3, .d (.int .i64 i))]) (fun _ => [(1, some (.box [.d (.int .i64 ar), .d (.pl (l.map fun xs => [.pl (xs.map cI)]))]))]) (fun i => l.length - i) 0 (by simp) (by simp) (by simp [cI, cP, pS]) ?_
  intro i hs t m hi hh
  by_cases hlt : i < l.length
  · have hwi := wr1 (i := i) (by omega)
    have hr : rowOk ar l i = (decide ((l[i].length : Int) = ar) && valsOk l[i] && (i == 0 || decide (cmpL (l.getD (i - 1) []) l[i] < 0))) := by simp [rowOk, hlt]
    have hbad := fun h => rows_bad (ar := ar) hlt h
    have step : rowOk ar l i = true → ∀ j, j < i + 1 → rowOk ar l j = true := fun h j hj => by
      rcases Nat.lt_succ_iff_lt_or_eq.1 hj with h' | h'
      · exact hi.2 j h'
      · rw [h']; exact h
    by_cases c1 : (l[i].length : Int) = ar
    case neg => simp [hlt, s83_6, c1, hbad (by rw [hr]; simp [c1])]
    simp [hlt, s83_6, c1]
    refine call_f (w_spec_AreValidValues l[i]) (by simp [pS]) rfl fun hs1 hh1 => ?_
    simp at hh1
    cases c2 : valsOk l[i]
    · simp [hbad (by rw [hr]; simp [c2])]
    by_cases c3 : i = 0
    · subst c3
      simp [hwi, show IntKind.i64.wrap 1 = 1 by decide]
      exact back 1 ⟨by omega, step (by rw [hr]; simp [c1, c2])⟩ (by omega) rfl (by simp <;> omega) (by simp [show IntKind.i64.wrap 1 = 1 by decide]) (by simp)
    · have hw1 : IntKind.i64.wrap ((i : Int) - 1) = ((i - 1 : Nat) : Int) := by rw [wrap64_of (by omega) (by omega)]; omega
      have hip : (0 : Int) < i := by omega
      have hlt1 : i - 1 < l.length := by omega
      have hg1 : l.getD (i - 1) [] = l[i - 1] := by simp [hlt1]
      rw [hg1] at hr
      simp [hip, hw1, hlt1, hlt, c3, show 0 < i by omega]
      refine call_f (w_spec_CompareRows l[i - 1] l[i]) (by simp [pS]) rfl fun hs2 hh2 => ?_
      simp at hh2
      by_cases c4 : cmpL l[i - 1] l[i] < 0
      · simp [hwi, show ¬ 0 ≤ cmpL l[i - 1] l[i] by omega]
        exact back (i + 1) ⟨by omega, step (by rw [hr]; simp [c1, c2, c4])⟩ (by omega) rfl (by simp <;> omega) (by simp) (by simp)
      · simp [show 0 ≤ cmpL l[i - 1] l[i] by omega, hbad (by rw [hr]; simp [c3, c4])]
  · have hn : i = l.length := by omega
    have hd := rows_done h1 h2' (hn ▸ hi.2)
    simp [hlt, hd]

end Go.Proofs.Ytfpohhabemnnfaa

namespace Go.Proofs.Ytfpohhabemnnfaa
open Go.Vs Go.Proofs Go
set_option maxRecDepth 100000
set_option maxHeartbeats 1000000

theorem w_impl_place (l : List (List Int)) (row : List Int) (hb : l.length ≤ 4294967296) : VC Try.prog 95 [.d (pS (cP cI) l), .d (pS cI row)] (fun _ v => v = .tup [.d (.int .i64 (placeK l row)), .d (.bool (placeB l row))]) := by
  refine VC.ofL EP s95 (by kernel_rfl) Try.func95 (by rfl) (by kernel_rfl) (by simp [Try.f95]) (by simp [Try.f95]) s95_ok fun B hl => ?_
  simp [pS, cP, cI, maxLen] at hl
  simp [Try.f95, pS]
  refine loop_rule (X := Nat × Nat) (fun p => p.1 ≤ p.2 ∧ p.2 ≤ l.length ∧ bs l row p.1 p.2 = placeK l row) (fun p => [(0, .d (.pl (l.map (cP cI)))), (1, .d (.pl (row.map cI))), (6, .d (.int .i64 p.1)), (7, .d (.int .i64 p.2))]) (fun _ => []) (fun p => p.2 - p.1) (0, l.length) (by simp; rfl) (by simp) (by simp) ?_
  rintro ⟨lo, hi⟩ hs t m ⟨h1, h2, h3⟩ hh
  simp only at h1 h2 h3
  by_cases hlt : lo < hi
  · rw [bs_lt hlt] at h3
    have hm := mid64 (a := lo) (b := hi) (by omega) (by omega)
    have hml : (lo + hi) / 2 < l.length := by omega
    have hk1 : lo ≤ (lo + hi) / 2 ∧ (lo + hi) / 2 < hi := by omega
    generalize (lo + hi) / 2 = k at *
    have hg : l.getD k [] = l[k] := by simp [hml]
    simp [hlt, hm, hml, cP, pS]
    refine call_f (w_impl_CompareRows l[k] row) (by simp [pS]) rfl fun hs1 hh1 => ?_
    simp at hh1
    rw [hg] at h3
    by_cases hc : cmpL l[k] row < 0
    · rw [if_pos hc] at h3
      have hw := wr1 (i := k) (by omega)
      simp [hc, hw]
      exact back (k + 1, hi) ⟨by simp; omega, h2, h3⟩ (by simp; omega) rfl (by simp <;> omega) (by simp [cP, pS]) (by simp)
    · rw [if_neg hc] at h3
      simp [hc]
      exact back (lo, k) ⟨by simp; omega, by simp; omega, h3⟩ (by simp; omega) rfl (by simp <;> omega) (by simp [cP, pS]) (by simp)
  · rw [bs_ge hlt] at h3
    subst h3
    by_cases hk : placeK l row < l.length
    · simp [hlt, hk, cP, pS]
      refine call_f (w_impl_CompareRows l[placeK l row] row) (by simp [pS]) rfl fun hs1 hh1 => ?_
      simp [placeB, hk]
    · simp [hlt, hk, placeB]
theorem w_spec_l5Place (r : PReln) (row : List Int) (hb : r.rows.length ≤ 4294967296) : VC Try.prog 93 [.agg ((eReln r).map .d), .d (pS cI row)] (fun _ v => v = .tup [.d (.int .i64 (placeK r.rows row)), .d (.bool (placeB r.rows row))]) := by
  obtain ⟨ar, l⟩ := r
  simp only at hb ⊢
  refine VC.ofL EP s93 (by kernel_rfl) Try.func93 (by rfl) (by kernel_rfl) (by simp [Try.f93]) (by simp [Try.f93]) s93_ok fun B hl => ?_
  simp [eReln, pS, cP, cI, maxLen] at hl
  simp [Try.f93, eReln, cI, cP, pS]
  refine loop_rule (X := Nat × Nat) (fun p => p.1 ≤ p.2 ∧ p.2 ≤ l.length ∧ bs l row p.1 p.2 = placeK l row) (fun p => [(2, .ptr 2 0 0), (1, .d (.pl (row.map cI))), (6, .d (.int .i64 p.1)), (7, .d (.int .i64 p.2))]) (fun _ => [(2, some (.box [.d (.int .i64 ar), .d (.pl (l.map (cP cI)))]))]) (fun p => p.2 - p.1) (0, l.length) (by simp; rfl) (by simp [cI]) (by simp [cP, pS, cI]) ?_
  rintro ⟨lo, hi⟩ hs t m ⟨h1, h2, h3⟩ hh
  simp only at h1 h2 h3
  by_cases hlt : lo < hi
  · rw [bs_lt hlt] at h3
    have hm := mid64 (a := lo) (b := hi) (by omega) (by omega)
    have hml : (lo + hi) / 2 < l.length := by omega
    have hk1 : lo ≤ (lo + hi) / 2 ∧ (lo + hi) / 2 < hi := by omega
    generalize (lo + hi) / 2 = k at *
    have hg : l.getD k [] = l[k] := by simp [hml]
    simp [hlt, hm, hml, cP, pS]
    refine call_f (w_spec_CompareRows l[k] row) (by simp [pS]) rfl fun hs1 hh1 => ?_
    simp at hh1
    rw [hg] at h3
    by_cases hc : cmpL l[k] row < 0
    · rw [if_pos hc] at h3
      have hw := wr1 (i := k) (by omega)
      simp [hc, hw]
      exact back (k + 1, hi) ⟨by simp; omega, h2, h3⟩ (by simp; omega) rfl (by simp <;> omega) (by simp [cP, pS]) (by simp [cP, pS])
    · rw [if_neg hc] at h3
      simp [hc]
      exact back (lo, k) ⟨by simp; omega, by simp; omega, h3⟩ (by simp; omega) rfl (by simp <;> omega) (by simp [cP, pS]) (by simp [cP, pS])
  · rw [bs_ge hlt] at h3
    subst h3
    by_cases hk : placeK l row < l.length
    · simp [hlt, hk, cP, pS]
      refine call_f (w_spec_CompareRows l[placeK l row] row) (by simp [pS]) rfl fun hs1 hh1 => ?_
      simp [placeB, hk]
    · simp [hlt, hk, placeB]

end Go.Proofs.Ytfpohhabemnnfaa

namespace Go.Proofs.Ytfpohhabemnnfaa
open Go.Vs Go.Proofs Go
set_option maxRecDepth 100000
set_option maxHeartbeats 1000000

section
attribute [local simp] plI_id plStr_id map_plI map_plStr pS cP cI cStr cU8 cB
theorem w_impl_join (l : List (List UInt8)) (sep : List UInt8) (hw : strW sep.length l ≤ 4611686018427387904) : VC Try.prog 89 [.d (pS cStr l), .d (.str sep)] (fun _ r => r = .d (.str (joinB sep l))) := by
  refine VC.ofL EP s89 (by kernel_rfl) Try.func89 (by rfl) (by kernel_rfl) (by simp [Try.f89]) (by simp [Try.f89]) s89_ok fun B hl => ?_
  simp [pS, maxLen] at hl
  simp [Try.f89, ]
  refine loop_rule (X := Nat) (fun i => i ≤ l.length) (fun i => [(1, .d (.str sep)), (5, .d (.str (joinB sep (l.take i)))), (8, .d (.pl (l.map cStr))), (9, .d (.int .i64 l.length)), (10, .d (.int .i64 i))]) (fun _ => []) (fun i => l.length - i) 0 (by simp) (by simp [joinB]) (by simp) ?_
  intro i hs t m hi hh
  by_cases hlt : i < l.length
  · have hwi := wr1 (i := i) (by omega)
    have h1 := joinB_len sep (l.take i)
    have h2 := strW_at (s := sep.length) hlt
    have hst := joinB_step (sep := sep) hlt
    by_cases h0 : i = 0
    · subst h0
      have hwi0 : IntKind.i64.wrap 1 = 1 := by simpa using hwi
      have hst0 : joinB sep (l.take 1) = l[0] := by simpa [joinB] using hst
      have j0 : joinB sep [] = [] := rfl
      simp [hlt, hwi0, j0, ]
      refine ⟨by omega, ?_⟩
      exact back 1 (by omega) (by omega) rfl (by simp <;> omega) (by simp [hst0]) (by simp)
    · have h0' : 0 < i := by omega
      simp only [h0, if_false] at hst
      simp [hlt, h0, h0', hwi, ]
      refine ⟨by omega, by omega, ?_⟩
      exact back (i + 1) (by omega) (by omega) rfl (by simp <;> omega) (by simp [hst]) (by simp)
  · simp [hlt, List.take_of_length_le (show l.length ≤ i by omega)]
end

end Go.Proofs.Ytfpohhabemnnfaa

namespace Go.Proofs.Ytfpohhabemnnfaa
open Go.Vs Go.Proofs Go
set_option maxRecDepth 100000
set_option maxHeartbeats 1000000

section
attribute [local simp] plI_id plStr_id map_plI map_plStr pS cP cI cStr cU8 cB
theorem w_impl_FormatInt (n : Int) (hn : inZ n) : VC Try.prog 50 [.d (.int .i64 n)] (fun _ r => r = .d (.str (decZ n))) := by
  refine VC.ofL EP s50 (by kernel_rfl) Try.func50 (by rfl) (by kernel_rfl) (by simp [Try.f50]) (by simp [Try.f50]) s50_ok fun B hl => ?_
  simp only [inZ] at hn
  obtain ⟨neg, hneg⟩ : ∃ b : Bool, b = decide (n < 0) := ⟨_, rfl⟩
  simp [Try.f50, ]
  rw [← hneg]
  refine loop_ruleL (X := Int × List UInt8) (fun p _ => (-9223372036854775808 ≤ p.1 ∧ p.1 ≤ 9223372036854775807) ∧ (p.1 ≠ 0 ∨ p.2 = []) ∧ decN n.natAbs = decN p.1.natAbs ++ p.2) (fun p => [(0, .d (.int .i64 p.1)), (3, .d (.pl (p.2.map cU8))), (4, .d (.bool neg))]) (fun _ => []) (fun p => p.1.natAbs) ?_ ?_
  · refine (lead_slot 3 17 5 1 (by omega) (by omega) (by simp)).bind ?_
    rintro _ rfl
    refine (lead_frp 17 (T := 5) (sz := 1) (es := []) (by simp)).bind ?_
    rintro _ rfl
    exact Lead.of ⟨(n, []), ⟨hn, .inr rfl, by simp⟩, rfl, rfl, Nat.le_refl _, by simp [hneg], by simp⟩
  rintro ⟨p, ds⟩ hs t m ⟨hp, hp0, hd⟩ hh
  simp only at hp hp0 hd
  have hl20 : (decN n.natAbs).length ≤ 20 := decN_len20 (by omega)
  rw [hd, List.length_append] at hl20
  have hm : (p.tmod 10).natAbs = p.natAbs % 10 := by rw [Int.natAbs_tmod]; rfl
  have hq : (p.tdiv 10).natAbs = p.natAbs / 10 := by rw [Int.natAbs_tdiv]; rfl
  have hwq : IntKind.i64.wrap (p.tdiv 10) = p.tdiv 10 := wrap64_of (by omega) (by omega)
  obtain ⟨q, hqe⟩ : ∃ q, q = p.tdiv 10 := ⟨_, rfl⟩
  obtain ⟨r, hre⟩ : ∃ r, r = p.tmod 10 := ⟨_, rfl⟩
  obtain ⟨e, hee⟩ : ∃ e, e = p.natAbs % 10 := ⟨_, rfl⟩
  rw [← hqe] at hq hwq
  rw [← hre, ← hee] at hm
  have he10 : e < 10 := by omega
  have hw48 : IntKind.i64.wrap (48 + (e : Int)) = 48 + e := wrap64_of (by omega) (by omega)
  have hw8 : IntKind.u8.wrap (48 + (e : Int)) = 48 + e := by
    rw [IntKind.wrap_u8]; omega
  obtain ⟨g, hg⟩ : ∃ g : UInt8, g = UInt8.ofNat (48 + e) := ⟨_, rfl⟩
  have hc8 : ((g.toNat : Nat) : Int) = 48 + e := by
    have : g.toNat = 48 + e := by rw [hg]; simp; omega
    rw [this]; simp
  have hL : LenOk 1 (1 + ds.length) := ⟨by omega, by simp only [maxLen]; omega⟩
  have hst : ¬ q = 0 → decN n.natAbs = decN q.natAbs ++ g :: ds := fun h => by
    rw [hd, hq, decN_ge (by omega), hg, hee]; simp
  have hfin : q = 0 → decN n.natAbs = g :: ds := fun h => by
    have : p.natAbs < 10 := by omega
    rw [hd, decN_lt this, hg, hee, Nat.mod_eq_of_lt this]; rfl
  have hout : q = 0 → decZ n = if neg then 45 :: g :: ds else g :: ds := fun h => by
    rw [decZ, hfin h, hneg]; simp
  have hback : ¬ q = 0 → q.natAbs < p.natAbs := fun h => by omega
  have hL2 : LenOk 1 (ds.length + 1) := by rw [Nat.add_comm]; exact hL
  have he0 : ¬ (e : Int) < 0 := by omega
  have hw0z : IntKind.i64.wrap 0 = 0 := wrap64_of (by omega) (by omega)
  have a1 : 1 + ds.length = ds.length + 1 := Nat.add_comm _ _
  have hB1 : toB [D.int IntKind.u8 (48 + (e : Int))] = g := by
    have : (48 + (e : Int)).toNat = 48 + e := by omega
    rw [hg]; simp only [toB, this]
  have hB2 : ds.map (toB ∘ cU8) = ds := by
    have : (toB ∘ cU8) = id := by funext b; simp [toB, cU8]
    rw [this, List.map_id]
  have hB3 : ∀ x ∈ ([D.int IntKind.u8 (48 + (e : Int))] :: ds.map cU8), isB x = true := fun x hx => by
    rcases List.mem_cons.1 hx with h | h
    · subst h; rfl
    · obtain ⟨b, _, rfl⟩ := List.mem_map.1 h; rfl
  have hB4 : ∀ x ∈ ds, isB (cU8 x) = true := fun x _ => rfl
  have hB5 : isB [D.int IntKind.u8 (48 + (e : Int))] = true := rfl
  have hlen2 : 1 + (ds.length + 1) ≤ 9223372036854775807 := by omega
  by_cases h0 : r < 0
  · have hwn : IntKind.i64.wrap (-r) = e := by rw [wrap64_of (by omega) (by omega)]; omega
    by_cases hz : q = 0
    · have ho := hout hz
      cases hn2 : neg
      · simp [hn2] at ho
        simp [← hre, ← hqe, h0, hwn, hw48, hw8, hwq, hz, hw0z, hL2, ho, hn2, hc8, a1, hB1, hB2, hB4, hB5, List.take_of_length_le, ]
        exact fun x hx => rfl
      · simp [hn2] at ho
        simp [← hre, ← hqe, h0, hwn, hw48, hw8, hwq, hz, hw0z, hL2, ho, hn2, hc8, a1, hB1, hB2, hB4, hB5, hlen2, List.take_of_length_le, ]
        exact fun x hx => rfl
    · simp [← hre, ← hqe, h0, hwn, hw48, hw8, hwq, hz, hL, hc8, ]
      refine Back2.lead (lead_frp 17 (T := 5) (sz := 1) (es := [D.int IntKind.u8 (48 + (e : Int))] :: ds.map cU8) (by simp)) ?_
      rintro _ rfl
      refine back2 (q, g :: ds) ⟨by simp only; omega, .inl hz, hst hz⟩ (hback hz) rfl (by simp <;> omega) (by simp [hc8, a1, List.take_of_length_le]) (by simp)
  · have hr2 : r = (e : Int) := by omega
    by_cases hz : q = 0
    · have ho := hout hz
      cases hn2 : neg
      · simp [hn2] at ho
        simp [← hre, ← hqe, h0, hr2, he0, hw48, hw8, hwq, hz, hw0z, hL2, ho, hn2, hc8, a1, hB1, hB2, hB4, hB5, List.take_of_length_le, ]
        exact fun x hx => rfl
      · simp [hn2] at ho
        simp [← hre, ← hqe, h0, hr2, he0, hw48, hw8, hwq, hz, hw0z, hL2, ho, hn2, hc8, a1, hB1, hB2, hB4, hB5, hlen2, List.take_of_length_le, ]
        exact fun x hx => rfl
    · simp [← hre, ← hqe, h0, hr2, he0, hw48, hw8, hwq, hz, hL, hc8, ]
      refine Back2.lead (lead_frp 17 (T := 5) (sz := 1) (es := [D.int IntKind.u8 (48 + (e : Int))] :: ds.map cU8) (by simp)) ?_
      rintro _ rfl
      refine back2 (q, g :: ds) ⟨by simp only; omega, .inl hz, hst hz⟩ (hback hz) rfl (by simp <;> omega) (by simp [hc8, a1, List.take_of_length_le]) (by simp)
end

end Go.Proofs.Ytfpohhabemnnfaa

namespace Go.Proofs.Ytfpohhabemnnfaa
open Go.Vs Go.Proofs Go
set_option maxRecDepth 100000
set_option maxHeartbeats 1000000

section
attribute [local simp] plI_id plStr_id map_plI map_plStr pS cP cI cStr cU8 cB
theorem w_impl_isLetters (s : List UInt8) : VC Try.prog 105 [.d (.str s), .d (.int .i64 4)] (fun _ r => r = .d (.bool (nameOk s))) := by
  refine VC.ofL EP s105 (by kernel_rfl) Try.func105 (by rfl) (by kernel_rfl) (by simp [Try.f105]) (by simp [Try.f105]) s105_ok fun B hl => ?_
  by_cases h1 : (s.length : Int) < 1
  · have : s = [] := List.length_eq_zero_iff.1 (by omega)
    subst this
    simp [Try.f105, nameOk_len]
  by_cases h4 : (4 : Int) < s.length
  · have : nameOk s = false := nameOk_len (by omega)
    simp [Try.f105, h1, h4, this]
  have hlen : 1 ≤ s.length ∧ s.length ≤ 4 := by omega
  simp [Try.f105, h1, h4]
  refine loop_rule (X := Nat) (fun i => i ≤ s.length ∧ AllTo lowB s i) (fun i => [(0, .d (.str s)), (5, .d (.int .i64 i))]) (fun _ => []) (fun i => s.length - i) 0 ⟨by simp, allTo_zero⟩ (by simp) (by simp) ?_
  intro i hs t m hi hh
  by_cases hlt : i < s.length
  · have hwi := wr1 (i := i) (by omega)
    by_cases ha : ((s[i]).toNat : Int) < 97
    · have hbad := nameOk_bad (all_bad (p := lowB) hlt (lowB_lo ha))
      simp [hlt, ha, hbad, ]
    · by_cases hz : (122 : Int) < ((s[i]).toNat : Int)
      · have hbad := nameOk_bad (all_bad (p := lowB) hlt (lowB_hi hz))
        simp [hlt, ha, hz, hbad, ]
      · simp [hlt, ha, hz, hwi, ]
        exact back (i + 1) ⟨by omega, allTo_step hi.2 hlt (lowB_ok ha hz)⟩ (by omega) rfl (by simp <;> omega) (by simp) (by simp)
  · have hd := allTo_done hi.2 (by omega)
    have hd2 : nameOk s = true := by rw [nameOk_ok hd, decide_eq_true hlen]
    simp [hlt, hd2]
theorem w_impl_IsValidName (s : List UInt8) : VC Try.prog 86 [.d (.str s)] (fun _ r => r = .d (.bool (nameOk s))) := by
  refine VC.ofL EP s86 (by kernel_rfl) Try.func86 (by rfl) (by kernel_rfl) (by simp [Try.f86]) (by simp [Try.f86]) s86_ok fun B hl => ?_
  simp [Try.f86, ]
  refine call_f (w_impl_isLetters s) (by simp) rfl fun hs1 hh1 => ?_
  simp
theorem w_spec_IsValidName (s : List UInt8) (hb : s.length ≤ maxLen) : VC Try.prog 82 [.d (.str s)] (fun _ r => r = .d (.bool (nameOk s))) := by
  refine VC.ofL EP s82 (by kernel_rfl) Try.func82 (by rfl) (by kernel_rfl) (by simp [Try.f82]) (by simp [Try.f82]) s82_ok fun B hl => ?_
  simp only [maxLen] at hb
  simp [Try.f82, ]
  refine loop_rule (X := Nat) (fun i => i ≤ s.length ∧ AllTo lowB s i) (fun i => [(0, .d (.str s)), (3, .d (.int .i64 i))]) (fun _ => []) (fun i => s.length - i) 0 ⟨by simp, allTo_zero⟩ (by simp) (by simp) ?_
  intro i hs t m hi hh
  by_cases hlt : i < s.length
  · have hwi := wr1 (i := i) (by omega)
    by_cases ha : ((s[i]).toNat : Int) < 97
    · have hbad := nameOk_bad (all_bad (p := lowB) hlt (lowB_lo ha))
      simp [hlt, ha, hbad, ]
    · by_cases hz : (122 : Int) < ((s[i]).toNat : Int)
      · have hbad := nameOk_bad (all_bad (p := lowB) hlt (lowB_hi hz))
        simp [hlt, ha, hz, hbad, ]
      · simp [hlt, ha, hz, hwi, ]
        exact back (i + 1) ⟨by omega, allTo_step hi.2 hlt (lowB_ok ha hz)⟩ (by omega) rfl (by simp <;> omega) (by simp) (by simp)
  · have hd := allTo_done hi.2 (by omega)
    simp [hlt, ]
    refine call_f (w_spec_l1In s.length 1 4) (by simp) rfl fun hs1 hh1 => ?_
    have e : inR (s.length : Int) 1 4 = decide (1 ≤ s.length ∧ s.length ≤ 4) := by
      simp only [inR, ← Bool.decide_and]; congr 1; apply propext; omega
    rw [e, nameOk_ok hd]
    simp
end

end Go.Proofs.Ytfpohhabemnnfaa

namespace Go.Proofs.Ytfpohhabemnnfaa
open Go.Vs Go.Proofs Go
set_option maxRecDepth 100000
set_option maxHeartbeats 1000000

section
attribute [local simp] plI_id plStr_id map_plI map_plStr pS cP cI cStr cU8 cB eTab eReln
theorem w_impl_IsValidDatabase (d : PDb) : VC Try.prog 48 [.agg ((eDb d).map V.d)] (fun _ r => r = .d (.bool (dbOk d))) := by
  refine VC.ofL EP s48 (by kernel_rfl) Try.func48 (by rfl) (by kernel_rfl) (by simp [Try.f48]) (by simp [Try.f48]) s48_ok fun B hl => ?_
  obtain ⟨l⟩ := d
  by_cases h6 : (6 : Int) < l.length
  · have : dbOk ⟨l⟩ = false := by
      have : ¬ l.length ≤ 6 := by omega
      simp only [dbOk, this, decide_false, Bool.false_and]
    simp [Try.f48, s48_6, s48_6, eDb, h6, this]
  simp [Try.f48, s48_6, s48_6, eDb, h6]
  refine loop_rule (X := Nat) (DbTo l) (fun i => [(1, .ptr 1 0 0), (10, .d (.pl (l.map eTab))), (11, .d (.int .i64 l.length)), (12, .d (.int .i64 i))]) (fun _ => [(1, some (.box [.d (.pl (l.map eTab))]))]) (fun i => l.length - i) 0 .zero (by simp) (by simp) ?_
  intro i hs t m hi hh
  have hil := hi.le
  by_cases hlt : i < l.length
  case neg =>
    have hd := hi.done (by omega)
    simp [hlt, hd]
    omega
  have hwi := wr1 (i := i) (by omega)
  have hat := dbAt_eq hlt
  have hbad : dbAt l i = false → dbOk ⟨l⟩ = false := dbOk_bad hlt
  obtain ⟨nm, ar, rows, hT⟩ : ∃ nm ar rows, l[i] = ⟨nm, ⟨ar, rows⟩⟩ := ⟨_, _, _, rfl⟩
  rw [hT] at hat
  simp only [tabOk] at hat
  simp [hlt, hT, s48_6, ]
  refine call_f (w_impl_IsValidName nm) (by simp) rfl fun hs1 hh1 => ?_
  simp at hh1
  cases h1 : nameOk nm
  · have hb := hbad (by rw [hat, h1]; simp)
    simp [hb, s48_6, ]
  by_cases h0 : i = 0
  · subst h0
    have hwi0 : IntKind.i64.wrap 1 = 1 := by simpa using hwi
    simp [hT, s48_6, ]
    refine call_f (w_impl_IsValidRelation ⟨ar, rows⟩) (by simp [eReln]) rfl fun hs2 hh2 => ?_
    simp at hh2
    cases h3 : rowsOk ar rows
    · have hb := hbad (by rw [hat, h3]; simp)
      simp [hb, s48_6, ]
    by_cases h4 : ar < 1
    · have hb := hbad (by rw [hat]; have : ¬ 1 ≤ ar := by omega
                          simp [this])
      simp [h4, hb, hT, s48_6, ]
    by_cases h5 : (16 : Int) < rows.length
    · have hb := hbad (by rw [hat]; have : ¬ rows.length ≤ 16 := by omega
                          simp [this])
      simp [h4, h5, hb, hT, s48_6, ]
    have hok : dbAt l 0 = true := by
      have a4 : 1 ≤ ar := by omega
      have a5 : rows.length ≤ 16 := by omega
      rw [hat, h1, h3]; simp [a4, a5]
    simp [h4, h5, hT, hwi0, s48_6, ]
    exact back 1 (hi.step hlt hok) (by omega) rfl (by simp <;> omega) (by simp) (by simp)
  · have h0' : 0 < i := by omega
    have hw : IntKind.i64.wrap ((i : Int) - 1) = ((i - 1 : Nat) : Int) := by rw [wrap64_of (by omega) (by omega)]; omega
    have hlt1 : i - 1 < l.length := by omega
    cases h2 : Op.bytesLess (l[i - 1]'(by omega)).name nm
    · have hb := hbad (by rw [hat, h2]; simp [h0])
      simp [h0, h0', hw, hlt1, hT, h2, hb, s48_6, ]
    simp [h0, h0', hw, hlt1, hT, h2, s48_6, ]
    refine call_f (w_impl_IsValidRelation ⟨ar, rows⟩) (by simp [eReln]) rfl fun hs2 hh2 => ?_
    simp at hh2
    cases h3 : rowsOk ar rows
    · have hb := hbad (by rw [hat, h3]; simp)
      simp [hb, s48_6, ]
    by_cases h4 : ar < 1
    · have hb := hbad (by rw [hat]; have : ¬ 1 ≤ ar := by omega
                          simp [this])
      simp [h4, hb, hT, s48_6, ]
    by_cases h5 : (16 : Int) < rows.length
    · have hb := hbad (by rw [hat]; have : ¬ rows.length ≤ 16 := by omega
                          simp [this])
      simp [h4, h5, hb, hT, s48_6, ]
    have hok : dbAt l i = true := by
      have a4 : 1 ≤ ar := by omega
      have a5 : rows.length ≤ 16 := by omega
      rw [hat, h1, h3]; simp [a4, a5, h2]
    simp [h4, h5, hT, hwi, s48_6, ]
    exact back (i + 1) (hi.step hlt hok) (by omega) rfl (by simp <;> omega) (by simp) (by simp)
theorem w_spec_IsValidDatabase (d : PDb) (hst : ∀ t ∈ d.tabs, t.name.length ≤ maxLen) : VC Try.prog 40 [.agg ((eDb d).map V.d)] (fun _ r => r = .d (.bool (dbOk d))) := by
  refine VC.ofL EP s40 (by kernel_rfl) Try.func40 (by rfl) (by kernel_rfl) (by simp [Try.f40]) (by simp [Try.f40]) s40_ok fun B hl => ?_
  obtain ⟨l⟩ := d
  simp [pS, maxLen, eDb] at hl
  simp only at hst
  simp [Try.f40, s40_5, s40_5, eDb]
  refine loop_rule (X := Nat) (DbTo l) (fun i => [(1, .ptr 1 0 0), (3, .d (.int .i64 i))]) (fun _ => [(1, some (.box [.d (.pl (l.map eTab))]))]) (fun i => l.length - i) 0 .zero (by simp) (by simp) ?_
  intro i hs t m hi hh
  have hil := hi.le
  by_cases hlt : i < l.length
  case neg =>
    have hd := hi.done (by omega)
    simp [hlt, hd]
    omega
  have hwi := wr1 (i := i) (by omega)
  have hat := dbAt_eq hlt
  have hbad : dbAt l i = false → dbOk ⟨l⟩ = false := dbOk_bad hlt
  obtain ⟨nm, ar, rows, hT⟩ : ∃ nm ar rows, l[i] = ⟨nm, ⟨ar, rows⟩⟩ := ⟨_, _, _, rfl⟩
  rw [hT] at hat
  simp only [tabOk] at hat
  have hnl : nm.length ≤ maxLen := by have := hst l[i] (List.getElem_mem hlt); rwa [hT] at this
  simp [hlt, hT, s40_5, ]
  refine call_f (w_spec_IsValidName nm hnl) (by simp) rfl fun hs1 hh1 => ?_
  simp at hh1
  cases h1 : nameOk nm
  · have hb := hbad (by rw [hat, h1]; simp)
    simp [hb, s40_5, ]
  by_cases h0 : i = 0
  · subst h0
    have hwi0 : IntKind.i64.wrap 1 = 1 := by simpa using hwi
    simp [hT, s40_5, ]
    refine call_f (w_spec_IsValidRelation ⟨ar, rows⟩) (by simp [eReln]) rfl fun hs2 hh2 => ?_
    simp at hh2
    cases h3 : rowsOk ar rows
    · have hb := hbad (by rw [hat, h3]; simp)
      simp [hb, s40_5, ]
    by_cases h5 : (16 : Int) < rows.length
    · have hb := hbad (by rw [hat]; have : ¬ rows.length ≤ 16 := by omega
                          simp [this])
      simp [h5, hb, hT, s40_5, ]
    by_cases h4 : ar < 1
    · have hb := hbad (by rw [hat]; have : ¬ 1 ≤ ar := by omega
                          simp [this])
      simp [h4, h5, hb, hT, s40_5, ]
    have hok : dbAt l 0 = true := by
      have a4 : 1 ≤ ar := by omega
      have a5 : rows.length ≤ 16 := by omega
      rw [hat, h1, h3]; simp [a4, a5]
    simp [h4, h5, hT, hwi0, s40_5, ]
    exact back 1 (hi.step hlt hok) (by omega) rfl (by simp <;> omega) (by simp) (by simp)
  · have h0' : 0 < i := by omega
    have hw : IntKind.i64.wrap ((i : Int) - 1) = ((i - 1 : Nat) : Int) := by rw [wrap64_of (by omega) (by omega)]; omega
    have hlt1 : i - 1 < l.length := by omega
    cases h2 : Op.bytesLess (l[i - 1]'(by omega)).name nm
    · have hb := hbad (by rw [hat, h2]; simp [h0])
      simp [h0, h0', hw, hlt1, hT, h2, hb, s40_5, ]
    simp [h0, h0', hw, hlt1, hT, h2, s40_5, ]
    refine call_f (w_spec_IsValidRelation ⟨ar, rows⟩) (by simp [eReln]) rfl fun hs2 hh2 => ?_
    simp at hh2
    cases h3 : rowsOk ar rows
    · have hb := hbad (by rw [hat, h3]; simp)
      simp [hb, s40_5, ]
    by_cases h5 : (16 : Int) < rows.length
    · have hb := hbad (by rw [hat]; have : ¬ rows.length ≤ 16 := by omega
                          simp [this])
      simp [h5, hb, hT, s40_5, ]
    by_cases h4 : ar < 1
    · have hb := hbad (by rw [hat]; have : ¬ 1 ≤ ar := by omega
                          simp [this])
      simp [h4, h5, hb, hT, s40_5, ]
    have hok : dbAt l i = true := by
      have a4 : 1 ≤ ar := by omega
      have a5 : rows.length ≤ 16 := by omega
      rw [hat, h1, h3]; simp [a4, a5, h2]
    simp [h4, h5, hT, hwi, s40_5, ]
    exact back (i + 1) (hi.step hlt hok) (by omega) rfl (by simp <;> omega) (by simp) (by simp)
end

end Go.Proofs.Ytfpohhabemnnfaa

namespace Go.Proofs.Ytfpohhabemnnfaa
open Go.Vs Go.Proofs Go
set_option maxRecDepth 100000
set_option maxHeartbeats 1000000

theorem w_spec_l5Copy (r : PReln) (hb : r.rows.length ≤ 4294967296) (hb2 : ∀ x ∈ r.rows, x.length ≤ 4294967296) : VC Try.prog 92 [.agg ((eReln r).map .d)] (fun _ v => v = .agg ((eReln r).map .d)) := by
  obtain ⟨ar, l⟩ := r
  simp only at hb hb2
  refine VC.ofL EP s92 (by kernel_rfl) Try.func92 (by rfl) (by kernel_rfl) (by simp [Try.f92]) (by simp [Try.f92]) s92_ok fun B hl => ?_
  simp [Try.f92, s92_5, eReln]
  refine loop_ruleL (X := Nat) (fun i _ => i ≤ l.length) (fun i => [(1, .ptr 1 0 0), (2, .ptr 2 0 0), (3, .ptr 3 0 0), (4, .d (.int .i64 i))])
    (fun i => [(1, some (.box [.d (.int .i64 ar), .d (.pl (l.map (cP cI)))])), (2, some (.box [.d (.int .i64 0), .d (.sl none none [])])), (3, some (.box [.d (.int .i64 ar), .own 25 0 i])), (25, some (.row 88 1 ((l.take i).map (cP cI))))]) (fun i => l.length - i) ?_ ?_
  · refine (lead_box 3 1 25 88 1 [.d (.int .i64 ar), .d (.sl none none [])] (by omega) (by omega) (by omega) (by simp) rfl).bind ?_
    rintro _ rfl
    exact Lead.of ⟨0, by simp, rfl, rfl, Nat.le_refl _, by simp, by simp⟩
  · intro i hs t m hi hh
    by_cases hlt : i < l.length
    · have hwi := wr1 (i := i) (by omega)
      have hL : LenOk 24 (i + 1) := ⟨by omega, by simp only [maxLen]; omega⟩
      have hx := hb2 _ (List.getElem_mem hlt)
      have hL2 : LenOk 8 l[i].length := ⟨by omega, by simp only [maxLen]; omega⟩
      simp [hlt, hL, hL2, hwi, List.take_of_length_le, show min i l.length = i by omega, s92_5, ]
      refine back2 (i + 1) (by omega) (by omega) rfl (by simp <;> omega) (by simp) ?_
      simp
      rw [List.take_succ_eq_append_getElem (by simpa using hlt)]; simp
    · have hn : i = l.length := by omega
      subst hn
      simp [List.take_of_length_le]

end Go.Proofs.Ytfpohhabemnnfaa

namespace Go.Proofs.Ytfpohhabemnnfaa
open Go.Vs Go.Proofs Go
set_option maxRecDepth 100000
set_option maxHeartbeats 1000000

section
attribute [local simp] plI_id plStr_id map_plI map_plStr pS cP cI cStr cU8 cB
theorem q_impl_copyInts (l : List Int) (hb : l.length ≤ 4294967296) : VC Try.prog 64 [.d (pS cI l)] (fun _ r => r = .d (pS cI l)) := by
  refine VC.ofL EP s64 (by kernel_rfl) Try.func64 (by rfl) (by kernel_rfl) (by simp [Try.f64]) (by simp [Try.f64]) s64_ok fun B hl => ?_
  have hL : LenOk 8 l.length := ⟨by omega, by simp only [maxLen]; omega⟩
  simp [Try.f64, hL, List.take_of_length_le]
theorem q_impl_copyRows (l : List (List Int)) (hb : l.length ≤ 4294967296) (hb2 : ∀ r ∈ l, r.length ≤ 4294967296) : VC Try.prog 100 [.d (pS (cP cI) l)] (fun _ r => r = .d (pS (cP cI) l)) := by
  refine VC.ofL EP s100 (by kernel_rfl) Try.func100 (by rfl) (by kernel_rfl) (by simp [Try.f100]) (by simp [Try.f100]) s100_ok fun B hl => ?_
  simp [Try.f100, ]
  refine loop_ruleL (X := Nat) (fun i _ => i ≤ l.length) (fun i => [(3, .own 16 0 i), (6, .d (.pl (l.map (cP cI)))), (7, .d (.int .i64 l.length)), (8, .d (.int .i64 i))]) (fun i => [(16, some (.row 88 1 ((l.take i).map (cP cI))))]) (fun i => l.length - i) ?_ ?_
  · refine (lead_slot 3 16 88 1 (by omega) (by omega) (by simp)).bind ?_
    rintro _ rfl
    exact Lead.of ⟨0, by omega, rfl, rfl, Nat.le_refl _, by simp, by simp⟩
  intro i hs t m hi hh
  by_cases hlt : i < l.length
  · have hwi := wr1 (i := i) (by omega)
    have hL : LenOk 24 (i + 1) := ⟨by omega, by simp only [maxLen]; omega⟩
    have hmn : min i l.length = i := by omega
    have hst2 : List.take (i + 1) (List.map (cP cI) l) = List.take i (List.map (cP cI) l) ++ [cP cI l[i]] := by
      rw [List.take_succ_eq_append_getElem (by simpa using hlt)]; simp
    simp [hlt, ]
    refine call_p (q_impl_copyInts l[i] (hb2 _ (List.getElem_mem hlt))) (by simp) fun hs1 hh1 hl1 => ?_
    simp at hh1
    simp [hwi, hL, hmn, ]
    exact back2 (i + 1) (by omega) (by omega) rfl (by simp <;> omega) (by simp) (by simp [hst2])
  · have hn : i = l.length := by omega
    subst hn
    simp [List.take_of_length_le]
theorem q_impl_copyRelation (r : PReln) (hb : r.rows.length ≤ 4294967296) (hb2 : ∀ x ∈ r.rows, x.length ≤ 4294967296) : VC Try.prog 98 [.agg ((eReln r).map V.d)] (fun _ v => v = .agg ((eReln r).map V.d)) := by
  refine VC.ofL EP s98 (by kernel_rfl) Try.func98 (by rfl) (by kernel_rfl) (by simp [Try.f98]) (by simp [Try.f98]) s98_ok fun B hl => ?_
  simp [Try.f98, s98_1, s98_1, eReln]
  refine call_p (q_impl_copyRows r.rows hb hb2) (by simp) fun hs1 hh1 hl1 => ?_
  simp at hh1
  simp [s98_1, ]
theorem w_impl_ContainsRow (r : PReln) (row : List Int) (hb : r.rows.length ≤ 4294967296) : VC Try.prog 63 [.agg ((eReln r).map V.d), .d (pS cI row)] (fun _ v => v = .d (.bool (hasR r row))) := by
  refine VC.ofL EP s63 (by kernel_rfl) Try.func63 (by rfl) (by kernel_rfl) (by simp [Try.f63]) (by simp [Try.f63]) s63_ok fun B hl => ?_
  simp [Try.f63, eReln]
  refine call_f (w_impl_place r.rows row hb) (by simp) rfl fun hs1 hh1 => ?_
  simp at hh1
  simp []
  refine call_f (w_impl_IsValidRelation r) (by simp [eReln]) rfl fun hs2 hh2 => ?_
  simp at hh2
  cases h : rowsOk r.ar r.rows <;> simp [hasR, h]
theorem w_impl_LookupRelation (d : PDb) (nm : List UInt8) : VC Try.prog 72 [.agg ((eDb d).map V.d), .d (.str nm)] (fun _ v => v = .tup [.agg ((eReln (lkR d nm)).map V.d), .d (.bool (lkB d nm))]) := by
  refine VC.ofL EP s72 (by kernel_rfl) Try.func72 (by rfl) (by kernel_rfl) (by simp [Try.f72]) (by simp [Try.f72]) s72_ok fun B hl => ?_
  obtain ⟨l⟩ := d
  simp [Try.f72, eDb]
  refine call_f (w_impl_IsValidDatabase ⟨l⟩) (by simp [eDb]) rfl fun hs1 hh1 => ?_
  simp at hh1
  cases h1 : dbOk ⟨l⟩
  · obtain ⟨e1, e2⟩ := lk_no (nm := nm) h1
    simp [e1, e2, eReln]
  have hl6 := dbOk_len h1
  simp only at hl6
  simp
  refine loop_rule (X := Nat) (LkTo l nm) (fun i => [(1, .d (.str nm)), (2, .ptr 2 0 0), (4, .ptr 4 0 0), (11, .d (.pl (l.map eTab))), (12, .d (.int .i64 l.length)), (13, .d (.int .i64 i))]) (fun _ => [(2, some (.box [.d (.pl (l.map eTab))])), (4, some (.box [.d (.int .i64 0), .d (.sl none none [])]))]) (fun i => l.length - i) 0 .zero (by simp) (by simp) ?_
  intro i hs t m hi hh
  by_cases hlt : i < l.length
  · have hwi := wr1 (i := i) (by omega)
    have hr := tabOk_rel (dbOk_tab h1 (List.getElem_mem hlt))
    by_cases he : l[i].name = nm
    · obtain ⟨e1, e2⟩ := hi.found h1 hlt he
      simp [hlt, he, eTab, eReln, ]
      refine call_p (q_impl_copyRelation l[i].rel hr.1 hr.2) (by simp [eReln]) fun hs2 hh2 hl2 => ?_
      simp [e1, e2, eReln]
    · simp [hlt, he, hwi, eTab, eReln, ]
      exact back (i + 1) (hi.step hlt he) (by omega) rfl (by simp <;> omega) (by simp [eTab, eReln]) (by simp [eTab, eReln])
  · obtain ⟨e1, e2⟩ := hi.done (by omega)
    simp [hlt, e1, e2, eReln]
theorem w_impl_applicable (d : PDb) (x : PDelta) : VC Try.prog 62 [.agg ((eDb d).map V.d), .agg ((eDelta x).map V.d)] (fun _ v => v = .tup [.agg ((eReln (lkR d x.name)).map V.d), .d (.bool (fitB d x))]) := by
  refine VC.ofL EP s62 (by kernel_rfl) Try.func62 (by rfl) (by kernel_rfl) (by simp [Try.f62]) (by simp [Try.f62]) s62_ok fun B hl => ?_
  obtain ⟨nm, ⟨ia, il⟩, ⟨da, dl⟩⟩ := x
  simp [Try.f62, s62_3, eDb, eDelta, eReln]
  refine call_p (w_impl_LookupRelation d nm) (by simp [eDb]) fun hs1 hh1 hl1 => ?_
  simp at hh1
  obtain ⟨⟨ra, rl⟩, hr⟩ : ∃ r, r = lkR d nm := ⟨_, rfl⟩
  rw [← hr]
  cases h1 : lkB d nm
  · simp [eReln, fitB, h1, s62_3, ← hr]
  simp [eReln]
  refine call_f (w_impl_IsValidRelation ⟨ia, il⟩) (by simp [eReln]) rfl fun hs2 hh2 => ?_
  simp at hh2
  cases h2 : rowsOk ia il
  · simp [eReln, fitB, h1, h2, s62_3, ← hr]
  simp [eReln]
  refine call_f (w_impl_IsValidRelation ⟨da, dl⟩) (by simp [eReln]) rfl fun hs3 hh3 => ?_
  simp at hh3
  cases h3 : rowsOk da dl
  · simp [eReln, fitB, h1, h2, h3, s62_3, ← hr]
  by_cases h4 : ia = ra
  case neg => simp [eReln, fitB, h1, h2, h3, h4, s62_3, ← hr]
  subst h4
  by_cases h5 : da = ia
  case neg => simp [eReln, fitB, h1, h2, h3, h5, s62_3, ← hr]
  subst h5
  simp [eReln, fitB, h1, h2, h3, s62_3, ← hr]
theorem w_spec_LookupRelation (d : PDb) (nm : List UInt8) (hst : ∀ t ∈ d.tabs, t.name.length ≤ maxLen) : VC Try.prog 59 [.agg ((eDb d).map V.d), .d (.str nm)] (fun _ v => v = .tup [.agg ((eReln (lkR d nm)).map V.d), .d (.bool (lkB d nm))]) := by
  refine VC.ofL EP s59 (by kernel_rfl) Try.func59 (by rfl) (by kernel_rfl) (by simp [Try.f59]) (by simp [Try.f59]) s59_ok fun B hl => ?_
  obtain ⟨l⟩ := d
  simp [pS, maxLen, eDb] at hl
  simp [Try.f59, eDb]
  refine loop_rule (X := Nat) (LkTo l nm) (fun i => [(1, .d (.str nm)), (2, .ptr 2 0 0), (4, .ptr 4 0 0), (6, .d (.int .i64 i))]) (fun _ => [(2, some (.box [.d (.pl (l.map eTab))])), (4, some (.box [.d (.int .i64 0), .d (.sl none none [])]))]) (fun i => l.length - i) 0 .zero (by simp) (by simp) ?_
  intro i hs t m hi hh
  by_cases hlt : i < l.length
  · have hwi := wr1 (i := i) (by omega)
    simp [hlt, ]
    refine call_f (w_spec_IsValidDatabase ⟨l⟩ hst) (by simp [eDb]) rfl fun hs1 hh1 => ?_
    simp at hh1
    cases h1 : dbOk ⟨l⟩
    · obtain ⟨e1, e2⟩ := lk_no (nm := nm) h1
      simp [e1, e2, eReln, ]
    have hr := tabOk_rel (dbOk_tab h1 (List.getElem_mem hlt))
    by_cases he : l[i].name = nm
    · obtain ⟨e1, e2⟩ := hi.found h1 hlt he
      simp [hlt, he, eTab, eReln, ]
      refine call_p (w_spec_l5Copy l[i].rel hr.1 hr.2) (by simp [eReln]) fun hs2 hh2 hl2 => ?_
      simp [e1, e2, eReln]
    · simp [hlt, he, hwi, eTab, eReln, ]
      exact back (i + 1) (hi.step hlt he) (by omega) rfl (by simp <;> omega) (by simp [eTab, eReln]) (by simp [eTab, eReln])
  · obtain ⟨e1, e2⟩ := hi.done (by omega)
    simp [hlt, e1, e2, eReln, ]
theorem w_spec_l26Fits (d : PDb) (x : PDelta) (hst : ∀ t ∈ d.tabs, t.name.length ≤ maxLen) : VC Try.prog 58 [.agg ((eDb d).map V.d), .agg ((eDelta x).map V.d)] (fun _ v => v = .d (.bool (fitB d x))) := by
  refine VC.ofL EP s58 (by kernel_rfl) Try.func58 (by rfl) (by kernel_rfl) (by simp [Try.f58]) (by simp [Try.f58]) s58_ok fun B hl => ?_
  obtain ⟨nm, ⟨ia, il⟩, ⟨da, dl⟩⟩ := x
  simp [Try.f58, eDb, eDelta, eReln]
  refine call_p (w_spec_LookupRelation d nm hst) (by simp [eDb]) fun hs1 hh1 hl1 => ?_
  simp at hh1
  obtain ⟨⟨ra, rl⟩, hr⟩ : ∃ r, r = lkR d nm := ⟨_, rfl⟩
  rw [← hr]
  cases h1 : lkB d nm
  · simp [eReln, fitB, h1, ← hr]
  simp [eReln]
  refine call_f (w_spec_IsValidRelation ⟨ia, il⟩) (by simp [eReln]) rfl fun hs2 hh2 => ?_
  simp at hh2
  cases h2 : rowsOk ia il
  · simp [eReln, fitB, h1, h2, ← hr]
  simp [eReln]
  refine call_f (w_spec_IsValidRelation ⟨da, dl⟩) (by simp [eReln]) rfl fun hs3 hh3 => ?_
  simp at hh3
  cases h3 : rowsOk da dl
  · simp [eReln, fitB, h1, h2, h3, ← hr]
  by_cases h4 : ia = ra
  case neg => simp [eReln, fitB, h1, h2, h3, h4, ← hr]
  subst h4
  by_cases h5 : da = ia
  case neg => simp [eReln, fitB, h1, h2, h3, h5, ← hr]
  subst h5
  simp [eReln, fitB, h1, h2, h3, ← hr]
end

end Go.Proofs.Ytfpohhabemnnfaa

namespace Go.Proofs.Ytfpohhabemnnfaa
open Go.Vs Go.Proofs Go
set_option maxRecDepth 100000
set_option maxHeartbeats 1000000

section
attribute [local simp] plI_id plStr_id map_plI map_plStr pS cP cI cStr cU8 cB
theorem w_spec_Difference (a b : PReln) : VC Try.prog 60 [.agg ((eReln a).map V.d), .agg ((eReln b).map V.d)] (fun _ v => v = .tup [.agg ((eReln (difR a b)).map V.d), .d (.bool (difB a b))]) := by
  refine VC.ofL EP s60 (by kernel_rfl) Try.func60 (by rfl) (by kernel_rfl) (by simp [Try.f60]) (by simp [Try.f60]) s60_ok fun B hl => ?_
  obtain ⟨aa, al⟩ := a
  obtain ⟨ba, bl⟩ := b
  simp [Try.f60, s60_7, s60_9, eReln]
  refine call_f (w_spec_IsValidRelation ⟨aa, al⟩) (by simp [eReln]) rfl fun hs1 hh1 => ?_
  simp at hh1
  cases h1 : rowsOk aa al
  · simp [difR, difB, h1, eReln]
  simp
  refine call_f (w_spec_IsValidRelation ⟨ba, bl⟩) (by simp [eReln]) rfl fun hs2 hh2 => ?_
  simp at hh2
  cases h2 : rowsOk ba bl
  · simp [difR, difB, h1, h2, eReln]
  by_cases h3 : aa = ba
  case neg => simp [difR, difB, h1, h2, h3, eReln]
  subst h3
  have hdb : difB ⟨aa, al⟩ ⟨aa, bl⟩ = true := by simp [difB, h1, h2]
  have hdr : difR ⟨aa, al⟩ ⟨aa, bl⟩ = ⟨aa, difL al bl⟩ := by simp only [difR, hdb, if_true]
  rw [hdb, hdr]
  have hal := rowsOk_len h1
  have hbl := rowsOk_len h2
  have hrow := rowsOk_row h1
  simp
  refine loop_ruleL (X := Nat) (fun i _ => i ≤ al.length) (fun i => [(2, .ptr 2 0 0), (3, .ptr 3 0 0), (4, .ptr 4 0 0), (6, .ptr 6 0 0), (7, .d (.int .i64 i))])
    (fun i => [(2, some (.box [.d (.int .i64 aa), .d (.pl (al.map (cP cI)))])), (3, some (.box [.d (.int .i64 aa), .d (.pl (bl.map (cP cI)))])), (4, some (.box [.d (.int .i64 0), .d (.sl none none [])])), (6, some (.box [.d (.int .i64 aa), .own 58 0 (difL (al.take i) bl).length])), (58, some (.row 88 1 ((difL (al.take i) bl).map (cP cI))))]) (fun i => al.length - i) ?_ ?_
  · refine (lead_box 6 1 58 88 1 [.d (.int .i64 aa), .d (.sl none none [])] (by omega) (by omega) (by omega) (by simp) rfl).bind ?_
    rintro _ rfl
    exact Lead.of ⟨0, by omega, rfl, rfl, Nat.le_refl _, by simp, by simp [difL]⟩
  intro i hs t m hi hh
  by_cases hlt : i < al.length
  · have hwi := wr1 (i := i) (by omega)
    have hst := difL_step (b := bl) hlt
    have hdl := difL_len (al.take i) bl
    rw [List.length_take] at hdl
    have hL1 : LenOk 8 al[i].length := by
      have := hrow _ (List.getElem_mem hlt)
      exact ⟨by omega, by simp only [maxLen]; omega⟩
    have hL2 : LenOk 24 ((difL (al.take i) bl).length + 1) := ⟨by omega, by simp only [maxLen]; omega⟩
    simp [hlt, s60_7, s60_9, ]
    refine call_f (w_spec_l5Place ⟨aa, bl⟩ al[i] (by show bl.length ≤ _; omega)) (by simp [eReln]) rfl fun hs3 hh3 => ?_
    simp at hh3
    cases h4 : placeB bl al[i]
    · rw [h4] at hst
      simp only [Bool.false_eq_true, if_false] at hst
      simp [hlt, hwi, hL1, hL2, List.take_of_length_le, s60_7, s60_9, ]
      exact back2 (i + 1) (by omega) (by omega) rfl (by simp <;> omega) (by simp) (by simp [hst])
    · rw [h4] at hst
      simp only [if_true, List.append_nil] at hst
      simp [hwi, s60_7, s60_9, ]
      exact back2 (i + 1) (by omega) (by omega) rfl (by simp <;> omega) (by simp) (by simp [hst])
  · have hn : i = al.length := by omega
    subst hn
    simp [List.take_of_length_le]
theorem w_spec_NormalizeDelta (d : PDb) (x : PDelta) (hst : ∀ t ∈ d.tabs, t.name.length ≤ maxLen) : VC Try.prog 19 [.agg ((eDb d).map V.d), .agg ((eDelta x).map V.d)] (fun _ v => v = .tup [.agg ((eDelta (norP d x)).map V.d), .d (.bool (fitB d x))]) := by
  refine VC.ofL EP s19 (by kernel_rfl) Try.func19 (by rfl) (by kernel_rfl) (by simp [Try.f19]) (by simp [Try.f19]) s19_ok fun B hl => ?_
  simp [Try.f19, eDb, eDelta, eReln]
  refine call_f (w_spec_l26Fits d x hst) (by simp [eDb, eDelta, eReln]) rfl fun hs1 hh1 => ?_
  simp at hh1
  cases h1 : fitB d x
  · simp [norP, h1, eDelta, eReln, ]
  obtain ⟨e1, e2⟩ := nor_dif h1
  have e3 : norP d x = ⟨x.name, ⟨(lkR d x.name).ar, norI (lkR d x.name) x.ins.rows⟩, ⟨(lkR d x.name).ar, norD (lkR d x.name) x.ins x.del.rows⟩⟩ := by simp only [norP, h1, if_true]
  obtain ⟨r, hr⟩ : ∃ r, r = lkR d x.name := ⟨_, rfl⟩
  simp []
  refine call_p (w_spec_LookupRelation d x.name hst) (by simp [eDb]) fun hs2 hh2 hl2 => ?_
  simp at hh2
  rw [← hr] at e1 e2 e3 ⊢
  simp [eReln, ]
  refine call_p (w_spec_Difference x.ins r) (by simp [eReln]) fun hs3 hh3 hl3 => ?_
  simp at hh3
  rw [e1]
  simp [eReln, ]
  refine call_p (w_spec_Difference x.del x.ins) (by simp [eReln]) fun hs4 hh4 hl4 => ?_
  simp at hh4
  obtain ⟨go, hgo⟩ : ∃ go, go = difR x.del x.ins := ⟨_, rfl⟩
  rw [← hgo] at e2 ⊢
  simp [eReln, ]
  refine call_p (w_spec_Difference go r) (by simp [eReln]) fun hs5 hh5 hl5 => ?_
  simp at hh5
  obtain ⟨nt, hnt⟩ : ∃ nt, nt = difR go r := ⟨_, rfl⟩
  rw [← hnt] at e2 ⊢
  simp [eReln, ]
  refine call_p (w_spec_Difference go nt) (by simp [eReln]) fun hs6 hh6 hl6 => ?_
  rw [e2, e3]
  simp [eReln, eDelta, ]
end

end Go.Proofs.Ytfpohhabemnnfaa

namespace Go.Proofs.Ytfpohhabemnnfaa
open Go.Vs Go.Proofs Go
set_option maxRecDepth 100000
set_option maxHeartbeats 1000000

theorem w_impl_copyInts (a : Ints) (ha : okS okI a) (hb : a.xs.length ≤ 4294967296) :
   VC Try.prog 64 [.d (dSl cI a)] (fun n r => ∃ y : Sl Int, r = .d (dSl cI y) ∧ plS plI y = plS plI a ∧ okS okI y ∧ Good (cS cI y) (whS whI y) n) := by
  refine VC.of E s64 (by kernel_rfl) Try.func64 (by rfl) (by kernel_rfl) (by simp [Try.f64]) (by simp [Try.f64]) s64_ok fun B => ?_
  have hL : LenOk 8 a.xs.length := ⟨by omega, by simp only [maxLen]; omega⟩
  simp [Try.f64, dSl, hL, cI]
  intro γ hs' h1 hg
  obtain ⟨q1, q2⟩ := gam_at hg (k := 3) (T := 3) (sz := 1) (es := a.xs.map cI) (by simp [cI])
  have q3 := gam_row hg (k := 3) (T := 3) (sz := 1) (es := a.xs.map cI) (by simp [cI])
  clear hg
  refine ⟨⟨γ 3, some (3, 1), a.xs⟩, ⟨⟨rfl, rfl, by simp [List.take_of_length_le]⟩, rfl, ha, good_row (fun g hg => (q1 g hg).1) (by simpa using q2) q3 ⟨by simp, by simp⟩ (by simp [whI])⟩⟩
theorem w_impl_copyRows (a : Sl Ints) (ha : okS (okS okI) a) (hb : a.xs.length ≤ 4294967296) (hb2 : ∀ r ∈ a.xs, r.xs.length ≤ 4294967296) :
   VC Try.prog 100 [.d (dSl (cS cI) a)] (fun n r => ∃ y : Sl Ints, r = .d (dSl (cS cI) y) ∧ plS (plS plI) y = plS (plS plI) a ∧ okS (okS okI) y ∧ Good (cS (cS cI) y) (whS (whS whI) y) n) := by
  refine VC.of E s100 (by kernel_rfl) Try.func100 (by rfl) (by kernel_rfl) (by simp [Try.f100]) (by simp [Try.f100]) s100_ok fun B => ?_
  simp [Try.f100, dSl]
  refine loop_ruleL (X := Nat × List (Sl Int)) (fun p h => p.1 ≤ a.xs.length ∧ p.2.length = p.1 ∧ p.2.map (plS plI) = (a.xs.map (plS plI)).take p.1 ∧ (∀ y ∈ p.2, okS okI y) ∧ GoodL (cS cI) (whS whI) B h p.2)
    (fun p => [(3, .own 16 0 p.1), (6, .d (.sl a.id a.T (a.xs.map (cS cI)))), (7, .d (.int .i64 a.xs.length)), (8, .d (.int .i64 p.1))]) (fun p => [(16, some (.row 88 1 (p.2.map (cS cI))))]) (fun p => a.xs.length - p.1) ?_ ?_
  · refine (lead_slot 3 16 88 1 (by omega) (by omega) (by simp)).bind ?_
    rintro _ rfl
    exact Lead.of ⟨(0, []), ⟨by simp, rfl, by simp, by simp, GoodL.nil⟩, rfl, rfl, Nat.le_refl _, by simp, by simp⟩
  · rintro ⟨i, ys⟩ hs t m ⟨hi, hyl, hpl, hok, hgd⟩ hh
    simp only at hi hyl hpl hok hgd
    by_cases hlt : i < a.xs.length
    · have hwi := wr1 (i := i) (by omega)
      have hmem : a.xs[i] ∈ a.xs := List.getElem_mem _
      have hL : LenOk 24 (i + 1) := ⟨by omega, by simp only [maxLen]; omega⟩
      simp [cS, hlt]
      refine call_some (w_impl_copyInts a.xs[i] (ha.2 _ hmem) (hb2 _ hmem)) rfl (by simp) fun n hs' r hn hn' hp hr => ?_
      obtain ⟨y, rfl, hy1, hy2, hy3⟩ := hp
      simp at hn
      have hr' : ∀ g ∈ idsL (cS cI y), g < hs' := fun g hg => hr g (by rw [idsL_cS] at hg; exact hg)
      simp [cS, dSl, hyl, hL, hwi]
      refine back2 (i + 1, ys ++ [y]) ⟨by omega, by simp [hyl], ?_, ?_, GoodL.snoc hgd (by omega) hn' hy3 hr'⟩ (by simp; omega) rfl (by simp <;> omega) (by simp) (by simp [cS, dSl])
      · simp only [List.map_append, hpl, List.map_cons, List.map_nil, hy1]
        rw [List.take_succ_eq_append_getElem (by simpa using hlt)]; simp
      · intro y' hy'
        rcases List.mem_append.1 hy' with h | h
        · exact hok y' h
        · rw [List.mem_singleton.1 h]; exact hy2
    · have hn : i = a.xs.length := by omega
      subst hn
      simp [hyl]
      intro γ hs' h1 hg
      obtain ⟨q1, q2⟩ := gam_at hg (k := 16) (T := 88) (sz := 1) (es := ys.map (cS cI)) (by simp)
      have q3 := gam_row hg (k := 16) (T := 88) (sz := 1) (es := ys.map (cS cI)) (by simp)
      clear hg
      refine ⟨⟨γ 16, some (88, 1), ys⟩, ⟨rfl, rfl, by simp [List.take_of_length_le, hyl]⟩, by rw [List.take_of_length_le (by simp)] at hpl; exact hpl, ⟨by simp only [maxLen]; show ys.length ≤ _; omega, hok⟩, good_row (fun g hg => (q1 g hg).1) (by simpa using q2) q3 ⟨hgd.nd, hgd.lo⟩ hgd.wh⟩

end Go.Proofs.Ytfpohhabemnnfaa

namespace Go.Proofs.Ytfpohhabemnnfaa
open Go.Vs Go.Proofs Go
set_option maxRecDepth 100000
set_option maxHeartbeats 1000000

theorem t_impl_NormalizeDelta (d : Db) (x : Delta) (hd : okDb d) (hx : okDelta x) : VC Try.prog 21 [.agg ((cDb d).map V.d), .agg ((cDelta x).map V.d)]
   (fun n r => ∃ y : Delta, r = .tup [.agg ((cDelta y).map V.d), .d (.bool (fitB (plDb d) (plDelta x)))] ∧ plDelta y = norP (plDb d) (plDelta x) ∧ okDelta y ∧ Good (cDelta y) (whDelta y) n) := by
  refine VC.of E s21 (by kernel_rfl) Try.func21 (by rfl) (by kernel_rfl) (by simp [Try.f21]) (by simp [Try.f21]) s21_ok fun B => ?_
  obtain ⟨nm, ⟨ia, ⟨iid, iT, il⟩⟩, ⟨da, ⟨did, dT, dl⟩⟩⟩ := x
  obtain ⟨X, hX⟩ : ∃ X, X = plDelta ⟨nm, ⟨ia, ⟨iid, iT, il⟩⟩, ⟨da, ⟨did, dT, dl⟩⟩⟩ := ⟨_, rfl⟩
  have hXn : X.name = nm := by rw [hX]; rfl
  have hXi : X.ins = ⟨ia, il.map (plS plI)⟩ := by rw [hX]; rfl
  have hXd : X.del = ⟨da, dl.map (plS plI)⟩ := by rw [hX]; rfl
  rw [← hX]
  simp [Try.f21, s21_9, s21_15, s21_9, s21_15, cDb, cDelta, cReln, cStr, cS, cI, dSl]
  refine call_p (w_impl_applicable (plDb d) X) (by simp [hX, eDb, plDb, er_Tab, eDelta, plDelta, eReln, plReln, plStr, plI, pS, cP, cI, cStr, plS, erLL_map er_cI, erLL_map (er_cS er_cI), erLL_map er_cTab, map_plI]) fun hs1 hh1 hl1 => ?_
  simp at hh1
  obtain ⟨⟨ra, rl⟩, hr⟩ : ∃ r, r = lkR (plDb d) X.name := ⟨_, rfl⟩
  rw [← hr]
  cases h1 : fitB (plDb d) X
  · simp [eReln, s21_9, s21_15, ]
    exact ⟨⟨[], ⟨0, nilS⟩, ⟨0, nilS⟩⟩, by simp [nilS], by simp [norP, h1, plDelta, plReln, plStr, plI, nilS, plS], ⟨by simp [okStr], ⟨trivial, ok_nilS⟩, ⟨trivial, ok_nilS⟩⟩, good_Delta0 B⟩
  simp [eReln, cI, pS, cP, s21_9, s21_15, ]
  have h1' := h1
  simp only [fitB, Bool.and_eq_true, decide_eq_true_eq] at h1'
  obtain ⟨⟨⟨⟨g1, g2⟩, g3⟩, g4⟩, g5⟩ := h1'
  have g0 := lk_ok g1
  rw [← hr] at g0
  rw [hXi] at g2
  rw [hXd] at g3
  simp only at g0 g2 g3
  have hrl := rowsOk_len g0
  have hil := rowsOk_len g2
  have hdl := rowsOk_len g3
  have hil' : il.length ≤ 4000 := by simpa using hil
  have hdl' : dl.length ≤ 4000 := by simpa using hdl
  have hi5 : ∀ y ∈ il, y.xs.length ≤ 4294967296 := fun y hy => by
    have := rowsOk_row g2 (plS plI y) (List.mem_map_of_mem hy)
    simp only [plS, List.length_map] at this; omega
  have hd5 : ∀ y ∈ dl, y.xs.length ≤ 4294967296 := fun y hy => by
    have := rowsOk_row g3 (plS plI y) (List.mem_map_of_mem hy)
    simp only [plS, List.length_map] at this; omega
  refine loop_ruleL (X := Nat × List Ints) (NorI (norI ⟨ra, rl⟩) (il.map (plS plI)) B) (fun p => [(3, .ptr 3 0 0), (4, .ptr 4 0 0), (6, .ptr 6 0 0), (8, .ptr 8 0 0), (33, .d (.sl iid iT (il.map (cS cI)))), (34, .d (.int .i64 il.length)), (35, .d (.int .i64 p.1))])
    (fun p => [(3, some (.box [.d (.str nm), .d (.int .i64 ia), .d (.sl iid iT (il.map (cS cI))), .d (.int .i64 da), .d (.sl did dT (dl.map (cS cI)))])), (4, some (.box [.d (.str []), .d (.int .i64 0), .d (.sl none none []), .d (.int .i64 0), .d (.sl none none [])])), (6, some (.box [.d (.int .i64 ra), .d (.pl (rl.map (cP cI)))])),
      (8, some (.box [.d (.str nm), .d (.int .i64 ra), .own 49 0 p.2.length, .d (.int .i64 ra), .d (.sl none none [])])), (49, some (.row 88 1 (p.2.map (cS cI))))]) (fun p => il.length - p.1) ?_ ?_
  · refine (lead_box 8 2 49 88 1 [.d (.str nm), .d (.int .i64 ra), .d (.sl none none []), .d (.int .i64 ra), .d (.sl none none [])] (by omega) (by omega) (by omega) (by simp) rfl).bind ?_
    rintro _ rfl
    exact Lead.of ⟨(0, []), .zero (by simp [norI]), rfl, rfl, Nat.le_refl _, by simp [dSl], by simp [cP, cI]⟩
  rintro ⟨i, ys⟩ hs t m hI hh
  have hile := hI.le
  simp only [List.length_map] at hile
  have hyl : ys.length ≤ i := by
    have e := congrArg List.length hI.pl
    have h2 := norI_len ⟨ra, rl⟩ ((il.map (plS plI)).take i)
    simp only [List.length_map] at e
    rw [List.length_take] at h2
    omega
  by_cases hlt : i < il.length
  · have hwi := wr1 (i := i) (by omega)
    have hlt' : i < (il.map (plS plI)).length := by simpa using hlt
    have hst := norI_step (r := ⟨ra, rl⟩) hlt'
    have hge : (il.map (plS plI))[i] = plS plI il[i] := by simp
    rw [hge] at hst
    have hmem := List.getElem_mem hlt
    have hL : LenOk 24 (ys.length + 1) := ⟨by omega, by simp only [maxLen]; omega⟩
    refine anyQ2 fun Q => ?_
    simp [hlt, cS, cI, s21_9, s21_15, ]
    refine call_f (w_impl_ContainsRow ⟨ra, rl⟩ (plS plI il[i]) (by show rl.length ≤ _; omega)) (by simp [eReln, pS, cP, cI, plS, erLL_map er_cI, map_plI, dSl]) rfl fun hs2 hh2 => ?_
    simp at hh2
    cases h2 : hasR ⟨ra, rl⟩ (plS plI il[i])
    · rw [h2] at hst
      simp only [Bool.false_eq_true, if_false] at hst
      simp [hlt, s21_9, s21_15, ]
      refine call_some (w_impl_copyInts il[i] (hx.2.1.2.2 _ hmem) (hi5 _ hmem)) (by simp [dSl]) (by simp) fun n3 hs3 r3 hn3 hm3 hp3 hr3 => ?_
      obtain ⟨y, rfl, hy1, hy2, hy3⟩ := hp3
      simp at hn3
      have hr3' : ∀ g ∈ idsL (cS cI y), g < hs3 := fun g hg => hr3 g (by rw [idsL_cS] at hg; exact hg)
      simp [cS, cI, dSl, hL, hwi, s21_9, s21_15, ]
      exact back2 (i + 1, ys ++ [y]) (hI.snoc hlt' (by rw [hst, hge]) (by rw [hy1, hge]) hy2 (by omega) hm3 hy3 hr3') (by simp only; omega) rfl (by simp <;> omega) (by simp) (by simp [cS, cI, dSl])
    · rw [h2] at hst
      simp only [if_true, List.append_nil] at hst
      simp [hwi, s21_9, s21_15, ]
      exact back2 (i + 1, ys) (hI.skip hlt' hst (by omega)) (by simp only; omega) rfl (by simp <;> omega) (by simp) (by simp [cS, cI, dSl])
  have hia : i = il.length := by omega
  have hpl1 : ys.map (plS plI) = norI ⟨ra, rl⟩ (il.map (plS plI)) := by
    have := hI.pl
    simp only at this
    rwa [List.take_of_length_le (by simp; omega)] at this
  simp [hlt, s21_9, s21_15, ]
  obtain ⟨H, hH⟩ : ∃ H, H = hs := ⟨_, rfl⟩
  have hhi : ∀ g ∈ idsLL (ys.map (cS cI)), g < H := fun g hg => by rw [hH]; exact hI.good.hi g hg
  have hHB : B ≤ H := by omega
  refine loop_ruleL (X := Nat × List Ints) (NorI (norD ⟨ra, rl⟩ X.ins) (dl.map (plS plI)) H) (fun p => [(3, .ptr 3 0 0), (4, .ptr 4 0 0), (6, .ptr 6 0 0), (8, .ptr 8 0 0), (55, .d (.sl did dT (dl.map (cS cI)))), (56, .d (.int .i64 dl.length)), (57, .d (.int .i64 p.1))])
    (fun p => [(3, some (.box [.d (.str nm), .d (.int .i64 ia), .d (.sl iid iT (il.map (cS cI))), .d (.int .i64 da), .d (.sl did dT (dl.map (cS cI)))])), (4, some (.box [.d (.str []), .d (.int .i64 0), .d (.sl none none []), .d (.int .i64 0), .d (.sl none none [])])), (6, some (.box [.d (.int .i64 ra), .d (.pl (rl.map (cP cI)))])),
      (8, some (.box [.d (.str nm), .d (.int .i64 ra), .own 49 0 ys.length, .d (.int .i64 ra), .own 77 0 p.2.length])), (49, some (.row 88 1 (ys.map (cS cI)))), (77, some (.row 88 1 (p.2.map (cS cI))))]) (fun p => dl.length - p.1) ?_ ?_
  · refine (lead_box 8 4 77 88 1 [.d (.str nm), .d (.int .i64 ra), .own 49 0 ys.length, .d (.int .i64 ra), .d (.sl none none [])] (by omega) (by omega) (by omega) (by simp) rfl).bind ?_
    rintro _ rfl
    exact Lead.of ⟨(0, []), .zero (by simp [norD]), rfl, rfl, Nat.le_refl _, by simp, by simp [cP, cI]⟩
  rintro ⟨k, zs⟩ hs t m hJ hh
  have hkle := hJ.le
  simp only [List.length_map] at hkle
  have hzl : zs.length ≤ k := by
    have e := congrArg List.length hJ.pl
    have h2 := norD_len ⟨ra, rl⟩ X.ins ((dl.map (plS plI)).take k)
    simp only [List.length_map] at e
    rw [List.length_take] at h2
    omega
  by_cases hkt : k < dl.length
  · have hwk := wr1 (i := k) (by omega)
    have hkt' : k < (dl.map (plS plI)).length := by simpa using hkt
    have hst := norD_step (r := ⟨ra, rl⟩) (s := X.ins) hkt'
    have hge : (dl.map (plS plI))[k] = plS plI dl[k] := by simp
    rw [hge] at hst
    have hmem := List.getElem_mem hkt
    have hL : LenOk 24 (zs.length + 1) := ⟨by omega, by simp only [maxLen]; omega⟩
    refine anyQ2 fun Q => ?_
    simp [hkt, cS, cI, s21_9, s21_15, ]
    refine call_f (w_impl_ContainsRow ⟨ra, rl⟩ (plS plI dl[k]) (by show rl.length ≤ _; omega)) (by simp [eReln, pS, cP, cI, plS, erLL_map er_cI, map_plI, dSl]) rfl fun hs2 hh2 => ?_
    simp at hh2
    cases h2 : hasR ⟨ra, rl⟩ (plS plI dl[k])
    · rw [h2, Bool.false_and] at hst
      simp only [Bool.false_eq_true, if_false, List.append_nil] at hst
      simp [hwk, s21_9, s21_15, ]
      exact back2 (k + 1, zs) (hJ.skip hkt' hst (by omega)) (by simp only; omega) rfl (by simp <;> omega) (by simp) (by simp [cS, cI, dSl])
    rw [h2, Bool.true_and] at hst
    simp [hkt, cS, cI, dSl, s21_9, s21_15, ]
    refine call_f (w_impl_ContainsRow X.ins (plS plI dl[k]) (by rw [hXi]; simp; omega)) (by simp [hXi, eReln, pS, cP, cI, plS, erLL_map er_cI, erLL_map (er_cS er_cI), map_plI, dSl]) rfl fun hs4 hh4 => ?_
    simp at hh4
    cases h4 : hasR X.ins (plS plI dl[k])
    · rw [h4] at hst
      simp only [Bool.not_false, if_true] at hst
      simp [hkt, s21_9, s21_15, ]
      refine call_some (w_impl_copyInts dl[k] (hx.2.2.2.2 _ hmem) (hd5 _ hmem)) (by simp [dSl]) (by simp) fun n3 hs3 r3 hn3 hm3 hp3 hr3 => ?_
      obtain ⟨y, rfl, hy1, hy2, hy3⟩ := hp3
      simp at hn3
      have hr3' : ∀ g ∈ idsL (cS cI y), g < hs3 := fun g hg => hr3 g (by rw [idsL_cS] at hg; exact hg)
      simp [cS, cI, dSl, hL, hwk, s21_9, s21_15, ]
      exact back2 (k + 1, zs ++ [y]) (hJ.snoc hkt' (by rw [hst, hge]) (by rw [hy1, hge]) hy2 (by omega) hm3 hy3 hr3') (by simp only; omega) rfl (by simp <;> omega) (by simp) (by simp [cS, cI, dSl])
    · rw [h4] at hst
      simp only [Bool.not_true, Bool.false_eq_true, if_false, List.append_nil] at hst
      simp [hwk, s21_9, s21_15, ]
      exact back2 (k + 1, zs) (hJ.skip hkt' hst (Nat.le_trans hh2 hh4)) (by simp only; omega) rfl (by simp <;> omega) (by simp) (by simp [cS, cI, dSl])
  have hpl2 : zs.map (plS plI) = norD ⟨ra, rl⟩ X.ins (dl.map (plS plI)) := by
    have := hJ.pl
    simp only at this
    rwa [List.take_of_length_le (by simp; omega)] at this
  simp [hkt, s21_9, s21_15, ]
  intro γ hs' h2' hg
  obtain ⟨q1, q2⟩ := gam_at hg (k := 49) (T := 88) (sz := 1) (es := ys.map (cS cI)) (by simp)
  obtain ⟨q3, q4⟩ := gam_at hg (k := 77) (T := 88) (sz := 1) (es := zs.map (cS cI)) (by simp)
  have r1 := gam_row hg (k := 49) (T := 88) (sz := 1) (es := ys.map (cS cI)) (by simp)
  have r2 := gam_row hg (k := 77) (T := 88) (sz := 1) (es := zs.map (cS cI)) (by simp)
  have r3 := gam_row2 hg (k := 49) (T := 88) (sz := 1) (es := ys.map (cS cI)) (k2 := 77) (T2 := 88) (sz2 := 1) (es2 := zs.map (cS cI)) (by simp) (by simp)
  have r4 := gam_row2 hg (k := 77) (T := 88) (sz := 1) (es := zs.map (cS cI)) (k2 := 49) (T2 := 88) (sz2 := 1) (es2 := ys.map (cS cI)) (by simp) (by simp)
  have r5 : ∀ g, γ 49 = some g → γ 77 = some g → False := fun g h h' => by
    have := hg.ne 49 77 (.row 88 1 (ys.map (cS cI))) (.row 88 1 (zs.map (cS cI))) g (by simp) (by simp) h h'
    omega
  clear hg
  have hp1 : ∀ l : List Ints, hpLL (l.map (cS cI)) = false := fun l => hpLL_map (fun a => by simp) _
  simp [hp1, List.take_of_length_le]
  refine ⟨⟨nm, ⟨ra, ⟨γ 49, some (88, 1), ys⟩⟩, ⟨ra, ⟨γ 77, some (88, 1), zs⟩⟩⟩, by simp, ?_, ⟨hx.1, ⟨trivial, ⟨by simp only [maxLen]; show ys.length ≤ _; omega, hI.ok⟩⟩, ⟨trivial, ⟨by simp only [maxLen]; show zs.length ≤ _; omega, hJ.ok⟩⟩⟩, ?_⟩
  · have e : norP (plDb d) X = ⟨X.name, ⟨ra, norI ⟨ra, rl⟩ X.ins.rows⟩, ⟨ra, norD ⟨ra, rl⟩ X.ins X.del.rows⟩⟩ := by
      simp only [norP, h1, if_true, ← hr]
    have e2 : plDelta ⟨nm, ⟨ra, ⟨γ 49, some (88, 1), ys⟩⟩, ⟨ra, ⟨γ 77, some (88, 1), zs⟩⟩⟩ = ⟨nm, ⟨ra, ys.map (plS plI)⟩, ⟨ra, zs.map (plS plI)⟩⟩ := rfl
    rw [e, e2, hXn, hXi, hXd, hpl1, hpl2, hXi]
  · have := good_Delta2 (nm := nm) (a1 := ra) (a2 := ra) (T1 := (88, 1)) (T2 := (88, 1)) hI.good.nd (hI.good.lo) hI.good.wh hJ.good.nd (fun g hg => by have := hJ.good.lo g hg; omega) hJ.good.wh
      (fun g hg hg' => by have a1 := hhi g hg; have a2 := hJ.good.lo g hg'; omega) (fun g h => ⟨(q1 g h).1, r1 g h, r3 g h⟩) (by simpa using q2) (fun g h => ⟨(q3 g h).1, r2 g h, r4 g h⟩) (by simpa using q4) r5
    exact this

end Go.Proofs.Ytfpohhabemnnfaa

namespace Go.Proofs.Ytfpohhabemnnfaa
open Go.Vs Go.Proofs Go
set_option maxRecDepth 100000
set_option maxHeartbeats 1000000

section
attribute [local simp] plI_id plStr_id map_plI map_plStr
theorem e_impl_copyInts (l : List Int) (hb : l.length ≤ 4294967296) :
   VC Try.prog 64 [.d (pS cI l)] (fun n r => ∃ y : Ints, r = .d (dSl cI y) ∧ plS plI y = l ∧ okS okI y ∧ Good (cS cI y) (whS whI y) n) := by
  refine VC.of E s64 (by kernel_rfl) Try.func64 (by rfl) (by kernel_rfl) (by simp [Try.f64]) (by simp [Try.f64]) s64_ok fun B => ?_
  have hL : LenOk 8 l.length := ⟨by omega, by simp only [maxLen]; omega⟩
  simp [Try.f64, pS, hL, cI]
  intro γ hs' h1 hg
  obtain ⟨q1, q2⟩ := gam_at hg (k := 3) (T := 3) (sz := 1) (es := l.map cI) (by simp [cI])
  have q3 := gam_row hg (k := 3) (T := 3) (sz := 1) (es := l.map cI) (by simp [cI])
  clear hg
  have hp : hpLL (l.map cI) = false := hpLL_mapI l
  refine ⟨⟨γ 3, some (3, 1), l⟩, by simp [dSl, List.take_of_length_le, cI], by simp [plS], ⟨by simp only [maxLen]; omega, fun _ _ => trivial⟩, good_row (fun g hg => (q1 g hg).1) (by simpa using q2) q3 ⟨by simp, by simp⟩ (by simp [whI])⟩
theorem e_impl_copyRowsT (l : List (List Int)) (hb : l.length ≤ 4294967296) (hb2 : ∀ r ∈ l, r.length ≤ 4294967296) :
   VC Try.prog 100 [.d (pS (cP cI) l)] (fun n r => ∃ y : Sl Ints, r = .d (dSl (cS cI) y) ∧ plS (plS plI) y = l ∧ okS (okS okI) y ∧ Good (cS (cS cI) y) (whS (whS whI) y) n ∧ y.T = some (88, 1)) := by
  refine VC.of E s100 (by kernel_rfl) Try.func100 (by rfl) (by kernel_rfl) (by simp [Try.f100]) (by simp [Try.f100]) s100_ok fun B => ?_
  simp [Try.f100, pS]
  refine loop_ruleL (X := Nat × List Ints) (CopI (cS cI) (whS whI) (okS okI) (plS plI) l B) (fun p => [(3, .own 16 0 p.2.length), (6, .d (.pl (l.map (cP cI)))), (7, .d (.int .i64 l.length)), (8, .d (.int .i64 p.1))]) (fun p => [(16, some (.row 88 1 (p.2.map (cS cI))))]) (fun p => l.length - p.1) ?_ ?_
  · refine (lead_slot 3 16 88 1 (by omega) (by omega) (by simp)).bind ?_
    rintro _ rfl
    exact Lead.of ⟨(0, []), .zero, rfl, rfl, Nat.le_refl _, by simp, by simp⟩
  rintro ⟨i, ys⟩ hs t m hI hh
  have hle := hI.le
  have hyl := hI.len
  simp only at hle
  by_cases hlt : i < l.length
  · have hwi := wr1 (i := i) (by omega)
    have hL : LenOk 24 (ys.length + 1) := ⟨by omega, by simp only [maxLen]; omega⟩
    simp [hlt, cP, pS, ]
    refine call_some (e_impl_copyInts l[i] (hb2 _ (List.getElem_mem hlt))) (by simp [pS]) (by simp) fun n hs' r hn hn' hp hr => ?_
    obtain ⟨y, rfl, hy1, hy2, hy3⟩ := hp
    simp at hn
    have hr' : ∀ g ∈ idsL (cS cI y), g < hs' := fun g hg => hr g (by rw [idsL_cS] at hg; exact hg)
    simp [cS, dSl, hL, hwi, ]
    exact back2 (i + 1, ys ++ [y]) (hI.snoc hlt hy1 hy2 (by omega) hn' hy3 hr') (by simp only; omega) rfl (by simp <;> omega) (by simp [cP, pS]) (by simp [cS, dSl])
  · have hall := hI.all (by omega)
    simp [hlt, ]
    intro γ hs' h1 hg
    obtain ⟨q1, q2⟩ := gam_at hg (k := 16) (T := 88) (sz := 1) (es := ys.map (cS cI)) (by simp)
    have q3 := gam_row hg (k := 16) (T := 88) (sz := 1) (es := ys.map (cS cI)) (by simp)
    clear hg
    have hp : hpLL (ys.map (cS cI)) = false := hpLL_mapS ys
    refine ⟨⟨γ 16, some (88, 1), ys⟩, by simp [dSl, List.take_of_length_le], by simpa [plS] using hall, ⟨by simp only [maxLen]; show ys.length ≤ _; omega, hI.ok⟩, good_row (fun g hg => (q1 g hg).1) (by simpa using q2) q3 ⟨hI.good.nd, hI.good.lo⟩ hI.good.wh, rfl⟩
theorem e_impl_copyRows (l : List (List Int)) (hb : l.length ≤ 4294967296) (hb2 : ∀ r ∈ l, r.length ≤ 4294967296) :
   VC Try.prog 100 [.d (pS (cP cI) l)] (fun n r => ∃ y : Sl Ints, r = .d (dSl (cS cI) y) ∧ plS (plS plI) y = l ∧ okS (okS okI) y ∧ Good (cS (cS cI) y) (whS (whS whI) y) n) :=
  (e_impl_copyRowsT l hb hb2).weak fun _ _ ⟨y, h1, h2, h3, h4, _⟩ => ⟨y, h1, h2, h3, h4⟩
theorem e_impl_copyRows0 : VC Try.prog 100 [.d (pS (cP cI) [])] (fun _ r => r = .d (.sl none none [])) := by
  refine VC.of E s100 (by kernel_rfl) Try.func100 (by rfl) (by kernel_rfl) (by simp [Try.f100]) (by simp [Try.f100]) s100_ok fun B => ?_
  simp [Try.f100, pS]
  refine loop_rule (X := Unit) (fun _ => True) (fun _ => [(3, .d (.sl none none [])), (6, .d (.pl [])), (7, .d (.int .i64 0)), (8, .d (.int .i64 0))]) (fun _ => []) (fun _ => 0) () trivial (by simp) (by simp) ?_
  intro i hs t m hi hh
  simp []
theorem e_impl_copyRelation (r : PReln) (hb : r.rows.length ≤ 4294967296) (hb2 : ∀ x ∈ r.rows, x.length ≤ 4294967296) :
   VC Try.prog 98 [.agg ((eReln r).map V.d)] (fun n v => ∃ y : Reln, v = .agg ((cReln y).map V.d) ∧ plReln y = r ∧ okReln y ∧ Good (cReln y) (whReln y) n) := by
  refine VC.of E s98 (by kernel_rfl) Try.func98 (by rfl) (by kernel_rfl) (by simp [Try.f98]) (by simp [Try.f98]) s98_ok fun B => ?_
  simp [Try.f98, s98_1, s98_1, eReln, cI, cP]
  refine call_some (e_impl_copyRows r.rows hb hb2) (by simp [pS]) (by simp) fun n1 hs1 r1 hn1 hm1 hp1 hr1 => ?_
  obtain ⟨y, rfl, p1, k1, G1⟩ := hp1
  simp at hn1
  simp [s98_1, ]
  exact ⟨⟨r.ar, y⟩, by simp [cReln, cI, cS], by rw [plReln]; simp only; rw [p1]; rfl, ⟨trivial, k1⟩, good_Reln G1 (by omega)⟩
end

end Go.Proofs.Ytfpohhabemnnfaa

namespace Go.Proofs.Ytfpohhabemnnfaa
open Go.Vs Go.Proofs Go
set_option maxRecDepth 100000
set_option maxHeartbeats 1000000

theorem w_spec_l5Sort : ∀ (n : Nat) (l : List (List Int)), l.length ≤ n → l.length ≤ 4294967296 → VC Try.prog 111 [.d (pS (cP cI) l)] (fun _ r => r = .d (pS (cP cI) (srtU l))) := by
  intro n
  induction n with
  | zero =>
    intro l hn hb
    have : l = [] := List.length_eq_zero_iff.1 (by omega)
    subst this
    refine VC.ofL EP s111 (by kernel_rfl) Try.func111 (by rfl) (by kernel_rfl) (by simp [Try.f111]) (by simp [Try.f111]) s111_ok fun B hl => ?_
    simp [Try.f111, s111_13, srtU]
  | succ n ih =>
  intro l hn hb
  refine VC.ofL EP s111 (by kernel_rfl) Try.func111 (by rfl) (by kernel_rfl) (by simp [Try.f111]) (by simp [Try.f111]) s111_ok fun B hl => ?_
  by_cases h2 : l.length < 2
  · have e : srtU l = l := srtU_id (by
      match l, h2 with
      | [], _ => exact .nil
      | [_], _ => simp
      | _ :: _ :: _, h => simp only [List.length_cons] at h; omega)
    simp [Try.f111, s111_13, show ((l.length : Int) < 2) by omega, e]
  obtain ⟨k, hk⟩ : ∃ k, k = l.length / 2 := ⟨_, rfl⟩
  have hm : IntKind.i64.wrap ((l.length : Int) / 2) = (k : Int) := by rw [wrap64_of (by omega) (by omega)]; omega
  simp [Try.f111, s111_13, show ¬ ((l.length : Int) < 2) by omega, hm, show k ≤ l.length by omega]
  refine call_p (ih (l.take k) (by simp; omega) (by simp; omega)) (by simp [List.map_take]) fun hs1 hh1 _ => ?_
  simp at hh1
  simp [hm, show k ≤ l.length by omega, List.take_of_length_le]
  refine call_p (ih (l.drop k) (by simp; omega) (by simp; omega)) (by simp [List.map_drop]) fun hs2 hh2 _ => ?_
  simp at hh2
  simp
  have hst := MI.start l k
  generalize srtU (l.take k) = a0 at hst
  generalize srtU (l.drop k) = b0 at hst
  refine loop_rule (X := List (List Int) × List (List Int) × List (List Int)) (fun p => MI l p.1 p.2.1 p.2.2)
    (fun p => [(4, .d (.pl (p.1.map (cP cI)))), (5, .d (.pl (p.2.1.map (cP cI)))), (6, .own 24 0 p.2.2.length)]) (fun p => [(24, some (.row 88 1 (p.2.2.map (cP cI))))]) (fun p => p.1.length + p.2.1.length) (a0, b0, []) hst (by simp) (by simp) ?_
  rintro ⟨a, b, out⟩ hs t m hI hh
  simp only at hI
  have hlen := hI.len
  have hL24 : LenOk 24 1 := ⟨by omega, by simp only [maxLen]; omega⟩
  have hpa : ∀ a : List (List Int), (0 : Int) < (a.length : Int) + 1 := fun a => by omega
  have hpb : ∀ a : List (List Int), ¬ (a.length : Int) + 1 = 0 := fun a => by omega
  have hqa : (0 : Int) < 1 := by omega
  have hqb : ¬ (0 : Int) < -1 := by omega
  rcases a with _ | ⟨x, a⟩
  · rcases b with _ | ⟨y, b⟩
    · have hd := hI.done
      subst hd
      simp [List.take_of_length_le]
    · refine anyQ fun Q => ?_
      have hc0 : True := trivial
      have hI' := hI.swap
      have hL := hI'.left (by simp)
      rcases nil_or_snoc out with rfl | ⟨o, z, rfl⟩
      · simp [hc0, hpa, hpb, hqa, hqb, List.take_of_length_le, cP, hL24, s111_13, ]
        exact back ([], b, [y]) (MI.swap (hL.2 (by simp))) (by simp <;> omega) rfl (by simp <;> omega) (by simp) (by simp)
      · simp only [List.length_append, List.length_cons, List.length_nil] at hlen
        have hw : IntKind.i64.wrap (o.length : Int) = o.length := wrap64_of (by omega) (by omega)
        have hix : (o.map (cP cI) ++ [[D.pl (z.map cI)]])[o.length]? = some [D.pl (z.map cI)] := by rw [List.getElem?_append_right (by simp)]; simp
        simp [hc0, hpa, hpb, hqa, hqb, List.take_of_length_le, hw, hix, cP, s111_13, ]
        refine call_f (w_spec_CompareRows z y) (by simp) rfl fun hs3 hh3 => ?_
        simp at hh3
        by_cases e : z = y
        · subst e
          simp [cmpL_self]
          exact back ([], b, o ++ [z]) (MI.swap (hL.1 (hI'.last.2 rfl))) (by simp <;> omega) rfl (by simp <;> omega) (by simp) (by simp)
        · have e' : ¬ cmpL z y = 0 := fun h => e ((cmpL_zero _ _).1 h)
          simp [e', show LenOk 24 (o.length + 1 + 1) from ⟨by omega, by simp only [maxLen]; omega⟩, cP]
          exact back ([], b, o ++ [z] ++ [y]) (MI.swap (hL.2 fun h => e (hI'.last.1 h))) (by simp <;> omega) rfl (by simp <;> omega) (by simp) (by simp)
  · rcases b with _ | ⟨y, b⟩
    · refine anyQ fun Q => ?_
      have hc0 : True := trivial
      have hL := hI.left (by simp)
      rcases nil_or_snoc out with rfl | ⟨o, z, rfl⟩
      · simp [hc0, hpa, hpb, hqa, hqb, List.take_of_length_le, cP, hL24, s111_13, ]
        exact back (a, [], [x]) ((hL.2 (by simp))) (by simp <;> omega) rfl (by simp <;> omega) (by simp) (by simp)
      · simp only [List.length_append, List.length_cons, List.length_nil] at hlen
        have hw : IntKind.i64.wrap (o.length : Int) = o.length := wrap64_of (by omega) (by omega)
        have hix : (o.map (cP cI) ++ [[D.pl (z.map cI)]])[o.length]? = some [D.pl (z.map cI)] := by rw [List.getElem?_append_right (by simp)]; simp
        simp [hc0, hpa, hpb, hqa, hqb, List.take_of_length_le, hw, hix, cP, s111_13, ]
        refine call_f (w_spec_CompareRows z x) (by simp) rfl fun hs3 hh3 => ?_
        simp at hh3
        by_cases e : z = x
        · subst e
          simp [cmpL_self]
          exact back (a, [], o ++ [z]) ((hL.1 (hI.last.2 rfl))) (by simp <;> omega) rfl (by simp <;> omega) (by simp) (by simp)
        · have e' : ¬ cmpL z x = 0 := fun h => e ((cmpL_zero _ _).1 h)
          simp [e', show LenOk 24 (o.length + 1 + 1) from ⟨by omega, by simp only [maxLen]; omega⟩, cP]
          exact back (a, [], o ++ [z] ++ [x]) ((hL.2 fun h => e (hI.last.1 h))) (by simp <;> omega) rfl (by simp <;> omega) (by simp) (by simp)
    · refine anyQ fun Q => ?_
      simp [cP, hpa, hpb, s111_13, ]
      refine call_f (w_spec_CompareRows x y) (by simp) rfl fun hs0 hh0 => ?_
      simp at hh0
      by_cases hc0 : 0 < cmpL x y
      · have hI' := hI.swap
        have hL := hI'.left (hI.hr hc0)
        rcases nil_or_snoc out with rfl | ⟨o, z, rfl⟩
        · simp [hc0, hpa, hpb, hqa, hqb, List.take_of_length_le, cP, hL24, s111_13, ]
          exact back ((x :: a), b, [y]) (MI.swap (hL.2 (by simp))) (by simp <;> omega) rfl (by simp <;> omega) (by simp) (by simp)
        · simp only [List.length_append, List.length_cons, List.length_nil] at hlen
          have hw : IntKind.i64.wrap (o.length : Int) = o.length := wrap64_of (by omega) (by omega)
          have hix : (o.map (cP cI) ++ [[D.pl (z.map cI)]])[o.length]? = some [D.pl (z.map cI)] := by rw [List.getElem?_append_right (by simp)]; simp
          simp [hc0, hpa, hpb, hqa, hqb, List.take_of_length_le, hw, hix, cP, s111_13, ]
          refine call_f (w_spec_CompareRows z y) (by simp) rfl fun hs3 hh3 => ?_
          simp at hh3
          by_cases e : z = y
          · subst e
            simp [cmpL_self]
            exact back ((x :: a), b, o ++ [z]) (MI.swap (hL.1 (hI'.last.2 rfl))) (by simp <;> omega) rfl (by simp <;> omega) (by simp) (by simp)
          · have e' : ¬ cmpL z y = 0 := fun h => e ((cmpL_zero _ _).1 h)
            simp [e', show LenOk 24 (o.length + 1 + 1) from ⟨by omega, by simp only [maxLen]; omega⟩, cP]
            exact back ((x :: a), b, o ++ [z] ++ [y]) (MI.swap (hL.2 fun h => e (hI'.last.1 h))) (by simp <;> omega) rfl (by simp <;> omega) (by simp) (by simp)
      · 
        have hL := hI.left (hI.hl hc0)
        rcases nil_or_snoc out with rfl | ⟨o, z, rfl⟩
        · simp [hc0, hpa, hpb, hqa, hqb, List.take_of_length_le, cP, hL24, s111_13, ]
          exact back (a, (y :: b), [x]) ((hL.2 (by simp))) (by simp <;> omega) rfl (by simp <;> omega) (by simp) (by simp)
        · simp only [List.length_append, List.length_cons, List.length_nil] at hlen
          have hw : IntKind.i64.wrap (o.length : Int) = o.length := wrap64_of (by omega) (by omega)
          have hix : (o.map (cP cI) ++ [[D.pl (z.map cI)]])[o.length]? = some [D.pl (z.map cI)] := by rw [List.getElem?_append_right (by simp)]; simp
          simp [hc0, hpa, hpb, hqa, hqb, List.take_of_length_le, hw, hix, cP, s111_13, ]
          refine call_f (w_spec_CompareRows z x) (by simp) rfl fun hs3 hh3 => ?_
          simp at hh3
          by_cases e : z = x
          · subst e
            simp [cmpL_self]
            exact back (a, (y :: b), o ++ [z]) ((hL.1 (hI.last.2 rfl))) (by simp <;> omega) rfl (by simp <;> omega) (by simp) (by simp)
          · have e' : ¬ cmpL z x = 0 := fun h => e ((cmpL_zero _ _).1 h)
            simp [e', show LenOk 24 (o.length + 1 + 1) from ⟨by omega, by simp only [maxLen]; omega⟩, cP]
            exact back (a, (y :: b), o ++ [z] ++ [x]) ((hL.2 fun h => e (hI.last.1 h))) (by simp <;> omega) rfl (by simp <;> omega) (by simp) (by simp)

end Go.Proofs.Ytfpohhabemnnfaa

namespace Go.Proofs.Ytfpohhabemnnfaa
open Go.Vs Go.Proofs Go
set_option maxRecDepth 100000
set_option maxHeartbeats 1000000

theorem w_spec_NewRelation (ar : Int) (l : List (List Int)) (hb : l.length ≤ 4294967296) (hn : ∀ x ∈ l, x.length ≤ 4294967296) : VC Try.prog 97 [.d (.int .i64 ar), .d (pS (cP cI) l)] (fun _ v => v = .tup [.agg ((eReln (newR ar l)).map .d), .d (.bool (newB ar l))]) := by
  refine VC.ofL EP s97 (by kernel_rfl) Try.func97 (by rfl) (by kernel_rfl) (by simp [Try.f97]) (by simp [Try.f97]) s97_ok fun B hl => ?_
  simp [Try.f97, eReln]
  refine loop_rule (X := Nat) (fun i => i ≤ l.length ∧ AllTo (fun r : List Int => decide ((r.length : Int) = ar) && valsOk r) l i) (fun i => [(0, .d (.int .i64 ar)), (1, .d (.pl (l.map (cP cI)))), (4, .ptr 4 0 0), (6, .d (.int .i64 i))])
    (fun i => [(4, some (.box [.d (.int .i64 0), .d (.sl none none [])]))]) (fun i => l.length - i) 0 ⟨by simp, allTo_zero⟩ (by simp) (by simp) ?_
  intro i hs t m hi hh
  by_cases hlt : i < l.length
  · have hwi := wr1 (i := i) (by omega)
    by_cases hln : (l[i].length : Int) = ar
    · simp [hlt, hln, cP, ]
      refine call_f (w_spec_AreValidValues l[i]) (by simp) rfl fun hs1 hh1 => ?_
      simp at hh1
      cases hv : valsOk l[i]
      · have hbad := all_bad (p := fun r : List Int => decide ((r.length : Int) = ar) && valsOk r) hlt (by simp [hv])
        simp [newR, newB, hbad, eReln]
      · simp [hwi]
        exact back (i + 1) ⟨by omega, allTo_step hi.2 hlt (by simp [hv, hln])⟩ (by omega) rfl (by simp <;> omega) (by simp) (by simp)
    · have hbad := all_bad (p := fun r : List Int => decide ((r.length : Int) = ar) && valsOk r) hlt (by simp [hln])
      simp [hlt, hln, newR, newB, hbad, eReln, ]
  · have hd := allTo_done hi.2 (by omega)
    have hsl := srtU_len l
    simp [hlt, ]
    refine call_p (w_spec_l5Sort _ l (Nat.le_refl _) hb) (by simp) fun hs1 hh1 _ => ?_
    simp at hh1
    simp []
    refine call_p (w_spec_l5Copy ⟨ar, srtU l⟩ (by simp; omega) (fun x hx => hn x ((srtU_mem l x).1 hx))) (by simp [eReln]) fun hs2 hh2 _ => ?_
    simp at hh2
    simp [eReln]
    refine call_f (w_spec_IsValidRelation ⟨ar, srtU l⟩) (by simp [eReln]) rfl fun hs3 hh3 => ?_
    simp at hh3
    cases h1 : rowsOk ar (srtU l)
    · simp [newR, newB, h1, eReln]
    · simp [newR, newB, h1, hd, eReln]

end Go.Proofs.Ytfpohhabemnnfaa

namespace Go.Proofs.Ytfpohhabemnnfaa
open Go.Vs Go.Proofs Go
set_option maxRecDepth 100000
set_option maxHeartbeats 1000000

section
attribute [local simp] plI_id plStr_id map_plI map_plStr pS cP cI cStr cU8 cB
theorem q_impl_Difference (a b : PReln) : VC Try.prog 73 [.agg ((eReln a).map V.d), .agg ((eReln b).map V.d)] (fun _ v => v = .tup [.agg ((eReln (difR a b)).map V.d), .d (.bool (difB a b))]) := by
  refine VC.ofL EP s73 (by kernel_rfl) Try.func73 (by rfl) (by kernel_rfl) (by simp [Try.f73]) (by simp [Try.f73]) s73_ok fun B hl => ?_
  obtain ⟨aa, al⟩ := a
  obtain ⟨ba, bl⟩ := b
  simp [Try.f73, s73_8, eReln]
  refine call_f (w_impl_IsValidRelation ⟨aa, al⟩) (by simp [eReln]) rfl fun hs1 hh1 => ?_
  simp at hh1
  cases h1 : rowsOk aa al
  · simp [difR, difB, h1, eReln]
  simp
  refine call_f (w_impl_IsValidRelation ⟨ba, bl⟩) (by simp [eReln]) rfl fun hs2 hh2 => ?_
  simp at hh2
  cases h2 : rowsOk ba bl
  · simp [difR, difB, h1, h2, eReln]
  by_cases h3 : aa = ba
  case neg => simp [difR, difB, h1, h2, h3, eReln]
  subst h3
  have hdb : difB ⟨aa, al⟩ ⟨aa, bl⟩ = true := by simp [difB, h1, h2]
  have hdr : difR ⟨aa, al⟩ ⟨aa, bl⟩ = ⟨aa, difL al bl⟩ := by simp only [difR, hdb, if_true]
  rw [hdb, hdr]
  have hal := rowsOk_len h1
  have hbl := rowsOk_len h2
  have hrow := rowsOk_row h1
  simp
  refine loop_ruleL (X := Nat) (fun i _ => i ≤ al.length) (fun i => [(2, .ptr 2 0 0), (3, .ptr 3 0 0), (4, .ptr 4 0 0), (6, .ptr 6 0 0), (29, .d (.pl (al.map (cP cI)))), (30, .d (.int .i64 al.length)), (31, .d (.int .i64 i))])
    (fun i => [(2, some (.box [.d (.int .i64 aa), .d (.pl (al.map (cP cI)))])), (3, some (.box [.d (.int .i64 aa), .d (.pl (bl.map (cP cI)))])), (4, some (.box [.d (.int .i64 0), .d (.sl none none [])])), (6, some (.box [.d (.int .i64 aa), .own 44 0 (difL (al.take i) bl).length])), (44, some (.row 88 1 ((difL (al.take i) bl).map (cP cI))))]) (fun i => al.length - i) ?_ ?_
  · refine (lead_box 6 1 44 88 1 [.d (.int .i64 aa), .d (.sl none none [])] (by omega) (by omega) (by omega) (by simp) rfl).bind ?_
    rintro _ rfl
    exact Lead.of ⟨0, by omega, rfl, rfl, Nat.le_refl _, by simp, by simp [difL]⟩
  intro i hs t m hi hh
  by_cases hlt : i < al.length
  · have hwi := wr1 (i := i) (by omega)
    have hst := difL_step (b := bl) hlt
    have hdl := difL_len (al.take i) bl
    rw [List.length_take] at hdl
    have hL1 : LenOk 8 al[i].length := by
      have := hrow _ (List.getElem_mem hlt)
      exact ⟨by omega, by simp only [maxLen]; omega⟩
    have hL2 : LenOk 24 ((difL (al.take i) bl).length + 1) := ⟨by omega, by simp only [maxLen]; omega⟩
    simp [hlt, s73_8, ]
    refine call_f (VC.to (w_impl_ContainsRow ⟨aa, bl⟩ al[i] (by show bl.length ≤ _; omega)) (show _ = V.d (.bool (placeB bl al[i])) by simp [hasR, h2])) (by simp [eReln]) rfl fun hs3 hh3 => ?_
    simp at hh3
    cases h4 : placeB bl al[i]
    · rw [h4] at hst
      simp only [Bool.false_eq_true, if_false] at hst
      simp [hlt, s73_8, ]
      refine call_p (q_impl_copyInts al[i] (by have := hrow _ (List.getElem_mem hlt); omega)) (by simp) fun hs4 hh4 hl4 => ?_
      simp at hh4
      simp [hwi, hL2, s73_8, ]
      exact back2 (i + 1) (by omega) (by omega) rfl (by simp <;> omega) (by simp) (by simp [hst])
    · rw [h4] at hst
      simp only [if_true, List.append_nil] at hst
      simp [hwi, s73_8, ]
      exact back2 (i + 1) (by omega) (by omega) rfl (by simp <;> omega) (by simp) (by simp [hst])
  · have hn : i = al.length := by omega
    subst hn
    simp [List.take_of_length_le]
theorem w_spec_Union (a b : PReln) : VC Try.prog 69 [.agg ((eReln a).map V.d), .agg ((eReln b).map V.d)] (fun _ v => v = .tup [.agg ((eReln (uniR a b)).map V.d), .d (.bool (uniB a b))]) := by
  refine VC.ofL EP s69 (by kernel_rfl) Try.func69 (by rfl) (by kernel_rfl) (by simp [Try.f69]) (by simp [Try.f69]) s69_ok fun B hl => ?_
  obtain ⟨aa, al⟩ := a
  obtain ⟨ba, bl⟩ := b
  simp [Try.f69, s69_3, eReln]
  refine call_f (w_spec_IsValidRelation ⟨aa, al⟩) (by simp [eReln]) rfl fun hs1 hh1 => ?_
  simp at hh1
  cases h1 : rowsOk aa al
  · simp [uniR, uniB, difB, h1, eReln]
  simp
  refine call_f (w_spec_IsValidRelation ⟨ba, bl⟩) (by simp [eReln]) rfl fun hs2 hh2 => ?_
  simp at hh2
  cases h2 : rowsOk ba bl
  · simp [uniR, uniB, difB, h1, h2, eReln]
  by_cases h3 : aa = ba
  case neg => simp [uniR, uniB, difB, h1, h2, h3, eReln]
  subst h3
  have hdb : difB ⟨aa, al⟩ ⟨aa, bl⟩ = true := by simp [difB, h1, h2]
  obtain ⟨z1, z2, z3, z4⟩ := difB_len hdb
  simp only at z3 z4
  have hL1 : LenOk 24 al.length := ⟨by omega, by simp only [maxLen]; omega⟩
  have hL2 : LenOk 24 (al.length + bl.length) := ⟨by omega, by simp only [maxLen]; omega⟩
  have hN := w_spec_NewRelation aa (al ++ bl) (by simp; omega) (fun x hx => by
    rcases List.mem_append.1 hx with h | h
    · exact z1.2 x h
    · exact z2.2 x h)
  simp [hL1, hL2, List.take_of_length_le, s69_3, ]
  repeat' apply And.intro
  all_goals
    refine call_p hN (by simp [List.take_of_length_le]) fun hs3 hh3 hl3 => ?_
    simp [uniR, uniB, hdb, eReln, s69_3, ]
end

end Go.Proofs.Ytfpohhabemnnfaa

namespace Go.Proofs.Ytfpohhabemnnfaa
open Go.Vs Go.Proofs Go
set_option maxRecDepth 100000
set_option maxHeartbeats 1000000

theorem e_impl_sorted : ∀ (n : Nat) (l : List (List Int)), l.length ≤ n → l.length ≤ 4294967296 → (∀ r ∈ l, r.length ≤ 4294967296) →
   VC Try.prog 113 [.d (pS (cP cI) l)] (fun m r => ∃ y : Sl Ints, r = .d (dSl (cS cI) y) ∧ plS (plS plI) y = srtU l ∧ okS (okS okI) y ∧ Good (cS (cS cI) y) (whS (whS whI) y) m) := by
  intro n
  induction n with
  | zero =>
    intro l hn hb hb2
    have : l = [] := List.length_eq_zero_iff.1 (by omega)
    subst this
    refine VC.of E s113 (by kernel_rfl) Try.func113 (by rfl) (by kernel_rfl) (by simp [Try.f113]) (by simp [Try.f113]) s113_ok fun B => ?_
    simp [Try.f113, s113_4, s113_11, s113_4, s113_11, pS]
    refine call_some (e_impl_copyRows [] (by simp) (by simp)) (by simp [pS]) (by simp) fun n1 hs1 r1 hn1 hm1 hp1 hr1 => ?_
    obtain ⟨y, rfl, p1, k1, G1⟩ := hp1
    simp at hn1
    simp
    exact ⟨y, rfl, by rw [p1]; rfl, k1, G1.le (by omega)⟩
  | succ n ih =>
  intro l hn hb hb2
  refine VC.of E s113 (by kernel_rfl) Try.func113 (by rfl) (by kernel_rfl) (by simp [Try.f113]) (by simp [Try.f113]) s113_ok fun B => ?_
  by_cases h2 : l.length < 2
  · have e : srtU l = l := srtU_id (by
      match l, h2 with
      | [], _ => exact .nil
      | [_], _ => simp
      | _ :: _ :: _, h => simp only [List.length_cons] at h; omega)
    simp [Try.f113, s113_4, s113_11, s113_4, s113_11, pS, show ((l.length : Int) < 2) by omega]
    refine call_some (e_impl_copyRows l hb hb2) (by simp [pS]) (by simp) fun n1 hs1 r1 hn1 hm1 hp1 hr1 => ?_
    obtain ⟨y, rfl, p1, k1, G1⟩ := hp1
    simp at hn1
    simp
    exact ⟨y, rfl, by rw [p1, e], k1, G1.le (by omega)⟩
  obtain ⟨k, hk⟩ : ∃ k, k = l.length / 2 := ⟨_, rfl⟩
  have hm : IntKind.i64.wrap ((l.length : Int) / 2) = (k : Int) := by rw [wrap64_of (by omega) (by omega)]; omega
  have hkl : k ≤ l.length := by omega
  simp [Try.f113, s113_4, s113_11, s113_4, s113_11, pS, show ¬ ((l.length : Int) < 2) by omega, hm, hkl]
  have hA := ih (l.take k) (by simp; omega) (by simp; omega) (fun r hr => hb2 r (List.mem_of_mem_take hr))
  have hB' := ih (l.drop k) (by simp; omega) (by simp; omega) (fun r hr => hb2 r (List.mem_of_mem_drop hr))
  simp only [pS, List.map_take] at hA
  simp only [pS, List.map_drop] at hB'
  refine call_some hA (by simp) (by simp) fun n1 hs1 r1 hn1 hm1 hp1 hr1 => ?_
  obtain ⟨ya, rfl, p1, k1, G1⟩ := hp1
  simp at hn1
  simp [hm, hkl, List.take_of_length_le, s113_4, s113_11, ]
  refine call_some hB' (by simp) (by simp) fun n2 hs2 r2 hn2 hm2 hp2 hr2 => ?_
  obtain ⟨yb, rfl, p2, k2, G2⟩ := hp2
  simp at hn2
  have hst := MJ.start l k
  rw [← p1, ← p2] at hst
  obtain ⟨aid, aT, as_⟩ := ya
  obtain ⟨bid, bT, bs_⟩ := yb
  have u1 : ∀ g ∈ idsLL (as_.map (cS cI)), g < hs1 := fun g hg => hr1 g (by rw [V.ids]; exact mem_sl_ids.2 (.inr hg))
  have own0 : OwnR B ([] ++ (as_ ++ bs_)) := by
    have g1 := G1.nd
    have g2 := G2.nd
    rw [idsL_cS] at g1 g2
    have h1 := (sl_nd g1).1
    have h2 := (sl_nd g2).1
    have e : idsLL ((as_ ++ bs_).map (cS cI)) = idsLL (as_.map (cS cI)) ++ idsLL (bs_.map (cS cI)) := by rw [List.map_append, idsLL_append]
    have l1 : ∀ g ∈ idsLL (as_.map (cS cI)), B ≤ g := fun g hg => by have := G1.lo g (by rw [idsL_cS]; exact mem_sl_ids.2 (.inr hg)); omega
    have l2 : ∀ g ∈ idsLL (bs_.map (cS cI)), n2 ≤ g := fun g hg => G2.lo g (by rw [idsL_cS]; exact mem_sl_ids.2 (.inr hg))
    refine ⟨?_, ?_, fun r hr => ?_, fun r hr => ?_⟩
    · rw [List.nil_append, e]
      exact List.nodup_append.2 ⟨h1, h2, fun x hx y hy hxy => by subst hxy; have := u1 x hx; have := l2 x hy; omega⟩
    · intro g hg
      rw [List.nil_append, e] at hg
      rcases List.mem_append.1 hg with h | h
      · exact l1 g h
      · have := l2 g h; omega
    · rcases (by simpa using hr : r ∈ as_ ∨ r ∈ bs_) with h | h
      · exact G1.wh.2 r h
      · exact G2.wh.2 r h
    · rcases (by simpa using hr : r ∈ as_ ∨ r ∈ bs_) with h | h
      · exact k1.2 r h
      · exact k2.2 r h
  clear hr1 hr2 u1
  simp [dSl, s113_4, s113_11, ]
  refine loop_ruleL (X := List Ints × List Ints × List Ints × Option (TypeId × Nat) × Option (TypeId × Nat)) (fun p _ => SrtI l B p) (fun p => [(4, .d (.sl aid p.2.2.2.1 (p.1.map (cS cI)))), (5, .d (.sl bid p.2.2.2.2 (p.2.1.map (cS cI)))), (6, .own 52 0 p.2.2.1.length)])
    (fun p => [(52, some (.row 88 1 (p.2.2.1.map (cS cI))))]) (fun p => p.1.length + p.2.1.length) ?_ ?_
  · refine (lead_slot 6 52 88 1 (by omega) (by omega) (by simp)).bind ?_
    rintro _ rfl
    exact Lead.of ⟨(as_, bs_, [], aT, bT), ⟨hst, own0⟩, rfl, rfl, Nat.le_refl _, by simp, by simp⟩
  rintro ⟨a, b, o, Ta, Tb⟩ hs t m hI hh
  have hlen := hI.mj.len
  simp only [List.length_map] at hlen
  have hpa : ∀ a : List Ints, (0 : Int) < (a.length : Int) + 1 := fun a => by omega
  have hpb : ∀ a : List Ints, ¬ (a.length : Int) + 1 = 0 := fun a => by omega
  rcases a with _ | ⟨x, a⟩
  · rcases b with _ | ⟨y, b⟩
    · have hd := hI.mj.done
      simp only at hd
      simp [s113_4, s113_11, ]
      intro γ hs' h1 hg
      obtain ⟨q1, q2⟩ := gam_at hg (k := 52) (T := 88) (sz := 1) (es := o.map (cS cI)) (by simp)
      have q3 := gam_row hg (k := 52) (T := 88) (sz := 1) (es := o.map (cS cI)) (by simp)
      clear hg
      have hown : OwnR B o := by have := hI.own; simpa using this
      have hp : hpLL (o.map (cS cI)) = false := hpLL_mapS o
      simp only [List.length_nil] at hlen
      exact ⟨⟨γ 52, some (88, 1), o⟩, by simp [dSl, List.take_of_length_le], by simpa [plS] using hd, ⟨by simp only [maxLen]; show o.length ≤ _; omega, hown.ok⟩, good_row (fun g hg => (q1 g hg).1) (by simpa using q2) q3 ⟨hown.nd, hown.lo⟩ hown.wh⟩
    · simp only [List.length_cons, List.length_nil] at hlen
      have hL : LenOk 24 (o.length + 1) := ⟨by omega, by simp only [maxLen]; omega⟩
      refine anyQ2 fun Q => ?_
      simp [hpa, hpb, hL, cS, dSl, s113_4, s113_11, ]
      exact back2 ([], b, o ++ [y], Ta, (if bid.isSome = true then none else Tb)) (hI.right (by simp)) (by simp <;> omega) rfl (by simp <;> omega) (by simp [cS, dSl, List.take_of_length_le]) (by simp [cS, dSl])
  · rcases b with _ | ⟨y, b⟩
    · simp only [List.length_cons, List.length_nil] at hlen
      have hL : LenOk 24 (o.length + 1) := ⟨by omega, by simp only [maxLen]; omega⟩
      refine anyQ2 fun Q => ?_
      simp [hpa, hpb, hL, cS, dSl, s113_4, s113_11, ]
      exact back2 (a, [], o ++ [x], (if aid.isSome = true then none else Ta), Tb) (hI.left (by simp)) (by simp <;> omega) rfl (by simp <;> omega) (by simp [cS, dSl, List.take_of_length_le]) (by simp [cS, dSl])
    · simp only [List.length_cons] at hlen
      have hL : LenOk 24 (o.length + 1) := ⟨by omega, by simp only [maxLen]; omega⟩
      have hM := hI.mj
      simp only [List.map_cons] at hM
      refine anyQ2 fun Q => ?_
      simp [hpa, hpb, cS, dSl, s113_4, s113_11, ]
      refine call_f (w_impl_CompareRows (plS plI x) (plS plI y)) (by simp [plS, pS, erLL_map er_cI, map_plI]) rfl fun hs3 hh3 => ?_
      simp at hh3
      by_cases c1 : cmpL (plS plI x) (plS plI y) < 0
      · have c2 : cmpL (plS plI x) (plS plI y) ≤ 0 := by omega
        have c3 : ¬ 0 ≤ cmpL (plS plI x) (plS plI y) := by omega
        simp [c2, c3, hL, cS, dSl, s113_4, s113_11, ]
        exact back2 (a, y :: b, o ++ [x], (if aid.isSome = true then none else Ta), Tb) (hI.left (hM.less c1)) (by simp <;> omega) rfl (by simp <;> omega) (by simp [cS, dSl, List.take_of_length_le]) (by simp [cS, dSl])
      by_cases c4 : cmpL (plS plI x) (plS plI y) = 0
      · have e := (cmpL_zero _ _).1 c4
        simp [c4, hL, cS, dSl, s113_4, s113_11, ]
        exact back2 (a, b, o ++ [x], (if aid.isSome = true then none else Ta), (if bid.isSome = true then none else Tb)) (hI.both e) (by simp <;> omega) rfl (by simp <;> omega) (by simp [cS, dSl, List.take_of_length_le]) (by simp [cS, dSl])
      · have c2 : ¬ cmpL (plS plI x) (plS plI y) ≤ 0 := by omega
        have c3 : 0 ≤ cmpL (plS plI x) (plS plI y) := by omega
        have c5 : 0 < cmpL (plS plI x) (plS plI y) := by omega
        have c6 : cmpL (plS plI y) (plS plI x) < 0 := by have := cmpL_swap (plS plI x) (plS plI y); omega
        simp [c2, c3, c5, hL, cS, dSl, s113_4, s113_11, ]
        exact back2 (x :: a, b, o ++ [y], Ta, (if bid.isSome = true then none else Tb)) (hI.right (hM.swap.less c6)) (by simp <;> omega) rfl (by simp <;> omega) (by simp [cS, dSl, List.take_of_length_le]) (by simp [cS, dSl])

end Go.Proofs.Ytfpohhabemnnfaa
