/-
  Sched1: a part of a proof of this seat: the value-level semantics of Go code without maps (Vs), its walk rules (Vt), the frame of a row (Vr), facts of types, schedules, walks. It holds of every program and state that its hypotheses name.
-/
import Derived.Test.YtfebikihnljjoaaFacts1
set_option linter.unusedSimpArgs false
set_option linter.unusedVariables false
namespace Go.Proofs.Ytfebikihnljjoaa
open Go.Vs Go.Proofs Go

/-- the functions that write what they are handed -/
def E (f : FuncId) : Bool := [25, 29, 44, 48, 49].contains f

theorem E25 : E 25 = true := rfl
theorem E29 : E 29 = true := rfl
theorem E44 : E 44 = true := rfl
theorem E48 : E 48 = true := rfl
theorem E49 : E 49 = true := rfl
/-- the orders of laws.FnExactChecksumOf -/
def s3 (_ : Nat) : Tr := .nil
theorem s3_ok : okCode E 15 s3 (Try.f3.body.getD .skip) = true := by kernel_rfl
/-- the orders of laws.FnExactIsValidDisk -/
def s4 (i : Nat) : Tr := if i = 10 then .seq [0, 1, 2, 3, 4] .nil else .nil
theorem s4_10 : s4 10 = .seq [0, 1, 2, 3, 4] .nil := rfl
theorem s4_ok : okCode E 27 s4 (Try.f4.body.getD .skip) = true := by kernel_rfl
/-- the orders of laws.FnExactReadFile -/
def s5 (i : Nat) : Tr := if i = 12 then .seq [0, 1, 2, 3, 4] .nil else .nil
theorem s5_12 : s5 12 = .seq [0, 1, 2, 3, 4] .nil := rfl
theorem s5_ok : okCode E 47 s5 (Try.f5.body.getD .skip) = true := by kernel_rfl
/-- the orders of laws.FnExactEqualCounted -/
def s6 (i : Nat) : Tr := if i = 8 then .seq [0, 2, 1, 3, 4, 5] .nil else if i = 14 then .seq [0, 1, 2, 3, 4] .nil else if i = 16 then .seq [0, 1, 2, 3, 4] .nil else .nil
theorem s6_8 : s6 8 = .seq [0, 2, 1, 3, 4, 5] .nil := rfl
theorem s6_14 : s6 14 = .seq [0, 1, 2, 3, 4] .nil := rfl
theorem s6_16 : s6 16 = .seq [0, 1, 2, 3, 4] .nil := rfl
theorem s6_ok : okCode E 45 s6 (Try.f6.body.getD .skip) = true := by kernel_rfl
/-- the orders of laws.FnExactWriteFile -/
def s7 (i : Nat) : Tr := if i = 14 then .seq [0, 1, 2, 3, 4] .nil else .nil
theorem s7_14 : s7 14 = .seq [0, 1, 2, 3, 4] .nil := rfl
theorem s7_ok : okCode E 85 s7 (Try.f7.body.getD .skip) = true := by kernel_rfl
/-- the orders of laws.FnExactNegateCounted -/
def s8 (i : Nat) : Tr := if i = 10 then .seq [0, 1, 2, 3, 4] .nil else .nil
theorem s8_10 : s8 10 = .seq [0, 1, 2, 3, 4] .nil := rfl
theorem s8_ok : okCode E 69 s8 (Try.f8.body.getD .skip) = true := by kernel_rfl
/-- the orders of spec.ChecksumOf -/
def s9 (_ : Nat) : Tr := .nil
theorem s9_ok : okCode E 21 s9 (Try.f9.body.getD .skip) = true := by kernel_rfl
/-- the orders of impl.ChecksumOf -/
def s10 (_ : Nat) : Tr := .nil
theorem s10_ok : okCode E 21 s10 (Try.f10.body.getD .skip) = true := by kernel_rfl
/-- the orders of laws.szDisk -/
def s11 (_ : Nat) : Tr := .nil
theorem s11_ok : okCode E 12 s11 (Try.f11.body.getD .skip) = true := by kernel_rfl
/-- the orders of spec.IsValidDisk -/
def s12 (i : Nat) : Tr := if i = 4 then .seq [0, 1, 2, 3, 4, 5, 6, 7, 8, 9, 10, 11, 12, 13] .nil else .nil
theorem s12_4 : s12 4 = .seq [0, 1, 2, 3, 4, 5, 6, 7, 8, 9, 10, 11, 12, 13] .nil := rfl
theorem s12_ok : okCode E 25 s12 (Try.f12.body.getD .skip) = true := by kernel_rfl
/-- the orders of laws.toDisk -/
def s13 (_ : Nat) : Tr := .nil
theorem s13_ok : okCode E 9 s13 (Try.f13.body.getD .skip) = true := by kernel_rfl
/-- the orders of impl.IsValidDisk -/
def s14 (i : Nat) : Tr := if i = 4 then .seq [0, 1, 2, 3, 4, 5, 6, 7, 8, 9, 10, 11, 12, 13] .nil else .nil
theorem s14_4 : s14 4 = .seq [0, 1, 2, 3, 4, 5, 6, 7, 8, 9, 10, 11, 12, 13] .nil := rfl
theorem s14_ok : okCode E 25 s14 (Try.f14.body.getD .skip) = true := by kernel_rfl
/-- the orders of laws.eqDisk -/
def s15 (_ : Nat) : Tr := .nil
theorem s15_ok : okCode E 11 s15 (Try.f15.body.getD .skip) = true := by kernel_rfl
/-- the orders of spec.ReadFile -/
def s16 (_ : Nat) : Tr := .nil
theorem s16_ok : okCode E 28 s16 (Try.f16.body.getD .skip) = true := by kernel_rfl
/-- the orders of impl.ReadFile -/
def s17 (_ : Nat) : Tr := .nil
theorem s17_ok : okCode E 22 s17 (Try.f17.body.getD .skip) = true := by kernel_rfl
/-- the orders of laws.szCountedRelation -/
def s18 (_ : Nat) : Tr := .nil
theorem s18_ok : okCode E 18 s18 (Try.f18.body.getD .skip) = true := by kernel_rfl
/-- the orders of spec.EqualCounted -/
def s19 (_ : Nat) : Tr := .nil
theorem s19_ok : okCode E 27 s19 (Try.f19.body.getD .skip) = true := by kernel_rfl
/-- the orders of laws.toCountedRelation -/
def s20 (_ : Nat) : Tr := .nil
theorem s20_ok : okCode E 16 s20 (Try.f20.body.getD .skip) = true := by kernel_rfl
/-- the orders of impl.EqualCounted -/
def s21 (_ : Nat) : Tr := .nil
theorem s21_ok : okCode E 24 s21 (Try.f21.body.getD .skip) = true := by kernel_rfl
/-- the orders of laws.eqCountedRelation -/
def s22 (_ : Nat) : Tr := .nil
theorem s22_ok : okCode E 22 s22 (Try.f22.body.getD .skip) = true := by kernel_rfl
/-- the orders of spec.WriteFile -/
def s23 (_ : Nat) : Tr := .nil
theorem s23_ok : okCode E 61 s23 (Try.f23.body.getD .skip) = true := by kernel_rfl
/-- the orders of impl.WriteFile -/
def s24 (_ : Nat) : Tr := .nil
theorem s24_ok : okCode E 56 s24 (Try.f24.body.getD .skip) = true := by kernel_rfl
/-- the orders of laws.markDisk -/
def s25 (_ : Nat) : Tr := .nil
theorem s25_ok : okCode E 10 s25 (Try.f25.body.getD .skip) = true := by kernel_rfl
/-- the orders of laws.heldDisk -/
def s26 (_ : Nat) : Tr := .nil
theorem s26_ok : okCode E 12 s26 (Try.f26.body.getD .skip) = true := by kernel_rfl
/-- the orders of spec.NegateCounted -/
def s27 (i : Nat) : Tr := if i = 6 then .seq [0, 1, 2, 3, 4, 5, 6, 7, 8, 9, 10, 11] .nil else .nil
theorem s27_6 : s27 6 = .seq [0, 1, 2, 3, 4, 5, 6, 7, 8, 9, 10, 11] .nil := rfl
theorem s27_ok : okCode E 34 s27 (Try.f27.body.getD .skip) = true := by kernel_rfl
/-- the orders of impl.NegateCounted -/
def s28 (i : Nat) : Tr := if i = 5 then .seq [0, 1, 2, 3, 4, 5, 6, 7, 8, 9, 10] .nil else .nil
theorem s28_5 : s28 5 = .seq [0, 1, 2, 3, 4, 5, 6, 7, 8, 9, 10] .nil := rfl
theorem s28_ok : okCode E 25 s28 (Try.f28.body.getD .skip) = true := by kernel_rfl
/-- the orders of laws.markCountedRelation -/
def s29 (_ : Nat) : Tr := .nil
theorem s29_ok : okCode E 14 s29 (Try.f29.body.getD .skip) = true := by kernel_rfl
/-- the orders of laws.heldCountedRelation -/
def s30 (_ : Nat) : Tr := .nil
theorem s30_ok : okCode E 18 s30 (Try.f30.body.getD .skip) = true := by kernel_rfl
/-- the orders of laws.szFileS -/
def s31 (_ : Nat) : Tr := .nil
theorem s31_ok : okCode E 27 s31 (Try.f31.body.getD .skip) = true := by kernel_rfl
/-- the orders of laws.toFileS -/
def s32 (_ : Nat) : Tr := .nil
theorem s32_ok : okCode E 23 s32 (Try.f32.body.getD .skip) = true := by kernel_rfl
/-- the orders of laws.eqFileS -/
def s33 (i : Nat) : Tr := if i = 6 then .seq [0, 1, 2, 3, 4, 5, 6, 7, 8, 9] .nil else .nil
theorem s33_6 : s33 6 = .seq [0, 1, 2, 3, 4, 5, 6, 7, 8, 9] .nil := rfl
theorem s33_ok : okCode E 27 s33 (Try.f33.body.getD .skip) = true := by kernel_rfl
/-- the orders of laws.szIntSS -/
def s34 (_ : Nat) : Tr := .nil
theorem s34_ok : okCode E 27 s34 (Try.f34.body.getD .skip) = true := by kernel_rfl
/-- the orders of laws.szIntS -/
def s35 (_ : Nat) : Tr := .nil
theorem s35_ok : okCode E 12 s35 (Try.f35.body.getD .skip) = true := by kernel_rfl
/-- the orders of spec.EqualRelations -/
def s36 (i : Nat) : Tr := if i = 6 then .seq [0, 1, 2, 3, 4, 5, 6, 7, 8, 9, 10, 11] .nil else .nil
theorem s36_6 : s36 6 = .seq [0, 1, 2, 3, 4, 5, 6, 7, 8, 9, 10, 11] .nil := rfl
theorem s36_ok : okCode E 39 s36 (Try.f36.body.getD .skip) = true := by kernel_rfl
/-- the orders of spec.CompareRows -/
def s37 (i : Nat) : Tr := if i = 4 then .seq [0, 1, 2, 3, 4, 5, 6, 7, 8] .nil else if i = 6 then .seq [0, 1, 2, 3, 4, 5, 6, 7, 8] .nil else .nil
theorem s37_4 : s37 4 = .seq [0, 1, 2, 3, 4, 5, 6, 7, 8] .nil := rfl
theorem s37_6 : s37 6 = .seq [0, 1, 2, 3, 4, 5, 6, 7, 8] .nil := rfl
theorem s37_ok : okCode E 46 s37 (Try.f37.body.getD .skip) = true := by kernel_rfl
/-- the orders of laws.toIntSS -/
def s38 (_ : Nat) : Tr := .nil
theorem s38_ok : okCode E 23 s38 (Try.f38.body.getD .skip) = true := by kernel_rfl
/-- the orders of laws.toIntS -/
def s39 (_ : Nat) : Tr := .nil
theorem s39_ok : okCode E 22 s39 (Try.f39.body.getD .skip) = true := by kernel_rfl
/-- the orders of impl.sameRows -/
def s40 (i : Nat) : Tr := if i = 6 then .seq [0, 1, 2, 3, 4, 5, 6, 7, 8, 9] .nil else .nil
theorem s40_6 : s40 6 = .seq [0, 1, 2, 3, 4, 5, 6, 7, 8, 9] .nil := rfl
theorem s40_ok : okCode E 27 s40 (Try.f40.body.getD .skip) = true := by kernel_rfl
/-- the orders of impl.sameInts -/
def s41 (i : Nat) : Tr := if i = 6 then .seq [0, 1, 2, 3, 4, 5, 6, 7, 8] .nil else .nil
theorem s41_6 : s41 6 = .seq [0, 1, 2, 3, 4, 5, 6, 7, 8] .nil := rfl
theorem s41_ok : okCode E 26 s41 (Try.f41.body.getD .skip) = true := by kernel_rfl
/-- the orders of laws.eqIntSS -/
def s42 (i : Nat) : Tr := if i = 6 then .seq [0, 1, 2, 3, 4, 5, 6, 7, 8, 9] .nil else .nil
theorem s42_6 : s42 6 = .seq [0, 1, 2, 3, 4, 5, 6, 7, 8, 9] .nil := rfl
theorem s42_ok : okCode E 27 s42 (Try.f42.body.getD .skip) = true := by kernel_rfl
/-- the orders of laws.eqIntS -/
def s43 (i : Nat) : Tr := if i = 6 then .seq [0, 1, 2, 3, 4, 5, 6, 7, 8] .nil else .nil
theorem s43_6 : s43 6 = .seq [0, 1, 2, 3, 4, 5, 6, 7, 8] .nil := rfl
theorem s43_ok : okCode E 26 s43 (Try.f43.body.getD .skip) = true := by kernel_rfl
/-- the orders of laws.markFileS -/
def s44 (_ : Nat) : Tr := .nil
theorem s44_ok : okCode E 29 s44 (Try.f44.body.getD .skip) = true := by kernel_rfl
/-- the orders of laws.heldFileS -/
def s45 (i : Nat) : Tr := if i = 4 then .seq [0, 1, 2, 3, 4, 5, 6, 7] .nil else if i = 7 then .seq [0, 1, 2, 3, 4, 5, 6, 7] .nil else .nil
theorem s45_4 : s45 4 = .seq [0, 1, 2, 3, 4, 5, 6, 7] .nil := rfl
theorem s45_7 : s45 7 = .seq [0, 1, 2, 3, 4, 5, 6, 7] .nil := rfl
theorem s45_ok : okCode E 33 s45 (Try.f45.body.getD .skip) = true := by kernel_rfl
/-- the orders of spec.l5Copy -/
def s46 (i : Nat) : Tr := if i = 5 then .seq [3, 4, 5, 6, 7] (.both (.seq [0] (.both (.seq [1, 2, 8, 9, 10, 11, 12] .nil) (.seq [2] (.both (.seq [1, 8, 9, 10, 11, 12] .nil) (.seq [8, 1, 9, 10, 11, 12] .nil))))) (.seq [2] (.both (.seq [0] (.both (.seq [1, 8, 9, 10, 11, 12] .nil) (.seq [8, 1, 9, 10, 11, 12] .nil))) (.seq [8, 0, 1, 9, 10, 11, 12] .nil)))) else .nil
theorem s46_5 : s46 5 = .seq [3, 4, 5, 6, 7] (.both (.seq [0] (.both (.seq [1, 2, 8, 9, 10, 11, 12] .nil) (.seq [2] (.both (.seq [1, 8, 9, 10, 11, 12] .nil) (.seq [8, 1, 9, 10, 11, 12] .nil))))) (.seq [2] (.both (.seq [0] (.both (.seq [1, 8, 9, 10, 11, 12] .nil) (.seq [8, 1, 9, 10, 11, 12] .nil))) (.seq [8, 0, 1, 9, 10, 11, 12] .nil)))) := rfl
theorem s46_ok : okCode E 28 s46 (Try.f46.body.getD .skip) = true := by kernel_rfl
/-- the orders of impl.copyCounted -/
def s47 (i : Nat) : Tr := if i = 1 then .seq [0, 1, 2, 3, 5, 6, 4, 7, 8, 9] .nil else .nil
theorem s47_1 : s47 1 = .seq [0, 1, 2, 3, 5, 6, 4, 7, 8, 9] .nil := rfl
theorem s47_ok : okCode E 12 s47 (Try.f47.body.getD .skip) = true := by kernel_rfl
/-- the orders of laws.markIntSS -/
def s48 (_ : Nat) : Tr := .nil
theorem s48_ok : okCode E 19 s48 (Try.f48.body.getD .skip) = true := by kernel_rfl
/-- the orders of laws.markIntS -/
def s49 (_ : Nat) : Tr := .nil
theorem s49_ok : okCode E 19 s49 (Try.f49.body.getD .skip) = true := by kernel_rfl
/-- the orders of laws.heldIntSS -/
def s50 (_ : Nat) : Tr := .nil
theorem s50_ok : okCode E 21 s50 (Try.f50.body.getD .skip) = true := by kernel_rfl
/-- the orders of laws.heldIntS -/
def s51 (_ : Nat) : Tr := .nil
theorem s51_ok : okCode E 21 s51 (Try.f51.body.getD .skip) = true := by kernel_rfl
/-- the orders of laws.szFile -/
def s52 (_ : Nat) : Tr := .nil
theorem s52_ok : okCode E 20 s52 (Try.f52.body.getD .skip) = true := by kernel_rfl
/-- the orders of laws.toFile -/
def s53 (_ : Nat) : Tr := .nil
theorem s53_ok : okCode E 11 s53 (Try.f53.body.getD .skip) = true := by kernel_rfl
/-- the orders of laws.eqFile -/
def s54 (_ : Nat) : Tr := .nil
theorem s54_ok : okCode E 15 s54 (Try.f54.body.getD .skip) = true := by kernel_rfl
/-- the orders of laws.markText -/
def s55 (_ : Nat) : Tr := .nil
theorem s55_ok : okCode E 20 s55 (Try.f55.body.getD .skip) = true := by kernel_rfl
/-- the orders of impl.copyRows -/
def s56 (_ : Nat) : Tr := .nil
theorem s56_ok : okCode E 19 s56 (Try.f56.body.getD .skip) = true := by kernel_rfl
/-- the orders of impl.copyInts -/
def s57 (_ : Nat) : Tr := .nil
theorem s57_ok : okCode E 6 s57 (Try.f57.body.getD .skip) = true := by kernel_rfl
end Go.Proofs.Ytfebikihnljjoaa
