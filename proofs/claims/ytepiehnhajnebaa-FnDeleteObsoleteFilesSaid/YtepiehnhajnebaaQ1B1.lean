/-
  Q1B1: a part of a proof of this seat: the value-level semantics of Go code without maps, its walk rules, the frame of a row, facts of types, schedules, walks, plain lemmas (Facts1 Sched1 H0 HP1 HP2 H1 HP3 P1 P1b P1c P1d F1 F2 Q1 V1 V2 V3 V4 P2 N1 N2 S3 N3 M1 P5 P5b M2 M3 M4 M5 M6 M7 M8 M9 M10 M11 M12 G1 G2 G3 G4 G5 G6 G7 G8). It holds of every program and state that its hypotheses name.
-/
import Derived.Test.YtepiehnhajnebaaQ1A4
import Derived.Test.YtepiehnhajnebaaProg
import Derived.KernelRfl
set_option linter.unusedSimpArgs false
set_option linter.unusedVariables false
set_option linter.unnecessarySimpa false
namespace Go.Proofs.Ytepiehnhajnebaa
open Go.Vs Go.Proofs

theorem tsz3 : tsz Try.prog 3 = some 1 := by kernel_rfl
theorem tsz5 : tsz Try.prog 5 = some 1 := by kernel_rfl
theorem tsz9 : tsz Try.prog 9 = some 1 := by kernel_rfl
theorem tsz22 : tsz Try.prog 22 = some 1 := by kernel_rfl
theorem tsz24 : tsz Try.prog 24 = some 1 := by kernel_rfl
theorem tsz26 : tsz Try.prog 26 = some 1 := by kernel_rfl
theorem tsz34 : tsz Try.prog 34 = some 2 := by kernel_rfl
theorem tsz35 : tsz Try.prog 35 = some 1 := by kernel_rfl
theorem tsz37 : tsz Try.prog 37 = some 1 := by kernel_rfl
theorem tsz61 : tsz Try.prog 61 = some 1 := by kernel_rfl
theorem tsz64 : tsz Try.prog 64 = some 1 := by kernel_rfl
theorem tsz66 : tsz Try.prog 66 = some 2 := by kernel_rfl
theorem tsz68 : tsz Try.prog 68 = some 3 := by kernel_rfl
theorem tsz82 : tsz Try.prog 82 = some 5 := by kernel_rfl
theorem tagg3 : tagg Try.prog 3 = some false := by kernel_rfl
theorem tagg5 : tagg Try.prog 5 = some false := by kernel_rfl
theorem tagg9 : tagg Try.prog 9 = some false := by kernel_rfl
theorem tagg22 : tagg Try.prog 22 = some false := by kernel_rfl
theorem tagg24 : tagg Try.prog 24 = some false := by kernel_rfl
theorem tagg26 : tagg Try.prog 26 = some true := by kernel_rfl
theorem tagg34 : tagg Try.prog 34 = some true := by kernel_rfl
theorem tagg35 : tagg Try.prog 35 = some false := by kernel_rfl
theorem tagg37 : tagg Try.prog 37 = some true := by kernel_rfl
theorem tagg61 : tagg Try.prog 61 = some false := by kernel_rfl
theorem tagg64 : tagg Try.prog 64 = some false := by kernel_rfl
theorem tagg66 : tagg Try.prog 66 = some true := by kernel_rfl
theorem tagg68 : tagg Try.prog 68 = some true := by kernel_rfl
theorem tagg82 : tagg Try.prog 82 = some true := by kernel_rfl
theorem tzero26 : tzero Try.prog 26 = some [.sl none none []] := by kernel_rfl
theorem tzero34 : tzero Try.prog 34 = some [.str [], .str []] := by kernel_rfl
theorem tzero37 : tzero Try.prog 37 = some [.sl none none []] := by kernel_rfl
theorem tzero66 : tzero Try.prog 66 = some [.int .i64 0, .sl none none []] := by kernel_rfl
theorem tzero68 : tzero Try.prog 68 = some [.str [], .int .i64 0, .sl none none []] := by kernel_rfl
theorem tzero79 : tzero Try.prog 79 = some [.sl none none [], .int .i64 0, .int .i64 0] := by kernel_rfl
theorem tzero82 : tzero Try.prog 82 = some [.str [], .int .i64 0, .sl none none [], .int .i64 0, .sl none none []] := by kernel_rfl
theorem tslice22 : tslice Try.prog 22 = some (5, 1, 1) := by kernel_rfl
theorem telem22 : telem Try.prog 22 = some 5 := by kernel_rfl
theorem tslice24 : tslice Try.prog 24 = some (34, 2, 32) := by kernel_rfl
theorem telem24 : telem Try.prog 24 = some 34 := by kernel_rfl
theorem tslice35 : tslice Try.prog 35 = some (68, 3, 48) := by kernel_rfl
theorem telem35 : telem Try.prog 35 = some 68 := by kernel_rfl
theorem tslice57 : tslice Try.prog 57 = some (9, 1, 16) := by kernel_rfl
theorem telem57 : telem Try.prog 57 = some 9 := by kernel_rfl
theorem tslice61 : tslice Try.prog 61 = some (3, 1, 8) := by kernel_rfl
theorem telem61 : telem Try.prog 61 = some 3 := by kernel_rfl
theorem tslice64 : tslice Try.prog 64 = some (61, 1, 24) := by kernel_rfl
theorem telem64 : telem Try.prog 64 = some 61 := by kernel_rfl
theorem tstr9 : tstr Try.prog 9 = some true := by kernel_rfl
theorem tstr22 : tstr Try.prog 22 = some false := by kernel_rfl
theorem tstr24 : tstr Try.prog 24 = some false := by kernel_rfl
theorem tstr35 : tstr Try.prog 35 = some false := by kernel_rfl
theorem tstr57 : tstr Try.prog 57 = some false := by kernel_rfl
theorem tstr61 : tstr Try.prog 61 = some false := by kernel_rfl
theorem tstr64 : tstr Try.prog 64 = some false := by kernel_rfl
theorem tfld26 : tfld Try.prog 26 = true := by kernel_rfl
theorem tfld34 : tfld Try.prog 34 = true := by kernel_rfl
theorem tfld37 : tfld Try.prog 37 = true := by kernel_rfl
theorem tfld66 : tfld Try.prog 66 = true := by kernel_rfl
theorem tfld68 : tfld Try.prog 68 = true := by kernel_rfl
theorem tfld79 : tfld Try.prog 79 = true := by kernel_rfl
theorem tfld82 : tfld Try.prog 82 = true := by kernel_rfl
theorem foff26_0 : foff Try.prog 26 0 = some (0, 1) := by kernel_rfl
theorem foff34_0 : foff Try.prog 34 0 = some (0, 1) := by kernel_rfl
theorem foff34_1 : foff Try.prog 34 1 = some (1, 1) := by kernel_rfl
theorem foff37_0 : foff Try.prog 37 0 = some (0, 1) := by kernel_rfl
theorem foff66_0 : foff Try.prog 66 0 = some (0, 1) := by kernel_rfl
theorem foff66_1 : foff Try.prog 66 1 = some (1, 1) := by kernel_rfl
theorem foff68_0 : foff Try.prog 68 0 = some (0, 1) := by kernel_rfl
theorem foff68_1 : foff Try.prog 68 1 = some (1, 2) := by kernel_rfl
theorem foff79_0 : foff Try.prog 79 0 = some (0, 1) := by kernel_rfl
theorem foff79_1 : foff Try.prog 79 1 = some (1, 1) := by kernel_rfl
theorem foff79_2 : foff Try.prog 79 2 = some (2, 1) := by kernel_rfl
theorem foff82_0 : foff Try.prog 82 0 = some (0, 1) := by kernel_rfl
theorem foff82_1 : foff Try.prog 82 1 = some (1, 2) := by kernel_rfl
theorem foff82_2 : foff Try.prog 82 2 = some (3, 2) := by kernel_rfl
theorem teqk34 : tEqK Try.prog 34 = some [.str, .str] := by kernel_rfl
attribute [simp] tsz3 tsz5 tsz9 tsz22 tsz24 tsz26 tsz34 tsz35 tsz37 tsz61 tsz64 tsz66 tsz68 tsz82 tagg3 tagg5 tagg9 tagg22 tagg24 tagg26 tagg34 tagg35 tagg37 tagg61 tagg64 tagg66 tagg68 tagg82 tzero26 tzero34 tzero37 tzero66 tzero68 tzero79 tzero82 tslice22 telem22 tslice24 telem24 tslice35 telem35 tslice57 telem57 tslice61 telem61 tslice64 telem64 tstr9 tstr22 tstr24 tstr35 tstr57 tstr61 tstr64 tfld26 tfld34 tfld37 tfld66 tfld68 tfld79 tfld82 foff26_0 foff34_0 foff34_1 foff37_0 foff66_0 foff66_1 foff68_0 foff68_1 foff79_0 foff79_1 foff79_2 foff82_0 foff82_1 foff82_2 teqk34
end Go.Proofs.Ytepiehnhajnebaa


namespace Go.Proofs.Ytepiehnhajnebaa
open Go.Vs Go.Proofs Go

/-- the functions that write what they are handed -/
def E : Md := ⟨fun f => [30, 31, 32, 33, 34, 47, 54, 56, 57, 58, 59, 60, 72, 80].contains f, false⟩
/-- as E; slices are known by elements only -/
def EP : Md := ⟨E.e, true⟩
@[simp] theorem E_p : E.p = false := Eq.trans rfl rfl
@[simp] theorem EP_p : EP.p = true := Eq.trans rfl rfl

theorem E30 : E 30 = true := rfl
theorem E31 : E 31 = true := rfl
theorem E32 : E 32 = true := rfl
theorem E33 : E 33 = true := rfl
theorem E34 : E 34 = true := rfl
theorem E47 : E 47 = true := rfl
theorem E54 : E 54 = true := rfl
theorem E56 : E 56 = true := rfl
theorem E57 : E 57 = true := rfl
theorem E58 : E 58 = true := rfl
theorem E59 : E 59 = true := rfl
theorem E60 : E 60 = true := rfl
theorem E72 : E 72 = true := rfl
theorem E80 : E 80 = true := rfl
/-- the orders of laws.FnFiles -/
def s3 (i : Nat) : Tr := if i = 11 then .seq [0, 1, 2, 3, 4, 5, 6, 7, 8, 9, 10, 11, 12] .nil else if i = 12 then .seq [0, 1, 2, 3, 4, 5, 6, 7, 8, 9, 10, 11, 12] .nil else if i = 23 then .seq [0, 1, 2, 3, 4, 5, 6, 7, 8, 9, 10, 11, 12, 13, 14, 15, 16, 17, 18, 19, 20, 22, 23, 24, 25, 26, 21, 27, 28, 29, 30] .nil else .nil
theorem s3_11 : s3 11 = .seq [0, 1, 2, 3, 4, 5, 6, 7, 8, 9, 10, 11, 12] .nil := rfl
theorem s3_12 : s3 12 = .seq [0, 1, 2, 3, 4, 5, 6, 7, 8, 9, 10, 11, 12] .nil := rfl
theorem s3_23 : s3 23 = .seq [0, 1, 2, 3, 4, 5, 6, 7, 8, 9, 10, 11, 12, 13, 14, 15, 16, 17, 18, 19, 20, 22, 23, 24, 25, 26, 21, 27, 28, 29, 30] .nil := rfl
theorem s3_ok : okCode E 152 s3 (Try.f3.body.getD .skip) = true := by kernel_rfl
/-- the orders of laws.FnDeleteObsoleteFiles -/
def s4 (i : Nat) : Tr := if i = 7 then .seq [0, 2, 1, 3, 4, 5, 6, 7, 8, 9, 10] .nil else .nil
theorem s4_7 : s4 7 = .seq [0, 2, 1, 3, 4, 5, 6, 7, 8, 9, 10] .nil := rfl
theorem s4_ok : okCode E 81 s4 (Try.f4.body.getD .skip) = true := by kernel_rfl
/-- the orders of laws.FnCommitRecovery -/
def s5 (i : Nat) : Tr := if i = 6 then .seq [0, 1, 2, 3, 4, 5, 6, 7, 8, 9, 10, 11, 12, 13, 15, 14, 16, 17, 18] .nil else .nil
theorem s5_6 : s5 6 = .seq [0, 1, 2, 3, 4, 5, 6, 7, 8, 9, 10, 11, 12, 13, 15, 14, 16, 17, 18] .nil := rfl
theorem s5_ok : okCode E 122 s5 (Try.f5.body.getD .skip) = true := by kernel_rfl
/-- the orders of laws.big -/
def s6 (_ : Nat) : Tr := .nil
theorem s6_ok : okCode E 6 s6 (Try.f6.body.getD .skip) = true := by kernel_rfl
/-- the orders of spec.DrawWriteFile -/
def s7 (_ : Nat) : Tr := .nil
theorem s7_ok : okCode E 15 s7 (Try.f7.body.getD .skip) = true := by kernel_rfl
/-- the orders of impl.WriteFile -/
def s8 (_ : Nat) : Tr := .nil
theorem s8_ok : okCode E 56 s8 (Try.f8.body.getD .skip) = true := by kernel_rfl
/-- the orders of impl.ReadFile -/
def s9 (_ : Nat) : Tr := .nil
theorem s9_ok : okCode E 22 s9 (Try.f9.body.getD .skip) = true := by kernel_rfl
/-- the orders of spec.IsValidDisk -/
def s10 (i : Nat) : Tr := if i = 4 then .seq [0, 1, 2, 3, 4, 5, 6, 7, 8, 9, 10, 11, 12, 13] .nil else .nil
theorem s10_4 : s10 4 = .seq [0, 1, 2, 3, 4, 5, 6, 7, 8, 9, 10, 11, 12, 13] .nil := rfl
theorem s10_ok : okCode E 25 s10 (Try.f10.body.getD .skip) = true := by kernel_rfl
/-- the orders of impl.IsValidDisk -/
def s11 (i : Nat) : Tr := if i = 4 then .seq [0, 1, 2, 3, 4, 5, 6, 7, 8, 9, 10, 11, 12, 13] .nil else .nil
theorem s11_4 : s11 4 = .seq [0, 1, 2, 3, 4, 5, 6, 7, 8, 9, 10, 11, 12, 13] .nil := rfl
theorem s11_ok : okCode E 25 s11 (Try.f11.body.getD .skip) = true := by kernel_rfl
/-- the orders of spec.ReadFile -/
def s12 (_ : Nat) : Tr := .nil
theorem s12_ok : okCode E 28 s12 (Try.f12.body.getD .skip) = true := by kernel_rfl
/-- the orders of spec.DrawVersionFiles -/
def s13 (_ : Nat) : Tr := .nil
theorem s13_ok : okCode E 12 s13 (Try.f13.body.getD .skip) = true := by kernel_rfl
/-- the orders of impl.VersionFiles -/
def s14 (i : Nat) : Tr := if i = 11 then .seq [0, 1, 2, 3, 4, 5, 6, 7, 8, 9, 10] .nil else .nil
theorem s14_11 : s14 11 = .seq [0, 1, 2, 3, 4, 5, 6, 7, 8, 9, 10] .nil := rfl
theorem s14_ok : okCode E 64 s14 (Try.f14.body.getD .skip) = true := by kernel_rfl
/-- the orders of spec.VersionFiles -/
def s15 (i : Nat) : Tr := if i = 10 then .seq [0, 1, 2, 3, 4, 5, 6, 7, 8, 9, 10, 11, 12, 13, 14] .nil else .nil
theorem s15_10 : s15 10 = .seq [0, 1, 2, 3, 4, 5, 6, 7, 8, 9, 10, 11, 12, 13, 14] .nil := rfl
theorem s15_ok : okCode E 71 s15 (Try.f15.body.getD .skip) = true := by kernel_rfl
/-- the orders of impl.ChecksumOf -/
def s16 (_ : Nat) : Tr := .nil
theorem s16_ok : okCode E 21 s16 (Try.f16.body.getD .skip) = true := by kernel_rfl
/-- the orders of spec.ChecksumOf -/
def s17 (_ : Nat) : Tr := .nil
theorem s17_ok : okCode E 21 s17 (Try.f17.body.getD .skip) = true := by kernel_rfl
/-- the orders of spec.DrawDeleteObsoleteFiles -/
def s18 (_ : Nat) : Tr := .nil
theorem s18_ok : okCode E 6 s18 (Try.f18.body.getD .skip) = true := by kernel_rfl
/-- the orders of impl.DeleteObsoleteFiles -/
def s19 (_ : Nat) : Tr := .nil
theorem s19_ok : okCode E 49 s19 (Try.f19.body.getD .skip) = true := by kernel_rfl
/-- the orders of impl.RecoverDatabase -/
def s20 (_ : Nat) : Tr := .nil
theorem s20_ok : okCode E 22 s20 (Try.f20.body.getD .skip) = true := by kernel_rfl
/-- the orders of spec.NewestVersion -/
def s21 (i : Nat) : Tr := if i = 4 then .seq [0, 1, 2, 3, 4, 5, 6, 7, 8] .nil else .nil
theorem s21_4 : s21 4 = .seq [0, 1, 2, 3, 4, 5, 6, 7, 8] .nil := rfl
theorem s21_ok : okCode E 28 s21 (Try.f21.body.getD .skip) = true := by kernel_rfl
/-- the orders of spec.EqualDatabases -/
def s22 (i : Nat) : Tr := if i = 6 then .seq [0, 1, 2, 3, 4, 5, 6, 7, 8, 9, 10, 11, 12, 13, 14, 15, 16, 17, 18, 19, 20, 21, 22, 23, 24, 25, 26, 27, 28] .nil else .nil
theorem s22_6 : s22 6 = .seq [0, 1, 2, 3, 4, 5, 6, 7, 8, 9, 10, 11, 12, 13, 14, 15, 16, 17, 18, 19, 20, 21, 22, 23, 24, 25, 26, 27, 28] .nil := rfl
theorem s22_ok : okCode E 49 s22 (Try.f22.body.getD .skip) = true := by kernel_rfl
/-- the orders of spec.DrawCommitDatabase -/
def s23 (_ : Nat) : Tr := .nil
theorem s23_ok : okCode E 15 s23 (Try.f23.body.getD .skip) = true := by kernel_rfl
/-- the orders of impl.CommitDatabase -/
def s24 (i : Nat) : Tr := if i = 5 then .seq [0, 1] (.both (.seq [2, 3] (.both (.seq [4, 5, 6] .nil) (.seq [5, 4, 6] .nil))) (.seq [5, 2, 3, 4, 6] .nil)) else .nil
theorem s24_5 : s24 5 = .seq [0, 1] (.both (.seq [2, 3] (.both (.seq [4, 5, 6] .nil) (.seq [5, 4, 6] .nil))) (.seq [5, 2, 3, 4, 6] .nil)) := rfl
theorem s24_ok : okCode E 56 s24 (Try.f24.body.getD .skip) = true := by kernel_rfl
/-- the orders of spec.CommitDatabase -/
def s25 (i : Nat) : Tr := if i = 6 then .seq [0, 1, 2, 3, 4, 5] .nil else if i = 10 then .seq [0, 1, 2, 3, 4, 5, 6, 7, 8, 9, 10, 11, 12] .nil else .nil
theorem s25_6 : s25 6 = .seq [0, 1, 2, 3, 4, 5] .nil := rfl
theorem s25_10 : s25 10 = .seq [0, 1, 2, 3, 4, 5, 6, 7, 8, 9, 10, 11, 12] .nil := rfl
theorem s25_ok : okCode E 65 s25 (Try.f25.body.getD .skip) = true := by kernel_rfl
/-- the orders of impl.NewestVersion -/
def s26 (_ : Nat) : Tr := .nil
theorem s26_ok : okCode E 13 s26 (Try.f26.body.getD .skip) = true := by kernel_rfl
/-- the orders of spec.RecoverDatabase -/
def s27 (_ : Nat) : Tr := .nil
theorem s27_ok : okCode E 21 s27 (Try.f27.body.getD .skip) = true := by kernel_rfl
/-- the orders of spec.IsValidDatabase -/
def s28 (i : Nat) : Tr := if i = 5 then .seq [0, 1, 2, 3, 4, 5, 6, 7, 8, 9, 10, 11, 12, 13, 14, 15, 16, 17, 18, 19, 20, 21, 22, 23, 24, 25, 26, 27, 28, 29, 30, 31, 32, 33, 34, 35, 36, 37, 38] .nil else .nil
theorem s28_5 : s28 5 = .seq [0, 1, 2, 3, 4, 5, 6, 7, 8, 9, 10, 11, 12, 13, 14, 15, 16, 17, 18, 19, 20, 21, 22, 23, 24, 25, 26, 27, 28, 29, 30, 31, 32, 33, 34, 35, 36, 37, 38] .nil := rfl
theorem s28_ok : okCode E 60 s28 (Try.f28.body.getD .skip) = true := by kernel_rfl
/-- the orders of spec.l1New -/
def s29 (_ : Nat) : Tr := .nil
theorem s29_ok : okCode E 32 s29 (Try.f29.body.getD .skip) = true := by kernel_rfl
/-- the orders of spec.l32Disk -/
def s30 (i : Nat) : Tr := if i = 6 then .seq [0, 1, 2, 3, 4, 5] .nil else if i = 7 then .seq [2, 3, 4, 5, 6, 7, 8, 9, 10] (.both (.seq [0] (.both (.seq [1, 11, 12, 13, 14, 15, 16, 17, 18] .nil) (.seq [11] (.both (.seq [1, 12, 13, 14, 15, 16, 17, 18] .nil) (.seq [12] (.both (.seq [1, 13, 14, 15, 16, 17, 18] .nil) (.seq [13, 1, 14, 15, 16, 17, 18] .nil))))))) (.both (.seq [1] (.both (.seq [0, 11, 12, 13, 14, 15, 16, 17, 18] .nil) (.seq [11] (.both (.seq [0, 12, 13, 14, 15, 16, 17, 18] .nil) (.seq [12] (.both (.seq [0, 13, 14, 15, 16, 17, 18] .nil) (.seq [13, 0, 14, 15, 16, 17, 18] .nil))))))) (.seq [11] (.both (.seq [0] (.both (.seq [1, 12, 13, 14, 15, 16, 17, 18] .nil) (.seq [12] (.both (.seq [1, 13, 14, 15, 16, 17, 18] .nil) (.seq [13, 1, 14, 15, 16, 17, 18] .nil))))) (.both (.seq [1] (.both (.seq [0, 12, 13, 14, 15, 16, 17, 18] .nil) (.seq [12] (.both (.seq [0, 13, 14, 15, 16, 17, 18] .nil) (.seq [13, 0, 14, 15, 16, 17, 18] .nil))))) (.seq [12] (.both (.seq [0] (.both (.seq [1, 13, 14, 15, 16, 17, 18] .nil) (.seq [13, 1, 14, 15, 16, 17, 18] .nil))) (.both (.seq [1] (.both (.seq [0, 13, 14, 15, 16, 17, 18] .nil) (.seq [13, 0, 14, 15, 16, 17, 18] .nil))) (.seq [13, 0, 1, 14, 15, 16, 17, 18] .nil))))))))) else if i = 8 then .seq [1, 2] (.both (.seq [0, 3, 4, 5, 6, 7, 8] .nil) (.seq [3, 0, 4, 5, 6, 7, 8] .nil)) else if i = 11 then .seq [0, 2, 3, 4, 5, 6, 7, 8, 9] (.both (.seq [1, 10, 11, 12, 13] .nil) (.seq [10, 1, 11, 12, 13] .nil)) else if i = 13 then .seq [0, 1, 2, 3, 4, 5, 6, 7, 8, 9] .nil else .nil
theorem s30_6 : s30 6 = .seq [0, 1, 2, 3, 4, 5] .nil := rfl
theorem s30_7 : s30 7 = .seq [2, 3, 4, 5, 6, 7, 8, 9, 10] (.both (.seq [0] (.both (.seq [1, 11, 12, 13, 14, 15, 16, 17, 18] .nil) (.seq [11] (.both (.seq [1, 12, 13, 14, 15, 16, 17, 18] .nil) (.seq [12] (.both (.seq [1, 13, 14, 15, 16, 17, 18] .nil) (.seq [13, 1, 14, 15, 16, 17, 18] .nil))))))) (.both (.seq [1] (.both (.seq [0, 11, 12, 13, 14, 15, 16, 17, 18] .nil) (.seq [11] (.both (.seq [0, 12, 13, 14, 15, 16, 17, 18] .nil) (.seq [12] (.both (.seq [0, 13, 14, 15, 16, 17, 18] .nil) (.seq [13, 0, 14, 15, 16, 17, 18] .nil))))))) (.seq [11] (.both (.seq [0] (.both (.seq [1, 12, 13, 14, 15, 16, 17, 18] .nil) (.seq [12] (.both (.seq [1, 13, 14, 15, 16, 17, 18] .nil) (.seq [13, 1, 14, 15, 16, 17, 18] .nil))))) (.both (.seq [1] (.both (.seq [0, 12, 13, 14, 15, 16, 17, 18] .nil) (.seq [12] (.both (.seq [0, 13, 14, 15, 16, 17, 18] .nil) (.seq [13, 0, 14, 15, 16, 17, 18] .nil))))) (.seq [12] (.both (.seq [0] (.both (.seq [1, 13, 14, 15, 16, 17, 18] .nil) (.seq [13, 1, 14, 15, 16, 17, 18] .nil))) (.both (.seq [1] (.both (.seq [0, 13, 14, 15, 16, 17, 18] .nil) (.seq [13, 0, 14, 15, 16, 17, 18] .nil))) (.seq [13, 0, 1, 14, 15, 16, 17, 18] .nil))))))))) := rfl
theorem s30_8 : s30 8 = .seq [1, 2] (.both (.seq [0, 3, 4, 5, 6, 7, 8] .nil) (.seq [3, 0, 4, 5, 6, 7, 8] .nil)) := rfl
theorem s30_11 : s30 11 = .seq [0, 2, 3, 4, 5, 6, 7, 8, 9] (.both (.seq [1, 10, 11, 12, 13] .nil) (.seq [10, 1, 11, 12, 13] .nil)) := rfl
theorem s30_13 : s30 13 = .seq [0, 1, 2, 3, 4, 5, 6, 7, 8, 9] .nil := rfl
theorem s30_ok : okCode E 92 s30 (Try.f30.body.getD .skip) = true := by kernel_rfl
/-- the orders of spec.l1Pick -/
def s31 (_ : Nat) : Tr := .nil
theorem s31_ok : okCode E 12 s31 (Try.f31.body.getD .skip) = true := by kernel_rfl
/-- the orders of spec.l1Text -/
def s32 (_ : Nat) : Tr := .nil
theorem s32_ok : okCode E 38 s32 (Try.f32.body.getD .skip) = true := by kernel_rfl
/-- the orders of spec.l6Any -/
def s33 (i : Nat) : Tr := if i = 5 then .seq [0, 2, 3] (.both (.seq [1, 4, 5, 6, 7, 8] .nil) (.seq [4] (.both (.seq [1, 5, 6, 7, 8] .nil) (.seq [5, 1, 6, 7, 8] .nil)))) else if i = 7 then .seq [0, 2, 3] (.both (.seq [1, 4, 5, 6, 7] .nil) (.seq [4, 1, 5, 6, 7] .nil)) else if i = 9 then .seq [0, 1, 2, 3, 4, 5, 6, 7, 8, 9, 10] .nil else .nil
theorem s33_5 : s33 5 = .seq [0, 2, 3] (.both (.seq [1, 4, 5, 6, 7, 8] .nil) (.seq [4] (.both (.seq [1, 5, 6, 7, 8] .nil) (.seq [5, 1, 6, 7, 8] .nil)))) := rfl
theorem s33_7 : s33 7 = .seq [0, 2, 3] (.both (.seq [1, 4, 5, 6, 7] .nil) (.seq [4, 1, 5, 6, 7] .nil)) := rfl
theorem s33_9 : s33 9 = .seq [0, 1, 2, 3, 4, 5, 6, 7, 8, 9, 10] .nil := rfl
theorem s33_ok : okCode E 50 s33 (Try.f33.body.getD .skip) = true := by kernel_rfl
/-- the orders of spec.l1PickInt -/
def s34 (_ : Nat) : Tr := .nil
theorem s34_ok : okCode E 12 s34 (Try.f34.body.getD .skip) = true := by kernel_rfl
/-- the orders of impl.IsValidDatabase -/
def s35 (i : Nat) : Tr := if i = 6 then .seq [0, 1, 2, 3, 4, 5, 6, 7, 8, 9, 10, 11, 12, 13, 14, 15, 16, 17, 18, 19, 20, 21, 22, 23, 24, 25, 26, 27, 28, 29, 30, 31, 32, 33, 34, 35, 36, 37, 38] .nil else .nil
theorem s35_6 : s35 6 = .seq [0, 1, 2, 3, 4, 5, 6, 7, 8, 9, 10, 11, 12, 13, 14, 15, 16, 17, 18, 19, 20, 21, 22, 23, 24, 25, 26, 27, 28, 29, 30, 31, 32, 33, 34, 35, 36, 37, 38] .nil := rfl
theorem s35_ok : okCode E 57 s35 (Try.f35.body.getD .skip) = true := by kernel_rfl
/-- the orders of impl.within -/
def s36 (_ : Nat) : Tr := .nil
theorem s36_ok : okCode E 15 s36 (Try.f36.body.getD .skip) = true := by kernel_rfl
/-- the orders of impl.FormatInt -/
def s37 (_ : Nat) : Tr := .nil
theorem s37_ok : okCode E 30 s37 (Try.f37.body.getD .skip) = true := by kernel_rfl
/-- the orders of impl.FormatRelation -/
def s38 (_ : Nat) : Tr := .nil
theorem s38_ok : okCode E 31 s38 (Try.f38.body.getD .skip) = true := by kernel_rfl
/-- the orders of spec.l1In -/
def s39 (_ : Nat) : Tr := .nil
theorem s39_ok : okCode E 15 s39 (Try.f39.body.getD .skip) = true := by kernel_rfl
/-- the orders of spec.FormatRelation -/
def s40 (_ : Nat) : Tr := .nil
theorem s40_ok : okCode E 32 s40 (Try.f40.body.getD .skip) = true := by kernel_rfl
/-- the orders of spec.l32Run -/
def s41 (_ : Nat) : Tr := .nil
theorem s41_ok : okCode E 11 s41 (Try.f41.body.getD .skip) = true := by kernel_rfl
/-- the orders of spec.FormatInt -/
def s42 (_ : Nat) : Tr := .nil
theorem s42_ok : okCode E 31 s42 (Try.f42.body.getD .skip) = true := by kernel_rfl
/-- the orders of spec.l32Head -/
def s43 (_ : Nat) : Tr := .nil
theorem s43_ok : okCode E 6 s43 (Try.f43.body.getD .skip) = true := by kernel_rfl
/-- the orders of impl.readVersion -/
def s44 (_ : Nat) : Tr := .nil
theorem s44_ok : okCode E 112 s44 (Try.f44.body.getD .skip) = true := by kernel_rfl
/-- the orders of spec.l32Load -/
def s45 (i : Nat) : Tr := if i = 1 then .seq [0, 1, 2, 3, 4, 5, 6, 7, 8] .nil else if i = 8 then .seq [0, 1, 2, 3, 4, 5, 6, 7, 8, 9, 10, 11] .nil else if i = 10 then .seq [0, 1, 2, 3, 4, 5, 6, 7, 8, 9, 10, 11, 12, 15, 16, 17, 13, 14, 18, 19] .nil else if i = 12 then .seq [0, 1, 2, 3, 4, 5, 6, 7, 8, 9, 10] .nil else .nil
theorem s45_1 : s45 1 = .seq [0, 1, 2, 3, 4, 5, 6, 7, 8] .nil := rfl
theorem s45_8 : s45 8 = .seq [0, 1, 2, 3, 4, 5, 6, 7, 8, 9, 10, 11] .nil := rfl
theorem s45_10 : s45 10 = .seq [0, 1, 2, 3, 4, 5, 6, 7, 8, 9, 10, 11, 12, 15, 16, 17, 13, 14, 18, 19] .nil := rfl
theorem s45_12 : s45 12 = .seq [0, 1, 2, 3, 4, 5, 6, 7, 8, 9, 10] .nil := rfl
theorem s45_ok : okCode E 115 s45 (Try.f45.body.getD .skip) = true := by kernel_rfl
/-- the orders of spec.EqualRelations -/
def s46 (i : Nat) : Tr := if i = 6 then .seq [0, 1, 2, 3, 4, 5, 6, 7, 8, 9, 10, 11] .nil else .nil
theorem s46_6 : s46 6 = .seq [0, 1, 2, 3, 4, 5, 6, 7, 8, 9, 10, 11] .nil := rfl
theorem s46_ok : okCode E 39 s46 (Try.f46.body.getD .skip) = true := by kernel_rfl
/-- the orders of spec.l1Below -/
def s47 (_ : Nat) : Tr := .nil
theorem s47_ok : okCode E 37 s47 (Try.f47.body.getD .skip) = true := by kernel_rfl
/-- the orders of impl.copyDisk -/
def s48 (_ : Nat) : Tr := .nil
theorem s48_ok : okCode E 8 s48 (Try.f48.body.getD .skip) = true := by kernel_rfl
/-- the orders of impl.removed -/
def s49 (_ : Nat) : Tr := .nil
theorem s49_ok : okCode E 27 s49 (Try.f49.body.getD .skip) = true := by kernel_rfl
/-- the orders of spec.l32Without -/
def s50 (i : Nat) : Tr := if i = 6 then .seq [0, 1, 2, 3, 4, 5, 6, 7, 8, 9, 10] .nil else .nil
theorem s50_6 : s50 6 = .seq [0, 1, 2, 3, 4, 5, 6, 7, 8, 9, 10] .nil := rfl
theorem s50_ok : okCode E 34 s50 (Try.f50.body.getD .skip) = true := by kernel_rfl
/-- the orders of spec.WriteFile -/
def s51 (_ : Nat) : Tr := .nil
theorem s51_ok : okCode E 61 s51 (Try.f51.body.getD .skip) = true := by kernel_rfl
/-- the orders of spec.IsValidName -/
def s52 (_ : Nat) : Tr := .nil
theorem s52_ok : okCode E 23 s52 (Try.f52.body.getD .skip) = true := by kernel_rfl
/-- the orders of spec.IsValidRelation -/
def s53 (i : Nat) : Tr := if i = 6 then .seq [0, 1, 2, 3, 4, 5, 6, 7, 8, 9, 10, 11, 12, 13, 14, 15, 16, 17, 18, 19, 20, 21, 22, 23, 24, 25, 26, 27, 28, 29, 30, 31, 32, 33, 34, 35, 36] .nil else .nil
theorem s53_6 : s53 6 = .seq [0, 1, 2, 3, 4, 5, 6, 7, 8, 9, 10, 11, 12, 13, 14, 15, 16, 17, 18, 19, 20, 21, 22, 23, 24, 25, 26, 27, 28, 29, 30, 31, 32, 33, 34, 35, 36] .nil := rfl
theorem s53_ok : okCode E 58 s53 (Try.f53.body.getD .skip) = true := by kernel_rfl
/-- the orders of spec.l6Db -/
def s54 (i : Nat) : Tr := if i = 13 then .seq [0, 2] (.both (.seq [1, 3, 4, 5, 6, 7] .nil) (.seq [3, 1, 4, 5, 6, 7] .nil)) else .nil
theorem s54_13 : s54 13 = .seq [0, 2] (.both (.seq [1, 3, 4, 5, 6, 7] .nil) (.seq [3, 1, 4, 5, 6, 7] .nil)) := rfl
theorem s54_ok : okCode E 47 s54 (Try.f54.body.getD .skip) = true := by kernel_rfl
/-- the orders of spec.ApplyDelta -/
def s55 (_ : Nat) : Tr := .nil
theorem s55_ok : okCode E 61 s55 (Try.f55.body.getD .skip) = true := by kernel_rfl
/-- the orders of spec.l26Delta -/
def s56 (i : Nat) : Tr := if i = 3 then .seq [0, 2, 3, 4, 5] (.both (.seq [1] (.both (.seq [6, 7, 8, 9, 10] .nil) (.seq [9, 6, 7, 8, 10] .nil))) (.both (.seq [6, 1, 7, 8, 9, 10] .nil) (.seq [9] (.both (.seq [1, 6, 7, 8, 10] .nil) (.seq [6, 1, 7, 8, 10] .nil))))) else if i = 5 then .seq [0, 2, 3, 5, 6] (.both (.seq [1] (.both (.seq [4] (.both (.seq [7, 8, 9, 10] .nil) (.seq [9, 7, 8, 10] .nil))) (.seq [9, 4, 7, 8, 10] .nil))) (.both (.seq [4] (.both (.seq [1] (.both (.seq [7, 8, 9, 10] .nil) (.seq [9, 7, 8, 10] .nil))) (.both (.seq [7, 1, 8, 9, 10] .nil) (.seq [9] (.both (.seq [1, 7, 8, 10] .nil) (.seq [7, 1, 8, 10] .nil)))))) (.seq [9] (.both (.seq [1, 4, 7, 8, 10] .nil) (.seq [4] (.both (.seq [1, 7, 8, 10] .nil) (.seq [7, 1, 8, 10] .nil))))))) else if i = 10 then .seq [0, 1, 2, 3, 4, 5, 6, 7, 8, 9, 10, 11, 12, 13] .nil else .nil
theorem s56_3 : s56 3 = .seq [0, 2, 3, 4, 5] (.both (.seq [1] (.both (.seq [6, 7, 8, 9, 10] .nil) (.seq [9, 6, 7, 8, 10] .nil))) (.both (.seq [6, 1, 7, 8, 9, 10] .nil) (.seq [9] (.both (.seq [1, 6, 7, 8, 10] .nil) (.seq [6, 1, 7, 8, 10] .nil))))) := rfl
theorem s56_5 : s56 5 = .seq [0, 2, 3, 5, 6] (.both (.seq [1] (.both (.seq [4] (.both (.seq [7, 8, 9, 10] .nil) (.seq [9, 7, 8, 10] .nil))) (.seq [9, 4, 7, 8, 10] .nil))) (.both (.seq [4] (.both (.seq [1] (.both (.seq [7, 8, 9, 10] .nil) (.seq [9, 7, 8, 10] .nil))) (.both (.seq [7, 1, 8, 9, 10] .nil) (.seq [9] (.both (.seq [1, 7, 8, 10] .nil) (.seq [7, 1, 8, 10] .nil)))))) (.seq [9] (.both (.seq [1, 4, 7, 8, 10] .nil) (.seq [4] (.both (.seq [1, 7, 8, 10] .nil) (.seq [7, 1, 8, 10] .nil))))))) := rfl
theorem s56_10 : s56 10 = .seq [0, 1, 2, 3, 4, 5, 6, 7, 8, 9, 10, 11, 12, 13] .nil := rfl
theorem s56_ok : okCode E 85 s56 (Try.f56.body.getD .skip) = true := by kernel_rfl
/-- the orders of spec.l1Once -/
def s57 (_ : Nat) : Tr := .nil
theorem s57_ok : okCode E 9 s57 (Try.f57.body.getD .skip) = true := by kernel_rfl
/-- the orders of spec.l1Spoil -/
def s58 (i : Nat) : Tr := if i = 6 then .seq [0, 1, 2, 3, 4, 5, 6, 7, 8] .nil else if i = 8 then .seq [0, 1, 2, 3, 9, 10, 11, 4, 5, 6, 7, 8, 12, 13] .nil else if i = 11 then .seq [0, 1, 2, 3, 4, 5, 7, 15, 16, 17, 18] (.both (.seq [6, 8, 9, 10, 11, 12, 13, 14, 19, 20] .nil) (.seq [8, 6, 9, 10, 11, 12, 13, 14, 19, 20] .nil)) else .nil
theorem s58_6 : s58 6 = .seq [0, 1, 2, 3, 4, 5, 6, 7, 8] .nil := rfl
theorem s58_8 : s58 8 = .seq [0, 1, 2, 3, 9, 10, 11, 4, 5, 6, 7, 8, 12, 13] .nil := rfl
theorem s58_11 : s58 11 = .seq [0, 1, 2, 3, 4, 5, 7, 15, 16, 17, 18] (.both (.seq [6, 8, 9, 10, 11, 12, 13, 14, 19, 20] .nil) (.seq [8, 6, 9, 10, 11, 12, 13, 14, 19, 20] .nil)) := rfl
theorem s58_ok : okCode E 67 s58 (Try.f58.body.getD .skip) = true := by kernel_rfl
/-- the orders of spec.l1Byte -/
def s59 (i : Nat) : Tr := if i = 2 then .seq [0, 1, 2, 3, 4, 5, 6, 7, 8, 9, 10, 11, 12] .nil else if i = 3 then .seq [0, 1, 2, 3, 4, 5, 6, 7, 8, 9] .nil else if i = 4 then .seq [0, 1, 2, 3, 4, 5, 6, 7, 8, 9, 10, 11, 12, 13, 14] .nil else .nil
theorem s59_2 : s59 2 = .seq [0, 1, 2, 3, 4, 5, 6, 7, 8, 9, 10, 11, 12] .nil := rfl
theorem s59_3 : s59 3 = .seq [0, 1, 2, 3, 4, 5, 6, 7, 8, 9] .nil := rfl
theorem s59_4 : s59 4 = .seq [0, 1, 2, 3, 4, 5, 6, 7, 8, 9, 10, 11, 12, 13, 14] .nil := rfl
theorem s59_ok : okCode E 58 s59 (Try.f59.body.getD .skip) = true := by kernel_rfl
/-- the orders of spec.l5Any -/
def s60 (i : Nat) : Tr := if i = 6 then .seq [0, 2, 3, 4, 5] (.both (.seq [1, 6, 7, 8, 9, 10] .nil) (.seq [6, 1, 7, 8, 9, 10] .nil)) else if i = 9 then .seq [0, 4] (.both (.seq [1, 2] (.both (.seq [3, 5, 6, 7, 8] .nil) (.seq [5] (.both (.seq [3, 6, 7, 8] .nil) (.seq [6, 3, 7, 8] .nil))))) (.seq [5] (.both (.seq [1, 2] (.both (.seq [3, 6, 7, 8] .nil) (.seq [6, 3, 7, 8] .nil))) (.seq [6, 1, 2, 3, 7, 8] .nil)))) else .nil
theorem s60_6 : s60 6 = .seq [0, 2, 3, 4, 5] (.both (.seq [1, 6, 7, 8, 9, 10] .nil) (.seq [6, 1, 7, 8, 9, 10] .nil)) := rfl
theorem s60_9 : s60 9 = .seq [0, 4] (.both (.seq [1, 2] (.both (.seq [3, 5, 6, 7, 8] .nil) (.seq [5] (.both (.seq [3, 6, 7, 8] .nil) (.seq [6, 3, 7, 8] .nil))))) (.seq [5] (.both (.seq [1, 2] (.both (.seq [3, 6, 7, 8] .nil) (.seq [6, 3, 7, 8] .nil))) (.seq [6, 1, 2, 3, 7, 8] .nil)))) := rfl
theorem s60_ok : okCode E 51 s60 (Try.f60.body.getD .skip) = true := by kernel_rfl
/-- the orders of impl.IsValidName -/
def s61 (_ : Nat) : Tr := .nil
theorem s61_ok : okCode E 5 s61 (Try.f61.body.getD .skip) = true := by kernel_rfl
/-- the orders of impl.IsValidRelation -/
def s62 (_ : Nat) : Tr := .nil
theorem s62_ok : okCode E 8 s62 (Try.f62.body.getD .skip) = true := by kernel_rfl
/-- the orders of impl.formatList -/
def s63 (_ : Nat) : Tr := .nil
theorem s63_ok : okCode E 23 s63 (Try.f63.body.getD .skip) = true := by kernel_rfl
/-- the orders of impl.join -/
def s64 (_ : Nat) : Tr := .nil
theorem s64_ok : okCode E 25 s64 (Try.f64.body.getD .skip) = true := by kernel_rfl
/-- the orders of spec.l5RowText -/
def s65 (_ : Nat) : Tr := .nil
theorem s65_ok : okCode E 24 s65 (Try.f65.body.getD .skip) = true := by kernel_rfl
/-- the orders of impl.split -/
def s66 (_ : Nat) : Tr := .nil
theorem s66_ok : okCode E 35 s66 (Try.f66.body.getD .skip) = true := by kernel_rfl
/-- the orders of impl.ParseRelation -/
def s67 (_ : Nat) : Tr := .nil
theorem s67_ok : okCode E 73 s67 (Try.f67.body.getD .skip) = true := by kernel_rfl
/-- the orders of spec.l5Cut -/
def s68 (_ : Nat) : Tr := .nil
theorem s68_ok : okCode E 35 s68 (Try.f68.body.getD .skip) = true := by kernel_rfl
/-- the orders of spec.ParseRelation -/
def s69 (i : Nat) : Tr := if i = 11 then .seq [0, 1, 2, 3, 4, 5, 6, 7, 8, 9, 10, 11, 12] .nil else .nil
theorem s69_11 : s69 11 = .seq [0, 1, 2, 3, 4, 5, 6, 7, 8, 9, 10, 11, 12] .nil := rfl
theorem s69_ok : okCode E 96 s69 (Try.f69.body.getD .skip) = true := by kernel_rfl
/-- the orders of spec.CompareRows -/
def s70 (i : Nat) : Tr := if i = 4 then .seq [0, 1, 2, 3, 4, 5, 6, 7, 8] .nil else if i = 6 then .seq [0, 1, 2, 3, 4, 5, 6, 7, 8] .nil else .nil
theorem s70_4 : s70 4 = .seq [0, 1, 2, 3, 4, 5, 6, 7, 8] .nil := rfl
theorem s70_6 : s70 6 = .seq [0, 1, 2, 3, 4, 5, 6, 7, 8] .nil := rfl
theorem s70_ok : okCode E 46 s70 (Try.f70.body.getD .skip) = true := by kernel_rfl
/-- the orders of spec.AreValidValues -/
def s71 (_ : Nat) : Tr := .nil
theorem s71_ok : okCode E 16 s71 (Try.f71.body.getD .skip) = true := by kernel_rfl
/-- the orders of spec.l5Rel -/
def s72 (_ : Nat) : Tr := .nil
theorem s72_ok : okCode E 36 s72 (Try.f72.body.getD .skip) = true := by kernel_rfl
/-- the orders of spec.NormalizeDelta -/
def s73 (_ : Nat) : Tr := .nil
theorem s73_ok : okCode E 60 s73 (Try.f73.body.getD .skip) = true := by kernel_rfl
/-- the orders of spec.l6Copy -/
def s74 (i : Nat) : Tr := if i = 6 then .seq [0, 1, 2, 3, 4, 5, 6, 7, 8, 9, 10, 11, 12, 13] .nil else .nil
theorem s74_6 : s74 6 = .seq [0, 1, 2, 3, 4, 5, 6, 7, 8, 9, 10, 11, 12, 13] .nil := rfl
theorem s74_ok : okCode E 35 s74 (Try.f74.body.getD .skip) = true := by kernel_rfl
/-- the orders of spec.LookupRelation -/
def s75 (_ : Nat) : Tr := .nil
theorem s75_ok : okCode E 34 s75 (Try.f75.body.getD .skip) = true := by kernel_rfl
/-- the orders of spec.Difference -/
def s76 (i : Nat) : Tr := if i = 7 then .seq [0, 1, 2, 3, 4, 5, 6, 7, 8, 9, 10, 11] .nil else if i = 9 then .seq [0, 1, 3, 4, 5, 6, 7, 2] (.app 8 [48] (.seq [9, 10, 11, 12] .nil)) else .nil
theorem s76_7 : s76 7 = .seq [0, 1, 2, 3, 4, 5, 6, 7, 8, 9, 10, 11] .nil := rfl
theorem s76_9 : s76 9 = .seq [0, 1, 3, 4, 5, 6, 7, 2] (.app 8 [48] (.seq [9, 10, 11, 12] .nil)) := rfl
theorem s76_ok : okCode E 61 s76 (Try.f76.body.getD .skip) = true := by kernel_rfl
/-- the orders of spec.Union -/
def s77 (i : Nat) : Tr := if i = 3 then .seq [0, 1, 3, 4, 6, 7] (.both (.seq [2] (.both (.app 5 [25, 31] (.both (.app 8 [25] (.both (.seq [9, 10, 11, 12, 13, 14, 15] .nil) (.seq [13, 9, 10, 11, 12, 14, 15] .nil))) (.seq [13] (.app 8 [25] (.seq [9, 10, 11, 12, 14, 15] .nil))))) (.seq [13] (.app 5 [25, 31] (.app 8 [25] (.seq [9, 10, 11, 12, 14, 15] .nil)))))) (.seq [13, 2] (.app 5 [25, 31] (.app 8 [25] (.seq [9, 10, 11, 12, 14, 15] .nil))))) else .nil
theorem s77_3 : s77 3 = .seq [0, 1, 3, 4, 6, 7] (.both (.seq [2] (.both (.app 5 [25, 31] (.both (.app 8 [25] (.both (.seq [9, 10, 11, 12, 13, 14, 15] .nil) (.seq [13, 9, 10, 11, 12, 14, 15] .nil))) (.seq [13] (.app 8 [25] (.seq [9, 10, 11, 12, 14, 15] .nil))))) (.seq [13] (.app 5 [25, 31] (.app 8 [25] (.seq [9, 10, 11, 12, 14, 15] .nil)))))) (.seq [13, 2] (.app 5 [25, 31] (.app 8 [25] (.seq [9, 10, 11, 12, 14, 15] .nil))))) := rfl
theorem s77_ok : okCode E 39 s77 (Try.f77.body.getD .skip) = true := by kernel_rfl
/-- the orders of spec.SetRelation -/
def s78 (_ : Nat) : Tr := .nil
theorem s78_ok : okCode E 73 s78 (Try.f78.body.getD .skip) = true := by kernel_rfl
/-- the orders of spec.InsertRow -/
def s79 (i : Nat) : Tr := if i = 7 then .seq [1, 4, 5, 6, 7, 0] (.app 2 [46] (.seq [3, 8, 9] .nil)) else .nil
theorem s79_7 : s79 7 = .seq [1, 4, 5, 6, 7, 0] (.app 2 [46] (.seq [3, 8, 9] .nil)) := rfl
theorem s79_ok : okCode E 61 s79 (Try.f79.body.getD .skip) = true := by kernel_rfl
/-- the orders of spec.l4Row -/
def s80 (_ : Nat) : Tr := .nil
theorem s80_ok : okCode E 20 s80 (Try.f80.body.getD .skip) = true := by kernel_rfl
/-- the orders of impl.isLetters -/
def s81 (_ : Nat) : Tr := .nil
theorem s81_ok : okCode E 31 s81 (Try.f81.body.getD .skip) = true := by kernel_rfl
/-- the orders of impl.rowsValid -/
def s82 (_ : Nat) : Tr := .nil
theorem s82_ok : okCode E 46 s82 (Try.f82.body.getD .skip) = true := by kernel_rfl
/-- the orders of impl.ParseInt -/
def s83 (_ : Nat) : Tr := .nil
theorem s83_ok : okCode E 58 s83 (Try.f83.body.getD .skip) = true := by kernel_rfl
/-- the orders of impl.parseList -/
def s84 (_ : Nat) : Tr := .nil
theorem s84_ok : okCode E 34 s84 (Try.f84.body.getD .skip) = true := by kernel_rfl
/-- the orders of spec.ParseInt -/
def s85 (_ : Nat) : Tr := .nil
theorem s85_ok : okCode E 61 s85 (Try.f85.body.getD .skip) = true := by kernel_rfl
/-- the orders of spec.NewRelation -/
def s86 (_ : Nat) : Tr := .nil
theorem s86_ok : okCode E 40 s86 (Try.f86.body.getD .skip) = true := by kernel_rfl
/-- the orders of spec.l26Fits -/
def s87 (_ : Nat) : Tr := .nil
theorem s87_ok : okCode E 41 s87 (Try.f87.body.getD .skip) = true := by kernel_rfl
/-- the orders of spec.l5Copy -/
def s88 (i : Nat) : Tr := if i = 5 then .seq [0, 1, 3, 4, 5, 6, 7, 2] (.app 8 [15] (.seq [9, 10, 11, 12] .nil)) else .nil
theorem s88_5 : s88 5 = .seq [0, 1, 3, 4, 5, 6, 7, 2] (.app 8 [15] (.seq [9, 10, 11, 12] .nil)) := rfl
theorem s88_ok : okCode E 28 s88 (Try.f88.body.getD .skip) = true := by kernel_rfl
/-- the orders of spec.l5Place -/
def s89 (_ : Nat) : Tr := .nil
theorem s89_ok : okCode E 46 s89 (Try.f89.body.getD .skip) = true := by kernel_rfl
/-- the orders of impl.AreValidValues -/
def s90 (_ : Nat) : Tr := .nil
theorem s90_ok : okCode E 15 s90 (Try.f90.body.getD .skip) = true := by kernel_rfl
/-- the orders of impl.CompareRows -/
def s91 (i : Nat) : Tr := if i = 4 then .seq [0, 1, 2, 3, 4, 5, 6, 7, 8] .nil else if i = 5 then .seq [0, 1, 2, 3, 4, 5, 6, 7, 8, 9] .nil else .nil
theorem s91_4 : s91 4 = .seq [0, 1, 2, 3, 4, 5, 6, 7, 8] .nil := rfl
theorem s91_5 : s91 5 = .seq [0, 1, 2, 3, 4, 5, 6, 7, 8, 9] .nil := rfl
theorem s91_ok : okCode E 41 s91 (Try.f91.body.getD .skip) = true := by kernel_rfl
/-- the orders of spec.l5Sort -/
def s92 (i : Nat) : Tr := if i = 13 then .seq [0, 1, 2, 3, 4, 5, 6, 7] .nil else .nil
theorem s92_13 : s92 13 = .seq [0, 1, 2, 3, 4, 5, 6, 7] .nil := rfl
theorem s92_ok : okCode E 80 s92 (Try.f92.body.getD .skip) = true := by kernel_rfl
/-- the orders of impl.compareInts -/
def s93 (_ : Nat) : Tr := .nil
theorem s93_ok : okCode E 13 s93 (Try.f93.body.getD .skip) = true := by kernel_rfl
end Go.Proofs.Ytepiehnhajnebaa


namespace Go.Proofs.Ytepiehnhajnebaa
open Go.Vs Go.Proofs Go
set_option maxRecDepth 100000
set_option maxHeartbeats 1000000


end Go.Proofs.Ytepiehnhajnebaa


namespace Go.Proofs.Ytepiehnhajnebaa
open Go.Vs Go.Proofs Go
set_option maxRecDepth 100000
set_option maxHeartbeats 1000000


end Go.Proofs.Ytepiehnhajnebaa


namespace Go.Proofs.Ytepiehnhajnebaa
open Go.Vs Go.Proofs Go
set_option maxRecDepth 100000
set_option maxHeartbeats 1000000


end Go.Proofs.Ytepiehnhajnebaa


namespace Go.Proofs.Ytepiehnhajnebaa
open Go.Vs Go.Proofs Go
set_option maxRecDepth 100000
set_option maxHeartbeats 1000000



end Go.Proofs.Ytepiehnhajnebaa


namespace Go.Proofs.Ytepiehnhajnebaa
open Go.Vs Go.Proofs Go
set_option maxRecDepth 100000
set_option maxHeartbeats 1000000


end Go.Proofs.Ytepiehnhajnebaa


namespace Go.Proofs.Ytepiehnhajnebaa
open Go.Vs Go.Proofs Go
set_option maxRecDepth 100000
set_option maxHeartbeats 1000000

attribute [simp] plI_id plStr_id map_plI map_plStr pS cP cI cStr cU8 cB
theorem w_impl_within (n lo hi : Int) : VC Try.prog 36 [.d (.int .i64 n), .d (.int .i64 lo), .d (.int .i64 hi)] (fun _ r => r = .d (.bool (inR n lo hi))) := by
  refine VC.ofL EP s36 (by kernel_rfl) Try.func36 (by rfl) (by kernel_rfl) (by simp [Try.f36]) (by simp [Try.f36]) s36_ok fun B hl => ?_
  by_cases h : lo ≤ n
  · simp [Try.f36, inR, h]
  · simp [Try.f36, inR, h]
theorem w_spec_l1In (n lo hi : Int) : VC Try.prog 39 [.d (.int .i64 n), .d (.int .i64 lo), .d (.int .i64 hi)] (fun _ r => r = .d (.bool (inR n lo hi))) := by
  refine VC.ofL EP s39 (by kernel_rfl) Try.func39 (by rfl) (by kernel_rfl) (by simp [Try.f39]) (by simp [Try.f39]) s39_ok fun B hl => ?_
  by_cases h : lo ≤ n
  · simp [Try.f39, inR, h]
  · simp [Try.f39, inR, h]
theorem w_impl_AreValidValues (xs : List Int) : VC Try.prog 90 [.d (pS cI xs)] (fun _ r => r = .d (.bool (valsOk xs))) := by
  refine VC.ofL EP s90 (by kernel_rfl) Try.func90 (by rfl) (by kernel_rfl) (by simp [Try.f90]) (by simp [Try.f90]) s90_ok fun B hl => ?_
  simp [pS, maxLen] at hl
  simp [Try.f90, pS]
  refine loop_rule (X := Nat) (fun i => i ≤ xs.length ∧ (xs.take i).all (fun v => inR v 0 99) = true) (fun i => [(5, .d (.pl (xs.map cI))), (6, .d (.int .i64 xs.length)), (7, .d (.int .i64 i))]) (fun _ => []) (fun i => xs.length - i) 0 (by simp) (by simp) (by simp) ?_
  intro i hs t m hi hh
  by_cases hlt : i < xs.length
  · have hwi := wr1 (i := i) (by omega)
    have hst := all_step (p := fun v => inR v 0 99) hlt
    rw [hi.2, Bool.true_and] at hst
    have hbad : inR xs[i] 0 99 = false → valsOk xs = false := all_bad (p := fun v => inR v 0 99) hlt
    simp [hlt, cI]
    refine call_f (w_impl_within xs[i] 0 99) (by simp) rfl fun hs1 hh1 => ?_
    cases hc : inR xs[i] 0 99
    · simp [hbad hc]
    · simp [hwi]
      simp at hh1
      exact back (i + 1) ⟨by omega, List.all_eq_true.1 (hst.trans hc)⟩ (by omega) rfl (by simp <;> omega) (by simp) (by simp)
  · have hd : valsOk xs = true := all_done (by omega) hi.2
    simp [hlt, hd]

end Go.Proofs.Ytepiehnhajnebaa


namespace Go.Proofs.Ytepiehnhajnebaa
open Go.Vs Go.Proofs Go
set_option maxRecDepth 100000
set_option maxHeartbeats 1000000

theorem w_spec_AreValidValues (xs : List Int) : VC Try.prog 71 [.d (pS cI xs)] (fun _ r => r = .d (.bool (valsOk xs))) := by
  refine VC.ofL EP s71 (by kernel_rfl) Try.func71 (by rfl) (by kernel_rfl) (by simp [Try.f71]) (by simp [Try.f71]) s71_ok fun B hl => ?_
  simp [pS, maxLen] at hl
  simp [Try.f71, pS]
  refine loop_rule (X := Nat) (fun i => i ≤ xs.length ∧ (xs.take i).all (fun v => inR v 0 99) = true) (fun i => [(0, .d (.pl (xs.map cI))), (3, .d (.int .i64 i))]) (fun _ => []) (fun i => xs.length - i) 0 (by simp) (by simp) (by simp) ?_
  intro i hs t m hi hh
  by_cases hlt : i < xs.length
  · have hwi := wr1 (i := i) (by omega)
    have hst := all_step (p := fun v => inR v 0 99) hlt
    rw [hi.2, Bool.true_and] at hst
    have hbad : inR xs[i] 0 99 = false → valsOk xs = false := all_bad (p := fun v => inR v 0 99) hlt
    simp [hlt, cI]
    refine call_f (w_spec_l1In xs[i] 0 99) (by simp) rfl fun hs1 hh1 => ?_
    simp at hh1
    cases hc : inR xs[i] 0 99
    · simp [hbad hc]
    · simp [hwi]
      exact back (i + 1) ⟨by omega, List.all_eq_true.1 (hst.trans hc)⟩ (by omega) rfl (by simp <;> omega) (by simp) (by simp)
  · have hd : valsOk xs = true := all_done (by omega) hi.2
    simp [hlt, hd]
theorem w_spec_CompareRows (a b : List Int) : VC Try.prog 70 [.d (pS cI a), .d (pS cI b)] (fun _ r => r = .d (.int .i64 (cmpL a b))) := by
  refine VC.ofL EP s70 (by kernel_rfl) Try.func70 (by rfl) (by kernel_rfl) (by simp [Try.f70]) (by simp [Try.f70]) s70_ok fun B hl => ?_
  simp [pS, maxLen, cI] at hl
  simp [Try.f70, s70_4, s70_6, pS]
  refine loop_rule (X := Nat) (fun i => i ≤ a.length ∧ i ≤ b.length ∧ cmpL a b = cmpL (a.drop i) (b.drop i)) (fun i => [(0, .d (.pl (a.map cI))), (1, .d (.pl (b.map cI))), (5, .d (.int .i64 i))]) (fun _ => []) (fun i => a.length - i) 0 (by simp) (by simp) (by simp) ?_
  intro i hs t m hi hh
  by_cases hlt : i < a.length
  · by_cases hlb : i < b.length
    · have hwi := wr1 (i := i) (by omega)
      have hc := cmpL_drop hlt hlb
      rw [← hi.2.2] at hc
      by_cases h1 : a[i] < b[i]
      · simp [cI, s70_4, s70_6, hlt, hlb, h1, hc]
      · by_cases h2 : b[i] < a[i]
        · simp [cI, s70_4, s70_6, hlt, hlb, h1, h2, hc]
        · simp only [h1, h2, if_false] at hc
          simp [cI, s70_4, s70_6, hlt, hlb, h1, h2, hwi]
          exact back (i + 1) ⟨by omega, by omega, hc⟩ (by omega) rfl (by simp) (by simp) (by simp)
    · have he := cmpL_end hi.1 hi.2.1 (by omega)
      rw [← hi.2.2] at he
      by_cases h1 : a.length < b.length
      · simp [hlt, hlb, h1, he]
      · by_cases h2 : b.length < a.length <;> simp [hlt, hlb, h1, h2, he]
  · have he := cmpL_end hi.1 hi.2.1 (by omega)
    rw [← hi.2.2] at he
    by_cases h1 : a.length < b.length
    · simp [hlt, h1, he]
    · by_cases h2 : b.length < a.length <;> simp [hlt, h1, h2, he]
theorem w_impl_compareInts (x y : Int) : VC Try.prog 93 [.d (.int .i64 x), .d (.int .i64 y)] (fun _ r => r = .d (.int .i64 (if x < y then -1 else if y < x then 1 else 0))) := by
  refine VC.ofL EP s93 (by kernel_rfl) Try.func93 (by rfl) (by kernel_rfl) (by simp [Try.f93]) (by simp [Try.f93]) s93_ok fun B hl => ?_
  by_cases h1 : x < y
  · simp [Try.f93, h1]
  · by_cases h2 : y < x <;> simp [Try.f93, h1, h2]
theorem w_impl_CompareRows (a b : List Int) : VC Try.prog 91 [.d (pS cI a), .d (pS cI b)] (fun _ r => r = .d (.int .i64 (cmpL a b))) := by
  refine VC.ofL EP s91 (by kernel_rfl) Try.func91 (by rfl) (by kernel_rfl) (by simp [Try.f91]) (by simp [Try.f91]) s91_ok fun B hl => ?_
  simp [pS, maxLen, cI] at hl
  simp [Try.f91, s91_4, s91_5, pS]
  refine loop_rule (X := Nat) (fun i => i ≤ a.length ∧ i ≤ b.length ∧ cmpL a b = cmpL (a.drop i) (b.drop i)) (fun i => [(0, .d (.pl (a.map cI))), (1, .d (.pl (b.map cI))), (5, .d (.int .i64 i))]) (fun _ => []) (fun i => a.length - i) 0 (by simp) (by simp) (by simp) ?_
  intro i hs t m hi hh
  by_cases hlt : i < a.length ∧ i < b.length
  · obtain ⟨hlt, hlb⟩ := hlt
    have hwi := wr1 (i := i) (by omega)
    have hc := cmpL_drop hlt hlb
    rw [← hi.2.2] at hc
    by_cases he : a[i] = b[i]
    · rw [if_neg (by omega), if_neg (by omega)] at hc
      simp [cI, s91_4, s91_5, hlt, hlb, hwi, he]
      exact back (i + 1) ⟨by omega, by omega, hc⟩ (by omega) rfl (by simp) (by simp) (by simp)
    · simp [cI, s91_4, s91_5, hlt, hlb, hwi, he]
      refine call_f (w_impl_compareInts a[i] b[i]) (by simp) rfl fun hs1 hh1 => ?_
      have : (if a[i] < b[i] then (-1 : Int) else if b[i] < a[i] then 1 else 0) = cmpL a b := by rw [hc]; by_cases h1 : a[i] < b[i] <;> simp [h1]; omega
      simp [this]
  · have he := cmpL_end hi.1 hi.2.1 hlt
    rw [← hi.2.2] at he
    have hcm : (if (a.length : Int) < b.length then (-1 : Int) else if (b.length : Int) < a.length then 1 else 0) = cmpL a b := by rw [he]; simp
    by_cases hl1 : i < a.length
    · have hl2 : ¬ i < b.length := fun h => hlt ⟨hl1, h⟩
      simp [hl1, hl2]
      refine call_f (w_impl_compareInts a.length b.length) (by simp) rfl fun hs1 hh1 => ?_
      simp only [hcm]
      simp
    · simp [hl1]
      refine call_f (w_impl_compareInts a.length b.length) (by simp) rfl fun hs1 hh1 => ?_
      simp only [hcm]
      simp

end Go.Proofs.Ytepiehnhajnebaa


namespace Go.Proofs.Ytepiehnhajnebaa
open Go.Vs Go.Proofs Go
set_option maxRecDepth 100000
set_option maxHeartbeats 1000000

theorem w_impl_rowsValid (ar : Int) (l : List (List Int)) : VC Try.prog 82 [.d (.int .i64 ar), .d (pS (cP cI) l)] (fun _ r => r = .d (.bool (rowsOk ar l))) := by
  refine VC.ofL EP s82 (by kernel_rfl) Try.func82 (by rfl) (by kernel_rfl) (by simp [Try.f82]) (by simp [Try.f82]) s82_ok fun B hl => ?_
  simp [pS, cP, cI, maxLen] at hl
  simp [Try.f82, pS]
  refine call_f (w_impl_within ar 0 5) (by simp) rfl fun hs0 hh0 => ?_
  simp at hh0
  cases h1 : inR ar 0 5
  · simp [rowsOk, h1]
  by_cases h2 : (4000 : Int) < l.length
  · simp [rowsOk, h2, show ¬ l.length ≤ 4000 by omega]
  have h2' : l.length ≤ 4000 := by omega
  simp [h2]
  refine loop_rule (X := Nat) (fun i => i ≤ l.length ∧ ∀ j, j < i → rowOk ar l j = true) (fun i => [(0, .d (.int .i64 ar)), (1, .d (.pl (l.map (cP cI)))), (15, .d (.pl (l.map (cP cI)))), (16, .d (.int .i64 l.length)), (17, .d (.int .i64 i))]) (fun _ => []) (fun i => l.length - i) 0 (by simp) (by simp) (by simp) ?_
  intro i hs t m hi hh
  by_cases hlt : i < l.length
  · have hwi := wr1 (i := i) (by omega)
    have hr : rowOk ar l i = (decide ((l[i].length : Int) = ar) && valsOk l[i] && (i == 0 || decide (cmpL (l.getD (i - 1) []) l[i] < 0))) := by simp [rowOk, hlt]
    have hbad := fun h => rows_bad (ar := ar) hlt h
    have step : rowOk ar l i = true → ∀ j, j < i + 1 → rowOk ar l j = true := fun h j hj => by
      rcases Nat.lt_succ_iff_lt_or_eq.1 hj with h' | h'
      · exact hi.2 j h'
      · rw [h']; exact h
    by_cases c1 : (l[i].length : Int) = ar
    case neg => simp [hlt, cP, pS, c1, hbad (by rw [hr]; simp [c1])]
    simp [hlt, cP, pS, c1]
    refine call_f (w_impl_AreValidValues l[i]) (by simp [pS]) rfl fun hs1 hh1 => ?_
    simp at hh1
    cases c2 : valsOk l[i]
    · simp [hbad (by rw [hr]; simp [c2])]
    by_cases c3 : i = 0
    · subst c3
      simp [hwi, show IntKind.i64.wrap 1 = 1 by decide]
      exact back 1 ⟨by omega, step (by rw [hr]; simp [c1, c2])⟩ (by omega) rfl (by simp <;> omega) (by simp [cP, pS, show IntKind.i64.wrap 1 = 1 by decide]) (by simp)
    · have hw1 : IntKind.i64.wrap ((i : Int) - 1) = ((i - 1 : Nat) : Int) := by rw [wrap64_of (by omega) (by omega)]; omega
      have hip : (0 : Int) < i := by omega
      have hlt1 : i - 1 < l.length := by omega
      have hg1 : l.getD (i - 1) [] = l[i - 1] := by simp [hlt1]
      rw [hg1] at hr
      simp [hip, hw1, hlt1, cP, pS, c3, show 0 < i by omega]
      refine call_f (w_impl_CompareRows l[i - 1] l[i]) (by simp [pS]) rfl fun hs2 hh2 => ?_
      simp at hh2
      by_cases c4 : cmpL l[i - 1] l[i] < 0
      · simp [hwi, show ¬ 0 ≤ cmpL l[i - 1] l[i] by omega]
        exact back (i + 1) ⟨by omega, step (by rw [hr]; simp [c1, c2, c4])⟩ (by omega) rfl (by simp <;> omega) (by simp [cP, pS]) (by simp)
      · simp [show 0 ≤ cmpL l[i - 1] l[i] by omega, hbad (by rw [hr]; simp [c3, c4])]
  · have hn : i = l.length := by omega
    have hd := rows_done h1 h2' (hn ▸ hi.2)
    simp [hlt, hd]
theorem w_impl_IsValidRelation (r : PReln) : VC Try.prog 62 [.agg ((eReln r).map .d)] (fun _ v => v = .d (.bool (rowsOk r.ar r.rows))) := by
  refine VC.ofL EP s62 (by kernel_rfl) Try.func62 (by rfl) (by kernel_rfl) (by simp [Try.f62]) (by simp [Try.f62]) s62_ok fun B hl => ?_
  simp [Try.f62, eReln, cI, cP]
  refine call_f (w_impl_rowsValid r.ar r.rows) (by simp [pS, cP]) rfl fun hs0 hh0 => ?_
  simp
theorem w_spec_IsValidRelation (r : PReln) : VC Try.prog 53 [.agg ((eReln r).map .d)] (fun _ v => v = .d (.bool (rowsOk r.ar r.rows))) := by
  obtain ⟨ar, l⟩ := r
  refine VC.ofL EP s53 (by kernel_rfl) Try.func53 (by rfl) (by kernel_rfl) (by simp [Try.f53]) (by simp [Try.f53]) s53_ok fun B hl => ?_
  simp [eReln, pS, cP, cI, maxLen] at hl
  simp [Try.f53, s53_6, eReln, cI, cP, pS]
  refine call_f (w_spec_l1In ar 0 5) (by simp) rfl fun hs0 hh0 => ?_
  simp at hh0
  cases h1 : inR ar 0 5
  · simp [rowsOk, h1]
  by_cases h2 : (4000 : Int) < l.length
  · simp [rowsOk, h2, show ¬ l.length ≤ 4000 by omega]
  have h2' : l.length ≤ 4000 := by omega
  simp [h2]
  refine loop_rule (X := Nat) (fun i => i ≤ l.length ∧ ∀ j, j < i → rowOk ar l j = true) (fun i => [(1, .ptr 1 0 0), (3, .d (.int .i64 i))]) (fun _ => [(1, some (.box [.d (.int .i64 ar), .d (.pl (l.map fun xs => [.pl (xs.map cI)]))]))]) (fun i => l.length - i) 0 (by simp) (by simp) (by simp [cI, cP, pS]) ?_
  intro i hs t m hi hh
  by_cases hlt : i < l.length
  · have hwi := wr1 (i := i) (by omega)
    have hr : rowOk ar l i = (decide ((l[i].length : Int) = ar) && valsOk l[i] && (i == 0 || decide (cmpL (l.getD (i - 1) []) l[i] < 0))) := by simp [rowOk, hlt]
    have hbad := fun h => rows_bad (ar := ar) hlt h
    have step : rowOk ar l i = true → ∀ j, j < i + 1 → rowOk ar l j = true := fun h j hj => by
      rcases Nat.lt_succ_iff_lt_or_eq.1 hj with h' | h'
      · exact hi.2 j h'
      · rw [h']; exact h
    by_cases c1 : (l[i].length : Int) = ar
    case neg => simp [hlt, s53_6, c1, hbad (by rw [hr]; simp [c1])]
    simp [hlt, s53_6, c1]
    refine call_f (w_spec_AreValidValues l[i]) (by simp [pS]) rfl fun hs1 hh1 => ?_
    simp at hh1
    cases c2 : valsOk l[i]
    · simp [hbad (by rw [hr]; simp [c2])]
    by_cases c3 : i = 0
    · subst c3
      simp [hwi, show IntKind.i64.wrap 1 = 1 by decide]
      exact back 1 ⟨by omega, step (by rw [hr]; simp [c1, c2])⟩ (by omega) rfl (by simp <;> omega) (by simp [show IntKind.i64.wrap 1 = 1 by decide]) (by simp)
    · have hw1 : IntKind.i64.wrap ((i : Int) - 1) = ((i - 1 : Nat) : Int) := by rw [wrap64_of (by omega) (by omega)]; omega
      have hip : (0 : Int) < i := by omega
      have hlt1 : i - 1 < l.length := by omega
      have hg1 : l.getD (i - 1) [] = l[i - 1] := by simp [hlt1]
      rw [hg1] at hr
      simp [hip, hw1, hlt1, hlt, c3, show 0 < i by omega]
      refine call_f (w_spec_CompareRows l[i - 1] l[i]) (by simp [pS]) rfl fun hs2 hh2 => ?_
      simp at hh2
      by_cases c4 : cmpL l[i - 1] l[i] < 0
      · simp [hwi, show ¬ 0 ≤ cmpL l[i - 1] l[i] by omega]
        exact back (i + 1) ⟨by omega, step (by rw [hr]; simp [c1, c2, c4])⟩ (by omega) rfl (by simp <;> omega) (by simp) (by simp)
      · simp [show 0 ≤ cmpL l[i - 1] l[i] by omega, hbad (by rw [hr]; simp [c3, c4])]
  · have hn : i = l.length := by omega
    have hd := rows_done h1 h2' (hn ▸ hi.2)
    simp [hlt, hd]

end Go.Proofs.Ytepiehnhajnebaa


namespace Go.Proofs.Ytepiehnhajnebaa
open Go.Vs Go.Proofs Go
set_option maxRecDepth 100000
set_option maxHeartbeats 1000000

theorem w_spec_l5Place (r : PReln) (row : List Int) (hb : r.rows.length ≤ 4294967296) : VC Try.prog 89 [.agg ((eReln r).map .d), .d (pS cI row)] (fun _ v => v = .tup [.d (.int .i64 (placeK r.rows row)), .d (.bool (placeB r.rows row))]) := by
  obtain ⟨ar, l⟩ := r
  simp only at hb ⊢
  refine VC.ofL EP s89 (by kernel_rfl) Try.func89 (by rfl) (by kernel_rfl) (by simp [Try.f89]) (by simp [Try.f89]) s89_ok fun B hl => ?_
  simp [eReln, pS, cP, cI, maxLen] at hl
  simp [Try.f89, eReln, cI, cP, pS]
  refine loop_rule (X := Nat × Nat) (fun p => p.1 ≤ p.2 ∧ p.2 ≤ l.length ∧ bs l row p.1 p.2 = placeK l row) (fun p => [(2, .ptr 2 0 0), (1, .d (.pl (row.map cI))), (6, .d (.int .i64 p.1)), (7, .d (.int .i64 p.2))]) (fun _ => [(2, some (.box [.d (.int .i64 ar), .d (.pl (l.map (cP cI)))]))]) (fun p => p.2 - p.1) (0, l.length) (by simp; rfl) (by simp [cI]) (by simp [cP, pS, cI]) ?_
  rintro ⟨lo, hi⟩ hs t m ⟨h1, h2, h3⟩ hh
  simp only at h1 h2 h3
  by_cases hlt : lo < hi
  · rw [bs_lt hlt] at h3
    have hm := mid64 (a := lo) (b := hi) (by omega) (by omega)
    have hml : (lo + hi) / 2 < l.length := by omega
    have hk1 : lo ≤ (lo + hi) / 2 ∧ (lo + hi) / 2 < hi := by omega
    generalize (lo + hi) / 2 = k at *
    have hg : l.getD k [] = l[k] := by simp [hml]
    simp [hlt, hm, hml, cP, pS]
    refine call_f (w_spec_CompareRows l[k] row) (by simp [pS]) rfl fun hs1 hh1 => ?_
    simp at hh1
    rw [hg] at h3
    by_cases hc : cmpL l[k] row < 0
    · rw [if_pos hc] at h3
      have hw := wr1 (i := k) (by omega)
      simp [hc, hw]
      exact back (k + 1, hi) ⟨by simp; omega, h2, h3⟩ (by simp; omega) rfl (by simp <;> omega) (by simp [cP, pS]) (by simp [cP, pS])
    · rw [if_neg hc] at h3
      simp [hc]
      exact back (lo, k) ⟨by simp; omega, by simp; omega, h3⟩ (by simp; omega) rfl (by simp <;> omega) (by simp [cP, pS]) (by simp [cP, pS])
  · rw [bs_ge hlt] at h3
    subst h3
    by_cases hk : placeK l row < l.length
    · simp [hlt, hk, cP, pS]
      refine call_f (w_spec_CompareRows l[placeK l row] row) (by simp [pS]) rfl fun hs1 hh1 => ?_
      simp [placeB, hk]
    · simp [hlt, hk, placeB]

end Go.Proofs.Ytepiehnhajnebaa


namespace Go.Proofs.Ytepiehnhajnebaa
open Go.Vs Go.Proofs Go
set_option maxRecDepth 100000
set_option maxHeartbeats 1000000

section
attribute [local simp] plI_id plStr_id map_plI map_plStr pS cP cI cStr cU8 cB
theorem w_impl_join (l : List (List UInt8)) (sep : List UInt8) (hw : strW sep.length l ≤ 4611686018427387904) : VC Try.prog 64 [.d (pS cStr l), .d (.str sep)] (fun _ r => r = .d (.str (joinB sep l))) := by
  refine VC.ofL EP s64 (by kernel_rfl) Try.func64 (by rfl) (by kernel_rfl) (by simp [Try.f64]) (by simp [Try.f64]) s64_ok fun B hl => ?_
  simp [pS, maxLen] at hl
  simp [Try.f64, ]
  refine loop_rule (X := Nat) (fun i => i ≤ l.length) (fun i => [(1, .d (.str sep)), (5, .d (.str (joinB sep (l.take i)))), (8, .d (.pl (l.map cStr))), (9, .d (.int .i64 l.length)), (10, .d (.int .i64 i))]) (fun _ => []) (fun i => l.length - i) 0 (by simp) (by simp [joinB]) (by simp) ?_
  intro i hs t m hi hh
  by_cases hlt : i < l.length
  · have hwi := wr1 (i := i) (by omega)
    have h1 := joinB_len sep (l.take i)
    have h2 := strW_at (s := sep.length) hlt
    have hst := joinB_step (sep := sep) hlt
    by_cases h0 : i = 0
    · subst h0
      have hwi0 : IntKind.i64.wrap 1 = 1 := by simpa using hwi
      have hst0 : joinB sep (l.take 1) = l[0] := by simpa [joinB] using hst
      have j0 : joinB sep [] = [] := rfl
      simp [hlt, hwi0, j0, ]
      refine ⟨by omega, ?_⟩
      exact back 1 (by omega) (by omega) rfl (by simp <;> omega) (by simp [hst0]) (by simp)
    · have h0' : 0 < i := by omega
      simp only [h0, if_false] at hst
      simp [hlt, h0, h0', hwi, ]
      refine ⟨by omega, by omega, ?_⟩
      exact back (i + 1) (by omega) (by omega) rfl (by simp <;> omega) (by simp [hst]) (by simp)
  · simp [hlt, List.take_of_length_le (show l.length ≤ i by omega)]
end

end Go.Proofs.Ytepiehnhajnebaa


namespace Go.Proofs.Ytepiehnhajnebaa
open Go.Vs Go.Proofs Go
set_option maxRecDepth 100000
set_option maxHeartbeats 1000000

section
attribute [local simp] plI_id plStr_id map_plI map_plStr pS cP cI cStr cU8 cB
theorem w_impl_FormatInt (n : Int) (hn : inZ n) : VC Try.prog 37 [.d (.int .i64 n)] (fun _ r => r = .d (.str (decZ n))) := by
  refine VC.ofL EP s37 (by kernel_rfl) Try.func37 (by rfl) (by kernel_rfl) (by simp [Try.f37]) (by simp [Try.f37]) s37_ok fun B hl => ?_
  simp only [inZ] at hn
  obtain ⟨neg, hneg⟩ : ∃ b : Bool, b = decide (n < 0) := ⟨_, rfl⟩
  simp [Try.f37, ]
  rw [← hneg]
  refine loop_ruleL (X := Int × List UInt8) (fun p _ => (-9223372036854775808 ≤ p.1 ∧ p.1 ≤ 9223372036854775807) ∧ (p.1 ≠ 0 ∨ p.2 = []) ∧ decN n.natAbs = decN p.1.natAbs ++ p.2) (fun p => [(0, .d (.int .i64 p.1)), (3, .d (.pl (p.2.map cU8))), (4, .d (.bool neg))]) (fun _ => []) (fun p => p.1.natAbs) ?_ ?_
  · refine (lead_slot 3 17 5 1 (by omega) (by omega) (by simp)).bind ?_
    rintro _ rfl
    refine (lead_frp 17 (T := 5) (sz := 1) (es := []) (by simp)).bind ?_
    rintro _ rfl
    exact Lead.of ⟨(n, []), ⟨hn, .inr rfl, by simp⟩, rfl, rfl, Nat.le_refl _, by simp [hneg], by simp⟩
  rintro ⟨p, ds⟩ hs t m ⟨hp, hp0, hd⟩ hh
  simp only at hp hp0 hd
  have hl20 : (decN n.natAbs).length ≤ 20 := decN_len20 (by omega)
  rw [hd, List.length_append] at hl20
  have hm : (p.tmod 10).natAbs = p.natAbs % 10 := by rw [Int.natAbs_tmod]; rfl
  have hq : (p.tdiv 10).natAbs = p.natAbs / 10 := by rw [Int.natAbs_tdiv]; rfl
  have hwq : IntKind.i64.wrap (p.tdiv 10) = p.tdiv 10 := wrap64_of (by omega) (by omega)
  obtain ⟨q, hqe⟩ : ∃ q, q = p.tdiv 10 := ⟨_, rfl⟩
  obtain ⟨r, hre⟩ : ∃ r, r = p.tmod 10 := ⟨_, rfl⟩
  obtain ⟨e, hee⟩ : ∃ e, e = p.natAbs % 10 := ⟨_, rfl⟩
  rw [← hqe] at hq hwq
  rw [← hre, ← hee] at hm
  have he10 : e < 10 := by omega
  have hw48 : IntKind.i64.wrap (48 + (e : Int)) = 48 + e := wrap64_of (by omega) (by omega)
  have hw8 : IntKind.u8.wrap (48 + (e : Int)) = 48 + e := by
    rw [IntKind.wrap_u8]; omega
  obtain ⟨g, hg⟩ : ∃ g : UInt8, g = UInt8.ofNat (48 + e) := ⟨_, rfl⟩
  have hc8 : ((g.toNat : Nat) : Int) = 48 + e := by
    have : g.toNat = 48 + e := by rw [hg]; simp; omega
    rw [this]; simp
  have hL : LenOk 1 (1 + ds.length) := ⟨by omega, by simp only [maxLen]; omega⟩
  have hst : ¬ q = 0 → decN n.natAbs = decN q.natAbs ++ g :: ds := fun h => by
    rw [hd, hq, decN_ge (by omega), hg, hee]; simp
  have hfin : q = 0 → decN n.natAbs = g :: ds := fun h => by
    have : p.natAbs < 10 := by omega
    rw [hd, decN_lt this, hg, hee, Nat.mod_eq_of_lt this]; rfl
  have hout : q = 0 → decZ n = if neg then 45 :: g :: ds else g :: ds := fun h => by
    rw [decZ, hfin h, hneg]; simp
  have hback : ¬ q = 0 → q.natAbs < p.natAbs := fun h => by omega
  have hL2 : LenOk 1 (ds.length + 1) := by rw [Nat.add_comm]; exact hL
  have he0 : ¬ (e : Int) < 0 := by omega
  have hw0z : IntKind.i64.wrap 0 = 0 := wrap64_of (by omega) (by omega)
  have a1 : 1 + ds.length = ds.length + 1 := Nat.add_comm _ _
  have hB1 : toB [D.int IntKind.u8 (48 + (e : Int))] = g := by
    have : (48 + (e : Int)).toNat = 48 + e := by omega
    rw [hg]; simp only [toB, this]
  have hB2 : ds.map (toB ∘ cU8) = ds := by
    have : (toB ∘ cU8) = id := by funext b; simp [toB, cU8]
    rw [this, List.map_id]
  have hB3 : ∀ x ∈ ([D.int IntKind.u8 (48 + (e : Int))] :: ds.map cU8), isB x = true := fun x hx => by
    rcases List.mem_cons.1 hx with h | h
    · subst h; rfl
    · obtain ⟨b, _, rfl⟩ := List.mem_map.1 h; rfl
  have hB4 : ∀ x ∈ ds, isB (cU8 x) = true := fun x _ => rfl
  have hB5 : isB [D.int IntKind.u8 (48 + (e : Int))] = true := rfl
  have hlen2 : 1 + (ds.length + 1) ≤ 9223372036854775807 := by omega
  by_cases h0 : r < 0
  · have hwn : IntKind.i64.wrap (-r) = e := by rw [wrap64_of (by omega) (by omega)]; omega
    by_cases hz : q = 0
    · have ho := hout hz
      cases hn2 : neg
      · simp [hn2] at ho
        simp [← hre, ← hqe, h0, hwn, hw48, hw8, hwq, hz, hw0z, hL2, ho, hn2, hc8, a1, hB1, hB2, hB4, hB5, List.take_of_length_le, ]
        exact fun x hx => rfl
      · simp [hn2] at ho
        simp [← hre, ← hqe, h0, hwn, hw48, hw8, hwq, hz, hw0z, hL2, ho, hn2, hc8, a1, hB1, hB2, hB4, hB5, hlen2, List.take_of_length_le, ]
        exact fun x hx => rfl
    · simp [← hre, ← hqe, h0, hwn, hw48, hw8, hwq, hz, hL, hc8, ]
      refine Back2.lead (lead_frp 17 (T := 5) (sz := 1) (es := [D.int IntKind.u8 (48 + (e : Int))] :: ds.map cU8) (by simp)) ?_
      rintro _ rfl
      refine back2 (q, g :: ds) ⟨by simp only; omega, .inl hz, hst hz⟩ (hback hz) rfl (by simp <;> omega) (by simp [hc8, a1, List.take_of_length_le]) (by simp)
  · have hr2 : r = (e : Int) := by omega
    by_cases hz : q = 0
    · have ho := hout hz
      cases hn2 : neg
      · simp [hn2] at ho
        simp [← hre, ← hqe, h0, hr2, he0, hw48, hw8, hwq, hz, hw0z, hL2, ho, hn2, hc8, a1, hB1, hB2, hB4, hB5, List.take_of_length_le, ]
        exact fun x hx => rfl
      · simp [hn2] at ho
        simp [← hre, ← hqe, h0, hr2, he0, hw48, hw8, hwq, hz, hw0z, hL2, ho, hn2, hc8, a1, hB1, hB2, hB4, hB5, hlen2, List.take_of_length_le, ]
        exact fun x hx => rfl
    · simp [← hre, ← hqe, h0, hr2, he0, hw48, hw8, hwq, hz, hL, hc8, ]
      refine Back2.lead (lead_frp 17 (T := 5) (sz := 1) (es := [D.int IntKind.u8 (48 + (e : Int))] :: ds.map cU8) (by simp)) ?_
      rintro _ rfl
      refine back2 (q, g :: ds) ⟨by simp only; omega, .inl hz, hst hz⟩ (hback hz) rfl (by simp <;> omega) (by simp [hc8, a1, List.take_of_length_le]) (by simp)
end

end Go.Proofs.Ytepiehnhajnebaa


namespace Go.Proofs.Ytepiehnhajnebaa
open Go.Vs Go.Proofs Go
set_option maxRecDepth 100000
set_option maxHeartbeats 1000000

section
attribute [local simp] plI_id plStr_id map_plI map_plStr pS cP cI cStr cU8 cB
theorem w_impl_isLetters (s : List UInt8) : VC Try.prog 81 [.d (.str s), .d (.int .i64 4)] (fun _ r => r = .d (.bool (nameOk s))) := by
  refine VC.ofL EP s81 (by kernel_rfl) Try.func81 (by rfl) (by kernel_rfl) (by simp [Try.f81]) (by simp [Try.f81]) s81_ok fun B hl => ?_
  by_cases h1 : (s.length : Int) < 1
  · have : s = [] := List.length_eq_zero_iff.1 (by omega)
    subst this
    simp [Try.f81, nameOk_len]
  by_cases h4 : (4 : Int) < s.length
  · have : nameOk s = false := nameOk_len (by omega)
    simp [Try.f81, h1, h4, this]
  have hlen : 1 ≤ s.length ∧ s.length ≤ 4 := by omega
  simp [Try.f81, h1, h4]
  refine loop_rule (X := Nat) (fun i => i ≤ s.length ∧ AllTo lowB s i) (fun i => [(0, .d (.str s)), (5, .d (.int .i64 i))]) (fun _ => []) (fun i => s.length - i) 0 ⟨by simp, allTo_zero⟩ (by simp) (by simp) ?_
  intro i hs t m hi hh
  by_cases hlt : i < s.length
  · have hwi := wr1 (i := i) (by omega)
    by_cases ha : ((s[i]).toNat : Int) < 97
    · have hbad := nameOk_bad (all_bad (p := lowB) hlt (lowB_lo ha))
      simp [hlt, ha, hbad, ]
    · by_cases hz : (122 : Int) < ((s[i]).toNat : Int)
      · have hbad := nameOk_bad (all_bad (p := lowB) hlt (lowB_hi hz))
        simp [hlt, ha, hz, hbad, ]
      · simp [hlt, ha, hz, hwi, ]
        exact back (i + 1) ⟨by omega, allTo_step hi.2 hlt (lowB_ok ha hz)⟩ (by omega) rfl (by simp <;> omega) (by simp) (by simp)
  · have hd := allTo_done hi.2 (by omega)
    have hd2 : nameOk s = true := by rw [nameOk_ok hd, decide_eq_true hlen]
    simp [hlt, hd2]
theorem w_impl_IsValidName (s : List UInt8) : VC Try.prog 61 [.d (.str s)] (fun _ r => r = .d (.bool (nameOk s))) := by
  refine VC.ofL EP s61 (by kernel_rfl) Try.func61 (by rfl) (by kernel_rfl) (by simp [Try.f61]) (by simp [Try.f61]) s61_ok fun B hl => ?_
  simp [Try.f61, ]
  refine call_f (w_impl_isLetters s) (by simp) rfl fun hs1 hh1 => ?_
  simp
theorem w_spec_IsValidName (s : List UInt8) (hb : s.length ≤ maxLen) : VC Try.prog 52 [.d (.str s)] (fun _ r => r = .d (.bool (nameOk s))) := by
  refine VC.ofL EP s52 (by kernel_rfl) Try.func52 (by rfl) (by kernel_rfl) (by simp [Try.f52]) (by simp [Try.f52]) s52_ok fun B hl => ?_
  simp only [maxLen] at hb
  simp [Try.f52, ]
  refine loop_rule (X := Nat) (fun i => i ≤ s.length ∧ AllTo lowB s i) (fun i => [(0, .d (.str s)), (3, .d (.int .i64 i))]) (fun _ => []) (fun i => s.length - i) 0 ⟨by simp, allTo_zero⟩ (by simp) (by simp) ?_
  intro i hs t m hi hh
  by_cases hlt : i < s.length
  · have hwi := wr1 (i := i) (by omega)
    by_cases ha : ((s[i]).toNat : Int) < 97
    · have hbad := nameOk_bad (all_bad (p := lowB) hlt (lowB_lo ha))
      simp [hlt, ha, hbad, ]
    · by_cases hz : (122 : Int) < ((s[i]).toNat : Int)
      · have hbad := nameOk_bad (all_bad (p := lowB) hlt (lowB_hi hz))
        simp [hlt, ha, hz, hbad, ]
      · simp [hlt, ha, hz, hwi, ]
        exact back (i + 1) ⟨by omega, allTo_step hi.2 hlt (lowB_ok ha hz)⟩ (by omega) rfl (by simp <;> omega) (by simp) (by simp)
  · have hd := allTo_done hi.2 (by omega)
    simp [hlt, ]
    refine call_f (w_spec_l1In s.length 1 4) (by simp) rfl fun hs1 hh1 => ?_
    have e : inR (s.length : Int) 1 4 = decide (1 ≤ s.length ∧ s.length ≤ 4) := by
      simp only [inR, ← Bool.decide_and]; congr 1; apply propext; omega
    rw [e, nameOk_ok hd]
    simp
end

end Go.Proofs.Ytepiehnhajnebaa


namespace Go.Proofs.Ytepiehnhajnebaa
open Go.Vs Go.Proofs Go
set_option maxRecDepth 100000
set_option maxHeartbeats 1000000

section
attribute [local simp] plI_id plStr_id map_plI map_plStr pS cP cI cStr cU8 cB eTab eReln
theorem w_impl_IsValidDatabase (d : PDb) : VC Try.prog 35 [.agg ((eDb d).map V.d)] (fun _ r => r = .d (.bool (dbOk d))) := by
  refine VC.ofL EP s35 (by kernel_rfl) Try.func35 (by rfl) (by kernel_rfl) (by simp [Try.f35]) (by simp [Try.f35]) s35_ok fun B hl => ?_
  obtain ⟨l⟩ := d
  by_cases h6 : (6 : Int) < l.length
  · have : dbOk ⟨l⟩ = false := by
      have : ¬ l.length ≤ 6 := by omega
      simp only [dbOk, this, decide_false, Bool.false_and]
    simp [Try.f35, s35_6, s35_6, eDb, h6, this]
  simp [Try.f35, s35_6, s35_6, eDb, h6]
  refine loop_rule (X := Nat) (DbTo l) (fun i => [(1, .ptr 1 0 0), (10, .d (.pl (l.map eTab))), (11, .d (.int .i64 l.length)), (12, .d (.int .i64 i))]) (fun _ => [(1, some (.box [.d (.pl (l.map eTab))]))]) (fun i => l.length - i) 0 .zero (by simp) (by simp) ?_
  intro i hs t m hi hh
  have hil := hi.le
  by_cases hlt : i < l.length
  case neg =>
    have hd := hi.done (by omega)
    simp [hlt, hd]
    omega
  have hwi := wr1 (i := i) (by omega)
  have hat := dbAt_eq hlt
  have hbad : dbAt l i = false → dbOk ⟨l⟩ = false := dbOk_bad hlt
  obtain ⟨nm, ar, rows, hT⟩ : ∃ nm ar rows, l[i] = ⟨nm, ⟨ar, rows⟩⟩ := ⟨_, _, _, rfl⟩
  rw [hT] at hat
  simp only [tabOk] at hat
  simp [hlt, hT, s35_6, ]
  refine call_f (w_impl_IsValidName nm) (by simp) rfl fun hs1 hh1 => ?_
  simp at hh1
  cases h1 : nameOk nm
  · have hb := hbad (by rw [hat, h1]; simp)
    simp [hb, s35_6, ]
  by_cases h0 : i = 0
  · subst h0
    have hwi0 : IntKind.i64.wrap 1 = 1 := by simpa using hwi
    simp [hT, s35_6, ]
    refine call_f (w_impl_IsValidRelation ⟨ar, rows⟩) (by simp [eReln]) rfl fun hs2 hh2 => ?_
    simp at hh2
    cases h3 : rowsOk ar rows
    · have hb := hbad (by rw [hat, h3]; simp)
      simp [hb, s35_6, ]
    by_cases h4 : ar < 1
    · have hb := hbad (by rw [hat]; have : ¬ 1 ≤ ar := by omega
                          simp [this])
      simp [h4, hb, hT, s35_6, ]
    by_cases h5 : (16 : Int) < rows.length
    · have hb := hbad (by rw [hat]; have : ¬ rows.length ≤ 16 := by omega
                          simp [this])
      simp [h4, h5, hb, hT, s35_6, ]
    have hok : dbAt l 0 = true := by
      have a4 : 1 ≤ ar := by omega
      have a5 : rows.length ≤ 16 := by omega
      rw [hat, h1, h3]; simp [a4, a5]
    simp [h4, h5, hT, hwi0, s35_6, ]
    exact back 1 (hi.step hlt hok) (by omega) rfl (by simp <;> omega) (by simp) (by simp)
  · have h0' : 0 < i := by omega
    have hw : IntKind.i64.wrap ((i : Int) - 1) = ((i - 1 : Nat) : Int) := by rw [wrap64_of (by omega) (by omega)]; omega
    have hlt1 : i - 1 < l.length := by omega
    cases h2 : Op.bytesLess (l[i - 1]'(by omega)).name nm
    · have hb := hbad (by rw [hat, h2]; simp [h0])
      simp [h0, h0', hw, hlt1, hT, h2, hb, s35_6, ]
    simp [h0, h0', hw, hlt1, hT, h2, s35_6, ]
    refine call_f (w_impl_IsValidRelation ⟨ar, rows⟩) (by simp [eReln]) rfl fun hs2 hh2 => ?_
    simp at hh2
    cases h3 : rowsOk ar rows
    · have hb := hbad (by rw [hat, h3]; simp)
      simp [hb, s35_6, ]
    by_cases h4 : ar < 1
    · have hb := hbad (by rw [hat]; have : ¬ 1 ≤ ar := by omega
                          simp [this])
      simp [h4, hb, hT, s35_6, ]
    by_cases h5 : (16 : Int) < rows.length
    · have hb := hbad (by rw [hat]; have : ¬ rows.length ≤ 16 := by omega
                          simp [this])
      simp [h4, h5, hb, hT, s35_6, ]
    have hok : dbAt l i = true := by
      have a4 : 1 ≤ ar := by omega
      have a5 : rows.length ≤ 16 := by omega
      rw [hat, h1, h3]; simp [a4, a5, h2]
    simp [h4, h5, hT, hwi, s35_6, ]
    exact back (i + 1) (hi.step hlt hok) (by omega) rfl (by simp <;> omega) (by simp) (by simp)
theorem w_spec_IsValidDatabase (d : PDb) (hst : ∀ t ∈ d.tabs, t.name.length ≤ maxLen) : VC Try.prog 28 [.agg ((eDb d).map V.d)] (fun _ r => r = .d (.bool (dbOk d))) := by
  refine VC.ofL EP s28 (by kernel_rfl) Try.func28 (by rfl) (by kernel_rfl) (by simp [Try.f28]) (by simp [Try.f28]) s28_ok fun B hl => ?_
  obtain ⟨l⟩ := d
  simp [pS, maxLen, eDb] at hl
  simp only at hst
  simp [Try.f28, s28_5, s28_5, eDb]
  refine loop_rule (X := Nat) (DbTo l) (fun i => [(1, .ptr 1 0 0), (3, .d (.int .i64 i))]) (fun _ => [(1, some (.box [.d (.pl (l.map eTab))]))]) (fun i => l.length - i) 0 .zero (by simp) (by simp) ?_
  intro i hs t m hi hh
  have hil := hi.le
  by_cases hlt : i < l.length
  case neg =>
    have hd := hi.done (by omega)
    simp [hlt, hd]
    omega
  have hwi := wr1 (i := i) (by omega)
  have hat := dbAt_eq hlt
  have hbad : dbAt l i = false → dbOk ⟨l⟩ = false := dbOk_bad hlt
  obtain ⟨nm, ar, rows, hT⟩ : ∃ nm ar rows, l[i] = ⟨nm, ⟨ar, rows⟩⟩ := ⟨_, _, _, rfl⟩
  rw [hT] at hat
  simp only [tabOk] at hat
  have hnl : nm.length ≤ maxLen := by have := hst l[i] (List.getElem_mem hlt); rwa [hT] at this
  simp [hlt, hT, s28_5, ]
  refine call_f (w_spec_IsValidName nm hnl) (by simp) rfl fun hs1 hh1 => ?_
  simp at hh1
  cases h1 : nameOk nm
  · have hb := hbad (by rw [hat, h1]; simp)
    simp [hb, s28_5, ]
  by_cases h0 : i = 0
  · subst h0
    have hwi0 : IntKind.i64.wrap 1 = 1 := by simpa using hwi
    simp [hT, s28_5, ]
    refine call_f (w_spec_IsValidRelation ⟨ar, rows⟩) (by simp [eReln]) rfl fun hs2 hh2 => ?_
    simp at hh2
    cases h3 : rowsOk ar rows
    · have hb := hbad (by rw [hat, h3]; simp)
      simp [hb, s28_5, ]
    by_cases h5 : (16 : Int) < rows.length
    · have hb := hbad (by rw [hat]; have : ¬ rows.length ≤ 16 := by omega
                          simp [this])
      simp [h5, hb, hT, s28_5, ]
    by_cases h4 : ar < 1
    · have hb := hbad (by rw [hat]; have : ¬ 1 ≤ ar := by omega
                          simp [this])
      simp [h4, h5, hb, hT, s28_5, ]
    have hok : dbAt l 0 = true := by
      have a4 : 1 ≤ ar := by omega
      have a5 : rows.length ≤ 16 := by omega
      rw [hat, h1, h3]; simp [a4, a5]
    simp [h4, h5, hT, hwi0, s28_5, ]
    exact back 1 (hi.step hlt hok) (by omega) rfl (by simp <;> omega) (by simp) (by simp)
  · have h0' : 0 < i := by omega
    have hw : IntKind.i64.wrap ((i : Int) - 1) = ((i - 1 : Nat) : Int) := by rw [wrap64_of (by omega) (by omega)]; omega
    have hlt1 : i - 1 < l.length := by omega
    cases h2 : Op.bytesLess (l[i - 1]'(by omega)).name nm
    · have hb := hbad (by rw [hat, h2]; simp [h0])
      simp [h0, h0', hw, hlt1, hT, h2, hb, s28_5, ]
    simp [h0, h0', hw, hlt1, hT, h2, s28_5, ]
    refine call_f (w_spec_IsValidRelation ⟨ar, rows⟩) (by simp [eReln]) rfl fun hs2 hh2 => ?_
    simp at hh2
    cases h3 : rowsOk ar rows
    · have hb := hbad (by rw [hat, h3]; simp)
      simp [hb, s28_5, ]
    by_cases h5 : (16 : Int) < rows.length
    · have hb := hbad (by rw [hat]; have : ¬ rows.length ≤ 16 := by omega
                          simp [this])
      simp [h5, hb, hT, s28_5, ]
    by_cases h4 : ar < 1
    · have hb := hbad (by rw [hat]; have : ¬ 1 ≤ ar := by omega
                          simp [this])
      simp [h4, h5, hb, hT, s28_5, ]
    have hok : dbAt l i = true := by
      have a4 : 1 ≤ ar := by omega
      have a5 : rows.length ≤ 16 := by omega
      rw [hat, h1, h3]; simp [a4, a5, h2]
    simp [h4, h5, hT, hwi, s28_5, ]
    exact back (i + 1) (hi.step hlt hok) (by omega) rfl (by simp <;> omega) (by simp) (by simp)
end

end Go.Proofs.Ytepiehnhajnebaa


namespace Go.Proofs.Ytepiehnhajnebaa
open Go.Vs Go.Proofs Go
set_option maxRecDepth 100000
set_option maxHeartbeats 1000000

section
attribute [local simp] plI_id plStr_id map_plI map_plStr pS cP cI cStr cU8 cB
theorem w_impl_ChecksumOf (s : List UInt8) (hb : s.length ≤ 4611686018427387904) : VC Try.prog 16 [.d (.str s)] (fun _ r => r = .d (.int .i64 (ckS s))) := by
  refine VC.ofL EP s16 (by kernel_rfl) Try.func16 (by rfl) (by kernel_rfl) (by simp [Try.f16]) (by simp [Try.f16]) s16_ok fun B hl => ?_
  simp [Try.f16, ]
  refine loop_rule (X := Nat) (fun i => i ≤ s.length) (fun i => [(0, .d (.str s)), (3, .d (.int .i64 (ckS (s.take i)))), (4, .d (.int .i64 i))]) (fun _ => []) (fun i => s.length - i) 0 (by simp) (by simp [ckS]) (by simp) ?_
  intro i hs t m hi hh
  by_cases hlt : i < s.length
  · have hwi := wr1 (i := i) (by omega)
    have hst := ckS_step hlt
    have hx := ckS_in (s.take i)
    have hb8 := (s[i]).toNat_lt
    obtain ⟨x, hxe⟩ : ∃ x, x = ckS (s.take i) := ⟨_, rfl⟩
    obtain ⟨b, hbe⟩ : ∃ b, b = s[i] := ⟨_, rfl⟩
    rw [← hxe] at hx hst ⊢
    rw [← hbe] at hb8 hst
    have w1 : IntKind.i64.wrap (31 * x) = 31 * x := wrap64_of (by omega) (by omega)
    have w1' : IntKind.i64.wrap (x * 31) = 31 * x := by rw [Int.mul_comm]; exact w1
    have w2 : IntKind.i64.wrap ((b.toNat : Nat) : Int) = b.toNat := wrap64_of (by omega) (by omega)
    have w3 : IntKind.i64.wrap (31 * x + (b.toNat : Int)) = 31 * x + b.toNat := wrap64_of (by omega) (by omega)
    have w4 : IntKind.i64.wrap (31 * x + (b.toNat : Int) + 1) = 31 * x + b.toNat + 1 := wrap64_of (by omega) (by omega)
    simp [hlt, ← hbe, w1, w1', w2, w3, w4, hwi, ]
    exact back (i + 1) (by omega) (by omega) rfl (by simp <;> omega) (by simp [hst, ckB]) (by simp)
  · simp [hlt, List.take_of_length_le (show s.length ≤ i by omega)]
theorem w_spec_ChecksumOf (s : List UInt8) (hb : s.length ≤ 4611686018427387904) : VC Try.prog 17 [.d (.str s)] (fun _ r => r = .d (.int .i64 (ckS s))) := by
  refine VC.ofL EP s17 (by kernel_rfl) Try.func17 (by rfl) (by kernel_rfl) (by simp [Try.f17]) (by simp [Try.f17]) s17_ok fun B hl => ?_
  simp [Try.f17, ]
  refine loop_rule (X := Nat) (fun i => i ≤ s.length) (fun i => [(0, .d (.str s)), (3, .d (.int .i64 (ckS (s.take i)))), (4, .d (.int .i64 i))]) (fun _ => []) (fun i => s.length - i) 0 (by simp) (by simp [ckS]) (by simp) ?_
  intro i hs t m hi hh
  by_cases hlt : i < s.length
  · have hwi := wr1 (i := i) (by omega)
    have hst := ckS_step hlt
    have hx := ckS_in (s.take i)
    have hb8 := (s[i]).toNat_lt
    obtain ⟨x, hxe⟩ : ∃ x, x = ckS (s.take i) := ⟨_, rfl⟩
    obtain ⟨b, hbe⟩ : ∃ b, b = s[i] := ⟨_, rfl⟩
    rw [← hxe] at hx hst ⊢
    rw [← hbe] at hb8 hst
    have w1 : IntKind.i64.wrap (31 * x) = 31 * x := wrap64_of (by omega) (by omega)
    have w1' : IntKind.i64.wrap (x * 31) = 31 * x := by rw [Int.mul_comm]; exact w1
    have w2 : IntKind.i64.wrap ((b.toNat : Nat) : Int) = b.toNat := wrap64_of (by omega) (by omega)
    have w3 : IntKind.i64.wrap (31 * x + (b.toNat : Int)) = 31 * x + b.toNat := wrap64_of (by omega) (by omega)
    have w4 : IntKind.i64.wrap (31 * x + (b.toNat : Int) + 1) = 31 * x + b.toNat + 1 := wrap64_of (by omega) (by omega)
    simp [hlt, ← hbe, w1, w1', w2, w3, w4, hwi, ]
    exact back (i + 1) (by omega) (by omega) rfl (by simp <;> omega) (by simp [hst, ckB]) (by simp)
  · simp [hlt, List.take_of_length_le (show s.length ≤ i by omega)]
theorem w_spec_FormatInt (n : Int) (hn : inZ n) : VC Try.prog 42 [.d (.int .i64 n)] (fun _ r => r = .d (.str (decZ n))) := by
  refine VC.ofL EP s42 (by kernel_rfl) Try.func42 (by rfl) (by kernel_rfl) (by simp [Try.f42]) (by simp [Try.f42]) s42_ok fun B hl => ?_
  simp only [inZ] at hn
  by_cases hn0 : n = 0
  · subst hn0
    have : decZ 0 = [48] := by rw [decZ, if_neg (by omega)]; exact decN_lt (by omega)
    simp [Try.f42, this]
  obtain ⟨neg, hneg⟩ : ∃ b : Bool, b = decide (n < 0) := ⟨_, rfl⟩
  simp [Try.f42, hn0]
  rw [← hneg]
  refine loop_rule (X := Int × List UInt8) (fun p => (-9223372036854775808 ≤ p.1 ∧ p.1 ≤ 9223372036854775807) ∧ (if p.1 = 0 then decN n.natAbs = p.2 else decN n.natAbs = decN p.1.natAbs ++ p.2)) (fun p => [(0, .d (.int .i64 p.1)), (3, .d (.str p.2)), (4, .d (.bool neg))]) (fun _ => []) (fun p => p.1.natAbs) (n, []) ⟨hn, by rw [if_neg hn0]; simp⟩ (by simp [hneg]) (by simp) ?_
  rintro ⟨p, ds⟩ hs t m ⟨hp, hd⟩ hh
  simp only at hp hd
  have hl20 : (decN n.natAbs).length ≤ 20 := decN_len20 (by omega)
  by_cases hp0 : p = 0
  · subst hp0
    simp only [if_true] at hd
    have hout : decZ n = if neg then 45 :: ds else ds := by rw [decZ, hd, hneg]; simp
    rw [hd] at hl20
    cases hn2 : neg
    · simp [hn2] at hout
      simp [hout, hn2, ]
    · simp [hn2] at hout
      simp [hout, hn2, ]
      omega
  rw [if_neg hp0] at hd
  rw [hd, List.length_append] at hl20
  have hm : (p.tmod 10).natAbs = p.natAbs % 10 := by rw [Int.natAbs_tmod]; rfl
  have hq : (p.tdiv 10).natAbs = p.natAbs / 10 := by rw [Int.natAbs_tdiv]; rfl
  have hwq : IntKind.i64.wrap (p.tdiv 10) = p.tdiv 10 := wrap64_of (by omega) (by omega)
  obtain ⟨q, hqe⟩ : ∃ q, q = p.tdiv 10 := ⟨_, rfl⟩
  obtain ⟨r, hre⟩ : ∃ r, r = p.tmod 10 := ⟨_, rfl⟩
  obtain ⟨e, hee⟩ : ∃ e, e = p.natAbs % 10 := ⟨_, rfl⟩
  rw [← hqe] at hq hwq
  rw [← hre, ← hee] at hm
  have he10 : e < 10 := by omega
  have hw48 : IntKind.i64.wrap (48 + (e : Int)) = 48 + e := wrap64_of (by omega) (by omega)
  have hw8 : IntKind.u8.wrap (48 + (e : Int)) = 48 + e := by rw [IntKind.wrap_u8]; omega
  have hB1 : toB [D.int IntKind.u8 (48 + (e : Int))] = UInt8.ofNat (48 + e) := by
    have : (48 + (e : Int)).toNat = 48 + e := by omega
    simp only [toB, this]
  have hB5 : isB [D.int IntKind.u8 (48 + (e : Int))] = true := rfl
  have he0 : ¬ (e : Int) < 0 := by omega
  have hlen : ds.length + 1 ≤ 9223372036854775807 := by omega
  have hst : if q = 0 then decN n.natAbs = UInt8.ofNat (48 + e) :: ds else decN n.natAbs = decN q.natAbs ++ UInt8.ofNat (48 + e) :: ds := by
    split
    · rename_i h
      have : p.natAbs < 10 := by omega
      rw [hd, decN_lt this, hee, Nat.mod_eq_of_lt this]; rfl
    · rename_i h
      rw [hd, hq, decN_ge (by omega), hee]; simp
  by_cases h0 : r < 0
  · have hwn : IntKind.i64.wrap (-r) = e := by rw [wrap64_of (by omega) (by omega)]; omega
    simp [hp0, ← hre, ← hqe, h0, hwn, hw48, hw8, hwq, hB1, hB5, ]
    refine ⟨by omega, ?_⟩
    exact back (q, UInt8.ofNat (48 + e) :: ds) ⟨by simp only; omega, hst⟩ (by simp only; omega) rfl (by simp <;> omega) (by simp) (by simp)
  · have hr2 : r = (e : Int) := by omega
    simp [hp0, ← hre, ← hqe, h0, hr2, he0, hw48, hw8, hwq, hB1, hB5, ]
    refine ⟨by omega, ?_⟩
    exact back (q, UInt8.ofNat (48 + e) :: ds) ⟨by simp only; omega, hst⟩ (by simp only; omega) rfl (by simp <;> omega) (by simp) (by simp)
end

end Go.Proofs.Ytepiehnhajnebaa


namespace Go.Proofs.Ytepiehnhajnebaa
open Go.Vs Go.Proofs Go
set_option maxRecDepth 100000
set_option maxHeartbeats 1000000

section
attribute [local simp] plI_id plStr_id map_plI map_plStr pS cP cI cStr cU8 cB
theorem w_spec_l32Run (v : Int) (nm : List UInt8) (hv : inZ v) (hb : nm.length ≤ 4611686018427387904) : VC Try.prog 41 [.d (.int .i64 v), .d (.str nm)] (fun _ r => r = .d (.str (runNm v nm))) := by
  refine VC.ofL EP s41 (by kernel_rfl) Try.func41 (by rfl) (by kernel_rfl) (by simp [Try.f41]) (by simp [Try.f41]) s41_ok fun B hl => ?_
  have hl := decZ_len hv
  simp [Try.f41, ]
  refine call_f (w_spec_FormatInt v hv) (by simp) rfl fun hs1 hh1 => ?_
  simp [runNm]
  omega
theorem w_spec_l32Head (v : Int) (hv : inZ v) : VC Try.prog 43 [.d (.int .i64 v)] (fun _ r => r = .d (.str ([109] ++ decZ v))) := by
  refine VC.ofL EP s43 (by kernel_rfl) Try.func43 (by rfl) (by kernel_rfl) (by simp [Try.f43]) (by simp [Try.f43]) s43_ok fun B hl => ?_
  have hl := decZ_len hv
  simp [Try.f43, ]
  refine call_f (w_spec_FormatInt v hv) (by simp) rfl fun hs1 hh1 => ?_
  simp
  omega
theorem w_impl_formatList (l : List Int) (hz : ∀ x ∈ l, inZ x) (hb : l.length ≤ 1000000) : VC Try.prog 63 [.d (pS cI l), .d (.str [44])] (fun _ r => r = .d (.str (joinB [44] (l.map decZ)))) := by
  refine VC.ofL EP s63 (by kernel_rfl) Try.func63 (by rfl) (by kernel_rfl) (by simp [Try.f63]) (by simp [Try.f63]) s63_ok fun B hl => ?_
  have hW := strW_map decZ 1 21 l fun x hx => decZ_len (hz x hx)
  simp [Try.f63, ]
  refine loop_ruleL (X := Nat) (fun i _ => i ≤ l.length) (fun i => [(1, .d (.str [44])), (5, .own 19 0 i), (8, .d (.pl (l.map cI))), (9, .d (.int .i64 l.length)), (10, .d (.int .i64 i))]) (fun i => [(19, some (.row 9 1 (((l.take i).map decZ).map cStr)))]) (fun i => l.length - i) ?_ ?_
  · refine (lead_slot 5 19 9 1 (by omega) (by omega) (by simp)).bind ?_
    rintro _ rfl
    exact Lead.of ⟨0, by omega, rfl, rfl, Nat.le_refl _, by simp, by simp⟩
  intro i hs t m hi hh
  by_cases hlt : i < l.length
  · have hwi := wr1 (i := i) (by omega)
    have hL : LenOk 16 (i + 1) := ⟨by omega, by simp only [maxLen]; omega⟩
    have hst : (l.take (i + 1)).map decZ = (l.take i).map decZ ++ [decZ l[i]] := by rw [List.take_succ_eq_append_getElem hlt, List.map_append]; rfl
    simp [hlt, ]
    refine call_f (w_impl_FormatInt l[i] (hz _ (List.getElem_mem hlt))) (by simp) rfl fun hs2 hh2 => ?_
    simp at hh2
    simp [hwi, hL, ]
    have hst2 : List.take (i + 1) (List.map (cStr ∘ decZ) l) = List.take i (List.map (cStr ∘ decZ) l) ++ [cStr (decZ l[i])] := by
      rw [List.take_succ_eq_append_getElem (by simpa using hlt)]; simp
    refine ⟨by omega, ?_⟩
    exact back2 (i + 1) (by omega) (by omega) rfl (by simp <;> omega) (by simp) (by simp [hst2])
  · have hn : i = l.length := by omega
    subst hn
    simp [List.take_of_length_le, ]
    refine call_f (w_impl_join (l.map decZ) [44] (Nat.le_trans hW (by omega))) (by simp [List.take_of_length_le]) rfl fun hs2 hh2 => ?_
    simp
theorem w_spec_l5RowText (l : List Int) (hz : ∀ x ∈ l, inZ x) (hb : l.length ≤ 1000000) : VC Try.prog 65 [.d (pS cI l)] (fun _ r => r = .d (.str (fmtRow l))) := by
  refine VC.ofL EP s65 (by kernel_rfl) Try.func65 (by rfl) (by kernel_rfl) (by simp [Try.f65]) (by simp [Try.f65]) s65_ok fun B hl => ?_
  have hW := strW_map decZ 1 21 l fun x hx => decZ_len (hz x hx)
  simp [Try.f65, ]
  refine loop_rule (X := Nat) (fun i => i ≤ l.length) (fun i => [(0, .d (.pl (l.map cI))), (3, .d (.str ([40] ++ joinB [44] ((l.map decZ).take i)))), (4, .d (.int .i64 i))]) (fun _ => []) (fun i => l.length - i) 0 (by simp) (by simp [joinB]) (by simp) ?_
  intro i hs t m hi hh
  have hj : (joinB [44] ((l.map decZ).take i)).length ≤ strW 1 ((l.map decZ).take i) := joinB_len [44] _
  have hWt := strW_take 1 (l.map decZ) i
  by_cases hlt : i < l.length
  · have hwi := wr1 (i := i) (by omega)
    have hil : i < (l.map decZ).length := by simpa using hlt
    have hst := joinB_step (sep := [44]) hil
    have hat := strW_at (s := 1) hil
    rw [List.getElem_map] at hst hat
    obtain ⟨s, hse⟩ : ∃ s, s = joinB [44] ((l.map decZ).take i) := ⟨_, rfl⟩
    rw [← hse] at hst hj ⊢
    have hzi := hz _ (List.getElem_mem hlt)
    have hdl := decZ_len hzi
    by_cases h0 : i = 0
    · subst h0
      have hwi0 : IntKind.i64.wrap 1 = 1 := by simpa using hwi
      simp only [if_true, List.append_nil] at hst
      simp [hlt, ]
      refine call_f (w_spec_FormatInt l[0] hzi) (by simp) rfl fun hs2 hh2 => ?_
      simp at hh2
      simp [hwi0, ]
      refine ⟨by omega, ?_⟩
      exact back 1 (by omega) (by omega) rfl (by simp <;> omega) (by simp; simpa using hst.symm) (by simp)
    · have h0' : 0 < i := by omega
      simp only [h0, if_false] at hst
      simp [hlt, h0, h0', ]
      refine ⟨by omega, ?_⟩
      refine call_f (w_spec_FormatInt l[i] hzi) (by simp) rfl fun hs2 hh2 => ?_
      simp at hh2
      simp [hwi, ]
      refine ⟨by omega, ?_⟩
      exact back (i + 1) (by omega) (by omega) rfl (by simp <;> omega) (by simp; simpa using hst.symm) (by simp)
  · have hd : (l.map decZ).take i = l.map decZ := List.take_of_length_le (by simp; omega)
    rw [hd] at hj ⊢
    simp [hlt, fmtRow]
    omega
theorem w_impl_FormatRelation (r : PReln) : VC Try.prog 38 [.agg ((eReln r).map V.d)] (fun _ v => v = .d (.str (fmtRel r))) := by
  refine VC.ofL EP s38 (by kernel_rfl) Try.func38 (by rfl) (by kernel_rfl) (by simp [Try.f38]) (by simp [Try.f38]) s38_ok fun B hl => ?_
  obtain ⟨ar, l⟩ := r
  have hFL := fmtRel_len ⟨ar, l⟩
  simp [Try.f38, eReln]
  refine call_f (w_impl_IsValidRelation ⟨ar, l⟩) (by simp [eReln]) rfl fun hs1 hh1 => ?_
  simp at hh1
  cases h : rowsOk ar l
  · simp [fmtRel, h]
  have hlen := rowsOk_len h
  have hz : ∀ x ∈ l, ∀ y ∈ x, inZ y := fun x hx => valsOk_inZ (rowsOk_mem h hx).2
  have hr5 := rowsOk_row h
  have hW := strW_map fmtRow 1 112 l fun x hx => (fmtRow_len (hz x hx) (hr5 x hx)).1
  have har := rowsOk_inR h
  simp only [inR, Bool.and_eq_true, decide_eq_true_eq] at har
  have haz : inZ ar := by simp only [inZ]; omega
  have hF : fmtRel ⟨ar, l⟩ = decZ ar ++ [58] ++ joinB [32] (l.map fmtRow) := by simp only [fmtRel, h, if_true]
  rw [hF] at hFL ⊢
  simp only [List.length_append, List.length_singleton] at hFL
  simp []
  refine loop_ruleL (X := Nat) (fun i _ => i ≤ l.length) (fun i => [(1, .ptr 1 0 0), (3, .own 22 0 i), (10, .d (.pl (l.map (cP cI)))), (11, .d (.int .i64 l.length)), (12, .d (.int .i64 i))]) (fun i => [(1, some (.box [.d (.int .i64 ar), .d (.pl (l.map (cP cI)))])), (22, some (.row 9 1 (((l.take i).map fmtRow).map cStr)))]) (fun i => l.length - i) ?_ ?_
  · refine (lead_slot 3 22 9 1 (by omega) (by omega) (by simp)).bind ?_
    rintro _ rfl
    exact Lead.of ⟨0, by omega, rfl, rfl, Nat.le_refl _, by simp, by simp⟩
  intro i hs t m hi hh
  by_cases hlt : i < l.length
  · have hwi := wr1 (i := i) (by omega)
    have hL : LenOk 16 (i + 1) := ⟨by omega, by simp only [maxLen]; omega⟩
    have hx := List.getElem_mem hlt
    have hrl := fmtRow_len (hz _ hx) (hr5 _ hx)
    have hjl : (joinB [44] (l[i].map decZ)).length ≤ 110 := Nat.le_trans (joinB_len [44] _) hrl.2
    simp [hlt, ]
    refine call_f (w_impl_formatList l[i] (hz _ hx) (by have := hr5 _ hx; omega)) (by simp) rfl fun hs2 hh2 => ?_
    simp at hh2
    simp [hwi, hL, ]
    have hst2 : List.take (i + 1) (List.map (cStr ∘ fmtRow) l) = List.take i (List.map (cStr ∘ fmtRow) l) ++ [cStr (fmtRow l[i])] := by
      rw [List.take_succ_eq_append_getElem (by simpa using hlt)]; simp
    refine ⟨by omega, by omega, by omega, ?_⟩
    exact back2 (i + 1) (by omega) (by omega) rfl (by simp <;> omega) (by simp) (by simp [hst2, fmtRow])
  · have hn : i = l.length := by omega
    subst hn
    simp [List.take_of_length_le, ]
    refine call_f (w_impl_FormatInt ar haz) (by simp) rfl fun hs2 hh2 => ?_
    simp at hh2
    simp [List.take_of_length_le, ]
    refine ⟨by omega, ?_⟩
    refine call_f (w_impl_join (l.map fmtRow) [32] (Nat.le_trans hW (by omega))) (by simp [List.take_of_length_le]) rfl fun hs3 hh3 => ?_
    simp
    omega
theorem w_spec_FormatRelation (r : PReln) : VC Try.prog 40 [.agg ((eReln r).map V.d)] (fun _ v => v = .d (.str (fmtRel r))) := by
  refine VC.ofL EP s40 (by kernel_rfl) Try.func40 (by rfl) (by kernel_rfl) (by simp [Try.f40]) (by simp [Try.f40]) s40_ok fun B hl => ?_
  obtain ⟨ar, l⟩ := r
  have hFL := fmtRel_len ⟨ar, l⟩
  simp [Try.f40, eReln]
  refine call_f (w_spec_IsValidRelation ⟨ar, l⟩) (by simp [eReln]) rfl fun hs1 hh1 => ?_
  simp at hh1
  cases h : rowsOk ar l
  · simp [fmtRel, h]
  have hlen := rowsOk_len h
  have hz : ∀ x ∈ l, ∀ y ∈ x, inZ y := fun x hx => valsOk_inZ (rowsOk_mem h hx).2
  have hr5 := rowsOk_row h
  have hW := strW_map fmtRow 1 112 l fun x hx => (fmtRow_len (hz x hx) (hr5 x hx)).1
  have har := rowsOk_inR h
  simp only [inR, Bool.and_eq_true, decide_eq_true_eq] at har
  have haz : inZ ar := by simp only [inZ]; omega
  have hda := decZ_len haz
  have hF : fmtRel ⟨ar, l⟩ = decZ ar ++ [58] ++ joinB [32] (l.map fmtRow) := by simp only [fmtRel, h, if_true]
  rw [hF] at hFL ⊢
  simp []
  refine call_f (w_spec_FormatInt ar haz) (by simp) rfl fun hs2 hh2 => ?_
  simp at hh2
  simp []
  refine ⟨by omega, ?_⟩
  refine loop_rule (X := Nat) (fun i => i ≤ l.length) (fun i => [(1, .ptr 1 0 0), (3, .d (.str (decZ ar ++ [58] ++ joinB [32] ((l.map fmtRow).take i)))), (4, .d (.int .i64 i))]) (fun _ => [(1, some (.box [.d (.int .i64 ar), .d (.pl (l.map (cP cI)))]))]) (fun i => l.length - i) 0 (by simp) (by simp [joinB]) (by simp) ?_
  intro i hs t m hi hh
  have hj : (joinB [32] ((l.map fmtRow).take i)).length ≤ strW 1 ((l.map fmtRow).take i) := joinB_len [32] _
  have hWt := strW_take 1 (l.map fmtRow) i
  by_cases hlt : i < l.length
  · have hwi := wr1 (i := i) (by omega)
    have hil : i < (l.map fmtRow).length := by simpa using hlt
    have hst := joinB_step (sep := [32]) hil
    have hat := strW_at (s := 1) hil
    rw [List.getElem_map] at hst hat
    obtain ⟨s, hse⟩ : ∃ s, s = joinB [32] ((l.map fmtRow).take i) := ⟨_, rfl⟩
    rw [← hse] at hst hj ⊢
    have hx := List.getElem_mem hlt
    have hb5 := hr5 _ hx
    by_cases h0 : i = 0
    · subst h0
      have hwi0 : IntKind.i64.wrap 1 = 1 := by simpa using hwi
      simp only [if_true, List.append_nil] at hst
      simp [hlt, ]
      refine call_f (w_spec_l5RowText l[0] (hz _ hx) (by omega)) (by simp) rfl fun hs2 hh2 => ?_
      simp at hh2
      simp [hwi0, ]
      refine ⟨by omega, ?_⟩
      exact back 1 (by omega) (by omega) rfl (by simp <;> omega) (by simp; simpa using hst.symm) (by simp)
    · have h0' : 0 < i := by omega
      simp only [h0, if_false] at hst
      simp [hlt, h0, h0', ]
      refine ⟨by omega, ?_⟩
      refine call_f (w_spec_l5RowText l[i] (hz _ hx) (by omega)) (by simp) rfl fun hs2 hh2 => ?_
      simp at hh2
      simp [hwi, ]
      refine ⟨by omega, ?_⟩
      exact back (i + 1) (by omega) (by omega) rfl (by simp <;> omega) (by simp; simpa using hst.symm) (by simp)
  · have hd : (l.map fmtRow).take i = l.map fmtRow := List.take_of_length_le (by simp; omega)
    rw [hd] at hj ⊢
    simp [hlt]
end

end Go.Proofs.Ytepiehnhajnebaa


namespace Go.Proofs.Ytepiehnhajnebaa
open Go.Vs Go.Proofs Go
set_option maxRecDepth 100000
set_option maxHeartbeats 1000000

section
attribute [local simp] plI_id plStr_id map_plI map_plStr pS cP cI cStr cU8 cB
theorem w_spec_VersionFiles (d : PDb) (v : Int) (hst : ∀ t ∈ d.tabs, t.name.length ≤ maxLen) : VC Try.prog 15 [.agg ((eDb d).map V.d), .d (.int .i64 v)] (fun _ r => r = .d (pS eFile (verFs d v))) := by
  refine VC.ofL EP s15 (by kernel_rfl) Try.func15 (by rfl) (by kernel_rfl) (by simp [Try.f15]) (by simp [Try.f15]) s15_ok fun B hl => ?_
  obtain ⟨l⟩ := d
  simp [Try.f15, s15_10, s15_10, eDb]
  refine call_f (w_spec_IsValidDatabase ⟨l⟩ hst) (by simp [eDb]) rfl fun hs1 hh1 => ?_
  simp at hh1
  cases h1 : dbOk ⟨l⟩
  · simp [verFs, verB, h1, s15_10, ]
  simp [s15_10, ]
  refine call_f (w_spec_l1In v 1 99) (by simp) rfl fun hs2 hh2 => ?_
  simp at hh2
  cases h2 : inR v 1 99
  · simp [verFs, verB, h1, h2, s15_10, ]
  have hvz : inZ v := by simp only [inR, Bool.and_eq_true, decide_eq_true_eq] at h2; simp only [inZ]; omega
  have hdl := decZ_len hvz
  have hl6 : l.length ≤ 6 := dbOk_len h1
  have hnm : ∀ t ∈ l, t.name.length ≤ 4 := fun t ht => tabOk_name (dbOk_tab h1 ht)
  have hV : verFs ⟨l⟩ v = runs v l ++ [⟨[109] ++ decZ v, headTx l ++ decZ (ckS (headTx l))⟩] := by simp only [verFs, verB, h1, h2]; rfl
  simp [s15_10, ]
  refine loop_rule (X := Nat) (fun i => i ≤ l.length) (fun i => [(2, .ptr 2 0 0), (1, .d (.int .i64 v)), (5, .own 9 0 i), (6, .d (.str (headTx (l.take i)))), (7, .d (.int .i64 i))]) (fun i => [(2, some (.box [.d (.pl (l.map eTab))])), (9, some (.row 34 2 ((runs v (l.take i)).map eFile)))]) (fun i => l.length - i) 0 (by simp) (by simp [headTx]) (by simp [runs]) ?_
  intro i hs t m hi hh
  by_cases hlt : i < l.length
  · have hwi := wr1 (i := i) (by omega)
    have hL : LenOk 32 (i + 1) := ⟨by omega, by simp only [maxLen]; omega⟩
    have hT := List.getElem_mem hlt
    have hn4 := hnm _ hT
    obtain ⟨nm, ar, rows, hTe⟩ : ∃ nm ar rows, l[i] = ⟨nm, ⟨ar, rows⟩⟩ := ⟨_, _, _, rfl⟩
    have hst1 := headTx_step hlt
    have hst2 := runs_step (v := v) hlt
    have hhl := headTx_len (l := l.take i) fun t ht => hnm t (List.mem_of_mem_take ht)
    rw [List.length_take] at hhl
    rw [hTe] at hst1 hst2 hn4
    simp only at hn4
    have hfl := fmtRel_len ⟨ar, rows⟩
    have hck := ckS_in (fmtRel ⟨ar, rows⟩)
    have hckz : inZ (ckS (fmtRel ⟨ar, rows⟩)) := by simp only [inZ]; omega
    have hckl := decZ_len hckz
    simp [hlt, hTe, eTab, eReln, s15_10, ]
    refine call_f (w_spec_FormatRelation ⟨ar, rows⟩) (by simp [eReln]) rfl fun hs3 hh3 => ?_
    simp at hh3
    simp [hlt, hTe, eTab, eReln, s15_10, ]
    refine call_f (w_spec_l32Run v nm hvz (by omega)) (by simp) rfl fun hs4 hh4 => ?_
    simp at hh4
    simp [hlt, hTe, eTab, eReln, hL, show min i l.length = i by omega, s15_10, ]
    refine ⟨by omega, by omega, ?_⟩
    refine call_f (w_spec_ChecksumOf (fmtRel ⟨ar, rows⟩) (by omega)) (by simp) rfl fun hs5 hh5 => ?_
    simp at hh5
    simp [s15_10, ]
    refine call_f (w_spec_FormatInt (ckS (fmtRel ⟨ar, rows⟩)) hckz) (by simp) rfl fun hs6 hh6 => ?_
    simp at hh6
    simp [hwi, s15_10, ]
    refine ⟨by omega, by omega, ?_⟩
    exact back (i + 1) (by omega) (by omega) rfl (by simp <;> omega) (by simp [hst1, headLn]) (by simp [hst2, eFile])
  · have hn : i = l.length := by omega
    subst hn
    have hT := headTx_len hnm
    have hck := ckS_in (headTx l)
    have hckz : inZ (ckS (headTx l)) := by simp only [inZ]; omega
    have hckl := decZ_len hckz
    have hL : LenOk 32 (l.length + 1) := ⟨by omega, by simp only [maxLen]; omega⟩
    simp [List.take_of_length_le, s15_10, ]
    refine call_f (w_spec_l32Head v hvz) (by simp) rfl fun hs3 hh3 => ?_
    simp at hh3
    simp [s15_10, ]
    refine call_f (w_spec_ChecksumOf (headTx l) (by omega)) (by simp) rfl fun hs5 hh5 => ?_
    simp at hh5
    simp [s15_10, ]
    refine call_f (w_spec_FormatInt (ckS (headTx l)) hckz) (by simp) rfl fun hs6 hh6 => ?_
    simp at hh6
    simp [hL, hV, eFile, s15_10, ]
    exact ⟨by omega, List.take_of_length_le (by simp)⟩
end
theorem t_impl_VersionFiles (d : Db) (v : Int) (hd : okDb d) : VC Try.prog 14 [.agg ((cDb d).map V.d), .d (.int .i64 v)]
   (fun n r => ∃ y : Sl File, r = .d (dSl cFile y) ∧ plS plFile y = verFs (plDb d) v ∧ okS okFile y ∧ Good (cS cFile y) (whS whFile y) n) := by
  refine VC.of E s14 (by kernel_rfl) Try.func14 (by rfl) (by kernel_rfl) (by simp [Try.f14]) (by simp [Try.f14]) s14_ok fun B => ?_
  simp [Try.f14, s14_11, s14_11, cDb, cS]
  refine call_f (w_impl_IsValidDatabase (plDb d)) (by simp [eDb, plDb, er_Tab, pS, cP]) rfl fun hs1 hh1 => ?_
  simp at hh1
  cases h1 : dbOk (plDb d)
  · simp [s14_11, ]
    exact ⟨nilS, by simp [nilS, dSl], by simp [verFs, verB, h1, nilS, plS], ok_nilS, good_nilF B⟩
  simp [s14_11, ]
  refine call_f (w_impl_within v 1 99) (by simp) rfl fun hs2 hh2 => ?_
  simp at hh2
  cases h2 : inR v 1 99
  · simp [s14_11, ]
    exact ⟨nilS, by simp [nilS, dSl], by simp [verFs, verB, h1, h2, nilS, plS], ok_nilS, good_nilF B⟩
  have hvz : inZ v := by simp only [inR, Bool.and_eq_true, decide_eq_true_eq] at h2; simp only [inZ]; omega
  have hdl := decZ_len hvz
  obtain ⟨⟨tid, tT, tabs⟩⟩ := d
  obtain ⟨l, hl⟩ : ∃ l, l = tabs.map plTab := ⟨_, rfl⟩
  have hp : plDb ⟨⟨tid, tT, tabs⟩⟩ = ⟨l⟩ := by rw [hl]; rfl
  rw [hp] at h1
  have hll : l.length = tabs.length := by rw [hl]; simp
  have hl6 : l.length ≤ 6 := dbOk_len h1
  have hnm : ∀ t ∈ l, t.name.length ≤ 4 := fun t ht => tabOk_name (dbOk_tab h1 ht)
  have hV : verFs ⟨l⟩ v = runs v l ++ [⟨[109] ++ decZ v, headTx l ++ decZ (ckS (headTx l))⟩] := by simp only [verFs, verB, h1, h2]; rfl
  rw [hp]
  simp [dSl, s14_11, ]
  refine call_f (w_impl_FormatInt v hvz) (by simp) rfl fun hs3 hh3 => ?_
  simp at hh3
  simp [dSl, s14_11, ]
  refine loop_ruleL (X := Nat) (fun i _ => i ≤ tabs.length) (fun i => [(2, .ptr 2 0 0), (5, .own 41 0 i), (6, .d (.str (headTx (l.take i)))), (7, .d (.str (decZ v))), (22, .d (.sl tid tT (tabs.map cTab))), (23, .d (.int .i64 tabs.length)), (24, .d (.int .i64 i))])
    (fun i => [(2, some (.box [.d (.sl tid tT (tabs.map cTab))])), (41, some (.row 34 2 ((runs v (l.take i)).map eFile)))]) (fun i => tabs.length - i) ?_ ?_
  · refine (lead_slot 5 41 34 2 (by omega) (by omega) (by simp)).bind ?_
    rintro _ rfl
    exact Lead.of ⟨0, by omega, rfl, rfl, Nat.le_refl _, by simp [headTx], by simp [runs]⟩
  intro i hs t m hi hh
  by_cases hlt : i < tabs.length
  · have hlt' : i < l.length := by omega
    have hwi := wr1 (i := i) (by omega)
    have hL : LenOk 32 (i + 1) := ⟨by omega, by simp only [maxLen]; omega⟩
    have hT := List.getElem_mem hlt'
    have hn4 := hnm _ hT
    have hTe : l[i] = ⟨tabs[i].name, plReln tabs[i].rel⟩ := by simp [hl, plTab, plStr]
    have hst1 := headTx_step hlt'
    have hst2 := runs_step (v := v) hlt'
    have hhl := headTx_len (l := l.take i) fun t ht => hnm t (List.mem_of_mem_take ht)
    rw [List.length_take] at hhl
    rw [hTe] at hst1 hst2 hn4
    simp only at hn4
    obtain ⟨nm, hnme⟩ : ∃ nm, nm = tabs[i].name := ⟨_, rfl⟩
    obtain ⟨r, hre⟩ : ∃ r, r = tabs[i].rel := ⟨_, rfl⟩
    rw [← hnme] at hst1 hst2 hn4
    rw [← hre] at hst1 hst2
    have hTc : cTab tabs[i] = cStr nm ++ cReln r := by rw [hnme, hre]; rfl
    have hfl := fmtRel_len (plReln r)
    have hck := ckS_in (fmtRel (plReln r))
    have hckz : inZ (ckS (fmtRel (plReln r))) := by simp only [inZ]; omega
    have hckl := decZ_len hckz
    have hmn : min i l.length = i := by omega
    simp [hlt, hTc, cStr, cReln, cS, cI, s14_11, ]
    refine call_f (w_impl_FormatRelation (plReln r)) (by simp [eReln, plReln, er_SI, pS, cP, cI, plI]) rfl fun hs3 hh3 => ?_
    simp at hh3
    simp [hlt, cStr, cReln, cS, cI, hL, hmn, s14_11, ]
    refine ⟨by omega, by omega, by omega, by omega, ?_⟩
    refine call_f (w_impl_ChecksumOf (fmtRel (plReln r)) (by omega)) (by simp) rfl fun hs5 hh5 => ?_
    simp at hh5
    simp [s14_11, ]
    refine call_f (w_impl_FormatInt (ckS (fmtRel (plReln r))) hckz) (by simp) rfl fun hs6 hh6 => ?_
    simp at hh6
    simp [hwi, s14_11, ]
    refine ⟨by omega, by omega, by omega, ?_⟩
    exact back2 (i + 1) (by omega) (by omega) rfl (by simp <;> omega) (by simp [hst1, headLn, runNm]) (by simp [hst2, eFile, runNm, cStr])
  · have hn : i = tabs.length := by omega
    have htl : l.take i = l := List.take_of_length_le (by omega)
    have hT := headTx_len hnm
    have hck := ckS_in (headTx l)
    have hckz : inZ (ckS (headTx l)) := by simp only [inZ]; omega
    have hckl := decZ_len hckz
    have hL : LenOk 32 (l.length + 1) := ⟨by omega, by simp only [maxLen]; omega⟩
    subst hn
    rw [htl]
    rw [← hll]
    simp [s14_11, ]
    refine ⟨by omega, ?_⟩
    refine call_f (w_impl_ChecksumOf (headTx l) (by omega)) (by simp) rfl fun hs5 hh5 => ?_
    simp at hh5
    simp [s14_11, ]
    refine call_f (w_impl_FormatInt (ckS (headTx l)) hckz) (by simp) rfl fun hs6 hh6 => ?_
    simp at hh6
    simp [hL, s14_11, ]
    refine ⟨by omega, ?_⟩
    intro γ hs' h2' hg
    obtain ⟨fs, hfs⟩ : ∃ fs : List File, fs = (verFs ⟨l⟩ v).map toF := ⟨_, rfl⟩
    have hfe : fs.map cFile = (runs v l).map eFile ++ [[.str (109 :: decZ v), .str (headTx l ++ decZ (ckS (headTx l)))]] := by
      rw [hfs, hV, List.map_map]
      have : (cFile ∘ toF) = eFile := by funext p; rfl
      rw [this]; simp [eFile, cStr]
    have hfl : fs.length = l.length + 1 := by rw [hfs, hV]; simp
    obtain ⟨q1, q2⟩ := gam_at hg (k := 41) (T := 34) (sz := 2) (es := fs.map cFile) (by simp [hfe])
    have r1 := gam_row hg (k := 41) (T := 34) (sz := 2) (es := fs.map cFile) (by simp [hfe])
    clear hg
    have hok : ∀ f ∈ fs, okFile f := fun f hf => by
      rw [hfs, hV, List.map_append, List.mem_append] at hf
      rcases hf with hf | hf
      · simp only [runs, List.map_map, List.mem_map] at hf
        obtain ⟨t, ht, rfl⟩ := hf
        have h4 := hnm t ht
        have h5 := fmtRel_len t.rel
        refine ⟨?_, ?_⟩
        · show (runNm v t.name).length ≤ maxLen
          simp only [runNm, maxLen, List.length_append, List.length_singleton]; omega
        · show (fmtRel t.rel).length ≤ maxLen
          simp only [maxLen]; omega
      · simp only [List.map_cons, List.map_nil, List.mem_singleton] at hf
        subst hf
        refine ⟨?_, ?_⟩
        · show ([109] ++ decZ v).length ≤ maxLen
          simp only [maxLen, List.length_append, List.length_singleton]; omega
        · show (headTx l ++ decZ (ckS (headTx l))).length ≤ maxLen
          simp only [maxLen, List.length_append]; omega
    have hids : ∀ fs : List File, idsLL (fs.map cFile) = [] := fun fs => by
      induction fs with
      | nil => simp [idsLL]
      | cons a r ih => simp only [List.map_cons, idsLL, ih]; simp [cFile, cStr, idsL, D.ids]
    have hp0 : hpLL (List.map eFile (runs v l)) = false := hpLL_map (fun a => by simp [eFile, cStr]) _
    simp [hp0, List.take_of_length_le]
    refine ⟨⟨γ 41, some (34, 2), fs⟩, ?_, ?_, ⟨by simp only [maxLen]; show fs.length ≤ _; omega, hok⟩, good_row (fun g hg => (q1 g hg).1) (by simpa using q2) r1 ⟨by rw [hids]; simp, by rw [hids]; simp⟩ (fun a _ => by simp [whFile, whStr])⟩
    · simp [dSl, hfe, List.take_of_length_le]
    · have : plS plFile (⟨γ 41, some (34, 2), fs⟩ : Sl File) = fs.map plFile := rfl
      rw [this, hfs, List.map_map]
      have : (plFile ∘ toF) = id := by funext p; rfl
      rw [this, List.map_id]

end Go.Proofs.Ytepiehnhajnebaa


namespace Go.Proofs.Ytepiehnhajnebaa
open Go.Vs Go.Proofs Go
set_option maxRecDepth 100000
set_option maxHeartbeats 1000000

theorem w_spec_l5Copy (r : PReln) (hb : r.rows.length ≤ 4294967296) (hb2 : ∀ x ∈ r.rows, x.length ≤ 4294967296) : VC Try.prog 88 [.agg ((eReln r).map .d)] (fun _ v => v = .agg ((eReln r).map .d)) := by
  obtain ⟨ar, l⟩ := r
  simp only at hb hb2
  refine VC.ofL EP s88 (by kernel_rfl) Try.func88 (by rfl) (by kernel_rfl) (by simp [Try.f88]) (by simp [Try.f88]) s88_ok fun B hl => ?_
  simp [Try.f88, s88_5, eReln]
  refine loop_ruleL (X := Nat) (fun i _ => i ≤ l.length) (fun i => [(1, .ptr 1 0 0), (2, .ptr 2 0 0), (3, .ptr 3 0 0), (4, .d (.int .i64 i))])
    (fun i => [(1, some (.box [.d (.int .i64 ar), .d (.pl (l.map (cP cI)))])), (2, some (.box [.d (.int .i64 0), .d (.sl none none [])])), (3, some (.box [.d (.int .i64 ar), .own 25 0 i])), (25, some (.row 61 1 ((l.take i).map (cP cI))))]) (fun i => l.length - i) ?_ ?_
  · refine (lead_box 3 1 25 61 1 [.d (.int .i64 ar), .d (.sl none none [])] (by omega) (by omega) (by omega) (by simp) rfl).bind ?_
    rintro _ rfl
    exact Lead.of ⟨0, by simp, rfl, rfl, Nat.le_refl _, by simp, by simp⟩
  · intro i hs t m hi hh
    by_cases hlt : i < l.length
    · have hwi := wr1 (i := i) (by omega)
      have hL : LenOk 24 (i + 1) := ⟨by omega, by simp only [maxLen]; omega⟩
      have hx := hb2 _ (List.getElem_mem hlt)
      have hL2 : LenOk 8 l[i].length := ⟨by omega, by simp only [maxLen]; omega⟩
      simp [hlt, hL, hL2, hwi, List.take_of_length_le, show min i l.length = i by omega, s88_5, ]
      refine back2 (i + 1) (by omega) (by omega) rfl (by simp <;> omega) (by simp) ?_
      simp
      rw [List.take_succ_eq_append_getElem (by simpa using hlt)]; simp
    · have hn : i = l.length := by omega
      subst hn
      simp [List.take_of_length_le]

end Go.Proofs.Ytepiehnhajnebaa


namespace Go.Proofs.Ytepiehnhajnebaa
open Go.Vs Go.Proofs Go
set_option maxRecDepth 100000
set_option maxHeartbeats 1000000

section
attribute [local simp] plI_id plStr_id map_plI map_plStr pS cP cI cStr cU8 cB
theorem w_spec_LookupRelation (d : PDb) (nm : List UInt8) (hst : ∀ t ∈ d.tabs, t.name.length ≤ maxLen) : VC Try.prog 75 [.agg ((eDb d).map V.d), .d (.str nm)] (fun _ v => v = .tup [.agg ((eReln (lkR d nm)).map V.d), .d (.bool (lkB d nm))]) := by
  refine VC.ofL EP s75 (by kernel_rfl) Try.func75 (by rfl) (by kernel_rfl) (by simp [Try.f75]) (by simp [Try.f75]) s75_ok fun B hl => ?_
  obtain ⟨l⟩ := d
  simp [pS, maxLen, eDb] at hl
  simp [Try.f75, eDb]
  refine loop_rule (X := Nat) (LkTo l nm) (fun i => [(1, .d (.str nm)), (2, .ptr 2 0 0), (4, .ptr 4 0 0), (6, .d (.int .i64 i))]) (fun _ => [(2, some (.box [.d (.pl (l.map eTab))])), (4, some (.box [.d (.int .i64 0), .d (.sl none none [])]))]) (fun i => l.length - i) 0 .zero (by simp) (by simp) ?_
  intro i hs t m hi hh
  by_cases hlt : i < l.length
  · have hwi := wr1 (i := i) (by omega)
    simp [hlt, ]
    refine call_f (w_spec_IsValidDatabase ⟨l⟩ hst) (by simp [eDb]) rfl fun hs1 hh1 => ?_
    simp at hh1
    cases h1 : dbOk ⟨l⟩
    · obtain ⟨e1, e2⟩ := lk_no (nm := nm) h1
      simp [e1, e2, eReln, ]
    have hr := tabOk_rel (dbOk_tab h1 (List.getElem_mem hlt))
    by_cases he : l[i].name = nm
    · obtain ⟨e1, e2⟩ := hi.found h1 hlt he
      simp [hlt, he, eTab, eReln, ]
      refine call_p (w_spec_l5Copy l[i].rel hr.1 hr.2) (by simp [eReln]) fun hs2 hh2 hl2 => ?_
      simp [e1, e2, eReln]
    · simp [hlt, he, hwi, eTab, eReln, ]
      exact back (i + 1) (hi.step hlt he) (by omega) rfl (by simp <;> omega) (by simp [eTab, eReln]) (by simp [eTab, eReln])
  · obtain ⟨e1, e2⟩ := hi.done (by omega)
    simp [hlt, e1, e2, eReln, ]
theorem w_spec_l26Fits (d : PDb) (x : PDelta) (hst : ∀ t ∈ d.tabs, t.name.length ≤ maxLen) : VC Try.prog 87 [.agg ((eDb d).map V.d), .agg ((eDelta x).map V.d)] (fun _ v => v = .d (.bool (fitB d x))) := by
  refine VC.ofL EP s87 (by kernel_rfl) Try.func87 (by rfl) (by kernel_rfl) (by simp [Try.f87]) (by simp [Try.f87]) s87_ok fun B hl => ?_
  obtain ⟨nm, ⟨ia, il⟩, ⟨da, dl⟩⟩ := x
  simp [Try.f87, eDb, eDelta, eReln]
  refine call_p (w_spec_LookupRelation d nm hst) (by simp [eDb]) fun hs1 hh1 hl1 => ?_
  simp at hh1
  obtain ⟨⟨ra, rl⟩, hr⟩ : ∃ r, r = lkR d nm := ⟨_, rfl⟩
  rw [← hr]
  cases h1 : lkB d nm
  · simp [eReln, fitB, h1, ← hr]
  simp [eReln]
  refine call_f (w_spec_IsValidRelation ⟨ia, il⟩) (by simp [eReln]) rfl fun hs2 hh2 => ?_
  simp at hh2
  cases h2 : rowsOk ia il
  · simp [eReln, fitB, h1, h2, ← hr]
  simp [eReln]
  refine call_f (w_spec_IsValidRelation ⟨da, dl⟩) (by simp [eReln]) rfl fun hs3 hh3 => ?_
  simp at hh3
  cases h3 : rowsOk da dl
  · simp [eReln, fitB, h1, h2, h3, ← hr]
  by_cases h4 : ia = ra
  case neg => simp [eReln, fitB, h1, h2, h3, h4, ← hr]
  subst h4
  by_cases h5 : da = ia
  case neg => simp [eReln, fitB, h1, h2, h3, h5, ← hr]
  subst h5
  simp [eReln, fitB, h1, h2, h3, ← hr]
end

end Go.Proofs.Ytepiehnhajnebaa


namespace Go.Proofs.Ytepiehnhajnebaa
open Go.Vs Go.Proofs Go
set_option maxRecDepth 100000
set_option maxHeartbeats 1000000

section
attribute [local simp] plI_id plStr_id map_plI map_plStr pS cP cI cStr cU8 cB
theorem w_spec_Difference (a b : PReln) : VC Try.prog 76 [.agg ((eReln a).map V.d), .agg ((eReln b).map V.d)] (fun _ v => v = .tup [.agg ((eReln (difR a b)).map V.d), .d (.bool (difB a b))]) := by
  refine VC.ofL EP s76 (by kernel_rfl) Try.func76 (by rfl) (by kernel_rfl) (by simp [Try.f76]) (by simp [Try.f76]) s76_ok fun B hl => ?_
  obtain ⟨aa, al⟩ := a
  obtain ⟨ba, bl⟩ := b
  simp [Try.f76, s76_7, s76_9, eReln]
  refine call_f (w_spec_IsValidRelation ⟨aa, al⟩) (by simp [eReln]) rfl fun hs1 hh1 => ?_
  simp at hh1
  cases h1 : rowsOk aa al
  · simp [difR, difB, h1, eReln]
  simp
  refine call_f (w_spec_IsValidRelation ⟨ba, bl⟩) (by simp [eReln]) rfl fun hs2 hh2 => ?_
  simp at hh2
  cases h2 : rowsOk ba bl
  · simp [difR, difB, h1, h2, eReln]
  by_cases h3 : aa = ba
  case neg => simp [difR, difB, h1, h2, h3, eReln]
  subst h3
  have hdb : difB ⟨aa, al⟩ ⟨aa, bl⟩ = true := by simp [difB, h1, h2]
  have hdr : difR ⟨aa, al⟩ ⟨aa, bl⟩ = ⟨aa, difL al bl⟩ := by simp only [difR, hdb, if_true]
  rw [hdb, hdr]
  have hal := rowsOk_len h1
  have hbl := rowsOk_len h2
  have hrow := rowsOk_row h1
  simp
  refine loop_ruleL (X := Nat) (fun i _ => i ≤ al.length) (fun i => [(2, .ptr 2 0 0), (3, .ptr 3 0 0), (4, .ptr 4 0 0), (6, .ptr 6 0 0), (7, .d (.int .i64 i))])
    (fun i => [(2, some (.box [.d (.int .i64 aa), .d (.pl (al.map (cP cI)))])), (3, some (.box [.d (.int .i64 aa), .d (.pl (bl.map (cP cI)))])), (4, some (.box [.d (.int .i64 0), .d (.sl none none [])])), (6, some (.box [.d (.int .i64 aa), .own 58 0 (difL (al.take i) bl).length])), (58, some (.row 61 1 ((difL (al.take i) bl).map (cP cI))))]) (fun i => al.length - i) ?_ ?_
  · refine (lead_box 6 1 58 61 1 [.d (.int .i64 aa), .d (.sl none none [])] (by omega) (by omega) (by omega) (by simp) rfl).bind ?_
    rintro _ rfl
    exact Lead.of ⟨0, by omega, rfl, rfl, Nat.le_refl _, by simp, by simp [difL]⟩
  intro i hs t m hi hh
  by_cases hlt : i < al.length
  · have hwi := wr1 (i := i) (by omega)
    have hst := difL_step (b := bl) hlt
    have hdl := difL_len (al.take i) bl
    rw [List.length_take] at hdl
    have hL1 : LenOk 8 al[i].length := by
      have := hrow _ (List.getElem_mem hlt)
      exact ⟨by omega, by simp only [maxLen]; omega⟩
    have hL2 : LenOk 24 ((difL (al.take i) bl).length + 1) := ⟨by omega, by simp only [maxLen]; omega⟩
    simp [hlt, s76_7, s76_9, ]
    refine call_f (w_spec_l5Place ⟨aa, bl⟩ al[i] (by show bl.length ≤ _; omega)) (by simp [eReln]) rfl fun hs3 hh3 => ?_
    simp at hh3
    cases h4 : placeB bl al[i]
    · rw [h4] at hst
      simp only [Bool.false_eq_true, if_false] at hst
      simp [hlt, hwi, hL1, hL2, List.take_of_length_le, s76_7, s76_9, ]
      exact back2 (i + 1) (by omega) (by omega) rfl (by simp <;> omega) (by simp) (by simp [hst])
    · rw [h4] at hst
      simp only [if_true, List.append_nil] at hst
      simp [hwi, s76_7, s76_9, ]
      exact back2 (i + 1) (by omega) (by omega) rfl (by simp <;> omega) (by simp) (by simp [hst])
  · have hn : i = al.length := by omega
    subst hn
    simp [List.take_of_length_le]
theorem w_spec_NormalizeDelta (d : PDb) (x : PDelta) (hst : ∀ t ∈ d.tabs, t.name.length ≤ maxLen) : VC Try.prog 73 [.agg ((eDb d).map V.d), .agg ((eDelta x).map V.d)] (fun _ v => v = .tup [.agg ((eDelta (norP d x)).map V.d), .d (.bool (fitB d x))]) := by
  refine VC.ofL EP s73 (by kernel_rfl) Try.func73 (by rfl) (by kernel_rfl) (by simp [Try.f73]) (by simp [Try.f73]) s73_ok fun B hl => ?_
  simp [Try.f73, eDb, eDelta, eReln]
  refine call_f (w_spec_l26Fits d x hst) (by simp [eDb, eDelta, eReln]) rfl fun hs1 hh1 => ?_
  simp at hh1
  cases h1 : fitB d x
  · simp [norP, h1, eDelta, eReln, ]
  obtain ⟨e1, e2⟩ := nor_dif h1
  have e3 : norP d x = ⟨x.name, ⟨(lkR d x.name).ar, norI (lkR d x.name) x.ins.rows⟩, ⟨(lkR d x.name).ar, norD (lkR d x.name) x.ins x.del.rows⟩⟩ := by simp only [norP, h1, if_true]
  obtain ⟨r, hr⟩ : ∃ r, r = lkR d x.name := ⟨_, rfl⟩
  simp []
  refine call_p (w_spec_LookupRelation d x.name hst) (by simp [eDb]) fun hs2 hh2 hl2 => ?_
  simp at hh2
  rw [← hr] at e1 e2 e3 ⊢
  simp [eReln, ]
  refine call_p (w_spec_Difference x.ins r) (by simp [eReln]) fun hs3 hh3 hl3 => ?_
  simp at hh3
  rw [e1]
  simp [eReln, ]
  refine call_p (w_spec_Difference x.del x.ins) (by simp [eReln]) fun hs4 hh4 hl4 => ?_
  simp at hh4
  obtain ⟨go, hgo⟩ : ∃ go, go = difR x.del x.ins := ⟨_, rfl⟩
  rw [← hgo] at e2 ⊢
  simp [eReln, ]
  refine call_p (w_spec_Difference go r) (by simp [eReln]) fun hs5 hh5 hl5 => ?_
  simp at hh5
  obtain ⟨nt, hnt⟩ : ∃ nt, nt = difR go r := ⟨_, rfl⟩
  rw [← hnt] at e2 ⊢
  simp [eReln, ]
  refine call_p (w_spec_Difference go nt) (by simp [eReln]) fun hs6 hh6 hl6 => ?_
  rw [e2, e3]
  simp [eReln, eDelta, ]
end

end Go.Proofs.Ytepiehnhajnebaa


namespace Go.Proofs.Ytepiehnhajnebaa
open Go.Vs Go.Proofs Go
set_option maxRecDepth 100000
set_option maxHeartbeats 1000000


end Go.Proofs.Ytepiehnhajnebaa


namespace Go.Proofs.Ytepiehnhajnebaa
open Go.Vs Go.Proofs Go
set_option maxRecDepth 100000
set_option maxHeartbeats 1000000


end Go.Proofs.Ytepiehnhajnebaa


namespace Go.Proofs.Ytepiehnhajnebaa
open Go.Vs Go.Proofs Go
set_option maxRecDepth 100000
set_option maxHeartbeats 1000000

section
attribute [local simp] plI_id plStr_id map_plI map_plStr
end

end Go.Proofs.Ytepiehnhajnebaa


namespace Go.Proofs.Ytepiehnhajnebaa
open Go.Vs Go.Proofs Go
set_option maxRecDepth 100000
set_option maxHeartbeats 1000000

theorem w_spec_l5Sort : ∀ (n : Nat) (l : List (List Int)), l.length ≤ n → l.length ≤ 4294967296 → VC Try.prog 92 [.d (pS (cP cI) l)] (fun _ r => r = .d (pS (cP cI) (srtU l))) := by
  intro n
  induction n with
  | zero =>
    intro l hn hb
    have : l = [] := List.length_eq_zero_iff.1 (by omega)
    subst this
    refine VC.ofL EP s92 (by kernel_rfl) Try.func92 (by rfl) (by kernel_rfl) (by simp [Try.f92]) (by simp [Try.f92]) s92_ok fun B hl => ?_
    simp [Try.f92, s92_13, srtU]
  | succ n ih =>
  intro l hn hb
  refine VC.ofL EP s92 (by kernel_rfl) Try.func92 (by rfl) (by kernel_rfl) (by simp [Try.f92]) (by simp [Try.f92]) s92_ok fun B hl => ?_
  by_cases h2 : l.length < 2
  · have e : srtU l = l := srtU_id (by
      match l, h2 with
      | [], _ => exact .nil
      | [_], _ => simp
      | _ :: _ :: _, h => simp only [List.length_cons] at h; omega)
    simp [Try.f92, s92_13, show ((l.length : Int) < 2) by omega, e]
  obtain ⟨k, hk⟩ : ∃ k, k = l.length / 2 := ⟨_, rfl⟩
  have hm : IntKind.i64.wrap ((l.length : Int) / 2) = (k : Int) := by rw [wrap64_of (by omega) (by omega)]; omega
  simp [Try.f92, s92_13, show ¬ ((l.length : Int) < 2) by omega, hm, show k ≤ l.length by omega]
  refine call_p (ih (l.take k) (by simp; omega) (by simp; omega)) (by simp [List.map_take]) fun hs1 hh1 _ => ?_
  simp at hh1
  simp [hm, show k ≤ l.length by omega, List.take_of_length_le]
  refine call_p (ih (l.drop k) (by simp; omega) (by simp; omega)) (by simp [List.map_drop]) fun hs2 hh2 _ => ?_
  simp at hh2
  simp
  have hst := MI.start l k
  generalize srtU (l.take k) = a0 at hst
  generalize srtU (l.drop k) = b0 at hst
  refine loop_rule (X := List (List Int) × List (List Int) × List (List Int)) (fun p => MI l p.1 p.2.1 p.2.2)
    (fun p => [(4, .d (.pl (p.1.map (cP cI)))), (5, .d (.pl (p.2.1.map (cP cI)))), (6, .own 24 0 p.2.2.length)]) (fun p => [(24, some (.row 61 1 (p.2.2.map (cP cI))))]) (fun p => p.1.length + p.2.1.length) (a0, b0, []) hst (by simp) (by simp) ?_
  rintro ⟨a, b, out⟩ hs t m hI hh
  simp only at hI
  have hlen := hI.len
  have hL24 : LenOk 24 1 := ⟨by omega, by simp only [maxLen]; omega⟩
  have hpa : ∀ a : List (List Int), (0 : Int) < (a.length : Int) + 1 := fun a => by omega
  have hpb : ∀ a : List (List Int), ¬ (a.length : Int) + 1 = 0 := fun a => by omega
  have hqa : (0 : Int) < 1 := by omega
  have hqb : ¬ (0 : Int) < -1 := by omega
  rcases a with _ | ⟨x, a⟩
  · rcases b with _ | ⟨y, b⟩
    · have hd := hI.done
      subst hd
      simp [List.take_of_length_le]
    · refine anyQ fun Q => ?_
      have hc0 : True := trivial
      have hI' := hI.swap
      have hL := hI'.left (by simp)
      rcases nil_or_snoc out with rfl | ⟨o, z, rfl⟩
      · simp [hc0, hpa, hpb, hqa, hqb, List.take_of_length_le, cP, hL24, s92_13, ]
        exact back ([], b, [y]) (MI.swap (hL.2 (by simp))) (by simp <;> omega) rfl (by simp <;> omega) (by simp) (by simp)
      · simp only [List.length_append, List.length_cons, List.length_nil] at hlen
        have hw : IntKind.i64.wrap (o.length : Int) = o.length := wrap64_of (by omega) (by omega)
        have hix : (o.map (cP cI) ++ [[D.pl (z.map cI)]])[o.length]? = some [D.pl (z.map cI)] := by rw [List.getElem?_append_right (by simp)]; simp
        simp [hc0, hpa, hpb, hqa, hqb, List.take_of_length_le, hw, hix, cP, s92_13, ]
        refine call_f (w_spec_CompareRows z y) (by simp) rfl fun hs3 hh3 => ?_
        simp at hh3
        by_cases e : z = y
        · subst e
          simp [cmpL_self]
          exact back ([], b, o ++ [z]) (MI.swap (hL.1 (hI'.last.2 rfl))) (by simp <;> omega) rfl (by simp <;> omega) (by simp) (by simp)
        · have e' : ¬ cmpL z y = 0 := fun h => e ((cmpL_zero _ _).1 h)
          simp [e', show LenOk 24 (o.length + 1 + 1) from ⟨by omega, by simp only [maxLen]; omega⟩, cP]
          exact back ([], b, o ++ [z] ++ [y]) (MI.swap (hL.2 fun h => e (hI'.last.1 h))) (by simp <;> omega) rfl (by simp <;> omega) (by simp) (by simp)
  · rcases b with _ | ⟨y, b⟩
    · refine anyQ fun Q => ?_
      have hc0 : True := trivial
      have hL := hI.left (by simp)
      rcases nil_or_snoc out with rfl | ⟨o, z, rfl⟩
      · simp [hc0, hpa, hpb, hqa, hqb, List.take_of_length_le, cP, hL24, s92_13, ]
        exact back (a, [], [x]) ((hL.2 (by simp))) (by simp <;> omega) rfl (by simp <;> omega) (by simp) (by simp)
      · simp only [List.length_append, List.length_cons, List.length_nil] at hlen
        have hw : IntKind.i64.wrap (o.length : Int) = o.length := wrap64_of (by omega) (by omega)
        have hix : (o.map (cP cI) ++ [[D.pl (z.map cI)]])[o.length]? = some [D.pl (z.map cI)] := by rw [List.getElem?_append_right (by simp)]; simp
        simp [hc0, hpa, hpb, hqa, hqb, List.take_of_length_le, hw, hix, cP, s92_13, ]
        refine call_f (w_spec_CompareRows z x) (by simp) rfl fun hs3 hh3 => ?_
        simp at hh3
        by_cases e : z = x
        · subst e
          simp [cmpL_self]
          exact back (a, [], o ++ [z]) ((hL.1 (hI.last.2 rfl))) (by simp <;> omega) rfl (by simp <;> omega) (by simp) (by simp)
        · have e' : ¬ cmpL z x = 0 := fun h => e ((cmpL_zero _ _).1 h)
          simp [e', show LenOk 24 (o.length + 1 + 1) from ⟨by omega, by simp only [maxLen]; omega⟩, cP]
          exact back (a, [], o ++ [z] ++ [x]) ((hL.2 fun h => e (hI.last.1 h))) (by simp <;> omega) rfl (by simp <;> omega) (by simp) (by simp)
    · refine anyQ fun Q => ?_
      simp [cP, hpa, hpb, s92_13, ]
      refine call_f (w_spec_CompareRows x y) (by simp) rfl fun hs0 hh0 => ?_
      simp at hh0
      by_cases hc0 : 0 < cmpL x y
      · have hI' := hI.swap
        have hL := hI'.left (hI.hr hc0)
        rcases nil_or_snoc out with rfl | ⟨o, z, rfl⟩
        · simp [hc0, hpa, hpb, hqa, hqb, List.take_of_length_le, cP, hL24, s92_13, ]
          exact back ((x :: a), b, [y]) (MI.swap (hL.2 (by simp))) (by simp <;> omega) rfl (by simp <;> omega) (by simp) (by simp)
        · simp only [List.length_append, List.length_cons, List.length_nil] at hlen
          have hw : IntKind.i64.wrap (o.length : Int) = o.length := wrap64_of (by omega) (by omega)
          have hix : (o.map (cP cI) ++ [[D.pl (z.map cI)]])[o.length]? = some [D.pl (z.map cI)] := by rw [List.getElem?_append_right (by simp)]; simp
          simp [hc0, hpa, hpb, hqa, hqb, List.take_of_length_le, hw, hix, cP, s92_13, ]
          refine call_f (w_spec_CompareRows z y) (by simp) rfl fun hs3 hh3 => ?_
          simp at hh3
          by_cases e : z = y
          · subst e
            simp [cmpL_self]
            exact back ((x :: a), b, o ++ [z]) (MI.swap (hL.1 (hI'.last.2 rfl))) (by simp <;> omega) rfl (by simp <;> omega) (by simp) (by simp)
          · have e' : ¬ cmpL z y = 0 := fun h => e ((cmpL_zero _ _).1 h)
            simp [e', show LenOk 24 (o.length + 1 + 1) from ⟨by omega, by simp only [maxLen]; omega⟩, cP]
            exact back ((x :: a), b, o ++ [z] ++ [y]) (MI.swap (hL.2 fun h => e (hI'.last.1 h))) (by simp <;> omega) rfl (by simp <;> omega) (by simp) (by simp)
      · 
        have hL := hI.left (hI.hl hc0)
        rcases nil_or_snoc out with rfl | ⟨o, z, rfl⟩
        · simp [hc0, hpa, hpb, hqa, hqb, List.take_of_length_le, cP, hL24, s92_13, ]
          exact back (a, (y :: b), [x]) ((hL.2 (by simp))) (by simp <;> omega) rfl (by simp <;> omega) (by simp) (by simp)
        · simp only [List.length_append, List.length_cons, List.length_nil] at hlen
          have hw : IntKind.i64.wrap (o.length : Int) = o.length := wrap64_of (by omega) (by omega)
          have hix : (o.map (cP cI) ++ [[D.pl (z.map cI)]])[o.length]? = some [D.pl (z.map cI)] := by rw [List.getElem?_append_right (by simp)]; simp
          simp [hc0, hpa, hpb, hqa, hqb, List.take_of_length_le, hw, hix, cP, s92_13, ]
          refine call_f (w_spec_CompareRows z x) (by simp) rfl fun hs3 hh3 => ?_
          simp at hh3
          by_cases e : z = x
          · subst e
            simp [cmpL_self]
            exact back (a, (y :: b), o ++ [z]) ((hL.1 (hI.last.2 rfl))) (by simp <;> omega) rfl (by simp <;> omega) (by simp) (by simp)
          · have e' : ¬ cmpL z x = 0 := fun h => e ((cmpL_zero _ _).1 h)
            simp [e', show LenOk 24 (o.length + 1 + 1) from ⟨by omega, by simp only [maxLen]; omega⟩, cP]
            exact back (a, (y :: b), o ++ [z] ++ [x]) ((hL.2 fun h => e (hI.last.1 h))) (by simp <;> omega) rfl (by simp <;> omega) (by simp) (by simp)

end Go.Proofs.Ytepiehnhajnebaa


namespace Go.Proofs.Ytepiehnhajnebaa
open Go.Vs Go.Proofs Go
set_option maxRecDepth 100000
set_option maxHeartbeats 1000000

theorem w_spec_NewRelation (ar : Int) (l : List (List Int)) (hb : l.length ≤ 4294967296) (hn : ∀ x ∈ l, x.length ≤ 4294967296) : VC Try.prog 86 [.d (.int .i64 ar), .d (pS (cP cI) l)] (fun _ v => v = .tup [.agg ((eReln (newR ar l)).map .d), .d (.bool (newB ar l))]) := by
  refine VC.ofL EP s86 (by kernel_rfl) Try.func86 (by rfl) (by kernel_rfl) (by simp [Try.f86]) (by simp [Try.f86]) s86_ok fun B hl => ?_
  simp [Try.f86, eReln]
  refine loop_rule (X := Nat) (fun i => i ≤ l.length ∧ AllTo (fun r : List Int => decide ((r.length : Int) = ar) && valsOk r) l i) (fun i => [(0, .d (.int .i64 ar)), (1, .d (.pl (l.map (cP cI)))), (4, .ptr 4 0 0), (6, .d (.int .i64 i))])
    (fun i => [(4, some (.box [.d (.int .i64 0), .d (.sl none none [])]))]) (fun i => l.length - i) 0 ⟨by simp, allTo_zero⟩ (by simp) (by simp) ?_
  intro i hs t m hi hh
  by_cases hlt : i < l.length
  · have hwi := wr1 (i := i) (by omega)
    by_cases hln : (l[i].length : Int) = ar
    · simp [hlt, hln, cP, ]
      refine call_f (w_spec_AreValidValues l[i]) (by simp) rfl fun hs1 hh1 => ?_
      simp at hh1
      cases hv : valsOk l[i]
      · have hbad := all_bad (p := fun r : List Int => decide ((r.length : Int) = ar) && valsOk r) hlt (by simp [hv])
        simp [newR, newB, hbad, eReln]
      · simp [hwi]
        exact back (i + 1) ⟨by omega, allTo_step hi.2 hlt (by simp [hv, hln])⟩ (by omega) rfl (by simp <;> omega) (by simp) (by simp)
    · have hbad := all_bad (p := fun r : List Int => decide ((r.length : Int) = ar) && valsOk r) hlt (by simp [hln])
      simp [hlt, hln, newR, newB, hbad, eReln, ]
  · have hd := allTo_done hi.2 (by omega)
    have hsl := srtU_len l
    simp [hlt, ]
    refine call_p (w_spec_l5Sort _ l (Nat.le_refl _) hb) (by simp) fun hs1 hh1 _ => ?_
    simp at hh1
    simp []
    refine call_p (w_spec_l5Copy ⟨ar, srtU l⟩ (by simp; omega) (fun x hx => hn x ((srtU_mem l x).1 hx))) (by simp [eReln]) fun hs2 hh2 _ => ?_
    simp at hh2
    simp [eReln]
    refine call_f (w_spec_IsValidRelation ⟨ar, srtU l⟩) (by simp [eReln]) rfl fun hs3 hh3 => ?_
    simp at hh3
    cases h1 : rowsOk ar (srtU l)
    · simp [newR, newB, h1, eReln]
    · simp [newR, newB, h1, hd, eReln]

end Go.Proofs.Ytepiehnhajnebaa


namespace Go.Proofs.Ytepiehnhajnebaa
open Go.Vs Go.Proofs Go
set_option maxRecDepth 100000
set_option maxHeartbeats 1000000

section
attribute [local simp] plI_id plStr_id map_plI map_plStr pS cP cI cStr cU8 cB
theorem w_spec_Union (a b : PReln) : VC Try.prog 77 [.agg ((eReln a).map V.d), .agg ((eReln b).map V.d)] (fun _ v => v = .tup [.agg ((eReln (uniR a b)).map V.d), .d (.bool (uniB a b))]) := by
  refine VC.ofL EP s77 (by kernel_rfl) Try.func77 (by rfl) (by kernel_rfl) (by simp [Try.f77]) (by simp [Try.f77]) s77_ok fun B hl => ?_
  obtain ⟨aa, al⟩ := a
  obtain ⟨ba, bl⟩ := b
  simp [Try.f77, s77_3, eReln]
  refine call_f (w_spec_IsValidRelation ⟨aa, al⟩) (by simp [eReln]) rfl fun hs1 hh1 => ?_
  simp at hh1
  cases h1 : rowsOk aa al
  · simp [uniR, uniB, difB, h1, eReln]
  simp
  refine call_f (w_spec_IsValidRelation ⟨ba, bl⟩) (by simp [eReln]) rfl fun hs2 hh2 => ?_
  simp at hh2
  cases h2 : rowsOk ba bl
  · simp [uniR, uniB, difB, h1, h2, eReln]
  by_cases h3 : aa = ba
  case neg => simp [uniR, uniB, difB, h1, h2, h3, eReln]
  subst h3
  have hdb : difB ⟨aa, al⟩ ⟨aa, bl⟩ = true := by simp [difB, h1, h2]
  obtain ⟨z1, z2, z3, z4⟩ := difB_len hdb
  simp only at z3 z4
  have hL1 : LenOk 24 al.length := ⟨by omega, by simp only [maxLen]; omega⟩
  have hL2 : LenOk 24 (al.length + bl.length) := ⟨by omega, by simp only [maxLen]; omega⟩
  have hN := w_spec_NewRelation aa (al ++ bl) (by simp; omega) (fun x hx => by
    rcases List.mem_append.1 hx with h | h
    · exact z1.2 x h
    · exact z2.2 x h)
  simp [hL1, hL2, List.take_of_length_le, s77_3, ]
  repeat' apply And.intro
  all_goals
    refine call_p hN (by simp [List.take_of_length_le]) fun hs3 hh3 hl3 => ?_
    simp [uniR, uniB, hdb, eReln, s77_3, ]
end

end Go.Proofs.Ytepiehnhajnebaa


namespace Go.Proofs.Ytepiehnhajnebaa
open Go.Vs Go.Proofs Go
set_option maxRecDepth 100000
set_option maxHeartbeats 1000000


end Go.Proofs.Ytepiehnhajnebaa


namespace Go.Proofs.Ytepiehnhajnebaa
open Go.Vs Go.Proofs Go
set_option maxRecDepth 100000
set_option maxHeartbeats 1000000


end Go.Proofs.Ytepiehnhajnebaa


namespace Go.Proofs.Ytepiehnhajnebaa
open Go.Vs Go.Proofs Go
set_option maxRecDepth 100000
set_option maxHeartbeats 1000000

section
attribute [local simp] plI_id plStr_id map_plI map_plStr pS cP cI cStr cU8 cB eTab eReln
theorem w_spec_l6Copy (d : PDb) (hz : szDb d) : VC Try.prog 74 [.agg ((eDb d).map V.d)] (fun _ v => v = .agg ((eDb d).map V.d)) := by
  refine VC.ofL EP s74 (by kernel_rfl) Try.func74 (by rfl) (by kernel_rfl) (by simp [Try.f74]) (by simp [Try.f74]) s74_ok fun B hl => ?_
  obtain ⟨l⟩ := d
  simp only [szDb] at hz
  simp [Try.f74, s74_6, s74_6, eDb]
  refine loop_ruleL (X := Nat) (fun i _ => i ≤ l.length) (fun i => [(1, .ptr 1 0 0), (2, .ptr 2 0 0), (3, .ptr 3 0 0), (4, .d (.int .i64 i))]) (fun i => [(1, some (.box [.d (.pl (l.map eTab))])), (2, some (.box [.d (.sl none none [])])), (3, some (.box [.own 32 0 i])), (32, some (.row 68 3 ((l.take i).map eTab)))]) (fun i => l.length - i) ?_ ?_
  · refine (lead_box 3 0 32 68 3 [.d (.sl none none [])] (by omega) (by omega) (by omega) (by simp) rfl).bind ?_
    rintro _ rfl
    exact Lead.of ⟨0, by omega, rfl, rfl, Nat.le_refl _, by simp, by simp⟩
  intro i hs t m hi hh
  by_cases hlt : i < l.length
  · have hwi := wr1 (i := i) (by omega)
    have hL : LenOk 48 (i + 1) := ⟨by omega, by simp only [maxLen]; omega⟩
    have hmn : min i l.length = i := by omega
    have hr := hz.2 _ (List.getElem_mem hlt)
    obtain ⟨nm, ar, rows, hT⟩ : ∃ nm ar rows, l[i] = ⟨nm, ⟨ar, rows⟩⟩ := ⟨_, _, _, rfl⟩
    have hst2 : List.take (i + 1) (List.map eTab l) = List.take i (List.map eTab l) ++ [[.str nm, .int .i64 ar, .pl (rows.map (cP cI))]] := by
      rw [List.take_succ_eq_append_getElem (by simpa using hlt)]; simp [hT]
    rw [hT] at hr
    simp [hlt, hT, s74_6, ]
    refine call_p (w_spec_l5Copy ⟨ar, rows⟩ hr.1 hr.2) (by simp) fun hs1 hh1 hl1 => ?_
    simp at hh1
    simp [hlt, hT, hL, hwi, hmn, s74_6, ]
    exact back2 (i + 1) (by omega) (by omega) rfl (by simp <;> omega) (by simp) (by simp [hst2])
  · have hn : i = l.length := by omega
    subst hn
    simp [List.take_of_length_le]
end

end Go.Proofs.Ytepiehnhajnebaa


namespace Go.Proofs.Ytepiehnhajnebaa
open Go.Vs Go.Proofs Go
set_option maxRecDepth 100000
set_option maxHeartbeats 1000000

section
attribute [local simp] plI_id plStr_id map_plI map_plStr pS cP cI cStr cU8 cB eTab eReln
theorem w_spec_SetRelation (d : PDb) (nm : List UInt8) (r : PReln) (hz : szDb d) (hst : ∀ t ∈ d.tabs, t.name.length ≤ maxLen) (hnm : nm.length ≤ maxLen) :
   VC Try.prog 78 [.agg ((eDb d).map V.d), .d (.str nm), .agg ((eReln r).map V.d)] (fun _ v => v = .tup [.agg ((eDb (setP d nm r)).map V.d), .d (.bool (setB d nm r))]) := by
  refine VC.ofL EP s78 (by kernel_rfl) Try.func78 (by rfl) (by kernel_rfl) (by simp [Try.f78]) (by simp [Try.f78]) s78_ok fun B hl => ?_
  obtain ⟨l⟩ := d
  obtain ⟨ar, rows⟩ := r
  have hl := hz.1
  simp only at hl hst
  simp [Try.f78, eDb]
  refine loop_ruleL (X := Nat × List PTab × Bool) (fun p _ => StI nm ⟨ar, rows⟩ l p) (fun p => [(1, .d (.str nm)), (3, .ptr 3 0 0), (5, .ptr 5 0 0), (6, .ptr 6 0 0), (8, .ptr 8 0 0), (9, .d (.bool p.2.2)), (10, .d (.int .i64 p.1))])
    (fun p => [(3, some (.box [.d (.pl (l.map eTab))])), (5, some (.box [.d (.int .i64 ar), .d (.pl (rows.map (cP cI)))])), (6, some (.box [.d (.sl none none [])])), (8, some (.box [.own 39 0 p.2.1.length])), (39, some (.row 68 3 (p.2.1.map eTab)))]) (fun p => l.length - p.1) ?_ ?_
  · refine (lead_box 8 0 39 68 3 [.d (.sl none none [])] (by omega) (by omega) (by omega) (by simp) rfl).bind ?_
    rintro _ rfl
    exact Lead.of ⟨(0, [], false), .zero, rfl, rfl, Nat.le_refl _, by simp, by simp⟩
  rintro ⟨i, o, b⟩ hs t m hI hh
  have hle := hI.le
  have hol := hI.len
  simp only at hle hol
  by_cases hlt : i < l.length
  · have hwi := wr1 (i := i) (by omega)
    have hL1 : LenOk 48 (o.length + 1) := ⟨by omega, by simp only [maxLen]; omega⟩
    have hL2 : LenOk 48 (o.length + 1 + 1) := ⟨by omega, by simp only [maxLen]; omega⟩
    obtain ⟨tn, ta, tr, hT⟩ : ∃ tn ta tr, l[i] = ⟨tn, ⟨ta, tr⟩⟩ := ⟨_, _, _, rfl⟩
    have hs1 := fun s' => hI.step (s' := s') hlt
    rw [hT] at hs1
    simp only [stS] at hs1
    refine anyQ2 fun Q => ?_
    cases b
    · cases hb : Op.bytesLess tn nm
      · by_cases he : tn = nm
        · subst he
          simp [hb] at hs1
          simp [hlt, hT, hb, hL1, hwi, ]
          exact back2 (i + 1, _, true) hs1 (by simp only; omega) rfl (by simp <;> omega) (by simp) (by simp)
        · simp [hb, he] at hs1
          simp [hlt, hT, hb, he, hL1, hL2, hwi, ]
          exact back2 (i + 1, _, true) hs1 (by simp only; omega) rfl (by simp <;> omega) (by simp) (by simp)
      · have he : ¬ tn = nm := fun e => by rw [e, bl_irr] at hb; cases hb
        simp [hb, he] at hs1
        simp [hlt, hT, hb, he, hL1, hwi, ]
        exact back2 (i + 1, _, false) hs1 (by simp only; omega) rfl (by simp <;> omega) (by simp) (by simp)
    · by_cases he : tn = nm
      · simp [he] at hs1
        simp [hlt, hT, he, hwi, ]
        exact back2 (i + 1, _, true) hs1 (by simp only; omega) rfl (by simp <;> omega) (by simp) (by simp)
      · simp [he] at hs1
        simp [hlt, hT, he, hL1, hwi, ]
        exact back2 (i + 1, _, true) hs1 (by simp only; omega) rfl (by simp <;> omega) (by simp) (by simp)
  have hd := hI.done (by omega)
  have hL1 : LenOk 48 (o.length + 1) := ⟨by omega, by simp only [maxLen]; omega⟩
  obtain ⟨x, hx⟩ : ∃ x, x = setS l nm ⟨ar, rows⟩ := ⟨_, rfl⟩
  have hxm : ∀ t ∈ x, t.name.length ≤ maxLen := fun t ht => by
    rw [hx] at ht
    rcases setS_mem ht with h | h
    · exact hst t h
    · rw [h]; exact hnm
  rw [← hx] at hd
  cases b
  · simp at hd
    simp [hlt, hL1, ]
    refine call_f (w_spec_IsValidDatabase ⟨l⟩ hst) (by simp [eDb]) rfl fun hs1 hh1 => ?_
    simp at hh1
    cases h1 : dbOk ⟨l⟩
    · have hB : setB ⟨l⟩ nm ⟨ar, rows⟩ = false := by simp [setB, h1]
      simp []
      refine call_p (w_spec_l6Copy ⟨l⟩ hz) (by simp [eDb]) fun hs2 hh2 hl2 => ?_
      simp [eDb, hB, setP]
    · simp [h1, ]
      refine call_f (w_spec_IsValidDatabase ⟨x⟩ hxm) (by simp [eDb, hd, List.take_of_length_le]) rfl fun hs2 hh2 => ?_
      simp at hh2
      have hxL : setL l nm ⟨ar, rows⟩ = x := by rw [hx, setS_L h1]
      cases h2 : dbOk ⟨x⟩
      · have hB : setB ⟨l⟩ nm ⟨ar, rows⟩ = false := by simp [setB, h1, hxL, h2]
        simp []
        refine call_p (w_spec_l6Copy ⟨l⟩ hz) (by simp [eDb]) fun hs2 hh2 hl2 => ?_
        simp [eDb, hB, setP]
      · have hB : setB ⟨l⟩ nm ⟨ar, rows⟩ = true := by simp [setB, h1, hxL, h2]
        simp []
        refine call_p (w_spec_l6Copy ⟨x⟩ (szDb_ok h2)) (by simp [eDb, hd, List.take_of_length_le]) fun hs2 hh2 hl2 => ?_
        simp [eDb, hB, setP, hxL]
  · simp at hd
    simp [hlt, ]
    refine call_f (w_spec_IsValidDatabase ⟨l⟩ hst) (by simp [eDb]) rfl fun hs1 hh1 => ?_
    simp at hh1
    cases h1 : dbOk ⟨l⟩
    · have hB : setB ⟨l⟩ nm ⟨ar, rows⟩ = false := by simp [setB, h1]
      simp []
      refine call_p (w_spec_l6Copy ⟨l⟩ hz) (by simp [eDb]) fun hs2 hh2 hl2 => ?_
      simp [eDb, hB, setP]
    · simp [h1, ]
      refine call_f (w_spec_IsValidDatabase ⟨x⟩ hxm) (by simp [eDb, hd, List.take_of_length_le]) rfl fun hs2 hh2 => ?_
      simp at hh2
      have hxL : setL l nm ⟨ar, rows⟩ = x := by rw [hx, setS_L h1]
      cases h2 : dbOk ⟨x⟩
      · have hB : setB ⟨l⟩ nm ⟨ar, rows⟩ = false := by simp [setB, h1, hxL, h2]
        simp []
        refine call_p (w_spec_l6Copy ⟨l⟩ hz) (by simp [eDb]) fun hs2 hh2 hl2 => ?_
        simp [eDb, hB, setP]
      · have hB : setB ⟨l⟩ nm ⟨ar, rows⟩ = true := by simp [setB, h1, hxL, h2]
        simp []
        refine call_p (w_spec_l6Copy ⟨x⟩ (szDb_ok h2)) (by simp [eDb, hd, List.take_of_length_le]) fun hs2 hh2 hl2 => ?_
        simp [eDb, hB, setP, hxL]
end

end Go.Proofs.Ytepiehnhajnebaa


namespace Go.Proofs.Ytepiehnhajnebaa
open Go.Vs Go.Proofs Go
set_option maxRecDepth 100000
set_option maxHeartbeats 1000000

section
attribute [local simp] plI_id plStr_id map_plI map_plStr
end

end Go.Proofs.Ytepiehnhajnebaa


namespace Go.Proofs.Ytepiehnhajnebaa
open Go.Vs Go.Proofs Go
set_option maxRecDepth 100000
set_option maxHeartbeats 1000000

section
attribute [local simp] plI_id plStr_id map_plI map_plStr pS cP cI cStr cU8 cB eTab eReln eDelta
theorem w_spec_ApplyDelta (d : PDb) (x : PDelta) (hz : szDb d) (hst : ∀ t ∈ d.tabs, t.name.length ≤ maxLen) (hnm : x.name.length ≤ maxLen) :
   VC Try.prog 55 [.agg ((eDb d).map V.d), .agg ((eDelta x).map V.d)] (fun _ v => v = .tup [.agg ((eDb (appP d x)).map V.d), .d (.bool (appB d x))]) := by
  refine VC.ofL EP s55 (by kernel_rfl) Try.func55 (by rfl) (by kernel_rfl) (by simp [Try.f55]) (by simp [Try.f55]) s55_ok fun B hl => ?_
  obtain ⟨nm, ⟨ia, il⟩, ⟨da, dl⟩⟩ := x
  obtain ⟨X, hX⟩ : ∃ X : PDelta, X = ⟨nm, ⟨ia, il⟩, ⟨da, dl⟩⟩ := ⟨_, rfl⟩
  rw [← hX]
  have hXn : X.name = nm := by rw [hX]
  obtain ⟨l⟩ := d
  simp [Try.f55, eDb]
  refine call_p (w_spec_NormalizeDelta ⟨l⟩ X hst) (by simp [eDb, hX]) fun hs1 hh1 hl1 => ?_
  simp at hh1
  obtain ⟨⟨yn, ⟨ya, yi⟩, ⟨yb, yd⟩⟩, hY⟩ : ∃ Y, Y = norP ⟨l⟩ X := ⟨_, rfl⟩
  rw [← hY]
  cases h1 : fitB ⟨l⟩ X
  · have hG : appG ⟨l⟩ X = false := by simp [appG, h1]
    simp []
    refine call_p (w_spec_l6Copy ⟨l⟩ hz) (by simp [eDb]) fun hs2 hh2 hl2 => ?_
    simp [eDb, appP, appB, hG]
  simp []
  refine call_p (w_spec_LookupRelation ⟨l⟩ nm hst) (by simp [eDb, hX]) fun hs2 hh2 hl2 => ?_
  simp at hh2
  obtain ⟨⟨ra, rl⟩, hR⟩ : ∃ R, R = lkR ⟨l⟩ nm := ⟨_, rfl⟩
  rw [← hR]
  simp []
  refine call_p (w_spec_Difference ⟨ra, rl⟩ ⟨yb, yd⟩) (by simp) fun hs3 hh3 hl3 => ?_
  simp at hh3
  have hD : difR ⟨ra, rl⟩ ⟨yb, yd⟩ = difD ⟨l⟩ X := by rw [difD, ← hY, hXn, ← hR]
  rw [hD]
  obtain ⟨⟨ea, el⟩, hE⟩ : ∃ E, E = difD ⟨l⟩ X := ⟨_, rfl⟩
  rw [← hE]
  simp []
  refine call_p (w_spec_Union ⟨ea, el⟩ ⟨ya, yi⟩) (by simp) fun hs4 hh4 hl4 => ?_
  simp at hh4
  have hU : uniR ⟨ea, el⟩ ⟨ya, yi⟩ = appU ⟨l⟩ X := by rw [appU, ← hY, hE]
  rw [hU]
  obtain ⟨⟨ua, ul⟩, hV⟩ : ∃ E, E = appU ⟨l⟩ X := ⟨_, rfl⟩
  rw [← hV]
  have hG : appG ⟨l⟩ X = uniB ⟨ea, el⟩ ⟨ya, yi⟩ := by rw [appG, h1, ← hY, hE, Bool.true_and]
  cases h2 : uniB ⟨ea, el⟩ ⟨ya, yi⟩
  · rw [h2] at hG
    simp []
    refine call_p (w_spec_l6Copy ⟨l⟩ hz) (by simp [eDb]) fun hs5 hh5 hl5 => ?_
    simp [eDb, appP, appB, hG]
  · rw [h2] at hG
    simp []
    refine call_p (w_spec_SetRelation ⟨l⟩ nm ⟨ua, ul⟩ hz hst hnm) (by simp [eDb, hX]) fun hs5 hh5 hl5 => ?_
    simp [eDb, appP, appB, hG, ← hV, hXn]
end
section
attribute [local simp] plI_id plStr_id map_plI map_plStr
end

end Go.Proofs.Ytepiehnhajnebaa


namespace Go.Proofs.Ytepiehnhajnebaa
open Go.Vs Go.Proofs Go
set_option maxRecDepth 100000
set_option maxHeartbeats 1000000

section
attribute [local simp] plI_id plStr_id map_plI map_plStr pS cP cI cStr cU8 cB
end

end Go.Proofs.Ytepiehnhajnebaa


namespace Go.Proofs.Ytepiehnhajnebaa
open Go.Vs Go.Proofs Go
set_option maxRecDepth 100000
set_option maxHeartbeats 1000000

section
attribute [local simp] plI_id plStr_id map_plI map_plStr
end

end Go.Proofs.Ytepiehnhajnebaa


namespace Go.Proofs.Ytepiehnhajnebaa
open Go.Vs Go.Proofs Go
set_option maxRecDepth 100000
set_option maxHeartbeats 1000000

section
attribute [local simp] plI_id plStr_id map_plI map_plStr pS cP cI cStr cU8 cB
end

end Go.Proofs.Ytepiehnhajnebaa


namespace Go.Proofs.Ytepiehnhajnebaa
open Go.Vs Go.Proofs Go
set_option maxRecDepth 100000
set_option maxHeartbeats 1000000

section
attribute [local simp] plI_id plStr_id map_plI map_plStr
end

end Go.Proofs.Ytepiehnhajnebaa


namespace Go.Proofs.Ytepiehnhajnebaa
open Go.Vs Go.Proofs Go
set_option maxRecDepth 100000
set_option maxHeartbeats 1000000

section
attribute [local simp] plI_id plStr_id map_plI map_plStr pS cP cI cStr cU8 cB
theorem w_impl_split (s : List UInt8) (c : UInt8) (hb : s.length ≤ 1000000000) : VC Try.prog 66 [.d (.str s), .d (.int .u8 c.toNat)] (fun _ r => r = .d (pS cStr (cutB c s))) := by
  refine VC.ofL EP s66 (by kernel_rfl) Try.func66 (by rfl) (by kernel_rfl) (by simp [Try.f66]) (by simp [Try.f66]) s66_ok fun B hl => ?_
  simp [Try.f66, ]
  refine loop_ruleL (X := Nat × Nat × List (List UInt8)) (fun p _ => CutI c s p ∨ (p.2.1 = s.length + 1 ∧ p.2.2 = cutB c s)) (fun p => [(0, .d (.str s)), (1, .d (.int .u8 c.toNat)), (5, .own 900 0 p.2.2.length), (6, .d (.int .i64 p.1)), (7, .d (.int .i64 p.2.1))]) (fun p => [(900, some (.row 9 1 (p.2.2.map cStr)))]) (fun p => s.length + 1 - p.2.1) ?_ ?_
  · refine (lead_slot 5 900 9 1 (by omega) (by omega) (by simp)).bind ?_
    rintro _ rfl
    exact Lead.of ⟨(0, 0, []), .inl .zero, rfl, rfl, Nat.le_refl _, by simp, by simp⟩
  rintro ⟨f, i, out⟩ hs t m hI hh
  rcases hI with hI | ⟨h1, h2⟩
  case inr =>
    simp only at h1 h2
    subst h1 h2
    have : ¬ (s.length : Int) + 1 ≤ s.length := by omega
    simp [this, List.take_of_length_le, ]
  have hf := hI.fr
  have hi := hI.le
  have hol := hI.len
  simp only at hf hi hol
  have hwi := wr1 (i := i) (by omega)
  have hL : LenOk 16 (out.length + 1) := ⟨by omega, by simp only [maxLen]; omega⟩
  by_cases hlt : i < s.length
  · have hne : ¬ (i : Int) = s.length := by omega
    by_cases e : s[i] = c
    · have hn := hI.hit hlt e
      simp [hlt, hi, hne, e, hwi, hL, hf, ]
      exact back2 (i + 1, i + 1, _) (.inl hn) (by simp only; omega) rfl (by simp <;> omega) (by simp) (by simp [List.take_of_length_le])
    · have hn := hI.miss hlt e
      have e' : ¬ s[i].toNat = c.toNat := fun h => e (UInt8.toNat_inj.1 h)
      simp [hlt, hi, hne, e, e', hwi, hL, ]
      exact back2 (f, i + 1, out) (.inl hn) (by simp only; omega) rfl (by simp <;> omega) (by simp) (by simp)
  · have hn := hI.done (by omega)
    have hil : i = s.length := by omega
    subst hil
    simp [hwi, hL, hf, ]
    exact back2 (s.length + 1, s.length + 1, out ++ [(s.drop f).take (s.length - f)]) (.inr ⟨rfl, hn.1⟩) (by simp only; omega) rfl (by simp <;> omega) (by simp) (by simp [List.take_of_length_le])
theorem w_spec_l5Cut (s : List UInt8) (c : UInt8) (hb : s.length ≤ 1000000000) : VC Try.prog 68 [.d (.str s), .d (.int .u8 c.toNat)] (fun _ r => r = .d (pS cStr (cutB c s))) := by
  refine VC.ofL EP s68 (by kernel_rfl) Try.func68 (by rfl) (by kernel_rfl) (by simp [Try.f68]) (by simp [Try.f68]) s68_ok fun B hl => ?_
  simp [Try.f68, ]
  refine loop_rule (X := Nat × Nat × List (List UInt8)) (fun p => CutI c s p) (fun p => [(0, .d (.str s)), (1, .d (.int .u8 c.toNat)), (5, .own 8 0 p.2.2.length), (6, .d (.int .i64 p.1)), (7, .d (.int .i64 p.2.1))]) (fun p => [(8, some (.row 9 1 (p.2.2.map cStr)))]) (fun p => s.length - p.2.1) (0, 0, []) .zero (by simp) (by simp) ?_
  rintro ⟨f, i, out⟩ hs t m hI hh
  have hf := hI.fr
  have hi := hI.le
  have hol := hI.len
  simp only at hf hi hol
  have hwi := wr1 (i := i) (by omega)
  have hL : LenOk 16 (out.length + 1) := ⟨by omega, by simp only [maxLen]; omega⟩
  by_cases hlt : i < s.length
  · by_cases e : s[i] = c
    · have hn := hI.hit hlt e
      simp [hlt, e, hwi, hL, hf, hi, ]
      exact back (i + 1, i + 1, _) hn (by simp only; omega) rfl (by simp <;> omega) (by simp) (by simp [List.take_of_length_le])
    · have hn := hI.miss hlt e
      have e' : ¬ s[i].toNat = c.toNat := fun h => e (UInt8.toNat_inj.1 h)
      simp [hlt, e, e', hwi, hL, ]
      exact back (f, i + 1, out) hn (by simp only; omega) rfl (by simp <;> omega) (by simp) (by simp)
  · have hn := hI.done (by omega)
    have hil : i = s.length := by omega
    subst hil
    simp [hL, hf, ]
    rw [List.take_of_length_le (by simp), ← hn.1]; simp
end

end Go.Proofs.Ytepiehnhajnebaa


namespace Go.Proofs.Ytepiehnhajnebaa
open Go.Vs Go.Proofs Go
set_option maxRecDepth 100000
set_option maxHeartbeats 1000000

section
attribute [local simp] plI_id plStr_id map_plI map_plStr pS cP cI cStr cU8 cB
theorem w_spec_ParseInt (s : List UInt8) : VC Try.prog 85 [.d (.str s)] (fun _ r => r = .tup [.d (.int .i64 (prsN s)), .d (.bool (prsZ s).isSome)]) := by
  refine VC.ofL EP s85 (by kernel_rfl) Try.func85 (by rfl) (by kernel_rfl) (by simp [Try.f85]) (by simp [Try.f85]) s85_ok fun B hl => ?_
  have hz := prsN_inZ s
  simp [Try.f85, ]
  refine loop_rule (X := Nat) (fun i => i ≤ s.length ∧ i ≤ 11) (fun i => [(0, .d (.str s)), (4, .d (.int .i64 (digs (s.take i)).1)), (5, .d (.int .i64 (digs (s.take i)).2)), (6, .d (.int .i64 i))]) (fun _ => []) (fun i => 11 - i) 0 (by simp) (by simp [digs]) (by simp) ?_
  intro i hs t m hi hh
  by_cases hlt : i < s.length ∧ i < 11
  · have hwi := wr1 (i := i) (by omega)
    have hst := digs_step hlt.1
    have hbd := digs_bd (s.take i)
    have h1 := hlt.1
    have h2 : (i : Int) < 11 := by omega
    have hb11 : (10 : Int) ^ (s.take i).length ≤ 10 ^ 11 := by
      have := Nat.pow_le_pow_right (n := 10) (show 0 < 10 by omega) (show (s.take i).length ≤ 11 by rw [List.length_take]; omega)
      exact_mod_cast this
    have hk : (digs (s.take i)).2 ≤ 11 := by have := hbd.2.2; rw [List.length_take] at this; omega
    obtain ⟨p, hp⟩ : ∃ p, p = digs (s.take i) := ⟨_, rfl⟩
    rw [← hp] at hst hbd hk ⊢
    by_cases hlo : (s[i].toNat : Int) < 48
    · have hd := isDg_lo hlo
      have g1 : ((48 : Int) ≤ s[i].toNat) = False := by simp; omega
      rw [digF, if_neg (by rw [hd]; simp)] at hst
      simp [h1, h2, g1, hwi, ]
      exact back (i + 1) (by omega) (by omega) rfl (by simp <;> omega) (by simp [hst]) (by simp)
    have g1 : ((48 : Int) ≤ s[i].toNat) = True := by simp; omega
    by_cases hhi : (57 : Int) < s[i].toNat
    · have hd := isDg_hi hhi
      have g2 : ((s[i].toNat : Int) ≤ 57) = False := by simp; omega
      rw [digF, if_neg (by rw [hd]; simp)] at hst
      simp [h1, h2, g1, g2, hwi, ]
      exact back (i + 1) (by omega) (by omega) rfl (by simp <;> omega) (by simp [hst]) (by simp)
    have hd := isDg_ok hlo hhi
    have g2 : ((s[i].toNat : Int) ≤ 57) = True := by simp; omega
    rw [digF, if_pos hd] at hst
    have hw8 : IntKind.u8.wrap ((s[i].toNat : Int) - 48) = s[i].toNat - 48 := by rw [IntKind.wrap_u8]; omega
    have w1 : IntKind.i64.wrap ((s[i].toNat : Int) - 48) = s[i].toNat - 48 := wrap64_of (by omega) (by omega)
    have w2 : IntKind.i64.wrap (p.1 * 10) = p.1 * 10 := wrap64_of (by omega) (by omega)
    have w3 : IntKind.i64.wrap (p.1 * 10 + (s[i].toNat - 48)) = p.1 * 10 + (s[i].toNat - 48) := wrap64_of (by omega) (by omega)
    have w4 := wr1 (i := p.2) (by omega)
    simp [h1, h2, g1, g2, hwi, hw8, w1, w2, w3, w4, ]
    exact back (i + 1) (by omega) (by omega) rfl (by simp <;> omega) (by simp [hst]) (by simp)
  · have hend : s.take i = s.take 11 := by
      by_cases h : i = 11
      · rw [h]
      · rw [List.take_of_length_le (by omega), List.take_of_length_le (by omega)]
    have hcond : (i : Int) < s.length → ¬ (i : Int) < 11 := fun h h' => hlt ⟨by omega, by omega⟩
    have hv : prsV s = if s.head? = some 45 then -(digs (s.take 11)).1 else (digs (s.take 11)).1 := rfl
    have hzz : prsZ s = if (digs (s.take 11)).2 ≤ 9 ∧ s.length ≤ 10 ∧ decZ (prsV s) = s then some (prsV s) else none := rfl
    have hn : prsN s = (prsZ s).getD 0 := rfl
    have hbd := digs_bd (s.take 11)
    have hb11 : (10 : Int) ^ (s.take 11).length ≤ 10 ^ 11 := by
      have := Nat.pow_le_pow_right (n := 10) (show 0 < 10 by omega) (show (s.take 11).length ≤ 11 by rw [List.length_take]; omega)
      exact_mod_cast this
    rw [hend]
    obtain ⟨p, hp⟩ : ∃ p, p = digs (s.take 11) := ⟨_, rfl⟩
    rw [← hp] at hv hzz hbd ⊢
    obtain ⟨x, hx⟩ : ∃ x, x = prsV s := ⟨_, rfl⟩
    rw [← hx] at hv hzz hz
    have wneg : IntKind.i64.wrap (-p.1) = -p.1 := wrap64_of (by omega) (by omega)
    have wneg2 : IntKind.i64.wrap (0 - p.1) = -p.1 := by rw [Int.zero_sub]; exact wneg
    have T : ∀ q : Prop, q = True ∨ q = False := Classical.propComplete
    cases s with
    | nil =>
      have hb := prs_bad (s := []) (.inl rfl)
      have hi0 : i = 0 := by simpa using hi.1
      subst hi0
      have hp0 : p = (0, 0) := by rw [hp]; rfl
      have hx0 : x = 0 := by rw [hv, hp0]; rfl
      simp [hp0, hb]
      refine call_f (w_spec_FormatInt 0 (by simp [inZ])) (by simp) rfl fun hs1 hh1 => ?_
      simp [decZ, decN_lt, hb]
    | cons a r =>
    have F : ((i : Int) < r.length + 1) = False ∨ (((i : Int) < r.length + 1) = True ∧ ((i : Int) < 11) = False) := by
      rcases T ((i : Int) < r.length + 1) with h | h
      · exact .inr ⟨h, by simp only [eq_iff_iff, iff_false]; exact hcond (by simpa using h)⟩
      · exact .inl h
    have G : ((a.toNat : Int) = 45) = True ∧ x = -p.1 ∨ ((a.toNat : Int) = 45) = False ∧ x = p.1 := by
      by_cases ha : a = 45
      · subst ha; exact .inl ⟨by simp, by simpa using hv⟩
      · refine .inr ⟨?_, by simpa [ha] using hv⟩
        simp only [eq_iff_iff, iff_false]
        intro h
        have h' : a.toNat = 45 := by omega
        exact ha (UInt8.toNat_inj.1 h')
    have g9 : ((9 : Int) < p.2) = True ∧ ¬ p.2 ≤ 9 ∨ ((9 : Int) < p.2) = False ∧ p.2 ≤ 9 := by
      by_cases h : p.2 ≤ 9
      · exact .inr ⟨by simp; omega, h⟩
      · exact .inl ⟨by simp; omega, h⟩
    have g10 : ((10 : Int) < r.length + 1) = True ∧ ¬ (a :: r).length ≤ 10 ∨ ((10 : Int) < r.length + 1) = False ∧ (a :: r).length ≤ 10 := by
      by_cases h : (a :: r).length ≤ 10
      · exact .inr ⟨by simp at h ⊢; omega, h⟩
      · exact .inl ⟨by simp at h ⊢; omega, h⟩
    rcases G with ⟨G, hxe⟩ | ⟨G, hxe⟩ <;> rcases g9 with ⟨g9, g9'⟩ | ⟨g9, g9'⟩
    case inl.inl | inr.inl =>
      rw [if_neg fun h => g9' h.1] at hzz
      rw [hzz] at hn
      simp only [Option.getD_none] at hn
      rcases F with F | ⟨F, F2⟩
      · simp [F, G, g9, wneg, wneg2, hn, hzz, ]
      · simp [F, F2, G, g9, wneg, wneg2, hn, hzz, ]
    all_goals rcases g10 with ⟨g10, g10'⟩ | ⟨g10, g10'⟩
    case inl.inr.inl | inr.inr.inl =>
      rw [if_neg fun h => g10' h.2.1] at hzz
      rw [hzz] at hn
      simp only [Option.getD_none] at hn
      rcases F with F | ⟨F, F2⟩
      · simp [F, G, g9, g10, wneg, wneg2, hn, hzz, ]
      · simp [F, F2, G, g9, g10, wneg, wneg2, hn, hzz, ]
    all_goals
      rcases F with F | ⟨F, F2⟩
      all_goals
        first | simp [F, F2, G, g9, g10, wneg, wneg2, ] | simp [F, G, g9, g10, wneg, wneg2, ]
        rw [← hxe]
        refine call_f (w_spec_FormatInt x hz.2) (by simp) rfl fun hs1 hh1 => ?_
        simp at hh1
        rw [hn, hzz]
        by_cases e : decZ x = a :: r
        · rw [if_pos ⟨g9', g10', e⟩]
          simp [e, ]
        · rw [if_neg fun h => e h.2.2]
          simp [e, ]
theorem w_impl_ParseInt (s : List UInt8) : VC Try.prog 83 [.d (.str s)] (fun _ r => r = .tup [.d (.int .i64 (prsN s)), .d (.bool (prsZ s).isSome)]) := by
  refine VC.ofL EP s83 (by kernel_rfl) Try.func83 (by rfl) (by kernel_rfl) (by simp [Try.f83]) (by simp [Try.f83]) s83_ok fun B hl => ?_
  have hz := prsN_inZ s
  cases s with
  | nil =>
    have := prs_bad (s := []) (.inl rfl)
    simp [Try.f83, this]
  | cons a r =>
  by_cases ha : a = 45
  · subst ha
    have ht := sgnT_45 r
    by_cases hr : r = []
    · have hb := prs_bad (s := 45 :: r) (.inl (by rw [ht, hr]))
      simp [Try.f83, hr] at hb ⊢
      simp [hb]
    by_cases h9 : (9 : Int) < r.length
    · have hb := prs_bad (s := 45 :: r) (.inr (.inl (by rw [ht]; omega)))
      simp [Try.f83, hr, h9, hb]
    have hbad : (∃ b ∈ r, isDg b = false) → _ := fun h => prs_bad (s := 45 :: r) (.inr (.inr (by rw [ht]; exact h)))
    have hok : (∀ b ∈ r, isDg b = true) → _ := fun h => prsZ_dig (s := 45 :: r) (by rw [ht]; omega) (by rw [ht]; exact h)
    simp only [ht, List.head?_cons, if_true] at hok
    simp [Try.f83, hr, h9]
    obtain ⟨ds, hds⟩ : ∃ ds, ds = r := ⟨_, rfl⟩
    rw [← hds] at hbad hok hz h9 ⊢
    obtain ⟨S, hS⟩ : ∃ S, S = 45 :: ds := ⟨_, rfl⟩
    rw [← hS] at hbad hok hz ⊢

    obtain ⟨x, hx⟩ : ∃ x, x = prsV S := ⟨_, rfl⟩
    refine loop_rule (X := Nat) (fun i => i ≤ ds.length ∧ (∀ b ∈ ds.take i, isDg b = true)) (fun i => [(0, .d (.str S)), (4, .d (.str ds)), (5, .d (.bool true)), (6, .d (.int .i64 (digs (ds.take i)).1)), (7, .d (.int .i64 i))]) (fun _ => []) (fun i => ds.length - i) 0 (by simp) (by simp [digs]) (by simp) ?_
    intro i hs t m hi hh
    have hbd := digs_bd (ds.take i)
    have hb11 : (10 : Int) ^ (ds.take i).length ≤ 10 ^ 9 := by
      have := Nat.pow_le_pow_right (n := 10) (show 0 < 10 by omega) (show (ds.take i).length ≤ 9 by rw [List.length_take]; omega)
      exact_mod_cast this
    by_cases hlt : i < ds.length
    · have hwi := wr1 (i := i) (by omega)
      have hst := digs_step hlt
      obtain ⟨p, hp⟩ : ∃ p, p = digs (ds.take i) := ⟨_, rfl⟩
      rw [← hp] at hst hbd ⊢
      by_cases hlo : (ds[i].toNat : Int) < 48
      · have hb := hbad ⟨_, List.getElem_mem hlt, isDg_lo hlo⟩
        simp [hlt, hlo, hb, ]
      by_cases hhi : (57 : Int) < ds[i].toNat
      · have hb := hbad ⟨_, List.getElem_mem hlt, isDg_hi hhi⟩
        simp [hlt, hlo, hhi, hb, ]
      have hd := isDg_ok hlo hhi
      rw [digF, if_pos hd] at hst
      have hw8 : IntKind.u8.wrap ((ds[i].toNat : Int) - 48) = ds[i].toNat - 48 := by rw [IntKind.wrap_u8]; omega
      have w1 : IntKind.i64.wrap ((ds[i].toNat : Int) - 48) = ds[i].toNat - 48 := wrap64_of (by omega) (by omega)
      have w2 : IntKind.i64.wrap (10 * p.1) = 10 * p.1 := wrap64_of (by omega) (by omega)
      have w3 : IntKind.i64.wrap (10 * p.1 + (ds[i].toNat - 48)) = 10 * p.1 + (ds[i].toNat - 48) := wrap64_of (by omega) (by omega)
      have hex : p.1 * 10 + ((ds[i].toNat : Int) - 48) = 10 * p.1 + (ds[i].toNat - 48) := by omega
      simp [hlt, hlo, hhi, hwi, hw8, w1, w2, w3, ]
      refine back (i + 1) ⟨by omega, fun b hb => ?_⟩ (by omega) rfl (by simp <;> omega) (by simp [hst, hex]) (by simp)
      rw [List.take_succ_eq_append_getElem hlt] at hb
      rcases List.mem_append.1 hb with hb | hb
      · exact hi.2 b hb
      · rw [List.mem_singleton.1 hb]; exact hd
    · have hall : ds.take i = ds := List.take_of_length_le (by omega)
      rw [hall] at hbd hb11 hi ⊢
      obtain ⟨hv, hzz⟩ := hok hi.2
      have hn : prsN S = (prsZ S).getD 0 := rfl
      rw [← hx] at hv hzz hz
      obtain ⟨p, hp⟩ : ∃ p, p = digs ds := ⟨_, rfl⟩
      rw [← hp] at hv hbd ⊢
      have wneg : IntKind.i64.wrap (-p.1) = -p.1 := wrap64_of (by omega) (by omega)
      have wneg2 : IntKind.i64.wrap (0 - p.1) = -p.1 := by rw [Int.zero_sub]; exact wneg
      simp [hlt, wneg, wneg2, ]
      rw [← hv]
      refine call_f (w_impl_FormatInt x hz.2) (by simp) rfl fun hs1 hh1 => ?_
      simp at hh1
      rw [hn, hzz]
      by_cases e : decZ x = S
      · rw [if_pos e]
        simp [e, ]
      · rw [if_neg e]
        simp [e, ]
  · have ha' : ((a.toNat : Int) = 45) = False := by
      simp only [eq_iff_iff, iff_false]
      intro h
      have h' : a.toNat = 45 := by omega
      exact ha (UInt8.toNat_inj.1 h')
    have ht := sgnT_ne (r := r) ha
    by_cases h9 : (9 : Int) < r.length + 1
    · have hb := prs_bad (s := a :: r) (.inr (.inl (by rw [ht]; simp; omega)))
      simp [Try.f83, ha', h9, hb]
    have hbad : (∃ b ∈ a :: r, isDg b = false) → _ := fun h => prs_bad (s := a :: r) (.inr (.inr (by rw [ht]; exact h)))
    have hok : (∀ b ∈ a :: r, isDg b = true) → _ := fun h => prsZ_dig (s := a :: r) (by rw [ht]; simp; omega) (by rw [ht]; exact h)
    simp only [ht, List.head?_cons, Option.some.injEq, ha, if_false] at hok
    simp [Try.f83, ha', h9]
    obtain ⟨S, hS⟩ : ∃ S, S = a :: r := ⟨_, rfl⟩
    have hlen : (S.length : Int) ≤ 9 := by rw [hS]; simp; omega
    rw [← hS] at hbad hok hz ⊢
    obtain ⟨ds, hds⟩ : ∃ ds, ds = S := ⟨_, rfl⟩
    have h9 : ¬ (9 : Int) < ds.length := by rw [hds]; omega
    rw [← hds]
    rw [← hds] at hbad hok hz
    clear hS
    subst hds
    obtain ⟨S, hSd⟩ : ∃ S, S = ds := ⟨_, rfl⟩
    subst hSd

    obtain ⟨x, hx⟩ : ∃ x, x = prsV S := ⟨_, rfl⟩
    refine loop_rule (X := Nat) (fun i => i ≤ S.length ∧ (∀ b ∈ S.take i, isDg b = true)) (fun i => [(0, .d (.str S)), (4, .d (.str S)), (5, .d (.bool false)), (6, .d (.int .i64 (digs (S.take i)).1)), (7, .d (.int .i64 i))]) (fun _ => []) (fun i => S.length - i) 0 (by simp) (by simp [digs]) (by simp) ?_
    intro i hs t m hi hh
    have hbd := digs_bd (S.take i)
    have hb11 : (10 : Int) ^ (S.take i).length ≤ 10 ^ 9 := by
      have := Nat.pow_le_pow_right (n := 10) (show 0 < 10 by omega) (show (S.take i).length ≤ 9 by rw [List.length_take]; omega)
      exact_mod_cast this
    by_cases hlt : i < S.length
    · have hwi := wr1 (i := i) (by omega)
      have hst := digs_step hlt
      obtain ⟨p, hp⟩ : ∃ p, p = digs (S.take i) := ⟨_, rfl⟩
      rw [← hp] at hst hbd ⊢
      by_cases hlo : (S[i].toNat : Int) < 48
      · have hb := hbad ⟨_, List.getElem_mem hlt, isDg_lo hlo⟩
        simp [hlt, hlo, hb, ]
      by_cases hhi : (57 : Int) < S[i].toNat
      · have hb := hbad ⟨_, List.getElem_mem hlt, isDg_hi hhi⟩
        simp [hlt, hlo, hhi, hb, ]
      have hd := isDg_ok hlo hhi
      rw [digF, if_pos hd] at hst
      have hw8 : IntKind.u8.wrap ((S[i].toNat : Int) - 48) = S[i].toNat - 48 := by rw [IntKind.wrap_u8]; omega
      have w1 : IntKind.i64.wrap ((S[i].toNat : Int) - 48) = S[i].toNat - 48 := wrap64_of (by omega) (by omega)
      have w2 : IntKind.i64.wrap (10 * p.1) = 10 * p.1 := wrap64_of (by omega) (by omega)
      have w3 : IntKind.i64.wrap (10 * p.1 + (S[i].toNat - 48)) = 10 * p.1 + (S[i].toNat - 48) := wrap64_of (by omega) (by omega)
      have hex : p.1 * 10 + ((S[i].toNat : Int) - 48) = 10 * p.1 + (S[i].toNat - 48) := by omega
      simp [hlt, hlo, hhi, hwi, hw8, w1, w2, w3, ]
      refine back (i + 1) ⟨by omega, fun b hb => ?_⟩ (by omega) rfl (by simp <;> omega) (by simp [hst, hex]) (by simp)
      rw [List.take_succ_eq_append_getElem hlt] at hb
      rcases List.mem_append.1 hb with hb | hb
      · exact hi.2 b hb
      · rw [List.mem_singleton.1 hb]; exact hd
    · have hall : S.take i = S := List.take_of_length_le (by omega)
      rw [hall] at hbd hb11 hi ⊢
      obtain ⟨hv, hzz⟩ := hok hi.2
      have hn : prsN S = (prsZ S).getD 0 := rfl
      rw [← hx] at hv hzz hz
      obtain ⟨p, hp⟩ : ∃ p, p = digs S := ⟨_, rfl⟩
      rw [← hp] at hv hbd ⊢
      have wneg : IntKind.i64.wrap (-p.1) = -p.1 := wrap64_of (by omega) (by omega)
      have wneg2 : IntKind.i64.wrap (0 - p.1) = -p.1 := by rw [Int.zero_sub]; exact wneg
      simp [hlt, wneg, wneg2, ]
      rw [← hv]
      refine call_f (w_impl_FormatInt x hz.2) (by simp) rfl fun hs1 hh1 => ?_
      simp at hh1
      rw [hn, hzz]
      by_cases e : decZ x = S
      · rw [if_pos e]
        simp [e, ]
      · rw [if_neg e]
        simp [e, ]
end

end Go.Proofs.Ytepiehnhajnebaa


namespace Go.Proofs.Ytepiehnhajnebaa
open Go.Vs Go.Proofs Go
set_option maxRecDepth 100000
set_option maxHeartbeats 1000000

section
attribute [local simp] plI_id plStr_id map_plI map_plStr pS cP cI cStr cU8 cB eReln
theorem w_spec_ParseRelation (s : List UInt8) (hb : s.length ≤ 1000000000) : VC Try.prog 69 [.d (.str s)] (fun _ r => r = .tup [.agg ((eReln (prsR s)).map V.d), .d (.bool (prsB s))]) := by
  refine VC.ofL EP s69 (by kernel_rfl) Try.func69 (by rfl) (by kernel_rfl) (by simp [Try.f69]) (by simp [Try.f69]) s69_ok fun B hl => ?_
  have hw : ∀ (x : List UInt8) (c : UInt8), x.length ≤ 1000000000 → _ := fun x c h => w_spec_l5Cut x c h
  have hpos := cutB_pos 58 s
  have hcl := cutB_len 58 s
  have hpre : preRel s = ⟨prsN ((cutB 58 s).getD 0 []), if (cutB 58 s).length = 2 ∧ (cutB 58 s).getD 1 [] ≠ [] then (cutB 32 ((cutB 58 s).getD 1 [])).map rowTx else []⟩ := rfl
  have hml : ∀ x ∈ cutB 58 s, x.length ≤ s.length := fun x hx => cutB_mem hx
  simp [Try.f69, s69_11, s69_11, ]
  refine call_p (hw s 58 hb) (by simp) fun hs1 hh1 hl1 => ?_
  simp at hh1
  obtain ⟨W, hW⟩ : ∃ W, W = cutB 58 s := ⟨_, rfl⟩
  rw [← hW] at hpos hpre hml ⊢
  simp [hpos, s69_11, ]
  refine call_f (w_spec_ParseInt W[0]) (by simp) rfl fun hs2 hh2 => ?_
  simp at hh2
  rw [getD_el _ hpos] at hpre
  by_cases c2 : W.length = 2
  case neg =>
    have c2' : ¬ (W.length : Int) = 2 := by omega
    rw [if_neg fun h => c2 h.1] at hpre
    simp [c2', s69_11, ]
    refine call_f (w_spec_FormatRelation (preRel s)) (by simp [hpre]) rfl fun hs9 hh9 => ?_
    simp at hh9
    obtain ⟨F, hF⟩ : ∃ F, F = fmtRel (preRel s) := ⟨_, rfl⟩
    have hB : prsB s = (decide (F = s) && decide (s ≠ [])) := by rw [hF]; rfl
    have hR : prsR s = if prsB s = true then preRel s else ⟨0, []⟩ := rfl
    rw [hpre] at hR
    rw [← hF]
    by_cases e1 : F = s
    · by_cases e2 : s = []
      · have hB' : prsB s = false := by rw [hB]; simp [e2]
        rw [if_neg (by rw [hB']; simp)] at hR
        simp [e1, e2, hR, hB', List.take_of_length_le, s69_11, ]
        simp [e2] at hR hB'
        simp [hR, hB']
      · have hB' : prsB s = true := by rw [hB]; simp [e1, e2]
        rw [if_pos hB'] at hR
        simp [e1, e2, hR, hB', List.take_of_length_le, s69_11, ]
    · have hB' : prsB s = false := by rw [hB]; simp [e1]
      rw [if_neg (by rw [hB']; simp)] at hR
      simp [e1, hR, hB', s69_11, ]
  have c2' : (W.length : Int) = 2 := by omega
  have h1W : 1 < W.length := by omega
  rw [getD_el _ h1W] at hpre
  by_cases c3 : W[1] = []
  case pos =>
    rw [if_neg fun h => h.2 c3] at hpre
    simp [c2', h1W, c3, s69_11, ]
    refine call_f (w_spec_FormatRelation (preRel s)) (by simp [hpre]) rfl fun hs9 hh9 => ?_
    simp at hh9
    obtain ⟨F, hF⟩ : ∃ F, F = fmtRel (preRel s) := ⟨_, rfl⟩
    have hB : prsB s = (decide (F = s) && decide (s ≠ [])) := by rw [hF]; rfl
    have hR : prsR s = if prsB s = true then preRel s else ⟨0, []⟩ := rfl
    rw [hpre] at hR
    rw [← hF]
    by_cases e1 : F = s
    · by_cases e2 : s = []
      · have hB' : prsB s = false := by rw [hB]; simp [e2]
        rw [if_neg (by rw [hB']; simp)] at hR
        simp [e1, e2, hR, hB', List.take_of_length_le, s69_11, ]
        simp [e2] at hR hB'
        simp [hR, hB']
      · have hB' : prsB s = true := by rw [hB]; simp [e1, e2]
        rw [if_pos hB'] at hR
        simp [e1, e2, hR, hB', List.take_of_length_le, s69_11, ]
    · have hB' : prsB s = false := by rw [hB]; simp [e1]
      rw [if_neg (by rw [hB']; simp)] at hR
      simp [e1, hR, hB', s69_11, ]
  rw [if_pos ⟨c2, c3⟩] at hpre
  have hJl : W[1].length ≤ 1000000000 := Nat.le_trans (hml _ (List.getElem_mem h1W)) hb
  obtain ⟨J, hJ⟩ : ∃ J, J = W[1] := ⟨_, rfl⟩
  rw [← hJ] at hpre hJl c3
  simp [c2', h1W, ← hJ, c3, s69_11, ]
  refine call_p (hw J 32 hJl) (by simp) fun hs3 hh3 hl3 => ?_
  simp at hh3
  have hLl := cutB_len 32 J
  have hLm : ∀ x ∈ cutB 32 J, x.length ≤ J.length := fun x hx => cutB_mem hx
  obtain ⟨l, hl⟩ : ∃ l, l = cutB 32 J := ⟨_, rfl⟩
  rw [← hl] at hpre hLl hLm ⊢
  obtain ⟨ar, har⟩ : ∃ ar, ar = prsN W[0] := ⟨_, rfl⟩
  rw [← har] at hpre ⊢
  simp [s69_11, ]
  refine loop_ruleL (X := Nat) (fun i _ => i ≤ l.length) (fun i => [(0, .d (.str s)), (2, .ptr 2 0 0), (5, .ptr 5 0 0), (6, .d (.pl (l.map cStr))), (7, .d (.int .i64 i))]) (fun i => [(2, some (.box [.d (.int .i64 0), .d (.sl none none [])])), (5, some (.box [.d (.int .i64 ar), .own 900 0 i])), (900, some (.row 61 1 (((l.take i).map rowTx).map (cP cI))))]) (fun i => l.length - i) ?_ ?_
  · refine (lead_box 5 1 900 61 1 [.d (.int .i64 ar), .d (.sl none none [])] (by omega) (by omega) (by omega) (by simp) rfl).bind ?_
    rintro _ rfl
    exact Lead.of ⟨0, by omega, rfl, rfl, Nat.le_refl _, by simp, by simp⟩
  intro i hs t m hi hh
  by_cases hlt : i < l.length
  case neg =>
    have hn : i = l.length := by omega
    subst hn
    simp [List.take_of_length_le, s69_11, ]
    refine call_f (w_spec_FormatRelation (preRel s)) (by simp [hpre, List.take_of_length_le]) rfl fun hs9 hh9 => ?_
    simp at hh9
    obtain ⟨F, hF⟩ : ∃ F, F = fmtRel (preRel s) := ⟨_, rfl⟩
    have hB : prsB s = (decide (F = s) && decide (s ≠ [])) := by rw [hF]; rfl
    have hR : prsR s = if prsB s = true then preRel s else ⟨0, []⟩ := rfl
    rw [hpre] at hR
    rw [← hF]
    by_cases e1 : F = s
    · by_cases e2 : s = []
      · have hB' : prsB s = false := by rw [hB]; simp [e2]
        rw [if_neg (by rw [hB']; simp)] at hR
        simp [e1, e2, hR, hB', List.take_of_length_le, s69_11, ]
        simp [e2] at hR hB'
        simp [hR, hB']
      · have hB' : prsB s = true := by rw [hB]; simp [e1, e2]
        rw [if_pos hB'] at hR
        simp [e1, e2, hR, hB', List.take_of_length_le, s69_11, ]
    · have hB' : prsB s = false := by rw [hB]; simp [e1]
      rw [if_neg (by rw [hB']; simp)] at hR
      simp [e1, hR, hB', s69_11, ]
  have hwi := wr1 (i := i) (by omega)
  have hmn : min i l.length = i := by omega
  have hL : LenOk 24 (i + 1) := ⟨by omega, by simp only [maxLen]; omega⟩
  have hxl := hLm _ (List.getElem_mem hlt)
  have hst2 : List.take (i + 1) (List.map (cP cI ∘ rowTx) l) = List.take i (List.map (cP cI ∘ rowTx) l) ++ [cP cI (rowTx l[i])] := by
    rw [List.take_succ_eq_append_getElem (by simpa using hlt)]; simp
  obtain ⟨x, hx⟩ : ∃ x, x = l[i] := ⟨_, rfl⟩
  rw [← hx] at hxl hst2
  refine anyQ2 fun Q => ?_
  by_cases h2 : 2 < x.length
  case neg =>
    have h2' : ¬ (2 : Int) < x.length := by omega
    have hr : rowTx x = [] := by rw [rowTx, if_neg h2]
    rw [hr] at hst2
    simp [hlt, ← hx, h2', hwi, hL, hmn, s69_11, ]
    exact back2 (i + 1) (by omega) (by omega) rfl (by simp <;> omega) (by simp) (by simp [hst2])
  have h2' : (2 : Int) < x.length := by omega
  have hwm : IntKind.i64.wrap ((x.length : Int) - 1) = ((x.length - 1 : Nat) : Int) := by rw [wrap64_of (by omega) (by omega)]; omega
  have hsub : x.length - 1 - 1 = x.length - 2 := by omega
  have hr : rowTx x = (cutB 44 (inTx x)).map prsN := by rw [rowTx, if_pos h2]
  have hxi : inTx x = x.tail.take (x.length - 2) := by simp [inTx]
  have hil : (inTx x).length ≤ 1000000000 := by rw [hxi, List.length_take, List.length_tail]; omega
  simp [hlt, ← hx, h2', hwm, hsub, s69_11, ]
  refine ⟨by omega, ?_⟩
  rw [← hxi]
  refine call_p (hw (inTx x) 44 hil) (by simp) fun hs4 hh4 hl4 => ?_
  simp at hh4
  have hVl := cutB_len 44 (inTx x)
  obtain ⟨v, hv⟩ : ∃ v, v = cutB 44 (inTx x) := ⟨_, rfl⟩
  rw [← hv] at hr hVl ⊢
  rw [hr] at hst2
  simp [s69_11, ]
  refine loop_rule (X := Nat) (fun k => k ≤ v.length) (fun k => [(0, .d (.str s)), (2, .ptr 2 0 0), (5, .ptr 5 0 0), (6, .d (.pl (l.map cStr))), (7, .d (.int .i64 i)), (8, .own 43 0 k), (9, .d (.pl (v.map cStr))), (10, .d (.int .i64 k))]) (fun k => [(2, some (.box [.d (.int .i64 0), .d (.sl none none [])])), (5, some (.box [.d (.int .i64 ar), .own 900 0 i])), (900, some (.row 61 1 (((l.take i).map rowTx).map (cP cI)))), (43, some (.row 3 1 (((v.take k).map prsN).map cI)))]) (fun k => v.length - k) 0 (by simp) (by simp) (by simp) ?_
  intro k hs5 t5 m5 hk hh5
  by_cases hkl : k < v.length
  · have hwk := wr1 (i := k) (by omega)
    have hmk : min k v.length = k := by omega
    have hLk : LenOk 8 (k + 1) := ⟨by omega, by simp only [maxLen]; omega⟩
    have hst3 : List.take (k + 1) (List.map (cI ∘ prsN) v) = List.take k (List.map (cI ∘ prsN) v) ++ [cI (prsN v[k])] := by
      rw [List.take_succ_eq_append_getElem (by simpa using hkl)]; simp
    refine anyQ fun Q' => ?_
    simp [hkl, s69_11, ]
    refine call_f (w_spec_ParseInt v[k]) (by simp) rfl fun hs6 hh6 => ?_
    simp at hh6
    simp [hkl, hwk, hLk, hmk, s69_11, ]
    exact back (k + 1) (by omega) (by omega) rfl (by simp <;> omega) (by simp) (by simp [hst3])
  · have hkn : k = v.length := by omega
    subst hkn
    simp [hwi, hL, hmn, List.take_of_length_le, s69_11, ]
    exact back2 (i + 1) (by omega) (by omega) rfl (by simp <;> omega) (by simp) (by simp [hst2])
end

end Go.Proofs.Ytepiehnhajnebaa


namespace Go.Proofs.Ytepiehnhajnebaa
open Go.Vs Go.Proofs Go
set_option maxRecDepth 100000
set_option maxHeartbeats 1000000

section
attribute [local simp] plI_id plStr_id map_plI map_plStr
theorem e_impl_parseList (s : List UInt8) (hb : s.length ≤ 1000000000) : VC Try.prog 84 [.d (.str s), .d (.int .u8 44)]
   (fun n r => ∃ y : Ints, r = .tup [.d (dSl cI y), .d (.bool (plsB s))] ∧ (plsB s = true → plS plI y = plsL s) ∧ okS okI y ∧ Good (cS cI y) (whS whI y) n) := by
  refine VC.of E s84 (by kernel_rfl) Try.func84 (by rfl) (by kernel_rfl) (by simp [Try.f84]) (by simp [Try.f84]) s84_ok fun B => ?_
  by_cases h0 : s = []
  · simp [Try.f84, h0]
    exact ⟨nilS, by simp [nilS, dSl, plsB], by simp [plsL, nilS, plS], ok_nilS, good_nilS B⟩
  simp [Try.f84, h0]
  refine call_p (w_impl_split s 44 hb) (by simp) fun hs1 hh1 hl1 => ?_
  simp at hh1
  have hll := cutB_len 44 s
  have hB : plsB s = (cutB 44 s).all fun v => (prsZ v).isSome := by simp [plsB, h0]
  have hP : plsL s = (cutB 44 s).map prsN := by simp [plsL, h0]
  obtain ⟨v, hv⟩ : ∃ v, v = cutB 44 s := ⟨_, rfl⟩
  rw [← hv] at hll hB hP ⊢
  simp [pS, ]
  refine loop_ruleL (X := Nat) (fun k _ => k ≤ v.length ∧ ∀ x ∈ v.take k, (prsZ x).isSome = true) (fun k => [(6, .own 900 0 k), (15, .d (.pl (v.map cStr))), (16, .d (.int .i64 v.length)), (17, .d (.int .i64 k))]) (fun k => [(900, some (.row 3 1 (((v.take k).map prsN).map cI)))]) (fun k => v.length - k) ?_ ?_
  · refine (lead_slot 6 900 3 1 (by omega) (by omega) (by simp)).bind ?_
    rintro _ rfl
    exact Lead.of ⟨0, ⟨by omega, by simp⟩, rfl, rfl, Nat.le_refl _, by simp, by simp⟩
  rintro k hs t m ⟨hk, hall⟩ hh
  by_cases hkl : k < v.length
  · have hwk := wr1 (i := k) (by omega)
    have hmk : min k v.length = k := by omega
    have hLk : LenOk 8 (k + 1) := ⟨by omega, by simp only [maxLen]; omega⟩
    have hst3 : List.take (k + 1) (List.map (cI ∘ prsN) v) = List.take k (List.map (cI ∘ prsN) v) ++ [cI (prsN v[k])] := by
      rw [List.take_succ_eq_append_getElem (by simpa using hkl)]; simp
    simp [hkl, cStr, ]
    refine call_f (w_impl_ParseInt v[k]) (by simp) rfl fun hs6 hh6 => ?_
    simp at hh6
    cases hz : (prsZ v[k]).isSome
    · have hbf : plsB s = false := by
        rw [hB, List.all_eq_false]
        exact ⟨_, List.getElem_mem hkl, by rw [hz]; simp⟩
      simp [hz, hbf, ]
      exact ⟨nilS, by simp [nilS, dSl], ok_nilS, good_nilS B⟩
    · simp [hz, hkl, hwk, hLk, hmk, ]
      refine back2 (k + 1) ⟨by omega, fun x hx => ?_⟩ (by omega) rfl (by simp <;> omega) (by simp [cStr]) (by simp [hst3, cI])
      rw [List.take_succ_eq_append_getElem hkl] at hx
      rcases List.mem_append.1 hx with hx | hx
      · exact hall x hx
      · rw [List.mem_singleton.1 hx]; exact hz
  · have hkn : k = v.length := by omega
    subst hkn
    have hbt : plsB s = true := by
      rw [hB, List.all_eq_true]
      intro x hx
      exact hall x (by rw [List.take_of_length_le (Nat.le_refl _)]; exact hx)
    simp [hbt, hP, ]
    intro γ hs' h1 hg
    obtain ⟨q1, q2⟩ := gam_at hg (k := 900) (T := 3) (sz := 1) (es := (v.map prsN).map cI) (by simp [List.take_of_length_le])
    have q3 := gam_row hg (k := 900) (T := 3) (sz := 1) (es := (v.map prsN).map cI) (by simp [List.take_of_length_le])
    clear hg
    have hid : ∀ L : List Int, idsLL (L.map cI) = [] := fun L => by simp
    have hp : hpLL ((v.map prsN).map cI) = false := hpLL_mapI _
    simp only [List.map_map] at hp
    simp [hp, List.take_of_length_le]
    exact ⟨⟨γ 900, some (3, 1), v.map prsN⟩, by simp [dSl, List.take_of_length_le], by simp [plS], ⟨by simp only [maxLen, List.length_map]; omega, fun _ _ => trivial⟩, good_row (fun g hg => (q1 g hg).1) (by simpa using q2) q3 ⟨by rw [hid]; simp, by rw [hid]; simp⟩ (by simp [whI])⟩
theorem e_impl_ParseRelation (s : List UInt8) (hb : s.length ≤ 1000000000) : VC Try.prog 67 [.d (.str s)]
   (fun n r => ∃ y : Reln, r = .tup [.agg ((cReln y).map V.d), .d (.bool (prsB s))] ∧ plReln y = prsR s ∧ okReln y ∧ Good (cReln y) (whReln y) n) := by
  refine VC.of E s67 (by kernel_rfl) Try.func67 (by rfl) (by kernel_rfl) (by simp [Try.f67]) (by simp [Try.f67]) s67_ok fun B => ?_
  have hnil : plReln (⟨0, nilS⟩ : Reln) = ⟨0, []⟩ := by simp [plReln, nilS, plS, plI]
  have hokn : okReln (⟨0, nilS⟩ : Reln) := ⟨trivial, ok_nilS⟩
  have hgn : Good (cReln (⟨0, nilS⟩ : Reln)) (whReln ⟨0, nilS⟩) B := good_Reln0 B
  have hbad : prsB s = false → prsR s = ⟨0, []⟩ := fun h => by rw [prsR, if_neg (by rw [h]; simp)]
  have hform := fun h => prsB_form (s := s) h
  have hpos := cutB_pos 58 s
  have hcl := cutB_len 58 s
  have hpre : preRel s = ⟨prsN ((cutB 58 s).getD 0 []), if (cutB 58 s).length = 2 ∧ (cutB 58 s).getD 1 [] ≠ [] then (cutB 32 ((cutB 58 s).getD 1 [])).map rowTx else []⟩ := rfl
  have hml : ∀ x ∈ cutB 58 s, x.length ≤ s.length := fun x hx => cutB_mem hx
  have hs0 : (prsZ ((cutB 58 s).getD 0 [])).isSome = true → s ≠ [] := fun h e => by
    subst e
    simp [cutB, cutA, prsZ_nil] at h
  simp [Try.f67, ]
  refine call_p (w_impl_split s 58 hb) (by simp) fun hs1 hh1 hl1 => ?_
  simp at hh1
  obtain ⟨W, hW⟩ : ∃ W, W = cutB 58 s := ⟨_, rfl⟩
  rw [← hW] at hpos hpre hml hform hs0 ⊢
  simp [hpos, pS, cStr, ]
  refine call_f (w_impl_ParseInt W[0]) (by simp) rfl fun hs2 hh2 => ?_
  simp at hh2
  rw [getD_el _ hpos] at hpre hform hs0
  have fail : ∀ (hh : prsB s = false), ∃ y : Reln, V.tup [V.agg [V.d (D.int IntKind.i64 0), V.d (D.sl none none [])], V.d (D.bool false)] = .tup [.agg ((cReln y).map V.d), .d (.bool (prsB s))] ∧ plReln y = prsR s ∧ okReln y ∧ Good (cReln y) (whReln y) B := fun hh =>
    ⟨⟨0, nilS⟩, by simp [cReln, cI, cS, dSl, nilS, hh], by rw [hbad hh, hnil], hokn, hgn⟩
  cases hz0 : (prsZ W[0]).isSome
  · have hf : prsB s = false := by
      cases h : prsB s
      · rfl
      · rw [(hform h).1] at hz0; cases hz0
    simp [hz0, ]
    simpa using fail hf
  by_cases c2 : W.length = 2
  case neg =>
    have c2' : ¬ (W.length : Int) = 2 := by omega
    have hf : prsB s = false := by
      cases h : prsB s
      · rfl
      · exact absurd (hform h).2.1 c2
    simp [hz0, c2', ]
    simpa using fail hf
  have c2' : (W.length : Int) = 2 := by omega
  have h1W : 1 < W.length := by omega
  rw [getD_el _ h1W] at hpre hform
  have hsn := hs0 hz0
  have hJl : W[1].length ≤ 1000000000 := Nat.le_trans (hml _ (List.getElem_mem h1W)) hb
  obtain ⟨J, hJ⟩ : ∃ J, J = W[1] := ⟨_, rfl⟩
  obtain ⟨ar, har⟩ : ∃ ar, ar = prsN W[0] := ⟨_, rfl⟩
  have hB : prsB s = decide (fmtRel (preRel s) = s) := by simp [prsB, hsn]
  rw [← hJ] at hpre hform hJl
  rw [← har] at hpre ⊢
  by_cases c3 : J = []
  case pos =>
    rw [if_neg fun h => h.2 c3] at hpre
    simp [hz0, c2', h1W, ← hJ, c3, ]
    refine call_f (w_impl_FormatRelation (preRel s)) (by simp [hpre, eReln, pS, cP]) rfl fun hs9 hh9 => ?_
    simp at hh9
    by_cases e : fmtRel (preRel s) = s
    · have hR : prsR s = preRel s := by rw [prsR, if_pos (by rw [hB]; simpa using e)]
      simp [e, hB, ]
      refine ⟨⟨ar, nilS⟩, by simp [cReln, cI, cS, dSl, nilS], ?_, ⟨trivial, ok_nilS⟩, good_Reln (good_nilS B) (Nat.le_refl _)⟩
      rw [hR, hpre]; simp [plReln, nilS, plS, plI]
    · have hf : prsB s = false := by rw [hB]; simpa using e
      simp [e, ]
      simpa using fail hf
  rw [if_pos ⟨c2, c3⟩] at hpre
  simp [hz0, c2', h1W, ← hJ, c3, ]
  refine call_p (w_impl_split J 32 hJl) (by simp) fun hs3 hh3 hl3 => ?_
  simp at hh3
  have hLl := cutB_len 32 J
  have hLm : ∀ x ∈ cutB 32 J, x.length ≤ J.length := fun x hx => cutB_mem hx
  obtain ⟨l, hl⟩ : ∃ l, l = cutB 32 J := ⟨_, rfl⟩
  rw [← hl] at hpre hLl hLm hform ⊢
  simp [pS, ]
  refine loop_ruleL (X := Nat × List Ints) (fun p h => CopI (cS cI) (whS whI) (okS okI) (plS plI) (l.map rowTx) B p h) (fun p => [(0, .d (.str s)), (2, .ptr 2 0 0), (7, .ptr 7 0 0), (38, .d (.pl (l.map cStr))), (39, .d (.int .i64 l.length)), (40, .d (.int .i64 p.1))]) (fun p => [(2, some (.box [.d (.int .i64 0), .d (.sl none none [])])), (7, some (.box [.d (.int .i64 ar), .own 900 0 p.2.length])), (900, some (.row 61 1 (p.2.map (cS cI))))]) (fun p => l.length - p.1) ?_ ?_
  · refine (lead_box 7 1 900 61 1 [.d (.int .i64 ar), .d (.sl none none [])] (by omega) (by omega) (by omega) (by simp) rfl).bind ?_
    rintro _ rfl
    exact Lead.of ⟨(0, []), .zero, rfl, rfl, Nat.le_refl _, by simp, by simp⟩
  rintro ⟨i, ys⟩ hs t m hI hh
  have hle := hI.le
  have hyl := hI.len
  simp only [List.length_map] at hle
  by_cases hlt : i < l.length
  · have hwi := wr1 (i := i) (by omega)
    have hL : LenOk 24 (i + 1) := ⟨by omega, by simp only [maxLen]; omega⟩
    have hxl := hLm _ (List.getElem_mem hlt)
    have hfx : prsB s = true → 2 ≤ l[i].length ∧ (inTx l[i] ≠ [] → ∀ v ∈ cutB 44 (inTx l[i]), (prsZ v).isSome = true) := fun h => (hform h).2.2 c3 _ (List.getElem_mem hlt)
    obtain ⟨x, hx⟩ : ∃ x, x = l[i] := ⟨_, rfl⟩
    rw [← hx] at hxl hfx
    by_cases h2 : (x.length : Int) < 2
    · have hf : prsB s = false := by
        cases h : prsB s
        · rfl
        · have := (hfx h).1; omega
      simp [hlt, ← hx, h2, cStr, ]
      simpa using fail hf
    have hwm : IntKind.i64.wrap ((x.length : Int) - 1) = ((x.length - 1 : Nat) : Int) := by rw [wrap64_of (by omega) (by omega)]; omega
    have hsub : x.length - 1 - 1 = x.length - 2 := by omega
    have hxi : inTx x = x.tail.take (x.length - 2) := by simp [inTx]
    have hil : (inTx x).length ≤ 1000000000 := by rw [hxi, List.length_take, List.length_tail]; omega
    simp [hlt, ← hx, h2, hwm, hsub, cStr, ]
    refine ⟨by omega, ?_⟩
    rw [← hxi]
    refine call_some (e_impl_parseList (inTx x) hil) (by simp) (by simp) fun n4 hs4 r4 hn4 hm4 hp4 hr4 => ?_
    obtain ⟨y, rfl, hy1, hy2, hy3⟩ := hp4
    simp at hn4
    cases hpb : plsB (inTx x)
    · have hf : prsB s = false := by
        cases h : prsB s
        · rfl
        · have := plsB_of (hfx h).2
          rw [hpb] at this; cases this
      simp []
      simpa using fail hf
    have hr' : ∀ g ∈ idsL (cS cI y), g < hs4 := fun g hg => hr4 g (by rw [idsL_cS] at hg; simpa using hg)
    have hyr : plS plI y = rowTx x := by rw [hy1 hpb, plsL_row (by omega)]
    simp [cS, dSl, hL, hwi, hyl, ]
    exact back2 (i + 1, ys ++ [y]) (hI.snoc (by simpa using hlt) (by rw [hyr]; simp [hx]) hy2 (by omega) hm4 hy3 hr') (by simp only; omega) rfl (by simp <;> omega) (by simp [cStr]) (by simp [cS, dSl, hyl])
  · have hall := hI.all (by simp; omega)
    simp [hlt, ]
    have hpr : preRel s = ⟨ar, ys.map (plS plI)⟩ := by rw [hpre, hall]
    have hpS : hpLL (ys.map (cS cI)) = false := hpLL_mapS ys
    refine call_own (by simp) (fun γ n hn hg => ⟨[.agg [.d (.int .i64 ar), .d (.sl (γ 900) (some (61, 1)) (ys.map (cS cI)))]], by simp [hpS, List.take_of_length_le], (w_impl_FormatRelation (preRel s)).er (by simp [hpr, eReln, cP, pS, cI, erLL_map (er_cS er_cI)])⟩) (by rintro n _ rfl; simp [V.ids, D.ids, V.hp, D.hp]) fun n9 hs9 r9 hn9 hm9 hp9 hr9 => ?_
    subst hp9
    clear hr9
    simp at hn9
    by_cases e : fmtRel (preRel s) = s
    · have hR : prsR s = preRel s := by rw [prsR, if_pos (by rw [hB]; simpa using e)]
      simp [e, hB, ]
      intro γ hs' h1 hg
      obtain ⟨q1, q2⟩ := gam_at hg (k := 900) (T := 61) (sz := 1) (es := ys.map (cS cI)) (by simp)
      have q3 := gam_row hg (k := 900) (T := 61) (sz := 1) (es := ys.map (cS cI)) (by simp)
      clear hg
      have hp : hpLL (ys.map (cS cI)) = false := hpLL_mapS ys
      simp [hp, List.take_of_length_le]
      refine ⟨⟨ar, ⟨γ 900, some (61, 1), ys⟩⟩, by simp [cReln, cI, cS, dSl, List.take_of_length_le], ?_, ⟨trivial, ⟨by simp only [maxLen]; show ys.length ≤ _; omega, hI.ok⟩⟩, good_Reln (good_row (fun g hg => (q1 g hg).1) (by simpa using q2) q3 ⟨hI.good.nd, hI.good.lo⟩ hI.good.wh) (Nat.le_refl _)⟩
      rw [hR, hpr]; simp [plReln, plS]
    · have hf : prsB s = false := by rw [hB]; simpa using e
      simp [e, ]
      simpa using fail hf
end

end Go.Proofs.Ytepiehnhajnebaa


namespace Go.Proofs.Ytepiehnhajnebaa
open Go.Vs Go.Proofs Go
set_option maxRecDepth 100000
set_option maxHeartbeats 1000000

section
attribute [local simp] plI_id plStr_id map_plI map_plStr pS cP cI cStr cU8 cB eDisk eFile eTab eReln eDb
theorem w_spec_ReadFile (k : List PFile) (nm : List UInt8) : VC Try.prog 12 [.agg ((eDisk ⟨k⟩).map V.d), .d (.str nm)] (fun _ r => r = .tup [.d (.str (rdD k nm)), .d (.bool (rdB k nm))]) := by
  refine VC.ofL EP s12 (by kernel_rfl) Try.func12 (by rfl) (by kernel_rfl) (by simp [Try.f12]) (by simp [Try.f12]) s12_ok fun B hl => ?_
  simp [maxLen] at hl
  simp [Try.f12, ]
  refine loop_rule (X := Nat) (RdI k nm) (fun i => [(1, .d (.str nm)), (2, .ptr 2 0 0), (6, .d (.int .i64 i))]) (fun i => [(2, some (.box [.d (.pl (k.map eFile))]))]) (fun i => k.length - i) 0 .zero (by simp) (by simp) ?_
  intro i hs t m hI hh
  have hle := hI.le
  by_cases hlt : i < k.length
  · have hwi := wr1 (i := i) (by omega)
    obtain ⟨fn, fd, hf⟩ : ∃ fn fd, k[i] = ⟨fn, fd⟩ := ⟨_, _, rfl⟩
    by_cases e : fn = nm
    · have h := hI.hit hlt (by rw [hf]; exact e)
      rw [hf] at h
      simp [hlt, hf, e, rdD, rdB, h, ]
    · have h := hI.miss hlt (by rw [hf]; exact e)
      simp [hlt, hf, e, hwi, ]
      exact back (i + 1) h (by omega) rfl (by simp <;> omega) (by simp) (by simp)
  · have h := hI.done (by omega)
    simp [hlt, rdD, rdB, h, ]
theorem w_impl_ReadFile (k : List PFile) (nm : List UInt8) : VC Try.prog 9 [.agg ((eDisk ⟨k⟩).map V.d), .d (.str nm)] (fun _ r => r = .tup [.d (.str (rdD k nm)), .d (.bool (rdB k nm))]) := by
  refine VC.ofL EP s9 (by kernel_rfl) Try.func9 (by rfl) (by kernel_rfl) (by simp [Try.f9]) (by simp [Try.f9]) s9_ok fun B hl => ?_
  simp [maxLen] at hl
  simp [Try.f9, ]
  refine loop_rule (X := Nat) (RdI k nm) (fun i => [(1, .d (.str nm)), (9, .d (.pl (k.map eFile))), (10, .d (.int .i64 k.length)), (11, .d (.int .i64 i))]) (fun i => []) (fun i => k.length - i) 0 .zero (by simp) (by simp) ?_
  intro i hs t m hI hh
  have hle := hI.le
  by_cases hlt : i < k.length
  · have hwi := wr1 (i := i) (by omega)
    obtain ⟨fn, fd, hf⟩ : ∃ fn fd, k[i] = ⟨fn, fd⟩ := ⟨_, _, rfl⟩
    by_cases e : fn = nm
    · have h := hI.hit hlt (by rw [hf]; exact e)
      rw [hf] at h
      simp [hlt, hf, e, rdD, rdB, h, ]
    · have h := hI.miss hlt (by rw [hf]; exact e)
      simp [hlt, hf, e, hwi, ]
      exact back (i + 1) h (by omega) rfl (by simp <;> omega) (by simp) (by simp)
  · have h := hI.done (by omega)
    simp [hlt, rdD, rdB, h, ]
theorem w_spec_IsValidDisk (k : List PFile) : VC Try.prog 10 [.agg ((eDisk ⟨k⟩).map V.d)] (fun _ r => r = .d (.bool (dskOk k))) := by
  refine VC.ofL EP s10 (by kernel_rfl) Try.func10 (by rfl) (by kernel_rfl) (by simp [Try.f10]) (by simp [Try.f10]) s10_ok fun B hl => ?_
  simp [maxLen] at hl
  simp [Try.f10, s10_4, s10_4, ]
  refine loop_rule (X := Nat) (DskI k) (fun i => [(1, .ptr 1 0 0), (3, .d (.int .i64 i))]) (fun i => [(1, some (.box [.d (.pl (k.map eFile))]))]) (fun i => k.length - i) 1 .one (by simp) (by simp) ?_
  intro i hs t m hI hh
  have hlo := hI.lo
  by_cases hlt : i < k.length
  · have hwi := wr1 (i := i) (by omega)
    have hwm : IntKind.i64.wrap ((i : Int) - 1) = ((i - 1 : Nat) : Int) := by rw [wrap64_of (by omega) (by omega)]; omega
    have him : i - 1 < k.length := by omega
    have hat := dskAt_eq hlo hlt
    obtain ⟨fn, fd, hf⟩ : ∃ fn fd, k[i] = ⟨fn, fd⟩ := ⟨_, _, rfl⟩
    obtain ⟨gn, gd, hg⟩ : ∃ gn gd, k[i - 1] = ⟨gn, gd⟩ := ⟨_, _, rfl⟩
    rw [hf, hg] at hat
    simp only at hat
    cases e : Op.bytesLess gn fn
    · have hb := dskOk_bad hlt (by rw [hat, e])
      simp [hlt, him, hwm, hf, hg, e, hb, s10_4, ]
    · have h := hI.step (by rw [hat, e])
      simp [hlt, him, hwm, hf, hg, e, hwi, s10_4, ]
      exact back (i + 1) h (by omega) rfl (by simp <;> omega) (by simp) (by simp)
  · have h := hI.done (by omega)
    simp [hlt, h, s10_4, ]
theorem w_impl_IsValidDisk (k : List PFile) : VC Try.prog 11 [.agg ((eDisk ⟨k⟩).map V.d)] (fun _ r => r = .d (.bool (dskOk k))) := by
  refine VC.ofL EP s11 (by kernel_rfl) Try.func11 (by rfl) (by kernel_rfl) (by simp [Try.f11]) (by simp [Try.f11]) s11_ok fun B hl => ?_
  simp [maxLen] at hl
  simp [Try.f11, s11_4, s11_4, ]
  refine loop_rule (X := Nat) (DskI k) (fun i => [(1, .ptr 1 0 0), (3, .d (.int .i64 i))]) (fun i => [(1, some (.box [.d (.pl (k.map eFile))]))]) (fun i => k.length - i) 1 .one (by simp) (by simp) ?_
  intro i hs t m hI hh
  have hlo := hI.lo
  by_cases hlt : i < k.length
  · have hwi := wr1 (i := i) (by omega)
    have hwm : IntKind.i64.wrap ((i : Int) - 1) = ((i - 1 : Nat) : Int) := by rw [wrap64_of (by omega) (by omega)]; omega
    have him : i - 1 < k.length := by omega
    have hat := dskAt_eq hlo hlt
    obtain ⟨fn, fd, hf⟩ : ∃ fn fd, k[i] = ⟨fn, fd⟩ := ⟨_, _, rfl⟩
    obtain ⟨gn, gd, hg⟩ : ∃ gn gd, k[i - 1] = ⟨gn, gd⟩ := ⟨_, _, rfl⟩
    rw [hf, hg] at hat
    simp only at hat
    cases e : Op.bytesLess gn fn
    · have hb := dskOk_bad hlt (by rw [hat, e])
      simp [hlt, him, hwm, hf, hg, e, hb, s11_4, ]
    · have h := hI.step (by rw [hat, e])
      simp [hlt, him, hwm, hf, hg, e, hwi, s11_4, ]
      exact back (i + 1) h (by omega) rfl (by simp <;> omega) (by simp) (by simp)
  · have h := hI.done (by omega)
    simp [hlt, h, s11_4, ]
theorem w_spec_WriteFile (k : List PFile) (nm data : List UInt8) (hb : k.length ≤ 4294967296) : VC Try.prog 51 [.agg ((eDisk ⟨k⟩).map V.d), .d (.str nm), .d (.str data)] (fun _ r => r = .agg ((eDisk ⟨wrF k ⟨nm, data⟩⟩).map V.d)) := by
  refine VC.ofL EP s51 (by kernel_rfl) Try.func51 (by rfl) (by kernel_rfl) (by simp [Try.f51]) (by simp [Try.f51]) s51_ok fun B hl => ?_
  simp [Try.f51, ]
  refine loop_ruleL (X := Nat × Bool × List PFile) (fun p _ => WrI k ⟨nm, data⟩ p) (fun p => [(1, .d (.str nm)), (2, .d (.str data)), (3, .ptr 3 0 0), (6, .ptr 6 0 0), (7, .ptr 7 0 0), (8, .d (.bool p.2.1)), (9, .d (.int .i64 p.1))]) (fun p => [(3, some (.box [.d (.pl (k.map eFile))])), (6, some (.box [.d (.sl none none [])])), (7, some (.box [.own 900 0 p.2.2.length])), (900, some (.row 34 2 (p.2.2.map eFile)))]) (fun p => k.length - p.1) ?_ ?_
  · refine (lead_box 7 0 900 34 2 [.d (.sl none none [])] (by omega) (by omega) (by omega) (by simp) rfl).bind ?_
    rintro _ rfl
    exact Lead.of ⟨(0, false, []), .zero, rfl, rfl, Nat.le_refl _, by simp, by simp⟩
  rintro ⟨i, b, out⟩ hs t m hI hh
  have hle := hI.le
  have hol := hI.len
  simp only at hle hol
  have hol2 : out.length ≤ i + 1 := by cases b <;> simp at hol <;> omega
  by_cases hlt : i < k.length
  · have hwi := wr1 (i := i) (by omega)
    have hstp := hI.step hlt
    have hL1 : LenOk 32 (out.length + 1) := ⟨by omega, by simp only [maxLen]; omega⟩
    have hL2 : LenOk 32 (out.length + 1 + 1) := ⟨by omega, by simp only [maxLen]; omega⟩
    obtain ⟨fn, fd, hf⟩ : ∃ fn fd, k[i] = ⟨fn, fd⟩ := ⟨_, _, rfl⟩
    rw [hf] at hstp
    simp only at hstp
    refine anyQ2 fun Q => ?_
    cases b <;> cases e : Op.bytesLess fn nm <;> by_cases e2 : fn = nm <;> (try rw [e2] at hf e hstp) <;> simp only [e, e2, if_true, if_false, Bool.not_true, Bool.not_false, Bool.and_true, Bool.and_false, Bool.true_and, Bool.false_and, Bool.or_true, Bool.or_false, Bool.true_or, Bool.false_or, List.nil_append, List.append_nil, reduceCtorEq, List.append_assoc, List.cons_append] at hstp
    all_goals
      simp [hlt, hf, e, e2, hwi, hL1, hL2, List.take_of_length_le, ]
      first
      | exact back2 (_, _, _) hstp (by simp only; omega) rfl (by simp <;> omega) (by simp) (by simp [List.take_of_length_le])
      | trace_state
  · have hd := hI.done (by omega)
    have hL1 : LenOk 32 (out.length + 1) := ⟨by omega, by simp only [maxLen]; omega⟩
    cases b
    · simp [hlt, hd, hL1, List.take_of_length_le, ]
    · simp [hlt, hd, List.take_of_length_le, ]
theorem w_spec_l32Without (k : List PFile) (nm : List UInt8) (hb : k.length ≤ 4294967296) : VC Try.prog 50 [.agg ((eDisk ⟨k⟩).map V.d), .d (.str nm)] (fun _ r => r = .agg ((eDisk ⟨wout k nm⟩).map V.d)) := by
  refine VC.ofL EP s50 (by kernel_rfl) Try.func50 (by rfl) (by kernel_rfl) (by simp [Try.f50]) (by simp [Try.f50]) s50_ok fun B hl => ?_
  simp [Try.f50, s50_6, s50_6, ]
  refine loop_ruleL (X := Nat) (fun i _ => i ≤ k.length) (fun i => [(1, .d (.str nm)), (2, .ptr 2 0 0), (4, .ptr 4 0 0), (5, .ptr 5 0 0), (6, .d (.int .i64 i))]) (fun i => [(2, some (.box [.d (.pl (k.map eFile))])), (4, some (.box [.d (.sl none none [])])), (5, some (.box [.own 900 0 (wout (k.take i) nm).length])), (900, some (.row 34 2 ((wout (k.take i) nm).map eFile)))]) (fun i => k.length - i) ?_ ?_
  · refine (lead_box 5 0 900 34 2 [.d (.sl none none [])] (by omega) (by omega) (by omega) (by simp) rfl).bind ?_
    rintro _ rfl
    exact Lead.of ⟨0, by omega, rfl, rfl, Nat.le_refl _, by simp, by simp [wout]⟩
  intro i hs t m hi hh
  by_cases hlt : i < k.length
  · have hwi := wr1 (i := i) (by omega)
    have hol := wout_len (k.take i) nm
    rw [List.length_take] at hol
    have hstp := wout_step (nm := nm) hlt
    obtain ⟨out, ho⟩ : ∃ out, out = wout (k.take i) nm := ⟨_, rfl⟩
    rw [← ho] at hstp hol ⊢
    have hL1 : LenOk 32 (out.length + 1) := ⟨by omega, by simp only [maxLen]; omega⟩
    obtain ⟨fn, fd, hf⟩ : ∃ fn fd, k[i] = ⟨fn, fd⟩ := ⟨_, _, rfl⟩
    rw [hf] at hstp
    simp only at hstp
    by_cases e : fn = nm
    · rw [if_pos e, List.append_nil] at hstp
      simp [hlt, hf, e, hwi, s50_6, ]
      exact back2 (i + 1) (by omega) (by omega) rfl (by simp <;> omega) (by simp) (by simp [hstp])
    · rw [if_neg e] at hstp
      simp [hlt, hf, e, hwi, hL1, List.take_of_length_le, s50_6, ]
      exact back2 (i + 1) (by omega) (by omega) rfl (by simp <;> omega) (by simp) (by simp [hstp, List.take_of_length_le])
  · have hn : i = k.length := by omega
    subst hn
    simp [hlt, List.take_of_length_le, s50_6, ]
end

end Go.Proofs.Ytepiehnhajnebaa


namespace Go.Proofs.Ytepiehnhajnebaa
open Go.Vs Go.Proofs Go
set_option maxRecDepth 100000
set_option maxHeartbeats 1000000

section
attribute [local simp] plI_id plStr_id map_plI map_plStr pS cP cI cStr cU8 cB eDisk eFile eTab eReln eDb
theorem w_spec_l32Load (k : List PFile) (v : Int) (hk : ∀ f ∈ k, f.data.length ≤ 1000000000) (hv : inZ v) : VC Try.prog 45 [.agg ((eDisk ⟨k⟩).map V.d), .d (.int .i64 v)] (fun _ r => r = .tup [.agg ((eDb ((loadS k v).getD ⟨[]⟩)).map V.d), .d (.bool (loadS k v).isSome)]) := by
  refine VC.ofL EP s45 (by kernel_rfl) Try.func45 (by rfl) (by kernel_rfl) (by simp [Try.f45]) (by simp [Try.f45]) s45_ok fun B hl => ?_
  have hrd : ∀ nm, (rdD k nm).length ≤ 1000000000 := fun nm => rdD_len hk
  have hdef : loadS k v = if rdB k (hdNm v) then match tabsM (tabS k v) (lns (rdD k (hdNm v))) with
    | none => none
    | some ts => if verB ⟨ts⟩ v && headEq ts (rdD k (hdNm v)) then some ⟨ts⟩ else none
  else none := rfl
  simp [Try.f45, s45_1, s45_8, s45_10, s45_12, s45_1, s45_8, s45_10, s45_12, ]
  refine call_f (w_spec_l32Head v hv) (by simp) rfl fun hs1 hh1 => ?_
  simp at hh1
  simp [s45_1, s45_8, s45_10, s45_12, ]
  refine call_f (w_spec_ReadFile k ([109] ++ decZ v)) (by simp) rfl fun hs2 hh2 => ?_
  simp at hh2
  have hnm : [109] ++ decZ v = hdNm v := rfl
  rw [hnm]
  obtain ⟨H, hH⟩ : ∃ H, H = rdD k (hdNm v) := ⟨_, rfl⟩
  have hHl : H.length ≤ 1000000000 := by rw [hH]; exact hrd _
  obtain ⟨is, his⟩ : ∃ b, b = rdB k (hdNm v) := ⟨_, rfl⟩
  rw [← hH, ← his] at hdef ⊢
  simp [s45_1, s45_8, s45_10, s45_12, ]
  refine call_p (w_spec_l5Cut H 10 hHl) (by simp) fun hs3 hh3 hl3 => ?_
  simp at hh3
  have hcl := cutB_len 10 H
  have hcm : ∀ x ∈ cutB 10 H, x.length ≤ H.length := fun x hx => cutB_mem hx
  have hll := lns_len H
  have hlg : ∀ (i : Nat) (h : i < (lns H).length), (lns H)[i] = (cutB 10 H)[i]'(by omega) := fun i h => by simp [lns]
  obtain ⟨l, hl⟩ : ∃ l, l = cutB 10 H := ⟨_, rfl⟩
  obtain ⟨L, hL⟩ : ∃ L, L = lns H := ⟨_, rfl⟩
  simp only [← hl, ← hL] at hcl hcm hll hlg hdef ⊢
  simp [s45_1, s45_8, s45_10, s45_12, ]
  refine loop_ruleL (X := Nat × List PTab) (fun p _ => TbI (tabS k v) L p.1 p.2 ∧ (∀ t ∈ p.2, t.name.length ≤ 1000000000) ∧ (is = false → p.1 = 0)) (fun p => [(1, .d (.int .i64 v)), (2, .ptr 2 0 0), (4, .ptr 4 0 0), (6, .d (.str H)), (7, .d (.bool is)), (8, .ptr 8 0 0), (9, .d (.pl (l.map cStr))), (10, .d (.int .i64 p.1))]) (fun p => [(2, some (.box [.d (.pl (k.map eFile))])), (4, some (.box [.d (.sl none none [])])), (8, some (.box [.own 900 0 p.2.length])), (900, some (.row 68 3 (p.2.map eTab)))]) (fun p => L.length - p.1) ?_ ?_
  · refine (lead_box 8 0 900 68 3 [.d (.sl none none [])] (by omega) (by omega) (by omega) (by simp) rfl).bind ?_
    rintro _ rfl
    exact Lead.of ⟨(0, []), ⟨.zero, by simp, by simp⟩, rfl, rfl, Nat.le_refl _, by simp, by simp⟩
  rintro ⟨i, acc⟩ hs t m ⟨hI, hnl, hz0⟩ hh
  have hle := hI.le
  have hal := hI.len
  simp only at hle hal hnl hz0
  have hwi := wr1 (i := i) (by omega)
  cases hisb : is
  · have hn : loadS k v = none := by rw [hdef, hisb]; rfl
    by_cases hlt : (i : Int) + 1 < l.length
    · simp [hwi, hlt, hisb, hn, s45_1, s45_8, s45_10, s45_12, ]
    · simp [hwi, hlt, hisb, hn, s45_1, s45_8, s45_10, s45_12, ]
  rw [hisb, if_pos rfl] at hdef
  by_cases hlt : i < L.length
  case neg =>
    have hlt' : ¬ (i : Int) + 1 < l.length := by omega
    have hd := hI.done (by omega)
    simp only at hd
    rw [hd] at hdef
    simp only at hdef
    have hst : ∀ t ∈ acc, t.name.length ≤ maxLen := fun t ht => by have := hnl t ht; simp only [maxLen]; omega
    simp [hwi, hlt', hisb, List.take_of_length_le, s45_1, s45_8, s45_10, s45_12, ]
    refine call_f (w_spec_IsValidDatabase ⟨acc⟩ hst) (by simp [List.take_of_length_le]) rfl fun hs4 hh4 => ?_
    simp at hh4
    cases h1 : dbOk ⟨acc⟩
    · have hn : loadS k v = none := by rw [hdef]; simp [verB, h1]
      simp [hn, s45_1, s45_8, s45_10, s45_12, ]
    simp [s45_1, s45_8, s45_10, s45_12, ]
    refine call_f (w_spec_l1In v 1 99) (by simp) rfl fun hs5 hh5 => ?_
    simp at hh5
    cases h2 : inR v 1 99
    · have hn : loadS k v = none := by rw [hdef]; simp [verB, h2]
      simp [hn, s45_1, s45_8, s45_10, s45_12, ]
    have hvb : verB ⟨acc⟩ v = true := by simp [verB, h1, h2]
    simp [List.take_of_length_le, s45_1, s45_8, s45_10, s45_12, ]
    refine call_p (w_spec_VersionFiles ⟨acc⟩ v hst) (by simp [List.take_of_length_le]) fun hs6 hh6 hl6 => ?_
    simp at hh6
    have hvf := verFs_eq hvb
    simp only at hvf
    have hrl : (runs v acc).length = acc.length := by simp
    have hwl : IntKind.i64.wrap (acc.length : Int) = acc.length := wrap64_of (by omega) (by omega)
    have hlast : ∀ X, (List.map eFile (runs v acc) ++ [[D.str (hdNm v), D.str X]])[acc.length]? = some [D.str (hdNm v), D.str X] := fun X => by rw [List.getElem?_append_right (by simp)]; simp
    rw [hvf]
    rw [hvb, Bool.true_and] at hdef
    by_cases e : headTx acc ++ decZ (ckS (headTx acc)) = H
    · rw [if_pos (by simpa [headEq] using e)] at hdef
      simp [hwl, hlast, hdef, e, List.take_of_length_le, s45_1, s45_8, s45_10, s45_12, ]
    · rw [if_neg (by simpa [headEq] using e)] at hdef
      simp [hwl, hlast, hdef, e, List.take_of_length_le, s45_1, s45_8, s45_10, s45_12, ]
  have hlt' : (i : Int) + 1 < l.length := by omega
  have hil : i < l.length := by omega
  have hxl := hcm _ (List.getElem_mem hil)
  have hstp := fun t e => hI.step hlt (t := t) e
  have hbad := hI.bad hlt
  rw [hlg i hlt] at hstp hbad
  obtain ⟨x, hx⟩ : ∃ x, x = l[i] := ⟨_, rfl⟩
  rw [← hx] at hxl hstp hbad
  simp [hwi, hlt', hil, hisb, ← hx, s45_1, s45_8, s45_10, s45_12, ]
  refine call_p (w_spec_l5Cut x 61 (by omega)) (by simp) fun hs4 hh4 hl4 => ?_
  simp at hh4
  have hwp := cutB_pos 61 x
  have hwm : ∀ y ∈ cutB 61 x, y.length ≤ x.length := fun y hy => cutB_mem hy
  have hw0 : (cutB 61 x).getD 0 [] = (cutB 61 x)[0] := getD_el _ hwp
  have hlm : lnNm x = (cutB 61 x)[0] := hw0
  have hw0l := hwm _ (List.getElem_mem hwp)
  have hck : ∀ s, lnCk x s = (decide ((cutB 61 x).length = 2) && decide (decZ (ckS s) = (cutB 61 x).getD 1 [])) := fun s => rfl
  obtain ⟨ws, hws⟩ : ∃ ws, ws = cutB 61 x := ⟨_, rfl⟩
  simp only [← hws] at hwp hwm hlm hw0l hck ⊢
  have htS : tabS k v x = if lnCk x (rdD k (runNm v (lnNm x))) then tabO k v x else none := rfl
  have htO : tabO k v x = if rdB k (runNm v (lnNm x)) && prsB (rdD k (runNm v (lnNm x))) then some ⟨lnNm x, prsR (rdD k (runNm v (lnNm x)))⟩ else none := rfl
  simp [hwp, s45_1, s45_8, s45_10, s45_12, ]
  refine call_f (w_spec_l32Run v ws[0] hv (by omega)) (by simp) rfl fun hs5 hh5 => ?_
  simp at hh5
  simp [hwp, s45_1, s45_8, s45_10, s45_12, ]
  refine call_f (w_spec_ReadFile k (runNm v ws[0])) (by simp) rfl fun hs6 hh6 => ?_
  simp at hh6
  rw [← hlm]
  have hsl := hrd (runNm v (lnNm x))
  obtain ⟨s, hs_⟩ : ∃ s, s = rdD k (runNm v (lnNm x)) := ⟨_, rfl⟩
  obtain ⟨fb, hfb⟩ : ∃ b, b = rdB k (runNm v (lnNm x)) := ⟨_, rfl⟩
  rw [← hs_] at hsl htS htO ⊢
  rw [← hfb] at htO ⊢
  simp [s45_1, s45_8, s45_10, s45_12, ]
  refine call_p (w_spec_ParseRelation s hsl) (by simp) fun hs7 hh7 hl7 => ?_
  simp at hh7
  have hckz : inZ (ckS s) := by have := ckS_in s; simp only [inZ]; omega
  have hnone : tabS k v x = none → loadS k v = none := fun h => by rw [hdef, hbad h]
  have g1i : ∀ (_ : ws.length ≠ 2), ((ws.length : Int) = 2) = False := fun h => by simp; omega
  have g1t : ∀ (_ : ws.length = 2), ((ws.length : Int) = 2) = True := fun h => by simp; omega
  by_cases g1 : ws.length = 2
  case neg =>
    have g1' := g1i g1
    have hn := hnone (by rw [htS, hck]; simp [g1])
    simp [hwp, g1', hn, s45_1, s45_8, s45_10, s45_12, ]
  have g1' := g1t g1
  have h1w : 1 < ws.length := by omega
  cases g2 : fb
  · have hn := hnone (by rw [htS, htO]; simp [g2])
    simp [hwp, g1', hn, s45_1, s45_8, s45_10, s45_12, ]
  cases g3 : prsB s
  · have hn := hnone (by rw [htS, htO]; simp [g3])
    simp [hwp, g1', hn, s45_1, s45_8, s45_10, s45_12, ]
  simp [hwp, g1', h1w, s45_1, s45_8, s45_10, s45_12, ]
  refine call_f (w_spec_ChecksumOf s (by omega)) (by simp) rfl fun hs8 hh8 => ?_
  simp at hh8
  simp [s45_1, s45_8, s45_10, s45_12, ]
  refine call_f (w_spec_FormatInt (ckS s) hckz) (by simp) rfl fun hs9 hh9 => ?_
  simp at hh9
  by_cases g4 : decZ (ckS s) = ws[1]
  case neg =>
    have hn := hnone (by rw [htS, hck, getD_el _ h1w]; simp [g4])
    simp [h1w, g4, hn, s45_1, s45_8, s45_10, s45_12, ]
  have hsome : tabS k v x = some ⟨lnNm x, prsR s⟩ := by
    rw [htS, hck, getD_el _ h1w, htO]; simp [g1, g2, g3, g4]
  have hnx := hstp _ hsome
  have hL1 : LenOk 48 (acc.length + 1) := ⟨by omega, by simp only [maxLen]; omega⟩
  rw [hal] at hL1
  simp [h1w, g4, hwp, ← hlm, hL1, hwi, hal, s45_1, s45_8, s45_10, s45_12, ]
  refine back2 (i + 1, acc ++ [⟨lnNm x, prsR s⟩]) ⟨hnx, fun t ht => ?_⟩ (by simp only; omega) rfl (by simp <;> omega) (by simp [hisb]) (by simp [hal, List.take_of_length_le])
  rcases List.mem_append.1 ht with ht | ht
  · exact hnl t ht
  · rw [List.mem_singleton.1 ht, hlm]; simp only; omega
theorem w_spec_NewestVersion (k : List PFile) (hk : ∀ f ∈ k, f.data.length ≤ 1000000000) : VC Try.prog 21 [.agg ((eDisk ⟨k⟩).map V.d)] (fun _ r => r = .d (.int .i64 (newV k))) := by
  refine VC.ofL EP s21 (by kernel_rfl) Try.func21 (by rfl) (by kernel_rfl) (by simp [Try.f21]) (by simp [Try.f21]) s21_ok fun B hl => ?_
  simp [Try.f21, s21_4, s21_4, ]
  refine loop_rule (X := Nat) (fun v => NewI k v) (fun v => [(1, .ptr 1 0 0), (3, .d (.int .i64 v))]) (fun v => [(1, some (.box [.d (.pl (k.map eFile))]))]) (fun v => v) 99 .top (by simp) (by simp) ?_
  intro v hs t m hI hh
  have hle := hI.le
  cases v with
  | zero =>
    have := hI.zero
    simp [this.1, s21_4, ]
  | succ v =>
  have hvz : inZ ((v + 1 : Nat) : Int) := by simp only [inZ]; omega
  obtain ⟨u, hu⟩ : ∃ u : Nat, u = v + 1 := ⟨_, rfl⟩
  have hup : 0 < u := by omega
  have hwm : IntKind.i64.wrap ((u : Int) - 1) = v := by rw [wrap64_of (by omega) (by omega)]; omega
  have hdn := hI.down
  have hht := fun d => hI.hit (d := d)
  rw [← hu] at hvz hdn hht ⊢
  clear hI
  simp [hup, s21_4, ]
  refine call_f (w_spec_l32Head u hvz) (by simp) rfl fun hs1 hh1 => ?_
  simp at hh1
  simp [s21_4, ]
  refine call_f (w_spec_ReadFile k ([109] ++ decZ u)) (by simp) rfl fun hs2 hh2 => ?_
  simp at hh2
  have hnm : [109] ++ decZ u = hdNm u := rfl
  rw [hnm]
  cases hb : rdB k (hdNm u)
  · have hn := hdn (loadS_no hb)
    simp [hwm, s21_4, ]
    exact back v hn (by omega) rfl (by simp <;> omega) (by simp) (by simp)
  simp [s21_4, ]
  refine call_p (w_spec_l32Load k u hk hvz) (by simp) fun hs3 hh3 hl3 => ?_
  simp at hh3
  cases hl : loadS k u with
  | none =>
    have hn := hdn hl
    simp [hwm, s21_4, ]
    exact back v hn (by omega) rfl (by simp <;> omega) (by simp) (by simp)
  | some d =>
    have hn := hht d hl
    simp [hn.1, s21_4, ]
theorem w_spec_RecoverDatabase (k : List PFile) (hk : ∀ f ∈ k, f.data.length ≤ 1000000000) : VC Try.prog 27 [.agg ((eDisk ⟨k⟩).map V.d)] (fun _ r => r = .tup [.agg ((eDb (recP k)).map V.d), .d (.int .i64 (newV k)), .d (.bool (recB k))]) := by
  refine VC.ofL EP s27 (by kernel_rfl) Try.func27 (by rfl) (by kernel_rfl) (by simp [Try.f27]) (by simp [Try.f27]) s27_ok fun B hl => ?_
  have hvz : inZ (newV k : Int) := by have := newF_le k 99; simp only [inZ, newV]; omega
  simp [Try.f27, ]
  refine call_f (w_spec_NewestVersion k hk) (by simp) rfl fun hs1 hh1 => ?_
  simp at hh1
  have hl := load_new (k := k)
  by_cases h0 : newV k = 0
  · have hr : recP k = ⟨[]⟩ := by rw [recP, if_pos h0]
    simp [h0, hr, recB, ]
  have hb : recB k = true := by simp [recB, h0]
  have h0' : ((newV k : Int) = 0) = False := by simp; exact h0
  simp [h0', h0, hb, ]
  refine call_p (w_spec_l32Load k (newV k) hk hvz) (by simp) fun hs2 hh2 hl2 => ?_
  simp at hh2
  simp [hl.1 hb, ]
theorem w_spec_CommitDatabase (k : List PFile) (d : PDb) (n : Int) (hk : ∀ f ∈ k, f.data.length ≤ 1000000000) (hkl : k.length ≤ 1000000000) (hst : ∀ t ∈ d.tabs, t.name.length ≤ maxLen) : VC Try.prog 25 [.agg ((eDisk ⟨k⟩).map V.d), .agg ((eDb d).map V.d), .d (.int .i64 n)] (fun _ r => r = .tup [.agg ((eDisk ⟨comP k d n⟩).map V.d), .d (.bool (comB k d n))]) := by
  refine VC.ofL EP s25 (by kernel_rfl) Try.func25 (by rfl) (by kernel_rfl) (by simp [Try.f25]) (by simp [Try.f25]) s25_ok fun B hl => ?_
  obtain ⟨ts⟩ := d
  have hnle := newF_le k 99
  have hvw : IntKind.i64.wrap ((newV k : Int) + 1) = ((newV k + 1 : Nat) : Int) := by rw [wrap64_of (by simp only [newV]; omega) (by simp only [newV]; omega)]; simp
  have hvz : inZ ((newV k + 1 : Nat) : Int) := by simp only [inZ, newV]; omega
  have hfl := verFs_len ⟨ts⟩ ((newV k + 1 : Nat) : Int)
  have hG : comG k ⟨ts⟩ = (decide (verFs ⟨ts⟩ ((newV k + 1 : Nat) : Int) ≠ []) && dskOk k) := rfl
  have hP : comP k ⟨ts⟩ n = if comG k ⟨ts⟩ then wrAll (wout k (hdNm ((newV k + 1 : Nat) : Int))) ((verFs ⟨ts⟩ ((newV k + 1 : Nat) : Int)).take n.toNat) else k := rfl
  have hB : comB k ⟨ts⟩ n = (comG k ⟨ts⟩ && decide (((verFs ⟨ts⟩ ((newV k + 1 : Nat) : Int)).length : Int) ≤ n)) := rfl
  have hL : LenOk 32 k.length := ⟨by omega, by simp only [maxLen]; omega⟩
  simp [Try.f25, s25_6, s25_10, s25_6, s25_10, ]
  refine call_f (w_spec_NewestVersion k hk) (by simp) rfl fun hs1 hh1 => ?_
  simp at hh1
  simp [hvw, s25_6, s25_10, ]
  refine call_p (w_spec_VersionFiles ⟨ts⟩ ((newV k + 1 : Nat) : Int) hst) (by simp) fun hs2 hh2 hl2 => ?_
  simp at hh2
  obtain ⟨u, hu⟩ : ∃ u : Int, u = ((newV k + 1 : Nat) : Int) := ⟨_, rfl⟩
  rw [← hu] at hvw hvz hfl hG hP hB
  simp only [← hu]
  by_cases hf : verFs ⟨ts⟩ u = []
  · have hg : comG k ⟨ts⟩ = false := by rw [hG]; simp [hf]
    rw [if_neg (by rw [hg]; simp)] at hP
    rw [hg, Bool.false_and] at hB
    simp [hf, hL, hP, hB, List.take_of_length_le, s25_6, s25_10, ]
  have hfp : ((verFs ⟨ts⟩ u).length : Int) ≠ 0 := by
    have := List.length_pos_iff.2 hf; omega
  obtain ⟨fs, hfs⟩ : ∃ fs, fs = verFs ⟨ts⟩ u := ⟨_, rfl⟩
  rw [← hfs] at hf hfp hfl hG hP hB ⊢
  simp [hf, hfp, hL, s25_6, s25_10, ]
  refine call_f (w_spec_IsValidDisk k) (by simp) rfl fun hs3 hh3 => ?_
  simp at hh3
  cases hd : dskOk k
  · have hg : comG k ⟨ts⟩ = false := by rw [hG]; simp [hd]
    rw [if_neg (by rw [hg]; simp)] at hP
    rw [hg, Bool.false_and] at hB
    simp [hP, hB, List.take_of_length_le, s25_6, s25_10, ]
  have hg : comG k ⟨ts⟩ = true := by rw [hG]; simp [hd, hf]
  rw [if_pos hg] at hP
  rw [hg, Bool.true_and] at hB
  simp [hvw, s25_6, s25_10, ]
  refine call_f (w_spec_l32Head u hvz) (by simp) rfl fun hs4 hh4 => ?_
  simp at hh4
  simp [List.take_of_length_le, s25_6, s25_10, ]
  have hnm : [109] ++ decZ u = hdNm u := rfl
  refine call_p (w_spec_l32Without k (hdNm u) (by omega)) (by simp [hdNm, List.take_of_length_le]) fun hs5 hh5 hl5 => ?_
  simp at hh5
  have hwl := wout_len k (hdNm u)
  obtain ⟨x0, hx0⟩ : ∃ x, x = wout k (hdNm u) := ⟨_, rfl⟩
  rw [← hx0] at hP hwl ⊢
  simp [s25_6, s25_10, ]
  refine loop_rule (X := Nat) (fun i => i ≤ fs.length ∧ (i : Int) ≤ max n 0) (fun i => [(2, .d (.int .i64 n)), (6, .ptr 6 0 0), (9, .d (.pl (fs.map eFile))), (10, .ptr 10 0 0), (11, .d (.int .i64 i))]) (fun i => [(6, some (.box [.d (.sl none none [])])), (10, some (.box [.d (.pl ((wrAll x0 (fs.take i)).map eFile))]))]) (fun i => fs.length - i) 0 (by simp; omega) (by simp) (by simp [wrAll]) ?_
  intro i hs t m hi hh
  have hal := wrAll_len (fs.take i) x0
  rw [List.length_take] at hal
  by_cases hlt : i < fs.length ∧ (i : Int) < n
  · have hwi := wr1 (i := i) (by omega)
    have h1 := hlt.1
    have h2 := hlt.2
    have hstp := wrAll_step (k := x0) h1
    obtain ⟨fn, fd, hf'⟩ : ∃ fn fd, fs[i] = ⟨fn, fd⟩ := ⟨_, _, rfl⟩
    rw [hf'] at hstp
    obtain ⟨X, hX⟩ : ∃ X, X = wrAll x0 (fs.take i) := ⟨_, rfl⟩
    rw [← hX] at hstp hal ⊢
    simp [h1, h2, hf', s25_6, s25_10, ]
    refine call_p (w_spec_WriteFile X fn fd (by omega)) (by simp) fun hs6 hh6 hl6 => ?_
    simp at hh6
    simp [hwi, s25_6, s25_10, ]
    exact back (i + 1) (by omega) (by omega) rfl (by simp <;> omega) (by simp) (by simp [hstp])
  · have hend : fs.take i = fs.take n.toNat := by
      by_cases h : i < fs.length
      · have : i = n.toNat := by omega
        rw [this]
      · rw [List.take_of_length_le (by omega), List.take_of_length_le (by omega)]
    rw [hend, ← hP]
    by_cases h1 : i < fs.length
    · have h2 : ¬ (i : Int) < n := fun h => hlt ⟨h1, h⟩
      simp [h1, h2, hB, s25_6, s25_10, ]
    · simp [h1, hB, s25_6, s25_10, ]
end

end Go.Proofs.Ytepiehnhajnebaa


namespace Go.Proofs.Ytepiehnhajnebaa
open Go.Vs Go.Proofs Go
set_option maxRecDepth 100000
set_option maxHeartbeats 1000000

section
attribute [local simp] plI_id plStr_id map_plI map_plStr pS cP eDisk
theorem e_impl_copyDisk (k : List PFile) (hk : ∀ f ∈ k, fOk f) (hb : k.length ≤ 1000000000) : VC Try.prog 48 [.agg ((eDisk ⟨k⟩).map V.d)] (fun n v => ∃ y : Disk, v = .agg ((cDisk y).map V.d) ∧ plDisk y = ⟨k⟩ ∧ okDisk y ∧ Good (cDisk y) (whDisk y) n) := by
  refine VC.of E s48 (by kernel_rfl) Try.func48 (by rfl) (by kernel_rfl) (by simp [Try.f48]) (by simp [Try.f48]) s48_ok fun B => ?_
  have hL : LenOk 32 k.length := ⟨by omega, by simp only [maxLen]; omega⟩
  simp [Try.f48, hL]
  refine ⟨fun a _ => by simp [eFile, cStr], ?_⟩
  intro γ hs' h1 hg
  obtain ⟨q1, q2⟩ := gam_at hg (k := 3) (T := 34) (sz := 2) (es := (k).map eFile) (by simp [List.take_of_length_le, eFile, cStr])
  clear hg
  have hp := hp_files (k)
  simp [hp, List.take_of_length_le]
  exact ⟨dskT (γ 3) (34) (k), by simp [dskT_cells, List.take_of_length_le, eFile, cStr], by rw [pl_dskT], ok_dskT (hk) (by omega), good_dskT (fun g hg => (q1 g hg).1) q2⟩
theorem e_impl_removed (k : List PFile) (nm : List UInt8) (hk : ∀ f ∈ k, fOk f) (hb : k.length ≤ 1000000000) : VC Try.prog 49 [.agg ((eDisk ⟨k⟩).map V.d), .d (.str nm)] (fun n v => ∃ y : Disk, v = .agg ((cDisk y).map V.d) ∧ plDisk y = ⟨wout k nm⟩ ∧ okDisk y ∧ Good (cDisk y) (whDisk y) n) := by
  refine VC.of E s49 (by kernel_rfl) Try.func49 (by rfl) (by kernel_rfl) (by simp [Try.f49]) (by simp [Try.f49]) s49_ok fun B => ?_
  simp [Try.f49, ]
  refine loop_ruleL (X := Nat) (fun i _ => i ≤ k.length) (fun i => [(1, .d (.str nm)), (4, .ptr 4 0 0), (5, .ptr 5 0 0), (9, .d (.pl (k.map eFile))), (10, .d (.int .i64 k.length)), (11, .d (.int .i64 i))]) (fun i => [(4, some (.box [.d (.sl none none [])])), (5, some (.box [.own 900 0 (wout (k.take i) nm).length])), (900, some (.row 34 2 ((wout (k.take i) nm).map eFile)))]) (fun i => k.length - i) ?_ ?_
  · refine (lead_box 5 0 900 34 2 [.d (.sl none none [])] (by omega) (by omega) (by omega) (by simp) rfl).bind ?_
    rintro _ rfl
    exact Lead.of ⟨0, by omega, rfl, rfl, Nat.le_refl _, by simp, by simp [wout]⟩
  intro i hs t m hi hh
  by_cases hlt : i < k.length
  · have hwi := wr1 (i := i) (by omega)
    have hol := wout_len (k.take i) nm
    rw [List.length_take] at hol
    have hstp := wout_step (nm := nm) hlt
    obtain ⟨out, ho⟩ : ∃ out, out = wout (k.take i) nm := ⟨_, rfl⟩
    rw [← ho] at hstp hol ⊢
    have hL1 : LenOk 32 (out.length + 1) := ⟨by omega, by simp only [maxLen]; omega⟩
    obtain ⟨fn, fd, hf⟩ : ∃ fn fd, k[i] = ⟨fn, fd⟩ := ⟨_, _, rfl⟩
    rw [hf] at hstp
    simp only at hstp
    by_cases e : fn = nm
    · rw [if_pos e, List.append_nil] at hstp
      simp [hlt, hf, eFile, cStr, e, hwi, ]
      exact back2 (i + 1) (by omega) (by omega) rfl (by simp <;> omega) (by simp [eFile, cStr]) (by simp [hstp])
    · rw [if_neg e] at hstp
      simp [hlt, hf, eFile, cStr, e, hwi, hL1, List.take_of_length_le, ]
      exact back2 (i + 1) (by omega) (by omega) rfl (by simp <;> omega) (by simp [eFile, cStr]) (by simp [hstp, eFile, cStr, List.take_of_length_le])
  · have hn : i = k.length := by omega
    subst hn
    have hwl := wout_len k nm
    simp [hlt, List.take_of_length_le, ]
    intro γ hs' h1 hg
    obtain ⟨q1, q2⟩ := gam_at hg (k := 900) (T := 34) (sz := 2) (es := (wout k nm).map eFile) (by simp [List.take_of_length_le, eFile, cStr])
    clear hg
    have hp := hp_files (wout k nm)
    simp [hp, List.take_of_length_le]
    exact ⟨dskT (γ 900) (34) (wout k nm), by simp [dskT_cells, List.take_of_length_le, eFile, cStr], by rw [pl_dskT], ok_dskT (wout_ok hk) (by omega), good_dskT (fun g hg => (q1 g hg).1) q2⟩
theorem e_impl_WriteFile (k : List PFile) (nm data : List UInt8) (hk : ∀ f ∈ k, fOk f) (hn : fOk ⟨nm, data⟩) (hb : k.length ≤ 4294967296) : VC Try.prog 8 [.agg ((eDisk ⟨k⟩).map V.d), .d (.str nm), .d (.str data)] (fun n v => ∃ y : Disk, v = .agg ((cDisk y).map V.d) ∧ plDisk y = ⟨wrF k ⟨nm, data⟩⟩ ∧ okDisk y ∧ Good (cDisk y) (whDisk y) n) := by
  refine VC.of E s8 (by kernel_rfl) Try.func8 (by rfl) (by kernel_rfl) (by simp [Try.f8]) (by simp [Try.f8]) s8_ok fun B => ?_
  simp [Try.f8, ]
  refine loop_ruleL (X := Nat × Bool × List PFile) (fun p _ => WrI k ⟨nm, data⟩ p) (fun p => [(1, .d (.str nm)), (2, .d (.str data)), (6, .ptr 6 0 0), (7, .ptr 7 0 0), (8, .d (.bool p.2.1)), (12, .d (.pl (k.map eFile))), (13, .d (.int .i64 k.length)), (14, .d (.int .i64 p.1))]) (fun p => [(6, some (.box [.d (.sl none none [])])), (7, some (.box [.own 900 0 p.2.2.length])), (900, some (.row 34 2 (p.2.2.map eFile)))]) (fun p => k.length - p.1) ?_ ?_
  · refine (lead_box 7 0 900 34 2 [.d (.sl none none [])] (by omega) (by omega) (by omega) (by simp) rfl).bind ?_
    rintro _ rfl
    exact Lead.of ⟨(0, false, []), .zero, rfl, rfl, Nat.le_refl _, by simp, by simp⟩
  rintro ⟨i, b, out⟩ hs t m hI hh
  have hle := hI.le
  have hol := hI.len
  simp only at hle hol
  have hol2 : out.length ≤ i + 1 := by cases b <;> simp at hol <;> omega
  by_cases hlt : i < k.length
  · have hwi := wr1 (i := i) (by omega)
    have hstp := hI.step hlt
    have hL1 : LenOk 32 (out.length + 1) := ⟨by omega, by simp only [maxLen]; omega⟩
    have hL2 : LenOk 32 (out.length + 1 + 1) := ⟨by omega, by simp only [maxLen]; omega⟩
    obtain ⟨fn, fd, hf⟩ : ∃ fn fd, k[i] = ⟨fn, fd⟩ := ⟨_, _, rfl⟩
    rw [hf] at hstp
    simp only at hstp
    refine anyQ2 fun Q => ?_
    cases b <;> cases e : Op.bytesLess fn nm <;> by_cases e2 : fn = nm <;> (try rw [e2] at hf e hstp) <;> simp only [e, e2, if_true, if_false, Bool.not_true, Bool.not_false, Bool.and_true, Bool.and_false, Bool.true_and, Bool.false_and, Bool.or_true, Bool.or_false, Bool.true_or, Bool.false_or, List.nil_append, List.append_nil, reduceCtorEq, List.append_assoc, List.cons_append] at hstp
    all_goals
      simp [hlt, hf, eFile, cStr, e, e2, hwi, hL1, hL2, List.take_of_length_le, ]
      exact back2 (_, _, _) hstp (by simp only; omega) rfl (by simp <;> omega) (by simp [eFile, cStr]) (by simp [eFile, cStr, List.take_of_length_le])
  · have hd := hI.done (by omega)
    have hwl := wrF_len k ⟨nm, data⟩
    have hL1 : LenOk 32 (out.length + 1) := ⟨by omega, by simp only [maxLen]; omega⟩
    have hwok := wrF_ok hk hn
    cases b
    · simp only [Bool.false_eq_true, if_false] at hd
      simp [hlt, hL1, List.take_of_length_le, ]
      rw [hd] at hwl hwok ⊢
      intro γ hs' h1 hg
      obtain ⟨q1, q2⟩ := gam_at hg (k := 900) (T := 34) (sz := 2) (es := (out ++ [(⟨nm, data⟩ : PFile)]).map eFile) (by simp [List.take_of_length_le, eFile, cStr])
      clear hg
      have hp := hp_files (out ++ [(⟨nm, data⟩ : PFile)])
      replace hp := hp_files out
      simp [hp, List.take_of_length_le]
      exact ⟨dskT (γ 900) (34) (out ++ [(⟨nm, data⟩ : PFile)]), by simp [dskT_cells, List.take_of_length_le, eFile, cStr], by rw [pl_dskT], ok_dskT (hwok) (by omega), good_dskT (fun g hg => (q1 g hg).1) q2⟩
    · simp only [if_true, List.append_nil] at hd
      simp [hlt, List.take_of_length_le, ]
      rw [hd] at hwl hwok ⊢
      intro γ hs' h1 hg
      obtain ⟨q1, q2⟩ := gam_at hg (k := 900) (T := 34) (sz := 2) (es := (out).map eFile) (by simp [List.take_of_length_le, eFile, cStr])
      clear hg
      have hp := hp_files (out)
      simp [hp, List.take_of_length_le]
      exact ⟨dskT (γ 900) (34) (out), by simp [dskT_cells, List.take_of_length_le, eFile, cStr], by rw [pl_dskT], ok_dskT (hwok) (by omega), good_dskT (fun g hg => (q1 g hg).1) q2⟩
end

end Go.Proofs.Ytepiehnhajnebaa


namespace Go.Proofs.Ytepiehnhajnebaa
open Go.Vs Go.Proofs Go
set_option maxRecDepth 100000
set_option maxHeartbeats 1000000

section
attribute [local simp] plI_id plStr_id map_plI map_plStr pS cP eDisk
theorem e_impl_readVersion (k : List PFile) (v : Int) (hk : ∀ f ∈ k, f.data.length ≤ 1000000000) (hv : inZ v) : VC Try.prog 44 [.agg ((eDisk ⟨k⟩).map V.d), .d (.int .i64 v)]
   (fun n r => ∃ y : Db, r = .tup [.agg ((cDb y).map V.d), .d (.bool (loadI k v).isSome)] ∧ (∀ d, loadI k v = some d → plDb y = d) ∧ okDb y ∧ Good (cDb y) (whDb y) n) := by
  refine VC.of E s44 (by kernel_rfl) Try.func44 (by rfl) (by kernel_rfl) (by simp [Try.f44]) (by simp [Try.f44]) s44_ok fun B => ?_
  have hrd : ∀ nm, (rdD k nm).length ≤ 1000000000 := fun nm => rdD_len hk
  have hdl := decZ_len hv
  have hdef : loadI k v = if rdB k (hdNm v) then match tabsM (tabO k v) (lns (rdD k (hdNm v))) with
    | none => none
    | some ts => if verB ⟨ts⟩ v && (verFs ⟨ts⟩ v).all (fileOk k) then some ⟨ts⟩ else none
  else none := rfl
  have fail : loadI k v = none → ∃ y : Db, V.tup [V.agg [V.d (D.sl none none [])], V.d (D.bool false)] = .tup [.agg ((cDb y).map V.d), .d (.bool (loadI k v).isSome)] ∧ (∀ d, loadI k v = some d → plDb y = d) ∧ okDb y ∧ Good (cDb y) (whDb y) B := fun hn =>
    ⟨⟨nilS⟩, by simp [hn, cDb, cS, dSl, nilS], fun d h => by rw [hn] at h; simp at h, ok_nilS, good_nilS B⟩
  simp [Try.f44, ]
  refine call_f (w_impl_FormatInt v hv) (by simp) rfl fun hs1 hh1 => ?_
  simp at hh1
  simp []
  refine ⟨by omega, ?_⟩
  refine call_f (w_impl_ReadFile k (hdNm v)) (by simp [hdNm]) rfl fun hs2 hh2 => ?_
  simp at hh2
  obtain ⟨H, hH⟩ : ∃ H, H = rdD k (hdNm v) := ⟨_, rfl⟩
  have hHl : H.length ≤ 1000000000 := by rw [hH]; exact hrd _
  rw [← hH] at hdef ⊢
  cases his : rdB k (hdNm v)
  · have hn : loadI k v = none := by rw [hdef, his]; rfl
    simp []
    simpa using fail hn
  rw [his, if_pos rfl] at hdef
  simp []
  refine call_p (w_impl_split H 10 hHl) (by simp) fun hs3 hh3 hl3 => ?_
  simp at hh3
  have hcl := cutB_len 10 H
  have hcm : ∀ x ∈ cutB 10 H, x.length ≤ H.length := fun x hx => cutB_mem hx
  have hll := lns_len H
  have hLt : lns H = (cutB 10 H).take ((cutB 10 H).length - 1) := by rw [lns, List.dropLast_eq_take]
  have hLm : ∀ x ∈ lns H, x.length ≤ H.length := fun x hx => hcm x (List.dropLast_subset _ hx)
  obtain ⟨l, hl⟩ : ∃ l, l = cutB 10 H := ⟨_, rfl⟩
  obtain ⟨L, hL⟩ : ∃ L, L = lns H := ⟨_, rfl⟩
  simp only [← hl, ← hL] at hcl hcm hll hLt hLm hdef ⊢
  have hwl : IntKind.i64.wrap ((l.length : Int) - 1) = ((l.length - 1 : Nat) : Int) := by rw [wrap64_of (by omega) (by omega)]; omega
  have hcut : List.take (l.length - 1) (List.map cStr l) = List.map cStr L := by rw [hLt, List.map_take]
  have hLn : l.length - 1 = L.length := by omega
  have hmm : min L.length l.length = L.length := by omega
  simp [hwl, hcut, hLn, hmm, ]
  refine ⟨by omega, ?_⟩
  rw [← hLn, hcut, hLn]
  refine loop_ruleL (X := Nat × List Tab) (fun p h => TbI (tabO k v) L p.1 (p.2.map plTab) ∧ (∀ t ∈ p.2, okTab t) ∧ GoodL cTab whTab B h p.2) (fun p => [(1, .d (.int .i64 v)), (2, .ptr 2 0 0), (4, .ptr 4 0 0), (6, .d (.str (decZ v))), (9, .ptr 9 0 0), (41, .d (.pl (L.map cStr))), (42, .d (.int .i64 L.length)), (43, .d (.int .i64 p.1))]) (fun p => [(2, some (.box [.d (.pl (k.map eFile))])), (4, some (.box [.d (.sl none none [])])), (9, some (.box [.own 900 0 p.2.length])), (900, some (.row 68 3 (p.2.map cTab)))]) (fun p => L.length - p.1) ?_ ?_
  · refine (lead_box 9 0 900 68 3 [.d (.sl none none [])] (by omega) (by omega) (by omega) (by simp) rfl).bind ?_
    rintro _ rfl
    exact Lead.of ⟨(0, []), ⟨.zero, by simp, .nil⟩, rfl, rfl, Nat.le_refl _, by simp, by simp⟩
  rintro ⟨i, ys⟩ hs t m ⟨hI, hok, hgd⟩ hh
  have hle := hI.le
  have hal := hI.len
  simp only [List.length_map] at hle hal hok hgd
  have hwi := wr1 (i := i) (by omega)
  by_cases hlt : i < L.length
  · have hxl := hLm _ (List.getElem_mem hlt)
    have hstp := fun t e => hI.step hlt (t := t) e
    have hbad := hI.bad hlt
    obtain ⟨x, hx⟩ : ∃ x, x = L[i] := ⟨_, rfl⟩
    rw [← hx] at hxl hstp hbad
    have hnone : tabO k v x = none → loadI k v = none := fun h => by rw [hdef, hbad h]
    simp [hlt, ← hx, cStr, ]
    refine call_p (w_impl_split x 61 (by omega)) (by simp) fun hs4 hh4 hl4 => ?_
    simp at hh4
    have hwp := cutB_pos 61 x
    have hwm : ∀ y ∈ cutB 61 x, y.length ≤ x.length := fun y hy => cutB_mem hy
    have hlm : lnNm x = (cutB 61 x)[0] := getD_el _ hwp
    have hw0l := hwm _ (List.getElem_mem hwp)
    rw [← hlm] at hw0l
    obtain ⟨ws, hws⟩ : ∃ ws, ws = cutB 61 x := ⟨_, rfl⟩
    simp only [← hws] at hwp hlm ⊢
    have htO : tabO k v x = if rdB k (runNm v (lnNm x)) && prsB (rdD k (runNm v (lnNm x))) then some ⟨lnNm x, prsR (rdD k (runNm v (lnNm x)))⟩ else none := rfl
    simp [hwp, cStr, ← hlm, ]
    refine ⟨by omega, by omega, by omega, ?_⟩
    refine call_f (w_impl_ReadFile k (runNm v (lnNm x))) (by simp [runNm]) rfl fun hs6 hh6 => ?_
    simp at hh6
    have hsl := hrd (runNm v (lnNm x))
    obtain ⟨s, hs_⟩ : ∃ s, s = rdD k (runNm v (lnNm x)) := ⟨_, rfl⟩
    obtain ⟨fb, hfb⟩ : ∃ b, b = rdB k (runNm v (lnNm x)) := ⟨_, rfl⟩
    rw [← hs_] at hsl htO ⊢
    rw [← hfb] at htO ⊢
    simp []
    refine call_some (e_impl_ParseRelation s hsl) (by simp) (by simp) fun n7 hs7 r7 hn7 hm7 hp7 hr7 => ?_
    obtain ⟨r, rfl, pr, kr, Gr⟩ := hp7
    simp at hn7
    cases g2 : fb
    · have hn := hnone (by rw [htO]; simp [g2])
      simp [cReln, cI, cS, dSl, ]
      simpa using fail hn
    cases g3 : prsB s
    · have hn := hnone (by rw [htO]; simp [g3])
      simp [cReln, cI, cS, dSl, ]
      simpa using fail hn
    have hnx := hstp ⟨lnNm x, prsR s⟩ (by rw [htO]; simp [g2, g3])
    have hL1 : LenOk 48 (ys.length + 1) := ⟨by omega, by simp only [maxLen]; omega⟩
    have u1 : ∀ g ∈ idsL (cTab ⟨lnNm x, r⟩), g < hs7 := fun g hg => hr7 g (by
      simp only [V.ids, idsVL, ids_agg, List.mem_append]
      left
      rw [cTab, idsL_app] at hg
      exact (List.mem_append.1 hg).resolve_left (by simp [cStr, idsL, D.ids]))
    rw [hal] at hL1
    simp [cReln, cI, cS, dSl, hL1, hal, hwi, ]
    refine back2 (i + 1, ys ++ [⟨lnNm x, r⟩]) ⟨?_, fun t ht => ?_, GoodL.snoc hgd (by omega) hm7 (good_Tab Gr) u1⟩ (by simp only; omega) rfl (by simp <;> omega) (by simp [cStr]) (by simp [hal, cTab, cStr, cReln, cI, cS, dSl])
    · simp only [List.map_append, List.map_cons, List.map_nil]
      have : plTab (⟨lnNm x, r⟩ : Tab) = ⟨lnNm x, prsR s⟩ := by rw [← pr]; simp [plTab]
      rw [this]; exact hnx
    · rcases List.mem_append.1 ht with ht | ht
      · exact hok t ht
      · rw [List.mem_singleton.1 ht]
        exact ⟨by simp only [okStr, maxLen]; omega, kr⟩
  have hd := hI.done (by omega)
  simp only at hd
  rw [hd] at hdef
  simp only at hdef
  have hpT : hpLL (ys.map cTab) = false := hpLL_map (fun a => by simp) ys
  have hyl : ys.length ≤ 1000000001 := by omega
  have hVF := fun (g : Option Nat) => t_impl_VersionFiles ⟨⟨g, some (68, 3), ys⟩⟩ v ⟨by simp only [maxLen]; omega, hok⟩
  have hpl : ∀ g, plDb ⟨⟨g, some (68, 3), ys⟩⟩ = ⟨ys.map plTab⟩ := fun g => rfl
  simp only [hpl] at hVF
  have hvl := verFs_len ⟨ys.map plTab⟩ v
  have hvp : verFs ⟨ys.map plTab⟩ v ≠ [] ↔ verB ⟨ys.map plTab⟩ v = true := by
    constructor
    · intro h
      unfold verFs at h
      split at h
      · assumption
      · exact absurd rfl h
    · intro h; rw [verFs_eq h]; simp
  simp [hlt, ]
  refine call_own (by simp) (fun γ n hn hg => ⟨[.agg [.d (.sl (γ 900) (some (68, 3)) (ys.map cTab))], .d (.int .i64 v)], by simp [hal, hpT, List.take_of_length_le], by simpa [cDb, cS, dSl] using hVF (γ 900)⟩) (fun n r hp => by
    obtain ⟨y, rfl, _, _, G⟩ := hp
    exact ⟨fun i hi => G.lo i (by simp only [idsL, List.append_nil]; exact hi), by simp [V.hp]⟩) fun n8 hs8 r8 hn8 hm8 hp8 hr8 => ?_
  obtain ⟨⟨yid, yT, yf⟩, rfl, py, ky, Gy⟩ := hp8
  simp at hn8
  clear hr8 Gy
  obtain ⟨fs, hfs⟩ : ∃ fs, fs = verFs ⟨ys.map plTab⟩ v := ⟨_, rfl⟩
  rw [← hfs] at py hvl hvp hdef
  have hyf : yf.map plFile = fs := py
  have hfl : yf.length = fs.length := by rw [← hyf]; simp
  simp [dSl, ]
  have hgd2 := hgd.le (h' := hs8) (by omega)
  refine loop_rule (X := Nat) (fun j => AllTo (fileOk k) fs j) (fun j => [(2, .ptr 2 0 0), (4, .ptr 4 0 0), (9, .ptr 9 0 0), (18, .d (.sl yid yT (yf.map cFile))), (85, .d (.sl yid yT (yf.map cFile))), (86, .d (.int .i64 yf.length)), (87, .d (.int .i64 j))]) (fun j => [(2, some (.box [.d (.pl (k.map eFile))])), (4, some (.box [.d (.sl none none [])])), (9, some (.box [.own 900 0 ys.length])), (900, some (.row 68 3 (ys.map cTab)))]) (fun j => fs.length - j) 0 allTo_zero (by simp) (by simp [hal]) ?_
  intro j hs9 t9 m9 hJ hh9
  by_cases hjl : j < fs.length
  · have hwj := wr1 (i := j) (by omega)
    have hjy : j < yf.length := by omega
    have hfj : fs[j] = plFile yf[j] := by simp [← hyf]
    have hst := fun h => allTo_step hJ hjl h
    have hbd := fun h => all_bad (p := fileOk k) (l := fs) (i := j) hjl h
    rw [hfj] at hst hbd
    obtain ⟨⟨fn, fd⟩, hf⟩ : ∃ f, f = yf[j] := ⟨_, rfl⟩
    rw [← hf] at hst hbd
    have hfo : fileOk k (plFile ⟨fn, fd⟩) = (rdB k fn && decide (rdD k fn = fd)) := rfl
    rw [hfo] at hst hbd
    have hnone : fs.all (fileOk k) = false → loadI k v = none := fun h => by rw [hdef, h]; simp
    simp [hjl, hjy, hfl, ← hf, cFile, cStr, ]
    refine call_f (w_impl_ReadFile k fn) (by simp) rfl fun hs10 hh10 => ?_
    simp at hh10
    cases g1 : rdB k fn
    · have hn := hnone (hbd (by rw [g1]; rfl))
      simp []
      simpa using fail hn
    by_cases g2 : rdD k fn = fd
    · simp [g2, hwj, ]
      exact back (j + 1) (hst (by rw [g1, g2]; simp)) (by omega) rfl (by simp <;> omega) (by simp [hfl, cFile, cStr]) (by simp [hal])
    · have hn := hnone (hbd (by rw [g1]; simpa using g2))
      simp [g2, ]
      simpa using fail hn
  · have hall := allTo_done hJ (by omega)
    rw [hall, Bool.and_true] at hdef
    have hres : (loadI k v).isSome = decide (0 < fs.length) ∧ ∀ d, loadI k v = some d → (⟨ys.map plTab⟩ : PDb) = d := by
      rw [hdef]
      by_cases hb : verB ⟨ys.map plTab⟩ v = true
      · have := List.length_pos_iff.2 (hvp.2 hb)
        rw [if_pos hb]
        exact ⟨by simp [this], fun d h => by simpa using h⟩
      · rw [if_neg hb]
        have h0 : fs = [] := Classical.byContradiction fun h => hb (hvp.1 h)
        exact ⟨by simp [h0], fun d h => by simp at h⟩
    simp [hjl, hfl, ]
    intro γ hs' h1 hg
    obtain ⟨q1, q2⟩ := gam_at hg (k := 900) (T := 68) (sz := 3) (es := ys.map cTab) (by simp)
    have q3 := gam_row hg (k := 900) (T := 68) (sz := 3) (es := ys.map cTab) (by simp)
    clear hg
    simp [hal, hpT, List.take_of_length_le]
    exact ⟨⟨⟨γ 900, some (68, 3), ys⟩⟩, by simp [cDb, cS, dSl, hres.1, List.take_of_length_le], hres.2, ⟨by simp only [maxLen]; show ys.length ≤ _; omega, hok⟩, good_row (fun g hg => (q1 g hg).1) (by simpa using q2) q3 ⟨hgd2.nd, hgd2.lo⟩ hgd2.wh⟩
theorem e_impl_RecoverDatabase (k : List PFile) (hk : ∀ f ∈ k, f.data.length ≤ 1000000000) : VC Try.prog 20 [.agg ((eDisk ⟨k⟩).map V.d)]
   (fun n r => ∃ y : Db, r = .tup [.agg ((cDb y).map V.d), .d (.int .i64 (newV k)), .d (.bool (recB k))] ∧ plDb y = recP k ∧ okDb y ∧ Good (cDb y) (whDb y) n) := by
  refine VC.of E s20 (by kernel_rfl) Try.func20 (by rfl) (by kernel_rfl) (by simp [Try.f20]) (by simp [Try.f20]) s20_ok fun B => ?_
  simp [Try.f20, ]
  refine loop_rule (X := Nat) (fun v => NewI k v) (fun v => [(1, .ptr 1 0 0), (2, .ptr 2 0 0), (5, .d (.int .i64 v))]) (fun v => [(1, some (.box [.d (.pl (k.map eFile))])), (2, some (.box [.d (.sl none none [])]))]) (fun v => v) 99 .top (by simp) (by simp) ?_
  intro v hs t m hI hh
  have hle := hI.le
  cases v with
  | zero =>
    have h := hI.zero
    simp [h.1, h.2.2, ]
    exact ⟨⟨nilS⟩, by simp [cDb, cS, dSl, nilS], by rw [h.2.1]; simp [plDb, nilS, plS], ok_nilS, good_nilS B⟩
  | succ v =>
  have hvz : inZ ((v + 1 : Nat) : Int) := by simp only [inZ]; omega
  obtain ⟨u, hu⟩ : ∃ u : Nat, u = v + 1 := ⟨_, rfl⟩
  have hup : 0 < u := by omega
  have hwm : IntKind.i64.wrap ((u : Int) - 1) = v := by rw [wrap64_of (by omega) (by omega)]; omega
  have hdn := hI.down
  have hht := fun d => hI.hit (d := d)
  rw [← hu] at hvz hdn hht ⊢
  clear hI
  simp [hup, ]
  refine call_some (e_impl_readVersion k u hk hvz) (by simp) (by simp) fun n1 hs1 r1 hn1 hm1 hp1 hr1 => ?_
  obtain ⟨y, rfl, p1, k1, G1⟩ := hp1
  simp at hn1
  rw [load_eq] at p1
  rw [load_eq]
  cases hl : loadS k u with
  | none =>
    have hn := hdn hl
    simp [cDb, cS, dSl, hwm, ]
    exact back v hn (by omega) rfl (by simp <;> omega) (by simp) (by simp)
  | some d =>
    have hn := hht d hl
    simp [cDb, cS, dSl, ]
    exact ⟨y, by simp [cDb, cS, dSl, hn.1, hn.2.2], by rw [hn.2.1]; exact p1 d hl, k1, G1.le (by omega)⟩
theorem w_impl_NewestVersion (k : List PFile) (hk : ∀ f ∈ k, f.data.length ≤ 1000000000) : VC Try.prog 26 [.agg ((eDisk ⟨k⟩).map V.d)] (fun _ r => r = .d (.int .i64 (newV k))) := by
  refine VC.of E s26 (by kernel_rfl) Try.func26 (by rfl) (by kernel_rfl) (by simp [Try.f26]) (by simp [Try.f26]) s26_ok fun B => ?_
  simp [Try.f26, ]
  refine call_some (e_impl_RecoverDatabase k hk) (by simp) (by simp) fun n1 hs1 r1 hn1 hm1 hp1 hr1 => ?_
  obtain ⟨y, rfl, p1, k1, G1⟩ := hp1
  simp [cDb, cS, dSl, ]
end

end Go.Proofs.Ytepiehnhajnebaa

