/-
  D2B1: a part of a proof of this seat: the value-level semantics of Go code without maps, its walk rules, the frame of a row, facts of types, schedules, walks, plain lemmas (Facts1 Sched1 H0 HP1 HP2 H1 HP3 P1 P1b P1c P1d F1 F2 G1 Q1 V1 V2 G2 V3 G3 P2 N1 N2 S3 N3 M1 G4 V4 G5 G7 P5 P5b M2 M3 M4 M5 G8). It holds of every program and state that its hypotheses name.
-/
import Derived.Test.YteoeondjpgpiaaaA4
import Derived.Test.YteoeondjpgpiaaaProg
import Derived.KernelRfl
set_option linter.unusedSimpArgs false
set_option linter.unusedVariables false
set_option linter.unnecessarySimpa false
namespace Go.Proofs.Yteoeondjpgpiaaa
open Go.Vs Go.Proofs

theorem tsz3 : tsz Try.prog 3 = some 1 := by kernel_rfl
theorem tsz9 : tsz Try.prog 9 = some 1 := by kernel_rfl
theorem tsz22 : tsz Try.prog 22 = some 1 := by kernel_rfl
theorem tsz24 : tsz Try.prog 24 = some 1 := by kernel_rfl
theorem tsz25 : tsz Try.prog 25 = some 1 := by kernel_rfl
theorem tsz27 : tsz Try.prog 27 = some 1 := by kernel_rfl
theorem tsz30 : tsz Try.prog 30 = some 1 := by kernel_rfl
theorem tsz32 : tsz Try.prog 32 = some 1 := by kernel_rfl
theorem tsz36 : tsz Try.prog 36 = some 1 := by kernel_rfl
theorem tsz38 : tsz Try.prog 38 = some 1 := by kernel_rfl
theorem tsz54 : tsz Try.prog 54 = some 2 := by kernel_rfl
theorem tsz63 : tsz Try.prog 63 = some 2 := by kernel_rfl
theorem tsz65 : tsz Try.prog 65 = some 1 := by kernel_rfl
theorem tsz67 : tsz Try.prog 67 = some 2 := by kernel_rfl
theorem tsz69 : tsz Try.prog 69 = some 3 := by kernel_rfl
theorem tsz77 : tsz Try.prog 77 = some 2 := by kernel_rfl
theorem tsz79 : tsz Try.prog 79 = some 3 := by kernel_rfl
theorem tsz98 : tsz Try.prog 98 = some 1 := by kernel_rfl
theorem tagg3 : tagg Try.prog 3 = some false := by kernel_rfl
theorem tagg9 : tagg Try.prog 9 = some false := by kernel_rfl
theorem tagg22 : tagg Try.prog 22 = some false := by kernel_rfl
theorem tagg24 : tagg Try.prog 24 = some true := by kernel_rfl
theorem tagg25 : tagg Try.prog 25 = some false := by kernel_rfl
theorem tagg27 : tagg Try.prog 27 = some true := by kernel_rfl
theorem tagg30 : tagg Try.prog 30 = some false := by kernel_rfl
theorem tagg32 : tagg Try.prog 32 = some true := by kernel_rfl
theorem tagg36 : tagg Try.prog 36 = some false := by kernel_rfl
theorem tagg38 : tagg Try.prog 38 = some true := by kernel_rfl
theorem tagg54 : tagg Try.prog 54 = some true := by kernel_rfl
theorem tagg63 : tagg Try.prog 63 = some true := by kernel_rfl
theorem tagg65 : tagg Try.prog 65 = some false := by kernel_rfl
theorem tagg67 : tagg Try.prog 67 = some true := by kernel_rfl
theorem tagg69 : tagg Try.prog 69 = some true := by kernel_rfl
theorem tagg77 : tagg Try.prog 77 = some true := by kernel_rfl
theorem tagg79 : tagg Try.prog 79 = some true := by kernel_rfl
theorem tagg98 : tagg Try.prog 98 = some false := by kernel_rfl
theorem tzero3 : tzero Try.prog 3 = some [.int .i64 0] := by kernel_rfl
theorem tzero32 : tzero Try.prog 32 = some [.sl none none []] := by kernel_rfl
theorem tzero38 : tzero Try.prog 38 = some [.sl none none []] := by kernel_rfl
theorem tzero54 : tzero Try.prog 54 = some [.str [], .str []] := by kernel_rfl
theorem tzero77 : tzero Try.prog 77 = some [.int .i64 0, .sl none none []] := by kernel_rfl
theorem tzero79 : tzero Try.prog 79 = some [.str [], .int .i64 0, .sl none none []] := by kernel_rfl
theorem tzero98 : tzero Try.prog 98 = some [.sl none none []] := by kernel_rfl
theorem tslice22 : tslice Try.prog 22 = some (63, 2, 32) := by kernel_rfl
theorem telem22 : telem Try.prog 22 = some 63 := by kernel_rfl
theorem tslice25 : tslice Try.prog 25 = some (69, 3, 48) := by kernel_rfl
theorem telem25 : telem Try.prog 25 = some 69 := by kernel_rfl
theorem tslice30 : tslice Try.prog 30 = some (54, 2, 32) := by kernel_rfl
theorem telem30 : telem Try.prog 30 = some 54 := by kernel_rfl
theorem tslice36 : tslice Try.prog 36 = some (79, 3, 48) := by kernel_rfl
theorem telem36 : telem Try.prog 36 = some 79 := by kernel_rfl
theorem tslice65 : tslice Try.prog 65 = some (98, 1, 24) := by kernel_rfl
theorem telem65 : telem Try.prog 65 = some 98 := by kernel_rfl
theorem tslice86 : tslice Try.prog 86 = some (5, 1, 1) := by kernel_rfl
theorem telem86 : telem Try.prog 86 = some 5 := by kernel_rfl
theorem tslice91 : tslice Try.prog 91 = some (9, 1, 16) := by kernel_rfl
theorem telem91 : telem Try.prog 91 = some 9 := by kernel_rfl
theorem tslice98 : tslice Try.prog 98 = some (3, 1, 8) := by kernel_rfl
theorem telem98 : telem Try.prog 98 = some 3 := by kernel_rfl
theorem tstr9 : tstr Try.prog 9 = some true := by kernel_rfl
theorem tstr22 : tstr Try.prog 22 = some false := by kernel_rfl
theorem tstr25 : tstr Try.prog 25 = some false := by kernel_rfl
theorem tstr30 : tstr Try.prog 30 = some false := by kernel_rfl
theorem tstr36 : tstr Try.prog 36 = some false := by kernel_rfl
theorem tstr65 : tstr Try.prog 65 = some false := by kernel_rfl
theorem tstr91 : tstr Try.prog 91 = some false := by kernel_rfl
theorem tstr98 : tstr Try.prog 98 = some false := by kernel_rfl
theorem tfld32 : tfld Try.prog 32 = true := by kernel_rfl
theorem tfld38 : tfld Try.prog 38 = true := by kernel_rfl
theorem tfld54 : tfld Try.prog 54 = true := by kernel_rfl
theorem tfld77 : tfld Try.prog 77 = true := by kernel_rfl
theorem tfld79 : tfld Try.prog 79 = true := by kernel_rfl
theorem foff24_0 : foff Try.prog 24 0 = some (0, 1) := by kernel_rfl
theorem foff27_0 : foff Try.prog 27 0 = some (0, 1) := by kernel_rfl
theorem foff32_0 : foff Try.prog 32 0 = some (0, 1) := by kernel_rfl
theorem foff38_0 : foff Try.prog 38 0 = some (0, 1) := by kernel_rfl
theorem foff54_0 : foff Try.prog 54 0 = some (0, 1) := by kernel_rfl
theorem foff54_1 : foff Try.prog 54 1 = some (1, 1) := by kernel_rfl
theorem foff63_0 : foff Try.prog 63 0 = some (0, 1) := by kernel_rfl
theorem foff63_1 : foff Try.prog 63 1 = some (1, 1) := by kernel_rfl
theorem foff67_0 : foff Try.prog 67 0 = some (0, 1) := by kernel_rfl
theorem foff67_1 : foff Try.prog 67 1 = some (1, 1) := by kernel_rfl
theorem foff69_0 : foff Try.prog 69 0 = some (0, 1) := by kernel_rfl
theorem foff69_1 : foff Try.prog 69 1 = some (1, 2) := by kernel_rfl
theorem foff77_0 : foff Try.prog 77 0 = some (0, 1) := by kernel_rfl
theorem foff77_1 : foff Try.prog 77 1 = some (1, 1) := by kernel_rfl
theorem foff79_0 : foff Try.prog 79 0 = some (0, 1) := by kernel_rfl
theorem foff79_1 : foff Try.prog 79 1 = some (1, 2) := by kernel_rfl
attribute [simp] tsz3 tsz9 tsz22 tsz24 tsz25 tsz27 tsz30 tsz32 tsz36 tsz38 tsz54 tsz63 tsz65 tsz67 tsz69 tsz77 tsz79 tsz98 tagg3 tagg9 tagg22 tagg24 tagg25 tagg27 tagg30 tagg32 tagg36 tagg38 tagg54 tagg63 tagg65 tagg67 tagg69 tagg77 tagg79 tagg98 tzero3 tzero32 tzero38 tzero54 tzero77 tzero79 tzero98 tslice22 telem22 tslice25 telem25 tslice30 telem30 tslice36 telem36 tslice65 telem65 tslice86 telem86 tslice91 telem91 tslice98 telem98 tstr9 tstr22 tstr25 tstr30 tstr36 tstr65 tstr91 tstr98 tfld32 tfld38 tfld54 tfld77 tfld79 foff24_0 foff27_0 foff32_0 foff38_0 foff54_0 foff54_1 foff63_0 foff63_1 foff67_0 foff67_1 foff69_0 foff69_1 foff77_0 foff77_1 foff79_0 foff79_1
end Go.Proofs.Yteoeondjpgpiaaa

namespace Go.Proofs.Yteoeondjpgpiaaa
open Go.Vs Go.Proofs Go

/-- the functions that write what they are handed -/
def E : Md := ⟨fun f => [12, 13, 34, 35, 57, 71].contains f, false⟩
/-- as E; slices are known by elements only -/
def EP : Md := ⟨E.e, true⟩
@[simp] theorem E_p : E.p = false := Eq.trans rfl rfl
@[simp] theorem EP_p : EP.p = true := Eq.trans rfl rfl

theorem E12 : E 12 = true := rfl
theorem EP12 : EP 12 = true := rfl
theorem E13 : E 13 = true := rfl
theorem EP13 : EP 13 = true := rfl
theorem E34 : E 34 = true := rfl
theorem EP34 : EP 34 = true := rfl
theorem E35 : E 35 = true := rfl
theorem EP35 : EP 35 = true := rfl
theorem E57 : E 57 = true := rfl
theorem EP57 : EP 57 = true := rfl
theorem E71 : E 71 = true := rfl
theorem EP71 : EP 71 = true := rfl
/-- the orders of laws.FnExactCommitDatabase -/
def s3 (i : Nat) : Tr := if i = 8 then .seq [0, 2, 4] (.both (.seq [1] (.both (.seq [3] (.both (.seq [5, 6, 7, 8, 9, 10, 11] .nil) (.seq [9, 5, 6, 7, 8, 10, 11] .nil))) (.seq [9, 3, 5, 6, 7, 8, 10, 11] .nil))) (.seq [9, 1, 3, 5, 6, 7, 8, 10, 11] .nil)) else if i = 14 then .seq [0, 1, 2, 3, 4] .nil else if i = 16 then .seq [0, 1, 2, 3, 4] .nil else if i = 31 then .seq [0, 2, 4] (.both (.seq [1] (.both (.seq [3] (.both (.seq [5, 6, 7, 8, 9, 10, 11] .nil) (.seq [9, 5, 6, 7, 8, 10, 11] .nil))) (.seq [9, 3, 5, 6, 7, 8, 10, 11] .nil))) (.seq [9, 1, 3, 5, 6, 7, 8, 10, 11] .nil)) else .nil
theorem s3_8 : s3 8 = .seq [0, 2, 4] (.both (.seq [1] (.both (.seq [3] (.both (.seq [5, 6, 7, 8, 9, 10, 11] .nil) (.seq [9, 5, 6, 7, 8, 10, 11] .nil))) (.seq [9, 3, 5, 6, 7, 8, 10, 11] .nil))) (.seq [9, 1, 3, 5, 6, 7, 8, 10, 11] .nil)) := rfl
theorem s3_14 : s3 14 = .seq [0, 1, 2, 3, 4] .nil := rfl
theorem s3_16 : s3 16 = .seq [0, 1, 2, 3, 4] .nil := rfl
theorem s3_31 : s3 31 = .seq [0, 2, 4] (.both (.seq [1] (.both (.seq [3] (.both (.seq [5, 6, 7, 8, 9, 10, 11] .nil) (.seq [9, 5, 6, 7, 8, 10, 11] .nil))) (.seq [9, 3, 5, 6, 7, 8, 10, 11] .nil))) (.seq [9, 1, 3, 5, 6, 7, 8, 10, 11] .nil)) := rfl
theorem s3_ok : okCode E 124 s3 (Try.f3.body.getD .skip) = true := by kernel_rfl
/-- the orders of laws.szDisk -/
def s4 (_ : Nat) : Tr := .nil
theorem s4_ok : okCode E 12 s4 (Try.f4.body.getD .skip) = true := by kernel_rfl
/-- the orders of laws.szDatabase -/
def s5 (_ : Nat) : Tr := .nil
theorem s5_ok : okCode E 12 s5 (Try.f5.body.getD .skip) = true := by kernel_rfl
/-- the orders of spec.CommitDatabase -/
def s6 (i : Nat) : Tr := if i = 6 then .seq [0, 1, 2, 3, 4, 5] .nil else if i = 10 then .seq [0, 1, 2, 3, 4, 5, 6, 7, 8, 9, 10, 11, 12] .nil else .nil
theorem s6_6 : s6 6 = .seq [0, 1, 2, 3, 4, 5] .nil := rfl
theorem s6_10 : s6 10 = .seq [0, 1, 2, 3, 4, 5, 6, 7, 8, 9, 10, 11, 12] .nil := rfl
theorem s6_ok : okCode E 65 s6 (Try.f6.body.getD .skip) = true := by kernel_rfl
/-- the orders of laws.toDisk -/
def s7 (_ : Nat) : Tr := .nil
theorem s7_ok : okCode E 9 s7 (Try.f7.body.getD .skip) = true := by kernel_rfl
/-- the orders of laws.toDatabase -/
def s8 (_ : Nat) : Tr := .nil
theorem s8_ok : okCode E 9 s8 (Try.f8.body.getD .skip) = true := by kernel_rfl
/-- the orders of impl.CommitDatabase -/
def s9 (i : Nat) : Tr := if i = 5 then .seq [0, 1] (.both (.seq [2, 3] (.both (.seq [4, 5, 6] .nil) (.seq [5, 4, 6] .nil))) (.seq [5, 2, 3, 4, 6] .nil)) else .nil
theorem s9_5 : s9 5 = .seq [0, 1] (.both (.seq [2, 3] (.both (.seq [4, 5, 6] .nil) (.seq [5, 4, 6] .nil))) (.seq [5, 2, 3, 4, 6] .nil)) := rfl
theorem s9_ok : okCode E 56 s9 (Try.f9.body.getD .skip) = true := by kernel_rfl
/-- the orders of laws.eqDisk -/
def s10 (_ : Nat) : Tr := .nil
theorem s10_ok : okCode E 11 s10 (Try.f10.body.getD .skip) = true := by kernel_rfl
/-- the orders of laws.eqDatabase -/
def s11 (_ : Nat) : Tr := .nil
theorem s11_ok : okCode E 11 s11 (Try.f11.body.getD .skip) = true := by kernel_rfl
/-- the orders of laws.markDisk -/
def s12 (_ : Nat) : Tr := .nil
theorem s12_ok : okCode E 10 s12 (Try.f12.body.getD .skip) = true := by kernel_rfl
/-- the orders of laws.markDatabase -/
def s13 (_ : Nat) : Tr := .nil
theorem s13_ok : okCode E 10 s13 (Try.f13.body.getD .skip) = true := by kernel_rfl
/-- the orders of laws.heldDisk -/
def s14 (_ : Nat) : Tr := .nil
theorem s14_ok : okCode E 12 s14 (Try.f14.body.getD .skip) = true := by kernel_rfl
/-- the orders of laws.szFileS -/
def s15 (_ : Nat) : Tr := .nil
theorem s15_ok : okCode E 27 s15 (Try.f15.body.getD .skip) = true := by kernel_rfl
/-- the orders of laws.szTableS -/
def s16 (_ : Nat) : Tr := .nil
theorem s16_ok : okCode E 27 s16 (Try.f16.body.getD .skip) = true := by kernel_rfl
/-- the orders of spec.NewestVersion -/
def s17 (i : Nat) : Tr := if i = 4 then .seq [0, 1, 2, 3, 4, 5, 6, 7, 8] .nil else .nil
theorem s17_4 : s17 4 = .seq [0, 1, 2, 3, 4, 5, 6, 7, 8] .nil := rfl
theorem s17_ok : okCode E 28 s17 (Try.f17.body.getD .skip) = true := by kernel_rfl
/-- the orders of spec.VersionFiles -/
def s18 (i : Nat) : Tr := if i = 10 then .seq [0, 1, 2, 3, 4, 5, 6, 7, 8, 9, 10, 11, 12, 13, 14] .nil else .nil
theorem s18_10 : s18 10 = .seq [0, 1, 2, 3, 4, 5, 6, 7, 8, 9, 10, 11, 12, 13, 14] .nil := rfl
theorem s18_ok : okCode E 71 s18 (Try.f18.body.getD .skip) = true := by kernel_rfl
/-- the orders of spec.IsValidDisk -/
def s19 (i : Nat) : Tr := if i = 4 then .seq [0, 1, 2, 3, 4, 5, 6, 7, 8, 9, 10, 11, 12, 13] .nil else .nil
theorem s19_4 : s19 4 = .seq [0, 1, 2, 3, 4, 5, 6, 7, 8, 9, 10, 11, 12, 13] .nil := rfl
theorem s19_ok : okCode E 25 s19 (Try.f19.body.getD .skip) = true := by kernel_rfl
/-- the orders of spec.l32Without -/
def s20 (i : Nat) : Tr := if i = 6 then .seq [0, 1, 2, 3, 4, 5, 6, 7, 8, 9, 10] .nil else .nil
theorem s20_6 : s20 6 = .seq [0, 1, 2, 3, 4, 5, 6, 7, 8, 9, 10] .nil := rfl
theorem s20_ok : okCode E 34 s20 (Try.f20.body.getD .skip) = true := by kernel_rfl
/-- the orders of spec.l32Head -/
def s21 (_ : Nat) : Tr := .nil
theorem s21_ok : okCode E 6 s21 (Try.f21.body.getD .skip) = true := by kernel_rfl
/-- the orders of spec.WriteFile -/
def s22 (_ : Nat) : Tr := .nil
theorem s22_ok : okCode E 61 s22 (Try.f22.body.getD .skip) = true := by kernel_rfl
/-- the orders of laws.toFileS -/
def s23 (_ : Nat) : Tr := .nil
theorem s23_ok : okCode E 23 s23 (Try.f23.body.getD .skip) = true := by kernel_rfl
/-- the orders of laws.toTableS -/
def s24 (_ : Nat) : Tr := .nil
theorem s24_ok : okCode E 23 s24 (Try.f24.body.getD .skip) = true := by kernel_rfl
/-- the orders of impl.NewestVersion -/
def s25 (_ : Nat) : Tr := .nil
theorem s25_ok : okCode E 13 s25 (Try.f25.body.getD .skip) = true := by kernel_rfl
/-- the orders of impl.VersionFiles -/
def s26 (i : Nat) : Tr := if i = 11 then .seq [0, 1, 2, 3, 4, 5, 6, 7, 8, 9, 10] .nil else .nil
theorem s26_11 : s26 11 = .seq [0, 1, 2, 3, 4, 5, 6, 7, 8, 9, 10] .nil := rfl
theorem s26_ok : okCode E 64 s26 (Try.f26.body.getD .skip) = true := by kernel_rfl
/-- the orders of impl.IsValidDisk -/
def s27 (i : Nat) : Tr := if i = 4 then .seq [0, 1, 2, 3, 4, 5, 6, 7, 8, 9, 10, 11, 12, 13] .nil else .nil
theorem s27_4 : s27 4 = .seq [0, 1, 2, 3, 4, 5, 6, 7, 8, 9, 10, 11, 12, 13] .nil := rfl
theorem s27_ok : okCode E 25 s27 (Try.f27.body.getD .skip) = true := by kernel_rfl
/-- the orders of impl.copyDisk -/
def s28 (_ : Nat) : Tr := .nil
theorem s28_ok : okCode E 8 s28 (Try.f28.body.getD .skip) = true := by kernel_rfl
/-- the orders of impl.removed -/
def s29 (_ : Nat) : Tr := .nil
theorem s29_ok : okCode E 27 s29 (Try.f29.body.getD .skip) = true := by kernel_rfl
/-- the orders of impl.FormatInt -/
def s30 (_ : Nat) : Tr := .nil
theorem s30_ok : okCode E 30 s30 (Try.f30.body.getD .skip) = true := by kernel_rfl
/-- the orders of impl.WriteFile -/
def s31 (_ : Nat) : Tr := .nil
theorem s31_ok : okCode E 56 s31 (Try.f31.body.getD .skip) = true := by kernel_rfl
/-- the orders of laws.eqFileS -/
def s32 (i : Nat) : Tr := if i = 6 then .seq [0, 1, 2, 3, 4, 5, 6, 7, 8, 9] .nil else .nil
theorem s32_6 : s32 6 = .seq [0, 1, 2, 3, 4, 5, 6, 7, 8, 9] .nil := rfl
theorem s32_ok : okCode E 27 s32 (Try.f32.body.getD .skip) = true := by kernel_rfl
/-- the orders of laws.eqTableS -/
def s33 (i : Nat) : Tr := if i = 6 then .seq [0, 1, 2, 3, 4, 5, 6, 7, 8, 9] .nil else .nil
theorem s33_6 : s33 6 = .seq [0, 1, 2, 3, 4, 5, 6, 7, 8, 9] .nil := rfl
theorem s33_ok : okCode E 27 s33 (Try.f33.body.getD .skip) = true := by kernel_rfl
/-- the orders of laws.markFileS -/
def s34 (_ : Nat) : Tr := .nil
theorem s34_ok : okCode E 29 s34 (Try.f34.body.getD .skip) = true := by kernel_rfl
/-- the orders of laws.markTableS -/
def s35 (_ : Nat) : Tr := .nil
theorem s35_ok : okCode E 37 s35 (Try.f35.body.getD .skip) = true := by kernel_rfl
/-- the orders of laws.heldFileS -/
def s36 (i : Nat) : Tr := if i = 4 then .seq [0, 1, 2, 3, 4, 5, 6, 7] .nil else if i = 7 then .seq [0, 1, 2, 3, 4, 5, 6, 7] .nil else .nil
theorem s36_4 : s36 4 = .seq [0, 1, 2, 3, 4, 5, 6, 7] .nil := rfl
theorem s36_7 : s36 7 = .seq [0, 1, 2, 3, 4, 5, 6, 7] .nil := rfl
theorem s36_ok : okCode E 33 s36 (Try.f36.body.getD .skip) = true := by kernel_rfl
/-- the orders of laws.szFile -/
def s37 (_ : Nat) : Tr := .nil
theorem s37_ok : okCode E 20 s37 (Try.f37.body.getD .skip) = true := by kernel_rfl
/-- the orders of laws.szTable -/
def s38 (_ : Nat) : Tr := .nil
theorem s38_ok : okCode E 19 s38 (Try.f38.body.getD .skip) = true := by kernel_rfl
/-- the orders of spec.ReadFile -/
def s39 (_ : Nat) : Tr := .nil
theorem s39_ok : okCode E 28 s39 (Try.f39.body.getD .skip) = true := by kernel_rfl
/-- the orders of spec.l32Load -/
def s40 (i : Nat) : Tr := if i = 1 then .seq [0, 1, 2, 3, 4, 5, 6, 7, 8] .nil else if i = 8 then .seq [0, 1, 2, 3, 4, 5, 6, 7, 8, 9, 10, 11] .nil else if i = 10 then .seq [0, 1, 2, 3, 4, 5, 6, 7, 8, 9, 10, 11, 12, 15, 16, 17, 13, 14, 18, 19] .nil else if i = 12 then .seq [0, 1, 2, 3, 4, 5, 6, 7, 8, 9, 10] .nil else .nil
theorem s40_1 : s40 1 = .seq [0, 1, 2, 3, 4, 5, 6, 7, 8] .nil := rfl
theorem s40_8 : s40 8 = .seq [0, 1, 2, 3, 4, 5, 6, 7, 8, 9, 10, 11] .nil := rfl
theorem s40_10 : s40 10 = .seq [0, 1, 2, 3, 4, 5, 6, 7, 8, 9, 10, 11, 12, 15, 16, 17, 13, 14, 18, 19] .nil := rfl
theorem s40_12 : s40 12 = .seq [0, 1, 2, 3, 4, 5, 6, 7, 8, 9, 10] .nil := rfl
theorem s40_ok : okCode E 115 s40 (Try.f40.body.getD .skip) = true := by kernel_rfl
/-- the orders of spec.IsValidDatabase -/
def s41 (i : Nat) : Tr := if i = 5 then .seq [0, 1, 2, 3, 4, 5, 6, 7, 8, 9, 10, 11, 12, 13, 14, 15, 16, 17, 18, 19, 20, 21, 22, 23, 24, 25, 26, 27, 28, 29, 30, 31, 32, 33, 34, 35, 36, 37, 38] .nil else .nil
theorem s41_5 : s41 5 = .seq [0, 1, 2, 3, 4, 5, 6, 7, 8, 9, 10, 11, 12, 13, 14, 15, 16, 17, 18, 19, 20, 21, 22, 23, 24, 25, 26, 27, 28, 29, 30, 31, 32, 33, 34, 35, 36, 37, 38] .nil := rfl
theorem s41_ok : okCode E 60 s41 (Try.f41.body.getD .skip) = true := by kernel_rfl
/-- the orders of spec.l1In -/
def s42 (_ : Nat) : Tr := .nil
theorem s42_ok : okCode E 15 s42 (Try.f42.body.getD .skip) = true := by kernel_rfl
/-- the orders of spec.FormatRelation -/
def s43 (_ : Nat) : Tr := .nil
theorem s43_ok : okCode E 32 s43 (Try.f43.body.getD .skip) = true := by kernel_rfl
/-- the orders of spec.l32Run -/
def s44 (_ : Nat) : Tr := .nil
theorem s44_ok : okCode E 11 s44 (Try.f44.body.getD .skip) = true := by kernel_rfl
/-- the orders of spec.FormatInt -/
def s45 (_ : Nat) : Tr := .nil
theorem s45_ok : okCode E 31 s45 (Try.f45.body.getD .skip) = true := by kernel_rfl
/-- the orders of spec.ChecksumOf -/
def s46 (_ : Nat) : Tr := .nil
theorem s46_ok : okCode E 21 s46 (Try.f46.body.getD .skip) = true := by kernel_rfl
/-- the orders of laws.toFile -/
def s47 (_ : Nat) : Tr := .nil
theorem s47_ok : okCode E 11 s47 (Try.f47.body.getD .skip) = true := by kernel_rfl
/-- the orders of laws.toTable -/
def s48 (_ : Nat) : Tr := .nil
theorem s48_ok : okCode E 12 s48 (Try.f48.body.getD .skip) = true := by kernel_rfl
/-- the orders of impl.RecoverDatabase -/
def s49 (_ : Nat) : Tr := .nil
theorem s49_ok : okCode E 22 s49 (Try.f49.body.getD .skip) = true := by kernel_rfl
/-- the orders of impl.IsValidDatabase -/
def s50 (i : Nat) : Tr := if i = 6 then .seq [0, 1, 2, 3, 4, 5, 6, 7, 8, 9, 10, 11, 12, 13, 14, 15, 16, 17, 18, 19, 20, 21, 22, 23, 24, 25, 26, 27, 28, 29, 30, 31, 32, 33, 34, 35, 36, 37, 38] .nil else .nil
theorem s50_6 : s50 6 = .seq [0, 1, 2, 3, 4, 5, 6, 7, 8, 9, 10, 11, 12, 13, 14, 15, 16, 17, 18, 19, 20, 21, 22, 23, 24, 25, 26, 27, 28, 29, 30, 31, 32, 33, 34, 35, 36, 37, 38] .nil := rfl
theorem s50_ok : okCode E 57 s50 (Try.f50.body.getD .skip) = true := by kernel_rfl
/-- the orders of impl.within -/
def s51 (_ : Nat) : Tr := .nil
theorem s51_ok : okCode E 15 s51 (Try.f51.body.getD .skip) = true := by kernel_rfl
/-- the orders of impl.FormatRelation -/
def s52 (_ : Nat) : Tr := .nil
theorem s52_ok : okCode E 31 s52 (Try.f52.body.getD .skip) = true := by kernel_rfl
/-- the orders of impl.ChecksumOf -/
def s53 (_ : Nat) : Tr := .nil
theorem s53_ok : okCode E 21 s53 (Try.f53.body.getD .skip) = true := by kernel_rfl
/-- the orders of laws.eqFile -/
def s54 (_ : Nat) : Tr := .nil
theorem s54_ok : okCode E 15 s54 (Try.f54.body.getD .skip) = true := by kernel_rfl
/-- the orders of laws.eqTable -/
def s55 (_ : Nat) : Tr := .nil
theorem s55_ok : okCode E 16 s55 (Try.f55.body.getD .skip) = true := by kernel_rfl
/-- the orders of laws.markText -/
def s56 (_ : Nat) : Tr := .nil
theorem s56_ok : okCode E 20 s56 (Try.f56.body.getD .skip) = true := by kernel_rfl
/-- the orders of laws.markIntSS -/
def s57 (_ : Nat) : Tr := .nil
theorem s57_ok : okCode E 19 s57 (Try.f57.body.getD .skip) = true := by kernel_rfl
/-- the orders of laws.szRelation -/
def s58 (_ : Nat) : Tr := .nil
theorem s58_ok : okCode E 12 s58 (Try.f58.body.getD .skip) = true := by kernel_rfl
/-- the orders of spec.l5Cut -/
def s59 (_ : Nat) : Tr := .nil
theorem s59_ok : okCode E 35 s59 (Try.f59.body.getD .skip) = true := by kernel_rfl
/-- the orders of spec.ParseRelation -/
def s60 (i : Nat) : Tr := if i = 11 then .seq [0, 1, 2, 3, 4, 5, 6, 7, 8, 9, 10, 11, 12] .nil else .nil
theorem s60_11 : s60 11 = .seq [0, 1, 2, 3, 4, 5, 6, 7, 8, 9, 10, 11, 12] .nil := rfl
theorem s60_ok : okCode E 96 s60 (Try.f60.body.getD .skip) = true := by kernel_rfl
/-- the orders of spec.IsValidName -/
def s61 (_ : Nat) : Tr := .nil
theorem s61_ok : okCode E 23 s61 (Try.f61.body.getD .skip) = true := by kernel_rfl
/-- the orders of spec.IsValidRelation -/
def s62 (i : Nat) : Tr := if i = 6 then .seq [0, 1, 2, 3, 4, 5, 6, 7, 8, 9, 10, 11, 12, 13, 14, 15, 16, 17, 18, 19, 20, 21, 22, 23, 24, 25, 26, 27, 28, 29, 30, 31, 32, 33, 34, 35, 36] .nil else .nil
theorem s62_6 : s62 6 = .seq [0, 1, 2, 3, 4, 5, 6, 7, 8, 9, 10, 11, 12, 13, 14, 15, 16, 17, 18, 19, 20, 21, 22, 23, 24, 25, 26, 27, 28, 29, 30, 31, 32, 33, 34, 35, 36] .nil := rfl
theorem s62_ok : okCode E 58 s62 (Try.f62.body.getD .skip) = true := by kernel_rfl
/-- the orders of spec.l5RowText -/
def s63 (_ : Nat) : Tr := .nil
theorem s63_ok : okCode E 24 s63 (Try.f63.body.getD .skip) = true := by kernel_rfl
/-- the orders of laws.toRelation -/
def s64 (_ : Nat) : Tr := .nil
theorem s64_ok : okCode E 12 s64 (Try.f64.body.getD .skip) = true := by kernel_rfl
/-- the orders of impl.readVersion -/
def s65 (_ : Nat) : Tr := .nil
theorem s65_ok : okCode E 112 s65 (Try.f65.body.getD .skip) = true := by kernel_rfl
/-- the orders of impl.IsValidName -/
def s66 (_ : Nat) : Tr := .nil
theorem s66_ok : okCode E 5 s66 (Try.f66.body.getD .skip) = true := by kernel_rfl
/-- the orders of impl.IsValidRelation -/
def s67 (_ : Nat) : Tr := .nil
theorem s67_ok : okCode E 8 s67 (Try.f67.body.getD .skip) = true := by kernel_rfl
/-- the orders of impl.formatList -/
def s68 (_ : Nat) : Tr := .nil
theorem s68_ok : okCode E 23 s68 (Try.f68.body.getD .skip) = true := by kernel_rfl
/-- the orders of impl.join -/
def s69 (_ : Nat) : Tr := .nil
theorem s69_ok : okCode E 25 s69 (Try.f69.body.getD .skip) = true := by kernel_rfl
/-- the orders of laws.eqRelation -/
def s70 (_ : Nat) : Tr := .nil
theorem s70_ok : okCode E 16 s70 (Try.f70.body.getD .skip) = true := by kernel_rfl
/-- the orders of laws.markIntS -/
def s71 (_ : Nat) : Tr := .nil
theorem s71_ok : okCode E 19 s71 (Try.f71.body.getD .skip) = true := by kernel_rfl
/-- the orders of laws.szIntSS -/
def s72 (_ : Nat) : Tr := .nil
theorem s72_ok : okCode E 27 s72 (Try.f72.body.getD .skip) = true := by kernel_rfl
/-- the orders of spec.ParseInt -/
def s73 (_ : Nat) : Tr := .nil
theorem s73_ok : okCode E 61 s73 (Try.f73.body.getD .skip) = true := by kernel_rfl
/-- the orders of spec.AreValidValues -/
def s74 (_ : Nat) : Tr := .nil
theorem s74_ok : okCode E 16 s74 (Try.f74.body.getD .skip) = true := by kernel_rfl
/-- the orders of spec.CompareRows -/
def s75 (i : Nat) : Tr := if i = 4 then .seq [0, 1, 2, 3, 4, 5, 6, 7, 8] .nil else if i = 6 then .seq [0, 1, 2, 3, 4, 5, 6, 7, 8] .nil else .nil
theorem s75_4 : s75 4 = .seq [0, 1, 2, 3, 4, 5, 6, 7, 8] .nil := rfl
theorem s75_6 : s75 6 = .seq [0, 1, 2, 3, 4, 5, 6, 7, 8] .nil := rfl
theorem s75_ok : okCode E 46 s75 (Try.f75.body.getD .skip) = true := by kernel_rfl
/-- the orders of laws.toIntSS -/
def s76 (_ : Nat) : Tr := .nil
theorem s76_ok : okCode E 23 s76 (Try.f76.body.getD .skip) = true := by kernel_rfl
/-- the orders of impl.ReadFile -/
def s77 (_ : Nat) : Tr := .nil
theorem s77_ok : okCode E 22 s77 (Try.f77.body.getD .skip) = true := by kernel_rfl
/-- the orders of impl.split -/
def s78 (_ : Nat) : Tr := .nil
theorem s78_ok : okCode E 35 s78 (Try.f78.body.getD .skip) = true := by kernel_rfl
/-- the orders of impl.ParseRelation -/
def s79 (_ : Nat) : Tr := .nil
theorem s79_ok : okCode E 73 s79 (Try.f79.body.getD .skip) = true := by kernel_rfl
/-- the orders of impl.isLetters -/
def s80 (_ : Nat) : Tr := .nil
theorem s80_ok : okCode E 31 s80 (Try.f80.body.getD .skip) = true := by kernel_rfl
/-- the orders of impl.rowsValid -/
def s81 (_ : Nat) : Tr := .nil
theorem s81_ok : okCode E 46 s81 (Try.f81.body.getD .skip) = true := by kernel_rfl
/-- the orders of laws.eqIntSS -/
def s82 (i : Nat) : Tr := if i = 6 then .seq [0, 1, 2, 3, 4, 5, 6, 7, 8, 9] .nil else .nil
theorem s82_6 : s82 6 = .seq [0, 1, 2, 3, 4, 5, 6, 7, 8, 9] .nil := rfl
theorem s82_ok : okCode E 27 s82 (Try.f82.body.getD .skip) = true := by kernel_rfl
/-- the orders of laws.szIntS -/
def s83 (_ : Nat) : Tr := .nil
theorem s83_ok : okCode E 12 s83 (Try.f83.body.getD .skip) = true := by kernel_rfl
/-- the orders of laws.toIntS -/
def s84 (_ : Nat) : Tr := .nil
theorem s84_ok : okCode E 22 s84 (Try.f84.body.getD .skip) = true := by kernel_rfl
/-- the orders of impl.ParseInt -/
def s85 (_ : Nat) : Tr := .nil
theorem s85_ok : okCode E 58 s85 (Try.f85.body.getD .skip) = true := by kernel_rfl
/-- the orders of impl.parseList -/
def s86 (_ : Nat) : Tr := .nil
theorem s86_ok : okCode E 34 s86 (Try.f86.body.getD .skip) = true := by kernel_rfl
/-- the orders of impl.AreValidValues -/
def s87 (_ : Nat) : Tr := .nil
theorem s87_ok : okCode E 15 s87 (Try.f87.body.getD .skip) = true := by kernel_rfl
/-- the orders of impl.CompareRows -/
def s88 (i : Nat) : Tr := if i = 4 then .seq [0, 1, 2, 3, 4, 5, 6, 7, 8] .nil else if i = 5 then .seq [0, 1, 2, 3, 4, 5, 6, 7, 8, 9] .nil else .nil
theorem s88_4 : s88 4 = .seq [0, 1, 2, 3, 4, 5, 6, 7, 8] .nil := rfl
theorem s88_5 : s88 5 = .seq [0, 1, 2, 3, 4, 5, 6, 7, 8, 9] .nil := rfl
theorem s88_ok : okCode E 41 s88 (Try.f88.body.getD .skip) = true := by kernel_rfl
/-- the orders of laws.eqIntS -/
def s89 (i : Nat) : Tr := if i = 6 then .seq [0, 1, 2, 3, 4, 5, 6, 7, 8] .nil else .nil
theorem s89_6 : s89 6 = .seq [0, 1, 2, 3, 4, 5, 6, 7, 8] .nil := rfl
theorem s89_ok : okCode E 26 s89 (Try.f89.body.getD .skip) = true := by kernel_rfl
/-- the orders of impl.compareInts -/
def s90 (_ : Nat) : Tr := .nil
theorem s90_ok : okCode E 13 s90 (Try.f90.body.getD .skip) = true := by kernel_rfl
end Go.Proofs.Yteoeondjpgpiaaa

namespace Go.Proofs.Yteoeondjpgpiaaa
open Go.Vs Go.Proofs Go
set_option maxRecDepth 100000
set_option maxHeartbeats 1000000


theorem w_laws_markText (k : Int) (h0 : 1 ≤ k) (h1 : k ≤ 4611686018427387904) :
   VC Try.prog 56 [.d (.int .i64 k)] (fun _ r => r = .d (.str (mtext k))) := by
  refine VC.of E s56 (by kernel_rfl) Try.func56 (by rfl) (by kernel_rfl) (by simp [Try.f56]) (by simp [Try.f56]) s56_ok fun B => ?_
  simp [Try.f56, show ¬ k ≤ 0 by omega]
  refine loop_rule (X := Nat × Int × List UInt8) (fun x => x.1 ≤ 64 ∧ 0 ≤ x.2.1 ∧ x.2.1 < 2 ^ x.1 ∧ x.2.2.length + x.1 = 64 ∧ mdig x.1 x.2.1 x.2.2 = mdig 64 k []) (fun x => [(0, .d (.int .i64 x.2.1)), (3, .d (.str x.2.2))]) (fun _ => []) (fun x => x.1) (64, k, []) ?_ (by simp) (by simp) ?_
  · simp; omega
  · rintro ⟨n, q, o⟩ hs t m ⟨hi1, hi2, hi3, hi4, hi5⟩ hh
    simp only at hi1 hi2 hi3 hi4 hi5
    by_cases hq : 0 < q
    · obtain ⟨n, rfl⟩ : ∃ n', n = n' + 1 := by
        cases n with
        | zero => simp at hi3; omega
        | succ n => exact ⟨n, rfl⟩
      have e1 : q.tmod 10 = q % 10 := Int.tmod_eq_emod_of_nonneg hi2
      have e2 : q.tdiv 10 = q / 10 := Int.tdiv_eq_ediv_of_nonneg hi2
      have hp : (2 : Int) ^ (n + 1) = 2 * 2 ^ n := by rw [Int.pow_succ]; omega
      have hb : (2 : Int) ^ n ≤ 2 ^ 63 := by
        have : n ≤ 63 := by omega
        exact_mod_cast Nat.pow_le_pow_right (by decide : 0 < 2) this
      simp only [hp] at hi3
      have e3 : IntKind.i64.wrap (48 + q.tmod 10) = 48 + q.tmod 10 := by rw [e1]; exact wrap64_of (by omega) (by omega)
      have e4 : IntKind.i64.wrap (q.tdiv 10) = q.tdiv 10 := by rw [e2]; exact wrap64_of (by omega) (by simp at hb; omega)
      simp [hq, e3, e4, isB, toB]
      refine ⟨by omega, ?_⟩
      refine back (n, q.tdiv 10, UInt8.ofNat (IntKind.u8.wrap (48 + q.tmod 10)).toNat :: o) ⟨by simp; omega, by simp [e2]; omega, by simp [e2]; omega, by simp at hi4 ⊢; omega, ?_⟩ (by simp) rfl (by simp) (by simp) (by simp)
      rw [← hi5]
      simp only [mdig, if_pos hq]
    · have hz : q = 0 := by omega
      subst hz
      have : mdig n 0 o = o := by cases n <;> simp [mdig]
      rw [this] at hi5
      simp [mtext, ← hi5]
      omega

end Go.Proofs.Yteoeondjpgpiaaa

namespace Go.Proofs.Yteoeondjpgpiaaa
open Go.Vs Go.Proofs Go
set_option maxRecDepth 100000
set_option maxHeartbeats 1000000

theorem w_laws_szIntS (a : Sl (Int)) (left : Int) (h0 : 0 ≤ left) (h1 : left ≤ 1048576) (ha : okS okI a) :
   VC Try.prog 83 [.d (dSl cI a), .d (.int .i64 left)] (fun _ r => r = .d (.int .i64 (szv left (swS swI a)))) := by
  refine VC.of E s83 (by kernel_rfl) Try.func83 (by rfl) (by kernel_rfl) (by simp [Try.f83]) (by simp [Try.f83]) s83_ok fun B => ?_
  have ha1 := ha.1
  simp only [maxLen] at ha1
  have hw1 : IntKind.i64.wrap (left - (a.xs.length : Int)) = left - a.xs.length := wrap64_of (by omega) (by omega)
  have hwt : swS swI a = a.xs.length + sumW swI a.xs := rfl
  simp [Try.f83, dSl, hw1]
  have hz : sumW swI a.xs = 0 := by
    generalize a.xs = l
    induction l with
    | nil => rfl
    | cons b r ih => simp [swI, ih]
  refine ⟨fun h => ?_, fun h => ?_⟩
  · rw [szv_neg (by omega)]
  · rw [szv_pos (by omega)]; omega
theorem w_laws_eqIntS (a b : Sl (Int)) (ha : okS okI a) :
   VC Try.prog 89 [.d (dSl cI a), .d (dSl cI b)] (fun _ r => r = .d (.bool (plS plI a == plS plI b))) := by
  refine VC.of E s89 (by kernel_rfl) Try.func89 (by rfl) (by kernel_rfl) (by simp [Try.f89]) (by simp [Try.f89]) s89_ok fun B => ?_
  have ha1 := ha.1
  simp only [maxLen] at ha1
  simp [Try.f89, s89_6, dSl, plS]
  refine ⟨fun h e => h (by have := congrArg List.length e; simp at this; omega), fun hl => ?_⟩
  have hl' : a.xs.length = b.xs.length := by omega
  refine loop_rule (X := Nat) (fun i => i ≤ a.xs.length ∧ (a.xs.map plI).take i = (b.xs.map plI).take i) (fun i => [(0, .d (.sl a.id a.T (a.xs.map cI))), (1, .d (.sl b.id b.T (b.xs.map cI))), (5, .d (.int .i64 i))]) (fun _ => []) (fun i => a.xs.length - i) 0 (by simp) (by simp) (by simp) ?_
  intro i hs t m hi hh
  by_cases hlt : i < a.xs.length
  · have hwi := wr1 (i := i) (by omega)
    have hlb : i < b.xs.length := by omega
    have hst := eqm_step plI hlt hlb hi.2
    simp [cI, hlt, hlb, hwi, s89_6, ]
    simp only [plI] at hst
    refine ⟨fun hne he => hne (hst.2 (by rw [he])), fun heq => ?_⟩
    exact back (i + 1) ⟨by omega, hst.1 heq⟩ (by omega) rfl (by simp) (by simp) (by simp)
  · have := eq_all (a := a.xs.map plI) (b := b.xs.map plI) (by simpa using Nat.le_of_not_lt hlt) (by simpa using hl') hi.2
    have hlb : ¬ i < b.xs.length := by omega
    simp [hlt, hlb, this]
theorem w_laws_szIntSS (a : Sl (Sl (Int))) (left : Int) (h0 : 0 ≤ left) (h1 : left ≤ 1048576) (ha : okS (okS okI) a) :
   VC Try.prog 72 [.d (dSl (cS cI) a), .d (.int .i64 left)] (fun _ r => r = .d (.int .i64 (szv left (swS (swS swI) a)))) := by
  refine VC.of E s72 (by kernel_rfl) Try.func72 (by rfl) (by kernel_rfl) (by simp [Try.f72]) (by simp [Try.f72]) s72_ok fun B => ?_
  have ha1 := ha.1
  simp only [maxLen] at ha1
  have hw1 : IntKind.i64.wrap (left - (a.xs.length : Int)) = left - a.xs.length := wrap64_of (by omega) (by omega)
  have hwt : swS (swS swI) a = a.xs.length + sumW (swS swI) a.xs := rfl
  simp [Try.f72, dSl, hw1]
  refine ⟨fun h => ?_, fun h => ?_⟩
  · rw [szv_neg (by omega)]
  · refine loop_rule (X := Nat) (fun i => i ≤ a.xs.length ∧ 0 ≤ left - a.xs.length - sumW (swS swI) (a.xs.take i)) (fun i => [(0, .d (.sl a.id a.T (a.xs.map (cS cI)))), (1, .d (.int .i64 (left - a.xs.length - sumW (swS swI) (a.xs.take i)))), (5, .d (.int .i64 i))]) (fun _ => []) (fun i => a.xs.length - i) 0 ?_ ?_ (by simp) ?_
    · simp; omega
    · simp
    · intro i hs t m hi hh
      by_cases hlt : i < a.xs.length
      · simp [cS, hlt]
        refine call_pure (w_laws_szIntS a.xs[i] _ (by omega) (by omega) (ha.2 _ (List.getElem_mem _))) rfl (by simp) rfl fun hs' hh' => ?_
        have e1 := sumW_succ (swS swI) hlt
        have e2 := sumW_le (swS swI) a.xs (i + 1)
        have hwi := wr1 (i := i) (by omega)
        by_cases hc : (swS swI a.xs[i] : Int) ≤ left - a.xs.length - sumW (swS swI) (a.xs.take i)
        · rw [szv_pos hc]
          have hn : ¬ left - a.xs.length - sumW (swS swI) (a.xs.take i) - swS swI a.xs[i] < 0 := by omega
          simp [hwi, hn]
          refine back (i + 1) ⟨by omega, by omega⟩ (by omega) rfl (by simp at hh' ⊢; omega) ?_ (by simp)
          simp
          omega
        · rw [szv_neg (by omega)]
          simp
          rw [szv_neg (by omega)]
          all_goals exact fun h => absurd h (by decide)
      · have : i = a.xs.length := by omega
        subst this
        simp
        rw [szv_pos] <;> (simp at hi ⊢; omega)
theorem w_laws_eqIntSS (a b : Sl (Sl (Int))) (ha : okS (okS okI) a) :
   VC Try.prog 82 [.d (dSl (cS cI) a), .d (dSl (cS cI) b)] (fun _ r => r = .d (.bool (plS (plS plI) a == plS (plS plI) b))) := by
  refine VC.of E s82 (by kernel_rfl) Try.func82 (by rfl) (by kernel_rfl) (by simp [Try.f82]) (by simp [Try.f82]) s82_ok fun B => ?_
  have ha1 := ha.1
  simp only [maxLen] at ha1
  simp [Try.f82, s82_6, dSl, plS]
  refine ⟨fun h e => h (by have := congrArg List.length e; simp at this; omega), fun hl => ?_⟩
  have hl' : a.xs.length = b.xs.length := by omega
  refine loop_rule (X := Nat) (fun i => i ≤ a.xs.length ∧ (a.xs.map (plS plI)).take i = (b.xs.map (plS plI)).take i) (fun i => [(0, .d (.sl a.id a.T (a.xs.map (cS cI)))), (1, .d (.sl b.id b.T (b.xs.map (cS cI)))), (5, .d (.int .i64 i))]) (fun _ => []) (fun i => a.xs.length - i) 0 (by simp) (by simp) (by simp) ?_
  intro i hs t m hi hh
  by_cases hlt : i < a.xs.length
  · have hwi := wr1 (i := i) (by omega)
    have hlb : i < b.xs.length := by omega
    have hst := eqm_step (plS plI) hlt hlb hi.2
    simp [cS, hlt, hlb, s82_6, ]
    refine call_pure (w_laws_eqIntS a.xs[i] b.xs[i] (ha.2 _ (List.getElem_mem _))) rfl (by simp) rfl fun hs' hh' => ?_
    simp at hh'
    simp [hwi]
    refine ⟨fun hne he => hne (hst.2 (by rw [he])), fun heq => ?_⟩
    exact back (i + 1) ⟨by omega, hst.1 heq⟩ (by omega) rfl (by simp; omega) (by simp) (by simp)
  · have := eq_all (a := a.xs.map (plS plI)) (b := b.xs.map (plS plI)) (by simpa using Nat.le_of_not_lt hlt) (by simpa using hl') hi.2
    have hlb : ¬ i < b.xs.length := by omega
    simp [hlt, hlb, this]
theorem w_laws_szFile (a : File) (left : Int) (h0 : 0 ≤ left) (h1 : left ≤ 1048576) (ha : okFile a) :
   VC Try.prog 37 [.agg ((cFile a).map V.d), .d (.int .i64 left)] (fun _ r => r = .d (.int .i64 (szv left (swFile a)))) := by
  refine VC.of E s37 (by kernel_rfl) Try.func37 (by rfl) (by kernel_rfl) (by simp [Try.f37]) (by simp [Try.f37]) s37_ok fun B => ?_
  have hwt : swFile a = swStr a.name + swStr a.data := rfl
  have hc0 : (0 : Int) ≤ left := h0
  have hs0 : a.name.length ≤ 9223372036854775807 := ha.1
  have hw0 : IntKind.i64.wrap (left - (a.name.length : Int)) = left - a.name.length := wrap64_of (by omega) (by omega)
  have hq0 : swStr a.name = a.name.length := rfl
  simp [Try.f37, cFile, cStr, dSl, hw0]
  refine ⟨fun hneg => ?_, fun hpos => ?_⟩
  · rw [szv_neg (by omega)]
  · skip
    have hs1 : a.data.length ≤ 9223372036854775807 := ha.2
    have hw1 : IntKind.i64.wrap (left - a.name.length - (a.data.length : Int)) = left - a.name.length - a.data.length := wrap64_of (by omega) (by omega)
    have hq1 : swStr a.data = a.data.length := rfl
    rw [hw1]
    refine ⟨fun hneg => ?_, fun hpos => ?_⟩
    · rw [szv_neg (by omega)]
    · skip
      rw [szv_pos (by omega)]; omega
theorem w_laws_eqFile (a b : File) (ha : okFile a) :
   VC Try.prog 54 [.agg ((cFile a).map V.d), .agg ((cFile b).map V.d)] (fun _ r => r = .d (.bool (plFile a == plFile b))) := by
  refine VC.of E s54 (by kernel_rfl) Try.func54 (by rfl) (by kernel_rfl) (by simp [Try.f54]) (by simp [Try.f54]) s54_ok fun B => ?_
  simp [Try.f54, cFile, cStr, dSl, plFile, plI, plStr]
  by_cases e0 : a.name = b.name <;> by_cases e1 : a.data = b.data <;> simp [e0, e1]
theorem w_laws_szFileS (a : Sl (File)) (left : Int) (h0 : 0 ≤ left) (h1 : left ≤ 1048576) (ha : okS okFile a) :
   VC Try.prog 15 [.d (dSl cFile a), .d (.int .i64 left)] (fun _ r => r = .d (.int .i64 (szv left (swS swFile a)))) := by
  refine VC.of E s15 (by kernel_rfl) Try.func15 (by rfl) (by kernel_rfl) (by simp [Try.f15]) (by simp [Try.f15]) s15_ok fun B => ?_
  have ha1 := ha.1
  simp only [maxLen] at ha1
  have hw1 : IntKind.i64.wrap (left - (a.xs.length : Int)) = left - a.xs.length := wrap64_of (by omega) (by omega)
  have hwt : swS swFile a = a.xs.length + sumW swFile a.xs := rfl
  simp [Try.f15, dSl, hw1]
  refine ⟨fun h => ?_, fun h => ?_⟩
  · rw [szv_neg (by omega)]
  · refine loop_rule (X := Nat) (fun i => i ≤ a.xs.length ∧ 0 ≤ left - a.xs.length - sumW swFile (a.xs.take i)) (fun i => [(0, .d (.sl a.id a.T (a.xs.map cFile))), (1, .d (.int .i64 (left - a.xs.length - sumW swFile (a.xs.take i)))), (5, .d (.int .i64 i))]) (fun _ => []) (fun i => a.xs.length - i) 0 ?_ ?_ (by simp) ?_
    · simp; omega
    · simp
    · intro i hs t m hi hh
      by_cases hlt : i < a.xs.length
      · simp [cFile, cStr, hlt]
        refine call_pure (w_laws_szFile a.xs[i] _ (by omega) (by omega) (ha.2 _ (List.getElem_mem _))) rfl (by simp) rfl fun hs' hh' => ?_
        have e1 := sumW_succ swFile hlt
        have e2 := sumW_le swFile a.xs (i + 1)
        have hwi := wr1 (i := i) (by omega)
        by_cases hc : (swFile a.xs[i] : Int) ≤ left - a.xs.length - sumW swFile (a.xs.take i)
        · rw [szv_pos hc]
          have hn : ¬ left - a.xs.length - sumW swFile (a.xs.take i) - swFile a.xs[i] < 0 := by omega
          simp [hwi, hn]
          refine back (i + 1) ⟨by omega, by omega⟩ (by omega) rfl (by simp at hh' ⊢; omega) ?_ (by simp)
          simp
          omega
        · rw [szv_neg (by omega)]
          simp
          rw [szv_neg (by omega)]
          all_goals exact fun h => absurd h (by decide)
      · have : i = a.xs.length := by omega
        subst this
        simp
        rw [szv_pos] <;> (simp at hi ⊢; omega)
theorem w_laws_eqFileS (a b : Sl (File)) (ha : okS okFile a) :
   VC Try.prog 32 [.d (dSl cFile a), .d (dSl cFile b)] (fun _ r => r = .d (.bool (plS plFile a == plS plFile b))) := by
  refine VC.of E s32 (by kernel_rfl) Try.func32 (by rfl) (by kernel_rfl) (by simp [Try.f32]) (by simp [Try.f32]) s32_ok fun B => ?_
  have ha1 := ha.1
  simp only [maxLen] at ha1
  simp [Try.f32, s32_6, dSl, plS]
  refine ⟨fun h e => h (by have := congrArg List.length e; simp at this; omega), fun hl => ?_⟩
  have hl' : a.xs.length = b.xs.length := by omega
  refine loop_rule (X := Nat) (fun i => i ≤ a.xs.length ∧ (a.xs.map plFile).take i = (b.xs.map plFile).take i) (fun i => [(0, .d (.sl a.id a.T (a.xs.map cFile))), (1, .d (.sl b.id b.T (b.xs.map cFile))), (5, .d (.int .i64 i))]) (fun _ => []) (fun i => a.xs.length - i) 0 (by simp) (by simp) (by simp) ?_
  intro i hs t m hi hh
  by_cases hlt : i < a.xs.length
  · have hwi := wr1 (i := i) (by omega)
    have hlb : i < b.xs.length := by omega
    have hst := eqm_step plFile hlt hlb hi.2
    simp [cFile, cStr, hlt, hlb, s32_6, ]
    refine call_pure (w_laws_eqFile a.xs[i] b.xs[i] (ha.2 _ (List.getElem_mem _))) rfl (by simp) rfl fun hs' hh' => ?_
    simp at hh'
    simp [hwi]
    refine ⟨fun hne he => hne (hst.2 (by rw [he])), fun heq => ?_⟩
    exact back (i + 1) ⟨by omega, hst.1 heq⟩ (by omega) rfl (by simp; omega) (by simp) (by simp)
  · have := eq_all (a := a.xs.map plFile) (b := b.xs.map plFile) (by simpa using Nat.le_of_not_lt hlt) (by simpa using hl') hi.2
    have hlb : ¬ i < b.xs.length := by omega
    simp [hlt, hlb, this]
theorem w_laws_szDisk (a : Disk) (left : Int) (h0 : 0 ≤ left) (h1 : left ≤ 1048576) (ha : okDisk a) :
   VC Try.prog 4 [.agg ((cDisk a).map V.d), .d (.int .i64 left)] (fun _ r => r = .d (.int .i64 (szv left (swDisk a)))) := by
  refine VC.of E s4 (by kernel_rfl) Try.func4 (by rfl) (by kernel_rfl) (by simp [Try.f4]) (by simp [Try.f4]) s4_ok fun B => ?_
  have hwt : swDisk a = swS swFile a.files := rfl
  have hc0 : (0 : Int) ≤ left := h0
  simp [Try.f4, cDisk, cS, dSl]
  refine call_pure (w_laws_szFileS a.files _ (by omega) (by omega) ha) rfl (by simp) rfl fun hs' hh' => ?_
  by_cases hb0 : (swS swFile a.files : Int) ≤ left
  · rw [szv_pos hb0]
    have hn0 : ¬ left - swS swFile a.files < 0 := by omega
    simp [hn0]
    rw [szv_pos (by omega)]; omega
  · rw [szv_neg (by omega)]
    simp
    try rw [szv_neg (by omega)]
    all_goals exact fun h => absurd h (by decide)
theorem w_laws_eqDisk (a b : Disk) (ha : okDisk a) :
   VC Try.prog 10 [.agg ((cDisk a).map V.d), .agg ((cDisk b).map V.d)] (fun _ r => r = .d (.bool (plDisk a == plDisk b))) := by
  refine VC.of E s10 (by kernel_rfl) Try.func10 (by rfl) (by kernel_rfl) (by simp [Try.f10]) (by simp [Try.f10]) s10_ok fun B => ?_
  simp [Try.f10, cDisk, cS, dSl, plDisk, plI, plStr]
  refine call_pure (w_laws_eqFileS a.files b.files ha) rfl (by simp) rfl fun hs0 hh0 => ?_
  by_cases e0 : plS plFile a.files = plS plFile b.files
  case neg => simp [e0]
  simp [e0]
theorem w_laws_szRelation (a : Reln) (left : Int) (h0 : 0 ≤ left) (h1 : left ≤ 1048576) (ha : okReln a) :
   VC Try.prog 58 [.agg ((cReln a).map V.d), .d (.int .i64 left)] (fun _ r => r = .d (.int .i64 (szv left (swReln a)))) := by
  refine VC.of E s58 (by kernel_rfl) Try.func58 (by rfl) (by kernel_rfl) (by simp [Try.f58]) (by simp [Try.f58]) s58_ok fun B => ?_
  have hwt : swReln a = swS (swS swI) a.rows := rfl
  have hc0 : (0 : Int) ≤ left := h0
  simp [Try.f58, cI, cReln, cS, dSl]
  refine call_pure (w_laws_szIntSS a.rows _ (by omega) (by omega) ha.2) rfl (by simp) rfl fun hs' hh' => ?_
  by_cases hb0 : (swS (swS swI) a.rows : Int) ≤ left
  · rw [szv_pos hb0]
    have hn0 : ¬ left - swS (swS swI) a.rows < 0 := by omega
    simp [hn0]
    rw [szv_pos (by omega)]; omega
  · rw [szv_neg (by omega)]
    simp
    try rw [szv_neg (by omega)]
    all_goals exact fun h => absurd h (by decide)
theorem w_laws_eqRelation (a b : Reln) (ha : okReln a) :
   VC Try.prog 70 [.agg ((cReln a).map V.d), .agg ((cReln b).map V.d)] (fun _ r => r = .d (.bool (plReln a == plReln b))) := by
  refine VC.of E s70 (by kernel_rfl) Try.func70 (by rfl) (by kernel_rfl) (by simp [Try.f70]) (by simp [Try.f70]) s70_ok fun B => ?_
  simp [Try.f70, cI, cReln, cS, dSl, plReln, plI, plStr]
  by_cases e0 : a.ar = b.ar
  case neg => simp [e0]
  simp [e0]
  refine call_pure (w_laws_eqIntSS a.rows b.rows ha.2) rfl (by simp) rfl fun hs1 hh1 => ?_
  by_cases e1 : plS (plS plI) a.rows = plS (plS plI) b.rows
  case neg => simp [e1]
  simp [e1]
theorem w_laws_szTable (a : Tab) (left : Int) (h0 : 0 ≤ left) (h1 : left ≤ 1048576) (ha : okTab a) :
   VC Try.prog 38 [.agg ((cTab a).map V.d), .d (.int .i64 left)] (fun _ r => r = .d (.int .i64 (szv left (swTab a)))) := by
  refine VC.of E s38 (by kernel_rfl) Try.func38 (by rfl) (by kernel_rfl) (by simp [Try.f38]) (by simp [Try.f38]) s38_ok fun B => ?_
  have hwt : swTab a = swStr a.name + swReln a.rel := rfl
  have hc0 : (0 : Int) ≤ left := h0
  have hs0 : a.name.length ≤ 9223372036854775807 := ha.1
  have hw0 : IntKind.i64.wrap (left - (a.name.length : Int)) = left - a.name.length := wrap64_of (by omega) (by omega)
  have hq0 : swStr a.name = a.name.length := rfl
  simp [Try.f38, cI, cReln, cS, cStr, cTab, dSl, hw0]
  refine ⟨fun hneg => ?_, fun hpos => ?_⟩
  · rw [szv_neg (by omega)]
  · skip
    refine call_pure (w_laws_szRelation a.rel _ (by omega) (by omega) ha.2) rfl (by simp) rfl fun hs' hh' => ?_
    by_cases hb1 : (swReln a.rel : Int) ≤ left - a.name.length
    · rw [szv_pos hb1]
      have hn1 : ¬ left - a.name.length - swReln a.rel < 0 := by omega
      simp [hn1]
      rw [szv_pos (by omega)]; omega
    · rw [szv_neg (by omega)]
      simp
      try rw [szv_neg (by omega)]
      all_goals exact fun h => absurd h (by decide)
theorem w_laws_eqTable (a b : Tab) (ha : okTab a) :
   VC Try.prog 55 [.agg ((cTab a).map V.d), .agg ((cTab b).map V.d)] (fun _ r => r = .d (.bool (plTab a == plTab b))) := by
  refine VC.of E s55 (by kernel_rfl) Try.func55 (by rfl) (by kernel_rfl) (by simp [Try.f55]) (by simp [Try.f55]) s55_ok fun B => ?_
  simp [Try.f55, cI, cReln, cS, cStr, cTab, dSl, plTab, plI, plStr]
  by_cases e0 : a.name = b.name
  case neg => simp [e0]
  simp [e0]
  refine call_pure (w_laws_eqRelation a.rel b.rel ha.2) rfl (by simp) rfl fun hs1 hh1 => ?_
  by_cases e1 : plReln a.rel = plReln b.rel
  case neg => simp [e1]
  simp [e1]
theorem w_laws_szTableS (a : Sl (Tab)) (left : Int) (h0 : 0 ≤ left) (h1 : left ≤ 1048576) (ha : okS okTab a) :
   VC Try.prog 16 [.d (dSl cTab a), .d (.int .i64 left)] (fun _ r => r = .d (.int .i64 (szv left (swS swTab a)))) := by
  refine VC.of E s16 (by kernel_rfl) Try.func16 (by rfl) (by kernel_rfl) (by simp [Try.f16]) (by simp [Try.f16]) s16_ok fun B => ?_
  have ha1 := ha.1
  simp only [maxLen] at ha1
  have hw1 : IntKind.i64.wrap (left - (a.xs.length : Int)) = left - a.xs.length := wrap64_of (by omega) (by omega)
  have hwt : swS swTab a = a.xs.length + sumW swTab a.xs := rfl
  simp [Try.f16, dSl, hw1]
  refine ⟨fun h => ?_, fun h => ?_⟩
  · rw [szv_neg (by omega)]
  · refine loop_rule (X := Nat) (fun i => i ≤ a.xs.length ∧ 0 ≤ left - a.xs.length - sumW swTab (a.xs.take i)) (fun i => [(0, .d (.sl a.id a.T (a.xs.map cTab))), (1, .d (.int .i64 (left - a.xs.length - sumW swTab (a.xs.take i)))), (5, .d (.int .i64 i))]) (fun _ => []) (fun i => a.xs.length - i) 0 ?_ ?_ (by simp) ?_
    · simp; omega
    · simp
    · intro i hs t m hi hh
      by_cases hlt : i < a.xs.length
      · simp [cI, cReln, cS, cStr, cTab, hlt]
        refine call_pure (w_laws_szTable a.xs[i] _ (by omega) (by omega) (ha.2 _ (List.getElem_mem _))) rfl (by simp) rfl fun hs' hh' => ?_
        have e1 := sumW_succ swTab hlt
        have e2 := sumW_le swTab a.xs (i + 1)
        have hwi := wr1 (i := i) (by omega)
        by_cases hc : (swTab a.xs[i] : Int) ≤ left - a.xs.length - sumW swTab (a.xs.take i)
        · rw [szv_pos hc]
          have hn : ¬ left - a.xs.length - sumW swTab (a.xs.take i) - swTab a.xs[i] < 0 := by omega
          simp [hwi, hn]
          refine back (i + 1) ⟨by omega, by omega⟩ (by omega) rfl (by simp at hh' ⊢; omega) ?_ (by simp)
          simp
          omega
        · rw [szv_neg (by omega)]
          simp
          rw [szv_neg (by omega)]
          all_goals exact fun h => absurd h (by decide)
      · have : i = a.xs.length := by omega
        subst this
        simp
        rw [szv_pos] <;> (simp at hi ⊢; omega)
theorem w_laws_eqTableS (a b : Sl (Tab)) (ha : okS okTab a) :
   VC Try.prog 33 [.d (dSl cTab a), .d (dSl cTab b)] (fun _ r => r = .d (.bool (plS plTab a == plS plTab b))) := by
  refine VC.of E s33 (by kernel_rfl) Try.func33 (by rfl) (by kernel_rfl) (by simp [Try.f33]) (by simp [Try.f33]) s33_ok fun B => ?_
  have ha1 := ha.1
  simp only [maxLen] at ha1
  simp [Try.f33, s33_6, dSl, plS]
  refine ⟨fun h e => h (by have := congrArg List.length e; simp at this; omega), fun hl => ?_⟩
  have hl' : a.xs.length = b.xs.length := by omega
  refine loop_rule (X := Nat) (fun i => i ≤ a.xs.length ∧ (a.xs.map plTab).take i = (b.xs.map plTab).take i) (fun i => [(0, .d (.sl a.id a.T (a.xs.map cTab))), (1, .d (.sl b.id b.T (b.xs.map cTab))), (5, .d (.int .i64 i))]) (fun _ => []) (fun i => a.xs.length - i) 0 (by simp) (by simp) (by simp) ?_
  intro i hs t m hi hh
  by_cases hlt : i < a.xs.length
  · have hwi := wr1 (i := i) (by omega)
    have hlb : i < b.xs.length := by omega
    have hst := eqm_step plTab hlt hlb hi.2
    simp [cI, cReln, cS, cStr, cTab, hlt, hlb, s33_6, ]
    refine call_pure (w_laws_eqTable a.xs[i] b.xs[i] (ha.2 _ (List.getElem_mem _))) rfl (by simp) rfl fun hs' hh' => ?_
    simp at hh'
    simp [hwi]
    refine ⟨fun hne he => hne (hst.2 (by rw [he])), fun heq => ?_⟩
    exact back (i + 1) ⟨by omega, hst.1 heq⟩ (by omega) rfl (by simp; omega) (by simp) (by simp)
  · have := eq_all (a := a.xs.map plTab) (b := b.xs.map plTab) (by simpa using Nat.le_of_not_lt hlt) (by simpa using hl') hi.2
    have hlb : ¬ i < b.xs.length := by omega
    simp [hlt, hlb, this]
theorem w_laws_szDatabase (a : Db) (left : Int) (h0 : 0 ≤ left) (h1 : left ≤ 1048576) (ha : okDb a) :
   VC Try.prog 5 [.agg ((cDb a).map V.d), .d (.int .i64 left)] (fun _ r => r = .d (.int .i64 (szv left (swDb a)))) := by
  refine VC.of E s5 (by kernel_rfl) Try.func5 (by rfl) (by kernel_rfl) (by simp [Try.f5]) (by simp [Try.f5]) s5_ok fun B => ?_
  have hwt : swDb a = swS swTab a.tabs := rfl
  have hc0 : (0 : Int) ≤ left := h0
  simp [Try.f5, cDb, cS, dSl]
  refine call_pure (w_laws_szTableS a.tabs _ (by omega) (by omega) ha) rfl (by simp) rfl fun hs' hh' => ?_
  by_cases hb0 : (swS swTab a.tabs : Int) ≤ left
  · rw [szv_pos hb0]
    have hn0 : ¬ left - swS swTab a.tabs < 0 := by omega
    simp [hn0]
    rw [szv_pos (by omega)]; omega
  · rw [szv_neg (by omega)]
    simp
    try rw [szv_neg (by omega)]
    all_goals exact fun h => absurd h (by decide)
theorem w_laws_eqDatabase (a b : Db) (ha : okDb a) :
   VC Try.prog 11 [.agg ((cDb a).map V.d), .agg ((cDb b).map V.d)] (fun _ r => r = .d (.bool (plDb a == plDb b))) := by
  refine VC.of E s11 (by kernel_rfl) Try.func11 (by rfl) (by kernel_rfl) (by simp [Try.f11]) (by simp [Try.f11]) s11_ok fun B => ?_
  simp [Try.f11, cDb, cS, dSl, plDb, plI, plStr]
  refine call_pure (w_laws_eqTableS a.tabs b.tabs ha) rfl (by simp) rfl fun hs0 hh0 => ?_
  by_cases e0 : plS plTab a.tabs = plS plTab b.tabs
  case neg => simp [e0]
  simp [e0]

end Go.Proofs.Yteoeondjpgpiaaa

namespace Go.Proofs.Yteoeondjpgpiaaa
open Go.Vs Go.Proofs Go
set_option maxRecDepth 100000
set_option maxHeartbeats 1000000

theorem w_laws_toIntS (a : Sl (Int)) (ha : okS okI a) (hb : a.xs.length ≤ 1048576) :
   VC Try.prog 84 [.d (dSl cI a)] (fun n r => ∃ y : Sl (Int), r = .d (dSl cI y) ∧ plS plI y = plS plI a ∧ okS okI y ∧ Good (cS cI y) (whS whI y) n) := by
  refine VC.of E s84 (by kernel_rfl) Try.func84 (by rfl) (by kernel_rfl) (by simp [Try.f84]) (by simp [Try.f84]) s84_ok fun B => ?_
  simp [Try.f84, dSl]
  refine ⟨⟨by omega, by simp only [maxLen]; omega⟩, ?_⟩
  refine loop_rule (X := Nat) (fun i => i ≤ a.xs.length) (fun i => [(0, .d (.sl a.id a.T (a.xs.map cI))), (3, .own 7 0 a.xs.length), (4, .d (.int .i64 i))]) (fun i => [(7, some (.row 3 1 (fill [.int .i64 0] (a.xs.map cI) i)))]) (fun i => a.xs.length - i) 0 (by simp) (by simp) (by simp) ?_
  intro i hs t m hi hh
  by_cases hlt : i < a.xs.length
  · have hwi := wr1 (i := i) (by omega)
    simp [cI, hlt, hwi]
    refine back (i + 1) (by omega) (by omega) rfl (by simp) (by simp) ?_
    have := fill_set (z := [.int .i64 0]) (l := a.xs.map cI) (i := i) (by simpa using hlt) (by simp [hlt]; rfl)
    simp only [cI] at this ⊢
    simp [this]
  · have hn : i = a.xs.length := by omega
    subst hn
    have hf : fill [.int .i64 0] (a.xs.map cI) a.xs.length = a.xs.map cI := fill_all (by simp)
    simp [hf]
    intro γ hs' h1 hg
    obtain ⟨q1, q2⟩ := gam_at hg (k := 7) (T := 3) (sz := 1) (es := a.xs.map cI) (by simp)
    have q3 := gam_row hg (k := 7) (T := 3) (sz := 1) (es := a.xs.map cI) (by simp)
    clear hg
    refine ⟨⟨γ 7, some (3, 1), a.xs⟩, ⟨⟨rfl, rfl, List.take_of_length_le (by simp)⟩, rfl, ha, good_row (fun g hg => (q1 g hg).1) (by simpa using q2) q3 ⟨by simp, by simp⟩ (by simp [whI, whStr])⟩⟩
theorem w_laws_toIntSS (a : Sl (Sl (Int))) (ha : okS (okS okI) a) (hb : swS (swS swI) a ≤ 1048576) :
   VC Try.prog 76 [.d (dSl (cS cI) a)] (fun n r => ∃ y : Sl (Sl (Int)), r = .d (dSl (cS cI) y) ∧ plS (plS plI) y = plS (plS plI) a ∧ okS (okS okI) y ∧ Good (cS (cS cI) y) (whS (whS whI) y) n) := by
  refine VC.of E s76 (by kernel_rfl) Try.func76 (by rfl) (by kernel_rfl) (by simp [Try.f76]) (by simp [Try.f76]) s76_ok fun B => ?_
  have hwt : swS (swS swI) a = a.xs.length + sumW (swS swI) a.xs := rfl
  simp [Try.f76, dSl]
  refine ⟨⟨by omega, by simp only [maxLen]; omega⟩, ?_⟩
  refine loop_rule2 (X := Nat × List (Sl (Int))) (fun p h => p.1 ≤ a.xs.length ∧ p.2.length = p.1 ∧ p.2.map (plS plI) = (a.xs.map (plS plI)).take p.1 ∧ (∀ y ∈ p.2, okS okI y) ∧ GoodL (cS cI) (whS whI) B h p.2) (fun p => [(0, .d (.sl a.id a.T (a.xs.map (cS cI)))), (3, .own 7 0 a.xs.length), (4, .d (.int .i64 p.1))]) (fun p => [(7, some (.row 98 1 (p.2.map (cS cI) ++ List.replicate (a.xs.length - p.1) [.sl none none []])))]) (fun p => a.xs.length - p.1) (0, []) ⟨by simp, rfl, by simp, by simp, GoodL.nil⟩ (by simp) (by simp) ?_
  rintro ⟨i, ys⟩ hs t m ⟨hi, hyl, hpl, hok, hgd⟩ hh
  simp only at hi hyl hpl hok hgd
  by_cases hlt : i < a.xs.length
  · have hwi := wr1 (i := i) (by omega)
    have hmem : a.xs[i] ∈ a.xs := List.getElem_mem _
    have hsw := sumW_mem (swS swI) hmem
    simp [cS, hlt]
    refine call_some (w_laws_toIntS a.xs[i] (ha.2 _ hmem) (by simp only [swS] at hsw; omega)) rfl (by simp) fun n hs' r hn hn' hp hr => ?_
    obtain ⟨y, rfl, hy1, hy2, hy3⟩ := hp
    simp at hn
    have hr' : ∀ g ∈ idsL (cS cI y), g < hs' := fun g hg => hr g (by first | (simp [cS, V.ids, idsVL, idsL] at hg; done) | simpa [cS, V.ids, idsVL, idsL] using hg)
    have hyi : ys.length = i := hyl
    simp [cS, hlt, hwi, hyi, show i + (a.xs.length - i) = a.xs.length by omega, dSl]
    refine back2 (i + 1, ys ++ [y]) ⟨by omega, by simp [hyi], ?_, ?_, ?_⟩ (by simp <;> omega) rfl (by simp <;> omega) (by simp) ?_
    · simp only [List.map_append, hpl, List.map_cons, List.map_nil, hy1]
      rw [List.take_succ_eq_append_getElem (by simpa using hlt)]; simp
    · intro y' hy'
      rcases List.mem_append.1 hy' with h | h
      · exact hok y' h
      · rw [List.mem_singleton.1 h]; exact hy2
    · exact GoodL.snoc hgd (by omega) hn' hy3 hr'
    · simp [rep_set0 hlt, cS, dSl]
  · have hn : i = a.xs.length := by omega
    subst hn
    simp
    intro γ hs' h1 hg
    obtain ⟨q1, q2⟩ := gam_at hg (k := 7) (T := 98) (sz := 1) (es := ys.map (cS cI)) (by simp [upd])
    have q3 := gam_row hg (k := 7) (T := 98) (sz := 1) (es := ys.map (cS cI)) (by simp [upd])
    clear hg
    refine ⟨_, ⟨by omega, rfl⟩, ⟨γ 7, some (98, 1), ys⟩, ?_, by rw [List.take_of_length_le (by simp)] at hpl; exact hpl, ⟨by simp only [maxLen]; show ys.length ≤ _; omega, hok⟩, good_row (fun g hg => (q1 g hg).1) (by simpa using q2) q3 ⟨hgd.nd, hgd.lo⟩ hgd.wh⟩
    rw [if_pos hyl.symm, List.take_of_length_le (by simp [hyl])]
theorem w_laws_toFile (a : File) (ha : okFile a) (hb : swFile a ≤ 1048576) :
   VC Try.prog 47 [.agg ((cFile a).map V.d)] (fun n r => ∃ y : File, r = .agg ((cFile y).map V.d) ∧ plFile y = plFile a ∧ okFile y ∧ Good (cFile y) (whFile y) n) := by
  refine VC.of E s47 (by kernel_rfl) Try.func47 (by rfl) (by kernel_rfl) (by simp [Try.f47]) (by simp [Try.f47]) s47_ok fun B => ?_
  have hwt : swFile a = swStr a.name + swStr a.data := rfl
  simp [Try.f47, cFile, cStr, dSl]
  refine ⟨⟨a.name, a.data⟩, ?_⟩
  refine ⟨by simp [cFile, cStr, dSl], by simp only [plFile], ⟨ha.1, ha.2⟩, ?_⟩
  have G0 : Good (cStr a.name) (whStr a.name) B := good_Str B a.name
  have G1 : Good (cStr a.data) (whStr a.data) B := good_Str B a.data
  have U0 : ∀ g ∈ idsL (cStr a.name), g < B := by simp [cStr, idsL, D.ids]
  have K1 : Good (cStr a.name ++ cStr a.data) ((whStr a.name) ∧ whStr a.data) B := Good.app G0 G1 (fun g h h' => by simp [cStr, idsL, D.ids] at h')
  have U1 : ∀ g ∈ idsL (cStr a.name ++ cStr a.data), g < B := fun g h => by rw [idsL_app] at h; rcases List.mem_append.1 h with h | h; exact U0 g h; simp [cStr, idsL, D.ids] at h
  exact ⟨K1.nd, K1.lo, by have h := K1.wh; exact ⟨h.1, h.2⟩⟩
theorem w_laws_toFileS (a : Sl (File)) (ha : okS okFile a) (hb : swS swFile a ≤ 1048576) :
   VC Try.prog 23 [.d (dSl cFile a)] (fun n r => ∃ y : Sl (File), r = .d (dSl cFile y) ∧ plS plFile y = plS plFile a ∧ okS okFile y ∧ Good (cS cFile y) (whS whFile y) n) := by
  refine VC.of E s23 (by kernel_rfl) Try.func23 (by rfl) (by kernel_rfl) (by simp [Try.f23]) (by simp [Try.f23]) s23_ok fun B => ?_
  have hwt : swS swFile a = a.xs.length + sumW swFile a.xs := rfl
  simp [Try.f23, dSl]
  refine ⟨⟨by omega, by simp only [maxLen]; omega⟩, ?_⟩
  refine loop_rule2 (X := Nat × List (File)) (fun p h => p.1 ≤ a.xs.length ∧ p.2.length = p.1 ∧ p.2.map plFile = (a.xs.map plFile).take p.1 ∧ (∀ y ∈ p.2, okFile y) ∧ GoodL cFile whFile B h p.2) (fun p => [(0, .d (.sl a.id a.T (a.xs.map cFile))), (3, .own 7 0 a.xs.length), (4, .d (.int .i64 p.1))]) (fun p => [(7, some (.row 54 2 (p.2.map cFile ++ List.replicate (a.xs.length - p.1) [.str [], .str []])))]) (fun p => a.xs.length - p.1) (0, []) ⟨by simp, rfl, by simp, by simp, GoodL.nil⟩ (by simp) (by simp) ?_
  rintro ⟨i, ys⟩ hs t m ⟨hi, hyl, hpl, hok, hgd⟩ hh
  simp only at hi hyl hpl hok hgd
  by_cases hlt : i < a.xs.length
  · have hwi := wr1 (i := i) (by omega)
    have hmem : a.xs[i] ∈ a.xs := List.getElem_mem _
    have hsw := sumW_mem swFile hmem
    simp [cFile, cStr, hlt]
    refine call_some (w_laws_toFile a.xs[i] (ha.2 _ hmem) (by omega)) rfl (by simp) fun n hs' r hn hn' hp hr => ?_
    obtain ⟨y, rfl, hy1, hy2, hy3⟩ := hp
    simp at hn
    have hr' : ∀ g ∈ idsL (cFile y), g < hs' := fun g hg => hr g (by first | (simp [cFile, cStr, V.ids, idsVL, idsL] at hg; done) | simpa [cFile, cStr, V.ids, idsVL, idsL] using hg)
    have hyi : ys.length = i := hyl
    simp [cFile, cStr, hlt, hwi, hyi, show i + (a.xs.length - i) = a.xs.length by omega, dSl]
    refine back2 (i + 1, ys ++ [y]) ⟨by omega, by simp [hyi], ?_, ?_, ?_⟩ (by simp <;> omega) rfl (by simp <;> omega) (by simp) ?_
    · simp only [List.map_append, hpl, List.map_cons, List.map_nil, hy1]
      rw [List.take_succ_eq_append_getElem (by simpa using hlt)]; simp
    · intro y' hy'
      rcases List.mem_append.1 hy' with h | h
      · exact hok y' h
      · rw [List.mem_singleton.1 h]; exact hy2
    · exact GoodL.snoc hgd (by omega) hn' hy3 hr'
    · simp [rep_set0 hlt, cFile, cStr, dSl]
  · have hn : i = a.xs.length := by omega
    subst hn
    simp
    intro γ hs' h1 hg
    obtain ⟨q1, q2⟩ := gam_at hg (k := 7) (T := 54) (sz := 2) (es := ys.map cFile) (by simp [upd])
    have q3 := gam_row hg (k := 7) (T := 54) (sz := 2) (es := ys.map cFile) (by simp [upd])
    clear hg
    refine ⟨_, ⟨by omega, rfl⟩, ⟨γ 7, some (54, 2), ys⟩, ?_, by rw [List.take_of_length_le (by simp)] at hpl; exact hpl, ⟨by simp only [maxLen]; show ys.length ≤ _; omega, hok⟩, good_row (fun g hg => (q1 g hg).1) (by simpa using q2) q3 ⟨hgd.nd, hgd.lo⟩ hgd.wh⟩
    rw [if_pos hyl.symm, List.take_of_length_le (by simp [hyl])]
theorem w_laws_heldFileS (a : Sl (File)) (k : Int) (h0 : 1 ≤ k) (h1 : k + wtS wtFile a ≤ 4611686018427387904) (ha : okS okFile a) :
   VC Try.prog 36 [.d (dSl cFile a), .d (.int .i64 k)] (fun _ r => r = .d (.int .i64 (hv (hlS (hlFile) (wtFile) a k) k (wtS wtFile a)))) := by
  refine VC.of E s36 (by kernel_rfl) Try.func36 (by rfl) (by kernel_rfl) (by simp [Try.f36]) (by simp [Try.f36]) s36_ok fun B => ?_
  obtain ⟨id, T, xs⟩ := a
  have ha1 := ha.1
  simp only [maxLen] at ha1
  have hwt : wtS wtFile (⟨id, T, xs⟩ : Sl (File)) = sumW wtFile xs := rfl
  have hhl : hlS (hlFile) (wtFile) (⟨id, T, xs⟩ : Sl (File)) k = hlList hlFile wtFile xs k := rfl
  rw [hwt] at h1
  rw [hwt, hhl]
  simp [Try.f36, s36_4, s36_7, dSl]
  refine loop_rule (X := Nat) (fun i => i ≤ xs.length ∧ hlList hlFile wtFile (xs.take i) k = true) (fun i => [(0, .d (.sl id T (xs.map cFile))), (1, .d (.int .i64 (k + sumW wtFile (xs.take i)))), (5, .d (.int .i64 i))]) (fun _ => []) (fun i => xs.length - i) 0 (by simp [hlList]) (by simp) (by simp) ?_
  intro i hs t m hi hh
  by_cases hlt : i < xs.length
  · have hwi := wr1 (i := i) (by omega)
    have e1 := sumW_succ wtFile hlt
    have e2 := sumW_le wtFile xs (i + 1)
    have hmem : xs[i] ∈ xs := List.getElem_mem _
    have hstep := hlList_step (hl := hlFile) (wt := wtFile) (k := k) hlt
    rw [hi.2, Bool.true_and] at hstep
    have hbad := hlList_bad (hl := hlFile) (wt := wtFile) (k := k) hlt
    have h112 : ∀ x : Int, 1 + (1 + x) = 2 + x := fun x => by omega
    have hex : hlFile xs[i] (k + sumW wtFile (xs.take i)) = (xs[i].name == mtext (k + sumW wtFile (xs.take i)) && xs[i].data == mtext (k + sumW wtFile (xs.take i) + 1)) := by simp [hlFile, hlStr, wtFile, wtStr, Bool.and_assoc, Int.add_assoc, h112]
    have hwx : wtFile xs[i] = 1 + 1 := by first | rfl | (simp only [wtTab, wtDelta, wtReln, wtStr, wtI]; omega)
    have hk0 : IntKind.i64.wrap (k + sumW wtFile (xs.take i) + 1) = k + sumW wtFile (xs.take i) + 1 := wrap64_of (by omega) (by omega)
    simp [cFile, cStr, hlt, dSl, s36_4, s36_7, ]
    refine call_pure (w_laws_markText _ (by omega) (by omega)) rfl (by simp) rfl fun hs0 hh0 => ?_
    simp at hh0
    by_cases c0 : xs[i].name = mtext (k + sumW wtFile (xs.take i))
    case neg => simp [c0, hbad (by simp [hex, c0])]
    simp [c0, hk0, hlt, cFile, cStr, s36_4, s36_7, ]
    have hk1 : IntKind.i64.wrap (k + sumW wtFile (xs.take i) + 1 + 1) = k + sumW wtFile (xs.take i) + 1 + 1 := wrap64_of (by omega) (by omega)
    refine call_pure (w_laws_markText _ (by omega) (by omega)) rfl (by simp) rfl fun hs1 hh1 => ?_
    simp at hh1
    by_cases c1 : xs[i].data = mtext (k + sumW wtFile (xs.take i) + 1)
    case neg => simp [c1, hbad (by simp [hex, c1])]
    simp [c1, hk1, hlt, cFile, cStr, s36_4, s36_7, ]
    simp [hwi]
    refine back (i + 1) ⟨by omega, hstep.trans (hex.trans (by simp [c0, c1]))⟩ (by omega) rfl (by simp <;> omega) ?_ (by simp)
    simp
    omega
  · have hn : i = xs.length := by omega
    subst hn
    have h2 := hi.2
    rw [List.take_length] at h2
    simp [h2]
theorem w_laws_toDisk (a : Disk) (ha : okDisk a) (hb : swDisk a ≤ 1048576) :
   VC Try.prog 7 [.agg ((cDisk a).map V.d)] (fun n r => ∃ y : Disk, r = .agg ((cDisk y).map V.d) ∧ plDisk y = plDisk a ∧ okDisk y ∧ Good (cDisk y) (whDisk y) n) := by
  refine VC.of E s7 (by kernel_rfl) Try.func7 (by rfl) (by kernel_rfl) (by simp [Try.f7]) (by simp [Try.f7]) s7_ok fun B => ?_
  have hwt : swDisk a = swS swFile a.files := rfl
  simp [Try.f7, cDisk, cS, dSl]
  refine call_some (w_laws_toFileS a.files ha (by have := hwt; omega)) rfl (by simp) fun n0 hs0 r0 hn0 hm0 hp0 hr0 => ?_
  obtain ⟨y0, rfl, hy0, hk0, hg0⟩ := hp0
  have hl0 : ∀ g ∈ idsL (cS cFile y0), g < hs0 := fun g hg => hr0 g (by first | (simp [cS, V.ids, idsVL, idsL] at hg; done) | simpa [cS, V.ids, idsVL, idsL] using hg)
  simp at hn0
  simp [cS, dSl]
  refine ⟨⟨y0⟩, ?_⟩
  refine ⟨by simp [cDisk, cS, dSl], by simp only [plDisk, hy0], hk0, ?_⟩
  have G0 : Good (cS cFile y0) (whS whFile y0) B := hg0.le (by omega)
  have U0 : ∀ g ∈ idsL (cS cFile y0), g < hs0 := hl0
  exact G0
theorem w_laws_heldDisk (a : Disk) (k : Int) (h0 : 1 ≤ k) (h1 : k + wtTDisk a ≤ 4611686018427387904) (ha : okDisk a) :
   VC Try.prog 14 [.agg ((cDisk a).map V.d), .d (.int .i64 k)] (fun _ r => r = .d (.int .i64 (hv (hlTDisk a k) k (wtTDisk a)))) := by
  refine VC.of E s14 (by kernel_rfl) Try.func14 (by rfl) (by kernel_rfl) (by simp [Try.f14]) (by simp [Try.f14]) s14_ok fun B => ?_
  have hwt : wtTDisk a = wtS wtFile a.files := rfl
  have hex : hlTDisk a k = (hlS (hlFile) (wtFile) a.files (k)) := rfl
  simp [Try.f14, cDisk, cS, dSl]
  refine call_pure (w_laws_heldFileS a.files _ (by omega) (by omega) ha) rfl (by simp) rfl fun hs0 hh0 => ?_
  by_cases c0 : hlS (hlFile) (wtFile) a.files (k) = true
  case neg =>
    have c0' : hlS (hlFile) (wtFile) a.files (k) = false := by simpa using c0
    simp [c0', hex]
  have hn0 : ¬ k + (wtS wtFile a.files : Int) < 0 := by omega
  simp [c0, hn0]
  simp [hex, c0, hwt]
  try omega
theorem w_laws_toRelation (a : Reln) (ha : okReln a) (hb : swReln a ≤ 1048576) :
   VC Try.prog 64 [.agg ((cReln a).map V.d)] (fun n r => ∃ y : Reln, r = .agg ((cReln y).map V.d) ∧ plReln y = plReln a ∧ okReln y ∧ Good (cReln y) (whReln y) n) := by
  refine VC.of E s64 (by kernel_rfl) Try.func64 (by rfl) (by kernel_rfl) (by simp [Try.f64]) (by simp [Try.f64]) s64_ok fun B => ?_
  have hwt : swReln a = swS (swS swI) a.rows := rfl
  simp [Try.f64, cI, cReln, cS, dSl]
  refine call_some (w_laws_toIntSS a.rows ha.2 (by have := hwt; omega)) rfl (by simp) fun n0 hs0 r0 hn0 hm0 hp0 hr0 => ?_
  obtain ⟨y0, rfl, hy0, hk0, hg0⟩ := hp0
  have hl0 : ∀ g ∈ idsL (cS (cS cI) y0), g < hs0 := fun g hg => hr0 g (by first | (simp [cS, V.ids, idsVL, idsL] at hg; done) | simpa [cS, V.ids, idsVL, idsL] using hg)
  simp at hn0
  simp [cS, dSl]
  refine ⟨⟨a.ar, y0⟩, ?_⟩
  refine ⟨by simp [cI, cReln, cS, dSl], by simp only [plReln, hy0], ⟨ha.1, hk0⟩, ?_⟩
  have G0 : Good (cI a.ar) (whI a.ar) B := good_I B a.ar
  have G1 : Good (cS (cS cI) y0) (whS (whS whI) y0) B := hg0.le (by omega)
  have U0 : ∀ g ∈ idsL (cI a.ar), g < B := by simp [cI, idsL, D.ids]
  have K1 : Good (cI a.ar ++ cS (cS cI) y0) ((whI a.ar) ∧ whS (whS whI) y0) B := Good.app G0 G1 (fun g h h' => by have h1 := U0 g h; have h2 := hg0.lo g h'; omega)
  have U1 : ∀ g ∈ idsL (cI a.ar ++ cS (cS cI) y0), g < hs0 := fun g h => by rw [idsL_app] at h; rcases List.mem_append.1 h with h | h; (have h1 := U0 g h; omega); exact hl0 g h
  exact ⟨K1.nd, K1.lo, by have h := K1.wh; exact ⟨h.1, h.2⟩⟩
theorem w_laws_toTable (a : Tab) (ha : okTab a) (hb : swTab a ≤ 1048576) :
   VC Try.prog 48 [.agg ((cTab a).map V.d)] (fun n r => ∃ y : Tab, r = .agg ((cTab y).map V.d) ∧ plTab y = plTab a ∧ okTab y ∧ Good (cTab y) (whTab y) n) := by
  refine VC.of E s48 (by kernel_rfl) Try.func48 (by rfl) (by kernel_rfl) (by simp [Try.f48]) (by simp [Try.f48]) s48_ok fun B => ?_
  have hwt : swTab a = swStr a.name + swReln a.rel := rfl
  simp [Try.f48, cI, cReln, cS, cStr, cTab, dSl]
  refine call_some (w_laws_toRelation a.rel ha.2 (by have := hwt; omega)) rfl (by simp) fun n0 hs0 r0 hn0 hm0 hp0 hr0 => ?_
  obtain ⟨y0, rfl, hy0, hk0, hg0⟩ := hp0
  have hl0 : ∀ g ∈ idsL (cReln y0), g < hs0 := fun g hg => hr0 g (by first | (simp [cI, cReln, cS, V.ids, idsVL, idsL] at hg; done) | simpa [cI, cReln, cS, V.ids, idsVL, idsL] using hg)
  simp at hn0
  simp [cI, cReln, cS, dSl]
  refine ⟨⟨a.name, y0⟩, ?_⟩
  refine ⟨by simp [cI, cReln, cS, cStr, cTab, dSl], by simp only [plTab, hy0], ⟨ha.1, hk0⟩, ?_⟩
  have G0 : Good (cStr a.name) (whStr a.name) B := good_Str B a.name
  have G1 : Good (cReln y0) (whReln y0) B := hg0.le (by omega)
  have U0 : ∀ g ∈ idsL (cStr a.name), g < B := by simp [cStr, idsL, D.ids]
  have K1 : Good (cStr a.name ++ cReln y0) ((whStr a.name) ∧ whReln y0) B := Good.app G0 G1 (fun g h h' => by have h1 := U0 g h; have h2 := hg0.lo g h'; omega)
  have U1 : ∀ g ∈ idsL (cStr a.name ++ cReln y0), g < hs0 := fun g h => by rw [idsL_app] at h; rcases List.mem_append.1 h with h | h; (have h1 := U0 g h; omega); exact hl0 g h
  exact ⟨K1.nd, K1.lo, by have h := K1.wh; exact ⟨h.1, h.2⟩⟩
theorem w_laws_toTableS (a : Sl (Tab)) (ha : okS okTab a) (hb : swS swTab a ≤ 1048576) :
   VC Try.prog 24 [.d (dSl cTab a)] (fun n r => ∃ y : Sl (Tab), r = .d (dSl cTab y) ∧ plS plTab y = plS plTab a ∧ okS okTab y ∧ Good (cS cTab y) (whS whTab y) n) := by
  refine VC.of E s24 (by kernel_rfl) Try.func24 (by rfl) (by kernel_rfl) (by simp [Try.f24]) (by simp [Try.f24]) s24_ok fun B => ?_
  have hwt : swS swTab a = a.xs.length + sumW swTab a.xs := rfl
  simp [Try.f24, dSl]
  refine ⟨⟨by omega, by simp only [maxLen]; omega⟩, ?_⟩
  refine loop_rule2 (X := Nat × List (Tab)) (fun p h => p.1 ≤ a.xs.length ∧ p.2.length = p.1 ∧ p.2.map plTab = (a.xs.map plTab).take p.1 ∧ (∀ y ∈ p.2, okTab y) ∧ GoodL cTab whTab B h p.2) (fun p => [(0, .d (.sl a.id a.T (a.xs.map cTab))), (3, .own 7 0 a.xs.length), (4, .d (.int .i64 p.1))]) (fun p => [(7, some (.row 79 3 (p.2.map cTab ++ List.replicate (a.xs.length - p.1) [.str [], .int .i64 0, .sl none none []])))]) (fun p => a.xs.length - p.1) (0, []) ⟨by simp, rfl, by simp, by simp, GoodL.nil⟩ (by simp) (by simp) ?_
  rintro ⟨i, ys⟩ hs t m ⟨hi, hyl, hpl, hok, hgd⟩ hh
  simp only at hi hyl hpl hok hgd
  by_cases hlt : i < a.xs.length
  · have hwi := wr1 (i := i) (by omega)
    have hmem : a.xs[i] ∈ a.xs := List.getElem_mem _
    have hsw := sumW_mem swTab hmem
    simp [cI, cReln, cS, cStr, cTab, hlt]
    refine call_some (w_laws_toTable a.xs[i] (ha.2 _ hmem) (by omega)) rfl (by simp) fun n hs' r hn hn' hp hr => ?_
    obtain ⟨y, rfl, hy1, hy2, hy3⟩ := hp
    simp at hn
    have hr' : ∀ g ∈ idsL (cTab y), g < hs' := fun g hg => hr g (by first | (simp [cI, cReln, cS, cStr, cTab, V.ids, idsVL, idsL] at hg; done) | simpa [cI, cReln, cS, cStr, cTab, V.ids, idsVL, idsL] using hg)
    have hyi : ys.length = i := hyl
    simp [cI, cReln, cS, cStr, cTab, hlt, hwi, hyi, show i + (a.xs.length - i) = a.xs.length by omega, dSl]
    refine back2 (i + 1, ys ++ [y]) ⟨by omega, by simp [hyi], ?_, ?_, ?_⟩ (by simp <;> omega) rfl (by simp <;> omega) (by simp) ?_
    · simp only [List.map_append, hpl, List.map_cons, List.map_nil, hy1]
      rw [List.take_succ_eq_append_getElem (by simpa using hlt)]; simp
    · intro y' hy'
      rcases List.mem_append.1 hy' with h | h
      · exact hok y' h
      · rw [List.mem_singleton.1 h]; exact hy2
    · exact GoodL.snoc hgd (by omega) hn' hy3 hr'
    · simp [rep_set0 hlt, cI, cReln, cS, cStr, cTab, dSl]
  · have hn : i = a.xs.length := by omega
    subst hn
    simp
    intro γ hs' h1 hg
    obtain ⟨q1, q2⟩ := gam_at hg (k := 7) (T := 79) (sz := 3) (es := ys.map cTab) (by simp [upd])
    have q3 := gam_row hg (k := 7) (T := 79) (sz := 3) (es := ys.map cTab) (by simp [upd])
    clear hg
    refine ⟨_, ⟨by omega, rfl⟩, ⟨γ 7, some (79, 3), ys⟩, ?_, by rw [List.take_of_length_le (by simp)] at hpl; exact hpl, ⟨by simp only [maxLen]; show ys.length ≤ _; omega, hok⟩, good_row (fun g hg => (q1 g hg).1) (by simpa using q2) q3 ⟨hgd.nd, hgd.lo⟩ hgd.wh⟩
    rw [if_pos hyl.symm, List.take_of_length_le (by simp [hyl])]
theorem w_laws_toDatabase (a : Db) (ha : okDb a) (hb : swDb a ≤ 1048576) :
   VC Try.prog 8 [.agg ((cDb a).map V.d)] (fun n r => ∃ y : Db, r = .agg ((cDb y).map V.d) ∧ plDb y = plDb a ∧ okDb y ∧ Good (cDb y) (whDb y) n) := by
  refine VC.of E s8 (by kernel_rfl) Try.func8 (by rfl) (by kernel_rfl) (by simp [Try.f8]) (by simp [Try.f8]) s8_ok fun B => ?_
  have hwt : swDb a = swS swTab a.tabs := rfl
  simp [Try.f8, cDb, cS, dSl]
  refine call_some (w_laws_toTableS a.tabs ha (by have := hwt; omega)) rfl (by simp) fun n0 hs0 r0 hn0 hm0 hp0 hr0 => ?_
  obtain ⟨y0, rfl, hy0, hk0, hg0⟩ := hp0
  have hl0 : ∀ g ∈ idsL (cS cTab y0), g < hs0 := fun g hg => hr0 g (by first | (simp [cS, V.ids, idsVL, idsL] at hg; done) | simpa [cS, V.ids, idsVL, idsL] using hg)
  simp at hn0
  simp [cS, dSl]
  refine ⟨⟨y0⟩, ?_⟩
  refine ⟨by simp [cDb, cS, dSl], by simp only [plDb, hy0], hk0, ?_⟩
  have G0 : Good (cS cTab y0) (whS whTab y0) B := hg0.le (by omega)
  have U0 : ∀ g ∈ idsL (cS cTab y0), g < hs0 := hl0
  exact G0

end Go.Proofs.Yteoeondjpgpiaaa

namespace Go.Proofs.Yteoeondjpgpiaaa
open Go.Vs Go.Proofs Go
set_option maxRecDepth 100000
set_option maxHeartbeats 1000000

theorem w_laws_markIntS (a : Ints) (k : Int) (h0 : 1 ≤ k) (h1 : k + wtS wtI a ≤ 4611686018427387904) (hw : whS whI a) (hl0 : okS okI a) (hnd : (dInts a).ids.Nodup) :
   VX Try.prog 71 (dInts a).ids [.d (dInts a), .d (.int .i64 k)] none (fun _ r _ ws => r = .d (.int .i64 (k + wtS wtI a)) ∧ ws = [dInts (mkS mkI wtI a k)]) := by
  refine VX.of E s71 (by kernel_rfl) Try.func71 (by rfl) (by kernel_rfl) (by simp [Try.f71]) (by simp [Try.f71]) s71_ok (fun g hg => .inl (by simpa using hg)) (fun cs h => nomatch h) fun B hB => ?_
  have hl := hl0.1
  obtain ⟨id, T, xs⟩ := a
  have hwt : wtS wtI (⟨id, T, xs⟩ : Ints) = xs.length := sumW_one (fun _ => rfl) xs
  rw [hwt] at h1 ⊢
  simp only [maxLen] at hl
  simp [Try.f71]
  refine loop_rule (X := Nat) (fun i => i ≤ xs.length) (fun i => [(0, .d (dInts ⟨id, T, mkAt mkI wtI xs k i⟩)), (1, .d (.int .i64 (k + i))), (5, .d (.int .i64 i))]) (fun _ => []) (fun i => xs.length - i) 0 (by simp) (by simp) (by simp) ?_
  intro i hs t m hi hh
  by_cases hlt : i < xs.length
  · obtain ⟨g, hg, T', hT⟩ := hw.1.id hlt
    simp only at hg hT
    subst hg hT
    have hk := wr1 (i := i) (by omega)
    have hk2 : IntKind.i64.wrap (k + i + 1) = k + i + 1 := wrap64_of (by omega) (by omega)
    simp [dInts, dSl, hlt, hk, hk2, cI]
    refine back (i + 1) (by omega) (by omega) rfl (by simp) ?_ (by simp)
    have e1 : (List.map cI (mkAt mkI wtI xs k i)).set i [D.int IntKind.i64 (k + ↑i)] = List.map cI (mkAt mkI wtI xs k (i + 1)) := by
      rw [mkAt_succ hlt, ← set_map, show sumW wtI (List.take i xs) = _ from sumW_one (fun _ => rfl) _]
      simp [cI, mkI, Nat.min_eq_left hi]
    have e2 := re_oneSet (g := g) (T := T') (es := List.map cI (mkAt mkI wtI xs k i)) (i := i) (e' := [D.int IntKind.i64 (k + ↑i)]) (fun e he => by
      rw [List.getElem?_map] at he
      simp [hlt] at he
      rw [← he]; rfl)
    rw [e1] at e2
    simp [e1, e2]
    omega
  · have hn : i = xs.length := by omega
    subst hn
    simp [dInts, dSl, vendX]
    refine ⟨[0], fun γ hs' h1 h2 => ?_⟩
    simp [mkS, mkAt_all]

theorem w_laws_markIntSS (a : Sl Ints) (k : Int) (h0 : 1 ≤ k) (h1 : k + wtS (wtS wtI) a ≤ 4611686018427387904) (hw : whS (whS whI) a) (hl : okS (okS okI) a) (hnd : (dRows a).ids.Nodup) :
   VX Try.prog 57 (dRows a).ids [.d (dRows a), .d (.int .i64 k)] none (fun _ r _ ws => r = .d (.int .i64 (k + wtS (wtS wtI) a)) ∧ ws = [dRows (mkS (mkS mkI wtI) (wtS wtI) a k)]) := by
  refine VX.of E s57 (by kernel_rfl) Try.func57 (by rfl) (by kernel_rfl) (by simp [Try.f57]) (by simp [Try.f57]) s57_ok (fun g hg => .inl (by simpa using hg)) (fun cs h => nomatch h) fun B hB => ?_
  obtain ⟨id, T, xs⟩ := a
  have hl1 := hl.1
  simp only [maxLen] at hl1
  have hwt : wtS (wtS wtI) (⟨id, T, xs⟩ : Sl Ints) = sumW (wtS wtI) xs := rfl
  rw [hwt] at h1 ⊢
  simp [Try.f57]
  refine loop_rule (X := Nat) (fun i => i ≤ xs.length) (fun i => [(0, .d (dSl (cS cI) ⟨id, T, mkAt (mkS mkI wtI) (wtS wtI) xs k i⟩)), (1, .d (.int .i64 (k + sumW (wtS wtI) (xs.take i)))), (5, .d (.int .i64 i))]) (fun _ => []) (fun i => xs.length - i) 0 (by simp) (by simp) (by simp) ?_
  intro i hs t m hi hh
  by_cases hlt : i < xs.length
  · have hk := wr1 (i := i) (by omega)
    have e1 := sumW_succ (wtS wtI) hlt
    have e2 := sumW_le (wtS wtI) xs (i + 1)
    have hmem : xs[i] ∈ xs := List.getElem_mem _
    simp [dSl, hlt, cS]
    refine call_x (E71) (by simp [dSl]) (by simp) (by simp) (fun g hg => .inr ?_) (w_laws_markIntS xs[i] (k + sumW (wtS wtI) (xs.take i)) (by omega) (by omega) (hw.2 _ hmem) (hl.2 _ hmem) (by have := elem_nd (sl_nd hnd).1 hlt; rwa [idsL_cS] at this)) fun n hs' r cs' ws hn hn' hp hr hws => ?_
    · exact elem_ids (s := ⟨id, T, xs⟩) (c := cS cI) (i := i) hlt (by simpa [cS, idsL] using hg)
    obtain ⟨rfl, rfl⟩ := hp
    simp at hn
    have hnd' : (dSl (cS cI) (⟨id, T, mkAt (mkS mkI wtI) (wtS wtI) xs k i⟩ : Sl Ints)).ids.Nodup := by
      have : (dSl (cS cI) (⟨id, T, mkAt (mkS mkI wtI) (wtS wtI) xs k i⟩ : Sl Ints)).ids = (dRows ⟨id, T, xs⟩).ids := by
        simp only [dSl, D.ids]; rw [ids_mkAt (marksS marksI).ids]
      rw [this]; exact hnd
    have e3 := re_elem (c := cS cI) (s := ⟨id, T, mkAt (mkS mkI wtI) (wtS wtI) xs k i⟩) (i := i) (a' := mkS mkI wtI xs[i] (k + sumW (wtS wtI) (xs.take i))) (W := (dInts xs[i]).ids) (ws := [dInts (mkS mkI wtI xs[i] (k + sumW (wtS wtI) (xs.take i)))]) hnd' (by simpa using hlt)
      (fun g hg => by simpa [cS, idsL] using hg) (by simp only [mkAt_get]; exact reL_one (re_root (by simp [cI]) (hw.2 _ hmem).1 (by simp) (fun g hg => mem_slids hg) []))
    simp [dSl, cS, hk] at e3 ⊢
    refine back (i + 1) (by omega) (by omega) rfl (by simp <;> omega) ?_ (by simp)
    simp [e3, mkAt_succ hlt, e1]
    exact ⟨rfl, by omega⟩
  · have hn : i = xs.length := by omega
    subst hn
    simp [dSl, vendX]
    refine ⟨[0], fun γ hs' h1 h2 => ?_⟩
    simp [mkS, mkAt_all]

end Go.Proofs.Yteoeondjpgpiaaa

namespace Go.Proofs.Yteoeondjpgpiaaa
open Go.Vs Go.Proofs Go
set_option maxRecDepth 100000
set_option maxHeartbeats 1000000

theorem w_laws_markFileS (a : Sl (File)) (k : Int) (h0 : 1 ≤ k) (h1 : k + wtS wtFile a ≤ 4611686018427387904) (hw : whS whFile a) (hl : okS okFile a) (hnd : (dSl cFile a).ids.Nodup) :
   VX Try.prog 34 (dSl cFile a).ids [.d (dSl cFile a), .d (.int .i64 k)] none (fun _ r _ ws => r = .d (.int .i64 (k + wtS wtFile a)) ∧ ws = [dSl cFile (mkS (mkFile) (wtFile) a k)]) := by
  refine VX.of E s34 (by kernel_rfl) Try.func34 (by rfl) (by kernel_rfl) (by simp [Try.f34]) (by simp [Try.f34]) s34_ok ?_ ?_ fun B hB => ?_
  · exact fun g hg => .inl (by simpa using hg)
  · exact fun cs h => nomatch h
  obtain ⟨id, T, xs⟩ := a
  have hl1 := hl.1
  simp only [maxLen] at hl1
  have hwt : wtS wtFile (⟨id, T, xs⟩ : Sl (File)) = sumW wtFile xs := rfl
  rw [hwt] at h1 ⊢
  simp [Try.f34]
  refine loop_rule (X := Nat) (fun i => i ≤ xs.length) (fun i => [(0, .d (dSl cFile ⟨id, T, mkAt mkFile wtFile xs k i⟩)), (1, .d (.int .i64 (k + sumW wtFile (xs.take i)))), (5, .d (.int .i64 i))]) (fun _ => []) (fun i => xs.length - i) 0 (by simp) (by simp) (by simp) ?_
  intro i hs t m hi hh
  by_cases hlt : i < xs.length
  · have hwi := wr1 (i := i) (by omega)
    have e1 := sumW_succ wtFile hlt
    have e2 := sumW_le wtFile xs (i + 1)
    have hmem : xs[i] ∈ xs := List.getElem_mem _
    have hwx : wtFile xs[i] = 1 + 1 := by simp only [wtFile, wtStr] <;> omega
    obtain ⟨g, hg, T', hT⟩ := hw.1.id hlt
    simp only at hg hT
    subst hg hT
    have hnd2 := sl_nd hnd
    have hnn : g ∉ idsLL ((mkAt mkFile wtFile xs k i).map cFile) := by rw [ids_mkAt marksFile.ids]; exact hnd2.2 g rfl
    have hni : g ∉ idsL (cFile xs[i]) := fun hin => hnd2.2 g rfl (idsLL_map_mem.2 ⟨_, hmem, hin⟩)
    have hne := elem_nd hnd2.1 hlt
    have hni0 := hni
    have hne0 := hne
    have hap : ∀ W : List Nat, (∀ q ∈ W, q ∈ idsL (cFile xs[i])) → ∀ ws (j : Nat) (e : List D), j ≠ i → ((mkAt mkFile wtFile xs k i).map cFile)[j]? = some e → ∀ q ∈ idsL e, phi W ws q = none := by
      intro W hW ws
      exact nd_mapD (by rw [ids_mkAt marksFile.ids]; exact hnd2.1) (i := i) (by simpa using hlt) (by simpa using hW) ws
    simp only [cFile, cStr, idsL_app, idsL, D.ids, dSl, List.append_nil, List.nil_append, List.cons_append, List.mem_append, not_or, List.append_assoc] at hni hne
    simp [dSl, hlt]
    have hk0 : IntKind.i64.wrap (k + sumW wtFile (xs.take i) + 1) = k + sumW wtFile (xs.take i) + 1 := wrap64_of (by omega) (by omega)
    refine call_pure (w_laws_markText _ (by omega) (by omega)) rfl (by simp) rfl fun hs0 hh0 => ?_
    simp at hh0
    simp [dSl, hlt, cFile, cStr, hnn, nin_set hnn, idsL, D.ids, hni, hk0, hwi]
    have hk1 : IntKind.i64.wrap (k + sumW wtFile (xs.take i) + 1 + 1) = k + sumW wtFile (xs.take i) + 1 + 1 := wrap64_of (by omega) (by omega)
    refine call_pure (w_laws_markText _ (by omega) (by omega)) rfl (by simp) rfl fun hs1 hh1 => ?_
    simp at hh1
    simp [dSl, hlt, cFile, cStr, hnn, nin_set hnn, idsL, D.ids, hni, hk1, hwi]
    refine back (i + 1) (by omega) (by omega) rfl (by simp <;> omega) ?_ (by simp)
    simp [mkAt_succ hlt, e1, cFile, cStr, dSl]
    first
    | exact ⟨rfl, by omega⟩
    | (refine ⟨?_, by omega⟩; simp [mkFile, mkStr, wtFile, wtStr, mkS, Int.add_assoc, show ∀ x : Int, 1 + (1 + x) = 2 + x from fun x => by omega])
  · have hn : i = xs.length := by omega
    subst hn
    simp [dSl, vendX]
    refine ⟨[0], fun γ hs' h1 h2 => ?_⟩
    simp [mkS, mkAt_all]
theorem simT_Disk {a : Disk} (hw : whDisk a) (k : Int) : Sim (cDisk a) (cDisk (mkTDisk a k)) := sim_mk marksFile hw (k)
theorem w_laws_markDisk (a : Disk) (k : Int) (h0 : 1 ≤ k) (h1 : k + wtTDisk a ≤ 4611686018427387904) (hw : whDisk a) (hl : okDisk a) (hnd : (idsL (cDisk a)).Nodup) :
   VX Try.prog 12 (idsL (cDisk a)) [.agg ((cDisk a).map V.d), .d (.int .i64 k)] none (fun _ r _ ws => r = .d (.int .i64 (k + wtTDisk a)) ∧ ws = cDisk (mkTDisk a k)) := by
  refine VX.of E s12 (by kernel_rfl) Try.func12 (by rfl) (by kernel_rfl) (by simp [Try.f12]) (by simp [Try.f12]) s12_ok ?_ ?_ fun B hB => ?_
  · exact fun g hg => .inl (by simpa [idsVL, V.ids, idsVL_map_d] using hg)
  · exact fun cs h => nomatch h
  have hwt : wtTDisk a = wtS wtFile a.files := rfl
  have hnd0 := hnd
  simp only [cDisk, idsL_app] at hnd0
  have nd0 : (idsL (cS cFile a.files)).Nodup := hnd0
  simp [Try.f12, cDisk, cS]
  refine call_x (E34) (by simp) (by simp) (by simp) (fun q hq => .inr ?_) (w_laws_markFileS a.files (k) (by omega) (by omega) (hw) (hl) (by rw [← idsL_cS]; exact nd0)) fun n0 hs0 r cs' ws hn0 hm0 hp hr hws => ?_
  · simp only [idsL_app, idsL, List.append_nil, List.nil_append, List.append_assoc, List.mem_append, cDisk, cS] at hq ⊢
    first | (simp [hq]; done) | (simp [D.ids] at hq ⊢; grind)
  obtain ⟨rfl, rfl⟩ := hp
  simp at hn0
  have hre0 : reL (phi ((dSl cFile a.files).ids) [dSl cFile (mkS (mkFile) (wtFile) a.files (k))]) (cS cFile a.files) = some (cS cFile (mkS (mkFile) (wtFile) a.files (k))) := by
    have := re_sim (sim_mk marksFile hw (k)) ((marksS marksFile).ids _ _) nd0
    rw [idsL_cS] at this
    exact this
  replace hre0 := reVL_map hre0
  simp only [cDisk, cS, List.cons_append, List.nil_append, List.map_cons, List.map_nil, reVL_cons, reVL_nil, List.cons.injEq, and_true, reV_int, reV_str, true_and] at hre0
  simp [hre0, cDisk, cS]
  simp [vendX]
  refine ⟨[0], fun γ hs' h1 h2 => ?_⟩
  simp [isD, dD, hwt, mkTDisk, cDisk, cS, reD]
  try omega
theorem w_laws_markTableS (a : Sl (Tab)) (k : Int) (h0 : 1 ≤ k) (h1 : k + wtS wtTab a ≤ 4611686018427387904) (hw : whS whTab a) (hl : okS okTab a) (hnd : (dSl cTab a).ids.Nodup) :
   VX Try.prog 35 (dSl cTab a).ids [.d (dSl cTab a), .d (.int .i64 k)] none (fun _ r _ ws => r = .d (.int .i64 (k + wtS wtTab a)) ∧ ws = [dSl cTab (mkS (mkTab) (wtTab) a k)]) := by
  refine VX.of E s35 (by kernel_rfl) Try.func35 (by rfl) (by kernel_rfl) (by simp [Try.f35]) (by simp [Try.f35]) s35_ok ?_ ?_ fun B hB => ?_
  · exact fun g hg => .inl (by simpa using hg)
  · exact fun cs h => nomatch h
  obtain ⟨id, T, xs⟩ := a
  have hl1 := hl.1
  simp only [maxLen] at hl1
  have hwt : wtS wtTab (⟨id, T, xs⟩ : Sl (Tab)) = sumW wtTab xs := rfl
  rw [hwt] at h1 ⊢
  simp [Try.f35]
  refine loop_rule (X := Nat) (fun i => i ≤ xs.length) (fun i => [(0, .d (dSl cTab ⟨id, T, mkAt mkTab wtTab xs k i⟩)), (1, .d (.int .i64 (k + sumW wtTab (xs.take i)))), (5, .d (.int .i64 i))]) (fun _ => []) (fun i => xs.length - i) 0 (by simp) (by simp) (by simp) ?_
  intro i hs t m hi hh
  by_cases hlt : i < xs.length
  · have hwi := wr1 (i := i) (by omega)
    have e1 := sumW_succ wtTab hlt
    have e2 := sumW_le wtTab xs (i + 1)
    have hmem : xs[i] ∈ xs := List.getElem_mem _
    have hwx : wtTab xs[i] = 1 + 1 + wtS (wtS wtI) xs[i].rel.rows := by simp only [wtI, wtReln, wtStr, wtTab] <;> omega
    obtain ⟨g, hg, T', hT⟩ := hw.1.id hlt
    simp only at hg hT
    subst hg hT
    have hnd2 := sl_nd hnd
    have hnn : g ∉ idsLL ((mkAt mkTab wtTab xs k i).map cTab) := by rw [ids_mkAt marksTab.ids]; exact hnd2.2 g rfl
    have hni : g ∉ idsL (cTab xs[i]) := fun hin => hnd2.2 g rfl (idsLL_map_mem.2 ⟨_, hmem, hin⟩)
    have hne := elem_nd hnd2.1 hlt
    have hni0 := hni
    have hne0 := hne
    have hap : ∀ W : List Nat, (∀ q ∈ W, q ∈ idsL (cTab xs[i])) → ∀ ws (j : Nat) (e : List D), j ≠ i → ((mkAt mkTab wtTab xs k i).map cTab)[j]? = some e → ∀ q ∈ idsL e, phi W ws q = none := by
      intro W hW ws
      exact nd_mapD (by rw [ids_mkAt marksTab.ids]; exact hnd2.1) (i := i) (by simpa using hlt) (by simpa using hW) ws
    simp only [cI, cReln, cS, cStr, cTab, idsL_app, idsL, D.ids, dSl, List.append_nil, List.nil_append, List.cons_append, List.mem_append, not_or, List.append_assoc] at hni hne
    simp [dSl, hlt]
    have hk0 : IntKind.i64.wrap (k + sumW wtTab (xs.take i) + 1) = k + sumW wtTab (xs.take i) + 1 := wrap64_of (by omega) (by omega)
    refine call_pure (w_laws_markText _ (by omega) (by omega)) rfl (by simp) rfl fun hs0 hh0 => ?_
    simp at hh0
    simp [dSl, hlt, cI, cReln, cS, cStr, cTab, hnn, nin_set hnn, idsL, D.ids, hni, hk0, hwi, ids_mk (wt := (wtS wtI)) (marksS marksI).ids]
    have hk1 : IntKind.i64.wrap (k + sumW wtTab (xs.take i) + 1 + 1) = k + sumW wtTab (xs.take i) + 1 + 1 := wrap64_of (by omega) (by omega)
    simp [dSl, hlt, cI, cReln, cS, cStr, cTab, hnn, nin_set hnn, idsL, D.ids, hni, hk1, hwi, ids_mk (wt := (wtS wtI)) (marksS marksI).ids]
    have hx2 : dSl (cS cI) xs[i].rel.rows ∈ cTab xs[i] := by simp [cI, cReln, cS, cStr, cTab]
    refine call_x (E57) (by simp [dSl]) (by simp) (by simp) (fun q hq => .inr ?_) (w_laws_markIntSS xs[i].rel.rows (k + sumW wtTab (xs.take i) + 1 + 1) (by omega) (by omega) ((hw.2 _ hmem).2.2) ((hl.2 _ hmem).2.2) (nd_mem hne0 hx2)) fun n2 hs2 r cs' ws hn2 hm2 hp hr hws => ?_
    · exact elem_ids (s := ⟨some g, some T', xs⟩) (c := cTab) (i := i) hlt (mem_idsL hx2 hq)
    obtain ⟨rfl, rfl⟩ := hp
    simp at hn2
    have hre2 : reL (phi (dSl (cS cI) xs[i].rel.rows).ids [dSl (cS cI) (mkS (mkS (mkI) (wtI)) (wtS wtI) xs[i].rel.rows (k + sumW wtTab (xs.take i) + 1 + 1))]) [D.str (mtext (k + sumW wtTab (xs.take i))), D.int .i64 (k + sumW wtTab (xs.take i) + 1), dSl (cS cI) xs[i].rel.rows] = some [D.str (mtext (k + sumW wtTab (xs.take i))), D.int .i64 (k + sumW wtTab (xs.take i) + 1), dSl (cS cI) (mkS (mkS (mkI) (wtI)) (wtS wtI) xs[i].rel.rows (k + sumW wtTab (xs.take i) + 1 + 1))] := reL_cons_iff.2 ⟨rfl, reL_cons_iff.2 ⟨rfl, reL_cons_iff.2 ⟨re_root (marksS marksI).len ((hw.2 _ hmem).2.2).1 (by simp) (fun g hg => mem_slids hg) [], rfl⟩⟩⟩
    have hse2 := re_elemD (g := g) (T := some T') (es := (mkAt mkTab wtTab xs k i).map cTab) (phi_out (W := (dSl (cS cI) xs[i].rel.rows).ids) (ws := [dSl (cS cI) (mkS (mkS (mkI) (wtI)) (wtS wtI) xs[i].rel.rows (k + sumW wtTab (xs.take i) + 1 + 1))]) (g := g) (fun h => hni0 (mem_idsL hx2 h))) hre2 (hap _ (fun q hq => mem_idsL hx2 hq) _)
    simp [dSl, cI, cReln, cS, cStr, cTab, mkS] at hse2 ⊢
    simp [hse2, hlt, hnn, nin_set hnn, idsL, D.ids, hni, hwi, mkS, ids_mk (wt := (wtS wtI)) (marksS marksI).ids]
    refine back (i + 1) (by omega) (by omega) rfl (by simp <;> omega) ?_ (by simp)
    simp [mkAt_succ hlt, e1, cI, cReln, cS, cStr, cTab, dSl]
    first
    | exact ⟨rfl, by omega⟩
    | (refine ⟨?_, by omega⟩; simp [mkI, mkReln, mkStr, mkTab, wtI, wtReln, wtStr, wtTab, mkS, Int.add_assoc, show ∀ x : Int, 1 + (1 + x) = 2 + x from fun x => by omega])
  · have hn : i = xs.length := by omega
    subst hn
    simp [dSl, vendX]
    refine ⟨[0], fun γ hs' h1 h2 => ?_⟩
    simp [mkS, mkAt_all]
theorem simT_Db {a : Db} (hw : whDb a) (k : Int) : Sim (cDb a) (cDb (mkTDb a k)) := sim_mk marksTab hw (k)
theorem w_laws_markDatabase (a : Db) (k : Int) (h0 : 1 ≤ k) (h1 : k + wtTDb a ≤ 4611686018427387904) (hw : whDb a) (hl : okDb a) (hnd : (idsL (cDb a)).Nodup) :
   VX Try.prog 13 (idsL (cDb a)) [.agg ((cDb a).map V.d), .d (.int .i64 k)] none (fun _ r _ ws => r = .d (.int .i64 (k + wtTDb a)) ∧ ws = cDb (mkTDb a k)) := by
  refine VX.of E s13 (by kernel_rfl) Try.func13 (by rfl) (by kernel_rfl) (by simp [Try.f13]) (by simp [Try.f13]) s13_ok ?_ ?_ fun B hB => ?_
  · exact fun g hg => .inl (by simpa [idsVL, V.ids, idsVL_map_d] using hg)
  · exact fun cs h => nomatch h
  have hwt : wtTDb a = wtS wtTab a.tabs := rfl
  have hnd0 := hnd
  simp only [cDb, idsL_app] at hnd0
  have nd0 : (idsL (cS cTab a.tabs)).Nodup := hnd0
  simp [Try.f13, cDb, cS]
  refine call_x (E35) (by simp) (by simp) (by simp) (fun q hq => .inr ?_) (w_laws_markTableS a.tabs (k) (by omega) (by omega) (hw) (hl) (by rw [← idsL_cS]; exact nd0)) fun n0 hs0 r cs' ws hn0 hm0 hp hr hws => ?_
  · simp only [idsL_app, idsL, List.append_nil, List.nil_append, List.append_assoc, List.mem_append, cDb, cS] at hq ⊢
    first | (simp [hq]; done) | (simp [D.ids] at hq ⊢; grind)
  obtain ⟨rfl, rfl⟩ := hp
  simp at hn0
  have hre0 : reL (phi ((dSl cTab a.tabs).ids) [dSl cTab (mkS (mkTab) (wtTab) a.tabs (k))]) (cS cTab a.tabs) = some (cS cTab (mkS (mkTab) (wtTab) a.tabs (k))) := by
    have := re_sim (sim_mk marksTab hw (k)) ((marksS marksTab).ids _ _) nd0
    rw [idsL_cS] at this
    exact this
  replace hre0 := reVL_map hre0
  simp only [cDb, cS, List.cons_append, List.nil_append, List.map_cons, List.map_nil, reVL_cons, reVL_nil, List.cons.injEq, and_true, reV_int, reV_str, true_and] at hre0
  simp [hre0, cDb, cS]
  simp [vendX]
  refine ⟨[0], fun γ hs' h1 h2 => ?_⟩
  simp [isD, dD, hwt, mkTDb, cDb, cS, reD]
  try omega

end Go.Proofs.Yteoeondjpgpiaaa

namespace Go.Proofs.Yteoeondjpgpiaaa
open Go.Vs Go.Proofs Go
set_option maxRecDepth 100000
set_option maxHeartbeats 1000000

attribute [simp] plI_id plStr_id map_plI map_plStr pS cP cI cStr cU8 cB
theorem w_impl_within (n lo hi : Int) : VC Try.prog 51 [.d (.int .i64 n), .d (.int .i64 lo), .d (.int .i64 hi)] (fun _ r => r = .d (.bool (inR n lo hi))) := by
  refine VC.ofL EP s51 (by kernel_rfl) Try.func51 (by rfl) (by kernel_rfl) (by simp [Try.f51]) (by simp [Try.f51]) s51_ok fun B hl => ?_
  by_cases h : lo ≤ n
  · simp [Try.f51, inR, h]
  · simp [Try.f51, inR, h]
theorem w_spec_l1In (n lo hi : Int) : VC Try.prog 42 [.d (.int .i64 n), .d (.int .i64 lo), .d (.int .i64 hi)] (fun _ r => r = .d (.bool (inR n lo hi))) := by
  refine VC.ofL EP s42 (by kernel_rfl) Try.func42 (by rfl) (by kernel_rfl) (by simp [Try.f42]) (by simp [Try.f42]) s42_ok fun B hl => ?_
  by_cases h : lo ≤ n
  · simp [Try.f42, inR, h]
  · simp [Try.f42, inR, h]
theorem w_impl_AreValidValues (xs : List Int) : VC Try.prog 87 [.d (pS cI xs)] (fun _ r => r = .d (.bool (valsOk xs))) := by
  refine VC.ofL EP s87 (by kernel_rfl) Try.func87 (by rfl) (by kernel_rfl) (by simp [Try.f87]) (by simp [Try.f87]) s87_ok fun B hl => ?_
  simp [pS, maxLen] at hl
  simp [Try.f87, pS]
  refine loop_rule (X := Nat) (fun i => i ≤ xs.length ∧ (xs.take i).all (fun v => inR v 0 99) = true) (fun i => [(5, .d (.pl (xs.map cI))), (6, .d (.int .i64 xs.length)), (7, .d (.int .i64 i))]) (fun _ => []) (fun i => xs.length - i) 0 (by simp) (by simp) (by simp) ?_
  intro i hs t m hi hh
  by_cases hlt : i < xs.length
  · have hwi := wr1 (i := i) (by omega)
    have hst := all_step (p := fun v => inR v 0 99) hlt
    rw [hi.2, Bool.true_and] at hst
    have hbad : inR xs[i] 0 99 = false → valsOk xs = false := all_bad (p := fun v => inR v 0 99) hlt
    simp [hlt, cI]
    refine call_f (w_impl_within xs[i] 0 99) (by simp) rfl fun hs1 hh1 => ?_
    cases hc : inR xs[i] 0 99
    · simp [hbad hc]
    · simp [hwi]
      simp at hh1
      exact back (i + 1) ⟨by omega, List.all_eq_true.1 (hst.trans hc)⟩ (by omega) rfl (by simp <;> omega) (by simp) (by simp)
  · have hd : valsOk xs = true := all_done (by omega) hi.2
    simp [hlt, hd]

end Go.Proofs.Yteoeondjpgpiaaa

namespace Go.Proofs.Yteoeondjpgpiaaa
open Go.Vs Go.Proofs Go
set_option maxRecDepth 100000
set_option maxHeartbeats 1000000

theorem w_spec_AreValidValues (xs : List Int) : VC Try.prog 74 [.d (pS cI xs)] (fun _ r => r = .d (.bool (valsOk xs))) := by
  refine VC.ofL EP s74 (by kernel_rfl) Try.func74 (by rfl) (by kernel_rfl) (by simp [Try.f74]) (by simp [Try.f74]) s74_ok fun B hl => ?_
  simp [pS, maxLen] at hl
  simp [Try.f74, pS]
  refine loop_rule (X := Nat) (fun i => i ≤ xs.length ∧ (xs.take i).all (fun v => inR v 0 99) = true) (fun i => [(0, .d (.pl (xs.map cI))), (3, .d (.int .i64 i))]) (fun _ => []) (fun i => xs.length - i) 0 (by simp) (by simp) (by simp) ?_
  intro i hs t m hi hh
  by_cases hlt : i < xs.length
  · have hwi := wr1 (i := i) (by omega)
    have hst := all_step (p := fun v => inR v 0 99) hlt
    rw [hi.2, Bool.true_and] at hst
    have hbad : inR xs[i] 0 99 = false → valsOk xs = false := all_bad (p := fun v => inR v 0 99) hlt
    simp [hlt, cI]
    refine call_f (w_spec_l1In xs[i] 0 99) (by simp) rfl fun hs1 hh1 => ?_
    simp at hh1
    cases hc : inR xs[i] 0 99
    · simp [hbad hc]
    · simp [hwi]
      exact back (i + 1) ⟨by omega, List.all_eq_true.1 (hst.trans hc)⟩ (by omega) rfl (by simp <;> omega) (by simp) (by simp)
  · have hd : valsOk xs = true := all_done (by omega) hi.2
    simp [hlt, hd]
theorem w_spec_CompareRows (a b : List Int) : VC Try.prog 75 [.d (pS cI a), .d (pS cI b)] (fun _ r => r = .d (.int .i64 (cmpL a b))) := by
  refine VC.ofL EP s75 (by kernel_rfl) Try.func75 (by rfl) (by kernel_rfl) (by simp [Try.f75]) (by simp [Try.f75]) s75_ok fun B hl => ?_
  simp [pS, maxLen, cI] at hl
  simp [Try.f75, s75_4, s75_6, pS]
  refine loop_rule (X := Nat) (fun i => i ≤ a.length ∧ i ≤ b.length ∧ cmpL a b = cmpL (a.drop i) (b.drop i)) (fun i => [(0, .d (.pl (a.map cI))), (1, .d (.pl (b.map cI))), (5, .d (.int .i64 i))]) (fun _ => []) (fun i => a.length - i) 0 (by simp) (by simp) (by simp) ?_
  intro i hs t m hi hh
  by_cases hlt : i < a.length
  · by_cases hlb : i < b.length
    · have hwi := wr1 (i := i) (by omega)
      have hc := cmpL_drop hlt hlb
      rw [← hi.2.2] at hc
      by_cases h1 : a[i] < b[i]
      · simp [cI, s75_4, s75_6, hlt, hlb, h1, hc]
      · by_cases h2 : b[i] < a[i]
        · simp [cI, s75_4, s75_6, hlt, hlb, h1, h2, hc]
        · simp only [h1, h2, if_false] at hc
          simp [cI, s75_4, s75_6, hlt, hlb, h1, h2, hwi]
          exact back (i + 1) ⟨by omega, by omega, hc⟩ (by omega) rfl (by simp) (by simp) (by simp)
    · have he := cmpL_end hi.1 hi.2.1 (by omega)
      rw [← hi.2.2] at he
      by_cases h1 : a.length < b.length
      · simp [hlt, hlb, h1, he]
      · by_cases h2 : b.length < a.length <;> simp [hlt, hlb, h1, h2, he]
  · have he := cmpL_end hi.1 hi.2.1 (by omega)
    rw [← hi.2.2] at he
    by_cases h1 : a.length < b.length
    · simp [hlt, h1, he]
    · by_cases h2 : b.length < a.length <;> simp [hlt, h1, h2, he]
theorem w_impl_compareInts (x y : Int) : VC Try.prog 90 [.d (.int .i64 x), .d (.int .i64 y)] (fun _ r => r = .d (.int .i64 (if x < y then -1 else if y < x then 1 else 0))) := by
  refine VC.ofL EP s90 (by kernel_rfl) Try.func90 (by rfl) (by kernel_rfl) (by simp [Try.f90]) (by simp [Try.f90]) s90_ok fun B hl => ?_
  by_cases h1 : x < y
  · simp [Try.f90, h1]
  · by_cases h2 : y < x <;> simp [Try.f90, h1, h2]
theorem w_impl_CompareRows (a b : List Int) : VC Try.prog 88 [.d (pS cI a), .d (pS cI b)] (fun _ r => r = .d (.int .i64 (cmpL a b))) := by
  refine VC.ofL EP s88 (by kernel_rfl) Try.func88 (by rfl) (by kernel_rfl) (by simp [Try.f88]) (by simp [Try.f88]) s88_ok fun B hl => ?_
  simp [pS, maxLen, cI] at hl
  simp [Try.f88, s88_4, s88_5, pS]
  refine loop_rule (X := Nat) (fun i => i ≤ a.length ∧ i ≤ b.length ∧ cmpL a b = cmpL (a.drop i) (b.drop i)) (fun i => [(0, .d (.pl (a.map cI))), (1, .d (.pl (b.map cI))), (5, .d (.int .i64 i))]) (fun _ => []) (fun i => a.length - i) 0 (by simp) (by simp) (by simp) ?_
  intro i hs t m hi hh
  by_cases hlt : i < a.length ∧ i < b.length
  · obtain ⟨hlt, hlb⟩ := hlt
    have hwi := wr1 (i := i) (by omega)
    have hc := cmpL_drop hlt hlb
    rw [← hi.2.2] at hc
    by_cases he : a[i] = b[i]
    · rw [if_neg (by omega), if_neg (by omega)] at hc
      simp [cI, s88_4, s88_5, hlt, hlb, hwi, he]
      exact back (i + 1) ⟨by omega, by omega, hc⟩ (by omega) rfl (by simp) (by simp) (by simp)
    · simp [cI, s88_4, s88_5, hlt, hlb, hwi, he]
      refine call_f (w_impl_compareInts a[i] b[i]) (by simp) rfl fun hs1 hh1 => ?_
      have : (if a[i] < b[i] then (-1 : Int) else if b[i] < a[i] then 1 else 0) = cmpL a b := by rw [hc]; by_cases h1 : a[i] < b[i] <;> simp [h1]; omega
      simp [this]
  · have he := cmpL_end hi.1 hi.2.1 hlt
    rw [← hi.2.2] at he
    have hcm : (if (a.length : Int) < b.length then (-1 : Int) else if (b.length : Int) < a.length then 1 else 0) = cmpL a b := by rw [he]; simp
    by_cases hl1 : i < a.length
    · have hl2 : ¬ i < b.length := fun h => hlt ⟨hl1, h⟩
      simp [hl1, hl2]
      refine call_f (w_impl_compareInts a.length b.length) (by simp) rfl fun hs1 hh1 => ?_
      simp only [hcm]
      simp
    · simp [hl1]
      refine call_f (w_impl_compareInts a.length b.length) (by simp) rfl fun hs1 hh1 => ?_
      simp only [hcm]
      simp

end Go.Proofs.Yteoeondjpgpiaaa

namespace Go.Proofs.Yteoeondjpgpiaaa
open Go.Vs Go.Proofs Go
set_option maxRecDepth 100000
set_option maxHeartbeats 1000000

theorem w_impl_rowsValid (ar : Int) (l : List (List Int)) : VC Try.prog 81 [.d (.int .i64 ar), .d (pS (cP cI) l)] (fun _ r => r = .d (.bool (rowsOk ar l))) := by
  refine VC.ofL EP s81 (by kernel_rfl) Try.func81 (by rfl) (by kernel_rfl) (by simp [Try.f81]) (by simp [Try.f81]) s81_ok fun B hl => ?_
  simp [pS, cP, cI, maxLen] at hl
  simp [Try.f81, pS]
  refine call_f (w_impl_within ar 0 5) (by simp) rfl fun hs0 hh0 => ?_
  simp at hh0
  cases h1 : inR ar 0 5
  · simp [rowsOk, h1]
  by_cases h2 : (4000 : Int) < l.length
  · simp [rowsOk, h2, show ¬ l.length ≤ 4000 by omega]
  have h2' : l.length ≤ 4000 := by omega
  simp [h2]
  refine loop_rule (X := Nat) (fun i => i ≤ l.length ∧ ∀ j, j < i → rowOk ar l j = true) (fun i => [(0, .d (.int .i64 ar)), (1, .d (.pl (l.map (cP cI)))), (15, .d (.pl (l.map (cP cI)))), (16, .d (.int .i64 l.length)), (17, .d (.int .i64 i))]) (fun _ => []) (fun i => l.length - i) 0 (by simp) (by simp) (by simp) ?_
  intro i hs t m hi hh
  by_cases hlt : i < l.length
  · have hwi := wr1 (i := i) (by omega)
    have hr : rowOk ar l i = (decide ((l[i].length : Int) = ar) && valsOk l[i] && (i == 0 || decide (cmpL (l.getD (i - 1) []) l[i] < 0))) := by simp [rowOk, hlt]
    have hbad := fun h => rows_bad (ar := ar) hlt h
    have step : rowOk ar l i = true → ∀ j, j < i + 1 → rowOk ar l j = true := fun h j hj => by
      rcases Nat.lt_succ_iff_lt_or_eq.1 hj with h' | h'
      · exact hi.2 j h'
      · rw [h']; exact h
    by_cases c1 : (l[i].length : Int) = ar
    case neg => simp [hlt, cP, pS, c1, hbad (by rw [hr]; simp [c1])]
    simp [hlt, cP, pS, c1]
    refine call_f (w_impl_AreValidValues l[i]) (by simp [pS]) rfl fun hs1 hh1 => ?_
    simp at hh1
    cases c2 : valsOk l[i]
    · simp [hbad (by rw [hr]; simp [c2])]
    by_cases c3 : i = 0
    · subst c3
      simp [hwi, show IntKind.i64.wrap 1 = 1 by decide]
      exact back 1 ⟨by omega, step (by rw [hr]; simp [c1, c2])⟩ (by omega) rfl (by simp <;> omega) (by simp [cP, pS, show IntKind.i64.wrap 1 = 1 by decide]) (by simp)
    · have hw1 : IntKind.i64.wrap ((i : Int) - 1) = ((i - 1 : Nat) : Int) := by rw [wrap64_of (by omega) (by omega)]; omega
      have hip : (0 : Int) < i := by omega
      have hlt1 : i - 1 < l.length := by omega
      have hg1 : l.getD (i - 1) [] = l[i - 1] := by simp [hlt1]
      rw [hg1] at hr
      simp [hip, hw1, hlt1, cP, pS, c3, show 0 < i by omega]
      refine call_f (w_impl_CompareRows l[i - 1] l[i]) (by simp [pS]) rfl fun hs2 hh2 => ?_
      simp at hh2
      by_cases c4 : cmpL l[i - 1] l[i] < 0
      · simp [hwi, show ¬ 0 ≤ cmpL l[i - 1] l[i] by omega]
        exact back (i + 1) ⟨by omega, step (by rw [hr]; simp [c1, c2, c4])⟩ (by omega) rfl (by simp <;> omega) (by simp [cP, pS]) (by simp)
      · simp [show 0 ≤ cmpL l[i - 1] l[i] by omega, hbad (by rw [hr]; simp [c3, c4])]
  · have hn : i = l.length := by omega
    have hd := rows_done h1 h2' (hn ▸ hi.2)
    simp [hlt, hd]
theorem w_impl_IsValidRelation (r : PReln) : VC Try.prog 67 [.agg ((eReln r).map .d)] (fun _ v => v = .d (.bool (rowsOk r.ar r.rows))) := by
  refine VC.ofL EP s67 (by kernel_rfl) Try.func67 (by rfl) (by kernel_rfl) (by simp [Try.f67]) (by simp [Try.f67]) s67_ok fun B hl => ?_
  simp [Try.f67, eReln, cI, cP]
  refine call_f (w_impl_rowsValid r.ar r.rows) (by simp [pS, cP]) rfl fun hs0 hh0 => ?_
  simp
theorem w_spec_IsValidRelation (r : PReln) : VC Try.prog 62 [.agg ((eReln r).map .d)] (fun _ v => v = .d (.bool (rowsOk r.ar r.rows))) := by
  obtain ⟨ar, l⟩ := r
  refine VC.ofL EP s62 (by kernel_rfl) Try.func62 (by rfl) (by kernel_rfl) (by simp [Try.f62]) (by simp [Try.f62]) s62_ok fun B hl => ?_
  simp [eReln, pS, cP, cI, maxLen] at hl
  simp [Try.f62, s62_6, eReln, cI, cP, pS]
  refine call_f (w_spec_l1In ar 0 5) (by simp) rfl fun hs0 hh0 => ?_
  simp at hh0
  cases h1 : inR ar 0 5
  · simp [rowsOk, h1]
  by_cases h2 : (4000 : Int) < l.length
  · simp [rowsOk, h2, show ¬ l.length ≤ 4000 by omega]
  have h2' : l.length ≤ 4000 := by omega
  simp [h2]
  refine loop_rule (X := Nat) (fun i => i ≤ l.length ∧ ∀ j, j < i → rowOk ar l j = true) (fun i => [(1, .ptr 1 0 0), (3, .d (.int .i64 i))]) (fun _ => [(1, some (.box [.d (.int .i64 ar), .d (.pl (l.map fun xs => [.pl (xs.map cI)]))]))]) (fun i => l.length - i) 0 (by simp) (by simp) (by simp [cI, cP, pS]) ?_
  intro i hs t m hi hh
  by_cases hlt : i < l.length
  · have hwi := wr1 (i := i) (by omega)
    have hr : rowOk ar l i = (decide ((l[i].length : Int) = ar) && valsOk l[i] && (i == 0 || decide (cmpL (l.getD (i - 1) []) l[i] < 0))) := by simp [rowOk, hlt]
    have hbad := fun h => rows_bad (ar := ar) hlt h
    have step : rowOk ar l i = true → ∀ j, j < i + 1 → rowOk ar l j = true := fun h j hj => by
      rcases Nat.lt_succ_iff_lt_or_eq.1 hj with h' | h'
      · exact hi.2 j h'
      · rw [h']; exact h
    by_cases c1 : (l[i].length : Int) = ar
    case neg => simp [hlt, s62_6, c1, hbad (by rw [hr]; simp [c1])]
    simp [hlt, s62_6, c1]
    refine call_f (w_spec_AreValidValues l[i]) (by simp [pS]) rfl fun hs1 hh1 => ?_
    simp at hh1
    cases c2 : valsOk l[i]
    · simp [hbad (by rw [hr]; simp [c2])]
    by_cases c3 : i = 0
    · subst c3
      simp [hwi, show IntKind.i64.wrap 1 = 1 by decide]
      exact back 1 ⟨by omega, step (by rw [hr]; simp [c1, c2])⟩ (by omega) rfl (by simp <;> omega) (by simp [show IntKind.i64.wrap 1 = 1 by decide]) (by simp)
    · have hw1 : IntKind.i64.wrap ((i : Int) - 1) = ((i - 1 : Nat) : Int) := by rw [wrap64_of (by omega) (by omega)]; omega
      have hip : (0 : Int) < i := by omega
      have hlt1 : i - 1 < l.length := by omega
      have hg1 : l.getD (i - 1) [] = l[i - 1] := by simp [hlt1]
      rw [hg1] at hr
      simp [hip, hw1, hlt1, hlt, c3, show 0 < i by omega]
      refine call_f (w_spec_CompareRows l[i - 1] l[i]) (by simp [pS]) rfl fun hs2 hh2 => ?_
      simp at hh2
      by_cases c4 : cmpL l[i - 1] l[i] < 0
      · simp [hwi, show ¬ 0 ≤ cmpL l[i - 1] l[i] by omega]
        exact back (i + 1) ⟨by omega, step (by rw [hr]; simp [c1, c2, c4])⟩ (by omega) rfl (by simp <;> omega) (by simp) (by simp)
      · simp [show 0 ≤ cmpL l[i - 1] l[i] by omega, hbad (by rw [hr]; simp [c3, c4])]
  · have hn : i = l.length := by omega
    have hd := rows_done h1 h2' (hn ▸ hi.2)
    simp [hlt, hd]

end Go.Proofs.Yteoeondjpgpiaaa

namespace Go.Proofs.Yteoeondjpgpiaaa
open Go.Vs Go.Proofs Go
set_option maxRecDepth 100000
set_option maxHeartbeats 1000000


end Go.Proofs.Yteoeondjpgpiaaa

namespace Go.Proofs.Yteoeondjpgpiaaa
open Go.Vs Go.Proofs Go
set_option maxRecDepth 100000
set_option maxHeartbeats 1000000

section
attribute [local simp] plI_id plStr_id map_plI map_plStr pS cP cI cStr cU8 cB
theorem w_impl_join (l : List (List UInt8)) (sep : List UInt8) (hw : strW sep.length l ≤ 4611686018427387904) : VC Try.prog 69 [.d (pS cStr l), .d (.str sep)] (fun _ r => r = .d (.str (joinB sep l))) := by
  refine VC.ofL EP s69 (by kernel_rfl) Try.func69 (by rfl) (by kernel_rfl) (by simp [Try.f69]) (by simp [Try.f69]) s69_ok fun B hl => ?_
  simp [pS, maxLen] at hl
  simp [Try.f69, ]
  refine loop_rule (X := Nat) (fun i => i ≤ l.length) (fun i => [(1, .d (.str sep)), (5, .d (.str (joinB sep (l.take i)))), (8, .d (.pl (l.map cStr))), (9, .d (.int .i64 l.length)), (10, .d (.int .i64 i))]) (fun _ => []) (fun i => l.length - i) 0 (by simp) (by simp [joinB]) (by simp) ?_
  intro i hs t m hi hh
  by_cases hlt : i < l.length
  · have hwi := wr1 (i := i) (by omega)
    have h1 := joinB_len sep (l.take i)
    have h2 := strW_at (s := sep.length) hlt
    have hst := joinB_step (sep := sep) hlt
    by_cases h0 : i = 0
    · subst h0
      have hwi0 : IntKind.i64.wrap 1 = 1 := by simpa using hwi
      have hst0 : joinB sep (l.take 1) = l[0] := by simpa [joinB] using hst
      have j0 : joinB sep [] = [] := rfl
      simp [hlt, hwi0, j0, ]
      refine ⟨by omega, ?_⟩
      exact back 1 (by omega) (by omega) rfl (by simp <;> omega) (by simp [hst0]) (by simp)
    · have h0' : 0 < i := by omega
      simp only [h0, if_false] at hst
      simp [hlt, h0, h0', hwi, ]
      refine ⟨by omega, by omega, ?_⟩
      exact back (i + 1) (by omega) (by omega) rfl (by simp <;> omega) (by simp [hst]) (by simp)
  · simp [hlt, List.take_of_length_le (show l.length ≤ i by omega)]
end

end Go.Proofs.Yteoeondjpgpiaaa

namespace Go.Proofs.Yteoeondjpgpiaaa
open Go.Vs Go.Proofs Go
set_option maxRecDepth 100000
set_option maxHeartbeats 1000000

section
attribute [local simp] plI_id plStr_id map_plI map_plStr pS cP cI cStr cU8 cB
theorem w_impl_FormatInt (n : Int) (hn : inZ n) : VC Try.prog 30 [.d (.int .i64 n)] (fun _ r => r = .d (.str (decZ n))) := by
  refine VC.ofL EP s30 (by kernel_rfl) Try.func30 (by rfl) (by kernel_rfl) (by simp [Try.f30]) (by simp [Try.f30]) s30_ok fun B hl => ?_
  simp only [inZ] at hn
  obtain ⟨neg, hneg⟩ : ∃ b : Bool, b = decide (n < 0) := ⟨_, rfl⟩
  simp [Try.f30, ]
  rw [← hneg]
  refine loop_ruleL (X := Int × List UInt8) (fun p _ => (-9223372036854775808 ≤ p.1 ∧ p.1 ≤ 9223372036854775807) ∧ (p.1 ≠ 0 ∨ p.2 = []) ∧ decN n.natAbs = decN p.1.natAbs ++ p.2) (fun p => [(0, .d (.int .i64 p.1)), (3, .d (.pl (p.2.map cU8))), (4, .d (.bool neg))]) (fun _ => []) (fun p => p.1.natAbs) ?_ ?_
  · refine (lead_slot 3 17 5 1 (by omega) (by omega) (by simp)).bind ?_
    rintro _ rfl
    refine (lead_frp 17 (T := 5) (sz := 1) (es := []) (by simp)).bind ?_
    rintro _ rfl
    exact Lead.of ⟨(n, []), ⟨hn, .inr rfl, by simp⟩, rfl, rfl, Nat.le_refl _, by simp [hneg], by simp⟩
  rintro ⟨p, ds⟩ hs t m ⟨hp, hp0, hd⟩ hh
  simp only at hp hp0 hd
  have hl20 : (decN n.natAbs).length ≤ 20 := decN_len20 (by omega)
  rw [hd, List.length_append] at hl20
  have hm : (p.tmod 10).natAbs = p.natAbs % 10 := by rw [Int.natAbs_tmod]; rfl
  have hq : (p.tdiv 10).natAbs = p.natAbs / 10 := by rw [Int.natAbs_tdiv]; rfl
  have hwq : IntKind.i64.wrap (p.tdiv 10) = p.tdiv 10 := wrap64_of (by omega) (by omega)
  obtain ⟨q, hqe⟩ : ∃ q, q = p.tdiv 10 := ⟨_, rfl⟩
  obtain ⟨r, hre⟩ : ∃ r, r = p.tmod 10 := ⟨_, rfl⟩
  obtain ⟨e, hee⟩ : ∃ e, e = p.natAbs % 10 := ⟨_, rfl⟩
  rw [← hqe] at hq hwq
  rw [← hre, ← hee] at hm
  have he10 : e < 10 := by omega
  have hw48 : IntKind.i64.wrap (48 + (e : Int)) = 48 + e := wrap64_of (by omega) (by omega)
  have hw8 : IntKind.u8.wrap (48 + (e : Int)) = 48 + e := by
    rw [IntKind.wrap_u8]; omega
  obtain ⟨g, hg⟩ : ∃ g : UInt8, g = UInt8.ofNat (48 + e) := ⟨_, rfl⟩
  have hc8 : ((g.toNat : Nat) : Int) = 48 + e := by
    have : g.toNat = 48 + e := by rw [hg]; simp; omega
    rw [this]; simp
  have hL : LenOk 1 (1 + ds.length) := ⟨by omega, by simp only [maxLen]; omega⟩
  have hst : ¬ q = 0 → decN n.natAbs = decN q.natAbs ++ g :: ds := fun h => by
    rw [hd, hq, decN_ge (by omega), hg, hee]; simp
  have hfin : q = 0 → decN n.natAbs = g :: ds := fun h => by
    have : p.natAbs < 10 := by omega
    rw [hd, decN_lt this, hg, hee, Nat.mod_eq_of_lt this]; rfl
  have hout : q = 0 → decZ n = if neg then 45 :: g :: ds else g :: ds := fun h => by
    rw [decZ, hfin h, hneg]; simp
  have hback : ¬ q = 0 → q.natAbs < p.natAbs := fun h => by omega
  have hL2 : LenOk 1 (ds.length + 1) := by rw [Nat.add_comm]; exact hL
  have he0 : ¬ (e : Int) < 0 := by omega
  have hw0z : IntKind.i64.wrap 0 = 0 := wrap64_of (by omega) (by omega)
  have a1 : 1 + ds.length = ds.length + 1 := Nat.add_comm _ _
  have hB1 : toB [D.int IntKind.u8 (48 + (e : Int))] = g := by
    have : (48 + (e : Int)).toNat = 48 + e := by omega
    rw [hg]; simp only [toB, this]
  have hB2 : ds.map (toB ∘ cU8) = ds := by
    have : (toB ∘ cU8) = id := by funext b; simp [toB, cU8]
    rw [this, List.map_id]
  have hB3 : ∀ x ∈ ([D.int IntKind.u8 (48 + (e : Int))] :: ds.map cU8), isB x = true := fun x hx => by
    rcases List.mem_cons.1 hx with h | h
    · subst h; rfl
    · obtain ⟨b, _, rfl⟩ := List.mem_map.1 h; rfl
  have hB4 : ∀ x ∈ ds, isB (cU8 x) = true := fun x _ => rfl
  have hB5 : isB [D.int IntKind.u8 (48 + (e : Int))] = true := rfl
  have hlen2 : 1 + (ds.length + 1) ≤ 9223372036854775807 := by omega
  by_cases h0 : r < 0
  · have hwn : IntKind.i64.wrap (-r) = e := by rw [wrap64_of (by omega) (by omega)]; omega
    by_cases hz : q = 0
    · have ho := hout hz
      cases hn2 : neg
      · simp [hn2] at ho
        simp [← hre, ← hqe, h0, hwn, hw48, hw8, hwq, hz, hw0z, hL2, ho, hn2, hc8, a1, hB1, hB2, hB4, hB5, List.take_of_length_le, ]
        exact fun x hx => rfl
      · simp [hn2] at ho
        simp [← hre, ← hqe, h0, hwn, hw48, hw8, hwq, hz, hw0z, hL2, ho, hn2, hc8, a1, hB1, hB2, hB4, hB5, hlen2, List.take_of_length_le, ]
        exact fun x hx => rfl
    · simp [← hre, ← hqe, h0, hwn, hw48, hw8, hwq, hz, hL, hc8, ]
      refine Back2.lead (lead_frp 17 (T := 5) (sz := 1) (es := [D.int IntKind.u8 (48 + (e : Int))] :: ds.map cU8) (by simp)) ?_
      rintro _ rfl
      refine back2 (q, g :: ds) ⟨by simp only; omega, .inl hz, hst hz⟩ (hback hz) rfl (by simp <;> omega) (by simp [hc8, a1, List.take_of_length_le]) (by simp)
  · have hr2 : r = (e : Int) := by omega
    by_cases hz : q = 0
    · have ho := hout hz
      cases hn2 : neg
      · simp [hn2] at ho
        simp [← hre, ← hqe, h0, hr2, he0, hw48, hw8, hwq, hz, hw0z, hL2, ho, hn2, hc8, a1, hB1, hB2, hB4, hB5, List.take_of_length_le, ]
        exact fun x hx => rfl
      · simp [hn2] at ho
        simp [← hre, ← hqe, h0, hr2, he0, hw48, hw8, hwq, hz, hw0z, hL2, ho, hn2, hc8, a1, hB1, hB2, hB4, hB5, hlen2, List.take_of_length_le, ]
        exact fun x hx => rfl
    · simp [← hre, ← hqe, h0, hr2, he0, hw48, hw8, hwq, hz, hL, hc8, ]
      refine Back2.lead (lead_frp 17 (T := 5) (sz := 1) (es := [D.int IntKind.u8 (48 + (e : Int))] :: ds.map cU8) (by simp)) ?_
      rintro _ rfl
      refine back2 (q, g :: ds) ⟨by simp only; omega, .inl hz, hst hz⟩ (hback hz) rfl (by simp <;> omega) (by simp [hc8, a1, List.take_of_length_le]) (by simp)
end

end Go.Proofs.Yteoeondjpgpiaaa

namespace Go.Proofs.Yteoeondjpgpiaaa
open Go.Vs Go.Proofs Go
set_option maxRecDepth 100000
set_option maxHeartbeats 1000000

section
attribute [local simp] plI_id plStr_id map_plI map_plStr pS cP cI cStr cU8 cB
theorem w_impl_split (s : List UInt8) (c : UInt8) (hb : s.length ≤ 1000000000) : VC Try.prog 78 [.d (.str s), .d (.int .u8 c.toNat)] (fun _ r => r = .d (pS cStr (cutB c s))) := by
  refine VC.ofL EP s78 (by kernel_rfl) Try.func78 (by rfl) (by kernel_rfl) (by simp [Try.f78]) (by simp [Try.f78]) s78_ok fun B hl => ?_
  simp [Try.f78, ]
  refine loop_ruleL (X := Nat × Nat × List (List UInt8)) (fun p _ => CutI c s p ∨ (p.2.1 = s.length + 1 ∧ p.2.2 = cutB c s)) (fun p => [(0, .d (.str s)), (1, .d (.int .u8 c.toNat)), (5, .own 900 0 p.2.2.length), (6, .d (.int .i64 p.1)), (7, .d (.int .i64 p.2.1))]) (fun p => [(900, some (.row 9 1 (p.2.2.map cStr)))]) (fun p => s.length + 1 - p.2.1) ?_ ?_
  · refine (lead_slot 5 900 9 1 (by omega) (by omega) (by simp)).bind ?_
    rintro _ rfl
    exact Lead.of ⟨(0, 0, []), .inl .zero, rfl, rfl, Nat.le_refl _, by simp, by simp⟩
  rintro ⟨f, i, out⟩ hs t m hI hh
  rcases hI with hI | ⟨h1, h2⟩
  case inr =>
    simp only at h1 h2
    subst h1 h2
    have : ¬ (s.length : Int) + 1 ≤ s.length := by omega
    simp [this, List.take_of_length_le, ]
  have hf := hI.fr
  have hi := hI.le
  have hol := hI.len
  simp only at hf hi hol
  have hwi := wr1 (i := i) (by omega)
  have hL : LenOk 16 (out.length + 1) := ⟨by omega, by simp only [maxLen]; omega⟩
  by_cases hlt : i < s.length
  · have hne : ¬ (i : Int) = s.length := by omega
    by_cases e : s[i] = c
    · have hn := hI.hit hlt e
      simp [hlt, hi, hne, e, hwi, hL, hf, ]
      exact back2 (i + 1, i + 1, _) (.inl hn) (by simp only; omega) rfl (by simp <;> omega) (by simp) (by simp [List.take_of_length_le])
    · have hn := hI.miss hlt e
      have e' : ¬ s[i].toNat = c.toNat := fun h => e (UInt8.toNat_inj.1 h)
      simp [hlt, hi, hne, e, e', hwi, hL, ]
      exact back2 (f, i + 1, out) (.inl hn) (by simp only; omega) rfl (by simp <;> omega) (by simp) (by simp)
  · have hn := hI.done (by omega)
    have hil : i = s.length := by omega
    subst hil
    simp [hwi, hL, hf, ]
    exact back2 (s.length + 1, s.length + 1, out ++ [(s.drop f).take (s.length - f)]) (.inr ⟨rfl, hn.1⟩) (by simp only; omega) rfl (by simp <;> omega) (by simp) (by simp [List.take_of_length_le])
theorem w_spec_l5Cut (s : List UInt8) (c : UInt8) (hb : s.length ≤ 1000000000) : VC Try.prog 59 [.d (.str s), .d (.int .u8 c.toNat)] (fun _ r => r = .d (pS cStr (cutB c s))) := by
  refine VC.ofL EP s59 (by kernel_rfl) Try.func59 (by rfl) (by kernel_rfl) (by simp [Try.f59]) (by simp [Try.f59]) s59_ok fun B hl => ?_
  simp [Try.f59, ]
  refine loop_rule (X := Nat × Nat × List (List UInt8)) (fun p => CutI c s p) (fun p => [(0, .d (.str s)), (1, .d (.int .u8 c.toNat)), (5, .own 8 0 p.2.2.length), (6, .d (.int .i64 p.1)), (7, .d (.int .i64 p.2.1))]) (fun p => [(8, some (.row 9 1 (p.2.2.map cStr)))]) (fun p => s.length - p.2.1) (0, 0, []) .zero (by simp) (by simp) ?_
  rintro ⟨f, i, out⟩ hs t m hI hh
  have hf := hI.fr
  have hi := hI.le
  have hol := hI.len
  simp only at hf hi hol
  have hwi := wr1 (i := i) (by omega)
  have hL : LenOk 16 (out.length + 1) := ⟨by omega, by simp only [maxLen]; omega⟩
  by_cases hlt : i < s.length
  · by_cases e : s[i] = c
    · have hn := hI.hit hlt e
      simp [hlt, e, hwi, hL, hf, hi, ]
      exact back (i + 1, i + 1, _) hn (by simp only; omega) rfl (by simp <;> omega) (by simp) (by simp [List.take_of_length_le])
    · have hn := hI.miss hlt e
      have e' : ¬ s[i].toNat = c.toNat := fun h => e (UInt8.toNat_inj.1 h)
      simp [hlt, e, e', hwi, hL, ]
      exact back (f, i + 1, out) hn (by simp only; omega) rfl (by simp <;> omega) (by simp) (by simp)
  · have hn := hI.done (by omega)
    have hil : i = s.length := by omega
    subst hil
    simp [hL, hf, ]
    rw [List.take_of_length_le (by simp), ← hn.1]; simp
end

end Go.Proofs.Yteoeondjpgpiaaa

namespace Go.Proofs.Yteoeondjpgpiaaa
open Go.Vs Go.Proofs Go
set_option maxRecDepth 100000
set_option maxHeartbeats 1000000

section
attribute [local simp] plI_id plStr_id map_plI map_plStr pS cP cI cStr cU8 cB
theorem w_impl_isLetters (s : List UInt8) : VC Try.prog 80 [.d (.str s), .d (.int .i64 4)] (fun _ r => r = .d (.bool (nameOk s))) := by
  refine VC.ofL EP s80 (by kernel_rfl) Try.func80 (by rfl) (by kernel_rfl) (by simp [Try.f80]) (by simp [Try.f80]) s80_ok fun B hl => ?_
  by_cases h1 : (s.length : Int) < 1
  · have : s = [] := List.length_eq_zero_iff.1 (by omega)
    subst this
    simp [Try.f80, nameOk_len]
  by_cases h4 : (4 : Int) < s.length
  · have : nameOk s = false := nameOk_len (by omega)
    simp [Try.f80, h1, h4, this]
  have hlen : 1 ≤ s.length ∧ s.length ≤ 4 := by omega
  simp [Try.f80, h1, h4]
  refine loop_rule (X := Nat) (fun i => i ≤ s.length ∧ AllTo lowB s i) (fun i => [(0, .d (.str s)), (5, .d (.int .i64 i))]) (fun _ => []) (fun i => s.length - i) 0 ⟨by simp, allTo_zero⟩ (by simp) (by simp) ?_
  intro i hs t m hi hh
  by_cases hlt : i < s.length
  · have hwi := wr1 (i := i) (by omega)
    by_cases ha : ((s[i]).toNat : Int) < 97
    · have hbad := nameOk_bad (all_bad (p := lowB) hlt (lowB_lo ha))
      simp [hlt, ha, hbad, ]
    · by_cases hz : (122 : Int) < ((s[i]).toNat : Int)
      · have hbad := nameOk_bad (all_bad (p := lowB) hlt (lowB_hi hz))
        simp [hlt, ha, hz, hbad, ]
      · simp [hlt, ha, hz, hwi, ]
        exact back (i + 1) ⟨by omega, allTo_step hi.2 hlt (lowB_ok ha hz)⟩ (by omega) rfl (by simp <;> omega) (by simp) (by simp)
  · have hd := allTo_done hi.2 (by omega)
    have hd2 : nameOk s = true := by rw [nameOk_ok hd, decide_eq_true hlen]
    simp [hlt, hd2]
theorem w_impl_IsValidName (s : List UInt8) : VC Try.prog 66 [.d (.str s)] (fun _ r => r = .d (.bool (nameOk s))) := by
  refine VC.ofL EP s66 (by kernel_rfl) Try.func66 (by rfl) (by kernel_rfl) (by simp [Try.f66]) (by simp [Try.f66]) s66_ok fun B hl => ?_
  simp [Try.f66, ]
  refine call_f (w_impl_isLetters s) (by simp) rfl fun hs1 hh1 => ?_
  simp
theorem w_spec_IsValidName (s : List UInt8) (hb : s.length ≤ maxLen) : VC Try.prog 61 [.d (.str s)] (fun _ r => r = .d (.bool (nameOk s))) := by
  refine VC.ofL EP s61 (by kernel_rfl) Try.func61 (by rfl) (by kernel_rfl) (by simp [Try.f61]) (by simp [Try.f61]) s61_ok fun B hl => ?_
  simp only [maxLen] at hb
  simp [Try.f61, ]
  refine loop_rule (X := Nat) (fun i => i ≤ s.length ∧ AllTo lowB s i) (fun i => [(0, .d (.str s)), (3, .d (.int .i64 i))]) (fun _ => []) (fun i => s.length - i) 0 ⟨by simp, allTo_zero⟩ (by simp) (by simp) ?_
  intro i hs t m hi hh
  by_cases hlt : i < s.length
  · have hwi := wr1 (i := i) (by omega)
    by_cases ha : ((s[i]).toNat : Int) < 97
    · have hbad := nameOk_bad (all_bad (p := lowB) hlt (lowB_lo ha))
      simp [hlt, ha, hbad, ]
    · by_cases hz : (122 : Int) < ((s[i]).toNat : Int)
      · have hbad := nameOk_bad (all_bad (p := lowB) hlt (lowB_hi hz))
        simp [hlt, ha, hz, hbad, ]
      · simp [hlt, ha, hz, hwi, ]
        exact back (i + 1) ⟨by omega, allTo_step hi.2 hlt (lowB_ok ha hz)⟩ (by omega) rfl (by simp <;> omega) (by simp) (by simp)
  · have hd := allTo_done hi.2 (by omega)
    simp [hlt, ]
    refine call_f (w_spec_l1In s.length 1 4) (by simp) rfl fun hs1 hh1 => ?_
    have e : inR (s.length : Int) 1 4 = decide (1 ≤ s.length ∧ s.length ≤ 4) := by
      simp only [inR, ← Bool.decide_and]; congr 1; apply propext; omega
    rw [e, nameOk_ok hd]
    simp
end

end Go.Proofs.Yteoeondjpgpiaaa

namespace Go.Proofs.Yteoeondjpgpiaaa
open Go.Vs Go.Proofs Go
set_option maxRecDepth 100000
set_option maxHeartbeats 1000000

section
attribute [local simp] plI_id plStr_id map_plI map_plStr pS cP cI cStr cU8 cB eTab eReln
theorem w_impl_IsValidDatabase (d : PDb) : VC Try.prog 50 [.agg ((eDb d).map V.d)] (fun _ r => r = .d (.bool (dbOk d))) := by
  refine VC.ofL EP s50 (by kernel_rfl) Try.func50 (by rfl) (by kernel_rfl) (by simp [Try.f50]) (by simp [Try.f50]) s50_ok fun B hl => ?_
  obtain ⟨l⟩ := d
  by_cases h6 : (6 : Int) < l.length
  · have : dbOk ⟨l⟩ = false := by
      have : ¬ l.length ≤ 6 := by omega
      simp only [dbOk, this, decide_false, Bool.false_and]
    simp [Try.f50, s50_6, s50_6, eDb, h6, this]
  simp [Try.f50, s50_6, s50_6, eDb, h6]
  refine loop_rule (X := Nat) (DbTo l) (fun i => [(1, .ptr 1 0 0), (10, .d (.pl (l.map eTab))), (11, .d (.int .i64 l.length)), (12, .d (.int .i64 i))]) (fun _ => [(1, some (.box [.d (.pl (l.map eTab))]))]) (fun i => l.length - i) 0 .zero (by simp) (by simp) ?_
  intro i hs t m hi hh
  have hil := hi.le
  by_cases hlt : i < l.length
  case neg =>
    have hd := hi.done (by omega)
    simp [hlt, hd]
    omega
  have hwi := wr1 (i := i) (by omega)
  have hat := dbAt_eq hlt
  have hbad : dbAt l i = false → dbOk ⟨l⟩ = false := dbOk_bad hlt
  obtain ⟨nm, ar, rows, hT⟩ : ∃ nm ar rows, l[i] = ⟨nm, ⟨ar, rows⟩⟩ := ⟨_, _, _, rfl⟩
  rw [hT] at hat
  simp only [tabOk] at hat
  simp [hlt, hT, s50_6, ]
  refine call_f (w_impl_IsValidName nm) (by simp) rfl fun hs1 hh1 => ?_
  simp at hh1
  cases h1 : nameOk nm
  · have hb := hbad (by rw [hat, h1]; simp)
    simp [hb, s50_6, ]
  by_cases h0 : i = 0
  · subst h0
    have hwi0 : IntKind.i64.wrap 1 = 1 := by simpa using hwi
    simp [hT, s50_6, ]
    refine call_f (w_impl_IsValidRelation ⟨ar, rows⟩) (by simp [eReln]) rfl fun hs2 hh2 => ?_
    simp at hh2
    cases h3 : rowsOk ar rows
    · have hb := hbad (by rw [hat, h3]; simp)
      simp [hb, s50_6, ]
    by_cases h4 : ar < 1
    · have hb := hbad (by rw [hat]; have : ¬ 1 ≤ ar := by omega
                          simp [this])
      simp [h4, hb, hT, s50_6, ]
    by_cases h5 : (16 : Int) < rows.length
    · have hb := hbad (by rw [hat]; have : ¬ rows.length ≤ 16 := by omega
                          simp [this])
      simp [h4, h5, hb, hT, s50_6, ]
    have hok : dbAt l 0 = true := by
      have a4 : 1 ≤ ar := by omega
      have a5 : rows.length ≤ 16 := by omega
      rw [hat, h1, h3]; simp [a4, a5]
    simp [h4, h5, hT, hwi0, s50_6, ]
    exact back 1 (hi.step hlt hok) (by omega) rfl (by simp <;> omega) (by simp) (by simp)
  · have h0' : 0 < i := by omega
    have hw : IntKind.i64.wrap ((i : Int) - 1) = ((i - 1 : Nat) : Int) := by rw [wrap64_of (by omega) (by omega)]; omega
    have hlt1 : i - 1 < l.length := by omega
    cases h2 : Op.bytesLess (l[i - 1]'(by omega)).name nm
    · have hb := hbad (by rw [hat, h2]; simp [h0])
      simp [h0, h0', hw, hlt1, hT, h2, hb, s50_6, ]
    simp [h0, h0', hw, hlt1, hT, h2, s50_6, ]
    refine call_f (w_impl_IsValidRelation ⟨ar, rows⟩) (by simp [eReln]) rfl fun hs2 hh2 => ?_
    simp at hh2
    cases h3 : rowsOk ar rows
    · have hb := hbad (by rw [hat, h3]; simp)
      simp [hb, s50_6, ]
    by_cases h4 : ar < 1
    · have hb := hbad (by rw [hat]; have : ¬ 1 ≤ ar := by omega
                          simp [this])
      simp [h4, hb, hT, s50_6, ]
    by_cases h5 : (16 : Int) < rows.length
    · have hb := hbad (by rw [hat]; have : ¬ rows.length ≤ 16 := by omega
                          simp [this])
      simp [h4, h5, hb, hT, s50_6, ]
    have hok : dbAt l i = true := by
      have a4 : 1 ≤ ar := by omega
      have a5 : rows.length ≤ 16 := by omega
      rw [hat, h1, h3]; simp [a4, a5, h2]
    simp [h4, h5, hT, hwi, s50_6, ]
    exact back (i + 1) (hi.step hlt hok) (by omega) rfl (by simp <;> omega) (by simp) (by simp)
theorem w_spec_IsValidDatabase (d : PDb) (hst : ∀ t ∈ d.tabs, t.name.length ≤ maxLen) : VC Try.prog 41 [.agg ((eDb d).map V.d)] (fun _ r => r = .d (.bool (dbOk d))) := by
  refine VC.ofL EP s41 (by kernel_rfl) Try.func41 (by rfl) (by kernel_rfl) (by simp [Try.f41]) (by simp [Try.f41]) s41_ok fun B hl => ?_
  obtain ⟨l⟩ := d
  simp [pS, maxLen, eDb] at hl
  simp only at hst
  simp [Try.f41, s41_5, s41_5, eDb]
  refine loop_rule (X := Nat) (DbTo l) (fun i => [(1, .ptr 1 0 0), (3, .d (.int .i64 i))]) (fun _ => [(1, some (.box [.d (.pl (l.map eTab))]))]) (fun i => l.length - i) 0 .zero (by simp) (by simp) ?_
  intro i hs t m hi hh
  have hil := hi.le
  by_cases hlt : i < l.length
  case neg =>
    have hd := hi.done (by omega)
    simp [hlt, hd]
    omega
  have hwi := wr1 (i := i) (by omega)
  have hat := dbAt_eq hlt
  have hbad : dbAt l i = false → dbOk ⟨l⟩ = false := dbOk_bad hlt
  obtain ⟨nm, ar, rows, hT⟩ : ∃ nm ar rows, l[i] = ⟨nm, ⟨ar, rows⟩⟩ := ⟨_, _, _, rfl⟩
  rw [hT] at hat
  simp only [tabOk] at hat
  have hnl : nm.length ≤ maxLen := by have := hst l[i] (List.getElem_mem hlt); rwa [hT] at this
  simp [hlt, hT, s41_5, ]
  refine call_f (w_spec_IsValidName nm hnl) (by simp) rfl fun hs1 hh1 => ?_
  simp at hh1
  cases h1 : nameOk nm
  · have hb := hbad (by rw [hat, h1]; simp)
    simp [hb, s41_5, ]
  by_cases h0 : i = 0
  · subst h0
    have hwi0 : IntKind.i64.wrap 1 = 1 := by simpa using hwi
    simp [hT, s41_5, ]
    refine call_f (w_spec_IsValidRelation ⟨ar, rows⟩) (by simp [eReln]) rfl fun hs2 hh2 => ?_
    simp at hh2
    cases h3 : rowsOk ar rows
    · have hb := hbad (by rw [hat, h3]; simp)
      simp [hb, s41_5, ]
    by_cases h5 : (16 : Int) < rows.length
    · have hb := hbad (by rw [hat]; have : ¬ rows.length ≤ 16 := by omega
                          simp [this])
      simp [h5, hb, hT, s41_5, ]
    by_cases h4 : ar < 1
    · have hb := hbad (by rw [hat]; have : ¬ 1 ≤ ar := by omega
                          simp [this])
      simp [h4, h5, hb, hT, s41_5, ]
    have hok : dbAt l 0 = true := by
      have a4 : 1 ≤ ar := by omega
      have a5 : rows.length ≤ 16 := by omega
      rw [hat, h1, h3]; simp [a4, a5]
    simp [h4, h5, hT, hwi0, s41_5, ]
    exact back 1 (hi.step hlt hok) (by omega) rfl (by simp <;> omega) (by simp) (by simp)
  · have h0' : 0 < i := by omega
    have hw : IntKind.i64.wrap ((i : Int) - 1) = ((i - 1 : Nat) : Int) := by rw [wrap64_of (by omega) (by omega)]; omega
    have hlt1 : i - 1 < l.length := by omega
    cases h2 : Op.bytesLess (l[i - 1]'(by omega)).name nm
    · have hb := hbad (by rw [hat, h2]; simp [h0])
      simp [h0, h0', hw, hlt1, hT, h2, hb, s41_5, ]
    simp [h0, h0', hw, hlt1, hT, h2, s41_5, ]
    refine call_f (w_spec_IsValidRelation ⟨ar, rows⟩) (by simp [eReln]) rfl fun hs2 hh2 => ?_
    simp at hh2
    cases h3 : rowsOk ar rows
    · have hb := hbad (by rw [hat, h3]; simp)
      simp [hb, s41_5, ]
    by_cases h5 : (16 : Int) < rows.length
    · have hb := hbad (by rw [hat]; have : ¬ rows.length ≤ 16 := by omega
                          simp [this])
      simp [h5, hb, hT, s41_5, ]
    by_cases h4 : ar < 1
    · have hb := hbad (by rw [hat]; have : ¬ 1 ≤ ar := by omega
                          simp [this])
      simp [h4, h5, hb, hT, s41_5, ]
    have hok : dbAt l i = true := by
      have a4 : 1 ≤ ar := by omega
      have a5 : rows.length ≤ 16 := by omega
      rw [hat, h1, h3]; simp [a4, a5, h2]
    simp [h4, h5, hT, hwi, s41_5, ]
    exact back (i + 1) (hi.step hlt hok) (by omega) rfl (by simp <;> omega) (by simp) (by simp)
end

end Go.Proofs.Yteoeondjpgpiaaa

namespace Go.Proofs.Yteoeondjpgpiaaa
open Go.Vs Go.Proofs Go
set_option maxRecDepth 100000
set_option maxHeartbeats 1000000

section
attribute [local simp] plI_id plStr_id map_plI map_plStr pS cP cI cStr cU8 cB
theorem w_impl_ChecksumOf (s : List UInt8) (hb : s.length ≤ 4611686018427387904) : VC Try.prog 53 [.d (.str s)] (fun _ r => r = .d (.int .i64 (ckS s))) := by
  refine VC.ofL EP s53 (by kernel_rfl) Try.func53 (by rfl) (by kernel_rfl) (by simp [Try.f53]) (by simp [Try.f53]) s53_ok fun B hl => ?_
  simp [Try.f53, ]
  refine loop_rule (X := Nat) (fun i => i ≤ s.length) (fun i => [(0, .d (.str s)), (3, .d (.int .i64 (ckS (s.take i)))), (4, .d (.int .i64 i))]) (fun _ => []) (fun i => s.length - i) 0 (by simp) (by simp [ckS]) (by simp) ?_
  intro i hs t m hi hh
  by_cases hlt : i < s.length
  · have hwi := wr1 (i := i) (by omega)
    have hst := ckS_step hlt
    have hx := ckS_in (s.take i)
    have hb8 := (s[i]).toNat_lt
    obtain ⟨x, hxe⟩ : ∃ x, x = ckS (s.take i) := ⟨_, rfl⟩
    obtain ⟨b, hbe⟩ : ∃ b, b = s[i] := ⟨_, rfl⟩
    rw [← hxe] at hx hst ⊢
    rw [← hbe] at hb8 hst
    have w1 : IntKind.i64.wrap (31 * x) = 31 * x := wrap64_of (by omega) (by omega)
    have w1' : IntKind.i64.wrap (x * 31) = 31 * x := by rw [Int.mul_comm]; exact w1
    have w2 : IntKind.i64.wrap ((b.toNat : Nat) : Int) = b.toNat := wrap64_of (by omega) (by omega)
    have w3 : IntKind.i64.wrap (31 * x + (b.toNat : Int)) = 31 * x + b.toNat := wrap64_of (by omega) (by omega)
    have w4 : IntKind.i64.wrap (31 * x + (b.toNat : Int) + 1) = 31 * x + b.toNat + 1 := wrap64_of (by omega) (by omega)
    simp [hlt, ← hbe, w1, w1', w2, w3, w4, hwi, ]
    exact back (i + 1) (by omega) (by omega) rfl (by simp <;> omega) (by simp [hst, ckB]) (by simp)
  · simp [hlt, List.take_of_length_le (show s.length ≤ i by omega)]
theorem w_spec_ChecksumOf (s : List UInt8) (hb : s.length ≤ 4611686018427387904) : VC Try.prog 46 [.d (.str s)] (fun _ r => r = .d (.int .i64 (ckS s))) := by
  refine VC.ofL EP s46 (by kernel_rfl) Try.func46 (by rfl) (by kernel_rfl) (by simp [Try.f46]) (by simp [Try.f46]) s46_ok fun B hl => ?_
  simp [Try.f46, ]
  refine loop_rule (X := Nat) (fun i => i ≤ s.length) (fun i => [(0, .d (.str s)), (3, .d (.int .i64 (ckS (s.take i)))), (4, .d (.int .i64 i))]) (fun _ => []) (fun i => s.length - i) 0 (by simp) (by simp [ckS]) (by simp) ?_
  intro i hs t m hi hh
  by_cases hlt : i < s.length
  · have hwi := wr1 (i := i) (by omega)
    have hst := ckS_step hlt
    have hx := ckS_in (s.take i)
    have hb8 := (s[i]).toNat_lt
    obtain ⟨x, hxe⟩ : ∃ x, x = ckS (s.take i) := ⟨_, rfl⟩
    obtain ⟨b, hbe⟩ : ∃ b, b = s[i] := ⟨_, rfl⟩
    rw [← hxe] at hx hst ⊢
    rw [← hbe] at hb8 hst
    have w1 : IntKind.i64.wrap (31 * x) = 31 * x := wrap64_of (by omega) (by omega)
    have w1' : IntKind.i64.wrap (x * 31) = 31 * x := by rw [Int.mul_comm]; exact w1
    have w2 : IntKind.i64.wrap ((b.toNat : Nat) : Int) = b.toNat := wrap64_of (by omega) (by omega)
    have w3 : IntKind.i64.wrap (31 * x + (b.toNat : Int)) = 31 * x + b.toNat := wrap64_of (by omega) (by omega)
    have w4 : IntKind.i64.wrap (31 * x + (b.toNat : Int) + 1) = 31 * x + b.toNat + 1 := wrap64_of (by omega) (by omega)
    simp [hlt, ← hbe, w1, w1', w2, w3, w4, hwi, ]
    exact back (i + 1) (by omega) (by omega) rfl (by simp <;> omega) (by simp [hst, ckB]) (by simp)
  · simp [hlt, List.take_of_length_le (show s.length ≤ i by omega)]
theorem w_spec_FormatInt (n : Int) (hn : inZ n) : VC Try.prog 45 [.d (.int .i64 n)] (fun _ r => r = .d (.str (decZ n))) := by
  refine VC.ofL EP s45 (by kernel_rfl) Try.func45 (by rfl) (by kernel_rfl) (by simp [Try.f45]) (by simp [Try.f45]) s45_ok fun B hl => ?_
  simp only [inZ] at hn
  by_cases hn0 : n = 0
  · subst hn0
    have : decZ 0 = [48] := by rw [decZ, if_neg (by omega)]; exact decN_lt (by omega)
    simp [Try.f45, this]
  obtain ⟨neg, hneg⟩ : ∃ b : Bool, b = decide (n < 0) := ⟨_, rfl⟩
  simp [Try.f45, hn0]
  rw [← hneg]
  refine loop_rule (X := Int × List UInt8) (fun p => (-9223372036854775808 ≤ p.1 ∧ p.1 ≤ 9223372036854775807) ∧ (if p.1 = 0 then decN n.natAbs = p.2 else decN n.natAbs = decN p.1.natAbs ++ p.2)) (fun p => [(0, .d (.int .i64 p.1)), (3, .d (.str p.2)), (4, .d (.bool neg))]) (fun _ => []) (fun p => p.1.natAbs) (n, []) ⟨hn, by rw [if_neg hn0]; simp⟩ (by simp [hneg]) (by simp) ?_
  rintro ⟨p, ds⟩ hs t m ⟨hp, hd⟩ hh
  simp only at hp hd
  have hl20 : (decN n.natAbs).length ≤ 20 := decN_len20 (by omega)
  by_cases hp0 : p = 0
  · subst hp0
    simp only [if_true] at hd
    have hout : decZ n = if neg then 45 :: ds else ds := by rw [decZ, hd, hneg]; simp
    rw [hd] at hl20
    cases hn2 : neg
    · simp [hn2] at hout
      simp [hout, hn2, ]
    · simp [hn2] at hout
      simp [hout, hn2, ]
      omega
  rw [if_neg hp0] at hd
  rw [hd, List.length_append] at hl20
  have hm : (p.tmod 10).natAbs = p.natAbs % 10 := by rw [Int.natAbs_tmod]; rfl
  have hq : (p.tdiv 10).natAbs = p.natAbs / 10 := by rw [Int.natAbs_tdiv]; rfl
  have hwq : IntKind.i64.wrap (p.tdiv 10) = p.tdiv 10 := wrap64_of (by omega) (by omega)
  obtain ⟨q, hqe⟩ : ∃ q, q = p.tdiv 10 := ⟨_, rfl⟩
  obtain ⟨r, hre⟩ : ∃ r, r = p.tmod 10 := ⟨_, rfl⟩
  obtain ⟨e, hee⟩ : ∃ e, e = p.natAbs % 10 := ⟨_, rfl⟩
  rw [← hqe] at hq hwq
  rw [← hre, ← hee] at hm
  have he10 : e < 10 := by omega
  have hw48 : IntKind.i64.wrap (48 + (e : Int)) = 48 + e := wrap64_of (by omega) (by omega)
  have hw8 : IntKind.u8.wrap (48 + (e : Int)) = 48 + e := by rw [IntKind.wrap_u8]; omega
  have hB1 : toB [D.int IntKind.u8 (48 + (e : Int))] = UInt8.ofNat (48 + e) := by
    have : (48 + (e : Int)).toNat = 48 + e := by omega
    simp only [toB, this]
  have hB5 : isB [D.int IntKind.u8 (48 + (e : Int))] = true := rfl
  have he0 : ¬ (e : Int) < 0 := by omega
  have hlen : ds.length + 1 ≤ 9223372036854775807 := by omega
  have hst : if q = 0 then decN n.natAbs = UInt8.ofNat (48 + e) :: ds else decN n.natAbs = decN q.natAbs ++ UInt8.ofNat (48 + e) :: ds := by
    split
    · rename_i h
      have : p.natAbs < 10 := by omega
      rw [hd, decN_lt this, hee, Nat.mod_eq_of_lt this]; rfl
    · rename_i h
      rw [hd, hq, decN_ge (by omega), hee]; simp
  by_cases h0 : r < 0
  · have hwn : IntKind.i64.wrap (-r) = e := by rw [wrap64_of (by omega) (by omega)]; omega
    simp [hp0, ← hre, ← hqe, h0, hwn, hw48, hw8, hwq, hB1, hB5, ]
    refine ⟨by omega, ?_⟩
    exact back (q, UInt8.ofNat (48 + e) :: ds) ⟨by simp only; omega, hst⟩ (by simp only; omega) rfl (by simp <;> omega) (by simp) (by simp)
  · have hr2 : r = (e : Int) := by omega
    simp [hp0, ← hre, ← hqe, h0, hr2, he0, hw48, hw8, hwq, hB1, hB5, ]
    refine ⟨by omega, ?_⟩
    exact back (q, UInt8.ofNat (48 + e) :: ds) ⟨by simp only; omega, hst⟩ (by simp only; omega) rfl (by simp <;> omega) (by simp) (by simp)
end

end Go.Proofs.Yteoeondjpgpiaaa

namespace Go.Proofs.Yteoeondjpgpiaaa
open Go.Vs Go.Proofs Go
set_option maxRecDepth 100000
set_option maxHeartbeats 1000000

section
attribute [local simp] plI_id plStr_id map_plI map_plStr pS cP cI cStr cU8 cB
theorem w_spec_ParseInt (s : List UInt8) : VC Try.prog 73 [.d (.str s)] (fun _ r => r = .tup [.d (.int .i64 (prsN s)), .d (.bool (prsZ s).isSome)]) := by
  refine VC.ofL EP s73 (by kernel_rfl) Try.func73 (by rfl) (by kernel_rfl) (by simp [Try.f73]) (by simp [Try.f73]) s73_ok fun B hl => ?_
  have hz := prsN_inZ s
  simp [Try.f73, ]
  refine loop_rule (X := Nat) (fun i => i ≤ s.length ∧ i ≤ 11) (fun i => [(0, .d (.str s)), (4, .d (.int .i64 (digs (s.take i)).1)), (5, .d (.int .i64 (digs (s.take i)).2)), (6, .d (.int .i64 i))]) (fun _ => []) (fun i => 11 - i) 0 (by simp) (by simp [digs]) (by simp) ?_
  intro i hs t m hi hh
  by_cases hlt : i < s.length ∧ i < 11
  · have hwi := wr1 (i := i) (by omega)
    have hst := digs_step hlt.1
    have hbd := digs_bd (s.take i)
    have h1 := hlt.1
    have h2 : (i : Int) < 11 := by omega
    have hb11 : (10 : Int) ^ (s.take i).length ≤ 10 ^ 11 := by
      have := Nat.pow_le_pow_right (n := 10) (show 0 < 10 by omega) (show (s.take i).length ≤ 11 by rw [List.length_take]; omega)
      exact_mod_cast this
    have hk : (digs (s.take i)).2 ≤ 11 := by have := hbd.2.2; rw [List.length_take] at this; omega
    obtain ⟨p, hp⟩ : ∃ p, p = digs (s.take i) := ⟨_, rfl⟩
    rw [← hp] at hst hbd hk ⊢
    by_cases hlo : (s[i].toNat : Int) < 48
    · have hd := isDg_lo hlo
      have g1 : ((48 : Int) ≤ s[i].toNat) = False := by simp; omega
      rw [digF, if_neg (by rw [hd]; simp)] at hst
      simp [h1, h2, g1, hwi, ]
      exact back (i + 1) (by omega) (by omega) rfl (by simp <;> omega) (by simp [hst]) (by simp)
    have g1 : ((48 : Int) ≤ s[i].toNat) = True := by simp; omega
    by_cases hhi : (57 : Int) < s[i].toNat
    · have hd := isDg_hi hhi
      have g2 : ((s[i].toNat : Int) ≤ 57) = False := by simp; omega
      rw [digF, if_neg (by rw [hd]; simp)] at hst
      simp [h1, h2, g1, g2, hwi, ]
      exact back (i + 1) (by omega) (by omega) rfl (by simp <;> omega) (by simp [hst]) (by simp)
    have hd := isDg_ok hlo hhi
    have g2 : ((s[i].toNat : Int) ≤ 57) = True := by simp; omega
    rw [digF, if_pos hd] at hst
    have hw8 : IntKind.u8.wrap ((s[i].toNat : Int) - 48) = s[i].toNat - 48 := by rw [IntKind.wrap_u8]; omega
    have w1 : IntKind.i64.wrap ((s[i].toNat : Int) - 48) = s[i].toNat - 48 := wrap64_of (by omega) (by omega)
    have w2 : IntKind.i64.wrap (p.1 * 10) = p.1 * 10 := wrap64_of (by omega) (by omega)
    have w3 : IntKind.i64.wrap (p.1 * 10 + (s[i].toNat - 48)) = p.1 * 10 + (s[i].toNat - 48) := wrap64_of (by omega) (by omega)
    have w4 := wr1 (i := p.2) (by omega)
    simp [h1, h2, g1, g2, hwi, hw8, w1, w2, w3, w4, ]
    exact back (i + 1) (by omega) (by omega) rfl (by simp <;> omega) (by simp [hst]) (by simp)
  · have hend : s.take i = s.take 11 := by
      by_cases h : i = 11
      · rw [h]
      · rw [List.take_of_length_le (by omega), List.take_of_length_le (by omega)]
    have hcond : (i : Int) < s.length → ¬ (i : Int) < 11 := fun h h' => hlt ⟨by omega, by omega⟩
    have hv : prsV s = if s.head? = some 45 then -(digs (s.take 11)).1 else (digs (s.take 11)).1 := rfl
    have hzz : prsZ s = if (digs (s.take 11)).2 ≤ 9 ∧ s.length ≤ 10 ∧ decZ (prsV s) = s then some (prsV s) else none := rfl
    have hn : prsN s = (prsZ s).getD 0 := rfl
    have hbd := digs_bd (s.take 11)
    have hb11 : (10 : Int) ^ (s.take 11).length ≤ 10 ^ 11 := by
      have := Nat.pow_le_pow_right (n := 10) (show 0 < 10 by omega) (show (s.take 11).length ≤ 11 by rw [List.length_take]; omega)
      exact_mod_cast this
    rw [hend]
    obtain ⟨p, hp⟩ : ∃ p, p = digs (s.take 11) := ⟨_, rfl⟩
    rw [← hp] at hv hzz hbd ⊢
    obtain ⟨x, hx⟩ : ∃ x, x = prsV s := ⟨_, rfl⟩
    rw [← hx] at hv hzz hz
    have wneg : IntKind.i64.wrap (-p.1) = -p.1 := wrap64_of (by omega) (by omega)
    have wneg2 : IntKind.i64.wrap (0 - p.1) = -p.1 := by rw [Int.zero_sub]; exact wneg
    have T : ∀ q : Prop, q = True ∨ q = False := Classical.propComplete
    cases s with
    | nil =>
      have hb := prs_bad (s := []) (.inl rfl)
      have hi0 : i = 0 := by simpa using hi.1
      subst hi0
      have hp0 : p = (0, 0) := by rw [hp]; rfl
      have hx0 : x = 0 := by rw [hv, hp0]; rfl
      simp [hp0, hb]
      refine call_f (w_spec_FormatInt 0 (by simp [inZ])) (by simp) rfl fun hs1 hh1 => ?_
      simp [decZ, decN_lt, hb]
    | cons a r =>
    have F : ((i : Int) < r.length + 1) = False ∨ (((i : Int) < r.length + 1) = True ∧ ((i : Int) < 11) = False) := by
      rcases T ((i : Int) < r.length + 1) with h | h
      · exact .inr ⟨h, by simp only [eq_iff_iff, iff_false]; exact hcond (by simpa using h)⟩
      · exact .inl h
    have G : ((a.toNat : Int) = 45) = True ∧ x = -p.1 ∨ ((a.toNat : Int) = 45) = False ∧ x = p.1 := by
      by_cases ha : a = 45
      · subst ha; exact .inl ⟨by simp, by simpa using hv⟩
      · refine .inr ⟨?_, by simpa [ha] using hv⟩
        simp only [eq_iff_iff, iff_false]
        intro h
        have h' : a.toNat = 45 := by omega
        exact ha (UInt8.toNat_inj.1 h')
    have g9 : ((9 : Int) < p.2) = True ∧ ¬ p.2 ≤ 9 ∨ ((9 : Int) < p.2) = False ∧ p.2 ≤ 9 := by
      by_cases h : p.2 ≤ 9
      · exact .inr ⟨by simp; omega, h⟩
      · exact .inl ⟨by simp; omega, h⟩
    have g10 : ((10 : Int) < r.length + 1) = True ∧ ¬ (a :: r).length ≤ 10 ∨ ((10 : Int) < r.length + 1) = False ∧ (a :: r).length ≤ 10 := by
      by_cases h : (a :: r).length ≤ 10
      · exact .inr ⟨by simp at h ⊢; omega, h⟩
      · exact .inl ⟨by simp at h ⊢; omega, h⟩
    rcases G with ⟨G, hxe⟩ | ⟨G, hxe⟩ <;> rcases g9 with ⟨g9, g9'⟩ | ⟨g9, g9'⟩
    case inl.inl | inr.inl =>
      rw [if_neg fun h => g9' h.1] at hzz
      rw [hzz] at hn
      simp only [Option.getD_none] at hn
      rcases F with F | ⟨F, F2⟩
      · simp [F, G, g9, wneg, wneg2, hn, hzz, ]
      · simp [F, F2, G, g9, wneg, wneg2, hn, hzz, ]
    all_goals rcases g10 with ⟨g10, g10'⟩ | ⟨g10, g10'⟩
    case inl.inr.inl | inr.inr.inl =>
      rw [if_neg fun h => g10' h.2.1] at hzz
      rw [hzz] at hn
      simp only [Option.getD_none] at hn
      rcases F with F | ⟨F, F2⟩
      · simp [F, G, g9, g10, wneg, wneg2, hn, hzz, ]
      · simp [F, F2, G, g9, g10, wneg, wneg2, hn, hzz, ]
    all_goals
      rcases F with F | ⟨F, F2⟩
      all_goals
        first | simp [F, F2, G, g9, g10, wneg, wneg2, ] | simp [F, G, g9, g10, wneg, wneg2, ]
        rw [← hxe]
        refine call_f (w_spec_FormatInt x hz.2) (by simp) rfl fun hs1 hh1 => ?_
        simp at hh1
        rw [hn, hzz]
        by_cases e : decZ x = a :: r
        · rw [if_pos ⟨g9', g10', e⟩]
          simp [e, ]
        · rw [if_neg fun h => e h.2.2]
          simp [e, ]
theorem w_impl_ParseInt (s : List UInt8) : VC Try.prog 85 [.d (.str s)] (fun _ r => r = .tup [.d (.int .i64 (prsN s)), .d (.bool (prsZ s).isSome)]) := by
  refine VC.ofL EP s85 (by kernel_rfl) Try.func85 (by rfl) (by kernel_rfl) (by simp [Try.f85]) (by simp [Try.f85]) s85_ok fun B hl => ?_
  have hz := prsN_inZ s
  cases s with
  | nil =>
    have := prs_bad (s := []) (.inl rfl)
    simp [Try.f85, this]
  | cons a r =>
  by_cases ha : a = 45
  · subst ha
    have ht := sgnT_45 r
    by_cases hr : r = []
    · have hb := prs_bad (s := 45 :: r) (.inl (by rw [ht, hr]))
      simp [Try.f85, hr] at hb ⊢
      simp [hb]
    by_cases h9 : (9 : Int) < r.length
    · have hb := prs_bad (s := 45 :: r) (.inr (.inl (by rw [ht]; omega)))
      simp [Try.f85, hr, h9, hb]
    have hbad : (∃ b ∈ r, isDg b = false) → _ := fun h => prs_bad (s := 45 :: r) (.inr (.inr (by rw [ht]; exact h)))
    have hok : (∀ b ∈ r, isDg b = true) → _ := fun h => prsZ_dig (s := 45 :: r) (by rw [ht]; omega) (by rw [ht]; exact h)
    simp only [ht, List.head?_cons, if_true] at hok
    simp [Try.f85, hr, h9]
    obtain ⟨ds, hds⟩ : ∃ ds, ds = r := ⟨_, rfl⟩
    rw [← hds] at hbad hok hz h9 ⊢
    obtain ⟨S, hS⟩ : ∃ S, S = 45 :: ds := ⟨_, rfl⟩
    rw [← hS] at hbad hok hz ⊢

    obtain ⟨x, hx⟩ : ∃ x, x = prsV S := ⟨_, rfl⟩
    refine loop_rule (X := Nat) (fun i => i ≤ ds.length ∧ (∀ b ∈ ds.take i, isDg b = true)) (fun i => [(0, .d (.str S)), (4, .d (.str ds)), (5, .d (.bool true)), (6, .d (.int .i64 (digs (ds.take i)).1)), (7, .d (.int .i64 i))]) (fun _ => []) (fun i => ds.length - i) 0 (by simp) (by simp [digs]) (by simp) ?_
    intro i hs t m hi hh
    have hbd := digs_bd (ds.take i)
    have hb11 : (10 : Int) ^ (ds.take i).length ≤ 10 ^ 9 := by
      have := Nat.pow_le_pow_right (n := 10) (show 0 < 10 by omega) (show (ds.take i).length ≤ 9 by rw [List.length_take]; omega)
      exact_mod_cast this
    by_cases hlt : i < ds.length
    · have hwi := wr1 (i := i) (by omega)
      have hst := digs_step hlt
      obtain ⟨p, hp⟩ : ∃ p, p = digs (ds.take i) := ⟨_, rfl⟩
      rw [← hp] at hst hbd ⊢
      by_cases hlo : (ds[i].toNat : Int) < 48
      · have hb := hbad ⟨_, List.getElem_mem hlt, isDg_lo hlo⟩
        simp [hlt, hlo, hb, ]
      by_cases hhi : (57 : Int) < ds[i].toNat
      · have hb := hbad ⟨_, List.getElem_mem hlt, isDg_hi hhi⟩
        simp [hlt, hlo, hhi, hb, ]
      have hd := isDg_ok hlo hhi
      rw [digF, if_pos hd] at hst
      have hw8 : IntKind.u8.wrap ((ds[i].toNat : Int) - 48) = ds[i].toNat - 48 := by rw [IntKind.wrap_u8]; omega
      have w1 : IntKind.i64.wrap ((ds[i].toNat : Int) - 48) = ds[i].toNat - 48 := wrap64_of (by omega) (by omega)
      have w2 : IntKind.i64.wrap (10 * p.1) = 10 * p.1 := wrap64_of (by omega) (by omega)
      have w3 : IntKind.i64.wrap (10 * p.1 + (ds[i].toNat - 48)) = 10 * p.1 + (ds[i].toNat - 48) := wrap64_of (by omega) (by omega)
      have hex : p.1 * 10 + ((ds[i].toNat : Int) - 48) = 10 * p.1 + (ds[i].toNat - 48) := by omega
      simp [hlt, hlo, hhi, hwi, hw8, w1, w2, w3, ]
      refine back (i + 1) ⟨by omega, fun b hb => ?_⟩ (by omega) rfl (by simp <;> omega) (by simp [hst, hex]) (by simp)
      rw [List.take_succ_eq_append_getElem hlt] at hb
      rcases List.mem_append.1 hb with hb | hb
      · exact hi.2 b hb
      · rw [List.mem_singleton.1 hb]; exact hd
    · have hall : ds.take i = ds := List.take_of_length_le (by omega)
      rw [hall] at hbd hb11 hi ⊢
      obtain ⟨hv, hzz⟩ := hok hi.2
      have hn : prsN S = (prsZ S).getD 0 := rfl
      rw [← hx] at hv hzz hz
      obtain ⟨p, hp⟩ : ∃ p, p = digs ds := ⟨_, rfl⟩
      rw [← hp] at hv hbd ⊢
      have wneg : IntKind.i64.wrap (-p.1) = -p.1 := wrap64_of (by omega) (by omega)
      have wneg2 : IntKind.i64.wrap (0 - p.1) = -p.1 := by rw [Int.zero_sub]; exact wneg
      simp [hlt, wneg, wneg2, ]
      rw [← hv]
      refine call_f (w_impl_FormatInt x hz.2) (by simp) rfl fun hs1 hh1 => ?_
      simp at hh1
      rw [hn, hzz]
      by_cases e : decZ x = S
      · rw [if_pos e]
        simp [e, ]
      · rw [if_neg e]
        simp [e, ]
  · have ha' : ((a.toNat : Int) = 45) = False := by
      simp only [eq_iff_iff, iff_false]
      intro h
      have h' : a.toNat = 45 := by omega
      exact ha (UInt8.toNat_inj.1 h')
    have ht := sgnT_ne (r := r) ha
    by_cases h9 : (9 : Int) < r.length + 1
    · have hb := prs_bad (s := a :: r) (.inr (.inl (by rw [ht]; simp; omega)))
      simp [Try.f85, ha', h9, hb]
    have hbad : (∃ b ∈ a :: r, isDg b = false) → _ := fun h => prs_bad (s := a :: r) (.inr (.inr (by rw [ht]; exact h)))
    have hok : (∀ b ∈ a :: r, isDg b = true) → _ := fun h => prsZ_dig (s := a :: r) (by rw [ht]; simp; omega) (by rw [ht]; exact h)
    simp only [ht, List.head?_cons, Option.some.injEq, ha, if_false] at hok
    simp [Try.f85, ha', h9]
    obtain ⟨S, hS⟩ : ∃ S, S = a :: r := ⟨_, rfl⟩
    have hlen : (S.length : Int) ≤ 9 := by rw [hS]; simp; omega
    rw [← hS] at hbad hok hz ⊢
    obtain ⟨ds, hds⟩ : ∃ ds, ds = S := ⟨_, rfl⟩
    have h9 : ¬ (9 : Int) < ds.length := by rw [hds]; omega
    rw [← hds]
    rw [← hds] at hbad hok hz
    clear hS
    subst hds
    obtain ⟨S, hSd⟩ : ∃ S, S = ds := ⟨_, rfl⟩
    subst hSd

    obtain ⟨x, hx⟩ : ∃ x, x = prsV S := ⟨_, rfl⟩
    refine loop_rule (X := Nat) (fun i => i ≤ S.length ∧ (∀ b ∈ S.take i, isDg b = true)) (fun i => [(0, .d (.str S)), (4, .d (.str S)), (5, .d (.bool false)), (6, .d (.int .i64 (digs (S.take i)).1)), (7, .d (.int .i64 i))]) (fun _ => []) (fun i => S.length - i) 0 (by simp) (by simp [digs]) (by simp) ?_
    intro i hs t m hi hh
    have hbd := digs_bd (S.take i)
    have hb11 : (10 : Int) ^ (S.take i).length ≤ 10 ^ 9 := by
      have := Nat.pow_le_pow_right (n := 10) (show 0 < 10 by omega) (show (S.take i).length ≤ 9 by rw [List.length_take]; omega)
      exact_mod_cast this
    by_cases hlt : i < S.length
    · have hwi := wr1 (i := i) (by omega)
      have hst := digs_step hlt
      obtain ⟨p, hp⟩ : ∃ p, p = digs (S.take i) := ⟨_, rfl⟩
      rw [← hp] at hst hbd ⊢
      by_cases hlo : (S[i].toNat : Int) < 48
      · have hb := hbad ⟨_, List.getElem_mem hlt, isDg_lo hlo⟩
        simp [hlt, hlo, hb, ]
      by_cases hhi : (57 : Int) < S[i].toNat
      · have hb := hbad ⟨_, List.getElem_mem hlt, isDg_hi hhi⟩
        simp [hlt, hlo, hhi, hb, ]
      have hd := isDg_ok hlo hhi
      rw [digF, if_pos hd] at hst
      have hw8 : IntKind.u8.wrap ((S[i].toNat : Int) - 48) = S[i].toNat - 48 := by rw [IntKind.wrap_u8]; omega
      have w1 : IntKind.i64.wrap ((S[i].toNat : Int) - 48) = S[i].toNat - 48 := wrap64_of (by omega) (by omega)
      have w2 : IntKind.i64.wrap (10 * p.1) = 10 * p.1 := wrap64_of (by omega) (by omega)
      have w3 : IntKind.i64.wrap (10 * p.1 + (S[i].toNat - 48)) = 10 * p.1 + (S[i].toNat - 48) := wrap64_of (by omega) (by omega)
      have hex : p.1 * 10 + ((S[i].toNat : Int) - 48) = 10 * p.1 + (S[i].toNat - 48) := by omega
      simp [hlt, hlo, hhi, hwi, hw8, w1, w2, w3, ]
      refine back (i + 1) ⟨by omega, fun b hb => ?_⟩ (by omega) rfl (by simp <;> omega) (by simp [hst, hex]) (by simp)
      rw [List.take_succ_eq_append_getElem hlt] at hb
      rcases List.mem_append.1 hb with hb | hb
      · exact hi.2 b hb
      · rw [List.mem_singleton.1 hb]; exact hd
    · have hall : S.take i = S := List.take_of_length_le (by omega)
      rw [hall] at hbd hb11 hi ⊢
      obtain ⟨hv, hzz⟩ := hok hi.2
      have hn : prsN S = (prsZ S).getD 0 := rfl
      rw [← hx] at hv hzz hz
      obtain ⟨p, hp⟩ : ∃ p, p = digs S := ⟨_, rfl⟩
      rw [← hp] at hv hbd ⊢
      have wneg : IntKind.i64.wrap (-p.1) = -p.1 := wrap64_of (by omega) (by omega)
      have wneg2 : IntKind.i64.wrap (0 - p.1) = -p.1 := by rw [Int.zero_sub]; exact wneg
      simp [hlt, wneg, wneg2, ]
      rw [← hv]
      refine call_f (w_impl_FormatInt x hz.2) (by simp) rfl fun hs1 hh1 => ?_
      simp at hh1
      rw [hn, hzz]
      by_cases e : decZ x = S
      · rw [if_pos e]
        simp [e, ]
      · rw [if_neg e]
        simp [e, ]
end

end Go.Proofs.Yteoeondjpgpiaaa

namespace Go.Proofs.Yteoeondjpgpiaaa
open Go.Vs Go.Proofs Go
set_option maxRecDepth 100000
set_option maxHeartbeats 1000000

section
attribute [local simp] plI_id plStr_id map_plI map_plStr pS cP cI cStr cU8 cB
theorem w_spec_l32Run (v : Int) (nm : List UInt8) (hv : inZ v) (hb : nm.length ≤ 4611686018427387904) : VC Try.prog 44 [.d (.int .i64 v), .d (.str nm)] (fun _ r => r = .d (.str (runNm v nm))) := by
  refine VC.ofL EP s44 (by kernel_rfl) Try.func44 (by rfl) (by kernel_rfl) (by simp [Try.f44]) (by simp [Try.f44]) s44_ok fun B hl => ?_
  have hl := decZ_len hv
  simp [Try.f44, ]
  refine call_f (w_spec_FormatInt v hv) (by simp) rfl fun hs1 hh1 => ?_
  simp [runNm]
  omega
theorem w_spec_l32Head (v : Int) (hv : inZ v) : VC Try.prog 21 [.d (.int .i64 v)] (fun _ r => r = .d (.str ([109] ++ decZ v))) := by
  refine VC.ofL EP s21 (by kernel_rfl) Try.func21 (by rfl) (by kernel_rfl) (by simp [Try.f21]) (by simp [Try.f21]) s21_ok fun B hl => ?_
  have hl := decZ_len hv
  simp [Try.f21, ]
  refine call_f (w_spec_FormatInt v hv) (by simp) rfl fun hs1 hh1 => ?_
  simp
  omega
theorem w_impl_formatList (l : List Int) (hz : ∀ x ∈ l, inZ x) (hb : l.length ≤ 1000000) : VC Try.prog 68 [.d (pS cI l), .d (.str [44])] (fun _ r => r = .d (.str (joinB [44] (l.map decZ)))) := by
  refine VC.ofL EP s68 (by kernel_rfl) Try.func68 (by rfl) (by kernel_rfl) (by simp [Try.f68]) (by simp [Try.f68]) s68_ok fun B hl => ?_
  have hW := strW_map decZ 1 21 l fun x hx => decZ_len (hz x hx)
  simp [Try.f68, ]
  refine loop_ruleL (X := Nat) (fun i _ => i ≤ l.length) (fun i => [(1, .d (.str [44])), (5, .own 19 0 i), (8, .d (.pl (l.map cI))), (9, .d (.int .i64 l.length)), (10, .d (.int .i64 i))]) (fun i => [(19, some (.row 9 1 (((l.take i).map decZ).map cStr)))]) (fun i => l.length - i) ?_ ?_
  · refine (lead_slot 5 19 9 1 (by omega) (by omega) (by simp)).bind ?_
    rintro _ rfl
    exact Lead.of ⟨0, by omega, rfl, rfl, Nat.le_refl _, by simp, by simp⟩
  intro i hs t m hi hh
  by_cases hlt : i < l.length
  · have hwi := wr1 (i := i) (by omega)
    have hL : LenOk 16 (i + 1) := ⟨by omega, by simp only [maxLen]; omega⟩
    have hst : (l.take (i + 1)).map decZ = (l.take i).map decZ ++ [decZ l[i]] := by rw [List.take_succ_eq_append_getElem hlt, List.map_append]; rfl
    simp [hlt, ]
    refine call_f (w_impl_FormatInt l[i] (hz _ (List.getElem_mem hlt))) (by simp) rfl fun hs2 hh2 => ?_
    simp at hh2
    simp [hwi, hL, ]
    have hst2 : List.take (i + 1) (List.map (cStr ∘ decZ) l) = List.take i (List.map (cStr ∘ decZ) l) ++ [cStr (decZ l[i])] := by
      rw [List.take_succ_eq_append_getElem (by simpa using hlt)]; simp
    refine ⟨by omega, ?_⟩
    exact back2 (i + 1) (by omega) (by omega) rfl (by simp <;> omega) (by simp) (by simp [hst2])
  · have hn : i = l.length := by omega
    subst hn
    simp [List.take_of_length_le, ]
    refine call_f (w_impl_join (l.map decZ) [44] (Nat.le_trans hW (by omega))) (by simp [List.take_of_length_le]) rfl fun hs2 hh2 => ?_
    simp
theorem w_spec_l5RowText (l : List Int) (hz : ∀ x ∈ l, inZ x) (hb : l.length ≤ 1000000) : VC Try.prog 63 [.d (pS cI l)] (fun _ r => r = .d (.str (fmtRow l))) := by
  refine VC.ofL EP s63 (by kernel_rfl) Try.func63 (by rfl) (by kernel_rfl) (by simp [Try.f63]) (by simp [Try.f63]) s63_ok fun B hl => ?_
  have hW := strW_map decZ 1 21 l fun x hx => decZ_len (hz x hx)
  simp [Try.f63, ]
  refine loop_rule (X := Nat) (fun i => i ≤ l.length) (fun i => [(0, .d (.pl (l.map cI))), (3, .d (.str ([40] ++ joinB [44] ((l.map decZ).take i)))), (4, .d (.int .i64 i))]) (fun _ => []) (fun i => l.length - i) 0 (by simp) (by simp [joinB]) (by simp) ?_
  intro i hs t m hi hh
  have hj : (joinB [44] ((l.map decZ).take i)).length ≤ strW 1 ((l.map decZ).take i) := joinB_len [44] _
  have hWt := strW_take 1 (l.map decZ) i
  by_cases hlt : i < l.length
  · have hwi := wr1 (i := i) (by omega)
    have hil : i < (l.map decZ).length := by simpa using hlt
    have hst := joinB_step (sep := [44]) hil
    have hat := strW_at (s := 1) hil
    rw [List.getElem_map] at hst hat
    obtain ⟨s, hse⟩ : ∃ s, s = joinB [44] ((l.map decZ).take i) := ⟨_, rfl⟩
    rw [← hse] at hst hj ⊢
    have hzi := hz _ (List.getElem_mem hlt)
    have hdl := decZ_len hzi
    by_cases h0 : i = 0
    · subst h0
      have hwi0 : IntKind.i64.wrap 1 = 1 := by simpa using hwi
      simp only [if_true, List.append_nil] at hst
      simp [hlt, ]
      refine call_f (w_spec_FormatInt l[0] hzi) (by simp) rfl fun hs2 hh2 => ?_
      simp at hh2
      simp [hwi0, ]
      refine ⟨by omega, ?_⟩
      exact back 1 (by omega) (by omega) rfl (by simp <;> omega) (by simp; simpa using hst.symm) (by simp)
    · have h0' : 0 < i := by omega
      simp only [h0, if_false] at hst
      simp [hlt, h0, h0', ]
      refine ⟨by omega, ?_⟩
      refine call_f (w_spec_FormatInt l[i] hzi) (by simp) rfl fun hs2 hh2 => ?_
      simp at hh2
      simp [hwi, ]
      refine ⟨by omega, ?_⟩
      exact back (i + 1) (by omega) (by omega) rfl (by simp <;> omega) (by simp; simpa using hst.symm) (by simp)
  · have hd : (l.map decZ).take i = l.map decZ := List.take_of_length_le (by simp; omega)
    rw [hd] at hj ⊢
    simp [hlt, fmtRow]
    omega
theorem w_impl_FormatRelation (r : PReln) : VC Try.prog 52 [.agg ((eReln r).map V.d)] (fun _ v => v = .d (.str (fmtRel r))) := by
  refine VC.ofL EP s52 (by kernel_rfl) Try.func52 (by rfl) (by kernel_rfl) (by simp [Try.f52]) (by simp [Try.f52]) s52_ok fun B hl => ?_
  obtain ⟨ar, l⟩ := r
  have hFL := fmtRel_len ⟨ar, l⟩
  simp [Try.f52, eReln]
  refine call_f (w_impl_IsValidRelation ⟨ar, l⟩) (by simp [eReln]) rfl fun hs1 hh1 => ?_
  simp at hh1
  cases h : rowsOk ar l
  · simp [fmtRel, h]
  have hlen := rowsOk_len h
  have hz : ∀ x ∈ l, ∀ y ∈ x, inZ y := fun x hx => valsOk_inZ (rowsOk_mem h hx).2
  have hr5 := rowsOk_row h
  have hW := strW_map fmtRow 1 112 l fun x hx => (fmtRow_len (hz x hx) (hr5 x hx)).1
  have har := rowsOk_inR h
  simp only [inR, Bool.and_eq_true, decide_eq_true_eq] at har
  have haz : inZ ar := by simp only [inZ]; omega
  have hF : fmtRel ⟨ar, l⟩ = decZ ar ++ [58] ++ joinB [32] (l.map fmtRow) := by simp only [fmtRel, h, if_true]
  rw [hF] at hFL ⊢
  simp only [List.length_append, List.length_singleton] at hFL
  simp []
  refine loop_ruleL (X := Nat) (fun i _ => i ≤ l.length) (fun i => [(1, .ptr 1 0 0), (3, .own 22 0 i), (10, .d (.pl (l.map (cP cI)))), (11, .d (.int .i64 l.length)), (12, .d (.int .i64 i))]) (fun i => [(1, some (.box [.d (.int .i64 ar), .d (.pl (l.map (cP cI)))])), (22, some (.row 9 1 (((l.take i).map fmtRow).map cStr)))]) (fun i => l.length - i) ?_ ?_
  · refine (lead_slot 3 22 9 1 (by omega) (by omega) (by simp)).bind ?_
    rintro _ rfl
    exact Lead.of ⟨0, by omega, rfl, rfl, Nat.le_refl _, by simp, by simp⟩
  intro i hs t m hi hh
  by_cases hlt : i < l.length
  · have hwi := wr1 (i := i) (by omega)
    have hL : LenOk 16 (i + 1) := ⟨by omega, by simp only [maxLen]; omega⟩
    have hx := List.getElem_mem hlt
    have hrl := fmtRow_len (hz _ hx) (hr5 _ hx)
    have hjl : (joinB [44] (l[i].map decZ)).length ≤ 110 := Nat.le_trans (joinB_len [44] _) hrl.2
    simp [hlt, ]
    refine call_f (w_impl_formatList l[i] (hz _ hx) (by have := hr5 _ hx; omega)) (by simp) rfl fun hs2 hh2 => ?_
    simp at hh2
    simp [hwi, hL, ]
    have hst2 : List.take (i + 1) (List.map (cStr ∘ fmtRow) l) = List.take i (List.map (cStr ∘ fmtRow) l) ++ [cStr (fmtRow l[i])] := by
      rw [List.take_succ_eq_append_getElem (by simpa using hlt)]; simp
    refine ⟨by omega, by omega, by omega, ?_⟩
    exact back2 (i + 1) (by omega) (by omega) rfl (by simp <;> omega) (by simp) (by simp [hst2, fmtRow])
  · have hn : i = l.length := by omega
    subst hn
    simp [List.take_of_length_le, ]
    refine call_f (w_impl_FormatInt ar haz) (by simp) rfl fun hs2 hh2 => ?_
    simp at hh2
    simp [List.take_of_length_le, ]
    refine ⟨by omega, ?_⟩
    refine call_f (w_impl_join (l.map fmtRow) [32] (Nat.le_trans hW (by omega))) (by simp [List.take_of_length_le]) rfl fun hs3 hh3 => ?_
    simp
    omega
theorem w_spec_FormatRelation (r : PReln) : VC Try.prog 43 [.agg ((eReln r).map V.d)] (fun _ v => v = .d (.str (fmtRel r))) := by
  refine VC.ofL EP s43 (by kernel_rfl) Try.func43 (by rfl) (by kernel_rfl) (by simp [Try.f43]) (by simp [Try.f43]) s43_ok fun B hl => ?_
  obtain ⟨ar, l⟩ := r
  have hFL := fmtRel_len ⟨ar, l⟩
  simp [Try.f43, eReln]
  refine call_f (w_spec_IsValidRelation ⟨ar, l⟩) (by simp [eReln]) rfl fun hs1 hh1 => ?_
  simp at hh1
  cases h : rowsOk ar l
  · simp [fmtRel, h]
  have hlen := rowsOk_len h
  have hz : ∀ x ∈ l, ∀ y ∈ x, inZ y := fun x hx => valsOk_inZ (rowsOk_mem h hx).2
  have hr5 := rowsOk_row h
  have hW := strW_map fmtRow 1 112 l fun x hx => (fmtRow_len (hz x hx) (hr5 x hx)).1
  have har := rowsOk_inR h
  simp only [inR, Bool.and_eq_true, decide_eq_true_eq] at har
  have haz : inZ ar := by simp only [inZ]; omega
  have hda := decZ_len haz
  have hF : fmtRel ⟨ar, l⟩ = decZ ar ++ [58] ++ joinB [32] (l.map fmtRow) := by simp only [fmtRel, h, if_true]
  rw [hF] at hFL ⊢
  simp []
  refine call_f (w_spec_FormatInt ar haz) (by simp) rfl fun hs2 hh2 => ?_
  simp at hh2
  simp []
  refine ⟨by omega, ?_⟩
  refine loop_rule (X := Nat) (fun i => i ≤ l.length) (fun i => [(1, .ptr 1 0 0), (3, .d (.str (decZ ar ++ [58] ++ joinB [32] ((l.map fmtRow).take i)))), (4, .d (.int .i64 i))]) (fun _ => [(1, some (.box [.d (.int .i64 ar), .d (.pl (l.map (cP cI)))]))]) (fun i => l.length - i) 0 (by simp) (by simp [joinB]) (by simp) ?_
  intro i hs t m hi hh
  have hj : (joinB [32] ((l.map fmtRow).take i)).length ≤ strW 1 ((l.map fmtRow).take i) := joinB_len [32] _
  have hWt := strW_take 1 (l.map fmtRow) i
  by_cases hlt : i < l.length
  · have hwi := wr1 (i := i) (by omega)
    have hil : i < (l.map fmtRow).length := by simpa using hlt
    have hst := joinB_step (sep := [32]) hil
    have hat := strW_at (s := 1) hil
    rw [List.getElem_map] at hst hat
    obtain ⟨s, hse⟩ : ∃ s, s = joinB [32] ((l.map fmtRow).take i) := ⟨_, rfl⟩
    rw [← hse] at hst hj ⊢
    have hx := List.getElem_mem hlt
    have hb5 := hr5 _ hx
    by_cases h0 : i = 0
    · subst h0
      have hwi0 : IntKind.i64.wrap 1 = 1 := by simpa using hwi
      simp only [if_true, List.append_nil] at hst
      simp [hlt, ]
      refine call_f (w_spec_l5RowText l[0] (hz _ hx) (by omega)) (by simp) rfl fun hs2 hh2 => ?_
      simp at hh2
      simp [hwi0, ]
      refine ⟨by omega, ?_⟩
      exact back 1 (by omega) (by omega) rfl (by simp <;> omega) (by simp; simpa using hst.symm) (by simp)
    · have h0' : 0 < i := by omega
      simp only [h0, if_false] at hst
      simp [hlt, h0, h0', ]
      refine ⟨by omega, ?_⟩
      refine call_f (w_spec_l5RowText l[i] (hz _ hx) (by omega)) (by simp) rfl fun hs2 hh2 => ?_
      simp at hh2
      simp [hwi, ]
      refine ⟨by omega, ?_⟩
      exact back (i + 1) (by omega) (by omega) rfl (by simp <;> omega) (by simp; simpa using hst.symm) (by simp)
  · have hd : (l.map fmtRow).take i = l.map fmtRow := List.take_of_length_le (by simp; omega)
    rw [hd] at hj ⊢
    simp [hlt]
end

end Go.Proofs.Yteoeondjpgpiaaa

namespace Go.Proofs.Yteoeondjpgpiaaa
open Go.Vs Go.Proofs Go
set_option maxRecDepth 100000
set_option maxHeartbeats 1000000

section
attribute [local simp] plI_id plStr_id map_plI map_plStr pS cP cI cStr cU8 cB eReln
theorem w_spec_ParseRelation (s : List UInt8) (hb : s.length ≤ 1000000000) : VC Try.prog 60 [.d (.str s)] (fun _ r => r = .tup [.agg ((eReln (prsR s)).map V.d), .d (.bool (prsB s))]) := by
  refine VC.ofL EP s60 (by kernel_rfl) Try.func60 (by rfl) (by kernel_rfl) (by simp [Try.f60]) (by simp [Try.f60]) s60_ok fun B hl => ?_
  have hw : ∀ (x : List UInt8) (c : UInt8), x.length ≤ 1000000000 → _ := fun x c h => w_spec_l5Cut x c h
  have hpos := cutB_pos 58 s
  have hcl := cutB_len 58 s
  have hpre : preRel s = ⟨prsN ((cutB 58 s).getD 0 []), if (cutB 58 s).length = 2 ∧ (cutB 58 s).getD 1 [] ≠ [] then (cutB 32 ((cutB 58 s).getD 1 [])).map rowTx else []⟩ := rfl
  have hml : ∀ x ∈ cutB 58 s, x.length ≤ s.length := fun x hx => cutB_mem hx
  simp [Try.f60, s60_11, s60_11, ]
  refine call_p (hw s 58 hb) (by simp) fun hs1 hh1 hl1 => ?_
  simp at hh1
  obtain ⟨W, hW⟩ : ∃ W, W = cutB 58 s := ⟨_, rfl⟩
  rw [← hW] at hpos hpre hml ⊢
  simp [hpos, s60_11, ]
  refine call_f (w_spec_ParseInt W[0]) (by simp) rfl fun hs2 hh2 => ?_
  simp at hh2
  rw [getD_el _ hpos] at hpre
  by_cases c2 : W.length = 2
  case neg =>
    have c2' : ¬ (W.length : Int) = 2 := by omega
    rw [if_neg fun h => c2 h.1] at hpre
    simp [c2', s60_11, ]
    refine call_f (w_spec_FormatRelation (preRel s)) (by simp [hpre]) rfl fun hs9 hh9 => ?_
    simp at hh9
    obtain ⟨F, hF⟩ : ∃ F, F = fmtRel (preRel s) := ⟨_, rfl⟩
    have hB : prsB s = (decide (F = s) && decide (s ≠ [])) := by rw [hF]; rfl
    have hR : prsR s = if prsB s = true then preRel s else ⟨0, []⟩ := rfl
    rw [hpre] at hR
    rw [← hF]
    by_cases e1 : F = s
    · by_cases e2 : s = []
      · have hB' : prsB s = false := by rw [hB]; simp [e2]
        rw [if_neg (by rw [hB']; simp)] at hR
        simp [e1, e2, hR, hB', List.take_of_length_le, s60_11, ]
        simp [e2] at hR hB'
        simp [hR, hB']
      · have hB' : prsB s = true := by rw [hB]; simp [e1, e2]
        rw [if_pos hB'] at hR
        simp [e1, e2, hR, hB', List.take_of_length_le, s60_11, ]
    · have hB' : prsB s = false := by rw [hB]; simp [e1]
      rw [if_neg (by rw [hB']; simp)] at hR
      simp [e1, hR, hB', s60_11, ]
  have c2' : (W.length : Int) = 2 := by omega
  have h1W : 1 < W.length := by omega
  rw [getD_el _ h1W] at hpre
  by_cases c3 : W[1] = []
  case pos =>
    rw [if_neg fun h => h.2 c3] at hpre
    simp [c2', h1W, c3, s60_11, ]
    refine call_f (w_spec_FormatRelation (preRel s)) (by simp [hpre]) rfl fun hs9 hh9 => ?_
    simp at hh9
    obtain ⟨F, hF⟩ : ∃ F, F = fmtRel (preRel s) := ⟨_, rfl⟩
    have hB : prsB s = (decide (F = s) && decide (s ≠ [])) := by rw [hF]; rfl
    have hR : prsR s = if prsB s = true then preRel s else ⟨0, []⟩ := rfl
    rw [hpre] at hR
    rw [← hF]
    by_cases e1 : F = s
    · by_cases e2 : s = []
      · have hB' : prsB s = false := by rw [hB]; simp [e2]
        rw [if_neg (by rw [hB']; simp)] at hR
        simp [e1, e2, hR, hB', List.take_of_length_le, s60_11, ]
        simp [e2] at hR hB'
        simp [hR, hB']
      · have hB' : prsB s = true := by rw [hB]; simp [e1, e2]
        rw [if_pos hB'] at hR
        simp [e1, e2, hR, hB', List.take_of_length_le, s60_11, ]
    · have hB' : prsB s = false := by rw [hB]; simp [e1]
      rw [if_neg (by rw [hB']; simp)] at hR
      simp [e1, hR, hB', s60_11, ]
  rw [if_pos ⟨c2, c3⟩] at hpre
  have hJl : W[1].length ≤ 1000000000 := Nat.le_trans (hml _ (List.getElem_mem h1W)) hb
  obtain ⟨J, hJ⟩ : ∃ J, J = W[1] := ⟨_, rfl⟩
  rw [← hJ] at hpre hJl c3
  simp [c2', h1W, ← hJ, c3, s60_11, ]
  refine call_p (hw J 32 hJl) (by simp) fun hs3 hh3 hl3 => ?_
  simp at hh3
  have hLl := cutB_len 32 J
  have hLm : ∀ x ∈ cutB 32 J, x.length ≤ J.length := fun x hx => cutB_mem hx
  obtain ⟨l, hl⟩ : ∃ l, l = cutB 32 J := ⟨_, rfl⟩
  rw [← hl] at hpre hLl hLm ⊢
  obtain ⟨ar, har⟩ : ∃ ar, ar = prsN W[0] := ⟨_, rfl⟩
  rw [← har] at hpre ⊢
  simp [s60_11, ]
  refine loop_ruleL (X := Nat) (fun i _ => i ≤ l.length) (fun i => [(0, .d (.str s)), (2, .ptr 2 0 0), (5, .ptr 5 0 0), (6, .d (.pl (l.map cStr))), (7, .d (.int .i64 i))]) (fun i => [(2, some (.box [.d (.int .i64 0), .d (.sl none none [])])), (5, some (.box [.d (.int .i64 ar), .own 900 0 i])), (900, some (.row 98 1 (((l.take i).map rowTx).map (cP cI))))]) (fun i => l.length - i) ?_ ?_
  · refine (lead_box 5 1 900 98 1 [.d (.int .i64 ar), .d (.sl none none [])] (by omega) (by omega) (by omega) (by simp) rfl).bind ?_
    rintro _ rfl
    exact Lead.of ⟨0, by omega, rfl, rfl, Nat.le_refl _, by simp, by simp⟩
  intro i hs t m hi hh
  by_cases hlt : i < l.length
  case neg =>
    have hn : i = l.length := by omega
    subst hn
    simp [List.take_of_length_le, s60_11, ]
    refine call_f (w_spec_FormatRelation (preRel s)) (by simp [hpre, List.take_of_length_le]) rfl fun hs9 hh9 => ?_
    simp at hh9
    obtain ⟨F, hF⟩ : ∃ F, F = fmtRel (preRel s) := ⟨_, rfl⟩
    have hB : prsB s = (decide (F = s) && decide (s ≠ [])) := by rw [hF]; rfl
    have hR : prsR s = if prsB s = true then preRel s else ⟨0, []⟩ := rfl
    rw [hpre] at hR
    rw [← hF]
    by_cases e1 : F = s
    · by_cases e2 : s = []
      · have hB' : prsB s = false := by rw [hB]; simp [e2]
        rw [if_neg (by rw [hB']; simp)] at hR
        simp [e1, e2, hR, hB', List.take_of_length_le, s60_11, ]
        simp [e2] at hR hB'
        simp [hR, hB']
      · have hB' : prsB s = true := by rw [hB]; simp [e1, e2]
        rw [if_pos hB'] at hR
        simp [e1, e2, hR, hB', List.take_of_length_le, s60_11, ]
    · have hB' : prsB s = false := by rw [hB]; simp [e1]
      rw [if_neg (by rw [hB']; simp)] at hR
      simp [e1, hR, hB', s60_11, ]
  have hwi := wr1 (i := i) (by omega)
  have hmn : min i l.length = i := by omega
  have hL : LenOk 24 (i + 1) := ⟨by omega, by simp only [maxLen]; omega⟩
  have hxl := hLm _ (List.getElem_mem hlt)
  have hst2 : List.take (i + 1) (List.map (cP cI ∘ rowTx) l) = List.take i (List.map (cP cI ∘ rowTx) l) ++ [cP cI (rowTx l[i])] := by
    rw [List.take_succ_eq_append_getElem (by simpa using hlt)]; simp
  obtain ⟨x, hx⟩ : ∃ x, x = l[i] := ⟨_, rfl⟩
  rw [← hx] at hxl hst2
  refine anyQ2 fun Q => ?_
  by_cases h2 : 2 < x.length
  case neg =>
    have h2' : ¬ (2 : Int) < x.length := by omega
    have hr : rowTx x = [] := by rw [rowTx, if_neg h2]
    rw [hr] at hst2
    simp [hlt, ← hx, h2', hwi, hL, hmn, s60_11, ]
    exact back2 (i + 1) (by omega) (by omega) rfl (by simp <;> omega) (by simp) (by simp [hst2])
  have h2' : (2 : Int) < x.length := by omega
  have hwm : IntKind.i64.wrap ((x.length : Int) - 1) = ((x.length - 1 : Nat) : Int) := by rw [wrap64_of (by omega) (by omega)]; omega
  have hsub : x.length - 1 - 1 = x.length - 2 := by omega
  have hr : rowTx x = (cutB 44 (inTx x)).map prsN := by rw [rowTx, if_pos h2]
  have hxi : inTx x = x.tail.take (x.length - 2) := by simp [inTx]
  have hil : (inTx x).length ≤ 1000000000 := by rw [hxi, List.length_take, List.length_tail]; omega
  simp [hlt, ← hx, h2', hwm, hsub, s60_11, ]
  refine ⟨by omega, ?_⟩
  rw [← hxi]
  refine call_p (hw (inTx x) 44 hil) (by simp) fun hs4 hh4 hl4 => ?_
  simp at hh4
  have hVl := cutB_len 44 (inTx x)
  obtain ⟨v, hv⟩ : ∃ v, v = cutB 44 (inTx x) := ⟨_, rfl⟩
  rw [← hv] at hr hVl ⊢
  rw [hr] at hst2
  simp [s60_11, ]
  refine loop_rule (X := Nat) (fun k => k ≤ v.length) (fun k => [(0, .d (.str s)), (2, .ptr 2 0 0), (5, .ptr 5 0 0), (6, .d (.pl (l.map cStr))), (7, .d (.int .i64 i)), (8, .own 43 0 k), (9, .d (.pl (v.map cStr))), (10, .d (.int .i64 k))]) (fun k => [(2, some (.box [.d (.int .i64 0), .d (.sl none none [])])), (5, some (.box [.d (.int .i64 ar), .own 900 0 i])), (900, some (.row 98 1 (((l.take i).map rowTx).map (cP cI)))), (43, some (.row 3 1 (((v.take k).map prsN).map cI)))]) (fun k => v.length - k) 0 (by simp) (by simp) (by simp) ?_
  intro k hs5 t5 m5 hk hh5
  by_cases hkl : k < v.length
  · have hwk := wr1 (i := k) (by omega)
    have hmk : min k v.length = k := by omega
    have hLk : LenOk 8 (k + 1) := ⟨by omega, by simp only [maxLen]; omega⟩
    have hst3 : List.take (k + 1) (List.map (cI ∘ prsN) v) = List.take k (List.map (cI ∘ prsN) v) ++ [cI (prsN v[k])] := by
      rw [List.take_succ_eq_append_getElem (by simpa using hkl)]; simp
    refine anyQ fun Q' => ?_
    simp [hkl, s60_11, ]
    refine call_f (w_spec_ParseInt v[k]) (by simp) rfl fun hs6 hh6 => ?_
    simp at hh6
    simp [hkl, hwk, hLk, hmk, s60_11, ]
    exact back (k + 1) (by omega) (by omega) rfl (by simp <;> omega) (by simp) (by simp [hst3])
  · have hkn : k = v.length := by omega
    subst hkn
    simp [hwi, hL, hmn, List.take_of_length_le, s60_11, ]
    exact back2 (i + 1) (by omega) (by omega) rfl (by simp <;> omega) (by simp) (by simp [hst2])
end

end Go.Proofs.Yteoeondjpgpiaaa

namespace Go.Proofs.Yteoeondjpgpiaaa
open Go.Vs Go.Proofs Go
set_option maxRecDepth 100000
set_option maxHeartbeats 1000000


end Go.Proofs.Yteoeondjpgpiaaa

namespace Go.Proofs.Yteoeondjpgpiaaa
open Go.Vs Go.Proofs Go
set_option maxRecDepth 100000
set_option maxHeartbeats 1000000

section
attribute [local simp] plI_id plStr_id map_plI map_plStr pS cP cI cStr cU8 cB
end

end Go.Proofs.Yteoeondjpgpiaaa

namespace Go.Proofs.Yteoeondjpgpiaaa
open Go.Vs Go.Proofs Go
set_option maxRecDepth 100000
set_option maxHeartbeats 1000000

section
attribute [local simp] plI_id plStr_id map_plI map_plStr pS cP cI cStr cU8 cB
end

end Go.Proofs.Yteoeondjpgpiaaa

namespace Go.Proofs.Yteoeondjpgpiaaa
open Go.Vs Go.Proofs Go
set_option maxRecDepth 100000
set_option maxHeartbeats 1000000


end Go.Proofs.Yteoeondjpgpiaaa

namespace Go.Proofs.Yteoeondjpgpiaaa
open Go.Vs Go.Proofs Go
set_option maxRecDepth 100000
set_option maxHeartbeats 1000000


end Go.Proofs.Yteoeondjpgpiaaa

namespace Go.Proofs.Yteoeondjpgpiaaa
open Go.Vs Go.Proofs Go
set_option maxRecDepth 100000
set_option maxHeartbeats 1000000

section
attribute [local simp] plI_id plStr_id map_plI map_plStr
end

end Go.Proofs.Yteoeondjpgpiaaa

namespace Go.Proofs.Yteoeondjpgpiaaa
open Go.Vs Go.Proofs Go
set_option maxRecDepth 100000
set_option maxHeartbeats 1000000

section
attribute [local simp] plI_id plStr_id map_plI map_plStr
theorem e_impl_parseList (s : List UInt8) (hb : s.length ≤ 1000000000) : VC Try.prog 86 [.d (.str s), .d (.int .u8 44)]
   (fun n r => ∃ y : Ints, r = .tup [.d (dSl cI y), .d (.bool (plsB s))] ∧ (plsB s = true → plS plI y = plsL s) ∧ okS okI y ∧ Good (cS cI y) (whS whI y) n) := by
  refine VC.of E s86 (by kernel_rfl) Try.func86 (by rfl) (by kernel_rfl) (by simp [Try.f86]) (by simp [Try.f86]) s86_ok fun B => ?_
  by_cases h0 : s = []
  · simp [Try.f86, h0]
    exact ⟨nilS, by simp [nilS, dSl, plsB], by simp [plsL, nilS, plS], ok_nilS, good_nilS B⟩
  simp [Try.f86, h0]
  refine call_p (w_impl_split s 44 hb) (by simp) fun hs1 hh1 hl1 => ?_
  simp at hh1
  have hll := cutB_len 44 s
  have hB : plsB s = (cutB 44 s).all fun v => (prsZ v).isSome := by simp [plsB, h0]
  have hP : plsL s = (cutB 44 s).map prsN := by simp [plsL, h0]
  obtain ⟨v, hv⟩ : ∃ v, v = cutB 44 s := ⟨_, rfl⟩
  rw [← hv] at hll hB hP ⊢
  simp [pS, ]
  refine loop_ruleL (X := Nat) (fun k _ => k ≤ v.length ∧ ∀ x ∈ v.take k, (prsZ x).isSome = true) (fun k => [(6, .own 900 0 k), (15, .d (.pl (v.map cStr))), (16, .d (.int .i64 v.length)), (17, .d (.int .i64 k))]) (fun k => [(900, some (.row 3 1 (((v.take k).map prsN).map cI)))]) (fun k => v.length - k) ?_ ?_
  · refine (lead_slot 6 900 3 1 (by omega) (by omega) (by simp)).bind ?_
    rintro _ rfl
    exact Lead.of ⟨0, ⟨by omega, by simp⟩, rfl, rfl, Nat.le_refl _, by simp, by simp⟩
  rintro k hs t m ⟨hk, hall⟩ hh
  by_cases hkl : k < v.length
  · have hwk := wr1 (i := k) (by omega)
    have hmk : min k v.length = k := by omega
    have hLk : LenOk 8 (k + 1) := ⟨by omega, by simp only [maxLen]; omega⟩
    have hst3 : List.take (k + 1) (List.map (cI ∘ prsN) v) = List.take k (List.map (cI ∘ prsN) v) ++ [cI (prsN v[k])] := by
      rw [List.take_succ_eq_append_getElem (by simpa using hkl)]; simp
    simp [hkl, cStr, ]
    refine call_f (w_impl_ParseInt v[k]) (by simp) rfl fun hs6 hh6 => ?_
    simp at hh6
    cases hz : (prsZ v[k]).isSome
    · have hbf : plsB s = false := by
        rw [hB, List.all_eq_false]
        exact ⟨_, List.getElem_mem hkl, by rw [hz]; simp⟩
      simp [hz, hbf, ]
      exact ⟨nilS, by simp [nilS, dSl], ok_nilS, good_nilS B⟩
    · simp [hz, hkl, hwk, hLk, hmk, ]
      refine back2 (k + 1) ⟨by omega, fun x hx => ?_⟩ (by omega) rfl (by simp <;> omega) (by simp [cStr]) (by simp [hst3, cI])
      rw [List.take_succ_eq_append_getElem hkl] at hx
      rcases List.mem_append.1 hx with hx | hx
      · exact hall x hx
      · rw [List.mem_singleton.1 hx]; exact hz
  · have hkn : k = v.length := by omega
    subst hkn
    have hbt : plsB s = true := by
      rw [hB, List.all_eq_true]
      intro x hx
      exact hall x (by rw [List.take_of_length_le (Nat.le_refl _)]; exact hx)
    simp [hbt, hP, ]
    intro γ hs' h1 hg
    obtain ⟨q1, q2⟩ := gam_at hg (k := 900) (T := 3) (sz := 1) (es := (v.map prsN).map cI) (by simp [List.take_of_length_le])
    have q3 := gam_row hg (k := 900) (T := 3) (sz := 1) (es := (v.map prsN).map cI) (by simp [List.take_of_length_le])
    clear hg
    have hid : ∀ L : List Int, idsLL (L.map cI) = [] := fun L => by simp
    have hp : hpLL ((v.map prsN).map cI) = false := hpLL_mapI _
    simp only [List.map_map] at hp
    simp [hp, List.take_of_length_le]
    exact ⟨⟨γ 900, some (3, 1), v.map prsN⟩, by simp [dSl, List.take_of_length_le], by simp [plS], ⟨by simp only [maxLen, List.length_map]; omega, fun _ _ => trivial⟩, good_row (fun g hg => (q1 g hg).1) (by simpa using q2) q3 ⟨by rw [hid]; simp, by rw [hid]; simp⟩ (by simp [whI])⟩
theorem e_impl_ParseRelation (s : List UInt8) (hb : s.length ≤ 1000000000) : VC Try.prog 79 [.d (.str s)]
   (fun n r => ∃ y : Reln, r = .tup [.agg ((cReln y).map V.d), .d (.bool (prsB s))] ∧ plReln y = prsR s ∧ okReln y ∧ Good (cReln y) (whReln y) n) := by
  refine VC.of E s79 (by kernel_rfl) Try.func79 (by rfl) (by kernel_rfl) (by simp [Try.f79]) (by simp [Try.f79]) s79_ok fun B => ?_
  have hnil : plReln (⟨0, nilS⟩ : Reln) = ⟨0, []⟩ := by simp [plReln, nilS, plS, plI]
  have hokn : okReln (⟨0, nilS⟩ : Reln) := ⟨trivial, ok_nilS⟩
  have hgn : Good (cReln (⟨0, nilS⟩ : Reln)) (whReln ⟨0, nilS⟩) B := good_Reln0 B
  have hbad : prsB s = false → prsR s = ⟨0, []⟩ := fun h => by rw [prsR, if_neg (by rw [h]; simp)]
  have hform := fun h => prsB_form (s := s) h
  have hpos := cutB_pos 58 s
  have hcl := cutB_len 58 s
  have hpre : preRel s = ⟨prsN ((cutB 58 s).getD 0 []), if (cutB 58 s).length = 2 ∧ (cutB 58 s).getD 1 [] ≠ [] then (cutB 32 ((cutB 58 s).getD 1 [])).map rowTx else []⟩ := rfl
  have hml : ∀ x ∈ cutB 58 s, x.length ≤ s.length := fun x hx => cutB_mem hx
  have hs0 : (prsZ ((cutB 58 s).getD 0 [])).isSome = true → s ≠ [] := fun h e => by
    subst e
    simp [cutB, cutA, prsZ_nil] at h
  simp [Try.f79, ]
  refine call_p (w_impl_split s 58 hb) (by simp) fun hs1 hh1 hl1 => ?_
  simp at hh1
  obtain ⟨W, hW⟩ : ∃ W, W = cutB 58 s := ⟨_, rfl⟩
  rw [← hW] at hpos hpre hml hform hs0 ⊢
  simp [hpos, pS, cStr, ]
  refine call_f (w_impl_ParseInt W[0]) (by simp) rfl fun hs2 hh2 => ?_
  simp at hh2
  rw [getD_el _ hpos] at hpre hform hs0
  have fail : ∀ (hh : prsB s = false), ∃ y : Reln, V.tup [V.agg [V.d (D.int IntKind.i64 0), V.d (D.sl none none [])], V.d (D.bool false)] = .tup [.agg ((cReln y).map V.d), .d (.bool (prsB s))] ∧ plReln y = prsR s ∧ okReln y ∧ Good (cReln y) (whReln y) B := fun hh =>
    ⟨⟨0, nilS⟩, by simp [cReln, cI, cS, dSl, nilS, hh], by rw [hbad hh, hnil], hokn, hgn⟩
  cases hz0 : (prsZ W[0]).isSome
  · have hf : prsB s = false := by
      cases h : prsB s
      · rfl
      · rw [(hform h).1] at hz0; cases hz0
    simp [hz0, ]
    simpa using fail hf
  by_cases c2 : W.length = 2
  case neg =>
    have c2' : ¬ (W.length : Int) = 2 := by omega
    have hf : prsB s = false := by
      cases h : prsB s
      · rfl
      · exact absurd (hform h).2.1 c2
    simp [hz0, c2', ]
    simpa using fail hf
  have c2' : (W.length : Int) = 2 := by omega
  have h1W : 1 < W.length := by omega
  rw [getD_el _ h1W] at hpre hform
  have hsn := hs0 hz0
  have hJl : W[1].length ≤ 1000000000 := Nat.le_trans (hml _ (List.getElem_mem h1W)) hb
  obtain ⟨J, hJ⟩ : ∃ J, J = W[1] := ⟨_, rfl⟩
  obtain ⟨ar, har⟩ : ∃ ar, ar = prsN W[0] := ⟨_, rfl⟩
  have hB : prsB s = decide (fmtRel (preRel s) = s) := by simp [prsB, hsn]
  rw [← hJ] at hpre hform hJl
  rw [← har] at hpre ⊢
  by_cases c3 : J = []
  case pos =>
    rw [if_neg fun h => h.2 c3] at hpre
    simp [hz0, c2', h1W, ← hJ, c3, ]
    refine call_f (w_impl_FormatRelation (preRel s)) (by simp [hpre, eReln, pS, cP]) rfl fun hs9 hh9 => ?_
    simp at hh9
    by_cases e : fmtRel (preRel s) = s
    · have hR : prsR s = preRel s := by rw [prsR, if_pos (by rw [hB]; simpa using e)]
      simp [e, hB, ]
      refine ⟨⟨ar, nilS⟩, by simp [cReln, cI, cS, dSl, nilS], ?_, ⟨trivial, ok_nilS⟩, good_Reln (good_nilS B) (Nat.le_refl _)⟩
      rw [hR, hpre]; simp [plReln, nilS, plS, plI]
    · have hf : prsB s = false := by rw [hB]; simpa using e
      simp [e, ]
      simpa using fail hf
  rw [if_pos ⟨c2, c3⟩] at hpre
  simp [hz0, c2', h1W, ← hJ, c3, ]
  refine call_p (w_impl_split J 32 hJl) (by simp) fun hs3 hh3 hl3 => ?_
  simp at hh3
  have hLl := cutB_len 32 J
  have hLm : ∀ x ∈ cutB 32 J, x.length ≤ J.length := fun x hx => cutB_mem hx
  obtain ⟨l, hl⟩ : ∃ l, l = cutB 32 J := ⟨_, rfl⟩
  rw [← hl] at hpre hLl hLm hform ⊢
  simp [pS, ]
  refine loop_ruleL (X := Nat × List Ints) (fun p h => CopI (cS cI) (whS whI) (okS okI) (plS plI) (l.map rowTx) B p h) (fun p => [(0, .d (.str s)), (2, .ptr 2 0 0), (7, .ptr 7 0 0), (38, .d (.pl (l.map cStr))), (39, .d (.int .i64 l.length)), (40, .d (.int .i64 p.1))]) (fun p => [(2, some (.box [.d (.int .i64 0), .d (.sl none none [])])), (7, some (.box [.d (.int .i64 ar), .own 900 0 p.2.length])), (900, some (.row 98 1 (p.2.map (cS cI))))]) (fun p => l.length - p.1) ?_ ?_
  · refine (lead_box 7 1 900 98 1 [.d (.int .i64 ar), .d (.sl none none [])] (by omega) (by omega) (by omega) (by simp) rfl).bind ?_
    rintro _ rfl
    exact Lead.of ⟨(0, []), .zero, rfl, rfl, Nat.le_refl _, by simp, by simp⟩
  rintro ⟨i, ys⟩ hs t m hI hh
  have hle := hI.le
  have hyl := hI.len
  simp only [List.length_map] at hle
  by_cases hlt : i < l.length
  · have hwi := wr1 (i := i) (by omega)
    have hL : LenOk 24 (i + 1) := ⟨by omega, by simp only [maxLen]; omega⟩
    have hxl := hLm _ (List.getElem_mem hlt)
    have hfx : prsB s = true → 2 ≤ l[i].length ∧ (inTx l[i] ≠ [] → ∀ v ∈ cutB 44 (inTx l[i]), (prsZ v).isSome = true) := fun h => (hform h).2.2 c3 _ (List.getElem_mem hlt)
    obtain ⟨x, hx⟩ : ∃ x, x = l[i] := ⟨_, rfl⟩
    rw [← hx] at hxl hfx
    by_cases h2 : (x.length : Int) < 2
    · have hf : prsB s = false := by
        cases h : prsB s
        · rfl
        · have := (hfx h).1; omega
      simp [hlt, ← hx, h2, cStr, ]
      simpa using fail hf
    have hwm : IntKind.i64.wrap ((x.length : Int) - 1) = ((x.length - 1 : Nat) : Int) := by rw [wrap64_of (by omega) (by omega)]; omega
    have hsub : x.length - 1 - 1 = x.length - 2 := by omega
    have hxi : inTx x = x.tail.take (x.length - 2) := by simp [inTx]
    have hil : (inTx x).length ≤ 1000000000 := by rw [hxi, List.length_take, List.length_tail]; omega
    simp [hlt, ← hx, h2, hwm, hsub, cStr, ]
    refine ⟨by omega, ?_⟩
    rw [← hxi]
    refine call_some (e_impl_parseList (inTx x) hil) (by simp) (by simp) fun n4 hs4 r4 hn4 hm4 hp4 hr4 => ?_
    obtain ⟨y, rfl, hy1, hy2, hy3⟩ := hp4
    simp at hn4
    cases hpb : plsB (inTx x)
    · have hf : prsB s = false := by
        cases h : prsB s
        · rfl
        · have := plsB_of (hfx h).2
          rw [hpb] at this; cases this
      simp []
      simpa using fail hf
    have hr' : ∀ g ∈ idsL (cS cI y), g < hs4 := fun g hg => hr4 g (by rw [idsL_cS] at hg; simpa using hg)
    have hyr : plS plI y = rowTx x := by rw [hy1 hpb, plsL_row (by omega)]
    simp [cS, dSl, hL, hwi, hyl, ]
    exact back2 (i + 1, ys ++ [y]) (hI.snoc (by simpa using hlt) (by rw [hyr]; simp [hx]) hy2 (by omega) hm4 hy3 hr') (by simp only; omega) rfl (by simp <;> omega) (by simp [cStr]) (by simp [cS, dSl, hyl])
  · have hall := hI.all (by simp; omega)
    simp [hlt, ]
    have hpr : preRel s = ⟨ar, ys.map (plS plI)⟩ := by rw [hpre, hall]
    have hpS : hpLL (ys.map (cS cI)) = false := hpLL_mapS ys
    refine call_own (by simp) (fun γ n hn hg => ⟨[.agg [.d (.int .i64 ar), .d (.sl (γ 900) (some (98, 1)) (ys.map (cS cI)))]], by simp [hpS, List.take_of_length_le], (w_impl_FormatRelation (preRel s)).er (by simp [hpr, eReln, cP, pS, cI, erLL_map (er_cS er_cI)])⟩) (by rintro n _ rfl; simp [V.ids, D.ids, V.hp, D.hp]) fun n9 hs9 r9 hn9 hm9 hp9 hr9 => ?_
    subst hp9
    clear hr9
    simp at hn9
    by_cases e : fmtRel (preRel s) = s
    · have hR : prsR s = preRel s := by rw [prsR, if_pos (by rw [hB]; simpa using e)]
      simp [e, hB, ]
      intro γ hs' h1 hg
      obtain ⟨q1, q2⟩ := gam_at hg (k := 900) (T := 98) (sz := 1) (es := ys.map (cS cI)) (by simp)
      have q3 := gam_row hg (k := 900) (T := 98) (sz := 1) (es := ys.map (cS cI)) (by simp)
      clear hg
      have hp : hpLL (ys.map (cS cI)) = false := hpLL_mapS ys
      simp [hp, List.take_of_length_le]
      refine ⟨⟨ar, ⟨γ 900, some (98, 1), ys⟩⟩, by simp [cReln, cI, cS, dSl, List.take_of_length_le], ?_, ⟨trivial, ⟨by simp only [maxLen]; show ys.length ≤ _; omega, hI.ok⟩⟩, good_Reln (good_row (fun g hg => (q1 g hg).1) (by simpa using q2) q3 ⟨hI.good.nd, hI.good.lo⟩ hI.good.wh) (Nat.le_refl _)⟩
      rw [hR, hpr]; simp [plReln, plS]
    · have hf : prsB s = false := by rw [hB]; simpa using e
      simp [e, ]
      simpa using fail hf
end

end Go.Proofs.Yteoeondjpgpiaaa

namespace Go.Proofs.Yteoeondjpgpiaaa
open Go.Vs Go.Proofs Go
set_option maxRecDepth 100000
set_option maxHeartbeats 1000000

section
attribute [local simp] plI_id plStr_id map_plI map_plStr pS cP cI cStr cU8 cB
theorem w_spec_VersionFiles (d : PDb) (v : Int) (hst : ∀ t ∈ d.tabs, t.name.length ≤ maxLen) : VC Try.prog 18 [.agg ((eDb d).map V.d), .d (.int .i64 v)] (fun _ r => r = .d (pS eFile (verFs d v))) := by
  refine VC.ofL EP s18 (by kernel_rfl) Try.func18 (by rfl) (by kernel_rfl) (by simp [Try.f18]) (by simp [Try.f18]) s18_ok fun B hl => ?_
  obtain ⟨l⟩ := d
  simp [Try.f18, s18_10, s18_10, eDb]
  refine call_f (w_spec_IsValidDatabase ⟨l⟩ hst) (by simp [eDb]) rfl fun hs1 hh1 => ?_
  simp at hh1
  cases h1 : dbOk ⟨l⟩
  · simp [verFs, verB, h1, s18_10, ]
  simp [s18_10, ]
  refine call_f (w_spec_l1In v 1 99) (by simp) rfl fun hs2 hh2 => ?_
  simp at hh2
  cases h2 : inR v 1 99
  · simp [verFs, verB, h1, h2, s18_10, ]
  have hvz : inZ v := by simp only [inR, Bool.and_eq_true, decide_eq_true_eq] at h2; simp only [inZ]; omega
  have hdl := decZ_len hvz
  have hl6 : l.length ≤ 6 := dbOk_len h1
  have hnm : ∀ t ∈ l, t.name.length ≤ 4 := fun t ht => tabOk_name (dbOk_tab h1 ht)
  have hV : verFs ⟨l⟩ v = runs v l ++ [⟨[109] ++ decZ v, headTx l ++ decZ (ckS (headTx l))⟩] := by simp only [verFs, verB, h1, h2]; rfl
  simp [s18_10, ]
  refine loop_rule (X := Nat) (fun i => i ≤ l.length) (fun i => [(2, .ptr 2 0 0), (1, .d (.int .i64 v)), (5, .own 9 0 i), (6, .d (.str (headTx (l.take i)))), (7, .d (.int .i64 i))]) (fun i => [(2, some (.box [.d (.pl (l.map eTab))])), (9, some (.row 54 2 ((runs v (l.take i)).map eFile)))]) (fun i => l.length - i) 0 (by simp) (by simp [headTx]) (by simp [runs]) ?_
  intro i hs t m hi hh
  by_cases hlt : i < l.length
  · have hwi := wr1 (i := i) (by omega)
    have hL : LenOk 32 (i + 1) := ⟨by omega, by simp only [maxLen]; omega⟩
    have hT := List.getElem_mem hlt
    have hn4 := hnm _ hT
    obtain ⟨nm, ar, rows, hTe⟩ : ∃ nm ar rows, l[i] = ⟨nm, ⟨ar, rows⟩⟩ := ⟨_, _, _, rfl⟩
    have hst1 := headTx_step hlt
    have hst2 := runs_step (v := v) hlt
    have hhl := headTx_len (l := l.take i) fun t ht => hnm t (List.mem_of_mem_take ht)
    rw [List.length_take] at hhl
    rw [hTe] at hst1 hst2 hn4
    simp only at hn4
    have hfl := fmtRel_len ⟨ar, rows⟩
    have hck := ckS_in (fmtRel ⟨ar, rows⟩)
    have hckz : inZ (ckS (fmtRel ⟨ar, rows⟩)) := by simp only [inZ]; omega
    have hckl := decZ_len hckz
    simp [hlt, hTe, eTab, eReln, s18_10, ]
    refine call_f (w_spec_FormatRelation ⟨ar, rows⟩) (by simp [eReln]) rfl fun hs3 hh3 => ?_
    simp at hh3
    simp [hlt, hTe, eTab, eReln, s18_10, ]
    refine call_f (w_spec_l32Run v nm hvz (by omega)) (by simp) rfl fun hs4 hh4 => ?_
    simp at hh4
    simp [hlt, hTe, eTab, eReln, hL, show min i l.length = i by omega, s18_10, ]
    refine ⟨by omega, by omega, ?_⟩
    refine call_f (w_spec_ChecksumOf (fmtRel ⟨ar, rows⟩) (by omega)) (by simp) rfl fun hs5 hh5 => ?_
    simp at hh5
    simp [s18_10, ]
    refine call_f (w_spec_FormatInt (ckS (fmtRel ⟨ar, rows⟩)) hckz) (by simp) rfl fun hs6 hh6 => ?_
    simp at hh6
    simp [hwi, s18_10, ]
    refine ⟨by omega, by omega, ?_⟩
    exact back (i + 1) (by omega) (by omega) rfl (by simp <;> omega) (by simp [hst1, headLn]) (by simp [hst2, eFile])
  · have hn : i = l.length := by omega
    subst hn
    have hT := headTx_len hnm
    have hck := ckS_in (headTx l)
    have hckz : inZ (ckS (headTx l)) := by simp only [inZ]; omega
    have hckl := decZ_len hckz
    have hL : LenOk 32 (l.length + 1) := ⟨by omega, by simp only [maxLen]; omega⟩
    simp [List.take_of_length_le, s18_10, ]
    refine call_f (w_spec_l32Head v hvz) (by simp) rfl fun hs3 hh3 => ?_
    simp at hh3
    simp [s18_10, ]
    refine call_f (w_spec_ChecksumOf (headTx l) (by omega)) (by simp) rfl fun hs5 hh5 => ?_
    simp at hh5
    simp [s18_10, ]
    refine call_f (w_spec_FormatInt (ckS (headTx l)) hckz) (by simp) rfl fun hs6 hh6 => ?_
    simp at hh6
    simp [hL, hV, eFile, s18_10, ]
    exact ⟨by omega, List.take_of_length_le (by simp)⟩
end
theorem t_impl_VersionFiles (d : Db) (v : Int) (hd : okDb d) : VC Try.prog 26 [.agg ((cDb d).map V.d), .d (.int .i64 v)]
   (fun n r => ∃ y : Sl File, r = .d (dSl cFile y) ∧ plS plFile y = verFs (plDb d) v ∧ okS okFile y ∧ Good (cS cFile y) (whS whFile y) n) := by
  refine VC.of E s26 (by kernel_rfl) Try.func26 (by rfl) (by kernel_rfl) (by simp [Try.f26]) (by simp [Try.f26]) s26_ok fun B => ?_
  simp [Try.f26, s26_11, s26_11, cDb, cS]
  refine call_f (w_impl_IsValidDatabase (plDb d)) (by simp [eDb, plDb, er_Tab, pS, cP]) rfl fun hs1 hh1 => ?_
  simp at hh1
  cases h1 : dbOk (plDb d)
  · simp [s26_11, ]
    exact ⟨nilS, by simp [nilS, dSl], by simp [verFs, verB, h1, nilS, plS], ok_nilS, good_nilF B⟩
  simp [s26_11, ]
  refine call_f (w_impl_within v 1 99) (by simp) rfl fun hs2 hh2 => ?_
  simp at hh2
  cases h2 : inR v 1 99
  · simp [s26_11, ]
    exact ⟨nilS, by simp [nilS, dSl], by simp [verFs, verB, h1, h2, nilS, plS], ok_nilS, good_nilF B⟩
  have hvz : inZ v := by simp only [inR, Bool.and_eq_true, decide_eq_true_eq] at h2; simp only [inZ]; omega
  have hdl := decZ_len hvz
  obtain ⟨⟨tid, tT, tabs⟩⟩ := d
  obtain ⟨l, hl⟩ : ∃ l, l = tabs.map plTab := ⟨_, rfl⟩
  have hp : plDb ⟨⟨tid, tT, tabs⟩⟩ = ⟨l⟩ := by rw [hl]; rfl
  rw [hp] at h1
  have hll : l.length = tabs.length := by rw [hl]; simp
  have hl6 : l.length ≤ 6 := dbOk_len h1
  have hnm : ∀ t ∈ l, t.name.length ≤ 4 := fun t ht => tabOk_name (dbOk_tab h1 ht)
  have hV : verFs ⟨l⟩ v = runs v l ++ [⟨[109] ++ decZ v, headTx l ++ decZ (ckS (headTx l))⟩] := by simp only [verFs, verB, h1, h2]; rfl
  rw [hp]
  simp [dSl, s26_11, ]
  refine call_f (w_impl_FormatInt v hvz) (by simp) rfl fun hs3 hh3 => ?_
  simp at hh3
  simp [dSl, s26_11, ]
  refine loop_ruleL (X := Nat) (fun i _ => i ≤ tabs.length) (fun i => [(2, .ptr 2 0 0), (5, .own 41 0 i), (6, .d (.str (headTx (l.take i)))), (7, .d (.str (decZ v))), (22, .d (.sl tid tT (tabs.map cTab))), (23, .d (.int .i64 tabs.length)), (24, .d (.int .i64 i))])
    (fun i => [(2, some (.box [.d (.sl tid tT (tabs.map cTab))])), (41, some (.row 54 2 ((runs v (l.take i)).map eFile)))]) (fun i => tabs.length - i) ?_ ?_
  · refine (lead_slot 5 41 54 2 (by omega) (by omega) (by simp)).bind ?_
    rintro _ rfl
    exact Lead.of ⟨0, by omega, rfl, rfl, Nat.le_refl _, by simp [headTx], by simp [runs]⟩
  intro i hs t m hi hh
  by_cases hlt : i < tabs.length
  · have hlt' : i < l.length := by omega
    have hwi := wr1 (i := i) (by omega)
    have hL : LenOk 32 (i + 1) := ⟨by omega, by simp only [maxLen]; omega⟩
    have hT := List.getElem_mem hlt'
    have hn4 := hnm _ hT
    have hTe : l[i] = ⟨tabs[i].name, plReln tabs[i].rel⟩ := by simp [hl, plTab, plStr]
    have hst1 := headTx_step hlt'
    have hst2 := runs_step (v := v) hlt'
    have hhl := headTx_len (l := l.take i) fun t ht => hnm t (List.mem_of_mem_take ht)
    rw [List.length_take] at hhl
    rw [hTe] at hst1 hst2 hn4
    simp only at hn4
    obtain ⟨nm, hnme⟩ : ∃ nm, nm = tabs[i].name := ⟨_, rfl⟩
    obtain ⟨r, hre⟩ : ∃ r, r = tabs[i].rel := ⟨_, rfl⟩
    rw [← hnme] at hst1 hst2 hn4
    rw [← hre] at hst1 hst2
    have hTc : cTab tabs[i] = cStr nm ++ cReln r := by rw [hnme, hre]; rfl
    have hfl := fmtRel_len (plReln r)
    have hck := ckS_in (fmtRel (plReln r))
    have hckz : inZ (ckS (fmtRel (plReln r))) := by simp only [inZ]; omega
    have hckl := decZ_len hckz
    have hmn : min i l.length = i := by omega
    simp [hlt, hTc, cStr, cReln, cS, cI, s26_11, ]
    refine call_f (w_impl_FormatRelation (plReln r)) (by simp [eReln, plReln, er_SI, pS, cP, cI, plI]) rfl fun hs3 hh3 => ?_
    simp at hh3
    simp [hlt, cStr, cReln, cS, cI, hL, hmn, s26_11, ]
    refine ⟨by omega, by omega, by omega, by omega, ?_⟩
    refine call_f (w_impl_ChecksumOf (fmtRel (plReln r)) (by omega)) (by simp) rfl fun hs5 hh5 => ?_
    simp at hh5
    simp [s26_11, ]
    refine call_f (w_impl_FormatInt (ckS (fmtRel (plReln r))) hckz) (by simp) rfl fun hs6 hh6 => ?_
    simp at hh6
    simp [hwi, s26_11, ]
    refine ⟨by omega, by omega, by omega, ?_⟩
    exact back2 (i + 1) (by omega) (by omega) rfl (by simp <;> omega) (by simp [hst1, headLn, runNm]) (by simp [hst2, eFile, runNm, cStr])
  · have hn : i = tabs.length := by omega
    have htl : l.take i = l := List.take_of_length_le (by omega)
    have hT := headTx_len hnm
    have hck := ckS_in (headTx l)
    have hckz : inZ (ckS (headTx l)) := by simp only [inZ]; omega
    have hckl := decZ_len hckz
    have hL : LenOk 32 (l.length + 1) := ⟨by omega, by simp only [maxLen]; omega⟩
    subst hn
    rw [htl]
    rw [← hll]
    simp [s26_11, ]
    refine ⟨by omega, ?_⟩
    refine call_f (w_impl_ChecksumOf (headTx l) (by omega)) (by simp) rfl fun hs5 hh5 => ?_
    simp at hh5
    simp [s26_11, ]
    refine call_f (w_impl_FormatInt (ckS (headTx l)) hckz) (by simp) rfl fun hs6 hh6 => ?_
    simp at hh6
    simp [hL, s26_11, ]
    refine ⟨by omega, ?_⟩
    intro γ hs' h2' hg
    obtain ⟨fs, hfs⟩ : ∃ fs : List File, fs = (verFs ⟨l⟩ v).map toF := ⟨_, rfl⟩
    have hfe : fs.map cFile = (runs v l).map eFile ++ [[.str (109 :: decZ v), .str (headTx l ++ decZ (ckS (headTx l)))]] := by
      rw [hfs, hV, List.map_map]
      have : (cFile ∘ toF) = eFile := by funext p; rfl
      rw [this]; simp [eFile, cStr]
    have hfl : fs.length = l.length + 1 := by rw [hfs, hV]; simp
    obtain ⟨q1, q2⟩ := gam_at hg (k := 41) (T := 54) (sz := 2) (es := fs.map cFile) (by simp [hfe])
    have r1 := gam_row hg (k := 41) (T := 54) (sz := 2) (es := fs.map cFile) (by simp [hfe])
    clear hg
    have hok : ∀ f ∈ fs, okFile f := fun f hf => by
      rw [hfs, hV, List.map_append, List.mem_append] at hf
      rcases hf with hf | hf
      · simp only [runs, List.map_map, List.mem_map] at hf
        obtain ⟨t, ht, rfl⟩ := hf
        have h4 := hnm t ht
        have h5 := fmtRel_len t.rel
        refine ⟨?_, ?_⟩
        · show (runNm v t.name).length ≤ maxLen
          simp only [runNm, maxLen, List.length_append, List.length_singleton]; omega
        · show (fmtRel t.rel).length ≤ maxLen
          simp only [maxLen]; omega
      · simp only [List.map_cons, List.map_nil, List.mem_singleton] at hf
        subst hf
        refine ⟨?_, ?_⟩
        · show ([109] ++ decZ v).length ≤ maxLen
          simp only [maxLen, List.length_append, List.length_singleton]; omega
        · show (headTx l ++ decZ (ckS (headTx l))).length ≤ maxLen
          simp only [maxLen, List.length_append]; omega
    have hids : ∀ fs : List File, idsLL (fs.map cFile) = [] := fun fs => by
      induction fs with
      | nil => simp [idsLL]
      | cons a r ih => simp only [List.map_cons, idsLL, ih]; simp [cFile, cStr, idsL, D.ids]
    have hp0 : hpLL (List.map eFile (runs v l)) = false := hpLL_map (fun a => by simp [eFile, cStr]) _
    simp [hp0, List.take_of_length_le]
    refine ⟨⟨γ 41, some (54, 2), fs⟩, ?_, ?_, ⟨by simp only [maxLen]; show fs.length ≤ _; omega, hok⟩, good_row (fun g hg => (q1 g hg).1) (by simpa using q2) r1 ⟨by rw [hids]; simp, by rw [hids]; simp⟩ (fun a _ => by simp [whFile, whStr])⟩
    · simp [dSl, hfe, List.take_of_length_le]
    · have : plS plFile (⟨γ 41, some (54, 2), fs⟩ : Sl File) = fs.map plFile := rfl
      rw [this, hfs, List.map_map]
      have : (plFile ∘ toF) = id := by funext p; rfl
      rw [this, List.map_id]

end Go.Proofs.Yteoeondjpgpiaaa

namespace Go.Proofs.Yteoeondjpgpiaaa
open Go.Vs Go.Proofs Go
set_option maxRecDepth 100000
set_option maxHeartbeats 1000000

section
attribute [local simp] plI_id plStr_id map_plI map_plStr pS cP cI cStr cU8 cB eDisk eFile eTab eReln eDb
theorem w_spec_ReadFile (k : List PFile) (nm : List UInt8) : VC Try.prog 39 [.agg ((eDisk ⟨k⟩).map V.d), .d (.str nm)] (fun _ r => r = .tup [.d (.str (rdD k nm)), .d (.bool (rdB k nm))]) := by
  refine VC.ofL EP s39 (by kernel_rfl) Try.func39 (by rfl) (by kernel_rfl) (by simp [Try.f39]) (by simp [Try.f39]) s39_ok fun B hl => ?_
  simp [maxLen] at hl
  simp [Try.f39, ]
  refine loop_rule (X := Nat) (RdI k nm) (fun i => [(1, .d (.str nm)), (2, .ptr 2 0 0), (6, .d (.int .i64 i))]) (fun i => [(2, some (.box [.d (.pl (k.map eFile))]))]) (fun i => k.length - i) 0 .zero (by simp) (by simp) ?_
  intro i hs t m hI hh
  have hle := hI.le
  by_cases hlt : i < k.length
  · have hwi := wr1 (i := i) (by omega)
    obtain ⟨fn, fd, hf⟩ : ∃ fn fd, k[i] = ⟨fn, fd⟩ := ⟨_, _, rfl⟩
    by_cases e : fn = nm
    · have h := hI.hit hlt (by rw [hf]; exact e)
      rw [hf] at h
      simp [hlt, hf, e, rdD, rdB, h, ]
    · have h := hI.miss hlt (by rw [hf]; exact e)
      simp [hlt, hf, e, hwi, ]
      exact back (i + 1) h (by omega) rfl (by simp <;> omega) (by simp) (by simp)
  · have h := hI.done (by omega)
    simp [hlt, rdD, rdB, h, ]
theorem w_impl_ReadFile (k : List PFile) (nm : List UInt8) : VC Try.prog 77 [.agg ((eDisk ⟨k⟩).map V.d), .d (.str nm)] (fun _ r => r = .tup [.d (.str (rdD k nm)), .d (.bool (rdB k nm))]) := by
  refine VC.ofL EP s77 (by kernel_rfl) Try.func77 (by rfl) (by kernel_rfl) (by simp [Try.f77]) (by simp [Try.f77]) s77_ok fun B hl => ?_
  simp [maxLen] at hl
  simp [Try.f77, ]
  refine loop_rule (X := Nat) (RdI k nm) (fun i => [(1, .d (.str nm)), (9, .d (.pl (k.map eFile))), (10, .d (.int .i64 k.length)), (11, .d (.int .i64 i))]) (fun i => []) (fun i => k.length - i) 0 .zero (by simp) (by simp) ?_
  intro i hs t m hI hh
  have hle := hI.le
  by_cases hlt : i < k.length
  · have hwi := wr1 (i := i) (by omega)
    obtain ⟨fn, fd, hf⟩ : ∃ fn fd, k[i] = ⟨fn, fd⟩ := ⟨_, _, rfl⟩
    by_cases e : fn = nm
    · have h := hI.hit hlt (by rw [hf]; exact e)
      rw [hf] at h
      simp [hlt, hf, e, rdD, rdB, h, ]
    · have h := hI.miss hlt (by rw [hf]; exact e)
      simp [hlt, hf, e, hwi, ]
      exact back (i + 1) h (by omega) rfl (by simp <;> omega) (by simp) (by simp)
  · have h := hI.done (by omega)
    simp [hlt, rdD, rdB, h, ]
theorem w_spec_IsValidDisk (k : List PFile) : VC Try.prog 19 [.agg ((eDisk ⟨k⟩).map V.d)] (fun _ r => r = .d (.bool (dskOk k))) := by
  refine VC.ofL EP s19 (by kernel_rfl) Try.func19 (by rfl) (by kernel_rfl) (by simp [Try.f19]) (by simp [Try.f19]) s19_ok fun B hl => ?_
  simp [maxLen] at hl
  simp [Try.f19, s19_4, s19_4, ]
  refine loop_rule (X := Nat) (DskI k) (fun i => [(1, .ptr 1 0 0), (3, .d (.int .i64 i))]) (fun i => [(1, some (.box [.d (.pl (k.map eFile))]))]) (fun i => k.length - i) 1 .one (by simp) (by simp) ?_
  intro i hs t m hI hh
  have hlo := hI.lo
  by_cases hlt : i < k.length
  · have hwi := wr1 (i := i) (by omega)
    have hwm : IntKind.i64.wrap ((i : Int) - 1) = ((i - 1 : Nat) : Int) := by rw [wrap64_of (by omega) (by omega)]; omega
    have him : i - 1 < k.length := by omega
    have hat := dskAt_eq hlo hlt
    obtain ⟨fn, fd, hf⟩ : ∃ fn fd, k[i] = ⟨fn, fd⟩ := ⟨_, _, rfl⟩
    obtain ⟨gn, gd, hg⟩ : ∃ gn gd, k[i - 1] = ⟨gn, gd⟩ := ⟨_, _, rfl⟩
    rw [hf, hg] at hat
    simp only at hat
    cases e : Op.bytesLess gn fn
    · have hb := dskOk_bad hlt (by rw [hat, e])
      simp [hlt, him, hwm, hf, hg, e, hb, s19_4, ]
    · have h := hI.step (by rw [hat, e])
      simp [hlt, him, hwm, hf, hg, e, hwi, s19_4, ]
      exact back (i + 1) h (by omega) rfl (by simp <;> omega) (by simp) (by simp)
  · have h := hI.done (by omega)
    simp [hlt, h, s19_4, ]
theorem w_impl_IsValidDisk (k : List PFile) : VC Try.prog 27 [.agg ((eDisk ⟨k⟩).map V.d)] (fun _ r => r = .d (.bool (dskOk k))) := by
  refine VC.ofL EP s27 (by kernel_rfl) Try.func27 (by rfl) (by kernel_rfl) (by simp [Try.f27]) (by simp [Try.f27]) s27_ok fun B hl => ?_
  simp [maxLen] at hl
  simp [Try.f27, s27_4, s27_4, ]
  refine loop_rule (X := Nat) (DskI k) (fun i => [(1, .ptr 1 0 0), (3, .d (.int .i64 i))]) (fun i => [(1, some (.box [.d (.pl (k.map eFile))]))]) (fun i => k.length - i) 1 .one (by simp) (by simp) ?_
  intro i hs t m hI hh
  have hlo := hI.lo
  by_cases hlt : i < k.length
  · have hwi := wr1 (i := i) (by omega)
    have hwm : IntKind.i64.wrap ((i : Int) - 1) = ((i - 1 : Nat) : Int) := by rw [wrap64_of (by omega) (by omega)]; omega
    have him : i - 1 < k.length := by omega
    have hat := dskAt_eq hlo hlt
    obtain ⟨fn, fd, hf⟩ : ∃ fn fd, k[i] = ⟨fn, fd⟩ := ⟨_, _, rfl⟩
    obtain ⟨gn, gd, hg⟩ : ∃ gn gd, k[i - 1] = ⟨gn, gd⟩ := ⟨_, _, rfl⟩
    rw [hf, hg] at hat
    simp only at hat
    cases e : Op.bytesLess gn fn
    · have hb := dskOk_bad hlt (by rw [hat, e])
      simp [hlt, him, hwm, hf, hg, e, hb, s27_4, ]
    · have h := hI.step (by rw [hat, e])
      simp [hlt, him, hwm, hf, hg, e, hwi, s27_4, ]
      exact back (i + 1) h (by omega) rfl (by simp <;> omega) (by simp) (by simp)
  · have h := hI.done (by omega)
    simp [hlt, h, s27_4, ]
theorem w_spec_WriteFile (k : List PFile) (nm data : List UInt8) (hb : k.length ≤ 4294967296) : VC Try.prog 22 [.agg ((eDisk ⟨k⟩).map V.d), .d (.str nm), .d (.str data)] (fun _ r => r = .agg ((eDisk ⟨wrF k ⟨nm, data⟩⟩).map V.d)) := by
  refine VC.ofL EP s22 (by kernel_rfl) Try.func22 (by rfl) (by kernel_rfl) (by simp [Try.f22]) (by simp [Try.f22]) s22_ok fun B hl => ?_
  simp [Try.f22, ]
  refine loop_ruleL (X := Nat × Bool × List PFile) (fun p _ => WrI k ⟨nm, data⟩ p) (fun p => [(1, .d (.str nm)), (2, .d (.str data)), (3, .ptr 3 0 0), (6, .ptr 6 0 0), (7, .ptr 7 0 0), (8, .d (.bool p.2.1)), (9, .d (.int .i64 p.1))]) (fun p => [(3, some (.box [.d (.pl (k.map eFile))])), (6, some (.box [.d (.sl none none [])])), (7, some (.box [.own 900 0 p.2.2.length])), (900, some (.row 54 2 (p.2.2.map eFile)))]) (fun p => k.length - p.1) ?_ ?_
  · refine (lead_box 7 0 900 54 2 [.d (.sl none none [])] (by omega) (by omega) (by omega) (by simp) rfl).bind ?_
    rintro _ rfl
    exact Lead.of ⟨(0, false, []), .zero, rfl, rfl, Nat.le_refl _, by simp, by simp⟩
  rintro ⟨i, b, out⟩ hs t m hI hh
  have hle := hI.le
  have hol := hI.len
  simp only at hle hol
  have hol2 : out.length ≤ i + 1 := by cases b <;> simp at hol <;> omega
  by_cases hlt : i < k.length
  · have hwi := wr1 (i := i) (by omega)
    have hstp := hI.step hlt
    have hL1 : LenOk 32 (out.length + 1) := ⟨by omega, by simp only [maxLen]; omega⟩
    have hL2 : LenOk 32 (out.length + 1 + 1) := ⟨by omega, by simp only [maxLen]; omega⟩
    obtain ⟨fn, fd, hf⟩ : ∃ fn fd, k[i] = ⟨fn, fd⟩ := ⟨_, _, rfl⟩
    rw [hf] at hstp
    simp only at hstp
    refine anyQ2 fun Q => ?_
    cases b <;> cases e : Op.bytesLess fn nm <;> by_cases e2 : fn = nm <;> (try rw [e2] at hf e hstp) <;> simp only [e, e2, if_true, if_false, Bool.not_true, Bool.not_false, Bool.and_true, Bool.and_false, Bool.true_and, Bool.false_and, Bool.or_true, Bool.or_false, Bool.true_or, Bool.false_or, List.nil_append, List.append_nil, reduceCtorEq, List.append_assoc, List.cons_append] at hstp
    all_goals
      simp [hlt, hf, e, e2, hwi, hL1, hL2, List.take_of_length_le, ]
      first
      | exact back2 (_, _, _) hstp (by simp only; omega) rfl (by simp <;> omega) (by simp) (by simp [List.take_of_length_le])
      | trace_state
  · have hd := hI.done (by omega)
    have hL1 : LenOk 32 (out.length + 1) := ⟨by omega, by simp only [maxLen]; omega⟩
    cases b
    · simp [hlt, hd, hL1, List.take_of_length_le, ]
    · simp [hlt, hd, List.take_of_length_le, ]
theorem w_spec_l32Without (k : List PFile) (nm : List UInt8) (hb : k.length ≤ 4294967296) : VC Try.prog 20 [.agg ((eDisk ⟨k⟩).map V.d), .d (.str nm)] (fun _ r => r = .agg ((eDisk ⟨wout k nm⟩).map V.d)) := by
  refine VC.ofL EP s20 (by kernel_rfl) Try.func20 (by rfl) (by kernel_rfl) (by simp [Try.f20]) (by simp [Try.f20]) s20_ok fun B hl => ?_
  simp [Try.f20, s20_6, s20_6, ]
  refine loop_ruleL (X := Nat) (fun i _ => i ≤ k.length) (fun i => [(1, .d (.str nm)), (2, .ptr 2 0 0), (4, .ptr 4 0 0), (5, .ptr 5 0 0), (6, .d (.int .i64 i))]) (fun i => [(2, some (.box [.d (.pl (k.map eFile))])), (4, some (.box [.d (.sl none none [])])), (5, some (.box [.own 900 0 (wout (k.take i) nm).length])), (900, some (.row 54 2 ((wout (k.take i) nm).map eFile)))]) (fun i => k.length - i) ?_ ?_
  · refine (lead_box 5 0 900 54 2 [.d (.sl none none [])] (by omega) (by omega) (by omega) (by simp) rfl).bind ?_
    rintro _ rfl
    exact Lead.of ⟨0, by omega, rfl, rfl, Nat.le_refl _, by simp, by simp [wout]⟩
  intro i hs t m hi hh
  by_cases hlt : i < k.length
  · have hwi := wr1 (i := i) (by omega)
    have hol := wout_len (k.take i) nm
    rw [List.length_take] at hol
    have hstp := wout_step (nm := nm) hlt
    obtain ⟨out, ho⟩ : ∃ out, out = wout (k.take i) nm := ⟨_, rfl⟩
    rw [← ho] at hstp hol ⊢
    have hL1 : LenOk 32 (out.length + 1) := ⟨by omega, by simp only [maxLen]; omega⟩
    obtain ⟨fn, fd, hf⟩ : ∃ fn fd, k[i] = ⟨fn, fd⟩ := ⟨_, _, rfl⟩
    rw [hf] at hstp
    simp only at hstp
    by_cases e : fn = nm
    · rw [if_pos e, List.append_nil] at hstp
      simp [hlt, hf, e, hwi, s20_6, ]
      exact back2 (i + 1) (by omega) (by omega) rfl (by simp <;> omega) (by simp) (by simp [hstp])
    · rw [if_neg e] at hstp
      simp [hlt, hf, e, hwi, hL1, List.take_of_length_le, s20_6, ]
      exact back2 (i + 1) (by omega) (by omega) rfl (by simp <;> omega) (by simp) (by simp [hstp, List.take_of_length_le])
  · have hn : i = k.length := by omega
    subst hn
    simp [hlt, List.take_of_length_le, s20_6, ]
end

end Go.Proofs.Yteoeondjpgpiaaa

namespace Go.Proofs.Yteoeondjpgpiaaa
open Go.Vs Go.Proofs Go
set_option maxRecDepth 100000
set_option maxHeartbeats 1000000

section
attribute [local simp] plI_id plStr_id map_plI map_plStr pS cP eDisk
theorem e_impl_copyDisk (k : List PFile) (hk : ∀ f ∈ k, fOk f) (hb : k.length ≤ 1000000000) : VC Try.prog 28 [.agg ((eDisk ⟨k⟩).map V.d)] (fun n v => ∃ y : Disk, v = .agg ((cDisk y).map V.d) ∧ plDisk y = ⟨k⟩ ∧ okDisk y ∧ Good (cDisk y) (whDisk y) n) := by
  refine VC.of E s28 (by kernel_rfl) Try.func28 (by rfl) (by kernel_rfl) (by simp [Try.f28]) (by simp [Try.f28]) s28_ok fun B => ?_
  have hL : LenOk 32 k.length := ⟨by omega, by simp only [maxLen]; omega⟩
  simp [Try.f28, hL]
  refine ⟨fun a _ => by simp [eFile, cStr], ?_⟩
  intro γ hs' h1 hg
  obtain ⟨q1, q2⟩ := gam_at hg (k := 3) (T := 54) (sz := 2) (es := (k).map eFile) (by simp [List.take_of_length_le, eFile, cStr])
  clear hg
  have hp := hp_files (k)
  simp [hp, List.take_of_length_le]
  exact ⟨dskT (γ 3) (54) (k), by simp [dskT_cells, List.take_of_length_le, eFile, cStr], by rw [pl_dskT], ok_dskT (hk) (by omega), good_dskT (fun g hg => (q1 g hg).1) q2⟩
theorem e_impl_removed (k : List PFile) (nm : List UInt8) (hk : ∀ f ∈ k, fOk f) (hb : k.length ≤ 1000000000) : VC Try.prog 29 [.agg ((eDisk ⟨k⟩).map V.d), .d (.str nm)] (fun n v => ∃ y : Disk, v = .agg ((cDisk y).map V.d) ∧ plDisk y = ⟨wout k nm⟩ ∧ okDisk y ∧ Good (cDisk y) (whDisk y) n) := by
  refine VC.of E s29 (by kernel_rfl) Try.func29 (by rfl) (by kernel_rfl) (by simp [Try.f29]) (by simp [Try.f29]) s29_ok fun B => ?_
  simp [Try.f29, ]
  refine loop_ruleL (X := Nat) (fun i _ => i ≤ k.length) (fun i => [(1, .d (.str nm)), (4, .ptr 4 0 0), (5, .ptr 5 0 0), (9, .d (.pl (k.map eFile))), (10, .d (.int .i64 k.length)), (11, .d (.int .i64 i))]) (fun i => [(4, some (.box [.d (.sl none none [])])), (5, some (.box [.own 900 0 (wout (k.take i) nm).length])), (900, some (.row 54 2 ((wout (k.take i) nm).map eFile)))]) (fun i => k.length - i) ?_ ?_
  · refine (lead_box 5 0 900 54 2 [.d (.sl none none [])] (by omega) (by omega) (by omega) (by simp) rfl).bind ?_
    rintro _ rfl
    exact Lead.of ⟨0, by omega, rfl, rfl, Nat.le_refl _, by simp, by simp [wout]⟩
  intro i hs t m hi hh
  by_cases hlt : i < k.length
  · have hwi := wr1 (i := i) (by omega)
    have hol := wout_len (k.take i) nm
    rw [List.length_take] at hol
    have hstp := wout_step (nm := nm) hlt
    obtain ⟨out, ho⟩ : ∃ out, out = wout (k.take i) nm := ⟨_, rfl⟩
    rw [← ho] at hstp hol ⊢
    have hL1 : LenOk 32 (out.length + 1) := ⟨by omega, by simp only [maxLen]; omega⟩
    obtain ⟨fn, fd, hf⟩ : ∃ fn fd, k[i] = ⟨fn, fd⟩ := ⟨_, _, rfl⟩
    rw [hf] at hstp
    simp only at hstp
    by_cases e : fn = nm
    · rw [if_pos e, List.append_nil] at hstp
      simp [hlt, hf, eFile, cStr, e, hwi, ]
      exact back2 (i + 1) (by omega) (by omega) rfl (by simp <;> omega) (by simp [eFile, cStr]) (by simp [hstp])
    · rw [if_neg e] at hstp
      simp [hlt, hf, eFile, cStr, e, hwi, hL1, List.take_of_length_le, ]
      exact back2 (i + 1) (by omega) (by omega) rfl (by simp <;> omega) (by simp [eFile, cStr]) (by simp [hstp, eFile, cStr, List.take_of_length_le])
  · have hn : i = k.length := by omega
    subst hn
    have hwl := wout_len k nm
    simp [hlt, List.take_of_length_le, ]
    intro γ hs' h1 hg
    obtain ⟨q1, q2⟩ := gam_at hg (k := 900) (T := 54) (sz := 2) (es := (wout k nm).map eFile) (by simp [List.take_of_length_le, eFile, cStr])
    clear hg
    have hp := hp_files (wout k nm)
    simp [hp, List.take_of_length_le]
    exact ⟨dskT (γ 900) (54) (wout k nm), by simp [dskT_cells, List.take_of_length_le, eFile, cStr], by rw [pl_dskT], ok_dskT (wout_ok hk) (by omega), good_dskT (fun g hg => (q1 g hg).1) q2⟩
theorem e_impl_WriteFile (k : List PFile) (nm data : List UInt8) (hk : ∀ f ∈ k, fOk f) (hn : fOk ⟨nm, data⟩) (hb : k.length ≤ 4294967296) : VC Try.prog 31 [.agg ((eDisk ⟨k⟩).map V.d), .d (.str nm), .d (.str data)] (fun n v => ∃ y : Disk, v = .agg ((cDisk y).map V.d) ∧ plDisk y = ⟨wrF k ⟨nm, data⟩⟩ ∧ okDisk y ∧ Good (cDisk y) (whDisk y) n) := by
  refine VC.of E s31 (by kernel_rfl) Try.func31 (by rfl) (by kernel_rfl) (by simp [Try.f31]) (by simp [Try.f31]) s31_ok fun B => ?_
  simp [Try.f31, ]
  refine loop_ruleL (X := Nat × Bool × List PFile) (fun p _ => WrI k ⟨nm, data⟩ p) (fun p => [(1, .d (.str nm)), (2, .d (.str data)), (6, .ptr 6 0 0), (7, .ptr 7 0 0), (8, .d (.bool p.2.1)), (12, .d (.pl (k.map eFile))), (13, .d (.int .i64 k.length)), (14, .d (.int .i64 p.1))]) (fun p => [(6, some (.box [.d (.sl none none [])])), (7, some (.box [.own 900 0 p.2.2.length])), (900, some (.row 54 2 (p.2.2.map eFile)))]) (fun p => k.length - p.1) ?_ ?_
  · refine (lead_box 7 0 900 54 2 [.d (.sl none none [])] (by omega) (by omega) (by omega) (by simp) rfl).bind ?_
    rintro _ rfl
    exact Lead.of ⟨(0, false, []), .zero, rfl, rfl, Nat.le_refl _, by simp, by simp⟩
  rintro ⟨i, b, out⟩ hs t m hI hh
  have hle := hI.le
  have hol := hI.len
  simp only at hle hol
  have hol2 : out.length ≤ i + 1 := by cases b <;> simp at hol <;> omega
  by_cases hlt : i < k.length
  · have hwi := wr1 (i := i) (by omega)
    have hstp := hI.step hlt
    have hL1 : LenOk 32 (out.length + 1) := ⟨by omega, by simp only [maxLen]; omega⟩
    have hL2 : LenOk 32 (out.length + 1 + 1) := ⟨by omega, by simp only [maxLen]; omega⟩
    obtain ⟨fn, fd, hf⟩ : ∃ fn fd, k[i] = ⟨fn, fd⟩ := ⟨_, _, rfl⟩
    rw [hf] at hstp
    simp only at hstp
    refine anyQ2 fun Q => ?_
    cases b <;> cases e : Op.bytesLess fn nm <;> by_cases e2 : fn = nm <;> (try rw [e2] at hf e hstp) <;> simp only [e, e2, if_true, if_false, Bool.not_true, Bool.not_false, Bool.and_true, Bool.and_false, Bool.true_and, Bool.false_and, Bool.or_true, Bool.or_false, Bool.true_or, Bool.false_or, List.nil_append, List.append_nil, reduceCtorEq, List.append_assoc, List.cons_append] at hstp
    all_goals
      simp [hlt, hf, eFile, cStr, e, e2, hwi, hL1, hL2, List.take_of_length_le, ]
      exact back2 (_, _, _) hstp (by simp only; omega) rfl (by simp <;> omega) (by simp [eFile, cStr]) (by simp [eFile, cStr, List.take_of_length_le])
  · have hd := hI.done (by omega)
    have hwl := wrF_len k ⟨nm, data⟩
    have hL1 : LenOk 32 (out.length + 1) := ⟨by omega, by simp only [maxLen]; omega⟩
    have hwok := wrF_ok hk hn
    cases b
    · simp only [Bool.false_eq_true, if_false] at hd
      simp [hlt, hL1, List.take_of_length_le, ]
      rw [hd] at hwl hwok ⊢
      intro γ hs' h1 hg
      obtain ⟨q1, q2⟩ := gam_at hg (k := 900) (T := 54) (sz := 2) (es := (out ++ [(⟨nm, data⟩ : PFile)]).map eFile) (by simp [List.take_of_length_le, eFile, cStr])
      clear hg
      have hp := hp_files (out ++ [(⟨nm, data⟩ : PFile)])
      replace hp := hp_files out
      simp [hp, List.take_of_length_le]
      exact ⟨dskT (γ 900) (54) (out ++ [(⟨nm, data⟩ : PFile)]), by simp [dskT_cells, List.take_of_length_le, eFile, cStr], by rw [pl_dskT], ok_dskT (hwok) (by omega), good_dskT (fun g hg => (q1 g hg).1) q2⟩
    · simp only [if_true, List.append_nil] at hd
      simp [hlt, List.take_of_length_le, ]
      rw [hd] at hwl hwok ⊢
      intro γ hs' h1 hg
      obtain ⟨q1, q2⟩ := gam_at hg (k := 900) (T := 54) (sz := 2) (es := (out).map eFile) (by simp [List.take_of_length_le, eFile, cStr])
      clear hg
      have hp := hp_files (out)
      simp [hp, List.take_of_length_le]
      exact ⟨dskT (γ 900) (54) (out), by simp [dskT_cells, List.take_of_length_le, eFile, cStr], by rw [pl_dskT], ok_dskT (hwok) (by omega), good_dskT (fun g hg => (q1 g hg).1) q2⟩
end

end Go.Proofs.Yteoeondjpgpiaaa

namespace Go.Proofs.Yteoeondjpgpiaaa
open Go.Vs Go.Proofs Go
set_option maxRecDepth 100000
set_option maxHeartbeats 1000000


end Go.Proofs.Yteoeondjpgpiaaa

namespace Go.Proofs.Yteoeondjpgpiaaa
open Go.Vs Go.Proofs Go
set_option maxRecDepth 100000
set_option maxHeartbeats 1000000


end Go.Proofs.Yteoeondjpgpiaaa

namespace Go.Proofs.Yteoeondjpgpiaaa
open Go.Vs Go.Proofs Go
set_option maxRecDepth 100000
set_option maxHeartbeats 1000000

section
attribute [local simp] plI_id plStr_id map_plI map_plStr pS cP cI cStr cU8 cB
end

end Go.Proofs.Yteoeondjpgpiaaa

namespace Go.Proofs.Yteoeondjpgpiaaa
open Go.Vs Go.Proofs Go
set_option maxRecDepth 100000
set_option maxHeartbeats 1000000


end Go.Proofs.Yteoeondjpgpiaaa

namespace Go.Proofs.Yteoeondjpgpiaaa
open Go.Vs Go.Proofs Go
set_option maxRecDepth 100000
set_option maxHeartbeats 1000000


end Go.Proofs.Yteoeondjpgpiaaa

namespace Go.Proofs.Yteoeondjpgpiaaa
open Go.Vs Go.Proofs Go
set_option maxRecDepth 100000
set_option maxHeartbeats 1000000

section
attribute [local simp] plI_id plStr_id map_plI map_plStr pS cP cI cStr cU8 cB eTab eReln
end

end Go.Proofs.Yteoeondjpgpiaaa

namespace Go.Proofs.Yteoeondjpgpiaaa
open Go.Vs Go.Proofs Go
set_option maxRecDepth 100000
set_option maxHeartbeats 1000000

section
attribute [local simp] plI_id plStr_id map_plI map_plStr pS cP eDisk
theorem e_impl_readVersion (k : List PFile) (v : Int) (hk : ∀ f ∈ k, f.data.length ≤ 1000000000) (hv : inZ v) : VC Try.prog 65 [.agg ((eDisk ⟨k⟩).map V.d), .d (.int .i64 v)]
   (fun n r => ∃ y : Db, r = .tup [.agg ((cDb y).map V.d), .d (.bool (loadI k v).isSome)] ∧ (∀ d, loadI k v = some d → plDb y = d) ∧ okDb y ∧ Good (cDb y) (whDb y) n) := by
  refine VC.of E s65 (by kernel_rfl) Try.func65 (by rfl) (by kernel_rfl) (by simp [Try.f65]) (by simp [Try.f65]) s65_ok fun B => ?_
  have hrd : ∀ nm, (rdD k nm).length ≤ 1000000000 := fun nm => rdD_len hk
  have hdl := decZ_len hv
  have hdef : loadI k v = if rdB k (hdNm v) then match tabsM (tabO k v) (lns (rdD k (hdNm v))) with
    | none => none
    | some ts => if verB ⟨ts⟩ v && (verFs ⟨ts⟩ v).all (fileOk k) then some ⟨ts⟩ else none
  else none := rfl
  have fail : loadI k v = none → ∃ y : Db, V.tup [V.agg [V.d (D.sl none none [])], V.d (D.bool false)] = .tup [.agg ((cDb y).map V.d), .d (.bool (loadI k v).isSome)] ∧ (∀ d, loadI k v = some d → plDb y = d) ∧ okDb y ∧ Good (cDb y) (whDb y) B := fun hn =>
    ⟨⟨nilS⟩, by simp [hn, cDb, cS, dSl, nilS], fun d h => by rw [hn] at h; simp at h, ok_nilS, good_nilS B⟩
  simp [Try.f65, ]
  refine call_f (w_impl_FormatInt v hv) (by simp) rfl fun hs1 hh1 => ?_
  simp at hh1
  simp []
  refine ⟨by omega, ?_⟩
  refine call_f (w_impl_ReadFile k (hdNm v)) (by simp [hdNm]) rfl fun hs2 hh2 => ?_
  simp at hh2
  obtain ⟨H, hH⟩ : ∃ H, H = rdD k (hdNm v) := ⟨_, rfl⟩
  have hHl : H.length ≤ 1000000000 := by rw [hH]; exact hrd _
  rw [← hH] at hdef ⊢
  cases his : rdB k (hdNm v)
  · have hn : loadI k v = none := by rw [hdef, his]; rfl
    simp []
    simpa using fail hn
  rw [his, if_pos rfl] at hdef
  simp []
  refine call_p (w_impl_split H 10 hHl) (by simp) fun hs3 hh3 hl3 => ?_
  simp at hh3
  have hcl := cutB_len 10 H
  have hcm : ∀ x ∈ cutB 10 H, x.length ≤ H.length := fun x hx => cutB_mem hx
  have hll := lns_len H
  have hLt : lns H = (cutB 10 H).take ((cutB 10 H).length - 1) := by rw [lns, List.dropLast_eq_take]
  have hLm : ∀ x ∈ lns H, x.length ≤ H.length := fun x hx => hcm x (List.dropLast_subset _ hx)
  obtain ⟨l, hl⟩ : ∃ l, l = cutB 10 H := ⟨_, rfl⟩
  obtain ⟨L, hL⟩ : ∃ L, L = lns H := ⟨_, rfl⟩
  simp only [← hl, ← hL] at hcl hcm hll hLt hLm hdef ⊢
  have hwl : IntKind.i64.wrap ((l.length : Int) - 1) = ((l.length - 1 : Nat) : Int) := by rw [wrap64_of (by omega) (by omega)]; omega
  have hcut : List.take (l.length - 1) (List.map cStr l) = List.map cStr L := by rw [hLt, List.map_take]
  have hLn : l.length - 1 = L.length := by omega
  have hmm : min L.length l.length = L.length := by omega
  simp [hwl, hcut, hLn, hmm, ]
  refine ⟨by omega, ?_⟩
  rw [← hLn, hcut, hLn]
  refine loop_ruleL (X := Nat × List Tab) (fun p h => TbI (tabO k v) L p.1 (p.2.map plTab) ∧ (∀ t ∈ p.2, okTab t) ∧ GoodL cTab whTab B h p.2) (fun p => [(1, .d (.int .i64 v)), (2, .ptr 2 0 0), (4, .ptr 4 0 0), (6, .d (.str (decZ v))), (9, .ptr 9 0 0), (41, .d (.pl (L.map cStr))), (42, .d (.int .i64 L.length)), (43, .d (.int .i64 p.1))]) (fun p => [(2, some (.box [.d (.pl (k.map eFile))])), (4, some (.box [.d (.sl none none [])])), (9, some (.box [.own 900 0 p.2.length])), (900, some (.row 79 3 (p.2.map cTab)))]) (fun p => L.length - p.1) ?_ ?_
  · refine (lead_box 9 0 900 79 3 [.d (.sl none none [])] (by omega) (by omega) (by omega) (by simp) rfl).bind ?_
    rintro _ rfl
    exact Lead.of ⟨(0, []), ⟨.zero, by simp, .nil⟩, rfl, rfl, Nat.le_refl _, by simp, by simp⟩
  rintro ⟨i, ys⟩ hs t m ⟨hI, hok, hgd⟩ hh
  have hle := hI.le
  have hal := hI.len
  simp only [List.length_map] at hle hal hok hgd
  have hwi := wr1 (i := i) (by omega)
  by_cases hlt : i < L.length
  · have hxl := hLm _ (List.getElem_mem hlt)
    have hstp := fun t e => hI.step hlt (t := t) e
    have hbad := hI.bad hlt
    obtain ⟨x, hx⟩ : ∃ x, x = L[i] := ⟨_, rfl⟩
    rw [← hx] at hxl hstp hbad
    have hnone : tabO k v x = none → loadI k v = none := fun h => by rw [hdef, hbad h]
    simp [hlt, ← hx, cStr, ]
    refine call_p (w_impl_split x 61 (by omega)) (by simp) fun hs4 hh4 hl4 => ?_
    simp at hh4
    have hwp := cutB_pos 61 x
    have hwm : ∀ y ∈ cutB 61 x, y.length ≤ x.length := fun y hy => cutB_mem hy
    have hlm : lnNm x = (cutB 61 x)[0] := getD_el _ hwp
    have hw0l := hwm _ (List.getElem_mem hwp)
    rw [← hlm] at hw0l
    obtain ⟨ws, hws⟩ : ∃ ws, ws = cutB 61 x := ⟨_, rfl⟩
    simp only [← hws] at hwp hlm ⊢
    have htO : tabO k v x = if rdB k (runNm v (lnNm x)) && prsB (rdD k (runNm v (lnNm x))) then some ⟨lnNm x, prsR (rdD k (runNm v (lnNm x)))⟩ else none := rfl
    simp [hwp, cStr, ← hlm, ]
    refine ⟨by omega, by omega, by omega, ?_⟩
    refine call_f (w_impl_ReadFile k (runNm v (lnNm x))) (by simp [runNm]) rfl fun hs6 hh6 => ?_
    simp at hh6
    have hsl := hrd (runNm v (lnNm x))
    obtain ⟨s, hs_⟩ : ∃ s, s = rdD k (runNm v (lnNm x)) := ⟨_, rfl⟩
    obtain ⟨fb, hfb⟩ : ∃ b, b = rdB k (runNm v (lnNm x)) := ⟨_, rfl⟩
    rw [← hs_] at hsl htO ⊢
    rw [← hfb] at htO ⊢
    simp []
    refine call_some (e_impl_ParseRelation s hsl) (by simp) (by simp) fun n7 hs7 r7 hn7 hm7 hp7 hr7 => ?_
    obtain ⟨r, rfl, pr, kr, Gr⟩ := hp7
    simp at hn7
    cases g2 : fb
    · have hn := hnone (by rw [htO]; simp [g2])
      simp [cReln, cI, cS, dSl, ]
      simpa using fail hn
    cases g3 : prsB s
    · have hn := hnone (by rw [htO]; simp [g3])
      simp [cReln, cI, cS, dSl, ]
      simpa using fail hn
    have hnx := hstp ⟨lnNm x, prsR s⟩ (by rw [htO]; simp [g2, g3])
    have hL1 : LenOk 48 (ys.length + 1) := ⟨by omega, by simp only [maxLen]; omega⟩
    have u1 : ∀ g ∈ idsL (cTab ⟨lnNm x, r⟩), g < hs7 := fun g hg => hr7 g (by
      simp only [V.ids, idsVL, ids_agg, List.mem_append]
      left
      rw [cTab, idsL_app] at hg
      exact (List.mem_append.1 hg).resolve_left (by simp [cStr, idsL, D.ids]))
    rw [hal] at hL1
    simp [cReln, cI, cS, dSl, hL1, hal, hwi, ]
    refine back2 (i + 1, ys ++ [⟨lnNm x, r⟩]) ⟨?_, fun t ht => ?_, GoodL.snoc hgd (by omega) hm7 (good_Tab Gr) u1⟩ (by simp only; omega) rfl (by simp <;> omega) (by simp [cStr]) (by simp [hal, cTab, cStr, cReln, cI, cS, dSl])
    · simp only [List.map_append, List.map_cons, List.map_nil]
      have : plTab (⟨lnNm x, r⟩ : Tab) = ⟨lnNm x, prsR s⟩ := by rw [← pr]; simp [plTab]
      rw [this]; exact hnx
    · rcases List.mem_append.1 ht with ht | ht
      · exact hok t ht
      · rw [List.mem_singleton.1 ht]
        exact ⟨by simp only [okStr, maxLen]; omega, kr⟩
  have hd := hI.done (by omega)
  simp only at hd
  rw [hd] at hdef
  simp only at hdef
  have hpT : hpLL (ys.map cTab) = false := hpLL_map (fun a => by simp) ys
  have hyl : ys.length ≤ 1000000001 := by omega
  have hVF := fun (g : Option Nat) => t_impl_VersionFiles ⟨⟨g, some (79, 3), ys⟩⟩ v ⟨by simp only [maxLen]; omega, hok⟩
  have hpl : ∀ g, plDb ⟨⟨g, some (79, 3), ys⟩⟩ = ⟨ys.map plTab⟩ := fun g => rfl
  simp only [hpl] at hVF
  have hvl := verFs_len ⟨ys.map plTab⟩ v
  have hvp : verFs ⟨ys.map plTab⟩ v ≠ [] ↔ verB ⟨ys.map plTab⟩ v = true := by
    constructor
    · intro h
      unfold verFs at h
      split at h
      · assumption
      · exact absurd rfl h
    · intro h; rw [verFs_eq h]; simp
  simp [hlt, ]
  refine call_own (by simp) (fun γ n hn hg => ⟨[.agg [.d (.sl (γ 900) (some (79, 3)) (ys.map cTab))], .d (.int .i64 v)], by simp [hal, hpT, List.take_of_length_le], by simpa [cDb, cS, dSl] using hVF (γ 900)⟩) (fun n r hp => by
    obtain ⟨y, rfl, _, _, G⟩ := hp
    exact ⟨fun i hi => G.lo i (by simp only [idsL, List.append_nil]; exact hi), by simp [V.hp]⟩) fun n8 hs8 r8 hn8 hm8 hp8 hr8 => ?_
  obtain ⟨⟨yid, yT, yf⟩, rfl, py, ky, Gy⟩ := hp8
  simp at hn8
  clear hr8 Gy
  obtain ⟨fs, hfs⟩ : ∃ fs, fs = verFs ⟨ys.map plTab⟩ v := ⟨_, rfl⟩
  rw [← hfs] at py hvl hvp hdef
  have hyf : yf.map plFile = fs := py
  have hfl : yf.length = fs.length := by rw [← hyf]; simp
  simp [dSl, ]
  have hgd2 := hgd.le (h' := hs8) (by omega)
  refine loop_rule (X := Nat) (fun j => AllTo (fileOk k) fs j) (fun j => [(2, .ptr 2 0 0), (4, .ptr 4 0 0), (9, .ptr 9 0 0), (18, .d (.sl yid yT (yf.map cFile))), (85, .d (.sl yid yT (yf.map cFile))), (86, .d (.int .i64 yf.length)), (87, .d (.int .i64 j))]) (fun j => [(2, some (.box [.d (.pl (k.map eFile))])), (4, some (.box [.d (.sl none none [])])), (9, some (.box [.own 900 0 ys.length])), (900, some (.row 79 3 (ys.map cTab)))]) (fun j => fs.length - j) 0 allTo_zero (by simp) (by simp [hal]) ?_
  intro j hs9 t9 m9 hJ hh9
  by_cases hjl : j < fs.length
  · have hwj := wr1 (i := j) (by omega)
    have hjy : j < yf.length := by omega
    have hfj : fs[j] = plFile yf[j] := by simp [← hyf]
    have hst := fun h => allTo_step hJ hjl h
    have hbd := fun h => all_bad (p := fileOk k) (l := fs) (i := j) hjl h
    rw [hfj] at hst hbd
    obtain ⟨⟨fn, fd⟩, hf⟩ : ∃ f, f = yf[j] := ⟨_, rfl⟩
    rw [← hf] at hst hbd
    have hfo : fileOk k (plFile ⟨fn, fd⟩) = (rdB k fn && decide (rdD k fn = fd)) := rfl
    rw [hfo] at hst hbd
    have hnone : fs.all (fileOk k) = false → loadI k v = none := fun h => by rw [hdef, h]; simp
    simp [hjl, hjy, hfl, ← hf, cFile, cStr, ]
    refine call_f (w_impl_ReadFile k fn) (by simp) rfl fun hs10 hh10 => ?_
    simp at hh10
    cases g1 : rdB k fn
    · have hn := hnone (hbd (by rw [g1]; rfl))
      simp []
      simpa using fail hn
    by_cases g2 : rdD k fn = fd
    · simp [g2, hwj, ]
      exact back (j + 1) (hst (by rw [g1, g2]; simp)) (by omega) rfl (by simp <;> omega) (by simp [hfl, cFile, cStr]) (by simp [hal])
    · have hn := hnone (hbd (by rw [g1]; simpa using g2))
      simp [g2, ]
      simpa using fail hn
  · have hall := allTo_done hJ (by omega)
    rw [hall, Bool.and_true] at hdef
    have hres : (loadI k v).isSome = decide (0 < fs.length) ∧ ∀ d, loadI k v = some d → (⟨ys.map plTab⟩ : PDb) = d := by
      rw [hdef]
      by_cases hb : verB ⟨ys.map plTab⟩ v = true
      · have := List.length_pos_iff.2 (hvp.2 hb)
        rw [if_pos hb]
        exact ⟨by simp [this], fun d h => by simpa using h⟩
      · rw [if_neg hb]
        have h0 : fs = [] := Classical.byContradiction fun h => hb (hvp.1 h)
        exact ⟨by simp [h0], fun d h => by simp at h⟩
    simp [hjl, hfl, ]
    intro γ hs' h1 hg
    obtain ⟨q1, q2⟩ := gam_at hg (k := 900) (T := 79) (sz := 3) (es := ys.map cTab) (by simp)
    have q3 := gam_row hg (k := 900) (T := 79) (sz := 3) (es := ys.map cTab) (by simp)
    clear hg
    simp [hal, hpT, List.take_of_length_le]
    exact ⟨⟨⟨γ 900, some (79, 3), ys⟩⟩, by simp [cDb, cS, dSl, hres.1, List.take_of_length_le], hres.2, ⟨by simp only [maxLen]; show ys.length ≤ _; omega, hok⟩, good_row (fun g hg => (q1 g hg).1) (by simpa using q2) q3 ⟨hgd2.nd, hgd2.lo⟩ hgd2.wh⟩
theorem e_impl_RecoverDatabase (k : List PFile) (hk : ∀ f ∈ k, f.data.length ≤ 1000000000) : VC Try.prog 49 [.agg ((eDisk ⟨k⟩).map V.d)]
   (fun n r => ∃ y : Db, r = .tup [.agg ((cDb y).map V.d), .d (.int .i64 (newV k)), .d (.bool (recB k))] ∧ plDb y = recP k ∧ okDb y ∧ Good (cDb y) (whDb y) n) := by
  refine VC.of E s49 (by kernel_rfl) Try.func49 (by rfl) (by kernel_rfl) (by simp [Try.f49]) (by simp [Try.f49]) s49_ok fun B => ?_
  simp [Try.f49, ]
  refine loop_rule (X := Nat) (fun v => NewI k v) (fun v => [(1, .ptr 1 0 0), (2, .ptr 2 0 0), (5, .d (.int .i64 v))]) (fun v => [(1, some (.box [.d (.pl (k.map eFile))])), (2, some (.box [.d (.sl none none [])]))]) (fun v => v) 99 .top (by simp) (by simp) ?_
  intro v hs t m hI hh
  have hle := hI.le
  cases v with
  | zero =>
    have h := hI.zero
    simp [h.1, h.2.2, ]
    exact ⟨⟨nilS⟩, by simp [cDb, cS, dSl, nilS], by rw [h.2.1]; simp [plDb, nilS, plS], ok_nilS, good_nilS B⟩
  | succ v =>
  have hvz : inZ ((v + 1 : Nat) : Int) := by simp only [inZ]; omega
  obtain ⟨u, hu⟩ : ∃ u : Nat, u = v + 1 := ⟨_, rfl⟩
  have hup : 0 < u := by omega
  have hwm : IntKind.i64.wrap ((u : Int) - 1) = v := by rw [wrap64_of (by omega) (by omega)]; omega
  have hdn := hI.down
  have hht := fun d => hI.hit (d := d)
  rw [← hu] at hvz hdn hht ⊢
  clear hI
  simp [hup, ]
  refine call_some (e_impl_readVersion k u hk hvz) (by simp) (by simp) fun n1 hs1 r1 hn1 hm1 hp1 hr1 => ?_
  obtain ⟨y, rfl, p1, k1, G1⟩ := hp1
  simp at hn1
  rw [load_eq] at p1
  rw [load_eq]
  cases hl : loadS k u with
  | none =>
    have hn := hdn hl
    simp [cDb, cS, dSl, hwm, ]
    exact back v hn (by omega) rfl (by simp <;> omega) (by simp) (by simp)
  | some d =>
    have hn := hht d hl
    simp [cDb, cS, dSl, ]
    exact ⟨y, by simp [cDb, cS, dSl, hn.1, hn.2.2], by rw [hn.2.1]; exact p1 d hl, k1, G1.le (by omega)⟩
theorem w_impl_NewestVersion (k : List PFile) (hk : ∀ f ∈ k, f.data.length ≤ 1000000000) : VC Try.prog 25 [.agg ((eDisk ⟨k⟩).map V.d)] (fun _ r => r = .d (.int .i64 (newV k))) := by
  refine VC.of E s25 (by kernel_rfl) Try.func25 (by rfl) (by kernel_rfl) (by simp [Try.f25]) (by simp [Try.f25]) s25_ok fun B => ?_
  simp [Try.f25, ]
  refine call_some (e_impl_RecoverDatabase k hk) (by simp) (by simp) fun n1 hs1 r1 hn1 hm1 hp1 hr1 => ?_
  obtain ⟨y, rfl, p1, k1, G1⟩ := hp1
  simp [cDb, cS, dSl, ]
end

end Go.Proofs.Yteoeondjpgpiaaa
