/-
  B3B1: a part of a proof of this seat: the value-level semantics of Go code without maps, its walk rules, the frame of a row, facts of types, schedules, walks, plain lemmas (Facts1 Sched1 H0 HP1 HP2 H1 HP3 P1 P1b P1c P1d Q1 V1 P2 N1 N2 S3 N3 M1 P5 P5b M2 M3 M4 M5 M6 M7 M8 M9 M10 M11 M12 E1 K1 K2 K3 K4 K5). It holds of every program and state that its hypotheses name.
-/
import Derived.Test.YtninbnbgaeailaaA4
import Derived.Test.YtninbnbgaeailaaProg
import Derived.KernelRfl
set_option linter.unusedSimpArgs false
set_option linter.unusedVariables false
set_option linter.unnecessarySimpa false
namespace Go.Proofs.Ytninbnbgaeailaa
open Go.Vs Go.Proofs

theorem tsz3 : tsz Try.prog 3 = some 1 := by kernel_rfl
theorem tsz5 : tsz Try.prog 5 = some 1 := by kernel_rfl
theorem tsz9 : tsz Try.prog 9 = some 1 := by kernel_rfl
theorem tsz22 : tsz Try.prog 22 = some 1 := by kernel_rfl
theorem tsz24 : tsz Try.prog 24 = some 1 := by kernel_rfl
theorem tsz26 : tsz Try.prog 26 = some 1 := by kernel_rfl
theorem tsz29 : tsz Try.prog 29 = some 1 := by kernel_rfl
theorem tsz31 : tsz Try.prog 31 = some 2 := by kernel_rfl
theorem tsz33 : tsz Try.prog 33 = some 5 := by kernel_rfl
theorem tsz66 : tsz Try.prog 66 = some 3 := by kernel_rfl
theorem tsz69 : tsz Try.prog 69 = some 1 := by kernel_rfl
theorem tagg3 : tagg Try.prog 3 = some false := by kernel_rfl
theorem tagg5 : tagg Try.prog 5 = some false := by kernel_rfl
theorem tagg9 : tagg Try.prog 9 = some false := by kernel_rfl
theorem tagg22 : tagg Try.prog 22 = some false := by kernel_rfl
theorem tagg24 : tagg Try.prog 24 = some false := by kernel_rfl
theorem tagg26 : tagg Try.prog 26 = some true := by kernel_rfl
theorem tagg29 : tagg Try.prog 29 = some false := by kernel_rfl
theorem tagg31 : tagg Try.prog 31 = some true := by kernel_rfl
theorem tagg33 : tagg Try.prog 33 = some true := by kernel_rfl
theorem tagg66 : tagg Try.prog 66 = some true := by kernel_rfl
theorem tagg69 : tagg Try.prog 69 = some false := by kernel_rfl
theorem tzero26 : tzero Try.prog 26 = some [.sl none none []] := by kernel_rfl
theorem tzero31 : tzero Try.prog 31 = some [.int .i64 0, .sl none none []] := by kernel_rfl
theorem tzero33 : tzero Try.prog 33 = some [.str [], .int .i64 0, .sl none none [], .int .i64 0, .sl none none []] := by kernel_rfl
theorem tzero66 : tzero Try.prog 66 = some [.str [], .int .i64 0, .sl none none []] := by kernel_rfl
theorem tzero74 : tzero Try.prog 74 = some [.sl none none [], .int .i64 0, .int .i64 0] := by kernel_rfl
theorem tslice22 : tslice Try.prog 22 = some (5, 1, 1) := by kernel_rfl
theorem telem22 : telem Try.prog 22 = some 5 := by kernel_rfl
theorem tslice24 : tslice Try.prog 24 = some (66, 3, 48) := by kernel_rfl
theorem telem24 : telem Try.prog 24 = some 66 := by kernel_rfl
theorem tslice29 : tslice Try.prog 29 = some (69, 1, 24) := by kernel_rfl
theorem telem29 : telem Try.prog 29 = some 69 := by kernel_rfl
theorem tslice44 : tslice Try.prog 44 = some (33, 5, 80) := by kernel_rfl
theorem telem44 : telem Try.prog 44 = some 33 := by kernel_rfl
theorem tslice60 : tslice Try.prog 60 = some (9, 1, 16) := by kernel_rfl
theorem telem60 : telem Try.prog 60 = some 9 := by kernel_rfl
theorem tslice69 : tslice Try.prog 69 = some (3, 1, 8) := by kernel_rfl
theorem telem69 : telem Try.prog 69 = some 3 := by kernel_rfl
theorem tstr9 : tstr Try.prog 9 = some true := by kernel_rfl
theorem tstr22 : tstr Try.prog 22 = some false := by kernel_rfl
theorem tstr24 : tstr Try.prog 24 = some false := by kernel_rfl
theorem tstr29 : tstr Try.prog 29 = some false := by kernel_rfl
theorem tstr44 : tstr Try.prog 44 = some false := by kernel_rfl
theorem tstr60 : tstr Try.prog 60 = some false := by kernel_rfl
theorem tstr69 : tstr Try.prog 69 = some false := by kernel_rfl
theorem tfld26 : tfld Try.prog 26 = true := by kernel_rfl
theorem tfld31 : tfld Try.prog 31 = true := by kernel_rfl
theorem tfld33 : tfld Try.prog 33 = true := by kernel_rfl
theorem tfld66 : tfld Try.prog 66 = true := by kernel_rfl
theorem tfld74 : tfld Try.prog 74 = true := by kernel_rfl
theorem foff26_0 : foff Try.prog 26 0 = some (0, 1) := by kernel_rfl
theorem foff31_0 : foff Try.prog 31 0 = some (0, 1) := by kernel_rfl
theorem foff31_1 : foff Try.prog 31 1 = some (1, 1) := by kernel_rfl
theorem foff33_0 : foff Try.prog 33 0 = some (0, 1) := by kernel_rfl
theorem foff33_1 : foff Try.prog 33 1 = some (1, 2) := by kernel_rfl
theorem foff33_2 : foff Try.prog 33 2 = some (3, 2) := by kernel_rfl
theorem foff66_0 : foff Try.prog 66 0 = some (0, 1) := by kernel_rfl
theorem foff66_1 : foff Try.prog 66 1 = some (1, 2) := by kernel_rfl
theorem foff74_0 : foff Try.prog 74 0 = some (0, 1) := by kernel_rfl
theorem foff74_1 : foff Try.prog 74 1 = some (1, 1) := by kernel_rfl
theorem foff74_2 : foff Try.prog 74 2 = some (2, 1) := by kernel_rfl
attribute [simp] tsz3 tsz5 tsz9 tsz22 tsz24 tsz26 tsz29 tsz31 tsz33 tsz66 tsz69 tagg3 tagg5 tagg9 tagg22 tagg24 tagg26 tagg29 tagg31 tagg33 tagg66 tagg69 tzero26 tzero31 tzero33 tzero66 tzero74 tslice22 telem22 tslice24 telem24 tslice29 telem29 tslice44 telem44 tslice60 telem60 tslice69 telem69 tstr9 tstr22 tstr24 tstr29 tstr44 tstr60 tstr69 tfld26 tfld31 tfld33 tfld66 tfld74 foff26_0 foff31_0 foff31_1 foff33_0 foff33_1 foff33_2 foff66_0 foff66_1 foff74_0 foff74_1 foff74_2
end Go.Proofs.Ytninbnbgaeailaa

namespace Go.Proofs.Ytninbnbgaeailaa
open Go.Vs Go.Proofs Go

/-- the functions that write what they are handed -/
def E : Md := ⟨fun f => [29, 30, 52, 53, 54, 55, 56, 65, 68, 69, 70, 72, 82].contains f, false⟩
/-- as E; slices are known by elements only -/
def EP : Md := ⟨E.e, true⟩
@[simp] theorem E_p : E.p = false := Eq.trans rfl rfl
@[simp] theorem EP_p : EP.p = true := Eq.trans rfl rfl

theorem E29 : E 29 = true := rfl
theorem EP29 : EP 29 = true := rfl
theorem E30 : E 30 = true := rfl
theorem EP30 : EP 30 = true := rfl
theorem E52 : E 52 = true := rfl
theorem EP52 : EP 52 = true := rfl
theorem E53 : E 53 = true := rfl
theorem EP53 : EP 53 = true := rfl
theorem E54 : E 54 = true := rfl
theorem EP54 : EP 54 = true := rfl
theorem E55 : E 55 = true := rfl
theorem EP55 : EP 55 = true := rfl
theorem E56 : E 56 = true := rfl
theorem EP56 : EP 56 = true := rfl
theorem E65 : E 65 = true := rfl
theorem EP65 : EP 65 = true := rfl
theorem E68 : E 68 = true := rfl
theorem EP68 : EP 68 = true := rfl
theorem E69 : E 69 = true := rfl
theorem EP69 : EP 69 = true := rfl
theorem E70 : E 70 = true := rfl
theorem EP70 : EP 70 = true := rfl
theorem E72 : E 72 = true := rfl
theorem EP72 : EP 72 = true := rfl
theorem E82 : E 82 = true := rfl
theorem EP82 : EP 82 = true := rfl
/-- the orders of laws.FnDatabaseDifference -/
def s3 (i : Nat) : Tr := if i = 14 then .seq [0, 1, 2, 3, 4, 6, 5, 7, 8, 9, 10, 11, 12, 13, 14] .nil else .nil
theorem s3_14 : s3 14 = .seq [0, 1, 2, 3, 4, 6, 5, 7, 8, 9, 10, 11, 12, 13, 14] .nil := rfl
theorem s3_ok : okCode E 90 s3 (Try.f3.body.getD .skip) = true := by kernel_rfl
/-- the orders of laws.FnBatches -/
def s4 (_ : Nat) : Tr := .nil
theorem s4_ok : okCode E 105 s4 (Try.f4.body.getD .skip) = true := by kernel_rfl
/-- the orders of laws.FnDeltas -/
def s5 (i : Nat) : Tr := if i = 7 then .seq [0, 1, 2, 3, 4, 5, 6, 7, 8, 9, 10, 11, 13, 14, 12, 15, 16, 17] .nil else if i = 13 then .seq [0, 1] (.both (.seq [2] (.both (.seq [3, 4, 5, 6, 7, 8, 9] .nil) (.seq [7, 3, 4, 5, 6, 8, 9] .nil))) (.seq [7, 2, 3, 4, 5, 6, 8, 9] .nil)) else .nil
theorem s5_7 : s5 7 = .seq [0, 1, 2, 3, 4, 5, 6, 7, 8, 9, 10, 11, 13, 14, 12, 15, 16, 17] .nil := rfl
theorem s5_13 : s5 13 = .seq [0, 1] (.both (.seq [2] (.both (.seq [3, 4, 5, 6, 7, 8, 9] .nil) (.seq [7, 3, 4, 5, 6, 8, 9] .nil))) (.seq [7, 2, 3, 4, 5, 6, 8, 9] .nil)) := rfl
theorem s5_ok : okCode E 118 s5 (Try.f5.body.getD .skip) = true := by kernel_rfl
/-- the orders of laws.big -/
def s6 (_ : Nat) : Tr := .nil
theorem s6_ok : okCode E 6 s6 (Try.f6.body.getD .skip) = true := by kernel_rfl
/-- the orders of spec.DrawDiffDatabases -/
def s7 (i : Nat) : Tr := if i = 4 then .seq [2, 3, 4, 5, 6] (.both (.seq [0] (.both (.seq [1, 7, 8, 9, 10, 11] .nil) (.seq [7] (.both (.seq [1, 8, 9, 10, 11] .nil) (.seq [8] (.both (.seq [1, 9, 10, 11] .nil) (.seq [9, 1, 10, 11] .nil))))))) (.both (.seq [1] (.both (.seq [0, 7, 8, 9, 10, 11] .nil) (.seq [7] (.both (.seq [0, 8, 9, 10, 11] .nil) (.seq [8, 0, 9, 10, 11] .nil))))) (.seq [7] (.both (.seq [0] (.both (.seq [1, 8, 9, 10, 11] .nil) (.seq [8] (.both (.seq [1, 9, 10, 11] .nil) (.seq [9, 1, 10, 11] .nil))))) (.both (.seq [1] (.both (.seq [0, 8, 9, 10, 11] .nil) (.seq [8, 0, 9, 10, 11] .nil))) (.seq [8, 0] (.both (.seq [1, 9, 10, 11] .nil) (.seq [9, 1, 10, 11] .nil)))))))) else .nil
theorem s7_4 : s7 4 = .seq [2, 3, 4, 5, 6] (.both (.seq [0] (.both (.seq [1, 7, 8, 9, 10, 11] .nil) (.seq [7] (.both (.seq [1, 8, 9, 10, 11] .nil) (.seq [8] (.both (.seq [1, 9, 10, 11] .nil) (.seq [9, 1, 10, 11] .nil))))))) (.both (.seq [1] (.both (.seq [0, 7, 8, 9, 10, 11] .nil) (.seq [7] (.both (.seq [0, 8, 9, 10, 11] .nil) (.seq [8, 0, 9, 10, 11] .nil))))) (.seq [7] (.both (.seq [0] (.both (.seq [1, 8, 9, 10, 11] .nil) (.seq [8] (.both (.seq [1, 9, 10, 11] .nil) (.seq [9, 1, 10, 11] .nil))))) (.both (.seq [1] (.both (.seq [0, 8, 9, 10, 11] .nil) (.seq [8, 0, 9, 10, 11] .nil))) (.seq [8, 0] (.both (.seq [1, 9, 10, 11] .nil) (.seq [9, 1, 10, 11] .nil)))))))) := rfl
theorem s7_ok : okCode E 32 s7 (Try.f7.body.getD .skip) = true := by kernel_rfl
/-- the orders of impl.DiffDatabases -/
def s8 (_ : Nat) : Tr := .nil
theorem s8_ok : okCode E 58 s8 (Try.f8.body.getD .skip) = true := by kernel_rfl
/-- the orders of spec.DiffDatabases -/
def s9 (_ : Nat) : Tr := .nil
theorem s9_ok : okCode E 58 s9 (Try.f9.body.getD .skip) = true := by kernel_rfl
/-- the orders of spec.EqualDeltas -/
def s10 (_ : Nat) : Tr := .nil
theorem s10_ok : okCode E 24 s10 (Try.f10.body.getD .skip) = true := by kernel_rfl
/-- the orders of impl.ApplyDelta -/
def s11 (_ : Nat) : Tr := .nil
theorem s11_ok : okCode E 56 s11 (Try.f11.body.getD .skip) = true := by kernel_rfl
/-- the orders of impl.LookupRelation -/
def s12 (_ : Nat) : Tr := .nil
theorem s12_ok : okCode E 26 s12 (Try.f12.body.getD .skip) = true := by kernel_rfl
/-- the orders of spec.LookupRelation -/
def s13 (_ : Nat) : Tr := .nil
theorem s13_ok : okCode E 34 s13 (Try.f13.body.getD .skip) = true := by kernel_rfl
/-- the orders of spec.EqualRelations -/
def s14 (i : Nat) : Tr := if i = 6 then .seq [0, 1, 2, 3, 4, 5, 6, 7, 8, 9, 10, 11] .nil else .nil
theorem s14_6 : s14 6 = .seq [0, 1, 2, 3, 4, 5, 6, 7, 8, 9, 10, 11] .nil := rfl
theorem s14_ok : okCode E 39 s14 (Try.f14.body.getD .skip) = true := by kernel_rfl
/-- the orders of impl.InvertDelta -/
def s15 (i : Nat) : Tr := if i = 1 then .seq [0, 1, 2, 3, 5, 6, 4, 7, 8, 9] .nil else .nil
theorem s15_1 : s15 1 = .seq [0, 1, 2, 3, 5, 6, 4, 7, 8, 9] .nil := rfl
theorem s15_ok : okCode E 12 s15 (Try.f15.body.getD .skip) = true := by kernel_rfl
/-- the orders of impl.IsValidDelta -/
def s16 (_ : Nat) : Tr := .nil
theorem s16_ok : okCode E 44 s16 (Try.f16.body.getD .skip) = true := by kernel_rfl
/-- the orders of spec.DrawApplyBatch -/
def s17 (_ : Nat) : Tr := .nil
theorem s17_ok : okCode E 8 s17 (Try.f17.body.getD .skip) = true := by kernel_rfl
/-- the orders of impl.ApplyBatch -/
def s18 (_ : Nat) : Tr := .nil
theorem s18_ok : okCode E 47 s18 (Try.f18.body.getD .skip) = true := by kernel_rfl
/-- the orders of spec.ApplyBatch -/
def s19 (i : Nat) : Tr := if i = 7 then .seq [0, 1, 2, 3, 4] (.both (.seq [5, 6, 7, 8, 9, 10, 11] .nil) (.seq [9, 5, 6, 7, 8, 10, 11] .nil)) else .nil
theorem s19_7 : s19 7 = .seq [0, 1, 2, 3, 4] (.both (.seq [5, 6, 7, 8, 9, 10, 11] .nil) (.seq [9, 5, 6, 7, 8, 10, 11] .nil)) := rfl
theorem s19_ok : okCode E 47 s19 (Try.f19.body.getD .skip) = true := by kernel_rfl
/-- the orders of impl.InvertBatch -/
def s20 (_ : Nat) : Tr := .nil
theorem s20_ok : okCode E 40 s20 (Try.f20.body.getD .skip) = true := by kernel_rfl
/-- the orders of spec.EqualDatabases -/
def s21 (i : Nat) : Tr := if i = 6 then .seq [0, 1, 2, 3, 4, 5, 6, 7, 8, 9, 10, 11, 12, 13, 14, 15, 16, 17, 18, 19, 20, 21, 22, 23, 24, 25, 26, 27, 28] .nil else .nil
theorem s21_6 : s21 6 = .seq [0, 1, 2, 3, 4, 5, 6, 7, 8, 9, 10, 11, 12, 13, 14, 15, 16, 17, 18, 19, 20, 21, 22, 23, 24, 25, 26, 27, 28] .nil := rfl
theorem s21_ok : okCode E 49 s21 (Try.f21.body.getD .skip) = true := by kernel_rfl
/-- the orders of impl.IsValidBatch -/
def s22 (_ : Nat) : Tr := .nil
theorem s22_ok : okCode E 16 s22 (Try.f22.body.getD .skip) = true := by kernel_rfl
/-- the orders of spec.DrawApplyDelta -/
def s23 (i : Nat) : Tr := if i = 2 then .seq [0] (.both (.seq [1, 2, 3] .nil) (.seq [2, 1, 3] .nil)) else .nil
theorem s23_2 : s23 2 = .seq [0] (.both (.seq [1, 2, 3] .nil) (.seq [2, 1, 3] .nil)) := rfl
theorem s23_ok : okCode E 14 s23 (Try.f23.body.getD .skip) = true := by kernel_rfl
/-- the orders of spec.ApplyDelta -/
def s24 (_ : Nat) : Tr := .nil
theorem s24_ok : okCode E 61 s24 (Try.f24.body.getD .skip) = true := by kernel_rfl
/-- the orders of impl.NormalizeDelta -/
def s25 (i : Nat) : Tr := if i = 9 then .seq [0, 1, 2, 3, 4, 5, 6, 7, 8, 9] .nil else if i = 15 then .seq [0, 1, 2, 3, 4, 5, 6, 7, 8, 9] .nil else .nil
theorem s25_9 : s25 9 = .seq [0, 1, 2, 3, 4, 5, 6, 7, 8, 9] .nil := rfl
theorem s25_15 : s25 15 = .seq [0, 1, 2, 3, 4, 5, 6, 7, 8, 9] .nil := rfl
theorem s25_ok : okCode E 82 s25 (Try.f25.body.getD .skip) = true := by kernel_rfl
/-- the orders of spec.IsValidDelta -/
def s26 (i : Nat) : Tr := if i = 7 then .seq [0, 1, 2, 3, 4, 5, 6, 7] .nil else if i = 12 then .seq [0, 1, 2, 3, 4, 5, 6, 7, 8] .nil else .nil
theorem s26_7 : s26 7 = .seq [0, 1, 2, 3, 4, 5, 6, 7] .nil := rfl
theorem s26_12 : s26 12 = .seq [0, 1, 2, 3, 4, 5, 6, 7, 8] .nil := rfl
theorem s26_ok : okCode E 53 s26 (Try.f26.body.getD .skip) = true := by kernel_rfl
/-- the orders of impl.EqualDeltas -/
def s27 (_ : Nat) : Tr := .nil
theorem s27_ok : okCode E 24 s27 (Try.f27.body.getD .skip) = true := by kernel_rfl
/-- the orders of spec.l1New -/
def s28 (_ : Nat) : Tr := .nil
theorem s28_ok : okCode E 32 s28 (Try.f28.body.getD .skip) = true := by kernel_rfl
/-- the orders of spec.l26Both -/
def s29 (i : Nat) : Tr := if i = 4 then .seq [1, 2] (.both (.seq [0, 3, 4, 5] .nil) (.seq [3, 0, 4, 5] .nil)) else .nil
theorem s29_4 : s29 4 = .seq [1, 2] (.both (.seq [0, 3, 4, 5] .nil) (.seq [3, 0, 4, 5] .nil)) := rfl
theorem s29_ok : okCode E 15 s29 (Try.f29.body.getD .skip) = true := by kernel_rfl
/-- the orders of spec.l1Pick -/
def s30 (_ : Nat) : Tr := .nil
theorem s30_ok : okCode E 12 s30 (Try.f30.body.getD .skip) = true := by kernel_rfl
/-- the orders of impl.Difference -/
def s31 (i : Nat) : Tr := if i = 8 then .seq [0, 1, 2, 3, 4, 5, 6, 7] .nil else .nil
theorem s31_8 : s31 8 = .seq [0, 1, 2, 3, 4, 5, 6, 7] .nil := rfl
theorem s31_ok : okCode E 48 s31 (Try.f31.body.getD .skip) = true := by kernel_rfl
/-- the orders of spec.Difference -/
def s32 (i : Nat) : Tr := if i = 7 then .seq [0, 1, 2, 3, 4, 5, 6, 7, 8, 9, 10, 11] .nil else if i = 9 then .seq [0, 1, 3, 4, 5, 6, 7, 2] (.app 8 [48] (.seq [9, 10, 11, 12] .nil)) else .nil
theorem s32_7 : s32 7 = .seq [0, 1, 2, 3, 4, 5, 6, 7, 8, 9, 10, 11] .nil := rfl
theorem s32_9 : s32 9 = .seq [0, 1, 3, 4, 5, 6, 7, 2] (.app 8 [48] (.seq [9, 10, 11, 12] .nil)) := rfl
theorem s32_ok : okCode E 61 s32 (Try.f32.body.getD .skip) = true := by kernel_rfl
/-- the orders of impl.copyDatabase -/
def s33 (i : Nat) : Tr := if i = 5 then .seq [0, 1, 2, 3, 4, 5, 6, 7, 8, 9, 10, 11] .nil else .nil
theorem s33_5 : s33 5 = .seq [0, 1, 2, 3, 4, 5, 6, 7, 8, 9, 10, 11] .nil := rfl
theorem s33_ok : okCode E 26 s33 (Try.f33.body.getD .skip) = true := by kernel_rfl
/-- the orders of impl.Union -/
def s34 (i : Nat) : Tr := if i = 3 then .seq [0, 1, 2, 3, 5, 6, 4] (.app 7 [22] (.seq [8, 9, 10, 11, 12] .nil)) else .nil
theorem s34_3 : s34 3 = .seq [0, 1, 2, 3, 5, 6, 4] (.app 7 [22] (.seq [8, 9, 10, 11, 12] .nil)) := rfl
theorem s34_ok : okCode E 33 s34 (Try.f34.body.getD .skip) = true := by kernel_rfl
/-- the orders of impl.SetRelation -/
def s35 (i : Nat) : Tr := if i = 10 then .seq [1, 2, 3, 4, 6, 9, 10, 11, 12] (.both (.seq [0] (.both (.app 5 [10, 68] (.seq [7] (.app 8 [68] (.seq [13, 14, 15] .nil)))) (.seq [7] (.app 5 [10, 68] (.app 8 [68] (.seq [13, 14, 15] .nil)))))) (.seq [7, 0] (.app 5 [10, 68] (.app 8 [68] (.seq [13, 14, 15] .nil))))) else .nil
theorem s35_10 : s35 10 = .seq [1, 2, 3, 4, 6, 9, 10, 11, 12] (.both (.seq [0] (.both (.app 5 [10, 68] (.seq [7] (.app 8 [68] (.seq [13, 14, 15] .nil)))) (.seq [7] (.app 5 [10, 68] (.app 8 [68] (.seq [13, 14, 15] .nil)))))) (.seq [7, 0] (.app 5 [10, 68] (.app 8 [68] (.seq [13, 14, 15] .nil))))) := rfl
theorem s35_ok : okCode E 80 s35 (Try.f35.body.getD .skip) = true := by kernel_rfl
/-- the orders of impl.IsValidDatabase -/
def s36 (i : Nat) : Tr := if i = 6 then .seq [0, 1, 2, 3, 4, 5, 6, 7, 8, 9, 10, 11, 12, 13, 14, 15, 16, 17, 18, 19, 20, 21, 22, 23, 24, 25, 26, 27, 28, 29, 30, 31, 32, 33, 34, 35, 36, 37, 38] .nil else .nil
theorem s36_6 : s36 6 = .seq [0, 1, 2, 3, 4, 5, 6, 7, 8, 9, 10, 11, 12, 13, 14, 15, 16, 17, 18, 19, 20, 21, 22, 23, 24, 25, 26, 27, 28, 29, 30, 31, 32, 33, 34, 35, 36, 37, 38] .nil := rfl
theorem s36_ok : okCode E 57 s36 (Try.f36.body.getD .skip) = true := by kernel_rfl
/-- the orders of impl.copyRelation -/
def s37 (i : Nat) : Tr := if i = 1 then .seq [0, 1, 2, 3, 4, 5, 6] .nil else .nil
theorem s37_1 : s37 1 = .seq [0, 1, 2, 3, 4, 5, 6] .nil := rfl
theorem s37_ok : okCode E 9 s37 (Try.f37.body.getD .skip) = true := by kernel_rfl
/-- the orders of spec.IsValidDatabase -/
def s38 (i : Nat) : Tr := if i = 5 then .seq [0, 1, 2, 3, 4, 5, 6, 7, 8, 9, 10, 11, 12, 13, 14, 15, 16, 17, 18, 19, 20, 21, 22, 23, 24, 25, 26, 27, 28, 29, 30, 31, 32, 33, 34, 35, 36, 37, 38] .nil else .nil
theorem s38_5 : s38 5 = .seq [0, 1, 2, 3, 4, 5, 6, 7, 8, 9, 10, 11, 12, 13, 14, 15, 16, 17, 18, 19, 20, 21, 22, 23, 24, 25, 26, 27, 28, 29, 30, 31, 32, 33, 34, 35, 36, 37, 38] .nil := rfl
theorem s38_ok : okCode E 60 s38 (Try.f38.body.getD .skip) = true := by kernel_rfl
/-- the orders of spec.l5Copy -/
def s39 (i : Nat) : Tr := if i = 5 then .seq [0, 1, 3, 4, 5, 6, 7, 2] (.app 8 [15] (.seq [9, 10, 11, 12] .nil)) else .nil
theorem s39_5 : s39 5 = .seq [0, 1, 3, 4, 5, 6, 7, 2] (.app 8 [15] (.seq [9, 10, 11, 12] .nil)) := rfl
theorem s39_ok : okCode E 28 s39 (Try.f39.body.getD .skip) = true := by kernel_rfl
/-- the orders of spec.CompareRows -/
def s40 (i : Nat) : Tr := if i = 4 then .seq [0, 1, 2, 3, 4, 5, 6, 7, 8] .nil else if i = 6 then .seq [0, 1, 2, 3, 4, 5, 6, 7, 8] .nil else .nil
theorem s40_4 : s40 4 = .seq [0, 1, 2, 3, 4, 5, 6, 7, 8] .nil := rfl
theorem s40_6 : s40 6 = .seq [0, 1, 2, 3, 4, 5, 6, 7, 8] .nil := rfl
theorem s40_ok : okCode E 46 s40 (Try.f40.body.getD .skip) = true := by kernel_rfl
/-- the orders of impl.applicable -/
def s41 (i : Nat) : Tr := if i = 3 then .seq [0, 1, 2, 3, 4, 5, 6, 7, 8, 9, 10, 11, 12, 14] (.both (.seq [13] (.both (.seq [15, 16, 17, 18, 19] .nil) (.seq [18, 15, 16, 17, 19] .nil))) (.both (.seq [15] (.both (.seq [13, 16, 17, 18, 19] .nil) (.seq [18, 13, 16, 17, 19] .nil))) (.seq [18, 13, 15, 16, 17, 19] .nil))) else .nil
theorem s41_3 : s41 3 = .seq [0, 1, 2, 3, 4, 5, 6, 7, 8, 9, 10, 11, 12, 14] (.both (.seq [13] (.both (.seq [15, 16, 17, 18, 19] .nil) (.seq [18, 15, 16, 17, 19] .nil))) (.both (.seq [15] (.both (.seq [13, 16, 17, 18, 19] .nil) (.seq [18, 13, 16, 17, 19] .nil))) (.seq [18, 13, 15, 16, 17, 19] .nil))) := rfl
theorem s41_ok : okCode E 44 s41 (Try.f41.body.getD .skip) = true := by kernel_rfl
/-- the orders of impl.ContainsRow -/
def s42 (_ : Nat) : Tr := .nil
theorem s42_ok : okCode E 19 s42 (Try.f42.body.getD .skip) = true := by kernel_rfl
/-- the orders of spec.DrawIsValidBatch -/
def s43 (i : Nat) : Tr := if i = 3 then .seq [1, 2] (.both (.seq [0, 3, 4, 5] .nil) (.seq [3, 0, 4, 5] .nil)) else .nil
theorem s43_3 : s43 3 = .seq [1, 2] (.both (.seq [0, 3, 4, 5] .nil) (.seq [3, 0, 4, 5] .nil)) := rfl
theorem s43_ok : okCode E 14 s43 (Try.f43.body.getD .skip) = true := by kernel_rfl
/-- the orders of spec.l6Copy -/
def s44 (i : Nat) : Tr := if i = 6 then .seq [0, 1, 2, 3, 4, 5, 6, 7, 8, 9, 10, 11, 12, 13] .nil else .nil
theorem s44_6 : s44 6 = .seq [0, 1, 2, 3, 4, 5, 6, 7, 8, 9, 10, 11, 12, 13] .nil := rfl
theorem s44_ok : okCode E 35 s44 (Try.f44.body.getD .skip) = true := by kernel_rfl
/-- the orders of spec.NormalizeDelta -/
def s45 (_ : Nat) : Tr := .nil
theorem s45_ok : okCode E 60 s45 (Try.f45.body.getD .skip) = true := by kernel_rfl
/-- the orders of spec.Union -/
def s46 (i : Nat) : Tr := if i = 3 then .seq [0, 1, 3, 4, 6, 7] (.both (.seq [2] (.both (.app 5 [25, 31] (.both (.app 8 [25] (.both (.seq [9, 10, 11, 12, 13, 14, 15] .nil) (.seq [13, 9, 10, 11, 12, 14, 15] .nil))) (.seq [13] (.app 8 [25] (.seq [9, 10, 11, 12, 14, 15] .nil))))) (.seq [13] (.app 5 [25, 31] (.app 8 [25] (.seq [9, 10, 11, 12, 14, 15] .nil)))))) (.seq [13, 2] (.app 5 [25, 31] (.app 8 [25] (.seq [9, 10, 11, 12, 14, 15] .nil))))) else .nil
theorem s46_3 : s46 3 = .seq [0, 1, 3, 4, 6, 7] (.both (.seq [2] (.both (.app 5 [25, 31] (.both (.app 8 [25] (.both (.seq [9, 10, 11, 12, 13, 14, 15] .nil) (.seq [13, 9, 10, 11, 12, 14, 15] .nil))) (.seq [13] (.app 8 [25] (.seq [9, 10, 11, 12, 14, 15] .nil))))) (.seq [13] (.app 5 [25, 31] (.app 8 [25] (.seq [9, 10, 11, 12, 14, 15] .nil)))))) (.seq [13, 2] (.app 5 [25, 31] (.app 8 [25] (.seq [9, 10, 11, 12, 14, 15] .nil))))) := rfl
theorem s46_ok : okCode E 39 s46 (Try.f46.body.getD .skip) = true := by kernel_rfl
/-- the orders of spec.SetRelation -/
def s47 (_ : Nat) : Tr := .nil
theorem s47_ok : okCode E 73 s47 (Try.f47.body.getD .skip) = true := by kernel_rfl
/-- the orders of impl.copyInts -/
def s48 (_ : Nat) : Tr := .nil
theorem s48_ok : okCode E 6 s48 (Try.f48.body.getD .skip) = true := by kernel_rfl
/-- the orders of spec.l26Fits -/
def s49 (_ : Nat) : Tr := .nil
theorem s49_ok : okCode E 41 s49 (Try.f49.body.getD .skip) = true := by kernel_rfl
/-- the orders of spec.ContainsRow -/
def s50 (_ : Nat) : Tr := .nil
theorem s50_ok : okCode E 17 s50 (Try.f50.body.getD .skip) = true := by kernel_rfl
/-- the orders of impl.EqualRelations -/
def s51 (_ : Nat) : Tr := .nil
theorem s51_ok : okCode E 17 s51 (Try.f51.body.getD .skip) = true := by kernel_rfl
/-- the orders of spec.l6Db -/
def s52 (i : Nat) : Tr := if i = 13 then .seq [0, 2] (.both (.seq [1, 3, 4, 5, 6, 7] .nil) (.seq [3, 1, 4, 5, 6, 7] .nil)) else .nil
theorem s52_13 : s52 13 = .seq [0, 2] (.both (.seq [1, 3, 4, 5, 6, 7] .nil) (.seq [3, 1, 4, 5, 6, 7] .nil)) := rfl
theorem s52_ok : okCode E 47 s52 (Try.f52.body.getD .skip) = true := by kernel_rfl
/-- the orders of spec.l1Once -/
def s53 (_ : Nat) : Tr := .nil
theorem s53_ok : okCode E 9 s53 (Try.f53.body.getD .skip) = true := by kernel_rfl
/-- the orders of spec.l6Any -/
def s54 (i : Nat) : Tr := if i = 5 then .seq [0, 2, 3] (.both (.seq [1, 4, 5, 6, 7, 8] .nil) (.seq [4] (.both (.seq [1, 5, 6, 7, 8] .nil) (.seq [5, 1, 6, 7, 8] .nil)))) else if i = 7 then .seq [0, 2, 3] (.both (.seq [1, 4, 5, 6, 7] .nil) (.seq [4, 1, 5, 6, 7] .nil)) else if i = 9 then .seq [0, 1, 2, 3, 4, 5, 6, 7, 8, 9, 10] .nil else .nil
theorem s54_5 : s54 5 = .seq [0, 2, 3] (.both (.seq [1, 4, 5, 6, 7, 8] .nil) (.seq [4] (.both (.seq [1, 5, 6, 7, 8] .nil) (.seq [5, 1, 6, 7, 8] .nil)))) := rfl
theorem s54_7 : s54 7 = .seq [0, 2, 3] (.both (.seq [1, 4, 5, 6, 7] .nil) (.seq [4, 1, 5, 6, 7] .nil)) := rfl
theorem s54_9 : s54 9 = .seq [0, 1, 2, 3, 4, 5, 6, 7, 8, 9, 10] .nil := rfl
theorem s54_ok : okCode E 50 s54 (Try.f54.body.getD .skip) = true := by kernel_rfl
/-- the orders of spec.l26Delta -/
def s55 (i : Nat) : Tr := if i = 3 then .seq [0, 2, 3, 4, 5] (.both (.seq [1] (.both (.seq [6, 7, 8, 9, 10] .nil) (.seq [9, 6, 7, 8, 10] .nil))) (.both (.seq [6, 1, 7, 8, 9, 10] .nil) (.seq [9] (.both (.seq [1, 6, 7, 8, 10] .nil) (.seq [6, 1, 7, 8, 10] .nil))))) else if i = 5 then .seq [0, 2, 3, 5, 6] (.both (.seq [1] (.both (.seq [4] (.both (.seq [7, 8, 9, 10] .nil) (.seq [9, 7, 8, 10] .nil))) (.seq [9, 4, 7, 8, 10] .nil))) (.both (.seq [4] (.both (.seq [1] (.both (.seq [7, 8, 9, 10] .nil) (.seq [9, 7, 8, 10] .nil))) (.both (.seq [7, 1, 8, 9, 10] .nil) (.seq [9] (.both (.seq [1, 7, 8, 10] .nil) (.seq [7, 1, 8, 10] .nil)))))) (.seq [9] (.both (.seq [1, 4, 7, 8, 10] .nil) (.seq [4] (.both (.seq [1, 7, 8, 10] .nil) (.seq [7, 1, 8, 10] .nil))))))) else if i = 10 then .seq [0, 1, 2, 3, 4, 5, 6, 7, 8, 9, 10, 11, 12, 13] .nil else .nil
theorem s55_3 : s55 3 = .seq [0, 2, 3, 4, 5] (.both (.seq [1] (.both (.seq [6, 7, 8, 9, 10] .nil) (.seq [9, 6, 7, 8, 10] .nil))) (.both (.seq [6, 1, 7, 8, 9, 10] .nil) (.seq [9] (.both (.seq [1, 6, 7, 8, 10] .nil) (.seq [6, 1, 7, 8, 10] .nil))))) := rfl
theorem s55_5 : s55 5 = .seq [0, 2, 3, 5, 6] (.both (.seq [1] (.both (.seq [4] (.both (.seq [7, 8, 9, 10] .nil) (.seq [9, 7, 8, 10] .nil))) (.seq [9, 4, 7, 8, 10] .nil))) (.both (.seq [4] (.both (.seq [1] (.both (.seq [7, 8, 9, 10] .nil) (.seq [9, 7, 8, 10] .nil))) (.both (.seq [7, 1, 8, 9, 10] .nil) (.seq [9] (.both (.seq [1, 7, 8, 10] .nil) (.seq [7, 1, 8, 10] .nil)))))) (.seq [9] (.both (.seq [1, 4, 7, 8, 10] .nil) (.seq [4] (.both (.seq [1, 7, 8, 10] .nil) (.seq [7, 1, 8, 10] .nil))))))) := rfl
theorem s55_10 : s55 10 = .seq [0, 1, 2, 3, 4, 5, 6, 7, 8, 9, 10, 11, 12, 13] .nil := rfl
theorem s55_ok : okCode E 85 s55 (Try.f55.body.getD .skip) = true := by kernel_rfl
/-- the orders of spec.l1Below -/
def s56 (_ : Nat) : Tr := .nil
theorem s56_ok : okCode E 37 s56 (Try.f56.body.getD .skip) = true := by kernel_rfl
/-- the orders of impl.IsValidRelation -/
def s57 (_ : Nat) : Tr := .nil
theorem s57_ok : okCode E 8 s57 (Try.f57.body.getD .skip) = true := by kernel_rfl
/-- the orders of spec.IsValidRelation -/
def s58 (i : Nat) : Tr := if i = 6 then .seq [0, 1, 2, 3, 4, 5, 6, 7, 8, 9, 10, 11, 12, 13, 14, 15, 16, 17, 18, 19, 20, 21, 22, 23, 24, 25, 26, 27, 28, 29, 30, 31, 32, 33, 34, 35, 36] .nil else .nil
theorem s58_6 : s58 6 = .seq [0, 1, 2, 3, 4, 5, 6, 7, 8, 9, 10, 11, 12, 13, 14, 15, 16, 17, 18, 19, 20, 21, 22, 23, 24, 25, 26, 27, 28, 29, 30, 31, 32, 33, 34, 35, 36] .nil := rfl
theorem s58_ok : okCode E 58 s58 (Try.f58.body.getD .skip) = true := by kernel_rfl
/-- the orders of spec.l5Place -/
def s59 (_ : Nat) : Tr := .nil
theorem s59_ok : okCode E 46 s59 (Try.f59.body.getD .skip) = true := by kernel_rfl
/-- the orders of impl.NewRelation -/
def s60 (_ : Nat) : Tr := .nil
theorem s60_ok : okCode E 35 s60 (Try.f60.body.getD .skip) = true := by kernel_rfl
/-- the orders of impl.copyRows -/
def s61 (_ : Nat) : Tr := .nil
theorem s61_ok : okCode E 19 s61 (Try.f61.body.getD .skip) = true := by kernel_rfl
/-- the orders of impl.IsValidName -/
def s62 (_ : Nat) : Tr := .nil
theorem s62_ok : okCode E 5 s62 (Try.f62.body.getD .skip) = true := by kernel_rfl
/-- the orders of spec.IsValidName -/
def s63 (_ : Nat) : Tr := .nil
theorem s63_ok : okCode E 23 s63 (Try.f63.body.getD .skip) = true := by kernel_rfl
/-- the orders of impl.place -/
def s64 (_ : Nat) : Tr := .nil
theorem s64_ok : okCode E 42 s64 (Try.f64.body.getD .skip) = true := by kernel_rfl
/-- the orders of spec.l29Batch -/
def s65 (_ : Nat) : Tr := .nil
theorem s65_ok : okCode E 40 s65 (Try.f65.body.getD .skip) = true := by kernel_rfl
/-- the orders of spec.NewRelation -/
def s66 (_ : Nat) : Tr := .nil
theorem s66_ok : okCode E 40 s66 (Try.f66.body.getD .skip) = true := by kernel_rfl
/-- the orders of impl.sameRows -/
def s67 (i : Nat) : Tr := if i = 6 then .seq [0, 1, 2, 3, 4, 5, 6, 7, 8, 9] .nil else .nil
theorem s67_6 : s67 6 = .seq [0, 1, 2, 3, 4, 5, 6, 7, 8, 9] .nil := rfl
theorem s67_ok : okCode E 27 s67 (Try.f67.body.getD .skip) = true := by kernel_rfl
/-- the orders of spec.l1PickInt -/
def s68 (_ : Nat) : Tr := .nil
theorem s68_ok : okCode E 12 s68 (Try.f68.body.getD .skip) = true := by kernel_rfl
/-- the orders of spec.l5Rel -/
def s69 (_ : Nat) : Tr := .nil
theorem s69_ok : okCode E 36 s69 (Try.f69.body.getD .skip) = true := by kernel_rfl
/-- the orders of spec.l5Any -/
def s70 (i : Nat) : Tr := if i = 6 then .seq [0, 2, 3, 4, 5] (.both (.seq [1, 6, 7, 8, 9, 10] .nil) (.seq [6, 1, 7, 8, 9, 10] .nil)) else if i = 9 then .seq [0, 4] (.both (.seq [1, 2] (.both (.seq [3, 5, 6, 7, 8] .nil) (.seq [5] (.both (.seq [3, 6, 7, 8] .nil) (.seq [6, 3, 7, 8] .nil))))) (.seq [5] (.both (.seq [1, 2] (.both (.seq [3, 6, 7, 8] .nil) (.seq [6, 3, 7, 8] .nil))) (.seq [6, 1, 2, 3, 7, 8] .nil)))) else .nil
theorem s70_6 : s70 6 = .seq [0, 2, 3, 4, 5] (.both (.seq [1, 6, 7, 8, 9, 10] .nil) (.seq [6, 1, 7, 8, 9, 10] .nil)) := rfl
theorem s70_9 : s70 9 = .seq [0, 4] (.both (.seq [1, 2] (.both (.seq [3, 5, 6, 7, 8] .nil) (.seq [5] (.both (.seq [3, 6, 7, 8] .nil) (.seq [6, 3, 7, 8] .nil))))) (.seq [5] (.both (.seq [1, 2] (.both (.seq [3, 6, 7, 8] .nil) (.seq [6, 3, 7, 8] .nil))) (.seq [6, 1, 2, 3, 7, 8] .nil)))) := rfl
theorem s70_ok : okCode E 51 s70 (Try.f70.body.getD .skip) = true := by kernel_rfl
/-- the orders of spec.InsertRow -/
def s71 (i : Nat) : Tr := if i = 7 then .seq [1, 4, 5, 6, 7, 0] (.app 2 [46] (.seq [3, 8, 9] .nil)) else .nil
theorem s71_7 : s71 7 = .seq [1, 4, 5, 6, 7, 0] (.app 2 [46] (.seq [3, 8, 9] .nil)) := rfl
theorem s71_ok : okCode E 61 s71 (Try.f71.body.getD .skip) = true := by kernel_rfl
/-- the orders of spec.l1Byte -/
def s72 (i : Nat) : Tr := if i = 2 then .seq [0, 1, 2, 3, 4, 5, 6, 7, 8, 9, 10, 11, 12] .nil else if i = 3 then .seq [0, 1, 2, 3, 4, 5, 6, 7, 8, 9] .nil else if i = 4 then .seq [0, 1, 2, 3, 4, 5, 6, 7, 8, 9, 10, 11, 12, 13, 14] .nil else .nil
theorem s72_2 : s72 2 = .seq [0, 1, 2, 3, 4, 5, 6, 7, 8, 9, 10, 11, 12] .nil := rfl
theorem s72_3 : s72 3 = .seq [0, 1, 2, 3, 4, 5, 6, 7, 8, 9] .nil := rfl
theorem s72_4 : s72 4 = .seq [0, 1, 2, 3, 4, 5, 6, 7, 8, 9, 10, 11, 12, 13, 14] .nil := rfl
theorem s72_ok : okCode E 58 s72 (Try.f72.body.getD .skip) = true := by kernel_rfl
/-- the orders of impl.rowsValid -/
def s73 (_ : Nat) : Tr := .nil
theorem s73_ok : okCode E 46 s73 (Try.f73.body.getD .skip) = true := by kernel_rfl
/-- the orders of spec.l1In -/
def s74 (_ : Nat) : Tr := .nil
theorem s74_ok : okCode E 15 s74 (Try.f74.body.getD .skip) = true := by kernel_rfl
/-- the orders of spec.AreValidValues -/
def s75 (_ : Nat) : Tr := .nil
theorem s75_ok : okCode E 16 s75 (Try.f75.body.getD .skip) = true := by kernel_rfl
/-- the orders of impl.AreValidValues -/
def s76 (_ : Nat) : Tr := .nil
theorem s76_ok : okCode E 15 s76 (Try.f76.body.getD .skip) = true := by kernel_rfl
/-- the orders of impl.sorted -/
def s77 (i : Nat) : Tr := if i = 4 then .seq [0, 1, 2, 4, 5, 6, 3, 7, 8, 9] .nil else if i = 11 then .seq [0, 1, 2, 3, 4, 5, 6, 7] .nil else .nil
theorem s77_4 : s77 4 = .seq [0, 1, 2, 4, 5, 6, 3, 7, 8, 9] .nil := rfl
theorem s77_11 : s77 11 = .seq [0, 1, 2, 3, 4, 5, 6, 7] .nil := rfl
theorem s77_ok : okCode E 68 s77 (Try.f77.body.getD .skip) = true := by kernel_rfl
/-- the orders of impl.isLetters -/
def s78 (_ : Nat) : Tr := .nil
theorem s78_ok : okCode E 31 s78 (Try.f78.body.getD .skip) = true := by kernel_rfl
/-- the orders of impl.CompareRows -/
def s79 (i : Nat) : Tr := if i = 4 then .seq [0, 1, 2, 3, 4, 5, 6, 7, 8] .nil else if i = 5 then .seq [0, 1, 2, 3, 4, 5, 6, 7, 8, 9] .nil else .nil
theorem s79_4 : s79 4 = .seq [0, 1, 2, 3, 4, 5, 6, 7, 8] .nil := rfl
theorem s79_5 : s79 5 = .seq [0, 1, 2, 3, 4, 5, 6, 7, 8, 9] .nil := rfl
theorem s79_ok : okCode E 41 s79 (Try.f79.body.getD .skip) = true := by kernel_rfl
/-- the orders of spec.l5Sort -/
def s80 (i : Nat) : Tr := if i = 13 then .seq [0, 1, 2, 3, 4, 5, 6, 7] .nil else .nil
theorem s80_13 : s80 13 = .seq [0, 1, 2, 3, 4, 5, 6, 7] .nil := rfl
theorem s80_ok : okCode E 80 s80 (Try.f80.body.getD .skip) = true := by kernel_rfl
/-- the orders of impl.sameInts -/
def s81 (i : Nat) : Tr := if i = 6 then .seq [0, 1, 2, 3, 4, 5, 6, 7, 8] .nil else .nil
theorem s81_6 : s81 6 = .seq [0, 1, 2, 3, 4, 5, 6, 7, 8] .nil := rfl
theorem s81_ok : okCode E 26 s81 (Try.f81.body.getD .skip) = true := by kernel_rfl
/-- the orders of spec.l4Row -/
def s82 (_ : Nat) : Tr := .nil
theorem s82_ok : okCode E 20 s82 (Try.f82.body.getD .skip) = true := by kernel_rfl
/-- the orders of impl.within -/
def s83 (_ : Nat) : Tr := .nil
theorem s83_ok : okCode E 15 s83 (Try.f83.body.getD .skip) = true := by kernel_rfl
/-- the orders of impl.compareInts -/
def s84 (_ : Nat) : Tr := .nil
theorem s84_ok : okCode E 13 s84 (Try.f84.body.getD .skip) = true := by kernel_rfl
end Go.Proofs.Ytninbnbgaeailaa

namespace Go.Proofs.Ytninbnbgaeailaa
open Go.Vs Go.Proofs Go
set_option maxRecDepth 100000
set_option maxHeartbeats 1000000


end Go.Proofs.Ytninbnbgaeailaa

namespace Go.Proofs.Ytninbnbgaeailaa
open Go.Vs Go.Proofs Go
set_option maxRecDepth 100000
set_option maxHeartbeats 1000000


end Go.Proofs.Ytninbnbgaeailaa

namespace Go.Proofs.Ytninbnbgaeailaa
open Go.Vs Go.Proofs Go
set_option maxRecDepth 100000
set_option maxHeartbeats 1000000


end Go.Proofs.Ytninbnbgaeailaa

namespace Go.Proofs.Ytninbnbgaeailaa
open Go.Vs Go.Proofs Go
set_option maxRecDepth 100000
set_option maxHeartbeats 1000000



end Go.Proofs.Ytninbnbgaeailaa

namespace Go.Proofs.Ytninbnbgaeailaa
open Go.Vs Go.Proofs Go
set_option maxRecDepth 100000
set_option maxHeartbeats 1000000


end Go.Proofs.Ytninbnbgaeailaa

namespace Go.Proofs.Ytninbnbgaeailaa
open Go.Vs Go.Proofs Go
set_option maxRecDepth 100000
set_option maxHeartbeats 1000000

attribute [simp] plI_id plStr_id map_plI map_plStr pS cP cI cStr cU8 cB
theorem w_impl_within (n lo hi : Int) : VC Try.prog 83 [.d (.int .i64 n), .d (.int .i64 lo), .d (.int .i64 hi)] (fun _ r => r = .d (.bool (inR n lo hi))) := by
  refine VC.ofL EP s83 (by kernel_rfl) Try.func83 (by rfl) (by kernel_rfl) (by simp [Try.f83]) (by simp [Try.f83]) s83_ok fun B hl => ?_
  by_cases h : lo ≤ n
  · simp [Try.f83, inR, h]
  · simp [Try.f83, inR, h]
theorem w_spec_l1In (n lo hi : Int) : VC Try.prog 74 [.d (.int .i64 n), .d (.int .i64 lo), .d (.int .i64 hi)] (fun _ r => r = .d (.bool (inR n lo hi))) := by
  refine VC.ofL EP s74 (by kernel_rfl) Try.func74 (by rfl) (by kernel_rfl) (by simp [Try.f74]) (by simp [Try.f74]) s74_ok fun B hl => ?_
  by_cases h : lo ≤ n
  · simp [Try.f74, inR, h]
  · simp [Try.f74, inR, h]
theorem w_impl_AreValidValues (xs : List Int) : VC Try.prog 76 [.d (pS cI xs)] (fun _ r => r = .d (.bool (valsOk xs))) := by
  refine VC.ofL EP s76 (by kernel_rfl) Try.func76 (by rfl) (by kernel_rfl) (by simp [Try.f76]) (by simp [Try.f76]) s76_ok fun B hl => ?_
  simp [pS, maxLen] at hl
  simp [Try.f76, pS]
  refine loop_rule (X := Nat) (fun i => i ≤ xs.length ∧ (xs.take i).all (fun v => inR v 0 99) = true) (fun i => [(5, .d (.pl (xs.map cI))), (6, .d (.int .i64 xs.length)), (7, .d (.int .i64 i))]) (fun _ => []) (fun i => xs.length - i) 0 (by simp) (by simp) (by simp) ?_
  intro i hs t m hi hh
  by_cases hlt : i < xs.length
  · have hwi := wr1 (i := i) (by omega)
    have hst := all_step (p := fun v => inR v 0 99) hlt
    rw [hi.2, Bool.true_and] at hst
    have hbad : inR xs[i] 0 99 = false → valsOk xs = false := all_bad (p := fun v => inR v 0 99) hlt
    simp [hlt, cI]
    refine call_f (w_impl_within xs[i] 0 99) (by simp) rfl fun hs1 hh1 => ?_
    cases hc : inR xs[i] 0 99
    · simp [hbad hc]
    · simp [hwi]
      simp at hh1
      exact back (i + 1) ⟨by omega, List.all_eq_true.1 (hst.trans hc)⟩ (by omega) rfl (by simp <;> omega) (by simp) (by simp)
  · have hd : valsOk xs = true := all_done (by omega) hi.2
    simp [hlt, hd]

end Go.Proofs.Ytninbnbgaeailaa

namespace Go.Proofs.Ytninbnbgaeailaa
open Go.Vs Go.Proofs Go
set_option maxRecDepth 100000
set_option maxHeartbeats 1000000

theorem w_spec_AreValidValues (xs : List Int) : VC Try.prog 75 [.d (pS cI xs)] (fun _ r => r = .d (.bool (valsOk xs))) := by
  refine VC.ofL EP s75 (by kernel_rfl) Try.func75 (by rfl) (by kernel_rfl) (by simp [Try.f75]) (by simp [Try.f75]) s75_ok fun B hl => ?_
  simp [pS, maxLen] at hl
  simp [Try.f75, pS]
  refine loop_rule (X := Nat) (fun i => i ≤ xs.length ∧ (xs.take i).all (fun v => inR v 0 99) = true) (fun i => [(0, .d (.pl (xs.map cI))), (3, .d (.int .i64 i))]) (fun _ => []) (fun i => xs.length - i) 0 (by simp) (by simp) (by simp) ?_
  intro i hs t m hi hh
  by_cases hlt : i < xs.length
  · have hwi := wr1 (i := i) (by omega)
    have hst := all_step (p := fun v => inR v 0 99) hlt
    rw [hi.2, Bool.true_and] at hst
    have hbad : inR xs[i] 0 99 = false → valsOk xs = false := all_bad (p := fun v => inR v 0 99) hlt
    simp [hlt, cI]
    refine call_f (w_spec_l1In xs[i] 0 99) (by simp) rfl fun hs1 hh1 => ?_
    simp at hh1
    cases hc : inR xs[i] 0 99
    · simp [hbad hc]
    · simp [hwi]
      exact back (i + 1) ⟨by omega, List.all_eq_true.1 (hst.trans hc)⟩ (by omega) rfl (by simp <;> omega) (by simp) (by simp)
  · have hd : valsOk xs = true := all_done (by omega) hi.2
    simp [hlt, hd]
theorem w_spec_CompareRows (a b : List Int) : VC Try.prog 40 [.d (pS cI a), .d (pS cI b)] (fun _ r => r = .d (.int .i64 (cmpL a b))) := by
  refine VC.ofL EP s40 (by kernel_rfl) Try.func40 (by rfl) (by kernel_rfl) (by simp [Try.f40]) (by simp [Try.f40]) s40_ok fun B hl => ?_
  simp [pS, maxLen, cI] at hl
  simp [Try.f40, s40_4, s40_6, pS]
  refine loop_rule (X := Nat) (fun i => i ≤ a.length ∧ i ≤ b.length ∧ cmpL a b = cmpL (a.drop i) (b.drop i)) (fun i => [(0, .d (.pl (a.map cI))), (1, .d (.pl (b.map cI))), (5, .d (.int .i64 i))]) (fun _ => []) (fun i => a.length - i) 0 (by simp) (by simp) (by simp) ?_
  intro i hs t m hi hh
  by_cases hlt : i < a.length
  · by_cases hlb : i < b.length
    · have hwi := wr1 (i := i) (by omega)
      have hc := cmpL_drop hlt hlb
      rw [← hi.2.2] at hc
      by_cases h1 : a[i] < b[i]
      · simp [cI, s40_4, s40_6, hlt, hlb, h1, hc]
      · by_cases h2 : b[i] < a[i]
        · simp [cI, s40_4, s40_6, hlt, hlb, h1, h2, hc]
        · simp only [h1, h2, if_false] at hc
          simp [cI, s40_4, s40_6, hlt, hlb, h1, h2, hwi]
          exact back (i + 1) ⟨by omega, by omega, hc⟩ (by omega) rfl (by simp) (by simp) (by simp)
    · have he := cmpL_end hi.1 hi.2.1 (by omega)
      rw [← hi.2.2] at he
      by_cases h1 : a.length < b.length
      · simp [hlt, hlb, h1, he]
      · by_cases h2 : b.length < a.length <;> simp [hlt, hlb, h1, h2, he]
  · have he := cmpL_end hi.1 hi.2.1 (by omega)
    rw [← hi.2.2] at he
    by_cases h1 : a.length < b.length
    · simp [hlt, h1, he]
    · by_cases h2 : b.length < a.length <;> simp [hlt, h1, h2, he]
theorem w_impl_compareInts (x y : Int) : VC Try.prog 84 [.d (.int .i64 x), .d (.int .i64 y)] (fun _ r => r = .d (.int .i64 (if x < y then -1 else if y < x then 1 else 0))) := by
  refine VC.ofL EP s84 (by kernel_rfl) Try.func84 (by rfl) (by kernel_rfl) (by simp [Try.f84]) (by simp [Try.f84]) s84_ok fun B hl => ?_
  by_cases h1 : x < y
  · simp [Try.f84, h1]
  · by_cases h2 : y < x <;> simp [Try.f84, h1, h2]
theorem w_impl_CompareRows (a b : List Int) : VC Try.prog 79 [.d (pS cI a), .d (pS cI b)] (fun _ r => r = .d (.int .i64 (cmpL a b))) := by
  refine VC.ofL EP s79 (by kernel_rfl) Try.func79 (by rfl) (by kernel_rfl) (by simp [Try.f79]) (by simp [Try.f79]) s79_ok fun B hl => ?_
  simp [pS, maxLen, cI] at hl
  simp [Try.f79, s79_4, s79_5, pS]
  refine loop_rule (X := Nat) (fun i => i ≤ a.length ∧ i ≤ b.length ∧ cmpL a b = cmpL (a.drop i) (b.drop i)) (fun i => [(0, .d (.pl (a.map cI))), (1, .d (.pl (b.map cI))), (5, .d (.int .i64 i))]) (fun _ => []) (fun i => a.length - i) 0 (by simp) (by simp) (by simp) ?_
  intro i hs t m hi hh
  by_cases hlt : i < a.length ∧ i < b.length
  · obtain ⟨hlt, hlb⟩ := hlt
    have hwi := wr1 (i := i) (by omega)
    have hc := cmpL_drop hlt hlb
    rw [← hi.2.2] at hc
    by_cases he : a[i] = b[i]
    · rw [if_neg (by omega), if_neg (by omega)] at hc
      simp [cI, s79_4, s79_5, hlt, hlb, hwi, he]
      exact back (i + 1) ⟨by omega, by omega, hc⟩ (by omega) rfl (by simp) (by simp) (by simp)
    · simp [cI, s79_4, s79_5, hlt, hlb, hwi, he]
      refine call_f (w_impl_compareInts a[i] b[i]) (by simp) rfl fun hs1 hh1 => ?_
      have : (if a[i] < b[i] then (-1 : Int) else if b[i] < a[i] then 1 else 0) = cmpL a b := by rw [hc]; by_cases h1 : a[i] < b[i] <;> simp [h1]; omega
      simp [this]
  · have he := cmpL_end hi.1 hi.2.1 hlt
    rw [← hi.2.2] at he
    have hcm : (if (a.length : Int) < b.length then (-1 : Int) else if (b.length : Int) < a.length then 1 else 0) = cmpL a b := by rw [he]; simp
    by_cases hl1 : i < a.length
    · have hl2 : ¬ i < b.length := fun h => hlt ⟨hl1, h⟩
      simp [hl1, hl2]
      refine call_f (w_impl_compareInts a.length b.length) (by simp) rfl fun hs1 hh1 => ?_
      simp only [hcm]
      simp
    · simp [hl1]
      refine call_f (w_impl_compareInts a.length b.length) (by simp) rfl fun hs1 hh1 => ?_
      simp only [hcm]
      simp

end Go.Proofs.Ytninbnbgaeailaa

namespace Go.Proofs.Ytninbnbgaeailaa
open Go.Vs Go.Proofs Go
set_option maxRecDepth 100000
set_option maxHeartbeats 1000000

theorem w_impl_rowsValid (ar : Int) (l : List (List Int)) : VC Try.prog 73 [.d (.int .i64 ar), .d (pS (cP cI) l)] (fun _ r => r = .d (.bool (rowsOk ar l))) := by
  refine VC.ofL EP s73 (by kernel_rfl) Try.func73 (by rfl) (by kernel_rfl) (by simp [Try.f73]) (by simp [Try.f73]) s73_ok fun B hl => ?_
  simp [pS, cP, cI, maxLen] at hl
  simp [Try.f73, pS]
  refine call_f (w_impl_within ar 0 5) (by simp) rfl fun hs0 hh0 => ?_
  simp at hh0
  cases h1 : inR ar 0 5
  · simp [rowsOk, h1]
  by_cases h2 : (4000 : Int) < l.length
  · simp [rowsOk, h2, show ¬ l.length ≤ 4000 by omega]
  have h2' : l.length ≤ 4000 := by omega
  simp [h2]
  refine loop_rule (X := Nat) (fun i => i ≤ l.length ∧ ∀ j, j < i → rowOk ar l j = true) (fun i => [(0, .d (.int .i64 ar)), (1, .d (.pl (l.map (cP cI)))), (15, .d (.pl (l.map (cP cI)))), (16, .d (.int .i64 l.length)), (17, .d (.int .i64 i))]) (fun _ => []) (fun i => l.length - i) 0 (by simp) (by simp) (by simp) ?_
  intro i hs t m hi hh
  by_cases hlt : i < l.length
  · have hwi := wr1 (i := i) (by omega)
    have hr : rowOk ar l i = (decide ((l[i].length : Int) = ar) && valsOk l[i] && (i == 0 || decide (cmpL (l.getD (i - 1) []) l[i] < 0))) := by simp [rowOk, hlt]
    have hbad := fun h => rows_bad (ar := ar) hlt h
    have step : rowOk ar l i = true → ∀ j, j < i + 1 → rowOk ar l j = true := fun h j hj => by
      rcases Nat.lt_succ_iff_lt_or_eq.1 hj with h' | h'
      · exact hi.2 j h'
      · rw [h']; exact h
    by_cases c1 : (l[i].length : Int) = ar
    case neg => simp [hlt, cP, pS, c1, hbad (by rw [hr]; simp [c1])]
    simp [hlt, cP, pS, c1]
    refine call_f (w_impl_AreValidValues l[i]) (by simp [pS]) rfl fun hs1 hh1 => ?_
    simp at hh1
    cases c2 : valsOk l[i]
    · simp [hbad (by rw [hr]; simp [c2])]
    by_cases c3 : i = 0
    · subst c3
      simp [hwi, show IntKind.i64.wrap 1 = 1 by decide]
      exact back 1 ⟨by omega, step (by rw [hr]; simp [c1, c2])⟩ (by omega) rfl (by simp <;> omega) (by simp [cP, pS, show IntKind.i64.wrap 1 = 1 by decide]) (by simp)
    · have hw1 : IntKind.i64.wrap ((i : Int) - 1) = ((i - 1 : Nat) : Int) := by rw [wrap64_of (by omega) (by omega)]; omega
      have hip : (0 : Int) < i := by omega
      have hlt1 : i - 1 < l.length := by omega
      have hg1 : l.getD (i - 1) [] = l[i - 1] := by simp [hlt1]
      rw [hg1] at hr
      simp [hip, hw1, hlt1, cP, pS, c3, show 0 < i by omega]
      refine call_f (w_impl_CompareRows l[i - 1] l[i]) (by simp [pS]) rfl fun hs2 hh2 => ?_
      simp at hh2
      by_cases c4 : cmpL l[i - 1] l[i] < 0
      · simp [hwi, show ¬ 0 ≤ cmpL l[i - 1] l[i] by omega]
        exact back (i + 1) ⟨by omega, step (by rw [hr]; simp [c1, c2, c4])⟩ (by omega) rfl (by simp <;> omega) (by simp [cP, pS]) (by simp)
      · simp [show 0 ≤ cmpL l[i - 1] l[i] by omega, hbad (by rw [hr]; simp [c3, c4])]
  · have hn : i = l.length := by omega
    have hd := rows_done h1 h2' (hn ▸ hi.2)
    simp [hlt, hd]
theorem w_impl_IsValidRelation (r : PReln) : VC Try.prog 57 [.agg ((eReln r).map .d)] (fun _ v => v = .d (.bool (rowsOk r.ar r.rows))) := by
  refine VC.ofL EP s57 (by kernel_rfl) Try.func57 (by rfl) (by kernel_rfl) (by simp [Try.f57]) (by simp [Try.f57]) s57_ok fun B hl => ?_
  simp [Try.f57, eReln, cI, cP]
  refine call_f (w_impl_rowsValid r.ar r.rows) (by simp [pS, cP]) rfl fun hs0 hh0 => ?_
  simp
theorem w_spec_IsValidRelation (r : PReln) : VC Try.prog 58 [.agg ((eReln r).map .d)] (fun _ v => v = .d (.bool (rowsOk r.ar r.rows))) := by
  obtain ⟨ar, l⟩ := r
  refine VC.ofL EP s58 (by kernel_rfl) Try.func58 (by rfl) (by kernel_rfl) (by simp [Try.f58]) (by simp [Try.f58]) s58_ok fun B hl => ?_
  simp [eReln, pS, cP, cI, maxLen] at hl
  simp [Try.f58, s58_6, eReln, cI, cP, pS]
  refine call_f (w_spec_l1In ar 0 5) (by simp) rfl fun hs0 hh0 => ?_
  simp at hh0
  cases h1 : inR ar 0 5
  · simp [rowsOk, h1]
  by_cases h2 : (4000 : Int) < l.length
  · simp [rowsOk, h2, show ¬ l.length ≤ 4000 by omega]
  have h2' : l.length ≤ 4000 := by omega
  simp [h2]
  refine loop_rule (X := Nat) (fun i => i ≤ l.length ∧ ∀ j, j < i → rowOk ar l j = true) (fun i => [(1, .ptr 1 0 0), (3, .d (.int .i64 i))]) (fun _ => [(1, some (.box [.d (.int .i64 ar), .d (.pl (l.map fun xs => [.pl (xs.map cI)]))]))]) (fun i => l.length - i) 0 (by simp) (by simp) (by simp [cI, cP, pS]) ?_
  intro i hs t m hi hh
  by_cases hlt : i < l.length
  · have hwi := wr1 (i := i) (by omega)
    have hr : rowOk ar l i = (decide ((l[i].length : Int) = ar) && valsOk l[i] && (i == 0 || decide (cmpL (l.getD (i - 1) []) l[i] < 0))) := by simp [rowOk, hlt]
    have hbad := fun h => rows_bad (ar := ar) hlt h
    have step : rowOk ar l i = true → ∀ j, j < i + 1 → rowOk ar l j = true := fun h j hj => by
      rcases Nat.lt_succ_iff_lt_or_eq.1 hj with h' | h'
      · exact hi.2 j h'
      · rw [h']; exact h
    by_cases c1 : (l[i].length : Int) = ar
    case neg => simp [hlt, s58_6, c1, hbad (by rw [hr]; simp [c1])]
    simp [hlt, s58_6, c1]
    refine call_f (w_spec_AreValidValues l[i]) (by simp [pS]) rfl fun hs1 hh1 => ?_
    simp at hh1
    cases c2 : valsOk l[i]
    · simp [hbad (by rw [hr]; simp [c2])]
    by_cases c3 : i = 0
    · subst c3
      simp [hwi, show IntKind.i64.wrap 1 = 1 by decide]
      exact back 1 ⟨by omega, step (by rw [hr]; simp [c1, c2])⟩ (by omega) rfl (by simp <;> omega) (by simp [show IntKind.i64.wrap 1 = 1 by decide]) (by simp)
    · have hw1 : IntKind.i64.wrap ((i : Int) - 1) = ((i - 1 : Nat) : Int) := by rw [wrap64_of (by omega) (by omega)]; omega
      have hip : (0 : Int) < i := by omega
      have hlt1 : i - 1 < l.length := by omega
      have hg1 : l.getD (i - 1) [] = l[i - 1] := by simp [hlt1]
      rw [hg1] at hr
      simp [hip, hw1, hlt1, hlt, c3, show 0 < i by omega]
      refine call_f (w_spec_CompareRows l[i - 1] l[i]) (by simp [pS]) rfl fun hs2 hh2 => ?_
      simp at hh2
      by_cases c4 : cmpL l[i - 1] l[i] < 0
      · simp [hwi, show ¬ 0 ≤ cmpL l[i - 1] l[i] by omega]
        exact back (i + 1) ⟨by omega, step (by rw [hr]; simp [c1, c2, c4])⟩ (by omega) rfl (by simp <;> omega) (by simp) (by simp)
      · simp [show 0 ≤ cmpL l[i - 1] l[i] by omega, hbad (by rw [hr]; simp [c3, c4])]
  · have hn : i = l.length := by omega
    have hd := rows_done h1 h2' (hn ▸ hi.2)
    simp [hlt, hd]

end Go.Proofs.Ytninbnbgaeailaa

namespace Go.Proofs.Ytninbnbgaeailaa
open Go.Vs Go.Proofs Go
set_option maxRecDepth 100000
set_option maxHeartbeats 1000000

theorem w_impl_place (l : List (List Int)) (row : List Int) (hb : l.length ≤ 4294967296) : VC Try.prog 64 [.d (pS (cP cI) l), .d (pS cI row)] (fun _ v => v = .tup [.d (.int .i64 (placeK l row)), .d (.bool (placeB l row))]) := by
  refine VC.ofL EP s64 (by kernel_rfl) Try.func64 (by rfl) (by kernel_rfl) (by simp [Try.f64]) (by simp [Try.f64]) s64_ok fun B hl => ?_
  simp [pS, cP, cI, maxLen] at hl
  simp [Try.f64, pS]
  refine loop_rule (X := Nat × Nat) (fun p => p.1 ≤ p.2 ∧ p.2 ≤ l.length ∧ bs l row p.1 p.2 = placeK l row) (fun p => [(0, .d (.pl (l.map (cP cI)))), (1, .d (.pl (row.map cI))), (6, .d (.int .i64 p.1)), (7, .d (.int .i64 p.2))]) (fun _ => []) (fun p => p.2 - p.1) (0, l.length) (by simp; rfl) (by simp) (by simp) ?_
  rintro ⟨lo, hi⟩ hs t m ⟨h1, h2, h3⟩ hh
  simp only at h1 h2 h3
  by_cases hlt : lo < hi
  · rw [bs_lt hlt] at h3
    have hm := mid64 (a := lo) (b := hi) (by omega) (by omega)
    have hml : (lo + hi) / 2 < l.length := by omega
    have hk1 : lo ≤ (lo + hi) / 2 ∧ (lo + hi) / 2 < hi := by omega
    generalize (lo + hi) / 2 = k at *
    have hg : l.getD k [] = l[k] := by simp [hml]
    simp [hlt, hm, hml, cP, pS]
    refine call_f (w_impl_CompareRows l[k] row) (by simp [pS]) rfl fun hs1 hh1 => ?_
    simp at hh1
    rw [hg] at h3
    by_cases hc : cmpL l[k] row < 0
    · rw [if_pos hc] at h3
      have hw := wr1 (i := k) (by omega)
      simp [hc, hw]
      exact back (k + 1, hi) ⟨by simp; omega, h2, h3⟩ (by simp; omega) rfl (by simp <;> omega) (by simp [cP, pS]) (by simp)
    · rw [if_neg hc] at h3
      simp [hc]
      exact back (lo, k) ⟨by simp; omega, by simp; omega, h3⟩ (by simp; omega) rfl (by simp <;> omega) (by simp [cP, pS]) (by simp)
  · rw [bs_ge hlt] at h3
    subst h3
    by_cases hk : placeK l row < l.length
    · simp [hlt, hk, cP, pS]
      refine call_f (w_impl_CompareRows l[placeK l row] row) (by simp [pS]) rfl fun hs1 hh1 => ?_
      simp [placeB, hk]
    · simp [hlt, hk, placeB]
theorem w_spec_l5Place (r : PReln) (row : List Int) (hb : r.rows.length ≤ 4294967296) : VC Try.prog 59 [.agg ((eReln r).map .d), .d (pS cI row)] (fun _ v => v = .tup [.d (.int .i64 (placeK r.rows row)), .d (.bool (placeB r.rows row))]) := by
  obtain ⟨ar, l⟩ := r
  simp only at hb ⊢
  refine VC.ofL EP s59 (by kernel_rfl) Try.func59 (by rfl) (by kernel_rfl) (by simp [Try.f59]) (by simp [Try.f59]) s59_ok fun B hl => ?_
  simp [eReln, pS, cP, cI, maxLen] at hl
  simp [Try.f59, eReln, cI, cP, pS]
  refine loop_rule (X := Nat × Nat) (fun p => p.1 ≤ p.2 ∧ p.2 ≤ l.length ∧ bs l row p.1 p.2 = placeK l row) (fun p => [(2, .ptr 2 0 0), (1, .d (.pl (row.map cI))), (6, .d (.int .i64 p.1)), (7, .d (.int .i64 p.2))]) (fun _ => [(2, some (.box [.d (.int .i64 ar), .d (.pl (l.map (cP cI)))]))]) (fun p => p.2 - p.1) (0, l.length) (by simp; rfl) (by simp [cI]) (by simp [cP, pS, cI]) ?_
  rintro ⟨lo, hi⟩ hs t m ⟨h1, h2, h3⟩ hh
  simp only at h1 h2 h3
  by_cases hlt : lo < hi
  · rw [bs_lt hlt] at h3
    have hm := mid64 (a := lo) (b := hi) (by omega) (by omega)
    have hml : (lo + hi) / 2 < l.length := by omega
    have hk1 : lo ≤ (lo + hi) / 2 ∧ (lo + hi) / 2 < hi := by omega
    generalize (lo + hi) / 2 = k at *
    have hg : l.getD k [] = l[k] := by simp [hml]
    simp [hlt, hm, hml, cP, pS]
    refine call_f (w_spec_CompareRows l[k] row) (by simp [pS]) rfl fun hs1 hh1 => ?_
    simp at hh1
    rw [hg] at h3
    by_cases hc : cmpL l[k] row < 0
    · rw [if_pos hc] at h3
      have hw := wr1 (i := k) (by omega)
      simp [hc, hw]
      exact back (k + 1, hi) ⟨by simp; omega, h2, h3⟩ (by simp; omega) rfl (by simp <;> omega) (by simp [cP, pS]) (by simp [cP, pS])
    · rw [if_neg hc] at h3
      simp [hc]
      exact back (lo, k) ⟨by simp; omega, by simp; omega, h3⟩ (by simp; omega) rfl (by simp <;> omega) (by simp [cP, pS]) (by simp [cP, pS])
  · rw [bs_ge hlt] at h3
    subst h3
    by_cases hk : placeK l row < l.length
    · simp [hlt, hk, cP, pS]
      refine call_f (w_spec_CompareRows l[placeK l row] row) (by simp [pS]) rfl fun hs1 hh1 => ?_
      simp [placeB, hk]
    · simp [hlt, hk, placeB]

end Go.Proofs.Ytninbnbgaeailaa

namespace Go.Proofs.Ytninbnbgaeailaa
open Go.Vs Go.Proofs Go
set_option maxRecDepth 100000
set_option maxHeartbeats 1000000

section
attribute [local simp] plI_id plStr_id map_plI map_plStr pS cP cI cStr cU8 cB
theorem w_impl_isLetters (s : List UInt8) : VC Try.prog 78 [.d (.str s), .d (.int .i64 4)] (fun _ r => r = .d (.bool (nameOk s))) := by
  refine VC.ofL EP s78 (by kernel_rfl) Try.func78 (by rfl) (by kernel_rfl) (by simp [Try.f78]) (by simp [Try.f78]) s78_ok fun B hl => ?_
  by_cases h1 : (s.length : Int) < 1
  · have : s = [] := List.length_eq_zero_iff.1 (by omega)
    subst this
    simp [Try.f78, nameOk_len]
  by_cases h4 : (4 : Int) < s.length
  · have : nameOk s = false := nameOk_len (by omega)
    simp [Try.f78, h1, h4, this]
  have hlen : 1 ≤ s.length ∧ s.length ≤ 4 := by omega
  simp [Try.f78, h1, h4]
  refine loop_rule (X := Nat) (fun i => i ≤ s.length ∧ AllTo lowB s i) (fun i => [(0, .d (.str s)), (5, .d (.int .i64 i))]) (fun _ => []) (fun i => s.length - i) 0 ⟨by simp, allTo_zero⟩ (by simp) (by simp) ?_
  intro i hs t m hi hh
  by_cases hlt : i < s.length
  · have hwi := wr1 (i := i) (by omega)
    by_cases ha : ((s[i]).toNat : Int) < 97
    · have hbad := nameOk_bad (all_bad (p := lowB) hlt (lowB_lo ha))
      simp [hlt, ha, hbad, ]
    · by_cases hz : (122 : Int) < ((s[i]).toNat : Int)
      · have hbad := nameOk_bad (all_bad (p := lowB) hlt (lowB_hi hz))
        simp [hlt, ha, hz, hbad, ]
      · simp [hlt, ha, hz, hwi, ]
        exact back (i + 1) ⟨by omega, allTo_step hi.2 hlt (lowB_ok ha hz)⟩ (by omega) rfl (by simp <;> omega) (by simp) (by simp)
  · have hd := allTo_done hi.2 (by omega)
    have hd2 : nameOk s = true := by rw [nameOk_ok hd, decide_eq_true hlen]
    simp [hlt, hd2]
theorem w_impl_IsValidName (s : List UInt8) : VC Try.prog 62 [.d (.str s)] (fun _ r => r = .d (.bool (nameOk s))) := by
  refine VC.ofL EP s62 (by kernel_rfl) Try.func62 (by rfl) (by kernel_rfl) (by simp [Try.f62]) (by simp [Try.f62]) s62_ok fun B hl => ?_
  simp [Try.f62, ]
  refine call_f (w_impl_isLetters s) (by simp) rfl fun hs1 hh1 => ?_
  simp
theorem w_spec_IsValidName (s : List UInt8) (hb : s.length ≤ maxLen) : VC Try.prog 63 [.d (.str s)] (fun _ r => r = .d (.bool (nameOk s))) := by
  refine VC.ofL EP s63 (by kernel_rfl) Try.func63 (by rfl) (by kernel_rfl) (by simp [Try.f63]) (by simp [Try.f63]) s63_ok fun B hl => ?_
  simp only [maxLen] at hb
  simp [Try.f63, ]
  refine loop_rule (X := Nat) (fun i => i ≤ s.length ∧ AllTo lowB s i) (fun i => [(0, .d (.str s)), (3, .d (.int .i64 i))]) (fun _ => []) (fun i => s.length - i) 0 ⟨by simp, allTo_zero⟩ (by simp) (by simp) ?_
  intro i hs t m hi hh
  by_cases hlt : i < s.length
  · have hwi := wr1 (i := i) (by omega)
    by_cases ha : ((s[i]).toNat : Int) < 97
    · have hbad := nameOk_bad (all_bad (p := lowB) hlt (lowB_lo ha))
      simp [hlt, ha, hbad, ]
    · by_cases hz : (122 : Int) < ((s[i]).toNat : Int)
      · have hbad := nameOk_bad (all_bad (p := lowB) hlt (lowB_hi hz))
        simp [hlt, ha, hz, hbad, ]
      · simp [hlt, ha, hz, hwi, ]
        exact back (i + 1) ⟨by omega, allTo_step hi.2 hlt (lowB_ok ha hz)⟩ (by omega) rfl (by simp <;> omega) (by simp) (by simp)
  · have hd := allTo_done hi.2 (by omega)
    simp [hlt, ]
    refine call_f (w_spec_l1In s.length 1 4) (by simp) rfl fun hs1 hh1 => ?_
    have e : inR (s.length : Int) 1 4 = decide (1 ≤ s.length ∧ s.length ≤ 4) := by
      simp only [inR, ← Bool.decide_and]; congr 1; apply propext; omega
    rw [e, nameOk_ok hd]
    simp
end

end Go.Proofs.Ytninbnbgaeailaa

namespace Go.Proofs.Ytninbnbgaeailaa
open Go.Vs Go.Proofs Go
set_option maxRecDepth 100000
set_option maxHeartbeats 1000000

section
attribute [local simp] plI_id plStr_id map_plI map_plStr pS cP cI cStr cU8 cB eTab eReln
theorem w_impl_IsValidDatabase (d : PDb) : VC Try.prog 36 [.agg ((eDb d).map V.d)] (fun _ r => r = .d (.bool (dbOk d))) := by
  refine VC.ofL EP s36 (by kernel_rfl) Try.func36 (by rfl) (by kernel_rfl) (by simp [Try.f36]) (by simp [Try.f36]) s36_ok fun B hl => ?_
  obtain ⟨l⟩ := d
  by_cases h6 : (6 : Int) < l.length
  · have : dbOk ⟨l⟩ = false := by
      have : ¬ l.length ≤ 6 := by omega
      simp only [dbOk, this, decide_false, Bool.false_and]
    simp [Try.f36, s36_6, s36_6, eDb, h6, this]
  simp [Try.f36, s36_6, s36_6, eDb, h6]
  refine loop_rule (X := Nat) (DbTo l) (fun i => [(1, .ptr 1 0 0), (10, .d (.pl (l.map eTab))), (11, .d (.int .i64 l.length)), (12, .d (.int .i64 i))]) (fun _ => [(1, some (.box [.d (.pl (l.map eTab))]))]) (fun i => l.length - i) 0 .zero (by simp) (by simp) ?_
  intro i hs t m hi hh
  have hil := hi.le
  by_cases hlt : i < l.length
  case neg =>
    have hd := hi.done (by omega)
    simp [hlt, hd]
    omega
  have hwi := wr1 (i := i) (by omega)
  have hat := dbAt_eq hlt
  have hbad : dbAt l i = false → dbOk ⟨l⟩ = false := dbOk_bad hlt
  obtain ⟨nm, ar, rows, hT⟩ : ∃ nm ar rows, l[i] = ⟨nm, ⟨ar, rows⟩⟩ := ⟨_, _, _, rfl⟩
  rw [hT] at hat
  simp only [tabOk] at hat
  simp [hlt, hT, s36_6, ]
  refine call_f (w_impl_IsValidName nm) (by simp) rfl fun hs1 hh1 => ?_
  simp at hh1
  cases h1 : nameOk nm
  · have hb := hbad (by rw [hat, h1]; simp)
    simp [hb, s36_6, ]
  by_cases h0 : i = 0
  · subst h0
    have hwi0 : IntKind.i64.wrap 1 = 1 := by simpa using hwi
    simp [hT, s36_6, ]
    refine call_f (w_impl_IsValidRelation ⟨ar, rows⟩) (by simp [eReln]) rfl fun hs2 hh2 => ?_
    simp at hh2
    cases h3 : rowsOk ar rows
    · have hb := hbad (by rw [hat, h3]; simp)
      simp [hb, s36_6, ]
    by_cases h4 : ar < 1
    · have hb := hbad (by rw [hat]; have : ¬ 1 ≤ ar := by omega
                          simp [this])
      simp [h4, hb, hT, s36_6, ]
    by_cases h5 : (16 : Int) < rows.length
    · have hb := hbad (by rw [hat]; have : ¬ rows.length ≤ 16 := by omega
                          simp [this])
      simp [h4, h5, hb, hT, s36_6, ]
    have hok : dbAt l 0 = true := by
      have a4 : 1 ≤ ar := by omega
      have a5 : rows.length ≤ 16 := by omega
      rw [hat, h1, h3]; simp [a4, a5]
    simp [h4, h5, hT, hwi0, s36_6, ]
    exact back 1 (hi.step hlt hok) (by omega) rfl (by simp <;> omega) (by simp) (by simp)
  · have h0' : 0 < i := by omega
    have hw : IntKind.i64.wrap ((i : Int) - 1) = ((i - 1 : Nat) : Int) := by rw [wrap64_of (by omega) (by omega)]; omega
    have hlt1 : i - 1 < l.length := by omega
    cases h2 : Op.bytesLess (l[i - 1]'(by omega)).name nm
    · have hb := hbad (by rw [hat, h2]; simp [h0])
      simp [h0, h0', hw, hlt1, hT, h2, hb, s36_6, ]
    simp [h0, h0', hw, hlt1, hT, h2, s36_6, ]
    refine call_f (w_impl_IsValidRelation ⟨ar, rows⟩) (by simp [eReln]) rfl fun hs2 hh2 => ?_
    simp at hh2
    cases h3 : rowsOk ar rows
    · have hb := hbad (by rw [hat, h3]; simp)
      simp [hb, s36_6, ]
    by_cases h4 : ar < 1
    · have hb := hbad (by rw [hat]; have : ¬ 1 ≤ ar := by omega
                          simp [this])
      simp [h4, hb, hT, s36_6, ]
    by_cases h5 : (16 : Int) < rows.length
    · have hb := hbad (by rw [hat]; have : ¬ rows.length ≤ 16 := by omega
                          simp [this])
      simp [h4, h5, hb, hT, s36_6, ]
    have hok : dbAt l i = true := by
      have a4 : 1 ≤ ar := by omega
      have a5 : rows.length ≤ 16 := by omega
      rw [hat, h1, h3]; simp [a4, a5, h2]
    simp [h4, h5, hT, hwi, s36_6, ]
    exact back (i + 1) (hi.step hlt hok) (by omega) rfl (by simp <;> omega) (by simp) (by simp)
theorem w_spec_IsValidDatabase (d : PDb) (hst : ∀ t ∈ d.tabs, t.name.length ≤ maxLen) : VC Try.prog 38 [.agg ((eDb d).map V.d)] (fun _ r => r = .d (.bool (dbOk d))) := by
  refine VC.ofL EP s38 (by kernel_rfl) Try.func38 (by rfl) (by kernel_rfl) (by simp [Try.f38]) (by simp [Try.f38]) s38_ok fun B hl => ?_
  obtain ⟨l⟩ := d
  simp [pS, maxLen, eDb] at hl
  simp only at hst
  simp [Try.f38, s38_5, s38_5, eDb]
  refine loop_rule (X := Nat) (DbTo l) (fun i => [(1, .ptr 1 0 0), (3, .d (.int .i64 i))]) (fun _ => [(1, some (.box [.d (.pl (l.map eTab))]))]) (fun i => l.length - i) 0 .zero (by simp) (by simp) ?_
  intro i hs t m hi hh
  have hil := hi.le
  by_cases hlt : i < l.length
  case neg =>
    have hd := hi.done (by omega)
    simp [hlt, hd]
    omega
  have hwi := wr1 (i := i) (by omega)
  have hat := dbAt_eq hlt
  have hbad : dbAt l i = false → dbOk ⟨l⟩ = false := dbOk_bad hlt
  obtain ⟨nm, ar, rows, hT⟩ : ∃ nm ar rows, l[i] = ⟨nm, ⟨ar, rows⟩⟩ := ⟨_, _, _, rfl⟩
  rw [hT] at hat
  simp only [tabOk] at hat
  have hnl : nm.length ≤ maxLen := by have := hst l[i] (List.getElem_mem hlt); rwa [hT] at this
  simp [hlt, hT, s38_5, ]
  refine call_f (w_spec_IsValidName nm hnl) (by simp) rfl fun hs1 hh1 => ?_
  simp at hh1
  cases h1 : nameOk nm
  · have hb := hbad (by rw [hat, h1]; simp)
    simp [hb, s38_5, ]
  by_cases h0 : i = 0
  · subst h0
    have hwi0 : IntKind.i64.wrap 1 = 1 := by simpa using hwi
    simp [hT, s38_5, ]
    refine call_f (w_spec_IsValidRelation ⟨ar, rows⟩) (by simp [eReln]) rfl fun hs2 hh2 => ?_
    simp at hh2
    cases h3 : rowsOk ar rows
    · have hb := hbad (by rw [hat, h3]; simp)
      simp [hb, s38_5, ]
    by_cases h5 : (16 : Int) < rows.length
    · have hb := hbad (by rw [hat]; have : ¬ rows.length ≤ 16 := by omega
                          simp [this])
      simp [h5, hb, hT, s38_5, ]
    by_cases h4 : ar < 1
    · have hb := hbad (by rw [hat]; have : ¬ 1 ≤ ar := by omega
                          simp [this])
      simp [h4, h5, hb, hT, s38_5, ]
    have hok : dbAt l 0 = true := by
      have a4 : 1 ≤ ar := by omega
      have a5 : rows.length ≤ 16 := by omega
      rw [hat, h1, h3]; simp [a4, a5]
    simp [h4, h5, hT, hwi0, s38_5, ]
    exact back 1 (hi.step hlt hok) (by omega) rfl (by simp <;> omega) (by simp) (by simp)
  · have h0' : 0 < i := by omega
    have hw : IntKind.i64.wrap ((i : Int) - 1) = ((i - 1 : Nat) : Int) := by rw [wrap64_of (by omega) (by omega)]; omega
    have hlt1 : i - 1 < l.length := by omega
    cases h2 : Op.bytesLess (l[i - 1]'(by omega)).name nm
    · have hb := hbad (by rw [hat, h2]; simp [h0])
      simp [h0, h0', hw, hlt1, hT, h2, hb, s38_5, ]
    simp [h0, h0', hw, hlt1, hT, h2, s38_5, ]
    refine call_f (w_spec_IsValidRelation ⟨ar, rows⟩) (by simp [eReln]) rfl fun hs2 hh2 => ?_
    simp at hh2
    cases h3 : rowsOk ar rows
    · have hb := hbad (by rw [hat, h3]; simp)
      simp [hb, s38_5, ]
    by_cases h5 : (16 : Int) < rows.length
    · have hb := hbad (by rw [hat]; have : ¬ rows.length ≤ 16 := by omega
                          simp [this])
      simp [h5, hb, hT, s38_5, ]
    by_cases h4 : ar < 1
    · have hb := hbad (by rw [hat]; have : ¬ 1 ≤ ar := by omega
                          simp [this])
      simp [h4, h5, hb, hT, s38_5, ]
    have hok : dbAt l i = true := by
      have a4 : 1 ≤ ar := by omega
      have a5 : rows.length ≤ 16 := by omega
      rw [hat, h1, h3]; simp [a4, a5, h2]
    simp [h4, h5, hT, hwi, s38_5, ]
    exact back (i + 1) (hi.step hlt hok) (by omega) rfl (by simp <;> omega) (by simp) (by simp)
end

end Go.Proofs.Ytninbnbgaeailaa

namespace Go.Proofs.Ytninbnbgaeailaa
open Go.Vs Go.Proofs Go
set_option maxRecDepth 100000
set_option maxHeartbeats 1000000

theorem w_spec_l5Copy (r : PReln) (hb : r.rows.length ≤ 4294967296) (hb2 : ∀ x ∈ r.rows, x.length ≤ 4294967296) : VC Try.prog 39 [.agg ((eReln r).map .d)] (fun _ v => v = .agg ((eReln r).map .d)) := by
  obtain ⟨ar, l⟩ := r
  simp only at hb hb2
  refine VC.ofL EP s39 (by kernel_rfl) Try.func39 (by rfl) (by kernel_rfl) (by simp [Try.f39]) (by simp [Try.f39]) s39_ok fun B hl => ?_
  simp [Try.f39, s39_5, eReln]
  refine loop_ruleL (X := Nat) (fun i _ => i ≤ l.length) (fun i => [(1, .ptr 1 0 0), (2, .ptr 2 0 0), (3, .ptr 3 0 0), (4, .d (.int .i64 i))])
    (fun i => [(1, some (.box [.d (.int .i64 ar), .d (.pl (l.map (cP cI)))])), (2, some (.box [.d (.int .i64 0), .d (.sl none none [])])), (3, some (.box [.d (.int .i64 ar), .own 25 0 i])), (25, some (.row 69 1 ((l.take i).map (cP cI))))]) (fun i => l.length - i) ?_ ?_
  · refine (lead_box 3 1 25 69 1 [.d (.int .i64 ar), .d (.sl none none [])] (by omega) (by omega) (by omega) (by simp) rfl).bind ?_
    rintro _ rfl
    exact Lead.of ⟨0, by simp, rfl, rfl, Nat.le_refl _, by simp, by simp⟩
  · intro i hs t m hi hh
    by_cases hlt : i < l.length
    · have hwi := wr1 (i := i) (by omega)
      have hL : LenOk 24 (i + 1) := ⟨by omega, by simp only [maxLen]; omega⟩
      have hx := hb2 _ (List.getElem_mem hlt)
      have hL2 : LenOk 8 l[i].length := ⟨by omega, by simp only [maxLen]; omega⟩
      simp [hlt, hL, hL2, hwi, List.take_of_length_le, show min i l.length = i by omega, s39_5, ]
      refine back2 (i + 1) (by omega) (by omega) rfl (by simp <;> omega) (by simp) ?_
      simp
      rw [List.take_succ_eq_append_getElem (by simpa using hlt)]; simp
    · have hn : i = l.length := by omega
      subst hn
      simp [List.take_of_length_le]

end Go.Proofs.Ytninbnbgaeailaa

namespace Go.Proofs.Ytninbnbgaeailaa
open Go.Vs Go.Proofs Go
set_option maxRecDepth 100000
set_option maxHeartbeats 1000000

section
attribute [local simp] plI_id plStr_id map_plI map_plStr pS cP cI cStr cU8 cB
theorem q_impl_copyInts (l : List Int) (hb : l.length ≤ 4294967296) : VC Try.prog 48 [.d (pS cI l)] (fun _ r => r = .d (pS cI l)) := by
  refine VC.ofL EP s48 (by kernel_rfl) Try.func48 (by rfl) (by kernel_rfl) (by simp [Try.f48]) (by simp [Try.f48]) s48_ok fun B hl => ?_
  have hL : LenOk 8 l.length := ⟨by omega, by simp only [maxLen]; omega⟩
  simp [Try.f48, hL, List.take_of_length_le]
theorem q_impl_copyRows (l : List (List Int)) (hb : l.length ≤ 4294967296) (hb2 : ∀ r ∈ l, r.length ≤ 4294967296) : VC Try.prog 61 [.d (pS (cP cI) l)] (fun _ r => r = .d (pS (cP cI) l)) := by
  refine VC.ofL EP s61 (by kernel_rfl) Try.func61 (by rfl) (by kernel_rfl) (by simp [Try.f61]) (by simp [Try.f61]) s61_ok fun B hl => ?_
  simp [Try.f61, ]
  refine loop_ruleL (X := Nat) (fun i _ => i ≤ l.length) (fun i => [(3, .own 16 0 i), (6, .d (.pl (l.map (cP cI)))), (7, .d (.int .i64 l.length)), (8, .d (.int .i64 i))]) (fun i => [(16, some (.row 69 1 ((l.take i).map (cP cI))))]) (fun i => l.length - i) ?_ ?_
  · refine (lead_slot 3 16 69 1 (by omega) (by omega) (by simp)).bind ?_
    rintro _ rfl
    exact Lead.of ⟨0, by omega, rfl, rfl, Nat.le_refl _, by simp, by simp⟩
  intro i hs t m hi hh
  by_cases hlt : i < l.length
  · have hwi := wr1 (i := i) (by omega)
    have hL : LenOk 24 (i + 1) := ⟨by omega, by simp only [maxLen]; omega⟩
    have hmn : min i l.length = i := by omega
    have hst2 : List.take (i + 1) (List.map (cP cI) l) = List.take i (List.map (cP cI) l) ++ [cP cI l[i]] := by
      rw [List.take_succ_eq_append_getElem (by simpa using hlt)]; simp
    simp [hlt, ]
    refine call_p (q_impl_copyInts l[i] (hb2 _ (List.getElem_mem hlt))) (by simp) fun hs1 hh1 hl1 => ?_
    simp at hh1
    simp [hwi, hL, hmn, ]
    exact back2 (i + 1) (by omega) (by omega) rfl (by simp <;> omega) (by simp) (by simp [hst2])
  · have hn : i = l.length := by omega
    subst hn
    simp [List.take_of_length_le]
theorem q_impl_copyRelation (r : PReln) (hb : r.rows.length ≤ 4294967296) (hb2 : ∀ x ∈ r.rows, x.length ≤ 4294967296) : VC Try.prog 37 [.agg ((eReln r).map V.d)] (fun _ v => v = .agg ((eReln r).map V.d)) := by
  refine VC.ofL EP s37 (by kernel_rfl) Try.func37 (by rfl) (by kernel_rfl) (by simp [Try.f37]) (by simp [Try.f37]) s37_ok fun B hl => ?_
  simp [Try.f37, s37_1, s37_1, eReln]
  refine call_p (q_impl_copyRows r.rows hb hb2) (by simp) fun hs1 hh1 hl1 => ?_
  simp at hh1
  simp [s37_1, ]
theorem w_impl_ContainsRow (r : PReln) (row : List Int) (hb : r.rows.length ≤ 4294967296) : VC Try.prog 42 [.agg ((eReln r).map V.d), .d (pS cI row)] (fun _ v => v = .d (.bool (hasR r row))) := by
  refine VC.ofL EP s42 (by kernel_rfl) Try.func42 (by rfl) (by kernel_rfl) (by simp [Try.f42]) (by simp [Try.f42]) s42_ok fun B hl => ?_
  simp [Try.f42, eReln]
  refine call_f (w_impl_place r.rows row hb) (by simp) rfl fun hs1 hh1 => ?_
  simp at hh1
  simp []
  refine call_f (w_impl_IsValidRelation r) (by simp [eReln]) rfl fun hs2 hh2 => ?_
  simp at hh2
  cases h : rowsOk r.ar r.rows <;> simp [hasR, h]
theorem w_impl_LookupRelation (d : PDb) (nm : List UInt8) : VC Try.prog 12 [.agg ((eDb d).map V.d), .d (.str nm)] (fun _ v => v = .tup [.agg ((eReln (lkR d nm)).map V.d), .d (.bool (lkB d nm))]) := by
  refine VC.ofL EP s12 (by kernel_rfl) Try.func12 (by rfl) (by kernel_rfl) (by simp [Try.f12]) (by simp [Try.f12]) s12_ok fun B hl => ?_
  obtain ⟨l⟩ := d
  simp [Try.f12, eDb]
  refine call_f (w_impl_IsValidDatabase ⟨l⟩) (by simp [eDb]) rfl fun hs1 hh1 => ?_
  simp at hh1
  cases h1 : dbOk ⟨l⟩
  · obtain ⟨e1, e2⟩ := lk_no (nm := nm) h1
    simp [e1, e2, eReln]
  have hl6 := dbOk_len h1
  simp only at hl6
  simp
  refine loop_rule (X := Nat) (LkTo l nm) (fun i => [(1, .d (.str nm)), (2, .ptr 2 0 0), (4, .ptr 4 0 0), (11, .d (.pl (l.map eTab))), (12, .d (.int .i64 l.length)), (13, .d (.int .i64 i))]) (fun _ => [(2, some (.box [.d (.pl (l.map eTab))])), (4, some (.box [.d (.int .i64 0), .d (.sl none none [])]))]) (fun i => l.length - i) 0 .zero (by simp) (by simp) ?_
  intro i hs t m hi hh
  by_cases hlt : i < l.length
  · have hwi := wr1 (i := i) (by omega)
    have hr := tabOk_rel (dbOk_tab h1 (List.getElem_mem hlt))
    by_cases he : l[i].name = nm
    · obtain ⟨e1, e2⟩ := hi.found h1 hlt he
      simp [hlt, he, eTab, eReln, ]
      refine call_p (q_impl_copyRelation l[i].rel hr.1 hr.2) (by simp [eReln]) fun hs2 hh2 hl2 => ?_
      simp [e1, e2, eReln]
    · simp [hlt, he, hwi, eTab, eReln, ]
      exact back (i + 1) (hi.step hlt he) (by omega) rfl (by simp <;> omega) (by simp [eTab, eReln]) (by simp [eTab, eReln])
  · obtain ⟨e1, e2⟩ := hi.done (by omega)
    simp [hlt, e1, e2, eReln]
theorem w_impl_applicable (d : PDb) (x : PDelta) : VC Try.prog 41 [.agg ((eDb d).map V.d), .agg ((eDelta x).map V.d)] (fun _ v => v = .tup [.agg ((eReln (lkR d x.name)).map V.d), .d (.bool (fitB d x))]) := by
  refine VC.ofL EP s41 (by kernel_rfl) Try.func41 (by rfl) (by kernel_rfl) (by simp [Try.f41]) (by simp [Try.f41]) s41_ok fun B hl => ?_
  obtain ⟨nm, ⟨ia, il⟩, ⟨da, dl⟩⟩ := x
  simp [Try.f41, s41_3, eDb, eDelta, eReln]
  refine call_p (w_impl_LookupRelation d nm) (by simp [eDb]) fun hs1 hh1 hl1 => ?_
  simp at hh1
  obtain ⟨⟨ra, rl⟩, hr⟩ : ∃ r, r = lkR d nm := ⟨_, rfl⟩
  rw [← hr]
  cases h1 : lkB d nm
  · simp [eReln, fitB, h1, s41_3, ← hr]
  simp [eReln]
  refine call_f (w_impl_IsValidRelation ⟨ia, il⟩) (by simp [eReln]) rfl fun hs2 hh2 => ?_
  simp at hh2
  cases h2 : rowsOk ia il
  · simp [eReln, fitB, h1, h2, s41_3, ← hr]
  simp [eReln]
  refine call_f (w_impl_IsValidRelation ⟨da, dl⟩) (by simp [eReln]) rfl fun hs3 hh3 => ?_
  simp at hh3
  cases h3 : rowsOk da dl
  · simp [eReln, fitB, h1, h2, h3, s41_3, ← hr]
  by_cases h4 : ia = ra
  case neg => simp [eReln, fitB, h1, h2, h3, h4, s41_3, ← hr]
  subst h4
  by_cases h5 : da = ia
  case neg => simp [eReln, fitB, h1, h2, h3, h5, s41_3, ← hr]
  subst h5
  simp [eReln, fitB, h1, h2, h3, s41_3, ← hr]
theorem w_spec_LookupRelation (d : PDb) (nm : List UInt8) (hst : ∀ t ∈ d.tabs, t.name.length ≤ maxLen) : VC Try.prog 13 [.agg ((eDb d).map V.d), .d (.str nm)] (fun _ v => v = .tup [.agg ((eReln (lkR d nm)).map V.d), .d (.bool (lkB d nm))]) := by
  refine VC.ofL EP s13 (by kernel_rfl) Try.func13 (by rfl) (by kernel_rfl) (by simp [Try.f13]) (by simp [Try.f13]) s13_ok fun B hl => ?_
  obtain ⟨l⟩ := d
  simp [pS, maxLen, eDb] at hl
  simp [Try.f13, eDb]
  refine loop_rule (X := Nat) (LkTo l nm) (fun i => [(1, .d (.str nm)), (2, .ptr 2 0 0), (4, .ptr 4 0 0), (6, .d (.int .i64 i))]) (fun _ => [(2, some (.box [.d (.pl (l.map eTab))])), (4, some (.box [.d (.int .i64 0), .d (.sl none none [])]))]) (fun i => l.length - i) 0 .zero (by simp) (by simp) ?_
  intro i hs t m hi hh
  by_cases hlt : i < l.length
  · have hwi := wr1 (i := i) (by omega)
    simp [hlt, ]
    refine call_f (w_spec_IsValidDatabase ⟨l⟩ hst) (by simp [eDb]) rfl fun hs1 hh1 => ?_
    simp at hh1
    cases h1 : dbOk ⟨l⟩
    · obtain ⟨e1, e2⟩ := lk_no (nm := nm) h1
      simp [e1, e2, eReln, ]
    have hr := tabOk_rel (dbOk_tab h1 (List.getElem_mem hlt))
    by_cases he : l[i].name = nm
    · obtain ⟨e1, e2⟩ := hi.found h1 hlt he
      simp [hlt, he, eTab, eReln, ]
      refine call_p (w_spec_l5Copy l[i].rel hr.1 hr.2) (by simp [eReln]) fun hs2 hh2 hl2 => ?_
      simp [e1, e2, eReln]
    · simp [hlt, he, hwi, eTab, eReln, ]
      exact back (i + 1) (hi.step hlt he) (by omega) rfl (by simp <;> omega) (by simp [eTab, eReln]) (by simp [eTab, eReln])
  · obtain ⟨e1, e2⟩ := hi.done (by omega)
    simp [hlt, e1, e2, eReln, ]
theorem w_spec_l26Fits (d : PDb) (x : PDelta) (hst : ∀ t ∈ d.tabs, t.name.length ≤ maxLen) : VC Try.prog 49 [.agg ((eDb d).map V.d), .agg ((eDelta x).map V.d)] (fun _ v => v = .d (.bool (fitB d x))) := by
  refine VC.ofL EP s49 (by kernel_rfl) Try.func49 (by rfl) (by kernel_rfl) (by simp [Try.f49]) (by simp [Try.f49]) s49_ok fun B hl => ?_
  obtain ⟨nm, ⟨ia, il⟩, ⟨da, dl⟩⟩ := x
  simp [Try.f49, eDb, eDelta, eReln]
  refine call_p (w_spec_LookupRelation d nm hst) (by simp [eDb]) fun hs1 hh1 hl1 => ?_
  simp at hh1
  obtain ⟨⟨ra, rl⟩, hr⟩ : ∃ r, r = lkR d nm := ⟨_, rfl⟩
  rw [← hr]
  cases h1 : lkB d nm
  · simp [eReln, fitB, h1, ← hr]
  simp [eReln]
  refine call_f (w_spec_IsValidRelation ⟨ia, il⟩) (by simp [eReln]) rfl fun hs2 hh2 => ?_
  simp at hh2
  cases h2 : rowsOk ia il
  · simp [eReln, fitB, h1, h2, ← hr]
  simp [eReln]
  refine call_f (w_spec_IsValidRelation ⟨da, dl⟩) (by simp [eReln]) rfl fun hs3 hh3 => ?_
  simp at hh3
  cases h3 : rowsOk da dl
  · simp [eReln, fitB, h1, h2, h3, ← hr]
  by_cases h4 : ia = ra
  case neg => simp [eReln, fitB, h1, h2, h3, h4, ← hr]
  subst h4
  by_cases h5 : da = ia
  case neg => simp [eReln, fitB, h1, h2, h3, h5, ← hr]
  subst h5
  simp [eReln, fitB, h1, h2, h3, ← hr]
end

end Go.Proofs.Ytninbnbgaeailaa

namespace Go.Proofs.Ytninbnbgaeailaa
open Go.Vs Go.Proofs Go
set_option maxRecDepth 100000
set_option maxHeartbeats 1000000

section
attribute [local simp] plI_id plStr_id map_plI map_plStr pS cP cI cStr cU8 cB
theorem w_spec_Difference (a b : PReln) : VC Try.prog 32 [.agg ((eReln a).map V.d), .agg ((eReln b).map V.d)] (fun _ v => v = .tup [.agg ((eReln (difR a b)).map V.d), .d (.bool (difB a b))]) := by
  refine VC.ofL EP s32 (by kernel_rfl) Try.func32 (by rfl) (by kernel_rfl) (by simp [Try.f32]) (by simp [Try.f32]) s32_ok fun B hl => ?_
  obtain ⟨aa, al⟩ := a
  obtain ⟨ba, bl⟩ := b
  simp [Try.f32, s32_7, s32_9, eReln]
  refine call_f (w_spec_IsValidRelation ⟨aa, al⟩) (by simp [eReln]) rfl fun hs1 hh1 => ?_
  simp at hh1
  cases h1 : rowsOk aa al
  · simp [difR, difB, h1, eReln]
  simp
  refine call_f (w_spec_IsValidRelation ⟨ba, bl⟩) (by simp [eReln]) rfl fun hs2 hh2 => ?_
  simp at hh2
  cases h2 : rowsOk ba bl
  · simp [difR, difB, h1, h2, eReln]
  by_cases h3 : aa = ba
  case neg => simp [difR, difB, h1, h2, h3, eReln]
  subst h3
  have hdb : difB ⟨aa, al⟩ ⟨aa, bl⟩ = true := by simp [difB, h1, h2]
  have hdr : difR ⟨aa, al⟩ ⟨aa, bl⟩ = ⟨aa, difL al bl⟩ := by simp only [difR, hdb, if_true]
  rw [hdb, hdr]
  have hal := rowsOk_len h1
  have hbl := rowsOk_len h2
  have hrow := rowsOk_row h1
  simp
  refine loop_ruleL (X := Nat) (fun i _ => i ≤ al.length) (fun i => [(2, .ptr 2 0 0), (3, .ptr 3 0 0), (4, .ptr 4 0 0), (6, .ptr 6 0 0), (7, .d (.int .i64 i))])
    (fun i => [(2, some (.box [.d (.int .i64 aa), .d (.pl (al.map (cP cI)))])), (3, some (.box [.d (.int .i64 aa), .d (.pl (bl.map (cP cI)))])), (4, some (.box [.d (.int .i64 0), .d (.sl none none [])])), (6, some (.box [.d (.int .i64 aa), .own 58 0 (difL (al.take i) bl).length])), (58, some (.row 69 1 ((difL (al.take i) bl).map (cP cI))))]) (fun i => al.length - i) ?_ ?_
  · refine (lead_box 6 1 58 69 1 [.d (.int .i64 aa), .d (.sl none none [])] (by omega) (by omega) (by omega) (by simp) rfl).bind ?_
    rintro _ rfl
    exact Lead.of ⟨0, by omega, rfl, rfl, Nat.le_refl _, by simp, by simp [difL]⟩
  intro i hs t m hi hh
  by_cases hlt : i < al.length
  · have hwi := wr1 (i := i) (by omega)
    have hst := difL_step (b := bl) hlt
    have hdl := difL_len (al.take i) bl
    rw [List.length_take] at hdl
    have hL1 : LenOk 8 al[i].length := by
      have := hrow _ (List.getElem_mem hlt)
      exact ⟨by omega, by simp only [maxLen]; omega⟩
    have hL2 : LenOk 24 ((difL (al.take i) bl).length + 1) := ⟨by omega, by simp only [maxLen]; omega⟩
    simp [hlt, s32_7, s32_9, ]
    refine call_f (w_spec_l5Place ⟨aa, bl⟩ al[i] (by show bl.length ≤ _; omega)) (by simp [eReln]) rfl fun hs3 hh3 => ?_
    simp at hh3
    cases h4 : placeB bl al[i]
    · rw [h4] at hst
      simp only [Bool.false_eq_true, if_false] at hst
      simp [hlt, hwi, hL1, hL2, List.take_of_length_le, s32_7, s32_9, ]
      exact back2 (i + 1) (by omega) (by omega) rfl (by simp <;> omega) (by simp) (by simp [hst])
    · rw [h4] at hst
      simp only [if_true, List.append_nil] at hst
      simp [hwi, s32_7, s32_9, ]
      exact back2 (i + 1) (by omega) (by omega) rfl (by simp <;> omega) (by simp) (by simp [hst])
  · have hn : i = al.length := by omega
    subst hn
    simp [List.take_of_length_le]
theorem w_spec_NormalizeDelta (d : PDb) (x : PDelta) (hst : ∀ t ∈ d.tabs, t.name.length ≤ maxLen) : VC Try.prog 45 [.agg ((eDb d).map V.d), .agg ((eDelta x).map V.d)] (fun _ v => v = .tup [.agg ((eDelta (norP d x)).map V.d), .d (.bool (fitB d x))]) := by
  refine VC.ofL EP s45 (by kernel_rfl) Try.func45 (by rfl) (by kernel_rfl) (by simp [Try.f45]) (by simp [Try.f45]) s45_ok fun B hl => ?_
  simp [Try.f45, eDb, eDelta, eReln]
  refine call_f (w_spec_l26Fits d x hst) (by simp [eDb, eDelta, eReln]) rfl fun hs1 hh1 => ?_
  simp at hh1
  cases h1 : fitB d x
  · simp [norP, h1, eDelta, eReln, ]
  obtain ⟨e1, e2⟩ := nor_dif h1
  have e3 : norP d x = ⟨x.name, ⟨(lkR d x.name).ar, norI (lkR d x.name) x.ins.rows⟩, ⟨(lkR d x.name).ar, norD (lkR d x.name) x.ins x.del.rows⟩⟩ := by simp only [norP, h1, if_true]
  obtain ⟨r, hr⟩ : ∃ r, r = lkR d x.name := ⟨_, rfl⟩
  simp []
  refine call_p (w_spec_LookupRelation d x.name hst) (by simp [eDb]) fun hs2 hh2 hl2 => ?_
  simp at hh2
  rw [← hr] at e1 e2 e3 ⊢
  simp [eReln, ]
  refine call_p (w_spec_Difference x.ins r) (by simp [eReln]) fun hs3 hh3 hl3 => ?_
  simp at hh3
  rw [e1]
  simp [eReln, ]
  refine call_p (w_spec_Difference x.del x.ins) (by simp [eReln]) fun hs4 hh4 hl4 => ?_
  simp at hh4
  obtain ⟨go, hgo⟩ : ∃ go, go = difR x.del x.ins := ⟨_, rfl⟩
  rw [← hgo] at e2 ⊢
  simp [eReln, ]
  refine call_p (w_spec_Difference go r) (by simp [eReln]) fun hs5 hh5 hl5 => ?_
  simp at hh5
  obtain ⟨nt, hnt⟩ : ∃ nt, nt = difR go r := ⟨_, rfl⟩
  rw [← hnt] at e2 ⊢
  simp [eReln, ]
  refine call_p (w_spec_Difference go nt) (by simp [eReln]) fun hs6 hh6 hl6 => ?_
  rw [e2, e3]
  simp [eReln, eDelta, ]
end

end Go.Proofs.Ytninbnbgaeailaa

namespace Go.Proofs.Ytninbnbgaeailaa
open Go.Vs Go.Proofs Go
set_option maxRecDepth 100000
set_option maxHeartbeats 1000000

theorem w_impl_copyInts (a : Ints) (ha : okS okI a) (hb : a.xs.length ≤ 4294967296) :
   VC Try.prog 48 [.d (dSl cI a)] (fun n r => ∃ y : Sl Int, r = .d (dSl cI y) ∧ plS plI y = plS plI a ∧ okS okI y ∧ Good (cS cI y) (whS whI y) n) := by
  refine VC.of E s48 (by kernel_rfl) Try.func48 (by rfl) (by kernel_rfl) (by simp [Try.f48]) (by simp [Try.f48]) s48_ok fun B => ?_
  have hL : LenOk 8 a.xs.length := ⟨by omega, by simp only [maxLen]; omega⟩
  simp [Try.f48, dSl, hL, cI]
  intro γ hs' h1 hg
  obtain ⟨q1, q2⟩ := gam_at hg (k := 3) (T := 3) (sz := 1) (es := a.xs.map cI) (by simp [cI])
  have q3 := gam_row hg (k := 3) (T := 3) (sz := 1) (es := a.xs.map cI) (by simp [cI])
  clear hg
  refine ⟨⟨γ 3, some (3, 1), a.xs⟩, ⟨⟨rfl, rfl, by simp [List.take_of_length_le]⟩, rfl, ha, good_row (fun g hg => (q1 g hg).1) (by simpa using q2) q3 ⟨by simp, by simp⟩ (by simp [whI])⟩⟩
theorem w_impl_copyRows (a : Sl Ints) (ha : okS (okS okI) a) (hb : a.xs.length ≤ 4294967296) (hb2 : ∀ r ∈ a.xs, r.xs.length ≤ 4294967296) :
   VC Try.prog 61 [.d (dSl (cS cI) a)] (fun n r => ∃ y : Sl Ints, r = .d (dSl (cS cI) y) ∧ plS (plS plI) y = plS (plS plI) a ∧ okS (okS okI) y ∧ Good (cS (cS cI) y) (whS (whS whI) y) n) := by
  refine VC.of E s61 (by kernel_rfl) Try.func61 (by rfl) (by kernel_rfl) (by simp [Try.f61]) (by simp [Try.f61]) s61_ok fun B => ?_
  simp [Try.f61, dSl]
  refine loop_ruleL (X := Nat × List (Sl Int)) (fun p h => p.1 ≤ a.xs.length ∧ p.2.length = p.1 ∧ p.2.map (plS plI) = (a.xs.map (plS plI)).take p.1 ∧ (∀ y ∈ p.2, okS okI y) ∧ GoodL (cS cI) (whS whI) B h p.2)
    (fun p => [(3, .own 16 0 p.1), (6, .d (.sl a.id a.T (a.xs.map (cS cI)))), (7, .d (.int .i64 a.xs.length)), (8, .d (.int .i64 p.1))]) (fun p => [(16, some (.row 69 1 (p.2.map (cS cI))))]) (fun p => a.xs.length - p.1) ?_ ?_
  · refine (lead_slot 3 16 69 1 (by omega) (by omega) (by simp)).bind ?_
    rintro _ rfl
    exact Lead.of ⟨(0, []), ⟨by simp, rfl, by simp, by simp, GoodL.nil⟩, rfl, rfl, Nat.le_refl _, by simp, by simp⟩
  · rintro ⟨i, ys⟩ hs t m ⟨hi, hyl, hpl, hok, hgd⟩ hh
    simp only at hi hyl hpl hok hgd
    by_cases hlt : i < a.xs.length
    · have hwi := wr1 (i := i) (by omega)
      have hmem : a.xs[i] ∈ a.xs := List.getElem_mem _
      have hL : LenOk 24 (i + 1) := ⟨by omega, by simp only [maxLen]; omega⟩
      simp [cS, hlt]
      refine call_some (w_impl_copyInts a.xs[i] (ha.2 _ hmem) (hb2 _ hmem)) rfl (by simp) fun n hs' r hn hn' hp hr => ?_
      obtain ⟨y, rfl, hy1, hy2, hy3⟩ := hp
      simp at hn
      have hr' : ∀ g ∈ idsL (cS cI y), g < hs' := fun g hg => hr g (by rw [idsL_cS] at hg; exact hg)
      simp [cS, dSl, hyl, hL, hwi]
      refine back2 (i + 1, ys ++ [y]) ⟨by omega, by simp [hyl], ?_, ?_, GoodL.snoc hgd (by omega) hn' hy3 hr'⟩ (by simp; omega) rfl (by simp <;> omega) (by simp) (by simp [cS, dSl])
      · simp only [List.map_append, hpl, List.map_cons, List.map_nil, hy1]
        rw [List.take_succ_eq_append_getElem (by simpa using hlt)]; simp
      · intro y' hy'
        rcases List.mem_append.1 hy' with h | h
        · exact hok y' h
        · rw [List.mem_singleton.1 h]; exact hy2
    · have hn : i = a.xs.length := by omega
      subst hn
      simp [hyl]
      intro γ hs' h1 hg
      obtain ⟨q1, q2⟩ := gam_at hg (k := 16) (T := 69) (sz := 1) (es := ys.map (cS cI)) (by simp)
      have q3 := gam_row hg (k := 16) (T := 69) (sz := 1) (es := ys.map (cS cI)) (by simp)
      clear hg
      refine ⟨⟨γ 16, some (69, 1), ys⟩, ⟨rfl, rfl, by simp [List.take_of_length_le, hyl]⟩, by rw [List.take_of_length_le (by simp)] at hpl; exact hpl, ⟨by simp only [maxLen]; show ys.length ≤ _; omega, hok⟩, good_row (fun g hg => (q1 g hg).1) (by simpa using q2) q3 ⟨hgd.nd, hgd.lo⟩ hgd.wh⟩

end Go.Proofs.Ytninbnbgaeailaa

namespace Go.Proofs.Ytninbnbgaeailaa
open Go.Vs Go.Proofs Go
set_option maxRecDepth 100000
set_option maxHeartbeats 1000000

theorem t_impl_NormalizeDelta (d : Db) (x : Delta) (hd : okDb d) (hx : okDelta x) : VC Try.prog 25 [.agg ((cDb d).map V.d), .agg ((cDelta x).map V.d)]
   (fun n r => ∃ y : Delta, r = .tup [.agg ((cDelta y).map V.d), .d (.bool (fitB (plDb d) (plDelta x)))] ∧ plDelta y = norP (plDb d) (plDelta x) ∧ okDelta y ∧ Good (cDelta y) (whDelta y) n) := by
  refine VC.of E s25 (by kernel_rfl) Try.func25 (by rfl) (by kernel_rfl) (by simp [Try.f25]) (by simp [Try.f25]) s25_ok fun B => ?_
  obtain ⟨nm, ⟨ia, ⟨iid, iT, il⟩⟩, ⟨da, ⟨did, dT, dl⟩⟩⟩ := x
  obtain ⟨X, hX⟩ : ∃ X, X = plDelta ⟨nm, ⟨ia, ⟨iid, iT, il⟩⟩, ⟨da, ⟨did, dT, dl⟩⟩⟩ := ⟨_, rfl⟩
  have hXn : X.name = nm := by rw [hX]; rfl
  have hXi : X.ins = ⟨ia, il.map (plS plI)⟩ := by rw [hX]; rfl
  have hXd : X.del = ⟨da, dl.map (plS plI)⟩ := by rw [hX]; rfl
  rw [← hX]
  simp [Try.f25, s25_9, s25_15, s25_9, s25_15, cDb, cDelta, cReln, cStr, cS, cI, dSl]
  refine call_p (w_impl_applicable (plDb d) X) (by simp [hX, eDb, plDb, er_Tab, eDelta, plDelta, eReln, plReln, plStr, plI, pS, cP, cI, cStr, plS, erLL_map er_cI, erLL_map (er_cS er_cI), erLL_map er_cTab, map_plI]) fun hs1 hh1 hl1 => ?_
  simp at hh1
  obtain ⟨⟨ra, rl⟩, hr⟩ : ∃ r, r = lkR (plDb d) X.name := ⟨_, rfl⟩
  rw [← hr]
  cases h1 : fitB (plDb d) X
  · simp [eReln, s25_9, s25_15, ]
    exact ⟨⟨[], ⟨0, nilS⟩, ⟨0, nilS⟩⟩, by simp [nilS], by simp [norP, h1, plDelta, plReln, plStr, plI, nilS, plS], ⟨by simp [okStr], ⟨trivial, ok_nilS⟩, ⟨trivial, ok_nilS⟩⟩, good_Delta0 B⟩
  simp [eReln, cI, pS, cP, s25_9, s25_15, ]
  have h1' := h1
  simp only [fitB, Bool.and_eq_true, decide_eq_true_eq] at h1'
  obtain ⟨⟨⟨⟨g1, g2⟩, g3⟩, g4⟩, g5⟩ := h1'
  have g0 := lk_ok g1
  rw [← hr] at g0
  rw [hXi] at g2
  rw [hXd] at g3
  simp only at g0 g2 g3
  have hrl := rowsOk_len g0
  have hil := rowsOk_len g2
  have hdl := rowsOk_len g3
  have hil' : il.length ≤ 4000 := by simpa using hil
  have hdl' : dl.length ≤ 4000 := by simpa using hdl
  have hi5 : ∀ y ∈ il, y.xs.length ≤ 4294967296 := fun y hy => by
    have := rowsOk_row g2 (plS plI y) (List.mem_map_of_mem hy)
    simp only [plS, List.length_map] at this; omega
  have hd5 : ∀ y ∈ dl, y.xs.length ≤ 4294967296 := fun y hy => by
    have := rowsOk_row g3 (plS plI y) (List.mem_map_of_mem hy)
    simp only [plS, List.length_map] at this; omega
  refine loop_ruleL (X := Nat × List Ints) (NorI (norI ⟨ra, rl⟩) (il.map (plS plI)) B) (fun p => [(3, .ptr 3 0 0), (4, .ptr 4 0 0), (6, .ptr 6 0 0), (8, .ptr 8 0 0), (33, .d (.sl iid iT (il.map (cS cI)))), (34, .d (.int .i64 il.length)), (35, .d (.int .i64 p.1))])
    (fun p => [(3, some (.box [.d (.str nm), .d (.int .i64 ia), .d (.sl iid iT (il.map (cS cI))), .d (.int .i64 da), .d (.sl did dT (dl.map (cS cI)))])), (4, some (.box [.d (.str []), .d (.int .i64 0), .d (.sl none none []), .d (.int .i64 0), .d (.sl none none [])])), (6, some (.box [.d (.int .i64 ra), .d (.pl (rl.map (cP cI)))])),
      (8, some (.box [.d (.str nm), .d (.int .i64 ra), .own 49 0 p.2.length, .d (.int .i64 ra), .d (.sl none none [])])), (49, some (.row 69 1 (p.2.map (cS cI))))]) (fun p => il.length - p.1) ?_ ?_
  · refine (lead_box 8 2 49 69 1 [.d (.str nm), .d (.int .i64 ra), .d (.sl none none []), .d (.int .i64 ra), .d (.sl none none [])] (by omega) (by omega) (by omega) (by simp) rfl).bind ?_
    rintro _ rfl
    exact Lead.of ⟨(0, []), .zero (by simp [norI]), rfl, rfl, Nat.le_refl _, by simp [dSl], by simp [cP, cI]⟩
  rintro ⟨i, ys⟩ hs t m hI hh
  have hile := hI.le
  simp only [List.length_map] at hile
  have hyl : ys.length ≤ i := by
    have e := congrArg List.length hI.pl
    have h2 := norI_len ⟨ra, rl⟩ ((il.map (plS plI)).take i)
    simp only [List.length_map] at e
    rw [List.length_take] at h2
    omega
  by_cases hlt : i < il.length
  · have hwi := wr1 (i := i) (by omega)
    have hlt' : i < (il.map (plS plI)).length := by simpa using hlt
    have hst := norI_step (r := ⟨ra, rl⟩) hlt'
    have hge : (il.map (plS plI))[i] = plS plI il[i] := by simp
    rw [hge] at hst
    have hmem := List.getElem_mem hlt
    have hL : LenOk 24 (ys.length + 1) := ⟨by omega, by simp only [maxLen]; omega⟩
    refine anyQ2 fun Q => ?_
    simp [hlt, cS, cI, s25_9, s25_15, ]
    refine call_f (w_impl_ContainsRow ⟨ra, rl⟩ (plS plI il[i]) (by show rl.length ≤ _; omega)) (by simp [eReln, pS, cP, cI, plS, erLL_map er_cI, map_plI, dSl]) rfl fun hs2 hh2 => ?_
    simp at hh2
    cases h2 : hasR ⟨ra, rl⟩ (plS plI il[i])
    · rw [h2] at hst
      simp only [Bool.false_eq_true, if_false] at hst
      simp [hlt, s25_9, s25_15, ]
      refine call_some (w_impl_copyInts il[i] (hx.2.1.2.2 _ hmem) (hi5 _ hmem)) (by simp [dSl]) (by simp) fun n3 hs3 r3 hn3 hm3 hp3 hr3 => ?_
      obtain ⟨y, rfl, hy1, hy2, hy3⟩ := hp3
      simp at hn3
      have hr3' : ∀ g ∈ idsL (cS cI y), g < hs3 := fun g hg => hr3 g (by rw [idsL_cS] at hg; exact hg)
      simp [cS, cI, dSl, hL, hwi, s25_9, s25_15, ]
      exact back2 (i + 1, ys ++ [y]) (hI.snoc hlt' (by rw [hst, hge]) (by rw [hy1, hge]) hy2 (by omega) hm3 hy3 hr3') (by simp only; omega) rfl (by simp <;> omega) (by simp) (by simp [cS, cI, dSl])
    · rw [h2] at hst
      simp only [if_true, List.append_nil] at hst
      simp [hwi, s25_9, s25_15, ]
      exact back2 (i + 1, ys) (hI.skip hlt' hst (by omega)) (by simp only; omega) rfl (by simp <;> omega) (by simp) (by simp [cS, cI, dSl])
  have hia : i = il.length := by omega
  have hpl1 : ys.map (plS plI) = norI ⟨ra, rl⟩ (il.map (plS plI)) := by
    have := hI.pl
    simp only at this
    rwa [List.take_of_length_le (by simp; omega)] at this
  simp [hlt, s25_9, s25_15, ]
  obtain ⟨H, hH⟩ : ∃ H, H = hs := ⟨_, rfl⟩
  have hhi : ∀ g ∈ idsLL (ys.map (cS cI)), g < H := fun g hg => by rw [hH]; exact hI.good.hi g hg
  have hHB : B ≤ H := by omega
  refine loop_ruleL (X := Nat × List Ints) (NorI (norD ⟨ra, rl⟩ X.ins) (dl.map (plS plI)) H) (fun p => [(3, .ptr 3 0 0), (4, .ptr 4 0 0), (6, .ptr 6 0 0), (8, .ptr 8 0 0), (55, .d (.sl did dT (dl.map (cS cI)))), (56, .d (.int .i64 dl.length)), (57, .d (.int .i64 p.1))])
    (fun p => [(3, some (.box [.d (.str nm), .d (.int .i64 ia), .d (.sl iid iT (il.map (cS cI))), .d (.int .i64 da), .d (.sl did dT (dl.map (cS cI)))])), (4, some (.box [.d (.str []), .d (.int .i64 0), .d (.sl none none []), .d (.int .i64 0), .d (.sl none none [])])), (6, some (.box [.d (.int .i64 ra), .d (.pl (rl.map (cP cI)))])),
      (8, some (.box [.d (.str nm), .d (.int .i64 ra), .own 49 0 ys.length, .d (.int .i64 ra), .own 77 0 p.2.length])), (49, some (.row 69 1 (ys.map (cS cI)))), (77, some (.row 69 1 (p.2.map (cS cI))))]) (fun p => dl.length - p.1) ?_ ?_
  · refine (lead_box 8 4 77 69 1 [.d (.str nm), .d (.int .i64 ra), .own 49 0 ys.length, .d (.int .i64 ra), .d (.sl none none [])] (by omega) (by omega) (by omega) (by simp) rfl).bind ?_
    rintro _ rfl
    exact Lead.of ⟨(0, []), .zero (by simp [norD]), rfl, rfl, Nat.le_refl _, by simp, by simp [cP, cI]⟩
  rintro ⟨k, zs⟩ hs t m hJ hh
  have hkle := hJ.le
  simp only [List.length_map] at hkle
  have hzl : zs.length ≤ k := by
    have e := congrArg List.length hJ.pl
    have h2 := norD_len ⟨ra, rl⟩ X.ins ((dl.map (plS plI)).take k)
    simp only [List.length_map] at e
    rw [List.length_take] at h2
    omega
  by_cases hkt : k < dl.length
  · have hwk := wr1 (i := k) (by omega)
    have hkt' : k < (dl.map (plS plI)).length := by simpa using hkt
    have hst := norD_step (r := ⟨ra, rl⟩) (s := X.ins) hkt'
    have hge : (dl.map (plS plI))[k] = plS plI dl[k] := by simp
    rw [hge] at hst
    have hmem := List.getElem_mem hkt
    have hL : LenOk 24 (zs.length + 1) := ⟨by omega, by simp only [maxLen]; omega⟩
    refine anyQ2 fun Q => ?_
    simp [hkt, cS, cI, s25_9, s25_15, ]
    refine call_f (w_impl_ContainsRow ⟨ra, rl⟩ (plS plI dl[k]) (by show rl.length ≤ _; omega)) (by simp [eReln, pS, cP, cI, plS, erLL_map er_cI, map_plI, dSl]) rfl fun hs2 hh2 => ?_
    simp at hh2
    cases h2 : hasR ⟨ra, rl⟩ (plS plI dl[k])
    · rw [h2, Bool.false_and] at hst
      simp only [Bool.false_eq_true, if_false, List.append_nil] at hst
      simp [hwk, s25_9, s25_15, ]
      exact back2 (k + 1, zs) (hJ.skip hkt' hst (by omega)) (by simp only; omega) rfl (by simp <;> omega) (by simp) (by simp [cS, cI, dSl])
    rw [h2, Bool.true_and] at hst
    simp [hkt, cS, cI, dSl, s25_9, s25_15, ]
    refine call_f (w_impl_ContainsRow X.ins (plS plI dl[k]) (by rw [hXi]; simp; omega)) (by simp [hXi, eReln, pS, cP, cI, plS, erLL_map er_cI, erLL_map (er_cS er_cI), map_plI, dSl]) rfl fun hs4 hh4 => ?_
    simp at hh4
    cases h4 : hasR X.ins (plS plI dl[k])
    · rw [h4] at hst
      simp only [Bool.not_false, if_true] at hst
      simp [hkt, s25_9, s25_15, ]
      refine call_some (w_impl_copyInts dl[k] (hx.2.2.2.2 _ hmem) (hd5 _ hmem)) (by simp [dSl]) (by simp) fun n3 hs3 r3 hn3 hm3 hp3 hr3 => ?_
      obtain ⟨y, rfl, hy1, hy2, hy3⟩ := hp3
      simp at hn3
      have hr3' : ∀ g ∈ idsL (cS cI y), g < hs3 := fun g hg => hr3 g (by rw [idsL_cS] at hg; exact hg)
      simp [cS, cI, dSl, hL, hwk, s25_9, s25_15, ]
      exact back2 (k + 1, zs ++ [y]) (hJ.snoc hkt' (by rw [hst, hge]) (by rw [hy1, hge]) hy2 (by omega) hm3 hy3 hr3') (by simp only; omega) rfl (by simp <;> omega) (by simp) (by simp [cS, cI, dSl])
    · rw [h4] at hst
      simp only [Bool.not_true, Bool.false_eq_true, if_false, List.append_nil] at hst
      simp [hwk, s25_9, s25_15, ]
      exact back2 (k + 1, zs) (hJ.skip hkt' hst (Nat.le_trans hh2 hh4)) (by simp only; omega) rfl (by simp <;> omega) (by simp) (by simp [cS, cI, dSl])
  have hpl2 : zs.map (plS plI) = norD ⟨ra, rl⟩ X.ins (dl.map (plS plI)) := by
    have := hJ.pl
    simp only at this
    rwa [List.take_of_length_le (by simp; omega)] at this
  simp [hkt, s25_9, s25_15, ]
  intro γ hs' h2' hg
  obtain ⟨q1, q2⟩ := gam_at hg (k := 49) (T := 69) (sz := 1) (es := ys.map (cS cI)) (by simp)
  obtain ⟨q3, q4⟩ := gam_at hg (k := 77) (T := 69) (sz := 1) (es := zs.map (cS cI)) (by simp)
  have r1 := gam_row hg (k := 49) (T := 69) (sz := 1) (es := ys.map (cS cI)) (by simp)
  have r2 := gam_row hg (k := 77) (T := 69) (sz := 1) (es := zs.map (cS cI)) (by simp)
  have r3 := gam_row2 hg (k := 49) (T := 69) (sz := 1) (es := ys.map (cS cI)) (k2 := 77) (T2 := 69) (sz2 := 1) (es2 := zs.map (cS cI)) (by simp) (by simp)
  have r4 := gam_row2 hg (k := 77) (T := 69) (sz := 1) (es := zs.map (cS cI)) (k2 := 49) (T2 := 69) (sz2 := 1) (es2 := ys.map (cS cI)) (by simp) (by simp)
  have r5 : ∀ g, γ 49 = some g → γ 77 = some g → False := fun g h h' => by
    have := hg.ne 49 77 (.row 69 1 (ys.map (cS cI))) (.row 69 1 (zs.map (cS cI))) g (by simp) (by simp) h h'
    omega
  clear hg
  have hp1 : ∀ l : List Ints, hpLL (l.map (cS cI)) = false := fun l => hpLL_map (fun a => by simp) _
  simp [hp1, List.take_of_length_le]
  refine ⟨⟨nm, ⟨ra, ⟨γ 49, some (69, 1), ys⟩⟩, ⟨ra, ⟨γ 77, some (69, 1), zs⟩⟩⟩, by simp, ?_, ⟨hx.1, ⟨trivial, ⟨by simp only [maxLen]; show ys.length ≤ _; omega, hI.ok⟩⟩, ⟨trivial, ⟨by simp only [maxLen]; show zs.length ≤ _; omega, hJ.ok⟩⟩⟩, ?_⟩
  · have e : norP (plDb d) X = ⟨X.name, ⟨ra, norI ⟨ra, rl⟩ X.ins.rows⟩, ⟨ra, norD ⟨ra, rl⟩ X.ins X.del.rows⟩⟩ := by
      simp only [norP, h1, if_true, ← hr]
    have e2 : plDelta ⟨nm, ⟨ra, ⟨γ 49, some (69, 1), ys⟩⟩, ⟨ra, ⟨γ 77, some (69, 1), zs⟩⟩⟩ = ⟨nm, ⟨ra, ys.map (plS plI)⟩, ⟨ra, zs.map (plS plI)⟩⟩ := rfl
    rw [e, e2, hXn, hXi, hXd, hpl1, hpl2, hXi]
  · have := good_Delta2 (nm := nm) (a1 := ra) (a2 := ra) (T1 := (69, 1)) (T2 := (69, 1)) hI.good.nd (hI.good.lo) hI.good.wh hJ.good.nd (fun g hg => by have := hJ.good.lo g hg; omega) hJ.good.wh
      (fun g hg hg' => by have a1 := hhi g hg; have a2 := hJ.good.lo g hg'; omega) (fun g h => ⟨(q1 g h).1, r1 g h, r3 g h⟩) (by simpa using q2) (fun g h => ⟨(q3 g h).1, r2 g h, r4 g h⟩) (by simpa using q4) r5
    exact this

end Go.Proofs.Ytninbnbgaeailaa

namespace Go.Proofs.Ytninbnbgaeailaa
open Go.Vs Go.Proofs Go
set_option maxRecDepth 100000
set_option maxHeartbeats 1000000

section
attribute [local simp] plI_id plStr_id map_plI map_plStr
theorem e_impl_copyInts (l : List Int) (hb : l.length ≤ 4294967296) :
   VC Try.prog 48 [.d (pS cI l)] (fun n r => ∃ y : Ints, r = .d (dSl cI y) ∧ plS plI y = l ∧ okS okI y ∧ Good (cS cI y) (whS whI y) n) := by
  refine VC.of E s48 (by kernel_rfl) Try.func48 (by rfl) (by kernel_rfl) (by simp [Try.f48]) (by simp [Try.f48]) s48_ok fun B => ?_
  have hL : LenOk 8 l.length := ⟨by omega, by simp only [maxLen]; omega⟩
  simp [Try.f48, pS, hL, cI]
  intro γ hs' h1 hg
  obtain ⟨q1, q2⟩ := gam_at hg (k := 3) (T := 3) (sz := 1) (es := l.map cI) (by simp [cI])
  have q3 := gam_row hg (k := 3) (T := 3) (sz := 1) (es := l.map cI) (by simp [cI])
  clear hg
  have hp : hpLL (l.map cI) = false := hpLL_mapI l
  refine ⟨⟨γ 3, some (3, 1), l⟩, by simp [dSl, List.take_of_length_le, cI], by simp [plS], ⟨by simp only [maxLen]; omega, fun _ _ => trivial⟩, good_row (fun g hg => (q1 g hg).1) (by simpa using q2) q3 ⟨by simp, by simp⟩ (by simp [whI])⟩
theorem e_impl_copyRowsT (l : List (List Int)) (hb : l.length ≤ 4294967296) (hb2 : ∀ r ∈ l, r.length ≤ 4294967296) :
   VC Try.prog 61 [.d (pS (cP cI) l)] (fun n r => ∃ y : Sl Ints, r = .d (dSl (cS cI) y) ∧ plS (plS plI) y = l ∧ okS (okS okI) y ∧ Good (cS (cS cI) y) (whS (whS whI) y) n ∧ y.T = some (69, 1)) := by
  refine VC.of E s61 (by kernel_rfl) Try.func61 (by rfl) (by kernel_rfl) (by simp [Try.f61]) (by simp [Try.f61]) s61_ok fun B => ?_
  simp [Try.f61, pS]
  refine loop_ruleL (X := Nat × List Ints) (CopI (cS cI) (whS whI) (okS okI) (plS plI) l B) (fun p => [(3, .own 16 0 p.2.length), (6, .d (.pl (l.map (cP cI)))), (7, .d (.int .i64 l.length)), (8, .d (.int .i64 p.1))]) (fun p => [(16, some (.row 69 1 (p.2.map (cS cI))))]) (fun p => l.length - p.1) ?_ ?_
  · refine (lead_slot 3 16 69 1 (by omega) (by omega) (by simp)).bind ?_
    rintro _ rfl
    exact Lead.of ⟨(0, []), .zero, rfl, rfl, Nat.le_refl _, by simp, by simp⟩
  rintro ⟨i, ys⟩ hs t m hI hh
  have hle := hI.le
  have hyl := hI.len
  simp only at hle
  by_cases hlt : i < l.length
  · have hwi := wr1 (i := i) (by omega)
    have hL : LenOk 24 (ys.length + 1) := ⟨by omega, by simp only [maxLen]; omega⟩
    simp [hlt, cP, pS, ]
    refine call_some (e_impl_copyInts l[i] (hb2 _ (List.getElem_mem hlt))) (by simp [pS]) (by simp) fun n hs' r hn hn' hp hr => ?_
    obtain ⟨y, rfl, hy1, hy2, hy3⟩ := hp
    simp at hn
    have hr' : ∀ g ∈ idsL (cS cI y), g < hs' := fun g hg => hr g (by rw [idsL_cS] at hg; exact hg)
    simp [cS, dSl, hL, hwi, ]
    exact back2 (i + 1, ys ++ [y]) (hI.snoc hlt hy1 hy2 (by omega) hn' hy3 hr') (by simp only; omega) rfl (by simp <;> omega) (by simp [cP, pS]) (by simp [cS, dSl])
  · have hall := hI.all (by omega)
    simp [hlt, ]
    intro γ hs' h1 hg
    obtain ⟨q1, q2⟩ := gam_at hg (k := 16) (T := 69) (sz := 1) (es := ys.map (cS cI)) (by simp)
    have q3 := gam_row hg (k := 16) (T := 69) (sz := 1) (es := ys.map (cS cI)) (by simp)
    clear hg
    have hp : hpLL (ys.map (cS cI)) = false := hpLL_mapS ys
    refine ⟨⟨γ 16, some (69, 1), ys⟩, by simp [dSl, List.take_of_length_le], by simpa [plS] using hall, ⟨by simp only [maxLen]; show ys.length ≤ _; omega, hI.ok⟩, good_row (fun g hg => (q1 g hg).1) (by simpa using q2) q3 ⟨hI.good.nd, hI.good.lo⟩ hI.good.wh, rfl⟩
theorem e_impl_copyRows (l : List (List Int)) (hb : l.length ≤ 4294967296) (hb2 : ∀ r ∈ l, r.length ≤ 4294967296) :
   VC Try.prog 61 [.d (pS (cP cI) l)] (fun n r => ∃ y : Sl Ints, r = .d (dSl (cS cI) y) ∧ plS (plS plI) y = l ∧ okS (okS okI) y ∧ Good (cS (cS cI) y) (whS (whS whI) y) n) :=
  (e_impl_copyRowsT l hb hb2).weak fun _ _ ⟨y, h1, h2, h3, h4, _⟩ => ⟨y, h1, h2, h3, h4⟩
theorem e_impl_copyRows0 : VC Try.prog 61 [.d (pS (cP cI) [])] (fun _ r => r = .d (.sl none none [])) := by
  refine VC.of E s61 (by kernel_rfl) Try.func61 (by rfl) (by kernel_rfl) (by simp [Try.f61]) (by simp [Try.f61]) s61_ok fun B => ?_
  simp [Try.f61, pS]
  refine loop_rule (X := Unit) (fun _ => True) (fun _ => [(3, .d (.sl none none [])), (6, .d (.pl [])), (7, .d (.int .i64 0)), (8, .d (.int .i64 0))]) (fun _ => []) (fun _ => 0) () trivial (by simp) (by simp) ?_
  intro i hs t m hi hh
  simp []
theorem e_impl_copyRelation (r : PReln) (hb : r.rows.length ≤ 4294967296) (hb2 : ∀ x ∈ r.rows, x.length ≤ 4294967296) :
   VC Try.prog 37 [.agg ((eReln r).map V.d)] (fun n v => ∃ y : Reln, v = .agg ((cReln y).map V.d) ∧ plReln y = r ∧ okReln y ∧ Good (cReln y) (whReln y) n) := by
  refine VC.of E s37 (by kernel_rfl) Try.func37 (by rfl) (by kernel_rfl) (by simp [Try.f37]) (by simp [Try.f37]) s37_ok fun B => ?_
  simp [Try.f37, s37_1, s37_1, eReln, cI, cP]
  refine call_some (e_impl_copyRows r.rows hb hb2) (by simp [pS]) (by simp) fun n1 hs1 r1 hn1 hm1 hp1 hr1 => ?_
  obtain ⟨y, rfl, p1, k1, G1⟩ := hp1
  simp at hn1
  simp [s37_1, ]
  exact ⟨⟨r.ar, y⟩, by simp [cReln, cI, cS], by rw [plReln]; simp only; rw [p1]; rfl, ⟨trivial, k1⟩, good_Reln G1 (by omega)⟩
end

end Go.Proofs.Ytninbnbgaeailaa

namespace Go.Proofs.Ytninbnbgaeailaa
open Go.Vs Go.Proofs Go
set_option maxRecDepth 100000
set_option maxHeartbeats 1000000

theorem w_spec_l5Sort : ∀ (n : Nat) (l : List (List Int)), l.length ≤ n → l.length ≤ 4294967296 → VC Try.prog 80 [.d (pS (cP cI) l)] (fun _ r => r = .d (pS (cP cI) (srtU l))) := by
  intro n
  induction n with
  | zero =>
    intro l hn hb
    have : l = [] := List.length_eq_zero_iff.1 (by omega)
    subst this
    refine VC.ofL EP s80 (by kernel_rfl) Try.func80 (by rfl) (by kernel_rfl) (by simp [Try.f80]) (by simp [Try.f80]) s80_ok fun B hl => ?_
    simp [Try.f80, s80_13, srtU]
  | succ n ih =>
  intro l hn hb
  refine VC.ofL EP s80 (by kernel_rfl) Try.func80 (by rfl) (by kernel_rfl) (by simp [Try.f80]) (by simp [Try.f80]) s80_ok fun B hl => ?_
  by_cases h2 : l.length < 2
  · have e : srtU l = l := srtU_id (by
      match l, h2 with
      | [], _ => exact .nil
      | [_], _ => simp
      | _ :: _ :: _, h => simp only [List.length_cons] at h; omega)
    simp [Try.f80, s80_13, show ((l.length : Int) < 2) by omega, e]
  obtain ⟨k, hk⟩ : ∃ k, k = l.length / 2 := ⟨_, rfl⟩
  have hm : IntKind.i64.wrap ((l.length : Int) / 2) = (k : Int) := by rw [wrap64_of (by omega) (by omega)]; omega
  simp [Try.f80, s80_13, show ¬ ((l.length : Int) < 2) by omega, hm, show k ≤ l.length by omega]
  refine call_p (ih (l.take k) (by simp; omega) (by simp; omega)) (by simp [List.map_take]) fun hs1 hh1 _ => ?_
  simp at hh1
  simp [hm, show k ≤ l.length by omega, List.take_of_length_le]
  refine call_p (ih (l.drop k) (by simp; omega) (by simp; omega)) (by simp [List.map_drop]) fun hs2 hh2 _ => ?_
  simp at hh2
  simp
  have hst := MI.start l k
  generalize srtU (l.take k) = a0 at hst
  generalize srtU (l.drop k) = b0 at hst
  refine loop_rule (X := List (List Int) × List (List Int) × List (List Int)) (fun p => MI l p.1 p.2.1 p.2.2)
    (fun p => [(4, .d (.pl (p.1.map (cP cI)))), (5, .d (.pl (p.2.1.map (cP cI)))), (6, .own 24 0 p.2.2.length)]) (fun p => [(24, some (.row 69 1 (p.2.2.map (cP cI))))]) (fun p => p.1.length + p.2.1.length) (a0, b0, []) hst (by simp) (by simp) ?_
  rintro ⟨a, b, out⟩ hs t m hI hh
  simp only at hI
  have hlen := hI.len
  have hL24 : LenOk 24 1 := ⟨by omega, by simp only [maxLen]; omega⟩
  have hpa : ∀ a : List (List Int), (0 : Int) < (a.length : Int) + 1 := fun a => by omega
  have hpb : ∀ a : List (List Int), ¬ (a.length : Int) + 1 = 0 := fun a => by omega
  have hqa : (0 : Int) < 1 := by omega
  have hqb : ¬ (0 : Int) < -1 := by omega
  rcases a with _ | ⟨x, a⟩
  · rcases b with _ | ⟨y, b⟩
    · have hd := hI.done
      subst hd
      simp [List.take_of_length_le]
    · refine anyQ fun Q => ?_
      have hc0 : True := trivial
      have hI' := hI.swap
      have hL := hI'.left (by simp)
      rcases nil_or_snoc out with rfl | ⟨o, z, rfl⟩
      · simp [hc0, hpa, hpb, hqa, hqb, List.take_of_length_le, cP, hL24, s80_13, ]
        exact back ([], b, [y]) (MI.swap (hL.2 (by simp))) (by simp <;> omega) rfl (by simp <;> omega) (by simp) (by simp)
      · simp only [List.length_append, List.length_cons, List.length_nil] at hlen
        have hw : IntKind.i64.wrap (o.length : Int) = o.length := wrap64_of (by omega) (by omega)
        have hix : (o.map (cP cI) ++ [[D.pl (z.map cI)]])[o.length]? = some [D.pl (z.map cI)] := by rw [List.getElem?_append_right (by simp)]; simp
        simp [hc0, hpa, hpb, hqa, hqb, List.take_of_length_le, hw, hix, cP, s80_13, ]
        refine call_f (w_spec_CompareRows z y) (by simp) rfl fun hs3 hh3 => ?_
        simp at hh3
        by_cases e : z = y
        · subst e
          simp [cmpL_self]
          exact back ([], b, o ++ [z]) (MI.swap (hL.1 (hI'.last.2 rfl))) (by simp <;> omega) rfl (by simp <;> omega) (by simp) (by simp)
        · have e' : ¬ cmpL z y = 0 := fun h => e ((cmpL_zero _ _).1 h)
          simp [e', show LenOk 24 (o.length + 1 + 1) from ⟨by omega, by simp only [maxLen]; omega⟩, cP]
          exact back ([], b, o ++ [z] ++ [y]) (MI.swap (hL.2 fun h => e (hI'.last.1 h))) (by simp <;> omega) rfl (by simp <;> omega) (by simp) (by simp)
  · rcases b with _ | ⟨y, b⟩
    · refine anyQ fun Q => ?_
      have hc0 : True := trivial
      have hL := hI.left (by simp)
      rcases nil_or_snoc out with rfl | ⟨o, z, rfl⟩
      · simp [hc0, hpa, hpb, hqa, hqb, List.take_of_length_le, cP, hL24, s80_13, ]
        exact back (a, [], [x]) ((hL.2 (by simp))) (by simp <;> omega) rfl (by simp <;> omega) (by simp) (by simp)
      · simp only [List.length_append, List.length_cons, List.length_nil] at hlen
        have hw : IntKind.i64.wrap (o.length : Int) = o.length := wrap64_of (by omega) (by omega)
        have hix : (o.map (cP cI) ++ [[D.pl (z.map cI)]])[o.length]? = some [D.pl (z.map cI)] := by rw [List.getElem?_append_right (by simp)]; simp
        simp [hc0, hpa, hpb, hqa, hqb, List.take_of_length_le, hw, hix, cP, s80_13, ]
        refine call_f (w_spec_CompareRows z x) (by simp) rfl fun hs3 hh3 => ?_
        simp at hh3
        by_cases e : z = x
        · subst e
          simp [cmpL_self]
          exact back (a, [], o ++ [z]) ((hL.1 (hI.last.2 rfl))) (by simp <;> omega) rfl (by simp <;> omega) (by simp) (by simp)
        · have e' : ¬ cmpL z x = 0 := fun h => e ((cmpL_zero _ _).1 h)
          simp [e', show LenOk 24 (o.length + 1 + 1) from ⟨by omega, by simp only [maxLen]; omega⟩, cP]
          exact back (a, [], o ++ [z] ++ [x]) ((hL.2 fun h => e (hI.last.1 h))) (by simp <;> omega) rfl (by simp <;> omega) (by simp) (by simp)
    · refine anyQ fun Q => ?_
      simp [cP, hpa, hpb, s80_13, ]
      refine call_f (w_spec_CompareRows x y) (by simp) rfl fun hs0 hh0 => ?_
      simp at hh0
      by_cases hc0 : 0 < cmpL x y
      · have hI' := hI.swap
        have hL := hI'.left (hI.hr hc0)
        rcases nil_or_snoc out with rfl | ⟨o, z, rfl⟩
        · simp [hc0, hpa, hpb, hqa, hqb, List.take_of_length_le, cP, hL24, s80_13, ]
          exact back ((x :: a), b, [y]) (MI.swap (hL.2 (by simp))) (by simp <;> omega) rfl (by simp <;> omega) (by simp) (by simp)
        · simp only [List.length_append, List.length_cons, List.length_nil] at hlen
          have hw : IntKind.i64.wrap (o.length : Int) = o.length := wrap64_of (by omega) (by omega)
          have hix : (o.map (cP cI) ++ [[D.pl (z.map cI)]])[o.length]? = some [D.pl (z.map cI)] := by rw [List.getElem?_append_right (by simp)]; simp
          simp [hc0, hpa, hpb, hqa, hqb, List.take_of_length_le, hw, hix, cP, s80_13, ]
          refine call_f (w_spec_CompareRows z y) (by simp) rfl fun hs3 hh3 => ?_
          simp at hh3
          by_cases e : z = y
          · subst e
            simp [cmpL_self]
            exact back ((x :: a), b, o ++ [z]) (MI.swap (hL.1 (hI'.last.2 rfl))) (by simp <;> omega) rfl (by simp <;> omega) (by simp) (by simp)
          · have e' : ¬ cmpL z y = 0 := fun h => e ((cmpL_zero _ _).1 h)
            simp [e', show LenOk 24 (o.length + 1 + 1) from ⟨by omega, by simp only [maxLen]; omega⟩, cP]
            exact back ((x :: a), b, o ++ [z] ++ [y]) (MI.swap (hL.2 fun h => e (hI'.last.1 h))) (by simp <;> omega) rfl (by simp <;> omega) (by simp) (by simp)
      · 
        have hL := hI.left (hI.hl hc0)
        rcases nil_or_snoc out with rfl | ⟨o, z, rfl⟩
        · simp [hc0, hpa, hpb, hqa, hqb, List.take_of_length_le, cP, hL24, s80_13, ]
          exact back (a, (y :: b), [x]) ((hL.2 (by simp))) (by simp <;> omega) rfl (by simp <;> omega) (by simp) (by simp)
        · simp only [List.length_append, List.length_cons, List.length_nil] at hlen
          have hw : IntKind.i64.wrap (o.length : Int) = o.length := wrap64_of (by omega) (by omega)
          have hix : (o.map (cP cI) ++ [[D.pl (z.map cI)]])[o.length]? = some [D.pl (z.map cI)] := by rw [List.getElem?_append_right (by simp)]; simp
          simp [hc0, hpa, hpb, hqa, hqb, List.take_of_length_le, hw, hix, cP, s80_13, ]
          refine call_f (w_spec_CompareRows z x) (by simp) rfl fun hs3 hh3 => ?_
          simp at hh3
          by_cases e : z = x
          · subst e
            simp [cmpL_self]
            exact back (a, (y :: b), o ++ [z]) ((hL.1 (hI.last.2 rfl))) (by simp <;> omega) rfl (by simp <;> omega) (by simp) (by simp)
          · have e' : ¬ cmpL z x = 0 := fun h => e ((cmpL_zero _ _).1 h)
            simp [e', show LenOk 24 (o.length + 1 + 1) from ⟨by omega, by simp only [maxLen]; omega⟩, cP]
            exact back (a, (y :: b), o ++ [z] ++ [x]) ((hL.2 fun h => e (hI.last.1 h))) (by simp <;> omega) rfl (by simp <;> omega) (by simp) (by simp)

end Go.Proofs.Ytninbnbgaeailaa

namespace Go.Proofs.Ytninbnbgaeailaa
open Go.Vs Go.Proofs Go
set_option maxRecDepth 100000
set_option maxHeartbeats 1000000

theorem w_spec_NewRelation (ar : Int) (l : List (List Int)) (hb : l.length ≤ 4294967296) (hn : ∀ x ∈ l, x.length ≤ 4294967296) : VC Try.prog 66 [.d (.int .i64 ar), .d (pS (cP cI) l)] (fun _ v => v = .tup [.agg ((eReln (newR ar l)).map .d), .d (.bool (newB ar l))]) := by
  refine VC.ofL EP s66 (by kernel_rfl) Try.func66 (by rfl) (by kernel_rfl) (by simp [Try.f66]) (by simp [Try.f66]) s66_ok fun B hl => ?_
  simp [Try.f66, eReln]
  refine loop_rule (X := Nat) (fun i => i ≤ l.length ∧ AllTo (fun r : List Int => decide ((r.length : Int) = ar) && valsOk r) l i) (fun i => [(0, .d (.int .i64 ar)), (1, .d (.pl (l.map (cP cI)))), (4, .ptr 4 0 0), (6, .d (.int .i64 i))])
    (fun i => [(4, some (.box [.d (.int .i64 0), .d (.sl none none [])]))]) (fun i => l.length - i) 0 ⟨by simp, allTo_zero⟩ (by simp) (by simp) ?_
  intro i hs t m hi hh
  by_cases hlt : i < l.length
  · have hwi := wr1 (i := i) (by omega)
    by_cases hln : (l[i].length : Int) = ar
    · simp [hlt, hln, cP, ]
      refine call_f (w_spec_AreValidValues l[i]) (by simp) rfl fun hs1 hh1 => ?_
      simp at hh1
      cases hv : valsOk l[i]
      · have hbad := all_bad (p := fun r : List Int => decide ((r.length : Int) = ar) && valsOk r) hlt (by simp [hv])
        simp [newR, newB, hbad, eReln]
      · simp [hwi]
        exact back (i + 1) ⟨by omega, allTo_step hi.2 hlt (by simp [hv, hln])⟩ (by omega) rfl (by simp <;> omega) (by simp) (by simp)
    · have hbad := all_bad (p := fun r : List Int => decide ((r.length : Int) = ar) && valsOk r) hlt (by simp [hln])
      simp [hlt, hln, newR, newB, hbad, eReln, ]
  · have hd := allTo_done hi.2 (by omega)
    have hsl := srtU_len l
    simp [hlt, ]
    refine call_p (w_spec_l5Sort _ l (Nat.le_refl _) hb) (by simp) fun hs1 hh1 _ => ?_
    simp at hh1
    simp []
    refine call_p (w_spec_l5Copy ⟨ar, srtU l⟩ (by simp; omega) (fun x hx => hn x ((srtU_mem l x).1 hx))) (by simp [eReln]) fun hs2 hh2 _ => ?_
    simp at hh2
    simp [eReln]
    refine call_f (w_spec_IsValidRelation ⟨ar, srtU l⟩) (by simp [eReln]) rfl fun hs3 hh3 => ?_
    simp at hh3
    cases h1 : rowsOk ar (srtU l)
    · simp [newR, newB, h1, eReln]
    · simp [newR, newB, h1, hd, eReln]

end Go.Proofs.Ytninbnbgaeailaa

namespace Go.Proofs.Ytninbnbgaeailaa
open Go.Vs Go.Proofs Go
set_option maxRecDepth 100000
set_option maxHeartbeats 1000000

section
attribute [local simp] plI_id plStr_id map_plI map_plStr pS cP cI cStr cU8 cB
theorem q_impl_Difference (a b : PReln) : VC Try.prog 31 [.agg ((eReln a).map V.d), .agg ((eReln b).map V.d)] (fun _ v => v = .tup [.agg ((eReln (difR a b)).map V.d), .d (.bool (difB a b))]) := by
  refine VC.ofL EP s31 (by kernel_rfl) Try.func31 (by rfl) (by kernel_rfl) (by simp [Try.f31]) (by simp [Try.f31]) s31_ok fun B hl => ?_
  obtain ⟨aa, al⟩ := a
  obtain ⟨ba, bl⟩ := b
  simp [Try.f31, s31_8, eReln]
  refine call_f (w_impl_IsValidRelation ⟨aa, al⟩) (by simp [eReln]) rfl fun hs1 hh1 => ?_
  simp at hh1
  cases h1 : rowsOk aa al
  · simp [difR, difB, h1, eReln]
  simp
  refine call_f (w_impl_IsValidRelation ⟨ba, bl⟩) (by simp [eReln]) rfl fun hs2 hh2 => ?_
  simp at hh2
  cases h2 : rowsOk ba bl
  · simp [difR, difB, h1, h2, eReln]
  by_cases h3 : aa = ba
  case neg => simp [difR, difB, h1, h2, h3, eReln]
  subst h3
  have hdb : difB ⟨aa, al⟩ ⟨aa, bl⟩ = true := by simp [difB, h1, h2]
  have hdr : difR ⟨aa, al⟩ ⟨aa, bl⟩ = ⟨aa, difL al bl⟩ := by simp only [difR, hdb, if_true]
  rw [hdb, hdr]
  have hal := rowsOk_len h1
  have hbl := rowsOk_len h2
  have hrow := rowsOk_row h1
  simp
  refine loop_ruleL (X := Nat) (fun i _ => i ≤ al.length) (fun i => [(2, .ptr 2 0 0), (3, .ptr 3 0 0), (4, .ptr 4 0 0), (6, .ptr 6 0 0), (29, .d (.pl (al.map (cP cI)))), (30, .d (.int .i64 al.length)), (31, .d (.int .i64 i))])
    (fun i => [(2, some (.box [.d (.int .i64 aa), .d (.pl (al.map (cP cI)))])), (3, some (.box [.d (.int .i64 aa), .d (.pl (bl.map (cP cI)))])), (4, some (.box [.d (.int .i64 0), .d (.sl none none [])])), (6, some (.box [.d (.int .i64 aa), .own 44 0 (difL (al.take i) bl).length])), (44, some (.row 69 1 ((difL (al.take i) bl).map (cP cI))))]) (fun i => al.length - i) ?_ ?_
  · refine (lead_box 6 1 44 69 1 [.d (.int .i64 aa), .d (.sl none none [])] (by omega) (by omega) (by omega) (by simp) rfl).bind ?_
    rintro _ rfl
    exact Lead.of ⟨0, by omega, rfl, rfl, Nat.le_refl _, by simp, by simp [difL]⟩
  intro i hs t m hi hh
  by_cases hlt : i < al.length
  · have hwi := wr1 (i := i) (by omega)
    have hst := difL_step (b := bl) hlt
    have hdl := difL_len (al.take i) bl
    rw [List.length_take] at hdl
    have hL1 : LenOk 8 al[i].length := by
      have := hrow _ (List.getElem_mem hlt)
      exact ⟨by omega, by simp only [maxLen]; omega⟩
    have hL2 : LenOk 24 ((difL (al.take i) bl).length + 1) := ⟨by omega, by simp only [maxLen]; omega⟩
    simp [hlt, s31_8, ]
    refine call_f (VC.to (w_impl_ContainsRow ⟨aa, bl⟩ al[i] (by show bl.length ≤ _; omega)) (show _ = V.d (.bool (placeB bl al[i])) by simp [hasR, h2])) (by simp [eReln]) rfl fun hs3 hh3 => ?_
    simp at hh3
    cases h4 : placeB bl al[i]
    · rw [h4] at hst
      simp only [Bool.false_eq_true, if_false] at hst
      simp [hlt, s31_8, ]
      refine call_p (q_impl_copyInts al[i] (by have := hrow _ (List.getElem_mem hlt); omega)) (by simp) fun hs4 hh4 hl4 => ?_
      simp at hh4
      simp [hwi, hL2, s31_8, ]
      exact back2 (i + 1) (by omega) (by omega) rfl (by simp <;> omega) (by simp) (by simp [hst])
    · rw [h4] at hst
      simp only [if_true, List.append_nil] at hst
      simp [hwi, s31_8, ]
      exact back2 (i + 1) (by omega) (by omega) rfl (by simp <;> omega) (by simp) (by simp [hst])
  · have hn : i = al.length := by omega
    subst hn
    simp [List.take_of_length_le]
theorem w_spec_Union (a b : PReln) : VC Try.prog 46 [.agg ((eReln a).map V.d), .agg ((eReln b).map V.d)] (fun _ v => v = .tup [.agg ((eReln (uniR a b)).map V.d), .d (.bool (uniB a b))]) := by
  refine VC.ofL EP s46 (by kernel_rfl) Try.func46 (by rfl) (by kernel_rfl) (by simp [Try.f46]) (by simp [Try.f46]) s46_ok fun B hl => ?_
  obtain ⟨aa, al⟩ := a
  obtain ⟨ba, bl⟩ := b
  simp [Try.f46, s46_3, eReln]
  refine call_f (w_spec_IsValidRelation ⟨aa, al⟩) (by simp [eReln]) rfl fun hs1 hh1 => ?_
  simp at hh1
  cases h1 : rowsOk aa al
  · simp [uniR, uniB, difB, h1, eReln]
  simp
  refine call_f (w_spec_IsValidRelation ⟨ba, bl⟩) (by simp [eReln]) rfl fun hs2 hh2 => ?_
  simp at hh2
  cases h2 : rowsOk ba bl
  · simp [uniR, uniB, difB, h1, h2, eReln]
  by_cases h3 : aa = ba
  case neg => simp [uniR, uniB, difB, h1, h2, h3, eReln]
  subst h3
  have hdb : difB ⟨aa, al⟩ ⟨aa, bl⟩ = true := by simp [difB, h1, h2]
  obtain ⟨z1, z2, z3, z4⟩ := difB_len hdb
  simp only at z3 z4
  have hL1 : LenOk 24 al.length := ⟨by omega, by simp only [maxLen]; omega⟩
  have hL2 : LenOk 24 (al.length + bl.length) := ⟨by omega, by simp only [maxLen]; omega⟩
  have hN := w_spec_NewRelation aa (al ++ bl) (by simp; omega) (fun x hx => by
    rcases List.mem_append.1 hx with h | h
    · exact z1.2 x h
    · exact z2.2 x h)
  simp [hL1, hL2, List.take_of_length_le, s46_3, ]
  repeat' apply And.intro
  all_goals
    refine call_p hN (by simp [List.take_of_length_le]) fun hs3 hh3 hl3 => ?_
    simp [uniR, uniB, hdb, eReln, s46_3, ]
end

end Go.Proofs.Ytninbnbgaeailaa

namespace Go.Proofs.Ytninbnbgaeailaa
open Go.Vs Go.Proofs Go
set_option maxRecDepth 100000
set_option maxHeartbeats 1000000

theorem e_impl_sorted : ∀ (n : Nat) (l : List (List Int)), l.length ≤ n → l.length ≤ 4294967296 → (∀ r ∈ l, r.length ≤ 4294967296) →
   VC Try.prog 77 [.d (pS (cP cI) l)] (fun m r => ∃ y : Sl Ints, r = .d (dSl (cS cI) y) ∧ plS (plS plI) y = srtU l ∧ okS (okS okI) y ∧ Good (cS (cS cI) y) (whS (whS whI) y) m) := by
  intro n
  induction n with
  | zero =>
    intro l hn hb hb2
    have : l = [] := List.length_eq_zero_iff.1 (by omega)
    subst this
    refine VC.of E s77 (by kernel_rfl) Try.func77 (by rfl) (by kernel_rfl) (by simp [Try.f77]) (by simp [Try.f77]) s77_ok fun B => ?_
    simp [Try.f77, s77_4, s77_11, s77_4, s77_11, pS]
    refine call_some (e_impl_copyRows [] (by simp) (by simp)) (by simp [pS]) (by simp) fun n1 hs1 r1 hn1 hm1 hp1 hr1 => ?_
    obtain ⟨y, rfl, p1, k1, G1⟩ := hp1
    simp at hn1
    simp
    exact ⟨y, rfl, by rw [p1]; rfl, k1, G1.le (by omega)⟩
  | succ n ih =>
  intro l hn hb hb2
  refine VC.of E s77 (by kernel_rfl) Try.func77 (by rfl) (by kernel_rfl) (by simp [Try.f77]) (by simp [Try.f77]) s77_ok fun B => ?_
  by_cases h2 : l.length < 2
  · have e : srtU l = l := srtU_id (by
      match l, h2 with
      | [], _ => exact .nil
      | [_], _ => simp
      | _ :: _ :: _, h => simp only [List.length_cons] at h; omega)
    simp [Try.f77, s77_4, s77_11, s77_4, s77_11, pS, show ((l.length : Int) < 2) by omega]
    refine call_some (e_impl_copyRows l hb hb2) (by simp [pS]) (by simp) fun n1 hs1 r1 hn1 hm1 hp1 hr1 => ?_
    obtain ⟨y, rfl, p1, k1, G1⟩ := hp1
    simp at hn1
    simp
    exact ⟨y, rfl, by rw [p1, e], k1, G1.le (by omega)⟩
  obtain ⟨k, hk⟩ : ∃ k, k = l.length / 2 := ⟨_, rfl⟩
  have hm : IntKind.i64.wrap ((l.length : Int) / 2) = (k : Int) := by rw [wrap64_of (by omega) (by omega)]; omega
  have hkl : k ≤ l.length := by omega
  simp [Try.f77, s77_4, s77_11, s77_4, s77_11, pS, show ¬ ((l.length : Int) < 2) by omega, hm, hkl]
  have hA := ih (l.take k) (by simp; omega) (by simp; omega) (fun r hr => hb2 r (List.mem_of_mem_take hr))
  have hB' := ih (l.drop k) (by simp; omega) (by simp; omega) (fun r hr => hb2 r (List.mem_of_mem_drop hr))
  simp only [pS, List.map_take] at hA
  simp only [pS, List.map_drop] at hB'
  refine call_some hA (by simp) (by simp) fun n1 hs1 r1 hn1 hm1 hp1 hr1 => ?_
  obtain ⟨ya, rfl, p1, k1, G1⟩ := hp1
  simp at hn1
  simp [hm, hkl, List.take_of_length_le, s77_4, s77_11, ]
  refine call_some hB' (by simp) (by simp) fun n2 hs2 r2 hn2 hm2 hp2 hr2 => ?_
  obtain ⟨yb, rfl, p2, k2, G2⟩ := hp2
  simp at hn2
  have hst := MJ.start l k
  rw [← p1, ← p2] at hst
  obtain ⟨aid, aT, as_⟩ := ya
  obtain ⟨bid, bT, bs_⟩ := yb
  have u1 : ∀ g ∈ idsLL (as_.map (cS cI)), g < hs1 := fun g hg => hr1 g (by rw [V.ids]; exact mem_sl_ids.2 (.inr hg))
  have own0 : OwnR B ([] ++ (as_ ++ bs_)) := by
    have g1 := G1.nd
    have g2 := G2.nd
    rw [idsL_cS] at g1 g2
    have h1 := (sl_nd g1).1
    have h2 := (sl_nd g2).1
    have e : idsLL ((as_ ++ bs_).map (cS cI)) = idsLL (as_.map (cS cI)) ++ idsLL (bs_.map (cS cI)) := by rw [List.map_append, idsLL_append]
    have l1 : ∀ g ∈ idsLL (as_.map (cS cI)), B ≤ g := fun g hg => by have := G1.lo g (by rw [idsL_cS]; exact mem_sl_ids.2 (.inr hg)); omega
    have l2 : ∀ g ∈ idsLL (bs_.map (cS cI)), n2 ≤ g := fun g hg => G2.lo g (by rw [idsL_cS]; exact mem_sl_ids.2 (.inr hg))
    refine ⟨?_, ?_, fun r hr => ?_, fun r hr => ?_⟩
    · rw [List.nil_append, e]
      exact List.nodup_append.2 ⟨h1, h2, fun x hx y hy hxy => by subst hxy; have := u1 x hx; have := l2 x hy; omega⟩
    · intro g hg
      rw [List.nil_append, e] at hg
      rcases List.mem_append.1 hg with h | h
      · exact l1 g h
      · have := l2 g h; omega
    · rcases (by simpa using hr : r ∈ as_ ∨ r ∈ bs_) with h | h
      · exact G1.wh.2 r h
      · exact G2.wh.2 r h
    · rcases (by simpa using hr : r ∈ as_ ∨ r ∈ bs_) with h | h
      · exact k1.2 r h
      · exact k2.2 r h
  clear hr1 hr2 u1
  simp [dSl, s77_4, s77_11, ]
  refine loop_ruleL (X := List Ints × List Ints × List Ints × Option (TypeId × Nat) × Option (TypeId × Nat)) (fun p _ => SrtI l B p) (fun p => [(4, .d (.sl aid p.2.2.2.1 (p.1.map (cS cI)))), (5, .d (.sl bid p.2.2.2.2 (p.2.1.map (cS cI)))), (6, .own 52 0 p.2.2.1.length)])
    (fun p => [(52, some (.row 69 1 (p.2.2.1.map (cS cI))))]) (fun p => p.1.length + p.2.1.length) ?_ ?_
  · refine (lead_slot 6 52 69 1 (by omega) (by omega) (by simp)).bind ?_
    rintro _ rfl
    exact Lead.of ⟨(as_, bs_, [], aT, bT), ⟨hst, own0⟩, rfl, rfl, Nat.le_refl _, by simp, by simp⟩
  rintro ⟨a, b, o, Ta, Tb⟩ hs t m hI hh
  have hlen := hI.mj.len
  simp only [List.length_map] at hlen
  have hpa : ∀ a : List Ints, (0 : Int) < (a.length : Int) + 1 := fun a => by omega
  have hpb : ∀ a : List Ints, ¬ (a.length : Int) + 1 = 0 := fun a => by omega
  rcases a with _ | ⟨x, a⟩
  · rcases b with _ | ⟨y, b⟩
    · have hd := hI.mj.done
      simp only at hd
      simp [s77_4, s77_11, ]
      intro γ hs' h1 hg
      obtain ⟨q1, q2⟩ := gam_at hg (k := 52) (T := 69) (sz := 1) (es := o.map (cS cI)) (by simp)
      have q3 := gam_row hg (k := 52) (T := 69) (sz := 1) (es := o.map (cS cI)) (by simp)
      clear hg
      have hown : OwnR B o := by have := hI.own; simpa using this
      have hp : hpLL (o.map (cS cI)) = false := hpLL_mapS o
      simp only [List.length_nil] at hlen
      exact ⟨⟨γ 52, some (69, 1), o⟩, by simp [dSl, List.take_of_length_le], by simpa [plS] using hd, ⟨by simp only [maxLen]; show o.length ≤ _; omega, hown.ok⟩, good_row (fun g hg => (q1 g hg).1) (by simpa using q2) q3 ⟨hown.nd, hown.lo⟩ hown.wh⟩
    · simp only [List.length_cons, List.length_nil] at hlen
      have hL : LenOk 24 (o.length + 1) := ⟨by omega, by simp only [maxLen]; omega⟩
      refine anyQ2 fun Q => ?_
      simp [hpa, hpb, hL, cS, dSl, s77_4, s77_11, ]
      exact back2 ([], b, o ++ [y], Ta, (if bid.isSome = true then none else Tb)) (hI.right (by simp)) (by simp <;> omega) rfl (by simp <;> omega) (by simp [cS, dSl, List.take_of_length_le]) (by simp [cS, dSl])
  · rcases b with _ | ⟨y, b⟩
    · simp only [List.length_cons, List.length_nil] at hlen
      have hL : LenOk 24 (o.length + 1) := ⟨by omega, by simp only [maxLen]; omega⟩
      refine anyQ2 fun Q => ?_
      simp [hpa, hpb, hL, cS, dSl, s77_4, s77_11, ]
      exact back2 (a, [], o ++ [x], (if aid.isSome = true then none else Ta), Tb) (hI.left (by simp)) (by simp <;> omega) rfl (by simp <;> omega) (by simp [cS, dSl, List.take_of_length_le]) (by simp [cS, dSl])
    · simp only [List.length_cons] at hlen
      have hL : LenOk 24 (o.length + 1) := ⟨by omega, by simp only [maxLen]; omega⟩
      have hM := hI.mj
      simp only [List.map_cons] at hM
      refine anyQ2 fun Q => ?_
      simp [hpa, hpb, cS, dSl, s77_4, s77_11, ]
      refine call_f (w_impl_CompareRows (plS plI x) (plS plI y)) (by simp [plS, pS, erLL_map er_cI, map_plI]) rfl fun hs3 hh3 => ?_
      simp at hh3
      by_cases c1 : cmpL (plS plI x) (plS plI y) < 0
      · have c2 : cmpL (plS plI x) (plS plI y) ≤ 0 := by omega
        have c3 : ¬ 0 ≤ cmpL (plS plI x) (plS plI y) := by omega
        simp [c2, c3, hL, cS, dSl, s77_4, s77_11, ]
        exact back2 (a, y :: b, o ++ [x], (if aid.isSome = true then none else Ta), Tb) (hI.left (hM.less c1)) (by simp <;> omega) rfl (by simp <;> omega) (by simp [cS, dSl, List.take_of_length_le]) (by simp [cS, dSl])
      by_cases c4 : cmpL (plS plI x) (plS plI y) = 0
      · have e := (cmpL_zero _ _).1 c4
        simp [c4, hL, cS, dSl, s77_4, s77_11, ]
        exact back2 (a, b, o ++ [x], (if aid.isSome = true then none else Ta), (if bid.isSome = true then none else Tb)) (hI.both e) (by simp <;> omega) rfl (by simp <;> omega) (by simp [cS, dSl, List.take_of_length_le]) (by simp [cS, dSl])
      · have c2 : ¬ cmpL (plS plI x) (plS plI y) ≤ 0 := by omega
        have c3 : 0 ≤ cmpL (plS plI x) (plS plI y) := by omega
        have c5 : 0 < cmpL (plS plI x) (plS plI y) := by omega
        have c6 : cmpL (plS plI y) (plS plI x) < 0 := by have := cmpL_swap (plS plI x) (plS plI y); omega
        simp [c2, c3, c5, hL, cS, dSl, s77_4, s77_11, ]
        exact back2 (x :: a, b, o ++ [y], Ta, (if bid.isSome = true then none else Tb)) (hI.right (hM.swap.less c6)) (by simp <;> omega) rfl (by simp <;> omega) (by simp [cS, dSl, List.take_of_length_le]) (by simp [cS, dSl])

end Go.Proofs.Ytninbnbgaeailaa

namespace Go.Proofs.Ytninbnbgaeailaa
open Go.Vs Go.Proofs Go
set_option maxRecDepth 100000
set_option maxHeartbeats 1000000

theorem e_impl_NewRelation (ar : Int) (l : List (List Int)) (hb : l.length ≤ 4294967296) (hb2 : ∀ r ∈ l, r.length ≤ 4294967296) :
   VC Try.prog 60 [.d (.int .i64 ar), .d (pS (cP cI) l)] (fun m r => ∃ y : Reln, r = .tup [.agg ((cReln y).map V.d), .d (.bool (newB ar l))] ∧ plReln y = newR ar l ∧ okReln y ∧ Good (cReln y) (whReln y) m) := by
  refine VC.of E s60 (by kernel_rfl) Try.func60 (by rfl) (by kernel_rfl) (by simp [Try.f60]) (by simp [Try.f60]) s60_ok fun B => ?_
  have hno : newB ar l = false → ∃ y : Reln, V.tup [.agg ((cReln ⟨0, nilS⟩).map V.d), .d (.bool false)] = .tup [.agg ((cReln y).map V.d), .d (.bool (newB ar l))] ∧ plReln y = newR ar l ∧ okReln y ∧ Good (cReln y) (whReln y) B := fun h =>
    ⟨⟨0, nilS⟩, by rw [h], by simp [newR, h, plReln, plI, nilS, plS], ⟨trivial, ok_nilS⟩, good_Reln0 B⟩
  simp only [cReln, cS, cI, nilS, dSl] at hno
  simp at hno
  simp [Try.f60, pS]
  refine loop_rule (X := Nat) (ToN ar l) (fun i => [(0, .d (.int .i64 ar)), (1, .d (.pl (l.map (cP cI)))), (4, .ptr 4 0 0), (9, .d (.pl (l.map (cP cI)))), (10, .d (.int .i64 l.length)), (11, .d (.int .i64 i))])
    (fun i => [(4, some (.box [.d (.int .i64 0), .d (.sl none none [])]))]) (fun i => l.length - i) 0 .zero (by simp [cP, cI, pS]) (by simp) ?_
  intro i hs t m hi hh
  have hle := hi.le
  by_cases hlt : i < l.length
  · have hwi := wr1 (i := i) (by omega)
    by_cases hln : (l[i].length : Int) = ar
    · simp [hlt, hln, cP, pS, ]
      refine call_f (w_impl_AreValidValues l[i]) (by simp [pS]) rfl fun hs1 hh1 => ?_
      simp at hh1
      cases hv : valsOk l[i]
      · have hB0 : newB ar l = false := hi.bad hlt (by simp [hv])
        simp
        simpa [hB0, cReln, cS, cI, dSl] using hno hB0
      · simp [hwi]
        exact back (i + 1) (hi.step hlt (by simp [hv, hln])) (by omega) rfl (by simp <;> omega) (by simp [cP, cI, pS]) (by simp)
    · have hB0 : newB ar l = false := hi.bad hlt (by simp [hln])
      simp [hlt, hln, cP, pS, ]
      simpa [hB0, cReln, cS, cI, dSl] using hno hB0
  · have hd := hi.done (by omega)
    have hsl := srtU_len l
    simp [hlt, ]
    refine call_some (e_impl_sorted _ l (Nat.le_refl _) hb hb2) (by simp [pS]) (by simp) fun n1 hs1 r1 hn1 hm1 hp1 hr1 => ?_
    obtain ⟨y, rfl, p1, k1, G1⟩ := hp1
    simp at hn1
    clear hr1
    simp []
    refine call_f (w_impl_IsValidRelation ⟨ar, srtU l⟩) (by simp [← p1, eReln, er_SI, cI]) rfl fun hs3 hh3 => ?_
    simp at hh3
    cases h1 : rowsOk ar (srtU l)
    · have hB0 : newB ar l = false := by rw [newB, h1, Bool.and_false]
      simp
      simpa [hB0, cReln, cS, cI, dSl] using hno hB0
    · have hB1 : newB ar l = true := by rw [newB, h1, hd]; rfl
      simp [hB1]
      exact ⟨⟨ar, y⟩, by simp [cReln, cS, cI], by simp only [newR, hB1, if_true, plReln, plI]; rw [p1], ⟨trivial, k1⟩, good_Reln G1 (by omega)⟩
theorem e_impl_Union (a : PReln) (b : Reln) (kb : okReln b) :
   VC Try.prog 34 [.agg ((eReln a).map V.d), .agg ((cReln b).map V.d)] (fun m r => ∃ y : Reln, r = .tup [.agg ((cReln y).map V.d), .d (.bool (uniB a (plReln b)))] ∧ plReln y = uniR a (plReln b) ∧ okReln y ∧ Good (cReln y) (whReln y) m) := by
  refine VC.ofB E s34 (by kernel_rfl) Try.func34 (by rfl) (by kernel_rfl) (by simp [Try.f34]) (by simp [Try.f34]) s34_ok fun B hB => ?_
  have hbB : ∀ g ∈ idsL (cReln b), g < B := fun g hg => hB g (by simp only [idsVL, V.ids, idsVL_map_d, List.mem_append]; simp [hg])
  obtain ⟨aa, al⟩ := a
  obtain ⟨ba, ⟨bid, bT, bl⟩⟩ := b
  obtain ⟨L, hL⟩ : ∃ L, L = bl.map (plS plI) := ⟨_, rfl⟩
  have hp : plReln ⟨ba, ⟨bid, bT, bl⟩⟩ = ⟨ba, L⟩ := by rw [hL]; rfl
  rw [hp]
  have hno : difB ⟨aa, al⟩ ⟨ba, L⟩ = false → ∃ y : Reln, V.tup [.agg ((cReln ⟨0, nilS⟩).map V.d), .d (.bool false)] = .tup [.agg ((cReln y).map V.d), .d (.bool (uniB ⟨aa, al⟩ ⟨ba, L⟩))] ∧ plReln y = uniR ⟨aa, al⟩ ⟨ba, L⟩ ∧ okReln y ∧ Good (cReln y) (whReln y) B := fun h =>
    ⟨⟨0, nilS⟩, by simp [uniB, h], by simp [uniR, h, plReln, plI, nilS, plS], ⟨trivial, ok_nilS⟩, good_Reln0 B⟩
  simp only [cReln, cS, cI, nilS, dSl] at hno
  simp at hno
  simp [Try.f34, s34_3, eReln, cReln, cI, cP, cS, dSl]
  refine call_f (w_impl_IsValidRelation ⟨aa, al⟩) (by simp [eReln, cI, cP]) rfl fun hs1 hh1 => ?_
  simp at hh1
  cases h1 : rowsOk aa al
  · have hd : difB ⟨aa, al⟩ ⟨ba, L⟩ = false := by simp [difB, h1]
    simp
    simpa [uniB, hd] using hno hd
  simp
  refine call_f (w_impl_IsValidRelation ⟨ba, L⟩) (by simp [hL, eReln, cI, cP, pS, erLL_map (er_cS er_cI)]) rfl fun hs2 hh2 => ?_
  simp at hh2
  cases h2 : rowsOk ba L
  · have hd : difB ⟨aa, al⟩ ⟨ba, L⟩ = false := by simp [difB, h1, h2]
    simp
    simpa [uniB, hd] using hno hd
  by_cases h3 : aa = ba
  case neg =>
    have hd : difB ⟨aa, al⟩ ⟨ba, L⟩ = false := by simp [difB, h1, h2, h3]
    simp [h3]
    simpa [uniB, hd] using hno hd
  subst h3
  have hdb : difB ⟨aa, al⟩ ⟨aa, L⟩ = true := by simp [difB, h1, h2]
  obtain ⟨z1, z2, z3, z4⟩ := difB_len hdb
  simp only at z3 z4
  have hlb : bl.length = L.length := by rw [hL]; simp
  have uS : uniB ⟨aa, al⟩ ⟨aa, L⟩ = newB aa (al ++ L) := by simp [uniB, hdb]
  have uR : uniR ⟨aa, al⟩ ⟨aa, L⟩ = newR aa (al ++ L) := by simp only [uniR, hdb, if_true]
  rw [uS, uR]
  have hN := e_impl_NewRelation aa (al ++ L) (by simp; omega) (fun x hx => by
    rcases List.mem_append.1 hx with h | h
    · exact z1.2 x h
    · exact z2.2 x h)
  have hid : ∀ n r, (∃ y : Reln, r = V.tup [.agg ((cReln y).map V.d), .d (.bool (newB aa (al ++ L)))] ∧ plReln y = newR aa (al ++ L) ∧ okReln y ∧ Good (cReln y) (whReln y) n) → (∀ i ∈ r.ids, n ≤ i) ∧ r.hp = false := by
    rintro n _ ⟨y, rfl, _, _, G⟩
    refine ⟨fun i hi => G.lo i ?_, by simp [V.hp, hpVL, cReln, cI, cS, dSl, D.hp]⟩
    simpa [V.ids, idsVL, ids_agg, idsVL_map_d, D.ids] using hi
  simp [s34_3, ]
  by_cases hal : al = []
  · subst hal
    have hL2 : LenOk 24 L.length := ⟨by omega, by simp only [maxLen]; omega⟩
    refine call_pure e_impl_copyRows0 (by simp) (by simp [pS, cP]) (by simp [V.ids, D.ids, idsLL]) fun hs3 hh3 => ?_
    simp at hh3
    simp [cS, cI, dSl, hlb, hL2, s34_3, ]
    refine call_own (by simp) (fun γ n hn hg => ⟨[.d (.int .i64 aa), .d (.sl (γ 29) (some (69, 1)) (bl.map (cS cI)))], by simp [← hlb, hpLL_mapS, List.take_of_length_le, cS, dSl], hN.er (by simp [hL, pS, cP, erLL_map (er_cS er_cI)])⟩) hid fun n3 hs4 r3 hn3 hm3 hp3 hr3 => ?_
    obtain ⟨z, rfl, pz, kz, Gz⟩ := hp3
    simp at hn3
    clear hr3
    simp [cReln, cI, cS, dSl, s34_3, ]
    exact ⟨z, by simp [cReln, cI, cS, dSl], pz, kz, Gz.le (by omega)⟩
  · have hL2 : LenOk 24 (al.length + L.length) := ⟨by omega, by simp only [maxLen]; omega⟩
    refine call_some (e_impl_copyRowsT al (z1.1) z1.2) (by simp [pS]) (by simp) fun n1 hs3 r1 hn1 hm1 hp1 hr1 => ?_
    obtain ⟨⟨yid, yT, ys⟩, rfl, p1, k1, G1, hT⟩ := hp1
    simp only at hT
    subst hT
    simp at hn1
    have hyl : ys.length = al.length := by rw [← p1]; simp [plS]
    have hy0 : ys ≠ [] := fun h => hal (by rw [← p1, h]; rfl)
    obtain ⟨g, rfl⟩ : ∃ g, yid = some g := by
      cases yid with
      | none => exact absurd (G1.wh.1.nil rfl) hy0
      | some g => exact ⟨g, rfl⟩
    have hgn : n1 ≤ g := G1.lo g (by rw [idsL_cS]; exact mem_sl_ids.2 (.inl rfl))
    have hgB : B ≤ g := by omega
    have hbi : ∀ i ∈ (dSl (cS cI) ⟨bid, bT, bl⟩).ids, i < B := fun i hi => hbB i (by rw [cReln, idsL_app, idsL_cS]; simp [hi])
    have hg1 : g ∉ (D.sl bid bT (bl.map (cS cI))).ids := fun h => by have := hbi g h; omega
    have hg2 : g ∉ idsLL (bl.map (cS cI)) := fun h => hg1 (mem_sl_ids (s := ⟨bid, bT, bl⟩).2 (.inr h))
    have hg3 : g ∉ idsLL (ys.map (cS cI)) := by
      have := G1.nd
      rw [idsL_cS] at this
      exact (sl_nd this).2 g rfl
    have kg : ∀ i, i < B → kphi (some g) i = none := fun i hi => by simp only [kphi]; rw [if_neg (by simp; omega)]
    have eb : reV (kphi (some g)) (.d (.sl bid bT (bl.map (cS cI)))) = .d (.sl bid bT (bl.map (cS cI))) := reV_id (.d (dSl (cS cI) ⟨bid, bT, bl⟩)) fun i hi => kg i (hbi i hi)
    have hp1 : hpLL (bl.map (cS cI)) = false := hpLL_mapS bl
    simp [cS, cI, dSl, St.kill, eb, hgB, hg1, hg2, hg3, hp1, hyl, hlb, hL2, s34_3, ]
    have hg4 : ¬ bid = some g := fun h => hg1 (by rw [h]; simp [D.ids])
    refine ⟨hg4, ?_⟩
    have hp2 : hpLL (ys.map (cS cI)) = false := hpLL_mapS ys
    have ep : ys.map (plS plI) = al := by simpa [plS] using p1
    have eq1 : (ys.map (cS cI) ++ bl.map (cS cI)).length = al.length + L.length := by simp [hyl, hlb]
    refine call_own (by simp) (fun γ n hn hg => ⟨[.d (.int .i64 aa), .d (.sl (γ 29) (some (69, 1)) (ys.map (cS cI) ++ bl.map (cS cI)))], by simp [hp1, hp2, hyl, hlb, List.take_of_length_le], hN.er ?_⟩) hid fun n3 hs4 r3 hn3 hm3 hp3 hr3 => ?_
    · have e3 : erLL (ys.map (cS cI) ++ bl.map (cS cI)) = (al ++ L).map (cP cI) := by rw [← List.map_append, erLL_map (er_cS er_cI), List.map_append, ep, hL]
      simp [pS, e3]
    obtain ⟨z, rfl, pz, kz, Gz⟩ := hp3
    simp at hn3
    clear hr3
    simp [cReln, cI, cS, dSl, s34_3, ]
    exact ⟨z, by simp [cReln, cI, cS, dSl], pz, kz, Gz.le (by omega)⟩

end Go.Proofs.Ytninbnbgaeailaa

namespace Go.Proofs.Ytninbnbgaeailaa
open Go.Vs Go.Proofs Go
set_option maxRecDepth 100000
set_option maxHeartbeats 1000000

section
attribute [local simp] plI_id plStr_id map_plI map_plStr pS cP cI cStr cU8 cB eTab eReln
theorem w_spec_l6Copy (d : PDb) (hz : szDb d) : VC Try.prog 44 [.agg ((eDb d).map V.d)] (fun _ v => v = .agg ((eDb d).map V.d)) := by
  refine VC.ofL EP s44 (by kernel_rfl) Try.func44 (by rfl) (by kernel_rfl) (by simp [Try.f44]) (by simp [Try.f44]) s44_ok fun B hl => ?_
  obtain ⟨l⟩ := d
  simp only [szDb] at hz
  simp [Try.f44, s44_6, s44_6, eDb]
  refine loop_ruleL (X := Nat) (fun i _ => i ≤ l.length) (fun i => [(1, .ptr 1 0 0), (2, .ptr 2 0 0), (3, .ptr 3 0 0), (4, .d (.int .i64 i))]) (fun i => [(1, some (.box [.d (.pl (l.map eTab))])), (2, some (.box [.d (.sl none none [])])), (3, some (.box [.own 32 0 i])), (32, some (.row 66 3 ((l.take i).map eTab)))]) (fun i => l.length - i) ?_ ?_
  · refine (lead_box 3 0 32 66 3 [.d (.sl none none [])] (by omega) (by omega) (by omega) (by simp) rfl).bind ?_
    rintro _ rfl
    exact Lead.of ⟨0, by omega, rfl, rfl, Nat.le_refl _, by simp, by simp⟩
  intro i hs t m hi hh
  by_cases hlt : i < l.length
  · have hwi := wr1 (i := i) (by omega)
    have hL : LenOk 48 (i + 1) := ⟨by omega, by simp only [maxLen]; omega⟩
    have hmn : min i l.length = i := by omega
    have hr := hz.2 _ (List.getElem_mem hlt)
    obtain ⟨nm, ar, rows, hT⟩ : ∃ nm ar rows, l[i] = ⟨nm, ⟨ar, rows⟩⟩ := ⟨_, _, _, rfl⟩
    have hst2 : List.take (i + 1) (List.map eTab l) = List.take i (List.map eTab l) ++ [[.str nm, .int .i64 ar, .pl (rows.map (cP cI))]] := by
      rw [List.take_succ_eq_append_getElem (by simpa using hlt)]; simp [hT]
    rw [hT] at hr
    simp [hlt, hT, s44_6, ]
    refine call_p (w_spec_l5Copy ⟨ar, rows⟩ hr.1 hr.2) (by simp) fun hs1 hh1 hl1 => ?_
    simp at hh1
    simp [hlt, hT, hL, hwi, hmn, s44_6, ]
    exact back2 (i + 1) (by omega) (by omega) rfl (by simp <;> omega) (by simp) (by simp [hst2])
  · have hn : i = l.length := by omega
    subst hn
    simp [List.take_of_length_le]
end
theorem e_impl_copyDatabase (d : PDb) (hz : szDb d) (hst : ∀ t ∈ d.tabs, t.name.length ≤ maxLen) : VC Try.prog 33 [.agg ((eDb d).map V.d)] (fun n v => ∃ y : Db, v = .agg ((cDb y).map V.d) ∧ plDb y = d ∧ okDb y ∧ Good (cDb y) (whDb y) n) := by
  refine VC.of E s33 (by kernel_rfl) Try.func33 (by rfl) (by kernel_rfl) (by simp [Try.f33]) (by simp [Try.f33]) s33_ok fun B => ?_
  obtain ⟨l⟩ := d
  simp only [szDb] at hz hst
  simp [Try.f33, s33_5, s33_5, eDb, pS]
  refine loop_ruleL (X := Nat × List Tab) (CopI cTab whTab okTab plTab l B) (fun p => [(1, .ptr 1 0 0), (2, .ptr 2 0 0), (3, .ptr 3 0 0), (7, .d (.pl (l.map eTab))), (8, .d (.int .i64 l.length)), (9, .d (.int .i64 p.1))]) (fun p => [(2, some (.box [.d (.sl none none [])])), (3, some (.box [.own 22 0 p.2.length])), (22, some (.row 66 3 (p.2.map cTab)))]) (fun p => l.length - p.1) ?_ ?_
  · refine (lead_box 3 0 22 66 3 [.d (.sl none none [])] (by omega) (by omega) (by omega) (by simp) rfl).bind ?_
    rintro _ rfl
    exact Lead.of ⟨(0, []), .zero, rfl, rfl, Nat.le_refl _, by simp, by simp⟩
  rintro ⟨i, ys⟩ hs t m hI hh
  have hle := hI.le
  have hyl := hI.len
  simp only at hle
  by_cases hlt : i < l.length
  · have hwi := wr1 (i := i) (by omega)
    have hL : LenOk 48 (ys.length + 1) := ⟨by omega, by simp only [maxLen]; omega⟩
    have hr := hz.2 _ (List.getElem_mem hlt)
    have hn := hst _ (List.getElem_mem hlt)
    obtain ⟨nm, ar, rows, hT⟩ : ∃ nm ar rows, l[i] = ⟨nm, ⟨ar, rows⟩⟩ := ⟨_, _, _, rfl⟩
    rw [hT] at hr hn
    simp [hlt, hT, eTab, eReln, cStr, cI, cP, s33_5, ]
    refine call_some (e_impl_copyRelation ⟨ar, rows⟩ hr.1 hr.2) (by simp [eReln, cI, cP]) (by simp) fun n1 hs1 r1 hn1 hm1 hp1 hr1 => ?_
    obtain ⟨y, rfl, p1, k1, G1⟩ := hp1
    simp at hn1
    have u1 : ∀ g ∈ idsL (cTab ⟨nm, y⟩), g < hs1 := fun g hg => hr1 g (by
      rw [ids_agg]
      rw [cTab, idsL_app] at hg
      exact (List.mem_append.1 hg).resolve_left (by simp [cStr, idsL, D.ids]))
    simp [cReln, cI, cS, hL, hwi, s33_5, ]
    exact back2 (i + 1, ys ++ [⟨nm, y⟩]) (hI.snoc hlt (by rw [hT]; simp only [plTab, p1]; rfl) (show okTab (⟨nm, y⟩ : Tab) from ⟨hn, k1⟩) (by omega) hm1 (good_Tab G1) u1) (by simp only; omega) rfl (by simp <;> omega) (by simp) (by simp [cTab, cStr, cReln, cI, cS])
  · have hall := hI.all (by omega)
    simp [hlt, s33_5, ]
    intro γ hs' h1 hg
    obtain ⟨q1, q2⟩ := gam_at hg (k := 22) (T := 66) (sz := 3) (es := ys.map cTab) (by simp)
    have q3 := gam_row hg (k := 22) (T := 66) (sz := 3) (es := ys.map cTab) (by simp)
    clear hg
    have hp : hpLL (ys.map cTab) = false := hpLL_map (fun a => by simp) ys
    simp [hp, List.take_of_length_le]
    exact ⟨⟨⟨γ 22, some (66, 3), ys⟩⟩, by simp [cDb, cS, dSl], by simp only [plDb, plS, hall], ⟨by simp only [maxLen]; show ys.length ≤ _; omega, hI.ok⟩, good_row (fun g hg => (q1 g hg).1) (by simpa using q2) q3 ⟨hI.good.nd, hI.good.lo⟩ hI.good.wh⟩

end Go.Proofs.Ytninbnbgaeailaa

namespace Go.Proofs.Ytninbnbgaeailaa
open Go.Vs Go.Proofs Go
set_option maxRecDepth 100000
set_option maxHeartbeats 1000000

section
attribute [local simp] plI_id plStr_id map_plI map_plStr pS cP cI cStr cU8 cB eTab eReln
theorem w_spec_SetRelation (d : PDb) (nm : List UInt8) (r : PReln) (hz : szDb d) (hst : ∀ t ∈ d.tabs, t.name.length ≤ maxLen) (hnm : nm.length ≤ maxLen) :
   VC Try.prog 47 [.agg ((eDb d).map V.d), .d (.str nm), .agg ((eReln r).map V.d)] (fun _ v => v = .tup [.agg ((eDb (setP d nm r)).map V.d), .d (.bool (setB d nm r))]) := by
  refine VC.ofL EP s47 (by kernel_rfl) Try.func47 (by rfl) (by kernel_rfl) (by simp [Try.f47]) (by simp [Try.f47]) s47_ok fun B hl => ?_
  obtain ⟨l⟩ := d
  obtain ⟨ar, rows⟩ := r
  have hl := hz.1
  simp only at hl hst
  simp [Try.f47, eDb]
  refine loop_ruleL (X := Nat × List PTab × Bool) (fun p _ => StI nm ⟨ar, rows⟩ l p) (fun p => [(1, .d (.str nm)), (3, .ptr 3 0 0), (5, .ptr 5 0 0), (6, .ptr 6 0 0), (8, .ptr 8 0 0), (9, .d (.bool p.2.2)), (10, .d (.int .i64 p.1))])
    (fun p => [(3, some (.box [.d (.pl (l.map eTab))])), (5, some (.box [.d (.int .i64 ar), .d (.pl (rows.map (cP cI)))])), (6, some (.box [.d (.sl none none [])])), (8, some (.box [.own 39 0 p.2.1.length])), (39, some (.row 66 3 (p.2.1.map eTab)))]) (fun p => l.length - p.1) ?_ ?_
  · refine (lead_box 8 0 39 66 3 [.d (.sl none none [])] (by omega) (by omega) (by omega) (by simp) rfl).bind ?_
    rintro _ rfl
    exact Lead.of ⟨(0, [], false), .zero, rfl, rfl, Nat.le_refl _, by simp, by simp⟩
  rintro ⟨i, o, b⟩ hs t m hI hh
  have hle := hI.le
  have hol := hI.len
  simp only at hle hol
  by_cases hlt : i < l.length
  · have hwi := wr1 (i := i) (by omega)
    have hL1 : LenOk 48 (o.length + 1) := ⟨by omega, by simp only [maxLen]; omega⟩
    have hL2 : LenOk 48 (o.length + 1 + 1) := ⟨by omega, by simp only [maxLen]; omega⟩
    obtain ⟨tn, ta, tr, hT⟩ : ∃ tn ta tr, l[i] = ⟨tn, ⟨ta, tr⟩⟩ := ⟨_, _, _, rfl⟩
    have hs1 := fun s' => hI.step (s' := s') hlt
    rw [hT] at hs1
    simp only [stS] at hs1
    refine anyQ2 fun Q => ?_
    cases b
    · cases hb : Op.bytesLess tn nm
      · by_cases he : tn = nm
        · subst he
          simp [hb] at hs1
          simp [hlt, hT, hb, hL1, hwi, ]
          exact back2 (i + 1, _, true) hs1 (by simp only; omega) rfl (by simp <;> omega) (by simp) (by simp)
        · simp [hb, he] at hs1
          simp [hlt, hT, hb, he, hL1, hL2, hwi, ]
          exact back2 (i + 1, _, true) hs1 (by simp only; omega) rfl (by simp <;> omega) (by simp) (by simp)
      · have he : ¬ tn = nm := fun e => by rw [e, bl_irr] at hb; cases hb
        simp [hb, he] at hs1
        simp [hlt, hT, hb, he, hL1, hwi, ]
        exact back2 (i + 1, _, false) hs1 (by simp only; omega) rfl (by simp <;> omega) (by simp) (by simp)
    · by_cases he : tn = nm
      · simp [he] at hs1
        simp [hlt, hT, he, hwi, ]
        exact back2 (i + 1, _, true) hs1 (by simp only; omega) rfl (by simp <;> omega) (by simp) (by simp)
      · simp [he] at hs1
        simp [hlt, hT, he, hL1, hwi, ]
        exact back2 (i + 1, _, true) hs1 (by simp only; omega) rfl (by simp <;> omega) (by simp) (by simp)
  have hd := hI.done (by omega)
  have hL1 : LenOk 48 (o.length + 1) := ⟨by omega, by simp only [maxLen]; omega⟩
  obtain ⟨x, hx⟩ : ∃ x, x = setS l nm ⟨ar, rows⟩ := ⟨_, rfl⟩
  have hxm : ∀ t ∈ x, t.name.length ≤ maxLen := fun t ht => by
    rw [hx] at ht
    rcases setS_mem ht with h | h
    · exact hst t h
    · rw [h]; exact hnm
  rw [← hx] at hd
  cases b
  · simp at hd
    simp [hlt, hL1, ]
    refine call_f (w_spec_IsValidDatabase ⟨l⟩ hst) (by simp [eDb]) rfl fun hs1 hh1 => ?_
    simp at hh1
    cases h1 : dbOk ⟨l⟩
    · have hB : setB ⟨l⟩ nm ⟨ar, rows⟩ = false := by simp [setB, h1]
      simp []
      refine call_p (w_spec_l6Copy ⟨l⟩ hz) (by simp [eDb]) fun hs2 hh2 hl2 => ?_
      simp [eDb, hB, setP]
    · simp [h1, ]
      refine call_f (w_spec_IsValidDatabase ⟨x⟩ hxm) (by simp [eDb, hd, List.take_of_length_le]) rfl fun hs2 hh2 => ?_
      simp at hh2
      have hxL : setL l nm ⟨ar, rows⟩ = x := by rw [hx, setS_L h1]
      cases h2 : dbOk ⟨x⟩
      · have hB : setB ⟨l⟩ nm ⟨ar, rows⟩ = false := by simp [setB, h1, hxL, h2]
        simp []
        refine call_p (w_spec_l6Copy ⟨l⟩ hz) (by simp [eDb]) fun hs2 hh2 hl2 => ?_
        simp [eDb, hB, setP]
      · have hB : setB ⟨l⟩ nm ⟨ar, rows⟩ = true := by simp [setB, h1, hxL, h2]
        simp []
        refine call_p (w_spec_l6Copy ⟨x⟩ (szDb_ok h2)) (by simp [eDb, hd, List.take_of_length_le]) fun hs2 hh2 hl2 => ?_
        simp [eDb, hB, setP, hxL]
  · simp at hd
    simp [hlt, ]
    refine call_f (w_spec_IsValidDatabase ⟨l⟩ hst) (by simp [eDb]) rfl fun hs1 hh1 => ?_
    simp at hh1
    cases h1 : dbOk ⟨l⟩
    · have hB : setB ⟨l⟩ nm ⟨ar, rows⟩ = false := by simp [setB, h1]
      simp []
      refine call_p (w_spec_l6Copy ⟨l⟩ hz) (by simp [eDb]) fun hs2 hh2 hl2 => ?_
      simp [eDb, hB, setP]
    · simp [h1, ]
      refine call_f (w_spec_IsValidDatabase ⟨x⟩ hxm) (by simp [eDb, hd, List.take_of_length_le]) rfl fun hs2 hh2 => ?_
      simp at hh2
      have hxL : setL l nm ⟨ar, rows⟩ = x := by rw [hx, setS_L h1]
      cases h2 : dbOk ⟨x⟩
      · have hB : setB ⟨l⟩ nm ⟨ar, rows⟩ = false := by simp [setB, h1, hxL, h2]
        simp []
        refine call_p (w_spec_l6Copy ⟨l⟩ hz) (by simp [eDb]) fun hs2 hh2 hl2 => ?_
        simp [eDb, hB, setP]
      · have hB : setB ⟨l⟩ nm ⟨ar, rows⟩ = true := by simp [setB, h1, hxL, h2]
        simp []
        refine call_p (w_spec_l6Copy ⟨x⟩ (szDb_ok h2)) (by simp [eDb, hd, List.take_of_length_le]) fun hs2 hh2 hl2 => ?_
        simp [eDb, hB, setP, hxL]
end

end Go.Proofs.Ytninbnbgaeailaa

namespace Go.Proofs.Ytninbnbgaeailaa
open Go.Vs Go.Proofs Go
set_option maxRecDepth 100000
set_option maxHeartbeats 1000000

section
attribute [local simp] plI_id plStr_id map_plI map_plStr
theorem t_impl_copyDatabase (d : Db) (hd : okDb d) (hz : szDb (plDb d)) : VC Try.prog 33 [.agg ((cDb d).map V.d)] (fun n v => ∃ y : Db, v = .agg ((cDb y).map V.d) ∧ plDb y = plDb d ∧ okDb y ∧ Good (cDb y) (whDb y) n) :=
  (e_impl_copyDatabase (plDb d) hz (okDb_st hd)).er (by simp [cDb, cS, dSl, eDb, pS, cP, plDb, plS, erLL_map er_cTab])
theorem t_impl_SetRelation (d : Db) (nm : List UInt8) (r : Reln) (hd : okDb d) (hz : szDb (plDb d)) (hnm : nm.length ≤ maxLen) (hr : szRel (plReln r)) :
   VC Try.prog 35 [.agg ((cDb d).map V.d), .d (.str nm), .agg ((cReln r).map V.d)]
   (fun n v => ∃ y : Db, v = .tup [.agg ((cDb y).map V.d), .d (.bool (setB (plDb d) nm (plReln r)))] ∧ plDb y = setP (plDb d) nm (plReln r) ∧ okDb y ∧ Good (cDb y) (whDb y) n) := by
  refine VC.ofB E s35 (by kernel_rfl) Try.func35 (by rfl) (by kernel_rfl) (by simp [Try.f35]) (by simp [Try.f35]) s35_ok fun B hB => ?_
  have hdB : ∀ g ∈ idsL (cDb d), g < B := fun g hg => hB g (by simp only [idsVL, V.ids, idsVL_map_d, List.mem_append]; simp [hg])
  have hcopy := t_impl_copyDatabase d hd hz
  have hdp : ∃ l, plDb d = ⟨l⟩ := ⟨_, rfl⟩
  obtain ⟨l, hdp⟩ := hdp
  rw [hdp] at hz
  rw [hdp]
  have hdl : erLL (d.tabs.xs.map cTab) = l.map eTab := by
    rw [erLL_map er_cTab]
    have := congrArg PDb.tabs hdp
    simp only [plDb, plS] at this
    rw [this]
  obtain ⟨⟨did, dT, dts⟩⟩ := d
  simp only at hdl
  rw [hdp] at hcopy
  have hdB2 : ∀ φ : Nat → Option D, (∀ i, i < B → φ i = none) → reV φ (.d (.sl did dT (dts.map cTab))) = .d (.sl did dT (dts.map cTab)) := fun φ h => reV_id (.d (dSl cTab ⟨did, dT, dts⟩)) fun i hi => h i (hdB i (by rw [cDb, idsL_cS]; exact hi))
  have hrB : ∀ g ∈ idsL (cReln r), g < B := fun g hg => hB g (by simp only [idsVL, V.ids, idsVL_map_d, List.mem_append]; simp [hg])
  have hcR := (e_impl_copyRelation (plReln r) hr.1 hr.2).er (As := [.agg ((cReln r).map V.d)]) (by simp [cReln, cS, cI, dSl, eReln, pS, cP, plReln, plS, plI, erLL_map (er_cS er_cI)])
  have hrp : ∃ rows, plReln r = ⟨r.ar, rows⟩ := ⟨_, rfl⟩
  obtain ⟨rows, hrp⟩ := hrp
  rw [hrp] at hr hcR
  rw [hrp]
  obtain ⟨ar, ⟨rid, rT, rxs⟩⟩ := r
  simp only at hrp hr hcR ⊢
  have hrB2 : ∀ φ : Nat → Option D, (∀ i, i < B → φ i = none) → reV φ (.d (.sl rid rT (rxs.map (cS cI)))) = .d (.sl rid rT (rxs.map (cS cI))) := fun φ h => reV_id (.d (dSl (cS cI) ⟨rid, rT, rxs⟩)) fun i hi => h i (hrB i (by rw [cReln, idsL_app, idsL_cS]; exact List.mem_append.2 (.inr hi)))
  simp [Try.f35, s35_10, s35_10, cDb, cReln, cS, dSl, pS, cI]
  refine call_f (w_impl_IsValidDatabase ⟨l⟩) (by simp [eDb, cP, pS, hdl]) rfl fun hs1 hh1 => ?_
  simp at hh1
  cases h1 : dbOk ⟨l⟩
  · have hB0 : setB ⟨l⟩ nm ⟨ar, rows⟩ = false := by simp [setB, h1]
    simp [s35_10, ]
    refine call_some hcopy (by simp [cDb, cS, dSl]) (by simp) fun n2 hs2 r2 hn2 hm2 hp2 hr2 => ?_
    obtain ⟨⟨⟨yid, yT, ys⟩⟩, rfl, p2, k2, G2⟩ := hp2
    simp at hn2
    simp [cDb, cS, dSl, hB0, s35_10, ]
    exact ⟨⟨⟨yid, yT, ys⟩⟩, by simp [cDb, cS, dSl], by simp [setP, hB0, p2], k2, G2.le (by omega)⟩
  have hl6 : l.length ≤ 6 := dbOk_len h1
  simp [s35_10, ]
  refine call_some hcopy (by simp [cDb, cS, dSl]) (by simp) fun n2 hs2 r2 hn2 hm2 hp2 hr2 => ?_
  obtain ⟨⟨⟨yid, yT, ys⟩⟩, rfl, p2, k2, G2⟩ := hp2
  simp at hn2
  have hys : ys.map plTab = l := by
    have := congrArg PDb.tabs p2
    simpa [plDb, plS] using this
  have hyl : ys.length = l.length := by rw [← hys]; simp
  have hr2' : ∀ g ∈ idsL (cDb ⟨⟨yid, yT, ys⟩⟩), g < hs2 := fun g hg => hr2 g (by rw [ids_agg]; exact hg)
  have hkl := setK_le l nm
  simp [cDb, cS, dSl, s35_10, ]
  refine loop_rule (X := Nat) (fun i => KTo l nm i) (fun i => [(1, .d (.str nm)), (3, .ptr 3 0 0), (5, .ptr 5 0 0), (6, .ptr 6 0 0), (8, .ptr 8 0 0), (9, .d (.int .i64 i))])
    (fun i => [(3, some (.box [.d (.sl did dT (dts.map cTab))])), (5, some (.box [.d (.int .i64 ar), .d (.sl rid rT (rxs.map (cS cI)))])), (6, some (.box [.d (.sl none none [])])), (8, some (.box [.d (.sl yid yT (ys.map cTab))]))]) (fun i => l.length - i) 0 .zero (by simp) (by simp) ?_
  intro i hs t m hi hh
  have hik := hi.le
  by_cases hlt : i < setK l nm
  · have hil : i < l.length := by omega
    have hiy : i < ys.length := by omega
    have hwi := wr1 (i := i) (by omega)
    have hb := setK_lt hil hlt
    obtain ⟨⟨tn, ⟨ta, ⟨tid, tT, tr⟩⟩⟩, hT⟩ : ∃ y, y = ys[i] := ⟨_, rfl⟩
    have hTn : l[i].name = tn := by
      have : l[i] = plTab ys[i] := by simp [← hys]
      rw [this, ← hT]; rfl
    rw [hTn] at hb
    simp [hiy, hil, ← hT, hb, hwi, cTab, cReln, cStr, cI, cS, dSl, s35_10, ]
    exact back (i + 1) ⟨by omega⟩ (by omega) rfl (by simp <;> omega) (by simp) (by simp)
  have hik2 : i = setK l nm := by omega
  subst hik2
  by_cases hkt : setK l nm < l.length
  · have hb := setK_at hkt
    have hky : setK l nm < ys.length := by omega
    have hwY : Sl.wh (⟨yid, yT, ys⟩ : Sl Tab) := G2.wh.1
    obtain ⟨gg, hgg, T, hTT⟩ := hwY.id hky
    simp only at hgg hTT
    subst hgg hTT
    have hgn : n2 ≤ gg := G2.lo gg (by rw [cDb, idsL_cS]; exact mem_sl_ids.2 (.inl rfl))
    have hgh : gg < hs2 := hr2' gg (by rw [cDb, idsL_cS]; exact mem_sl_ids.2 (.inl rfl))
    have hsn := sl_nd (s := (⟨some gg, some T, ys⟩ : Sl Tab)) (c := cTab) (by have := G2.nd; rwa [cDb, idsL_cS] at this)
    have hgB : B ≤ gg := by omega
    have hgy : gg ∉ idsLL (ys.map cTab) := hsn.2 gg rfl
    obtain ⟨⟨tn, ⟨ta, ⟨tid, tT, tr⟩⟩⟩, hT⟩ : ∃ y, y = ys[setK l nm] := ⟨_, rfl⟩
    have hTn : l[setK l nm].name = tn := by
      have : l[setK l nm] = plTab ys[setK l nm] := by simp [← hys]
      rw [this, ← hT]; rfl
    rw [hTn] at hb
    simp [hky, hkt, ← hT, hb, cTab, cReln, cStr, cI, cS, dSl, s35_10, ]
    refine call_some hcR (by simp [cReln, cS, cI, dSl]) (by simp) fun n3 hs3 r3 hn3 hm3 hp3 hr3 => ?_
    obtain ⟨⟨za, ⟨zid, zT, zs⟩⟩, rfl, p3, k3, G3⟩ := hp3
    simp at hn3
    have hr3' : ∀ g ∈ idsL (cReln ⟨za, ⟨zid, zT, zs⟩⟩), g < hs3 := fun g hg => hr3 g (by rw [ids_agg]; exact hg)
    have hgz : gg ∉ idsL (cReln ⟨za, ⟨zid, zT, zs⟩⟩) := fun h => by have := G3.lo gg h; omega
    have hgz2 : ¬ zid = some gg ∧ gg ∉ idsLL (zs.map (cS cI)) := by
      rw [cReln, idsL_app, idsL_cS] at hgz
      exact ⟨fun h => hgz (List.mem_append.2 (.inr (mem_sl_ids.2 (.inl h)))), fun h => hgz (List.mem_append.2 (.inr (mem_sl_ids.2 (.inr h))))⟩
    obtain ⟨w, hw⟩ : ∃ w : Tab, w = ⟨nm, ⟨za, ⟨zid, zT, zs⟩⟩⟩ := ⟨_, rfl⟩
    have hwc : cTab w = [D.str nm, D.int .i64 za, D.sl zid zT (zs.map (cS cI))] := by rw [hw]; simp [cTab, cReln, cStr, cI, cS, dSl]
    have hwp : plTab w = ⟨nm, ⟨ar, rows⟩⟩ := by rw [hw, plTab, p3]; rfl
    have hwG : Good (cTab w) (whTab w) n3 := by rw [hw]; exact good_Tab G3
    have hwk : okTab w := by rw [hw]; exact ⟨hnm, k3⟩
    have hyi : ∀ g ∈ idsLL (ys.map cTab), n2 ≤ g ∧ g < hs2 := fun g hg => by
      have hm : g ∈ idsL (cDb ⟨⟨some gg, some T, ys⟩⟩) := by rw [cDb, idsL_cS]; exact mem_sl_ids.2 (.inr hg)
      exact ⟨G2.lo g hm, hr2' g hm⟩
    have hL1 : LenOk 48 (setK l nm) := ⟨by omega, by simp only [maxLen]; omega⟩
    have hL2 : LenOk 48 (setK l nm + 1) := ⟨by omega, by simp only [maxLen]; omega⟩
    have hL3 : LenOk 48 (setK l nm + 1 + (ys.length - setK l nm)) := ⟨by omega, by simp only [maxLen]; omega⟩
    have hmn : min (setK l nm) ys.length = setK l nm := by omega
    by_cases he : tn = nm
    · have hh1 : hitK l nm = true := by simp [hitK, hkt, hTn, he]
      have hSL : setL l nm ⟨ar, rows⟩ = l.take (setK l nm) ++ ⟨nm, ⟨ar, rows⟩⟩ :: l.drop (setK l nm + 1) := by simp [setL, hh1]
      obtain ⟨vs, hvs⟩ : ∃ vs, vs = ys.take (setK l nm) ++ w :: ys.drop (setK l nm + 1) := ⟨_, rfl⟩
      obtain ⟨P1, P2⟩ := good_put (c := cTab) (wh := whTab) (j := setK l nm + 1) (k := setK l nm) (by omega) hsn.1 (fun g hg => ⟨(hyi g hg).1, by have := (hyi g hg).2; show g < n3; omega⟩) G2.wh.2 hwG (by omega)
      rw [← hvs] at P1 P2
      have hvp : vs.map plTab = setL l nm ⟨ar, rows⟩ := by rw [hvs, map_put, hys, hwp, hSL]
      have hset : (ys.map cTab).set (setK l nm) (cTab w) = vs.map cTab := by
        rw [List.set_eq_take_append_cons_drop, if_pos (by simpa using hky), hvs, map_put]
      have hgv : gg ∉ idsLL (vs.map cTab) := fun h => by
        rw [hvs, List.map_append, List.map_cons, idsLL_append, idsLL] at h
        rcases List.mem_append.1 h with h | h
        · exact hgy ((ids_sub (List.take_sublist _ _)).subset h)
        · rcases List.mem_append.1 h with h | h
          · have := hwG.lo gg h; omega
          · exact hgy ((ids_sub (List.drop_sublist _ _)).subset h)
      have hvk : ∀ t ∈ vs, okTab t := fun t ht => by
        rw [hvs] at ht
        rcases List.mem_append.1 ht with h | h
        · exact k2.2 t (List.mem_of_mem_take h)
        · rcases List.mem_cons.1 h with rfl | h
          · exact hwk
          · exact k2.2 t (List.mem_of_mem_drop h)
      have hvl : vs.length = ys.length := by rw [hvs]; simp; omega
      simp [hky, hkt, ← hT, he, cTab, cReln, cStr, cI, cS, dSl, s35_10, ]
      refine ⟨⟨hgB, hgz2, hgy⟩, ?_⟩
      rw [← hwc, hset]
      have e1 : ∀ d', reV (one gg d') (.d (.sl did dT (dts.map cTab))) = .d (.sl did dT (dts.map cTab)) := fun d' => hdB2 _ fun i hi => one_out (by omega)
      have e2 : ∀ d', reV (one gg d') (.d (.sl zid zT (zs.map (cS cI)))) = .d (.sl zid zT (zs.map (cS cI))) := fun d' => reV_id (.d (dSl (cS cI) ⟨zid, zT, zs⟩)) fun i hi => one_out (fun e => by
        subst e
        rcases mem_sl_ids.1 hi with h | h
        · exact hgz2.1 h
        · exact hgz2.2 h)
      have e3 : ∀ d', reV (one gg d') (.d (.sl rid rT (rxs.map (cS cI)))) = .d (.sl rid rT (rxs.map (cS cI))) := fun d' => hrB2 _ fun i hi => one_out (by omega)
      simp only [e1, e2, e3]
      refine call_f (w_impl_IsValidDatabase ⟨vs.map plTab⟩) (by simp [eDb, cP, pS, erLL_map er_cTab]) rfl fun hs4 hh4 => ?_
      simp at hh4
      rw [hvp]
      cases h4 : dbOk ⟨setL l nm ⟨ar, rows⟩⟩
      · have hB0 : setB ⟨l⟩ nm ⟨ar, rows⟩ = false := by simp [setB, h4]
        simp [s35_10, ]
        refine call_some hcopy (by simp [cDb, cS, dSl]) (by simp) fun n5 hs5 r5 hn5 hm5 hp5 hr5 => ?_
        obtain ⟨⟨⟨uid, uT, us⟩⟩, rfl, p5, k5, G5⟩ := hp5
        simp at hn5
        simp [cDb, cS, dSl, hB0, s35_10, ]
        exact ⟨⟨⟨uid, uT, us⟩⟩, by simp [cDb, cS, dSl], by simp [setP, hB0, p5], k5, G5.le (by omega)⟩
      · have hB1 : setB ⟨l⟩ nm ⟨ar, rows⟩ = true := by simp [setB, h1, h4]
        simp [hB1, s35_10, ]
        refine ⟨⟨⟨some gg, some T, vs⟩⟩, by simp [cDb, cS, dSl], by simp only [setP, hB1, if_true, plDb, plS, hvp], ⟨by simp only [maxLen]; show vs.length ≤ _; omega, hvk⟩, good_row (fun g hg => by obtain rfl := Option.some.inj hg; exact hgB) (by simp) (fun g hg => by obtain rfl := Option.some.inj hg; exact hgv) ⟨P1.1, fun g hg => by have := P1.2 g hg; omega⟩ P2⟩
    · have hh1 : hitK l nm = false := by simp [hitK, hkt, hTn, he]
      have hSL : setL l nm ⟨ar, rows⟩ = l.take (setK l nm) ++ ⟨nm, ⟨ar, rows⟩⟩ :: l.drop (setK l nm) := by simp [setL, hh1]
      obtain ⟨vs, hvs⟩ : ∃ vs, vs = ys.take (setK l nm) ++ w :: ys.drop (setK l nm) := ⟨_, rfl⟩
      simp [hky, hkt, ← hT, he, hmn, hL1, hL2, hL3, cTab, cReln, cStr, cI, cS, dSl, ← List.map_take, ← List.map_drop, List.take_of_length_le, s35_10, ]
      obtain ⟨P1, P2⟩ := good_put (c := cTab) (wh := whTab) (j := setK l nm) (k := setK l nm) (Nat.le_refl _) hsn.1 (fun g hg => ⟨(hyi g hg).1, by have := (hyi g hg).2; show g < n3; omega⟩) G2.wh.2 hwG (by omega)
      rw [← hvs] at P1 P2
      have hvp : vs.map plTab = setL l nm ⟨ar, rows⟩ := by rw [hvs, map_put, hys, hwp, hSL]
      have hvk : ∀ t ∈ vs, okTab t := fun t ht => by
        rw [hvs] at ht
        rcases List.mem_append.1 ht with h | h
        · exact k2.2 t (List.mem_of_mem_take h)
        · rcases List.mem_cons.1 h with rfl | h
          · exact hwk
          · exact k2.2 t (List.mem_of_mem_drop h)
      have hvl : vs.length = ys.length + 1 := by rw [hvs]; simp; omega
      have hpV : hpLL (vs.map cTab) = false := hpLL_map (fun a => by simp) vs
      refine ⟨by omega, ?_⟩
      have hrow : List.map cTab (List.take (setK l nm) ys) ++ [D.str nm, D.int .i64 za, D.sl zid zT (zs.map (cS cI))] :: List.map cTab (List.drop (setK l nm) ys) = vs.map cTab := by rw [hvs, ← hwc]; simp
      have hnum : setK l nm + 1 + (ys.length - setK l nm) = ys.length + 1 := by omega
      repeat' apply And.intro
      all_goals
        simp only [hrow, hnum]
        refine call_own (by simp) (fun γ n hn hg => ⟨[.agg [.d (.sl (γ 59) (some (66, 3)) (vs.map cTab))]], by simp [hvl, hpV, List.take_of_length_le], (w_impl_IsValidDatabase ⟨vs.map plTab⟩).er (by simp [eDb, cP, pS, erLL_map er_cTab])⟩) (by rintro n _ rfl; simp [V.ids, D.ids, V.hp, D.hp]) fun n4 hs4 r4 hh4 hm4 hp4 hr4 => ?_
        subst hp4
        clear hr4
        simp at hh4
        rw [hvp]
        cases h4 : dbOk ⟨setL l nm ⟨ar, rows⟩⟩
        · have hB0 : setB ⟨l⟩ nm ⟨ar, rows⟩ = false := by simp [setB, h4]
          simp [s35_10, ]
          refine call_some hcopy (by simp [cDb, cS, dSl]) (by simp) fun n5 hs5 r5 hn5 hm5 hp5 hr5 => ?_
          obtain ⟨⟨⟨uid, uT, us⟩⟩, rfl, p5, k5, G5⟩ := hp5
          simp at hn5
          simp [cDb, cS, dSl, hB0, s35_10, ]
          exact ⟨⟨⟨uid, uT, us⟩⟩, by simp [cDb, cS, dSl], by simp [setP, hB0, p5], k5, G5.le (by omega)⟩
        · have hB1 : setB ⟨l⟩ nm ⟨ar, rows⟩ = true := by simp [setB, h1, h4]
          simp [hB1, s35_10, ]
          intro γ hs' h1' hg
          obtain ⟨q1, q2⟩ := gam_at hg (k := 59) (T := 66) (sz := 3) (es := vs.map cTab) (by simp)
          have q3 := gam_row hg (k := 59) (T := 66) (sz := 3) (es := vs.map cTab) (by simp)
          clear hg
          have hp : hpLL (vs.map cTab) = false := hpLL_map (fun a => by simp) vs
          simp [hp, hvl, List.take_of_length_le]
          exact ⟨⟨⟨γ 59, some (66, 3), vs⟩⟩, by simp [cDb, cS, dSl], by simp only [setP, hB1, if_true, plDb, plS, hvp], ⟨by simp only [maxLen]; show vs.length ≤ _; omega, hvk⟩, good_row (fun g hg => (q1 g hg).1) (by simpa using q2) q3 ⟨P1.1, fun g hg => by have := P1.2 g hg; omega⟩ P2⟩
  · have hkn : setK l nm = l.length := by omega
    have hL1 : LenOk 48 l.length := ⟨by omega, by simp only [maxLen]; omega⟩
    have hL2 : LenOk 48 (l.length + 1) := ⟨by omega, by simp only [maxLen]; omega⟩
    simp [hkn, hyl, cReln, cI, cS, dSl, s35_10, ]
    refine call_some hcR (by simp [cReln, cS, cI, dSl]) (by simp) fun n3 hs3 r3 hn3 hm3 hp3 hr3 => ?_
    obtain ⟨⟨za, ⟨zid, zT, zs⟩⟩, rfl, p3, k3, G3⟩ := hp3
    simp at hn3
    have hr3' : ∀ g ∈ idsL (cReln ⟨za, ⟨zid, zT, zs⟩⟩), g < hs3 := fun g hg => hr3 g (by rw [ids_agg]; exact hg)
    obtain ⟨w, hw⟩ : ∃ w : Tab, w = ⟨nm, ⟨za, ⟨zid, zT, zs⟩⟩⟩ := ⟨_, rfl⟩
    have hwc : cTab w = [D.str nm, D.int .i64 za, D.sl zid zT (zs.map (cS cI))] := by rw [hw]; simp [cTab, cReln, cStr, cI, cS, dSl]
    have hwp : plTab w = ⟨nm, ⟨ar, rows⟩⟩ := by rw [hw, plTab, p3]; rfl
    have hwG : Good (cTab w) (whTab w) n3 := by rw [hw]; exact good_Tab G3
    have hwk : okTab w := by rw [hw]; exact ⟨hnm, k3⟩
    have hyi : ∀ g ∈ idsLL (ys.map cTab), n2 ≤ g ∧ g < hs2 := fun g hg => by
      have hm : g ∈ idsL (cDb ⟨⟨yid, yT, ys⟩⟩) := by rw [cDb, idsL_cS]; exact mem_sl_ids.2 (.inr hg)
      exact ⟨G2.lo g hm, hr2' g hm⟩
    have hh1 : hitK l nm = false := by simp [hitK, hkt]
    have hSL : setL l nm ⟨ar, rows⟩ = l.take l.length ++ ⟨nm, ⟨ar, rows⟩⟩ :: l.drop l.length := by simp [setL, hh1, hkn]
    obtain ⟨vs, hvs⟩ : ∃ vs, vs = ys.take l.length ++ w :: ys.drop l.length := ⟨_, rfl⟩
    obtain ⟨P1, P2⟩ := good_put (c := cTab) (wh := whTab) (j := l.length) (k := l.length) (Nat.le_refl _) (sl_nd (s := (⟨yid, yT, ys⟩ : Sl Tab)) (c := cTab) (by have := G2.nd; rwa [cDb, idsL_cS] at this)).1 (fun g hg => ⟨(hyi g hg).1, by have := (hyi g hg).2; show g < n3; omega⟩) G2.wh.2 hwG (by omega)
    rw [← hvs] at P1 P2
    have hvp : vs.map plTab = setL l nm ⟨ar, rows⟩ := by rw [hvs, map_put, hys, hwp, hSL]
    have hvk : ∀ t ∈ vs, okTab t := fun t ht => by
      rw [hvs] at ht
      rcases List.mem_append.1 ht with h | h
      · exact k2.2 t (List.mem_of_mem_take h)
      · rcases List.mem_cons.1 h with rfl | h
        · exact hwk
        · exact k2.2 t (List.mem_of_mem_drop h)
    have hvl : vs.length = ys.length + 1 := by rw [hvs]; simp; omega
    have hpV : hpLL (vs.map cTab) = false := hpLL_map (fun a => by simp) vs
    have hrow : List.map cTab (List.take l.length ys) ++ [[D.str nm, D.int .i64 za, D.sl zid zT (zs.map (cS cI))]] = vs.map cTab := by rw [hvs, ← hwc]; simp [← hyl]
    have hnum : l.length + 1 = ys.length + 1 := by omega
    simp [hkn, hyl, hL1, hL2, cTab, cReln, cStr, cI, cS, dSl, ← List.map_take, s35_10, ]
    repeat' apply And.intro
    all_goals
      simp only [hrow, hnum]
      refine call_own (by simp) (fun γ n hn hg => ⟨[.agg [.d (.sl (γ 59) (some (66, 3)) (vs.map cTab))]], by simp [hvl, hpV, List.take_of_length_le], (w_impl_IsValidDatabase ⟨vs.map plTab⟩).er (by simp [eDb, cP, pS, erLL_map er_cTab])⟩) (by rintro n _ rfl; simp [V.ids, D.ids, V.hp, D.hp]) fun n4 hs4 r4 hh4 hm4 hp4 hr4 => ?_
      subst hp4
      clear hr4
      simp at hh4
      rw [hvp]
      cases h4 : dbOk ⟨setL l nm ⟨ar, rows⟩⟩
      · have hB0 : setB ⟨l⟩ nm ⟨ar, rows⟩ = false := by simp [setB, h4]
        simp [s35_10, ]
        refine call_some hcopy (by simp [cDb, cS, dSl]) (by simp) fun n5 hs5 r5 hn5 hm5 hp5 hr5 => ?_
        obtain ⟨⟨⟨uid, uT, us⟩⟩, rfl, p5, k5, G5⟩ := hp5
        simp at hn5
        simp [cDb, cS, dSl, hB0, s35_10, ]
        exact ⟨⟨⟨uid, uT, us⟩⟩, by simp [cDb, cS, dSl], by simp [setP, hB0, p5], k5, G5.le (by omega)⟩
      · have hB1 : setB ⟨l⟩ nm ⟨ar, rows⟩ = true := by simp [setB, h1, h4]
        simp [hB1, s35_10, ]
        intro γ hs' h1' hg
        obtain ⟨q1, q2⟩ := gam_at hg (k := 59) (T := 66) (sz := 3) (es := vs.map cTab) (by simp)
        have q3 := gam_row hg (k := 59) (T := 66) (sz := 3) (es := vs.map cTab) (by simp)
        clear hg
        have hp : hpLL (vs.map cTab) = false := hpLL_map (fun a => by simp) vs
        simp [hp, hvl, List.take_of_length_le]
        exact ⟨⟨⟨γ 59, some (66, 3), vs⟩⟩, by simp [cDb, cS, dSl], by simp only [setP, hB1, if_true, plDb, plS, hvp], ⟨by simp only [maxLen]; show vs.length ≤ _; omega, hvk⟩, good_row (fun g hg => (q1 g hg).1) (by simpa using q2) q3 ⟨P1.1, fun g hg => by have := P1.2 g hg; omega⟩ P2⟩
end

end Go.Proofs.Ytninbnbgaeailaa

namespace Go.Proofs.Ytninbnbgaeailaa
open Go.Vs Go.Proofs Go
set_option maxRecDepth 100000
set_option maxHeartbeats 1000000

section
attribute [local simp] plI_id plStr_id map_plI map_plStr pS cP cI cStr cU8 cB eTab eReln eDelta
theorem w_spec_ApplyDelta (d : PDb) (x : PDelta) (hz : szDb d) (hst : ∀ t ∈ d.tabs, t.name.length ≤ maxLen) (hnm : x.name.length ≤ maxLen) :
   VC Try.prog 24 [.agg ((eDb d).map V.d), .agg ((eDelta x).map V.d)] (fun _ v => v = .tup [.agg ((eDb (appP d x)).map V.d), .d (.bool (appB d x))]) := by
  refine VC.ofL EP s24 (by kernel_rfl) Try.func24 (by rfl) (by kernel_rfl) (by simp [Try.f24]) (by simp [Try.f24]) s24_ok fun B hl => ?_
  obtain ⟨nm, ⟨ia, il⟩, ⟨da, dl⟩⟩ := x
  obtain ⟨X, hX⟩ : ∃ X : PDelta, X = ⟨nm, ⟨ia, il⟩, ⟨da, dl⟩⟩ := ⟨_, rfl⟩
  rw [← hX]
  have hXn : X.name = nm := by rw [hX]
  obtain ⟨l⟩ := d
  simp [Try.f24, eDb]
  refine call_p (w_spec_NormalizeDelta ⟨l⟩ X hst) (by simp [eDb, hX]) fun hs1 hh1 hl1 => ?_
  simp at hh1
  obtain ⟨⟨yn, ⟨ya, yi⟩, ⟨yb, yd⟩⟩, hY⟩ : ∃ Y, Y = norP ⟨l⟩ X := ⟨_, rfl⟩
  rw [← hY]
  cases h1 : fitB ⟨l⟩ X
  · have hG : appG ⟨l⟩ X = false := by simp [appG, h1]
    simp []
    refine call_p (w_spec_l6Copy ⟨l⟩ hz) (by simp [eDb]) fun hs2 hh2 hl2 => ?_
    simp [eDb, appP, appB, hG]
  simp []
  refine call_p (w_spec_LookupRelation ⟨l⟩ nm hst) (by simp [eDb, hX]) fun hs2 hh2 hl2 => ?_
  simp at hh2
  obtain ⟨⟨ra, rl⟩, hR⟩ : ∃ R, R = lkR ⟨l⟩ nm := ⟨_, rfl⟩
  rw [← hR]
  simp []
  refine call_p (w_spec_Difference ⟨ra, rl⟩ ⟨yb, yd⟩) (by simp) fun hs3 hh3 hl3 => ?_
  simp at hh3
  have hD : difR ⟨ra, rl⟩ ⟨yb, yd⟩ = difD ⟨l⟩ X := by rw [difD, ← hY, hXn, ← hR]
  rw [hD]
  obtain ⟨⟨ea, el⟩, hE⟩ : ∃ E, E = difD ⟨l⟩ X := ⟨_, rfl⟩
  rw [← hE]
  simp []
  refine call_p (w_spec_Union ⟨ea, el⟩ ⟨ya, yi⟩) (by simp) fun hs4 hh4 hl4 => ?_
  simp at hh4
  have hU : uniR ⟨ea, el⟩ ⟨ya, yi⟩ = appU ⟨l⟩ X := by rw [appU, ← hY, hE]
  rw [hU]
  obtain ⟨⟨ua, ul⟩, hV⟩ : ∃ E, E = appU ⟨l⟩ X := ⟨_, rfl⟩
  rw [← hV]
  have hG : appG ⟨l⟩ X = uniB ⟨ea, el⟩ ⟨ya, yi⟩ := by rw [appG, h1, ← hY, hE, Bool.true_and]
  cases h2 : uniB ⟨ea, el⟩ ⟨ya, yi⟩
  · rw [h2] at hG
    simp []
    refine call_p (w_spec_l6Copy ⟨l⟩ hz) (by simp [eDb]) fun hs5 hh5 hl5 => ?_
    simp [eDb, appP, appB, hG]
  · rw [h2] at hG
    simp []
    refine call_p (w_spec_SetRelation ⟨l⟩ nm ⟨ua, ul⟩ hz hst hnm) (by simp [eDb, hX]) fun hs5 hh5 hl5 => ?_
    simp [eDb, appP, appB, hG, ← hV, hXn]
end
section
attribute [local simp] plI_id plStr_id map_plI map_plStr
theorem t_impl_ApplyDelta (d : Db) (x : Delta) (hd : okDb d) (hx : okDelta x) (hz : szDb (plDb d)) :
   VC Try.prog 11 [.agg ((cDb d).map V.d), .agg ((cDelta x).map V.d)]
   (fun n v => ∃ y : Db, v = .tup [.agg ((cDb y).map V.d), .d (.bool (appB (plDb d) (plDelta x)))] ∧ plDb y = appP (plDb d) (plDelta x) ∧ okDb y ∧ Good (cDb y) (whDb y) n) := by
  refine VC.of E s11 (by kernel_rfl) Try.func11 (by rfl) (by kernel_rfl) (by simp [Try.f11]) (by simp [Try.f11]) s11_ok fun B => ?_
  have hcopy := t_impl_copyDatabase d hd hz
  have hnorm := t_impl_NormalizeDelta d x hd hx
  obtain ⟨dp, hdp⟩ : ∃ dp, dp = plDb d := ⟨_, rfl⟩
  have hdl : erLL (d.tabs.xs.map cTab) = dp.tabs.map eTab := by rw [erLL_map er_cTab, hdp]; rfl
  have hset := fun r hr => t_impl_SetRelation d x.name r hd hz hx.1 hr
  obtain ⟨X, hX⟩ : ∃ X, X = plDelta x := ⟨_, rfl⟩
  have hXn : X.name = x.name := by rw [hX]; simp [plDelta]
  rw [← hdp, ← hX] at hnorm ⊢
  rw [← hdp] at hcopy hset
  obtain ⟨⟨did, dT, dts⟩⟩ := d
  obtain ⟨nm, ⟨ia, ⟨iid, iT, il⟩⟩, ⟨da, ⟨did2, dT2, dl⟩⟩⟩ := x
  simp only at hdl hset hXn
  simp [Try.f11, cDb, cDelta, cReln, cStr, cS, cI, dSl]
  refine call_some hnorm (by simp [cDb, cDelta, cReln, cStr, cS, cI, dSl]) (by simp) fun n1 hs1 r1 hn1 hm1 hp1 hr1 => ?_
  obtain ⟨⟨yn, yi, ⟨yb, ⟨ydid, ydT, yd⟩⟩⟩, rfl, p1, k1, G1⟩ := hp1
  simp at hn1
  obtain ⟨ya, ⟨yiid, yiT, yil⟩⟩ := yi
  cases h1 : fitB dp X
  · have hG : appG dp X = false := by simp [appG, h1]
    simp [cDb, cDelta, cReln, cStr, cS, cI, dSl, ]
    refine call_some hcopy (by simp [cDb, cS, dSl]) (by simp) fun n2 hs2 r2 hn2 hm2 hp2 hr2 => ?_
    obtain ⟨⟨⟨vid, vT, vs⟩⟩, rfl, p2, k2, G2⟩ := hp2
    simp at hn2
    simp [cDb, cS, dSl, appB, appP, hG, ]
    exact ⟨⟨⟨vid, vT, vs⟩⟩, by simp [cDb, cS, dSl], p2, k2, G2.le (by omega)⟩
  simp [cDb, cDelta, cReln, cStr, cS, cI, dSl, ]
  refine call_p (w_impl_LookupRelation dp nm) (by simp [eDb, cP, pS, hdl]) fun hs2 hh2 hl2 => ?_
  simp at hh2
  obtain ⟨⟨ra, rl⟩, hR⟩ : ∃ R, R = lkR dp nm := ⟨_, rfl⟩
  rw [← hR]
  simp [eReln, cI, cP, pS, ]
  refine call_p (q_impl_Difference ⟨ra, rl⟩ ⟨yb, yd.map (plS plI)⟩) (by simp [eReln, cI, cP, pS, erLL_map (er_cS er_cI)]) fun hs3 hh3 hl3 => ?_
  simp at hh3
  have hD : difR ⟨ra, rl⟩ ⟨yb, yd.map (plS plI)⟩ = difD dp X := by rw [difD, ← p1, hXn, ← hR]; rfl
  rw [hD]
  obtain ⟨⟨ea, el⟩, hE⟩ : ∃ E, E = difD dp X := ⟨_, rfl⟩
  rw [← hE]
  simp [eReln, cI, cP, pS, ]
  refine call_some (e_impl_Union ⟨ea, el⟩ ⟨ya, ⟨yiid, yiT, yil⟩⟩ k1.2.1) (by simp [eReln, cReln, cS, cI, cP, pS, dSl]) (by simp) fun n4 hs4 r4 hn4 hm4 hp4 hr4 => ?_
  obtain ⟨⟨ua, ⟨uid, uT, ul⟩⟩, rfl, p4, k4, G4⟩ := hp4
  simp at hn4
  have hU : uniR ⟨ea, el⟩ (plReln ⟨ya, ⟨yiid, yiT, yil⟩⟩) = appU dp X := by rw [appU, ← p1, hE]; rfl
  have hG : appG dp X = uniB ⟨ea, el⟩ (plReln ⟨ya, ⟨yiid, yiT, yil⟩⟩) := by rw [appG, h1, ← p1, hE, Bool.true_and]; rfl
  cases h2 : uniB ⟨ea, el⟩ (plReln ⟨ya, ⟨yiid, yiT, yil⟩⟩)
  · rw [h2] at hG
    simp [cReln, cI, cS, dSl, ]
    refine call_some hcopy (by simp [cDb, cS, dSl]) (by simp) fun n5 hs5 r5 hn5 hm5 hp5 hr5 => ?_
    obtain ⟨⟨⟨vid, vT, vs⟩⟩, rfl, p5, k5, G5⟩ := hp5
    simp at hn5
    simp [cDb, cS, dSl, appB, appP, hG, ]
    exact ⟨⟨⟨vid, vT, vs⟩⟩, by simp [cDb, cS, dSl], p5, k5, G5.le (by omega)⟩
  · rw [h2] at hG
    have hsz := uniR_ok h2
    rw [← p4] at hsz
    simp [cReln, cI, cS, dSl, ]
    refine call_some (hset ⟨ua, ⟨uid, uT, ul⟩⟩ hsz) (by simp [cDb, cReln, cI, cS, dSl]) (by simp) fun n5 hs5 r5 hn5 hm5 hp5 hr5 => ?_
    obtain ⟨⟨⟨vid, vT, vs⟩⟩, rfl, p5, k5, G5⟩ := hp5
    simp at hn5
    have hUp : plReln ⟨ua, ⟨uid, uT, ul⟩⟩ = appU dp X := by rw [p4, hU]
    rw [hUp] at p5 ⊢
    simp [cDb, cS, dSl, appB, appP, hG, hXn, ]
    exact ⟨⟨⟨vid, vT, vs⟩⟩, by simp [cDb, cS, dSl], p5, k5, G5.le (by omega)⟩
end

end Go.Proofs.Ytninbnbgaeailaa

namespace Go.Proofs.Ytninbnbgaeailaa
open Go.Vs Go.Proofs Go
set_option maxRecDepth 100000
set_option maxHeartbeats 1000000

section
attribute [local simp] plI_id plStr_id map_plI map_plStr pS cP cI cStr cU8 cB
theorem w_spec_ApplyBatch (d : PDb) (xs : List PDelta) (hz : szDb d) (hst : ∀ t ∈ d.tabs, t.name.length ≤ maxLen) (hnm : ∀ x ∈ xs, x.name.length ≤ maxLen) :
   VC Try.prog 19 [.agg ((eDb d).map V.d), .d (pS eDelta xs)] (fun _ v => v = .tup [.agg ((eDb (batP d xs)).map V.d), .d (.int .i64 (batN d xs)), .d (.bool (batB d xs))]) := by
  refine VC.ofL EP s19 (by kernel_rfl) Try.func19 (by rfl) (by kernel_rfl) (by simp [Try.f19]) (by simp [Try.f19]) s19_ok fun B hl => ?_
  obtain ⟨l⟩ := d
  by_cases hx5 : xs.length ≤ 5
  case neg =>
    have hG : batG ⟨l⟩ xs = false := by simp [batG, hx5]
    have hg : ((xs.length : Int) ≤ 5) = False := by simp; omega
    have hg2 : (5 < (xs.length : Int)) = True := by simp; omega
    simp [Try.f19, s19_7, s19_7, eDb, hg, hg2]
    refine call_p (w_spec_l6Copy ⟨l⟩ hz) (by simp [eDb]) fun hs2 hh2 hl2 => ?_
    simp [eDb, batP, batN, batB, bat_no hG]
  have hg2 : (5 < (xs.length : Int)) = False := by simp; omega
  simp [Try.f19, s19_7, s19_7, eDb, hg2]
  refine call_f (w_spec_IsValidDatabase ⟨l⟩ hst) (by simp [eDb]) rfl fun hs1 hh1 => ?_
  simp at hh1
  cases h1 : dbOk ⟨l⟩
  · have hG : batG ⟨l⟩ xs = false := by simp [batG, h1]
    simp [s19_7, ]
    refine call_p (w_spec_l6Copy ⟨l⟩ hz) (by simp [eDb]) fun hs2 hh2 hl2 => ?_
    simp [eDb, batP, batN, batB, bat_no hG]
  have hG : batG ⟨l⟩ xs = true := by simp [batG, h1, hx5]
  simp [s19_7, ]
  refine call_p (w_spec_l6Copy ⟨l⟩ hz) (by simp [eDb]) fun hs2 hh2 hl2 => ?_
  simp [eDb, s19_7, ]
  refine loop_rule (X := Nat × PDb) (fun p => RunI ⟨l⟩ xs p.1 p.2) (fun p => [(1, .d (.pl (xs.map eDelta))), (2, .ptr 2 0 0), (4, .ptr 4 0 0), (7, .ptr 7 0 0), (8, .d (.int .i64 p.1))])
    (fun p => [(2, some (.box [.d (.pl (l.map eTab))])), (4, some (.box [.d (.sl none none [])])), (7, some (.box [.d (.pl (p.2.tabs.map eTab))]))]) (fun p => xs.length - p.1) (0, ⟨l⟩) (.zero h1) (by simp) (by simp) ?_
  rintro ⟨i, ⟨c⟩⟩ hs t m hI hh
  have hle := hI.le
  have hok := hI.ok
  simp only at hle hok
  by_cases hlt : i < xs.length
  · have hwi := wr1 (i := i) (by omega)
    obtain ⟨⟨xn, ⟨xa, xi⟩, ⟨xb, xd⟩⟩, hX⟩ : ∃ x, x = xs[i] := ⟨_, rfl⟩
    have hxn := hnm _ (List.getElem_mem hlt)
    rw [← hX] at hxn
    have hA := w_spec_ApplyDelta ⟨c⟩ _ (szDb_ok hok) (dbOk_st hok) hxn
    have hstp := hI.step hlt
    have hbad := hI.bad hlt
    rw [← hX] at hstp hbad
    simp [hlt, ← hX, eDelta, eReln, s19_7, ]
    repeat' apply And.intro
    all_goals
      refine call_p hA (by simp [eDb, eDelta, eReln]) fun hs3 hh3 hl3 => ?_
      simp at hh3
      cases hb : appB ⟨c⟩ ⟨xn, ⟨xa, xi⟩, ⟨xb, xd⟩⟩
      · have e := hbad hb
        simp [eDb, s19_7, ]
        refine call_p (w_spec_l6Copy ⟨l⟩ hz) (by simp [eDb]) fun hs2 hh2 hl2 => ?_
        simp [eDb, batP, batN, batB, bat_bad hG e]
      · have hs1' := hstp hb
        obtain ⟨c', hc'⟩ : ∃ c', c' = appP ⟨c⟩ ⟨xn, ⟨xa, xi⟩, ⟨xb, xd⟩⟩ := ⟨_, rfl⟩
        rw [← hc'] at hs1' ⊢
        simp [eDb, hwi, s19_7, ]
        exact back (i + 1, c') hs1' (by simp only; omega) rfl (by simp <;> omega) (by simp) (by simp)
  · have e := hI.done (by omega)
    have hi : i = xs.length := by omega
    simp [hlt, s19_7, ]
    simp [eDb, batP, batN, batB, bat_done hG e, hi]
end

end Go.Proofs.Ytninbnbgaeailaa

namespace Go.Proofs.Ytninbnbgaeailaa
open Go.Vs Go.Proofs Go
set_option maxRecDepth 100000
set_option maxHeartbeats 1000000

section
attribute [local simp] plI_id plStr_id map_plI map_plStr
theorem t_impl_ApplyBatch (d : Db) (xs : Sl Delta) (hd : okDb d) (hx : okS okDelta xs) (hz : szDb (plDb d)) :
   VC Try.prog 18 [.agg ((cDb d).map V.d), .d (dSl cDelta xs)]
   (fun n v => ∃ y : Db, v = .tup [.agg ((cDb y).map V.d), .d (.int .i64 (batN (plDb d) (plS plDelta xs))), .d (.bool (batB (plDb d) (plS plDelta xs)))] ∧ plDb y = batP (plDb d) (plS plDelta xs) ∧ okDb y ∧ Good (cDb y) (whDb y) n) := by
  refine VC.of E s18 (by kernel_rfl) Try.func18 (by rfl) (by kernel_rfl) (by simp [Try.f18]) (by simp [Try.f18]) s18_ok fun B => ?_
  have hcopy := t_impl_copyDatabase d hd hz
  have happ := fun (y : Db) (x : Delta) (ky : okDb y) (kx : okDelta x) (hy : dbOk (plDb y) = true) => t_impl_ApplyDelta y x ky kx (szDb_ok hy)
  obtain ⟨dp, hdp⟩ : ∃ dp, dp = plDb d := ⟨_, rfl⟩
  have hdl : erLL (d.tabs.xs.map cTab) = dp.tabs.map eTab := by rw [erLL_map er_cTab, hdp]; rfl
  rw [← hdp] at hcopy ⊢
  obtain ⟨⟨did, dT, dts⟩⟩ := d
  obtain ⟨xid, xT, xl⟩ := xs
  obtain ⟨L, hL⟩ : ∃ L, L = plS plDelta ⟨xid, xT, xl⟩ := ⟨_, rfl⟩
  have hLl : L.length = xl.length := by rw [hL]; simp [plS]
  rw [← hL]
  simp only at hdl
  by_cases hx5 : xl.length ≤ 5
  case neg =>
    have hG : batG dp L = false := by simp [batG, hLl, hx5]
    have hg2 : (5 < (xl.length : Int)) = True := by simp; omega
    simp [Try.f18, cDb, cS, dSl, hg2]
    refine call_some hcopy (by simp [cDb, cS, dSl]) (by simp) fun n2 hs2 r2 hn2 hm2 hp2 hr2 => ?_
    obtain ⟨⟨⟨vid, vT, vs⟩⟩, rfl, p2, k2, G2⟩ := hp2
    simp at hn2
    simp [cDb, cS, dSl, batP, batN, batB, bat_no hG, ]
    exact ⟨⟨⟨vid, vT, vs⟩⟩, by simp [cDb, cS, dSl], p2, k2, G2.le (by omega)⟩
  have hg2 : (5 < (xl.length : Int)) = False := by simp; omega
  simp [Try.f18, cDb, cS, dSl, hg2]
  refine call_f (w_impl_IsValidDatabase dp) (by simp [eDb, cP, pS, hdl]) rfl fun hs1 hh1 => ?_
  simp at hh1
  cases h1 : dbOk dp
  · have hG : batG dp L = false := by simp [batG, h1]
    simp []
    refine call_some hcopy (by simp [cDb, cS, dSl]) (by simp) fun n2 hs2 r2 hn2 hm2 hp2 hr2 => ?_
    obtain ⟨⟨⟨vid, vT, vs⟩⟩, rfl, p2, k2, G2⟩ := hp2
    simp at hn2
    simp [cDb, cS, dSl, batP, batN, batB, bat_no hG, ]
    exact ⟨⟨⟨vid, vT, vs⟩⟩, by simp [cDb, cS, dSl], p2, k2, G2.le (by omega)⟩
  have hG : batG dp L = true := by simp [batG, h1, hLl, hx5]
  simp []
  refine call_some hcopy (by simp [cDb, cS, dSl]) (by simp) fun n2 hs2 r2 hn2 hm2 hp2 hr2 => ?_
  obtain ⟨⟨⟨yid, yT, ys⟩⟩, rfl, p2, k2, G2⟩ := hp2
  simp at hn2
  simp [cDb, cS, dSl, ]
  refine loop_rule (X := Nat × Db) (fun p => RunT dp L B p) (fun p => [(1, .d (.sl xid xT (xl.map cDelta))), (2, .ptr 2 0 0), (4, .ptr 4 0 0), (7, .ptr 7 0 0), (24, .d (.sl xid xT (xl.map cDelta))), (25, .d (.int .i64 xl.length)), (26, .d (.int .i64 p.1))])
    (fun p => [(2, some (.box [.d (.sl did dT (dts.map cTab))])), (4, some (.box [.d (.sl none none [])])), (7, some (.box ((cDb p.2).map V.d)))]) (fun p => L.length - p.1) (0, ⟨⟨yid, yT, ys⟩⟩) ⟨by rw [p2]; exact .zero h1, k2, G2.le (by omega)⟩ (by simp) (by simp [cDb, cS, dSl]) ?_
  rintro ⟨i, ⟨⟨uid, uT, us⟩⟩⟩ hs t m hI hh
  have hle := hI.run.le
  simp only at hle
  by_cases hlt : i < xl.length
  · have hwi := wr1 (i := i) (by omega)
    have hltL : i < L.length := by omega
    have hok := hx.2 _ (List.getElem_mem hlt)
    have hLi : L[i] = plDelta xl[i] := by simp [hL, plS]
    obtain ⟨⟨xn, ⟨xa, ⟨xiid, xiT, xi⟩⟩, ⟨xb, ⟨xdid, xdT, xd⟩⟩⟩, hX⟩ : ∃ x, x = xl[i] := ⟨_, rfl⟩
    have hA := happ _ _ hI.ok hok hI.run.ok
    have hstp := hI.run.step hltL
    have hbad := hI.run.bad hltL
    rw [hLi] at hstp hbad
    rw [← hX] at hstp hbad hA
    simp [hlt, ← hX, cDb, cDelta, cReln, cStr, cI, cS, dSl, ]
    refine call_some hA (by simp [cDb, cDelta, cReln, cStr, cI, cS, dSl]) (by simp) fun n3 hs3 r3 hn3 hm3 hp3 hr3 => ?_
    obtain ⟨⟨⟨vid, vT, vs⟩⟩, rfl, p3, k3, G3⟩ := hp3
    simp at hn3
    cases hb : appB (plDb ⟨⟨uid, uT, us⟩⟩) (plDelta ⟨xn, ⟨xa, ⟨xiid, xiT, xi⟩⟩, ⟨xb, ⟨xdid, xdT, xd⟩⟩⟩)
    · have e := hbad hb
      simp [cDb, cS, dSl, ]
      refine call_some hcopy (by simp [cDb, cS, dSl]) (by simp) fun n4 hs4 r4 hn4 hm4 hp4 hr4 => ?_
      obtain ⟨⟨⟨wid, wT, ws⟩⟩, rfl, p4, k4, G4⟩ := hp4
      simp at hn4
      simp [cDb, cS, dSl, batP, batN, batB, bat_bad hG e, ]
      exact ⟨⟨⟨wid, wT, ws⟩⟩, by simp [cDb, cS, dSl], p4, k4, G4.le (by omega)⟩
    · have hs1' := hstp hb
      rw [← p3] at hs1'
      simp [cDb, cS, dSl, hwi, ]
      exact back (i + 1, ⟨⟨vid, vT, vs⟩⟩) ⟨hs1', k3, G3.le (by omega)⟩ (by simp only; omega) rfl (by simp <;> omega) (by simp) (by simp [cDb, cS, dSl])
  · have e := hI.run.done (by omega)
    have hi : i = xl.length := by omega
    simp only at e
    simp [hlt, cDb, cS, dSl, ]
    exact ⟨⟨⟨uid, uT, us⟩⟩, by simp [cDb, cS, dSl, batN, batB, bat_done hG e, hi], by simp [batP, bat_done hG e], hI.ok, hI.good⟩
end

end Go.Proofs.Ytninbnbgaeailaa

namespace Go.Proofs.Ytninbnbgaeailaa
open Go.Vs Go.Proofs Go
set_option maxRecDepth 100000
set_option maxHeartbeats 1000000

section
attribute [local simp] plI_id plStr_id map_plI map_plStr pS cP cI cStr cU8 cB
end

end Go.Proofs.Ytninbnbgaeailaa

namespace Go.Proofs.Ytninbnbgaeailaa
open Go.Vs Go.Proofs Go
set_option maxRecDepth 100000
set_option maxHeartbeats 1000000

section
attribute [local simp] plI_id plStr_id map_plI map_plStr
theorem t_impl_IsValidBatch (d : Db) (xs : Sl Delta) (hd : okDb d) (hx : okS okDelta xs) (hz : szDb (plDb d)) :
   VC Try.prog 22 [.agg ((cDb d).map V.d), .d (dSl cDelta xs)] (fun _ v => v = .d (.bool (batB (plDb d) (plS plDelta xs)))) := by
  refine VC.of E s22 (by kernel_rfl) Try.func22 (by rfl) (by kernel_rfl) (by simp [Try.f22]) (by simp [Try.f22]) s22_ok fun B => ?_
  have hA := t_impl_ApplyBatch d xs hd hx hz
  obtain ⟨⟨did, dT, dts⟩⟩ := d
  obtain ⟨xid, xT, xl⟩ := xs
  simp [Try.f22, cDb, cS, dSl]
  refine call_some hA (by simp [cDb, cS, dSl]) (by simp) fun n2 hs2 r2 hn2 hm2 hp2 hr2 => ?_
  obtain ⟨⟨⟨vid, vT, vs⟩⟩, rfl, p2, k2, G2⟩ := hp2
  simp at hn2
  simp [cDb, cS, dSl, ]
theorem t_impl_InvertDelta (x : Delta) (hx : okStr x.name) (h1 : szRel (plReln x.ins)) (h2 : szRel (plReln x.del)) : VC Try.prog 15 [.agg ((cDelta x).map V.d)]
   (fun n v => ∃ y : Delta, v = .agg ((cDelta y).map V.d) ∧ plDelta y = invD (plDelta x) ∧ okDelta y ∧ Good (cDelta y) (whDelta y) n) := by
  refine VC.of E s15 (by kernel_rfl) Try.func15 (by rfl) (by kernel_rfl) (by simp [Try.f15]) (by simp [Try.f15]) s15_ok fun B => ?_
  have hr : ∀ r : Reln, rpL (fun _ => none) [.agg ((cReln r).map V.d)] = some [.agg ((eReln (plReln r)).map V.d)] := fun r => by
    simp [cReln, cS, cI, dSl, eReln, pS, cP, plReln, plS, plI, erLL_map (er_cS er_cI)]
  have hc1 := (e_impl_copyRelation (plReln x.ins) h1.1 h1.2).er (hr _)
  have hc2 := (e_impl_copyRelation (plReln x.del) h2.1 h2.2).er (hr _)
  obtain ⟨X, hX⟩ : ∃ X, X = plDelta x := ⟨_, rfl⟩
  have hXe : invD X = ⟨x.name, plReln x.del, plReln x.ins⟩ := by rw [hX]; rfl
  rw [← hX, hXe]
  obtain ⟨nm, ⟨ia, ⟨iid, iT, il⟩⟩, ⟨da, ⟨did, dT, dl⟩⟩⟩ := x
  simp only at hc1 hc2 hx ⊢
  simp [Try.f15, s15_1, s15_1, cDelta, cReln, cStr, cI, cS, dSl]
  repeat' apply And.intro
  all_goals
    first
    | refine call_some hc2 (by simp [cReln, cI, cS, dSl]) (by simp [cReln, cI, cS, dSl]) fun n1 hs1 r1 hn1 hm1 hp1 hr1 => ?_
      obtain ⟨⟨ya, ⟨yid, yT, ys⟩⟩, rfl, p1, k1, G1⟩ := hp1
      have u1 : ∀ g ∈ idsL (cReln ⟨ya, ⟨yid, yT, ys⟩⟩), g < hs1 := fun g hg => hr1 g (by rw [ids_agg]; exact hg)
      simp at hn1
      simp [cReln, cI, cS, dSl, s15_1, ]
      refine call_some hc1 (by simp [cReln, cI, cS, dSl]) (by simp [cReln, cI, cS, dSl]) fun n2 hs2 r2 hn2 hm2 hp2 hr2 => ?_
      obtain ⟨⟨za, ⟨zid, zT, zs⟩⟩, rfl, p2, k2, G2⟩ := hp2
      simp at hn2
      simp [cReln, cI, cS, dSl, s15_1, ]
      exact ⟨⟨nm, ⟨ya, ⟨yid, yT, ys⟩⟩, ⟨za, ⟨zid, zT, zs⟩⟩⟩, by simp [cDelta, cReln, cStr, cI, cS, dSl], by simp only [plDelta, p1, p2]; rfl, ⟨hx, k1, k2⟩, (good_Delta G1 u1 G2 (by omega)).le (by omega)⟩
    | trace_state; sorry
theorem t_impl_InvertBatch (d : Db) (xs : Sl Delta) (hd : okDb d) (hx : okS okDelta xs) (hz : szDb (plDb d)) :
   VC Try.prog 20 [.agg ((cDb d).map V.d), .d (dSl cDelta xs)]
   (fun n v => ∃ y : Sl Delta, v = .tup [.d (dSl cDelta y), .d (.bool (batB (plDb d) (plS plDelta xs)))] ∧ plS plDelta y = invP (plDb d) (plS plDelta xs) ∧ okS okDelta y ∧ Good (cS cDelta y) (whS whDelta y) n) := by
  refine VC.of E s20 (by kernel_rfl) Try.func20 (by rfl) (by kernel_rfl) (by simp [Try.f20]) (by simp [Try.f20]) s20_ok fun B => ?_
  have hval := t_impl_IsValidBatch d xs hd hx hz
  have happ := fun (y : Db) (x : Delta) (ky : okDb y) (kx : okDelta x) (hy : dbOk (plDb y) = true) => t_impl_ApplyDelta y x ky kx (szDb_ok hy)
  obtain ⟨dp, hdp⟩ : ∃ dp, dp = plDb d := ⟨_, rfl⟩
  rw [← hdp] at hval ⊢
  obtain ⟨⟨did, dT, dts⟩⟩ := d
  obtain ⟨xid, xT, xl⟩ := xs
  obtain ⟨L, hL⟩ : ∃ L, L = plS plDelta ⟨xid, xT, xl⟩ := ⟨_, rfl⟩
  have hLl : L.length = xl.length := by rw [hL]; simp [plS]
  rw [← hL] at hval ⊢
  simp [Try.f20, cDb, cS, dSl]
  refine call_pure hval (by simp) (by simp [cDb, cS, dSl]) rfl fun hs1 hh1 => ?_
  simp at hh1
  cases hB : batB dp L
  · simp []
    exact ⟨⟨none, none, []⟩, by simp, by simp [invP, hB, plS], ok_nilS, good_nilS _⟩
  have hn5 : xl.length ≤ 5 := by
    have := (batB_run hB).1
    simp only [batG, Bool.and_eq_true, decide_eq_true_eq] at this
    omega
  simp []
  refine loop_ruleL (X := Nat × Db × Sl Delta) (InvT dp L B) (fun p => [(2, .ptr 2 0 0), (6, .d (dSl cDelta p.2.2)), (15, .d (.sl xid xT (xl.map cDelta))), (16, .d (.int .i64 xl.length)), (17, .d (.int .i64 p.1))])
    (fun p => [(2, some (.box ((cDb p.2.1).map V.d)))]) (fun p => L.length - p.1) ?_ ?_
  · exact Lead.of ⟨(0, ⟨⟨did, dT, dts⟩⟩, nilS), ⟨by rw [← hdp]; exact .zero hB, hd, by simp [nilS], good_nilS _, by simp [nilS, cS, dSl, idsL, D.ids, idsLL]⟩, rfl, rfl, Nat.le_refl _, by simp [dSl, nilS], by simp [cDb, cS, dSl]⟩
  rintro ⟨i, ⟨⟨uid, uT, us⟩⟩, ⟨yid, yT, ys⟩⟩ hs t m hI hh
  have hle := hI.run.run.le
  have hok := hI.run.run.ok
  have hacc := hI.run.len
  simp only at hle hok hacc
  have hyl : ys.length = i := by simpa [plS] using hacc
  by_cases hlt : i < xl.length
  · have hwi := wr1 (i := i) (by omega)
    have hltL : i < L.length := by omega
    have hL1 : LenOk 80 1 := ⟨by omega, by simp only [maxLen]; omega⟩
    have hL2 : LenOk 80 (1 + ys.length) := ⟨by omega, by simp only [maxLen]; omega⟩
    have hok1 := hx.2 _ (List.getElem_mem hlt)
    have hLi : L[i] = plDelta xl[i] := by simp [hL, plS]
    obtain ⟨⟨xn, ⟨xa, ⟨xiid, xiT, xi⟩⟩, ⟨xb, ⟨xdid, xdT, xd⟩⟩⟩, hX⟩ : ∃ x, x = xl[i] := ⟨_, rfl⟩
    have hA := happ _ _ hI.okd hok1 hok
    have hN := t_impl_NormalizeDelta _ _ hI.okd hok1
    have hstp := hI.run.step hB hltL
    rw [hLi] at hstp
    rw [← hX] at hstp hA hN
    simp only at hstp hA hN
    have hsn := szRel_norP (plDb ⟨⟨uid, uT, us⟩⟩) (plDelta ⟨xn, ⟨xa, ⟨xiid, xiT, xi⟩⟩, ⟨xb, ⟨xdid, xdT, xd⟩⟩⟩)
    refine anyQ2 fun Q => ?_
    simp [hlt, ← hX, cDb, cDelta, cReln, cStr, cI, cS, dSl, ]
    refine call_some hN (by simp [cDb, cDelta, cReln, cStr, cI, cS, dSl]) (by simp) fun n3 hs3 r3 hn3 hm3 hp3 hr3 => ?_
    obtain ⟨z, rfl, p3, k3, G3⟩ := hp3
    simp at hn3
    rw [← p3] at hsn hstp
    have hV := t_impl_InvertDelta z k3.1 hsn.1 hsn.2
    obtain ⟨zn, ⟨za, ⟨ziid, ziT, zi⟩⟩, ⟨zb, ⟨zdid, zdT, zd⟩⟩⟩ := z
    simp [cDb, cDelta, cReln, cStr, cI, cS, dSl, ]
    refine call_some hV (by simp [cDb, cDelta, cReln, cStr, cI, cS, dSl]) (by simp) fun n4 hs4 r4 hn4 hm4 hp4 hr4 => ?_
    obtain ⟨w, rfl, p4, k4, G4⟩ := hp4
    have u4 : ∀ g ∈ idsL (cDelta w), g < hs4 := fun g hg => hr4 g (by rw [ids_agg]; exact hg)
    simp at hn4
    rw [← p4] at hstp
    obtain ⟨wn, ⟨wa, ⟨wiid, wiT, wi⟩⟩, ⟨wb, ⟨wdid, wdT, wd⟩⟩⟩ := w
    simp [hlt, ← hX, cDb, cDelta, cReln, cStr, cI, cS, dSl, hL1, hL2, List.take_of_length_le, ]
    repeat' apply And.intro
    all_goals
      refine call_some hA (by simp [cDb, cDelta, cReln, cStr, cI, cS, dSl]) (by simp) fun n5 hs5 r5 hn5 hm5 hp5 hr5 => ?_
      obtain ⟨⟨⟨vid, vT, vs⟩⟩, rfl, p5, k5, G5⟩ := hp5
      simp at hn5
      rw [← p5] at hstp
      simp [cDb, cS, dSl, hwi, ]
      refine Back2.lead (lead_frz 29 (T := 33) (sz := 5) (es := (⟨wn, ⟨wa, ⟨wiid, wiT, wi⟩⟩, ⟨wb, ⟨wdid, wdT, wd⟩⟩⟩ :: ys).map cDelta) (by simp [cDelta, cReln, cStr, cI, cS, dSl])) ?_
      rintro _ ⟨γ, hs', h2, hg, rfl⟩
      obtain ⟨q1, q2⟩ := gam_at hg (k := 29) (T := 33) (sz := 5) (es := (⟨wn, ⟨wa, ⟨wiid, wiT, wi⟩⟩, ⟨wb, ⟨wdid, wdT, wd⟩⟩⟩ :: ys).map cDelta) (by simp [cDelta, cReln, cStr, cI, cS, dSl])
      have q3 := gam_row hg (k := 29) (T := 33) (sz := 5) (es := (⟨wn, ⟨wa, ⟨wiid, wiT, wi⟩⟩, ⟨wb, ⟨wdid, wdT, wd⟩⟩⟩ :: ys).map cDelta) (by simp [cDelta, cReln, cStr, cI, cS, dSl])
      clear hg
      simp only at h2 q1
      have hyg := hI.good
      have hyh := hI.hi
      simp only at hyg hyh
      rw [idsL_cS] at hyh
      have hnd := sl_nd (s := (⟨yid, yT, ys⟩ : Sl Delta)) (c := cDelta) (by have := hyg.nd; rwa [idsL_cS] at this)
      obtain ⟨P1, P2⟩ := good_put (c := cDelta) (wh := whDelta) (xs := ys) (k := 0) (j := 0) (n := B) (Nat.le_refl _) hnd.1 (fun g hg => ⟨hyg.lo g (by rw [idsL_cS]; exact mem_sl_ids.2 (.inr hg)), by have := hyh g (mem_sl_ids.2 (.inr hg)); show g < n4; omega⟩) hyg.wh.2 G4 (by omega)
      simp only [List.take_zero, List.drop_zero, List.nil_append] at P1 P2
      have hmm : ∀ g ∈ idsLL (ys.map cDelta), g < hs := fun g hg => hyh g (mem_sl_ids.2 (.inr hg))
      refine back2 (i + 1, ⟨⟨vid, vT, vs⟩⟩, ⟨γ 29, some (33, 5), ⟨wn, ⟨wa, ⟨wiid, wiT, wi⟩⟩, ⟨wb, ⟨wdid, wdT, wd⟩⟩⟩ :: ys⟩) ⟨hstp, k5, ?_, good_row (fun g hg => (q1 g hg).1) (by simpa using q2) q3 P1 P2, ?_⟩ (by simp only; omega) rfl (by simp <;> omega) (by simp [cDelta, cReln, cStr, cI, cS, dSl, List.take_of_length_le, Nat.add_comm 1]) (by simp [cDb, cS, dSl])
      · intro x hx'
        rcases List.mem_cons.1 hx' with rfl | h
        · exact k4
        · exact hI.ok x h
      · intro g hg
        rw [idsL_cS] at hg
        show g < hs'
        rcases mem_sl_ids.1 hg with h | h
        · exact (q1 g h).2
        · simp only [List.map_cons, idsLL] at h
          rcases List.mem_append.1 h with h | h
          · have := u4 g h; omega
          · have := hmm g h; omega
  · have e := hI.run.done hB (by omega)
    simp only at e
    simp [hlt, dSl, ]
    exact ⟨⟨yid, yT, ys⟩, by simp, e, ⟨by simp only [maxLen]; show ys.length ≤ _; omega, hI.ok⟩, hI.good⟩
end

end Go.Proofs.Ytninbnbgaeailaa

namespace Go.Proofs.Ytninbnbgaeailaa
open Go.Vs Go.Proofs Go
set_option maxRecDepth 100000
set_option maxHeartbeats 1000000

section
attribute [local simp] plI_id plStr_id map_plI map_plStr pS cP cI cStr cU8 cB eReln eTab eDb eHist
theorem w_impl_sameInts (a b : List (Int)) : VC Try.prog 81 [.d (pS cI a), .d (pS cI b)] (fun _ r => r = .d (.bool (decide (a = b)))) := by
  refine VC.ofL EP s81 (by kernel_rfl) Try.func81 (by rfl) (by kernel_rfl) (by simp [Try.f81]) (by simp [Try.f81]) s81_ok fun B hl => ?_
  simp [pS, maxLen] at hl
  by_cases hle : a.length = b.length
  case neg => simp [Try.f81, s81_6, hle, eqt_len hle]
  simp [Try.f81, s81_6, hle]
  refine loop_rule (X := Nat) (EqTo a b) (fun i => [(0, .d (.pl (a.map (cI)))), (1, .d (.pl (b.map (cI)))), (12, .d (.int .i64 b.length)), (13, .d (.int .i64 i))]) (fun _ => []) (fun i => a.length - i) 0 .zero (by simp [hle]) (by simp) ?_
  intro i hs t m hi hh
  have hia := hi.le
  by_cases hlt : i < a.length
  · have hlb : i < b.length := by omega
    have hwi := wr1 (i := i) (by omega)
    simp [hlt, hlb, s81_6, ]
    by_cases he : a[i] = b[i]
    case neg => simp [he, eqt_bad hlt hlb he]
    simp [he, hwi]
    exact back (i + 1) ⟨by omega, eqt_step hi.eq hlt hlb he⟩ (by omega) rfl (by simp <;> omega) (by simp) (by simp)
  · have hd := eqt_done hi.eq (by omega) hle
    simp [show ¬ i < b.length by omega, hd]
theorem w_impl_sameRows (a b : List (List Int)) : VC Try.prog 67 [.d (pS (cP cI) a), .d (pS (cP cI) b)] (fun _ r => r = .d (.bool (decide (a = b)))) := by
  refine VC.ofL EP s67 (by kernel_rfl) Try.func67 (by rfl) (by kernel_rfl) (by simp [Try.f67]) (by simp [Try.f67]) s67_ok fun B hl => ?_
  simp [pS, maxLen] at hl
  by_cases hle : a.length = b.length
  case neg => simp [Try.f67, s67_6, hle, eqt_len hle]
  simp [Try.f67, s67_6, hle]
  refine loop_rule (X := Nat) (EqTo a b) (fun i => [(0, .d (.pl (a.map ((cP cI))))), (1, .d (.pl (b.map ((cP cI))))), (12, .d (.int .i64 b.length)), (13, .d (.int .i64 i))]) (fun _ => []) (fun i => a.length - i) 0 .zero (by simp [hle]) (by simp) ?_
  intro i hs t m hi hh
  have hia := hi.le
  by_cases hlt : i < a.length
  · have hlb : i < b.length := by omega
    have hwi := wr1 (i := i) (by omega)
    simp [hlt, hlb, s67_6, ]
    refine call_f (w_impl_sameInts a[i] b[i]) (by simp) rfl fun hs1 hh1 => ?_
    simp at hh1
    by_cases he : a[i] = b[i]
    case neg => simp [he, eqt_bad hlt hlb he]
    simp [he, hwi, s67_6, ]
    exact back (i + 1) ⟨by omega, eqt_step hi.eq hlt hlb he⟩ (by omega) rfl (by simp <;> omega) (by simp) (by simp)
  · have hd := eqt_done hi.eq (by omega) hle
    simp [show ¬ i < b.length by omega, hd]
theorem w_impl_EqualRelations (a b : PReln) : VC Try.prog 51 [.agg ((eReln a).map V.d), .agg ((eReln b).map V.d)] (fun _ r => r = .d (.bool (decide (a = b)))) := by
  refine VC.ofL EP s51 (by kernel_rfl) Try.func51 (by rfl) (by kernel_rfl) (by simp [Try.f51]) (by simp [Try.f51]) s51_ok fun B hl => ?_
  obtain ⟨aa, ar⟩ := a
  obtain ⟨ba, br⟩ := b
  by_cases h : aa = ba
  case neg => simp [Try.f51, h]
  subst h
  simp [Try.f51]
  refine call_f (w_impl_sameRows ar br) (by simp) rfl fun hs1 hh1 => ?_
  simp
theorem w_spec_EqualRelations (a b : PReln) : VC Try.prog 14 [.agg ((eReln a).map V.d), .agg ((eReln b).map V.d)] (fun _ r => r = .d (.bool (decide (a = b)))) := by
  refine VC.ofL EP s14 (by kernel_rfl) Try.func14 (by rfl) (by kernel_rfl) (by simp [Try.f14]) (by simp [Try.f14]) s14_ok fun B hl => ?_
  simp [pS, maxLen, eHist, eDb, eReln] at hl
  obtain ⟨ah, a⟩ := a
  obtain ⟨bh, b⟩ := b
  simp only at hl
  by_cases h : ah = bh
  case neg => simp [Try.f14, s14_6, h]
  subst h
  by_cases hle : a.length = b.length
  case neg => simp [Try.f14, s14_6, hle, eqt_len hle]
  simp [Try.f14, s14_6, hle]
  refine loop_rule (X := Nat) (EqTo a b) (fun i => [(2, .ptr 2 0 0), (3, .ptr 3 0 0), (5, .d (.int .i64 i))]) (fun i => [(2, some (.box [.d (.int .i64 ah), .d (.pl (a.map (cP cI)))])), (3, some (.box [.d (.int .i64 ah), .d (.pl (b.map (cP cI)))]))]) (fun i => a.length - i) 0 .zero (by simp [hle]) (by simp) ?_
  intro i hs t m hi hh
  have hia := hi.le
  by_cases hlt : i < a.length
  · have hlb : i < b.length := by omega
    have hwi := wr1 (i := i) (by omega)
    simp [hlt, hlb, s14_6, ]
    refine call_f (w_spec_CompareRows a[i] b[i]) (by simp) rfl fun hs1 hh1 => ?_
    simp at hh1
    by_cases he : a[i] = b[i]
    case neg => simp [he, eqt_bad hlt hlb he, cmpL_zero]
    simp [he, hwi, cmpL_self, s14_6, ]
    exact back (i + 1) ⟨by omega, eqt_step hi.eq hlt hlb he⟩ (by omega) rfl (by simp <;> omega) (by simp) (by simp)
  · have hd := eqt_done hi.eq (by omega) hle
    simp [show ¬ i < b.length by omega, hlt, hd]
theorem w_spec_EqualDatabases (a b : PDb) : VC Try.prog 21 [.agg ((eDb a).map V.d), .agg ((eDb b).map V.d)] (fun _ r => r = .d (.bool (decide (a = b)))) := by
  refine VC.ofL EP s21 (by kernel_rfl) Try.func21 (by rfl) (by kernel_rfl) (by simp [Try.f21]) (by simp [Try.f21]) s21_ok fun B hl => ?_
  simp [pS, maxLen, eHist, eDb, eReln] at hl
  obtain ⟨a⟩ := a
  obtain ⟨b⟩ := b
  simp only at hl
  by_cases hle : a.length = b.length
  case neg => simp [Try.f21, s21_6, hle, eqt_len hle]
  simp [Try.f21, s21_6, hle]
  refine loop_rule (X := Nat) (EqTo a b) (fun i => [(2, .ptr 2 0 0), (3, .ptr 3 0 0), (5, .d (.int .i64 i))]) (fun i => [(2, some (.box [.d (.pl (a.map eTab))])), (3, some (.box [.d (.pl (b.map eTab))]))]) (fun i => a.length - i) 0 .zero (by simp [hle]) (by simp) ?_
  intro i hs t m hi hh
  have hia := hi.le
  by_cases hlt : i < a.length
  · have hlb : i < b.length := by omega
    have hwi := wr1 (i := i) (by omega)
    obtain ⟨an, ar, hA⟩ : ∃ an ar, a[i] = ⟨an, ar⟩ := ⟨_, _, rfl⟩
    obtain ⟨bn, br, hBt⟩ : ∃ bn br, b[i] = ⟨bn, br⟩ := ⟨_, _, rfl⟩
    have eA : ((a.map eTab)[i]'(by simpa using hlt)) = eTab ⟨an, ar⟩ := by simp [hA]
    by_cases hn : an = bn
    case neg =>
      have hne : a[i] ≠ b[i] := by rw [hA, hBt]; simp [hn]
      simp [hlt, hlb, hA, hBt, hn, eqt_bad hlt hlb hne, s21_6, ]
    subst hn
    simp [hlt, hlb, hA, hBt, s21_6, ]
    refine call_f (w_spec_EqualRelations ar br) (by simp) rfl fun hs1 hh1 => ?_
    simp at hh1
    by_cases he : ar = br
    case neg =>
      have hne : a[i] ≠ b[i] := by rw [hA, hBt]; simp [he]
      simp [he, eqt_bad hlt hlb hne]
    have he2 : a[i] = b[i] := by rw [hA, hBt, he]
    simp [he, hwi, s21_6, ]
    exact back (i + 1) ⟨by omega, eqt_step hi.eq hlt hlb he2⟩ (by omega) rfl (by simp <;> omega) (by simp) (by simp)
  · have hd := eqt_done hi.eq (by omega) hle
    simp [show ¬ i < b.length by omega, hlt, hd]
end

end Go.Proofs.Ytninbnbgaeailaa

namespace Go.Proofs.Ytninbnbgaeailaa
open Go.Vs Go.Proofs Go
set_option maxRecDepth 100000
set_option maxHeartbeats 1000000

def cW (n : Int) : List D := [.int .u8 n]
/-- a cursor over the bytes b: place, state -/
def curD (b : Sl Int) (c : Nat × Int) : List D := [dSl cW b, .int .i64 c.1, .int .i64 c.2]
def curO (b : Sl Int) (c : Nat × Int) : Prop := c.1 ≤ b.xs.length
/-! operations of drawn numbers, kept shut -/
def andZ (k : IntKind) (a b : Int) : Int := k.wrap (BitVec.ofInt k.bits a &&& BitVec.ofInt k.bits b).toNat
def xorZ (k : IntKind) (a b : Int) : Int := k.wrap (BitVec.ofInt k.bits a ^^^ BitVec.ofInt k.bits b).toNat
def shrZ (k : IntKind) (a b : Int) : Int := a.fdiv (2 ^ (min b.toNat k.bits))
theorem bD_add (k k' : IntKind) (a b : Int) : binD .add (.d (.int k a)) (.d (.int k' b)) = .int k (k.wrap (a + b)) := id rfl
theorem bD_sub (k k' : IntKind) (a b : Int) : binD .sub (.d (.int k a)) (.d (.int k' b)) = .int k (k.wrap (a - b)) := id rfl
theorem bD_mul (k k' : IntKind) (a b : Int) : binD .mul (.d (.int k a)) (.d (.int k' b)) = .int k (k.wrap (a * b)) := id rfl
theorem bD_rem (k k' : IntKind) (a b : Int) : binD .rem (.d (.int k a)) (.d (.int k' b)) = .int k (a.tmod b) := id rfl
theorem bD_and (k k' : IntKind) (a b : Int) : binD .and (.d (.int k a)) (.d (.int k' b)) = .int k (andZ k a b) := id rfl
theorem bD_xor (k k' : IntKind) (a b : Int) : binD .xor (.d (.int k a)) (.d (.int k' b)) = .int k (xorZ k a b) := id rfl
theorem bD_shr (k k' : IntKind) (a b : Int) : binD .shr (.d (.int k a)) (.d (.int k' b)) = .int k (shrZ k a b) := id rfl
theorem bD_lss (k k' : IntKind) (a b : Int) : binD .lss (.d (.int k a)) (.d (.int k' b)) = .bool (decide (a < b)) := id rfl
theorem bD_leq (k k' : IntKind) (a b : Int) : binD .leq (.d (.int k a)) (.d (.int k' b)) = .bool (decide (a ≤ b)) := id rfl
theorem bD_gtr (k k' : IntKind) (a b : Int) : binD .gtr (.d (.int k a)) (.d (.int k' b)) = .bool (decide (b < a)) := id rfl
theorem bD_eql (k k' : IntKind) (a b : Int) : binD .eql (.d (.int k a)) (.d (.int k' b)) = .bool (a == b) := id rfl
theorem and255 (a : Int) : 0 ≤ andZ .i64 a 255 ∧ andZ .i64 a 255 < 256 := by
  have h : (BitVec.ofInt 64 a &&& BitVec.ofInt 64 255).toNat ≤ 255 := by
    rw [BitVec.toNat_and]
    exact Nat.and_le_right
  have e : andZ .i64 a 255 = ((BitVec.ofInt 64 a &&& BitVec.ofInt 64 255).toNat : Int) := by
    show IntKind.i64.wrap ((BitVec.ofInt 64 a &&& BitVec.ofInt 64 255).toNat : Int) = _
    exact wrap64_of (by omega) (by omega)
  rw [e]; omega
/-- of the slots and of memory only this is kept -/
theorem forgetT {P : Program} {E : Md} {ops : Array Oper} {tr : Tr} {K : St → Prop} {B hs : Nat} {W : List Nat} {t0 : Nat → V} {m0 : Nat → Option Blk} (S : List (Nat × V)) (M : List (Nat × Option Blk))
    (hS : ∀ p ∈ S, t0 p.1 = p.2) (hM : ∀ p ∈ M, m0 p.1 = p.2) (h : ∀ t m, vtr P E ops K tr ⟨B, hs, W, updL t S, updL m M⟩) : vtr P E ops K tr ⟨B, hs, W, t0, m0⟩ := by
  have := h t0 m0
  rwa [updL_has hS, updL_has hM] at this
theorem forgetG {G : St → Prop} {B hs : Nat} {W : List Nat} {t0 : Nat → V} {m0 : Nat → Option Blk} (S : List (Nat × V)) (M : List (Nat × Option Blk))
    (hS : ∀ p ∈ S, t0 p.1 = p.2) (hM : ∀ p ∈ M, m0 p.1 = p.2) (h : ∀ t m, G ⟨B, hs, W, updL t S, updL m M⟩) : G ⟨B, hs, W, t0, m0⟩ := by
  have := h t0 m0
  rwa [updL_has hS, updL_has hM] at this
/-- what a call leaves that is handed the cursor: its result, and the cursor over the same bytes -/
structure CurP (b : Sl Int) (q : V → Prop) (r : V) (cs : List V) : Prop where
  ex : ∃ c', q r ∧ cs = (curD b c').map V.d ∧ curO b c'
def byteQ (v : V) : Prop := ∃ x, v = .d (.int .i64 x) ∧ 0 ≤ x ∧ x < 256
def belQ (n : Int) (v : V) : Prop := ∃ x, v = .d (.int .i64 x) ∧ 0 ≤ x ∧ (0 < n → x < n) ∧ (n ≤ 0 → x = 0)
def boolQ (v : V) : Prop := ∃ x, v = .d (.bool x)
def inQ (l : List Int) (v : V) : Prop := ∃ x, v = .d (.int .i64 x) ∧ x ∈ l
def strQ (l : List (List UInt8)) (v : V) : Prop := ∃ x, v = .d (.str x) ∧ x ∈ l
theorem call_cur {P : Program} {E : Md} {args : List Operand} {f : FuncId} {rest As : List V} {k : Nat} {dst : Option Tmp} {K : St → Prop} {σ : St} {b : Sl Int} {q : V → Prop} (c : Nat × Int) (hE : E f = true)
    (hc : VX P f [] (.ptr 1000 0 0 :: As) (some ((curD b c).map V.d)) (fun _ r cs _ => CurP b q r cs)) (hvs : args.map σ.ev = .ptr k 0 0 :: rest) (hm : σ.m k = some (.box ((curD b c).map V.d)))
    (hr : rpL σ.m rest = some As) (hk : keysVL rest = [])
    (hK : ∀ r c' hs', σ.hs ≤ hs' → q r → r.ln → curO b c' → K ({ σ with hs := hs', m := upd σ.m k (some (.box ((curD b c').map V.d))) }.put dst r)) : vcallA P E f args (.ptr k 0 0 :: rest) dst K σ := by
  refine call_xt hE hvs hm hr (by simp [curD, dSl]) hc fun r cs' ws n hs' h1 h2 h3 h4 h5 => ?_
  obtain ⟨c', hq, rfl, ho⟩ := h3.ex
  have : keysVL rest ++ keysVL ((curD b c).map V.d) = [] := by rw [hk]; simp [curD]
  rw [this]
  exact hK r c' hs' (Nat.le_trans h1 h2) hq h4 ho
theorem byte_fin {b : Sl Int} {i : Nat} {H x : Int} (h : i + 1 ≤ b.xs.length) (hx : 0 ≤ x ∧ x < 256) : CurP b byteQ (.d (.int .i64 x)) [.d (.sl b.id b.T (b.xs.map cW)), .d (.int .i64 ((i : Int) + 1)), .d (.int .i64 H)] :=
  ⟨⟨(i + 1, H), ⟨_, rfl, hx.1, hx.2⟩, by simp [curD, dSl], h⟩⟩
theorem byte_fin0 {b : Sl Int} {i : Nat} {H x : Int} (h : i ≤ b.xs.length) (hx : 0 ≤ x ∧ x < 256) : CurP b byteQ (.d (.int .i64 x)) [.d (.sl b.id b.T (b.xs.map cW)), .d (.int .i64 (i : Int)), .d (.int .i64 H)] :=
  ⟨⟨(i, H), ⟨_, rfl, hx.1, hx.2⟩, by simp [curD, dSl], h⟩⟩
section
attribute [local simp] pS dSl cP cI cW bD_add bD_sub bD_mul bD_rem bD_and bD_xor bD_shr bD_lss bD_leq bD_gtr bD_eql vendX vretX
attribute [-simp] binD
theorem w_spec_l1New (b : Sl Int) (hb : b.xs.length ≤ 1048576) : VN Try.prog 28 [.d (dSl cW b)] (fun _ ds => ∃ c, ds = curD b c ∧ curO b c) := by
  refine VN.of EP s28 (by kernel_rfl) Try.func28 (by rfl) (by kernel_rfl) (by simp [Try.f28]) (by simp [Try.f28]) s28_ok fun B => ?_
  simp [Try.f28, ]
  refine loop_rule (X := Nat × Int) (fun p => p.1 ≤ b.xs.length) (fun p => [(0, .d (.sl b.id b.T (b.xs.map cW))), (3, .d (.int .i64 p.2)), (4, .d (.int .i64 p.1))]) (fun _ => []) (fun p => b.xs.length - p.1) (0, IntKind.i64.wrap (10101 + b.xs.length)) (by simp) (by simp) (by simp) ?_
  rintro ⟨i, h⟩ hs t m hi hh
  simp only at hi
  by_cases hlt : i < b.xs.length
  · have hwi := wr1 (i := i) (by omega)
    by_cases h4 : (i : Int) < 4000
    · simp [hlt, h4, hwi, ]
      exact back (i + 1, _) (by simp only; omega) (by simp only; omega) rfl (by simp <;> omega) (by simp; rfl) (by simp)
    · simp [hlt, h4, ]
      exact ⟨curD b (0, h), .inr (by simp [curD]), 0, h, rfl, by simp [curO]⟩
  · simp [hlt, ]
    exact ⟨curD b (0, h), .inr (by simp [curD]), 0, h, rfl, by simp [curO]⟩
theorem w_spec_l1Byte (b : Sl Int) (c : Nat × Int) (hb : b.xs.length ≤ 1048576) (hc : curO b c) : VX Try.prog 72 [] [.ptr 1000 0 0] (some ((curD b c).map V.d)) (fun _ r cs _ => CurP b byteQ r cs) := by
  refine VX.of EP s72 (by kernel_rfl) Try.func72 (by rfl) (by kernel_rfl) (by simp [Try.f72]) (by simp [Try.f72]) s72_ok ?_ ?_ fun B hB => ?_
  · simp
  · rintro cs h
    cases h
    simp [curD]
  obtain ⟨i, h⟩ := c
  simp only [curO] at hc
  simp [Try.f72, curD]
  generalize IntKind.i64.wrap (IntKind.i64.wrap (h * 6364136223846793005) + 1442695040888963407) = h'
  simp [s72_2, ]
  generalize xorZ IntKind.i64 (shrZ IntKind.i64 h' 33) (shrZ IntKind.i64 h' 45) = x'
  have hy := and255 x'
  generalize andZ IntKind.i64 x' 255 = y at hy ⊢
  refine forgetT [(0, .ptr 1000 0 0), (3, .d (.int .i64 y))] [(1000, some (.box [.d (.sl b.id b.T (b.xs.map cW)), .d (.int .i64 i), .d (.int .i64 h')]))] (by simp) (by simp) fun t m => ?_
  by_cases hlt : i < b.xs.length
  · have hwi := wr1 (i := i) (by omega)
    simp [s72_3, hlt]
    simp [-w_region, s72_4, hlt, hwi]
    have hz := and255 (IntKind.i64.wrap (y + IntKind.i64.wrap b.xs[i]))
    generalize andZ IntKind.i64 (IntKind.i64.wrap (y + IntKind.i64.wrap b.xs[i])) 255 = z at hz ⊢
    refine forgetG [(0, .ptr 1000 0 0), (3, .d (.int .i64 z))] [(1000, some (.box [.d (.sl b.id b.T (b.xs.map cW)), .d (.int .i64 i), .d (.int .i64 h')]))] (by simp) (by simp) fun t m => ?_
    simp [hwi]
    exact .inr <| byte_fin (b := b) (by omega) hz
  · simp [s72_3, hlt]
    exact .inr <| byte_fin0 hc hy
theorem w_spec_l1Below (b : Sl Int) (c : Nat × Int) (n : Int) (hb : b.xs.length ≤ 1048576) (hc : curO b c) (hn : n ≤ 1000000000) : VX Try.prog 56 [] [.ptr 1000 0 0, .d (.int .i64 n)] (some ((curD b c).map V.d)) (fun _ r cs _ => CurP b (belQ n) r cs) := by
  refine VX.of EP s56 (by kernel_rfl) Try.func56 (by rfl) (by kernel_rfl) (by simp [Try.f56]) (by simp [Try.f56]) s56_ok ?_ ?_ fun B hB => ?_
  · simp
  · rintro cs h
    cases h
    simp [curD]
  by_cases h0 : n ≤ 0
  · simp [Try.f56, curD, h0]
    exact .inr ⟨⟨c, ⟨0, rfl, by omega, fun h => absurd h (by omega), fun _ => rfl⟩, by simp [curD], hc⟩⟩
  have tm : ∀ x : Int, 0 ≤ x → 0 ≤ x.tmod n ∧ x.tmod n < n := fun x hx => by
    rw [Int.tmod_eq_emod_of_nonneg hx]
    exact ⟨Int.emod_nonneg _ (by omega), Int.emod_lt_of_pos _ (by omega)⟩
  have hn0 : ¬ n = 0 := by omega
  by_cases h1 : n ≤ 256
  · simp [Try.f56, curD, h0, h1]
    refine call_cur c E72 (w_spec_l1Byte b c hb hc) (by simp) (by simp [curD]) (by simp) (by simp) fun r1 c1 hs1 hh1 hq1 hl1 o1 => ?_
    obtain ⟨x1, rfl, a1, b1⟩ := hq1
    simp [curD, hn0]
    exact .inr ⟨⟨c1, ⟨_, rfl, (tm x1 a1).1, fun _ => (tm x1 a1).2, fun h => absurd h h0⟩, by simp [curD], o1⟩⟩
  simp [Try.f56, curD, h0, h1]
  refine call_cur c E72 (w_spec_l1Byte b c hb hc) (by simp) (by simp [curD]) (by simp) (by simp) fun r1 c1 hs1 hh1 hq1 hl1 o1 => ?_
  obtain ⟨x1, rfl, a1, b1⟩ := hq1
  simp [curD]
  refine call_cur c1 E72 (w_spec_l1Byte b c1 hb o1) (by simp) (by simp [curD]) (by simp) (by simp) fun r2 c2 hs2 hh2 hq2 hl2 o2 => ?_
  obtain ⟨x2, rfl, a2, b2⟩ := hq2
  simp [curD]
  refine call_cur c2 E72 (w_spec_l1Byte b c2 hb o2) (by simp) (by simp [curD]) (by simp) (by simp) fun r3 c3 hs3 hh3 hq3 hl3 o3 => ?_
  obtain ⟨x3, rfl, a3, b3⟩ := hq3
  simp [curD]
  refine call_cur c3 E72 (w_spec_l1Byte b c3 hb o3) (by simp) (by simp [curD]) (by simp) (by simp) fun r4 c4 hs4 hh4 hq4 hl4 o4 => ?_
  obtain ⟨x4, rfl, a4, b4⟩ := hq4
  have w1 : IntKind.i64.wrap (x1 * 16777216) = x1 * 16777216 := wrap64_of (by omega) (by omega)
  have w2 : IntKind.i64.wrap (x2 * 65536) = x2 * 65536 := wrap64_of (by omega) (by omega)
  have w3 : IntKind.i64.wrap (x3 * 256) = x3 * 256 := wrap64_of (by omega) (by omega)
  have w4 : IntKind.i64.wrap (x1 * 16777216 + x2 * 65536) = x1 * 16777216 + x2 * 65536 := wrap64_of (by omega) (by omega)
  have w5 : IntKind.i64.wrap (x1 * 16777216 + x2 * 65536 + x3 * 256) = x1 * 16777216 + x2 * 65536 + x3 * 256 := wrap64_of (by omega) (by omega)
  have w6 : IntKind.i64.wrap (x1 * 16777216 + x2 * 65536 + x3 * 256 + x4) = x1 * 16777216 + x2 * 65536 + x3 * 256 + x4 := wrap64_of (by omega) (by omega)
  simp [curD, hn0, w1, w2, w3, w4, w5, w6]
  exact .inr ⟨⟨c4, ⟨_, rfl, (tm _ (by omega)).1, fun _ => (tm _ (by omega)).2, fun h => absurd h h0⟩, by simp [curD], o4⟩⟩
theorem w_spec_l1Once (b : Sl Int) (c : Nat × Int) (n : Int) (hb : b.xs.length ≤ 1048576) (hc : curO b c) (hn : n ≤ 1000000000) : VX Try.prog 53 [] [.ptr 1000 0 0, .d (.int .i64 n)] (some ((curD b c).map V.d)) (fun _ r cs _ => CurP b boolQ r cs) := by
  refine VX.of EP s53 (by kernel_rfl) Try.func53 (by rfl) (by kernel_rfl) (by simp [Try.f53]) (by simp [Try.f53]) s53_ok ?_ ?_ fun B hB => ?_
  · simp
  · rintro cs h
    cases h
    simp [curD]
  simp [Try.f53, curD]
  refine call_cur c E56 (w_spec_l1Below b c n hb hc hn) (by simp) (by simp [curD]) (by simp) (by simp) fun r1 c1 hs1 hh1 hq1 hl1 o1 => ?_
  obtain ⟨x1, rfl, a1, b1, d1⟩ := hq1
  simp [curD]
  exact .inr ⟨⟨c1, ⟨_, rfl⟩, by simp [curD], o1⟩⟩
theorem w_spec_l1PickInt (b : Sl Int) (c : Nat × Int) (l : List Int) (hb : b.xs.length ≤ 1048576) (hc : curO b c) (hl0 : l ≠ []) (hll : l.length ≤ 1000) : VX Try.prog 68 [] [.ptr 1000 0 0, .d (pS cI l)] (some ((curD b c).map V.d)) (fun _ r cs _ => CurP b (inQ l) r cs) := by
  refine VX.of EP s68 (by kernel_rfl) Try.func68 (by rfl) (by kernel_rfl) (by simp [Try.f68]) (by simp [Try.f68]) s68_ok ?_ ?_ fun B hB => ?_
  · simp
  · rintro cs h
    cases h
    simp [curD]
  have hp := List.length_pos_iff.2 hl0
  simp [Try.f68, curD]
  refine call_cur c E56 (w_spec_l1Below b c l.length hb hc (by omega)) (by simp) (by simp [curD]) (by simp) (by simp) fun r1 c1 hs1 hh1 hq1 hl1 o1 => ?_
  obtain ⟨x1, rfl, a1, b1, d1⟩ := hq1
  have b1' := b1 (by omega)
  obtain ⟨k, rfl⟩ : ∃ k : Nat, x1 = k := ⟨x1.toNat, by omega⟩
  have hk : k < l.length := by omega
  simp [curD, hk]
  exact .inr ⟨⟨c1, ⟨_, rfl, List.getElem_mem hk⟩, by simp [curD], o1⟩⟩
theorem w_spec_l1Pick (b : Sl Int) (c : Nat × Int) (l : List (List UInt8)) (hb : b.xs.length ≤ 1048576) (hc : curO b c) (hl0 : l ≠ []) (hll : l.length ≤ 1000) : VX Try.prog 30 [] [.ptr 1000 0 0, .d (pS cStr l)] (some ((curD b c).map V.d)) (fun _ r cs _ => CurP b (strQ l) r cs) := by
  refine VX.of EP s30 (by kernel_rfl) Try.func30 (by rfl) (by kernel_rfl) (by simp [Try.f30]) (by simp [Try.f30]) s30_ok ?_ ?_ fun B hB => ?_
  · simp
  · rintro cs h
    cases h
    simp [curD]
  have hp := List.length_pos_iff.2 hl0
  simp [Try.f30, curD]
  refine call_cur c E56 (w_spec_l1Below b c l.length hb hc (by omega)) (by simp) (by simp [curD]) (by simp) (by simp) fun r1 c1 hs1 hh1 hq1 hl1 o1 => ?_
  obtain ⟨x1, rfl, a1, b1, d1⟩ := hq1
  have b1' := b1 (by omega)
  obtain ⟨k, rfl⟩ : ∃ k : Nat, x1 = k := ⟨x1.toNat, by omega⟩
  have hk : k < l.length := by omega
  simp [curD, hk, cStr]
  exact .inr ⟨⟨c1, ⟨_, rfl, List.getElem_mem hk⟩, by simp [curD], o1⟩⟩
end

end Go.Proofs.Ytninbnbgaeailaa

namespace Go.Proofs.Ytninbnbgaeailaa
open Go.Vs Go.Proofs Go
set_option maxRecDepth 100000
set_option maxHeartbeats 1000000

def rowQ (n : Int) (v : V) : Prop := ∃ l : List Int, v = .d (.pl (l.map cI)) ∧ (l.length : Int) ≤ max n 0
section
attribute [local simp] pS dSl cP cI cW
theorem w_spec_l4Row (b : Sl Int) (c : Nat × Int) (n most : Int) (hb : b.xs.length ≤ 1048576) (hc : curO b c) (hn : n ≤ 1000) (hm : most ≤ 1000000000) : VX Try.prog 82 [] [.ptr 1000 0 0, .d (.int .i64 n), .d (.int .i64 most)] (some ((curD b c).map V.d)) (fun _ r cs _ => CurP b (rowQ n) r cs) := by
  refine VX.of EP s82 (by kernel_rfl) Try.func82 (by rfl) (by kernel_rfl) (by simp [Try.f82]) (by simp [Try.f82]) s82_ok ?_ ?_ fun B hB => ?_
  · simp
  · rintro cs h
    cases h
    simp [curD]
  simp [Try.f82, curD]
  refine loop_rule (X := (Nat × Int) × List Int) (fun p => curO b p.1 ∧ (p.2.length : Int) ≤ max n 0) (fun p => [(0, .ptr 1000 0 0), (1, .d (.int .i64 n)), (2, .d (.int .i64 most)), (7, .own 8 0 p.2.length)]) (fun p => [(1000, some (.box ((curD b p.1).map V.d))), (8, some (.row 3 1 (p.2.map cI)))]) (fun p => 1000 - p.2.length) (c, []) ⟨hc, by simp; omega⟩ (by simp) (by simp [curD]) ?_
  rintro ⟨c1, l⟩ hs t m ⟨ho, hl⟩ hh
  simp only at ho hl
  by_cases hlt : (l.length : Int) < n
  · have hL : LenOk 8 (l.length + 1) := ⟨by omega, by simp only [maxLen]; omega⟩
    simp [hlt, curD, ]
    refine call_cur c1 E56 (w_spec_l1Below b c1 most hb ho hm) (by simp) (by simp [curD]) (by simp) (by simp) fun r1 c2 hs1 hh1 hq1 hl1 o1 => ?_
    obtain ⟨x, rfl, _⟩ := hq1
    simp [hlt, hL, curD, ]
    exact back (c2, l ++ [x]) ⟨o1, by simp; omega⟩ (by simp; omega) rfl (by simp <;> omega) (by simp) (by simp [curD])
  · simp [hlt, curD, vendX, ]
    exact .inr ⟨⟨c1, ⟨l, by simp [List.take_of_length_le], hl⟩, by simp [curD], ho⟩⟩
end

end Go.Proofs.Ytninbnbgaeailaa

namespace Go.Proofs.Ytninbnbgaeailaa
open Go.Vs Go.Proofs Go
set_option maxRecDepth 100000
set_option maxHeartbeats 1000000

section
attribute [local simp] plI_id plStr_id map_plI map_plStr
theorem e_spec_l5Copy (r : PReln) (hb : r.rows.length ≤ 4294967296) (hb2 : ∀ x ∈ r.rows, x.length ≤ 4294967296) :
   VC Try.prog 39 [.agg ((eReln r).map V.d)] (fun n v => ∃ y : Reln, v = .agg ((cReln y).map V.d) ∧ plReln y = r ∧ okReln y ∧ (∀ g, y.rows.id = some g → y.rows.T = some (69, 1)) ∧ Good (cReln y) (whReln y) n) := by
  obtain ⟨ar, l⟩ := r
  simp only at hb hb2
  refine VC.of E s39 (by kernel_rfl) Try.func39 (by rfl) (by kernel_rfl) (by simp [Try.f39]) (by simp [Try.f39]) s39_ok fun B => ?_
  simp [Try.f39, s39_5, eReln, pS, cI]
  refine loop_ruleL (X := Nat × List Ints) (CopI (cS cI) (whS whI) (okS okI) (plS plI) l B) (fun p => [(1, .ptr 1 0 0), (2, .ptr 2 0 0), (3, .ptr 3 0 0), (4, .d (.int .i64 p.1))])
    (fun p => [(1, some (.box [.d (.int .i64 ar), .d (.pl (l.map (cP cI)))])), (2, some (.box [.d (.int .i64 0), .d (.sl none none [])])), (3, some (.box [.d (.int .i64 ar), .own 25 0 p.2.length])), (25, some (.row 69 1 (p.2.map (cS cI))))]) (fun p => l.length - p.1) ?_ ?_
  · refine (lead_box 3 1 25 69 1 [.d (.int .i64 ar), .d (.sl none none [])] (by omega) (by omega) (by omega) (by simp) rfl).bind ?_
    rintro _ rfl
    exact Lead.of ⟨(0, []), .zero, rfl, rfl, Nat.le_refl _, by simp, by simp⟩
  rintro ⟨i, ys⟩ hs t m hI hh
  have hle := hI.le
  have hyl := hI.len
  simp only at hle
  by_cases hlt : i < l.length
  · have hwi := wr1 (i := i) (by omega)
    have hL : LenOk 24 (i + 1) := ⟨by omega, by simp only [maxLen]; omega⟩
    have hx := hb2 _ (List.getElem_mem hlt)
    obtain ⟨row, hrow⟩ : ∃ row, row = l[i] := ⟨_, rfl⟩
    rw [← hrow] at hx
    have hL2 : LenOk 8 row.length := ⟨by omega, by simp only [maxLen]; omega⟩
    refine anyQ2 fun Q => ?_
    simp [hlt, ← hrow, cP, pS, hL2, hyl, List.take_of_length_le, s39_5, ]
    rw [w_bs1 (k' := 17) (ks := []) _ _ _ (by simp) (by simp)]
    intro γ hs' h1 hg
    simp only at h1
    obtain ⟨q1, q2⟩ := gam_at hg (k := 17) (T := 3) (sz := 1) (es := row.map cI) (by simp)
    have q3 := gam_row2 hg (k := 17) (T := 3) (sz := 1) (es := row.map cI) (k2 := 25) (T2 := 69) (sz2 := 1) (es2 := ys.map (cS cI)) (by simp) (by simp)
    clear hg
    have hp : hpLL (row.map cI) = false := hpLL_mapI _
    simp [vpre, vnext, veff, vval, isPure, St.frzs, St.frz, Vs.frz, hp, hL, hwi, hyl, List.take_of_length_le]
    have hid : ∀ L : List Int, idsLL (L.map cI) = [] := fun L => by simp
    have hy : ∀ g, g ∈ idsL (cS cI (⟨γ 17, some (3, 1), row⟩ : Ints)) → γ 17 = some g := fun g hg => by
      rw [idsL_cS] at hg
      rcases mem_sl_ids.1 hg with h | h
      · exact h
      · simp only at h; rw [hid] at h; simp at h
    have hG : Good (cS cI (⟨γ 17, some (3, 1), row⟩ : Ints)) (whS whI ⟨γ 17, some (3, 1), row⟩) B :=
      good_row (fun g hg => (q1 g hg).1) (by simpa using q2) (fun g _ => by rw [hid]; simp) ⟨by rw [hid]; simp, by rw [hid]; simp⟩ (by simp [whI])
    refine back2 (i + 1, ys ++ [⟨γ 17, some (3, 1), row⟩]) ⟨by simp only; omega, ?_, ?_, GoodL.snoc2 hI.good h1 hG (fun g hg => q3 g (hy g hg)) (fun g hg => (q1 g (hy g hg)).2)⟩ (by simp only; omega) rfl (by simp <;> omega) (by simp) (by simp [hyl, cS, dSl])
    · have := hI.pl
      simp only at this
      simp only [List.map_append, List.map_cons, List.map_nil]
      rw [this, List.take_succ_eq_append_getElem hlt, ← hrow]
      simp [plS]
    · intro z hz
      rcases List.mem_append.1 hz with hz | hz
      · exact hI.ok z hz
      · rw [List.mem_singleton.1 hz]
        exact ⟨by simp only [maxLen]; omega, fun _ _ => trivial⟩
  · have hall := hI.all (by omega)
    simp [hlt, hyl, s39_5, ]
    intro γ hs' h1 hg
    obtain ⟨q1, q2⟩ := gam_at hg (k := 25) (T := 69) (sz := 1) (es := ys.map (cS cI)) (by simp)
    have q3 := gam_row hg (k := 25) (T := 69) (sz := 1) (es := ys.map (cS cI)) (by simp)
    clear hg
    have hp : hpLL (ys.map (cS cI)) = false := hpLL_mapS ys
    simp [hp, hyl, List.take_of_length_le]
    refine ⟨⟨ar, ⟨γ 25, some (69, 1), ys⟩⟩, by simp [cReln, cI, cS, dSl, hyl, List.take_of_length_le], by simp [plReln, plS, hall], ⟨trivial, ⟨by simp only [maxLen]; show ys.length ≤ _; omega, hI.ok⟩⟩, fun _ _ => rfl, good_Reln (good_row (fun g hg => (q1 g hg).1) (by simpa using q2) q3 ⟨hI.good.nd, hI.good.lo⟩ hI.good.wh) (Nat.le_refl _)⟩
end

end Go.Proofs.Ytninbnbgaeailaa

namespace Go.Proofs.Ytninbnbgaeailaa
open Go.Vs Go.Proofs Go
set_option maxRecDepth 100000
set_option maxHeartbeats 1000000

theorem e_spec_NewRelation (ar : Int) (l : List (List Int)) (hb : l.length ≤ 4294967296) (hn : ∀ x ∈ l, x.length ≤ 4294967296) : VC Try.prog 66 [.d (.int .i64 ar), .d (pS (cP cI) l)]
   (fun n v => ∃ y : Reln, v = .tup [.agg ((cReln y).map V.d), .d (.bool (newB ar l))] ∧ plReln y = newR ar l ∧ okReln y ∧ (∀ g, y.rows.id = some g → y.rows.T = some (69, 1)) ∧ Good (cReln y) (whReln y) n) := by
  refine VC.of E s66 (by kernel_rfl) Try.func66 (by rfl) (by kernel_rfl) (by simp [Try.f66]) (by simp [Try.f66]) s66_ok fun B => ?_
  have fail : newB ar l = false → ∃ y : Reln, V.tup [V.agg [V.d (D.int IntKind.i64 0), V.d (D.sl none none [])], V.d (D.bool false)] = .tup [.agg ((cReln y).map V.d), .d (.bool (newB ar l))] ∧ plReln y = newR ar l ∧ okReln y ∧ (∀ g, y.rows.id = some g → y.rows.T = some (69, 1)) ∧ Good (cReln y) (whReln y) B := fun h =>
    ⟨⟨0, nilS⟩, by rw [h]; simp [cReln, cI, cS, dSl, nilS], by simp [newR, h, plReln, plI, nilS, plS], ⟨trivial, ok_nilS⟩, fun g hg => (by cases hg), good_Reln0 B⟩
  simp [Try.f66, pS]
  refine loop_rule (X := Nat) (fun i => i ≤ l.length ∧ AllTo (fun r : List Int => decide ((r.length : Int) = ar) && valsOk r) l i) (fun i => [(0, .d (.int .i64 ar)), (1, .d (.pl (l.map (cP cI)))), (4, .ptr 4 0 0), (6, .d (.int .i64 i))])
    (fun i => [(4, some (.box [.d (.int .i64 0), .d (.sl none none [])]))]) (fun i => l.length - i) 0 ⟨by simp, allTo_zero⟩ (by simp) (by simp) ?_
  intro i hs t m hi hh
  by_cases hlt : i < l.length
  · have hwi := wr1 (i := i) (by omega)
    by_cases hln : (l[i].length : Int) = ar
    · simp [hlt, hln, cP, pS, ]
      refine call_f (w_spec_AreValidValues l[i]) (by simp [pS]) rfl fun hs1 hh1 => ?_
      simp at hh1
      cases hv : valsOk l[i]
      · have hbad := all_bad (p := fun r : List Int => decide ((r.length : Int) = ar) && valsOk r) hlt (by simp [hv])
        simp []
        simpa using fail (by simp [newB, hbad])
      · simp [hwi]
        exact back (i + 1) ⟨by omega, allTo_step hi.2 hlt (by simp [hv, hln])⟩ (by omega) rfl (by simp <;> omega) (by simp [cP, pS]) (by simp)
    · have hbad := all_bad (p := fun r : List Int => decide ((r.length : Int) = ar) && valsOk r) hlt (by simp [hln])
      simp [hlt, hln, cP, pS, ]
      simpa using fail (by simp [newB, hbad])
  · have hd := allTo_done hi.2 (by omega)
    have hsl := srtU_len l
    simp [hlt, ]
    refine call_p (w_spec_l5Sort _ l (Nat.le_refl _) hb) (by simp [pS]) fun hs1 hh1 _ => ?_
    simp at hh1
    simp []
    refine call_some (e_spec_l5Copy ⟨ar, srtU l⟩ (by simp; omega) (fun x hx => hn x ((srtU_mem l x).1 hx))) (by simp [eReln, pS, cI, cP]) (by simp [eReln, pS, cI, cP]) fun n2 hs2 r2 hn2 hm2 hp2 hr2 => ?_
    obtain ⟨⟨ya, ⟨yid, yT, ys⟩⟩, rfl, p2, k2, T2, G2⟩ := hp2
    simp at hn2
    have hya : ya = ar ∧ ys.map (plS plI) = srtU l := by
      simp only [plReln, plS, plI, PReln.mk.injEq] at p2
      exact p2
    simp [cReln, cI, cS, dSl, ]
    refine call_f (w_spec_IsValidRelation ⟨ar, srtU l⟩) (by simp [eReln, cP, pS, cI, hya.1, ← hya.2, erLL_map (er_cS er_cI)]) rfl fun hs3 hh3 => ?_
    simp at hh3
    cases h1 : rowsOk ar (srtU l)
    · have hB : newB ar l = false := by simp [newB, h1]
      obtain ⟨y, e1, e2⟩ := fail hB
      simp []
      exact ⟨y, by simpa [cReln, cI, cS, dSl] using e1, e2⟩
    · have hB : newB ar l = true := by simp [newB, h1, hd]
      simp []
      exact ⟨⟨ya, ⟨yid, yT, ys⟩⟩, by simp [cReln, cI, cS, dSl, hB], by rw [p2, newR, if_pos hB], k2, T2, G2.le (by omega)⟩

end Go.Proofs.Ytninbnbgaeailaa

namespace Go.Proofs.Ytninbnbgaeailaa
open Go.Vs Go.Proofs Go
set_option maxRecDepth 100000
set_option maxHeartbeats 1000000

/-- what the draw of a relation leaves -/
structure RelC (t1 : Nat) (b : Sl Int) (n : Nat) (r : V) (cs : List V) : Prop where
  ex : ∃ (c' : Nat × Int) (y : Reln), r = .agg ((cReln y).map V.d) ∧ rowsOk (plReln y).ar (plReln y).rows = true ∧ (y.rows.xs.length ≤ 1000 ∧ y.ar ≤ 1000) ∧ okReln y ∧ (∀ g, y.rows.id = some g → y.rows.T = some (t1, 1)) ∧ Good (cReln y) (whReln y) n ∧ cs = (curD b c').map V.d ∧ curO b c'
theorem newR_ok (ar : Int) (l : List (List Int)) : rowsOk (newR ar l).ar (newR ar l).rows = true := by
  unfold newR
  split
  · rename_i h
    simp only [newB, Bool.and_eq_true] at h
    exact h.2
  · decide
theorem newR_ar (ar : Int) (l : List (List Int)) (h : ar ≤ 1000) : (newR ar l).ar ≤ 1000 := by
  unfold newR
  split
  · exact h
  · simp
theorem newR_len (ar : Int) (l : List (List Int)) : (newR ar l).rows.length ≤ l.length := by
  unfold newR
  split
  · exact srtU_len l
  · simp
@[simp] theorem startX4b (a b c d : V) (W : List Nat) (cs : List V) (B : Nat) : St.startX [a, b, c, d] W (some cs) B = ⟨B, B, W, upd (upd (upd (upd (fun _ => .tup []) 3 d) 2 c) 1 b) 0 a, upd (fun _ => none) 1000 (some (.box cs))⟩ := by
  simp only [St.startX, St.mk.injEq, true_and]
  refine ⟨?_, startX_box cs⟩
  funext i; match i with | 0 => rfl | 1 => rfl | 2 => rfl | 3 => rfl | _ + 4 => rfl
section
attribute [local simp] pS dSl cP cI cW
theorem w_spec_l5Rel (b : Sl Int) (c : Nat × Int) (ar most val : Int) (hb : b.xs.length ≤ 1048576) (hc : curO b c) (har : ar ≤ 1000) (hm : 0 ≤ most ∧ most ≤ 1000) (hv : val ≤ 1000000000) : VX Try.prog 69 [] [.ptr 1000 0 0, .d (.int .i64 ar), .d (.int .i64 most), .d (.int .i64 val)] (some ((curD b c).map V.d)) (fun n r cs _ => RelC 69 b n r cs) := by
  refine VX.of E s69 (by kernel_rfl) Try.func69 (by rfl) (by kernel_rfl) (by simp [Try.f69]) (by simp [Try.f69]) s69_ok ?_ ?_ fun B hB => ?_
  · simp
  · rintro cs h
    cases h
    simp [curD]
  have hw : IntKind.i64.wrap (most + 1) = most + 1 := wrap64_of (by omega) (by omega)
  simp [Try.f69, curD, hw]
  refine call_cur c E56 (w_spec_l1Below b c (most + 1) hb hc (by omega)) (by simp) (by simp [curD]) (by simp) (by simp) fun r1 c1 hs1 hh1 hq1 hl1 o1 => ?_
  have hB1 : B ≤ hs1 := hh1
  obtain ⟨x, rfl, x0, x1, _⟩ := hq1
  have x1' := x1 (by omega)
  obtain ⟨N, rfl⟩ : ∃ N : Nat, x = N := ⟨x.toNat, by omega⟩
  simp [curD]
  refine loop_rule (X := (Nat × Int) × List (List Int) × Nat) (fun p => curO b p.1 ∧ p.2.1.length + p.2.2 ≤ N ∧ ∀ x ∈ p.2.1, x.length ≤ 1000) (fun p => [(0, .ptr 1000 0 0), (1, .d (.int .i64 ar)), (3, .d (.int .i64 val)), (8, .ptr 8 0 0), (9, .own 13 0 p.2.1.length), (10, .d (.int .i64 p.2.2))]) (fun p => [(1000, some (.box ((curD b p.1).map V.d))), (8, some (.box [.d (.int .i64 0), .d (.sl none none [])])), (13, some (.row 69 1 (p.2.1.map (cP cI))))]) (fun p => p.2.2) (c1, [], N) ⟨o1, by simp, by simp⟩ (by simp) (by simp [curD]) ?_
  rintro ⟨c2, l, k⟩ hs t m ⟨ho, hl, hlm⟩ hh
  simp only at ho hl hlm
  cases k with
  | zero =>
    simp [curD, ]
    refine call_pq (e_spec_NewRelation ar l (by omega) (fun x hx => by have := hlm x hx; omega)) (by simp [List.take_of_length_le]) fun n4 hs4 r4 hn4 hm4 hp4 hl4 => ?_
    obtain ⟨⟨ya, ⟨yid, yT, ys⟩⟩, rfl, p4, k4, T4, G4⟩ := hp4
    simp at hn4
    simp [cReln, cS, dSl, vendX, ]
    intro γ hs' h1 hg
    clear hg
    refine ⟨⟨c2, ⟨ya, ⟨yid, yT, ys⟩⟩, by simp [cReln, cS, dSl], by rw [p4]; exact newR_ok ar l, ⟨by have := newR_len ar l; rw [← p4] at this; simp [plReln, plS] at this; simp only; omega, by have := newR_ar ar l har; rw [← p4] at this; exact this⟩, k4, T4, G4.le (by omega), by simp [curD], ho⟩⟩
  | succ k =>
  obtain ⟨u, hu⟩ : ∃ u : Nat, u = k + 1 := ⟨_, rfl⟩
  have hup : 0 < u := by omega
  have hwm : IntKind.i64.wrap ((u : Int) - 1) = k := by rw [wrap64_of (by omega) (by omega)]; omega
  have hL : LenOk 24 (l.length + 1) := ⟨by omega, by simp only [maxLen]; omega⟩
  rw [← hu] at hl ⊢
  simp [hup, curD, ]
  refine call_cur c2 E82 (w_spec_l4Row b c2 ar val hb ho har hv) (by simp) (by simp [curD]) (by simp) (by simp) fun r3 c3 hs3 hh3 hq3 hl3 o3 => ?_
  obtain ⟨row, rfl, hrow⟩ := hq3
  simp [hL, hwm, curD, List.take_of_length_le, ]
  refine back (c3, l ++ [row], k) ⟨o3, by simp; omega, fun x hx => ?_⟩ (by simp only; omega) rfl (by simp <;> omega) (by simp) (by simp [curD])
  rcases List.mem_append.1 hx with hx | hx
  · exact hlm x hx
  · rw [List.mem_singleton.1 hx]; omega
end
theorem call_curK {P : Program} {E : Md} {args : List Operand} {f : FuncId} {rest As : List V} {k : Nat} {dst : Option Tmp} {K : St → Prop} {σ : St} {b : Sl Int} {q : V → Prop} (c : Nat × Int) (hE : E f = true)
    (hc : VX P f [] (.ptr 1000 0 0 :: As) (some ((curD b c).map V.d)) (fun _ r cs _ => CurP b q r cs)) (hvs : args.map σ.ev = .ptr k 0 0 :: rest) (hm : σ.m k = some (.box ((curD b c).map V.d)))
    (hr : rpL σ.m rest = some As)
    (hK : ∀ r c' hs', σ.hs ≤ hs' → q r → r.ln → curO b c' → K ({ (σ.frps (keysVL rest)) with hs := hs', m := upd (σ.frps (keysVL rest)).m k (some (.box ((curD b c').map V.d))) }.put dst r)) : vcallA P E f args (.ptr k 0 0 :: rest) dst K σ := by
  refine call_xt hE hvs hm hr (by simp [curD, dSl]) hc fun r cs' ws n hs' h1 h2 h3 h4 h5 => ?_
  obtain ⟨c', hq, rfl, ho⟩ := h3.ex
  have : keysVL rest ++ keysVL ((curD b c).map V.d) = keysVL rest := by simp [curD]
  rw [this]
  exact hK r c' hs' (Nat.le_trans h1 h2) hq h4 ho
/-- a call that is handed the cursor and hands back a new relation -/
theorem call_rel {P : Program} {t1 : Nat} {E : Md} {args : List Operand} {f : FuncId} {rest As : List V} {k : Nat} {dst : Option Tmp} {K : St → Prop} {σ : St} {b : Sl Int} (c : Nat × Int) (hE : E f = true)
    (hc : VX P f [] (.ptr 1000 0 0 :: As) (some ((curD b c).map V.d)) (fun n r cs _ => RelC t1 b n r cs)) (hvs : args.map σ.ev = .ptr k 0 0 :: rest) (hm : σ.m k = some (.box ((curD b c).map V.d)))
    (hr : rpL σ.m rest = some As) (hk : keysVL rest = [])
    (hK : ∀ (y : Reln) c' n hs', σ.hs ≤ n → n ≤ hs' → rowsOk (plReln y).ar (plReln y).rows = true → (y.rows.xs.length ≤ 1000 ∧ y.ar ≤ 1000) → okReln y → (∀ g, y.rows.id = some g → y.rows.T = some (t1, 1)) → Good (cReln y) (whReln y) n → (∀ g ∈ idsL (cReln y), g < hs') → curO b c' → K ({ σ with hs := hs', m := upd σ.m k (some (.box ((curD b c').map V.d))) }.put dst (.agg ((cReln y).map V.d)))) : vcallA P E f args (.ptr k 0 0 :: rest) dst K σ := by
  refine call_xi hE hvs hm hr (by simp [curD, dSl]) hc fun r cs' ws n hs' h1 h2 h3 h4 h5 h9 => ?_
  obtain ⟨c', y, rfl, h6, hln, h7, hT, h8, rfl, ho⟩ := h3.ex
  have : keysVL rest ++ keysVL ((curD b c).map V.d) = [] := by rw [hk]; simp [curD]
  rw [this]
  exact hK y c' n hs' h1 h2 h6 hln h7 hT h8 (fun g hg => h9 g (by rw [ids_agg]; exact hg)) ho
theorem idsLL_mapW (l : List Int) : idsLL (l.map cW) = [] := by
  induction l with
  | nil => rfl
  | cons x r ih => simp only [List.map_cons, idsLL, ih, cW]; rfl
theorem tkLL_mapW (l : List Int) : tkLL (l.map cW) = true := by
  induction l with
  | nil => rfl
  | cons x r ih => simp only [List.map_cons, tkLL, ih, cW]; simp [tkL, D.tk]

end Go.Proofs.Ytninbnbgaeailaa
