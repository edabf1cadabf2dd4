/-
  D1B1: a part of a proof of this seat: the value-level semantics of Go code without maps, its walk rules, the frame of a row, facts of types, schedules, walks, plain lemmas (Facts1 Sched1 H0 HP1 HP2 H1 HP3 P1 P1b P1c P1d F1 F2 G1 Q1 V1 V2 G2 V3). It holds of every program and state that its hypotheses name.
-/
import Derived.Test.YtlmnjomekklnkaaA4
import Derived.Test.YtlmnjomekklnkaaProg
import Derived.KernelRfl
set_option linter.unusedSimpArgs false
set_option linter.unusedVariables false
set_option linter.unnecessarySimpa false
namespace Go.Proofs.Ytlmnjomekklnkaa
open Go.Vs Go.Proofs

theorem tsz3 : tsz Try.prog 3 = some 1 := by kernel_rfl
theorem tsz5 : tsz Try.prog 5 = some 1 := by kernel_rfl
theorem tsz9 : tsz Try.prog 9 = some 1 := by kernel_rfl
theorem tsz22 : tsz Try.prog 22 = some 1 := by kernel_rfl
theorem tsz24 : tsz Try.prog 24 = some 1 := by kernel_rfl
theorem tsz27 : tsz Try.prog 27 = some 1 := by kernel_rfl
theorem tsz29 : tsz Try.prog 29 = some 1 := by kernel_rfl
theorem tsz35 : tsz Try.prog 35 = some 1 := by kernel_rfl
theorem tsz37 : tsz Try.prog 37 = some 1 := by kernel_rfl
theorem tsz42 : tsz Try.prog 42 = some 1 := by kernel_rfl
theorem tsz44 : tsz Try.prog 44 = some 1 := by kernel_rfl
theorem tsz50 : tsz Try.prog 50 = some 1 := by kernel_rfl
theorem tsz59 : tsz Try.prog 59 = some 2 := by kernel_rfl
theorem tsz70 : tsz Try.prog 70 = some 1 := by kernel_rfl
theorem tsz72 : tsz Try.prog 72 = some 2 := by kernel_rfl
theorem tsz74 : tsz Try.prog 74 = some 5 := by kernel_rfl
theorem tsz95 : tsz Try.prog 95 = some 1 := by kernel_rfl
theorem tsz97 : tsz Try.prog 97 = some 3 := by kernel_rfl
theorem tsz131 : tsz Try.prog 131 = some 3 := by kernel_rfl
theorem tsz162 : tsz Try.prog 162 = some 2 := by kernel_rfl
theorem tsz170 : tsz Try.prog 170 = some 2 := by kernel_rfl
theorem tsz172 : tsz Try.prog 172 = some 3 := by kernel_rfl
theorem tagg3 : tagg Try.prog 3 = some false := by kernel_rfl
theorem tagg5 : tagg Try.prog 5 = some false := by kernel_rfl
theorem tagg9 : tagg Try.prog 9 = some false := by kernel_rfl
theorem tagg22 : tagg Try.prog 22 = some false := by kernel_rfl
theorem tagg24 : tagg Try.prog 24 = some true := by kernel_rfl
theorem tagg27 : tagg Try.prog 27 = some false := by kernel_rfl
theorem tagg29 : tagg Try.prog 29 = some true := by kernel_rfl
theorem tagg35 : tagg Try.prog 35 = some false := by kernel_rfl
theorem tagg37 : tagg Try.prog 37 = some true := by kernel_rfl
theorem tagg42 : tagg Try.prog 42 = some false := by kernel_rfl
theorem tagg44 : tagg Try.prog 44 = some true := by kernel_rfl
theorem tagg50 : tagg Try.prog 50 = some false := by kernel_rfl
theorem tagg59 : tagg Try.prog 59 = some true := by kernel_rfl
theorem tagg70 : tagg Try.prog 70 = some false := by kernel_rfl
theorem tagg72 : tagg Try.prog 72 = some true := by kernel_rfl
theorem tagg74 : tagg Try.prog 74 = some true := by kernel_rfl
theorem tagg95 : tagg Try.prog 95 = some false := by kernel_rfl
theorem tagg97 : tagg Try.prog 97 = some true := by kernel_rfl
theorem tagg131 : tagg Try.prog 131 = some true := by kernel_rfl
theorem tagg162 : tagg Try.prog 162 = some true := by kernel_rfl
theorem tagg170 : tagg Try.prog 170 = some true := by kernel_rfl
theorem tagg172 : tagg Try.prog 172 = some true := by kernel_rfl
theorem tzero3 : tzero Try.prog 3 = some [.int .i64 0] := by kernel_rfl
theorem tzero29 : tzero Try.prog 29 = some [.sl none none []] := by kernel_rfl
theorem tzero37 : tzero Try.prog 37 = some [.sl none none []] := by kernel_rfl
theorem tzero59 : tzero Try.prog 59 = some [.str [], .str []] := by kernel_rfl
theorem tzero72 : tzero Try.prog 72 = some [.int .i64 0, .sl none none []] := by kernel_rfl
theorem tzero74 : tzero Try.prog 74 = some [.str [], .int .i64 0, .sl none none [], .int .i64 0, .sl none none []] := by kernel_rfl
theorem tzero95 : tzero Try.prog 95 = some [.sl none none []] := by kernel_rfl
theorem tzero97 : tzero Try.prog 97 = some [.int .i64 0, .sl none none [], .sl none none []] := by kernel_rfl
theorem tzero131 : tzero Try.prog 131 = some [.str [], .int .i64 0, .sl none none []] := by kernel_rfl
theorem tzero175 : tzero Try.prog 175 = some [.sl none none [], .int .i64 0, .int .i64 0] := by kernel_rfl
theorem tslice22 : tslice Try.prog 22 = some (162, 2, 32) := by kernel_rfl
theorem telem22 : telem Try.prog 22 = some 162 := by kernel_rfl
theorem tslice27 : tslice Try.prog 27 = some (59, 2, 32) := by kernel_rfl
theorem telem27 : telem Try.prog 27 = some 59 := by kernel_rfl
theorem tslice35 : tslice Try.prog 35 = some (131, 3, 48) := by kernel_rfl
theorem telem35 : telem Try.prog 35 = some 131 := by kernel_rfl
theorem tslice42 : tslice Try.prog 42 = some (172, 3, 48) := by kernel_rfl
theorem telem42 : telem Try.prog 42 = some 172 := by kernel_rfl
theorem tslice50 : tslice Try.prog 50 = some (5, 1, 1) := by kernel_rfl
theorem telem50 : telem Try.prog 50 = some 5 := by kernel_rfl
theorem tslice70 : tslice Try.prog 70 = some (95, 1, 24) := by kernel_rfl
theorem telem70 : telem Try.prog 70 = some 95 := by kernel_rfl
theorem tslice85 : tslice Try.prog 85 = some (74, 5, 80) := by kernel_rfl
theorem telem85 : telem Try.prog 85 = some 74 := by kernel_rfl
theorem tslice95 : tslice Try.prog 95 = some (3, 1, 8) := by kernel_rfl
theorem telem95 : telem Try.prog 95 = some 3 := by kernel_rfl
theorem tslice125 : tslice Try.prog 125 = some (9, 1, 16) := by kernel_rfl
theorem telem125 : telem Try.prog 125 = some 9 := by kernel_rfl
theorem tstr9 : tstr Try.prog 9 = some true := by kernel_rfl
theorem tstr22 : tstr Try.prog 22 = some false := by kernel_rfl
theorem tstr27 : tstr Try.prog 27 = some false := by kernel_rfl
theorem tstr35 : tstr Try.prog 35 = some false := by kernel_rfl
theorem tstr42 : tstr Try.prog 42 = some false := by kernel_rfl
theorem tstr50 : tstr Try.prog 50 = some false := by kernel_rfl
theorem tstr70 : tstr Try.prog 70 = some false := by kernel_rfl
theorem tstr85 : tstr Try.prog 85 = some false := by kernel_rfl
theorem tstr95 : tstr Try.prog 95 = some false := by kernel_rfl
theorem tstr125 : tstr Try.prog 125 = some false := by kernel_rfl
theorem tfld29 : tfld Try.prog 29 = true := by kernel_rfl
theorem tfld37 : tfld Try.prog 37 = true := by kernel_rfl
theorem tfld59 : tfld Try.prog 59 = true := by kernel_rfl
theorem tfld72 : tfld Try.prog 72 = true := by kernel_rfl
theorem tfld74 : tfld Try.prog 74 = true := by kernel_rfl
theorem tfld97 : tfld Try.prog 97 = true := by kernel_rfl
theorem tfld131 : tfld Try.prog 131 = true := by kernel_rfl
theorem tfld175 : tfld Try.prog 175 = true := by kernel_rfl
theorem foff24_0 : foff Try.prog 24 0 = some (0, 1) := by kernel_rfl
theorem foff29_0 : foff Try.prog 29 0 = some (0, 1) := by kernel_rfl
theorem foff37_0 : foff Try.prog 37 0 = some (0, 1) := by kernel_rfl
theorem foff44_0 : foff Try.prog 44 0 = some (0, 1) := by kernel_rfl
theorem foff59_0 : foff Try.prog 59 0 = some (0, 1) := by kernel_rfl
theorem foff59_1 : foff Try.prog 59 1 = some (1, 1) := by kernel_rfl
theorem foff72_0 : foff Try.prog 72 0 = some (0, 1) := by kernel_rfl
theorem foff72_1 : foff Try.prog 72 1 = some (1, 1) := by kernel_rfl
theorem foff74_0 : foff Try.prog 74 0 = some (0, 1) := by kernel_rfl
theorem foff74_1 : foff Try.prog 74 1 = some (1, 2) := by kernel_rfl
theorem foff74_2 : foff Try.prog 74 2 = some (3, 2) := by kernel_rfl
theorem foff97_0 : foff Try.prog 97 0 = some (0, 1) := by kernel_rfl
theorem foff97_1 : foff Try.prog 97 1 = some (1, 1) := by kernel_rfl
theorem foff97_2 : foff Try.prog 97 2 = some (2, 1) := by kernel_rfl
theorem foff131_0 : foff Try.prog 131 0 = some (0, 1) := by kernel_rfl
theorem foff131_1 : foff Try.prog 131 1 = some (1, 2) := by kernel_rfl
theorem foff162_0 : foff Try.prog 162 0 = some (0, 1) := by kernel_rfl
theorem foff162_1 : foff Try.prog 162 1 = some (1, 1) := by kernel_rfl
theorem foff170_0 : foff Try.prog 170 0 = some (0, 1) := by kernel_rfl
theorem foff170_1 : foff Try.prog 170 1 = some (1, 1) := by kernel_rfl
theorem foff172_0 : foff Try.prog 172 0 = some (0, 1) := by kernel_rfl
theorem foff172_1 : foff Try.prog 172 1 = some (1, 2) := by kernel_rfl
theorem foff175_0 : foff Try.prog 175 0 = some (0, 1) := by kernel_rfl
theorem foff175_1 : foff Try.prog 175 1 = some (1, 1) := by kernel_rfl
theorem foff175_2 : foff Try.prog 175 2 = some (2, 1) := by kernel_rfl
attribute [simp] tsz3 tsz5 tsz9 tsz22 tsz24 tsz27 tsz29 tsz35 tsz37 tsz42 tsz44 tsz50 tsz59 tsz70 tsz72 tsz74 tsz95 tsz97 tsz131 tsz162 tsz170 tsz172 tagg3 tagg5 tagg9 tagg22 tagg24 tagg27 tagg29 tagg35 tagg37 tagg42 tagg44 tagg50 tagg59 tagg70 tagg72 tagg74 tagg95 tagg97 tagg131 tagg162 tagg170 tagg172 tzero3 tzero29 tzero37 tzero59 tzero72 tzero74 tzero95 tzero97 tzero131 tzero175 tslice22 telem22 tslice27 telem27 tslice35 telem35 tslice42 telem42 tslice50 telem50 tslice70 telem70 tslice85 telem85 tslice95 telem95 tslice125 telem125 tstr9 tstr22 tstr27 tstr35 tstr42 tstr50 tstr70 tstr85 tstr95 tstr125 tfld29 tfld37 tfld59 tfld72 tfld74 tfld97 tfld131 tfld175 foff24_0 foff29_0 foff37_0 foff44_0 foff59_0 foff59_1 foff72_0 foff72_1 foff74_0 foff74_1 foff74_2 foff97_0 foff97_1 foff97_2 foff131_0 foff131_1 foff162_0 foff162_1 foff170_0 foff170_1 foff172_0 foff172_1 foff175_0 foff175_1 foff175_2
end Go.Proofs.Ytlmnjomekklnkaa

namespace Go.Proofs.Ytlmnjomekklnkaa
open Go.Vs Go.Proofs Go

/-- the functions that write what they are handed -/
def E : Md := ⟨fun f => [22, 27, 88, 92, 102, 103, 104, 105, 106, 114, 117, 137, 138, 139, 141, 162, 166, 167, 168, 169, 170, 178, 181, 188, 193].contains f, false⟩
/-- as E; slices are known by elements only -/
def EP : Md := ⟨E.e, true⟩
@[simp] theorem E_p : E.p = false := Eq.trans rfl rfl
@[simp] theorem EP_p : EP.p = true := Eq.trans rfl rfl

theorem E22 : E 22 = true := rfl
theorem EP22 : EP 22 = true := rfl
theorem E27 : E 27 = true := rfl
theorem EP27 : EP 27 = true := rfl
theorem E88 : E 88 = true := rfl
theorem EP88 : EP 88 = true := rfl
theorem E92 : E 92 = true := rfl
theorem EP92 : EP 92 = true := rfl
theorem E102 : E 102 = true := rfl
theorem EP102 : EP 102 = true := rfl
theorem E103 : E 103 = true := rfl
theorem EP103 : EP 103 = true := rfl
theorem E104 : E 104 = true := rfl
theorem EP104 : EP 104 = true := rfl
theorem E105 : E 105 = true := rfl
theorem EP105 : EP 105 = true := rfl
theorem E106 : E 106 = true := rfl
theorem EP106 : EP 106 = true := rfl
theorem E114 : E 114 = true := rfl
theorem EP114 : EP 114 = true := rfl
theorem E117 : E 117 = true := rfl
theorem EP117 : EP 117 = true := rfl
theorem E137 : E 137 = true := rfl
theorem EP137 : EP 137 = true := rfl
theorem E138 : E 138 = true := rfl
theorem EP138 : EP 138 = true := rfl
theorem E139 : E 139 = true := rfl
theorem EP139 : EP 139 = true := rfl
theorem E141 : E 141 = true := rfl
theorem EP141 : EP 141 = true := rfl
theorem E162 : E 162 = true := rfl
theorem EP162 : EP 162 = true := rfl
theorem E166 : E 166 = true := rfl
theorem EP166 : EP 166 = true := rfl
theorem E167 : E 167 = true := rfl
theorem EP167 : EP 167 = true := rfl
theorem E168 : E 168 = true := rfl
theorem EP168 : EP 168 = true := rfl
theorem E169 : E 169 = true := rfl
theorem EP169 : EP 169 = true := rfl
theorem E170 : E 170 = true := rfl
theorem EP170 : EP 170 = true := rfl
theorem E178 : E 178 = true := rfl
theorem EP178 : EP 178 = true := rfl
theorem E181 : E 181 = true := rfl
theorem EP181 : EP 181 = true := rfl
theorem E188 : E 188 = true := rfl
theorem EP188 : EP 188 = true := rfl
theorem E193 : E 193 = true := rfl
theorem EP193 : EP 193 = true := rfl
/-- the orders of laws.FnExactNewestVersion -/
def s3 (i : Nat) : Tr := if i = 10 then .seq [0, 1, 2, 3, 4] .nil else .nil
theorem s3_10 : s3 10 = .seq [0, 1, 2, 3, 4] .nil := rfl
theorem s3_ok : okCode E 27 s3 (Try.f3.body.getD .skip) = true := by kernel_rfl
/-- the orders of laws.FnExactDeleteObsoleteFiles -/
def s4 (i : Nat) : Tr := if i = 10 then .seq [0, 1, 2, 3, 4] .nil else .nil
theorem s4_10 : s4 10 = .seq [0, 1, 2, 3, 4] .nil := rfl
theorem s4_ok : okCode E 69 s4 (Try.f4.body.getD .skip) = true := by kernel_rfl
/-- the orders of laws.FnExactRecoverDatabase -/
def s5 (i : Nat) : Tr := if i = 10 then .seq [0, 1, 2, 3, 4] .nil else .nil
theorem s5_10 : s5 10 = .seq [0, 1, 2, 3, 4] .nil := rfl
theorem s5_ok : okCode E 117 s5 (Try.f5.body.getD .skip) = true := by kernel_rfl
/-- the orders of laws.FnExactCommitDatabase -/
def s6 (i : Nat) : Tr := if i = 8 then .seq [0, 2, 4] (.both (.seq [1] (.both (.seq [3] (.both (.seq [5, 6, 7, 8, 9, 10, 11] .nil) (.seq [9, 5, 6, 7, 8, 10, 11] .nil))) (.seq [9, 3, 5, 6, 7, 8, 10, 11] .nil))) (.seq [9, 1, 3, 5, 6, 7, 8, 10, 11] .nil)) else if i = 14 then .seq [0, 1, 2, 3, 4] .nil else if i = 16 then .seq [0, 1, 2, 3, 4] .nil else if i = 31 then .seq [0, 2, 4] (.both (.seq [1] (.both (.seq [3] (.both (.seq [5, 6, 7, 8, 9, 10, 11] .nil) (.seq [9, 5, 6, 7, 8, 10, 11] .nil))) (.seq [9, 3, 5, 6, 7, 8, 10, 11] .nil))) (.seq [9, 1, 3, 5, 6, 7, 8, 10, 11] .nil)) else .nil
theorem s6_8 : s6 8 = .seq [0, 2, 4] (.both (.seq [1] (.both (.seq [3] (.both (.seq [5, 6, 7, 8, 9, 10, 11] .nil) (.seq [9, 5, 6, 7, 8, 10, 11] .nil))) (.seq [9, 3, 5, 6, 7, 8, 10, 11] .nil))) (.seq [9, 1, 3, 5, 6, 7, 8, 10, 11] .nil)) := rfl
theorem s6_14 : s6 14 = .seq [0, 1, 2, 3, 4] .nil := rfl
theorem s6_16 : s6 16 = .seq [0, 1, 2, 3, 4] .nil := rfl
theorem s6_31 : s6 31 = .seq [0, 2, 4] (.both (.seq [1] (.both (.seq [3] (.both (.seq [5, 6, 7, 8, 9, 10, 11] .nil) (.seq [9, 5, 6, 7, 8, 10, 11] .nil))) (.seq [9, 3, 5, 6, 7, 8, 10, 11] .nil))) (.seq [9, 1, 3, 5, 6, 7, 8, 10, 11] .nil)) := rfl
theorem s6_ok : okCode E 124 s6 (Try.f6.body.getD .skip) = true := by kernel_rfl
/-- the orders of laws.FnFiles -/
def s7 (i : Nat) : Tr := if i = 11 then .seq [0, 1, 2, 3, 4, 5, 6, 7, 8, 9, 10, 11, 12] .nil else if i = 12 then .seq [0, 1, 2, 3, 4, 5, 6, 7, 8, 9, 10, 11, 12] .nil else if i = 23 then .seq [0, 1, 2, 3, 4, 5, 6, 7, 8, 9, 10, 11, 12, 13, 14, 15, 16, 17, 18, 19, 20, 22, 23, 24, 25, 26, 21, 27, 28, 29, 30] .nil else .nil
theorem s7_11 : s7 11 = .seq [0, 1, 2, 3, 4, 5, 6, 7, 8, 9, 10, 11, 12] .nil := rfl
theorem s7_12 : s7 12 = .seq [0, 1, 2, 3, 4, 5, 6, 7, 8, 9, 10, 11, 12] .nil := rfl
theorem s7_23 : s7 23 = .seq [0, 1, 2, 3, 4, 5, 6, 7, 8, 9, 10, 11, 12, 13, 14, 15, 16, 17, 18, 19, 20, 22, 23, 24, 25, 26, 21, 27, 28, 29, 30] .nil := rfl
theorem s7_ok : okCode E 152 s7 (Try.f7.body.getD .skip) = true := by kernel_rfl
/-- the orders of laws.FnDeleteObsoleteFiles -/
def s8 (i : Nat) : Tr := if i = 7 then .seq [0, 2, 1, 3, 4, 5, 6, 7, 8, 9, 10] .nil else .nil
theorem s8_7 : s8 7 = .seq [0, 2, 1, 3, 4, 5, 6, 7, 8, 9, 10] .nil := rfl
theorem s8_ok : okCode E 81 s8 (Try.f8.body.getD .skip) = true := by kernel_rfl
/-- the orders of laws.FnCommitRecovery -/
def s9 (i : Nat) : Tr := if i = 6 then .seq [0, 1, 2, 3, 4, 5, 6, 7, 8, 9, 10, 11, 12, 13, 15, 14, 16, 17, 18] .nil else .nil
theorem s9_6 : s9 6 = .seq [0, 1, 2, 3, 4, 5, 6, 7, 8, 9, 10, 11, 12, 13, 15, 14, 16, 17, 18] .nil := rfl
theorem s9_ok : okCode E 122 s9 (Try.f9.body.getD .skip) = true := by kernel_rfl
/-- the orders of laws.FnDatabaseDifference -/
def s10 (i : Nat) : Tr := if i = 14 then .seq [0, 1, 2, 3, 4, 6, 5, 7, 8, 9, 10, 11, 12, 13, 14] .nil else .nil
theorem s10_14 : s10 14 = .seq [0, 1, 2, 3, 4, 6, 5, 7, 8, 9, 10, 11, 12, 13, 14] .nil := rfl
theorem s10_ok : okCode E 90 s10 (Try.f10.body.getD .skip) = true := by kernel_rfl
/-- the orders of laws.FnBatches -/
def s11 (_ : Nat) : Tr := .nil
theorem s11_ok : okCode E 105 s11 (Try.f11.body.getD .skip) = true := by kernel_rfl
/-- the orders of laws.FnDeltas -/
def s12 (i : Nat) : Tr := if i = 7 then .seq [0, 1, 2, 3, 4, 5, 6, 7, 8, 9, 10, 11, 13, 14, 12, 15, 16, 17] .nil else if i = 13 then .seq [0, 1] (.both (.seq [2] (.both (.seq [3, 4, 5, 6, 7, 8, 9] .nil) (.seq [7, 3, 4, 5, 6, 8, 9] .nil))) (.seq [7, 2, 3, 4, 5, 6, 8, 9] .nil)) else .nil
theorem s12_7 : s12 7 = .seq [0, 1, 2, 3, 4, 5, 6, 7, 8, 9, 10, 11, 13, 14, 12, 15, 16, 17] .nil := rfl
theorem s12_13 : s12 13 = .seq [0, 1] (.both (.seq [2] (.both (.seq [3, 4, 5, 6, 7, 8, 9] .nil) (.seq [7, 3, 4, 5, 6, 8, 9] .nil))) (.seq [7, 2, 3, 4, 5, 6, 8, 9] .nil)) := rfl
theorem s12_ok : okCode E 118 s12 (Try.f12.body.getD .skip) = true := by kernel_rfl
/-- the orders of laws.FnCountedRelations -/
def s13 (i : Nat) : Tr := if i = 7 then .seq [0, 1, 2, 3, 4, 5, 6, 7, 8, 9, 10, 11, 12, 13, 14, 15, 17, 16, 18, 19, 20] .nil else if i = 11 then .seq [0, 1] (.both (.seq [2] (.both (.seq [3, 4, 5, 6, 7, 8, 9] .nil) (.seq [7, 3, 4, 5, 6, 8, 9] .nil))) (.seq [7, 2, 3, 4, 5, 6, 8, 9] .nil)) else if i = 12 then .seq [0, 1] (.both (.seq [2] (.both (.seq [3, 4, 5, 6, 7, 8, 9] .nil) (.seq [7, 3, 4, 5, 6, 8, 9] .nil))) (.seq [7, 2, 3, 4, 5, 6, 8, 9] .nil)) else if i = 16 then .seq [0, 1, 2, 3, 4, 5, 7, 8, 9, 10, 11, 12, 13, 14, 15, 16, 17, 6, 18, 19, 20] .nil else .nil
theorem s13_7 : s13 7 = .seq [0, 1, 2, 3, 4, 5, 6, 7, 8, 9, 10, 11, 12, 13, 14, 15, 17, 16, 18, 19, 20] .nil := rfl
theorem s13_11 : s13 11 = .seq [0, 1] (.both (.seq [2] (.both (.seq [3, 4, 5, 6, 7, 8, 9] .nil) (.seq [7, 3, 4, 5, 6, 8, 9] .nil))) (.seq [7, 2, 3, 4, 5, 6, 8, 9] .nil)) := rfl
theorem s13_12 : s13 12 = .seq [0, 1] (.both (.seq [2] (.both (.seq [3, 4, 5, 6, 7, 8, 9] .nil) (.seq [7, 3, 4, 5, 6, 8, 9] .nil))) (.seq [7, 2, 3, 4, 5, 6, 8, 9] .nil)) := rfl
theorem s13_16 : s13 16 = .seq [0, 1, 2, 3, 4, 5, 7, 8, 9, 10, 11, 12, 13, 14, 15, 16, 17, 6, 18, 19, 20] .nil := rfl
theorem s13_ok : okCode E 132 s13 (Try.f13.body.getD .skip) = true := by kernel_rfl
/-- the orders of laws.FnCountedProjection -/
def s14 (i : Nat) : Tr := if i = 26 then .seq [0, 1, 2, 3, 4, 5, 6, 7, 8, 9, 10, 11, 12, 13, 14, 15, 16, 17, 18, 19, 20, 21, 22, 23, 24, 25, 26] .nil else .nil
theorem s14_26 : s14 26 = .seq [0, 1, 2, 3, 4, 5, 6, 7, 8, 9, 10, 11, 12, 13, 14, 15, 16, 17, 18, 19, 20, 21, 22, 23, 24, 25, 26] .nil := rfl
theorem s14_ok : okCode E 130 s14 (Try.f14.body.getD .skip) = true := by kernel_rfl
/-- the orders of laws.szDisk -/
def s15 (_ : Nat) : Tr := .nil
theorem s15_ok : okCode E 12 s15 (Try.f15.body.getD .skip) = true := by kernel_rfl
/-- the orders of spec.NewestVersion -/
def s16 (i : Nat) : Tr := if i = 4 then .seq [0, 1, 2, 3, 4, 5, 6, 7, 8] .nil else .nil
theorem s16_4 : s16 4 = .seq [0, 1, 2, 3, 4, 5, 6, 7, 8] .nil := rfl
theorem s16_ok : okCode E 28 s16 (Try.f16.body.getD .skip) = true := by kernel_rfl
/-- the orders of laws.toDisk -/
def s17 (_ : Nat) : Tr := .nil
theorem s17_ok : okCode E 9 s17 (Try.f17.body.getD .skip) = true := by kernel_rfl
/-- the orders of impl.NewestVersion -/
def s18 (_ : Nat) : Tr := .nil
theorem s18_ok : okCode E 13 s18 (Try.f18.body.getD .skip) = true := by kernel_rfl
/-- the orders of laws.eqDisk -/
def s19 (_ : Nat) : Tr := .nil
theorem s19_ok : okCode E 11 s19 (Try.f19.body.getD .skip) = true := by kernel_rfl
/-- the orders of spec.DeleteObsoleteFiles -/
def s20 (i : Nat) : Tr := if i = 11 then .seq [0, 1, 2, 3, 4, 5, 6, 7, 8, 9, 10, 11] .nil else if i = 12 then .seq [0, 1, 2, 3, 4, 5, 6, 7, 8, 9, 10] .nil else .nil
theorem s20_11 : s20 11 = .seq [0, 1, 2, 3, 4, 5, 6, 7, 8, 9, 10, 11] .nil := rfl
theorem s20_12 : s20 12 = .seq [0, 1, 2, 3, 4, 5, 6, 7, 8, 9, 10] .nil := rfl
theorem s20_ok : okCode E 61 s20 (Try.f20.body.getD .skip) = true := by kernel_rfl
/-- the orders of impl.DeleteObsoleteFiles -/
def s21 (_ : Nat) : Tr := .nil
theorem s21_ok : okCode E 49 s21 (Try.f21.body.getD .skip) = true := by kernel_rfl
/-- the orders of laws.markDisk -/
def s22 (_ : Nat) : Tr := .nil
theorem s22_ok : okCode E 10 s22 (Try.f22.body.getD .skip) = true := by kernel_rfl
/-- the orders of laws.heldDisk -/
def s23 (_ : Nat) : Tr := .nil
theorem s23_ok : okCode E 12 s23 (Try.f23.body.getD .skip) = true := by kernel_rfl
/-- the orders of spec.RecoverDatabase -/
def s24 (_ : Nat) : Tr := .nil
theorem s24_ok : okCode E 21 s24 (Try.f24.body.getD .skip) = true := by kernel_rfl
/-- the orders of impl.RecoverDatabase -/
def s25 (_ : Nat) : Tr := .nil
theorem s25_ok : okCode E 22 s25 (Try.f25.body.getD .skip) = true := by kernel_rfl
/-- the orders of laws.eqDatabase -/
def s26 (_ : Nat) : Tr := .nil
theorem s26_ok : okCode E 11 s26 (Try.f26.body.getD .skip) = true := by kernel_rfl
/-- the orders of laws.markDatabase -/
def s27 (_ : Nat) : Tr := .nil
theorem s27_ok : okCode E 10 s27 (Try.f27.body.getD .skip) = true := by kernel_rfl
/-- the orders of laws.heldDatabase -/
def s28 (_ : Nat) : Tr := .nil
theorem s28_ok : okCode E 12 s28 (Try.f28.body.getD .skip) = true := by kernel_rfl
/-- the orders of laws.szDatabase -/
def s29 (_ : Nat) : Tr := .nil
theorem s29_ok : okCode E 12 s29 (Try.f29.body.getD .skip) = true := by kernel_rfl
/-- the orders of spec.CommitDatabase -/
def s30 (i : Nat) : Tr := if i = 6 then .seq [0, 1, 2, 3, 4, 5] .nil else if i = 10 then .seq [0, 1, 2, 3, 4, 5, 6, 7, 8, 9, 10, 11, 12] .nil else .nil
theorem s30_6 : s30 6 = .seq [0, 1, 2, 3, 4, 5] .nil := rfl
theorem s30_10 : s30 10 = .seq [0, 1, 2, 3, 4, 5, 6, 7, 8, 9, 10, 11, 12] .nil := rfl
theorem s30_ok : okCode E 65 s30 (Try.f30.body.getD .skip) = true := by kernel_rfl
/-- the orders of laws.toDatabase -/
def s31 (_ : Nat) : Tr := .nil
theorem s31_ok : okCode E 9 s31 (Try.f31.body.getD .skip) = true := by kernel_rfl
/-- the orders of impl.CommitDatabase -/
def s32 (i : Nat) : Tr := if i = 5 then .seq [0, 1] (.both (.seq [2, 3] (.both (.seq [4, 5, 6] .nil) (.seq [5, 4, 6] .nil))) (.seq [5, 2, 3, 4, 6] .nil)) else .nil
theorem s32_5 : s32 5 = .seq [0, 1] (.both (.seq [2, 3] (.both (.seq [4, 5, 6] .nil) (.seq [5, 4, 6] .nil))) (.seq [5, 2, 3, 4, 6] .nil)) := rfl
theorem s32_ok : okCode E 56 s32 (Try.f32.body.getD .skip) = true := by kernel_rfl
/-- the orders of laws.big -/
def s33 (_ : Nat) : Tr := .nil
theorem s33_ok : okCode E 6 s33 (Try.f33.body.getD .skip) = true := by kernel_rfl
/-- the orders of spec.DrawWriteFile -/
def s34 (_ : Nat) : Tr := .nil
theorem s34_ok : okCode E 15 s34 (Try.f34.body.getD .skip) = true := by kernel_rfl
/-- the orders of impl.WriteFile -/
def s35 (_ : Nat) : Tr := .nil
theorem s35_ok : okCode E 56 s35 (Try.f35.body.getD .skip) = true := by kernel_rfl
/-- the orders of impl.ReadFile -/
def s36 (_ : Nat) : Tr := .nil
theorem s36_ok : okCode E 22 s36 (Try.f36.body.getD .skip) = true := by kernel_rfl
/-- the orders of spec.IsValidDisk -/
def s37 (i : Nat) : Tr := if i = 4 then .seq [0, 1, 2, 3, 4, 5, 6, 7, 8, 9, 10, 11, 12, 13] .nil else .nil
theorem s37_4 : s37 4 = .seq [0, 1, 2, 3, 4, 5, 6, 7, 8, 9, 10, 11, 12, 13] .nil := rfl
theorem s37_ok : okCode E 25 s37 (Try.f37.body.getD .skip) = true := by kernel_rfl
/-- the orders of impl.IsValidDisk -/
def s38 (i : Nat) : Tr := if i = 4 then .seq [0, 1, 2, 3, 4, 5, 6, 7, 8, 9, 10, 11, 12, 13] .nil else .nil
theorem s38_4 : s38 4 = .seq [0, 1, 2, 3, 4, 5, 6, 7, 8, 9, 10, 11, 12, 13] .nil := rfl
theorem s38_ok : okCode E 25 s38 (Try.f38.body.getD .skip) = true := by kernel_rfl
/-- the orders of spec.ReadFile -/
def s39 (_ : Nat) : Tr := .nil
theorem s39_ok : okCode E 28 s39 (Try.f39.body.getD .skip) = true := by kernel_rfl
/-- the orders of spec.DrawVersionFiles -/
def s40 (_ : Nat) : Tr := .nil
theorem s40_ok : okCode E 12 s40 (Try.f40.body.getD .skip) = true := by kernel_rfl
/-- the orders of impl.VersionFiles -/
def s41 (i : Nat) : Tr := if i = 11 then .seq [0, 1, 2, 3, 4, 5, 6, 7, 8, 9, 10] .nil else .nil
theorem s41_11 : s41 11 = .seq [0, 1, 2, 3, 4, 5, 6, 7, 8, 9, 10] .nil := rfl
theorem s41_ok : okCode E 64 s41 (Try.f41.body.getD .skip) = true := by kernel_rfl
/-- the orders of spec.VersionFiles -/
def s42 (i : Nat) : Tr := if i = 10 then .seq [0, 1, 2, 3, 4, 5, 6, 7, 8, 9, 10, 11, 12, 13, 14] .nil else .nil
theorem s42_10 : s42 10 = .seq [0, 1, 2, 3, 4, 5, 6, 7, 8, 9, 10, 11, 12, 13, 14] .nil := rfl
theorem s42_ok : okCode E 71 s42 (Try.f42.body.getD .skip) = true := by kernel_rfl
/-- the orders of impl.ChecksumOf -/
def s43 (_ : Nat) : Tr := .nil
theorem s43_ok : okCode E 21 s43 (Try.f43.body.getD .skip) = true := by kernel_rfl
/-- the orders of spec.ChecksumOf -/
def s44 (_ : Nat) : Tr := .nil
theorem s44_ok : okCode E 21 s44 (Try.f44.body.getD .skip) = true := by kernel_rfl
/-- the orders of spec.DrawDeleteObsoleteFiles -/
def s45 (_ : Nat) : Tr := .nil
theorem s45_ok : okCode E 6 s45 (Try.f45.body.getD .skip) = true := by kernel_rfl
/-- the orders of spec.EqualDatabases -/
def s46 (i : Nat) : Tr := if i = 6 then .seq [0, 1, 2, 3, 4, 5, 6, 7, 8, 9, 10, 11, 12, 13, 14, 15, 16, 17, 18, 19, 20, 21, 22, 23, 24, 25, 26, 27, 28] .nil else .nil
theorem s46_6 : s46 6 = .seq [0, 1, 2, 3, 4, 5, 6, 7, 8, 9, 10, 11, 12, 13, 14, 15, 16, 17, 18, 19, 20, 21, 22, 23, 24, 25, 26, 27, 28] .nil := rfl
theorem s46_ok : okCode E 49 s46 (Try.f46.body.getD .skip) = true := by kernel_rfl
/-- the orders of spec.DrawCommitDatabase -/
def s47 (_ : Nat) : Tr := .nil
theorem s47_ok : okCode E 15 s47 (Try.f47.body.getD .skip) = true := by kernel_rfl
/-- the orders of spec.IsValidDatabase -/
def s48 (i : Nat) : Tr := if i = 5 then .seq [0, 1, 2, 3, 4, 5, 6, 7, 8, 9, 10, 11, 12, 13, 14, 15, 16, 17, 18, 19, 20, 21, 22, 23, 24, 25, 26, 27, 28, 29, 30, 31, 32, 33, 34, 35, 36, 37, 38] .nil else .nil
theorem s48_5 : s48 5 = .seq [0, 1, 2, 3, 4, 5, 6, 7, 8, 9, 10, 11, 12, 13, 14, 15, 16, 17, 18, 19, 20, 21, 22, 23, 24, 25, 26, 27, 28, 29, 30, 31, 32, 33, 34, 35, 36, 37, 38] .nil := rfl
theorem s48_ok : okCode E 60 s48 (Try.f48.body.getD .skip) = true := by kernel_rfl
/-- the orders of spec.DrawDiffDatabases -/
def s49 (i : Nat) : Tr := if i = 4 then .seq [2, 3, 4, 5, 6] (.both (.seq [0] (.both (.seq [1, 7, 8, 9, 10, 11] .nil) (.seq [7] (.both (.seq [1, 8, 9, 10, 11] .nil) (.seq [8] (.both (.seq [1, 9, 10, 11] .nil) (.seq [9, 1, 10, 11] .nil))))))) (.both (.seq [1] (.both (.seq [0, 7, 8, 9, 10, 11] .nil) (.seq [7] (.both (.seq [0, 8, 9, 10, 11] .nil) (.seq [8, 0, 9, 10, 11] .nil))))) (.seq [7] (.both (.seq [0] (.both (.seq [1, 8, 9, 10, 11] .nil) (.seq [8] (.both (.seq [1, 9, 10, 11] .nil) (.seq [9, 1, 10, 11] .nil))))) (.both (.seq [1] (.both (.seq [0, 8, 9, 10, 11] .nil) (.seq [8, 0, 9, 10, 11] .nil))) (.seq [8, 0] (.both (.seq [1, 9, 10, 11] .nil) (.seq [9, 1, 10, 11] .nil)))))))) else .nil
theorem s49_4 : s49 4 = .seq [2, 3, 4, 5, 6] (.both (.seq [0] (.both (.seq [1, 7, 8, 9, 10, 11] .nil) (.seq [7] (.both (.seq [1, 8, 9, 10, 11] .nil) (.seq [8] (.both (.seq [1, 9, 10, 11] .nil) (.seq [9, 1, 10, 11] .nil))))))) (.both (.seq [1] (.both (.seq [0, 7, 8, 9, 10, 11] .nil) (.seq [7] (.both (.seq [0, 8, 9, 10, 11] .nil) (.seq [8, 0, 9, 10, 11] .nil))))) (.seq [7] (.both (.seq [0] (.both (.seq [1, 8, 9, 10, 11] .nil) (.seq [8] (.both (.seq [1, 9, 10, 11] .nil) (.seq [9, 1, 10, 11] .nil))))) (.both (.seq [1] (.both (.seq [0, 8, 9, 10, 11] .nil) (.seq [8, 0, 9, 10, 11] .nil))) (.seq [8, 0] (.both (.seq [1, 9, 10, 11] .nil) (.seq [9, 1, 10, 11] .nil)))))))) := rfl
theorem s49_ok : okCode E 32 s49 (Try.f49.body.getD .skip) = true := by kernel_rfl
/-- the orders of impl.DiffDatabases -/
def s50 (_ : Nat) : Tr := .nil
theorem s50_ok : okCode E 58 s50 (Try.f50.body.getD .skip) = true := by kernel_rfl
/-- the orders of spec.DiffDatabases -/
def s51 (_ : Nat) : Tr := .nil
theorem s51_ok : okCode E 58 s51 (Try.f51.body.getD .skip) = true := by kernel_rfl
/-- the orders of spec.EqualDeltas -/
def s52 (_ : Nat) : Tr := .nil
theorem s52_ok : okCode E 24 s52 (Try.f52.body.getD .skip) = true := by kernel_rfl
/-- the orders of impl.ApplyDelta -/
def s53 (_ : Nat) : Tr := .nil
theorem s53_ok : okCode E 56 s53 (Try.f53.body.getD .skip) = true := by kernel_rfl
/-- the orders of impl.LookupRelation -/
def s54 (_ : Nat) : Tr := .nil
theorem s54_ok : okCode E 26 s54 (Try.f54.body.getD .skip) = true := by kernel_rfl
/-- the orders of spec.LookupRelation -/
def s55 (_ : Nat) : Tr := .nil
theorem s55_ok : okCode E 34 s55 (Try.f55.body.getD .skip) = true := by kernel_rfl
/-- the orders of spec.EqualRelations -/
def s56 (i : Nat) : Tr := if i = 6 then .seq [0, 1, 2, 3, 4, 5, 6, 7, 8, 9, 10, 11] .nil else .nil
theorem s56_6 : s56 6 = .seq [0, 1, 2, 3, 4, 5, 6, 7, 8, 9, 10, 11] .nil := rfl
theorem s56_ok : okCode E 39 s56 (Try.f56.body.getD .skip) = true := by kernel_rfl
/-- the orders of impl.InvertDelta -/
def s57 (i : Nat) : Tr := if i = 1 then .seq [0, 1, 2, 3, 5, 6, 4, 7, 8, 9] .nil else .nil
theorem s57_1 : s57 1 = .seq [0, 1, 2, 3, 5, 6, 4, 7, 8, 9] .nil := rfl
theorem s57_ok : okCode E 12 s57 (Try.f57.body.getD .skip) = true := by kernel_rfl
/-- the orders of impl.IsValidDelta -/
def s58 (_ : Nat) : Tr := .nil
theorem s58_ok : okCode E 44 s58 (Try.f58.body.getD .skip) = true := by kernel_rfl
/-- the orders of spec.DrawApplyBatch -/
def s59 (_ : Nat) : Tr := .nil
theorem s59_ok : okCode E 8 s59 (Try.f59.body.getD .skip) = true := by kernel_rfl
/-- the orders of impl.ApplyBatch -/
def s60 (_ : Nat) : Tr := .nil
theorem s60_ok : okCode E 47 s60 (Try.f60.body.getD .skip) = true := by kernel_rfl
/-- the orders of spec.ApplyBatch -/
def s61 (i : Nat) : Tr := if i = 7 then .seq [0, 1, 2, 3, 4] (.both (.seq [5, 6, 7, 8, 9, 10, 11] .nil) (.seq [9, 5, 6, 7, 8, 10, 11] .nil)) else .nil
theorem s61_7 : s61 7 = .seq [0, 1, 2, 3, 4] (.both (.seq [5, 6, 7, 8, 9, 10, 11] .nil) (.seq [9, 5, 6, 7, 8, 10, 11] .nil)) := rfl
theorem s61_ok : okCode E 47 s61 (Try.f61.body.getD .skip) = true := by kernel_rfl
/-- the orders of impl.InvertBatch -/
def s62 (_ : Nat) : Tr := .nil
theorem s62_ok : okCode E 40 s62 (Try.f62.body.getD .skip) = true := by kernel_rfl
/-- the orders of impl.IsValidBatch -/
def s63 (_ : Nat) : Tr := .nil
theorem s63_ok : okCode E 16 s63 (Try.f63.body.getD .skip) = true := by kernel_rfl
/-- the orders of spec.DrawApplyDelta -/
def s64 (i : Nat) : Tr := if i = 2 then .seq [0] (.both (.seq [1, 2, 3] .nil) (.seq [2, 1, 3] .nil)) else .nil
theorem s64_2 : s64 2 = .seq [0] (.both (.seq [1, 2, 3] .nil) (.seq [2, 1, 3] .nil)) := rfl
theorem s64_ok : okCode E 14 s64 (Try.f64.body.getD .skip) = true := by kernel_rfl
/-- the orders of spec.ApplyDelta -/
def s65 (_ : Nat) : Tr := .nil
theorem s65_ok : okCode E 61 s65 (Try.f65.body.getD .skip) = true := by kernel_rfl
/-- the orders of impl.NormalizeDelta -/
def s66 (i : Nat) : Tr := if i = 9 then .seq [0, 1, 2, 3, 4, 5, 6, 7, 8, 9] .nil else if i = 15 then .seq [0, 1, 2, 3, 4, 5, 6, 7, 8, 9] .nil else .nil
theorem s66_9 : s66 9 = .seq [0, 1, 2, 3, 4, 5, 6, 7, 8, 9] .nil := rfl
theorem s66_15 : s66 15 = .seq [0, 1, 2, 3, 4, 5, 6, 7, 8, 9] .nil := rfl
theorem s66_ok : okCode E 82 s66 (Try.f66.body.getD .skip) = true := by kernel_rfl
/-- the orders of spec.IsValidDelta -/
def s67 (i : Nat) : Tr := if i = 7 then .seq [0, 1, 2, 3, 4, 5, 6, 7] .nil else if i = 12 then .seq [0, 1, 2, 3, 4, 5, 6, 7, 8] .nil else .nil
theorem s67_7 : s67 7 = .seq [0, 1, 2, 3, 4, 5, 6, 7] .nil := rfl
theorem s67_12 : s67 12 = .seq [0, 1, 2, 3, 4, 5, 6, 7, 8] .nil := rfl
theorem s67_ok : okCode E 53 s67 (Try.f67.body.getD .skip) = true := by kernel_rfl
/-- the orders of impl.EqualDeltas -/
def s68 (_ : Nat) : Tr := .nil
theorem s68_ok : okCode E 24 s68 (Try.f68.body.getD .skip) = true := by kernel_rfl
/-- the orders of spec.DrawAddCounted -/
def s69 (i : Nat) : Tr := if i = 4 then .seq [1] (.both (.seq [0, 2, 3, 4] .nil) (.seq [2, 0, 3, 4] .nil)) else if i = 5 then .seq [1, 2, 3, 4, 5] (.both (.seq [0, 6, 7, 8] .nil) (.seq [6, 0, 7, 8] .nil)) else .nil
theorem s69_4 : s69 4 = .seq [1] (.both (.seq [0, 2, 3, 4] .nil) (.seq [2, 0, 3, 4] .nil)) := rfl
theorem s69_5 : s69 5 = .seq [1, 2, 3, 4, 5] (.both (.seq [0, 6, 7, 8] .nil) (.seq [6, 0, 7, 8] .nil)) := rfl
theorem s69_ok : okCode E 22 s69 (Try.f69.body.getD .skip) = true := by kernel_rfl
/-- the orders of impl.AddCounted -/
def s70 (_ : Nat) : Tr := .nil
theorem s70_ok : okCode E 57 s70 (Try.f70.body.getD .skip) = true := by kernel_rfl
/-- the orders of spec.AddCounted -/
def s71 (i : Nat) : Tr := if i = 3 then .seq [0, 1, 3, 4, 6, 7, 10, 11, 13, 14] (.both (.seq [2] (.both (.app 5 [25, 31, 35, 38] (.both (.app 8 [25, 35, 38] (.both (.seq [9] (.both (.app 12 [25, 38] (.both (.app 15 [25] (.both (.seq [16, 17, 18, 19, 20, 21, 22] .nil) (.seq [20, 16, 17, 18, 19, 21, 22] .nil))) (.seq [20] (.app 15 [25] (.seq [16, 17, 18, 19, 21, 22] .nil))))) (.seq [20] (.app 12 [25, 38] (.app 15 [25] (.seq [16, 17, 18, 19, 21, 22] .nil)))))) (.seq [20, 9] (.app 12 [25, 38] (.app 15 [25] (.seq [16, 17, 18, 19, 21, 22] .nil)))))) (.both (.seq [9] (.both (.app 8 [25, 35, 38] (.both (.app 12 [25, 38] (.both (.app 15 [25] (.both (.seq [16, 17, 18, 19, 20, 21, 22] .nil) (.seq [20, 16, 17, 18, 19, 21, 22] .nil))) (.seq [20] (.app 15 [25] (.seq [16, 17, 18, 19, 21, 22] .nil))))) (.seq [20] (.app 12 [25, 38] (.app 15 [25] (.seq [16, 17, 18, 19, 21, 22] .nil)))))) (.seq [20] (.app 8 [25, 35, 38] (.app 12 [25, 38] (.app 15 [25] (.seq [16, 17, 18, 19, 21, 22] .nil))))))) (.seq [20] (.both (.app 8 [25, 35, 38] (.seq [9] (.app 12 [25, 38] (.app 15 [25] (.seq [16, 17, 18, 19, 21, 22] .nil))))) (.seq [9] (.app 8 [25, 35, 38] (.app 12 [25, 38] (.app 15 [25] (.seq [16, 17, 18, 19, 21, 22] .nil)))))))))) (.both (.seq [9] (.both (.app 5 [25, 31, 35, 38] (.both (.app 8 [25, 35, 38] (.both (.app 12 [25, 38] (.both (.app 15 [25] (.both (.seq [16, 17, 18, 19, 20, 21, 22] .nil) (.seq [20, 16, 17, 18, 19, 21, 22] .nil))) (.seq [20] (.app 15 [25] (.seq [16, 17, 18, 19, 21, 22] .nil))))) (.seq [20] (.app 12 [25, 38] (.app 15 [25] (.seq [16, 17, 18, 19, 21, 22] .nil)))))) (.seq [20] (.app 8 [25, 35, 38] (.app 12 [25, 38] (.app 15 [25] (.seq [16, 17, 18, 19, 21, 22] .nil))))))) (.seq [20] (.app 5 [25, 31, 35, 38] (.app 8 [25, 35, 38] (.app 12 [25, 38] (.app 15 [25] (.seq [16, 17, 18, 19, 21, 22] .nil)))))))) (.seq [20] (.both (.app 5 [25, 31, 35, 38] (.both (.app 8 [25, 35, 38] (.seq [9] (.app 12 [25, 38] (.app 15 [25] (.seq [16, 17, 18, 19, 21, 22] .nil))))) (.seq [9] (.app 8 [25, 35, 38] (.app 12 [25, 38] (.app 15 [25] (.seq [16, 17, 18, 19, 21, 22] .nil))))))) (.seq [9] (.app 5 [25, 31, 35, 38] (.app 8 [25, 35, 38] (.app 12 [25, 38] (.app 15 [25] (.seq [16, 17, 18, 19, 21, 22] .nil))))))))))) (.both (.seq [9] (.both (.seq [2] (.both (.app 5 [25, 31, 35, 38] (.both (.app 8 [25, 35, 38] (.both (.app 12 [25, 38] (.both (.app 15 [25] (.both (.seq [16, 17, 18, 19, 20, 21, 22] .nil) (.seq [20, 16, 17, 18, 19, 21, 22] .nil))) (.seq [20] (.app 15 [25] (.seq [16, 17, 18, 19, 21, 22] .nil))))) (.seq [20] (.app 12 [25, 38] (.app 15 [25] (.seq [16, 17, 18, 19, 21, 22] .nil)))))) (.seq [20] (.app 8 [25, 35, 38] (.app 12 [25, 38] (.app 15 [25] (.seq [16, 17, 18, 19, 21, 22] .nil))))))) (.seq [20] (.app 5 [25, 31, 35, 38] (.app 8 [25, 35, 38] (.app 12 [25, 38] (.app 15 [25] (.seq [16, 17, 18, 19, 21, 22] .nil)))))))) (.seq [20, 2] (.app 5 [25, 31, 35, 38] (.app 8 [25, 35, 38] (.app 12 [25, 38] (.app 15 [25] (.seq [16, 17, 18, 19, 21, 22] .nil)))))))) (.seq [20] (.both (.seq [2] (.both (.app 5 [25, 31, 35, 38] (.both (.app 8 [25, 35, 38] (.seq [9] (.app 12 [25, 38] (.app 15 [25] (.seq [16, 17, 18, 19, 21, 22] .nil))))) (.seq [9] (.app 8 [25, 35, 38] (.app 12 [25, 38] (.app 15 [25] (.seq [16, 17, 18, 19, 21, 22] .nil))))))) (.seq [9] (.app 5 [25, 31, 35, 38] (.app 8 [25, 35, 38] (.app 12 [25, 38] (.app 15 [25] (.seq [16, 17, 18, 19, 21, 22] .nil)))))))) (.seq [9, 2] (.app 5 [25, 31, 35, 38] (.app 8 [25, 35, 38] (.app 12 [25, 38] (.app 15 [25] (.seq [16, 17, 18, 19, 21, 22] .nil)))))))))) else .nil
theorem s71_3 : s71 3 = .seq [0, 1, 3, 4, 6, 7, 10, 11, 13, 14] (.both (.seq [2] (.both (.app 5 [25, 31, 35, 38] (.both (.app 8 [25, 35, 38] (.both (.seq [9] (.both (.app 12 [25, 38] (.both (.app 15 [25] (.both (.seq [16, 17, 18, 19, 20, 21, 22] .nil) (.seq [20, 16, 17, 18, 19, 21, 22] .nil))) (.seq [20] (.app 15 [25] (.seq [16, 17, 18, 19, 21, 22] .nil))))) (.seq [20] (.app 12 [25, 38] (.app 15 [25] (.seq [16, 17, 18, 19, 21, 22] .nil)))))) (.seq [20, 9] (.app 12 [25, 38] (.app 15 [25] (.seq [16, 17, 18, 19, 21, 22] .nil)))))) (.both (.seq [9] (.both (.app 8 [25, 35, 38] (.both (.app 12 [25, 38] (.both (.app 15 [25] (.both (.seq [16, 17, 18, 19, 20, 21, 22] .nil) (.seq [20, 16, 17, 18, 19, 21, 22] .nil))) (.seq [20] (.app 15 [25] (.seq [16, 17, 18, 19, 21, 22] .nil))))) (.seq [20] (.app 12 [25, 38] (.app 15 [25] (.seq [16, 17, 18, 19, 21, 22] .nil)))))) (.seq [20] (.app 8 [25, 35, 38] (.app 12 [25, 38] (.app 15 [25] (.seq [16, 17, 18, 19, 21, 22] .nil))))))) (.seq [20] (.both (.app 8 [25, 35, 38] (.seq [9] (.app 12 [25, 38] (.app 15 [25] (.seq [16, 17, 18, 19, 21, 22] .nil))))) (.seq [9] (.app 8 [25, 35, 38] (.app 12 [25, 38] (.app 15 [25] (.seq [16, 17, 18, 19, 21, 22] .nil)))))))))) (.both (.seq [9] (.both (.app 5 [25, 31, 35, 38] (.both (.app 8 [25, 35, 38] (.both (.app 12 [25, 38] (.both (.app 15 [25] (.both (.seq [16, 17, 18, 19, 20, 21, 22] .nil) (.seq [20, 16, 17, 18, 19, 21, 22] .nil))) (.seq [20] (.app 15 [25] (.seq [16, 17, 18, 19, 21, 22] .nil))))) (.seq [20] (.app 12 [25, 38] (.app 15 [25] (.seq [16, 17, 18, 19, 21, 22] .nil)))))) (.seq [20] (.app 8 [25, 35, 38] (.app 12 [25, 38] (.app 15 [25] (.seq [16, 17, 18, 19, 21, 22] .nil))))))) (.seq [20] (.app 5 [25, 31, 35, 38] (.app 8 [25, 35, 38] (.app 12 [25, 38] (.app 15 [25] (.seq [16, 17, 18, 19, 21, 22] .nil)))))))) (.seq [20] (.both (.app 5 [25, 31, 35, 38] (.both (.app 8 [25, 35, 38] (.seq [9] (.app 12 [25, 38] (.app 15 [25] (.seq [16, 17, 18, 19, 21, 22] .nil))))) (.seq [9] (.app 8 [25, 35, 38] (.app 12 [25, 38] (.app 15 [25] (.seq [16, 17, 18, 19, 21, 22] .nil))))))) (.seq [9] (.app 5 [25, 31, 35, 38] (.app 8 [25, 35, 38] (.app 12 [25, 38] (.app 15 [25] (.seq [16, 17, 18, 19, 21, 22] .nil))))))))))) (.both (.seq [9] (.both (.seq [2] (.both (.app 5 [25, 31, 35, 38] (.both (.app 8 [25, 35, 38] (.both (.app 12 [25, 38] (.both (.app 15 [25] (.both (.seq [16, 17, 18, 19, 20, 21, 22] .nil) (.seq [20, 16, 17, 18, 19, 21, 22] .nil))) (.seq [20] (.app 15 [25] (.seq [16, 17, 18, 19, 21, 22] .nil))))) (.seq [20] (.app 12 [25, 38] (.app 15 [25] (.seq [16, 17, 18, 19, 21, 22] .nil)))))) (.seq [20] (.app 8 [25, 35, 38] (.app 12 [25, 38] (.app 15 [25] (.seq [16, 17, 18, 19, 21, 22] .nil))))))) (.seq [20] (.app 5 [25, 31, 35, 38] (.app 8 [25, 35, 38] (.app 12 [25, 38] (.app 15 [25] (.seq [16, 17, 18, 19, 21, 22] .nil)))))))) (.seq [20, 2] (.app 5 [25, 31, 35, 38] (.app 8 [25, 35, 38] (.app 12 [25, 38] (.app 15 [25] (.seq [16, 17, 18, 19, 21, 22] .nil)))))))) (.seq [20] (.both (.seq [2] (.both (.app 5 [25, 31, 35, 38] (.both (.app 8 [25, 35, 38] (.seq [9] (.app 12 [25, 38] (.app 15 [25] (.seq [16, 17, 18, 19, 21, 22] .nil))))) (.seq [9] (.app 8 [25, 35, 38] (.app 12 [25, 38] (.app 15 [25] (.seq [16, 17, 18, 19, 21, 22] .nil))))))) (.seq [9] (.app 5 [25, 31, 35, 38] (.app 8 [25, 35, 38] (.app 12 [25, 38] (.app 15 [25] (.seq [16, 17, 18, 19, 21, 22] .nil)))))))) (.seq [9, 2] (.app 5 [25, 31, 35, 38] (.app 8 [25, 35, 38] (.app 12 [25, 38] (.app 15 [25] (.seq [16, 17, 18, 19, 21, 22] .nil)))))))))) := rfl
theorem s71_ok : okCode E 46 s71 (Try.f71.body.getD .skip) = true := by kernel_rfl
/-- the orders of spec.EqualCounted -/
def s72 (_ : Nat) : Tr := .nil
theorem s72_ok : okCode E 27 s72 (Try.f72.body.getD .skip) = true := by kernel_rfl
/-- the orders of impl.IsValidCounted -/
def s73 (_ : Nat) : Tr := .nil
theorem s73_ok : okCode E 35 s73 (Try.f73.body.getD .skip) = true := by kernel_rfl
/-- the orders of spec.IsValidCounted -/
def s74 (_ : Nat) : Tr := .nil
theorem s74_ok : okCode E 42 s74 (Try.f74.body.getD .skip) = true := by kernel_rfl
/-- the orders of impl.NegateCounted -/
def s75 (i : Nat) : Tr := if i = 5 then .seq [0, 1, 2, 3, 4, 5, 6, 7, 8, 9, 10] .nil else .nil
theorem s75_5 : s75 5 = .seq [0, 1, 2, 3, 4, 5, 6, 7, 8, 9, 10] .nil := rfl
theorem s75_ok : okCode E 25 s75 (Try.f75.body.getD .skip) = true := by kernel_rfl
/-- the orders of impl.CountOfRow -/
def s76 (_ : Nat) : Tr := .nil
theorem s76_ok : okCode E 26 s76 (Try.f76.body.getD .skip) = true := by kernel_rfl
/-- the orders of spec.CountOfRow -/
def s77 (_ : Nat) : Tr := .nil
theorem s77_ok : okCode E 27 s77 (Try.f77.body.getD .skip) = true := by kernel_rfl
/-- the orders of impl.EqualCounted -/
def s78 (_ : Nat) : Tr := .nil
theorem s78_ok : okCode E 24 s78 (Try.f78.body.getD .skip) = true := by kernel_rfl
/-- the orders of spec.DrawProjectCounted -/
def s79 (_ : Nat) : Tr := .nil
theorem s79_ok : okCode E 29 s79 (Try.f79.body.getD .skip) = true := by kernel_rfl
/-- the orders of impl.ProjectCounted -/
def s80 (i : Nat) : Tr := if i = 7 then .seq [0, 1, 3, 4, 5, 6, 7, 2, 8] .nil else .nil
theorem s80_7 : s80 7 = .seq [0, 1, 3, 4, 5, 6, 7, 2, 8] .nil := rfl
theorem s80_ok : okCode E 49 s80 (Try.f80.body.getD .skip) = true := by kernel_rfl
/-- the orders of spec.ProjectCounted -/
def s81 (i : Nat) : Tr := if i = 4 then .seq [0, 1, 2, 3, 4, 5, 6, 7, 8] .nil else .nil
theorem s81_4 : s81 4 = .seq [0, 1, 2, 3, 4, 5, 6, 7, 8] .nil := rfl
theorem s81_ok : okCode E 65 s81 (Try.f81.body.getD .skip) = true := by kernel_rfl
/-- the orders of impl.RowsOfCounted -/
def s82 (i : Nat) : Tr := if i = 9 then .seq [0, 1, 2, 3, 4, 5, 6, 7] .nil else .nil
theorem s82_9 : s82 9 = .seq [0, 1, 2, 3, 4, 5, 6, 7] .nil := rfl
theorem s82_ok : okCode E 27 s82 (Try.f82.body.getD .skip) = true := by kernel_rfl
/-- the orders of laws.szFileS -/
def s83 (_ : Nat) : Tr := .nil
theorem s83_ok : okCode E 27 s83 (Try.f83.body.getD .skip) = true := by kernel_rfl
/-- the orders of spec.l32Head -/
def s84 (_ : Nat) : Tr := .nil
theorem s84_ok : okCode E 6 s84 (Try.f84.body.getD .skip) = true := by kernel_rfl
/-- the orders of spec.l32Load -/
def s85 (i : Nat) : Tr := if i = 1 then .seq [0, 1, 2, 3, 4, 5, 6, 7, 8] .nil else if i = 8 then .seq [0, 1, 2, 3, 4, 5, 6, 7, 8, 9, 10, 11] .nil else if i = 10 then .seq [0, 1, 2, 3, 4, 5, 6, 7, 8, 9, 10, 11, 12, 15, 16, 17, 13, 14, 18, 19] .nil else if i = 12 then .seq [0, 1, 2, 3, 4, 5, 6, 7, 8, 9, 10] .nil else .nil
theorem s85_1 : s85 1 = .seq [0, 1, 2, 3, 4, 5, 6, 7, 8] .nil := rfl
theorem s85_8 : s85 8 = .seq [0, 1, 2, 3, 4, 5, 6, 7, 8, 9, 10, 11] .nil := rfl
theorem s85_10 : s85 10 = .seq [0, 1, 2, 3, 4, 5, 6, 7, 8, 9, 10, 11, 12, 15, 16, 17, 13, 14, 18, 19] .nil := rfl
theorem s85_12 : s85 12 = .seq [0, 1, 2, 3, 4, 5, 6, 7, 8, 9, 10] .nil := rfl
theorem s85_ok : okCode E 115 s85 (Try.f85.body.getD .skip) = true := by kernel_rfl
/-- the orders of laws.toFileS -/
def s86 (_ : Nat) : Tr := .nil
theorem s86_ok : okCode E 23 s86 (Try.f86.body.getD .skip) = true := by kernel_rfl
/-- the orders of laws.eqFileS -/
def s87 (i : Nat) : Tr := if i = 6 then .seq [0, 1, 2, 3, 4, 5, 6, 7, 8, 9] .nil else .nil
theorem s87_6 : s87 6 = .seq [0, 1, 2, 3, 4, 5, 6, 7, 8, 9] .nil := rfl
theorem s87_ok : okCode E 27 s87 (Try.f87.body.getD .skip) = true := by kernel_rfl
/-- the orders of laws.markFileS -/
def s88 (_ : Nat) : Tr := .nil
theorem s88_ok : okCode E 29 s88 (Try.f88.body.getD .skip) = true := by kernel_rfl
/-- the orders of laws.heldFileS -/
def s89 (i : Nat) : Tr := if i = 4 then .seq [0, 1, 2, 3, 4, 5, 6, 7] .nil else if i = 7 then .seq [0, 1, 2, 3, 4, 5, 6, 7] .nil else .nil
theorem s89_4 : s89 4 = .seq [0, 1, 2, 3, 4, 5, 6, 7] .nil := rfl
theorem s89_7 : s89 7 = .seq [0, 1, 2, 3, 4, 5, 6, 7] .nil := rfl
theorem s89_ok : okCode E 33 s89 (Try.f89.body.getD .skip) = true := by kernel_rfl
/-- the orders of impl.readVersion -/
def s90 (_ : Nat) : Tr := .nil
theorem s90_ok : okCode E 112 s90 (Try.f90.body.getD .skip) = true := by kernel_rfl
/-- the orders of laws.eqTableS -/
def s91 (i : Nat) : Tr := if i = 6 then .seq [0, 1, 2, 3, 4, 5, 6, 7, 8, 9] .nil else .nil
theorem s91_6 : s91 6 = .seq [0, 1, 2, 3, 4, 5, 6, 7, 8, 9] .nil := rfl
theorem s91_ok : okCode E 27 s91 (Try.f91.body.getD .skip) = true := by kernel_rfl
/-- the orders of laws.markTableS -/
def s92 (_ : Nat) : Tr := .nil
theorem s92_ok : okCode E 37 s92 (Try.f92.body.getD .skip) = true := by kernel_rfl
/-- the orders of laws.heldTableS -/
def s93 (i : Nat) : Tr := if i = 4 then .seq [0, 1, 2, 3, 4, 5, 6, 7] .nil else .nil
theorem s93_4 : s93 4 = .seq [0, 1, 2, 3, 4, 5, 6, 7] .nil := rfl
theorem s93_ok : okCode E 43 s93 (Try.f93.body.getD .skip) = true := by kernel_rfl
/-- the orders of laws.szTableS -/
def s94 (_ : Nat) : Tr := .nil
theorem s94_ok : okCode E 27 s94 (Try.f94.body.getD .skip) = true := by kernel_rfl
/-- the orders of spec.l32Without -/
def s95 (i : Nat) : Tr := if i = 6 then .seq [0, 1, 2, 3, 4, 5, 6, 7, 8, 9, 10] .nil else .nil
theorem s95_6 : s95 6 = .seq [0, 1, 2, 3, 4, 5, 6, 7, 8, 9, 10] .nil := rfl
theorem s95_ok : okCode E 34 s95 (Try.f95.body.getD .skip) = true := by kernel_rfl
/-- the orders of spec.WriteFile -/
def s96 (_ : Nat) : Tr := .nil
theorem s96_ok : okCode E 61 s96 (Try.f96.body.getD .skip) = true := by kernel_rfl
/-- the orders of laws.toTableS -/
def s97 (_ : Nat) : Tr := .nil
theorem s97_ok : okCode E 23 s97 (Try.f97.body.getD .skip) = true := by kernel_rfl
/-- the orders of impl.copyDisk -/
def s98 (_ : Nat) : Tr := .nil
theorem s98_ok : okCode E 8 s98 (Try.f98.body.getD .skip) = true := by kernel_rfl
/-- the orders of impl.removed -/
def s99 (_ : Nat) : Tr := .nil
theorem s99_ok : okCode E 27 s99 (Try.f99.body.getD .skip) = true := by kernel_rfl
/-- the orders of impl.FormatInt -/
def s100 (_ : Nat) : Tr := .nil
theorem s100_ok : okCode E 30 s100 (Try.f100.body.getD .skip) = true := by kernel_rfl
/-- the orders of spec.l1New -/
def s101 (_ : Nat) : Tr := .nil
theorem s101_ok : okCode E 32 s101 (Try.f101.body.getD .skip) = true := by kernel_rfl
/-- the orders of spec.l32Disk -/
def s102 (i : Nat) : Tr := if i = 6 then .seq [0, 1, 2, 3, 4, 5] .nil else if i = 7 then .seq [2, 3, 4, 5, 6, 7, 8, 9, 10] (.both (.seq [0] (.both (.seq [1, 11, 12, 13, 14, 15, 16, 17, 18] .nil) (.seq [11] (.both (.seq [1, 12, 13, 14, 15, 16, 17, 18] .nil) (.seq [12] (.both (.seq [1, 13, 14, 15, 16, 17, 18] .nil) (.seq [13, 1, 14, 15, 16, 17, 18] .nil))))))) (.both (.seq [1] (.both (.seq [0, 11, 12, 13, 14, 15, 16, 17, 18] .nil) (.seq [11] (.both (.seq [0, 12, 13, 14, 15, 16, 17, 18] .nil) (.seq [12] (.both (.seq [0, 13, 14, 15, 16, 17, 18] .nil) (.seq [13, 0, 14, 15, 16, 17, 18] .nil))))))) (.seq [11] (.both (.seq [0] (.both (.seq [1, 12, 13, 14, 15, 16, 17, 18] .nil) (.seq [12] (.both (.seq [1, 13, 14, 15, 16, 17, 18] .nil) (.seq [13, 1, 14, 15, 16, 17, 18] .nil))))) (.both (.seq [1] (.both (.seq [0, 12, 13, 14, 15, 16, 17, 18] .nil) (.seq [12] (.both (.seq [0, 13, 14, 15, 16, 17, 18] .nil) (.seq [13, 0, 14, 15, 16, 17, 18] .nil))))) (.seq [12] (.both (.seq [0] (.both (.seq [1, 13, 14, 15, 16, 17, 18] .nil) (.seq [13, 1, 14, 15, 16, 17, 18] .nil))) (.both (.seq [1] (.both (.seq [0, 13, 14, 15, 16, 17, 18] .nil) (.seq [13, 0, 14, 15, 16, 17, 18] .nil))) (.seq [13, 0, 1, 14, 15, 16, 17, 18] .nil))))))))) else if i = 8 then .seq [1, 2] (.both (.seq [0, 3, 4, 5, 6, 7, 8] .nil) (.seq [3, 0, 4, 5, 6, 7, 8] .nil)) else if i = 11 then .seq [0, 2, 3, 4, 5, 6, 7, 8, 9] (.both (.seq [1, 10, 11, 12, 13] .nil) (.seq [10, 1, 11, 12, 13] .nil)) else if i = 13 then .seq [0, 1, 2, 3, 4, 5, 6, 7, 8, 9] .nil else .nil
theorem s102_6 : s102 6 = .seq [0, 1, 2, 3, 4, 5] .nil := rfl
theorem s102_7 : s102 7 = .seq [2, 3, 4, 5, 6, 7, 8, 9, 10] (.both (.seq [0] (.both (.seq [1, 11, 12, 13, 14, 15, 16, 17, 18] .nil) (.seq [11] (.both (.seq [1, 12, 13, 14, 15, 16, 17, 18] .nil) (.seq [12] (.both (.seq [1, 13, 14, 15, 16, 17, 18] .nil) (.seq [13, 1, 14, 15, 16, 17, 18] .nil))))))) (.both (.seq [1] (.both (.seq [0, 11, 12, 13, 14, 15, 16, 17, 18] .nil) (.seq [11] (.both (.seq [0, 12, 13, 14, 15, 16, 17, 18] .nil) (.seq [12] (.both (.seq [0, 13, 14, 15, 16, 17, 18] .nil) (.seq [13, 0, 14, 15, 16, 17, 18] .nil))))))) (.seq [11] (.both (.seq [0] (.both (.seq [1, 12, 13, 14, 15, 16, 17, 18] .nil) (.seq [12] (.both (.seq [1, 13, 14, 15, 16, 17, 18] .nil) (.seq [13, 1, 14, 15, 16, 17, 18] .nil))))) (.both (.seq [1] (.both (.seq [0, 12, 13, 14, 15, 16, 17, 18] .nil) (.seq [12] (.both (.seq [0, 13, 14, 15, 16, 17, 18] .nil) (.seq [13, 0, 14, 15, 16, 17, 18] .nil))))) (.seq [12] (.both (.seq [0] (.both (.seq [1, 13, 14, 15, 16, 17, 18] .nil) (.seq [13, 1, 14, 15, 16, 17, 18] .nil))) (.both (.seq [1] (.both (.seq [0, 13, 14, 15, 16, 17, 18] .nil) (.seq [13, 0, 14, 15, 16, 17, 18] .nil))) (.seq [13, 0, 1, 14, 15, 16, 17, 18] .nil))))))))) := rfl
theorem s102_8 : s102 8 = .seq [1, 2] (.both (.seq [0, 3, 4, 5, 6, 7, 8] .nil) (.seq [3, 0, 4, 5, 6, 7, 8] .nil)) := rfl
theorem s102_11 : s102 11 = .seq [0, 2, 3, 4, 5, 6, 7, 8, 9] (.both (.seq [1, 10, 11, 12, 13] .nil) (.seq [10, 1, 11, 12, 13] .nil)) := rfl
theorem s102_13 : s102 13 = .seq [0, 1, 2, 3, 4, 5, 6, 7, 8, 9] .nil := rfl
theorem s102_ok : okCode E 92 s102 (Try.f102.body.getD .skip) = true := by kernel_rfl
/-- the orders of spec.l1Pick -/
def s103 (_ : Nat) : Tr := .nil
theorem s103_ok : okCode E 12 s103 (Try.f103.body.getD .skip) = true := by kernel_rfl
/-- the orders of spec.l1Text -/
def s104 (_ : Nat) : Tr := .nil
theorem s104_ok : okCode E 38 s104 (Try.f104.body.getD .skip) = true := by kernel_rfl
/-- the orders of spec.l6Any -/
def s105 (i : Nat) : Tr := if i = 5 then .seq [0, 2, 3] (.both (.seq [1, 4, 5, 6, 7, 8] .nil) (.seq [4] (.both (.seq [1, 5, 6, 7, 8] .nil) (.seq [5, 1, 6, 7, 8] .nil)))) else if i = 7 then .seq [0, 2, 3] (.both (.seq [1, 4, 5, 6, 7] .nil) (.seq [4, 1, 5, 6, 7] .nil)) else if i = 9 then .seq [0, 1, 2, 3, 4, 5, 6, 7, 8, 9, 10] .nil else .nil
theorem s105_5 : s105 5 = .seq [0, 2, 3] (.both (.seq [1, 4, 5, 6, 7, 8] .nil) (.seq [4] (.both (.seq [1, 5, 6, 7, 8] .nil) (.seq [5, 1, 6, 7, 8] .nil)))) := rfl
theorem s105_7 : s105 7 = .seq [0, 2, 3] (.both (.seq [1, 4, 5, 6, 7] .nil) (.seq [4, 1, 5, 6, 7] .nil)) := rfl
theorem s105_9 : s105 9 = .seq [0, 1, 2, 3, 4, 5, 6, 7, 8, 9, 10] .nil := rfl
theorem s105_ok : okCode E 50 s105 (Try.f105.body.getD .skip) = true := by kernel_rfl
/-- the orders of spec.l1PickInt -/
def s106 (_ : Nat) : Tr := .nil
theorem s106_ok : okCode E 12 s106 (Try.f106.body.getD .skip) = true := by kernel_rfl
/-- the orders of impl.IsValidDatabase -/
def s107 (i : Nat) : Tr := if i = 6 then .seq [0, 1, 2, 3, 4, 5, 6, 7, 8, 9, 10, 11, 12, 13, 14, 15, 16, 17, 18, 19, 20, 21, 22, 23, 24, 25, 26, 27, 28, 29, 30, 31, 32, 33, 34, 35, 36, 37, 38] .nil else .nil
theorem s107_6 : s107 6 = .seq [0, 1, 2, 3, 4, 5, 6, 7, 8, 9, 10, 11, 12, 13, 14, 15, 16, 17, 18, 19, 20, 21, 22, 23, 24, 25, 26, 27, 28, 29, 30, 31, 32, 33, 34, 35, 36, 37, 38] .nil := rfl
theorem s107_ok : okCode E 57 s107 (Try.f107.body.getD .skip) = true := by kernel_rfl
/-- the orders of impl.within -/
def s108 (_ : Nat) : Tr := .nil
theorem s108_ok : okCode E 15 s108 (Try.f108.body.getD .skip) = true := by kernel_rfl
/-- the orders of impl.FormatRelation -/
def s109 (_ : Nat) : Tr := .nil
theorem s109_ok : okCode E 31 s109 (Try.f109.body.getD .skip) = true := by kernel_rfl
/-- the orders of spec.l1In -/
def s110 (_ : Nat) : Tr := .nil
theorem s110_ok : okCode E 15 s110 (Try.f110.body.getD .skip) = true := by kernel_rfl
/-- the orders of spec.FormatRelation -/
def s111 (_ : Nat) : Tr := .nil
theorem s111_ok : okCode E 32 s111 (Try.f111.body.getD .skip) = true := by kernel_rfl
/-- the orders of spec.l32Run -/
def s112 (_ : Nat) : Tr := .nil
theorem s112_ok : okCode E 11 s112 (Try.f112.body.getD .skip) = true := by kernel_rfl
/-- the orders of spec.FormatInt -/
def s113 (_ : Nat) : Tr := .nil
theorem s113_ok : okCode E 31 s113 (Try.f113.body.getD .skip) = true := by kernel_rfl
/-- the orders of spec.l1Below -/
def s114 (_ : Nat) : Tr := .nil
theorem s114_ok : okCode E 37 s114 (Try.f114.body.getD .skip) = true := by kernel_rfl
/-- the orders of spec.IsValidName -/
def s115 (_ : Nat) : Tr := .nil
theorem s115_ok : okCode E 23 s115 (Try.f115.body.getD .skip) = true := by kernel_rfl
/-- the orders of spec.IsValidRelation -/
def s116 (i : Nat) : Tr := if i = 6 then .seq [0, 1, 2, 3, 4, 5, 6, 7, 8, 9, 10, 11, 12, 13, 14, 15, 16, 17, 18, 19, 20, 21, 22, 23, 24, 25, 26, 27, 28, 29, 30, 31, 32, 33, 34, 35, 36] .nil else .nil
theorem s116_6 : s116 6 = .seq [0, 1, 2, 3, 4, 5, 6, 7, 8, 9, 10, 11, 12, 13, 14, 15, 16, 17, 18, 19, 20, 21, 22, 23, 24, 25, 26, 27, 28, 29, 30, 31, 32, 33, 34, 35, 36] .nil := rfl
theorem s116_ok : okCode E 58 s116 (Try.f116.body.getD .skip) = true := by kernel_rfl
/-- the orders of spec.l26Both -/
def s117 (i : Nat) : Tr := if i = 4 then .seq [1, 2] (.both (.seq [0, 3, 4, 5] .nil) (.seq [3, 0, 4, 5] .nil)) else .nil
theorem s117_4 : s117 4 = .seq [1, 2] (.both (.seq [0, 3, 4, 5] .nil) (.seq [3, 0, 4, 5] .nil)) := rfl
theorem s117_ok : okCode E 15 s117 (Try.f117.body.getD .skip) = true := by kernel_rfl
/-- the orders of impl.Difference -/
def s118 (i : Nat) : Tr := if i = 8 then .seq [0, 1, 2, 3, 4, 5, 6, 7] .nil else .nil
theorem s118_8 : s118 8 = .seq [0, 1, 2, 3, 4, 5, 6, 7] .nil := rfl
theorem s118_ok : okCode E 48 s118 (Try.f118.body.getD .skip) = true := by kernel_rfl
/-- the orders of spec.Difference -/
def s119 (i : Nat) : Tr := if i = 7 then .seq [0, 1, 2, 3, 4, 5, 6, 7, 8, 9, 10, 11] .nil else if i = 9 then .seq [0, 1, 3, 4, 5, 6, 7, 2] (.app 8 [48] (.seq [9, 10, 11, 12] .nil)) else .nil
theorem s119_7 : s119 7 = .seq [0, 1, 2, 3, 4, 5, 6, 7, 8, 9, 10, 11] .nil := rfl
theorem s119_9 : s119 9 = .seq [0, 1, 3, 4, 5, 6, 7, 2] (.app 8 [48] (.seq [9, 10, 11, 12] .nil)) := rfl
theorem s119_ok : okCode E 61 s119 (Try.f119.body.getD .skip) = true := by kernel_rfl
/-- the orders of impl.copyDatabase -/
def s120 (i : Nat) : Tr := if i = 5 then .seq [0, 1, 2, 3, 4, 5, 6, 7, 8, 9, 10, 11] .nil else .nil
theorem s120_5 : s120 5 = .seq [0, 1, 2, 3, 4, 5, 6, 7, 8, 9, 10, 11] .nil := rfl
theorem s120_ok : okCode E 26 s120 (Try.f120.body.getD .skip) = true := by kernel_rfl
/-- the orders of impl.Union -/
def s121 (i : Nat) : Tr := if i = 3 then .seq [0, 1, 2, 3, 5, 6, 4] (.app 7 [22] (.seq [8, 9, 10, 11, 12] .nil)) else .nil
theorem s121_3 : s121 3 = .seq [0, 1, 2, 3, 5, 6, 4] (.app 7 [22] (.seq [8, 9, 10, 11, 12] .nil)) := rfl
theorem s121_ok : okCode E 33 s121 (Try.f121.body.getD .skip) = true := by kernel_rfl
/-- the orders of impl.SetRelation -/
def s122 (i : Nat) : Tr := if i = 10 then .seq [1, 2, 3, 4, 6, 9, 10, 11, 12] (.both (.seq [0] (.both (.app 5 [10, 68] (.seq [7] (.app 8 [68] (.seq [13, 14, 15] .nil)))) (.seq [7] (.app 5 [10, 68] (.app 8 [68] (.seq [13, 14, 15] .nil)))))) (.seq [7, 0] (.app 5 [10, 68] (.app 8 [68] (.seq [13, 14, 15] .nil))))) else .nil
theorem s122_10 : s122 10 = .seq [1, 2, 3, 4, 6, 9, 10, 11, 12] (.both (.seq [0] (.both (.app 5 [10, 68] (.seq [7] (.app 8 [68] (.seq [13, 14, 15] .nil)))) (.seq [7] (.app 5 [10, 68] (.app 8 [68] (.seq [13, 14, 15] .nil)))))) (.seq [7, 0] (.app 5 [10, 68] (.app 8 [68] (.seq [13, 14, 15] .nil))))) := rfl
theorem s122_ok : okCode E 80 s122 (Try.f122.body.getD .skip) = true := by kernel_rfl
/-- the orders of impl.copyRelation -/
def s123 (i : Nat) : Tr := if i = 1 then .seq [0, 1, 2, 3, 4, 5, 6] .nil else .nil
theorem s123_1 : s123 1 = .seq [0, 1, 2, 3, 4, 5, 6] .nil := rfl
theorem s123_ok : okCode E 9 s123 (Try.f123.body.getD .skip) = true := by kernel_rfl
/-- the orders of spec.l5Copy -/
def s124 (i : Nat) : Tr := if i = 5 then .seq [0, 1, 3, 4, 5, 6, 7, 2] (.app 8 [15] (.seq [9, 10, 11, 12] .nil)) else .nil
theorem s124_5 : s124 5 = .seq [0, 1, 3, 4, 5, 6, 7, 2] (.app 8 [15] (.seq [9, 10, 11, 12] .nil)) := rfl
theorem s124_ok : okCode E 28 s124 (Try.f124.body.getD .skip) = true := by kernel_rfl
/-- the orders of spec.CompareRows -/
def s125 (i : Nat) : Tr := if i = 4 then .seq [0, 1, 2, 3, 4, 5, 6, 7, 8] .nil else if i = 6 then .seq [0, 1, 2, 3, 4, 5, 6, 7, 8] .nil else .nil
theorem s125_4 : s125 4 = .seq [0, 1, 2, 3, 4, 5, 6, 7, 8] .nil := rfl
theorem s125_6 : s125 6 = .seq [0, 1, 2, 3, 4, 5, 6, 7, 8] .nil := rfl
theorem s125_ok : okCode E 46 s125 (Try.f125.body.getD .skip) = true := by kernel_rfl
/-- the orders of impl.applicable -/
def s126 (i : Nat) : Tr := if i = 3 then .seq [0, 1, 2, 3, 4, 5, 6, 7, 8, 9, 10, 11, 12, 14] (.both (.seq [13] (.both (.seq [15, 16, 17, 18, 19] .nil) (.seq [18, 15, 16, 17, 19] .nil))) (.both (.seq [15] (.both (.seq [13, 16, 17, 18, 19] .nil) (.seq [18, 13, 16, 17, 19] .nil))) (.seq [18, 13, 15, 16, 17, 19] .nil))) else .nil
theorem s126_3 : s126 3 = .seq [0, 1, 2, 3, 4, 5, 6, 7, 8, 9, 10, 11, 12, 14] (.both (.seq [13] (.both (.seq [15, 16, 17, 18, 19] .nil) (.seq [18, 15, 16, 17, 19] .nil))) (.both (.seq [15] (.both (.seq [13, 16, 17, 18, 19] .nil) (.seq [18, 13, 16, 17, 19] .nil))) (.seq [18, 13, 15, 16, 17, 19] .nil))) := rfl
theorem s126_ok : okCode E 44 s126 (Try.f126.body.getD .skip) = true := by kernel_rfl
/-- the orders of impl.ContainsRow -/
def s127 (_ : Nat) : Tr := .nil
theorem s127_ok : okCode E 19 s127 (Try.f127.body.getD .skip) = true := by kernel_rfl
/-- the orders of spec.DrawIsValidBatch -/
def s128 (i : Nat) : Tr := if i = 3 then .seq [1, 2] (.both (.seq [0, 3, 4, 5] .nil) (.seq [3, 0, 4, 5] .nil)) else .nil
theorem s128_3 : s128 3 = .seq [1, 2] (.both (.seq [0, 3, 4, 5] .nil) (.seq [3, 0, 4, 5] .nil)) := rfl
theorem s128_ok : okCode E 14 s128 (Try.f128.body.getD .skip) = true := by kernel_rfl
/-- the orders of spec.l6Copy -/
def s129 (i : Nat) : Tr := if i = 6 then .seq [0, 1, 2, 3, 4, 5, 6, 7, 8, 9, 10, 11, 12, 13] .nil else .nil
theorem s129_6 : s129 6 = .seq [0, 1, 2, 3, 4, 5, 6, 7, 8, 9, 10, 11, 12, 13] .nil := rfl
theorem s129_ok : okCode E 35 s129 (Try.f129.body.getD .skip) = true := by kernel_rfl
/-- the orders of spec.NormalizeDelta -/
def s130 (_ : Nat) : Tr := .nil
theorem s130_ok : okCode E 60 s130 (Try.f130.body.getD .skip) = true := by kernel_rfl
/-- the orders of spec.Union -/
def s131 (i : Nat) : Tr := if i = 3 then .seq [0, 1, 3, 4, 6, 7] (.both (.seq [2] (.both (.app 5 [25, 31] (.both (.app 8 [25] (.both (.seq [9, 10, 11, 12, 13, 14, 15] .nil) (.seq [13, 9, 10, 11, 12, 14, 15] .nil))) (.seq [13] (.app 8 [25] (.seq [9, 10, 11, 12, 14, 15] .nil))))) (.seq [13] (.app 5 [25, 31] (.app 8 [25] (.seq [9, 10, 11, 12, 14, 15] .nil)))))) (.seq [13, 2] (.app 5 [25, 31] (.app 8 [25] (.seq [9, 10, 11, 12, 14, 15] .nil))))) else .nil
theorem s131_3 : s131 3 = .seq [0, 1, 3, 4, 6, 7] (.both (.seq [2] (.both (.app 5 [25, 31] (.both (.app 8 [25] (.both (.seq [9, 10, 11, 12, 13, 14, 15] .nil) (.seq [13, 9, 10, 11, 12, 14, 15] .nil))) (.seq [13] (.app 8 [25] (.seq [9, 10, 11, 12, 14, 15] .nil))))) (.seq [13] (.app 5 [25, 31] (.app 8 [25] (.seq [9, 10, 11, 12, 14, 15] .nil)))))) (.seq [13, 2] (.app 5 [25, 31] (.app 8 [25] (.seq [9, 10, 11, 12, 14, 15] .nil))))) := rfl
theorem s131_ok : okCode E 39 s131 (Try.f131.body.getD .skip) = true := by kernel_rfl
/-- the orders of spec.SetRelation -/
def s132 (_ : Nat) : Tr := .nil
theorem s132_ok : okCode E 73 s132 (Try.f132.body.getD .skip) = true := by kernel_rfl
/-- the orders of impl.copyInts -/
def s133 (_ : Nat) : Tr := .nil
theorem s133_ok : okCode E 6 s133 (Try.f133.body.getD .skip) = true := by kernel_rfl
/-- the orders of spec.l26Fits -/
def s134 (_ : Nat) : Tr := .nil
theorem s134_ok : okCode E 41 s134 (Try.f134.body.getD .skip) = true := by kernel_rfl
/-- the orders of spec.ContainsRow -/
def s135 (_ : Nat) : Tr := .nil
theorem s135_ok : okCode E 17 s135 (Try.f135.body.getD .skip) = true := by kernel_rfl
/-- the orders of impl.EqualRelations -/
def s136 (_ : Nat) : Tr := .nil
theorem s136_ok : okCode E 17 s136 (Try.f136.body.getD .skip) = true := by kernel_rfl
/-- the orders of spec.l27Any -/
def s137 (i : Nat) : Tr := if i = 6 then .seq [0, 2] (.both (.seq [1, 3, 4, 5, 6] .nil) (.seq [3] (.both (.seq [1, 4, 5, 6] .nil) (.seq [4, 1, 5, 6] .nil)))) else if i = 10 then .seq [0, 1, 2, 3, 4, 5, 6, 7, 8, 9] .nil else .nil
theorem s137_6 : s137 6 = .seq [0, 2] (.both (.seq [1, 3, 4, 5, 6] .nil) (.seq [3] (.both (.seq [1, 4, 5, 6] .nil) (.seq [4, 1, 5, 6] .nil)))) := rfl
theorem s137_10 : s137 10 = .seq [0, 1, 2, 3, 4, 5, 6, 7, 8, 9] .nil := rfl
theorem s137_ok : okCode E 46 s137 (Try.f137.body.getD .skip) = true := by kernel_rfl
/-- the orders of spec.l1Once -/
def s138 (_ : Nat) : Tr := .nil
theorem s138_ok : okCode E 9 s138 (Try.f138.body.getD .skip) = true := by kernel_rfl
/-- the orders of spec.l27Z -/
def s139 (i : Nat) : Tr := if i = 5 then .seq [0, 2, 3] (.both (.seq [1, 4, 5, 6, 7] .nil) (.seq [4] (.both (.seq [1, 5, 6, 7] .nil) (.seq [5, 1, 6, 7] .nil)))) else .nil
theorem s139_5 : s139 5 = .seq [0, 2, 3] (.both (.seq [1, 4, 5, 6, 7] .nil) (.seq [4] (.both (.seq [1, 5, 6, 7] .nil) (.seq [5, 1, 6, 7] .nil)))) := rfl
theorem s139_ok : okCode E 30 s139 (Try.f139.body.getD .skip) = true := by kernel_rfl
/-- the orders of impl.copyCounted -/
def s140 (i : Nat) : Tr := if i = 1 then .seq [0, 1, 2, 3, 5, 6, 4, 7, 8, 9] .nil else .nil
theorem s140_1 : s140 1 = .seq [0, 1, 2, 3, 5, 6, 4, 7, 8, 9] .nil := rfl
theorem s140_ok : okCode E 12 s140 (Try.f140.body.getD .skip) = true := by kernel_rfl
/-- the orders of impl.tally -/
def s141 (i : Nat) : Tr := if i = 3 then .seq [0, 2, 3, 4, 5, 6, 7, 9, 13, 14, 15, 16, 17, 18, 1] (.app 8 [43] (.seq [10, 11] (.app 12 [43] (.seq [19, 20, 21, 22] .nil)))) else if i = 4 then .seq [0, 1, 2, 3, 4, 5, 6, 8, 11, 12, 13, 14, 15, 16] (.both (.seq [7, 9] (.app 10 [63] (.seq [17, 18, 19, 20] .nil))) (.seq [9, 7] (.app 10 [63] (.seq [17, 18, 19, 20] .nil)))) else .nil
theorem s141_3 : s141 3 = .seq [0, 2, 3, 4, 5, 6, 7, 9, 13, 14, 15, 16, 17, 18, 1] (.app 8 [43] (.seq [10, 11] (.app 12 [43] (.seq [19, 20, 21, 22] .nil)))) := rfl
theorem s141_4 : s141 4 = .seq [0, 1, 2, 3, 4, 5, 6, 8, 11, 12, 13, 14, 15, 16] (.both (.seq [7, 9] (.app 10 [63] (.seq [17, 18, 19, 20] .nil))) (.seq [9, 7] (.app 10 [63] (.seq [17, 18, 19, 20] .nil)))) := rfl
theorem s141_ok : okCode E 70 s141 (Try.f141.body.getD .skip) = true := by kernel_rfl
/-- the orders of impl.settled -/
def s142 (i : Nat) : Tr := if i = 6 then .seq [0, 1, 2, 3, 4, 5, 6, 7, 8, 9, 10] .nil else .nil
theorem s142_6 : s142 6 = .seq [0, 1, 2, 3, 4, 5, 6, 7, 8, 9, 10] .nil := rfl
theorem s142_ok : okCode E 37 s142 (Try.f142.body.getD .skip) = true := by kernel_rfl
/-- the orders of spec.l27Sum -/
def s143 (i : Nat) : Tr := if i = 8 then .seq [0, 1, 2, 3, 4, 5, 6, 7, 8, 9, 10] .nil else if i = 9 then .seq [0, 1, 2, 3, 4, 5, 6, 7, 8, 9, 10, 11, 12] .nil else if i = 15 then .seq [0, 1, 2, 3, 4, 5, 6, 7, 8, 9, 10] .nil else if i = 16 then .seq [0, 1, 2, 3, 4, 5, 6, 7, 8, 9] .nil else .nil
theorem s143_8 : s143 8 = .seq [0, 1, 2, 3, 4, 5, 6, 7, 8, 9, 10] .nil := rfl
theorem s143_9 : s143 9 = .seq [0, 1, 2, 3, 4, 5, 6, 7, 8, 9, 10, 11, 12] .nil := rfl
theorem s143_15 : s143 15 = .seq [0, 1, 2, 3, 4, 5, 6, 7, 8, 9, 10] .nil := rfl
theorem s143_16 : s143 16 = .seq [0, 1, 2, 3, 4, 5, 6, 7, 8, 9] .nil := rfl
theorem s143_ok : okCode E 94 s143 (Try.f143.body.getD .skip) = true := by kernel_rfl
/-- the orders of impl.rowsValid -/
def s144 (_ : Nat) : Tr := .nil
theorem s144_ok : okCode E 46 s144 (Try.f144.body.getD .skip) = true := by kernel_rfl
/-- the orders of impl.place -/
def s145 (_ : Nat) : Tr := .nil
theorem s145_ok : okCode E 42 s145 (Try.f145.body.getD .skip) = true := by kernel_rfl
/-- the orders of spec.l5Place -/
def s146 (_ : Nat) : Tr := .nil
theorem s146_ok : okCode E 46 s146 (Try.f146.body.getD .skip) = true := by kernel_rfl
/-- the orders of impl.sameRows -/
def s147 (i : Nat) : Tr := if i = 6 then .seq [0, 1, 2, 3, 4, 5, 6, 7, 8, 9] .nil else .nil
theorem s147_6 : s147 6 = .seq [0, 1, 2, 3, 4, 5, 6, 7, 8, 9] .nil := rfl
theorem s147_ok : okCode E 27 s147 (Try.f147.body.getD .skip) = true := by kernel_rfl
/-- the orders of impl.sameInts -/
def s148 (i : Nat) : Tr := if i = 6 then .seq [0, 1, 2, 3, 4, 5, 6, 7, 8] .nil else .nil
theorem s148_6 : s148 6 = .seq [0, 1, 2, 3, 4, 5, 6, 7, 8] .nil := rfl
theorem s148_ok : okCode E 26 s148 (Try.f148.body.getD .skip) = true := by kernel_rfl
/-- the orders of impl.columnsFit -/
def s149 (_ : Nat) : Tr := .nil
theorem s149_ok : okCode E 22 s149 (Try.f149.body.getD .skip) = true := by kernel_rfl
/-- the orders of impl.pick -/
def s150 (_ : Nat) : Tr := .nil
theorem s150_ok : okCode E 24 s150 (Try.f150.body.getD .skip) = true := by kernel_rfl
/-- the orders of spec.l5Cols -/
def s151 (_ : Nat) : Tr := .nil
theorem s151_ok : okCode E 25 s151 (Try.f151.body.getD .skip) = true := by kernel_rfl
/-- the orders of impl.copyRows -/
def s152 (_ : Nat) : Tr := .nil
theorem s152_ok : okCode E 19 s152 (Try.f152.body.getD .skip) = true := by kernel_rfl
/-- the orders of laws.szFile -/
def s153 (_ : Nat) : Tr := .nil
theorem s153_ok : okCode E 20 s153 (Try.f153.body.getD .skip) = true := by kernel_rfl
/-- the orders of spec.l5Cut -/
def s154 (_ : Nat) : Tr := .nil
theorem s154_ok : okCode E 35 s154 (Try.f154.body.getD .skip) = true := by kernel_rfl
/-- the orders of spec.ParseRelation -/
def s155 (i : Nat) : Tr := if i = 11 then .seq [0, 1, 2, 3, 4, 5, 6, 7, 8, 9, 10, 11, 12] .nil else .nil
theorem s155_11 : s155 11 = .seq [0, 1, 2, 3, 4, 5, 6, 7, 8, 9, 10, 11, 12] .nil := rfl
theorem s155_ok : okCode E 96 s155 (Try.f155.body.getD .skip) = true := by kernel_rfl
/-- the orders of laws.toFile -/
def s156 (_ : Nat) : Tr := .nil
theorem s156_ok : okCode E 11 s156 (Try.f156.body.getD .skip) = true := by kernel_rfl
/-- the orders of laws.eqFile -/
def s157 (_ : Nat) : Tr := .nil
theorem s157_ok : okCode E 15 s157 (Try.f157.body.getD .skip) = true := by kernel_rfl
/-- the orders of laws.markText -/
def s158 (_ : Nat) : Tr := .nil
theorem s158_ok : okCode E 20 s158 (Try.f158.body.getD .skip) = true := by kernel_rfl
/-- the orders of impl.split -/
def s159 (_ : Nat) : Tr := .nil
theorem s159_ok : okCode E 35 s159 (Try.f159.body.getD .skip) = true := by kernel_rfl
/-- the orders of impl.ParseRelation -/
def s160 (_ : Nat) : Tr := .nil
theorem s160_ok : okCode E 73 s160 (Try.f160.body.getD .skip) = true := by kernel_rfl
/-- the orders of laws.eqTable -/
def s161 (_ : Nat) : Tr := .nil
theorem s161_ok : okCode E 16 s161 (Try.f161.body.getD .skip) = true := by kernel_rfl
/-- the orders of laws.markIntSS -/
def s162 (_ : Nat) : Tr := .nil
theorem s162_ok : okCode E 19 s162 (Try.f162.body.getD .skip) = true := by kernel_rfl
/-- the orders of laws.heldIntSS -/
def s163 (_ : Nat) : Tr := .nil
theorem s163_ok : okCode E 21 s163 (Try.f163.body.getD .skip) = true := by kernel_rfl
/-- the orders of laws.szTable -/
def s164 (_ : Nat) : Tr := .nil
theorem s164_ok : okCode E 19 s164 (Try.f164.body.getD .skip) = true := by kernel_rfl
/-- the orders of laws.toTable -/
def s165 (_ : Nat) : Tr := .nil
theorem s165_ok : okCode E 12 s165 (Try.f165.body.getD .skip) = true := by kernel_rfl
/-- the orders of spec.l6Db -/
def s166 (i : Nat) : Tr := if i = 13 then .seq [0, 2] (.both (.seq [1, 3, 4, 5, 6, 7] .nil) (.seq [3, 1, 4, 5, 6, 7] .nil)) else .nil
theorem s166_13 : s166 13 = .seq [0, 2] (.both (.seq [1, 3, 4, 5, 6, 7] .nil) (.seq [3, 1, 4, 5, 6, 7] .nil)) := rfl
theorem s166_ok : okCode E 47 s166 (Try.f166.body.getD .skip) = true := by kernel_rfl
/-- the orders of spec.l26Delta -/
def s167 (i : Nat) : Tr := if i = 3 then .seq [0, 2, 3, 4, 5] (.both (.seq [1] (.both (.seq [6, 7, 8, 9, 10] .nil) (.seq [9, 6, 7, 8, 10] .nil))) (.both (.seq [6, 1, 7, 8, 9, 10] .nil) (.seq [9] (.both (.seq [1, 6, 7, 8, 10] .nil) (.seq [6, 1, 7, 8, 10] .nil))))) else if i = 5 then .seq [0, 2, 3, 5, 6] (.both (.seq [1] (.both (.seq [4] (.both (.seq [7, 8, 9, 10] .nil) (.seq [9, 7, 8, 10] .nil))) (.seq [9, 4, 7, 8, 10] .nil))) (.both (.seq [4] (.both (.seq [1] (.both (.seq [7, 8, 9, 10] .nil) (.seq [9, 7, 8, 10] .nil))) (.both (.seq [7, 1, 8, 9, 10] .nil) (.seq [9] (.both (.seq [1, 7, 8, 10] .nil) (.seq [7, 1, 8, 10] .nil)))))) (.seq [9] (.both (.seq [1, 4, 7, 8, 10] .nil) (.seq [4] (.both (.seq [1, 7, 8, 10] .nil) (.seq [7, 1, 8, 10] .nil))))))) else if i = 10 then .seq [0, 1, 2, 3, 4, 5, 6, 7, 8, 9, 10, 11, 12, 13] .nil else .nil
theorem s167_3 : s167 3 = .seq [0, 2, 3, 4, 5] (.both (.seq [1] (.both (.seq [6, 7, 8, 9, 10] .nil) (.seq [9, 6, 7, 8, 10] .nil))) (.both (.seq [6, 1, 7, 8, 9, 10] .nil) (.seq [9] (.both (.seq [1, 6, 7, 8, 10] .nil) (.seq [6, 1, 7, 8, 10] .nil))))) := rfl
theorem s167_5 : s167 5 = .seq [0, 2, 3, 5, 6] (.both (.seq [1] (.both (.seq [4] (.both (.seq [7, 8, 9, 10] .nil) (.seq [9, 7, 8, 10] .nil))) (.seq [9, 4, 7, 8, 10] .nil))) (.both (.seq [4] (.both (.seq [1] (.both (.seq [7, 8, 9, 10] .nil) (.seq [9, 7, 8, 10] .nil))) (.both (.seq [7, 1, 8, 9, 10] .nil) (.seq [9] (.both (.seq [1, 7, 8, 10] .nil) (.seq [7, 1, 8, 10] .nil)))))) (.seq [9] (.both (.seq [1, 4, 7, 8, 10] .nil) (.seq [4] (.both (.seq [1, 7, 8, 10] .nil) (.seq [7, 1, 8, 10] .nil))))))) := rfl
theorem s167_10 : s167 10 = .seq [0, 1, 2, 3, 4, 5, 6, 7, 8, 9, 10, 11, 12, 13] .nil := rfl
theorem s167_ok : okCode E 85 s167 (Try.f167.body.getD .skip) = true := by kernel_rfl
/-- the orders of spec.l1Spoil -/
def s168 (i : Nat) : Tr := if i = 6 then .seq [0, 1, 2, 3, 4, 5, 6, 7, 8] .nil else if i = 8 then .seq [0, 1, 2, 3, 9, 10, 11, 4, 5, 6, 7, 8, 12, 13] .nil else if i = 11 then .seq [0, 1, 2, 3, 4, 5, 7, 15, 16, 17, 18] (.both (.seq [6, 8, 9, 10, 11, 12, 13, 14, 19, 20] .nil) (.seq [8, 6, 9, 10, 11, 12, 13, 14, 19, 20] .nil)) else .nil
theorem s168_6 : s168 6 = .seq [0, 1, 2, 3, 4, 5, 6, 7, 8] .nil := rfl
theorem s168_8 : s168 8 = .seq [0, 1, 2, 3, 9, 10, 11, 4, 5, 6, 7, 8, 12, 13] .nil := rfl
theorem s168_11 : s168 11 = .seq [0, 1, 2, 3, 4, 5, 7, 15, 16, 17, 18] (.both (.seq [6, 8, 9, 10, 11, 12, 13, 14, 19, 20] .nil) (.seq [8, 6, 9, 10, 11, 12, 13, 14, 19, 20] .nil)) := rfl
theorem s168_ok : okCode E 67 s168 (Try.f168.body.getD .skip) = true := by kernel_rfl
/-- the orders of spec.l1Byte -/
def s169 (i : Nat) : Tr := if i = 2 then .seq [0, 1, 2, 3, 4, 5, 6, 7, 8, 9, 10, 11, 12] .nil else if i = 3 then .seq [0, 1, 2, 3, 4, 5, 6, 7, 8, 9] .nil else if i = 4 then .seq [0, 1, 2, 3, 4, 5, 6, 7, 8, 9, 10, 11, 12, 13, 14] .nil else .nil
theorem s169_2 : s169 2 = .seq [0, 1, 2, 3, 4, 5, 6, 7, 8, 9, 10, 11, 12] .nil := rfl
theorem s169_3 : s169 3 = .seq [0, 1, 2, 3, 4, 5, 6, 7, 8, 9] .nil := rfl
theorem s169_4 : s169 4 = .seq [0, 1, 2, 3, 4, 5, 6, 7, 8, 9, 10, 11, 12, 13, 14] .nil := rfl
theorem s169_ok : okCode E 58 s169 (Try.f169.body.getD .skip) = true := by kernel_rfl
/-- the orders of spec.l5Any -/
def s170 (i : Nat) : Tr := if i = 6 then .seq [0, 2, 3, 4, 5] (.both (.seq [1, 6, 7, 8, 9, 10] .nil) (.seq [6, 1, 7, 8, 9, 10] .nil)) else if i = 9 then .seq [0, 4] (.both (.seq [1, 2] (.both (.seq [3, 5, 6, 7, 8] .nil) (.seq [5] (.both (.seq [3, 6, 7, 8] .nil) (.seq [6, 3, 7, 8] .nil))))) (.seq [5] (.both (.seq [1, 2] (.both (.seq [3, 6, 7, 8] .nil) (.seq [6, 3, 7, 8] .nil))) (.seq [6, 1, 2, 3, 7, 8] .nil)))) else .nil
theorem s170_6 : s170 6 = .seq [0, 2, 3, 4, 5] (.both (.seq [1, 6, 7, 8, 9, 10] .nil) (.seq [6, 1, 7, 8, 9, 10] .nil)) := rfl
theorem s170_9 : s170 9 = .seq [0, 4] (.both (.seq [1, 2] (.both (.seq [3, 5, 6, 7, 8] .nil) (.seq [5] (.both (.seq [3, 6, 7, 8] .nil) (.seq [6, 3, 7, 8] .nil))))) (.seq [5] (.both (.seq [1, 2] (.both (.seq [3, 6, 7, 8] .nil) (.seq [6, 3, 7, 8] .nil))) (.seq [6, 1, 2, 3, 7, 8] .nil)))) := rfl
theorem s170_ok : okCode E 51 s170 (Try.f170.body.getD .skip) = true := by kernel_rfl
/-- the orders of impl.IsValidName -/
def s171 (_ : Nat) : Tr := .nil
theorem s171_ok : okCode E 5 s171 (Try.f171.body.getD .skip) = true := by kernel_rfl
/-- the orders of impl.IsValidRelation -/
def s172 (_ : Nat) : Tr := .nil
theorem s172_ok : okCode E 8 s172 (Try.f172.body.getD .skip) = true := by kernel_rfl
/-- the orders of impl.formatList -/
def s173 (_ : Nat) : Tr := .nil
theorem s173_ok : okCode E 23 s173 (Try.f173.body.getD .skip) = true := by kernel_rfl
/-- the orders of impl.join -/
def s174 (_ : Nat) : Tr := .nil
theorem s174_ok : okCode E 25 s174 (Try.f174.body.getD .skip) = true := by kernel_rfl
/-- the orders of spec.l5RowText -/
def s175 (_ : Nat) : Tr := .nil
theorem s175_ok : okCode E 24 s175 (Try.f175.body.getD .skip) = true := by kernel_rfl
/-- the orders of spec.AreValidValues -/
def s176 (_ : Nat) : Tr := .nil
theorem s176_ok : okCode E 16 s176 (Try.f176.body.getD .skip) = true := by kernel_rfl
/-- the orders of impl.NewRelation -/
def s177 (_ : Nat) : Tr := .nil
theorem s177_ok : okCode E 35 s177 (Try.f177.body.getD .skip) = true := by kernel_rfl
/-- the orders of spec.l29Batch -/
def s178 (_ : Nat) : Tr := .nil
theorem s178_ok : okCode E 40 s178 (Try.f178.body.getD .skip) = true := by kernel_rfl
/-- the orders of spec.NewRelation -/
def s179 (_ : Nat) : Tr := .nil
theorem s179_ok : okCode E 40 s179 (Try.f179.body.getD .skip) = true := by kernel_rfl
/-- the orders of spec.CountedFromRelation -/
def s180 (_ : Nat) : Tr := .nil
theorem s180_ok : okCode E 31 s180 (Try.f180.body.getD .skip) = true := by kernel_rfl
/-- the orders of spec.l5Rel -/
def s181 (_ : Nat) : Tr := .nil
theorem s181_ok : okCode E 36 s181 (Try.f181.body.getD .skip) = true := by kernel_rfl
/-- the orders of impl.AreValidValues -/
def s182 (_ : Nat) : Tr := .nil
theorem s182_ok : okCode E 15 s182 (Try.f182.body.getD .skip) = true := by kernel_rfl
/-- the orders of impl.CompareRows -/
def s183 (i : Nat) : Tr := if i = 4 then .seq [0, 1, 2, 3, 4, 5, 6, 7, 8] .nil else if i = 5 then .seq [0, 1, 2, 3, 4, 5, 6, 7, 8, 9] .nil else .nil
theorem s183_4 : s183 4 = .seq [0, 1, 2, 3, 4, 5, 6, 7, 8] .nil := rfl
theorem s183_5 : s183 5 = .seq [0, 1, 2, 3, 4, 5, 6, 7, 8, 9] .nil := rfl
theorem s183_ok : okCode E 41 s183 (Try.f183.body.getD .skip) = true := by kernel_rfl
/-- the orders of spec.ParseInt -/
def s184 (_ : Nat) : Tr := .nil
theorem s184_ok : okCode E 61 s184 (Try.f184.body.getD .skip) = true := by kernel_rfl
/-- the orders of impl.ParseInt -/
def s185 (_ : Nat) : Tr := .nil
theorem s185_ok : okCode E 58 s185 (Try.f185.body.getD .skip) = true := by kernel_rfl
/-- the orders of impl.parseList -/
def s186 (_ : Nat) : Tr := .nil
theorem s186_ok : okCode E 34 s186 (Try.f186.body.getD .skip) = true := by kernel_rfl
/-- the orders of laws.eqRelation -/
def s187 (_ : Nat) : Tr := .nil
theorem s187_ok : okCode E 16 s187 (Try.f187.body.getD .skip) = true := by kernel_rfl
/-- the orders of laws.markIntS -/
def s188 (_ : Nat) : Tr := .nil
theorem s188_ok : okCode E 19 s188 (Try.f188.body.getD .skip) = true := by kernel_rfl
/-- the orders of laws.heldIntS -/
def s189 (_ : Nat) : Tr := .nil
theorem s189_ok : okCode E 21 s189 (Try.f189.body.getD .skip) = true := by kernel_rfl
/-- the orders of laws.szRelation -/
def s190 (_ : Nat) : Tr := .nil
theorem s190_ok : okCode E 12 s190 (Try.f190.body.getD .skip) = true := by kernel_rfl
/-- the orders of laws.toRelation -/
def s191 (_ : Nat) : Tr := .nil
theorem s191_ok : okCode E 12 s191 (Try.f191.body.getD .skip) = true := by kernel_rfl
/-- the orders of spec.InsertRow -/
def s192 (i : Nat) : Tr := if i = 7 then .seq [1, 4, 5, 6, 7, 0] (.app 2 [46] (.seq [3, 8, 9] .nil)) else .nil
theorem s192_7 : s192 7 = .seq [1, 4, 5, 6, 7, 0] (.app 2 [46] (.seq [3, 8, 9] .nil)) := rfl
theorem s192_ok : okCode E 61 s192 (Try.f192.body.getD .skip) = true := by kernel_rfl
/-- the orders of spec.l4Row -/
def s193 (_ : Nat) : Tr := .nil
theorem s193_ok : okCode E 20 s193 (Try.f193.body.getD .skip) = true := by kernel_rfl
/-- the orders of impl.isLetters -/
def s194 (_ : Nat) : Tr := .nil
theorem s194_ok : okCode E 31 s194 (Try.f194.body.getD .skip) = true := by kernel_rfl
/-- the orders of impl.sorted -/
def s195 (i : Nat) : Tr := if i = 4 then .seq [0, 1, 2, 4, 5, 6, 3, 7, 8, 9] .nil else if i = 11 then .seq [0, 1, 2, 3, 4, 5, 6, 7] .nil else .nil
theorem s195_4 : s195 4 = .seq [0, 1, 2, 4, 5, 6, 3, 7, 8, 9] .nil := rfl
theorem s195_11 : s195 11 = .seq [0, 1, 2, 3, 4, 5, 6, 7] .nil := rfl
theorem s195_ok : okCode E 68 s195 (Try.f195.body.getD .skip) = true := by kernel_rfl
/-- the orders of spec.l5Sort -/
def s196 (i : Nat) : Tr := if i = 13 then .seq [0, 1, 2, 3, 4, 5, 6, 7] .nil else .nil
theorem s196_13 : s196 13 = .seq [0, 1, 2, 3, 4, 5, 6, 7] .nil := rfl
theorem s196_ok : okCode E 80 s196 (Try.f196.body.getD .skip) = true := by kernel_rfl
/-- the orders of impl.compareInts -/
def s197 (_ : Nat) : Tr := .nil
theorem s197_ok : okCode E 13 s197 (Try.f197.body.getD .skip) = true := by kernel_rfl
/-- the orders of laws.eqIntSS -/
def s198 (i : Nat) : Tr := if i = 6 then .seq [0, 1, 2, 3, 4, 5, 6, 7, 8, 9] .nil else .nil
theorem s198_6 : s198 6 = .seq [0, 1, 2, 3, 4, 5, 6, 7, 8, 9] .nil := rfl
theorem s198_ok : okCode E 27 s198 (Try.f198.body.getD .skip) = true := by kernel_rfl
/-- the orders of laws.szIntSS -/
def s199 (_ : Nat) : Tr := .nil
theorem s199_ok : okCode E 27 s199 (Try.f199.body.getD .skip) = true := by kernel_rfl
/-- the orders of laws.toIntSS -/
def s200 (_ : Nat) : Tr := .nil
theorem s200_ok : okCode E 23 s200 (Try.f200.body.getD .skip) = true := by kernel_rfl
/-- the orders of laws.eqIntS -/
def s201 (i : Nat) : Tr := if i = 6 then .seq [0, 1, 2, 3, 4, 5, 6, 7, 8] .nil else .nil
theorem s201_6 : s201 6 = .seq [0, 1, 2, 3, 4, 5, 6, 7, 8] .nil := rfl
theorem s201_ok : okCode E 26 s201 (Try.f201.body.getD .skip) = true := by kernel_rfl
/-- the orders of laws.szIntS -/
def s202 (_ : Nat) : Tr := .nil
theorem s202_ok : okCode E 12 s202 (Try.f202.body.getD .skip) = true := by kernel_rfl
/-- the orders of laws.toIntS -/
def s203 (_ : Nat) : Tr := .nil
theorem s203_ok : okCode E 22 s203 (Try.f203.body.getD .skip) = true := by kernel_rfl
end Go.Proofs.Ytlmnjomekklnkaa

namespace Go.Proofs.Ytlmnjomekklnkaa
open Go.Vs Go.Proofs Go
set_option maxRecDepth 100000
set_option maxHeartbeats 1000000


theorem w_laws_markText (k : Int) (h0 : 1 ≤ k) (h1 : k ≤ 4611686018427387904) :
   VC Try.prog 158 [.d (.int .i64 k)] (fun _ r => r = .d (.str (mtext k))) := by
  refine VC.of E s158 (by kernel_rfl) Try.func158 (by rfl) (by kernel_rfl) (by simp [Try.f158]) (by simp [Try.f158]) s158_ok fun B => ?_
  simp [Try.f158, show ¬ k ≤ 0 by omega]
  refine loop_rule (X := Nat × Int × List UInt8) (fun x => x.1 ≤ 64 ∧ 0 ≤ x.2.1 ∧ x.2.1 < 2 ^ x.1 ∧ x.2.2.length + x.1 = 64 ∧ mdig x.1 x.2.1 x.2.2 = mdig 64 k []) (fun x => [(0, .d (.int .i64 x.2.1)), (3, .d (.str x.2.2))]) (fun _ => []) (fun x => x.1) (64, k, []) ?_ (by simp) (by simp) ?_
  · simp; omega
  · rintro ⟨n, q, o⟩ hs t m ⟨hi1, hi2, hi3, hi4, hi5⟩ hh
    simp only at hi1 hi2 hi3 hi4 hi5
    by_cases hq : 0 < q
    · obtain ⟨n, rfl⟩ : ∃ n', n = n' + 1 := by
        cases n with
        | zero => simp at hi3; omega
        | succ n => exact ⟨n, rfl⟩
      have e1 : q.tmod 10 = q % 10 := Int.tmod_eq_emod_of_nonneg hi2
      have e2 : q.tdiv 10 = q / 10 := Int.tdiv_eq_ediv_of_nonneg hi2
      have hp : (2 : Int) ^ (n + 1) = 2 * 2 ^ n := by rw [Int.pow_succ]; omega
      have hb : (2 : Int) ^ n ≤ 2 ^ 63 := by
        have : n ≤ 63 := by omega
        exact_mod_cast Nat.pow_le_pow_right (by decide : 0 < 2) this
      simp only [hp] at hi3
      have e3 : IntKind.i64.wrap (48 + q.tmod 10) = 48 + q.tmod 10 := by rw [e1]; exact wrap64_of (by omega) (by omega)
      have e4 : IntKind.i64.wrap (q.tdiv 10) = q.tdiv 10 := by rw [e2]; exact wrap64_of (by omega) (by simp at hb; omega)
      simp [hq, e3, e4, isB, toB]
      refine ⟨by omega, ?_⟩
      refine back (n, q.tdiv 10, UInt8.ofNat (IntKind.u8.wrap (48 + q.tmod 10)).toNat :: o) ⟨by simp; omega, by simp [e2]; omega, by simp [e2]; omega, by simp at hi4 ⊢; omega, ?_⟩ (by simp) rfl (by simp) (by simp) (by simp)
      rw [← hi5]
      simp only [mdig, if_pos hq]
    · have hz : q = 0 := by omega
      subst hz
      have : mdig n 0 o = o := by cases n <;> simp [mdig]
      rw [this] at hi5
      simp [mtext, ← hi5]
      omega

end Go.Proofs.Ytlmnjomekklnkaa

namespace Go.Proofs.Ytlmnjomekklnkaa
open Go.Vs Go.Proofs Go
set_option maxRecDepth 100000
set_option maxHeartbeats 1000000

theorem w_laws_szIntS (a : Sl (Int)) (left : Int) (h0 : 0 ≤ left) (h1 : left ≤ 1048576) (ha : okS okI a) :
   VC Try.prog 202 [.d (dSl cI a), .d (.int .i64 left)] (fun _ r => r = .d (.int .i64 (szv left (swS swI a)))) := by
  refine VC.of E s202 (by kernel_rfl) Try.func202 (by rfl) (by kernel_rfl) (by simp [Try.f202]) (by simp [Try.f202]) s202_ok fun B => ?_
  have ha1 := ha.1
  simp only [maxLen] at ha1
  have hw1 : IntKind.i64.wrap (left - (a.xs.length : Int)) = left - a.xs.length := wrap64_of (by omega) (by omega)
  have hwt : swS swI a = a.xs.length + sumW swI a.xs := rfl
  simp [Try.f202, dSl, hw1]
  have hz : sumW swI a.xs = 0 := by
    generalize a.xs = l
    induction l with
    | nil => rfl
    | cons b r ih => simp [swI, ih]
  refine ⟨fun h => ?_, fun h => ?_⟩
  · rw [szv_neg (by omega)]
  · rw [szv_pos (by omega)]; omega
theorem w_laws_eqIntS (a b : Sl (Int)) (ha : okS okI a) :
   VC Try.prog 201 [.d (dSl cI a), .d (dSl cI b)] (fun _ r => r = .d (.bool (plS plI a == plS plI b))) := by
  refine VC.of E s201 (by kernel_rfl) Try.func201 (by rfl) (by kernel_rfl) (by simp [Try.f201]) (by simp [Try.f201]) s201_ok fun B => ?_
  have ha1 := ha.1
  simp only [maxLen] at ha1
  simp [Try.f201, s201_6, dSl, plS]
  refine ⟨fun h e => h (by have := congrArg List.length e; simp at this; omega), fun hl => ?_⟩
  have hl' : a.xs.length = b.xs.length := by omega
  refine loop_rule (X := Nat) (fun i => i ≤ a.xs.length ∧ (a.xs.map plI).take i = (b.xs.map plI).take i) (fun i => [(0, .d (.sl a.id a.T (a.xs.map cI))), (1, .d (.sl b.id b.T (b.xs.map cI))), (5, .d (.int .i64 i))]) (fun _ => []) (fun i => a.xs.length - i) 0 (by simp) (by simp) (by simp) ?_
  intro i hs t m hi hh
  by_cases hlt : i < a.xs.length
  · have hwi := wr1 (i := i) (by omega)
    have hlb : i < b.xs.length := by omega
    have hst := eqm_step plI hlt hlb hi.2
    simp [cI, hlt, hlb, hwi, s201_6, ]
    simp only [plI] at hst
    refine ⟨fun hne he => hne (hst.2 (by rw [he])), fun heq => ?_⟩
    exact back (i + 1) ⟨by omega, hst.1 heq⟩ (by omega) rfl (by simp) (by simp) (by simp)
  · have := eq_all (a := a.xs.map plI) (b := b.xs.map plI) (by simpa using Nat.le_of_not_lt hlt) (by simpa using hl') hi.2
    have hlb : ¬ i < b.xs.length := by omega
    simp [hlt, hlb, this]
theorem w_laws_szIntSS (a : Sl (Sl (Int))) (left : Int) (h0 : 0 ≤ left) (h1 : left ≤ 1048576) (ha : okS (okS okI) a) :
   VC Try.prog 199 [.d (dSl (cS cI) a), .d (.int .i64 left)] (fun _ r => r = .d (.int .i64 (szv left (swS (swS swI) a)))) := by
  refine VC.of E s199 (by kernel_rfl) Try.func199 (by rfl) (by kernel_rfl) (by simp [Try.f199]) (by simp [Try.f199]) s199_ok fun B => ?_
  have ha1 := ha.1
  simp only [maxLen] at ha1
  have hw1 : IntKind.i64.wrap (left - (a.xs.length : Int)) = left - a.xs.length := wrap64_of (by omega) (by omega)
  have hwt : swS (swS swI) a = a.xs.length + sumW (swS swI) a.xs := rfl
  simp [Try.f199, dSl, hw1]
  refine ⟨fun h => ?_, fun h => ?_⟩
  · rw [szv_neg (by omega)]
  · refine loop_rule (X := Nat) (fun i => i ≤ a.xs.length ∧ 0 ≤ left - a.xs.length - sumW (swS swI) (a.xs.take i)) (fun i => [(0, .d (.sl a.id a.T (a.xs.map (cS cI)))), (1, .d (.int .i64 (left - a.xs.length - sumW (swS swI) (a.xs.take i)))), (5, .d (.int .i64 i))]) (fun _ => []) (fun i => a.xs.length - i) 0 ?_ ?_ (by simp) ?_
    · simp; omega
    · simp
    · intro i hs t m hi hh
      by_cases hlt : i < a.xs.length
      · simp [cS, hlt]
        refine call_pure (w_laws_szIntS a.xs[i] _ (by omega) (by omega) (ha.2 _ (List.getElem_mem _))) rfl (by simp) rfl fun hs' hh' => ?_
        have e1 := sumW_succ (swS swI) hlt
        have e2 := sumW_le (swS swI) a.xs (i + 1)
        have hwi := wr1 (i := i) (by omega)
        by_cases hc : (swS swI a.xs[i] : Int) ≤ left - a.xs.length - sumW (swS swI) (a.xs.take i)
        · rw [szv_pos hc]
          have hn : ¬ left - a.xs.length - sumW (swS swI) (a.xs.take i) - swS swI a.xs[i] < 0 := by omega
          simp [hwi, hn]
          refine back (i + 1) ⟨by omega, by omega⟩ (by omega) rfl (by simp at hh' ⊢; omega) ?_ (by simp)
          simp
          omega
        · rw [szv_neg (by omega)]
          simp
          rw [szv_neg (by omega)]
          all_goals exact fun h => absurd h (by decide)
      · have : i = a.xs.length := by omega
        subst this
        simp
        rw [szv_pos] <;> (simp at hi ⊢; omega)
theorem w_laws_eqIntSS (a b : Sl (Sl (Int))) (ha : okS (okS okI) a) :
   VC Try.prog 198 [.d (dSl (cS cI) a), .d (dSl (cS cI) b)] (fun _ r => r = .d (.bool (plS (plS plI) a == plS (plS plI) b))) := by
  refine VC.of E s198 (by kernel_rfl) Try.func198 (by rfl) (by kernel_rfl) (by simp [Try.f198]) (by simp [Try.f198]) s198_ok fun B => ?_
  have ha1 := ha.1
  simp only [maxLen] at ha1
  simp [Try.f198, s198_6, dSl, plS]
  refine ⟨fun h e => h (by have := congrArg List.length e; simp at this; omega), fun hl => ?_⟩
  have hl' : a.xs.length = b.xs.length := by omega
  refine loop_rule (X := Nat) (fun i => i ≤ a.xs.length ∧ (a.xs.map (plS plI)).take i = (b.xs.map (plS plI)).take i) (fun i => [(0, .d (.sl a.id a.T (a.xs.map (cS cI)))), (1, .d (.sl b.id b.T (b.xs.map (cS cI)))), (5, .d (.int .i64 i))]) (fun _ => []) (fun i => a.xs.length - i) 0 (by simp) (by simp) (by simp) ?_
  intro i hs t m hi hh
  by_cases hlt : i < a.xs.length
  · have hwi := wr1 (i := i) (by omega)
    have hlb : i < b.xs.length := by omega
    have hst := eqm_step (plS plI) hlt hlb hi.2
    simp [cS, hlt, hlb, s198_6, ]
    refine call_pure (w_laws_eqIntS a.xs[i] b.xs[i] (ha.2 _ (List.getElem_mem _))) rfl (by simp) rfl fun hs' hh' => ?_
    simp at hh'
    simp [hwi]
    refine ⟨fun hne he => hne (hst.2 (by rw [he])), fun heq => ?_⟩
    exact back (i + 1) ⟨by omega, hst.1 heq⟩ (by omega) rfl (by simp; omega) (by simp) (by simp)
  · have := eq_all (a := a.xs.map (plS plI)) (b := b.xs.map (plS plI)) (by simpa using Nat.le_of_not_lt hlt) (by simpa using hl') hi.2
    have hlb : ¬ i < b.xs.length := by omega
    simp [hlt, hlb, this]
theorem w_laws_szFile (a : File) (left : Int) (h0 : 0 ≤ left) (h1 : left ≤ 1048576) (ha : okFile a) :
   VC Try.prog 153 [.agg ((cFile a).map V.d), .d (.int .i64 left)] (fun _ r => r = .d (.int .i64 (szv left (swFile a)))) := by
  refine VC.of E s153 (by kernel_rfl) Try.func153 (by rfl) (by kernel_rfl) (by simp [Try.f153]) (by simp [Try.f153]) s153_ok fun B => ?_
  have hwt : swFile a = swStr a.name + swStr a.data := rfl
  have hc0 : (0 : Int) ≤ left := h0
  have hs0 : a.name.length ≤ 9223372036854775807 := ha.1
  have hw0 : IntKind.i64.wrap (left - (a.name.length : Int)) = left - a.name.length := wrap64_of (by omega) (by omega)
  have hq0 : swStr a.name = a.name.length := rfl
  simp [Try.f153, cFile, cStr, dSl, hw0]
  refine ⟨fun hneg => ?_, fun hpos => ?_⟩
  · rw [szv_neg (by omega)]
  · skip
    have hs1 : a.data.length ≤ 9223372036854775807 := ha.2
    have hw1 : IntKind.i64.wrap (left - a.name.length - (a.data.length : Int)) = left - a.name.length - a.data.length := wrap64_of (by omega) (by omega)
    have hq1 : swStr a.data = a.data.length := rfl
    rw [hw1]
    refine ⟨fun hneg => ?_, fun hpos => ?_⟩
    · rw [szv_neg (by omega)]
    · skip
      rw [szv_pos (by omega)]; omega
theorem w_laws_eqFile (a b : File) (ha : okFile a) :
   VC Try.prog 157 [.agg ((cFile a).map V.d), .agg ((cFile b).map V.d)] (fun _ r => r = .d (.bool (plFile a == plFile b))) := by
  refine VC.of E s157 (by kernel_rfl) Try.func157 (by rfl) (by kernel_rfl) (by simp [Try.f157]) (by simp [Try.f157]) s157_ok fun B => ?_
  simp [Try.f157, cFile, cStr, dSl, plFile, plI, plStr]
  by_cases e0 : a.name = b.name <;> by_cases e1 : a.data = b.data <;> simp [e0, e1]
theorem w_laws_szFileS (a : Sl (File)) (left : Int) (h0 : 0 ≤ left) (h1 : left ≤ 1048576) (ha : okS okFile a) :
   VC Try.prog 83 [.d (dSl cFile a), .d (.int .i64 left)] (fun _ r => r = .d (.int .i64 (szv left (swS swFile a)))) := by
  refine VC.of E s83 (by kernel_rfl) Try.func83 (by rfl) (by kernel_rfl) (by simp [Try.f83]) (by simp [Try.f83]) s83_ok fun B => ?_
  have ha1 := ha.1
  simp only [maxLen] at ha1
  have hw1 : IntKind.i64.wrap (left - (a.xs.length : Int)) = left - a.xs.length := wrap64_of (by omega) (by omega)
  have hwt : swS swFile a = a.xs.length + sumW swFile a.xs := rfl
  simp [Try.f83, dSl, hw1]
  refine ⟨fun h => ?_, fun h => ?_⟩
  · rw [szv_neg (by omega)]
  · refine loop_rule (X := Nat) (fun i => i ≤ a.xs.length ∧ 0 ≤ left - a.xs.length - sumW swFile (a.xs.take i)) (fun i => [(0, .d (.sl a.id a.T (a.xs.map cFile))), (1, .d (.int .i64 (left - a.xs.length - sumW swFile (a.xs.take i)))), (5, .d (.int .i64 i))]) (fun _ => []) (fun i => a.xs.length - i) 0 ?_ ?_ (by simp) ?_
    · simp; omega
    · simp
    · intro i hs t m hi hh
      by_cases hlt : i < a.xs.length
      · simp [cFile, cStr, hlt]
        refine call_pure (w_laws_szFile a.xs[i] _ (by omega) (by omega) (ha.2 _ (List.getElem_mem _))) rfl (by simp) rfl fun hs' hh' => ?_
        have e1 := sumW_succ swFile hlt
        have e2 := sumW_le swFile a.xs (i + 1)
        have hwi := wr1 (i := i) (by omega)
        by_cases hc : (swFile a.xs[i] : Int) ≤ left - a.xs.length - sumW swFile (a.xs.take i)
        · rw [szv_pos hc]
          have hn : ¬ left - a.xs.length - sumW swFile (a.xs.take i) - swFile a.xs[i] < 0 := by omega
          simp [hwi, hn]
          refine back (i + 1) ⟨by omega, by omega⟩ (by omega) rfl (by simp at hh' ⊢; omega) ?_ (by simp)
          simp
          omega
        · rw [szv_neg (by omega)]
          simp
          rw [szv_neg (by omega)]
          all_goals exact fun h => absurd h (by decide)
      · have : i = a.xs.length := by omega
        subst this
        simp
        rw [szv_pos] <;> (simp at hi ⊢; omega)
theorem w_laws_eqFileS (a b : Sl (File)) (ha : okS okFile a) :
   VC Try.prog 87 [.d (dSl cFile a), .d (dSl cFile b)] (fun _ r => r = .d (.bool (plS plFile a == plS plFile b))) := by
  refine VC.of E s87 (by kernel_rfl) Try.func87 (by rfl) (by kernel_rfl) (by simp [Try.f87]) (by simp [Try.f87]) s87_ok fun B => ?_
  have ha1 := ha.1
  simp only [maxLen] at ha1
  simp [Try.f87, s87_6, dSl, plS]
  refine ⟨fun h e => h (by have := congrArg List.length e; simp at this; omega), fun hl => ?_⟩
  have hl' : a.xs.length = b.xs.length := by omega
  refine loop_rule (X := Nat) (fun i => i ≤ a.xs.length ∧ (a.xs.map plFile).take i = (b.xs.map plFile).take i) (fun i => [(0, .d (.sl a.id a.T (a.xs.map cFile))), (1, .d (.sl b.id b.T (b.xs.map cFile))), (5, .d (.int .i64 i))]) (fun _ => []) (fun i => a.xs.length - i) 0 (by simp) (by simp) (by simp) ?_
  intro i hs t m hi hh
  by_cases hlt : i < a.xs.length
  · have hwi := wr1 (i := i) (by omega)
    have hlb : i < b.xs.length := by omega
    have hst := eqm_step plFile hlt hlb hi.2
    simp [cFile, cStr, hlt, hlb, s87_6, ]
    refine call_pure (w_laws_eqFile a.xs[i] b.xs[i] (ha.2 _ (List.getElem_mem _))) rfl (by simp) rfl fun hs' hh' => ?_
    simp at hh'
    simp [hwi]
    refine ⟨fun hne he => hne (hst.2 (by rw [he])), fun heq => ?_⟩
    exact back (i + 1) ⟨by omega, hst.1 heq⟩ (by omega) rfl (by simp; omega) (by simp) (by simp)
  · have := eq_all (a := a.xs.map plFile) (b := b.xs.map plFile) (by simpa using Nat.le_of_not_lt hlt) (by simpa using hl') hi.2
    have hlb : ¬ i < b.xs.length := by omega
    simp [hlt, hlb, this]
theorem w_laws_szDisk (a : Disk) (left : Int) (h0 : 0 ≤ left) (h1 : left ≤ 1048576) (ha : okDisk a) :
   VC Try.prog 15 [.agg ((cDisk a).map V.d), .d (.int .i64 left)] (fun _ r => r = .d (.int .i64 (szv left (swDisk a)))) := by
  refine VC.of E s15 (by kernel_rfl) Try.func15 (by rfl) (by kernel_rfl) (by simp [Try.f15]) (by simp [Try.f15]) s15_ok fun B => ?_
  have hwt : swDisk a = swS swFile a.files := rfl
  have hc0 : (0 : Int) ≤ left := h0
  simp [Try.f15, cDisk, cS, dSl]
  refine call_pure (w_laws_szFileS a.files _ (by omega) (by omega) ha) rfl (by simp) rfl fun hs' hh' => ?_
  by_cases hb0 : (swS swFile a.files : Int) ≤ left
  · rw [szv_pos hb0]
    have hn0 : ¬ left - swS swFile a.files < 0 := by omega
    simp [hn0]
    rw [szv_pos (by omega)]; omega
  · rw [szv_neg (by omega)]
    simp
    try rw [szv_neg (by omega)]
    all_goals exact fun h => absurd h (by decide)
theorem w_laws_eqDisk (a b : Disk) (ha : okDisk a) :
   VC Try.prog 19 [.agg ((cDisk a).map V.d), .agg ((cDisk b).map V.d)] (fun _ r => r = .d (.bool (plDisk a == plDisk b))) := by
  refine VC.of E s19 (by kernel_rfl) Try.func19 (by rfl) (by kernel_rfl) (by simp [Try.f19]) (by simp [Try.f19]) s19_ok fun B => ?_
  simp [Try.f19, cDisk, cS, dSl, plDisk, plI, plStr]
  refine call_pure (w_laws_eqFileS a.files b.files ha) rfl (by simp) rfl fun hs0 hh0 => ?_
  by_cases e0 : plS plFile a.files = plS plFile b.files
  case neg => simp [e0]
  simp [e0]
theorem w_laws_szRelation (a : Reln) (left : Int) (h0 : 0 ≤ left) (h1 : left ≤ 1048576) (ha : okReln a) :
   VC Try.prog 190 [.agg ((cReln a).map V.d), .d (.int .i64 left)] (fun _ r => r = .d (.int .i64 (szv left (swReln a)))) := by
  refine VC.of E s190 (by kernel_rfl) Try.func190 (by rfl) (by kernel_rfl) (by simp [Try.f190]) (by simp [Try.f190]) s190_ok fun B => ?_
  have hwt : swReln a = swS (swS swI) a.rows := rfl
  have hc0 : (0 : Int) ≤ left := h0
  simp [Try.f190, cI, cReln, cS, dSl]
  refine call_pure (w_laws_szIntSS a.rows _ (by omega) (by omega) ha.2) rfl (by simp) rfl fun hs' hh' => ?_
  by_cases hb0 : (swS (swS swI) a.rows : Int) ≤ left
  · rw [szv_pos hb0]
    have hn0 : ¬ left - swS (swS swI) a.rows < 0 := by omega
    simp [hn0]
    rw [szv_pos (by omega)]; omega
  · rw [szv_neg (by omega)]
    simp
    try rw [szv_neg (by omega)]
    all_goals exact fun h => absurd h (by decide)
theorem w_laws_eqRelation (a b : Reln) (ha : okReln a) :
   VC Try.prog 187 [.agg ((cReln a).map V.d), .agg ((cReln b).map V.d)] (fun _ r => r = .d (.bool (plReln a == plReln b))) := by
  refine VC.of E s187 (by kernel_rfl) Try.func187 (by rfl) (by kernel_rfl) (by simp [Try.f187]) (by simp [Try.f187]) s187_ok fun B => ?_
  simp [Try.f187, cI, cReln, cS, dSl, plReln, plI, plStr]
  by_cases e0 : a.ar = b.ar
  case neg => simp [e0]
  simp [e0]
  refine call_pure (w_laws_eqIntSS a.rows b.rows ha.2) rfl (by simp) rfl fun hs1 hh1 => ?_
  by_cases e1 : plS (plS plI) a.rows = plS (plS plI) b.rows
  case neg => simp [e1]
  simp [e1]
theorem w_laws_szTable (a : Tab) (left : Int) (h0 : 0 ≤ left) (h1 : left ≤ 1048576) (ha : okTab a) :
   VC Try.prog 164 [.agg ((cTab a).map V.d), .d (.int .i64 left)] (fun _ r => r = .d (.int .i64 (szv left (swTab a)))) := by
  refine VC.of E s164 (by kernel_rfl) Try.func164 (by rfl) (by kernel_rfl) (by simp [Try.f164]) (by simp [Try.f164]) s164_ok fun B => ?_
  have hwt : swTab a = swStr a.name + swReln a.rel := rfl
  have hc0 : (0 : Int) ≤ left := h0
  have hs0 : a.name.length ≤ 9223372036854775807 := ha.1
  have hw0 : IntKind.i64.wrap (left - (a.name.length : Int)) = left - a.name.length := wrap64_of (by omega) (by omega)
  have hq0 : swStr a.name = a.name.length := rfl
  simp [Try.f164, cI, cReln, cS, cStr, cTab, dSl, hw0]
  refine ⟨fun hneg => ?_, fun hpos => ?_⟩
  · rw [szv_neg (by omega)]
  · skip
    refine call_pure (w_laws_szRelation a.rel _ (by omega) (by omega) ha.2) rfl (by simp) rfl fun hs' hh' => ?_
    by_cases hb1 : (swReln a.rel : Int) ≤ left - a.name.length
    · rw [szv_pos hb1]
      have hn1 : ¬ left - a.name.length - swReln a.rel < 0 := by omega
      simp [hn1]
      rw [szv_pos (by omega)]; omega
    · rw [szv_neg (by omega)]
      simp
      try rw [szv_neg (by omega)]
      all_goals exact fun h => absurd h (by decide)
theorem w_laws_eqTable (a b : Tab) (ha : okTab a) :
   VC Try.prog 161 [.agg ((cTab a).map V.d), .agg ((cTab b).map V.d)] (fun _ r => r = .d (.bool (plTab a == plTab b))) := by
  refine VC.of E s161 (by kernel_rfl) Try.func161 (by rfl) (by kernel_rfl) (by simp [Try.f161]) (by simp [Try.f161]) s161_ok fun B => ?_
  simp [Try.f161, cI, cReln, cS, cStr, cTab, dSl, plTab, plI, plStr]
  by_cases e0 : a.name = b.name
  case neg => simp [e0]
  simp [e0]
  refine call_pure (w_laws_eqRelation a.rel b.rel ha.2) rfl (by simp) rfl fun hs1 hh1 => ?_
  by_cases e1 : plReln a.rel = plReln b.rel
  case neg => simp [e1]
  simp [e1]
theorem w_laws_szTableS (a : Sl (Tab)) (left : Int) (h0 : 0 ≤ left) (h1 : left ≤ 1048576) (ha : okS okTab a) :
   VC Try.prog 94 [.d (dSl cTab a), .d (.int .i64 left)] (fun _ r => r = .d (.int .i64 (szv left (swS swTab a)))) := by
  refine VC.of E s94 (by kernel_rfl) Try.func94 (by rfl) (by kernel_rfl) (by simp [Try.f94]) (by simp [Try.f94]) s94_ok fun B => ?_
  have ha1 := ha.1
  simp only [maxLen] at ha1
  have hw1 : IntKind.i64.wrap (left - (a.xs.length : Int)) = left - a.xs.length := wrap64_of (by omega) (by omega)
  have hwt : swS swTab a = a.xs.length + sumW swTab a.xs := rfl
  simp [Try.f94, dSl, hw1]
  refine ⟨fun h => ?_, fun h => ?_⟩
  · rw [szv_neg (by omega)]
  · refine loop_rule (X := Nat) (fun i => i ≤ a.xs.length ∧ 0 ≤ left - a.xs.length - sumW swTab (a.xs.take i)) (fun i => [(0, .d (.sl a.id a.T (a.xs.map cTab))), (1, .d (.int .i64 (left - a.xs.length - sumW swTab (a.xs.take i)))), (5, .d (.int .i64 i))]) (fun _ => []) (fun i => a.xs.length - i) 0 ?_ ?_ (by simp) ?_
    · simp; omega
    · simp
    · intro i hs t m hi hh
      by_cases hlt : i < a.xs.length
      · simp [cI, cReln, cS, cStr, cTab, hlt]
        refine call_pure (w_laws_szTable a.xs[i] _ (by omega) (by omega) (ha.2 _ (List.getElem_mem _))) rfl (by simp) rfl fun hs' hh' => ?_
        have e1 := sumW_succ swTab hlt
        have e2 := sumW_le swTab a.xs (i + 1)
        have hwi := wr1 (i := i) (by omega)
        by_cases hc : (swTab a.xs[i] : Int) ≤ left - a.xs.length - sumW swTab (a.xs.take i)
        · rw [szv_pos hc]
          have hn : ¬ left - a.xs.length - sumW swTab (a.xs.take i) - swTab a.xs[i] < 0 := by omega
          simp [hwi, hn]
          refine back (i + 1) ⟨by omega, by omega⟩ (by omega) rfl (by simp at hh' ⊢; omega) ?_ (by simp)
          simp
          omega
        · rw [szv_neg (by omega)]
          simp
          rw [szv_neg (by omega)]
          all_goals exact fun h => absurd h (by decide)
      · have : i = a.xs.length := by omega
        subst this
        simp
        rw [szv_pos] <;> (simp at hi ⊢; omega)
theorem w_laws_eqTableS (a b : Sl (Tab)) (ha : okS okTab a) :
   VC Try.prog 91 [.d (dSl cTab a), .d (dSl cTab b)] (fun _ r => r = .d (.bool (plS plTab a == plS plTab b))) := by
  refine VC.of E s91 (by kernel_rfl) Try.func91 (by rfl) (by kernel_rfl) (by simp [Try.f91]) (by simp [Try.f91]) s91_ok fun B => ?_
  have ha1 := ha.1
  simp only [maxLen] at ha1
  simp [Try.f91, s91_6, dSl, plS]
  refine ⟨fun h e => h (by have := congrArg List.length e; simp at this; omega), fun hl => ?_⟩
  have hl' : a.xs.length = b.xs.length := by omega
  refine loop_rule (X := Nat) (fun i => i ≤ a.xs.length ∧ (a.xs.map plTab).take i = (b.xs.map plTab).take i) (fun i => [(0, .d (.sl a.id a.T (a.xs.map cTab))), (1, .d (.sl b.id b.T (b.xs.map cTab))), (5, .d (.int .i64 i))]) (fun _ => []) (fun i => a.xs.length - i) 0 (by simp) (by simp) (by simp) ?_
  intro i hs t m hi hh
  by_cases hlt : i < a.xs.length
  · have hwi := wr1 (i := i) (by omega)
    have hlb : i < b.xs.length := by omega
    have hst := eqm_step plTab hlt hlb hi.2
    simp [cI, cReln, cS, cStr, cTab, hlt, hlb, s91_6, ]
    refine call_pure (w_laws_eqTable a.xs[i] b.xs[i] (ha.2 _ (List.getElem_mem _))) rfl (by simp) rfl fun hs' hh' => ?_
    simp at hh'
    simp [hwi]
    refine ⟨fun hne he => hne (hst.2 (by rw [he])), fun heq => ?_⟩
    exact back (i + 1) ⟨by omega, hst.1 heq⟩ (by omega) rfl (by simp; omega) (by simp) (by simp)
  · have := eq_all (a := a.xs.map plTab) (b := b.xs.map plTab) (by simpa using Nat.le_of_not_lt hlt) (by simpa using hl') hi.2
    have hlb : ¬ i < b.xs.length := by omega
    simp [hlt, hlb, this]
theorem w_laws_szDatabase (a : Db) (left : Int) (h0 : 0 ≤ left) (h1 : left ≤ 1048576) (ha : okDb a) :
   VC Try.prog 29 [.agg ((cDb a).map V.d), .d (.int .i64 left)] (fun _ r => r = .d (.int .i64 (szv left (swDb a)))) := by
  refine VC.of E s29 (by kernel_rfl) Try.func29 (by rfl) (by kernel_rfl) (by simp [Try.f29]) (by simp [Try.f29]) s29_ok fun B => ?_
  have hwt : swDb a = swS swTab a.tabs := rfl
  have hc0 : (0 : Int) ≤ left := h0
  simp [Try.f29, cDb, cS, dSl]
  refine call_pure (w_laws_szTableS a.tabs _ (by omega) (by omega) ha) rfl (by simp) rfl fun hs' hh' => ?_
  by_cases hb0 : (swS swTab a.tabs : Int) ≤ left
  · rw [szv_pos hb0]
    have hn0 : ¬ left - swS swTab a.tabs < 0 := by omega
    simp [hn0]
    rw [szv_pos (by omega)]; omega
  · rw [szv_neg (by omega)]
    simp
    try rw [szv_neg (by omega)]
    all_goals exact fun h => absurd h (by decide)
theorem w_laws_eqDatabase (a b : Db) (ha : okDb a) :
   VC Try.prog 26 [.agg ((cDb a).map V.d), .agg ((cDb b).map V.d)] (fun _ r => r = .d (.bool (plDb a == plDb b))) := by
  refine VC.of E s26 (by kernel_rfl) Try.func26 (by rfl) (by kernel_rfl) (by simp [Try.f26]) (by simp [Try.f26]) s26_ok fun B => ?_
  simp [Try.f26, cDb, cS, dSl, plDb, plI, plStr]
  refine call_pure (w_laws_eqTableS a.tabs b.tabs ha) rfl (by simp) rfl fun hs0 hh0 => ?_
  by_cases e0 : plS plTab a.tabs = plS plTab b.tabs
  case neg => simp [e0]
  simp [e0]

end Go.Proofs.Ytlmnjomekklnkaa

namespace Go.Proofs.Ytlmnjomekklnkaa
open Go.Vs Go.Proofs Go
set_option maxRecDepth 100000
set_option maxHeartbeats 1000000

theorem w_laws_toIntS (a : Sl (Int)) (ha : okS okI a) (hb : a.xs.length ≤ 1048576) :
   VC Try.prog 203 [.d (dSl cI a)] (fun n r => ∃ y : Sl (Int), r = .d (dSl cI y) ∧ plS plI y = plS plI a ∧ okS okI y ∧ Good (cS cI y) (whS whI y) n) := by
  refine VC.of E s203 (by kernel_rfl) Try.func203 (by rfl) (by kernel_rfl) (by simp [Try.f203]) (by simp [Try.f203]) s203_ok fun B => ?_
  simp [Try.f203, dSl]
  refine ⟨⟨by omega, by simp only [maxLen]; omega⟩, ?_⟩
  refine loop_rule (X := Nat) (fun i => i ≤ a.xs.length) (fun i => [(0, .d (.sl a.id a.T (a.xs.map cI))), (3, .own 7 0 a.xs.length), (4, .d (.int .i64 i))]) (fun i => [(7, some (.row 3 1 (fill [.int .i64 0] (a.xs.map cI) i)))]) (fun i => a.xs.length - i) 0 (by simp) (by simp) (by simp) ?_
  intro i hs t m hi hh
  by_cases hlt : i < a.xs.length
  · have hwi := wr1 (i := i) (by omega)
    simp [cI, hlt, hwi]
    refine back (i + 1) (by omega) (by omega) rfl (by simp) (by simp) ?_
    have := fill_set (z := [.int .i64 0]) (l := a.xs.map cI) (i := i) (by simpa using hlt) (by simp [hlt]; rfl)
    simp only [cI] at this ⊢
    simp [this]
  · have hn : i = a.xs.length := by omega
    subst hn
    have hf : fill [.int .i64 0] (a.xs.map cI) a.xs.length = a.xs.map cI := fill_all (by simp)
    simp [hf]
    intro γ hs' h1 hg
    obtain ⟨q1, q2⟩ := gam_at hg (k := 7) (T := 3) (sz := 1) (es := a.xs.map cI) (by simp)
    have q3 := gam_row hg (k := 7) (T := 3) (sz := 1) (es := a.xs.map cI) (by simp)
    clear hg
    refine ⟨⟨γ 7, some (3, 1), a.xs⟩, ⟨⟨rfl, rfl, List.take_of_length_le (by simp)⟩, rfl, ha, good_row (fun g hg => (q1 g hg).1) (by simpa using q2) q3 ⟨by simp, by simp⟩ (by simp [whI, whStr])⟩⟩
theorem w_laws_heldIntS (a : Sl (Int)) (k : Int) (h0 : 1 ≤ k) (h1 : k + wtS wtI a ≤ 4611686018427387904) (ha : okS okI a) :
   VC Try.prog 189 [.d (dSl cI a), .d (.int .i64 k)] (fun _ r => r = .d (.int .i64 (hv (hlS (hlI) (wtI) a k) k (wtS wtI a)))) := by
  refine VC.of E s189 (by kernel_rfl) Try.func189 (by rfl) (by kernel_rfl) (by simp [Try.f189]) (by simp [Try.f189]) s189_ok fun B => ?_
  obtain ⟨id, T, xs⟩ := a
  have ha1 := ha.1
  simp only [maxLen] at ha1
  have hwt : wtS wtI (⟨id, T, xs⟩ : Sl (Int)) = sumW wtI xs := rfl
  have hhl : hlS (hlI) (wtI) (⟨id, T, xs⟩ : Sl (Int)) k = hlList hlI wtI xs k := rfl
  rw [hwt] at h1
  rw [hwt, hhl]
  simp [Try.f189, dSl]
  refine loop_rule (X := Nat) (fun i => i ≤ xs.length ∧ hlList hlI wtI (xs.take i) k = true) (fun i => [(0, .d (.sl id T (xs.map cI))), (1, .d (.int .i64 (k + sumW wtI (xs.take i)))), (5, .d (.int .i64 i))]) (fun _ => []) (fun i => xs.length - i) 0 (by simp [hlList]) (by simp) (by simp) ?_
  intro i hs t m hi hh
  by_cases hlt : i < xs.length
  · have hwi := wr1 (i := i) (by omega)
    have e1 := sumW_succ wtI hlt
    have e2 := sumW_le wtI xs (i + 1)
    have hmem : xs[i] ∈ xs := List.getElem_mem _
    have hstep := hlList_step (hl := hlI) (wt := wtI) (k := k) hlt
    rw [hi.2, Bool.true_and] at hstep
    have hbad := hlList_bad (hl := hlI) (wt := wtI) (k := k) hlt
    have hex : hlI xs[i] (k + sumW wtI (xs.take i)) = (xs[i] == k + sumW wtI (xs.take i)) := rfl
    have hwx : wtI xs[i] = 1 := by first | rfl | (simp only [wtTab, wtDelta, wtReln, wtStr, wtI]; omega)
    have hk0 : IntKind.i64.wrap (k + sumW wtI (xs.take i) + 1) = k + sumW wtI (xs.take i) + 1 := wrap64_of (by omega) (by omega)
    simp [cI, hlt, dSl, ]
    by_cases c0 : xs[i] = k + sumW wtI (xs.take i)
    case neg => simp [c0, hbad (by simp [hex, c0])]
    simp [c0, hk0, ]
    simp [hwi]
    refine back (i + 1) ⟨by omega, hstep.trans (hex.trans (by simp [c0]))⟩ (by omega) rfl (by simp <;> omega) ?_ (by simp)
    simp
    omega
  · have hn : i = xs.length := by omega
    subst hn
    have h2 := hi.2
    rw [List.take_length] at h2
    simp [h2]
theorem w_laws_toIntSS (a : Sl (Sl (Int))) (ha : okS (okS okI) a) (hb : swS (swS swI) a ≤ 1048576) :
   VC Try.prog 200 [.d (dSl (cS cI) a)] (fun n r => ∃ y : Sl (Sl (Int)), r = .d (dSl (cS cI) y) ∧ plS (plS plI) y = plS (plS plI) a ∧ okS (okS okI) y ∧ Good (cS (cS cI) y) (whS (whS whI) y) n) := by
  refine VC.of E s200 (by kernel_rfl) Try.func200 (by rfl) (by kernel_rfl) (by simp [Try.f200]) (by simp [Try.f200]) s200_ok fun B => ?_
  have hwt : swS (swS swI) a = a.xs.length + sumW (swS swI) a.xs := rfl
  simp [Try.f200, dSl]
  refine ⟨⟨by omega, by simp only [maxLen]; omega⟩, ?_⟩
  refine loop_rule2 (X := Nat × List (Sl (Int))) (fun p h => p.1 ≤ a.xs.length ∧ p.2.length = p.1 ∧ p.2.map (plS plI) = (a.xs.map (plS plI)).take p.1 ∧ (∀ y ∈ p.2, okS okI y) ∧ GoodL (cS cI) (whS whI) B h p.2) (fun p => [(0, .d (.sl a.id a.T (a.xs.map (cS cI)))), (3, .own 7 0 a.xs.length), (4, .d (.int .i64 p.1))]) (fun p => [(7, some (.row 95 1 (p.2.map (cS cI) ++ List.replicate (a.xs.length - p.1) [.sl none none []])))]) (fun p => a.xs.length - p.1) (0, []) ⟨by simp, rfl, by simp, by simp, GoodL.nil⟩ (by simp) (by simp) ?_
  rintro ⟨i, ys⟩ hs t m ⟨hi, hyl, hpl, hok, hgd⟩ hh
  simp only at hi hyl hpl hok hgd
  by_cases hlt : i < a.xs.length
  · have hwi := wr1 (i := i) (by omega)
    have hmem : a.xs[i] ∈ a.xs := List.getElem_mem _
    have hsw := sumW_mem (swS swI) hmem
    simp [cS, hlt]
    refine call_some (w_laws_toIntS a.xs[i] (ha.2 _ hmem) (by simp only [swS] at hsw; omega)) rfl (by simp) fun n hs' r hn hn' hp hr => ?_
    obtain ⟨y, rfl, hy1, hy2, hy3⟩ := hp
    simp at hn
    have hr' : ∀ g ∈ idsL (cS cI y), g < hs' := fun g hg => hr g (by first | (simp [cS, V.ids, idsVL, idsL] at hg; done) | simpa [cS, V.ids, idsVL, idsL] using hg)
    have hyi : ys.length = i := hyl
    simp [cS, hlt, hwi, hyi, show i + (a.xs.length - i) = a.xs.length by omega, dSl]
    refine back2 (i + 1, ys ++ [y]) ⟨by omega, by simp [hyi], ?_, ?_, ?_⟩ (by simp <;> omega) rfl (by simp <;> omega) (by simp) ?_
    · simp only [List.map_append, hpl, List.map_cons, List.map_nil, hy1]
      rw [List.take_succ_eq_append_getElem (by simpa using hlt)]; simp
    · intro y' hy'
      rcases List.mem_append.1 hy' with h | h
      · exact hok y' h
      · rw [List.mem_singleton.1 h]; exact hy2
    · exact GoodL.snoc hgd (by omega) hn' hy3 hr'
    · simp [rep_set0 hlt, cS, dSl]
  · have hn : i = a.xs.length := by omega
    subst hn
    simp
    intro γ hs' h1 hg
    obtain ⟨q1, q2⟩ := gam_at hg (k := 7) (T := 95) (sz := 1) (es := ys.map (cS cI)) (by simp [upd])
    have q3 := gam_row hg (k := 7) (T := 95) (sz := 1) (es := ys.map (cS cI)) (by simp [upd])
    clear hg
    refine ⟨_, ⟨by omega, rfl⟩, ⟨γ 7, some (95, 1), ys⟩, ?_, by rw [List.take_of_length_le (by simp)] at hpl; exact hpl, ⟨by simp only [maxLen]; show ys.length ≤ _; omega, hok⟩, good_row (fun g hg => (q1 g hg).1) (by simpa using q2) q3 ⟨hgd.nd, hgd.lo⟩ hgd.wh⟩
    rw [if_pos hyl.symm, List.take_of_length_le (by simp [hyl])]
theorem w_laws_heldIntSS (a : Sl (Sl (Int))) (k : Int) (h0 : 1 ≤ k) (h1 : k + wtS (wtS wtI) a ≤ 4611686018427387904) (ha : okS (okS okI) a) :
   VC Try.prog 163 [.d (dSl (cS cI) a), .d (.int .i64 k)] (fun _ r => r = .d (.int .i64 (hv (hlS (hlS (hlI) (wtI)) (wtS wtI) a k) k (wtS (wtS wtI) a)))) := by
  refine VC.of E s163 (by kernel_rfl) Try.func163 (by rfl) (by kernel_rfl) (by simp [Try.f163]) (by simp [Try.f163]) s163_ok fun B => ?_
  obtain ⟨id, T, xs⟩ := a
  have ha1 := ha.1
  simp only [maxLen] at ha1
  have hwt : wtS (wtS wtI) (⟨id, T, xs⟩ : Sl (Sl (Int))) = sumW (wtS wtI) xs := rfl
  have hhl : hlS (hlS (hlI) (wtI)) (wtS wtI) (⟨id, T, xs⟩ : Sl (Sl (Int))) k = hlList (hlS (hlI) (wtI)) (wtS wtI) xs k := rfl
  rw [hwt] at h1
  rw [hwt, hhl]
  simp [Try.f163, dSl]
  refine loop_rule (X := Nat) (fun i => i ≤ xs.length ∧ hlList (hlS (hlI) (wtI)) (wtS wtI) (xs.take i) k = true) (fun i => [(0, .d (.sl id T (xs.map (cS cI)))), (1, .d (.int .i64 (k + sumW (wtS wtI) (xs.take i)))), (5, .d (.int .i64 i))]) (fun _ => []) (fun i => xs.length - i) 0 (by simp [hlList]) (by simp) (by simp) ?_
  intro i hs t m hi hh
  by_cases hlt : i < xs.length
  · have hwi := wr1 (i := i) (by omega)
    have e1 := sumW_succ (wtS wtI) hlt
    have e2 := sumW_le (wtS wtI) xs (i + 1)
    have hmem : xs[i] ∈ xs := List.getElem_mem _
    have hstep := hlList_step (hl := (hlS (hlI) (wtI))) (wt := (wtS wtI)) (k := k) hlt
    rw [hi.2, Bool.true_and] at hstep
    have hbad := hlList_bad (hl := (hlS (hlI) (wtI))) (wt := (wtS wtI)) (k := k) hlt
    have hex : hlS (hlI) (wtI) xs[i] (k + sumW (wtS wtI) (xs.take i)) = (hlS (hlI) (wtI) xs[i] (k + sumW (wtS wtI) (xs.take i))) := rfl
    have hwx : wtS wtI xs[i] = wtS wtI xs[i] := by first | rfl | (simp only [wtTab, wtDelta, wtReln, wtStr, wtI]; omega)
    simp [cS, hlt, dSl, ]
    refine call_pure (w_laws_heldIntS xs[i] _ (by omega) (by omega) ((ha.2 _ hmem))) rfl (by simp) rfl fun hs0 hh0 => ?_
    simp at hh0
    by_cases c0 : hlS (hlI) (wtI) xs[i] (k + sumW (wtS wtI) (xs.take i)) = true
    case neg =>
      have c0' : hlS (hlI) (wtI) xs[i] (k + sumW (wtS wtI) (xs.take i)) = false := by simpa using c0
      simp [c0', hbad (by simp [hex, c0'])]
    have hn0 : ¬ k + sumW (wtS wtI) (xs.take i) + (wtS wtI xs[i] : Int) < 0 := by omega
    simp [c0, hn0, hlt, cS, dSl, ]
    simp [hwi]
    refine back (i + 1) ⟨by omega, hstep.trans (hex.trans (by simp [c0]))⟩ (by omega) rfl (by simp <;> omega) ?_ (by simp)
    simp
    omega
  · have hn : i = xs.length := by omega
    subst hn
    have h2 := hi.2
    rw [List.take_length] at h2
    simp [h2]
theorem w_laws_toFile (a : File) (ha : okFile a) (hb : swFile a ≤ 1048576) :
   VC Try.prog 156 [.agg ((cFile a).map V.d)] (fun n r => ∃ y : File, r = .agg ((cFile y).map V.d) ∧ plFile y = plFile a ∧ okFile y ∧ Good (cFile y) (whFile y) n) := by
  refine VC.of E s156 (by kernel_rfl) Try.func156 (by rfl) (by kernel_rfl) (by simp [Try.f156]) (by simp [Try.f156]) s156_ok fun B => ?_
  have hwt : swFile a = swStr a.name + swStr a.data := rfl
  simp [Try.f156, cFile, cStr, dSl]
  refine ⟨⟨a.name, a.data⟩, ?_⟩
  refine ⟨by simp [cFile, cStr, dSl], by simp only [plFile], ⟨ha.1, ha.2⟩, ?_⟩
  have G0 : Good (cStr a.name) (whStr a.name) B := good_Str B a.name
  have G1 : Good (cStr a.data) (whStr a.data) B := good_Str B a.data
  have U0 : ∀ g ∈ idsL (cStr a.name), g < B := by simp [cStr, idsL, D.ids]
  have K1 : Good (cStr a.name ++ cStr a.data) ((whStr a.name) ∧ whStr a.data) B := Good.app G0 G1 (fun g h h' => by simp [cStr, idsL, D.ids] at h')
  have U1 : ∀ g ∈ idsL (cStr a.name ++ cStr a.data), g < B := fun g h => by rw [idsL_app] at h; rcases List.mem_append.1 h with h | h; exact U0 g h; simp [cStr, idsL, D.ids] at h
  exact ⟨K1.nd, K1.lo, by have h := K1.wh; exact ⟨h.1, h.2⟩⟩
theorem w_laws_toFileS (a : Sl (File)) (ha : okS okFile a) (hb : swS swFile a ≤ 1048576) :
   VC Try.prog 86 [.d (dSl cFile a)] (fun n r => ∃ y : Sl (File), r = .d (dSl cFile y) ∧ plS plFile y = plS plFile a ∧ okS okFile y ∧ Good (cS cFile y) (whS whFile y) n) := by
  refine VC.of E s86 (by kernel_rfl) Try.func86 (by rfl) (by kernel_rfl) (by simp [Try.f86]) (by simp [Try.f86]) s86_ok fun B => ?_
  have hwt : swS swFile a = a.xs.length + sumW swFile a.xs := rfl
  simp [Try.f86, dSl]
  refine ⟨⟨by omega, by simp only [maxLen]; omega⟩, ?_⟩
  refine loop_rule2 (X := Nat × List (File)) (fun p h => p.1 ≤ a.xs.length ∧ p.2.length = p.1 ∧ p.2.map plFile = (a.xs.map plFile).take p.1 ∧ (∀ y ∈ p.2, okFile y) ∧ GoodL cFile whFile B h p.2) (fun p => [(0, .d (.sl a.id a.T (a.xs.map cFile))), (3, .own 7 0 a.xs.length), (4, .d (.int .i64 p.1))]) (fun p => [(7, some (.row 59 2 (p.2.map cFile ++ List.replicate (a.xs.length - p.1) [.str [], .str []])))]) (fun p => a.xs.length - p.1) (0, []) ⟨by simp, rfl, by simp, by simp, GoodL.nil⟩ (by simp) (by simp) ?_
  rintro ⟨i, ys⟩ hs t m ⟨hi, hyl, hpl, hok, hgd⟩ hh
  simp only at hi hyl hpl hok hgd
  by_cases hlt : i < a.xs.length
  · have hwi := wr1 (i := i) (by omega)
    have hmem : a.xs[i] ∈ a.xs := List.getElem_mem _
    have hsw := sumW_mem swFile hmem
    simp [cFile, cStr, hlt]
    refine call_some (w_laws_toFile a.xs[i] (ha.2 _ hmem) (by omega)) rfl (by simp) fun n hs' r hn hn' hp hr => ?_
    obtain ⟨y, rfl, hy1, hy2, hy3⟩ := hp
    simp at hn
    have hr' : ∀ g ∈ idsL (cFile y), g < hs' := fun g hg => hr g (by first | (simp [cFile, cStr, V.ids, idsVL, idsL] at hg; done) | simpa [cFile, cStr, V.ids, idsVL, idsL] using hg)
    have hyi : ys.length = i := hyl
    simp [cFile, cStr, hlt, hwi, hyi, show i + (a.xs.length - i) = a.xs.length by omega, dSl]
    refine back2 (i + 1, ys ++ [y]) ⟨by omega, by simp [hyi], ?_, ?_, ?_⟩ (by simp <;> omega) rfl (by simp <;> omega) (by simp) ?_
    · simp only [List.map_append, hpl, List.map_cons, List.map_nil, hy1]
      rw [List.take_succ_eq_append_getElem (by simpa using hlt)]; simp
    · intro y' hy'
      rcases List.mem_append.1 hy' with h | h
      · exact hok y' h
      · rw [List.mem_singleton.1 h]; exact hy2
    · exact GoodL.snoc hgd (by omega) hn' hy3 hr'
    · simp [rep_set0 hlt, cFile, cStr, dSl]
  · have hn : i = a.xs.length := by omega
    subst hn
    simp
    intro γ hs' h1 hg
    obtain ⟨q1, q2⟩ := gam_at hg (k := 7) (T := 59) (sz := 2) (es := ys.map cFile) (by simp [upd])
    have q3 := gam_row hg (k := 7) (T := 59) (sz := 2) (es := ys.map cFile) (by simp [upd])
    clear hg
    refine ⟨_, ⟨by omega, rfl⟩, ⟨γ 7, some (59, 2), ys⟩, ?_, by rw [List.take_of_length_le (by simp)] at hpl; exact hpl, ⟨by simp only [maxLen]; show ys.length ≤ _; omega, hok⟩, good_row (fun g hg => (q1 g hg).1) (by simpa using q2) q3 ⟨hgd.nd, hgd.lo⟩ hgd.wh⟩
    rw [if_pos hyl.symm, List.take_of_length_le (by simp [hyl])]
theorem w_laws_heldFileS (a : Sl (File)) (k : Int) (h0 : 1 ≤ k) (h1 : k + wtS wtFile a ≤ 4611686018427387904) (ha : okS okFile a) :
   VC Try.prog 89 [.d (dSl cFile a), .d (.int .i64 k)] (fun _ r => r = .d (.int .i64 (hv (hlS (hlFile) (wtFile) a k) k (wtS wtFile a)))) := by
  refine VC.of E s89 (by kernel_rfl) Try.func89 (by rfl) (by kernel_rfl) (by simp [Try.f89]) (by simp [Try.f89]) s89_ok fun B => ?_
  obtain ⟨id, T, xs⟩ := a
  have ha1 := ha.1
  simp only [maxLen] at ha1
  have hwt : wtS wtFile (⟨id, T, xs⟩ : Sl (File)) = sumW wtFile xs := rfl
  have hhl : hlS (hlFile) (wtFile) (⟨id, T, xs⟩ : Sl (File)) k = hlList hlFile wtFile xs k := rfl
  rw [hwt] at h1
  rw [hwt, hhl]
  simp [Try.f89, s89_4, s89_7, dSl]
  refine loop_rule (X := Nat) (fun i => i ≤ xs.length ∧ hlList hlFile wtFile (xs.take i) k = true) (fun i => [(0, .d (.sl id T (xs.map cFile))), (1, .d (.int .i64 (k + sumW wtFile (xs.take i)))), (5, .d (.int .i64 i))]) (fun _ => []) (fun i => xs.length - i) 0 (by simp [hlList]) (by simp) (by simp) ?_
  intro i hs t m hi hh
  by_cases hlt : i < xs.length
  · have hwi := wr1 (i := i) (by omega)
    have e1 := sumW_succ wtFile hlt
    have e2 := sumW_le wtFile xs (i + 1)
    have hmem : xs[i] ∈ xs := List.getElem_mem _
    have hstep := hlList_step (hl := hlFile) (wt := wtFile) (k := k) hlt
    rw [hi.2, Bool.true_and] at hstep
    have hbad := hlList_bad (hl := hlFile) (wt := wtFile) (k := k) hlt
    have h112 : ∀ x : Int, 1 + (1 + x) = 2 + x := fun x => by omega
    have hex : hlFile xs[i] (k + sumW wtFile (xs.take i)) = (xs[i].name == mtext (k + sumW wtFile (xs.take i)) && xs[i].data == mtext (k + sumW wtFile (xs.take i) + 1)) := by simp [hlFile, hlStr, wtFile, wtStr, Bool.and_assoc, Int.add_assoc, h112]
    have hwx : wtFile xs[i] = 1 + 1 := by first | rfl | (simp only [wtTab, wtDelta, wtReln, wtStr, wtI]; omega)
    have hk0 : IntKind.i64.wrap (k + sumW wtFile (xs.take i) + 1) = k + sumW wtFile (xs.take i) + 1 := wrap64_of (by omega) (by omega)
    simp [cFile, cStr, hlt, dSl, s89_4, s89_7, ]
    refine call_pure (w_laws_markText _ (by omega) (by omega)) rfl (by simp) rfl fun hs0 hh0 => ?_
    simp at hh0
    by_cases c0 : xs[i].name = mtext (k + sumW wtFile (xs.take i))
    case neg => simp [c0, hbad (by simp [hex, c0])]
    simp [c0, hk0, hlt, cFile, cStr, s89_4, s89_7, ]
    have hk1 : IntKind.i64.wrap (k + sumW wtFile (xs.take i) + 1 + 1) = k + sumW wtFile (xs.take i) + 1 + 1 := wrap64_of (by omega) (by omega)
    refine call_pure (w_laws_markText _ (by omega) (by omega)) rfl (by simp) rfl fun hs1 hh1 => ?_
    simp at hh1
    by_cases c1 : xs[i].data = mtext (k + sumW wtFile (xs.take i) + 1)
    case neg => simp [c1, hbad (by simp [hex, c1])]
    simp [c1, hk1, hlt, cFile, cStr, s89_4, s89_7, ]
    simp [hwi]
    refine back (i + 1) ⟨by omega, hstep.trans (hex.trans (by simp [c0, c1]))⟩ (by omega) rfl (by simp <;> omega) ?_ (by simp)
    simp
    omega
  · have hn : i = xs.length := by omega
    subst hn
    have h2 := hi.2
    rw [List.take_length] at h2
    simp [h2]
theorem w_laws_toDisk (a : Disk) (ha : okDisk a) (hb : swDisk a ≤ 1048576) :
   VC Try.prog 17 [.agg ((cDisk a).map V.d)] (fun n r => ∃ y : Disk, r = .agg ((cDisk y).map V.d) ∧ plDisk y = plDisk a ∧ okDisk y ∧ Good (cDisk y) (whDisk y) n) := by
  refine VC.of E s17 (by kernel_rfl) Try.func17 (by rfl) (by kernel_rfl) (by simp [Try.f17]) (by simp [Try.f17]) s17_ok fun B => ?_
  have hwt : swDisk a = swS swFile a.files := rfl
  simp [Try.f17, cDisk, cS, dSl]
  refine call_some (w_laws_toFileS a.files ha (by have := hwt; omega)) rfl (by simp) fun n0 hs0 r0 hn0 hm0 hp0 hr0 => ?_
  obtain ⟨y0, rfl, hy0, hk0, hg0⟩ := hp0
  have hl0 : ∀ g ∈ idsL (cS cFile y0), g < hs0 := fun g hg => hr0 g (by first | (simp [cS, V.ids, idsVL, idsL] at hg; done) | simpa [cS, V.ids, idsVL, idsL] using hg)
  simp at hn0
  simp [cS, dSl]
  refine ⟨⟨y0⟩, ?_⟩
  refine ⟨by simp [cDisk, cS, dSl], by simp only [plDisk, hy0], hk0, ?_⟩
  have G0 : Good (cS cFile y0) (whS whFile y0) B := hg0.le (by omega)
  have U0 : ∀ g ∈ idsL (cS cFile y0), g < hs0 := hl0
  exact G0
theorem w_laws_heldDisk (a : Disk) (k : Int) (h0 : 1 ≤ k) (h1 : k + wtTDisk a ≤ 4611686018427387904) (ha : okDisk a) :
   VC Try.prog 23 [.agg ((cDisk a).map V.d), .d (.int .i64 k)] (fun _ r => r = .d (.int .i64 (hv (hlTDisk a k) k (wtTDisk a)))) := by
  refine VC.of E s23 (by kernel_rfl) Try.func23 (by rfl) (by kernel_rfl) (by simp [Try.f23]) (by simp [Try.f23]) s23_ok fun B => ?_
  have hwt : wtTDisk a = wtS wtFile a.files := rfl
  have hex : hlTDisk a k = (hlS (hlFile) (wtFile) a.files (k)) := rfl
  simp [Try.f23, cDisk, cS, dSl]
  refine call_pure (w_laws_heldFileS a.files _ (by omega) (by omega) ha) rfl (by simp) rfl fun hs0 hh0 => ?_
  by_cases c0 : hlS (hlFile) (wtFile) a.files (k) = true
  case neg =>
    have c0' : hlS (hlFile) (wtFile) a.files (k) = false := by simpa using c0
    simp [c0', hex]
  have hn0 : ¬ k + (wtS wtFile a.files : Int) < 0 := by omega
  simp [c0, hn0]
  simp [hex, c0, hwt]
  try omega
theorem w_laws_toRelation (a : Reln) (ha : okReln a) (hb : swReln a ≤ 1048576) :
   VC Try.prog 191 [.agg ((cReln a).map V.d)] (fun n r => ∃ y : Reln, r = .agg ((cReln y).map V.d) ∧ plReln y = plReln a ∧ okReln y ∧ Good (cReln y) (whReln y) n) := by
  refine VC.of E s191 (by kernel_rfl) Try.func191 (by rfl) (by kernel_rfl) (by simp [Try.f191]) (by simp [Try.f191]) s191_ok fun B => ?_
  have hwt : swReln a = swS (swS swI) a.rows := rfl
  simp [Try.f191, cI, cReln, cS, dSl]
  refine call_some (w_laws_toIntSS a.rows ha.2 (by have := hwt; omega)) rfl (by simp) fun n0 hs0 r0 hn0 hm0 hp0 hr0 => ?_
  obtain ⟨y0, rfl, hy0, hk0, hg0⟩ := hp0
  have hl0 : ∀ g ∈ idsL (cS (cS cI) y0), g < hs0 := fun g hg => hr0 g (by first | (simp [cS, V.ids, idsVL, idsL] at hg; done) | simpa [cS, V.ids, idsVL, idsL] using hg)
  simp at hn0
  simp [cS, dSl]
  refine ⟨⟨a.ar, y0⟩, ?_⟩
  refine ⟨by simp [cI, cReln, cS, dSl], by simp only [plReln, hy0], ⟨ha.1, hk0⟩, ?_⟩
  have G0 : Good (cI a.ar) (whI a.ar) B := good_I B a.ar
  have G1 : Good (cS (cS cI) y0) (whS (whS whI) y0) B := hg0.le (by omega)
  have U0 : ∀ g ∈ idsL (cI a.ar), g < B := by simp [cI, idsL, D.ids]
  have K1 : Good (cI a.ar ++ cS (cS cI) y0) ((whI a.ar) ∧ whS (whS whI) y0) B := Good.app G0 G1 (fun g h h' => by have h1 := U0 g h; have h2 := hg0.lo g h'; omega)
  have U1 : ∀ g ∈ idsL (cI a.ar ++ cS (cS cI) y0), g < hs0 := fun g h => by rw [idsL_app] at h; rcases List.mem_append.1 h with h | h; (have h1 := U0 g h; omega); exact hl0 g h
  exact ⟨K1.nd, K1.lo, by have h := K1.wh; exact ⟨h.1, h.2⟩⟩
theorem w_laws_toTable (a : Tab) (ha : okTab a) (hb : swTab a ≤ 1048576) :
   VC Try.prog 165 [.agg ((cTab a).map V.d)] (fun n r => ∃ y : Tab, r = .agg ((cTab y).map V.d) ∧ plTab y = plTab a ∧ okTab y ∧ Good (cTab y) (whTab y) n) := by
  refine VC.of E s165 (by kernel_rfl) Try.func165 (by rfl) (by kernel_rfl) (by simp [Try.f165]) (by simp [Try.f165]) s165_ok fun B => ?_
  have hwt : swTab a = swStr a.name + swReln a.rel := rfl
  simp [Try.f165, cI, cReln, cS, cStr, cTab, dSl]
  refine call_some (w_laws_toRelation a.rel ha.2 (by have := hwt; omega)) rfl (by simp) fun n0 hs0 r0 hn0 hm0 hp0 hr0 => ?_
  obtain ⟨y0, rfl, hy0, hk0, hg0⟩ := hp0
  have hl0 : ∀ g ∈ idsL (cReln y0), g < hs0 := fun g hg => hr0 g (by first | (simp [cI, cReln, cS, V.ids, idsVL, idsL] at hg; done) | simpa [cI, cReln, cS, V.ids, idsVL, idsL] using hg)
  simp at hn0
  simp [cI, cReln, cS, dSl]
  refine ⟨⟨a.name, y0⟩, ?_⟩
  refine ⟨by simp [cI, cReln, cS, cStr, cTab, dSl], by simp only [plTab, hy0], ⟨ha.1, hk0⟩, ?_⟩
  have G0 : Good (cStr a.name) (whStr a.name) B := good_Str B a.name
  have G1 : Good (cReln y0) (whReln y0) B := hg0.le (by omega)
  have U0 : ∀ g ∈ idsL (cStr a.name), g < B := by simp [cStr, idsL, D.ids]
  have K1 : Good (cStr a.name ++ cReln y0) ((whStr a.name) ∧ whReln y0) B := Good.app G0 G1 (fun g h h' => by have h1 := U0 g h; have h2 := hg0.lo g h'; omega)
  have U1 : ∀ g ∈ idsL (cStr a.name ++ cReln y0), g < hs0 := fun g h => by rw [idsL_app] at h; rcases List.mem_append.1 h with h | h; (have h1 := U0 g h; omega); exact hl0 g h
  exact ⟨K1.nd, K1.lo, by have h := K1.wh; exact ⟨h.1, h.2⟩⟩
theorem w_laws_toTableS (a : Sl (Tab)) (ha : okS okTab a) (hb : swS swTab a ≤ 1048576) :
   VC Try.prog 97 [.d (dSl cTab a)] (fun n r => ∃ y : Sl (Tab), r = .d (dSl cTab y) ∧ plS plTab y = plS plTab a ∧ okS okTab y ∧ Good (cS cTab y) (whS whTab y) n) := by
  refine VC.of E s97 (by kernel_rfl) Try.func97 (by rfl) (by kernel_rfl) (by simp [Try.f97]) (by simp [Try.f97]) s97_ok fun B => ?_
  have hwt : swS swTab a = a.xs.length + sumW swTab a.xs := rfl
  simp [Try.f97, dSl]
  refine ⟨⟨by omega, by simp only [maxLen]; omega⟩, ?_⟩
  refine loop_rule2 (X := Nat × List (Tab)) (fun p h => p.1 ≤ a.xs.length ∧ p.2.length = p.1 ∧ p.2.map plTab = (a.xs.map plTab).take p.1 ∧ (∀ y ∈ p.2, okTab y) ∧ GoodL cTab whTab B h p.2) (fun p => [(0, .d (.sl a.id a.T (a.xs.map cTab))), (3, .own 7 0 a.xs.length), (4, .d (.int .i64 p.1))]) (fun p => [(7, some (.row 131 3 (p.2.map cTab ++ List.replicate (a.xs.length - p.1) [.str [], .int .i64 0, .sl none none []])))]) (fun p => a.xs.length - p.1) (0, []) ⟨by simp, rfl, by simp, by simp, GoodL.nil⟩ (by simp) (by simp) ?_
  rintro ⟨i, ys⟩ hs t m ⟨hi, hyl, hpl, hok, hgd⟩ hh
  simp only at hi hyl hpl hok hgd
  by_cases hlt : i < a.xs.length
  · have hwi := wr1 (i := i) (by omega)
    have hmem : a.xs[i] ∈ a.xs := List.getElem_mem _
    have hsw := sumW_mem swTab hmem
    simp [cI, cReln, cS, cStr, cTab, hlt]
    refine call_some (w_laws_toTable a.xs[i] (ha.2 _ hmem) (by omega)) rfl (by simp) fun n hs' r hn hn' hp hr => ?_
    obtain ⟨y, rfl, hy1, hy2, hy3⟩ := hp
    simp at hn
    have hr' : ∀ g ∈ idsL (cTab y), g < hs' := fun g hg => hr g (by first | (simp [cI, cReln, cS, cStr, cTab, V.ids, idsVL, idsL] at hg; done) | simpa [cI, cReln, cS, cStr, cTab, V.ids, idsVL, idsL] using hg)
    have hyi : ys.length = i := hyl
    simp [cI, cReln, cS, cStr, cTab, hlt, hwi, hyi, show i + (a.xs.length - i) = a.xs.length by omega, dSl]
    refine back2 (i + 1, ys ++ [y]) ⟨by omega, by simp [hyi], ?_, ?_, ?_⟩ (by simp <;> omega) rfl (by simp <;> omega) (by simp) ?_
    · simp only [List.map_append, hpl, List.map_cons, List.map_nil, hy1]
      rw [List.take_succ_eq_append_getElem (by simpa using hlt)]; simp
    · intro y' hy'
      rcases List.mem_append.1 hy' with h | h
      · exact hok y' h
      · rw [List.mem_singleton.1 h]; exact hy2
    · exact GoodL.snoc hgd (by omega) hn' hy3 hr'
    · simp [rep_set0 hlt, cI, cReln, cS, cStr, cTab, dSl]
  · have hn : i = a.xs.length := by omega
    subst hn
    simp
    intro γ hs' h1 hg
    obtain ⟨q1, q2⟩ := gam_at hg (k := 7) (T := 131) (sz := 3) (es := ys.map cTab) (by simp [upd])
    have q3 := gam_row hg (k := 7) (T := 131) (sz := 3) (es := ys.map cTab) (by simp [upd])
    clear hg
    refine ⟨_, ⟨by omega, rfl⟩, ⟨γ 7, some (131, 3), ys⟩, ?_, by rw [List.take_of_length_le (by simp)] at hpl; exact hpl, ⟨by simp only [maxLen]; show ys.length ≤ _; omega, hok⟩, good_row (fun g hg => (q1 g hg).1) (by simpa using q2) q3 ⟨hgd.nd, hgd.lo⟩ hgd.wh⟩
    rw [if_pos hyl.symm, List.take_of_length_le (by simp [hyl])]
theorem w_laws_heldTableS (a : Sl (Tab)) (k : Int) (h0 : 1 ≤ k) (h1 : k + wtS wtTab a ≤ 4611686018427387904) (ha : okS okTab a) :
   VC Try.prog 93 [.d (dSl cTab a), .d (.int .i64 k)] (fun _ r => r = .d (.int .i64 (hv (hlS (hlTab) (wtTab) a k) k (wtS wtTab a)))) := by
  refine VC.of E s93 (by kernel_rfl) Try.func93 (by rfl) (by kernel_rfl) (by simp [Try.f93]) (by simp [Try.f93]) s93_ok fun B => ?_
  obtain ⟨id, T, xs⟩ := a
  have ha1 := ha.1
  simp only [maxLen] at ha1
  have hwt : wtS wtTab (⟨id, T, xs⟩ : Sl (Tab)) = sumW wtTab xs := rfl
  have hhl : hlS (hlTab) (wtTab) (⟨id, T, xs⟩ : Sl (Tab)) k = hlList hlTab wtTab xs k := rfl
  rw [hwt] at h1
  rw [hwt, hhl]
  simp [Try.f93, s93_4, dSl]
  refine loop_rule (X := Nat) (fun i => i ≤ xs.length ∧ hlList hlTab wtTab (xs.take i) k = true) (fun i => [(0, .d (.sl id T (xs.map cTab))), (1, .d (.int .i64 (k + sumW wtTab (xs.take i)))), (5, .d (.int .i64 i))]) (fun _ => []) (fun i => xs.length - i) 0 (by simp [hlList]) (by simp) (by simp) ?_
  intro i hs t m hi hh
  by_cases hlt : i < xs.length
  · have hwi := wr1 (i := i) (by omega)
    have e1 := sumW_succ wtTab hlt
    have e2 := sumW_le wtTab xs (i + 1)
    have hmem : xs[i] ∈ xs := List.getElem_mem _
    have hstep := hlList_step (hl := hlTab) (wt := wtTab) (k := k) hlt
    rw [hi.2, Bool.true_and] at hstep
    have hbad := hlList_bad (hl := hlTab) (wt := wtTab) (k := k) hlt
    have h112 : ∀ x : Int, 1 + (1 + x) = 2 + x := fun x => by omega
    have hex : hlTab xs[i] (k + sumW wtTab (xs.take i)) = (xs[i].name == mtext (k + sumW wtTab (xs.take i)) && xs[i].rel.ar == k + sumW wtTab (xs.take i) + 1 && hlS (hlS (hlI) (wtI)) (wtS wtI) xs[i].rel.rows (k + sumW wtTab (xs.take i) + 1 + 1)) := by simp [hlI, hlReln, hlStr, hlTab, wtI, wtReln, wtStr, wtTab, Bool.and_assoc, Int.add_assoc, h112]
    have hwx : wtTab xs[i] = 1 + 1 + wtS (wtS wtI) xs[i].rel.rows := by first | rfl | (simp only [wtTab, wtDelta, wtReln, wtStr, wtI]; omega)
    have hk0 : IntKind.i64.wrap (k + sumW wtTab (xs.take i) + 1) = k + sumW wtTab (xs.take i) + 1 := wrap64_of (by omega) (by omega)
    simp [cI, cReln, cS, cStr, cTab, hlt, dSl, s93_4, ]
    refine call_pure (w_laws_markText _ (by omega) (by omega)) rfl (by simp) rfl fun hs0 hh0 => ?_
    simp at hh0
    by_cases c0 : xs[i].name = mtext (k + sumW wtTab (xs.take i))
    case neg => simp [c0, hbad (by simp [hex, c0])]
    simp [c0, hk0, hlt, cI, cReln, cS, cStr, cTab, s93_4, ]
    have hk1 : IntKind.i64.wrap (k + sumW wtTab (xs.take i) + 1 + 1) = k + sumW wtTab (xs.take i) + 1 + 1 := wrap64_of (by omega) (by omega)
    by_cases c1 : xs[i].rel.ar = k + sumW wtTab (xs.take i) + 1
    case neg => simp [c1, hbad (by simp [hex, c1])]
    simp [c1, hk1, s93_4, ]
    refine call_pure (w_laws_heldIntSS xs[i].rel.rows _ (by omega) (by omega) ((ha.2 _ hmem).2.2)) rfl (by simp) rfl fun hs2 hh2 => ?_
    simp at hh2
    by_cases c2 : hlS (hlS (hlI) (wtI)) (wtS wtI) xs[i].rel.rows (k + sumW wtTab (xs.take i) + 1 + 1) = true
    case neg =>
      have c2' : hlS (hlS (hlI) (wtI)) (wtS wtI) xs[i].rel.rows (k + sumW wtTab (xs.take i) + 1 + 1) = false := by simpa using c2
      simp [c2', hbad (by simp [hex, c2'])]
    have hn2 : ¬ k + sumW wtTab (xs.take i) + 1 + 1 + (wtS (wtS wtI) xs[i].rel.rows : Int) < 0 := by omega
    simp [c2, hn2, hlt, cI, cReln, cS, cStr, cTab, dSl, s93_4, ]
    simp [hwi]
    refine back (i + 1) ⟨by omega, hstep.trans (hex.trans (by simp [c0, c1, c2]))⟩ (by omega) rfl (by simp <;> omega) ?_ (by simp)
    simp
    omega
  · have hn : i = xs.length := by omega
    subst hn
    have h2 := hi.2
    rw [List.take_length] at h2
    simp [h2]
theorem w_laws_toDatabase (a : Db) (ha : okDb a) (hb : swDb a ≤ 1048576) :
   VC Try.prog 31 [.agg ((cDb a).map V.d)] (fun n r => ∃ y : Db, r = .agg ((cDb y).map V.d) ∧ plDb y = plDb a ∧ okDb y ∧ Good (cDb y) (whDb y) n) := by
  refine VC.of E s31 (by kernel_rfl) Try.func31 (by rfl) (by kernel_rfl) (by simp [Try.f31]) (by simp [Try.f31]) s31_ok fun B => ?_
  have hwt : swDb a = swS swTab a.tabs := rfl
  simp [Try.f31, cDb, cS, dSl]
  refine call_some (w_laws_toTableS a.tabs ha (by have := hwt; omega)) rfl (by simp) fun n0 hs0 r0 hn0 hm0 hp0 hr0 => ?_
  obtain ⟨y0, rfl, hy0, hk0, hg0⟩ := hp0
  have hl0 : ∀ g ∈ idsL (cS cTab y0), g < hs0 := fun g hg => hr0 g (by first | (simp [cS, V.ids, idsVL, idsL] at hg; done) | simpa [cS, V.ids, idsVL, idsL] using hg)
  simp at hn0
  simp [cS, dSl]
  refine ⟨⟨y0⟩, ?_⟩
  refine ⟨by simp [cDb, cS, dSl], by simp only [plDb, hy0], hk0, ?_⟩
  have G0 : Good (cS cTab y0) (whS whTab y0) B := hg0.le (by omega)
  have U0 : ∀ g ∈ idsL (cS cTab y0), g < hs0 := hl0
  exact G0
theorem w_laws_heldDatabase (a : Db) (k : Int) (h0 : 1 ≤ k) (h1 : k + wtTDb a ≤ 4611686018427387904) (ha : okDb a) :
   VC Try.prog 28 [.agg ((cDb a).map V.d), .d (.int .i64 k)] (fun _ r => r = .d (.int .i64 (hv (hlTDb a k) k (wtTDb a)))) := by
  refine VC.of E s28 (by kernel_rfl) Try.func28 (by rfl) (by kernel_rfl) (by simp [Try.f28]) (by simp [Try.f28]) s28_ok fun B => ?_
  have hwt : wtTDb a = wtS wtTab a.tabs := rfl
  have hex : hlTDb a k = (hlS (hlTab) (wtTab) a.tabs (k)) := rfl
  simp [Try.f28, cDb, cS, dSl]
  refine call_pure (w_laws_heldTableS a.tabs _ (by omega) (by omega) ha) rfl (by simp) rfl fun hs0 hh0 => ?_
  by_cases c0 : hlS (hlTab) (wtTab) a.tabs (k) = true
  case neg =>
    have c0' : hlS (hlTab) (wtTab) a.tabs (k) = false := by simpa using c0
    simp [c0', hex]
  have hn0 : ¬ k + (wtS wtTab a.tabs : Int) < 0 := by omega
  simp [c0, hn0]
  simp [hex, c0, hwt]
  try omega

end Go.Proofs.Ytlmnjomekklnkaa

namespace Go.Proofs.Ytlmnjomekklnkaa
open Go.Vs Go.Proofs Go
set_option maxRecDepth 100000
set_option maxHeartbeats 1000000

theorem w_laws_markIntS (a : Ints) (k : Int) (h0 : 1 ≤ k) (h1 : k + wtS wtI a ≤ 4611686018427387904) (hw : whS whI a) (hl0 : okS okI a) (hnd : (dInts a).ids.Nodup) :
   VX Try.prog 188 (dInts a).ids [.d (dInts a), .d (.int .i64 k)] none (fun _ r _ ws => r = .d (.int .i64 (k + wtS wtI a)) ∧ ws = [dInts (mkS mkI wtI a k)]) := by
  refine VX.of E s188 (by kernel_rfl) Try.func188 (by rfl) (by kernel_rfl) (by simp [Try.f188]) (by simp [Try.f188]) s188_ok (fun g hg => .inl (by simpa using hg)) (fun cs h => nomatch h) fun B hB => ?_
  have hl := hl0.1
  obtain ⟨id, T, xs⟩ := a
  have hwt : wtS wtI (⟨id, T, xs⟩ : Ints) = xs.length := sumW_one (fun _ => rfl) xs
  rw [hwt] at h1 ⊢
  simp only [maxLen] at hl
  simp [Try.f188]
  refine loop_rule (X := Nat) (fun i => i ≤ xs.length) (fun i => [(0, .d (dInts ⟨id, T, mkAt mkI wtI xs k i⟩)), (1, .d (.int .i64 (k + i))), (5, .d (.int .i64 i))]) (fun _ => []) (fun i => xs.length - i) 0 (by simp) (by simp) (by simp) ?_
  intro i hs t m hi hh
  by_cases hlt : i < xs.length
  · obtain ⟨g, hg, T', hT⟩ := hw.1.id hlt
    simp only at hg hT
    subst hg hT
    have hk := wr1 (i := i) (by omega)
    have hk2 : IntKind.i64.wrap (k + i + 1) = k + i + 1 := wrap64_of (by omega) (by omega)
    simp [dInts, dSl, hlt, hk, hk2, cI]
    refine back (i + 1) (by omega) (by omega) rfl (by simp) ?_ (by simp)
    have e1 : (List.map cI (mkAt mkI wtI xs k i)).set i [D.int IntKind.i64 (k + ↑i)] = List.map cI (mkAt mkI wtI xs k (i + 1)) := by
      rw [mkAt_succ hlt, ← set_map, show sumW wtI (List.take i xs) = _ from sumW_one (fun _ => rfl) _]
      simp [cI, mkI, Nat.min_eq_left hi]
    have e2 := re_oneSet (g := g) (T := T') (es := List.map cI (mkAt mkI wtI xs k i)) (i := i) (e' := [D.int IntKind.i64 (k + ↑i)]) (fun e he => by
      rw [List.getElem?_map] at he
      simp [hlt] at he
      rw [← he]; rfl)
    rw [e1] at e2
    simp [e1, e2]
    omega
  · have hn : i = xs.length := by omega
    subst hn
    simp [dInts, dSl, vendX]
    refine ⟨[0], fun γ hs' h1 h2 => ?_⟩
    simp [mkS, mkAt_all]

theorem w_laws_markIntSS (a : Sl Ints) (k : Int) (h0 : 1 ≤ k) (h1 : k + wtS (wtS wtI) a ≤ 4611686018427387904) (hw : whS (whS whI) a) (hl : okS (okS okI) a) (hnd : (dRows a).ids.Nodup) :
   VX Try.prog 162 (dRows a).ids [.d (dRows a), .d (.int .i64 k)] none (fun _ r _ ws => r = .d (.int .i64 (k + wtS (wtS wtI) a)) ∧ ws = [dRows (mkS (mkS mkI wtI) (wtS wtI) a k)]) := by
  refine VX.of E s162 (by kernel_rfl) Try.func162 (by rfl) (by kernel_rfl) (by simp [Try.f162]) (by simp [Try.f162]) s162_ok (fun g hg => .inl (by simpa using hg)) (fun cs h => nomatch h) fun B hB => ?_
  obtain ⟨id, T, xs⟩ := a
  have hl1 := hl.1
  simp only [maxLen] at hl1
  have hwt : wtS (wtS wtI) (⟨id, T, xs⟩ : Sl Ints) = sumW (wtS wtI) xs := rfl
  rw [hwt] at h1 ⊢
  simp [Try.f162]
  refine loop_rule (X := Nat) (fun i => i ≤ xs.length) (fun i => [(0, .d (dSl (cS cI) ⟨id, T, mkAt (mkS mkI wtI) (wtS wtI) xs k i⟩)), (1, .d (.int .i64 (k + sumW (wtS wtI) (xs.take i)))), (5, .d (.int .i64 i))]) (fun _ => []) (fun i => xs.length - i) 0 (by simp) (by simp) (by simp) ?_
  intro i hs t m hi hh
  by_cases hlt : i < xs.length
  · have hk := wr1 (i := i) (by omega)
    have e1 := sumW_succ (wtS wtI) hlt
    have e2 := sumW_le (wtS wtI) xs (i + 1)
    have hmem : xs[i] ∈ xs := List.getElem_mem _
    simp [dSl, hlt, cS]
    refine call_x (E188) (by simp [dSl]) (by simp) (by simp) (fun g hg => .inr ?_) (w_laws_markIntS xs[i] (k + sumW (wtS wtI) (xs.take i)) (by omega) (by omega) (hw.2 _ hmem) (hl.2 _ hmem) (by have := elem_nd (sl_nd hnd).1 hlt; rwa [idsL_cS] at this)) fun n hs' r cs' ws hn hn' hp hr hws => ?_
    · exact elem_ids (s := ⟨id, T, xs⟩) (c := cS cI) (i := i) hlt (by simpa [cS, idsL] using hg)
    obtain ⟨rfl, rfl⟩ := hp
    simp at hn
    have hnd' : (dSl (cS cI) (⟨id, T, mkAt (mkS mkI wtI) (wtS wtI) xs k i⟩ : Sl Ints)).ids.Nodup := by
      have : (dSl (cS cI) (⟨id, T, mkAt (mkS mkI wtI) (wtS wtI) xs k i⟩ : Sl Ints)).ids = (dRows ⟨id, T, xs⟩).ids := by
        simp only [dSl, D.ids]; rw [ids_mkAt (marksS marksI).ids]
      rw [this]; exact hnd
    have e3 := re_elem (c := cS cI) (s := ⟨id, T, mkAt (mkS mkI wtI) (wtS wtI) xs k i⟩) (i := i) (a' := mkS mkI wtI xs[i] (k + sumW (wtS wtI) (xs.take i))) (W := (dInts xs[i]).ids) (ws := [dInts (mkS mkI wtI xs[i] (k + sumW (wtS wtI) (xs.take i)))]) hnd' (by simpa using hlt)
      (fun g hg => by simpa [cS, idsL] using hg) (by simp only [mkAt_get]; exact reL_one (re_root (by simp [cI]) (hw.2 _ hmem).1 (by simp) (fun g hg => mem_slids hg) []))
    simp [dSl, cS, hk] at e3 ⊢
    refine back (i + 1) (by omega) (by omega) rfl (by simp <;> omega) ?_ (by simp)
    simp [e3, mkAt_succ hlt, e1]
    exact ⟨rfl, by omega⟩
  · have hn : i = xs.length := by omega
    subst hn
    simp [dSl, vendX]
    refine ⟨[0], fun γ hs' h1 h2 => ?_⟩
    simp [mkS, mkAt_all]

end Go.Proofs.Ytlmnjomekklnkaa

namespace Go.Proofs.Ytlmnjomekklnkaa
open Go.Vs Go.Proofs Go
set_option maxRecDepth 100000
set_option maxHeartbeats 1000000

theorem w_laws_markFileS (a : Sl (File)) (k : Int) (h0 : 1 ≤ k) (h1 : k + wtS wtFile a ≤ 4611686018427387904) (hw : whS whFile a) (hl : okS okFile a) (hnd : (dSl cFile a).ids.Nodup) :
   VX Try.prog 88 (dSl cFile a).ids [.d (dSl cFile a), .d (.int .i64 k)] none (fun _ r _ ws => r = .d (.int .i64 (k + wtS wtFile a)) ∧ ws = [dSl cFile (mkS (mkFile) (wtFile) a k)]) := by
  refine VX.of E s88 (by kernel_rfl) Try.func88 (by rfl) (by kernel_rfl) (by simp [Try.f88]) (by simp [Try.f88]) s88_ok ?_ ?_ fun B hB => ?_
  · exact fun g hg => .inl (by simpa using hg)
  · exact fun cs h => nomatch h
  obtain ⟨id, T, xs⟩ := a
  have hl1 := hl.1
  simp only [maxLen] at hl1
  have hwt : wtS wtFile (⟨id, T, xs⟩ : Sl (File)) = sumW wtFile xs := rfl
  rw [hwt] at h1 ⊢
  simp [Try.f88]
  refine loop_rule (X := Nat) (fun i => i ≤ xs.length) (fun i => [(0, .d (dSl cFile ⟨id, T, mkAt mkFile wtFile xs k i⟩)), (1, .d (.int .i64 (k + sumW wtFile (xs.take i)))), (5, .d (.int .i64 i))]) (fun _ => []) (fun i => xs.length - i) 0 (by simp) (by simp) (by simp) ?_
  intro i hs t m hi hh
  by_cases hlt : i < xs.length
  · have hwi := wr1 (i := i) (by omega)
    have e1 := sumW_succ wtFile hlt
    have e2 := sumW_le wtFile xs (i + 1)
    have hmem : xs[i] ∈ xs := List.getElem_mem _
    have hwx : wtFile xs[i] = 1 + 1 := by simp only [wtFile, wtStr] <;> omega
    obtain ⟨g, hg, T', hT⟩ := hw.1.id hlt
    simp only at hg hT
    subst hg hT
    have hnd2 := sl_nd hnd
    have hnn : g ∉ idsLL ((mkAt mkFile wtFile xs k i).map cFile) := by rw [ids_mkAt marksFile.ids]; exact hnd2.2 g rfl
    have hni : g ∉ idsL (cFile xs[i]) := fun hin => hnd2.2 g rfl (idsLL_map_mem.2 ⟨_, hmem, hin⟩)
    have hne := elem_nd hnd2.1 hlt
    have hni0 := hni
    have hne0 := hne
    have hap : ∀ W : List Nat, (∀ q ∈ W, q ∈ idsL (cFile xs[i])) → ∀ ws (j : Nat) (e : List D), j ≠ i → ((mkAt mkFile wtFile xs k i).map cFile)[j]? = some e → ∀ q ∈ idsL e, phi W ws q = none := by
      intro W hW ws
      exact nd_mapD (by rw [ids_mkAt marksFile.ids]; exact hnd2.1) (i := i) (by simpa using hlt) (by simpa using hW) ws
    simp only [cFile, cStr, idsL_app, idsL, D.ids, dSl, List.append_nil, List.nil_append, List.cons_append, List.mem_append, not_or, List.append_assoc] at hni hne
    simp [dSl, hlt]
    have hk0 : IntKind.i64.wrap (k + sumW wtFile (xs.take i) + 1) = k + sumW wtFile (xs.take i) + 1 := wrap64_of (by omega) (by omega)
    refine call_pure (w_laws_markText _ (by omega) (by omega)) rfl (by simp) rfl fun hs0 hh0 => ?_
    simp at hh0
    simp [dSl, hlt, cFile, cStr, hnn, nin_set hnn, idsL, D.ids, hni, hk0, hwi]
    have hk1 : IntKind.i64.wrap (k + sumW wtFile (xs.take i) + 1 + 1) = k + sumW wtFile (xs.take i) + 1 + 1 := wrap64_of (by omega) (by omega)
    refine call_pure (w_laws_markText _ (by omega) (by omega)) rfl (by simp) rfl fun hs1 hh1 => ?_
    simp at hh1
    simp [dSl, hlt, cFile, cStr, hnn, nin_set hnn, idsL, D.ids, hni, hk1, hwi]
    refine back (i + 1) (by omega) (by omega) rfl (by simp <;> omega) ?_ (by simp)
    simp [mkAt_succ hlt, e1, cFile, cStr, dSl]
    first
    | exact ⟨rfl, by omega⟩
    | (refine ⟨?_, by omega⟩; simp [mkFile, mkStr, wtFile, wtStr, mkS, Int.add_assoc, show ∀ x : Int, 1 + (1 + x) = 2 + x from fun x => by omega])
  · have hn : i = xs.length := by omega
    subst hn
    simp [dSl, vendX]
    refine ⟨[0], fun γ hs' h1 h2 => ?_⟩
    simp [mkS, mkAt_all]
theorem simT_Disk {a : Disk} (hw : whDisk a) (k : Int) : Sim (cDisk a) (cDisk (mkTDisk a k)) := sim_mk marksFile hw (k)
theorem w_laws_markDisk (a : Disk) (k : Int) (h0 : 1 ≤ k) (h1 : k + wtTDisk a ≤ 4611686018427387904) (hw : whDisk a) (hl : okDisk a) (hnd : (idsL (cDisk a)).Nodup) :
   VX Try.prog 22 (idsL (cDisk a)) [.agg ((cDisk a).map V.d), .d (.int .i64 k)] none (fun _ r _ ws => r = .d (.int .i64 (k + wtTDisk a)) ∧ ws = cDisk (mkTDisk a k)) := by
  refine VX.of E s22 (by kernel_rfl) Try.func22 (by rfl) (by kernel_rfl) (by simp [Try.f22]) (by simp [Try.f22]) s22_ok ?_ ?_ fun B hB => ?_
  · exact fun g hg => .inl (by simpa [idsVL, V.ids, idsVL_map_d] using hg)
  · exact fun cs h => nomatch h
  have hwt : wtTDisk a = wtS wtFile a.files := rfl
  have hnd0 := hnd
  simp only [cDisk, idsL_app] at hnd0
  have nd0 : (idsL (cS cFile a.files)).Nodup := hnd0
  simp [Try.f22, cDisk, cS]
  refine call_x (E88) (by simp) (by simp) (by simp) (fun q hq => .inr ?_) (w_laws_markFileS a.files (k) (by omega) (by omega) (hw) (hl) (by rw [← idsL_cS]; exact nd0)) fun n0 hs0 r cs' ws hn0 hm0 hp hr hws => ?_
  · simp only [idsL_app, idsL, List.append_nil, List.nil_append, List.append_assoc, List.mem_append, cDisk, cS] at hq ⊢
    first | (simp [hq]; done) | (simp [D.ids] at hq ⊢; grind)
  obtain ⟨rfl, rfl⟩ := hp
  simp at hn0
  have hre0 : reL (phi ((dSl cFile a.files).ids) [dSl cFile (mkS (mkFile) (wtFile) a.files (k))]) (cS cFile a.files) = some (cS cFile (mkS (mkFile) (wtFile) a.files (k))) := by
    have := re_sim (sim_mk marksFile hw (k)) ((marksS marksFile).ids _ _) nd0
    rw [idsL_cS] at this
    exact this
  replace hre0 := reVL_map hre0
  simp only [cDisk, cS, List.cons_append, List.nil_append, List.map_cons, List.map_nil, reVL_cons, reVL_nil, List.cons.injEq, and_true, reV_int, reV_str, true_and] at hre0
  simp [hre0, cDisk, cS]
  simp [vendX]
  refine ⟨[0], fun γ hs' h1 h2 => ?_⟩
  simp [isD, dD, hwt, mkTDisk, cDisk, cS, reD]
  try omega
theorem w_laws_markTableS (a : Sl (Tab)) (k : Int) (h0 : 1 ≤ k) (h1 : k + wtS wtTab a ≤ 4611686018427387904) (hw : whS whTab a) (hl : okS okTab a) (hnd : (dSl cTab a).ids.Nodup) :
   VX Try.prog 92 (dSl cTab a).ids [.d (dSl cTab a), .d (.int .i64 k)] none (fun _ r _ ws => r = .d (.int .i64 (k + wtS wtTab a)) ∧ ws = [dSl cTab (mkS (mkTab) (wtTab) a k)]) := by
  refine VX.of E s92 (by kernel_rfl) Try.func92 (by rfl) (by kernel_rfl) (by simp [Try.f92]) (by simp [Try.f92]) s92_ok ?_ ?_ fun B hB => ?_
  · exact fun g hg => .inl (by simpa using hg)
  · exact fun cs h => nomatch h
  obtain ⟨id, T, xs⟩ := a
  have hl1 := hl.1
  simp only [maxLen] at hl1
  have hwt : wtS wtTab (⟨id, T, xs⟩ : Sl (Tab)) = sumW wtTab xs := rfl
  rw [hwt] at h1 ⊢
  simp [Try.f92]
  refine loop_rule (X := Nat) (fun i => i ≤ xs.length) (fun i => [(0, .d (dSl cTab ⟨id, T, mkAt mkTab wtTab xs k i⟩)), (1, .d (.int .i64 (k + sumW wtTab (xs.take i)))), (5, .d (.int .i64 i))]) (fun _ => []) (fun i => xs.length - i) 0 (by simp) (by simp) (by simp) ?_
  intro i hs t m hi hh
  by_cases hlt : i < xs.length
  · have hwi := wr1 (i := i) (by omega)
    have e1 := sumW_succ wtTab hlt
    have e2 := sumW_le wtTab xs (i + 1)
    have hmem : xs[i] ∈ xs := List.getElem_mem _
    have hwx : wtTab xs[i] = 1 + 1 + wtS (wtS wtI) xs[i].rel.rows := by simp only [wtI, wtReln, wtStr, wtTab] <;> omega
    obtain ⟨g, hg, T', hT⟩ := hw.1.id hlt
    simp only at hg hT
    subst hg hT
    have hnd2 := sl_nd hnd
    have hnn : g ∉ idsLL ((mkAt mkTab wtTab xs k i).map cTab) := by rw [ids_mkAt marksTab.ids]; exact hnd2.2 g rfl
    have hni : g ∉ idsL (cTab xs[i]) := fun hin => hnd2.2 g rfl (idsLL_map_mem.2 ⟨_, hmem, hin⟩)
    have hne := elem_nd hnd2.1 hlt
    have hni0 := hni
    have hne0 := hne
    have hap : ∀ W : List Nat, (∀ q ∈ W, q ∈ idsL (cTab xs[i])) → ∀ ws (j : Nat) (e : List D), j ≠ i → ((mkAt mkTab wtTab xs k i).map cTab)[j]? = some e → ∀ q ∈ idsL e, phi W ws q = none := by
      intro W hW ws
      exact nd_mapD (by rw [ids_mkAt marksTab.ids]; exact hnd2.1) (i := i) (by simpa using hlt) (by simpa using hW) ws
    simp only [cI, cReln, cS, cStr, cTab, idsL_app, idsL, D.ids, dSl, List.append_nil, List.nil_append, List.cons_append, List.mem_append, not_or, List.append_assoc] at hni hne
    simp [dSl, hlt]
    have hk0 : IntKind.i64.wrap (k + sumW wtTab (xs.take i) + 1) = k + sumW wtTab (xs.take i) + 1 := wrap64_of (by omega) (by omega)
    refine call_pure (w_laws_markText _ (by omega) (by omega)) rfl (by simp) rfl fun hs0 hh0 => ?_
    simp at hh0
    simp [dSl, hlt, cI, cReln, cS, cStr, cTab, hnn, nin_set hnn, idsL, D.ids, hni, hk0, hwi, ids_mk (wt := (wtS wtI)) (marksS marksI).ids]
    have hk1 : IntKind.i64.wrap (k + sumW wtTab (xs.take i) + 1 + 1) = k + sumW wtTab (xs.take i) + 1 + 1 := wrap64_of (by omega) (by omega)
    simp [dSl, hlt, cI, cReln, cS, cStr, cTab, hnn, nin_set hnn, idsL, D.ids, hni, hk1, hwi, ids_mk (wt := (wtS wtI)) (marksS marksI).ids]
    have hx2 : dSl (cS cI) xs[i].rel.rows ∈ cTab xs[i] := by simp [cI, cReln, cS, cStr, cTab]
    refine call_x (E162) (by simp [dSl]) (by simp) (by simp) (fun q hq => .inr ?_) (w_laws_markIntSS xs[i].rel.rows (k + sumW wtTab (xs.take i) + 1 + 1) (by omega) (by omega) ((hw.2 _ hmem).2.2) ((hl.2 _ hmem).2.2) (nd_mem hne0 hx2)) fun n2 hs2 r cs' ws hn2 hm2 hp hr hws => ?_
    · exact elem_ids (s := ⟨some g, some T', xs⟩) (c := cTab) (i := i) hlt (mem_idsL hx2 hq)
    obtain ⟨rfl, rfl⟩ := hp
    simp at hn2
    have hre2 : reL (phi (dSl (cS cI) xs[i].rel.rows).ids [dSl (cS cI) (mkS (mkS (mkI) (wtI)) (wtS wtI) xs[i].rel.rows (k + sumW wtTab (xs.take i) + 1 + 1))]) [D.str (mtext (k + sumW wtTab (xs.take i))), D.int .i64 (k + sumW wtTab (xs.take i) + 1), dSl (cS cI) xs[i].rel.rows] = some [D.str (mtext (k + sumW wtTab (xs.take i))), D.int .i64 (k + sumW wtTab (xs.take i) + 1), dSl (cS cI) (mkS (mkS (mkI) (wtI)) (wtS wtI) xs[i].rel.rows (k + sumW wtTab (xs.take i) + 1 + 1))] := reL_cons_iff.2 ⟨rfl, reL_cons_iff.2 ⟨rfl, reL_cons_iff.2 ⟨re_root (marksS marksI).len ((hw.2 _ hmem).2.2).1 (by simp) (fun g hg => mem_slids hg) [], rfl⟩⟩⟩
    have hse2 := re_elemD (g := g) (T := some T') (es := (mkAt mkTab wtTab xs k i).map cTab) (phi_out (W := (dSl (cS cI) xs[i].rel.rows).ids) (ws := [dSl (cS cI) (mkS (mkS (mkI) (wtI)) (wtS wtI) xs[i].rel.rows (k + sumW wtTab (xs.take i) + 1 + 1))]) (g := g) (fun h => hni0 (mem_idsL hx2 h))) hre2 (hap _ (fun q hq => mem_idsL hx2 hq) _)
    simp [dSl, cI, cReln, cS, cStr, cTab, mkS] at hse2 ⊢
    simp [hse2, hlt, hnn, nin_set hnn, idsL, D.ids, hni, hwi, mkS, ids_mk (wt := (wtS wtI)) (marksS marksI).ids]
    refine back (i + 1) (by omega) (by omega) rfl (by simp <;> omega) ?_ (by simp)
    simp [mkAt_succ hlt, e1, cI, cReln, cS, cStr, cTab, dSl]
    first
    | exact ⟨rfl, by omega⟩
    | (refine ⟨?_, by omega⟩; simp [mkI, mkReln, mkStr, mkTab, wtI, wtReln, wtStr, wtTab, mkS, Int.add_assoc, show ∀ x : Int, 1 + (1 + x) = 2 + x from fun x => by omega])
  · have hn : i = xs.length := by omega
    subst hn
    simp [dSl, vendX]
    refine ⟨[0], fun γ hs' h1 h2 => ?_⟩
    simp [mkS, mkAt_all]
theorem simT_Db {a : Db} (hw : whDb a) (k : Int) : Sim (cDb a) (cDb (mkTDb a k)) := sim_mk marksTab hw (k)
theorem w_laws_markDatabase (a : Db) (k : Int) (h0 : 1 ≤ k) (h1 : k + wtTDb a ≤ 4611686018427387904) (hw : whDb a) (hl : okDb a) (hnd : (idsL (cDb a)).Nodup) :
   VX Try.prog 27 (idsL (cDb a)) [.agg ((cDb a).map V.d), .d (.int .i64 k)] none (fun _ r _ ws => r = .d (.int .i64 (k + wtTDb a)) ∧ ws = cDb (mkTDb a k)) := by
  refine VX.of E s27 (by kernel_rfl) Try.func27 (by rfl) (by kernel_rfl) (by simp [Try.f27]) (by simp [Try.f27]) s27_ok ?_ ?_ fun B hB => ?_
  · exact fun g hg => .inl (by simpa [idsVL, V.ids, idsVL_map_d] using hg)
  · exact fun cs h => nomatch h
  have hwt : wtTDb a = wtS wtTab a.tabs := rfl
  have hnd0 := hnd
  simp only [cDb, idsL_app] at hnd0
  have nd0 : (idsL (cS cTab a.tabs)).Nodup := hnd0
  simp [Try.f27, cDb, cS]
  refine call_x (E92) (by simp) (by simp) (by simp) (fun q hq => .inr ?_) (w_laws_markTableS a.tabs (k) (by omega) (by omega) (hw) (hl) (by rw [← idsL_cS]; exact nd0)) fun n0 hs0 r cs' ws hn0 hm0 hp hr hws => ?_
  · simp only [idsL_app, idsL, List.append_nil, List.nil_append, List.append_assoc, List.mem_append, cDb, cS] at hq ⊢
    first | (simp [hq]; done) | (simp [D.ids] at hq ⊢; grind)
  obtain ⟨rfl, rfl⟩ := hp
  simp at hn0
  have hre0 : reL (phi ((dSl cTab a.tabs).ids) [dSl cTab (mkS (mkTab) (wtTab) a.tabs (k))]) (cS cTab a.tabs) = some (cS cTab (mkS (mkTab) (wtTab) a.tabs (k))) := by
    have := re_sim (sim_mk marksTab hw (k)) ((marksS marksTab).ids _ _) nd0
    rw [idsL_cS] at this
    exact this
  replace hre0 := reVL_map hre0
  simp only [cDb, cS, List.cons_append, List.nil_append, List.map_cons, List.map_nil, reVL_cons, reVL_nil, List.cons.injEq, and_true, reV_int, reV_str, true_and] at hre0
  simp [hre0, cDb, cS]
  simp [vendX]
  refine ⟨[0], fun γ hs' h1 h2 => ?_⟩
  simp [isD, dD, hwt, mkTDb, cDb, cS, reD]
  try omega

end Go.Proofs.Ytlmnjomekklnkaa

namespace Go.Proofs.Ytlmnjomekklnkaa
open Go.Vs Go.Proofs Go
set_option maxRecDepth 100000
set_option maxHeartbeats 1000000

attribute [simp] plI_id plStr_id map_plI map_plStr pS cP cI cStr cU8 cB
theorem w_impl_within (n lo hi : Int) : VC Try.prog 108 [.d (.int .i64 n), .d (.int .i64 lo), .d (.int .i64 hi)] (fun _ r => r = .d (.bool (inR n lo hi))) := by
  refine VC.ofL EP s108 (by kernel_rfl) Try.func108 (by rfl) (by kernel_rfl) (by simp [Try.f108]) (by simp [Try.f108]) s108_ok fun B hl => ?_
  by_cases h : lo ≤ n
  · simp [Try.f108, inR, h]
  · simp [Try.f108, inR, h]
theorem w_spec_l1In (n lo hi : Int) : VC Try.prog 110 [.d (.int .i64 n), .d (.int .i64 lo), .d (.int .i64 hi)] (fun _ r => r = .d (.bool (inR n lo hi))) := by
  refine VC.ofL EP s110 (by kernel_rfl) Try.func110 (by rfl) (by kernel_rfl) (by simp [Try.f110]) (by simp [Try.f110]) s110_ok fun B hl => ?_
  by_cases h : lo ≤ n
  · simp [Try.f110, inR, h]
  · simp [Try.f110, inR, h]
theorem w_impl_AreValidValues (xs : List Int) : VC Try.prog 182 [.d (pS cI xs)] (fun _ r => r = .d (.bool (valsOk xs))) := by
  refine VC.ofL EP s182 (by kernel_rfl) Try.func182 (by rfl) (by kernel_rfl) (by simp [Try.f182]) (by simp [Try.f182]) s182_ok fun B hl => ?_
  simp [pS, maxLen] at hl
  simp [Try.f182, pS]
  refine loop_rule (X := Nat) (fun i => i ≤ xs.length ∧ (xs.take i).all (fun v => inR v 0 99) = true) (fun i => [(5, .d (.pl (xs.map cI))), (6, .d (.int .i64 xs.length)), (7, .d (.int .i64 i))]) (fun _ => []) (fun i => xs.length - i) 0 (by simp) (by simp) (by simp) ?_
  intro i hs t m hi hh
  by_cases hlt : i < xs.length
  · have hwi := wr1 (i := i) (by omega)
    have hst := all_step (p := fun v => inR v 0 99) hlt
    rw [hi.2, Bool.true_and] at hst
    have hbad : inR xs[i] 0 99 = false → valsOk xs = false := all_bad (p := fun v => inR v 0 99) hlt
    simp [hlt, cI]
    refine call_f (w_impl_within xs[i] 0 99) (by simp) rfl fun hs1 hh1 => ?_
    cases hc : inR xs[i] 0 99
    · simp [hbad hc]
    · simp [hwi]
      simp at hh1
      exact back (i + 1) ⟨by omega, List.all_eq_true.1 (hst.trans hc)⟩ (by omega) rfl (by simp <;> omega) (by simp) (by simp)
  · have hd : valsOk xs = true := all_done (by omega) hi.2
    simp [hlt, hd]

end Go.Proofs.Ytlmnjomekklnkaa

namespace Go.Proofs.Ytlmnjomekklnkaa
open Go.Vs Go.Proofs Go
set_option maxRecDepth 100000
set_option maxHeartbeats 1000000

theorem w_spec_AreValidValues (xs : List Int) : VC Try.prog 176 [.d (pS cI xs)] (fun _ r => r = .d (.bool (valsOk xs))) := by
  refine VC.ofL EP s176 (by kernel_rfl) Try.func176 (by rfl) (by kernel_rfl) (by simp [Try.f176]) (by simp [Try.f176]) s176_ok fun B hl => ?_
  simp [pS, maxLen] at hl
  simp [Try.f176, pS]
  refine loop_rule (X := Nat) (fun i => i ≤ xs.length ∧ (xs.take i).all (fun v => inR v 0 99) = true) (fun i => [(0, .d (.pl (xs.map cI))), (3, .d (.int .i64 i))]) (fun _ => []) (fun i => xs.length - i) 0 (by simp) (by simp) (by simp) ?_
  intro i hs t m hi hh
  by_cases hlt : i < xs.length
  · have hwi := wr1 (i := i) (by omega)
    have hst := all_step (p := fun v => inR v 0 99) hlt
    rw [hi.2, Bool.true_and] at hst
    have hbad : inR xs[i] 0 99 = false → valsOk xs = false := all_bad (p := fun v => inR v 0 99) hlt
    simp [hlt, cI]
    refine call_f (w_spec_l1In xs[i] 0 99) (by simp) rfl fun hs1 hh1 => ?_
    simp at hh1
    cases hc : inR xs[i] 0 99
    · simp [hbad hc]
    · simp [hwi]
      exact back (i + 1) ⟨by omega, List.all_eq_true.1 (hst.trans hc)⟩ (by omega) rfl (by simp <;> omega) (by simp) (by simp)
  · have hd : valsOk xs = true := all_done (by omega) hi.2
    simp [hlt, hd]
theorem w_spec_CompareRows (a b : List Int) : VC Try.prog 125 [.d (pS cI a), .d (pS cI b)] (fun _ r => r = .d (.int .i64 (cmpL a b))) := by
  refine VC.ofL EP s125 (by kernel_rfl) Try.func125 (by rfl) (by kernel_rfl) (by simp [Try.f125]) (by simp [Try.f125]) s125_ok fun B hl => ?_
  simp [pS, maxLen, cI] at hl
  simp [Try.f125, s125_4, s125_6, pS]
  refine loop_rule (X := Nat) (fun i => i ≤ a.length ∧ i ≤ b.length ∧ cmpL a b = cmpL (a.drop i) (b.drop i)) (fun i => [(0, .d (.pl (a.map cI))), (1, .d (.pl (b.map cI))), (5, .d (.int .i64 i))]) (fun _ => []) (fun i => a.length - i) 0 (by simp) (by simp) (by simp) ?_
  intro i hs t m hi hh
  by_cases hlt : i < a.length
  · by_cases hlb : i < b.length
    · have hwi := wr1 (i := i) (by omega)
      have hc := cmpL_drop hlt hlb
      rw [← hi.2.2] at hc
      by_cases h1 : a[i] < b[i]
      · simp [cI, s125_4, s125_6, hlt, hlb, h1, hc]
      · by_cases h2 : b[i] < a[i]
        · simp [cI, s125_4, s125_6, hlt, hlb, h1, h2, hc]
        · simp only [h1, h2, if_false] at hc
          simp [cI, s125_4, s125_6, hlt, hlb, h1, h2, hwi]
          exact back (i + 1) ⟨by omega, by omega, hc⟩ (by omega) rfl (by simp) (by simp) (by simp)
    · have he := cmpL_end hi.1 hi.2.1 (by omega)
      rw [← hi.2.2] at he
      by_cases h1 : a.length < b.length
      · simp [hlt, hlb, h1, he]
      · by_cases h2 : b.length < a.length <;> simp [hlt, hlb, h1, h2, he]
  · have he := cmpL_end hi.1 hi.2.1 (by omega)
    rw [← hi.2.2] at he
    by_cases h1 : a.length < b.length
    · simp [hlt, h1, he]
    · by_cases h2 : b.length < a.length <;> simp [hlt, h1, h2, he]
theorem w_impl_compareInts (x y : Int) : VC Try.prog 197 [.d (.int .i64 x), .d (.int .i64 y)] (fun _ r => r = .d (.int .i64 (if x < y then -1 else if y < x then 1 else 0))) := by
  refine VC.ofL EP s197 (by kernel_rfl) Try.func197 (by rfl) (by kernel_rfl) (by simp [Try.f197]) (by simp [Try.f197]) s197_ok fun B hl => ?_
  by_cases h1 : x < y
  · simp [Try.f197, h1]
  · by_cases h2 : y < x <;> simp [Try.f197, h1, h2]
theorem w_impl_CompareRows (a b : List Int) : VC Try.prog 183 [.d (pS cI a), .d (pS cI b)] (fun _ r => r = .d (.int .i64 (cmpL a b))) := by
  refine VC.ofL EP s183 (by kernel_rfl) Try.func183 (by rfl) (by kernel_rfl) (by simp [Try.f183]) (by simp [Try.f183]) s183_ok fun B hl => ?_
  simp [pS, maxLen, cI] at hl
  simp [Try.f183, s183_4, s183_5, pS]
  refine loop_rule (X := Nat) (fun i => i ≤ a.length ∧ i ≤ b.length ∧ cmpL a b = cmpL (a.drop i) (b.drop i)) (fun i => [(0, .d (.pl (a.map cI))), (1, .d (.pl (b.map cI))), (5, .d (.int .i64 i))]) (fun _ => []) (fun i => a.length - i) 0 (by simp) (by simp) (by simp) ?_
  intro i hs t m hi hh
  by_cases hlt : i < a.length ∧ i < b.length
  · obtain ⟨hlt, hlb⟩ := hlt
    have hwi := wr1 (i := i) (by omega)
    have hc := cmpL_drop hlt hlb
    rw [← hi.2.2] at hc
    by_cases he : a[i] = b[i]
    · rw [if_neg (by omega), if_neg (by omega)] at hc
      simp [cI, s183_4, s183_5, hlt, hlb, hwi, he]
      exact back (i + 1) ⟨by omega, by omega, hc⟩ (by omega) rfl (by simp) (by simp) (by simp)
    · simp [cI, s183_4, s183_5, hlt, hlb, hwi, he]
      refine call_f (w_impl_compareInts a[i] b[i]) (by simp) rfl fun hs1 hh1 => ?_
      have : (if a[i] < b[i] then (-1 : Int) else if b[i] < a[i] then 1 else 0) = cmpL a b := by rw [hc]; by_cases h1 : a[i] < b[i] <;> simp [h1]; omega
      simp [this]
  · have he := cmpL_end hi.1 hi.2.1 hlt
    rw [← hi.2.2] at he
    have hcm : (if (a.length : Int) < b.length then (-1 : Int) else if (b.length : Int) < a.length then 1 else 0) = cmpL a b := by rw [he]; simp
    by_cases hl1 : i < a.length
    · have hl2 : ¬ i < b.length := fun h => hlt ⟨hl1, h⟩
      simp [hl1, hl2]
      refine call_f (w_impl_compareInts a.length b.length) (by simp) rfl fun hs1 hh1 => ?_
      simp only [hcm]
      simp
    · simp [hl1]
      refine call_f (w_impl_compareInts a.length b.length) (by simp) rfl fun hs1 hh1 => ?_
      simp only [hcm]
      simp

end Go.Proofs.Ytlmnjomekklnkaa

namespace Go.Proofs.Ytlmnjomekklnkaa
open Go.Vs Go.Proofs Go
set_option maxRecDepth 100000
set_option maxHeartbeats 1000000

theorem w_impl_rowsValid (ar : Int) (l : List (List Int)) : VC Try.prog 144 [.d (.int .i64 ar), .d (pS (cP cI) l)] (fun _ r => r = .d (.bool (rowsOk ar l))) := by
  refine VC.ofL EP s144 (by kernel_rfl) Try.func144 (by rfl) (by kernel_rfl) (by simp [Try.f144]) (by simp [Try.f144]) s144_ok fun B hl => ?_
  simp [pS, cP, cI, maxLen] at hl
  simp [Try.f144, pS]
  refine call_f (w_impl_within ar 0 5) (by simp) rfl fun hs0 hh0 => ?_
  simp at hh0
  cases h1 : inR ar 0 5
  · simp [rowsOk, h1]
  by_cases h2 : (4000 : Int) < l.length
  · simp [rowsOk, h2, show ¬ l.length ≤ 4000 by omega]
  have h2' : l.length ≤ 4000 := by omega
  simp [h2]
  refine loop_rule (X := Nat) (fun i => i ≤ l.length ∧ ∀ j, j < i → rowOk ar l j = true) (fun i => [(0, .d (.int .i64 ar)), (1, .d (.pl (l.map (cP cI)))), (15, .d (.pl (l.map (cP cI)))), (16, .d (.int .i64 l.length)), (17, .d (.int .i64 i))]) (fun _ => []) (fun i => l.length - i) 0 (by simp) (by simp) (by simp) ?_
  intro i hs t m hi hh
  by_cases hlt : i < l.length
  · have hwi := wr1 (i := i) (by omega)
    have hr : rowOk ar l i = (decide ((l[i].length : Int) = ar) && valsOk l[i] && (i == 0 || decide (cmpL (l.getD (i - 1) []) l[i] < 0))) := by simp [rowOk, hlt]
    have hbad := fun h => rows_bad (ar := ar) hlt h
    have step : rowOk ar l i = true → ∀ j, j < i + 1 → rowOk ar l j = true := fun h j hj => by
      rcases Nat.lt_succ_iff_lt_or_eq.1 hj with h' | h'
      · exact hi.2 j h'
      · rw [h']; exact h
    by_cases c1 : (l[i].length : Int) = ar
    case neg => simp [hlt, cP, pS, c1, hbad (by rw [hr]; simp [c1])]
    simp [hlt, cP, pS, c1]
    refine call_f (w_impl_AreValidValues l[i]) (by simp [pS]) rfl fun hs1 hh1 => ?_
    simp at hh1
    cases c2 : valsOk l[i]
    · simp [hbad (by rw [hr]; simp [c2])]
    by_cases c3 : i = 0
    · subst c3
      simp [hwi, show IntKind.i64.wrap 1 = 1 by decide]
      exact back 1 ⟨by omega, step (by rw [hr]; simp [c1, c2])⟩ (by omega) rfl (by simp <;> omega) (by simp [cP, pS, show IntKind.i64.wrap 1 = 1 by decide]) (by simp)
    · have hw1 : IntKind.i64.wrap ((i : Int) - 1) = ((i - 1 : Nat) : Int) := by rw [wrap64_of (by omega) (by omega)]; omega
      have hip : (0 : Int) < i := by omega
      have hlt1 : i - 1 < l.length := by omega
      have hg1 : l.getD (i - 1) [] = l[i - 1] := by simp [hlt1]
      rw [hg1] at hr
      simp [hip, hw1, hlt1, cP, pS, c3, show 0 < i by omega]
      refine call_f (w_impl_CompareRows l[i - 1] l[i]) (by simp [pS]) rfl fun hs2 hh2 => ?_
      simp at hh2
      by_cases c4 : cmpL l[i - 1] l[i] < 0
      · simp [hwi, show ¬ 0 ≤ cmpL l[i - 1] l[i] by omega]
        exact back (i + 1) ⟨by omega, step (by rw [hr]; simp [c1, c2, c4])⟩ (by omega) rfl (by simp <;> omega) (by simp [cP, pS]) (by simp)
      · simp [show 0 ≤ cmpL l[i - 1] l[i] by omega, hbad (by rw [hr]; simp [c3, c4])]
  · have hn : i = l.length := by omega
    have hd := rows_done h1 h2' (hn ▸ hi.2)
    simp [hlt, hd]
theorem w_impl_IsValidRelation (r : PReln) : VC Try.prog 172 [.agg ((eReln r).map .d)] (fun _ v => v = .d (.bool (rowsOk r.ar r.rows))) := by
  refine VC.ofL EP s172 (by kernel_rfl) Try.func172 (by rfl) (by kernel_rfl) (by simp [Try.f172]) (by simp [Try.f172]) s172_ok fun B hl => ?_
  simp [Try.f172, eReln, cI, cP]
  refine call_f (w_impl_rowsValid r.ar r.rows) (by simp [pS, cP]) rfl fun hs0 hh0 => ?_
  simp
theorem w_spec_IsValidRelation (r : PReln) : VC Try.prog 116 [.agg ((eReln r).map .d)] (fun _ v => v = .d (.bool (rowsOk r.ar r.rows))) := by
  obtain ⟨ar, l⟩ := r
  refine VC.ofL EP s116 (by kernel_rfl) Try.func116 (by rfl) (by kernel_rfl) (by simp [Try.f116]) (by simp [Try.f116]) s116_ok fun B hl => ?_
  simp [eReln, pS, cP, cI, maxLen] at hl
  simp [Try.f116, s116_6, eReln, cI, cP, pS]
  refine call_f (w_spec_l1In ar 0 5) (by simp) rfl fun hs0 hh0 => ?_
  simp at hh0
  cases h1 : inR ar 0 5
  · simp [rowsOk, h1]
  by_cases h2 : (4000 : Int) < l.length
  · simp [rowsOk, h2, show ¬ l.length ≤ 4000 by omega]
  have h2' : l.length ≤ 4000 := by omega
  simp [h2]
  refine loop_rule (X := Nat) (fun i => i ≤ l.length ∧ ∀ j, j < i → rowOk ar l j = true) (fun i => [(1, .ptr 1 0 0), (3, .d (.int .i64 i))]) (fun _ => [(1, some (.box [.d (.int .i64 ar), .d (.pl (l.map fun xs => [.pl (xs.map cI)]))]))]) (fun i => l.length - i) 0 (by simp) (by simp) (by simp [cI, cP, pS]) ?_
  intro i hs t m hi hh
  by_cases hlt : i < l.length
  · have hwi := wr1 (i := i) (by omega)
    have hr : rowOk ar l i = (decide ((l[i].length : Int) = ar) && valsOk l[i] && (i == 0 || decide (cmpL (l.getD (i - 1) []) l[i] < 0))) := by simp [rowOk, hlt]
    have hbad := fun h => rows_bad (ar := ar) hlt h
    have step : rowOk ar l i = true → ∀ j, j < i + 1 → rowOk ar l j = true := fun h j hj => by
      rcases Nat.lt_succ_iff_lt_or_eq.1 hj with h' | h'
      · exact hi.2 j h'
      · rw [h']; exact h
    by_cases c1 : (l[i].length : Int) = ar
    case neg => simp [hlt, s116_6, c1, hbad (by rw [hr]; simp [c1])]
    simp [hlt, s116_6, c1]
    refine call_f (w_spec_AreValidValues l[i]) (by simp [pS]) rfl fun hs1 hh1 => ?_
    simp at hh1
    cases c2 : valsOk l[i]
    · simp [hbad (by rw [hr]; simp [c2])]
    by_cases c3 : i = 0
    · subst c3
      simp [hwi, show IntKind.i64.wrap 1 = 1 by decide]
      exact back 1 ⟨by omega, step (by rw [hr]; simp [c1, c2])⟩ (by omega) rfl (by simp <;> omega) (by simp [show IntKind.i64.wrap 1 = 1 by decide]) (by simp)
    · have hw1 : IntKind.i64.wrap ((i : Int) - 1) = ((i - 1 : Nat) : Int) := by rw [wrap64_of (by omega) (by omega)]; omega
      have hip : (0 : Int) < i := by omega
      have hlt1 : i - 1 < l.length := by omega
      have hg1 : l.getD (i - 1) [] = l[i - 1] := by simp [hlt1]
      rw [hg1] at hr
      simp [hip, hw1, hlt1, hlt, c3, show 0 < i by omega]
      refine call_f (w_spec_CompareRows l[i - 1] l[i]) (by simp [pS]) rfl fun hs2 hh2 => ?_
      simp at hh2
      by_cases c4 : cmpL l[i - 1] l[i] < 0
      · simp [hwi, show ¬ 0 ≤ cmpL l[i - 1] l[i] by omega]
        exact back (i + 1) ⟨by omega, step (by rw [hr]; simp [c1, c2, c4])⟩ (by omega) rfl (by simp <;> omega) (by simp) (by simp)
      · simp [show 0 ≤ cmpL l[i - 1] l[i] by omega, hbad (by rw [hr]; simp [c3, c4])]
  · have hn : i = l.length := by omega
    have hd := rows_done h1 h2' (hn ▸ hi.2)
    simp [hlt, hd]

end Go.Proofs.Ytlmnjomekklnkaa

namespace Go.Proofs.Ytlmnjomekklnkaa
open Go.Vs Go.Proofs Go
set_option maxRecDepth 100000
set_option maxHeartbeats 1000000

theorem w_impl_place (l : List (List Int)) (row : List Int) (hb : l.length ≤ 4294967296) : VC Try.prog 145 [.d (pS (cP cI) l), .d (pS cI row)] (fun _ v => v = .tup [.d (.int .i64 (placeK l row)), .d (.bool (placeB l row))]) := by
  refine VC.ofL EP s145 (by kernel_rfl) Try.func145 (by rfl) (by kernel_rfl) (by simp [Try.f145]) (by simp [Try.f145]) s145_ok fun B hl => ?_
  simp [pS, cP, cI, maxLen] at hl
  simp [Try.f145, pS]
  refine loop_rule (X := Nat × Nat) (fun p => p.1 ≤ p.2 ∧ p.2 ≤ l.length ∧ bs l row p.1 p.2 = placeK l row) (fun p => [(0, .d (.pl (l.map (cP cI)))), (1, .d (.pl (row.map cI))), (6, .d (.int .i64 p.1)), (7, .d (.int .i64 p.2))]) (fun _ => []) (fun p => p.2 - p.1) (0, l.length) (by simp; rfl) (by simp) (by simp) ?_
  rintro ⟨lo, hi⟩ hs t m ⟨h1, h2, h3⟩ hh
  simp only at h1 h2 h3
  by_cases hlt : lo < hi
  · rw [bs_lt hlt] at h3
    have hm := mid64 (a := lo) (b := hi) (by omega) (by omega)
    have hml : (lo + hi) / 2 < l.length := by omega
    have hk1 : lo ≤ (lo + hi) / 2 ∧ (lo + hi) / 2 < hi := by omega
    generalize (lo + hi) / 2 = k at *
    have hg : l.getD k [] = l[k] := by simp [hml]
    simp [hlt, hm, hml, cP, pS]
    refine call_f (w_impl_CompareRows l[k] row) (by simp [pS]) rfl fun hs1 hh1 => ?_
    simp at hh1
    rw [hg] at h3
    by_cases hc : cmpL l[k] row < 0
    · rw [if_pos hc] at h3
      have hw := wr1 (i := k) (by omega)
      simp [hc, hw]
      exact back (k + 1, hi) ⟨by simp; omega, h2, h3⟩ (by simp; omega) rfl (by simp <;> omega) (by simp [cP, pS]) (by simp)
    · rw [if_neg hc] at h3
      simp [hc]
      exact back (lo, k) ⟨by simp; omega, by simp; omega, h3⟩ (by simp; omega) rfl (by simp <;> omega) (by simp [cP, pS]) (by simp)
  · rw [bs_ge hlt] at h3
    subst h3
    by_cases hk : placeK l row < l.length
    · simp [hlt, hk, cP, pS]
      refine call_f (w_impl_CompareRows l[placeK l row] row) (by simp [pS]) rfl fun hs1 hh1 => ?_
      simp [placeB, hk]
    · simp [hlt, hk, placeB]
theorem w_spec_l5Place (r : PReln) (row : List Int) (hb : r.rows.length ≤ 4294967296) : VC Try.prog 146 [.agg ((eReln r).map .d), .d (pS cI row)] (fun _ v => v = .tup [.d (.int .i64 (placeK r.rows row)), .d (.bool (placeB r.rows row))]) := by
  obtain ⟨ar, l⟩ := r
  simp only at hb ⊢
  refine VC.ofL EP s146 (by kernel_rfl) Try.func146 (by rfl) (by kernel_rfl) (by simp [Try.f146]) (by simp [Try.f146]) s146_ok fun B hl => ?_
  simp [eReln, pS, cP, cI, maxLen] at hl
  simp [Try.f146, eReln, cI, cP, pS]
  refine loop_rule (X := Nat × Nat) (fun p => p.1 ≤ p.2 ∧ p.2 ≤ l.length ∧ bs l row p.1 p.2 = placeK l row) (fun p => [(2, .ptr 2 0 0), (1, .d (.pl (row.map cI))), (6, .d (.int .i64 p.1)), (7, .d (.int .i64 p.2))]) (fun _ => [(2, some (.box [.d (.int .i64 ar), .d (.pl (l.map (cP cI)))]))]) (fun p => p.2 - p.1) (0, l.length) (by simp; rfl) (by simp [cI]) (by simp [cP, pS, cI]) ?_
  rintro ⟨lo, hi⟩ hs t m ⟨h1, h2, h3⟩ hh
  simp only at h1 h2 h3
  by_cases hlt : lo < hi
  · rw [bs_lt hlt] at h3
    have hm := mid64 (a := lo) (b := hi) (by omega) (by omega)
    have hml : (lo + hi) / 2 < l.length := by omega
    have hk1 : lo ≤ (lo + hi) / 2 ∧ (lo + hi) / 2 < hi := by omega
    generalize (lo + hi) / 2 = k at *
    have hg : l.getD k [] = l[k] := by simp [hml]
    simp [hlt, hm, hml, cP, pS]
    refine call_f (w_spec_CompareRows l[k] row) (by simp [pS]) rfl fun hs1 hh1 => ?_
    simp at hh1
    rw [hg] at h3
    by_cases hc : cmpL l[k] row < 0
    · rw [if_pos hc] at h3
      have hw := wr1 (i := k) (by omega)
      simp [hc, hw]
      exact back (k + 1, hi) ⟨by simp; omega, h2, h3⟩ (by simp; omega) rfl (by simp <;> omega) (by simp [cP, pS]) (by simp [cP, pS])
    · rw [if_neg hc] at h3
      simp [hc]
      exact back (lo, k) ⟨by simp; omega, by simp; omega, h3⟩ (by simp; omega) rfl (by simp <;> omega) (by simp [cP, pS]) (by simp [cP, pS])
  · rw [bs_ge hlt] at h3
    subst h3
    by_cases hk : placeK l row < l.length
    · simp [hlt, hk, cP, pS]
      refine call_f (w_spec_CompareRows l[placeK l row] row) (by simp [pS]) rfl fun hs1 hh1 => ?_
      simp [placeB, hk]
    · simp [hlt, hk, placeB]
theorem w_impl_IsValidCounted (c : PCnt) : VC Try.prog 73 [.agg ((eCnt c).map .d)] (fun _ v => v = .d (.bool (cntsOk c))) := by
  obtain ⟨ar, l, cs⟩ := c
  refine VC.ofL EP s73 (by kernel_rfl) Try.func73 (by rfl) (by kernel_rfl) (by simp [Try.f73]) (by simp [Try.f73]) s73_ok fun B hl => ?_
  simp [eCnt, pS, cP, cI, maxLen] at hl
  simp [Try.f73, eCnt, cI, cP, pS]
  refine call_f (w_impl_rowsValid ar l) (by simp [pS, cP, cI]) rfl fun hs0 hh0 => ?_
  simp at hh0
  cases h1 : rowsOk ar l
  · simp [cntsOk, h1]
  by_cases h2 : cs.length = l.length
  case neg => simp [h2, cntsOk, show ¬ l.length = cs.length by omega]
  simp [h2]
  refine loop_rule (X := Nat) (fun i => i ≤ cs.length ∧ (cs.take i).all cntOk = true) (fun i => [(21, .d (.pl (cs.map cI))), (22, .d (.int .i64 cs.length)), (23, .d (.int .i64 i))]) (fun _ => []) (fun i => cs.length - i) 0 (by simp) (by simp [cI, h2]) (by simp) ?_
  intro i hs t m hi hh
  by_cases hlt : i < cs.length
  · have hwi := wr1 (i := i) (by omega)
    have hst := all_step (p := cntOk) hlt
    rw [hi.2, Bool.true_and] at hst
    have hbad : cntOk cs[i] = false → cntsOk ⟨ar, l, cs⟩ = false := fun h => by simp only [cntsOk]; rw [all_bad (p := cntOk) hlt h]; simp
    by_cases h0 : cs[i] = 0
    · simp [hlt, cI, h0, hbad (by simp [cntOk, h0])]
    simp [hlt, cI, h0]
    refine call_f (w_impl_within cs[i] (-1000000) 1000000) (by simp) rfl fun hs1 hh1 => ?_
    simp at hh1
    cases hc : inR cs[i] (-1000000) 1000000
    · simp [hbad (by simp [cntOk, hc])]
    · simp [hwi]
      exact back (i + 1) ⟨by omega, List.all_eq_true.1 (hst.trans (by simp [cntOk, hc, h0]))⟩ (by omega) rfl (by simp <;> omega) (by simp [cI]) (by simp)
  · have hd : cs.all cntOk = true := all_done (by omega) hi.2
    have hf : cntsOk ⟨ar, l, cs⟩ = true := by simp only [cntsOk]; rw [hd]; simp [h1, h2]
    simp [hlt, hf]
theorem w_spec_IsValidCounted (c : PCnt) : VC Try.prog 74 [.agg ((eCnt c).map .d)] (fun _ v => v = .d (.bool (cntsOk c))) := by
  obtain ⟨ar, l, cs⟩ := c
  refine VC.ofL EP s74 (by kernel_rfl) Try.func74 (by rfl) (by kernel_rfl) (by simp [Try.f74]) (by simp [Try.f74]) s74_ok fun B hl => ?_
  simp [eCnt, pS, cP, cI, maxLen] at hl
  by_cases h2 : l.length = cs.length
  case neg => simp [Try.f74, eCnt, cI, cP, pS, h2, cntsOk]
  simp [Try.f74, eCnt, cI, cP, pS, h2]
  refine call_f (w_spec_IsValidRelation ⟨ar, l⟩) (by simp [eReln, pS, cP, cI]) rfl fun hs0 hh0 => ?_
  simp at hh0
  cases h1 : rowsOk ar l
  · simp [cntsOk, h1]
  simp
  refine loop_rule (X := Nat) (fun i => i ≤ cs.length ∧ (cs.take i).all cntOk = true) (fun i => [(1, .ptr 1 0 0), (3, .d (.int .i64 i))]) (fun _ => [(1, some (.box [.d (.int .i64 ar), .d (.pl (l.map (cP cI))), .d (.pl (cs.map cI))]))]) (fun i => cs.length - i) 0 (by simp) (by simp) (by simp [cI, cP, pS]) ?_
  intro i hs t m hi hh
  by_cases hlt : i < cs.length
  · have hwi := wr1 (i := i) (by omega)
    have hst := all_step (p := cntOk) hlt
    rw [hi.2, Bool.true_and] at hst
    have hbad : cntOk cs[i] = false → cntsOk ⟨ar, l, cs⟩ = false := fun h => by simp only [cntsOk]; rw [all_bad (p := cntOk) hlt h]; simp
    by_cases h0 : cs[i] = 0
    · simp [hlt, cI, h0, hbad (by simp [cntOk, h0])]
    simp [hlt, cI, h0]
    refine call_f (w_spec_l1In cs[i] (-1000000) 1000000) (by simp) rfl fun hs1 hh1 => ?_
    simp at hh1
    cases hc : inR cs[i] (-1000000) 1000000
    · simp [hbad (by simp [cntOk, hc])]
    · simp [hwi]
      exact back (i + 1) ⟨by omega, List.all_eq_true.1 (hst.trans (by simp [cntOk, hc, h0]))⟩ (by omega) rfl (by simp <;> omega) (by simp [cI]) (by simp [cI])
  · have hd : cs.all cntOk = true := all_done (by omega) hi.2
    have hf : cntsOk ⟨ar, l, cs⟩ = true := by simp only [cntsOk]; rw [hd]; simp [h1, h2]
    simp [hlt, hf]

end Go.Proofs.Ytlmnjomekklnkaa

namespace Go.Proofs.Ytlmnjomekklnkaa
open Go.Vs Go.Proofs Go
set_option maxRecDepth 100000
set_option maxHeartbeats 1000000

section
attribute [local simp] plI_id plStr_id map_plI map_plStr pS cP cI cStr cU8 cB
theorem w_impl_join (l : List (List UInt8)) (sep : List UInt8) (hw : strW sep.length l ≤ 4611686018427387904) : VC Try.prog 174 [.d (pS cStr l), .d (.str sep)] (fun _ r => r = .d (.str (joinB sep l))) := by
  refine VC.ofL EP s174 (by kernel_rfl) Try.func174 (by rfl) (by kernel_rfl) (by simp [Try.f174]) (by simp [Try.f174]) s174_ok fun B hl => ?_
  simp [pS, maxLen] at hl
  simp [Try.f174, ]
  refine loop_rule (X := Nat) (fun i => i ≤ l.length) (fun i => [(1, .d (.str sep)), (5, .d (.str (joinB sep (l.take i)))), (8, .d (.pl (l.map cStr))), (9, .d (.int .i64 l.length)), (10, .d (.int .i64 i))]) (fun _ => []) (fun i => l.length - i) 0 (by simp) (by simp [joinB]) (by simp) ?_
  intro i hs t m hi hh
  by_cases hlt : i < l.length
  · have hwi := wr1 (i := i) (by omega)
    have h1 := joinB_len sep (l.take i)
    have h2 := strW_at (s := sep.length) hlt
    have hst := joinB_step (sep := sep) hlt
    by_cases h0 : i = 0
    · subst h0
      have hwi0 : IntKind.i64.wrap 1 = 1 := by simpa using hwi
      have hst0 : joinB sep (l.take 1) = l[0] := by simpa [joinB] using hst
      have j0 : joinB sep [] = [] := rfl
      simp [hlt, hwi0, j0, ]
      refine ⟨by omega, ?_⟩
      exact back 1 (by omega) (by omega) rfl (by simp <;> omega) (by simp [hst0]) (by simp)
    · have h0' : 0 < i := by omega
      simp only [h0, if_false] at hst
      simp [hlt, h0, h0', hwi, ]
      refine ⟨by omega, by omega, ?_⟩
      exact back (i + 1) (by omega) (by omega) rfl (by simp <;> omega) (by simp [hst]) (by simp)
  · simp [hlt, List.take_of_length_le (show l.length ≤ i by omega)]
end

end Go.Proofs.Ytlmnjomekklnkaa

namespace Go.Proofs.Ytlmnjomekklnkaa
open Go.Vs Go.Proofs Go
set_option maxRecDepth 100000
set_option maxHeartbeats 1000000

section
attribute [local simp] plI_id plStr_id map_plI map_plStr pS cP cI cStr cU8 cB
theorem w_impl_FormatInt (n : Int) (hn : inZ n) : VC Try.prog 100 [.d (.int .i64 n)] (fun _ r => r = .d (.str (decZ n))) := by
  refine VC.ofL EP s100 (by kernel_rfl) Try.func100 (by rfl) (by kernel_rfl) (by simp [Try.f100]) (by simp [Try.f100]) s100_ok fun B hl => ?_
  simp only [inZ] at hn
  obtain ⟨neg, hneg⟩ : ∃ b : Bool, b = decide (n < 0) := ⟨_, rfl⟩
  simp [Try.f100, ]
  rw [← hneg]
  refine loop_ruleL (X := Int × List UInt8) (fun p _ => (-9223372036854775808 ≤ p.1 ∧ p.1 ≤ 9223372036854775807) ∧ (p.1 ≠ 0 ∨ p.2 = []) ∧ decN n.natAbs = decN p.1.natAbs ++ p.2) (fun p => [(0, .d (.int .i64 p.1)), (3, .d (.pl (p.2.map cU8))), (4, .d (.bool neg))]) (fun _ => []) (fun p => p.1.natAbs) ?_ ?_
  · refine (lead_slot 3 17 5 1 (by omega) (by omega) (by simp)).bind ?_
    rintro _ rfl
    refine (lead_frp 17 (T := 5) (sz := 1) (es := []) (by simp)).bind ?_
    rintro _ rfl
    exact Lead.of ⟨(n, []), ⟨hn, .inr rfl, by simp⟩, rfl, rfl, Nat.le_refl _, by simp [hneg], by simp⟩
  rintro ⟨p, ds⟩ hs t m ⟨hp, hp0, hd⟩ hh
  simp only at hp hp0 hd
  have hl20 : (decN n.natAbs).length ≤ 20 := decN_len20 (by omega)
  rw [hd, List.length_append] at hl20
  have hm : (p.tmod 10).natAbs = p.natAbs % 10 := by rw [Int.natAbs_tmod]; rfl
  have hq : (p.tdiv 10).natAbs = p.natAbs / 10 := by rw [Int.natAbs_tdiv]; rfl
  have hwq : IntKind.i64.wrap (p.tdiv 10) = p.tdiv 10 := wrap64_of (by omega) (by omega)
  obtain ⟨q, hqe⟩ : ∃ q, q = p.tdiv 10 := ⟨_, rfl⟩
  obtain ⟨r, hre⟩ : ∃ r, r = p.tmod 10 := ⟨_, rfl⟩
  obtain ⟨e, hee⟩ : ∃ e, e = p.natAbs % 10 := ⟨_, rfl⟩
  rw [← hqe] at hq hwq
  rw [← hre, ← hee] at hm
  have he10 : e < 10 := by omega
  have hw48 : IntKind.i64.wrap (48 + (e : Int)) = 48 + e := wrap64_of (by omega) (by omega)
  have hw8 : IntKind.u8.wrap (48 + (e : Int)) = 48 + e := by
    rw [IntKind.wrap_u8]; omega
  obtain ⟨g, hg⟩ : ∃ g : UInt8, g = UInt8.ofNat (48 + e) := ⟨_, rfl⟩
  have hc8 : ((g.toNat : Nat) : Int) = 48 + e := by
    have : g.toNat = 48 + e := by rw [hg]; simp; omega
    rw [this]; simp
  have hL : LenOk 1 (1 + ds.length) := ⟨by omega, by simp only [maxLen]; omega⟩
  have hst : ¬ q = 0 → decN n.natAbs = decN q.natAbs ++ g :: ds := fun h => by
    rw [hd, hq, decN_ge (by omega), hg, hee]; simp
  have hfin : q = 0 → decN n.natAbs = g :: ds := fun h => by
    have : p.natAbs < 10 := by omega
    rw [hd, decN_lt this, hg, hee, Nat.mod_eq_of_lt this]; rfl
  have hout : q = 0 → decZ n = if neg then 45 :: g :: ds else g :: ds := fun h => by
    rw [decZ, hfin h, hneg]; simp
  have hback : ¬ q = 0 → q.natAbs < p.natAbs := fun h => by omega
  have hL2 : LenOk 1 (ds.length + 1) := by rw [Nat.add_comm]; exact hL
  have he0 : ¬ (e : Int) < 0 := by omega
  have hw0z : IntKind.i64.wrap 0 = 0 := wrap64_of (by omega) (by omega)
  have a1 : 1 + ds.length = ds.length + 1 := Nat.add_comm _ _
  have hB1 : toB [D.int IntKind.u8 (48 + (e : Int))] = g := by
    have : (48 + (e : Int)).toNat = 48 + e := by omega
    rw [hg]; simp only [toB, this]
  have hB2 : ds.map (toB ∘ cU8) = ds := by
    have : (toB ∘ cU8) = id := by funext b; simp [toB, cU8]
    rw [this, List.map_id]
  have hB3 : ∀ x ∈ ([D.int IntKind.u8 (48 + (e : Int))] :: ds.map cU8), isB x = true := fun x hx => by
    rcases List.mem_cons.1 hx with h | h
    · subst h; rfl
    · obtain ⟨b, _, rfl⟩ := List.mem_map.1 h; rfl
  have hB4 : ∀ x ∈ ds, isB (cU8 x) = true := fun x _ => rfl
  have hB5 : isB [D.int IntKind.u8 (48 + (e : Int))] = true := rfl
  have hlen2 : 1 + (ds.length + 1) ≤ 9223372036854775807 := by omega
  by_cases h0 : r < 0
  · have hwn : IntKind.i64.wrap (-r) = e := by rw [wrap64_of (by omega) (by omega)]; omega
    by_cases hz : q = 0
    · have ho := hout hz
      cases hn2 : neg
      · simp [hn2] at ho
        simp [← hre, ← hqe, h0, hwn, hw48, hw8, hwq, hz, hw0z, hL2, ho, hn2, hc8, a1, hB1, hB2, hB4, hB5, List.take_of_length_le, ]
        exact fun x hx => rfl
      · simp [hn2] at ho
        simp [← hre, ← hqe, h0, hwn, hw48, hw8, hwq, hz, hw0z, hL2, ho, hn2, hc8, a1, hB1, hB2, hB4, hB5, hlen2, List.take_of_length_le, ]
        exact fun x hx => rfl
    · simp [← hre, ← hqe, h0, hwn, hw48, hw8, hwq, hz, hL, hc8, ]
      refine Back2.lead (lead_frp 17 (T := 5) (sz := 1) (es := [D.int IntKind.u8 (48 + (e : Int))] :: ds.map cU8) (by simp)) ?_
      rintro _ rfl
      refine back2 (q, g :: ds) ⟨by simp only; omega, .inl hz, hst hz⟩ (hback hz) rfl (by simp <;> omega) (by simp [hc8, a1, List.take_of_length_le]) (by simp)
  · have hr2 : r = (e : Int) := by omega
    by_cases hz : q = 0
    · have ho := hout hz
      cases hn2 : neg
      · simp [hn2] at ho
        simp [← hre, ← hqe, h0, hr2, he0, hw48, hw8, hwq, hz, hw0z, hL2, ho, hn2, hc8, a1, hB1, hB2, hB4, hB5, List.take_of_length_le, ]
        exact fun x hx => rfl
      · simp [hn2] at ho
        simp [← hre, ← hqe, h0, hr2, he0, hw48, hw8, hwq, hz, hw0z, hL2, ho, hn2, hc8, a1, hB1, hB2, hB4, hB5, hlen2, List.take_of_length_le, ]
        exact fun x hx => rfl
    · simp [← hre, ← hqe, h0, hr2, he0, hw48, hw8, hwq, hz, hL, hc8, ]
      refine Back2.lead (lead_frp 17 (T := 5) (sz := 1) (es := [D.int IntKind.u8 (48 + (e : Int))] :: ds.map cU8) (by simp)) ?_
      rintro _ rfl
      refine back2 (q, g :: ds) ⟨by simp only; omega, .inl hz, hst hz⟩ (hback hz) rfl (by simp <;> omega) (by simp [hc8, a1, List.take_of_length_le]) (by simp)
end

end Go.Proofs.Ytlmnjomekklnkaa

namespace Go.Proofs.Ytlmnjomekklnkaa
open Go.Vs Go.Proofs Go
set_option maxRecDepth 100000
set_option maxHeartbeats 1000000

section
attribute [local simp] plI_id plStr_id map_plI map_plStr pS cP cI cStr cU8 cB
theorem w_impl_split (s : List UInt8) (c : UInt8) (hb : s.length ≤ 1000000000) : VC Try.prog 159 [.d (.str s), .d (.int .u8 c.toNat)] (fun _ r => r = .d (pS cStr (cutB c s))) := by
  refine VC.ofL EP s159 (by kernel_rfl) Try.func159 (by rfl) (by kernel_rfl) (by simp [Try.f159]) (by simp [Try.f159]) s159_ok fun B hl => ?_
  simp [Try.f159, ]
  refine loop_ruleL (X := Nat × Nat × List (List UInt8)) (fun p _ => CutI c s p ∨ (p.2.1 = s.length + 1 ∧ p.2.2 = cutB c s)) (fun p => [(0, .d (.str s)), (1, .d (.int .u8 c.toNat)), (5, .own 900 0 p.2.2.length), (6, .d (.int .i64 p.1)), (7, .d (.int .i64 p.2.1))]) (fun p => [(900, some (.row 9 1 (p.2.2.map cStr)))]) (fun p => s.length + 1 - p.2.1) ?_ ?_
  · refine (lead_slot 5 900 9 1 (by omega) (by omega) (by simp)).bind ?_
    rintro _ rfl
    exact Lead.of ⟨(0, 0, []), .inl .zero, rfl, rfl, Nat.le_refl _, by simp, by simp⟩
  rintro ⟨f, i, out⟩ hs t m hI hh
  rcases hI with hI | ⟨h1, h2⟩
  case inr =>
    simp only at h1 h2
    subst h1 h2
    have : ¬ (s.length : Int) + 1 ≤ s.length := by omega
    simp [this, List.take_of_length_le, ]
  have hf := hI.fr
  have hi := hI.le
  have hol := hI.len
  simp only at hf hi hol
  have hwi := wr1 (i := i) (by omega)
  have hL : LenOk 16 (out.length + 1) := ⟨by omega, by simp only [maxLen]; omega⟩
  by_cases hlt : i < s.length
  · have hne : ¬ (i : Int) = s.length := by omega
    by_cases e : s[i] = c
    · have hn := hI.hit hlt e
      simp [hlt, hi, hne, e, hwi, hL, hf, ]
      exact back2 (i + 1, i + 1, _) (.inl hn) (by simp only; omega) rfl (by simp <;> omega) (by simp) (by simp [List.take_of_length_le])
    · have hn := hI.miss hlt e
      have e' : ¬ s[i].toNat = c.toNat := fun h => e (UInt8.toNat_inj.1 h)
      simp [hlt, hi, hne, e, e', hwi, hL, ]
      exact back2 (f, i + 1, out) (.inl hn) (by simp only; omega) rfl (by simp <;> omega) (by simp) (by simp)
  · have hn := hI.done (by omega)
    have hil : i = s.length := by omega
    subst hil
    simp [hwi, hL, hf, ]
    exact back2 (s.length + 1, s.length + 1, out ++ [(s.drop f).take (s.length - f)]) (.inr ⟨rfl, hn.1⟩) (by simp only; omega) rfl (by simp <;> omega) (by simp) (by simp [List.take_of_length_le])
theorem w_spec_l5Cut (s : List UInt8) (c : UInt8) (hb : s.length ≤ 1000000000) : VC Try.prog 154 [.d (.str s), .d (.int .u8 c.toNat)] (fun _ r => r = .d (pS cStr (cutB c s))) := by
  refine VC.ofL EP s154 (by kernel_rfl) Try.func154 (by rfl) (by kernel_rfl) (by simp [Try.f154]) (by simp [Try.f154]) s154_ok fun B hl => ?_
  simp [Try.f154, ]
  refine loop_rule (X := Nat × Nat × List (List UInt8)) (fun p => CutI c s p) (fun p => [(0, .d (.str s)), (1, .d (.int .u8 c.toNat)), (5, .own 8 0 p.2.2.length), (6, .d (.int .i64 p.1)), (7, .d (.int .i64 p.2.1))]) (fun p => [(8, some (.row 9 1 (p.2.2.map cStr)))]) (fun p => s.length - p.2.1) (0, 0, []) .zero (by simp) (by simp) ?_
  rintro ⟨f, i, out⟩ hs t m hI hh
  have hf := hI.fr
  have hi := hI.le
  have hol := hI.len
  simp only at hf hi hol
  have hwi := wr1 (i := i) (by omega)
  have hL : LenOk 16 (out.length + 1) := ⟨by omega, by simp only [maxLen]; omega⟩
  by_cases hlt : i < s.length
  · by_cases e : s[i] = c
    · have hn := hI.hit hlt e
      simp [hlt, e, hwi, hL, hf, hi, ]
      exact back (i + 1, i + 1, _) hn (by simp only; omega) rfl (by simp <;> omega) (by simp) (by simp [List.take_of_length_le])
    · have hn := hI.miss hlt e
      have e' : ¬ s[i].toNat = c.toNat := fun h => e (UInt8.toNat_inj.1 h)
      simp [hlt, e, e', hwi, hL, ]
      exact back (f, i + 1, out) hn (by simp only; omega) rfl (by simp <;> omega) (by simp) (by simp)
  · have hn := hI.done (by omega)
    have hil : i = s.length := by omega
    subst hil
    simp [hL, hf, ]
    rw [List.take_of_length_le (by simp), ← hn.1]; simp
end

end Go.Proofs.Ytlmnjomekklnkaa

namespace Go.Proofs.Ytlmnjomekklnkaa
open Go.Vs Go.Proofs Go
set_option maxRecDepth 100000
set_option maxHeartbeats 1000000

section
attribute [local simp] plI_id plStr_id map_plI map_plStr pS cP cI cStr cU8 cB
theorem w_impl_isLetters (s : List UInt8) : VC Try.prog 194 [.d (.str s), .d (.int .i64 4)] (fun _ r => r = .d (.bool (nameOk s))) := by
  refine VC.ofL EP s194 (by kernel_rfl) Try.func194 (by rfl) (by kernel_rfl) (by simp [Try.f194]) (by simp [Try.f194]) s194_ok fun B hl => ?_
  by_cases h1 : (s.length : Int) < 1
  · have : s = [] := List.length_eq_zero_iff.1 (by omega)
    subst this
    simp [Try.f194, nameOk_len]
  by_cases h4 : (4 : Int) < s.length
  · have : nameOk s = false := nameOk_len (by omega)
    simp [Try.f194, h1, h4, this]
  have hlen : 1 ≤ s.length ∧ s.length ≤ 4 := by omega
  simp [Try.f194, h1, h4]
  refine loop_rule (X := Nat) (fun i => i ≤ s.length ∧ AllTo lowB s i) (fun i => [(0, .d (.str s)), (5, .d (.int .i64 i))]) (fun _ => []) (fun i => s.length - i) 0 ⟨by simp, allTo_zero⟩ (by simp) (by simp) ?_
  intro i hs t m hi hh
  by_cases hlt : i < s.length
  · have hwi := wr1 (i := i) (by omega)
    by_cases ha : ((s[i]).toNat : Int) < 97
    · have hbad := nameOk_bad (all_bad (p := lowB) hlt (lowB_lo ha))
      simp [hlt, ha, hbad, ]
    · by_cases hz : (122 : Int) < ((s[i]).toNat : Int)
      · have hbad := nameOk_bad (all_bad (p := lowB) hlt (lowB_hi hz))
        simp [hlt, ha, hz, hbad, ]
      · simp [hlt, ha, hz, hwi, ]
        exact back (i + 1) ⟨by omega, allTo_step hi.2 hlt (lowB_ok ha hz)⟩ (by omega) rfl (by simp <;> omega) (by simp) (by simp)
  · have hd := allTo_done hi.2 (by omega)
    have hd2 : nameOk s = true := by rw [nameOk_ok hd, decide_eq_true hlen]
    simp [hlt, hd2]
theorem w_impl_IsValidName (s : List UInt8) : VC Try.prog 171 [.d (.str s)] (fun _ r => r = .d (.bool (nameOk s))) := by
  refine VC.ofL EP s171 (by kernel_rfl) Try.func171 (by rfl) (by kernel_rfl) (by simp [Try.f171]) (by simp [Try.f171]) s171_ok fun B hl => ?_
  simp [Try.f171, ]
  refine call_f (w_impl_isLetters s) (by simp) rfl fun hs1 hh1 => ?_
  simp
theorem w_spec_IsValidName (s : List UInt8) (hb : s.length ≤ maxLen) : VC Try.prog 115 [.d (.str s)] (fun _ r => r = .d (.bool (nameOk s))) := by
  refine VC.ofL EP s115 (by kernel_rfl) Try.func115 (by rfl) (by kernel_rfl) (by simp [Try.f115]) (by simp [Try.f115]) s115_ok fun B hl => ?_
  simp only [maxLen] at hb
  simp [Try.f115, ]
  refine loop_rule (X := Nat) (fun i => i ≤ s.length ∧ AllTo lowB s i) (fun i => [(0, .d (.str s)), (3, .d (.int .i64 i))]) (fun _ => []) (fun i => s.length - i) 0 ⟨by simp, allTo_zero⟩ (by simp) (by simp) ?_
  intro i hs t m hi hh
  by_cases hlt : i < s.length
  · have hwi := wr1 (i := i) (by omega)
    by_cases ha : ((s[i]).toNat : Int) < 97
    · have hbad := nameOk_bad (all_bad (p := lowB) hlt (lowB_lo ha))
      simp [hlt, ha, hbad, ]
    · by_cases hz : (122 : Int) < ((s[i]).toNat : Int)
      · have hbad := nameOk_bad (all_bad (p := lowB) hlt (lowB_hi hz))
        simp [hlt, ha, hz, hbad, ]
      · simp [hlt, ha, hz, hwi, ]
        exact back (i + 1) ⟨by omega, allTo_step hi.2 hlt (lowB_ok ha hz)⟩ (by omega) rfl (by simp <;> omega) (by simp) (by simp)
  · have hd := allTo_done hi.2 (by omega)
    simp [hlt, ]
    refine call_f (w_spec_l1In s.length 1 4) (by simp) rfl fun hs1 hh1 => ?_
    have e : inR (s.length : Int) 1 4 = decide (1 ≤ s.length ∧ s.length ≤ 4) := by
      simp only [inR, ← Bool.decide_and]; congr 1; apply propext; omega
    rw [e, nameOk_ok hd]
    simp
end

end Go.Proofs.Ytlmnjomekklnkaa

namespace Go.Proofs.Ytlmnjomekklnkaa
open Go.Vs Go.Proofs Go
set_option maxRecDepth 100000
set_option maxHeartbeats 1000000

section
attribute [local simp] plI_id plStr_id map_plI map_plStr pS cP cI cStr cU8 cB eTab eReln
theorem w_impl_IsValidDatabase (d : PDb) : VC Try.prog 107 [.agg ((eDb d).map V.d)] (fun _ r => r = .d (.bool (dbOk d))) := by
  refine VC.ofL EP s107 (by kernel_rfl) Try.func107 (by rfl) (by kernel_rfl) (by simp [Try.f107]) (by simp [Try.f107]) s107_ok fun B hl => ?_
  obtain ⟨l⟩ := d
  by_cases h6 : (6 : Int) < l.length
  · have : dbOk ⟨l⟩ = false := by
      have : ¬ l.length ≤ 6 := by omega
      simp only [dbOk, this, decide_false, Bool.false_and]
    simp [Try.f107, s107_6, s107_6, eDb, h6, this]
  simp [Try.f107, s107_6, s107_6, eDb, h6]
  refine loop_rule (X := Nat) (DbTo l) (fun i => [(1, .ptr 1 0 0), (10, .d (.pl (l.map eTab))), (11, .d (.int .i64 l.length)), (12, .d (.int .i64 i))]) (fun _ => [(1, some (.box [.d (.pl (l.map eTab))]))]) (fun i => l.length - i) 0 .zero (by simp) (by simp) ?_
  intro i hs t m hi hh
  have hil := hi.le
  by_cases hlt : i < l.length
  case neg =>
    have hd := hi.done (by omega)
    simp [hlt, hd]
    omega
  have hwi := wr1 (i := i) (by omega)
  have hat := dbAt_eq hlt
  have hbad : dbAt l i = false → dbOk ⟨l⟩ = false := dbOk_bad hlt
  obtain ⟨nm, ar, rows, hT⟩ : ∃ nm ar rows, l[i] = ⟨nm, ⟨ar, rows⟩⟩ := ⟨_, _, _, rfl⟩
  rw [hT] at hat
  simp only [tabOk] at hat
  simp [hlt, hT, s107_6, ]
  refine call_f (w_impl_IsValidName nm) (by simp) rfl fun hs1 hh1 => ?_
  simp at hh1
  cases h1 : nameOk nm
  · have hb := hbad (by rw [hat, h1]; simp)
    simp [hb, s107_6, ]
  by_cases h0 : i = 0
  · subst h0
    have hwi0 : IntKind.i64.wrap 1 = 1 := by simpa using hwi
    simp [hT, s107_6, ]
    refine call_f (w_impl_IsValidRelation ⟨ar, rows⟩) (by simp [eReln]) rfl fun hs2 hh2 => ?_
    simp at hh2
    cases h3 : rowsOk ar rows
    · have hb := hbad (by rw [hat, h3]; simp)
      simp [hb, s107_6, ]
    by_cases h4 : ar < 1
    · have hb := hbad (by rw [hat]; have : ¬ 1 ≤ ar := by omega
                          simp [this])
      simp [h4, hb, hT, s107_6, ]
    by_cases h5 : (16 : Int) < rows.length
    · have hb := hbad (by rw [hat]; have : ¬ rows.length ≤ 16 := by omega
                          simp [this])
      simp [h4, h5, hb, hT, s107_6, ]
    have hok : dbAt l 0 = true := by
      have a4 : 1 ≤ ar := by omega
      have a5 : rows.length ≤ 16 := by omega
      rw [hat, h1, h3]; simp [a4, a5]
    simp [h4, h5, hT, hwi0, s107_6, ]
    exact back 1 (hi.step hlt hok) (by omega) rfl (by simp <;> omega) (by simp) (by simp)
  · have h0' : 0 < i := by omega
    have hw : IntKind.i64.wrap ((i : Int) - 1) = ((i - 1 : Nat) : Int) := by rw [wrap64_of (by omega) (by omega)]; omega
    have hlt1 : i - 1 < l.length := by omega
    cases h2 : Op.bytesLess (l[i - 1]'(by omega)).name nm
    · have hb := hbad (by rw [hat, h2]; simp [h0])
      simp [h0, h0', hw, hlt1, hT, h2, hb, s107_6, ]
    simp [h0, h0', hw, hlt1, hT, h2, s107_6, ]
    refine call_f (w_impl_IsValidRelation ⟨ar, rows⟩) (by simp [eReln]) rfl fun hs2 hh2 => ?_
    simp at hh2
    cases h3 : rowsOk ar rows
    · have hb := hbad (by rw [hat, h3]; simp)
      simp [hb, s107_6, ]
    by_cases h4 : ar < 1
    · have hb := hbad (by rw [hat]; have : ¬ 1 ≤ ar := by omega
                          simp [this])
      simp [h4, hb, hT, s107_6, ]
    by_cases h5 : (16 : Int) < rows.length
    · have hb := hbad (by rw [hat]; have : ¬ rows.length ≤ 16 := by omega
                          simp [this])
      simp [h4, h5, hb, hT, s107_6, ]
    have hok : dbAt l i = true := by
      have a4 : 1 ≤ ar := by omega
      have a5 : rows.length ≤ 16 := by omega
      rw [hat, h1, h3]; simp [a4, a5, h2]
    simp [h4, h5, hT, hwi, s107_6, ]
    exact back (i + 1) (hi.step hlt hok) (by omega) rfl (by simp <;> omega) (by simp) (by simp)
theorem w_spec_IsValidDatabase (d : PDb) (hst : ∀ t ∈ d.tabs, t.name.length ≤ maxLen) : VC Try.prog 48 [.agg ((eDb d).map V.d)] (fun _ r => r = .d (.bool (dbOk d))) := by
  refine VC.ofL EP s48 (by kernel_rfl) Try.func48 (by rfl) (by kernel_rfl) (by simp [Try.f48]) (by simp [Try.f48]) s48_ok fun B hl => ?_
  obtain ⟨l⟩ := d
  simp [pS, maxLen, eDb] at hl
  simp only at hst
  simp [Try.f48, s48_5, s48_5, eDb]
  refine loop_rule (X := Nat) (DbTo l) (fun i => [(1, .ptr 1 0 0), (3, .d (.int .i64 i))]) (fun _ => [(1, some (.box [.d (.pl (l.map eTab))]))]) (fun i => l.length - i) 0 .zero (by simp) (by simp) ?_
  intro i hs t m hi hh
  have hil := hi.le
  by_cases hlt : i < l.length
  case neg =>
    have hd := hi.done (by omega)
    simp [hlt, hd]
    omega
  have hwi := wr1 (i := i) (by omega)
  have hat := dbAt_eq hlt
  have hbad : dbAt l i = false → dbOk ⟨l⟩ = false := dbOk_bad hlt
  obtain ⟨nm, ar, rows, hT⟩ : ∃ nm ar rows, l[i] = ⟨nm, ⟨ar, rows⟩⟩ := ⟨_, _, _, rfl⟩
  rw [hT] at hat
  simp only [tabOk] at hat
  have hnl : nm.length ≤ maxLen := by have := hst l[i] (List.getElem_mem hlt); rwa [hT] at this
  simp [hlt, hT, s48_5, ]
  refine call_f (w_spec_IsValidName nm hnl) (by simp) rfl fun hs1 hh1 => ?_
  simp at hh1
  cases h1 : nameOk nm
  · have hb := hbad (by rw [hat, h1]; simp)
    simp [hb, s48_5, ]
  by_cases h0 : i = 0
  · subst h0
    have hwi0 : IntKind.i64.wrap 1 = 1 := by simpa using hwi
    simp [hT, s48_5, ]
    refine call_f (w_spec_IsValidRelation ⟨ar, rows⟩) (by simp [eReln]) rfl fun hs2 hh2 => ?_
    simp at hh2
    cases h3 : rowsOk ar rows
    · have hb := hbad (by rw [hat, h3]; simp)
      simp [hb, s48_5, ]
    by_cases h5 : (16 : Int) < rows.length
    · have hb := hbad (by rw [hat]; have : ¬ rows.length ≤ 16 := by omega
                          simp [this])
      simp [h5, hb, hT, s48_5, ]
    by_cases h4 : ar < 1
    · have hb := hbad (by rw [hat]; have : ¬ 1 ≤ ar := by omega
                          simp [this])
      simp [h4, h5, hb, hT, s48_5, ]
    have hok : dbAt l 0 = true := by
      have a4 : 1 ≤ ar := by omega
      have a5 : rows.length ≤ 16 := by omega
      rw [hat, h1, h3]; simp [a4, a5]
    simp [h4, h5, hT, hwi0, s48_5, ]
    exact back 1 (hi.step hlt hok) (by omega) rfl (by simp <;> omega) (by simp) (by simp)
  · have h0' : 0 < i := by omega
    have hw : IntKind.i64.wrap ((i : Int) - 1) = ((i - 1 : Nat) : Int) := by rw [wrap64_of (by omega) (by omega)]; omega
    have hlt1 : i - 1 < l.length := by omega
    cases h2 : Op.bytesLess (l[i - 1]'(by omega)).name nm
    · have hb := hbad (by rw [hat, h2]; simp [h0])
      simp [h0, h0', hw, hlt1, hT, h2, hb, s48_5, ]
    simp [h0, h0', hw, hlt1, hT, h2, s48_5, ]
    refine call_f (w_spec_IsValidRelation ⟨ar, rows⟩) (by simp [eReln]) rfl fun hs2 hh2 => ?_
    simp at hh2
    cases h3 : rowsOk ar rows
    · have hb := hbad (by rw [hat, h3]; simp)
      simp [hb, s48_5, ]
    by_cases h5 : (16 : Int) < rows.length
    · have hb := hbad (by rw [hat]; have : ¬ rows.length ≤ 16 := by omega
                          simp [this])
      simp [h5, hb, hT, s48_5, ]
    by_cases h4 : ar < 1
    · have hb := hbad (by rw [hat]; have : ¬ 1 ≤ ar := by omega
                          simp [this])
      simp [h4, h5, hb, hT, s48_5, ]
    have hok : dbAt l i = true := by
      have a4 : 1 ≤ ar := by omega
      have a5 : rows.length ≤ 16 := by omega
      rw [hat, h1, h3]; simp [a4, a5, h2]
    simp [h4, h5, hT, hwi, s48_5, ]
    exact back (i + 1) (hi.step hlt hok) (by omega) rfl (by simp <;> omega) (by simp) (by simp)
end

end Go.Proofs.Ytlmnjomekklnkaa

namespace Go.Proofs.Ytlmnjomekklnkaa
open Go.Vs Go.Proofs Go
set_option maxRecDepth 100000
set_option maxHeartbeats 1000000

section
attribute [local simp] plI_id plStr_id map_plI map_plStr pS cP cI cStr cU8 cB
theorem w_impl_ChecksumOf (s : List UInt8) (hb : s.length ≤ 4611686018427387904) : VC Try.prog 43 [.d (.str s)] (fun _ r => r = .d (.int .i64 (ckS s))) := by
  refine VC.ofL EP s43 (by kernel_rfl) Try.func43 (by rfl) (by kernel_rfl) (by simp [Try.f43]) (by simp [Try.f43]) s43_ok fun B hl => ?_
  simp [Try.f43, ]
  refine loop_rule (X := Nat) (fun i => i ≤ s.length) (fun i => [(0, .d (.str s)), (3, .d (.int .i64 (ckS (s.take i)))), (4, .d (.int .i64 i))]) (fun _ => []) (fun i => s.length - i) 0 (by simp) (by simp [ckS]) (by simp) ?_
  intro i hs t m hi hh
  by_cases hlt : i < s.length
  · have hwi := wr1 (i := i) (by omega)
    have hst := ckS_step hlt
    have hx := ckS_in (s.take i)
    have hb8 := (s[i]).toNat_lt
    obtain ⟨x, hxe⟩ : ∃ x, x = ckS (s.take i) := ⟨_, rfl⟩
    obtain ⟨b, hbe⟩ : ∃ b, b = s[i] := ⟨_, rfl⟩
    rw [← hxe] at hx hst ⊢
    rw [← hbe] at hb8 hst
    have w1 : IntKind.i64.wrap (31 * x) = 31 * x := wrap64_of (by omega) (by omega)
    have w1' : IntKind.i64.wrap (x * 31) = 31 * x := by rw [Int.mul_comm]; exact w1
    have w2 : IntKind.i64.wrap ((b.toNat : Nat) : Int) = b.toNat := wrap64_of (by omega) (by omega)
    have w3 : IntKind.i64.wrap (31 * x + (b.toNat : Int)) = 31 * x + b.toNat := wrap64_of (by omega) (by omega)
    have w4 : IntKind.i64.wrap (31 * x + (b.toNat : Int) + 1) = 31 * x + b.toNat + 1 := wrap64_of (by omega) (by omega)
    simp [hlt, ← hbe, w1, w1', w2, w3, w4, hwi, ]
    exact back (i + 1) (by omega) (by omega) rfl (by simp <;> omega) (by simp [hst, ckB]) (by simp)
  · simp [hlt, List.take_of_length_le (show s.length ≤ i by omega)]
theorem w_spec_ChecksumOf (s : List UInt8) (hb : s.length ≤ 4611686018427387904) : VC Try.prog 44 [.d (.str s)] (fun _ r => r = .d (.int .i64 (ckS s))) := by
  refine VC.ofL EP s44 (by kernel_rfl) Try.func44 (by rfl) (by kernel_rfl) (by simp [Try.f44]) (by simp [Try.f44]) s44_ok fun B hl => ?_
  simp [Try.f44, ]
  refine loop_rule (X := Nat) (fun i => i ≤ s.length) (fun i => [(0, .d (.str s)), (3, .d (.int .i64 (ckS (s.take i)))), (4, .d (.int .i64 i))]) (fun _ => []) (fun i => s.length - i) 0 (by simp) (by simp [ckS]) (by simp) ?_
  intro i hs t m hi hh
  by_cases hlt : i < s.length
  · have hwi := wr1 (i := i) (by omega)
    have hst := ckS_step hlt
    have hx := ckS_in (s.take i)
    have hb8 := (s[i]).toNat_lt
    obtain ⟨x, hxe⟩ : ∃ x, x = ckS (s.take i) := ⟨_, rfl⟩
    obtain ⟨b, hbe⟩ : ∃ b, b = s[i] := ⟨_, rfl⟩
    rw [← hxe] at hx hst ⊢
    rw [← hbe] at hb8 hst
    have w1 : IntKind.i64.wrap (31 * x) = 31 * x := wrap64_of (by omega) (by omega)
    have w1' : IntKind.i64.wrap (x * 31) = 31 * x := by rw [Int.mul_comm]; exact w1
    have w2 : IntKind.i64.wrap ((b.toNat : Nat) : Int) = b.toNat := wrap64_of (by omega) (by omega)
    have w3 : IntKind.i64.wrap (31 * x + (b.toNat : Int)) = 31 * x + b.toNat := wrap64_of (by omega) (by omega)
    have w4 : IntKind.i64.wrap (31 * x + (b.toNat : Int) + 1) = 31 * x + b.toNat + 1 := wrap64_of (by omega) (by omega)
    simp [hlt, ← hbe, w1, w1', w2, w3, w4, hwi, ]
    exact back (i + 1) (by omega) (by omega) rfl (by simp <;> omega) (by simp [hst, ckB]) (by simp)
  · simp [hlt, List.take_of_length_le (show s.length ≤ i by omega)]
theorem w_spec_FormatInt (n : Int) (hn : inZ n) : VC Try.prog 113 [.d (.int .i64 n)] (fun _ r => r = .d (.str (decZ n))) := by
  refine VC.ofL EP s113 (by kernel_rfl) Try.func113 (by rfl) (by kernel_rfl) (by simp [Try.f113]) (by simp [Try.f113]) s113_ok fun B hl => ?_
  simp only [inZ] at hn
  by_cases hn0 : n = 0
  · subst hn0
    have : decZ 0 = [48] := by rw [decZ, if_neg (by omega)]; exact decN_lt (by omega)
    simp [Try.f113, this]
  obtain ⟨neg, hneg⟩ : ∃ b : Bool, b = decide (n < 0) := ⟨_, rfl⟩
  simp [Try.f113, hn0]
  rw [← hneg]
  refine loop_rule (X := Int × List UInt8) (fun p => (-9223372036854775808 ≤ p.1 ∧ p.1 ≤ 9223372036854775807) ∧ (if p.1 = 0 then decN n.natAbs = p.2 else decN n.natAbs = decN p.1.natAbs ++ p.2)) (fun p => [(0, .d (.int .i64 p.1)), (3, .d (.str p.2)), (4, .d (.bool neg))]) (fun _ => []) (fun p => p.1.natAbs) (n, []) ⟨hn, by rw [if_neg hn0]; simp⟩ (by simp [hneg]) (by simp) ?_
  rintro ⟨p, ds⟩ hs t m ⟨hp, hd⟩ hh
  simp only at hp hd
  have hl20 : (decN n.natAbs).length ≤ 20 := decN_len20 (by omega)
  by_cases hp0 : p = 0
  · subst hp0
    simp only [if_true] at hd
    have hout : decZ n = if neg then 45 :: ds else ds := by rw [decZ, hd, hneg]; simp
    rw [hd] at hl20
    cases hn2 : neg
    · simp [hn2] at hout
      simp [hout, hn2, ]
    · simp [hn2] at hout
      simp [hout, hn2, ]
      omega
  rw [if_neg hp0] at hd
  rw [hd, List.length_append] at hl20
  have hm : (p.tmod 10).natAbs = p.natAbs % 10 := by rw [Int.natAbs_tmod]; rfl
  have hq : (p.tdiv 10).natAbs = p.natAbs / 10 := by rw [Int.natAbs_tdiv]; rfl
  have hwq : IntKind.i64.wrap (p.tdiv 10) = p.tdiv 10 := wrap64_of (by omega) (by omega)
  obtain ⟨q, hqe⟩ : ∃ q, q = p.tdiv 10 := ⟨_, rfl⟩
  obtain ⟨r, hre⟩ : ∃ r, r = p.tmod 10 := ⟨_, rfl⟩
  obtain ⟨e, hee⟩ : ∃ e, e = p.natAbs % 10 := ⟨_, rfl⟩
  rw [← hqe] at hq hwq
  rw [← hre, ← hee] at hm
  have he10 : e < 10 := by omega
  have hw48 : IntKind.i64.wrap (48 + (e : Int)) = 48 + e := wrap64_of (by omega) (by omega)
  have hw8 : IntKind.u8.wrap (48 + (e : Int)) = 48 + e := by rw [IntKind.wrap_u8]; omega
  have hB1 : toB [D.int IntKind.u8 (48 + (e : Int))] = UInt8.ofNat (48 + e) := by
    have : (48 + (e : Int)).toNat = 48 + e := by omega
    simp only [toB, this]
  have hB5 : isB [D.int IntKind.u8 (48 + (e : Int))] = true := rfl
  have he0 : ¬ (e : Int) < 0 := by omega
  have hlen : ds.length + 1 ≤ 9223372036854775807 := by omega
  have hst : if q = 0 then decN n.natAbs = UInt8.ofNat (48 + e) :: ds else decN n.natAbs = decN q.natAbs ++ UInt8.ofNat (48 + e) :: ds := by
    split
    · rename_i h
      have : p.natAbs < 10 := by omega
      rw [hd, decN_lt this, hee, Nat.mod_eq_of_lt this]; rfl
    · rename_i h
      rw [hd, hq, decN_ge (by omega), hee]; simp
  by_cases h0 : r < 0
  · have hwn : IntKind.i64.wrap (-r) = e := by rw [wrap64_of (by omega) (by omega)]; omega
    simp [hp0, ← hre, ← hqe, h0, hwn, hw48, hw8, hwq, hB1, hB5, ]
    refine ⟨by omega, ?_⟩
    exact back (q, UInt8.ofNat (48 + e) :: ds) ⟨by simp only; omega, hst⟩ (by simp only; omega) rfl (by simp <;> omega) (by simp) (by simp)
  · have hr2 : r = (e : Int) := by omega
    simp [hp0, ← hre, ← hqe, h0, hr2, he0, hw48, hw8, hwq, hB1, hB5, ]
    refine ⟨by omega, ?_⟩
    exact back (q, UInt8.ofNat (48 + e) :: ds) ⟨by simp only; omega, hst⟩ (by simp only; omega) rfl (by simp <;> omega) (by simp) (by simp)
end

end Go.Proofs.Ytlmnjomekklnkaa

namespace Go.Proofs.Ytlmnjomekklnkaa
open Go.Vs Go.Proofs Go
set_option maxRecDepth 100000
set_option maxHeartbeats 1000000

section
attribute [local simp] plI_id plStr_id map_plI map_plStr pS cP cI cStr cU8 cB
theorem w_spec_ParseInt (s : List UInt8) : VC Try.prog 184 [.d (.str s)] (fun _ r => r = .tup [.d (.int .i64 (prsN s)), .d (.bool (prsZ s).isSome)]) := by
  refine VC.ofL EP s184 (by kernel_rfl) Try.func184 (by rfl) (by kernel_rfl) (by simp [Try.f184]) (by simp [Try.f184]) s184_ok fun B hl => ?_
  have hz := prsN_inZ s
  simp [Try.f184, ]
  refine loop_rule (X := Nat) (fun i => i ≤ s.length ∧ i ≤ 11) (fun i => [(0, .d (.str s)), (4, .d (.int .i64 (digs (s.take i)).1)), (5, .d (.int .i64 (digs (s.take i)).2)), (6, .d (.int .i64 i))]) (fun _ => []) (fun i => 11 - i) 0 (by simp) (by simp [digs]) (by simp) ?_
  intro i hs t m hi hh
  by_cases hlt : i < s.length ∧ i < 11
  · have hwi := wr1 (i := i) (by omega)
    have hst := digs_step hlt.1
    have hbd := digs_bd (s.take i)
    have h1 := hlt.1
    have h2 : (i : Int) < 11 := by omega
    have hb11 : (10 : Int) ^ (s.take i).length ≤ 10 ^ 11 := by
      have := Nat.pow_le_pow_right (n := 10) (show 0 < 10 by omega) (show (s.take i).length ≤ 11 by rw [List.length_take]; omega)
      exact_mod_cast this
    have hk : (digs (s.take i)).2 ≤ 11 := by have := hbd.2.2; rw [List.length_take] at this; omega
    obtain ⟨p, hp⟩ : ∃ p, p = digs (s.take i) := ⟨_, rfl⟩
    rw [← hp] at hst hbd hk ⊢
    by_cases hlo : (s[i].toNat : Int) < 48
    · have hd := isDg_lo hlo
      have g1 : ((48 : Int) ≤ s[i].toNat) = False := by simp; omega
      rw [digF, if_neg (by rw [hd]; simp)] at hst
      simp [h1, h2, g1, hwi, ]
      exact back (i + 1) (by omega) (by omega) rfl (by simp <;> omega) (by simp [hst]) (by simp)
    have g1 : ((48 : Int) ≤ s[i].toNat) = True := by simp; omega
    by_cases hhi : (57 : Int) < s[i].toNat
    · have hd := isDg_hi hhi
      have g2 : ((s[i].toNat : Int) ≤ 57) = False := by simp; omega
      rw [digF, if_neg (by rw [hd]; simp)] at hst
      simp [h1, h2, g1, g2, hwi, ]
      exact back (i + 1) (by omega) (by omega) rfl (by simp <;> omega) (by simp [hst]) (by simp)
    have hd := isDg_ok hlo hhi
    have g2 : ((s[i].toNat : Int) ≤ 57) = True := by simp; omega
    rw [digF, if_pos hd] at hst
    have hw8 : IntKind.u8.wrap ((s[i].toNat : Int) - 48) = s[i].toNat - 48 := by rw [IntKind.wrap_u8]; omega
    have w1 : IntKind.i64.wrap ((s[i].toNat : Int) - 48) = s[i].toNat - 48 := wrap64_of (by omega) (by omega)
    have w2 : IntKind.i64.wrap (p.1 * 10) = p.1 * 10 := wrap64_of (by omega) (by omega)
    have w3 : IntKind.i64.wrap (p.1 * 10 + (s[i].toNat - 48)) = p.1 * 10 + (s[i].toNat - 48) := wrap64_of (by omega) (by omega)
    have w4 := wr1 (i := p.2) (by omega)
    simp [h1, h2, g1, g2, hwi, hw8, w1, w2, w3, w4, ]
    exact back (i + 1) (by omega) (by omega) rfl (by simp <;> omega) (by simp [hst]) (by simp)
  · have hend : s.take i = s.take 11 := by
      by_cases h : i = 11
      · rw [h]
      · rw [List.take_of_length_le (by omega), List.take_of_length_le (by omega)]
    have hcond : (i : Int) < s.length → ¬ (i : Int) < 11 := fun h h' => hlt ⟨by omega, by omega⟩
    have hv : prsV s = if s.head? = some 45 then -(digs (s.take 11)).1 else (digs (s.take 11)).1 := rfl
    have hzz : prsZ s = if (digs (s.take 11)).2 ≤ 9 ∧ s.length ≤ 10 ∧ decZ (prsV s) = s then some (prsV s) else none := rfl
    have hn : prsN s = (prsZ s).getD 0 := rfl
    have hbd := digs_bd (s.take 11)
    have hb11 : (10 : Int) ^ (s.take 11).length ≤ 10 ^ 11 := by
      have := Nat.pow_le_pow_right (n := 10) (show 0 < 10 by omega) (show (s.take 11).length ≤ 11 by rw [List.length_take]; omega)
      exact_mod_cast this
    rw [hend]
    obtain ⟨p, hp⟩ : ∃ p, p = digs (s.take 11) := ⟨_, rfl⟩
    rw [← hp] at hv hzz hbd ⊢
    obtain ⟨x, hx⟩ : ∃ x, x = prsV s := ⟨_, rfl⟩
    rw [← hx] at hv hzz hz
    have wneg : IntKind.i64.wrap (-p.1) = -p.1 := wrap64_of (by omega) (by omega)
    have wneg2 : IntKind.i64.wrap (0 - p.1) = -p.1 := by rw [Int.zero_sub]; exact wneg
    have T : ∀ q : Prop, q = True ∨ q = False := Classical.propComplete
    cases s with
    | nil =>
      have hb := prs_bad (s := []) (.inl rfl)
      have hi0 : i = 0 := by simpa using hi.1
      subst hi0
      have hp0 : p = (0, 0) := by rw [hp]; rfl
      have hx0 : x = 0 := by rw [hv, hp0]; rfl
      simp [hp0, hb]
      refine call_f (w_spec_FormatInt 0 (by simp [inZ])) (by simp) rfl fun hs1 hh1 => ?_
      simp [decZ, decN_lt, hb]
    | cons a r =>
    have F : ((i : Int) < r.length + 1) = False ∨ (((i : Int) < r.length + 1) = True ∧ ((i : Int) < 11) = False) := by
      rcases T ((i : Int) < r.length + 1) with h | h
      · exact .inr ⟨h, by simp only [eq_iff_iff, iff_false]; exact hcond (by simpa using h)⟩
      · exact .inl h
    have G : ((a.toNat : Int) = 45) = True ∧ x = -p.1 ∨ ((a.toNat : Int) = 45) = False ∧ x = p.1 := by
      by_cases ha : a = 45
      · subst ha; exact .inl ⟨by simp, by simpa using hv⟩
      · refine .inr ⟨?_, by simpa [ha] using hv⟩
        simp only [eq_iff_iff, iff_false]
        intro h
        have h' : a.toNat = 45 := by omega
        exact ha (UInt8.toNat_inj.1 h')
    have g9 : ((9 : Int) < p.2) = True ∧ ¬ p.2 ≤ 9 ∨ ((9 : Int) < p.2) = False ∧ p.2 ≤ 9 := by
      by_cases h : p.2 ≤ 9
      · exact .inr ⟨by simp; omega, h⟩
      · exact .inl ⟨by simp; omega, h⟩
    have g10 : ((10 : Int) < r.length + 1) = True ∧ ¬ (a :: r).length ≤ 10 ∨ ((10 : Int) < r.length + 1) = False ∧ (a :: r).length ≤ 10 := by
      by_cases h : (a :: r).length ≤ 10
      · exact .inr ⟨by simp at h ⊢; omega, h⟩
      · exact .inl ⟨by simp at h ⊢; omega, h⟩
    rcases G with ⟨G, hxe⟩ | ⟨G, hxe⟩ <;> rcases g9 with ⟨g9, g9'⟩ | ⟨g9, g9'⟩
    case inl.inl | inr.inl =>
      rw [if_neg fun h => g9' h.1] at hzz
      rw [hzz] at hn
      simp only [Option.getD_none] at hn
      rcases F with F | ⟨F, F2⟩
      · simp [F, G, g9, wneg, wneg2, hn, hzz, ]
      · simp [F, F2, G, g9, wneg, wneg2, hn, hzz, ]
    all_goals rcases g10 with ⟨g10, g10'⟩ | ⟨g10, g10'⟩
    case inl.inr.inl | inr.inr.inl =>
      rw [if_neg fun h => g10' h.2.1] at hzz
      rw [hzz] at hn
      simp only [Option.getD_none] at hn
      rcases F with F | ⟨F, F2⟩
      · simp [F, G, g9, g10, wneg, wneg2, hn, hzz, ]
      · simp [F, F2, G, g9, g10, wneg, wneg2, hn, hzz, ]
    all_goals
      rcases F with F | ⟨F, F2⟩
      all_goals
        first | simp [F, F2, G, g9, g10, wneg, wneg2, ] | simp [F, G, g9, g10, wneg, wneg2, ]
        rw [← hxe]
        refine call_f (w_spec_FormatInt x hz.2) (by simp) rfl fun hs1 hh1 => ?_
        simp at hh1
        rw [hn, hzz]
        by_cases e : decZ x = a :: r
        · rw [if_pos ⟨g9', g10', e⟩]
          simp [e, ]
        · rw [if_neg fun h => e h.2.2]
          simp [e, ]
theorem w_impl_ParseInt (s : List UInt8) : VC Try.prog 185 [.d (.str s)] (fun _ r => r = .tup [.d (.int .i64 (prsN s)), .d (.bool (prsZ s).isSome)]) := by
  refine VC.ofL EP s185 (by kernel_rfl) Try.func185 (by rfl) (by kernel_rfl) (by simp [Try.f185]) (by simp [Try.f185]) s185_ok fun B hl => ?_
  have hz := prsN_inZ s
  cases s with
  | nil =>
    have := prs_bad (s := []) (.inl rfl)
    simp [Try.f185, this]
  | cons a r =>
  by_cases ha : a = 45
  · subst ha
    have ht := sgnT_45 r
    by_cases hr : r = []
    · have hb := prs_bad (s := 45 :: r) (.inl (by rw [ht, hr]))
      simp [Try.f185, hr] at hb ⊢
      simp [hb]
    by_cases h9 : (9 : Int) < r.length
    · have hb := prs_bad (s := 45 :: r) (.inr (.inl (by rw [ht]; omega)))
      simp [Try.f185, hr, h9, hb]
    have hbad : (∃ b ∈ r, isDg b = false) → _ := fun h => prs_bad (s := 45 :: r) (.inr (.inr (by rw [ht]; exact h)))
    have hok : (∀ b ∈ r, isDg b = true) → _ := fun h => prsZ_dig (s := 45 :: r) (by rw [ht]; omega) (by rw [ht]; exact h)
    simp only [ht, List.head?_cons, if_true] at hok
    simp [Try.f185, hr, h9]
    obtain ⟨ds, hds⟩ : ∃ ds, ds = r := ⟨_, rfl⟩
    rw [← hds] at hbad hok hz h9 ⊢
    obtain ⟨S, hS⟩ : ∃ S, S = 45 :: ds := ⟨_, rfl⟩
    rw [← hS] at hbad hok hz ⊢

    obtain ⟨x, hx⟩ : ∃ x, x = prsV S := ⟨_, rfl⟩
    refine loop_rule (X := Nat) (fun i => i ≤ ds.length ∧ (∀ b ∈ ds.take i, isDg b = true)) (fun i => [(0, .d (.str S)), (4, .d (.str ds)), (5, .d (.bool true)), (6, .d (.int .i64 (digs (ds.take i)).1)), (7, .d (.int .i64 i))]) (fun _ => []) (fun i => ds.length - i) 0 (by simp) (by simp [digs]) (by simp) ?_
    intro i hs t m hi hh
    have hbd := digs_bd (ds.take i)
    have hb11 : (10 : Int) ^ (ds.take i).length ≤ 10 ^ 9 := by
      have := Nat.pow_le_pow_right (n := 10) (show 0 < 10 by omega) (show (ds.take i).length ≤ 9 by rw [List.length_take]; omega)
      exact_mod_cast this
    by_cases hlt : i < ds.length
    · have hwi := wr1 (i := i) (by omega)
      have hst := digs_step hlt
      obtain ⟨p, hp⟩ : ∃ p, p = digs (ds.take i) := ⟨_, rfl⟩
      rw [← hp] at hst hbd ⊢
      by_cases hlo : (ds[i].toNat : Int) < 48
      · have hb := hbad ⟨_, List.getElem_mem hlt, isDg_lo hlo⟩
        simp [hlt, hlo, hb, ]
      by_cases hhi : (57 : Int) < ds[i].toNat
      · have hb := hbad ⟨_, List.getElem_mem hlt, isDg_hi hhi⟩
        simp [hlt, hlo, hhi, hb, ]
      have hd := isDg_ok hlo hhi
      rw [digF, if_pos hd] at hst
      have hw8 : IntKind.u8.wrap ((ds[i].toNat : Int) - 48) = ds[i].toNat - 48 := by rw [IntKind.wrap_u8]; omega
      have w1 : IntKind.i64.wrap ((ds[i].toNat : Int) - 48) = ds[i].toNat - 48 := wrap64_of (by omega) (by omega)
      have w2 : IntKind.i64.wrap (10 * p.1) = 10 * p.1 := wrap64_of (by omega) (by omega)
      have w3 : IntKind.i64.wrap (10 * p.1 + (ds[i].toNat - 48)) = 10 * p.1 + (ds[i].toNat - 48) := wrap64_of (by omega) (by omega)
      have hex : p.1 * 10 + ((ds[i].toNat : Int) - 48) = 10 * p.1 + (ds[i].toNat - 48) := by omega
      simp [hlt, hlo, hhi, hwi, hw8, w1, w2, w3, ]
      refine back (i + 1) ⟨by omega, fun b hb => ?_⟩ (by omega) rfl (by simp <;> omega) (by simp [hst, hex]) (by simp)
      rw [List.take_succ_eq_append_getElem hlt] at hb
      rcases List.mem_append.1 hb with hb | hb
      · exact hi.2 b hb
      · rw [List.mem_singleton.1 hb]; exact hd
    · have hall : ds.take i = ds := List.take_of_length_le (by omega)
      rw [hall] at hbd hb11 hi ⊢
      obtain ⟨hv, hzz⟩ := hok hi.2
      have hn : prsN S = (prsZ S).getD 0 := rfl
      rw [← hx] at hv hzz hz
      obtain ⟨p, hp⟩ : ∃ p, p = digs ds := ⟨_, rfl⟩
      rw [← hp] at hv hbd ⊢
      have wneg : IntKind.i64.wrap (-p.1) = -p.1 := wrap64_of (by omega) (by omega)
      have wneg2 : IntKind.i64.wrap (0 - p.1) = -p.1 := by rw [Int.zero_sub]; exact wneg
      simp [hlt, wneg, wneg2, ]
      rw [← hv]
      refine call_f (w_impl_FormatInt x hz.2) (by simp) rfl fun hs1 hh1 => ?_
      simp at hh1
      rw [hn, hzz]
      by_cases e : decZ x = S
      · rw [if_pos e]
        simp [e, ]
      · rw [if_neg e]
        simp [e, ]
  · have ha' : ((a.toNat : Int) = 45) = False := by
      simp only [eq_iff_iff, iff_false]
      intro h
      have h' : a.toNat = 45 := by omega
      exact ha (UInt8.toNat_inj.1 h')
    have ht := sgnT_ne (r := r) ha
    by_cases h9 : (9 : Int) < r.length + 1
    · have hb := prs_bad (s := a :: r) (.inr (.inl (by rw [ht]; simp; omega)))
      simp [Try.f185, ha', h9, hb]
    have hbad : (∃ b ∈ a :: r, isDg b = false) → _ := fun h => prs_bad (s := a :: r) (.inr (.inr (by rw [ht]; exact h)))
    have hok : (∀ b ∈ a :: r, isDg b = true) → _ := fun h => prsZ_dig (s := a :: r) (by rw [ht]; simp; omega) (by rw [ht]; exact h)
    simp only [ht, List.head?_cons, Option.some.injEq, ha, if_false] at hok
    simp [Try.f185, ha', h9]
    obtain ⟨S, hS⟩ : ∃ S, S = a :: r := ⟨_, rfl⟩
    have hlen : (S.length : Int) ≤ 9 := by rw [hS]; simp; omega
    rw [← hS] at hbad hok hz ⊢
    obtain ⟨ds, hds⟩ : ∃ ds, ds = S := ⟨_, rfl⟩
    have h9 : ¬ (9 : Int) < ds.length := by rw [hds]; omega
    rw [← hds]
    rw [← hds] at hbad hok hz
    clear hS
    subst hds
    obtain ⟨S, hSd⟩ : ∃ S, S = ds := ⟨_, rfl⟩
    subst hSd

    obtain ⟨x, hx⟩ : ∃ x, x = prsV S := ⟨_, rfl⟩
    refine loop_rule (X := Nat) (fun i => i ≤ S.length ∧ (∀ b ∈ S.take i, isDg b = true)) (fun i => [(0, .d (.str S)), (4, .d (.str S)), (5, .d (.bool false)), (6, .d (.int .i64 (digs (S.take i)).1)), (7, .d (.int .i64 i))]) (fun _ => []) (fun i => S.length - i) 0 (by simp) (by simp [digs]) (by simp) ?_
    intro i hs t m hi hh
    have hbd := digs_bd (S.take i)
    have hb11 : (10 : Int) ^ (S.take i).length ≤ 10 ^ 9 := by
      have := Nat.pow_le_pow_right (n := 10) (show 0 < 10 by omega) (show (S.take i).length ≤ 9 by rw [List.length_take]; omega)
      exact_mod_cast this
    by_cases hlt : i < S.length
    · have hwi := wr1 (i := i) (by omega)
      have hst := digs_step hlt
      obtain ⟨p, hp⟩ : ∃ p, p = digs (S.take i) := ⟨_, rfl⟩
      rw [← hp] at hst hbd ⊢
      by_cases hlo : (S[i].toNat : Int) < 48
      · have hb := hbad ⟨_, List.getElem_mem hlt, isDg_lo hlo⟩
        simp [hlt, hlo, hb, ]
      by_cases hhi : (57 : Int) < S[i].toNat
      · have hb := hbad ⟨_, List.getElem_mem hlt, isDg_hi hhi⟩
        simp [hlt, hlo, hhi, hb, ]
      have hd := isDg_ok hlo hhi
      rw [digF, if_pos hd] at hst
      have hw8 : IntKind.u8.wrap ((S[i].toNat : Int) - 48) = S[i].toNat - 48 := by rw [IntKind.wrap_u8]; omega
      have w1 : IntKind.i64.wrap ((S[i].toNat : Int) - 48) = S[i].toNat - 48 := wrap64_of (by omega) (by omega)
      have w2 : IntKind.i64.wrap (10 * p.1) = 10 * p.1 := wrap64_of (by omega) (by omega)
      have w3 : IntKind.i64.wrap (10 * p.1 + (S[i].toNat - 48)) = 10 * p.1 + (S[i].toNat - 48) := wrap64_of (by omega) (by omega)
      have hex : p.1 * 10 + ((S[i].toNat : Int) - 48) = 10 * p.1 + (S[i].toNat - 48) := by omega
      simp [hlt, hlo, hhi, hwi, hw8, w1, w2, w3, ]
      refine back (i + 1) ⟨by omega, fun b hb => ?_⟩ (by omega) rfl (by simp <;> omega) (by simp [hst, hex]) (by simp)
      rw [List.take_succ_eq_append_getElem hlt] at hb
      rcases List.mem_append.1 hb with hb | hb
      · exact hi.2 b hb
      · rw [List.mem_singleton.1 hb]; exact hd
    · have hall : S.take i = S := List.take_of_length_le (by omega)
      rw [hall] at hbd hb11 hi ⊢
      obtain ⟨hv, hzz⟩ := hok hi.2
      have hn : prsN S = (prsZ S).getD 0 := rfl
      rw [← hx] at hv hzz hz
      obtain ⟨p, hp⟩ : ∃ p, p = digs S := ⟨_, rfl⟩
      rw [← hp] at hv hbd ⊢
      have wneg : IntKind.i64.wrap (-p.1) = -p.1 := wrap64_of (by omega) (by omega)
      have wneg2 : IntKind.i64.wrap (0 - p.1) = -p.1 := by rw [Int.zero_sub]; exact wneg
      simp [hlt, wneg, wneg2, ]
      rw [← hv]
      refine call_f (w_impl_FormatInt x hz.2) (by simp) rfl fun hs1 hh1 => ?_
      simp at hh1
      rw [hn, hzz]
      by_cases e : decZ x = S
      · rw [if_pos e]
        simp [e, ]
      · rw [if_neg e]
        simp [e, ]
end

end Go.Proofs.Ytlmnjomekklnkaa

namespace Go.Proofs.Ytlmnjomekklnkaa
open Go.Vs Go.Proofs Go
set_option maxRecDepth 100000
set_option maxHeartbeats 1000000

section
attribute [local simp] plI_id plStr_id map_plI map_plStr pS cP cI cStr cU8 cB
theorem w_spec_l32Run (v : Int) (nm : List UInt8) (hv : inZ v) (hb : nm.length ≤ 4611686018427387904) : VC Try.prog 112 [.d (.int .i64 v), .d (.str nm)] (fun _ r => r = .d (.str (runNm v nm))) := by
  refine VC.ofL EP s112 (by kernel_rfl) Try.func112 (by rfl) (by kernel_rfl) (by simp [Try.f112]) (by simp [Try.f112]) s112_ok fun B hl => ?_
  have hl := decZ_len hv
  simp [Try.f112, ]
  refine call_f (w_spec_FormatInt v hv) (by simp) rfl fun hs1 hh1 => ?_
  simp [runNm]
  omega
theorem w_spec_l32Head (v : Int) (hv : inZ v) : VC Try.prog 84 [.d (.int .i64 v)] (fun _ r => r = .d (.str ([109] ++ decZ v))) := by
  refine VC.ofL EP s84 (by kernel_rfl) Try.func84 (by rfl) (by kernel_rfl) (by simp [Try.f84]) (by simp [Try.f84]) s84_ok fun B hl => ?_
  have hl := decZ_len hv
  simp [Try.f84, ]
  refine call_f (w_spec_FormatInt v hv) (by simp) rfl fun hs1 hh1 => ?_
  simp
  omega
theorem w_impl_formatList (l : List Int) (hz : ∀ x ∈ l, inZ x) (hb : l.length ≤ 1000000) : VC Try.prog 173 [.d (pS cI l), .d (.str [44])] (fun _ r => r = .d (.str (joinB [44] (l.map decZ)))) := by
  refine VC.ofL EP s173 (by kernel_rfl) Try.func173 (by rfl) (by kernel_rfl) (by simp [Try.f173]) (by simp [Try.f173]) s173_ok fun B hl => ?_
  have hW := strW_map decZ 1 21 l fun x hx => decZ_len (hz x hx)
  simp [Try.f173, ]
  refine loop_ruleL (X := Nat) (fun i _ => i ≤ l.length) (fun i => [(1, .d (.str [44])), (5, .own 19 0 i), (8, .d (.pl (l.map cI))), (9, .d (.int .i64 l.length)), (10, .d (.int .i64 i))]) (fun i => [(19, some (.row 9 1 (((l.take i).map decZ).map cStr)))]) (fun i => l.length - i) ?_ ?_
  · refine (lead_slot 5 19 9 1 (by omega) (by omega) (by simp)).bind ?_
    rintro _ rfl
    exact Lead.of ⟨0, by omega, rfl, rfl, Nat.le_refl _, by simp, by simp⟩
  intro i hs t m hi hh
  by_cases hlt : i < l.length
  · have hwi := wr1 (i := i) (by omega)
    have hL : LenOk 16 (i + 1) := ⟨by omega, by simp only [maxLen]; omega⟩
    have hst : (l.take (i + 1)).map decZ = (l.take i).map decZ ++ [decZ l[i]] := by rw [List.take_succ_eq_append_getElem hlt, List.map_append]; rfl
    simp [hlt, ]
    refine call_f (w_impl_FormatInt l[i] (hz _ (List.getElem_mem hlt))) (by simp) rfl fun hs2 hh2 => ?_
    simp at hh2
    simp [hwi, hL, ]
    have hst2 : List.take (i + 1) (List.map (cStr ∘ decZ) l) = List.take i (List.map (cStr ∘ decZ) l) ++ [cStr (decZ l[i])] := by
      rw [List.take_succ_eq_append_getElem (by simpa using hlt)]; simp
    refine ⟨by omega, ?_⟩
    exact back2 (i + 1) (by omega) (by omega) rfl (by simp <;> omega) (by simp) (by simp [hst2])
  · have hn : i = l.length := by omega
    subst hn
    simp [List.take_of_length_le, ]
    refine call_f (w_impl_join (l.map decZ) [44] (Nat.le_trans hW (by omega))) (by simp [List.take_of_length_le]) rfl fun hs2 hh2 => ?_
    simp
theorem w_spec_l5RowText (l : List Int) (hz : ∀ x ∈ l, inZ x) (hb : l.length ≤ 1000000) : VC Try.prog 175 [.d (pS cI l)] (fun _ r => r = .d (.str (fmtRow l))) := by
  refine VC.ofL EP s175 (by kernel_rfl) Try.func175 (by rfl) (by kernel_rfl) (by simp [Try.f175]) (by simp [Try.f175]) s175_ok fun B hl => ?_
  have hW := strW_map decZ 1 21 l fun x hx => decZ_len (hz x hx)
  simp [Try.f175, ]
  refine loop_rule (X := Nat) (fun i => i ≤ l.length) (fun i => [(0, .d (.pl (l.map cI))), (3, .d (.str ([40] ++ joinB [44] ((l.map decZ).take i)))), (4, .d (.int .i64 i))]) (fun _ => []) (fun i => l.length - i) 0 (by simp) (by simp [joinB]) (by simp) ?_
  intro i hs t m hi hh
  have hj : (joinB [44] ((l.map decZ).take i)).length ≤ strW 1 ((l.map decZ).take i) := joinB_len [44] _
  have hWt := strW_take 1 (l.map decZ) i
  by_cases hlt : i < l.length
  · have hwi := wr1 (i := i) (by omega)
    have hil : i < (l.map decZ).length := by simpa using hlt
    have hst := joinB_step (sep := [44]) hil
    have hat := strW_at (s := 1) hil
    rw [List.getElem_map] at hst hat
    obtain ⟨s, hse⟩ : ∃ s, s = joinB [44] ((l.map decZ).take i) := ⟨_, rfl⟩
    rw [← hse] at hst hj ⊢
    have hzi := hz _ (List.getElem_mem hlt)
    have hdl := decZ_len hzi
    by_cases h0 : i = 0
    · subst h0
      have hwi0 : IntKind.i64.wrap 1 = 1 := by simpa using hwi
      simp only [if_true, List.append_nil] at hst
      simp [hlt, ]
      refine call_f (w_spec_FormatInt l[0] hzi) (by simp) rfl fun hs2 hh2 => ?_
      simp at hh2
      simp [hwi0, ]
      refine ⟨by omega, ?_⟩
      exact back 1 (by omega) (by omega) rfl (by simp <;> omega) (by simp; simpa using hst.symm) (by simp)
    · have h0' : 0 < i := by omega
      simp only [h0, if_false] at hst
      simp [hlt, h0, h0', ]
      refine ⟨by omega, ?_⟩
      refine call_f (w_spec_FormatInt l[i] hzi) (by simp) rfl fun hs2 hh2 => ?_
      simp at hh2
      simp [hwi, ]
      refine ⟨by omega, ?_⟩
      exact back (i + 1) (by omega) (by omega) rfl (by simp <;> omega) (by simp; simpa using hst.symm) (by simp)
  · have hd : (l.map decZ).take i = l.map decZ := List.take_of_length_le (by simp; omega)
    rw [hd] at hj ⊢
    simp [hlt, fmtRow]
    omega
theorem w_impl_FormatRelation (r : PReln) : VC Try.prog 109 [.agg ((eReln r).map V.d)] (fun _ v => v = .d (.str (fmtRel r))) := by
  refine VC.ofL EP s109 (by kernel_rfl) Try.func109 (by rfl) (by kernel_rfl) (by simp [Try.f109]) (by simp [Try.f109]) s109_ok fun B hl => ?_
  obtain ⟨ar, l⟩ := r
  have hFL := fmtRel_len ⟨ar, l⟩
  simp [Try.f109, eReln]
  refine call_f (w_impl_IsValidRelation ⟨ar, l⟩) (by simp [eReln]) rfl fun hs1 hh1 => ?_
  simp at hh1
  cases h : rowsOk ar l
  · simp [fmtRel, h]
  have hlen := rowsOk_len h
  have hz : ∀ x ∈ l, ∀ y ∈ x, inZ y := fun x hx => valsOk_inZ (rowsOk_mem h hx).2
  have hr5 := rowsOk_row h
  have hW := strW_map fmtRow 1 112 l fun x hx => (fmtRow_len (hz x hx) (hr5 x hx)).1
  have har := rowsOk_inR h
  simp only [inR, Bool.and_eq_true, decide_eq_true_eq] at har
  have haz : inZ ar := by simp only [inZ]; omega
  have hF : fmtRel ⟨ar, l⟩ = decZ ar ++ [58] ++ joinB [32] (l.map fmtRow) := by simp only [fmtRel, h, if_true]
  rw [hF] at hFL ⊢
  simp only [List.length_append, List.length_singleton] at hFL
  simp []
  refine loop_ruleL (X := Nat) (fun i _ => i ≤ l.length) (fun i => [(1, .ptr 1 0 0), (3, .own 22 0 i), (10, .d (.pl (l.map (cP cI)))), (11, .d (.int .i64 l.length)), (12, .d (.int .i64 i))]) (fun i => [(1, some (.box [.d (.int .i64 ar), .d (.pl (l.map (cP cI)))])), (22, some (.row 9 1 (((l.take i).map fmtRow).map cStr)))]) (fun i => l.length - i) ?_ ?_
  · refine (lead_slot 3 22 9 1 (by omega) (by omega) (by simp)).bind ?_
    rintro _ rfl
    exact Lead.of ⟨0, by omega, rfl, rfl, Nat.le_refl _, by simp, by simp⟩
  intro i hs t m hi hh
  by_cases hlt : i < l.length
  · have hwi := wr1 (i := i) (by omega)
    have hL : LenOk 16 (i + 1) := ⟨by omega, by simp only [maxLen]; omega⟩
    have hx := List.getElem_mem hlt
    have hrl := fmtRow_len (hz _ hx) (hr5 _ hx)
    have hjl : (joinB [44] (l[i].map decZ)).length ≤ 110 := Nat.le_trans (joinB_len [44] _) hrl.2
    simp [hlt, ]
    refine call_f (w_impl_formatList l[i] (hz _ hx) (by have := hr5 _ hx; omega)) (by simp) rfl fun hs2 hh2 => ?_
    simp at hh2
    simp [hwi, hL, ]
    have hst2 : List.take (i + 1) (List.map (cStr ∘ fmtRow) l) = List.take i (List.map (cStr ∘ fmtRow) l) ++ [cStr (fmtRow l[i])] := by
      rw [List.take_succ_eq_append_getElem (by simpa using hlt)]; simp
    refine ⟨by omega, by omega, by omega, ?_⟩
    exact back2 (i + 1) (by omega) (by omega) rfl (by simp <;> omega) (by simp) (by simp [hst2, fmtRow])
  · have hn : i = l.length := by omega
    subst hn
    simp [List.take_of_length_le, ]
    refine call_f (w_impl_FormatInt ar haz) (by simp) rfl fun hs2 hh2 => ?_
    simp at hh2
    simp [List.take_of_length_le, ]
    refine ⟨by omega, ?_⟩
    refine call_f (w_impl_join (l.map fmtRow) [32] (Nat.le_trans hW (by omega))) (by simp [List.take_of_length_le]) rfl fun hs3 hh3 => ?_
    simp
    omega
theorem w_spec_FormatRelation (r : PReln) : VC Try.prog 111 [.agg ((eReln r).map V.d)] (fun _ v => v = .d (.str (fmtRel r))) := by
  refine VC.ofL EP s111 (by kernel_rfl) Try.func111 (by rfl) (by kernel_rfl) (by simp [Try.f111]) (by simp [Try.f111]) s111_ok fun B hl => ?_
  obtain ⟨ar, l⟩ := r
  have hFL := fmtRel_len ⟨ar, l⟩
  simp [Try.f111, eReln]
  refine call_f (w_spec_IsValidRelation ⟨ar, l⟩) (by simp [eReln]) rfl fun hs1 hh1 => ?_
  simp at hh1
  cases h : rowsOk ar l
  · simp [fmtRel, h]
  have hlen := rowsOk_len h
  have hz : ∀ x ∈ l, ∀ y ∈ x, inZ y := fun x hx => valsOk_inZ (rowsOk_mem h hx).2
  have hr5 := rowsOk_row h
  have hW := strW_map fmtRow 1 112 l fun x hx => (fmtRow_len (hz x hx) (hr5 x hx)).1
  have har := rowsOk_inR h
  simp only [inR, Bool.and_eq_true, decide_eq_true_eq] at har
  have haz : inZ ar := by simp only [inZ]; omega
  have hda := decZ_len haz
  have hF : fmtRel ⟨ar, l⟩ = decZ ar ++ [58] ++ joinB [32] (l.map fmtRow) := by simp only [fmtRel, h, if_true]
  rw [hF] at hFL ⊢
  simp []
  refine call_f (w_spec_FormatInt ar haz) (by simp) rfl fun hs2 hh2 => ?_
  simp at hh2
  simp []
  refine ⟨by omega, ?_⟩
  refine loop_rule (X := Nat) (fun i => i ≤ l.length) (fun i => [(1, .ptr 1 0 0), (3, .d (.str (decZ ar ++ [58] ++ joinB [32] ((l.map fmtRow).take i)))), (4, .d (.int .i64 i))]) (fun _ => [(1, some (.box [.d (.int .i64 ar), .d (.pl (l.map (cP cI)))]))]) (fun i => l.length - i) 0 (by simp) (by simp [joinB]) (by simp) ?_
  intro i hs t m hi hh
  have hj : (joinB [32] ((l.map fmtRow).take i)).length ≤ strW 1 ((l.map fmtRow).take i) := joinB_len [32] _
  have hWt := strW_take 1 (l.map fmtRow) i
  by_cases hlt : i < l.length
  · have hwi := wr1 (i := i) (by omega)
    have hil : i < (l.map fmtRow).length := by simpa using hlt
    have hst := joinB_step (sep := [32]) hil
    have hat := strW_at (s := 1) hil
    rw [List.getElem_map] at hst hat
    obtain ⟨s, hse⟩ : ∃ s, s = joinB [32] ((l.map fmtRow).take i) := ⟨_, rfl⟩
    rw [← hse] at hst hj ⊢
    have hx := List.getElem_mem hlt
    have hb5 := hr5 _ hx
    by_cases h0 : i = 0
    · subst h0
      have hwi0 : IntKind.i64.wrap 1 = 1 := by simpa using hwi
      simp only [if_true, List.append_nil] at hst
      simp [hlt, ]
      refine call_f (w_spec_l5RowText l[0] (hz _ hx) (by omega)) (by simp) rfl fun hs2 hh2 => ?_
      simp at hh2
      simp [hwi0, ]
      refine ⟨by omega, ?_⟩
      exact back 1 (by omega) (by omega) rfl (by simp <;> omega) (by simp; simpa using hst.symm) (by simp)
    · have h0' : 0 < i := by omega
      simp only [h0, if_false] at hst
      simp [hlt, h0, h0', ]
      refine ⟨by omega, ?_⟩
      refine call_f (w_spec_l5RowText l[i] (hz _ hx) (by omega)) (by simp) rfl fun hs2 hh2 => ?_
      simp at hh2
      simp [hwi, ]
      refine ⟨by omega, ?_⟩
      exact back (i + 1) (by omega) (by omega) rfl (by simp <;> omega) (by simp; simpa using hst.symm) (by simp)
  · have hd : (l.map fmtRow).take i = l.map fmtRow := List.take_of_length_le (by simp; omega)
    rw [hd] at hj ⊢
    simp [hlt]
end

end Go.Proofs.Ytlmnjomekklnkaa
