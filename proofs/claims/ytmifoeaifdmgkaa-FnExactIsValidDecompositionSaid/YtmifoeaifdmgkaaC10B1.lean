/-
  C10B1: a part of a proof of this seat: the value-level semantics of Go code without maps, its walk rules, the frame of a row, facts of types, schedules, walks, plain lemmas (Facts1 Sched1 H0 HP1 HP2 H1 HP3 P1 Q1 Q2 Q3 D1 D2 D3 LD1). It holds of every program and state that its hypotheses name.
-/
import Derived.Test.YtmifoeaifdmgkaaA4
import Derived.Test.YtmifoeaifdmgkaaProg
import Derived.KernelRfl
set_option linter.unusedSimpArgs false
set_option linter.unusedVariables false
set_option linter.unnecessarySimpa false
namespace Go.Proofs.Ytmifoeaifdmgkaa
open Go.Vs Go.Proofs

theorem tsz3 : tsz Try.prog 3 = some 1 := by kernel_rfl
theorem tsz4 : tsz Try.prog 4 = some 1 := by kernel_rfl
theorem tsz5 : tsz Try.prog 5 = some 1 := by kernel_rfl
theorem tsz9 : tsz Try.prog 9 = some 1 := by kernel_rfl
theorem tsz22 : tsz Try.prog 22 = some 1 := by kernel_rfl
theorem tsz23 : tsz Try.prog 23 = some 1 := by kernel_rfl
theorem tsz25 : tsz Try.prog 25 = some 2 := by kernel_rfl
theorem tsz28 : tsz Try.prog 28 = some 2 := by kernel_rfl
theorem tsz32 : tsz Try.prog 32 = some 1 := by kernel_rfl
theorem tsz34 : tsz Try.prog 34 = some 3 := by kernel_rfl
theorem tsz37 : tsz Try.prog 37 = some 1 := by kernel_rfl
theorem tsz39 : tsz Try.prog 39 = some 3 := by kernel_rfl
theorem tsz53 : tsz Try.prog 53 = some 1 := by kernel_rfl
theorem tsz55 : tsz Try.prog 55 = some 2 := by kernel_rfl
theorem tsz58 : tsz Try.prog 58 = some 1 := by kernel_rfl
theorem tsz60 : tsz Try.prog 60 = some 2 := by kernel_rfl
theorem tsz63 : tsz Try.prog 63 = some 1 := by kernel_rfl
theorem tsz66 : tsz Try.prog 66 = some 3 := by kernel_rfl
theorem tsz79 : tsz Try.prog 79 = some 2 := by kernel_rfl
theorem tsz97 : tsz Try.prog 97 = some 1 := by kernel_rfl
theorem tsz103 : tsz Try.prog 103 = some 2 := by kernel_rfl
theorem tsz115 : tsz Try.prog 115 = some 1 := by kernel_rfl
theorem tsz117 : tsz Try.prog 117 = some 1 := by kernel_rfl
theorem tsz138 : tsz Try.prog 138 = some 2 := by kernel_rfl
theorem tsz144 : tsz Try.prog 144 = some 1 := by kernel_rfl
theorem tsz146 : tsz Try.prog 146 = some 1 := by kernel_rfl
theorem tsz148 : tsz Try.prog 148 = some 3 := by kernel_rfl
theorem tsz166 : tsz Try.prog 166 = some 2 := by kernel_rfl
theorem tsz168 : tsz Try.prog 168 = some 3 := by kernel_rfl
theorem tagg3 : tagg Try.prog 3 = some false := by kernel_rfl
theorem tagg4 : tagg Try.prog 4 = some false := by kernel_rfl
theorem tagg5 : tagg Try.prog 5 = some false := by kernel_rfl
theorem tagg9 : tagg Try.prog 9 = some false := by kernel_rfl
theorem tagg22 : tagg Try.prog 22 = some false := by kernel_rfl
theorem tagg23 : tagg Try.prog 23 = some false := by kernel_rfl
theorem tagg25 : tagg Try.prog 25 = some true := by kernel_rfl
theorem tagg28 : tagg Try.prog 28 = some true := by kernel_rfl
theorem tagg32 : tagg Try.prog 32 = some false := by kernel_rfl
theorem tagg34 : tagg Try.prog 34 = some true := by kernel_rfl
theorem tagg37 : tagg Try.prog 37 = some false := by kernel_rfl
theorem tagg39 : tagg Try.prog 39 = some true := by kernel_rfl
theorem tagg53 : tagg Try.prog 53 = some false := by kernel_rfl
theorem tagg55 : tagg Try.prog 55 = some true := by kernel_rfl
theorem tagg58 : tagg Try.prog 58 = some false := by kernel_rfl
theorem tagg60 : tagg Try.prog 60 = some true := by kernel_rfl
theorem tagg63 : tagg Try.prog 63 = some false := by kernel_rfl
theorem tagg66 : tagg Try.prog 66 = some true := by kernel_rfl
theorem tagg79 : tagg Try.prog 79 = some true := by kernel_rfl
theorem tagg97 : tagg Try.prog 97 = some true := by kernel_rfl
theorem tagg103 : tagg Try.prog 103 = some true := by kernel_rfl
theorem tagg115 : tagg Try.prog 115 = some false := by kernel_rfl
theorem tagg117 : tagg Try.prog 117 = some true := by kernel_rfl
theorem tagg138 : tagg Try.prog 138 = some true := by kernel_rfl
theorem tagg144 : tagg Try.prog 144 = some false := by kernel_rfl
theorem tagg146 : tagg Try.prog 146 = some true := by kernel_rfl
theorem tagg148 : tagg Try.prog 148 = some true := by kernel_rfl
theorem tagg166 : tagg Try.prog 166 = some true := by kernel_rfl
theorem tagg168 : tagg Try.prog 168 = some true := by kernel_rfl
theorem tzero3 : tzero Try.prog 3 = some [.int .i64 0] := by kernel_rfl
theorem tzero4 : tzero Try.prog 4 = some [.bool false] := by kernel_rfl
theorem tzero23 : tzero Try.prog 23 = some [.sl none none []] := by kernel_rfl
theorem tzero28 : tzero Try.prog 28 = some [.sl none none [], .sl none none []] := by kernel_rfl
theorem tzero39 : tzero Try.prog 39 = some [.int .i64 0, .sl none none [], .sl none none []] := by kernel_rfl
theorem tzero60 : tzero Try.prog 60 = some [.int .i64 0, .sl none none []] := by kernel_rfl
theorem tzero66 : tzero Try.prog 66 = some [.int .i64 0, .sl none none [], .sl none none []] := by kernel_rfl
theorem tzero79 : tzero Try.prog 79 = some [.int .i64 0, .sl none none []] := by kernel_rfl
theorem tzero97 : tzero Try.prog 97 = some [.sl none none []] := by kernel_rfl
theorem tzero103 : tzero Try.prog 103 = some [.str [], .sl none none []] := by kernel_rfl
theorem tzero117 : tzero Try.prog 117 = some [.sl none none []] := by kernel_rfl
theorem tzero148 : tzero Try.prog 148 = some [.str [], .int .i64 0, .sl none none []] := by kernel_rfl
theorem tzero151 : tzero Try.prog 151 = some [.sl none none [], .int .i64 0, .int .i64 0] := by kernel_rfl
theorem tslice22 : tslice Try.prog 22 = some (23, 1, 24) := by kernel_rfl
theorem telem22 : telem Try.prog 22 = some 23 := by kernel_rfl
theorem tslice23 : tslice Try.prog 23 = some (3, 1, 8) := by kernel_rfl
theorem telem23 : telem Try.prog 23 = some 3 := by kernel_rfl
theorem tslice32 : tslice Try.prog 32 = some (138, 2, 40) := by kernel_rfl
theorem telem32 : telem Try.prog 32 = some 138 := by kernel_rfl
theorem tslice37 : tslice Try.prog 37 = some (103, 2, 40) := by kernel_rfl
theorem telem37 : telem Try.prog 37 = some 103 := by kernel_rfl
theorem tslice53 : tslice Try.prog 53 = some (146, 1, 24) := by kernel_rfl
theorem telem53 : telem Try.prog 53 = some 146 := by kernel_rfl
theorem tslice58 : tslice Try.prog 58 = some (117, 1, 24) := by kernel_rfl
theorem telem58 : telem Try.prog 58 = some 117 := by kernel_rfl
theorem tslice63 : tslice Try.prog 63 = some (5, 1, 1) := by kernel_rfl
theorem telem63 : telem Try.prog 63 = some 5 := by kernel_rfl
theorem tslice87 : tslice Try.prog 87 = some (9, 1, 16) := by kernel_rfl
theorem telem87 : telem Try.prog 87 = some 9 := by kernel_rfl
theorem tslice108 : tslice Try.prog 108 = some (4, 1, 1) := by kernel_rfl
theorem telem108 : telem Try.prog 108 = some 4 := by kernel_rfl
theorem tslice115 : tslice Try.prog 115 = some (148, 3, 48) := by kernel_rfl
theorem telem115 : telem Try.prog 115 = some 148 := by kernel_rfl
theorem tslice144 : tslice Try.prog 144 = some (168, 3, 48) := by kernel_rfl
theorem telem144 : telem Try.prog 144 = some 168 := by kernel_rfl
theorem tstr9 : tstr Try.prog 9 = some true := by kernel_rfl
theorem tstr22 : tstr Try.prog 22 = some false := by kernel_rfl
theorem tstr23 : tstr Try.prog 23 = some false := by kernel_rfl
theorem tstr32 : tstr Try.prog 32 = some false := by kernel_rfl
theorem tstr37 : tstr Try.prog 37 = some false := by kernel_rfl
theorem tstr53 : tstr Try.prog 53 = some false := by kernel_rfl
theorem tstr58 : tstr Try.prog 58 = some false := by kernel_rfl
theorem tstr63 : tstr Try.prog 63 = some false := by kernel_rfl
theorem tstr87 : tstr Try.prog 87 = some false := by kernel_rfl
theorem tstr108 : tstr Try.prog 108 = some false := by kernel_rfl
theorem tstr115 : tstr Try.prog 115 = some false := by kernel_rfl
theorem tstr144 : tstr Try.prog 144 = some false := by kernel_rfl
theorem tfld28 : tfld Try.prog 28 = true := by kernel_rfl
theorem tfld39 : tfld Try.prog 39 = true := by kernel_rfl
theorem tfld60 : tfld Try.prog 60 = true := by kernel_rfl
theorem tfld66 : tfld Try.prog 66 = true := by kernel_rfl
theorem tfld79 : tfld Try.prog 79 = true := by kernel_rfl
theorem tfld97 : tfld Try.prog 97 = true := by kernel_rfl
theorem tfld103 : tfld Try.prog 103 = true := by kernel_rfl
theorem tfld117 : tfld Try.prog 117 = true := by kernel_rfl
theorem tfld148 : tfld Try.prog 148 = true := by kernel_rfl
theorem tfld151 : tfld Try.prog 151 = true := by kernel_rfl
theorem foff25_0 : foff Try.prog 25 0 = some (0, 1) := by kernel_rfl
theorem foff25_1 : foff Try.prog 25 1 = some (1, 1) := by kernel_rfl
theorem foff28_0 : foff Try.prog 28 0 = some (0, 1) := by kernel_rfl
theorem foff28_1 : foff Try.prog 28 1 = some (1, 1) := by kernel_rfl
theorem foff34_0 : foff Try.prog 34 0 = some (0, 1) := by kernel_rfl
theorem foff34_1 : foff Try.prog 34 1 = some (1, 1) := by kernel_rfl
theorem foff34_2 : foff Try.prog 34 2 = some (2, 1) := by kernel_rfl
theorem foff39_0 : foff Try.prog 39 0 = some (0, 1) := by kernel_rfl
theorem foff39_1 : foff Try.prog 39 1 = some (1, 1) := by kernel_rfl
theorem foff39_2 : foff Try.prog 39 2 = some (2, 1) := by kernel_rfl
theorem foff55_0 : foff Try.prog 55 0 = some (0, 1) := by kernel_rfl
theorem foff55_1 : foff Try.prog 55 1 = some (1, 1) := by kernel_rfl
theorem foff60_0 : foff Try.prog 60 0 = some (0, 1) := by kernel_rfl
theorem foff60_1 : foff Try.prog 60 1 = some (1, 1) := by kernel_rfl
theorem foff66_0 : foff Try.prog 66 0 = some (0, 1) := by kernel_rfl
theorem foff66_1 : foff Try.prog 66 1 = some (1, 1) := by kernel_rfl
theorem foff66_2 : foff Try.prog 66 2 = some (2, 1) := by kernel_rfl
theorem foff79_0 : foff Try.prog 79 0 = some (0, 1) := by kernel_rfl
theorem foff79_1 : foff Try.prog 79 1 = some (1, 1) := by kernel_rfl
theorem foff97_0 : foff Try.prog 97 0 = some (0, 1) := by kernel_rfl
theorem foff103_0 : foff Try.prog 103 0 = some (0, 1) := by kernel_rfl
theorem foff103_1 : foff Try.prog 103 1 = some (1, 1) := by kernel_rfl
theorem foff117_0 : foff Try.prog 117 0 = some (0, 1) := by kernel_rfl
theorem foff138_0 : foff Try.prog 138 0 = some (0, 1) := by kernel_rfl
theorem foff138_1 : foff Try.prog 138 1 = some (1, 1) := by kernel_rfl
theorem foff146_0 : foff Try.prog 146 0 = some (0, 1) := by kernel_rfl
theorem foff148_0 : foff Try.prog 148 0 = some (0, 1) := by kernel_rfl
theorem foff148_1 : foff Try.prog 148 1 = some (1, 2) := by kernel_rfl
theorem foff151_0 : foff Try.prog 151 0 = some (0, 1) := by kernel_rfl
theorem foff151_1 : foff Try.prog 151 1 = some (1, 1) := by kernel_rfl
theorem foff151_2 : foff Try.prog 151 2 = some (2, 1) := by kernel_rfl
theorem foff166_0 : foff Try.prog 166 0 = some (0, 1) := by kernel_rfl
theorem foff166_1 : foff Try.prog 166 1 = some (1, 1) := by kernel_rfl
theorem foff168_0 : foff Try.prog 168 0 = some (0, 1) := by kernel_rfl
theorem foff168_1 : foff Try.prog 168 1 = some (1, 2) := by kernel_rfl
attribute [simp] tsz3 tsz4 tsz5 tsz9 tsz22 tsz23 tsz25 tsz28 tsz32 tsz34 tsz37 tsz39 tsz53 tsz55 tsz58 tsz60 tsz63 tsz66 tsz79 tsz97 tsz103 tsz115 tsz117 tsz138 tsz144 tsz146 tsz148 tsz166 tsz168 tagg3 tagg4 tagg5 tagg9 tagg22 tagg23 tagg25 tagg28 tagg32 tagg34 tagg37 tagg39 tagg53 tagg55 tagg58 tagg60 tagg63 tagg66 tagg79 tagg97 tagg103 tagg115 tagg117 tagg138 tagg144 tagg146 tagg148 tagg166 tagg168 tzero3 tzero4 tzero23 tzero28 tzero39 tzero60 tzero66 tzero79 tzero97 tzero103 tzero117 tzero148 tzero151 tslice22 telem22 tslice23 telem23 tslice32 telem32 tslice37 telem37 tslice53 telem53 tslice58 telem58 tslice63 telem63 tslice87 telem87 tslice108 telem108 tslice115 telem115 tslice144 telem144 tstr9 tstr22 tstr23 tstr32 tstr37 tstr53 tstr58 tstr63 tstr87 tstr108 tstr115 tstr144 tfld28 tfld39 tfld60 tfld66 tfld79 tfld97 tfld103 tfld117 tfld148 tfld151 foff25_0 foff25_1 foff28_0 foff28_1 foff34_0 foff34_1 foff34_2 foff39_0 foff39_1 foff39_2 foff55_0 foff55_1 foff60_0 foff60_1 foff66_0 foff66_1 foff66_2 foff79_0 foff79_1 foff97_0 foff103_0 foff103_1 foff117_0 foff138_0 foff138_1 foff146_0 foff148_0 foff148_1 foff151_0 foff151_1 foff151_2 foff166_0 foff166_1 foff168_0 foff168_1
end Go.Proofs.Ytmifoeaifdmgkaa

namespace Go.Proofs.Ytmifoeaifdmgkaa
open Go.Vs Go.Proofs Go

/-- the functions that write what they are handed -/
def E : Md := ⟨fun f => [20, 21, 29, 67, 68, 94, 95, 96, 98, 110, 135, 137, 142, 148].contains f, false⟩
/-- as E; slices are known by elements only -/
def EP : Md := ⟨E.e, true⟩
@[simp] theorem E_p : E.p = false := Eq.trans rfl rfl
@[simp] theorem EP_p : EP.p = true := Eq.trans rfl rfl

theorem E20 : E 20 = true := rfl
theorem EP20 : EP 20 = true := rfl
theorem E21 : E 21 = true := rfl
theorem EP21 : EP 21 = true := rfl
theorem E29 : E 29 = true := rfl
theorem EP29 : EP 29 = true := rfl
theorem E67 : E 67 = true := rfl
theorem EP67 : EP 67 = true := rfl
theorem E68 : E 68 = true := rfl
theorem EP68 : EP 68 = true := rfl
theorem E94 : E 94 = true := rfl
theorem EP94 : EP 94 = true := rfl
theorem E95 : E 95 = true := rfl
theorem EP95 : EP 95 = true := rfl
theorem E96 : E 96 = true := rfl
theorem EP96 : EP 96 = true := rfl
theorem E98 : E 98 = true := rfl
theorem EP98 : EP 98 = true := rfl
theorem E110 : E 110 = true := rfl
theorem EP110 : EP 110 = true := rfl
theorem E135 : E 135 = true := rfl
theorem EP135 : EP 135 = true := rfl
theorem E137 : E 137 = true := rfl
theorem EP137 : EP 137 = true := rfl
theorem E142 : E 142 = true := rfl
theorem EP142 : EP 142 = true := rfl
theorem E148 : E 148 = true := rfl
theorem EP148 : EP 148 = true := rfl
/-- the orders of laws.FnExactFormatDecomposition -/
def s3 (i : Nat) : Tr := if i = 10 then .seq [0, 1, 2, 3, 4] .nil else .nil
theorem s3_10 : s3 10 = .seq [0, 1, 2, 3, 4] .nil := rfl
theorem s3_ok : okCode E 27 s3 (Try.f3.body.getD .skip) = true := by kernel_rfl
/-- the orders of laws.FnExactSingleBagDecomposition -/
def s4 (i : Nat) : Tr := if i = 10 then .seq [0, 1, 2, 3, 4] .nil else .nil
theorem s4_10 : s4 10 = .seq [0, 1, 2, 3, 4] .nil := rfl
theorem s4_ok : okCode E 69 s4 (Try.f4.body.getD .skip) = true := by kernel_rfl
/-- the orders of laws.FnExactIsValidDecomposition -/
def s5 (i : Nat) : Tr := if i = 8 then .seq [0, 2, 1, 3, 4, 5] .nil else if i = 14 then .seq [0, 1, 2, 3, 4] .nil else if i = 16 then .seq [0, 1, 2, 3, 4] .nil else .nil
theorem s5_8 : s5 8 = .seq [0, 2, 1, 3, 4, 5] .nil := rfl
theorem s5_14 : s5 14 = .seq [0, 1, 2, 3, 4] .nil := rfl
theorem s5_16 : s5 16 = .seq [0, 1, 2, 3, 4] .nil := rfl
theorem s5_ok : okCode E 45 s5 (Try.f5.body.getD .skip) = true := by kernel_rfl
/-- the orders of laws.FnExactDecompositionFromOrder -/
def s6 (i : Nat) : Tr := if i = 13 then .seq [0, 1, 2, 3, 4] .nil else .nil
theorem s6_13 : s6 13 = .seq [0, 1, 2, 3, 4] .nil := rfl
theorem s6_ok : okCode E 117 s6 (Try.f6.body.getD .skip) = true := by kernel_rfl
/-- the orders of laws.FnExactEqualHistories -/
def s7 (i : Nat) : Tr := if i = 8 then .seq [0, 2, 1, 3, 4, 5] .nil else if i = 14 then .seq [0, 1, 2, 3, 4] .nil else if i = 16 then .seq [0, 1, 2, 3, 4] .nil else .nil
theorem s7_8 : s7 8 = .seq [0, 2, 1, 3, 4, 5] .nil := rfl
theorem s7_14 : s7 14 = .seq [0, 1, 2, 3, 4] .nil := rfl
theorem s7_16 : s7 16 = .seq [0, 1, 2, 3, 4] .nil := rfl
theorem s7_ok : okCode E 45 s7 (Try.f7.body.getD .skip) = true := by kernel_rfl
/-- the orders of laws.FnCountedRelations -/
def s8 (i : Nat) : Tr := if i = 7 then .seq [0, 1, 2, 3, 4, 5, 6, 7, 8, 9, 10, 11, 12, 13, 14, 15, 17, 16, 18, 19, 20] .nil else if i = 11 then .seq [0, 1] (.both (.seq [2] (.both (.seq [3, 4, 5, 6, 7, 8, 9] .nil) (.seq [7, 3, 4, 5, 6, 8, 9] .nil))) (.seq [7, 2, 3, 4, 5, 6, 8, 9] .nil)) else if i = 12 then .seq [0, 1] (.both (.seq [2] (.both (.seq [3, 4, 5, 6, 7, 8, 9] .nil) (.seq [7, 3, 4, 5, 6, 8, 9] .nil))) (.seq [7, 2, 3, 4, 5, 6, 8, 9] .nil)) else if i = 16 then .seq [0, 1, 2, 3, 4, 5, 7, 8, 9, 10, 11, 12, 13, 14, 15, 16, 17, 6, 18, 19, 20] .nil else .nil
theorem s8_7 : s8 7 = .seq [0, 1, 2, 3, 4, 5, 6, 7, 8, 9, 10, 11, 12, 13, 14, 15, 17, 16, 18, 19, 20] .nil := rfl
theorem s8_11 : s8 11 = .seq [0, 1] (.both (.seq [2] (.both (.seq [3, 4, 5, 6, 7, 8, 9] .nil) (.seq [7, 3, 4, 5, 6, 8, 9] .nil))) (.seq [7, 2, 3, 4, 5, 6, 8, 9] .nil)) := rfl
theorem s8_12 : s8 12 = .seq [0, 1] (.both (.seq [2] (.both (.seq [3, 4, 5, 6, 7, 8, 9] .nil) (.seq [7, 3, 4, 5, 6, 8, 9] .nil))) (.seq [7, 2, 3, 4, 5, 6, 8, 9] .nil)) := rfl
theorem s8_16 : s8 16 = .seq [0, 1, 2, 3, 4, 5, 7, 8, 9, 10, 11, 12, 13, 14, 15, 16, 17, 6, 18, 19, 20] .nil := rfl
theorem s8_ok : okCode E 132 s8 (Try.f8.body.getD .skip) = true := by kernel_rfl
/-- the orders of laws.FnCountedProjection -/
def s9 (i : Nat) : Tr := if i = 26 then .seq [0, 1, 2, 3, 4, 5, 6, 7, 8, 9, 10, 11, 12, 13, 14, 15, 16, 17, 18, 19, 20, 21, 22, 23, 24, 25, 26] .nil else .nil
theorem s9_26 : s9 26 = .seq [0, 1, 2, 3, 4, 5, 6, 7, 8, 9, 10, 11, 12, 13, 14, 15, 16, 17, 18, 19, 20, 21, 22, 23, 24, 25, 26] .nil := rfl
theorem s9_ok : okCode E 130 s9 (Try.f9.body.getD .skip) = true := by kernel_rfl
/-- the orders of laws.szDecomposition -/
def s10 (_ : Nat) : Tr := .nil
theorem s10_ok : okCode E 18 s10 (Try.f10.body.getD .skip) = true := by kernel_rfl
/-- the orders of spec.FormatDecomposition -/
def s11 (_ : Nat) : Tr := .nil
theorem s11_ok : okCode E 48 s11 (Try.f11.body.getD .skip) = true := by kernel_rfl
/-- the orders of laws.toDecomposition -/
def s12 (_ : Nat) : Tr := .nil
theorem s12_ok : okCode E 13 s12 (Try.f12.body.getD .skip) = true := by kernel_rfl
/-- the orders of impl.FormatDecomposition -/
def s13 (_ : Nat) : Tr := .nil
theorem s13_ok : okCode E 49 s13 (Try.f13.body.getD .skip) = true := by kernel_rfl
/-- the orders of laws.eqDecomposition -/
def s14 (_ : Nat) : Tr := .nil
theorem s14_ok : okCode E 17 s14 (Try.f14.body.getD .skip) = true := by kernel_rfl
/-- the orders of laws.szQuery -/
def s15 (_ : Nat) : Tr := .nil
theorem s15_ok : okCode E 18 s15 (Try.f15.body.getD .skip) = true := by kernel_rfl
/-- the orders of spec.SingleBagDecomposition -/
def s16 (_ : Nat) : Tr := .nil
theorem s16_ok : okCode E 12 s16 (Try.f16.body.getD .skip) = true := by kernel_rfl
/-- the orders of laws.toQuery -/
def s17 (_ : Nat) : Tr := .nil
theorem s17_ok : okCode E 16 s17 (Try.f17.body.getD .skip) = true := by kernel_rfl
/-- the orders of impl.SingleBagDecomposition -/
def s18 (_ : Nat) : Tr := .nil
theorem s18_ok : okCode E 12 s18 (Try.f18.body.getD .skip) = true := by kernel_rfl
/-- the orders of laws.eqQuery -/
def s19 (_ : Nat) : Tr := .nil
theorem s19_ok : okCode E 22 s19 (Try.f19.body.getD .skip) = true := by kernel_rfl
/-- the orders of laws.markQuery -/
def s20 (_ : Nat) : Tr := .nil
theorem s20_ok : okCode E 14 s20 (Try.f20.body.getD .skip) = true := by kernel_rfl
/-- the orders of laws.markDecomposition -/
def s21 (_ : Nat) : Tr := .nil
theorem s21_ok : okCode E 14 s21 (Try.f21.body.getD .skip) = true := by kernel_rfl
/-- the orders of laws.heldDecomposition -/
def s22 (_ : Nat) : Tr := .nil
theorem s22_ok : okCode E 18 s22 (Try.f22.body.getD .skip) = true := by kernel_rfl
/-- the orders of spec.IsValidDecomposition -/
def s23 (i : Nat) : Tr := if i = 8 then .seq [0, 1, 2, 3, 4, 5, 6, 7, 8, 9, 10, 11, 12, 13, 14, 15, 16, 17, 18, 19, 20, 21, 22, 23, 24, 25, 26] .nil else if i = 17 then .seq [0, 1, 2, 3, 4, 5, 6, 7, 8, 9, 10, 11, 12, 13, 14] .nil else if i = 27 then .seq [0, 1, 2, 3, 4, 5, 6, 7, 8, 9, 10, 11, 12, 13, 14, 15, 16, 17, 18, 19, 20, 21, 22, 23, 24, 25, 26, 27, 28, 29] .nil else .nil
theorem s23_8 : s23 8 = .seq [0, 1, 2, 3, 4, 5, 6, 7, 8, 9, 10, 11, 12, 13, 14, 15, 16, 17, 18, 19, 20, 21, 22, 23, 24, 25, 26] .nil := rfl
theorem s23_17 : s23 17 = .seq [0, 1, 2, 3, 4, 5, 6, 7, 8, 9, 10, 11, 12, 13, 14] .nil := rfl
theorem s23_27 : s23 27 = .seq [0, 1, 2, 3, 4, 5, 6, 7, 8, 9, 10, 11, 12, 13, 14, 15, 16, 17, 18, 19, 20, 21, 22, 23, 24, 25, 26, 27, 28, 29] .nil := rfl
theorem s23_ok : okCode E 148 s23 (Try.f23.body.getD .skip) = true := by kernel_rfl
/-- the orders of impl.IsValidDecomposition -/
def s24 (i : Nat) : Tr := if i = 17 then .seq [0, 1, 2, 4, 7, 3, 5, 6, 8, 9, 10, 11, 12] .nil else .nil
theorem s24_17 : s24 17 = .seq [0, 1, 2, 4, 7, 3, 5, 6, 8, 9, 10, 11, 12] .nil := rfl
theorem s24_ok : okCode E 88 s24 (Try.f24.body.getD .skip) = true := by kernel_rfl
/-- the orders of spec.DecompositionFromOrder -/
def s25 (i : Nat) : Tr := if i = 31 then .seq [0, 1, 2, 3, 4, 5, 6, 7, 8, 9, 10, 11, 12, 13, 14, 15, 16, 17, 18, 19, 20, 21, 22, 23, 24, 25, 26, 27, 28, 29, 30, 31, 32] .nil else .nil
theorem s25_31 : s25 31 = .seq [0, 1, 2, 3, 4, 5, 6, 7, 8, 9, 10, 11, 12, 13, 14, 15, 16, 17, 18, 19, 20, 21, 22, 23, 24, 25, 26, 27, 28, 29, 30, 31, 32] .nil := rfl
theorem s25_ok : okCode E 150 s25 (Try.f25.body.getD .skip) = true := by kernel_rfl
/-- the orders of laws.toIntS -/
def s26 (_ : Nat) : Tr := .nil
theorem s26_ok : okCode E 22 s26 (Try.f26.body.getD .skip) = true := by kernel_rfl
/-- the orders of impl.DecompositionFromOrder -/
def s27 (i : Nat) : Tr := if i = 14 then .seq [0, 1, 2, 3, 4, 5, 6, 7, 8, 9] .nil else if i = 15 then .seq [0, 1, 2, 4, 3, 5, 6, 7, 8, 9] .nil else .nil
theorem s27_14 : s27 14 = .seq [0, 1, 2, 3, 4, 5, 6, 7, 8, 9] .nil := rfl
theorem s27_15 : s27 15 = .seq [0, 1, 2, 4, 3, 5, 6, 7, 8, 9] .nil := rfl
theorem s27_ok : okCode E 109 s27 (Try.f27.body.getD .skip) = true := by kernel_rfl
/-- the orders of laws.eqIntS -/
def s28 (i : Nat) : Tr := if i = 6 then .seq [0, 1, 2, 3, 4, 5, 6, 7, 8] .nil else .nil
theorem s28_6 : s28 6 = .seq [0, 1, 2, 3, 4, 5, 6, 7, 8] .nil := rfl
theorem s28_ok : okCode E 26 s28 (Try.f28.body.getD .skip) = true := by kernel_rfl
/-- the orders of laws.markIntS -/
def s29 (_ : Nat) : Tr := .nil
theorem s29_ok : okCode E 19 s29 (Try.f29.body.getD .skip) = true := by kernel_rfl
/-- the orders of laws.szHistory -/
def s30 (_ : Nat) : Tr := .nil
theorem s30_ok : okCode E 12 s30 (Try.f30.body.getD .skip) = true := by kernel_rfl
/-- the orders of spec.EqualHistories -/
def s31 (i : Nat) : Tr := if i = 6 then .seq [0, 1, 2, 3, 4, 5, 6, 7, 8, 9, 10, 11] .nil else .nil
theorem s31_6 : s31 6 = .seq [0, 1, 2, 3, 4, 5, 6, 7, 8, 9, 10, 11] .nil := rfl
theorem s31_ok : okCode E 39 s31 (Try.f31.body.getD .skip) = true := by kernel_rfl
/-- the orders of laws.toHistory -/
def s32 (_ : Nat) : Tr := .nil
theorem s32_ok : okCode E 12 s32 (Try.f32.body.getD .skip) = true := by kernel_rfl
/-- the orders of impl.EqualHistories -/
def s33 (i : Nat) : Tr := if i = 6 then .seq [0, 1, 2, 3, 4, 5, 6, 7, 8, 9, 10, 11] .nil else .nil
theorem s33_6 : s33 6 = .seq [0, 1, 2, 3, 4, 5, 6, 7, 8, 9, 10, 11] .nil := rfl
theorem s33_ok : okCode E 39 s33 (Try.f33.body.getD .skip) = true := by kernel_rfl
/-- the orders of laws.eqHistory -/
def s34 (_ : Nat) : Tr := .nil
theorem s34_ok : okCode E 16 s34 (Try.f34.body.getD .skip) = true := by kernel_rfl
/-- the orders of laws.big -/
def s35 (_ : Nat) : Tr := .nil
theorem s35_ok : okCode E 6 s35 (Try.f35.body.getD .skip) = true := by kernel_rfl
/-- the orders of spec.DrawAddCounted -/
def s36 (i : Nat) : Tr := if i = 4 then .seq [1] (.both (.seq [0, 2, 3, 4] .nil) (.seq [2, 0, 3, 4] .nil)) else if i = 5 then .seq [1, 2, 3, 4, 5] (.both (.seq [0, 6, 7, 8] .nil) (.seq [6, 0, 7, 8] .nil)) else .nil
theorem s36_4 : s36 4 = .seq [1] (.both (.seq [0, 2, 3, 4] .nil) (.seq [2, 0, 3, 4] .nil)) := rfl
theorem s36_5 : s36 5 = .seq [1, 2, 3, 4, 5] (.both (.seq [0, 6, 7, 8] .nil) (.seq [6, 0, 7, 8] .nil)) := rfl
theorem s36_ok : okCode E 22 s36 (Try.f36.body.getD .skip) = true := by kernel_rfl
/-- the orders of impl.AddCounted -/
def s37 (_ : Nat) : Tr := .nil
theorem s37_ok : okCode E 57 s37 (Try.f37.body.getD .skip) = true := by kernel_rfl
/-- the orders of spec.AddCounted -/
def s38 (i : Nat) : Tr := if i = 3 then .seq [0, 1, 3, 4, 6, 7, 10, 11, 13, 14] (.both (.seq [2] (.both (.app 5 [25, 31, 35, 38] (.both (.app 8 [25, 35, 38] (.both (.seq [9] (.both (.app 12 [25, 38] (.both (.app 15 [25] (.both (.seq [16, 17, 18, 19, 20, 21, 22] .nil) (.seq [20, 16, 17, 18, 19, 21, 22] .nil))) (.seq [20] (.app 15 [25] (.seq [16, 17, 18, 19, 21, 22] .nil))))) (.seq [20] (.app 12 [25, 38] (.app 15 [25] (.seq [16, 17, 18, 19, 21, 22] .nil)))))) (.seq [20, 9] (.app 12 [25, 38] (.app 15 [25] (.seq [16, 17, 18, 19, 21, 22] .nil)))))) (.both (.seq [9] (.both (.app 8 [25, 35, 38] (.both (.app 12 [25, 38] (.both (.app 15 [25] (.both (.seq [16, 17, 18, 19, 20, 21, 22] .nil) (.seq [20, 16, 17, 18, 19, 21, 22] .nil))) (.seq [20] (.app 15 [25] (.seq [16, 17, 18, 19, 21, 22] .nil))))) (.seq [20] (.app 12 [25, 38] (.app 15 [25] (.seq [16, 17, 18, 19, 21, 22] .nil)))))) (.seq [20] (.app 8 [25, 35, 38] (.app 12 [25, 38] (.app 15 [25] (.seq [16, 17, 18, 19, 21, 22] .nil))))))) (.seq [20] (.both (.app 8 [25, 35, 38] (.seq [9] (.app 12 [25, 38] (.app 15 [25] (.seq [16, 17, 18, 19, 21, 22] .nil))))) (.seq [9] (.app 8 [25, 35, 38] (.app 12 [25, 38] (.app 15 [25] (.seq [16, 17, 18, 19, 21, 22] .nil)))))))))) (.both (.seq [9] (.both (.app 5 [25, 31, 35, 38] (.both (.app 8 [25, 35, 38] (.both (.app 12 [25, 38] (.both (.app 15 [25] (.both (.seq [16, 17, 18, 19, 20, 21, 22] .nil) (.seq [20, 16, 17, 18, 19, 21, 22] .nil))) (.seq [20] (.app 15 [25] (.seq [16, 17, 18, 19, 21, 22] .nil))))) (.seq [20] (.app 12 [25, 38] (.app 15 [25] (.seq [16, 17, 18, 19, 21, 22] .nil)))))) (.seq [20] (.app 8 [25, 35, 38] (.app 12 [25, 38] (.app 15 [25] (.seq [16, 17, 18, 19, 21, 22] .nil))))))) (.seq [20] (.app 5 [25, 31, 35, 38] (.app 8 [25, 35, 38] (.app 12 [25, 38] (.app 15 [25] (.seq [16, 17, 18, 19, 21, 22] .nil)))))))) (.seq [20] (.both (.app 5 [25, 31, 35, 38] (.both (.app 8 [25, 35, 38] (.seq [9] (.app 12 [25, 38] (.app 15 [25] (.seq [16, 17, 18, 19, 21, 22] .nil))))) (.seq [9] (.app 8 [25, 35, 38] (.app 12 [25, 38] (.app 15 [25] (.seq [16, 17, 18, 19, 21, 22] .nil))))))) (.seq [9] (.app 5 [25, 31, 35, 38] (.app 8 [25, 35, 38] (.app 12 [25, 38] (.app 15 [25] (.seq [16, 17, 18, 19, 21, 22] .nil))))))))))) (.both (.seq [9] (.both (.seq [2] (.both (.app 5 [25, 31, 35, 38] (.both (.app 8 [25, 35, 38] (.both (.app 12 [25, 38] (.both (.app 15 [25] (.both (.seq [16, 17, 18, 19, 20, 21, 22] .nil) (.seq [20, 16, 17, 18, 19, 21, 22] .nil))) (.seq [20] (.app 15 [25] (.seq [16, 17, 18, 19, 21, 22] .nil))))) (.seq [20] (.app 12 [25, 38] (.app 15 [25] (.seq [16, 17, 18, 19, 21, 22] .nil)))))) (.seq [20] (.app 8 [25, 35, 38] (.app 12 [25, 38] (.app 15 [25] (.seq [16, 17, 18, 19, 21, 22] .nil))))))) (.seq [20] (.app 5 [25, 31, 35, 38] (.app 8 [25, 35, 38] (.app 12 [25, 38] (.app 15 [25] (.seq [16, 17, 18, 19, 21, 22] .nil)))))))) (.seq [20, 2] (.app 5 [25, 31, 35, 38] (.app 8 [25, 35, 38] (.app 12 [25, 38] (.app 15 [25] (.seq [16, 17, 18, 19, 21, 22] .nil)))))))) (.seq [20] (.both (.seq [2] (.both (.app 5 [25, 31, 35, 38] (.both (.app 8 [25, 35, 38] (.seq [9] (.app 12 [25, 38] (.app 15 [25] (.seq [16, 17, 18, 19, 21, 22] .nil))))) (.seq [9] (.app 8 [25, 35, 38] (.app 12 [25, 38] (.app 15 [25] (.seq [16, 17, 18, 19, 21, 22] .nil))))))) (.seq [9] (.app 5 [25, 31, 35, 38] (.app 8 [25, 35, 38] (.app 12 [25, 38] (.app 15 [25] (.seq [16, 17, 18, 19, 21, 22] .nil)))))))) (.seq [9, 2] (.app 5 [25, 31, 35, 38] (.app 8 [25, 35, 38] (.app 12 [25, 38] (.app 15 [25] (.seq [16, 17, 18, 19, 21, 22] .nil)))))))))) else .nil
theorem s38_3 : s38 3 = .seq [0, 1, 3, 4, 6, 7, 10, 11, 13, 14] (.both (.seq [2] (.both (.app 5 [25, 31, 35, 38] (.both (.app 8 [25, 35, 38] (.both (.seq [9] (.both (.app 12 [25, 38] (.both (.app 15 [25] (.both (.seq [16, 17, 18, 19, 20, 21, 22] .nil) (.seq [20, 16, 17, 18, 19, 21, 22] .nil))) (.seq [20] (.app 15 [25] (.seq [16, 17, 18, 19, 21, 22] .nil))))) (.seq [20] (.app 12 [25, 38] (.app 15 [25] (.seq [16, 17, 18, 19, 21, 22] .nil)))))) (.seq [20, 9] (.app 12 [25, 38] (.app 15 [25] (.seq [16, 17, 18, 19, 21, 22] .nil)))))) (.both (.seq [9] (.both (.app 8 [25, 35, 38] (.both (.app 12 [25, 38] (.both (.app 15 [25] (.both (.seq [16, 17, 18, 19, 20, 21, 22] .nil) (.seq [20, 16, 17, 18, 19, 21, 22] .nil))) (.seq [20] (.app 15 [25] (.seq [16, 17, 18, 19, 21, 22] .nil))))) (.seq [20] (.app 12 [25, 38] (.app 15 [25] (.seq [16, 17, 18, 19, 21, 22] .nil)))))) (.seq [20] (.app 8 [25, 35, 38] (.app 12 [25, 38] (.app 15 [25] (.seq [16, 17, 18, 19, 21, 22] .nil))))))) (.seq [20] (.both (.app 8 [25, 35, 38] (.seq [9] (.app 12 [25, 38] (.app 15 [25] (.seq [16, 17, 18, 19, 21, 22] .nil))))) (.seq [9] (.app 8 [25, 35, 38] (.app 12 [25, 38] (.app 15 [25] (.seq [16, 17, 18, 19, 21, 22] .nil)))))))))) (.both (.seq [9] (.both (.app 5 [25, 31, 35, 38] (.both (.app 8 [25, 35, 38] (.both (.app 12 [25, 38] (.both (.app 15 [25] (.both (.seq [16, 17, 18, 19, 20, 21, 22] .nil) (.seq [20, 16, 17, 18, 19, 21, 22] .nil))) (.seq [20] (.app 15 [25] (.seq [16, 17, 18, 19, 21, 22] .nil))))) (.seq [20] (.app 12 [25, 38] (.app 15 [25] (.seq [16, 17, 18, 19, 21, 22] .nil)))))) (.seq [20] (.app 8 [25, 35, 38] (.app 12 [25, 38] (.app 15 [25] (.seq [16, 17, 18, 19, 21, 22] .nil))))))) (.seq [20] (.app 5 [25, 31, 35, 38] (.app 8 [25, 35, 38] (.app 12 [25, 38] (.app 15 [25] (.seq [16, 17, 18, 19, 21, 22] .nil)))))))) (.seq [20] (.both (.app 5 [25, 31, 35, 38] (.both (.app 8 [25, 35, 38] (.seq [9] (.app 12 [25, 38] (.app 15 [25] (.seq [16, 17, 18, 19, 21, 22] .nil))))) (.seq [9] (.app 8 [25, 35, 38] (.app 12 [25, 38] (.app 15 [25] (.seq [16, 17, 18, 19, 21, 22] .nil))))))) (.seq [9] (.app 5 [25, 31, 35, 38] (.app 8 [25, 35, 38] (.app 12 [25, 38] (.app 15 [25] (.seq [16, 17, 18, 19, 21, 22] .nil))))))))))) (.both (.seq [9] (.both (.seq [2] (.both (.app 5 [25, 31, 35, 38] (.both (.app 8 [25, 35, 38] (.both (.app 12 [25, 38] (.both (.app 15 [25] (.both (.seq [16, 17, 18, 19, 20, 21, 22] .nil) (.seq [20, 16, 17, 18, 19, 21, 22] .nil))) (.seq [20] (.app 15 [25] (.seq [16, 17, 18, 19, 21, 22] .nil))))) (.seq [20] (.app 12 [25, 38] (.app 15 [25] (.seq [16, 17, 18, 19, 21, 22] .nil)))))) (.seq [20] (.app 8 [25, 35, 38] (.app 12 [25, 38] (.app 15 [25] (.seq [16, 17, 18, 19, 21, 22] .nil))))))) (.seq [20] (.app 5 [25, 31, 35, 38] (.app 8 [25, 35, 38] (.app 12 [25, 38] (.app 15 [25] (.seq [16, 17, 18, 19, 21, 22] .nil)))))))) (.seq [20, 2] (.app 5 [25, 31, 35, 38] (.app 8 [25, 35, 38] (.app 12 [25, 38] (.app 15 [25] (.seq [16, 17, 18, 19, 21, 22] .nil)))))))) (.seq [20] (.both (.seq [2] (.both (.app 5 [25, 31, 35, 38] (.both (.app 8 [25, 35, 38] (.seq [9] (.app 12 [25, 38] (.app 15 [25] (.seq [16, 17, 18, 19, 21, 22] .nil))))) (.seq [9] (.app 8 [25, 35, 38] (.app 12 [25, 38] (.app 15 [25] (.seq [16, 17, 18, 19, 21, 22] .nil))))))) (.seq [9] (.app 5 [25, 31, 35, 38] (.app 8 [25, 35, 38] (.app 12 [25, 38] (.app 15 [25] (.seq [16, 17, 18, 19, 21, 22] .nil)))))))) (.seq [9, 2] (.app 5 [25, 31, 35, 38] (.app 8 [25, 35, 38] (.app 12 [25, 38] (.app 15 [25] (.seq [16, 17, 18, 19, 21, 22] .nil)))))))))) := rfl
theorem s38_ok : okCode E 46 s38 (Try.f38.body.getD .skip) = true := by kernel_rfl
/-- the orders of spec.EqualCounted -/
def s39 (_ : Nat) : Tr := .nil
theorem s39_ok : okCode E 27 s39 (Try.f39.body.getD .skip) = true := by kernel_rfl
/-- the orders of impl.IsValidCounted -/
def s40 (_ : Nat) : Tr := .nil
theorem s40_ok : okCode E 35 s40 (Try.f40.body.getD .skip) = true := by kernel_rfl
/-- the orders of spec.IsValidCounted -/
def s41 (_ : Nat) : Tr := .nil
theorem s41_ok : okCode E 42 s41 (Try.f41.body.getD .skip) = true := by kernel_rfl
/-- the orders of impl.NegateCounted -/
def s42 (i : Nat) : Tr := if i = 5 then .seq [0, 1, 2, 3, 4, 5, 6, 7, 8, 9, 10] .nil else .nil
theorem s42_5 : s42 5 = .seq [0, 1, 2, 3, 4, 5, 6, 7, 8, 9, 10] .nil := rfl
theorem s42_ok : okCode E 25 s42 (Try.f42.body.getD .skip) = true := by kernel_rfl
/-- the orders of impl.CountOfRow -/
def s43 (_ : Nat) : Tr := .nil
theorem s43_ok : okCode E 26 s43 (Try.f43.body.getD .skip) = true := by kernel_rfl
/-- the orders of spec.CountOfRow -/
def s44 (_ : Nat) : Tr := .nil
theorem s44_ok : okCode E 27 s44 (Try.f44.body.getD .skip) = true := by kernel_rfl
/-- the orders of impl.EqualCounted -/
def s45 (_ : Nat) : Tr := .nil
theorem s45_ok : okCode E 24 s45 (Try.f45.body.getD .skip) = true := by kernel_rfl
/-- the orders of spec.DrawProjectCounted -/
def s46 (_ : Nat) : Tr := .nil
theorem s46_ok : okCode E 29 s46 (Try.f46.body.getD .skip) = true := by kernel_rfl
/-- the orders of impl.ProjectCounted -/
def s47 (i : Nat) : Tr := if i = 7 then .seq [0, 1, 3, 4, 5, 6, 7, 2, 8] .nil else .nil
theorem s47_7 : s47 7 = .seq [0, 1, 3, 4, 5, 6, 7, 2, 8] .nil := rfl
theorem s47_ok : okCode E 49 s47 (Try.f47.body.getD .skip) = true := by kernel_rfl
/-- the orders of spec.ProjectCounted -/
def s48 (i : Nat) : Tr := if i = 4 then .seq [0, 1, 2, 3, 4, 5, 6, 7, 8] .nil else .nil
theorem s48_4 : s48 4 = .seq [0, 1, 2, 3, 4, 5, 6, 7, 8] .nil := rfl
theorem s48_ok : okCode E 65 s48 (Try.f48.body.getD .skip) = true := by kernel_rfl
/-- the orders of impl.RowsOfCounted -/
def s49 (i : Nat) : Tr := if i = 9 then .seq [0, 1, 2, 3, 4, 5, 6, 7] .nil else .nil
theorem s49_9 : s49 9 = .seq [0, 1, 2, 3, 4, 5, 6, 7] .nil := rfl
theorem s49_ok : okCode E 27 s49 (Try.f49.body.getD .skip) = true := by kernel_rfl
/-- the orders of spec.EqualRelations -/
def s50 (i : Nat) : Tr := if i = 6 then .seq [0, 1, 2, 3, 4, 5, 6, 7, 8, 9, 10, 11] .nil else .nil
theorem s50_6 : s50 6 = .seq [0, 1, 2, 3, 4, 5, 6, 7, 8, 9, 10, 11] .nil := rfl
theorem s50_ok : okCode E 39 s50 (Try.f50.body.getD .skip) = true := by kernel_rfl
/-- the orders of laws.szIntSS -/
def s51 (_ : Nat) : Tr := .nil
theorem s51_ok : okCode E 27 s51 (Try.f51.body.getD .skip) = true := by kernel_rfl
/-- the orders of laws.szIntS -/
def s52 (_ : Nat) : Tr := .nil
theorem s52_ok : okCode E 12 s52 (Try.f52.body.getD .skip) = true := by kernel_rfl
/-- the orders of spec.l7Vars -/
def s53 (_ : Nat) : Tr := .nil
theorem s53_ok : okCode E 20 s53 (Try.f53.body.getD .skip) = true := by kernel_rfl
/-- the orders of spec.l2Dec -/
def s54 (i : Nat) : Tr := if i = 7 then .seq [0, 1, 3, 4, 5, 6] (.both (.seq [2, 7, 8, 9, 10] .nil) (.seq [7, 8, 2, 9, 10] .nil)) else .nil
theorem s54_7 : s54 7 = .seq [0, 1, 3, 4, 5, 6] (.both (.seq [2, 7, 8, 9, 10] .nil) (.seq [7, 8, 2, 9, 10] .nil)) := rfl
theorem s54_ok : okCode E 38 s54 (Try.f54.body.getD .skip) = true := by kernel_rfl
/-- the orders of laws.toIntSS -/
def s55 (_ : Nat) : Tr := .nil
theorem s55_ok : okCode E 23 s55 (Try.f55.body.getD .skip) = true := by kernel_rfl
/-- the orders of impl.namesOf -/
def s56 (_ : Nat) : Tr := .nil
theorem s56_ok : okCode E 18 s56 (Try.f56.body.getD .skip) = true := by kernel_rfl
/-- the orders of impl.FormatInt -/
def s57 (_ : Nat) : Tr := .nil
theorem s57_ok : okCode E 30 s57 (Try.f57.body.getD .skip) = true := by kernel_rfl
/-- the orders of impl.join -/
def s58 (_ : Nat) : Tr := .nil
theorem s58_ok : okCode E 25 s58 (Try.f58.body.getD .skip) = true := by kernel_rfl
/-- the orders of laws.eqIntSS -/
def s59 (i : Nat) : Tr := if i = 6 then .seq [0, 1, 2, 3, 4, 5, 6, 7, 8, 9] .nil else .nil
theorem s59_6 : s59 6 = .seq [0, 1, 2, 3, 4, 5, 6, 7, 8, 9] .nil := rfl
theorem s59_ok : okCode E 27 s59 (Try.f59.body.getD .skip) = true := by kernel_rfl
/-- the orders of laws.szAtomS -/
def s60 (_ : Nat) : Tr := .nil
theorem s60_ok : okCode E 27 s60 (Try.f60.body.getD .skip) = true := by kernel_rfl
/-- the orders of spec.IsValidQuery -/
def s61 (i : Nat) : Tr := if i = 11 then .seq [0, 1, 2, 3, 4, 5, 6, 7, 8, 9, 10, 11, 12, 13] .nil else if i = 26 then .seq [0, 1, 2, 3, 4, 5, 6, 7, 8, 9, 10, 11, 12, 13, 14, 15, 16, 17, 18, 19, 20, 21, 22] .nil else .nil
theorem s61_11 : s61 11 = .seq [0, 1, 2, 3, 4, 5, 6, 7, 8, 9, 10, 11, 12, 13] .nil := rfl
theorem s61_26 : s61 26 = .seq [0, 1, 2, 3, 4, 5, 6, 7, 8, 9, 10, 11, 12, 13, 14, 15, 16, 17, 18, 19, 20, 21, 22] .nil := rfl
theorem s61_ok : okCode E 134 s61 (Try.f61.body.getD .skip) = true := by kernel_rfl
/-- the orders of spec.DefaultOrder -/
def s62 (_ : Nat) : Tr := .nil
theorem s62_ok : okCode E 21 s62 (Try.f62.body.getD .skip) = true := by kernel_rfl
/-- the orders of laws.toAtomS -/
def s63 (_ : Nat) : Tr := .nil
theorem s63_ok : okCode E 23 s63 (Try.f63.body.getD .skip) = true := by kernel_rfl
/-- the orders of impl.IsValidQuery -/
def s64 (_ : Nat) : Tr := .nil
theorem s64_ok : okCode E 76 s64 (Try.f64.body.getD .skip) = true := by kernel_rfl
/-- the orders of impl.DefaultOrder -/
def s65 (_ : Nat) : Tr := .nil
theorem s65_ok : okCode E 19 s65 (Try.f65.body.getD .skip) = true := by kernel_rfl
/-- the orders of laws.eqAtomS -/
def s66 (i : Nat) : Tr := if i = 6 then .seq [0, 1, 2, 3, 4, 5, 6, 7, 8, 9] .nil else .nil
theorem s66_6 : s66 6 = .seq [0, 1, 2, 3, 4, 5, 6, 7, 8, 9] .nil := rfl
theorem s66_ok : okCode E 27 s66 (Try.f66.body.getD .skip) = true := by kernel_rfl
/-- the orders of laws.markAtomS -/
def s67 (_ : Nat) : Tr := .nil
theorem s67_ok : okCode E 28 s67 (Try.f67.body.getD .skip) = true := by kernel_rfl
/-- the orders of laws.markIntSS -/
def s68 (_ : Nat) : Tr := .nil
theorem s68_ok : okCode E 19 s68 (Try.f68.body.getD .skip) = true := by kernel_rfl
/-- the orders of laws.heldIntSS -/
def s69 (_ : Nat) : Tr := .nil
theorem s69_ok : okCode E 21 s69 (Try.f69.body.getD .skip) = true := by kernel_rfl
/-- the orders of laws.heldIntS -/
def s70 (_ : Nat) : Tr := .nil
theorem s70_ok : okCode E 21 s70 (Try.f70.body.getD .skip) = true := by kernel_rfl
/-- the orders of spec.JoinTreeRoot -/
def s71 (_ : Nat) : Tr := .nil
theorem s71_ok : okCode E 22 s71 (Try.f71.body.getD .skip) = true := by kernel_rfl
/-- the orders of spec.l10Path -/
def s72 (_ : Nat) : Tr := .nil
theorem s72_ok : okCode E 31 s72 (Try.f72.body.getD .skip) = true := by kernel_rfl
/-- the orders of spec.l30Bag -/
def s73 (i : Nat) : Tr := if i = 4 then .seq [0, 1, 2, 3, 4, 5, 6, 7, 8, 9, 10, 11, 12, 13, 14, 15, 16, 17, 18, 19, 20, 21, 22, 23, 24] .nil else .nil
theorem s73_4 : s73 4 = .seq [0, 1, 2, 3, 4, 5, 6, 7, 8, 9, 10, 11, 12, 13, 14, 15, 16, 17, 18, 19, 20, 21, 22, 23, 24] .nil := rfl
theorem s73_ok : okCode E 40 s73 (Try.f73.body.getD .skip) = true := by kernel_rfl
/-- the orders of spec.l30Within -/
def s74 (_ : Nat) : Tr := .nil
theorem s74_ok : okCode E 21 s74 (Try.f74.body.getD .skip) = true := by kernel_rfl
/-- the orders of spec.l7Find -/
def s75 (_ : Nat) : Tr := .nil
theorem s75_ok : okCode E 19 s75 (Try.f75.body.getD .skip) = true := by kernel_rfl
/-- the orders of impl.isTree -/
def s76 (_ : Nat) : Tr := .nil
theorem s76_ok : okCode E 51 s76 (Try.f76.body.getD .skip) = true := by kernel_rfl
/-- the orders of impl.isBag -/
def s77 (_ : Nat) : Tr := .nil
theorem s77_ok : okCode E 18 s77 (Try.f77.body.getD .skip) = true := by kernel_rfl
/-- the orders of impl.common -/
def s78 (_ : Nat) : Tr := .nil
theorem s78_ok : okCode E 23 s78 (Try.f78.body.getD .skip) = true := by kernel_rfl
/-- the orders of impl.AtomVariables -/
def s79 (_ : Nat) : Tr := .nil
theorem s79_ok : okCode E 17 s79 (Try.f79.body.getD .skip) = true := by kernel_rfl
/-- the orders of impl.topsOf -/
def s80 (_ : Nat) : Tr := .nil
theorem s80_ok : okCode E 43 s80 (Try.f80.body.getD .skip) = true := by kernel_rfl
/-- the orders of spec.IsValidOrder -/
def s81 (_ : Nat) : Tr := .nil
theorem s81_ok : okCode E 18 s81 (Try.f81.body.getD .skip) = true := by kernel_rfl
/-- the orders of spec.l30Joined -/
def s82 (_ : Nat) : Tr := .nil
theorem s82_ok : okCode E 39 s82 (Try.f82.body.getD .skip) = true := by kernel_rfl
/-- the orders of impl.IsValidOrder -/
def s83 (_ : Nat) : Tr := .nil
theorem s83_ok : okCode E 20 s83 (Try.f83.body.getD .skip) = true := by kernel_rfl
/-- the orders of impl.Neighbors -/
def s84 (_ : Nat) : Tr := .nil
theorem s84_ok : okCode E 29 s84 (Try.f84.body.getD .skip) = true := by kernel_rfl
/-- the orders of impl.unite -/
def s85 (i : Nat) : Tr := if i = 9 then .seq [0, 1, 2, 4, 7, 8, 9] (.both (.seq [3, 5, 6, 10, 11] .nil) (.seq [5, 3, 6, 10, 11] .nil)) else .nil
theorem s85_9 : s85 9 = .seq [0, 1, 2, 4, 7, 8, 9] (.both (.seq [3, 5, 6, 10, 11] .nil) (.seq [5, 3, 6, 10, 11] .nil)) := rfl
theorem s85_ok : okCode E 56 s85 (Try.f85.body.getD .skip) = true := by kernel_rfl
/-- the orders of impl.without -/
def s86 (_ : Nat) : Tr := .nil
theorem s86_ok : okCode E 23 s86 (Try.f86.body.getD .skip) = true := by kernel_rfl
/-- the orders of impl.hasInt -/
def s87 (_ : Nat) : Tr := .nil
theorem s87_ok : okCode E 9 s87 (Try.f87.body.getD .skip) = true := by kernel_rfl
/-- the orders of laws.szDatabaseS -/
def s88 (_ : Nat) : Tr := .nil
theorem s88_ok : okCode E 27 s88 (Try.f88.body.getD .skip) = true := by kernel_rfl
/-- the orders of spec.EqualDatabases -/
def s89 (i : Nat) : Tr := if i = 6 then .seq [0, 1, 2, 3, 4, 5, 6, 7, 8, 9, 10, 11, 12, 13, 14, 15, 16, 17, 18, 19, 20, 21, 22, 23, 24, 25, 26, 27, 28] .nil else .nil
theorem s89_6 : s89 6 = .seq [0, 1, 2, 3, 4, 5, 6, 7, 8, 9, 10, 11, 12, 13, 14, 15, 16, 17, 18, 19, 20, 21, 22, 23, 24, 25, 26, 27, 28] .nil := rfl
theorem s89_ok : okCode E 49 s89 (Try.f89.body.getD .skip) = true := by kernel_rfl
/-- the orders of laws.toDatabaseS -/
def s90 (_ : Nat) : Tr := .nil
theorem s90_ok : okCode E 23 s90 (Try.f90.body.getD .skip) = true := by kernel_rfl
/-- the orders of impl.EqualDatabases -/
def s91 (i : Nat) : Tr := if i = 6 then .seq [0, 1, 2, 3, 4, 5, 6, 7, 8, 9, 10, 11, 12, 13, 14, 15, 16, 17, 18, 19, 20, 21, 22, 23, 24, 25, 26, 27, 28] .nil else .nil
theorem s91_6 : s91 6 = .seq [0, 1, 2, 3, 4, 5, 6, 7, 8, 9, 10, 11, 12, 13, 14, 15, 16, 17, 18, 19, 20, 21, 22, 23, 24, 25, 26, 27, 28] .nil := rfl
theorem s91_ok : okCode E 49 s91 (Try.f91.body.getD .skip) = true := by kernel_rfl
/-- the orders of laws.eqDatabaseS -/
def s92 (i : Nat) : Tr := if i = 6 then .seq [0, 1, 2, 3, 4, 5, 6, 7, 8, 9] .nil else .nil
theorem s92_6 : s92 6 = .seq [0, 1, 2, 3, 4, 5, 6, 7, 8, 9] .nil := rfl
theorem s92_ok : okCode E 27 s92 (Try.f92.body.getD .skip) = true := by kernel_rfl
/-- the orders of spec.l1New -/
def s93 (_ : Nat) : Tr := .nil
theorem s93_ok : okCode E 32 s93 (Try.f93.body.getD .skip) = true := by kernel_rfl
/-- the orders of spec.l27Any -/
def s94 (i : Nat) : Tr := if i = 6 then .seq [0, 2] (.both (.seq [1, 3, 4, 5, 6] .nil) (.seq [3] (.both (.seq [1, 4, 5, 6] .nil) (.seq [4, 1, 5, 6] .nil)))) else if i = 10 then .seq [0, 1, 2, 3, 4, 5, 6, 7, 8, 9] .nil else .nil
theorem s94_6 : s94 6 = .seq [0, 2] (.both (.seq [1, 3, 4, 5, 6] .nil) (.seq [3] (.both (.seq [1, 4, 5, 6] .nil) (.seq [4, 1, 5, 6] .nil)))) := rfl
theorem s94_10 : s94 10 = .seq [0, 1, 2, 3, 4, 5, 6, 7, 8, 9] .nil := rfl
theorem s94_ok : okCode E 46 s94 (Try.f94.body.getD .skip) = true := by kernel_rfl
/-- the orders of spec.l1Once -/
def s95 (_ : Nat) : Tr := .nil
theorem s95_ok : okCode E 9 s95 (Try.f95.body.getD .skip) = true := by kernel_rfl
/-- the orders of spec.l27Z -/
def s96 (i : Nat) : Tr := if i = 5 then .seq [0, 2, 3] (.both (.seq [1, 4, 5, 6, 7] .nil) (.seq [4] (.both (.seq [1, 5, 6, 7] .nil) (.seq [5, 1, 6, 7] .nil)))) else .nil
theorem s96_5 : s96 5 = .seq [0, 2, 3] (.both (.seq [1, 4, 5, 6, 7] .nil) (.seq [4] (.both (.seq [1, 5, 6, 7] .nil) (.seq [5, 1, 6, 7] .nil)))) := rfl
theorem s96_ok : okCode E 30 s96 (Try.f96.body.getD .skip) = true := by kernel_rfl
/-- the orders of impl.copyCounted -/
def s97 (i : Nat) : Tr := if i = 1 then .seq [0, 1, 2, 3, 5, 6, 4, 7, 8, 9] .nil else .nil
theorem s97_1 : s97 1 = .seq [0, 1, 2, 3, 5, 6, 4, 7, 8, 9] .nil := rfl
theorem s97_ok : okCode E 12 s97 (Try.f97.body.getD .skip) = true := by kernel_rfl
/-- the orders of impl.tally -/
def s98 (i : Nat) : Tr := if i = 3 then .seq [0, 2, 3, 4, 5, 6, 7, 9, 13, 14, 15, 16, 17, 18, 1] (.app 8 [43] (.seq [10, 11] (.app 12 [43] (.seq [19, 20, 21, 22] .nil)))) else if i = 4 then .seq [0, 1, 2, 3, 4, 5, 6, 8, 11, 12, 13, 14, 15, 16] (.both (.seq [7, 9] (.app 10 [63] (.seq [17, 18, 19, 20] .nil))) (.seq [9, 7] (.app 10 [63] (.seq [17, 18, 19, 20] .nil)))) else .nil
theorem s98_3 : s98 3 = .seq [0, 2, 3, 4, 5, 6, 7, 9, 13, 14, 15, 16, 17, 18, 1] (.app 8 [43] (.seq [10, 11] (.app 12 [43] (.seq [19, 20, 21, 22] .nil)))) := rfl
theorem s98_4 : s98 4 = .seq [0, 1, 2, 3, 4, 5, 6, 8, 11, 12, 13, 14, 15, 16] (.both (.seq [7, 9] (.app 10 [63] (.seq [17, 18, 19, 20] .nil))) (.seq [9, 7] (.app 10 [63] (.seq [17, 18, 19, 20] .nil)))) := rfl
theorem s98_ok : okCode E 70 s98 (Try.f98.body.getD .skip) = true := by kernel_rfl
/-- the orders of impl.settled -/
def s99 (i : Nat) : Tr := if i = 6 then .seq [0, 1, 2, 3, 4, 5, 6, 7, 8, 9, 10] .nil else .nil
theorem s99_6 : s99 6 = .seq [0, 1, 2, 3, 4, 5, 6, 7, 8, 9, 10] .nil := rfl
theorem s99_ok : okCode E 37 s99 (Try.f99.body.getD .skip) = true := by kernel_rfl
/-- the orders of spec.l27Sum -/
def s100 (i : Nat) : Tr := if i = 8 then .seq [0, 1, 2, 3, 4, 5, 6, 7, 8, 9, 10] .nil else if i = 9 then .seq [0, 1, 2, 3, 4, 5, 6, 7, 8, 9, 10, 11, 12] .nil else if i = 15 then .seq [0, 1, 2, 3, 4, 5, 6, 7, 8, 9, 10] .nil else if i = 16 then .seq [0, 1, 2, 3, 4, 5, 6, 7, 8, 9] .nil else .nil
theorem s100_8 : s100 8 = .seq [0, 1, 2, 3, 4, 5, 6, 7, 8, 9, 10] .nil := rfl
theorem s100_9 : s100 9 = .seq [0, 1, 2, 3, 4, 5, 6, 7, 8, 9, 10, 11, 12] .nil := rfl
theorem s100_15 : s100 15 = .seq [0, 1, 2, 3, 4, 5, 6, 7, 8, 9, 10] .nil := rfl
theorem s100_16 : s100 16 = .seq [0, 1, 2, 3, 4, 5, 6, 7, 8, 9] .nil := rfl
theorem s100_ok : okCode E 94 s100 (Try.f100.body.getD .skip) = true := by kernel_rfl
/-- the orders of spec.CompareRows -/
def s101 (i : Nat) : Tr := if i = 4 then .seq [0, 1, 2, 3, 4, 5, 6, 7, 8] .nil else if i = 6 then .seq [0, 1, 2, 3, 4, 5, 6, 7, 8] .nil else .nil
theorem s101_4 : s101 4 = .seq [0, 1, 2, 3, 4, 5, 6, 7, 8] .nil := rfl
theorem s101_6 : s101 6 = .seq [0, 1, 2, 3, 4, 5, 6, 7, 8] .nil := rfl
theorem s101_ok : okCode E 46 s101 (Try.f101.body.getD .skip) = true := by kernel_rfl
/-- the orders of impl.rowsValid -/
def s102 (_ : Nat) : Tr := .nil
theorem s102_ok : okCode E 46 s102 (Try.f102.body.getD .skip) = true := by kernel_rfl
/-- the orders of impl.within -/
def s103 (_ : Nat) : Tr := .nil
theorem s103_ok : okCode E 15 s103 (Try.f103.body.getD .skip) = true := by kernel_rfl
/-- the orders of spec.IsValidRelation -/
def s104 (i : Nat) : Tr := if i = 6 then .seq [0, 1, 2, 3, 4, 5, 6, 7, 8, 9, 10, 11, 12, 13, 14, 15, 16, 17, 18, 19, 20, 21, 22, 23, 24, 25, 26, 27, 28, 29, 30, 31, 32, 33, 34, 35, 36] .nil else .nil
theorem s104_6 : s104 6 = .seq [0, 1, 2, 3, 4, 5, 6, 7, 8, 9, 10, 11, 12, 13, 14, 15, 16, 17, 18, 19, 20, 21, 22, 23, 24, 25, 26, 27, 28, 29, 30, 31, 32, 33, 34, 35, 36] .nil := rfl
theorem s104_ok : okCode E 58 s104 (Try.f104.body.getD .skip) = true := by kernel_rfl
/-- the orders of spec.l1In -/
def s105 (_ : Nat) : Tr := .nil
theorem s105_ok : okCode E 15 s105 (Try.f105.body.getD .skip) = true := by kernel_rfl
/-- the orders of impl.place -/
def s106 (_ : Nat) : Tr := .nil
theorem s106_ok : okCode E 42 s106 (Try.f106.body.getD .skip) = true := by kernel_rfl
/-- the orders of spec.l5Place -/
def s107 (_ : Nat) : Tr := .nil
theorem s107_ok : okCode E 46 s107 (Try.f107.body.getD .skip) = true := by kernel_rfl
/-- the orders of impl.sameRows -/
def s108 (i : Nat) : Tr := if i = 6 then .seq [0, 1, 2, 3, 4, 5, 6, 7, 8, 9] .nil else .nil
theorem s108_6 : s108 6 = .seq [0, 1, 2, 3, 4, 5, 6, 7, 8, 9] .nil := rfl
theorem s108_ok : okCode E 27 s108 (Try.f108.body.getD .skip) = true := by kernel_rfl
/-- the orders of impl.sameInts -/
def s109 (i : Nat) : Tr := if i = 6 then .seq [0, 1, 2, 3, 4, 5, 6, 7, 8] .nil else .nil
theorem s109_6 : s109 6 = .seq [0, 1, 2, 3, 4, 5, 6, 7, 8] .nil := rfl
theorem s109_ok : okCode E 26 s109 (Try.f109.body.getD .skip) = true := by kernel_rfl
/-- the orders of spec.l1Below -/
def s110 (_ : Nat) : Tr := .nil
theorem s110_ok : okCode E 37 s110 (Try.f110.body.getD .skip) = true := by kernel_rfl
/-- the orders of impl.columnsFit -/
def s111 (_ : Nat) : Tr := .nil
theorem s111_ok : okCode E 22 s111 (Try.f111.body.getD .skip) = true := by kernel_rfl
/-- the orders of impl.pick -/
def s112 (_ : Nat) : Tr := .nil
theorem s112_ok : okCode E 24 s112 (Try.f112.body.getD .skip) = true := by kernel_rfl
/-- the orders of spec.l5Cols -/
def s113 (_ : Nat) : Tr := .nil
theorem s113_ok : okCode E 25 s113 (Try.f113.body.getD .skip) = true := by kernel_rfl
/-- the orders of impl.copyRows -/
def s114 (_ : Nat) : Tr := .nil
theorem s114_ok : okCode E 19 s114 (Try.f114.body.getD .skip) = true := by kernel_rfl
/-- the orders of spec.VariableName -/
def s115 (_ : Nat) : Tr := .nil
theorem s115_ok : okCode E 10 s115 (Try.f115.body.getD .skip) = true := by kernel_rfl
/-- the orders of impl.VariableName -/
def s116 (_ : Nat) : Tr := .nil
theorem s116_ok : okCode E 10 s116 (Try.f116.body.getD .skip) = true := by kernel_rfl
/-- the orders of laws.szAtom -/
def s117 (_ : Nat) : Tr := .nil
theorem s117_ok : okCode E 19 s117 (Try.f117.body.getD .skip) = true := by kernel_rfl
/-- the orders of spec.IsValidName -/
def s118 (_ : Nat) : Tr := .nil
theorem s118_ok : okCode E 23 s118 (Try.f118.body.getD .skip) = true := by kernel_rfl
/-- the orders of spec.ContainsVariable -/
def s119 (_ : Nat) : Tr := .nil
theorem s119_ok : okCode E 20 s119 (Try.f119.body.getD .skip) = true := by kernel_rfl
/-- the orders of laws.toAtom -/
def s120 (_ : Nat) : Tr := .nil
theorem s120_ok : okCode E 12 s120 (Try.f120.body.getD .skip) = true := by kernel_rfl
/-- the orders of impl.isSetOf -/
def s121 (_ : Nat) : Tr := .nil
theorem s121_ok : okCode E 27 s121 (Try.f121.body.getD .skip) = true := by kernel_rfl
/-- the orders of impl.IsValidName -/
def s122 (_ : Nat) : Tr := .nil
theorem s122_ok : okCode E 5 s122 (Try.f122.body.getD .skip) = true := by kernel_rfl
/-- the orders of laws.eqAtom -/
def s123 (_ : Nat) : Tr := .nil
theorem s123_ok : okCode E 16 s123 (Try.f123.body.getD .skip) = true := by kernel_rfl
/-- the orders of laws.markText -/
def s124 (_ : Nat) : Tr := .nil
theorem s124_ok : okCode E 20 s124 (Try.f124.body.getD .skip) = true := by kernel_rfl
/-- the orders of impl.IsStrictlyAscending -/
def s125 (i : Nat) : Tr := if i = 4 then .seq [0, 1, 2, 3, 4, 5, 6, 7, 8, 9] .nil else .nil
theorem s125_4 : s125 4 = .seq [0, 1, 2, 3, 4, 5, 6, 7, 8, 9] .nil := rfl
theorem s125_ok : okCode E 20 s125 (Try.f125.body.getD .skip) = true := by kernel_rfl
/-- the orders of impl.ContainsVariable -/
def s126 (_ : Nat) : Tr := .nil
theorem s126_ok : okCode E 9 s126 (Try.f126.body.getD .skip) = true := by kernel_rfl
/-- the orders of spec.IsPermutation -/
def s127 (i : Nat) : Tr := if i = 4 then .seq [0, 1, 2, 3, 4, 5, 6, 7, 8, 9, 10, 11, 12, 13, 14, 15, 16, 17, 18, 19] .nil else .nil
theorem s127_4 : s127 4 = .seq [0, 1, 2, 3, 4, 5, 6, 7, 8, 9, 10, 11, 12, 13, 14, 15, 16, 17, 18, 19] .nil := rfl
theorem s127_ok : okCode E 33 s127 (Try.f127.body.getD .skip) = true := by kernel_rfl
/-- the orders of spec.Neighbors -/
def s128 (_ : Nat) : Tr := .nil
theorem s128_ok : okCode E 57 s128 (Try.f128.body.getD .skip) = true := by kernel_rfl
/-- the orders of impl.copyInts -/
def s129 (_ : Nat) : Tr := .nil
theorem s129_ok : okCode E 6 s129 (Try.f129.body.getD .skip) = true := by kernel_rfl
/-- the orders of impl.indexOf -/
def s130 (_ : Nat) : Tr := .nil
theorem s130_ok : okCode E 19 s130 (Try.f130.body.getD .skip) = true := by kernel_rfl
/-- the orders of laws.szDatabase -/
def s131 (_ : Nat) : Tr := .nil
theorem s131_ok : okCode E 12 s131 (Try.f131.body.getD .skip) = true := by kernel_rfl
/-- the orders of laws.toDatabase -/
def s132 (_ : Nat) : Tr := .nil
theorem s132_ok : okCode E 9 s132 (Try.f132.body.getD .skip) = true := by kernel_rfl
/-- the orders of impl.EqualRelations -/
def s133 (_ : Nat) : Tr := .nil
theorem s133_ok : okCode E 17 s133 (Try.f133.body.getD .skip) = true := by kernel_rfl
/-- the orders of laws.eqDatabase -/
def s134 (_ : Nat) : Tr := .nil
theorem s134_ok : okCode E 11 s134 (Try.f134.body.getD .skip) = true := by kernel_rfl
/-- the orders of spec.l1PickInt -/
def s135 (_ : Nat) : Tr := .nil
theorem s135_ok : okCode E 12 s135 (Try.f135.body.getD .skip) = true := by kernel_rfl
/-- the orders of spec.CountedFromRelation -/
def s136 (_ : Nat) : Tr := .nil
theorem s136_ok : okCode E 31 s136 (Try.f136.body.getD .skip) = true := by kernel_rfl
/-- the orders of spec.l5Rel -/
def s137 (_ : Nat) : Tr := .nil
theorem s137_ok : okCode E 36 s137 (Try.f137.body.getD .skip) = true := by kernel_rfl
/-- the orders of spec.NewRelation -/
def s138 (_ : Nat) : Tr := .nil
theorem s138_ok : okCode E 40 s138 (Try.f138.body.getD .skip) = true := by kernel_rfl
/-- the orders of impl.AreValidValues -/
def s139 (_ : Nat) : Tr := .nil
theorem s139_ok : okCode E 15 s139 (Try.f139.body.getD .skip) = true := by kernel_rfl
/-- the orders of impl.CompareRows -/
def s140 (i : Nat) : Tr := if i = 4 then .seq [0, 1, 2, 3, 4, 5, 6, 7, 8] .nil else if i = 5 then .seq [0, 1, 2, 3, 4, 5, 6, 7, 8, 9] .nil else .nil
theorem s140_4 : s140 4 = .seq [0, 1, 2, 3, 4, 5, 6, 7, 8] .nil := rfl
theorem s140_5 : s140 5 = .seq [0, 1, 2, 3, 4, 5, 6, 7, 8, 9] .nil := rfl
theorem s140_ok : okCode E 41 s140 (Try.f140.body.getD .skip) = true := by kernel_rfl
/-- the orders of spec.AreValidValues -/
def s141 (_ : Nat) : Tr := .nil
theorem s141_ok : okCode E 16 s141 (Try.f141.body.getD .skip) = true := by kernel_rfl
/-- the orders of spec.l1Byte -/
def s142 (i : Nat) : Tr := if i = 2 then .seq [0, 1, 2, 3, 4, 5, 6, 7, 8, 9, 10, 11, 12] .nil else if i = 3 then .seq [0, 1, 2, 3, 4, 5, 6, 7, 8, 9] .nil else if i = 4 then .seq [0, 1, 2, 3, 4, 5, 6, 7, 8, 9, 10, 11, 12, 13, 14] .nil else .nil
theorem s142_2 : s142 2 = .seq [0, 1, 2, 3, 4, 5, 6, 7, 8, 9, 10, 11, 12] .nil := rfl
theorem s142_3 : s142 3 = .seq [0, 1, 2, 3, 4, 5, 6, 7, 8, 9] .nil := rfl
theorem s142_4 : s142 4 = .seq [0, 1, 2, 3, 4, 5, 6, 7, 8, 9, 10, 11, 12, 13, 14] .nil := rfl
theorem s142_ok : okCode E 58 s142 (Try.f142.body.getD .skip) = true := by kernel_rfl
/-- the orders of impl.isLetters -/
def s143 (_ : Nat) : Tr := .nil
theorem s143_ok : okCode E 31 s143 (Try.f143.body.getD .skip) = true := by kernel_rfl
/-- the orders of laws.szTableS -/
def s144 (_ : Nat) : Tr := .nil
theorem s144_ok : okCode E 27 s144 (Try.f144.body.getD .skip) = true := by kernel_rfl
/-- the orders of laws.toTableS -/
def s145 (_ : Nat) : Tr := .nil
theorem s145_ok : okCode E 23 s145 (Try.f145.body.getD .skip) = true := by kernel_rfl
/-- the orders of laws.eqTableS -/
def s146 (i : Nat) : Tr := if i = 6 then .seq [0, 1, 2, 3, 4, 5, 6, 7, 8, 9] .nil else .nil
theorem s146_6 : s146 6 = .seq [0, 1, 2, 3, 4, 5, 6, 7, 8, 9] .nil := rfl
theorem s146_ok : okCode E 27 s146 (Try.f146.body.getD .skip) = true := by kernel_rfl
/-- the orders of spec.l5Copy -/
def s147 (i : Nat) : Tr := if i = 5 then .seq [0, 1, 3, 4, 5, 6, 7, 2] (.app 8 [15] (.seq [9, 10, 11, 12] .nil)) else .nil
theorem s147_5 : s147 5 = .seq [0, 1, 3, 4, 5, 6, 7, 2] (.app 8 [15] (.seq [9, 10, 11, 12] .nil)) := rfl
theorem s147_ok : okCode E 28 s147 (Try.f147.body.getD .skip) = true := by kernel_rfl
/-- the orders of spec.l4Row -/
def s148 (_ : Nat) : Tr := .nil
theorem s148_ok : okCode E 20 s148 (Try.f148.body.getD .skip) = true := by kernel_rfl
/-- the orders of spec.l5Sort -/
def s149 (i : Nat) : Tr := if i = 13 then .seq [0, 1, 2, 3, 4, 5, 6, 7] .nil else .nil
theorem s149_13 : s149 13 = .seq [0, 1, 2, 3, 4, 5, 6, 7] .nil := rfl
theorem s149_ok : okCode E 80 s149 (Try.f149.body.getD .skip) = true := by kernel_rfl
/-- the orders of impl.compareInts -/
def s150 (_ : Nat) : Tr := .nil
theorem s150_ok : okCode E 13 s150 (Try.f150.body.getD .skip) = true := by kernel_rfl
/-- the orders of laws.szTable -/
def s151 (_ : Nat) : Tr := .nil
theorem s151_ok : okCode E 19 s151 (Try.f151.body.getD .skip) = true := by kernel_rfl
/-- the orders of laws.toTable -/
def s152 (_ : Nat) : Tr := .nil
theorem s152_ok : okCode E 12 s152 (Try.f152.body.getD .skip) = true := by kernel_rfl
/-- the orders of laws.eqTable -/
def s153 (_ : Nat) : Tr := .nil
theorem s153_ok : okCode E 16 s153 (Try.f153.body.getD .skip) = true := by kernel_rfl
/-- the orders of laws.szRelation -/
def s154 (_ : Nat) : Tr := .nil
theorem s154_ok : okCode E 12 s154 (Try.f154.body.getD .skip) = true := by kernel_rfl
/-- the orders of laws.toRelation -/
def s155 (_ : Nat) : Tr := .nil
theorem s155_ok : okCode E 12 s155 (Try.f155.body.getD .skip) = true := by kernel_rfl
/-- the orders of laws.eqRelation -/
def s156 (_ : Nat) : Tr := .nil
theorem s156_ok : okCode E 16 s156 (Try.f156.body.getD .skip) = true := by kernel_rfl
end Go.Proofs.Ytmifoeaifdmgkaa

namespace Go.Proofs.Ytmifoeaifdmgkaa
open Go.Vs Go.Proofs Go
set_option maxRecDepth 100000
set_option maxHeartbeats 1000000


theorem w_laws_markText (k : Int) (h0 : 1 ≤ k) (h1 : k ≤ 4611686018427387904) :
   VC Try.prog 124 [.d (.int .i64 k)] (fun _ r => r = .d (.str (mtext k))) := by
  refine VC.of E s124 (by kernel_rfl) Try.func124 (by rfl) (by kernel_rfl) (by simp [Try.f124]) (by simp [Try.f124]) s124_ok fun B => ?_
  simp [Try.f124, show ¬ k ≤ 0 by omega]
  refine loop_rule (X := Nat × Int × List UInt8) (fun x => x.1 ≤ 64 ∧ 0 ≤ x.2.1 ∧ x.2.1 < 2 ^ x.1 ∧ x.2.2.length + x.1 = 64 ∧ mdig x.1 x.2.1 x.2.2 = mdig 64 k []) (fun x => [(0, .d (.int .i64 x.2.1)), (3, .d (.str x.2.2))]) (fun _ => []) (fun x => x.1) (64, k, []) ?_ (by simp) (by simp) ?_
  · simp; omega
  · rintro ⟨n, q, o⟩ hs t m ⟨hi1, hi2, hi3, hi4, hi5⟩ hh
    simp only at hi1 hi2 hi3 hi4 hi5
    by_cases hq : 0 < q
    · obtain ⟨n, rfl⟩ : ∃ n', n = n' + 1 := by
        cases n with
        | zero => simp at hi3; omega
        | succ n => exact ⟨n, rfl⟩
      have e1 : q.tmod 10 = q % 10 := Int.tmod_eq_emod_of_nonneg hi2
      have e2 : q.tdiv 10 = q / 10 := Int.tdiv_eq_ediv_of_nonneg hi2
      have hp : (2 : Int) ^ (n + 1) = 2 * 2 ^ n := by rw [Int.pow_succ]; omega
      have hb : (2 : Int) ^ n ≤ 2 ^ 63 := by
        have : n ≤ 63 := by omega
        exact_mod_cast Nat.pow_le_pow_right (by decide : 0 < 2) this
      simp only [hp] at hi3
      have e3 : IntKind.i64.wrap (48 + q.tmod 10) = 48 + q.tmod 10 := by rw [e1]; exact wrap64_of (by omega) (by omega)
      have e4 : IntKind.i64.wrap (q.tdiv 10) = q.tdiv 10 := by rw [e2]; exact wrap64_of (by omega) (by simp at hb; omega)
      simp [hq, e3, e4, isB, toB]
      refine ⟨by omega, ?_⟩
      refine back (n, q.tdiv 10, UInt8.ofNat (IntKind.u8.wrap (48 + q.tmod 10)).toNat :: o) ⟨by simp; omega, by simp [e2]; omega, by simp [e2]; omega, by simp at hi4 ⊢; omega, ?_⟩ (by simp) rfl (by simp) (by simp) (by simp)
      rw [← hi5]
      simp only [mdig, if_pos hq]
    · have hz : q = 0 := by omega
      subst hz
      have : mdig n 0 o = o := by cases n <;> simp [mdig]
      rw [this] at hi5
      simp [mtext, ← hi5]
      omega

end Go.Proofs.Ytmifoeaifdmgkaa

namespace Go.Proofs.Ytmifoeaifdmgkaa
open Go.Vs Go.Proofs Go
set_option maxRecDepth 100000
set_option maxHeartbeats 1000000

theorem w_laws_szIntS (a : Sl (Int)) (left : Int) (h0 : 0 ≤ left) (h1 : left ≤ 1048576) (ha : okS okI a) :
   VC Try.prog 52 [.d (dSl cI a), .d (.int .i64 left)] (fun _ r => r = .d (.int .i64 (szv left (swS swI a)))) := by
  refine VC.of E s52 (by kernel_rfl) Try.func52 (by rfl) (by kernel_rfl) (by simp [Try.f52]) (by simp [Try.f52]) s52_ok fun B => ?_
  have ha1 := ha.1
  simp only [maxLen] at ha1
  have hw1 : IntKind.i64.wrap (left - (a.xs.length : Int)) = left - a.xs.length := wrap64_of (by omega) (by omega)
  have hwt : swS swI a = a.xs.length + sumW swI a.xs := rfl
  simp [Try.f52, dSl, hw1]
  have hz : sumW swI a.xs = 0 := by
    generalize a.xs = l
    induction l with
    | nil => rfl
    | cons b r ih => simp [swI, ih]
  refine ⟨fun h => ?_, fun h => ?_⟩
  · rw [szv_neg (by omega)]
  · rw [szv_pos (by omega)]; omega
theorem w_laws_eqIntS (a b : Sl (Int)) (ha : okS okI a) :
   VC Try.prog 28 [.d (dSl cI a), .d (dSl cI b)] (fun _ r => r = .d (.bool (plS plI a == plS plI b))) := by
  refine VC.of E s28 (by kernel_rfl) Try.func28 (by rfl) (by kernel_rfl) (by simp [Try.f28]) (by simp [Try.f28]) s28_ok fun B => ?_
  have ha1 := ha.1
  simp only [maxLen] at ha1
  simp [Try.f28, s28_6, dSl, plS]
  refine ⟨fun h e => h (by have := congrArg List.length e; simp at this; omega), fun hl => ?_⟩
  have hl' : a.xs.length = b.xs.length := by omega
  refine loop_rule (X := Nat) (fun i => i ≤ a.xs.length ∧ (a.xs.map plI).take i = (b.xs.map plI).take i) (fun i => [(0, .d (.sl a.id a.T (a.xs.map cI))), (1, .d (.sl b.id b.T (b.xs.map cI))), (5, .d (.int .i64 i))]) (fun _ => []) (fun i => a.xs.length - i) 0 (by simp) (by simp) (by simp) ?_
  intro i hs t m hi hh
  by_cases hlt : i < a.xs.length
  · have hwi := wr1 (i := i) (by omega)
    have hlb : i < b.xs.length := by omega
    have hst := eqm_step plI hlt hlb hi.2
    simp [cI, hlt, hlb, hwi, s28_6, ]
    simp only [plI] at hst
    refine ⟨fun hne he => hne (hst.2 (by rw [he])), fun heq => ?_⟩
    exact back (i + 1) ⟨by omega, hst.1 heq⟩ (by omega) rfl (by simp) (by simp) (by simp)
  · have := eq_all (a := a.xs.map plI) (b := b.xs.map plI) (by simpa using Nat.le_of_not_lt hlt) (by simpa using hl') hi.2
    have hlb : ¬ i < b.xs.length := by omega
    simp [hlt, hlb, this]
theorem w_laws_szIntSS (a : Sl (Sl (Int))) (left : Int) (h0 : 0 ≤ left) (h1 : left ≤ 1048576) (ha : okS (okS okI) a) :
   VC Try.prog 51 [.d (dSl (cS cI) a), .d (.int .i64 left)] (fun _ r => r = .d (.int .i64 (szv left (swS (swS swI) a)))) := by
  refine VC.of E s51 (by kernel_rfl) Try.func51 (by rfl) (by kernel_rfl) (by simp [Try.f51]) (by simp [Try.f51]) s51_ok fun B => ?_
  have ha1 := ha.1
  simp only [maxLen] at ha1
  have hw1 : IntKind.i64.wrap (left - (a.xs.length : Int)) = left - a.xs.length := wrap64_of (by omega) (by omega)
  have hwt : swS (swS swI) a = a.xs.length + sumW (swS swI) a.xs := rfl
  simp [Try.f51, dSl, hw1]
  refine ⟨fun h => ?_, fun h => ?_⟩
  · rw [szv_neg (by omega)]
  · refine loop_rule (X := Nat) (fun i => i ≤ a.xs.length ∧ 0 ≤ left - a.xs.length - sumW (swS swI) (a.xs.take i)) (fun i => [(0, .d (.sl a.id a.T (a.xs.map (cS cI)))), (1, .d (.int .i64 (left - a.xs.length - sumW (swS swI) (a.xs.take i)))), (5, .d (.int .i64 i))]) (fun _ => []) (fun i => a.xs.length - i) 0 ?_ ?_ (by simp) ?_
    · simp; omega
    · simp
    · intro i hs t m hi hh
      by_cases hlt : i < a.xs.length
      · simp [cS, hlt]
        refine call_pure (w_laws_szIntS a.xs[i] _ (by omega) (by omega) (ha.2 _ (List.getElem_mem _))) rfl (by simp) rfl fun hs' hh' => ?_
        have e1 := sumW_succ (swS swI) hlt
        have e2 := sumW_le (swS swI) a.xs (i + 1)
        have hwi := wr1 (i := i) (by omega)
        by_cases hc : (swS swI a.xs[i] : Int) ≤ left - a.xs.length - sumW (swS swI) (a.xs.take i)
        · rw [szv_pos hc]
          have hn : ¬ left - a.xs.length - sumW (swS swI) (a.xs.take i) - swS swI a.xs[i] < 0 := by omega
          simp [hwi, hn]
          refine back (i + 1) ⟨by omega, by omega⟩ (by omega) rfl (by simp at hh' ⊢; omega) ?_ (by simp)
          simp
          omega
        · rw [szv_neg (by omega)]
          simp
          rw [szv_neg (by omega)]
          all_goals exact fun h => absurd h (by decide)
      · have : i = a.xs.length := by omega
        subst this
        simp
        rw [szv_pos] <;> (simp at hi ⊢; omega)
theorem w_laws_eqIntSS (a b : Sl (Sl (Int))) (ha : okS (okS okI) a) :
   VC Try.prog 59 [.d (dSl (cS cI) a), .d (dSl (cS cI) b)] (fun _ r => r = .d (.bool (plS (plS plI) a == plS (plS plI) b))) := by
  refine VC.of E s59 (by kernel_rfl) Try.func59 (by rfl) (by kernel_rfl) (by simp [Try.f59]) (by simp [Try.f59]) s59_ok fun B => ?_
  have ha1 := ha.1
  simp only [maxLen] at ha1
  simp [Try.f59, s59_6, dSl, plS]
  refine ⟨fun h e => h (by have := congrArg List.length e; simp at this; omega), fun hl => ?_⟩
  have hl' : a.xs.length = b.xs.length := by omega
  refine loop_rule (X := Nat) (fun i => i ≤ a.xs.length ∧ (a.xs.map (plS plI)).take i = (b.xs.map (plS plI)).take i) (fun i => [(0, .d (.sl a.id a.T (a.xs.map (cS cI)))), (1, .d (.sl b.id b.T (b.xs.map (cS cI)))), (5, .d (.int .i64 i))]) (fun _ => []) (fun i => a.xs.length - i) 0 (by simp) (by simp) (by simp) ?_
  intro i hs t m hi hh
  by_cases hlt : i < a.xs.length
  · have hwi := wr1 (i := i) (by omega)
    have hlb : i < b.xs.length := by omega
    have hst := eqm_step (plS plI) hlt hlb hi.2
    simp [cS, hlt, hlb, s59_6, ]
    refine call_pure (w_laws_eqIntS a.xs[i] b.xs[i] (ha.2 _ (List.getElem_mem _))) rfl (by simp) rfl fun hs' hh' => ?_
    simp at hh'
    simp [hwi]
    refine ⟨fun hne he => hne (hst.2 (by rw [he])), fun heq => ?_⟩
    exact back (i + 1) ⟨by omega, hst.1 heq⟩ (by omega) rfl (by simp; omega) (by simp) (by simp)
  · have := eq_all (a := a.xs.map (plS plI)) (b := b.xs.map (plS plI)) (by simpa using Nat.le_of_not_lt hlt) (by simpa using hl') hi.2
    have hlb : ¬ i < b.xs.length := by omega
    simp [hlt, hlb, this]
theorem w_laws_szRelation (a : Reln) (left : Int) (h0 : 0 ≤ left) (h1 : left ≤ 1048576) (ha : okReln a) :
   VC Try.prog 154 [.agg ((cReln a).map V.d), .d (.int .i64 left)] (fun _ r => r = .d (.int .i64 (szv left (swReln a)))) := by
  refine VC.of E s154 (by kernel_rfl) Try.func154 (by rfl) (by kernel_rfl) (by simp [Try.f154]) (by simp [Try.f154]) s154_ok fun B => ?_
  have hwt : swReln a = swS (swS swI) a.rows := rfl
  have hc0 : (0 : Int) ≤ left := h0
  simp [Try.f154, cI, cReln, cS, dSl]
  refine call_pure (w_laws_szIntSS a.rows _ (by omega) (by omega) ha.2) rfl (by simp) rfl fun hs' hh' => ?_
  by_cases hb0 : (swS (swS swI) a.rows : Int) ≤ left
  · rw [szv_pos hb0]
    have hn0 : ¬ left - swS (swS swI) a.rows < 0 := by omega
    simp [hn0]
    rw [szv_pos (by omega)]; omega
  · rw [szv_neg (by omega)]
    simp
    try rw [szv_neg (by omega)]
    all_goals exact fun h => absurd h (by decide)
theorem w_laws_eqRelation (a b : Reln) (ha : okReln a) :
   VC Try.prog 156 [.agg ((cReln a).map V.d), .agg ((cReln b).map V.d)] (fun _ r => r = .d (.bool (plReln a == plReln b))) := by
  refine VC.of E s156 (by kernel_rfl) Try.func156 (by rfl) (by kernel_rfl) (by simp [Try.f156]) (by simp [Try.f156]) s156_ok fun B => ?_
  simp [Try.f156, cI, cReln, cS, dSl, plReln, plI, plStr]
  by_cases e0 : a.ar = b.ar
  case neg => simp [e0]
  simp [e0]
  refine call_pure (w_laws_eqIntSS a.rows b.rows ha.2) rfl (by simp) rfl fun hs1 hh1 => ?_
  by_cases e1 : plS (plS plI) a.rows = plS (plS plI) b.rows
  case neg => simp [e1]
  simp [e1]
theorem w_laws_szTable (a : Tab) (left : Int) (h0 : 0 ≤ left) (h1 : left ≤ 1048576) (ha : okTab a) :
   VC Try.prog 151 [.agg ((cTab a).map V.d), .d (.int .i64 left)] (fun _ r => r = .d (.int .i64 (szv left (swTab a)))) := by
  refine VC.of E s151 (by kernel_rfl) Try.func151 (by rfl) (by kernel_rfl) (by simp [Try.f151]) (by simp [Try.f151]) s151_ok fun B => ?_
  have hwt : swTab a = swStr a.name + swReln a.rel := rfl
  have hc0 : (0 : Int) ≤ left := h0
  have hs0 : a.name.length ≤ 9223372036854775807 := ha.1
  have hw0 : IntKind.i64.wrap (left - (a.name.length : Int)) = left - a.name.length := wrap64_of (by omega) (by omega)
  have hq0 : swStr a.name = a.name.length := rfl
  simp [Try.f151, cI, cReln, cS, cStr, cTab, dSl, hw0]
  refine ⟨fun hneg => ?_, fun hpos => ?_⟩
  · rw [szv_neg (by omega)]
  · skip
    refine call_pure (w_laws_szRelation a.rel _ (by omega) (by omega) ha.2) rfl (by simp) rfl fun hs' hh' => ?_
    by_cases hb1 : (swReln a.rel : Int) ≤ left - a.name.length
    · rw [szv_pos hb1]
      have hn1 : ¬ left - a.name.length - swReln a.rel < 0 := by omega
      simp [hn1]
      rw [szv_pos (by omega)]; omega
    · rw [szv_neg (by omega)]
      simp
      try rw [szv_neg (by omega)]
      all_goals exact fun h => absurd h (by decide)
theorem w_laws_eqTable (a b : Tab) (ha : okTab a) :
   VC Try.prog 153 [.agg ((cTab a).map V.d), .agg ((cTab b).map V.d)] (fun _ r => r = .d (.bool (plTab a == plTab b))) := by
  refine VC.of E s153 (by kernel_rfl) Try.func153 (by rfl) (by kernel_rfl) (by simp [Try.f153]) (by simp [Try.f153]) s153_ok fun B => ?_
  simp [Try.f153, cI, cReln, cS, cStr, cTab, dSl, plTab, plI, plStr]
  by_cases e0 : a.name = b.name
  case neg => simp [e0]
  simp [e0]
  refine call_pure (w_laws_eqRelation a.rel b.rel ha.2) rfl (by simp) rfl fun hs1 hh1 => ?_
  by_cases e1 : plReln a.rel = plReln b.rel
  case neg => simp [e1]
  simp [e1]
theorem w_laws_szTableS (a : Sl (Tab)) (left : Int) (h0 : 0 ≤ left) (h1 : left ≤ 1048576) (ha : okS okTab a) :
   VC Try.prog 144 [.d (dSl cTab a), .d (.int .i64 left)] (fun _ r => r = .d (.int .i64 (szv left (swS swTab a)))) := by
  refine VC.of E s144 (by kernel_rfl) Try.func144 (by rfl) (by kernel_rfl) (by simp [Try.f144]) (by simp [Try.f144]) s144_ok fun B => ?_
  have ha1 := ha.1
  simp only [maxLen] at ha1
  have hw1 : IntKind.i64.wrap (left - (a.xs.length : Int)) = left - a.xs.length := wrap64_of (by omega) (by omega)
  have hwt : swS swTab a = a.xs.length + sumW swTab a.xs := rfl
  simp [Try.f144, dSl, hw1]
  refine ⟨fun h => ?_, fun h => ?_⟩
  · rw [szv_neg (by omega)]
  · refine loop_rule (X := Nat) (fun i => i ≤ a.xs.length ∧ 0 ≤ left - a.xs.length - sumW swTab (a.xs.take i)) (fun i => [(0, .d (.sl a.id a.T (a.xs.map cTab))), (1, .d (.int .i64 (left - a.xs.length - sumW swTab (a.xs.take i)))), (5, .d (.int .i64 i))]) (fun _ => []) (fun i => a.xs.length - i) 0 ?_ ?_ (by simp) ?_
    · simp; omega
    · simp
    · intro i hs t m hi hh
      by_cases hlt : i < a.xs.length
      · simp [cI, cReln, cS, cStr, cTab, hlt]
        refine call_pure (w_laws_szTable a.xs[i] _ (by omega) (by omega) (ha.2 _ (List.getElem_mem _))) rfl (by simp) rfl fun hs' hh' => ?_
        have e1 := sumW_succ swTab hlt
        have e2 := sumW_le swTab a.xs (i + 1)
        have hwi := wr1 (i := i) (by omega)
        by_cases hc : (swTab a.xs[i] : Int) ≤ left - a.xs.length - sumW swTab (a.xs.take i)
        · rw [szv_pos hc]
          have hn : ¬ left - a.xs.length - sumW swTab (a.xs.take i) - swTab a.xs[i] < 0 := by omega
          simp [hwi, hn]
          refine back (i + 1) ⟨by omega, by omega⟩ (by omega) rfl (by simp at hh' ⊢; omega) ?_ (by simp)
          simp
          omega
        · rw [szv_neg (by omega)]
          simp
          rw [szv_neg (by omega)]
          all_goals exact fun h => absurd h (by decide)
      · have : i = a.xs.length := by omega
        subst this
        simp
        rw [szv_pos] <;> (simp at hi ⊢; omega)
theorem w_laws_eqTableS (a b : Sl (Tab)) (ha : okS okTab a) :
   VC Try.prog 146 [.d (dSl cTab a), .d (dSl cTab b)] (fun _ r => r = .d (.bool (plS plTab a == plS plTab b))) := by
  refine VC.of E s146 (by kernel_rfl) Try.func146 (by rfl) (by kernel_rfl) (by simp [Try.f146]) (by simp [Try.f146]) s146_ok fun B => ?_
  have ha1 := ha.1
  simp only [maxLen] at ha1
  simp [Try.f146, s146_6, dSl, plS]
  refine ⟨fun h e => h (by have := congrArg List.length e; simp at this; omega), fun hl => ?_⟩
  have hl' : a.xs.length = b.xs.length := by omega
  refine loop_rule (X := Nat) (fun i => i ≤ a.xs.length ∧ (a.xs.map plTab).take i = (b.xs.map plTab).take i) (fun i => [(0, .d (.sl a.id a.T (a.xs.map cTab))), (1, .d (.sl b.id b.T (b.xs.map cTab))), (5, .d (.int .i64 i))]) (fun _ => []) (fun i => a.xs.length - i) 0 (by simp) (by simp) (by simp) ?_
  intro i hs t m hi hh
  by_cases hlt : i < a.xs.length
  · have hwi := wr1 (i := i) (by omega)
    have hlb : i < b.xs.length := by omega
    have hst := eqm_step plTab hlt hlb hi.2
    simp [cI, cReln, cS, cStr, cTab, hlt, hlb, s146_6, ]
    refine call_pure (w_laws_eqTable a.xs[i] b.xs[i] (ha.2 _ (List.getElem_mem _))) rfl (by simp) rfl fun hs' hh' => ?_
    simp at hh'
    simp [hwi]
    refine ⟨fun hne he => hne (hst.2 (by rw [he])), fun heq => ?_⟩
    exact back (i + 1) ⟨by omega, hst.1 heq⟩ (by omega) rfl (by simp; omega) (by simp) (by simp)
  · have := eq_all (a := a.xs.map plTab) (b := b.xs.map plTab) (by simpa using Nat.le_of_not_lt hlt) (by simpa using hl') hi.2
    have hlb : ¬ i < b.xs.length := by omega
    simp [hlt, hlb, this]
theorem w_laws_szDatabase (a : Db) (left : Int) (h0 : 0 ≤ left) (h1 : left ≤ 1048576) (ha : okDb a) :
   VC Try.prog 131 [.agg ((cDb a).map V.d), .d (.int .i64 left)] (fun _ r => r = .d (.int .i64 (szv left (swDb a)))) := by
  refine VC.of E s131 (by kernel_rfl) Try.func131 (by rfl) (by kernel_rfl) (by simp [Try.f131]) (by simp [Try.f131]) s131_ok fun B => ?_
  have hwt : swDb a = swS swTab a.tabs := rfl
  have hc0 : (0 : Int) ≤ left := h0
  simp [Try.f131, cDb, cS, dSl]
  refine call_pure (w_laws_szTableS a.tabs _ (by omega) (by omega) ha) rfl (by simp) rfl fun hs' hh' => ?_
  by_cases hb0 : (swS swTab a.tabs : Int) ≤ left
  · rw [szv_pos hb0]
    have hn0 : ¬ left - swS swTab a.tabs < 0 := by omega
    simp [hn0]
    rw [szv_pos (by omega)]; omega
  · rw [szv_neg (by omega)]
    simp
    try rw [szv_neg (by omega)]
    all_goals exact fun h => absurd h (by decide)
theorem w_laws_eqDatabase (a b : Db) (ha : okDb a) :
   VC Try.prog 134 [.agg ((cDb a).map V.d), .agg ((cDb b).map V.d)] (fun _ r => r = .d (.bool (plDb a == plDb b))) := by
  refine VC.of E s134 (by kernel_rfl) Try.func134 (by rfl) (by kernel_rfl) (by simp [Try.f134]) (by simp [Try.f134]) s134_ok fun B => ?_
  simp [Try.f134, cDb, cS, dSl, plDb, plI, plStr]
  refine call_pure (w_laws_eqTableS a.tabs b.tabs ha) rfl (by simp) rfl fun hs0 hh0 => ?_
  by_cases e0 : plS plTab a.tabs = plS plTab b.tabs
  case neg => simp [e0]
  simp [e0]
theorem w_laws_szAtom (a : Atom) (left : Int) (h0 : 0 ≤ left) (h1 : left ≤ 1048576) (ha : okAtom a) :
   VC Try.prog 117 [.agg ((cAtom a).map V.d), .d (.int .i64 left)] (fun _ r => r = .d (.int .i64 (szv left (swAtom a)))) := by
  refine VC.of E s117 (by kernel_rfl) Try.func117 (by rfl) (by kernel_rfl) (by simp [Try.f117]) (by simp [Try.f117]) s117_ok fun B => ?_
  have hwt : swAtom a = swStr a.rel + swS swI a.vars := rfl
  have hc0 : (0 : Int) ≤ left := h0
  have hs0 : a.rel.length ≤ 9223372036854775807 := ha.1
  have hw0 : IntKind.i64.wrap (left - (a.rel.length : Int)) = left - a.rel.length := wrap64_of (by omega) (by omega)
  have hq0 : swStr a.rel = a.rel.length := rfl
  simp [Try.f117, cAtom, cS, cStr, dSl, hw0]
  refine ⟨fun hneg => ?_, fun hpos => ?_⟩
  · rw [szv_neg (by omega)]
  · skip
    refine call_pure (w_laws_szIntS a.vars _ (by omega) (by omega) ha.2) rfl (by simp) rfl fun hs' hh' => ?_
    by_cases hb1 : (swS swI a.vars : Int) ≤ left - a.rel.length
    · rw [szv_pos hb1]
      have hn1 : ¬ left - a.rel.length - swS swI a.vars < 0 := by omega
      simp [hn1]
      rw [szv_pos (by omega)]; omega
    · rw [szv_neg (by omega)]
      simp
      try rw [szv_neg (by omega)]
      all_goals exact fun h => absurd h (by decide)
theorem w_laws_eqAtom (a b : Atom) (ha : okAtom a) :
   VC Try.prog 123 [.agg ((cAtom a).map V.d), .agg ((cAtom b).map V.d)] (fun _ r => r = .d (.bool (plAtom a == plAtom b))) := by
  refine VC.of E s123 (by kernel_rfl) Try.func123 (by rfl) (by kernel_rfl) (by simp [Try.f123]) (by simp [Try.f123]) s123_ok fun B => ?_
  simp [Try.f123, cAtom, cS, cStr, dSl, plAtom, plI, plStr]
  by_cases e0 : a.rel = b.rel
  case neg => simp [e0]
  simp [e0]
  refine call_pure (w_laws_eqIntS a.vars b.vars ha.2) rfl (by simp) rfl fun hs1 hh1 => ?_
  by_cases e1 : plS plI a.vars = plS plI b.vars
  case neg => simp [e1]
  simp [e1]
theorem w_laws_szAtomS (a : Sl (Atom)) (left : Int) (h0 : 0 ≤ left) (h1 : left ≤ 1048576) (ha : okS okAtom a) :
   VC Try.prog 60 [.d (dSl cAtom a), .d (.int .i64 left)] (fun _ r => r = .d (.int .i64 (szv left (swS swAtom a)))) := by
  refine VC.of E s60 (by kernel_rfl) Try.func60 (by rfl) (by kernel_rfl) (by simp [Try.f60]) (by simp [Try.f60]) s60_ok fun B => ?_
  have ha1 := ha.1
  simp only [maxLen] at ha1
  have hw1 : IntKind.i64.wrap (left - (a.xs.length : Int)) = left - a.xs.length := wrap64_of (by omega) (by omega)
  have hwt : swS swAtom a = a.xs.length + sumW swAtom a.xs := rfl
  simp [Try.f60, dSl, hw1]
  refine ⟨fun h => ?_, fun h => ?_⟩
  · rw [szv_neg (by omega)]
  · refine loop_rule (X := Nat) (fun i => i ≤ a.xs.length ∧ 0 ≤ left - a.xs.length - sumW swAtom (a.xs.take i)) (fun i => [(0, .d (.sl a.id a.T (a.xs.map cAtom))), (1, .d (.int .i64 (left - a.xs.length - sumW swAtom (a.xs.take i)))), (5, .d (.int .i64 i))]) (fun _ => []) (fun i => a.xs.length - i) 0 ?_ ?_ (by simp) ?_
    · simp; omega
    · simp
    · intro i hs t m hi hh
      by_cases hlt : i < a.xs.length
      · simp [cAtom, cS, cStr, hlt]
        refine call_pure (w_laws_szAtom a.xs[i] _ (by omega) (by omega) (ha.2 _ (List.getElem_mem _))) rfl (by simp) rfl fun hs' hh' => ?_
        have e1 := sumW_succ swAtom hlt
        have e2 := sumW_le swAtom a.xs (i + 1)
        have hwi := wr1 (i := i) (by omega)
        by_cases hc : (swAtom a.xs[i] : Int) ≤ left - a.xs.length - sumW swAtom (a.xs.take i)
        · rw [szv_pos hc]
          have hn : ¬ left - a.xs.length - sumW swAtom (a.xs.take i) - swAtom a.xs[i] < 0 := by omega
          simp [hwi, hn]
          refine back (i + 1) ⟨by omega, by omega⟩ (by omega) rfl (by simp at hh' ⊢; omega) ?_ (by simp)
          simp
          omega
        · rw [szv_neg (by omega)]
          simp
          rw [szv_neg (by omega)]
          all_goals exact fun h => absurd h (by decide)
      · have : i = a.xs.length := by omega
        subst this
        simp
        rw [szv_pos] <;> (simp at hi ⊢; omega)
theorem w_laws_eqAtomS (a b : Sl (Atom)) (ha : okS okAtom a) :
   VC Try.prog 66 [.d (dSl cAtom a), .d (dSl cAtom b)] (fun _ r => r = .d (.bool (plS plAtom a == plS plAtom b))) := by
  refine VC.of E s66 (by kernel_rfl) Try.func66 (by rfl) (by kernel_rfl) (by simp [Try.f66]) (by simp [Try.f66]) s66_ok fun B => ?_
  have ha1 := ha.1
  simp only [maxLen] at ha1
  simp [Try.f66, s66_6, dSl, plS]
  refine ⟨fun h e => h (by have := congrArg List.length e; simp at this; omega), fun hl => ?_⟩
  have hl' : a.xs.length = b.xs.length := by omega
  refine loop_rule (X := Nat) (fun i => i ≤ a.xs.length ∧ (a.xs.map plAtom).take i = (b.xs.map plAtom).take i) (fun i => [(0, .d (.sl a.id a.T (a.xs.map cAtom))), (1, .d (.sl b.id b.T (b.xs.map cAtom))), (5, .d (.int .i64 i))]) (fun _ => []) (fun i => a.xs.length - i) 0 (by simp) (by simp) (by simp) ?_
  intro i hs t m hi hh
  by_cases hlt : i < a.xs.length
  · have hwi := wr1 (i := i) (by omega)
    have hlb : i < b.xs.length := by omega
    have hst := eqm_step plAtom hlt hlb hi.2
    simp [cAtom, cS, cStr, hlt, hlb, s66_6, ]
    refine call_pure (w_laws_eqAtom a.xs[i] b.xs[i] (ha.2 _ (List.getElem_mem _))) rfl (by simp) rfl fun hs' hh' => ?_
    simp at hh'
    simp [hwi]
    refine ⟨fun hne he => hne (hst.2 (by rw [he])), fun heq => ?_⟩
    exact back (i + 1) ⟨by omega, hst.1 heq⟩ (by omega) rfl (by simp; omega) (by simp) (by simp)
  · have := eq_all (a := a.xs.map plAtom) (b := b.xs.map plAtom) (by simpa using Nat.le_of_not_lt hlt) (by simpa using hl') hi.2
    have hlb : ¬ i < b.xs.length := by omega
    simp [hlt, hlb, this]
theorem w_laws_szQuery (a : Query) (left : Int) (h0 : 0 ≤ left) (h1 : left ≤ 1048576) (ha : okQuery a) :
   VC Try.prog 15 [.agg ((cQuery a).map V.d), .d (.int .i64 left)] (fun _ r => r = .d (.int .i64 (szv left (swQuery a)))) := by
  refine VC.of E s15 (by kernel_rfl) Try.func15 (by rfl) (by kernel_rfl) (by simp [Try.f15]) (by simp [Try.f15]) s15_ok fun B => ?_
  have hwt : swQuery a = swS swAtom a.atoms + swS swI a.out := rfl
  have hc0 : (0 : Int) ≤ left := h0
  simp [Try.f15, cI, cQuery, cS, dSl]
  refine call_pure (w_laws_szAtomS a.atoms _ (by omega) (by omega) ha.2.1) rfl (by simp) rfl fun hs' hh' => ?_
  by_cases hb0 : (swS swAtom a.atoms : Int) ≤ left
  · rw [szv_pos hb0]
    have hn0 : ¬ left - swS swAtom a.atoms < 0 := by omega
    simp [hn0]
    refine call_pure (w_laws_szIntS a.out _ (by omega) (by omega) ha.2.2) rfl (by simp) rfl fun hs' hh' => ?_
    by_cases hb1 : (swS swI a.out : Int) ≤ left - swS swAtom a.atoms
    · rw [szv_pos hb1]
      have hn1 : ¬ left - swS swAtom a.atoms - swS swI a.out < 0 := by omega
      simp [hn1]
      rw [szv_pos (by omega)]; omega
    · rw [szv_neg (by omega)]
      simp
      try rw [szv_neg (by omega)]
      all_goals exact fun h => absurd h (by decide)
  · rw [szv_neg (by omega)]
    simp
    try rw [szv_neg (by omega)]
    all_goals exact fun h => absurd h (by decide)
theorem w_laws_eqQuery (a b : Query) (ha : okQuery a) :
   VC Try.prog 19 [.agg ((cQuery a).map V.d), .agg ((cQuery b).map V.d)] (fun _ r => r = .d (.bool (plQuery a == plQuery b))) := by
  refine VC.of E s19 (by kernel_rfl) Try.func19 (by rfl) (by kernel_rfl) (by simp [Try.f19]) (by simp [Try.f19]) s19_ok fun B => ?_
  simp [Try.f19, cI, cQuery, cS, dSl, plQuery, plI, plStr]
  by_cases e0 : a.n = b.n
  case neg => simp [e0]
  simp [e0]
  refine call_pure (w_laws_eqAtomS a.atoms b.atoms ha.2.1) rfl (by simp) rfl fun hs1 hh1 => ?_
  by_cases e1 : plS plAtom a.atoms = plS plAtom b.atoms
  case neg => simp [e1]
  simp [e1]
  refine call_pure (w_laws_eqIntS a.out b.out ha.2.2) rfl (by simp) rfl fun hs2 hh2 => ?_
  by_cases e2 : plS plI a.out = plS plI b.out
  case neg => simp [e2]
  simp [e2]
theorem w_laws_szDecomposition (a : Dec) (left : Int) (h0 : 0 ≤ left) (h1 : left ≤ 1048576) (ha : okDec a) :
   VC Try.prog 10 [.agg ((cDec a).map V.d), .d (.int .i64 left)] (fun _ r => r = .d (.int .i64 (szv left (swDec a)))) := by
  refine VC.of E s10 (by kernel_rfl) Try.func10 (by rfl) (by kernel_rfl) (by simp [Try.f10]) (by simp [Try.f10]) s10_ok fun B => ?_
  have hwt : swDec a = swS (swS swI) a.bags + swS swI a.par := rfl
  have hc0 : (0 : Int) ≤ left := h0
  simp [Try.f10, cDec, cS, dSl]
  refine call_pure (w_laws_szIntSS a.bags _ (by omega) (by omega) ha.1) rfl (by simp) rfl fun hs' hh' => ?_
  by_cases hb0 : (swS (swS swI) a.bags : Int) ≤ left
  · rw [szv_pos hb0]
    have hn0 : ¬ left - swS (swS swI) a.bags < 0 := by omega
    simp [hn0]
    refine call_pure (w_laws_szIntS a.par _ (by omega) (by omega) ha.2) rfl (by simp) rfl fun hs' hh' => ?_
    by_cases hb1 : (swS swI a.par : Int) ≤ left - swS (swS swI) a.bags
    · rw [szv_pos hb1]
      have hn1 : ¬ left - swS (swS swI) a.bags - swS swI a.par < 0 := by omega
      simp [hn1]
      rw [szv_pos (by omega)]; omega
    · rw [szv_neg (by omega)]
      simp
      try rw [szv_neg (by omega)]
      all_goals exact fun h => absurd h (by decide)
  · rw [szv_neg (by omega)]
    simp
    try rw [szv_neg (by omega)]
    all_goals exact fun h => absurd h (by decide)
theorem w_laws_eqDecomposition (a b : Dec) (ha : okDec a) :
   VC Try.prog 14 [.agg ((cDec a).map V.d), .agg ((cDec b).map V.d)] (fun _ r => r = .d (.bool (plDec a == plDec b))) := by
  refine VC.of E s14 (by kernel_rfl) Try.func14 (by rfl) (by kernel_rfl) (by simp [Try.f14]) (by simp [Try.f14]) s14_ok fun B => ?_
  simp [Try.f14, cDec, cS, dSl, plDec, plI, plStr]
  refine call_pure (w_laws_eqIntSS a.bags b.bags ha.1) rfl (by simp) rfl fun hs0 hh0 => ?_
  by_cases e0 : plS (plS plI) a.bags = plS (plS plI) b.bags
  case neg => simp [e0]
  simp [e0]
  refine call_pure (w_laws_eqIntS a.par b.par ha.2) rfl (by simp) rfl fun hs1 hh1 => ?_
  by_cases e1 : plS plI a.par = plS plI b.par
  case neg => simp [e1]
  simp [e1]
theorem w_laws_szDatabaseS (a : Sl (Db)) (left : Int) (h0 : 0 ≤ left) (h1 : left ≤ 1048576) (ha : okS okDb a) :
   VC Try.prog 88 [.d (dSl cDb a), .d (.int .i64 left)] (fun _ r => r = .d (.int .i64 (szv left (swS swDb a)))) := by
  refine VC.of E s88 (by kernel_rfl) Try.func88 (by rfl) (by kernel_rfl) (by simp [Try.f88]) (by simp [Try.f88]) s88_ok fun B => ?_
  have ha1 := ha.1
  simp only [maxLen] at ha1
  have hw1 : IntKind.i64.wrap (left - (a.xs.length : Int)) = left - a.xs.length := wrap64_of (by omega) (by omega)
  have hwt : swS swDb a = a.xs.length + sumW swDb a.xs := rfl
  simp [Try.f88, dSl, hw1]
  refine ⟨fun h => ?_, fun h => ?_⟩
  · rw [szv_neg (by omega)]
  · refine loop_rule (X := Nat) (fun i => i ≤ a.xs.length ∧ 0 ≤ left - a.xs.length - sumW swDb (a.xs.take i)) (fun i => [(0, .d (.sl a.id a.T (a.xs.map cDb))), (1, .d (.int .i64 (left - a.xs.length - sumW swDb (a.xs.take i)))), (5, .d (.int .i64 i))]) (fun _ => []) (fun i => a.xs.length - i) 0 ?_ ?_ (by simp) ?_
    · simp; omega
    · simp
    · intro i hs t m hi hh
      by_cases hlt : i < a.xs.length
      · simp [cDb, cS, hlt]
        refine call_pure (w_laws_szDatabase a.xs[i] _ (by omega) (by omega) (ha.2 _ (List.getElem_mem _))) rfl (by simp) rfl fun hs' hh' => ?_
        have e1 := sumW_succ swDb hlt
        have e2 := sumW_le swDb a.xs (i + 1)
        have hwi := wr1 (i := i) (by omega)
        by_cases hc : (swDb a.xs[i] : Int) ≤ left - a.xs.length - sumW swDb (a.xs.take i)
        · rw [szv_pos hc]
          have hn : ¬ left - a.xs.length - sumW swDb (a.xs.take i) - swDb a.xs[i] < 0 := by omega
          simp [hwi, hn]
          refine back (i + 1) ⟨by omega, by omega⟩ (by omega) rfl (by simp at hh' ⊢; omega) ?_ (by simp)
          simp
          omega
        · rw [szv_neg (by omega)]
          simp
          rw [szv_neg (by omega)]
          all_goals exact fun h => absurd h (by decide)
      · have : i = a.xs.length := by omega
        subst this
        simp
        rw [szv_pos] <;> (simp at hi ⊢; omega)
theorem w_laws_eqDatabaseS (a b : Sl (Db)) (ha : okS okDb a) :
   VC Try.prog 92 [.d (dSl cDb a), .d (dSl cDb b)] (fun _ r => r = .d (.bool (plS plDb a == plS plDb b))) := by
  refine VC.of E s92 (by kernel_rfl) Try.func92 (by rfl) (by kernel_rfl) (by simp [Try.f92]) (by simp [Try.f92]) s92_ok fun B => ?_
  have ha1 := ha.1
  simp only [maxLen] at ha1
  simp [Try.f92, s92_6, dSl, plS]
  refine ⟨fun h e => h (by have := congrArg List.length e; simp at this; omega), fun hl => ?_⟩
  have hl' : a.xs.length = b.xs.length := by omega
  refine loop_rule (X := Nat) (fun i => i ≤ a.xs.length ∧ (a.xs.map plDb).take i = (b.xs.map plDb).take i) (fun i => [(0, .d (.sl a.id a.T (a.xs.map cDb))), (1, .d (.sl b.id b.T (b.xs.map cDb))), (5, .d (.int .i64 i))]) (fun _ => []) (fun i => a.xs.length - i) 0 (by simp) (by simp) (by simp) ?_
  intro i hs t m hi hh
  by_cases hlt : i < a.xs.length
  · have hwi := wr1 (i := i) (by omega)
    have hlb : i < b.xs.length := by omega
    have hst := eqm_step plDb hlt hlb hi.2
    simp [cDb, cS, hlt, hlb, s92_6, ]
    refine call_pure (w_laws_eqDatabase a.xs[i] b.xs[i] (ha.2 _ (List.getElem_mem _))) rfl (by simp) rfl fun hs' hh' => ?_
    simp at hh'
    simp [hwi]
    refine ⟨fun hne he => hne (hst.2 (by rw [he])), fun heq => ?_⟩
    exact back (i + 1) ⟨by omega, hst.1 heq⟩ (by omega) rfl (by simp; omega) (by simp) (by simp)
  · have := eq_all (a := a.xs.map plDb) (b := b.xs.map plDb) (by simpa using Nat.le_of_not_lt hlt) (by simpa using hl') hi.2
    have hlb : ¬ i < b.xs.length := by omega
    simp [hlt, hlb, this]
theorem w_laws_szHistory (a : Hist) (left : Int) (h0 : 0 ≤ left) (h1 : left ≤ 1048576) (ha : okHist a) :
   VC Try.prog 30 [.agg ((cHist a).map V.d), .d (.int .i64 left)] (fun _ r => r = .d (.int .i64 (szv left (swHist a)))) := by
  refine VC.of E s30 (by kernel_rfl) Try.func30 (by rfl) (by kernel_rfl) (by simp [Try.f30]) (by simp [Try.f30]) s30_ok fun B => ?_
  have hwt : swHist a = swS swDb a.dbs := rfl
  have hc0 : (0 : Int) ≤ left := h0
  simp [Try.f30, cHist, cI, cS, dSl]
  refine call_pure (w_laws_szDatabaseS a.dbs _ (by omega) (by omega) ha.2) rfl (by simp) rfl fun hs' hh' => ?_
  by_cases hb0 : (swS swDb a.dbs : Int) ≤ left
  · rw [szv_pos hb0]
    have hn0 : ¬ left - swS swDb a.dbs < 0 := by omega
    simp [hn0]
    rw [szv_pos (by omega)]; omega
  · rw [szv_neg (by omega)]
    simp
    try rw [szv_neg (by omega)]
    all_goals exact fun h => absurd h (by decide)
theorem w_laws_eqHistory (a b : Hist) (ha : okHist a) :
   VC Try.prog 34 [.agg ((cHist a).map V.d), .agg ((cHist b).map V.d)] (fun _ r => r = .d (.bool (plHist a == plHist b))) := by
  refine VC.of E s34 (by kernel_rfl) Try.func34 (by rfl) (by kernel_rfl) (by simp [Try.f34]) (by simp [Try.f34]) s34_ok fun B => ?_
  simp [Try.f34, cHist, cI, cS, dSl, plHist, plI, plStr]
  by_cases e0 : a.first = b.first
  case neg => simp [e0]
  simp [e0]
  refine call_pure (w_laws_eqDatabaseS a.dbs b.dbs ha.2) rfl (by simp) rfl fun hs1 hh1 => ?_
  by_cases e1 : plS plDb a.dbs = plS plDb b.dbs
  case neg => simp [e1]
  simp [e1]

end Go.Proofs.Ytmifoeaifdmgkaa

namespace Go.Proofs.Ytmifoeaifdmgkaa
open Go.Vs Go.Proofs Go
set_option maxRecDepth 100000
set_option maxHeartbeats 1000000

theorem w_laws_toIntS (a : Sl (Int)) (ha : okS okI a) (hb : a.xs.length ≤ 1048576) :
   VC Try.prog 26 [.d (dSl cI a)] (fun n r => ∃ y : Sl (Int), r = .d (dSl cI y) ∧ plS plI y = plS plI a ∧ okS okI y ∧ Good (cS cI y) (whS whI y) n) := by
  refine VC.of E s26 (by kernel_rfl) Try.func26 (by rfl) (by kernel_rfl) (by simp [Try.f26]) (by simp [Try.f26]) s26_ok fun B => ?_
  simp [Try.f26, dSl]
  refine ⟨⟨by omega, by simp only [maxLen]; omega⟩, ?_⟩
  refine loop_rule (X := Nat) (fun i => i ≤ a.xs.length) (fun i => [(0, .d (.sl a.id a.T (a.xs.map cI))), (3, .own 7 0 a.xs.length), (4, .d (.int .i64 i))]) (fun i => [(7, some (.row 3 1 (fill [.int .i64 0] (a.xs.map cI) i)))]) (fun i => a.xs.length - i) 0 (by simp) (by simp) (by simp) ?_
  intro i hs t m hi hh
  by_cases hlt : i < a.xs.length
  · have hwi := wr1 (i := i) (by omega)
    simp [cI, hlt, hwi]
    refine back (i + 1) (by omega) (by omega) rfl (by simp) (by simp) ?_
    have := fill_set (z := [.int .i64 0]) (l := a.xs.map cI) (i := i) (by simpa using hlt) (by simp [hlt]; rfl)
    simp only [cI] at this ⊢
    simp [this]
  · have hn : i = a.xs.length := by omega
    subst hn
    have hf : fill [.int .i64 0] (a.xs.map cI) a.xs.length = a.xs.map cI := fill_all (by simp)
    simp [hf]
    intro γ hs' h1 hg
    obtain ⟨q1, q2⟩ := gam_at hg (k := 7) (T := 3) (sz := 1) (es := a.xs.map cI) (by simp)
    have q3 := gam_row hg (k := 7) (T := 3) (sz := 1) (es := a.xs.map cI) (by simp)
    clear hg
    refine ⟨⟨γ 7, some (3, 1), a.xs⟩, ⟨⟨rfl, rfl, List.take_of_length_le (by simp)⟩, rfl, ha, good_row (fun g hg => (q1 g hg).1) (by simpa using q2) q3 ⟨by simp, by simp⟩ (by simp [whI, whStr])⟩⟩
theorem w_laws_heldIntS (a : Sl (Int)) (k : Int) (h0 : 1 ≤ k) (h1 : k + wtS wtI a ≤ 4611686018427387904) (ha : okS okI a) :
   VC Try.prog 70 [.d (dSl cI a), .d (.int .i64 k)] (fun _ r => r = .d (.int .i64 (hv (hlS (hlI) (wtI) a k) k (wtS wtI a)))) := by
  refine VC.of E s70 (by kernel_rfl) Try.func70 (by rfl) (by kernel_rfl) (by simp [Try.f70]) (by simp [Try.f70]) s70_ok fun B => ?_
  obtain ⟨id, T, xs⟩ := a
  have ha1 := ha.1
  simp only [maxLen] at ha1
  have hwt : wtS wtI (⟨id, T, xs⟩ : Sl (Int)) = sumW wtI xs := rfl
  have hhl : hlS (hlI) (wtI) (⟨id, T, xs⟩ : Sl (Int)) k = hlList hlI wtI xs k := rfl
  rw [hwt] at h1
  rw [hwt, hhl]
  simp [Try.f70, dSl]
  refine loop_rule (X := Nat) (fun i => i ≤ xs.length ∧ hlList hlI wtI (xs.take i) k = true) (fun i => [(0, .d (.sl id T (xs.map cI))), (1, .d (.int .i64 (k + sumW wtI (xs.take i)))), (5, .d (.int .i64 i))]) (fun _ => []) (fun i => xs.length - i) 0 (by simp [hlList]) (by simp) (by simp) ?_
  intro i hs t m hi hh
  by_cases hlt : i < xs.length
  · have hwi := wr1 (i := i) (by omega)
    have e1 := sumW_succ wtI hlt
    have e2 := sumW_le wtI xs (i + 1)
    have hmem : xs[i] ∈ xs := List.getElem_mem _
    have hstep := hlList_step (hl := hlI) (wt := wtI) (k := k) hlt
    rw [hi.2, Bool.true_and] at hstep
    have hbad := hlList_bad (hl := hlI) (wt := wtI) (k := k) hlt
    have hex : hlI xs[i] (k + sumW wtI (xs.take i)) = (xs[i] == k + sumW wtI (xs.take i)) := rfl
    have hwx : wtI xs[i] = 1 := rfl
    have hk0 : IntKind.i64.wrap (k + sumW wtI (xs.take i) + 1) = k + sumW wtI (xs.take i) + 1 := wrap64_of (by omega) (by omega)
    simp [cI, hlt, dSl, ]
    by_cases c0 : xs[i] = k + sumW wtI (xs.take i)
    case neg => simp [c0, hbad (by simp [hex, c0])]
    simp [c0, hk0, ]
    simp [hwi]
    refine back (i + 1) ⟨by omega, hstep.trans (hex.trans (by simp [c0]))⟩ (by omega) rfl (by simp <;> omega) ?_ (by simp)
    simp
    omega
  · have hn : i = xs.length := by omega
    subst hn
    have h2 := hi.2
    rw [List.take_length] at h2
    simp [h2]
theorem w_laws_toIntSS (a : Sl (Sl (Int))) (ha : okS (okS okI) a) (hb : swS (swS swI) a ≤ 1048576) :
   VC Try.prog 55 [.d (dSl (cS cI) a)] (fun n r => ∃ y : Sl (Sl (Int)), r = .d (dSl (cS cI) y) ∧ plS (plS plI) y = plS (plS plI) a ∧ okS (okS okI) y ∧ Good (cS (cS cI) y) (whS (whS whI) y) n) := by
  refine VC.of E s55 (by kernel_rfl) Try.func55 (by rfl) (by kernel_rfl) (by simp [Try.f55]) (by simp [Try.f55]) s55_ok fun B => ?_
  have hwt : swS (swS swI) a = a.xs.length + sumW (swS swI) a.xs := rfl
  simp [Try.f55, dSl]
  refine ⟨⟨by omega, by simp only [maxLen]; omega⟩, ?_⟩
  refine loop_rule2 (X := Nat × List (Sl (Int))) (fun p h => p.1 ≤ a.xs.length ∧ p.2.length = p.1 ∧ p.2.map (plS plI) = (a.xs.map (plS plI)).take p.1 ∧ (∀ y ∈ p.2, okS okI y) ∧ GoodL (cS cI) (whS whI) B h p.2) (fun p => [(0, .d (.sl a.id a.T (a.xs.map (cS cI)))), (3, .own 7 0 a.xs.length), (4, .d (.int .i64 p.1))]) (fun p => [(7, some (.row 23 1 (p.2.map (cS cI) ++ List.replicate (a.xs.length - p.1) [.sl none none []])))]) (fun p => a.xs.length - p.1) (0, []) ⟨by simp, rfl, by simp, by simp, GoodL.nil⟩ (by simp) (by simp) ?_
  rintro ⟨i, ys⟩ hs t m ⟨hi, hyl, hpl, hok, hgd⟩ hh
  simp only at hi hyl hpl hok hgd
  by_cases hlt : i < a.xs.length
  · have hwi := wr1 (i := i) (by omega)
    have hmem : a.xs[i] ∈ a.xs := List.getElem_mem _
    have hsw := sumW_mem (swS swI) hmem
    simp [cS, hlt]
    refine call_some (w_laws_toIntS a.xs[i] (ha.2 _ hmem) (by simp only [swS] at hsw; omega)) rfl (by simp) fun n hs' r hn hn' hp hr => ?_
    obtain ⟨y, rfl, hy1, hy2, hy3⟩ := hp
    simp at hn
    have hr' : ∀ g ∈ idsL (cS cI y), g < hs' := fun g hg => hr g (by first | (simp [cS, V.ids, idsVL, idsL] at hg; done) | simpa [cS, V.ids, idsVL, idsL] using hg)
    have hyi : ys.length = i := hyl
    simp [cS, hlt, hwi, hyi, show i + (a.xs.length - i) = a.xs.length by omega, dSl]
    refine back2 (i + 1, ys ++ [y]) ⟨by omega, by simp [hyi], ?_, ?_, ?_⟩ (by simp <;> omega) rfl (by simp <;> omega) (by simp) ?_
    · simp only [List.map_append, hpl, List.map_cons, List.map_nil, hy1]
      rw [List.take_succ_eq_append_getElem (by simpa using hlt)]; simp
    · intro y' hy'
      rcases List.mem_append.1 hy' with h | h
      · exact hok y' h
      · rw [List.mem_singleton.1 h]; exact hy2
    · exact GoodL.snoc hgd (by omega) hn' hy3 hr'
    · simp [rep_set0 hlt, cS, dSl]
  · have hn : i = a.xs.length := by omega
    subst hn
    simp
    intro γ hs' h1 hg
    obtain ⟨q1, q2⟩ := gam_at hg (k := 7) (T := 23) (sz := 1) (es := ys.map (cS cI)) (by simp [upd])
    have q3 := gam_row hg (k := 7) (T := 23) (sz := 1) (es := ys.map (cS cI)) (by simp [upd])
    clear hg
    refine ⟨_, ⟨by omega, rfl⟩, ⟨γ 7, some (23, 1), ys⟩, ?_, by rw [List.take_of_length_le (by simp)] at hpl; exact hpl, ⟨by simp only [maxLen]; show ys.length ≤ _; omega, hok⟩, good_row (fun g hg => (q1 g hg).1) (by simpa using q2) q3 ⟨hgd.nd, hgd.lo⟩ hgd.wh⟩
    rw [if_pos hyl.symm, List.take_of_length_le (by simp [hyl])]
theorem w_laws_heldIntSS (a : Sl (Sl (Int))) (k : Int) (h0 : 1 ≤ k) (h1 : k + wtS (wtS wtI) a ≤ 4611686018427387904) (ha : okS (okS okI) a) :
   VC Try.prog 69 [.d (dSl (cS cI) a), .d (.int .i64 k)] (fun _ r => r = .d (.int .i64 (hv (hlS (hlS (hlI) (wtI)) (wtS wtI) a k) k (wtS (wtS wtI) a)))) := by
  refine VC.of E s69 (by kernel_rfl) Try.func69 (by rfl) (by kernel_rfl) (by simp [Try.f69]) (by simp [Try.f69]) s69_ok fun B => ?_
  obtain ⟨id, T, xs⟩ := a
  have ha1 := ha.1
  simp only [maxLen] at ha1
  have hwt : wtS (wtS wtI) (⟨id, T, xs⟩ : Sl (Sl (Int))) = sumW (wtS wtI) xs := rfl
  have hhl : hlS (hlS (hlI) (wtI)) (wtS wtI) (⟨id, T, xs⟩ : Sl (Sl (Int))) k = hlList (hlS (hlI) (wtI)) (wtS wtI) xs k := rfl
  rw [hwt] at h1
  rw [hwt, hhl]
  simp [Try.f69, dSl]
  refine loop_rule (X := Nat) (fun i => i ≤ xs.length ∧ hlList (hlS (hlI) (wtI)) (wtS wtI) (xs.take i) k = true) (fun i => [(0, .d (.sl id T (xs.map (cS cI)))), (1, .d (.int .i64 (k + sumW (wtS wtI) (xs.take i)))), (5, .d (.int .i64 i))]) (fun _ => []) (fun i => xs.length - i) 0 (by simp [hlList]) (by simp) (by simp) ?_
  intro i hs t m hi hh
  by_cases hlt : i < xs.length
  · have hwi := wr1 (i := i) (by omega)
    have e1 := sumW_succ (wtS wtI) hlt
    have e2 := sumW_le (wtS wtI) xs (i + 1)
    have hmem : xs[i] ∈ xs := List.getElem_mem _
    have hstep := hlList_step (hl := (hlS (hlI) (wtI))) (wt := (wtS wtI)) (k := k) hlt
    rw [hi.2, Bool.true_and] at hstep
    have hbad := hlList_bad (hl := (hlS (hlI) (wtI))) (wt := (wtS wtI)) (k := k) hlt
    have hex : hlS (hlI) (wtI) xs[i] (k + sumW (wtS wtI) (xs.take i)) = (hlS (hlI) (wtI) xs[i] (k + sumW (wtS wtI) (xs.take i))) := rfl
    have hwx : wtS wtI xs[i] = wtS wtI xs[i] := rfl
    simp [cS, hlt, dSl, ]
    refine call_pure (w_laws_heldIntS xs[i] _ (by omega) (by omega) ((ha.2 _ hmem))) rfl (by simp) rfl fun hs0 hh0 => ?_
    simp at hh0
    by_cases c0 : hlS (hlI) (wtI) xs[i] (k + sumW (wtS wtI) (xs.take i)) = true
    case neg =>
      have c0' : hlS (hlI) (wtI) xs[i] (k + sumW (wtS wtI) (xs.take i)) = false := by simpa using c0
      simp [c0', hbad (by simp [hex, c0'])]
    have hn0 : ¬ k + sumW (wtS wtI) (xs.take i) + (wtS wtI xs[i] : Int) < 0 := by omega
    simp [c0, hn0, hlt, cS, dSl, ]
    simp [hwi]
    refine back (i + 1) ⟨by omega, hstep.trans (hex.trans (by simp [c0]))⟩ (by omega) rfl (by simp <;> omega) ?_ (by simp)
    simp
    omega
  · have hn : i = xs.length := by omega
    subst hn
    have h2 := hi.2
    rw [List.take_length] at h2
    simp [h2]
theorem w_laws_toRelation (a : Reln) (ha : okReln a) (hb : swReln a ≤ 1048576) :
   VC Try.prog 155 [.agg ((cReln a).map V.d)] (fun n r => ∃ y : Reln, r = .agg ((cReln y).map V.d) ∧ plReln y = plReln a ∧ okReln y ∧ Good (cReln y) (whReln y) n) := by
  refine VC.of E s155 (by kernel_rfl) Try.func155 (by rfl) (by kernel_rfl) (by simp [Try.f155]) (by simp [Try.f155]) s155_ok fun B => ?_
  have hwt : swReln a = swS (swS swI) a.rows := rfl
  simp [Try.f155, cI, cReln, cS, dSl]
  refine call_some (w_laws_toIntSS a.rows ha.2 (by have := hwt; omega)) rfl (by simp) fun n0 hs0 r0 hn0 hm0 hp0 hr0 => ?_
  obtain ⟨y0, rfl, hy0, hk0, hg0⟩ := hp0
  have hl0 : ∀ g ∈ idsL (cS (cS cI) y0), g < hs0 := fun g hg => hr0 g (by first | (simp [cS, V.ids, idsVL, idsL] at hg; done) | simpa [cS, V.ids, idsVL, idsL] using hg)
  simp at hn0
  simp [cS, dSl]
  refine ⟨⟨a.ar, y0⟩, ?_⟩
  refine ⟨by simp [cI, cReln, cS, dSl], by simp only [plReln, hy0], ⟨ha.1, hk0⟩, ?_⟩
  have G0 : Good (cI a.ar) (whI a.ar) B := good_I B a.ar
  have G1 : Good (cS (cS cI) y0) (whS (whS whI) y0) B := hg0.le (by omega)
  have U0 : ∀ g ∈ idsL (cI a.ar), g < B := by simp [cI, idsL, D.ids]
  have K1 : Good (cI a.ar ++ cS (cS cI) y0) ((whI a.ar) ∧ whS (whS whI) y0) B := Good.app G0 G1 (fun g h h' => by have h1 := U0 g h; have h2 := hg0.lo g h'; omega)
  have U1 : ∀ g ∈ idsL (cI a.ar ++ cS (cS cI) y0), g < hs0 := fun g h => by rw [idsL_app] at h; rcases List.mem_append.1 h with h | h; (have h1 := U0 g h; omega); exact hl0 g h
  exact ⟨K1.nd, K1.lo, by have h := K1.wh; exact ⟨h.1, h.2⟩⟩
theorem w_laws_toTable (a : Tab) (ha : okTab a) (hb : swTab a ≤ 1048576) :
   VC Try.prog 152 [.agg ((cTab a).map V.d)] (fun n r => ∃ y : Tab, r = .agg ((cTab y).map V.d) ∧ plTab y = plTab a ∧ okTab y ∧ Good (cTab y) (whTab y) n) := by
  refine VC.of E s152 (by kernel_rfl) Try.func152 (by rfl) (by kernel_rfl) (by simp [Try.f152]) (by simp [Try.f152]) s152_ok fun B => ?_
  have hwt : swTab a = swStr a.name + swReln a.rel := rfl
  simp [Try.f152, cI, cReln, cS, cStr, cTab, dSl]
  refine call_some (w_laws_toRelation a.rel ha.2 (by have := hwt; omega)) rfl (by simp) fun n0 hs0 r0 hn0 hm0 hp0 hr0 => ?_
  obtain ⟨y0, rfl, hy0, hk0, hg0⟩ := hp0
  have hl0 : ∀ g ∈ idsL (cReln y0), g < hs0 := fun g hg => hr0 g (by first | (simp [cI, cReln, cS, V.ids, idsVL, idsL] at hg; done) | simpa [cI, cReln, cS, V.ids, idsVL, idsL] using hg)
  simp at hn0
  simp [cI, cReln, cS, dSl]
  refine ⟨⟨a.name, y0⟩, ?_⟩
  refine ⟨by simp [cI, cReln, cS, cStr, cTab, dSl], by simp only [plTab, hy0], ⟨ha.1, hk0⟩, ?_⟩
  have G0 : Good (cStr a.name) (whStr a.name) B := good_Str B a.name
  have G1 : Good (cReln y0) (whReln y0) B := hg0.le (by omega)
  have U0 : ∀ g ∈ idsL (cStr a.name), g < B := by simp [cStr, idsL, D.ids]
  have K1 : Good (cStr a.name ++ cReln y0) ((whStr a.name) ∧ whReln y0) B := Good.app G0 G1 (fun g h h' => by have h1 := U0 g h; have h2 := hg0.lo g h'; omega)
  have U1 : ∀ g ∈ idsL (cStr a.name ++ cReln y0), g < hs0 := fun g h => by rw [idsL_app] at h; rcases List.mem_append.1 h with h | h; (have h1 := U0 g h; omega); exact hl0 g h
  exact ⟨K1.nd, K1.lo, by have h := K1.wh; exact ⟨h.1, h.2⟩⟩
theorem w_laws_toTableS (a : Sl (Tab)) (ha : okS okTab a) (hb : swS swTab a ≤ 1048576) :
   VC Try.prog 145 [.d (dSl cTab a)] (fun n r => ∃ y : Sl (Tab), r = .d (dSl cTab y) ∧ plS plTab y = plS plTab a ∧ okS okTab y ∧ Good (cS cTab y) (whS whTab y) n) := by
  refine VC.of E s145 (by kernel_rfl) Try.func145 (by rfl) (by kernel_rfl) (by simp [Try.f145]) (by simp [Try.f145]) s145_ok fun B => ?_
  have hwt : swS swTab a = a.xs.length + sumW swTab a.xs := rfl
  simp [Try.f145, dSl]
  refine ⟨⟨by omega, by simp only [maxLen]; omega⟩, ?_⟩
  refine loop_rule2 (X := Nat × List (Tab)) (fun p h => p.1 ≤ a.xs.length ∧ p.2.length = p.1 ∧ p.2.map plTab = (a.xs.map plTab).take p.1 ∧ (∀ y ∈ p.2, okTab y) ∧ GoodL cTab whTab B h p.2) (fun p => [(0, .d (.sl a.id a.T (a.xs.map cTab))), (3, .own 7 0 a.xs.length), (4, .d (.int .i64 p.1))]) (fun p => [(7, some (.row 148 3 (p.2.map cTab ++ List.replicate (a.xs.length - p.1) [.str [], .int .i64 0, .sl none none []])))]) (fun p => a.xs.length - p.1) (0, []) ⟨by simp, rfl, by simp, by simp, GoodL.nil⟩ (by simp) (by simp) ?_
  rintro ⟨i, ys⟩ hs t m ⟨hi, hyl, hpl, hok, hgd⟩ hh
  simp only at hi hyl hpl hok hgd
  by_cases hlt : i < a.xs.length
  · have hwi := wr1 (i := i) (by omega)
    have hmem : a.xs[i] ∈ a.xs := List.getElem_mem _
    have hsw := sumW_mem swTab hmem
    simp [cI, cReln, cS, cStr, cTab, hlt]
    refine call_some (w_laws_toTable a.xs[i] (ha.2 _ hmem) (by omega)) rfl (by simp) fun n hs' r hn hn' hp hr => ?_
    obtain ⟨y, rfl, hy1, hy2, hy3⟩ := hp
    simp at hn
    have hr' : ∀ g ∈ idsL (cTab y), g < hs' := fun g hg => hr g (by first | (simp [cI, cReln, cS, cStr, cTab, V.ids, idsVL, idsL] at hg; done) | simpa [cI, cReln, cS, cStr, cTab, V.ids, idsVL, idsL] using hg)
    have hyi : ys.length = i := hyl
    simp [cI, cReln, cS, cStr, cTab, hlt, hwi, hyi, show i + (a.xs.length - i) = a.xs.length by omega, dSl]
    refine back2 (i + 1, ys ++ [y]) ⟨by omega, by simp [hyi], ?_, ?_, ?_⟩ (by simp <;> omega) rfl (by simp <;> omega) (by simp) ?_
    · simp only [List.map_append, hpl, List.map_cons, List.map_nil, hy1]
      rw [List.take_succ_eq_append_getElem (by simpa using hlt)]; simp
    · intro y' hy'
      rcases List.mem_append.1 hy' with h | h
      · exact hok y' h
      · rw [List.mem_singleton.1 h]; exact hy2
    · exact GoodL.snoc hgd (by omega) hn' hy3 hr'
    · simp [rep_set0 hlt, cI, cReln, cS, cStr, cTab, dSl]
  · have hn : i = a.xs.length := by omega
    subst hn
    simp
    intro γ hs' h1 hg
    obtain ⟨q1, q2⟩ := gam_at hg (k := 7) (T := 148) (sz := 3) (es := ys.map cTab) (by simp [upd])
    have q3 := gam_row hg (k := 7) (T := 148) (sz := 3) (es := ys.map cTab) (by simp [upd])
    clear hg
    refine ⟨_, ⟨by omega, rfl⟩, ⟨γ 7, some (148, 3), ys⟩, ?_, by rw [List.take_of_length_le (by simp)] at hpl; exact hpl, ⟨by simp only [maxLen]; show ys.length ≤ _; omega, hok⟩, good_row (fun g hg => (q1 g hg).1) (by simpa using q2) q3 ⟨hgd.nd, hgd.lo⟩ hgd.wh⟩
    rw [if_pos hyl.symm, List.take_of_length_le (by simp [hyl])]
theorem w_laws_toDatabase (a : Db) (ha : okDb a) (hb : swDb a ≤ 1048576) :
   VC Try.prog 132 [.agg ((cDb a).map V.d)] (fun n r => ∃ y : Db, r = .agg ((cDb y).map V.d) ∧ plDb y = plDb a ∧ okDb y ∧ Good (cDb y) (whDb y) n) := by
  refine VC.of E s132 (by kernel_rfl) Try.func132 (by rfl) (by kernel_rfl) (by simp [Try.f132]) (by simp [Try.f132]) s132_ok fun B => ?_
  have hwt : swDb a = swS swTab a.tabs := rfl
  simp [Try.f132, cDb, cS, dSl]
  refine call_some (w_laws_toTableS a.tabs ha (by have := hwt; omega)) rfl (by simp) fun n0 hs0 r0 hn0 hm0 hp0 hr0 => ?_
  obtain ⟨y0, rfl, hy0, hk0, hg0⟩ := hp0
  have hl0 : ∀ g ∈ idsL (cS cTab y0), g < hs0 := fun g hg => hr0 g (by first | (simp [cS, V.ids, idsVL, idsL] at hg; done) | simpa [cS, V.ids, idsVL, idsL] using hg)
  simp at hn0
  simp [cS, dSl]
  refine ⟨⟨y0⟩, ?_⟩
  refine ⟨by simp [cDb, cS, dSl], by simp only [plDb, hy0], hk0, ?_⟩
  have G0 : Good (cS cTab y0) (whS whTab y0) B := hg0.le (by omega)
  have U0 : ∀ g ∈ idsL (cS cTab y0), g < hs0 := hl0
  exact G0
theorem w_laws_toAtom (a : Atom) (ha : okAtom a) (hb : swAtom a ≤ 1048576) :
   VC Try.prog 120 [.agg ((cAtom a).map V.d)] (fun n r => ∃ y : Atom, r = .agg ((cAtom y).map V.d) ∧ plAtom y = plAtom a ∧ okAtom y ∧ Good (cAtom y) (whAtom y) n) := by
  refine VC.of E s120 (by kernel_rfl) Try.func120 (by rfl) (by kernel_rfl) (by simp [Try.f120]) (by simp [Try.f120]) s120_ok fun B => ?_
  have hwt : swAtom a = swStr a.rel + swS swI a.vars := rfl
  simp [Try.f120, cAtom, cS, cStr, dSl]
  refine call_some (w_laws_toIntS a.vars ha.2 (by have := hwt; simp only [swS] at this; omega)) rfl (by simp) fun n0 hs0 r0 hn0 hm0 hp0 hr0 => ?_
  obtain ⟨y0, rfl, hy0, hk0, hg0⟩ := hp0
  have hl0 : ∀ g ∈ idsL (cS cI y0), g < hs0 := fun g hg => hr0 g (by first | (simp [cS, V.ids, idsVL, idsL] at hg; done) | simpa [cS, V.ids, idsVL, idsL] using hg)
  simp at hn0
  simp [cS, dSl]
  refine ⟨⟨a.rel, y0⟩, ?_⟩
  refine ⟨by simp [cAtom, cS, cStr, dSl], by simp only [plAtom, hy0], ⟨ha.1, hk0⟩, ?_⟩
  have G0 : Good (cStr a.rel) (whStr a.rel) B := good_Str B a.rel
  have G1 : Good (cS cI y0) (whS whI y0) B := hg0.le (by omega)
  have U0 : ∀ g ∈ idsL (cStr a.rel), g < B := by simp [cStr, idsL, D.ids]
  have K1 : Good (cStr a.rel ++ cS cI y0) ((whStr a.rel) ∧ whS whI y0) B := Good.app G0 G1 (fun g h h' => by have h1 := U0 g h; have h2 := hg0.lo g h'; omega)
  have U1 : ∀ g ∈ idsL (cStr a.rel ++ cS cI y0), g < hs0 := fun g h => by rw [idsL_app] at h; rcases List.mem_append.1 h with h | h; (have h1 := U0 g h; omega); exact hl0 g h
  exact ⟨K1.nd, K1.lo, by have h := K1.wh; exact ⟨h.1, h.2⟩⟩
theorem w_laws_toAtomS (a : Sl (Atom)) (ha : okS okAtom a) (hb : swS swAtom a ≤ 1048576) :
   VC Try.prog 63 [.d (dSl cAtom a)] (fun n r => ∃ y : Sl (Atom), r = .d (dSl cAtom y) ∧ plS plAtom y = plS plAtom a ∧ okS okAtom y ∧ Good (cS cAtom y) (whS whAtom y) n) := by
  refine VC.of E s63 (by kernel_rfl) Try.func63 (by rfl) (by kernel_rfl) (by simp [Try.f63]) (by simp [Try.f63]) s63_ok fun B => ?_
  have hwt : swS swAtom a = a.xs.length + sumW swAtom a.xs := rfl
  simp [Try.f63, dSl]
  refine ⟨⟨by omega, by simp only [maxLen]; omega⟩, ?_⟩
  refine loop_rule2 (X := Nat × List (Atom)) (fun p h => p.1 ≤ a.xs.length ∧ p.2.length = p.1 ∧ p.2.map plAtom = (a.xs.map plAtom).take p.1 ∧ (∀ y ∈ p.2, okAtom y) ∧ GoodL cAtom whAtom B h p.2) (fun p => [(0, .d (.sl a.id a.T (a.xs.map cAtom))), (3, .own 7 0 a.xs.length), (4, .d (.int .i64 p.1))]) (fun p => [(7, some (.row 103 2 (p.2.map cAtom ++ List.replicate (a.xs.length - p.1) [.str [], .sl none none []])))]) (fun p => a.xs.length - p.1) (0, []) ⟨by simp, rfl, by simp, by simp, GoodL.nil⟩ (by simp) (by simp) ?_
  rintro ⟨i, ys⟩ hs t m ⟨hi, hyl, hpl, hok, hgd⟩ hh
  simp only at hi hyl hpl hok hgd
  by_cases hlt : i < a.xs.length
  · have hwi := wr1 (i := i) (by omega)
    have hmem : a.xs[i] ∈ a.xs := List.getElem_mem _
    have hsw := sumW_mem swAtom hmem
    simp [cAtom, cS, cStr, hlt]
    refine call_some (w_laws_toAtom a.xs[i] (ha.2 _ hmem) (by omega)) rfl (by simp) fun n hs' r hn hn' hp hr => ?_
    obtain ⟨y, rfl, hy1, hy2, hy3⟩ := hp
    simp at hn
    have hr' : ∀ g ∈ idsL (cAtom y), g < hs' := fun g hg => hr g (by first | (simp [cAtom, cS, cStr, V.ids, idsVL, idsL] at hg; done) | simpa [cAtom, cS, cStr, V.ids, idsVL, idsL] using hg)
    have hyi : ys.length = i := hyl
    simp [cAtom, cS, cStr, hlt, hwi, hyi, show i + (a.xs.length - i) = a.xs.length by omega, dSl]
    refine back2 (i + 1, ys ++ [y]) ⟨by omega, by simp [hyi], ?_, ?_, ?_⟩ (by simp <;> omega) rfl (by simp <;> omega) (by simp) ?_
    · simp only [List.map_append, hpl, List.map_cons, List.map_nil, hy1]
      rw [List.take_succ_eq_append_getElem (by simpa using hlt)]; simp
    · intro y' hy'
      rcases List.mem_append.1 hy' with h | h
      · exact hok y' h
      · rw [List.mem_singleton.1 h]; exact hy2
    · exact GoodL.snoc hgd (by omega) hn' hy3 hr'
    · simp [rep_set0 hlt, cAtom, cS, cStr, dSl]
  · have hn : i = a.xs.length := by omega
    subst hn
    simp
    intro γ hs' h1 hg
    obtain ⟨q1, q2⟩ := gam_at hg (k := 7) (T := 103) (sz := 2) (es := ys.map cAtom) (by simp [upd])
    have q3 := gam_row hg (k := 7) (T := 103) (sz := 2) (es := ys.map cAtom) (by simp [upd])
    clear hg
    refine ⟨_, ⟨by omega, rfl⟩, ⟨γ 7, some (103, 2), ys⟩, ?_, by rw [List.take_of_length_le (by simp)] at hpl; exact hpl, ⟨by simp only [maxLen]; show ys.length ≤ _; omega, hok⟩, good_row (fun g hg => (q1 g hg).1) (by simpa using q2) q3 ⟨hgd.nd, hgd.lo⟩ hgd.wh⟩
    rw [if_pos hyl.symm, List.take_of_length_le (by simp [hyl])]
theorem w_laws_toQuery (a : Query) (ha : okQuery a) (hb : swQuery a ≤ 1048576) :
   VC Try.prog 17 [.agg ((cQuery a).map V.d)] (fun n r => ∃ y : Query, r = .agg ((cQuery y).map V.d) ∧ plQuery y = plQuery a ∧ okQuery y ∧ Good (cQuery y) (whQuery y) n) := by
  refine VC.of E s17 (by kernel_rfl) Try.func17 (by rfl) (by kernel_rfl) (by simp [Try.f17]) (by simp [Try.f17]) s17_ok fun B => ?_
  have hwt : swQuery a = swS swAtom a.atoms + swS swI a.out := rfl
  simp [Try.f17, cI, cQuery, cS, dSl]
  refine call_some (w_laws_toAtomS a.atoms ha.2.1 (by have := hwt; omega)) rfl (by simp) fun n0 hs0 r0 hn0 hm0 hp0 hr0 => ?_
  obtain ⟨y0, rfl, hy0, hk0, hg0⟩ := hp0
  have hl0 : ∀ g ∈ idsL (cS cAtom y0), g < hs0 := fun g hg => hr0 g (by first | (simp [cS, V.ids, idsVL, idsL] at hg; done) | simpa [cS, V.ids, idsVL, idsL] using hg)
  simp at hn0
  simp [cS, dSl]
  refine call_some (w_laws_toIntS a.out ha.2.2 (by have := hwt; simp only [swS] at this; omega)) rfl (by simp) fun n1 hs1 r1 hn1 hm1 hp1 hr1 => ?_
  obtain ⟨y1, rfl, hy1, hk1, hg1⟩ := hp1
  have hl1 : ∀ g ∈ idsL (cS cI y1), g < hs1 := fun g hg => hr1 g (by first | (simp [cS, V.ids, idsVL, idsL] at hg; done) | simpa [cS, V.ids, idsVL, idsL] using hg)
  simp at hn1
  simp [cS, dSl]
  refine ⟨⟨a.n, y0, y1⟩, ?_⟩
  refine ⟨by simp [cI, cQuery, cS, dSl], by simp only [plQuery, hy0, hy1], ⟨ha.1, hk0, hk1⟩, ?_⟩
  have G0 : Good (cI a.n) (whI a.n) B := good_I B a.n
  have G1 : Good (cS cAtom y0) (whS whAtom y0) B := hg0.le (by omega)
  have G2 : Good (cS cI y1) (whS whI y1) B := hg1.le (by omega)
  have U0 : ∀ g ∈ idsL (cI a.n), g < B := by simp [cI, idsL, D.ids]
  have K1 : Good (cI a.n ++ cS cAtom y0) ((whI a.n) ∧ whS whAtom y0) B := Good.app G0 G1 (fun g h h' => by have h1 := U0 g h; have h2 := hg0.lo g h'; omega)
  have U1 : ∀ g ∈ idsL (cI a.n ++ cS cAtom y0), g < hs0 := fun g h => by rw [idsL_app] at h; rcases List.mem_append.1 h with h | h; (have h1 := U0 g h; omega); exact hl0 g h
  have K2 : Good (cI a.n ++ cS cAtom y0 ++ cS cI y1) (((whI a.n) ∧ whS whAtom y0) ∧ whS whI y1) B := Good.app K1 G2 (fun g h h' => by have h1 := U1 g h; have h2 := hg1.lo g h'; omega)
  have U2 : ∀ g ∈ idsL (cI a.n ++ cS cAtom y0 ++ cS cI y1), g < hs1 := fun g h => by rw [idsL_app] at h; rcases List.mem_append.1 h with h | h; (have h1 := U1 g h; omega); exact hl1 g h
  exact ⟨K2.nd, K2.lo, by have h := K2.wh; exact ⟨h.1.1, h.1.2, h.2⟩⟩
theorem w_laws_toDecomposition (a : Dec) (ha : okDec a) (hb : swDec a ≤ 1048576) :
   VC Try.prog 12 [.agg ((cDec a).map V.d)] (fun n r => ∃ y : Dec, r = .agg ((cDec y).map V.d) ∧ plDec y = plDec a ∧ okDec y ∧ Good (cDec y) (whDec y) n) := by
  refine VC.of E s12 (by kernel_rfl) Try.func12 (by rfl) (by kernel_rfl) (by simp [Try.f12]) (by simp [Try.f12]) s12_ok fun B => ?_
  have hwt : swDec a = swS (swS swI) a.bags + swS swI a.par := rfl
  simp [Try.f12, cDec, cS, dSl]
  refine call_some (w_laws_toIntSS a.bags ha.1 (by have := hwt; omega)) rfl (by simp) fun n0 hs0 r0 hn0 hm0 hp0 hr0 => ?_
  obtain ⟨y0, rfl, hy0, hk0, hg0⟩ := hp0
  have hl0 : ∀ g ∈ idsL (cS (cS cI) y0), g < hs0 := fun g hg => hr0 g (by first | (simp [cS, V.ids, idsVL, idsL] at hg; done) | simpa [cS, V.ids, idsVL, idsL] using hg)
  simp at hn0
  simp [cS, dSl]
  refine call_some (w_laws_toIntS a.par ha.2 (by have := hwt; simp only [swS] at this; omega)) rfl (by simp) fun n1 hs1 r1 hn1 hm1 hp1 hr1 => ?_
  obtain ⟨y1, rfl, hy1, hk1, hg1⟩ := hp1
  have hl1 : ∀ g ∈ idsL (cS cI y1), g < hs1 := fun g hg => hr1 g (by first | (simp [cS, V.ids, idsVL, idsL] at hg; done) | simpa [cS, V.ids, idsVL, idsL] using hg)
  simp at hn1
  simp [cS, dSl]
  refine ⟨⟨y0, y1⟩, ?_⟩
  refine ⟨by simp [cDec, cS, dSl], by simp only [plDec, hy0, hy1], ⟨hk0, hk1⟩, ?_⟩
  have G0 : Good (cS (cS cI) y0) (whS (whS whI) y0) B := hg0.le (by omega)
  have G1 : Good (cS cI y1) (whS whI y1) B := hg1.le (by omega)
  have U0 : ∀ g ∈ idsL (cS (cS cI) y0), g < hs0 := hl0
  have K1 : Good (cS (cS cI) y0 ++ cS cI y1) ((whS (whS whI) y0) ∧ whS whI y1) B := Good.app G0 G1 (fun g h h' => by have h1 := U0 g h; have h2 := hg1.lo g h'; omega)
  have U1 : ∀ g ∈ idsL (cS (cS cI) y0 ++ cS cI y1), g < hs1 := fun g h => by rw [idsL_app] at h; rcases List.mem_append.1 h with h | h; (have h1 := U0 g h; omega); exact hl1 g h
  exact ⟨K1.nd, K1.lo, by have h := K1.wh; exact ⟨h.1, h.2⟩⟩
theorem w_laws_heldDecomposition (a : Dec) (k : Int) (h0 : 1 ≤ k) (h1 : k + wtTDec a ≤ 4611686018427387904) (ha : okDec a) :
   VC Try.prog 22 [.agg ((cDec a).map V.d), .d (.int .i64 k)] (fun _ r => r = .d (.int .i64 (hv (hlTDec a k) k (wtTDec a)))) := by
  refine VC.of E s22 (by kernel_rfl) Try.func22 (by rfl) (by kernel_rfl) (by simp [Try.f22]) (by simp [Try.f22]) s22_ok fun B => ?_
  have hwt : wtTDec a = wtS (wtS wtI) a.bags + wtS wtI a.par := rfl
  have hex : hlTDec a k = (hlS (hlS (hlI) (wtI)) (wtS wtI) a.bags (k) && hlS (hlI) (wtI) a.par (k + wtS (wtS wtI) a.bags)) := rfl
  simp [Try.f22, cDec, cS, dSl]
  refine call_pure (w_laws_heldIntSS a.bags _ (by omega) (by omega) ha.1) rfl (by simp) rfl fun hs0 hh0 => ?_
  by_cases c0 : hlS (hlS (hlI) (wtI)) (wtS wtI) a.bags (k) = true
  case neg =>
    have c0' : hlS (hlS (hlI) (wtI)) (wtS wtI) a.bags (k) = false := by simpa using c0
    simp [c0', hex]
  have hn0 : ¬ k + (wtS (wtS wtI) a.bags : Int) < 0 := by omega
  simp [c0, hn0]
  refine call_pure (w_laws_heldIntS a.par _ (by omega) (by omega) ha.2) rfl (by simp) rfl fun hs1 hh1 => ?_
  by_cases c1 : hlS (hlI) (wtI) a.par (k + wtS (wtS wtI) a.bags) = true
  case neg =>
    have c1' : hlS (hlI) (wtI) a.par (k + wtS (wtS wtI) a.bags) = false := by simpa using c1
    simp [c1', hex]
  have hn1 : ¬ k + wtS (wtS wtI) a.bags + (wtS wtI a.par : Int) < 0 := by omega
  simp [c1, hn1]
  simp [hex, c0, c1, hwt]
  try omega
theorem w_laws_toDatabaseS (a : Sl (Db)) (ha : okS okDb a) (hb : swS swDb a ≤ 1048576) :
   VC Try.prog 90 [.d (dSl cDb a)] (fun n r => ∃ y : Sl (Db), r = .d (dSl cDb y) ∧ plS plDb y = plS plDb a ∧ okS okDb y ∧ Good (cS cDb y) (whS whDb y) n) := by
  refine VC.of E s90 (by kernel_rfl) Try.func90 (by rfl) (by kernel_rfl) (by simp [Try.f90]) (by simp [Try.f90]) s90_ok fun B => ?_
  have hwt : swS swDb a = a.xs.length + sumW swDb a.xs := rfl
  simp [Try.f90, dSl]
  refine ⟨⟨by omega, by simp only [maxLen]; omega⟩, ?_⟩
  refine loop_rule2 (X := Nat × List (Db)) (fun p h => p.1 ≤ a.xs.length ∧ p.2.length = p.1 ∧ p.2.map plDb = (a.xs.map plDb).take p.1 ∧ (∀ y ∈ p.2, okDb y) ∧ GoodL cDb whDb B h p.2) (fun p => [(0, .d (.sl a.id a.T (a.xs.map cDb))), (3, .own 7 0 a.xs.length), (4, .d (.int .i64 p.1))]) (fun p => [(7, some (.row 117 1 (p.2.map cDb ++ List.replicate (a.xs.length - p.1) [.sl none none []])))]) (fun p => a.xs.length - p.1) (0, []) ⟨by simp, rfl, by simp, by simp, GoodL.nil⟩ (by simp) (by simp) ?_
  rintro ⟨i, ys⟩ hs t m ⟨hi, hyl, hpl, hok, hgd⟩ hh
  simp only at hi hyl hpl hok hgd
  by_cases hlt : i < a.xs.length
  · have hwi := wr1 (i := i) (by omega)
    have hmem : a.xs[i] ∈ a.xs := List.getElem_mem _
    have hsw := sumW_mem swDb hmem
    simp [cDb, cS, hlt]
    refine call_some (w_laws_toDatabase a.xs[i] (ha.2 _ hmem) (by omega)) rfl (by simp) fun n hs' r hn hn' hp hr => ?_
    obtain ⟨y, rfl, hy1, hy2, hy3⟩ := hp
    simp at hn
    have hr' : ∀ g ∈ idsL (cDb y), g < hs' := fun g hg => hr g (by first | (simp [cDb, cS, V.ids, idsVL, idsL] at hg; done) | simpa [cDb, cS, V.ids, idsVL, idsL] using hg)
    have hyi : ys.length = i := hyl
    simp [cDb, cS, hlt, hwi, hyi, show i + (a.xs.length - i) = a.xs.length by omega, dSl]
    refine back2 (i + 1, ys ++ [y]) ⟨by omega, by simp [hyi], ?_, ?_, ?_⟩ (by simp <;> omega) rfl (by simp <;> omega) (by simp) ?_
    · simp only [List.map_append, hpl, List.map_cons, List.map_nil, hy1]
      rw [List.take_succ_eq_append_getElem (by simpa using hlt)]; simp
    · intro y' hy'
      rcases List.mem_append.1 hy' with h | h
      · exact hok y' h
      · rw [List.mem_singleton.1 h]; exact hy2
    · exact GoodL.snoc hgd (by omega) hn' hy3 hr'
    · simp [rep_set0 hlt, cDb, cS, dSl]
  · have hn : i = a.xs.length := by omega
    subst hn
    simp
    intro γ hs' h1 hg
    obtain ⟨q1, q2⟩ := gam_at hg (k := 7) (T := 117) (sz := 1) (es := ys.map cDb) (by simp [upd])
    have q3 := gam_row hg (k := 7) (T := 117) (sz := 1) (es := ys.map cDb) (by simp [upd])
    clear hg
    refine ⟨_, ⟨by omega, rfl⟩, ⟨γ 7, some (117, 1), ys⟩, ?_, by rw [List.take_of_length_le (by simp)] at hpl; exact hpl, ⟨by simp only [maxLen]; show ys.length ≤ _; omega, hok⟩, good_row (fun g hg => (q1 g hg).1) (by simpa using q2) q3 ⟨hgd.nd, hgd.lo⟩ hgd.wh⟩
    rw [if_pos hyl.symm, List.take_of_length_le (by simp [hyl])]
theorem w_laws_toHistory (a : Hist) (ha : okHist a) (hb : swHist a ≤ 1048576) :
   VC Try.prog 32 [.agg ((cHist a).map V.d)] (fun n r => ∃ y : Hist, r = .agg ((cHist y).map V.d) ∧ plHist y = plHist a ∧ okHist y ∧ Good (cHist y) (whHist y) n) := by
  refine VC.of E s32 (by kernel_rfl) Try.func32 (by rfl) (by kernel_rfl) (by simp [Try.f32]) (by simp [Try.f32]) s32_ok fun B => ?_
  have hwt : swHist a = swS swDb a.dbs := rfl
  simp [Try.f32, cHist, cI, cS, dSl]
  refine call_some (w_laws_toDatabaseS a.dbs ha.2 (by have := hwt; omega)) rfl (by simp) fun n0 hs0 r0 hn0 hm0 hp0 hr0 => ?_
  obtain ⟨y0, rfl, hy0, hk0, hg0⟩ := hp0
  have hl0 : ∀ g ∈ idsL (cS cDb y0), g < hs0 := fun g hg => hr0 g (by first | (simp [cS, V.ids, idsVL, idsL] at hg; done) | simpa [cS, V.ids, idsVL, idsL] using hg)
  simp at hn0
  simp [cS, dSl]
  refine ⟨⟨a.first, y0⟩, ?_⟩
  refine ⟨by simp [cHist, cI, cS, dSl], by simp only [plHist, hy0], ⟨ha.1, hk0⟩, ?_⟩
  have G0 : Good (cI a.first) (whI a.first) B := good_I B a.first
  have G1 : Good (cS cDb y0) (whS whDb y0) B := hg0.le (by omega)
  have U0 : ∀ g ∈ idsL (cI a.first), g < B := by simp [cI, idsL, D.ids]
  have K1 : Good (cI a.first ++ cS cDb y0) ((whI a.first) ∧ whS whDb y0) B := Good.app G0 G1 (fun g h h' => by have h1 := U0 g h; have h2 := hg0.lo g h'; omega)
  have U1 : ∀ g ∈ idsL (cI a.first ++ cS cDb y0), g < hs0 := fun g h => by rw [idsL_app] at h; rcases List.mem_append.1 h with h | h; (have h1 := U0 g h; omega); exact hl0 g h
  exact ⟨K1.nd, K1.lo, by have h := K1.wh; exact ⟨h.1, h.2⟩⟩

end Go.Proofs.Ytmifoeaifdmgkaa

namespace Go.Proofs.Ytmifoeaifdmgkaa
open Go.Vs Go.Proofs Go
set_option maxRecDepth 100000
set_option maxHeartbeats 1000000

theorem w_laws_markIntS (a : Ints) (k : Int) (h0 : 1 ≤ k) (h1 : k + wtS wtI a ≤ 4611686018427387904) (hw : whS whI a) (hl0 : okS okI a) (hnd : (dInts a).ids.Nodup) :
   VX Try.prog 29 (dInts a).ids [.d (dInts a), .d (.int .i64 k)] none (fun _ r _ ws => r = .d (.int .i64 (k + wtS wtI a)) ∧ ws = [dInts (mkS mkI wtI a k)]) := by
  refine VX.of E s29 (by kernel_rfl) Try.func29 (by rfl) (by kernel_rfl) (by simp [Try.f29]) (by simp [Try.f29]) s29_ok (fun g hg => .inl (by simpa using hg)) (fun cs h => nomatch h) fun B hB => ?_
  have hl := hl0.1
  obtain ⟨id, T, xs⟩ := a
  have hwt : wtS wtI (⟨id, T, xs⟩ : Ints) = xs.length := sumW_one (fun _ => rfl) xs
  rw [hwt] at h1 ⊢
  simp only [maxLen] at hl
  simp [Try.f29]
  refine loop_rule (X := Nat) (fun i => i ≤ xs.length) (fun i => [(0, .d (dInts ⟨id, T, mkAt mkI wtI xs k i⟩)), (1, .d (.int .i64 (k + i))), (5, .d (.int .i64 i))]) (fun _ => []) (fun i => xs.length - i) 0 (by simp) (by simp) (by simp) ?_
  intro i hs t m hi hh
  by_cases hlt : i < xs.length
  · obtain ⟨g, hg, T', hT⟩ := hw.1.id hlt
    simp only at hg hT
    subst hg hT
    have hk := wr1 (i := i) (by omega)
    have hk2 : IntKind.i64.wrap (k + i + 1) = k + i + 1 := wrap64_of (by omega) (by omega)
    simp [dInts, dSl, hlt, hk, hk2, cI]
    refine back (i + 1) (by omega) (by omega) rfl (by simp) ?_ (by simp)
    have e1 : (List.map cI (mkAt mkI wtI xs k i)).set i [D.int IntKind.i64 (k + ↑i)] = List.map cI (mkAt mkI wtI xs k (i + 1)) := by
      rw [mkAt_succ hlt, ← set_map, show sumW wtI (List.take i xs) = _ from sumW_one (fun _ => rfl) _]
      simp [cI, mkI, Nat.min_eq_left hi]
    have e2 := re_oneSet (g := g) (T := T') (es := List.map cI (mkAt mkI wtI xs k i)) (i := i) (e' := [D.int IntKind.i64 (k + ↑i)]) (fun e he => by
      rw [List.getElem?_map] at he
      simp [hlt] at he
      rw [← he]; rfl)
    rw [e1] at e2
    simp [e1, e2]
    omega
  · have hn : i = xs.length := by omega
    subst hn
    simp [dInts, dSl, vendX]
    refine ⟨[0], fun γ hs' h1 h2 => ?_⟩
    simp [mkS, mkAt_all]

theorem w_laws_markIntSS (a : Sl Ints) (k : Int) (h0 : 1 ≤ k) (h1 : k + wtS (wtS wtI) a ≤ 4611686018427387904) (hw : whS (whS whI) a) (hl : okS (okS okI) a) (hnd : (dRows a).ids.Nodup) :
   VX Try.prog 68 (dRows a).ids [.d (dRows a), .d (.int .i64 k)] none (fun _ r _ ws => r = .d (.int .i64 (k + wtS (wtS wtI) a)) ∧ ws = [dRows (mkS (mkS mkI wtI) (wtS wtI) a k)]) := by
  refine VX.of E s68 (by kernel_rfl) Try.func68 (by rfl) (by kernel_rfl) (by simp [Try.f68]) (by simp [Try.f68]) s68_ok (fun g hg => .inl (by simpa using hg)) (fun cs h => nomatch h) fun B hB => ?_
  obtain ⟨id, T, xs⟩ := a
  have hl1 := hl.1
  simp only [maxLen] at hl1
  have hwt : wtS (wtS wtI) (⟨id, T, xs⟩ : Sl Ints) = sumW (wtS wtI) xs := rfl
  rw [hwt] at h1 ⊢
  simp [Try.f68]
  refine loop_rule (X := Nat) (fun i => i ≤ xs.length) (fun i => [(0, .d (dSl (cS cI) ⟨id, T, mkAt (mkS mkI wtI) (wtS wtI) xs k i⟩)), (1, .d (.int .i64 (k + sumW (wtS wtI) (xs.take i)))), (5, .d (.int .i64 i))]) (fun _ => []) (fun i => xs.length - i) 0 (by simp) (by simp) (by simp) ?_
  intro i hs t m hi hh
  by_cases hlt : i < xs.length
  · have hk := wr1 (i := i) (by omega)
    have e1 := sumW_succ (wtS wtI) hlt
    have e2 := sumW_le (wtS wtI) xs (i + 1)
    have hmem : xs[i] ∈ xs := List.getElem_mem _
    simp [dSl, hlt, cS]
    refine call_x (E29) (by simp [dSl]) (by simp) (by simp) (fun g hg => .inr ?_) (w_laws_markIntS xs[i] (k + sumW (wtS wtI) (xs.take i)) (by omega) (by omega) (hw.2 _ hmem) (hl.2 _ hmem) (by have := elem_nd (sl_nd hnd).1 hlt; rwa [idsL_cS] at this)) fun n hs' r cs' ws hn hn' hp hr hws => ?_
    · exact elem_ids (s := ⟨id, T, xs⟩) (c := cS cI) (i := i) hlt (by simpa [cS, idsL] using hg)
    obtain ⟨rfl, rfl⟩ := hp
    simp at hn
    have hnd' : (dSl (cS cI) (⟨id, T, mkAt (mkS mkI wtI) (wtS wtI) xs k i⟩ : Sl Ints)).ids.Nodup := by
      have : (dSl (cS cI) (⟨id, T, mkAt (mkS mkI wtI) (wtS wtI) xs k i⟩ : Sl Ints)).ids = (dRows ⟨id, T, xs⟩).ids := by
        simp only [dSl, D.ids]; rw [ids_mkAt (marksS marksI).ids]
      rw [this]; exact hnd
    have e3 := re_elem (c := cS cI) (s := ⟨id, T, mkAt (mkS mkI wtI) (wtS wtI) xs k i⟩) (i := i) (a' := mkS mkI wtI xs[i] (k + sumW (wtS wtI) (xs.take i))) (W := (dInts xs[i]).ids) (ws := [dInts (mkS mkI wtI xs[i] (k + sumW (wtS wtI) (xs.take i)))]) hnd' (by simpa using hlt)
      (fun g hg => by simpa [cS, idsL] using hg) (by simp only [mkAt_get]; exact reL_one (re_root (by simp [cI]) (hw.2 _ hmem).1 (by simp) (fun g hg => mem_slids hg) []))
    simp [dSl, cS, hk] at e3 ⊢
    refine back (i + 1) (by omega) (by omega) rfl (by simp <;> omega) ?_ (by simp)
    simp [e3, mkAt_succ hlt, e1]
    exact ⟨rfl, by omega⟩
  · have hn : i = xs.length := by omega
    subst hn
    simp [dSl, vendX]
    refine ⟨[0], fun γ hs' h1 h2 => ?_⟩
    simp [mkS, mkAt_all]

end Go.Proofs.Ytmifoeaifdmgkaa

namespace Go.Proofs.Ytmifoeaifdmgkaa
open Go.Vs Go.Proofs Go
set_option maxRecDepth 100000
set_option maxHeartbeats 1000000

theorem w_laws_markAtomS (a : Sl (Atom)) (k : Int) (h0 : 1 ≤ k) (h1 : k + wtS wtAtom a ≤ 4611686018427387904) (hw : whS whAtom a) (hl : okS okAtom a) (hnd : (dSl cAtom a).ids.Nodup) :
   VX Try.prog 67 (dSl cAtom a).ids [.d (dSl cAtom a), .d (.int .i64 k)] none (fun _ r _ ws => r = .d (.int .i64 (k + wtS wtAtom a)) ∧ ws = [dSl cAtom (mkS (mkAtom) (wtAtom) a k)]) := by
  refine VX.of E s67 (by kernel_rfl) Try.func67 (by rfl) (by kernel_rfl) (by simp [Try.f67]) (by simp [Try.f67]) s67_ok ?_ ?_ fun B hB => ?_
  · exact fun g hg => .inl (by simpa using hg)
  · exact fun cs h => nomatch h
  obtain ⟨id, T, xs⟩ := a
  have hl1 := hl.1
  simp only [maxLen] at hl1
  have hwt : wtS wtAtom (⟨id, T, xs⟩ : Sl (Atom)) = sumW wtAtom xs := rfl
  rw [hwt] at h1 ⊢
  simp [Try.f67]
  refine loop_rule (X := Nat) (fun i => i ≤ xs.length) (fun i => [(0, .d (dSl cAtom ⟨id, T, mkAt mkAtom wtAtom xs k i⟩)), (1, .d (.int .i64 (k + sumW wtAtom (xs.take i)))), (5, .d (.int .i64 i))]) (fun _ => []) (fun i => xs.length - i) 0 (by simp) (by simp) (by simp) ?_
  intro i hs t m hi hh
  by_cases hlt : i < xs.length
  · have hwi := wr1 (i := i) (by omega)
    have e1 := sumW_succ wtAtom hlt
    have e2 := sumW_le wtAtom xs (i + 1)
    have hmem : xs[i] ∈ xs := List.getElem_mem _
    have hwx : wtAtom xs[i] = 1 + wtS wtI xs[i].vars := by simp only [wtAtom, wtStr] <;> omega
    obtain ⟨g, hg, T', hT⟩ := hw.1.id hlt
    simp only at hg hT
    subst hg hT
    have hnd2 := sl_nd hnd
    have hnn : g ∉ idsLL ((mkAt mkAtom wtAtom xs k i).map cAtom) := by rw [ids_mkAt marksAtom.ids]; exact hnd2.2 g rfl
    have hni : g ∉ idsL (cAtom xs[i]) := fun hin => hnd2.2 g rfl (idsLL_map_mem.2 ⟨_, hmem, hin⟩)
    have hne := elem_nd hnd2.1 hlt
    have hni0 := hni
    have hne0 := hne
    have hap : ∀ W : List Nat, (∀ q ∈ W, q ∈ idsL (cAtom xs[i])) → ∀ ws (j : Nat) (e : List D), j ≠ i → ((mkAt mkAtom wtAtom xs k i).map cAtom)[j]? = some e → ∀ q ∈ idsL e, phi W ws q = none := by
      intro W hW ws
      exact nd_mapD (by rw [ids_mkAt marksAtom.ids]; exact hnd2.1) (i := i) (by simpa using hlt) (by simpa using hW) ws
    simp only [cAtom, cS, cStr, idsL_app, idsL, D.ids, dSl, List.append_nil, List.nil_append, List.cons_append, List.mem_append, not_or, List.append_assoc] at hni hne
    simp [dSl, hlt]
    have hk0 : IntKind.i64.wrap (k + sumW wtAtom (xs.take i) + 1) = k + sumW wtAtom (xs.take i) + 1 := wrap64_of (by omega) (by omega)
    refine call_pure (w_laws_markText _ (by omega) (by omega)) rfl (by simp) rfl fun hs0 hh0 => ?_
    simp at hh0
    simp [dSl, hlt, cAtom, cS, cStr, hnn, nin_set hnn, idsL, D.ids, hni, hk0, hwi, ids_mk (wt := wtI) marksI.ids]
    have hx1 : dSl cI xs[i].vars ∈ cAtom xs[i] := by simp [cAtom, cS, cStr]
    refine call_x (E29) (by simp [dSl]) (by simp) (by simp) (fun q hq => .inr ?_) (w_laws_markIntS xs[i].vars (k + sumW wtAtom (xs.take i) + 1) (by omega) (by omega) ((hw.2 _ hmem).2) ((hl.2 _ hmem).2) (nd_mem hne0 hx1)) fun n1 hs1 r cs' ws hn1 hm1 hp hr hws => ?_
    · exact elem_ids (s := ⟨some g, some T', xs⟩) (c := cAtom) (i := i) hlt (mem_idsL hx1 hq)
    obtain ⟨rfl, rfl⟩ := hp
    simp at hn1
    have hre1 : reL (phi (dSl cI xs[i].vars).ids [dSl cI (mkS (mkI) (wtI) xs[i].vars (k + sumW wtAtom (xs.take i) + 1))]) [D.str (mtext (k + sumW wtAtom (xs.take i))), dSl cI xs[i].vars] = some [D.str (mtext (k + sumW wtAtom (xs.take i))), dSl cI (mkS (mkI) (wtI) xs[i].vars (k + sumW wtAtom (xs.take i) + 1))] := reL_cons_iff.2 ⟨rfl, reL_cons_iff.2 ⟨re_root marksI.len ((hw.2 _ hmem).2).1 (by simp) (fun g hg => mem_slids hg) [], rfl⟩⟩
    have hse1 := re_elemD (g := g) (T := some T') (es := (mkAt mkAtom wtAtom xs k i).map cAtom) (phi_out (W := (dSl cI xs[i].vars).ids) (ws := [dSl cI (mkS (mkI) (wtI) xs[i].vars (k + sumW wtAtom (xs.take i) + 1))]) (g := g) (fun h => hni0 (mem_idsL hx1 h))) hre1 (hap _ (fun q hq => mem_idsL hx1 hq) _)
    simp [dSl, cAtom, cS, cStr, mkS] at hse1 ⊢
    simp [hse1, hlt, hnn, nin_set hnn, idsL, D.ids, hni, hwi, mkS, ids_mk (wt := wtI) marksI.ids]
    refine back (i + 1) (by omega) (by omega) rfl (by simp <;> omega) ?_ (by simp)
    simp [mkAt_succ hlt, e1, cAtom, cS, cStr, dSl]
    first
    | exact ⟨rfl, by omega⟩
    | (refine ⟨?_, by omega⟩; simp [mkAtom, mkStr, wtAtom, wtStr, mkS, Int.add_assoc, show ∀ x : Int, 1 + (1 + x) = 2 + x from fun x => by omega])
  · have hn : i = xs.length := by omega
    subst hn
    simp [dSl, vendX]
    refine ⟨[0], fun γ hs' h1 h2 => ?_⟩
    simp [mkS, mkAt_all]
theorem simT_Query {a : Query} (hw : whQuery a) (k : Int) : Sim (cQuery a) (cQuery (mkTQuery a k)) := ((Sim.leaf (by simp [D.ids]) Sim.nil).app (sim_mk marksAtom hw.2.1 (k))).app (sim_mk marksI hw.2.2 (k + wtS wtAtom a.atoms))
theorem w_laws_markQuery (a : Query) (k : Int) (h0 : 1 ≤ k) (h1 : k + wtTQuery a ≤ 4611686018427387904) (hw : whQuery a) (hl : okQuery a) (hnd : (idsL (cQuery a)).Nodup) :
   VX Try.prog 20 (idsL (cQuery a)) [.agg ((cQuery a).map V.d), .d (.int .i64 k)] none (fun _ r _ ws => r = .d (.int .i64 (k + wtTQuery a)) ∧ ws = cQuery (mkTQuery a k)) := by
  refine VX.of E s20 (by kernel_rfl) Try.func20 (by rfl) (by kernel_rfl) (by simp [Try.f20]) (by simp [Try.f20]) s20_ok ?_ ?_ fun B hB => ?_
  · exact fun g hg => .inl (by simpa [idsVL, V.ids, idsVL_map_d] using hg)
  · exact fun cs h => nomatch h
  have hwt : wtTQuery a = wtS wtAtom a.atoms + wtS wtI a.out := rfl
  have hnd0 := hnd
  simp only [cQuery, idsL_app] at hnd0
  have nd0 : (idsL (cI a.n)).Nodup := nd_left (nd_left (hnd0))
  have nd1 : (idsL (cS cAtom a.atoms)).Nodup := nd_right (nd_left (hnd0))
  have nd2 : (idsL (cS cI a.out)).Nodup := nd_right (hnd0)
  have dj0_1 : ∀ g ∈ idsL (cI a.n), g ∉ idsL (cS cAtom a.atoms) := fun g hg => nd_disj (nd_left (hnd0)) g (hg)
  have dj0_2 : ∀ g ∈ idsL (cI a.n), g ∉ idsL (cS cI a.out) := fun g hg => nd_disj (hnd0) g (List.mem_append_left _ (hg))
  have dj1_2 : ∀ g ∈ idsL (cS cAtom a.atoms), g ∉ idsL (cS cI a.out) := fun g hg => nd_disj (hnd0) g (List.mem_append_right _ hg)
  simp [Try.f20, cI, cQuery, cS]
  refine call_x (E67) (by simp) (by simp) (by simp) (fun q hq => .inr ?_) (w_laws_markAtomS a.atoms (k) (by omega) (by omega) (hw.2.1) (hl.2.1) (by rw [← idsL_cS]; exact nd1)) fun n0 hs0 r cs' ws hn0 hm0 hp hr hws => ?_
  · simp only [idsL_app, idsL, List.append_nil, List.nil_append, List.append_assoc, List.mem_append, cI, cQuery, cS] at hq ⊢
    first | (simp [hq]; done) | (simp [D.ids] at hq ⊢; grind)
  obtain ⟨rfl, rfl⟩ := hp
  simp at hn0
  have hre0 : reL (phi ((dSl cAtom a.atoms).ids) [dSl cAtom (mkS (mkAtom) (wtAtom) a.atoms (k))]) (cS cAtom a.atoms) = some (cS cAtom (mkS (mkAtom) (wtAtom) a.atoms (k))) := by
    have := re_sim (sim_mk marksAtom hw.2.1 (k)) ((marksS marksAtom).ids _ _) nd1
    rw [idsL_cS] at this
    exact this
  have ho0_2 : reL (phi ((dSl cAtom a.atoms).ids) [dSl cAtom (mkS (mkAtom) (wtAtom) a.atoms (k))]) (cS cI a.out) = some (cS cI a.out) := re_same fun g hg => by
    rw [← idsL_cS] at hg
    skip
    exact dj1_2 g hg
  replace hre0 := reVL_map hre0
  replace ho0_2 := reVL_map ho0_2
  simp only [cI, cQuery, cS, List.cons_append, List.nil_append, List.map_cons, List.map_nil, reVL_cons, reVL_nil, List.cons.injEq, and_true, reV_int, reV_str, true_and] at hre0 ho0_2
  simp [hre0, ho0_2, cI, cQuery, cS]
  refine call_x (E29) (by simp) (by simp) (by simp) (fun q hq => .inr ?_) (w_laws_markIntS a.out (k + wtS wtAtom a.atoms) (by omega) (by omega) (hw.2.2) (hl.2.2) (by rw [← idsL_cS]; exact nd2)) fun n1 hs1 r cs' ws hn1 hm1 hp hr hws => ?_
  · simp only [idsL_app, idsL, List.append_nil, List.nil_append, List.append_assoc, List.mem_append, cI, cQuery, cS] at hq ⊢
    first | (simp [hq]; done) | (simp [D.ids] at hq ⊢; grind)
  obtain ⟨rfl, rfl⟩ := hp
  simp at hn1
  have hre1 : reL (phi ((dSl cI a.out).ids) [dSl cI (mkS (mkI) (wtI) a.out (k + wtS wtAtom a.atoms))]) (cS cI a.out) = some (cS cI (mkS (mkI) (wtI) a.out (k + wtS wtAtom a.atoms))) := by
    have := re_sim (sim_mk marksI hw.2.2 (k + wtS wtAtom a.atoms)) ((marksS marksI).ids _ _) nd2
    rw [idsL_cS] at this
    exact this
  have ho1_1 : reL (phi ((dSl cI a.out).ids) [dSl cI (mkS (mkI) (wtI) a.out (k + wtS wtAtom a.atoms))]) (cS cAtom (mkS (mkAtom) (wtAtom) a.atoms (k))) = some (cS cAtom (mkS (mkAtom) (wtAtom) a.atoms (k))) := re_same fun g hg => by
    rw [← idsL_cS] at hg
    rw [(marksS marksAtom).ids]
    exact (fun h => dj1_2 g h hg)
  replace hre1 := reVL_map hre1
  replace ho1_1 := reVL_map ho1_1
  simp only [cI, cQuery, cS, List.cons_append, List.nil_append, List.map_cons, List.map_nil, reVL_cons, reVL_nil, List.cons.injEq, and_true, reV_int, reV_str, true_and] at hre1 ho1_1
  simp [hre1, ho1_1, cI, cQuery, cS]
  simp [vendX]
  refine ⟨[0], fun γ hs' h1 h2 => ?_⟩
  simp [isD, dD, hwt, mkTQuery, cI, cQuery, cS, reD]
  try omega
theorem simT_Dec {a : Dec} (hw : whDec a) (k : Int) : Sim (cDec a) (cDec (mkTDec a k)) := (sim_mk (marksS marksI) hw.1 (k)).app (sim_mk marksI hw.2 (k + wtS (wtS wtI) a.bags))
theorem w_laws_markDecomposition (a : Dec) (k : Int) (h0 : 1 ≤ k) (h1 : k + wtTDec a ≤ 4611686018427387904) (hw : whDec a) (hl : okDec a) (hnd : (idsL (cDec a)).Nodup) :
   VX Try.prog 21 (idsL (cDec a)) [.agg ((cDec a).map V.d), .d (.int .i64 k)] none (fun _ r _ ws => r = .d (.int .i64 (k + wtTDec a)) ∧ ws = cDec (mkTDec a k)) := by
  refine VX.of E s21 (by kernel_rfl) Try.func21 (by rfl) (by kernel_rfl) (by simp [Try.f21]) (by simp [Try.f21]) s21_ok ?_ ?_ fun B hB => ?_
  · exact fun g hg => .inl (by simpa [idsVL, V.ids, idsVL_map_d] using hg)
  · exact fun cs h => nomatch h
  have hwt : wtTDec a = wtS (wtS wtI) a.bags + wtS wtI a.par := rfl
  have hnd0 := hnd
  simp only [cDec, idsL_app] at hnd0
  have nd0 : (idsL (cS (cS cI) a.bags)).Nodup := nd_left (hnd0)
  have nd1 : (idsL (cS cI a.par)).Nodup := nd_right (hnd0)
  have dj0_1 : ∀ g ∈ idsL (cS (cS cI) a.bags), g ∉ idsL (cS cI a.par) := fun g hg => nd_disj (hnd0) g (hg)
  simp [Try.f21, cDec, cS]
  refine call_x (E68) (by simp) (by simp) (by simp) (fun q hq => .inr ?_) (w_laws_markIntSS a.bags (k) (by omega) (by omega) (hw.1) (hl.1) (by rw [← idsL_cS]; exact nd0)) fun n0 hs0 r cs' ws hn0 hm0 hp hr hws => ?_
  · simp only [idsL_app, idsL, List.append_nil, List.nil_append, List.append_assoc, List.mem_append, cDec, cS] at hq ⊢
    first | (simp [hq]; done) | (simp [D.ids] at hq ⊢; grind)
  obtain ⟨rfl, rfl⟩ := hp
  simp at hn0
  have hre0 : reL (phi ((dSl (cS cI) a.bags).ids) [dSl (cS cI) (mkS (mkS (mkI) (wtI)) (wtS wtI) a.bags (k))]) (cS (cS cI) a.bags) = some (cS (cS cI) (mkS (mkS (mkI) (wtI)) (wtS wtI) a.bags (k))) := by
    have := re_sim (sim_mk (marksS marksI) hw.1 (k)) ((marksS (marksS marksI)).ids _ _) nd0
    rw [idsL_cS] at this
    exact this
  have ho0_1 : reL (phi ((dSl (cS cI) a.bags).ids) [dSl (cS cI) (mkS (mkS (mkI) (wtI)) (wtS wtI) a.bags (k))]) (cS cI a.par) = some (cS cI a.par) := re_same fun g hg => by
    rw [← idsL_cS] at hg
    skip
    exact dj0_1 g hg
  replace hre0 := reVL_map hre0
  replace ho0_1 := reVL_map ho0_1
  simp only [cDec, cS, List.cons_append, List.nil_append, List.map_cons, List.map_nil, reVL_cons, reVL_nil, List.cons.injEq, and_true, reV_int, reV_str, true_and] at hre0 ho0_1
  simp [hre0, ho0_1, cDec, cS]
  refine call_x (E29) (by simp) (by simp) (by simp) (fun q hq => .inr ?_) (w_laws_markIntS a.par (k + wtS (wtS wtI) a.bags) (by omega) (by omega) (hw.2) (hl.2) (by rw [← idsL_cS]; exact nd1)) fun n1 hs1 r cs' ws hn1 hm1 hp hr hws => ?_
  · simp only [idsL_app, idsL, List.append_nil, List.nil_append, List.append_assoc, List.mem_append, cDec, cS] at hq ⊢
    first | (simp [hq]; done) | (simp [D.ids] at hq ⊢; grind)
  obtain ⟨rfl, rfl⟩ := hp
  simp at hn1
  have hre1 : reL (phi ((dSl cI a.par).ids) [dSl cI (mkS (mkI) (wtI) a.par (k + wtS (wtS wtI) a.bags))]) (cS cI a.par) = some (cS cI (mkS (mkI) (wtI) a.par (k + wtS (wtS wtI) a.bags))) := by
    have := re_sim (sim_mk marksI hw.2 (k + wtS (wtS wtI) a.bags)) ((marksS marksI).ids _ _) nd1
    rw [idsL_cS] at this
    exact this
  have ho1_0 : reL (phi ((dSl cI a.par).ids) [dSl cI (mkS (mkI) (wtI) a.par (k + wtS (wtS wtI) a.bags))]) (cS (cS cI) (mkS (mkS (mkI) (wtI)) (wtS wtI) a.bags (k))) = some (cS (cS cI) (mkS (mkS (mkI) (wtI)) (wtS wtI) a.bags (k))) := re_same fun g hg => by
    rw [← idsL_cS] at hg
    rw [(marksS (marksS marksI)).ids]
    exact (fun h => dj0_1 g h hg)
  replace hre1 := reVL_map hre1
  replace ho1_0 := reVL_map ho1_0
  simp only [cDec, cS, List.cons_append, List.nil_append, List.map_cons, List.map_nil, reVL_cons, reVL_nil, List.cons.injEq, and_true, reV_int, reV_str, true_and] at hre1 ho1_0
  simp [hre1, ho1_0, cDec, cS]
  simp [vendX]
  refine ⟨[0], fun γ hs' h1 h2 => ?_⟩
  simp [isD, dD, hwt, mkTDec, cDec, cS, reD]
  try omega

end Go.Proofs.Ytmifoeaifdmgkaa

namespace Go.Proofs.Ytmifoeaifdmgkaa
open Go.Vs Go.Proofs Go
set_option maxRecDepth 100000
set_option maxHeartbeats 1000000

attribute [simp] plI_id plStr_id map_plI map_plStr pS cP cI cStr cU8 cB
theorem w_impl_within (n lo hi : Int) : VC Try.prog 103 [.d (.int .i64 n), .d (.int .i64 lo), .d (.int .i64 hi)] (fun _ r => r = .d (.bool (inR n lo hi))) := by
  refine VC.ofL EP s103 (by kernel_rfl) Try.func103 (by rfl) (by kernel_rfl) (by simp [Try.f103]) (by simp [Try.f103]) s103_ok fun B hl => ?_
  by_cases h : lo ≤ n
  · simp [Try.f103, inR, h]
  · simp [Try.f103, inR, h]
theorem w_spec_l1In (n lo hi : Int) : VC Try.prog 105 [.d (.int .i64 n), .d (.int .i64 lo), .d (.int .i64 hi)] (fun _ r => r = .d (.bool (inR n lo hi))) := by
  refine VC.ofL EP s105 (by kernel_rfl) Try.func105 (by rfl) (by kernel_rfl) (by simp [Try.f105]) (by simp [Try.f105]) s105_ok fun B hl => ?_
  by_cases h : lo ≤ n
  · simp [Try.f105, inR, h]
  · simp [Try.f105, inR, h]
theorem w_impl_AreValidValues (xs : List Int) : VC Try.prog 139 [.d (pS cI xs)] (fun _ r => r = .d (.bool (valsOk xs))) := by
  refine VC.ofL EP s139 (by kernel_rfl) Try.func139 (by rfl) (by kernel_rfl) (by simp [Try.f139]) (by simp [Try.f139]) s139_ok fun B hl => ?_
  simp [pS, maxLen] at hl
  simp [Try.f139, pS]
  refine loop_rule (X := Nat) (fun i => i ≤ xs.length ∧ (xs.take i).all (fun v => inR v 0 99) = true) (fun i => [(5, .d (.pl (xs.map cI))), (6, .d (.int .i64 xs.length)), (7, .d (.int .i64 i))]) (fun _ => []) (fun i => xs.length - i) 0 (by simp) (by simp) (by simp) ?_
  intro i hs t m hi hh
  by_cases hlt : i < xs.length
  · have hwi := wr1 (i := i) (by omega)
    have hst := all_step (p := fun v => inR v 0 99) hlt
    rw [hi.2, Bool.true_and] at hst
    have hbad : inR xs[i] 0 99 = false → valsOk xs = false := all_bad (p := fun v => inR v 0 99) hlt
    simp [hlt, cI]
    refine call_f (w_impl_within xs[i] 0 99) (by simp) rfl fun hs1 hh1 => ?_
    cases hc : inR xs[i] 0 99
    · simp [hbad hc]
    · simp [hwi]
      simp at hh1
      exact back (i + 1) ⟨by omega, List.all_eq_true.1 (hst.trans hc)⟩ (by omega) rfl (by simp <;> omega) (by simp) (by simp)
  · have hd : valsOk xs = true := all_done (by omega) hi.2
    simp [hlt, hd]

end Go.Proofs.Ytmifoeaifdmgkaa

namespace Go.Proofs.Ytmifoeaifdmgkaa
open Go.Vs Go.Proofs Go
set_option maxRecDepth 100000
set_option maxHeartbeats 1000000

section
attribute [local simp] plI_id plStr_id map_plI map_plStr pS cP cI cStr cU8 cB
theorem w_spec_l7Find (l : List Int) (v : Int) : VC Try.prog 75 [.d (pS cI l), .d (.int .i64 v)] (fun _ r => r = .d (.int .i64 (idxL l v))) := by
  refine VC.ofL EP s75 (by kernel_rfl) Try.func75 (by rfl) (by kernel_rfl) (by simp [Try.f75]) (by simp [Try.f75]) s75_ok fun B hl => ?_
  simp [pS, maxLen] at hl
  simp [Try.f75, ]
  refine loop_rule (X := Nat) (fun i => i ≤ l.length ∧ AllTo (fun x => !(x == v)) l i) (fun i => [(0, .d (.pl (l.map cI))), (1, .d (.int .i64 v)), (5, .d (.int .i64 i))]) (fun _ => []) (fun i => l.length - i) 0 ⟨by simp, allTo_zero⟩ (by simp) (by simp) ?_
  intro i hs t m hi hh
  by_cases hlt : i < l.length
  · have hwi := wr1 (i := i) (by omega)
    by_cases he : l[i] = v
    · have hx := idxL_at hi.2 hlt he
      simp [hlt, he, hx, ]
    · simp [hlt, he, hwi, ]
      exact back (i + 1) ⟨by omega, allTo_step hi.2 hlt (by simp [he])⟩ (by omega) rfl (by simp <;> omega) (by simp) (by simp)
  · have hx := (idxL_no (allTo_done hi.2 (by omega))).2
    simp [hlt, hx]
theorem w_impl_indexOf (l : List Int) (v : Int) : VC Try.prog 130 [.d (pS cI l), .d (.int .i64 v)] (fun _ r => r = .d (.int .i64 (idxL l v))) := by
  refine VC.ofL EP s130 (by kernel_rfl) Try.func130 (by rfl) (by kernel_rfl) (by simp [Try.f130]) (by simp [Try.f130]) s130_ok fun B hl => ?_
  simp [pS, maxLen] at hl
  simp [Try.f130, ]
  refine loop_rule (X := Nat) (fun i => i ≤ l.length ∧ AllTo (fun x => !(x == v)) l i) (fun i => [(1, .d (.int .i64 v)), (7, .d (.pl (l.map cI))), (8, .d (.int .i64 l.length)), (9, .d (.int .i64 i))]) (fun _ => []) (fun i => l.length - i) 0 ⟨by simp, allTo_zero⟩ (by simp) (by simp) ?_
  intro i hs t m hi hh
  by_cases hlt : i < l.length
  · have hwi := wr1 (i := i) (by omega)
    by_cases he : l[i] = v
    · have hx := idxL_at hi.2 hlt he
      simp [hlt, he, hx, ]
    · simp [hlt, he, hwi, ]
      exact back (i + 1) ⟨by omega, allTo_step hi.2 hlt (by simp [he])⟩ (by omega) rfl (by simp <;> omega) (by simp) (by simp)
  · have hx := (idxL_no (allTo_done hi.2 (by omega))).2
    simp [hlt, hx]
theorem w_impl_hasInt (l : List Int) (v : Int) : VC Try.prog 87 [.d (pS cI l), .d (.int .i64 v)] (fun _ r => r = .d (.bool (l.contains v))) := by
  refine VC.ofL EP s87 (by kernel_rfl) Try.func87 (by rfl) (by kernel_rfl) (by simp [Try.f87]) (by simp [Try.f87]) s87_ok fun B hl => ?_
  rw [← idxL_ge]
  simp [Try.f87, ]
  refine call_f (w_impl_indexOf l v) (by simp) rfl fun hs1 hh1 => ?_
  simp
theorem w_spec_ContainsVariable (a : PAtom) (v : Int) : VC Try.prog 119 [.agg ((eAtom a).map V.d), .d (.int .i64 v)] (fun _ r => r = .d (.bool (a.vars.contains v))) := by
  refine VC.ofL EP s119 (by kernel_rfl) Try.func119 (by rfl) (by kernel_rfl) (by simp [Try.f119]) (by simp [Try.f119]) s119_ok fun B hl => ?_
  obtain ⟨nm, l⟩ := a
  simp [pS, maxLen, eAtom] at hl
  simp [Try.f119, eAtom]
  refine loop_rule (X := Nat) (fun i => i ≤ l.length ∧ AllTo (fun x => !(x == v)) l i) (fun i => [(1, .d (.int .i64 v)), (2, .ptr 2 0 0), (5, .d (.int .i64 i))]) (fun _ => [(2, some (.box [.d (.str nm), .d (.pl (l.map cI))]))]) (fun i => l.length - i) 0 ⟨by simp, allTo_zero⟩ (by simp) (by simp) ?_
  intro i hs t m hi hh
  by_cases hlt : i < l.length
  · have hwi := wr1 (i := i) (by omega)
    by_cases he : l[i] = v
    · have hx : v ∈ l := he ▸ List.getElem_mem hlt
      simp [hlt, he, hx, ]
    · simp [hlt, he, hwi, ]
      exact back (i + 1) ⟨by omega, allTo_step hi.2 hlt (by simp [he])⟩ (by omega) rfl (by simp <;> omega) (by simp) (by simp)
  · have hx := (idxL_no (allTo_done hi.2 (by omega))).1
    simp [hlt, hx]
theorem w_impl_ContainsVariable (a : PAtom) (v : Int) : VC Try.prog 126 [.agg ((eAtom a).map V.d), .d (.int .i64 v)] (fun _ r => r = .d (.bool (a.vars.contains v))) := by
  refine VC.ofL EP s126 (by kernel_rfl) Try.func126 (by rfl) (by kernel_rfl) (by simp [Try.f126]) (by simp [Try.f126]) s126_ok fun B hl => ?_
  simp [Try.f126, eAtom]
  refine call_f (w_impl_hasInt a.vars v) (by simp) rfl fun hs1 hh1 => ?_
  simp
theorem w_impl_isLetters (s : List UInt8) : VC Try.prog 143 [.d (.str s), .d (.int .i64 4)] (fun _ r => r = .d (.bool (nameOk s))) := by
  refine VC.ofL EP s143 (by kernel_rfl) Try.func143 (by rfl) (by kernel_rfl) (by simp [Try.f143]) (by simp [Try.f143]) s143_ok fun B hl => ?_
  by_cases h1 : (s.length : Int) < 1
  · have : s = [] := List.length_eq_zero_iff.1 (by omega)
    subst this
    simp [Try.f143, nameOk_len]
  by_cases h4 : (4 : Int) < s.length
  · have : nameOk s = false := nameOk_len (by omega)
    simp [Try.f143, h1, h4, this]
  have hlen : 1 ≤ s.length ∧ s.length ≤ 4 := by omega
  simp [Try.f143, h1, h4]
  refine loop_rule (X := Nat) (fun i => i ≤ s.length ∧ AllTo lowB s i) (fun i => [(0, .d (.str s)), (5, .d (.int .i64 i))]) (fun _ => []) (fun i => s.length - i) 0 ⟨by simp, allTo_zero⟩ (by simp) (by simp) ?_
  intro i hs t m hi hh
  by_cases hlt : i < s.length
  · have hwi := wr1 (i := i) (by omega)
    by_cases ha : ((s[i]).toNat : Int) < 97
    · have hbad := nameOk_bad (all_bad (p := lowB) hlt (lowB_lo ha))
      simp [hlt, ha, hbad, ]
    · by_cases hz : (122 : Int) < ((s[i]).toNat : Int)
      · have hbad := nameOk_bad (all_bad (p := lowB) hlt (lowB_hi hz))
        simp [hlt, ha, hz, hbad, ]
      · simp [hlt, ha, hz, hwi, ]
        exact back (i + 1) ⟨by omega, allTo_step hi.2 hlt (lowB_ok ha hz)⟩ (by omega) rfl (by simp <;> omega) (by simp) (by simp)
  · have hd := allTo_done hi.2 (by omega)
    have hd2 : nameOk s = true := by rw [nameOk_ok hd, decide_eq_true hlen]
    simp [hlt, hd2]
theorem w_impl_IsValidName (s : List UInt8) : VC Try.prog 122 [.d (.str s)] (fun _ r => r = .d (.bool (nameOk s))) := by
  refine VC.ofL EP s122 (by kernel_rfl) Try.func122 (by rfl) (by kernel_rfl) (by simp [Try.f122]) (by simp [Try.f122]) s122_ok fun B hl => ?_
  simp [Try.f122, ]
  refine call_f (w_impl_isLetters s) (by simp) rfl fun hs1 hh1 => ?_
  simp
theorem w_spec_IsValidName (s : List UInt8) (hb : s.length ≤ maxLen) : VC Try.prog 118 [.d (.str s)] (fun _ r => r = .d (.bool (nameOk s))) := by
  refine VC.ofL EP s118 (by kernel_rfl) Try.func118 (by rfl) (by kernel_rfl) (by simp [Try.f118]) (by simp [Try.f118]) s118_ok fun B hl => ?_
  simp only [maxLen] at hb
  simp [Try.f118, ]
  refine loop_rule (X := Nat) (fun i => i ≤ s.length ∧ AllTo lowB s i) (fun i => [(0, .d (.str s)), (3, .d (.int .i64 i))]) (fun _ => []) (fun i => s.length - i) 0 ⟨by simp, allTo_zero⟩ (by simp) (by simp) ?_
  intro i hs t m hi hh
  by_cases hlt : i < s.length
  · have hwi := wr1 (i := i) (by omega)
    by_cases ha : ((s[i]).toNat : Int) < 97
    · have hbad := nameOk_bad (all_bad (p := lowB) hlt (lowB_lo ha))
      simp [hlt, ha, hbad, ]
    · by_cases hz : (122 : Int) < ((s[i]).toNat : Int)
      · have hbad := nameOk_bad (all_bad (p := lowB) hlt (lowB_hi hz))
        simp [hlt, ha, hz, hbad, ]
      · simp [hlt, ha, hz, hwi, ]
        exact back (i + 1) ⟨by omega, allTo_step hi.2 hlt (lowB_ok ha hz)⟩ (by omega) rfl (by simp <;> omega) (by simp) (by simp)
  · have hd := allTo_done hi.2 (by omega)
    simp [hlt, ]
    refine call_f (w_spec_l1In s.length 1 4) (by simp) rfl fun hs1 hh1 => ?_
    have e : inR (s.length : Int) 1 4 = decide (1 ≤ s.length ∧ s.length ≤ 4) := by
      simp only [inR, ← Bool.decide_and]; congr 1; apply propext; omega
    rw [e, nameOk_ok hd]
    simp
theorem w_impl_isSetOf (l : List Int) (n : Int) : VC Try.prog 121 [.d (pS cI l), .d (.int .i64 n)] (fun _ r => r = .d (.bool (setOf l n))) := by
  refine VC.ofL EP s121 (by kernel_rfl) Try.func121 (by rfl) (by kernel_rfl) (by simp [Try.f121]) (by simp [Try.f121]) s121_ok fun B hl => ?_
  simp [pS, maxLen] at hl
  simp [Try.f121, ]
  refine loop_rule (X := Nat) (SetTo l n) (fun i => [(0, .d (.pl (l.map cI))), (1, .d (.int .i64 n)), (7, .d (.pl (l.map cI))), (8, .d (.int .i64 l.length)), (9, .d (.int .i64 i))]) (fun _ => []) (fun i => l.length - i) 0 .zero (by simp) (by simp) ?_
  intro i hs t m hi hh
  have hil := hi.le
  by_cases hlt : i < l.length
  · have hwi := wr1 (i := i) (by omega)
    simp [hlt, ]
    refine call_f (w_impl_within l[i] 0 (IntKind.i64.wrap (n - 1))) (by simp) rfl fun hs1 hh1 => ?_
    simp at hh1
    cases h1 : inR l[i] 0 (IntKind.i64.wrap (n - 1))
    · simp [setOf_bad1 hlt h1]
    simp [hil, ← List.map_take, ]
    refine call_f (w_impl_hasInt (l.take i) l[i]) (by simp) rfl fun hs2 hh2 => ?_
    simp at hh2
    by_cases h2 : l[i] ∈ l.take i
    · simp [h2, setOf_bad2 hlt h2]
    simp [h2, hwi, ]
    exact back (i + 1) (hi.step hlt h1 h2) (by omega) rfl (by simp <;> omega) (by simp) (by simp)
  · have hd := hi.done (by omega)
    simp [hlt, hd]
end

end Go.Proofs.Ytmifoeaifdmgkaa

namespace Go.Proofs.Ytmifoeaifdmgkaa
open Go.Vs Go.Proofs Go
set_option maxRecDepth 100000
set_option maxHeartbeats 1000000

section
attribute [local simp] plI_id plStr_id map_plI map_plStr pS cP cI cStr cU8 cB eAtom
theorem w_spec_IsValidQuery (q : PQuery) (hst : ∀ a ∈ q.atoms, a.rel.length ≤ maxLen) : VC Try.prog 61 [.agg ((eQuery q).map V.d)] (fun _ r => r = .d (.bool (queryOk q))) := by
  refine VC.ofL EP s61 (by kernel_rfl) Try.func61 (by rfl) (by kernel_rfl) (by simp [Try.f61]) (by simp [Try.f61]) s61_ok fun B hl => ?_
  obtain ⟨n, ats, out⟩ := q
  simp only at hst
  simp [pS, maxLen, eQuery] at hl
  simp [Try.f61, s61_11, s61_26, s61_11, s61_26, eQuery]
  refine call_f (w_spec_l1In n 1 5) (by simp) rfl fun hs1 hh1 => ?_
  simp at hh1
  cases h1 : inR n 1 5
  · simp [queryOk_n (q := ⟨n, ats, out⟩) h1]
  have hn : 1 ≤ n ∧ n ≤ 5 := by simpa [inR] using h1
  simp [s61_11, s61_26, eQuery]
  refine call_f (w_spec_l1In ats.length 1 4) (by simp) rfl fun hs2 hh2 => ?_
  simp at hh2
  cases h2 : inR (ats.length : Int) 1 4
  · simp [queryOk_a (q := ⟨n, ats, out⟩) h2]
  have ha4 : ats.length ≤ 4 := by simp [inR] at h2; omega
  by_cases h3 : n < out.length
  · have hso : setOf out n = false := by
      cases hs : setOf out n
      · rfl
      · have := setOf_len hn hs; omega
    simp [h3, queryOk_o (q := ⟨n, ats, out⟩) hso]
  have hrw : ∀ i (h : i < ats.length), ats[i].rel.length ≤ maxLen := fun i h => hst _ (List.getElem_mem h)
  have hvl : ∀ i (h : i < ats.length), ats[i].vars.length ≤ 9223372036854775807 := fun i h => (hl.1.2 _ (List.getElem_mem h))
  simp [h3]
  refine loop_rule (X := Nat) (AtI n ats) (fun i => [(1, .ptr 1 0 0), (3, .d (.int .i64 i))]) (fun _ => [(1, some (.box [.d (.int .i64 n), .d (.pl (ats.map eAtom)), .d (.pl (out.map cI))]))]) (fun i => ats.length - i) 0 .zero (by simp) (by simp) ?_
  intro i hs t m hi hh
  have hil := hi.le
  by_cases hlt : i < ats.length
  · have hwi := wr1 (i := i) (by omega)
    have hbad : atomOk n ats[i] = false → queryOk ⟨n, ats, out⟩ = false := fun h => queryOk_at (q := ⟨n, ats, out⟩) hlt h
    simp [hlt, s61_11, s61_26, ]
    refine call_f (w_spec_IsValidName ats[i].rel (hrw i hlt)) (by simp) rfl fun hs3 hh3 => ?_
    simp at hh3
    cases h4 : nameOk ats[i].rel
    · simp [hbad (by simp only [atomOk, h4, Bool.false_and])]
    simp [hlt, s61_11, s61_26, ]
    refine call_f (w_spec_l1In ats[i].vars.length 1 5) (by simp) rfl fun hs4 hh4 => ?_
    simp at hh4
    cases h5 : inR (ats[i].vars.length : Int) 1 5
    · simp [hbad (by simp only [atomOk, h5, Bool.false_and, Bool.and_false])]
    simp [s61_11, s61_26, ]
    refine loop_rule (X := Nat) (AtK n ats[i].vars) (fun k => [(1, .ptr 1 0 0), (3, .d (.int .i64 i)), (4, .d (.int .i64 k))]) (fun _ => [(1, some (.box [.d (.int .i64 n), .d (.pl (ats.map eAtom)), .d (.pl (out.map cI))]))]) (fun k => ats[i].vars.length - k) 0 .zero (by simp) (by simp) ?_
    intro k hs t m hk hh
    have hkl := hk.le
    have hvi := hvl i hlt
    by_cases hkt : k < ats[i].vars.length
    · have hwk := wr1 (i := k) (by omega)
      cases h6 : inR ats[i].vars[k] 0 (IntKind.i64.wrap (n - 1))
      · have hq := hbad (atomOk_bad hkt h6)
        simp [hlt, hkt, s61_11, s61_26, ]
        refine call_f (VC.to (w_spec_l1In ats[i].vars[k] 0 (IntKind.i64.wrap (n - 1))) (show _ = V.d (.bool false) by rw [h6])) (by simp) rfl fun hs5 hh5 => ?_
        simp [hq]
      · refine anyQ fun Q => ?_
        simp [hlt, hkt, s61_11, s61_26, ]
        refine call_f (VC.to (w_spec_l1In ats[i].vars[k] 0 (IntKind.i64.wrap (n - 1))) (show _ = V.d (.bool true) by rw [h6])) (by simp) rfl fun hs5 hh5 => ?_
        simp at hh5
        simp [hwk, s61_11, s61_26, ]
        exact back (k + 1) (hk.step hkt h6) (by omega) rfl (by simp <;> omega) (by simp) (by simp)
    · have hao := atomOk_done hk (by omega) h4 h5
      simp [hlt, hkt, hwi, s61_11, s61_26, ]
      exact back (i + 1) (hi.step hlt hao) (by omega) rfl (by simp <;> omega) (by simp) (by simp)
  have hall := allTo_done hi.ok (by omega)
  simp [hlt, s61_11, s61_26, ]
  refine loop_rule (X := Nat) (UsTo n ats) (fun v => [(1, .ptr 1 0 0), (5, .d (.int .i64 v))]) (fun _ => [(1, some (.box [.d (.int .i64 n), .d (.pl (ats.map eAtom)), .d (.pl (out.map cI))]))]) (fun v => n.toNat - v) 0 .zero (by simp) (by simp) ?_
  intro v hs t m hv hh
  have hvn := hv.le
  by_cases hvt : v < n.toNat
  · have hwv := wr1 (i := v) (by omega)
    have hvt' : (v : Int) < n := by omega
    simp [hvt', s61_11, s61_26, ]
    refine loop_rule (X := Nat) (fun i => i ≤ ats.length) (fun i => [(1, .ptr 1 0 0), (5, .d (.int .i64 v)), (6, .d (.bool (hasTo ats v i))), (7, .d (.int .i64 i))]) (fun _ => [(1, some (.box [.d (.int .i64 n), .d (.pl (ats.map eAtom)), .d (.pl (out.map cI))]))]) (fun i => ats.length - i) 0 (by simp) (by simp [hasTo_zero]) (by simp) ?_
    intro i hs t m hi hh
    by_cases hlt : i < ats.length
    · have hwi := wr1 (i := i) (by omega)
      have hst := hasTo_step (v := (v : Int)) hlt
      refine anyQ fun Q => ?_
      cases h6 : hasTo ats v i
      · rw [h6, Bool.false_or] at hst
        simp [hlt, s61_11, s61_26, ]
        refine call_f (w_spec_ContainsVariable ats[i] v) (by simp) rfl fun hs5 hh5 => ?_
        simp at hh5
        simp only [List.contains_eq_mem] at hst
        simp [hwi, s61_11, s61_26, ]
        exact back (i + 1) (by omega) (by omega) rfl (by simp <;> omega) (by simp [hst]) (by simp)
      · rw [h6, Bool.true_or] at hst
        simp [hlt, hwi, s61_11, s61_26, ]
        exact back (i + 1) (by omega) (by omega) rfl (by simp <;> omega) (by simp [hst]) (by simp)
    · have hha := hasTo_all (l := ats) (v := (v : Int)) (i := i) (by omega)
      cases h7 : (varsIn ats).contains (v : Int)
      · rw [h7] at hha
        simp [hlt, hha, queryOk_u (q := ⟨n, ats, out⟩) (usesAll_bad hvt h7), s61_11, s61_26, ]
      · rw [h7] at hha
        simp [hlt, hha, hwv, s61_11, s61_26, ]
        exact back (v + 1) (hv.step hvt h7) (by omega) rfl (by simp <;> omega) (by simp) (by simp)
  have hus := hv.done (by omega)
  have hvt' : ¬ (v : Int) < n := by omega
  simp [hvt', s61_11, s61_26, ]
  refine loop_rule (X := Nat) (SetTo out n) (fun i => [(1, .ptr 1 0 0), (8, .d (.int .i64 i))]) (fun _ => [(1, some (.box [.d (.int .i64 n), .d (.pl (ats.map eAtom)), .d (.pl (out.map cI))]))]) (fun i => out.length - i) 0 .zero (by simp) (by simp) ?_
  intro i hs t m hi hh
  have hil := hi.le
  by_cases hlt : i < out.length
  · have hwi := wr1 (i := i) (by omega)
    simp [hlt, s61_11, s61_26, ]
    refine call_f (w_spec_l1In out[i] 0 (IntKind.i64.wrap (n - 1))) (by simp) rfl fun hs5 hh5 => ?_
    simp at hh5
    cases h6 : inR out[i] 0 (IntKind.i64.wrap (n - 1))
    · simp [queryOk_o (q := ⟨n, ats, out⟩) (setOf_bad1 hlt h6)]
    simp [hil, hlt, ← List.map_take, s61_11, s61_26, ]
    refine call_f (w_spec_l7Find (out.take i) out[i]) (by simp) rfl fun hs6 hh6 => ?_
    simp at hh6
    have hge := idxL_ge (out.take i) out[i]
    by_cases h7 : out[i] ∈ out.take i
    · have h8 : 0 ≤ idxL (out.take i) out[i] := by simpa [h7] using hge
      simp [h8, queryOk_o (q := ⟨n, ats, out⟩) (setOf_bad2 hlt h7)]
    · have h8 : ¬ 0 ≤ idxL (out.take i) out[i] := by simpa [h7] using hge
      simp [h8, hwi, s61_11, s61_26, ]
      exact back (i + 1) (hi.step hlt h6 h7) (by omega) rfl (by simp <;> omega) (by simp) (by simp)
  · have hd := hi.done (by omega)
    simp [hlt, queryOk_all (q := ⟨n, ats, out⟩) h1 h2 hd hall hus]
end

end Go.Proofs.Ytmifoeaifdmgkaa

namespace Go.Proofs.Ytmifoeaifdmgkaa
open Go.Vs Go.Proofs Go
set_option maxRecDepth 100000
set_option maxHeartbeats 1000000

section
attribute [local simp] plI_id plStr_id map_plI map_plStr pS cP cI cStr cU8 cB eAtom
theorem w_impl_IsValidQuery (q : PQuery) : VC Try.prog 64 [.agg ((eQuery q).map V.d)] (fun _ r => r = .d (.bool (queryOk q))) := by
  refine VC.ofL EP s64 (by kernel_rfl) Try.func64 (by rfl) (by kernel_rfl) (by simp [Try.f64]) (by simp [Try.f64]) s64_ok fun B hl => ?_
  obtain ⟨n, ats, out⟩ := q
  simp [pS, maxLen, eQuery] at hl
  simp [Try.f64, eQuery]
  refine call_f (w_impl_within n 1 5) (by simp) rfl fun hs1 hh1 => ?_
  simp at hh1
  cases h1 : inR n 1 5
  · simp [queryOk_n (q := ⟨n, ats, out⟩) h1]
  have hn : 1 ≤ n ∧ n ≤ 5 := by simpa [inR] using h1
  obtain ⟨N, rfl⟩ : ∃ N : Nat, n = (N : Int) := ⟨n.toNat, by omega⟩
  simp [eQuery]
  refine call_f (w_impl_within ats.length 1 4) (by simp) rfl fun hs2 hh2 => ?_
  simp at hh2
  cases h2 : inR (ats.length : Int) 1 4
  · simp [queryOk_a (q := ⟨N, ats, out⟩) h2]
  have ha4 : ats.length ≤ 4 := by simp [inR] at h2; omega
  simp [eQuery]
  refine call_f (w_impl_isSetOf out N) (by simp) rfl fun hs3 hh3 => ?_
  simp at hh3
  cases h3 : setOf out N
  · simp [queryOk_o (q := ⟨N, ats, out⟩) h3]
  have hvl : ∀ i (h : i < ats.length), ats[i].vars.length ≤ 9223372036854775807 := fun i h => (hl.1.2 _ (List.getElem_mem h))
  have hL : LenOk 1 N := ⟨by omega, by simp only [maxLen]; omega⟩
  have hwN : IntKind.i64.wrap ((N : Int) - 1) = N - 1 := wrap64_of (by omega) (by omega)
  simp [hL, ]
  refine loop_rule (X := Nat) (AtI N ats) (fun i => [(3, .d (.int .i64 N)), (4, .own 31 0 N), (33, .d (.pl (ats.map eAtom))), (34, .d (.int .i64 ats.length)), (35, .d (.int .i64 i))])
    (fun i => [(31, some (.row 4 1 ((usedL N (varsIn (ats.take i))).map cB)))]) (fun i => ats.length - i) 0 .zero (by simp) (by simp [usedL_nil, varsIn]) ?_
  intro i hs t m hi hh
  have hil := hi.le
  by_cases hlt : i < ats.length
  · have hwi := wr1 (i := i) (by omega)
    have hbad : atomOk N ats[i] = false → queryOk ⟨N, ats, out⟩ = false := fun h => queryOk_at (q := ⟨N, ats, out⟩) hlt h
    have hvs : varsIn (ats.take (i + 1)) = varsIn (ats.take i) ++ ats[i].vars := by
      rw [varsIn, List.take_succ_eq_append_getElem hlt, List.flatMap_append]; simp only [varsIn, List.flatMap_cons, List.flatMap_nil, List.append_nil]
    simp [hlt, ]
    refine call_f (w_impl_IsValidName ats[i].rel) (by simp) rfl fun hs3 hh3 => ?_
    simp at hh3
    cases h4 : nameOk ats[i].rel
    · simp [hbad (by simp only [atomOk, h4, Bool.false_and])]
    simp []
    refine call_f (w_impl_within ats[i].vars.length 1 5) (by simp) rfl fun hs4 hh4 => ?_
    simp at hh4
    cases h5 : inR (ats[i].vars.length : Int) 1 5
    · simp [hbad (by simp only [atomOk, h5, Bool.false_and, Bool.and_false])]
    simp []
    obtain ⟨us, hus⟩ : ∃ us, us = varsIn (ats.take i) := ⟨_, rfl⟩
    rw [← hus] at hvs ⊢
    obtain ⟨vs, hvse⟩ : ∃ vs, vs = ats[i].vars := ⟨_, rfl⟩
    have hvi := hvl i hlt
    rw [← hvse] at hvs hvi h5
    refine loop_rule (X := Nat) (AtK N vs) (fun k => [(3, .d (.int .i64 N)), (4, .own 31 0 N), (33, .d (.pl (ats.map eAtom))), (34, .d (.int .i64 ats.length)), (35, .d (.int .i64 i)), (51, .d (.pl (vs.map cI))), (52, .d (.int .i64 vs.length)), (53, .d (.int .i64 k))])
      (fun k => [(31, some (.row 4 1 ((usedL N (us ++ vs.take k)).map cB)))]) (fun k => vs.length - k) 0 .zero (by simp [hvse]) (by simp [hus]) ?_
    intro k hs t m hk hh
    have hkl := hk.le
    by_cases hkt : k < vs.length
    · have hwk := wr1 (i := k) (by omega)
      simp [hkt, ]
      refine call_f (w_impl_within vs[k] 0 (IntKind.i64.wrap ((N : Int) - 1))) (by simp) rfl fun hs5 hh5 => ?_
      simp at hh5
      cases h6 : inR vs[k] 0 (IntKind.i64.wrap ((N : Int) - 1))
      · have hq := hbad (atomOk_bad (k := k) (by rw [← hvse]; exact hkt) (by simpa only [← hvse] using h6))
        simp [hq]
      · have hst := hk.step hkt h6
        rw [hwN] at h6
        simp only [inR, Bool.and_eq_true, decide_eq_true_eq] at h6
        obtain ⟨p, hp⟩ : ∃ p : Nat, vs[k] = (p : Int) := ⟨vs[k].toNat, by omega⟩
        have hpN : p < N := by omega
        have hset : usedL N (us ++ vs.take (k + 1)) = (usedL N (us ++ vs.take k)).set p true := by
          rw [usedL_snoc hpN, List.append_assoc, List.take_succ_eq_append_getElem hkt, hp]
        simp [hp, hpN, hwk, ]
        exact back (k + 1) hst (by omega) rfl (by simp <;> omega) (by simp) (by simp [hset])
    · have hao := atomOk_done (n := N) (a := ats[i]) (k := k) (by rw [← hvse]; exact hk) (by rw [← hvse]; omega) h4 (by rw [← hvse]; exact h5)
      have hd : vs.take k = vs := List.take_of_length_le (by omega)
      simp [hkt, hwi, hd, ]
      exact back (i + 1) (hi.step hlt hao) (by omega) rfl (by simp <;> omega) (by simp) (by simp [hvs])
  have hall := allTo_done hi.ok (by omega)
  have hd : ats.take i = ats := List.take_of_length_le (by omega)
  rw [hd]
  simp [hlt, ]
  have hu := usesAll_iff (n := (N : Int)) (l := ats)
  rw [Int.toNat_natCast] at hu
  refine loop_rule (X := Nat) (fun j => j ≤ N ∧ AllTo id (usedL N (varsIn ats)) j) (fun j => [(67, .own 31 0 N), (68, .d (.int .i64 N)), (69, .d (.int .i64 j))]) (fun _ => [(31, some (.row 4 1 ((usedL N (varsIn ats)).map cB)))]) (fun j => N - j) 0 ⟨by simp, allTo_zero⟩ (by simp) (by simp) ?_
  intro j hs t m hj hh
  by_cases hjt : j < N
  · have hwj := wr1 (i := j) (by omega)
    have hjl : j < (usedL N (varsIn ats)).length := by simpa using hjt
    cases h6 : (usedL N (varsIn ats))[j]
    · have hq : queryOk ⟨N, ats, out⟩ = false := queryOk_u (q := ⟨N, ats, out⟩) (by rw [hu]; exact all_bad (p := id) hjl h6)
      simp [hjt, h6, hq, ]
    · simp [hjt, h6, hwj, ]
      exact back (j + 1) ⟨by omega, allTo_step hj.2 hjl h6⟩ (by omega) rfl (by simp <;> omega) (by simp) (by simp)
  · have hus : usesAll N ats = true := by rw [hu]; exact allTo_done hj.2 (by simp; omega)
    simp [hjt, queryOk_all (q := ⟨N, ats, out⟩) h1 h2 h3 hall hus]
end

end Go.Proofs.Ytmifoeaifdmgkaa

namespace Go.Proofs.Ytmifoeaifdmgkaa
open Go.Vs Go.Proofs Go
set_option maxRecDepth 100000
set_option maxHeartbeats 1000000

section
attribute [local simp] plI_id plStr_id map_plI map_plStr pS cP cI cStr cU8 cB
theorem w_impl_IsStrictlyAscending (b : List Int) : VC Try.prog 125 [.d (pS cI b)] (fun _ r => r = .d (.bool (ascB b))) := by
  refine VC.ofL EP s125 (by kernel_rfl) Try.func125 (by rfl) (by kernel_rfl) (by simp [Try.f125]) (by simp [Try.f125]) s125_ok fun B hl => ?_
  simp [pS, maxLen] at hl
  simp [Try.f125, s125_4, s125_4, ]
  refine loop_rule (X := Nat) (AscI b) (fun i => [(0, .d (.pl (b.map cI))), (3, .d (.int .i64 i))]) (fun _ => []) (fun i => b.length + 1 - i) 1 .one (by simp) (by simp) ?_
  intro i hs t m hi hh
  have hle := hi.le
  by_cases hlt : i < b.length
  · have hwi := wr1 (i := i) (by omega)
    have hw : IntKind.i64.wrap ((i : Int) - 1) = ((i - 1 : Nat) : Int) := by rw [wrap64_of (by omega) (by omega)]; omega
    have hl1 : i - 1 < b.length := by omega
    by_cases he : b[i - 1] < b[i]
    · simp [hlt, hw, hl1, he, show ¬ b[i] ≤ b[i - 1] by omega, hwi, s125_4, ]
      exact back (i + 1) (hi.step hlt he) (by omega) rfl (by simp <;> omega) (by simp) (by simp)
    · simp [hlt, hw, hl1, show b[i] ≤ b[i - 1] by omega, asc_bad hle.1 hlt he, s125_4, ]
  · simp [hlt, hi.done (by omega)]
theorem w_impl_isBag (q : PQuery) (b : List Int) : VC Try.prog 77 [.agg ((eQuery q).map V.d), .d (pS cI b)] (fun _ r => r = .d (.bool (bagI q.n b))) := by
  refine VC.ofL EP s77 (by kernel_rfl) Try.func77 (by rfl) (by kernel_rfl) (by simp [Try.f77]) (by simp [Try.f77]) s77_ok fun B hl => ?_
  by_cases h0 : b.length = 0
  · have : b = [] := List.length_eq_zero_iff.1 h0
    subst this
    simp [Try.f77, eQuery, bagI]
  have h1 : 0 < b.length := by omega
  simp [Try.f77, eQuery, h1]
  refine call_f (w_impl_IsStrictlyAscending b) (by simp) rfl fun hs1 hh1 => ?_
  simp at hh1
  cases h2 : ascB b
  · simp [bagI, h2]
  simp []
  refine call_f (w_impl_isSetOf b q.n) (by simp) rfl fun hs2 hh2 => ?_
  simp [bagI, h1, h2]
theorem w_impl_common (l b : List Int) (hb : l.length ≤ 4294967296) : VC Try.prog 78 [.d (pS cI l), .d (pS cI b)] (fun _ r => r = .d (pS cI (commL l b))) := by
  refine VC.ofL EP s78 (by kernel_rfl) Try.func78 (by rfl) (by kernel_rfl) (by simp [Try.f78]) (by simp [Try.f78]) s78_ok fun B hl => ?_
  simp [Try.f78, ]
  refine loop_ruleL (X := Nat) (fun i _ => i ≤ l.length) (fun i => [(1, .d (.pl (b.map cI))), (5, .own 20 0 (commL (l.take i) b).length), (8, .d (.pl (l.map cI))), (9, .d (.int .i64 l.length)), (10, .d (.int .i64 i))]) (fun i => [(20, some (.row 3 1 ((commL (l.take i) b).map cI)))]) (fun i => l.length - i) ?_ ?_
  · refine (lead_slot 5 20 3 1 (by omega) (by omega) (by simp)).bind ?_
    rintro _ rfl
    exact Lead.of ⟨0, by omega, rfl, rfl, Nat.le_refl _, by simp [commL], by simp [commL]⟩
  intro i hs t m hi hh
  by_cases hlt : i < l.length
  · have hwi := wr1 (i := i) (by omega)
    have hst := comm_step (b := b) hlt
    have hcl := List.length_filter_le (fun v => b.contains v) (l.take i)
    rw [List.length_take] at hcl
    have hL : LenOk 8 ((commL (l.take i) b).length + 1) := ⟨by simp only [commL]; omega, by simp only [maxLen, commL]; omega⟩
    simp [hlt, ]
    refine call_f (w_impl_hasInt b l[i]) (by simp) rfl fun hs1 hh1 => ?_
    simp at hh1
    by_cases h1 : l[i] ∈ b
    · have e : b.contains l[i] = true := by simpa using h1
      rw [e] at hst
      simp only [if_true] at hst
      simp [h1, hwi, hL, ]
      exact back2 (i + 1) (by omega) (by omega) rfl (by simp <;> omega) (by simp [hst]) (by simp [hst])
    · have e : b.contains l[i] = false := by simpa using h1
      rw [e] at hst
      simp only [Bool.false_eq_true, if_false, List.append_nil] at hst
      simp [h1, hwi, ]
      exact back2 (i + 1) (by omega) (by omega) rfl (by simp <;> omega) (by simp [hst]) (by simp [hst])
  · have hn : i = l.length := by omega
    subst hn
    simp [List.take_of_length_le]
theorem w_impl_AtomVariables (a : PAtom) : VC Try.prog 79 [.agg ((eAtom a).map V.d)] (fun _ r => r = .d (pS cI (avars a))) := by
  refine VC.ofL EP s79 (by kernel_rfl) Try.func79 (by rfl) (by kernel_rfl) (by simp [Try.f79]) (by simp [Try.f79]) s79_ok fun B hl => ?_
  simp [Try.f79, eAtom]
  refine loop_ruleL (X := Nat) (fun i _ => i ≤ 5) (fun i => [(1, .ptr 1 0 0), (3, .own 15 0 (avTo a i).length), (4, .d (.int .i64 i))]) (fun i => [(1, some (.box [.d (.str a.rel), .d (.pl (a.vars.map cI))])), (15, some (.row 3 1 ((avTo a i).map cI)))]) (fun i => 5 - i) ?_ ?_
  · refine (lead_slot 3 15 3 1 (by omega) (by omega) (by simp)).bind ?_
    rintro _ rfl
    exact Lead.of ⟨0, by omega, rfl, rfl, Nat.le_refl _, by simp [avTo, rangeI_zero], by simp [avTo, rangeI_zero]⟩
  intro i hs t m hi hh
  by_cases hlt : i < 5
  · have hwi := wr1 (i := i) (by omega)
    have hst := avTo_step a i
    have hal := avTo_len a i
    have hL : LenOk 8 ((avTo a i).length + 1) := ⟨by omega, by simp only [maxLen]; omega⟩
    have hlt' : (i : Int) < 5 := by omega
    simp [hlt', ]
    refine call_f (w_impl_ContainsVariable a i) (by simp [eAtom]) rfl fun hs1 hh1 => ?_
    simp at hh1
    by_cases h1 : (i : Int) ∈ a.vars
    · have e : a.vars.contains (i : Int) = true := by simpa using h1
      rw [e] at hst
      simp only [if_true] at hst
      simp [h1, hwi, hL, ]
      exact back2 (i + 1) (by omega) (by omega) rfl (by simp <;> omega) (by simp [hst]) (by simp [hst])
    · have e : a.vars.contains (i : Int) = false := by simpa using h1
      rw [e] at hst
      simp only [Bool.false_eq_true, if_false, List.append_nil] at hst
      simp [h1, hwi, ]
      exact back2 (i + 1) (by omega) (by omega) rfl (by simp <;> omega) (by simp [hst]) (by simp [hst])
  · have hn : i = 5 := by omega
    subst hn
    have : avTo a 5 = avars a := rfl
    simp [this, List.take_of_length_le, ]
theorem w_spec_l30Within (a : PAtom) (b : List Int) : VC Try.prog 74 [.agg ((eAtom a).map V.d), .d (pS cI b)] (fun _ r => r = .d (.bool (insD a b))) := by
  refine VC.ofL EP s74 (by kernel_rfl) Try.func74 (by rfl) (by kernel_rfl) (by simp [Try.f74]) (by simp [Try.f74]) s74_ok fun B hl => ?_
  obtain ⟨nm, l⟩ := a
  simp [pS, maxLen, eAtom] at hl
  simp [Try.f74, eAtom]
  refine loop_rule (X := Nat) (InTo b ⟨nm, l⟩) (fun i => [(1, .d (.pl (b.map cI))), (2, .ptr 2 0 0), (5, .d (.int .i64 i))]) (fun _ => [(2, some (.box [.d (.str nm), .d (.pl (l.map cI))]))]) (fun i => l.length - i) 0 .zero (by simp) (by simp) ?_
  intro i hs t m hi hh
  have hle : i ≤ l.length := hi.le
  by_cases hlt : i < l.length
  · have hwi := wr1 (i := i) (by omega)
    have hge := idxL_ge b l[i]
    simp [hlt, ]
    refine call_f (w_spec_l7Find b l[i]) (by simp) rfl fun hs1 hh1 => ?_
    simp at hh1
    by_cases h1 : l[i] ∈ b
    · have h8 : ¬ idxL b l[i] < 0 := by have : 0 ≤ idxL b l[i] := by simpa [h1] using hge
                                        omega
      simp [h8, hwi, ]
      exact back (i + 1) (hi.step hlt h1) (by omega) rfl (by simp <;> omega) (by simp) (by simp)
    · have h8 : idxL b l[i] < 0 := by have : ¬ 0 ≤ idxL b l[i] := by simpa [h1] using hge
                                      omega
      have hb : insD ⟨nm, l⟩ b = false := ins_bad (a := ⟨nm, l⟩) hlt h1
      simp [h8, hb]
  · have hd : insD ⟨nm, l⟩ b = true := hi.done (by show l.length ≤ i; omega)
    simp [hlt, hd]
theorem w_spec_l30Bag (q : PQuery) (b : List Int) : VC Try.prog 73 [.agg ((eQuery q).map V.d), .d (pS cI b)] (fun _ r => r = .d (.bool (bagS q.n b))) := by
  refine VC.ofL EP s73 (by kernel_rfl) Try.func73 (by rfl) (by kernel_rfl) (by simp [Try.f73]) (by simp [Try.f73]) s73_ok fun B hl => ?_
  simp [pS, maxLen] at hl
  simp [Try.f73, s73_4, eQuery]
  refine loop_rule (X := Nat) (BagI q.n b) (fun i => [(1, .d (.pl (b.map cI))), (2, .ptr 2 0 0), (5, .d (.int .i64 i))]) (fun _ => [(2, some (.box [.d (.int .i64 q.n), .d (.pl (q.atoms.map eAtom)), .d (.pl (q.out.map cI))]))]) (fun i => b.length - i) 0 .zero (by simp) (by simp) ?_
  intro i hs t m hi hh
  have hle := hi.le
  by_cases hlt : i < b.length
  · have hwi := wr1 (i := i) (by omega)
    simp [hlt, s73_4, ]
    refine call_f (w_spec_l1In b[i] 0 (IntKind.i64.wrap (q.n - 1))) (by simp) rfl fun hs1 hh1 => ?_
    simp at hh1
    cases h1 : inR b[i] 0 (IntKind.i64.wrap (q.n - 1))
    · have hb : bagS q.n b = false := bagS_bad hlt (by rw [bagAt, getD_el _ hlt, h1, Bool.false_and])
      simp [hb, s73_4, ]
    by_cases h0 : i = 0
    · subst h0
      have hwi0 : IntKind.i64.wrap 1 = 1 := by simpa using hwi
      have hok : bagAt q.n b 0 = true := by rw [bagAt, getD_el _ hlt, h1, Bool.true_and]; simp [ascAt]
      simp [hwi0, s73_4, ]
      exact back 1 (hi.step hlt hok) (by omega) rfl (by simp <;> omega) (by simp) (by simp)
    · have h0' : 0 < i := by omega
      have hw : IntKind.i64.wrap ((i : Int) - 1) = ((i - 1 : Nat) : Int) := by rw [wrap64_of (by omega) (by omega)]; omega
      have hl1 : i - 1 < b.length := by omega
      have hat := ascAt_eq (b := b) (by omega) hlt
      by_cases he : b[i - 1] < b[i]
      · have hok : bagAt q.n b i = true := by rw [bagAt, getD_el _ hlt, h1, Bool.true_and, hat]; simpa using he
        simp [h0', hlt, hw, hl1, show ¬ b[i] ≤ b[i - 1] by omega, hwi, s73_4, ]
        exact back (i + 1) (hi.step hlt hok) (by omega) rfl (by simp <;> omega) (by simp) (by simp)
      · have hb : bagS q.n b = false := bagS_bad hlt (by rw [bagAt, getD_el _ hlt, h1, Bool.true_and, hat]; simpa using he)
        simp [h0', hlt, hw, hl1, show b[i] ≤ b[i - 1] by omega, hb, s73_4, ]
  · have hd := hi.done (by omega)
    simp [hlt, hd]
end

end Go.Proofs.Ytmifoeaifdmgkaa

namespace Go.Proofs.Ytmifoeaifdmgkaa
open Go.Vs Go.Proofs Go
set_option maxRecDepth 100000
set_option maxHeartbeats 1000000

section
attribute [local simp] plI_id plStr_id map_plI map_plStr pS cP cI cStr cU8 cB
theorem w_impl_isTree (ps : List Int) (hb : ps.length ≤ 4294967296) : VC Try.prog 76 [.d (pS cI ps)] (fun _ r => r = .d (.bool (treeB ps))) := by
  refine VC.ofL EP s76 (by kernel_rfl) Try.func76 (by rfl) (by kernel_rfl) (by simp [Try.f76]) (by simp [Try.f76]) s76_ok fun B hl => ?_
  simp [pS, maxLen] at hl
  simp [Try.f76, ]
  refine loop_rule (X := Nat) (TreI ps) (fun i => [(0, .d (.pl (ps.map cI))), (3, .d (.int .i64 (rootsTo ps i))), (8, .d (.pl (ps.map cI))), (9, .d (.int .i64 ps.length)), (10, .d (.int .i64 i))]) (fun _ => []) (fun i => ps.length - i) 0 .zero (by simp [rootsTo]) (by simp) ?_
  intro i hs t m hi hh
  have hle := hi.le
  by_cases hlt : i < ps.length
  case neg =>
    have hd := hi.done (by omega)
    simp [hlt, hd]
    omega
  have hwi := wr1 (i := i) (by omega)
  have hw1 : IntKind.i64.wrap ((ps.length : Int) - 1) = ps.length - 1 := wrap64_of (by omega) (by omega)
  have hbad : treeAt ps i = false → treeB ps = false := treeB_bad hlt
  have hri := rootsTo_le ps i
  have hst := rootsTo_step hlt
  have hwr : IntKind.i64.wrap ((rootsTo ps i : Int) + 1) = rootsTo ps i + 1 := wrap64_of (by omega) (by omega)
  simp [hlt, hw1, ]
  refine call_f (w_impl_within ps[i] (-1) (ps.length - 1)) (by simp) rfl fun hs1 hh1 => ?_
  simp at hh1
  cases h1 : inR ps[i] (-1) (ps.length - 1)
  · have hb := hbad (by rw [treeAt, nxP_at hlt, h1, Bool.false_and])
    simp [hb]
  have hend : treeAt ps i = endNeg (upI ps (ps.length + 1) i) := by rw [treeAt, nxP_at hlt, h1, Bool.true_and]
  obtain ⟨R, hR⟩ : ∃ R : Nat, R = rootsTo ps (i + 1) := ⟨_, rfl⟩
  by_cases h2 : ps[i] < 0
  · rw [if_pos h2] at hst
    simp [h2, hwr, ]
    refine loop_rule (X := Nat × Int) (UpI ps i) (fun p => [(0, .d (.pl (ps.map cI))), (3, .d (.int .i64 R)), (6, .d (.int .i64 p.2)), (7, .d (.int .i64 p.1)), (8, .d (.pl (ps.map cI))), (9, .d (.int .i64 ps.length)), (10, .d (.int .i64 i))]) (fun _ => []) (fun p => ps.length + 1 - p.1) (0, (i : Int)) ⟨by simp, by simp only; omega, rfl⟩ (by simp [hR, hst]) (by simp) ?_
    rintro ⟨k, a⟩ hs t m hk hh
    have hkl := hk.le
    have hka := hk.at_
    simp only at hkl hka
    by_cases hc : k ≤ ps.length ∧ 0 ≤ a
    · obtain ⟨hc1, hc2⟩ := hc
      obtain ⟨A, rfl⟩ : ∃ A : Nat, a = (A : Int) := ⟨a.toNat, by omega⟩
      have hA : A < ps.length := by omega
      have hwk := wr1 (i := k) (by omega)
      cases h3 : inR ps[A] (-1) (ps.length - 1)
      · have hb := hbad (hk.bad hc1 hc2 (nxP_at hA) h3)
        simp [hc1, hA, hw1, ]
        refine call_f (VC.to (w_impl_within ps[A] (-1) (ps.length - 1)) (show _ = V.d (.bool false) by rw [h3])) (by simp) rfl fun hs3 hh3 => ?_
        simp [hb]
      · refine anyQ fun Q => ?_
        simp [hc1, hA, hw1, ]
        refine call_f (VC.to (w_impl_within ps[A] (-1) (ps.length - 1)) (show _ = V.d (.bool true) by rw [h3])) (by simp) rfl fun hs3 hh3 => ?_
        simp at hh3
        simp [hwk, ]
        exact back (k + 1, ps[A]) (hk.step hc1 hc2 (nxP_at hA) h3) (by simp only; omega) rfl (by simp <;> omega) (by simp) (by simp)
    have hfin := hk.fin hc
    by_cases ha : a < 0
    · have hok : treeAt ps i = true := by rw [hend, hfin]; simpa using ha
      have ha' : ¬ 0 ≤ a := by omega
      by_cases hk2 : k ≤ ps.length
      · simp [hk2, ha, ha', hwi, ]
        exact back (i + 1) (hi.step hlt hok) (by omega) rfl (by simp <;> omega) (by simp [hR]) (by simp)
      · simp [hk2, ha, ha', hwi, ]
        exact back (i + 1) (hi.step hlt hok) (by omega) rfl (by simp <;> omega) (by simp [hR]) (by simp)
    · have hb := hbad (by rw [hend, hfin]; simpa using ha)
      have hk2 : ¬ k ≤ ps.length := fun h => hc ⟨h, by omega⟩
      simp [hk2, show 0 ≤ a by omega, hb, ]
  · rw [if_neg h2] at hst
    simp [h2, ]
    refine loop_rule (X := Nat × Int) (UpI ps i) (fun p => [(0, .d (.pl (ps.map cI))), (3, .d (.int .i64 R)), (6, .d (.int .i64 p.2)), (7, .d (.int .i64 p.1)), (8, .d (.pl (ps.map cI))), (9, .d (.int .i64 ps.length)), (10, .d (.int .i64 i))]) (fun _ => []) (fun p => ps.length + 1 - p.1) (0, (i : Int)) ⟨by simp, by simp only; omega, rfl⟩ (by simp [hR, hst]) (by simp) ?_
    rintro ⟨k, a⟩ hs t m hk hh
    have hkl := hk.le
    have hka := hk.at_
    simp only at hkl hka
    by_cases hc : k ≤ ps.length ∧ 0 ≤ a
    · obtain ⟨hc1, hc2⟩ := hc
      obtain ⟨A, rfl⟩ : ∃ A : Nat, a = (A : Int) := ⟨a.toNat, by omega⟩
      have hA : A < ps.length := by omega
      have hwk := wr1 (i := k) (by omega)
      cases h3 : inR ps[A] (-1) (ps.length - 1)
      · have hb := hbad (hk.bad hc1 hc2 (nxP_at hA) h3)
        simp [hc1, hA, hw1, ]
        refine call_f (VC.to (w_impl_within ps[A] (-1) (ps.length - 1)) (show _ = V.d (.bool false) by rw [h3])) (by simp) rfl fun hs3 hh3 => ?_
        simp [hb]
      · refine anyQ fun Q => ?_
        simp [hc1, hA, hw1, ]
        refine call_f (VC.to (w_impl_within ps[A] (-1) (ps.length - 1)) (show _ = V.d (.bool true) by rw [h3])) (by simp) rfl fun hs3 hh3 => ?_
        simp at hh3
        simp [hwk, ]
        exact back (k + 1, ps[A]) (hk.step hc1 hc2 (nxP_at hA) h3) (by simp only; omega) rfl (by simp <;> omega) (by simp) (by simp)
    have hfin := hk.fin hc
    by_cases ha : a < 0
    · have hok : treeAt ps i = true := by rw [hend, hfin]; simpa using ha
      have ha' : ¬ 0 ≤ a := by omega
      by_cases hk2 : k ≤ ps.length
      · simp [hk2, ha, ha', hwi, ]
        exact back (i + 1) (hi.step hlt hok) (by omega) rfl (by simp <;> omega) (by simp [hR]) (by simp)
      · simp [hk2, ha, ha', hwi, ]
        exact back (i + 1) (hi.step hlt hok) (by omega) rfl (by simp <;> omega) (by simp [hR]) (by simp)
    · have hb := hbad (by rw [hend, hfin]; simpa using ha)
      have hk2 : ¬ k ≤ ps.length := fun h => hc ⟨h, by omega⟩
      simp [hk2, show 0 ≤ a by omega, hb, ]
theorem w_spec_JoinTreeRoot (ps : List Int) : VC Try.prog 71 [.agg [.d (pS cI ps)]] (fun _ r => r = .d (.int .i64 (rootS ps))) := by
  refine VC.ofL EP s71 (by kernel_rfl) Try.func71 (by rfl) (by kernel_rfl) (by simp [Try.f71]) (by simp [Try.f71]) s71_ok fun B hl => ?_
  simp [pS, maxLen] at hl
  simp [Try.f71, ]
  refine loop_rule (X := Nat × Int) (RootI ps) (fun p => [(1, .ptr 1 0 0), (3, .d (.int .i64 p.2)), (4, .d (.int .i64 p.1))]) (fun _ => [(1, some (.box [.d (.pl (ps.map cI))]))]) (fun p => ps.length - p.1) (0, -1) .zero (by simp) (by simp) ?_
  rintro ⟨i, o⟩ hs t m hI hh
  have hle := hI.le
  simp only at hle
  by_cases hlt : i < ps.length
  · have hwi := wr1 (i := i) (by omega)
    by_cases h1 : ps[i] = -1
    · by_cases h2 : 0 ≤ o
      · simp [hlt, h1, h2, hI.two h2 hlt h1, ]
      · simp [hlt, h1, h2, hwi, ]
        exact back (i + 1, (i : Int)) (hI.put (by omega) hlt h1) (by simp only; omega) rfl (by simp <;> omega) (by simp) (by simp)
    · simp [hlt, h1, hwi, ]
      exact back (i + 1, o) (hI.skip hlt h1) (by simp only; omega) rfl (by simp <;> omega) (by simp) (by simp)
  · simp [hlt, hI.done (by omega)]
theorem w_spec_l10Path (ps : List Int) (k0 : Int) (hb : ps.length ≤ 4294967296) : VC Try.prog 72 [.agg [.d (pS cI ps)], .d (.int .i64 k0)] (fun _ r => r = .d (pS cI (pathS ps (ps.length + 1) k0))) := by
  refine VC.ofL EP s72 (by kernel_rfl) Try.func72 (by rfl) (by kernel_rfl) (by simp [Try.f72]) (by simp [Try.f72]) s72_ok fun B hl => ?_
  have hw1 : IntKind.i64.wrap ((ps.length : Int) - 1) = ps.length - 1 := wrap64_of (by omega) (by omega)
  simp [Try.f72, ]
  refine loop_rule (X := Int × List Int) (PathI ps k0) (fun p => [(1, .d (.int .i64 p.1)), (2, .ptr 2 0 0), (5, .own 6 0 p.2.length)]) (fun p => [(2, some (.box [.d (.pl (ps.map cI))])), (6, some (.row 3 1 (p.2.map cI)))]) (fun p => ps.length + 1 - p.2.length) (k0, []) .zero (by simp) (by simp) ?_
  rintro ⟨k, o⟩ hs t m hI hh
  have hle := hI.le
  simp only at hle
  simp [hw1, ]
  refine call_f (w_spec_l1In k 0 (ps.length - 1)) (by simp) rfl fun hs3 hh3 => ?_
  simp at hh3
  cases h1 : inR k 0 (ps.length - 1)
  · have hd := hI.done (by simp [h1])
    simp [hd, List.take_of_length_le, ]
  by_cases h2 : o.length ≤ ps.length
  · have h1' := h1
    simp only [inR, Bool.and_eq_true, decide_eq_true_eq] at h1'
    have hst := hI.step h1 h2
    obtain ⟨K, rfl⟩ : ∃ K : Nat, k = (K : Int) := ⟨k.toNat, by omega⟩
    have hK : K < ps.length := by omega
    rw [nxP_at hK] at hst
    have hL : LenOk 8 (o.length + 1) := ⟨by omega, by simp only [maxLen]; omega⟩
    simp [h2, hK, hL, ]
    exact back (ps[K], o ++ [(K : Int)]) hst (by simp; omega) rfl (by simp <;> omega) (by simp) (by simp)
  · have hd := hI.done (by simp [h2])
    simp [h2, hd, List.take_of_length_le, ]
theorem w_impl_topsOf (bags : List (List Int)) (ps : List Int) (v : Int) (hl2 : bags.length = ps.length) (hp : ∀ i (h : i < ps.length), -1 ≤ ps[i] ∧ ps[i] < ps.length) : VC Try.prog 80 [.d (pS (cP cI) bags), .d (pS cI ps), .d (.int .i64 v)] (fun _ r => r = .d (.int .i64 (topN bags ps v bags.length))) := by
  refine VC.ofL EP s80 (by kernel_rfl) Try.func80 (by rfl) (by kernel_rfl) (by simp [Try.f80]) (by simp [Try.f80]) s80_ok fun B hl => ?_
  simp [pS, maxLen] at hl
  simp [Try.f80, ]
  refine loop_rule (X := Nat) (fun i => i ≤ bags.length) (fun i => [(0, .d (.pl (bags.map (cP cI)))), (1, .d (.pl (ps.map cI))), (2, .d (.int .i64 v)), (7, .d (.int .i64 (topN bags ps v i))), (10, .d (.pl (bags.map (cP cI)))), (11, .d (.int .i64 bags.length)), (12, .d (.int .i64 i))]) (fun _ => []) (fun i => bags.length - i) 0 (by simp) (by simp [topN]) (by simp) ?_
  intro i hs t m hi hh
  by_cases hlt : i < bags.length
  · have hwi := wr1 (i := i) (by omega)
    have hlp : i < ps.length := by omega
    have hst := topN_step bags ps v i
    have htl := topN_le bags ps v i
    have hwt : IntKind.i64.wrap ((topN bags ps v i : Int) + 1) = topN bags ps v i + 1 := wrap64_of (by omega) (by omega)
    have hpi := hp i hlp
    simp [hlt, ]
    refine call_f (w_impl_hasInt bags[i] v) (by simp) rfl fun hs3 hh3 => ?_
    simp at hh3
    by_cases h1 : v ∈ bags[i]
    case neg =>
      have e : topIs bags ps v i = false := by rw [topIs, getD_el _ hlt]; simp [h1]
      rw [e] at hst
      simp only [Bool.false_eq_true, if_false, Nat.add_zero] at hst
      simp [h1, hwi, ]
      exact back (i + 1) (by omega) (by omega) rfl (by simp <;> omega) (by simp [hst]) (by simp)
    by_cases h2 : ps[i] < 0
    · have e : topIs bags ps v i = true := by rw [topIs, getD_el _ hlt, getD_el _ hlp]; simp [h1, h2]
      rw [e] at hst
      simp only [if_true] at hst
      simp [h1, h2, hlp, hwi, hwt, ]
      exact back (i + 1) (by omega) (by omega) rfl (by simp <;> omega) (by simp [hst]) (by simp)
    obtain ⟨A, hA⟩ : ∃ A : Nat, ps[i] = (A : Int) := ⟨ps[i].toNat, by omega⟩
    have hAl : A < bags.length := by omega
    have h2' : ¬ (A : Int) < 0 := by omega
    simp [h1, hA, hAl, hlp, ]
    refine call_f (w_impl_hasInt bags[A] v) (by simp) rfl fun hs4 hh4 => ?_
    simp at hh4
    by_cases h3 : v ∈ bags[A]
    · have e : topIs bags ps v i = false := by rw [topIs, getD_el _ hlt, getD_el _ hlp, hA, Int.toNat_natCast, getD_el _ hAl]; simp [h1, h3]
      rw [e] at hst
      simp only [Bool.false_eq_true, if_false, Nat.add_zero] at hst
      simp [h3, h2', hwi, ]
      exact back (i + 1) (by omega) (by omega) rfl (by simp <;> omega) (by simp [hst]) (by simp)
    · have e : topIs bags ps v i = true := by rw [topIs, getD_el _ hlt, getD_el _ hlp, hA, Int.toNat_natCast, getD_el _ hAl]; simp [h1, h3]
      rw [e] at hst
      simp only [if_true] at hst
      simp [h3, h2', hwi, hwt, ]
      exact back (i + 1) (by omega) (by omega) rfl (by simp <;> omega) (by simp [hst]) (by simp)
  · have hn : i = bags.length := by omega
    subst hn
    simp
end

end Go.Proofs.Ytmifoeaifdmgkaa

namespace Go.Proofs.Ytmifoeaifdmgkaa
open Go.Vs Go.Proofs Go
set_option maxRecDepth 100000
set_option maxHeartbeats 1000000

section
attribute [local simp] plI_id plStr_id map_plI map_plStr pS cP cI cStr cU8 cB
theorem w_impl_IsValidDecomposition (q : PQuery) (d : PDec) (hb : d.par.length ≤ 4294967296) : VC Try.prog 24 [.agg ((eQuery q).map V.d), .agg ((eDec d).map V.d)] (fun _ r => r = .d (.bool (decOk q d))) := by
  refine VC.ofL EP s24 (by kernel_rfl) Try.func24 (by rfl) (by kernel_rfl) (by simp [Try.f24]) (by simp [Try.f24]) s24_ok fun B hl => ?_
  obtain ⟨bags, ps⟩ := d
  simp only at hb
  simp [Try.f24, s24_17, s24_17, eQuery, eDec]
  refine call_f (w_impl_IsValidQuery q) (by simp [eQuery]) rfl fun hs1 hh1 => ?_
  simp at hh1
  cases h1 : queryOk q
  · simp [decOk_q (d := ⟨bags, ps⟩) h1]
  have hn := queryOk_n5 h1
  by_cases h2 : bags.length = ps.length
  case neg => simp [h2, decOk_l (q := q) (d := ⟨bags, ps⟩) h2, s24_17, ]
  simp [h2, s24_17, ]
  refine call_f (w_impl_isTree ps hb) (by simp) rfl fun hs2 hh2 => ?_
  simp at hh2
  cases h3 : treeB ps
  · simp [decOk_t (q := q) (d := ⟨bags, ps⟩) h3]
  have hpar := tree_par h3
  simp [h2, s24_17, ]
  refine loop_rule (X := Nat) (ToI (bagI q.n) bags) (fun i => [(2, .ptr 2 0 0), (5, .ptr 5 0 0), (34, .d (.pl (bags.map (cP cI)))), (35, .d (.int .i64 ps.length)), (36, .d (.int .i64 i))])
    (fun _ => [(2, some (.box [.d (.int .i64 q.n), .d (.pl (q.atoms.map eAtom)), .d (.pl (q.out.map cI))])), (5, some (.box [.d (.pl (bags.map (cP cI))), .d (.pl (ps.map cI))]))]) (fun i => bags.length - i) 0 .zero (by simp [eAtom]) (by simp) ?_
  intro i hs t m hi hh
  have hle := hi.le
  by_cases hlt : i < bags.length
  · have hltp : i < ps.length := by omega
    have hwi := wr1 (i := i) (by omega)
    simp [hlt, hltp, s24_17, ]
    refine call_f (w_impl_isBag q bags[i]) (by simp [eQuery]) rfl fun hs3 hh3 => ?_
    simp at hh3
    cases h4 : bagI q.n bags[i]
    · simp [decOk_b (q := q) (d := ⟨bags, ps⟩) hlt h4]
    simp [hwi, s24_17, ]
    exact back (i + 1) (hi.step hlt h4) (by omega) rfl (by simp <;> omega) (by simp) (by simp)
  have hbags := hi.done (by omega)
  have hlp : ¬ i < ps.length := by omega
  simp [hlt, hlp, s24_17, ]
  refine loop_rule (X := Nat) (ToI (anyIn bags) q.atoms) (fun i => [(2, .ptr 2 0 0), (5, .ptr 5 0 0), (46, .d (.pl (q.atoms.map eAtom))), (47, .d (.int .i64 q.atoms.length)), (48, .d (.int .i64 i))])
    (fun _ => [(2, some (.box [.d (.int .i64 q.n), .d (.pl (q.atoms.map eAtom)), .d (.pl (q.out.map cI))])), (5, some (.box [.d (.pl (bags.map (cP cI))), .d (.pl (ps.map cI))]))]) (fun i => q.atoms.length - i) 0 .zero (by simp) (by simp) ?_
  intro i hs t m hi hh
  have hle := hi.le
  have hat4 : q.atoms.length ≤ 4 := by
    cases h2 : inR (q.atoms.length : Int) 1 4
    · rw [queryOk_a h2] at h1; cases h1
    · simp only [inR, Bool.and_eq_true, decide_eq_true_eq] at h2; omega
  by_cases hlt : i < q.atoms.length
  · have hwi := wr1 (i := i) (by omega)
    obtain ⟨nm, vs, hT⟩ : ∃ nm vs, q.atoms[i] = ⟨nm, vs⟩ := ⟨_, _, rfl⟩
    have hav : (avars ⟨nm, vs⟩).length ≤ 5 := avTo_len ⟨nm, vs⟩ 5
    have hall : anyTo (insI ⟨nm, vs⟩) bags bags.length = anyIn bags q.atoms[i] := by rw [anyTo_all (Nat.le_refl _), hT]; rfl
    simp [hlt, hT, eAtom, s24_17, ]
    refine loop_rule (X := Nat) (fun j => j ≤ bags.length) (fun j => [(2, .ptr 2 0 0), (5, .ptr 5 0 0), (9, .ptr 9 0 0), (10, .d (.bool (anyTo (insI ⟨nm, vs⟩) bags j))), (46, .d (.pl (q.atoms.map eAtom))), (47, .d (.int .i64 q.atoms.length)), (48, .d (.int .i64 i)), (53, .d (.pl (bags.map (cP cI)))), (54, .d (.int .i64 bags.length)), (55, .d (.int .i64 j))])
      (fun _ => [(2, some (.box [.d (.int .i64 q.n), .d (.pl (q.atoms.map eAtom)), .d (.pl (q.out.map cI))])), (5, some (.box [.d (.pl (bags.map (cP cI))), .d (.pl (ps.map cI))])), (9, some (.box [.d (.str nm), .d (.pl (vs.map cI))]))]) (fun j => bags.length - j) 0 (by simp) (by simp [anyTo_zero]) (by simp) ?_
    intro j hs t m hj hh
    by_cases hjt : j < bags.length
    · have hwj := wr1 (i := j) (by omega)
      have hst := anyTo_step (f := insI ⟨nm, vs⟩) hjt
      refine anyQ fun Q => ?_
      cases h6 : anyTo (insI ⟨nm, vs⟩) bags j
      · rw [h6, Bool.false_or] at hst
        simp [hjt, s24_17, ]
        refine call_p (w_impl_AtomVariables ⟨nm, vs⟩) (by simp [eAtom]) fun hs5 hh5 hl5 => ?_
        simp at hh5
        simp [s24_17, ]
        refine call_p (w_impl_common (avars ⟨nm, vs⟩) bags[j] (by omega)) (by simp) fun hs6 hh6 hl6 => ?_
        simp at hh6
        simp [s24_17, ]
        refine call_p (w_impl_AtomVariables ⟨nm, vs⟩) (by simp [eAtom]) fun hs7 hh7 hl7 => ?_
        simp at hh7
        by_cases h7 : (commL (avars ⟨nm, vs⟩) bags[j]).length = (avars ⟨nm, vs⟩).length
        · have e : insI ⟨nm, vs⟩ bags[j] = true := by rw [insI, decide_eq_true h7]
          rw [e] at hst
          simp [h7, hwj, s24_17, ]
          exact back (j + 1) (by omega) (by omega) rfl (by simp <;> omega) (by simp [hst]) (by simp)
        · have e : insI ⟨nm, vs⟩ bags[j] = false := by rw [insI, decide_eq_false h7]
          rw [e] at hst
          simp [h7, hwj, s24_17, ]
          exact back (j + 1) (by omega) (by omega) rfl (by simp <;> omega) (by simp [hst]) (by simp)
      · rw [h6, Bool.true_or] at hst
        simp [hjt, hwj, s24_17, ]
        exact back (j + 1) (by omega) (by omega) rfl (by simp <;> omega) (by simp [hst]) (by simp)
    · have hjn : j = bags.length := by omega
      subst hjn
      cases h7 : anyIn bags q.atoms[i]
      · rw [h7] at hall
        simp [hall, decOk_a (q := q) (d := ⟨bags, ps⟩) hlt h7, s24_17, ]
      · rw [h7] at hall
        simp [hall, hwi, s24_17, ]
        exact back (i + 1) (hi.step hlt h7) (by omega) rfl (by simp <;> omega) (by simp) (by simp)
  have hats := hi.done (by omega)
  simp [hlt, s24_17, ]
  refine loop_rule (X := Nat) (VarI ⟨bags, ps⟩ q.n.toNat) (fun v => [(2, .ptr 2 0 0), (5, .ptr 5 0 0), (13, .d (.int .i64 v))]) (fun _ => [(2, some (.box [.d (.int .i64 q.n), .d (.pl (q.atoms.map eAtom)), .d (.pl (q.out.map cI))])), (5, some (.box [.d (.pl (bags.map (cP cI))), .d (.pl (ps.map cI))]))]) (fun v => q.n.toNat - v) 0 .zero (by simp) (by simp) ?_
  intro v hs t m hv hh
  have hvn := hv.le
  by_cases hvt : v < q.n.toNat
  · have hwv := wr1 (i := v) (by omega)
    have hvt' : (v : Int) < q.n := by omega
    simp [hvt', s24_17, ]
    refine call_f (w_impl_topsOf bags ps v h2 hpar) (by simp) rfl fun hs5 hh5 => ?_
    simp at hh5
    by_cases h7 : topN bags ps (v : Int) bags.length = 1
    · simp [h7, hwv, s24_17, ]
      exact back (v + 1) (hv.step hvt h7) (by omega) rfl (by simp <;> omega) (by simp) (by simp)
    · have h7' : ¬ (topN bags ps (v : Int) bags.length : Int) = 1 := by omega
      simp [h7', h7, decOk_v (q := q) (d := ⟨bags, ps⟩) hvt h7, s24_17, ]
  · have hvs := hv.done (by omega)
    have hvt' : ¬ (v : Int) < q.n := by omega
    simp [hvt', decOk_all (q := q) (d := ⟨bags, ps⟩) h1 h2 h3 hbags hats hvs, s24_17, ]
theorem w_spec_IsValidDecomposition (q : PQuery) (d : PDec) (hst : ∀ a ∈ q.atoms, a.rel.length ≤ maxLen) (hb : d.par.length ≤ 4294967296) : VC Try.prog 23 [.agg ((eQuery q).map V.d), .agg ((eDec d).map V.d)] (fun _ r => r = .d (.bool (decOk q d))) := by
  refine VC.ofL EP s23 (by kernel_rfl) Try.func23 (by rfl) (by kernel_rfl) (by simp [Try.f23]) (by simp [Try.f23]) s23_ok fun B hl => ?_
  obtain ⟨bags, ps⟩ := d
  simp only at hb
  simp [Try.f23, s23_8, s23_17, s23_27, s23_8, s23_17, s23_27, eQuery, eDec]
  refine call_f (w_spec_IsValidQuery q hst) (by simp [eQuery]) rfl fun hs1 hh1 => ?_
  simp at hh1
  cases h1 : queryOk q
  · simp [decOk_q (d := ⟨bags, ps⟩) h1, s23_8, s23_17, s23_27, ]
  have hn := queryOk_n5 h1
  by_cases h2 : bags.length = ps.length
  case neg => simp [show ¬ ps.length = bags.length from fun h => h2 h.symm, decOk_l (q := q) (d := ⟨bags, ps⟩) h2, s23_8, s23_17, s23_27, ]
  have h2' : ps.length = bags.length := h2.symm
  simp [h2', s23_8, s23_17, s23_27, ]
  refine call_f (w_spec_JoinTreeRoot ps) (by simp) rfl fun hs2 hh2 => ?_
  simp at hh2
  by_cases h3 : rootS ps < 0
  · simp [h3, decOk_r (q := q) (d := ⟨bags, ps⟩) h3, s23_8, s23_17, s23_27, ]
  simp [h3, s23_8, s23_17, s23_27, ]
  refine loop_rule (X := Nat) (PlI q ⟨bags, ps⟩) (fun i => [(2, .ptr 2 0 0), (3, .ptr 3 0 0), (5, .ptr 5 0 0), (6, .d (.int .i64 i))]) (fun _ => [(2, some (.box [.d (.int .i64 q.n), .d (.pl (q.atoms.map eAtom)), .d (.pl (q.out.map cI))])), (3, some (.box [.d (.pl (bags.map (cP cI))), .d (.pl (ps.map cI))])), (5, some (.box [.d (.pl (ps.map cI))]))]) (fun i => bags.length - i) 0 .zero (by simp) (by simp) ?_
  intro i hs t m hi hh
  have hle : i ≤ bags.length := hi.le
  by_cases hlt : i < bags.length
  · have hltp : i < ps.length := by omega
    have hwi := wr1 (i := i) (by omega)
    have hbad : placeOk q ⟨bags, ps⟩ i = false → decOk q ⟨bags, ps⟩ = false := decOk_p (d := ⟨bags, ps⟩) h2 hlt
    have hpo : placeOk q ⟨bags, ps⟩ i = (bagS q.n bags[i] && pathOk ps i) := by rw [placeOk]; simp only; rw [getD_el _ hlt]
    obtain ⟨P, hP⟩ : ∃ P, P = pathS ps (ps.length + 1) i := ⟨_, rfl⟩
    have hPl : 0 < P.length := by rw [hP]; exact path_ne hltp
    have hPo : pathOk ps i = (decide (P.length ≤ ps.length) && decide (lastZ P = rootS ps)) := by rw [pathOk, ← hP]
    have hPle : P.length ≤ ps.length + 1 := by
      have hx : ∀ (m : Nat) (k : Int), (pathS ps m k).length ≤ m := fun m => by
        induction m with
        | zero => intro k; simp [pathS]
        | succ m ih =>
          intro k
          by_cases hc : inR k 0 (ps.length - 1) = true
          · rw [path_yes hc]; have := ih (nxP ps k); simp; omega
          · rw [path_out hc]; simp
      rw [hP]; exact hx _ _
    simp [hlt, s23_8, s23_17, s23_27, ]
    refine call_p (w_spec_l10Path ps i hb) (by simp) fun hs3 hh3 hl3 => ?_
    simp at hh3
    rw [← hP]
    simp [hlt, s23_8, s23_17, s23_27, ]
    refine call_f (w_spec_l30Bag q bags[i]) (by simp [eQuery]) rfl fun hs4 hh4 => ?_
    simp at hh4
    cases h4 : bagS q.n bags[i]
    · simp [hbad (by rw [hpo, h4, Bool.false_and]), s23_8, s23_17, s23_27, ]
    by_cases h5 : ps.length < P.length
    · have h5' : ¬ P.length ≤ ps.length := by omega
      simp [h5, ← h2', hbad (by rw [hpo, hPo, decide_eq_false h5']; simp), s23_8, s23_17, s23_27, ]
    have h5' : P.length ≤ ps.length := by omega
    have hwl : IntKind.i64.wrap ((P.length : Int) - 1) = ((P.length - 1 : Nat) : Int) := by rw [wrap64_of (by omega) (by omega)]; omega
    have hll : P.length - 1 < P.length := by omega
    have hla : lastZ P = P[P.length - 1] := by rw [lastZ, getD_el _ hll]
    simp [h5, ← h2', hwl, hll, s23_8, s23_17, s23_27, ]
    refine call_f (w_spec_JoinTreeRoot ps) (by simp) rfl fun hs5 hh5 => ?_
    simp at hh5
    by_cases h6 : P[P.length - 1] = rootS ps
    · have hok : placeOk q ⟨bags, ps⟩ i = true := by rw [hpo, hPo, h4, decide_eq_true h5', hla, decide_eq_true h6]; rfl
      simp [h6, hwi, s23_8, s23_17, s23_27, ]
      exact back (i + 1) (hi.step hlt hok) (by omega) rfl (by simp <;> omega) (by simp) (by simp)
    · simp [h6, hbad (by rw [hpo, hPo, hla, decide_eq_false h6]; simp), s23_8, s23_17, s23_27, ]
  obtain ⟨h3t, hbags⟩ := places (q := q) (d := ⟨bags, ps⟩) h2 (by show 0 ≤ rootS ps; omega) (hi.done (by show bags.length ≤ i; omega))
  simp only at h3t hbags
  have hpar := tree_par h3t
  simp [hlt, s23_8, s23_17, s23_27, ]
  refine loop_rule (X := Nat) (ToI (anyIn bags) q.atoms) (fun i => [(2, .ptr 2 0 0), (3, .ptr 3 0 0), (5, .ptr 5 0 0), (8, .d (.int .i64 i))]) (fun _ => [(2, some (.box [.d (.int .i64 q.n), .d (.pl (q.atoms.map eAtom)), .d (.pl (q.out.map cI))])), (3, some (.box [.d (.pl (bags.map (cP cI))), .d (.pl (ps.map cI))])), (5, some (.box [.d (.pl (ps.map cI))]))]) (fun i => q.atoms.length - i) 0 .zero (by simp) (by simp) ?_
  intro i hs t m hi hh
  have hle := hi.le
  have hat4 : q.atoms.length ≤ 4 := by
    cases h2 : inR (q.atoms.length : Int) 1 4
    · rw [queryOk_a h2] at h1; cases h1
    · simp only [inR, Bool.and_eq_true, decide_eq_true_eq] at h2; omega
  by_cases hlt : i < q.atoms.length
  · have hwi := wr1 (i := i) (by omega)
    obtain ⟨nm, vs, hT⟩ : ∃ nm vs, q.atoms[i] = ⟨nm, vs⟩ := ⟨_, _, rfl⟩
    have hall : anyTo (insD ⟨nm, vs⟩) bags bags.length = anyIn bags q.atoms[i] := by
      rw [anyTo_all (Nat.le_refl _), ← any_ins h1 (List.getElem_mem hlt), hT]
    simp [hlt, s23_8, s23_17, s23_27, ]
    refine loop_rule (X := Nat) (fun j => j ≤ bags.length) (fun j => [(2, .ptr 2 0 0), (3, .ptr 3 0 0), (5, .ptr 5 0 0), (8, .d (.int .i64 i)), (9, .d (.bool (anyTo (insD ⟨nm, vs⟩) bags j))), (10, .d (.int .i64 j))]) (fun _ => [(2, some (.box [.d (.int .i64 q.n), .d (.pl (q.atoms.map eAtom)), .d (.pl (q.out.map cI))])), (3, some (.box [.d (.pl (bags.map (cP cI))), .d (.pl (ps.map cI))])), (5, some (.box [.d (.pl (ps.map cI))]))]) (fun j => bags.length - j) 0 (by simp) (by simp [anyTo_zero]) (by simp) ?_
    intro j hs t m hj hh
    by_cases hjt : j < bags.length
    · have hwj := wr1 (i := j) (by omega)
      have hst := anyTo_step (f := insD ⟨nm, vs⟩) hjt
      refine anyQ fun Q => ?_
      cases h6 : anyTo (insD ⟨nm, vs⟩) bags j
      · rw [h6, Bool.false_or] at hst
        simp [hjt, hlt, hT, eAtom, s23_8, s23_17, s23_27, ]
        refine call_f (w_spec_l30Within ⟨nm, vs⟩ bags[j]) (by simp [eAtom]) rfl fun hs5 hh5 => ?_
        simp at hh5
        simp [hwj, s23_8, s23_17, s23_27, ]
        exact back (j + 1) (by omega) (by omega) rfl (by simp <;> omega) (by simp [hst]) (by simp)
      · rw [h6, Bool.true_or] at hst
        simp [hjt, hwj, s23_8, s23_17, s23_27, ]
        exact back (j + 1) (by omega) (by omega) rfl (by simp <;> omega) (by simp [hst]) (by simp)
    · have hjn : j = bags.length := by omega
      subst hjn
      cases h7 : anyIn bags q.atoms[i]
      · rw [h7] at hall
        simp [hall, decOk_a (q := q) (d := ⟨bags, ps⟩) hlt h7, s23_8, s23_17, s23_27, ]
      · rw [h7] at hall
        simp [hall, hwi, s23_8, s23_17, s23_27, ]
        exact back (i + 1) (hi.step hlt h7) (by omega) rfl (by simp <;> omega) (by simp) (by simp)
  have hats := hi.done (by omega)
  simp [hlt, s23_8, s23_17, s23_27, ]
  refine loop_rule (X := Nat) (VarI ⟨bags, ps⟩ q.n.toNat) (fun v => [(2, .ptr 2 0 0), (3, .ptr 3 0 0), (5, .ptr 5 0 0), (11, .d (.int .i64 v))]) (fun _ => [(2, some (.box [.d (.int .i64 q.n), .d (.pl (q.atoms.map eAtom)), .d (.pl (q.out.map cI))])), (3, some (.box [.d (.pl (bags.map (cP cI))), .d (.pl (ps.map cI))])), (5, some (.box [.d (.pl (ps.map cI))]))]) (fun v => q.n.toNat - v) 0 .zero (by simp) (by simp) ?_
  intro v hs t m hv hh
  have hvn := hv.le
  by_cases hvt : v < q.n.toNat
  case neg =>
    have hvs := hv.done (by omega)
    have hvt' : ¬ (v : Int) < q.n := by omega
    simp [hvt', decOk_all (q := q) (d := ⟨bags, ps⟩) h1 h2 h3t hbags hats hvs, s23_8, s23_17, s23_27, ]
  have hwv := wr1 (i := v) (by omega)
  have hvt' : (v : Int) < q.n := by omega
  simp [hvt', s23_8, s23_17, s23_27, ]
  refine loop_rule (X := Nat) (fun j => j ≤ bags.length) (fun j => [(2, .ptr 2 0 0), (3, .ptr 3 0 0), (5, .ptr 5 0 0), (11, .d (.int .i64 v)), (12, .d (.int .i64 (topN bags ps v j))), (13, .d (.int .i64 j))]) (fun _ => [(2, some (.box [.d (.int .i64 q.n), .d (.pl (q.atoms.map eAtom)), .d (.pl (q.out.map cI))])), (3, some (.box [.d (.pl (bags.map (cP cI))), .d (.pl (ps.map cI))])), (5, some (.box [.d (.pl (ps.map cI))]))]) (fun j => bags.length - j) 0 (by simp) (by simp [topN]) (by simp) ?_
  intro j hs t m hj hh
  by_cases hjt : j < bags.length
  · have hwj := wr1 (i := j) (by omega)
    have hlp : j < ps.length := by omega
    have hst := topN_step bags ps v j
    have htl := topN_le bags ps v j
    have hwt : IntKind.i64.wrap ((topN bags ps v j : Int) + 1) = topN bags ps v j + 1 := wrap64_of (by omega) (by omega)
    have hpi := hpar j hlp
    have hg1 := idxL_ge bags[j] (v : Int)
    refine anyQ fun Q => ?_
    simp [hjt, s23_8, s23_17, s23_27, ]
    refine call_f (w_spec_l7Find bags[j] v) (by simp) rfl fun hs3 hh3 => ?_
    simp at hh3
    by_cases g1 : (v : Int) ∈ bags[j]
    case neg =>
      have e : topIs bags ps v j = false := by rw [topIs, getD_el _ hjt]; simp [g1]
      rw [e] at hst
      simp only [Bool.false_eq_true, if_false, Nat.add_zero] at hst
      have g2 : ¬ 0 ≤ idxL bags[j] (v : Int) := by simpa [g1] using hg1
      simp [g2, hwj, s23_8, s23_17, s23_27, ]
      exact back (j + 1) (by omega) (by omega) rfl (by simp <;> omega) (by simp [hst]) (by simp)
    have g2 : 0 ≤ idxL bags[j] (v : Int) := by simpa [g1] using hg1
    by_cases g3 : ps[j] = -1
    · have e : topIs bags ps v j = true := by rw [topIs, getD_el _ hjt, getD_el _ hlp]; simp [g1, g3]
      rw [e] at hst
      simp only [if_true] at hst
      simp [g2, g3, hlp, hwj, hwt, s23_8, s23_17, s23_27, ]
      exact back (j + 1) (by omega) (by omega) rfl (by simp <;> omega) (by simp [hst]) (by simp)
    obtain ⟨A, hA⟩ : ∃ A : Nat, ps[j] = (A : Int) := ⟨ps[j].toNat, by omega⟩
    have hAl : A < bags.length := by omega
    have hA1 : ¬ (A : Int) = -1 := by omega
    have hA2 : ¬ (A : Int) < 0 := by omega
    have hg4 := idxL_ge bags[A] (v : Int)
    simp [g2, hA, hA1, hAl, hlp, hjt, s23_8, s23_17, s23_27, ]
    refine call_f (w_spec_l7Find bags[A] v) (by simp) rfl fun hs4 hh4 => ?_
    simp at hh4
    by_cases g4 : (v : Int) ∈ bags[A]
    · have e : topIs bags ps v j = false := by rw [topIs, getD_el _ hjt, getD_el _ hlp, hA, Int.toNat_natCast, getD_el _ hAl]; simp [g1, g4]
      rw [e] at hst
      simp only [Bool.false_eq_true, if_false, Nat.add_zero] at hst
      have g5 : ¬ idxL bags[A] (v : Int) < 0 := by have : 0 ≤ idxL bags[A] (v : Int) := by simpa [g4] using hg4
                                                   omega
      simp [g5, hA1, hwj, s23_8, s23_17, s23_27, ]
      exact back (j + 1) (by omega) (by omega) rfl (by simp <;> omega) (by simp [hst]) (by simp)
    · have e : topIs bags ps v j = true := by rw [topIs, getD_el _ hjt, getD_el _ hlp, hA, Int.toNat_natCast, getD_el _ hAl]; simp [g1, g4]
      rw [e] at hst
      simp only [if_true] at hst
      have g5 : idxL bags[A] (v : Int) < 0 := by have : ¬ 0 ≤ idxL bags[A] (v : Int) := by simpa [g4] using hg4
                                                 omega
      simp [g5, hA1, hwj, hwt, s23_8, s23_17, s23_27, ]
      exact back (j + 1) (by omega) (by omega) rfl (by simp <;> omega) (by simp [hst]) (by simp)
  · have hjn : j = bags.length := by omega
    subst hjn
    by_cases h7 : topN bags ps (v : Int) bags.length = 1
    · simp [h7, hwv, s23_8, s23_17, s23_27, ]
      exact back (v + 1) (hv.step hvt h7) (by omega) rfl (by simp <;> omega) (by simp) (by simp)
    · have h7' : ¬ (topN bags ps (v : Int) bags.length : Int) = 1 := by omega
      simp [h7', h7, decOk_v (q := q) (d := ⟨bags, ps⟩) hvt h7, s23_8, s23_17, s23_27, ]
end

end Go.Proofs.Ytmifoeaifdmgkaa

namespace Go.Proofs.Ytmifoeaifdmgkaa
open Go.Vs Go.Proofs Go
set_option maxRecDepth 100000
set_option maxHeartbeats 1000000

theorem w_laws_FnExactIsValidDecomposition (a : Query) (b : Dec) (k_a : okQuery a) (k_b : okDec b) :
   VC Try.prog 5 [.agg ((cQuery a).map V.d), .agg ((cDec b).map V.d)] (fun _ r => r = .d (.bool true)) := by
  refine VC.of E s5 (by kernel_rfl) Try.func5 (by rfl) (by kernel_rfl) (by simp [Try.f5]) (by simp [Try.f5]) s5_ok fun B => ?_
  simp [Try.f5, s5_8, s5_14, s5_16, s5_8, s5_14, s5_16, cDec, cI, cQuery, cS, cI, cS]
  refine call_pure (w_laws_szQuery a _ (by omega) (by omega) k_a) rfl (by simp) rfl fun hz_a zz_a => ?_
  simp at zz_a
  by_cases s_a : (swQuery a : Int) ≤ 1048576
  case neg =>
    rw [szv_neg (by omega)]; simp
    all_goals exact fun h => absurd h (by decide)
  rw [szv_pos s_a]
  simp [show ¬ (1048576 : Int) - swQuery a < 0 by omega, show ¬ (1048576 : Int) < swQuery a by omega, s_a, s5_8, s5_14, s5_16, cDec, cI, cQuery, cS, cI, cS]
  refine call_pure (w_laws_szDecomposition b _ (by omega) (by omega) k_b) rfl (by simp) rfl fun hz_b zz_b => ?_
  simp at zz_b
  by_cases s_b : (swDec b : Int) ≤ 1048576 - swQuery a
  case neg =>
    rw [szv_neg (by omega)]; simp
    all_goals exact fun h => absurd h (by decide)
  rw [szv_pos s_b]
  simp [show ¬ (1048576 - swQuery a : Int) - swDec b < 0 by omega, show ¬ (1048576 - swQuery a : Int) < swDec b by omega, s_b, s5_8, s5_14, s5_16, cDec, cI, cQuery, cS, cI, cS]
  have hln : ∀ y : Dec, plDec y = plDec b → (plDec y).par.length ≤ 4294967296 := fun y h => by
    rw [h]
    have h2 : swDec b = swS (swS swI) b.bags + swS swI b.par := rfl
    have h3 : swS swI b.par = b.par.xs.length := sw_ints b.par
    simp only [plDec, plS, List.length_map]
    omega
  refine call_some (w_laws_toQuery a k_a (by omega)) rfl (by simp) fun n1 hs1 r1 hn1 hm1 hp1 hr1 => ?_
  obtain ⟨y1, rfl, p1, k1, G1⟩ := hp1
  clear G1 hr1
  simp at hn1
  simp [s5_8, s5_14, s5_16, cDec, cI, cQuery, cS, cI, cS]
  refine call_some (w_laws_toDecomposition b k_b (by omega)) rfl (by simp) fun n2 hs2 r2 hn2 hm2 hp2 hr2 => ?_
  obtain ⟨y2, rfl, p2, k2, G2⟩ := hp2
  clear G2 hr2
  simp at hn2
  simp [s5_8, s5_14, s5_16, cDec, cI, cQuery, cS, cI, cS]
  refine call_f (VC.to (w_spec_IsValidDecomposition (plQuery y1) (plDec y2) (okQuery_strs k1) (hln _ p2)) (show _ = V.d (.bool (decOk (plQuery a) (plDec b))) by rw [p1, p2])) (by simp [er_I, er_SI, er_Str, er_File, er_Tab, er_Db, er_Delta, er_Atom, er_VRel, eDec, eQuery, plDec, plI, plQuery, cP, pS, plI]) rfl fun hs3 hh3 => ?_
  simp at hh3
  simp [s5_8, s5_14, s5_16, cDec, cI, cQuery, cS, cI, cS]
  refine call_some (w_laws_toQuery a k_a (by omega)) rfl (by simp) fun n4 hs4 r4 hn4 hm4 hp4 hr4 => ?_
  obtain ⟨y4, rfl, p4, k4, G4⟩ := hp4
  clear G4 hr4
  simp at hn4
  simp [s5_8, s5_14, s5_16, cDec, cI, cQuery, cS, cI, cS]
  refine call_some (w_laws_toDecomposition b k_b (by omega)) rfl (by simp) fun n5 hs5 r5 hn5 hm5 hp5 hr5 => ?_
  obtain ⟨y5, rfl, p5, k5, G5⟩ := hp5
  clear G5 hr5
  simp at hn5
  simp [s5_8, s5_14, s5_16, cDec, cI, cQuery, cS, cI, cS]
  refine call_f (VC.to (w_impl_IsValidDecomposition (plQuery y4) (plDec y5) (hln _ p5)) (show _ = V.d (.bool (decOk (plQuery a) (plDec b))) by rw [p4, p5])) (by simp [er_I, er_SI, er_Str, er_File, er_Tab, er_Db, er_Delta, er_Atom, er_VRel, eDec, eQuery, plDec, plI, plQuery, cP, pS, plI]) rfl fun hs6 hh6 => ?_
  simp at hh6
  simp [s5_8, s5_14, s5_16, cDec, cI, cQuery, cS, cI, cS]
  refine call_some (w_laws_toQuery a k_a (by omega)) rfl (by simp) fun n7 hs7 r7 hn7 hm7 hp7 hr7 => ?_
  obtain ⟨y7, rfl, p7, k7, G7⟩ := hp7
  clear G7 hr7
  simp at hn7
  simp [s5_8, s5_14, s5_16, cDec, cI, cQuery, cS, cI, cS]
  refine call_pure (w_laws_eqQuery y4 y7 k4) rfl (by simp) rfl fun hs8 hh8 => ?_
  simp at hh8
  simp [s5_8, s5_14, s5_16, cDec, cI, cQuery, cS, cI, cS, p4, p7]
  refine call_some (w_laws_toDecomposition b k_b (by omega)) rfl (by simp) fun n9 hs9 r9 hn9 hm9 hp9 hr9 => ?_
  obtain ⟨y9, rfl, p9, k9, G9⟩ := hp9
  clear G9 hr9
  simp at hn9
  simp [s5_8, s5_14, s5_16, cDec, cI, cQuery, cS, cI, cS]
  refine call_pure (w_laws_eqDecomposition y5 y9 k5) rfl (by simp) rfl fun hs10 hh10 => ?_
  simp at hh10
  simp [s5_8, s5_14, s5_16, cDec, cI, cQuery, cS, cI, cS, p5, p9]

end Go.Proofs.Ytmifoeaifdmgkaa
