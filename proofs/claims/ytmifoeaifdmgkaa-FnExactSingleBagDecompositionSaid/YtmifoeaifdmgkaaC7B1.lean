/-
  C7B1: a part of a proof of this seat: the value-level semantics of Go code without maps, its walk rules, the frame of a row, facts of types, schedules, walks, plain lemmas (Facts1 Sched1 H0 HP1 HP2 H1 HP3 P1 Q1 Q2 Q3 P1b Q4 LS1). It holds of every program and state that its hypotheses name.
-/
import Derived.Test.YtmifoeaifdmgkaaA4
import Derived.Test.YtmifoeaifdmgkaaProg
import Derived.KernelRfl
set_option linter.unusedSimpArgs false
set_option linter.unusedVariables false
set_option linter.unnecessarySimpa false
namespace Go.Proofs.Ytmifoeaifdmgkaa
open Go.Vs Go.Proofs

theorem tsz3 : tsz Try.prog 3 = some 1 := by kernel_rfl
theorem tsz4 : tsz Try.prog 4 = some 1 := by kernel_rfl
theorem tsz5 : tsz Try.prog 5 = some 1 := by kernel_rfl
theorem tsz9 : tsz Try.prog 9 = some 1 := by kernel_rfl
theorem tsz22 : tsz Try.prog 22 = some 1 := by kernel_rfl
theorem tsz23 : tsz Try.prog 23 = some 1 := by kernel_rfl
theorem tsz25 : tsz Try.prog 25 = some 2 := by kernel_rfl
theorem tsz28 : tsz Try.prog 28 = some 2 := by kernel_rfl
theorem tsz32 : tsz Try.prog 32 = some 1 := by kernel_rfl
theorem tsz34 : tsz Try.prog 34 = some 3 := by kernel_rfl
theorem tsz37 : tsz Try.prog 37 = some 1 := by kernel_rfl
theorem tsz39 : tsz Try.prog 39 = some 3 := by kernel_rfl
theorem tsz53 : tsz Try.prog 53 = some 1 := by kernel_rfl
theorem tsz55 : tsz Try.prog 55 = some 2 := by kernel_rfl
theorem tsz58 : tsz Try.prog 58 = some 1 := by kernel_rfl
theorem tsz60 : tsz Try.prog 60 = some 2 := by kernel_rfl
theorem tsz63 : tsz Try.prog 63 = some 1 := by kernel_rfl
theorem tsz66 : tsz Try.prog 66 = some 3 := by kernel_rfl
theorem tsz79 : tsz Try.prog 79 = some 2 := by kernel_rfl
theorem tsz97 : tsz Try.prog 97 = some 1 := by kernel_rfl
theorem tsz103 : tsz Try.prog 103 = some 2 := by kernel_rfl
theorem tsz115 : tsz Try.prog 115 = some 1 := by kernel_rfl
theorem tsz117 : tsz Try.prog 117 = some 1 := by kernel_rfl
theorem tsz138 : tsz Try.prog 138 = some 2 := by kernel_rfl
theorem tsz144 : tsz Try.prog 144 = some 1 := by kernel_rfl
theorem tsz146 : tsz Try.prog 146 = some 1 := by kernel_rfl
theorem tsz148 : tsz Try.prog 148 = some 3 := by kernel_rfl
theorem tsz166 : tsz Try.prog 166 = some 2 := by kernel_rfl
theorem tsz168 : tsz Try.prog 168 = some 3 := by kernel_rfl
theorem tagg3 : tagg Try.prog 3 = some false := by kernel_rfl
theorem tagg4 : tagg Try.prog 4 = some false := by kernel_rfl
theorem tagg5 : tagg Try.prog 5 = some false := by kernel_rfl
theorem tagg9 : tagg Try.prog 9 = some false := by kernel_rfl
theorem tagg22 : tagg Try.prog 22 = some false := by kernel_rfl
theorem tagg23 : tagg Try.prog 23 = some false := by kernel_rfl
theorem tagg25 : tagg Try.prog 25 = some true := by kernel_rfl
theorem tagg28 : tagg Try.prog 28 = some true := by kernel_rfl
theorem tagg32 : tagg Try.prog 32 = some false := by kernel_rfl
theorem tagg34 : tagg Try.prog 34 = some true := by kernel_rfl
theorem tagg37 : tagg Try.prog 37 = some false := by kernel_rfl
theorem tagg39 : tagg Try.prog 39 = some true := by kernel_rfl
theorem tagg53 : tagg Try.prog 53 = some false := by kernel_rfl
theorem tagg55 : tagg Try.prog 55 = some true := by kernel_rfl
theorem tagg58 : tagg Try.prog 58 = some false := by kernel_rfl
theorem tagg60 : tagg Try.prog 60 = some true := by kernel_rfl
theorem tagg63 : tagg Try.prog 63 = some false := by kernel_rfl
theorem tagg66 : tagg Try.prog 66 = some true := by kernel_rfl
theorem tagg79 : tagg Try.prog 79 = some true := by kernel_rfl
theorem tagg97 : tagg Try.prog 97 = some true := by kernel_rfl
theorem tagg103 : tagg Try.prog 103 = some true := by kernel_rfl
theorem tagg115 : tagg Try.prog 115 = some false := by kernel_rfl
theorem tagg117 : tagg Try.prog 117 = some true := by kernel_rfl
theorem tagg138 : tagg Try.prog 138 = some true := by kernel_rfl
theorem tagg144 : tagg Try.prog 144 = some false := by kernel_rfl
theorem tagg146 : tagg Try.prog 146 = some true := by kernel_rfl
theorem tagg148 : tagg Try.prog 148 = some true := by kernel_rfl
theorem tagg166 : tagg Try.prog 166 = some true := by kernel_rfl
theorem tagg168 : tagg Try.prog 168 = some true := by kernel_rfl
theorem tzero3 : tzero Try.prog 3 = some [.int .i64 0] := by kernel_rfl
theorem tzero4 : tzero Try.prog 4 = some [.bool false] := by kernel_rfl
theorem tzero23 : tzero Try.prog 23 = some [.sl none none []] := by kernel_rfl
theorem tzero28 : tzero Try.prog 28 = some [.sl none none [], .sl none none []] := by kernel_rfl
theorem tzero39 : tzero Try.prog 39 = some [.int .i64 0, .sl none none [], .sl none none []] := by kernel_rfl
theorem tzero60 : tzero Try.prog 60 = some [.int .i64 0, .sl none none []] := by kernel_rfl
theorem tzero66 : tzero Try.prog 66 = some [.int .i64 0, .sl none none [], .sl none none []] := by kernel_rfl
theorem tzero79 : tzero Try.prog 79 = some [.int .i64 0, .sl none none []] := by kernel_rfl
theorem tzero97 : tzero Try.prog 97 = some [.sl none none []] := by kernel_rfl
theorem tzero103 : tzero Try.prog 103 = some [.str [], .sl none none []] := by kernel_rfl
theorem tzero117 : tzero Try.prog 117 = some [.sl none none []] := by kernel_rfl
theorem tzero148 : tzero Try.prog 148 = some [.str [], .int .i64 0, .sl none none []] := by kernel_rfl
theorem tzero151 : tzero Try.prog 151 = some [.sl none none [], .int .i64 0, .int .i64 0] := by kernel_rfl
theorem tslice22 : tslice Try.prog 22 = some (23, 1, 24) := by kernel_rfl
theorem telem22 : telem Try.prog 22 = some 23 := by kernel_rfl
theorem tslice23 : tslice Try.prog 23 = some (3, 1, 8) := by kernel_rfl
theorem telem23 : telem Try.prog 23 = some 3 := by kernel_rfl
theorem tslice32 : tslice Try.prog 32 = some (138, 2, 40) := by kernel_rfl
theorem telem32 : telem Try.prog 32 = some 138 := by kernel_rfl
theorem tslice37 : tslice Try.prog 37 = some (103, 2, 40) := by kernel_rfl
theorem telem37 : telem Try.prog 37 = some 103 := by kernel_rfl
theorem tslice53 : tslice Try.prog 53 = some (146, 1, 24) := by kernel_rfl
theorem telem53 : telem Try.prog 53 = some 146 := by kernel_rfl
theorem tslice58 : tslice Try.prog 58 = some (117, 1, 24) := by kernel_rfl
theorem telem58 : telem Try.prog 58 = some 117 := by kernel_rfl
theorem tslice63 : tslice Try.prog 63 = some (5, 1, 1) := by kernel_rfl
theorem telem63 : telem Try.prog 63 = some 5 := by kernel_rfl
theorem tslice87 : tslice Try.prog 87 = some (9, 1, 16) := by kernel_rfl
theorem telem87 : telem Try.prog 87 = some 9 := by kernel_rfl
theorem tslice108 : tslice Try.prog 108 = some (4, 1, 1) := by kernel_rfl
theorem telem108 : telem Try.prog 108 = some 4 := by kernel_rfl
theorem tslice115 : tslice Try.prog 115 = some (148, 3, 48) := by kernel_rfl
theorem telem115 : telem Try.prog 115 = some 148 := by kernel_rfl
theorem tslice144 : tslice Try.prog 144 = some (168, 3, 48) := by kernel_rfl
theorem telem144 : telem Try.prog 144 = some 168 := by kernel_rfl
theorem tstr9 : tstr Try.prog 9 = some true := by kernel_rfl
theorem tstr22 : tstr Try.prog 22 = some false := by kernel_rfl
theorem tstr23 : tstr Try.prog 23 = some false := by kernel_rfl
theorem tstr32 : tstr Try.prog 32 = some false := by kernel_rfl
theorem tstr37 : tstr Try.prog 37 = some false := by kernel_rfl
theorem tstr53 : tstr Try.prog 53 = some false := by kernel_rfl
theorem tstr58 : tstr Try.prog 58 = some false := by kernel_rfl
theorem tstr63 : tstr Try.prog 63 = some false := by kernel_rfl
theorem tstr87 : tstr Try.prog 87 = some false := by kernel_rfl
theorem tstr108 : tstr Try.prog 108 = some false := by kernel_rfl
theorem tstr115 : tstr Try.prog 115 = some false := by kernel_rfl
theorem tstr144 : tstr Try.prog 144 = some false := by kernel_rfl
theorem tfld28 : tfld Try.prog 28 = true := by kernel_rfl
theorem tfld39 : tfld Try.prog 39 = true := by kernel_rfl
theorem tfld60 : tfld Try.prog 60 = true := by kernel_rfl
theorem tfld66 : tfld Try.prog 66 = true := by kernel_rfl
theorem tfld79 : tfld Try.prog 79 = true := by kernel_rfl
theorem tfld97 : tfld Try.prog 97 = true := by kernel_rfl
theorem tfld103 : tfld Try.prog 103 = true := by kernel_rfl
theorem tfld117 : tfld Try.prog 117 = true := by kernel_rfl
theorem tfld148 : tfld Try.prog 148 = true := by kernel_rfl
theorem tfld151 : tfld Try.prog 151 = true := by kernel_rfl
theorem foff25_0 : foff Try.prog 25 0 = some (0, 1) := by kernel_rfl
theorem foff25_1 : foff Try.prog 25 1 = some (1, 1) := by kernel_rfl
theorem foff28_0 : foff Try.prog 28 0 = some (0, 1) := by kernel_rfl
theorem foff28_1 : foff Try.prog 28 1 = some (1, 1) := by kernel_rfl
theorem foff34_0 : foff Try.prog 34 0 = some (0, 1) := by kernel_rfl
theorem foff34_1 : foff Try.prog 34 1 = some (1, 1) := by kernel_rfl
theorem foff34_2 : foff Try.prog 34 2 = some (2, 1) := by kernel_rfl
theorem foff39_0 : foff Try.prog 39 0 = some (0, 1) := by kernel_rfl
theorem foff39_1 : foff Try.prog 39 1 = some (1, 1) := by kernel_rfl
theorem foff39_2 : foff Try.prog 39 2 = some (2, 1) := by kernel_rfl
theorem foff55_0 : foff Try.prog 55 0 = some (0, 1) := by kernel_rfl
theorem foff55_1 : foff Try.prog 55 1 = some (1, 1) := by kernel_rfl
theorem foff60_0 : foff Try.prog 60 0 = some (0, 1) := by kernel_rfl
theorem foff60_1 : foff Try.prog 60 1 = some (1, 1) := by kernel_rfl
theorem foff66_0 : foff Try.prog 66 0 = some (0, 1) := by kernel_rfl
theorem foff66_1 : foff Try.prog 66 1 = some (1, 1) := by kernel_rfl
theorem foff66_2 : foff Try.prog 66 2 = some (2, 1) := by kernel_rfl
theorem foff79_0 : foff Try.prog 79 0 = some (0, 1) := by kernel_rfl
theorem foff79_1 : foff Try.prog 79 1 = some (1, 1) := by kernel_rfl
theorem foff97_0 : foff Try.prog 97 0 = some (0, 1) := by kernel_rfl
theorem foff103_0 : foff Try.prog 103 0 = some (0, 1) := by kernel_rfl
theorem foff103_1 : foff Try.prog 103 1 = some (1, 1) := by kernel_rfl
theorem foff117_0 : foff Try.prog 117 0 = some (0, 1) := by kernel_rfl
theorem foff138_0 : foff Try.prog 138 0 = some (0, 1) := by kernel_rfl
theorem foff138_1 : foff Try.prog 138 1 = some (1, 1) := by kernel_rfl
theorem foff146_0 : foff Try.prog 146 0 = some (0, 1) := by kernel_rfl
theorem foff148_0 : foff Try.prog 148 0 = some (0, 1) := by kernel_rfl
theorem foff148_1 : foff Try.prog 148 1 = some (1, 2) := by kernel_rfl
theorem foff151_0 : foff Try.prog 151 0 = some (0, 1) := by kernel_rfl
theorem foff151_1 : foff Try.prog 151 1 = some (1, 1) := by kernel_rfl
theorem foff151_2 : foff Try.prog 151 2 = some (2, 1) := by kernel_rfl
theorem foff166_0 : foff Try.prog 166 0 = some (0, 1) := by kernel_rfl
theorem foff166_1 : foff Try.prog 166 1 = some (1, 1) := by kernel_rfl
theorem foff168_0 : foff Try.prog 168 0 = some (0, 1) := by kernel_rfl
theorem foff168_1 : foff Try.prog 168 1 = some (1, 2) := by kernel_rfl
attribute [simp] tsz3 tsz4 tsz5 tsz9 tsz22 tsz23 tsz25 tsz28 tsz32 tsz34 tsz37 tsz39 tsz53 tsz55 tsz58 tsz60 tsz63 tsz66 tsz79 tsz97 tsz103 tsz115 tsz117 tsz138 tsz144 tsz146 tsz148 tsz166 tsz168 tagg3 tagg4 tagg5 tagg9 tagg22 tagg23 tagg25 tagg28 tagg32 tagg34 tagg37 tagg39 tagg53 tagg55 tagg58 tagg60 tagg63 tagg66 tagg79 tagg97 tagg103 tagg115 tagg117 tagg138 tagg144 tagg146 tagg148 tagg166 tagg168 tzero3 tzero4 tzero23 tzero28 tzero39 tzero60 tzero66 tzero79 tzero97 tzero103 tzero117 tzero148 tzero151 tslice22 telem22 tslice23 telem23 tslice32 telem32 tslice37 telem37 tslice53 telem53 tslice58 telem58 tslice63 telem63 tslice87 telem87 tslice108 telem108 tslice115 telem115 tslice144 telem144 tstr9 tstr22 tstr23 tstr32 tstr37 tstr53 tstr58 tstr63 tstr87 tstr108 tstr115 tstr144 tfld28 tfld39 tfld60 tfld66 tfld79 tfld97 tfld103 tfld117 tfld148 tfld151 foff25_0 foff25_1 foff28_0 foff28_1 foff34_0 foff34_1 foff34_2 foff39_0 foff39_1 foff39_2 foff55_0 foff55_1 foff60_0 foff60_1 foff66_0 foff66_1 foff66_2 foff79_0 foff79_1 foff97_0 foff103_0 foff103_1 foff117_0 foff138_0 foff138_1 foff146_0 foff148_0 foff148_1 foff151_0 foff151_1 foff151_2 foff166_0 foff166_1 foff168_0 foff168_1
end Go.Proofs.Ytmifoeaifdmgkaa

namespace Go.Proofs.Ytmifoeaifdmgkaa
open Go.Vs Go.Proofs Go

/-- the functions that write what they are handed -/
def E : Md := ⟨fun f => [20, 21, 29, 67, 68, 94, 95, 96, 98, 110, 135, 137, 142, 148].contains f, false⟩
/-- as E; slices are known by elements only -/
def EP : Md := ⟨E.e, true⟩
@[simp] theorem E_p : E.p = false := Eq.trans rfl rfl
@[simp] theorem EP_p : EP.p = true := Eq.trans rfl rfl

theorem E20 : E 20 = true := rfl
theorem EP20 : EP 20 = true := rfl
theorem E21 : E 21 = true := rfl
theorem EP21 : EP 21 = true := rfl
theorem E29 : E 29 = true := rfl
theorem EP29 : EP 29 = true := rfl
theorem E67 : E 67 = true := rfl
theorem EP67 : EP 67 = true := rfl
theorem E68 : E 68 = true := rfl
theorem EP68 : EP 68 = true := rfl
theorem E94 : E 94 = true := rfl
theorem EP94 : EP 94 = true := rfl
theorem E95 : E 95 = true := rfl
theorem EP95 : EP 95 = true := rfl
theorem E96 : E 96 = true := rfl
theorem EP96 : EP 96 = true := rfl
theorem E98 : E 98 = true := rfl
theorem EP98 : EP 98 = true := rfl
theorem E110 : E 110 = true := rfl
theorem EP110 : EP 110 = true := rfl
theorem E135 : E 135 = true := rfl
theorem EP135 : EP 135 = true := rfl
theorem E137 : E 137 = true := rfl
theorem EP137 : EP 137 = true := rfl
theorem E142 : E 142 = true := rfl
theorem EP142 : EP 142 = true := rfl
theorem E148 : E 148 = true := rfl
theorem EP148 : EP 148 = true := rfl
/-- the orders of laws.FnExactFormatDecomposition -/
def s3 (i : Nat) : Tr := if i = 10 then .seq [0, 1, 2, 3, 4] .nil else .nil
theorem s3_10 : s3 10 = .seq [0, 1, 2, 3, 4] .nil := rfl
theorem s3_ok : okCode E 27 s3 (Try.f3.body.getD .skip) = true := by kernel_rfl
/-- the orders of laws.FnExactSingleBagDecomposition -/
def s4 (i : Nat) : Tr := if i = 10 then .seq [0, 1, 2, 3, 4] .nil else .nil
theorem s4_10 : s4 10 = .seq [0, 1, 2, 3, 4] .nil := rfl
theorem s4_ok : okCode E 69 s4 (Try.f4.body.getD .skip) = true := by kernel_rfl
/-- the orders of laws.FnExactIsValidDecomposition -/
def s5 (i : Nat) : Tr := if i = 8 then .seq [0, 2, 1, 3, 4, 5] .nil else if i = 14 then .seq [0, 1, 2, 3, 4] .nil else if i = 16 then .seq [0, 1, 2, 3, 4] .nil else .nil
theorem s5_8 : s5 8 = .seq [0, 2, 1, 3, 4, 5] .nil := rfl
theorem s5_14 : s5 14 = .seq [0, 1, 2, 3, 4] .nil := rfl
theorem s5_16 : s5 16 = .seq [0, 1, 2, 3, 4] .nil := rfl
theorem s5_ok : okCode E 45 s5 (Try.f5.body.getD .skip) = true := by kernel_rfl
/-- the orders of laws.FnExactDecompositionFromOrder -/
def s6 (i : Nat) : Tr := if i = 13 then .seq [0, 1, 2, 3, 4] .nil else .nil
theorem s6_13 : s6 13 = .seq [0, 1, 2, 3, 4] .nil := rfl
theorem s6_ok : okCode E 117 s6 (Try.f6.body.getD .skip) = true := by kernel_rfl
/-- the orders of laws.FnExactEqualHistories -/
def s7 (i : Nat) : Tr := if i = 8 then .seq [0, 2, 1, 3, 4, 5] .nil else if i = 14 then .seq [0, 1, 2, 3, 4] .nil else if i = 16 then .seq [0, 1, 2, 3, 4] .nil else .nil
theorem s7_8 : s7 8 = .seq [0, 2, 1, 3, 4, 5] .nil := rfl
theorem s7_14 : s7 14 = .seq [0, 1, 2, 3, 4] .nil := rfl
theorem s7_16 : s7 16 = .seq [0, 1, 2, 3, 4] .nil := rfl
theorem s7_ok : okCode E 45 s7 (Try.f7.body.getD .skip) = true := by kernel_rfl
/-- the orders of laws.FnCountedRelations -/
def s8 (i : Nat) : Tr := if i = 7 then .seq [0, 1, 2, 3, 4, 5, 6, 7, 8, 9, 10, 11, 12, 13, 14, 15, 17, 16, 18, 19, 20] .nil else if i = 11 then .seq [0, 1] (.both (.seq [2] (.both (.seq [3, 4, 5, 6, 7, 8, 9] .nil) (.seq [7, 3, 4, 5, 6, 8, 9] .nil))) (.seq [7, 2, 3, 4, 5, 6, 8, 9] .nil)) else if i = 12 then .seq [0, 1] (.both (.seq [2] (.both (.seq [3, 4, 5, 6, 7, 8, 9] .nil) (.seq [7, 3, 4, 5, 6, 8, 9] .nil))) (.seq [7, 2, 3, 4, 5, 6, 8, 9] .nil)) else if i = 16 then .seq [0, 1, 2, 3, 4, 5, 7, 8, 9, 10, 11, 12, 13, 14, 15, 16, 17, 6, 18, 19, 20] .nil else .nil
theorem s8_7 : s8 7 = .seq [0, 1, 2, 3, 4, 5, 6, 7, 8, 9, 10, 11, 12, 13, 14, 15, 17, 16, 18, 19, 20] .nil := rfl
theorem s8_11 : s8 11 = .seq [0, 1] (.both (.seq [2] (.both (.seq [3, 4, 5, 6, 7, 8, 9] .nil) (.seq [7, 3, 4, 5, 6, 8, 9] .nil))) (.seq [7, 2, 3, 4, 5, 6, 8, 9] .nil)) := rfl
theorem s8_12 : s8 12 = .seq [0, 1] (.both (.seq [2] (.both (.seq [3, 4, 5, 6, 7, 8, 9] .nil) (.seq [7, 3, 4, 5, 6, 8, 9] .nil))) (.seq [7, 2, 3, 4, 5, 6, 8, 9] .nil)) := rfl
theorem s8_16 : s8 16 = .seq [0, 1, 2, 3, 4, 5, 7, 8, 9, 10, 11, 12, 13, 14, 15, 16, 17, 6, 18, 19, 20] .nil := rfl
theorem s8_ok : okCode E 132 s8 (Try.f8.body.getD .skip) = true := by kernel_rfl
/-- the orders of laws.FnCountedProjection -/
def s9 (i : Nat) : Tr := if i = 26 then .seq [0, 1, 2, 3, 4, 5, 6, 7, 8, 9, 10, 11, 12, 13, 14, 15, 16, 17, 18, 19, 20, 21, 22, 23, 24, 25, 26] .nil else .nil
theorem s9_26 : s9 26 = .seq [0, 1, 2, 3, 4, 5, 6, 7, 8, 9, 10, 11, 12, 13, 14, 15, 16, 17, 18, 19, 20, 21, 22, 23, 24, 25, 26] .nil := rfl
theorem s9_ok : okCode E 130 s9 (Try.f9.body.getD .skip) = true := by kernel_rfl
/-- the orders of laws.szDecomposition -/
def s10 (_ : Nat) : Tr := .nil
theorem s10_ok : okCode E 18 s10 (Try.f10.body.getD .skip) = true := by kernel_rfl
/-- the orders of spec.FormatDecomposition -/
def s11 (_ : Nat) : Tr := .nil
theorem s11_ok : okCode E 48 s11 (Try.f11.body.getD .skip) = true := by kernel_rfl
/-- the orders of laws.toDecomposition -/
def s12 (_ : Nat) : Tr := .nil
theorem s12_ok : okCode E 13 s12 (Try.f12.body.getD .skip) = true := by kernel_rfl
/-- the orders of impl.FormatDecomposition -/
def s13 (_ : Nat) : Tr := .nil
theorem s13_ok : okCode E 49 s13 (Try.f13.body.getD .skip) = true := by kernel_rfl
/-- the orders of laws.eqDecomposition -/
def s14 (_ : Nat) : Tr := .nil
theorem s14_ok : okCode E 17 s14 (Try.f14.body.getD .skip) = true := by kernel_rfl
/-- the orders of laws.szQuery -/
def s15 (_ : Nat) : Tr := .nil
theorem s15_ok : okCode E 18 s15 (Try.f15.body.getD .skip) = true := by kernel_rfl
/-- the orders of spec.SingleBagDecomposition -/
def s16 (_ : Nat) : Tr := .nil
theorem s16_ok : okCode E 12 s16 (Try.f16.body.getD .skip) = true := by kernel_rfl
/-- the orders of laws.toQuery -/
def s17 (_ : Nat) : Tr := .nil
theorem s17_ok : okCode E 16 s17 (Try.f17.body.getD .skip) = true := by kernel_rfl
/-- the orders of impl.SingleBagDecomposition -/
def s18 (_ : Nat) : Tr := .nil
theorem s18_ok : okCode E 12 s18 (Try.f18.body.getD .skip) = true := by kernel_rfl
/-- the orders of laws.eqQuery -/
def s19 (_ : Nat) : Tr := .nil
theorem s19_ok : okCode E 22 s19 (Try.f19.body.getD .skip) = true := by kernel_rfl
/-- the orders of laws.markQuery -/
def s20 (_ : Nat) : Tr := .nil
theorem s20_ok : okCode E 14 s20 (Try.f20.body.getD .skip) = true := by kernel_rfl
/-- the orders of laws.markDecomposition -/
def s21 (_ : Nat) : Tr := .nil
theorem s21_ok : okCode E 14 s21 (Try.f21.body.getD .skip) = true := by kernel_rfl
/-- the orders of laws.heldDecomposition -/
def s22 (_ : Nat) : Tr := .nil
theorem s22_ok : okCode E 18 s22 (Try.f22.body.getD .skip) = true := by kernel_rfl
/-- the orders of spec.IsValidDecomposition -/
def s23 (i : Nat) : Tr := if i = 8 then .seq [0, 1, 2, 3, 4, 5, 6, 7, 8, 9, 10, 11, 12, 13, 14, 15, 16, 17, 18, 19, 20, 21, 22, 23, 24, 25, 26] .nil else if i = 17 then .seq [0, 1, 2, 3, 4, 5, 6, 7, 8, 9, 10, 11, 12, 13, 14] .nil else if i = 27 then .seq [0, 1, 2, 3, 4, 5, 6, 7, 8, 9, 10, 11, 12, 13, 14, 15, 16, 17, 18, 19, 20, 21, 22, 23, 24, 25, 26, 27, 28, 29] .nil else .nil
theorem s23_8 : s23 8 = .seq [0, 1, 2, 3, 4, 5, 6, 7, 8, 9, 10, 11, 12, 13, 14, 15, 16, 17, 18, 19, 20, 21, 22, 23, 24, 25, 26] .nil := rfl
theorem s23_17 : s23 17 = .seq [0, 1, 2, 3, 4, 5, 6, 7, 8, 9, 10, 11, 12, 13, 14] .nil := rfl
theorem s23_27 : s23 27 = .seq [0, 1, 2, 3, 4, 5, 6, 7, 8, 9, 10, 11, 12, 13, 14, 15, 16, 17, 18, 19, 20, 21, 22, 23, 24, 25, 26, 27, 28, 29] .nil := rfl
theorem s23_ok : okCode E 148 s23 (Try.f23.body.getD .skip) = true := by kernel_rfl
/-- the orders of impl.IsValidDecomposition -/
def s24 (i : Nat) : Tr := if i = 17 then .seq [0, 1, 2, 4, 7, 3, 5, 6, 8, 9, 10, 11, 12] .nil else .nil
theorem s24_17 : s24 17 = .seq [0, 1, 2, 4, 7, 3, 5, 6, 8, 9, 10, 11, 12] .nil := rfl
theorem s24_ok : okCode E 88 s24 (Try.f24.body.getD .skip) = true := by kernel_rfl
/-- the orders of spec.DecompositionFromOrder -/
def s25 (i : Nat) : Tr := if i = 31 then .seq [0, 1, 2, 3, 4, 5, 6, 7, 8, 9, 10, 11, 12, 13, 14, 15, 16, 17, 18, 19, 20, 21, 22, 23, 24, 25, 26, 27, 28, 29, 30, 31, 32] .nil else .nil
theorem s25_31 : s25 31 = .seq [0, 1, 2, 3, 4, 5, 6, 7, 8, 9, 10, 11, 12, 13, 14, 15, 16, 17, 18, 19, 20, 21, 22, 23, 24, 25, 26, 27, 28, 29, 30, 31, 32] .nil := rfl
theorem s25_ok : okCode E 150 s25 (Try.f25.body.getD .skip) = true := by kernel_rfl
/-- the orders of laws.toIntS -/
def s26 (_ : Nat) : Tr := .nil
theorem s26_ok : okCode E 22 s26 (Try.f26.body.getD .skip) = true := by kernel_rfl
/-- the orders of impl.DecompositionFromOrder -/
def s27 (i : Nat) : Tr := if i = 14 then .seq [0, 1, 2, 3, 4, 5, 6, 7, 8, 9] .nil else if i = 15 then .seq [0, 1, 2, 4, 3, 5, 6, 7, 8, 9] .nil else .nil
theorem s27_14 : s27 14 = .seq [0, 1, 2, 3, 4, 5, 6, 7, 8, 9] .nil := rfl
theorem s27_15 : s27 15 = .seq [0, 1, 2, 4, 3, 5, 6, 7, 8, 9] .nil := rfl
theorem s27_ok : okCode E 109 s27 (Try.f27.body.getD .skip) = true := by kernel_rfl
/-- the orders of laws.eqIntS -/
def s28 (i : Nat) : Tr := if i = 6 then .seq [0, 1, 2, 3, 4, 5, 6, 7, 8] .nil else .nil
theorem s28_6 : s28 6 = .seq [0, 1, 2, 3, 4, 5, 6, 7, 8] .nil := rfl
theorem s28_ok : okCode E 26 s28 (Try.f28.body.getD .skip) = true := by kernel_rfl
/-- the orders of laws.markIntS -/
def s29 (_ : Nat) : Tr := .nil
theorem s29_ok : okCode E 19 s29 (Try.f29.body.getD .skip) = true := by kernel_rfl
/-- the orders of laws.szHistory -/
def s30 (_ : Nat) : Tr := .nil
theorem s30_ok : okCode E 12 s30 (Try.f30.body.getD .skip) = true := by kernel_rfl
/-- the orders of spec.EqualHistories -/
def s31 (i : Nat) : Tr := if i = 6 then .seq [0, 1, 2, 3, 4, 5, 6, 7, 8, 9, 10, 11] .nil else .nil
theorem s31_6 : s31 6 = .seq [0, 1, 2, 3, 4, 5, 6, 7, 8, 9, 10, 11] .nil := rfl
theorem s31_ok : okCode E 39 s31 (Try.f31.body.getD .skip) = true := by kernel_rfl
/-- the orders of laws.toHistory -/
def s32 (_ : Nat) : Tr := .nil
theorem s32_ok : okCode E 12 s32 (Try.f32.body.getD .skip) = true := by kernel_rfl
/-- the orders of impl.EqualHistories -/
def s33 (i : Nat) : Tr := if i = 6 then .seq [0, 1, 2, 3, 4, 5, 6, 7, 8, 9, 10, 11] .nil else .nil
theorem s33_6 : s33 6 = .seq [0, 1, 2, 3, 4, 5, 6, 7, 8, 9, 10, 11] .nil := rfl
theorem s33_ok : okCode E 39 s33 (Try.f33.body.getD .skip) = true := by kernel_rfl
/-- the orders of laws.eqHistory -/
def s34 (_ : Nat) : Tr := .nil
theorem s34_ok : okCode E 16 s34 (Try.f34.body.getD .skip) = true := by kernel_rfl
/-- the orders of laws.big -/
def s35 (_ : Nat) : Tr := .nil
theorem s35_ok : okCode E 6 s35 (Try.f35.body.getD .skip) = true := by kernel_rfl
/-- the orders of spec.DrawAddCounted -/
def s36 (i : Nat) : Tr := if i = 4 then .seq [1] (.both (.seq [0, 2, 3, 4] .nil) (.seq [2, 0, 3, 4] .nil)) else if i = 5 then .seq [1, 2, 3, 4, 5] (.both (.seq [0, 6, 7, 8] .nil) (.seq [6, 0, 7, 8] .nil)) else .nil
theorem s36_4 : s36 4 = .seq [1] (.both (.seq [0, 2, 3, 4] .nil) (.seq [2, 0, 3, 4] .nil)) := rfl
theorem s36_5 : s36 5 = .seq [1, 2, 3, 4, 5] (.both (.seq [0, 6, 7, 8] .nil) (.seq [6, 0, 7, 8] .nil)) := rfl
theorem s36_ok : okCode E 22 s36 (Try.f36.body.getD .skip) = true := by kernel_rfl
/-- the orders of impl.AddCounted -/
def s37 (_ : Nat) : Tr := .nil
theorem s37_ok : okCode E 57 s37 (Try.f37.body.getD .skip) = true := by kernel_rfl
/-- the orders of spec.AddCounted -/
def s38 (i : Nat) : Tr := if i = 3 then .seq [0, 1, 3, 4, 6, 7, 10, 11, 13, 14] (.both (.seq [2] (.both (.app 5 [25, 31, 35, 38] (.both (.app 8 [25, 35, 38] (.both (.seq [9] (.both (.app 12 [25, 38] (.both (.app 15 [25] (.both (.seq [16, 17, 18, 19, 20, 21, 22] .nil) (.seq [20, 16, 17, 18, 19, 21, 22] .nil))) (.seq [20] (.app 15 [25] (.seq [16, 17, 18, 19, 21, 22] .nil))))) (.seq [20] (.app 12 [25, 38] (.app 15 [25] (.seq [16, 17, 18, 19, 21, 22] .nil)))))) (.seq [20, 9] (.app 12 [25, 38] (.app 15 [25] (.seq [16, 17, 18, 19, 21, 22] .nil)))))) (.both (.seq [9] (.both (.app 8 [25, 35, 38] (.both (.app 12 [25, 38] (.both (.app 15 [25] (.both (.seq [16, 17, 18, 19, 20, 21, 22] .nil) (.seq [20, 16, 17, 18, 19, 21, 22] .nil))) (.seq [20] (.app 15 [25] (.seq [16, 17, 18, 19, 21, 22] .nil))))) (.seq [20] (.app 12 [25, 38] (.app 15 [25] (.seq [16, 17, 18, 19, 21, 22] .nil)))))) (.seq [20] (.app 8 [25, 35, 38] (.app 12 [25, 38] (.app 15 [25] (.seq [16, 17, 18, 19, 21, 22] .nil))))))) (.seq [20] (.both (.app 8 [25, 35, 38] (.seq [9] (.app 12 [25, 38] (.app 15 [25] (.seq [16, 17, 18, 19, 21, 22] .nil))))) (.seq [9] (.app 8 [25, 35, 38] (.app 12 [25, 38] (.app 15 [25] (.seq [16, 17, 18, 19, 21, 22] .nil)))))))))) (.both (.seq [9] (.both (.app 5 [25, 31, 35, 38] (.both (.app 8 [25, 35, 38] (.both (.app 12 [25, 38] (.both (.app 15 [25] (.both (.seq [16, 17, 18, 19, 20, 21, 22] .nil) (.seq [20, 16, 17, 18, 19, 21, 22] .nil))) (.seq [20] (.app 15 [25] (.seq [16, 17, 18, 19, 21, 22] .nil))))) (.seq [20] (.app 12 [25, 38] (.app 15 [25] (.seq [16, 17, 18, 19, 21, 22] .nil)))))) (.seq [20] (.app 8 [25, 35, 38] (.app 12 [25, 38] (.app 15 [25] (.seq [16, 17, 18, 19, 21, 22] .nil))))))) (.seq [20] (.app 5 [25, 31, 35, 38] (.app 8 [25, 35, 38] (.app 12 [25, 38] (.app 15 [25] (.seq [16, 17, 18, 19, 21, 22] .nil)))))))) (.seq [20] (.both (.app 5 [25, 31, 35, 38] (.both (.app 8 [25, 35, 38] (.seq [9] (.app 12 [25, 38] (.app 15 [25] (.seq [16, 17, 18, 19, 21, 22] .nil))))) (.seq [9] (.app 8 [25, 35, 38] (.app 12 [25, 38] (.app 15 [25] (.seq [16, 17, 18, 19, 21, 22] .nil))))))) (.seq [9] (.app 5 [25, 31, 35, 38] (.app 8 [25, 35, 38] (.app 12 [25, 38] (.app 15 [25] (.seq [16, 17, 18, 19, 21, 22] .nil))))))))))) (.both (.seq [9] (.both (.seq [2] (.both (.app 5 [25, 31, 35, 38] (.both (.app 8 [25, 35, 38] (.both (.app 12 [25, 38] (.both (.app 15 [25] (.both (.seq [16, 17, 18, 19, 20, 21, 22] .nil) (.seq [20, 16, 17, 18, 19, 21, 22] .nil))) (.seq [20] (.app 15 [25] (.seq [16, 17, 18, 19, 21, 22] .nil))))) (.seq [20] (.app 12 [25, 38] (.app 15 [25] (.seq [16, 17, 18, 19, 21, 22] .nil)))))) (.seq [20] (.app 8 [25, 35, 38] (.app 12 [25, 38] (.app 15 [25] (.seq [16, 17, 18, 19, 21, 22] .nil))))))) (.seq [20] (.app 5 [25, 31, 35, 38] (.app 8 [25, 35, 38] (.app 12 [25, 38] (.app 15 [25] (.seq [16, 17, 18, 19, 21, 22] .nil)))))))) (.seq [20, 2] (.app 5 [25, 31, 35, 38] (.app 8 [25, 35, 38] (.app 12 [25, 38] (.app 15 [25] (.seq [16, 17, 18, 19, 21, 22] .nil)))))))) (.seq [20] (.both (.seq [2] (.both (.app 5 [25, 31, 35, 38] (.both (.app 8 [25, 35, 38] (.seq [9] (.app 12 [25, 38] (.app 15 [25] (.seq [16, 17, 18, 19, 21, 22] .nil))))) (.seq [9] (.app 8 [25, 35, 38] (.app 12 [25, 38] (.app 15 [25] (.seq [16, 17, 18, 19, 21, 22] .nil))))))) (.seq [9] (.app 5 [25, 31, 35, 38] (.app 8 [25, 35, 38] (.app 12 [25, 38] (.app 15 [25] (.seq [16, 17, 18, 19, 21, 22] .nil)))))))) (.seq [9, 2] (.app 5 [25, 31, 35, 38] (.app 8 [25, 35, 38] (.app 12 [25, 38] (.app 15 [25] (.seq [16, 17, 18, 19, 21, 22] .nil)))))))))) else .nil
theorem s38_3 : s38 3 = .seq [0, 1, 3, 4, 6, 7, 10, 11, 13, 14] (.both (.seq [2] (.both (.app 5 [25, 31, 35, 38] (.both (.app 8 [25, 35, 38] (.both (.seq [9] (.both (.app 12 [25, 38] (.both (.app 15 [25] (.both (.seq [16, 17, 18, 19, 20, 21, 22] .nil) (.seq [20, 16, 17, 18, 19, 21, 22] .nil))) (.seq [20] (.app 15 [25] (.seq [16, 17, 18, 19, 21, 22] .nil))))) (.seq [20] (.app 12 [25, 38] (.app 15 [25] (.seq [16, 17, 18, 19, 21, 22] .nil)))))) (.seq [20, 9] (.app 12 [25, 38] (.app 15 [25] (.seq [16, 17, 18, 19, 21, 22] .nil)))))) (.both (.seq [9] (.both (.app 8 [25, 35, 38] (.both (.app 12 [25, 38] (.both (.app 15 [25] (.both (.seq [16, 17, 18, 19, 20, 21, 22] .nil) (.seq [20, 16, 17, 18, 19, 21, 22] .nil))) (.seq [20] (.app 15 [25] (.seq [16, 17, 18, 19, 21, 22] .nil))))) (.seq [20] (.app 12 [25, 38] (.app 15 [25] (.seq [16, 17, 18, 19, 21, 22] .nil)))))) (.seq [20] (.app 8 [25, 35, 38] (.app 12 [25, 38] (.app 15 [25] (.seq [16, 17, 18, 19, 21, 22] .nil))))))) (.seq [20] (.both (.app 8 [25, 35, 38] (.seq [9] (.app 12 [25, 38] (.app 15 [25] (.seq [16, 17, 18, 19, 21, 22] .nil))))) (.seq [9] (.app 8 [25, 35, 38] (.app 12 [25, 38] (.app 15 [25] (.seq [16, 17, 18, 19, 21, 22] .nil)))))))))) (.both (.seq [9] (.both (.app 5 [25, 31, 35, 38] (.both (.app 8 [25, 35, 38] (.both (.app 12 [25, 38] (.both (.app 15 [25] (.both (.seq [16, 17, 18, 19, 20, 21, 22] .nil) (.seq [20, 16, 17, 18, 19, 21, 22] .nil))) (.seq [20] (.app 15 [25] (.seq [16, 17, 18, 19, 21, 22] .nil))))) (.seq [20] (.app 12 [25, 38] (.app 15 [25] (.seq [16, 17, 18, 19, 21, 22] .nil)))))) (.seq [20] (.app 8 [25, 35, 38] (.app 12 [25, 38] (.app 15 [25] (.seq [16, 17, 18, 19, 21, 22] .nil))))))) (.seq [20] (.app 5 [25, 31, 35, 38] (.app 8 [25, 35, 38] (.app 12 [25, 38] (.app 15 [25] (.seq [16, 17, 18, 19, 21, 22] .nil)))))))) (.seq [20] (.both (.app 5 [25, 31, 35, 38] (.both (.app 8 [25, 35, 38] (.seq [9] (.app 12 [25, 38] (.app 15 [25] (.seq [16, 17, 18, 19, 21, 22] .nil))))) (.seq [9] (.app 8 [25, 35, 38] (.app 12 [25, 38] (.app 15 [25] (.seq [16, 17, 18, 19, 21, 22] .nil))))))) (.seq [9] (.app 5 [25, 31, 35, 38] (.app 8 [25, 35, 38] (.app 12 [25, 38] (.app 15 [25] (.seq [16, 17, 18, 19, 21, 22] .nil))))))))))) (.both (.seq [9] (.both (.seq [2] (.both (.app 5 [25, 31, 35, 38] (.both (.app 8 [25, 35, 38] (.both (.app 12 [25, 38] (.both (.app 15 [25] (.both (.seq [16, 17, 18, 19, 20, 21, 22] .nil) (.seq [20, 16, 17, 18, 19, 21, 22] .nil))) (.seq [20] (.app 15 [25] (.seq [16, 17, 18, 19, 21, 22] .nil))))) (.seq [20] (.app 12 [25, 38] (.app 15 [25] (.seq [16, 17, 18, 19, 21, 22] .nil)))))) (.seq [20] (.app 8 [25, 35, 38] (.app 12 [25, 38] (.app 15 [25] (.seq [16, 17, 18, 19, 21, 22] .nil))))))) (.seq [20] (.app 5 [25, 31, 35, 38] (.app 8 [25, 35, 38] (.app 12 [25, 38] (.app 15 [25] (.seq [16, 17, 18, 19, 21, 22] .nil)))))))) (.seq [20, 2] (.app 5 [25, 31, 35, 38] (.app 8 [25, 35, 38] (.app 12 [25, 38] (.app 15 [25] (.seq [16, 17, 18, 19, 21, 22] .nil)))))))) (.seq [20] (.both (.seq [2] (.both (.app 5 [25, 31, 35, 38] (.both (.app 8 [25, 35, 38] (.seq [9] (.app 12 [25, 38] (.app 15 [25] (.seq [16, 17, 18, 19, 21, 22] .nil))))) (.seq [9] (.app 8 [25, 35, 38] (.app 12 [25, 38] (.app 15 [25] (.seq [16, 17, 18, 19, 21, 22] .nil))))))) (.seq [9] (.app 5 [25, 31, 35, 38] (.app 8 [25, 35, 38] (.app 12 [25, 38] (.app 15 [25] (.seq [16, 17, 18, 19, 21, 22] .nil)))))))) (.seq [9, 2] (.app 5 [25, 31, 35, 38] (.app 8 [25, 35, 38] (.app 12 [25, 38] (.app 15 [25] (.seq [16, 17, 18, 19, 21, 22] .nil)))))))))) := rfl
theorem s38_ok : okCode E 46 s38 (Try.f38.body.getD .skip) = true := by kernel_rfl
/-- the orders of spec.EqualCounted -/
def s39 (_ : Nat) : Tr := .nil
theorem s39_ok : okCode E 27 s39 (Try.f39.body.getD .skip) = true := by kernel_rfl
/-- the orders of impl.IsValidCounted -/
def s40 (_ : Nat) : Tr := .nil
theorem s40_ok : okCode E 35 s40 (Try.f40.body.getD .skip) = true := by kernel_rfl
/-- the orders of spec.IsValidCounted -/
def s41 (_ : Nat) : Tr := .nil
theorem s41_ok : okCode E 42 s41 (Try.f41.body.getD .skip) = true := by kernel_rfl
/-- the orders of impl.NegateCounted -/
def s42 (i : Nat) : Tr := if i = 5 then .seq [0, 1, 2, 3, 4, 5, 6, 7, 8, 9, 10] .nil else .nil
theorem s42_5 : s42 5 = .seq [0, 1, 2, 3, 4, 5, 6, 7, 8, 9, 10] .nil := rfl
theorem s42_ok : okCode E 25 s42 (Try.f42.body.getD .skip) = true := by kernel_rfl
/-- the orders of impl.CountOfRow -/
def s43 (_ : Nat) : Tr := .nil
theorem s43_ok : okCode E 26 s43 (Try.f43.body.getD .skip) = true := by kernel_rfl
/-- the orders of spec.CountOfRow -/
def s44 (_ : Nat) : Tr := .nil
theorem s44_ok : okCode E 27 s44 (Try.f44.body.getD .skip) = true := by kernel_rfl
/-- the orders of impl.EqualCounted -/
def s45 (_ : Nat) : Tr := .nil
theorem s45_ok : okCode E 24 s45 (Try.f45.body.getD .skip) = true := by kernel_rfl
/-- the orders of spec.DrawProjectCounted -/
def s46 (_ : Nat) : Tr := .nil
theorem s46_ok : okCode E 29 s46 (Try.f46.body.getD .skip) = true := by kernel_rfl
/-- the orders of impl.ProjectCounted -/
def s47 (i : Nat) : Tr := if i = 7 then .seq [0, 1, 3, 4, 5, 6, 7, 2, 8] .nil else .nil
theorem s47_7 : s47 7 = .seq [0, 1, 3, 4, 5, 6, 7, 2, 8] .nil := rfl
theorem s47_ok : okCode E 49 s47 (Try.f47.body.getD .skip) = true := by kernel_rfl
/-- the orders of spec.ProjectCounted -/
def s48 (i : Nat) : Tr := if i = 4 then .seq [0, 1, 2, 3, 4, 5, 6, 7, 8] .nil else .nil
theorem s48_4 : s48 4 = .seq [0, 1, 2, 3, 4, 5, 6, 7, 8] .nil := rfl
theorem s48_ok : okCode E 65 s48 (Try.f48.body.getD .skip) = true := by kernel_rfl
/-- the orders of impl.RowsOfCounted -/
def s49 (i : Nat) : Tr := if i = 9 then .seq [0, 1, 2, 3, 4, 5, 6, 7] .nil else .nil
theorem s49_9 : s49 9 = .seq [0, 1, 2, 3, 4, 5, 6, 7] .nil := rfl
theorem s49_ok : okCode E 27 s49 (Try.f49.body.getD .skip) = true := by kernel_rfl
/-- the orders of spec.EqualRelations -/
def s50 (i : Nat) : Tr := if i = 6 then .seq [0, 1, 2, 3, 4, 5, 6, 7, 8, 9, 10, 11] .nil else .nil
theorem s50_6 : s50 6 = .seq [0, 1, 2, 3, 4, 5, 6, 7, 8, 9, 10, 11] .nil := rfl
theorem s50_ok : okCode E 39 s50 (Try.f50.body.getD .skip) = true := by kernel_rfl
/-- the orders of laws.szIntSS -/
def s51 (_ : Nat) : Tr := .nil
theorem s51_ok : okCode E 27 s51 (Try.f51.body.getD .skip) = true := by kernel_rfl
/-- the orders of laws.szIntS -/
def s52 (_ : Nat) : Tr := .nil
theorem s52_ok : okCode E 12 s52 (Try.f52.body.getD .skip) = true := by kernel_rfl
/-- the orders of spec.l7Vars -/
def s53 (_ : Nat) : Tr := .nil
theorem s53_ok : okCode E 20 s53 (Try.f53.body.getD .skip) = true := by kernel_rfl
/-- the orders of spec.l2Dec -/
def s54 (i : Nat) : Tr := if i = 7 then .seq [0, 1, 3, 4, 5, 6] (.both (.seq [2, 7, 8, 9, 10] .nil) (.seq [7, 8, 2, 9, 10] .nil)) else .nil
theorem s54_7 : s54 7 = .seq [0, 1, 3, 4, 5, 6] (.both (.seq [2, 7, 8, 9, 10] .nil) (.seq [7, 8, 2, 9, 10] .nil)) := rfl
theorem s54_ok : okCode E 38 s54 (Try.f54.body.getD .skip) = true := by kernel_rfl
/-- the orders of laws.toIntSS -/
def s55 (_ : Nat) : Tr := .nil
theorem s55_ok : okCode E 23 s55 (Try.f55.body.getD .skip) = true := by kernel_rfl
/-- the orders of impl.namesOf -/
def s56 (_ : Nat) : Tr := .nil
theorem s56_ok : okCode E 18 s56 (Try.f56.body.getD .skip) = true := by kernel_rfl
/-- the orders of impl.FormatInt -/
def s57 (_ : Nat) : Tr := .nil
theorem s57_ok : okCode E 30 s57 (Try.f57.body.getD .skip) = true := by kernel_rfl
/-- the orders of impl.join -/
def s58 (_ : Nat) : Tr := .nil
theorem s58_ok : okCode E 25 s58 (Try.f58.body.getD .skip) = true := by kernel_rfl
/-- the orders of laws.eqIntSS -/
def s59 (i : Nat) : Tr := if i = 6 then .seq [0, 1, 2, 3, 4, 5, 6, 7, 8, 9] .nil else .nil
theorem s59_6 : s59 6 = .seq [0, 1, 2, 3, 4, 5, 6, 7, 8, 9] .nil := rfl
theorem s59_ok : okCode E 27 s59 (Try.f59.body.getD .skip) = true := by kernel_rfl
/-- the orders of laws.szAtomS -/
def s60 (_ : Nat) : Tr := .nil
theorem s60_ok : okCode E 27 s60 (Try.f60.body.getD .skip) = true := by kernel_rfl
/-- the orders of spec.IsValidQuery -/
def s61 (i : Nat) : Tr := if i = 11 then .seq [0, 1, 2, 3, 4, 5, 6, 7, 8, 9, 10, 11, 12, 13] .nil else if i = 26 then .seq [0, 1, 2, 3, 4, 5, 6, 7, 8, 9, 10, 11, 12, 13, 14, 15, 16, 17, 18, 19, 20, 21, 22] .nil else .nil
theorem s61_11 : s61 11 = .seq [0, 1, 2, 3, 4, 5, 6, 7, 8, 9, 10, 11, 12, 13] .nil := rfl
theorem s61_26 : s61 26 = .seq [0, 1, 2, 3, 4, 5, 6, 7, 8, 9, 10, 11, 12, 13, 14, 15, 16, 17, 18, 19, 20, 21, 22] .nil := rfl
theorem s61_ok : okCode E 134 s61 (Try.f61.body.getD .skip) = true := by kernel_rfl
/-- the orders of spec.DefaultOrder -/
def s62 (_ : Nat) : Tr := .nil
theorem s62_ok : okCode E 21 s62 (Try.f62.body.getD .skip) = true := by kernel_rfl
/-- the orders of laws.toAtomS -/
def s63 (_ : Nat) : Tr := .nil
theorem s63_ok : okCode E 23 s63 (Try.f63.body.getD .skip) = true := by kernel_rfl
/-- the orders of impl.IsValidQuery -/
def s64 (_ : Nat) : Tr := .nil
theorem s64_ok : okCode E 76 s64 (Try.f64.body.getD .skip) = true := by kernel_rfl
/-- the orders of impl.DefaultOrder -/
def s65 (_ : Nat) : Tr := .nil
theorem s65_ok : okCode E 19 s65 (Try.f65.body.getD .skip) = true := by kernel_rfl
/-- the orders of laws.eqAtomS -/
def s66 (i : Nat) : Tr := if i = 6 then .seq [0, 1, 2, 3, 4, 5, 6, 7, 8, 9] .nil else .nil
theorem s66_6 : s66 6 = .seq [0, 1, 2, 3, 4, 5, 6, 7, 8, 9] .nil := rfl
theorem s66_ok : okCode E 27 s66 (Try.f66.body.getD .skip) = true := by kernel_rfl
/-- the orders of laws.markAtomS -/
def s67 (_ : Nat) : Tr := .nil
theorem s67_ok : okCode E 28 s67 (Try.f67.body.getD .skip) = true := by kernel_rfl
/-- the orders of laws.markIntSS -/
def s68 (_ : Nat) : Tr := .nil
theorem s68_ok : okCode E 19 s68 (Try.f68.body.getD .skip) = true := by kernel_rfl
/-- the orders of laws.heldIntSS -/
def s69 (_ : Nat) : Tr := .nil
theorem s69_ok : okCode E 21 s69 (Try.f69.body.getD .skip) = true := by kernel_rfl
/-- the orders of laws.heldIntS -/
def s70 (_ : Nat) : Tr := .nil
theorem s70_ok : okCode E 21 s70 (Try.f70.body.getD .skip) = true := by kernel_rfl
/-- the orders of spec.JoinTreeRoot -/
def s71 (_ : Nat) : Tr := .nil
theorem s71_ok : okCode E 22 s71 (Try.f71.body.getD .skip) = true := by kernel_rfl
/-- the orders of spec.l10Path -/
def s72 (_ : Nat) : Tr := .nil
theorem s72_ok : okCode E 31 s72 (Try.f72.body.getD .skip) = true := by kernel_rfl
/-- the orders of spec.l30Bag -/
def s73 (i : Nat) : Tr := if i = 4 then .seq [0, 1, 2, 3, 4, 5, 6, 7, 8, 9, 10, 11, 12, 13, 14, 15, 16, 17, 18, 19, 20, 21, 22, 23, 24] .nil else .nil
theorem s73_4 : s73 4 = .seq [0, 1, 2, 3, 4, 5, 6, 7, 8, 9, 10, 11, 12, 13, 14, 15, 16, 17, 18, 19, 20, 21, 22, 23, 24] .nil := rfl
theorem s73_ok : okCode E 40 s73 (Try.f73.body.getD .skip) = true := by kernel_rfl
/-- the orders of spec.l30Within -/
def s74 (_ : Nat) : Tr := .nil
theorem s74_ok : okCode E 21 s74 (Try.f74.body.getD .skip) = true := by kernel_rfl
/-- the orders of spec.l7Find -/
def s75 (_ : Nat) : Tr := .nil
theorem s75_ok : okCode E 19 s75 (Try.f75.body.getD .skip) = true := by kernel_rfl
/-- the orders of impl.isTree -/
def s76 (_ : Nat) : Tr := .nil
theorem s76_ok : okCode E 51 s76 (Try.f76.body.getD .skip) = true := by kernel_rfl
/-- the orders of impl.isBag -/
def s77 (_ : Nat) : Tr := .nil
theorem s77_ok : okCode E 18 s77 (Try.f77.body.getD .skip) = true := by kernel_rfl
/-- the orders of impl.common -/
def s78 (_ : Nat) : Tr := .nil
theorem s78_ok : okCode E 23 s78 (Try.f78.body.getD .skip) = true := by kernel_rfl
/-- the orders of impl.AtomVariables -/
def s79 (_ : Nat) : Tr := .nil
theorem s79_ok : okCode E 17 s79 (Try.f79.body.getD .skip) = true := by kernel_rfl
/-- the orders of impl.topsOf -/
def s80 (_ : Nat) : Tr := .nil
theorem s80_ok : okCode E 43 s80 (Try.f80.body.getD .skip) = true := by kernel_rfl
/-- the orders of spec.IsValidOrder -/
def s81 (_ : Nat) : Tr := .nil
theorem s81_ok : okCode E 18 s81 (Try.f81.body.getD .skip) = true := by kernel_rfl
/-- the orders of spec.l30Joined -/
def s82 (_ : Nat) : Tr := .nil
theorem s82_ok : okCode E 39 s82 (Try.f82.body.getD .skip) = true := by kernel_rfl
/-- the orders of impl.IsValidOrder -/
def s83 (_ : Nat) : Tr := .nil
theorem s83_ok : okCode E 20 s83 (Try.f83.body.getD .skip) = true := by kernel_rfl
/-- the orders of impl.Neighbors -/
def s84 (_ : Nat) : Tr := .nil
theorem s84_ok : okCode E 29 s84 (Try.f84.body.getD .skip) = true := by kernel_rfl
/-- the orders of impl.unite -/
def s85 (i : Nat) : Tr := if i = 9 then .seq [0, 1, 2, 4, 7, 8, 9] (.both (.seq [3, 5, 6, 10, 11] .nil) (.seq [5, 3, 6, 10, 11] .nil)) else .nil
theorem s85_9 : s85 9 = .seq [0, 1, 2, 4, 7, 8, 9] (.both (.seq [3, 5, 6, 10, 11] .nil) (.seq [5, 3, 6, 10, 11] .nil)) := rfl
theorem s85_ok : okCode E 56 s85 (Try.f85.body.getD .skip) = true := by kernel_rfl
/-- the orders of impl.without -/
def s86 (_ : Nat) : Tr := .nil
theorem s86_ok : okCode E 23 s86 (Try.f86.body.getD .skip) = true := by kernel_rfl
/-- the orders of impl.hasInt -/
def s87 (_ : Nat) : Tr := .nil
theorem s87_ok : okCode E 9 s87 (Try.f87.body.getD .skip) = true := by kernel_rfl
/-- the orders of laws.szDatabaseS -/
def s88 (_ : Nat) : Tr := .nil
theorem s88_ok : okCode E 27 s88 (Try.f88.body.getD .skip) = true := by kernel_rfl
/-- the orders of spec.EqualDatabases -/
def s89 (i : Nat) : Tr := if i = 6 then .seq [0, 1, 2, 3, 4, 5, 6, 7, 8, 9, 10, 11, 12, 13, 14, 15, 16, 17, 18, 19, 20, 21, 22, 23, 24, 25, 26, 27, 28] .nil else .nil
theorem s89_6 : s89 6 = .seq [0, 1, 2, 3, 4, 5, 6, 7, 8, 9, 10, 11, 12, 13, 14, 15, 16, 17, 18, 19, 20, 21, 22, 23, 24, 25, 26, 27, 28] .nil := rfl
theorem s89_ok : okCode E 49 s89 (Try.f89.body.getD .skip) = true := by kernel_rfl
/-- the orders of laws.toDatabaseS -/
def s90 (_ : Nat) : Tr := .nil
theorem s90_ok : okCode E 23 s90 (Try.f90.body.getD .skip) = true := by kernel_rfl
/-- the orders of impl.EqualDatabases -/
def s91 (i : Nat) : Tr := if i = 6 then .seq [0, 1, 2, 3, 4, 5, 6, 7, 8, 9, 10, 11, 12, 13, 14, 15, 16, 17, 18, 19, 20, 21, 22, 23, 24, 25, 26, 27, 28] .nil else .nil
theorem s91_6 : s91 6 = .seq [0, 1, 2, 3, 4, 5, 6, 7, 8, 9, 10, 11, 12, 13, 14, 15, 16, 17, 18, 19, 20, 21, 22, 23, 24, 25, 26, 27, 28] .nil := rfl
theorem s91_ok : okCode E 49 s91 (Try.f91.body.getD .skip) = true := by kernel_rfl
/-- the orders of laws.eqDatabaseS -/
def s92 (i : Nat) : Tr := if i = 6 then .seq [0, 1, 2, 3, 4, 5, 6, 7, 8, 9] .nil else .nil
theorem s92_6 : s92 6 = .seq [0, 1, 2, 3, 4, 5, 6, 7, 8, 9] .nil := rfl
theorem s92_ok : okCode E 27 s92 (Try.f92.body.getD .skip) = true := by kernel_rfl
/-- the orders of spec.l1New -/
def s93 (_ : Nat) : Tr := .nil
theorem s93_ok : okCode E 32 s93 (Try.f93.body.getD .skip) = true := by kernel_rfl
/-- the orders of spec.l27Any -/
def s94 (i : Nat) : Tr := if i = 6 then .seq [0, 2] (.both (.seq [1, 3, 4, 5, 6] .nil) (.seq [3] (.both (.seq [1, 4, 5, 6] .nil) (.seq [4, 1, 5, 6] .nil)))) else if i = 10 then .seq [0, 1, 2, 3, 4, 5, 6, 7, 8, 9] .nil else .nil
theorem s94_6 : s94 6 = .seq [0, 2] (.both (.seq [1, 3, 4, 5, 6] .nil) (.seq [3] (.both (.seq [1, 4, 5, 6] .nil) (.seq [4, 1, 5, 6] .nil)))) := rfl
theorem s94_10 : s94 10 = .seq [0, 1, 2, 3, 4, 5, 6, 7, 8, 9] .nil := rfl
theorem s94_ok : okCode E 46 s94 (Try.f94.body.getD .skip) = true := by kernel_rfl
/-- the orders of spec.l1Once -/
def s95 (_ : Nat) : Tr := .nil
theorem s95_ok : okCode E 9 s95 (Try.f95.body.getD .skip) = true := by kernel_rfl
/-- the orders of spec.l27Z -/
def s96 (i : Nat) : Tr := if i = 5 then .seq [0, 2, 3] (.both (.seq [1, 4, 5, 6, 7] .nil) (.seq [4] (.both (.seq [1, 5, 6, 7] .nil) (.seq [5, 1, 6, 7] .nil)))) else .nil
theorem s96_5 : s96 5 = .seq [0, 2, 3] (.both (.seq [1, 4, 5, 6, 7] .nil) (.seq [4] (.both (.seq [1, 5, 6, 7] .nil) (.seq [5, 1, 6, 7] .nil)))) := rfl
theorem s96_ok : okCode E 30 s96 (Try.f96.body.getD .skip) = true := by kernel_rfl
/-- the orders of impl.copyCounted -/
def s97 (i : Nat) : Tr := if i = 1 then .seq [0, 1, 2, 3, 5, 6, 4, 7, 8, 9] .nil else .nil
theorem s97_1 : s97 1 = .seq [0, 1, 2, 3, 5, 6, 4, 7, 8, 9] .nil := rfl
theorem s97_ok : okCode E 12 s97 (Try.f97.body.getD .skip) = true := by kernel_rfl
/-- the orders of impl.tally -/
def s98 (i : Nat) : Tr := if i = 3 then .seq [0, 2, 3, 4, 5, 6, 7, 9, 13, 14, 15, 16, 17, 18, 1] (.app 8 [43] (.seq [10, 11] (.app 12 [43] (.seq [19, 20, 21, 22] .nil)))) else if i = 4 then .seq [0, 1, 2, 3, 4, 5, 6, 8, 11, 12, 13, 14, 15, 16] (.both (.seq [7, 9] (.app 10 [63] (.seq [17, 18, 19, 20] .nil))) (.seq [9, 7] (.app 10 [63] (.seq [17, 18, 19, 20] .nil)))) else .nil
theorem s98_3 : s98 3 = .seq [0, 2, 3, 4, 5, 6, 7, 9, 13, 14, 15, 16, 17, 18, 1] (.app 8 [43] (.seq [10, 11] (.app 12 [43] (.seq [19, 20, 21, 22] .nil)))) := rfl
theorem s98_4 : s98 4 = .seq [0, 1, 2, 3, 4, 5, 6, 8, 11, 12, 13, 14, 15, 16] (.both (.seq [7, 9] (.app 10 [63] (.seq [17, 18, 19, 20] .nil))) (.seq [9, 7] (.app 10 [63] (.seq [17, 18, 19, 20] .nil)))) := rfl
theorem s98_ok : okCode E 70 s98 (Try.f98.body.getD .skip) = true := by kernel_rfl
/-- the orders of impl.settled -/
def s99 (i : Nat) : Tr := if i = 6 then .seq [0, 1, 2, 3, 4, 5, 6, 7, 8, 9, 10] .nil else .nil
theorem s99_6 : s99 6 = .seq [0, 1, 2, 3, 4, 5, 6, 7, 8, 9, 10] .nil := rfl
theorem s99_ok : okCode E 37 s99 (Try.f99.body.getD .skip) = true := by kernel_rfl
/-- the orders of spec.l27Sum -/
def s100 (i : Nat) : Tr := if i = 8 then .seq [0, 1, 2, 3, 4, 5, 6, 7, 8, 9, 10] .nil else if i = 9 then .seq [0, 1, 2, 3, 4, 5, 6, 7, 8, 9, 10, 11, 12] .nil else if i = 15 then .seq [0, 1, 2, 3, 4, 5, 6, 7, 8, 9, 10] .nil else if i = 16 then .seq [0, 1, 2, 3, 4, 5, 6, 7, 8, 9] .nil else .nil
theorem s100_8 : s100 8 = .seq [0, 1, 2, 3, 4, 5, 6, 7, 8, 9, 10] .nil := rfl
theorem s100_9 : s100 9 = .seq [0, 1, 2, 3, 4, 5, 6, 7, 8, 9, 10, 11, 12] .nil := rfl
theorem s100_15 : s100 15 = .seq [0, 1, 2, 3, 4, 5, 6, 7, 8, 9, 10] .nil := rfl
theorem s100_16 : s100 16 = .seq [0, 1, 2, 3, 4, 5, 6, 7, 8, 9] .nil := rfl
theorem s100_ok : okCode E 94 s100 (Try.f100.body.getD .skip) = true := by kernel_rfl
/-- the orders of spec.CompareRows -/
def s101 (i : Nat) : Tr := if i = 4 then .seq [0, 1, 2, 3, 4, 5, 6, 7, 8] .nil else if i = 6 then .seq [0, 1, 2, 3, 4, 5, 6, 7, 8] .nil else .nil
theorem s101_4 : s101 4 = .seq [0, 1, 2, 3, 4, 5, 6, 7, 8] .nil := rfl
theorem s101_6 : s101 6 = .seq [0, 1, 2, 3, 4, 5, 6, 7, 8] .nil := rfl
theorem s101_ok : okCode E 46 s101 (Try.f101.body.getD .skip) = true := by kernel_rfl
/-- the orders of impl.rowsValid -/
def s102 (_ : Nat) : Tr := .nil
theorem s102_ok : okCode E 46 s102 (Try.f102.body.getD .skip) = true := by kernel_rfl
/-- the orders of impl.within -/
def s103 (_ : Nat) : Tr := .nil
theorem s103_ok : okCode E 15 s103 (Try.f103.body.getD .skip) = true := by kernel_rfl
/-- the orders of spec.IsValidRelation -/
def s104 (i : Nat) : Tr := if i = 6 then .seq [0, 1, 2, 3, 4, 5, 6, 7, 8, 9, 10, 11, 12, 13, 14, 15, 16, 17, 18, 19, 20, 21, 22, 23, 24, 25, 26, 27, 28, 29, 30, 31, 32, 33, 34, 35, 36] .nil else .nil
theorem s104_6 : s104 6 = .seq [0, 1, 2, 3, 4, 5, 6, 7, 8, 9, 10, 11, 12, 13, 14, 15, 16, 17, 18, 19, 20, 21, 22, 23, 24, 25, 26, 27, 28, 29, 30, 31, 32, 33, 34, 35, 36] .nil := rfl
theorem s104_ok : okCode E 58 s104 (Try.f104.body.getD .skip) = true := by kernel_rfl
/-- the orders of spec.l1In -/
def s105 (_ : Nat) : Tr := .nil
theorem s105_ok : okCode E 15 s105 (Try.f105.body.getD .skip) = true := by kernel_rfl
/-- the orders of impl.place -/
def s106 (_ : Nat) : Tr := .nil
theorem s106_ok : okCode E 42 s106 (Try.f106.body.getD .skip) = true := by kernel_rfl
/-- the orders of spec.l5Place -/
def s107 (_ : Nat) : Tr := .nil
theorem s107_ok : okCode E 46 s107 (Try.f107.body.getD .skip) = true := by kernel_rfl
/-- the orders of impl.sameRows -/
def s108 (i : Nat) : Tr := if i = 6 then .seq [0, 1, 2, 3, 4, 5, 6, 7, 8, 9] .nil else .nil
theorem s108_6 : s108 6 = .seq [0, 1, 2, 3, 4, 5, 6, 7, 8, 9] .nil := rfl
theorem s108_ok : okCode E 27 s108 (Try.f108.body.getD .skip) = true := by kernel_rfl
/-- the orders of impl.sameInts -/
def s109 (i : Nat) : Tr := if i = 6 then .seq [0, 1, 2, 3, 4, 5, 6, 7, 8] .nil else .nil
theorem s109_6 : s109 6 = .seq [0, 1, 2, 3, 4, 5, 6, 7, 8] .nil := rfl
theorem s109_ok : okCode E 26 s109 (Try.f109.body.getD .skip) = true := by kernel_rfl
/-- the orders of spec.l1Below -/
def s110 (_ : Nat) : Tr := .nil
theorem s110_ok : okCode E 37 s110 (Try.f110.body.getD .skip) = true := by kernel_rfl
/-- the orders of impl.columnsFit -/
def s111 (_ : Nat) : Tr := .nil
theorem s111_ok : okCode E 22 s111 (Try.f111.body.getD .skip) = true := by kernel_rfl
/-- the orders of impl.pick -/
def s112 (_ : Nat) : Tr := .nil
theorem s112_ok : okCode E 24 s112 (Try.f112.body.getD .skip) = true := by kernel_rfl
/-- the orders of spec.l5Cols -/
def s113 (_ : Nat) : Tr := .nil
theorem s113_ok : okCode E 25 s113 (Try.f113.body.getD .skip) = true := by kernel_rfl
/-- the orders of impl.copyRows -/
def s114 (_ : Nat) : Tr := .nil
theorem s114_ok : okCode E 19 s114 (Try.f114.body.getD .skip) = true := by kernel_rfl
/-- the orders of spec.VariableName -/
def s115 (_ : Nat) : Tr := .nil
theorem s115_ok : okCode E 10 s115 (Try.f115.body.getD .skip) = true := by kernel_rfl
/-- the orders of impl.VariableName -/
def s116 (_ : Nat) : Tr := .nil
theorem s116_ok : okCode E 10 s116 (Try.f116.body.getD .skip) = true := by kernel_rfl
/-- the orders of laws.szAtom -/
def s117 (_ : Nat) : Tr := .nil
theorem s117_ok : okCode E 19 s117 (Try.f117.body.getD .skip) = true := by kernel_rfl
/-- the orders of spec.IsValidName -/
def s118 (_ : Nat) : Tr := .nil
theorem s118_ok : okCode E 23 s118 (Try.f118.body.getD .skip) = true := by kernel_rfl
/-- the orders of spec.ContainsVariable -/
def s119 (_ : Nat) : Tr := .nil
theorem s119_ok : okCode E 20 s119 (Try.f119.body.getD .skip) = true := by kernel_rfl
/-- the orders of laws.toAtom -/
def s120 (_ : Nat) : Tr := .nil
theorem s120_ok : okCode E 12 s120 (Try.f120.body.getD .skip) = true := by kernel_rfl
/-- the orders of impl.isSetOf -/
def s121 (_ : Nat) : Tr := .nil
theorem s121_ok : okCode E 27 s121 (Try.f121.body.getD .skip) = true := by kernel_rfl
/-- the orders of impl.IsValidName -/
def s122 (_ : Nat) : Tr := .nil
theorem s122_ok : okCode E 5 s122 (Try.f122.body.getD .skip) = true := by kernel_rfl
/-- the orders of laws.eqAtom -/
def s123 (_ : Nat) : Tr := .nil
theorem s123_ok : okCode E 16 s123 (Try.f123.body.getD .skip) = true := by kernel_rfl
/-- the orders of laws.markText -/
def s124 (_ : Nat) : Tr := .nil
theorem s124_ok : okCode E 20 s124 (Try.f124.body.getD .skip) = true := by kernel_rfl
/-- the orders of impl.IsStrictlyAscending -/
def s125 (i : Nat) : Tr := if i = 4 then .seq [0, 1, 2, 3, 4, 5, 6, 7, 8, 9] .nil else .nil
theorem s125_4 : s125 4 = .seq [0, 1, 2, 3, 4, 5, 6, 7, 8, 9] .nil := rfl
theorem s125_ok : okCode E 20 s125 (Try.f125.body.getD .skip) = true := by kernel_rfl
/-- the orders of impl.ContainsVariable -/
def s126 (_ : Nat) : Tr := .nil
theorem s126_ok : okCode E 9 s126 (Try.f126.body.getD .skip) = true := by kernel_rfl
/-- the orders of spec.IsPermutation -/
def s127 (i : Nat) : Tr := if i = 4 then .seq [0, 1, 2, 3, 4, 5, 6, 7, 8, 9, 10, 11, 12, 13, 14, 15, 16, 17, 18, 19] .nil else .nil
theorem s127_4 : s127 4 = .seq [0, 1, 2, 3, 4, 5, 6, 7, 8, 9, 10, 11, 12, 13, 14, 15, 16, 17, 18, 19] .nil := rfl
theorem s127_ok : okCode E 33 s127 (Try.f127.body.getD .skip) = true := by kernel_rfl
/-- the orders of spec.Neighbors -/
def s128 (_ : Nat) : Tr := .nil
theorem s128_ok : okCode E 57 s128 (Try.f128.body.getD .skip) = true := by kernel_rfl
/-- the orders of impl.copyInts -/
def s129 (_ : Nat) : Tr := .nil
theorem s129_ok : okCode E 6 s129 (Try.f129.body.getD .skip) = true := by kernel_rfl
/-- the orders of impl.indexOf -/
def s130 (_ : Nat) : Tr := .nil
theorem s130_ok : okCode E 19 s130 (Try.f130.body.getD .skip) = true := by kernel_rfl
/-- the orders of laws.szDatabase -/
def s131 (_ : Nat) : Tr := .nil
theorem s131_ok : okCode E 12 s131 (Try.f131.body.getD .skip) = true := by kernel_rfl
/-- the orders of laws.toDatabase -/
def s132 (_ : Nat) : Tr := .nil
theorem s132_ok : okCode E 9 s132 (Try.f132.body.getD .skip) = true := by kernel_rfl
/-- the orders of impl.EqualRelations -/
def s133 (_ : Nat) : Tr := .nil
theorem s133_ok : okCode E 17 s133 (Try.f133.body.getD .skip) = true := by kernel_rfl
/-- the orders of laws.eqDatabase -/
def s134 (_ : Nat) : Tr := .nil
theorem s134_ok : okCode E 11 s134 (Try.f134.body.getD .skip) = true := by kernel_rfl
/-- the orders of spec.l1PickInt -/
def s135 (_ : Nat) : Tr := .nil
theorem s135_ok : okCode E 12 s135 (Try.f135.body.getD .skip) = true := by kernel_rfl
/-- the orders of spec.CountedFromRelation -/
def s136 (_ : Nat) : Tr := .nil
theorem s136_ok : okCode E 31 s136 (Try.f136.body.getD .skip) = true := by kernel_rfl
/-- the orders of spec.l5Rel -/
def s137 (_ : Nat) : Tr := .nil
theorem s137_ok : okCode E 36 s137 (Try.f137.body.getD .skip) = true := by kernel_rfl
/-- the orders of spec.NewRelation -/
def s138 (_ : Nat) : Tr := .nil
theorem s138_ok : okCode E 40 s138 (Try.f138.body.getD .skip) = true := by kernel_rfl
/-- the orders of impl.AreValidValues -/
def s139 (_ : Nat) : Tr := .nil
theorem s139_ok : okCode E 15 s139 (Try.f139.body.getD .skip) = true := by kernel_rfl
/-- the orders of impl.CompareRows -/
def s140 (i : Nat) : Tr := if i = 4 then .seq [0, 1, 2, 3, 4, 5, 6, 7, 8] .nil else if i = 5 then .seq [0, 1, 2, 3, 4, 5, 6, 7, 8, 9] .nil else .nil
theorem s140_4 : s140 4 = .seq [0, 1, 2, 3, 4, 5, 6, 7, 8] .nil := rfl
theorem s140_5 : s140 5 = .seq [0, 1, 2, 3, 4, 5, 6, 7, 8, 9] .nil := rfl
theorem s140_ok : okCode E 41 s140 (Try.f140.body.getD .skip) = true := by kernel_rfl
/-- the orders of spec.AreValidValues -/
def s141 (_ : Nat) : Tr := .nil
theorem s141_ok : okCode E 16 s141 (Try.f141.body.getD .skip) = true := by kernel_rfl
/-- the orders of spec.l1Byte -/
def s142 (i : Nat) : Tr := if i = 2 then .seq [0, 1, 2, 3, 4, 5, 6, 7, 8, 9, 10, 11, 12] .nil else if i = 3 then .seq [0, 1, 2, 3, 4, 5, 6, 7, 8, 9] .nil else if i = 4 then .seq [0, 1, 2, 3, 4, 5, 6, 7, 8, 9, 10, 11, 12, 13, 14] .nil else .nil
theorem s142_2 : s142 2 = .seq [0, 1, 2, 3, 4, 5, 6, 7, 8, 9, 10, 11, 12] .nil := rfl
theorem s142_3 : s142 3 = .seq [0, 1, 2, 3, 4, 5, 6, 7, 8, 9] .nil := rfl
theorem s142_4 : s142 4 = .seq [0, 1, 2, 3, 4, 5, 6, 7, 8, 9, 10, 11, 12, 13, 14] .nil := rfl
theorem s142_ok : okCode E 58 s142 (Try.f142.body.getD .skip) = true := by kernel_rfl
/-- the orders of impl.isLetters -/
def s143 (_ : Nat) : Tr := .nil
theorem s143_ok : okCode E 31 s143 (Try.f143.body.getD .skip) = true := by kernel_rfl
/-- the orders of laws.szTableS -/
def s144 (_ : Nat) : Tr := .nil
theorem s144_ok : okCode E 27 s144 (Try.f144.body.getD .skip) = true := by kernel_rfl
/-- the orders of laws.toTableS -/
def s145 (_ : Nat) : Tr := .nil
theorem s145_ok : okCode E 23 s145 (Try.f145.body.getD .skip) = true := by kernel_rfl
/-- the orders of laws.eqTableS -/
def s146 (i : Nat) : Tr := if i = 6 then .seq [0, 1, 2, 3, 4, 5, 6, 7, 8, 9] .nil else .nil
theorem s146_6 : s146 6 = .seq [0, 1, 2, 3, 4, 5, 6, 7, 8, 9] .nil := rfl
theorem s146_ok : okCode E 27 s146 (Try.f146.body.getD .skip) = true := by kernel_rfl
/-- the orders of spec.l5Copy -/
def s147 (i : Nat) : Tr := if i = 5 then .seq [0, 1, 3, 4, 5, 6, 7, 2] (.app 8 [15] (.seq [9, 10, 11, 12] .nil)) else .nil
theorem s147_5 : s147 5 = .seq [0, 1, 3, 4, 5, 6, 7, 2] (.app 8 [15] (.seq [9, 10, 11, 12] .nil)) := rfl
theorem s147_ok : okCode E 28 s147 (Try.f147.body.getD .skip) = true := by kernel_rfl
/-- the orders of spec.l4Row -/
def s148 (_ : Nat) : Tr := .nil
theorem s148_ok : okCode E 20 s148 (Try.f148.body.getD .skip) = true := by kernel_rfl
/-- the orders of spec.l5Sort -/
def s149 (i : Nat) : Tr := if i = 13 then .seq [0, 1, 2, 3, 4, 5, 6, 7] .nil else .nil
theorem s149_13 : s149 13 = .seq [0, 1, 2, 3, 4, 5, 6, 7] .nil := rfl
theorem s149_ok : okCode E 80 s149 (Try.f149.body.getD .skip) = true := by kernel_rfl
/-- the orders of impl.compareInts -/
def s150 (_ : Nat) : Tr := .nil
theorem s150_ok : okCode E 13 s150 (Try.f150.body.getD .skip) = true := by kernel_rfl
/-- the orders of laws.szTable -/
def s151 (_ : Nat) : Tr := .nil
theorem s151_ok : okCode E 19 s151 (Try.f151.body.getD .skip) = true := by kernel_rfl
/-- the orders of laws.toTable -/
def s152 (_ : Nat) : Tr := .nil
theorem s152_ok : okCode E 12 s152 (Try.f152.body.getD .skip) = true := by kernel_rfl
/-- the orders of laws.eqTable -/
def s153 (_ : Nat) : Tr := .nil
theorem s153_ok : okCode E 16 s153 (Try.f153.body.getD .skip) = true := by kernel_rfl
/-- the orders of laws.szRelation -/
def s154 (_ : Nat) : Tr := .nil
theorem s154_ok : okCode E 12 s154 (Try.f154.body.getD .skip) = true := by kernel_rfl
/-- the orders of laws.toRelation -/
def s155 (_ : Nat) : Tr := .nil
theorem s155_ok : okCode E 12 s155 (Try.f155.body.getD .skip) = true := by kernel_rfl
/-- the orders of laws.eqRelation -/
def s156 (_ : Nat) : Tr := .nil
theorem s156_ok : okCode E 16 s156 (Try.f156.body.getD .skip) = true := by kernel_rfl
end Go.Proofs.Ytmifoeaifdmgkaa

namespace Go.Proofs.Ytmifoeaifdmgkaa
open Go.Vs Go.Proofs Go
set_option maxRecDepth 100000
set_option maxHeartbeats 1000000


theorem w_laws_markText (k : Int) (h0 : 1 ≤ k) (h1 : k ≤ 4611686018427387904) :
   VC Try.prog 124 [.d (.int .i64 k)] (fun _ r => r = .d (.str (mtext k))) := by
  refine VC.of E s124 (by kernel_rfl) Try.func124 (by rfl) (by kernel_rfl) (by simp [Try.f124]) (by simp [Try.f124]) s124_ok fun B => ?_
  simp [Try.f124, show ¬ k ≤ 0 by omega]
  refine loop_rule (X := Nat × Int × List UInt8) (fun x => x.1 ≤ 64 ∧ 0 ≤ x.2.1 ∧ x.2.1 < 2 ^ x.1 ∧ x.2.2.length + x.1 = 64 ∧ mdig x.1 x.2.1 x.2.2 = mdig 64 k []) (fun x => [(0, .d (.int .i64 x.2.1)), (3, .d (.str x.2.2))]) (fun _ => []) (fun x => x.1) (64, k, []) ?_ (by simp) (by simp) ?_
  · simp; omega
  · rintro ⟨n, q, o⟩ hs t m ⟨hi1, hi2, hi3, hi4, hi5⟩ hh
    simp only at hi1 hi2 hi3 hi4 hi5
    by_cases hq : 0 < q
    · obtain ⟨n, rfl⟩ : ∃ n', n = n' + 1 := by
        cases n with
        | zero => simp at hi3; omega
        | succ n => exact ⟨n, rfl⟩
      have e1 : q.tmod 10 = q % 10 := Int.tmod_eq_emod_of_nonneg hi2
      have e2 : q.tdiv 10 = q / 10 := Int.tdiv_eq_ediv_of_nonneg hi2
      have hp : (2 : Int) ^ (n + 1) = 2 * 2 ^ n := by rw [Int.pow_succ]; omega
      have hb : (2 : Int) ^ n ≤ 2 ^ 63 := by
        have : n ≤ 63 := by omega
        exact_mod_cast Nat.pow_le_pow_right (by decide : 0 < 2) this
      simp only [hp] at hi3
      have e3 : IntKind.i64.wrap (48 + q.tmod 10) = 48 + q.tmod 10 := by rw [e1]; exact wrap64_of (by omega) (by omega)
      have e4 : IntKind.i64.wrap (q.tdiv 10) = q.tdiv 10 := by rw [e2]; exact wrap64_of (by omega) (by simp at hb; omega)
      simp [hq, e3, e4, isB, toB]
      refine ⟨by omega, ?_⟩
      refine back (n, q.tdiv 10, UInt8.ofNat (IntKind.u8.wrap (48 + q.tmod 10)).toNat :: o) ⟨by simp; omega, by simp [e2]; omega, by simp [e2]; omega, by simp at hi4 ⊢; omega, ?_⟩ (by simp) rfl (by simp) (by simp) (by simp)
      rw [← hi5]
      simp only [mdig, if_pos hq]
    · have hz : q = 0 := by omega
      subst hz
      have : mdig n 0 o = o := by cases n <;> simp [mdig]
      rw [this] at hi5
      simp [mtext, ← hi5]
      omega

end Go.Proofs.Ytmifoeaifdmgkaa

namespace Go.Proofs.Ytmifoeaifdmgkaa
open Go.Vs Go.Proofs Go
set_option maxRecDepth 100000
set_option maxHeartbeats 1000000

theorem w_laws_szIntS (a : Sl (Int)) (left : Int) (h0 : 0 ≤ left) (h1 : left ≤ 1048576) (ha : okS okI a) :
   VC Try.prog 52 [.d (dSl cI a), .d (.int .i64 left)] (fun _ r => r = .d (.int .i64 (szv left (swS swI a)))) := by
  refine VC.of E s52 (by kernel_rfl) Try.func52 (by rfl) (by kernel_rfl) (by simp [Try.f52]) (by simp [Try.f52]) s52_ok fun B => ?_
  have ha1 := ha.1
  simp only [maxLen] at ha1
  have hw1 : IntKind.i64.wrap (left - (a.xs.length : Int)) = left - a.xs.length := wrap64_of (by omega) (by omega)
  have hwt : swS swI a = a.xs.length + sumW swI a.xs := rfl
  simp [Try.f52, dSl, hw1]
  have hz : sumW swI a.xs = 0 := by
    generalize a.xs = l
    induction l with
    | nil => rfl
    | cons b r ih => simp [swI, ih]
  refine ⟨fun h => ?_, fun h => ?_⟩
  · rw [szv_neg (by omega)]
  · rw [szv_pos (by omega)]; omega
theorem w_laws_eqIntS (a b : Sl (Int)) (ha : okS okI a) :
   VC Try.prog 28 [.d (dSl cI a), .d (dSl cI b)] (fun _ r => r = .d (.bool (plS plI a == plS plI b))) := by
  refine VC.of E s28 (by kernel_rfl) Try.func28 (by rfl) (by kernel_rfl) (by simp [Try.f28]) (by simp [Try.f28]) s28_ok fun B => ?_
  have ha1 := ha.1
  simp only [maxLen] at ha1
  simp [Try.f28, s28_6, dSl, plS]
  refine ⟨fun h e => h (by have := congrArg List.length e; simp at this; omega), fun hl => ?_⟩
  have hl' : a.xs.length = b.xs.length := by omega
  refine loop_rule (X := Nat) (fun i => i ≤ a.xs.length ∧ (a.xs.map plI).take i = (b.xs.map plI).take i) (fun i => [(0, .d (.sl a.id a.T (a.xs.map cI))), (1, .d (.sl b.id b.T (b.xs.map cI))), (5, .d (.int .i64 i))]) (fun _ => []) (fun i => a.xs.length - i) 0 (by simp) (by simp) (by simp) ?_
  intro i hs t m hi hh
  by_cases hlt : i < a.xs.length
  · have hwi := wr1 (i := i) (by omega)
    have hlb : i < b.xs.length := by omega
    have hst := eqm_step plI hlt hlb hi.2
    simp [cI, hlt, hlb, hwi, s28_6, ]
    simp only [plI] at hst
    refine ⟨fun hne he => hne (hst.2 (by rw [he])), fun heq => ?_⟩
    exact back (i + 1) ⟨by omega, hst.1 heq⟩ (by omega) rfl (by simp) (by simp) (by simp)
  · have := eq_all (a := a.xs.map plI) (b := b.xs.map plI) (by simpa using Nat.le_of_not_lt hlt) (by simpa using hl') hi.2
    have hlb : ¬ i < b.xs.length := by omega
    simp [hlt, hlb, this]
theorem w_laws_szIntSS (a : Sl (Sl (Int))) (left : Int) (h0 : 0 ≤ left) (h1 : left ≤ 1048576) (ha : okS (okS okI) a) :
   VC Try.prog 51 [.d (dSl (cS cI) a), .d (.int .i64 left)] (fun _ r => r = .d (.int .i64 (szv left (swS (swS swI) a)))) := by
  refine VC.of E s51 (by kernel_rfl) Try.func51 (by rfl) (by kernel_rfl) (by simp [Try.f51]) (by simp [Try.f51]) s51_ok fun B => ?_
  have ha1 := ha.1
  simp only [maxLen] at ha1
  have hw1 : IntKind.i64.wrap (left - (a.xs.length : Int)) = left - a.xs.length := wrap64_of (by omega) (by omega)
  have hwt : swS (swS swI) a = a.xs.length + sumW (swS swI) a.xs := rfl
  simp [Try.f51, dSl, hw1]
  refine ⟨fun h => ?_, fun h => ?_⟩
  · rw [szv_neg (by omega)]
  · refine loop_rule (X := Nat) (fun i => i ≤ a.xs.length ∧ 0 ≤ left - a.xs.length - sumW (swS swI) (a.xs.take i)) (fun i => [(0, .d (.sl a.id a.T (a.xs.map (cS cI)))), (1, .d (.int .i64 (left - a.xs.length - sumW (swS swI) (a.xs.take i)))), (5, .d (.int .i64 i))]) (fun _ => []) (fun i => a.xs.length - i) 0 ?_ ?_ (by simp) ?_
    · simp; omega
    · simp
    · intro i hs t m hi hh
      by_cases hlt : i < a.xs.length
      · simp [cS, hlt]
        refine call_pure (w_laws_szIntS a.xs[i] _ (by omega) (by omega) (ha.2 _ (List.getElem_mem _))) rfl (by simp) rfl fun hs' hh' => ?_
        have e1 := sumW_succ (swS swI) hlt
        have e2 := sumW_le (swS swI) a.xs (i + 1)
        have hwi := wr1 (i := i) (by omega)
        by_cases hc : (swS swI a.xs[i] : Int) ≤ left - a.xs.length - sumW (swS swI) (a.xs.take i)
        · rw [szv_pos hc]
          have hn : ¬ left - a.xs.length - sumW (swS swI) (a.xs.take i) - swS swI a.xs[i] < 0 := by omega
          simp [hwi, hn]
          refine back (i + 1) ⟨by omega, by omega⟩ (by omega) rfl (by simp at hh' ⊢; omega) ?_ (by simp)
          simp
          omega
        · rw [szv_neg (by omega)]
          simp
          rw [szv_neg (by omega)]
          all_goals exact fun h => absurd h (by decide)
      · have : i = a.xs.length := by omega
        subst this
        simp
        rw [szv_pos] <;> (simp at hi ⊢; omega)
theorem w_laws_eqIntSS (a b : Sl (Sl (Int))) (ha : okS (okS okI) a) :
   VC Try.prog 59 [.d (dSl (cS cI) a), .d (dSl (cS cI) b)] (fun _ r => r = .d (.bool (plS (plS plI) a == plS (plS plI) b))) := by
  refine VC.of E s59 (by kernel_rfl) Try.func59 (by rfl) (by kernel_rfl) (by simp [Try.f59]) (by simp [Try.f59]) s59_ok fun B => ?_
  have ha1 := ha.1
  simp only [maxLen] at ha1
  simp [Try.f59, s59_6, dSl, plS]
  refine ⟨fun h e => h (by have := congrArg List.length e; simp at this; omega), fun hl => ?_⟩
  have hl' : a.xs.length = b.xs.length := by omega
  refine loop_rule (X := Nat) (fun i => i ≤ a.xs.length ∧ (a.xs.map (plS plI)).take i = (b.xs.map (plS plI)).take i) (fun i => [(0, .d (.sl a.id a.T (a.xs.map (cS cI)))), (1, .d (.sl b.id b.T (b.xs.map (cS cI)))), (5, .d (.int .i64 i))]) (fun _ => []) (fun i => a.xs.length - i) 0 (by simp) (by simp) (by simp) ?_
  intro i hs t m hi hh
  by_cases hlt : i < a.xs.length
  · have hwi := wr1 (i := i) (by omega)
    have hlb : i < b.xs.length := by omega
    have hst := eqm_step (plS plI) hlt hlb hi.2
    simp [cS, hlt, hlb, s59_6, ]
    refine call_pure (w_laws_eqIntS a.xs[i] b.xs[i] (ha.2 _ (List.getElem_mem _))) rfl (by simp) rfl fun hs' hh' => ?_
    simp at hh'
    simp [hwi]
    refine ⟨fun hne he => hne (hst.2 (by rw [he])), fun heq => ?_⟩
    exact back (i + 1) ⟨by omega, hst.1 heq⟩ (by omega) rfl (by simp; omega) (by simp) (by simp)
  · have := eq_all (a := a.xs.map (plS plI)) (b := b.xs.map (plS plI)) (by simpa using Nat.le_of_not_lt hlt) (by simpa using hl') hi.2
    have hlb : ¬ i < b.xs.length := by omega
    simp [hlt, hlb, this]
theorem w_laws_szRelation (a : Reln) (left : Int) (h0 : 0 ≤ left) (h1 : left ≤ 1048576) (ha : okReln a) :
   VC Try.prog 154 [.agg ((cReln a).map V.d), .d (.int .i64 left)] (fun _ r => r = .d (.int .i64 (szv left (swReln a)))) := by
  refine VC.of E s154 (by kernel_rfl) Try.func154 (by rfl) (by kernel_rfl) (by simp [Try.f154]) (by simp [Try.f154]) s154_ok fun B => ?_
  have hwt : swReln a = swS (swS swI) a.rows := rfl
  have hc0 : (0 : Int) ≤ left := h0
  simp [Try.f154, cI, cReln, cS, dSl]
  refine call_pure (w_laws_szIntSS a.rows _ (by omega) (by omega) ha.2) rfl (by simp) rfl fun hs' hh' => ?_
  by_cases hb0 : (swS (swS swI) a.rows : Int) ≤ left
  · rw [szv_pos hb0]
    have hn0 : ¬ left - swS (swS swI) a.rows < 0 := by omega
    simp [hn0]
    rw [szv_pos (by omega)]; omega
  · rw [szv_neg (by omega)]
    simp
    try rw [szv_neg (by omega)]
    all_goals exact fun h => absurd h (by decide)
theorem w_laws_eqRelation (a b : Reln) (ha : okReln a) :
   VC Try.prog 156 [.agg ((cReln a).map V.d), .agg ((cReln b).map V.d)] (fun _ r => r = .d (.bool (plReln a == plReln b))) := by
  refine VC.of E s156 (by kernel_rfl) Try.func156 (by rfl) (by kernel_rfl) (by simp [Try.f156]) (by simp [Try.f156]) s156_ok fun B => ?_
  simp [Try.f156, cI, cReln, cS, dSl, plReln, plI, plStr]
  by_cases e0 : a.ar = b.ar
  case neg => simp [e0]
  simp [e0]
  refine call_pure (w_laws_eqIntSS a.rows b.rows ha.2) rfl (by simp) rfl fun hs1 hh1 => ?_
  by_cases e1 : plS (plS plI) a.rows = plS (plS plI) b.rows
  case neg => simp [e1]
  simp [e1]
theorem w_laws_szTable (a : Tab) (left : Int) (h0 : 0 ≤ left) (h1 : left ≤ 1048576) (ha : okTab a) :
   VC Try.prog 151 [.agg ((cTab a).map V.d), .d (.int .i64 left)] (fun _ r => r = .d (.int .i64 (szv left (swTab a)))) := by
  refine VC.of E s151 (by kernel_rfl) Try.func151 (by rfl) (by kernel_rfl) (by simp [Try.f151]) (by simp [Try.f151]) s151_ok fun B => ?_
  have hwt : swTab a = swStr a.name + swReln a.rel := rfl
  have hc0 : (0 : Int) ≤ left := h0
  have hs0 : a.name.length ≤ 9223372036854775807 := ha.1
  have hw0 : IntKind.i64.wrap (left - (a.name.length : Int)) = left - a.name.length := wrap64_of (by omega) (by omega)
  have hq0 : swStr a.name = a.name.length := rfl
  simp [Try.f151, cI, cReln, cS, cStr, cTab, dSl, hw0]
  refine ⟨fun hneg => ?_, fun hpos => ?_⟩
  · rw [szv_neg (by omega)]
  · skip
    refine call_pure (w_laws_szRelation a.rel _ (by omega) (by omega) ha.2) rfl (by simp) rfl fun hs' hh' => ?_
    by_cases hb1 : (swReln a.rel : Int) ≤ left - a.name.length
    · rw [szv_pos hb1]
      have hn1 : ¬ left - a.name.length - swReln a.rel < 0 := by omega
      simp [hn1]
      rw [szv_pos (by omega)]; omega
    · rw [szv_neg (by omega)]
      simp
      try rw [szv_neg (by omega)]
      all_goals exact fun h => absurd h (by decide)
theorem w_laws_eqTable (a b : Tab) (ha : okTab a) :
   VC Try.prog 153 [.agg ((cTab a).map V.d), .agg ((cTab b).map V.d)] (fun _ r => r = .d (.bool (plTab a == plTab b))) := by
  refine VC.of E s153 (by kernel_rfl) Try.func153 (by rfl) (by kernel_rfl) (by simp [Try.f153]) (by simp [Try.f153]) s153_ok fun B => ?_
  simp [Try.f153, cI, cReln, cS, cStr, cTab, dSl, plTab, plI, plStr]
  by_cases e0 : a.name = b.name
  case neg => simp [e0]
  simp [e0]
  refine call_pure (w_laws_eqRelation a.rel b.rel ha.2) rfl (by simp) rfl fun hs1 hh1 => ?_
  by_cases e1 : plReln a.rel = plReln b.rel
  case neg => simp [e1]
  simp [e1]
theorem w_laws_szTableS (a : Sl (Tab)) (left : Int) (h0 : 0 ≤ left) (h1 : left ≤ 1048576) (ha : okS okTab a) :
   VC Try.prog 144 [.d (dSl cTab a), .d (.int .i64 left)] (fun _ r => r = .d (.int .i64 (szv left (swS swTab a)))) := by
  refine VC.of E s144 (by kernel_rfl) Try.func144 (by rfl) (by kernel_rfl) (by simp [Try.f144]) (by simp [Try.f144]) s144_ok fun B => ?_
  have ha1 := ha.1
  simp only [maxLen] at ha1
  have hw1 : IntKind.i64.wrap (left - (a.xs.length : Int)) = left - a.xs.length := wrap64_of (by omega) (by omega)
  have hwt : swS swTab a = a.xs.length + sumW swTab a.xs := rfl
  simp [Try.f144, dSl, hw1]
  refine ⟨fun h => ?_, fun h => ?_⟩
  · rw [szv_neg (by omega)]
  · refine loop_rule (X := Nat) (fun i => i ≤ a.xs.length ∧ 0 ≤ left - a.xs.length - sumW swTab (a.xs.take i)) (fun i => [(0, .d (.sl a.id a.T (a.xs.map cTab))), (1, .d (.int .i64 (left - a.xs.length - sumW swTab (a.xs.take i)))), (5, .d (.int .i64 i))]) (fun _ => []) (fun i => a.xs.length - i) 0 ?_ ?_ (by simp) ?_
    · simp; omega
    · simp
    · intro i hs t m hi hh
      by_cases hlt : i < a.xs.length
      · simp [cI, cReln, cS, cStr, cTab, hlt]
        refine call_pure (w_laws_szTable a.xs[i] _ (by omega) (by omega) (ha.2 _ (List.getElem_mem _))) rfl (by simp) rfl fun hs' hh' => ?_
        have e1 := sumW_succ swTab hlt
        have e2 := sumW_le swTab a.xs (i + 1)
        have hwi := wr1 (i := i) (by omega)
        by_cases hc : (swTab a.xs[i] : Int) ≤ left - a.xs.length - sumW swTab (a.xs.take i)
        · rw [szv_pos hc]
          have hn : ¬ left - a.xs.length - sumW swTab (a.xs.take i) - swTab a.xs[i] < 0 := by omega
          simp [hwi, hn]
          refine back (i + 1) ⟨by omega, by omega⟩ (by omega) rfl (by simp at hh' ⊢; omega) ?_ (by simp)
          simp
          omega
        · rw [szv_neg (by omega)]
          simp
          rw [szv_neg (by omega)]
          all_goals exact fun h => absurd h (by decide)
      · have : i = a.xs.length := by omega
        subst this
        simp
        rw [szv_pos] <;> (simp at hi ⊢; omega)
theorem w_laws_eqTableS (a b : Sl (Tab)) (ha : okS okTab a) :
   VC Try.prog 146 [.d (dSl cTab a), .d (dSl cTab b)] (fun _ r => r = .d (.bool (plS plTab a == plS plTab b))) := by
  refine VC.of E s146 (by kernel_rfl) Try.func146 (by rfl) (by kernel_rfl) (by simp [Try.f146]) (by simp [Try.f146]) s146_ok fun B => ?_
  have ha1 := ha.1
  simp only [maxLen] at ha1
  simp [Try.f146, s146_6, dSl, plS]
  refine ⟨fun h e => h (by have := congrArg List.length e; simp at this; omega), fun hl => ?_⟩
  have hl' : a.xs.length = b.xs.length := by omega
  refine loop_rule (X := Nat) (fun i => i ≤ a.xs.length ∧ (a.xs.map plTab).take i = (b.xs.map plTab).take i) (fun i => [(0, .d (.sl a.id a.T (a.xs.map cTab))), (1, .d (.sl b.id b.T (b.xs.map cTab))), (5, .d (.int .i64 i))]) (fun _ => []) (fun i => a.xs.length - i) 0 (by simp) (by simp) (by simp) ?_
  intro i hs t m hi hh
  by_cases hlt : i < a.xs.length
  · have hwi := wr1 (i := i) (by omega)
    have hlb : i < b.xs.length := by omega
    have hst := eqm_step plTab hlt hlb hi.2
    simp [cI, cReln, cS, cStr, cTab, hlt, hlb, s146_6, ]
    refine call_pure (w_laws_eqTable a.xs[i] b.xs[i] (ha.2 _ (List.getElem_mem _))) rfl (by simp) rfl fun hs' hh' => ?_
    simp at hh'
    simp [hwi]
    refine ⟨fun hne he => hne (hst.2 (by rw [he])), fun heq => ?_⟩
    exact back (i + 1) ⟨by omega, hst.1 heq⟩ (by omega) rfl (by simp; omega) (by simp) (by simp)
  · have := eq_all (a := a.xs.map plTab) (b := b.xs.map plTab) (by simpa using Nat.le_of_not_lt hlt) (by simpa using hl') hi.2
    have hlb : ¬ i < b.xs.length := by omega
    simp [hlt, hlb, this]
theorem w_laws_szDatabase (a : Db) (left : Int) (h0 : 0 ≤ left) (h1 : left ≤ 1048576) (ha : okDb a) :
   VC Try.prog 131 [.agg ((cDb a).map V.d), .d (.int .i64 left)] (fun _ r => r = .d (.int .i64 (szv left (swDb a)))) := by
  refine VC.of E s131 (by kernel_rfl) Try.func131 (by rfl) (by kernel_rfl) (by simp [Try.f131]) (by simp [Try.f131]) s131_ok fun B => ?_
  have hwt : swDb a = swS swTab a.tabs := rfl
  have hc0 : (0 : Int) ≤ left := h0
  simp [Try.f131, cDb, cS, dSl]
  refine call_pure (w_laws_szTableS a.tabs _ (by omega) (by omega) ha) rfl (by simp) rfl fun hs' hh' => ?_
  by_cases hb0 : (swS swTab a.tabs : Int) ≤ left
  · rw [szv_pos hb0]
    have hn0 : ¬ left - swS swTab a.tabs < 0 := by omega
    simp [hn0]
    rw [szv_pos (by omega)]; omega
  · rw [szv_neg (by omega)]
    simp
    try rw [szv_neg (by omega)]
    all_goals exact fun h => absurd h (by decide)
theorem w_laws_eqDatabase (a b : Db) (ha : okDb a) :
   VC Try.prog 134 [.agg ((cDb a).map V.d), .agg ((cDb b).map V.d)] (fun _ r => r = .d (.bool (plDb a == plDb b))) := by
  refine VC.of E s134 (by kernel_rfl) Try.func134 (by rfl) (by kernel_rfl) (by simp [Try.f134]) (by simp [Try.f134]) s134_ok fun B => ?_
  simp [Try.f134, cDb, cS, dSl, plDb, plI, plStr]
  refine call_pure (w_laws_eqTableS a.tabs b.tabs ha) rfl (by simp) rfl fun hs0 hh0 => ?_
  by_cases e0 : plS plTab a.tabs = plS plTab b.tabs
  case neg => simp [e0]
  simp [e0]
theorem w_laws_szAtom (a : Atom) (left : Int) (h0 : 0 ≤ left) (h1 : left ≤ 1048576) (ha : okAtom a) :
   VC Try.prog 117 [.agg ((cAtom a).map V.d), .d (.int .i64 left)] (fun _ r => r = .d (.int .i64 (szv left (swAtom a)))) := by
  refine VC.of E s117 (by kernel_rfl) Try.func117 (by rfl) (by kernel_rfl) (by simp [Try.f117]) (by simp [Try.f117]) s117_ok fun B => ?_
  have hwt : swAtom a = swStr a.rel + swS swI a.vars := rfl
  have hc0 : (0 : Int) ≤ left := h0
  have hs0 : a.rel.length ≤ 9223372036854775807 := ha.1
  have hw0 : IntKind.i64.wrap (left - (a.rel.length : Int)) = left - a.rel.length := wrap64_of (by omega) (by omega)
  have hq0 : swStr a.rel = a.rel.length := rfl
  simp [Try.f117, cAtom, cS, cStr, dSl, hw0]
  refine ⟨fun hneg => ?_, fun hpos => ?_⟩
  · rw [szv_neg (by omega)]
  · skip
    refine call_pure (w_laws_szIntS a.vars _ (by omega) (by omega) ha.2) rfl (by simp) rfl fun hs' hh' => ?_
    by_cases hb1 : (swS swI a.vars : Int) ≤ left - a.rel.length
    · rw [szv_pos hb1]
      have hn1 : ¬ left - a.rel.length - swS swI a.vars < 0 := by omega
      simp [hn1]
      rw [szv_pos (by omega)]; omega
    · rw [szv_neg (by omega)]
      simp
      try rw [szv_neg (by omega)]
      all_goals exact fun h => absurd h (by decide)
theorem w_laws_eqAtom (a b : Atom) (ha : okAtom a) :
   VC Try.prog 123 [.agg ((cAtom a).map V.d), .agg ((cAtom b).map V.d)] (fun _ r => r = .d (.bool (plAtom a == plAtom b))) := by
  refine VC.of E s123 (by kernel_rfl) Try.func123 (by rfl) (by kernel_rfl) (by simp [Try.f123]) (by simp [Try.f123]) s123_ok fun B => ?_
  simp [Try.f123, cAtom, cS, cStr, dSl, plAtom, plI, plStr]
  by_cases e0 : a.rel = b.rel
  case neg => simp [e0]
  simp [e0]
  refine call_pure (w_laws_eqIntS a.vars b.vars ha.2) rfl (by simp) rfl fun hs1 hh1 => ?_
  by_cases e1 : plS plI a.vars = plS plI b.vars
  case neg => simp [e1]
  simp [e1]
theorem w_laws_szAtomS (a : Sl (Atom)) (left : Int) (h0 : 0 ≤ left) (h1 : left ≤ 1048576) (ha : okS okAtom a) :
   VC Try.prog 60 [.d (dSl cAtom a), .d (.int .i64 left)] (fun _ r => r = .d (.int .i64 (szv left (swS swAtom a)))) := by
  refine VC.of E s60 (by kernel_rfl) Try.func60 (by rfl) (by kernel_rfl) (by simp [Try.f60]) (by simp [Try.f60]) s60_ok fun B => ?_
  have ha1 := ha.1
  simp only [maxLen] at ha1
  have hw1 : IntKind.i64.wrap (left - (a.xs.length : Int)) = left - a.xs.length := wrap64_of (by omega) (by omega)
  have hwt : swS swAtom a = a.xs.length + sumW swAtom a.xs := rfl
  simp [Try.f60, dSl, hw1]
  refine ⟨fun h => ?_, fun h => ?_⟩
  · rw [szv_neg (by omega)]
  · refine loop_rule (X := Nat) (fun i => i ≤ a.xs.length ∧ 0 ≤ left - a.xs.length - sumW swAtom (a.xs.take i)) (fun i => [(0, .d (.sl a.id a.T (a.xs.map cAtom))), (1, .d (.int .i64 (left - a.xs.length - sumW swAtom (a.xs.take i)))), (5, .d (.int .i64 i))]) (fun _ => []) (fun i => a.xs.length - i) 0 ?_ ?_ (by simp) ?_
    · simp; omega
    · simp
    · intro i hs t m hi hh
      by_cases hlt : i < a.xs.length
      · simp [cAtom, cS, cStr, hlt]
        refine call_pure (w_laws_szAtom a.xs[i] _ (by omega) (by omega) (ha.2 _ (List.getElem_mem _))) rfl (by simp) rfl fun hs' hh' => ?_
        have e1 := sumW_succ swAtom hlt
        have e2 := sumW_le swAtom a.xs (i + 1)
        have hwi := wr1 (i := i) (by omega)
        by_cases hc : (swAtom a.xs[i] : Int) ≤ left - a.xs.length - sumW swAtom (a.xs.take i)
        · rw [szv_pos hc]
          have hn : ¬ left - a.xs.length - sumW swAtom (a.xs.take i) - swAtom a.xs[i] < 0 := by omega
          simp [hwi, hn]
          refine back (i + 1) ⟨by omega, by omega⟩ (by omega) rfl (by simp at hh' ⊢; omega) ?_ (by simp)
          simp
          omega
        · rw [szv_neg (by omega)]
          simp
          rw [szv_neg (by omega)]
          all_goals exact fun h => absurd h (by decide)
      · have : i = a.xs.length := by omega
        subst this
        simp
        rw [szv_pos] <;> (simp at hi ⊢; omega)
theorem w_laws_eqAtomS (a b : Sl (Atom)) (ha : okS okAtom a) :
   VC Try.prog 66 [.d (dSl cAtom a), .d (dSl cAtom b)] (fun _ r => r = .d (.bool (plS plAtom a == plS plAtom b))) := by
  refine VC.of E s66 (by kernel_rfl) Try.func66 (by rfl) (by kernel_rfl) (by simp [Try.f66]) (by simp [Try.f66]) s66_ok fun B => ?_
  have ha1 := ha.1
  simp only [maxLen] at ha1
  simp [Try.f66, s66_6, dSl, plS]
  refine ⟨fun h e => h (by have := congrArg List.length e; simp at this; omega), fun hl => ?_⟩
  have hl' : a.xs.length = b.xs.length := by omega
  refine loop_rule (X := Nat) (fun i => i ≤ a.xs.length ∧ (a.xs.map plAtom).take i = (b.xs.map plAtom).take i) (fun i => [(0, .d (.sl a.id a.T (a.xs.map cAtom))), (1, .d (.sl b.id b.T (b.xs.map cAtom))), (5, .d (.int .i64 i))]) (fun _ => []) (fun i => a.xs.length - i) 0 (by simp) (by simp) (by simp) ?_
  intro i hs t m hi hh
  by_cases hlt : i < a.xs.length
  · have hwi := wr1 (i := i) (by omega)
    have hlb : i < b.xs.length := by omega
    have hst := eqm_step plAtom hlt hlb hi.2
    simp [cAtom, cS, cStr, hlt, hlb, s66_6, ]
    refine call_pure (w_laws_eqAtom a.xs[i] b.xs[i] (ha.2 _ (List.getElem_mem _))) rfl (by simp) rfl fun hs' hh' => ?_
    simp at hh'
    simp [hwi]
    refine ⟨fun hne he => hne (hst.2 (by rw [he])), fun heq => ?_⟩
    exact back (i + 1) ⟨by omega, hst.1 heq⟩ (by omega) rfl (by simp; omega) (by simp) (by simp)
  · have := eq_all (a := a.xs.map plAtom) (b := b.xs.map plAtom) (by simpa using Nat.le_of_not_lt hlt) (by simpa using hl') hi.2
    have hlb : ¬ i < b.xs.length := by omega
    simp [hlt, hlb, this]
theorem w_laws_szQuery (a : Query) (left : Int) (h0 : 0 ≤ left) (h1 : left ≤ 1048576) (ha : okQuery a) :
   VC Try.prog 15 [.agg ((cQuery a).map V.d), .d (.int .i64 left)] (fun _ r => r = .d (.int .i64 (szv left (swQuery a)))) := by
  refine VC.of E s15 (by kernel_rfl) Try.func15 (by rfl) (by kernel_rfl) (by simp [Try.f15]) (by simp [Try.f15]) s15_ok fun B => ?_
  have hwt : swQuery a = swS swAtom a.atoms + swS swI a.out := rfl
  have hc0 : (0 : Int) ≤ left := h0
  simp [Try.f15, cI, cQuery, cS, dSl]
  refine call_pure (w_laws_szAtomS a.atoms _ (by omega) (by omega) ha.2.1) rfl (by simp) rfl fun hs' hh' => ?_
  by_cases hb0 : (swS swAtom a.atoms : Int) ≤ left
  · rw [szv_pos hb0]
    have hn0 : ¬ left - swS swAtom a.atoms < 0 := by omega
    simp [hn0]
    refine call_pure (w_laws_szIntS a.out _ (by omega) (by omega) ha.2.2) rfl (by simp) rfl fun hs' hh' => ?_
    by_cases hb1 : (swS swI a.out : Int) ≤ left - swS swAtom a.atoms
    · rw [szv_pos hb1]
      have hn1 : ¬ left - swS swAtom a.atoms - swS swI a.out < 0 := by omega
      simp [hn1]
      rw [szv_pos (by omega)]; omega
    · rw [szv_neg (by omega)]
      simp
      try rw [szv_neg (by omega)]
      all_goals exact fun h => absurd h (by decide)
  · rw [szv_neg (by omega)]
    simp
    try rw [szv_neg (by omega)]
    all_goals exact fun h => absurd h (by decide)
theorem w_laws_eqQuery (a b : Query) (ha : okQuery a) :
   VC Try.prog 19 [.agg ((cQuery a).map V.d), .agg ((cQuery b).map V.d)] (fun _ r => r = .d (.bool (plQuery a == plQuery b))) := by
  refine VC.of E s19 (by kernel_rfl) Try.func19 (by rfl) (by kernel_rfl) (by simp [Try.f19]) (by simp [Try.f19]) s19_ok fun B => ?_
  simp [Try.f19, cI, cQuery, cS, dSl, plQuery, plI, plStr]
  by_cases e0 : a.n = b.n
  case neg => simp [e0]
  simp [e0]
  refine call_pure (w_laws_eqAtomS a.atoms b.atoms ha.2.1) rfl (by simp) rfl fun hs1 hh1 => ?_
  by_cases e1 : plS plAtom a.atoms = plS plAtom b.atoms
  case neg => simp [e1]
  simp [e1]
  refine call_pure (w_laws_eqIntS a.out b.out ha.2.2) rfl (by simp) rfl fun hs2 hh2 => ?_
  by_cases e2 : plS plI a.out = plS plI b.out
  case neg => simp [e2]
  simp [e2]
theorem w_laws_szDecomposition (a : Dec) (left : Int) (h0 : 0 ≤ left) (h1 : left ≤ 1048576) (ha : okDec a) :
   VC Try.prog 10 [.agg ((cDec a).map V.d), .d (.int .i64 left)] (fun _ r => r = .d (.int .i64 (szv left (swDec a)))) := by
  refine VC.of E s10 (by kernel_rfl) Try.func10 (by rfl) (by kernel_rfl) (by simp [Try.f10]) (by simp [Try.f10]) s10_ok fun B => ?_
  have hwt : swDec a = swS (swS swI) a.bags + swS swI a.par := rfl
  have hc0 : (0 : Int) ≤ left := h0
  simp [Try.f10, cDec, cS, dSl]
  refine call_pure (w_laws_szIntSS a.bags _ (by omega) (by omega) ha.1) rfl (by simp) rfl fun hs' hh' => ?_
  by_cases hb0 : (swS (swS swI) a.bags : Int) ≤ left
  · rw [szv_pos hb0]
    have hn0 : ¬ left - swS (swS swI) a.bags < 0 := by omega
    simp [hn0]
    refine call_pure (w_laws_szIntS a.par _ (by omega) (by omega) ha.2) rfl (by simp) rfl fun hs' hh' => ?_
    by_cases hb1 : (swS swI a.par : Int) ≤ left - swS (swS swI) a.bags
    · rw [szv_pos hb1]
      have hn1 : ¬ left - swS (swS swI) a.bags - swS swI a.par < 0 := by omega
      simp [hn1]
      rw [szv_pos (by omega)]; omega
    · rw [szv_neg (by omega)]
      simp
      try rw [szv_neg (by omega)]
      all_goals exact fun h => absurd h (by decide)
  · rw [szv_neg (by omega)]
    simp
    try rw [szv_neg (by omega)]
    all_goals exact fun h => absurd h (by decide)
theorem w_laws_eqDecomposition (a b : Dec) (ha : okDec a) :
   VC Try.prog 14 [.agg ((cDec a).map V.d), .agg ((cDec b).map V.d)] (fun _ r => r = .d (.bool (plDec a == plDec b))) := by
  refine VC.of E s14 (by kernel_rfl) Try.func14 (by rfl) (by kernel_rfl) (by simp [Try.f14]) (by simp [Try.f14]) s14_ok fun B => ?_
  simp [Try.f14, cDec, cS, dSl, plDec, plI, plStr]
  refine call_pure (w_laws_eqIntSS a.bags b.bags ha.1) rfl (by simp) rfl fun hs0 hh0 => ?_
  by_cases e0 : plS (plS plI) a.bags = plS (plS plI) b.bags
  case neg => simp [e0]
  simp [e0]
  refine call_pure (w_laws_eqIntS a.par b.par ha.2) rfl (by simp) rfl fun hs1 hh1 => ?_
  by_cases e1 : plS plI a.par = plS plI b.par
  case neg => simp [e1]
  simp [e1]
theorem w_laws_szDatabaseS (a : Sl (Db)) (left : Int) (h0 : 0 ≤ left) (h1 : left ≤ 1048576) (ha : okS okDb a) :
   VC Try.prog 88 [.d (dSl cDb a), .d (.int .i64 left)] (fun _ r => r = .d (.int .i64 (szv left (swS swDb a)))) := by
  refine VC.of E s88 (by kernel_rfl) Try.func88 (by rfl) (by kernel_rfl) (by simp [Try.f88]) (by simp [Try.f88]) s88_ok fun B => ?_
  have ha1 := ha.1
  simp only [maxLen] at ha1
  have hw1 : IntKind.i64.wrap (left - (a.xs.length : Int)) = left - a.xs.length := wrap64_of (by omega) (by omega)
  have hwt : swS swDb a = a.xs.length + sumW swDb a.xs := rfl
  simp [Try.f88, dSl, hw1]
  refine ⟨fun h => ?_, fun h => ?_⟩
  · rw [szv_neg (by omega)]
  · refine loop_rule (X := Nat) (fun i => i ≤ a.xs.length ∧ 0 ≤ left - a.xs.length - sumW swDb (a.xs.take i)) (fun i => [(0, .d (.sl a.id a.T (a.xs.map cDb))), (1, .d (.int .i64 (left - a.xs.length - sumW swDb (a.xs.take i)))), (5, .d (.int .i64 i))]) (fun _ => []) (fun i => a.xs.length - i) 0 ?_ ?_ (by simp) ?_
    · simp; omega
    · simp
    · intro i hs t m hi hh
      by_cases hlt : i < a.xs.length
      · simp [cDb, cS, hlt]
        refine call_pure (w_laws_szDatabase a.xs[i] _ (by omega) (by omega) (ha.2 _ (List.getElem_mem _))) rfl (by simp) rfl fun hs' hh' => ?_
        have e1 := sumW_succ swDb hlt
        have e2 := sumW_le swDb a.xs (i + 1)
        have hwi := wr1 (i := i) (by omega)
        by_cases hc : (swDb a.xs[i] : Int) ≤ left - a.xs.length - sumW swDb (a.xs.take i)
        · rw [szv_pos hc]
          have hn : ¬ left - a.xs.length - sumW swDb (a.xs.take i) - swDb a.xs[i] < 0 := by omega
          simp [hwi, hn]
          refine back (i + 1) ⟨by omega, by omega⟩ (by omega) rfl (by simp at hh' ⊢; omega) ?_ (by simp)
          simp
          omega
        · rw [szv_neg (by omega)]
          simp
          rw [szv_neg (by omega)]
          all_goals exact fun h => absurd h (by decide)
      · have : i = a.xs.length := by omega
        subst this
        simp
        rw [szv_pos] <;> (simp at hi ⊢; omega)
theorem w_laws_eqDatabaseS (a b : Sl (Db)) (ha : okS okDb a) :
   VC Try.prog 92 [.d (dSl cDb a), .d (dSl cDb b)] (fun _ r => r = .d (.bool (plS plDb a == plS plDb b))) := by
  refine VC.of E s92 (by kernel_rfl) Try.func92 (by rfl) (by kernel_rfl) (by simp [Try.f92]) (by simp [Try.f92]) s92_ok fun B => ?_
  have ha1 := ha.1
  simp only [maxLen] at ha1
  simp [Try.f92, s92_6, dSl, plS]
  refine ⟨fun h e => h (by have := congrArg List.length e; simp at this; omega), fun hl => ?_⟩
  have hl' : a.xs.length = b.xs.length := by omega
  refine loop_rule (X := Nat) (fun i => i ≤ a.xs.length ∧ (a.xs.map plDb).take i = (b.xs.map plDb).take i) (fun i => [(0, .d (.sl a.id a.T (a.xs.map cDb))), (1, .d (.sl b.id b.T (b.xs.map cDb))), (5, .d (.int .i64 i))]) (fun _ => []) (fun i => a.xs.length - i) 0 (by simp) (by simp) (by simp) ?_
  intro i hs t m hi hh
  by_cases hlt : i < a.xs.length
  · have hwi := wr1 (i := i) (by omega)
    have hlb : i < b.xs.length := by omega
    have hst := eqm_step plDb hlt hlb hi.2
    simp [cDb, cS, hlt, hlb, s92_6, ]
    refine call_pure (w_laws_eqDatabase a.xs[i] b.xs[i] (ha.2 _ (List.getElem_mem _))) rfl (by simp) rfl fun hs' hh' => ?_
    simp at hh'
    simp [hwi]
    refine ⟨fun hne he => hne (hst.2 (by rw [he])), fun heq => ?_⟩
    exact back (i + 1) ⟨by omega, hst.1 heq⟩ (by omega) rfl (by simp; omega) (by simp) (by simp)
  · have := eq_all (a := a.xs.map plDb) (b := b.xs.map plDb) (by simpa using Nat.le_of_not_lt hlt) (by simpa using hl') hi.2
    have hlb : ¬ i < b.xs.length := by omega
    simp [hlt, hlb, this]
theorem w_laws_szHistory (a : Hist) (left : Int) (h0 : 0 ≤ left) (h1 : left ≤ 1048576) (ha : okHist a) :
   VC Try.prog 30 [.agg ((cHist a).map V.d), .d (.int .i64 left)] (fun _ r => r = .d (.int .i64 (szv left (swHist a)))) := by
  refine VC.of E s30 (by kernel_rfl) Try.func30 (by rfl) (by kernel_rfl) (by simp [Try.f30]) (by simp [Try.f30]) s30_ok fun B => ?_
  have hwt : swHist a = swS swDb a.dbs := rfl
  have hc0 : (0 : Int) ≤ left := h0
  simp [Try.f30, cHist, cI, cS, dSl]
  refine call_pure (w_laws_szDatabaseS a.dbs _ (by omega) (by omega) ha.2) rfl (by simp) rfl fun hs' hh' => ?_
  by_cases hb0 : (swS swDb a.dbs : Int) ≤ left
  · rw [szv_pos hb0]
    have hn0 : ¬ left - swS swDb a.dbs < 0 := by omega
    simp [hn0]
    rw [szv_pos (by omega)]; omega
  · rw [szv_neg (by omega)]
    simp
    try rw [szv_neg (by omega)]
    all_goals exact fun h => absurd h (by decide)
theorem w_laws_eqHistory (a b : Hist) (ha : okHist a) :
   VC Try.prog 34 [.agg ((cHist a).map V.d), .agg ((cHist b).map V.d)] (fun _ r => r = .d (.bool (plHist a == plHist b))) := by
  refine VC.of E s34 (by kernel_rfl) Try.func34 (by rfl) (by kernel_rfl) (by simp [Try.f34]) (by simp [Try.f34]) s34_ok fun B => ?_
  simp [Try.f34, cHist, cI, cS, dSl, plHist, plI, plStr]
  by_cases e0 : a.first = b.first
  case neg => simp [e0]
  simp [e0]
  refine call_pure (w_laws_eqDatabaseS a.dbs b.dbs ha.2) rfl (by simp) rfl fun hs1 hh1 => ?_
  by_cases e1 : plS plDb a.dbs = plS plDb b.dbs
  case neg => simp [e1]
  simp [e1]

end Go.Proofs.Ytmifoeaifdmgkaa

namespace Go.Proofs.Ytmifoeaifdmgkaa
open Go.Vs Go.Proofs Go
set_option maxRecDepth 100000
set_option maxHeartbeats 1000000

theorem w_laws_toIntS (a : Sl (Int)) (ha : okS okI a) (hb : a.xs.length ≤ 1048576) :
   VC Try.prog 26 [.d (dSl cI a)] (fun n r => ∃ y : Sl (Int), r = .d (dSl cI y) ∧ plS plI y = plS plI a ∧ okS okI y ∧ Good (cS cI y) (whS whI y) n) := by
  refine VC.of E s26 (by kernel_rfl) Try.func26 (by rfl) (by kernel_rfl) (by simp [Try.f26]) (by simp [Try.f26]) s26_ok fun B => ?_
  simp [Try.f26, dSl]
  refine ⟨⟨by omega, by simp only [maxLen]; omega⟩, ?_⟩
  refine loop_rule (X := Nat) (fun i => i ≤ a.xs.length) (fun i => [(0, .d (.sl a.id a.T (a.xs.map cI))), (3, .own 7 0 a.xs.length), (4, .d (.int .i64 i))]) (fun i => [(7, some (.row 3 1 (fill [.int .i64 0] (a.xs.map cI) i)))]) (fun i => a.xs.length - i) 0 (by simp) (by simp) (by simp) ?_
  intro i hs t m hi hh
  by_cases hlt : i < a.xs.length
  · have hwi := wr1 (i := i) (by omega)
    simp [cI, hlt, hwi]
    refine back (i + 1) (by omega) (by omega) rfl (by simp) (by simp) ?_
    have := fill_set (z := [.int .i64 0]) (l := a.xs.map cI) (i := i) (by simpa using hlt) (by simp [hlt]; rfl)
    simp only [cI] at this ⊢
    simp [this]
  · have hn : i = a.xs.length := by omega
    subst hn
    have hf : fill [.int .i64 0] (a.xs.map cI) a.xs.length = a.xs.map cI := fill_all (by simp)
    simp [hf]
    intro γ hs' h1 hg
    obtain ⟨q1, q2⟩ := gam_at hg (k := 7) (T := 3) (sz := 1) (es := a.xs.map cI) (by simp)
    have q3 := gam_row hg (k := 7) (T := 3) (sz := 1) (es := a.xs.map cI) (by simp)
    clear hg
    refine ⟨⟨γ 7, some (3, 1), a.xs⟩, ⟨⟨rfl, rfl, List.take_of_length_le (by simp)⟩, rfl, ha, good_row (fun g hg => (q1 g hg).1) (by simpa using q2) q3 ⟨by simp, by simp⟩ (by simp [whI, whStr])⟩⟩
theorem w_laws_heldIntS (a : Sl (Int)) (k : Int) (h0 : 1 ≤ k) (h1 : k + wtS wtI a ≤ 4611686018427387904) (ha : okS okI a) :
   VC Try.prog 70 [.d (dSl cI a), .d (.int .i64 k)] (fun _ r => r = .d (.int .i64 (hv (hlS (hlI) (wtI) a k) k (wtS wtI a)))) := by
  refine VC.of E s70 (by kernel_rfl) Try.func70 (by rfl) (by kernel_rfl) (by simp [Try.f70]) (by simp [Try.f70]) s70_ok fun B => ?_
  obtain ⟨id, T, xs⟩ := a
  have ha1 := ha.1
  simp only [maxLen] at ha1
  have hwt : wtS wtI (⟨id, T, xs⟩ : Sl (Int)) = sumW wtI xs := rfl
  have hhl : hlS (hlI) (wtI) (⟨id, T, xs⟩ : Sl (Int)) k = hlList hlI wtI xs k := rfl
  rw [hwt] at h1
  rw [hwt, hhl]
  simp [Try.f70, dSl]
  refine loop_rule (X := Nat) (fun i => i ≤ xs.length ∧ hlList hlI wtI (xs.take i) k = true) (fun i => [(0, .d (.sl id T (xs.map cI))), (1, .d (.int .i64 (k + sumW wtI (xs.take i)))), (5, .d (.int .i64 i))]) (fun _ => []) (fun i => xs.length - i) 0 (by simp [hlList]) (by simp) (by simp) ?_
  intro i hs t m hi hh
  by_cases hlt : i < xs.length
  · have hwi := wr1 (i := i) (by omega)
    have e1 := sumW_succ wtI hlt
    have e2 := sumW_le wtI xs (i + 1)
    have hmem : xs[i] ∈ xs := List.getElem_mem _
    have hstep := hlList_step (hl := hlI) (wt := wtI) (k := k) hlt
    rw [hi.2, Bool.true_and] at hstep
    have hbad := hlList_bad (hl := hlI) (wt := wtI) (k := k) hlt
    have hex : hlI xs[i] (k + sumW wtI (xs.take i)) = (xs[i] == k + sumW wtI (xs.take i)) := rfl
    have hwx : wtI xs[i] = 1 := rfl
    have hk0 : IntKind.i64.wrap (k + sumW wtI (xs.take i) + 1) = k + sumW wtI (xs.take i) + 1 := wrap64_of (by omega) (by omega)
    simp [cI, hlt, dSl, ]
    by_cases c0 : xs[i] = k + sumW wtI (xs.take i)
    case neg => simp [c0, hbad (by simp [hex, c0])]
    simp [c0, hk0, ]
    simp [hwi]
    refine back (i + 1) ⟨by omega, hstep.trans (hex.trans (by simp [c0]))⟩ (by omega) rfl (by simp <;> omega) ?_ (by simp)
    simp
    omega
  · have hn : i = xs.length := by omega
    subst hn
    have h2 := hi.2
    rw [List.take_length] at h2
    simp [h2]
theorem w_laws_toIntSS (a : Sl (Sl (Int))) (ha : okS (okS okI) a) (hb : swS (swS swI) a ≤ 1048576) :
   VC Try.prog 55 [.d (dSl (cS cI) a)] (fun n r => ∃ y : Sl (Sl (Int)), r = .d (dSl (cS cI) y) ∧ plS (plS plI) y = plS (plS plI) a ∧ okS (okS okI) y ∧ Good (cS (cS cI) y) (whS (whS whI) y) n) := by
  refine VC.of E s55 (by kernel_rfl) Try.func55 (by rfl) (by kernel_rfl) (by simp [Try.f55]) (by simp [Try.f55]) s55_ok fun B => ?_
  have hwt : swS (swS swI) a = a.xs.length + sumW (swS swI) a.xs := rfl
  simp [Try.f55, dSl]
  refine ⟨⟨by omega, by simp only [maxLen]; omega⟩, ?_⟩
  refine loop_rule2 (X := Nat × List (Sl (Int))) (fun p h => p.1 ≤ a.xs.length ∧ p.2.length = p.1 ∧ p.2.map (plS plI) = (a.xs.map (plS plI)).take p.1 ∧ (∀ y ∈ p.2, okS okI y) ∧ GoodL (cS cI) (whS whI) B h p.2) (fun p => [(0, .d (.sl a.id a.T (a.xs.map (cS cI)))), (3, .own 7 0 a.xs.length), (4, .d (.int .i64 p.1))]) (fun p => [(7, some (.row 23 1 (p.2.map (cS cI) ++ List.replicate (a.xs.length - p.1) [.sl none none []])))]) (fun p => a.xs.length - p.1) (0, []) ⟨by simp, rfl, by simp, by simp, GoodL.nil⟩ (by simp) (by simp) ?_
  rintro ⟨i, ys⟩ hs t m ⟨hi, hyl, hpl, hok, hgd⟩ hh
  simp only at hi hyl hpl hok hgd
  by_cases hlt : i < a.xs.length
  · have hwi := wr1 (i := i) (by omega)
    have hmem : a.xs[i] ∈ a.xs := List.getElem_mem _
    have hsw := sumW_mem (swS swI) hmem
    simp [cS, hlt]
    refine call_some (w_laws_toIntS a.xs[i] (ha.2 _ hmem) (by simp only [swS] at hsw; omega)) rfl (by simp) fun n hs' r hn hn' hp hr => ?_
    obtain ⟨y, rfl, hy1, hy2, hy3⟩ := hp
    simp at hn
    have hr' : ∀ g ∈ idsL (cS cI y), g < hs' := fun g hg => hr g (by first | (simp [cS, V.ids, idsVL, idsL] at hg; done) | simpa [cS, V.ids, idsVL, idsL] using hg)
    have hyi : ys.length = i := hyl
    simp [cS, hlt, hwi, hyi, show i + (a.xs.length - i) = a.xs.length by omega, dSl]
    refine back2 (i + 1, ys ++ [y]) ⟨by omega, by simp [hyi], ?_, ?_, ?_⟩ (by simp <;> omega) rfl (by simp <;> omega) (by simp) ?_
    · simp only [List.map_append, hpl, List.map_cons, List.map_nil, hy1]
      rw [List.take_succ_eq_append_getElem (by simpa using hlt)]; simp
    · intro y' hy'
      rcases List.mem_append.1 hy' with h | h
      · exact hok y' h
      · rw [List.mem_singleton.1 h]; exact hy2
    · exact GoodL.snoc hgd (by omega) hn' hy3 hr'
    · simp [rep_set0 hlt, cS, dSl]
  · have hn : i = a.xs.length := by omega
    subst hn
    simp
    intro γ hs' h1 hg
    obtain ⟨q1, q2⟩ := gam_at hg (k := 7) (T := 23) (sz := 1) (es := ys.map (cS cI)) (by simp [upd])
    have q3 := gam_row hg (k := 7) (T := 23) (sz := 1) (es := ys.map (cS cI)) (by simp [upd])
    clear hg
    refine ⟨_, ⟨by omega, rfl⟩, ⟨γ 7, some (23, 1), ys⟩, ?_, by rw [List.take_of_length_le (by simp)] at hpl; exact hpl, ⟨by simp only [maxLen]; show ys.length ≤ _; omega, hok⟩, good_row (fun g hg => (q1 g hg).1) (by simpa using q2) q3 ⟨hgd.nd, hgd.lo⟩ hgd.wh⟩
    rw [if_pos hyl.symm, List.take_of_length_le (by simp [hyl])]
theorem w_laws_heldIntSS (a : Sl (Sl (Int))) (k : Int) (h0 : 1 ≤ k) (h1 : k + wtS (wtS wtI) a ≤ 4611686018427387904) (ha : okS (okS okI) a) :
   VC Try.prog 69 [.d (dSl (cS cI) a), .d (.int .i64 k)] (fun _ r => r = .d (.int .i64 (hv (hlS (hlS (hlI) (wtI)) (wtS wtI) a k) k (wtS (wtS wtI) a)))) := by
  refine VC.of E s69 (by kernel_rfl) Try.func69 (by rfl) (by kernel_rfl) (by simp [Try.f69]) (by simp [Try.f69]) s69_ok fun B => ?_
  obtain ⟨id, T, xs⟩ := a
  have ha1 := ha.1
  simp only [maxLen] at ha1
  have hwt : wtS (wtS wtI) (⟨id, T, xs⟩ : Sl (Sl (Int))) = sumW (wtS wtI) xs := rfl
  have hhl : hlS (hlS (hlI) (wtI)) (wtS wtI) (⟨id, T, xs⟩ : Sl (Sl (Int))) k = hlList (hlS (hlI) (wtI)) (wtS wtI) xs k := rfl
  rw [hwt] at h1
  rw [hwt, hhl]
  simp [Try.f69, dSl]
  refine loop_rule (X := Nat) (fun i => i ≤ xs.length ∧ hlList (hlS (hlI) (wtI)) (wtS wtI) (xs.take i) k = true) (fun i => [(0, .d (.sl id T (xs.map (cS cI)))), (1, .d (.int .i64 (k + sumW (wtS wtI) (xs.take i)))), (5, .d (.int .i64 i))]) (fun _ => []) (fun i => xs.length - i) 0 (by simp [hlList]) (by simp) (by simp) ?_
  intro i hs t m hi hh
  by_cases hlt : i < xs.length
  · have hwi := wr1 (i := i) (by omega)
    have e1 := sumW_succ (wtS wtI) hlt
    have e2 := sumW_le (wtS wtI) xs (i + 1)
    have hmem : xs[i] ∈ xs := List.getElem_mem _
    have hstep := hlList_step (hl := (hlS (hlI) (wtI))) (wt := (wtS wtI)) (k := k) hlt
    rw [hi.2, Bool.true_and] at hstep
    have hbad := hlList_bad (hl := (hlS (hlI) (wtI))) (wt := (wtS wtI)) (k := k) hlt
    have hex : hlS (hlI) (wtI) xs[i] (k + sumW (wtS wtI) (xs.take i)) = (hlS (hlI) (wtI) xs[i] (k + sumW (wtS wtI) (xs.take i))) := rfl
    have hwx : wtS wtI xs[i] = wtS wtI xs[i] := rfl
    simp [cS, hlt, dSl, ]
    refine call_pure (w_laws_heldIntS xs[i] _ (by omega) (by omega) ((ha.2 _ hmem))) rfl (by simp) rfl fun hs0 hh0 => ?_
    simp at hh0
    by_cases c0 : hlS (hlI) (wtI) xs[i] (k + sumW (wtS wtI) (xs.take i)) = true
    case neg =>
      have c0' : hlS (hlI) (wtI) xs[i] (k + sumW (wtS wtI) (xs.take i)) = false := by simpa using c0
      simp [c0', hbad (by simp [hex, c0'])]
    have hn0 : ¬ k + sumW (wtS wtI) (xs.take i) + (wtS wtI xs[i] : Int) < 0 := by omega
    simp [c0, hn0, hlt, cS, dSl, ]
    simp [hwi]
    refine back (i + 1) ⟨by omega, hstep.trans (hex.trans (by simp [c0]))⟩ (by omega) rfl (by simp <;> omega) ?_ (by simp)
    simp
    omega
  · have hn : i = xs.length := by omega
    subst hn
    have h2 := hi.2
    rw [List.take_length] at h2
    simp [h2]
theorem w_laws_toRelation (a : Reln) (ha : okReln a) (hb : swReln a ≤ 1048576) :
   VC Try.prog 155 [.agg ((cReln a).map V.d)] (fun n r => ∃ y : Reln, r = .agg ((cReln y).map V.d) ∧ plReln y = plReln a ∧ okReln y ∧ Good (cReln y) (whReln y) n) := by
  refine VC.of E s155 (by kernel_rfl) Try.func155 (by rfl) (by kernel_rfl) (by simp [Try.f155]) (by simp [Try.f155]) s155_ok fun B => ?_
  have hwt : swReln a = swS (swS swI) a.rows := rfl
  simp [Try.f155, cI, cReln, cS, dSl]
  refine call_some (w_laws_toIntSS a.rows ha.2 (by have := hwt; omega)) rfl (by simp) fun n0 hs0 r0 hn0 hm0 hp0 hr0 => ?_
  obtain ⟨y0, rfl, hy0, hk0, hg0⟩ := hp0
  have hl0 : ∀ g ∈ idsL (cS (cS cI) y0), g < hs0 := fun g hg => hr0 g (by first | (simp [cS, V.ids, idsVL, idsL] at hg; done) | simpa [cS, V.ids, idsVL, idsL] using hg)
  simp at hn0
  simp [cS, dSl]
  refine ⟨⟨a.ar, y0⟩, ?_⟩
  refine ⟨by simp [cI, cReln, cS, dSl], by simp only [plReln, hy0], ⟨ha.1, hk0⟩, ?_⟩
  have G0 : Good (cI a.ar) (whI a.ar) B := good_I B a.ar
  have G1 : Good (cS (cS cI) y0) (whS (whS whI) y0) B := hg0.le (by omega)
  have U0 : ∀ g ∈ idsL (cI a.ar), g < B := by simp [cI, idsL, D.ids]
  have K1 : Good (cI a.ar ++ cS (cS cI) y0) ((whI a.ar) ∧ whS (whS whI) y0) B := Good.app G0 G1 (fun g h h' => by have h1 := U0 g h; have h2 := hg0.lo g h'; omega)
  have U1 : ∀ g ∈ idsL (cI a.ar ++ cS (cS cI) y0), g < hs0 := fun g h => by rw [idsL_app] at h; rcases List.mem_append.1 h with h | h; (have h1 := U0 g h; omega); exact hl0 g h
  exact ⟨K1.nd, K1.lo, by have h := K1.wh; exact ⟨h.1, h.2⟩⟩
theorem w_laws_toTable (a : Tab) (ha : okTab a) (hb : swTab a ≤ 1048576) :
   VC Try.prog 152 [.agg ((cTab a).map V.d)] (fun n r => ∃ y : Tab, r = .agg ((cTab y).map V.d) ∧ plTab y = plTab a ∧ okTab y ∧ Good (cTab y) (whTab y) n) := by
  refine VC.of E s152 (by kernel_rfl) Try.func152 (by rfl) (by kernel_rfl) (by simp [Try.f152]) (by simp [Try.f152]) s152_ok fun B => ?_
  have hwt : swTab a = swStr a.name + swReln a.rel := rfl
  simp [Try.f152, cI, cReln, cS, cStr, cTab, dSl]
  refine call_some (w_laws_toRelation a.rel ha.2 (by have := hwt; omega)) rfl (by simp) fun n0 hs0 r0 hn0 hm0 hp0 hr0 => ?_
  obtain ⟨y0, rfl, hy0, hk0, hg0⟩ := hp0
  have hl0 : ∀ g ∈ idsL (cReln y0), g < hs0 := fun g hg => hr0 g (by first | (simp [cI, cReln, cS, V.ids, idsVL, idsL] at hg; done) | simpa [cI, cReln, cS, V.ids, idsVL, idsL] using hg)
  simp at hn0
  simp [cI, cReln, cS, dSl]
  refine ⟨⟨a.name, y0⟩, ?_⟩
  refine ⟨by simp [cI, cReln, cS, cStr, cTab, dSl], by simp only [plTab, hy0], ⟨ha.1, hk0⟩, ?_⟩
  have G0 : Good (cStr a.name) (whStr a.name) B := good_Str B a.name
  have G1 : Good (cReln y0) (whReln y0) B := hg0.le (by omega)
  have U0 : ∀ g ∈ idsL (cStr a.name), g < B := by simp [cStr, idsL, D.ids]
  have K1 : Good (cStr a.name ++ cReln y0) ((whStr a.name) ∧ whReln y0) B := Good.app G0 G1 (fun g h h' => by have h1 := U0 g h; have h2 := hg0.lo g h'; omega)
  have U1 : ∀ g ∈ idsL (cStr a.name ++ cReln y0), g < hs0 := fun g h => by rw [idsL_app] at h; rcases List.mem_append.1 h with h | h; (have h1 := U0 g h; omega); exact hl0 g h
  exact ⟨K1.nd, K1.lo, by have h := K1.wh; exact ⟨h.1, h.2⟩⟩
theorem w_laws_toTableS (a : Sl (Tab)) (ha : okS okTab a) (hb : swS swTab a ≤ 1048576) :
   VC Try.prog 145 [.d (dSl cTab a)] (fun n r => ∃ y : Sl (Tab), r = .d (dSl cTab y) ∧ plS plTab y = plS plTab a ∧ okS okTab y ∧ Good (cS cTab y) (whS whTab y) n) := by
  refine VC.of E s145 (by kernel_rfl) Try.func145 (by rfl) (by kernel_rfl) (by simp [Try.f145]) (by simp [Try.f145]) s145_ok fun B => ?_
  have hwt : swS swTab a = a.xs.length + sumW swTab a.xs := rfl
  simp [Try.f145, dSl]
  refine ⟨⟨by omega, by simp only [maxLen]; omega⟩, ?_⟩
  refine loop_rule2 (X := Nat × List (Tab)) (fun p h => p.1 ≤ a.xs.length ∧ p.2.length = p.1 ∧ p.2.map plTab = (a.xs.map plTab).take p.1 ∧ (∀ y ∈ p.2, okTab y) ∧ GoodL cTab whTab B h p.2) (fun p => [(0, .d (.sl a.id a.T (a.xs.map cTab))), (3, .own 7 0 a.xs.length), (4, .d (.int .i64 p.1))]) (fun p => [(7, some (.row 148 3 (p.2.map cTab ++ List.replicate (a.xs.length - p.1) [.str [], .int .i64 0, .sl none none []])))]) (fun p => a.xs.length - p.1) (0, []) ⟨by simp, rfl, by simp, by simp, GoodL.nil⟩ (by simp) (by simp) ?_
  rintro ⟨i, ys⟩ hs t m ⟨hi, hyl, hpl, hok, hgd⟩ hh
  simp only at hi hyl hpl hok hgd
  by_cases hlt : i < a.xs.length
  · have hwi := wr1 (i := i) (by omega)
    have hmem : a.xs[i] ∈ a.xs := List.getElem_mem _
    have hsw := sumW_mem swTab hmem
    simp [cI, cReln, cS, cStr, cTab, hlt]
    refine call_some (w_laws_toTable a.xs[i] (ha.2 _ hmem) (by omega)) rfl (by simp) fun n hs' r hn hn' hp hr => ?_
    obtain ⟨y, rfl, hy1, hy2, hy3⟩ := hp
    simp at hn
    have hr' : ∀ g ∈ idsL (cTab y), g < hs' := fun g hg => hr g (by first | (simp [cI, cReln, cS, cStr, cTab, V.ids, idsVL, idsL] at hg; done) | simpa [cI, cReln, cS, cStr, cTab, V.ids, idsVL, idsL] using hg)
    have hyi : ys.length = i := hyl
    simp [cI, cReln, cS, cStr, cTab, hlt, hwi, hyi, show i + (a.xs.length - i) = a.xs.length by omega, dSl]
    refine back2 (i + 1, ys ++ [y]) ⟨by omega, by simp [hyi], ?_, ?_, ?_⟩ (by simp <;> omega) rfl (by simp <;> omega) (by simp) ?_
    · simp only [List.map_append, hpl, List.map_cons, List.map_nil, hy1]
      rw [List.take_succ_eq_append_getElem (by simpa using hlt)]; simp
    · intro y' hy'
      rcases List.mem_append.1 hy' with h | h
      · exact hok y' h
      · rw [List.mem_singleton.1 h]; exact hy2
    · exact GoodL.snoc hgd (by omega) hn' hy3 hr'
    · simp [rep_set0 hlt, cI, cReln, cS, cStr, cTab, dSl]
  · have hn : i = a.xs.length := by omega
    subst hn
    simp
    intro γ hs' h1 hg
    obtain ⟨q1, q2⟩ := gam_at hg (k := 7) (T := 148) (sz := 3) (es := ys.map cTab) (by simp [upd])
    have q3 := gam_row hg (k := 7) (T := 148) (sz := 3) (es := ys.map cTab) (by simp [upd])
    clear hg
    refine ⟨_, ⟨by omega, rfl⟩, ⟨γ 7, some (148, 3), ys⟩, ?_, by rw [List.take_of_length_le (by simp)] at hpl; exact hpl, ⟨by simp only [maxLen]; show ys.length ≤ _; omega, hok⟩, good_row (fun g hg => (q1 g hg).1) (by simpa using q2) q3 ⟨hgd.nd, hgd.lo⟩ hgd.wh⟩
    rw [if_pos hyl.symm, List.take_of_length_le (by simp [hyl])]
theorem w_laws_toDatabase (a : Db) (ha : okDb a) (hb : swDb a ≤ 1048576) :
   VC Try.prog 132 [.agg ((cDb a).map V.d)] (fun n r => ∃ y : Db, r = .agg ((cDb y).map V.d) ∧ plDb y = plDb a ∧ okDb y ∧ Good (cDb y) (whDb y) n) := by
  refine VC.of E s132 (by kernel_rfl) Try.func132 (by rfl) (by kernel_rfl) (by simp [Try.f132]) (by simp [Try.f132]) s132_ok fun B => ?_
  have hwt : swDb a = swS swTab a.tabs := rfl
  simp [Try.f132, cDb, cS, dSl]
  refine call_some (w_laws_toTableS a.tabs ha (by have := hwt; omega)) rfl (by simp) fun n0 hs0 r0 hn0 hm0 hp0 hr0 => ?_
  obtain ⟨y0, rfl, hy0, hk0, hg0⟩ := hp0
  have hl0 : ∀ g ∈ idsL (cS cTab y0), g < hs0 := fun g hg => hr0 g (by first | (simp [cS, V.ids, idsVL, idsL] at hg; done) | simpa [cS, V.ids, idsVL, idsL] using hg)
  simp at hn0
  simp [cS, dSl]
  refine ⟨⟨y0⟩, ?_⟩
  refine ⟨by simp [cDb, cS, dSl], by simp only [plDb, hy0], hk0, ?_⟩
  have G0 : Good (cS cTab y0) (whS whTab y0) B := hg0.le (by omega)
  have U0 : ∀ g ∈ idsL (cS cTab y0), g < hs0 := hl0
  exact G0
theorem w_laws_toAtom (a : Atom) (ha : okAtom a) (hb : swAtom a ≤ 1048576) :
   VC Try.prog 120 [.agg ((cAtom a).map V.d)] (fun n r => ∃ y : Atom, r = .agg ((cAtom y).map V.d) ∧ plAtom y = plAtom a ∧ okAtom y ∧ Good (cAtom y) (whAtom y) n) := by
  refine VC.of E s120 (by kernel_rfl) Try.func120 (by rfl) (by kernel_rfl) (by simp [Try.f120]) (by simp [Try.f120]) s120_ok fun B => ?_
  have hwt : swAtom a = swStr a.rel + swS swI a.vars := rfl
  simp [Try.f120, cAtom, cS, cStr, dSl]
  refine call_some (w_laws_toIntS a.vars ha.2 (by have := hwt; simp only [swS] at this; omega)) rfl (by simp) fun n0 hs0 r0 hn0 hm0 hp0 hr0 => ?_
  obtain ⟨y0, rfl, hy0, hk0, hg0⟩ := hp0
  have hl0 : ∀ g ∈ idsL (cS cI y0), g < hs0 := fun g hg => hr0 g (by first | (simp [cS, V.ids, idsVL, idsL] at hg; done) | simpa [cS, V.ids, idsVL, idsL] using hg)
  simp at hn0
  simp [cS, dSl]
  refine ⟨⟨a.rel, y0⟩, ?_⟩
  refine ⟨by simp [cAtom, cS, cStr, dSl], by simp only [plAtom, hy0], ⟨ha.1, hk0⟩, ?_⟩
  have G0 : Good (cStr a.rel) (whStr a.rel) B := good_Str B a.rel
  have G1 : Good (cS cI y0) (whS whI y0) B := hg0.le (by omega)
  have U0 : ∀ g ∈ idsL (cStr a.rel), g < B := by simp [cStr, idsL, D.ids]
  have K1 : Good (cStr a.rel ++ cS cI y0) ((whStr a.rel) ∧ whS whI y0) B := Good.app G0 G1 (fun g h h' => by have h1 := U0 g h; have h2 := hg0.lo g h'; omega)
  have U1 : ∀ g ∈ idsL (cStr a.rel ++ cS cI y0), g < hs0 := fun g h => by rw [idsL_app] at h; rcases List.mem_append.1 h with h | h; (have h1 := U0 g h; omega); exact hl0 g h
  exact ⟨K1.nd, K1.lo, by have h := K1.wh; exact ⟨h.1, h.2⟩⟩
theorem w_laws_toAtomS (a : Sl (Atom)) (ha : okS okAtom a) (hb : swS swAtom a ≤ 1048576) :
   VC Try.prog 63 [.d (dSl cAtom a)] (fun n r => ∃ y : Sl (Atom), r = .d (dSl cAtom y) ∧ plS plAtom y = plS plAtom a ∧ okS okAtom y ∧ Good (cS cAtom y) (whS whAtom y) n) := by
  refine VC.of E s63 (by kernel_rfl) Try.func63 (by rfl) (by kernel_rfl) (by simp [Try.f63]) (by simp [Try.f63]) s63_ok fun B => ?_
  have hwt : swS swAtom a = a.xs.length + sumW swAtom a.xs := rfl
  simp [Try.f63, dSl]
  refine ⟨⟨by omega, by simp only [maxLen]; omega⟩, ?_⟩
  refine loop_rule2 (X := Nat × List (Atom)) (fun p h => p.1 ≤ a.xs.length ∧ p.2.length = p.1 ∧ p.2.map plAtom = (a.xs.map plAtom).take p.1 ∧ (∀ y ∈ p.2, okAtom y) ∧ GoodL cAtom whAtom B h p.2) (fun p => [(0, .d (.sl a.id a.T (a.xs.map cAtom))), (3, .own 7 0 a.xs.length), (4, .d (.int .i64 p.1))]) (fun p => [(7, some (.row 103 2 (p.2.map cAtom ++ List.replicate (a.xs.length - p.1) [.str [], .sl none none []])))]) (fun p => a.xs.length - p.1) (0, []) ⟨by simp, rfl, by simp, by simp, GoodL.nil⟩ (by simp) (by simp) ?_
  rintro ⟨i, ys⟩ hs t m ⟨hi, hyl, hpl, hok, hgd⟩ hh
  simp only at hi hyl hpl hok hgd
  by_cases hlt : i < a.xs.length
  · have hwi := wr1 (i := i) (by omega)
    have hmem : a.xs[i] ∈ a.xs := List.getElem_mem _
    have hsw := sumW_mem swAtom hmem
    simp [cAtom, cS, cStr, hlt]
    refine call_some (w_laws_toAtom a.xs[i] (ha.2 _ hmem) (by omega)) rfl (by simp) fun n hs' r hn hn' hp hr => ?_
    obtain ⟨y, rfl, hy1, hy2, hy3⟩ := hp
    simp at hn
    have hr' : ∀ g ∈ idsL (cAtom y), g < hs' := fun g hg => hr g (by first | (simp [cAtom, cS, cStr, V.ids, idsVL, idsL] at hg; done) | simpa [cAtom, cS, cStr, V.ids, idsVL, idsL] using hg)
    have hyi : ys.length = i := hyl
    simp [cAtom, cS, cStr, hlt, hwi, hyi, show i + (a.xs.length - i) = a.xs.length by omega, dSl]
    refine back2 (i + 1, ys ++ [y]) ⟨by omega, by simp [hyi], ?_, ?_, ?_⟩ (by simp <;> omega) rfl (by simp <;> omega) (by simp) ?_
    · simp only [List.map_append, hpl, List.map_cons, List.map_nil, hy1]
      rw [List.take_succ_eq_append_getElem (by simpa using hlt)]; simp
    · intro y' hy'
      rcases List.mem_append.1 hy' with h | h
      · exact hok y' h
      · rw [List.mem_singleton.1 h]; exact hy2
    · exact GoodL.snoc hgd (by omega) hn' hy3 hr'
    · simp [rep_set0 hlt, cAtom, cS, cStr, dSl]
  · have hn : i = a.xs.length := by omega
    subst hn
    simp
    intro γ hs' h1 hg
    obtain ⟨q1, q2⟩ := gam_at hg (k := 7) (T := 103) (sz := 2) (es := ys.map cAtom) (by simp [upd])
    have q3 := gam_row hg (k := 7) (T := 103) (sz := 2) (es := ys.map cAtom) (by simp [upd])
    clear hg
    refine ⟨_, ⟨by omega, rfl⟩, ⟨γ 7, some (103, 2), ys⟩, ?_, by rw [List.take_of_length_le (by simp)] at hpl; exact hpl, ⟨by simp only [maxLen]; show ys.length ≤ _; omega, hok⟩, good_row (fun g hg => (q1 g hg).1) (by simpa using q2) q3 ⟨hgd.nd, hgd.lo⟩ hgd.wh⟩
    rw [if_pos hyl.symm, List.take_of_length_le (by simp [hyl])]
theorem w_laws_toQuery (a : Query) (ha : okQuery a) (hb : swQuery a ≤ 1048576) :
   VC Try.prog 17 [.agg ((cQuery a).map V.d)] (fun n r => ∃ y : Query, r = .agg ((cQuery y).map V.d) ∧ plQuery y = plQuery a ∧ okQuery y ∧ Good (cQuery y) (whQuery y) n) := by
  refine VC.of E s17 (by kernel_rfl) Try.func17 (by rfl) (by kernel_rfl) (by simp [Try.f17]) (by simp [Try.f17]) s17_ok fun B => ?_
  have hwt : swQuery a = swS swAtom a.atoms + swS swI a.out := rfl
  simp [Try.f17, cI, cQuery, cS, dSl]
  refine call_some (w_laws_toAtomS a.atoms ha.2.1 (by have := hwt; omega)) rfl (by simp) fun n0 hs0 r0 hn0 hm0 hp0 hr0 => ?_
  obtain ⟨y0, rfl, hy0, hk0, hg0⟩ := hp0
  have hl0 : ∀ g ∈ idsL (cS cAtom y0), g < hs0 := fun g hg => hr0 g (by first | (simp [cS, V.ids, idsVL, idsL] at hg; done) | simpa [cS, V.ids, idsVL, idsL] using hg)
  simp at hn0
  simp [cS, dSl]
  refine call_some (w_laws_toIntS a.out ha.2.2 (by have := hwt; simp only [swS] at this; omega)) rfl (by simp) fun n1 hs1 r1 hn1 hm1 hp1 hr1 => ?_
  obtain ⟨y1, rfl, hy1, hk1, hg1⟩ := hp1
  have hl1 : ∀ g ∈ idsL (cS cI y1), g < hs1 := fun g hg => hr1 g (by first | (simp [cS, V.ids, idsVL, idsL] at hg; done) | simpa [cS, V.ids, idsVL, idsL] using hg)
  simp at hn1
  simp [cS, dSl]
  refine ⟨⟨a.n, y0, y1⟩, ?_⟩
  refine ⟨by simp [cI, cQuery, cS, dSl], by simp only [plQuery, hy0, hy1], ⟨ha.1, hk0, hk1⟩, ?_⟩
  have G0 : Good (cI a.n) (whI a.n) B := good_I B a.n
  have G1 : Good (cS cAtom y0) (whS whAtom y0) B := hg0.le (by omega)
  have G2 : Good (cS cI y1) (whS whI y1) B := hg1.le (by omega)
  have U0 : ∀ g ∈ idsL (cI a.n), g < B := by simp [cI, idsL, D.ids]
  have K1 : Good (cI a.n ++ cS cAtom y0) ((whI a.n) ∧ whS whAtom y0) B := Good.app G0 G1 (fun g h h' => by have h1 := U0 g h; have h2 := hg0.lo g h'; omega)
  have U1 : ∀ g ∈ idsL (cI a.n ++ cS cAtom y0), g < hs0 := fun g h => by rw [idsL_app] at h; rcases List.mem_append.1 h with h | h; (have h1 := U0 g h; omega); exact hl0 g h
  have K2 : Good (cI a.n ++ cS cAtom y0 ++ cS cI y1) (((whI a.n) ∧ whS whAtom y0) ∧ whS whI y1) B := Good.app K1 G2 (fun g h h' => by have h1 := U1 g h; have h2 := hg1.lo g h'; omega)
  have U2 : ∀ g ∈ idsL (cI a.n ++ cS cAtom y0 ++ cS cI y1), g < hs1 := fun g h => by rw [idsL_app] at h; rcases List.mem_append.1 h with h | h; (have h1 := U1 g h; omega); exact hl1 g h
  exact ⟨K2.nd, K2.lo, by have h := K2.wh; exact ⟨h.1.1, h.1.2, h.2⟩⟩
theorem w_laws_toDecomposition (a : Dec) (ha : okDec a) (hb : swDec a ≤ 1048576) :
   VC Try.prog 12 [.agg ((cDec a).map V.d)] (fun n r => ∃ y : Dec, r = .agg ((cDec y).map V.d) ∧ plDec y = plDec a ∧ okDec y ∧ Good (cDec y) (whDec y) n) := by
  refine VC.of E s12 (by kernel_rfl) Try.func12 (by rfl) (by kernel_rfl) (by simp [Try.f12]) (by simp [Try.f12]) s12_ok fun B => ?_
  have hwt : swDec a = swS (swS swI) a.bags + swS swI a.par := rfl
  simp [Try.f12, cDec, cS, dSl]
  refine call_some (w_laws_toIntSS a.bags ha.1 (by have := hwt; omega)) rfl (by simp) fun n0 hs0 r0 hn0 hm0 hp0 hr0 => ?_
  obtain ⟨y0, rfl, hy0, hk0, hg0⟩ := hp0
  have hl0 : ∀ g ∈ idsL (cS (cS cI) y0), g < hs0 := fun g hg => hr0 g (by first | (simp [cS, V.ids, idsVL, idsL] at hg; done) | simpa [cS, V.ids, idsVL, idsL] using hg)
  simp at hn0
  simp [cS, dSl]
  refine call_some (w_laws_toIntS a.par ha.2 (by have := hwt; simp only [swS] at this; omega)) rfl (by simp) fun n1 hs1 r1 hn1 hm1 hp1 hr1 => ?_
  obtain ⟨y1, rfl, hy1, hk1, hg1⟩ := hp1
  have hl1 : ∀ g ∈ idsL (cS cI y1), g < hs1 := fun g hg => hr1 g (by first | (simp [cS, V.ids, idsVL, idsL] at hg; done) | simpa [cS, V.ids, idsVL, idsL] using hg)
  simp at hn1
  simp [cS, dSl]
  refine ⟨⟨y0, y1⟩, ?_⟩
  refine ⟨by simp [cDec, cS, dSl], by simp only [plDec, hy0, hy1], ⟨hk0, hk1⟩, ?_⟩
  have G0 : Good (cS (cS cI) y0) (whS (whS whI) y0) B := hg0.le (by omega)
  have G1 : Good (cS cI y1) (whS whI y1) B := hg1.le (by omega)
  have U0 : ∀ g ∈ idsL (cS (cS cI) y0), g < hs0 := hl0
  have K1 : Good (cS (cS cI) y0 ++ cS cI y1) ((whS (whS whI) y0) ∧ whS whI y1) B := Good.app G0 G1 (fun g h h' => by have h1 := U0 g h; have h2 := hg1.lo g h'; omega)
  have U1 : ∀ g ∈ idsL (cS (cS cI) y0 ++ cS cI y1), g < hs1 := fun g h => by rw [idsL_app] at h; rcases List.mem_append.1 h with h | h; (have h1 := U0 g h; omega); exact hl1 g h
  exact ⟨K1.nd, K1.lo, by have h := K1.wh; exact ⟨h.1, h.2⟩⟩
theorem w_laws_heldDecomposition (a : Dec) (k : Int) (h0 : 1 ≤ k) (h1 : k + wtTDec a ≤ 4611686018427387904) (ha : okDec a) :
   VC Try.prog 22 [.agg ((cDec a).map V.d), .d (.int .i64 k)] (fun _ r => r = .d (.int .i64 (hv (hlTDec a k) k (wtTDec a)))) := by
  refine VC.of E s22 (by kernel_rfl) Try.func22 (by rfl) (by kernel_rfl) (by simp [Try.f22]) (by simp [Try.f22]) s22_ok fun B => ?_
  have hwt : wtTDec a = wtS (wtS wtI) a.bags + wtS wtI a.par := rfl
  have hex : hlTDec a k = (hlS (hlS (hlI) (wtI)) (wtS wtI) a.bags (k) && hlS (hlI) (wtI) a.par (k + wtS (wtS wtI) a.bags)) := rfl
  simp [Try.f22, cDec, cS, dSl]
  refine call_pure (w_laws_heldIntSS a.bags _ (by omega) (by omega) ha.1) rfl (by simp) rfl fun hs0 hh0 => ?_
  by_cases c0 : hlS (hlS (hlI) (wtI)) (wtS wtI) a.bags (k) = true
  case neg =>
    have c0' : hlS (hlS (hlI) (wtI)) (wtS wtI) a.bags (k) = false := by simpa using c0
    simp [c0', hex]
  have hn0 : ¬ k + (wtS (wtS wtI) a.bags : Int) < 0 := by omega
  simp [c0, hn0]
  refine call_pure (w_laws_heldIntS a.par _ (by omega) (by omega) ha.2) rfl (by simp) rfl fun hs1 hh1 => ?_
  by_cases c1 : hlS (hlI) (wtI) a.par (k + wtS (wtS wtI) a.bags) = true
  case neg =>
    have c1' : hlS (hlI) (wtI) a.par (k + wtS (wtS wtI) a.bags) = false := by simpa using c1
    simp [c1', hex]
  have hn1 : ¬ k + wtS (wtS wtI) a.bags + (wtS wtI a.par : Int) < 0 := by omega
  simp [c1, hn1]
  simp [hex, c0, c1, hwt]
  try omega
theorem w_laws_toDatabaseS (a : Sl (Db)) (ha : okS okDb a) (hb : swS swDb a ≤ 1048576) :
   VC Try.prog 90 [.d (dSl cDb a)] (fun n r => ∃ y : Sl (Db), r = .d (dSl cDb y) ∧ plS plDb y = plS plDb a ∧ okS okDb y ∧ Good (cS cDb y) (whS whDb y) n) := by
  refine VC.of E s90 (by kernel_rfl) Try.func90 (by rfl) (by kernel_rfl) (by simp [Try.f90]) (by simp [Try.f90]) s90_ok fun B => ?_
  have hwt : swS swDb a = a.xs.length + sumW swDb a.xs := rfl
  simp [Try.f90, dSl]
  refine ⟨⟨by omega, by simp only [maxLen]; omega⟩, ?_⟩
  refine loop_rule2 (X := Nat × List (Db)) (fun p h => p.1 ≤ a.xs.length ∧ p.2.length = p.1 ∧ p.2.map plDb = (a.xs.map plDb).take p.1 ∧ (∀ y ∈ p.2, okDb y) ∧ GoodL cDb whDb B h p.2) (fun p => [(0, .d (.sl a.id a.T (a.xs.map cDb))), (3, .own 7 0 a.xs.length), (4, .d (.int .i64 p.1))]) (fun p => [(7, some (.row 117 1 (p.2.map cDb ++ List.replicate (a.xs.length - p.1) [.sl none none []])))]) (fun p => a.xs.length - p.1) (0, []) ⟨by simp, rfl, by simp, by simp, GoodL.nil⟩ (by simp) (by simp) ?_
  rintro ⟨i, ys⟩ hs t m ⟨hi, hyl, hpl, hok, hgd⟩ hh
  simp only at hi hyl hpl hok hgd
  by_cases hlt : i < a.xs.length
  · have hwi := wr1 (i := i) (by omega)
    have hmem : a.xs[i] ∈ a.xs := List.getElem_mem _
    have hsw := sumW_mem swDb hmem
    simp [cDb, cS, hlt]
    refine call_some (w_laws_toDatabase a.xs[i] (ha.2 _ hmem) (by omega)) rfl (by simp) fun n hs' r hn hn' hp hr => ?_
    obtain ⟨y, rfl, hy1, hy2, hy3⟩ := hp
    simp at hn
    have hr' : ∀ g ∈ idsL (cDb y), g < hs' := fun g hg => hr g (by first | (simp [cDb, cS, V.ids, idsVL, idsL] at hg; done) | simpa [cDb, cS, V.ids, idsVL, idsL] using hg)
    have hyi : ys.length = i := hyl
    simp [cDb, cS, hlt, hwi, hyi, show i + (a.xs.length - i) = a.xs.length by omega, dSl]
    refine back2 (i + 1, ys ++ [y]) ⟨by omega, by simp [hyi], ?_, ?_, ?_⟩ (by simp <;> omega) rfl (by simp <;> omega) (by simp) ?_
    · simp only [List.map_append, hpl, List.map_cons, List.map_nil, hy1]
      rw [List.take_succ_eq_append_getElem (by simpa using hlt)]; simp
    · intro y' hy'
      rcases List.mem_append.1 hy' with h | h
      · exact hok y' h
      · rw [List.mem_singleton.1 h]; exact hy2
    · exact GoodL.snoc hgd (by omega) hn' hy3 hr'
    · simp [rep_set0 hlt, cDb, cS, dSl]
  · have hn : i = a.xs.length := by omega
    subst hn
    simp
    intro γ hs' h1 hg
    obtain ⟨q1, q2⟩ := gam_at hg (k := 7) (T := 117) (sz := 1) (es := ys.map cDb) (by simp [upd])
    have q3 := gam_row hg (k := 7) (T := 117) (sz := 1) (es := ys.map cDb) (by simp [upd])
    clear hg
    refine ⟨_, ⟨by omega, rfl⟩, ⟨γ 7, some (117, 1), ys⟩, ?_, by rw [List.take_of_length_le (by simp)] at hpl; exact hpl, ⟨by simp only [maxLen]; show ys.length ≤ _; omega, hok⟩, good_row (fun g hg => (q1 g hg).1) (by simpa using q2) q3 ⟨hgd.nd, hgd.lo⟩ hgd.wh⟩
    rw [if_pos hyl.symm, List.take_of_length_le (by simp [hyl])]
theorem w_laws_toHistory (a : Hist) (ha : okHist a) (hb : swHist a ≤ 1048576) :
   VC Try.prog 32 [.agg ((cHist a).map V.d)] (fun n r => ∃ y : Hist, r = .agg ((cHist y).map V.d) ∧ plHist y = plHist a ∧ okHist y ∧ Good (cHist y) (whHist y) n) := by
  refine VC.of E s32 (by kernel_rfl) Try.func32 (by rfl) (by kernel_rfl) (by simp [Try.f32]) (by simp [Try.f32]) s32_ok fun B => ?_
  have hwt : swHist a = swS swDb a.dbs := rfl
  simp [Try.f32, cHist, cI, cS, dSl]
  refine call_some (w_laws_toDatabaseS a.dbs ha.2 (by have := hwt; omega)) rfl (by simp) fun n0 hs0 r0 hn0 hm0 hp0 hr0 => ?_
  obtain ⟨y0, rfl, hy0, hk0, hg0⟩ := hp0
  have hl0 : ∀ g ∈ idsL (cS cDb y0), g < hs0 := fun g hg => hr0 g (by first | (simp [cS, V.ids, idsVL, idsL] at hg; done) | simpa [cS, V.ids, idsVL, idsL] using hg)
  simp at hn0
  simp [cS, dSl]
  refine ⟨⟨a.first, y0⟩, ?_⟩
  refine ⟨by simp [cHist, cI, cS, dSl], by simp only [plHist, hy0], ⟨ha.1, hk0⟩, ?_⟩
  have G0 : Good (cI a.first) (whI a.first) B := good_I B a.first
  have G1 : Good (cS cDb y0) (whS whDb y0) B := hg0.le (by omega)
  have U0 : ∀ g ∈ idsL (cI a.first), g < B := by simp [cI, idsL, D.ids]
  have K1 : Good (cI a.first ++ cS cDb y0) ((whI a.first) ∧ whS whDb y0) B := Good.app G0 G1 (fun g h h' => by have h1 := U0 g h; have h2 := hg0.lo g h'; omega)
  have U1 : ∀ g ∈ idsL (cI a.first ++ cS cDb y0), g < hs0 := fun g h => by rw [idsL_app] at h; rcases List.mem_append.1 h with h | h; (have h1 := U0 g h; omega); exact hl0 g h
  exact ⟨K1.nd, K1.lo, by have h := K1.wh; exact ⟨h.1, h.2⟩⟩

end Go.Proofs.Ytmifoeaifdmgkaa

namespace Go.Proofs.Ytmifoeaifdmgkaa
open Go.Vs Go.Proofs Go
set_option maxRecDepth 100000
set_option maxHeartbeats 1000000

theorem w_laws_markIntS (a : Ints) (k : Int) (h0 : 1 ≤ k) (h1 : k + wtS wtI a ≤ 4611686018427387904) (hw : whS whI a) (hl0 : okS okI a) (hnd : (dInts a).ids.Nodup) :
   VX Try.prog 29 (dInts a).ids [.d (dInts a), .d (.int .i64 k)] none (fun _ r _ ws => r = .d (.int .i64 (k + wtS wtI a)) ∧ ws = [dInts (mkS mkI wtI a k)]) := by
  refine VX.of E s29 (by kernel_rfl) Try.func29 (by rfl) (by kernel_rfl) (by simp [Try.f29]) (by simp [Try.f29]) s29_ok (fun g hg => .inl (by simpa using hg)) (fun cs h => nomatch h) fun B hB => ?_
  have hl := hl0.1
  obtain ⟨id, T, xs⟩ := a
  have hwt : wtS wtI (⟨id, T, xs⟩ : Ints) = xs.length := sumW_one (fun _ => rfl) xs
  rw [hwt] at h1 ⊢
  simp only [maxLen] at hl
  simp [Try.f29]
  refine loop_rule (X := Nat) (fun i => i ≤ xs.length) (fun i => [(0, .d (dInts ⟨id, T, mkAt mkI wtI xs k i⟩)), (1, .d (.int .i64 (k + i))), (5, .d (.int .i64 i))]) (fun _ => []) (fun i => xs.length - i) 0 (by simp) (by simp) (by simp) ?_
  intro i hs t m hi hh
  by_cases hlt : i < xs.length
  · obtain ⟨g, hg, T', hT⟩ := hw.1.id hlt
    simp only at hg hT
    subst hg hT
    have hk := wr1 (i := i) (by omega)
    have hk2 : IntKind.i64.wrap (k + i + 1) = k + i + 1 := wrap64_of (by omega) (by omega)
    simp [dInts, dSl, hlt, hk, hk2, cI]
    refine back (i + 1) (by omega) (by omega) rfl (by simp) ?_ (by simp)
    have e1 : (List.map cI (mkAt mkI wtI xs k i)).set i [D.int IntKind.i64 (k + ↑i)] = List.map cI (mkAt mkI wtI xs k (i + 1)) := by
      rw [mkAt_succ hlt, ← set_map, show sumW wtI (List.take i xs) = _ from sumW_one (fun _ => rfl) _]
      simp [cI, mkI, Nat.min_eq_left hi]
    have e2 := re_oneSet (g := g) (T := T') (es := List.map cI (mkAt mkI wtI xs k i)) (i := i) (e' := [D.int IntKind.i64 (k + ↑i)]) (fun e he => by
      rw [List.getElem?_map] at he
      simp [hlt] at he
      rw [← he]; rfl)
    rw [e1] at e2
    simp [e1, e2]
    omega
  · have hn : i = xs.length := by omega
    subst hn
    simp [dInts, dSl, vendX]
    refine ⟨[0], fun γ hs' h1 h2 => ?_⟩
    simp [mkS, mkAt_all]

theorem w_laws_markIntSS (a : Sl Ints) (k : Int) (h0 : 1 ≤ k) (h1 : k + wtS (wtS wtI) a ≤ 4611686018427387904) (hw : whS (whS whI) a) (hl : okS (okS okI) a) (hnd : (dRows a).ids.Nodup) :
   VX Try.prog 68 (dRows a).ids [.d (dRows a), .d (.int .i64 k)] none (fun _ r _ ws => r = .d (.int .i64 (k + wtS (wtS wtI) a)) ∧ ws = [dRows (mkS (mkS mkI wtI) (wtS wtI) a k)]) := by
  refine VX.of E s68 (by kernel_rfl) Try.func68 (by rfl) (by kernel_rfl) (by simp [Try.f68]) (by simp [Try.f68]) s68_ok (fun g hg => .inl (by simpa using hg)) (fun cs h => nomatch h) fun B hB => ?_
  obtain ⟨id, T, xs⟩ := a
  have hl1 := hl.1
  simp only [maxLen] at hl1
  have hwt : wtS (wtS wtI) (⟨id, T, xs⟩ : Sl Ints) = sumW (wtS wtI) xs := rfl
  rw [hwt] at h1 ⊢
  simp [Try.f68]
  refine loop_rule (X := Nat) (fun i => i ≤ xs.length) (fun i => [(0, .d (dSl (cS cI) ⟨id, T, mkAt (mkS mkI wtI) (wtS wtI) xs k i⟩)), (1, .d (.int .i64 (k + sumW (wtS wtI) (xs.take i)))), (5, .d (.int .i64 i))]) (fun _ => []) (fun i => xs.length - i) 0 (by simp) (by simp) (by simp) ?_
  intro i hs t m hi hh
  by_cases hlt : i < xs.length
  · have hk := wr1 (i := i) (by omega)
    have e1 := sumW_succ (wtS wtI) hlt
    have e2 := sumW_le (wtS wtI) xs (i + 1)
    have hmem : xs[i] ∈ xs := List.getElem_mem _
    simp [dSl, hlt, cS]
    refine call_x (E29) (by simp [dSl]) (by simp) (by simp) (fun g hg => .inr ?_) (w_laws_markIntS xs[i] (k + sumW (wtS wtI) (xs.take i)) (by omega) (by omega) (hw.2 _ hmem) (hl.2 _ hmem) (by have := elem_nd (sl_nd hnd).1 hlt; rwa [idsL_cS] at this)) fun n hs' r cs' ws hn hn' hp hr hws => ?_
    · exact elem_ids (s := ⟨id, T, xs⟩) (c := cS cI) (i := i) hlt (by simpa [cS, idsL] using hg)
    obtain ⟨rfl, rfl⟩ := hp
    simp at hn
    have hnd' : (dSl (cS cI) (⟨id, T, mkAt (mkS mkI wtI) (wtS wtI) xs k i⟩ : Sl Ints)).ids.Nodup := by
      have : (dSl (cS cI) (⟨id, T, mkAt (mkS mkI wtI) (wtS wtI) xs k i⟩ : Sl Ints)).ids = (dRows ⟨id, T, xs⟩).ids := by
        simp only [dSl, D.ids]; rw [ids_mkAt (marksS marksI).ids]
      rw [this]; exact hnd
    have e3 := re_elem (c := cS cI) (s := ⟨id, T, mkAt (mkS mkI wtI) (wtS wtI) xs k i⟩) (i := i) (a' := mkS mkI wtI xs[i] (k + sumW (wtS wtI) (xs.take i))) (W := (dInts xs[i]).ids) (ws := [dInts (mkS mkI wtI xs[i] (k + sumW (wtS wtI) (xs.take i)))]) hnd' (by simpa using hlt)
      (fun g hg => by simpa [cS, idsL] using hg) (by simp only [mkAt_get]; exact reL_one (re_root (by simp [cI]) (hw.2 _ hmem).1 (by simp) (fun g hg => mem_slids hg) []))
    simp [dSl, cS, hk] at e3 ⊢
    refine back (i + 1) (by omega) (by omega) rfl (by simp <;> omega) ?_ (by simp)
    simp [e3, mkAt_succ hlt, e1]
    exact ⟨rfl, by omega⟩
  · have hn : i = xs.length := by omega
    subst hn
    simp [dSl, vendX]
    refine ⟨[0], fun γ hs' h1 h2 => ?_⟩
    simp [mkS, mkAt_all]

end Go.Proofs.Ytmifoeaifdmgkaa

namespace Go.Proofs.Ytmifoeaifdmgkaa
open Go.Vs Go.Proofs Go
set_option maxRecDepth 100000
set_option maxHeartbeats 1000000

theorem w_laws_markAtomS (a : Sl (Atom)) (k : Int) (h0 : 1 ≤ k) (h1 : k + wtS wtAtom a ≤ 4611686018427387904) (hw : whS whAtom a) (hl : okS okAtom a) (hnd : (dSl cAtom a).ids.Nodup) :
   VX Try.prog 67 (dSl cAtom a).ids [.d (dSl cAtom a), .d (.int .i64 k)] none (fun _ r _ ws => r = .d (.int .i64 (k + wtS wtAtom a)) ∧ ws = [dSl cAtom (mkS (mkAtom) (wtAtom) a k)]) := by
  refine VX.of E s67 (by kernel_rfl) Try.func67 (by rfl) (by kernel_rfl) (by simp [Try.f67]) (by simp [Try.f67]) s67_ok ?_ ?_ fun B hB => ?_
  · exact fun g hg => .inl (by simpa using hg)
  · exact fun cs h => nomatch h
  obtain ⟨id, T, xs⟩ := a
  have hl1 := hl.1
  simp only [maxLen] at hl1
  have hwt : wtS wtAtom (⟨id, T, xs⟩ : Sl (Atom)) = sumW wtAtom xs := rfl
  rw [hwt] at h1 ⊢
  simp [Try.f67]
  refine loop_rule (X := Nat) (fun i => i ≤ xs.length) (fun i => [(0, .d (dSl cAtom ⟨id, T, mkAt mkAtom wtAtom xs k i⟩)), (1, .d (.int .i64 (k + sumW wtAtom (xs.take i)))), (5, .d (.int .i64 i))]) (fun _ => []) (fun i => xs.length - i) 0 (by simp) (by simp) (by simp) ?_
  intro i hs t m hi hh
  by_cases hlt : i < xs.length
  · have hwi := wr1 (i := i) (by omega)
    have e1 := sumW_succ wtAtom hlt
    have e2 := sumW_le wtAtom xs (i + 1)
    have hmem : xs[i] ∈ xs := List.getElem_mem _
    have hwx : wtAtom xs[i] = 1 + wtS wtI xs[i].vars := by simp only [wtAtom, wtStr] <;> omega
    obtain ⟨g, hg, T', hT⟩ := hw.1.id hlt
    simp only at hg hT
    subst hg hT
    have hnd2 := sl_nd hnd
    have hnn : g ∉ idsLL ((mkAt mkAtom wtAtom xs k i).map cAtom) := by rw [ids_mkAt marksAtom.ids]; exact hnd2.2 g rfl
    have hni : g ∉ idsL (cAtom xs[i]) := fun hin => hnd2.2 g rfl (idsLL_map_mem.2 ⟨_, hmem, hin⟩)
    have hne := elem_nd hnd2.1 hlt
    have hni0 := hni
    have hne0 := hne
    have hap : ∀ W : List Nat, (∀ q ∈ W, q ∈ idsL (cAtom xs[i])) → ∀ ws (j : Nat) (e : List D), j ≠ i → ((mkAt mkAtom wtAtom xs k i).map cAtom)[j]? = some e → ∀ q ∈ idsL e, phi W ws q = none := by
      intro W hW ws
      exact nd_mapD (by rw [ids_mkAt marksAtom.ids]; exact hnd2.1) (i := i) (by simpa using hlt) (by simpa using hW) ws
    simp only [cAtom, cS, cStr, idsL_app, idsL, D.ids, dSl, List.append_nil, List.nil_append, List.cons_append, List.mem_append, not_or, List.append_assoc] at hni hne
    simp [dSl, hlt]
    have hk0 : IntKind.i64.wrap (k + sumW wtAtom (xs.take i) + 1) = k + sumW wtAtom (xs.take i) + 1 := wrap64_of (by omega) (by omega)
    refine call_pure (w_laws_markText _ (by omega) (by omega)) rfl (by simp) rfl fun hs0 hh0 => ?_
    simp at hh0
    simp [dSl, hlt, cAtom, cS, cStr, hnn, nin_set hnn, idsL, D.ids, hni, hk0, hwi, ids_mk (wt := wtI) marksI.ids]
    have hx1 : dSl cI xs[i].vars ∈ cAtom xs[i] := by simp [cAtom, cS, cStr]
    refine call_x (E29) (by simp [dSl]) (by simp) (by simp) (fun q hq => .inr ?_) (w_laws_markIntS xs[i].vars (k + sumW wtAtom (xs.take i) + 1) (by omega) (by omega) ((hw.2 _ hmem).2) ((hl.2 _ hmem).2) (nd_mem hne0 hx1)) fun n1 hs1 r cs' ws hn1 hm1 hp hr hws => ?_
    · exact elem_ids (s := ⟨some g, some T', xs⟩) (c := cAtom) (i := i) hlt (mem_idsL hx1 hq)
    obtain ⟨rfl, rfl⟩ := hp
    simp at hn1
    have hre1 : reL (phi (dSl cI xs[i].vars).ids [dSl cI (mkS (mkI) (wtI) xs[i].vars (k + sumW wtAtom (xs.take i) + 1))]) [D.str (mtext (k + sumW wtAtom (xs.take i))), dSl cI xs[i].vars] = some [D.str (mtext (k + sumW wtAtom (xs.take i))), dSl cI (mkS (mkI) (wtI) xs[i].vars (k + sumW wtAtom (xs.take i) + 1))] := reL_cons_iff.2 ⟨rfl, reL_cons_iff.2 ⟨re_root marksI.len ((hw.2 _ hmem).2).1 (by simp) (fun g hg => mem_slids hg) [], rfl⟩⟩
    have hse1 := re_elemD (g := g) (T := some T') (es := (mkAt mkAtom wtAtom xs k i).map cAtom) (phi_out (W := (dSl cI xs[i].vars).ids) (ws := [dSl cI (mkS (mkI) (wtI) xs[i].vars (k + sumW wtAtom (xs.take i) + 1))]) (g := g) (fun h => hni0 (mem_idsL hx1 h))) hre1 (hap _ (fun q hq => mem_idsL hx1 hq) _)
    simp [dSl, cAtom, cS, cStr, mkS] at hse1 ⊢
    simp [hse1, hlt, hnn, nin_set hnn, idsL, D.ids, hni, hwi, mkS, ids_mk (wt := wtI) marksI.ids]
    refine back (i + 1) (by omega) (by omega) rfl (by simp <;> omega) ?_ (by simp)
    simp [mkAt_succ hlt, e1, cAtom, cS, cStr, dSl]
    first
    | exact ⟨rfl, by omega⟩
    | (refine ⟨?_, by omega⟩; simp [mkAtom, mkStr, wtAtom, wtStr, mkS, Int.add_assoc, show ∀ x : Int, 1 + (1 + x) = 2 + x from fun x => by omega])
  · have hn : i = xs.length := by omega
    subst hn
    simp [dSl, vendX]
    refine ⟨[0], fun γ hs' h1 h2 => ?_⟩
    simp [mkS, mkAt_all]
theorem simT_Query {a : Query} (hw : whQuery a) (k : Int) : Sim (cQuery a) (cQuery (mkTQuery a k)) := ((Sim.leaf (by simp [D.ids]) Sim.nil).app (sim_mk marksAtom hw.2.1 (k))).app (sim_mk marksI hw.2.2 (k + wtS wtAtom a.atoms))
theorem w_laws_markQuery (a : Query) (k : Int) (h0 : 1 ≤ k) (h1 : k + wtTQuery a ≤ 4611686018427387904) (hw : whQuery a) (hl : okQuery a) (hnd : (idsL (cQuery a)).Nodup) :
   VX Try.prog 20 (idsL (cQuery a)) [.agg ((cQuery a).map V.d), .d (.int .i64 k)] none (fun _ r _ ws => r = .d (.int .i64 (k + wtTQuery a)) ∧ ws = cQuery (mkTQuery a k)) := by
  refine VX.of E s20 (by kernel_rfl) Try.func20 (by rfl) (by kernel_rfl) (by simp [Try.f20]) (by simp [Try.f20]) s20_ok ?_ ?_ fun B hB => ?_
  · exact fun g hg => .inl (by simpa [idsVL, V.ids, idsVL_map_d] using hg)
  · exact fun cs h => nomatch h
  have hwt : wtTQuery a = wtS wtAtom a.atoms + wtS wtI a.out := rfl
  have hnd0 := hnd
  simp only [cQuery, idsL_app] at hnd0
  have nd0 : (idsL (cI a.n)).Nodup := nd_left (nd_left (hnd0))
  have nd1 : (idsL (cS cAtom a.atoms)).Nodup := nd_right (nd_left (hnd0))
  have nd2 : (idsL (cS cI a.out)).Nodup := nd_right (hnd0)
  have dj0_1 : ∀ g ∈ idsL (cI a.n), g ∉ idsL (cS cAtom a.atoms) := fun g hg => nd_disj (nd_left (hnd0)) g (hg)
  have dj0_2 : ∀ g ∈ idsL (cI a.n), g ∉ idsL (cS cI a.out) := fun g hg => nd_disj (hnd0) g (List.mem_append_left _ (hg))
  have dj1_2 : ∀ g ∈ idsL (cS cAtom a.atoms), g ∉ idsL (cS cI a.out) := fun g hg => nd_disj (hnd0) g (List.mem_append_right _ hg)
  simp [Try.f20, cI, cQuery, cS]
  refine call_x (E67) (by simp) (by simp) (by simp) (fun q hq => .inr ?_) (w_laws_markAtomS a.atoms (k) (by omega) (by omega) (hw.2.1) (hl.2.1) (by rw [← idsL_cS]; exact nd1)) fun n0 hs0 r cs' ws hn0 hm0 hp hr hws => ?_
  · simp only [idsL_app, idsL, List.append_nil, List.nil_append, List.append_assoc, List.mem_append, cI, cQuery, cS] at hq ⊢
    first | (simp [hq]; done) | (simp [D.ids] at hq ⊢; grind)
  obtain ⟨rfl, rfl⟩ := hp
  simp at hn0
  have hre0 : reL (phi ((dSl cAtom a.atoms).ids) [dSl cAtom (mkS (mkAtom) (wtAtom) a.atoms (k))]) (cS cAtom a.atoms) = some (cS cAtom (mkS (mkAtom) (wtAtom) a.atoms (k))) := by
    have := re_sim (sim_mk marksAtom hw.2.1 (k)) ((marksS marksAtom).ids _ _) nd1
    rw [idsL_cS] at this
    exact this
  have ho0_2 : reL (phi ((dSl cAtom a.atoms).ids) [dSl cAtom (mkS (mkAtom) (wtAtom) a.atoms (k))]) (cS cI a.out) = some (cS cI a.out) := re_same fun g hg => by
    rw [← idsL_cS] at hg
    skip
    exact dj1_2 g hg
  replace hre0 := reVL_map hre0
  replace ho0_2 := reVL_map ho0_2
  simp only [cI, cQuery, cS, List.cons_append, List.nil_append, List.map_cons, List.map_nil, reVL_cons, reVL_nil, List.cons.injEq, and_true, reV_int, reV_str, true_and] at hre0 ho0_2
  simp [hre0, ho0_2, cI, cQuery, cS]
  refine call_x (E29) (by simp) (by simp) (by simp) (fun q hq => .inr ?_) (w_laws_markIntS a.out (k + wtS wtAtom a.atoms) (by omega) (by omega) (hw.2.2) (hl.2.2) (by rw [← idsL_cS]; exact nd2)) fun n1 hs1 r cs' ws hn1 hm1 hp hr hws => ?_
  · simp only [idsL_app, idsL, List.append_nil, List.nil_append, List.append_assoc, List.mem_append, cI, cQuery, cS] at hq ⊢
    first | (simp [hq]; done) | (simp [D.ids] at hq ⊢; grind)
  obtain ⟨rfl, rfl⟩ := hp
  simp at hn1
  have hre1 : reL (phi ((dSl cI a.out).ids) [dSl cI (mkS (mkI) (wtI) a.out (k + wtS wtAtom a.atoms))]) (cS cI a.out) = some (cS cI (mkS (mkI) (wtI) a.out (k + wtS wtAtom a.atoms))) := by
    have := re_sim (sim_mk marksI hw.2.2 (k + wtS wtAtom a.atoms)) ((marksS marksI).ids _ _) nd2
    rw [idsL_cS] at this
    exact this
  have ho1_1 : reL (phi ((dSl cI a.out).ids) [dSl cI (mkS (mkI) (wtI) a.out (k + wtS wtAtom a.atoms))]) (cS cAtom (mkS (mkAtom) (wtAtom) a.atoms (k))) = some (cS cAtom (mkS (mkAtom) (wtAtom) a.atoms (k))) := re_same fun g hg => by
    rw [← idsL_cS] at hg
    rw [(marksS marksAtom).ids]
    exact (fun h => dj1_2 g h hg)
  replace hre1 := reVL_map hre1
  replace ho1_1 := reVL_map ho1_1
  simp only [cI, cQuery, cS, List.cons_append, List.nil_append, List.map_cons, List.map_nil, reVL_cons, reVL_nil, List.cons.injEq, and_true, reV_int, reV_str, true_and] at hre1 ho1_1
  simp [hre1, ho1_1, cI, cQuery, cS]
  simp [vendX]
  refine ⟨[0], fun γ hs' h1 h2 => ?_⟩
  simp [isD, dD, hwt, mkTQuery, cI, cQuery, cS, reD]
  try omega
theorem simT_Dec {a : Dec} (hw : whDec a) (k : Int) : Sim (cDec a) (cDec (mkTDec a k)) := (sim_mk (marksS marksI) hw.1 (k)).app (sim_mk marksI hw.2 (k + wtS (wtS wtI) a.bags))
theorem w_laws_markDecomposition (a : Dec) (k : Int) (h0 : 1 ≤ k) (h1 : k + wtTDec a ≤ 4611686018427387904) (hw : whDec a) (hl : okDec a) (hnd : (idsL (cDec a)).Nodup) :
   VX Try.prog 21 (idsL (cDec a)) [.agg ((cDec a).map V.d), .d (.int .i64 k)] none (fun _ r _ ws => r = .d (.int .i64 (k + wtTDec a)) ∧ ws = cDec (mkTDec a k)) := by
  refine VX.of E s21 (by kernel_rfl) Try.func21 (by rfl) (by kernel_rfl) (by simp [Try.f21]) (by simp [Try.f21]) s21_ok ?_ ?_ fun B hB => ?_
  · exact fun g hg => .inl (by simpa [idsVL, V.ids, idsVL_map_d] using hg)
  · exact fun cs h => nomatch h
  have hwt : wtTDec a = wtS (wtS wtI) a.bags + wtS wtI a.par := rfl
  have hnd0 := hnd
  simp only [cDec, idsL_app] at hnd0
  have nd0 : (idsL (cS (cS cI) a.bags)).Nodup := nd_left (hnd0)
  have nd1 : (idsL (cS cI a.par)).Nodup := nd_right (hnd0)
  have dj0_1 : ∀ g ∈ idsL (cS (cS cI) a.bags), g ∉ idsL (cS cI a.par) := fun g hg => nd_disj (hnd0) g (hg)
  simp [Try.f21, cDec, cS]
  refine call_x (E68) (by simp) (by simp) (by simp) (fun q hq => .inr ?_) (w_laws_markIntSS a.bags (k) (by omega) (by omega) (hw.1) (hl.1) (by rw [← idsL_cS]; exact nd0)) fun n0 hs0 r cs' ws hn0 hm0 hp hr hws => ?_
  · simp only [idsL_app, idsL, List.append_nil, List.nil_append, List.append_assoc, List.mem_append, cDec, cS] at hq ⊢
    first | (simp [hq]; done) | (simp [D.ids] at hq ⊢; grind)
  obtain ⟨rfl, rfl⟩ := hp
  simp at hn0
  have hre0 : reL (phi ((dSl (cS cI) a.bags).ids) [dSl (cS cI) (mkS (mkS (mkI) (wtI)) (wtS wtI) a.bags (k))]) (cS (cS cI) a.bags) = some (cS (cS cI) (mkS (mkS (mkI) (wtI)) (wtS wtI) a.bags (k))) := by
    have := re_sim (sim_mk (marksS marksI) hw.1 (k)) ((marksS (marksS marksI)).ids _ _) nd0
    rw [idsL_cS] at this
    exact this
  have ho0_1 : reL (phi ((dSl (cS cI) a.bags).ids) [dSl (cS cI) (mkS (mkS (mkI) (wtI)) (wtS wtI) a.bags (k))]) (cS cI a.par) = some (cS cI a.par) := re_same fun g hg => by
    rw [← idsL_cS] at hg
    skip
    exact dj0_1 g hg
  replace hre0 := reVL_map hre0
  replace ho0_1 := reVL_map ho0_1
  simp only [cDec, cS, List.cons_append, List.nil_append, List.map_cons, List.map_nil, reVL_cons, reVL_nil, List.cons.injEq, and_true, reV_int, reV_str, true_and] at hre0 ho0_1
  simp [hre0, ho0_1, cDec, cS]
  refine call_x (E29) (by simp) (by simp) (by simp) (fun q hq => .inr ?_) (w_laws_markIntS a.par (k + wtS (wtS wtI) a.bags) (by omega) (by omega) (hw.2) (hl.2) (by rw [← idsL_cS]; exact nd1)) fun n1 hs1 r cs' ws hn1 hm1 hp hr hws => ?_
  · simp only [idsL_app, idsL, List.append_nil, List.nil_append, List.append_assoc, List.mem_append, cDec, cS] at hq ⊢
    first | (simp [hq]; done) | (simp [D.ids] at hq ⊢; grind)
  obtain ⟨rfl, rfl⟩ := hp
  simp at hn1
  have hre1 : reL (phi ((dSl cI a.par).ids) [dSl cI (mkS (mkI) (wtI) a.par (k + wtS (wtS wtI) a.bags))]) (cS cI a.par) = some (cS cI (mkS (mkI) (wtI) a.par (k + wtS (wtS wtI) a.bags))) := by
    have := re_sim (sim_mk marksI hw.2 (k + wtS (wtS wtI) a.bags)) ((marksS marksI).ids _ _) nd1
    rw [idsL_cS] at this
    exact this
  have ho1_0 : reL (phi ((dSl cI a.par).ids) [dSl cI (mkS (mkI) (wtI) a.par (k + wtS (wtS wtI) a.bags))]) (cS (cS cI) (mkS (mkS (mkI) (wtI)) (wtS wtI) a.bags (k))) = some (cS (cS cI) (mkS (mkS (mkI) (wtI)) (wtS wtI) a.bags (k))) := re_same fun g hg => by
    rw [← idsL_cS] at hg
    rw [(marksS (marksS marksI)).ids]
    exact (fun h => dj0_1 g h hg)
  replace hre1 := reVL_map hre1
  replace ho1_0 := reVL_map ho1_0
  simp only [cDec, cS, List.cons_append, List.nil_append, List.map_cons, List.map_nil, reVL_cons, reVL_nil, List.cons.injEq, and_true, reV_int, reV_str, true_and] at hre1 ho1_0
  simp [hre1, ho1_0, cDec, cS]
  simp [vendX]
  refine ⟨[0], fun γ hs' h1 h2 => ?_⟩
  simp [isD, dD, hwt, mkTDec, cDec, cS, reD]
  try omega

end Go.Proofs.Ytmifoeaifdmgkaa

namespace Go.Proofs.Ytmifoeaifdmgkaa
open Go.Vs Go.Proofs Go
set_option maxRecDepth 100000
set_option maxHeartbeats 1000000

attribute [simp] plI_id plStr_id map_plI map_plStr pS cP cI cStr cU8 cB
theorem w_impl_within (n lo hi : Int) : VC Try.prog 103 [.d (.int .i64 n), .d (.int .i64 lo), .d (.int .i64 hi)] (fun _ r => r = .d (.bool (inR n lo hi))) := by
  refine VC.ofL EP s103 (by kernel_rfl) Try.func103 (by rfl) (by kernel_rfl) (by simp [Try.f103]) (by simp [Try.f103]) s103_ok fun B hl => ?_
  by_cases h : lo ≤ n
  · simp [Try.f103, inR, h]
  · simp [Try.f103, inR, h]
theorem w_spec_l1In (n lo hi : Int) : VC Try.prog 105 [.d (.int .i64 n), .d (.int .i64 lo), .d (.int .i64 hi)] (fun _ r => r = .d (.bool (inR n lo hi))) := by
  refine VC.ofL EP s105 (by kernel_rfl) Try.func105 (by rfl) (by kernel_rfl) (by simp [Try.f105]) (by simp [Try.f105]) s105_ok fun B hl => ?_
  by_cases h : lo ≤ n
  · simp [Try.f105, inR, h]
  · simp [Try.f105, inR, h]
theorem w_impl_AreValidValues (xs : List Int) : VC Try.prog 139 [.d (pS cI xs)] (fun _ r => r = .d (.bool (valsOk xs))) := by
  refine VC.ofL EP s139 (by kernel_rfl) Try.func139 (by rfl) (by kernel_rfl) (by simp [Try.f139]) (by simp [Try.f139]) s139_ok fun B hl => ?_
  simp [pS, maxLen] at hl
  simp [Try.f139, pS]
  refine loop_rule (X := Nat) (fun i => i ≤ xs.length ∧ (xs.take i).all (fun v => inR v 0 99) = true) (fun i => [(5, .d (.pl (xs.map cI))), (6, .d (.int .i64 xs.length)), (7, .d (.int .i64 i))]) (fun _ => []) (fun i => xs.length - i) 0 (by simp) (by simp) (by simp) ?_
  intro i hs t m hi hh
  by_cases hlt : i < xs.length
  · have hwi := wr1 (i := i) (by omega)
    have hst := all_step (p := fun v => inR v 0 99) hlt
    rw [hi.2, Bool.true_and] at hst
    have hbad : inR xs[i] 0 99 = false → valsOk xs = false := all_bad (p := fun v => inR v 0 99) hlt
    simp [hlt, cI]
    refine call_f (w_impl_within xs[i] 0 99) (by simp) rfl fun hs1 hh1 => ?_
    cases hc : inR xs[i] 0 99
    · simp [hbad hc]
    · simp [hwi]
      simp at hh1
      exact back (i + 1) ⟨by omega, List.all_eq_true.1 (hst.trans hc)⟩ (by omega) rfl (by simp <;> omega) (by simp) (by simp)
  · have hd : valsOk xs = true := all_done (by omega) hi.2
    simp [hlt, hd]

end Go.Proofs.Ytmifoeaifdmgkaa

namespace Go.Proofs.Ytmifoeaifdmgkaa
open Go.Vs Go.Proofs Go
set_option maxRecDepth 100000
set_option maxHeartbeats 1000000

section
attribute [local simp] plI_id plStr_id map_plI map_plStr pS cP cI cStr cU8 cB
theorem w_spec_l7Find (l : List Int) (v : Int) : VC Try.prog 75 [.d (pS cI l), .d (.int .i64 v)] (fun _ r => r = .d (.int .i64 (idxL l v))) := by
  refine VC.ofL EP s75 (by kernel_rfl) Try.func75 (by rfl) (by kernel_rfl) (by simp [Try.f75]) (by simp [Try.f75]) s75_ok fun B hl => ?_
  simp [pS, maxLen] at hl
  simp [Try.f75, ]
  refine loop_rule (X := Nat) (fun i => i ≤ l.length ∧ AllTo (fun x => !(x == v)) l i) (fun i => [(0, .d (.pl (l.map cI))), (1, .d (.int .i64 v)), (5, .d (.int .i64 i))]) (fun _ => []) (fun i => l.length - i) 0 ⟨by simp, allTo_zero⟩ (by simp) (by simp) ?_
  intro i hs t m hi hh
  by_cases hlt : i < l.length
  · have hwi := wr1 (i := i) (by omega)
    by_cases he : l[i] = v
    · have hx := idxL_at hi.2 hlt he
      simp [hlt, he, hx, ]
    · simp [hlt, he, hwi, ]
      exact back (i + 1) ⟨by omega, allTo_step hi.2 hlt (by simp [he])⟩ (by omega) rfl (by simp <;> omega) (by simp) (by simp)
  · have hx := (idxL_no (allTo_done hi.2 (by omega))).2
    simp [hlt, hx]
theorem w_impl_indexOf (l : List Int) (v : Int) : VC Try.prog 130 [.d (pS cI l), .d (.int .i64 v)] (fun _ r => r = .d (.int .i64 (idxL l v))) := by
  refine VC.ofL EP s130 (by kernel_rfl) Try.func130 (by rfl) (by kernel_rfl) (by simp [Try.f130]) (by simp [Try.f130]) s130_ok fun B hl => ?_
  simp [pS, maxLen] at hl
  simp [Try.f130, ]
  refine loop_rule (X := Nat) (fun i => i ≤ l.length ∧ AllTo (fun x => !(x == v)) l i) (fun i => [(1, .d (.int .i64 v)), (7, .d (.pl (l.map cI))), (8, .d (.int .i64 l.length)), (9, .d (.int .i64 i))]) (fun _ => []) (fun i => l.length - i) 0 ⟨by simp, allTo_zero⟩ (by simp) (by simp) ?_
  intro i hs t m hi hh
  by_cases hlt : i < l.length
  · have hwi := wr1 (i := i) (by omega)
    by_cases he : l[i] = v
    · have hx := idxL_at hi.2 hlt he
      simp [hlt, he, hx, ]
    · simp [hlt, he, hwi, ]
      exact back (i + 1) ⟨by omega, allTo_step hi.2 hlt (by simp [he])⟩ (by omega) rfl (by simp <;> omega) (by simp) (by simp)
  · have hx := (idxL_no (allTo_done hi.2 (by omega))).2
    simp [hlt, hx]
theorem w_impl_hasInt (l : List Int) (v : Int) : VC Try.prog 87 [.d (pS cI l), .d (.int .i64 v)] (fun _ r => r = .d (.bool (l.contains v))) := by
  refine VC.ofL EP s87 (by kernel_rfl) Try.func87 (by rfl) (by kernel_rfl) (by simp [Try.f87]) (by simp [Try.f87]) s87_ok fun B hl => ?_
  rw [← idxL_ge]
  simp [Try.f87, ]
  refine call_f (w_impl_indexOf l v) (by simp) rfl fun hs1 hh1 => ?_
  simp
theorem w_spec_ContainsVariable (a : PAtom) (v : Int) : VC Try.prog 119 [.agg ((eAtom a).map V.d), .d (.int .i64 v)] (fun _ r => r = .d (.bool (a.vars.contains v))) := by
  refine VC.ofL EP s119 (by kernel_rfl) Try.func119 (by rfl) (by kernel_rfl) (by simp [Try.f119]) (by simp [Try.f119]) s119_ok fun B hl => ?_
  obtain ⟨nm, l⟩ := a
  simp [pS, maxLen, eAtom] at hl
  simp [Try.f119, eAtom]
  refine loop_rule (X := Nat) (fun i => i ≤ l.length ∧ AllTo (fun x => !(x == v)) l i) (fun i => [(1, .d (.int .i64 v)), (2, .ptr 2 0 0), (5, .d (.int .i64 i))]) (fun _ => [(2, some (.box [.d (.str nm), .d (.pl (l.map cI))]))]) (fun i => l.length - i) 0 ⟨by simp, allTo_zero⟩ (by simp) (by simp) ?_
  intro i hs t m hi hh
  by_cases hlt : i < l.length
  · have hwi := wr1 (i := i) (by omega)
    by_cases he : l[i] = v
    · have hx : v ∈ l := he ▸ List.getElem_mem hlt
      simp [hlt, he, hx, ]
    · simp [hlt, he, hwi, ]
      exact back (i + 1) ⟨by omega, allTo_step hi.2 hlt (by simp [he])⟩ (by omega) rfl (by simp <;> omega) (by simp) (by simp)
  · have hx := (idxL_no (allTo_done hi.2 (by omega))).1
    simp [hlt, hx]
theorem w_impl_ContainsVariable (a : PAtom) (v : Int) : VC Try.prog 126 [.agg ((eAtom a).map V.d), .d (.int .i64 v)] (fun _ r => r = .d (.bool (a.vars.contains v))) := by
  refine VC.ofL EP s126 (by kernel_rfl) Try.func126 (by rfl) (by kernel_rfl) (by simp [Try.f126]) (by simp [Try.f126]) s126_ok fun B hl => ?_
  simp [Try.f126, eAtom]
  refine call_f (w_impl_hasInt a.vars v) (by simp) rfl fun hs1 hh1 => ?_
  simp
theorem w_impl_isLetters (s : List UInt8) : VC Try.prog 143 [.d (.str s), .d (.int .i64 4)] (fun _ r => r = .d (.bool (nameOk s))) := by
  refine VC.ofL EP s143 (by kernel_rfl) Try.func143 (by rfl) (by kernel_rfl) (by simp [Try.f143]) (by simp [Try.f143]) s143_ok fun B hl => ?_
  by_cases h1 : (s.length : Int) < 1
  · have : s = [] := List.length_eq_zero_iff.1 (by omega)
    subst this
    simp [Try.f143, nameOk_len]
  by_cases h4 : (4 : Int) < s.length
  · have : nameOk s = false := nameOk_len (by omega)
    simp [Try.f143, h1, h4, this]
  have hlen : 1 ≤ s.length ∧ s.length ≤ 4 := by omega
  simp [Try.f143, h1, h4]
  refine loop_rule (X := Nat) (fun i => i ≤ s.length ∧ AllTo lowB s i) (fun i => [(0, .d (.str s)), (5, .d (.int .i64 i))]) (fun _ => []) (fun i => s.length - i) 0 ⟨by simp, allTo_zero⟩ (by simp) (by simp) ?_
  intro i hs t m hi hh
  by_cases hlt : i < s.length
  · have hwi := wr1 (i := i) (by omega)
    by_cases ha : ((s[i]).toNat : Int) < 97
    · have hbad := nameOk_bad (all_bad (p := lowB) hlt (lowB_lo ha))
      simp [hlt, ha, hbad, ]
    · by_cases hz : (122 : Int) < ((s[i]).toNat : Int)
      · have hbad := nameOk_bad (all_bad (p := lowB) hlt (lowB_hi hz))
        simp [hlt, ha, hz, hbad, ]
      · simp [hlt, ha, hz, hwi, ]
        exact back (i + 1) ⟨by omega, allTo_step hi.2 hlt (lowB_ok ha hz)⟩ (by omega) rfl (by simp <;> omega) (by simp) (by simp)
  · have hd := allTo_done hi.2 (by omega)
    have hd2 : nameOk s = true := by rw [nameOk_ok hd, decide_eq_true hlen]
    simp [hlt, hd2]
theorem w_impl_IsValidName (s : List UInt8) : VC Try.prog 122 [.d (.str s)] (fun _ r => r = .d (.bool (nameOk s))) := by
  refine VC.ofL EP s122 (by kernel_rfl) Try.func122 (by rfl) (by kernel_rfl) (by simp [Try.f122]) (by simp [Try.f122]) s122_ok fun B hl => ?_
  simp [Try.f122, ]
  refine call_f (w_impl_isLetters s) (by simp) rfl fun hs1 hh1 => ?_
  simp
theorem w_spec_IsValidName (s : List UInt8) (hb : s.length ≤ maxLen) : VC Try.prog 118 [.d (.str s)] (fun _ r => r = .d (.bool (nameOk s))) := by
  refine VC.ofL EP s118 (by kernel_rfl) Try.func118 (by rfl) (by kernel_rfl) (by simp [Try.f118]) (by simp [Try.f118]) s118_ok fun B hl => ?_
  simp only [maxLen] at hb
  simp [Try.f118, ]
  refine loop_rule (X := Nat) (fun i => i ≤ s.length ∧ AllTo lowB s i) (fun i => [(0, .d (.str s)), (3, .d (.int .i64 i))]) (fun _ => []) (fun i => s.length - i) 0 ⟨by simp, allTo_zero⟩ (by simp) (by simp) ?_
  intro i hs t m hi hh
  by_cases hlt : i < s.length
  · have hwi := wr1 (i := i) (by omega)
    by_cases ha : ((s[i]).toNat : Int) < 97
    · have hbad := nameOk_bad (all_bad (p := lowB) hlt (lowB_lo ha))
      simp [hlt, ha, hbad, ]
    · by_cases hz : (122 : Int) < ((s[i]).toNat : Int)
      · have hbad := nameOk_bad (all_bad (p := lowB) hlt (lowB_hi hz))
        simp [hlt, ha, hz, hbad, ]
      · simp [hlt, ha, hz, hwi, ]
        exact back (i + 1) ⟨by omega, allTo_step hi.2 hlt (lowB_ok ha hz)⟩ (by omega) rfl (by simp <;> omega) (by simp) (by simp)
  · have hd := allTo_done hi.2 (by omega)
    simp [hlt, ]
    refine call_f (w_spec_l1In s.length 1 4) (by simp) rfl fun hs1 hh1 => ?_
    have e : inR (s.length : Int) 1 4 = decide (1 ≤ s.length ∧ s.length ≤ 4) := by
      simp only [inR, ← Bool.decide_and]; congr 1; apply propext; omega
    rw [e, nameOk_ok hd]
    simp
theorem w_impl_isSetOf (l : List Int) (n : Int) : VC Try.prog 121 [.d (pS cI l), .d (.int .i64 n)] (fun _ r => r = .d (.bool (setOf l n))) := by
  refine VC.ofL EP s121 (by kernel_rfl) Try.func121 (by rfl) (by kernel_rfl) (by simp [Try.f121]) (by simp [Try.f121]) s121_ok fun B hl => ?_
  simp [pS, maxLen] at hl
  simp [Try.f121, ]
  refine loop_rule (X := Nat) (SetTo l n) (fun i => [(0, .d (.pl (l.map cI))), (1, .d (.int .i64 n)), (7, .d (.pl (l.map cI))), (8, .d (.int .i64 l.length)), (9, .d (.int .i64 i))]) (fun _ => []) (fun i => l.length - i) 0 .zero (by simp) (by simp) ?_
  intro i hs t m hi hh
  have hil := hi.le
  by_cases hlt : i < l.length
  · have hwi := wr1 (i := i) (by omega)
    simp [hlt, ]
    refine call_f (w_impl_within l[i] 0 (IntKind.i64.wrap (n - 1))) (by simp) rfl fun hs1 hh1 => ?_
    simp at hh1
    cases h1 : inR l[i] 0 (IntKind.i64.wrap (n - 1))
    · simp [setOf_bad1 hlt h1]
    simp [hil, ← List.map_take, ]
    refine call_f (w_impl_hasInt (l.take i) l[i]) (by simp) rfl fun hs2 hh2 => ?_
    simp at hh2
    by_cases h2 : l[i] ∈ l.take i
    · simp [h2, setOf_bad2 hlt h2]
    simp [h2, hwi, ]
    exact back (i + 1) (hi.step hlt h1 h2) (by omega) rfl (by simp <;> omega) (by simp) (by simp)
  · have hd := hi.done (by omega)
    simp [hlt, hd]
end

end Go.Proofs.Ytmifoeaifdmgkaa

namespace Go.Proofs.Ytmifoeaifdmgkaa
open Go.Vs Go.Proofs Go
set_option maxRecDepth 100000
set_option maxHeartbeats 1000000

section
attribute [local simp] plI_id plStr_id map_plI map_plStr pS cP cI cStr cU8 cB eAtom
theorem w_spec_IsValidQuery (q : PQuery) (hst : ∀ a ∈ q.atoms, a.rel.length ≤ maxLen) : VC Try.prog 61 [.agg ((eQuery q).map V.d)] (fun _ r => r = .d (.bool (queryOk q))) := by
  refine VC.ofL EP s61 (by kernel_rfl) Try.func61 (by rfl) (by kernel_rfl) (by simp [Try.f61]) (by simp [Try.f61]) s61_ok fun B hl => ?_
  obtain ⟨n, ats, out⟩ := q
  simp only at hst
  simp [pS, maxLen, eQuery] at hl
  simp [Try.f61, s61_11, s61_26, s61_11, s61_26, eQuery]
  refine call_f (w_spec_l1In n 1 5) (by simp) rfl fun hs1 hh1 => ?_
  simp at hh1
  cases h1 : inR n 1 5
  · simp [queryOk_n (q := ⟨n, ats, out⟩) h1]
  have hn : 1 ≤ n ∧ n ≤ 5 := by simpa [inR] using h1
  simp [s61_11, s61_26, eQuery]
  refine call_f (w_spec_l1In ats.length 1 4) (by simp) rfl fun hs2 hh2 => ?_
  simp at hh2
  cases h2 : inR (ats.length : Int) 1 4
  · simp [queryOk_a (q := ⟨n, ats, out⟩) h2]
  have ha4 : ats.length ≤ 4 := by simp [inR] at h2; omega
  by_cases h3 : n < out.length
  · have hso : setOf out n = false := by
      cases hs : setOf out n
      · rfl
      · have := setOf_len hn hs; omega
    simp [h3, queryOk_o (q := ⟨n, ats, out⟩) hso]
  have hrw : ∀ i (h : i < ats.length), ats[i].rel.length ≤ maxLen := fun i h => hst _ (List.getElem_mem h)
  have hvl : ∀ i (h : i < ats.length), ats[i].vars.length ≤ 9223372036854775807 := fun i h => (hl.1.2 _ (List.getElem_mem h))
  simp [h3]
  refine loop_rule (X := Nat) (AtI n ats) (fun i => [(1, .ptr 1 0 0), (3, .d (.int .i64 i))]) (fun _ => [(1, some (.box [.d (.int .i64 n), .d (.pl (ats.map eAtom)), .d (.pl (out.map cI))]))]) (fun i => ats.length - i) 0 .zero (by simp) (by simp) ?_
  intro i hs t m hi hh
  have hil := hi.le
  by_cases hlt : i < ats.length
  · have hwi := wr1 (i := i) (by omega)
    have hbad : atomOk n ats[i] = false → queryOk ⟨n, ats, out⟩ = false := fun h => queryOk_at (q := ⟨n, ats, out⟩) hlt h
    simp [hlt, s61_11, s61_26, ]
    refine call_f (w_spec_IsValidName ats[i].rel (hrw i hlt)) (by simp) rfl fun hs3 hh3 => ?_
    simp at hh3
    cases h4 : nameOk ats[i].rel
    · simp [hbad (by simp only [atomOk, h4, Bool.false_and])]
    simp [hlt, s61_11, s61_26, ]
    refine call_f (w_spec_l1In ats[i].vars.length 1 5) (by simp) rfl fun hs4 hh4 => ?_
    simp at hh4
    cases h5 : inR (ats[i].vars.length : Int) 1 5
    · simp [hbad (by simp only [atomOk, h5, Bool.false_and, Bool.and_false])]
    simp [s61_11, s61_26, ]
    refine loop_rule (X := Nat) (AtK n ats[i].vars) (fun k => [(1, .ptr 1 0 0), (3, .d (.int .i64 i)), (4, .d (.int .i64 k))]) (fun _ => [(1, some (.box [.d (.int .i64 n), .d (.pl (ats.map eAtom)), .d (.pl (out.map cI))]))]) (fun k => ats[i].vars.length - k) 0 .zero (by simp) (by simp) ?_
    intro k hs t m hk hh
    have hkl := hk.le
    have hvi := hvl i hlt
    by_cases hkt : k < ats[i].vars.length
    · have hwk := wr1 (i := k) (by omega)
      cases h6 : inR ats[i].vars[k] 0 (IntKind.i64.wrap (n - 1))
      · have hq := hbad (atomOk_bad hkt h6)
        simp [hlt, hkt, s61_11, s61_26, ]
        refine call_f (VC.to (w_spec_l1In ats[i].vars[k] 0 (IntKind.i64.wrap (n - 1))) (show _ = V.d (.bool false) by rw [h6])) (by simp) rfl fun hs5 hh5 => ?_
        simp [hq]
      · refine anyQ fun Q => ?_
        simp [hlt, hkt, s61_11, s61_26, ]
        refine call_f (VC.to (w_spec_l1In ats[i].vars[k] 0 (IntKind.i64.wrap (n - 1))) (show _ = V.d (.bool true) by rw [h6])) (by simp) rfl fun hs5 hh5 => ?_
        simp at hh5
        simp [hwk, s61_11, s61_26, ]
        exact back (k + 1) (hk.step hkt h6) (by omega) rfl (by simp <;> omega) (by simp) (by simp)
    · have hao := atomOk_done hk (by omega) h4 h5
      simp [hlt, hkt, hwi, s61_11, s61_26, ]
      exact back (i + 1) (hi.step hlt hao) (by omega) rfl (by simp <;> omega) (by simp) (by simp)
  have hall := allTo_done hi.ok (by omega)
  simp [hlt, s61_11, s61_26, ]
  refine loop_rule (X := Nat) (UsTo n ats) (fun v => [(1, .ptr 1 0 0), (5, .d (.int .i64 v))]) (fun _ => [(1, some (.box [.d (.int .i64 n), .d (.pl (ats.map eAtom)), .d (.pl (out.map cI))]))]) (fun v => n.toNat - v) 0 .zero (by simp) (by simp) ?_
  intro v hs t m hv hh
  have hvn := hv.le
  by_cases hvt : v < n.toNat
  · have hwv := wr1 (i := v) (by omega)
    have hvt' : (v : Int) < n := by omega
    simp [hvt', s61_11, s61_26, ]
    refine loop_rule (X := Nat) (fun i => i ≤ ats.length) (fun i => [(1, .ptr 1 0 0), (5, .d (.int .i64 v)), (6, .d (.bool (hasTo ats v i))), (7, .d (.int .i64 i))]) (fun _ => [(1, some (.box [.d (.int .i64 n), .d (.pl (ats.map eAtom)), .d (.pl (out.map cI))]))]) (fun i => ats.length - i) 0 (by simp) (by simp [hasTo_zero]) (by simp) ?_
    intro i hs t m hi hh
    by_cases hlt : i < ats.length
    · have hwi := wr1 (i := i) (by omega)
      have hst := hasTo_step (v := (v : Int)) hlt
      refine anyQ fun Q => ?_
      cases h6 : hasTo ats v i
      · rw [h6, Bool.false_or] at hst
        simp [hlt, s61_11, s61_26, ]
        refine call_f (w_spec_ContainsVariable ats[i] v) (by simp) rfl fun hs5 hh5 => ?_
        simp at hh5
        simp only [List.contains_eq_mem] at hst
        simp [hwi, s61_11, s61_26, ]
        exact back (i + 1) (by omega) (by omega) rfl (by simp <;> omega) (by simp [hst]) (by simp)
      · rw [h6, Bool.true_or] at hst
        simp [hlt, hwi, s61_11, s61_26, ]
        exact back (i + 1) (by omega) (by omega) rfl (by simp <;> omega) (by simp [hst]) (by simp)
    · have hha := hasTo_all (l := ats) (v := (v : Int)) (i := i) (by omega)
      cases h7 : (varsIn ats).contains (v : Int)
      · rw [h7] at hha
        simp [hlt, hha, queryOk_u (q := ⟨n, ats, out⟩) (usesAll_bad hvt h7), s61_11, s61_26, ]
      · rw [h7] at hha
        simp [hlt, hha, hwv, s61_11, s61_26, ]
        exact back (v + 1) (hv.step hvt h7) (by omega) rfl (by simp <;> omega) (by simp) (by simp)
  have hus := hv.done (by omega)
  have hvt' : ¬ (v : Int) < n := by omega
  simp [hvt', s61_11, s61_26, ]
  refine loop_rule (X := Nat) (SetTo out n) (fun i => [(1, .ptr 1 0 0), (8, .d (.int .i64 i))]) (fun _ => [(1, some (.box [.d (.int .i64 n), .d (.pl (ats.map eAtom)), .d (.pl (out.map cI))]))]) (fun i => out.length - i) 0 .zero (by simp) (by simp) ?_
  intro i hs t m hi hh
  have hil := hi.le
  by_cases hlt : i < out.length
  · have hwi := wr1 (i := i) (by omega)
    simp [hlt, s61_11, s61_26, ]
    refine call_f (w_spec_l1In out[i] 0 (IntKind.i64.wrap (n - 1))) (by simp) rfl fun hs5 hh5 => ?_
    simp at hh5
    cases h6 : inR out[i] 0 (IntKind.i64.wrap (n - 1))
    · simp [queryOk_o (q := ⟨n, ats, out⟩) (setOf_bad1 hlt h6)]
    simp [hil, hlt, ← List.map_take, s61_11, s61_26, ]
    refine call_f (w_spec_l7Find (out.take i) out[i]) (by simp) rfl fun hs6 hh6 => ?_
    simp at hh6
    have hge := idxL_ge (out.take i) out[i]
    by_cases h7 : out[i] ∈ out.take i
    · have h8 : 0 ≤ idxL (out.take i) out[i] := by simpa [h7] using hge
      simp [h8, queryOk_o (q := ⟨n, ats, out⟩) (setOf_bad2 hlt h7)]
    · have h8 : ¬ 0 ≤ idxL (out.take i) out[i] := by simpa [h7] using hge
      simp [h8, hwi, s61_11, s61_26, ]
      exact back (i + 1) (hi.step hlt h6 h7) (by omega) rfl (by simp <;> omega) (by simp) (by simp)
  · have hd := hi.done (by omega)
    simp [hlt, queryOk_all (q := ⟨n, ats, out⟩) h1 h2 hd hall hus]
end

end Go.Proofs.Ytmifoeaifdmgkaa

namespace Go.Proofs.Ytmifoeaifdmgkaa
open Go.Vs Go.Proofs Go
set_option maxRecDepth 100000
set_option maxHeartbeats 1000000

section
attribute [local simp] plI_id plStr_id map_plI map_plStr pS cP cI cStr cU8 cB eAtom
theorem w_impl_IsValidQuery (q : PQuery) : VC Try.prog 64 [.agg ((eQuery q).map V.d)] (fun _ r => r = .d (.bool (queryOk q))) := by
  refine VC.ofL EP s64 (by kernel_rfl) Try.func64 (by rfl) (by kernel_rfl) (by simp [Try.f64]) (by simp [Try.f64]) s64_ok fun B hl => ?_
  obtain ⟨n, ats, out⟩ := q
  simp [pS, maxLen, eQuery] at hl
  simp [Try.f64, eQuery]
  refine call_f (w_impl_within n 1 5) (by simp) rfl fun hs1 hh1 => ?_
  simp at hh1
  cases h1 : inR n 1 5
  · simp [queryOk_n (q := ⟨n, ats, out⟩) h1]
  have hn : 1 ≤ n ∧ n ≤ 5 := by simpa [inR] using h1
  obtain ⟨N, rfl⟩ : ∃ N : Nat, n = (N : Int) := ⟨n.toNat, by omega⟩
  simp [eQuery]
  refine call_f (w_impl_within ats.length 1 4) (by simp) rfl fun hs2 hh2 => ?_
  simp at hh2
  cases h2 : inR (ats.length : Int) 1 4
  · simp [queryOk_a (q := ⟨N, ats, out⟩) h2]
  have ha4 : ats.length ≤ 4 := by simp [inR] at h2; omega
  simp [eQuery]
  refine call_f (w_impl_isSetOf out N) (by simp) rfl fun hs3 hh3 => ?_
  simp at hh3
  cases h3 : setOf out N
  · simp [queryOk_o (q := ⟨N, ats, out⟩) h3]
  have hvl : ∀ i (h : i < ats.length), ats[i].vars.length ≤ 9223372036854775807 := fun i h => (hl.1.2 _ (List.getElem_mem h))
  have hL : LenOk 1 N := ⟨by omega, by simp only [maxLen]; omega⟩
  have hwN : IntKind.i64.wrap ((N : Int) - 1) = N - 1 := wrap64_of (by omega) (by omega)
  simp [hL, ]
  refine loop_rule (X := Nat) (AtI N ats) (fun i => [(3, .d (.int .i64 N)), (4, .own 31 0 N), (33, .d (.pl (ats.map eAtom))), (34, .d (.int .i64 ats.length)), (35, .d (.int .i64 i))])
    (fun i => [(31, some (.row 4 1 ((usedL N (varsIn (ats.take i))).map cB)))]) (fun i => ats.length - i) 0 .zero (by simp) (by simp [usedL_nil, varsIn]) ?_
  intro i hs t m hi hh
  have hil := hi.le
  by_cases hlt : i < ats.length
  · have hwi := wr1 (i := i) (by omega)
    have hbad : atomOk N ats[i] = false → queryOk ⟨N, ats, out⟩ = false := fun h => queryOk_at (q := ⟨N, ats, out⟩) hlt h
    have hvs : varsIn (ats.take (i + 1)) = varsIn (ats.take i) ++ ats[i].vars := by
      rw [varsIn, List.take_succ_eq_append_getElem hlt, List.flatMap_append]; simp only [varsIn, List.flatMap_cons, List.flatMap_nil, List.append_nil]
    simp [hlt, ]
    refine call_f (w_impl_IsValidName ats[i].rel) (by simp) rfl fun hs3 hh3 => ?_
    simp at hh3
    cases h4 : nameOk ats[i].rel
    · simp [hbad (by simp only [atomOk, h4, Bool.false_and])]
    simp []
    refine call_f (w_impl_within ats[i].vars.length 1 5) (by simp) rfl fun hs4 hh4 => ?_
    simp at hh4
    cases h5 : inR (ats[i].vars.length : Int) 1 5
    · simp [hbad (by simp only [atomOk, h5, Bool.false_and, Bool.and_false])]
    simp []
    obtain ⟨us, hus⟩ : ∃ us, us = varsIn (ats.take i) := ⟨_, rfl⟩
    rw [← hus] at hvs ⊢
    obtain ⟨vs, hvse⟩ : ∃ vs, vs = ats[i].vars := ⟨_, rfl⟩
    have hvi := hvl i hlt
    rw [← hvse] at hvs hvi h5
    refine loop_rule (X := Nat) (AtK N vs) (fun k => [(3, .d (.int .i64 N)), (4, .own 31 0 N), (33, .d (.pl (ats.map eAtom))), (34, .d (.int .i64 ats.length)), (35, .d (.int .i64 i)), (51, .d (.pl (vs.map cI))), (52, .d (.int .i64 vs.length)), (53, .d (.int .i64 k))])
      (fun k => [(31, some (.row 4 1 ((usedL N (us ++ vs.take k)).map cB)))]) (fun k => vs.length - k) 0 .zero (by simp [hvse]) (by simp [hus]) ?_
    intro k hs t m hk hh
    have hkl := hk.le
    by_cases hkt : k < vs.length
    · have hwk := wr1 (i := k) (by omega)
      simp [hkt, ]
      refine call_f (w_impl_within vs[k] 0 (IntKind.i64.wrap ((N : Int) - 1))) (by simp) rfl fun hs5 hh5 => ?_
      simp at hh5
      cases h6 : inR vs[k] 0 (IntKind.i64.wrap ((N : Int) - 1))
      · have hq := hbad (atomOk_bad (k := k) (by rw [← hvse]; exact hkt) (by simpa only [← hvse] using h6))
        simp [hq]
      · have hst := hk.step hkt h6
        rw [hwN] at h6
        simp only [inR, Bool.and_eq_true, decide_eq_true_eq] at h6
        obtain ⟨p, hp⟩ : ∃ p : Nat, vs[k] = (p : Int) := ⟨vs[k].toNat, by omega⟩
        have hpN : p < N := by omega
        have hset : usedL N (us ++ vs.take (k + 1)) = (usedL N (us ++ vs.take k)).set p true := by
          rw [usedL_snoc hpN, List.append_assoc, List.take_succ_eq_append_getElem hkt, hp]
        simp [hp, hpN, hwk, ]
        exact back (k + 1) hst (by omega) rfl (by simp <;> omega) (by simp) (by simp [hset])
    · have hao := atomOk_done (n := N) (a := ats[i]) (k := k) (by rw [← hvse]; exact hk) (by rw [← hvse]; omega) h4 (by rw [← hvse]; exact h5)
      have hd : vs.take k = vs := List.take_of_length_le (by omega)
      simp [hkt, hwi, hd, ]
      exact back (i + 1) (hi.step hlt hao) (by omega) rfl (by simp <;> omega) (by simp) (by simp [hvs])
  have hall := allTo_done hi.ok (by omega)
  have hd : ats.take i = ats := List.take_of_length_le (by omega)
  rw [hd]
  simp [hlt, ]
  have hu := usesAll_iff (n := (N : Int)) (l := ats)
  rw [Int.toNat_natCast] at hu
  refine loop_rule (X := Nat) (fun j => j ≤ N ∧ AllTo id (usedL N (varsIn ats)) j) (fun j => [(67, .own 31 0 N), (68, .d (.int .i64 N)), (69, .d (.int .i64 j))]) (fun _ => [(31, some (.row 4 1 ((usedL N (varsIn ats)).map cB)))]) (fun j => N - j) 0 ⟨by simp, allTo_zero⟩ (by simp) (by simp) ?_
  intro j hs t m hj hh
  by_cases hjt : j < N
  · have hwj := wr1 (i := j) (by omega)
    have hjl : j < (usedL N (varsIn ats)).length := by simpa using hjt
    cases h6 : (usedL N (varsIn ats))[j]
    · have hq : queryOk ⟨N, ats, out⟩ = false := queryOk_u (q := ⟨N, ats, out⟩) (by rw [hu]; exact all_bad (p := id) hjl h6)
      simp [hjt, h6, hq, ]
    · simp [hjt, h6, hwj, ]
      exact back (j + 1) ⟨by omega, allTo_step hj.2 hjl h6⟩ (by omega) rfl (by simp <;> omega) (by simp) (by simp)
  · have hus : usesAll N ats = true := by rw [hu]; exact allTo_done hj.2 (by simp; omega)
    simp [hjt, queryOk_all (q := ⟨N, ats, out⟩) h1 h2 h3 hall hus]
end

end Go.Proofs.Ytmifoeaifdmgkaa

namespace Go.Proofs.Ytmifoeaifdmgkaa
open Go.Vs Go.Proofs Go
set_option maxRecDepth 100000
set_option maxHeartbeats 1000000

theorem w_spec_AreValidValues (xs : List Int) : VC Try.prog 141 [.d (pS cI xs)] (fun _ r => r = .d (.bool (valsOk xs))) := by
  refine VC.ofL EP s141 (by kernel_rfl) Try.func141 (by rfl) (by kernel_rfl) (by simp [Try.f141]) (by simp [Try.f141]) s141_ok fun B hl => ?_
  simp [pS, maxLen] at hl
  simp [Try.f141, pS]
  refine loop_rule (X := Nat) (fun i => i ≤ xs.length ∧ (xs.take i).all (fun v => inR v 0 99) = true) (fun i => [(0, .d (.pl (xs.map cI))), (3, .d (.int .i64 i))]) (fun _ => []) (fun i => xs.length - i) 0 (by simp) (by simp) (by simp) ?_
  intro i hs t m hi hh
  by_cases hlt : i < xs.length
  · have hwi := wr1 (i := i) (by omega)
    have hst := all_step (p := fun v => inR v 0 99) hlt
    rw [hi.2, Bool.true_and] at hst
    have hbad : inR xs[i] 0 99 = false → valsOk xs = false := all_bad (p := fun v => inR v 0 99) hlt
    simp [hlt, cI]
    refine call_f (w_spec_l1In xs[i] 0 99) (by simp) rfl fun hs1 hh1 => ?_
    simp at hh1
    cases hc : inR xs[i] 0 99
    · simp [hbad hc]
    · simp [hwi]
      exact back (i + 1) ⟨by omega, List.all_eq_true.1 (hst.trans hc)⟩ (by omega) rfl (by simp <;> omega) (by simp) (by simp)
  · have hd : valsOk xs = true := all_done (by omega) hi.2
    simp [hlt, hd]
theorem w_spec_CompareRows (a b : List Int) : VC Try.prog 101 [.d (pS cI a), .d (pS cI b)] (fun _ r => r = .d (.int .i64 (cmpL a b))) := by
  refine VC.ofL EP s101 (by kernel_rfl) Try.func101 (by rfl) (by kernel_rfl) (by simp [Try.f101]) (by simp [Try.f101]) s101_ok fun B hl => ?_
  simp [pS, maxLen, cI] at hl
  simp [Try.f101, s101_4, s101_6, pS]
  refine loop_rule (X := Nat) (fun i => i ≤ a.length ∧ i ≤ b.length ∧ cmpL a b = cmpL (a.drop i) (b.drop i)) (fun i => [(0, .d (.pl (a.map cI))), (1, .d (.pl (b.map cI))), (5, .d (.int .i64 i))]) (fun _ => []) (fun i => a.length - i) 0 (by simp) (by simp) (by simp) ?_
  intro i hs t m hi hh
  by_cases hlt : i < a.length
  · by_cases hlb : i < b.length
    · have hwi := wr1 (i := i) (by omega)
      have hc := cmpL_drop hlt hlb
      rw [← hi.2.2] at hc
      by_cases h1 : a[i] < b[i]
      · simp [cI, s101_4, s101_6, hlt, hlb, h1, hc]
      · by_cases h2 : b[i] < a[i]
        · simp [cI, s101_4, s101_6, hlt, hlb, h1, h2, hc]
        · simp only [h1, h2, if_false] at hc
          simp [cI, s101_4, s101_6, hlt, hlb, h1, h2, hwi]
          exact back (i + 1) ⟨by omega, by omega, hc⟩ (by omega) rfl (by simp) (by simp) (by simp)
    · have he := cmpL_end hi.1 hi.2.1 (by omega)
      rw [← hi.2.2] at he
      by_cases h1 : a.length < b.length
      · simp [hlt, hlb, h1, he]
      · by_cases h2 : b.length < a.length <;> simp [hlt, hlb, h1, h2, he]
  · have he := cmpL_end hi.1 hi.2.1 (by omega)
    rw [← hi.2.2] at he
    by_cases h1 : a.length < b.length
    · simp [hlt, h1, he]
    · by_cases h2 : b.length < a.length <;> simp [hlt, h1, h2, he]
theorem w_impl_compareInts (x y : Int) : VC Try.prog 150 [.d (.int .i64 x), .d (.int .i64 y)] (fun _ r => r = .d (.int .i64 (if x < y then -1 else if y < x then 1 else 0))) := by
  refine VC.ofL EP s150 (by kernel_rfl) Try.func150 (by rfl) (by kernel_rfl) (by simp [Try.f150]) (by simp [Try.f150]) s150_ok fun B hl => ?_
  by_cases h1 : x < y
  · simp [Try.f150, h1]
  · by_cases h2 : y < x <;> simp [Try.f150, h1, h2]
theorem w_impl_CompareRows (a b : List Int) : VC Try.prog 140 [.d (pS cI a), .d (pS cI b)] (fun _ r => r = .d (.int .i64 (cmpL a b))) := by
  refine VC.ofL EP s140 (by kernel_rfl) Try.func140 (by rfl) (by kernel_rfl) (by simp [Try.f140]) (by simp [Try.f140]) s140_ok fun B hl => ?_
  simp [pS, maxLen, cI] at hl
  simp [Try.f140, s140_4, s140_5, pS]
  refine loop_rule (X := Nat) (fun i => i ≤ a.length ∧ i ≤ b.length ∧ cmpL a b = cmpL (a.drop i) (b.drop i)) (fun i => [(0, .d (.pl (a.map cI))), (1, .d (.pl (b.map cI))), (5, .d (.int .i64 i))]) (fun _ => []) (fun i => a.length - i) 0 (by simp) (by simp) (by simp) ?_
  intro i hs t m hi hh
  by_cases hlt : i < a.length ∧ i < b.length
  · obtain ⟨hlt, hlb⟩ := hlt
    have hwi := wr1 (i := i) (by omega)
    have hc := cmpL_drop hlt hlb
    rw [← hi.2.2] at hc
    by_cases he : a[i] = b[i]
    · rw [if_neg (by omega), if_neg (by omega)] at hc
      simp [cI, s140_4, s140_5, hlt, hlb, hwi, he]
      exact back (i + 1) ⟨by omega, by omega, hc⟩ (by omega) rfl (by simp) (by simp) (by simp)
    · simp [cI, s140_4, s140_5, hlt, hlb, hwi, he]
      refine call_f (w_impl_compareInts a[i] b[i]) (by simp) rfl fun hs1 hh1 => ?_
      have : (if a[i] < b[i] then (-1 : Int) else if b[i] < a[i] then 1 else 0) = cmpL a b := by rw [hc]; by_cases h1 : a[i] < b[i] <;> simp [h1]; omega
      simp [this]
  · have he := cmpL_end hi.1 hi.2.1 hlt
    rw [← hi.2.2] at he
    have hcm : (if (a.length : Int) < b.length then (-1 : Int) else if (b.length : Int) < a.length then 1 else 0) = cmpL a b := by rw [he]; simp
    by_cases hl1 : i < a.length
    · have hl2 : ¬ i < b.length := fun h => hlt ⟨hl1, h⟩
      simp [hl1, hl2]
      refine call_f (w_impl_compareInts a.length b.length) (by simp) rfl fun hs1 hh1 => ?_
      simp only [hcm]
      simp
    · simp [hl1]
      refine call_f (w_impl_compareInts a.length b.length) (by simp) rfl fun hs1 hh1 => ?_
      simp only [hcm]
      simp

end Go.Proofs.Ytmifoeaifdmgkaa

namespace Go.Proofs.Ytmifoeaifdmgkaa
open Go.Vs Go.Proofs Go
set_option maxRecDepth 100000
set_option maxHeartbeats 1000000

section
attribute [local simp] plI_id plStr_id map_plI map_plStr pS cP cI cStr cU8 cB
theorem w_spec_DefaultOrder (q : PQuery) (hst : ∀ a ∈ q.atoms, a.rel.length ≤ maxLen) : VC Try.prog 62 [.agg ((eQuery q).map V.d)] (fun _ r => r = .d (pS cI (defOrd q))) := by
  refine VC.ofL EP s62 (by kernel_rfl) Try.func62 (by rfl) (by kernel_rfl) (by simp [Try.f62]) (by simp [Try.f62]) s62_ok fun B hl => ?_
  simp [Try.f62, eQuery]
  refine loop_rule (X := Nat) (OrdI q) (fun i => [(1, .ptr 1 0 0), (3, .own 5 0 i), (4, .d (.int .i64 i))]) (fun i => [(1, some (.box [.d (.int .i64 q.n), .d (.pl (q.atoms.map eAtom)), .d (.pl (q.out.map cI))])), (5, some (.row 3 1 ((rangeI i).map cI)))]) (fun i => q.n.toNat - i) 0 ⟨by omega, by omega⟩ (by simp) (by simp [rangeI_zero]) ?_
  intro i hs t m ⟨hi, hi0⟩ hh
  by_cases hlt : (i : Int) < q.n
  · simp [hlt, ]
    refine call_f (w_spec_IsValidQuery q hst) (by simp [eQuery]) rfl fun hs1 hh1 => ?_
    simp at hh1
    cases h1 : queryOk q
    · have h0 : i = 0 := by by_cases h : 0 < i; rw [hi0 h] at h1; cases h1; omega
      subst h0
      simp [defOrd, h1, rangeI_zero, ]
    have hn := queryOk_n5 h1
    have hwi := wr1 (i := i) (by omega)
    have hL : LenOk 8 (i + 1) := ⟨by omega, by simp only [maxLen]; omega⟩
    simp [hwi, hL, ]
    exact back (i + 1) ⟨by omega, fun _ => h1⟩ (by omega) rfl (by simp <;> omega) (by simp) (by simp [rangeI_succ])
  · have hd : rangeI i = defOrd q := by
      cases h1 : queryOk q
      · have h0 : i = 0 := by by_cases h : 0 < i; rw [hi0 h] at h1; cases h1; omega
        subst h0; simp [defOrd, h1, rangeI_zero]
      · have hn := queryOk_n5 h1
        have : i = q.n.toNat := by omega
        subst this; simp [defOrd, h1]
    have hdl : i = (defOrd q).length := by rw [← hd]; simp
    simp [hlt, hd, ← hdl, List.take_of_length_le, ]
theorem w_spec_SingleBagDecomposition (q : PQuery) (hst : ∀ a ∈ q.atoms, a.rel.length ≤ maxLen) : VC Try.prog 16 [.agg ((eQuery q).map V.d)] (fun _ r => r = .agg ((eDec (sbd q)).map V.d)) := by
  refine VC.ofL EP s16 (by kernel_rfl) Try.func16 (by rfl) (by kernel_rfl) (by simp [Try.f16]) (by simp [Try.f16]) s16_ok fun B hl => ?_
  simp [Try.f16, eQuery]
  refine call_f (w_spec_IsValidQuery q hst) (by simp [eQuery]) rfl fun hs1 hh1 => ?_
  simp at hh1
  cases h1 : queryOk q
  · simp [sbd, h1, eDec, ]
  simp []
  refine call_p (w_spec_DefaultOrder q hst) (by simp [eQuery]) fun hs2 hh2 hl2 => ?_
  simp at hh2
  simp [sbd, defOrd, h1, eDec, ]
end
theorem t_impl_DefaultOrder (q : Query) (hq : okQuery q) : VC Try.prog 65 [.agg ((cQuery q).map V.d)]
   (fun n r => ∃ y : Ints, r = .d (dSl cI y) ∧ plS plI y = defOrd (plQuery q) ∧ okS okI y ∧ Good (cS cI y) (whS whI y) n) := by
  refine VC.of E s65 (by kernel_rfl) Try.func65 (by rfl) (by kernel_rfl) (by simp [Try.f65]) (by simp [Try.f65]) s65_ok fun B => ?_
  simp [Try.f65, cQuery, cS, cI]
  refine call_f (w_impl_IsValidQuery (plQuery q)) (by simp [eQuery, plQuery, er_I, er_SI, er_Atom, pS, cP, plI]) rfl fun hs1 hh1 => ?_
  simp at hh1
  cases h1 : queryOk (plQuery q)
  · simp
    exact ⟨nilS, by simp [nilS, dSl], by simp [defOrd, h1, nilS, plS], ok_nilS, good_nilI B⟩
  have hn := queryOk_n5 h1
  have hqn : (plQuery q).n = q.n := rfl
  rw [hqn] at hn
  obtain ⟨N, hN⟩ : ∃ N : Nat, q.n = (N : Int) := ⟨q.n.toNat, by omega⟩
  have hdo : defOrd (plQuery q) = rangeI N := by simp [defOrd, h1, hqn, hN]
  simp [hN]
  refine loop_ruleL (X := Nat) (fun i _ => i ≤ N) (fun i => [(1, .ptr 1 0 0), (3, .own 17 0 i), (4, .d (.int .i64 i))]) (fun i => [(1, some (.box [.d (.int .i64 N), .d (dSl cAtom q.atoms), .d (dSl cI q.out)])), (17, some (.row 3 1 ((rangeI i).map cI)))]) (fun i => N - i) ?_ ?_
  · refine (lead_slot 3 17 3 1 (by omega) (by omega) (by simp)).bind ?_
    rintro _ rfl
    exact Lead.of ⟨0, by omega, rfl, rfl, Nat.le_refl _, by simp, by simp [rangeI_zero]⟩
  intro i hs t m hi hh
  by_cases hlt : i < N
  · have hwi := wr1 (i := i) (by omega)
    have hL : LenOk 8 (i + 1) := ⟨by omega, by simp only [maxLen]; omega⟩
    have hlt' : (i : Int) < N := by omega
    simp [hlt, hwi, hL, cI, ]
    exact back2 (i + 1) (by omega) (by omega) rfl (by simp <;> omega) (by simp) (by simp [rangeI_succ, cI])
  · have hn' : i = N := by omega
    subst hn'
    simp [List.take_of_length_le]
    intro γ hs' h2 hg
    obtain ⟨q1, q2⟩ := gam_at hg (k := 17) (T := 3) (sz := 1) (es := (rangeI i).map cI) (by simp)
    have r1 := gam_row hg (k := 17) (T := 3) (sz := 1) (es := (rangeI i).map cI) (by simp)
    clear hg
    have ho : okS okI (⟨γ 17, some (3, 1), rangeI i⟩ : Ints) := ⟨by simp only [maxLen, rangeI_length]; omega, fun _ _ => trivial⟩
    refine ⟨⟨γ 17, some (3, 1), rangeI i⟩, by simp [dSl, List.take_of_length_le], by rw [hdo]; simp [plS, map_plI], ho, good_row (fun g hg => (q1 g hg).1) (by simpa using q2) r1 ⟨by simp, by simp⟩ (by simp [whI])⟩
theorem t_impl_SingleBagDecomposition (q : Query) (hq : okQuery q) : VC Try.prog 18 [.agg ((cQuery q).map V.d)]
   (fun n r => ∃ y : Dec, r = .agg ((cDec y).map V.d) ∧ plDec y = sbd (plQuery q) ∧ okDec y ∧ Good (cDec y) (whDec y) n) := by
  refine VC.of E s18 (by kernel_rfl) Try.func18 (by rfl) (by kernel_rfl) (by simp [Try.f18]) (by simp [Try.f18]) s18_ok fun B => ?_
  simp [Try.f18, cQuery, cS, cI]
  refine call_f (w_impl_IsValidQuery (plQuery q)) (by simp [eQuery, plQuery, er_I, er_SI, er_Atom, pS, cP, plI]) rfl fun hs1 hh1 => ?_
  simp at hh1
  cases h1 : queryOk (plQuery q)
  · simp
    exact ⟨⟨nilS, nilS⟩, by simp [cDec, nilS, cS, dSl], by simp [sbd, h1, plDec, nilS, plS], ⟨ok_nilS, ok_nilS⟩, good_Dec0 B⟩
  simp
  refine call_some (t_impl_DefaultOrder q hq) (by simp [cQuery, cS, cI]) (by simp) fun n2 hs2 r2 hn2 hm2 hp2 hr2 => ?_
  obtain ⟨y, rfl, p2, k2, G2⟩ := hp2
  simp at hn2
  simp [cS, cI, dSl, ]
  intro γ hs' h2 hg
  obtain ⟨q1, q2⟩ := gam_at hg (k := 9) (T := 23) (sz := 1) (es := [y].map (cS cI)) (by simp [cS, dSl])
  obtain ⟨q3, q4⟩ := gam_at hg (k := 10) (T := 3) (sz := 1) (es := [(-1 : Int)].map cI) (by simp [cI])
  have r1 := gam_row hg (k := 9) (T := 23) (sz := 1) (es := [y].map (cS cI)) (by simp [cS, dSl])
  have r2 := gam_row2 hg (k := 10) (T := 3) (sz := 1) (es := [(-1 : Int)].map cI) (k2 := 9) (T2 := 23) (sz2 := 1) (es2 := [y].map (cS cI)) (by simp [cI]) (by simp [cS, dSl])
  have r3 : ∀ g, γ 9 = some g → γ 10 = some g → False := fun g h h' => by
    have := hg.ne 9 10 (.row 23 1 ([y].map (cS cI))) (.row 3 1 ([(-1 : Int)].map cI)) g (by simp [cS, dSl]) (by simp [cI]) h h'
    omega
  clear hg
  try simp
  have eids : idsLL ([y].map (cS cI)) = idsL (cS cI y) := by simp [idsLL]
  refine ⟨⟨⟨γ 9, some (23, 1), [y]⟩, ⟨γ 10, some (3, 1), [-1]⟩⟩, by simp [cDec, cS, cI, dSl], ?_, ⟨⟨by simp [maxLen], by simpa using k2⟩, ⟨by simp [maxLen], fun _ _ => trivial⟩⟩, ?_⟩
  · have e : plDec ⟨⟨γ 9, some (23, 1), [y]⟩, ⟨γ 10, some (3, 1), [-1]⟩⟩ = ⟨[plS plI y], [-1]⟩ := by simp [plDec, plS, map_plI, plI]
    rw [e, p2]; simp [sbd, defOrd, h1]
  · exact good_Dec2 (by rw [eids]; exact G2.nd) (by rw [eids]; intro g hg; have := G2.lo g hg; omega) (by simpa using G2.wh) (fun g h => ⟨(q1 g h).1, r1 g h⟩) (fun _ => q2 (by simp)) (fun g h => ⟨(q3 g h).1, r2 g h⟩) (fun _ => q4 (by simp)) r3

end Go.Proofs.Ytmifoeaifdmgkaa

namespace Go.Proofs.Ytmifoeaifdmgkaa
open Go.Vs Go.Proofs Go
set_option maxRecDepth 100000
set_option maxHeartbeats 1000000

theorem w_laws_FnExactSingleBagDecomposition (a : Query) (k_a : okQuery a) :
   VC Try.prog 4 [.agg ((cQuery a).map V.d)] (fun _ r => r = .d (.bool true)) := by
  refine VC.ofB E s4 (by kernel_rfl) Try.func4 (by rfl) (by kernel_rfl) (by simp [Try.f4]) (by simp [Try.f4]) s4_ok fun B hB => ?_
  have ua_a : ∀ g ∈ idsL (cQuery a), g < B := fun g hg => hB g (by simp only [idsVL, ids_agg, idsVL_map_d, V.ids, idsL_cS, List.mem_append] at hg ⊢; simp [hg])
  simp [Try.f4, s4_10, s4_10, cDec, cI, cQuery, cS, cI, cS]
  refine call_pure (w_laws_szQuery a _ (by omega) (by omega) k_a) rfl (by simp) rfl fun hz_a zz_a => ?_
  simp at zz_a
  by_cases s_a : (swQuery a : Int) ≤ 1048576
  case neg =>
    rw [szv_neg (by omega)]; simp
    all_goals exact fun h => absurd h (by decide)
  rw [szv_pos s_a]
  simp [show ¬ (1048576 : Int) - swQuery a < 0 by omega, show ¬ (1048576 : Int) < swQuery a by omega, s_a]
  have hw_a := wbT_Query a
  refine call_some (w_laws_toQuery a k_a (by omega)) rfl (by simp) fun n1 hs1 r1 hn1 hm1 hp1 hr1 => ?_
  obtain ⟨y1, rfl, p1, k1, G1⟩ := hp1
  have u1 : ∀ g ∈ idsL (cQuery y1), g < hs1 := fun g hg => hr1 g (by first | (rw [ids_agg]; exact hg) | (simpa only [V.ids, idsL_cS] using hg))
  simp at hn1
  have e1 : wtTQuery y1 = wtTQuery a := by rw [wtTQuery_pl, wtTQuery_pl, p1]
  simp [s4_10, cDec, cI, cQuery, cS, cI, cS]
  refine call_some (VC.track (VC.to (w_spec_SingleBagDecomposition (plQuery y1) (okQuery_strs k1)) (show _ = V.agg ((eDec (sbd (plQuery a))).map V.d) by rw [p1])) (by simp [er_I, er_SI, er_Str, er_File, er_Tab, er_Db, er_Delta, er_Atom, er_VRel, eDec, eQuery, plDec, plI, plQuery, cP, pS, plI]) (by simp [V.pn, pnVL])) rfl (by simp) fun n2 hs2 r2 hn2 hm2 hp2 hr2 => ?_
  obtain ⟨hq2, ht2⟩ := hp2
  obtain ⟨w0, rfl, pw0⟩ := rp_agg tk_Dec hq2 ht2
  have uw0 : ∀ g ∈ idsL (cDec w0), g < hs2 := fun g hg => hr2 g (by simp only [V.ids, idsVL, ids_agg, idsVL_map_d, idsL_cS, List.mem_append] at hg ⊢; simp [hg])
  simp at hn2
  clear hr2
  simp [s4_10, cDec, cI, cQuery, cS, cI, cS]
  refine call_some (w_laws_toQuery a k_a (by omega)) rfl (by simp) fun n3 hs3 r3 hn3 hm3 hp3 hr3 => ?_
  obtain ⟨y3, rfl, p3, k3, G3⟩ := hp3
  have u3 : ∀ g ∈ idsL (cQuery y3), g < hs3 := fun g hg => hr3 g (by first | (rw [ids_agg]; exact hg) | (simpa only [V.ids, idsL_cS] using hg))
  simp at hn3
  have e3 : wtTQuery y3 = wtTQuery a := by rw [wtTQuery_pl, wtTQuery_pl, p3]
  simp [s4_10, cDec, cI, cQuery, cS, cI, cS]
  refine call_some (t_impl_SingleBagDecomposition y3 k3) rfl (by simp) fun n4 hs4 r4 hn4 hm4 hp4 hr4 => ?_
  obtain ⟨g0, rfl, pg0, kg0, Gg0⟩ := hp4
  have ug0 : ∀ g ∈ idsL (cDec g0), g < hs4 := fun g hg => hr4 g (by simp only [V.ids, idsVL, ids_agg, idsVL_map_d, idsL_cS, List.mem_append] at hg ⊢; simp [hg])
  have lg0 := Gg0.lo
  simp only [p3] at pg0
  simp at hn4
  simp [s4_10, cDec, cI, cQuery, cS, cI, cS, p3]
  have hbg0 : 1 + (wtTDec g0 : Int) ≤ 4611686018427387904 := by
    rw [wtTDec_pl, pg0]
    have := wp_sbd (plQuery a); omega
  refine call_pure (w_laws_eqDecomposition g0 w0 kg0) rfl (by simp) rfl fun hs5 hh5 => ?_
  simp at hh5
  simp [s4_10, cDec, cI, cQuery, cS, cI, cS, pg0, pw0]
  refine call_some (w_laws_toQuery a k_a (by omega)) rfl (by simp) fun n6 hs6 r6 hn6 hm6 hp6 hr6 => ?_
  obtain ⟨y6, rfl, p6, k6, G6⟩ := hp6
  have u6 : ∀ g ∈ idsL (cQuery y6), g < hs6 := fun g hg => hr6 g (by first | (rw [ids_agg]; exact hg) | (simpa only [V.ids, idsL_cS] using hg))
  simp at hn6
  have e6 : wtTQuery y6 = wtTQuery a := by rw [wtTQuery_pl, wtTQuery_pl, p6]
  simp [s4_10, cDec, cI, cQuery, cS, cI, cS]
  refine call_pure (w_laws_eqQuery y3 y6 k3) rfl (by simp) rfl fun hs7 hh7 => ?_
  simp at hh7
  simp [s4_10, cDec, cI, cQuery, cS, cI, cS, p3, p6]
  refine call_x (E20) (by simp) (by simp) (by simp) (fun q hq => .inl ?_) (w_laws_markQuery y3 (1) (by omega) (by omega) G3.wh k3 G3.nd) fun n8 hs8 r8 cs8 ws8 hn8 hm8 hp8 hr8 hw8 => ?_
  · have := G3.lo q (by simpa only [idsL_cS] using hq)
    show B ≤ q
    omega
  obtain ⟨rfl, rfl⟩ := hp8
  simp at hn8
  have hre8 : reL (phi (idsL (cQuery y3)) (cQuery (mkTQuery y3 (1)))) (cQuery y3) = some (cQuery (mkTQuery y3 (1))) := re_sim (simT_Query G3.wh _) (marksTQuery.ids _ _) G3.nd
  have ho8_a : reL (phi (idsL (cQuery y3)) (cQuery (mkTQuery y3 (1)))) (cQuery a) = some (cQuery a) := re_same fun g hg h => by
    skip
    have h1 := G3.lo g (by simpa only [idsL_cS] using hg); have h2 := ua_a g h; omega
  have ho8_w0 : reL (phi (idsL (cQuery y3)) (cQuery (mkTQuery y3 (1)))) (cDec w0) = some (cDec w0) := re_same fun g hg h => by
    skip
    have h1 := G3.lo g (by simpa only [idsL_cS] using hg); have h2 := uw0 g h; omega
  have ho8_g0 : reL (phi (idsL (cQuery y3)) (cQuery (mkTQuery y3 (1)))) (cDec g0) = some (cDec g0) := re_same fun g hg h => by
    skip
    have h1 := u3 g (by simpa only [idsL_cS] using hg); have h2 := lg0 g h; omega
  replace hre8 := reVL_map hre8
  replace ho8_a := reVL_map ho8_a
  replace ho8_w0 := reVL_map ho8_w0
  replace ho8_g0 := reVL_map ho8_g0
  simp only [s4_10, cDec, cI, cQuery, cS, cI, cS, List.cons_append, List.nil_append, List.map_cons, List.map_nil, reVL_cons, reVL_nil, List.cons.injEq, and_true, reV_int, reV_str, true_and, mkTAtom, mkTDec, mkTQuery] at hre8 ho8_a ho8_w0 ho8_g0
  simp [hre8, ho8_a, ho8_w0, ho8_g0, s4_10, cDec, cI, cQuery, cS, cI, cS, mkTAtom, mkTDec, mkTQuery]
  simp [show ¬ (1 + wtTQuery y3 : Int) < 0 by omega, show (0 : Int) ≤ 1 + wtTQuery y3 by omega]
  refine call_pure (w_laws_eqDecomposition g0 w0 kg0) rfl (by simp) rfl fun hs9 hh9 => ?_
  simp at hh9
  simp [s4_10, cDec, cI, cQuery, cS, cI, cS, pg0, pw0]
  refine call_x (E21) (by simp) (by simp) (by simp) (fun q hq => .inl ?_) (w_laws_markDecomposition g0 (1) (by omega) (by omega) Gg0.wh kg0 Gg0.nd) fun n10 hs10 r10 cs10 ws10 hn10 hm10 hp10 hr10 hw10 => ?_
  · have := Gg0.lo q (by simpa only [idsL_cS] using hq)
    show B ≤ q
    omega
  obtain ⟨rfl, rfl⟩ := hp10
  simp at hn10
  have hre10 : reL (phi (idsL (cDec g0)) (cDec (mkTDec g0 (1)))) (cDec g0) = some (cDec (mkTDec g0 (1))) := re_sim (simT_Dec Gg0.wh _) (marksTDec.ids _ _) Gg0.nd
  have ho10_a : reL (phi (idsL (cDec g0)) (cDec (mkTDec g0 (1)))) (cQuery a) = some (cQuery a) := re_same fun g hg h => by
    skip
    have h1 := Gg0.lo g (by simpa only [idsL_cS] using hg); have h2 := ua_a g h; omega
  have ho10_w0 : reL (phi (idsL (cDec g0)) (cDec (mkTDec g0 (1)))) (cDec w0) = some (cDec w0) := re_same fun g hg h => by
    skip
    have h1 := Gg0.lo g (by simpa only [idsL_cS] using hg); have h2 := uw0 g h; omega
  have ho10_y3 : reL (phi (idsL (cDec g0)) (cDec (mkTDec g0 (1)))) (cQuery (mkTQuery y3 (1))) = some (cQuery (mkTQuery y3 (1))) := re_same fun g hg h => by
    rw [marksTQuery.ids] at h
    have h1 := Gg0.lo g (by simpa only [idsL_cS] using hg); have h2 := u3 g h; omega
  replace hre10 := reVL_map hre10
  replace ho10_a := reVL_map ho10_a
  replace ho10_w0 := reVL_map ho10_w0
  replace ho10_y3 := reVL_map ho10_y3
  simp only [s4_10, cDec, cI, cQuery, cS, cI, cS, List.cons_append, List.nil_append, List.map_cons, List.map_nil, reVL_cons, reVL_nil, List.cons.injEq, and_true, reV_int, reV_str, true_and, mkTAtom, mkTDec, mkTQuery] at hre10 ho10_a ho10_w0 ho10_y3
  simp [hre10, ho10_a, ho10_w0, ho10_y3, s4_10, cDec, cI, cQuery, cS, cI, cS, mkTAtom, mkTDec, mkTQuery]
  refine call_pure (w_laws_heldDecomposition (mkTDec g0 (1)) (1) (by omega) (by rw [marksTDec.wt]; omega) (ok_mkTDec _ _ kg0)) rfl (by simp) rfl fun hs11 hh11 => ?_
  simp at hh11
  rw [marksTDec.hl, marksTDec.wt]
  simp [show ¬ (1 + wtTDec g0 : Int) < 0 by omega]
  refine call_some (w_laws_toQuery a k_a (by omega)) rfl (by simp) fun n12 hs12 r12 hn12 hm12 hp12 hr12 => ?_
  obtain ⟨y12, rfl, p12, k12, G12⟩ := hp12
  have u12 : ∀ g ∈ idsL (cQuery y12), g < hs12 := fun g hg => hr12 g (by first | (rw [ids_agg]; exact hg) | (simpa only [V.ids, idsL_cS] using hg))
  simp at hn12
  have e12 : wtTQuery y12 = wtTQuery a := by rw [wtTQuery_pl, wtTQuery_pl, p12]
  simp [s4_10, cDec, cI, cQuery, cS, cI, cS]
  refine call_some (t_impl_SingleBagDecomposition y12 k12) rfl (by simp) fun n13 hs13 r13 hn13 hm13 hp13 hr13 => ?_
  obtain ⟨h0, rfl, ph0, kh0, Gh0⟩ := hp13
  have uh0 : ∀ g ∈ idsL (cDec h0), g < hs13 := fun g hg => hr13 g (by simp only [V.ids, idsVL, ids_agg, idsVL_map_d, idsL_cS, List.mem_append] at hg ⊢; simp [hg])
  have lh0 := Gh0.lo
  simp only [p12] at ph0
  simp at hn13
  simp [s4_10, cDec, cI, cQuery, cS, cI, cS, p12]
  refine call_pure (w_laws_eqDecomposition h0 w0 kh0) rfl (by simp) rfl fun hs14 hh14 => ?_
  simp at hh14
  simp [s4_10, cDec, cI, cQuery, cS, cI, cS, ph0, pw0]
  refine call_pure (w_laws_heldDecomposition (mkTDec g0 (1)) (1) (by omega) (by rw [marksTDec.wt]; omega) (ok_mkTDec _ _ kg0)) rfl (by simp) rfl fun hs15 hh15 => ?_
  simp at hh15
  rw [marksTDec.hl, marksTDec.wt]
  simp [show ¬ (1 + wtTDec g0 : Int) < 0 by omega]

end Go.Proofs.Ytmifoeaifdmgkaa
