/-
  C5B1: a part of a proof of this seat: the value-level semantics of Go code without maps, its walk rules, the frame of a row, facts of types, schedules, walks, plain lemmas (Facts1 Sched1 H0 HP1 HP2 H1 HP3 P1 P1b P1c P1d P1e P2 S3 S6 P3 S8 S9 S10 S11 S12). It holds of every program and state that its hypotheses name.
-/
import Derived.Test.YtjfehcpompohcaaA4
import Derived.Test.YtjfehcpompohcaaProg
import Derived.KernelRfl
set_option linter.unusedSimpArgs false
set_option linter.unusedVariables false
set_option linter.unnecessarySimpa false
namespace Go.Proofs.Ytjfehcpompohcaa
open Go.Vs Go.Proofs

theorem tsz3 : tsz Try.prog 3 = some 1 := by kernel_rfl
theorem tsz9 : tsz Try.prog 9 = some 1 := by kernel_rfl
theorem tsz22 : tsz Try.prog 22 = some 1 := by kernel_rfl
theorem tsz23 : tsz Try.prog 23 = some 1 := by kernel_rfl
theorem tsz25 : tsz Try.prog 25 = some 3 := by kernel_rfl
theorem tsz28 : tsz Try.prog 28 = some 3 := by kernel_rfl
theorem tsz48 : tsz Try.prog 48 = some 2 := by kernel_rfl
theorem tsz52 : tsz Try.prog 52 = some 2 := by kernel_rfl
theorem tsz64 : tsz Try.prog 64 = some 1 := by kernel_rfl
theorem tsz66 : tsz Try.prog 66 = some 3 := by kernel_rfl
theorem tsz68 : tsz Try.prog 68 = some 6 := by kernel_rfl
theorem tsz71 : tsz Try.prog 71 = some 1 := by kernel_rfl
theorem tsz73 : tsz Try.prog 73 = some 3 := by kernel_rfl
theorem tsz75 : tsz Try.prog 75 = some 6 := by kernel_rfl
theorem tsz91 : tsz Try.prog 91 = some 5 := by kernel_rfl
theorem tsz93 : tsz Try.prog 93 = some 5 := by kernel_rfl
theorem tsz119 : tsz Try.prog 119 = some 2 := by kernel_rfl
theorem tsz120 : tsz Try.prog 120 = some 2 := by kernel_rfl
theorem tagg3 : tagg Try.prog 3 = some false := by kernel_rfl
theorem tagg9 : tagg Try.prog 9 = some false := by kernel_rfl
theorem tagg22 : tagg Try.prog 22 = some false := by kernel_rfl
theorem tagg23 : tagg Try.prog 23 = some false := by kernel_rfl
theorem tagg25 : tagg Try.prog 25 = some true := by kernel_rfl
theorem tagg28 : tagg Try.prog 28 = some true := by kernel_rfl
theorem tagg48 : tagg Try.prog 48 = some true := by kernel_rfl
theorem tagg52 : tagg Try.prog 52 = some true := by kernel_rfl
theorem tagg64 : tagg Try.prog 64 = some false := by kernel_rfl
theorem tagg66 : tagg Try.prog 66 = some true := by kernel_rfl
theorem tagg68 : tagg Try.prog 68 = some true := by kernel_rfl
theorem tagg71 : tagg Try.prog 71 = some false := by kernel_rfl
theorem tagg73 : tagg Try.prog 73 = some true := by kernel_rfl
theorem tagg75 : tagg Try.prog 75 = some true := by kernel_rfl
theorem tagg91 : tagg Try.prog 91 = some true := by kernel_rfl
theorem tagg93 : tagg Try.prog 93 = some true := by kernel_rfl
theorem tagg119 : tagg Try.prog 119 = some true := by kernel_rfl
theorem tagg120 : tagg Try.prog 120 = some true := by kernel_rfl
theorem tzero3 : tzero Try.prog 3 = some [.int .i64 0] := by kernel_rfl
theorem tzero23 : tzero Try.prog 23 = some [.sl none none []] := by kernel_rfl
theorem tzero28 : tzero Try.prog 28 = some [.int .i64 0, .sl none none [], .sl none none []] := by kernel_rfl
theorem tzero52 : tzero Try.prog 52 = some [.int .i64 0, .sl none none []] := by kernel_rfl
theorem tzero73 : tzero Try.prog 73 = some [.int .i64 0, .sl none none [], .sl none none []] := by kernel_rfl
theorem tzero75 : tzero Try.prog 75 = some [.int .i64 0, .sl none none [], .sl none none [], .int .i64 0, .sl none none [], .sl none none []] := by kernel_rfl
theorem tzero93 : tzero Try.prog 93 = some [.str [], .int .i64 0, .sl none none [], .int .i64 0, .sl none none []] := by kernel_rfl
theorem tzero120 : tzero Try.prog 120 = some [.str [], .sl none none []] := by kernel_rfl
theorem tslice22 : tslice Try.prog 22 = some (23, 1, 24) := by kernel_rfl
theorem telem22 : telem Try.prog 22 = some 23 := by kernel_rfl
theorem tslice23 : tslice Try.prog 23 = some (3, 1, 8) := by kernel_rfl
theorem telem23 : telem Try.prog 23 = some 3 := by kernel_rfl
theorem tslice36 : tslice Try.prog 36 = some (91, 5, 80) := by kernel_rfl
theorem telem36 : telem Try.prog 36 = some 91 := by kernel_rfl
theorem tslice38 : tslice Try.prog 38 = some (9, 1, 16) := by kernel_rfl
theorem telem38 : telem Try.prog 38 = some 9 := by kernel_rfl
theorem tslice40 : tslice Try.prog 40 = some (93, 5, 80) := by kernel_rfl
theorem telem40 : telem Try.prog 40 = some 93 := by kernel_rfl
theorem tslice64 : tslice Try.prog 64 = some (119, 2, 40) := by kernel_rfl
theorem telem64 : telem Try.prog 64 = some 119 := by kernel_rfl
theorem tslice71 : tslice Try.prog 71 = some (120, 2, 40) := by kernel_rfl
theorem telem71 : telem Try.prog 71 = some 120 := by kernel_rfl
theorem tslice110 : tslice Try.prog 110 = some (5, 1, 1) := by kernel_rfl
theorem telem110 : telem Try.prog 110 = some 5 := by kernel_rfl
theorem tstr9 : tstr Try.prog 9 = some true := by kernel_rfl
theorem tstr22 : tstr Try.prog 22 = some false := by kernel_rfl
theorem tstr23 : tstr Try.prog 23 = some false := by kernel_rfl
theorem tstr36 : tstr Try.prog 36 = some false := by kernel_rfl
theorem tstr38 : tstr Try.prog 38 = some false := by kernel_rfl
theorem tstr40 : tstr Try.prog 40 = some false := by kernel_rfl
theorem tstr64 : tstr Try.prog 64 = some false := by kernel_rfl
theorem tstr71 : tstr Try.prog 71 = some false := by kernel_rfl
theorem tfld28 : tfld Try.prog 28 = true := by kernel_rfl
theorem tfld52 : tfld Try.prog 52 = true := by kernel_rfl
theorem tfld73 : tfld Try.prog 73 = true := by kernel_rfl
theorem tfld75 : tfld Try.prog 75 = true := by kernel_rfl
theorem tfld93 : tfld Try.prog 93 = true := by kernel_rfl
theorem tfld120 : tfld Try.prog 120 = true := by kernel_rfl
theorem foff25_0 : foff Try.prog 25 0 = some (0, 1) := by kernel_rfl
theorem foff25_1 : foff Try.prog 25 1 = some (1, 1) := by kernel_rfl
theorem foff25_2 : foff Try.prog 25 2 = some (2, 1) := by kernel_rfl
theorem foff28_0 : foff Try.prog 28 0 = some (0, 1) := by kernel_rfl
theorem foff28_1 : foff Try.prog 28 1 = some (1, 1) := by kernel_rfl
theorem foff28_2 : foff Try.prog 28 2 = some (2, 1) := by kernel_rfl
theorem foff48_0 : foff Try.prog 48 0 = some (0, 1) := by kernel_rfl
theorem foff48_1 : foff Try.prog 48 1 = some (1, 1) := by kernel_rfl
theorem foff52_0 : foff Try.prog 52 0 = some (0, 1) := by kernel_rfl
theorem foff52_1 : foff Try.prog 52 1 = some (1, 1) := by kernel_rfl
theorem foff66_0 : foff Try.prog 66 0 = some (0, 1) := by kernel_rfl
theorem foff66_1 : foff Try.prog 66 1 = some (1, 1) := by kernel_rfl
theorem foff66_2 : foff Try.prog 66 2 = some (2, 1) := by kernel_rfl
theorem foff68_0 : foff Try.prog 68 0 = some (0, 3) := by kernel_rfl
theorem foff68_1 : foff Try.prog 68 1 = some (3, 3) := by kernel_rfl
theorem foff73_0 : foff Try.prog 73 0 = some (0, 1) := by kernel_rfl
theorem foff73_1 : foff Try.prog 73 1 = some (1, 1) := by kernel_rfl
theorem foff73_2 : foff Try.prog 73 2 = some (2, 1) := by kernel_rfl
theorem foff75_0 : foff Try.prog 75 0 = some (0, 3) := by kernel_rfl
theorem foff75_1 : foff Try.prog 75 1 = some (3, 3) := by kernel_rfl
theorem foff91_0 : foff Try.prog 91 0 = some (0, 1) := by kernel_rfl
theorem foff91_1 : foff Try.prog 91 1 = some (1, 2) := by kernel_rfl
theorem foff91_2 : foff Try.prog 91 2 = some (3, 2) := by kernel_rfl
theorem foff93_0 : foff Try.prog 93 0 = some (0, 1) := by kernel_rfl
theorem foff93_1 : foff Try.prog 93 1 = some (1, 2) := by kernel_rfl
theorem foff93_2 : foff Try.prog 93 2 = some (3, 2) := by kernel_rfl
theorem foff119_0 : foff Try.prog 119 0 = some (0, 1) := by kernel_rfl
theorem foff119_1 : foff Try.prog 119 1 = some (1, 1) := by kernel_rfl
theorem foff120_0 : foff Try.prog 120 0 = some (0, 1) := by kernel_rfl
theorem foff120_1 : foff Try.prog 120 1 = some (1, 1) := by kernel_rfl
attribute [simp] tsz3 tsz9 tsz22 tsz23 tsz25 tsz28 tsz48 tsz52 tsz64 tsz66 tsz68 tsz71 tsz73 tsz75 tsz91 tsz93 tsz119 tsz120 tagg3 tagg9 tagg22 tagg23 tagg25 tagg28 tagg48 tagg52 tagg64 tagg66 tagg68 tagg71 tagg73 tagg75 tagg91 tagg93 tagg119 tagg120 tzero3 tzero23 tzero28 tzero52 tzero73 tzero75 tzero93 tzero120 tslice22 telem22 tslice23 telem23 tslice36 telem36 tslice38 telem38 tslice40 telem40 tslice64 telem64 tslice71 telem71 tslice110 telem110 tstr9 tstr22 tstr23 tstr36 tstr38 tstr40 tstr64 tstr71 tfld28 tfld52 tfld73 tfld75 tfld93 tfld120 foff25_0 foff25_1 foff25_2 foff28_0 foff28_1 foff28_2 foff48_0 foff48_1 foff52_0 foff52_1 foff66_0 foff66_1 foff66_2 foff68_0 foff68_1 foff73_0 foff73_1 foff73_2 foff75_0 foff75_1 foff91_0 foff91_1 foff91_2 foff93_0 foff93_1 foff93_2 foff119_0 foff119_1 foff120_0 foff120_1
end Go.Proofs.Ytjfehcpompohcaa

namespace Go.Proofs.Ytjfehcpompohcaa
open Go.Vs Go.Proofs Go

/-- the functions that write what they are handed -/
def E : Md := ⟨fun f => [26, 27, 34, 35, 44, 50, 65, 73, 81, 91].contains f, false⟩
/-- as E; slices are known by elements only -/
def EP : Md := ⟨E.e, true⟩
@[simp] theorem E_p : E.p = false := Eq.trans rfl rfl
@[simp] theorem EP_p : EP.p = true := Eq.trans rfl rfl

theorem E26 : E 26 = true := rfl
theorem EP26 : EP 26 = true := rfl
theorem E27 : E 27 = true := rfl
theorem EP27 : EP 27 = true := rfl
theorem E34 : E 34 = true := rfl
theorem EP34 : EP 34 = true := rfl
theorem E35 : E 35 = true := rfl
theorem EP35 : EP 35 = true := rfl
theorem E44 : E 44 = true := rfl
theorem EP44 : EP 44 = true := rfl
theorem E50 : E 50 = true := rfl
theorem EP50 : EP 50 = true := rfl
theorem E65 : E 65 = true := rfl
theorem EP65 : EP 65 = true := rfl
theorem E73 : E 73 = true := rfl
theorem EP73 : EP 73 = true := rfl
theorem E81 : E 81 = true := rfl
theorem EP81 : EP 81 = true := rfl
theorem E91 : E 91 = true := rfl
theorem EP91 : EP 91 = true := rfl
/-- the orders of laws.FnExactIsValidCounted -/
def s3 (i : Nat) : Tr := if i = 10 then .seq [0, 1, 2, 3, 4] .nil else .nil
theorem s3_10 : s3 10 = .seq [0, 1, 2, 3, 4] .nil := rfl
theorem s3_ok : okCode E 27 s3 (Try.f3.body.getD .skip) = true := by kernel_rfl
/-- the orders of laws.FnExactCountOfRow -/
def s4 (i : Nat) : Tr := if i = 13 then .seq [0, 1, 2, 3, 4] .nil else .nil
theorem s4_13 : s4 13 = .seq [0, 1, 2, 3, 4] .nil := rfl
theorem s4_ok : okCode E 43 s4 (Try.f4.body.getD .skip) = true := by kernel_rfl
/-- the orders of laws.FnExactTouchedTables -/
def s5 (_ : Nat) : Tr := .nil
theorem s5_ok : okCode E 69 s5 (Try.f5.body.getD .skip) = true := by kernel_rfl
/-- the orders of laws.FnExactCountedFromRelation -/
def s6 (i : Nat) : Tr := if i = 10 then .seq [0, 1, 2, 3, 4] .nil else .nil
theorem s6_10 : s6 10 = .seq [0, 1, 2, 3, 4] .nil := rfl
theorem s6_ok : okCode E 96 s6 (Try.f6.body.getD .skip) = true := by kernel_rfl
/-- the orders of laws.FnExactRowsOfCounted -/
def s7 (i : Nat) : Tr := if i = 10 then .seq [0, 1, 2, 3, 4] .nil else .nil
theorem s7_10 : s7 10 = .seq [0, 1, 2, 3, 4] .nil := rfl
theorem s7_ok : okCode E 96 s7 (Try.f7.body.getD .skip) = true := by kernel_rfl
/-- the orders of laws.FnExactAddCounted -/
def s8 (i : Nat) : Tr := if i = 8 then .seq [0, 2] (.both (.seq [1] (.both (.seq [3] (.both (.seq [4, 5, 6, 7, 8, 9, 10] .nil) (.seq [8, 4, 5, 6, 7, 9, 10] .nil))) (.seq [8, 3, 4, 5, 6, 7, 9, 10] .nil))) (.seq [8, 1, 3, 4, 5, 6, 7, 9, 10] .nil)) else if i = 14 then .seq [0, 1, 2, 3, 4] .nil else if i = 16 then .seq [0, 1, 2, 3, 4] .nil else if i = 31 then .seq [0, 2] (.both (.seq [1] (.both (.seq [3] (.both (.seq [4, 5, 6, 7, 8, 9, 10] .nil) (.seq [8, 4, 5, 6, 7, 9, 10] .nil))) (.seq [8, 3, 4, 5, 6, 7, 9, 10] .nil))) (.seq [8, 1, 3, 4, 5, 6, 7, 9, 10] .nil)) else .nil
theorem s8_8 : s8 8 = .seq [0, 2] (.both (.seq [1] (.both (.seq [3] (.both (.seq [4, 5, 6, 7, 8, 9, 10] .nil) (.seq [8, 4, 5, 6, 7, 9, 10] .nil))) (.seq [8, 3, 4, 5, 6, 7, 9, 10] .nil))) (.seq [8, 1, 3, 4, 5, 6, 7, 9, 10] .nil)) := rfl
theorem s8_14 : s8 14 = .seq [0, 1, 2, 3, 4] .nil := rfl
theorem s8_16 : s8 16 = .seq [0, 1, 2, 3, 4] .nil := rfl
theorem s8_31 : s8 31 = .seq [0, 2] (.both (.seq [1] (.both (.seq [3] (.both (.seq [4, 5, 6, 7, 8, 9, 10] .nil) (.seq [8, 4, 5, 6, 7, 9, 10] .nil))) (.seq [8, 3, 4, 5, 6, 7, 9, 10] .nil))) (.seq [8, 1, 3, 4, 5, 6, 7, 9, 10] .nil)) := rfl
theorem s8_ok : okCode E 119 s8 (Try.f8.body.getD .skip) = true := by kernel_rfl
/-- the orders of laws.FnExactProjectCounted -/
def s9 (i : Nat) : Tr := if i = 13 then .seq [0, 1, 2, 3, 4] .nil else .nil
theorem s9_13 : s9 13 = .seq [0, 1, 2, 3, 4] .nil := rfl
theorem s9_ok : okCode E 117 s9 (Try.f9.body.getD .skip) = true := by kernel_rfl
/-- the orders of laws.FnExactViewRows -/
def s10 (i : Nat) : Tr := if i = 10 then .seq [0, 1, 2, 3, 4] .nil else .nil
theorem s10_10 : s10 10 = .seq [0, 1, 2, 3, 4] .nil := rfl
theorem s10_ok : okCode E 96 s10 (Try.f10.body.getD .skip) = true := by kernel_rfl
/-- the orders of laws.szCountedRelation -/
def s11 (_ : Nat) : Tr := .nil
theorem s11_ok : okCode E 18 s11 (Try.f11.body.getD .skip) = true := by kernel_rfl
/-- the orders of spec.IsValidCounted -/
def s12 (_ : Nat) : Tr := .nil
theorem s12_ok : okCode E 42 s12 (Try.f12.body.getD .skip) = true := by kernel_rfl
/-- the orders of laws.toCountedRelation -/
def s13 (_ : Nat) : Tr := .nil
theorem s13_ok : okCode E 16 s13 (Try.f13.body.getD .skip) = true := by kernel_rfl
/-- the orders of impl.IsValidCounted -/
def s14 (_ : Nat) : Tr := .nil
theorem s14_ok : okCode E 35 s14 (Try.f14.body.getD .skip) = true := by kernel_rfl
/-- the orders of laws.eqCountedRelation -/
def s15 (_ : Nat) : Tr := .nil
theorem s15_ok : okCode E 22 s15 (Try.f15.body.getD .skip) = true := by kernel_rfl
/-- the orders of spec.CountOfRow -/
def s16 (_ : Nat) : Tr := .nil
theorem s16_ok : okCode E 27 s16 (Try.f16.body.getD .skip) = true := by kernel_rfl
/-- the orders of laws.toIntS -/
def s17 (_ : Nat) : Tr := .nil
theorem s17_ok : okCode E 22 s17 (Try.f17.body.getD .skip) = true := by kernel_rfl
/-- the orders of impl.CountOfRow -/
def s18 (_ : Nat) : Tr := .nil
theorem s18_ok : okCode E 26 s18 (Try.f18.body.getD .skip) = true := by kernel_rfl
/-- the orders of laws.eqIntS -/
def s19 (i : Nat) : Tr := if i = 6 then .seq [0, 1, 2, 3, 4, 5, 6, 7, 8] .nil else .nil
theorem s19_6 : s19 6 = .seq [0, 1, 2, 3, 4, 5, 6, 7, 8] .nil := rfl
theorem s19_ok : okCode E 26 s19 (Try.f19.body.getD .skip) = true := by kernel_rfl
/-- the orders of laws.szDeltaS -/
def s20 (_ : Nat) : Tr := .nil
theorem s20_ok : okCode E 27 s20 (Try.f20.body.getD .skip) = true := by kernel_rfl
/-- the orders of spec.TouchedTables -/
def s21 (i : Nat) : Tr := if i = 6 then .seq [0, 1, 2, 3, 4, 5, 6, 7, 8, 9, 10, 11, 12, 13, 14, 15] .nil else if i = 8 then .seq [0, 1, 2, 3, 4, 5, 6, 7, 8, 9, 10, 11, 12, 13, 14, 15] .nil else if i = 9 then .seq [0, 1, 2, 3, 4, 6, 7, 8, 5, 9, 10] .nil else .nil
theorem s21_6 : s21 6 = .seq [0, 1, 2, 3, 4, 5, 6, 7, 8, 9, 10, 11, 12, 13, 14, 15] .nil := rfl
theorem s21_8 : s21 8 = .seq [0, 1, 2, 3, 4, 5, 6, 7, 8, 9, 10, 11, 12, 13, 14, 15] .nil := rfl
theorem s21_9 : s21 9 = .seq [0, 1, 2, 3, 4, 6, 7, 8, 5, 9, 10] .nil := rfl
theorem s21_ok : okCode E 66 s21 (Try.f21.body.getD .skip) = true := by kernel_rfl
/-- the orders of laws.toDeltaS -/
def s22 (_ : Nat) : Tr := .nil
theorem s22_ok : okCode E 23 s22 (Try.f22.body.getD .skip) = true := by kernel_rfl
/-- the orders of impl.TouchedTables -/
def s23 (i : Nat) : Tr := if i = 6 then .seq [0, 1, 2, 3, 4, 5, 6, 7, 8, 9, 10, 11, 12] .nil else if i = 8 then .seq [0, 1, 2, 3, 4, 5, 6, 7, 8, 9, 10, 11, 12] .nil else if i = 9 then .seq [1, 2, 3, 5, 6, 9, 10, 11] (.both (.seq [0] (.both (.app 4 [46] (.seq [7, 8, 12, 13] .nil)) (.seq [7] (.app 4 [46] (.seq [8, 12, 13] .nil))))) (.seq [7, 0] (.app 4 [46] (.seq [8, 12, 13] .nil)))) else .nil
theorem s23_6 : s23 6 = .seq [0, 1, 2, 3, 4, 5, 6, 7, 8, 9, 10, 11, 12] .nil := rfl
theorem s23_8 : s23 8 = .seq [0, 1, 2, 3, 4, 5, 6, 7, 8, 9, 10, 11, 12] .nil := rfl
theorem s23_9 : s23 9 = .seq [1, 2, 3, 5, 6, 9, 10, 11] (.both (.seq [0] (.both (.app 4 [46] (.seq [7, 8, 12, 13] .nil)) (.seq [7] (.app 4 [46] (.seq [8, 12, 13] .nil))))) (.seq [7, 0] (.app 4 [46] (.seq [8, 12, 13] .nil)))) := rfl
theorem s23_ok : okCode E 56 s23 (Try.f23.body.getD .skip) = true := by kernel_rfl
/-- the orders of laws.eqStringS -/
def s24 (i : Nat) : Tr := if i = 6 then .seq [0, 1, 2, 3, 4, 5, 6, 7, 8] .nil else .nil
theorem s24_6 : s24 6 = .seq [0, 1, 2, 3, 4, 5, 6, 7, 8] .nil := rfl
theorem s24_ok : okCode E 26 s24 (Try.f24.body.getD .skip) = true := by kernel_rfl
/-- the orders of laws.eqDeltaS -/
def s25 (i : Nat) : Tr := if i = 6 then .seq [0, 1, 2, 3, 4, 5, 6, 7, 8, 9] .nil else .nil
theorem s25_6 : s25 6 = .seq [0, 1, 2, 3, 4, 5, 6, 7, 8, 9] .nil := rfl
theorem s25_ok : okCode E 27 s25 (Try.f25.body.getD .skip) = true := by kernel_rfl
/-- the orders of laws.markDeltaS -/
def s26 (_ : Nat) : Tr := .nil
theorem s26_ok : okCode E 53 s26 (Try.f26.body.getD .skip) = true := by kernel_rfl
/-- the orders of laws.markStringS -/
def s27 (_ : Nat) : Tr := .nil
theorem s27_ok : okCode E 20 s27 (Try.f27.body.getD .skip) = true := by kernel_rfl
/-- the orders of laws.heldStringS -/
def s28 (i : Nat) : Tr := if i = 4 then .seq [0, 1, 2, 3, 4, 5, 6] .nil else .nil
theorem s28_4 : s28 4 = .seq [0, 1, 2, 3, 4, 5, 6] .nil := rfl
theorem s28_ok : okCode E 22 s28 (Try.f28.body.getD .skip) = true := by kernel_rfl
/-- the orders of laws.szRelation -/
def s29 (_ : Nat) : Tr := .nil
theorem s29_ok : okCode E 12 s29 (Try.f29.body.getD .skip) = true := by kernel_rfl
/-- the orders of spec.CountedFromRelation -/
def s30 (_ : Nat) : Tr := .nil
theorem s30_ok : okCode E 31 s30 (Try.f30.body.getD .skip) = true := by kernel_rfl
/-- the orders of laws.toRelation -/
def s31 (_ : Nat) : Tr := .nil
theorem s31_ok : okCode E 12 s31 (Try.f31.body.getD .skip) = true := by kernel_rfl
/-- the orders of impl.CountedFromRelation -/
def s32 (i : Nat) : Tr := if i = 3 then .seq [0, 1, 2, 3] (.both (.seq [4, 5, 6, 7] .nil) (.seq [6, 4, 5, 7] .nil)) else .nil
theorem s32_3 : s32 3 = .seq [0, 1, 2, 3] (.both (.seq [4, 5, 6, 7] .nil) (.seq [6, 4, 5, 7] .nil)) := rfl
theorem s32_ok : okCode E 27 s32 (Try.f32.body.getD .skip) = true := by kernel_rfl
/-- the orders of laws.eqRelation -/
def s33 (_ : Nat) : Tr := .nil
theorem s33_ok : okCode E 16 s33 (Try.f33.body.getD .skip) = true := by kernel_rfl
/-- the orders of laws.markRelation -/
def s34 (_ : Nat) : Tr := .nil
theorem s34_ok : okCode E 10 s34 (Try.f34.body.getD .skip) = true := by kernel_rfl
/-- the orders of laws.markCountedRelation -/
def s35 (_ : Nat) : Tr := .nil
theorem s35_ok : okCode E 14 s35 (Try.f35.body.getD .skip) = true := by kernel_rfl
/-- the orders of laws.heldCountedRelation -/
def s36 (_ : Nat) : Tr := .nil
theorem s36_ok : okCode E 18 s36 (Try.f36.body.getD .skip) = true := by kernel_rfl
/-- the orders of spec.RowsOfCounted -/
def s37 (_ : Nat) : Tr := .nil
theorem s37_ok : okCode E 29 s37 (Try.f37.body.getD .skip) = true := by kernel_rfl
/-- the orders of impl.RowsOfCounted -/
def s38 (i : Nat) : Tr := if i = 9 then .seq [0, 1, 2, 3, 4, 5, 6, 7] .nil else .nil
theorem s38_9 : s38 9 = .seq [0, 1, 2, 3, 4, 5, 6, 7] .nil := rfl
theorem s38_ok : okCode E 27 s38 (Try.f38.body.getD .skip) = true := by kernel_rfl
/-- the orders of laws.heldRelation -/
def s39 (_ : Nat) : Tr := .nil
theorem s39_ok : okCode E 12 s39 (Try.f39.body.getD .skip) = true := by kernel_rfl
/-- the orders of spec.AddCounted -/
def s40 (i : Nat) : Tr := if i = 3 then .seq [0, 1, 3, 4, 6, 7, 10, 11, 13, 14] (.both (.seq [2] (.both (.app 5 [25, 31, 35, 38] (.both (.app 8 [25, 35, 38] (.both (.seq [9] (.both (.app 12 [25, 38] (.both (.app 15 [25] (.both (.seq [16, 17, 18, 19, 20, 21, 22] .nil) (.seq [20, 16, 17, 18, 19, 21, 22] .nil))) (.seq [20] (.app 15 [25] (.seq [16, 17, 18, 19, 21, 22] .nil))))) (.seq [20] (.app 12 [25, 38] (.app 15 [25] (.seq [16, 17, 18, 19, 21, 22] .nil)))))) (.seq [20, 9] (.app 12 [25, 38] (.app 15 [25] (.seq [16, 17, 18, 19, 21, 22] .nil)))))) (.both (.seq [9] (.both (.app 8 [25, 35, 38] (.both (.app 12 [25, 38] (.both (.app 15 [25] (.both (.seq [16, 17, 18, 19, 20, 21, 22] .nil) (.seq [20, 16, 17, 18, 19, 21, 22] .nil))) (.seq [20] (.app 15 [25] (.seq [16, 17, 18, 19, 21, 22] .nil))))) (.seq [20] (.app 12 [25, 38] (.app 15 [25] (.seq [16, 17, 18, 19, 21, 22] .nil)))))) (.seq [20] (.app 8 [25, 35, 38] (.app 12 [25, 38] (.app 15 [25] (.seq [16, 17, 18, 19, 21, 22] .nil))))))) (.seq [20] (.both (.app 8 [25, 35, 38] (.seq [9] (.app 12 [25, 38] (.app 15 [25] (.seq [16, 17, 18, 19, 21, 22] .nil))))) (.seq [9] (.app 8 [25, 35, 38] (.app 12 [25, 38] (.app 15 [25] (.seq [16, 17, 18, 19, 21, 22] .nil)))))))))) (.both (.seq [9] (.both (.app 5 [25, 31, 35, 38] (.both (.app 8 [25, 35, 38] (.both (.app 12 [25, 38] (.both (.app 15 [25] (.both (.seq [16, 17, 18, 19, 20, 21, 22] .nil) (.seq [20, 16, 17, 18, 19, 21, 22] .nil))) (.seq [20] (.app 15 [25] (.seq [16, 17, 18, 19, 21, 22] .nil))))) (.seq [20] (.app 12 [25, 38] (.app 15 [25] (.seq [16, 17, 18, 19, 21, 22] .nil)))))) (.seq [20] (.app 8 [25, 35, 38] (.app 12 [25, 38] (.app 15 [25] (.seq [16, 17, 18, 19, 21, 22] .nil))))))) (.seq [20] (.app 5 [25, 31, 35, 38] (.app 8 [25, 35, 38] (.app 12 [25, 38] (.app 15 [25] (.seq [16, 17, 18, 19, 21, 22] .nil)))))))) (.seq [20] (.both (.app 5 [25, 31, 35, 38] (.both (.app 8 [25, 35, 38] (.seq [9] (.app 12 [25, 38] (.app 15 [25] (.seq [16, 17, 18, 19, 21, 22] .nil))))) (.seq [9] (.app 8 [25, 35, 38] (.app 12 [25, 38] (.app 15 [25] (.seq [16, 17, 18, 19, 21, 22] .nil))))))) (.seq [9] (.app 5 [25, 31, 35, 38] (.app 8 [25, 35, 38] (.app 12 [25, 38] (.app 15 [25] (.seq [16, 17, 18, 19, 21, 22] .nil))))))))))) (.both (.seq [9] (.both (.seq [2] (.both (.app 5 [25, 31, 35, 38] (.both (.app 8 [25, 35, 38] (.both (.app 12 [25, 38] (.both (.app 15 [25] (.both (.seq [16, 17, 18, 19, 20, 21, 22] .nil) (.seq [20, 16, 17, 18, 19, 21, 22] .nil))) (.seq [20] (.app 15 [25] (.seq [16, 17, 18, 19, 21, 22] .nil))))) (.seq [20] (.app 12 [25, 38] (.app 15 [25] (.seq [16, 17, 18, 19, 21, 22] .nil)))))) (.seq [20] (.app 8 [25, 35, 38] (.app 12 [25, 38] (.app 15 [25] (.seq [16, 17, 18, 19, 21, 22] .nil))))))) (.seq [20] (.app 5 [25, 31, 35, 38] (.app 8 [25, 35, 38] (.app 12 [25, 38] (.app 15 [25] (.seq [16, 17, 18, 19, 21, 22] .nil)))))))) (.seq [20, 2] (.app 5 [25, 31, 35, 38] (.app 8 [25, 35, 38] (.app 12 [25, 38] (.app 15 [25] (.seq [16, 17, 18, 19, 21, 22] .nil)))))))) (.seq [20] (.both (.seq [2] (.both (.app 5 [25, 31, 35, 38] (.both (.app 8 [25, 35, 38] (.seq [9] (.app 12 [25, 38] (.app 15 [25] (.seq [16, 17, 18, 19, 21, 22] .nil))))) (.seq [9] (.app 8 [25, 35, 38] (.app 12 [25, 38] (.app 15 [25] (.seq [16, 17, 18, 19, 21, 22] .nil))))))) (.seq [9] (.app 5 [25, 31, 35, 38] (.app 8 [25, 35, 38] (.app 12 [25, 38] (.app 15 [25] (.seq [16, 17, 18, 19, 21, 22] .nil)))))))) (.seq [9, 2] (.app 5 [25, 31, 35, 38] (.app 8 [25, 35, 38] (.app 12 [25, 38] (.app 15 [25] (.seq [16, 17, 18, 19, 21, 22] .nil)))))))))) else .nil
theorem s40_3 : s40 3 = .seq [0, 1, 3, 4, 6, 7, 10, 11, 13, 14] (.both (.seq [2] (.both (.app 5 [25, 31, 35, 38] (.both (.app 8 [25, 35, 38] (.both (.seq [9] (.both (.app 12 [25, 38] (.both (.app 15 [25] (.both (.seq [16, 17, 18, 19, 20, 21, 22] .nil) (.seq [20, 16, 17, 18, 19, 21, 22] .nil))) (.seq [20] (.app 15 [25] (.seq [16, 17, 18, 19, 21, 22] .nil))))) (.seq [20] (.app 12 [25, 38] (.app 15 [25] (.seq [16, 17, 18, 19, 21, 22] .nil)))))) (.seq [20, 9] (.app 12 [25, 38] (.app 15 [25] (.seq [16, 17, 18, 19, 21, 22] .nil)))))) (.both (.seq [9] (.both (.app 8 [25, 35, 38] (.both (.app 12 [25, 38] (.both (.app 15 [25] (.both (.seq [16, 17, 18, 19, 20, 21, 22] .nil) (.seq [20, 16, 17, 18, 19, 21, 22] .nil))) (.seq [20] (.app 15 [25] (.seq [16, 17, 18, 19, 21, 22] .nil))))) (.seq [20] (.app 12 [25, 38] (.app 15 [25] (.seq [16, 17, 18, 19, 21, 22] .nil)))))) (.seq [20] (.app 8 [25, 35, 38] (.app 12 [25, 38] (.app 15 [25] (.seq [16, 17, 18, 19, 21, 22] .nil))))))) (.seq [20] (.both (.app 8 [25, 35, 38] (.seq [9] (.app 12 [25, 38] (.app 15 [25] (.seq [16, 17, 18, 19, 21, 22] .nil))))) (.seq [9] (.app 8 [25, 35, 38] (.app 12 [25, 38] (.app 15 [25] (.seq [16, 17, 18, 19, 21, 22] .nil)))))))))) (.both (.seq [9] (.both (.app 5 [25, 31, 35, 38] (.both (.app 8 [25, 35, 38] (.both (.app 12 [25, 38] (.both (.app 15 [25] (.both (.seq [16, 17, 18, 19, 20, 21, 22] .nil) (.seq [20, 16, 17, 18, 19, 21, 22] .nil))) (.seq [20] (.app 15 [25] (.seq [16, 17, 18, 19, 21, 22] .nil))))) (.seq [20] (.app 12 [25, 38] (.app 15 [25] (.seq [16, 17, 18, 19, 21, 22] .nil)))))) (.seq [20] (.app 8 [25, 35, 38] (.app 12 [25, 38] (.app 15 [25] (.seq [16, 17, 18, 19, 21, 22] .nil))))))) (.seq [20] (.app 5 [25, 31, 35, 38] (.app 8 [25, 35, 38] (.app 12 [25, 38] (.app 15 [25] (.seq [16, 17, 18, 19, 21, 22] .nil)))))))) (.seq [20] (.both (.app 5 [25, 31, 35, 38] (.both (.app 8 [25, 35, 38] (.seq [9] (.app 12 [25, 38] (.app 15 [25] (.seq [16, 17, 18, 19, 21, 22] .nil))))) (.seq [9] (.app 8 [25, 35, 38] (.app 12 [25, 38] (.app 15 [25] (.seq [16, 17, 18, 19, 21, 22] .nil))))))) (.seq [9] (.app 5 [25, 31, 35, 38] (.app 8 [25, 35, 38] (.app 12 [25, 38] (.app 15 [25] (.seq [16, 17, 18, 19, 21, 22] .nil))))))))))) (.both (.seq [9] (.both (.seq [2] (.both (.app 5 [25, 31, 35, 38] (.both (.app 8 [25, 35, 38] (.both (.app 12 [25, 38] (.both (.app 15 [25] (.both (.seq [16, 17, 18, 19, 20, 21, 22] .nil) (.seq [20, 16, 17, 18, 19, 21, 22] .nil))) (.seq [20] (.app 15 [25] (.seq [16, 17, 18, 19, 21, 22] .nil))))) (.seq [20] (.app 12 [25, 38] (.app 15 [25] (.seq [16, 17, 18, 19, 21, 22] .nil)))))) (.seq [20] (.app 8 [25, 35, 38] (.app 12 [25, 38] (.app 15 [25] (.seq [16, 17, 18, 19, 21, 22] .nil))))))) (.seq [20] (.app 5 [25, 31, 35, 38] (.app 8 [25, 35, 38] (.app 12 [25, 38] (.app 15 [25] (.seq [16, 17, 18, 19, 21, 22] .nil)))))))) (.seq [20, 2] (.app 5 [25, 31, 35, 38] (.app 8 [25, 35, 38] (.app 12 [25, 38] (.app 15 [25] (.seq [16, 17, 18, 19, 21, 22] .nil)))))))) (.seq [20] (.both (.seq [2] (.both (.app 5 [25, 31, 35, 38] (.both (.app 8 [25, 35, 38] (.seq [9] (.app 12 [25, 38] (.app 15 [25] (.seq [16, 17, 18, 19, 21, 22] .nil))))) (.seq [9] (.app 8 [25, 35, 38] (.app 12 [25, 38] (.app 15 [25] (.seq [16, 17, 18, 19, 21, 22] .nil))))))) (.seq [9] (.app 5 [25, 31, 35, 38] (.app 8 [25, 35, 38] (.app 12 [25, 38] (.app 15 [25] (.seq [16, 17, 18, 19, 21, 22] .nil)))))))) (.seq [9, 2] (.app 5 [25, 31, 35, 38] (.app 8 [25, 35, 38] (.app 12 [25, 38] (.app 15 [25] (.seq [16, 17, 18, 19, 21, 22] .nil)))))))))) := rfl
theorem s40_ok : okCode E 46 s40 (Try.f40.body.getD .skip) = true := by kernel_rfl
/-- the orders of impl.AddCounted -/
def s41 (_ : Nat) : Tr := .nil
theorem s41_ok : okCode E 57 s41 (Try.f41.body.getD .skip) = true := by kernel_rfl
/-- the orders of spec.ProjectCounted -/
def s42 (i : Nat) : Tr := if i = 4 then .seq [0, 1, 2, 3, 4, 5, 6, 7, 8] .nil else .nil
theorem s42_4 : s42 4 = .seq [0, 1, 2, 3, 4, 5, 6, 7, 8] .nil := rfl
theorem s42_ok : okCode E 65 s42 (Try.f42.body.getD .skip) = true := by kernel_rfl
/-- the orders of impl.ProjectCounted -/
def s43 (i : Nat) : Tr := if i = 7 then .seq [0, 1, 3, 4, 5, 6, 7, 2, 8] .nil else .nil
theorem s43_7 : s43 7 = .seq [0, 1, 3, 4, 5, 6, 7, 2, 8] .nil := rfl
theorem s43_ok : okCode E 49 s43 (Try.f43.body.getD .skip) = true := by kernel_rfl
/-- the orders of laws.markIntS -/
def s44 (_ : Nat) : Tr := .nil
theorem s44_ok : okCode E 19 s44 (Try.f44.body.getD .skip) = true := by kernel_rfl
/-- the orders of laws.szView -/
def s45 (_ : Nat) : Tr := .nil
theorem s45_ok : okCode E 18 s45 (Try.f45.body.getD .skip) = true := by kernel_rfl
/-- the orders of spec.ViewRows -/
def s46 (_ : Nat) : Tr := .nil
theorem s46_ok : okCode E 14 s46 (Try.f46.body.getD .skip) = true := by kernel_rfl
/-- the orders of laws.toView -/
def s47 (_ : Nat) : Tr := .nil
theorem s47_ok : okCode E 13 s47 (Try.f47.body.getD .skip) = true := by kernel_rfl
/-- the orders of impl.ViewRows -/
def s48 (_ : Nat) : Tr := .nil
theorem s48_ok : okCode E 9 s48 (Try.f48.body.getD .skip) = true := by kernel_rfl
/-- the orders of laws.eqView -/
def s49 (_ : Nat) : Tr := .nil
theorem s49_ok : okCode E 17 s49 (Try.f49.body.getD .skip) = true := by kernel_rfl
/-- the orders of laws.markView -/
def s50 (_ : Nat) : Tr := .nil
theorem s50_ok : okCode E 14 s50 (Try.f50.body.getD .skip) = true := by kernel_rfl
/-- the orders of laws.szIntSS -/
def s51 (_ : Nat) : Tr := .nil
theorem s51_ok : okCode E 27 s51 (Try.f51.body.getD .skip) = true := by kernel_rfl
/-- the orders of laws.szIntS -/
def s52 (_ : Nat) : Tr := .nil
theorem s52_ok : okCode E 12 s52 (Try.f52.body.getD .skip) = true := by kernel_rfl
/-- the orders of spec.IsValidRelation -/
def s53 (i : Nat) : Tr := if i = 6 then .seq [0, 1, 2, 3, 4, 5, 6, 7, 8, 9, 10, 11, 12, 13, 14, 15, 16, 17, 18, 19, 20, 21, 22, 23, 24, 25, 26, 27, 28, 29, 30, 31, 32, 33, 34, 35, 36] .nil else .nil
theorem s53_6 : s53 6 = .seq [0, 1, 2, 3, 4, 5, 6, 7, 8, 9, 10, 11, 12, 13, 14, 15, 16, 17, 18, 19, 20, 21, 22, 23, 24, 25, 26, 27, 28, 29, 30, 31, 32, 33, 34, 35, 36] .nil := rfl
theorem s53_ok : okCode E 58 s53 (Try.f53.body.getD .skip) = true := by kernel_rfl
/-- the orders of spec.l1In -/
def s54 (_ : Nat) : Tr := .nil
theorem s54_ok : okCode E 15 s54 (Try.f54.body.getD .skip) = true := by kernel_rfl
/-- the orders of laws.toIntSS -/
def s55 (_ : Nat) : Tr := .nil
theorem s55_ok : okCode E 23 s55 (Try.f55.body.getD .skip) = true := by kernel_rfl
/-- the orders of impl.rowsValid -/
def s56 (_ : Nat) : Tr := .nil
theorem s56_ok : okCode E 46 s56 (Try.f56.body.getD .skip) = true := by kernel_rfl
/-- the orders of impl.within -/
def s57 (_ : Nat) : Tr := .nil
theorem s57_ok : okCode E 15 s57 (Try.f57.body.getD .skip) = true := by kernel_rfl
/-- the orders of laws.eqIntSS -/
def s58 (i : Nat) : Tr := if i = 6 then .seq [0, 1, 2, 3, 4, 5, 6, 7, 8, 9] .nil else .nil
theorem s58_6 : s58 6 = .seq [0, 1, 2, 3, 4, 5, 6, 7, 8, 9] .nil := rfl
theorem s58_ok : okCode E 27 s58 (Try.f58.body.getD .skip) = true := by kernel_rfl
/-- the orders of spec.l5Place -/
def s59 (_ : Nat) : Tr := .nil
theorem s59_ok : okCode E 46 s59 (Try.f59.body.getD .skip) = true := by kernel_rfl
/-- the orders of impl.place -/
def s60 (_ : Nat) : Tr := .nil
theorem s60_ok : okCode E 42 s60 (Try.f60.body.getD .skip) = true := by kernel_rfl
/-- the orders of laws.szDelta -/
def s61 (_ : Nat) : Tr := .nil
theorem s61_ok : okCode E 25 s61 (Try.f61.body.getD .skip) = true := by kernel_rfl
/-- the orders of laws.toDelta -/
def s62 (_ : Nat) : Tr := .nil
theorem s62_ok : okCode E 16 s62 (Try.f62.body.getD .skip) = true := by kernel_rfl
/-- the orders of laws.eqDelta -/
def s63 (_ : Nat) : Tr := .nil
theorem s63_ok : okCode E 22 s63 (Try.f63.body.getD .skip) = true := by kernel_rfl
/-- the orders of laws.markText -/
def s64 (_ : Nat) : Tr := .nil
theorem s64_ok : okCode E 20 s64 (Try.f64.body.getD .skip) = true := by kernel_rfl
/-- the orders of laws.markIntSS -/
def s65 (_ : Nat) : Tr := .nil
theorem s65_ok : okCode E 19 s65 (Try.f65.body.getD .skip) = true := by kernel_rfl
/-- the orders of spec.l5Copy -/
def s66 (i : Nat) : Tr := if i = 5 then .seq [0, 1, 3, 4, 5, 6, 7, 2] (.app 8 [15] (.seq [9, 10, 11, 12] .nil)) else .nil
theorem s66_5 : s66 5 = .seq [0, 1, 3, 4, 5, 6, 7, 2] (.app 8 [15] (.seq [9, 10, 11, 12] .nil)) := rfl
theorem s66_ok : okCode E 28 s66 (Try.f66.body.getD .skip) = true := by kernel_rfl
/-- the orders of impl.IsValidRelation -/
def s67 (_ : Nat) : Tr := .nil
theorem s67_ok : okCode E 8 s67 (Try.f67.body.getD .skip) = true := by kernel_rfl
/-- the orders of impl.copyRows -/
def s68 (_ : Nat) : Tr := .nil
theorem s68_ok : okCode E 19 s68 (Try.f68.body.getD .skip) = true := by kernel_rfl
/-- the orders of laws.heldIntSS -/
def s69 (_ : Nat) : Tr := .nil
theorem s69_ok : okCode E 21 s69 (Try.f69.body.getD .skip) = true := by kernel_rfl
/-- the orders of laws.heldIntS -/
def s70 (_ : Nat) : Tr := .nil
theorem s70_ok : okCode E 21 s70 (Try.f70.body.getD .skip) = true := by kernel_rfl
/-- the orders of spec.l27Sum -/
def s71 (i : Nat) : Tr := if i = 8 then .seq [0, 1, 2, 3, 4, 5, 6, 7, 8, 9, 10] .nil else if i = 9 then .seq [0, 1, 2, 3, 4, 5, 6, 7, 8, 9, 10, 11, 12] .nil else if i = 15 then .seq [0, 1, 2, 3, 4, 5, 6, 7, 8, 9, 10] .nil else if i = 16 then .seq [0, 1, 2, 3, 4, 5, 6, 7, 8, 9] .nil else .nil
theorem s71_8 : s71 8 = .seq [0, 1, 2, 3, 4, 5, 6, 7, 8, 9, 10] .nil := rfl
theorem s71_9 : s71 9 = .seq [0, 1, 2, 3, 4, 5, 6, 7, 8, 9, 10, 11, 12] .nil := rfl
theorem s71_15 : s71 15 = .seq [0, 1, 2, 3, 4, 5, 6, 7, 8, 9, 10] .nil := rfl
theorem s71_16 : s71 16 = .seq [0, 1, 2, 3, 4, 5, 6, 7, 8, 9] .nil := rfl
theorem s71_ok : okCode E 94 s71 (Try.f71.body.getD .skip) = true := by kernel_rfl
/-- the orders of impl.copyCounted -/
def s72 (i : Nat) : Tr := if i = 1 then .seq [0, 1, 2, 3, 5, 6, 4, 7, 8, 9] .nil else .nil
theorem s72_1 : s72 1 = .seq [0, 1, 2, 3, 5, 6, 4, 7, 8, 9] .nil := rfl
theorem s72_ok : okCode E 12 s72 (Try.f72.body.getD .skip) = true := by kernel_rfl
/-- the orders of impl.tally -/
def s73 (i : Nat) : Tr := if i = 3 then .seq [0, 2, 3, 4, 5, 6, 7, 9, 13, 14, 15, 16, 17, 18, 1] (.app 8 [43] (.seq [10, 11] (.app 12 [43] (.seq [19, 20, 21, 22] .nil)))) else if i = 4 then .seq [0, 1, 2, 3, 4, 5, 6, 8, 11, 12, 13, 14, 15, 16] (.both (.seq [7, 9] (.app 10 [63] (.seq [17, 18, 19, 20] .nil))) (.seq [9, 7] (.app 10 [63] (.seq [17, 18, 19, 20] .nil)))) else .nil
theorem s73_3 : s73 3 = .seq [0, 2, 3, 4, 5, 6, 7, 9, 13, 14, 15, 16, 17, 18, 1] (.app 8 [43] (.seq [10, 11] (.app 12 [43] (.seq [19, 20, 21, 22] .nil)))) := rfl
theorem s73_4 : s73 4 = .seq [0, 1, 2, 3, 4, 5, 6, 8, 11, 12, 13, 14, 15, 16] (.both (.seq [7, 9] (.app 10 [63] (.seq [17, 18, 19, 20] .nil))) (.seq [9, 7] (.app 10 [63] (.seq [17, 18, 19, 20] .nil)))) := rfl
theorem s73_ok : okCode E 70 s73 (Try.f73.body.getD .skip) = true := by kernel_rfl
/-- the orders of impl.settled -/
def s74 (i : Nat) : Tr := if i = 6 then .seq [0, 1, 2, 3, 4, 5, 6, 7, 8, 9, 10] .nil else .nil
theorem s74_6 : s74 6 = .seq [0, 1, 2, 3, 4, 5, 6, 7, 8, 9, 10] .nil := rfl
theorem s74_ok : okCode E 37 s74 (Try.f74.body.getD .skip) = true := by kernel_rfl
/-- the orders of spec.l5Cols -/
def s75 (_ : Nat) : Tr := .nil
theorem s75_ok : okCode E 25 s75 (Try.f75.body.getD .skip) = true := by kernel_rfl
/-- the orders of impl.columnsFit -/
def s76 (_ : Nat) : Tr := .nil
theorem s76_ok : okCode E 22 s76 (Try.f76.body.getD .skip) = true := by kernel_rfl
/-- the orders of impl.pick -/
def s77 (_ : Nat) : Tr := .nil
theorem s77_ok : okCode E 24 s77 (Try.f77.body.getD .skip) = true := by kernel_rfl
/-- the orders of laws.szQuery -/
def s78 (_ : Nat) : Tr := .nil
theorem s78_ok : okCode E 18 s78 (Try.f78.body.getD .skip) = true := by kernel_rfl
/-- the orders of laws.toQuery -/
def s79 (_ : Nat) : Tr := .nil
theorem s79_ok : okCode E 16 s79 (Try.f79.body.getD .skip) = true := by kernel_rfl
/-- the orders of laws.eqQuery -/
def s80 (_ : Nat) : Tr := .nil
theorem s80_ok : okCode E 22 s80 (Try.f80.body.getD .skip) = true := by kernel_rfl
/-- the orders of laws.markQuery -/
def s81 (_ : Nat) : Tr := .nil
theorem s81_ok : okCode E 14 s81 (Try.f81.body.getD .skip) = true := by kernel_rfl
/-- the orders of spec.AreValidValues -/
def s82 (_ : Nat) : Tr := .nil
theorem s82_ok : okCode E 16 s82 (Try.f82.body.getD .skip) = true := by kernel_rfl
/-- the orders of spec.CompareRows -/
def s83 (i : Nat) : Tr := if i = 4 then .seq [0, 1, 2, 3, 4, 5, 6, 7, 8] .nil else if i = 6 then .seq [0, 1, 2, 3, 4, 5, 6, 7, 8] .nil else .nil
theorem s83_4 : s83 4 = .seq [0, 1, 2, 3, 4, 5, 6, 7, 8] .nil := rfl
theorem s83_6 : s83 6 = .seq [0, 1, 2, 3, 4, 5, 6, 7, 8] .nil := rfl
theorem s83_ok : okCode E 46 s83 (Try.f83.body.getD .skip) = true := by kernel_rfl
/-- the orders of impl.AreValidValues -/
def s84 (_ : Nat) : Tr := .nil
theorem s84_ok : okCode E 15 s84 (Try.f84.body.getD .skip) = true := by kernel_rfl
/-- the orders of impl.CompareRows -/
def s85 (i : Nat) : Tr := if i = 4 then .seq [0, 1, 2, 3, 4, 5, 6, 7, 8] .nil else if i = 5 then .seq [0, 1, 2, 3, 4, 5, 6, 7, 8, 9] .nil else .nil
theorem s85_4 : s85 4 = .seq [0, 1, 2, 3, 4, 5, 6, 7, 8] .nil := rfl
theorem s85_5 : s85 5 = .seq [0, 1, 2, 3, 4, 5, 6, 7, 8, 9] .nil := rfl
theorem s85_ok : okCode E 41 s85 (Try.f85.body.getD .skip) = true := by kernel_rfl
/-- the orders of impl.copyInts -/
def s86 (_ : Nat) : Tr := .nil
theorem s86_ok : okCode E 6 s86 (Try.f86.body.getD .skip) = true := by kernel_rfl
/-- the orders of spec.NewRelation -/
def s87 (_ : Nat) : Tr := .nil
theorem s87_ok : okCode E 40 s87 (Try.f87.body.getD .skip) = true := by kernel_rfl
/-- the orders of laws.szAtomS -/
def s88 (_ : Nat) : Tr := .nil
theorem s88_ok : okCode E 27 s88 (Try.f88.body.getD .skip) = true := by kernel_rfl
/-- the orders of laws.toAtomS -/
def s89 (_ : Nat) : Tr := .nil
theorem s89_ok : okCode E 23 s89 (Try.f89.body.getD .skip) = true := by kernel_rfl
/-- the orders of laws.eqAtomS -/
def s90 (i : Nat) : Tr := if i = 6 then .seq [0, 1, 2, 3, 4, 5, 6, 7, 8, 9] .nil else .nil
theorem s90_6 : s90 6 = .seq [0, 1, 2, 3, 4, 5, 6, 7, 8, 9] .nil := rfl
theorem s90_ok : okCode E 27 s90 (Try.f90.body.getD .skip) = true := by kernel_rfl
/-- the orders of laws.markAtomS -/
def s91 (_ : Nat) : Tr := .nil
theorem s91_ok : okCode E 28 s91 (Try.f91.body.getD .skip) = true := by kernel_rfl
/-- the orders of impl.compareInts -/
def s92 (_ : Nat) : Tr := .nil
theorem s92_ok : okCode E 13 s92 (Try.f92.body.getD .skip) = true := by kernel_rfl
/-- the orders of spec.l5Sort -/
def s93 (i : Nat) : Tr := if i = 13 then .seq [0, 1, 2, 3, 4, 5, 6, 7] .nil else .nil
theorem s93_13 : s93 13 = .seq [0, 1, 2, 3, 4, 5, 6, 7] .nil := rfl
theorem s93_ok : okCode E 80 s93 (Try.f93.body.getD .skip) = true := by kernel_rfl
/-- the orders of laws.szAtom -/
def s94 (_ : Nat) : Tr := .nil
theorem s94_ok : okCode E 19 s94 (Try.f94.body.getD .skip) = true := by kernel_rfl
/-- the orders of laws.toAtom -/
def s95 (_ : Nat) : Tr := .nil
theorem s95_ok : okCode E 12 s95 (Try.f95.body.getD .skip) = true := by kernel_rfl
/-- the orders of laws.eqAtom -/
def s96 (_ : Nat) : Tr := .nil
theorem s96_ok : okCode E 16 s96 (Try.f96.body.getD .skip) = true := by kernel_rfl
end Go.Proofs.Ytjfehcpompohcaa

namespace Go.Proofs.Ytjfehcpompohcaa
open Go.Vs Go.Proofs Go
set_option maxRecDepth 100000
set_option maxHeartbeats 1000000


theorem w_laws_markText (k : Int) (h0 : 1 ≤ k) (h1 : k ≤ 4611686018427387904) :
   VC Try.prog 64 [.d (.int .i64 k)] (fun _ r => r = .d (.str (mtext k))) := by
  refine VC.of E s64 (by kernel_rfl) Try.func64 (by rfl) (by kernel_rfl) (by simp [Try.f64]) (by simp [Try.f64]) s64_ok fun B => ?_
  simp [Try.f64, show ¬ k ≤ 0 by omega]
  refine loop_rule (X := Nat × Int × List UInt8) (fun x => x.1 ≤ 64 ∧ 0 ≤ x.2.1 ∧ x.2.1 < 2 ^ x.1 ∧ x.2.2.length + x.1 = 64 ∧ mdig x.1 x.2.1 x.2.2 = mdig 64 k []) (fun x => [(0, .d (.int .i64 x.2.1)), (3, .d (.str x.2.2))]) (fun _ => []) (fun x => x.1) (64, k, []) ?_ (by simp) (by simp) ?_
  · simp; omega
  · rintro ⟨n, q, o⟩ hs t m ⟨hi1, hi2, hi3, hi4, hi5⟩ hh
    simp only at hi1 hi2 hi3 hi4 hi5
    by_cases hq : 0 < q
    · obtain ⟨n, rfl⟩ : ∃ n', n = n' + 1 := by
        cases n with
        | zero => simp at hi3; omega
        | succ n => exact ⟨n, rfl⟩
      have e1 : q.tmod 10 = q % 10 := Int.tmod_eq_emod_of_nonneg hi2
      have e2 : q.tdiv 10 = q / 10 := Int.tdiv_eq_ediv_of_nonneg hi2
      have hp : (2 : Int) ^ (n + 1) = 2 * 2 ^ n := by rw [Int.pow_succ]; omega
      have hb : (2 : Int) ^ n ≤ 2 ^ 63 := by
        have : n ≤ 63 := by omega
        exact_mod_cast Nat.pow_le_pow_right (by decide : 0 < 2) this
      simp only [hp] at hi3
      have e3 : IntKind.i64.wrap (48 + q.tmod 10) = 48 + q.tmod 10 := by rw [e1]; exact wrap64_of (by omega) (by omega)
      have e4 : IntKind.i64.wrap (q.tdiv 10) = q.tdiv 10 := by rw [e2]; exact wrap64_of (by omega) (by simp at hb; omega)
      simp [hq, e3, e4, isB, toB]
      refine ⟨by omega, ?_⟩
      refine back (n, q.tdiv 10, UInt8.ofNat (IntKind.u8.wrap (48 + q.tmod 10)).toNat :: o) ⟨by simp; omega, by simp [e2]; omega, by simp [e2]; omega, by simp at hi4 ⊢; omega, ?_⟩ (by simp) rfl (by simp) (by simp) (by simp)
      rw [← hi5]
      simp only [mdig, if_pos hq]
    · have hz : q = 0 := by omega
      subst hz
      have : mdig n 0 o = o := by cases n <;> simp [mdig]
      rw [this] at hi5
      simp [mtext, ← hi5]
      omega

end Go.Proofs.Ytjfehcpompohcaa

namespace Go.Proofs.Ytjfehcpompohcaa
open Go.Vs Go.Proofs Go
set_option maxRecDepth 100000
set_option maxHeartbeats 1000000

theorem w_laws_szIntS (a : Sl (Int)) (left : Int) (h0 : 0 ≤ left) (h1 : left ≤ 1048576) (ha : okS okI a) :
   VC Try.prog 52 [.d (dSl cI a), .d (.int .i64 left)] (fun _ r => r = .d (.int .i64 (szv left (swS swI a)))) := by
  refine VC.of E s52 (by kernel_rfl) Try.func52 (by rfl) (by kernel_rfl) (by simp [Try.f52]) (by simp [Try.f52]) s52_ok fun B => ?_
  have ha1 := ha.1
  simp only [maxLen] at ha1
  have hw1 : IntKind.i64.wrap (left - (a.xs.length : Int)) = left - a.xs.length := wrap64_of (by omega) (by omega)
  have hwt : swS swI a = a.xs.length + sumW swI a.xs := rfl
  simp [Try.f52, dSl, hw1]
  have hz : sumW swI a.xs = 0 := by
    generalize a.xs = l
    induction l with
    | nil => rfl
    | cons b r ih => simp [swI, ih]
  refine ⟨fun h => ?_, fun h => ?_⟩
  · rw [szv_neg (by omega)]
  · rw [szv_pos (by omega)]; omega
theorem w_laws_eqIntS (a b : Sl (Int)) (ha : okS okI a) :
   VC Try.prog 19 [.d (dSl cI a), .d (dSl cI b)] (fun _ r => r = .d (.bool (plS plI a == plS plI b))) := by
  refine VC.of E s19 (by kernel_rfl) Try.func19 (by rfl) (by kernel_rfl) (by simp [Try.f19]) (by simp [Try.f19]) s19_ok fun B => ?_
  have ha1 := ha.1
  simp only [maxLen] at ha1
  simp [Try.f19, s19_6, dSl, plS]
  refine ⟨fun h e => h (by have := congrArg List.length e; simp at this; omega), fun hl => ?_⟩
  have hl' : a.xs.length = b.xs.length := by omega
  refine loop_rule (X := Nat) (fun i => i ≤ a.xs.length ∧ (a.xs.map plI).take i = (b.xs.map plI).take i) (fun i => [(0, .d (.sl a.id a.T (a.xs.map cI))), (1, .d (.sl b.id b.T (b.xs.map cI))), (5, .d (.int .i64 i))]) (fun _ => []) (fun i => a.xs.length - i) 0 (by simp) (by simp) (by simp) ?_
  intro i hs t m hi hh
  by_cases hlt : i < a.xs.length
  · have hwi := wr1 (i := i) (by omega)
    have hlb : i < b.xs.length := by omega
    have hst := eqm_step plI hlt hlb hi.2
    simp [cI, hlt, hlb, hwi, s19_6, ]
    simp only [plI] at hst
    refine ⟨fun hne he => hne (hst.2 (by rw [he])), fun heq => ?_⟩
    exact back (i + 1) ⟨by omega, hst.1 heq⟩ (by omega) rfl (by simp) (by simp) (by simp)
  · have := eq_all (a := a.xs.map plI) (b := b.xs.map plI) (by simpa using Nat.le_of_not_lt hlt) (by simpa using hl') hi.2
    have hlb : ¬ i < b.xs.length := by omega
    simp [hlt, hlb, this]
theorem w_laws_eqStringS (a b : Sl (List UInt8)) (ha : okS okStr a) :
   VC Try.prog 24 [.d (dSl cStr a), .d (dSl cStr b)] (fun _ r => r = .d (.bool (plS plStr a == plS plStr b))) := by
  refine VC.of E s24 (by kernel_rfl) Try.func24 (by rfl) (by kernel_rfl) (by simp [Try.f24]) (by simp [Try.f24]) s24_ok fun B => ?_
  have ha1 := ha.1
  simp only [maxLen] at ha1
  simp [Try.f24, s24_6, dSl, plS]
  refine ⟨fun h e => h (by have := congrArg List.length e; simp at this; omega), fun hl => ?_⟩
  have hl' : a.xs.length = b.xs.length := by omega
  refine loop_rule (X := Nat) (fun i => i ≤ a.xs.length ∧ (a.xs.map plStr).take i = (b.xs.map plStr).take i) (fun i => [(0, .d (.sl a.id a.T (a.xs.map cStr))), (1, .d (.sl b.id b.T (b.xs.map cStr))), (5, .d (.int .i64 i))]) (fun _ => []) (fun i => a.xs.length - i) 0 (by simp) (by simp) (by simp) ?_
  intro i hs t m hi hh
  by_cases hlt : i < a.xs.length
  · have hwi := wr1 (i := i) (by omega)
    have hlb : i < b.xs.length := by omega
    have hst := eqm_step plStr hlt hlb hi.2
    simp [cStr, hlt, hlb, hwi, s24_6, ]
    simp only [plStr] at hst
    refine ⟨fun hne he => hne (hst.2 (by rw [he])), fun heq => ?_⟩
    exact back (i + 1) ⟨by omega, hst.1 heq⟩ (by omega) rfl (by simp) (by simp) (by simp)
  · have := eq_all (a := a.xs.map plStr) (b := b.xs.map plStr) (by simpa using Nat.le_of_not_lt hlt) (by simpa using hl') hi.2
    have hlb : ¬ i < b.xs.length := by omega
    simp [hlt, hlb, this]
theorem w_laws_szIntSS (a : Sl (Sl (Int))) (left : Int) (h0 : 0 ≤ left) (h1 : left ≤ 1048576) (ha : okS (okS okI) a) :
   VC Try.prog 51 [.d (dSl (cS cI) a), .d (.int .i64 left)] (fun _ r => r = .d (.int .i64 (szv left (swS (swS swI) a)))) := by
  refine VC.of E s51 (by kernel_rfl) Try.func51 (by rfl) (by kernel_rfl) (by simp [Try.f51]) (by simp [Try.f51]) s51_ok fun B => ?_
  have ha1 := ha.1
  simp only [maxLen] at ha1
  have hw1 : IntKind.i64.wrap (left - (a.xs.length : Int)) = left - a.xs.length := wrap64_of (by omega) (by omega)
  have hwt : swS (swS swI) a = a.xs.length + sumW (swS swI) a.xs := rfl
  simp [Try.f51, dSl, hw1]
  refine ⟨fun h => ?_, fun h => ?_⟩
  · rw [szv_neg (by omega)]
  · refine loop_rule (X := Nat) (fun i => i ≤ a.xs.length ∧ 0 ≤ left - a.xs.length - sumW (swS swI) (a.xs.take i)) (fun i => [(0, .d (.sl a.id a.T (a.xs.map (cS cI)))), (1, .d (.int .i64 (left - a.xs.length - sumW (swS swI) (a.xs.take i)))), (5, .d (.int .i64 i))]) (fun _ => []) (fun i => a.xs.length - i) 0 ?_ ?_ (by simp) ?_
    · simp; omega
    · simp
    · intro i hs t m hi hh
      by_cases hlt : i < a.xs.length
      · simp [cS, hlt]
        refine call_pure (w_laws_szIntS a.xs[i] _ (by omega) (by omega) (ha.2 _ (List.getElem_mem _))) rfl (by simp) rfl fun hs' hh' => ?_
        have e1 := sumW_succ (swS swI) hlt
        have e2 := sumW_le (swS swI) a.xs (i + 1)
        have hwi := wr1 (i := i) (by omega)
        by_cases hc : (swS swI a.xs[i] : Int) ≤ left - a.xs.length - sumW (swS swI) (a.xs.take i)
        · rw [szv_pos hc]
          have hn : ¬ left - a.xs.length - sumW (swS swI) (a.xs.take i) - swS swI a.xs[i] < 0 := by omega
          simp [hwi, hn]
          refine back (i + 1) ⟨by omega, by omega⟩ (by omega) rfl (by simp at hh' ⊢; omega) ?_ (by simp)
          simp
          omega
        · rw [szv_neg (by omega)]
          simp
          rw [szv_neg (by omega)]
          all_goals exact fun h => absurd h (by decide)
      · have : i = a.xs.length := by omega
        subst this
        simp
        rw [szv_pos] <;> (simp at hi ⊢; omega)
theorem w_laws_eqIntSS (a b : Sl (Sl (Int))) (ha : okS (okS okI) a) :
   VC Try.prog 58 [.d (dSl (cS cI) a), .d (dSl (cS cI) b)] (fun _ r => r = .d (.bool (plS (plS plI) a == plS (plS plI) b))) := by
  refine VC.of E s58 (by kernel_rfl) Try.func58 (by rfl) (by kernel_rfl) (by simp [Try.f58]) (by simp [Try.f58]) s58_ok fun B => ?_
  have ha1 := ha.1
  simp only [maxLen] at ha1
  simp [Try.f58, s58_6, dSl, plS]
  refine ⟨fun h e => h (by have := congrArg List.length e; simp at this; omega), fun hl => ?_⟩
  have hl' : a.xs.length = b.xs.length := by omega
  refine loop_rule (X := Nat) (fun i => i ≤ a.xs.length ∧ (a.xs.map (plS plI)).take i = (b.xs.map (plS plI)).take i) (fun i => [(0, .d (.sl a.id a.T (a.xs.map (cS cI)))), (1, .d (.sl b.id b.T (b.xs.map (cS cI)))), (5, .d (.int .i64 i))]) (fun _ => []) (fun i => a.xs.length - i) 0 (by simp) (by simp) (by simp) ?_
  intro i hs t m hi hh
  by_cases hlt : i < a.xs.length
  · have hwi := wr1 (i := i) (by omega)
    have hlb : i < b.xs.length := by omega
    have hst := eqm_step (plS plI) hlt hlb hi.2
    simp [cS, hlt, hlb, s58_6, ]
    refine call_pure (w_laws_eqIntS a.xs[i] b.xs[i] (ha.2 _ (List.getElem_mem _))) rfl (by simp) rfl fun hs' hh' => ?_
    simp at hh'
    simp [hwi]
    refine ⟨fun hne he => hne (hst.2 (by rw [he])), fun heq => ?_⟩
    exact back (i + 1) ⟨by omega, hst.1 heq⟩ (by omega) rfl (by simp; omega) (by simp) (by simp)
  · have := eq_all (a := a.xs.map (plS plI)) (b := b.xs.map (plS plI)) (by simpa using Nat.le_of_not_lt hlt) (by simpa using hl') hi.2
    have hlb : ¬ i < b.xs.length := by omega
    simp [hlt, hlb, this]
theorem w_laws_szRelation (a : Reln) (left : Int) (h0 : 0 ≤ left) (h1 : left ≤ 1048576) (ha : okReln a) :
   VC Try.prog 29 [.agg ((cReln a).map V.d), .d (.int .i64 left)] (fun _ r => r = .d (.int .i64 (szv left (swReln a)))) := by
  refine VC.of E s29 (by kernel_rfl) Try.func29 (by rfl) (by kernel_rfl) (by simp [Try.f29]) (by simp [Try.f29]) s29_ok fun B => ?_
  have hwt : swReln a = swS (swS swI) a.rows := rfl
  have hc0 : (0 : Int) ≤ left := h0
  simp [Try.f29, cI, cReln, cS, dSl]
  refine call_pure (w_laws_szIntSS a.rows _ (by omega) (by omega) ha.2) rfl (by simp) rfl fun hs' hh' => ?_
  by_cases hb0 : (swS (swS swI) a.rows : Int) ≤ left
  · rw [szv_pos hb0]
    have hn0 : ¬ left - swS (swS swI) a.rows < 0 := by omega
    simp [hn0]
    rw [szv_pos (by omega)]; omega
  · rw [szv_neg (by omega)]
    simp
    try rw [szv_neg (by omega)]
    all_goals exact fun h => absurd h (by decide)
theorem w_laws_eqRelation (a b : Reln) (ha : okReln a) :
   VC Try.prog 33 [.agg ((cReln a).map V.d), .agg ((cReln b).map V.d)] (fun _ r => r = .d (.bool (plReln a == plReln b))) := by
  refine VC.of E s33 (by kernel_rfl) Try.func33 (by rfl) (by kernel_rfl) (by simp [Try.f33]) (by simp [Try.f33]) s33_ok fun B => ?_
  simp [Try.f33, cI, cReln, cS, dSl, plReln, plI, plStr]
  by_cases e0 : a.ar = b.ar
  case neg => simp [e0]
  simp [e0]
  refine call_pure (w_laws_eqIntSS a.rows b.rows ha.2) rfl (by simp) rfl fun hs1 hh1 => ?_
  by_cases e1 : plS (plS plI) a.rows = plS (plS plI) b.rows
  case neg => simp [e1]
  simp [e1]
theorem w_laws_szDelta (a : Delta) (left : Int) (h0 : 0 ≤ left) (h1 : left ≤ 1048576) (ha : okDelta a) :
   VC Try.prog 61 [.agg ((cDelta a).map V.d), .d (.int .i64 left)] (fun _ r => r = .d (.int .i64 (szv left (swDelta a)))) := by
  refine VC.of E s61 (by kernel_rfl) Try.func61 (by rfl) (by kernel_rfl) (by simp [Try.f61]) (by simp [Try.f61]) s61_ok fun B => ?_
  have hwt : swDelta a = swStr a.name + swReln a.ins + swReln a.del := rfl
  have hc0 : (0 : Int) ≤ left := h0
  have hs0 : a.name.length ≤ 9223372036854775807 := ha.1
  have hw0 : IntKind.i64.wrap (left - (a.name.length : Int)) = left - a.name.length := wrap64_of (by omega) (by omega)
  have hq0 : swStr a.name = a.name.length := rfl
  simp [Try.f61, cDelta, cI, cReln, cS, cStr, dSl, hw0]
  refine ⟨fun hneg => ?_, fun hpos => ?_⟩
  · rw [szv_neg (by omega)]
  · skip
    refine call_pure (w_laws_szRelation a.ins _ (by omega) (by omega) ha.2.1) rfl (by simp) rfl fun hs' hh' => ?_
    by_cases hb1 : (swReln a.ins : Int) ≤ left - a.name.length
    · rw [szv_pos hb1]
      have hn1 : ¬ left - a.name.length - swReln a.ins < 0 := by omega
      simp [hn1]
      refine call_pure (w_laws_szRelation a.del _ (by omega) (by omega) ha.2.2) rfl (by simp) rfl fun hs' hh' => ?_
      by_cases hb2 : (swReln a.del : Int) ≤ left - a.name.length - swReln a.ins
      · rw [szv_pos hb2]
        have hn2 : ¬ left - a.name.length - swReln a.ins - swReln a.del < 0 := by omega
        simp [hn2]
        rw [szv_pos (by omega)]; omega
      · rw [szv_neg (by omega)]
        simp
        try rw [szv_neg (by omega)]
        all_goals exact fun h => absurd h (by decide)
    · rw [szv_neg (by omega)]
      simp
      try rw [szv_neg (by omega)]
      all_goals exact fun h => absurd h (by decide)
theorem w_laws_eqDelta (a b : Delta) (ha : okDelta a) :
   VC Try.prog 63 [.agg ((cDelta a).map V.d), .agg ((cDelta b).map V.d)] (fun _ r => r = .d (.bool (plDelta a == plDelta b))) := by
  refine VC.of E s63 (by kernel_rfl) Try.func63 (by rfl) (by kernel_rfl) (by simp [Try.f63]) (by simp [Try.f63]) s63_ok fun B => ?_
  simp [Try.f63, cDelta, cI, cReln, cS, cStr, dSl, plDelta, plI, plStr]
  by_cases e0 : a.name = b.name
  case neg => simp [e0]
  simp [e0]
  refine call_pure (w_laws_eqRelation a.ins b.ins ha.2.1) rfl (by simp) rfl fun hs1 hh1 => ?_
  by_cases e1 : plReln a.ins = plReln b.ins
  case neg => simp [e1]
  simp [e1]
  refine call_pure (w_laws_eqRelation a.del b.del ha.2.2) rfl (by simp) rfl fun hs2 hh2 => ?_
  by_cases e2 : plReln a.del = plReln b.del
  case neg => simp [e2]
  simp [e2]
theorem w_laws_szDeltaS (a : Sl (Delta)) (left : Int) (h0 : 0 ≤ left) (h1 : left ≤ 1048576) (ha : okS okDelta a) :
   VC Try.prog 20 [.d (dSl cDelta a), .d (.int .i64 left)] (fun _ r => r = .d (.int .i64 (szv left (swS swDelta a)))) := by
  refine VC.of E s20 (by kernel_rfl) Try.func20 (by rfl) (by kernel_rfl) (by simp [Try.f20]) (by simp [Try.f20]) s20_ok fun B => ?_
  have ha1 := ha.1
  simp only [maxLen] at ha1
  have hw1 : IntKind.i64.wrap (left - (a.xs.length : Int)) = left - a.xs.length := wrap64_of (by omega) (by omega)
  have hwt : swS swDelta a = a.xs.length + sumW swDelta a.xs := rfl
  simp [Try.f20, dSl, hw1]
  refine ⟨fun h => ?_, fun h => ?_⟩
  · rw [szv_neg (by omega)]
  · refine loop_rule (X := Nat) (fun i => i ≤ a.xs.length ∧ 0 ≤ left - a.xs.length - sumW swDelta (a.xs.take i)) (fun i => [(0, .d (.sl a.id a.T (a.xs.map cDelta))), (1, .d (.int .i64 (left - a.xs.length - sumW swDelta (a.xs.take i)))), (5, .d (.int .i64 i))]) (fun _ => []) (fun i => a.xs.length - i) 0 ?_ ?_ (by simp) ?_
    · simp; omega
    · simp
    · intro i hs t m hi hh
      by_cases hlt : i < a.xs.length
      · simp [cDelta, cI, cReln, cS, cStr, hlt]
        refine call_pure (w_laws_szDelta a.xs[i] _ (by omega) (by omega) (ha.2 _ (List.getElem_mem _))) rfl (by simp) rfl fun hs' hh' => ?_
        have e1 := sumW_succ swDelta hlt
        have e2 := sumW_le swDelta a.xs (i + 1)
        have hwi := wr1 (i := i) (by omega)
        by_cases hc : (swDelta a.xs[i] : Int) ≤ left - a.xs.length - sumW swDelta (a.xs.take i)
        · rw [szv_pos hc]
          have hn : ¬ left - a.xs.length - sumW swDelta (a.xs.take i) - swDelta a.xs[i] < 0 := by omega
          simp [hwi, hn]
          refine back (i + 1) ⟨by omega, by omega⟩ (by omega) rfl (by simp at hh' ⊢; omega) ?_ (by simp)
          simp
          omega
        · rw [szv_neg (by omega)]
          simp
          rw [szv_neg (by omega)]
          all_goals exact fun h => absurd h (by decide)
      · have : i = a.xs.length := by omega
        subst this
        simp
        rw [szv_pos] <;> (simp at hi ⊢; omega)
theorem w_laws_eqDeltaS (a b : Sl (Delta)) (ha : okS okDelta a) :
   VC Try.prog 25 [.d (dSl cDelta a), .d (dSl cDelta b)] (fun _ r => r = .d (.bool (plS plDelta a == plS plDelta b))) := by
  refine VC.of E s25 (by kernel_rfl) Try.func25 (by rfl) (by kernel_rfl) (by simp [Try.f25]) (by simp [Try.f25]) s25_ok fun B => ?_
  have ha1 := ha.1
  simp only [maxLen] at ha1
  simp [Try.f25, s25_6, dSl, plS]
  refine ⟨fun h e => h (by have := congrArg List.length e; simp at this; omega), fun hl => ?_⟩
  have hl' : a.xs.length = b.xs.length := by omega
  refine loop_rule (X := Nat) (fun i => i ≤ a.xs.length ∧ (a.xs.map plDelta).take i = (b.xs.map plDelta).take i) (fun i => [(0, .d (.sl a.id a.T (a.xs.map cDelta))), (1, .d (.sl b.id b.T (b.xs.map cDelta))), (5, .d (.int .i64 i))]) (fun _ => []) (fun i => a.xs.length - i) 0 (by simp) (by simp) (by simp) ?_
  intro i hs t m hi hh
  by_cases hlt : i < a.xs.length
  · have hwi := wr1 (i := i) (by omega)
    have hlb : i < b.xs.length := by omega
    have hst := eqm_step plDelta hlt hlb hi.2
    simp [cDelta, cI, cReln, cS, cStr, hlt, hlb, s25_6, ]
    refine call_pure (w_laws_eqDelta a.xs[i] b.xs[i] (ha.2 _ (List.getElem_mem _))) rfl (by simp) rfl fun hs' hh' => ?_
    simp at hh'
    simp [hwi]
    refine ⟨fun hne he => hne (hst.2 (by rw [he])), fun heq => ?_⟩
    exact back (i + 1) ⟨by omega, hst.1 heq⟩ (by omega) rfl (by simp; omega) (by simp) (by simp)
  · have := eq_all (a := a.xs.map plDelta) (b := b.xs.map plDelta) (by simpa using Nat.le_of_not_lt hlt) (by simpa using hl') hi.2
    have hlb : ¬ i < b.xs.length := by omega
    simp [hlt, hlb, this]
theorem w_laws_szCountedRelation (a : Cnt) (left : Int) (h0 : 0 ≤ left) (h1 : left ≤ 1048576) (ha : okCnt a) :
   VC Try.prog 11 [.agg ((cCnt a).map V.d), .d (.int .i64 left)] (fun _ r => r = .d (.int .i64 (szv left (swCnt a)))) := by
  refine VC.of E s11 (by kernel_rfl) Try.func11 (by rfl) (by kernel_rfl) (by simp [Try.f11]) (by simp [Try.f11]) s11_ok fun B => ?_
  have hwt : swCnt a = swS (swS swI) a.rows + swS swI a.cs := rfl
  have hc0 : (0 : Int) ≤ left := h0
  simp [Try.f11, cCnt, cI, cS, dSl]
  refine call_pure (w_laws_szIntSS a.rows _ (by omega) (by omega) ha.2.1) rfl (by simp) rfl fun hs' hh' => ?_
  by_cases hb0 : (swS (swS swI) a.rows : Int) ≤ left
  · rw [szv_pos hb0]
    have hn0 : ¬ left - swS (swS swI) a.rows < 0 := by omega
    simp [hn0]
    refine call_pure (w_laws_szIntS a.cs _ (by omega) (by omega) ha.2.2) rfl (by simp) rfl fun hs' hh' => ?_
    by_cases hb1 : (swS swI a.cs : Int) ≤ left - swS (swS swI) a.rows
    · rw [szv_pos hb1]
      have hn1 : ¬ left - swS (swS swI) a.rows - swS swI a.cs < 0 := by omega
      simp [hn1]
      rw [szv_pos (by omega)]; omega
    · rw [szv_neg (by omega)]
      simp
      try rw [szv_neg (by omega)]
      all_goals exact fun h => absurd h (by decide)
  · rw [szv_neg (by omega)]
    simp
    try rw [szv_neg (by omega)]
    all_goals exact fun h => absurd h (by decide)
theorem w_laws_eqCountedRelation (a b : Cnt) (ha : okCnt a) :
   VC Try.prog 15 [.agg ((cCnt a).map V.d), .agg ((cCnt b).map V.d)] (fun _ r => r = .d (.bool (plCnt a == plCnt b))) := by
  refine VC.of E s15 (by kernel_rfl) Try.func15 (by rfl) (by kernel_rfl) (by simp [Try.f15]) (by simp [Try.f15]) s15_ok fun B => ?_
  simp [Try.f15, cCnt, cI, cS, dSl, plCnt, plI, plStr]
  by_cases e0 : a.ar = b.ar
  case neg => simp [e0]
  simp [e0]
  refine call_pure (w_laws_eqIntSS a.rows b.rows ha.2.1) rfl (by simp) rfl fun hs1 hh1 => ?_
  by_cases e1 : plS (plS plI) a.rows = plS (plS plI) b.rows
  case neg => simp [e1]
  simp [e1]
  refine call_pure (w_laws_eqIntS a.cs b.cs ha.2.2) rfl (by simp) rfl fun hs2 hh2 => ?_
  by_cases e2 : plS plI a.cs = plS plI b.cs
  case neg => simp [e2]
  simp [e2]
theorem w_laws_szAtom (a : Atom) (left : Int) (h0 : 0 ≤ left) (h1 : left ≤ 1048576) (ha : okAtom a) :
   VC Try.prog 94 [.agg ((cAtom a).map V.d), .d (.int .i64 left)] (fun _ r => r = .d (.int .i64 (szv left (swAtom a)))) := by
  refine VC.of E s94 (by kernel_rfl) Try.func94 (by rfl) (by kernel_rfl) (by simp [Try.f94]) (by simp [Try.f94]) s94_ok fun B => ?_
  have hwt : swAtom a = swStr a.rel + swS swI a.vars := rfl
  have hc0 : (0 : Int) ≤ left := h0
  have hs0 : a.rel.length ≤ 9223372036854775807 := ha.1
  have hw0 : IntKind.i64.wrap (left - (a.rel.length : Int)) = left - a.rel.length := wrap64_of (by omega) (by omega)
  have hq0 : swStr a.rel = a.rel.length := rfl
  simp [Try.f94, cAtom, cS, cStr, dSl, hw0]
  refine ⟨fun hneg => ?_, fun hpos => ?_⟩
  · rw [szv_neg (by omega)]
  · skip
    refine call_pure (w_laws_szIntS a.vars _ (by omega) (by omega) ha.2) rfl (by simp) rfl fun hs' hh' => ?_
    by_cases hb1 : (swS swI a.vars : Int) ≤ left - a.rel.length
    · rw [szv_pos hb1]
      have hn1 : ¬ left - a.rel.length - swS swI a.vars < 0 := by omega
      simp [hn1]
      rw [szv_pos (by omega)]; omega
    · rw [szv_neg (by omega)]
      simp
      try rw [szv_neg (by omega)]
      all_goals exact fun h => absurd h (by decide)
theorem w_laws_eqAtom (a b : Atom) (ha : okAtom a) :
   VC Try.prog 96 [.agg ((cAtom a).map V.d), .agg ((cAtom b).map V.d)] (fun _ r => r = .d (.bool (plAtom a == plAtom b))) := by
  refine VC.of E s96 (by kernel_rfl) Try.func96 (by rfl) (by kernel_rfl) (by simp [Try.f96]) (by simp [Try.f96]) s96_ok fun B => ?_
  simp [Try.f96, cAtom, cS, cStr, dSl, plAtom, plI, plStr]
  by_cases e0 : a.rel = b.rel
  case neg => simp [e0]
  simp [e0]
  refine call_pure (w_laws_eqIntS a.vars b.vars ha.2) rfl (by simp) rfl fun hs1 hh1 => ?_
  by_cases e1 : plS plI a.vars = plS plI b.vars
  case neg => simp [e1]
  simp [e1]
theorem w_laws_szAtomS (a : Sl (Atom)) (left : Int) (h0 : 0 ≤ left) (h1 : left ≤ 1048576) (ha : okS okAtom a) :
   VC Try.prog 88 [.d (dSl cAtom a), .d (.int .i64 left)] (fun _ r => r = .d (.int .i64 (szv left (swS swAtom a)))) := by
  refine VC.of E s88 (by kernel_rfl) Try.func88 (by rfl) (by kernel_rfl) (by simp [Try.f88]) (by simp [Try.f88]) s88_ok fun B => ?_
  have ha1 := ha.1
  simp only [maxLen] at ha1
  have hw1 : IntKind.i64.wrap (left - (a.xs.length : Int)) = left - a.xs.length := wrap64_of (by omega) (by omega)
  have hwt : swS swAtom a = a.xs.length + sumW swAtom a.xs := rfl
  simp [Try.f88, dSl, hw1]
  refine ⟨fun h => ?_, fun h => ?_⟩
  · rw [szv_neg (by omega)]
  · refine loop_rule (X := Nat) (fun i => i ≤ a.xs.length ∧ 0 ≤ left - a.xs.length - sumW swAtom (a.xs.take i)) (fun i => [(0, .d (.sl a.id a.T (a.xs.map cAtom))), (1, .d (.int .i64 (left - a.xs.length - sumW swAtom (a.xs.take i)))), (5, .d (.int .i64 i))]) (fun _ => []) (fun i => a.xs.length - i) 0 ?_ ?_ (by simp) ?_
    · simp; omega
    · simp
    · intro i hs t m hi hh
      by_cases hlt : i < a.xs.length
      · simp [cAtom, cS, cStr, hlt]
        refine call_pure (w_laws_szAtom a.xs[i] _ (by omega) (by omega) (ha.2 _ (List.getElem_mem _))) rfl (by simp) rfl fun hs' hh' => ?_
        have e1 := sumW_succ swAtom hlt
        have e2 := sumW_le swAtom a.xs (i + 1)
        have hwi := wr1 (i := i) (by omega)
        by_cases hc : (swAtom a.xs[i] : Int) ≤ left - a.xs.length - sumW swAtom (a.xs.take i)
        · rw [szv_pos hc]
          have hn : ¬ left - a.xs.length - sumW swAtom (a.xs.take i) - swAtom a.xs[i] < 0 := by omega
          simp [hwi, hn]
          refine back (i + 1) ⟨by omega, by omega⟩ (by omega) rfl (by simp at hh' ⊢; omega) ?_ (by simp)
          simp
          omega
        · rw [szv_neg (by omega)]
          simp
          rw [szv_neg (by omega)]
          all_goals exact fun h => absurd h (by decide)
      · have : i = a.xs.length := by omega
        subst this
        simp
        rw [szv_pos] <;> (simp at hi ⊢; omega)
theorem w_laws_eqAtomS (a b : Sl (Atom)) (ha : okS okAtom a) :
   VC Try.prog 90 [.d (dSl cAtom a), .d (dSl cAtom b)] (fun _ r => r = .d (.bool (plS plAtom a == plS plAtom b))) := by
  refine VC.of E s90 (by kernel_rfl) Try.func90 (by rfl) (by kernel_rfl) (by simp [Try.f90]) (by simp [Try.f90]) s90_ok fun B => ?_
  have ha1 := ha.1
  simp only [maxLen] at ha1
  simp [Try.f90, s90_6, dSl, plS]
  refine ⟨fun h e => h (by have := congrArg List.length e; simp at this; omega), fun hl => ?_⟩
  have hl' : a.xs.length = b.xs.length := by omega
  refine loop_rule (X := Nat) (fun i => i ≤ a.xs.length ∧ (a.xs.map plAtom).take i = (b.xs.map plAtom).take i) (fun i => [(0, .d (.sl a.id a.T (a.xs.map cAtom))), (1, .d (.sl b.id b.T (b.xs.map cAtom))), (5, .d (.int .i64 i))]) (fun _ => []) (fun i => a.xs.length - i) 0 (by simp) (by simp) (by simp) ?_
  intro i hs t m hi hh
  by_cases hlt : i < a.xs.length
  · have hwi := wr1 (i := i) (by omega)
    have hlb : i < b.xs.length := by omega
    have hst := eqm_step plAtom hlt hlb hi.2
    simp [cAtom, cS, cStr, hlt, hlb, s90_6, ]
    refine call_pure (w_laws_eqAtom a.xs[i] b.xs[i] (ha.2 _ (List.getElem_mem _))) rfl (by simp) rfl fun hs' hh' => ?_
    simp at hh'
    simp [hwi]
    refine ⟨fun hne he => hne (hst.2 (by rw [he])), fun heq => ?_⟩
    exact back (i + 1) ⟨by omega, hst.1 heq⟩ (by omega) rfl (by simp; omega) (by simp) (by simp)
  · have := eq_all (a := a.xs.map plAtom) (b := b.xs.map plAtom) (by simpa using Nat.le_of_not_lt hlt) (by simpa using hl') hi.2
    have hlb : ¬ i < b.xs.length := by omega
    simp [hlt, hlb, this]
theorem w_laws_szQuery (a : Query) (left : Int) (h0 : 0 ≤ left) (h1 : left ≤ 1048576) (ha : okQuery a) :
   VC Try.prog 78 [.agg ((cQuery a).map V.d), .d (.int .i64 left)] (fun _ r => r = .d (.int .i64 (szv left (swQuery a)))) := by
  refine VC.of E s78 (by kernel_rfl) Try.func78 (by rfl) (by kernel_rfl) (by simp [Try.f78]) (by simp [Try.f78]) s78_ok fun B => ?_
  have hwt : swQuery a = swS swAtom a.atoms + swS swI a.out := rfl
  have hc0 : (0 : Int) ≤ left := h0
  simp [Try.f78, cI, cQuery, cS, dSl]
  refine call_pure (w_laws_szAtomS a.atoms _ (by omega) (by omega) ha.2.1) rfl (by simp) rfl fun hs' hh' => ?_
  by_cases hb0 : (swS swAtom a.atoms : Int) ≤ left
  · rw [szv_pos hb0]
    have hn0 : ¬ left - swS swAtom a.atoms < 0 := by omega
    simp [hn0]
    refine call_pure (w_laws_szIntS a.out _ (by omega) (by omega) ha.2.2) rfl (by simp) rfl fun hs' hh' => ?_
    by_cases hb1 : (swS swI a.out : Int) ≤ left - swS swAtom a.atoms
    · rw [szv_pos hb1]
      have hn1 : ¬ left - swS swAtom a.atoms - swS swI a.out < 0 := by omega
      simp [hn1]
      rw [szv_pos (by omega)]; omega
    · rw [szv_neg (by omega)]
      simp
      try rw [szv_neg (by omega)]
      all_goals exact fun h => absurd h (by decide)
  · rw [szv_neg (by omega)]
    simp
    try rw [szv_neg (by omega)]
    all_goals exact fun h => absurd h (by decide)
theorem w_laws_eqQuery (a b : Query) (ha : okQuery a) :
   VC Try.prog 80 [.agg ((cQuery a).map V.d), .agg ((cQuery b).map V.d)] (fun _ r => r = .d (.bool (plQuery a == plQuery b))) := by
  refine VC.of E s80 (by kernel_rfl) Try.func80 (by rfl) (by kernel_rfl) (by simp [Try.f80]) (by simp [Try.f80]) s80_ok fun B => ?_
  simp [Try.f80, cI, cQuery, cS, dSl, plQuery, plI, plStr]
  by_cases e0 : a.n = b.n
  case neg => simp [e0]
  simp [e0]
  refine call_pure (w_laws_eqAtomS a.atoms b.atoms ha.2.1) rfl (by simp) rfl fun hs1 hh1 => ?_
  by_cases e1 : plS plAtom a.atoms = plS plAtom b.atoms
  case neg => simp [e1]
  simp [e1]
  refine call_pure (w_laws_eqIntS a.out b.out ha.2.2) rfl (by simp) rfl fun hs2 hh2 => ?_
  by_cases e2 : plS plI a.out = plS plI b.out
  case neg => simp [e2]
  simp [e2]
theorem w_laws_szView (a : View) (left : Int) (h0 : 0 ≤ left) (h1 : left ≤ 1048576) (ha : okView a) :
   VC Try.prog 45 [.agg ((cView a).map V.d), .d (.int .i64 left)] (fun _ r => r = .d (.int .i64 (szv left (swView a)))) := by
  refine VC.of E s45 (by kernel_rfl) Try.func45 (by rfl) (by kernel_rfl) (by simp [Try.f45]) (by simp [Try.f45]) s45_ok fun B => ?_
  have hwt : swView a = swQuery a.q + swCnt a.r := rfl
  have hc0 : (0 : Int) ≤ left := h0
  simp [Try.f45, cCnt, cI, cQuery, cS, cView, dSl]
  refine call_pure (w_laws_szQuery a.q _ (by omega) (by omega) ha.1) rfl (by simp) rfl fun hs' hh' => ?_
  by_cases hb0 : (swQuery a.q : Int) ≤ left
  · rw [szv_pos hb0]
    have hn0 : ¬ left - swQuery a.q < 0 := by omega
    simp [hn0]
    refine call_pure (w_laws_szCountedRelation a.r _ (by omega) (by omega) ha.2) rfl (by simp) rfl fun hs' hh' => ?_
    by_cases hb1 : (swCnt a.r : Int) ≤ left - swQuery a.q
    · rw [szv_pos hb1]
      have hn1 : ¬ left - swQuery a.q - swCnt a.r < 0 := by omega
      simp [hn1]
      rw [szv_pos (by omega)]; omega
    · rw [szv_neg (by omega)]
      simp
      try rw [szv_neg (by omega)]
      all_goals exact fun h => absurd h (by decide)
  · rw [szv_neg (by omega)]
    simp
    try rw [szv_neg (by omega)]
    all_goals exact fun h => absurd h (by decide)
theorem w_laws_eqView (a b : View) (ha : okView a) :
   VC Try.prog 49 [.agg ((cView a).map V.d), .agg ((cView b).map V.d)] (fun _ r => r = .d (.bool (plView a == plView b))) := by
  refine VC.of E s49 (by kernel_rfl) Try.func49 (by rfl) (by kernel_rfl) (by simp [Try.f49]) (by simp [Try.f49]) s49_ok fun B => ?_
  simp [Try.f49, cCnt, cI, cQuery, cS, cView, dSl, plView, plI, plStr]
  refine call_pure (w_laws_eqQuery a.q b.q ha.1) rfl (by simp) rfl fun hs0 hh0 => ?_
  by_cases e0 : plQuery a.q = plQuery b.q
  case neg => simp [e0]
  simp [e0]
  refine call_pure (w_laws_eqCountedRelation a.r b.r ha.2) rfl (by simp) rfl fun hs1 hh1 => ?_
  by_cases e1 : plCnt a.r = plCnt b.r
  case neg => simp [e1]
  simp [e1]

end Go.Proofs.Ytjfehcpompohcaa

namespace Go.Proofs.Ytjfehcpompohcaa
open Go.Vs Go.Proofs Go
set_option maxRecDepth 100000
set_option maxHeartbeats 1000000

theorem w_laws_toIntS (a : Sl (Int)) (ha : okS okI a) (hb : a.xs.length ≤ 1048576) :
   VC Try.prog 17 [.d (dSl cI a)] (fun n r => ∃ y : Sl (Int), r = .d (dSl cI y) ∧ plS plI y = plS plI a ∧ okS okI y ∧ Good (cS cI y) (whS whI y) n) := by
  refine VC.of E s17 (by kernel_rfl) Try.func17 (by rfl) (by kernel_rfl) (by simp [Try.f17]) (by simp [Try.f17]) s17_ok fun B => ?_
  simp [Try.f17, dSl]
  refine ⟨⟨by omega, by simp only [maxLen]; omega⟩, ?_⟩
  refine loop_rule (X := Nat) (fun i => i ≤ a.xs.length) (fun i => [(0, .d (.sl a.id a.T (a.xs.map cI))), (3, .own 7 0 a.xs.length), (4, .d (.int .i64 i))]) (fun i => [(7, some (.row 3 1 (fill [.int .i64 0] (a.xs.map cI) i)))]) (fun i => a.xs.length - i) 0 (by simp) (by simp) (by simp) ?_
  intro i hs t m hi hh
  by_cases hlt : i < a.xs.length
  · have hwi := wr1 (i := i) (by omega)
    simp [cI, hlt, hwi]
    refine back (i + 1) (by omega) (by omega) rfl (by simp) (by simp) ?_
    have := fill_set (z := [.int .i64 0]) (l := a.xs.map cI) (i := i) (by simpa using hlt) (by simp [hlt]; rfl)
    simp only [cI] at this ⊢
    simp [this]
  · have hn : i = a.xs.length := by omega
    subst hn
    have hf : fill [.int .i64 0] (a.xs.map cI) a.xs.length = a.xs.map cI := fill_all (by simp)
    simp [hf]
    intro γ hs' h1 hg
    obtain ⟨q1, q2⟩ := gam_at hg (k := 7) (T := 3) (sz := 1) (es := a.xs.map cI) (by simp)
    have q3 := gam_row hg (k := 7) (T := 3) (sz := 1) (es := a.xs.map cI) (by simp)
    clear hg
    refine ⟨⟨γ 7, some (3, 1), a.xs⟩, ⟨⟨rfl, rfl, List.take_of_length_le (by simp)⟩, rfl, ha, good_row (fun g hg => (q1 g hg).1) (by simpa using q2) q3 ⟨by simp, by simp⟩ (by simp [whI, whStr])⟩⟩
theorem w_laws_heldIntS (a : Sl (Int)) (k : Int) (h0 : 1 ≤ k) (h1 : k + wtS wtI a ≤ 4611686018427387904) (ha : okS okI a) :
   VC Try.prog 70 [.d (dSl cI a), .d (.int .i64 k)] (fun _ r => r = .d (.int .i64 (hv (hlS (hlI) (wtI) a k) k (wtS wtI a)))) := by
  refine VC.of E s70 (by kernel_rfl) Try.func70 (by rfl) (by kernel_rfl) (by simp [Try.f70]) (by simp [Try.f70]) s70_ok fun B => ?_
  obtain ⟨id, T, xs⟩ := a
  have ha1 := ha.1
  simp only [maxLen] at ha1
  have hwt : wtS wtI (⟨id, T, xs⟩ : Sl (Int)) = sumW wtI xs := rfl
  have hhl : hlS (hlI) (wtI) (⟨id, T, xs⟩ : Sl (Int)) k = hlList hlI wtI xs k := rfl
  rw [hwt] at h1
  rw [hwt, hhl]
  simp [Try.f70, dSl]
  refine loop_rule (X := Nat) (fun i => i ≤ xs.length ∧ hlList hlI wtI (xs.take i) k = true) (fun i => [(0, .d (.sl id T (xs.map cI))), (1, .d (.int .i64 (k + sumW wtI (xs.take i)))), (5, .d (.int .i64 i))]) (fun _ => []) (fun i => xs.length - i) 0 (by simp [hlList]) (by simp) (by simp) ?_
  intro i hs t m hi hh
  by_cases hlt : i < xs.length
  · have hwi := wr1 (i := i) (by omega)
    have e1 := sumW_succ wtI hlt
    have e2 := sumW_le wtI xs (i + 1)
    have hmem : xs[i] ∈ xs := List.getElem_mem _
    have hstep := hlList_step (hl := hlI) (wt := wtI) (k := k) hlt
    rw [hi.2, Bool.true_and] at hstep
    have hbad := hlList_bad (hl := hlI) (wt := wtI) (k := k) hlt
    have hex : hlI xs[i] (k + sumW wtI (xs.take i)) = (xs[i] == k + sumW wtI (xs.take i)) := rfl
    have hwx : wtI xs[i] = 1 := rfl
    have hk0 : IntKind.i64.wrap (k + sumW wtI (xs.take i) + 1) = k + sumW wtI (xs.take i) + 1 := wrap64_of (by omega) (by omega)
    simp [cI, hlt, dSl, ]
    by_cases c0 : xs[i] = k + sumW wtI (xs.take i)
    case neg => simp [c0, hbad (by simp [hex, c0])]
    simp [c0, hk0, ]
    simp [hwi]
    refine back (i + 1) ⟨by omega, hstep.trans (hex.trans (by simp [c0]))⟩ (by omega) rfl (by simp <;> omega) ?_ (by simp)
    simp
    omega
  · have hn : i = xs.length := by omega
    subst hn
    have h2 := hi.2
    rw [List.take_length] at h2
    simp [h2]
theorem w_laws_heldStringS (a : Sl (List UInt8)) (k : Int) (h0 : 1 ≤ k) (h1 : k + wtS wtStr a ≤ 4611686018427387904) (ha : okS okStr a) :
   VC Try.prog 28 [.d (dSl cStr a), .d (.int .i64 k)] (fun _ r => r = .d (.int .i64 (hv (hlS (hlStr) (wtStr) a k) k (wtS wtStr a)))) := by
  refine VC.of E s28 (by kernel_rfl) Try.func28 (by rfl) (by kernel_rfl) (by simp [Try.f28]) (by simp [Try.f28]) s28_ok fun B => ?_
  obtain ⟨id, T, xs⟩ := a
  have ha1 := ha.1
  simp only [maxLen] at ha1
  have hwt : wtS wtStr (⟨id, T, xs⟩ : Sl (List UInt8)) = sumW wtStr xs := rfl
  have hhl : hlS (hlStr) (wtStr) (⟨id, T, xs⟩ : Sl (List UInt8)) k = hlList hlStr wtStr xs k := rfl
  rw [hwt] at h1
  rw [hwt, hhl]
  simp [Try.f28, s28_4, dSl]
  refine loop_rule (X := Nat) (fun i => i ≤ xs.length ∧ hlList hlStr wtStr (xs.take i) k = true) (fun i => [(0, .d (.sl id T (xs.map cStr))), (1, .d (.int .i64 (k + sumW wtStr (xs.take i)))), (5, .d (.int .i64 i))]) (fun _ => []) (fun i => xs.length - i) 0 (by simp [hlList]) (by simp) (by simp) ?_
  intro i hs t m hi hh
  by_cases hlt : i < xs.length
  · have hwi := wr1 (i := i) (by omega)
    have e1 := sumW_succ wtStr hlt
    have e2 := sumW_le wtStr xs (i + 1)
    have hmem : xs[i] ∈ xs := List.getElem_mem _
    have hstep := hlList_step (hl := hlStr) (wt := wtStr) (k := k) hlt
    rw [hi.2, Bool.true_and] at hstep
    have hbad := hlList_bad (hl := hlStr) (wt := wtStr) (k := k) hlt
    have hex : hlStr xs[i] (k + sumW wtStr (xs.take i)) = (xs[i] == mtext (k + sumW wtStr (xs.take i))) := rfl
    have hwx : wtStr xs[i] = 1 := rfl
    have hk0 : IntKind.i64.wrap (k + sumW wtStr (xs.take i) + 1) = k + sumW wtStr (xs.take i) + 1 := wrap64_of (by omega) (by omega)
    simp [cStr, hlt, dSl, s28_4, ]
    refine call_pure (w_laws_markText _ (by omega) (by omega)) rfl (by simp) rfl fun hs0 hh0 => ?_
    simp at hh0
    by_cases c0 : xs[i] = mtext (k + sumW wtStr (xs.take i))
    case neg => simp [c0, hbad (by simp [hex, c0])]
    simp [c0, hk0, hlt, cStr, s28_4, ]
    simp [hwi]
    refine back (i + 1) ⟨by omega, hstep.trans (hex.trans (by simp [c0]))⟩ (by omega) rfl (by simp <;> omega) ?_ (by simp)
    simp
    omega
  · have hn : i = xs.length := by omega
    subst hn
    have h2 := hi.2
    rw [List.take_length] at h2
    simp [h2]
theorem w_laws_toIntSS (a : Sl (Sl (Int))) (ha : okS (okS okI) a) (hb : swS (swS swI) a ≤ 1048576) :
   VC Try.prog 55 [.d (dSl (cS cI) a)] (fun n r => ∃ y : Sl (Sl (Int)), r = .d (dSl (cS cI) y) ∧ plS (plS plI) y = plS (plS plI) a ∧ okS (okS okI) y ∧ Good (cS (cS cI) y) (whS (whS whI) y) n) := by
  refine VC.of E s55 (by kernel_rfl) Try.func55 (by rfl) (by kernel_rfl) (by simp [Try.f55]) (by simp [Try.f55]) s55_ok fun B => ?_
  have hwt : swS (swS swI) a = a.xs.length + sumW (swS swI) a.xs := rfl
  simp [Try.f55, dSl]
  refine ⟨⟨by omega, by simp only [maxLen]; omega⟩, ?_⟩
  refine loop_rule2 (X := Nat × List (Sl (Int))) (fun p h => p.1 ≤ a.xs.length ∧ p.2.length = p.1 ∧ p.2.map (plS plI) = (a.xs.map (plS plI)).take p.1 ∧ (∀ y ∈ p.2, okS okI y) ∧ GoodL (cS cI) (whS whI) B h p.2) (fun p => [(0, .d (.sl a.id a.T (a.xs.map (cS cI)))), (3, .own 7 0 a.xs.length), (4, .d (.int .i64 p.1))]) (fun p => [(7, some (.row 23 1 (p.2.map (cS cI) ++ List.replicate (a.xs.length - p.1) [.sl none none []])))]) (fun p => a.xs.length - p.1) (0, []) ⟨by simp, rfl, by simp, by simp, GoodL.nil⟩ (by simp) (by simp) ?_
  rintro ⟨i, ys⟩ hs t m ⟨hi, hyl, hpl, hok, hgd⟩ hh
  simp only at hi hyl hpl hok hgd
  by_cases hlt : i < a.xs.length
  · have hwi := wr1 (i := i) (by omega)
    have hmem : a.xs[i] ∈ a.xs := List.getElem_mem _
    have hsw := sumW_mem (swS swI) hmem
    simp [cS, hlt]
    refine call_some (w_laws_toIntS a.xs[i] (ha.2 _ hmem) (by simp only [swS] at hsw; omega)) rfl (by simp) fun n hs' r hn hn' hp hr => ?_
    obtain ⟨y, rfl, hy1, hy2, hy3⟩ := hp
    simp at hn
    have hr' : ∀ g ∈ idsL (cS cI y), g < hs' := fun g hg => hr g (by first | (simp [cS, V.ids, idsVL, idsL] at hg; done) | simpa [cS, V.ids, idsVL, idsL] using hg)
    have hyi : ys.length = i := hyl
    simp [cS, hlt, hwi, hyi, show i + (a.xs.length - i) = a.xs.length by omega, dSl]
    refine back2 (i + 1, ys ++ [y]) ⟨by omega, by simp [hyi], ?_, ?_, ?_⟩ (by simp <;> omega) rfl (by simp <;> omega) (by simp) ?_
    · simp only [List.map_append, hpl, List.map_cons, List.map_nil, hy1]
      rw [List.take_succ_eq_append_getElem (by simpa using hlt)]; simp
    · intro y' hy'
      rcases List.mem_append.1 hy' with h | h
      · exact hok y' h
      · rw [List.mem_singleton.1 h]; exact hy2
    · exact GoodL.snoc hgd (by omega) hn' hy3 hr'
    · simp [rep_set0 hlt, cS, dSl]
  · have hn : i = a.xs.length := by omega
    subst hn
    simp
    intro γ hs' h1 hg
    obtain ⟨q1, q2⟩ := gam_at hg (k := 7) (T := 23) (sz := 1) (es := ys.map (cS cI)) (by simp [upd])
    have q3 := gam_row hg (k := 7) (T := 23) (sz := 1) (es := ys.map (cS cI)) (by simp [upd])
    clear hg
    refine ⟨_, ⟨by omega, rfl⟩, ⟨γ 7, some (23, 1), ys⟩, ?_, by rw [List.take_of_length_le (by simp)] at hpl; exact hpl, ⟨by simp only [maxLen]; show ys.length ≤ _; omega, hok⟩, good_row (fun g hg => (q1 g hg).1) (by simpa using q2) q3 ⟨hgd.nd, hgd.lo⟩ hgd.wh⟩
    rw [if_pos hyl.symm, List.take_of_length_le (by simp [hyl])]
theorem w_laws_heldIntSS (a : Sl (Sl (Int))) (k : Int) (h0 : 1 ≤ k) (h1 : k + wtS (wtS wtI) a ≤ 4611686018427387904) (ha : okS (okS okI) a) :
   VC Try.prog 69 [.d (dSl (cS cI) a), .d (.int .i64 k)] (fun _ r => r = .d (.int .i64 (hv (hlS (hlS (hlI) (wtI)) (wtS wtI) a k) k (wtS (wtS wtI) a)))) := by
  refine VC.of E s69 (by kernel_rfl) Try.func69 (by rfl) (by kernel_rfl) (by simp [Try.f69]) (by simp [Try.f69]) s69_ok fun B => ?_
  obtain ⟨id, T, xs⟩ := a
  have ha1 := ha.1
  simp only [maxLen] at ha1
  have hwt : wtS (wtS wtI) (⟨id, T, xs⟩ : Sl (Sl (Int))) = sumW (wtS wtI) xs := rfl
  have hhl : hlS (hlS (hlI) (wtI)) (wtS wtI) (⟨id, T, xs⟩ : Sl (Sl (Int))) k = hlList (hlS (hlI) (wtI)) (wtS wtI) xs k := rfl
  rw [hwt] at h1
  rw [hwt, hhl]
  simp [Try.f69, dSl]
  refine loop_rule (X := Nat) (fun i => i ≤ xs.length ∧ hlList (hlS (hlI) (wtI)) (wtS wtI) (xs.take i) k = true) (fun i => [(0, .d (.sl id T (xs.map (cS cI)))), (1, .d (.int .i64 (k + sumW (wtS wtI) (xs.take i)))), (5, .d (.int .i64 i))]) (fun _ => []) (fun i => xs.length - i) 0 (by simp [hlList]) (by simp) (by simp) ?_
  intro i hs t m hi hh
  by_cases hlt : i < xs.length
  · have hwi := wr1 (i := i) (by omega)
    have e1 := sumW_succ (wtS wtI) hlt
    have e2 := sumW_le (wtS wtI) xs (i + 1)
    have hmem : xs[i] ∈ xs := List.getElem_mem _
    have hstep := hlList_step (hl := (hlS (hlI) (wtI))) (wt := (wtS wtI)) (k := k) hlt
    rw [hi.2, Bool.true_and] at hstep
    have hbad := hlList_bad (hl := (hlS (hlI) (wtI))) (wt := (wtS wtI)) (k := k) hlt
    have hex : hlS (hlI) (wtI) xs[i] (k + sumW (wtS wtI) (xs.take i)) = (hlS (hlI) (wtI) xs[i] (k + sumW (wtS wtI) (xs.take i))) := rfl
    have hwx : wtS wtI xs[i] = wtS wtI xs[i] := rfl
    simp [cS, hlt, dSl, ]
    refine call_pure (w_laws_heldIntS xs[i] _ (by omega) (by omega) ((ha.2 _ hmem))) rfl (by simp) rfl fun hs0 hh0 => ?_
    simp at hh0
    by_cases c0 : hlS (hlI) (wtI) xs[i] (k + sumW (wtS wtI) (xs.take i)) = true
    case neg =>
      have c0' : hlS (hlI) (wtI) xs[i] (k + sumW (wtS wtI) (xs.take i)) = false := by simpa using c0
      simp [c0', hbad (by simp [hex, c0'])]
    have hn0 : ¬ k + sumW (wtS wtI) (xs.take i) + (wtS wtI xs[i] : Int) < 0 := by omega
    simp [c0, hn0, hlt, cS, dSl, ]
    simp [hwi]
    refine back (i + 1) ⟨by omega, hstep.trans (hex.trans (by simp [c0]))⟩ (by omega) rfl (by simp <;> omega) ?_ (by simp)
    simp
    omega
  · have hn : i = xs.length := by omega
    subst hn
    have h2 := hi.2
    rw [List.take_length] at h2
    simp [h2]
theorem w_laws_toRelation (a : Reln) (ha : okReln a) (hb : swReln a ≤ 1048576) :
   VC Try.prog 31 [.agg ((cReln a).map V.d)] (fun n r => ∃ y : Reln, r = .agg ((cReln y).map V.d) ∧ plReln y = plReln a ∧ okReln y ∧ Good (cReln y) (whReln y) n) := by
  refine VC.of E s31 (by kernel_rfl) Try.func31 (by rfl) (by kernel_rfl) (by simp [Try.f31]) (by simp [Try.f31]) s31_ok fun B => ?_
  have hwt : swReln a = swS (swS swI) a.rows := rfl
  simp [Try.f31, cI, cReln, cS, dSl]
  refine call_some (w_laws_toIntSS a.rows ha.2 (by have := hwt; omega)) rfl (by simp) fun n0 hs0 r0 hn0 hm0 hp0 hr0 => ?_
  obtain ⟨y0, rfl, hy0, hk0, hg0⟩ := hp0
  have hl0 : ∀ g ∈ idsL (cS (cS cI) y0), g < hs0 := fun g hg => hr0 g (by first | (simp [cS, V.ids, idsVL, idsL] at hg; done) | simpa [cS, V.ids, idsVL, idsL] using hg)
  simp at hn0
  simp [cS, dSl]
  refine ⟨⟨a.ar, y0⟩, ?_⟩
  refine ⟨by simp [cI, cReln, cS, dSl], by simp only [plReln, hy0], ⟨ha.1, hk0⟩, ?_⟩
  have G0 : Good (cI a.ar) (whI a.ar) B := good_I B a.ar
  have G1 : Good (cS (cS cI) y0) (whS (whS whI) y0) B := hg0.le (by omega)
  have U0 : ∀ g ∈ idsL (cI a.ar), g < B := by simp [cI, idsL, D.ids]
  have K1 : Good (cI a.ar ++ cS (cS cI) y0) ((whI a.ar) ∧ whS (whS whI) y0) B := Good.app G0 G1 (fun g h h' => by have h1 := U0 g h; have h2 := hg0.lo g h'; omega)
  have U1 : ∀ g ∈ idsL (cI a.ar ++ cS (cS cI) y0), g < hs0 := fun g h => by rw [idsL_app] at h; rcases List.mem_append.1 h with h | h; (have h1 := U0 g h; omega); exact hl0 g h
  exact ⟨K1.nd, K1.lo, by have h := K1.wh; exact ⟨h.1, h.2⟩⟩
theorem w_laws_heldRelation (a : Reln) (k : Int) (h0 : 1 ≤ k) (h1 : k + wtTReln a ≤ 4611686018427387904) (ha : okReln a) :
   VC Try.prog 39 [.agg ((cReln a).map V.d), .d (.int .i64 k)] (fun _ r => r = .d (.int .i64 (hv (hlTReln a k) k (wtTReln a)))) := by
  refine VC.of E s39 (by kernel_rfl) Try.func39 (by rfl) (by kernel_rfl) (by simp [Try.f39]) (by simp [Try.f39]) s39_ok fun B => ?_
  have hwt : wtTReln a = wtS (wtS wtI) a.rows := rfl
  have hex : hlTReln a k = (hlS (hlS (hlI) (wtI)) (wtS wtI) a.rows (k)) := rfl
  simp [Try.f39, cI, cReln, cS, dSl]
  refine call_pure (w_laws_heldIntSS a.rows _ (by omega) (by omega) ha.2) rfl (by simp) rfl fun hs0 hh0 => ?_
  by_cases c0 : hlS (hlS (hlI) (wtI)) (wtS wtI) a.rows (k) = true
  case neg =>
    have c0' : hlS (hlS (hlI) (wtI)) (wtS wtI) a.rows (k) = false := by simpa using c0
    simp [c0', hex]
  have hn0 : ¬ k + (wtS (wtS wtI) a.rows : Int) < 0 := by omega
  simp [c0, hn0]
  simp [hex, c0, hwt]
  try omega
theorem w_laws_toDelta (a : Delta) (ha : okDelta a) (hb : swDelta a ≤ 1048576) :
   VC Try.prog 62 [.agg ((cDelta a).map V.d)] (fun n r => ∃ y : Delta, r = .agg ((cDelta y).map V.d) ∧ plDelta y = plDelta a ∧ okDelta y ∧ Good (cDelta y) (whDelta y) n) := by
  refine VC.of E s62 (by kernel_rfl) Try.func62 (by rfl) (by kernel_rfl) (by simp [Try.f62]) (by simp [Try.f62]) s62_ok fun B => ?_
  have hwt : swDelta a = swStr a.name + swReln a.ins + swReln a.del := rfl
  simp [Try.f62, cDelta, cI, cReln, cS, cStr, dSl]
  refine call_some (w_laws_toRelation a.ins ha.2.1 (by have := hwt; omega)) rfl (by simp) fun n0 hs0 r0 hn0 hm0 hp0 hr0 => ?_
  obtain ⟨y0, rfl, hy0, hk0, hg0⟩ := hp0
  have hl0 : ∀ g ∈ idsL (cReln y0), g < hs0 := fun g hg => hr0 g (by first | (simp [cI, cReln, cS, V.ids, idsVL, idsL] at hg; done) | simpa [cI, cReln, cS, V.ids, idsVL, idsL] using hg)
  simp at hn0
  simp [cI, cReln, cS, dSl]
  refine call_some (w_laws_toRelation a.del ha.2.2 (by have := hwt; omega)) rfl (by simp) fun n1 hs1 r1 hn1 hm1 hp1 hr1 => ?_
  obtain ⟨y1, rfl, hy1, hk1, hg1⟩ := hp1
  have hl1 : ∀ g ∈ idsL (cReln y1), g < hs1 := fun g hg => hr1 g (by first | (simp [cI, cReln, cS, V.ids, idsVL, idsL] at hg; done) | simpa [cI, cReln, cS, V.ids, idsVL, idsL] using hg)
  simp at hn1
  simp [cI, cReln, cS, dSl]
  refine ⟨⟨a.name, y0, y1⟩, ?_⟩
  refine ⟨by simp [cDelta, cI, cReln, cS, cStr, dSl], by simp only [plDelta, hy0, hy1], ⟨ha.1, hk0, hk1⟩, ?_⟩
  have G0 : Good (cStr a.name) (whStr a.name) B := good_Str B a.name
  have G1 : Good (cReln y0) (whReln y0) B := hg0.le (by omega)
  have G2 : Good (cReln y1) (whReln y1) B := hg1.le (by omega)
  have U0 : ∀ g ∈ idsL (cStr a.name), g < B := by simp [cStr, idsL, D.ids]
  have K1 : Good (cStr a.name ++ cReln y0) ((whStr a.name) ∧ whReln y0) B := Good.app G0 G1 (fun g h h' => by have h1 := U0 g h; have h2 := hg0.lo g h'; omega)
  have U1 : ∀ g ∈ idsL (cStr a.name ++ cReln y0), g < hs0 := fun g h => by rw [idsL_app] at h; rcases List.mem_append.1 h with h | h; (have h1 := U0 g h; omega); exact hl0 g h
  have K2 : Good (cStr a.name ++ cReln y0 ++ cReln y1) (((whStr a.name) ∧ whReln y0) ∧ whReln y1) B := Good.app K1 G2 (fun g h h' => by have h1 := U1 g h; have h2 := hg1.lo g h'; omega)
  have U2 : ∀ g ∈ idsL (cStr a.name ++ cReln y0 ++ cReln y1), g < hs1 := fun g h => by rw [idsL_app] at h; rcases List.mem_append.1 h with h | h; (have h1 := U1 g h; omega); exact hl1 g h
  exact ⟨K2.nd, K2.lo, by have h := K2.wh; exact ⟨h.1.1, h.1.2, h.2⟩⟩
theorem w_laws_toDeltaS (a : Sl (Delta)) (ha : okS okDelta a) (hb : swS swDelta a ≤ 1048576) :
   VC Try.prog 22 [.d (dSl cDelta a)] (fun n r => ∃ y : Sl (Delta), r = .d (dSl cDelta y) ∧ plS plDelta y = plS plDelta a ∧ okS okDelta y ∧ Good (cS cDelta y) (whS whDelta y) n) := by
  refine VC.of E s22 (by kernel_rfl) Try.func22 (by rfl) (by kernel_rfl) (by simp [Try.f22]) (by simp [Try.f22]) s22_ok fun B => ?_
  have hwt : swS swDelta a = a.xs.length + sumW swDelta a.xs := rfl
  simp [Try.f22, dSl]
  refine ⟨⟨by omega, by simp only [maxLen]; omega⟩, ?_⟩
  refine loop_rule2 (X := Nat × List (Delta)) (fun p h => p.1 ≤ a.xs.length ∧ p.2.length = p.1 ∧ p.2.map plDelta = (a.xs.map plDelta).take p.1 ∧ (∀ y ∈ p.2, okDelta y) ∧ GoodL cDelta whDelta B h p.2) (fun p => [(0, .d (.sl a.id a.T (a.xs.map cDelta))), (3, .own 7 0 a.xs.length), (4, .d (.int .i64 p.1))]) (fun p => [(7, some (.row 93 5 (p.2.map cDelta ++ List.replicate (a.xs.length - p.1) [.str [], .int .i64 0, .sl none none [], .int .i64 0, .sl none none []])))]) (fun p => a.xs.length - p.1) (0, []) ⟨by simp, rfl, by simp, by simp, GoodL.nil⟩ (by simp) (by simp) ?_
  rintro ⟨i, ys⟩ hs t m ⟨hi, hyl, hpl, hok, hgd⟩ hh
  simp only at hi hyl hpl hok hgd
  by_cases hlt : i < a.xs.length
  · have hwi := wr1 (i := i) (by omega)
    have hmem : a.xs[i] ∈ a.xs := List.getElem_mem _
    have hsw := sumW_mem swDelta hmem
    simp [cDelta, cI, cReln, cS, cStr, hlt]
    refine call_some (w_laws_toDelta a.xs[i] (ha.2 _ hmem) (by omega)) rfl (by simp) fun n hs' r hn hn' hp hr => ?_
    obtain ⟨y, rfl, hy1, hy2, hy3⟩ := hp
    simp at hn
    have hr' : ∀ g ∈ idsL (cDelta y), g < hs' := fun g hg => hr g (by first | (simp [cDelta, cI, cReln, cS, cStr, V.ids, idsVL, idsL] at hg; done) | simpa [cDelta, cI, cReln, cS, cStr, V.ids, idsVL, idsL] using hg)
    have hyi : ys.length = i := hyl
    simp [cDelta, cI, cReln, cS, cStr, hlt, hwi, hyi, show i + (a.xs.length - i) = a.xs.length by omega, dSl]
    refine back2 (i + 1, ys ++ [y]) ⟨by omega, by simp [hyi], ?_, ?_, ?_⟩ (by simp <;> omega) rfl (by simp <;> omega) (by simp) ?_
    · simp only [List.map_append, hpl, List.map_cons, List.map_nil, hy1]
      rw [List.take_succ_eq_append_getElem (by simpa using hlt)]; simp
    · intro y' hy'
      rcases List.mem_append.1 hy' with h | h
      · exact hok y' h
      · rw [List.mem_singleton.1 h]; exact hy2
    · exact GoodL.snoc hgd (by omega) hn' hy3 hr'
    · simp [rep_set0 hlt, cDelta, cI, cReln, cS, cStr, dSl]
  · have hn : i = a.xs.length := by omega
    subst hn
    simp
    intro γ hs' h1 hg
    obtain ⟨q1, q2⟩ := gam_at hg (k := 7) (T := 93) (sz := 5) (es := ys.map cDelta) (by simp [upd])
    have q3 := gam_row hg (k := 7) (T := 93) (sz := 5) (es := ys.map cDelta) (by simp [upd])
    clear hg
    refine ⟨_, ⟨by omega, rfl⟩, ⟨γ 7, some (93, 5), ys⟩, ?_, by rw [List.take_of_length_le (by simp)] at hpl; exact hpl, ⟨by simp only [maxLen]; show ys.length ≤ _; omega, hok⟩, good_row (fun g hg => (q1 g hg).1) (by simpa using q2) q3 ⟨hgd.nd, hgd.lo⟩ hgd.wh⟩
    rw [if_pos hyl.symm, List.take_of_length_le (by simp [hyl])]
theorem w_laws_toCountedRelation (a : Cnt) (ha : okCnt a) (hb : swCnt a ≤ 1048576) :
   VC Try.prog 13 [.agg ((cCnt a).map V.d)] (fun n r => ∃ y : Cnt, r = .agg ((cCnt y).map V.d) ∧ plCnt y = plCnt a ∧ okCnt y ∧ Good (cCnt y) (whCnt y) n) := by
  refine VC.of E s13 (by kernel_rfl) Try.func13 (by rfl) (by kernel_rfl) (by simp [Try.f13]) (by simp [Try.f13]) s13_ok fun B => ?_
  have hwt : swCnt a = swS (swS swI) a.rows + swS swI a.cs := rfl
  simp [Try.f13, cCnt, cI, cS, dSl]
  refine call_some (w_laws_toIntSS a.rows ha.2.1 (by have := hwt; omega)) rfl (by simp) fun n0 hs0 r0 hn0 hm0 hp0 hr0 => ?_
  obtain ⟨y0, rfl, hy0, hk0, hg0⟩ := hp0
  have hl0 : ∀ g ∈ idsL (cS (cS cI) y0), g < hs0 := fun g hg => hr0 g (by first | (simp [cS, V.ids, idsVL, idsL] at hg; done) | simpa [cS, V.ids, idsVL, idsL] using hg)
  simp at hn0
  simp [cS, dSl]
  refine call_some (w_laws_toIntS a.cs ha.2.2 (by have := hwt; simp only [swS] at this; omega)) rfl (by simp) fun n1 hs1 r1 hn1 hm1 hp1 hr1 => ?_
  obtain ⟨y1, rfl, hy1, hk1, hg1⟩ := hp1
  have hl1 : ∀ g ∈ idsL (cS cI y1), g < hs1 := fun g hg => hr1 g (by first | (simp [cS, V.ids, idsVL, idsL] at hg; done) | simpa [cS, V.ids, idsVL, idsL] using hg)
  simp at hn1
  simp [cS, dSl]
  refine ⟨⟨a.ar, y0, y1⟩, ?_⟩
  refine ⟨by simp [cCnt, cI, cS, dSl], by simp only [plCnt, hy0, hy1], ⟨ha.1, hk0, hk1⟩, ?_⟩
  have G0 : Good (cI a.ar) (whI a.ar) B := good_I B a.ar
  have G1 : Good (cS (cS cI) y0) (whS (whS whI) y0) B := hg0.le (by omega)
  have G2 : Good (cS cI y1) (whS whI y1) B := hg1.le (by omega)
  have U0 : ∀ g ∈ idsL (cI a.ar), g < B := by simp [cI, idsL, D.ids]
  have K1 : Good (cI a.ar ++ cS (cS cI) y0) ((whI a.ar) ∧ whS (whS whI) y0) B := Good.app G0 G1 (fun g h h' => by have h1 := U0 g h; have h2 := hg0.lo g h'; omega)
  have U1 : ∀ g ∈ idsL (cI a.ar ++ cS (cS cI) y0), g < hs0 := fun g h => by rw [idsL_app] at h; rcases List.mem_append.1 h with h | h; (have h1 := U0 g h; omega); exact hl0 g h
  have K2 : Good (cI a.ar ++ cS (cS cI) y0 ++ cS cI y1) (((whI a.ar) ∧ whS (whS whI) y0) ∧ whS whI y1) B := Good.app K1 G2 (fun g h h' => by have h1 := U1 g h; have h2 := hg1.lo g h'; omega)
  have U2 : ∀ g ∈ idsL (cI a.ar ++ cS (cS cI) y0 ++ cS cI y1), g < hs1 := fun g h => by rw [idsL_app] at h; rcases List.mem_append.1 h with h | h; (have h1 := U1 g h; omega); exact hl1 g h
  exact ⟨K2.nd, K2.lo, by have h := K2.wh; exact ⟨h.1.1, h.1.2, h.2⟩⟩
theorem w_laws_heldCountedRelation (a : Cnt) (k : Int) (h0 : 1 ≤ k) (h1 : k + wtTCnt a ≤ 4611686018427387904) (ha : okCnt a) :
   VC Try.prog 36 [.agg ((cCnt a).map V.d), .d (.int .i64 k)] (fun _ r => r = .d (.int .i64 (hv (hlTCnt a k) k (wtTCnt a)))) := by
  refine VC.of E s36 (by kernel_rfl) Try.func36 (by rfl) (by kernel_rfl) (by simp [Try.f36]) (by simp [Try.f36]) s36_ok fun B => ?_
  have hwt : wtTCnt a = wtS (wtS wtI) a.rows + wtS wtI a.cs := rfl
  have hex : hlTCnt a k = (hlS (hlS (hlI) (wtI)) (wtS wtI) a.rows (k) && hlS (hlI) (wtI) a.cs (k + wtS (wtS wtI) a.rows)) := rfl
  simp [Try.f36, cCnt, cI, cS, dSl]
  refine call_pure (w_laws_heldIntSS a.rows _ (by omega) (by omega) ha.2.1) rfl (by simp) rfl fun hs0 hh0 => ?_
  by_cases c0 : hlS (hlS (hlI) (wtI)) (wtS wtI) a.rows (k) = true
  case neg =>
    have c0' : hlS (hlS (hlI) (wtI)) (wtS wtI) a.rows (k) = false := by simpa using c0
    simp [c0', hex]
  have hn0 : ¬ k + (wtS (wtS wtI) a.rows : Int) < 0 := by omega
  simp [c0, hn0]
  refine call_pure (w_laws_heldIntS a.cs _ (by omega) (by omega) ha.2.2) rfl (by simp) rfl fun hs1 hh1 => ?_
  by_cases c1 : hlS (hlI) (wtI) a.cs (k + wtS (wtS wtI) a.rows) = true
  case neg =>
    have c1' : hlS (hlI) (wtI) a.cs (k + wtS (wtS wtI) a.rows) = false := by simpa using c1
    simp [c1', hex]
  have hn1 : ¬ k + wtS (wtS wtI) a.rows + (wtS wtI a.cs : Int) < 0 := by omega
  simp [c1, hn1]
  simp [hex, c0, c1, hwt]
  try omega
theorem w_laws_toAtom (a : Atom) (ha : okAtom a) (hb : swAtom a ≤ 1048576) :
   VC Try.prog 95 [.agg ((cAtom a).map V.d)] (fun n r => ∃ y : Atom, r = .agg ((cAtom y).map V.d) ∧ plAtom y = plAtom a ∧ okAtom y ∧ Good (cAtom y) (whAtom y) n) := by
  refine VC.of E s95 (by kernel_rfl) Try.func95 (by rfl) (by kernel_rfl) (by simp [Try.f95]) (by simp [Try.f95]) s95_ok fun B => ?_
  have hwt : swAtom a = swStr a.rel + swS swI a.vars := rfl
  simp [Try.f95, cAtom, cS, cStr, dSl]
  refine call_some (w_laws_toIntS a.vars ha.2 (by have := hwt; simp only [swS] at this; omega)) rfl (by simp) fun n0 hs0 r0 hn0 hm0 hp0 hr0 => ?_
  obtain ⟨y0, rfl, hy0, hk0, hg0⟩ := hp0
  have hl0 : ∀ g ∈ idsL (cS cI y0), g < hs0 := fun g hg => hr0 g (by first | (simp [cS, V.ids, idsVL, idsL] at hg; done) | simpa [cS, V.ids, idsVL, idsL] using hg)
  simp at hn0
  simp [cS, dSl]
  refine ⟨⟨a.rel, y0⟩, ?_⟩
  refine ⟨by simp [cAtom, cS, cStr, dSl], by simp only [plAtom, hy0], ⟨ha.1, hk0⟩, ?_⟩
  have G0 : Good (cStr a.rel) (whStr a.rel) B := good_Str B a.rel
  have G1 : Good (cS cI y0) (whS whI y0) B := hg0.le (by omega)
  have U0 : ∀ g ∈ idsL (cStr a.rel), g < B := by simp [cStr, idsL, D.ids]
  have K1 : Good (cStr a.rel ++ cS cI y0) ((whStr a.rel) ∧ whS whI y0) B := Good.app G0 G1 (fun g h h' => by have h1 := U0 g h; have h2 := hg0.lo g h'; omega)
  have U1 : ∀ g ∈ idsL (cStr a.rel ++ cS cI y0), g < hs0 := fun g h => by rw [idsL_app] at h; rcases List.mem_append.1 h with h | h; (have h1 := U0 g h; omega); exact hl0 g h
  exact ⟨K1.nd, K1.lo, by have h := K1.wh; exact ⟨h.1, h.2⟩⟩
theorem w_laws_toAtomS (a : Sl (Atom)) (ha : okS okAtom a) (hb : swS swAtom a ≤ 1048576) :
   VC Try.prog 89 [.d (dSl cAtom a)] (fun n r => ∃ y : Sl (Atom), r = .d (dSl cAtom y) ∧ plS plAtom y = plS plAtom a ∧ okS okAtom y ∧ Good (cS cAtom y) (whS whAtom y) n) := by
  refine VC.of E s89 (by kernel_rfl) Try.func89 (by rfl) (by kernel_rfl) (by simp [Try.f89]) (by simp [Try.f89]) s89_ok fun B => ?_
  have hwt : swS swAtom a = a.xs.length + sumW swAtom a.xs := rfl
  simp [Try.f89, dSl]
  refine ⟨⟨by omega, by simp only [maxLen]; omega⟩, ?_⟩
  refine loop_rule2 (X := Nat × List (Atom)) (fun p h => p.1 ≤ a.xs.length ∧ p.2.length = p.1 ∧ p.2.map plAtom = (a.xs.map plAtom).take p.1 ∧ (∀ y ∈ p.2, okAtom y) ∧ GoodL cAtom whAtom B h p.2) (fun p => [(0, .d (.sl a.id a.T (a.xs.map cAtom))), (3, .own 7 0 a.xs.length), (4, .d (.int .i64 p.1))]) (fun p => [(7, some (.row 120 2 (p.2.map cAtom ++ List.replicate (a.xs.length - p.1) [.str [], .sl none none []])))]) (fun p => a.xs.length - p.1) (0, []) ⟨by simp, rfl, by simp, by simp, GoodL.nil⟩ (by simp) (by simp) ?_
  rintro ⟨i, ys⟩ hs t m ⟨hi, hyl, hpl, hok, hgd⟩ hh
  simp only at hi hyl hpl hok hgd
  by_cases hlt : i < a.xs.length
  · have hwi := wr1 (i := i) (by omega)
    have hmem : a.xs[i] ∈ a.xs := List.getElem_mem _
    have hsw := sumW_mem swAtom hmem
    simp [cAtom, cS, cStr, hlt]
    refine call_some (w_laws_toAtom a.xs[i] (ha.2 _ hmem) (by omega)) rfl (by simp) fun n hs' r hn hn' hp hr => ?_
    obtain ⟨y, rfl, hy1, hy2, hy3⟩ := hp
    simp at hn
    have hr' : ∀ g ∈ idsL (cAtom y), g < hs' := fun g hg => hr g (by first | (simp [cAtom, cS, cStr, V.ids, idsVL, idsL] at hg; done) | simpa [cAtom, cS, cStr, V.ids, idsVL, idsL] using hg)
    have hyi : ys.length = i := hyl
    simp [cAtom, cS, cStr, hlt, hwi, hyi, show i + (a.xs.length - i) = a.xs.length by omega, dSl]
    refine back2 (i + 1, ys ++ [y]) ⟨by omega, by simp [hyi], ?_, ?_, ?_⟩ (by simp <;> omega) rfl (by simp <;> omega) (by simp) ?_
    · simp only [List.map_append, hpl, List.map_cons, List.map_nil, hy1]
      rw [List.take_succ_eq_append_getElem (by simpa using hlt)]; simp
    · intro y' hy'
      rcases List.mem_append.1 hy' with h | h
      · exact hok y' h
      · rw [List.mem_singleton.1 h]; exact hy2
    · exact GoodL.snoc hgd (by omega) hn' hy3 hr'
    · simp [rep_set0 hlt, cAtom, cS, cStr, dSl]
  · have hn : i = a.xs.length := by omega
    subst hn
    simp
    intro γ hs' h1 hg
    obtain ⟨q1, q2⟩ := gam_at hg (k := 7) (T := 120) (sz := 2) (es := ys.map cAtom) (by simp [upd])
    have q3 := gam_row hg (k := 7) (T := 120) (sz := 2) (es := ys.map cAtom) (by simp [upd])
    clear hg
    refine ⟨_, ⟨by omega, rfl⟩, ⟨γ 7, some (120, 2), ys⟩, ?_, by rw [List.take_of_length_le (by simp)] at hpl; exact hpl, ⟨by simp only [maxLen]; show ys.length ≤ _; omega, hok⟩, good_row (fun g hg => (q1 g hg).1) (by simpa using q2) q3 ⟨hgd.nd, hgd.lo⟩ hgd.wh⟩
    rw [if_pos hyl.symm, List.take_of_length_le (by simp [hyl])]
theorem w_laws_toQuery (a : Query) (ha : okQuery a) (hb : swQuery a ≤ 1048576) :
   VC Try.prog 79 [.agg ((cQuery a).map V.d)] (fun n r => ∃ y : Query, r = .agg ((cQuery y).map V.d) ∧ plQuery y = plQuery a ∧ okQuery y ∧ Good (cQuery y) (whQuery y) n) := by
  refine VC.of E s79 (by kernel_rfl) Try.func79 (by rfl) (by kernel_rfl) (by simp [Try.f79]) (by simp [Try.f79]) s79_ok fun B => ?_
  have hwt : swQuery a = swS swAtom a.atoms + swS swI a.out := rfl
  simp [Try.f79, cI, cQuery, cS, dSl]
  refine call_some (w_laws_toAtomS a.atoms ha.2.1 (by have := hwt; omega)) rfl (by simp) fun n0 hs0 r0 hn0 hm0 hp0 hr0 => ?_
  obtain ⟨y0, rfl, hy0, hk0, hg0⟩ := hp0
  have hl0 : ∀ g ∈ idsL (cS cAtom y0), g < hs0 := fun g hg => hr0 g (by first | (simp [cS, V.ids, idsVL, idsL] at hg; done) | simpa [cS, V.ids, idsVL, idsL] using hg)
  simp at hn0
  simp [cS, dSl]
  refine call_some (w_laws_toIntS a.out ha.2.2 (by have := hwt; simp only [swS] at this; omega)) rfl (by simp) fun n1 hs1 r1 hn1 hm1 hp1 hr1 => ?_
  obtain ⟨y1, rfl, hy1, hk1, hg1⟩ := hp1
  have hl1 : ∀ g ∈ idsL (cS cI y1), g < hs1 := fun g hg => hr1 g (by first | (simp [cS, V.ids, idsVL, idsL] at hg; done) | simpa [cS, V.ids, idsVL, idsL] using hg)
  simp at hn1
  simp [cS, dSl]
  refine ⟨⟨a.n, y0, y1⟩, ?_⟩
  refine ⟨by simp [cI, cQuery, cS, dSl], by simp only [plQuery, hy0, hy1], ⟨ha.1, hk0, hk1⟩, ?_⟩
  have G0 : Good (cI a.n) (whI a.n) B := good_I B a.n
  have G1 : Good (cS cAtom y0) (whS whAtom y0) B := hg0.le (by omega)
  have G2 : Good (cS cI y1) (whS whI y1) B := hg1.le (by omega)
  have U0 : ∀ g ∈ idsL (cI a.n), g < B := by simp [cI, idsL, D.ids]
  have K1 : Good (cI a.n ++ cS cAtom y0) ((whI a.n) ∧ whS whAtom y0) B := Good.app G0 G1 (fun g h h' => by have h1 := U0 g h; have h2 := hg0.lo g h'; omega)
  have U1 : ∀ g ∈ idsL (cI a.n ++ cS cAtom y0), g < hs0 := fun g h => by rw [idsL_app] at h; rcases List.mem_append.1 h with h | h; (have h1 := U0 g h; omega); exact hl0 g h
  have K2 : Good (cI a.n ++ cS cAtom y0 ++ cS cI y1) (((whI a.n) ∧ whS whAtom y0) ∧ whS whI y1) B := Good.app K1 G2 (fun g h h' => by have h1 := U1 g h; have h2 := hg1.lo g h'; omega)
  have U2 : ∀ g ∈ idsL (cI a.n ++ cS cAtom y0 ++ cS cI y1), g < hs1 := fun g h => by rw [idsL_app] at h; rcases List.mem_append.1 h with h | h; (have h1 := U1 g h; omega); exact hl1 g h
  exact ⟨K2.nd, K2.lo, by have h := K2.wh; exact ⟨h.1.1, h.1.2, h.2⟩⟩
theorem w_laws_toView (a : View) (ha : okView a) (hb : swView a ≤ 1048576) :
   VC Try.prog 47 [.agg ((cView a).map V.d)] (fun n r => ∃ y : View, r = .agg ((cView y).map V.d) ∧ plView y = plView a ∧ okView y ∧ Good (cView y) (whView y) n) := by
  refine VC.of E s47 (by kernel_rfl) Try.func47 (by rfl) (by kernel_rfl) (by simp [Try.f47]) (by simp [Try.f47]) s47_ok fun B => ?_
  have hwt : swView a = swQuery a.q + swCnt a.r := rfl
  simp [Try.f47, cCnt, cI, cQuery, cS, cView, dSl]
  refine call_some (w_laws_toQuery a.q ha.1 (by have := hwt; omega)) rfl (by simp) fun n0 hs0 r0 hn0 hm0 hp0 hr0 => ?_
  obtain ⟨y0, rfl, hy0, hk0, hg0⟩ := hp0
  have hl0 : ∀ g ∈ idsL (cQuery y0), g < hs0 := fun g hg => hr0 g (by first | (simp [cI, cQuery, cS, V.ids, idsVL, idsL] at hg; done) | simpa [cI, cQuery, cS, V.ids, idsVL, idsL] using hg)
  simp at hn0
  simp [cI, cQuery, cS, dSl]
  refine call_some (w_laws_toCountedRelation a.r ha.2 (by have := hwt; omega)) rfl (by simp) fun n1 hs1 r1 hn1 hm1 hp1 hr1 => ?_
  obtain ⟨y1, rfl, hy1, hk1, hg1⟩ := hp1
  have hl1 : ∀ g ∈ idsL (cCnt y1), g < hs1 := fun g hg => hr1 g (by first | (simp [cCnt, cI, cS, V.ids, idsVL, idsL] at hg; done) | simpa [cCnt, cI, cS, V.ids, idsVL, idsL] using hg)
  simp at hn1
  simp [cCnt, cI, cS, dSl]
  refine ⟨⟨y0, y1⟩, ?_⟩
  refine ⟨by simp [cCnt, cI, cQuery, cS, cView, dSl], by simp only [plView, hy0, hy1], ⟨hk0, hk1⟩, ?_⟩
  have G0 : Good (cQuery y0) (whQuery y0) B := hg0.le (by omega)
  have G1 : Good (cCnt y1) (whCnt y1) B := hg1.le (by omega)
  have U0 : ∀ g ∈ idsL (cQuery y0), g < hs0 := hl0
  have K1 : Good (cQuery y0 ++ cCnt y1) ((whQuery y0) ∧ whCnt y1) B := Good.app G0 G1 (fun g h h' => by have h1 := U0 g h; have h2 := hg1.lo g h'; omega)
  have U1 : ∀ g ∈ idsL (cQuery y0 ++ cCnt y1), g < hs1 := fun g h => by rw [idsL_app] at h; rcases List.mem_append.1 h with h | h; (have h1 := U0 g h; omega); exact hl1 g h
  exact ⟨K1.nd, K1.lo, by have h := K1.wh; exact ⟨h.1, h.2⟩⟩

end Go.Proofs.Ytjfehcpompohcaa

namespace Go.Proofs.Ytjfehcpompohcaa
open Go.Vs Go.Proofs Go
set_option maxRecDepth 100000
set_option maxHeartbeats 1000000

theorem w_laws_markIntS (a : Ints) (k : Int) (h0 : 1 ≤ k) (h1 : k + wtS wtI a ≤ 4611686018427387904) (hw : whS whI a) (hl0 : okS okI a) (hnd : (dInts a).ids.Nodup) :
   VX Try.prog 44 (dInts a).ids [.d (dInts a), .d (.int .i64 k)] none (fun _ r _ ws => r = .d (.int .i64 (k + wtS wtI a)) ∧ ws = [dInts (mkS mkI wtI a k)]) := by
  refine VX.of E s44 (by kernel_rfl) Try.func44 (by rfl) (by kernel_rfl) (by simp [Try.f44]) (by simp [Try.f44]) s44_ok (fun g hg => .inl (by simpa using hg)) (fun cs h => nomatch h) fun B hB => ?_
  have hl := hl0.1
  obtain ⟨id, T, xs⟩ := a
  have hwt : wtS wtI (⟨id, T, xs⟩ : Ints) = xs.length := sumW_one (fun _ => rfl) xs
  rw [hwt] at h1 ⊢
  simp only [maxLen] at hl
  simp [Try.f44]
  refine loop_rule (X := Nat) (fun i => i ≤ xs.length) (fun i => [(0, .d (dInts ⟨id, T, mkAt mkI wtI xs k i⟩)), (1, .d (.int .i64 (k + i))), (5, .d (.int .i64 i))]) (fun _ => []) (fun i => xs.length - i) 0 (by simp) (by simp) (by simp) ?_
  intro i hs t m hi hh
  by_cases hlt : i < xs.length
  · obtain ⟨g, hg, T', hT⟩ := hw.1.id hlt
    simp only at hg hT
    subst hg hT
    have hk := wr1 (i := i) (by omega)
    have hk2 : IntKind.i64.wrap (k + i + 1) = k + i + 1 := wrap64_of (by omega) (by omega)
    simp [dInts, dSl, hlt, hk, hk2, cI]
    refine back (i + 1) (by omega) (by omega) rfl (by simp) ?_ (by simp)
    have e1 : (List.map cI (mkAt mkI wtI xs k i)).set i [D.int IntKind.i64 (k + ↑i)] = List.map cI (mkAt mkI wtI xs k (i + 1)) := by
      rw [mkAt_succ hlt, ← set_map, show sumW wtI (List.take i xs) = _ from sumW_one (fun _ => rfl) _]
      simp [cI, mkI, Nat.min_eq_left hi]
    have e2 := re_oneSet (g := g) (T := T') (es := List.map cI (mkAt mkI wtI xs k i)) (i := i) (e' := [D.int IntKind.i64 (k + ↑i)]) (fun e he => by
      rw [List.getElem?_map] at he
      simp [hlt] at he
      rw [← he]; rfl)
    rw [e1] at e2
    simp [e1, e2]
    omega
  · have hn : i = xs.length := by omega
    subst hn
    simp [dInts, dSl, vendX]
    refine ⟨[0], fun γ hs' h1 h2 => ?_⟩
    simp [mkS, mkAt_all]

theorem w_laws_markIntSS (a : Sl Ints) (k : Int) (h0 : 1 ≤ k) (h1 : k + wtS (wtS wtI) a ≤ 4611686018427387904) (hw : whS (whS whI) a) (hl : okS (okS okI) a) (hnd : (dRows a).ids.Nodup) :
   VX Try.prog 65 (dRows a).ids [.d (dRows a), .d (.int .i64 k)] none (fun _ r _ ws => r = .d (.int .i64 (k + wtS (wtS wtI) a)) ∧ ws = [dRows (mkS (mkS mkI wtI) (wtS wtI) a k)]) := by
  refine VX.of E s65 (by kernel_rfl) Try.func65 (by rfl) (by kernel_rfl) (by simp [Try.f65]) (by simp [Try.f65]) s65_ok (fun g hg => .inl (by simpa using hg)) (fun cs h => nomatch h) fun B hB => ?_
  obtain ⟨id, T, xs⟩ := a
  have hl1 := hl.1
  simp only [maxLen] at hl1
  have hwt : wtS (wtS wtI) (⟨id, T, xs⟩ : Sl Ints) = sumW (wtS wtI) xs := rfl
  rw [hwt] at h1 ⊢
  simp [Try.f65]
  refine loop_rule (X := Nat) (fun i => i ≤ xs.length) (fun i => [(0, .d (dSl (cS cI) ⟨id, T, mkAt (mkS mkI wtI) (wtS wtI) xs k i⟩)), (1, .d (.int .i64 (k + sumW (wtS wtI) (xs.take i)))), (5, .d (.int .i64 i))]) (fun _ => []) (fun i => xs.length - i) 0 (by simp) (by simp) (by simp) ?_
  intro i hs t m hi hh
  by_cases hlt : i < xs.length
  · have hk := wr1 (i := i) (by omega)
    have e1 := sumW_succ (wtS wtI) hlt
    have e2 := sumW_le (wtS wtI) xs (i + 1)
    have hmem : xs[i] ∈ xs := List.getElem_mem _
    simp [dSl, hlt, cS]
    refine call_x (E44) (by simp [dSl]) (by simp) (by simp) (fun g hg => .inr ?_) (w_laws_markIntS xs[i] (k + sumW (wtS wtI) (xs.take i)) (by omega) (by omega) (hw.2 _ hmem) (hl.2 _ hmem) (by have := elem_nd (sl_nd hnd).1 hlt; rwa [idsL_cS] at this)) fun n hs' r cs' ws hn hn' hp hr hws => ?_
    · exact elem_ids (s := ⟨id, T, xs⟩) (c := cS cI) (i := i) hlt (by simpa [cS, idsL] using hg)
    obtain ⟨rfl, rfl⟩ := hp
    simp at hn
    have hnd' : (dSl (cS cI) (⟨id, T, mkAt (mkS mkI wtI) (wtS wtI) xs k i⟩ : Sl Ints)).ids.Nodup := by
      have : (dSl (cS cI) (⟨id, T, mkAt (mkS mkI wtI) (wtS wtI) xs k i⟩ : Sl Ints)).ids = (dRows ⟨id, T, xs⟩).ids := by
        simp only [dSl, D.ids]; rw [ids_mkAt (marksS marksI).ids]
      rw [this]; exact hnd
    have e3 := re_elem (c := cS cI) (s := ⟨id, T, mkAt (mkS mkI wtI) (wtS wtI) xs k i⟩) (i := i) (a' := mkS mkI wtI xs[i] (k + sumW (wtS wtI) (xs.take i))) (W := (dInts xs[i]).ids) (ws := [dInts (mkS mkI wtI xs[i] (k + sumW (wtS wtI) (xs.take i)))]) hnd' (by simpa using hlt)
      (fun g hg => by simpa [cS, idsL] using hg) (by simp only [mkAt_get]; exact reL_one (re_root (by simp [cI]) (hw.2 _ hmem).1 (by simp) (fun g hg => mem_slids hg) []))
    simp [dSl, cS, hk] at e3 ⊢
    refine back (i + 1) (by omega) (by omega) rfl (by simp <;> omega) ?_ (by simp)
    simp [e3, mkAt_succ hlt, e1]
    exact ⟨rfl, by omega⟩
  · have hn : i = xs.length := by omega
    subst hn
    simp [dSl, vendX]
    refine ⟨[0], fun γ hs' h1 h2 => ?_⟩
    simp [mkS, mkAt_all]

end Go.Proofs.Ytjfehcpompohcaa

namespace Go.Proofs.Ytjfehcpompohcaa
open Go.Vs Go.Proofs Go
set_option maxRecDepth 100000
set_option maxHeartbeats 1000000

theorem w_laws_markStringS (a : Sl (List UInt8)) (k : Int) (h0 : 1 ≤ k) (h1 : k + wtS wtStr a ≤ 4611686018427387904) (hw : whS whStr a) (hl : okS okStr a) (hnd : (dSl cStr a).ids.Nodup) :
   VX Try.prog 27 (dSl cStr a).ids [.d (dSl cStr a), .d (.int .i64 k)] none (fun _ r _ ws => r = .d (.int .i64 (k + wtS wtStr a)) ∧ ws = [dSl cStr (mkS (mkStr) (wtStr) a k)]) := by
  refine VX.of E s27 (by kernel_rfl) Try.func27 (by rfl) (by kernel_rfl) (by simp [Try.f27]) (by simp [Try.f27]) s27_ok ?_ ?_ fun B hB => ?_
  · exact fun g hg => .inl (by simpa using hg)
  · exact fun cs h => nomatch h
  obtain ⟨id, T, xs⟩ := a
  have hl1 := hl.1
  simp only [maxLen] at hl1
  have hwt : wtS wtStr (⟨id, T, xs⟩ : Sl (List UInt8)) = sumW wtStr xs := rfl
  rw [hwt] at h1 ⊢
  simp [Try.f27]
  refine loop_rule (X := Nat) (fun i => i ≤ xs.length) (fun i => [(0, .d (dSl cStr ⟨id, T, mkAt mkStr wtStr xs k i⟩)), (1, .d (.int .i64 (k + sumW wtStr (xs.take i)))), (5, .d (.int .i64 i))]) (fun _ => []) (fun i => xs.length - i) 0 (by simp) (by simp) (by simp) ?_
  intro i hs t m hi hh
  by_cases hlt : i < xs.length
  · have hwi := wr1 (i := i) (by omega)
    have e1 := sumW_succ wtStr hlt
    have e2 := sumW_le wtStr xs (i + 1)
    have hmem : xs[i] ∈ xs := List.getElem_mem _
    have hwx : wtStr xs[i] = 1 := rfl
    obtain ⟨g, hg, T', hT⟩ := hw.1.id hlt
    simp only at hg hT
    subst hg hT
    have hnd2 := sl_nd hnd
    have hnn : g ∉ idsLL ((mkAt mkStr wtStr xs k i).map cStr) := by rw [ids_mkAt marksStr.ids]; exact hnd2.2 g rfl
    have hni : g ∉ idsL (cStr xs[i]) := fun hin => hnd2.2 g rfl (idsLL_map_mem.2 ⟨_, hmem, hin⟩)
    have hne := elem_nd hnd2.1 hlt
    have hni0 := hni
    have hne0 := hne
    have hap : ∀ W : List Nat, (∀ q ∈ W, q ∈ idsL (cStr xs[i])) → ∀ ws (j : Nat) (e : List D), j ≠ i → ((mkAt mkStr wtStr xs k i).map cStr)[j]? = some e → ∀ q ∈ idsL e, phi W ws q = none := by
      intro W hW ws
      exact nd_mapD (by rw [ids_mkAt marksStr.ids]; exact hnd2.1) (i := i) (by simpa using hlt) (by simpa using hW) ws
    simp [dSl, hlt, cS]
    have hk0 : IntKind.i64.wrap (k + sumW wtStr (xs.take i) + 1) = k + sumW wtStr (xs.take i) + 1 := wrap64_of (by omega) (by omega)
    refine call_pure (w_laws_markText _ (by omega) (by omega)) rfl (by simp) rfl fun hs0 hh0 => ?_
    simp at hh0
    simp [dSl, hlt, cStr, hnn, nin_set hnn, idsL, D.ids, hni, hk0, hwi]
    refine back (i + 1) (by omega) (by omega) rfl (by simp <;> omega) ?_ (by simp)
    simp [mkAt_succ hlt, e1, cStr, dSl]
    exact ⟨rfl, by omega⟩
  · have hn : i = xs.length := by omega
    subst hn
    simp [dSl, vendX]
    refine ⟨[0], fun γ hs' h1 h2 => ?_⟩
    simp [mkS, mkAt_all]
theorem simT_Reln {a : Reln} (hw : whReln a) (k : Int) : Sim (cReln a) (cReln (mkTReln a k)) := (Sim.leaf (by simp [D.ids]) Sim.nil).app (sim_mk (marksS marksI) hw.2 (k))
theorem w_laws_markRelation (a : Reln) (k : Int) (h0 : 1 ≤ k) (h1 : k + wtTReln a ≤ 4611686018427387904) (hw : whReln a) (hl : okReln a) (hnd : (idsL (cReln a)).Nodup) :
   VX Try.prog 34 (idsL (cReln a)) [.agg ((cReln a).map V.d), .d (.int .i64 k)] none (fun _ r _ ws => r = .d (.int .i64 (k + wtTReln a)) ∧ ws = cReln (mkTReln a k)) := by
  refine VX.of E s34 (by kernel_rfl) Try.func34 (by rfl) (by kernel_rfl) (by simp [Try.f34]) (by simp [Try.f34]) s34_ok ?_ ?_ fun B hB => ?_
  · exact fun g hg => .inl (by simpa [idsVL, V.ids, idsVL_map_d] using hg)
  · exact fun cs h => nomatch h
  have hwt : wtTReln a = wtS (wtS wtI) a.rows := rfl
  have hnd0 := hnd
  simp only [cReln, idsL_app] at hnd0
  have nd0 : (idsL (cI a.ar)).Nodup := nd_left (hnd0)
  have nd1 : (idsL (cS (cS cI) a.rows)).Nodup := nd_right (hnd0)
  have dj0_1 : ∀ g ∈ idsL (cI a.ar), g ∉ idsL (cS (cS cI) a.rows) := fun g hg => nd_disj (hnd0) g (hg)
  simp [Try.f34, cI, cReln, cS]
  refine call_x (E65) (by simp) (by simp) (by simp) (fun q hq => .inr ?_) (w_laws_markIntSS a.rows (k) (by omega) (by omega) (hw.2) (hl.2) (by rw [← idsL_cS]; exact nd1)) fun n0 hs0 r cs' ws hn0 hm0 hp hr hws => ?_
  · simp only [idsL_app, idsL, List.append_nil, List.nil_append, List.append_assoc, List.mem_append, cI, cReln, cS] at hq ⊢
    first | (simp [hq]; done) | (simp [D.ids] at hq ⊢; grind)
  obtain ⟨rfl, rfl⟩ := hp
  simp at hn0
  have hre0 : reL (phi ((dSl (cS cI) a.rows).ids) [dSl (cS cI) (mkS (mkS (mkI) (wtI)) (wtS wtI) a.rows (k))]) (cS (cS cI) a.rows) = some (cS (cS cI) (mkS (mkS (mkI) (wtI)) (wtS wtI) a.rows (k))) := by
    have := re_sim (sim_mk (marksS marksI) hw.2 (k)) ((marksS (marksS marksI)).ids _ _) nd1
    rw [idsL_cS] at this
    exact this
  replace hre0 := reVL_map hre0
  simp only [cI, cReln, cS, List.cons_append, List.nil_append, List.map_cons, List.map_nil, reVL_cons, reVL_nil, List.cons.injEq, and_true, reV_int, reV_str, true_and] at hre0
  simp [hre0, cI, cReln, cS]
  simp [vendX]
  refine ⟨[0], fun γ hs' h1 h2 => ?_⟩
  simp [isD, dD, hwt, mkTReln, cI, cReln, cS, reD]
  try omega
theorem w_laws_markDeltaS (a : Sl (Delta)) (k : Int) (h0 : 1 ≤ k) (h1 : k + wtS wtDelta a ≤ 4611686018427387904) (hw : whS whDelta a) (hl : okS okDelta a) (hnd : (dSl cDelta a).ids.Nodup) :
   VX Try.prog 26 (dSl cDelta a).ids [.d (dSl cDelta a), .d (.int .i64 k)] none (fun _ r _ ws => r = .d (.int .i64 (k + wtS wtDelta a)) ∧ ws = [dSl cDelta (mkS (mkDelta) (wtDelta) a k)]) := by
  refine VX.of E s26 (by kernel_rfl) Try.func26 (by rfl) (by kernel_rfl) (by simp [Try.f26]) (by simp [Try.f26]) s26_ok ?_ ?_ fun B hB => ?_
  · exact fun g hg => .inl (by simpa using hg)
  · exact fun cs h => nomatch h
  obtain ⟨id, T, xs⟩ := a
  have hl1 := hl.1
  simp only [maxLen] at hl1
  have hwt : wtS wtDelta (⟨id, T, xs⟩ : Sl (Delta)) = sumW wtDelta xs := rfl
  rw [hwt] at h1 ⊢
  simp [Try.f26]
  refine loop_rule (X := Nat) (fun i => i ≤ xs.length) (fun i => [(0, .d (dSl cDelta ⟨id, T, mkAt mkDelta wtDelta xs k i⟩)), (1, .d (.int .i64 (k + sumW wtDelta (xs.take i)))), (5, .d (.int .i64 i))]) (fun _ => []) (fun i => xs.length - i) 0 (by simp) (by simp) (by simp) ?_
  intro i hs t m hi hh
  by_cases hlt : i < xs.length
  · have hwi := wr1 (i := i) (by omega)
    have e1 := sumW_succ wtDelta hlt
    have e2 := sumW_le wtDelta xs (i + 1)
    have hmem : xs[i] ∈ xs := List.getElem_mem _
    have hwx : wtDelta xs[i] = 1 + 1 + wtS (wtS wtI) xs[i].ins.rows + 1 + wtS (wtS wtI) xs[i].del.rows := by simp only [wtDelta, wtI, wtReln, wtStr] <;> omega
    obtain ⟨g, hg, T', hT⟩ := hw.1.id hlt
    simp only at hg hT
    subst hg hT
    have hnd2 := sl_nd hnd
    have hnn : g ∉ idsLL ((mkAt mkDelta wtDelta xs k i).map cDelta) := by rw [ids_mkAt marksDelta.ids]; exact hnd2.2 g rfl
    have hni : g ∉ idsL (cDelta xs[i]) := fun hin => hnd2.2 g rfl (idsLL_map_mem.2 ⟨_, hmem, hin⟩)
    have hne := elem_nd hnd2.1 hlt
    have hni0 := hni
    have hne0 := hne
    have hap : ∀ W : List Nat, (∀ q ∈ W, q ∈ idsL (cDelta xs[i])) → ∀ ws (j : Nat) (e : List D), j ≠ i → ((mkAt mkDelta wtDelta xs k i).map cDelta)[j]? = some e → ∀ q ∈ idsL e, phi W ws q = none := by
      intro W hW ws
      exact nd_mapD (by rw [ids_mkAt marksDelta.ids]; exact hnd2.1) (i := i) (by simpa using hlt) (by simpa using hW) ws
    simp only [cDelta, cI, cReln, cS, cStr, idsL_app, idsL, D.ids, dSl, List.append_nil, List.nil_append, List.cons_append, List.mem_append, not_or, List.append_assoc] at hni hne
    simp [dSl, hlt]
    have hk0 : IntKind.i64.wrap (k + sumW wtDelta (xs.take i) + 1) = k + sumW wtDelta (xs.take i) + 1 := wrap64_of (by omega) (by omega)
    refine call_pure (w_laws_markText _ (by omega) (by omega)) rfl (by simp) rfl fun hs0 hh0 => ?_
    simp at hh0
    simp [dSl, hlt, cDelta, cI, cReln, cS, cStr, hnn, nin_set hnn, idsL, D.ids, hni, hk0, hwi, ids_mk (wt := (wtS wtI)) (marksS marksI).ids]
    have hk1 : IntKind.i64.wrap (k + sumW wtDelta (xs.take i) + 1 + 1) = k + sumW wtDelta (xs.take i) + 1 + 1 := wrap64_of (by omega) (by omega)
    simp [dSl, hlt, cDelta, cI, cReln, cS, cStr, hnn, nin_set hnn, idsL, D.ids, hni, hk1, hwi, ids_mk (wt := (wtS wtI)) (marksS marksI).ids]
    have hx2 : dSl (cS cI) xs[i].ins.rows ∈ cDelta xs[i] := by simp [cDelta, cI, cReln, cS, cStr]
    refine call_x (E65) (by simp [dSl]) (by simp) (by simp) (fun q hq => .inr ?_) (w_laws_markIntSS xs[i].ins.rows (k + sumW wtDelta (xs.take i) + 1 + 1) (by omega) (by omega) ((hw.2 _ hmem).2.1.2) ((hl.2 _ hmem).2.1.2) (nd_mem hne0 hx2)) fun n2 hs2 r cs' ws hn2 hm2 hp hr hws => ?_
    · exact elem_ids (s := ⟨some g, some T', xs⟩) (c := cDelta) (i := i) hlt (mem_idsL hx2 hq)
    obtain ⟨rfl, rfl⟩ := hp
    simp at hn2
    have hre2 : reL (phi (dSl (cS cI) xs[i].ins.rows).ids [dSl (cS cI) (mkS (mkS (mkI) (wtI)) (wtS wtI) xs[i].ins.rows (k + sumW wtDelta (xs.take i) + 1 + 1))]) [D.str (mtext (k + sumW wtDelta (xs.take i))), D.int .i64 (k + sumW wtDelta (xs.take i) + 1), dSl (cS cI) xs[i].ins.rows, D.int .i64 xs[i].del.ar, dSl (cS cI) xs[i].del.rows] = some [D.str (mtext (k + sumW wtDelta (xs.take i))), D.int .i64 (k + sumW wtDelta (xs.take i) + 1), dSl (cS cI) (mkS (mkS (mkI) (wtI)) (wtS wtI) xs[i].ins.rows (k + sumW wtDelta (xs.take i) + 1 + 1)), D.int .i64 xs[i].del.ar, dSl (cS cI) xs[i].del.rows] := reL_cons_iff.2 ⟨rfl, reL_cons_iff.2 ⟨rfl, reL_cons_iff.2 ⟨re_root (marksS marksI).len ((hw.2 _ hmem).2.1.2).1 (by simp) (fun g hg => mem_slids hg) [], reL_cons_iff.2 ⟨rfl, reL_cons_iff.2 ⟨reD_id _ (fun g hg => phi_out fun hin => by exact nd_pair hne0 (by simp [cDelta, cI, cReln, cS, cStr] : (cDelta xs[i])[2]? = some _) (by simp [cDelta, cI, cReln, cS, cStr] : (cDelta xs[i])[4]? = some _) (by omega) g hin hg), rfl⟩⟩⟩⟩⟩
    have hse2 := re_elemD (g := g) (T := some T') (es := (mkAt mkDelta wtDelta xs k i).map cDelta) (phi_out (W := (dSl (cS cI) xs[i].ins.rows).ids) (ws := [dSl (cS cI) (mkS (mkS (mkI) (wtI)) (wtS wtI) xs[i].ins.rows (k + sumW wtDelta (xs.take i) + 1 + 1))]) (g := g) (fun h => hni0 (mem_idsL hx2 h))) hre2 (hap _ (fun q hq => mem_idsL hx2 hq) _)
    simp [dSl, cDelta, cI, cReln, cS, cStr, mkS] at hse2 ⊢
    simp [hse2, hlt, hnn, nin_set hnn, idsL, D.ids, hni, hwi, mkS, ids_mk (wt := (wtS wtI)) (marksS marksI).ids]
    have hk3 : IntKind.i64.wrap (k + sumW wtDelta (xs.take i) + 1 + 1 + wtS (wtS wtI) xs[i].ins.rows + 1) = k + sumW wtDelta (xs.take i) + 1 + 1 + wtS (wtS wtI) xs[i].ins.rows + 1 := wrap64_of (by omega) (by omega)
    simp [dSl, hlt, cDelta, cI, cReln, cS, cStr, hnn, nin_set hnn, idsL, D.ids, hni, hk3, hwi, ids_mk (wt := (wtS wtI)) (marksS marksI).ids]
    have hx4 : dSl (cS cI) xs[i].del.rows ∈ cDelta xs[i] := by simp [cDelta, cI, cReln, cS, cStr]
    refine call_x (E65) (by simp [dSl]) (by simp) (by simp) (fun q hq => .inr ?_) (w_laws_markIntSS xs[i].del.rows (k + sumW wtDelta (xs.take i) + 1 + 1 + wtS (wtS wtI) xs[i].ins.rows + 1) (by omega) (by omega) ((hw.2 _ hmem).2.2.2) ((hl.2 _ hmem).2.2.2) (nd_mem hne0 hx4)) fun n4 hs4 r cs' ws hn4 hm4 hp hr hws => ?_
    · exact elem_ids (s := ⟨some g, some T', xs⟩) (c := cDelta) (i := i) hlt (mem_idsL hx4 hq)
    obtain ⟨rfl, rfl⟩ := hp
    simp at hn4
    have hre4 : reL (phi (dSl (cS cI) xs[i].del.rows).ids [dSl (cS cI) (mkS (mkS (mkI) (wtI)) (wtS wtI) xs[i].del.rows (k + sumW wtDelta (xs.take i) + 1 + 1 + wtS (wtS wtI) xs[i].ins.rows + 1))]) [D.str (mtext (k + sumW wtDelta (xs.take i))), D.int .i64 (k + sumW wtDelta (xs.take i) + 1), dSl (cS cI) (mkS (mkS (mkI) (wtI)) (wtS wtI) xs[i].ins.rows (k + sumW wtDelta (xs.take i) + 1 + 1)), D.int .i64 (k + sumW wtDelta (xs.take i) + 1 + 1 + wtS (wtS wtI) xs[i].ins.rows), dSl (cS cI) xs[i].del.rows] = some [D.str (mtext (k + sumW wtDelta (xs.take i))), D.int .i64 (k + sumW wtDelta (xs.take i) + 1), dSl (cS cI) (mkS (mkS (mkI) (wtI)) (wtS wtI) xs[i].ins.rows (k + sumW wtDelta (xs.take i) + 1 + 1)), D.int .i64 (k + sumW wtDelta (xs.take i) + 1 + 1 + wtS (wtS wtI) xs[i].ins.rows), dSl (cS cI) (mkS (mkS (mkI) (wtI)) (wtS wtI) xs[i].del.rows (k + sumW wtDelta (xs.take i) + 1 + 1 + wtS (wtS wtI) xs[i].ins.rows + 1))] := reL_cons_iff.2 ⟨rfl, reL_cons_iff.2 ⟨rfl, reL_cons_iff.2 ⟨reD_id _ (fun g hg => phi_out fun hin => by rw [ids_mkS (marksS marksI)] at hg; exact nd_pair hne0 (by simp [cDelta, cI, cReln, cS, cStr] : (cDelta xs[i])[2]? = some _) (by simp [cDelta, cI, cReln, cS, cStr] : (cDelta xs[i])[4]? = some _) (by omega) g hg hin), reL_cons_iff.2 ⟨rfl, reL_cons_iff.2 ⟨re_root (marksS marksI).len ((hw.2 _ hmem).2.2.2).1 (by simp) (fun g hg => mem_slids hg) [], rfl⟩⟩⟩⟩⟩
    have hse4 := re_elemD (g := g) (T := some T') (es := (mkAt mkDelta wtDelta xs k i).map cDelta) (phi_out (W := (dSl (cS cI) xs[i].del.rows).ids) (ws := [dSl (cS cI) (mkS (mkS (mkI) (wtI)) (wtS wtI) xs[i].del.rows (k + sumW wtDelta (xs.take i) + 1 + 1 + wtS (wtS wtI) xs[i].ins.rows + 1))]) (g := g) (fun h => hni0 (mem_idsL hx4 h))) hre4 (hap _ (fun q hq => mem_idsL hx4 hq) _)
    simp [dSl, cDelta, cI, cReln, cS, cStr, mkS] at hse4 ⊢
    simp [hse4, hlt, hnn, nin_set hnn, idsL, D.ids, hni, hwi, mkS, ids_mk (wt := (wtS wtI)) (marksS marksI).ids]
    refine back (i + 1) (by omega) (by omega) rfl (by simp <;> omega) ?_ (by simp)
    simp [mkAt_succ hlt, e1, cDelta, cI, cReln, cS, cStr, dSl]
    first
    | exact ⟨rfl, by omega⟩
    | (refine ⟨?_, by omega⟩; simp [mkDelta, mkI, mkReln, mkStr, wtDelta, wtI, wtReln, wtStr, mkS, Int.add_assoc, show ∀ x : Int, 1 + (1 + x) = 2 + x from fun x => by omega])
  · have hn : i = xs.length := by omega
    subst hn
    simp [dSl, vendX]
    refine ⟨[0], fun γ hs' h1 h2 => ?_⟩
    simp [mkS, mkAt_all]
theorem simT_Cnt {a : Cnt} (hw : whCnt a) (k : Int) : Sim (cCnt a) (cCnt (mkTCnt a k)) := ((Sim.leaf (by simp [D.ids]) Sim.nil).app (sim_mk (marksS marksI) hw.2.1 (k))).app (sim_mk marksI hw.2.2 (k + wtS (wtS wtI) a.rows))
theorem w_laws_markCountedRelation (a : Cnt) (k : Int) (h0 : 1 ≤ k) (h1 : k + wtTCnt a ≤ 4611686018427387904) (hw : whCnt a) (hl : okCnt a) (hnd : (idsL (cCnt a)).Nodup) :
   VX Try.prog 35 (idsL (cCnt a)) [.agg ((cCnt a).map V.d), .d (.int .i64 k)] none (fun _ r _ ws => r = .d (.int .i64 (k + wtTCnt a)) ∧ ws = cCnt (mkTCnt a k)) := by
  refine VX.of E s35 (by kernel_rfl) Try.func35 (by rfl) (by kernel_rfl) (by simp [Try.f35]) (by simp [Try.f35]) s35_ok ?_ ?_ fun B hB => ?_
  · exact fun g hg => .inl (by simpa [idsVL, V.ids, idsVL_map_d] using hg)
  · exact fun cs h => nomatch h
  have hwt : wtTCnt a = wtS (wtS wtI) a.rows + wtS wtI a.cs := rfl
  have hnd0 := hnd
  simp only [cCnt, idsL_app] at hnd0
  have nd0 : (idsL (cI a.ar)).Nodup := nd_left (nd_left (hnd0))
  have nd1 : (idsL (cS (cS cI) a.rows)).Nodup := nd_right (nd_left (hnd0))
  have nd2 : (idsL (cS cI a.cs)).Nodup := nd_right (hnd0)
  have dj0_1 : ∀ g ∈ idsL (cI a.ar), g ∉ idsL (cS (cS cI) a.rows) := fun g hg => nd_disj (nd_left (hnd0)) g (hg)
  have dj0_2 : ∀ g ∈ idsL (cI a.ar), g ∉ idsL (cS cI a.cs) := fun g hg => nd_disj (hnd0) g (List.mem_append_left _ (hg))
  have dj1_2 : ∀ g ∈ idsL (cS (cS cI) a.rows), g ∉ idsL (cS cI a.cs) := fun g hg => nd_disj (hnd0) g (List.mem_append_right _ hg)
  simp [Try.f35, cCnt, cI, cS]
  refine call_x (E65) (by simp) (by simp) (by simp) (fun q hq => .inr ?_) (w_laws_markIntSS a.rows (k) (by omega) (by omega) (hw.2.1) (hl.2.1) (by rw [← idsL_cS]; exact nd1)) fun n0 hs0 r cs' ws hn0 hm0 hp hr hws => ?_
  · simp only [idsL_app, idsL, List.append_nil, List.nil_append, List.append_assoc, List.mem_append, cCnt, cI, cS] at hq ⊢
    first | (simp [hq]; done) | (simp [D.ids] at hq ⊢; grind)
  obtain ⟨rfl, rfl⟩ := hp
  simp at hn0
  have hre0 : reL (phi ((dSl (cS cI) a.rows).ids) [dSl (cS cI) (mkS (mkS (mkI) (wtI)) (wtS wtI) a.rows (k))]) (cS (cS cI) a.rows) = some (cS (cS cI) (mkS (mkS (mkI) (wtI)) (wtS wtI) a.rows (k))) := by
    have := re_sim (sim_mk (marksS marksI) hw.2.1 (k)) ((marksS (marksS marksI)).ids _ _) nd1
    rw [idsL_cS] at this
    exact this
  have ho0_2 : reL (phi ((dSl (cS cI) a.rows).ids) [dSl (cS cI) (mkS (mkS (mkI) (wtI)) (wtS wtI) a.rows (k))]) (cS cI a.cs) = some (cS cI a.cs) := re_same fun g hg => by
    rw [← idsL_cS] at hg
    skip
    exact dj1_2 g hg
  replace hre0 := reVL_map hre0
  replace ho0_2 := reVL_map ho0_2
  simp only [cCnt, cI, cS, List.cons_append, List.nil_append, List.map_cons, List.map_nil, reVL_cons, reVL_nil, List.cons.injEq, and_true, reV_int, reV_str, true_and] at hre0 ho0_2
  simp [hre0, ho0_2, cCnt, cI, cS]
  refine call_x (E44) (by simp) (by simp) (by simp) (fun q hq => .inr ?_) (w_laws_markIntS a.cs (k + wtS (wtS wtI) a.rows) (by omega) (by omega) (hw.2.2) (hl.2.2) (by rw [← idsL_cS]; exact nd2)) fun n1 hs1 r cs' ws hn1 hm1 hp hr hws => ?_
  · simp only [idsL_app, idsL, List.append_nil, List.nil_append, List.append_assoc, List.mem_append, cCnt, cI, cS] at hq ⊢
    first | (simp [hq]; done) | (simp [D.ids] at hq ⊢; grind)
  obtain ⟨rfl, rfl⟩ := hp
  simp at hn1
  have hre1 : reL (phi ((dSl cI a.cs).ids) [dSl cI (mkS (mkI) (wtI) a.cs (k + wtS (wtS wtI) a.rows))]) (cS cI a.cs) = some (cS cI (mkS (mkI) (wtI) a.cs (k + wtS (wtS wtI) a.rows))) := by
    have := re_sim (sim_mk marksI hw.2.2 (k + wtS (wtS wtI) a.rows)) ((marksS marksI).ids _ _) nd2
    rw [idsL_cS] at this
    exact this
  have ho1_1 : reL (phi ((dSl cI a.cs).ids) [dSl cI (mkS (mkI) (wtI) a.cs (k + wtS (wtS wtI) a.rows))]) (cS (cS cI) (mkS (mkS (mkI) (wtI)) (wtS wtI) a.rows (k))) = some (cS (cS cI) (mkS (mkS (mkI) (wtI)) (wtS wtI) a.rows (k))) := re_same fun g hg => by
    rw [← idsL_cS] at hg
    rw [(marksS (marksS marksI)).ids]
    exact (fun h => dj1_2 g h hg)
  replace hre1 := reVL_map hre1
  replace ho1_1 := reVL_map ho1_1
  simp only [cCnt, cI, cS, List.cons_append, List.nil_append, List.map_cons, List.map_nil, reVL_cons, reVL_nil, List.cons.injEq, and_true, reV_int, reV_str, true_and] at hre1 ho1_1
  simp [hre1, ho1_1, cCnt, cI, cS]
  simp [vendX]
  refine ⟨[0], fun γ hs' h1 h2 => ?_⟩
  simp [isD, dD, hwt, mkTCnt, cCnt, cI, cS, reD]
  try omega
theorem w_laws_markAtomS (a : Sl (Atom)) (k : Int) (h0 : 1 ≤ k) (h1 : k + wtS wtAtom a ≤ 4611686018427387904) (hw : whS whAtom a) (hl : okS okAtom a) (hnd : (dSl cAtom a).ids.Nodup) :
   VX Try.prog 91 (dSl cAtom a).ids [.d (dSl cAtom a), .d (.int .i64 k)] none (fun _ r _ ws => r = .d (.int .i64 (k + wtS wtAtom a)) ∧ ws = [dSl cAtom (mkS (mkAtom) (wtAtom) a k)]) := by
  refine VX.of E s91 (by kernel_rfl) Try.func91 (by rfl) (by kernel_rfl) (by simp [Try.f91]) (by simp [Try.f91]) s91_ok ?_ ?_ fun B hB => ?_
  · exact fun g hg => .inl (by simpa using hg)
  · exact fun cs h => nomatch h
  obtain ⟨id, T, xs⟩ := a
  have hl1 := hl.1
  simp only [maxLen] at hl1
  have hwt : wtS wtAtom (⟨id, T, xs⟩ : Sl (Atom)) = sumW wtAtom xs := rfl
  rw [hwt] at h1 ⊢
  simp [Try.f91]
  refine loop_rule (X := Nat) (fun i => i ≤ xs.length) (fun i => [(0, .d (dSl cAtom ⟨id, T, mkAt mkAtom wtAtom xs k i⟩)), (1, .d (.int .i64 (k + sumW wtAtom (xs.take i)))), (5, .d (.int .i64 i))]) (fun _ => []) (fun i => xs.length - i) 0 (by simp) (by simp) (by simp) ?_
  intro i hs t m hi hh
  by_cases hlt : i < xs.length
  · have hwi := wr1 (i := i) (by omega)
    have e1 := sumW_succ wtAtom hlt
    have e2 := sumW_le wtAtom xs (i + 1)
    have hmem : xs[i] ∈ xs := List.getElem_mem _
    have hwx : wtAtom xs[i] = 1 + wtS wtI xs[i].vars := by simp only [wtAtom, wtStr] <;> omega
    obtain ⟨g, hg, T', hT⟩ := hw.1.id hlt
    simp only at hg hT
    subst hg hT
    have hnd2 := sl_nd hnd
    have hnn : g ∉ idsLL ((mkAt mkAtom wtAtom xs k i).map cAtom) := by rw [ids_mkAt marksAtom.ids]; exact hnd2.2 g rfl
    have hni : g ∉ idsL (cAtom xs[i]) := fun hin => hnd2.2 g rfl (idsLL_map_mem.2 ⟨_, hmem, hin⟩)
    have hne := elem_nd hnd2.1 hlt
    have hni0 := hni
    have hne0 := hne
    have hap : ∀ W : List Nat, (∀ q ∈ W, q ∈ idsL (cAtom xs[i])) → ∀ ws (j : Nat) (e : List D), j ≠ i → ((mkAt mkAtom wtAtom xs k i).map cAtom)[j]? = some e → ∀ q ∈ idsL e, phi W ws q = none := by
      intro W hW ws
      exact nd_mapD (by rw [ids_mkAt marksAtom.ids]; exact hnd2.1) (i := i) (by simpa using hlt) (by simpa using hW) ws
    simp only [cAtom, cS, cStr, idsL_app, idsL, D.ids, dSl, List.append_nil, List.nil_append, List.cons_append, List.mem_append, not_or, List.append_assoc] at hni hne
    simp [dSl, hlt]
    have hk0 : IntKind.i64.wrap (k + sumW wtAtom (xs.take i) + 1) = k + sumW wtAtom (xs.take i) + 1 := wrap64_of (by omega) (by omega)
    refine call_pure (w_laws_markText _ (by omega) (by omega)) rfl (by simp) rfl fun hs0 hh0 => ?_
    simp at hh0
    simp [dSl, hlt, cAtom, cS, cStr, hnn, nin_set hnn, idsL, D.ids, hni, hk0, hwi, ids_mk (wt := wtI) marksI.ids]
    have hx1 : dSl cI xs[i].vars ∈ cAtom xs[i] := by simp [cAtom, cS, cStr]
    refine call_x (E44) (by simp [dSl]) (by simp) (by simp) (fun q hq => .inr ?_) (w_laws_markIntS xs[i].vars (k + sumW wtAtom (xs.take i) + 1) (by omega) (by omega) ((hw.2 _ hmem).2) ((hl.2 _ hmem).2) (nd_mem hne0 hx1)) fun n1 hs1 r cs' ws hn1 hm1 hp hr hws => ?_
    · exact elem_ids (s := ⟨some g, some T', xs⟩) (c := cAtom) (i := i) hlt (mem_idsL hx1 hq)
    obtain ⟨rfl, rfl⟩ := hp
    simp at hn1
    have hre1 : reL (phi (dSl cI xs[i].vars).ids [dSl cI (mkS (mkI) (wtI) xs[i].vars (k + sumW wtAtom (xs.take i) + 1))]) [D.str (mtext (k + sumW wtAtom (xs.take i))), dSl cI xs[i].vars] = some [D.str (mtext (k + sumW wtAtom (xs.take i))), dSl cI (mkS (mkI) (wtI) xs[i].vars (k + sumW wtAtom (xs.take i) + 1))] := reL_cons_iff.2 ⟨rfl, reL_cons_iff.2 ⟨re_root marksI.len ((hw.2 _ hmem).2).1 (by simp) (fun g hg => mem_slids hg) [], rfl⟩⟩
    have hse1 := re_elemD (g := g) (T := some T') (es := (mkAt mkAtom wtAtom xs k i).map cAtom) (phi_out (W := (dSl cI xs[i].vars).ids) (ws := [dSl cI (mkS (mkI) (wtI) xs[i].vars (k + sumW wtAtom (xs.take i) + 1))]) (g := g) (fun h => hni0 (mem_idsL hx1 h))) hre1 (hap _ (fun q hq => mem_idsL hx1 hq) _)
    simp [dSl, cAtom, cS, cStr, mkS] at hse1 ⊢
    simp [hse1, hlt, hnn, nin_set hnn, idsL, D.ids, hni, hwi, mkS, ids_mk (wt := wtI) marksI.ids]
    refine back (i + 1) (by omega) (by omega) rfl (by simp <;> omega) ?_ (by simp)
    simp [mkAt_succ hlt, e1, cAtom, cS, cStr, dSl]
    first
    | exact ⟨rfl, by omega⟩
    | (refine ⟨?_, by omega⟩; simp [mkAtom, mkStr, wtAtom, wtStr, mkS, Int.add_assoc, show ∀ x : Int, 1 + (1 + x) = 2 + x from fun x => by omega])
  · have hn : i = xs.length := by omega
    subst hn
    simp [dSl, vendX]
    refine ⟨[0], fun γ hs' h1 h2 => ?_⟩
    simp [mkS, mkAt_all]
theorem simT_Query {a : Query} (hw : whQuery a) (k : Int) : Sim (cQuery a) (cQuery (mkTQuery a k)) := ((Sim.leaf (by simp [D.ids]) Sim.nil).app (sim_mk marksAtom hw.2.1 (k))).app (sim_mk marksI hw.2.2 (k + wtS wtAtom a.atoms))
theorem w_laws_markQuery (a : Query) (k : Int) (h0 : 1 ≤ k) (h1 : k + wtTQuery a ≤ 4611686018427387904) (hw : whQuery a) (hl : okQuery a) (hnd : (idsL (cQuery a)).Nodup) :
   VX Try.prog 81 (idsL (cQuery a)) [.agg ((cQuery a).map V.d), .d (.int .i64 k)] none (fun _ r _ ws => r = .d (.int .i64 (k + wtTQuery a)) ∧ ws = cQuery (mkTQuery a k)) := by
  refine VX.of E s81 (by kernel_rfl) Try.func81 (by rfl) (by kernel_rfl) (by simp [Try.f81]) (by simp [Try.f81]) s81_ok ?_ ?_ fun B hB => ?_
  · exact fun g hg => .inl (by simpa [idsVL, V.ids, idsVL_map_d] using hg)
  · exact fun cs h => nomatch h
  have hwt : wtTQuery a = wtS wtAtom a.atoms + wtS wtI a.out := rfl
  have hnd0 := hnd
  simp only [cQuery, idsL_app] at hnd0
  have nd0 : (idsL (cI a.n)).Nodup := nd_left (nd_left (hnd0))
  have nd1 : (idsL (cS cAtom a.atoms)).Nodup := nd_right (nd_left (hnd0))
  have nd2 : (idsL (cS cI a.out)).Nodup := nd_right (hnd0)
  have dj0_1 : ∀ g ∈ idsL (cI a.n), g ∉ idsL (cS cAtom a.atoms) := fun g hg => nd_disj (nd_left (hnd0)) g (hg)
  have dj0_2 : ∀ g ∈ idsL (cI a.n), g ∉ idsL (cS cI a.out) := fun g hg => nd_disj (hnd0) g (List.mem_append_left _ (hg))
  have dj1_2 : ∀ g ∈ idsL (cS cAtom a.atoms), g ∉ idsL (cS cI a.out) := fun g hg => nd_disj (hnd0) g (List.mem_append_right _ hg)
  simp [Try.f81, cI, cQuery, cS]
  refine call_x (E91) (by simp) (by simp) (by simp) (fun q hq => .inr ?_) (w_laws_markAtomS a.atoms (k) (by omega) (by omega) (hw.2.1) (hl.2.1) (by rw [← idsL_cS]; exact nd1)) fun n0 hs0 r cs' ws hn0 hm0 hp hr hws => ?_
  · simp only [idsL_app, idsL, List.append_nil, List.nil_append, List.append_assoc, List.mem_append, cI, cQuery, cS] at hq ⊢
    first | (simp [hq]; done) | (simp [D.ids] at hq ⊢; grind)
  obtain ⟨rfl, rfl⟩ := hp
  simp at hn0
  have hre0 : reL (phi ((dSl cAtom a.atoms).ids) [dSl cAtom (mkS (mkAtom) (wtAtom) a.atoms (k))]) (cS cAtom a.atoms) = some (cS cAtom (mkS (mkAtom) (wtAtom) a.atoms (k))) := by
    have := re_sim (sim_mk marksAtom hw.2.1 (k)) ((marksS marksAtom).ids _ _) nd1
    rw [idsL_cS] at this
    exact this
  have ho0_2 : reL (phi ((dSl cAtom a.atoms).ids) [dSl cAtom (mkS (mkAtom) (wtAtom) a.atoms (k))]) (cS cI a.out) = some (cS cI a.out) := re_same fun g hg => by
    rw [← idsL_cS] at hg
    skip
    exact dj1_2 g hg
  replace hre0 := reVL_map hre0
  replace ho0_2 := reVL_map ho0_2
  simp only [cI, cQuery, cS, List.cons_append, List.nil_append, List.map_cons, List.map_nil, reVL_cons, reVL_nil, List.cons.injEq, and_true, reV_int, reV_str, true_and] at hre0 ho0_2
  simp [hre0, ho0_2, cI, cQuery, cS]
  refine call_x (E44) (by simp) (by simp) (by simp) (fun q hq => .inr ?_) (w_laws_markIntS a.out (k + wtS wtAtom a.atoms) (by omega) (by omega) (hw.2.2) (hl.2.2) (by rw [← idsL_cS]; exact nd2)) fun n1 hs1 r cs' ws hn1 hm1 hp hr hws => ?_
  · simp only [idsL_app, idsL, List.append_nil, List.nil_append, List.append_assoc, List.mem_append, cI, cQuery, cS] at hq ⊢
    first | (simp [hq]; done) | (simp [D.ids] at hq ⊢; grind)
  obtain ⟨rfl, rfl⟩ := hp
  simp at hn1
  have hre1 : reL (phi ((dSl cI a.out).ids) [dSl cI (mkS (mkI) (wtI) a.out (k + wtS wtAtom a.atoms))]) (cS cI a.out) = some (cS cI (mkS (mkI) (wtI) a.out (k + wtS wtAtom a.atoms))) := by
    have := re_sim (sim_mk marksI hw.2.2 (k + wtS wtAtom a.atoms)) ((marksS marksI).ids _ _) nd2
    rw [idsL_cS] at this
    exact this
  have ho1_1 : reL (phi ((dSl cI a.out).ids) [dSl cI (mkS (mkI) (wtI) a.out (k + wtS wtAtom a.atoms))]) (cS cAtom (mkS (mkAtom) (wtAtom) a.atoms (k))) = some (cS cAtom (mkS (mkAtom) (wtAtom) a.atoms (k))) := re_same fun g hg => by
    rw [← idsL_cS] at hg
    rw [(marksS marksAtom).ids]
    exact (fun h => dj1_2 g h hg)
  replace hre1 := reVL_map hre1
  replace ho1_1 := reVL_map ho1_1
  simp only [cI, cQuery, cS, List.cons_append, List.nil_append, List.map_cons, List.map_nil, reVL_cons, reVL_nil, List.cons.injEq, and_true, reV_int, reV_str, true_and] at hre1 ho1_1
  simp [hre1, ho1_1, cI, cQuery, cS]
  simp [vendX]
  refine ⟨[0], fun γ hs' h1 h2 => ?_⟩
  simp [isD, dD, hwt, mkTQuery, cI, cQuery, cS, reD]
  try omega
theorem simT_View {a : View} (hw : whView a) (k : Int) : Sim (cView a) (cView (mkTView a k)) := (simT_Query hw.1 (k)).app (simT_Cnt hw.2 (k + wtTQuery a.q))
theorem w_laws_markView (a : View) (k : Int) (h0 : 1 ≤ k) (h1 : k + wtTView a ≤ 4611686018427387904) (hw : whView a) (hl : okView a) (hnd : (idsL (cView a)).Nodup) :
   VX Try.prog 50 (idsL (cView a)) [.agg ((cView a).map V.d), .d (.int .i64 k)] none (fun _ r _ ws => r = .d (.int .i64 (k + wtTView a)) ∧ ws = cView (mkTView a k)) := by
  refine VX.of E s50 (by kernel_rfl) Try.func50 (by rfl) (by kernel_rfl) (by simp [Try.f50]) (by simp [Try.f50]) s50_ok ?_ ?_ fun B hB => ?_
  · exact fun g hg => .inl (by simpa [idsVL, V.ids, idsVL_map_d] using hg)
  · exact fun cs h => nomatch h
  have hwt : wtTView a = wtTQuery a.q + wtTCnt a.r := rfl
  have hnd0 := hnd
  simp only [cView, idsL_app] at hnd0
  have nd0 : (idsL (cQuery a.q)).Nodup := nd_left (hnd0)
  have nd1 : (idsL (cCnt a.r)).Nodup := nd_right (hnd0)
  have dj0_1 : ∀ g ∈ idsL (cQuery a.q), g ∉ idsL (cCnt a.r) := fun g hg => nd_disj (hnd0) g (hg)
  simp [Try.f50, cCnt, cI, cQuery, cS, cView]
  refine call_x (E81) (by simp) (by simp) (by simp) (fun q hq => .inr ?_) (w_laws_markQuery a.q (k) (by omega) (by omega) (hw.1) (hl.1) nd0) fun n0 hs0 r cs' ws hn0 hm0 hp hr hws => ?_
  · simp only [idsL_app, idsL, List.append_nil, List.nil_append, List.append_assoc, List.mem_append, cCnt, cI, cQuery, cS, cView] at hq ⊢
    first | (simp [hq]; done) | (simp [D.ids] at hq ⊢; grind)
  obtain ⟨rfl, rfl⟩ := hp
  simp at hn0
  have hre0 : reL (phi (idsL (cQuery a.q)) (cQuery (mkTQuery a.q (k)))) (cQuery a.q) = some (cQuery (mkTQuery a.q (k))) := re_sim (simT_Query hw.1 (k)) (marksTQuery.ids _ _) nd0
  have ho0_1 : reL (phi (idsL (cQuery a.q)) (cQuery (mkTQuery a.q (k)))) (cCnt a.r) = some (cCnt a.r) := re_same fun g hg => by
    skip
    skip
    exact dj0_1 g hg
  replace hre0 := reVL_map hre0
  replace ho0_1 := reVL_map ho0_1
  simp only [cCnt, cI, cQuery, cS, cView, List.cons_append, List.nil_append, List.map_cons, List.map_nil, reVL_cons, reVL_nil, List.cons.injEq, and_true, reV_int, reV_str, true_and, mkTCnt, mkTQuery] at hre0 ho0_1
  simp [hre0, ho0_1, cCnt, cI, cQuery, cS, cView, mkTCnt, mkTQuery]
  refine call_x (E35) (by simp) (by simp) (by simp) (fun q hq => .inr ?_) (w_laws_markCountedRelation a.r (k + wtTQuery a.q) (by omega) (by omega) (hw.2) (hl.2) nd1) fun n1 hs1 r cs' ws hn1 hm1 hp hr hws => ?_
  · simp only [idsL_app, idsL, List.append_nil, List.nil_append, List.append_assoc, List.mem_append, cCnt, cI, cQuery, cS, cView] at hq ⊢
    first | (simp [hq]; done) | (simp [D.ids] at hq ⊢; grind)
  obtain ⟨rfl, rfl⟩ := hp
  simp at hn1
  have hre1 : reL (phi (idsL (cCnt a.r)) (cCnt (mkTCnt a.r (k + wtTQuery a.q)))) (cCnt a.r) = some (cCnt (mkTCnt a.r (k + wtTQuery a.q))) := re_sim (simT_Cnt hw.2 (k + wtTQuery a.q)) (marksTCnt.ids _ _) nd1
  have ho1_0 : reL (phi (idsL (cCnt a.r)) (cCnt (mkTCnt a.r (k + wtTQuery a.q)))) (cQuery (mkTQuery a.q (k))) = some (cQuery (mkTQuery a.q (k))) := re_same fun g hg => by
    skip
    rw [marksTQuery.ids]
    exact (fun h => dj0_1 g h hg)
  replace hre1 := reVL_map hre1
  replace ho1_0 := reVL_map ho1_0
  simp only [cCnt, cI, cQuery, cS, cView, List.cons_append, List.nil_append, List.map_cons, List.map_nil, reVL_cons, reVL_nil, List.cons.injEq, and_true, reV_int, reV_str, true_and, mkTCnt, mkTQuery] at hre1 ho1_0
  simp [hre1, ho1_0, cCnt, cI, cQuery, cS, cView, mkTCnt, mkTQuery]
  simp [vendX]
  refine ⟨[0], fun γ hs' h1 h2 => ?_⟩
  simp [isD, dD, hwt, mkTView, mkTCnt, mkTQuery, cCnt, cI, cQuery, cS, cView, reD]
  try omega

end Go.Proofs.Ytjfehcpompohcaa

namespace Go.Proofs.Ytjfehcpompohcaa
open Go.Vs Go.Proofs Go
set_option maxRecDepth 100000
set_option maxHeartbeats 1000000

attribute [simp] plI_id plStr_id map_plI map_plStr pS cP cI cStr cU8 cB
theorem w_impl_within (n lo hi : Int) : VC Try.prog 57 [.d (.int .i64 n), .d (.int .i64 lo), .d (.int .i64 hi)] (fun _ r => r = .d (.bool (inR n lo hi))) := by
  refine VC.ofL EP s57 (by kernel_rfl) Try.func57 (by rfl) (by kernel_rfl) (by simp [Try.f57]) (by simp [Try.f57]) s57_ok fun B hl => ?_
  by_cases h : lo ≤ n
  · simp [Try.f57, inR, h]
  · simp [Try.f57, inR, h]
theorem w_spec_l1In (n lo hi : Int) : VC Try.prog 54 [.d (.int .i64 n), .d (.int .i64 lo), .d (.int .i64 hi)] (fun _ r => r = .d (.bool (inR n lo hi))) := by
  refine VC.ofL EP s54 (by kernel_rfl) Try.func54 (by rfl) (by kernel_rfl) (by simp [Try.f54]) (by simp [Try.f54]) s54_ok fun B hl => ?_
  by_cases h : lo ≤ n
  · simp [Try.f54, inR, h]
  · simp [Try.f54, inR, h]
theorem w_impl_AreValidValues (xs : List Int) : VC Try.prog 84 [.d (pS cI xs)] (fun _ r => r = .d (.bool (valsOk xs))) := by
  refine VC.ofL EP s84 (by kernel_rfl) Try.func84 (by rfl) (by kernel_rfl) (by simp [Try.f84]) (by simp [Try.f84]) s84_ok fun B hl => ?_
  simp [pS, maxLen] at hl
  simp [Try.f84, pS]
  refine loop_rule (X := Nat) (fun i => i ≤ xs.length ∧ (xs.take i).all (fun v => inR v 0 99) = true) (fun i => [(5, .d (.pl (xs.map cI))), (6, .d (.int .i64 xs.length)), (7, .d (.int .i64 i))]) (fun _ => []) (fun i => xs.length - i) 0 (by simp) (by simp) (by simp) ?_
  intro i hs t m hi hh
  by_cases hlt : i < xs.length
  · have hwi := wr1 (i := i) (by omega)
    have hst := all_step (p := fun v => inR v 0 99) hlt
    rw [hi.2, Bool.true_and] at hst
    have hbad : inR xs[i] 0 99 = false → valsOk xs = false := all_bad (p := fun v => inR v 0 99) hlt
    simp [hlt, cI]
    refine call_f (w_impl_within xs[i] 0 99) (by simp) rfl fun hs1 hh1 => ?_
    cases hc : inR xs[i] 0 99
    · simp [hbad hc]
    · simp [hwi]
      simp at hh1
      exact back (i + 1) ⟨by omega, List.all_eq_true.1 (hst.trans hc)⟩ (by omega) rfl (by simp <;> omega) (by simp) (by simp)
  · have hd : valsOk xs = true := all_done (by omega) hi.2
    simp [hlt, hd]

end Go.Proofs.Ytjfehcpompohcaa

namespace Go.Proofs.Ytjfehcpompohcaa
open Go.Vs Go.Proofs Go
set_option maxRecDepth 100000
set_option maxHeartbeats 1000000

theorem w_spec_AreValidValues (xs : List Int) : VC Try.prog 82 [.d (pS cI xs)] (fun _ r => r = .d (.bool (valsOk xs))) := by
  refine VC.ofL EP s82 (by kernel_rfl) Try.func82 (by rfl) (by kernel_rfl) (by simp [Try.f82]) (by simp [Try.f82]) s82_ok fun B hl => ?_
  simp [pS, maxLen] at hl
  simp [Try.f82, pS]
  refine loop_rule (X := Nat) (fun i => i ≤ xs.length ∧ (xs.take i).all (fun v => inR v 0 99) = true) (fun i => [(0, .d (.pl (xs.map cI))), (3, .d (.int .i64 i))]) (fun _ => []) (fun i => xs.length - i) 0 (by simp) (by simp) (by simp) ?_
  intro i hs t m hi hh
  by_cases hlt : i < xs.length
  · have hwi := wr1 (i := i) (by omega)
    have hst := all_step (p := fun v => inR v 0 99) hlt
    rw [hi.2, Bool.true_and] at hst
    have hbad : inR xs[i] 0 99 = false → valsOk xs = false := all_bad (p := fun v => inR v 0 99) hlt
    simp [hlt, cI]
    refine call_f (w_spec_l1In xs[i] 0 99) (by simp) rfl fun hs1 hh1 => ?_
    simp at hh1
    cases hc : inR xs[i] 0 99
    · simp [hbad hc]
    · simp [hwi]
      exact back (i + 1) ⟨by omega, List.all_eq_true.1 (hst.trans hc)⟩ (by omega) rfl (by simp <;> omega) (by simp) (by simp)
  · have hd : valsOk xs = true := all_done (by omega) hi.2
    simp [hlt, hd]
theorem w_spec_CompareRows (a b : List Int) : VC Try.prog 83 [.d (pS cI a), .d (pS cI b)] (fun _ r => r = .d (.int .i64 (cmpL a b))) := by
  refine VC.ofL EP s83 (by kernel_rfl) Try.func83 (by rfl) (by kernel_rfl) (by simp [Try.f83]) (by simp [Try.f83]) s83_ok fun B hl => ?_
  simp [pS, maxLen, cI] at hl
  simp [Try.f83, s83_4, s83_6, pS]
  refine loop_rule (X := Nat) (fun i => i ≤ a.length ∧ i ≤ b.length ∧ cmpL a b = cmpL (a.drop i) (b.drop i)) (fun i => [(0, .d (.pl (a.map cI))), (1, .d (.pl (b.map cI))), (5, .d (.int .i64 i))]) (fun _ => []) (fun i => a.length - i) 0 (by simp) (by simp) (by simp) ?_
  intro i hs t m hi hh
  by_cases hlt : i < a.length
  · by_cases hlb : i < b.length
    · have hwi := wr1 (i := i) (by omega)
      have hc := cmpL_drop hlt hlb
      rw [← hi.2.2] at hc
      by_cases h1 : a[i] < b[i]
      · simp [cI, s83_4, s83_6, hlt, hlb, h1, hc]
      · by_cases h2 : b[i] < a[i]
        · simp [cI, s83_4, s83_6, hlt, hlb, h1, h2, hc]
        · simp only [h1, h2, if_false] at hc
          simp [cI, s83_4, s83_6, hlt, hlb, h1, h2, hwi]
          exact back (i + 1) ⟨by omega, by omega, hc⟩ (by omega) rfl (by simp) (by simp) (by simp)
    · have he := cmpL_end hi.1 hi.2.1 (by omega)
      rw [← hi.2.2] at he
      by_cases h1 : a.length < b.length
      · simp [hlt, hlb, h1, he]
      · by_cases h2 : b.length < a.length <;> simp [hlt, hlb, h1, h2, he]
  · have he := cmpL_end hi.1 hi.2.1 (by omega)
    rw [← hi.2.2] at he
    by_cases h1 : a.length < b.length
    · simp [hlt, h1, he]
    · by_cases h2 : b.length < a.length <;> simp [hlt, h1, h2, he]
theorem w_impl_compareInts (x y : Int) : VC Try.prog 92 [.d (.int .i64 x), .d (.int .i64 y)] (fun _ r => r = .d (.int .i64 (if x < y then -1 else if y < x then 1 else 0))) := by
  refine VC.ofL EP s92 (by kernel_rfl) Try.func92 (by rfl) (by kernel_rfl) (by simp [Try.f92]) (by simp [Try.f92]) s92_ok fun B hl => ?_
  by_cases h1 : x < y
  · simp [Try.f92, h1]
  · by_cases h2 : y < x <;> simp [Try.f92, h1, h2]
theorem w_impl_CompareRows (a b : List Int) : VC Try.prog 85 [.d (pS cI a), .d (pS cI b)] (fun _ r => r = .d (.int .i64 (cmpL a b))) := by
  refine VC.ofL EP s85 (by kernel_rfl) Try.func85 (by rfl) (by kernel_rfl) (by simp [Try.f85]) (by simp [Try.f85]) s85_ok fun B hl => ?_
  simp [pS, maxLen, cI] at hl
  simp [Try.f85, s85_4, s85_5, pS]
  refine loop_rule (X := Nat) (fun i => i ≤ a.length ∧ i ≤ b.length ∧ cmpL a b = cmpL (a.drop i) (b.drop i)) (fun i => [(0, .d (.pl (a.map cI))), (1, .d (.pl (b.map cI))), (5, .d (.int .i64 i))]) (fun _ => []) (fun i => a.length - i) 0 (by simp) (by simp) (by simp) ?_
  intro i hs t m hi hh
  by_cases hlt : i < a.length ∧ i < b.length
  · obtain ⟨hlt, hlb⟩ := hlt
    have hwi := wr1 (i := i) (by omega)
    have hc := cmpL_drop hlt hlb
    rw [← hi.2.2] at hc
    by_cases he : a[i] = b[i]
    · rw [if_neg (by omega), if_neg (by omega)] at hc
      simp [cI, s85_4, s85_5, hlt, hlb, hwi, he]
      exact back (i + 1) ⟨by omega, by omega, hc⟩ (by omega) rfl (by simp) (by simp) (by simp)
    · simp [cI, s85_4, s85_5, hlt, hlb, hwi, he]
      refine call_f (w_impl_compareInts a[i] b[i]) (by simp) rfl fun hs1 hh1 => ?_
      have : (if a[i] < b[i] then (-1 : Int) else if b[i] < a[i] then 1 else 0) = cmpL a b := by rw [hc]; by_cases h1 : a[i] < b[i] <;> simp [h1]; omega
      simp [this]
  · have he := cmpL_end hi.1 hi.2.1 hlt
    rw [← hi.2.2] at he
    have hcm : (if (a.length : Int) < b.length then (-1 : Int) else if (b.length : Int) < a.length then 1 else 0) = cmpL a b := by rw [he]; simp
    by_cases hl1 : i < a.length
    · have hl2 : ¬ i < b.length := fun h => hlt ⟨hl1, h⟩
      simp [hl1, hl2]
      refine call_f (w_impl_compareInts a.length b.length) (by simp) rfl fun hs1 hh1 => ?_
      simp only [hcm]
      simp
    · simp [hl1]
      refine call_f (w_impl_compareInts a.length b.length) (by simp) rfl fun hs1 hh1 => ?_
      simp only [hcm]
      simp

end Go.Proofs.Ytjfehcpompohcaa

namespace Go.Proofs.Ytjfehcpompohcaa
open Go.Vs Go.Proofs Go
set_option maxRecDepth 100000
set_option maxHeartbeats 1000000

theorem w_impl_rowsValid (ar : Int) (l : List (List Int)) : VC Try.prog 56 [.d (.int .i64 ar), .d (pS (cP cI) l)] (fun _ r => r = .d (.bool (rowsOk ar l))) := by
  refine VC.ofL EP s56 (by kernel_rfl) Try.func56 (by rfl) (by kernel_rfl) (by simp [Try.f56]) (by simp [Try.f56]) s56_ok fun B hl => ?_
  simp [pS, cP, cI, maxLen] at hl
  simp [Try.f56, pS]
  refine call_f (w_impl_within ar 0 5) (by simp) rfl fun hs0 hh0 => ?_
  simp at hh0
  cases h1 : inR ar 0 5
  · simp [rowsOk, h1]
  by_cases h2 : (4000 : Int) < l.length
  · simp [rowsOk, h2, show ¬ l.length ≤ 4000 by omega]
  have h2' : l.length ≤ 4000 := by omega
  simp [h2]
  refine loop_rule (X := Nat) (fun i => i ≤ l.length ∧ ∀ j, j < i → rowOk ar l j = true) (fun i => [(0, .d (.int .i64 ar)), (1, .d (.pl (l.map (cP cI)))), (15, .d (.pl (l.map (cP cI)))), (16, .d (.int .i64 l.length)), (17, .d (.int .i64 i))]) (fun _ => []) (fun i => l.length - i) 0 (by simp) (by simp) (by simp) ?_
  intro i hs t m hi hh
  by_cases hlt : i < l.length
  · have hwi := wr1 (i := i) (by omega)
    have hr : rowOk ar l i = (decide ((l[i].length : Int) = ar) && valsOk l[i] && (i == 0 || decide (cmpL (l.getD (i - 1) []) l[i] < 0))) := by simp [rowOk, hlt]
    have hbad := fun h => rows_bad (ar := ar) hlt h
    have step : rowOk ar l i = true → ∀ j, j < i + 1 → rowOk ar l j = true := fun h j hj => by
      rcases Nat.lt_succ_iff_lt_or_eq.1 hj with h' | h'
      · exact hi.2 j h'
      · rw [h']; exact h
    by_cases c1 : (l[i].length : Int) = ar
    case neg => simp [hlt, cP, pS, c1, hbad (by rw [hr]; simp [c1])]
    simp [hlt, cP, pS, c1]
    refine call_f (w_impl_AreValidValues l[i]) (by simp [pS]) rfl fun hs1 hh1 => ?_
    simp at hh1
    cases c2 : valsOk l[i]
    · simp [hbad (by rw [hr]; simp [c2])]
    by_cases c3 : i = 0
    · subst c3
      simp [hwi, show IntKind.i64.wrap 1 = 1 by decide]
      exact back 1 ⟨by omega, step (by rw [hr]; simp [c1, c2])⟩ (by omega) rfl (by simp <;> omega) (by simp [cP, pS, show IntKind.i64.wrap 1 = 1 by decide]) (by simp)
    · have hw1 : IntKind.i64.wrap ((i : Int) - 1) = ((i - 1 : Nat) : Int) := by rw [wrap64_of (by omega) (by omega)]; omega
      have hip : (0 : Int) < i := by omega
      have hlt1 : i - 1 < l.length := by omega
      have hg1 : l.getD (i - 1) [] = l[i - 1] := by simp [hlt1]
      rw [hg1] at hr
      simp [hip, hw1, hlt1, cP, pS, c3, show 0 < i by omega]
      refine call_f (w_impl_CompareRows l[i - 1] l[i]) (by simp [pS]) rfl fun hs2 hh2 => ?_
      simp at hh2
      by_cases c4 : cmpL l[i - 1] l[i] < 0
      · simp [hwi, show ¬ 0 ≤ cmpL l[i - 1] l[i] by omega]
        exact back (i + 1) ⟨by omega, step (by rw [hr]; simp [c1, c2, c4])⟩ (by omega) rfl (by simp <;> omega) (by simp [cP, pS]) (by simp)
      · simp [show 0 ≤ cmpL l[i - 1] l[i] by omega, hbad (by rw [hr]; simp [c3, c4])]
  · have hn : i = l.length := by omega
    have hd := rows_done h1 h2' (hn ▸ hi.2)
    simp [hlt, hd]
theorem w_impl_IsValidRelation (r : PReln) : VC Try.prog 67 [.agg ((eReln r).map .d)] (fun _ v => v = .d (.bool (rowsOk r.ar r.rows))) := by
  refine VC.ofL EP s67 (by kernel_rfl) Try.func67 (by rfl) (by kernel_rfl) (by simp [Try.f67]) (by simp [Try.f67]) s67_ok fun B hl => ?_
  simp [Try.f67, eReln, cI, cP]
  refine call_f (w_impl_rowsValid r.ar r.rows) (by simp [pS, cP]) rfl fun hs0 hh0 => ?_
  simp
theorem w_spec_IsValidRelation (r : PReln) : VC Try.prog 53 [.agg ((eReln r).map .d)] (fun _ v => v = .d (.bool (rowsOk r.ar r.rows))) := by
  obtain ⟨ar, l⟩ := r
  refine VC.ofL EP s53 (by kernel_rfl) Try.func53 (by rfl) (by kernel_rfl) (by simp [Try.f53]) (by simp [Try.f53]) s53_ok fun B hl => ?_
  simp [eReln, pS, cP, cI, maxLen] at hl
  simp [Try.f53, s53_6, eReln, cI, cP, pS]
  refine call_f (w_spec_l1In ar 0 5) (by simp) rfl fun hs0 hh0 => ?_
  simp at hh0
  cases h1 : inR ar 0 5
  · simp [rowsOk, h1]
  by_cases h2 : (4000 : Int) < l.length
  · simp [rowsOk, h2, show ¬ l.length ≤ 4000 by omega]
  have h2' : l.length ≤ 4000 := by omega
  simp [h2]
  refine loop_rule (X := Nat) (fun i => i ≤ l.length ∧ ∀ j, j < i → rowOk ar l j = true) (fun i => [(1, .ptr 1 0 0), (3, .d (.int .i64 i))]) (fun _ => [(1, some (.box [.d (.int .i64 ar), .d (.pl (l.map fun xs => [.pl (xs.map cI)]))]))]) (fun i => l.length - i) 0 (by simp) (by simp) (by simp [cI, cP, pS]) ?_
  intro i hs t m hi hh
  by_cases hlt : i < l.length
  · have hwi := wr1 (i := i) (by omega)
    have hr : rowOk ar l i = (decide ((l[i].length : Int) = ar) && valsOk l[i] && (i == 0 || decide (cmpL (l.getD (i - 1) []) l[i] < 0))) := by simp [rowOk, hlt]
    have hbad := fun h => rows_bad (ar := ar) hlt h
    have step : rowOk ar l i = true → ∀ j, j < i + 1 → rowOk ar l j = true := fun h j hj => by
      rcases Nat.lt_succ_iff_lt_or_eq.1 hj with h' | h'
      · exact hi.2 j h'
      · rw [h']; exact h
    by_cases c1 : (l[i].length : Int) = ar
    case neg => simp [hlt, s53_6, c1, hbad (by rw [hr]; simp [c1])]
    simp [hlt, s53_6, c1]
    refine call_f (w_spec_AreValidValues l[i]) (by simp [pS]) rfl fun hs1 hh1 => ?_
    simp at hh1
    cases c2 : valsOk l[i]
    · simp [hbad (by rw [hr]; simp [c2])]
    by_cases c3 : i = 0
    · subst c3
      simp [hwi, show IntKind.i64.wrap 1 = 1 by decide]
      exact back 1 ⟨by omega, step (by rw [hr]; simp [c1, c2])⟩ (by omega) rfl (by simp <;> omega) (by simp [show IntKind.i64.wrap 1 = 1 by decide]) (by simp)
    · have hw1 : IntKind.i64.wrap ((i : Int) - 1) = ((i - 1 : Nat) : Int) := by rw [wrap64_of (by omega) (by omega)]; omega
      have hip : (0 : Int) < i := by omega
      have hlt1 : i - 1 < l.length := by omega
      have hg1 : l.getD (i - 1) [] = l[i - 1] := by simp [hlt1]
      rw [hg1] at hr
      simp [hip, hw1, hlt1, hlt, c3, show 0 < i by omega]
      refine call_f (w_spec_CompareRows l[i - 1] l[i]) (by simp [pS]) rfl fun hs2 hh2 => ?_
      simp at hh2
      by_cases c4 : cmpL l[i - 1] l[i] < 0
      · simp [hwi, show ¬ 0 ≤ cmpL l[i - 1] l[i] by omega]
        exact back (i + 1) ⟨by omega, step (by rw [hr]; simp [c1, c2, c4])⟩ (by omega) rfl (by simp <;> omega) (by simp) (by simp)
      · simp [show 0 ≤ cmpL l[i - 1] l[i] by omega, hbad (by rw [hr]; simp [c3, c4])]
  · have hn : i = l.length := by omega
    have hd := rows_done h1 h2' (hn ▸ hi.2)
    simp [hlt, hd]

end Go.Proofs.Ytjfehcpompohcaa

namespace Go.Proofs.Ytjfehcpompohcaa
open Go.Vs Go.Proofs Go
set_option maxRecDepth 100000
set_option maxHeartbeats 1000000

theorem w_impl_place (l : List (List Int)) (row : List Int) (hb : l.length ≤ 4294967296) : VC Try.prog 60 [.d (pS (cP cI) l), .d (pS cI row)] (fun _ v => v = .tup [.d (.int .i64 (placeK l row)), .d (.bool (placeB l row))]) := by
  refine VC.ofL EP s60 (by kernel_rfl) Try.func60 (by rfl) (by kernel_rfl) (by simp [Try.f60]) (by simp [Try.f60]) s60_ok fun B hl => ?_
  simp [pS, cP, cI, maxLen] at hl
  simp [Try.f60, pS]
  refine loop_rule (X := Nat × Nat) (fun p => p.1 ≤ p.2 ∧ p.2 ≤ l.length ∧ bs l row p.1 p.2 = placeK l row) (fun p => [(0, .d (.pl (l.map (cP cI)))), (1, .d (.pl (row.map cI))), (6, .d (.int .i64 p.1)), (7, .d (.int .i64 p.2))]) (fun _ => []) (fun p => p.2 - p.1) (0, l.length) (by simp; rfl) (by simp) (by simp) ?_
  rintro ⟨lo, hi⟩ hs t m ⟨h1, h2, h3⟩ hh
  simp only at h1 h2 h3
  by_cases hlt : lo < hi
  · rw [bs_lt hlt] at h3
    have hm := mid64 (a := lo) (b := hi) (by omega) (by omega)
    have hml : (lo + hi) / 2 < l.length := by omega
    have hk1 : lo ≤ (lo + hi) / 2 ∧ (lo + hi) / 2 < hi := by omega
    generalize (lo + hi) / 2 = k at *
    have hg : l.getD k [] = l[k] := by simp [hml]
    simp [hlt, hm, hml, cP, pS]
    refine call_f (w_impl_CompareRows l[k] row) (by simp [pS]) rfl fun hs1 hh1 => ?_
    simp at hh1
    rw [hg] at h3
    by_cases hc : cmpL l[k] row < 0
    · rw [if_pos hc] at h3
      have hw := wr1 (i := k) (by omega)
      simp [hc, hw]
      exact back (k + 1, hi) ⟨by simp; omega, h2, h3⟩ (by simp; omega) rfl (by simp <;> omega) (by simp [cP, pS]) (by simp)
    · rw [if_neg hc] at h3
      simp [hc]
      exact back (lo, k) ⟨by simp; omega, by simp; omega, h3⟩ (by simp; omega) rfl (by simp <;> omega) (by simp [cP, pS]) (by simp)
  · rw [bs_ge hlt] at h3
    subst h3
    by_cases hk : placeK l row < l.length
    · simp [hlt, hk, cP, pS]
      refine call_f (w_impl_CompareRows l[placeK l row] row) (by simp [pS]) rfl fun hs1 hh1 => ?_
      simp [placeB, hk]
    · simp [hlt, hk, placeB]
theorem w_spec_l5Place (r : PReln) (row : List Int) (hb : r.rows.length ≤ 4294967296) : VC Try.prog 59 [.agg ((eReln r).map .d), .d (pS cI row)] (fun _ v => v = .tup [.d (.int .i64 (placeK r.rows row)), .d (.bool (placeB r.rows row))]) := by
  obtain ⟨ar, l⟩ := r
  simp only at hb ⊢
  refine VC.ofL EP s59 (by kernel_rfl) Try.func59 (by rfl) (by kernel_rfl) (by simp [Try.f59]) (by simp [Try.f59]) s59_ok fun B hl => ?_
  simp [eReln, pS, cP, cI, maxLen] at hl
  simp [Try.f59, eReln, cI, cP, pS]
  refine loop_rule (X := Nat × Nat) (fun p => p.1 ≤ p.2 ∧ p.2 ≤ l.length ∧ bs l row p.1 p.2 = placeK l row) (fun p => [(2, .ptr 2 0 0), (1, .d (.pl (row.map cI))), (6, .d (.int .i64 p.1)), (7, .d (.int .i64 p.2))]) (fun _ => [(2, some (.box [.d (.int .i64 ar), .d (.pl (l.map (cP cI)))]))]) (fun p => p.2 - p.1) (0, l.length) (by simp; rfl) (by simp [cI]) (by simp [cP, pS, cI]) ?_
  rintro ⟨lo, hi⟩ hs t m ⟨h1, h2, h3⟩ hh
  simp only at h1 h2 h3
  by_cases hlt : lo < hi
  · rw [bs_lt hlt] at h3
    have hm := mid64 (a := lo) (b := hi) (by omega) (by omega)
    have hml : (lo + hi) / 2 < l.length := by omega
    have hk1 : lo ≤ (lo + hi) / 2 ∧ (lo + hi) / 2 < hi := by omega
    generalize (lo + hi) / 2 = k at *
    have hg : l.getD k [] = l[k] := by simp [hml]
    simp [hlt, hm, hml, cP, pS]
    refine call_f (w_spec_CompareRows l[k] row) (by simp [pS]) rfl fun hs1 hh1 => ?_
    simp at hh1
    rw [hg] at h3
    by_cases hc : cmpL l[k] row < 0
    · rw [if_pos hc] at h3
      have hw := wr1 (i := k) (by omega)
      simp [hc, hw]
      exact back (k + 1, hi) ⟨by simp; omega, h2, h3⟩ (by simp; omega) rfl (by simp <;> omega) (by simp [cP, pS]) (by simp [cP, pS])
    · rw [if_neg hc] at h3
      simp [hc]
      exact back (lo, k) ⟨by simp; omega, by simp; omega, h3⟩ (by simp; omega) rfl (by simp <;> omega) (by simp [cP, pS]) (by simp [cP, pS])
  · rw [bs_ge hlt] at h3
    subst h3
    by_cases hk : placeK l row < l.length
    · simp [hlt, hk, cP, pS]
      refine call_f (w_spec_CompareRows l[placeK l row] row) (by simp [pS]) rfl fun hs1 hh1 => ?_
      simp [placeB, hk]
    · simp [hlt, hk, placeB]
theorem w_impl_IsValidCounted (c : PCnt) : VC Try.prog 14 [.agg ((eCnt c).map .d)] (fun _ v => v = .d (.bool (cntsOk c))) := by
  obtain ⟨ar, l, cs⟩ := c
  refine VC.ofL EP s14 (by kernel_rfl) Try.func14 (by rfl) (by kernel_rfl) (by simp [Try.f14]) (by simp [Try.f14]) s14_ok fun B hl => ?_
  simp [eCnt, pS, cP, cI, maxLen] at hl
  simp [Try.f14, eCnt, cI, cP, pS]
  refine call_f (w_impl_rowsValid ar l) (by simp [pS, cP, cI]) rfl fun hs0 hh0 => ?_
  simp at hh0
  cases h1 : rowsOk ar l
  · simp [cntsOk, h1]
  by_cases h2 : cs.length = l.length
  case neg => simp [h2, cntsOk, show ¬ l.length = cs.length by omega]
  simp [h2]
  refine loop_rule (X := Nat) (fun i => i ≤ cs.length ∧ (cs.take i).all cntOk = true) (fun i => [(21, .d (.pl (cs.map cI))), (22, .d (.int .i64 cs.length)), (23, .d (.int .i64 i))]) (fun _ => []) (fun i => cs.length - i) 0 (by simp) (by simp [cI, h2]) (by simp) ?_
  intro i hs t m hi hh
  by_cases hlt : i < cs.length
  · have hwi := wr1 (i := i) (by omega)
    have hst := all_step (p := cntOk) hlt
    rw [hi.2, Bool.true_and] at hst
    have hbad : cntOk cs[i] = false → cntsOk ⟨ar, l, cs⟩ = false := fun h => by simp only [cntsOk]; rw [all_bad (p := cntOk) hlt h]; simp
    by_cases h0 : cs[i] = 0
    · simp [hlt, cI, h0, hbad (by simp [cntOk, h0])]
    simp [hlt, cI, h0]
    refine call_f (w_impl_within cs[i] (-1000000) 1000000) (by simp) rfl fun hs1 hh1 => ?_
    simp at hh1
    cases hc : inR cs[i] (-1000000) 1000000
    · simp [hbad (by simp [cntOk, hc])]
    · simp [hwi]
      exact back (i + 1) ⟨by omega, List.all_eq_true.1 (hst.trans (by simp [cntOk, hc, h0]))⟩ (by omega) rfl (by simp <;> omega) (by simp [cI]) (by simp)
  · have hd : cs.all cntOk = true := all_done (by omega) hi.2
    have hf : cntsOk ⟨ar, l, cs⟩ = true := by simp only [cntsOk]; rw [hd]; simp [h1, h2]
    simp [hlt, hf]
theorem w_spec_IsValidCounted (c : PCnt) : VC Try.prog 12 [.agg ((eCnt c).map .d)] (fun _ v => v = .d (.bool (cntsOk c))) := by
  obtain ⟨ar, l, cs⟩ := c
  refine VC.ofL EP s12 (by kernel_rfl) Try.func12 (by rfl) (by kernel_rfl) (by simp [Try.f12]) (by simp [Try.f12]) s12_ok fun B hl => ?_
  simp [eCnt, pS, cP, cI, maxLen] at hl
  by_cases h2 : l.length = cs.length
  case neg => simp [Try.f12, eCnt, cI, cP, pS, h2, cntsOk]
  simp [Try.f12, eCnt, cI, cP, pS, h2]
  refine call_f (w_spec_IsValidRelation ⟨ar, l⟩) (by simp [eReln, pS, cP, cI]) rfl fun hs0 hh0 => ?_
  simp at hh0
  cases h1 : rowsOk ar l
  · simp [cntsOk, h1]
  simp
  refine loop_rule (X := Nat) (fun i => i ≤ cs.length ∧ (cs.take i).all cntOk = true) (fun i => [(1, .ptr 1 0 0), (3, .d (.int .i64 i))]) (fun _ => [(1, some (.box [.d (.int .i64 ar), .d (.pl (l.map (cP cI))), .d (.pl (cs.map cI))]))]) (fun i => cs.length - i) 0 (by simp) (by simp) (by simp [cI, cP, pS]) ?_
  intro i hs t m hi hh
  by_cases hlt : i < cs.length
  · have hwi := wr1 (i := i) (by omega)
    have hst := all_step (p := cntOk) hlt
    rw [hi.2, Bool.true_and] at hst
    have hbad : cntOk cs[i] = false → cntsOk ⟨ar, l, cs⟩ = false := fun h => by simp only [cntsOk]; rw [all_bad (p := cntOk) hlt h]; simp
    by_cases h0 : cs[i] = 0
    · simp [hlt, cI, h0, hbad (by simp [cntOk, h0])]
    simp [hlt, cI, h0]
    refine call_f (w_spec_l1In cs[i] (-1000000) 1000000) (by simp) rfl fun hs1 hh1 => ?_
    simp at hh1
    cases hc : inR cs[i] (-1000000) 1000000
    · simp [hbad (by simp [cntOk, hc])]
    · simp [hwi]
      exact back (i + 1) ⟨by omega, List.all_eq_true.1 (hst.trans (by simp [cntOk, hc, h0]))⟩ (by omega) rfl (by simp <;> omega) (by simp [cI]) (by simp [cI])
  · have hd : cs.all cntOk = true := all_done (by omega) hi.2
    have hf : cntsOk ⟨ar, l, cs⟩ = true := by simp only [cntsOk]; rw [hd]; simp [h1, h2]
    simp [hlt, hf]

end Go.Proofs.Ytjfehcpompohcaa

namespace Go.Proofs.Ytjfehcpompohcaa
open Go.Vs Go.Proofs Go
set_option maxRecDepth 100000
set_option maxHeartbeats 1000000

theorem w_impl_CountOfRow (c : PCnt) (row : List Int) (hb : c.rows.length ≤ 4294967296) : VC Try.prog 18 [.agg ((eCnt c).map .d), .d (pS cI row)] (fun _ v => v = .d (.int .i64 (countOf c row))) := by
  refine VC.ofL EP s18 (by kernel_rfl) Try.func18 (by rfl) (by kernel_rfl) (by simp [Try.f18]) (by simp [Try.f18]) s18_ok fun B hl => ?_
  simp [eCnt, pS, cP, cI, maxLen] at hl
  simp [Try.f18, eCnt, cI, cP, pS]
  refine call_f (w_impl_place c.rows row hb) (by simp [pS, cP, cI]) rfl fun hs0 hh0 => ?_
  simp at hh0
  cases h1 : placeB c.rows row
  · simp [countOf, h1]
  simp
  refine call_f (w_impl_IsValidCounted c) (by simp [eCnt, pS, cP, cI]) rfl fun hs1 hh1 => ?_
  cases h2 : cntsOk c
  · simp [countOf, h2]
  have h3 := placeB_lt h1
  rw [cntsOk_len h2] at h3
  simp [countOf, h1, h2, h3]
theorem w_spec_CountOfRow (c : PCnt) (row : List Int) : VC Try.prog 16 [.agg ((eCnt c).map .d), .d (pS cI row)] (fun _ v => v = .d (.int .i64 (countOf c row))) := by
  refine VC.ofL EP s16 (by kernel_rfl) Try.func16 (by rfl) (by kernel_rfl) (by simp [Try.f16]) (by simp [Try.f16]) s16_ok fun B hl => ?_
  simp [eCnt, pS, cP, cI, maxLen] at hl
  simp [Try.f16, eCnt, cI, cP, pS]
  refine call_f (w_spec_IsValidCounted c) (by simp [eCnt, pS, cP, cI]) rfl fun hs1 hh1 => ?_
  simp at hh1
  cases h2 : cntsOk c
  · simp [countOf, h2]
  have hb : c.rows.length ≤ 4294967296 := by have := rowsOk_len (cntsOk_rows h2); omega
  simp
  refine call_f (w_spec_l5Place ⟨c.ar, c.rows⟩ row hb) (by simp [eReln, pS, cP, cI]) rfl fun hs0 hh0 => ?_
  cases h1 : placeB c.rows row
  · simp [countOf, h1]
  have h3 := placeB_lt h1
  rw [cntsOk_len h2] at h3
  simp [countOf, h1, h2, h3]

end Go.Proofs.Ytjfehcpompohcaa

namespace Go.Proofs.Ytjfehcpompohcaa
open Go.Vs Go.Proofs Go
set_option maxRecDepth 100000
set_option maxHeartbeats 1000000

theorem w_spec_l5Copy (r : PReln) (hb : r.rows.length ≤ 4294967296) (hb2 : ∀ x ∈ r.rows, x.length ≤ 4294967296) : VC Try.prog 66 [.agg ((eReln r).map .d)] (fun _ v => v = .agg ((eReln r).map .d)) := by
  obtain ⟨ar, l⟩ := r
  simp only at hb hb2
  refine VC.ofL EP s66 (by kernel_rfl) Try.func66 (by rfl) (by kernel_rfl) (by simp [Try.f66]) (by simp [Try.f66]) s66_ok fun B hl => ?_
  simp [Try.f66, s66_5, eReln]
  refine loop_ruleL (X := Nat) (fun i _ => i ≤ l.length) (fun i => [(1, .ptr 1 0 0), (2, .ptr 2 0 0), (3, .ptr 3 0 0), (4, .d (.int .i64 i))])
    (fun i => [(1, some (.box [.d (.int .i64 ar), .d (.pl (l.map (cP cI)))])), (2, some (.box [.d (.int .i64 0), .d (.sl none none [])])), (3, some (.box [.d (.int .i64 ar), .own 25 0 i])), (25, some (.row 23 1 ((l.take i).map (cP cI))))]) (fun i => l.length - i) ?_ ?_
  · refine (lead_box 3 1 25 23 1 [.d (.int .i64 ar), .d (.sl none none [])] (by omega) (by omega) (by omega) (by simp) rfl).bind ?_
    rintro _ rfl
    exact Lead.of ⟨0, by simp, rfl, rfl, Nat.le_refl _, by simp, by simp⟩
  · intro i hs t m hi hh
    by_cases hlt : i < l.length
    · have hwi := wr1 (i := i) (by omega)
      have hL : LenOk 24 (i + 1) := ⟨by omega, by simp only [maxLen]; omega⟩
      have hx := hb2 _ (List.getElem_mem hlt)
      have hL2 : LenOk 8 l[i].length := ⟨by omega, by simp only [maxLen]; omega⟩
      simp [hlt, hL, hL2, hwi, List.take_of_length_le, show min i l.length = i by omega, s66_5, ]
      refine back2 (i + 1) (by omega) (by omega) rfl (by simp <;> omega) (by simp) ?_
      simp
      rw [List.take_succ_eq_append_getElem (by simpa using hlt)]; simp
    · have hn : i = l.length := by omega
      subst hn
      simp [List.take_of_length_le]
theorem w_spec_CountedFromRelation (r : PReln) : VC Try.prog 30 [.agg ((eReln r).map .d)] (fun _ v => v = .tup [.agg ((eCnt (cntOf r)).map .d), .d (.bool (rowsOk r.ar r.rows))]) := by
  refine VC.ofL EP s30 (by kernel_rfl) Try.func30 (by rfl) (by kernel_rfl) (by simp [Try.f30]) (by simp [Try.f30]) s30_ok fun B hl => ?_
  simp [eReln, maxLen] at hl
  simp [Try.f30, eReln]
  refine call_f (w_spec_IsValidRelation r) (by simp [eReln]) rfl fun hs0 hh0 => ?_
  simp at hh0
  cases h1 : rowsOk r.ar r.rows
  · simp [cntOf, h1, eCnt]
  have hlen := rowsOk_len h1
  have hrow := rowsOk_row h1
  simp
  refine call_p (w_spec_l5Copy r (by omega) (fun x hx => by have := hrow x hx; omega)) (by simp [eReln]) fun hs1 hh1 _ => ?_
  simp at hh1
  simp [eReln]
  refine loop_ruleL (X := Nat) (fun i _ => i ≤ r.rows.length) (fun i => [(1, .ptr 1 0 0), (2, .ptr 2 0 0), (5, .ptr 5 0 0), (6, .d (.int .i64 i))])
    (fun i => [(1, some (.box [.d (.int .i64 r.ar), .d (.pl (r.rows.map (cP cI)))])), (2, some (.box [.d (.int .i64 0), .d (.sl none none []), .d (.sl none none [])])), (5, some (.box [.d (.int .i64 r.ar), .d (.pl (r.rows.map (cP cI))), .own 28 0 i])), (28, some (.row 3 1 ((List.replicate i 1).map cI)))]) (fun i => r.rows.length - i) ?_ ?_
  · refine (lead_box 5 2 28 3 1 [.d (.int .i64 r.ar), .d (.pl (r.rows.map (cP cI))), .d (.sl none none [])] (by omega) (by omega) (by omega) (by simp) rfl).bind ?_
    rintro _ rfl
    exact Lead.of ⟨0, by simp, rfl, rfl, Nat.le_refl _, by simp, by simp⟩
  · intro i hs t m hi hh
    by_cases hlt : i < r.rows.length
    · have hwi := wr1 (i := i) (by omega)
      have hL : LenOk 8 (i + 1) := ⟨by omega, by simp only [maxLen]; omega⟩
      simp [hlt, hL, hwi, ]
      refine back2 (i + 1) (by omega) (by omega) rfl (by simp <;> omega) (by simp) ?_
      simp [List.replicate_succ']
    · have hn : i = r.rows.length := by omega
      subst hn
      simp [cntOf, h1, eCnt, List.take_of_length_le]
theorem w_spec_RowsOfCounted (c : PCnt) : VC Try.prog 37 [.agg ((eCnt c).map .d)] (fun _ v => v = .tup [.agg ((eReln (rowsOf c)).map .d), .d (.bool (rowsOfB c))]) := by
  refine VC.ofL EP s37 (by kernel_rfl) Try.func37 (by rfl) (by kernel_rfl) (by simp [Try.f37]) (by simp [Try.f37]) s37_ok fun B hl => ?_
  simp [eCnt, maxLen] at hl
  simp [Try.f37, eCnt]
  refine call_f (w_spec_IsValidCounted c) (by simp [eCnt]) rfl fun hs0 hh0 => ?_
  simp at hh0
  cases h1 : cntsOk c
  · simp [rowsOf, rowsOfB, h1, eReln]
  have hlen := rowsOk_len (cntsOk_rows h1)
  have hrow := rowsOk_row (cntsOk_rows h1)
  simp
  refine loop_rule (X := Nat) (fun i => i ≤ c.cs.length ∧ AllTo (fun n => decide (0 ≤ n)) c.cs i) (fun i => [(1, .ptr 1 0 0), (2, .ptr 2 0 0), (4, .d (.int .i64 i))])
    (fun i => [(1, some (.box [.d (.int .i64 c.ar), .d (.pl (c.rows.map (cP cI))), .d (.pl (c.cs.map cI))])), (2, some (.box [.d (.int .i64 0), .d (.sl none none [])]))]) (fun i => c.cs.length - i) 0 ⟨by simp, allTo_zero⟩ (by simp) (by simp) ?_
  intro i hs t m hi hh
  by_cases hlt : i < c.cs.length
  · have hwi := wr1 (i := i) (by omega)
    by_cases h0 : c.cs[i] < 0
    · have hbad := all_bad (p := fun n : Int => decide (0 ≤ n)) hlt (by simpa using h0)
      simp [hlt, h0, rowsOf, rowsOfB, h1, hbad, eReln]
    · simp [hlt, h0, hwi]
      exact back (i + 1) ⟨by omega, allTo_step hi.2 hlt (by simpa using h0)⟩ (by omega) rfl (by simp) (by simp) (by simp)
  · have hd := allTo_done hi.2 (by omega)
    simp [hlt]
    refine call_p (w_spec_l5Copy ⟨c.ar, c.rows⟩ (by simp; omega) (fun x hx => by have := hrow x hx; omega)) (by simp [eReln]) fun hs1 hh1 _ => ?_
    simp [rowsOf, rowsOfB, h1, hd, eReln]

end Go.Proofs.Ytjfehcpompohcaa

namespace Go.Proofs.Ytjfehcpompohcaa
open Go.Vs Go.Proofs Go
set_option maxRecDepth 100000
set_option maxHeartbeats 1000000

theorem w_impl_copyInts (a : Ints) (ha : okS okI a) (hb : a.xs.length ≤ 4294967296) :
   VC Try.prog 86 [.d (dSl cI a)] (fun n r => ∃ y : Sl Int, r = .d (dSl cI y) ∧ plS plI y = plS plI a ∧ okS okI y ∧ Good (cS cI y) (whS whI y) n) := by
  refine VC.of E s86 (by kernel_rfl) Try.func86 (by rfl) (by kernel_rfl) (by simp [Try.f86]) (by simp [Try.f86]) s86_ok fun B => ?_
  have hL : LenOk 8 a.xs.length := ⟨by omega, by simp only [maxLen]; omega⟩
  simp [Try.f86, dSl, hL, cI]
  intro γ hs' h1 hg
  obtain ⟨q1, q2⟩ := gam_at hg (k := 3) (T := 3) (sz := 1) (es := a.xs.map cI) (by simp [cI])
  have q3 := gam_row hg (k := 3) (T := 3) (sz := 1) (es := a.xs.map cI) (by simp [cI])
  clear hg
  refine ⟨⟨γ 3, some (3, 1), a.xs⟩, ⟨⟨rfl, rfl, by simp [List.take_of_length_le]⟩, rfl, ha, good_row (fun g hg => (q1 g hg).1) (by simpa using q2) q3 ⟨by simp, by simp⟩ (by simp [whI])⟩⟩
theorem w_impl_copyRows (a : Sl Ints) (ha : okS (okS okI) a) (hb : a.xs.length ≤ 4294967296) (hb2 : ∀ r ∈ a.xs, r.xs.length ≤ 4294967296) :
   VC Try.prog 68 [.d (dSl (cS cI) a)] (fun n r => ∃ y : Sl Ints, r = .d (dSl (cS cI) y) ∧ plS (plS plI) y = plS (plS plI) a ∧ okS (okS okI) y ∧ Good (cS (cS cI) y) (whS (whS whI) y) n) := by
  refine VC.of E s68 (by kernel_rfl) Try.func68 (by rfl) (by kernel_rfl) (by simp [Try.f68]) (by simp [Try.f68]) s68_ok fun B => ?_
  simp [Try.f68, dSl]
  refine loop_ruleL (X := Nat × List (Sl Int)) (fun p h => p.1 ≤ a.xs.length ∧ p.2.length = p.1 ∧ p.2.map (plS plI) = (a.xs.map (plS plI)).take p.1 ∧ (∀ y ∈ p.2, okS okI y) ∧ GoodL (cS cI) (whS whI) B h p.2)
    (fun p => [(3, .own 16 0 p.1), (6, .d (.sl a.id a.T (a.xs.map (cS cI)))), (7, .d (.int .i64 a.xs.length)), (8, .d (.int .i64 p.1))]) (fun p => [(16, some (.row 23 1 (p.2.map (cS cI))))]) (fun p => a.xs.length - p.1) ?_ ?_
  · refine (lead_slot 3 16 23 1 (by omega) (by omega) (by simp)).bind ?_
    rintro _ rfl
    exact Lead.of ⟨(0, []), ⟨by simp, rfl, by simp, by simp, GoodL.nil⟩, rfl, rfl, Nat.le_refl _, by simp, by simp⟩
  · rintro ⟨i, ys⟩ hs t m ⟨hi, hyl, hpl, hok, hgd⟩ hh
    simp only at hi hyl hpl hok hgd
    by_cases hlt : i < a.xs.length
    · have hwi := wr1 (i := i) (by omega)
      have hmem : a.xs[i] ∈ a.xs := List.getElem_mem _
      have hL : LenOk 24 (i + 1) := ⟨by omega, by simp only [maxLen]; omega⟩
      simp [cS, hlt]
      refine call_some (w_impl_copyInts a.xs[i] (ha.2 _ hmem) (hb2 _ hmem)) rfl (by simp) fun n hs' r hn hn' hp hr => ?_
      obtain ⟨y, rfl, hy1, hy2, hy3⟩ := hp
      simp at hn
      have hr' : ∀ g ∈ idsL (cS cI y), g < hs' := fun g hg => hr g (by rw [idsL_cS] at hg; exact hg)
      simp [cS, dSl, hyl, hL, hwi]
      refine back2 (i + 1, ys ++ [y]) ⟨by omega, by simp [hyl], ?_, ?_, GoodL.snoc hgd (by omega) hn' hy3 hr'⟩ (by simp; omega) rfl (by simp <;> omega) (by simp) (by simp [cS, dSl])
      · simp only [List.map_append, hpl, List.map_cons, List.map_nil, hy1]
        rw [List.take_succ_eq_append_getElem (by simpa using hlt)]; simp
      · intro y' hy'
        rcases List.mem_append.1 hy' with h | h
        · exact hok y' h
        · rw [List.mem_singleton.1 h]; exact hy2
    · have hn : i = a.xs.length := by omega
      subst hn
      simp [hyl]
      intro γ hs' h1 hg
      obtain ⟨q1, q2⟩ := gam_at hg (k := 16) (T := 23) (sz := 1) (es := ys.map (cS cI)) (by simp)
      have q3 := gam_row hg (k := 16) (T := 23) (sz := 1) (es := ys.map (cS cI)) (by simp)
      clear hg
      refine ⟨⟨γ 16, some (23, 1), ys⟩, ⟨rfl, rfl, by simp [List.take_of_length_le, hyl]⟩, by rw [List.take_of_length_le (by simp)] at hpl; exact hpl, ⟨by simp only [maxLen]; show ys.length ≤ _; omega, hok⟩, good_row (fun g hg => (q1 g hg).1) (by simpa using q2) q3 ⟨hgd.nd, hgd.lo⟩ hgd.wh⟩
theorem w_impl_copyCounted (a : Cnt) (ha : okCnt a) (hb : a.rows.xs.length ≤ 4294967296) (hb2 : ∀ r ∈ a.rows.xs, r.xs.length ≤ 4294967296) (hb3 : a.cs.xs.length ≤ 4294967296) :
   VC Try.prog 72 [.agg ((cCnt a).map V.d)] (fun n r => ∃ y : Cnt, r = .agg ((cCnt y).map V.d) ∧ plCnt y = plCnt a ∧ okCnt y ∧ Good (cCnt y) (whCnt y) n) := by
  refine VC.of E s72 (by kernel_rfl) Try.func72 (by rfl) (by kernel_rfl) (by simp [Try.f72]) (by simp [Try.f72]) s72_ok fun B => ?_
  simp [Try.f72, s72_1, cCnt, cS, cI]
  refine call_some (w_impl_copyRows a.rows ha.2.1 hb hb2) rfl (by simp) fun n1 hs1 r1 hn1 hm1 hp1 hr1 => ?_
  obtain ⟨y1, rfl, p1, k1, G1⟩ := hp1
  have u1 : ∀ g ∈ idsL (cS (cS cI) y1), g < hs1 := fun g hg => hr1 g (by rw [idsL_cS] at hg; exact hg)
  simp at hn1
  simp [cS, cI, s72_1, ]
  refine call_some (w_impl_copyInts a.cs ha.2.2 hb3) rfl (by simp) fun n2 hs2 r2 hn2 hm2 hp2 hr2 => ?_
  obtain ⟨y2, rfl, p2, k2, G2⟩ := hp2
  simp at hn2
  simp [cS, cI, s72_1, ]
  refine ⟨⟨a.ar, y1, y2⟩, by simp, by simp only [plCnt, p1, p2], ⟨trivial, k1, k2⟩, ?_⟩
  have K1 : Good (cI a.ar ++ cS (cS cI) y1) (whI a.ar ∧ whS (whS whI) y1) B := Good.app (good_I B a.ar) (G1.le (by omega)) (fun g h h' => by simp [cI, idsL, D.ids] at h)
  have K2 : Good (cI a.ar ++ cS (cS cI) y1 ++ cS cI y2) ((whI a.ar ∧ whS (whS whI) y1) ∧ whS whI y2) B := Good.app K1 (G2.le (by omega)) (fun g h h' => by
    have h2 := G2.lo g h'
    rw [idsL_app] at h
    rcases List.mem_append.1 h with h | h
    · simp [cI, idsL, D.ids] at h
    · have h1 := u1 g h; omega)
  exact ⟨K2.nd, K2.lo, K2.wh.1.1, K2.wh.1.2, K2.wh.2⟩

end Go.Proofs.Ytjfehcpompohcaa

namespace Go.Proofs.Ytjfehcpompohcaa
open Go.Vs Go.Proofs Go
set_option maxRecDepth 100000
set_option maxHeartbeats 1000000

theorem t_impl_CountedFromRelation (a : Reln) (ha : okReln a) : VC Try.prog 32 [.agg ((cReln a).map V.d)]
   (fun n r => ∃ y : Cnt, r = .tup [.agg ((cCnt y).map V.d), .d (.bool (rowsOk (plReln a).ar (plReln a).rows))] ∧ plCnt y = cntOf (plReln a) ∧ okCnt y ∧ Good (cCnt y) (whCnt y) n) := by
  refine VC.of E s32 (by kernel_rfl) Try.func32 (by rfl) (by kernel_rfl) (by simp [Try.f32]) (by simp [Try.f32]) s32_ok fun B => ?_
  simp [Try.f32, s32_3, cReln, cS, cI]
  refine call_f (w_impl_IsValidRelation (plReln a)) (by simp [eReln, er_SI, plI]) rfl fun hs0 hh0 => ?_
  simp at hh0
  cases h1 : rowsOk a.ar (plS (plS plI) a.rows)
  · have h1' : rowsOk (plReln a).ar (plReln a).rows = false := h1
    simp [h1, plI]
    exact ⟨⟨0, nilS, nilS⟩, by simp [cCnt, nilS, cS, dSl], by simp only [cntOf, h1']; rfl, ⟨trivial, ok_nilS, ok_nilS⟩, good_Cnt0 B⟩
  have h1' : rowsOk (plReln a).ar (plReln a).rows = true := h1
  have hlen := rowsOk_len h1
  have hrow := rowsOk_row h1
  have hl1 : a.rows.xs.length ≤ 4000 := by simpa [plS] using hlen
  have hl2 : ∀ r ∈ a.rows.xs, r.xs.length ≤ 4294967296 := fun r hr => by
    have := hrow (plS plI r) (List.mem_map_of_mem hr)
    simp [plS] at this; omega
  simp [h1, s32_3, ]
  repeat' apply And.intro
  all_goals
    refine call_some (w_impl_copyRows a.rows ha.2 (by omega) hl2) rfl (by simp) fun n1 hs1 r1 hn1 hm1 hp1 hr1 => ?_
    obtain ⟨y1, rfl, p1, k1, G1⟩ := hp1
    have u1 : ∀ g ∈ idsL (cS (cS cI) y1), g < hs1 := fun g hg => hr1 g (by rw [idsL_cS] at hg; exact hg)
    simp at hn1
    have hy1 : y1.xs.length = a.rows.xs.length := by have := congrArg List.length p1; simpa [plS] using this
    simp [cS, cI, dSl, s32_3, ]
    refine loop_ruleL (X := Nat) (fun i _ => i ≤ a.rows.xs.length) (fun i => [(2, .ptr 2 0 0), (4, .ptr 4 0 0), (17, .d (.int .i64 a.rows.xs.length)), (18, .d (.int .i64 i))])
      (fun i => [(2, some (.box [.d (.int .i64 0), .d (.sl none none []), .d (.sl none none [])])), (4, some (.box [.d (.int .i64 a.ar), .d (dSl (cS cI) y1), .own 23 0 i])), (23, some (.row 3 1 ((List.replicate i 1).map cI)))]) (fun i => a.rows.xs.length - i) ?_ ?_
    · refine (lead_box 4 2 23 3 1 [.d (.int .i64 a.ar), .d (dSl (cS cI) y1), .d (.sl none none [])] (by omega) (by omega) (by omega) (by simp [dSl]) rfl).bind ?_
      rintro _ rfl
      exact Lead.of ⟨0, by simp, rfl, rfl, Nat.le_refl _, by simp, by simp [dSl]⟩
    · intro i hs t m hi hh
      by_cases hlt : i < a.rows.xs.length
      · have hwi := wr1 (i := i) (by omega)
        have hL : LenOk 8 (i + 1) := ⟨by omega, by simp only [maxLen]; omega⟩
        simp [hlt, hwi, hL, s32_3, ]
        refine back2 (i + 1) (by omega) (by omega) rfl (by simp) (by simp) ?_
        simp [List.replicate_succ']
      · have hn : i = a.rows.xs.length := by omega
        subst hn
        simp [List.take_of_length_le]
        intro γ hs' h2 hg
        obtain ⟨q1, q2⟩ := gam_at hg (k := 23) (T := 3) (sz := 1) (es := (List.replicate a.rows.xs.length 1).map cI) (by simp)
        have qf : ∀ g, γ 23 = some g → g ∉ (dSl (cS cI) y1).ids := fun g hγ => by
          have hb := (hg.fr 23 3 1 _ g (by simp; rfl) hγ).1.box 4 [.d (.int .i64 a.ar), .d (dSl (cS cI) y1), .own 23 0 a.rows.xs.length] (by simp)
          simpa [V.ids, idsVL, D.ids, idsLL] using hb
        clear hg
        refine ⟨⟨a.ar, y1, ⟨γ 23, some (3, 1), List.replicate a.rows.xs.length 1⟩⟩, by simp [cCnt, cS, cI, dSl, h1], ?_, ⟨trivial, k1, ⟨by simp only [maxLen, List.length_replicate]; omega, fun _ _ => trivial⟩⟩, good_Cnt G1 (by omega) (fun g hg => (q1 g hg).1) (by simpa using q2) qf⟩
        simp only [cntOf, h1', plCnt]
        simp [plS, plReln] at p1 ⊢
        exact p1
theorem t_impl_RowsOfCounted (a : Cnt) (ha : okCnt a) : VC Try.prog 38 [.agg ((cCnt a).map V.d)]
   (fun n r => ∃ y : Reln, r = .tup [.agg ((cReln y).map V.d), .d (.bool (rowsOfB (plCnt a)))] ∧ plReln y = rowsOf (plCnt a) ∧ okReln y ∧ Good (cReln y) (whReln y) n) := by
  refine VC.of E s38 (by kernel_rfl) Try.func38 (by rfl) (by kernel_rfl) (by simp [Try.f38]) (by simp [Try.f38]) s38_ok fun B => ?_
  simp [Try.f38, s38_9, cCnt, cS, cI]
  refine call_f (w_impl_IsValidCounted (plCnt a)) (by simp [eCnt, er_SI, er_I]) rfl fun hs0 hh0 => ?_
  simp at hh0
  cases h1 : cntsOk (plCnt a)
  · have hB0 : rowsOfB (plCnt a) = false := by simp [rowsOfB, h1]
    simp [hB0]
    exact ⟨⟨0, nilS⟩, by simp [cReln, nilS, cS, dSl], by simp only [rowsOf, hB0]; rfl, ⟨trivial, ok_nilS⟩, good_Reln0 B⟩
  have hlen := rowsOk_len (cntsOk_rows h1)
  have hrow := rowsOk_row (cntsOk_rows h1)
  have hcl := cntsOk_len h1
  have hl1 : a.rows.xs.length ≤ 4000 := by simpa [plS] using hlen
  have hl3 : a.cs.xs.length ≤ 4000 := by have : a.rows.xs.length = a.cs.xs.length := by simpa [plS] using hcl
                                         omega
  have hl2 : ∀ r ∈ a.rows.xs, r.xs.length ≤ 4294967296 := fun r hr => by
    have := hrow (plS plI r) (List.mem_map_of_mem hr)
    simp [plS] at this; omega
  simp [s38_9, dSl]
  refine loop_rule (X := Nat) (fun i => i ≤ a.cs.xs.length ∧ AllTo (fun n => decide (0 ≤ n)) a.cs.xs i) (fun i => [(1, .ptr 1 0 0), (2, .ptr 2 0 0), (11, .d (.sl a.cs.id a.cs.T (a.cs.xs.map cI))), (12, .d (.int .i64 a.cs.xs.length)), (13, .d (.int .i64 i))])
    (fun i => [(1, some (.box [.d (.int .i64 a.ar), .d (dSl (cS cI) a.rows), .d (.sl a.cs.id a.cs.T (a.cs.xs.map cI))])), (2, some (.box [.d (.int .i64 0), .d (.sl none none [])]))]) (fun i => a.cs.xs.length - i) 0 ⟨by simp, allTo_zero⟩ (by simp) (by simp [dSl]) ?_
  intro i hs t m hi hh
  have hBv : (plCnt a).cs = a.cs.xs := by simp [plS]
  by_cases hlt : i < a.cs.xs.length
  · have hwi := wr1 (i := i) (by omega)
    by_cases h0 : a.cs.xs[i] < 0
    · have hbad := all_bad (p := fun n : Int => decide (0 ≤ n)) hlt (by simpa using h0)
      have hB0 : rowsOfB (plCnt a) = false := by simp only [rowsOfB, hBv, hbad]; simp
      simp [hlt, h0, hB0]
      exact ⟨⟨0, nilS⟩, by simp [cReln, nilS, cS, dSl], by simp only [rowsOf, hB0]; rfl, ⟨trivial, ok_nilS⟩, good_Reln0 B⟩
    · simp [hlt, h0, hwi]
      exact back (i + 1) ⟨by omega, allTo_step hi.2 hlt (by simpa using h0)⟩ (by omega) rfl (by simp <;> omega) (by simp) (by simp)
  · have hd := allTo_done hi.2 (by omega)
    have hB1 : rowsOfB (plCnt a) = true := by simp only [rowsOfB, hBv, hd, h1]; rfl
    simp [hlt, s38_9, ]
    refine call_some (w_impl_copyRows a.rows ha.2.1 (by omega) hl2) rfl (by simp) fun n1 hs1 r1 hn1 hm1 hp1 hr1 => ?_
    obtain ⟨y1, rfl, p1, k1, G1⟩ := hp1
    simp at hn1
    simp [cS, cI, dSl, hB1, s38_9, ]
    refine ⟨⟨a.ar, y1⟩, by simp [cReln, cS, dSl], ?_, ⟨trivial, k1⟩, good_Reln G1 (by omega)⟩
    simp only [rowsOf, hB1, if_true, plReln, p1]; rfl

end Go.Proofs.Ytjfehcpompohcaa

namespace Go.Proofs.Ytjfehcpompohcaa
open Go.Vs Go.Proofs Go
set_option maxRecDepth 100000
set_option maxHeartbeats 1000000

theorem w_spec_TouchedTables (ds : List PDelta) (hb : ds.length ≤ 4294967296) : VC Try.prog 21 [.d (pS eDelta ds)] (fun _ v => v = .d (pS cStr (touch ds))) := by
  refine VC.ofL EP s21 (by kernel_rfl) Try.func21 (by rfl) (by kernel_rfl) (by simp [Try.f21]) (by simp [Try.f21]) s21_ok fun B hl => ?_
  simp [Try.f21, s21_6, s21_8, s21_9]
  refine loop_ruleL (X := Nat) (fun i _ => i ≤ ds.length) (fun i => [(0, .d (.pl (ds.map eDelta))), (3, .d (.pl ((touch (ds.take i)).map cStr))), (4, .d (.int .i64 i))]) (fun _ => []) (fun i => ds.length - i) ?_ ?_
  · refine (lead_frp 7 (T := 9) (sz := 1) (es := []) (by simp)).bind ?_
    rintro _ rfl
    exact Lead.of ⟨0, by simp, rfl, rfl, Nat.le_refl _, by simp [touch], by simp⟩
  intro i hs t m hi hh
  have hst := fun h => touch_step (ds := ds) (i := i) h
  have htl := touch_len (ds.take i)
  rw [List.length_take] at htl
  by_cases hlt : i < ds.length
  case neg =>
    have hn : i = ds.length := by omega
    subst hn
    simp
  have hst := hst hlt
  generalize touch (ds.take i) = l at hst htl
  have hll : l.length ≤ 4294967296 := by omega
  have hwi := wr1 (i := i) (by omega)
  simp [hlt]
  refine loop_rule (X := Nat) (fun k => k ≤ l.length ∧ AllTo (fun y => Op.bytesLess y ds[i].name) l k) (fun k => [(0, .d (.pl (ds.map eDelta))), (3, .d (.pl (l.map cStr))), (4, .d (.int .i64 i)), (5, .d (.int .i64 k))]) (fun _ => []) (fun k => l.length - k) 0 ⟨by simp, allTo_zero⟩ (by simp) (by simp) ?_
  intro k hs2 t2 m2 hk hh2
  by_cases hkl : k < l.length
  · cases hless : Op.bytesLess l[k] ds[i].name
    · have hK : insK l ds[i].name = k := takeWhile_at hk.2 hk.1 fun _ => hless
      by_cases heq : l[k] = ds[i].name
      · have hins : insS l ds[i].name = l := by simp [insS, hK, hkl, heq]; omega
        rw [heq] at hless
        simp [hlt, hkl, show ¬ k = l.length by omega, hless, heq, hwi, eDelta, eReln, s21_6, s21_8, s21_9, ]
        exact back2 (i + 1) (by omega) (by omega) rfl (by simp <;> omega) (by simp [hst, hins]) (by simp)
      · have hne : ¬ l[k] = ds[i].name := heq
        have hins : insS l ds[i].name = l.take k ++ ds[i].name :: l.drop k := by simp [insS, hK, hkl, heq]
        simp [hlt, hkl, show ¬ k = l.length by omega, hless, hne, hwi, eDelta, eReln, ← List.map_take, ← List.map_drop, List.take_of_length_le, Nat.add_comm 1, show k ≤ l.length by omega, show min k l.length = k by omega, s21_6, s21_8, s21_9, ]
        refine ⟨⟨by omega, by simp only [maxLen]; omega⟩, ⟨by omega, by simp only [maxLen]; omega⟩, ⟨by omega, by simp only [maxLen]; omega⟩, ?_⟩
        refine Back2.lead (lead_frp 58 (T := 9) (sz := 1) (es := ((l.take k ++ ds[i].name :: l.drop k).map cStr)) (by simp)) ?_
        rintro _ rfl
        exact back2 (i + 1) (by omega) (by omega) rfl (by simp <;> omega) (by simp [hst, hins]; exact List.take_of_length_le (by simp; omega)) (by simp)
    · have hwk := wr1 (i := k) (by omega)
      simp (maxSteps := 1000000) [hlt, hkl, hless, hwk, eDelta, eReln, s21_6, s21_8, s21_9, ]
      exact back (k + 1) ⟨by omega, allTo_step hk.2 hkl hless⟩ (by omega) rfl (by simp <;> omega) (by simp) (by simp)
  · have hkn : k = l.length := by omega
    subst hkn
    have hK : insK l ds[i].name = l.length := takeWhile_at hk.2 hk.1 fun h => absurd h hkl
    have hins : insS l ds[i].name = l ++ [ds[i].name] := by simp [insS, hK]
    simp [hlt, hwi, eDelta, eReln, List.take_of_length_le, List.drop_of_length_le, s21_6, s21_8, s21_9, ]
    refine ⟨⟨by omega, by simp only [maxLen]; omega⟩, ⟨by omega, by simp only [maxLen]; omega⟩, ⟨by omega, by simp only [maxLen]; omega⟩, ?_⟩
    refine Back2.lead (lead_frp 58 (T := 9) (sz := 1) (es := ((l ++ [ds[i].name]).map cStr)) (by simp)) ?_
    rintro _ rfl
    exact back2 (i + 1) (by omega) (by omega) rfl (by simp <;> omega) (by simp [hst, hins]; exact List.take_of_length_le (by simp)) (by simp)

end Go.Proofs.Ytjfehcpompohcaa

namespace Go.Proofs.Ytjfehcpompohcaa
open Go.Vs Go.Proofs Go
set_option maxRecDepth 100000
set_option maxHeartbeats 1000000

theorem t_impl_TouchedTables (a : Sl Delta) (ha : okS okDelta a) (hb : a.xs.length ≤ 4294967296) : VC Try.prog 23 [.d (dSl cDelta a)]
   (fun n r => ∃ y : Sl (List UInt8), r = .d (dSl cStr y) ∧ plS plStr y = touch (plS plDelta a) ∧ okS okStr y ∧ Good (cS cStr y) (whS whStr y) n) := by
  refine VC.of E s23 (by kernel_rfl) Try.func23 (by rfl) (by kernel_rfl) (by simp [Try.f23]) (by simp [Try.f23]) s23_ok fun B => ?_
  have hnm : ∀ i (h : i < a.xs.length), okStr a.xs[i].name := fun i h => (ha.2 _ (List.getElem_mem h)).1
  simp [Try.f23, s23_6, s23_8, s23_9, dSl]
  refine loop_ruleL (X := Nat × Sl (List UInt8)) (fun p h => p.1 ≤ a.xs.length ∧ p.2.xs = touch ((plS plDelta a).take p.1) ∧ RowS (9, 1) B p.2)
    (fun p => [(3, .d (dSl cStr p.2)), (7, .d (.sl a.id a.T (a.xs.map cDelta))), (8, .d (.int .i64 a.xs.length)), (9, .d (.int .i64 p.1))]) (fun _ => []) (fun p => a.xs.length - p.1) ?_ ?_
  · exact Lead.of ⟨(0, nilS), ⟨by simp, by simp [nilS, touch], RowS.nil⟩, rfl, rfl, Nat.le_refl _, by simp [nilS, dSl], by simp⟩
  rintro ⟨i, y⟩ hs t m ⟨hi, hyl, hR⟩ hh
  simp only at hi hyl hR
  have htl := touch_len ((plS plDelta a).take i)
  rw [List.length_take, ← hyl] at htl
  have hll : y.xs.length ≤ 4294967296 := by simp [plS] at htl; omega
  by_cases hlt : i < a.xs.length
  case neg =>
    have hn : i = a.xs.length := by omega
    subst hn
    simp [dSl]
    have hz : y.xs = touch (plS plDelta a) := by rw [hyl, List.take_of_length_le (by simp [plS])]
    refine ⟨y, by simp, by simp [plS, hz], ⟨by simp only [maxLen]; omega, hR.ok⟩, hR.good⟩
  have hst := touch_step (ds := plS plDelta a) (i := i) (by simpa [plS] using hlt)
  rw [← hyl, show (plS plDelta a)[i]'(by simpa [plS] using hlt) = plDelta a.xs[i] by simp [plS]] at hst
  have hnm := hnm i hlt
  have hwi := wr1 (i := i) (by omega)
  obtain ⟨id, T, l⟩ := y
  simp only at hll hst htl hyl
  clear htl hyl
  simp [hlt, cDelta, cReln, cS, cI, cStr, dSl]
  refine loop_rule (X := Nat) (fun k => k ≤ l.length ∧ AllTo (fun z => Op.bytesLess z a.xs[i].name) l k) (fun k => [(3, .d (.sl id T (l.map cStr))), (5, .ptr 5 0 0), (6, .d (.int .i64 k)), (7, .d (.sl a.id a.T (a.xs.map cDelta))), (8, .d (.int .i64 a.xs.length)), (9, .d (.int .i64 i))])
    (fun _ => [(5, some (.box [.d (.str a.xs[i].name), .d (.int .i64 a.xs[i].ins.ar), .d (.sl a.xs[i].ins.rows.id a.xs[i].ins.rows.T (a.xs[i].ins.rows.xs.map (cS cI))), .d (.int .i64 a.xs[i].del.ar), .d (.sl a.xs[i].del.rows.id a.xs[i].del.rows.T (a.xs[i].del.rows.xs.map (cS cI)))]))]) (fun k => l.length - k) 0 ⟨by simp, allTo_zero⟩ (by simp [dSl]) (by simp [dSl]) ?_
  intro k hs2 t2 m2 hk hh2
  by_cases hkl : k < l.length
  · cases hless : Op.bytesLess l[k] a.xs[i].name
    · have hK : insK l a.xs[i].name = k := takeWhile_at hk.2 hk.1 fun _ => hless
      by_cases heq : l[k] = a.xs[i].name
      · have hins : insS l a.xs[i].name = l := by simp [insS, hK, hkl, heq]; omega
        rw [heq] at hless
        simp [hlt, hkl, show ¬ k = l.length by omega, hless, heq, hwi, cStr, s23_6, s23_8, s23_9, ]
        exact back2 (i + 1, ⟨id, T, l⟩) ⟨by omega, by simp [hst, hins], hR⟩ (by simp; omega) rfl (by simp <;> omega) (by simp [dSl]) (by simp)
      · have hne : ¬ l[k] = a.xs[i].name := heq
        have hins : insS l a.xs[i].name = l.take k ++ a.xs[i].name :: l.drop k := by simp [insS, hK, hkl, heq]
        simp [hlt, hkl, show ¬ k = l.length by omega, hless, hne, hwi, cStr, ← List.map_take, ← List.map_drop, List.take_of_length_le, Nat.add_comm 1, show k ≤ l.length by omega, show min k l.length = k by omega, s23_6, s23_8, s23_9, ]
        have hokE : ∀ s ∈ l.take k ++ a.xs[i].name :: l.drop k, okStr s := fun s hs => by
          rcases List.mem_append.1 hs with h | h
          · exact hR.ok s (List.mem_of_mem_take h)
          · rcases List.mem_cons.1 h with rfl | h
            · exact hnm
            · exact hR.ok s (List.mem_of_mem_drop h)
        have hL0 : LenOk 16 k := ⟨by omega, by simp only [maxLen]; omega⟩
        have hL1 : LenOk 16 (k + 1) := ⟨by omega, by simp only [maxLen]; omega⟩
        have hL2 : LenOk 16 (k + 1 + (l.length - k)) := ⟨by omega, by simp only [maxLen]; omega⟩
        refine ⟨⟨⟨hL0, hL1, hL2, ?_⟩, hL0, hL1, hL2, ?_⟩, hL0, hL1, hL2, ?_⟩
        all_goals
          refine Back2.lead (lead_frz 41 (T := 9) (sz := 1) (es := (l.take k ++ a.xs[i].name :: l.drop k).map cStr) (by simp [cStr])) ?_
          rintro _ ⟨γ, hs', h2, hg, rfl⟩
          obtain ⟨q1, q2⟩ := gam_at hg (k := 41) (T := 9) (sz := 1) (es := (l.take k ++ a.xs[i].name :: l.drop k).map cStr) (by simp [cStr])
          clear hg
          simp only at h2 q1
          refine back2 (i + 1, ⟨γ 41, some (9, 1), l.take k ++ a.xs[i].name :: l.drop k⟩) ⟨by omega, by simp [hst, hins], ⟨hokE, fun g hg => (q1 g hg).1, fun _ => q2 (by simp), by simp⟩⟩ (by simp; omega) rfl (by simp <;> omega) (by simp [dSl, cStr, ← List.map_take, ← List.map_drop, show min k l.length = k by omega, show k + 1 + (l.length - k) = k + (l.length - k + 1) by omega, List.take_of_length_le]) (by simp)
    · have hwk := wr1 (i := k) (by omega)
      refine anyQ fun Q => ?_
      simp [hlt, hkl, hless, hwk, cStr, s23_6, s23_8, s23_9, ]
      exact back (k + 1) ⟨by omega, allTo_step hk.2 hkl hless⟩ (by omega) rfl (by simp <;> omega) (by simp) (by simp)
  · have hkn : k = l.length := by omega
    subst hkn
    have hK : insK l a.xs[i].name = l.length := takeWhile_at hk.2 hk.1 fun h => absurd h hkl
    have hins : insS l a.xs[i].name = l ++ [a.xs[i].name] := by simp [insS, hK]
    simp [hlt, hwi, cStr, List.take_of_length_le, List.drop_of_length_le, s23_6, s23_8, s23_9, ]
    have hokE : ∀ s ∈ l ++ [a.xs[i].name], okStr s := fun s hs => by
      rcases List.mem_append.1 hs with h | h
      · exact hR.ok s h
      · rw [List.mem_singleton.1 h]; exact hnm
    have hL0 : LenOk 16 l.length := ⟨by omega, by simp only [maxLen]; omega⟩
    have hL1 : LenOk 16 (l.length + 1) := ⟨by omega, by simp only [maxLen]; omega⟩
    refine ⟨⟨⟨hL0, hL1, ?_⟩, hL0, hL1, ?_⟩, hL0, hL1, ?_⟩
    all_goals
      refine Back2.lead (lead_frz 41 (T := 9) (sz := 1) (es := (l ++ [a.xs[i].name]).map cStr) (by simp [cStr])) ?_
      rintro _ ⟨γ, hs', h2, hg, rfl⟩
      obtain ⟨q1, q2⟩ := gam_at hg (k := 41) (T := 9) (sz := 1) (es := (l ++ [a.xs[i].name]).map cStr) (by simp [cStr])
      clear hg
      simp only at h2 q1
      refine back2 (i + 1, ⟨γ 41, some (9, 1), l ++ [a.xs[i].name]⟩) ⟨by omega, by simp [hst, hins], ⟨hokE, fun g hg => (q1 g hg).1, fun _ => q2 (by simp), by simp⟩⟩ (by simp; omega) rfl (by simp <;> omega) (by simp [dSl, cStr]; exact List.take_of_length_le (by first | omega | (simp <;> omega))) (by simp)

end Go.Proofs.Ytjfehcpompohcaa

namespace Go.Proofs.Ytjfehcpompohcaa
open Go.Vs Go.Proofs Go
set_option maxRecDepth 100000
set_option maxHeartbeats 1000000

theorem t_impl_settled (a : Cnt) (ha : okCnt a) (hl1 : a.rows.xs.length ≤ 4294967296) (hl2 : a.cs.xs.length = a.rows.xs.length) : VC Try.prog 74 [.agg ((cCnt a).map V.d)]
   (fun n r => ∃ y : Cnt, r = .agg ((cCnt y).map V.d) ∧ plCnt y = ⟨a.ar, (sttl (plCnt a).rows (plCnt a).cs).map Prod.fst, (sttl (plCnt a).rows (plCnt a).cs).map Prod.snd⟩ ∧ okCnt y ∧
     (∀ B, B ≤ n → Good (cS (cS cI) a.rows) (whS (whS whI) a.rows) B → Good (cCnt y) (whCnt y) B)) := by
  refine VC.of E s74 (by kernel_rfl) Try.func74 (by rfl) (by kernel_rfl) (by simp [Try.f74]) (by simp [Try.f74]) s74_ok fun B => ?_
  simp [Try.f74, s74_6, cCnt, cS, cI, dSl]
  obtain ⟨ar, ⟨rid, rT, l⟩, ⟨cid, cT, cs⟩⟩ := a
  simp only at hl1 hl2 ⊢
  refine loop_ruleL (X := Nat) (fun i _ => i ≤ cs.length) (fun i => [(1, .ptr 1 0 0), (2, .ptr 2 0 0), (3, .ptr 3 0 0), (10, .d (.sl cid cT (cs.map cI))), (11, .d (.int .i64 cs.length)), (12, .d (.int .i64 i))])
    (fun i => [(1, some (.box [.d (.int .i64 ar), .d (.sl rid rT (l.map (cS cI))), .d (.sl cid cT (cs.map cI))])), (2, some (.box [.d (.int .i64 0), .d (.sl none none []), .d (.sl none none [])])),
      (3, some (.box [.d (.int .i64 ar), .own 27 0 (sttl (l.take i) (cs.take i)).length, .own 33 0 (sttl (l.take i) (cs.take i)).length])),
      (27, some (.row 23 1 (((sttl (l.take i) (cs.take i)).map Prod.fst).map (cS cI)))), (33, some (.row 3 1 (((sttl (l.take i) (cs.take i)).map Prod.snd).map cI)))]) (fun i => cs.length - i) ?_ ?_
  · refine (lead_box 3 1 27 23 1 [.d (.int .i64 ar), .d (.sl none none []), .d (.sl none none [])] (by omega) (by omega) (by omega) (by simp) rfl).bind ?_
    rintro _ rfl
    refine (lead_box 3 2 33 3 1 [.d (.int .i64 ar), .own 27 0 0, .d (.sl none none [])] (by omega) (by omega) (by omega) (by simp) rfl).bind ?_
    rintro _ rfl
    exact Lead.of ⟨0, by simp, rfl, rfl, Nat.le_refl _, by simp, by simp [sttl, dSl]⟩
  · intro i hs t m hi hh
    by_cases hlt : i < cs.length
    · have hwi := wr1 (i := i) (by omega)
      have hil : i < l.length := by omega
      have hss := settle_step (rs := l) (cs := cs) hil hlt
      have hsl : (sttl (l.take i) (cs.take i)).length ≤ i := settle_len (by omega)
      refine anyQ2 fun Q => ?_
      by_cases h0 : cs[i] = 0
      · rw [if_pos h0, List.append_nil] at hss
        simp [hlt, hil, h0, hwi, s74_6, ]
        exact back2 (i + 1) (by omega) (by omega) rfl (by simp <;> omega) (by simp) (by simp [hss])
      · rw [if_neg h0] at hss
        have hLa : LenOk 24 ((sttl (l.take i) (cs.take i)).length + 1) := ⟨by omega, by simp only [maxLen]; omega⟩
        have hLb : LenOk 8 ((sttl (l.take i) (cs.take i)).length + 1) := ⟨by omega, by simp only [maxLen]; omega⟩
        simp [hlt, hil, h0, hwi, hLa, hLb, cS, dSl, s74_6, ]
        exact back2 (i + 1) (by omega) (by omega) rfl (by simp <;> omega) (by simp) (by simp [hss, cS, cI, dSl])
    · have hn : i = cs.length := by omega
      subst hn
      have hsl : (sttl l cs).length ≤ l.length := by
        have := settle_len (rs := l) (cs := cs) (Nat.le_refl l.length)
        rw [List.take_length, List.take_of_length_le (l := cs) (by omega)] at this
        exact this
      simp [List.take_of_length_le, hl2, s74_6, ]
      intro γ hs' h2 hg
      obtain ⟨q1, q2⟩ := gam_at hg (k := 27) (T := 23) (sz := 1) (es := (sttl l cs).map (cS cI ∘ Prod.fst)) (by simp)
      obtain ⟨q3, q4⟩ := gam_at hg (k := 33) (T := 3) (sz := 1) (es := (sttl l cs).map (cI ∘ Prod.snd)) (by simp)
      have r1 := gam_row hg (k := 27) (T := 23) (sz := 1) (es := (sttl l cs).map (cS cI ∘ Prod.fst)) (by simp)
      have r2 := gam_row2 hg (k := 33) (T := 3) (sz := 1) (es := (sttl l cs).map (cI ∘ Prod.snd)) (k2 := 27) (T2 := 23) (sz2 := 1) (es2 := (sttl l cs).map (cS cI ∘ Prod.fst)) (by simp) (by simp)
      have r3 : ∀ g, γ 27 = some g → γ 33 = some g → False := fun g h h' => by
        have := hg.ne 27 33 (.row 23 1 ((sttl l cs).map (cS cI ∘ Prod.fst))) (.row 3 1 ((sttl l cs).map (cI ∘ Prod.snd))) g (by simp) (by simp) h h'
        omega
      clear hg
      have em : (sttl l cs).map (cS cI ∘ Prod.fst) = ((sttl l cs).map Prod.fst).map (cS cI) := by simp
      rw [em] at r1 r2
      have hp1 : hpLL ((sttl l cs).map (cS cI ∘ Prod.fst)) = false := hpLL_map (fun a => by simp) _
      have hp2 : hpLL ((sttl l cs).map (cI ∘ Prod.snd)) = false := hpLL_map (fun a => by simp) _
      simp [hp1, hp2, List.take_of_length_le]
      have hsub := sttl_sub l cs
      refine ⟨⟨ar, ⟨γ 27, some (23, 1), (sttl l cs).map Prod.fst⟩, ⟨γ 33, some (3, 1), (sttl l cs).map Prod.snd⟩⟩, by simp [hp1, hp2, cCnt, cS, cI, dSl, List.take_of_length_le], ?_, ⟨trivial, ⟨by simp only [maxLen, List.length_map]; omega, fun r hr => ha.2.1.2 r (hsub.subset hr)⟩, ⟨by simp only [maxLen, List.length_map]; omega, fun _ _ => trivial⟩⟩, ?_⟩
      · simp only [plCnt, plS, map_plI, PCnt.mk.injEq]
        exact ⟨rfl, sttl_fst _ _ _, sttl_snd _ _ _⟩
      · intro B' hB' G
        have G : Good (cS (cS cI) ⟨rid, rT, l⟩) (whS (whS whI) ⟨rid, rT, l⟩) B' := G
        have hG := G.nd
        rw [idsL_cS] at hG
        have hG2 := (sl_nd hG).1
        have hlo : ∀ g ∈ idsLL (((sttl l cs).map Prod.fst).map (cS cI)), B' ≤ g := fun g hg => G.lo g (by
          rw [idsL_cS]
          exact mem_sl_ids.2 (.inr ((ids_sub hsub).subset hg)))
        have := good_Cnt2 (ar := ar) (T1 := (23, 1)) (T2 := (3, 1)) (hG2.sublist (ids_sub hsub)) hlo (fun r hr => G.wh.2 r (hsub.subset hr)) (fun g h => ⟨Nat.le_trans hB' (q1 g h).1, r1 g h⟩) (by simpa using q2) (fun g h => ⟨Nat.le_trans hB' (q3 g h).1, r2 g h⟩) (cs := (sttl l cs).map Prod.snd) (by simpa using q4) r3
        exact this

end Go.Proofs.Ytjfehcpompohcaa

namespace Go.Proofs.Ytjfehcpompohcaa
open Go.Vs Go.Proofs Go
set_option maxRecDepth 100000
set_option maxHeartbeats 1000000

theorem w_impl_copyIntsT (a : Ints) (ha : okS okI a) (hb : a.xs.length ≤ 4294967296) :
   VC Try.prog 86 [.d (dSl cI a)] (fun n r => ∃ y : Sl Int, r = .d (dSl cI y) ∧ plS plI y = plS plI a ∧ okS okI y ∧ Good (cS cI y) (whS whI y) n ∧ y.T = some (3, 1)) := by
  refine VC.of E s86 (by kernel_rfl) Try.func86 (by rfl) (by kernel_rfl) (by simp [Try.f86]) (by simp [Try.f86]) s86_ok fun B => ?_
  have hL : LenOk 8 a.xs.length := ⟨by omega, by simp only [maxLen]; omega⟩
  simp [Try.f86, dSl, hL, cI]
  intro γ hs' h1 hg
  obtain ⟨q1, q2⟩ := gam_at hg (k := 3) (T := 3) (sz := 1) (es := a.xs.map cI) (by simp [cI])
  have q3 := gam_row hg (k := 3) (T := 3) (sz := 1) (es := a.xs.map cI) (by simp [cI])
  clear hg
  refine ⟨⟨γ 3, some (3, 1), a.xs⟩, ⟨⟨rfl, rfl, by simp [List.take_of_length_le]⟩, rfl, ha, good_row (fun g hg => (q1 g hg).1) (by simpa using q2) q3 ⟨by simp, by simp⟩ (by simp [whI]), rfl⟩⟩
theorem t_impl_tally (c : Cnt) (row : Sl Int) (n : Int) (hc : okCnt c) (hr : okS okI row) (hw : whS whI c.cs) (hnd : (idsL (cCnt c)).Nodup) (hb : c.rows.xs.length ≤ 1000000) (hl2 : c.cs.xs.length = c.rows.xs.length) (hlr : row.xs.length ≤ 4294967296)
   (hn : -1000000 ≤ n ∧ n ≤ 1000000) (hv : ∀ v ∈ c.cs.xs, -1000000000000 ≤ v ∧ v ≤ 1000000000000) :
   VX Try.prog 73 (dSl cI c.cs).ids [.ptr 1000 0 0, .d (dSl cI row), .d (.int .i64 n)] (some ((cCnt c).map V.d))
    (fun m r bx' ws => r = .tup [] ∧ ∃ y : Cnt, bx' = (cCnt y).map V.d ∧ plCnt y = ⟨c.ar, insR (plCnt c).rows row.xs, insC (plCnt c).rows c.cs.xs row.xs n⟩ ∧ okCnt y ∧ (∃ d, ws = [d]) ∧
      (∀ B, B ≤ m → Good (cCnt c) (whCnt c) B → (∀ g ∈ idsL (cCnt c), g < m) → Good (cCnt y) (whCnt y) B)) := by
  refine VX.of E s73 (by kernel_rfl) Try.func73 (by rfl) (by kernel_rfl) (by simp [Try.f73]) (by simp [Try.f73]) s73_ok ?_ ?_ fun B hB => ?_
  · intro g hg; right; show g ∈ idsVL ((cCnt c).map V.d); rw [idsVL_map_d, cCnt, idsL_app, idsL_app, idsL_cS, idsL_cS]; simp [hg]
  · intro bs h; obtain rfl := Option.some.inj h; rfl
  obtain ⟨ar, ⟨rid, rT, l⟩, ⟨cid, cT, cs⟩⟩ := c
  simp only at hw hb hl2 hv ⊢
  have hnd2 : ∀ g, cid = some g → g ∉ (dSl (cS cI) ⟨rid, rT, l⟩).ids := fun g hg hm => by
    rw [cCnt, idsL_app, idsL_app, idsL_cS, idsL_cS] at hnd
    exact (List.nodup_append.1 hnd).2.2 g (by simp [hm]) g (mem_sl_ids.2 (.inl hg)) rfl
  simp [Try.f73, s73_3, s73_4, cCnt, cS, cI, dSl]
  have hlr2 : row.xs.length ≤ maxLen := hr.1
  refine call_f (w_impl_place (plS (plS plI) ⟨rid, rT, l⟩) row.xs (by simpa [plS] using (by omega : l.length ≤ 4294967296))) (by simp [pS, plS, er_cS, erLL_map er_cI, erLL_map (er_cS er_cI), map_plI]) rfl fun hs1 hh1 => ?_
  simp at hh1
  obtain ⟨L, hL⟩ : ∃ L, L = l.map (plS plI) := ⟨_, rfl⟩
  have hLl : L.length = l.length := by rw [hL, List.length_map]
  have hpl : plS (plS plI) (⟨rid, rT, l⟩ : Sl (Sl Int)) = L := by rw [hL]; rfl
  have hk := placeK_le L row.xs
  simp only [hpl]
  obtain ⟨k, hkk⟩ : ∃ k, k = placeK L row.xs := ⟨_, rfl⟩
  simp only [← hkk] at hk ⊢
  cases hb1 : placeB L row.xs
  · have e0 : LenOk 24 k := ⟨by omega, by simp only [maxLen]; omega⟩
    have e1 : LenOk 24 (k + 1) := ⟨by omega, by simp only [maxLen]; omega⟩
    have e2 : LenOk 24 (k + 1 + (l.length - k)) := ⟨by omega, by simp only [maxLen]; omega⟩
    have hkl : k ≤ l.length := by omega
    have hmn : min k l.length = k := by omega
    simp [cS, cI, dSl, hkl, hmn, e0, ← List.map_take, s73_3, s73_4, ]
    refine call_some (w_impl_copyInts row hr hlr) (by simp [dSl, cI]) (by simp) fun n1 hs2 r1 hn1 hm1 hp1 hr1 => ?_
    obtain ⟨w, rfl, pw, kw, Gw⟩ := hp1
    simp at hn1
    simp [cS, cI, dSl, hkl, hmn, e0, e1, e2, ← List.map_take, ← List.map_drop, List.take_of_length_le, s73_3, s73_4, ]
    have hkc : k ≤ cs.length := by omega
    refine ⟨hkc, ?_⟩
    generalize (if cid.isSome = true then none else cT) = T0
    have hC := w_impl_copyIntsT ⟨cid, T0, cs.take k⟩ ⟨by simp only [maxLen, List.length_take]; omega, fun _ _ => trivial⟩ (by simp; omega)
    simp only [dSl] at hC
    repeat' apply And.intro
    all_goals
      refine call_some hC rfl (by simp) fun n2 hs3 r2 hn2 hm2 hp2 hr2 => ?_
      obtain ⟨⟨zid, zT, zx⟩, rfl, pz, kz, Gz, hzT⟩ := hp2
      simp only at hzT
      subst hzT
      have hzx : zx = cs.take k := by simpa [plS, map_plI] using pz
      simp at hn2
      have f1 : LenOk 8 (k + 1) := ⟨by omega, by simp only [maxLen]; omega⟩
      have f2 : LenOk 8 (k + 1 + (cs.length - k)) := ⟨by omega, by simp only [maxLen]; omega⟩
      have hmc : min k cs.length = k := by omega
      cases zid with
      | none =>
        have hz0 : zx = [] := Gz.wh.1.nil rfl
        subst hz0
        have hk0 : k = 0 := by have := congrArg List.length hzx; simp at this; omega
        subst hk0
        have g1 : LenOk 8 1 := ⟨by omega, by simp only [maxLen]; omega⟩
        have g2 : LenOk 8 (1 + cs.length) := ⟨by omega, by simp only [maxLen]; omega⟩
        simp [cI, dSl, g1, g2, vendX, s73_3, s73_4, ]
        refine ⟨[54], fun γ hs' h1 hg => ?_⟩
        obtain ⟨q1, q2⟩ := gam_at hg (k := 29) (T := 23) (sz := 1) (es := (w :: l).map (cS cI)) (by simp [cS, dSl])
        obtain ⟨q3, q4⟩ := gam_at hg (k := 60) (T := 3) (sz := 1) (es := (n :: cs).map cI) (by simp [cI])
        have r1 := gam_row hg (k := 29) (T := 23) (sz := 1) (es := (w :: l).map (cS cI)) (by simp [cS, dSl])
        have r2 := gam_row2 hg (k := 60) (T := 3) (sz := 1) (es := (n :: cs).map cI) (k2 := 29) (T2 := 23) (sz2 := 1) (es2 := (w :: l).map (cS cI)) (by simp [cI]) (by simp [cS, dSl])
        have r3 : ∀ g, γ 29 = some g → γ 60 = some g → False := fun g h h' => by
          have := hg.ne 29 60 (.row 23 1 ((w :: l).map (cS cI))) (.row 3 1 ((n :: cs).map cI)) g (by simp [cS, dSl]) (by simp [cI]) h h'
          omega
        clear hg
        have hp1 : hpLL (l.map (cS cI)) = false := hpLL_map (fun a => by simp) _
        have hp2 : hpLL (cs.map cI) = false := hpLL_map (fun a => by simp) _
        have a1 : 1 + l.length = l.length + 1 := Nat.add_comm _ _
        have a2 : 1 + cs.length = cs.length + 1 := Nat.add_comm _ _
        simp [hp1, hp2, a1, a2, List.take_of_length_le]
        refine ⟨⟨ar, ⟨γ 29, some (23, 1), w :: l⟩, ⟨γ 60, some (3, 1), n :: cs⟩⟩, by simp [cS, dSl, cI], ?_, ⟨trivial, ⟨by simp only [maxLen, List.length_cons]; omega, fun r hr => by
          rcases List.mem_cons.1 hr with h | h
          · subst h; exact kw
          · exact hc.2.1.2 r h⟩, ⟨by simp only [maxLen, List.length_cons]; omega, fun _ _ => trivial⟩⟩, ?_⟩
        · have pw' : w.xs = row.xs := by simpa [plS, map_plI] using pw
          simp only [plCnt, insR, insC, hb1, ← hkk, Bool.false_eq_true, if_false, PCnt.mk.injEq]
          refine ⟨rfl, ?_, ?_⟩
          · rw [hL]; simp [plS, map_plI, pw']
          · simp [plS, map_plI]
        · intro B' hB' G hlt
          have := tally_good (k := 0) (T1 := (23, 1)) (T2 := (3, 1)) (cs' := n :: cs) hB' G hlt (by omega) Gw (fun g h => (q1 g h).1) r1 (q2 (by simp)) (fun g h => (q3 g h).1) r2 (q4 (by simp)) r3
          exact this
      | some zg =>
        have hzlo : n2 ≤ zg := Gz.lo zg (by rw [idsL_cS]; exact mem_sl_ids.2 (.inl rfl))
        have hcB : ∀ g ∈ idsL (cCnt ⟨ar, ⟨rid, rT, l⟩, ⟨cid, cT, cs⟩⟩), g < B := fun g hg => hB g (.inr (by rw [Option.getD_some, idsVL_map_d]; exact hg))
        have hlB : ∀ g ∈ (dSl (cS cI) ⟨rid, rT, l⟩).ids, g < B := fun g hg => hcB g (by rw [cCnt, idsL_app, idsL_app, idsL_cS, idsL_cS]; simp [hg])
        have hkB : ∀ g ∈ (dSl cI ⟨cid, cT, cs⟩).ids, g < B := fun g hg => hcB g (by rw [cCnt, idsL_app, idsL_app, idsL_cS, idsL_cS]; simp [hg])
        have kg : ∀ i, i < n2 → kphi (some zg) i = none := fun i hi => by simp only [kphi]; rw [if_neg (by simp; omega)]
        have eC : reV (kphi (some zg)) (.d (.sl cid cT (cs.map cI))) = .d (.sl cid cT (cs.map cI)) := reV_id (.d (dSl cI ⟨cid, cT, cs⟩)) fun g hg => kg g (by have := hkB g hg; omega)
        have eD : ∀ xs : List Int, reV (kphi (some zg)) (.d (.sl cid T0 (xs.map cI))) = .d (.sl cid T0 (xs.map cI)) := fun xs => reV_id (.d (dSl cI ⟨cid, T0, xs⟩)) fun g hg => kg g (by
          have := hkB g (by
            rcases mem_sl_ids.1 hg with h | h
            · exact mem_sl_ids.2 (.inl h)
            · simp at h)
          omega)
        have eR : reLL (kphi (some zg)) ((l.take k).map (cS cI) ++ [D.sl w.id w.T (w.xs.map cI)] :: (l.drop k).map (cS cI)) = some ((l.take k).map (cS cI) ++ [D.sl w.id w.T (w.xs.map cI)] :: (l.drop k).map (cS cI)) := by
          have e : (l.take k).map (cS cI) ++ [D.sl w.id w.T (w.xs.map cI)] :: (l.drop k).map (cS cI) = (l.take k ++ w :: l.drop k).map (cS cI) := by simp [cS, dSl]
          rw [e]
          refine reLL_id _ (ht := tkLL_map _ (by simp)) fun g hg => kg g ?_
          rw [List.map_append, idsLL_append, List.map_cons] at hg
          simp only [idsLL, List.mem_append] at hg
          rcases hg with h | h | h
          · have := hlB g (mem_sl_ids.2 (.inr ((ids_sub (List.take_sublist k l)).subset h))); omega
          · have := hr1 g (by rw [idsL_cS] at h; exact h); omega
          · have := hlB g (mem_sl_ids.2 (.inr ((ids_sub (List.drop_sublist k l)).subset h))); omega
        have f3 : LenOk 8 (zx.length + 1) := ⟨by rw [hzx]; simp; omega, by rw [hzx]; simp only [maxLen, List.length_take]; omega⟩
        have f4 : LenOk 8 (zx.length + 1 + (cs.length - k)) := ⟨by rw [hzx]; simp; omega, by rw [hzx]; simp only [maxLen, List.length_take]; omega⟩
        have hzB : B ≤ zg := by omega
        simp [cI, dSl, hkc, hmc, f1, f2, f3, f4, hzB, St.kill, eC, eD, eR, ← List.map_take, ← List.map_drop, List.take_of_length_le, s73_3, s73_4, ]
        rw [hzx]
        refine ⟨by simp [idsLL, idsL, D.ids], ?_⟩
        simp [vendX]
        refine ⟨[54], fun γ hs' h1 hg => ?_⟩
        obtain ⟨q1, q2⟩ := gam_at hg (k := 29) (T := 23) (sz := 1) (es := (l.take k ++ w :: l.drop k).map (cS cI)) (by simp [cS, dSl])
        obtain ⟨q3, q4⟩ := gam_at hg (k := 60) (T := 3) (sz := 1) (es := (cs.take k ++ n :: cs.drop k).map cI) (by simp [cI])
        have r1 := gam_row hg (k := 29) (T := 23) (sz := 1) (es := (l.take k ++ w :: l.drop k).map (cS cI)) (by simp [cS, dSl])
        have r2 := gam_row2 hg (k := 60) (T := 3) (sz := 1) (es := (cs.take k ++ n :: cs.drop k).map cI) (k2 := 29) (T2 := 23) (sz2 := 1) (es2 := (l.take k ++ w :: l.drop k).map (cS cI)) (by simp [cI]) (by simp [cS, dSl])
        have r3 : ∀ g, γ 29 = some g → γ 60 = some g → False := fun g h h' => by
          have := hg.ne 29 60 (.row 23 1 ((l.take k ++ w :: l.drop k).map (cS cI))) (.row 3 1 ((cs.take k ++ n :: cs.drop k).map cI)) g (by simp [cS, dSl]) (by simp [cI]) h h'
          omega
        clear hg
        have hp1 : ∀ l : List Ints, hpLL (l.map (cS cI)) = false := fun l => hpLL_map (fun a => by simp) _
        have hp2 : ∀ l : List Int, hpLL (l.map cI) = false := fun l => hpLL_map (fun a => by simp) _
        have a1 : k + 1 + (l.length - k) = k + (l.length - k + 1) := by omega
        have a2 : k + 1 + (cs.length - k) = k + (cs.length - k + 1) := by omega
        have p1 : hpLL (List.take k (List.map (cS cI) l)) = false := by rw [← List.map_take]; exact hp1 _
        have p2 : hpLL (List.drop k (List.map (cS cI) l)) = false := by rw [← List.map_drop]; exact hp1 _
        have p3 : hpLL (List.take k (List.map cI cs)) = false := by rw [← List.map_take]; exact hp2 _
        have p4 : hpLL (List.drop k (List.map cI cs)) = false := by rw [← List.map_drop]; exact hp2 _
        simp [p1, p2, p3, p4, hmn, hmc, a1, a2, List.take_of_length_le]
        refine ⟨⟨ar, ⟨γ 29, some (23, 1), l.take k ++ w :: l.drop k⟩, ⟨γ 60, some (3, 1), cs.take k ++ n :: cs.drop k⟩⟩, by simp [cS, dSl, cI], ?_, ⟨trivial, ⟨by simp only [maxLen, List.length_append, List.length_take, List.length_cons, List.length_drop]; omega, fun r hr => by
          rcases List.mem_append.1 hr with h | h
          · exact hc.2.1.2 r (List.mem_of_mem_take h)
          rcases List.mem_cons.1 h with h | h
          · subst h; exact kw
          · exact hc.2.1.2 r (List.mem_of_mem_drop h)⟩, ⟨by simp only [maxLen, List.length_append, List.length_take, List.length_cons, List.length_drop]; omega, fun _ _ => trivial⟩⟩, ?_⟩
        · have pw' : w.xs = row.xs := by simpa [plS, map_plI] using pw
          simp only [plCnt, insR, insC, hb1, ← hkk, Bool.false_eq_true, if_false, PCnt.mk.injEq]
          refine ⟨rfl, ?_, ?_⟩
          · rw [hL]; simp [plS, map_plI, pw']
          · simp [plS, map_plI]
        · intro B' hB' G hlt
          have := tally_good (k := k) (T1 := (23, 1)) (T2 := (3, 1)) (cs' := cs.take k ++ n :: cs.drop k) hB' G hlt (by omega) Gw (fun g h => (q1 g h).1) r1 (q2 (by simp)) (fun g h => (q3 g h).1) r2 (q4 (by simp)) r3
          exact this
  · obtain ⟨hk1, hkx⟩ := placeB_at hb1
    rw [← hkk] at hk1
    have hkc : k < cs.length := by omega
    obtain ⟨g, hg, T', hT⟩ := hw.1.id hkc
    simp only at hg hT
    subst hg hT
    have hvk := hv cs[k] (List.getElem_mem hkc)
    have hw1 : IntKind.i64.wrap (cs[k] + n) = cs[k] + n := wrap64_of (by omega) (by omega)
    simp [hkc, hw1, cI, s73_3, s73_4, ]
    have e2 := re_oneSet (g := g) (T := T') (es := List.map cI cs) (i := k) (e' := [D.int IntKind.i64 (cs[k] + n)]) (fun e he => by
      rw [List.getElem?_map] at he
      simp [hkc] at he
      rw [← he]; rfl)
    have e3 : reV (one g (.sl (some g) (some T') ((List.map cI cs).set k [D.int IntKind.i64 (cs[k] + n)]))) (.d (.sl rid rT (l.map (cS cI)))) = .d (.sl rid rT (l.map (cS cI))) := reV_id (.d (dSl (cS cI) ⟨rid, rT, l⟩)) (fun g' hg' => by
      simp only [one]
      split
      · rename_i h; subst h; exact absurd hg' (hnd2 _ rfl)
      · rfl)
    simp [e2, e3, vendX]
    refine ⟨[21], fun γ hs' h1 h2 => ?_⟩
    simp
    refine ⟨⟨ar, ⟨rid, rT, l⟩, ⟨some g, some T', cs.set k (cs[k] + n)⟩⟩, by simp [List.map_set, cI], ?_, ⟨trivial, hc.2.1, ⟨by have := hc.2.2.1; simpa using this, fun _ _ => trivial⟩⟩, ?_⟩
    · simp only [plCnt, insR, insC, hb1, if_true, ← hkk, getD_el _ hkc, hpl]
      simp [plS, map_plI, plI]
    · intro B' hB' G hlt
      have e : idsL (cCnt ⟨ar, ⟨rid, rT, l⟩, ⟨some g, some T', cs.set k (cs[k] + n)⟩⟩) = idsL (cCnt ⟨ar, ⟨rid, rT, l⟩, ⟨some g, some T', cs⟩⟩) := by
        have hi : ∀ xs : List Int, (dSl cI ⟨some g, some T', xs⟩).ids = [g] := fun xs => by simp [dSl, D.ids]
        simp only [cCnt, idsL_app, idsL_cS, hi]
      have G : Good (cCnt ⟨ar, ⟨rid, rT, l⟩, ⟨some g, some T', cs⟩⟩) (whCnt ⟨ar, ⟨rid, rT, l⟩, ⟨some g, some T', cs⟩⟩) B' := G
      have : Good (cCnt ⟨ar, ⟨rid, rT, l⟩, ⟨some g, some T', cs.set k (cs[k] + n)⟩⟩) (whCnt ⟨ar, ⟨rid, rT, l⟩, ⟨some g, some T', cs.set k (cs[k] + n)⟩⟩) B' :=
        ⟨e ▸ G.nd, e ▸ G.lo, ⟨trivial, G.wh.2.1, ⟨hw.1.of (by simp), fun _ _ => trivial⟩⟩⟩
      exact this

end Go.Proofs.Ytjfehcpompohcaa

namespace Go.Proofs.Ytjfehcpompohcaa
open Go.Vs Go.Proofs Go
set_option maxRecDepth 100000
set_option maxHeartbeats 1000000

theorem t_impl_AddCounted (a b : Cnt) (ha : okCnt a) (hb : okCnt b) : VC Try.prog 41 [.agg ((cCnt a).map V.d), .agg ((cCnt b).map V.d)]
   (fun n r => ∃ y : Cnt, r = .tup [.agg ((cCnt y).map V.d), .d (.bool (addCB (plCnt a) (plCnt b)))] ∧ plCnt y = addCP (plCnt a) (plCnt b) ∧ okCnt y ∧ Good (cCnt y) (whCnt y) n) := by
  refine VC.ofB E s41 (by kernel_rfl) Try.func41 (by rfl) (by kernel_rfl) (by simp [Try.f41]) (by simp [Try.f41]) s41_ok fun B hB => ?_
  have hbB : ∀ g ∈ idsL (cCnt b), g < B := fun g hg => hB g (by simp only [idsVL, V.ids, idsVL_map_d, List.mem_append]; simp [hg])
  have hno : ∀ hB0 : addCB (plCnt a) (plCnt b) = false, ∃ y : Cnt, V.tup [.agg ((cCnt ⟨0, nilS, nilS⟩).map V.d), .d (.bool false)] = .tup [.agg ((cCnt y).map V.d), .d (.bool (addCB (plCnt a) (plCnt b)))] ∧ plCnt y = addCP (plCnt a) (plCnt b) ∧ okCnt y ∧ Good (cCnt y) (whCnt y) B := fun hB0 =>
    ⟨⟨0, nilS, nilS⟩, by rw [hB0], by simp only [addCP, hB0]; rfl, ⟨trivial, ok_nilS, ok_nilS⟩, good_Cnt0 B⟩
  simp only [cCnt, cS, cI, nilS, dSl] at hno
  simp at hno
  simp [Try.f41, cCnt, cS, cI, dSl]
  refine call_f (w_impl_IsValidCounted (plCnt a)) (by simp [eCnt, er_SI, er_I, plCnt, pS, plS, erLL_map er_cI, erLL_map (er_cS er_cI), map_plI]) rfl fun hs0 hh0 => ?_
  simp at hh0
  cases h1 : cntsOk (plCnt a)
  · have hB0 : addCB (plCnt a) (plCnt b) = false := by simp [addCB, h1]
    simp
    exact hno hB0
  simp [dSl]
  refine call_f (w_impl_IsValidCounted (plCnt b)) (by simp [eCnt, er_SI, er_I, plCnt, pS, plS, erLL_map er_cI, erLL_map (er_cS er_cI), map_plI]) rfl fun hs1 hh1 => ?_
  simp at hh1
  cases h2 : cntsOk (plCnt b)
  · have hB0 : addCB (plCnt a) (plCnt b) = false := by simp [addCB, h2]
    simp
    exact hno hB0
  by_cases h3 : a.ar = b.ar
  case neg =>
    have hB0 : addCB (plCnt a) (plCnt b) = false := by simp [addCB, plCnt, plI, h3]
    simp [h3]
    exact hno hB0
  simp [h3, dSl]
  have ea : (⟨b.ar, a.rows, a.cs⟩ : Cnt) = a := by rw [← h3]
  have hlen := rowsOk_len (cntsOk_rows h1)
  have hrow := rowsOk_row (cntsOk_rows h1)
  have hcl := cntsOk_len h1
  have hlenb := rowsOk_len (cntsOk_rows h2)
  have hrowb := rowsOk_row (cntsOk_rows h2)
  have hclb := cntsOk_len h2
  have hcsa := cntsOk_cs h1
  have hcsb := cntsOk_cs h2
  have hsrt := rowsOk_srt (cntsOk_rows h1)
  have hrl : (plCnt b).rows.length = b.rows.xs.length := by simp [plCnt, plS]
  have hcs : (plCnt b).cs = b.cs.xs := by simp [plCnt, plS, map_plI]
  have hclb2 : b.cs.xs.length = b.rows.xs.length := by rw [← hrl, ← hcs]; omega
  have hl1 : a.rows.xs.length ≤ 4000 := by simpa [plS] using hlen
  have hl3 : a.cs.xs.length ≤ 4000 := by have : a.rows.xs.length = a.cs.xs.length := by simpa [plS] using hcl
                                         omega
  have hl2 : ∀ r ∈ a.rows.xs, r.xs.length ≤ 4294967296 := fun r hr => by
    have := hrow (plS plI r) (List.mem_map_of_mem hr)
    simp [plS] at this; omega
  refine call_some (w_impl_copyCounted ⟨b.ar, a.rows, a.cs⟩ ⟨trivial, ha.2⟩ (by show a.rows.xs.length ≤ _; omega) hl2 (by show a.cs.xs.length ≤ _; omega)) (by simp [cCnt, cS, cI, dSl]) (by simp) fun n2 hs2 r2 hn2 hm2 hp2 hr2 => ?_
  obtain ⟨y0, rfl, p0, k0, G0⟩ := hp2
  rw [ea] at p0
  have u0 : ∀ g ∈ idsL (cCnt y0), g < hs2 := fun g hg => hr2 g (by rw [ids_agg]; exact hg)
  simp at hn2
  clear hr2
  simp [cCnt, cS, cI, dSl]
  refine loop_ruleL (X := Nat × Cnt) (TalI (plCnt a) (plCnt b) B) (fun p => [(3, .ptr 3 0 0), (4, .ptr 4 0 0), (6, .ptr 6 0 0), (29, .d (.sl b.rows.id b.rows.T (b.rows.xs.map (cS cI)))), (30, .d (.int .i64 b.rows.xs.length)), (31, .d (.int .i64 p.1))])
    (fun p => [(3, some (.box [.d (.int .i64 b.ar), .d (.sl b.rows.id b.rows.T (b.rows.xs.map (cS cI))), .d (.sl b.cs.id b.cs.T (b.cs.xs.map cI))])), (4, some (.box [.d (.int .i64 0), .d (.sl none none []), .d (.sl none none [])])),
      (6, some (.box [.d (.int .i64 p.2.ar), .d (.sl p.2.rows.id p.2.rows.T (p.2.rows.xs.map (cS cI))), .d (.sl p.2.cs.id p.2.cs.T (p.2.cs.xs.map cI))]))]) (fun p => b.rows.xs.length - p.1) ?_ ?_
  · refine Lead.of ⟨(0, y0), ⟨by simp, ?_, ?_, ?_, k0, G0.le (by omega), u0⟩, rfl, rfl, Nat.le_refl _, by simp, by simp⟩
    · exact congrArg PCnt.ar p0
    · simp only [List.take_zero, List.foldl_nil]; exact congrArg PCnt.rows p0
    · simp only [List.take_zero, talC]; exact congrArg PCnt.cs p0
  rintro ⟨i, y⟩ hs t m hI hh
  have hi := hI.le
  simp only [hrl] at hi
  obtain ⟨b1, b2, b3⟩ := hI.bd hsrt (by omega) (by omega) hlen hlenb hcsa hcsb
  simp only at b1 b2 b3
  by_cases hlt : i < b.rows.xs.length
  · have hltc : i < b.cs.xs.length := by omega
    have hwi := wr1 (i := i) (by omega)
    have hbr : ∀ g ∈ (dSl (cS cI) b.rows).ids, g < B := fun g hg => hbB g (by rw [cCnt, idsL_app, idsL_app, idsL_cS, idsL_cS]; simp [hg])
    have hbc : ∀ g ∈ (dSl cI b.cs).ids, g < B := fun g hg => hbB g (by rw [cCnt, idsL_app, idsL_app, idsL_cS, idsL_cS]; simp [hg])
    have hyc : ∀ g ∈ (dSl cI y.cs).ids, B ≤ g := fun g hg => hI.good.lo g (by rw [cCnt, idsL_app, idsL_app, idsL_cS, idsL_cS]; simp [hg])
    have hcb := hcsb b.cs.xs[i] (by rw [hcs]; exact List.getElem_mem hltc)
    have hT := t_impl_tally y b.rows.xs[i] b.cs.xs[i] hI.ok (hb.2.1.2 _ (List.getElem_mem hlt)) hI.good.wh.2.2 hI.good.nd (by omega) b2 (by
      have := hrowb (plS plI b.rows.xs[i]) (List.mem_map_of_mem (List.getElem_mem hlt))
      simp [plS] at this; omega) hcb b3
    obtain ⟨W, hW⟩ : ∃ W, W = (dSl cI y.cs).ids := ⟨_, rfl⟩
    rw [← hW] at hT hyc
    have eW : ∀ (ws : List D) g, g < B → phi W ws g = none := fun ws g hg => by
      simp only [phi]; rw [if_neg]; intro h; have := hyc g h; omega
    have e1 : ∀ ws, reV (phi W ws) (.d (.sl b.rows.id b.rows.T (b.rows.xs.map (cS cI)))) = .d (.sl b.rows.id b.rows.T (b.rows.xs.map (cS cI))) := fun ws => reV_id (.d (dSl (cS cI) b.rows)) fun g hg => eW ws g (hbr g hg)
    have e2 : ∀ ws, reV (phi W ws) (.d (.sl b.cs.id b.cs.T (b.cs.xs.map cI))) = .d (.sl b.cs.id b.cs.T (b.cs.xs.map cI)) := fun ws => reV_id (.d (dSl cI b.cs)) fun g hg => eW ws g (hbc g hg)
    refine anyQ2 fun Q => ?_
    simp [hlt, hltc, cS, cI, dSl]
    refine call_b (k := 6) (E73) (by simp [dSl]) (by simp [cCnt, cS, cI, dSl]) (by simp) (by simp [cCnt, cS, cI, dSl]) (by simp) (by simp [cCnt, cS, cI, dSl]) (fun g hg => .inl (hyc g hg)) hT fun n3 hs3 r3 cs3 ws3 hn3 hm3 hp3 hr3 hv3 hw3 => ?_
    obtain ⟨rfl, z, rfl, pz, kz, _, Gz⟩ := hp3
    simp at hn3
    have u3 : ∀ g ∈ idsL (cCnt z), g < hs3 := fun g hg => hv3 g (by rw [idsVL_map_d]; exact hg)
    simp [cCnt, cS, cI, dSl, hwi, e1, e2]
    refine back2 (i + 1, z) (hI.step (m := n3) (by omega) (by omega) (by rw [hcs]; omega) ?_ kz (by omega) (by omega) Gz u3) (by simp only; omega) rfl (by simp <;> omega) (by simp) (by simp [e1, e2])
    rw [pz]
    simp [plCnt, plS, map_plI]
  · obtain ⟨f1, f2⟩ := hI.fin (by omega) hsrt (by omega) (by omega)
    have har : y.ar = a.ar := hI.ar
    have Gr : Good (cS (cS cI) y.rows) (whS (whS whI) y.rows) B := by
      have h1 := hI.good.nd
      rw [cCnt, idsL_app, idsL_app] at h1
      exact ⟨(List.nodup_append.1 (List.nodup_append.1 h1).1).2.1, fun g hg => hI.good.lo g (by rw [cCnt, idsL_app, idsL_app]; simp [hg]), hI.good.wh.2.1⟩
    simp [hlt, cS, cI, dSl]
    refine call_some (t_impl_settled y hI.ok (by omega) b2) (by simp [cCnt, cS, cI, dSl]) (by simp) fun n4 hs4 r4 hn4 hm4 hp4 hr4 => ?_
    obtain ⟨z, rfl, pz, kz, Gz⟩ := hp4
    simp at hn4
    clear hr4
    have pz' : plCnt z = sumOf (plCnt a).ar ((plCnt a).rows ++ (plCnt b).rows) ((plCnt a).cs ++ (plCnt b).cs) := by
      rw [pz, f1, f2, sumOf, har]; rfl
    have hyl : (srtU ((plCnt a).rows ++ (plCnt b).rows)).length = y.rows.xs.length := by rw [← f1]; simp [plCnt, plS]
    have hadd : addCB (plCnt a) (plCnt b) = (decide (y.rows.xs.length ≤ 4000) && cntsOk (plCnt z)) := by
      have h3' : (plCnt a).ar = (plCnt b).ar := h3
      rw [pz', addCB, h1, h2, sumB, hyl, decide_eq_true h3']; simp only [Bool.true_and]
    by_cases h4 : (y.rows.xs.length : Int) ≤ 4000
    case neg =>
      have hB0 : addCB (plCnt a) (plCnt b) = false := by rw [hadd]; simp; intro h; omega
      have h4' : (4000 : Int) < y.rows.xs.length := by omega
      simp [cCnt, cS, cI, dSl, h4, h4']
      exact hno hB0
    have h4' : ¬ (4000 : Int) < y.rows.xs.length := by omega
    simp [cCnt, cS, cI, dSl, h4, h4']
    refine call_f (w_impl_IsValidCounted (plCnt z)) (by simp [eCnt, er_SI, er_I, plCnt, pS, plS, erLL_map er_cI, erLL_map (er_cS er_cI), map_plI]) rfl fun hs5 hh5 => ?_
    simp at hh5
    cases h5 : cntsOk (plCnt z)
    · have hB0 : addCB (plCnt a) (plCnt b) = false := by rw [hadd, h5, Bool.and_false]
      simp
      exact hno hB0
    have hB1 : addCB (plCnt a) (plCnt b) = true := by rw [hadd, h5, Bool.and_true]; simp; omega
    simp
    refine ⟨z, by simp [cCnt, cS, cI, dSl, hB1], by rw [pz', addCP, hB1]; rfl, kz, Gz B (by omega) Gr⟩

end Go.Proofs.Ytjfehcpompohcaa

namespace Go.Proofs.Ytjfehcpompohcaa
open Go.Vs Go.Proofs Go
set_option maxRecDepth 100000
set_option maxHeartbeats 1000000

theorem w_impl_columnsFit (ar : Int) (cols : List Int) : VC Try.prog 76 [.d (.int .i64 ar), .d (pS cI cols)] (fun _ v => v = .d (.bool (colsOk ar cols))) := by
  refine VC.ofL EP s76 (by kernel_rfl) Try.func76 (by rfl) (by kernel_rfl) (by simp [Try.f76]) (by simp [Try.f76]) s76_ok fun B hl => ?_
  by_cases h5 : cols.length ≤ 5
  case neg => simp [Try.f76, colsOk, h5, show (5 : Int) < cols.length by omega]
  simp [Try.f76, show ¬ (5 : Int) < cols.length by omega]
  refine loop_rule (X := Nat) (fun i => i ≤ cols.length ∧ AllTo (fun c => inR c 0 (IntKind.i64.wrap (ar - 1))) cols i) (fun i => [(0, .d (.int .i64 ar)), (10, .d (.pl (cols.map cI))), (11, .d (.int .i64 cols.length)), (12, .d (.int .i64 i))])
    (fun _ => []) (fun i => cols.length - i) 0 ⟨by simp, allTo_zero⟩ (by simp) (by simp) ?_
  intro i hs t m hi hh
  by_cases hlt : i < cols.length
  · have hwi := wr1 (i := i) (by omega)
    simp [hlt, cI, ]
    refine call_f (w_impl_within cols[i] 0 (IntKind.i64.wrap (ar - 1))) (by simp) rfl fun hs1 hh1 => ?_
    simp at hh1
    cases hv : inR cols[i] 0 (IntKind.i64.wrap (ar - 1))
    · have hbad := all_bad (p := fun c => inR c 0 (IntKind.i64.wrap (ar - 1))) hlt hv
      simp [colsOk, hbad]
    · simp [hwi]
      exact back (i + 1) ⟨by omega, allTo_step hi.2 hlt hv⟩ (by omega) rfl (by simp <;> omega) (by simp) (by simp)
  have hd := allTo_done hi.2 (by omega)
  simp [hlt, colsOk, hd, h5]
theorem t_impl_pick (row cols : Ints) (hb : cols.xs.length ≤ 4294967296) (hc : ∀ c ∈ cols.xs, 0 ≤ c ∧ c < row.xs.length) : VC Try.prog 77 [.d (dSl cI row), .d (dSl cI cols)]
   (fun n r => ∃ y : Ints, r = .d (dSl cI y) ∧ y.xs = pickR cols.xs row.xs ∧ okS okI y ∧ Good (cS cI y) (whS whI y) n) := by
  refine VC.of E s77 (by kernel_rfl) Try.func77 (by rfl) (by kernel_rfl) (by simp [Try.f77]) (by simp [Try.f77]) s77_ok fun B => ?_
  simp [Try.f77, dSl]
  refine loop_rule (X := Nat) (fun i => i ≤ cols.xs.length) (fun i => [(0, .d (.sl row.id row.T (row.xs.map cI))), (5, .own 8 0 i), (9, .d (.sl cols.id cols.T (cols.xs.map cI))), (10, .d (.int .i64 cols.xs.length)), (11, .d (.int .i64 i))])
    (fun i => [(8, some (.row 3 1 ((pickR (cols.xs.take i) row.xs).map cI)))]) (fun i => cols.xs.length - i) 0 (by simp) (by simp) (by simp [pickR]) ?_
  intro i hs t m hi hh
  by_cases hlt : i < cols.xs.length
  · have hwi := wr1 (i := i) (by omega)
    have h1 := hc _ (List.getElem_mem hlt)
    have hst := pickR_step hlt hc
    obtain ⟨k, hk⟩ : ∃ k : Nat, cols.xs[i] = (k : Int) := ⟨cols.xs[i].toNat, by omega⟩
    have hkl : k < row.xs.length := by omega
    have hL : LenOk 8 (i + 1) := ⟨by omega, by simp only [maxLen]; omega⟩
    have hpl : (pickR (cols.xs.take i) row.xs).length = i := by rw [pickR_len, List.length_take]; omega
    simp only [hk, Int.toNat_natCast] at hst
    simp [hlt, hk, hkl, hL, hwi, hpl, cI, ]
    exact back (i + 1) (by omega) (by omega) rfl (by simp <;> omega) (by simp) (by simp [hst, cI])
  · have hn : i = cols.xs.length := by omega
    subst hn
    simp [List.take_of_length_le, pickR_len]
    intro γ hs' h2 hg
    obtain ⟨q1, q2⟩ := gam_at hg (k := 8) (T := 3) (sz := 1) (es := (pickR cols.xs row.xs).map cI) (by simp)
    have r1 := gam_row hg (k := 8) (T := 3) (sz := 1) (es := (pickR cols.xs row.xs).map cI) (by simp)
    clear hg
    refine ⟨⟨γ 8, some (3, 1), pickR cols.xs row.xs⟩, by simp [List.take_of_length_le, pickR_len], rfl, ⟨by simp only [maxLen, pickR_len]; omega, fun _ _ => trivial⟩, good_row (fun g hg => (q1 g hg).1) (by simpa using q2) r1 ⟨by simp, by simp⟩ (by simp [whI])⟩

end Go.Proofs.Ytjfehcpompohcaa
